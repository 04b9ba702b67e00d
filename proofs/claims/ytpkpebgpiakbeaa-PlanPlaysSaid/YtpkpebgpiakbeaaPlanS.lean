/-
  The document's example; what is made.
-/
import Derived.Test.YtpkpebgpiakbeaaPlanK
namespace Go.Proofs.Ytpkpebgpiakbeaa
set_option linter.unusedVariables false
set_option linter.unusedSimpArgs false
open Go.Proofs.Ytpkpebgpiakbeaa.Hc Go.Proofs.Ytpkpebgpiakbeaa.Hc.Plan
set_option maxRecDepth 100000

theorem s_made18 {s : Sl} {L : List PSys} {H0 H : Heap} (hs : LawL H0 s L) (hE : Ext H0 H) {k : Option Addr → Heap → Prop}
    (hk : ∀ p H', PlAt H' p (cutL L) → H.size ≤ p → Ext H H' → k (some (adr p)) H') :
    CallT Pg f_hindcastlaw18_made [.slice s.a s.len s.cap] (.one (.c .ptr)) H k := by
  apply c_hindcastlaw18_made
  unfold v_hindcastlaw18_made
  exact s_given hs hE hk

abbrev l0 : List PSys := [([], [1]), ([1], [2]), ([], [3]), ([3, 2], [])]
theorem o_yes : orderF l0 [1, 0, 0, 0] = some [2, 0, 1, 3] := by decide +kernel
theorem o_no : orderF l0 [2, 0, 0, 0] = none := by decide +kernel
theorem rowRI {H : Heap} {b : Nat} {T : TypeId} {xs : List Int} (h : Row H b T (ints xs)) {n : Nat} (hn : n = xs.length) : RI H ⟨some (adr b), n, n⟩ xs := ⟨h.rd_all, hn, Nat.le_refl _⟩
theorem s_shown18 {H : Heap} {k : Bool → Heap → Prop} (hk : ∀ H', Ext H H' → k true H') : CallT Pg f_hindcastlaw18_shown [] (.one (.c .bool)) H k := by
  apply c_hindcastlaw18_shown
  unfold v_hindcastlaw18_shown
  refine Nw_row (vs := ints [1]) fun b1 H1 hb1 hE1 _ hr1 => ?_
  refine Nw_row (vs := ints [1]) fun b2 H2 hb2 hE2 _ hr2 => ?_
  have hr1 := hE2.row hr1 fun h => h
  refine Nw_row (vs := ints [2]) fun b3 H3 hb3 hE3 _ hr3 => ?_
  have hr1 := hE3.row hr1 fun h => h
  have hr2 := hE3.row hr2 fun h => h
  refine Nw_row (vs := ints [3]) fun b4 H4 hb4 hE4 _ hr4 => ?_
  have hr1 := hE4.row hr1 fun h => h
  have hr2 := hE4.row hr2 fun h => h
  have hr3 := hE4.row hr3 fun h => h
  refine Nw_row (vs := ints [3, 2]) fun b5 H5 hb5 hE5 _ hr5 => ?_
  have hr1 := hE5.row hr1 fun h => h
  have hr2 := hE5.row hr2 fun h => h
  have hr3 := hE5.row hr3 fun h => h
  have hr4 := hE5.row hr4 fun h => h
  obtain ⟨cs, hcs⟩ : ∃ cs : List SysC, cs = [(nilS, nilS, nilS, ⟨some (adr b1), 1, 1⟩, ByteArray.empty, 0, 0, nilS), (nilS, nilS, ⟨some (adr b2), 1, 1⟩, ⟨some (adr b3), 1, 1⟩, ByteArray.empty, 0, 0, nilS),
    (nilS, nilS, nilS, ⟨some (adr b4), 1, 1⟩, ByteArray.empty, 0, 0, nilS), (nilS, nilS, ⟨some (adr b5), 2, 2⟩, nilS, ByteArray.empty, 0, 0, nilS)] := ⟨_, rfl⟩
  refine Nw_row (vs := [(nilS, nilS, nilS, ⟨some (adr b1), 1, 1⟩, ByteArray.empty, 0, 0, nilS), (nilS, nilS, ⟨some (adr b2), 1, 1⟩, ⟨some (adr b3), 1, 1⟩, ByteArray.empty, 0, 0, nilS),
    (nilS, nilS, nilS, ⟨some (adr b4), 1, 1⟩, ByteArray.empty, 0, 0, nilS), (nilS, nilS, ⟨some (adr b5), 2, 2⟩, nilS, ByteArray.empty, 0, 0, nilS)].flatMap sysC) fun b6 H6 hb6 hE6 _ hr6 => ?_
  rw [← hcs] at hr6
  have r1 := rowRI (hE6.row hr1 fun h => h) (n := 1) rfl
  have r2 := rowRI (hE6.row hr2 fun h => h) (n := 1) rfl
  have r3 := rowRI (hE6.row hr3 fun h => h) (n := 1) rfl
  have r4 := rowRI (hE6.row hr4 fun h => h) (n := 1) rfl
  have r5 := rowRI (hE6.row hr5 fun h => h) (n := 2) rfl
  have hE06 := ((((hE1.ext hE2).ext hE3).ext hE4).ext hE5).ext hE6
  have hsys : SysL H6 ⟨some (adr b6), 4, 4⟩ l0 := by
    refine ⟨rfl, fun i hi => ?_⟩
    have hrn : RN sysC 8 H6 ⟨some (adr b6), 4, 4⟩ cs := ⟨hr6.rd_all, by rw [hcs]; rfl, Nat.le_refl _⟩
    have hi2 : i < cs.length := by rw [hcs]; exact hi
    obtain ⟨a, ha, hc⟩ := hrn.el sysC_len (fun a ha => by cases ha; rfl) (by omega) hi2
    refine ⟨a, ha, _, hc, ?_⟩
    have n0 : RI H6 nilS [] := RL.nil _ _
    have : i = 0 ∨ i = 1 ∨ i = 2 ∨ i = 3 := by simp at hi; omega
    subst hcs
    rcases this with rfl | rfl | rfl | rfl
    · exact ⟨n0, r1, by simp, by simp⟩
    · exact ⟨r2, r3, by simp, by simp⟩
    · exact ⟨n0, r4, by simp, by simp⟩
    · exact ⟨r5, n0, by simp, by simp⟩
  refine s_plan_New hsys (by decide) fun p H7 hloc hp hE7 => ?_
  have hp7 := hloc.at
  rw [Option.isNone_some, Br_false]
  refine Nw_row (vs := ints [1, 0, 0, 0]) fun b7 H8 _ hE8 _ hr8 => ?_
  have hp8 := hp7.ext hE8
  have hE08 := (hE06.ext hE7).ext hE8
  refine s_Order (x := ⟨some (adr b7), 4, 4⟩) hp8 (by decide) (rowRI hr8 rfl) (by decide) (fun o s9 H9 ho hv9 _ hE9 => ?_) fun _ ho => by rw [o_yes] at ho; cases ho
  rw [o_yes] at ho
  cases ho
  have hp9 := hp8.ext hE9
  refine Nw_row (vs := ints [2, 0, 0, 0]) fun b8 H10 _ hE10 _ hr10 => ?_
  have hp10 := hp9.ext hE10
  refine s_Order (x := ⟨some (adr b8), 4, 4⟩) hp10 (by decide) (rowRI hr10 rfl) (by decide) (fun o s9 H9 ho => by rw [o_no] at ho; cases ho) fun H11 _ hE11 => ?_
  have hp11 := hp10.ext hE11
  refine s_Conflict hp11 ?_
  refine s_Conflict hp11 ?_
  refine Nw_row (vs := ints [0, 1, 2, 3]) fun b9 H14 _ hE14 _ hr14 => ?_
  have hp14 := hp11.ext hE14
  refine s_Legal (x := ⟨some (adr b9), 4, 4⟩) hp14 (by decide) (rowRI hr14 rfl) (by decide) fun H15 hE15 => ?_
  have hp15 := hp14.ext hE15
  refine Nw_row (vs := ints [1, 0, 2, 3]) fun b10 H16 _ hE16 _ hr16 => ?_
  have hp16 := hp15.ext hE16
  refine s_Legal (x := ⟨some (adr b10), 4, 4⟩) hp16 (by decide) (rowRI hr16 rfl) (by decide) fun H17 hE17 => ?_
  have hp17 := hp16.ext hE17
  have up9 : Ext H9 H17 := ((((hE10.ext hE11).ext hE14).ext hE15).ext hE16).ext hE17
  have hv17 := (hv9.ext up9).rl (f := Value.int .i64)
  have hE017 := (hE08.ext hE9).ext up9
  have hl9 := hv9.len
  refine Jn.mk (fun b H' => b = true ∧ Ext H H') (fun kk hkk => ?_) (fun b H' ⟨h1, h2⟩ => by subst h1; exact hk H' h2)
  dsimp only
  rw [show ((0 : Int) == 0) = true from rfl, Br_true, show ((180 : Int) == 180) = true from rfl, Br_true, show ((s9.len : Int) == 4) = true by rw [hl9]; rfl, Br_true]
  refine IxA_rl hv17 (j := 0) rfl (by decide) fun a1 h1 => ?_
  refine Ld_int h1 ?_
  rw [show (([2, 0, 1, 3] : List Int)[0] == 2) = true from rfl, Br_true]
  refine IxA_rl hv17 (j := 1) rfl (by decide) fun a2 h2 => ?_
  refine Ld_int h2 ?_
  rw [show (([2, 0, 1, 3] : List Int)[1] == 0) = true from rfl, Br_true]
  refine IxA_rl hv17 (j := 2) rfl (by decide) fun a3 h3 => ?_
  refine Ld_int h3 ?_
  rw [show (([2, 0, 1, 3] : List Int)[2] == 1) = true from rfl, Br_true]
  refine IxA_rl hv17 (j := 3) rfl (by decide) fun a4 h4 => ?_
  refine Ld_int h4 ?_
  rw [show (([2, 0, 1, 3] : List Int)[3] == 3) = true from rfl, Br_true]
  rw [show (decide (0 ≤ (0 : Int) ∧ (0 : Int) < (l0.length : Int)) && decide (0 ≤ (1 : Int) ∧ (1 : Int) < (l0.length : Int)) && confF l0 (0 : Int).toNat (1 : Int).toNat) = true by decide +kernel, Br_true]
  rw [show (!(decide (0 ≤ (0 : Int) ∧ (0 : Int) < (l0.length : Int)) && decide (0 ≤ (2 : Int) ∧ (2 : Int) < (l0.length : Int)) && confF l0 (0 : Int).toNat (2 : Int).toNat)) = true by decide +kernel, Br_true]
  rw [show legalF l0 [0, 1, 2, 3] = true by decide +kernel, Br_true, show (!legalF l0 [1, 0, 2, 3]) = true by decide +kernel, Br_true]
  refine s_Stages hp17 (by decide) fun s19 ts H19 hL19 hE19 => ?_
  have h1 := hL19.v.len
  have h2 := hL19.len
  simp only [List.length_map] at h1
  rw [h1, h2]
  exact hkk _ _ ⟨by decide +kernel, hE017.ext hE19⟩
end Go.Proofs.Ytpkpebgpiakbeaa
