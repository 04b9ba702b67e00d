/-
  Contracts of plan: who touches whom; New.
-/
import Derived.Test.YtpkpebgpiakbeaaVPlan
import Derived.Test.YtpkpebgpiakbeaaHcLists
import Derived.Test.YtpkpebgpiakbeaaHcPlanMath
import Derived.Test.YtpkpebgpiakbeaaHcPick
namespace Go.Proofs.Ytpkpebgpiakbeaa
set_option linter.unusedVariables false
set_option linter.unusedSimpArgs false
open Go.Proofs.Ytpkpebgpiakbeaa.Hc Go.Proofs.Ytpkpebgpiakbeaa.Hc.Plan
set_option maxRecDepth 100000

theorem s_Index {s : Sl} {xs : List Int} {v : Int} {H : Heap} {k : Int → Heap → Prop} (hs : RI H s xs) (hl : xs.length < 2 ^ 62) (hk : ∀ i : Int, decide (i ≥ 0) = xs.contains v → k i H) :
    CallT Pg f_slices_Index_Sl_int_int [.slice s.a s.len s.cap, .int .i64 v] (.one (.c (.int .i64))) H k := by
  apply c_slices_Index_Sl_int_int
  unfold v_slices_Index_Sl_int_int
  have hsl := hs.len
  refine LoopT.mk (fun i H' => H = H' ∧ ∃ j : Nat, i = j ∧ j ≤ xs.length ∧ v ∉ xs.take j) (fun i _ => (xs.length - i).toNat) ⟨rfl, 0, rfl, by omega, by simp⟩ ?_
  rintro next _ _ ⟨rfl, j, rfl, hj, hn⟩ hnext
  refine Br_dec (fun hlt => ?_) fun hge => ?_
  · have hj1 : j < xs.length := by omega
    refine IxA_rl hs rfl hj1 fun a ha => ?_
    refine Ld_int ha ?_
    refine Br.mk (fun h => hk j ?_) fun h => ?_
    · have hv : v = xs[j] := by simpa using h
      rw [decide_eq_true (by omega), hv]; simp
    · have hv : v ≠ xs[j] := by simpa using h
      rw [Lt_def, wrap_i64_id (by omega) (by omega)]
      refine hnext _ _ ⟨rfl, j + 1, by omega, by omega, ?_⟩ (by omega)
      rw [List.take_add_one, List.getElem?_eq_getElem hj1]
      simp only [Option.toList_some, List.mem_append, List.mem_singleton, not_or]
      exact ⟨hn, hv⟩
  · refine hk (-1) ?_
    rw [List.take_of_length_le (by omega)] at hn
    simp [hn]
theorem s_Contains {s : Sl} {xs : List Int} {v : Int} {H : Heap} {k : Bool → Heap → Prop} (hs : RI H s xs) (hl : xs.length < 2 ^ 62) (hk : k (xs.contains v) H) :
    CallT Pg f_slices_Contains_Sl_int_int [.slice s.a s.len s.cap, .int .i64 v] (.one (.c .bool)) H k := by
  apply c_slices_Contains_Sl_int_int
  unfold v_slices_Contains_Sl_int_int
  refine s_Index hs hl fun i hi => ?_
  rw [hi]; exact hk
theorem s_meet {s t : Sl} {xs ys : List Int} {H : Heap} {k : Bool → Heap → Prop} (hs : RI H s xs) (ht : RI H t ys) (hl : xs.length < 2 ^ 62) (hl' : ys.length < 2 ^ 62) (hk : ∀ H', Ext H H' → k (meetF xs ys) H') :
    CallT Pg f_plan_meet [.slice s.a s.len s.cap, .slice t.a t.len t.cap] (.one (.c .bool)) H k := by
  apply c_plan_meet
  unfold v_plan_meet
  refine Nw_row fun b H1 hb hE1 _ hr1 => ?_
  have hs1 := hs.ext hE1
  have ht1 := ht.ext hE1
  have hsl := hs.len
  apply c_slices_ContainsFunc_Sl_int_int__planmeet1
  unfold v_slices_ContainsFunc_Sl_int_int__planmeet1
  apply c_slices_IndexFunc_Sl_int_int__planmeet1
  unfold v_slices_IndexFunc_Sl_int_int__planmeet1
  refine LoopT.mk (fun i H' => H1 = H' ∧ ∃ j : Nat, i = j ∧ j ≤ xs.length ∧ ∀ x ∈ xs.take j, ys.contains x = false) (fun i _ => (xs.length - i).toNat) ⟨rfl, 0, rfl, by omega, by simp⟩ ?_
  rintro next _ _ ⟨rfl, j, rfl, hj, hn⟩ hnext
  refine Br_dec (fun hlt => ?_) fun hge => ?_
  · have hj1 : j < xs.length := by omega
    refine IxA_rl hs1 rfl hj1 fun a ha => ?_
    refine Ld_int ha ?_
    apply c_plan_meet_1
    unfold v_plan_meet_1
    refine Ld_sl ((hr1.cell 0).trans rfl) ?_
    refine s_Contains ht1 hl' ?_
    refine Br.mk (fun h => ?_) fun h => ?_
    · show k (decide ((j : Int) ≥ 0)) H1
      rw [decide_eq_true (by omega : (j : Int) ≥ 0)]
      have : meetF xs ys = true := List.any_eq_true.2 ⟨xs[j], List.getElem_mem hj1, h⟩
      rw [← this]; exact hk _ hE1
    · rw [Lt_def, wrap_i64_id (by omega) (by omega)]
      refine hnext _ _ ⟨rfl, j + 1, by omega, by omega, ?_⟩ (by omega)
      rw [List.take_add_one, List.getElem?_eq_getElem hj1]
      intro x hx
      rcases List.mem_append.1 hx with hx | hx
      · exact hn x hx
      · simp only [Option.toList_some, List.mem_singleton] at hx; subst hx; exact h
  · rw [List.take_of_length_le (by omega)] at hn
    have : meetF xs ys = false := by
      rw [Bool.eq_false_iff]; intro h
      obtain ⟨x, h1, h2⟩ := List.any_eq_true.1 h
      rw [hn x h1] at h2; cases h2
    show k (decide ((-1 : Int) ≥ 0)) H1
    rw [show decide ((-1 : Int) ≥ 0) = false from rfl, ← this]
    exact hk _ hE1

/-- A system's cells. -/
abbrev SysC := Sl × Sl × Sl × Sl × ByteArray × Int × Int × Sl
def sysC (c : SysC) : List Value := [slV c.1, slV c.2.1, slV c.2.2.1, slV c.2.2.2.1, .string c.2.2.2.2.1, .int .i64 c.2.2.2.2.2.1, .int .i64 c.2.2.2.2.2.2.1, slV c.2.2.2.2.2.2.2]
/-- What counts of them. -/
def SysAt (H : Heap) (c : SysC) (x : PSys) : Prop := RI H c.2.2.1 x.1 ∧ RI H c.2.2.2.1 x.2 ∧ x.1.length ≤ 1000 ∧ x.2.length ≤ 1000
theorem SysAt.ext {H H' : Heap} (hu : Ext H H') {c : SysC} {x : PSys} (h : SysAt H c x) : SysAt H' c x := ⟨h.1.ext hu, h.2.1.ext hu, h.2.2⟩
theorem s_touch {a b : SysC} {x y : PSys} {H : Heap} {k : Bool → Heap → Prop} (ha : SysAt H a x) (hb : SysAt H b y) (hk : ∀ H', Ext H H' → k (touchF x y) H') :
    CallT Pg f_plan_touch [.agg ⟨sysC a⟩, .agg ⟨sysC b⟩] (.one (.c .bool)) H k := by
  apply c_plan_touch a b
  unfold v_plan_touch
  refine Nw_row (vs := sysC a) fun b1 H1 hb1 hE1 _ hr1 => ?_
  refine Nw_row (vs := sysC b) fun b2 H2 hb2 hE2 _ hr2 => ?_
  have hr1 := hE2.row hr1 fun h => h
  have hE2' := hE1.ext hE2
  have ha2 := ha.ext hE2'
  have hb2 := hb.ext hE2'
  refine Jn.mk (fun r H' => r = touchF x y ∧ Ext H H') (fun kk hkk => ?_) (fun r H' ⟨h1, h2⟩ => by subst h1; exact hk H' h2)
  simp only [adr_add]
  refine Ld_sl (s := a.2.2.2.1) ((hr1.cell 3).trans rfl) ?_
  refine Ld_sl (s := b.2.2.1) ((hr2.cell 2).trans rfl) ?_
  refine s_meet ha2.2.1 hb2.1 (by have := ha2.2.2; omega) (by have := hb2.2.2; omega) fun H4 hE4 => ?_
  refine Br.mk (fun h => hkk _ _ ⟨by simp [touchF, h], hE2'.ext hE4⟩) fun h => ?_
  refine Ld_sl (s := a.2.2.2.1) (((hE4.row hr1 fun h => h).cell 3).trans rfl) ?_
  refine Ld_sl (s := b.2.2.2.1) (((hE4.row hr2 fun h => h).cell 3).trans rfl) ?_
  refine s_meet (ha2.ext hE4).2.1 (hb2.ext hE4).2.1 (by have := ha2.2.2; omega) (by have := hb2.2.2; omega) fun H5 hE5 => ?_
  exact hkk _ _ ⟨by simp [touchF, h], (hE2'.ext hE4).ext hE5⟩

/-- A slice of systems reads as this list. -/
def SysL (H : Heap) (s : Sl) (l : List PSys) : Prop := s.len = l.length ∧ ∀ i (h : i < l.length), ∃ a, s.a = some a ∧ ∃ c : SysC, hcells H (a.add (i * 8)) 0 (sysC c) ∧ SysAt H c l[i]
theorem SysL.ext {H H' : Heap} (hu : Ext H H') {s : Sl} {l : List PSys} (h : SysL H s l) : SysL H' s l :=
  ⟨h.1, fun i hi => let ⟨a, h1, c, h2, h3⟩ := h.2 i hi; ⟨a, h1, c, hcells_upd hu (fun h => h) h2, h3.ext hu⟩⟩
theorem SysL.ix {H : Heap} {s : Sl} {l : List PSys} (h : SysL H s l) {i : Int} {j : Nat} (hj : i = j) (hl : j < l.length) {k : Addr → Prop} (hk : ∀ a (c : SysC), hcells H a 0 (sysC c) → SysAt H c l[j] → k a) : IxA 8 s i k := by
  obtain ⟨a, h1, c, h2, h3⟩ := h.2 j hl
  subst hj
  refine IxA.mk h1 (by omega) (by have := h.1; omega) ?_
  rw [Int.toNat_natCast]
  exact hk _ c h2 h3
/-- A system put into a box. -/
theorem Box8 {c : SysC} {z : Array Value} {H : Heap} {k : Nat → Heap → Prop} (hz : z = ⟨sysC (⟨none, 0, 0⟩, ⟨none, 0, 0⟩, ⟨none, 0, 0⟩, ⟨none, 0, 0⟩, ByteArray.empty, 0, 0, ⟨none, 0, 0⟩)⟩)
    (hk : ∀ b H', b = H.size → Ext H H' → H'.size = H.size + 1 → Row H' b T_api_System (sysC c) → k b H') :
    Nw z T_api_System H fun b2 H4 =>
        St ((adr b2).add 0) (.slice c.1.a c.1.len c.1.cap) H4 fun H5 =>
        St ((adr b2).add 1) (.slice c.2.1.a c.2.1.len c.2.1.cap) H5 fun H6 =>
        St ((adr b2).add 2) (.slice c.2.2.1.a c.2.2.1.len c.2.2.1.cap) H6 fun H7 =>
        St ((adr b2).add 3) (.slice c.2.2.2.1.a c.2.2.2.1.len c.2.2.2.1.cap) H7 fun H8 =>
        St ((adr b2).add 4) (.string c.2.2.2.2.1) H8 fun H9 =>
        St ((adr b2).add 5) (.int .i64 c.2.2.2.2.2.1) H9 fun H10 =>
        St ((adr b2).add 6) (.int .i64 c.2.2.2.2.2.2.1) H10 fun H11 =>
        St ((adr b2).add 7) (.slice c.2.2.2.2.2.2.2.a c.2.2.2.2.2.2.2.len c.2.2.2.2.2.2.2.cap) H11 fun H12 => k b2 H12 := by
  subst hz
  refine Nw_row fun b H4 hb hE4 hs4 hr4 => ?_
  simp only [adr_add]
  refine St_row hr4 (by simp [sysC]) fun H5 hU5 hs5 hr5 => ?_
  refine St_row hr5 (by simp [sysC]) fun H6 hU6 hs6 hr6 => ?_
  refine St_row hr6 (by simp [sysC]) fun H7 hU7 hs7 hr7 => ?_
  refine St_row hr7 (by simp [sysC]) fun H8 hU8 hs8 hr8 => ?_
  refine St_row hr8 (by simp [sysC]) fun H9 hU9 hs9 hr9 => ?_
  refine St_row hr9 (by simp [sysC]) fun H10 hU10 hs10 hr10 => ?_
  refine St_row hr10 (by simp [sysC]) fun H11 hU11 hs11 hr11 => ?_
  refine St_row hr11 (by simp [sysC]) fun H12 hU12 hs12 hr12 => ?_
  have hU := ((((((hU5.trans hU6 fun _ _ h => h).trans hU7 fun _ _ h => h).trans hU8 fun _ _ h => h).trans hU9 fun _ _ h => h).trans hU10 fun _ _ h => h).trans hU11 fun _ _ h => h).trans hU12 fun _ _ h => h
  exact hk b H12 hb (hE4.trans hU fun c hc e => by omega) (by omega) hr12
end Go.Proofs.Ytpkpebgpiakbeaa
