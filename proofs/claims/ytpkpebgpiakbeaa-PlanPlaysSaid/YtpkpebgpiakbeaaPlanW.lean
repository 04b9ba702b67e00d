/-
  PlanSwaps: neighbours change places.
-/
import Derived.Test.YtpkpebgpiakbeaaPlanP
import Derived.Test.YtpkpebgpiakbeaaHcPlanMathC
namespace Go.Proofs.Ytpkpebgpiakbeaa
set_option linter.unusedVariables false
set_option linter.unusedSimpArgs false
open Go.Proofs.Ytpkpebgpiakbeaa.Hc Go.Proofs.Ytpkpebgpiakbeaa.Hc.Plan
set_option maxRecDepth 100000

theorem s_PlanSwaps {s t w : Sl} {L : List PSys} {rs ws : List Int} {H : Heap} (hs : LawL H s L) (ht : RI H t rs) (hrl : rs.length ≤ 2 ^ 60) (hri : ∀ x ∈ rs, I64 x) (hw : RI H w ws) (hwl2 : ws.length ≤ 2 ^ 60) (hwi : ∀ x ∈ ws, I64 x) {k : Bool → Heap → Prop} (hk : ∀ H', Ext H H' → k true H') :
    CallT Pg f_hindcastlaw18_PlanSwaps [.slice s.a s.len s.cap, .slice t.a t.len t.cap, .slice w.a w.len w.cap] (.one (.c .bool)) H k := by
  apply c_hindcastlaw18_PlanSwaps
  unfold v_hindcastlaw18_PlanSwaps
  have hsl := hs.1
  have hn : (cutL L).length ≤ 200 := by rw [cutL_len]; exact Nat.min_le_left _ _
  have hcut : (if (200 : Int) < (s.len : Int) then (200 : Int) else (s.len : Int)) = ((cutL L).length : Int) := by
    have h1 : Nat.min 200 L.length = if 200 ≤ L.length then 200 else L.length := Nat.min_def
    rw [cutL_len, h1]; split <;> split <;> omega
  simp only [hcut]
  refine s_shown18 fun H1 hE1 => ?_
  refine s_made18 hs hE1 fun p H2 hp2 hp hE2 => ?_
  have hE2' := hE1.ext hE2
  refine Jn_in ?_
  simp only [Bool.not_true, Br_false, Option.isNone_some]
  generalize hl : cutL L = l at *
  refine s_picked hp2 (by omega) ht hE2' hrl hri fun r3 ps H4 hgood hpsl hv4 hf4 hE4 => ?_
  have hp4 := hp2.ext hE4
  have hE4' := hE2'.ext hE4
  obtain ⟨o0, hof, hord⟩ := order_ok hgood hpsl
  refine s_Order hp4 (by omega) hv4.rl (by omega) (fun o' s6 H5 ho' hv5 hf5 hE5 => ?_) fun _ h => by rw [hof] at h; cases h
  rw [hof] at ho'
  cases ho'
  have hp5 := hp4.ext hE5
  have hE5' := hE4'.ext hE5
  have hol := hv5.len
  simp only [List.length_map] at hol
  have holn := hord.len
  refine Jn.mk (fun b H' => b = false ∧ H5 = H') (fun kk hkk => ?_) ?_
  · dsimp only
    rw [bne_self_eq_false, Br_false]
    refine hkk _ _ ⟨?_, rfl⟩
    rw [hol, holn, bne_self_eq_false]
  rintro _ _ ⟨rfl, rfl⟩
  rw [Br_false]
  have hwl := hw.len
  refine LoopT.mk (fun σ H' => ∃ (i : Nat) (o : List Int), σ.2 = i ∧ i ≤ ws.length ∧ Ext H5 H' ∧ Vec H' T_int σ.1 (ints o) ∧ legalF l o = true) (fun σ _ => (ws.length - σ.2).toNat)
    ⟨0, o0, rfl, by omega, .refl _ _, hv5, hord.legal⟩ ?_
  clear hol holn hof hord hf5 hv5
  rintro next ⟨x, _⟩ H7 ⟨i, o, rfl, hi, hE7, hv7, hleg⟩ hnext
  dsimp only at hv7 ⊢
  have hp7 := hp5.ext hE7
  obtain ⟨holn, hrng, _⟩ := legalF_iff.1 hleg
  have hxl := hv7.len
  simp only [List.length_map] at hxl
  have hrl7 : RI H7 x o := hv7.rl
  refine Jn.mk (fun b H' => H7 = H' ∧ b = decide (i < ws.length ∧ i < 60 ∧ 1 < o.length)) (fun kk hkk => ?_) ?_
  · refine Br_dec (fun h1 => ?_) fun h1 => hkk _ _ ⟨rfl, by rw [decide_eq_false (by omega)]⟩
    refine Br_dec (fun h2 => ?_) fun h2 => hkk _ _ ⟨rfl, by rw [decide_eq_false (by omega)]⟩
    exact hkk _ _ ⟨rfl, by rw [Bool.eq_iff_iff, decide_eq_true_eq, decide_eq_true_eq]; omega⟩
  rintro _ _ ⟨rfl, rfl⟩
  refine Br_dec (fun h => ?_) fun hge => ?_
  · obtain ⟨h1, h2, h3⟩ := h
    refine Jn.mk (fun y H' => Ext H5 H' ∧ ∃ o', Vec H' T_int y (ints o') ∧ legalF l o' = true) (fun kk hkk => ?_) ?_
    · refine IxA_rl (hw.ext (hE5'.ext hE7)) rfl h1 fun a1 g1 => ?_
      refine Ld_int g1 ?_
      rw [Lt_def, wrap_i64_id (by omega) (by omega)]
      have pb := pickI_bd ws[i] ((x.len : Int) - 1) (by omega)
      refine s_pick18 _ _ (hwi _ (List.getElem_mem h1)) (by omega) ?_
      obtain ⟨q, hq⟩ : ∃ q : Nat, pickI ws[i] ((x.len : Int) - 1) = (q : Int) := ⟨_, (Int.toNat_of_nonneg pb.1).symm⟩
      rw [hq] at pb ⊢
      have hq1 : q + 1 < o.length := by omega
      refine IxA_rl hrl7 rfl (show q < o.length by omega) fun a2 g2 => ?_
      refine Ld_int g2 ?_
      simp only [Lt_def, wrap_i64_id (x := (q : Int) + 1) (by omega) (by omega)]
      refine IxA_rl hrl7 (j := q + 1) (by omega) hq1 fun a3 g3 => ?_
      refine Ld_int g3 ?_
      have r1 := hrng _ (List.getElem_mem (show q < o.length by omega))
      have r2 := hrng _ (List.getElem_mem hq1)
      refine s_Conflict hp7 ?_
      rw [decide_eq_true r1, decide_eq_true r2, Bool.true_and, Bool.true_and]
      refine IxA_rl hrl7 (j := q + 1) (by omega) hq1 fun a4 g4 => ?_
      refine Ld_int g4 ?_
      refine IxA_rl hrl7 rfl (show q < o.length by omega) fun a5 g5 => ?_
      refine Ld_int g5 ?_
      refine s_Conflict hp7 ?_
      rw [decide_eq_true r1, decide_eq_true r2, Bool.true_and, Bool.true_and, confF_comm l o[q + 1].toNat]
      refine App_vec (Vec.nil H7 T_int) hrl7.rd (by simp [hxl]) (ints_one _) (by omega) (by simp; omega) fun l1 H13 hv13 hU13 hl13 hs13 => ?_
      rw [List.nil_append] at hv13
      have hE13 : Ext H7 H13 := hU13.mono fun b hb e => by cases e.1
      have f13 : ∀ b, l1.a = some (adr b) → H7.size ≤ b := fun b hb => by
        rcases hl13 with e | e
        · rw [e] at hb; cases hb
        · rw [e] at hb; cases hb; exact Nat.le_refl _
      refine IxA_rl (hrl7.ext hE13) (j := q + 1) (by omega) hq1 fun a6 g6 => ?_
      refine Ld_int g6 ?_
      refine IxA_St_vec' hv13 (j := q) rfl (by simp; omega) fun H14 hv14 hU14 _ => ?_
      rw [ints_set] at hv14
      have hE14 : Ext H7 H14 := hE13.trans hU14 fun b hb e => by have := f13 b e; omega
      refine IxA_rl (hrl7.ext hE14) rfl (show q < o.length by omega) fun a8 g8 => ?_
      refine Ld_int g8 ?_
      refine IxA_St_vec' hv14 (j := q + 1) (by omega) (by simp; omega) fun H15 hv15 hU15 _ => ?_
      rw [ints_set] at hv15
      have hE15 : Ext H7 H15 := hE14.trans hU15 fun b hb e => by have := f13 b e; omega
      refine s_Legal (hp7.ext hE15) (by omega) hv15.rl (by simp; omega) fun H16 hE16 => ?_
      have hls := legal_swap hleg hq1
      rw [hls]
      have hE16' : Ext H5 H16 := hE7.ext (hE15.ext hE16)
      generalize confF l o[q].toNat o[q + 1].toNat = c at *
      refine Jn.mk (fun b H' => b = false ∧ H16 = H') (fun kk5 hkk5 => ?_) ?_
      · rw [beq_self_eq_true, Bool.not_true, Br_false]
        exact hkk5 _ _ ⟨by cases c <;> rfl, rfl⟩
      rintro _ _ ⟨rfl, rfl⟩
      rw [Br_false]
      refine Jn.mk (fun y H' => Ext H5 H' ∧ ∃ o', Vec H' T_int y (ints o') ∧ legalF l o' = true) (fun kk6 hkk6 => ?_) fun y H' h => hkk _ _ h
      refine Br.mk (fun hc => hkk6 _ _ ⟨hE16', _, hv15.ext hE16, by rw [hls, hc]⟩) fun _ => hkk6 _ _ ⟨hE16', _, hv7.ext (hE15.ext hE16), hleg⟩
    rintro y H9 ⟨hE9, o', hv9, hleg9⟩
    rw [Lt_def, wrap_i64_id (by omega) (by omega)]
    exact hnext _ _ ⟨i + 1, o', by dsimp only; omega, by omega, hE9, hv9, hleg9⟩ (by dsimp only; omega)
  · refine Nw_row (vs := []) fun b1 H19 hb1 hE19 _ hr19 => ?_
    have hv : Vec H19 T_int ⟨some (adr b1), 0, 0⟩ [] := ⟨rfl, .inr ⟨b1, [], rfl, by simpa using hr19, by simp⟩, Nat.le_refl _⟩
    refine App_vec hv (hrl7.ext hE19).rd (by simp [hxl]) (ints_one _) (by omega) (by simp; omega) fun l2 H20 hv20 hU20 hl20 hs20 => ?_
    rw [List.nil_append] at hv20
    have z19 := hE19.size
    have f20 : ∀ b, l2.a = some (adr b) → H7.size ≤ b := fun b hb => by
      rcases hl20 with e | e
      · rw [e] at hb; cases hb; omega
      · rw [e] at hb; cases hb; omega
    have hE20 : Ext H7 H20 := hE19.trans hU20 fun b hb e => by have := e.1; cases this; omega
    have hl2 := hv20.len
    simp only [List.length_map] at hl2
    refine Jn.mk (fun _ H' => Ext H7 H') (fun kk7 hkk7 => ?_) fun _ H21 hE21 => ?_
    · refine Br_dec (fun h1 => ?_) fun _ => hkk7 _ _ hE20
      have h1' : 1 < o.length := by omega
      have hrl20 : RI H20 l2 o := hv20.rl
      refine IxA_rl hrl20 (j := 1) rfl h1' fun a10 g10 => ?_
      refine Ld_int g10 ?_
      refine IxA_St_vec' hv20 (j := 0) rfl (by simp; omega) fun H22 hv22 hU22 _ => ?_
      rw [ints_set] at hv22
      have hE22 : Ext H7 H22 := hE20.trans hU22 fun b hb e => by have := f20 b e; omega
      refine s_Legal (hp7.ext hE22) (by omega) hv22.rl (by simp; omega) fun H23 hE23 => ?_
      rw [legal_twice h1', Br_false]
      exact hkk7 _ _ (hE22.ext hE23)
    · refine s_Legal (hp7.ext hE21) (by omega) (hrl7.ext hE21) (by omega) fun H24 hE24 => ?_
      rw [hleg]
      exact hk H24 (hE5'.ext (hE7.ext (hE21.ext hE24)))
end Go.Proofs.Ytpkpebgpiakbeaa
