/-
  Picks that may be.
-/
import Derived.Test.YtpkpebgpiakbeaaPlanS
import Derived.Test.YtpkpebgpiakbeaaHcPlanMathB
namespace Go.Proofs.Ytpkpebgpiakbeaa
set_option linter.unusedVariables false
set_option linter.unusedSimpArgs false
open Go.Proofs.Ytpkpebgpiakbeaa.Hc Go.Proofs.Ytpkpebgpiakbeaa.Hc.Plan
set_option maxRecDepth 100000
variable {p : Nat} {l : List PSys}

theorem s_pick18 (c n : Int) (hc : I64 c) (hn : 1 ≤ n) {H : Heap} {k : Int → Heap → Prop} (hk : k (pickI c n) H) : CallT Pg f_hindcastlaw18_pick [.int .i64 c, .int .i64 n] (.one (.c (.int .i64))) H k := by
  apply c_hindcastlaw18_pick
  unfold v_hindcastlaw18_pick
  exact pick_cond c n hc hn hk

theorem s_picked {H0 H : Heap} {raw : Sl} {rs : List Int} (hp : PlAt H p l) (hl : l.length ≤ 1000) (hr : RI H0 raw rs) (hE : Ext H0 H) (hrl : rs.length ≤ 2 ^ 60) (hri : ∀ x ∈ rs, I64 x) {k : Sl → Heap → Prop}
    (hk : ∀ s' ps H', goodP ps (stagesF l) 0 → ps.length = l.length → Vec H' T_int s' (ints ps) → (∀ b, s'.a = some (adr b) → H.size ≤ b) → Ext H H' → k s' H') :
    CallT Pg f_hindcastlaw18_picked [.pointer (some (adr p)), .slice raw.a raw.len raw.cap] (.one (.c .sl)) H k := by
  apply c_hindcastlaw18_picked
  unfold v_hindcastlaw18_picked
  have hrwl := hr.len
  refine s_Stages hp hl fun so ts H1 hL1 hE1 => ?_
  have hsol := hL1.v.len
  simp only [List.length_map] at hsol
  have htl := hL1.len
  have z1 := hE1.size
  have tb : ts.length ≤ 1000 := by
    have h1 : (stagesF l).length = cnt l l.length := by simp [stagesF]
    have h2 := cnt_bd l (Nat.le_refl _)
    omega
  refine LoopT.mk (fun σ H' => ∃ (d : Nat) (ps : List Int), σ.2 = d ∧ d ≤ ts.length ∧ Ext H1 H' ∧ Vec H' T_int σ.1 (ints ps) ∧ (∀ b, σ.1.a = some (adr b) → H1.size ≤ b) ∧ ps.length = upto l d ∧
      (∀ s, s < d → ∀ j, j < ((stagesF l).getD s []).length → 0 ≤ ps.getD (upto l s + j) 0 ∧ ps.getD (upto l s + j) 0 < ((((stagesF l).getD s []).length - j : Nat) : Int))) (fun σ _ => (ts.length - σ.2).toNat)
    ⟨0, [], rfl, by omega, .refl _ _, .nil _ _, (fun b h => by cases h), by simp [upto], fun s h => by omega⟩ ?_
  rintro next1 ⟨out, _⟩ H2 ⟨d, ps, rfl, hd, hE2, hv2, hf2, hpl, hgood⟩ hnext1
  dsimp only at hv2 hf2 ⊢
  have z2 := hE2.size
  refine Br_dec (fun hlt => ?_) fun hge => ?_
  · have hd1 : d < ts.length := by omega
    refine IxA_vec (hL1.v.upd hE2 fun _ _ h => h) (by omega) (by simp; omega) fun a1 h1 _ => ?_
    rw [Int.toNat_natCast, List.getElem?_map, List.getElem?_eq_getElem hd1] at h1
    refine Ld_sl (s := ts[d]) h1 ?_
    have hup := upto_succ l (d := d) (by omega)
    have hupl := upto_le l (d + 1)
    have hlen := (hL1.it d hd1).len
    simp only [List.length_map] at hlen
    refine LoopT.mk (fun σ H' => ∃ (j : Nat) (qs : List Int), σ.2 = ((((stagesF l).getD d []).length - j : Nat) : Int) ∧ j ≤ ((stagesF l).getD d []).length ∧ Ext H1 H' ∧ Vec H' T_int σ.1 (ints (ps ++ qs)) ∧ (∀ b, σ.1.a = some (adr b) → H1.size ≤ b) ∧ qs.length = j ∧
        (∀ m, m < j → 0 ≤ qs.getD m 0 ∧ qs.getD m 0 < ((((stagesF l).getD d []).length - m : Nat) : Int))) (fun σ _ => σ.2.toNat)
      ⟨0, [], by dsimp only; omega, by omega, hE2, by simpa using hv2, hf2, rfl, fun m h => by omega⟩ ?_
    rintro next2 ⟨out2, _⟩ H3 ⟨j, qs, rfl, hj, hE3, hv3, hf3, hql, hqb⟩ hnext2
    dsimp only at hv3 hf3 ⊢
    have z3 := hE3.size
    have ho3 := hv3.len
    simp only [List.length_map, List.length_append] at ho3
    refine Br_dec (fun hpos => ?_) fun hnil => ?_
    · refine Jn.mk (fun x H' => H3 = H' ∧ 0 ≤ x ∧ x < ((((stagesF l).getD d []).length - j : Nat) : Int)) (fun kk hkk => ?_) ?_
      · refine Br_dec (fun h => ?_) fun _ => hkk _ _ ⟨rfl, by omega, by omega⟩
        refine ⟨by omega, ?_⟩
        have hm : (out2.len : Int).tmod (raw.len : Int) = ((out2.len % raw.len : Nat) : Int) := by
          rw [Int.tmod_eq_emod_of_nonneg (by omega)]; omega
        have hlt2 : out2.len % raw.len < rs.length := by rw [← hrwl]; exact Nat.mod_lt _ (by omega)
        rw [hm]
        refine IxA_rl (hr.ext ((hE.trans hE1 fun _ _ h => h).trans hE3 fun _ _ h => h)) rfl hlt2 fun a2 h2 => ?_
        refine Ld_int h2 ?_
        refine s_pick18 _ _ (hri _ (List.getElem_mem hlt2)) (by omega) ?_
        have := pickI_bd rs[out2.len % raw.len] ((((stagesF l).getD d []).length - j : Nat) : Int) (by omega)
        exact hkk _ _ ⟨rfl, this⟩
      rintro x _ ⟨rfl, hx⟩
      refine Nw_row fun b1 H6 hb1 hE6 _ hr6 => ?_
      refine App_vec (hv3.ext hE6) (ws := ints [x]) hr6.rd_all rfl (ints_one _) (by omega) (by simp; omega) fun l1 H7 hv7 hU7 hl7 hs7 => ?_
      rw [Lt_def, wrap_i64_id (by omega) (by omega)]
      rw [ints, ints, ← List.map_append, List.append_assoc] at hv7
      refine hnext2 _ _ ⟨j + 1, qs ++ [x], by dsimp only; omega, by omega, (hE3.ext hE6).trans hU7 fun b hb e => by have := hf3 b e.1; omega, hv7, fun b hb => ?_, by simp; omega, fun m hm => ?_⟩ (by dsimp only; omega)
      · dsimp only at hb
        rcases hl7 with e | e
        · rw [e] at hb; exact hf3 b hb
        · rw [e] at hb; cases hb; have := hE6.size; omega
      · rcases Nat.lt_or_ge m j with e | e
        · rw [List.getD_eq_getElem?_getD, List.getElem?_append_left (by omega), ← List.getD_eq_getElem?_getD]; exact hqb m e
        · have : m = j := by omega
          subst this
          rw [List.getD_eq_getElem?_getD, List.getElem?_append_right (by omega), hql, Nat.sub_self]
          exact hx
    · rw [Lt_def, wrap_i64_id (by omega) (by omega)]
      have hjs : j = ((stagesF l).getD d []).length := by omega
      refine hnext1 _ _ ⟨d + 1, ps ++ qs, by dsimp only; omega, by omega, hE3, hv3, hf3, by simp; omega, fun s hs m hm => ?_⟩ (by dsimp only; omega)
      rcases Nat.lt_or_ge s d with e | e
      · have hus := upto_succ l (d := s) (by omega)
        have hmo : upto l (s + 1) ≤ upto l d := upto_mono l (by omega)
        rw [List.getD_eq_getElem?_getD, List.getElem?_append_left (by omega), ← List.getD_eq_getElem?_getD]
        exact hgood s e m hm
      · have : s = d := by omega
        subst this
        rw [List.getD_eq_getElem?_getD, List.getElem?_append_right (by omega), hpl, Nat.add_sub_cancel_left, ← List.getD_eq_getElem?_getD]
        exact hqb m (by omega)
  · have hdt : d = ts.length := by omega
    have hul : upto l d = l.length := by
      unfold upto; rw [List.take_of_length_le (by simp; omega), sum_stages]
    refine hk out ps H2 (goodP_of _ 0 (by rw [hpl, hul, sum_stages]; omega) fun s hs j hj => ?_) (by omega) hv2 (fun b hb => by have := hf2 b hb; omega) (hE1.trans hE2 fun _ _ h => h)
    have := hgood s (by omega) j (by rw [List.getD_eq_getElem?_getD, List.getElem?_eq_getElem hs]; exact hj)
    rw [List.getD_eq_getElem?_getD (l := stagesF l), List.getElem?_eq_getElem hs] at this
    rw [Nat.zero_add]
    exact this
end Go.Proofs.Ytpkpebgpiakbeaa
