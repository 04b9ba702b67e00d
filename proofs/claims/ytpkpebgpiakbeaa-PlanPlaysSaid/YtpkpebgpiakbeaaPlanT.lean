/-
  The document's own plan: Stages, Order, Legal, New.
-/
import Derived.Test.YtpkpebgpiakbeaaPlanR
namespace Go.Proofs.Ytpkpebgpiakbeaa
set_option linter.unusedVariables false
set_option linter.unusedSimpArgs false
open Go.Proofs.Ytpkpebgpiakbeaa.Hc Go.Proofs.Ytpkpebgpiakbeaa.Hc.Plan
set_option maxRecDepth 100000
variable {H : Heap} {p : Nat} {l : List PSys}

/-- One more list, behind lists. -/
theorem LL.push {lo : Nat} {s x : Sl} {ts : List Sl} {xss : List (List Int)} {xs : List Int} (h : LL lo H s ts xss) (hlo : lo ≤ H.size) (hx : Vec H T_int x (ints xs)) (hfx : ∀ b, x.a = some (adr b) → lo ≤ b) (hap : ∀ i (h : i < ts.length), Ap' ts[i] x) (hn : ts.length ≤ 2 ^ 40) {k : Sl → Heap → Prop}
    (hk : ∀ s' H', LL lo H' s' (ts ++ [x]) (xss ++ [xs]) → Upd (fun b => s.a = some (adr b)) H H' → k s' H') :
    Nw #[.slice x.a x.len x.cap] T_Sl_int H fun b2 H8 => App T_Sl_int 1 24 #[.slice none 0 0] s ⟨some (adr b2), 1, 1⟩ H8 fun l2 H9 => k l2 H9 := by
  refine Nw_row fun b1 H3 hb1 hE3 _ hr3 => ?_
  have h3 := h.ext hE3
  have z3 := hE3.size
  have tl := h.len
  refine App_vec h3.v (ws := [slV x]) hr3.rd_all rfl (by simp [Value.oneCell']) (by omega) (by simp; omega) fun l1 H4 hv4 hU4 hl4 hs4 => ?_
  have M4 : ∀ b, (s.a = some (adr b) ∧ s.len + 1 ≤ s.cap ∧ [slV x] ≠ []) → ∃ vs, Row H3 b T_Sl_int vs ∨ Row H3 b T_Sl_int vs := fun b e => let ⟨ws, hw⟩ := Vec.rowOf h3.v e.1; ⟨ws, .inl hw⟩
  have gl : ∀ j (hj : j < ts.length) (hj' : j < (ts ++ [x]).length), (ts ++ [x])[j] = ts[j] := fun j hj hj' => List.getElem_append_left hj
  have gr : ∀ j (hj : ¬ j < ts.length) (hj' : j < (ts ++ [x]).length), (ts ++ [x])[j] = x := fun j hj hj' => by rw [List.getElem_append_right (by omega)]; simp
  refine hk l1 H4 ⟨by rw [List.map_append]; exact hv4, by simp; omega, fun j hj => ?_, fun j j' hj hj' hne => ?_, fun b hb => ?_, fun j hj b hb => ?_⟩ (hE3.mono (fun _ _ h => h.elim) |>.trans hU4 fun b _ e => e.1)
  · by_cases e : j < ts.length
    · rw [gl j e hj, List.getD_eq_getElem?_getD, List.getElem?_append_left (by omega), ← List.getD_eq_getElem?_getD]
      exact keepV hU4 M4 (h3.it j e) (by decide) (by decide)
    · have : j = ts.length := by simp at hj; omega
      rw [gr j e hj, List.getD_eq_getElem?_getD, List.getElem?_append_right (by omega)]
      rw [show j - xss.length = 0 by omega]
      exact keepV hU4 M4 (hx.ext hE3) (by decide) (by decide)
  · intro b h1 h2
    by_cases e : j < ts.length
    · rw [gl j e hj] at h1
      by_cases e' : j' < ts.length
      · rw [gl j' e' hj'] at h2; exact h.ap j j' e e' hne b h1 h2
      · rw [gr j' e' hj'] at h2; exact hap j e b h1 h2
    · rw [gr j e hj] at h1
      by_cases e' : j' < ts.length
      · rw [gl j' e' hj'] at h2; exact hap j' e' b h2 h1
      · simp at hj hj'; omega
  · rcases hl4 with e | e
    · rw [e] at hb; exact h.fo b hb
    · rw [e] at hb; cases hb; omega
  · by_cases e : j < ts.length
    · rw [gl j e hj] at hb; exact h.ft j e b hb
    · rw [gr j e hj] at hb; exact hfx b hb
theorem LL.mono {lo lo' : Nat} {s : Sl} {ts : List Sl} {xss : List (List Int)} (h : LL lo H s ts xss) (hl : lo' ≤ lo) : LL lo' H s ts xss :=
  ⟨h.v, h.len, h.it, h.ap, fun b hb => Nat.le_trans hl (h.fo b hb), fun i hi b hb => Nat.le_trans hl (h.ft i hi b hb)⟩
theorem LL.nil (lo : Nat) (H : Heap) : LL lo H nilS [] [] := ⟨.nil _ _, rfl, by simp, by simp, (fun b h => by cases h), by simp⟩

theorem s_refStages (hp : RefAt H p l) {k : Sl → Heap → Prop} (hk : ∀ s ts H', LL H.size H' s ts (stagesF l) → Ext H H' → k s H') :
    CallT Pg f_hindcastref18_Plan_Stages [.pointer (some (adr p))] (.one (.c .sl)) H k := by
  apply c_hindcastref18_Plan_Stages
  unfold v_hindcastref18_Plan_Stages
  have hl : l.length ≤ 1000 := by obtain ⟨_, _, _, _, _, _, _, _, _, _, _, h, _⟩ := hp; exact h
  refine s_refstage hp fun r1 H1 hv1 hf1 hE1 => ?_
  have hr1l := hv1.len
  simp only [List.length_map, stF_len] at hr1l
  have z1 := hE1.size
  have cb : cnt l l.length ≤ l.length := cnt_bd l (Nat.le_refl _)
  have slen : (stagesF l).length = cnt l l.length := by simp [stagesF]
  refine LoopT.mk (fun σ H' => ∃ (i : Nat) (ts : List Sl), σ.2 = i ∧ i ≤ cnt l l.length ∧ Ext H1 H' ∧ LL H1.size H' σ.1 ts ((stagesF l).take i)) (fun σ _ => (cnt l l.length - σ.2).toNat)
    ⟨0, [], rfl, by omega, .refl _ _, .nil _ _⟩ ?_
  rintro next1 ⟨out, _⟩ H2 ⟨s, ts, rfl, hs, hE2, hL2⟩ hnext1
  dsimp only at hL2 ⊢
  have z2 := hE2.size
  have tl := hL2.len
  simp only [List.length_take] at tl
  refine LoopT.mk (fun σ H' => ∃ j : Nat, σ.2 = j ∧ j ≤ l.length ∧ Ext H2 H' ∧ Vec H' T_int σ.1 (ints (ofS l j s)) ∧ (∀ b, σ.1.a = some (adr b) → H2.size ≤ b)) (fun σ _ => (l.length - σ.2).toNat)
    ⟨0, rfl, by omega, .refl _ _, .nil _ _, fun b h => by cases h⟩ ?_
  rintro next2 ⟨of, _⟩ H3 ⟨j, rfl, hj, hE3, hv3, hf3⟩ hnext2
  dsimp only at hv3 hf3 ⊢
  have z3 := hE3.size
  have hE23 : Ext H1 H3 := hE2.ext hE3
  have hof : (ofS l j s).length ≤ 1000 := by
    unfold ofS; rw [List.length_map]
    exact Nat.le_trans (List.length_filter_le _ _) (by simp; omega)
  refine Br_dec (fun hlt => ?_) fun hge => ?_
  · have hj1 : j < l.length := by omega
    refine Jn.mk (fun y H' => Ext H2 H' ∧ Vec H' T_int y (ints (ofS l (j + 1) s)) ∧ (∀ b, y.a = some (adr b) → H2.size ≤ b)) (fun kk hkk => ?_) ?_
    · refine IxA_rl (hv1.ext hE23).rl (j := j) rfl (by simp; omega) fun a1 h1 => ?_
      refine Ld_int h1 ?_
      have e1 : ((stF l l.length).map Int.ofNat)[j]'(by simp; omega) = (stg l j : Int) := by
        rw [List.getElem_map, stg, List.getD_eq_getElem?_getD, List.getElem?_eq_getElem (by simp; omega)]; rfl
      rw [e1]
      refine Jn.mk (fun y H' => Ext H2 H' ∧ Vec H' T_int y (ints (ofS l (j + 1) s)) ∧ (∀ b, y.a = some (adr b) → H2.size ≤ b)) (fun kk2 hkk2 => ?_) fun y H' h => hkk _ _ h
      refine Br.mk (fun h => ?_) fun h => ?_
      · have e : stg l j = s := by have : (stg l j : Int) = s := by simpa using h
                                   omega
        refine Nw_row fun b1 H6 hb1 hE6 _ hr6 => ?_
        refine App_vec (hv3.ext hE6) (ws := ints [(j : Int)]) hr6.rd_all rfl (ints_one _) (by omega) (by simp; omega) fun l1 H7 hv7 hU7 hl7 hs7 => ?_
        have z6 := hE6.size
        rw [ints, ints, ← List.map_append] at hv7
        refine hkk2 _ _ ⟨(hE3.ext hE6).trans hU7 fun b hb e => by have := hf3 b e.1; omega, by rw [ofS_succ, if_pos e]; exact hv7, fun b hb => ?_⟩
        rcases hl7 with e | e
        · rw [e] at hb; exact hf3 b hb
        · rw [e] at hb; cases hb; omega
      · have e : stg l j ≠ s := fun e => by rw [e] at h; simp at h
        exact hkk2 _ _ ⟨hE3, by rw [ofS_succ, if_neg e, List.append_nil]; exact hv3, hf3⟩
    rintro y H4 ⟨hE4, hv4, hf4⟩
    rw [Lt_def, wrap_i64_id (by omega) (by omega)]
    exact hnext2 _ _ ⟨j + 1, by dsimp only; omega, by omega, hE4, hv4, hf4⟩ (by dsimp only; omega)
  · have hjl : j = l.length := by omega
    subst hjl
    have hvl := hv3.len
    simp only [List.length_map] at hvl
    have hL3 := hL2.ext hE3
    refine Br.mk (fun h => ?_) fun h => ?_
    · have h0 : ofS l l.length s = [] := List.eq_nil_of_length_eq_zero (by simp at h; omega)
      have : s = cnt l l.length := by
        rcases Nat.lt_or_ge s (cnt l l.length) with e | e
        · exact absurd h0 (ofS_ne l (Nat.le_refl _) e)
        · omega
      rw [List.take_of_length_le (by omega)] at hL3
      exact hk out ts H3 (hL3.mono z1) (hE1.ext hE23)
    · have hlt2 : s < cnt l l.length := by
        rcases Nat.lt_or_ge s (cnt l l.length) with e | e
        · exact e
        · rw [ofS_nil l e] at hvl; simp at hvl; simp [hvl] at h
      refine hL3.push (x := of) (xs := ofS l l.length s) (by omega) hv3 (fun b hb => by have := hf3 b hb; omega) (fun i hi b h1 h2 => by have := (hL2.it i hi).lt h1; have := hf3 b h2; omega) (by omega) fun s' H9 hL9 hU9 => ?_
      rw [Lt_def, wrap_i64_id (by omega) (by omega)]
      have etake : (stagesF l).take (s + 1) = (stagesF l).take s ++ [ofS l l.length s] := by
        rw [List.take_add_one, stagesF, List.getElem?_map, List.getElem?_range (by omega)]; rfl
      refine hnext1 _ _ ⟨s + 1, ts ++ [of], by dsimp only; omega, by omega, ?_, by rw [etake]; exact hL9⟩ (by dsimp only; omega)
      exact hE23.trans hU9 fun b hb e => by have := hL3.fo b e; omega
end Go.Proofs.Ytpkpebgpiakbeaa
