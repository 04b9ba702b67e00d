/-
  plan: Conflict, Stages, Order, Legal.
-/
import Derived.Test.YtpkpebgpiakbeaaPlanN
namespace Go.Proofs.Ytpkpebgpiakbeaa
set_option linter.unusedVariables false
set_option linter.unusedSimpArgs false
open Go.Proofs.Ytpkpebgpiakbeaa.Hc Go.Proofs.Ytpkpebgpiakbeaa.Hc.Plan
set_option maxRecDepth 100000
variable {H : Heap} {p : Nat} {l : List PSys}

theorem s_there {n : Int} {k : Bool → Heap → Prop} (hp : PlAt H p l) (hk : k (decide (0 ≤ n ∧ n < (l.length : Int))) H) :
    CallT Pg f_plan_Plan_there [.pointer (some (adr p)), .int .i64 n] (.one (.c .bool)) H k := by
  obtain ⟨cs, ss, rows, ts, hr, hc, hrl, _⟩ := hp.ex
  apply c_plan_Plan_there
  unfold v_plan_Plan_there
  simp only [NilCk_some]
  have hcl := hc.len
  refine Jn.mk (fun b H' => H = H' ∧ b = decide (0 ≤ n ∧ n < (l.length : Int))) (fun kk hkk => ?_) (fun b H' ⟨h1, h2⟩ => by subst h1 h2; exact hk)
  refine Br_dec (fun h => ?_) fun h => hkk _ _ ⟨rfl, by rw [decide_eq_false]; omega⟩
  refine Ld_sl (s := cs) ((hr.cell 0).trans rfl) ?_
  refine hkk _ _ ⟨rfl, ?_⟩
  rw [Bool.eq_iff_iff, decide_eq_true_eq, decide_eq_true_eq]; omega

theorem s_Conflict {a b : Int} {k : Bool → Heap → Prop} (hp : PlAt H p l) (hk : k (decide (0 ≤ a ∧ a < (l.length : Int)) && decide (0 ≤ b ∧ b < (l.length : Int)) && confF l a.toNat b.toNat) H) :
    CallT Pg f_plan_Plan_Conflict [.pointer (some (adr p)), .int .i64 a, .int .i64 b] (.one (.c .bool)) H k := by
  obtain ⟨cs, ss, rows, ts, hr, hc, hrl, hrow, _⟩ := hp.ex
  apply c_plan_Plan_Conflict
  unfold v_plan_Plan_Conflict
  simp only [NilCk_some]
  refine Jn.mk (fun r H' => H = H' ∧ r = (decide (0 ≤ a ∧ a < (l.length : Int)) && decide (0 ≤ b ∧ b < (l.length : Int)) && confF l a.toNat b.toNat)) (fun kk hkk => ?_) (fun b H' ⟨h1, h2⟩ => by subst h1 h2; exact hk)
  refine s_there hp ?_
  refine Br_dec (fun ha => ?_) fun ha => hkk _ _ ⟨rfl, by rw [decide_eq_false ha]; rfl⟩
  refine s_there hp ?_
  refine Br_dec (fun hb => ?_) fun hb => hkk _ _ ⟨rfl, by rw [decide_eq_false hb, Bool.and_false]; rfl⟩
  refine Ld_sl (s := cs) ((hr.cell 0).trans rfl) ?_
  have ha1 : a.toNat < rows.length := by omega
  refine IxA_rl hc (j := a.toNat) (by omega) ha1 fun a2 h2 => ?_
  refine Ld_sl (s := rows[a.toNat]) h2 ?_
  refine IxA_rl (hrow _ ha1) (j := b.toNat) (by omega) (by simp [confRow]; omega) fun a3 h3 => ?_
  refine Ld_bool h3 ?_
  refine hkk _ _ ⟨rfl, ?_⟩
  rw [decide_eq_true ha, decide_eq_true hb]
  simp [confRow]

/-- Lists in a list, each with memory of its own. -/
structure LL (lo : Nat) (H : Heap) (s : Sl) (ts : List Sl) (xss : List (List Int)) : Prop where
  v : Vec H T_Sl_int s (ts.map slV)
  len : ts.length = xss.length
  it : ∀ i (h : i < ts.length), Vec H T_int ts[i] (ints (xss.getD i []))
  ap : ∀ i j (h : i < ts.length) (h' : j < ts.length), i ≠ j → Ap' ts[i] ts[j]
  fo : ∀ b, s.a = some (adr b) → lo ≤ b
  ft : ∀ i (h : i < ts.length) b, ts[i].a = some (adr b) → lo ≤ b
theorem LL.upd {M : Nat → Prop} {H' : Heap} {lo : Nat} {s : Sl} {ts : List Sl} {xss : List (List Int)} (hu : Upd M H H') (h : LL lo H s ts xss) (hm : ∀ b, M b → ¬ lo ≤ b) : LL lo H' s ts xss :=
  ⟨h.v.upd hu fun b hb e => hm b e (h.fo b hb), h.len, fun i hi => (h.it i hi).upd hu fun b hb e => hm b e (h.ft i hi b hb), h.ap, h.fo, h.ft⟩
theorem LL.ext {H' : Heap} {lo : Nat} {s : Sl} {ts : List Sl} {xss : List (List Int)} (hu : Ext H H') (h : LL lo H s ts xss) : LL lo H' s ts xss := h.upd hu fun _ h => h.elim

theorem s_Clone {s : Sl} {xs : List Int} (hs : RI H s xs) (hl : xs.length ≤ 2 ^ 30) {k : Sl → Heap → Prop} (hk : ∀ s' H', Vec H' T_int s' (ints xs) → (∀ b, s'.a = some (adr b) → H.size ≤ b) → Ext H H' → k s' H') :
    CallT Pg f_slices_Clone_Sl_int_int [.slice s.a s.len s.cap] (.one (.c .sl)) H k := by
  apply c_slices_Clone_Sl_int_int
  unfold v_slices_Clone_Sl_int_int
  have hsl := hs.len
  refine Br.mk (fun h => ?_) fun h => ?_
  · have hn : s.a = none := by simpa using h
    have hr := hs.rd
    rw [hn] at hr
    have : xs = [] := by simpa [rdL] using hr
    subst this
    exact hk nilS H (.nil _ _) (fun b h => by cases h) (.refl _ _)
  · refine Nw_row fun b H1 hb hE1 _ hr1 => ?_
    have hv : Vec H1 T_int ⟨some (adr b), 0, 0⟩ [] := ⟨rfl, .inr ⟨b, [], rfl, by simpa using hr1, by simp⟩, Nat.le_refl _⟩
    refine App_vec hv (hs.ext hE1).rd (by simp [hsl]) (by simp [Value.oneCell']) (by omega) (by simp; omega) fun l1 H2 hv2 hU2 hl2 hs2 => ?_
    rw [List.nil_append] at hv2
    have z1 := hE1.size
    refine hk l1 H2 hv2 (fun c hc => ?_) (hE1.trans hU2 fun c hc e => by have := e.1; simp at this; omega)
    rcases hl2 with e | e
    · rw [e] at hc; cases hc; omega
    · rw [e] at hc; cases hc; omega

theorem getD_map {α : Type} {β : Type} (f : α → β) (xs : List α) (i : Nat) (d : β) (h : i < xs.length) : (xs.map f).getD i d = f xs[i] := by
  rw [List.getD_eq_getElem?_getD, List.getElem?_map, List.getElem?_eq_getElem h]; rfl

theorem s_Stages {k : Sl → Heap → Prop} (hp : PlAt H p l) (hl : l.length ≤ 1000) (hk : ∀ s ts H', LL H.size H' s ts (stagesF l) → Ext H H' → k s H') :
    CallT Pg f_plan_Plan_Stages [.pointer (some (adr p))] (.one (.c .sl)) H k := by
  obtain ⟨cs, ss, rows, us, hr, _, _, _, hss, hul, hus⟩ := hp.ex
  apply c_plan_Plan_Stages
  unfold v_plan_Plan_Stages
  simp only [NilCk_some, adr_add]
  refine Ld_sl (s := ss) ((hr.cell 1).trans rfl) ?_
  have hsl := hss.len
  have cb : cnt l l.length ≤ l.length := cnt_bd l (Nat.le_refl _)
  refine LoopT.mk (fun σ H' => ∃ (i : Nat) (ts : List Sl), σ.2 = i ∧ i ≤ us.length ∧ Ext H H' ∧ LL H.size H' σ.1 ts ((stagesF l).take i)) (fun σ _ => (us.length - σ.2).toNat)
    ⟨0, [], rfl, by omega, .refl _ _, ⟨.nil _ _, by simp, by simp, by simp, (fun b h => by cases h), by simp⟩⟩ ?_
  rintro next ⟨out, _⟩ H1 ⟨i, ts, rfl, hi, hE1, hL1⟩ hnext
  dsimp only at hL1 ⊢
  have slen : (stagesF l).length = us.length := by simp [stagesF, hul]
  refine Br_dec (fun hlt => ?_) fun hge => ?_
  · have hi1 : i < us.length := by omega
    refine IxA_rl (hss.ext hE1) rfl hi1 fun a2 h2 => ?_
    refine Ld_sl (s := us[i]) h2 ?_
    have hof : (ofS l l.length i).length ≤ 1000 := by
      unfold ofS; rw [List.length_map]
      exact Nat.le_trans (List.length_filter_le _ _) (by simp; omega)
    refine s_Clone ((hus i hi1).ext hE1) (by omega) fun s2 H2 hv2 hf2 hE2 => ?_
    refine Nw_row fun b1 H3 hb1 hE3 _ hr3 => ?_
    have hL3 := (hL1.ext hE2).ext hE3
    have tl := hL1.len
    simp only [List.length_take] at tl
    refine App_vec hL3.v (ws := [slV s2]) hr3.rd_all rfl (by simp [Value.oneCell']) (by omega) (by simp; omega) fun l1 H4 hv4 hU4 hl4 hs4 => ?_
    rw [Lt_def, wrap_i64_id (by omega) (by omega)]
    have z1 := hE1.size
    have z2 := hE2.size
    have z3 := hE3.size
    have M4 : ∀ b, (out.a = some (adr b) ∧ out.len + 1 ≤ out.cap ∧ [slV s2] ≠ []) → ∃ vs, Row H3 b T_Sl_int vs ∨ Row H3 b T_Sl_int vs := fun b e => let ⟨ws, hw⟩ := Vec.rowOf hL3.v e.1; ⟨ws, .inl hw⟩
    have ek : (stagesF l)[i]? = some (ofS l l.length i) := by rw [stagesF, List.getElem?_map, List.getElem?_range (by omega)]; rfl
    have etake : (stagesF l).take (i + 1) = (stagesF l).take i ++ [ofS l l.length i] := by rw [List.take_add_one, ek]; rfl
    have til : ts.length = i := by omega
    have gl : ∀ j (hj : j < ts.length) (hj' : j < (ts ++ [s2]).length), (ts ++ [s2])[j] = ts[j] := fun j hj hj' => List.getElem_append_left hj
    have gr : ∀ j (hj : ¬ j < ts.length) (hj' : j < (ts ++ [s2]).length), (ts ++ [s2])[j] = s2 := fun j hj hj' => by rw [List.getElem_append_right (by omega)]; simp
    refine hnext _ _ ⟨i + 1, ts ++ [s2], by dsimp only; omega, by omega, ((hE1.trans hE2 fun _ _ h => h).ext hE3).trans hU4 fun b hb e => by have := hL1.fo b e.1; omega, ⟨by rw [List.map_append]; exact hv4, by rw [etake]; simp; omega, fun j hj => ?_, fun j j' hj hj' hne => ?_, fun b hb => ?_, fun j hj b hb => ?_⟩⟩ (by dsimp only; omega)
    · rw [etake]
      by_cases e : j < ts.length
      · rw [gl j e hj, List.getD_eq_getElem?_getD, List.getElem?_append_left (by simp; omega), ← List.getD_eq_getElem?_getD]
        exact keepV hU4 M4 (hL3.it j e) (by decide) (by decide)
      · have : j = ts.length := by simp at hj; omega
        rw [gr j e hj, List.getD_eq_getElem?_getD, List.getElem?_append_right (by simp; omega)]
        have e2 : j - ((stagesF l).take i).length = 0 := by simp; omega
        rw [e2]
        exact keepV hU4 M4 (hv2.ext hE3) (by decide) (by decide)
    · intro b h1 h2
      by_cases e : j < ts.length
      · rw [gl j e hj] at h1
        by_cases e' : j' < ts.length
        · rw [gl j' e' hj'] at h2; exact hL1.ap j j' e e' hne b h1 h2
        · rw [gr j' e' hj'] at h2
          have := hf2 b h2; have := (hL1.it j e).lt h1; omega
      · rw [gr j e hj] at h1
        by_cases e' : j' < ts.length
        · rw [gl j' e' hj'] at h2
          have := hf2 b h1; have := (hL1.it j' e').lt h2; omega
        · simp at hj hj'; omega
    · dsimp only at hb
      rcases hl4 with e | e
      · rw [e] at hb; exact hL1.fo b hb
      · rw [e] at hb; cases hb; omega
    · by_cases e : j < ts.length
      · rw [gl j e hj] at hb; exact hL1.ft j e b hb
      · rw [gr j e hj] at hb; have := hf2 b hb; omega
  · have : i = us.length := by omega
    rw [List.take_of_length_le (by omega)] at hL1
    exact hk out ts H1 hL1 hE1
end Go.Proofs.Ytpkpebgpiakbeaa
