/-
  The document's own plan.
-/
import Derived.Test.YtpkpebgpiakbeaaPlanP
namespace Go.Proofs.Ytpkpebgpiakbeaa
set_option linter.unusedVariables false
set_option linter.unusedSimpArgs false
open Go.Proofs.Ytpkpebgpiakbeaa.Hc Go.Proofs.Ytpkpebgpiakbeaa.Hc.Plan
set_option maxRecDepth 100000
variable {H : Heap} {p : Nat} {l : List PSys}

/-- The document's plan as it stands. -/
def RefAt (H : Heap) (p : Nat) (l : List PSys) : Prop := ∃ (rs ws : Sl) (rr wr : List Sl), Row H p T_hindcastref18_Plan [slV rs, slV ws] ∧ RL slV H rs rr ∧ RL slV H ws wr ∧ rr.length = l.length ∧ wr.length = l.length ∧
  (∀ i (h : i < rr.length) (h' : i < l.length), RI H rr[i] l[i].1) ∧ (∀ i (h : i < wr.length) (h' : i < l.length), RI H wr[i] l[i].2) ∧ l.length ≤ 1000 ∧ ∀ x ∈ l, x.1.length ≤ 1000 ∧ x.2.length ≤ 1000
theorem RefAt.ext {H H' : Heap} (hu : Ext H H') (h : RefAt H p l) : RefAt H' p l :=
  let ⟨rs, ws, rr, wr, h1, h2, h3, h4, h5, h6, h7, h8⟩ := h
  ⟨rs, ws, rr, wr, hu.row h1 fun h => h, h2.ext hu, h3.ext hu, h4, h5, fun i a b => (h6 i a b).ext hu, fun i a b => (h7 i a b).ext hu, h8⟩

theorem s_copied {s : Sl} {xs : List Int} (hs : RI H s xs) (hl : xs.length ≤ 2 ^ 44) {k : Sl → Heap → Prop} (hk : ∀ s' H', Vec H' T_int s' (ints xs) → (∀ b, s'.a = some (adr b) → H.size ≤ b) → Ext H H' → k s' H') :
    CallT Pg f_hindcastref18_copied [.slice s.a s.len s.cap] (.one (.c .sl)) H k := by
  apply c_hindcastref18_copied
  unfold v_hindcastref18_copied
  refine App_vec (Vec.nil H T_int) hs.rd (by simp [hs.len]) (ints_one _) (by omega) (by simp; omega) fun l1 H1 hv1 hU1 hl1 hs1 => ?_
  rw [List.nil_append] at hv1
  refine hk l1 H1 hv1 (fun b hb => ?_) (hU1.mono fun b hb e => by cases e.1)
  rcases hl1 with e | e
  · rw [e] at hb; cases hb
  · rw [e] at hb; cases hb; exact Nat.le_refl _

theorem s_refmeet {s t : Sl} {xs ys : List Int} (hs : RI H s xs) (ht : RI H t ys) (hl : xs.length ≤ 2 ^ 60) (hl' : ys.length ≤ 2 ^ 60) {k : Bool → Heap → Prop} (hk : k (meetF xs ys) H) :
    CallT Pg f_hindcastref18_meet [.slice s.a s.len s.cap, .slice t.a t.len t.cap] (.one (.c .bool)) H k := by
  apply c_hindcastref18_meet
  unfold v_hindcastref18_meet
  have hsl := hs.len
  have htl := ht.len
  refine LoopT.mk (fun σ H' => H = H' ∧ ∃ i : Nat, σ = i ∧ i ≤ xs.length ∧ ∀ x ∈ xs.take i, ys.contains x = false) (fun σ _ => (xs.length - σ).toNat) ⟨rfl, 0, rfl, by omega, by simp⟩ ?_
  rintro next1 _ _ ⟨rfl, i, rfl, hi, hn⟩ hnext1
  refine Br_dec (fun hlt => ?_) fun hge => ?_
  · have hi1 : i < xs.length := by omega
    refine LoopT.mk (fun σ H' => H = H' ∧ ∃ j : Nat, σ = j ∧ j ≤ ys.length ∧ xs[i] ∉ ys.take j) (fun σ _ => (ys.length - σ).toNat) ⟨rfl, 0, rfl, by omega, by simp⟩ ?_
    rintro next2 _ _ ⟨rfl, j, rfl, hj, hm⟩ hnext2
    refine Br_dec (fun hltj => ?_) fun hgej => ?_
    · have hj1 : j < ys.length := by omega
      refine IxA_rl hs rfl hi1 fun a1 h1 => ?_
      refine Ld_int h1 ?_
      refine IxA_rl ht rfl hj1 fun a2 h2 => ?_
      refine Ld_int h2 ?_
      refine Br.mk (fun h => ?_) fun h => ?_
      · have e : xs[i] = ys[j] := by simpa using h
        have : meetF xs ys = true := List.any_eq_true.2 ⟨xs[i], List.getElem_mem hi1, by rw [e]; simp⟩
        rw [← this]; exact hk
      · have e : xs[i] ≠ ys[j] := by simpa using h
        rw [Lt_def, wrap_i64_id (by omega) (by omega)]
        refine hnext2 _ _ ⟨rfl, j + 1, by omega, by omega, ?_⟩ (by omega)
        rw [List.take_add_one, List.getElem?_eq_getElem hj1]
        simp only [Option.toList_some, List.mem_append, List.mem_singleton, not_or]
        exact ⟨hm, e⟩
    · rw [Lt_def, wrap_i64_id (by omega) (by omega)]
      rw [List.take_of_length_le (by omega)] at hm
      refine hnext1 _ _ ⟨rfl, i + 1, by omega, by omega, ?_⟩ (by omega)
      rw [List.take_add_one, List.getElem?_eq_getElem hi1]
      intro x hx
      rcases List.mem_append.1 hx with hx | hx
      · exact hn x hx
      · simp only [Option.toList_some, List.mem_singleton] at hx; subst hx
        simpa using hm
  · rw [List.take_of_length_le (by omega)] at hn
    have : meetF xs ys = false := by
      rw [Bool.eq_false_iff]; intro h
      obtain ⟨x, h1, h2⟩ := List.any_eq_true.1 h
      rw [hn x h1] at h2; cases h2
    rw [← this]; exact hk

theorem s_refConflict {a b : Int} {k : Bool → Heap → Prop} (hp : RefAt H p l) (hk : k (decide (0 ≤ a ∧ a < (l.length : Int)) && decide (0 ≤ b ∧ b < (l.length : Int)) && confF l a.toNat b.toNat) H) :
    CallT Pg f_hindcastref18_Plan_Conflict [.pointer (some (adr p)), .int .i64 a, .int .i64 b] (.one (.c .bool)) H k := by
  obtain ⟨rs, ws, rr, wr, hr, hrs, hws, hrl, hwl, hri, hwi, hl, hx⟩ := hp
  apply c_hindcastref18_Plan_Conflict
  unfold v_hindcastref18_Plan_Conflict
  simp only [NilCk_some, adr_add]
  have hwsl := hws.len
  refine Ld_sl (s := ws) ((hr.cell 1).trans rfl) ?_
  obtain ⟨inb, hinb⟩ : ∃ inb, inb = (decide (0 ≤ a ∧ a < (l.length : Int)) && decide (0 ≤ b ∧ b < (l.length : Int))) := ⟨_, rfl⟩
  refine Jn.mk (fun c H' => H = H' ∧ c = !(inb && decide (a ≠ b))) (fun kk hkk => ?_) ?_
  · refine Br_dec (fun h => hkk _ _ ⟨rfl, by rw [hinb, decide_eq_false (by omega)]; simp⟩) fun h1 => ?_
    refine Br_dec (fun h => hkk _ _ ⟨rfl, by rw [hinb, decide_eq_false (p := 0 ≤ b ∧ _) (by omega)]; simp⟩) fun h2 => ?_
    refine Br_dec (fun h => hkk _ _ ⟨rfl, by rw [hinb, decide_eq_false (by omega)]; simp⟩) fun h3 => ?_
    refine Br_dec (fun h => hkk _ _ ⟨rfl, by rw [hinb, decide_eq_false (p := 0 ≤ b ∧ _) (by omega)]; simp⟩) fun h4 => ?_
    refine hkk _ _ ⟨rfl, ?_⟩
    rw [hinb, decide_eq_true (by omega), decide_eq_true (by omega)]
    by_cases e : a = b <;> simp [e]
  rintro c _ ⟨rfl, rfl⟩
  rw [← hinb] at hk
  refine Br.mk (fun h => ?_) fun h => ?_
  · have e : inb = false ∨ a = b := by
      cases inb with
      | false => exact .inl rfl
      | true => right; simpa using h
    have : (inb && confF l a.toNat b.toNat) = false := by
      rcases e with e | e
      · rw [e]; rfl
      · rw [e]; simp [confF]
    rw [this] at hk; exact hk
  · have e : inb = true ∧ a ≠ b := by
      cases inb with
      | false => simp at h
      | true => exact ⟨rfl, by simpa using h⟩
    obtain ⟨e1, e2⟩ := e
    rw [e1, Bool.true_and] at hk
    rw [hinb, Bool.and_eq_true, decide_eq_true_eq, decide_eq_true_eq] at e1
    obtain ⟨⟨a0, a1⟩, b0, b1⟩ := e1
    have al : a.toNat < l.length := by omega
    have bl : b.toNat < l.length := by omega
    have hxa := hx _ (List.getElem_mem al)
    have hxb := hx _ (List.getElem_mem bl)
    have c0 : hcell H ⟨p, 0, none⟩ = some (slV rs) := (hr.cell 0).trans rfl
    have c1 : hcell H ⟨p, 1, none⟩ = some (slV ws) := (hr.cell 1).trans rfl
    refine Ld_sl (s := ws) c1 ?_
    refine IxA_rl hws (j := a.toNat) (by omega) (by omega) fun a3 g3 => ?_
    refine Ld_sl (s := wr[a.toNat]) g3 ?_
    refine Ld_sl (s := rs) c0 ?_
    refine IxA_rl hrs (j := b.toNat) (by omega) (by omega) fun a5 g5 => ?_
    refine Ld_sl (s := rr[b.toNat]) g5 ?_
    refine s_refmeet (hwi _ _ al) (hri _ _ bl) (by omega) (by omega) ?_
    refine Stab_2 c0 c1 ?_
    refine Ld_sl (s := ws) c1 ?_
    refine IxA_rl hws (j := b.toNat) (by omega) (by omega) fun a7 g7 => ?_
    refine Ld_sl (s := wr[b.toNat]) g7 ?_
    refine Ld_sl (s := rs) c0 ?_
    refine IxA_rl hrs (j := a.toNat) (by omega) (by omega) fun a9 g9 => ?_
    refine Ld_sl (s := rr[a.toNat]) g9 ?_
    refine s_refmeet (hwi _ _ bl) (hri _ _ al) (by omega) (by omega) ?_
    refine Stab_2 c0 c1 ?_
    refine Ld_sl (s := ws) c1 ?_
    refine IxA_rl hws (j := a.toNat) (by omega) (by omega) fun a11 g11 => ?_
    refine Ld_sl (s := wr[a.toNat]) g11 ?_
    refine Ld_sl (s := ws) c1 ?_
    refine IxA_rl hws (j := b.toNat) (by omega) (by omega) fun a13 g13 => ?_
    refine Ld_sl (s := wr[b.toNat]) g13 ?_
    refine s_refmeet (hwi _ _ al) (hwi _ _ bl) (by omega) (by omega) ?_
    refine Stab_2 c1 c1 ?_
    have er := confF_ref l a.toNat b.toNat (by omega)
    have eat : ∀ i (h : i < l.length), at' l i = l[i] := fun i h => by unfold at'; rw [List.getD_eq_getElem?_getD, List.getElem?_eq_getElem h]; rfl
    rw [eat _ al, eat _ bl] at er
    rw [er] at hk
    refine Jn.mk (fun c H' => H = H' ∧ c = (meetF l[a.toNat].2 l[b.toNat].1 || meetF l[b.toNat].2 l[a.toNat].1 || meetF l[a.toNat].2 l[b.toNat].2)) (fun kk hkk => ?_) (by rintro _ _ ⟨rfl, rfl⟩; exact hk)
    refine Br.mk (fun h => hkk _ _ ⟨rfl, by rw [h]; rfl⟩) fun h => ?_
    refine Br.mk (fun h' => hkk _ _ ⟨rfl, by rw [h, h']; rfl⟩) fun h' => hkk _ _ ⟨rfl, by rw [h, h']; rfl⟩

/-- The stage of each system. -/
theorem s_refstage (hp : RefAt H p l) {k : Sl → Heap → Prop} (hk : ∀ s' H', Vec H' T_int s' (ints ((stF l l.length).map Int.ofNat)) → (∀ b, s'.a = some (adr b) → H.size ≤ b) → Ext H H' → k s' H') :
    CallT Pg f_hindcastref18_Plan_stage [.pointer (some (adr p))] (.one (.c .sl)) H k := by
  apply c_hindcastref18_Plan_stage
  unfold v_hindcastref18_Plan_stage
  obtain ⟨rs, ws, rr, wr, hr, _, hws, _, hwl, _, _, hl, _⟩ := id hp
  have hwsl := hws.len
  simp only [NilCk_some, adr_add]
  refine LoopT.mk (fun σ H' => ∃ i : Nat, σ.2 = i ∧ i ≤ l.length ∧ Ext H H' ∧ Vec H' T_int σ.1 (ints ((stF l i).map Int.ofNat)) ∧ (∀ b, σ.1.a = some (adr b) → H.size ≤ b)) (fun σ _ => (l.length - σ.2).toNat)
    ⟨0, rfl, by omega, .refl _ _, .nil _ _, fun b h => by cases h⟩ ?_
  rintro next1 ⟨out, _⟩ H1 ⟨i, rfl, hi, hE1, hv1, hf1⟩ hnext1
  dsimp only at hv1 hf1 ⊢
  have z1 := hE1.size
  refine Ld_sl (s := ws) (((hE1.row hr fun h => h).cell 1).trans rfl) ?_
  refine Br_dec (fun hlt => ?_) fun hge => ?_
  · have hi1 : i < l.length := by omega
    have hrl1 : RI H1 out ((stF l i).map Int.ofNat) := hv1.rl
    have getk : ∀ j, j < i → ((stF l i).map Int.ofNat)[j]? = some (((stF l i).getD j 0 : Nat) : Int) := fun j hj => by
      rw [List.getElem?_map, List.getD_eq_getElem?_getD, List.getElem?_eq_getElem (by simp; omega)]; rfl
    have bd : ∀ j, j < i → (stF l i).getD j 0 ≤ 1000 := fun j hj => by
      rw [stg_of l hj (by omega)]; have := stg_bd l (i := j) (by omega); omega
    refine LoopT.mk (fun σ H' => H1 = H' ∧ ∃ j : Nat, σ.2 = j ∧ j ≤ i ∧ σ.1 = (stepK l (stF l i) i j : Int)) (fun σ _ => (i - σ.2).toNat) ⟨rfl, 0, rfl, by omega, rfl⟩ ?_
    rintro next2 ⟨_, _⟩ _ ⟨rfl, j, rfl, hj, rfl⟩ hnext2
    dsimp only
    refine Br_dec (fun hltj => ?_) fun hgej => ?_
    · have hj1 : j < i := by omega
      have g := getk j hj1
      have hb := bd j hj1
      have hjl : j < ((stF l i).map Int.ofNat).length := by simp; omega
      have gj : ((stF l i).map Int.ofNat)[j] = (((stF l i).getD j 0 : Nat) : Int) := by
        rw [List.getElem?_eq_getElem hjl] at g; exact Option.some.inj g
      refine Jn.mk (fun v H' => H1 = H' ∧ v = (stepK l (stF l i) i (j + 1) : Int)) (fun kk1 hkk1 => ?_) ?_
      · refine s_refConflict (hp.ext hE1) ?_
        have ec : (decide (0 ≤ (j : Int) ∧ (j : Int) < (l.length : Int)) && decide (0 ≤ (i : Int) ∧ (i : Int) < (l.length : Int)) && confF l (j : Int).toNat (i : Int).toNat) = confF l i j := by
          rw [decide_eq_true (by omega), decide_eq_true (by omega), Int.toNat_natCast, Int.toNat_natCast, confF_comm]; rfl
        rw [ec]
        refine Jn.mk (fun v H' => H1 = H' ∧ v = (confF l i j && decide ((stF l i).getD j 0 + 1 > stepK l (stF l i) i j))) (fun kk2 hkk2 => ?_) ?_
        · refine Br.mk (fun hc => ?_) fun hc => hkk2 _ _ ⟨rfl, by rw [hc]; rfl⟩
          refine IxA_rl hrl1 rfl hjl fun a2 g2 => ?_
          rw [gj] at g2
          refine Ld_int g2 ?_
          rw [Lt_def, wrap_i64_id (by omega) (by omega)]
          refine hkk2 _ _ ⟨rfl, ?_⟩
          rw [hc, Bool.true_and, Bool.eq_iff_iff, decide_eq_true_eq, decide_eq_true_eq]; omega
        rintro _ _ ⟨rfl, rfl⟩
        refine Jn.mk (fun v H' => H1 = H' ∧ v = (stepK l (stF l i) i (j + 1) : Int)) (fun kk3 hkk3 => ?_) fun v H' h => hkk1 _ _ h
        refine Br.mk (fun hc => ?_) fun hc => hkk3 _ _ ⟨rfl, ?_⟩
        · rw [Bool.and_eq_true, decide_eq_true_eq] at hc
          refine IxA_rl hrl1 rfl hjl fun a3 g3 => ?_
          rw [gj] at g3
          refine Ld_int g3 ?_
          rw [Lt_def, wrap_i64_id (by omega) (by omega)]
          refine hkk3 _ _ ⟨rfl, ?_⟩
          rw [stepK, if_pos hc]; omega
        · rw [stepK, if_neg]
          intro h
          rw [h.1, Bool.true_and, decide_eq_false_iff_not] at hc
          exact hc h.2
      rintro _ _ ⟨rfl, rfl⟩
      rw [Lt_def, wrap_i64_id (by omega) (by omega)]
      exact hnext2 _ _ ⟨rfl, j + 1, by dsimp only; omega, by omega, rfl⟩ (by dsimp only; omega)
    · have hji : j = i := by omega
      subst hji
      refine Nw_row fun b1 H7 hb1 hE7 _ hr7 => ?_
      have hol := hv1.len
      simp only [List.length_map, stF_len] at hol
      refine App_vec (hv1.ext hE7) (ws := ints [(stepK l (stF l j) j j : Int)]) hr7.rd_all rfl (ints_one _) (by omega) (by simp; omega) fun l1 H8 hv8 hU8 hl8 hs8 => ?_
      rw [Lt_def, wrap_i64_id (by omega) (by omega)]
      have z7 := hE7.size
      have e : (stF l (j + 1)).map Int.ofNat = (stF l j).map Int.ofNat ++ [(stepK l (stF l j) j j : Int)] := by rw [stF]; simp
      refine hnext1 _ _ ⟨j + 1, by dsimp only; omega, by omega, (hE1.ext hE7).trans hU8 fun b hb e => by have := hf1 b e.1; omega, ?_, fun b hb => ?_⟩ (by dsimp only; omega)
      · dsimp only; rw [e, ints, List.map_append]; exact hv8
      · dsimp only at hb
        rcases hl8 with e | e
        · rw [e] at hb; exact hf1 b hb
        · rw [e] at hb; cases hb; omega
  · have : i = l.length := by omega
    subst this
    exact hk out H1 hv1 hf1 hE1
end Go.Proofs.Ytpkpebgpiakbeaa
