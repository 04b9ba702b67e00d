/-
  plan: Legal.
-/
import Derived.Test.YtpkpebgpiakbeaaPlanO
namespace Go.Proofs.Ytpkpebgpiakbeaa
set_option linter.unusedVariables false
set_option linter.unusedSimpArgs false
open Go.Proofs.Ytpkpebgpiakbeaa.Hc Go.Proofs.Ytpkpebgpiakbeaa.Hc.Plan
set_option maxRecDepth 100000
variable {H : Heap} {p : Nat} {l : List PSys}

theorem s_Legal {x : Sl} {o : List Int} (hp : PlAt H p l) (hl : l.length ≤ 1000) (hx : RI H x o) (hol : o.length ≤ 2 ^ 60) {k : Bool → Heap → Prop} (hk : ∀ H', Ext H H' → k (legalF l o) H') :
    CallT Pg f_plan_Plan_Legal [.pointer (some (adr p)), .slice x.a x.len x.cap] (.one (.c .bool)) H k := by
  obtain ⟨cs, ss, rows, us, hr, hc, hrl, hrow, _⟩ := hp.ex
  apply c_plan_Plan_Legal
  unfold v_plan_Plan_Legal
  simp only [NilCk_some]
  have hcl := hc.len
  have hxl := hx.len
  have hxc := hx.cap
  refine Ld_sl (s := cs) ((hr.cell 0).trans rfl) ?_
  refine Br.mk (fun h => ?_) fun h => ?_
  · have : legalF l o = false := by
      unfold legalF; rw [decide_eq_false (by intro e; simp at h; omega)]; rfl
    rw [← this]; exact hk H (.refl _ _)
  have hlen : o.length = l.length := by simp at h; omega
  refine Mks_row (by omega) (by omega) (by omega) fun bs H1 hbs hE1 _ hr1 => ?_
  rw [Int.toNat_natCast] at hr1 ⊢
  rw [hxl] at hr1 ⊢
  refine Jn.mk (fun b H' => b = legalF l o ∧ Ext H H') (fun kk1 hkk1 => ?_) (fun b H' ⟨h1, h2⟩ => by subst h1; exact hk H' h2)
  refine LoopT.mk (fun σ H' => ∃ (i : Nat) (sn : List Bool), σ.1 = true ∧ σ.2 = i ∧ i ≤ o.length ∧ Ext H H' ∧ Row H' bs T_bool (bools sn) ∧ sn.length = o.length ∧ (∀ m, m < i → okI l o m = true) ∧ (∀ v : Nat, v < o.length → (sn.getD v false = true ↔ (v : Int) ∈ o.take i))) (fun σ _ => (o.length - σ.2).toNat)
    ⟨0, List.replicate o.length false, rfl, rfl, by omega, hE1, by simpa [bools] using hr1, by simp, fun m h => by omega, fun v hv => by rw [List.getD_eq_getElem?_getD, List.getElem?_replicate, if_pos hv]; simp⟩ ?_
  rintro next1 ⟨_, _⟩ H3 ⟨i, sn, rfl, rfl, hi, hE3, hr3, hsn, hok, hseen⟩ hnext1
  dsimp only
  have hx3 := hx.ext hE3
  refine Br_dec (fun hlt => ?_) fun hge => ?_
  · have hi1 : i < o.length := by omega
    refine IxA_rl hx3 rfl hi1 fun a2 h2 => ?_
    refine Ld_int h2 ?_
    have eo : o.getD i 0 = o[i] := by rw [List.getD_eq_getElem?_getD, List.getElem?_eq_getElem hi1]; rfl
    have otake : o.take (i + 1) = o.take i ++ [o[i]] := by rw [List.take_add_one, List.getElem?_eq_getElem hi1]; rfl
    obtain ⟨a, ha⟩ : ∃ a, a = o[i] := ⟨_, rfl⟩
    rw [← ha] at eo otake ⊢
    have inb : ∀ m, m < i → 0 ≤ o.getD m 0 ∧ o.getD m 0 < (l.length : Int) := fun m hm => (okI_iff.1 (hok m hm)).1
    refine Jn.mk (fun b H' => H3 = H' ∧ b = decide ((0 ≤ a ∧ a < (l.length : Int)) ∧ a ∉ o.take i)) (fun kk2 hkk2 => ?_) ?_
    · refine s_there (hp.ext hE3) ?_
      refine Br_dec (fun hth => ?_) fun hth => hkk2 _ _ ⟨rfl, by rw [decide_eq_false (fun h => hth h.1)]⟩
      refine IxA_adr (by omega) (by omega) ?_
      rw [Nat.mul_one]
      have hs := hseen a.toNat (by omega)
      have hc3 : hcell H3 ⟨bs, a.toNat, none⟩ = some (.bool (sn.getD a.toNat false)) := by
        rw [hr3.cell, bools, List.getElem?_map, List.getD_eq_getElem?_getD, List.getElem?_eq_getElem (by omega)]; rfl
      refine Ld_bool hc3 ?_
      refine hkk2 _ _ ⟨rfl, ?_⟩
      rw [show ((a.toNat : Nat) : Int) = a by omega] at hs
      rw [Bool.eq_iff_iff, decide_eq_true_eq, Bool.not_eq_true', Bool.eq_false_iff]
      exact ⟨fun h => ⟨hth, fun h' => h (hs.2 h')⟩, fun h h' => h.2 (hs.1 h')⟩
    rintro b _ ⟨rfl, hb⟩
    refine Br.mk (fun hnot => ?_) fun hyes => ?_
    · have hbf : b = false := by simpa using hnot
      rw [hbf]
      refine hkk1 _ _ ⟨?_, hE3⟩
      rw [hbf] at hb
      symm
      refine legalF_no hi1 (Bool.eq_false_iff.2 fun h => ?_)
      obtain ⟨h1, h2⟩ := okI_iff.1 h
      rw [eo] at h1 h2
      have := of_decide_eq_false hb.symm
      refine this ⟨h1, fun hin => ?_⟩
      obtain ⟨m, hm, hme⟩ := List.getElem_of_mem hin
      have hm' : m < i := by simp at hm; omega
      have h3 := (pairOk_iff.1 (h2 m hm')).1
      rw [List.getElem_take] at hme
      rw [List.getD_eq_getElem?_getD, List.getElem?_eq_getElem (by omega)] at h3
      exact h3 (by simpa using hme)
    have hbt : b = true := by simpa using hyes
    rw [hbt] at hb
    obtain ⟨hth, hnin⟩ := of_decide_eq_true hb.symm
    refine IxA_adr (by omega) (by omega) ?_
    rw [Nat.mul_one]
    refine St_row hr3 (by simp; omega) fun H6 hU6 _ hr6 => ?_
    have hE6 := hE3.trans hU6 fun c hc e => by omega
    refine SlA0 (by omega) (by omega) (by omega) ?_
    rw [Int.toNat_natCast]
    have hx6 : RI H6 ⟨x.a, i, (x.cap : Int).toNat⟩ (o.take i) := (hx.ext hE6).pre (by omega) (by omega)
    refine LoopT.mk (fun σ H' => H6 = H' ∧ σ.1 = b ∧ ∃ m : Nat, σ.2 = m ∧ m ≤ i ∧ ∀ j, j < m → pairOk l (o.getD j 0) a = true) (fun σ _ => (i - σ.2).toNat) ⟨rfl, rfl, 0, rfl, by omega, fun j h => by omega⟩ ?_
    rintro next2 ⟨_, _⟩ _ ⟨rfl, rfl, m, rfl, hm, hpair⟩ hnext2
    dsimp only
    refine Br_dec (fun hltm => ?_) fun hgem => ?_
    · have hm1 : m < i := by omega
      have hmt : m < (o.take i).length := by simp; omega
      refine IxA_rl hx6 rfl hmt fun a5 h5 => ?_
      refine Ld_int h5 ?_
      have em : (o.take i)[m] = o.getD m 0 := by
        rw [List.getElem_take, List.getD_eq_getElem?_getD, List.getElem?_eq_getElem (by omega)]; rfl
      rw [em]
      have hin := inb m hm1
      obtain ⟨v, hv⟩ : ∃ v, v = o.getD m 0 := ⟨_, rfl⟩
      rw [← hv] at hin ⊢
      refine Jn.mk (fun c H' => H6 = H' ∧ c = decide (confF l v.toNat a.toNat = true ∧ v > a)) (fun kk3 hkk3 => ?_) ?_
      · refine Ld_sl (s := cs) (((hE6.row hr fun h => h).cell 0).trans rfl) ?_
        have ha1 : a.toNat < rows.length := by omega
        refine IxA_rl (hc.ext hE6) (j := a.toNat) (by omega) ha1 fun a7 h7 => ?_
        refine Ld_sl (s := rows[a.toNat]) h7 ?_
        refine IxA_rl ((hrow _ ha1).ext hE6) (j := v.toNat) (by omega) (by simp [confRow]; omega) fun a8 h8 => ?_
        refine Ld_bool h8 ?_
        have ec : (confRow l a.toNat)[v.toNat]'(by simp [confRow]; omega) = confF l v.toNat a.toNat := by
          simp [confRow, confF_comm]
        rw [ec]
        refine Br.mk (fun h => hkk3 _ _ ⟨rfl, ?_⟩) fun h => hkk3 _ _ ⟨rfl, ?_⟩
        · rw [Bool.eq_iff_iff, decide_eq_true_eq, decide_eq_true_eq]; simp [h]
        · rw [decide_eq_false (fun h' => by rw [h] at h'; exact absurd h'.1 (by simp))]
      rintro _ _ ⟨rfl, rfl⟩
      refine Br_dec (fun hbad => ?_) fun hgood => ?_
      · refine hkk1 _ _ ⟨?_, hE6⟩
        symm
        refine legalF_no hi1 (Bool.eq_false_iff.2 fun h => ?_)
        have h2 := (okI_iff.1 h).2 m hm1
        rw [eo, ← hv] at h2
        exact (pairOk_iff.1 h2).2 hbad
      · rw [Lt_def, wrap_i64_id (by omega) (by omega)]
        refine hnext2 _ _ ⟨rfl, rfl, m + 1, by dsimp only; omega, by omega, fun j hj => ?_⟩ (by dsimp only; omega)
        rcases Nat.lt_or_ge j m with e | e
        · exact hpair j e
        · have : j = m := by omega
          subst this
          rw [← hv]
          refine pairOk_iff.2 ⟨fun e => hnin ?_, hgood⟩
          rw [← e, hv, List.getD_eq_getElem?_getD, List.getElem?_eq_getElem (by omega)]
          simp only [Option.getD_some]
          rw [← List.getElem_take (xs := o) (j := i) (h := by simp; omega)]
          exact List.getElem_mem _
    · have : m = i := by omega
      subst this
      rw [Lt_def, wrap_i64_id (by omega) (by omega)]
      rw [bools, ← List.map_set] at hr6
      refine hnext1 _ _ ⟨m + 1, sn.set a.toNat true, by rw [hbt], by dsimp only; omega, by omega, hE6, hr6, by simpa using hsn, fun j hj => ?_, fun v hv => ?_⟩ (by dsimp only; omega)
      · rcases Nat.lt_or_ge j m with e | e
        · exact hok j e
        · have : j = m := by omega
          subst this
          refine okI_iff.2 ⟨by rw [eo]; exact hth, fun k hk' => by rw [eo]; exact hpair k hk'⟩
      · rw [otake, List.mem_append, List.mem_singleton, ← hseen v hv]
        simp only [List.getD_eq_getElem?_getD, List.getElem?_set]
        by_cases hc' : a.toNat = v
        · rw [if_pos hc', if_pos (by omega)]
          simp only [Option.getD_some, true_iff]
          exact .inr (by omega)
        · rw [if_neg hc']
          have : ¬ ((v : Int) = a) := by omega
          simp [this]
  · have : i = o.length := by omega
    subst this
    exact hkk1 _ _ ⟨(legalF_yes hlen hok).symm, hE3⟩
end Go.Proofs.Ytpkpebgpiakbeaa
