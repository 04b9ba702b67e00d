/-
  Plans: neighbours that do not conflict may change places, and no others.
-/
import Derived.Test.YtpkpebgpiakbeaaHcPlanMathB
namespace Go.Proofs.Ytpkpebgpiakbeaa.Hc.Plan
set_option linter.unusedVariables false
set_option linter.unusedSimpArgs false

theorem legalF_iff {l : List PSys} {o : List Int} : legalF l o = true ↔ o.length = l.length ∧ (∀ x ∈ o, 0 ≤ x ∧ x < (l.length : Int)) ∧ o.Pairwise fun a b => pairOk l a b = true := by
  unfold legalF
  rw [Bool.and_eq_true, decide_eq_true_eq, List.all_eq_true]
  have gd : ∀ i (h : i < o.length), o.getD i 0 = o[i] := fun i h => by rw [List.getD_eq_getElem?_getD, List.getElem?_eq_getElem h]; rfl
  constructor
  · rintro ⟨h1, h2⟩
    refine ⟨h1, fun x hx => ?_, ?_⟩
    · obtain ⟨i, hi, rfl⟩ := List.getElem_of_mem hx
      have := (okI_iff.1 (h2 i (List.mem_range.2 hi))).1
      rwa [gd i hi] at this
    · rw [List.pairwise_iff_getElem]
      intro i j hi hj hij
      have := (okI_iff.1 (h2 j (List.mem_range.2 hj))).2 i hij
      rwa [gd i hi, gd j hj] at this
  · rintro ⟨h1, h2, h3⟩
    refine ⟨h1, fun i hi => okI_iff.2 ?_⟩
    have hi := List.mem_range.1 hi
    rw [gd i hi]
    refine ⟨h2 _ (List.getElem_mem hi), fun k hk => ?_⟩
    rw [gd k (by omega)]
    exact List.pairwise_iff_getElem.1 h3 k i (by omega) hi hk

theorem split2 {o : List Int} {k : Nat} (h : k + 1 < o.length) : o = o.take k ++ o[k] :: o[k + 1] :: o.drop (k + 2) := by
  rw [← List.drop_eq_getElem_cons h, ← List.drop_eq_getElem_cons (by omega), List.take_append_drop]
theorem swap2 {o : List Int} {k : Nat} (h : k + 1 < o.length) : (o.set k o[k + 1]).set (k + 1) o[k] = o.take k ++ o[k + 1] :: o[k] :: o.drop (k + 2) := by
  refine List.ext_getElem (by simp; omega) fun i h1 h2 => ?_
  simp only [List.length_set] at h1
  rw [List.getElem_set, List.getElem_set]
  by_cases e1 : k + 1 = i
  · subst e1; rw [if_pos rfl, List.getElem_append_right (by simp; omega)]
    simp [List.length_take, Nat.min_eq_left (show k ≤ o.length by omega)]
  · rw [if_neg e1]
    by_cases e2 : k = i
    · subst e2; rw [if_pos rfl, List.getElem_append_right (by simp; omega)]
      simp [List.length_take, Nat.min_eq_left (show k ≤ o.length by omega)]
    · rw [if_neg e2]
      rcases Nat.lt_or_ge i k with e3 | e3
      · rw [List.getElem_append_left (by simp; omega)]; simp
      · rw [List.getElem_append_right (by simp; omega)]
        obtain ⟨m, rfl⟩ : ∃ m, i = k + 2 + m := ⟨i - k - 2, by omega⟩
        simp only [List.length_take, Nat.min_eq_left (show k ≤ o.length by omega), show k + 2 + m - k = m + 2 by omega, List.getElem_cons_succ, List.getElem_drop]
theorem legal_swap {l : List PSys} {o : List Int} (hl : legalF l o = true) {k : Nat} (h : k + 1 < o.length) :
    legalF l ((o.set k o[k + 1]).set (k + 1) o[k]) = !confF l o[k].toNat o[k + 1].toNat := by
  rw [swap2 h]
  obtain ⟨h1, h2, h3⟩ := legalF_iff.1 hl
  have hs := split2 h
  generalize o[k] = a, o[k + 1] = b, o.take k = xs, o.drop (k + 2) = ys at *
  rw [hs] at h1 h2 h3
  have hab : pairOk l a b = true := by
    have := (List.pairwise_append.1 h3).2.1
    exact (List.pairwise_cons.1 this).1 b (by simp)
  obtain ⟨hne, hn⟩ := pairOk_iff.1 hab
  by_cases hc : confF l a.toNat b.toNat = true
  · rw [hc, Bool.not_true, Bool.eq_false_iff]
    intro hq
    have := (legalF_iff.1 hq).2.2
    have := (List.pairwise_append.1 this).2.1
    have := (List.pairwise_cons.1 this).1 a (by simp)
    have := (pairOk_iff.1 this).2
    refine this ⟨by rw [confF_comm]; exact hc, ?_⟩
    have : ¬ a > b := fun h => hn ⟨hc, h⟩
    omega
  · rw [Bool.not_eq_true] at hc
    rw [hc, Bool.not_false]
    refine legalF_iff.2 ⟨by simpa using h1, fun x hx => h2 x (by simp at hx ⊢; rcases hx with h | h | h | h <;> simp [h]), ?_⟩
    rw [List.pairwise_append, List.pairwise_cons, List.pairwise_cons] at h3 ⊢
    obtain ⟨p1, ⟨p2, p3, p4⟩, p5⟩ := h3
    refine ⟨p1, ⟨fun x hx => ?_, fun x hx => p2 x (by simp [hx]), p4⟩, fun x hx y hy => p5 x hx y (by simp at hy ⊢; rcases hy with h | h | h <;> simp [h])⟩
    rcases List.mem_cons.1 hx with rfl | hx
    · refine pairOk_iff.2 ⟨fun e => hne e.symm, fun h => ?_⟩
      rw [confF_comm, hc] at h; exact absurd h.1 (by simp)
    · exact p3 x hx
theorem legal_twice {l : List PSys} {o : List Int} (h : 1 < o.length) : legalF l (o.set 0 o[1]) = false := by
  rw [Bool.eq_false_iff]
  intro hq
  have := (legalF_iff.1 hq).2.2
  have := List.pairwise_iff_getElem.1 this 0 1 (by simp; omega) (by simpa using h) (by omega)
  simp only [List.getElem_set_self] at this
  rw [List.getElem_set_ne (by omega)] at this
  exact (pairOk_iff.1 this).1 rfl
end Go.Proofs.Ytpkpebgpiakbeaa.Hc.Plan
namespace Go.Proofs.Ytpkpebgpiakbeaa.Hc.Plan
theorem order_ok {l : List PSys} {ps : List Int} (hg : goodP ps (stagesF l) 0) (hl : ps.length = l.length) : ∃ o, orderF l ps = some o ∧ Ordered l o := by
  obtain ⟨qs, hq1, hq2, hq3⟩ := orderL_ok ps (stagesF l) [] hg
  refine ⟨qs.flatten, ?_, ordered_of hq2 hq3⟩
  unfold orderF
  by_cases e : ps = []
  · have : l.length = 0 := by rw [← hl, e]; rfl
    rw [if_pos e, this, List.replicate_zero]
    rw [e, List.nil_append] at hq1
    simpa using hq1
  · rw [if_neg e, if_pos hl]; simpa using hq1
end Go.Proofs.Ytpkpebgpiakbeaa.Hc.Plan
