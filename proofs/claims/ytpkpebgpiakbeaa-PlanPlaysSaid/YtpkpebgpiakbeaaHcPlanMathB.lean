/-
  Plans: valid picks give a legal order.
-/
import Derived.Test.YtpkpebgpiakbeaaHcPlanMath
namespace Go.Proofs.Ytpkpebgpiakbeaa.Hc.Plan
set_option linter.unusedVariables false
set_option linter.unusedSimpArgs false

/-- Picks that may be, from a place on. -/
def goodP (ps : List Int) : List (List Int) → Nat → Prop
  | [], off => ps.length = off
  | S :: ss, off => (∀ j, j < S.length → 0 ≤ ps.getD (off + j) 0 ∧ ps.getD (off + j) 0 < ((S.length - j : Nat) : Int)) ∧ goodP ps ss (off + S.length)
theorem pickL_ok (ps : List Int) : ∀ (f : Nat) (out left : List Int), left.length = f → (∀ j, j < f → 0 ≤ ps.getD (out.length + j) 0 ∧ ps.getD (out.length + j) 0 < ((f - j : Nat) : Int)) →
    ∃ q, pickL ps f out left = some (out ++ q) ∧ q.Perm left
  | 0, out, left, hl, _ => by
    have : left = [] := List.eq_nil_of_length_eq_zero hl
    subst this
    exact ⟨[], by rw [pickL_nil]; simp, .refl _⟩
  | f + 1, out, left, hl, h => by
    have hne : left ≠ [] := by intro e; rw [e] at hl; simp at hl
    have h0 := h 0 (by omega)
    rw [Nat.add_zero] at h0
    obtain ⟨n, hn⟩ : ∃ n, n = (ps.getD out.length 0).toNat := ⟨_, rfl⟩
    have hnl : n < left.length := by omega
    have e : left.getD n 0 = left[n] := by rw [List.getD_eq_getElem?_getD, List.getElem?_eq_getElem hnl]; rfl
    obtain ⟨q, hq, hp⟩ := pickL_ok ps f (out ++ [left[n]]) (left.eraseIdx n) (by rw [List.length_eraseIdx, if_pos hnl]; omega) fun j hj => by
      have := h (j + 1) (by omega)
      rw [show (out ++ [left[n]]).length + j = out.length + (j + 1) by simp; omega]
      omega
    refine ⟨left[n] :: q, ?_, ?_⟩
    · rw [pickL_succ hne, if_neg (by omega), ← hn, e, hq]; simp
    · refine (List.Perm.cons _ hp).trans ?_
      rw [List.eraseIdx_eq_take_drop_succ]
      refine (List.perm_middle.symm).trans ?_
      have : left.take n ++ left[n] :: left.drop (n + 1) = left := by rw [← List.drop_eq_getElem_cons hnl, List.take_append_drop]
      rw [this]
theorem orderL_ok (ps : List Int) : ∀ (ss : List (List Int)) (out : List Int), goodP ps ss out.length →
    ∃ qs : List (List Int), orderL ps ss out = some (out ++ qs.flatten) ∧ qs.length = ss.length ∧ ∀ i (h : i < qs.length) (h' : i < ss.length), qs[i].Perm ss[i]
  | [], out, _ => ⟨[], by simp [orderL], rfl, fun i h => by simp at h⟩
  | S :: ss, out, h => by
    obtain ⟨q, hq, hp⟩ := pickL_ok ps S.length out S rfl h.1
    have hl : (out ++ q).length = out.length + S.length := by rw [List.length_append, hp.length_eq]
    obtain ⟨qs, h1, h2, h3⟩ := orderL_ok ps ss (out ++ q) (by rw [hl]; exact h.2)
    refine ⟨q :: qs, ?_, by simp [h2], fun i hi hi' => ?_⟩
    · rw [orderL, hq]
      simp only
      rw [h1]; simp
    · cases i with
      | zero => exact hp
      | succ i => exact h3 i (by simpa using hi) (by simpa using hi')
theorem mem_ofS {l : List PSys} {n s : Nat} {x : Int} : x ∈ ofS l n s ↔ ∃ i, i < n ∧ stg l i = s ∧ x = (i : Int) := by
  unfold ofS
  simp only [List.mem_map, List.mem_filter, List.mem_range, beq_iff_eq]
  exact ⟨fun ⟨i, ⟨h1, h2⟩, h3⟩ => ⟨i, h1, h2, h3.symm⟩, fun ⟨i, h1, h2, h3⟩ => ⟨i, ⟨h1, h2⟩, h3.symm⟩⟩
theorem sorted_ofS (l : List PSys) (n s : Nat) : (ofS l n s).Pairwise (· < ·) := by
  unfold ofS
  rw [List.pairwise_map]
  refine (List.Pairwise.filter _ List.pairwise_lt_range).imp fun {a b} h => ?_
  show (a : Int) < (b : Int)
  omega
theorem nodup_ofS (l : List PSys) (n s : Nat) : (ofS l n s).Pairwise (· ≠ ·) := by
  unfold ofS
  rw [List.pairwise_map]
  refine (List.Pairwise.filter _ List.pairwise_lt_range).imp fun {a b} h e => ?_
  have : (a : Int) = (b : Int) := e
  omega
/-- What an order of the stages' systems is. -/
structure Ordered (l : List PSys) (o : List Int) : Prop where
  len : o.length = l.length
  rng : ∀ x ∈ o, 0 ≤ x ∧ x < (l.length : Int)
  pw : o.Pairwise fun a b => a ≠ b ∧ stg l a.toNat ≤ stg l b.toNat
theorem ordered_of {l : List PSys} {qs : List (List Int)} (h2 : qs.length = (stagesF l).length) (h3 : ∀ i (h : i < qs.length) (h' : i < (stagesF l).length), qs[i].Perm (stagesF l)[i]) : Ordered l qs.flatten := by
  have hst : ∀ i (h : i < qs.length), ∀ x ∈ qs[i], ∃ m : Nat, m < l.length ∧ stg l m = i ∧ x = (m : Int) := fun i h x hx => by
    have h' : i < (stagesF l).length := by omega
    have := (h3 i h h').mem_iff.1 hx
    simp only [stagesF, List.getElem_map, List.getElem_range] at this
    exact mem_ofS.1 this
  have hlen : qs.map List.length = (stagesF l).map List.length := by
    refine List.ext_getElem (by simp [h2]) fun i h h' => ?_
    simp only [List.getElem_map]
    exact (h3 i (by simpa using h) (by simpa using h')).length_eq
  refine ⟨by rw [List.length_flatten, hlen, sum_stages], fun x hx => ?_, ?_⟩
  · obtain ⟨q, hq, hx⟩ := List.mem_flatten.1 hx
    obtain ⟨i, hi, rfl⟩ := List.getElem_of_mem hq
    obtain ⟨m, h1, _, rfl⟩ := hst i hi x hx
    omega
  · rw [List.pairwise_flatten]
    refine ⟨fun q hq => ?_, ?_⟩
    · obtain ⟨i, hi, rfl⟩ := List.getElem_of_mem hq
      have h' : i < (stagesF l).length := by omega
      have hnd : qs[i].Pairwise (· ≠ ·) := by
        rw [← List.nodup_iff_pairwise_ne, (h3 i hi h').nodup_iff, List.nodup_iff_pairwise_ne]
        simp only [stagesF, List.getElem_map, List.getElem_range]
        exact nodup_ofS l _ _
      refine List.Pairwise.imp_of_mem (fun {a b} ha hb hne => ⟨hne, ?_⟩) hnd
      obtain ⟨m, _, e1, rfl⟩ := hst i hi a ha
      obtain ⟨m', _, e2, rfl⟩ := hst i hi b hb
      simp only [Int.toNat_natCast]; omega
    · rw [List.pairwise_iff_getElem]
      intro i j hi hj hij a ha b hb
      obtain ⟨m, _, e1, rfl⟩ := hst i hi a ha
      obtain ⟨m', _, e2, rfl⟩ := hst j hj b hb
      simp only [Int.toNat_natCast]
      exact ⟨fun e => by have : m = m' := by omega
                         subst this; omega, by omega⟩
theorem Ordered.legal {l : List PSys} {o : List Int} (h : Ordered l o) : legalF l o = true := by
  refine legalF_yes h.len fun i hi => okI_iff.2 ⟨?_, fun k hk => ?_⟩
  · rw [List.getD_eq_getElem?_getD, List.getElem?_eq_getElem hi]
    exact h.rng _ (List.getElem_mem hi)
  · have hk' : k < o.length := by omega
    have hp := List.pairwise_iff_getElem.1 h.pw k i hk' hi hk
    rw [List.getD_eq_getElem?_getD, List.getD_eq_getElem?_getD, List.getElem?_eq_getElem hi, List.getElem?_eq_getElem hk']
    simp only [Option.getD_some]
    have r1 := h.rng _ (List.getElem_mem hk')
    have r2 := h.rng _ (List.getElem_mem hi)
    refine pairOk_iff.2 ⟨hp.1, fun ⟨hc, hgt⟩ => ?_⟩
    have := stg_conf l (i := o[k].toNat) (k := o[i].toNat) (by omega) (by omega) hc
    omega
end Go.Proofs.Ytpkpebgpiakbeaa.Hc.Plan
namespace Go.Proofs.Ytpkpebgpiakbeaa.Hc.Plan
theorem goodP_of {ps : List Int} : ∀ (ss : List (List Int)) (off : Nat), ps.length = off + (ss.map List.length).sum →
    (∀ s (h : s < ss.length) j, j < ss[s].length → 0 ≤ ps.getD (off + ((ss.map List.length).take s).sum + j) 0 ∧ ps.getD (off + ((ss.map List.length).take s).sum + j) 0 < ((ss[s].length - j : Nat) : Int)) → goodP ps ss off
  | [], off, h, _ => by simp at h; exact h
  | S :: ss, off, h, hb => by
    refine ⟨fun j hj => by have := hb 0 (by simp) j hj; rw [List.getElem_cons_zero, List.take_zero, List.sum_nil, Nat.add_zero] at this; exact this, goodP_of ss (off + S.length) (by simp at h; omega) fun s hs j hj => ?_⟩
    have := hb (s + 1) (by simpa using hs) j (by simpa using hj)
    simp only [List.map_cons, List.take_succ_cons, List.sum_cons, List.getElem_cons_succ] at this
    rw [show off + S.length + ((ss.map List.length).take s).sum + j = off + (S.length + ((ss.map List.length).take s).sum) + j by omega]
    exact this
end Go.Proofs.Ytpkpebgpiakbeaa.Hc.Plan
namespace Go.Proofs.Ytpkpebgpiakbeaa.Hc.Plan
theorem upto_mono (l : List PSys) {a b : Nat} (h : a ≤ b) : upto l a ≤ upto l b := by
  unfold upto
  rw [show ((stagesF l).map List.length).take a = (((stagesF l).map List.length).take b).take a by rw [List.take_take, Nat.min_eq_left h]]
  exact sum_take_le _ a
end Go.Proofs.Ytpkpebgpiakbeaa.Hc.Plan
