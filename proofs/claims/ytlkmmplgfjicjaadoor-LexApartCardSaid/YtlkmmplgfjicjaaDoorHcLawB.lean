/-
  Arguments that are slices: as lists.
-/
import Derived.Test.YtlkmmplgfjicjaaDoorHcLists
import Derived.Test.YtlkmmplgfjicjaaDoorHcLaw
namespace Go.Proofs.YtlkmmplgfjicjaaDoor.Hc
set_option linter.unusedVariables false
set_option linter.unusedSimpArgs false

theorem reach47 : reachBytes ≤ 2 ^ 47 := by decide
/-- A list is chosen, element by element. -/
theorem list_of {α : Type} {R : Nat → α → Prop} : ∀ n, (∀ i, i < n → ∃ x, R i x) → ∃ xs : List α, xs.length = n ∧ ∀ i (h : i < xs.length), R i xs[i]
  | 0, _ => ⟨[], rfl, fun i h => by simp at h⟩
  | n + 1, h => by
    obtain ⟨xs, h1, h2⟩ := list_of n fun i hi => h i (by omega)
    obtain ⟨x, hx⟩ := h n (by omega)
    refine ⟨xs ++ [x], by simp [h1], fun i hi => ?_⟩
    rcases Nat.lt_or_ge i n with e | e
    · rw [List.getElem_append_left (by omega)]; exact h2 i (by omega)
    · have : i = n := by simp at hi; omega
      subst this
      rw [List.getElem_append_right (by omega)]
      simpa using hx
/-- A slice argument, whatever its elements are. -/
theorem rdC_elems {P : Program} {t e : TypeId} (hu : P.underlying t = some (.slice e)) {n : Nat} (hce : P.cellsOf e = n) {α : Type} {H : Heap} {R : List Value → α → Prop} (hR : ∀ f cs, RdC P H f e cs → ∃ x, R cs x) {f : Nat} {v : Value} (h : RdC P H f t [v]) :
    ∃ (s : Sl) (xs : List α), v = .slice s.a s.len s.cap ∧ s.len = xs.length ∧ s.len ≤ s.cap ∧ s.cap * P.bytesOf e ≤ reachBytes ∧ s.cap ≤ maxLen ∧
      ∀ i (h : i < xs.length), ∃ a, s.a = some a ∧ ∃ cs, cs.length = n ∧ hcells H (a.add (i * n)) 0 cs ∧ R cs xs[i] := by
  obtain ⟨f', hs⟩ := rdC_slice hu h
  rw [hce] at hs
  rcases hs with e | ⟨a, len, cap, e, h1, h2, h3⟩
  · simp only [List.cons.injEq, and_true] at e
    subst e
    exact ⟨⟨none, 0, 0⟩, [], rfl, rfl, Nat.le_refl _, by simp, Nat.zero_le _, fun i hi => by simp at hi⟩
  · simp only [List.cons.injEq, and_true] at e
    subst e
    obtain ⟨xs, g1, g2⟩ := list_of (R := fun i x => ∃ cs, cs.length = n ∧ hcells H (a.add (i * n)) 0 cs ∧ R cs x) len fun i hi => by
      obtain ⟨cs, k1, k2, k3⟩ := h3 i (Nat.lt_of_lt_of_le hi h1)
      obtain ⟨x, hx⟩ := hR _ _ k3
      exact ⟨x, cs, k1, k2, hx⟩
    exact ⟨⟨some a, len, cap⟩, xs, rfl, g1.symm, h1, h2.2, h2.1, fun i hi => ⟨a, rfl, g2 i hi⟩⟩
/-- A slice argument of elements of one cell each. -/
theorem rdC_list {P : Program} {t e : TypeId} (hu : P.underlying t = some (.slice e)) (hce : P.cellsOf e = 1) {α : Type} {g : α → Value} {Q : α → Prop} {H : Heap} (hR : ∀ f cs, RdC P H f e cs → ∃ x, cs = [g x] ∧ Q x) {f : Nat} {v : Value} (h : RdC P H f t [v]) :
    ∃ (s : Sl) (xs : List α), v = .slice s.a s.len s.cap ∧ RL g H s xs ∧ (∀ x ∈ xs, Q x) ∧ s.cap * P.bytesOf e ≤ reachBytes ∧ s.cap ≤ maxLen := by
  obtain ⟨s, xs, h1, h2, h3, h4, h5, h6⟩ := rdC_elems hu hce (R := fun cs x => cs = [g x] ∧ Q x) hR h
  refine ⟨s, xs, h1, ⟨?_, h2, h3⟩, fun x hx => ?_, h4, h5⟩
  · unfold rdL
    cases ha : s.a with
    | none =>
      cases xs with
      | nil => rfl
      | cons x xs => obtain ⟨a, e, _⟩ := h6 0 (by simp); rw [ha] at e; cases e
    | some a =>
      refine hcells_iff.2 fun j hj => ?_
      rw [List.length_map] at hj
      obtain ⟨b, e, cs, _, k2, k3, _⟩ := h6 j hj
      rw [ha] at e; cases e
      subst k3
      have := k2.1
      rw [Nat.mul_one, add_zero] at this
      rw [Nat.zero_add, this, List.getElem?_map, List.getElem?_eq_getElem hj]; rfl
  · obtain ⟨i, hi, rfl⟩ := List.getElem_of_mem hx
    obtain ⟨_, _, _, _, _, _, k⟩ := h6 i hi
    exact k
theorem rdC_ints {P : Program} {t e : TypeId} (hu : P.underlying t = some (.slice e)) (he : P.underlying e = some (.int .i64)) (hce : P.cellsOf e = 1) {H : Heap} {f : Nat} {v : Value} (h : RdC P H f t [v]) :
    ∃ (s : Sl) (xs : List Int), v = .slice s.a s.len s.cap ∧ RI H s xs ∧ (∀ x ∈ xs, I64 x) ∧ s.cap * P.bytesOf e ≤ reachBytes ∧ s.cap ≤ maxLen :=
  rdC_list hu hce (fun _ _ h => rdC_i64 he h) h
theorem rd_ints {P : Program} {t e : TypeId} (hu : P.underlying t = some (.slice e)) (he : P.underlying e = some (.int .i64)) (hce : P.cellsOf e = 1) {H : Heap} {v : Value} (h : RdV P H t v) :
    ∃ (s : Sl) (xs : List Int), v = .slice s.a s.len s.cap ∧ RI H s xs ∧ (∀ x ∈ xs, I64 x) ∧ s.cap * P.bytesOf e ≤ reachBytes ∧ s.cap ≤ maxLen := by
  obtain ⟨f, hc⟩ := rd_cell hu rfl h
  exact rdC_ints hu he hce hc
theorem rd_elems {P : Program} {t e : TypeId} (hu : P.underlying t = some (.slice e)) {n : Nat} (hce : P.cellsOf e = n) {α : Type} {H : Heap} {R : List Value → α → Prop} (hR : ∀ f cs, RdC P H f e cs → ∃ x, R cs x) {v : Value} (h : RdV P H t v) :
    ∃ (s : Sl) (xs : List α), v = .slice s.a s.len s.cap ∧ s.len = xs.length ∧ s.len ≤ s.cap ∧ s.cap * P.bytesOf e ≤ reachBytes ∧ s.cap ≤ maxLen ∧
      ∀ i (h : i < xs.length), ∃ a, s.a = some a ∧ ∃ cs, cs.length = n ∧ hcells H (a.add (i * n)) 0 cs ∧ R cs xs[i] := by
  obtain ⟨f, hc⟩ := rd_cell hu rfl h
  exact rdC_elems hu hce hR hc
end Go.Proofs.YtlkmmplgfjicjaaDoor.Hc
