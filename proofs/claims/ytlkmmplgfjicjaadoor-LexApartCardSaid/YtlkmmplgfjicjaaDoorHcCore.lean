/-
  A heap-only reading of the model's operations: typed frames, the predicate transformer 'SW' of an operation, and of each kind of operation a typed condition that gives it.
-/
import Derived.Laws.Sem
import Derived.Calls
import Derived.Orders
namespace Go.Proofs.YtlkmmplgfjicjaaDoor.Hc
set_option linter.unusedVariables false
set_option linter.unusedSimpArgs false

abbrev Heap := Array Obj

def hcell (H : Heap) (a : Addr) : Option Value :=
  match H[a.block]? with
  | some (.cells c _ _) => if a.spot.isSome then none else c[a.off]?
  | _ => none
def hshape (H : Heap) (r : Nat) : Option (TypeId × Nat) :=
  match H[r]? with
  | some (.cells c elem _) => some (elem, c.size)
  | _ => none
def hfrozen (H : Heap) (a : Addr) : Bool :=
  match H[a.block]? with
  | some (.cells _ _ (lo, hi)) => lo ≤ a.off && a.off < hi
  | _ => false
def hset (H : Heap) (a : Addr) (v : Value) : Heap :=
  H.modify a.block fun
    | .cells c elem frozen => .cells (if a.spot.isSome then c else c.setIfInBounds a.off v) elem frozen
    | o => o
def hfreeze (H : Heap) (a : Addr) (n : Nat) : Heap :=
  if n = 0 then H else H.modify a.block fun
    | .cells c elem (lo, hi) => .cells c elem (if lo == hi then (a.off, a.off + n) else (min lo a.off, max hi (a.off + n)))
    | o => o

theorem cell?_eq (w : World) (a : Addr) : w.cell? a = hcell w.heap a := rfl
theorem shape?_eq (w : World) (r : Nat) : w.shape? r = hshape w.heap r := rfl
theorem frozen?_eq (w : World) (a : Addr) : w.frozen? a = hfrozen w.heap a := rfl
theorem setCell_heap (w : World) (a : Addr) (v : Value) : (w.setCell a v).heap = hset w.heap a v := rfl
theorem freeze_heap (w : World) (a : Addr) (n : Nat) : (w.freeze a n).heap = hfreeze w.heap a n := by
  unfold World.freeze hfreeze; split <;> rfl

/-- All but the heap and the count of draws is as it was. -/
structure SameEnv (w w' : World) : Prop where
  tape : w'.tape = w.tape
  os : w'.os = w.os
  output : w'.output = w.output
theorem SameEnv.refl (w : World) : SameEnv w w := ⟨rfl, rfl, rfl⟩
theorem SameEnv.trans {a b c : World} (h : SameEnv a b) (k : SameEnv b c) : SameEnv a c := ⟨k.tape.trans h.tape, k.os.trans h.os, k.output.trans h.output⟩
theorem SameEnv.setCell (w : World) (a : Addr) (v : Value) : SameEnv w (w.setCell a v) := ⟨rfl, rfl, rfl⟩
theorem SameEnv.freeze (w : World) (a : Addr) (n : Nat) : SameEnv w (w.freeze a n) := by unfold World.freeze; split <;> exact ⟨rfl, rfl, rfl⟩

/-- What a question may be answered. -/
def Poss (q : Question) (n : Nat) : Prop := if q.forced = true then n = 0 else ∃ t, n = q.cut t

/-- An operation's own text, read over heaps alone: whatever the tape says, it comes to an answer that meets k. -/
def SW {α : Type} (P : Program) : Sem α → (α → Heap → Prop) → Heap → Prop
  | .pure a, k, H => k a H
  | .load _ a f, k, H => ∃ v, hcell H a = some v ∧ SW P (f v) k H
  | .store _ _ (.agg _) _, _, _ | .store _ _ (.tuple _) _, _, _ => False
  | .store _ a v f, k, H => (hcell H a).isSome = true ∧ hfrozen H a = false ∧ SW P f k (hset H a v)
  | .new o f, k, H => SW P (f H.size) k (H.push o)
  | .shape r f, k, H => SW P (f (hshape H r)) k H
  | .freeze a n f, k, H => SW P f k (hfreeze H a n)
  | .frozen a f, k, H => SW P (f (hfrozen H a)) k H
  | .getObj r f, k, H => ∃ o, H[r]? = some o ∧ (∀ c e fr, o ≠ .cells c e fr) ∧ SW P (f o) k H
  | .setObj r o f, k, H => (∃ o', H[r]? = some o' ∧ (∀ c e fr, o' ≠ .cells c e fr)) ∧ SW P f k (H.setIfInBounds r o)
  | .choose q f, k, H => ∀ n, Poss q n → SW P (f n) k H
  | .sys _ _, _, _ => False
  | .program f, k, H => SW P (f P) k H
  | .mark _ f, k, H => SW P f k H
  | .halt _, _, _ => False

theorem SW.sound {α : Type} {P : Program} {s : Sem α} {k : α → Heap → Prop} : ∀ {w : World}, SW P s k w.heap →
    ∃ a w', s.run P w = .ok a w' ∧ SameEnv w w' ∧ k a w'.heap := by
  induction s with
  | pure a => intro w h; exact ⟨a, w, rfl, .refl w, h⟩
  | load m a f ih =>
    intro w h; obtain ⟨v, hv, h⟩ := h
    obtain ⟨x, w', hr, he, hk⟩ := ih v h
    exact ⟨x, w', by simp only [Sem.run, cell?_eq, hv]; exact hr, he, hk⟩
  | store m a v f ih =>
    intro w h
    cases v <;> first
      | exact (h : False).elim
      | (obtain ⟨h1, h2, h3⟩ := h
         obtain ⟨u, hu⟩ := Option.isSome_iff_exists.1 h1
         obtain ⟨x, w', hr, he, hk⟩ := ih (w := w.setCell a _) h3
         exact ⟨x, w', by simp only [Sem.run, cell?_eq, hu, frozen?_eq, h2]; exact hr, (SameEnv.setCell w a _).trans he, hk⟩)
  | new o f ih => intro w h; obtain ⟨x, w', hr, he, hk⟩ := ih w.heap.size (w := { w with heap := w.heap.push o }) h; exact ⟨x, w', hr, ⟨he.tape, he.os, he.output⟩, hk⟩
  | shape r f ih => intro w h; obtain ⟨x, w', hr, he, hk⟩ := ih _ h; exact ⟨x, w', hr, he, hk⟩
  | freeze a n f ih =>
    intro w h
    obtain ⟨x, w', hr, he, hk⟩ := ih (w := w.freeze a n) (by rw [freeze_heap]; exact h)
    exact ⟨x, w', hr, (SameEnv.freeze w a n).trans he, hk⟩
  | frozen a f ih => intro w h; obtain ⟨x, w', hr, he, hk⟩ := ih _ h; exact ⟨x, w', hr, he, hk⟩
  | getObj r f ih =>
    intro w h; obtain ⟨o, ho, hn, h⟩ := h
    obtain ⟨x, w', hr, he, hk⟩ := ih o h
    refine ⟨x, w', ?_, he, hk⟩
    simp only [Sem.run, ho]
    cases o with
    | cells c e fr => exact absurd rfl (hn c e fr)
    | _ => exact hr
  | setObj r o f ih =>
    intro w h; obtain ⟨⟨o', ho, hn⟩, h⟩ := h
    obtain ⟨x, w', hr, he, hk⟩ := ih (w := { w with heap := w.heap.setIfInBounds r o }) h
    refine ⟨x, w', ?_, ⟨he.tape, he.os, he.output⟩, hk⟩
    simp only [Sem.run, ho]
    cases o' with
    | cells c e fr => exact absurd rfl (hn c e fr)
    | _ => exact hr
  | choose q f ih =>
    intro w h
    by_cases hq : q.forced = true
    · obtain ⟨x, w', hr, he, hk⟩ := ih 0 (w := w) (h 0 (by simp [Poss, hq]))
      exact ⟨x, w', by simp only [Sem.run, hq, if_true]; exact hr, he, hk⟩
    · obtain ⟨x, w', hr, he, hk⟩ := ih _ (w := { w with drawn := w.drawn + 1 }) (h (q.cut (w.tape w.drawn q)) (by simp only [Poss, hq]; exact ⟨_, rfl⟩))
      exact ⟨x, w', by simp only [Sem.run, hq]; exact hr, ⟨he.tape, he.os, he.output⟩, hk⟩
  | sys c f ih => intro w h; exact h.elim
  | program f ih => intro w h; obtain ⟨x, w', hr, he, hk⟩ := ih _ h; exact ⟨x, w', hr, he, hk⟩
  | mark m f ih => intro w h; obtain ⟨x, w', hr, he, hk⟩ := ih h; exact ⟨x, w', hr, he, hk⟩
  | halt h => intro w h; exact h.elim

theorem SW_bind {α β : Type} {P : Program} (s : Sem α) (f : α → Sem β) (k : β → Heap → Prop) (H : Heap) :
    SW P (s >>= f) k H = SW P s (fun a H' => SW P (f a) k H') H := by
  show SW P (s.bind f) k H = _
  induction s generalizing H with
  | store m a v g ih => cases v <;> simp [Sem.bind, SW, ih]
  | frozen a g ih => exact ih (hfrozen H a) H
  | _ => simp_all [Sem.bind, SW]
theorem SW_pure {α : Type} {P : Program} (a : α) (k : α → Heap → Prop) (H : Heap) : SW P (pure a) k H = k a H := rfl
theorem SW_mono {α : Type} {P : Program} {s : Sem α} {k k' : α → Heap → Prop} (hk : ∀ a H, k a H → k' a H) : ∀ {H : Heap}, SW P s k H → SW P s k' H := by
  induction s with
  | pure a => intro H h; exact hk _ _ h
  | load m a f ih => intro H h; obtain ⟨v, hv, h⟩ := h; exact ⟨v, hv, ih v h⟩
  | store m a v f ih =>
    intro H h
    cases v with
    | agg _ => exact h.elim
    | tuple _ => exact h.elim
    | _ => exact ⟨h.1, h.2.1, ih h.2.2⟩
  | new o f ih => intro H h; exact ih _ h
  | shape r f ih => intro H h; exact ih _ h
  | freeze a n f ih => intro H h; exact ih h
  | frozen a f ih => intro H h; exact ih _ h
  | getObj r f ih => intro H h; obtain ⟨o, ho, hn, h⟩ := h; exact ⟨o, ho, hn, ih o h⟩
  | setObj r o f ih => intro H h; exact ⟨h.1, ih h.2⟩
  | choose q f ih => intro H h n hn; exact ih n (h n hn)
  | sys c f ih => intro H h; exact h.elim
  | program f ih => intro H h; exact ih _ h
  | mark m f ih => intro H h; exact ih h
  | halt h => intro H h; exact h.elim

/-- An operation that touches no memory and asks nothing: what it gives. -/
def SP {α : Type} (P : Program) : Sem α → (α → Prop) → Prop
  | .pure a, k => k a
  | .program f, k => SP P (f P) k
  | .mark _ f, k => SP P f k
  | _, _ => False
theorem SP.sound {α : Type} {P : Program} {s : Sem α} {k : α → Prop} (h : SP P s k) : ∃ a, (∀ w, s.run P w = .ok a w) ∧ k a := by
  induction s with
  | pure a => exact ⟨a, fun _ => rfl, h⟩
  | program f ih => exact ih _ h
  | mark m f ih => exact ih h
  | _ => exact h.elim
theorem SP_bind {α β : Type} {P : Program} (s : Sem α) (f : α → Sem β) (k : β → Prop) : SP P (s >>= f) k = SP P s (fun a => SP P (f a) k) := by
  show SP P (s.bind f) k = _
  induction s with
  | store m a v g ih => cases v <;> simp [Sem.bind, SP]
  | _ => simp_all [Sem.bind, SP]
end Go.Proofs.YtlkmmplgfjicjaaDoor.Hc
