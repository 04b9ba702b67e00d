/-
  Slices that read as lists, of any elements.
-/
import Derived.Test.YtlkmmplgfjicjaaDoorHcVecN
namespace Go.Proofs.YtlkmmplgfjicjaaDoor.Hc
set_option linter.unusedVariables false
set_option linter.unusedSimpArgs false

theorem set_mid' {α : Type} (xs ys : List α) (y z : α) : (xs ++ y :: ys).set xs.length z = xs ++ z :: ys := by
  rw [List.set_append_right _ _ (Nat.le_refl _), Nat.sub_self]; rfl

/-- A slice whose elements are one cell each reads as this list. -/
structure RL {α : Type} (f : α → Value) (H : Heap) (s : Sl) (xs : List α) : Prop where
  rd : rdL H s.a (xs.map f)
  len : s.len = xs.length
  cap : s.len ≤ s.cap
abbrev slV (s : Sl) : Value := .slice s.a s.len s.cap
abbrev RI := RL (Value.int .i64)
variable {α : Type} {f : α → Value}
theorem RL.nil (f : α → Value) (H : Heap) : RL f H ⟨none, 0, 0⟩ [] := ⟨rfl, rfl, Nat.le_refl _⟩
theorem RL.upd {M : Nat → Prop} {H H' : Heap} (hu : Upd M H H') {s : Sl} {xs : List α} (h : RL f H s xs) (hn : ∀ a, s.a = some a → ¬ M a.block) : RL f H' s xs := by
  refine ⟨?_, h.len, h.cap⟩
  have hr := h.rd
  unfold rdL at hr ⊢
  cases ha : s.a with
  | none => rw [ha] at hr; exact hr
  | some a => rw [ha] at hr; exact hcells_upd hu (hn a ha) hr
theorem RL.upd' {M : Nat → Prop} {H H' : Heap} (hu : Upd M H H') {s : Sl} {xs : List α} (h : RL f H s xs) (hn : xs ≠ [] → ∀ a, s.a = some a → ¬ M a.block) : RL f H' s xs := by
  by_cases e : xs = []
  · subst e
    refine ⟨?_, h.len, h.cap⟩
    unfold rdL
    cases s.a <;> trivial
  · exact h.upd hu (hn e)
theorem RL.ext {H H' : Heap} (hu : Ext H H') {s : Sl} {xs : List α} (h : RL f H s xs) : RL f H' s xs := h.upd hu fun _ _ h => h
theorem IxA_rl {H : Heap} {s : Sl} {xs : List α} (h : RL f H s xs) {i : Int} {k : Addr → Prop} {j : Nat} (hj : i = j) (hl : j < xs.length)
    (hk : ∀ a, hcell H a = some (f xs[j]) → k a) : IxA 1 s i k := by
  have hr := h.rd
  unfold rdL at hr
  cases ha : s.a with
  | none => rw [ha] at hr; simp at hr; subst hr; simp at hl
  | some a =>
    rw [ha] at hr
    subst hj
    refine IxA.mk ha (by omega) (by rw [h.len]; omega) ?_
    rw [Int.toNat_natCast, Nat.mul_one]
    refine hk _ ?_
    have := hcells_iff.1 hr j (by simpa using hl)
    rw [Nat.zero_add] at this
    rw [this]; simp [hl]
theorem RL.lt {H : Heap} {s : Sl} {xs : List α} (h : RL f H s xs) (hb : xs ≠ []) {a : Addr} (ha : s.a = some a) : a.block < H.size := by
  have hr := h.rd
  unfold rdL at hr
  rw [ha] at hr
  cases xs with
  | nil => exact absurd rfl hb
  | cons b bs => have := lt_of_cell hr.1; rwa [add_block] at this
theorem RL.pre {H : Heap} {s : Sl} {xs : List α} (h : RL f H s xs) {n c : Nat} (hn : n ≤ xs.length) (hc : n ≤ c) : RL f H ⟨s.a, n, c⟩ (xs.take n) := by
  refine ⟨?_, by simp; omega, hc⟩
  have hr := h.rd
  unfold rdL at hr ⊢
  cases ha : s.a with
  | none => rw [ha] at hr; simp at hr; subst hr; simp
  | some a =>
    rw [ha] at hr
    have := hcells_take (n := n) hr
    rwa [← List.map_take] at this
theorem add_add (a : Addr) (n m : Nat) (h : a.spot = none) : (a.add n).add m = a.add (n + m) := by
  obtain ⟨b, o, sp⟩ := a
  dsimp only at h; subst h
  simp [mk_add, Nat.add_assoc]
/-- A part of a slice: [lo:hi]. -/
theorem SlA_rl {H : Heap} {s : Sl} {xs : List α} (h : RL f H s xs) {lo hi mx : Int} {i j c : Nat} (hi' : lo = i) (hj : hi = j) (hc : mx = c) (h1 : i ≤ j) (h2 : j ≤ xs.length) (h3 : j ≤ c) (h4 : c ≤ s.cap) (hsp : ∀ a, s.a = some a → a.spot = none) {k : Sl → Prop}
    (hk : ∀ s', RL f H s' ((xs.drop i).take (j - i)) → (∀ a, s'.a = some a → ∃ a0, s.a = some a0 ∧ a.block = a0.block ∧ a.spot = none) → s'.cap = c - i → k s') : SlA 1 s lo hi mx k := by
  subst hi' hj hc
  refine ⟨by omega, by omega, by omega, by omega, ?_⟩
  rw [Int.toNat_natCast, Int.toNat_natCast, Int.toNat_natCast, Nat.mul_one]
  have hr := h.rd
  unfold rdL at hr
  refine hk _ ⟨?_, by simp; omega, by dsimp only; omega⟩ (fun a ha => ?_) rfl
  · cases ha : s.a with
    | none =>
      rw [ha] at hr; simp at hr; subst hr
      simp [rdL]
    | some a =>
      rw [ha] at hr
      dsimp only at hr ⊢
      split
      · rename_i e
        have : j - i = 0 := by omega
        simp [rdL, this, hcells]
      · dsimp only [rdL, Option.map]
        refine hcells_iff.2 fun m hm => ?_
        simp only [List.length_map, List.length_take, List.length_drop] at hm
        rw [Nat.zero_add, add_add _ _ _ (hsp a ha)]
        have := hcells_iff.1 hr (i + m) (by simp; omega)
        rw [Nat.zero_add] at this
        rw [this]
        simp only [List.getElem?_map, List.getElem?_take, List.getElem?_drop]
        rw [if_pos (by omega)]
  · dsimp only at ha
    split at ha
    · exact ⟨a, ha, rfl, hsp a ha⟩
    · cases hs : s.a with
      | none => rw [hs] at ha; cases ha
      | some a0 =>
        rw [hs] at ha
        simp only [Option.map_some, Option.some.injEq] at ha
        subst ha
        refine ⟨a0, rfl, add_block _ _, ?_⟩
        have := hsp a0 hs
        unfold Addr.add; split
        · exact this
        · rfl
theorem Vec.rl {H : Heap} {T : TypeId} {s : Sl} {xs : List α} (h : Vec H T s (xs.map f)) : RL f H s xs := ⟨h.rd, by simpa using h.len, h.lc⟩
theorem Vec.spot {H : Heap} {T : TypeId} {s : Sl} {vs : List Value} (h : Vec H T s vs) : ∀ a, s.a = some a → a.spot = none := fun a ha => by
  rcases h.own with ⟨h1, _⟩ | ⟨b, sp, h1, _⟩
  · rw [h1] at ha; cases ha
  · rw [h1] at ha; cases ha; rfl
theorem Vec.blk {H : Heap} {T : TypeId} {s : Sl} {vs : List Value} (h : Vec H T s vs) : ∀ a, s.a = some a → a = adr a.block := fun a ha => by
  rcases h.own with ⟨h1, _⟩ | ⟨b, sp, h1, _⟩
  · rw [h1] at ha; cases ha
  · rw [h1] at ha; cases ha; rfl

theorem IxA_St_vec' {H : Heap} {T : TypeId} {t : Sl} {vs : List Value} (h : Vec H T t vs) {i : Int} {j : Nat} {v : Value} {k : Heap → Prop} (hj : i = j) (hl : j < vs.length)
    (hk : ∀ H', Vec H' T t (vs.set j v) → Upd (fun b => t.a = some (adr b)) H H' → H'.size = H.size → k H') : IxA 1 t i fun a => St a v H k := by
  rcases h.own with ⟨_, _, h3⟩ | ⟨b, sp, h1, h2, h3⟩
  · subst h3; simp at hl
  · subst hj
    refine IxA.mk h1 (by omega) (by rw [h.len]; omega) ?_
    rw [Int.toNat_natCast, Nat.mul_one, adr_add]
    refine St_row h2 (by simp; omega) fun H' hU hs hr => hk H' ⟨by simpa using h.len, .inr ⟨b, sp, h1, ?_, by simpa using h3⟩, h.lc⟩ (hU.mono fun _ _ e => e ▸ h1) hs
    rwa [List.set_append_left _ _ hl] at hr
/-- A slice whose elements are n cells each reads as this list. -/
structure RN {α : Type} (f : α → List Value) (n : Nat) (H : Heap) (s : Sl) (xs : List α) : Prop where
  rd : rdL H s.a (xs.flatMap f)
  len : s.len = xs.length
  cap : s.len ≤ s.cap
theorem RN.nil {α : Type} (f : α → List Value) (n : Nat) (H : Heap) : RN f n H ⟨none, 0, 0⟩ [] := ⟨rfl, rfl, Nat.le_refl _⟩
theorem RN.upd {α : Type} {f : α → List Value} {n : Nat} {M : Nat → Prop} {H H' : Heap} (hu : Upd M H H') {s : Sl} {xs : List α} (h : RN f n H s xs) (hn : ∀ a, s.a = some a → ¬ M a.block) : RN f n H' s xs := by
  refine ⟨?_, h.len, h.cap⟩
  have hr := h.rd
  unfold rdL at hr ⊢
  cases ha : s.a with
  | none => rw [ha] at hr; exact hr
  | some a => rw [ha] at hr; exact hcells_upd hu (hn a ha) hr
theorem RN.ext {α : Type} {f : α → List Value} {n : Nat} {H H' : Heap} (hu : Ext H H') {s : Sl} {xs : List α} (h : RN f n H s xs) : RN f n H' s xs := h.upd hu fun _ _ h => h
theorem hcells_drop {H : Heap} {a : Addr} : ∀ {vs : List Value} {i m : Nat}, hcells H a i vs → hcells H a (i + m) (vs.drop m)
  | _, _, 0, h => by simpa using h
  | [], _, _ + 1, _ => by simp [hcells]
  | _ :: _, i, m + 1, h => by
    rw [List.drop_succ_cons, show i + (m + 1) = i + 1 + m by omega]
    exact hcells_drop h.2
theorem hcells_shift {H : Heap} {a : Addr} (hsp : a.spot = none) {n : Nat} : ∀ {vs : List Value} {i : Nat}, hcells H a (n + i) vs → hcells H (a.add n) i vs
  | [], _, _ => trivial
  | _ :: _, i, h => ⟨by rw [add_add _ _ _ hsp]; exact h.1, hcells_shift hsp (by rw [← Nat.add_assoc]; exact h.2)⟩
theorem flat_drop {α : Type} [Inhabited α] {f : α → List Value} {n : Nat} (hf : ∀ e, (f e).length = n) : ∀ {es : List α} {i : Nat}, i < es.length → ∃ rest, (es.flatMap f).drop (i * n) = f (es[i]!) ++ rest
  | e :: es, 0, _ => ⟨es.flatMap f, by simp⟩
  | e :: es, i + 1, h => by
    obtain ⟨r, hr⟩ := flat_drop hf (es := es) (i := i) (by simpa using h)
    refine ⟨r, ?_⟩
    rw [List.flatMap_cons, List.drop_append, List.drop_eq_nil_of_le (by rw [hf, Nat.add_mul]; omega), hf, List.nil_append, show (i + 1) * n - n = i * n by rw [Nat.add_mul]; omega, hr]
    rfl
/-- The address of an element, and its cells there. -/
theorem IxA_rn {α : Type} [Inhabited α] {f : α → List Value} {n : Nat} (hf : ∀ e, (f e).length = n) {H : Heap} {s : Sl} {xs : List α} (h : RN f n H s xs) (hsp : ∀ a, s.a = some a → a.spot = none) (hn : 0 < n) {i : Int} {k : Addr → Prop} {j : Nat} (hj : i = j) (hl : j < xs.length)
    (hk : ∀ a, hcells H a 0 (f xs[j]!) → k a) : IxA n s i k := by
  have hr := h.rd
  unfold rdL at hr
  cases ha : s.a with
  | none =>
    rw [ha] at hr
    have := flat_len hf (es := xs)
    rw [hr] at this
    simp only [List.length_nil] at this
    have : 0 < xs.length * n := Nat.mul_pos (by omega) hn
    omega
  | some a =>
    rw [ha] at hr
    subst hj
    refine IxA.mk ha (by omega) (by rw [h.len]; omega) ?_
    rw [Int.toNat_natCast]
    refine hk _ ?_
    obtain ⟨r, hrest⟩ := flat_drop hf hl
    have h1 := hcells_drop (m := j * n) hr
    rw [hrest, Nat.zero_add] at h1
    have h2 := hcells_take (n := (f xs[j]!).length) h1
    rw [List.take_left] at h2
    exact hcells_shift (hsp a ha) h2
/-- An element's cells. -/
theorem RN.el {α : Type} [Inhabited α] {f : α → List Value} {n : Nat} (hf : ∀ e, (f e).length = n) {H : Heap} {s : Sl} {xs : List α} (h : RN f n H s xs) (hsp : ∀ a, s.a = some a → a.spot = none) (hn : 0 < n) {j : Nat} (hl : j < xs.length) :
    ∃ a, s.a = some a ∧ hcells H (a.add (j * n)) 0 (f xs[j]) := by
  have hr := h.rd
  unfold rdL at hr
  cases ha : s.a with
  | none =>
    rw [ha] at hr
    have := flat_len hf (es := xs)
    rw [hr] at this
    simp only [List.length_nil] at this
    have : 0 < xs.length * n := Nat.mul_pos (by omega) hn
    omega
  | some a =>
    rw [ha] at hr
    refine ⟨a, rfl, ?_⟩
    obtain ⟨r, hrest⟩ := flat_drop hf hl
    have h1 := hcells_drop (m := j * n) hr
    rw [hrest, Nat.zero_add] at h1
    have h2 := hcells_take (n := (f xs[j]!).length) h1
    rw [List.take_left, getElem!_pos xs j hl] at h2
    exact hcells_shift (hsp a ha) h2
theorem VecN.rn {α : Type} {f : α → List Value} {n : Nat} (hf : ∀ e, (f e).length = n) (hn : 0 < n) {H : Heap} {T : TypeId} {s : Sl} {xs : List α} (h : VecN H T n s (xs.flatMap f)) : RN f n H s xs := by
  refine ⟨h.rd, ?_, h.lc⟩
  have := h.len
  rw [flat_len hf] at this
  exact (Nat.eq_of_mul_eq_mul_right hn this).symm
theorem VecN.spot {H : Heap} {T : TypeId} {n : Nat} {s : Sl} {vs : List Value} (h : VecN H T n s vs) : ∀ a, s.a = some a → a.spot = none := fun a ha => by
  rcases h.own with ⟨h1, _⟩ | ⟨b, sp, h1, _⟩
  · rw [h1] at ha; cases ha
  · rw [h1] at ha; cases ha; rfl
end Go.Proofs.YtlkmmplgfjicjaaDoor.Hc
