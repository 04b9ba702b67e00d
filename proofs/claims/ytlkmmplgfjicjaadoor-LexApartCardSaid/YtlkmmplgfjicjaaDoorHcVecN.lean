/-
  Slices that grow, of elements of n cells each.
-/
import Derived.Test.YtlkmmplgfjicjaaDoorHcBytes
namespace Go.Proofs.YtlkmmplgfjicjaaDoor.Hc
set_option linter.unusedVariables false
set_option linter.unusedSimpArgs false

structure VecN (H : Heap) (T : TypeId) (n : Nat) (s : Sl) (vs : List Value) : Prop where
  len : vs.length = s.len * n
  own : (s.a = none ∧ s.cap = 0 ∧ vs = []) ∨ ∃ b sp, s.a = some (adr b) ∧ Row H b T (vs ++ sp) ∧ s.cap * n ≤ vs.length + sp.length
  lc : s.len ≤ s.cap
theorem VecN.nil (H : Heap) (T : TypeId) (n : Nat) : VecN H T n ⟨none, 0, 0⟩ [] := ⟨by simp, .inl ⟨rfl, rfl, rfl⟩, Nat.le_refl _⟩
theorem VecN.rd {H : Heap} {T : TypeId} {n : Nat} {s : Sl} {vs : List Value} (h : VecN H T n s vs) : rdL H s.a vs := by
  rcases h.own with ⟨h1, _, h3⟩ | ⟨b, sp, h1, h2, _⟩
  · rw [h1]; exact h3
  · rw [h1]; exact h2.rd
theorem VecN.upd {M : Nat → Prop} {H H' : Heap} (hu : Upd M H H') {T : TypeId} {n : Nat} {s : Sl} {vs : List Value} (h : VecN H T n s vs) (hn : ∀ b, s.a = some (adr b) → ¬ M b) : VecN H' T n s vs := by
  refine ⟨h.len, ?_, h.lc⟩
  rcases h.own with h1 | ⟨b, sp, h1, h2, h3⟩
  · exact .inl h1
  · exact .inr ⟨b, sp, h1, hu.row h2 (hn b h1), h3⟩
theorem VecN.ext {H H' : Heap} (hu : Ext H H') {T : TypeId} {n : Nat} {s : Sl} {vs : List Value} (h : VecN H T n s vs) : VecN H' T n s vs := h.upd hu fun _ _ h => h
theorem Vec.ext {H H' : Heap} (hu : Ext H H') {T : TypeId} {s : Sl} {vs : List Value} (h : Vec H T s vs) : Vec H' T s vs := h.upd hu fun _ _ h => h
theorem VecN.lt {H : Heap} {T : TypeId} {n : Nat} {s : Sl} {vs : List Value} (h : VecN H T n s vs) {b : Nat} (hb : s.a = some (adr b)) : b < H.size := by
  rcases h.own with ⟨h1, _⟩ | ⟨c, sp, h1, h2, _⟩
  · rw [h1] at hb; cases hb
  · rw [h1] at hb; cases hb; exact h2.lt
theorem VecN.ne {H : Heap} {T T' : TypeId} {n : Nat} {s : Sl} {vs vs' : List Value} (h : VecN H T n s vs) {b b' : Nat} (hb : s.a = some (adr b)) (h' : Row H b' T' vs') (ht : T ≠ T') : b ≠ b' := by
  rcases h.own with ⟨h1, _⟩ | ⟨c, sp, h1, h2, _⟩
  · rw [h1] at hb; cases hb
  · rw [h1] at hb; cases hb; exact h2.ne h' ht
/-- Slices whose elements are of different types lie apart. -/
theorem VecN.apV {H : Heap} {T T' : TypeId} {n : Nat} {s t : Sl} {vs vs' : List Value} (h : VecN H T n s vs) (h' : Vec H T' t vs') (ht : T ≠ T') {b : Nat} (hb : s.a = some (adr b)) (hb' : t.a = some (adr b)) : False := by
  rcases h'.own with ⟨h1, _⟩ | ⟨c, sp, h1, h2, _⟩
  · rw [h1] at hb'; cases hb'
  · rw [h1] at hb'; cases hb'; exact h.ne hb h2 ht rfl
theorem Vec.apV {H : Heap} {T T' : TypeId} {s t : Sl} {vs vs' : List Value} (h : Vec H T s vs) (h' : Vec H T' t vs') (ht : T ≠ T') {b : Nat} (hb : s.a = some (adr b)) (hb' : t.a = some (adr b)) : False := by
  rcases h'.own with ⟨h1, _⟩ | ⟨c, sp, h1, h2, _⟩
  · rw [h1] at hb'; cases hb'
  · rw [h1] at hb'; cases hb'; exact h.ne hb h2 ht rfl
/-- The address of element i. -/
theorem IxA_vecN {H : Heap} {T : TypeId} {n : Nat} {s : Sl} {vs : List Value} (h : VecN H T n s vs) (hn : 0 < n) {i : Int} {k : Addr → Prop} {j : Nat} (hj : i = j) (hl : j < s.len)
    (hk : ∀ b, s.a = some (adr b) → (∀ o, o < n → hcell H ⟨b, j * n + o, none⟩ = vs[j * n + o]?) → k ⟨b, j * n, none⟩) : IxA n s i k := by
  have hl2 : j * n + n ≤ vs.length := by rw [h.len]; calc j * n + n = (j + 1) * n := by rw [Nat.add_mul]; simp
                                         _ ≤ s.len * n := Nat.mul_le_mul_right n hl
  rcases h.own with ⟨_, _, h3⟩ | ⟨b, sp, h1, h2, _⟩
  · subst h3; simp at hl2; omega
  · subst hj
    refine IxA.mk h1 (by omega) (by omega) ?_
    rw [adr_add, Int.toNat_natCast]
    exact hk b h1 fun o ho => by rw [h2.cell, List.getElem?_append_left (by omega)]
theorem zcells_size (z : Array Value) (n : Nat) : (zcells z n).size = n := by unfold zcells; simp
/-- append to a slice of one's own. -/
theorem App_vecN {T : TypeId} {n bytes : Nat} {z : Array Value} {s x : Sl} {H : Heap} {k : Sl → Heap → Prop} {vs ws : List Value} (hz : z.size = n) (hn : 0 < n) (hv : VecN H T n s vs) (hx : rdL H x.a ws) (hxl : ws.length = x.len * n)
    (hone : ∀ w ∈ ws, w.oneCell' = true) (hb : bytes ≠ 0) (hcap : (s.len + x.len + (s.len + x.len) / 4 + 1000) * bytes ≤ 2 ^ 48)
    (hk : ∀ s' H', VecN H' T n s' (vs ++ ws) → s'.len = s.len + x.len → Upd (fun b => s.a = some (adr b) ∧ s.len + x.len ≤ s.cap) H H' → (s'.a = s.a ∧ s.len + x.len ≤ s.cap ∨ s'.a = some (adr H.size)) → k s' H') :
    App T n bytes z s x H k := by
  have hlen := hv.len
  refine ⟨ws, hx, fun _ => by omega, fun hfit => ?_, fun hgrow => ?_⟩
  · rcases hv.own with ⟨h1, h2, h3⟩ | ⟨b, sp, h1, h2, h3⟩
    · rw [h1]
      have hx0 : x.len = 0 := by omega
      have hw : ws = [] := List.eq_nil_of_length_eq_zero (by rw [hxl, hx0]; simp)
      subst hw h3
      refine hk _ H ⟨by simp only [List.append_nil, List.length_nil]; simp at hlen; rw [hx0]; simp; omega, .inl ⟨rfl, by simpa using h2, rfl⟩, hfit⟩ rfl (.refl _ _) (.inl ⟨h1.symm, hfit⟩)
    · rw [h1]
      dsimp only
      rw [adr_add]
      have hm : (s.len + x.len) * n ≤ s.cap * n := Nat.mul_le_mul_right n hfit
      rw [Nat.add_mul] at hm
      refine StL_row h2 (by simp; omega) hone fun H' hU hs hr => ?_
      refine hk _ H' ⟨by simp only [List.length_append, Nat.add_mul]; omega, .inr ⟨b, sp.drop ws.length, rfl, ?_, by simp; omega⟩, hfit⟩ rfl (hU.mono fun b' _ e => ?_) (.inl ⟨h1.symm, hfit⟩)
      · rw [Nat.add_zero, ← hlen, List.take_left, List.drop_append, List.drop_eq_nil_of_le (by omega), List.nil_append] at hr
        rw [show vs.length + ws.length - vs.length = ws.length by omega] at hr
        exact hr
      · obtain ⟨rfl, e⟩ := e; exact ⟨h1, hfit⟩
  · refine ⟨hb, ?_, vs, hv.rd, fun _ => by omega, fun c hc => ?_⟩
    · have := nextcap_le (s.len + x.len) s.cap hgrow
      exact Nat.le_trans (Nat.mul_le_mul_right bytes this) hcap
    · refine hk _ _ ⟨?_, .inr ⟨H.size, (zcells z ((c - (s.len + x.len)) * z.size)).toList, rfl, ?_, ?_⟩, hc⟩ rfl (Upd.push _ _ _) (.inr rfl)
      · simp only [List.length_append, Nat.add_mul]; omega
      · unfold Row
        rw [get_push_new]
        congr 2
        apply Array.ext'; simp
      · simp only [List.length_append, Array.length_toList, zcells_size, hz]
        rw [hlen, hxl, ← Nat.add_mul, ← Nat.add_mul]
        exact Nat.mul_le_mul_right n (by omega)

/-- Elements of n cells each, one behind the other. -/
theorem flat_get {α : Type} {f : α → List Value} {n : Nat} (hf : ∀ e, (f e).length = n) : ∀ {es : List α} {i : Nat} (hi : i < es.length) {o : Nat}, o < n → (es.flatMap f)[i * n + o]? = (f es[i])[o]?
  | e :: es, 0, _, o, ho => by
    simp only [List.flatMap_cons, Nat.zero_mul, Nat.zero_add, List.getElem_cons_zero]
    rw [List.getElem?_append_left (by rw [hf]; exact ho)]
  | e :: es, i + 1, hi, o, ho => by
    simp only [List.flatMap_cons, List.getElem_cons_succ]
    rw [List.getElem?_append_right (by rw [hf, Nat.add_mul]; omega), hf, show (i + 1) * n + o - n = i * n + o by rw [Nat.add_mul]; omega]
    exact flat_get hf (by simpa using hi) ho
theorem flat_len {α : Type} {f : α → List Value} {n : Nat} (hf : ∀ e, (f e).length = n) : ∀ {es : List α}, (es.flatMap f).length = es.length * n
  | [] => by simp
  | e :: es => by rw [List.flatMap_cons, List.length_append, hf, flat_len hf, List.length_cons, Nat.add_mul]; omega
end Go.Proofs.YtlkmmplgfjicjaaDoor.Hc
