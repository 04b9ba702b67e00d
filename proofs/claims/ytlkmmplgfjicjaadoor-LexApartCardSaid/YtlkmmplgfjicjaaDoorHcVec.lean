/-
  Slices that grow: what they hold, and append.
-/
import Derived.Test.YtlkmmplgfjicjaaDoorHcRows
namespace Go.Proofs.YtlkmmplgfjicjaaDoor.Hc
set_option linter.unusedVariables false
set_option linter.unusedSimpArgs false

theorem Row.ne {H : Heap} {b b' : Nat} {T T' : TypeId} {vs vs' : List Value} (h : Row H b T vs) (h' : Row H b' T' vs') (ht : T ≠ T') : b ≠ b' := by
  rintro rfl
  unfold Row at h h'
  rw [h] at h'
  simp only [Option.some.injEq, Obj.cells.injEq] at h'
  exact ht h'.2.1
theorem hcells_iff {H : Heap} {a : Addr} : ∀ {vs : List Value} {i : Nat}, hcells H a i vs ↔ ∀ j, j < vs.length → hcell H (a.add (i + j)) = vs[j]?
  | [], i => by simp [hcells]
  | v :: vs, i => by
    simp only [hcells, hcells_iff (vs := vs)]
    constructor
    · rintro ⟨h0, h⟩ j hj
      cases j with
      | zero => simpa using h0
      | succ j => have := h j (by simpa using hj); rw [show i + (j + 1) = i + 1 + j by omega]; simpa using this
    · intro h
      refine ⟨by simpa using h 0 (by simp), fun j hj => ?_⟩
      have := h (j + 1) (by simpa using hj)
      rw [show i + 1 + j = i + (j + 1) by omega]; simpa using this
/-- The first cells of a row. -/
theorem Row.rd {H : Heap} {b : Nat} {T : TypeId} {vs ws : List Value} (h : Row H b T (vs ++ ws)) : hcells H (adr b) 0 vs := by
  rw [hcells_iff]
  intro j hj
  rw [adr_add, h.cell, Nat.zero_add, List.getElem?_append_left hj]
theorem Row.rd_all {H : Heap} {b : Nat} {T : TypeId} {vs : List Value} (h : Row H b T vs) : hcells H (adr b) 0 vs := Row.rd (ws := []) (by simpa using h)

/-- A slice of one-cell elements that is its holder's own: what it holds; the block behind it is known whole. -/
structure Vec (H : Heap) (T : TypeId) (s : Sl) (vs : List Value) : Prop where
  len : s.len = vs.length
  own : (s.a = none ∧ s.cap = 0 ∧ vs = []) ∨ ∃ b sp, s.a = some (adr b) ∧ Row H b T (vs ++ sp) ∧ s.cap ≤ vs.length + sp.length
  lc : s.len ≤ s.cap
theorem Vec.nil (H : Heap) (T : TypeId) : Vec H T ⟨none, 0, 0⟩ [] := ⟨rfl, .inl ⟨rfl, rfl, rfl⟩, Nat.le_refl _⟩
theorem Vec.rd {H : Heap} {T : TypeId} {s : Sl} {vs : List Value} (h : Vec H T s vs) : rdL H s.a vs := by
  rcases h.own with ⟨h1, _, h3⟩ | ⟨b, sp, h1, h2, _⟩
  · rw [h1]; exact h3
  · rw [h1]; exact h2.rd
theorem Vec.upd {M : Nat → Prop} {H H' : Heap} (hu : Upd M H H') {T : TypeId} {s : Sl} {vs : List Value} (h : Vec H T s vs) (hn : ∀ b, s.a = some (adr b) → ¬ M b) : Vec H' T s vs := by
  refine ⟨h.len, ?_, h.lc⟩
  rcases h.own with h1 | ⟨b, sp, h1, h2, h3⟩
  · exact .inl h1
  · exact .inr ⟨b, sp, h1, hu.row h2 (hn b h1), h3⟩
theorem Vec.lt {H : Heap} {T : TypeId} {s : Sl} {vs : List Value} (h : Vec H T s vs) {b : Nat} (hb : s.a = some (adr b)) : b < H.size := by
  rcases h.own with ⟨h1, _⟩ | ⟨c, sp, h1, h2, _⟩
  · rw [h1] at hb; cases hb
  · rw [h1] at hb; cases hb; exact h2.lt
theorem Vec.ne {H : Heap} {T T' : TypeId} {s : Sl} {vs vs' : List Value} (h : Vec H T s vs) {b b' : Nat} (hb : s.a = some (adr b)) (h' : Row H b' T' vs') (ht : T ≠ T') : b ≠ b' := by
  rcases h.own with ⟨h1, _⟩ | ⟨c, sp, h1, h2, _⟩
  · rw [h1] at hb; cases hb
  · rw [h1] at hb; cases hb; exact h2.ne h' ht
theorem Vec.cell {H : Heap} {T : TypeId} {s : Sl} {vs : List Value} (h : Vec H T s vs) {i : Nat} (hi : i < vs.length) : ∃ b, s.a = some (adr b) ∧ hcell H ⟨b, i, none⟩ = vs[i]? := by
  rcases h.own with ⟨_, _, h3⟩ | ⟨b, sp, h1, h2, _⟩
  · subst h3; simp at hi
  · exact ⟨b, h1, by rw [h2.cell, List.getElem?_append_left hi]⟩
/-- Reading element i. -/
theorem IxA_vec {H : Heap} {T : TypeId} {s : Sl} {vs : List Value} (h : Vec H T s vs) {i : Int} {k : Addr → Prop} (h0 : 0 ≤ i) (h1 : i < (vs.length : Int))
    (hk : ∀ a, hcell H a = vs[i.toNat]? → (∃ b, s.a = some (adr b) ∧ a = ⟨b, i.toNat, none⟩) → k a) : IxA 1 s i k := by
  obtain ⟨b, hb, hc⟩ := h.cell (i := i.toNat) (by omega)
  refine IxA.mk hb h0 (by rw [h.len]; exact h1) ?_
  rw [adr_add, Nat.mul_one]
  exact hk _ hc ⟨b, hb, rfl⟩

theorem growBy_ge (n : Nat) : ∀ (r c : Nat), n ≤ c → Builtin.growBy n r c = c
  | 0, c, _ => rfl
  | r + 1, c, h => by rw [Builtin.growBy, if_pos h]
theorem growBy_le (n : Nat) : ∀ (r c : Nat), c < n → Builtin.growBy n r c ≤ n + n / 4 + 200
  | 0, c, h => by simp only [Builtin.growBy]; omega
  | r + 1, c, h => by
    rw [Builtin.growBy, if_neg (by omega)]
    rcases Nat.lt_or_ge (c + (c + 768) / 4) n with h1 | h1
    · exact growBy_le n r _ h1
    · rw [growBy_ge n r _ h1]; omega
theorem nextcap_le (n c : Nat) (h : c < n) : Builtin.nextslicecap n c ≤ n + n / 4 + 1000 := by
  unfold Builtin.nextslicecap
  split
  · omega
  · split
    · omega
    · have := growBy_le n 4 c h
      omega

theorem StL_row {b o : Nat} {T : TypeId} : ∀ {ws : List Value} {i : Nat} {H : Heap} {k : Heap → Prop} {cs : List Value}, Row H b T cs → o + i + ws.length ≤ cs.length → (∀ w ∈ ws, w.oneCell' = true) →
    (∀ H', Upd (fun x => x = b ∧ ws ≠ []) H H' → H'.size = H.size → Row H' b T (cs.take (o + i) ++ ws ++ cs.drop (o + i + ws.length)) → k H') → StL ⟨b, o, none⟩ i ws H k
  | [], i, H, k, cs, h, hl, _, hk => by
    refine hk H (.refl _ _) rfl ?_
    simpa using h
  | w :: ws, i, H, k, cs, h, hl, h1, hk => by
    simp only [StL, mk_add]
    simp only [List.length_cons] at hl
    refine ⟨h1 w (by simp), St_row h (by omega) fun H1 hU hs hr => ?_⟩
    refine StL_row hr (by simp; omega) (fun x hx => h1 x (by simp [hx])) fun H2 hU2 hs2 hr2 => ?_
    refine hk H2 ((hU.mono fun _ _ e => ⟨e, by simp⟩).trans hU2 fun _ _ e => ⟨e.1, by simp⟩) (hs2.trans hs) ?_
    have e : (cs.set (o + i) w).take (o + (i + 1)) ++ ws ++ (cs.set (o + i) w).drop (o + (i + 1) + ws.length) = cs.take (o + i) ++ (w :: ws) ++ cs.drop (o + i + (w :: ws).length) := by
      have ht : (cs.set (o + i) w).take (o + (i + 1)) = cs.take (o + i) ++ [w] := by
        rw [show o + (i + 1) = o + i + 1 by omega, List.take_add_one, List.getElem?_set_self (by omega), List.take_set_of_le (by omega)]; rfl
      rw [ht, List.drop_set_of_lt (by omega)]
      simp only [List.length_cons, List.append_assoc, List.singleton_append, List.cons_append, List.nil_append]
      rw [show o + (i + 1) + ws.length = o + i + (ws.length + 1) by omega]
    rw [e] at hr2
    exact hr2

/-- append to a slice of one's own. -/
theorem App_vec2 {T : TypeId} {bytes : Nat} {z : Value} {s x : Sl} {H : Heap} {k : Sl → Heap → Prop} {vs ws : List Value} (hv : Vec H T s vs) (hx : rdL H x.a ws) (hxl : ws.length = x.len)
    (hone : ∀ w ∈ ws, w.oneCell' = true) (hb : bytes ≠ 0) (hcap : (vs.length + ws.length + (vs.length + ws.length) / 4 + 1000) * bytes ≤ 2 ^ 48)
    (hk : ∀ s' H', Vec H' T s' (vs ++ ws) → Upd (fun b => s.a = some (adr b) ∧ s.len + x.len ≤ s.cap ∧ ws ≠ []) H H' → (s'.a = s.a ∧ s.len + x.len ≤ s.cap ∨ s'.a = some (adr H.size)) → H.size ≤ H'.size → k s' H') :
    App T 1 bytes #[z] s x H k := by
  have hlen := hv.len
  refine ⟨ws, hx, fun _ => by omega, fun hfit => ?_, fun hgrow => ?_⟩
  · rcases hv.own with ⟨h1, h2, h3⟩ | ⟨b, sp, h1, h2, h3⟩
    · rw [h1]
      have hw : ws = [] := List.eq_nil_of_length_eq_zero (by omega)
      subst hw h3
      refine hk _ H ⟨by simp at hxl; simp; omega, .inl ⟨rfl, by simpa using h2, rfl⟩, hfit⟩ (.refl _ _) (.inl ⟨h1.symm, hfit⟩) (Nat.le_refl _)
    · rw [h1]
      dsimp only
      rw [adr_add, Nat.mul_one]
      have hl : vs.length ≤ s.len := by omega
      refine StL_row h2 (by simp; omega) hone fun H' hU hs hr => ?_
      refine hk _ H' ⟨by simp; omega, .inr ⟨b, sp.drop ws.length, rfl, ?_, by simp; omega⟩, hfit⟩ (hU.mono fun b' _ e => ?_) (.inl ⟨h1.symm, hfit⟩) (by omega)
      · rw [hlen, Nat.add_zero, List.take_left, List.drop_append, List.drop_eq_nil_of_le (by omega), List.nil_append] at hr
        rw [show vs.length + ws.length - vs.length = ws.length by omega] at hr
        exact hr
      · obtain ⟨rfl, e⟩ := e; exact ⟨h1, hfit, e⟩
  · refine ⟨hb, ?_, vs, hv.rd, fun _ => by omega, fun c hc => ?_⟩
    · have := nextcap_le (s.len + x.len) s.cap hgrow
      refine Nat.le_trans (Nat.mul_le_mul_right bytes this) ?_
      rw [hlen, ← hxl]; exact hcap
    · have e : (⟨vs⟩ ++ ⟨ws⟩ ++ zcells #[z] ((c - (s.len + x.len)) * (#[z] : Array Value).size) : Array Value) = ⟨vs ++ ws ++ List.replicate (c - (s.len + x.len)) z⟩ := by
        rw [zcells_one]; apply Array.ext'; simp
      rw [e]
      refine hk _ _ ⟨by simp; omega, .inr ⟨H.size, List.replicate (c - (s.len + x.len)) z, rfl, get_push_new _ _, by simp; omega⟩, hc⟩ (Upd.push _ _ _) (.inr rfl) (by simp)
theorem App_vec {T : TypeId} {bytes : Nat} {z : Value} {s x : Sl} {H : Heap} {k : Sl → Heap → Prop} {vs ws : List Value} (hv : Vec H T s vs) (hx : rdL H x.a ws) (hxl : ws.length = x.len)
    (hone : ∀ w ∈ ws, w.oneCell' = true) (hb : bytes ≠ 0) (hcap : (vs.length + ws.length + (vs.length + ws.length) / 4 + 1000) * bytes ≤ 2 ^ 48)
    (hk : ∀ s' H', Vec H' T s' (vs ++ ws) → Upd (fun b => s.a = some (adr b) ∧ s.len + x.len ≤ s.cap ∧ ws ≠ []) H H' → (s'.a = s.a ∨ s'.a = some (adr H.size)) → H.size ≤ H'.size → k s' H') :
    App T 1 bytes #[z] s x H k :=
  App_vec2 hv hx hxl hone hb hcap fun s' H' h1 h2 h3 h4 => hk s' H' h1 h2 (h3.imp (·.1) id) h4
end Go.Proofs.YtlkmmplgfjicjaaDoor.Hc
