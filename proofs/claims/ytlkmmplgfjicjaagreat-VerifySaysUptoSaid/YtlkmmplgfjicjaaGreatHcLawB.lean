/-
  Blocks that are rows of one-cell elements: reading, storing, making.
-/
import Derived.Test.YtlkmmplgfjicjaaGreatHcHeap
import GoSem.ClaimChange
import Derived.SizedLaws
import Derived.Below
import Derived.ProofKit
namespace Go.Proofs.YtlkmmplgfjicjaaGreat.Hc
set_option linter.unusedVariables false
set_option linter.unusedSimpArgs false

/-- Block b holds just these cells. -/
def Row (H : Heap) (b : Nat) (T : TypeId) (vs : List Value) : Prop := H[b]? = some (.cells ⟨vs⟩ T (0, 0))
theorem Row.lt {H : Heap} {b : Nat} {T : TypeId} {vs : List Value} (h : Row H b T vs) : b < H.size := lt_of_get h
theorem Row.cell {H : Heap} {b : Nat} {T : TypeId} {vs : List Value} (h : Row H b T vs) (i : Nat) : hcell H ⟨b, i, none⟩ = vs[i]? := by
  rw [cell_blk h]; simp
theorem Upd.row {M : Nat → Prop} {H H' : Heap} (h : Upd M H H') {b : Nat} {T : TypeId} {vs : List Value} (hb : Row H b T vs) (hn : ¬ M b) : Row H' b T vs := h.keep hb hn
theorem St_row {b i : Nat} {v : Value} {H : Heap} {k : Heap → Prop} {T : TypeId} {vs : List Value} (h : Row H b T vs) (hi : i < vs.length)
    (hk : ∀ H', Upd (· = b) H H' → H'.size = H.size → Row H' b T (vs.set i v) → k H') : St ⟨b, i, none⟩ v H k := by
  refine St_blk h (by simpa using hi) fun H' h1 h2 h3 => hk H' h1 h2 ?_
  unfold Row; rw [h3]; simp
theorem IxA_adr {size b len cap : Nat} {i : Int} {k : Addr → Prop} (h0 : 0 ≤ i) (h1 : i < (len : Int)) (hk : k ⟨b, i.toNat * size, none⟩) : IxA size ⟨some (adr b), len, cap⟩ i k :=
  IxA.mk rfl h0 h1 (by simpa using hk)
theorem zcells_one (z : Value) (n : Nat) : zcells #[z] n = ⟨List.replicate n z⟩ := by
  unfold zcells
  apply Array.ext'
  simp only [Array.toList_map, Array.toList_range]
  apply List.ext_getElem
  · simp
  · intro i h1 h2; simp [Nat.mod_one]
theorem Mks_row {T : TypeId} {bytes : Nat} {z : Value} {n : Int} {H : Heap} {k : Sl → Heap → Prop} (h0 : 0 ≤ n) (h1 : n < 9223372036854775808) (hb : (bytes : Int) * n ≤ 2 ^ 48)
    (hk : ∀ b H', b = H.size → Ext H H' → H'.size = H.size + 1 → Row H' b T (List.replicate n.toNat z) → k ⟨some (adr b), n.toNat, n.toNat⟩ H') : Mks T 1 bytes #[z] n n H k := by
  unfold Mks
  rw [wrap_i64_id (by omega) h1]
  refine ⟨h0, by omega, hb, ?_⟩
  rw [Nat.mul_one, zcells_one]
  exact hk _ _ rfl (Upd.push _ _ _) (by simp) (get_push_new _ _)
/-- A new block with these cells. -/
theorem Nw_row {vs : List Value} {t : TypeId} {H : Heap} {k : Nat → Heap → Prop}
    (h : ∀ b H', b = H.size → Ext H H' → H'.size = H.size + 1 → Row H' b t vs → k b H') : Nw ⟨vs⟩ t H k :=
  Nw_blk fun b H' h1 h2 h3 h4 => h b H' h1 h2 h3 h4

abbrev ints (xs : List Int) : List Value := xs.map (Value.int .i64)
theorem ints_get {xs : List Int} {i : Nat} (h : i < xs.length) : (ints xs)[i]? = some (.int .i64 (xs.getD i 0)) := by
  simp [List.getElem?_eq_getElem h]
theorem ints_set (xs : List Int) (i : Nat) (x : Int) : (ints xs).set i (.int .i64 x) = ints (xs.set i x) := by simp [ints, List.map_set]
def iota (n : Nat) : List Int := (List.range n).map Int.ofNat
theorem iota_len (n : Nat) : (iota n).length = n := by simp [iota]
theorem iota_succ (n : Nat) : iota (n + 1) = iota n ++ [(n : Int)] := by simp [iota, List.range_succ]
theorem iota_step {n i : Nat} (h : i < n) : (iota i ++ List.replicate (n - i) 0).set i (i : Int) = iota (i + 1) ++ List.replicate (n - (i + 1)) 0 := by
  rw [List.set_append_right _ _ (by rw [iota_len]; exact Nat.le_refl _), iota_len, Nat.sub_self, iota_succ]
  obtain ⟨m, hm⟩ : ∃ m, n - i = m + 1 := ⟨n - i - 1, by omega⟩
  rw [hm, List.replicate_succ, List.set_cons_zero, show n - (i + 1) = m by omega]
  simp
theorem mem_iota {n : Nat} {x : Int} : x ∈ iota n ↔ 0 ≤ x ∧ x < n := by
  simp only [iota, List.mem_map, List.mem_range]
  constructor
  · rintro ⟨a, h, rfl⟩; exact ⟨Int.natCast_nonneg a, by simp; omega⟩
  · rintro ⟨h0, h1⟩; exact ⟨x.toNat, by omega, by simp; omega⟩
theorem nodup_iota (n : Nat) : (iota n).Nodup := by
  unfold iota
  rw [List.nodup_iff_pairwise_ne, List.pairwise_map]
  exact List.Pairwise.imp (fun {a b} (h : a < b) => by simp; omega) List.pairwise_lt_range
end Go.Proofs.YtlkmmplgfjicjaaGreat.Hc
/-
  Slices that grow: what they hold, and append.
-/
namespace Go.Proofs.YtlkmmplgfjicjaaGreat.Hc
set_option linter.unusedVariables false
set_option linter.unusedSimpArgs false

theorem Row.ne {H : Heap} {b b' : Nat} {T T' : TypeId} {vs vs' : List Value} (h : Row H b T vs) (h' : Row H b' T' vs') (ht : T ≠ T') : b ≠ b' := by
  rintro rfl
  unfold Row at h h'
  rw [h] at h'
  simp only [Option.some.injEq, Obj.cells.injEq] at h'
  exact ht h'.2.1
theorem hcells_iff {H : Heap} {a : Addr} : ∀ {vs : List Value} {i : Nat}, hcells H a i vs ↔ ∀ j, j < vs.length → hcell H (a.add (i + j)) = vs[j]?
  | [], i => by simp [hcells]
  | v :: vs, i => by
    simp only [hcells, hcells_iff (vs := vs)]
    constructor
    · rintro ⟨h0, h⟩ j hj
      cases j with
      | zero => simpa using h0
      | succ j => have := h j (by simpa using hj); rw [show i + (j + 1) = i + 1 + j by omega]; simpa using this
    · intro h
      refine ⟨by simpa using h 0 (by simp), fun j hj => ?_⟩
      have := h (j + 1) (by simpa using hj)
      rw [show i + 1 + j = i + (j + 1) by omega]; simpa using this
/-- The first cells of a row. -/
theorem Row.rd {H : Heap} {b : Nat} {T : TypeId} {vs ws : List Value} (h : Row H b T (vs ++ ws)) : hcells H (adr b) 0 vs := by
  rw [hcells_iff]
  intro j hj
  rw [adr_add, h.cell, Nat.zero_add, List.getElem?_append_left hj]
theorem Row.rd_all {H : Heap} {b : Nat} {T : TypeId} {vs : List Value} (h : Row H b T vs) : hcells H (adr b) 0 vs := Row.rd (ws := []) (by simpa using h)

/-- A slice of one-cell elements that is its holder's own: what it holds; the block behind it is known whole. -/
structure Vec (H : Heap) (T : TypeId) (s : Sl) (vs : List Value) : Prop where
  len : s.len = vs.length
  own : (s.a = none ∧ s.cap = 0 ∧ vs = []) ∨ ∃ b sp, s.a = some (adr b) ∧ Row H b T (vs ++ sp) ∧ s.cap ≤ vs.length + sp.length
  lc : s.len ≤ s.cap
theorem Vec.nil (H : Heap) (T : TypeId) : Vec H T ⟨none, 0, 0⟩ [] := ⟨rfl, .inl ⟨rfl, rfl, rfl⟩, Nat.le_refl _⟩
theorem Vec.rd {H : Heap} {T : TypeId} {s : Sl} {vs : List Value} (h : Vec H T s vs) : rdL H s.a vs := by
  rcases h.own with ⟨h1, _, h3⟩ | ⟨b, sp, h1, h2, _⟩
  · rw [h1]; exact h3
  · rw [h1]; exact h2.rd
theorem Vec.upd {M : Nat → Prop} {H H' : Heap} (hu : Upd M H H') {T : TypeId} {s : Sl} {vs : List Value} (h : Vec H T s vs) (hn : ∀ b, s.a = some (adr b) → ¬ M b) : Vec H' T s vs := by
  refine ⟨h.len, ?_, h.lc⟩
  rcases h.own with h1 | ⟨b, sp, h1, h2, h3⟩
  · exact .inl h1
  · exact .inr ⟨b, sp, h1, hu.row h2 (hn b h1), h3⟩
theorem Vec.lt {H : Heap} {T : TypeId} {s : Sl} {vs : List Value} (h : Vec H T s vs) {b : Nat} (hb : s.a = some (adr b)) : b < H.size := by
  rcases h.own with ⟨h1, _⟩ | ⟨c, sp, h1, h2, _⟩
  · rw [h1] at hb; cases hb
  · rw [h1] at hb; cases hb; exact h2.lt
theorem Vec.ne {H : Heap} {T T' : TypeId} {s : Sl} {vs vs' : List Value} (h : Vec H T s vs) {b b' : Nat} (hb : s.a = some (adr b)) (h' : Row H b' T' vs') (ht : T ≠ T') : b ≠ b' := by
  rcases h.own with ⟨h1, _⟩ | ⟨c, sp, h1, h2, _⟩
  · rw [h1] at hb; cases hb
  · rw [h1] at hb; cases hb; exact h2.ne h' ht
theorem Vec.cell {H : Heap} {T : TypeId} {s : Sl} {vs : List Value} (h : Vec H T s vs) {i : Nat} (hi : i < vs.length) : ∃ b, s.a = some (adr b) ∧ hcell H ⟨b, i, none⟩ = vs[i]? := by
  rcases h.own with ⟨_, _, h3⟩ | ⟨b, sp, h1, h2, _⟩
  · subst h3; simp at hi
  · exact ⟨b, h1, by rw [h2.cell, List.getElem?_append_left hi]⟩
/-- Reading element i. -/
theorem IxA_vec {H : Heap} {T : TypeId} {s : Sl} {vs : List Value} (h : Vec H T s vs) {i : Int} {k : Addr → Prop} (h0 : 0 ≤ i) (h1 : i < (vs.length : Int))
    (hk : ∀ a, hcell H a = vs[i.toNat]? → (∃ b, s.a = some (adr b) ∧ a = ⟨b, i.toNat, none⟩) → k a) : IxA 1 s i k := by
  obtain ⟨b, hb, hc⟩ := h.cell (i := i.toNat) (by omega)
  refine IxA.mk hb h0 (by rw [h.len]; exact h1) ?_
  rw [adr_add, Nat.mul_one]
  exact hk _ hc ⟨b, hb, rfl⟩

theorem growBy_ge (n : Nat) : ∀ (r c : Nat), n ≤ c → Builtin.growBy n r c = c
  | 0, c, _ => rfl
  | r + 1, c, h => by rw [Builtin.growBy, if_pos h]
theorem growBy_le (n : Nat) : ∀ (r c : Nat), c < n → Builtin.growBy n r c ≤ n + n / 4 + 200
  | 0, c, h => by simp only [Builtin.growBy]; omega
  | r + 1, c, h => by
    rw [Builtin.growBy, if_neg (by omega)]
    rcases Nat.lt_or_ge (c + (c + 768) / 4) n with h1 | h1
    · exact growBy_le n r _ h1
    · rw [growBy_ge n r _ h1]; omega
theorem nextcap_le (n c : Nat) (h : c < n) : Builtin.nextslicecap n c ≤ n + n / 4 + 1000 := by
  unfold Builtin.nextslicecap
  split
  · omega
  · split
    · omega
    · have := growBy_le n 4 c h
      omega

theorem StL_row {b o : Nat} {T : TypeId} : ∀ {ws : List Value} {i : Nat} {H : Heap} {k : Heap → Prop} {cs : List Value}, Row H b T cs → o + i + ws.length ≤ cs.length → (∀ w ∈ ws, w.oneCell' = true) →
    (∀ H', Upd (fun x => x = b ∧ ws ≠ []) H H' → H'.size = H.size → Row H' b T (cs.take (o + i) ++ ws ++ cs.drop (o + i + ws.length)) → k H') → StL ⟨b, o, none⟩ i ws H k
  | [], i, H, k, cs, h, hl, _, hk => by
    refine hk H (.refl _ _) rfl ?_
    simpa using h
  | w :: ws, i, H, k, cs, h, hl, h1, hk => by
    simp only [StL, mk_add]
    simp only [List.length_cons] at hl
    refine ⟨h1 w (by simp), St_row h (by omega) fun H1 hU hs hr => ?_⟩
    refine StL_row hr (by simp; omega) (fun x hx => h1 x (by simp [hx])) fun H2 hU2 hs2 hr2 => ?_
    refine hk H2 ((hU.mono fun _ _ e => ⟨e, by simp⟩).trans hU2 fun _ _ e => ⟨e.1, by simp⟩) (hs2.trans hs) ?_
    have e : (cs.set (o + i) w).take (o + (i + 1)) ++ ws ++ (cs.set (o + i) w).drop (o + (i + 1) + ws.length) = cs.take (o + i) ++ (w :: ws) ++ cs.drop (o + i + (w :: ws).length) := by
      have ht : (cs.set (o + i) w).take (o + (i + 1)) = cs.take (o + i) ++ [w] := by
        rw [show o + (i + 1) = o + i + 1 by omega, List.take_add_one, List.getElem?_set_self (by omega), List.take_set_of_le (by omega)]; rfl
      rw [ht, List.drop_set_of_lt (by omega)]
      simp only [List.length_cons, List.append_assoc, List.singleton_append, List.cons_append, List.nil_append]
      rw [show o + (i + 1) + ws.length = o + i + (ws.length + 1) by omega]
    rw [e] at hr2
    exact hr2

/-- append to a slice of one's own. -/
theorem App_vec2 {T : TypeId} {bytes : Nat} {z : Value} {s x : Sl} {H : Heap} {k : Sl → Heap → Prop} {vs ws : List Value} (hv : Vec H T s vs) (hx : rdL H x.a ws) (hxl : ws.length = x.len)
    (hone : ∀ w ∈ ws, w.oneCell' = true) (hb : bytes ≠ 0) (hcap : (vs.length + ws.length + (vs.length + ws.length) / 4 + 1000) * bytes ≤ 2 ^ 48)
    (hk : ∀ s' H', Vec H' T s' (vs ++ ws) → Upd (fun b => s.a = some (adr b) ∧ s.len + x.len ≤ s.cap ∧ ws ≠ []) H H' → (s'.a = s.a ∧ s.len + x.len ≤ s.cap ∨ s'.a = some (adr H.size)) → H.size ≤ H'.size → k s' H') :
    App T 1 bytes #[z] s x H k := by
  have hlen := hv.len
  refine ⟨ws, hx, fun _ => by omega, fun hfit => ?_, fun hgrow => ?_⟩
  · rcases hv.own with ⟨h1, h2, h3⟩ | ⟨b, sp, h1, h2, h3⟩
    · rw [h1]
      have hw : ws = [] := List.eq_nil_of_length_eq_zero (by omega)
      subst hw h3
      refine hk _ H ⟨by simp at hxl; simp; omega, .inl ⟨rfl, by simpa using h2, rfl⟩, hfit⟩ (.refl _ _) (.inl ⟨h1.symm, hfit⟩) (Nat.le_refl _)
    · rw [h1]
      dsimp only
      rw [adr_add, Nat.mul_one]
      have hl : vs.length ≤ s.len := by omega
      refine StL_row h2 (by simp; omega) hone fun H' hU hs hr => ?_
      refine hk _ H' ⟨by simp; omega, .inr ⟨b, sp.drop ws.length, rfl, ?_, by simp; omega⟩, hfit⟩ (hU.mono fun b' _ e => ?_) (.inl ⟨h1.symm, hfit⟩) (by omega)
      · rw [hlen, Nat.add_zero, List.take_left, List.drop_append, List.drop_eq_nil_of_le (by omega), List.nil_append] at hr
        rw [show vs.length + ws.length - vs.length = ws.length by omega] at hr
        exact hr
      · obtain ⟨rfl, e⟩ := e; exact ⟨h1, hfit, e⟩
  · refine ⟨hb, ?_, vs, hv.rd, fun _ => by omega, fun c hc => ?_⟩
    · have := nextcap_le (s.len + x.len) s.cap hgrow
      refine Nat.le_trans (Nat.mul_le_mul_right bytes this) ?_
      rw [hlen, ← hxl]; exact hcap
    · have e : (⟨vs⟩ ++ ⟨ws⟩ ++ zcells #[z] ((c - (s.len + x.len)) * (#[z] : Array Value).size) : Array Value) = ⟨vs ++ ws ++ List.replicate (c - (s.len + x.len)) z⟩ := by
        rw [zcells_one]; apply Array.ext'; simp
      rw [e]
      refine hk _ _ ⟨by simp; omega, .inr ⟨H.size, List.replicate (c - (s.len + x.len)) z, rfl, get_push_new _ _, by simp; omega⟩, hc⟩ (Upd.push _ _ _) (.inr rfl) (by simp)
theorem App_vec {T : TypeId} {bytes : Nat} {z : Value} {s x : Sl} {H : Heap} {k : Sl → Heap → Prop} {vs ws : List Value} (hv : Vec H T s vs) (hx : rdL H x.a ws) (hxl : ws.length = x.len)
    (hone : ∀ w ∈ ws, w.oneCell' = true) (hb : bytes ≠ 0) (hcap : (vs.length + ws.length + (vs.length + ws.length) / 4 + 1000) * bytes ≤ 2 ^ 48)
    (hk : ∀ s' H', Vec H' T s' (vs ++ ws) → Upd (fun b => s.a = some (adr b) ∧ s.len + x.len ≤ s.cap ∧ ws ≠ []) H H' → (s'.a = s.a ∨ s'.a = some (adr H.size)) → H.size ≤ H'.size → k s' H') :
    App T 1 bytes #[z] s x H k :=
  App_vec2 hv hx hxl hone hb hcap fun s' H' h1 h2 h3 h4 => hk s' H' h1 h2 (h3.imp (·.1) id) h4
end Go.Proofs.YtlkmmplgfjicjaaGreat.Hc
/-
  What a reading of an argument says of the heap.
-/
namespace Go.Proofs.YtlkmmplgfjicjaaGreat.Hc
set_option linter.unusedVariables false
set_option linter.unusedSimpArgs false

def RdC (P : Program) (H : Heap) : Nat → TypeId → List Value → Prop
  | 0, _, _ => False
  | f + 1, t, cs => match P.underlying t with
    | some .bool => ∃ b, cs = [.bool b]
    | some (.int k) => ∃ n, cs = [.int k n] ∧ k.min ≤ n ∧ n ≤ k.max
    | some .string => ∃ s, cs = [.string s] ∧ s.size ≤ reachBytes
    | some (.pointer e) => cs = [.pointer none] ∨ ∃ a xs, cs = [.pointer (some a)] ∧ xs.length = P.cellsOf e ∧ hcells H a 0 xs ∧ RdC P H f e xs
    | some (.slice e) => cs = [.slice none 0 0] ∨ ∃ a len cap, cs = [.slice (some a) len cap] ∧ len ≤ cap ∧ (cap ≤ maxLen ∧ cap * P.bytesOf e ≤ reachBytes) ∧
        ∀ i, i < cap → ∃ xs, xs.length = P.cellsOf e ∧ hcells H (a.add (i * P.cellsOf e)) 0 xs ∧ RdC P H f e xs
    | some (.struct fs) => cs.length = P.cellsOf t ∧ ∀ g ∈ fs.toList, RdC P H f g.type ((cs.drop g.offset).take (P.cellsOf g.type))
    | some (.array n e) => cs.length = P.cellsOf t ∧ ∀ i, i < n → RdC P H f e ((cs.drop (i * P.cellsOf e)).take (P.cellsOf e))
    | _ => True

theorem mapM_some_get {α β : Type} {f : α → Option β} : ∀ {l : List α} {ys : List β}, l.mapM f = some ys → ys.length = l.length ∧ ∀ (i : Nat) (x : α), l[i]? = some x → ∃ y, ys[i]? = some y ∧ f x = some y
  | [], ys, h => by simp at h; subst h; exact ⟨rfl, fun i x hx => by simp at hx⟩
  | a :: l, ys, h => by
    simp only [List.mapM_cons, Option.bind_eq_bind, Option.bind_eq_some_iff] at h
    obtain ⟨y, hy, zs, hzs, he⟩ := h
    cases he
    obtain ⟨h1, h2⟩ := mapM_some_get hzs
    refine ⟨by simp [h1], fun i x hx => ?_⟩
    cases i with
    | zero => simp at hx; subst hx; exact ⟨y, rfl, hy⟩
    | succ i => exact h2 i x (by simpa using hx)
theorem weights_all {H : Type} {P : Program} {e : TypeId} : ∀ {ds : List (DataW H)} {d : DataW H}, d ∈ ds → ∀ n ∈ d.weights P e, n ∈ DataW.weightsAll P e ds
  | c :: r, d, h, n, hn => by
    rw [DataW.weightsAll, List.mem_append]
    rcases List.mem_cons.1 h with rfl | h
    · exact .inl hn
    · exact .inr (weights_all h n hn)
theorem mapM_range_hcells {w : World} {a : Addr} : ∀ {n i : Nat} {xs : List Value}, (List.range' i n).mapM (fun i => w.cell? (a.add i)) = some xs → xs.length = n ∧ hcells w.heap a i xs
  | 0, i, xs, h => by simp at h; subst h; exact ⟨rfl, trivial⟩
  | n + 1, i, xs, h => by
    simp only [List.range'_succ, List.mapM_cons, Option.bind_eq_bind, Option.bind_eq_some_iff] at h
    obtain ⟨y, hy, zs, hzs, he⟩ := h
    obtain ⟨h1, h2⟩ := mapM_range_hcells hzs
    cases he
    exact ⟨by simp [h1], hy, h2⟩
theorem cells?_hcells {w : World} {base : Nat} {a : Addr} {n : Nat} {xs : List Value} (h : w.cells? base a n = some xs) : xs.length = n ∧ hcells w.heap a 0 xs := by
  unfold World.cells? at h
  split at h
  · rw [List.range_eq_range'] at h; exact mapM_range_hcells h
  · cases h

theorem rd_of_trod {X : Type} {enc : TypeId × Value → X} {P : Program} {w : World} {base : Nat} {held : Bool} : ∀ {f : Nat} {t : TypeId} {cs : List Value} {d : DataW X} {ps : List MemPlace},
    DataW.trod enc P w base (fun _ => true) held f t cs = some (d, ps) → (∀ n ∈ d.weights P t, n ≤ reachBytes) → RdC P w.heap f t cs
  | 0, t, cs, d, ps, h, hwt => by simp [DataW.trod] at h
  | f + 1, t, cs, d, ps, h, hwt => by
    unfold DataW.trod at h
    unfold RdC
    split at h
    case h_1 b hu => rw [hu]; exact ⟨b, rfl⟩
    case h_2 k k' n hu =>
      rw [hu]
      split at h
      · rename_i hc
        obtain ⟨rfl, hw⟩ := hc
        simp only [Lit.wf, Bool.and_eq_true, decide_eq_true_eq] at hw
        exact ⟨n, rfl, hw.1, hw.2⟩
      · cases h
    case h_3 => rename_i hu; rw [hu]; trivial
    case h_4 s hu =>
      rw [hu]
      split at h
      · simp only [Option.some.injEq, Prod.mk.injEq] at h
        obtain ⟨rfl, rfl⟩ := h
        refine ⟨s, rfl, hwt _ ?_⟩
        simp [DataW.weights]
      · cases h
    case h_5 => rename_i hu; rw [hu]; exact .inl rfl
    case h_6 e a hu =>
      rw [hu]
      simp only [Option.map_eq_some_iff, Option.bind_eq_some_iff] at h
      obtain ⟨x, ⟨xs, hxs, hx⟩, hd⟩ := h
      obtain ⟨h1, h2⟩ := cells?_hcells hxs
      obtain ⟨d', ps'⟩ := x
      simp only [Prod.mk.injEq] at hd
      obtain ⟨rfl, _⟩ := hd
      refine .inr ⟨a, xs, rfl, h1, h2, rd_of_trod hx fun n hn => hwt n ?_⟩
      rw [DataW.weights, hu]; exact hn
    case h_7 => rename_i hu; rw [hu]; exact .inl rfl
    case h_8 e a len cap hu =>
      rw [hu]
      dsimp only at h
      split at h
      · rename_i hc
        obtain ⟨_, hlc, hcap⟩ := hc
        simp only [if_true, Option.bind_eq_some_iff, Option.map_eq_some_iff] at h
        obtain ⟨es, hes, rs, hrs, hd⟩ := h
        simp only [Option.some.injEq, Prod.mk.injEq] at hd
        obtain ⟨rfl, _⟩ := hd
        obtain ⟨l1, g1⟩ := mapM_some_get hes
        obtain ⟨l2, g2⟩ := mapM_some_get hrs
        simp only [DataW.weights, hu] at hwt
        refine .inr ⟨a, len, cap, rfl, hlc, ⟨hcap, ?_⟩, fun i hi => ?_⟩
        · have := hwt _ (List.mem_cons_self ..)
          simp only [List.length_map, l1, l2, List.length_range] at this
          rwa [show len + (cap - len) = cap by omega] at this
        have key : ∃ y : DataW X × List MemPlace, (w.cells? base (a.add (i * P.cellsOf e)) (P.cellsOf e)).bind (DataW.trod enc P w base (fun _ => true) held f e) = some y ∧ ∀ n ∈ y.1.weights P e, n ≤ reachBytes := by
          rcases Nat.lt_or_ge i len with hl | hl
          · obtain ⟨y, h1, h2⟩ := g1 i i (by simp [hl])
            refine ⟨y, h2, fun n hn => hwt n ?_⟩
            refine List.mem_cons_of_mem _ (List.mem_append_left _ (weights_all (List.mem_map.2 ⟨y, List.mem_of_getElem? h1, rfl⟩) n hn))
          · obtain ⟨y, h1, h2⟩ := g2 (i - len) (i - len) (by rw [List.getElem?_range (by omega)])
            rw [show len + (i - len) = i by omega] at h2
            refine ⟨y, h2, fun n hn => hwt n ?_⟩
            refine List.mem_cons_of_mem _ (List.mem_append_right _ (weights_all (List.mem_map.2 ⟨y, List.mem_of_getElem? h1, rfl⟩) n hn))
        obtain ⟨⟨d', ps'⟩, hy, hwy⟩ := key
        simp only [Option.bind_eq_some_iff] at hy
        obtain ⟨xs, hxs, hx⟩ := hy
        obtain ⟨h1, h2⟩ := cells?_hcells hxs
        exact ⟨xs, h1, h2, rd_of_trod hx hwy⟩
      · cases h
    case h_9 fs _ hu =>
      rw [hu]
      split at h
      · rename_i hl
        simp only [Option.map_eq_some_iff] at h
        obtain ⟨xs, hxs, hd⟩ := h
        simp only [Prod.mk.injEq] at hd
        obtain ⟨rfl, _⟩ := hd
        obtain ⟨l1, g1⟩ := mapM_some_get hxs
        simp only [DataW.weights, hu] at hwt
        refine ⟨hl, fun g hg => ?_⟩
        obtain ⟨i, hi, hgi⟩ := List.getElem_of_mem hg
        obtain ⟨y, hy1, hy⟩ := g1 i g (by rw [List.getElem?_eq_getElem hi, hgi])
        obtain ⟨d', ps'⟩ := y
        exact rd_of_trod hy fun n hn => hwt n (DataW.weights_mem_each (j := i) (by rw [List.getElem?_map, List.getElem?_eq_getElem hi, hgi]; rfl) (by rw [List.getElem?_map, hy1]; rfl) n hn)
      · cases h
    case h_10 n e _ hu =>
      rw [hu]
      split at h
      · rename_i hl
        simp only [Option.map_eq_some_iff] at h
        obtain ⟨xs, hxs, hd⟩ := h
        simp only [Prod.mk.injEq] at hd
        obtain ⟨rfl, _⟩ := hd
        obtain ⟨l1, g1⟩ := mapM_some_get hxs
        simp only [DataW.weights, hu] at hwt
        refine ⟨hl, fun i hi => ?_⟩
        obtain ⟨⟨d', ps'⟩, hy1, hy⟩ := g1 i i (by rw [List.getElem?_range hi])
        exact rd_of_trod hy fun n hn => hwt n (weights_all (List.mem_map.2 ⟨_, List.mem_of_getElem? hy1, rfl⟩) n hn)
      · cases h
    all_goals first
      | (rename_i hu; rw [hu]; trivial)
      | (rename_i hu _; rw [hu]; trivial)
      | (rename_i hu _ _; rw [hu]; trivial)
      | (cases h; done)
end Go.Proofs.YtlkmmplgfjicjaaGreat.Hc
/-
  From a law's condition to what its row asks of the walk.
-/
namespace Go.Proofs.YtlkmmplgfjicjaaGreat.Hc
set_option linter.unusedVariables false
set_option linter.unusedSimpArgs false
open Go.RowKit

/-- An argument as it can be read. -/
def RdV (P : Program) (H : Heap) (t : TypeId) (v : Value) : Prop :=
  ∃ f, RdC P H f t v.cells.toList ∧ (match P.underlying t with
    | some (.struct _) => ∃ cs, v = .agg cs
    | some (.array _ _) => ∃ cs, v = .agg cs
    | _ => v.cells = #[v])

theorem cells_of_ok {P : Program} {w : World} {r : Reach} {base : Nat} {t : TypeId} {v : Value} (h : Cell.okWide P w r base t v) : v.cells = #[v] := by
  cases v with
  | agg cs =>
    unfold Cell.okWide at h
    split at h <;> first
      | (rename_i hv; cases hv; done)
      | (rename_i hu hv; cases hv; done)
      | (unfold Cell.ok at h; (repeat' split at h) <;> first | (rename_i hv; cases hv; done) | (simp_all; done) | exact h.elim)
  | _ => rfl

theorem rdV_of {X : Type} {enc : TypeId × Value → X} {P : Program} {w : World} {t : TypeId} {v : Value} {d : DataW X} {ps : List MemPlace} {b base : Nat} {r : Reach}
    (h : DataW.Trod enc P w b (fun _ => true) true t v d ps) (ho : Value.okWide P w r base t v) (hw : ∀ n ∈ d.weights P t, n ≤ reachBytes) : RdV P w.heap t v := by
  obtain ⟨f, hf⟩ := h
  refine ⟨f, rd_of_trod hf hw, ?_⟩
  unfold Value.okWide at ho
  split
  · rename_i fs hu; rw [hu] at ho; obtain ⟨cs, rfl, _⟩ := ho; exact ⟨cs, rfl⟩
  · rename_i n e hu; rw [hu] at ho; obtain ⟨cs, rfl, _⟩ := ho; exact ⟨cs, rfl⟩
  · rename_i h1 h2
    split at ho
    · rename_i fs hu; exact absurd hu (h1 fs)
    · rename_i n e hu; exact absurd hu (h2 n e)
    · exact cells_of_ok ho

/-- What the form's own reach says of one argument. -/
theorem reach_at {X : Type} {P : Program} {ts : List TypeId} {ds : List (DataW X)} (h : (DataW.weightsEach P ts ds).all (· ≤ reachBytes) = true) {j : Nat} {t : TypeId} {d : DataW X} (ht : ts[j]? = some t) (hd : ds[j]? = some d) :
    ∀ n ∈ d.weights P t, n ≤ reachBytes := fun n hn => of_decide_eq_true (List.all_eq_true.1 h n (DataW.weights_mem_each ht hd n hn))

theorem below_of_ext {w w' : World} (he : SameEnv w w') (h : Ext w.heap w'.heap) : Below w.heap.size w w' :=
  ⟨he.os, he.tape, he.output, h.size, fun b hb => h.get b hb (fun h => h)⟩
theorem calls_of_law {P : Program} {f : FuncId} {args : List Value} {W : World} (h : CallT P f args (.one (.c .bool)) W.heap (fun b H' => b = true ∧ Ext W.heap H')) :
    Calls P f ⟨args⟩ W fun e W' => e = .returned (.bool true) ∧ Below W.heap.size W W' :=
  (h.2 W rfl).mono fun e w' ⟨he, d, h1, h2, h3⟩ => ⟨by rw [h1, h2]; rfl, below_of_ext he h3⟩
/-- An argument that is an integer. -/
theorem rd_int {P : Program} {t : TypeId} {k : IntKind} (hu : P.underlying t = some (.int k)) {H : Heap} {v : Value} (h : RdV P H t v) : ∃ n, v = .int k n ∧ k.min ≤ n ∧ n ≤ k.max := by
  obtain ⟨f, hr, hv⟩ := h
  cases f with
  | zero => exact hr.elim
  | succ f =>
    simp only [RdC, hu] at hr hv
    obtain ⟨n, hn, h0, h1⟩ := hr
    rw [hv] at hn
    simp only [List.cons.injEq, and_true] at hn
    exact ⟨n, hn, h0, h1⟩

theorem i64_of {n : Int} (h : IntKind.i64.min ≤ n ∧ n ≤ IntKind.i64.max) : I64 n := by
  have e0 : IntKind.i64.min = -9223372036854775808 := by decide
  have e1 : IntKind.i64.max = 9223372036854775807 := by decide
  rw [e0, e1] at h
  unfold I64; omega
theorem rd_i64 {P : Program} {t : TypeId} (hu : P.underlying t = some (.int .i64)) {H : Heap} {v : Value} (h : RdV P H t v) : ∃ n, v = .int .i64 n ∧ I64 n := by
  obtain ⟨n, hn, h⟩ := rd_int hu h
  exact ⟨n, hn, i64_of h⟩
/-- A cell that is an int64. -/
theorem rdC_i64 {P : Program} {t : TypeId} (hu : P.underlying t = some (.int .i64)) {H : Heap} {f : Nat} {cs : List Value} (h : RdC P H f t cs) : ∃ n, cs = [.int .i64 n] ∧ I64 n := by
  cases f with
  | zero => exact h.elim
  | succ f =>
    simp only [RdC, hu] at h
    obtain ⟨n, hn, h⟩ := h
    exact ⟨n, hn, i64_of h⟩
theorem rdC_struct {P : Program} {t : TypeId} {fs : Array Field} (hu : P.underlying t = some (.struct fs)) {H : Heap} {f : Nat} {cs : List Value} (h : RdC P H f t cs) :
    ∃ f', cs.length = P.cellsOf t ∧ ∀ g ∈ fs.toList, RdC P H f' g.type ((cs.drop g.offset).take (P.cellsOf g.type)) := by
  cases f with
  | zero => exact h.elim
  | succ f => simp only [RdC, hu] at h; exact ⟨f, h⟩
theorem rdC_slice {P : Program} {t e : TypeId} (hu : P.underlying t = some (.slice e)) {H : Heap} {f : Nat} {cs : List Value} (h : RdC P H f t cs) :
    ∃ f', cs = [.slice none 0 0] ∨ ∃ a len cap, cs = [.slice (some a) len cap] ∧ len ≤ cap ∧ (cap ≤ maxLen ∧ cap * P.bytesOf e ≤ reachBytes) ∧
        ∀ i, i < cap → ∃ xs, xs.length = P.cellsOf e ∧ hcells H (a.add (i * P.cellsOf e)) 0 xs ∧ RdC P H f' e xs := by
  cases f with
  | zero => exact h.elim
  | succ f => simp only [RdC, hu] at h; exact ⟨f, h⟩
theorem rdC_array {P : Program} {t e : TypeId} {n : Nat} (hu : P.underlying t = some (.array n e)) {H : Heap} {f : Nat} {cs : List Value} (h : RdC P H f t cs) :
    ∃ f', cs.length = P.cellsOf t ∧ ∀ i, i < n → RdC P H f' e ((cs.drop (i * P.cellsOf e)).take (P.cellsOf e)) := by
  cases f with
  | zero => exact h.elim
  | succ f => simp only [RdC, hu] at h; exact ⟨f, h⟩
theorem rd_struct {P : Program} {t : TypeId} {fs : Array Field} (hu : P.underlying t = some (.struct fs)) {H : Heap} {v : Value} (h : RdV P H t v) :
    ∃ f cs, v = .agg ⟨cs⟩ ∧ RdC P H f t cs := by
  obtain ⟨f, hr, hv⟩ := h
  simp only [hu] at hv
  obtain ⟨⟨cs⟩, rfl⟩ := hv
  exact ⟨f, cs, rfl, hr⟩
theorem rd_cell {P : Program} {t : TypeId} {d : TypeDesc} (hu : P.underlying t = some d) (hd : (match d with | .struct _ => false | .array _ _ => false | _ => true) = true) {H : Heap} {v : Value} (h : RdV P H t v) :
    ∃ f, RdC P H f t [v] := by
  obtain ⟨f, hr, hv⟩ := h
  rw [hu] at hv
  have : v.cells = #[v] := by cases d <;> first | exact hv | cases hd
  rw [this] at hr
  exact ⟨f, hr⟩
end Go.Proofs.YtlkmmplgfjicjaaGreat.Hc
/-
  Bytes: what a slice of bytes reads as; copies, prefixes, strings.
-/
namespace Go.Proofs.YtlkmmplgfjicjaaGreat.Hc
set_option linter.unusedVariables false
set_option linter.unusedSimpArgs false

abbrev u8s (bs : List UInt8) : List Value := bs.map fun b => .int .u8 (b.toNat : Int)
theorem u8s_get {bs : List UInt8} {i : Nat} (h : i < bs.length) : (u8s bs)[i]? = some (.int .u8 (bs[i].toNat : Int)) := by
  simp [h]
def u8of (x : Int) : UInt8 := UInt8.ofNat (x % 256).toNat
theorem wrap_u8_of (x : Int) : IntKind.wrap .u8 x = ((u8of x).toNat : Int) := by
  rw [wrap_u8]; unfold u8of
  rw [UInt8.toNat_ofNat']; omega
theorem u8s_one (s : List UInt8) : ∀ w ∈ u8s s, w.oneCell' = true := by simp [Value.oneCell']
theorem u8of_toNat (b : UInt8) : u8of (b.toNat : Int) = b := by
  unfold u8of
  have := UInt8.toNat_lt b
  rw [show ((b.toNat : Int) % 256).toNat = b.toNat by omega]; simp
theorem add_zero (a : Addr) : a.add 0 = a := rfl
theorem add_block (a : Addr) (n : Nat) : (a.add n).block = a.block := by unfold Addr.add; split <;> rfl

theorem hcells_upd {M : Nat → Prop} {H H' : Heap} (hu : Upd M H H') {a : Addr} (hn : ¬ M a.block) : ∀ {vs : List Value} {i : Nat}, hcells H a i vs → hcells H' a i vs
  | [], _, _ => trivial
  | _ :: _, _, h => ⟨hu.cell h.1 (by rw [add_block]; exact hn), hcells_upd hu hn h.2⟩
theorem hcells_take {H : Heap} {a : Addr} : ∀ {vs : List Value} {i n : Nat}, hcells H a i vs → hcells H a i (vs.take n)
  | _, _, 0, _ => by simp [hcells]
  | [], _, _ + 1, _ => by simp [hcells]
  | _ :: _, _, _ + 1, h => ⟨h.1, hcells_take h.2⟩

/-- A slice of bytes reads as these. -/
structure RB (H : Heap) (s : Sl) (bs : List UInt8) : Prop where
  rd : rdL H s.a (u8s bs)
  len : s.len = bs.length
  cap : s.len ≤ s.cap
theorem RB.nil (H : Heap) : RB H ⟨none, 0, 0⟩ [] := ⟨rfl, rfl, Nat.le_refl _⟩
theorem RB.upd {M : Nat → Prop} {H H' : Heap} (hu : Upd M H H') {s : Sl} {bs : List UInt8} (h : RB H s bs) (hn : ∀ a, s.a = some a → ¬ M a.block) : RB H' s bs := by
  refine ⟨?_, h.len, h.cap⟩
  have hr := h.rd
  unfold rdL at hr ⊢
  cases ha : s.a with
  | none => rw [ha] at hr; exact hr
  | some a => rw [ha] at hr; exact hcells_upd hu (hn a ha) hr
theorem RB.ext {H H' : Heap} (hu : Ext H H') {s : Sl} {bs : List UInt8} (h : RB H s bs) : RB H' s bs := h.upd hu fun _ _ h => h
/-- Where a slice's block lies, if it has bytes. -/
theorem RB.lt {H : Heap} {s : Sl} {bs : List UInt8} (h : RB H s bs) (hb : bs ≠ []) : ∃ a, s.a = some a ∧ a.block < H.size := by
  have hr := h.rd
  unfold rdL at hr
  cases ha : s.a with
  | none => rw [ha] at hr; simp at hr; exact absurd hr hb
  | some a =>
    rw [ha] at hr
    cases bs with
    | nil => exact absurd rfl hb
    | cons b bs => exact ⟨a, rfl, by have := lt_of_cell hr.1; rwa [add_block] at this⟩
theorem IxA_rb {H : Heap} {s : Sl} {bs : List UInt8} (h : RB H s bs) {i : Int} {k : Addr → Prop} {j : Nat} (hj : i = j) (hl : j < bs.length)
    (hk : ∀ a, hcell H a = some (.int .u8 (bs[j].toNat : Int)) → (∃ c, s.a = some c ∧ a.block = c.block) → k a) : IxA 1 s i k := by
  have hr := h.rd
  unfold rdL at hr
  cases ha : s.a with
  | none => rw [ha] at hr; simp at hr; subst hr; simp at hl
  | some a =>
    rw [ha] at hr
    subst hj
    refine IxA.mk ha (by omega) (by rw [h.len]; omega) ?_
    rw [Int.toNat_natCast, Nat.mul_one]
    refine hk _ ?_ ⟨a, ha, add_block _ _⟩
    have := hcells_iff.1 hr j (by simpa using hl)
    rw [Nat.zero_add] at this
    rw [this, u8s_get hl]
theorem SlA0 {size : Nat} {s : Sl} {hi mx : Int} {k : Sl → Prop} (h0 : 0 ≤ hi) (h1 : hi ≤ mx) (h2 : mx ≤ (s.cap : Int)) (hk : k ⟨s.a, hi.toNat, mx.toNat⟩) : SlA size s 0 hi mx k := by
  refine ⟨by omega, h0, h1, h2, ?_⟩
  have e : (if mx.toNat = (0 : Int).toNat then s.a else s.a.map (·.add ((0 : Int).toNat * size))) = s.a := by
    split
    · rfl
    · rw [show (0 : Int).toNat * size = 0 by simp]
      cases s.a <;> rfl
  rw [e]
  simpa using hk
theorem RB.pre {H : Heap} {s : Sl} {bs : List UInt8} (h : RB H s bs) {n c : Nat} (hn : n ≤ bs.length) (hc : n ≤ c) : RB H ⟨s.a, n, c⟩ (bs.take n) := by
  refine ⟨?_, by simp; omega, hc⟩
  have hr := h.rd
  unfold rdL at hr ⊢
  cases ha : s.a with
  | none => rw [ha] at hr; simp at hr; subst hr; simp
  | some a =>
    rw [ha] at hr
    have := hcells_take (n := n) hr
    rwa [u8s, ← List.map_take] at this
theorem Vec.rb {H : Heap} {T : TypeId} {s : Sl} {bs : List UInt8} (h : Vec H T s (u8s bs)) : RB H s bs := ⟨h.rd, by simpa using h.len, h.lc⟩
theorem B2S_rb {H : Heap} {s : Sl} {bs : List UInt8} {k : ByteArray → Prop} (h : RB H s bs) (hk : k ⟨⟨bs⟩⟩) : B2S s H k := ⟨bs, h.rd, fun _ => h.len.symm, hk⟩
theorem ba_append (a b : List UInt8) : (⟨⟨a⟩⟩ : ByteArray) ++ ⟨⟨b⟩⟩ = ⟨⟨a ++ b⟩⟩ := by
  apply ByteArray.ext; simp
theorem Cpy_row {T : TypeId} {b n c : Nat} {x : Sl} {bs : List UInt8} {cs : List Value} {H : Heap} {k : Int → Heap → Prop} (hr : Row H b T cs) (hx : RB H x bs) (hn : bs.length ≤ n) (hc : n ≤ cs.length)
    (hk : ∀ H', Upd (· = b) H H' → H'.size = H.size → Row H' b T (u8s bs ++ cs.drop bs.length) → k bs.length H') : Cpy 1 ⟨some (adr b), n, c⟩ x H k := by
  have hm : Nat.min x.len n = bs.length := by rw [hx.len]; exact Nat.min_eq_left hn
  refine ⟨u8s bs, hx.rd, fun _ => ?_, ?_⟩
  · dsimp only; rw [hm]; simp
  · dsimp only
    rw [hm]
    refine StL_row hr (by simp; omega) (u8s_one _) fun H' hU hs hr' => ?_
    refine hk H' (hU.mono fun _ _ h => h.1) hs ?_
    simpa using hr'
/-- 'copy' into memory that was just made. -/
theorem Mrk_row {b : Nat} {T : TypeId} {vs : List Value} {H : Heap} {k : Heap → Prop} (h : Row H b T vs)
    (hk : ∀ H', Upd (· = b) H H' → H'.size = H.size → hcells H' (adr b) 0 vs → k H') : Mrk (adr b) H k := by
  unfold Row at h
  refine ⟨T, vs.length, by simp [hshape, h], ?_⟩
  have hU : Upd (· = b) H (hfreeze H ⟨b, vs.length, none⟩ 1) := by
    refine ⟨by simp [hfreeze], fun c hc hn => ?_⟩
    simp only [hfreeze, Nat.one_ne_zero, if_false, Array.getElem?_modify]
    rw [if_neg (fun e => hn e.symm)]
  have hb : (hfreeze H ⟨b, vs.length, none⟩ 1)[b]? = some (.cells ⟨vs⟩ T (vs.length, vs.length + 1)) := by
    simp [hfreeze, Array.getElem?_modify, h]
  refine hk _ hU (by simp [hfreeze]) (hcells_iff.2 fun j hj => ?_)
  rw [adr_add, cell_blk hb, Nat.zero_add]; simp
theorem S2B_rb {T : TypeId} {s : ByteArray} {H : Heap} {k : Sl → Heap → Prop} (hk : ∀ s' H', RB H' s' s.data.toList → Ext H H' → s'.a = some (adr H.size) → k s' H') : S2B T s H k := by
  intro c hc
  refine hk _ _ ⟨?_, by simp, hc⟩ (Upd.push _ _ _) rfl
  refine hcells_iff.2 fun j hj => ?_
  rw [adr_add, Nat.zero_add, cell_blk (get_push_new _ _)]
  simp only [List.length_map, Array.length_toList] at hj
  rw [Array.getElem?_append_left (by simpa [bytesV] using hj)]
  simp [bytesV]

theorem Vec.pre {H : Heap} {T : TypeId} {s : Sl} {vs : List Value} (h : Vec H T s vs) {n c : Nat} (hn : n ≤ vs.length) (hc : c ≤ s.cap) (hn2 : n ≤ c) : Vec H T ⟨s.a, n, c⟩ (vs.take n) := by
  refine ⟨by simp; omega, ?_, hn2⟩
  rcases h.own with ⟨h1, h2, h3⟩ | ⟨b, sp, h1, h2, h3⟩
  · exact .inl ⟨h1, by dsimp only; omega, by rw [h3]; simp⟩
  · refine .inr ⟨b, vs.drop n ++ sp, h1, ?_, by simp; omega⟩
    rw [← List.append_assoc, List.take_append_drop]; exact h2

/-- An argument that is a slice of bytes. -/
theorem rdC_bytes {P : Program} {t e : TypeId} (hu : P.underlying t = some (.slice e)) (he : P.underlying e = some (.int .u8)) (hce : P.cellsOf e = 1) {H : Heap} {f : Nat} {v : Value} (h : RdC P H f t [v]) :
    ∃ (s : Sl) (bs : List UInt8), v = .slice s.a s.len s.cap ∧ RB H s bs ∧ s.cap * P.bytesOf e ≤ reachBytes := by
  obtain ⟨f', hs⟩ := rdC_slice hu h
  rw [hce] at hs
  rcases hs with e | ⟨a, len, cap, e, h1, h2, h3⟩
  · simp only [List.cons.injEq, and_true] at e
    subst e
    exact ⟨⟨none, 0, 0⟩, [], rfl, .nil _, by simp⟩
  · simp only [List.cons.injEq, and_true] at e
    subst e
    have h4 : ∀ i, i < len → ∃ b : UInt8, hcell H (a.add i) = some (.int .u8 (b.toNat : Int)) := by
      intro i hi
      obtain ⟨xs, g1, g2, g3⟩ := h3 i (Nat.lt_of_lt_of_le hi h1)
      cases f' with
      | zero => exact g3.elim
      | succ f' =>
        simp only [RdC, he] at g3
        obtain ⟨n, rfl, g4, g5⟩ := g3
        have e0 : IntKind.u8.min = 0 := by decide
        have e1 : IntKind.u8.max = 255 := by decide
        refine ⟨UInt8.ofNat n.toNat, ?_⟩
        have := g2.1
        rw [Nat.mul_one, add_zero] at this
        rw [this, UInt8.toNat_ofNat']
        congr 2; omega
    have h5 : ∀ n, n ≤ len → ∃ bs : List UInt8, bs.length = n ∧ hcells H a 0 (u8s bs) := by
      intro n
      induction n with
      | zero => exact fun _ => ⟨[], rfl, trivial⟩
      | succ n ih =>
        intro hn
        obtain ⟨bs, g1, g2⟩ := ih (by omega)
        obtain ⟨b, hb⟩ := h4 n (by omega)
        refine ⟨bs ++ [b], by simp [g1], hcells_iff.2 fun j hj => ?_⟩
        simp only [List.length_map, List.length_append, List.length_singleton] at hj
        rw [Nat.zero_add]
        rcases Nat.lt_or_ge j n with h | h
        · have := hcells_iff.1 g2 j (by simp; omega)
          rw [Nat.zero_add] at this
          rw [this, u8s, u8s, List.map_append, List.getElem?_append_left (by simp; omega)]
        · have : j = n := by omega
          subst this
          rw [hb, u8s, List.map_append, List.getElem?_append_right (by simp; omega)]
          simp [g1]
    obtain ⟨bs, g1, g2⟩ := h5 len (Nat.le_refl _)
    exact ⟨⟨some a, len, cap⟩, bs, rfl, ⟨g2, g1.symm, h1⟩, h2.2⟩
theorem rd_bytes {P : Program} {t e : TypeId} (hu : P.underlying t = some (.slice e)) (he : P.underlying e = some (.int .u8)) (hce : P.cellsOf e = 1) {H : Heap} {v : Value} (h : RdV P H t v) :
    ∃ (s : Sl) (bs : List UInt8), v = .slice s.a s.len s.cap ∧ RB H s bs ∧ s.cap * P.bytesOf e ≤ reachBytes := by
  obtain ⟨f, hc⟩ := rd_cell hu rfl h
  exact rdC_bytes hu he hce hc
end Go.Proofs.YtlkmmplgfjicjaaGreat.Hc
/-
  Slices that grow, of elements of n cells each.
-/
namespace Go.Proofs.YtlkmmplgfjicjaaGreat.Hc
set_option linter.unusedVariables false
set_option linter.unusedSimpArgs false

structure VecN (H : Heap) (T : TypeId) (n : Nat) (s : Sl) (vs : List Value) : Prop where
  len : vs.length = s.len * n
  own : (s.a = none ∧ s.cap = 0 ∧ vs = []) ∨ ∃ b sp, s.a = some (adr b) ∧ Row H b T (vs ++ sp) ∧ s.cap * n ≤ vs.length + sp.length
  lc : s.len ≤ s.cap
theorem VecN.nil (H : Heap) (T : TypeId) (n : Nat) : VecN H T n ⟨none, 0, 0⟩ [] := ⟨by simp, .inl ⟨rfl, rfl, rfl⟩, Nat.le_refl _⟩
theorem VecN.rd {H : Heap} {T : TypeId} {n : Nat} {s : Sl} {vs : List Value} (h : VecN H T n s vs) : rdL H s.a vs := by
  rcases h.own with ⟨h1, _, h3⟩ | ⟨b, sp, h1, h2, _⟩
  · rw [h1]; exact h3
  · rw [h1]; exact h2.rd
theorem VecN.upd {M : Nat → Prop} {H H' : Heap} (hu : Upd M H H') {T : TypeId} {n : Nat} {s : Sl} {vs : List Value} (h : VecN H T n s vs) (hn : ∀ b, s.a = some (adr b) → ¬ M b) : VecN H' T n s vs := by
  refine ⟨h.len, ?_, h.lc⟩
  rcases h.own with h1 | ⟨b, sp, h1, h2, h3⟩
  · exact .inl h1
  · exact .inr ⟨b, sp, h1, hu.row h2 (hn b h1), h3⟩
theorem VecN.ext {H H' : Heap} (hu : Ext H H') {T : TypeId} {n : Nat} {s : Sl} {vs : List Value} (h : VecN H T n s vs) : VecN H' T n s vs := h.upd hu fun _ _ h => h
theorem Vec.ext {H H' : Heap} (hu : Ext H H') {T : TypeId} {s : Sl} {vs : List Value} (h : Vec H T s vs) : Vec H' T s vs := h.upd hu fun _ _ h => h
theorem VecN.lt {H : Heap} {T : TypeId} {n : Nat} {s : Sl} {vs : List Value} (h : VecN H T n s vs) {b : Nat} (hb : s.a = some (adr b)) : b < H.size := by
  rcases h.own with ⟨h1, _⟩ | ⟨c, sp, h1, h2, _⟩
  · rw [h1] at hb; cases hb
  · rw [h1] at hb; cases hb; exact h2.lt
theorem VecN.ne {H : Heap} {T T' : TypeId} {n : Nat} {s : Sl} {vs vs' : List Value} (h : VecN H T n s vs) {b b' : Nat} (hb : s.a = some (adr b)) (h' : Row H b' T' vs') (ht : T ≠ T') : b ≠ b' := by
  rcases h.own with ⟨h1, _⟩ | ⟨c, sp, h1, h2, _⟩
  · rw [h1] at hb; cases hb
  · rw [h1] at hb; cases hb; exact h2.ne h' ht
/-- Slices whose elements are of different types lie apart. -/
theorem VecN.apV {H : Heap} {T T' : TypeId} {n : Nat} {s t : Sl} {vs vs' : List Value} (h : VecN H T n s vs) (h' : Vec H T' t vs') (ht : T ≠ T') {b : Nat} (hb : s.a = some (adr b)) (hb' : t.a = some (adr b)) : False := by
  rcases h'.own with ⟨h1, _⟩ | ⟨c, sp, h1, h2, _⟩
  · rw [h1] at hb'; cases hb'
  · rw [h1] at hb'; cases hb'; exact h.ne hb h2 ht rfl
theorem Vec.apV {H : Heap} {T T' : TypeId} {s t : Sl} {vs vs' : List Value} (h : Vec H T s vs) (h' : Vec H T' t vs') (ht : T ≠ T') {b : Nat} (hb : s.a = some (adr b)) (hb' : t.a = some (adr b)) : False := by
  rcases h'.own with ⟨h1, _⟩ | ⟨c, sp, h1, h2, _⟩
  · rw [h1] at hb'; cases hb'
  · rw [h1] at hb'; cases hb'; exact h.ne hb h2 ht rfl
/-- The address of element i. -/
theorem IxA_vecN {H : Heap} {T : TypeId} {n : Nat} {s : Sl} {vs : List Value} (h : VecN H T n s vs) (hn : 0 < n) {i : Int} {k : Addr → Prop} {j : Nat} (hj : i = j) (hl : j < s.len)
    (hk : ∀ b, s.a = some (adr b) → (∀ o, o < n → hcell H ⟨b, j * n + o, none⟩ = vs[j * n + o]?) → k ⟨b, j * n, none⟩) : IxA n s i k := by
  have hl2 : j * n + n ≤ vs.length := by rw [h.len]; calc j * n + n = (j + 1) * n := by rw [Nat.add_mul]; simp
                                         _ ≤ s.len * n := Nat.mul_le_mul_right n hl
  rcases h.own with ⟨_, _, h3⟩ | ⟨b, sp, h1, h2, _⟩
  · subst h3; simp at hl2; omega
  · subst hj
    refine IxA.mk h1 (by omega) (by omega) ?_
    rw [adr_add, Int.toNat_natCast]
    exact hk b h1 fun o ho => by rw [h2.cell, List.getElem?_append_left (by omega)]
theorem zcells_size (z : Array Value) (n : Nat) : (zcells z n).size = n := by unfold zcells; simp
/-- append to a slice of one's own. -/
theorem App_vecN {T : TypeId} {n bytes : Nat} {z : Array Value} {s x : Sl} {H : Heap} {k : Sl → Heap → Prop} {vs ws : List Value} (hz : z.size = n) (hn : 0 < n) (hv : VecN H T n s vs) (hx : rdL H x.a ws) (hxl : ws.length = x.len * n)
    (hone : ∀ w ∈ ws, w.oneCell' = true) (hb : bytes ≠ 0) (hcap : (s.len + x.len + (s.len + x.len) / 4 + 1000) * bytes ≤ 2 ^ 48)
    (hk : ∀ s' H', VecN H' T n s' (vs ++ ws) → s'.len = s.len + x.len → Upd (fun b => s.a = some (adr b) ∧ s.len + x.len ≤ s.cap) H H' → (s'.a = s.a ∧ s.len + x.len ≤ s.cap ∨ s'.a = some (adr H.size)) → k s' H') :
    App T n bytes z s x H k := by
  have hlen := hv.len
  refine ⟨ws, hx, fun _ => by omega, fun hfit => ?_, fun hgrow => ?_⟩
  · rcases hv.own with ⟨h1, h2, h3⟩ | ⟨b, sp, h1, h2, h3⟩
    · rw [h1]
      have hx0 : x.len = 0 := by omega
      have hw : ws = [] := List.eq_nil_of_length_eq_zero (by rw [hxl, hx0]; simp)
      subst hw h3
      refine hk _ H ⟨by simp only [List.append_nil, List.length_nil]; simp at hlen; rw [hx0]; simp; omega, .inl ⟨rfl, by simpa using h2, rfl⟩, hfit⟩ rfl (.refl _ _) (.inl ⟨h1.symm, hfit⟩)
    · rw [h1]
      dsimp only
      rw [adr_add]
      have hm : (s.len + x.len) * n ≤ s.cap * n := Nat.mul_le_mul_right n hfit
      rw [Nat.add_mul] at hm
      refine StL_row h2 (by simp; omega) hone fun H' hU hs hr => ?_
      refine hk _ H' ⟨by simp only [List.length_append, Nat.add_mul]; omega, .inr ⟨b, sp.drop ws.length, rfl, ?_, by simp; omega⟩, hfit⟩ rfl (hU.mono fun b' _ e => ?_) (.inl ⟨h1.symm, hfit⟩)
      · rw [Nat.add_zero, ← hlen, List.take_left, List.drop_append, List.drop_eq_nil_of_le (by omega), List.nil_append] at hr
        rw [show vs.length + ws.length - vs.length = ws.length by omega] at hr
        exact hr
      · obtain ⟨rfl, e⟩ := e; exact ⟨h1, hfit⟩
  · refine ⟨hb, ?_, vs, hv.rd, fun _ => by omega, fun c hc => ?_⟩
    · have := nextcap_le (s.len + x.len) s.cap hgrow
      exact Nat.le_trans (Nat.mul_le_mul_right bytes this) hcap
    · refine hk _ _ ⟨?_, .inr ⟨H.size, (zcells z ((c - (s.len + x.len)) * z.size)).toList, rfl, ?_, ?_⟩, hc⟩ rfl (Upd.push _ _ _) (.inr rfl)
      · simp only [List.length_append, Nat.add_mul]; omega
      · unfold Row
        rw [get_push_new]
        congr 2
        apply Array.ext'; simp
      · simp only [List.length_append, Array.length_toList, zcells_size, hz]
        rw [hlen, hxl, ← Nat.add_mul, ← Nat.add_mul]
        exact Nat.mul_le_mul_right n (by omega)

/-- Elements of n cells each, one behind the other. -/
theorem flat_get {α : Type} {f : α → List Value} {n : Nat} (hf : ∀ e, (f e).length = n) : ∀ {es : List α} {i : Nat} (hi : i < es.length) {o : Nat}, o < n → (es.flatMap f)[i * n + o]? = (f es[i])[o]?
  | e :: es, 0, _, o, ho => by
    simp only [List.flatMap_cons, Nat.zero_mul, Nat.zero_add, List.getElem_cons_zero]
    rw [List.getElem?_append_left (by rw [hf]; exact ho)]
  | e :: es, i + 1, hi, o, ho => by
    simp only [List.flatMap_cons, List.getElem_cons_succ]
    rw [List.getElem?_append_right (by rw [hf, Nat.add_mul]; omega), hf, show (i + 1) * n + o - n = i * n + o by rw [Nat.add_mul]; omega]
    exact flat_get hf (by simpa using hi) ho
theorem flat_len {α : Type} {f : α → List Value} {n : Nat} (hf : ∀ e, (f e).length = n) : ∀ {es : List α}, (es.flatMap f).length = es.length * n
  | [] => by simp
  | e :: es => by rw [List.flatMap_cons, List.length_append, hf, flat_len hf, List.length_cons, Nat.add_mul]; omega
end Go.Proofs.YtlkmmplgfjicjaaGreat.Hc
/-
  Slices that read as lists, of any elements.
-/
namespace Go.Proofs.YtlkmmplgfjicjaaGreat.Hc
set_option linter.unusedVariables false
set_option linter.unusedSimpArgs false

theorem set_mid' {α : Type} (xs ys : List α) (y z : α) : (xs ++ y :: ys).set xs.length z = xs ++ z :: ys := by
  rw [List.set_append_right _ _ (Nat.le_refl _), Nat.sub_self]; rfl

/-- A slice whose elements are one cell each reads as this list. -/
structure RL {α : Type} (f : α → Value) (H : Heap) (s : Sl) (xs : List α) : Prop where
  rd : rdL H s.a (xs.map f)
  len : s.len = xs.length
  cap : s.len ≤ s.cap
abbrev slV (s : Sl) : Value := .slice s.a s.len s.cap
abbrev RI := RL (Value.int .i64)
variable {α : Type} {f : α → Value}
theorem RL.nil (f : α → Value) (H : Heap) : RL f H ⟨none, 0, 0⟩ [] := ⟨rfl, rfl, Nat.le_refl _⟩
theorem RL.upd {M : Nat → Prop} {H H' : Heap} (hu : Upd M H H') {s : Sl} {xs : List α} (h : RL f H s xs) (hn : ∀ a, s.a = some a → ¬ M a.block) : RL f H' s xs := by
  refine ⟨?_, h.len, h.cap⟩
  have hr := h.rd
  unfold rdL at hr ⊢
  cases ha : s.a with
  | none => rw [ha] at hr; exact hr
  | some a => rw [ha] at hr; exact hcells_upd hu (hn a ha) hr
theorem RL.upd' {M : Nat → Prop} {H H' : Heap} (hu : Upd M H H') {s : Sl} {xs : List α} (h : RL f H s xs) (hn : xs ≠ [] → ∀ a, s.a = some a → ¬ M a.block) : RL f H' s xs := by
  by_cases e : xs = []
  · subst e
    refine ⟨?_, h.len, h.cap⟩
    unfold rdL
    cases s.a <;> trivial
  · exact h.upd hu (hn e)
theorem RL.ext {H H' : Heap} (hu : Ext H H') {s : Sl} {xs : List α} (h : RL f H s xs) : RL f H' s xs := h.upd hu fun _ _ h => h
theorem IxA_rl {H : Heap} {s : Sl} {xs : List α} (h : RL f H s xs) {i : Int} {k : Addr → Prop} {j : Nat} (hj : i = j) (hl : j < xs.length)
    (hk : ∀ a, hcell H a = some (f xs[j]) → k a) : IxA 1 s i k := by
  have hr := h.rd
  unfold rdL at hr
  cases ha : s.a with
  | none => rw [ha] at hr; simp at hr; subst hr; simp at hl
  | some a =>
    rw [ha] at hr
    subst hj
    refine IxA.mk ha (by omega) (by rw [h.len]; omega) ?_
    rw [Int.toNat_natCast, Nat.mul_one]
    refine hk _ ?_
    have := hcells_iff.1 hr j (by simpa using hl)
    rw [Nat.zero_add] at this
    rw [this]; simp [hl]
theorem RL.lt {H : Heap} {s : Sl} {xs : List α} (h : RL f H s xs) (hb : xs ≠ []) {a : Addr} (ha : s.a = some a) : a.block < H.size := by
  have hr := h.rd
  unfold rdL at hr
  rw [ha] at hr
  cases xs with
  | nil => exact absurd rfl hb
  | cons b bs => have := lt_of_cell hr.1; rwa [add_block] at this
theorem RL.pre {H : Heap} {s : Sl} {xs : List α} (h : RL f H s xs) {n c : Nat} (hn : n ≤ xs.length) (hc : n ≤ c) : RL f H ⟨s.a, n, c⟩ (xs.take n) := by
  refine ⟨?_, by simp; omega, hc⟩
  have hr := h.rd
  unfold rdL at hr ⊢
  cases ha : s.a with
  | none => rw [ha] at hr; simp at hr; subst hr; simp
  | some a =>
    rw [ha] at hr
    have := hcells_take (n := n) hr
    rwa [← List.map_take] at this
theorem add_add (a : Addr) (n m : Nat) (h : a.spot = none) : (a.add n).add m = a.add (n + m) := by
  obtain ⟨b, o, sp⟩ := a
  dsimp only at h; subst h
  simp [mk_add, Nat.add_assoc]
/-- A part of a slice: [lo:hi]. -/
theorem SlA_rl {H : Heap} {s : Sl} {xs : List α} (h : RL f H s xs) {lo hi mx : Int} {i j c : Nat} (hi' : lo = i) (hj : hi = j) (hc : mx = c) (h1 : i ≤ j) (h2 : j ≤ xs.length) (h3 : j ≤ c) (h4 : c ≤ s.cap) (hsp : ∀ a, s.a = some a → a.spot = none) {k : Sl → Prop}
    (hk : ∀ s', RL f H s' ((xs.drop i).take (j - i)) → (∀ a, s'.a = some a → ∃ a0, s.a = some a0 ∧ a.block = a0.block ∧ a.spot = none) → s'.cap = c - i → k s') : SlA 1 s lo hi mx k := by
  subst hi' hj hc
  refine ⟨by omega, by omega, by omega, by omega, ?_⟩
  rw [Int.toNat_natCast, Int.toNat_natCast, Int.toNat_natCast, Nat.mul_one]
  have hr := h.rd
  unfold rdL at hr
  refine hk _ ⟨?_, by simp; omega, by dsimp only; omega⟩ (fun a ha => ?_) rfl
  · cases ha : s.a with
    | none =>
      rw [ha] at hr; simp at hr; subst hr
      simp [rdL]
    | some a =>
      rw [ha] at hr
      dsimp only at hr ⊢
      split
      · rename_i e
        have : j - i = 0 := by omega
        simp [rdL, this, hcells]
      · dsimp only [rdL, Option.map]
        refine hcells_iff.2 fun m hm => ?_
        simp only [List.length_map, List.length_take, List.length_drop] at hm
        rw [Nat.zero_add, add_add _ _ _ (hsp a ha)]
        have := hcells_iff.1 hr (i + m) (by simp; omega)
        rw [Nat.zero_add] at this
        rw [this]
        simp only [List.getElem?_map, List.getElem?_take, List.getElem?_drop]
        rw [if_pos (by omega)]
  · dsimp only at ha
    split at ha
    · exact ⟨a, ha, rfl, hsp a ha⟩
    · cases hs : s.a with
      | none => rw [hs] at ha; cases ha
      | some a0 =>
        rw [hs] at ha
        simp only [Option.map_some, Option.some.injEq] at ha
        subst ha
        refine ⟨a0, rfl, add_block _ _, ?_⟩
        have := hsp a0 hs
        unfold Addr.add; split
        · exact this
        · rfl
theorem Vec.rl {H : Heap} {T : TypeId} {s : Sl} {xs : List α} (h : Vec H T s (xs.map f)) : RL f H s xs := ⟨h.rd, by simpa using h.len, h.lc⟩
theorem Vec.spot {H : Heap} {T : TypeId} {s : Sl} {vs : List Value} (h : Vec H T s vs) : ∀ a, s.a = some a → a.spot = none := fun a ha => by
  rcases h.own with ⟨h1, _⟩ | ⟨b, sp, h1, _⟩
  · rw [h1] at ha; cases ha
  · rw [h1] at ha; cases ha; rfl
theorem Vec.blk {H : Heap} {T : TypeId} {s : Sl} {vs : List Value} (h : Vec H T s vs) : ∀ a, s.a = some a → a = adr a.block := fun a ha => by
  rcases h.own with ⟨h1, _⟩ | ⟨b, sp, h1, _⟩
  · rw [h1] at ha; cases ha
  · rw [h1] at ha; cases ha; rfl

theorem IxA_St_vec' {H : Heap} {T : TypeId} {t : Sl} {vs : List Value} (h : Vec H T t vs) {i : Int} {j : Nat} {v : Value} {k : Heap → Prop} (hj : i = j) (hl : j < vs.length)
    (hk : ∀ H', Vec H' T t (vs.set j v) → Upd (fun b => t.a = some (adr b)) H H' → H'.size = H.size → k H') : IxA 1 t i fun a => St a v H k := by
  rcases h.own with ⟨_, _, h3⟩ | ⟨b, sp, h1, h2, h3⟩
  · subst h3; simp at hl
  · subst hj
    refine IxA.mk h1 (by omega) (by rw [h.len]; omega) ?_
    rw [Int.toNat_natCast, Nat.mul_one, adr_add]
    refine St_row h2 (by simp; omega) fun H' hU hs hr => hk H' ⟨by simpa using h.len, .inr ⟨b, sp, h1, ?_, by simpa using h3⟩, h.lc⟩ (hU.mono fun _ _ e => e ▸ h1) hs
    rwa [List.set_append_left _ _ hl] at hr
/-- A slice whose elements are n cells each reads as this list. -/
structure RN {α : Type} (f : α → List Value) (n : Nat) (H : Heap) (s : Sl) (xs : List α) : Prop where
  rd : rdL H s.a (xs.flatMap f)
  len : s.len = xs.length
  cap : s.len ≤ s.cap
theorem RN.nil {α : Type} (f : α → List Value) (n : Nat) (H : Heap) : RN f n H ⟨none, 0, 0⟩ [] := ⟨rfl, rfl, Nat.le_refl _⟩
theorem RN.upd {α : Type} {f : α → List Value} {n : Nat} {M : Nat → Prop} {H H' : Heap} (hu : Upd M H H') {s : Sl} {xs : List α} (h : RN f n H s xs) (hn : ∀ a, s.a = some a → ¬ M a.block) : RN f n H' s xs := by
  refine ⟨?_, h.len, h.cap⟩
  have hr := h.rd
  unfold rdL at hr ⊢
  cases ha : s.a with
  | none => rw [ha] at hr; exact hr
  | some a => rw [ha] at hr; exact hcells_upd hu (hn a ha) hr
theorem RN.ext {α : Type} {f : α → List Value} {n : Nat} {H H' : Heap} (hu : Ext H H') {s : Sl} {xs : List α} (h : RN f n H s xs) : RN f n H' s xs := h.upd hu fun _ _ h => h
theorem hcells_drop {H : Heap} {a : Addr} : ∀ {vs : List Value} {i m : Nat}, hcells H a i vs → hcells H a (i + m) (vs.drop m)
  | _, _, 0, h => by simpa using h
  | [], _, _ + 1, _ => by simp [hcells]
  | _ :: _, i, m + 1, h => by
    rw [List.drop_succ_cons, show i + (m + 1) = i + 1 + m by omega]
    exact hcells_drop h.2
theorem hcells_shift {H : Heap} {a : Addr} (hsp : a.spot = none) {n : Nat} : ∀ {vs : List Value} {i : Nat}, hcells H a (n + i) vs → hcells H (a.add n) i vs
  | [], _, _ => trivial
  | _ :: _, i, h => ⟨by rw [add_add _ _ _ hsp]; exact h.1, hcells_shift hsp (by rw [← Nat.add_assoc]; exact h.2)⟩
theorem flat_drop {α : Type} [Inhabited α] {f : α → List Value} {n : Nat} (hf : ∀ e, (f e).length = n) : ∀ {es : List α} {i : Nat}, i < es.length → ∃ rest, (es.flatMap f).drop (i * n) = f (es[i]!) ++ rest
  | e :: es, 0, _ => ⟨es.flatMap f, by simp⟩
  | e :: es, i + 1, h => by
    obtain ⟨r, hr⟩ := flat_drop hf (es := es) (i := i) (by simpa using h)
    refine ⟨r, ?_⟩
    rw [List.flatMap_cons, List.drop_append, List.drop_eq_nil_of_le (by rw [hf, Nat.add_mul]; omega), hf, List.nil_append, show (i + 1) * n - n = i * n by rw [Nat.add_mul]; omega, hr]
    rfl
/-- The address of an element, and its cells there. -/
theorem IxA_rn {α : Type} [Inhabited α] {f : α → List Value} {n : Nat} (hf : ∀ e, (f e).length = n) {H : Heap} {s : Sl} {xs : List α} (h : RN f n H s xs) (hsp : ∀ a, s.a = some a → a.spot = none) (hn : 0 < n) {i : Int} {k : Addr → Prop} {j : Nat} (hj : i = j) (hl : j < xs.length)
    (hk : ∀ a, hcells H a 0 (f xs[j]!) → k a) : IxA n s i k := by
  have hr := h.rd
  unfold rdL at hr
  cases ha : s.a with
  | none =>
    rw [ha] at hr
    have := flat_len hf (es := xs)
    rw [hr] at this
    simp only [List.length_nil] at this
    have : 0 < xs.length * n := Nat.mul_pos (by omega) hn
    omega
  | some a =>
    rw [ha] at hr
    subst hj
    refine IxA.mk ha (by omega) (by rw [h.len]; omega) ?_
    rw [Int.toNat_natCast]
    refine hk _ ?_
    obtain ⟨r, hrest⟩ := flat_drop hf hl
    have h1 := hcells_drop (m := j * n) hr
    rw [hrest, Nat.zero_add] at h1
    have h2 := hcells_take (n := (f xs[j]!).length) h1
    rw [List.take_left] at h2
    exact hcells_shift (hsp a ha) h2
/-- An element's cells. -/
theorem RN.el {α : Type} [Inhabited α] {f : α → List Value} {n : Nat} (hf : ∀ e, (f e).length = n) {H : Heap} {s : Sl} {xs : List α} (h : RN f n H s xs) (hsp : ∀ a, s.a = some a → a.spot = none) (hn : 0 < n) {j : Nat} (hl : j < xs.length) :
    ∃ a, s.a = some a ∧ hcells H (a.add (j * n)) 0 (f xs[j]) := by
  have hr := h.rd
  unfold rdL at hr
  cases ha : s.a with
  | none =>
    rw [ha] at hr
    have := flat_len hf (es := xs)
    rw [hr] at this
    simp only [List.length_nil] at this
    have : 0 < xs.length * n := Nat.mul_pos (by omega) hn
    omega
  | some a =>
    rw [ha] at hr
    refine ⟨a, rfl, ?_⟩
    obtain ⟨r, hrest⟩ := flat_drop hf hl
    have h1 := hcells_drop (m := j * n) hr
    rw [hrest, Nat.zero_add] at h1
    have h2 := hcells_take (n := (f xs[j]!).length) h1
    rw [List.take_left, getElem!_pos xs j hl] at h2
    exact hcells_shift (hsp a ha) h2
theorem VecN.rn {α : Type} {f : α → List Value} {n : Nat} (hf : ∀ e, (f e).length = n) (hn : 0 < n) {H : Heap} {T : TypeId} {s : Sl} {xs : List α} (h : VecN H T n s (xs.flatMap f)) : RN f n H s xs := by
  refine ⟨h.rd, ?_, h.lc⟩
  have := h.len
  rw [flat_len hf] at this
  exact (Nat.eq_of_mul_eq_mul_right hn this).symm
theorem VecN.spot {H : Heap} {T : TypeId} {n : Nat} {s : Sl} {vs : List Value} (h : VecN H T n s vs) : ∀ a, s.a = some a → a.spot = none := fun a ha => by
  rcases h.own with ⟨h1, _⟩ | ⟨b, sp, h1, _⟩
  · rw [h1] at ha; cases ha
  · rw [h1] at ha; cases ha; rfl
end Go.Proofs.YtlkmmplgfjicjaaGreat.Hc
/-
  A record that owns vectors: appends to its fields; appends told as a store into a row.
-/
namespace Go.Proofs.YtlkmmplgfjicjaaGreat.Hc
set_option linter.unusedVariables false
set_option linter.unusedSimpArgs false

def Apart (s t : Sl) : Prop := ∀ b, s.a = some (adr b) → t.a ≠ some (adr b)
theorem Apart.symm {s t : Sl} (h : Apart s t) : Apart t s := fun b h1 h2 => h b h2 h1

/-- A slice's own block was written at one place. -/
theorem Vec.poke {H H' : Heap} {T : TypeId} {s : Sl} {vs : List Value} (h : Vec H T s vs) {b n : Nat} {v : Value} {cs : List Value} (hb : s.a = some (adr b)) (hr : Row H b T cs) (hr' : Row H' b T (cs.set n v)) : Vec H' T s (vs.set n v) := by
  refine ⟨by simpa using h.len, ?_, h.lc⟩
  rcases h.own with ⟨h1, _⟩ | ⟨c, sp, h1, h2, h3⟩
  · rw [h1] at hb; cases hb
  · rw [h1] at hb; cases hb
    have e : cs = vs ++ sp := by
      unfold Row at hr h2
      rw [hr] at h2
      simp only [Option.some.injEq, Obj.cells.injEq, Array.mk.injEq] at h2
      exact h2.1
    subst e
    rcases Nat.lt_or_ge n vs.length with hn | hn
    · refine .inr ⟨b, sp, h1, ?_, by simpa using h3⟩
      rw [List.set_append_left _ _ hn] at hr'; exact hr'
    · refine .inr ⟨b, sp.set (n - vs.length) v, h1, ?_, by simpa using h3⟩
      rw [List.set_append_right _ _ hn] at hr'
      rw [List.set_eq_of_length_le hn]; exact hr'
/-- append of one element to a slice of one's own: in place, or elsewhere. -/
theorem App_one {T : TypeId} {bytes : Nat} {z : Value} {s x : Sl} {H : Heap} {k : Sl → Heap → Prop} {vs : List Value} {w : Value} (hv : Vec H T s vs) (hx : rdL H x.a [w]) (hxl : x.len = 1)
    (hone : w.oneCell' = true) (hb : bytes ≠ 0) (hcap : (vs.length + 1 + (vs.length + 1) / 4 + 1000) * bytes ≤ 2 ^ 48)
    (hk : ∀ s' H', Vec H' T s' (vs ++ [w]) → s'.len = s.len + 1 → (∃ b cs, s.a = some (adr b) ∧ s'.a = some (adr b) ∧ Row H b T cs ∧ Row H' b T (cs.set s.len w) ∧ Upd (· = b) H H' ∧ H'.size = H.size) ∨ (s'.a = some (adr H.size) ∧ Ext H H' ∧ H.size < H'.size) → k s' H') :
    App T 1 bytes #[z] s x H k := by
  have hlen := hv.len
  refine ⟨[w], hx, fun _ => by simp; omega, fun hfit => ?_, fun hgrow => ?_⟩
  · rcases hv.own with ⟨h1, h2, h3⟩ | ⟨b, sp, h1, h2, h3⟩
    · omega
    · rw [h1]
      dsimp only
      rw [adr_add, Nat.mul_one]
      refine StL_row h2 (by simp; omega) (by simpa using hone) fun H' hU hs hr => ?_
      obtain ⟨c0, sp', rfl⟩ : ∃ c0 sp', sp = c0 :: sp' := by
        cases sp with
        | nil => simp at h3; omega
        | cons c0 sp' => exact ⟨c0, sp', rfl⟩
      have e1 : (vs ++ c0 :: sp').take (s.len + 0) ++ [w] ++ (vs ++ c0 :: sp').drop (s.len + 0 + [w].length) = vs ++ w :: sp' := by
        rw [Nat.add_zero, hlen, List.take_left, List.length_singleton, List.drop_append, List.drop_eq_nil_of_le (by omega)]
        simp
      rw [e1] at hr
      have e2 : (vs ++ c0 :: sp').set s.len w = vs ++ w :: sp' := by rw [hlen]; exact set_mid' vs sp' c0 w
      refine hk _ H' ⟨by simp; omega, .inr ⟨b, sp', rfl, by simpa using hr, by simp at h3 ⊢; omega⟩, by dsimp only; omega⟩ (by dsimp only; omega) (.inl ⟨b, vs ++ c0 :: sp', h1, rfl, h2, by rw [e2]; exact hr, hU.mono fun _ _ e => e.1, hs⟩)
  · refine ⟨hb, ?_, vs, hv.rd, fun _ => by omega, fun c hc => ?_⟩
    · have := nextcap_le (s.len + x.len) s.cap hgrow
      refine Nat.le_trans (Nat.mul_le_mul_right bytes this) ?_
      rw [hlen, hxl]; exact hcap
    · have e : (⟨vs⟩ ++ ⟨[w]⟩ ++ zcells #[z] ((c - (s.len + x.len)) * (#[z] : Array Value).size) : Array Value) = ⟨vs ++ [w] ++ List.replicate (c - (s.len + x.len)) z⟩ := by
        rw [zcells_one]; apply Array.ext'; simp
      rw [e]
      refine hk _ _ ⟨by simp; omega, .inr ⟨H.size, List.replicate (c - (s.len + x.len)) z, rfl, get_push_new _ _, by simp; omega⟩, hc⟩ (by dsimp only; omega) (.inr ⟨rfl, Upd.push _ _ _, by simp⟩)

abbrev RFd := TypeId × Sl × List Value
/-- A record at p whose first fields are vectors of its own, each apart. -/
structure Rec (H : Heap) (p : Nat) (T : TypeId) (fs : List RFd) (tl : List Value) : Prop where
  row : Row H p T (fs.map (fun f => slV f.2.1) ++ tl)
  vs : ∀ i (h : i < fs.length), Vec H fs[i].1 fs[i].2.1 fs[i].2.2
  ap : ∀ i j (h : i < fs.length) (h' : j < fs.length), i ≠ j → Apart fs[i].2.1 fs[j].2.1
  np : ∀ i (h : i < fs.length) b, fs[i].2.1.a = some (adr b) → b ≠ p
/-- Its blocks. -/
def RecB (p : Nat) (fs : List RFd) (b : Nat) : Prop := b = p ∨ ∃ i, ∃ h : i < fs.length, fs[i].2.1.a = some (adr b)
theorem Rec.upd {M : Nat → Prop} {H H' : Heap} {p : Nat} {T : TypeId} {fs : List RFd} {tl : List Value} (hu : Upd M H H') (h : Rec H p T fs tl) (hm : ∀ b, RecB p fs b → ¬ M b) : Rec H' p T fs tl :=
  ⟨hu.row h.row (hm p (.inl rfl)), fun i hi => (h.vs i hi).upd hu fun b hb => hm b (.inr ⟨i, hi, hb⟩), h.ap, h.np⟩
theorem Rec.ext {H H' : Heap} {p : Nat} {T : TypeId} {fs : List RFd} {tl : List Value} (hu : Ext H H') (h : Rec H p T fs tl) : Rec H' p T fs tl := h.upd hu fun _ _ h => h
theorem Rec.lt {H : Heap} {p : Nat} {T : TypeId} {fs : List RFd} {tl : List Value} (h : Rec H p T fs tl) {b : Nat} (hb : RecB p fs b) : b < H.size := by
  rcases hb with rfl | ⟨i, hi, e⟩
  · exact h.row.lt
  · exact (h.vs i hi).lt e
/-- A field is appended to; what is left is to store it. -/
structure RecP (H0 H : Heap) (p : Nat) (T : TypeId) (fs : List RFd) (tl : List Value) (q : Nat) (l : Sl) (w : Value) : Prop where
  hq : q < fs.length
  row : Row H p T (fs.map (fun f => slV f.2.1) ++ tl)
  vs : ∀ i (h : i < fs.length), i ≠ q → Vec H fs[i].1 fs[i].2.1 fs[i].2.2
  vl : Vec H fs[q].1 l (fs[q].2.2 ++ [w])
  ap : ∀ i j (h : i < fs.length) (h' : j < fs.length), i ≠ j → Apart fs[i].2.1 fs[j].2.1
  np : ∀ i (h : i < fs.length) b, fs[i].2.1.a = some (adr b) → b ≠ p
  la : l.a = fs[q].2.1.a ∨ l.a = some (adr H0.size)
  lt : ∀ b, RecB p fs b → b < H0.size
  up : Upd (fun b => fs[q].2.1.a = some (adr b)) H0 H
  old : Vec H fs[q].1 fs[q].2.1 fs[q].2.2
theorem Rec.app {H : Heap} {p : Nat} {T : TypeId} {fs : List RFd} {tl : List Value} (h : Rec H p T fs tl) {q : Nat} (hq : q < fs.length) {x : Sl} {w : Value} (hx : rdL H x.a [w]) (hxl : x.len = 1) (hone : w.oneCell' = true) {bytes : Nat} {z : Value} (hb : bytes ≠ 0)
    (hcap : (fs[q].2.2.length + 1 + (fs[q].2.2.length + 1) / 4 + 1000) * bytes ≤ 2 ^ 48) {k : Sl → Heap → Prop} (hk : ∀ l H', RecP H H' p T fs tl q l w → k l H') : App fs[q].1 1 bytes #[z] fs[q].2.1 x H k := by
  refine App_one (h.vs q hq) hx hxl hone hb hcap fun l H' hv hl hc => hk l H' ?_
  have up : Upd (fun b => fs[q].2.1.a = some (adr b)) H H' := by
    rcases hc with ⟨b, cs, h1, _, _, _, h5, _⟩ | ⟨_, h2, _⟩
    · exact h5.mono fun c _ e => e ▸ h1
    · exact h2.mono fun _ _ e => e.elim
  refine ⟨hq, up.row h.row fun e => h.np q hq p e rfl, fun i hi hne => (h.vs i hi).upd up fun b hb e => h.ap i q hi hq hne b hb e, hv, h.ap, h.np, ?_, fun b hb => h.lt hb, up, ?_⟩
  rotate_left
  · rcases hc with ⟨b, cs, h1, _, h3, h4, _⟩ | ⟨_, h2, _⟩
    · have := (h.vs q hq).poke h1 h3 h4
      rwa [List.set_eq_of_length_le (by rw [(h.vs q hq).len]; exact Nat.le_refl _)] at this
    · exact (h.vs q hq).upd h2 fun _ _ h => h
  rcases hc with ⟨b, cs, h1, h2, _⟩ | ⟨h1, _⟩
  · exact .inl (h2.trans h1.symm)
  · exact .inr h1
theorem RecP.cell {H0 H : Heap} {p : Nat} {T : TypeId} {fs : List RFd} {tl : List Value} {q : Nat} {l : Sl} {w : Value} (h : RecP H0 H p T fs tl q l w) (i : Nat) : hcell H ⟨p, i, none⟩ = (fs.map (fun f => slV f.2.1) ++ tl)[i]? := h.row.cell i
theorem RecP.st {H0 H : Heap} {p : Nat} {T : TypeId} {fs : List RFd} {tl : List Value} {q : Nat} {l : Sl} {w : Value} (h : RecP H0 H p T fs tl q l w) {k : Heap → Prop}
    (hk : ∀ H', Rec H' p T (fs.set q (fs[q]'h.hq |>.1, l, (fs[q]'h.hq).2.2 ++ [w])) tl → Upd (fun b => b = p ∨ (fs[q]'h.hq).2.1.a = some (adr b)) H0 H' → k H') : St ⟨p, q, none⟩ (.slice l.a l.len l.cap) H k := by
  have hq := h.hq
  refine St_row h.row (by simp; omega) fun H' hU hs hr => hk H' ?_ ((h.up.mono fun _ _ e => .inr e).trans hU fun _ _ e => .inl e)
  have hpH : p < H0.size := h.lt p (.inl rfl)
  have lnp : ∀ b, l.a = some (adr b) → b ≠ p := fun b hb e => by
    rcases h.la with h1 | h1
    · rw [h1] at hb; exact h.np q hq b hb e
    · rw [h1] at hb; cases hb; omega
  have lap : ∀ i (hi : i < fs.length), i ≠ q → Apart fs[i].2.1 l := fun i hi hne b hb hb' => by
    rcases h.la with h1 | h1
    · rw [h1] at hb'; exact h.ap i q hi hq hne b hb hb'
    · rw [h1] at hb'; cases hb'; have := h.lt _ (.inr ⟨i, hi, hb⟩); omega
  have gn : ∀ i (hi : i < (fs.set q (fs[q].1, l, fs[q].2.2 ++ [w])).length), i ≠ q → (fs.set q (fs[q].1, l, fs[q].2.2 ++ [w]))[i] = fs[i]'(by simpa using hi) := fun i hi hne => List.getElem_set_ne (fun e => hne e.symm) _
  have ge : ∀ i (hi : i < (fs.set q (fs[q].1, l, fs[q].2.2 ++ [w])).length), i = q → (fs.set q (fs[q].1, l, fs[q].2.2 ++ [w]))[i] = (fs[q].1, l, fs[q].2.2 ++ [w]) := fun i hi e => by subst e; exact List.getElem_set_self _
  refine ⟨?_, fun i hi => ?_, fun i j hi hj hne => ?_, fun i hi b hb => ?_⟩
  · rw [List.set_append_left _ _ (by simpa using hq)] at hr
    rw [List.map_set]; exact hr
  · by_cases e : i = q
    · rw [ge i hi e]; exact h.vl.upd hU fun b hb e => lnp b hb e
    · rw [gn i hi e]; exact (h.vs i _ e).upd hU fun b hb e => h.np i _ b hb e
  · by_cases e : i = q
    · have e' : j ≠ q := fun h => hne (e.trans h.symm)
      rw [ge i hi e, gn j hj e']; exact (lap j (by simpa using hj) e').symm
    · rw [gn i hi e]
      by_cases e' : j = q
      · rw [ge j hj e']; exact lap i (by simpa using hi) e
      · rw [gn j hj e']; exact h.ap i j _ _ hne
  · by_cases e : i = q
    · rw [ge i hi e] at hb; exact lnp b hb
    · rw [gn i hi e] at hb; exact h.np i _ b hb
theorem RecP.sub {H0 H : Heap} {p : Nat} {T : TypeId} {fs : List RFd} {tl : List Value} {q : Nat} {l : Sl} {w : Value} (h : RecP H0 H p T fs tl q l w) {b : Nat} (hb : RecB p (fs.set q (fs[q]'h.hq |>.1, l, (fs[q]'h.hq).2.2 ++ [w])) b) : RecB p fs b ∨ H0.size ≤ b := by
  have hq := h.hq
  rcases hb with rfl | ⟨i, hi, hb⟩
  · exact .inl (.inl rfl)
  · by_cases e : i = q
    · subst e
      rw [List.getElem_set_self] at hb
      rcases h.la with e | e
      · rw [e] at hb; exact .inl (.inr ⟨i, hq, hb⟩)
      · rw [e] at hb; cases hb; exact .inr (Nat.le_refl _)
    · rw [List.getElem_set_ne (fun h => e h.symm)] at hb
      exact .inl (.inr ⟨i, by simpa using hi, hb⟩)
/-- A number behind the vectors is stored. -/
theorem Rec.stTl {H : Heap} {p : Nat} {T : TypeId} {fs : List RFd} {tl : List Value} (h : Rec H p T fs tl) {q : Nat} (hq : q < tl.length) {v : Value} {k : Heap → Prop}
    (hk : ∀ H', Rec H' p T fs (tl.set q v) → Upd (· = p) H H' → k H') : St ⟨p, fs.length + q, none⟩ v H k := by
  refine St_row h.row (by simp; omega) fun H' hU hs hr => hk H' ⟨?_, fun i hi => (h.vs i hi).upd hU fun b hb e => h.np i hi b hb e, h.ap, h.np⟩ hU
  rw [List.set_append_right _ _ (by simp)] at hr
  simpa using hr
end Go.Proofs.YtlkmmplgfjicjaaGreat.Hc
/-
  Verify: effects, ways, what is reached.
-/
namespace Go.Proofs.YtlkmmplgfjicjaaGreat.Hc.Vf
set_option linter.unusedVariables false
set_option linter.unusedSimpArgs false

abbrev Ins := Int × Int
/-- Takes, puts, by what it takes goes. -/
def tbl : List (Int × Int × Nat) :=
  [(0, 0, 0), (0, 1, 0), (0, 1, 0), (1, 0, 0), (0, 1, 0), (1, 0, 0), (2, 1, 0), (2, 1, 0), (2, 1, 0), (2, 1, 0), (2, 1, 0), (1, 1, 0), (2, 1, 0), (2, 1, 0), (2, 1, 0), (2, 1, 0), (2, 1, 0), (2, 1, 0), (1, 1, 0),
   (0, 0, 0), (1, 0, 0), (0, 1, 1), (1, 0, 0), (0, 0, 0), (0, 0, 0), (2, 0, 0), (0, 0, 2), (0, 0, 0), (0, 0, 2), (0, 0, 0), (0, 0, 0), (1, 1, 0), (0, 1, 0), (0, 1, 0), (2, 1, 0), (0, 1, 0), (2, 1, 0), (2, 1, 0), (1, 1, 0), (1, 0, 0)]
theorem tbl_len : tbl.length = 40 := rfl
theorem tbl_bd : ∀ r ∈ tbl, 0 ≤ r.1 ∧ r.1 ≤ 2 ∧ 0 ≤ r.2.1 ∧ r.2.1 ≤ 1 := by decide
def isOpB (op : Int) : Bool := decide (1 ≤ op ∧ op ≤ 39)
def takes (ps : List Int) (i : Ins) : Int :=
  if isOpB i.1 then
    (if (tbl[i.1.toNat]!).2.2 = 1 then (if 0 ≤ i.2 ∧ i.2 < ps.length then max (ps[i.2.toNat]!) 0 else 0)
     else if (tbl[i.1.toNat]!).2.2 = 2 then (if 0 ≤ i.2 then i.2 % 8 else 0)
     else (tbl[i.1.toNat]!).1) else 0
def puts (i : Ins) : Int := if isOpB i.1 then (tbl[i.1.toNat]!).2.1 else 0
theorem tbl_get {op : Int} (h : isOpB op = true) : tbl[op.toNat]! ∈ tbl := by
  unfold isOpB at h
  have := of_decide_eq_true h
  rw [getElem!_pos tbl op.toNat (by rw [tbl_len]; omega)]
  exact List.getElem_mem _
theorem takes_bd (ps : List Int) (i : Ins) : 0 ≤ takes ps i := by
  unfold takes
  split
  · rename_i h
    have := tbl_bd _ (tbl_get h)
    repeat' split
    all_goals omega
  · exact Int.le_refl _
theorem puts_bd (i : Ins) : 0 ≤ puts i ∧ puts i ≤ 1 := by
  unfold puts
  split
  · rename_i h
    have := tbl_bd _ (tbl_get h)
    omega
  · omega
theorem takes_i64 {ps : List Int} (hps : ∀ x ∈ ps, I64 x) (i : Ins) : takes ps i < 9223372036854775808 := by
  unfold takes
  split
  · rename_i h
    have := tbl_bd _ (tbl_get h)
    split
    · split
      · rename_i hh
        rw [getElem!_pos ps _ (by omega)]
        have := hps _ (List.getElem_mem (show i.2.toNat < ps.length by omega))
        unfold I64 at this
        omega
      · omega
    · split
      · split <;> omega
      · omega
  · omega
/-- The numbers of those that may be done behind it, there or not. -/
def nexts (c : List Ins) (at' : Nat) : List Int :=
  let i := c[at']!
  if i.1 = 22 ∨ i.1 = 23 then [] else if i.1 = 19 then [i.2] else if i.1 = 20 then [i.2, (at' : Int) + 1] else [(at' : Int) + 1]
def fits (ps : List Int) (i : Ins) (d : Nat) : Prop := takes ps i ≤ d ∧ (d : Int) - takes ps i + puts i ≤ 64
instance (ps : List Int) (i : Ins) (d : Nat) : Decidable (fits ps i d) := by unfold fits; infer_instance
def behind (ps : List Int) (i : Ins) (d : Nat) : Nat := ((d : Int) - takes ps i + puts i).toNat
/-- From (i, d) one comes to (j, e). -/
def Succ (c : List Ins) (ps : List Int) (i d j e : Nat) : Prop := i < c.length ∧ fits ps c[i]! d ∧ (j : Int) ∈ nexts c i ∧ j < c.length ∧ e = behind ps c[i]! d
inductive Rch (c : List Ins) (ps : List Int) : Nat → Nat → Prop where
  | zero : Rch c ps 0 0
  | step {i d j e : Nat} (h : Rch c ps i d) (s : Succ c ps i d j e) : Rch c ps j e
variable {c : List Ins} {ps : List Int}
theorem behind_le {i : Ins} {d : Nat} (h : fits ps i d) : behind ps i d ≤ 64 ∧ ((behind ps i d : Nat) : Int) = (d : Int) - takes ps i + puts i := by
  unfold fits at h
  unfold behind
  have := puts_bd i
  omega
theorem Rch.bd {i d : Nat} (h : Rch c ps i d) (hc : 0 < c.length) : i < c.length ∧ d ≤ 64 := by
  cases h with
  | zero => exact ⟨hc, by omega⟩
  | step h s => obtain ⟨_, h2, _, h4, rfl⟩ := s; exact ⟨h4, (behind_le h2).1⟩
/-- What is gone through, and what is still to do. -/
structure Inv (c : List Ins) (ps : List Int) (V T : Nat → Nat → Prop) : Prop where
  all : ∀ i d, V i d ∨ T i d → Rch c ps i d
  start : V 0 0 ∨ T 0 0
  cl : ∀ i d j e, V i d → Succ c ps i d j e → V j e ∨ T j e
theorem Inv.done {V T : Nat → Nat → Prop} (h : Inv c ps V T) (hT : ∀ i d, ¬ T i d) (i d : Nat) : Rch c ps i d ↔ V i d := by
  constructor
  · intro hr
    induction hr with
    | zero => exact h.start.resolve_right (hT _ _)
    | step _ s ih => exact (h.cl _ _ _ _ ih s).resolve_right (hT _ _)
  · exact fun hv => h.all _ _ (.inl hv)
/-- Others that are the same in all. -/
theorem Inv.swap {V T V' T' : Nat → Nat → Prop} (h : Inv c ps V T) (h1 : ∀ i d, V' i d → V i d) (h2 : ∀ i d, V i d ∨ T i d ↔ V' i d ∨ T' i d) : Inv c ps V' T' :=
  ⟨fun i d hv => h.all i d ((h2 i d).2 hv), (h2 0 0).1 h.start, fun i d j e hv hs => (h2 j e).1 (h.cl i d j e (h1 _ _ hv) hs)⟩
/-- One more is gone through. -/
theorem Inv.go {V T V' T' : Nat → Nat → Prop} (h : Inv c ps V T) {i d : Nat} (hx : V i d ∨ T i d) (hV : ∀ j e, V' j e ↔ V j e ∨ (j = i ∧ e = d)) (hT : ∀ j e, T' j e → T j e ∨ Succ c ps i d j e) (hT1 : ∀ j e, Succ c ps i d j e → V' j e ∨ T' j e) (hT2 : ∀ j e, T j e → V' j e ∨ T' j e) : Inv c ps V' T' := by
  refine ⟨fun j e hv => ?_, ?_, fun j e k f hv hs => ?_⟩
  · rcases hv with hv | hv
    · rcases (hV j e).1 hv with hv | ⟨rfl, rfl⟩
      · exact h.all _ _ (.inl hv)
      · exact h.all _ _ hx
    · rcases hT j e hv with hv | hv
      · exact h.all _ _ (.inr hv)
      · exact .step (h.all _ _ hx) hv
  · rcases h.start with hv | hv
    · exact .inl ((hV _ _).2 (.inl hv))
    · exact hT2 _ _ hv
  · rcases (hV j e).1 hv with hv | ⟨rfl, rfl⟩
    · rcases h.cl _ _ _ _ hv hs with hv | hv
      · exact .inl ((hV _ _).2 (.inl hv))
      · exact hT2 _ _ hv
    · exact hT1 _ _ hs
/-! ### what is wrong -/
def jumpBad (c : List Ins) (i : Nat) : Prop := (c[i]!.1 = 19 ∨ c[i]!.1 = 20) ∧ ¬ (0 ≤ c[i]!.2 ∧ c[i]!.2 < c.length)
def stackBad (c : List Ins) (ps : List Int) (i : Nat) : Prop := (∃ d, Rch c ps i d ∧ ¬ fits ps c[i]! d) ∨ ∃ d e, Rch c ps i d ∧ Rch c ps i e ∧ d ≠ e
def endBad (c : List Ins) (i : Nat) : Prop := (c.length : Int) ∈ nexts c i
open Classical in
noncomputable def wr (c : List Ins) (ps : List Int) (i : Nat) : Nat := if jumpBad c i then 150 else if stackBad c ps i then 151 else if endBad c i then 153 else 0
open Classical in
noncomputable def depI (c : List Ins) (ps : List Int) (i : Nat) : Int := if h : ∃ d, Rch c ps i d then (Classical.choose h : Nat) else -1
def isReached (c : List Ins) (ps : List Int) (i : Nat) : Prop := ∃ d, Rch c ps i d
open Classical in
noncomputable def depthsS (c : List Ins) (ps : List Int) : Except (Nat × Nat) (List Int) :=
  if 2000 < c.length then .error (0, 130) else if c.length = 0 then .error (0, 153) else
  match (List.range c.length).find? (fun i => decide (isReached c ps i ∧ wr c ps i ≠ 0)) with
  | some i => .error (i, wr c ps i)
  | none => .ok ((List.range c.length).map (depI c ps))
theorem depI_of {i d : Nat} (h : Rch c ps i d) (hu : ∀ e, Rch c ps i e → e = d) : depI c ps i = d := by
  unfold depI
  have : ∃ d, Rch c ps i d := ⟨d, h⟩
  rw [dif_pos this]
  rw [hu _ (Classical.choose_spec this)]
theorem depI_none {i : Nat} (h : ∀ d, ¬ Rch c ps i d) : depI c ps i = -1 := by
  unfold depI
  rw [dif_neg (fun ⟨d, hd⟩ => h d hd)]
theorem nexts_i64 {i : Nat} (hc : ∀ x ∈ c, I64 x.2) (hi : i < c.length) (hl : c.length ≤ 100000) : ∀ x ∈ nexts c i, I64 x := by
  intro x hx
  have h1 : I64 c[i]!.2 := by rw [getElem!_pos c i hi]; exact hc _ (List.getElem_mem hi)
  have h2 : I64 ((i : Int) + 1) := by unfold I64; omega
  unfold nexts at hx
  dsimp only at hx
  split at hx
  · cases hx
  · split at hx
    · rw [List.mem_singleton] at hx; subst hx; exact h1
    · split at hx
      · simp only [List.mem_cons, List.not_mem_nil, or_false] at hx
        rcases hx with rfl | rfl
        · exact h1
        · exact h2
      · rw [List.mem_singleton] at hx; subst hx; exact h2
end Go.Proofs.YtlkmmplgfjicjaaGreat.Hc.Vf
/-
  Arguments that are slices: as lists.
-/
namespace Go.Proofs.YtlkmmplgfjicjaaGreat.Hc
set_option linter.unusedVariables false
set_option linter.unusedSimpArgs false

theorem reach47 : reachBytes ≤ 2 ^ 47 := by decide
/-- A list is chosen, element by element. -/
theorem list_of {α : Type} {R : Nat → α → Prop} : ∀ n, (∀ i, i < n → ∃ x, R i x) → ∃ xs : List α, xs.length = n ∧ ∀ i (h : i < xs.length), R i xs[i]
  | 0, _ => ⟨[], rfl, fun i h => by simp at h⟩
  | n + 1, h => by
    obtain ⟨xs, h1, h2⟩ := list_of n fun i hi => h i (by omega)
    obtain ⟨x, hx⟩ := h n (by omega)
    refine ⟨xs ++ [x], by simp [h1], fun i hi => ?_⟩
    rcases Nat.lt_or_ge i n with e | e
    · rw [List.getElem_append_left (by omega)]; exact h2 i (by omega)
    · have : i = n := by simp at hi; omega
      subst this
      rw [List.getElem_append_right (by omega)]
      simpa using hx
/-- A slice argument, whatever its elements are. -/
theorem rdC_elems {P : Program} {t e : TypeId} (hu : P.underlying t = some (.slice e)) {n : Nat} (hce : P.cellsOf e = n) {α : Type} {H : Heap} {R : List Value → α → Prop} (hR : ∀ f cs, RdC P H f e cs → ∃ x, R cs x) {f : Nat} {v : Value} (h : RdC P H f t [v]) :
    ∃ (s : Sl) (xs : List α), v = .slice s.a s.len s.cap ∧ s.len = xs.length ∧ s.len ≤ s.cap ∧ s.cap * P.bytesOf e ≤ reachBytes ∧ s.cap ≤ maxLen ∧
      ∀ i (h : i < xs.length), ∃ a, s.a = some a ∧ ∃ cs, cs.length = n ∧ hcells H (a.add (i * n)) 0 cs ∧ R cs xs[i] := by
  obtain ⟨f', hs⟩ := rdC_slice hu h
  rw [hce] at hs
  rcases hs with e | ⟨a, len, cap, e, h1, h2, h3⟩
  · simp only [List.cons.injEq, and_true] at e
    subst e
    exact ⟨⟨none, 0, 0⟩, [], rfl, rfl, Nat.le_refl _, by simp, Nat.zero_le _, fun i hi => by simp at hi⟩
  · simp only [List.cons.injEq, and_true] at e
    subst e
    obtain ⟨xs, g1, g2⟩ := list_of (R := fun i x => ∃ cs, cs.length = n ∧ hcells H (a.add (i * n)) 0 cs ∧ R cs x) len fun i hi => by
      obtain ⟨cs, k1, k2, k3⟩ := h3 i (Nat.lt_of_lt_of_le hi h1)
      obtain ⟨x, hx⟩ := hR _ _ k3
      exact ⟨x, cs, k1, k2, hx⟩
    exact ⟨⟨some a, len, cap⟩, xs, rfl, g1.symm, h1, h2.2, h2.1, fun i hi => ⟨a, rfl, g2 i hi⟩⟩
/-- A slice argument of elements of one cell each. -/
theorem rdC_list {P : Program} {t e : TypeId} (hu : P.underlying t = some (.slice e)) (hce : P.cellsOf e = 1) {α : Type} {g : α → Value} {Q : α → Prop} {H : Heap} (hR : ∀ f cs, RdC P H f e cs → ∃ x, cs = [g x] ∧ Q x) {f : Nat} {v : Value} (h : RdC P H f t [v]) :
    ∃ (s : Sl) (xs : List α), v = .slice s.a s.len s.cap ∧ RL g H s xs ∧ (∀ x ∈ xs, Q x) ∧ s.cap * P.bytesOf e ≤ reachBytes ∧ s.cap ≤ maxLen := by
  obtain ⟨s, xs, h1, h2, h3, h4, h5, h6⟩ := rdC_elems hu hce (R := fun cs x => cs = [g x] ∧ Q x) hR h
  refine ⟨s, xs, h1, ⟨?_, h2, h3⟩, fun x hx => ?_, h4, h5⟩
  · unfold rdL
    cases ha : s.a with
    | none =>
      cases xs with
      | nil => rfl
      | cons x xs => obtain ⟨a, e, _⟩ := h6 0 (by simp); rw [ha] at e; cases e
    | some a =>
      refine hcells_iff.2 fun j hj => ?_
      rw [List.length_map] at hj
      obtain ⟨b, e, cs, _, k2, k3, _⟩ := h6 j hj
      rw [ha] at e; cases e
      subst k3
      have := k2.1
      rw [Nat.mul_one, add_zero] at this
      rw [Nat.zero_add, this, List.getElem?_map, List.getElem?_eq_getElem hj]; rfl
  · obtain ⟨i, hi, rfl⟩ := List.getElem_of_mem hx
    obtain ⟨_, _, _, _, _, _, k⟩ := h6 i hi
    exact k
theorem rdC_ints {P : Program} {t e : TypeId} (hu : P.underlying t = some (.slice e)) (he : P.underlying e = some (.int .i64)) (hce : P.cellsOf e = 1) {H : Heap} {f : Nat} {v : Value} (h : RdC P H f t [v]) :
    ∃ (s : Sl) (xs : List Int), v = .slice s.a s.len s.cap ∧ RI H s xs ∧ (∀ x ∈ xs, I64 x) ∧ s.cap * P.bytesOf e ≤ reachBytes ∧ s.cap ≤ maxLen :=
  rdC_list hu hce (fun _ _ h => rdC_i64 he h) h
theorem rd_ints {P : Program} {t e : TypeId} (hu : P.underlying t = some (.slice e)) (he : P.underlying e = some (.int .i64)) (hce : P.cellsOf e = 1) {H : Heap} {v : Value} (h : RdV P H t v) :
    ∃ (s : Sl) (xs : List Int), v = .slice s.a s.len s.cap ∧ RI H s xs ∧ (∀ x ∈ xs, I64 x) ∧ s.cap * P.bytesOf e ≤ reachBytes ∧ s.cap ≤ maxLen := by
  obtain ⟨f, hc⟩ := rd_cell hu rfl h
  exact rdC_ints hu he hce hc
theorem rd_elems {P : Program} {t e : TypeId} (hu : P.underlying t = some (.slice e)) {n : Nat} (hce : P.cellsOf e = n) {α : Type} {H : Heap} {R : List Value → α → Prop} (hR : ∀ f cs, RdC P H f e cs → ∃ x, R cs x) {v : Value} (h : RdV P H t v) :
    ∃ (s : Sl) (xs : List α), v = .slice s.a s.len s.cap ∧ s.len = xs.length ∧ s.len ≤ s.cap ∧ s.cap * P.bytesOf e ≤ reachBytes ∧ s.cap ≤ maxLen ∧
      ∀ i (h : i < xs.length), ∃ a, s.a = some a ∧ ∃ cs, cs.length = n ∧ hcells H (a.add (i * n)) 0 cs ∧ R cs xs[i] := by
  obtain ⟨f, hc⟩ := rd_cell hu rfl h
  exact rdC_elems hu hce hR hc
end Go.Proofs.YtlkmmplgfjicjaaGreat.Hc
