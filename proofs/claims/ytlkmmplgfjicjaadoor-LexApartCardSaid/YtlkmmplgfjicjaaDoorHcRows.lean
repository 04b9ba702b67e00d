/-
  Blocks that are rows of one-cell elements: reading, storing, making.
-/
import Derived.Test.YtlkmmplgfjicjaaDoorHcHeap
namespace Go.Proofs.YtlkmmplgfjicjaaDoor.Hc
set_option linter.unusedVariables false
set_option linter.unusedSimpArgs false

/-- Block b holds just these cells. -/
def Row (H : Heap) (b : Nat) (T : TypeId) (vs : List Value) : Prop := H[b]? = some (.cells ⟨vs⟩ T (0, 0))
theorem Row.lt {H : Heap} {b : Nat} {T : TypeId} {vs : List Value} (h : Row H b T vs) : b < H.size := lt_of_get h
theorem Row.cell {H : Heap} {b : Nat} {T : TypeId} {vs : List Value} (h : Row H b T vs) (i : Nat) : hcell H ⟨b, i, none⟩ = vs[i]? := by
  rw [cell_blk h]; simp
theorem Upd.row {M : Nat → Prop} {H H' : Heap} (h : Upd M H H') {b : Nat} {T : TypeId} {vs : List Value} (hb : Row H b T vs) (hn : ¬ M b) : Row H' b T vs := h.keep hb hn
theorem St_row {b i : Nat} {v : Value} {H : Heap} {k : Heap → Prop} {T : TypeId} {vs : List Value} (h : Row H b T vs) (hi : i < vs.length)
    (hk : ∀ H', Upd (· = b) H H' → H'.size = H.size → Row H' b T (vs.set i v) → k H') : St ⟨b, i, none⟩ v H k := by
  refine St_blk h (by simpa using hi) fun H' h1 h2 h3 => hk H' h1 h2 ?_
  unfold Row; rw [h3]; simp
theorem IxA_adr {size b len cap : Nat} {i : Int} {k : Addr → Prop} (h0 : 0 ≤ i) (h1 : i < (len : Int)) (hk : k ⟨b, i.toNat * size, none⟩) : IxA size ⟨some (adr b), len, cap⟩ i k :=
  IxA.mk rfl h0 h1 (by simpa using hk)
theorem zcells_one (z : Value) (n : Nat) : zcells #[z] n = ⟨List.replicate n z⟩ := by
  unfold zcells
  apply Array.ext'
  simp only [Array.toList_map, Array.toList_range]
  apply List.ext_getElem
  · simp
  · intro i h1 h2; simp [Nat.mod_one]
theorem Mks_row {T : TypeId} {bytes : Nat} {z : Value} {n : Int} {H : Heap} {k : Sl → Heap → Prop} (h0 : 0 ≤ n) (h1 : n < 9223372036854775808) (hb : (bytes : Int) * n ≤ 2 ^ 48)
    (hk : ∀ b H', b = H.size → Ext H H' → H'.size = H.size + 1 → Row H' b T (List.replicate n.toNat z) → k ⟨some (adr b), n.toNat, n.toNat⟩ H') : Mks T 1 bytes #[z] n n H k := by
  unfold Mks
  rw [wrap_i64_id (by omega) h1]
  refine ⟨h0, by omega, hb, ?_⟩
  rw [Nat.mul_one, zcells_one]
  exact hk _ _ rfl (Upd.push _ _ _) (by simp) (get_push_new _ _)
/-- A new block with these cells. -/
theorem Nw_row {vs : List Value} {t : TypeId} {H : Heap} {k : Nat → Heap → Prop}
    (h : ∀ b H', b = H.size → Ext H H' → H'.size = H.size + 1 → Row H' b t vs → k b H') : Nw ⟨vs⟩ t H k :=
  Nw_blk fun b H' h1 h2 h3 h4 => h b H' h1 h2 h3 h4

abbrev ints (xs : List Int) : List Value := xs.map (Value.int .i64)
theorem ints_get {xs : List Int} {i : Nat} (h : i < xs.length) : (ints xs)[i]? = some (.int .i64 (xs.getD i 0)) := by
  simp [List.getElem?_eq_getElem h]
theorem ints_set (xs : List Int) (i : Nat) (x : Int) : (ints xs).set i (.int .i64 x) = ints (xs.set i x) := by simp [ints, List.map_set]
def iota (n : Nat) : List Int := (List.range n).map Int.ofNat
theorem iota_len (n : Nat) : (iota n).length = n := by simp [iota]
theorem iota_succ (n : Nat) : iota (n + 1) = iota n ++ [(n : Int)] := by simp [iota, List.range_succ]
theorem iota_step {n i : Nat} (h : i < n) : (iota i ++ List.replicate (n - i) 0).set i (i : Int) = iota (i + 1) ++ List.replicate (n - (i + 1)) 0 := by
  rw [List.set_append_right _ _ (by rw [iota_len]; exact Nat.le_refl _), iota_len, Nat.sub_self, iota_succ]
  obtain ⟨m, hm⟩ : ∃ m, n - i = m + 1 := ⟨n - i - 1, by omega⟩
  rw [hm, List.replicate_succ, List.set_cons_zero, show n - (i + 1) = m by omega]
  simp
theorem mem_iota {n : Nat} {x : Int} : x ∈ iota n ↔ 0 ≤ x ∧ x < n := by
  simp only [iota, List.mem_map, List.mem_range]
  constructor
  · rintro ⟨a, h, rfl⟩; exact ⟨Int.natCast_nonneg a, by simp; omega⟩
  · rintro ⟨h0, h1⟩; exact ⟨x.toNat, by omega, by simp; omega⟩
theorem nodup_iota (n : Nat) : (iota n).Nodup := by
  unfold iota
  rw [List.nodup_iff_pairwise_ne, List.pairwise_map]
  exact List.Pairwise.imp (fun {a b} (h : a < b) => by simp; omega) List.pairwise_lt_range
end Go.Proofs.YtlkmmplgfjicjaaDoor.Hc
