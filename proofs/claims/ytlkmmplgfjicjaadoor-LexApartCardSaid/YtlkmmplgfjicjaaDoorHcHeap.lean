/-
  Heaps: what a block holds, what a step may have turned, and rules for the printed conditions' words.
-/
import Derived.Test.YtlkmmplgfjicjaaDoorHcFun
namespace Go.Proofs.YtlkmmplgfjicjaaDoor.Hc
set_option linter.unusedVariables false
set_option linter.unusedSimpArgs false

/-- From H to H' nothing has turned but blocks of M, and blocks that are new. -/
structure Upd (M : Nat → Prop) (H H' : Heap) : Prop where
  size : H.size ≤ H'.size
  get : ∀ b, b < H.size → ¬ M b → H'[b]? = H[b]?
abbrev Ext (H H' : Heap) : Prop := Upd (fun _ => False) H H'

theorem Upd.refl (M : Nat → Prop) (H : Heap) : Upd M H H := ⟨Nat.le_refl _, fun _ _ _ => rfl⟩
theorem Upd.trans {M M2 : Nat → Prop} {H H1 H2 : Heap} (h : Upd M H H1) (h2 : Upd M2 H1 H2) (hM : ∀ b, b < H.size → M2 b → M b) : Upd M H H2 :=
  ⟨Nat.le_trans h.size h2.size, fun b hb hn => (h2.get b (Nat.lt_of_lt_of_le hb h.size) fun hm => hn (hM b hb hm)).trans (h.get b hb hn)⟩
theorem Upd.mono {M M2 : Nat → Prop} {H H1 : Heap} (h : Upd M2 H H1) (hM : ∀ b, b < H.size → M2 b → M b) : Upd M H H1 :=
  ⟨h.size, fun b hb hn => h.get b hb fun hm => hn (hM b hb hm)⟩
theorem Upd.ext {M : Nat → Prop} {H H1 H2 : Heap} (h : Upd M H H1) (h2 : Ext H1 H2) : Upd M H H2 := h.trans h2 fun _ _ h => h.elim
theorem Upd.push (M : Nat → Prop) (H : Heap) (o : Obj) : Upd M H (H.push o) :=
  ⟨by simp, fun b hb _ => by rw [Array.getElem?_push, if_neg (by omega)]⟩
theorem Upd.set (H : Heap) (a : Addr) (v : Value) : Upd (· = a.block) H (hset H a v) :=
  ⟨by simp [hset], fun b _ hn => by simp only [hset, Array.getElem?_modify]; rw [if_neg (fun e => hn e.symm)]⟩
theorem lt_of_get {H : Heap} {b : Nat} {o : Obj} (h : H[b]? = some o) : b < H.size := by
  rcases Nat.lt_or_ge b H.size with h' | h'
  · exact h'
  · rw [Array.getElem?_eq_none h'] at h; cases h
/-- A block that was not turned holds what it held. -/
theorem Upd.keep {M : Nat → Prop} {H H' : Heap} (h : Upd M H H') {b : Nat} {o : Obj} (hb : H[b]? = some o) (hn : ¬ M b) : H'[b]? = some o := (h.get b (lt_of_get hb) hn).trans hb
theorem get_push_new (H : Heap) (o : Obj) : (H.push o)[H.size]? = some o := by simp
theorem get_push_old {H : Heap} {o o' : Obj} {b : Nat} (h : H[b]? = some o') : (H.push o)[b]? = some o' := by
  have := lt_of_get h
  rw [Array.getElem?_push, if_neg (by omega)]; exact h
theorem lt_of_cell {H : Heap} {a : Addr} {v : Value} (h : hcell H a = some v) : a.block < H.size := by
  unfold hcell at h
  rcases Nat.lt_or_ge a.block H.size with h' | h'
  · exact h'
  · rw [Array.getElem?_eq_none h'] at h; cases h
theorem hcell_congr {H H' : Heap} {a : Addr} (h : H'[a.block]? = H[a.block]?) : hcell H' a = hcell H a := by unfold hcell; rw [h]
theorem hfrozen_congr {H H' : Heap} {a : Addr} (h : H'[a.block]? = H[a.block]?) : hfrozen H' a = hfrozen H a := by unfold hfrozen; rw [h]
theorem Upd.cell {M : Nat → Prop} {H H' : Heap} (h : Upd M H H') {a : Addr} {v : Value} (hc : hcell H a = some v) (hn : ¬ M a.block) : hcell H' a = some v :=
  (hcell_congr (h.get _ (lt_of_cell hc) hn)).trans hc

/-- Cells of a block that is known whole. -/
theorem cell_blk {H : Heap} {b o : Nat} {cs : Array Value} {t : TypeId} {fr : Nat × Nat} (h : H[b]? = some (.cells cs t fr)) : hcell H ⟨b, o, none⟩ = cs[o]? := by
  simp [hcell, h]
theorem frozen_blk {H : Heap} {b o : Nat} {cs : Array Value} {t : TypeId} (h : H[b]? = some (.cells cs t (0, 0))) : hfrozen H ⟨b, o, none⟩ = false := by
  simp [hfrozen, h]
theorem set_blk {H : Heap} {b o : Nat} {cs : Array Value} {t : TypeId} {fr : Nat × Nat} (h : H[b]? = some (.cells cs t fr)) (v : Value) :
    (hset H ⟨b, o, none⟩ v)[b]? = some (.cells (cs.setIfInBounds o v) t fr) := by
  simp [hset, Array.getElem?_modify, h]
@[simp] theorem size_hset (H : Heap) (a : Addr) (v : Value) : (hset H a v).size = H.size := by simp [hset]
@[simp] theorem adr_add (b n : Nat) : (adr b).add n = ⟨b, n, none⟩ := by unfold Addr.add; split <;> simp_all
@[simp] theorem mk_add (b o n : Nat) : (Addr.add ⟨b, o, none⟩ n) = ⟨b, o + n, none⟩ := by unfold Addr.add; split <;> simp_all

/-! ### the words -/
@[simp] theorem NilCk_some (a : Addr) (k : Addr → Prop) : NilCk (some a) k ↔ k a := by simp [NilCk]
@[simp] theorem NilCk_none (k : Addr → Prop) : NilCk none k ↔ False := by simp [NilCk]
theorem Ld.mk {c : CTy} {a : Addr} {H : Heap} {k : c.den → Prop} (d : c.den) (h : hcell H a = some (c.emb d)) (hk : k d) : Ld c a H k := ⟨d, h, hk⟩
theorem Ld_int {kd : IntKind} {a : Addr} {H : Heap} {k : Int → Prop} {n : Int} (h : hcell H a = some (.int kd n)) (hk : k n) : Ld (.int kd) a H k := ⟨n, h, hk⟩
theorem Ld_bool {a : Addr} {H : Heap} {k : Bool → Prop} {n : Bool} (h : hcell H a = some (.bool n)) (hk : k n) : Ld .bool a H k := ⟨n, h, hk⟩
theorem Ld_str {a : Addr} {H : Heap} {k : ByteArray → Prop} {n : ByteArray} (h : hcell H a = some (.string n)) (hk : k n) : Ld .str a H k := ⟨n, h, hk⟩
theorem Ld_ptr {a : Addr} {H : Heap} {k : Option Addr → Prop} {n : Option Addr} (h : hcell H a = some (.pointer n)) (hk : k n) : Ld .ptr a H k := ⟨n, h, hk⟩
theorem Ld_sl {a : Addr} {H : Heap} {k : Sl → Prop} {s : Sl} (h : hcell H a = some (.slice s.a s.len s.cap)) (hk : k s) : Ld .sl a H k := ⟨s, h, hk⟩
theorem St.mk {a : Addr} {v : Value} {H : Heap} {k : Heap → Prop} {u : Value} (h : hcell H a = some u) (hf : hfrozen H a = false) (hk : k (hset H a v)) : St a v H k := ⟨by rw [h]; rfl, hf, hk⟩
theorem St_blk {b o : Nat} {v : Value} {H : Heap} {k : Heap → Prop} {cs : Array Value} {t : TypeId} (h : H[b]? = some (.cells cs t (0, 0))) (ho : o < cs.size)
    (hk : ∀ H', Upd (· = b) H H' → H'.size = H.size → H'[b]? = some (.cells (cs.setIfInBounds o v) t (0, 0)) → k H') : St ⟨b, o, none⟩ v H k :=
  ⟨by rw [cell_blk h]; simp [ho], frozen_blk h, hk _ (Upd.set H ⟨b, o, none⟩ v) (by simp) (set_blk h v)⟩
@[simp] theorem Br_true (X Y : Prop) : Br true X Y ↔ X := Iff.rfl
@[simp] theorem Br_false (X Y : Prop) : Br false X Y ↔ Y := Iff.rfl
theorem Br.mk {b : Bool} {X Y : Prop} (h1 : b = true → X) (h2 : b = false → Y) : Br b X Y := by cases b; exact h2 rfl; exact h1 rfl
theorem Br_dec {p : Prop} [Decidable p] {X Y : Prop} (h1 : p → X) (h2 : ¬ p → Y) : Br (decide p) X Y := Br.mk (fun h => h1 (of_decide_eq_true h)) fun h => h2 (of_decide_eq_false h)
theorem Br_yes {p : Prop} [Decidable p] {X Y : Prop} (h : p) (hx : X) : Br (decide p) X Y := by rw [decide_eq_true h]; exact hx
theorem Br_no {p : Prop} [Decidable p] {X Y : Prop} (h : ¬ p) (hy : Y) : Br (decide p) X Y := by rw [decide_eq_false h]; exact hy
@[simp] theorem Lt_def (v : Int) (k : Int → Prop) : Lt v k ↔ k v := Iff.rfl
theorem Lt.mk {v u : Int} {k : Int → Prop} (h : v = u) (hk : k u) : Lt v k := by subst h; exact hk
theorem Nw.mk {cells : Array Value} {t : TypeId} {H : Heap} {k : Nat → Heap → Prop}
    (h : ∀ H', H' = H.push (.cells cells t) → k H.size H') : Nw cells t H k := h _ rfl
/-- New memory: its block, and all else as it was. -/
theorem Nw_blk {cells : Array Value} {t : TypeId} {H : Heap} {k : Nat → Heap → Prop}
    (h : ∀ b H', b = H.size → Ext H H' → H'.size = H.size + 1 → H'[b]? = some (.cells cells t (0, 0)) → k b H') : Nw cells t H k :=
  h _ _ rfl (Upd.push _ _ _) (by simp) (get_push_new _ _)
theorem Jn.mk {σ : Type} {m : (σ → Heap → Prop) → Prop} {k : σ → Heap → Prop} (R : σ → Heap → Prop) (h1 : ∀ kk, (∀ s H, R s H → kk s H) → m kk) (h2 : ∀ s H, R s H → k s H) : Jn m k := h1 k h2
theorem Jn_in {σ : Type} {m : (σ → Heap → Prop) → Prop} {k : σ → Heap → Prop} (h : m k) : Jn m k := h
theorem LoopT.mk {σ : Type} {body : (σ → Heap → Prop) → σ → Heap → Prop} {s : σ} {H : Heap} (I : σ → Heap → Prop) (μ : σ → Heap → Nat) (h : I s H)
    (hb : ∀ next s H, I s H → (∀ s' H', I s' H' → μ s' H' < μ s H → next s' H') → body next s H) : LoopT body s H :=
  ⟨I, μ, h, fun s H hI => hb _ s H hI fun _ _ h1 h2 => ⟨h1, h2⟩⟩
/-- A loop whose measure is the proof's own number. -/
theorem LoopT.ghost {σ : Type} {body : (σ → Heap → Prop) → σ → Heap → Prop} {s : σ} {H : Heap} (I : Nat → σ → Heap → Prop) (n : Nat) (h : I n s H)
    (hb : ∀ next m s H, I m s H → (∀ m' s' H', m' < m → I m' s' H' → next s' H') → body next s H) : LoopT body s H := by
  refine ⟨fun s H => ∃ m, I m s H, fun s H => leastOf (fun m => I m s H), ⟨n, h⟩, fun s H hI => ?_⟩
  have hl := leastOf_spec hI
  exact hb _ _ s H hl.1 fun m' s' H' hlt hI' => ⟨⟨m', hI'⟩, Nat.lt_of_le_of_lt ((leastOf_spec ⟨m', hI'⟩).2 m' hI') hlt⟩
theorem CallT.mono {P : Program} {f : FuncId} {args : List Value} {r : RTy} {H : Heap} {k k' : r.den → Heap → Prop} (h : CallT P f args r H k) (hk : ∀ d H', k d H' → k' d H') : CallT P f args r H k' :=
  ⟨h.1, fun w hw => (h.2 w hw).mono fun _ _ ⟨he, d, h1, h2⟩ => ⟨he, d, h1, hk d _ h2⟩⟩
theorem IxA.mk {size : Nat} {s : Sl} {i : Int} {k : Addr → Prop} {a : Addr} (ha : s.a = some a) (h0 : 0 ≤ i) (h1 : i < (s.len : Int)) (hk : k (a.add (i.toNat * size))) : IxA size s i k := ⟨a, ha, h0, h1, hk⟩
theorem Stab_1 {a : Addr} {v : Value} {H : Heap} {X : Prop} (h : hcell H a = some v) (hx : X) : Stab [(a, v)] H X := ⟨by simpa using h, hx⟩
theorem Stab_2 {a b : Addr} {v u : Value} {H : Heap} {X : Prop} (h : hcell H a = some v) (h2 : hcell H b = some u) (hx : X) : Stab [(a, v), (b, u)] H X := ⟨by simp [h, h2], hx⟩
theorem Stab_all {l : List (Addr × Value)} {H : Heap} {X : Prop} (h : ∀ x ∈ l, hcell H x.1 = some x.2) (hx : X) : Stab l H X := by
  cases l with
  | nil => exact hx
  | cons e l => exact ⟨h, hx⟩
/-- What an int64 may be. -/
def I64 (x : Int) : Prop := -9223372036854775808 ≤ x ∧ x < 9223372036854775808
theorem wrap_u64 (x : Int) : IntKind.wrap .u64 x = x % 18446744073709551616 := by
  unfold IntKind.wrap; simp [IntKind.signed, IntKind.bits]
theorem wrap_i64 (x : Int) : IntKind.wrap .i64 x = (x + 9223372036854775808) % 18446744073709551616 - 9223372036854775808 := by
  unfold IntKind.wrap; simp [IntKind.signed, IntKind.bits]; split <;> omega
theorem wrap_i64_id {x : Int} (h0 : -9223372036854775808 ≤ x) (h1 : x < 9223372036854775808) : IntKind.wrap .i64 x = x := by rw [wrap_i64]; omega
theorem wrap_u64_id {x : Int} (h0 : 0 ≤ x) (h1 : x < 18446744073709551616) : IntKind.wrap .u64 x = x := by rw [wrap_u64]; omega
theorem wrap_u8 (x : Int) : IntKind.wrap .u8 x = x % 256 := by
  unfold IntKind.wrap; simp [IntKind.signed, IntKind.bits]
end Go.Proofs.YtlkmmplgfjicjaaDoor.Hc
