/-
  Bytes: what a slice of bytes reads as; copies, prefixes, strings.
-/
import Derived.Test.YtlkmmplgfjicjaaDoorHcVec
import Derived.Test.YtlkmmplgfjicjaaDoorHcLaw
namespace Go.Proofs.YtlkmmplgfjicjaaDoor.Hc
set_option linter.unusedVariables false
set_option linter.unusedSimpArgs false

abbrev u8s (bs : List UInt8) : List Value := bs.map fun b => .int .u8 (b.toNat : Int)
theorem u8s_get {bs : List UInt8} {i : Nat} (h : i < bs.length) : (u8s bs)[i]? = some (.int .u8 (bs[i].toNat : Int)) := by
  simp [h]
def u8of (x : Int) : UInt8 := UInt8.ofNat (x % 256).toNat
theorem wrap_u8_of (x : Int) : IntKind.wrap .u8 x = ((u8of x).toNat : Int) := by
  rw [wrap_u8]; unfold u8of
  rw [UInt8.toNat_ofNat']; omega
theorem u8s_one (s : List UInt8) : ∀ w ∈ u8s s, w.oneCell' = true := by simp [Value.oneCell']
theorem u8of_toNat (b : UInt8) : u8of (b.toNat : Int) = b := by
  unfold u8of
  have := UInt8.toNat_lt b
  rw [show ((b.toNat : Int) % 256).toNat = b.toNat by omega]; simp
theorem add_zero (a : Addr) : a.add 0 = a := rfl
theorem add_block (a : Addr) (n : Nat) : (a.add n).block = a.block := by unfold Addr.add; split <;> rfl

theorem hcells_upd {M : Nat → Prop} {H H' : Heap} (hu : Upd M H H') {a : Addr} (hn : ¬ M a.block) : ∀ {vs : List Value} {i : Nat}, hcells H a i vs → hcells H' a i vs
  | [], _, _ => trivial
  | _ :: _, _, h => ⟨hu.cell h.1 (by rw [add_block]; exact hn), hcells_upd hu hn h.2⟩
theorem hcells_take {H : Heap} {a : Addr} : ∀ {vs : List Value} {i n : Nat}, hcells H a i vs → hcells H a i (vs.take n)
  | _, _, 0, _ => by simp [hcells]
  | [], _, _ + 1, _ => by simp [hcells]
  | _ :: _, _, _ + 1, h => ⟨h.1, hcells_take h.2⟩

/-- A slice of bytes reads as these. -/
structure RB (H : Heap) (s : Sl) (bs : List UInt8) : Prop where
  rd : rdL H s.a (u8s bs)
  len : s.len = bs.length
  cap : s.len ≤ s.cap
theorem RB.nil (H : Heap) : RB H ⟨none, 0, 0⟩ [] := ⟨rfl, rfl, Nat.le_refl _⟩
theorem RB.upd {M : Nat → Prop} {H H' : Heap} (hu : Upd M H H') {s : Sl} {bs : List UInt8} (h : RB H s bs) (hn : ∀ a, s.a = some a → ¬ M a.block) : RB H' s bs := by
  refine ⟨?_, h.len, h.cap⟩
  have hr := h.rd
  unfold rdL at hr ⊢
  cases ha : s.a with
  | none => rw [ha] at hr; exact hr
  | some a => rw [ha] at hr; exact hcells_upd hu (hn a ha) hr
theorem RB.ext {H H' : Heap} (hu : Ext H H') {s : Sl} {bs : List UInt8} (h : RB H s bs) : RB H' s bs := h.upd hu fun _ _ h => h
/-- Where a slice's block lies, if it has bytes. -/
theorem RB.lt {H : Heap} {s : Sl} {bs : List UInt8} (h : RB H s bs) (hb : bs ≠ []) : ∃ a, s.a = some a ∧ a.block < H.size := by
  have hr := h.rd
  unfold rdL at hr
  cases ha : s.a with
  | none => rw [ha] at hr; simp at hr; exact absurd hr hb
  | some a =>
    rw [ha] at hr
    cases bs with
    | nil => exact absurd rfl hb
    | cons b bs => exact ⟨a, rfl, by have := lt_of_cell hr.1; rwa [add_block] at this⟩
theorem IxA_rb {H : Heap} {s : Sl} {bs : List UInt8} (h : RB H s bs) {i : Int} {k : Addr → Prop} {j : Nat} (hj : i = j) (hl : j < bs.length)
    (hk : ∀ a, hcell H a = some (.int .u8 (bs[j].toNat : Int)) → (∃ c, s.a = some c ∧ a.block = c.block) → k a) : IxA 1 s i k := by
  have hr := h.rd
  unfold rdL at hr
  cases ha : s.a with
  | none => rw [ha] at hr; simp at hr; subst hr; simp at hl
  | some a =>
    rw [ha] at hr
    subst hj
    refine IxA.mk ha (by omega) (by rw [h.len]; omega) ?_
    rw [Int.toNat_natCast, Nat.mul_one]
    refine hk _ ?_ ⟨a, ha, add_block _ _⟩
    have := hcells_iff.1 hr j (by simpa using hl)
    rw [Nat.zero_add] at this
    rw [this, u8s_get hl]
theorem SlA0 {size : Nat} {s : Sl} {hi mx : Int} {k : Sl → Prop} (h0 : 0 ≤ hi) (h1 : hi ≤ mx) (h2 : mx ≤ (s.cap : Int)) (hk : k ⟨s.a, hi.toNat, mx.toNat⟩) : SlA size s 0 hi mx k := by
  refine ⟨by omega, h0, h1, h2, ?_⟩
  have e : (if mx.toNat = (0 : Int).toNat then s.a else s.a.map (·.add ((0 : Int).toNat * size))) = s.a := by
    split
    · rfl
    · rw [show (0 : Int).toNat * size = 0 by simp]
      cases s.a <;> rfl
  rw [e]
  simpa using hk
theorem RB.pre {H : Heap} {s : Sl} {bs : List UInt8} (h : RB H s bs) {n c : Nat} (hn : n ≤ bs.length) (hc : n ≤ c) : RB H ⟨s.a, n, c⟩ (bs.take n) := by
  refine ⟨?_, by simp; omega, hc⟩
  have hr := h.rd
  unfold rdL at hr ⊢
  cases ha : s.a with
  | none => rw [ha] at hr; simp at hr; subst hr; simp
  | some a =>
    rw [ha] at hr
    have := hcells_take (n := n) hr
    rwa [u8s, ← List.map_take] at this
theorem Vec.rb {H : Heap} {T : TypeId} {s : Sl} {bs : List UInt8} (h : Vec H T s (u8s bs)) : RB H s bs := ⟨h.rd, by simpa using h.len, h.lc⟩
theorem B2S_rb {H : Heap} {s : Sl} {bs : List UInt8} {k : ByteArray → Prop} (h : RB H s bs) (hk : k ⟨⟨bs⟩⟩) : B2S s H k := ⟨bs, h.rd, fun _ => h.len.symm, hk⟩
theorem ba_append (a b : List UInt8) : (⟨⟨a⟩⟩ : ByteArray) ++ ⟨⟨b⟩⟩ = ⟨⟨a ++ b⟩⟩ := by
  apply ByteArray.ext; simp
theorem Cpy_row {T : TypeId} {b n c : Nat} {x : Sl} {bs : List UInt8} {cs : List Value} {H : Heap} {k : Int → Heap → Prop} (hr : Row H b T cs) (hx : RB H x bs) (hn : bs.length ≤ n) (hc : n ≤ cs.length)
    (hk : ∀ H', Upd (· = b) H H' → H'.size = H.size → Row H' b T (u8s bs ++ cs.drop bs.length) → k bs.length H') : Cpy 1 ⟨some (adr b), n, c⟩ x H k := by
  have hm : Nat.min x.len n = bs.length := by rw [hx.len]; exact Nat.min_eq_left hn
  refine ⟨u8s bs, hx.rd, fun _ => ?_, ?_⟩
  · dsimp only; rw [hm]; simp
  · dsimp only
    rw [hm]
    refine StL_row hr (by simp; omega) (u8s_one _) fun H' hU hs hr' => ?_
    refine hk H' (hU.mono fun _ _ h => h.1) hs ?_
    simpa using hr'
/-- 'copy' into memory that was just made. -/
theorem Mrk_row {b : Nat} {T : TypeId} {vs : List Value} {H : Heap} {k : Heap → Prop} (h : Row H b T vs)
    (hk : ∀ H', Upd (· = b) H H' → H'.size = H.size → hcells H' (adr b) 0 vs → k H') : Mrk (adr b) H k := by
  unfold Row at h
  refine ⟨T, vs.length, by simp [hshape, h], ?_⟩
  have hU : Upd (· = b) H (hfreeze H ⟨b, vs.length, none⟩ 1) := by
    refine ⟨by simp [hfreeze], fun c hc hn => ?_⟩
    simp only [hfreeze, Nat.one_ne_zero, if_false, Array.getElem?_modify]
    rw [if_neg (fun e => hn e.symm)]
  have hb : (hfreeze H ⟨b, vs.length, none⟩ 1)[b]? = some (.cells ⟨vs⟩ T (vs.length, vs.length + 1)) := by
    simp [hfreeze, Array.getElem?_modify, h]
  refine hk _ hU (by simp [hfreeze]) (hcells_iff.2 fun j hj => ?_)
  rw [adr_add, cell_blk hb, Nat.zero_add]; simp
theorem S2B_rb {T : TypeId} {s : ByteArray} {H : Heap} {k : Sl → Heap → Prop} (hk : ∀ s' H', RB H' s' s.data.toList → Ext H H' → s'.a = some (adr H.size) → k s' H') : S2B T s H k := by
  intro c hc
  refine hk _ _ ⟨?_, by simp, hc⟩ (Upd.push _ _ _) rfl
  refine hcells_iff.2 fun j hj => ?_
  rw [adr_add, Nat.zero_add, cell_blk (get_push_new _ _)]
  simp only [List.length_map, Array.length_toList] at hj
  rw [Array.getElem?_append_left (by simpa [bytesV] using hj)]
  simp [bytesV]

theorem Vec.pre {H : Heap} {T : TypeId} {s : Sl} {vs : List Value} (h : Vec H T s vs) {n c : Nat} (hn : n ≤ vs.length) (hc : c ≤ s.cap) (hn2 : n ≤ c) : Vec H T ⟨s.a, n, c⟩ (vs.take n) := by
  refine ⟨by simp; omega, ?_, hn2⟩
  rcases h.own with ⟨h1, h2, h3⟩ | ⟨b, sp, h1, h2, h3⟩
  · exact .inl ⟨h1, by dsimp only; omega, by rw [h3]; simp⟩
  · refine .inr ⟨b, vs.drop n ++ sp, h1, ?_, by simp; omega⟩
    rw [← List.append_assoc, List.take_append_drop]; exact h2

/-- An argument that is a slice of bytes. -/
theorem rdC_bytes {P : Program} {t e : TypeId} (hu : P.underlying t = some (.slice e)) (he : P.underlying e = some (.int .u8)) (hce : P.cellsOf e = 1) {H : Heap} {f : Nat} {v : Value} (h : RdC P H f t [v]) :
    ∃ (s : Sl) (bs : List UInt8), v = .slice s.a s.len s.cap ∧ RB H s bs ∧ s.cap * P.bytesOf e ≤ reachBytes := by
  obtain ⟨f', hs⟩ := rdC_slice hu h
  rw [hce] at hs
  rcases hs with e | ⟨a, len, cap, e, h1, h2, h3⟩
  · simp only [List.cons.injEq, and_true] at e
    subst e
    exact ⟨⟨none, 0, 0⟩, [], rfl, .nil _, by simp⟩
  · simp only [List.cons.injEq, and_true] at e
    subst e
    have h4 : ∀ i, i < len → ∃ b : UInt8, hcell H (a.add i) = some (.int .u8 (b.toNat : Int)) := by
      intro i hi
      obtain ⟨xs, g1, g2, g3⟩ := h3 i (Nat.lt_of_lt_of_le hi h1)
      cases f' with
      | zero => exact g3.elim
      | succ f' =>
        simp only [RdC, he] at g3
        obtain ⟨n, rfl, g4, g5⟩ := g3
        have e0 : IntKind.u8.min = 0 := by decide
        have e1 : IntKind.u8.max = 255 := by decide
        refine ⟨UInt8.ofNat n.toNat, ?_⟩
        have := g2.1
        rw [Nat.mul_one, add_zero] at this
        rw [this, UInt8.toNat_ofNat']
        congr 2; omega
    have h5 : ∀ n, n ≤ len → ∃ bs : List UInt8, bs.length = n ∧ hcells H a 0 (u8s bs) := by
      intro n
      induction n with
      | zero => exact fun _ => ⟨[], rfl, trivial⟩
      | succ n ih =>
        intro hn
        obtain ⟨bs, g1, g2⟩ := ih (by omega)
        obtain ⟨b, hb⟩ := h4 n (by omega)
        refine ⟨bs ++ [b], by simp [g1], hcells_iff.2 fun j hj => ?_⟩
        simp only [List.length_map, List.length_append, List.length_singleton] at hj
        rw [Nat.zero_add]
        rcases Nat.lt_or_ge j n with h | h
        · have := hcells_iff.1 g2 j (by simp; omega)
          rw [Nat.zero_add] at this
          rw [this, u8s, u8s, List.map_append, List.getElem?_append_left (by simp; omega)]
        · have : j = n := by omega
          subst this
          rw [hb, u8s, List.map_append, List.getElem?_append_right (by simp; omega)]
          simp [g1]
    obtain ⟨bs, g1, g2⟩ := h5 len (Nat.le_refl _)
    exact ⟨⟨some a, len, cap⟩, bs, rfl, ⟨g2, g1.symm, h1⟩, h2.2⟩
theorem rd_bytes {P : Program} {t e : TypeId} (hu : P.underlying t = some (.slice e)) (he : P.underlying e = some (.int .u8)) (hce : P.cellsOf e = 1) {H : Heap} {v : Value} (h : RdV P H t v) :
    ∃ (s : Sl) (bs : List UInt8), v = .slice s.a s.len s.cap ∧ RB H s bs ∧ s.cap * P.bytesOf e ≤ reachBytes := by
  obtain ⟨f, hc⟩ := rd_cell hu rfl h
  exact rdC_bytes hu he hce hc
end Go.Proofs.YtlkmmplgfjicjaaDoor.Hc
