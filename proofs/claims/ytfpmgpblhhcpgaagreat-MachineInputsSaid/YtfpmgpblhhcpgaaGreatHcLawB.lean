/-
  Bytes: what a slice of bytes reads as; copies, prefixes, strings.
-/
import Derived.Test.YtfpmgpblhhcpgaaGreatHcLaw
namespace Go.Proofs.YtfpmgpblhhcpgaaGreat.Hc
set_option linter.unusedVariables false
set_option linter.unusedSimpArgs false

abbrev u8s (bs : List UInt8) : List Value := bs.map fun b => .int .u8 (b.toNat : Int)
theorem u8s_get {bs : List UInt8} {i : Nat} (h : i < bs.length) : (u8s bs)[i]? = some (.int .u8 (bs[i].toNat : Int)) := by
  simp [h]
def u8of (x : Int) : UInt8 := UInt8.ofNat (x % 256).toNat
theorem wrap_u8_of (x : Int) : IntKind.wrap .u8 x = ((u8of x).toNat : Int) := by
  rw [wrap_u8]; unfold u8of
  rw [UInt8.toNat_ofNat']; omega
theorem u8s_one (s : List UInt8) : ∀ w ∈ u8s s, w.oneCell' = true := by simp [Value.oneCell']
theorem u8of_toNat (b : UInt8) : u8of (b.toNat : Int) = b := by
  unfold u8of
  have := UInt8.toNat_lt b
  rw [show ((b.toNat : Int) % 256).toNat = b.toNat by omega]; simp
theorem add_zero (a : Addr) : a.add 0 = a := rfl
theorem add_block (a : Addr) (n : Nat) : (a.add n).block = a.block := by unfold Addr.add; split <;> rfl

theorem hcells_upd {M : Nat → Prop} {H H' : Heap} (hu : Upd M H H') {a : Addr} (hn : ¬ M a.block) : ∀ {vs : List Value} {i : Nat}, hcells H a i vs → hcells H' a i vs
  | [], _, _ => trivial
  | _ :: _, _, h => ⟨hu.cell h.1 (by rw [add_block]; exact hn), hcells_upd hu hn h.2⟩
theorem hcells_take {H : Heap} {a : Addr} : ∀ {vs : List Value} {i n : Nat}, hcells H a i vs → hcells H a i (vs.take n)
  | _, _, 0, _ => by simp [hcells]
  | [], _, _ + 1, _ => by simp [hcells]
  | _ :: _, _, _ + 1, h => ⟨h.1, hcells_take h.2⟩

/-- A slice of bytes reads as these. -/
structure RB (H : Heap) (s : Sl) (bs : List UInt8) : Prop where
  rd : rdL H s.a (u8s bs)
  len : s.len = bs.length
  cap : s.len ≤ s.cap
theorem RB.nil (H : Heap) : RB H ⟨none, 0, 0⟩ [] := ⟨rfl, rfl, Nat.le_refl _⟩
theorem RB.upd {M : Nat → Prop} {H H' : Heap} (hu : Upd M H H') {s : Sl} {bs : List UInt8} (h : RB H s bs) (hn : ∀ a, s.a = some a → ¬ M a.block) : RB H' s bs := by
  refine ⟨?_, h.len, h.cap⟩
  have hr := h.rd
  unfold rdL at hr ⊢
  cases ha : s.a with
  | none => rw [ha] at hr; exact hr
  | some a => rw [ha] at hr; exact hcells_upd hu (hn a ha) hr
theorem RB.ext {H H' : Heap} (hu : Ext H H') {s : Sl} {bs : List UInt8} (h : RB H s bs) : RB H' s bs := h.upd hu fun _ _ h => h
/-- Where a slice's block lies, if it has bytes. -/
theorem RB.lt {H : Heap} {s : Sl} {bs : List UInt8} (h : RB H s bs) (hb : bs ≠ []) : ∃ a, s.a = some a ∧ a.block < H.size := by
  have hr := h.rd
  unfold rdL at hr
  cases ha : s.a with
  | none => rw [ha] at hr; simp at hr; exact absurd hr hb
  | some a =>
    rw [ha] at hr
    cases bs with
    | nil => exact absurd rfl hb
    | cons b bs => exact ⟨a, rfl, by have := lt_of_cell hr.1; rwa [add_block] at this⟩
theorem IxA_rb {H : Heap} {s : Sl} {bs : List UInt8} (h : RB H s bs) {i : Int} {k : Addr → Prop} {j : Nat} (hj : i = j) (hl : j < bs.length)
    (hk : ∀ a, hcell H a = some (.int .u8 (bs[j].toNat : Int)) → (∃ c, s.a = some c ∧ a.block = c.block) → k a) : IxA 1 s i k := by
  have hr := h.rd
  unfold rdL at hr
  cases ha : s.a with
  | none => rw [ha] at hr; simp at hr; subst hr; simp at hl
  | some a =>
    rw [ha] at hr
    subst hj
    refine IxA.mk ha (by omega) (by rw [h.len]; omega) ?_
    rw [Int.toNat_natCast, Nat.mul_one]
    refine hk _ ?_ ⟨a, ha, add_block _ _⟩
    have := hcells_iff.1 hr j (by simpa using hl)
    rw [Nat.zero_add] at this
    rw [this, u8s_get hl]
theorem SlA0 {size : Nat} {s : Sl} {hi mx : Int} {k : Sl → Prop} (h0 : 0 ≤ hi) (h1 : hi ≤ mx) (h2 : mx ≤ (s.cap : Int)) (hk : k ⟨s.a, hi.toNat, mx.toNat⟩) : SlA size s 0 hi mx k := by
  refine ⟨by omega, h0, h1, h2, ?_⟩
  have e : (if mx.toNat = (0 : Int).toNat then s.a else s.a.map (·.add ((0 : Int).toNat * size))) = s.a := by
    split
    · rfl
    · rw [show (0 : Int).toNat * size = 0 by simp]
      cases s.a <;> rfl
  rw [e]
  simpa using hk
theorem RB.pre {H : Heap} {s : Sl} {bs : List UInt8} (h : RB H s bs) {n c : Nat} (hn : n ≤ bs.length) (hc : n ≤ c) : RB H ⟨s.a, n, c⟩ (bs.take n) := by
  refine ⟨?_, by simp; omega, hc⟩
  have hr := h.rd
  unfold rdL at hr ⊢
  cases ha : s.a with
  | none => rw [ha] at hr; simp at hr; subst hr; simp
  | some a =>
    rw [ha] at hr
    have := hcells_take (n := n) hr
    rwa [u8s, ← List.map_take] at this
theorem Vec.rb {H : Heap} {T : TypeId} {s : Sl} {bs : List UInt8} (h : Vec H T s (u8s bs)) : RB H s bs := ⟨h.rd, by simpa using h.len, h.lc⟩
theorem B2S_rb {H : Heap} {s : Sl} {bs : List UInt8} {k : ByteArray → Prop} (h : RB H s bs) (hk : k ⟨⟨bs⟩⟩) : B2S s H k := ⟨bs, h.rd, fun _ => h.len.symm, hk⟩
theorem ba_append (a b : List UInt8) : (⟨⟨a⟩⟩ : ByteArray) ++ ⟨⟨b⟩⟩ = ⟨⟨a ++ b⟩⟩ := by
  apply ByteArray.ext; simp
theorem Cpy_row {T : TypeId} {b n c : Nat} {x : Sl} {bs : List UInt8} {cs : List Value} {H : Heap} {k : Int → Heap → Prop} (hr : Row H b T cs) (hx : RB H x bs) (hn : bs.length ≤ n) (hc : n ≤ cs.length)
    (hk : ∀ H', Upd (· = b) H H' → H'.size = H.size → Row H' b T (u8s bs ++ cs.drop bs.length) → k bs.length H') : Cpy 1 ⟨some (adr b), n, c⟩ x H k := by
  have hm : Nat.min x.len n = bs.length := by rw [hx.len]; exact Nat.min_eq_left hn
  refine ⟨u8s bs, hx.rd, fun _ => ?_, ?_⟩
  · dsimp only; rw [hm]; simp
  · dsimp only
    rw [hm]
    refine StL_row hr (by simp; omega) (u8s_one _) fun H' hU hs hr' => ?_
    refine hk H' (hU.mono fun _ _ h => h.1) hs ?_
    simpa using hr'
/-- 'copy' into memory that was just made. -/
theorem Mrk_row {b : Nat} {T : TypeId} {vs : List Value} {H : Heap} {k : Heap → Prop} (h : Row H b T vs)
    (hk : ∀ H', Upd (· = b) H H' → H'.size = H.size → hcells H' (adr b) 0 vs → k H') : Mrk (adr b) H k := by
  unfold Row at h
  refine ⟨T, vs.length, by simp [hshape, h], ?_⟩
  have hU : Upd (· = b) H (hfreeze H ⟨b, vs.length, none⟩ 1) := by
    refine ⟨by simp [hfreeze], fun c hc hn => ?_⟩
    simp only [hfreeze, Nat.one_ne_zero, if_false, Array.getElem?_modify]
    rw [if_neg (fun e => hn e.symm)]
  have hb : (hfreeze H ⟨b, vs.length, none⟩ 1)[b]? = some (.cells ⟨vs⟩ T (vs.length, vs.length + 1)) := by
    simp [hfreeze, Array.getElem?_modify, h]
  refine hk _ hU (by simp [hfreeze]) (hcells_iff.2 fun j hj => ?_)
  rw [adr_add, cell_blk hb, Nat.zero_add]; simp
theorem S2B_rb {T : TypeId} {s : ByteArray} {H : Heap} {k : Sl → Heap → Prop} (hk : ∀ s' H', RB H' s' s.data.toList → Ext H H' → s'.a = some (adr H.size) → k s' H') : S2B T s H k := by
  intro c hc
  refine hk _ _ ⟨?_, by simp, hc⟩ (Upd.push _ _ _) rfl
  refine hcells_iff.2 fun j hj => ?_
  rw [adr_add, Nat.zero_add, cell_blk (get_push_new _ _)]
  simp only [List.length_map, Array.length_toList] at hj
  rw [Array.getElem?_append_left (by simpa [bytesV] using hj)]
  simp [bytesV]

theorem Vec.pre {H : Heap} {T : TypeId} {s : Sl} {vs : List Value} (h : Vec H T s vs) {n c : Nat} (hn : n ≤ vs.length) (hc : c ≤ s.cap) (hn2 : n ≤ c) : Vec H T ⟨s.a, n, c⟩ (vs.take n) := by
  refine ⟨by simp; omega, ?_, hn2⟩
  rcases h.own with ⟨h1, h2, h3⟩ | ⟨b, sp, h1, h2, h3⟩
  · exact .inl ⟨h1, by dsimp only; omega, by rw [h3]; simp⟩
  · refine .inr ⟨b, vs.drop n ++ sp, h1, ?_, by simp; omega⟩
    rw [← List.append_assoc, List.take_append_drop]; exact h2

/-- An argument that is a slice of bytes. -/
theorem rdC_bytes {P : Program} {t e : TypeId} (hu : P.underlying t = some (.slice e)) (he : P.underlying e = some (.int .u8)) (hce : P.cellsOf e = 1) {H : Heap} {f : Nat} {v : Value} (h : RdC P H f t [v]) :
    ∃ (s : Sl) (bs : List UInt8), v = .slice s.a s.len s.cap ∧ RB H s bs ∧ s.cap * P.bytesOf e ≤ reachBytes := by
  obtain ⟨f', hs⟩ := rdC_slice hu h
  rw [hce] at hs
  rcases hs with e | ⟨a, len, cap, e, h1, h2, h3⟩
  · simp only [List.cons.injEq, and_true] at e
    subst e
    exact ⟨⟨none, 0, 0⟩, [], rfl, .nil _, by simp⟩
  · simp only [List.cons.injEq, and_true] at e
    subst e
    have h4 : ∀ i, i < len → ∃ b : UInt8, hcell H (a.add i) = some (.int .u8 (b.toNat : Int)) := by
      intro i hi
      obtain ⟨xs, g1, g2, g3⟩ := h3 i (Nat.lt_of_lt_of_le hi h1)
      cases f' with
      | zero => exact g3.elim
      | succ f' =>
        simp only [RdC, he] at g3
        obtain ⟨n, rfl, g4, g5⟩ := g3
        have e0 : IntKind.u8.min = 0 := by decide
        have e1 : IntKind.u8.max = 255 := by decide
        refine ⟨UInt8.ofNat n.toNat, ?_⟩
        have := g2.1
        rw [Nat.mul_one, add_zero] at this
        rw [this, UInt8.toNat_ofNat']
        congr 2; omega
    have h5 : ∀ n, n ≤ len → ∃ bs : List UInt8, bs.length = n ∧ hcells H a 0 (u8s bs) := by
      intro n
      induction n with
      | zero => exact fun _ => ⟨[], rfl, trivial⟩
      | succ n ih =>
        intro hn
        obtain ⟨bs, g1, g2⟩ := ih (by omega)
        obtain ⟨b, hb⟩ := h4 n (by omega)
        refine ⟨bs ++ [b], by simp [g1], hcells_iff.2 fun j hj => ?_⟩
        simp only [List.length_map, List.length_append, List.length_singleton] at hj
        rw [Nat.zero_add]
        rcases Nat.lt_or_ge j n with h | h
        · have := hcells_iff.1 g2 j (by simp; omega)
          rw [Nat.zero_add] at this
          rw [this, u8s, u8s, List.map_append, List.getElem?_append_left (by simp; omega)]
        · have : j = n := by omega
          subst this
          rw [hb, u8s, List.map_append, List.getElem?_append_right (by simp; omega)]
          simp [g1]
    obtain ⟨bs, g1, g2⟩ := h5 len (Nat.le_refl _)
    exact ⟨⟨some a, len, cap⟩, bs, rfl, ⟨g2, g1.symm, h1⟩, h2.2⟩
theorem rd_bytes {P : Program} {t e : TypeId} (hu : P.underlying t = some (.slice e)) (he : P.underlying e = some (.int .u8)) (hce : P.cellsOf e = 1) {H : Heap} {v : Value} (h : RdV P H t v) :
    ∃ (s : Sl) (bs : List UInt8), v = .slice s.a s.len s.cap ∧ RB H s bs ∧ s.cap * P.bytesOf e ≤ reachBytes := by
  obtain ⟨f, hc⟩ := rd_cell hu rfl h
  exact rdC_bytes hu he hce hc
end Go.Proofs.YtfpmgpblhhcpgaaGreat.Hc
/-
  Slices that grow, of elements of n cells each.
-/
namespace Go.Proofs.YtfpmgpblhhcpgaaGreat.Hc
set_option linter.unusedVariables false
set_option linter.unusedSimpArgs false

structure VecN (H : Heap) (T : TypeId) (n : Nat) (s : Sl) (vs : List Value) : Prop where
  len : vs.length = s.len * n
  own : (s.a = none ∧ s.cap = 0 ∧ vs = []) ∨ ∃ b sp, s.a = some (adr b) ∧ Row H b T (vs ++ sp) ∧ s.cap * n ≤ vs.length + sp.length
  lc : s.len ≤ s.cap
theorem VecN.nil (H : Heap) (T : TypeId) (n : Nat) : VecN H T n ⟨none, 0, 0⟩ [] := ⟨by simp, .inl ⟨rfl, rfl, rfl⟩, Nat.le_refl _⟩
theorem VecN.rd {H : Heap} {T : TypeId} {n : Nat} {s : Sl} {vs : List Value} (h : VecN H T n s vs) : rdL H s.a vs := by
  rcases h.own with ⟨h1, _, h3⟩ | ⟨b, sp, h1, h2, _⟩
  · rw [h1]; exact h3
  · rw [h1]; exact h2.rd
theorem VecN.upd {M : Nat → Prop} {H H' : Heap} (hu : Upd M H H') {T : TypeId} {n : Nat} {s : Sl} {vs : List Value} (h : VecN H T n s vs) (hn : ∀ b, s.a = some (adr b) → ¬ M b) : VecN H' T n s vs := by
  refine ⟨h.len, ?_, h.lc⟩
  rcases h.own with h1 | ⟨b, sp, h1, h2, h3⟩
  · exact .inl h1
  · exact .inr ⟨b, sp, h1, hu.row h2 (hn b h1), h3⟩
theorem VecN.ext {H H' : Heap} (hu : Ext H H') {T : TypeId} {n : Nat} {s : Sl} {vs : List Value} (h : VecN H T n s vs) : VecN H' T n s vs := h.upd hu fun _ _ h => h
theorem Vec.ext {H H' : Heap} (hu : Ext H H') {T : TypeId} {s : Sl} {vs : List Value} (h : Vec H T s vs) : Vec H' T s vs := h.upd hu fun _ _ h => h
theorem VecN.lt {H : Heap} {T : TypeId} {n : Nat} {s : Sl} {vs : List Value} (h : VecN H T n s vs) {b : Nat} (hb : s.a = some (adr b)) : b < H.size := by
  rcases h.own with ⟨h1, _⟩ | ⟨c, sp, h1, h2, _⟩
  · rw [h1] at hb; cases hb
  · rw [h1] at hb; cases hb; exact h2.lt
theorem VecN.ne {H : Heap} {T T' : TypeId} {n : Nat} {s : Sl} {vs vs' : List Value} (h : VecN H T n s vs) {b b' : Nat} (hb : s.a = some (adr b)) (h' : Row H b' T' vs') (ht : T ≠ T') : b ≠ b' := by
  rcases h.own with ⟨h1, _⟩ | ⟨c, sp, h1, h2, _⟩
  · rw [h1] at hb; cases hb
  · rw [h1] at hb; cases hb; exact h2.ne h' ht
/-- Slices whose elements are of different types lie apart. -/
theorem VecN.apV {H : Heap} {T T' : TypeId} {n : Nat} {s t : Sl} {vs vs' : List Value} (h : VecN H T n s vs) (h' : Vec H T' t vs') (ht : T ≠ T') {b : Nat} (hb : s.a = some (adr b)) (hb' : t.a = some (adr b)) : False := by
  rcases h'.own with ⟨h1, _⟩ | ⟨c, sp, h1, h2, _⟩
  · rw [h1] at hb'; cases hb'
  · rw [h1] at hb'; cases hb'; exact h.ne hb h2 ht rfl
theorem Vec.apV {H : Heap} {T T' : TypeId} {s t : Sl} {vs vs' : List Value} (h : Vec H T s vs) (h' : Vec H T' t vs') (ht : T ≠ T') {b : Nat} (hb : s.a = some (adr b)) (hb' : t.a = some (adr b)) : False := by
  rcases h'.own with ⟨h1, _⟩ | ⟨c, sp, h1, h2, _⟩
  · rw [h1] at hb'; cases hb'
  · rw [h1] at hb'; cases hb'; exact h.ne hb h2 ht rfl
/-- The address of element i. -/
theorem IxA_vecN {H : Heap} {T : TypeId} {n : Nat} {s : Sl} {vs : List Value} (h : VecN H T n s vs) (hn : 0 < n) {i : Int} {k : Addr → Prop} {j : Nat} (hj : i = j) (hl : j < s.len)
    (hk : ∀ b, s.a = some (adr b) → (∀ o, o < n → hcell H ⟨b, j * n + o, none⟩ = vs[j * n + o]?) → k ⟨b, j * n, none⟩) : IxA n s i k := by
  have hl2 : j * n + n ≤ vs.length := by rw [h.len]; calc j * n + n = (j + 1) * n := by rw [Nat.add_mul]; simp
                                         _ ≤ s.len * n := Nat.mul_le_mul_right n hl
  rcases h.own with ⟨_, _, h3⟩ | ⟨b, sp, h1, h2, _⟩
  · subst h3; simp at hl2; omega
  · subst hj
    refine IxA.mk h1 (by omega) (by omega) ?_
    rw [adr_add, Int.toNat_natCast]
    exact hk b h1 fun o ho => by rw [h2.cell, List.getElem?_append_left (by omega)]
theorem zcells_size (z : Array Value) (n : Nat) : (zcells z n).size = n := by unfold zcells; simp
/-- append to a slice of one's own. -/
theorem App_vecN {T : TypeId} {n bytes : Nat} {z : Array Value} {s x : Sl} {H : Heap} {k : Sl → Heap → Prop} {vs ws : List Value} (hz : z.size = n) (hn : 0 < n) (hv : VecN H T n s vs) (hx : rdL H x.a ws) (hxl : ws.length = x.len * n)
    (hone : ∀ w ∈ ws, w.oneCell' = true) (hb : bytes ≠ 0) (hcap : (s.len + x.len + (s.len + x.len) / 4 + 1000) * bytes ≤ 2 ^ 48)
    (hk : ∀ s' H', VecN H' T n s' (vs ++ ws) → s'.len = s.len + x.len → Upd (fun b => s.a = some (adr b) ∧ s.len + x.len ≤ s.cap) H H' → (s'.a = s.a ∧ s.len + x.len ≤ s.cap ∨ s'.a = some (adr H.size)) → k s' H') :
    App T n bytes z s x H k := by
  have hlen := hv.len
  refine ⟨ws, hx, fun _ => by omega, fun hfit => ?_, fun hgrow => ?_⟩
  · rcases hv.own with ⟨h1, h2, h3⟩ | ⟨b, sp, h1, h2, h3⟩
    · rw [h1]
      have hx0 : x.len = 0 := by omega
      have hw : ws = [] := List.eq_nil_of_length_eq_zero (by rw [hxl, hx0]; simp)
      subst hw h3
      refine hk _ H ⟨by simp only [List.append_nil, List.length_nil]; simp at hlen; rw [hx0]; simp; omega, .inl ⟨rfl, by simpa using h2, rfl⟩, hfit⟩ rfl (.refl _ _) (.inl ⟨h1.symm, hfit⟩)
    · rw [h1]
      dsimp only
      rw [adr_add]
      have hm : (s.len + x.len) * n ≤ s.cap * n := Nat.mul_le_mul_right n hfit
      rw [Nat.add_mul] at hm
      refine StL_row h2 (by simp; omega) hone fun H' hU hs hr => ?_
      refine hk _ H' ⟨by simp only [List.length_append, Nat.add_mul]; omega, .inr ⟨b, sp.drop ws.length, rfl, ?_, by simp; omega⟩, hfit⟩ rfl (hU.mono fun b' _ e => ?_) (.inl ⟨h1.symm, hfit⟩)
      · rw [Nat.add_zero, ← hlen, List.take_left, List.drop_append, List.drop_eq_nil_of_le (by omega), List.nil_append] at hr
        rw [show vs.length + ws.length - vs.length = ws.length by omega] at hr
        exact hr
      · obtain ⟨rfl, e⟩ := e; exact ⟨h1, hfit⟩
  · refine ⟨hb, ?_, vs, hv.rd, fun _ => by omega, fun c hc => ?_⟩
    · have := nextcap_le (s.len + x.len) s.cap hgrow
      exact Nat.le_trans (Nat.mul_le_mul_right bytes this) hcap
    · refine hk _ _ ⟨?_, .inr ⟨H.size, (zcells z ((c - (s.len + x.len)) * z.size)).toList, rfl, ?_, ?_⟩, hc⟩ rfl (Upd.push _ _ _) (.inr rfl)
      · simp only [List.length_append, Nat.add_mul]; omega
      · unfold Row
        rw [get_push_new]
        congr 2
        apply Array.ext'; simp
      · simp only [List.length_append, Array.length_toList, zcells_size, hz]
        rw [hlen, hxl, ← Nat.add_mul, ← Nat.add_mul]
        exact Nat.mul_le_mul_right n (by omega)

/-- Elements of n cells each, one behind the other. -/
theorem flat_get {α : Type} {f : α → List Value} {n : Nat} (hf : ∀ e, (f e).length = n) : ∀ {es : List α} {i : Nat} (hi : i < es.length) {o : Nat}, o < n → (es.flatMap f)[i * n + o]? = (f es[i])[o]?
  | e :: es, 0, _, o, ho => by
    simp only [List.flatMap_cons, Nat.zero_mul, Nat.zero_add, List.getElem_cons_zero]
    rw [List.getElem?_append_left (by rw [hf]; exact ho)]
  | e :: es, i + 1, hi, o, ho => by
    simp only [List.flatMap_cons, List.getElem_cons_succ]
    rw [List.getElem?_append_right (by rw [hf, Nat.add_mul]; omega), hf, show (i + 1) * n + o - n = i * n + o by rw [Nat.add_mul]; omega]
    exact flat_get hf (by simpa using hi) ho
theorem flat_len {α : Type} {f : α → List Value} {n : Nat} (hf : ∀ e, (f e).length = n) : ∀ {es : List α}, (es.flatMap f).length = es.length * n
  | [] => by simp
  | e :: es => by rw [List.flatMap_cons, List.length_append, hf, flat_len hf, List.length_cons, Nat.add_mul]; omega
end Go.Proofs.YtfpmgpblhhcpgaaGreat.Hc
/-
  Slices that read as lists, of any elements.
-/
namespace Go.Proofs.YtfpmgpblhhcpgaaGreat.Hc
set_option linter.unusedVariables false
set_option linter.unusedSimpArgs false

theorem set_mid' {α : Type} (xs ys : List α) (y z : α) : (xs ++ y :: ys).set xs.length z = xs ++ z :: ys := by
  rw [List.set_append_right _ _ (Nat.le_refl _), Nat.sub_self]; rfl

/-- A slice whose elements are one cell each reads as this list. -/
structure RL {α : Type} (f : α → Value) (H : Heap) (s : Sl) (xs : List α) : Prop where
  rd : rdL H s.a (xs.map f)
  len : s.len = xs.length
  cap : s.len ≤ s.cap
abbrev slV (s : Sl) : Value := .slice s.a s.len s.cap
abbrev RI := RL (Value.int .i64)
variable {α : Type} {f : α → Value}
theorem RL.nil (f : α → Value) (H : Heap) : RL f H ⟨none, 0, 0⟩ [] := ⟨rfl, rfl, Nat.le_refl _⟩
theorem RL.upd {M : Nat → Prop} {H H' : Heap} (hu : Upd M H H') {s : Sl} {xs : List α} (h : RL f H s xs) (hn : ∀ a, s.a = some a → ¬ M a.block) : RL f H' s xs := by
  refine ⟨?_, h.len, h.cap⟩
  have hr := h.rd
  unfold rdL at hr ⊢
  cases ha : s.a with
  | none => rw [ha] at hr; exact hr
  | some a => rw [ha] at hr; exact hcells_upd hu (hn a ha) hr
theorem RL.upd' {M : Nat → Prop} {H H' : Heap} (hu : Upd M H H') {s : Sl} {xs : List α} (h : RL f H s xs) (hn : xs ≠ [] → ∀ a, s.a = some a → ¬ M a.block) : RL f H' s xs := by
  by_cases e : xs = []
  · subst e
    refine ⟨?_, h.len, h.cap⟩
    unfold rdL
    cases s.a <;> trivial
  · exact h.upd hu (hn e)
theorem RL.ext {H H' : Heap} (hu : Ext H H') {s : Sl} {xs : List α} (h : RL f H s xs) : RL f H' s xs := h.upd hu fun _ _ h => h
theorem IxA_rl {H : Heap} {s : Sl} {xs : List α} (h : RL f H s xs) {i : Int} {k : Addr → Prop} {j : Nat} (hj : i = j) (hl : j < xs.length)
    (hk : ∀ a, hcell H a = some (f xs[j]) → k a) : IxA 1 s i k := by
  have hr := h.rd
  unfold rdL at hr
  cases ha : s.a with
  | none => rw [ha] at hr; simp at hr; subst hr; simp at hl
  | some a =>
    rw [ha] at hr
    subst hj
    refine IxA.mk ha (by omega) (by rw [h.len]; omega) ?_
    rw [Int.toNat_natCast, Nat.mul_one]
    refine hk _ ?_
    have := hcells_iff.1 hr j (by simpa using hl)
    rw [Nat.zero_add] at this
    rw [this]; simp [hl]
theorem RL.lt {H : Heap} {s : Sl} {xs : List α} (h : RL f H s xs) (hb : xs ≠ []) {a : Addr} (ha : s.a = some a) : a.block < H.size := by
  have hr := h.rd
  unfold rdL at hr
  rw [ha] at hr
  cases xs with
  | nil => exact absurd rfl hb
  | cons b bs => have := lt_of_cell hr.1; rwa [add_block] at this
theorem RL.pre {H : Heap} {s : Sl} {xs : List α} (h : RL f H s xs) {n c : Nat} (hn : n ≤ xs.length) (hc : n ≤ c) : RL f H ⟨s.a, n, c⟩ (xs.take n) := by
  refine ⟨?_, by simp; omega, hc⟩
  have hr := h.rd
  unfold rdL at hr ⊢
  cases ha : s.a with
  | none => rw [ha] at hr; simp at hr; subst hr; simp
  | some a =>
    rw [ha] at hr
    have := hcells_take (n := n) hr
    rwa [← List.map_take] at this
theorem add_add (a : Addr) (n m : Nat) (h : a.spot = none) : (a.add n).add m = a.add (n + m) := by
  obtain ⟨b, o, sp⟩ := a
  dsimp only at h; subst h
  simp [mk_add, Nat.add_assoc]
/-- A part of a slice: [lo:hi]. -/
theorem SlA_rl {H : Heap} {s : Sl} {xs : List α} (h : RL f H s xs) {lo hi mx : Int} {i j c : Nat} (hi' : lo = i) (hj : hi = j) (hc : mx = c) (h1 : i ≤ j) (h2 : j ≤ xs.length) (h3 : j ≤ c) (h4 : c ≤ s.cap) (hsp : ∀ a, s.a = some a → a.spot = none) {k : Sl → Prop}
    (hk : ∀ s', RL f H s' ((xs.drop i).take (j - i)) → (∀ a, s'.a = some a → ∃ a0, s.a = some a0 ∧ a.block = a0.block ∧ a.spot = none) → s'.cap = c - i → k s') : SlA 1 s lo hi mx k := by
  subst hi' hj hc
  refine ⟨by omega, by omega, by omega, by omega, ?_⟩
  rw [Int.toNat_natCast, Int.toNat_natCast, Int.toNat_natCast, Nat.mul_one]
  have hr := h.rd
  unfold rdL at hr
  refine hk _ ⟨?_, by simp; omega, by dsimp only; omega⟩ (fun a ha => ?_) rfl
  · cases ha : s.a with
    | none =>
      rw [ha] at hr; simp at hr; subst hr
      simp [rdL]
    | some a =>
      rw [ha] at hr
      dsimp only at hr ⊢
      split
      · rename_i e
        have : j - i = 0 := by omega
        simp [rdL, this, hcells]
      · dsimp only [rdL, Option.map]
        refine hcells_iff.2 fun m hm => ?_
        simp only [List.length_map, List.length_take, List.length_drop] at hm
        rw [Nat.zero_add, add_add _ _ _ (hsp a ha)]
        have := hcells_iff.1 hr (i + m) (by simp; omega)
        rw [Nat.zero_add] at this
        rw [this]
        simp only [List.getElem?_map, List.getElem?_take, List.getElem?_drop]
        rw [if_pos (by omega)]
  · dsimp only at ha
    split at ha
    · exact ⟨a, ha, rfl, hsp a ha⟩
    · cases hs : s.a with
      | none => rw [hs] at ha; cases ha
      | some a0 =>
        rw [hs] at ha
        simp only [Option.map_some, Option.some.injEq] at ha
        subst ha
        refine ⟨a0, rfl, add_block _ _, ?_⟩
        have := hsp a0 hs
        unfold Addr.add; split
        · exact this
        · rfl
theorem Vec.rl {H : Heap} {T : TypeId} {s : Sl} {xs : List α} (h : Vec H T s (xs.map f)) : RL f H s xs := ⟨h.rd, by simpa using h.len, h.lc⟩
theorem Vec.spot {H : Heap} {T : TypeId} {s : Sl} {vs : List Value} (h : Vec H T s vs) : ∀ a, s.a = some a → a.spot = none := fun a ha => by
  rcases h.own with ⟨h1, _⟩ | ⟨b, sp, h1, _⟩
  · rw [h1] at ha; cases ha
  · rw [h1] at ha; cases ha; rfl
theorem Vec.blk {H : Heap} {T : TypeId} {s : Sl} {vs : List Value} (h : Vec H T s vs) : ∀ a, s.a = some a → a = adr a.block := fun a ha => by
  rcases h.own with ⟨h1, _⟩ | ⟨b, sp, h1, _⟩
  · rw [h1] at ha; cases ha
  · rw [h1] at ha; cases ha; rfl

theorem IxA_St_vec' {H : Heap} {T : TypeId} {t : Sl} {vs : List Value} (h : Vec H T t vs) {i : Int} {j : Nat} {v : Value} {k : Heap → Prop} (hj : i = j) (hl : j < vs.length)
    (hk : ∀ H', Vec H' T t (vs.set j v) → Upd (fun b => t.a = some (adr b)) H H' → H'.size = H.size → k H') : IxA 1 t i fun a => St a v H k := by
  rcases h.own with ⟨_, _, h3⟩ | ⟨b, sp, h1, h2, h3⟩
  · subst h3; simp at hl
  · subst hj
    refine IxA.mk h1 (by omega) (by rw [h.len]; omega) ?_
    rw [Int.toNat_natCast, Nat.mul_one, adr_add]
    refine St_row h2 (by simp; omega) fun H' hU hs hr => hk H' ⟨by simpa using h.len, .inr ⟨b, sp, h1, ?_, by simpa using h3⟩, h.lc⟩ (hU.mono fun _ _ e => e ▸ h1) hs
    rwa [List.set_append_left _ _ hl] at hr
/-- A slice whose elements are n cells each reads as this list. -/
structure RN {α : Type} (f : α → List Value) (n : Nat) (H : Heap) (s : Sl) (xs : List α) : Prop where
  rd : rdL H s.a (xs.flatMap f)
  len : s.len = xs.length
  cap : s.len ≤ s.cap
theorem RN.nil {α : Type} (f : α → List Value) (n : Nat) (H : Heap) : RN f n H ⟨none, 0, 0⟩ [] := ⟨rfl, rfl, Nat.le_refl _⟩
theorem RN.upd {α : Type} {f : α → List Value} {n : Nat} {M : Nat → Prop} {H H' : Heap} (hu : Upd M H H') {s : Sl} {xs : List α} (h : RN f n H s xs) (hn : ∀ a, s.a = some a → ¬ M a.block) : RN f n H' s xs := by
  refine ⟨?_, h.len, h.cap⟩
  have hr := h.rd
  unfold rdL at hr ⊢
  cases ha : s.a with
  | none => rw [ha] at hr; exact hr
  | some a => rw [ha] at hr; exact hcells_upd hu (hn a ha) hr
theorem RN.ext {α : Type} {f : α → List Value} {n : Nat} {H H' : Heap} (hu : Ext H H') {s : Sl} {xs : List α} (h : RN f n H s xs) : RN f n H' s xs := h.upd hu fun _ _ h => h
theorem hcells_drop {H : Heap} {a : Addr} : ∀ {vs : List Value} {i m : Nat}, hcells H a i vs → hcells H a (i + m) (vs.drop m)
  | _, _, 0, h => by simpa using h
  | [], _, _ + 1, _ => by simp [hcells]
  | _ :: _, i, m + 1, h => by
    rw [List.drop_succ_cons, show i + (m + 1) = i + 1 + m by omega]
    exact hcells_drop h.2
theorem hcells_shift {H : Heap} {a : Addr} (hsp : a.spot = none) {n : Nat} : ∀ {vs : List Value} {i : Nat}, hcells H a (n + i) vs → hcells H (a.add n) i vs
  | [], _, _ => trivial
  | _ :: _, i, h => ⟨by rw [add_add _ _ _ hsp]; exact h.1, hcells_shift hsp (by rw [← Nat.add_assoc]; exact h.2)⟩
theorem flat_drop {α : Type} [Inhabited α] {f : α → List Value} {n : Nat} (hf : ∀ e, (f e).length = n) : ∀ {es : List α} {i : Nat}, i < es.length → ∃ rest, (es.flatMap f).drop (i * n) = f (es[i]!) ++ rest
  | e :: es, 0, _ => ⟨es.flatMap f, by simp⟩
  | e :: es, i + 1, h => by
    obtain ⟨r, hr⟩ := flat_drop hf (es := es) (i := i) (by simpa using h)
    refine ⟨r, ?_⟩
    rw [List.flatMap_cons, List.drop_append, List.drop_eq_nil_of_le (by rw [hf, Nat.add_mul]; omega), hf, List.nil_append, show (i + 1) * n - n = i * n by rw [Nat.add_mul]; omega, hr]
    rfl
/-- The address of an element, and its cells there. -/
theorem IxA_rn {α : Type} [Inhabited α] {f : α → List Value} {n : Nat} (hf : ∀ e, (f e).length = n) {H : Heap} {s : Sl} {xs : List α} (h : RN f n H s xs) (hsp : ∀ a, s.a = some a → a.spot = none) (hn : 0 < n) {i : Int} {k : Addr → Prop} {j : Nat} (hj : i = j) (hl : j < xs.length)
    (hk : ∀ a, hcells H a 0 (f xs[j]!) → k a) : IxA n s i k := by
  have hr := h.rd
  unfold rdL at hr
  cases ha : s.a with
  | none =>
    rw [ha] at hr
    have := flat_len hf (es := xs)
    rw [hr] at this
    simp only [List.length_nil] at this
    have : 0 < xs.length * n := Nat.mul_pos (by omega) hn
    omega
  | some a =>
    rw [ha] at hr
    subst hj
    refine IxA.mk ha (by omega) (by rw [h.len]; omega) ?_
    rw [Int.toNat_natCast]
    refine hk _ ?_
    obtain ⟨r, hrest⟩ := flat_drop hf hl
    have h1 := hcells_drop (m := j * n) hr
    rw [hrest, Nat.zero_add] at h1
    have h2 := hcells_take (n := (f xs[j]!).length) h1
    rw [List.take_left] at h2
    exact hcells_shift (hsp a ha) h2
/-- An element's cells. -/
theorem RN.el {α : Type} [Inhabited α] {f : α → List Value} {n : Nat} (hf : ∀ e, (f e).length = n) {H : Heap} {s : Sl} {xs : List α} (h : RN f n H s xs) (hsp : ∀ a, s.a = some a → a.spot = none) (hn : 0 < n) {j : Nat} (hl : j < xs.length) :
    ∃ a, s.a = some a ∧ hcells H (a.add (j * n)) 0 (f xs[j]) := by
  have hr := h.rd
  unfold rdL at hr
  cases ha : s.a with
  | none =>
    rw [ha] at hr
    have := flat_len hf (es := xs)
    rw [hr] at this
    simp only [List.length_nil] at this
    have : 0 < xs.length * n := Nat.mul_pos (by omega) hn
    omega
  | some a =>
    rw [ha] at hr
    refine ⟨a, rfl, ?_⟩
    obtain ⟨r, hrest⟩ := flat_drop hf hl
    have h1 := hcells_drop (m := j * n) hr
    rw [hrest, Nat.zero_add] at h1
    have h2 := hcells_take (n := (f xs[j]!).length) h1
    rw [List.take_left, getElem!_pos xs j hl] at h2
    exact hcells_shift (hsp a ha) h2
theorem VecN.rn {α : Type} {f : α → List Value} {n : Nat} (hf : ∀ e, (f e).length = n) (hn : 0 < n) {H : Heap} {T : TypeId} {s : Sl} {xs : List α} (h : VecN H T n s (xs.flatMap f)) : RN f n H s xs := by
  refine ⟨h.rd, ?_, h.lc⟩
  have := h.len
  rw [flat_len hf] at this
  exact (Nat.eq_of_mul_eq_mul_right hn this).symm
theorem VecN.spot {H : Heap} {T : TypeId} {n : Nat} {s : Sl} {vs : List Value} (h : VecN H T n s vs) : ∀ a, s.a = some a → a.spot = none := fun a ha => by
  rcases h.own with ⟨h1, _⟩ | ⟨b, sp, h1, _⟩
  · rw [h1] at ha; cases ha
  · rw [h1] at ha; cases ha; rfl
end Go.Proofs.YtfpmgpblhhcpgaaGreat.Hc
/-
  A record that owns vectors: appends to its fields; appends told as a store into a row.
-/
namespace Go.Proofs.YtfpmgpblhhcpgaaGreat.Hc
set_option linter.unusedVariables false
set_option linter.unusedSimpArgs false

def Apart (s t : Sl) : Prop := ∀ b, s.a = some (adr b) → t.a ≠ some (adr b)
theorem Apart.symm {s t : Sl} (h : Apart s t) : Apart t s := fun b h1 h2 => h b h2 h1

/-- A slice's own block was written at one place. -/
theorem Vec.poke {H H' : Heap} {T : TypeId} {s : Sl} {vs : List Value} (h : Vec H T s vs) {b n : Nat} {v : Value} {cs : List Value} (hb : s.a = some (adr b)) (hr : Row H b T cs) (hr' : Row H' b T (cs.set n v)) : Vec H' T s (vs.set n v) := by
  refine ⟨by simpa using h.len, ?_, h.lc⟩
  rcases h.own with ⟨h1, _⟩ | ⟨c, sp, h1, h2, h3⟩
  · rw [h1] at hb; cases hb
  · rw [h1] at hb; cases hb
    have e : cs = vs ++ sp := by
      unfold Row at hr h2
      rw [hr] at h2
      simp only [Option.some.injEq, Obj.cells.injEq, Array.mk.injEq] at h2
      exact h2.1
    subst e
    rcases Nat.lt_or_ge n vs.length with hn | hn
    · refine .inr ⟨b, sp, h1, ?_, by simpa using h3⟩
      rw [List.set_append_left _ _ hn] at hr'; exact hr'
    · refine .inr ⟨b, sp.set (n - vs.length) v, h1, ?_, by simpa using h3⟩
      rw [List.set_append_right _ _ hn] at hr'
      rw [List.set_eq_of_length_le hn]; exact hr'
/-- append of one element to a slice of one's own: in place, or elsewhere. -/
theorem App_one {T : TypeId} {bytes : Nat} {z : Value} {s x : Sl} {H : Heap} {k : Sl → Heap → Prop} {vs : List Value} {w : Value} (hv : Vec H T s vs) (hx : rdL H x.a [w]) (hxl : x.len = 1)
    (hone : w.oneCell' = true) (hb : bytes ≠ 0) (hcap : (vs.length + 1 + (vs.length + 1) / 4 + 1000) * bytes ≤ 2 ^ 48)
    (hk : ∀ s' H', Vec H' T s' (vs ++ [w]) → s'.len = s.len + 1 → (∃ b cs, s.a = some (adr b) ∧ s'.a = some (adr b) ∧ Row H b T cs ∧ Row H' b T (cs.set s.len w) ∧ Upd (· = b) H H' ∧ H'.size = H.size) ∨ (s'.a = some (adr H.size) ∧ Ext H H' ∧ H.size < H'.size) → k s' H') :
    App T 1 bytes #[z] s x H k := by
  have hlen := hv.len
  refine ⟨[w], hx, fun _ => by simp; omega, fun hfit => ?_, fun hgrow => ?_⟩
  · rcases hv.own with ⟨h1, h2, h3⟩ | ⟨b, sp, h1, h2, h3⟩
    · omega
    · rw [h1]
      dsimp only
      rw [adr_add, Nat.mul_one]
      refine StL_row h2 (by simp; omega) (by simpa using hone) fun H' hU hs hr => ?_
      obtain ⟨c0, sp', rfl⟩ : ∃ c0 sp', sp = c0 :: sp' := by
        cases sp with
        | nil => simp at h3; omega
        | cons c0 sp' => exact ⟨c0, sp', rfl⟩
      have e1 : (vs ++ c0 :: sp').take (s.len + 0) ++ [w] ++ (vs ++ c0 :: sp').drop (s.len + 0 + [w].length) = vs ++ w :: sp' := by
        rw [Nat.add_zero, hlen, List.take_left, List.length_singleton, List.drop_append, List.drop_eq_nil_of_le (by omega)]
        simp
      rw [e1] at hr
      have e2 : (vs ++ c0 :: sp').set s.len w = vs ++ w :: sp' := by rw [hlen]; exact set_mid' vs sp' c0 w
      refine hk _ H' ⟨by simp; omega, .inr ⟨b, sp', rfl, by simpa using hr, by simp at h3 ⊢; omega⟩, by dsimp only; omega⟩ (by dsimp only; omega) (.inl ⟨b, vs ++ c0 :: sp', h1, rfl, h2, by rw [e2]; exact hr, hU.mono fun _ _ e => e.1, hs⟩)
  · refine ⟨hb, ?_, vs, hv.rd, fun _ => by omega, fun c hc => ?_⟩
    · have := nextcap_le (s.len + x.len) s.cap hgrow
      refine Nat.le_trans (Nat.mul_le_mul_right bytes this) ?_
      rw [hlen, hxl]; exact hcap
    · have e : (⟨vs⟩ ++ ⟨[w]⟩ ++ zcells #[z] ((c - (s.len + x.len)) * (#[z] : Array Value).size) : Array Value) = ⟨vs ++ [w] ++ List.replicate (c - (s.len + x.len)) z⟩ := by
        rw [zcells_one]; apply Array.ext'; simp
      rw [e]
      refine hk _ _ ⟨by simp; omega, .inr ⟨H.size, List.replicate (c - (s.len + x.len)) z, rfl, get_push_new _ _, by simp; omega⟩, hc⟩ (by dsimp only; omega) (.inr ⟨rfl, Upd.push _ _ _, by simp⟩)

abbrev RFd := TypeId × Sl × List Value
/-- A record at p whose first fields are vectors of its own, each apart. -/
structure Rec (H : Heap) (p : Nat) (T : TypeId) (fs : List RFd) (tl : List Value) : Prop where
  row : Row H p T (fs.map (fun f => slV f.2.1) ++ tl)
  vs : ∀ i (h : i < fs.length), Vec H fs[i].1 fs[i].2.1 fs[i].2.2
  ap : ∀ i j (h : i < fs.length) (h' : j < fs.length), i ≠ j → Apart fs[i].2.1 fs[j].2.1
  np : ∀ i (h : i < fs.length) b, fs[i].2.1.a = some (adr b) → b ≠ p
/-- Its blocks. -/
def RecB (p : Nat) (fs : List RFd) (b : Nat) : Prop := b = p ∨ ∃ i, ∃ h : i < fs.length, fs[i].2.1.a = some (adr b)
theorem Rec.upd {M : Nat → Prop} {H H' : Heap} {p : Nat} {T : TypeId} {fs : List RFd} {tl : List Value} (hu : Upd M H H') (h : Rec H p T fs tl) (hm : ∀ b, RecB p fs b → ¬ M b) : Rec H' p T fs tl :=
  ⟨hu.row h.row (hm p (.inl rfl)), fun i hi => (h.vs i hi).upd hu fun b hb => hm b (.inr ⟨i, hi, hb⟩), h.ap, h.np⟩
theorem Rec.ext {H H' : Heap} {p : Nat} {T : TypeId} {fs : List RFd} {tl : List Value} (hu : Ext H H') (h : Rec H p T fs tl) : Rec H' p T fs tl := h.upd hu fun _ _ h => h
theorem Rec.lt {H : Heap} {p : Nat} {T : TypeId} {fs : List RFd} {tl : List Value} (h : Rec H p T fs tl) {b : Nat} (hb : RecB p fs b) : b < H.size := by
  rcases hb with rfl | ⟨i, hi, e⟩
  · exact h.row.lt
  · exact (h.vs i hi).lt e
/-- A field is appended to; what is left is to store it. -/
structure RecP (H0 H : Heap) (p : Nat) (T : TypeId) (fs : List RFd) (tl : List Value) (q : Nat) (l : Sl) (w : Value) : Prop where
  hq : q < fs.length
  row : Row H p T (fs.map (fun f => slV f.2.1) ++ tl)
  vs : ∀ i (h : i < fs.length), i ≠ q → Vec H fs[i].1 fs[i].2.1 fs[i].2.2
  vl : Vec H fs[q].1 l (fs[q].2.2 ++ [w])
  ap : ∀ i j (h : i < fs.length) (h' : j < fs.length), i ≠ j → Apart fs[i].2.1 fs[j].2.1
  np : ∀ i (h : i < fs.length) b, fs[i].2.1.a = some (adr b) → b ≠ p
  la : l.a = fs[q].2.1.a ∨ l.a = some (adr H0.size)
  lt : ∀ b, RecB p fs b → b < H0.size
  up : Upd (fun b => fs[q].2.1.a = some (adr b)) H0 H
  old : Vec H fs[q].1 fs[q].2.1 fs[q].2.2
theorem Rec.app {H : Heap} {p : Nat} {T : TypeId} {fs : List RFd} {tl : List Value} (h : Rec H p T fs tl) {q : Nat} (hq : q < fs.length) {x : Sl} {w : Value} (hx : rdL H x.a [w]) (hxl : x.len = 1) (hone : w.oneCell' = true) {bytes : Nat} {z : Value} (hb : bytes ≠ 0)
    (hcap : (fs[q].2.2.length + 1 + (fs[q].2.2.length + 1) / 4 + 1000) * bytes ≤ 2 ^ 48) {k : Sl → Heap → Prop} (hk : ∀ l H', RecP H H' p T fs tl q l w → k l H') : App fs[q].1 1 bytes #[z] fs[q].2.1 x H k := by
  refine App_one (h.vs q hq) hx hxl hone hb hcap fun l H' hv hl hc => hk l H' ?_
  have up : Upd (fun b => fs[q].2.1.a = some (adr b)) H H' := by
    rcases hc with ⟨b, cs, h1, _, _, _, h5, _⟩ | ⟨_, h2, _⟩
    · exact h5.mono fun c _ e => e ▸ h1
    · exact h2.mono fun _ _ e => e.elim
  refine ⟨hq, up.row h.row fun e => h.np q hq p e rfl, fun i hi hne => (h.vs i hi).upd up fun b hb e => h.ap i q hi hq hne b hb e, hv, h.ap, h.np, ?_, fun b hb => h.lt hb, up, ?_⟩
  rotate_left
  · rcases hc with ⟨b, cs, h1, _, h3, h4, _⟩ | ⟨_, h2, _⟩
    · have := (h.vs q hq).poke h1 h3 h4
      rwa [List.set_eq_of_length_le (by rw [(h.vs q hq).len]; exact Nat.le_refl _)] at this
    · exact (h.vs q hq).upd h2 fun _ _ h => h
  rcases hc with ⟨b, cs, h1, h2, _⟩ | ⟨h1, _⟩
  · exact .inl (h2.trans h1.symm)
  · exact .inr h1
theorem RecP.cell {H0 H : Heap} {p : Nat} {T : TypeId} {fs : List RFd} {tl : List Value} {q : Nat} {l : Sl} {w : Value} (h : RecP H0 H p T fs tl q l w) (i : Nat) : hcell H ⟨p, i, none⟩ = (fs.map (fun f => slV f.2.1) ++ tl)[i]? := h.row.cell i
theorem RecP.st {H0 H : Heap} {p : Nat} {T : TypeId} {fs : List RFd} {tl : List Value} {q : Nat} {l : Sl} {w : Value} (h : RecP H0 H p T fs tl q l w) {k : Heap → Prop}
    (hk : ∀ H', Rec H' p T (fs.set q (fs[q]'h.hq |>.1, l, (fs[q]'h.hq).2.2 ++ [w])) tl → Upd (fun b => b = p ∨ (fs[q]'h.hq).2.1.a = some (adr b)) H0 H' → k H') : St ⟨p, q, none⟩ (.slice l.a l.len l.cap) H k := by
  have hq := h.hq
  refine St_row h.row (by simp; omega) fun H' hU hs hr => hk H' ?_ ((h.up.mono fun _ _ e => .inr e).trans hU fun _ _ e => .inl e)
  have hpH : p < H0.size := h.lt p (.inl rfl)
  have lnp : ∀ b, l.a = some (adr b) → b ≠ p := fun b hb e => by
    rcases h.la with h1 | h1
    · rw [h1] at hb; exact h.np q hq b hb e
    · rw [h1] at hb; cases hb; omega
  have lap : ∀ i (hi : i < fs.length), i ≠ q → Apart fs[i].2.1 l := fun i hi hne b hb hb' => by
    rcases h.la with h1 | h1
    · rw [h1] at hb'; exact h.ap i q hi hq hne b hb hb'
    · rw [h1] at hb'; cases hb'; have := h.lt _ (.inr ⟨i, hi, hb⟩); omega
  have gn : ∀ i (hi : i < (fs.set q (fs[q].1, l, fs[q].2.2 ++ [w])).length), i ≠ q → (fs.set q (fs[q].1, l, fs[q].2.2 ++ [w]))[i] = fs[i]'(by simpa using hi) := fun i hi hne => List.getElem_set_ne (fun e => hne e.symm) _
  have ge : ∀ i (hi : i < (fs.set q (fs[q].1, l, fs[q].2.2 ++ [w])).length), i = q → (fs.set q (fs[q].1, l, fs[q].2.2 ++ [w]))[i] = (fs[q].1, l, fs[q].2.2 ++ [w]) := fun i hi e => by subst e; exact List.getElem_set_self _
  refine ⟨?_, fun i hi => ?_, fun i j hi hj hne => ?_, fun i hi b hb => ?_⟩
  · rw [List.set_append_left _ _ (by simpa using hq)] at hr
    rw [List.map_set]; exact hr
  · by_cases e : i = q
    · rw [ge i hi e]; exact h.vl.upd hU fun b hb e => lnp b hb e
    · rw [gn i hi e]; exact (h.vs i _ e).upd hU fun b hb e => h.np i _ b hb e
  · by_cases e : i = q
    · have e' : j ≠ q := fun h => hne (e.trans h.symm)
      rw [ge i hi e, gn j hj e']; exact (lap j (by simpa using hj) e').symm
    · rw [gn i hi e]
      by_cases e' : j = q
      · rw [ge j hj e']; exact lap i (by simpa using hi) e
      · rw [gn j hj e']; exact h.ap i j _ _ hne
  · by_cases e : i = q
    · rw [ge i hi e] at hb; exact lnp b hb
    · rw [gn i hi e] at hb; exact h.np i _ b hb
theorem RecP.sub {H0 H : Heap} {p : Nat} {T : TypeId} {fs : List RFd} {tl : List Value} {q : Nat} {l : Sl} {w : Value} (h : RecP H0 H p T fs tl q l w) {b : Nat} (hb : RecB p (fs.set q (fs[q]'h.hq |>.1, l, (fs[q]'h.hq).2.2 ++ [w])) b) : RecB p fs b ∨ H0.size ≤ b := by
  have hq := h.hq
  rcases hb with rfl | ⟨i, hi, hb⟩
  · exact .inl (.inl rfl)
  · by_cases e : i = q
    · subst e
      rw [List.getElem_set_self] at hb
      rcases h.la with e | e
      · rw [e] at hb; exact .inl (.inr ⟨i, hq, hb⟩)
      · rw [e] at hb; cases hb; exact .inr (Nat.le_refl _)
    · rw [List.getElem_set_ne (fun h => e h.symm)] at hb
      exact .inl (.inr ⟨i, by simpa using hi, hb⟩)
/-- A number behind the vectors is stored. -/
theorem Rec.stTl {H : Heap} {p : Nat} {T : TypeId} {fs : List RFd} {tl : List Value} (h : Rec H p T fs tl) {q : Nat} (hq : q < tl.length) {v : Value} {k : Heap → Prop}
    (hk : ∀ H', Rec H' p T fs (tl.set q v) → Upd (· = p) H H' → k H') : St ⟨p, fs.length + q, none⟩ v H k := by
  refine St_row h.row (by simp; omega) fun H' hU hs hr => hk H' ⟨?_, fun i hi => (h.vs i hi).upd hU fun b hb e => h.np i hi b hb e, h.ap, h.np⟩ hU
  rw [List.set_append_right _ _ (by simp)] at hr
  simpa using hr
end Go.Proofs.YtfpmgpblhhcpgaaGreat.Hc
/-
  Verify: effects, ways, what is reached.
-/
namespace Go.Proofs.YtfpmgpblhhcpgaaGreat.Hc.Vf
set_option linter.unusedVariables false
set_option linter.unusedSimpArgs false

abbrev Ins := Int × Int
/-- Takes, puts, by what it takes goes. -/
def tbl : List (Int × Int × Nat) :=
  [(0, 0, 0), (0, 1, 0), (0, 1, 0), (1, 0, 0), (0, 1, 0), (1, 0, 0), (2, 1, 0), (2, 1, 0), (2, 1, 0), (2, 1, 0), (2, 1, 0), (1, 1, 0), (2, 1, 0), (2, 1, 0), (2, 1, 0), (2, 1, 0), (2, 1, 0), (2, 1, 0), (1, 1, 0),
   (0, 0, 0), (1, 0, 0), (0, 1, 1), (1, 0, 0), (0, 0, 0), (0, 0, 0), (2, 0, 0), (0, 0, 2), (0, 0, 0), (0, 0, 2), (0, 0, 0), (0, 0, 0), (1, 1, 0), (0, 1, 0), (0, 1, 0), (2, 1, 0), (0, 1, 0), (2, 1, 0), (2, 1, 0), (1, 1, 0), (1, 0, 0)]
theorem tbl_len : tbl.length = 40 := rfl
theorem tbl_bd : ∀ r ∈ tbl, 0 ≤ r.1 ∧ r.1 ≤ 2 ∧ 0 ≤ r.2.1 ∧ r.2.1 ≤ 1 := by decide
def isOpB (op : Int) : Bool := decide (1 ≤ op ∧ op ≤ 39)
def takes (ps : List Int) (i : Ins) : Int :=
  if isOpB i.1 then
    (if (tbl[i.1.toNat]!).2.2 = 1 then (if 0 ≤ i.2 ∧ i.2 < ps.length then max (ps[i.2.toNat]!) 0 else 0)
     else if (tbl[i.1.toNat]!).2.2 = 2 then (if 0 ≤ i.2 then i.2 % 8 else 0)
     else (tbl[i.1.toNat]!).1) else 0
def puts (i : Ins) : Int := if isOpB i.1 then (tbl[i.1.toNat]!).2.1 else 0
theorem tbl_get {op : Int} (h : isOpB op = true) : tbl[op.toNat]! ∈ tbl := by
  unfold isOpB at h
  have := of_decide_eq_true h
  rw [getElem!_pos tbl op.toNat (by rw [tbl_len]; omega)]
  exact List.getElem_mem _
theorem takes_bd (ps : List Int) (i : Ins) : 0 ≤ takes ps i := by
  unfold takes
  split
  · rename_i h
    have := tbl_bd _ (tbl_get h)
    repeat' split
    all_goals omega
  · exact Int.le_refl _
theorem puts_bd (i : Ins) : 0 ≤ puts i ∧ puts i ≤ 1 := by
  unfold puts
  split
  · rename_i h
    have := tbl_bd _ (tbl_get h)
    omega
  · omega
theorem takes_i64 {ps : List Int} (hps : ∀ x ∈ ps, I64 x) (i : Ins) : takes ps i < 9223372036854775808 := by
  unfold takes
  split
  · rename_i h
    have := tbl_bd _ (tbl_get h)
    split
    · split
      · rename_i hh
        rw [getElem!_pos ps _ (by omega)]
        have := hps _ (List.getElem_mem (show i.2.toNat < ps.length by omega))
        unfold I64 at this
        omega
      · omega
    · split
      · split <;> omega
      · omega
  · omega
/-- The numbers of those that may be done behind it, there or not. -/
def nexts (c : List Ins) (at' : Nat) : List Int :=
  let i := c[at']!
  if i.1 = 22 ∨ i.1 = 23 then [] else if i.1 = 19 then [i.2] else if i.1 = 20 then [i.2, (at' : Int) + 1] else [(at' : Int) + 1]
def fits (ps : List Int) (i : Ins) (d : Nat) : Prop := takes ps i ≤ d ∧ (d : Int) - takes ps i + puts i ≤ 64
instance (ps : List Int) (i : Ins) (d : Nat) : Decidable (fits ps i d) := by unfold fits; infer_instance
def behind (ps : List Int) (i : Ins) (d : Nat) : Nat := ((d : Int) - takes ps i + puts i).toNat
/-- From (i, d) one comes to (j, e). -/
def Succ (c : List Ins) (ps : List Int) (i d j e : Nat) : Prop := i < c.length ∧ fits ps c[i]! d ∧ (j : Int) ∈ nexts c i ∧ j < c.length ∧ e = behind ps c[i]! d
inductive Rch (c : List Ins) (ps : List Int) : Nat → Nat → Prop where
  | zero : Rch c ps 0 0
  | step {i d j e : Nat} (h : Rch c ps i d) (s : Succ c ps i d j e) : Rch c ps j e
variable {c : List Ins} {ps : List Int}
theorem behind_le {i : Ins} {d : Nat} (h : fits ps i d) : behind ps i d ≤ 64 ∧ ((behind ps i d : Nat) : Int) = (d : Int) - takes ps i + puts i := by
  unfold fits at h
  unfold behind
  have := puts_bd i
  omega
theorem Rch.bd {i d : Nat} (h : Rch c ps i d) (hc : 0 < c.length) : i < c.length ∧ d ≤ 64 := by
  cases h with
  | zero => exact ⟨hc, by omega⟩
  | step h s => obtain ⟨_, h2, _, h4, rfl⟩ := s; exact ⟨h4, (behind_le h2).1⟩
/-- What is gone through, and what is still to do. -/
structure Inv (c : List Ins) (ps : List Int) (V T : Nat → Nat → Prop) : Prop where
  all : ∀ i d, V i d ∨ T i d → Rch c ps i d
  start : V 0 0 ∨ T 0 0
  cl : ∀ i d j e, V i d → Succ c ps i d j e → V j e ∨ T j e
theorem Inv.done {V T : Nat → Nat → Prop} (h : Inv c ps V T) (hT : ∀ i d, ¬ T i d) (i d : Nat) : Rch c ps i d ↔ V i d := by
  constructor
  · intro hr
    induction hr with
    | zero => exact h.start.resolve_right (hT _ _)
    | step _ s ih => exact (h.cl _ _ _ _ ih s).resolve_right (hT _ _)
  · exact fun hv => h.all _ _ (.inl hv)
/-- Others that are the same in all. -/
theorem Inv.swap {V T V' T' : Nat → Nat → Prop} (h : Inv c ps V T) (h1 : ∀ i d, V' i d → V i d) (h2 : ∀ i d, V i d ∨ T i d ↔ V' i d ∨ T' i d) : Inv c ps V' T' :=
  ⟨fun i d hv => h.all i d ((h2 i d).2 hv), (h2 0 0).1 h.start, fun i d j e hv hs => (h2 j e).1 (h.cl i d j e (h1 _ _ hv) hs)⟩
/-- One more is gone through. -/
theorem Inv.go {V T V' T' : Nat → Nat → Prop} (h : Inv c ps V T) {i d : Nat} (hx : V i d ∨ T i d) (hV : ∀ j e, V' j e ↔ V j e ∨ (j = i ∧ e = d)) (hT : ∀ j e, T' j e → T j e ∨ Succ c ps i d j e) (hT1 : ∀ j e, Succ c ps i d j e → V' j e ∨ T' j e) (hT2 : ∀ j e, T j e → V' j e ∨ T' j e) : Inv c ps V' T' := by
  refine ⟨fun j e hv => ?_, ?_, fun j e k f hv hs => ?_⟩
  · rcases hv with hv | hv
    · rcases (hV j e).1 hv with hv | ⟨rfl, rfl⟩
      · exact h.all _ _ (.inl hv)
      · exact h.all _ _ hx
    · rcases hT j e hv with hv | hv
      · exact h.all _ _ (.inr hv)
      · exact .step (h.all _ _ hx) hv
  · rcases h.start with hv | hv
    · exact .inl ((hV _ _).2 (.inl hv))
    · exact hT2 _ _ hv
  · rcases (hV j e).1 hv with hv | ⟨rfl, rfl⟩
    · rcases h.cl _ _ _ _ hv hs with hv | hv
      · exact .inl ((hV _ _).2 (.inl hv))
      · exact hT2 _ _ hv
    · exact hT1 _ _ hs
/-! ### what is wrong -/
def jumpBad (c : List Ins) (i : Nat) : Prop := (c[i]!.1 = 19 ∨ c[i]!.1 = 20) ∧ ¬ (0 ≤ c[i]!.2 ∧ c[i]!.2 < c.length)
def stackBad (c : List Ins) (ps : List Int) (i : Nat) : Prop := (∃ d, Rch c ps i d ∧ ¬ fits ps c[i]! d) ∨ ∃ d e, Rch c ps i d ∧ Rch c ps i e ∧ d ≠ e
def endBad (c : List Ins) (i : Nat) : Prop := (c.length : Int) ∈ nexts c i
open Classical in
noncomputable def wr (c : List Ins) (ps : List Int) (i : Nat) : Nat := if jumpBad c i then 150 else if stackBad c ps i then 151 else if endBad c i then 153 else 0
open Classical in
noncomputable def depI (c : List Ins) (ps : List Int) (i : Nat) : Int := if h : ∃ d, Rch c ps i d then (Classical.choose h : Nat) else -1
def isReached (c : List Ins) (ps : List Int) (i : Nat) : Prop := ∃ d, Rch c ps i d
open Classical in
noncomputable def depthsS (c : List Ins) (ps : List Int) : Except (Nat × Nat) (List Int) :=
  if 2000 < c.length then .error (0, 130) else if c.length = 0 then .error (0, 153) else
  match (List.range c.length).find? (fun i => decide (isReached c ps i ∧ wr c ps i ≠ 0)) with
  | some i => .error (i, wr c ps i)
  | none => .ok ((List.range c.length).map (depI c ps))
theorem depI_of {i d : Nat} (h : Rch c ps i d) (hu : ∀ e, Rch c ps i e → e = d) : depI c ps i = d := by
  unfold depI
  have : ∃ d, Rch c ps i d := ⟨d, h⟩
  rw [dif_pos this]
  rw [hu _ (Classical.choose_spec this)]
theorem depI_none {i : Nat} (h : ∀ d, ¬ Rch c ps i d) : depI c ps i = -1 := by
  unfold depI
  rw [dif_neg (fun ⟨d, hd⟩ => h d hd)]
theorem nexts_i64 {i : Nat} (hc : ∀ x ∈ c, I64 x.2) (hi : i < c.length) (hl : c.length ≤ 100000) : ∀ x ∈ nexts c i, I64 x := by
  intro x hx
  have h1 : I64 c[i]!.2 := by rw [getElem!_pos c i hi]; exact hc _ (List.getElem_mem hi)
  have h2 : I64 ((i : Int) + 1) := by unfold I64; omega
  unfold nexts at hx
  dsimp only at hx
  split at hx
  · cases hx
  · split at hx
    · rw [List.mem_singleton] at hx; subst hx; exact h1
    · split at hx
      · simp only [List.mem_cons, List.not_mem_nil, or_false] at hx
        rcases hx with rfl | rfl
        · exact h1
        · exact h2
      · rw [List.mem_singleton] at hx; subst hx; exact h2
end Go.Proofs.YtfpmgpblhhcpgaaGreat.Hc.Vf
/-
  The plain law of dice: numbers alone.
-/
namespace Go.Proofs.YtfpmgpblhhcpgaaGreat.Hc.Dice
set_option linter.unusedVariables false
set_option linter.unusedSimpArgs false
open Go Go.Proofs.YtfpmgpblhhcpgaaGreat.Hc

def stepI : Int := 11400714819323198485
def mixI (x : Int) : Int :=
  let a := IntKind.wrap .u64 (x + 11400714819323198485)
  let b := IntKind.wrap .u64 (bits .xor .u64 a (a.fdiv (2 ^ 30)) * 13787848793156543929)
  let c := IntKind.wrap .u64 (bits .xor .u64 b (b.fdiv (2 ^ 27)) * 10723151780598845931)
  bits .xor .u64 c (c.fdiv (2 ^ 31))
theorem bits_u64_bd (op : BinOp) (x y : Int) : 0 ≤ bits op .u64 x y ∧ bits op .u64 x y < 18446744073709551616 := by
  unfold bits; dsimp only; rw [wrap_u64]; omega
theorem mixI_bd (x : Int) : 0 ≤ mixI x ∧ mixI x < 18446744073709551616 := by unfold mixI; dsimp only; exact bits_u64_bd _ _ _
theorem mix_zero : mixI 7046029254386353131 = 0 := by decide +kernel
def nextS (s : Int) : Int := IntKind.wrap .u64 (s + 11400714819323198485)
def itS (s : Int) : Nat → Int
  | 0 => s
  | j + 1 => nextS (itS s j)
theorem itS_eq (s : Int) (h0 : 0 ≤ s) (h1 : s < 18446744073709551616) (j : Nat) : itS s j = (s + j * 11400714819323198485) % 18446744073709551616 := by
  induction j with
  | zero => simp [itS]; omega
  | succ j ih =>
    simp only [itS, nextS, wrap_u64]
    rw [ih]
    have : ((j + 1 : Nat) : Int) * 11400714819323198485 = (j : Int) * 11400714819323198485 + 11400714819323198485 := by
      rw [Int.natCast_add]; omega
    rw [this]
    omega
/-- Some throw is 0: the walk over the states goes through all of them. -/
theorem some_zero (s : Int) (h0 : 0 ≤ s) (h1 : s < 18446744073709551616) : ∃ j, mixI (itS s j) = 0 := by
  refine ⟨(((7046029254386353131 - s) * 17428512612931826493) % 18446744073709551616).toNat, ?_⟩
  rw [itS_eq s h0 h1, Int.toNat_of_nonneg (by omega)]
  have : (s + (7046029254386353131 - s) * 17428512612931826493 % 18446744073709551616 * 11400714819323198485) % 18446744073709551616 = 7046029254386353131 := by omega
  rw [this]; exact mix_zero
theorem itS_bd (s : Int) (h0 : 0 ≤ s) (h1 : s < 18446744073709551616) (j : Nat) : 0 ≤ itS s j ∧ itS s j < 18446744073709551616 := by
  rw [itS_eq s h0 h1]; omega
theorem nextS_bd (s : Int) : 0 ≤ nextS s ∧ nextS s < 18446744073709551616 := by unfold nextS; rw [wrap_u64]; omega
def Falls (s m : Int) (j : Nat) : Prop := mixI (itS s j) < m ∧ ∀ i, i < j → ¬ mixI (itS s i) < m
theorem falls_ex (s m : Int) (h0 : 0 ≤ s) (h1 : s < 18446744073709551616) (hm : 0 < m) : ∃ j, Falls s m j := by
  obtain ⟨j, hj⟩ := some_zero s h0 h1
  obtain ⟨n, hn, hle⟩ := exists_least (p := fun j => mixI (itS s j) < m) ⟨j, by omega⟩
  exact ⟨n, hn, fun i hi hlt => by have := hle i hlt; omega⟩
noncomputable def fallJ (s m : Int) : Nat := Classical.epsilon (Falls s m)
theorem fallJ_spec (s m : Int) (h0 : 0 ≤ s) (h1 : s < 18446744073709551616) (hm : 0 < m) : Falls s m (fallJ s m) := Classical.epsilon_spec (falls_ex s m h0 h1 hm)
theorem Falls.unique {s m : Int} {i j : Nat} (hi : Falls s m i) (hj : Falls s m j) : i = j := by
  rcases Nat.lt_trichotomy i j with h | h | h
  · exact absurd hi.1 (hj.2 i h)
  · exact h
  · exact absurd hj.1 (hi.2 j h)
/-- What a throw must lie below. -/
def mB (n : Int) : Int := IntKind.wrap .u64 (18446744073709551615 - (18446744073709551615 : Int).tmod n)
theorem mB_pos (n : Int) (h0 : 1 ≤ n) (h1 : n < 9223372036854775808) : 0 < mB n := by
  unfold mB
  have e : (18446744073709551615 : Int).tmod n = 18446744073709551615 % n := by rw [Int.tmod_eq_emod_of_nonneg (by decide)]
  have a := Int.emod_nonneg 18446744073709551615 (show n ≠ 0 by omega)
  have b := Int.emod_lt_of_pos 18446744073709551615 (show 0 < n by omega)
  rw [e, wrap_u64]
  omega
noncomputable def belowR (s n : Int) : Int := (mixI (itS s (fallJ s (mB n)))).tmod n
noncomputable def belowS (s n : Int) : Int := itS s (fallJ s (mB n) + 1)
theorem belowR_bd (s n : Int) (h0 : 1 ≤ n) : 0 ≤ belowR s n ∧ belowR s n < n := by
  unfold belowR
  have := mixI_bd (itS s (fallJ s (mB n)))
  rw [Int.tmod_eq_emod_of_nonneg this.1]
  exact ⟨Int.emod_nonneg _ (by omega), Int.emod_lt_of_pos _ (by omega)⟩
/-- 'Below': the number, and the state behind it. -/
noncomputable def BelowF (s n : Int) : Int × Int := if n < 1 then (0, nextS s) else (belowR s n, belowS s n)
/-- 'Between'. -/
noncomputable def BetweenF (s a b : Int) : Int × Int :=
  if b < a then (a, s) else
  if b - a + 1 = 18446744073709551616 then (IntKind.wrap .i64 (mixI s), nextS s) else
  if b - a + 1 > 9223372036854775807 then (IntKind.wrap .i64 (IntKind.wrap .u64 (IntKind.wrap .u64 a + (mixI s).tmod (b - a + 1))), nextS s) else
  (a + belowR s (b - a + 1), belowS s (b - a + 1))
/-- The state of a new die. -/
def newS (a b c d : Int) : Int :=
  mixI (bits .xor .u64 (mixI (bits .xor .u64 (mixI (bits .xor .u64 (mixI (IntKind.wrap .u64 a)) (IntKind.wrap .u64 b))) (IntKind.wrap .u64 c))) (IntKind.wrap .u64 d))
theorem newS_bd (a b c d : Int) : 0 ≤ newS a b c d ∧ newS a b c d < 18446744073709551616 := mixI_bd _
def newIt (a b c d : Int) : Nat → Int
  | 0 => mixI (IntKind.wrap .u64 a)
  | 1 => mixI (bits .xor .u64 (mixI (IntKind.wrap .u64 a)) (IntKind.wrap .u64 b))
  | 2 => mixI (bits .xor .u64 (mixI (bits .xor .u64 (mixI (IntKind.wrap .u64 a)) (IntKind.wrap .u64 b))) (IntKind.wrap .u64 c))
  | _ => newS a b c d
theorem newIt_three (a b c d : Int) : newIt a b c d 3 = newS a b c d := rfl
theorem below_now {s n : Int} (h : mixI s < mB n) (h0 : 0 ≤ s) (h1 : s < 18446744073709551616) (hn : 1 ≤ n) (hn' : n < 9223372036854775808) : belowR s n = (mixI s).tmod n ∧ belowS s n = nextS s := by
  have hf := fallJ_spec s (mB n) h0 h1 (mB_pos n hn hn')
  have : fallJ s (mB n) = 0 := Falls.unique hf ⟨h, fun i hi => by omega⟩
  unfold belowR belowS
  rw [this]
  exact ⟨rfl, rfl⟩
theorem BelowF_bd (s n : Int) (h0 : 0 ≤ s) (h1 : s < 18446744073709551616) : 0 ≤ (BelowF s n).2 ∧ (BelowF s n).2 < 18446744073709551616 := by
  unfold BelowF; split
  · exact nextS_bd s
  · exact itS_bd s h0 h1 _
theorem BelowF_lo (s n : Int) (hn : n < 1) : (BelowF s n).1 = 0 := by unfold BelowF; rw [if_pos hn]
theorem BelowF_in (s n : Int) (hn : 1 ≤ n) : 0 ≤ (BelowF s n).1 ∧ (BelowF s n).1 < n := by unfold BelowF; rw [if_neg (by omega)]; exact belowR_bd s n hn
theorem BetweenF_bd (s a b : Int) (h0 : 0 ≤ s) (h1 : s < 18446744073709551616) : 0 ≤ (BetweenF s a b).2 ∧ (BetweenF s a b).2 < 18446744073709551616 := by
  unfold BetweenF; split
  · exact ⟨h0, h1⟩
  · split
    · exact nextS_bd s
    · split
      · exact nextS_bd s
      · exact itS_bd s h0 h1 _
theorem BetweenF_lo (s a b : Int) (h : b < a) : (BetweenF s a b).1 = a := by unfold BetweenF; rw [if_pos h]
theorem BetweenF_in (s a b : Int) (ha : -9223372036854775808 ≤ a) (hb : b < 9223372036854775808) (h : a ≤ b) : a ≤ (BetweenF s a b).1 ∧ (BetweenF s a b).1 ≤ b := by
  unfold BetweenF
  rw [if_neg (by omega)]
  have hm := mixI_bd s
  split
  · rw [wrap_i64]; omega
  · split
    · have e : (mixI s).tmod (b - a + 1) = mixI s % (b - a + 1) := Int.tmod_eq_emod_of_nonneg hm.1
      have h1 := Int.emod_nonneg (mixI s) (show b - a + 1 ≠ 0 by omega)
      have h2 := Int.emod_lt_of_pos (mixI s) (show 0 < b - a + 1 by omega)
      simp only [wrap_u64, wrap_i64]
      rw [e]
      omega
    · have := belowR_bd s (b - a + 1) (by omega)
      exact ⟨by dsimp only; omega, by dsimp only; omega⟩
/-- Two elements change places. -/
def swapL (l : List Int) (i j : Nat) : List Int := (l.set i (l.getD j 0)).set j (l.getD i 0)
/-- The rounds of a shuffle from place i down. -/
noncomputable def shufF : Int → Nat → List Int → List Int × Int
  | s, 0, l => (l, s)
  | s, i + 1, l => shufF (BelowF s ((i : Int) + 2)).2 i (swapL l (i + 1) (BelowF s ((i : Int) + 2)).1.toNat)
theorem swapL_len (l : List Int) (i j : Nat) : (swapL l i j).length = l.length := by simp [swapL]
theorem swapL_perm (l : List Int) {i j : Nat} (hi : i < l.length) (hj : j < l.length) : (swapL l i j).Perm l := by
  have := @List.set_set_perm _ l i j hi hj
  unfold swapL
  rw [List.getD_eq_getElem?_getD, List.getD_eq_getElem?_getD, List.getElem?_eq_getElem hi, List.getElem?_eq_getElem hj]
  exact this
theorem shufF_perm : ∀ (i : Nat) (s : Int) (l : List Int), i < l.length ∨ i = 0 → (shufF s i l).1.Perm l
  | 0, s, l, _ => List.Perm.refl _
  | i + 1, s, l, h => by
    simp only [shufF]
    have hb := BelowF_in s ((i : Int) + 2) (by omega)
    have hl : i + 1 < l.length := by omega
    exact (shufF_perm i _ _ (.inl (by rw [swapL_len]; omega))).trans (swapL_perm l hl (by omega))
theorem shufF_bd : ∀ (i : Nat) (s : Int) (l : List Int), 0 ≤ s → s < 18446744073709551616 → 0 ≤ (shufF s i l).2 ∧ (shufF s i l).2 < 18446744073709551616
  | 0, s, l, h0, h1 => ⟨h0, h1⟩
  | i + 1, s, l, h0, h1 => by
    simp only [shufF]
    have hb := BelowF_bd s ((i : Int) + 2) h0 h1
    exact shufF_bd i _ _ hb.1 hb.2
/-- 'Shuffle' of 1 to 1000 things. -/
noncomputable def ShuffleF (s : Int) (n : Nat) : List Int × Int := shufF s (n - 1) (iota n)
theorem ShuffleF_perm (s : Int) (n : Nat) (hn : 1 ≤ n) : (ShuffleF s n).1.Perm (iota n) := shufF_perm _ _ _ (.inl (by rw [iota_len]; omega))
theorem ShuffleF_len (s : Int) (n : Nat) (hn : 1 ≤ n) : (ShuffleF s n).1.length = n := by rw [(ShuffleF_perm s n hn).length_eq, iota_len]
theorem ShuffleF_bd (s : Int) (n : Nat) (h0 : 0 ≤ s) (h1 : s < 18446744073709551616) : 0 ≤ (ShuffleF s n).2 ∧ (ShuffleF s n).2 < 18446744073709551616 := shufF_bd _ _ _ h0 h1
theorem shown_new : newS 1 2 3 4 = 15374388949593934587 := by decide +kernel
theorem shown_one : BelowF (newS 1 2 3 4) 1000000 = (282457, 8328359695207581456) := by
  have h : belowR 15374388949593934587 1000000 = 282457 ∧ belowS 15374388949593934587 1000000 = 8328359695207581456 := by
    obtain ⟨h1, h2⟩ := below_now (s := 15374388949593934587) (n := 1000000) (by decide +kernel) (by decide) (by decide) (by decide) (by decide)
    rw [h1, h2]; exact ⟨by decide +kernel, by decide +kernel⟩
  rw [shown_new]
  unfold BelowF
  rw [if_neg (by decide), h.1, h.2]
theorem shown_two : (BelowF 8328359695207581456 1000000).1 = 423972 := by
  have h : belowR 8328359695207581456 1000000 = 423972 := by
    obtain ⟨h1, _⟩ := below_now (s := 8328359695207581456) (n := 1000000) (by decide +kernel) (by decide) (by decide) (by decide) (by decide)
    rw [h1]; decide +kernel
  unfold BelowF
  rw [if_neg (by decide), h]
theorem mix_0 : mixI 0 = 16294208416658607535 := by decide +kernel
theorem mix_1 : mixI 1 = 10451216379200822465 := by decide +kernel
end Go.Proofs.YtfpmgpblhhcpgaaGreat.Hc.Dice
/-
  Machine: a run, in plain Lean.
-/
namespace Go.Proofs.YtfpmgpblhhcpgaaGreat.Hc.Mc
set_option linter.unusedVariables false
set_option linter.unusedSimpArgs false
open Go Go.Proofs.YtfpmgpblhhcpgaaGreat.Hc Go.Proofs.YtfpmgpblhhcpgaaGreat.Hc.Vf Go.Proofs.YtfpmgpblhhcpgaaGreat.Hc.Dice

structure Fnc where
  params : Int
  locals : Int
  code : List Ins
instance : Inhabited Fnc := ⟨⟨0, 0, []⟩⟩
/-- What a run sees of a program: functions, the system and its sets; jumps go no further than lim. -/
structure MP where
  fns : List Fnc
  sys : Fnc
  reads : List Int
  writes : List Int
  sysN : Int
  lim : Int
def MP.ps (P : MP) : List Int := P.fns.map (·.params)
structure En where
  frame : Int
  seed : Int
  idx : Int
  gen : Int
  inputs : List (Int × Int × Int)
structure Pt where
  kind : Int
  vals : List Int
instance : Inhabited Pt := ⟨⟨0, []⟩⟩
structure Actn where
  fn : Fnc
  loc : List Int
  stk : List Int
  nx : Int
instance : Inhabited Actn := ⟨⟨default, [], [], 0⟩⟩
structure Cm where
  op : Int
  e : Int × Int
  kind : Int
  vals : List Int
  parts : List Pt
instance : Inhabited Cm := ⟨⟨0, (0, 0), 0, [], []⟩⟩
structure Ev where
  sys : Int
  e : Int × Int
  code : Int
  val : Int
instance : Inhabited Ev := ⟨⟨0, (0, 0), 0, 0⟩⟩
structure Ms where
  low : List Actn
  top : Actn
  vals : List Pt
  dice : Int
  since : Int
  steps : Int
  kept : List Pt
  cmds : List Cm
  evs : List Ev
  over : Bool

def lookV (l : List Pt) (k : Int) : Option (List Int) := (l.find? fun p => p.kind == k).map (·.vals)
def putV : List Pt → Int → Nat → Int → List Pt
  | [], _, _, _ => []
  | p :: r, k, f, x => if p.kind = k then ⟨p.kind, p.vals.set f x⟩ :: r else p :: putV r k f x
def truthI (b : Bool) : Int := if b then 1 else 0
abbrev w64 (x : Int) : Int := IntKind.wrap .i64 x
def divI (w x : Int) : Int := if x = 0 then 0 else if x = -1 then w64 (-w) else w64 (w.tdiv x)
def remI (w x : Int) : Int := if x = 0 ∨ x = -1 then 0 else w.tmod x
def binI (op : Nat) (w x : Int) : Int :=
  match op with
  | 6 => w64 (w + x)
  | 7 => w64 (w - x)
  | 8 => w64 (w * x)
  | 9 => divI w x
  | 10 => remI w x
  | 12 => truthI (decide (w = x))
  | 13 => truthI (decide (w ≠ x))
  | 14 => truthI (decide (w < x))
  | 15 => truthI (decide (w ≤ x))
  | 16 => truthI (decide (w > x))
  | 17 => truthI (decide (w ≥ x))
  | 36 => if w < x then w else x
  | _ => if w > x then w else x
def unI (op : Nat) (x : Int) : Int :=
  match op with
  | 11 => w64 (-x)
  | 18 => truthI (decide (x = 0))
  | _ => if x < 0 then w64 (-x) else x
def isBin (op : Int) : Bool := [6, 7, 8, 9, 10, 12, 13, 14, 15, 16, 17, 36, 37].contains op
def isUn (op : Int) : Bool := [11, 18, 38].contains op
def outerB (op : Int) : Bool := [4, 5, 25, 26, 27, 28, 29, 30, 35, 23].contains op
def isKindB (k : Int) : Bool := decide (1 ≤ k ∧ k ≤ 12)
def fieldOk (vals : List Pt) (a : Int) (set : List Int) : Bool :=
  decide (0 ≤ a) && (match lookV vals (a / 8) with | some v => decide (a % 8 < (v.length : Int)) | none => false) && set.contains (a / 8)
def accessM (P : MP) (m : Ms) (op : Nat) (A : Int) : Bool :=
  match op with
  | 2 => decide (0 ≤ A ∧ A < (m.top.loc.length : Int))
  | 3 => decide (0 ≤ A ∧ A < (m.top.loc.length : Int))
  | 4 => fieldOk m.vals A (P.reads ++ P.writes)
  | 5 => fieldOk m.vals A P.writes
  | 21 => decide (0 ≤ A ∧ A < (P.fns.length : Int) ∧ m.low.length + 1 ≤ 16)
  | 22 => decide (m.low ≠ [])
  | 26 => decide (0 ≤ A) && isKindB (A / 8) && decide (m.kept.length < 12)
  | 28 => decide (0 ≤ A) && isKindB (A / 8)
  | 29 => isKindB A
  | 35 => isKindB A
  | _ => true
def access (P : MP) (m : Ms) (i : Ins) : Bool := if m.low ≠ [] ∧ outerB i.1 = true then false else accessM P m i.1.toNat i.2
theorem accessM_other {P : MP} {m : Ms} {n : Nat} {A : Int} (h : n ≠ 2 ∧ n ≠ 3 ∧ n ≠ 4 ∧ n ≠ 5 ∧ n ≠ 21 ∧ n ≠ 22 ∧ n ≠ 26 ∧ n ≠ 28 ∧ n ≠ 29 ∧ n ≠ 35) : accessM P m n A = true := by
  unfold accessM
  split <;> first | rfl | omega
def room (m : Ms) (op : Int) : Bool :=
  if op = 27 ∨ op = 28 ∨ op = 29 ∨ op = 30 then decide (m.cmds.length < 16) else if op = 25 then decide (m.evs.length < 16) else true
def locals (f : Fnc) (l : List Int) : List Int := l ++ List.replicate ((min (max f.locals 0) 32).toNat - l.length) 0
def inp (l : List (Int × Int × Int)) (p k : Int) : Int := ((l.reverse.find? fun x => x.1 == p && x.2.1 == k).map (·.2.2)).getD 0
def rise (l : List Pt) : List Pt := (List.range 13).flatMap fun (k : Nat) => l.filter fun p => p.kind == (k : Int)
def goal (P : MP) (f : Fnc) (a : Int) : Int := if 0 ≤ a ∧ a < (f.code.length : Int) ∧ a ≤ P.lim then a else -1

def Ms.push (m : Ms) (x : Int) : Ms := { m with top := { m.top with stk := m.top.stk ++ [x] } }
/-- What the top of the stack gives, and what is left. -/
def args (m : Ms) (t : Nat) : List Int := m.top.stk.drop (m.top.stk.length - t)
def cut (m : Ms) (t : Nat) : Ms := { m with top := { m.top with stk := m.top.stk.take (m.top.stk.length - t), nx := m.top.nx + 1 }, since := m.since + 1 }
noncomputable def act (P : MP) (E : En) (m m1 : Ms) (l : List Int) (op : Nat) (A : Int) : Int × Ms :=
  match op with
  | 1 => (0, m1.push A)
  | 2 => (0, m1.push m.top.loc[A.toNat]!)
  | 3 => (0, { m1 with top := { m1.top with loc := m.top.loc.set A.toNat l[0]! } })
  | 4 => (0, m1.push ((lookV m.vals (A / 8)).getD [])[(A % 8).toNat]!)
  | 5 => (0, { m1 with vals := putV m.vals (A / 8) (A % 8).toNat l[0]! })
  | 19 => (0, { m1 with top := { m1.top with nx := goal P m.top.fn A } })
  | 20 => (0, if l[0]! = 0 then { m1 with top := { m1.top with nx := goal P m.top.fn A } } else m1)
  | 21 => if m.steps + 1 ≤ 2000 then
      (0, { m1 with low := m.low ++ [m1.top], top := ⟨P.fns[A.toNat]!, locals P.fns[A.toNat]! l, [], 0⟩, steps := m.steps + 1, since := 0 })
      else (120, { m1 with steps := m.steps + 1 })
  | 22 => (0, { m1 with low := m.low.dropLast, top := { m.low.getLast! with stk := m.low.getLast!.stk ++ [l[0]!] } })
  | 23 => (0, { m1 with over := true })
  | 24 => if m.steps + 1 ≤ 2000 then (0, { m1 with steps := m.steps + 1, since := 0 }) else (120, { m1 with steps := m.steps + 1 })
  | 25 => (0, { m1 with evs := m.evs ++ [⟨P.sysN, (E.idx, E.gen), l[0]!, l[1]!⟩] })
  | 26 => (0, { m1 with kept := m.kept ++ [⟨A / 8, l⟩] })
  | 27 => (0, { m1 with cmds := m.cmds ++ [⟨1, (0, 0), 0, [], rise m.kept⟩], kept := [] })
  | 28 => (0, { m1 with cmds := m.cmds ++ [⟨3, (E.idx, E.gen), A / 8, l, []⟩] })
  | 29 => (0, { m1 with cmds := m.cmds ++ [⟨4, (E.idx, E.gen), A, [], []⟩] })
  | 30 => (0, { m1 with cmds := m.cmds ++ [⟨2, (E.idx, E.gen), 0, [], []⟩] })
  | 31 => (0, { m1.push (BelowF m.dice l[0]!).1 with dice := (BelowF m.dice l[0]!).2 })
  | 32 => (0, m1.push E.frame)
  | 33 => (0, m1.push E.idx)
  | 34 => (0, m1.push (inp E.inputs l[0]! l[1]!))
  | 35 => (0, m1.push (truthI (lookV m.vals A).isSome))
  | _ => (0, m1)
noncomputable def does (P : MP) (E : En) (m : Ms) (i : Ins) : Int × Ms :=
  let l := args m (takes P.ps i).toNat
  let m1 := cut m (takes P.ps i).toNat
  if isBin i.1 then (0, m1.push (binI i.1.toNat l[0]! l[1]!))
  else if isUn i.1 then (0, m1.push (unI i.1.toNat l[0]!))
  else act P E m m1 l i.1.toNat i.2
def ready (P : MP) (m : Ms) : Int :=
  if ¬ (0 ≤ m.top.nx ∧ m.top.nx < (m.top.fn.code.length : Int)) then 150
  else if m.since ≥ 40000 then 153
  else if isOpB (m.top.fn.code[m.top.nx.toNat]!).1 = false then 152
  else if (m.top.stk.length : Int) < takes P.ps m.top.fn.code[m.top.nx.toNat]! ∨ (m.top.stk.length : Int) - takes P.ps m.top.fn.code[m.top.nx.toNat]! + puts m.top.fn.code[m.top.nx.toNat]! > 64 then 151
  else if access P m m.top.fn.code[m.top.nx.toNat]! = false then 152
  else if room m (m.top.fn.code[m.top.nx.toNat]!).1 = false then 102
  else 0
noncomputable def stepM (P : MP) (E : En) (m : Ms) : Int × Ms :=
  if ready P m = 0 then does P E m m.top.fn.code[m.top.nx.toNat]! else (ready P m, m)
def initM (P : MP) (E : En) (parts : List Pt) : Ms :=
  { low := [], top := ⟨P.sys, locals P.sys [], [], 0⟩, vals := parts, dice := newS E.seed E.frame P.sysN E.idx, since := 0, steps := 0, kept := [], cmds := [], evs := [], over := false }
/-- A run ends, behind so many instructions, so. -/
inductive Runs (P : MP) (E : En) : Ms → Nat → Int → Ms → Prop where
  | over {m : Ms} (h : m.over = true) : Runs P E m 0 0 m
  | bad {m : Ms} (h : m.over = false) (he : (stepM P E m).1 ≠ 0) : Runs P E m 1 (stepM P E m).1 (stepM P E m).2
  | step {m m' : Ms} {n : Nat} {e : Int} (h : m.over = false) (he : (stepM P E m).1 = 0) (hr : Runs P E (stepM P E m).2 n e m') : Runs P E m (n + 1) e m'
theorem Runs.unique {P : MP} {E : En} {m m1 : Ms} {n1 : Nat} {e1 : Int} (h : Runs P E m n1 e1 m1) : ∀ {n2 : Nat} {e2 : Int} {m2 : Ms}, Runs P E m n2 e2 m2 → n1 = n2 ∧ e1 = e2 ∧ m1 = m2 := by
  induction h with
  | over h => intro n2 e2 m2 h2; cases h2 with
    | over => exact ⟨rfl, rfl, rfl⟩
    | bad h' => rw [h] at h'; cases h'
    | step h' => rw [h] at h'; cases h'
  | bad h he => intro n2 e2 m2 h2; cases h2 with
    | over h' => rw [h] at h'; cases h'
    | bad => exact ⟨rfl, rfl, rfl⟩
    | step _ he' => exact absurd he' he
  | step h he _ ih => intro n2 e2 m2 h2; cases h2 with
    | over h' => rw [h] at h'; cases h'
    | bad _ he' => exact absurd he he'
    | step _ _ hr => obtain ⟨a, b, c⟩ := ih hr; exact ⟨by omega, b, c⟩

/-! ### what holds throughout -/
def All64 (l : List Int) : Prop := ∀ x ∈ l, I64 x
structure FnOk (f : Fnc) : Prop where
  loc : I64 f.locals
  par : I64 f.params
  code : ∀ i ∈ f.code, I64 i.1 ∧ I64 i.2
  len : f.code.length ≤ 2 ^ 60
structure POk (P : MP) : Prop where
  fns : ∀ f ∈ P.fns, FnOk f
  sys : FnOk P.sys
structure EOk (E : En) : Prop where
  frame : I64 E.frame
  idx : I64 E.idx
  inputs : ∀ x ∈ E.inputs, I64 x.2.2
structure AOk (P : MP) (a : Actn) : Prop where
  fn : a.fn = P.sys ∨ a.fn ∈ P.fns
  stk : a.stk.length ≤ 64
  stk64 : All64 a.stk
  loc : a.loc.length ≤ 64
  loc64 : All64 a.loc
  nx : -1 ≤ a.nx ∧ a.nx ≤ a.fn.code.length
structure MOk (P : MP) (m : Ms) : Prop where
  low : ∀ a ∈ m.low, AOk P a ∧ a.stk.length ≤ 63
  top : AOk P m.top
  lowl : m.low.length ≤ 16
  vals : ∀ p ∈ m.vals, All64 p.vals
  dice : 0 ≤ m.dice ∧ m.dice < 18446744073709551616
  since : 0 ≤ m.since ∧ m.since ≤ 40000
  steps : 0 ≤ m.steps ∧ m.steps ≤ 2000
  kept : m.kept.length ≤ 12
  keptK : ∀ p ∈ m.kept, 1 ≤ p.kind ∧ p.kind ≤ 12
  cmds : m.cmds.length ≤ 16
  evs : m.evs.length ≤ 16

theorem w64_bd (x : Int) : I64 (w64 x) := by unfold I64 w64; rw [wrap_i64]; omega
theorem truthI_bd (b : Bool) : I64 (truthI b) := by cases b <;> exact ⟨by decide, by decide⟩
theorem divI_bd (w x : Int) : I64 (divI w x) := by
  unfold divI
  split
  · exact ⟨by decide, by decide⟩
  · split <;> exact w64_bd _
theorem remI_bd {w x : Int} (hx : I64 x) : I64 (remI w x) := by
  unfold remI
  split
  · exact ⟨by decide, by decide⟩
  · rename_i h
    have h1 : x ≠ 0 := fun e => h (.inl e)
    have h2 := Int.natAbs_tmod w x
    have := Nat.mod_lt w.natAbs (show 0 < x.natAbs by omega)
    rw [← h2] at this
    unfold I64 at *
    omega
theorem binI_bd {op : Nat} {w x : Int} (hw : I64 w) (hx : I64 x) : I64 (binI op w x) := by
  unfold binI
  split
  · exact w64_bd _
  · exact w64_bd _
  · exact w64_bd _
  · exact divI_bd _ _
  · exact remI_bd hx
  · exact truthI_bd _
  · exact truthI_bd _
  · exact truthI_bd _
  · exact truthI_bd _
  · exact truthI_bd _
  · exact truthI_bd _
  · split <;> assumption
  · split <;> assumption
theorem unI_bd {op : Nat} {x : Int} (hx : I64 x) : I64 (unI op x) := by
  unfold unI
  split
  · exact w64_bd _
  · exact truthI_bd _
  · split
    · exact w64_bd _
    · exact hx
theorem all_get {l : List Int} (h : All64 l) (i : Nat) : I64 l[i]! := by
  by_cases hi : i < l.length
  · rw [getElem!_pos l i hi]; exact h _ (List.getElem_mem hi)
  · rw [getElem!_neg l i hi]; exact ⟨by decide, by decide⟩
theorem all_set {l : List Int} (h : All64 l) {x : Int} (hx : I64 x) (i : Nat) : All64 (l.set i x) := fun y hy => by
  rcases List.mem_or_eq_of_mem_set hy with h1 | rfl
  · exact h _ h1
  · exact hx
theorem all_app {l l' : List Int} (h : All64 l) (h' : All64 l') : All64 (l ++ l') := fun y hy => (List.mem_append.1 hy).elim (h y) (h' y)
theorem all_take {l : List Int} (h : All64 l) (n : Nat) : All64 (l.take n) := fun y hy => h y (List.mem_of_mem_take hy)
theorem all_drop {l : List Int} (h : All64 l) (n : Nat) : All64 (l.drop n) := fun y hy => h y (List.mem_of_mem_drop hy)
theorem all_one {x : Int} (h : I64 x) : All64 [x] := fun y hy => by rw [List.mem_singleton.1 hy]; exact h
theorem lookV_all {l : List Pt} (h : ∀ p ∈ l, All64 p.vals) {k : Int} {v : List Int} (hv : lookV l k = some v) : All64 v := by
  unfold lookV at hv
  cases hf : l.find? fun p => p.kind == k with
  | none => rw [hf] at hv; cases hv
  | some p => rw [hf] at hv; cases hv; exact h _ (List.mem_of_find?_eq_some hf)
theorem putV_all {x : Int} (hx : I64 x) {k : Int} {f : Nat} : ∀ {l : List Pt}, (∀ p ∈ l, All64 p.vals) → ∀ p ∈ putV l k f x, All64 p.vals
  | [], _, p, hp => by cases hp
  | q :: r, h, p, hp => by
    unfold putV at hp
    split at hp
    · rcases List.mem_cons.1 hp with rfl | hp
      · exact all_set (h q (by simp)) hx _
      · exact h p (by simp [hp])
    · rcases List.mem_cons.1 hp with rfl | hp
      · exact h p (by simp)
      · exact putV_all hx (fun p hp => h p (by simp [hp])) p hp
theorem MOk.pushM {P : MP} {m : Ms} (h : MOk P m) (hs : m.top.stk.length ≤ 63) {x : Int} (hx : I64 x) : MOk P (m.push x) :=
  { h with top := { h.top with stk := by simp only [Ms.push, List.length_append, List.length_singleton]; omega, stk64 := all_app h.top.stk64 (all_one hx) } }
theorem MOk.cut {P : MP} {m : Ms} (h : MOk P m) {t : Nat} (hn : m.top.nx < m.top.fn.code.length) (hs : m.since < 40000) : MOk P (cut m t) :=
  { h with
    top := { h.top with stk := by have := h.top.stk; simp only [Mc.cut, List.length_take]; omega, stk64 := all_take h.top.stk64 _, nx := by have := h.top.nx; dsimp only [Mc.cut]; omega }
    since := by have := h.since; dsimp only [Mc.cut]; omega }
theorem locals_len (f : Fnc) (l : List Int) (h : l.length ≤ 64) : (locals f l).length ≤ 64 := by
  unfold locals; rw [List.length_append, List.length_replicate]; omega
theorem locals_64 {f : Fnc} {l : List Int} (h : All64 l) : All64 (locals f l) := all_app h fun x hx => by rw [List.eq_of_mem_replicate hx]; exact ⟨by decide, by decide⟩
theorem inp_64 {l : List (Int × Int × Int)} (h : ∀ x ∈ l, I64 x.2.2) (p k : Int) : I64 (inp l p k) := by
  unfold inp
  cases hf : l.reverse.find? fun x => x.1 == p && x.2.1 == k with
  | none => exact ⟨by decide, by decide⟩
  | some x => exact h _ (List.mem_reverse.1 (List.mem_of_find?_eq_some hf))
theorem BelowF_64 {s n : Int} (h : I64 n) : I64 (BelowF s n).1 := by
  by_cases hn : n < 1
  · rw [BelowF_lo s n hn]; exact ⟨by decide, by decide⟩
  · have := BelowF_in s n (by omega); unfold I64 at *; omega

/-! ### a step keeps it -/
theorem takes_of {ps : List Int} {op A : Int} {c : Int} (hop : 1 ≤ op ∧ op ≤ 39) (h : (tbl[op.toNat]!).2.2 = 0) (hc : (tbl[op.toNat]!).1 = c) : takes ps (op, A) = c := by
  unfold takes isOpB
  rw [if_pos (decide_eq_true hop), if_neg (by rw [h]; decide), if_neg (by rw [h]; decide)]; exact hc
theorem puts_of {op A : Int} {c : Int} (hop : 1 ≤ op ∧ op ≤ 39) (hc : (tbl[op.toNat]!).2.1 = c) : puts (op, A) = c := by
  unfold puts isOpB
  rw [if_pos (decide_eq_true hop)]; exact hc
structure Rdy (P : MP) (m : Ms) (i : Ins) : Prop where
  nx : 0 ≤ m.top.nx ∧ m.top.nx < (m.top.fn.code.length : Int)
  ins : m.top.fn.code[m.top.nx.toNat]! = i
  since : m.since < 40000
  op : 1 ≤ i.1 ∧ i.1 ≤ 39
  stk : takes P.ps i ≤ m.top.stk.length ∧ (m.top.stk.length : Int) - takes P.ps i + puts i ≤ 64
  acc : access P m i = true
  room : room m i.1 = true
theorem ready_iff {P : MP} {m : Ms} (h : ready P m = 0) : Rdy P m m.top.fn.code[m.top.nx.toNat]! := by
  unfold ready at h
  split at h
  · cases h
  rename_i h1
  split at h
  · cases h
  rename_i h2
  split at h
  · cases h
  rename_i h3
  split at h
  · cases h
  rename_i h4
  split at h
  · cases h
  rename_i h5
  split at h
  · cases h
  rename_i h6
  refine ⟨Decidable.not_not.1 h1, rfl, by omega, ?_, by omega, by simpa using h5, by simpa using h6⟩
  unfold isOpB at h3
  simpa using h3
theorem Rdy.get {P : MP} {m : Ms} {i : Ins} (h : Rdy P m i) : i ∈ m.top.fn.code := by
  have := h.nx
  rw [← h.ins, getElem!_pos _ _ (by omega)]
  exact List.getElem_mem _
theorem ready_of {P : MP} {m : Ms} {i : Ins} (h : Rdy P m i) : ready P m = 0 := by
  unfold ready
  have h1 := h.nx
  have h2 := h.since
  have h3 : isOpB i.1 = true := decide_eq_true h.op
  have h4 := h.stk
  rw [h.ins, if_neg (by omega), if_neg (by omega), if_neg (by rw [h3]; decide), if_neg (by omega), if_neg (by rw [h.acc]; decide), if_neg (by rw [h.room]; decide)]
end Go.Proofs.YtfpmgpblhhcpgaaGreat.Hc.Mc
/-
  Machine: what holds throughout is kept by a step; how a run ends.
-/
namespace Go.Proofs.YtfpmgpblhhcpgaaGreat.Hc.Mc
set_option linter.unusedVariables false
set_option linter.unusedSimpArgs false
open Go Go.Proofs.YtfpmgpblhhcpgaaGreat.Hc Go.Proofs.YtfpmgpblhhcpgaaGreat.Hc.Vf Go.Proofs.YtfpmgpblhhcpgaaGreat.Hc.Dice

theorem bin_tbl : ∀ n : Nat, n < 40 → isBin n = true → tbl[n]! = (2, 1, 0) := by decide
theorem un_tbl : ∀ n : Nat, n < 40 → isUn n = true → tbl[n]! = (1, 1, 0) := by decide
theorem op_nat {op : Int} (h : 1 ≤ op ∧ op ≤ 39) : op = (op.toNat : Int) ∧ op.toNat < 40 := by omega
theorem takes_bin {ps : List Int} {i : Ins} (h : 1 ≤ i.1 ∧ i.1 ≤ 39) (hb : isBin i.1 = true) : takes ps i = 2 ∧ puts i = 1 := by
  obtain ⟨op, A⟩ := i
  dsimp only at h hb
  have ht := bin_tbl op.toNat (op_nat h).2 (by rw [← (op_nat h).1]; exact hb)
  exact ⟨takes_of h (by rw [ht]) (by rw [ht]), puts_of h (by rw [ht])⟩
theorem takes_un {ps : List Int} {i : Ins} (h : 1 ≤ i.1 ∧ i.1 ≤ 39) (hb : isUn i.1 = true) : takes ps i = 1 ∧ puts i = 1 := by
  obtain ⟨op, A⟩ := i
  dsimp only at h hb
  have ht := un_tbl op.toNat (op_nat h).2 (by rw [← (op_nat h).1]; exact hb)
  exact ⟨takes_of h (by rw [ht]) (by rw [ht]), puts_of h (by rw [ht])⟩
theorem puts_k {i : Ins} (h : 1 ≤ i.1 ∧ i.1 ≤ 39) {k : Nat} (hk : i.1.toNat = k) : puts i = (tbl[k]!).2.1 := by
  obtain ⟨op, A⟩ := i
  dsimp only at h hk
  exact puts_of h (by rw [hk])
theorem takes_k {ps : List Int} {i : Ins} (h : 1 ≤ i.1 ∧ i.1 ≤ 39) {k : Nat} (hk : i.1.toNat = k) (h0 : (tbl[k]!).2.2 = 0) : takes ps i = (tbl[k]!).1 := by
  obtain ⟨op, A⟩ := i
  dsimp only at h hk
  exact takes_of h (by rw [hk]; exact h0) (by rw [hk])
theorem cut_len (m : Ms) (t : Nat) : (cut m t).top.stk.length = m.top.stk.length - t := by
  unfold cut; rw [List.length_take]; omega
theorem args_len {m : Ms} {t : Nat} (h : t ≤ m.top.stk.length) : (args m t).length = t := by
  unfold args; rw [List.length_drop]; omega
theorem args_64 {P : MP} {m : Ms} (h : MOk P m) (t : Nat) : All64 (args m t) := all_drop h.top.stk64 _
theorem AOk.fnOk {P : MP} (hP : POk P) {a : Actn} (h : AOk P a) : FnOk a.fn := by
  rcases h.fn with e | e
  · rw [e]; exact hP.sys
  · exact hP.fns _ e
theorem goal_bd (P : MP) (f : Fnc) (a : Int) : -1 ≤ goal P f a ∧ goal P f a ≤ f.code.length := by unfold goal; split <;> omega
theorem getLast!_mem {α : Type} [Inhabited α] {l : List α} (h : l ≠ []) : l.getLast! ∈ l := by
  rw [List.getLast!_eq_getLast?_getD, List.getLast?_eq_some_getLast h]
  exact List.getLast_mem h
theorem rise_len {l : List Pt} (h : ∀ p ∈ l, 1 ≤ p.kind ∧ p.kind ≤ 12) : (rise l).Perm l := by
  have key : ∀ (n : Nat) (l : List Pt), (∀ p ∈ l, 0 ≤ p.kind ∧ p.kind < n) → ((List.range n).flatMap fun (k : Nat) => l.filter fun p => p.kind == (k : Int)).Perm l := by
    intro n
    induction n with
    | zero => intro l h; cases l with
      | nil => exact .refl _
      | cons p l => have := h p (by simp); omega
    | succ n ih =>
      intro l h
      rw [List.range_succ, List.flatMap_append]
      have h1 : (List.range n).flatMap (fun (k : Nat) => l.filter fun p => p.kind == (k : Int)) = (List.range n).flatMap fun (k : Nat) => (l.filter fun p => !(p.kind == (n : Int))).filter fun p => p.kind == (k : Int) := by
        have : ∀ k ∈ List.range n, (l.filter fun p => p.kind == (k : Int)) = (l.filter fun p => !(p.kind == (n : Int))).filter fun p => p.kind == (k : Int) := by
          intro k hk
          rw [List.filter_filter]
          refine List.filter_congr fun p _ => ?_
          by_cases e : p.kind = (k : Int)
          · have := List.mem_range.1 hk
            have h2 : (p.kind == (n : Int)) = false := beq_eq_false_iff_ne.2 (by omega)
            rw [h2]; simp
          · have : (p.kind == (k : Int)) = false := beq_eq_false_iff_ne.2 e
            rw [this]; simp
        rw [List.flatMap_def, List.flatMap_def, List.map_congr_left this]
      rw [h1]
      refine ((ih (l.filter fun p => !(p.kind == (n : Int))) fun p hp => ?_).append (.refl _)).trans ?_
      · obtain ⟨hp, hq⟩ := List.mem_filter.1 hp
        have := h p hp
        have hq : p.kind ≠ n := by simpa using hq
        omega
      · simp only [List.flatMap_cons, List.flatMap_nil, List.append_nil]
        exact List.perm_append_comm.trans (List.filter_append_perm (fun p : Pt => p.kind == (n : Int)) l)
  exact key 13 l fun p hp => by have := h p hp; omega

theorem MOk.does {P : MP} {E : En} {m : Ms} {i : Ins} (hP : POk P) (hE : EOk E) (h : MOk P m) (r : Rdy P m i) :
    ((Mc.does P E m i).1 = 0 ∧ MOk P (Mc.does P E m i).2) ∨ ((Mc.does P E m i).1 = 120 ∧ (Mc.does P E m i).2.steps = 2001) := by
  have hi := (h.top.fnOk hP).code i r.get
  have hst := r.stk
  have hop := r.op
  have ht0 := takes_bd P.ps i
  have hc := h.cut (t := (takes P.ps i).toNat) r.nx.2 r.since
  have hl := cut_len m (takes P.ps i).toNat
  have ha := args_len (m := m) (t := (takes P.ps i).toNat) (by omega)
  have ha64 := args_64 h (takes P.ps i).toNat
  have push : ∀ x, puts i = 1 → I64 x → MOk P ((Mc.cut m (takes P.ps i).toNat).push x) := fun x hp hx => hc.pushM (by omega) hx
  have hacc := r.acc
  have hroom := r.room
  unfold Mc.does
  dsimp only
  split
  · rename_i hb; exact .inl ⟨rfl, push _ (takes_bin (ps := P.ps) hop hb).2 (binI_bd (all_get ha64 _) (all_get ha64 _))⟩
  split
  · rename_i hb; exact .inl ⟨rfl, push _ (takes_un (ps := P.ps) hop hb).2 (unI_bd (all_get ha64 _))⟩
  generalize hm1 : Mc.cut m (takes P.ps i).toNat = m1 at *
  generalize hla : args m (takes P.ps i).toNat = l at *
  have e1 : m1.top.loc = m.top.loc := by rw [← hm1]; rfl
  have e2 : m1.top.fn = m.top.fn := by rw [← hm1]; rfl
  have e3 : m1.steps = m.steps := by rw [← hm1]; rfl
  have hs := h.steps
  unfold act
  split
  · rename_i hk; exact .inl ⟨rfl, push _ (puts_k hop hk) hi.2⟩
  · rename_i hk; exact .inl ⟨rfl, push _ (puts_k hop hk) (all_get h.top.loc64 _)⟩
  · exact .inl ⟨rfl, { hc with top := { hc.top with loc := by dsimp only; rw [List.length_set]; exact h.top.loc, loc64 := all_set h.top.loc64 (all_get ha64 _) _ } }⟩
  · rename_i hk
    refine .inl ⟨rfl, push _ (puts_k hop hk) ?_⟩
    cases hv : lookV m.vals (i.2 / 8) with
    | none => exact all_get (l := []) (fun _ h => by cases h) _
    | some v => exact all_get (lookV_all h.vals hv) _
  · exact .inl ⟨rfl, { hc with vals := putV_all (all_get ha64 _) h.vals }⟩
  · exact .inl ⟨rfl, { hc with top := { hc.top with nx := by dsimp only; rw [e2]; exact goal_bd _ _ _ } }⟩
  · refine .inl ⟨rfl, ?_⟩
    dsimp only
    split
    · exact { hc with top := { hc.top with nx := by dsimp only; rw [e2]; exact goal_bd _ _ _ } }
    · exact hc
  · rename_i hk
    have hA : 0 ≤ i.2 ∧ i.2 < (P.fns.length : Int) ∧ m.low.length + 1 ≤ 16 := by
      unfold access accessM at hacc
      rw [hk] at hacc
      split at hacc
      · cases hacc
      · exact of_decide_eq_true hacc
    have hmem : P.fns[i.2.toNat]! ∈ P.fns := by rw [getElem!_pos _ _ (by omega)]; exact List.getElem_mem _
    split
    · rename_i hle
      refine .inl ⟨rfl, { hc with low := fun a hal => ?_, lowl := ?_, top := ⟨.inr hmem, by simp, (fun _ hx => by cases hx), ?_, locals_64 ha64, by dsimp only; omega⟩, since := by dsimp only; omega, steps := by dsimp only; omega }⟩
      · rcases List.mem_append.1 hal with ha | ha
        · exact h.low a ha
        · rw [List.mem_singleton.1 ha]
          exact ⟨hc.top, by have : puts i = 1 := puts_k hop hk; omega⟩
      · exact locals_len _ _ (by have := h.top.stk; omega)
      · simp only [List.length_append, List.length_singleton]; omega
    · exact .inr ⟨rfl, by dsimp only; omega⟩
  · rename_i hk
    have hne : m.low ≠ [] := by
      unfold access accessM at hacc
      rw [hk] at hacc
      split at hacc
      · cases hacc
      · exact of_decide_eq_true hacc
    have hmem := getLast!_mem hne
    have hlo := h.low _ hmem
    refine .inl ⟨rfl, { hc with low := fun a hal => h.low a (List.dropLast_subset _ hal), lowl := ?_, top := { hlo.1 with stk := by dsimp only; rw [List.length_append, List.length_singleton]; omega, stk64 := all_app hlo.1.stk64 (all_one (all_get ha64 _)) } }⟩
    have := h.lowl
    dsimp only
    rw [List.length_dropLast]; omega
  · exact .inl ⟨rfl, { hc with }⟩
  · split
    · exact .inl ⟨rfl, { hc with since := by dsimp only; omega, steps := by dsimp only; omega }⟩
    · exact .inr ⟨rfl, by dsimp only; omega⟩
  · rename_i hk
    have : m.evs.length < 16 := by
      unfold Mc.room at hroom
      rw [if_neg (by omega), if_pos (by omega)] at hroom
      exact of_decide_eq_true hroom
    exact .inl ⟨rfl, { hc with evs := by simp only [List.length_append, List.length_singleton]; omega }⟩
  · rename_i hk
    have hA : (0 ≤ i.2 ∧ 1 ≤ i.2 / 8 ∧ i.2 / 8 ≤ 12) ∧ m.kept.length < 12 := by
      unfold access accessM at hacc
      rw [hk] at hacc
      split at hacc
      · cases hacc
      · simp only [Bool.and_eq_true, decide_eq_true_eq, isKindB] at hacc
        exact ⟨⟨hacc.1.1, hacc.1.2⟩, hacc.2⟩
    refine .inl ⟨rfl, { hc with kept := by simp only [List.length_append, List.length_singleton]; omega, keptK := fun p hp => ?_ }⟩
    rcases List.mem_append.1 hp with hp | hp
    · exact h.keptK p hp
    · rw [List.mem_singleton.1 hp]; exact hA.1.2
  all_goals first
    | (rename_i hk
       have : m.cmds.length < 16 := by
         unfold Mc.room at hroom
         rw [if_pos (by omega)] at hroom
         exact of_decide_eq_true hroom
       exact .inl ⟨rfl, { hc with cmds := by simp only [List.length_append, List.length_singleton]; omega }⟩)
    | (rename_i hk
       have : m.cmds.length < 16 := by
         unfold Mc.room at hroom
         rw [if_pos (by omega)] at hroom
         exact of_decide_eq_true hroom
       exact .inl ⟨rfl, { hc with cmds := by simp only [List.length_append, List.length_singleton]; omega, kept := by simp, keptK := fun p hp => by cases hp }⟩)
    | exact .inl ⟨rfl, hc⟩
    | skip
  · rename_i hk
    have hx := push _ (puts_k hop hk) (BelowF_64 (s := m.dice) (all_get ha64 0))
    exact .inl ⟨rfl, { hx with dice := BelowF_bd _ _ h.dice.1 h.dice.2 }⟩
  · rename_i hk; exact .inl ⟨rfl, push _ (puts_k hop hk) hE.frame⟩
  · rename_i hk; exact .inl ⟨rfl, push _ (puts_k hop hk) hE.idx⟩
  · rename_i hk; exact .inl ⟨rfl, push _ (puts_k hop hk) (inp_64 hE.inputs _ _)⟩
  · rename_i hk; exact .inl ⟨rfl, push _ (puts_k hop hk) (truthI_bd _)⟩
end Go.Proofs.YtfpmgpblhhcpgaaGreat.Hc.Mc
/-
  Machine: what input says, in plain Lean.
-/
namespace Go.Proofs.YtfpmgpblhhcpgaaGreat
set_option linter.unusedVariables false
set_option linter.unusedSimpArgs false
open Go.Proofs.YtfpmgpblhhcpgaaGreat.Hc.Mc

theorem backTo_rev (zs : List InX) {k : Nat} (hk : k ≤ zs.length) : (backTo zs k).map (·.2) = zs.reverse.take k := by
  apply List.ext_getElem
  · simp [backTo]; omega
  · intro i h1 h2
    simp [backTo] at h1
    have : zs.length - 1 - i < zs.length := by omega
    simp [backTo, elX, this]
theorem inp_done {zs : List InX} {p q : Int} (h : ∀ x ∈ backTo zs zs.length, ¬ hit p q x) : inp zs p q = 0 := by
  unfold inp
  have : zs.reverse.find? (fun x => x.1 == p && x.2.1 == q) = none := by
    refine List.find?_eq_none.2 fun y hy e => ?_
    have e1 := backTo_rev zs (Nat.le_refl _)
    rw [List.take_of_length_le (by simp)] at e1
    rw [← e1] at hy
    obtain ⟨x, hx, rfl⟩ := List.mem_map.1 hy
    exact h x hx (by simpa [hit] using e)
  rw [this]; rfl
theorem inp_stop {zs : List InX} {p q : Int} {pre : List (Int × InX)} {x : Int × InX} {k : Nat} (hk : k ≤ zs.length) (e : backTo zs k = pre ++ [x]) (hno : ∀ y ∈ pre, ¬ hit p q y) (hx : hit p q x) : inp zs p q = x.2.2.2 := by
  unfold inp
  have e1 := backTo_rev zs hk
  rw [e, List.map_append] at e1
  have : zs.reverse.find? (fun x => x.1 == p && x.2.1 == q) = some x.2 := by
    rw [← List.take_append_drop k zs.reverse, ← e1, List.append_assoc, List.find?_append]
    have h0 : (pre.map (·.2)).find? (fun x => x.1 == p && x.2.1 == q) = none := by
      refine List.find?_eq_none.2 fun y hy e => ?_
      obtain ⟨z, hz, rfl⟩ := List.mem_map.1 hy
      exact hno z hz (by simpa [hit] using e)
    rw [h0]
    have : (x.2.1 == p && x.2.2.1 == q) = true := by simpa [hit] using hx
    simp [this]
  rw [this]; rfl
end Go.Proofs.YtfpmgpblhhcpgaaGreat
/-
  Arguments that are slices: as lists.
-/
namespace Go.Proofs.YtfpmgpblhhcpgaaGreat.Hc
set_option linter.unusedVariables false
set_option linter.unusedSimpArgs false

theorem reach47 : reachBytes ≤ 2 ^ 47 := by decide
/-- A list is chosen, element by element. -/
theorem list_of {α : Type} {R : Nat → α → Prop} : ∀ n, (∀ i, i < n → ∃ x, R i x) → ∃ xs : List α, xs.length = n ∧ ∀ i (h : i < xs.length), R i xs[i]
  | 0, _ => ⟨[], rfl, fun i h => by simp at h⟩
  | n + 1, h => by
    obtain ⟨xs, h1, h2⟩ := list_of n fun i hi => h i (by omega)
    obtain ⟨x, hx⟩ := h n (by omega)
    refine ⟨xs ++ [x], by simp [h1], fun i hi => ?_⟩
    rcases Nat.lt_or_ge i n with e | e
    · rw [List.getElem_append_left (by omega)]; exact h2 i (by omega)
    · have : i = n := by simp at hi; omega
      subst this
      rw [List.getElem_append_right (by omega)]
      simpa using hx
/-- A slice argument, whatever its elements are. -/
theorem rdC_elems {P : Program} {t e : TypeId} (hu : P.underlying t = some (.slice e)) {n : Nat} (hce : P.cellsOf e = n) {α : Type} {H : Heap} {R : List Value → α → Prop} (hR : ∀ f cs, RdC P H f e cs → ∃ x, R cs x) {f : Nat} {v : Value} (h : RdC P H f t [v]) :
    ∃ (s : Sl) (xs : List α), v = .slice s.a s.len s.cap ∧ s.len = xs.length ∧ s.len ≤ s.cap ∧ s.cap * P.bytesOf e ≤ reachBytes ∧ s.cap ≤ maxLen ∧
      ∀ i (h : i < xs.length), ∃ a, s.a = some a ∧ ∃ cs, cs.length = n ∧ hcells H (a.add (i * n)) 0 cs ∧ R cs xs[i] := by
  obtain ⟨f', hs⟩ := rdC_slice hu h
  rw [hce] at hs
  rcases hs with e | ⟨a, len, cap, e, h1, h2, h3⟩
  · simp only [List.cons.injEq, and_true] at e
    subst e
    exact ⟨⟨none, 0, 0⟩, [], rfl, rfl, Nat.le_refl _, by simp, Nat.zero_le _, fun i hi => by simp at hi⟩
  · simp only [List.cons.injEq, and_true] at e
    subst e
    obtain ⟨xs, g1, g2⟩ := list_of (R := fun i x => ∃ cs, cs.length = n ∧ hcells H (a.add (i * n)) 0 cs ∧ R cs x) len fun i hi => by
      obtain ⟨cs, k1, k2, k3⟩ := h3 i (Nat.lt_of_lt_of_le hi h1)
      obtain ⟨x, hx⟩ := hR _ _ k3
      exact ⟨x, cs, k1, k2, hx⟩
    exact ⟨⟨some a, len, cap⟩, xs, rfl, g1.symm, h1, h2.2, h2.1, fun i hi => ⟨a, rfl, g2 i hi⟩⟩
/-- A slice argument of elements of one cell each. -/
theorem rdC_list {P : Program} {t e : TypeId} (hu : P.underlying t = some (.slice e)) (hce : P.cellsOf e = 1) {α : Type} {g : α → Value} {Q : α → Prop} {H : Heap} (hR : ∀ f cs, RdC P H f e cs → ∃ x, cs = [g x] ∧ Q x) {f : Nat} {v : Value} (h : RdC P H f t [v]) :
    ∃ (s : Sl) (xs : List α), v = .slice s.a s.len s.cap ∧ RL g H s xs ∧ (∀ x ∈ xs, Q x) ∧ s.cap * P.bytesOf e ≤ reachBytes ∧ s.cap ≤ maxLen := by
  obtain ⟨s, xs, h1, h2, h3, h4, h5, h6⟩ := rdC_elems hu hce (R := fun cs x => cs = [g x] ∧ Q x) hR h
  refine ⟨s, xs, h1, ⟨?_, h2, h3⟩, fun x hx => ?_, h4, h5⟩
  · unfold rdL
    cases ha : s.a with
    | none =>
      cases xs with
      | nil => rfl
      | cons x xs => obtain ⟨a, e, _⟩ := h6 0 (by simp); rw [ha] at e; cases e
    | some a =>
      refine hcells_iff.2 fun j hj => ?_
      rw [List.length_map] at hj
      obtain ⟨b, e, cs, _, k2, k3, _⟩ := h6 j hj
      rw [ha] at e; cases e
      subst k3
      have := k2.1
      rw [Nat.mul_one, add_zero] at this
      rw [Nat.zero_add, this, List.getElem?_map, List.getElem?_eq_getElem hj]; rfl
  · obtain ⟨i, hi, rfl⟩ := List.getElem_of_mem hx
    obtain ⟨_, _, _, _, _, _, k⟩ := h6 i hi
    exact k
theorem rdC_ints {P : Program} {t e : TypeId} (hu : P.underlying t = some (.slice e)) (he : P.underlying e = some (.int .i64)) (hce : P.cellsOf e = 1) {H : Heap} {f : Nat} {v : Value} (h : RdC P H f t [v]) :
    ∃ (s : Sl) (xs : List Int), v = .slice s.a s.len s.cap ∧ RI H s xs ∧ (∀ x ∈ xs, I64 x) ∧ s.cap * P.bytesOf e ≤ reachBytes ∧ s.cap ≤ maxLen :=
  rdC_list hu hce (fun _ _ h => rdC_i64 he h) h
theorem rd_ints {P : Program} {t e : TypeId} (hu : P.underlying t = some (.slice e)) (he : P.underlying e = some (.int .i64)) (hce : P.cellsOf e = 1) {H : Heap} {v : Value} (h : RdV P H t v) :
    ∃ (s : Sl) (xs : List Int), v = .slice s.a s.len s.cap ∧ RI H s xs ∧ (∀ x ∈ xs, I64 x) ∧ s.cap * P.bytesOf e ≤ reachBytes ∧ s.cap ≤ maxLen := by
  obtain ⟨f, hc⟩ := rd_cell hu rfl h
  exact rdC_ints hu he hce hc
theorem rd_elems {P : Program} {t e : TypeId} (hu : P.underlying t = some (.slice e)) {n : Nat} (hce : P.cellsOf e = n) {α : Type} {H : Heap} {R : List Value → α → Prop} (hR : ∀ f cs, RdC P H f e cs → ∃ x, R cs x) {v : Value} (h : RdV P H t v) :
    ∃ (s : Sl) (xs : List α), v = .slice s.a s.len s.cap ∧ s.len = xs.length ∧ s.len ≤ s.cap ∧ s.cap * P.bytesOf e ≤ reachBytes ∧ s.cap ≤ maxLen ∧
      ∀ i (h : i < xs.length), ∃ a, s.a = some a ∧ ∃ cs, cs.length = n ∧ hcells H (a.add (i * n)) 0 cs ∧ R cs xs[i] := by
  obtain ⟨f, hc⟩ := rd_cell hu rfl h
  exact rdC_elems hu hce hR hc
end Go.Proofs.YtfpmgpblhhcpgaaGreat.Hc
