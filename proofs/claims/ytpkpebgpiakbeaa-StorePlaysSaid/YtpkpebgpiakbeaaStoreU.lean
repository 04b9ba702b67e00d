/-
  Every call of two stores in turns: the law.
-/
import Derived.Test.YtpkpebgpiakbeaaStoreT
namespace Go.Proofs.Ytpkpebgpiakbeaa
set_option linter.unusedVariables false
set_option linter.unusedSimpArgs false
open Go.Proofs.Ytpkpebgpiakbeaa.Hc
set_option maxRecDepth 100000

theorem PAt.upd {F M : Nat → Prop} {H H' : Heap} {q n : Nat} (hu : Upd M H H') (h : PAt F H q n) (hm : ∀ b, F b → ¬ M b) : PAt F H' q n :=
  let ⟨p, s, p', sA, sB, ks, es, r, hX, hl⟩ := h
  ⟨p, s, p', sA, sB, ks, es, r, hX.upd hu hm, hl⟩
theorem PAt.le {F : Nat → Prop} {H : Heap} {q n m : Nat} (h : PAt F H q n) (hm : n ≤ m) : PAt F H q m :=
  let ⟨p, s, p', sA, sB, ks, es, r, hX, hl⟩ := h
  ⟨p, s, p', sA, sB, ks, es, r, hX, by omega⟩
/-- A pair, or none. -/
def PO (F : Nat → Prop) (H : Heap) (o : Option Addr) (n : Nat) : Prop := ∀ a, o = some a → ∃ q, a = adr q ∧ PAt F H q n

/-- A caller's script. -/
def Ops (H : Heap) (s : Sl) : Prop := s.len ≤ maxLen ∧ ∀ i, i < s.len → ∃ a, s.a = some a ∧ ∃ (o1 o2 o3 : Int) (x : Sl) (bs : List UInt8),
  hcells H (a.add (i * 4)) 0 [.int .i64 o1, .int .i64 o2, .int .i64 o3, .slice x.a x.len x.cap] ∧ I64 o3 ∧ RB H x bs ∧ bs.length ≤ 2 ^ 47

theorem s_StorePlays {x y t : Sl} {bs cs : List UInt8} {H : Heap} (hx : RB H x bs) (hxl : bs.length ≤ 2 ^ 47) (hy : RB H y cs) (hyl : cs.length ≤ 2 ^ 47) (ht : Ops H t) {k : Bool → Heap → Prop} (hk : ∀ H', Ext H H' → k true H') :
    CallT Pg f_hindcastlaw03_StorePlays [.slice x.a x.len x.cap, .slice y.a y.len y.cap, .slice t.a t.len t.cap] (.one (.c .bool)) H k := by
  apply c_hindcastlaw03_StorePlays
  unfold v_hindcastlaw03_StorePlays
  refine s_law03_shown fun H1 hE1 => ?_
  have s1 := hE1.size
  -- both are made
  have go : ∀ (r2 r3 : Option Addr) (H3 : Heap) (F1 F2 : Nat → Prop), Ext H H3 → PO F1 H3 r2 0 → PO F2 H3 r3 0 → (∀ b, F1 b → H.size ≤ b ∧ b < H3.size) → (∀ b, F2 b → H.size ≤ b ∧ b < H3.size) → (∀ b, F1 b → ¬ F2 b) →
      LoopT (σ := Int) (fun next1 s1 H5 =>
        Jn (σ := Bool) (fun kk2 =>
          Br (decide (s1 < (t.len : Int))) (
            kk2 (decide (s1 < 400)) H5) (
            kk2 false H5)) fun j2 H6 =>
        Br j2 (
          Jn (σ := Unit) (fun kk3 =>
            IxA 4 t s1 fun a1 =>
            Ld (.int .i64) (a1.add 1) H6 fun (x1 : Int) =>
            Lt (bits .and .i64 x1 1) fun t1 =>
            Jn (σ := Option Addr) (fun kk4 =>
              Br (t1 == 1) (
                kk4 r3 H6) (
                kk4 r2 H6)) fun j4 H8 =>
            Br j4.isNone (
              kk3 () H8) (
              IxA 4 t s1 fun a2 =>
              LdC [(.int .i64), (.int .i64), (.int .i64), .sl] a2 H8 fun (c1 : Int × Int × Int × Sl) =>
              CallT Pg f_hindcastlaw03_pair_step [.pointer j4, .agg #[.int .i64 c1.1, .int .i64 c1.2.1, .int .i64 c1.2.2.1, .slice c1.2.2.2.a c1.2.2.2.len c1.2.2.2.cap]] (.one (.c .bool)) H8 fun (r4 : Bool) H9 =>
              CallT Pg f_hindcastlaw03_pair_looks [.pointer j4] (.one (.c .bool)) H9 fun (r5 : Bool) H10 =>
              Jn (σ := Bool) (fun kk5 =>
                Br (!r4) (
                  kk5 true H10) (
                  kk5 (!r5) H10)) fun j5 H11 =>
              Br j5 (
                k false H11) (
                kk3 () H11))) fun j3 H7 =>
          Lt (IntKind.wrap .i64 (s1 + 1)) fun t2 =>
          next1 t2 H7) (
          k true H6)) 0 H3 := by
    intro r2 r3 H3 F1 F2 hE3 hP1 hP2 hF1 hF2 hd
    refine LoopT.mk (fun i H' => ∃ (j : Nat) (F1 F2 : Nat → Prop), i = j ∧ j ≤ 400 ∧ Ext H H' ∧ PO F1 H' r2 (4 * j) ∧ PO F2 H' r3 (4 * j) ∧ (∀ b, F1 b → H.size ≤ b ∧ b < H'.size) ∧ (∀ b, F2 b → H.size ≤ b ∧ b < H'.size) ∧ (∀ b, F1 b → ¬ F2 b)) (fun i _ => (400 - i).toNat)
      ⟨0, F1, F2, rfl, by omega, hE3, hP1, hP2, hF1, hF2, hd⟩ ?_
    clear hE3 hP1 hP2 hF1 hF2 hd F1 F2
    rintro next _ H5 ⟨j, F1, F2, rfl, hj, hE5, hP1, hP2, hF1, hF2, hd⟩ hnext
    refine Jn.mk (fun b H' => H5 = H' ∧ b = decide ((j : Int) < t.len ∧ (j : Int) < 400)) (fun kk hkk => ?_) ?_
    · refine Br_dec (fun h => hkk _ _ ⟨rfl, by simp [h]⟩) fun h => hkk _ _ ⟨rfl, by simp [h]⟩
    rintro _ _ ⟨rfl, rfl⟩
    refine Br_dec (fun hgo => ?_) fun _ => hk _ hE5
    obtain ⟨a, ha, o1, o2, o3, z, ds, hc, hi3, hz, hzl⟩ := ht.2 j (by omega)
    have hc5 := hcells_upd hE5 (fun h => h) hc
    have rd : ∀ {k : Addr → Prop}, k (a.add (j * 4)) → IxA 4 t j k := fun {k} hk => by
      refine IxA.mk ha (by omega) (by omega) ?_
      rw [Int.toNat_natCast]; exact hk
    refine Jn.mk (fun _ H' => ∃ (F1 F2 : Nat → Prop), Ext H H' ∧ PO F1 H' r2 (4 * (j + 1)) ∧ PO F2 H' r3 (4 * (j + 1)) ∧ (∀ b, F1 b → H.size ≤ b ∧ b < H'.size) ∧ (∀ b, F2 b → H.size ≤ b ∧ b < H'.size) ∧ (∀ b, F1 b → ¬ F2 b)) (fun kk3 hkk3 => ?_) ?_
    · refine rd ?_
      refine Ld_int hc5.2.1 ?_
      rw [Lt_def]
      have up : ∀ {o : Option Addr} {F : Nat → Prop}, PO F H5 o (4 * j) → PO F H5 o (4 * (j + 1)) := fun h a e => let ⟨q, h1, h2⟩ := h a e; ⟨q, h1, h2.le (by omega)⟩
      -- a step of one pair beside the other
      have one : ∀ (o o' : Option Addr) (G G' : Nat → Prop), PO G H5 o (4 * j) → PO G' H5 o' (4 * j) → (∀ b, G b → H.size ≤ b ∧ b < H5.size) → (∀ b, G' b → H.size ≤ b ∧ b < H5.size) → (∀ b, G b → ¬ G' b) →
          (∀ H', (∃ (G1 G2 : Nat → Prop), Ext H H' ∧ PO G1 H' o (4 * (j + 1)) ∧ PO G2 H' o' (4 * (j + 1)) ∧ (∀ b, G1 b → H.size ≤ b ∧ b < H'.size) ∧ (∀ b, G2 b → H.size ≤ b ∧ b < H'.size) ∧ (∀ b, G1 b → ¬ G2 b)) → kk3 () H') →
          Br o.isNone (
            kk3 () H5) (
            IxA 4 t j fun a2 =>
            LdC [(.int .i64), (.int .i64), (.int .i64), .sl] a2 H5 fun (c1 : Int × Int × Int × Sl) =>
            CallT Pg f_hindcastlaw03_pair_step [.pointer o, .agg #[.int .i64 c1.1, .int .i64 c1.2.1, .int .i64 c1.2.2.1, .slice c1.2.2.2.a c1.2.2.2.len c1.2.2.2.cap]] (.one (.c .bool)) H5 fun (r4 : Bool) H9 =>
            CallT Pg f_hindcastlaw03_pair_looks [.pointer o] (.one (.c .bool)) H9 fun (r5 : Bool) H10 =>
            Jn (σ := Bool) (fun kk5 =>
              Br (!r4) (
                kk5 true H10) (
                kk5 (!r5) H10)) fun j5 H11 =>
            Br j5 (
              k false H11) (
              kk3 () H11)) := by
        intro o o' G G' g1 g2 g3 g4 g5 hkk
        cases o with
        | none => exact hkk _ ⟨G, G', hE5, up g1, up g2, g3, g4, g5⟩
        | some a0 =>
          obtain ⟨q, rfl, hP⟩ := g1 a0 rfl
          rw [Option.isNone_some, Br_false]
          refine rd ?_
          refine ⟨(o1, o2, o3, z), hc5, ?_⟩
          refine s_step hP (by omega) (fun b hb => (g3 b hb).2) (fun b hb => (g3 b hb).1) hE5 o1 o2 o3 hi3 hz hzl fun H9 hP9 hU9 => ?_
          have z9 := hU9.size
          have z5 := hE5.size
          obtain ⟨p, s, p', sA, sB, ks, es, r, hX, hl⟩ := hP9
          refine s_looks hX.kt (by omega) ?_
          refine Jn_in ?_
          rw [Bool.not_true, Br_false]
          show Br false _ _
          rw [Br_false]
          refine hkk _ ⟨Gr G H5 H9, G', hE5.trans hU9 fun b hb e => by have := (g3 b e).1; omega, fun a1 e => ?_, fun a1 e => ?_, fun b hb => ?_, fun b hb => ?_, fun b hb hb' => ?_⟩
          · cases e; exact ⟨q, rfl, ⟨p, s, p', sA, sB, ks, es, r, hX, by omega⟩⟩
          · obtain ⟨q', h1, h2⟩ := g2 a1 e
            exact ⟨q', h1, (h2.upd hU9 fun b hb e => g5 b e hb).le (by omega)⟩
          · rcases hb with h | h
            · have := g3 b h; omega
            · omega
          · have := g4 b hb; omega
          · rcases hb with h | h
            · exact g5 b h hb'
            · have := g4 b hb'; omega
      refine Jn_in ?_
      refine Br.mk (fun _ => ?_) fun _ => ?_
      · exact one r3 r2 F2 F1 hP2 hP1 hF2 hF1 (fun b h h' => hd b h' h) fun H' ⟨G1, G2, h1, h2, h3, h4, h5, h6⟩ => hkk3 _ _ ⟨G2, G1, h1, h3, h2, h5, h4, fun b h h' => h6 b h' h⟩
      · exact one r2 r3 F1 F2 hP1 hP2 hF1 hF2 hd fun H' h => hkk3 _ _ h
    rintro _ H7 ⟨F1, F2, h1, h2, h3, h4, h5, h6⟩
    rw [Lt_def, wrap_i64_id (by omega) (by omega)]
    exact hnext _ _ ⟨j + 1, F1, F2, by omega, by omega, h1, h2, h3, h4, h5, h6⟩ (by omega)
  -- from the two
  have two : ∀ (r2 : Option Addr) (H2 : Heap) (F1 : Nat → Prop), Ext H H2 → PO F1 H2 r2 0 → (∀ b, F1 b → H.size ≤ b ∧ b < H2.size) →
      ∀ (m : Option Addr × Bool → Heap → Prop), (∀ (r3 : Option Addr) (H3 : Heap) (F1 F2 : Nat → Prop), Ext H H3 → PO F1 H3 r2 0 → PO F2 H3 r3 0 → (∀ b, F1 b → H.size ≤ b ∧ b < H3.size) → (∀ b, F2 b → H.size ≤ b ∧ b < H3.size) → (∀ b, F1 b → ¬ F2 b) → m (r3, true) H3) →
      CallT Pg f_hindcastlaw03_made [.slice y.a y.len y.cap] (.tup [(.c .ptr), (.c .bool)]) H2 m := by
    intro r2 H2 F1 hE2 hP1 hF1 m hm
    have z2 := hE2.size
    refine s_made hy hE2 hyl (fun H3 hE3 => ?_) fun q H3 hP hE3 => ?_
    · have z3 := hE3.size
      exact hm none H3 F1 (fun _ => False) (hE2.ext hE3) (fun a e => let ⟨q, h1, h2⟩ := hP1 a e; ⟨q, h1, h2.upd hE3 fun _ _ h => h⟩) (fun a e => by cases e) (fun b hb => by have := hF1 b hb; omega) (fun b h => h.elim) (fun b _ h => h)
    · have z3 := hE3.size
      exact hm (some (adr q)) H3 F1 _ (hE2.ext hE3) (fun a e => let ⟨q, h1, h2⟩ := hP1 a e; ⟨q, h1, h2.upd hE3 fun _ _ h => h⟩) (fun a e => by cases e; exact ⟨q, rfl, hP⟩) (fun b hb => by have := hF1 b hb; omega) (fun b h => by omega) (fun b h h' => by have := hF1 b h; omega)
  refine s_made hx hE1 hxl (fun H2 hE2 => ?_) fun q H2 hP hE2 => ?_
  · refine two none H2 (fun _ => False) (hE1.ext hE2) (fun a e => by cases e) (fun b h => h.elim) _ fun r3 H3 F1 F2 h1 h2 h3 h4 h5 h6 => ?_
    refine Jn_in ?_
    simp only [Bool.not_true, Br_false]
    exact go none r3 H3 F1 F2 h1 h2 h3 h4 h5 h6
  · have z2 := hE2.size
    refine two (some (adr q)) H2 _ (hE1.ext hE2) (fun a e => by cases e; exact ⟨q, rfl, hP⟩) (fun b h => by omega) _ fun r3 H3 F1 F2 h1 h2 h3 h4 h5 h6 => ?_
    refine Jn_in ?_
    simp only [Bool.not_true, Br_false]
    exact go (some (adr q)) r3 H3 F1 F2 h1 h2 h3 h4 h5 h6

theorem list4_hindcastlaw03_Op {cs : List Value} (h : cs.length = 4) : ∃ x0 x1 x2 x3, cs = [x0, x1, x2, x3] := by
  match cs, h with
  | [x0, x1, x2, x3], _ => exact ⟨x0, x1, x2, x3, rfl⟩
theorem rdS_hindcastlaw03_Op {H : Heap} {f : Nat} {cs : List Value} (h : RdC Try.prog H f 71 cs) : ∃ x0 x1 x2 x3, cs = [x0, x1, x2, x3] ∧ ∃ f', RdC Try.prog H f' 3 [x0] ∧ RdC Try.prog H f' 3 [x1] ∧ RdC Try.prog H f' 3 [x2] ∧ RdC Try.prog H f' 49 [x3] := by
  obtain ⟨f', hl, hall⟩ := rdC_struct Try.underlying71 h
  obtain ⟨x0, x1, x2, x3, rfl⟩ := list4_hindcastlaw03_Op (hl.trans (by kernel_rfl))
  simp only [List.mem_cons, List.not_mem_nil, or_false, forall_eq_or_imp, forall_eq] at hall
  have c3 : Try.prog.cellsOf 3 = 1 := by kernel_rfl
  have c49 : Try.prog.cellsOf 49 = 1 := by kernel_rfl
  obtain ⟨h0, h1, h2, h3⟩ := hall
  exact ⟨x0, x1, x2, x3, rfl, f', by simpa [c3] using h0, by simpa [c3] using h1, by simpa [c3] using h2, by simpa [c49] using h3⟩
theorem rd_ops {H : Heap} {v : Value} (h : RdV Try.prog H 66 v) : ∃ s : Sl, v = .slice s.a s.len s.cap ∧ Ops H s := by
  obtain ⟨f, hc⟩ := rd_cell Try.underlying66 rfl h
  obtain ⟨f', hs⟩ := rdC_slice Try.underlying66 hc
  have c71 : Try.prog.cellsOf 71 = 4 := by kernel_rfl
  have c5 : Try.prog.cellsOf 5 = 1 := by kernel_rfl
  have b5 : Try.prog.bytesOf 5 = 1 := by kernel_rfl
  rw [c71] at hs
  rcases hs with e | ⟨a, len, cap, e, h1, h2, h3⟩
  · simp only [List.cons.injEq, and_true] at e
    subst e
    exact ⟨⟨none, 0, 0⟩, rfl, Nat.zero_le _, fun i hi => by simp at hi⟩
  · simp only [List.cons.injEq, and_true] at e
    subst e
    refine ⟨⟨some a, len, cap⟩, rfl, Nat.le_trans h1 h2.1, fun i hi => ⟨a, rfl, ?_⟩⟩
    obtain ⟨xs, h4, h5, h6⟩ := h3 i (Nat.lt_of_lt_of_le hi h1)
    obtain ⟨x0, x1, x2, x3, rfl, f', g0, g1, g2, g3⟩ := rdS_hindcastlaw03_Op h6
    obtain ⟨n0, e0, i0⟩ := rdC_i64 Try.underlying3 g0
    obtain ⟨n1, e1, i1⟩ := rdC_i64 Try.underlying3 g1
    obtain ⟨n2, e2, i2⟩ := rdC_i64 Try.underlying3 g2
    obtain ⟨z, bs, rfl, hrb, hcap⟩ := rdC_bytes Try.underlying49 Try.underlying5 c5 g3
    simp only [List.cons.injEq, and_true] at e0 e1 e2
    subst e0 e1 e2
    rw [b5, Nat.mul_one] at hcap
    exact ⟨n0, n1, n2, z, bs, h5, i2, hrb, by have := hrb.len; have := hrb.cap; have := reach_47; omega⟩
theorem w_StorePlays {H : Heap} (v0 v1 v2 : Value) (r0 : RdV Try.prog H 49 v0) (r1 : RdV Try.prog H 49 v1) (r2 : RdV Try.prog H 66 v2) :
    CallT Try.prog 8 [v0, v1, v2] (.one (.c .bool)) H (fun b H' => b = true ∧ Ext H H') := by
  have c5 : Try.prog.cellsOf 5 = 1 := by kernel_rfl
  have b5 : Try.prog.bytesOf 5 = 1 := by kernel_rfl
  obtain ⟨x, bs, rfl, hx, hxc⟩ := rd_bytes Try.underlying49 Try.underlying5 c5 r0
  obtain ⟨y, cs, rfl, hy, hyc⟩ := rd_bytes Try.underlying49 Try.underlying5 c5 r1
  obtain ⟨s, rfl, hs⟩ := rd_ops r2
  rw [b5, Nat.mul_one] at hxc hyc
  have := reach_47
  exact s_StorePlays hx (by have := hx.len; have := hx.cap; omega) hy (by have := hy.len; have := hy.cap; omega) hs fun H' h => ⟨rfl, h⟩
end Go.Proofs.Ytpkpebgpiakbeaa
