/-
  Machine: the inputs, from the last.
-/
import Derived.RangeFuncBox
import Derived.RangeFuncLeaves
import Derived.Shelf.Abstract
import Derived.WalkKit
import Derived.OwnWalkIn
import Derived.TacticsInMore
import Derived.LoopNIn
import Derived.LoopIn
import Derived.Test.YtfpmgpblhhcpgaaGreatProg
import Derived.RangeFuncNested
import Derived.Test.YtfpmgpblhhcpgaaGreatHcLists
import Derived.Test.YtfpmgpblhhcpgaaGreatVLawA
namespace Go.Proofs.YtfpmgpblhhcpgaaGreat
set_option linter.unusedVariables false
set_option linter.unusedSimpArgs false
set_option maxRecDepth 100000
section
open Go.RowKit Go.Shelf
attribute [local go_sem] Oper.semAt_some
abbrev InX := Int × Int × Int
abbrev inAgg (x : InX) : Value := .agg #[.int .i64 x.1, .int .i64 x.2.1, .int .i64 x.2.2]
def elX (zs : List InX) (j : Nat) : InX := zs[j]?.getD (0, 0, 0)
def backTo (zs : List InX) (k : Nat) : List (Int × InX) := (List.range k).map fun (j : Nat) => ((zs.length : Int) - 1 - j, elX zs (zs.length - 1 - j))
theorem backTo_succ (zs : List InX) (k : Nat) : backTo zs (k + 1) = backTo zs k ++ [((zs.length : Int) - 1 - k, elX zs (zs.length - 1 - k))] := by simp [backTo, List.range_succ]
theorem backTo_length (zs : List InX) (k : Nat) : (backTo zs k).length = k := by simp [backTo]
set_option maxHeartbeats 2000000 in
theorem back1_in (F : Fence) (n : Nat) (h8 : F.fn 191) (hro : F.round = none) (hn : 1 ≤ n) (l Bs n₀ b off cap : Nat) (zs : List InX) (hreach : zs.length * 24 ≤ 140737488351232) (hb : b < n₀) (hBn : Bs < n₀) (J Jx : List (Int × InX) → World → Prop)
    (hY : ∀ pre x W, J pre W → pre.length < zs.length → YieldAt F (n - 1) Tryz.prog l #[.int .i64 x.1, inAgg x.2] W fun e W' =>
      (e = .returned (.bool true) ∧ J (pre ++ [x]) W' ∧ Below n₀ W W') ∨ (e = .returned (.bool false) ∧ Jx (pre ++ [x]) W'))
    (W : World) (hBs : W.cell? ⟨Bs, 0, none⟩ = some (.slice (some ⟨b, off, none⟩) zs.length cap))
    (hc : ∀ j, j < zs.length → W.cell? ⟨b, off + j * 3, none⟩ = some (.int .i64 (elX zs j).1) ∧ W.cell? ⟨b, off + j * 3 + 1, none⟩ = some (.int .i64 (elX zs j).2.1) ∧ W.cell? ⟨b, off + j * 3 + 2, none⟩ = some (.int .i64 (elX zs j).2.2)) (h0 : J [] W) :
    CallsIn F n Tryz.prog 191 #[.func (.yield l) #[] #[], .pointer (some ⟨Bs, 0, none⟩)] W fun e W' => (∃ v, e = .returned v) ∧
      ((∃ ys, ys = backTo zs zs.length ∧ J ys W') ∨ (∃ pre, (∃ k, k ≤ zs.length ∧ pre = backTo zs k) ∧ Jx pre W')) := by
  refine callsIn_of_wp Tryz.func191 rfl h8 ?_ hro
  simp only [Tryz.ntmps191, List.size_toArray, List.length_cons, List.length_nil, Nat.reduceAdd, Nat.reduceSub, Array.replicate_succ, Array.replicate_zero, List.push_toArray, List.append_toArray, List.nil_append, List.cons_append]
  gi_wp2
  gi_loopw [3] (fun i wr => ∃ k : Nat, k ≤ zs.length ∧ i = .int .i64 ((zs.length : Int) - 1 - k) ∧ J (backTo zs k) wr ∧ Below n₀ W wr)
    (fun i _ => (intOf i + 1).toNat)
  case atStart => exact ⟨0, Nat.zero_le _, by simp, h0, Below.refl _ _⟩
  case round =>
    obtain ⟨k, hk, rfl, hJs, hnx⟩ := hrel
    by_cases hlt : k < zs.length
    · obtain ⟨fn, tmps, assign, body, hy, hR⟩ := hY _ ((zs.length : Int) - 1 - k, elX zs (zs.length - 1 - k)) wr hJs (by rw [backTo_length]; exact hlt)
      obtain ⟨c0, c1, c2⟩ := hc (zs.length - 1 - k) (by omega)
      have d0 := (hnx.cell (p := ⟨b, off + (zs.length - 1 - k) * 3, none⟩) hb).trans c0
      have d1 := (hnx.cell (p := ⟨b, off + (zs.length - 1 - k) * 3 + 1, none⟩) hb).trans c1
      have d2 := (hnx.cell (p := ⟨b, off + (zs.length - 1 - k) * 3 + 2, none⟩) hb).trans c2
      dsimp only [inAgg] at hy
      have hbs := (hnx.cell (p := ⟨Bs, 0, none⟩) hBn).trans hBs
      have hge : (0 : Int) ≤ (zs.length : Int) - 1 - k := by omega
      gi_wp2
      refine hR.mono ?_
      rintro e W3 (⟨rfl, hJ3, hk3⟩ | ⟨rfl, hJx3⟩)
      · gi_wp2
        go_roundw
        case rel => exact ⟨k + 1, by omega, by simp; omega, by rw [backTo_succ]; exact hJ3, hnx.trans hk3⟩
        case measure => simp [intOf]; omega
      · gi_wp2
        refine bodyPost_ret (results_none rfl _ _ _) rfl ?_
        exact ⟨⟨_, rfl⟩, .inr ⟨_, ⟨k + 1, by omega, (backTo_succ _ _).symm⟩, hJx3⟩⟩
    · obtain rfl : k = zs.length := by omega
      gi_wp2
      go_end0
      exact ⟨⟨_, rfl⟩, .inl ⟨_, rfl, hJs⟩⟩
set_option maxHeartbeats 1000000 in
theorem back1_nil_in (F : Fence) (n : Nat) (h8 : F.fn 191) (hro : F.round = none) (l Bs : Nat) (J : List (Int × InX) → World → Prop) (W : World) (hBs : W.cell? ⟨Bs, 0, none⟩ = some (.slice none 0 0)) (h0 : J [] W) :
    CallsIn F n Tryz.prog 191 #[.func (.yield l) #[] #[], .pointer (some ⟨Bs, 0, none⟩)] W fun e W' => (∃ v, e = .returned v) ∧ J [] W' := by
  refine callsIn_of_wp Tryz.func191 rfl h8 ?_ hro
  simp only [Tryz.ntmps191, List.size_toArray, List.length_cons, List.length_nil, Nat.reduceAdd, Nat.reduceSub, Array.replicate_succ, Array.replicate_zero, List.push_toArray, List.append_toArray, List.nil_append, List.cons_append]
  gi_wp2
  gi_loopw [3] (fun i wr => i = .int .i64 (-1) ∧ J [] wr) (fun _ _ => 0)
  case atStart => exact ⟨rfl, h0⟩
  case round =>
    obtain ⟨rfl, hJs⟩ := hrel
    gi_wp2
    go_end0
    exact ⟨⟨_, rfl⟩, hJs⟩
set_option maxHeartbeats 1000000 in
theorem back_in (F : Fence) (n : Nat) (h5 : F.fn 162) (hro : F.round = none) (a : Option Addr) (len cap : Nat) (w : World) :
    CallsIn F n Tryz.prog 162 #[.slice a len cap] w fun e w' => e = .returned (.func (.func 191) #[] #[.pointer (some ⟨w.heap.size, 0, none⟩)]) ∧ w' = w.alloc (.cells #[.slice a len cap] 26) := by
  refine callsIn_of_wp Tryz.func162 rfl h5 ?_ hro
  simp only [Tryz.ntmps162, List.size_toArray, List.length_cons, List.length_nil, Nat.reduceAdd, Nat.reduceSub, Array.replicate_succ, Array.replicate_zero, List.push_toArray, List.append_toArray, List.nil_append, List.cons_append]
  gi_wp2
  go_ret
  exact ⟨rfl, rfl⟩
def InsAt (n₀ : Nat) (W : World) (sv : Value) (zs : List InX) : Prop :=
  (sv = .slice none 0 0 ∧ zs = []) ∨ ∃ b off cap, sv = .slice (some ⟨b, off, none⟩) zs.length cap ∧ b < n₀ ∧ ∀ j, j < zs.length → W.cell? ⟨b, off + j * 3, none⟩ = some (.int .i64 (elX zs j).1) ∧ W.cell? ⟨b, off + j * 3 + 1, none⟩ = some (.int .i64 (elX zs j).2.1) ∧ W.cell? ⟨b, off + j * 3 + 2, none⟩ = some (.int .i64 (elX zs j).2.2)
theorem InsAt.below {n₀ : Nat} {A B : World} (h : Below n₀ A B) {sv : Value} {zs : List InX} : InsAt n₀ A sv zs → InsAt n₀ B sv zs
  | .inl e => .inl e
  | .inr ⟨b, off, cap, e, hb, hc⟩ => .inr ⟨b, off, cap, e, hb, fun j hj => by
    obtain ⟨c0, c1, c2⟩ := hc j hj
    exact ⟨(h.cell (p := ⟨b, off + j * 3, none⟩) hb).trans c0, (h.cell (p := ⟨b, off + j * 3 + 1, none⟩) hb).trans c1, (h.cell (p := ⟨b, off + j * 3 + 2, none⟩) hb).trans c2⟩⟩
theorem back_stops (F : Fence) (n : Nat) (h8 : F.fn 191) (hro : F.round = none) (hn : 1 ≤ n) (Bs n₀ : Nat) (sv : Value) (zs : List InX) (hreach : zs.length * 24 ≤ 140737488351232) (w : World) (hBs : Bs < n₀) (hn₀ : n₀ ≤ w.heap.size)
    (hc : w.cell? ⟨Bs, 0, none⟩ = some sv) (hI : InsAt n₀ w sv zs) :
    SeqStopsK F n Tryz.prog 191 #[.pointer (some ⟨Bs, 0, none⟩)] (fun x : Int × InX => #[Value.int .i64 x.1, inAgg x.2]) (Below n₀) (fun ys => ys = backTo zs zs.length) (fun pre => ∃ k, k ≤ zs.length ∧ pre = backTo zs k) zs.length w := fun l J Jx W hW _ _ hY h0 => by
  have hc' := (hW.cell (p := ⟨Bs, 0, none⟩) (Nat.lt_of_lt_of_le hBs hn₀)).trans hc
  rcases hI.below (hW.mono hn₀) with ⟨rfl, rfl⟩ | ⟨b, off, cap, rfl, hb, hcs⟩
  · exact (back1_nil_in F n h8 hro l Bs J W hc' h0).mono fun e W' ⟨he, hj⟩ => ⟨he, .inl ⟨_, rfl, hj⟩⟩
  · refine (back1_in F n h8 hro hn l Bs n₀ b off cap zs hreach hb hBs J Jx hY W hc' hcs h0).mono ?_
    rintro e W' ⟨he, ⟨ys, rfl, hj⟩ | ⟨pre, ⟨k, hk, rfl⟩, hj⟩⟩
    · exact ⟨he, .inl ⟨_, rfl, hj⟩⟩
    · exact ⟨he, .inr ⟨_, ⟨k, hk, rfl⟩, hj⟩⟩
end
section
open Go.RowKit Go.Shelf
attribute [local go_sem] Oper.semAt_some
def hit (p q : Int) (x : Int × InX) : Prop := x.2.1 = p ∧ x.2.2.1 = q
set_option maxHeartbeats 2000000 in
theorem input_in (F : Fence) (n : Nat) (h1 : 5 ≤ n) (h119 : F.fn 119) (h162 : F.fn 162) (h191 : F.fn 191) (hro : F.round = none) (b : Nat) (sv : Value) (p q : Int) (zs : List InX) (hreach : zs.length * 24 ≤ 140737488351232) (w : World)
    (hbw : b < w.heap.size) (hsl : ∃ a l c, sv = .slice a l c) (hc : w.cell? ⟨b, 14, none⟩ = some sv) (hI : InsAt w.heap.size w sv zs) :
    CallsIn F n Tryz.prog 119 #[.pointer (some ⟨b, 0, none⟩), .int .i64 p, .int .i64 q] w fun e W' => Below w.heap.size w W' ∧ ((e = .returned (.int .i64 0) ∧ ∀ x ∈ backTo zs zs.length, ¬ hit p q x) ∨ ∃ pre x k, k ≤ zs.length ∧ backTo zs k = pre ++ [x] ∧ (∀ y ∈ pre, ¬ hit p q y) ∧ hit p q x ∧ e = .returned (.int .i64 x.2.2.2)) := by
  obtain ⟨sa, sl, sc, rfl⟩ := hsl
  refine callsIn_of_wp_marks Tryz.func119 rfl h119 ?_ hro
  simp only [Tryz.ntmps119, List.size_toArray, List.length_cons, List.length_nil, Nat.reduceAdd, Nat.reduceSub, Array.replicate_succ, Array.replicate_zero, List.push_toArray, List.append_toArray, List.nil_append, List.cons_append]
  have hc3 : (((w.alloc (.cells #[.int .i64 p] 2)).alloc (.cells #[.int .i64 q] 2)).alloc (.cells #[.int .i64 0] 2)).cell? ⟨b, 14, none⟩ = some (.slice sa sl sc) :=
    (((((Below.refl w.heap.size w).alloc (Nat.le_refl _) _).alloc (by simp) _).alloc (by simp; omega) _).cell (p := ⟨b, 14, none⟩) hbw).trans hc
  gi_wp2
  refine ⟨fun _ => by omega, (back_in F (n - 1) h162 hro _ _ _ _).mono ?_⟩
  rintro e w' ⟨rfl, rfl⟩
  gi_wp2
  have hB0 : Below w.heap.size w ((((w.alloc (.cells #[.int .i64 p] 2)).alloc (.cells #[.int .i64 q] 2)).alloc (.cells #[.int .i64 0] 2)).alloc (.cells #[.slice sa sl sc] 26)) :=
    ((((Below.refl w.heap.size w).alloc (Nat.le_refl _) _).alloc (by simp) _).alloc (by simp; omega) _).alloc (by simp; omega) _
  obtain ⟨W0, hW0⟩ : ∃ W0, ((((w.alloc (.cells #[.int .i64 p] 2)).alloc (.cells #[.int .i64 q] 2)).alloc (.cells #[.int .i64 0] 2)).alloc (.cells #[.slice sa sl sc] 26)) = W0 := ⟨_, rfl⟩
  have bP : Boxed W0 w.heap.size 2 (.int .i64 p) := by rw [← hW0]; exact (((Boxed.new w 2 (.int .i64 p)).alloc _).alloc _).alloc _
  have bQ : Boxed W0 (w.heap.size + 1) 2 (.int .i64 q) := by rw [← hW0]; have := Boxed.new (w.alloc (.cells #[.int .i64 p] 2)) 2 (.int .i64 q); simp at this; exact (this.alloc _).alloc _
  have bR : Boxed W0 (w.heap.size + 1 + 1) 2 (.int .i64 0) := by rw [← hW0]; have := Boxed.new ((w.alloc (.cells #[.int .i64 p] 2)).alloc (.cells #[.int .i64 q] 2)) 2 (.int .i64 0); simp at this; exact this.alloc _
  have bS : Boxed W0 (w.heap.size + 1 + 1 + 1) 26 (.slice sa sl sc) := by rw [← hW0]; have := Boxed.new (((w.alloc (.cells #[.int .i64 p] 2)).alloc (.cells #[.int .i64 q] 2)).alloc (.cells #[.int .i64 0] 2)) 26 (.slice sa sl sc); simp at this; exact this
  rw [hW0] at hB0 ⊢
  have hsz : W0.heap.size = w.heap.size + 1 + 1 + 1 + 1 := by rw [← hW0]; simp
  have hI0 : InsAt W0.heap.size W0 (.slice sa sl sc) zs := by
    have := hI.below hB0
    rcases this with h | ⟨b, off, cap, e, hb, hcc⟩
    · exact .inl h
    · exact .inr ⟨b, off, cap, e, by omega, hcc⟩
  refine wpIn_rangeFunc_ownH hro (by omega) (gf := 191) (lb := #[.pointer (some ⟨w.heap.size + 1 + 1 + 1, 0, none⟩)]) rfl h191 (enters_of Tryz.func191 (by kernel_rfl) rfl)
    (back_stops F (n - 1) h191 hro (by omega) (w.heap.size + 1 + 1 + 1) W0.heap.size (.slice sa sl sc) zs hreach W0 (by omega) (Nat.le_refl _) bS.cell hI0) belowK_t (belowK_b (Nat.le_refl _)) (Below.refl _ _) (fun _ => rfl)
    (fun pre W => (((Boxed W w.heap.size 2 (.int .i64 p) ∧ Boxed W (w.heap.size + 1) 2 (.int .i64 q)) ∧ Boxed W (w.heap.size + 1 + 1) 2 (.int .i64 0)) ∧ ∀ x ∈ pre, ¬ hit p q x) ∧ (Below w.heap.size w W ∧ Below W0.heap.size W0 W))
    (fun c pre W => (c = .ret ∧ ∃ pre' x, pre = pre' ++ [x] ∧ (∀ y ∈ pre', ¬ hit p q y) ∧ hit p q x ∧ Boxed W (w.heap.size + 1 + 1) 2 (.int .i64 x.2.2.2)) ∧ Below w.heap.size w W)
    ?hI ?hIx ?h0
    (fun x a' W => ∃ Bx, w.heap.size + 1 + 1 < Bx ∧ W.heap[Bx]? = some (.cells #[.int .i64 x.2.1, .int .i64 x.2.2.1, .int .i64 x.2.2.2] 57) ∧ a' = { tmps := #[.pointer (some ⟨b, 0, none⟩), .int .i64 p, .int .i64 q, undef, .pointer (some ⟨w.heap.size, 0, none⟩), .pointer (some ⟨w.heap.size + 1, 0, none⟩), .pointer (some ⟨w.heap.size + 1 + 1, 0, none⟩), undef, .pointer (some ⟨Bx, 0, none⟩), .pointer (some ⟨b, 0, none⟩), .pointer (some ⟨b, 0, none⟩), .pointer (some ⟨b, 11, none⟩), .pointer (some ⟨b, 14, none⟩), .slice sa sl sc, .func (.func 191) #[] #[.pointer (some ⟨w.heap.size + 1 + 1 + 1, 0, none⟩)], .int .i64 x.1, .agg #[.int .i64 x.2.1, .int .i64 x.2.2.1, .int .i64 x.2.2.2], undef, undef, undef, undef, undef, undef, undef, undef, undef, undef, undef, undef], defers := [] })
    ?hAx ?assign ?body ?done ?stop
  case hI =>
    exact OwnFrom.and (OwnFrom.and (OwnFrom.and (OwnFrom.and (Own.from (boxed_own _ _ _) _) (Own.from (boxed_own _ _ _) _)) (Own.from (boxed_own _ _ _) _)) (ownFrom_pure _ _)) (OwnFrom.and (ownFrom_below (Nat.le_refl _) (by omega)) (ownFrom_below (Nat.le_refl _) (Nat.le_refl _)))
  case hIx =>
    intro c
    refine OwnFrom.and ?_ (ownFrom_below (Nat.le_refl _) (by omega))
    rintro s X Y row ⟨hc, pre', x, h1, h2, h3, h4⟩ hg hr
    exact ⟨hc, pre', x, h1, h2, h3, boxed_own _ 2 (fun (_ : Unit) => Value.int .i64 x.2.2.2) () X Y row h4 hg (fun r e => (hr r e).2)⟩
  case h0 => exact ⟨⟨⟨⟨bP, bQ⟩, bR⟩, fun x hx => by cases hx⟩, hB0, Below.refl _ _⟩
  case hAx =>
    rintro x a' _ X Y row ⟨Bx, h1, h2, h3⟩ hg hr
    refine ⟨Bx, h1, ?_, h3⟩
    refine (hg.block Bx (Array.getElem?_eq_some_iff.1 h2).1 fun e => ?_).trans h2
    obtain ⟨_, o, ho, hcl⟩ := hr Bx e.symm
    rw [h2] at ho; cases ho; cases hcl
  case assign =>
    rintro l pre x W K ⟨⟨⟨⟨b1, b2⟩, b3⟩, hno⟩, hB1, hB2⟩ hK
    dsimp only [inAgg]
    gi_wp2
    refine hK _ _ ((KeepsOthers.alloc _ _).from _) ((Below.refl _ W).alloc hB2.size _) ⟨⟨⟨⟨b1.alloc _, b2.alloc _⟩, b3.alloc _⟩, hno⟩, hB1.alloc hB1.size _, hB2.alloc hB2.size _⟩ ⟨W.heap.size, b3.lt, World.alloc_heap_new W _, rfl⟩
  case body =>
    rintro l pre x a' W hl ⟨r, hr⟩ ⟨⟨⟨⟨b1, b2⟩, b3⟩, hno⟩, hB1, hB2⟩ ⟨Bx, hBx, bX, rfl⟩ hlt
    have c1 := b1.cell
    have c2 := b2.cell
    have x0 : W.cell? ⟨Bx, 0, none⟩ = some (.int .i64 x.2.1) := by simp [World.cell?, bX]
    have x1 : W.cell? ⟨Bx, 1, none⟩ = some (.int .i64 x.2.2.1) := by simp [World.cell?, bX]
    have x2 : W.cell? ⟨Bx, 2, none⟩ = some (.int .i64 x.2.2.2) := by simp [World.cell?, bX]
    have f3 := b3.frozen
    have c3 := b3.cell
    gi_wp2
    · rename_i e1 e2
      refine ⟨(KeepsOthers.setCell _ _ _).from _, ⟨rfl, pre, x, rfl, hno, ⟨e1, by simpa using e2⟩, b3.set _⟩, hB1.setCell (p := ⟨w.heap.size + 1 + 1, 0, none⟩) (by simp; omega) _⟩
    · rename_i e1 e2
      refine ⟨KeepsFrom.refl _ _, Below.refl _ _, ⟨⟨⟨b1, b2⟩, b3⟩, fun y hy => ?_⟩, hB1, hB2⟩
      rcases List.mem_append.1 hy with hy | hy
      · exact hno y hy
      · rw [List.mem_singleton.1 hy]; exact fun h => (by simpa using e2 : ¬ x.2.2.1 = q) h.2
    · rename_i e1
      refine ⟨KeepsFrom.refl _ _, Below.refl _ _, ⟨⟨⟨b1, b2⟩, b3⟩, fun y hy => ?_⟩, hB1, hB2⟩
      rcases List.mem_append.1 hy with hy | hy
      · exact hno y hy
      · rw [List.mem_singleton.1 hy]; exact fun h => e1 h.1
  case done =>
    rintro D xs W hD rfl ⟨⟨⟨⟨b1, b2⟩, b3⟩, hno⟩, hB1, hB2⟩ hK
    have c3 := b3.cell
    have f3 := b3.frozen
    gi_wp2
    have hK2 := (KeepsOthers.setCell W ⟨w.heap.size + 1 + 1, 0, none⟩ (.int .i64 0)).same D _ hK rfl
    refine ⟨by simp, .inl ⟨_, _, rfl, run_takeDeferred hK2, ?_⟩⟩
    have hc5 := cell_kept (b3.set (.int .i64 0)).cell (grownBy_putObj' _ D (.deferred none)) (fun r e => by cases e; exact ⟨_, hK2, rfl⟩)
    refine ⟨.int .i64 0, ?_, (hB1.setCell (p := ⟨w.heap.size + 1 + 1, 0, none⟩) (by simp; omega) _).trans (belowK_b (w := w) (Nat.le_refl _) _ D _ _ (by omega) hK2 rfl rfl), .inl ⟨rfl, hno⟩⟩
    simp [results, Tryz.f119, go_sem, hc5]
  case stop =>
    rintro D c pre W hD hSp ⟨⟨rfl, pre', x, hpre, hno, hhit, b3⟩, hB1⟩ hK
    have c3 := b3.cell
    gi_wp2
    refine ⟨by simp, .inl ⟨_, _, rfl, run_takeDeferred hK, ?_⟩⟩
    have hc5 := cell_kept b3.cell (grownBy_putObj' _ D (.deferred none)) (fun r e => by cases e; exact ⟨_, hK, rfl⟩)
    obtain ⟨k, hk, hkp⟩ := hSp
    refine ⟨.int .i64 x.2.2.2, ?_, hB1.trans (belowK_b (w := w) (Nat.le_refl _) W D _ _ (by omega) hK rfl rfl), .inr ⟨pre', x, k, hk, by rw [← hkp, hpre], hno, hhit, rfl⟩⟩
    simp [results, Tryz.f119, go_sem, hc5]
end
end Go.Proofs.YtfpmgpblhhcpgaaGreat
namespace Go.Proofs.YtfpmgpblhhcpgaaGreat.Hc
set_option linter.unusedVariables false
set_option linter.unusedSimpArgs false
set_option maxRecDepth 100000
def Apart (s t : Sl) : Prop := ∀ b, s.a = some (adr b) → t.a ≠ some (adr b)
theorem Apart.symm {s t : Sl} (h : Apart s t) : Apart t s := fun b h1 h2 => h b h2 h1
abbrev RFd := TypeId × Sl × List Value
structure Rec (H : Heap) (p : Nat) (T : TypeId) (fs : List RFd) (tl : List Value) : Prop where
  row : Row H p T (fs.map (fun f => slV f.2.1) ++ tl)
  vs : ∀ i (h : i < fs.length), Vec H fs[i].1 fs[i].2.1 fs[i].2.2
  ap : ∀ i j (h : i < fs.length) (h' : j < fs.length), i ≠ j → Apart fs[i].2.1 fs[j].2.1
  np : ∀ i (h : i < fs.length) b, fs[i].2.1.a = some (adr b) → b ≠ p
def RecB (p : Nat) (fs : List RFd) (b : Nat) : Prop := b = p ∨ ∃ i, ∃ h : i < fs.length, fs[i].2.1.a = some (adr b)
theorem Rec.upd {M : Nat → Prop} {H H' : Heap} {p : Nat} {T : TypeId} {fs : List RFd} {tl : List Value} (hu : Upd M H H') (h : Rec H p T fs tl) (hm : ∀ b, RecB p fs b → ¬ M b) : Rec H' p T fs tl :=
  ⟨hu.row h.row (hm p (.inl rfl)), fun i hi => (h.vs i hi).upd hu fun b hb => hm b (.inr ⟨i, hi, hb⟩), h.ap, h.np⟩
theorem Rec.ext {H H' : Heap} {p : Nat} {T : TypeId} {fs : List RFd} {tl : List Value} (hu : Ext H H') (h : Rec H p T fs tl) : Rec H' p T fs tl := h.upd hu fun _ _ h => h
theorem Rec.lt {H : Heap} {p : Nat} {T : TypeId} {fs : List RFd} {tl : List Value} (h : Rec H p T fs tl) {b : Nat} (hb : RecB p fs b) : b < H.size := by
  rcases hb with rfl | ⟨i, hi, e⟩
  · exact h.row.lt
  · exact (h.vs i hi).lt e
structure RecP (H0 H : Heap) (p : Nat) (T : TypeId) (fs : List RFd) (tl : List Value) (q : Nat) (l : Sl) (w : Value) : Prop where
  hq : q < fs.length
  row : Row H p T (fs.map (fun f => slV f.2.1) ++ tl)
  vs : ∀ i (h : i < fs.length), i ≠ q → Vec H fs[i].1 fs[i].2.1 fs[i].2.2
  vl : Vec H fs[q].1 l (fs[q].2.2 ++ [w])
  ap : ∀ i j (h : i < fs.length) (h' : j < fs.length), i ≠ j → Apart fs[i].2.1 fs[j].2.1
  np : ∀ i (h : i < fs.length) b, fs[i].2.1.a = some (adr b) → b ≠ p
  la : l.a = fs[q].2.1.a ∨ l.a = some (adr H0.size)
  lt : ∀ b, RecB p fs b → b < H0.size
  up : Upd (fun b => fs[q].2.1.a = some (adr b)) H0 H
  old : Vec H fs[q].1 fs[q].2.1 fs[q].2.2
theorem RecP.cell {H0 H : Heap} {p : Nat} {T : TypeId} {fs : List RFd} {tl : List Value} {q : Nat} {l : Sl} {w : Value} (h : RecP H0 H p T fs tl q l w) (i : Nat) : hcell H ⟨p, i, none⟩ = (fs.map (fun f => slV f.2.1) ++ tl)[i]? := h.row.cell i
theorem RecP.st {H0 H : Heap} {p : Nat} {T : TypeId} {fs : List RFd} {tl : List Value} {q : Nat} {l : Sl} {w : Value} (h : RecP H0 H p T fs tl q l w) {k : Heap → Prop}
    (hk : ∀ H', Rec H' p T (fs.set q (fs[q]'h.hq |>.1, l, (fs[q]'h.hq).2.2 ++ [w])) tl → Upd (fun b => b = p ∨ (fs[q]'h.hq).2.1.a = some (adr b)) H0 H' → k H') : St ⟨p, q, none⟩ (.slice l.a l.len l.cap) H k := by
  have hq := h.hq
  refine St_row h.row (by simp; omega) fun H' hU hs hr => hk H' ?_ ((h.up.mono fun _ _ e => .inr e).trans hU fun _ _ e => .inl e)
  have hpH : p < H0.size := h.lt p (.inl rfl)
  have lnp : ∀ b, l.a = some (adr b) → b ≠ p := fun b hb e => by
    rcases h.la with h1 | h1
    · rw [h1] at hb; exact h.np q hq b hb e
    · rw [h1] at hb; cases hb; omega
  have lap : ∀ i (hi : i < fs.length), i ≠ q → Apart fs[i].2.1 l := fun i hi hne b hb hb' => by
    rcases h.la with h1 | h1
    · rw [h1] at hb'; exact h.ap i q hi hq hne b hb hb'
    · rw [h1] at hb'; cases hb'; have := h.lt _ (.inr ⟨i, hi, hb⟩); omega
  have gn : ∀ i (hi : i < (fs.set q (fs[q].1, l, fs[q].2.2 ++ [w])).length), i ≠ q → (fs.set q (fs[q].1, l, fs[q].2.2 ++ [w]))[i] = fs[i]'(by simpa using hi) := fun i hi hne => List.getElem_set_ne (fun e => hne e.symm) _
  have ge : ∀ i (hi : i < (fs.set q (fs[q].1, l, fs[q].2.2 ++ [w])).length), i = q → (fs.set q (fs[q].1, l, fs[q].2.2 ++ [w]))[i] = (fs[q].1, l, fs[q].2.2 ++ [w]) := fun i hi e => by subst e; exact List.getElem_set_self _
  refine ⟨?_, fun i hi => ?_, fun i j hi hj hne => ?_, fun i hi b hb => ?_⟩
  · rw [List.set_append_left _ _ (by simpa using hq)] at hr
    rw [List.map_set]; exact hr
  · by_cases e : i = q
    · rw [ge i hi e]; exact h.vl.upd hU fun b hb e => lnp b hb e
    · rw [gn i hi e]; exact (h.vs i _ e).upd hU fun b hb e => h.np i _ b hb e
  · by_cases e : i = q
    · have e' : j ≠ q := fun h => hne (e.trans h.symm)
      rw [ge i hi e, gn j hj e']; exact (lap j (by simpa using hj) e').symm
    · rw [gn i hi e]
      by_cases e' : j = q
      · rw [ge j hj e']; exact lap i (by simpa using hi) e
      · rw [gn j hj e']; exact h.ap i j _ _ hne
  · by_cases e : i = q
    · rw [ge i hi e] at hb; exact lnp b hb
    · rw [gn i hi e] at hb; exact h.np i _ b hb
theorem RecP.sub {H0 H : Heap} {p : Nat} {T : TypeId} {fs : List RFd} {tl : List Value} {q : Nat} {l : Sl} {w : Value} (h : RecP H0 H p T fs tl q l w) {b : Nat} (hb : RecB p (fs.set q (fs[q]'h.hq |>.1, l, (fs[q]'h.hq).2.2 ++ [w])) b) : RecB p fs b ∨ H0.size ≤ b := by
  have hq := h.hq
  rcases hb with rfl | ⟨i, hi, hb⟩
  · exact .inl (.inl rfl)
  · by_cases e : i = q
    · subst e
      rw [List.getElem_set_self] at hb
      rcases h.la with e | e
      · rw [e] at hb; exact .inl (.inr ⟨i, hq, hb⟩)
      · rw [e] at hb; cases hb; exact .inr (Nat.le_refl _)
    · rw [List.getElem_set_ne (fun h => e h.symm)] at hb
      exact .inl (.inr ⟨i, by simpa using hi, hb⟩)
end Go.Proofs.YtfpmgpblhhcpgaaGreat.Hc
namespace Go.Proofs.YtfpmgpblhhcpgaaGreat.Hc.Vf
set_option linter.unusedVariables false
set_option linter.unusedSimpArgs false
set_option maxRecDepth 100000
section
abbrev Ins := Int × Int
def tbl : List (Int × Int × Nat) :=
  [(0, 0, 0), (0, 1, 0), (0, 1, 0), (1, 0, 0), (0, 1, 0), (1, 0, 0), (2, 1, 0), (2, 1, 0), (2, 1, 0), (2, 1, 0), (2, 1, 0), (1, 1, 0), (2, 1, 0), (2, 1, 0), (2, 1, 0), (2, 1, 0), (2, 1, 0), (2, 1, 0), (1, 1, 0),
   (0, 0, 0), (1, 0, 0), (0, 1, 1), (1, 0, 0), (0, 0, 0), (0, 0, 0), (2, 0, 0), (0, 0, 2), (0, 0, 0), (0, 0, 2), (0, 0, 0), (0, 0, 0), (1, 1, 0), (0, 1, 0), (0, 1, 0), (2, 1, 0), (0, 1, 0), (2, 1, 0), (2, 1, 0), (1, 1, 0), (1, 0, 0)]
theorem tbl_len : tbl.length = 40 := rfl
theorem tbl_bd : ∀ r ∈ tbl, 0 ≤ r.1 ∧ r.1 ≤ 2 ∧ 0 ≤ r.2.1 ∧ r.2.1 ≤ 1 := by decide
def isOpB (op : Int) : Bool := decide (1 ≤ op ∧ op ≤ 39)
def takes (ps : List Int) (i : Ins) : Int :=
  if isOpB i.1 then
    (if (tbl[i.1.toNat]!).2.2 = 1 then (if 0 ≤ i.2 ∧ i.2 < ps.length then max (ps[i.2.toNat]!) 0 else 0)
     else if (tbl[i.1.toNat]!).2.2 = 2 then (if 0 ≤ i.2 then i.2 % 8 else 0)
     else (tbl[i.1.toNat]!).1) else 0
def puts (i : Ins) : Int := if isOpB i.1 then (tbl[i.1.toNat]!).2.1 else 0
theorem tbl_get {op : Int} (h : isOpB op = true) : tbl[op.toNat]! ∈ tbl := by
  unfold isOpB at h
  have := of_decide_eq_true h
  rw [getElem!_pos tbl op.toNat (by rw [tbl_len]; omega)]
  exact List.getElem_mem _
theorem takes_bd (ps : List Int) (i : Ins) : 0 ≤ takes ps i := by
  unfold takes
  split
  · rename_i h
    have := tbl_bd _ (tbl_get h)
    repeat' split
    all_goals omega
  · exact Int.le_refl _
theorem puts_bd (i : Ins) : 0 ≤ puts i ∧ puts i ≤ 1 := by
  unfold puts
  split
  · rename_i h
    have := tbl_bd _ (tbl_get h)
    omega
  · omega
def nexts (c : List Ins) (at' : Nat) : List Int :=
  let i := c[at']!
  if i.1 = 22 ∨ i.1 = 23 then [] else if i.1 = 19 then [i.2] else if i.1 = 20 then [i.2, (at' : Int) + 1] else [(at' : Int) + 1]
def fits (ps : List Int) (i : Ins) (d : Nat) : Prop := takes ps i ≤ d ∧ (d : Int) - takes ps i + puts i ≤ 64
instance (ps : List Int) (i : Ins) (d : Nat) : Decidable (fits ps i d) := by unfold fits; infer_instance
def behind (ps : List Int) (i : Ins) (d : Nat) : Nat := ((d : Int) - takes ps i + puts i).toNat
def Succ (c : List Ins) (ps : List Int) (i d j e : Nat) : Prop := i < c.length ∧ fits ps c[i]! d ∧ (j : Int) ∈ nexts c i ∧ j < c.length ∧ e = behind ps c[i]! d
inductive Rch (c : List Ins) (ps : List Int) : Nat → Nat → Prop where
  | zero : Rch c ps 0 0
  | step {i d j e : Nat} (h : Rch c ps i d) (s : Succ c ps i d j e) : Rch c ps j e
variable {c : List Ins} {ps : List Int}
structure Inv (c : List Ins) (ps : List Int) (V T : Nat → Nat → Prop) : Prop where
  all : ∀ i d, V i d ∨ T i d → Rch c ps i d
  start : V 0 0 ∨ T 0 0
  cl : ∀ i d j e, V i d → Succ c ps i d j e → V j e ∨ T j e
theorem Inv.go {V T V' T' : Nat → Nat → Prop} (h : Inv c ps V T) {i d : Nat} (hx : V i d ∨ T i d) (hV : ∀ j e, V' j e ↔ V j e ∨ (j = i ∧ e = d)) (hT : ∀ j e, T' j e → T j e ∨ Succ c ps i d j e) (hT1 : ∀ j e, Succ c ps i d j e → V' j e ∨ T' j e) (hT2 : ∀ j e, T j e → V' j e ∨ T' j e) : Inv c ps V' T' := by
  refine ⟨fun j e hv => ?_, ?_, fun j e k f hv hs => ?_⟩
  · rcases hv with hv | hv
    · rcases (hV j e).1 hv with hv | ⟨rfl, rfl⟩
      · exact h.all _ _ (.inl hv)
      · exact h.all _ _ hx
    · rcases hT j e hv with hv | hv
      · exact h.all _ _ (.inr hv)
      · exact .step (h.all _ _ hx) hv
  · rcases h.start with hv | hv
    · exact .inl ((hV _ _).2 (.inl hv))
    · exact hT2 _ _ hv
  · rcases (hV j e).1 hv with hv | ⟨rfl, rfl⟩
    · rcases h.cl _ _ _ _ hv hs with hv | hv
      · exact .inl ((hV _ _).2 (.inl hv))
      · exact hT2 _ _ hv
    · exact hT1 _ _ hs
def jumpBad (c : List Ins) (i : Nat) : Prop := (c[i]!.1 = 19 ∨ c[i]!.1 = 20) ∧ ¬ (0 ≤ c[i]!.2 ∧ c[i]!.2 < c.length)
def stackBad (c : List Ins) (ps : List Int) (i : Nat) : Prop := (∃ d, Rch c ps i d ∧ ¬ fits ps c[i]! d) ∨ ∃ d e, Rch c ps i d ∧ Rch c ps i e ∧ d ≠ e
def endBad (c : List Ins) (i : Nat) : Prop := (c.length : Int) ∈ nexts c i
open Classical in
noncomputable def wr (c : List Ins) (ps : List Int) (i : Nat) : Nat := if jumpBad c i then 150 else if stackBad c ps i then 151 else if endBad c i then 153 else 0
open Classical in
noncomputable def depI (c : List Ins) (ps : List Int) (i : Nat) : Int := if h : ∃ d, Rch c ps i d then (Classical.choose h : Nat) else -1
def isReached (c : List Ins) (ps : List Int) (i : Nat) : Prop := ∃ d, Rch c ps i d
open Classical in
noncomputable def depthsS (c : List Ins) (ps : List Int) : Except (Nat × Nat) (List Int) :=
  if 2000 < c.length then .error (0, 130) else if c.length = 0 then .error (0, 153) else
  match (List.range c.length).find? (fun i => decide (isReached c ps i ∧ wr c ps i ≠ 0)) with
  | some i => .error (i, wr c ps i)
  | none => .ok ((List.range c.length).map (depI c ps))
end
end Go.Proofs.YtfpmgpblhhcpgaaGreat.Hc.Vf
namespace Go.Proofs.YtfpmgpblhhcpgaaGreat.Hc.Dice
set_option linter.unusedVariables false
set_option linter.unusedSimpArgs false
set_option maxRecDepth 100000
section
open Go Hc
def stepI : Int := 11400714819323198485
def mixI (x : Int) : Int :=
  let a := IntKind.wrap .u64 (x + 11400714819323198485)
  let b := IntKind.wrap .u64 (bits .xor .u64 a (a.fdiv (2 ^ 30)) * 13787848793156543929)
  let c := IntKind.wrap .u64 (bits .xor .u64 b (b.fdiv (2 ^ 27)) * 10723151780598845931)
  bits .xor .u64 c (c.fdiv (2 ^ 31))
theorem bits_u64_bd (op : BinOp) (x y : Int) : 0 ≤ bits op .u64 x y ∧ bits op .u64 x y < 18446744073709551616 := by
  unfold bits; dsimp only; rw [wrap_u64]; omega
theorem mixI_bd (x : Int) : 0 ≤ mixI x ∧ mixI x < 18446744073709551616 := by unfold mixI; dsimp only; exact bits_u64_bd _ _ _
theorem mix_zero : mixI 7046029254386353131 = 0 := by decide +kernel
def nextS (s : Int) : Int := IntKind.wrap .u64 (s + 11400714819323198485)
def itS (s : Int) : Nat → Int
  | 0 => s
  | j + 1 => nextS (itS s j)
theorem itS_eq (s : Int) (h0 : 0 ≤ s) (h1 : s < 18446744073709551616) (j : Nat) : itS s j = (s + j * 11400714819323198485) % 18446744073709551616 := by
  induction j with
  | zero => simp [itS]; omega
  | succ j ih =>
    simp only [itS, nextS, wrap_u64]
    rw [ih]
    have : ((j + 1 : Nat) : Int) * 11400714819323198485 = (j : Int) * 11400714819323198485 + 11400714819323198485 := by
      rw [Int.natCast_add]; omega
    rw [this]
    omega
theorem some_zero (s : Int) (h0 : 0 ≤ s) (h1 : s < 18446744073709551616) : ∃ j, mixI (itS s j) = 0 := by
  refine ⟨(((7046029254386353131 - s) * 17428512612931826493) % 18446744073709551616).toNat, ?_⟩
  rw [itS_eq s h0 h1, Int.toNat_of_nonneg (by omega)]
  have : (s + (7046029254386353131 - s) * 17428512612931826493 % 18446744073709551616 * 11400714819323198485) % 18446744073709551616 = 7046029254386353131 := by omega
  rw [this]; exact mix_zero
theorem itS_bd (s : Int) (h0 : 0 ≤ s) (h1 : s < 18446744073709551616) (j : Nat) : 0 ≤ itS s j ∧ itS s j < 18446744073709551616 := by
  rw [itS_eq s h0 h1]; omega
theorem nextS_bd (s : Int) : 0 ≤ nextS s ∧ nextS s < 18446744073709551616 := by unfold nextS; rw [wrap_u64]; omega
def Falls (s m : Int) (j : Nat) : Prop := mixI (itS s j) < m ∧ ∀ i, i < j → ¬ mixI (itS s i) < m
theorem falls_ex (s m : Int) (h0 : 0 ≤ s) (h1 : s < 18446744073709551616) (hm : 0 < m) : ∃ j, Falls s m j := by
  obtain ⟨j, hj⟩ := some_zero s h0 h1
  obtain ⟨n, hn, hle⟩ := exists_least (p := fun j => mixI (itS s j) < m) ⟨j, by omega⟩
  exact ⟨n, hn, fun i hi hlt => by have := hle i hlt; omega⟩
noncomputable def fallJ (s m : Int) : Nat := Classical.epsilon (Falls s m)
theorem fallJ_spec (s m : Int) (h0 : 0 ≤ s) (h1 : s < 18446744073709551616) (hm : 0 < m) : Falls s m (fallJ s m) := Classical.epsilon_spec (falls_ex s m h0 h1 hm)
theorem Falls.unique {s m : Int} {i j : Nat} (hi : Falls s m i) (hj : Falls s m j) : i = j := by
  rcases Nat.lt_trichotomy i j with h | h | h
  · exact absurd hi.1 (hj.2 i h)
  · exact h
  · exact absurd hj.1 (hi.2 j h)
def mB (n : Int) : Int := IntKind.wrap .u64 (18446744073709551615 - (18446744073709551615 : Int).tmod n)
theorem mB_pos (n : Int) (h0 : 1 ≤ n) (h1 : n < 9223372036854775808) : 0 < mB n := by
  unfold mB
  have e : (18446744073709551615 : Int).tmod n = 18446744073709551615 % n := by rw [Int.tmod_eq_emod_of_nonneg (by decide)]
  have a := Int.emod_nonneg 18446744073709551615 (show n ≠ 0 by omega)
  have b := Int.emod_lt_of_pos 18446744073709551615 (show 0 < n by omega)
  rw [e, wrap_u64]
  omega
noncomputable def belowR (s n : Int) : Int := (mixI (itS s (fallJ s (mB n)))).tmod n
noncomputable def belowS (s n : Int) : Int := itS s (fallJ s (mB n) + 1)
theorem belowR_bd (s n : Int) (h0 : 1 ≤ n) : 0 ≤ belowR s n ∧ belowR s n < n := by
  unfold belowR
  have := mixI_bd (itS s (fallJ s (mB n)))
  rw [Int.tmod_eq_emod_of_nonneg this.1]
  exact ⟨Int.emod_nonneg _ (by omega), Int.emod_lt_of_pos _ (by omega)⟩
noncomputable def BelowF (s n : Int) : Int × Int := if n < 1 then (0, nextS s) else (belowR s n, belowS s n)
noncomputable def BetweenF (s a b : Int) : Int × Int :=
  if b < a then (a, s) else
  if b - a + 1 = 18446744073709551616 then (IntKind.wrap .i64 (mixI s), nextS s) else
  if b - a + 1 > 9223372036854775807 then (IntKind.wrap .i64 (IntKind.wrap .u64 (IntKind.wrap .u64 a + (mixI s).tmod (b - a + 1))), nextS s) else
  (a + belowR s (b - a + 1), belowS s (b - a + 1))
def newS (a b c d : Int) : Int :=
  mixI (bits .xor .u64 (mixI (bits .xor .u64 (mixI (bits .xor .u64 (mixI (IntKind.wrap .u64 a)) (IntKind.wrap .u64 b))) (IntKind.wrap .u64 c))) (IntKind.wrap .u64 d))
theorem newS_bd (a b c d : Int) : 0 ≤ newS a b c d ∧ newS a b c d < 18446744073709551616 := mixI_bd _
def newIt (a b c d : Int) : Nat → Int
  | 0 => mixI (IntKind.wrap .u64 a)
  | 1 => mixI (bits .xor .u64 (mixI (IntKind.wrap .u64 a)) (IntKind.wrap .u64 b))
  | 2 => mixI (bits .xor .u64 (mixI (bits .xor .u64 (mixI (IntKind.wrap .u64 a)) (IntKind.wrap .u64 b))) (IntKind.wrap .u64 c))
  | _ => newS a b c d
theorem BelowF_bd (s n : Int) (h0 : 0 ≤ s) (h1 : s < 18446744073709551616) : 0 ≤ (BelowF s n).2 ∧ (BelowF s n).2 < 18446744073709551616 := by
  unfold BelowF; split
  · exact nextS_bd s
  · exact itS_bd s h0 h1 _
theorem BelowF_lo (s n : Int) (hn : n < 1) : (BelowF s n).1 = 0 := by unfold BelowF; rw [if_pos hn]
theorem BelowF_in (s n : Int) (hn : 1 ≤ n) : 0 ≤ (BelowF s n).1 ∧ (BelowF s n).1 < n := by unfold BelowF; rw [if_neg (by omega)]; exact belowR_bd s n hn
def swapL (l : List Int) (i j : Nat) : List Int := (l.set i (l.getD j 0)).set j (l.getD i 0)
noncomputable def shufF : Int → Nat → List Int → List Int × Int
  | s, 0, l => (l, s)
  | s, i + 1, l => shufF (BelowF s ((i : Int) + 2)).2 i (swapL l (i + 1) (BelowF s ((i : Int) + 2)).1.toNat)
noncomputable def ShuffleF (s : Int) (n : Nat) : List Int × Int := shufF s (n - 1) (iota n)
end
end Go.Proofs.YtfpmgpblhhcpgaaGreat.Hc.Dice
namespace Go.Proofs.YtfpmgpblhhcpgaaGreat.Hc.Mc
set_option linter.unusedVariables false
set_option linter.unusedSimpArgs false
set_option maxRecDepth 100000
section
open Go Hc Hc.Vf Hc.Dice
structure Fnc where
  params : Int
  locals : Int
  code : List Ins
instance : Inhabited Fnc := ⟨⟨0, 0, []⟩⟩
structure MP where
  fns : List Fnc
  sys : Fnc
  reads : List Int
  writes : List Int
  sysN : Int
  lim : Int
def MP.ps (P : MP) : List Int := P.fns.map (·.params)
structure En where
  frame : Int
  seed : Int
  idx : Int
  gen : Int
  inputs : List (Int × Int × Int)
structure Pt where
  kind : Int
  vals : List Int
instance : Inhabited Pt := ⟨⟨0, []⟩⟩
structure Actn where
  fn : Fnc
  loc : List Int
  stk : List Int
  nx : Int
instance : Inhabited Actn := ⟨⟨default, [], [], 0⟩⟩
structure Cm where
  op : Int
  e : Int × Int
  kind : Int
  vals : List Int
  parts : List Pt
instance : Inhabited Cm := ⟨⟨0, (0, 0), 0, [], []⟩⟩
structure Ev where
  sys : Int
  e : Int × Int
  code : Int
  val : Int
instance : Inhabited Ev := ⟨⟨0, (0, 0), 0, 0⟩⟩
structure Ms where
  low : List Actn
  top : Actn
  vals : List Pt
  dice : Int
  since : Int
  steps : Int
  kept : List Pt
  cmds : List Cm
  evs : List Ev
  over : Bool
def lookV (l : List Pt) (k : Int) : Option (List Int) := (l.find? fun p => p.kind == k).map (·.vals)
def putV : List Pt → Int → Nat → Int → List Pt
  | [], _, _, _ => []
  | p :: r, k, f, x => if p.kind = k then ⟨p.kind, p.vals.set f x⟩ :: r else p :: putV r k f x
def truthI (b : Bool) : Int := if b then 1 else 0
abbrev w64 (x : Int) : Int := IntKind.wrap .i64 x
def divI (w x : Int) : Int := if x = 0 then 0 else if x = -1 then w64 (-w) else w64 (w.tdiv x)
def remI (w x : Int) : Int := if x = 0 ∨ x = -1 then 0 else w.tmod x
def binI (op : Nat) (w x : Int) : Int :=
  match op with
  | 6 => w64 (w + x)
  | 7 => w64 (w - x)
  | 8 => w64 (w * x)
  | 9 => divI w x
  | 10 => remI w x
  | 12 => truthI (decide (w = x))
  | 13 => truthI (decide (w ≠ x))
  | 14 => truthI (decide (w < x))
  | 15 => truthI (decide (w ≤ x))
  | 16 => truthI (decide (w > x))
  | 17 => truthI (decide (w ≥ x))
  | 36 => if w < x then w else x
  | _ => if w > x then w else x
def unI (op : Nat) (x : Int) : Int :=
  match op with
  | 11 => w64 (-x)
  | 18 => truthI (decide (x = 0))
  | _ => if x < 0 then w64 (-x) else x
def isBin (op : Int) : Bool := [6, 7, 8, 9, 10, 12, 13, 14, 15, 16, 17, 36, 37].contains op
def isUn (op : Int) : Bool := [11, 18, 38].contains op
def outerB (op : Int) : Bool := [4, 5, 25, 26, 27, 28, 29, 30, 35, 23].contains op
def isKindB (k : Int) : Bool := decide (1 ≤ k ∧ k ≤ 12)
def fieldOk (vals : List Pt) (a : Int) (set : List Int) : Bool :=
  decide (0 ≤ a) && (match lookV vals (a / 8) with | some v => decide (a % 8 < (v.length : Int)) | none => false) && set.contains (a / 8)
def accessM (P : MP) (m : Ms) (op : Nat) (A : Int) : Bool :=
  match op with
  | 2 => decide (0 ≤ A ∧ A < (m.top.loc.length : Int))
  | 3 => decide (0 ≤ A ∧ A < (m.top.loc.length : Int))
  | 4 => fieldOk m.vals A (P.reads ++ P.writes)
  | 5 => fieldOk m.vals A P.writes
  | 21 => decide (0 ≤ A ∧ A < (P.fns.length : Int) ∧ m.low.length + 1 ≤ 16)
  | 22 => decide (m.low ≠ [])
  | 26 => decide (0 ≤ A) && isKindB (A / 8) && decide (m.kept.length < 12)
  | 28 => decide (0 ≤ A) && isKindB (A / 8)
  | 29 => isKindB A
  | 35 => isKindB A
  | _ => true
def access (P : MP) (m : Ms) (i : Ins) : Bool := if m.low ≠ [] ∧ outerB i.1 = true then false else accessM P m i.1.toNat i.2
theorem accessM_other {P : MP} {m : Ms} {n : Nat} {A : Int} (h : n ≠ 2 ∧ n ≠ 3 ∧ n ≠ 4 ∧ n ≠ 5 ∧ n ≠ 21 ∧ n ≠ 22 ∧ n ≠ 26 ∧ n ≠ 28 ∧ n ≠ 29 ∧ n ≠ 35) : accessM P m n A = true := by
  unfold accessM
  split <;> first | rfl | omega
def room (m : Ms) (op : Int) : Bool :=
  if op = 27 ∨ op = 28 ∨ op = 29 ∨ op = 30 then decide (m.cmds.length < 16) else if op = 25 then decide (m.evs.length < 16) else true
def locals (f : Fnc) (l : List Int) : List Int := l ++ List.replicate ((min (max f.locals 0) 32).toNat - l.length) 0
def inp (l : List (Int × Int × Int)) (p k : Int) : Int := ((l.reverse.find? fun x => x.1 == p && x.2.1 == k).map (·.2.2)).getD 0
def rise (l : List Pt) : List Pt := (List.range 13).flatMap fun (k : Nat) => l.filter fun p => p.kind == (k : Int)
def goal (P : MP) (f : Fnc) (a : Int) : Int := if 0 ≤ a ∧ a < (f.code.length : Int) ∧ a ≤ P.lim then a else -1
def Ms.push (m : Ms) (x : Int) : Ms := { m with top := { m.top with stk := m.top.stk ++ [x] } }
def args (m : Ms) (t : Nat) : List Int := m.top.stk.drop (m.top.stk.length - t)
def cut (m : Ms) (t : Nat) : Ms := { m with top := { m.top with stk := m.top.stk.take (m.top.stk.length - t), nx := m.top.nx + 1 }, since := m.since + 1 }
noncomputable def act (P : MP) (E : En) (m m1 : Ms) (l : List Int) (op : Nat) (A : Int) : Int × Ms :=
  match op with
  | 1 => (0, m1.push A)
  | 2 => (0, m1.push m.top.loc[A.toNat]!)
  | 3 => (0, { m1 with top := { m1.top with loc := m.top.loc.set A.toNat l[0]! } })
  | 4 => (0, m1.push ((lookV m.vals (A / 8)).getD [])[(A % 8).toNat]!)
  | 5 => (0, { m1 with vals := putV m.vals (A / 8) (A % 8).toNat l[0]! })
  | 19 => (0, { m1 with top := { m1.top with nx := goal P m.top.fn A } })
  | 20 => (0, if l[0]! = 0 then { m1 with top := { m1.top with nx := goal P m.top.fn A } } else m1)
  | 21 => if m.steps + 1 ≤ 2000 then
      (0, { m1 with low := m.low ++ [m1.top], top := ⟨P.fns[A.toNat]!, locals P.fns[A.toNat]! l, [], 0⟩, steps := m.steps + 1, since := 0 })
      else (120, { m1 with steps := m.steps + 1 })
  | 22 => (0, { m1 with low := m.low.dropLast, top := { m.low.getLast! with stk := m.low.getLast!.stk ++ [l[0]!] } })
  | 23 => (0, { m1 with over := true })
  | 24 => if m.steps + 1 ≤ 2000 then (0, { m1 with steps := m.steps + 1, since := 0 }) else (120, { m1 with steps := m.steps + 1 })
  | 25 => (0, { m1 with evs := m.evs ++ [⟨P.sysN, (E.idx, E.gen), l[0]!, l[1]!⟩] })
  | 26 => (0, { m1 with kept := m.kept ++ [⟨A / 8, l⟩] })
  | 27 => (0, { m1 with cmds := m.cmds ++ [⟨1, (0, 0), 0, [], rise m.kept⟩], kept := [] })
  | 28 => (0, { m1 with cmds := m.cmds ++ [⟨3, (E.idx, E.gen), A / 8, l, []⟩] })
  | 29 => (0, { m1 with cmds := m.cmds ++ [⟨4, (E.idx, E.gen), A, [], []⟩] })
  | 30 => (0, { m1 with cmds := m.cmds ++ [⟨2, (E.idx, E.gen), 0, [], []⟩] })
  | 31 => (0, { m1.push (BelowF m.dice l[0]!).1 with dice := (BelowF m.dice l[0]!).2 })
  | 32 => (0, m1.push E.frame)
  | 33 => (0, m1.push E.idx)
  | 34 => (0, m1.push (inp E.inputs l[0]! l[1]!))
  | 35 => (0, m1.push (truthI (lookV m.vals A).isSome))
  | _ => (0, m1)
noncomputable def does (P : MP) (E : En) (m : Ms) (i : Ins) : Int × Ms :=
  let l := args m (takes P.ps i).toNat
  let m1 := cut m (takes P.ps i).toNat
  if isBin i.1 then (0, m1.push (binI i.1.toNat l[0]! l[1]!))
  else if isUn i.1 then (0, m1.push (unI i.1.toNat l[0]!))
  else act P E m m1 l i.1.toNat i.2
def ready (P : MP) (m : Ms) : Int :=
  if ¬ (0 ≤ m.top.nx ∧ m.top.nx < (m.top.fn.code.length : Int)) then 150
  else if m.since ≥ 40000 then 153
  else if isOpB (m.top.fn.code[m.top.nx.toNat]!).1 = false then 152
  else if (m.top.stk.length : Int) < takes P.ps m.top.fn.code[m.top.nx.toNat]! ∨ (m.top.stk.length : Int) - takes P.ps m.top.fn.code[m.top.nx.toNat]! + puts m.top.fn.code[m.top.nx.toNat]! > 64 then 151
  else if access P m m.top.fn.code[m.top.nx.toNat]! = false then 152
  else if room m (m.top.fn.code[m.top.nx.toNat]!).1 = false then 102
  else 0
noncomputable def stepM (P : MP) (E : En) (m : Ms) : Int × Ms :=
  if ready P m = 0 then does P E m m.top.fn.code[m.top.nx.toNat]! else (ready P m, m)
def initM (P : MP) (E : En) (parts : List Pt) : Ms :=
  { low := [], top := ⟨P.sys, locals P.sys [], [], 0⟩, vals := parts, dice := newS E.seed E.frame P.sysN E.idx, since := 0, steps := 0, kept := [], cmds := [], evs := [], over := false }
inductive Runs (P : MP) (E : En) : Ms → Nat → Int → Ms → Prop where
  | over {m : Ms} (h : m.over = true) : Runs P E m 0 0 m
  | bad {m : Ms} (h : m.over = false) (he : (stepM P E m).1 ≠ 0) : Runs P E m 1 (stepM P E m).1 (stepM P E m).2
  | step {m m' : Ms} {n : Nat} {e : Int} (h : m.over = false) (he : (stepM P E m).1 = 0) (hr : Runs P E (stepM P E m).2 n e m') : Runs P E m (n + 1) e m'
theorem Runs.unique {P : MP} {E : En} {m m1 : Ms} {n1 : Nat} {e1 : Int} (h : Runs P E m n1 e1 m1) : ∀ {n2 : Nat} {e2 : Int} {m2 : Ms}, Runs P E m n2 e2 m2 → n1 = n2 ∧ e1 = e2 ∧ m1 = m2 := by
  induction h with
  | over h => intro n2 e2 m2 h2; cases h2 with
    | over => exact ⟨rfl, rfl, rfl⟩
    | bad h' => rw [h] at h'; cases h'
    | step h' => rw [h] at h'; cases h'
  | bad h he => intro n2 e2 m2 h2; cases h2 with
    | over h' => rw [h] at h'; cases h'
    | bad => exact ⟨rfl, rfl, rfl⟩
    | step _ he' => exact absurd he' he
  | step h he _ ih => intro n2 e2 m2 h2; cases h2 with
    | over h' => rw [h] at h'; cases h'
    | bad _ he' => exact absurd he he'
    | step _ _ hr => obtain ⟨a, b, c⟩ := ih hr; exact ⟨by omega, b, c⟩
def All64 (l : List Int) : Prop := ∀ x ∈ l, I64 x
structure FnOk (f : Fnc) : Prop where
  loc : I64 f.locals
  par : I64 f.params
  code : ∀ i ∈ f.code, I64 i.1 ∧ I64 i.2
  len : f.code.length ≤ 2 ^ 60
structure POk (P : MP) : Prop where
  fns : ∀ f ∈ P.fns, FnOk f
  sys : FnOk P.sys
structure EOk (E : En) : Prop where
  frame : I64 E.frame
  idx : I64 E.idx
  inputs : ∀ x ∈ E.inputs, I64 x.2.2
structure AOk (P : MP) (a : Actn) : Prop where
  fn : a.fn = P.sys ∨ a.fn ∈ P.fns
  stk : a.stk.length ≤ 64
  stk64 : All64 a.stk
  loc : a.loc.length ≤ 64
  loc64 : All64 a.loc
  nx : -1 ≤ a.nx ∧ a.nx ≤ a.fn.code.length
structure MOk (P : MP) (m : Ms) : Prop where
  low : ∀ a ∈ m.low, AOk P a ∧ a.stk.length ≤ 63
  top : AOk P m.top
  lowl : m.low.length ≤ 16
  vals : ∀ p ∈ m.vals, All64 p.vals
  dice : 0 ≤ m.dice ∧ m.dice < 18446744073709551616
  since : 0 ≤ m.since ∧ m.since ≤ 40000
  steps : 0 ≤ m.steps ∧ m.steps ≤ 2000
  kept : m.kept.length ≤ 12
  keptK : ∀ p ∈ m.kept, 1 ≤ p.kind ∧ p.kind ≤ 12
  cmds : m.cmds.length ≤ 16
  evs : m.evs.length ≤ 16
theorem w64_bd (x : Int) : I64 (w64 x) := by unfold I64 w64; rw [wrap_i64]; omega
theorem truthI_bd (b : Bool) : I64 (truthI b) := by cases b <;> exact ⟨by decide, by decide⟩
theorem divI_bd (w x : Int) : I64 (divI w x) := by
  unfold divI
  split
  · exact ⟨by decide, by decide⟩
  · split <;> exact w64_bd _
theorem remI_bd {w x : Int} (hx : I64 x) : I64 (remI w x) := by
  unfold remI
  split
  · exact ⟨by decide, by decide⟩
  · rename_i h
    have h1 : x ≠ 0 := fun e => h (.inl e)
    have h2 := Int.natAbs_tmod w x
    have := Nat.mod_lt w.natAbs (show 0 < x.natAbs by omega)
    rw [← h2] at this
    unfold I64 at *
    omega
theorem binI_bd {op : Nat} {w x : Int} (hw : I64 w) (hx : I64 x) : I64 (binI op w x) := by
  unfold binI
  split
  · exact w64_bd _
  · exact w64_bd _
  · exact w64_bd _
  · exact divI_bd _ _
  · exact remI_bd hx
  · exact truthI_bd _
  · exact truthI_bd _
  · exact truthI_bd _
  · exact truthI_bd _
  · exact truthI_bd _
  · exact truthI_bd _
  · split <;> assumption
  · split <;> assumption
theorem unI_bd {op : Nat} {x : Int} (hx : I64 x) : I64 (unI op x) := by
  unfold unI
  split
  · exact w64_bd _
  · exact truthI_bd _
  · split
    · exact w64_bd _
    · exact hx
theorem all_get {l : List Int} (h : All64 l) (i : Nat) : I64 l[i]! := by
  by_cases hi : i < l.length
  · rw [getElem!_pos l i hi]; exact h _ (List.getElem_mem hi)
  · rw [getElem!_neg l i hi]; exact ⟨by decide, by decide⟩
theorem all_set {l : List Int} (h : All64 l) {x : Int} (hx : I64 x) (i : Nat) : All64 (l.set i x) := fun y hy => by
  rcases List.mem_or_eq_of_mem_set hy with h1 | rfl
  · exact h _ h1
  · exact hx
theorem all_app {l l' : List Int} (h : All64 l) (h' : All64 l') : All64 (l ++ l') := fun y hy => (List.mem_append.1 hy).elim (h y) (h' y)
theorem all_take {l : List Int} (h : All64 l) (n : Nat) : All64 (l.take n) := fun y hy => h y (List.mem_of_mem_take hy)
theorem all_drop {l : List Int} (h : All64 l) (n : Nat) : All64 (l.drop n) := fun y hy => h y (List.mem_of_mem_drop hy)
theorem all_one {x : Int} (h : I64 x) : All64 [x] := fun y hy => by rw [List.mem_singleton.1 hy]; exact h
theorem lookV_all {l : List Pt} (h : ∀ p ∈ l, All64 p.vals) {k : Int} {v : List Int} (hv : lookV l k = some v) : All64 v := by
  unfold lookV at hv
  cases hf : l.find? fun p => p.kind == k with
  | none => rw [hf] at hv; cases hv
  | some p => rw [hf] at hv; cases hv; exact h _ (List.mem_of_find?_eq_some hf)
theorem putV_all {x : Int} (hx : I64 x) {k : Int} {f : Nat} : ∀ {l : List Pt}, (∀ p ∈ l, All64 p.vals) → ∀ p ∈ putV l k f x, All64 p.vals
  | [], _, p, hp => by cases hp
  | q :: r, h, p, hp => by
    unfold putV at hp
    split at hp
    · rcases List.mem_cons.1 hp with rfl | hp
      · exact all_set (h q (by simp)) hx _
      · exact h p (by simp [hp])
    · rcases List.mem_cons.1 hp with rfl | hp
      · exact h p (by simp)
      · exact putV_all hx (fun p hp => h p (by simp [hp])) p hp
theorem MOk.pushM {P : MP} {m : Ms} (h : MOk P m) (hs : m.top.stk.length ≤ 63) {x : Int} (hx : I64 x) : MOk P (m.push x) :=
  { h with top := { h.top with stk := by simp only [Ms.push, List.length_append, List.length_singleton]; omega, stk64 := all_app h.top.stk64 (all_one hx) } }
theorem MOk.cut {P : MP} {m : Ms} (h : MOk P m) {t : Nat} (hn : m.top.nx < m.top.fn.code.length) (hs : m.since < 40000) : MOk P (cut m t) :=
  { h with
    top := { h.top with stk := by have := h.top.stk; simp only [Mc.cut, List.length_take]; omega, stk64 := all_take h.top.stk64 _, nx := by have := h.top.nx; dsimp only [Mc.cut]; omega }
    since := by have := h.since; dsimp only [Mc.cut]; omega }
theorem locals_len (f : Fnc) (l : List Int) (h : l.length ≤ 64) : (locals f l).length ≤ 64 := by
  unfold locals; rw [List.length_append, List.length_replicate]; omega
theorem locals_64 {f : Fnc} {l : List Int} (h : All64 l) : All64 (locals f l) := all_app h fun x hx => by rw [List.eq_of_mem_replicate hx]; exact ⟨by decide, by decide⟩
theorem inp_64 {l : List (Int × Int × Int)} (h : ∀ x ∈ l, I64 x.2.2) (p k : Int) : I64 (inp l p k) := by
  unfold inp
  cases hf : l.reverse.find? fun x => x.1 == p && x.2.1 == k with
  | none => exact ⟨by decide, by decide⟩
  | some x => exact h _ (List.mem_reverse.1 (List.mem_of_find?_eq_some hf))
theorem BelowF_64 {s n : Int} (h : I64 n) : I64 (BelowF s n).1 := by
  by_cases hn : n < 1
  · rw [BelowF_lo s n hn]; exact ⟨by decide, by decide⟩
  · have := BelowF_in s n (by omega); unfold I64 at *; omega
theorem takes_of {ps : List Int} {op A : Int} {c : Int} (hop : 1 ≤ op ∧ op ≤ 39) (h : (tbl[op.toNat]!).2.2 = 0) (hc : (tbl[op.toNat]!).1 = c) : takes ps (op, A) = c := by
  unfold takes isOpB
  rw [if_pos (decide_eq_true hop), if_neg (by rw [h]; decide), if_neg (by rw [h]; decide)]; exact hc
theorem puts_of {op A : Int} {c : Int} (hop : 1 ≤ op ∧ op ≤ 39) (hc : (tbl[op.toNat]!).2.1 = c) : puts (op, A) = c := by
  unfold puts isOpB
  rw [if_pos (decide_eq_true hop)]; exact hc
structure Rdy (P : MP) (m : Ms) (i : Ins) : Prop where
  nx : 0 ≤ m.top.nx ∧ m.top.nx < (m.top.fn.code.length : Int)
  ins : m.top.fn.code[m.top.nx.toNat]! = i
  since : m.since < 40000
  op : 1 ≤ i.1 ∧ i.1 ≤ 39
  stk : takes P.ps i ≤ m.top.stk.length ∧ (m.top.stk.length : Int) - takes P.ps i + puts i ≤ 64
  acc : access P m i = true
  room : room m i.1 = true
theorem ready_iff {P : MP} {m : Ms} (h : ready P m = 0) : Rdy P m m.top.fn.code[m.top.nx.toNat]! := by
  unfold ready at h
  split at h
  · cases h
  rename_i h1
  split at h
  · cases h
  rename_i h2
  split at h
  · cases h
  rename_i h3
  split at h
  · cases h
  rename_i h4
  split at h
  · cases h
  rename_i h5
  split at h
  · cases h
  rename_i h6
  refine ⟨Decidable.not_not.1 h1, rfl, by omega, ?_, by omega, by simpa using h5, by simpa using h6⟩
  unfold isOpB at h3
  simpa using h3
theorem Rdy.get {P : MP} {m : Ms} {i : Ins} (h : Rdy P m i) : i ∈ m.top.fn.code := by
  have := h.nx
  rw [← h.ins, getElem!_pos _ _ (by omega)]
  exact List.getElem_mem _
theorem ready_of {P : MP} {m : Ms} {i : Ins} (h : Rdy P m i) : ready P m = 0 := by
  unfold ready
  have h1 := h.nx
  have h2 := h.since
  have h3 : isOpB i.1 = true := decide_eq_true h.op
  have h4 := h.stk
  rw [h.ins, if_neg (by omega), if_neg (by omega), if_neg (by rw [h3]; decide), if_neg (by omega), if_neg (by rw [h.acc]; decide), if_neg (by rw [h.room]; decide)]
end
section
open Go Hc Hc.Vf Hc.Dice
theorem bin_tbl : ∀ n : Nat, n < 40 → isBin n = true → tbl[n]! = (2, 1, 0) := by decide
theorem un_tbl : ∀ n : Nat, n < 40 → isUn n = true → tbl[n]! = (1, 1, 0) := by decide
theorem op_nat {op : Int} (h : 1 ≤ op ∧ op ≤ 39) : op = (op.toNat : Int) ∧ op.toNat < 40 := by omega
theorem takes_bin {ps : List Int} {i : Ins} (h : 1 ≤ i.1 ∧ i.1 ≤ 39) (hb : isBin i.1 = true) : takes ps i = 2 ∧ puts i = 1 := by
  obtain ⟨op, A⟩ := i
  dsimp only at h hb
  have ht := bin_tbl op.toNat (op_nat h).2 (by rw [← (op_nat h).1]; exact hb)
  exact ⟨takes_of h (by rw [ht]) (by rw [ht]), puts_of h (by rw [ht])⟩
theorem takes_un {ps : List Int} {i : Ins} (h : 1 ≤ i.1 ∧ i.1 ≤ 39) (hb : isUn i.1 = true) : takes ps i = 1 ∧ puts i = 1 := by
  obtain ⟨op, A⟩ := i
  dsimp only at h hb
  have ht := un_tbl op.toNat (op_nat h).2 (by rw [← (op_nat h).1]; exact hb)
  exact ⟨takes_of h (by rw [ht]) (by rw [ht]), puts_of h (by rw [ht])⟩
theorem puts_k {i : Ins} (h : 1 ≤ i.1 ∧ i.1 ≤ 39) {k : Nat} (hk : i.1.toNat = k) : puts i = (tbl[k]!).2.1 := by
  obtain ⟨op, A⟩ := i
  dsimp only at h hk
  exact puts_of h (by rw [hk])
theorem takes_k {ps : List Int} {i : Ins} (h : 1 ≤ i.1 ∧ i.1 ≤ 39) {k : Nat} (hk : i.1.toNat = k) (h0 : (tbl[k]!).2.2 = 0) : takes ps i = (tbl[k]!).1 := by
  obtain ⟨op, A⟩ := i
  dsimp only at h hk
  exact takes_of h (by rw [hk]; exact h0) (by rw [hk])
theorem cut_len (m : Ms) (t : Nat) : (cut m t).top.stk.length = m.top.stk.length - t := by
  unfold cut; rw [List.length_take]; omega
theorem args_len {m : Ms} {t : Nat} (h : t ≤ m.top.stk.length) : (args m t).length = t := by
  unfold args; rw [List.length_drop]; omega
theorem args_64 {P : MP} {m : Ms} (h : MOk P m) (t : Nat) : All64 (args m t) := all_drop h.top.stk64 _
theorem AOk.fnOk {P : MP} (hP : POk P) {a : Actn} (h : AOk P a) : FnOk a.fn := by
  rcases h.fn with e | e
  · rw [e]; exact hP.sys
  · exact hP.fns _ e
theorem goal_bd (P : MP) (f : Fnc) (a : Int) : -1 ≤ goal P f a ∧ goal P f a ≤ f.code.length := by unfold goal; split <;> omega
theorem getLast!_mem {α : Type} [Inhabited α] {l : List α} (h : l ≠ []) : l.getLast! ∈ l := by
  rw [List.getLast!_eq_getLast?_getD, List.getLast?_eq_some_getLast h]
  exact List.getLast_mem h
theorem rise_len {l : List Pt} (h : ∀ p ∈ l, 1 ≤ p.kind ∧ p.kind ≤ 12) : (rise l).Perm l := by
  have key : ∀ (n : Nat) (l : List Pt), (∀ p ∈ l, 0 ≤ p.kind ∧ p.kind < n) → ((List.range n).flatMap fun (k : Nat) => l.filter fun p => p.kind == (k : Int)).Perm l := by
    intro n
    induction n with
    | zero => intro l h; cases l with
      | nil => exact .refl _
      | cons p l => have := h p (by simp); omega
    | succ n ih =>
      intro l h
      rw [List.range_succ, List.flatMap_append]
      have h1 : (List.range n).flatMap (fun (k : Nat) => l.filter fun p => p.kind == (k : Int)) = (List.range n).flatMap fun (k : Nat) => (l.filter fun p => !(p.kind == (n : Int))).filter fun p => p.kind == (k : Int) := by
        have : ∀ k ∈ List.range n, (l.filter fun p => p.kind == (k : Int)) = (l.filter fun p => !(p.kind == (n : Int))).filter fun p => p.kind == (k : Int) := by
          intro k hk
          rw [List.filter_filter]
          refine List.filter_congr fun p _ => ?_
          by_cases e : p.kind = (k : Int)
          · have := List.mem_range.1 hk
            have h2 : (p.kind == (n : Int)) = false := beq_eq_false_iff_ne.2 (by omega)
            rw [h2]; simp
          · have : (p.kind == (k : Int)) = false := beq_eq_false_iff_ne.2 e
            rw [this]; simp
        rw [List.flatMap_def, List.flatMap_def, List.map_congr_left this]
      rw [h1]
      refine ((ih (l.filter fun p => !(p.kind == (n : Int))) fun p hp => ?_).append (.refl _)).trans ?_
      · obtain ⟨hp, hq⟩ := List.mem_filter.1 hp
        have := h p hp
        have hq : p.kind ≠ n := by simpa using hq
        omega
      · simp only [List.flatMap_cons, List.flatMap_nil, List.append_nil]
        exact List.perm_append_comm.trans (List.filter_append_perm (fun p : Pt => p.kind == (n : Int)) l)
  exact key 13 l fun p hp => by have := h p hp; omega
theorem MOk.does {P : MP} {E : En} {m : Ms} {i : Ins} (hP : POk P) (hE : EOk E) (h : MOk P m) (r : Rdy P m i) :
    ((Mc.does P E m i).1 = 0 ∧ MOk P (Mc.does P E m i).2) ∨ ((Mc.does P E m i).1 = 120 ∧ (Mc.does P E m i).2.steps = 2001) := by
  have hi := (h.top.fnOk hP).code i r.get
  have hst := r.stk
  have hop := r.op
  have ht0 := takes_bd P.ps i
  have hc := h.cut (t := (takes P.ps i).toNat) r.nx.2 r.since
  have hl := cut_len m (takes P.ps i).toNat
  have ha := args_len (m := m) (t := (takes P.ps i).toNat) (by omega)
  have ha64 := args_64 h (takes P.ps i).toNat
  have push : ∀ x, puts i = 1 → I64 x → MOk P ((Mc.cut m (takes P.ps i).toNat).push x) := fun x hp hx => hc.pushM (by omega) hx
  have hacc := r.acc
  have hroom := r.room
  unfold Mc.does
  dsimp only
  split
  · rename_i hb; exact .inl ⟨rfl, push _ (takes_bin (ps := P.ps) hop hb).2 (binI_bd (all_get ha64 _) (all_get ha64 _))⟩
  split
  · rename_i hb; exact .inl ⟨rfl, push _ (takes_un (ps := P.ps) hop hb).2 (unI_bd (all_get ha64 _))⟩
  generalize hm1 : Mc.cut m (takes P.ps i).toNat = m1 at *
  generalize hla : args m (takes P.ps i).toNat = l at *
  have e1 : m1.top.loc = m.top.loc := by rw [← hm1]; rfl
  have e2 : m1.top.fn = m.top.fn := by rw [← hm1]; rfl
  have e3 : m1.steps = m.steps := by rw [← hm1]; rfl
  have hs := h.steps
  unfold act
  split
  · rename_i hk; exact .inl ⟨rfl, push _ (puts_k hop hk) hi.2⟩
  · rename_i hk; exact .inl ⟨rfl, push _ (puts_k hop hk) (all_get h.top.loc64 _)⟩
  · exact .inl ⟨rfl, { hc with top := { hc.top with loc := by dsimp only; rw [List.length_set]; exact h.top.loc, loc64 := all_set h.top.loc64 (all_get ha64 _) _ } }⟩
  · rename_i hk
    refine .inl ⟨rfl, push _ (puts_k hop hk) ?_⟩
    cases hv : lookV m.vals (i.2 / 8) with
    | none => exact all_get (l := []) (fun _ h => by cases h) _
    | some v => exact all_get (lookV_all h.vals hv) _
  · exact .inl ⟨rfl, { hc with vals := putV_all (all_get ha64 _) h.vals }⟩
  · exact .inl ⟨rfl, { hc with top := { hc.top with nx := by dsimp only; rw [e2]; exact goal_bd _ _ _ } }⟩
  · refine .inl ⟨rfl, ?_⟩
    dsimp only
    split
    · exact { hc with top := { hc.top with nx := by dsimp only; rw [e2]; exact goal_bd _ _ _ } }
    · exact hc
  · rename_i hk
    have hA : 0 ≤ i.2 ∧ i.2 < (P.fns.length : Int) ∧ m.low.length + 1 ≤ 16 := by
      unfold access accessM at hacc
      rw [hk] at hacc
      split at hacc
      · cases hacc
      · exact of_decide_eq_true hacc
    have hmem : P.fns[i.2.toNat]! ∈ P.fns := by rw [getElem!_pos _ _ (by omega)]; exact List.getElem_mem _
    split
    · rename_i hle
      refine .inl ⟨rfl, { hc with low := fun a hal => ?_, lowl := ?_, top := ⟨.inr hmem, by simp, (fun _ hx => by cases hx), ?_, locals_64 ha64, by dsimp only; omega⟩, since := by dsimp only; omega, steps := by dsimp only; omega }⟩
      · rcases List.mem_append.1 hal with ha | ha
        · exact h.low a ha
        · rw [List.mem_singleton.1 ha]
          exact ⟨hc.top, by have : puts i = 1 := puts_k hop hk; omega⟩
      · exact locals_len _ _ (by have := h.top.stk; omega)
      · simp only [List.length_append, List.length_singleton]; omega
    · exact .inr ⟨rfl, by dsimp only; omega⟩
  · rename_i hk
    have hne : m.low ≠ [] := by
      unfold access accessM at hacc
      rw [hk] at hacc
      split at hacc
      · cases hacc
      · exact of_decide_eq_true hacc
    have hmem := getLast!_mem hne
    have hlo := h.low _ hmem
    refine .inl ⟨rfl, { hc with low := fun a hal => h.low a (List.dropLast_subset _ hal), lowl := ?_, top := { hlo.1 with stk := by dsimp only; rw [List.length_append, List.length_singleton]; omega, stk64 := all_app hlo.1.stk64 (all_one (all_get ha64 _)) } }⟩
    have := h.lowl
    dsimp only
    rw [List.length_dropLast]; omega
  · exact .inl ⟨rfl, { hc with }⟩
  · split
    · exact .inl ⟨rfl, { hc with since := by dsimp only; omega, steps := by dsimp only; omega }⟩
    · exact .inr ⟨rfl, by dsimp only; omega⟩
  · rename_i hk
    have : m.evs.length < 16 := by
      unfold Mc.room at hroom
      rw [if_neg (by omega), if_pos (by omega)] at hroom
      exact of_decide_eq_true hroom
    exact .inl ⟨rfl, { hc with evs := by simp only [List.length_append, List.length_singleton]; omega }⟩
  · rename_i hk
    have hA : (0 ≤ i.2 ∧ 1 ≤ i.2 / 8 ∧ i.2 / 8 ≤ 12) ∧ m.kept.length < 12 := by
      unfold access accessM at hacc
      rw [hk] at hacc
      split at hacc
      · cases hacc
      · simp only [Bool.and_eq_true, decide_eq_true_eq, isKindB] at hacc
        exact ⟨⟨hacc.1.1, hacc.1.2⟩, hacc.2⟩
    refine .inl ⟨rfl, { hc with kept := by simp only [List.length_append, List.length_singleton]; omega, keptK := fun p hp => ?_ }⟩
    rcases List.mem_append.1 hp with hp | hp
    · exact h.keptK p hp
    · rw [List.mem_singleton.1 hp]; exact hA.1.2
  all_goals first
    | (rename_i hk
       have : m.cmds.length < 16 := by
         unfold Mc.room at hroom
         rw [if_pos (by omega)] at hroom
         exact of_decide_eq_true hroom
       exact .inl ⟨rfl, { hc with cmds := by simp only [List.length_append, List.length_singleton]; omega }⟩)
    | (rename_i hk
       have : m.cmds.length < 16 := by
         unfold Mc.room at hroom
         rw [if_pos (by omega)] at hroom
         exact of_decide_eq_true hroom
       exact .inl ⟨rfl, { hc with cmds := by simp only [List.length_append, List.length_singleton]; omega, kept := by simp, keptK := fun p hp => by cases hp }⟩)
    | exact .inl ⟨rfl, hc⟩
    | skip
  · rename_i hk
    have hx := push _ (puts_k hop hk) (BelowF_64 (s := m.dice) (all_get ha64 0))
    exact .inl ⟨rfl, { hx with dice := BelowF_bd _ _ h.dice.1 h.dice.2 }⟩
  · rename_i hk; exact .inl ⟨rfl, push _ (puts_k hop hk) hE.frame⟩
  · rename_i hk; exact .inl ⟨rfl, push _ (puts_k hop hk) hE.idx⟩
  · rename_i hk; exact .inl ⟨rfl, push _ (puts_k hop hk) (inp_64 hE.inputs _ _)⟩
  · rename_i hk; exact .inl ⟨rfl, push _ (puts_k hop hk) (truthI_bd _)⟩
end
end Go.Proofs.YtfpmgpblhhcpgaaGreat.Hc.Mc
namespace Go.Proofs.YtfpmgpblhhcpgaaGreat
set_option linter.unusedVariables false
set_option linter.unusedSimpArgs false
set_option maxRecDepth 100000
section
open Hc.Mc
theorem backTo_rev (zs : List InX) {k : Nat} (hk : k ≤ zs.length) : (backTo zs k).map (·.2) = zs.reverse.take k := by
  apply List.ext_getElem
  · simp [backTo]; omega
  · intro i h1 h2
    simp [backTo] at h1
    have : zs.length - 1 - i < zs.length := by omega
    simp [backTo, elX, this]
theorem inp_done {zs : List InX} {p q : Int} (h : ∀ x ∈ backTo zs zs.length, ¬ hit p q x) : inp zs p q = 0 := by
  unfold inp
  have : zs.reverse.find? (fun x => x.1 == p && x.2.1 == q) = none := by
    refine List.find?_eq_none.2 fun y hy e => ?_
    have e1 := backTo_rev zs (Nat.le_refl _)
    rw [List.take_of_length_le (by simp)] at e1
    rw [← e1] at hy
    obtain ⟨x, hx, rfl⟩ := List.mem_map.1 hy
    exact h x hx (by simpa [hit] using e)
  rw [this]; rfl
theorem inp_stop {zs : List InX} {p q : Int} {pre : List (Int × InX)} {x : Int × InX} {k : Nat} (hk : k ≤ zs.length) (e : backTo zs k = pre ++ [x]) (hno : ∀ y ∈ pre, ¬ hit p q y) (hx : hit p q x) : inp zs p q = x.2.2.2 := by
  unfold inp
  have e1 := backTo_rev zs hk
  rw [e, List.map_append] at e1
  have : zs.reverse.find? (fun x => x.1 == p && x.2.1 == q) = some x.2 := by
    rw [← List.take_append_drop k zs.reverse, ← e1, List.append_assoc, List.find?_append]
    have h0 : (pre.map (·.2)).find? (fun x => x.1 == p && x.2.1 == q) = none := by
      refine List.find?_eq_none.2 fun y hy e => ?_
      obtain ⟨z, hz, rfl⟩ := List.mem_map.1 hy
      exact hno z hz (by simpa [hit] using e)
    rw [h0]
    have : (x.2.1 == p && x.2.2.1 == q) = true := by simpa [hit] using hx
    simp [this]
  rw [this]; rfl
end
end Go.Proofs.YtfpmgpblhhcpgaaGreat
namespace Go.Proofs.YtfpmgpblhhcpgaaGreat.Hc
set_option linter.unusedVariables false
set_option linter.unusedSimpArgs false
set_option maxRecDepth 100000
theorem reach47 : reachBytes ≤ 2 ^ 47 := by decide
theorem list_of {α : Type} {R : Nat → α → Prop} : ∀ n, (∀ i, i < n → ∃ x, R i x) → ∃ xs : List α, xs.length = n ∧ ∀ i (h : i < xs.length), R i xs[i]
  | 0, _ => ⟨[], rfl, fun i h => by simp at h⟩
  | n + 1, h => by
    obtain ⟨xs, h1, h2⟩ := list_of n fun i hi => h i (by omega)
    obtain ⟨x, hx⟩ := h n (by omega)
    refine ⟨xs ++ [x], by simp [h1], fun i hi => ?_⟩
    rcases Nat.lt_or_ge i n with e | e
    · rw [List.getElem_append_left (by omega)]; exact h2 i (by omega)
    · have : i = n := by simp at hi; omega
      subst this
      rw [List.getElem_append_right (by omega)]
      simpa using hx
theorem rdC_elems {P : Program} {t e : TypeId} (hu : P.underlying t = some (.slice e)) {n : Nat} (hce : P.cellsOf e = n) {α : Type} {H : Heap} {R : List Value → α → Prop} (hR : ∀ f cs, RdC P H f e cs → ∃ x, R cs x) {f : Nat} {v : Value} (h : RdC P H f t [v]) :
    ∃ (s : Sl) (xs : List α), v = .slice s.a s.len s.cap ∧ s.len = xs.length ∧ s.len ≤ s.cap ∧ s.cap * P.bytesOf e ≤ reachBytes ∧ s.cap ≤ maxLen ∧
      ∀ i (h : i < xs.length), ∃ a, s.a = some a ∧ ∃ cs, cs.length = n ∧ hcells H (a.add (i * n)) 0 cs ∧ R cs xs[i] := by
  obtain ⟨f', hs⟩ := rdC_slice hu h
  rw [hce] at hs
  rcases hs with e | ⟨a, len, cap, e, h1, h2, h3⟩
  · simp only [List.cons.injEq, and_true] at e
    subst e
    exact ⟨⟨none, 0, 0⟩, [], rfl, rfl, Nat.le_refl _, by simp, Nat.zero_le _, fun i hi => by simp at hi⟩
  · simp only [List.cons.injEq, and_true] at e
    subst e
    obtain ⟨xs, g1, g2⟩ := list_of (R := fun i x => ∃ cs, cs.length = n ∧ hcells H (a.add (i * n)) 0 cs ∧ R cs x) len fun i hi => by
      obtain ⟨cs, k1, k2, k3⟩ := h3 i (Nat.lt_of_lt_of_le hi h1)
      obtain ⟨x, hx⟩ := hR _ _ k3
      exact ⟨x, cs, k1, k2, hx⟩
    exact ⟨⟨some a, len, cap⟩, xs, rfl, g1.symm, h1, h2.2, h2.1, fun i hi => ⟨a, rfl, g2 i hi⟩⟩
theorem rdC_list {P : Program} {t e : TypeId} (hu : P.underlying t = some (.slice e)) (hce : P.cellsOf e = 1) {α : Type} {g : α → Value} {Q : α → Prop} {H : Heap} (hR : ∀ f cs, RdC P H f e cs → ∃ x, cs = [g x] ∧ Q x) {f : Nat} {v : Value} (h : RdC P H f t [v]) :
    ∃ (s : Sl) (xs : List α), v = .slice s.a s.len s.cap ∧ RL g H s xs ∧ (∀ x ∈ xs, Q x) ∧ s.cap * P.bytesOf e ≤ reachBytes ∧ s.cap ≤ maxLen := by
  obtain ⟨s, xs, h1, h2, h3, h4, h5, h6⟩ := rdC_elems hu hce (R := fun cs x => cs = [g x] ∧ Q x) hR h
  refine ⟨s, xs, h1, ⟨?_, h2, h3⟩, fun x hx => ?_, h4, h5⟩
  · unfold rdL
    cases ha : s.a with
    | none =>
      cases xs with
      | nil => rfl
      | cons x xs => obtain ⟨a, e, _⟩ := h6 0 (by simp); rw [ha] at e; cases e
    | some a =>
      refine hcells_iff.2 fun j hj => ?_
      rw [List.length_map] at hj
      obtain ⟨b, e, cs, _, k2, k3, _⟩ := h6 j hj
      rw [ha] at e; cases e
      subst k3
      have := k2.1
      rw [Nat.mul_one, add_zero] at this
      rw [Nat.zero_add, this, List.getElem?_map, List.getElem?_eq_getElem hj]; rfl
  · obtain ⟨i, hi, rfl⟩ := List.getElem_of_mem hx
    obtain ⟨_, _, _, _, _, _, k⟩ := h6 i hi
    exact k
theorem rdC_ints {P : Program} {t e : TypeId} (hu : P.underlying t = some (.slice e)) (he : P.underlying e = some (.int .i64)) (hce : P.cellsOf e = 1) {H : Heap} {f : Nat} {v : Value} (h : RdC P H f t [v]) :
    ∃ (s : Sl) (xs : List Int), v = .slice s.a s.len s.cap ∧ RI H s xs ∧ (∀ x ∈ xs, I64 x) ∧ s.cap * P.bytesOf e ≤ reachBytes ∧ s.cap ≤ maxLen :=
  rdC_list hu hce (fun _ _ h => rdC_i64 he h) h
theorem addAdd (a : Addr) (n m : Nat) : (a.add n).add m = a.add (n + m) := by
  unfold Addr.add
  by_cases h : n = 0
  · subst h; simp
  · by_cases h2 : m = 0
    · subst h2; simp [h]
    · rw [if_neg h, if_neg h2, if_neg (by omega)]
      simp [Nat.add_assoc]
theorem hcellsShift {H : Heap} {a : Addr} {n : Nat} : ∀ {vs : List Value} {i : Nat}, hcells H a (n + i) vs ↔ hcells H (a.add n) i vs
  | [], _ => Iff.rfl
  | _ :: _, i => by
    simp only [hcells]
    rw [addAdd, Nat.add_assoc, hcellsShift (i := i + 1)]
theorem hcells_app {H : Heap} {a : Addr} : ∀ {vs ws : List Value} {i : Nat}, hcells H a i (vs ++ ws) ↔ hcells H a i vs ∧ hcells H a (i + vs.length) ws
  | [], ws, i => by simp [hcells]
  | v :: vs, ws, i => by
    simp only [List.cons_append, hcells, List.length_cons]
    rw [hcells_app (vs := vs), and_assoc, show i + 1 + vs.length = i + (vs.length + 1) by omega]
theorem IxA_rn' {α : Type} [Inhabited α] {f : α → List Value} {n : Nat} (hf : ∀ e, (f e).length = n) {H : Heap} {s : Sl} {xs : List α} (h : RN f n H s xs) (hn : 0 < n) {i : Int} {k : Addr → Prop} {j : Nat} (hj : i = j) (hl : j < xs.length)
    (hk : ∀ a, hcells H a 0 (f xs[j]!) → k a) : IxA n s i k := by
  have hr := h.rd
  unfold rdL at hr
  cases ha : s.a with
  | none =>
    rw [ha] at hr
    have := flat_len hf (es := xs)
    rw [hr] at this
    simp only [List.length_nil] at this
    have : 0 < xs.length * n := Nat.mul_pos (by omega) hn
    omega
  | some a =>
    rw [ha] at hr
    subst hj
    refine IxA.mk ha (by omega) (by rw [h.len]; omega) ?_
    rw [Int.toNat_natCast]
    refine hk _ ?_
    obtain ⟨r, hrest⟩ := flat_drop hf hl
    have h1 := hcells_drop (m := j * n) hr
    rw [hrest, Nat.zero_add] at h1
    exact hcellsShift.1 (hcells_app.1 h1).1
theorem rn_of {α : Type} {f : α → List Value} {n : Nat} (hf : ∀ e, (f e).length = n) {H : Heap} {a : Addr} : ∀ {xs : List α} {m : Nat}, (∀ i (h : i < xs.length), hcells H (a.add ((m + i) * n)) 0 (f xs[i])) → hcells H a (m * n) (xs.flatMap f)
  | [], _, _ => trivial
  | x :: xs, m, h => by
    rw [List.flatMap_cons, hcells_app, hf]
    refine ⟨?_, ?_⟩
    · have := h 0 (by simp)
      rw [Nat.add_zero] at this
      exact hcellsShift.2 this
    · have := rn_of hf (H := H) (a := a) (xs := xs) (m := m + 1) fun i hi => by
        have := h (i + 1) (by simpa using hi)
        rw [show m + 1 + i = m + (i + 1) by omega]
        simpa using this
      rw [Nat.add_mul, Nat.one_mul] at this
      exact this
theorem RN.of_elems {α : Type} {f : α → List Value} {n : Nat} (hf : ∀ e, (f e).length = n) {H : Heap} {s : Sl} {xs : List α} (hl : s.len = xs.length) (hc : s.len ≤ s.cap) (h : ∀ i (h : i < xs.length), ∃ a, s.a = some a ∧ hcells H (a.add (i * n)) 0 (f xs[i])) : RN f n H s xs := by
  refine ⟨?_, hl, hc⟩
  unfold rdL
  cases ha : s.a with
  | none =>
    cases xs with
    | nil => rfl
    | cons x xs => obtain ⟨a, e, _⟩ := h 0 (by simp); rw [ha] at e; cases e
  | some a =>
    dsimp only
    have := rn_of hf (H := H) (a := a) (xs := xs) (m := 0) fun i hi => by
      obtain ⟨a', e, hcell⟩ := h i hi
      rw [ha] at e; cases e
      rw [Nat.zero_add]; exact hcell
    simpa using this
theorem RN.lt {α : Type} {f : α → List Value} {n : Nat} (hf : ∀ e, (f e).length = n) (hn : 0 < n) {H : Heap} {s : Sl} {xs : List α} (h : RN f n H s xs) (hx : xs ≠ []) {a : Addr} (ha : s.a = some a) : a.block < H.size := by
  have hr := h.rd
  unfold rdL at hr
  rw [ha] at hr
  cases xs with
  | nil => exact absurd rfl hx
  | cons x xs =>
    have hl := hf x
    cases hfx : f x with
    | nil => rw [hfx] at hl; simp at hl; omega
    | cons v vs =>
      rw [List.flatMap_cons, hfx] at hr
      have := lt_of_cell hr.1
      rwa [add_block] at this
theorem vecN_pre {T : TypeId} {n : Nat} {H : Heap} {s : Sl} {vs : List Value} (h : VecN H T n s vs) {j c : Nat} (hj : j ≤ s.len) (hc : j ≤ c) (hc2 : c ≤ s.cap) : VecN H T n ⟨s.a, j, c⟩ (vs.take (j * n)) := by
  have hl := h.len
  have h1 : j * n ≤ s.len * n := Nat.mul_le_mul_right n hj
  refine ⟨by rw [List.length_take]; dsimp only; omega, ?_, hc⟩
  rcases h.own with ⟨g1, g2, g3⟩ | ⟨b, sp, g1, g2, g3⟩
  · exact .inl ⟨g1, by dsimp only; omega, by rw [g3]; simp⟩
  · refine .inr ⟨b, vs.drop (j * n) ++ sp, g1, by rw [← List.append_assoc, List.take_append_drop]; exact g2, ?_⟩
    have := Nat.mul_le_mul_right n hc2
    simp only [List.length_take, List.length_append, List.length_drop]
    omega
def entsF : Nat → List Nat → List MapEntry
  | _, [] => []
  | n, d :: ds => { key := .int .i64 (d : Nat), val := .bool true, born := n } :: entsF (n + 1) ds
def MapI (H : Heap) (v : Value) (ds : List Nat) : Prop := (v = .map none ∧ ds = []) ∨ ∃ r, v = .map (some r) ∧ H[r]? = some (.map ⟨entsF 0 ds⟩ ds.length)
theorem MapI.upd {M : Nat → Prop} {H H' : Heap} (hu : Upd M H H') {v : Value} {ds : List Nat} (h : MapI H v ds) (hn : ∀ r, v = .map (some r) → ¬ M r) : MapI H' v ds := by
  rcases h with h | ⟨r, h1, h2⟩
  · exact .inl h
  · exact .inr ⟨r, h1, hu.keep h2 (hn r h1)⟩
theorem MkM_i {H : Heap} {k : Value → Heap → Prop} (hk : ∀ r H', r = H.size → Ext H H' → H'.size = H.size + 1 → H'[r]? = some (.map ⟨entsF 0 []⟩ ([] : List Nat).length) → k (.map (some r)) H') : MkM H k :=
  hk _ _ rfl (Upd.push _ _ _) (by simp) (get_push_new _ _)
end Go.Proofs.YtfpmgpblhhcpgaaGreat.Hc
namespace Go.Proofs.YtfpmgpblhhcpgaaGreat
set_option linter.unusedVariables false
set_option linter.unusedSimpArgs false
set_option maxRecDepth 100000
section
open Hc Hc.Vf
def numB (op : Int) : Bool := [1, 2, 3, 4, 5, 19, 20, 21, 26, 28, 29, 35].contains op
def shp (op : Int) : Bool × Int × Int × Int := if isOpB op then (numB op, (tbl[op.toNat]!).1, (tbl[op.toNat]!).2.1, ((tbl[op.toNat]!).2.2 : Nat)) else (false, 0, 0, 0)
theorem shp_no {op : Int} (h : ¬ (1 ≤ op ∧ op ≤ 39)) : shp op = (false, 0, 0, 0) := by
  unfold shp isOpB; rw [decide_eq_false h]; rfl
theorem extUpd {H H1 H2 : Heap} {b : Nat} (hE : Ext H H1) (hb : H.size ≤ b) (hU : Upd (· = b) H1 H2) : Ext H H2 := hE.trans hU fun c hc e => by omega
theorem shape_put {H : Heap} {b : Nat} {x0 x1 x2 x3 x4 : Value} (hr : Row H b T_code_shape [x0, x1, x2, x3, x4]) {w : ByteArray} {n : Bool} {t p y : Int} {k : ByteArray × Bool × Int × Int × Int → Heap → Prop}
    (hk : ∀ H', Upd (· = b) H H' → Row H' b T_code_shape [.string w, .bool n, .int .i64 t, .int .i64 p, .int .i64 y] → k (w, n, t, p, y) H') :
    St ((adr b).add 0) (.string w) H fun H2 =>
      St ((adr b).add 1) (.bool n) H2 fun H3 =>
      St ((adr b).add 2) (.int .i64 t) H3 fun H4 =>
      St ((adr b).add 3) (.int .i64 p) H4 fun H5 =>
      St ((adr b).add 4) (.int .i64 y) H5 fun H6 =>
      LdC [.str, .bool, (.int .i64), (.int .i64), (.int .i64)] (adr b) H6 fun (c1 : ByteArray × Bool × Int × Int × Int) =>
      k (c1.1, c1.2.1, c1.2.2.1, c1.2.2.2.1, c1.2.2.2.2) H6 := by
  simp only [adr_add]
  refine St_row hr (by simp) fun H2 hU2 _ hr2 => St_row hr2 (by simp) fun H3 hU3 _ hr3 => St_row hr3 (by simp) fun H4 hU4 _ hr4 => St_row hr4 (by simp) fun H5 hU5 _ hr5 => St_row hr5 (by simp) fun H6 hU6 _ hr6 => ?_
  have hU : Upd (· = b) H H6 := (((hU2.trans hU3 fun _ _ h => h).trans hU4 fun _ _ h => h).trans hU5 fun _ _ h => h).trans hU6 fun _ _ h => h
  exact ⟨(w, n, t, p, y), hr6.rd_all, hk H6 hU hr6⟩
theorem beqI {a b : Int} (h : (a == b) = true) : a = b := by simpa using h
theorem bneI {a b : Int} (h : (a == b) = false) : a ≠ b := by simpa using h
theorem s_reckons {op : Int} {H : Heap} (hop : op < 19) {k : ByteArray × Bool × Int × Int × Int → Heap → Prop} (hk : ∀ H' w, Ext H H' → (isOpB op = true → w.size ≠ 0) → k (w, (shp op).1, (shp op).2.1, (shp op).2.2.1, (shp op).2.2.2) H') : CallT Pg f_code_reckons [.int .i64 op] (.one (.agg [.str, .bool, (.int .i64), (.int .i64), (.int .i64)])) H k := by
  refine c_code_reckons _ ?_
  unfold v_code_reckons
  refine Nw_row (vs := [.string ByteArray.empty, .bool false, .int .i64 0, .int .i64 0, .int .i64 0]) fun b1 H1 hb hE _ hr => ?_
  refine Br.mk (fun h => ?_) fun h1 => ?_
  · have h := beqI h; subst h; exact shape_put hr fun H' hU _ => hk H' _ (extUpd hE (by omega) hU) fun _ => by decide
  refine Br.mk (fun h => ?_) fun h2 => ?_
  · have h := beqI h; subst h; exact shape_put hr fun H' hU _ => hk H' _ (extUpd hE (by omega) hU) fun _ => by decide
  refine Br.mk (fun h => ?_) fun h3 => ?_
  · have h := beqI h; subst h; exact shape_put hr fun H' hU _ => hk H' _ (extUpd hE (by omega) hU) fun _ => by decide
  refine Br.mk (fun h => ?_) fun h4 => ?_
  · have h := beqI h; subst h; exact shape_put hr fun H' hU _ => hk H' _ (extUpd hE (by omega) hU) fun _ => by decide
  refine Br.mk (fun h => ?_) fun h5 => ?_
  · have h := beqI h; subst h; exact shape_put hr fun H' hU _ => hk H' _ (extUpd hE (by omega) hU) fun _ => by decide
  refine Br.mk (fun h => ?_) fun h6 => ?_
  · have h := beqI h; subst h; exact shape_put hr fun H' hU _ => hk H' _ (extUpd hE (by omega) hU) fun _ => by decide
  refine Br.mk (fun h => ?_) fun h7 => ?_
  · have h := beqI h; subst h; exact shape_put hr fun H' hU _ => hk H' _ (extUpd hE (by omega) hU) fun _ => by decide
  refine Br.mk (fun h => ?_) fun h8 => ?_
  · have h := beqI h; subst h; exact shape_put hr fun H' hU _ => hk H' _ (extUpd hE (by omega) hU) fun _ => by decide
  refine Br.mk (fun h => ?_) fun h9 => ?_
  · have h := beqI h; subst h; exact shape_put hr fun H' hU _ => hk H' _ (extUpd hE (by omega) hU) fun _ => by decide
  refine Br.mk (fun h => ?_) fun h10 => ?_
  · have h := beqI h; subst h; exact shape_put hr fun H' hU _ => hk H' _ (extUpd hE (by omega) hU) fun _ => by decide
  refine Br.mk (fun h => ?_) fun h11 => ?_
  · have h := beqI h; subst h; exact shape_put hr fun H' hU _ => hk H' _ (extUpd hE (by omega) hU) fun _ => by decide
  refine Br.mk (fun h => ?_) fun h12 => ?_
  · have h := beqI h; subst h; exact shape_put hr fun H' hU _ => hk H' _ (extUpd hE (by omega) hU) fun _ => by decide
  refine Br.mk (fun h => ?_) fun h13 => ?_
  · have h := beqI h; subst h; exact shape_put hr fun H' hU _ => hk H' _ (extUpd hE (by omega) hU) fun _ => by decide
  refine Br.mk (fun h => ?_) fun h14 => ?_
  · have h := beqI h; subst h; exact shape_put hr fun H' hU _ => hk H' _ (extUpd hE (by omega) hU) fun _ => by decide
  refine Br.mk (fun h => ?_) fun h15 => ?_
  · have h := beqI h; subst h; exact shape_put hr fun H' hU _ => hk H' _ (extUpd hE (by omega) hU) fun _ => by decide
  refine Br.mk (fun h => ?_) fun h16 => ?_
  · have h := beqI h; subst h; exact shape_put hr fun H' hU _ => hk H' _ (extUpd hE (by omega) hU) fun _ => by decide
  refine Br.mk (fun h => ?_) fun h17 => ?_
  · have h := beqI h; subst h; exact shape_put hr fun H' hU _ => hk H' _ (extUpd hE (by omega) hU) fun _ => by decide
  refine Br.mk (fun h => ?_) fun h18 => ?_
  · have h := beqI h; subst h; exact shape_put hr fun H' hU _ => hk H' _ (extUpd hE (by omega) hU) fun _ => by decide
  refine shape_put hr fun H' hU _ => ?_
  have hk := hk H' ByteArray.empty (extUpd hE (by omega) hU)
  have hk := fun (e : isOpB op ≠ true) => hk fun h => (e h).elim
  have h1 := bneI h1
  have h2 := bneI h2
  have h3 := bneI h3
  have h4 := bneI h4
  have h5 := bneI h5
  have h6 := bneI h6
  have h7 := bneI h7
  have h8 := bneI h8
  have h9 := bneI h9
  have h10 := bneI h10
  have h11 := bneI h11
  have h12 := bneI h12
  have h13 := bneI h13
  have h14 := bneI h14
  have h15 := bneI h15
  have h16 := bneI h16
  have h17 := bneI h17
  have h18 := bneI h18
  rw [shp_no (by omega)] at hk
  exact hk (by unfold isOpB; rw [decide_eq_false (by omega)]; decide)
theorem s_acts {op : Int} {H : Heap} (hop : ¬ op < 19) {k : ByteArray × Bool × Int × Int × Int → Heap → Prop} (hk : ∀ H' w, Ext H H' → (isOpB op = true → w.size ≠ 0) → k (w, (shp op).1, (shp op).2.1, (shp op).2.2.1, (shp op).2.2.2) H') : CallT Pg f_code_acts [.int .i64 op] (.one (.agg [.str, .bool, (.int .i64), (.int .i64), (.int .i64)])) H k := by
  refine c_code_acts _ ?_
  unfold v_code_acts
  refine Nw_row (vs := [.string ByteArray.empty, .bool false, .int .i64 0, .int .i64 0, .int .i64 0]) fun b1 H1 hb hE _ hr => ?_
  refine Br.mk (fun h => ?_) fun h19 => ?_
  · have h := beqI h; subst h; exact shape_put hr fun H' hU _ => hk H' _ (extUpd hE (by omega) hU) fun _ => by decide
  refine Br.mk (fun h => ?_) fun h20 => ?_
  · have h := beqI h; subst h; exact shape_put hr fun H' hU _ => hk H' _ (extUpd hE (by omega) hU) fun _ => by decide
  refine Br.mk (fun h => ?_) fun h21 => ?_
  · have h := beqI h; subst h; exact shape_put hr fun H' hU _ => hk H' _ (extUpd hE (by omega) hU) fun _ => by decide
  refine Br.mk (fun h => ?_) fun h22 => ?_
  · have h := beqI h; subst h; exact shape_put hr fun H' hU _ => hk H' _ (extUpd hE (by omega) hU) fun _ => by decide
  refine Br.mk (fun h => ?_) fun h23 => ?_
  · have h := beqI h; subst h; exact shape_put hr fun H' hU _ => hk H' _ (extUpd hE (by omega) hU) fun _ => by decide
  refine Br.mk (fun h => ?_) fun h24 => ?_
  · have h := beqI h; subst h; exact shape_put hr fun H' hU _ => hk H' _ (extUpd hE (by omega) hU) fun _ => by decide
  refine Br.mk (fun h => ?_) fun h25 => ?_
  · have h := beqI h; subst h; exact shape_put hr fun H' hU _ => hk H' _ (extUpd hE (by omega) hU) fun _ => by decide
  refine Br.mk (fun h => ?_) fun h26 => ?_
  · have h := beqI h; subst h; exact shape_put hr fun H' hU _ => hk H' _ (extUpd hE (by omega) hU) fun _ => by decide
  refine Br.mk (fun h => ?_) fun h27 => ?_
  · have h := beqI h; subst h; exact shape_put hr fun H' hU _ => hk H' _ (extUpd hE (by omega) hU) fun _ => by decide
  refine Br.mk (fun h => ?_) fun h28 => ?_
  · have h := beqI h; subst h; exact shape_put hr fun H' hU _ => hk H' _ (extUpd hE (by omega) hU) fun _ => by decide
  refine Br.mk (fun h => ?_) fun h29 => ?_
  · have h := beqI h; subst h; exact shape_put hr fun H' hU _ => hk H' _ (extUpd hE (by omega) hU) fun _ => by decide
  refine Br.mk (fun h => ?_) fun h30 => ?_
  · have h := beqI h; subst h; exact shape_put hr fun H' hU _ => hk H' _ (extUpd hE (by omega) hU) fun _ => by decide
  refine Br.mk (fun h => ?_) fun h31 => ?_
  · have h := beqI h; subst h; exact shape_put hr fun H' hU _ => hk H' _ (extUpd hE (by omega) hU) fun _ => by decide
  refine Br.mk (fun h => ?_) fun h32 => ?_
  · have h := beqI h; subst h; exact shape_put hr fun H' hU _ => hk H' _ (extUpd hE (by omega) hU) fun _ => by decide
  refine Br.mk (fun h => ?_) fun h33 => ?_
  · have h := beqI h; subst h; exact shape_put hr fun H' hU _ => hk H' _ (extUpd hE (by omega) hU) fun _ => by decide
  refine Br.mk (fun h => ?_) fun h34 => ?_
  · have h := beqI h; subst h; exact shape_put hr fun H' hU _ => hk H' _ (extUpd hE (by omega) hU) fun _ => by decide
  refine Br.mk (fun h => ?_) fun h35 => ?_
  · have h := beqI h; subst h; exact shape_put hr fun H' hU _ => hk H' _ (extUpd hE (by omega) hU) fun _ => by decide
  refine Br.mk (fun h => ?_) fun h36 => ?_
  · have h := beqI h; subst h; exact shape_put hr fun H' hU _ => hk H' _ (extUpd hE (by omega) hU) fun _ => by decide
  refine Br.mk (fun h => ?_) fun h37 => ?_
  · have h := beqI h; subst h; exact shape_put hr fun H' hU _ => hk H' _ (extUpd hE (by omega) hU) fun _ => by decide
  refine Br.mk (fun h => ?_) fun h38 => ?_
  · have h := beqI h; subst h; exact shape_put hr fun H' hU _ => hk H' _ (extUpd hE (by omega) hU) fun _ => by decide
  refine Br.mk (fun h => ?_) fun h39 => ?_
  · have h := beqI h; subst h; exact shape_put hr fun H' hU _ => hk H' _ (extUpd hE (by omega) hU) fun _ => by decide
  refine shape_put hr fun H' hU _ => ?_
  have hk := hk H' ByteArray.empty (extUpd hE (by omega) hU)
  have hk := fun (e : isOpB op ≠ true) => hk fun h => (e h).elim
  have h19 := bneI h19
  have h20 := bneI h20
  have h21 := bneI h21
  have h22 := bneI h22
  have h23 := bneI h23
  have h24 := bneI h24
  have h25 := bneI h25
  have h26 := bneI h26
  have h27 := bneI h27
  have h28 := bneI h28
  have h29 := bneI h29
  have h30 := bneI h30
  have h31 := bneI h31
  have h32 := bneI h32
  have h33 := bneI h33
  have h34 := bneI h34
  have h35 := bneI h35
  have h36 := bneI h36
  have h37 := bneI h37
  have h38 := bneI h38
  have h39 := bneI h39
  rw [shp_no (by omega)] at hk
  exact hk (by unfold isOpB; rw [decide_eq_false (by omega)]; decide)
theorem s_shapeOf {op : Int} {H : Heap} {k : ByteArray × Bool × Int × Int × Int → Heap → Prop} (hk : ∀ H' w, Ext H H' → (isOpB op = true → w.size ≠ 0) → k (w, (shp op).1, (shp op).2.1, (shp op).2.2.1, (shp op).2.2.2) H') : CallT Pg f_code_shapeOf [.int .i64 op] (.one (.agg [.str, .bool, (.int .i64), (.int .i64), (.int .i64)])) H k := by
  refine c_code_shapeOf _ ?_
  unfold v_code_shapeOf
  refine Nw_row (vs := [.string ByteArray.empty, .bool false, .int .i64 0, .int .i64 0, .int .i64 0]) fun b1 H1 hb hE _ hr => ?_
  refine Br_dec (fun h => s_reckons h fun H2 w hE2 hw => ?_) fun h => s_acts h fun H2 w hE2 hw => ?_
  all_goals
    have hE' := hE.trans hE2 fun _ _ h => h
    exact shape_put (hE2.row hr fun h => h) fun H' hU _ => hk H' _ (extUpd hE' (by omega) hU) hw
theorem s_isOp {op : Int} {H : Heap} {k : Bool → Heap → Prop} (hk : k (isOpB op) H) : CallT Pg f_code_isOp [.int .i64 op] (.one (.c .bool)) H k := by
  refine c_code_isOp _ ?_
  unfold v_code_isOp
  refine Jn.mk (fun j H' => H = H' ∧ j = isOpB op) (fun kk hkk => ?_) (by rintro j _ ⟨rfl, rfl⟩; exact hk)
  refine Br_dec (fun h => hkk _ _ ⟨rfl, ?_⟩) fun h => hkk _ _ ⟨rfl, ?_⟩
  · exact decide_eq_decide.2 (by omega)
  · exact (decide_eq_false (by omega)).symm
theorem s_rIsOp {op : Int} {H : Heap} {k : Bool → Heap → Prop} (hk : k (isOpB op) H) : CallT Pg f_R_IsOp [.int .i64 op] (.one (.c .bool)) H k := by
  refine c_R_IsOp _ ?_
  unfold v_R_IsOp
  refine Jn.mk (fun j H' => H = H' ∧ j = isOpB op) (fun kk hkk => ?_) (by rintro j _ ⟨rfl, rfl⟩; exact hk)
  refine Br_dec (fun h => hkk _ _ ⟨rfl, ?_⟩) fun h => hkk _ _ ⟨rfl, ?_⟩
  · exact decide_eq_decide.2 (by omega)
  · exact (decide_eq_false (by omega)).symm
end
end Go.Proofs.YtfpmgpblhhcpgaaGreat
