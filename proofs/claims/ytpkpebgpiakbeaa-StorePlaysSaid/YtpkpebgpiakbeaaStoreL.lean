/-
  What was synced stands for ever; with a fuse just so many bytes come down.
-/
import Derived.Test.YtpkpebgpiakbeaaStore
import Derived.Test.YtpkpebgpiakbeaaHcPick
namespace Go.Proofs.Ytpkpebgpiakbeaa
set_option linter.unusedVariables false
set_option linter.unusedSimpArgs false
open Go.Proofs.Ytpkpebgpiakbeaa.Hc
set_option maxRecDepth 100000

theorem Lit_rb {T : TypeId} {cells : Array Value} (bs : List UInt8) {H : Heap} {k : Nat → Heap → Prop} (hc : cells = ⟨u8s bs⟩)
    (hk : ∀ b H', RB H' ⟨some (adr b), bs.length, bs.length⟩ bs → Ext H H' → k b H') : Nw cells T H (fun b H1 => Mrk (adr b) H1 (k b)) := by
  subst hc
  refine Nw_row fun b H1 hb hE1 _ hr1 => ?_
  refine Mrk_row hr1 fun H2 hU2 _ hc2 => ?_
  exact hk b H2 ⟨hc2, rfl, Nat.le_refl _⟩ (hE1.trans hU2 fun c hc e => by omega)

theorem s_law03_shown {H : Heap} {k : Bool → Heap → Prop} (hk : ∀ H', Ext H H' → k true H') : CallT Pg f_hindcastlaw03_shown [] (.one (.c .bool)) H k := by
  apply c_hindcastlaw03_shown
  unfold v_hindcastlaw03_shown
  refine Lit_rb [97, 98] rfl fun b1 H2 hx2 hE2 => ?_
  refine s_store_New hx2 (fun h => by simp at h) fun p s H3 _ hp3 hS3 hf3 hE3 => ?_
  have hE3' := hE2.ext hE3
  refine Jn_in ?_
  simp only [Option.isNone_some, Br_false, bne_self_eq_false]
  refine Lit_rb [99, 100, 101] rfl fun b2 H6 hx6 hE6 => ?_
  have hS6 := hS3.ext hE6
  refine s_Append hS6 hx6 (by decide) fun s7 H7 hS7 ho7 hU7 => ?_
  have hsz := hE2.size
  have hsz3 := hE3.size
  have hsz6 := hE6.size
  have hE7 : Ext H H7 := (hE3'.ext hE6).trans hU7 fun b hb e => by
    rcases e with e | e
    · omega
    · have := hf3 b e; omega
  refine s_State hS7 ?_
  refine Lit_rb [120, 121] rfl fun b3 H10 hx10 hE10 => ?_
  have hS10 := hS7.ext hE10
  refine s_Crash hS10 hx10 (by decide) (by unfold I64; omega) fun s11 H11 hS11 ho11 hU11 => ?_
  have hE11 : Ext H H11 := (hE7.ext hE10).trans hU11 fun b hb e => by
    rcases e with e | e
    · omega
    · rcases ho7 b e with e | e
      · have := hf3 b e; omega
      · omega
  refine s_State hS11 ?_
  refine s_Restart hS11 fun H13 hS13 hU13 => ?_
  have hE13 : Ext H H13 := hE11.trans hU13 (by omega)
  refine Jn_in ?_
  simp only [show (appendR ⟨[97, 98], [], false, -1⟩ [99, 100, 101]).1 = 0 from rfl]
  rw [show ((0 : Int) == 0) = true from rfl, Br_true]
  rw [show ((((appendR ⟨[97, 98], [], false, -1⟩ [99, 100, 101]).2.A.length + (appendR ⟨[97, 98], [], false, -1⟩ [99, 100, 101]).2.B.length : Nat) : Int) == 5) = true from rfl, Br_true]
  rw [show (((appendR ⟨[97, 98], [], false, -1⟩ [99, 100, 101]).2.A.length : Int) == 2) = true from rfl, Br_true]
  rw [show (!(appendR ⟨[97, 98], [], false, -1⟩ [99, 100, 101]).2.off) = true from rfl, Br_true]
  rw [show ((crashR (appendR ⟨[97, 98], [], false, -1⟩ [99, 100, 101]).2 2 [120, 121]).1 == 0) = true from rfl, Br_true]
  rw [show (!!(crashR (appendR ⟨[97, 98], [], false, -1⟩ [99, 100, 101]).2 2 [120, 121]).2.off) = true from rfl, Br_true]
  refine s_Bytes hS13 fun s15 H15 hv15 _ _ hE15 => ?_
  refine B2S_rb hv15.rb ?_
  rw [show (bytesR (restartR (crashR (appendR ⟨[97, 98], [], false, -1⟩ [99, 100, 101]).2 2 [120, 121]).2)) = [97, 98, 99, 100, 120, 121] from rfl, beq_self_eq_true]
  exact hk H15 (hE13.ext hE15)

theorem s_pick03 (c n : Int) (hc : I64 c) (hn : 1 ≤ n) {H : Heap} {k : Int → Heap → Prop} (hk : k (pickI c n) H) : CallT Pg f_hindcastlaw03_pick [.int .i64 c, .int .i64 n] (.one (.c (.int .i64))) H k := by
  apply c_hindcastlaw03_pick
  unfold v_hindcastlaw03_pick
  exact pick_cond c n hc hn hk

/-- Pieces: a caller's slice of slices of bytes. -/
def Pieces (H : Heap) (s : Sl) : Prop := s.len ≤ maxLen ∧ ∀ i, i < s.len → ∃ a, s.a = some a ∧ ∃ (x : Sl) (bs : List UInt8), hcell H (a.add i) = some (.slice x.a x.len x.cap) ∧ RB H x bs ∧ x.cap ≤ 2 ^ 47
theorem Pieces.ext {H H' : Heap} (hu : Ext H H') {s : Sl} (h : Pieces H s) : Pieces H' s :=
  ⟨h.1, fun i hi => let ⟨a, h1, x, bs, h2, h3, h4⟩ := h.2 i hi; ⟨a, h1, x, bs, hu.cell h2 fun h => h, h3.ext hu, h4⟩⟩

theorem s_StoreFuses (n0 : Int) (t : Sl) {H : Heap} (hn0 : I64 n0) (ht : Pieces H t) {k : Bool → Heap → Prop} (hk : ∀ H', Ext H H' → k true H') :
    CallT Pg f_hindcastlaw03_StoreFuses [.int .i64 n0, .slice t.a t.len t.cap] (.one (.c .bool)) H k := by
  apply c_hindcastlaw03_StoreFuses
  unfold v_hindcastlaw03_StoreFuses
  refine s_law03_shown fun H1 hE1 => ?_
  refine s_store_New (RB.nil H1) (fun h => by simp at h) fun p s H2 _ hp2 hS2 hf2 hE2 => ?_
  refine Jn_in ?_
  simp only [Bool.not_true, Option.isNone_some, Br_false, bne_self_eq_false]
  refine s_pick03 _ 2000 hn0 (by omega) ?_
  have hn := pickI_bd n0 2000 (by omega)
  generalize pickI n0 2000 = n at *
  have e1 : fuseR ⟨[], [], false, -1⟩ n = (0, ⟨[], [], false, n⟩) := by
    unfold fuseR; rw [if_neg (by simp), if_neg (by omega)]
  refine s_Fuse hS2 (by unfold I64; omega) fun H5 hS5 hU5 => ?_
  rw [e1] at hS5 ⊢
  have hsz1 := hE1.size
  have hE5 : Ext H H5 := (hE1.ext hE2).trans hU5 fun b hb e => by omega
  refine LoopT.mk (fun σ H' => ∃ (i : Nat) (s : Sl) (r : RSt) (all : List UInt8), σ.2.2.2 = i ∧ i ≤ 100 ∧ Ext H H' ∧ SAt H' p s r ∧ Vec H' T_uint8 σ.2.1 (u8s all) ∧ all.length ≤ 100 * i ∧ (∀ b, s.a = some (adr b) → H.size ≤ b) ∧
      (∀ b, σ.2.1.a = some (adr b) → H.size ≤ b ∧ s.a ≠ some (adr b)) ∧
      ((σ.1 = 0 ∧ σ.2.2.1 = false ∧ r = ⟨[], all, false, n - all.length⟩ ∧ (all.length : Int) ≤ n) ∨ (σ.1 = 30 ∧ σ.2.2.1 = true ∧ r = ⟨all.take n.toNat, [], true, -1⟩ ∧ (all.length : Int) > n))) (fun σ _ => (100 - σ.2.2.2).toNat)
    ⟨0, s, ⟨[], [], false, n⟩, [], rfl, by omega, hE5, hS5, .nil _ _, by simp, fun b hb => by have := hf2 b hb; omega, fun b hb => by (dsimp only at hb; cases hb), .inl ⟨rfl, rfl, by simp, by simpa using hn.1⟩⟩ ?_
  rintro next ⟨e, al, fell, _⟩ H6 ⟨i, s6, r6, all, rfl, hi, hE6, hS6, hv6, hal, hfs, hfa, hst⟩ hnext
  dsimp only at hv6 hfa hst ⊢
  refine Jn.mk (fun b H' => H6 = H' ∧ b = decide ((i : Int) < t.len ∧ (i : Int) < 100 ∧ e = 0)) (fun kk hkk => ?_) ?_
  · refine Br_dec (fun h => ?_) fun h => hkk _ _ ⟨rfl, by simp [h]⟩
    refine Br_dec (fun h' => hkk _ _ ⟨rfl, ?_⟩) fun h' => hkk _ _ ⟨rfl, by simp [h']⟩
    simp only [h, h', true_and]; rfl
  rintro _ _ ⟨rfl, rfl⟩
  have hsz6 := hE6.size
  refine Br_dec (fun hgo => ?_) fun _ => ?_
  · obtain ⟨hg1, hg2, rfl⟩ := hgo
    obtain ⟨_, rfl, rfl, hle⟩ := hst.resolve_right fun h => by have := h.1; omega
    obtain ⟨a, ha, x, bs, hc, hx, hxc⟩ := ht.2 i (by omega)
    refine IxA.mk ha (by omega) (by omega) ?_
    rw [Int.toNat_natCast, Nat.mul_one]
    refine Ld_sl (hE6.cell hc fun h => h) ?_
    have hxl := hx.len
    have hxcap := hx.cap
    refine Jn.mk (fun y H' => H6 = H' ∧ RB H y (bs.take 100)) (fun kk hkk => ?_) ?_
    · refine Br_dec (fun h => ?_) fun h => hkk _ _ ⟨rfl, by rw [List.take_of_length_le (by omega)]; exact hx⟩
      refine SlA0 (by omega) (by omega) (by omega) ?_
      exact hkk _ _ ⟨rfl, hx.pre (n := 100) (by omega) (by omega)⟩
    rintro y _ ⟨rfl, hy⟩
    have hbl : (bs.take 100).length ≤ 100 := by simp; omega
    generalize bs.take 100 = cs at *
    refine App_vec hv6 (hy.ext hE6).rd (by simp [hy.len]) (u8s_one _) (by omega) (by simp; omega) fun l2 H9 hv9 hU9 hl9 hs9 => ?_
    have hS9 := hS6.upd hU9 (fun e => let ⟨_, hr, _⟩ := hS6.row; hv6.ne e.1 hr (by decide) rfl) fun b hb e => (hfa b e.1).2 hb
    have hE9 : Ext H H9 := hE6.trans hU9 fun b hb e => by have := (hfa b e.1).1; omega
    have hfa9 : ∀ b, l2.a = some (adr b) → H.size ≤ b ∧ s6.a ≠ some (adr b) := fun b hb => by
      rcases hl9 with h | h
      · rw [h] at hb; exact hfa b hb
      · rw [h] at hb; cases hb
        exact ⟨hsz6, fun e => by have := hS6.vec.lt e; omega⟩
    refine s_Append hS9 (hy.ext hE9) (by omega) fun s10 H10 hS10 ho10 hU10 => ?_
    obtain ⟨f9, hr9, _⟩ := hS9.row
    have hv10 := hv9.upd hU10 fun b hb e => by
      rcases e with e | e
      · exact hv9.ne hb hr9 (by decide) e
      · exact (hfa9 b hb).2 e
    rw [u8s, ← List.map_append] at hv10
    have hE10 : Ext H H10 := hE9.trans hU10 fun b hb e => by
      rcases e with e | e
      · omega
      · have := hfs b e; omega
    have hfs10 : ∀ b, s10.a = some (adr b) → H.size ≤ b := fun b hb => by
      rcases ho10 b hb with h | h
      · exact hfs b h
      · have := hE9.size; omega
    have hfa10 : ∀ b, l2.a = some (adr b) → H.size ≤ b ∧ s10.a ≠ some (adr b) := fun b hb => by
      refine ⟨(hfa9 b hb).1, fun e => ?_⟩
      rcases ho10 b e with h | h
      · exact (hfa9 b hb).2 h
      · have := hv9.lt hb; omega
    have hl2 := hv10.len
    simp only [List.length_map, List.length_append] at hl2
    have e0 : appendR ⟨[], all, false, n - all.length⟩ cs = if (all.length + cs.length : Int) ≤ n then (0, ⟨[], all ++ cs, false, n - (all ++ cs).length⟩) else (30, ⟨(all ++ cs).take n.toNat, [], true, -1⟩) := by
      unfold appendR
      rw [if_neg (by simp), if_neg (by simp; omega)]
      dsimp only
      rw [if_neg (by omega)]
      split
      · rw [if_pos (by omega)]
        congr 2
        simp; omega
      · rw [if_neg (by omega)]
        congr 2
        rw [List.nil_append, List.take_append, List.take_of_length_le (l := all) (by omega)]
        congr 2
        omega
    rw [e0] at hS10 ⊢
    by_cases hfell : (all.length + cs.length : Int) ≤ n
    · rw [if_pos hfell] at hS10 ⊢
      refine Jn_in ?_
      rw [show decide ((l2.len : Int) > n) = false from decide_eq_false (by omega)]
      dsimp only
      rw [show (!((0 : Int) == 30) == false) = false from rfl, Br_false, show (((0 : Int) == 0) == false) = false from rfl]
      rw [Br_false, Lt_def, wrap_i64_id (by omega) (by omega)]
      exact hnext _ _ ⟨i + 1, s10, _, all ++ cs, by dsimp only; omega, by omega, hE10, hS10, hv10, by simp; omega, hfs10, hfa10, .inl ⟨rfl, rfl, rfl, by simp; omega⟩⟩ (by dsimp only; omega)
    · rw [if_neg hfell] at hS10 ⊢
      refine Jn_in ?_
      rw [show decide ((l2.len : Int) > n) = true from decide_eq_true (by omega)]
      dsimp only
      rw [show (!((30 : Int) == 30) == true) = false from rfl, Br_false, show (((30 : Int) == 0) == true) = false from rfl]
      rw [Br_false, Lt_def, wrap_i64_id (by omega) (by omega)]
      exact hnext _ _ ⟨i + 1, s10, _, all ++ cs, by dsimp only; omega, by omega, hE10, hS10, hv10, by simp; omega, hfs10, hfa10, .inr ⟨rfl, rfl, rfl, by simp; omega⟩⟩ (by dsimp only; omega)
  · refine s_State hS6 ?_
    refine s_Restart hS6 fun H13 hS13 hU13 => ?_
    have hrow := hS6.lt
    have hp6 : H.size ≤ p := by omega
    have hE13 : Ext H H13 := hE6.trans hU13 fun b hb e => by omega
    obtain ⟨f6, hr6, _⟩ := hS6.row
    have hv13 := hv6.upd hU13 fun b hb e => hv6.ne hb hr6 (by decide) e
    have hoff : r6.off = fell := by rcases hst with ⟨_, rfl, rfl, _⟩ | ⟨_, rfl, rfl, _⟩ <;> rfl
    have hb : bytesR (restartR r6) = all.take (Nat.min n.toNat all.length) := by
      rcases hst with ⟨_, rfl, rfl, h⟩ | ⟨_, rfl, rfl, h⟩
      · rw [show Nat.min n.toNat all.length = all.length from Nat.min_eq_right (by omega), List.take_of_length_le (Nat.le_refl _)]; rfl
      · rw [show Nat.min n.toNat all.length = n.toNat from Nat.min_eq_left (by omega)]
        simp [bytesR, restartR]
    have hal6 := hv6.len
    simp only [List.length_map] at hal6
    have hlc6 := hv6.lc
    rw [hoff]
    refine Jn_in ?_
    rw [show (!(!fell) == fell) = true by cases fell <;> rfl, Br_true]
    have hmin : (if (al.len : Int) < n then (al.len : Int) else n) = ((Nat.min n.toNat all.length : Nat) : Int) := by
      have h1 : Nat.min n.toNat all.length = if n.toNat ≤ all.length then n.toNat else all.length := Nat.min_def
      rw [h1]; split <;> split <;> omega
    rw [hmin]
    have hle : Nat.min n.toNat all.length ≤ all.length := Nat.min_le_right _ _
    refine SlA0 (by omega) (by omega) (by omega) ?_
    rw [Int.toNat_natCast]
    have hrb13 : RB H13 ⟨al.a, Nat.min n.toNat all.length, (al.cap : Int).toNat⟩ (all.take (Nat.min n.toNat all.length)) := hv13.rb.pre hle (by omega)
    refine ⟨?_, ?_, trivial⟩
    · refine s_Bytes hS13 fun s15 H15 hv15 _ _ hE15 => ?_
      rw [hb] at hv15
      have hrb15 := hrb13.ext hE15
      refine ⟨?_, ?_, trivial⟩
      · refine B2S_rb hv15.rb ?_
        refine B2S_rb hrb15 ?_
        rw [beq_self_eq_true]
        exact hk H15 (hE13.ext hE15)
      · refine B2S_rb hrb15 ?_
        refine B2S_rb hv15.rb ?_
        rw [beq_self_eq_true]
        exact hk H15 (hE13.ext hE15)
    · refine B2S_rb hrb13 ?_
      refine s_Bytes hS13 fun s15 H15 hv15 _ _ hE15 => ?_
      rw [hb] at hv15
      refine B2S_rb hv15.rb ?_
      rw [beq_self_eq_true]
      exact hk H15 (hE13.ext hE15)
theorem reach_47 : reachBytes ≤ 2 ^ 47 := by decide
theorem rd_pieces {H : Heap} {v : Value} (h : RdV Try.prog H 63 v) : ∃ s : Sl, v = .slice s.a s.len s.cap ∧ Pieces H s := by
  obtain ⟨f, hc⟩ := rd_cell Try.underlying63 rfl h
  obtain ⟨f', hs⟩ := rdC_slice Try.underlying63 hc
  have c49 : Try.prog.cellsOf 49 = 1 := by kernel_rfl
  have c5 : Try.prog.cellsOf 5 = 1 := by kernel_rfl
  have b5 : Try.prog.bytesOf 5 = 1 := by kernel_rfl
  rw [c49] at hs
  rcases hs with e | ⟨a, len, cap, e, h1, h2, h3⟩
  · simp only [List.cons.injEq, and_true] at e
    subst e
    exact ⟨⟨none, 0, 0⟩, rfl, Nat.zero_le _, fun i hi => by simp at hi⟩
  · simp only [List.cons.injEq, and_true] at e
    subst e
    refine ⟨⟨some a, len, cap⟩, rfl, Nat.le_trans h1 h2.1, fun i hi => ⟨a, rfl, ?_⟩⟩
    obtain ⟨xs, h4, h5, h6⟩ := h3 i (Nat.lt_of_lt_of_le hi h1)
    match xs, h4 with
    | [v], _ =>
      obtain ⟨s, bs, rfl, hrb, hcap⟩ := rdC_bytes Try.underlying49 Try.underlying5 c5 h6
      rw [b5, Nat.mul_one] at hcap
      have := h5.1
      rw [Nat.mul_one, add_zero] at this
      exact ⟨s, bs, this, hrb, Nat.le_trans hcap reach_47⟩
theorem w_StoreFuses {H : Heap} (v0 v1 : Value) (r0 : RdV Try.prog H 3 v0) (r1 : RdV Try.prog H 63 v1) :
    CallT Try.prog 7 [v0, v1] (.one (.c .bool)) H (fun b H' => b = true ∧ Ext H H') := by
  obtain ⟨n, rfl, hn⟩ := rd_i64 Try.underlying3 r0
  obtain ⟨s, rfl, hs⟩ := rd_pieces r1
  exact s_StoreFuses n s hn hs fun H' h => ⟨rfl, h⟩
end Go.Proofs.Ytpkpebgpiakbeaa
