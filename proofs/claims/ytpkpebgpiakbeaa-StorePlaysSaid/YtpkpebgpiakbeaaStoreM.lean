/-
  What was synced stands where it stood for ever.
-/
import Derived.Test.YtpkpebgpiakbeaaStoreL
namespace Go.Proofs.Ytpkpebgpiakbeaa
set_option linter.unusedVariables false
set_option linter.unusedSimpArgs false
open Go.Proofs.Ytpkpebgpiakbeaa.Hc
set_option maxRecDepth 100000

/-- Two slices do not share memory. -/
def Ap (s t : Sl) : Prop := ∀ b, s.a = some (adr b) → t.a ≠ some (adr b)
theorem Ap.symm {s t : Sl} (h : Ap s t) : Ap t s := fun b h1 h2 => h b h2 h1
/-- A store and two lists beside it, each with memory of its own, all of it new since h0. -/
structure Mem (h0 : Nat) (H : Heap) (p : Nat) (s : Sl) (r : RSt) (la : Sl) (A : List UInt8) (lo : Sl) (B : List UInt8) : Prop where
  st : SAt H p s r
  va : Vec H T_uint8 la (u8s A)
  vo : Vec H T_uint8 lo (u8s B)
  sa : Ap s la
  so : Ap s lo
  ao : Ap la lo
  fp : h0 ≤ p
  fs : ∀ b, s.a = some (adr b) → h0 ≤ b
  fa : ∀ b, la.a = some (adr b) → h0 ≤ b
  fo : ∀ b, lo.a = some (adr b) → h0 ≤ b
variable {h0 : Nat} {H : Heap} {p : Nat} {s : Sl} {r : RSt} {la : Sl} {A : List UInt8} {lo : Sl} {B : List UInt8}
theorem Mem.ext {H' : Heap} (h : Mem h0 H p s r la A lo B) (hu : Ext H H') : Mem h0 H' p s r la A lo B :=
  ⟨h.st.ext hu, h.va.upd hu fun _ _ h => h, h.vo.upd hu fun _ _ h => h, h.sa, h.so, h.ao, h.fp, h.fs, h.fa, h.fo⟩
/-- The store's own record is turned, its bytes are where they were. -/
theorem Mem.own {H' : Heap} {r' : RSt} (h : Mem h0 H p s r la A lo B) (hS : SAt H' p s r') (hu : Upd (· = p) H H') : Mem h0 H' p s r' la A lo B :=
  let ⟨_, hr, _⟩ := h.st.row
  ⟨hS, h.va.upd hu fun _ hb e => h.va.ne hb hr (by decide) e, h.vo.upd hu fun _ hb e => h.vo.ne hb hr (by decide) e, h.sa, h.so, h.ao, h.fp, h.fs, h.fa, h.fo⟩
theorem Mem.turn {H' : Heap} {s' : Sl} {r' : RSt} (h : Mem h0 H p s r la A lo B) (hS : SAt H' p s' r') (ho : Own H s s') (hu : Upd (SM p s) H H') (hh : h0 ≤ H.size) : Mem h0 H' p s' r' la A lo B := by
  obtain ⟨_, hr, _⟩ := h.st.row
  refine ⟨hS, h.va.upd hu fun b hb e => ?_, h.vo.upd hu fun b hb e => ?_, fun b h1 h2 => ?_, fun b h1 h2 => ?_, h.ao, h.fp, fun b hb => ?_, h.fa, h.fo⟩
  · exact e.elim (h.va.ne hb hr (by decide)) fun e => h.sa b e hb
  · exact e.elim (h.vo.ne hb hr (by decide)) fun e => h.so b e hb
  · rcases ho b h1 with e | e
    · exact h.sa b e h2
    · have := h.va.lt h2; omega
  · rcases ho b h1 with e | e
    · exact h.so b e h2
    · have := h.vo.lt h2; omega
  · rcases ho b hb with e | e
    · exact h.fs b e
    · omega
theorem Mem.app_lo (h : Mem h0 H p s r la A lo B) (hh : h0 ≤ H.size) {x : Sl} {bs : List UInt8} (hx : RB H x bs) (hl : B.length + bs.length ≤ 2 ^ 40) {k : Sl → Heap → Prop}
    (hk : ∀ lo' H', Mem h0 H' p s r la A lo' (B ++ bs) → Upd (fun b => lo.a = some (adr b)) H H' → Own H lo lo' → k lo' H') : App T_uint8 1 1 #[.int .u8 0] lo x H k := by
  obtain ⟨_, hr, _⟩ := h.st.row
  refine App_vec h.vo hx.rd (by simp [hx.len]) (u8s_one _) (by omega) (by simp; omega) fun l H' hv hU hl' hs => ?_
  have ho : Own H lo l := fun b hb => by
    rcases hl' with e | e
    · rw [e] at hb; exact .inl hb
    · rw [e] at hb; cases hb; exact .inr (Nat.le_refl _)
  refine hk l H' ⟨h.st.upd hU (fun e => h.vo.ne e.1 hr (by decide) rfl) fun b hb e => h.so b hb e.1, h.va.upd hU fun b hb e => h.ao b hb e.1, by rw [u8s, List.map_append]; exact hv, h.sa, fun b h1 h2 => ?_, fun b h1 h2 => ?_, h.fp, h.fs, h.fa, fun b hb => ?_⟩ (hU.mono fun _ _ e => e.1) ho
  · rcases ho b h2 with e | e
    · exact h.so b h1 e
    · have := h.st.vec.lt h1; omega
  · rcases ho b h2 with e | e
    · exact h.ao b h1 e
    · have := h.va.lt h1; omega
  · rcases ho b hb with e | e
    · exact h.fo b e
    · omega
theorem Mem.app_la (h : Mem h0 H p s r la A lo B) (hh : h0 ≤ H.size) {x : Sl} {bs : List UInt8} (hx : RB H x bs) (hl : A.length + bs.length ≤ 2 ^ 40) {k : Sl → Heap → Prop}
    (hk : ∀ la' H', Mem h0 H' p s r la' (A ++ bs) lo B → Upd (fun b => la.a = some (adr b)) H H' → Own H la la' → k la' H') : App T_uint8 1 1 #[.int .u8 0] la x H k := by
  obtain ⟨_, hr, _⟩ := h.st.row
  refine App_vec h.va hx.rd (by simp [hx.len]) (u8s_one _) (by omega) (by simp; omega) fun l H' hv hU hl' hs => ?_
  have ho : Own H la l := fun b hb => by
    rcases hl' with e | e
    · rw [e] at hb; exact .inl hb
    · rw [e] at hb; cases hb; exact .inr (Nat.le_refl _)
  refine hk l H' ⟨h.st.upd hU (fun e => h.va.ne e.1 hr (by decide) rfl) fun b hb e => h.sa b hb e.1, by rw [u8s, List.map_append]; exact hv, h.vo.upd hU fun b hb e => h.ao b e.1 hb, fun b h1 h2 => ?_, h.so, fun b h1 h2 => ?_, h.fp, h.fs, fun b hb => ?_, h.fo⟩ (hU.mono fun _ _ e => e.1) ho
  · rcases ho b h2 with e | e
    · exact h.sa b h1 e
    · have := h.st.vec.lt h1; omega
  · rcases ho b h1 with e | e
    · exact h.ao b e h2
    · have := h.vo.lt h2; omega
  · rcases ho b hb with e | e
    · exact h.fa b e
    · omega

/-- Steps: a caller's slice of three numbers each. -/
def Steps (H : Heap) (s : Sl) : Prop := s.len ≤ maxLen ∧ ∀ i, i < s.len → ∃ a, s.a = some a ∧ ∃ x y z : Int, hcells H (a.add (i * 3)) 0 [.int .i64 x, .int .i64 y, .int .i64 z] ∧ I64 x ∧ I64 y ∧ I64 z

/-- The same memory, the same bytes, another store's promise: what the heap has told of the store and the two lists. -/
structure Loop (h0 : Nat) (H : Heap) (p : Nat) (la lo : Sl) (n : Nat) : Prop where
  ex : ∃ s A B, Mem h0 H p s ⟨A, B, false, -1⟩ la A lo B ∧ A.length + B.length ≤ 1000 + 50 * n

theorem s_StoreLasts (x t : Sl) {bs : List UInt8} {H : Heap} (hx : RB H x bs) (ht : Steps H t) {k : Bool → Heap → Prop} (hk : ∀ H', Ext H H' → k true H') :
    CallT Pg f_hindcastlaw03_StoreLasts [.slice x.a x.len x.cap, .slice t.a t.len t.cap] (.one (.c .bool)) H k := by
  apply c_hindcastlaw03_StoreLasts
  unfold v_hindcastlaw03_StoreLasts
  refine s_law03_shown fun H1 hE1 => ?_
  have hxl := hx.len
  have hxc := hx.cap
  refine Jn.mk (fun y H' => H1 = H' ∧ RB H y (bs.take 1000)) (fun kk hkk => ?_) ?_
  · refine Br_dec (fun h => ?_) fun h => hkk _ _ ⟨rfl, by rw [List.take_of_length_le (by omega)]; exact hx⟩
    refine SlA0 (by omega) (by omega) (by omega) ?_
    exact hkk _ _ ⟨rfl, hx.pre (n := 1000) (by omega) (by omega)⟩
  rintro y _ ⟨rfl, hy⟩
  have hbl : (bs.take 1000).length ≤ 1000 := by simp; omega
  generalize bs.take 1000 = cs at *
  refine s_store_New (hy.ext hE1) (fun h => by omega) fun p s H3 _ hp3 hS3 hf3 hE3 => ?_
  refine Jn_in ?_
  simp only [Bool.not_true, Option.isNone_some, Br_false, bne_self_eq_false]
  have hE3' := hE1.ext hE3
  have hs1 := hE1.size
  have hs3 := hE3.size
  have M3 : Mem H.size H3 p s ⟨cs, [], false, -1⟩ ⟨none, 0, 0⟩ [] ⟨none, 0, 0⟩ [] :=
    ⟨hS3, .nil _ _, .nil _ _, (fun _ _ h => by cases h), (fun _ _ h => by cases h), (fun _ h => by cases h), by omega, (fun b hb => by have := hf3 b hb; omega), (fun _ h => by cases h), (fun _ h => by cases h)⟩
  refine M3.app_la (by omega) (hy.ext hE3') (by simp; omega) fun la H5 M5 hU5 _ => ?_
  rw [List.nil_append] at M5
  have hE5 : Ext H H5 := hE3'.trans hU5 fun b hb e => by cases e
  refine LoopT.mk (fun σ H' => ∃ i : Nat, σ.2.2 = i ∧ i ≤ 300 ∧ Ext H H' ∧ Loop H.size H' p σ.1 σ.2.1 i) (fun σ _ => (300 - σ.2.2).toNat) ⟨0, rfl, by omega, hE5, ⟨s, cs, [], M5, by simp; omega⟩⟩ ?_
  rintro next ⟨la, lo, _⟩ H7 ⟨i, rfl, hi, hE7, ⟨s7, A, B, M7, hAB⟩⟩ hnext
  clear M5 M3 hS3 hU5 hE5 hE3' hs3 hf3 hp3 hs1 hy
  dsimp only at M7 ⊢
  refine Jn.mk (fun b H' => H7 = H' ∧ b = decide ((i : Int) < t.len ∧ (i : Int) < 300)) (fun kk hkk => ?_) ?_
  · refine Br_dec (fun h => hkk _ _ ⟨rfl, by simp [h]⟩) fun h => hkk _ _ ⟨rfl, by simp [h]⟩
  rintro _ _ ⟨rfl, rfl⟩
  refine Br_dec (fun hgo => ?_) fun _ => hk _ hE7
  obtain ⟨ta, hta, n0, n1, n2, htc, i0, i1, i2⟩ := ht.2 i (by omega)
  have hs7 := hE7.size
  -- reading the step
  have rd : ∀ {H' : Heap} {k : Addr → Prop}, Ext H H' → (hcells H' (ta.add (i * 3)) 0 [.int .i64 n0, .int .i64 n1, .int .i64 n2] → k (ta.add (i * 3))) → IxA 3 t i k := fun {H' k} hE hk => by
    refine IxA.mk hta (by omega) (by omega) ?_
    rw [Int.toNat_natCast]
    exact hk (hcells_upd hE (fun h => h) htc)
  -- the bytes that are added
  refine LoopT.mk (fun σ H' => ∃ (m : Nat) (ds : List UInt8), σ.2 = m ∧ m = ds.length ∧ m ≤ 40 ∧ Ext H7 H' ∧ Vec H' T_uint8 σ.1 (u8s ds) ∧ Fresh H7 σ.1) (fun σ _ => (40 - σ.2).toNat) ⟨0, [], rfl, rfl, by omega, .refl _ _, .nil _ _, fun b h => by cases h⟩ ?_
  rintro next2 ⟨b8, _⟩ H8 ⟨m, ds, rfl, hm, hm40, hE8, hv8, hf8⟩ hnext2
  dsimp only at hv8 hf8 ⊢
  have hE08 : Ext H H8 := hE7.trans hE8 fun _ _ h => h
  refine rd hE08 fun c8 => ?_
  refine ⟨by omega, by omega, ?_⟩
  refine Ld_int c8.1 ?_
  refine s_pick03 _ 40 i0 (by omega) ?_
  have hp40 := pickI_bd n0 40 (by omega)
  refine Br_dec (fun hlt => ?_) fun _ => ?_
  · refine rd hE08 fun _ => ?_
    refine ⟨by omega, by omega, ?_⟩
    refine Ld_int c8.2.1 ?_
    refine s_pick03 _ 26 i1 (by omega) ?_
    rw [Lt_def]
    rw [wrap_u8_of]
    refine Nw_row fun b1 H11 hb1 hE11 _ hr11 => ?_
    refine App_vec (hv8.upd hE11 fun _ _ h => h) (ws := u8s [_]) hr11.rd_all rfl (u8s_one _) (by omega) (by simp; omega) fun l3 H12 hv12 hU12 hl12 hs12 => ?_
    rw [Lt_def, wrap_i64_id (by omega) (by omega)]
    rw [u8s, u8s, ← List.map_append] at hv12
    have s8 := hE8.size
    have s11 := hE11.size
    refine hnext2 _ _ ⟨m + 1, _, by dsimp only; omega, by simp; omega, by omega, (hE8.ext hE11).trans hU12 fun b hb e => by have := hf8 b e.1; omega, hv12, fun b hb => ?_⟩ (by dsimp only; omega)
    dsimp only at hb
    rcases hl12 with e | e
    · rw [e] at hb; exact hf8 b hb
    · rw [e] at hb; cases hb; omega
  -- they are added
  clear hnext2
  have M8 := M7.ext hE8
  have hs8 : H.size ≤ H8.size := hE08.size
  refine s_Append M8.st hv8.rb (by omega) fun s13 H13 hS13 ho13 hU13 => ?_
  have ea : appendR ⟨A, B, false, -1⟩ ds = (0, ⟨A, B ++ ds, false, -1⟩) := by
    unfold appendR
    rw [if_neg (by simp), if_neg (by dsimp only; omega), if_pos (by dsimp only; omega)]
  rw [ea] at hS13 ⊢
  have M13 := M8.turn hS13 ho13 hU13 hs8
  have hE13 : Ext H H13 := hE08.trans hU13 fun b hb e => by
    rcases e with e | e
    · have := M8.fp; omega
    · have := M8.fs b e; omega
  have hv13 := hv8.upd hU13 fun b hb e => by
    rcases e with e | e
    · have := hf8 b hb; have := M7.st.lt; omega
    · have := hf8 b hb; have := M7.st.vec.lt e; omega
  refine M13.app_lo hE13.size hv13.rb (by omega) fun l4 H14 M14 hU14 _ => ?_
  have hE14 : Ext H H14 := hE13.trans hU14 fun b hb e => by have := M13.fo b e; omega
  dsimp only
  rw [bne_self_eq_false, Br_false]
  refine rd hE14 fun c14 => ?_
  refine ⟨by omega, by omega, ?_⟩
  refine Ld_int c14.2.2.1 ?_
  refine s_pick03 _ 21 i2 (by omega) ?_
  generalize pickI n2 21 = what
  refine Jn.mk (fun σ H' => σ.1 = 0 ∧ Ext H H' ∧ Loop H.size H' p σ.2.1 σ.2.2 (i + 1)) (fun kk hkk => ?_) ?_
  · refine Jn.mk (fun _ H' => H14 = H') (fun kk5 hkk5 => ?_) ?_
    · refine Br.mk (fun _ => hkk5 _ _ rfl) fun _ => ?_
      refine Jn.mk (fun _ H' => H14 = H') (fun kk6 hkk6 => ?_) (fun _ _ h => hkk5 _ _ h)
      refine Br.mk (fun _ => hkk6 _ _ rfl) fun _ => ?_
      refine Jn.mk (fun _ H' => H14 = H') (fun kk7 hkk7 => ?_) (fun _ _ h => hkk6 _ _ h)
      refine Br.mk (fun _ => hkk7 _ _ rfl) fun _ => ?_
      refine Jn.mk (fun _ H' => H14 = H') (fun kk8 hkk8 => ?_) (fun _ _ h => hkk7 _ _ h)
      refine Br.mk (fun _ => hkk8 _ _ rfl) fun _ => ?_
      refine Jn.mk (fun _ H' => H14 = H') (fun kk9 hkk9 => ?_) (fun _ _ h => hkk8 _ _ h)
      refine Br.mk (fun _ => hkk9 _ _ rfl) fun _ => ?_
      refine Jn.mk (fun _ H' => H14 = H') (fun kk10 hkk10 => ?_) (fun _ _ h => hkk9 _ _ h)
      exact Br.mk (fun _ => hkk10 _ _ rfl) fun _ => hkk10 _ _ rfl
    rintro j5 _ rfl
    refine Jn.mk (fun σ H' => σ.1 = 0 ∧ Ext H H' ∧ Loop H.size H' p σ.2.1 σ.2.2 (i + 1)) (fun kk11 hkk11 => ?_) (fun _ _ h => hkk _ _ h)
    refine Br.mk (fun _ => ?_) fun _ => ?_
    · -- Sync
      refine s_Sync M14.st fun H24 hS24 hU24 => ?_
      have M24 := M14.own hS24 hU24
      have hE24 : Ext H H24 := hE14.trans hU24 fun b hb e => by have := M14.fp; omega
      refine M24.app_la hE24.size M24.vo.rb (by simp; omega) fun l5 H25 M25 hU25 _ => ?_
      have hE25 : Ext H H25 := hE24.trans hU25 fun b hb e => by have := M24.fa b e; omega
      refine hkk11 _ _ ⟨rfl, hE25, ⟨_, _, [], ⟨M25.st, M25.va, .nil _ _, M25.sa, (fun _ _ h => by cases h), (fun _ _ h => by cases h), M25.fp, M25.fs, M25.fa, (fun _ h => by cases h)⟩, by simp; omega⟩⟩
    · refine Jn.mk (fun _ H' => H14 = H') (fun kk12 hkk12 => ?_) ?_
      · exact Br.mk (fun _ => hkk12 _ _ rfl) fun _ => hkk12 _ _ rfl
      rintro j12 _ rfl
      refine Jn.mk (fun σ H' => σ.1 = 0 ∧ Ext H H' ∧ Loop H.size H' p σ.2.1 σ.2.2 (i + 1)) (fun kk13 hkk13 => ?_) (fun _ _ h => hkk11 _ _ h)
      refine Br.mk (fun _ => ?_) fun _ => ?_
      · -- a crash
        refine rd hE14 fun _ => ?_
        refine ⟨by omega, by omega, ?_⟩
        refine Ld_int c14.1 ?_
        refine s_pick03 _ 60 i0 (by omega) ?_
        have hp60 := pickI_bd n0 60 (by omega)
        have hp3 := pickI_bd n1 3 (by omega)
        refine rd hE14 fun _ => ?_
        refine ⟨by omega, by omega, ?_⟩
        refine Ld_int c14.2.1 ?_
        refine rd hE14 fun _ => ?_
        refine ⟨by omega, by omega, ?_⟩
        refine Ld_int c14.2.1 ?_
        rw [wrap_u8_of, wrap_u8_of]
        refine ⟨?_, ?_, trivial⟩
        · refine Nw_row fun b2 H30 hb2 hE30 _ hr30 => ?_
          have hj2 : RB H30 ⟨some (adr b2), 2, 2⟩ [u8of n1, u8of (i : Int)] := ⟨hr30.rd_all, rfl, Nat.le_refl _⟩
          have c30 := hcells_upd hE30 (fun h => h) c14
          refine Stab_2 c30.2.1 c30.2.1 ?_
          refine s_pick03 _ 3 i1 (by omega) ?_
          refine Stab_1 c30.2.1 ?_
          refine SlA0 (by omega) (by omega) (by dsimp only; omega) ?_
          have hjr : RB H30 ⟨some (adr b2), (pickI n1 3).toNat, (2 : Int).toNat⟩ ([u8of n1, u8of (i : Int)].take (pickI n1 3).toNat) := hj2.pre (by simp; omega) (by omega)
          have hjl : ([u8of n1, u8of (i : Int)].take (pickI n1 3).toNat).length ≤ 2 := by simp; omega
          generalize [u8of n1, u8of (i : Int)].take (pickI n1 3).toNat = js at hjr hjl ⊢
          have M30 := M14.ext hE30
          have hh30 : H.size ≤ H30.size := Nat.le_trans hE14.size hE30.size
          refine s_Crash M30.st hjr (by omega) (by unfold I64; omega) fun s31 H31 hS31 ho31 hU31 => ?_
          have ec : crashR ⟨A, B ++ ds, false, -1⟩ (pickI n0 60) js = (0, ⟨A ++ (B ++ ds).take (Nat.min (pickI n0 60).toNat (B ++ ds).length) ++ js, [], true, -1⟩) := by
            unfold crashR
            have : Nat.min (pickI n0 60).toNat (B ++ ds).length ≤ (B ++ ds).length := Nat.min_le_right _ _
            simp only [List.length_append] at this
            rw [if_neg (by simp), if_neg (by omega), if_neg (by simp only [List.length_append]; omega)]
            rfl
          rw [ec] at hS31 ⊢
          have M31 := M30.turn hS31 ho31 hU31 hh30
          refine Lit_rb [120] rfl fun b3 H33 hx33 hE33 => ?_
          have M33 := M31.ext hE33
          have s31 := hU31.size
          have s33 := hE33.size
          refine s_Append M33.st hx33 (by decide) fun s34 H34 hS34 ho34 hU34 => ?_
          rw [show appendR (0, (⟨A ++ (B ++ ds).take (Nat.min (pickI n0 60).toNat (B ++ ds).length) ++ js, [], true, -1⟩ : RSt)).2 [120] = (30, ⟨A ++ (B ++ ds).take (Nat.min (pickI n0 60).toNat (B ++ ds).length) ++ js, [], true, -1⟩) from rfl] at hS34 ⊢
          have M34 := M33.turn hS34 ho34 hU34 (by omega)
          refine s_Sync M34.st fun H35 hS35 hU35 => ?_
          rw [show syncR (30, (⟨A ++ (B ++ ds).take (Nat.min (pickI n0 60).toNat (B ++ ds).length) ++ js, [], true, -1⟩ : RSt)).2 = (30, ⟨A ++ (B ++ ds).take (Nat.min (pickI n0 60).toNat (B ++ ds).length) ++ js, [], true, -1⟩) from rfl] at hS35 ⊢
          have M35 := M34.own hS35 hU35
          have hU : Upd (SM p s13) H30 H35 := ((hU31.ext hE33).trans hU34 fun b hb e => e.elim .inl fun e => (ho31 b e).elim .inr fun e => by omega).trans hU35 fun b hb e => .inl e
          refine Jn.mk (fun b H' => b = false ∧ Ext H35 H') (fun kk14 hkk14 => ?_) ?_
          · dsimp only
            rw [bne_self_eq_false, Br_false, Br_false]
            refine s_Bytes M35.st fun s37 H37 hv37 _ _ hE37 => ?_
            have := hv37.len
            rw [show bytesR (30, (⟨A ++ (B ++ ds).take (Nat.min (pickI n0 60).toNat (B ++ ds).length) ++ js, [], true, -1⟩ : RSt)).2 = [] from rfl] at this
            refine hkk14 _ _ ⟨?_, hE37⟩
            rw [this]; rfl
          rintro _ H37 ⟨rfl, hE37⟩
          rw [Br_false]
          have M37 := M35.ext hE37
          refine s_Restart M37.st fun H38 hS38 hU38 => ?_
          have M38 := M37.own hS38 hU38
          have hU8 : Upd (SM p s13) H30 H38 := (hU.ext hE37).trans hU38 fun b hb e => .inl e
          have hE38 : Ext H H38 := (hE14.ext hE30).trans hU8 fun b hb e => by
            rcases e with e | e
            · have := M14.fp; omega
            · have := M14.fs b e; omega
          have hj38 := hjr.upd hU8 fun a ha e => by
            cases ha
            rcases e with e | e
            · have := M14.st.lt; dsimp only at e; omega
            · have := M14.st.vec.lt e; dsimp only at this; omega
          have h4 := M38.vo.len
          simp only [List.length_map] at h4
          have h4c := M38.vo.lc
          have hmin : (if (l4.len : Int) < pickI n0 60 then (l4.len : Int) else pickI n0 60) = ((Nat.min (pickI n0 60).toNat (B ++ ds).length : Nat) : Int) := by
            have h1 : Nat.min (pickI n0 60).toNat (B ++ ds).length = if (pickI n0 60).toNat ≤ (B ++ ds).length then (pickI n0 60).toNat else (B ++ ds).length := Nat.min_def
            rw [h1]; split <;> split <;> omega
          rw [hmin]
          have hmle : Nat.min (pickI n0 60).toNat (B ++ ds).length ≤ (B ++ ds).length := Nat.min_le_right _ _
          refine SlA0 (by omega) (by omega) (by omega) ?_
          rw [Int.toNat_natCast]
          have hl7 : RB H38 ⟨l4.a, Nat.min (pickI n0 60).toNat (B ++ ds).length, (l4.cap : Int).toNat⟩ _ := M38.vo.rb.pre hmle (by omega)
          simp only [List.length_append] at hmle
          refine M38.app_la hE38.size hl7 (by simp; omega) fun la39 H39 M39 hU39 ho39 => ?_
          have hE39 : Ext H H39 := hE38.trans hU39 fun b hb e => by have := M38.fa b e; omega
          have hj39 := hj38.upd hU39 fun a ha e => by
            cases ha
            have := M14.va.lt e; dsimp only at this; omega
          refine M39.app_la hE39.size hj39 (by simp; omega) fun la40 H40 M40 hU40 ho40 => ?_
          have hE40 : Ext H H40 := hE39.trans hU40 fun b hb e => by have := M39.fa b e; omega
          refine hkk13 _ _ ⟨rfl, hE40, ⟨_, _, [], ⟨M40.st, M40.va, .nil _ _, M40.sa, (fun _ _ h => by cases h), (fun _ _ h => by cases h), M40.fp, M40.fs, M40.fa, (fun _ h => by cases h)⟩, by simp; omega⟩⟩
        · refine s_pick03 _ 3 i1 (by omega) ?_
          refine Stab_1 c14.2.1 ?_
          refine Nw_row fun b2 H30 hb2 hE30 _ hr30 => ?_
          have hj2 : RB H30 ⟨some (adr b2), 2, 2⟩ [u8of n1, u8of (i : Int)] := ⟨hr30.rd_all, rfl, Nat.le_refl _⟩
          have c30 := hcells_upd hE30 (fun h => h) c14
          refine Stab_2 c30.2.1 c30.2.1 ?_
          refine SlA0 (by omega) (by omega) (by dsimp only; omega) ?_
          have hjr : RB H30 ⟨some (adr b2), (pickI n1 3).toNat, (2 : Int).toNat⟩ ([u8of n1, u8of (i : Int)].take (pickI n1 3).toNat) := hj2.pre (by simp; omega) (by omega)
          have hjl : ([u8of n1, u8of (i : Int)].take (pickI n1 3).toNat).length ≤ 2 := by simp; omega
          generalize [u8of n1, u8of (i : Int)].take (pickI n1 3).toNat = js at hjr hjl ⊢
          have M30 := M14.ext hE30
          have hh30 : H.size ≤ H30.size := Nat.le_trans hE14.size hE30.size
          refine s_Crash M30.st hjr (by omega) (by unfold I64; omega) fun s31 H31 hS31 ho31 hU31 => ?_
          have ec : crashR ⟨A, B ++ ds, false, -1⟩ (pickI n0 60) js = (0, ⟨A ++ (B ++ ds).take (Nat.min (pickI n0 60).toNat (B ++ ds).length) ++ js, [], true, -1⟩) := by
            unfold crashR
            have : Nat.min (pickI n0 60).toNat (B ++ ds).length ≤ (B ++ ds).length := Nat.min_le_right _ _
            simp only [List.length_append] at this
            rw [if_neg (by simp), if_neg (by omega), if_neg (by simp only [List.length_append]; omega)]
            rfl
          rw [ec] at hS31 ⊢
          have M31 := M30.turn hS31 ho31 hU31 hh30
          refine Lit_rb [120] rfl fun b3 H33 hx33 hE33 => ?_
          have M33 := M31.ext hE33
          have s31 := hU31.size
          have s33 := hE33.size
          refine s_Append M33.st hx33 (by decide) fun s34 H34 hS34 ho34 hU34 => ?_
          rw [show appendR (0, (⟨A ++ (B ++ ds).take (Nat.min (pickI n0 60).toNat (B ++ ds).length) ++ js, [], true, -1⟩ : RSt)).2 [120] = (30, ⟨A ++ (B ++ ds).take (Nat.min (pickI n0 60).toNat (B ++ ds).length) ++ js, [], true, -1⟩) from rfl] at hS34 ⊢
          have M34 := M33.turn hS34 ho34 hU34 (by omega)
          refine s_Sync M34.st fun H35 hS35 hU35 => ?_
          rw [show syncR (30, (⟨A ++ (B ++ ds).take (Nat.min (pickI n0 60).toNat (B ++ ds).length) ++ js, [], true, -1⟩ : RSt)).2 = (30, ⟨A ++ (B ++ ds).take (Nat.min (pickI n0 60).toNat (B ++ ds).length) ++ js, [], true, -1⟩) from rfl] at hS35 ⊢
          have M35 := M34.own hS35 hU35
          have hU : Upd (SM p s13) H30 H35 := ((hU31.ext hE33).trans hU34 fun b hb e => e.elim .inl fun e => (ho31 b e).elim .inr fun e => by omega).trans hU35 fun b hb e => .inl e
          refine Jn.mk (fun b H' => b = false ∧ Ext H35 H') (fun kk14 hkk14 => ?_) ?_
          · dsimp only
            rw [bne_self_eq_false, Br_false, Br_false]
            refine s_Bytes M35.st fun s37 H37 hv37 _ _ hE37 => ?_
            have := hv37.len
            rw [show bytesR (30, (⟨A ++ (B ++ ds).take (Nat.min (pickI n0 60).toNat (B ++ ds).length) ++ js, [], true, -1⟩ : RSt)).2 = [] from rfl] at this
            refine hkk14 _ _ ⟨?_, hE37⟩
            rw [this]; rfl
          rintro _ H37 ⟨rfl, hE37⟩
          rw [Br_false]
          have M37 := M35.ext hE37
          refine s_Restart M37.st fun H38 hS38 hU38 => ?_
          have M38 := M37.own hS38 hU38
          have hU8 : Upd (SM p s13) H30 H38 := (hU.ext hE37).trans hU38 fun b hb e => .inl e
          have hE38 : Ext H H38 := (hE14.ext hE30).trans hU8 fun b hb e => by
            rcases e with e | e
            · have := M14.fp; omega
            · have := M14.fs b e; omega
          have hj38 := hjr.upd hU8 fun a ha e => by
            cases ha
            rcases e with e | e
            · have := M14.st.lt; dsimp only at e; omega
            · have := M14.st.vec.lt e; dsimp only at this; omega
          have h4 := M38.vo.len
          simp only [List.length_map] at h4
          have h4c := M38.vo.lc
          have hmin : (if (l4.len : Int) < pickI n0 60 then (l4.len : Int) else pickI n0 60) = ((Nat.min (pickI n0 60).toNat (B ++ ds).length : Nat) : Int) := by
            have h1 : Nat.min (pickI n0 60).toNat (B ++ ds).length = if (pickI n0 60).toNat ≤ (B ++ ds).length then (pickI n0 60).toNat else (B ++ ds).length := Nat.min_def
            rw [h1]; split <;> split <;> omega
          rw [hmin]
          have hmle : Nat.min (pickI n0 60).toNat (B ++ ds).length ≤ (B ++ ds).length := Nat.min_le_right _ _
          refine SlA0 (by omega) (by omega) (by omega) ?_
          rw [Int.toNat_natCast]
          have hl7 : RB H38 ⟨l4.a, Nat.min (pickI n0 60).toNat (B ++ ds).length, (l4.cap : Int).toNat⟩ _ := M38.vo.rb.pre hmle (by omega)
          simp only [List.length_append] at hmle
          refine M38.app_la hE38.size hl7 (by simp; omega) fun la39 H39 M39 hU39 ho39 => ?_
          have hE39 : Ext H H39 := hE38.trans hU39 fun b hb e => by have := M38.fa b e; omega
          have hj39 := hj38.upd hU39 fun a ha e => by
            cases ha
            have := M14.va.lt e; dsimp only at this; omega
          refine M39.app_la hE39.size hj39 (by simp; omega) fun la40 H40 M40 hU40 ho40 => ?_
          have hE40 : Ext H H40 := hE39.trans hU40 fun b hb e => by have := M39.fa b e; omega
          refine hkk13 _ _ ⟨rfl, hE40, ⟨_, _, [], ⟨M40.st, M40.va, .nil _ _, M40.sa, (fun _ _ h => by cases h), (fun _ _ h => by cases h), M40.fp, M40.fs, M40.fa, (fun _ h => by cases h)⟩, by simp; omega⟩⟩
      · exact hkk13 _ _ ⟨rfl, hE14, ⟨_, _, _, M14, by simp; omega⟩⟩
  -- all is told
  rintro ⟨e, la', lo'⟩ H16 ⟨rfl, hE16, ⟨s16, A', B', M16, hAB'⟩⟩
  dsimp only at M16 ⊢
  refine B2S_rb M16.va.rb ?_
  refine B2S_rb M16.vo.rb ?_
  rw [StrCat, ba_append]
  refine ⟨by simp [ByteArray.size]; omega, ?_⟩
  refine s_State M16.st ?_
  refine Jn.mk (fun b H' => b = false ∧ Ext H16 H') (fun kk hkk => ?_) ?_
  · rw [bne_self_eq_false, Br_false]
    refine s_Bytes M16.st fun s15 H15 hv15 _ _ hE15 => ?_
    refine B2S_rb hv15.rb ?_
    rw [show bytesR ⟨A', B', false, -1⟩ = A' ++ B' from rfl, beq_self_eq_true, Bool.not_true, Br_false]
    have e1 : (((A'.length + B'.length : Nat) : Int) != ((ByteArray.size ⟨⟨A' ++ B'⟩⟩ : Nat) : Int)) = false := by
      simp [ByteArray.size]
    have e2 := M16.va.len
    simp only [List.length_map] at e2
    dsimp only at e1 ⊢
    rw [e1, Br_false, e2, bne_self_eq_false, Br_false]
    exact hkk _ _ ⟨rfl, hE15⟩
  rintro _ H54 ⟨rfl, hE54⟩
  rw [Br_false, Lt_def, wrap_i64_id (by omega) (by omega)]
  exact hnext _ _ ⟨i + 1, rfl, by omega, hE16.ext hE54, ⟨s16, A', B', M16.ext hE54, hAB'⟩⟩ (by dsimp only; omega)
theorem rd_steps {H : Heap} {v : Value} (h : RdV Try.prog H 50 v) : ∃ s : Sl, v = .slice s.a s.len s.cap ∧ Steps H s := by
  obtain ⟨f, hc⟩ := rd_cell Try.underlying50 rfl h
  obtain ⟨f', hs⟩ := rdC_slice Try.underlying50 hc
  have c55 : Try.prog.cellsOf 55 = 3 := by kernel_rfl
  have c3 : Try.prog.cellsOf 3 = 1 := by kernel_rfl
  rw [c55] at hs
  rcases hs with e | ⟨a, len, cap, e, h1, h2, h3⟩
  · simp only [List.cons.injEq, and_true] at e
    subst e
    exact ⟨⟨none, 0, 0⟩, rfl, Nat.zero_le _, fun i hi => by simp at hi⟩
  · simp only [List.cons.injEq, and_true] at e
    subst e
    refine ⟨⟨some a, len, cap⟩, rfl, Nat.le_trans h1 h2.1, fun i hi => ⟨a, rfl, ?_⟩⟩
    obtain ⟨xs, h4, h5, h6⟩ := h3 i (Nat.lt_of_lt_of_le hi h1)
    obtain ⟨f2, _, h7⟩ := rdC_array Try.underlying55 h6
    match xs, h4 with
    | [x0, x1, x2], _ =>
      have g0 := h7 0 (by omega)
      have g1 := h7 1 (by omega)
      have g2 := h7 2 (by omega)
      rw [c3] at g0 g1 g2
      obtain ⟨n0, e0, i0⟩ := rdC_i64 Try.underlying3 g0
      obtain ⟨n1, e1, i1⟩ := rdC_i64 Try.underlying3 g1
      obtain ⟨n2, e2, i2⟩ := rdC_i64 Try.underlying3 g2
      simp at e0 e1 e2
      subst e0 e1 e2
      exact ⟨n0, n1, n2, h5, i0, i1, i2⟩
theorem w_StoreLasts {H : Heap} (v0 v1 : Value) (r0 : RdV Try.prog H 49 v0) (r1 : RdV Try.prog H 50 v1) :
    CallT Try.prog 6 [v0, v1] (.one (.c .bool)) H (fun b H' => b = true ∧ Ext H H') := by
  have c5 : Try.prog.cellsOf 5 = 1 := by kernel_rfl
  obtain ⟨x, bs, rfl, hx, _⟩ := rd_bytes Try.underlying49 Try.underlying5 c5 r0
  obtain ⟨s, rfl, hs⟩ := rd_steps r1
  exact s_StoreLasts x s hx hs fun H' h => ⟨rfl, h⟩
end Go.Proofs.Ytpkpebgpiakbeaa
