/-
  One step of a pair.
-/
import Derived.Test.YtpkpebgpiakbeaaStoreS
namespace Go.Proofs.Ytpkpebgpiakbeaa
set_option linter.unusedVariables false
set_option linter.unusedSimpArgs false
open Go.Proofs.Ytpkpebgpiakbeaa.Hc
set_option maxRecDepth 100000

/-- The pair's memory: what it was, or new, but not this block. -/
def Gc (F : Nat → Prop) (H0 H : Heap) (c b : Nat) : Prop := Gr F H0 H b ∧ b ≠ c
theorem Gc.step {F : Nat → Prop} {H0 H H' : Heap} {c : Nat} (h0 : H0.size ≤ H.size) (h1 : H.size ≤ H'.size) (hc : c < H.size) : ∀ b, Gr (Gc F H0 H c) H H' b → Gc F H0 H' c b := by
  rintro b (⟨h | h, h'⟩ | h)
  · exact ⟨.inl h, h'⟩
  · exact ⟨.inr (by omega), h'⟩
  · exact ⟨.inr (by omega), by omega⟩
theorem PX.qrow {F : Nat → Prop} {H : Heap} {q p : Nat} {s : Sl} {p' : Nat} {sA sB ks : Sl} {es : List Hold} {r r' : RSt} (h : PX F H q p s p' sA sB ks es r r') : hcell H (adr q) = some (.pointer (some (adr p))) ∧ hcell H ⟨q, 1, none⟩ = some (.pointer (some (adr p'))) :=
  let ⟨_, _, _, hk⟩ := h.kt.row
  ⟨(hk.cell 0).trans rfl, (hk.cell 1).trans rfl⟩

theorem s_step {F : Nat → Prop} {H0 H : Heap} {q n : Nat} {x : Sl} {bs : List UInt8} (hP : PAt F H q n) (hn : n ≤ 9000) (hF : ∀ b, F b → b < H.size) (hF0 : ∀ b, F b → H0.size ≤ b) (hE : Ext H0 H) (o1 o2 o3 : Int) (hi : I64 o3) (hx : RB H0 x bs) (hl : bs.length ≤ 2 ^ 47)
    {k : Bool → Heap → Prop} (hk : ∀ H', PAt (Gr F H H') H' q (n + 4) → Upd F H H' → k true H') :
    CallT Pg f_hindcastlaw03_pair_step [.pointer (some (adr q)), .agg #[.int .i64 o1, .int .i64 o2, .int .i64 o3, .slice x.a x.len x.cap]] (.one (.c .bool)) H k := by
  obtain ⟨p, s, p', sA, sB, ks, es, r, hX, hes⟩ := hP
  apply c_hindcastlaw03_pair_step (t1_ := (o1, o2, o3, x))
  unfold v_hindcastlaw03_pair_step
  simp only [adr_add, NilCk_some]
  have s0 := hE.size
  refine Nw_row fun bx H1 hbx hE1 hs1 hr1 => ?_
  have hX1 := hX.ext hE1
  have up1 : Upd F H H1 := hE1.mono fun _ _ h => h.elim
  refine Ld_int ((hr1.cell 0).trans rfl) ?_
  have fin : ∀ H2, Upd F H H2 → (∃ s sA sB ks es r, PX (Gr F H H2) H2 q p s p' sA sB ks es r r ∧ es.length ≤ n + 4) →
      Ld .ptr (adr q) H2 fun (x32 : Option Addr) =>
      CallT Pg f_store_Store_State [.pointer x32] (.tup [(.c (.int .i64)), (.c (.int .i64)), (.c .bool)]) H2 fun (r24 : Int × Int × Bool) H40 =>
      Ld .ptr ⟨q, 1, none⟩ H40 fun (x33 : Option Addr) =>
      CallT Pg f_hindcastref03_Store_State [.pointer x33] (.tup [(.c (.int .i64)), (.c (.int .i64)), (.c .bool)]) H40 fun (r25 : Int × Int × Bool) H41 =>
      Jn (σ := Bool) (fun kk15 =>
        Br true (
          Br (r24.1 == r25.1) (
            Br (r24.2.1 == r25.2.1) (
              kk15 (r24.2.2 == r25.2.2) H41) (
              kk15 false H41)) (
            kk15 false H41)) (
          kk15 false H41)) fun j15 H42 =>
      k j15 H42 := by
    rintro H2 up2 ⟨s, sA, sB, ks, es, r, hX2, hes2⟩
    refine Ld_ptr hX2.qrow.1 ?_
    refine s_State hX2.st ?_
    refine Ld_ptr hX2.qrow.2 ?_
    refine s_ref_State hX2.rt ?_
    refine Jn_in ?_
    simp only [beq_self_eq_true, Br_true]
    exact hk H2 ⟨p, s, p', sA, sB, ks, es, r, hX2, hes2⟩ up2
  refine Jn.mk (fun b H' => b = true ∧ Upd F H H' ∧ ∃ s sA sB ks es r, PX (Gr F H H') H' q p s p' sA sB ks es r r ∧ es.length ≤ n + 4) (fun kk1 hkk1 => ?_) (fun b H2 ⟨e, h1, h2⟩ => by subst e; exact fin H2 h1 h2)
  refine Jn.mk (fun b H' => b = true ∧ Upd F H H' ∧ ∃ s sA sB ks es r, PX (Gr F H H') H' q p s p' sA sB ks es r r ∧ es.length ≤ n + 4) (fun kk2 hkk2 => ?_) (fun b H2 h => hkk1 _ _ h)
  -- what a step of both stores comes to
  have both : ∀ {H' H'' : Heap} {s1 sA1 sB1 : Sl} {r1 : RSt}, SAt H' p s1 r1 → Own H1 s s1 → Upd (SM p s) H1 H' → RAt H'' p' sA1 sB1 r1 → Own2 H' sA sB sA1 sB1 → Upd (· = p') H' H'' →
      Upd F H H'' ∧ ∃ s sA sB ks es r, PX (Gr F H H'') H'' q p s p' sA sB ks es r r ∧ es.length ≤ n + 4 := by
    intro H' H'' s1 sA1 sB1 r1 g1 g2 g3 g4 g5 g6
    have e1 := hE1.size
    have e2 := g3.size
    have e3 := g6.size
    refine ⟨(up1.trans g3 fun b hb e => ?_).trans g6 fun b hb e => ?_, s1, sA1, sB1, ks, es, r1, ((hX1.doS g1 g2 g3).doR g4 g5 g6).mono ?_, by omega⟩
    · rcases e with e | e
      · exact e ▸ hX.fp.1
      · exact hX.fs b e
    · exact e ▸ hX.fp.2.1
    · rintro b ((h | h) | h)
      · exact .inl h
      · exact .inr (by omega)
      · exact .inr (by omega)
  have own1 : ∀ {H' : Heap} {s1 : Sl}, s1.a = s.a → Own H' s s1 := fun e b h => .inl (e ▸ h)
  have upS : ∀ {Ha H' : Heap}, Upd (· = p) Ha H' → Upd (SM p s) Ha H' := fun h => h.mono fun _ _ e => .inl e
  have bxp : bx ≠ p ∧ bx ≠ p' ∧ (∀ b, s.a = some (adr b) → bx ≠ b) := ⟨fun e => by have := hF _ hX.fp.1; omega, fun e => by have := hF _ hX.fp.2.1; omega, fun b h e => by have := hF _ (hX.fs b h); omega⟩
  refine Br.mk (fun _ => ?_) fun _ => ?_
  · -- Append
    refine Ld_sl (s := x) ((hr1.cell 3).trans rfl) ?_
    have hE01 := hE.ext hE1
    refine s_lent (hx.ext hE01) hl fun c H4 hc hc4 hE4 => ?_
    have hcl := hc4.lt
    have s1 := hE1.size
    have s4 := hE4.size
    have hX4 : PX (Gc F H H4 c) H4 q p s p' sA sB ks es r r := (hX1.ext hE4).mono fun b hb => ⟨.inl hb, by have := hF b hb; omega⟩
    have hr4 := hE4.row hr1 fun h => h
    refine Ld_ptr hX4.qrow.1 ?_
    have hrb4 : RB H4 ⟨some (adr c), bs.length, bs.length + 8⟩ bs := ⟨by have := hc4.rd_all; rw [u8s, List.map_append] at this; have := hcells_take (n := bs.length) this; rwa [List.take_left' (by simp)] at this, rfl, by dsimp only; omega⟩
    refine s_Append (x := ⟨some (adr c), bs.length, bs.length + 8⟩) hX4.st hrb4 (by omega) fun s5 H5 hS5 ho5 hU5 => ?_
    have z5 := hU5.size
    have hX5 := (hX4.doS hS5 ho5 hU5).mono (Gc.step (by omega) z5 hcl)
    have up5 : Upd F H H5 := (up1.trans hE4 fun _ _ h => h.elim).trans hU5 fun b hb e => by
      rcases e with e | e
      · exact e ▸ hX.fp.1
      · exact hX.fs b e
    have hr5 := hU5.row hr4 fun e => by
      rcases e with e | e
      · exact bxp.1 e
      · exact bxp.2.2 _ e rfl
    have hc5 := hU5.row hc4 fun e => by
      rcases e with e | e
      · have := hF _ hX.fp.1; omega
      · have := hF _ (hX.fs _ e); omega
    have ext0 : ∀ {H' : Heap}, Upd F H H' → Ext H0 H' := fun hu => hE.trans hu fun b hb e => by have := hF0 b e; omega
    refine Ld_sl (s := x) ((hr5.cell 3).trans rfl) ?_
    refine s_back hx (ext0 up5) (by omega) hl hc5 fun H6 hU6 hc6 => ?_
    have hX6 := hX5.upd hU6 fun b hb e => hb.2 e
    have up6 : Upd F H H6 := up5.trans hU6 fun b hb e => by omega
    have hr6 := hU6.row hr5 (by omega)
    have s6 := hU6.size
    refine Jn.mk (fun b H' => b = true ∧ ∃ sA7 sB7 r7, PX (Gc F H H' c) H' q p s5 p' sA7 sB7 ks es r7 r7 ∧ Upd F H H' ∧ Row H' c T_uint8 (u8s (List.replicate (bs.length + 8) 202)) ∧ Row H' bx T_hindcastlaw03_Op [.int .i64 o1, .int .i64 o2, .int .i64 o3, .slice x.a x.len x.cap]) (fun kk3 hkk3 => ?_) ?_
    · rw [Br_true]
      refine Ld_ptr hX6.qrow.2 ?_
      refine Ld_sl (s := x) ((hr6.cell 3).trans rfl) ?_
      refine s_ref_Append hX6.rt (hx.ext (ext0 up6)) (by omega) fun sA7 sB7 H7 hR7 ho7 hU7 => ?_
      rw [beq_self_eq_true]
      have s7 := hU7.size
      refine hkk3 _ _ ⟨rfl, sA7, sB7, _, ((hX6.mono fun b hb => (⟨?_, hb.2⟩ : Gc F H H6 c b)).doR hR7 ho7 hU7).mono (Gc.step (by omega) s7 (by omega)), up6.trans hU7 fun b hb e => e ▸ hX.fp.2.1, hU7.row hc6 fun e => ?_, hU7.row hr6 bxp.2.1⟩
      · rcases hb.1 with h | h
        · exact .inl h
        · exact .inr (by omega)
      · have := hF _ hX.fp.2.1; omega
    rintro _ H7 ⟨rfl, sA7, sB7, r7, hX7, up7, hc7, hr7⟩
    refine Ld_int ((hr7.cell 2).trans rfl) ?_
    rw [Lt_def]
    refine Jn.mk (fun b H' => b = true ∧ Upd F H H' ∧ ∃ s sA sB ks es r, PX (Gr F H H') H' q p s p' sA sB ks es r r ∧ es.length ≤ n + 4) (fun kk4 hkk4 => ?_) (fun b H2 h => hkk2 _ _ h)
    refine Br.mk (fun _ => ?_) fun _ => hkk4 _ _ ⟨rfl, up7, s5, sA7, sB7, ks, es, r7, hX7.mono fun b hb => hb.1, by omega⟩
    refine Ld_ptr hX7.qrow.1 ?_
    have hcl7 := hc7.lt
    have rb7 : ∀ {H' : Heap}, Row H' c T_uint8 (u8s (List.replicate (bs.length + 8) 202)) → RB H' ⟨some (adr c), bs.length, bs.length + 8⟩ (List.replicate bs.length 202) := fun h => ⟨by have := hcells_take (n := bs.length) h.rd_all; rw [u8s, ← List.map_take, List.take_replicate, Nat.min_eq_left (by omega)] at this; exact this, by simp, by dsimp only; omega⟩
    refine s_Append (x := ⟨some (adr c), bs.length, bs.length + 8⟩) hX7.st (rb7 hc7) (by simp; omega) fun s10 H10 hS10 ho10 hU10 => ?_
    have z7 := up7.size
    have z10 := hU10.size
    have hX10 := (hX7.doS hS10 ho10 hU10).mono (Gc.step z7 z10 hcl7)
    have up10 : Upd F H H10 := up7.trans hU10 fun b hb e => by
      rcases e with e | e
      · exact e ▸ hX.fp.1
      · rcases (hX7.fs b e).1 with h | h
        · exact h
        · omega
    have hc10 := hU10.row hc7 fun e => by
      rcases e with e | e
      · have := hF _ hX.fp.1; omega
      · exact (hX7.fs _ e).2 rfl
    refine Jn.mk (fun b H' => b = true ∧ Upd F H H' ∧ ∃ s sA sB ks es r, PX (Gr F H H') H' q p s p' sA sB ks es r r ∧ es.length ≤ n + 4) (fun kk5 hkk5 => ?_) (fun b H2 h => hkk4 _ _ h)
    rw [Br_true]
    refine Ld_ptr hX10.qrow.2 ?_
    refine B2S_rb (rb7 hc10) ?_
    refine Stab_1 hX10.qrow.2 ?_
    refine S2B_rb fun l1 H12 hl12 hE12 _ => ?_
    have hX12 := hX10.ext hE12
    refine Stab_1 hX12.qrow.2 ?_
    refine s_ref_Append hX12.rt hl12 (by simp; omega) fun sA13 sB13 H13 hR13 ho13 hU13 => ?_
    rw [beq_self_eq_true]
    have z12 := hE12.size
    have z13 := hU13.size
    refine hkk5 _ _ ⟨rfl, (up10.ext hE12).trans hU13 fun b hb e => e ▸ hX.fp.2.1, s10, sA13, sB13, ks, es, _, (hX12.doR hR13 ho13 hU13).mono fun b hb => ?_, by omega⟩
    rcases hb with ⟨h | h, _⟩ | h
    · exact .inl h
    · exact .inr (by omega)
    · exact .inr (by omega)
  refine Jn.mk (fun b H' => b = true ∧ Upd F H H' ∧ ∃ s sA sB ks es r, PX (Gr F H H') H' q p s p' sA sB ks es r r ∧ es.length ≤ n + 4) (fun kk6 hkk6 => ?_) (fun b H2 h => hkk2 _ _ h)
  have up1s : ∀ {H'}, Upd (SM p s) H1 H' → PX F H1 q p s p' sA sB ks es r r := fun _ => hX1
  refine Br.mk (fun _ => ?_) fun _ => ?_
  · -- Sync
    refine Ld_ptr hX1.qrow.1 ?_
    refine s_Sync hX1.st fun H15 hS15 hU15 => ?_
    have hX15 := hX1.doS hS15 (.refl _ _) (upS hU15)
    refine Ld_ptr hX15.qrow.2 ?_
    refine s_ref_Sync hX15.rt fun sA1 sB1 H16 hR16 ho16 hU16 => ?_
    rw [beq_self_eq_true]
    exact hkk6 _ _ ⟨rfl, both hS15 (.refl _ _) (upS hU15) hR16 ho16 hU16⟩
  refine Jn.mk (fun b H' => b = true ∧ Upd F H H' ∧ ∃ s sA sB ks es r, PX (Gr F H H') H' q p s p' sA sB ks es r r ∧ es.length ≤ n + 4) (fun kk7 hkk7 => ?_) (fun b H2 h => hkk6 _ _ h)
  refine Br.mk (fun _ => ?_) fun _ => ?_
  · -- Cut
    refine Ld_ptr hX1.qrow.1 ?_
    refine Ld_int ((hr1.cell 2).trans rfl) ?_
    refine s_Cut hX1.st fun s18 H18 hS18 ha18 hU18 => ?_
    have hX18 := hX1.doS hS18 (own1 ha18) (upS hU18)
    refine Ld_ptr hX18.qrow.2 ?_
    refine Ld_int (((hU18.row hr1 bxp.1).cell 2).trans rfl) ?_
    refine s_ref_Cut hX18.rt fun sA1 sB1 H19 hR19 ho19 hU19 => ?_
    rw [beq_self_eq_true]
    exact hkk7 _ _ ⟨rfl, both hS18 (own1 ha18) (upS hU18) hR19 ho19 hU19⟩
  refine Jn.mk (fun b H' => b = true ∧ Upd F H H' ∧ ∃ s sA sB ks es r, PX (Gr F H H') H' q p s p' sA sB ks es r r ∧ es.length ≤ n + 4) (fun kk8 hkk8 => ?_) (fun b H2 h => hkk7 _ _ h)
  refine Br.mk (fun _ => ?_) fun _ => ?_
  · -- Bytes
    have hbd : (bytesR r).length ≤ 2 ^ 40 := by
      have := hX.st.ok.1
      unfold bytesR; split
      · simp
      · simp; omega
    refine Ld_ptr hX1.qrow.1 ?_
    refine s_Bytes hX1.st fun a11 H21 hv21 hc21 hf21 hE21 => ?_
    have hX21 := hX1.ext hE21
    refine Ld_ptr hX21.qrow.1 ?_
    refine s_Bytes hX21.st fun a12 H22 hv22 hc22 hf22 hE22 => ?_
    have hX22 := hX21.ext hE22
    refine Ld_ptr hX22.qrow.2 ?_
    refine s_ref_Bytes hX22.rt fun a13 H23 hb23 hE23 => ?_
    have hX23 := hX22.ext hE23
    have hv23a := (hv21.ext hE22).ext hE23
    have hv23c := hv22.ext hE23
    have z1 := hE1.size
    have z21 := hE21.size
    have z22 := hE22.size
    have z23 := hE23.size
    refine B2S_rb hb23 ?_
    refine Jn.mk (fun b H' => b = true ∧ H23 = H') (fun kk9 hkk9 => ?_) ?_
    · refine B2S_rb hv23a.rb ?_
      rw [beq_self_eq_true, Br_true]
      refine B2S_rb hv23c.rb ?_
      rw [beq_self_eq_true]
      exact hkk9 _ _ ⟨rfl, rfl⟩
    rintro _ _ ⟨rfl, rfl⟩
    have fa : ∀ b, a11.a = some (adr b) → ¬ F b := fun b hb h => by have := hf21 b hb; have := hF b h; omega
    have fc : ∀ b, a12.a = some (adr b) → ¬ F b := fun b hb h => by have := hf22 b hb; have := hF b h; omega
    refine s_keep hX23.kt (by omega) hv23a hc21 (fun e he b h1 h2 => fa b h1 (hX23.fe e he b h2)) hbd fun ks25 es25 H25 hK25 hl25 he25 ho25 hU25 => ?_
    have hX25 := hX23.doK hv23a fa hK25 he25 ho25 hU25
    have aac : ∀ b, a12.a = some (adr b) → a11.a ≠ some (adr b) := fun b h1 h2 => by have := hf22 b h1; have := hv21.lt h2; omega
    have hv25c := hv23c.upd hU25 fun b hb e => by
      rcases e with e | e | e
      · exact fc b hb (e ▸ hX.fp.2.2)
      · exact fc b hb (hX.fk b e)
      · exact aac b hb e
    have z25 := hU25.size
    refine Jn.mk (fun b H' => b = true ∧ H25 = H') (fun kk10 hkk10 => ?_) ?_
    · rw [Br_true]
      refine B2S_rb hv25c.rb ?_
      rw [beq_self_eq_true]
      exact hkk10 _ _ ⟨rfl, rfl⟩
    rintro _ _ ⟨rfl, rfl⟩
    have lc := fun b (hb : a12.a = some (adr b)) => hv22.lt hb
    refine s_keep hX25.kt (by omega) hv25c hc22 (fun e he b h1 h2 => ?_) hbd fun ks27 es27 H27 hK27 hl27 he27 ho27 hU27 => ?_
    · rcases he25 e he with g | g | g
      · exact fc b h1 (hX.fe e g b h2)
      · exact aac b h1 (by rw [← g]; exact h2)
      · have := g b h2; have := lc b h1; omega
    have hX27 := hX25.doK hv25c (fun b hb e => by
      rcases e with (e | e) | e
      · exact fc b hb e
      · have := lc b hb; omega
      · exact aac b hb e) hK27 he27 ho27 hU27
    have z27 := hU27.size
    refine hkk8 _ _ ⟨rfl, ((((up1.ext hE21).ext hE22).ext hE23).trans hU25 fun b hb e => ?_).trans hU27 fun b hb e => ?_, s, sA, sB, ks27, es27, r, hX27.mono fun b hb => ?_, by omega⟩
    · rcases e with e | e | e
      · exact e ▸ hX.fp.2.2
      · exact hX.fk b e
      · have := hf21 b e; omega
    · rcases e with e | e | e
      · exact e ▸ hX.fp.2.2
      · rcases ho25 b e with g | g
        · exact hX.fk b g
        · omega
      · have := hf22 b e; omega
    · rcases hb with ((((h | h) | h) | h) | h)
      · exact .inl h
      · exact .inr (by omega)
      · have := hf21 b h; have := hv21.lt h; exact .inr (by omega)
      · exact .inr (by omega)
      · have := hf22 b h; have := lc b h; exact .inr (by omega)
  refine Jn.mk (fun b H' => b = true ∧ Upd F H H' ∧ ∃ s sA sB ks es r, PX (Gr F H H') H' q p s p' sA sB ks es r r ∧ es.length ≤ n + 4) (fun kk11 hkk11 => ?_) (fun b H2 h => hkk8 _ _ h)
  refine Br.mk (fun _ => ?_) fun _ => ?_
  · -- Fuse
    refine Ld_ptr hX1.qrow.1 ?_
    refine Ld_int ((hr1.cell 2).trans rfl) ?_
    refine s_Fuse hX1.st hi fun H29 hS29 hU29 => ?_
    have hX29 := hX1.doS hS29 (.refl _ _) (upS hU29)
    refine Ld_ptr hX29.qrow.2 ?_
    refine Ld_int (((hU29.row hr1 bxp.1).cell 2).trans rfl) ?_
    refine s_ref_Fuse hX29.rt hi fun H30 hR30 hU30 => ?_
    rw [beq_self_eq_true]
    exact hkk11 _ _ ⟨rfl, both hS29 (.refl _ _) (upS hU29) hR30 (.refl _ _ _) hU30⟩
  refine Jn.mk (fun b H' => b = true ∧ Upd F H H' ∧ ∃ s sA sB ks es r, PX (Gr F H H') H' q p s p' sA sB ks es r r ∧ es.length ≤ n + 4) (fun kk12 hkk12 => ?_) (fun b H2 h => hkk11 _ _ h)
  refine Br.mk (fun _ => ?_) fun _ => ?_
  · -- Crash
    refine Ld_sl (s := x) ((hr1.cell 3).trans rfl) ?_
    have hE01 := hE.ext hE1
    refine s_lent (hx.ext hE01) hl fun c H4 hc hc4 hE4 => ?_
    have hcl := hc4.lt
    have s1 := hE1.size
    have s4 := hE4.size
    have hX4 : PX (Gc F H H4 c) H4 q p s p' sA sB ks es r r := (hX1.ext hE4).mono fun b hb => ⟨.inl hb, by have := hF b hb; omega⟩
    have hr4 := hE4.row hr1 fun h => h
    refine Ld_ptr hX4.qrow.1 ?_
    refine Ld_int ((hr4.cell 2).trans rfl) ?_
    have hrb4 : RB H4 ⟨some (adr c), bs.length, bs.length + 8⟩ bs := ⟨by have := hc4.rd_all; rw [u8s, List.map_append] at this; have := hcells_take (n := bs.length) this; rwa [List.take_left' (by simp)] at this, rfl, by dsimp only; omega⟩
    refine s_Crash (x := ⟨some (adr c), bs.length, bs.length + 8⟩) hX4.st hrb4 (by omega) hi fun s5 H5 hS5 ho5 hU5 => ?_
    have z5 := hU5.size
    have hX5 := (hX4.doS hS5 ho5 hU5).mono (Gc.step (by omega) z5 hcl)
    have up5 : Upd F H H5 := (up1.trans hE4 fun _ _ h => h.elim).trans hU5 fun b hb e => by
      rcases e with e | e
      · exact e ▸ hX.fp.1
      · exact hX.fs b e
    have hr5 := hU5.row hr4 fun e => by
      rcases e with e | e
      · exact bxp.1 e
      · exact bxp.2.2 _ e rfl
    have hc5 := hU5.row hc4 fun e => by
      rcases e with e | e
      · have := hF _ hX.fp.1; omega
      · have := hF _ (hX.fs _ e); omega
    have ext0 : ∀ {H' : Heap}, Upd F H H' → Ext H0 H' := fun hu => hE.trans hu fun b hb e => by have := hF0 b e; omega
    refine Ld_sl (s := x) ((hr5.cell 3).trans rfl) ?_
    refine s_back hx (ext0 up5) (by omega) hl hc5 fun H6 hU6 hc6 => ?_
    have hX6 := hX5.upd hU6 fun b hb e => hb.2 e
    have up6 : Upd F H H6 := up5.trans hU6 fun b hb e => by omega
    have hr6 := hU6.row hr5 (by omega)
    have s6 := hU6.size
    refine Jn.mk (fun b H' => b = true ∧ Upd F H H' ∧ ∃ s sA sB ks es r, PX (Gr F H H') H' q p s p' sA sB ks es r r ∧ es.length ≤ n + 4) (fun kk13 hkk13 => ?_) (fun b H2 h => hkk12 _ _ h)
    rw [Br_true]
    refine Ld_ptr hX6.qrow.2 ?_
    refine Ld_int ((hr6.cell 2).trans rfl) ?_
    refine Ld_sl (s := x) ((hr6.cell 3).trans rfl) ?_
    refine s_ref_Crash hX6.rt (hx.ext (ext0 up6)) (by omega) hi fun sA7 sB7 H7 hR7 ho7 hU7 => ?_
    rw [beq_self_eq_true]
    have s7 := hU7.size
    refine hkk13 _ _ ⟨rfl, up6.trans hU7 fun b hb e => e ▸ hX.fp.2.1, s5, sA7, sB7, ks, es, _, (hX6.doR hR7 ho7 hU7).mono fun b hb => ?_, by omega⟩
    rcases hb with ⟨h | h, _⟩ | h
    · exact .inl h
    · exact .inr (by omega)
    · exact .inr (by omega)
  refine Jn.mk (fun _ H' => Upd F H H' ∧ ∃ s sA sB ks es r, PX (Gr F H H') H' q p s p' sA sB ks es r r ∧ es.length ≤ n + 4) (fun kk14 hkk14 => ?_) (fun _ H2 h => hkk12 _ _ ⟨rfl, h⟩)
  refine Br.mk (fun _ => ?_) fun _ => hkk14 _ _ ⟨up1, s, sA, sB, ks, es, r, hX1.mono fun b hb => .inl hb, by omega⟩
  refine Ld_ptr hX1.qrow.1 ?_
  refine s_Restart hX1.st fun H38 hS38 hU38 => ?_
  have hX38 := hX1.doS hS38 (.refl _ _) (upS hU38)
  refine Ld_ptr hX38.qrow.2 ?_
  refine s_ref_Restart hX38.rt fun H39 hR39 hU39 => ?_
  exact hkk14 _ _ (both hS38 (.refl _ _) (upS hU38) hR39 (.refl _ _ _) hU39)
end Go.Proofs.Ytpkpebgpiakbeaa
