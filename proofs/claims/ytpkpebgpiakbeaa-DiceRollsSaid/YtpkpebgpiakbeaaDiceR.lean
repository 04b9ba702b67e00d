/-
  Rolls of two dice by turns; the orders that come out stay their owner's.
-/
import Derived.Test.YtpkpebgpiakbeaaDiceB
import Derived.Test.YtpkpebgpiakbeaaHcVec
namespace Go.Proofs.Ytpkpebgpiakbeaa
set_option linter.unusedVariables false
set_option linter.unusedSimpArgs false
open Go.Proofs.Ytpkpebgpiakbeaa.Hc Go.Proofs.Ytpkpebgpiakbeaa.Hc.Dice
set_option maxRecDepth 100000

/-- An order that came out: nil, or a block of its own. -/
structure Ent where
  b : Option Nat
  xs : List Int
def Ent.sl (e : Ent) : Sl := match e.b with
  | none => ⟨none, 0, 0⟩
  | some b => ⟨some (adr b), e.xs.length, e.xs.length⟩
def Ent.v (e : Ent) : Value := .slice e.sl.a e.sl.len e.sl.cap
def Ent.ok (H : Heap) (B : Nat) (e : Ent) : Prop := match e.b with
  | none => e.xs = []
  | some b => Row H b T_int (ints e.xs) ∧ B ≤ b
theorem Ent.ok.len {H : Heap} {B : Nat} {e : Ent} (h : e.ok H B) : e.sl.len = e.xs.length := by
  unfold Ent.ok at h; unfold Ent.sl
  cases hb : e.b with
  | none => rw [hb] at h; simp [h]
  | some b => rfl
theorem Ent.ok.rd {H : Heap} {B : Nat} {e : Ent} (h : e.ok H B) : rdL H e.sl.a (ints e.xs) := by
  unfold Ent.ok at h; unfold Ent.sl
  cases hb : e.b with
  | none => rw [hb] at h; simp only [rdL]; rw [h]; rfl
  | some b => rw [hb] at h; exact h.1.rd_all
theorem Ent.ok.upd {M : Nat → Prop} {H H' : Heap} (hu : Upd M H H') {B : Nat} {e : Ent} (h : e.ok H B) (hn : ∀ b, e.b = some b → ¬ M b) : e.ok H' B := by
  unfold Ent.ok at h ⊢
  cases hb : e.b with
  | none => rw [hb] at h; exact h
  | some b => rw [hb] at h; exact ⟨hu.row h.1 (hn b hb), h.2⟩

/-- The book: what came out, and what it must be. -/
structure BookAt (H : Heap) (B bk : Nat) (ls ws : List Ent) : Prop where
  ex : ∃ L W : Sl, Row H bk T_hindcastlaw08_book [.slice L.a L.len L.cap, .slice W.a W.len W.cap] ∧ Vec H T_Sl_int L (ls.map Ent.v) ∧ Vec H T_Sl_int W (ws.map Ent.v) ∧
    (∀ b, L.a = some (adr b) → B ≤ b ∧ W.a ≠ some (adr b)) ∧ (∀ b, W.a = some (adr b) → B ≤ b)
  bk : B ≤ bk
  lok : ∀ e ∈ ls, e.ok H B
  wok : ∀ e ∈ ws, e.ok H B
  eq : ls.map Ent.xs = ws.map Ent.xs
  nd : (ls.filterMap Ent.b).Nodup
  le : ls.length ≤ 40
  xl : ∀ e ∈ ls, e.xs.length ≤ 1000

/-- Two lists that read alike. -/
theorem s_same08 {a b : Sl} {xs : List Int} {H : Heap} {k : Bool → Heap → Prop} (ha : rdL H a.a (ints xs)) (hb : rdL H b.a (ints xs)) (la : a.len = xs.length) (lb : b.len = xs.length) (hl : xs.length < 9223372036854775807)
    (hk : k true H) : CallT Pg f_hindcastlaw08_same [.slice a.a a.len a.cap, .slice b.a b.len b.cap] (.one (.c .bool)) H k := by
  apply c_hindcastlaw08_same
  unfold v_hindcastlaw08_same
  rw [la, lb, bne_self_eq_false, Br_false]
  refine LoopT.mk (fun i H' => H = H' ∧ ∃ j : Nat, i = j ∧ j ≤ xs.length) (fun i _ => (xs.length - i).toNat) ⟨rfl, 0, rfl, by omega⟩ ?_
  rintro next _ _ ⟨rfl, j, rfl, hj⟩ hnext
  refine Br_dec (fun hlt => ?_) fun hge => hk
  have hne : ints xs ≠ [] := by intro h; have := congrArg List.length h; simp at this; subst this; simp at hlt; omega
  have cell : ∀ s : Sl, rdL H s.a (ints xs) → ∃ p, s.a = some p ∧ hcell H (p.add j) = some (.int .i64 (xs.getD j 0)) := by
    intro s hs
    cases hsa : s.a with
    | none => rw [hsa] at hs; exact absurd hs hne
    | some p =>
      rw [hsa] at hs
      refine ⟨p, rfl, ?_⟩
      have := hcells_iff.1 hs j (by simp; omega)
      rw [Nat.zero_add] at this
      rw [this]; exact ints_get (by omega)
  obtain ⟨p, hp, cp⟩ := cell a ha
  obtain ⟨q, hq, cq⟩ := cell b hb
  refine IxA.mk hp (by omega) (by rw [la]; exact hlt) ?_
  rw [Int.toNat_natCast, Nat.mul_one]
  refine Ld_int cp ?_
  refine IxA.mk hq (by omega) (by rw [lb]; exact hlt) ?_
  rw [Int.toNat_natCast, Nat.mul_one]
  refine Ld_int cq ?_
  rw [bne_self_eq_false, Br_false, Lt_def, wrap_i64_id (by omega) (by omega)]
  exact hnext _ _ ⟨rfl, j + 1, by omega, by omega⟩ (by omega)

theorem BookAt.upd {M : Nat → Prop} {H H' : Heap} (hu : Upd M H H') {B bk : Nat} {ls ws : List Ent} (h : BookAt H B bk ls ws)
    (hn : ∀ b T vs, Row H b T vs → T = T_hindcastlaw08_book ∨ T = T_Sl_int ∨ T = T_int → ¬ M b) : BookAt H' B bk ls ws := by
  obtain ⟨L, W, h1, h2, h3, h4, h5⟩ := h.ex
  refine ⟨⟨L, W, hu.row h1 (hn _ _ _ h1 (.inl rfl)), h2.upd hu fun b hb => ?_, h3.upd hu fun b hb => ?_, h4, h5⟩, h.bk, fun e he => ?_, fun e he => ?_, h.eq, h.nd, h.le, h.xl⟩
  · rcases h2.own with ⟨h, _⟩ | ⟨c, sp, h, hr, _⟩
    · rw [h] at hb; cases hb
    · rw [h] at hb; cases hb; exact hn _ _ _ hr (.inr (.inl rfl))
  · rcases h3.own with ⟨h, _⟩ | ⟨c, sp, h, hr, _⟩
    · rw [h] at hb; cases hb
    · rw [h] at hb; cases hb; exact hn _ _ _ hr (.inr (.inl rfl))
  · refine (h.lok e he).upd hu fun b hb => ?_
    have := h.lok e he
    unfold Ent.ok at this; rw [hb] at this
    exact hn _ _ _ this.1 (.inr (.inr rfl))
  · refine (h.wok e he).upd hu fun b hb => ?_
    have := h.wok e he
    unfold Ent.ok at this; rw [hb] at this
    exact hn _ _ _ this.1 (.inr (.inr rfl))
theorem BookAt.ext {H H' : Heap} (hu : Ext H H') {B bk : Nat} {ls ws : List Ent} (h : BookAt H B bk ls ws) : BookAt H' B bk ls ws := h.upd hu fun _ _ _ _ _ h => h
theorem BookAt.keepP {H H' : Heap} {p : Nat} {s : Int} (hu : Upd (· = p) H H') (hp : DieP H p s) {B bk : Nat} {ls ws : List Ent} (h : BookAt H B bk ls ws) : BookAt H' B bk ls ws :=
  h.upd hu fun b T vs hr hT e => by
    subst e
    exact (hr.ne (vs' := [.int .u64 s]) hp (by rcases hT with rfl | rfl | rfl <;> decide)) rfl
theorem BookAt.keepR {H H' : Heap} {p : Nat} {s : Int} (hu : Upd (· = p) H H') (hp : DieR H p s) {B bk : Nat} {ls ws : List Ent} (h : BookAt H B bk ls ws) : BookAt H' B bk ls ws :=
  h.upd hu fun b T vs hr hT e => by
    subst e
    exact (hr.ne (vs' := [.int .u64 s]) hp (by rcases hT with rfl | rfl | rfl <;> decide)) rfl

/-- 'Shuffle' of any number. -/
noncomputable def ShufE (s n : Int) : List Int × Int := if n < 1 ∨ n > 1000 then ([], s) else ShuffleF s n.toNat
theorem ShufE_bd (s n : Int) (h0 : 0 ≤ s) (h1 : s < 18446744073709551616) : 0 ≤ (ShufE s n).2 ∧ (ShufE s n).2 < 18446744073709551616 := by
  unfold ShufE; split
  · exact ⟨h0, h1⟩
  · exact ShuffleF_bd s _ h0 h1
theorem ShufE_len (s n : Int) : (ShufE s n).1.length ≤ 1000 := by
  unfold ShufE; split
  · simp
  · rw [ShuffleF_len s _ (by omega)]; omega
theorem s_dice_ShufE {p : Nat} {s n : Int} {H : Heap} {k : Sl → Heap → Prop} (hp : DieP H p s) (h0 : 0 ≤ s) (h1 : s < 18446744073709551616)
    (hk : ∀ (e : Ent) H', e.xs = (ShufE s n).1 → e.ok H' H.size → Upd (· = p) H H' → DieP H' p (ShufE s n).2 → k e.sl H') :
    CallT Pg f_dice_Dice_Shuffle [.pointer (some (adr p)), .int .i64 n] (.one (.c .sl)) H k := by
  refine s_dice_Shuffle hp h0 h1 (fun h => ?_) fun ha hb b H' hbb hU hp' hr => ?_
  · have e : ShufE s n = ([], s) := if_pos h
    rw [e] at hk
    exact hk ⟨none, []⟩ H rfl rfl (.refl _ _) hp
  · have e : ShufE s n = ShuffleF s n.toNat := if_neg (by omega)
    rw [e] at hk
    have hl := ShuffleF_len s n.toNat (by omega)
    have := hk ⟨some b, (ShuffleF s n.toNat).1⟩ H' rfl ⟨hr, hbb⟩ hU hp'
    simp only [Ent.sl, hl] at this
    exact this
theorem s_ref_ShufE {p : Nat} {s n : Int} {H : Heap} {k : Sl → Heap → Prop} (hp : DieR H p s) (h0 : 0 ≤ s) (h1 : s < 18446744073709551616)
    (hk : ∀ (e : Ent) H', e.xs = (ShufE s n).1 → e.ok H' H.size → Upd (· = p) H H' → DieR H' p (ShufE s n).2 → k e.sl H') :
    CallT Pg f_hindcastref08_Dice_Shuffle [.pointer (some (adr p)), .int .i64 n] (.one (.c .sl)) H k := by
  refine s_ref_Shuffle hp h0 h1 (fun h => ?_) fun ha hb b H' hbb hU hp' hr => ?_
  · have e : ShufE s n = ([], s) := if_pos h
    rw [e] at hk
    exact hk ⟨none, []⟩ H rfl rfl (.refl _ _) hp
  · have e : ShufE s n = ShuffleF s n.toNat := if_neg (by omega)
    rw [e] at hk
    have hl := ShuffleF_len s n.toNat (by omega)
    have := hk ⟨some b, (ShuffleF s n.toNat).1⟩ H' rfl ⟨hr, hbb⟩ hU hp'
    simp only [Ent.sl, hl] at this
    exact this

/-- What a roll may turn: its two dice, and what is no die and not the caller's. -/
def RollM (H : Heap) (B p r b : Nat) : Prop := b = p ∨ b = r ∨ (B ≤ b ∧ ∀ s, ¬ DieP H b s ∧ ¬ DieR H b s)
theorem not_die {H : Heap} {b : Nat} {T : TypeId} {vs : List Value} (h : Row H b T vs) (h1 : T ≠ T_dice_Dice) (h2 : T ≠ T_hindcastref08_Dice) : ∀ s, ¬ DieP H b s ∧ ¬ DieR H b s := fun s =>
  ⟨fun hd => (h.ne (vs' := [.int .u64 s]) hd h1) rfl, fun hd => (h.ne (vs' := [.int .u64 s]) hd h2) rfl⟩

theorem s_roll {B bk p r : Nat} {s : Int} {ls ws : List Ent} {H : Heap} {k : Bool → Heap → Prop} (o : Int × Int × Int × Int × Int) (ho : I64 o.1 ∧ I64 o.2.1 ∧ I64 o.2.2.1 ∧ I64 o.2.2.2.1 ∧ I64 o.2.2.2.2)
    (hB : BookAt H B bk ls ws) (hp : DieP H p s) (hr : DieR H r s) (hs0 : 0 ≤ s) (hs1 : s < 18446744073709551616) (hBH : B ≤ H.size)
    (hk : ∀ ls' ws' s' H', BookAt H' B bk ls' ws' → DieP H' p s' → DieR H' r s' → 0 ≤ s' → s' < 18446744073709551616 → Upd (RollM H B p r) H H' → k true H') :
    CallT Pg f_hindcastlaw08_book_roll [.pointer (some (adr bk)), .pointer (some (adr p)), .pointer (some (adr r)), .agg #[.int .i64 o.1, .int .i64 o.2.1, .int .i64 o.2.2.1, .int .i64 o.2.2.2.1, .int .i64 o.2.2.2.2]] (.one (.c .bool)) H k := by
  apply c_hindcastlaw08_book_roll
  unfold v_hindcastlaw08_book_roll
  simp only [adr_add, NilCk_some]
  have hpr : p ≠ r := Row.ne (vs := [.int .u64 s]) (vs' := [.int .u64 s]) hp hr (by decide)
  have lp := lt_of_get hp
  have lr := lt_of_get hr
  refine Nw_row fun b1 H1 hb1 hE1 _ hr1 => ?_
  have hB1 := hB.ext hE1
  have hp1 : DieP H1 p s := hE1.keep hp fun h => h
  have hd1 : DieR H1 r s := hE1.keep hr fun h => h
  refine Ld_int ((hr1.cell 0).trans rfl) ?_
  refine s_pick08 _ 4 ho.1 (by omega) ?_
  generalize pickF o.1 4 = kind
  have uP : ∀ {H2}, Upd (· = p) H1 H2 → Upd (RollM H B p r) H H2 := fun hU => (hE1.mono fun _ _ h => h.elim).trans hU fun b _ e => .inl e
  refine Br.mk (fun _ => ?_) fun _ => ?_
  · -- Below
    refine Ld_int ((hr1.cell 3).trans rfl) ?_
    refine Ld_int ((hr1.cell 3).trans rfl) ?_
    refine s_dice_Below hp1 hs0 hs1 ho.2.2.2.1 fun H3 hU3 hp3 => ?_
    have hr3 := hU3.row hr1 (by omega)
    refine Stab_1 ((hr3.cell 3).trans rfl) ?_
    have hd3 : DieR H3 r s := hU3.keep hd1 (fun e => hpr e.symm)
    refine s_ref_Below hd3 hs0 hs1 ho.2.2.2.1 fun H4 hU4 hd4 => ?_
    have hr4 := hU4.row hr3 (by omega)
    refine Stab_1 ((hr4.cell 3).trans rfl) ?_
    rw [beq_self_eq_true]
    have hb := BelowF_bd s o.2.2.2.1 hs0 hs1
    exact hk ls ws _ H4 ((hB1.keepP hU3 hp1).keepR hU4 hd3) (hU4.keep hp3 hpr) hd4 hb.1 hb.2 ((uP hU3).trans hU4 fun b _ e => .inr (.inl e))
  refine Br.mk (fun _ => ?_) fun _ => ?_
  · -- Between
    refine Ld_int ((hr1.cell 3).trans rfl) ?_
    refine Ld_int ((hr1.cell 4).trans rfl) ?_
    refine Ld_int ((hr1.cell 3).trans rfl) ?_
    refine Ld_int ((hr1.cell 4).trans rfl) ?_
    refine s_dice_Between hp1 hs0 hs1 ho.2.2.2.1 ho.2.2.2.2 fun H3 hU3 hp3 => ?_
    have hr3 := hU3.row hr1 (by omega)
    refine Stab_2 ((hr3.cell 4).trans rfl) ((hr3.cell 3).trans rfl) ?_
    have hd3 : DieR H3 r s := hU3.keep hd1 (fun e => hpr e.symm)
    refine s_ref_Between hd3 hs0 hs1 ho.2.2.2.1 ho.2.2.2.2 fun H4 hU4 hd4 => ?_
    have hr4 := hU4.row hr3 (by omega)
    refine Stab_2 ((hr4.cell 4).trans rfl) ((hr4.cell 3).trans rfl) ?_
    rw [beq_self_eq_true]
    have hb := BetweenF_bd s o.2.2.2.1 o.2.2.2.2 hs0 hs1
    exact hk ls ws _ H4 ((hB1.keepP hU3 hp1).keepR hU4 hd3) (hU4.keep hp3 hpr) hd4 hb.1 hb.2 ((uP hU3).trans hU4 fun b _ e => .inr (.inl e))
  refine Br.mk (fun _ => ?_) fun _ => ?_
  · -- Shuffle
    refine Ld_int ((hr1.cell 2).trans rfl) ?_
    refine s_dice_ShufE hp1 hs0 hs1 fun e1 H7 hx1 hok1 hU7 hp7 => ?_
    have hr7 := hU7.row hr1 (by omega)
    refine Ld_int ((hr7.cell 2).trans rfl) ?_
    have hd7 : DieR H7 r s := hU7.keep hd1 (fun e => hpr e.symm)
    refine s_ref_ShufE hd7 hs0 hs1 fun e2 H8 hx2 hok2 hU8 hd8 => ?_
    have hb := ShufE_bd s o.2.2.1 hs0 hs1
    have hlen := ShufE_len s o.2.2.1
    have hp8 : DieP H8 p _ := hU8.keep hp7 hpr
    have hB8 := (hB1.keepP hU7 hp1).keepR hU8 hd7
    have hU08 := (uP hU7).trans hU8 fun b _ e => .inr (.inl e)
    have s18 : H1.size ≤ H8.size := Nat.le_trans hU7.size hU8.size
    have hok1' : e1.ok H8 H1.size := hok1.upd hU8 fun b hb' e => by
      unfold Ent.ok at hok1; rw [hb'] at hok1; dsimp only at hok1; omega
    have fresh1 : ∀ b, e1.b = some b → H1.size ≤ b ∧ b < H7.size := fun b hb' => by
      unfold Ent.ok at hok1; rw [hb'] at hok1; exact ⟨hok1.2, hok1.1.lt⟩
    have fresh2 : ∀ b, e2.b = some b → H7.size ≤ b ∧ b < H8.size := fun b hb' => by
      unfold Ent.ok at hok2; rw [hb'] at hok2; exact ⟨hok2.2, hok2.1.lt⟩
    have hxx : e1.xs = e2.xs := hx1.trans hx2.symm
    have len1 : e1.xs.length ≤ 1000 := by rw [hx1]; exact hlen
    obtain ⟨L, W, hbk0, hL0, hW0, hLW, hWB⟩ := hB.ex
    have kr : ∀ b T vs, Row H b T vs → T ≠ T_dice_Dice → T ≠ T_hindcastref08_Dice → Row H8 b T vs := fun b T vs h t1 t2 =>
      hU8.row (hU7.row (hE1.row h fun h => h) (h.ne (vs' := [.int .u64 s]) hp t1)) (h.ne (vs' := [.int .u64 s]) hr t2)
    have kv : ∀ s vs, Vec H T_Sl_int s vs → Vec H8 T_Sl_int s vs := fun s vs h => ⟨h.len, h.own.imp id fun ⟨b, sp, h1, h2, h3⟩ => ⟨b, sp, h1, kr _ _ _ h2 (by decide) (by decide), h3⟩⟩
    have hbk := kr _ _ _ hbk0 (by decide) (by decide)
    have hL := kv _ _ hL0
    have hW := kv _ _ hW0
    have nodie : ∀ s vs b, Vec H T_Sl_int s vs → s.a = some (adr b) → B ≤ b → RollM H B p r b := fun s vs b h hb hBb => by
      rcases h.own with ⟨h1, _⟩ | ⟨c, sp, h1, h2, _⟩
      · rw [h1] at hb; cases hb
      · rw [h1] at hb; cases hb; exact .inr (.inr ⟨hBb, not_die h2 (by decide) (by decide)⟩)
    refine Ld_sl ((hbk.cell 0).trans rfl) ?_
    -- in the end they are compared
    have fin : ∀ ls' ws' H9, BookAt H9 B bk ls' ws' → Upd (RollM H B p r) H8 H9 → (∀ b, e1.b = some b ∨ e2.b = some b → H9[b]? = H8[b]?) → DieP H9 p (ShufE s o.2.2.1).2 → DieR H9 r (ShufE s o.2.2.1).2 →
        CallT Pg f_hindcastlaw08_same [.slice e1.sl.a e1.sl.len e1.sl.cap, .slice e2.sl.a e2.sl.len e2.sl.cap] (.one (.c .bool)) H9 (fun (r8 : Bool) H16 => k r8 H16) := by
      intro ls' ws' H9 hB9 hU9 hsame hp9 hd9
      have k1 : e1.ok H9 H1.size := by
        unfold Ent.ok at hok1' ⊢
        cases hb' : e1.b with
        | none => rw [hb'] at hok1'; exact hok1'
        | some b => rw [hb'] at hok1'; exact ⟨(hsame b (.inl hb')).trans hok1'.1, hok1'.2⟩
      have k2 : e2.ok H9 H7.size := by
        unfold Ent.ok at hok2 ⊢
        cases hb' : e2.b with
        | none => rw [hb'] at hok2; exact hok2
        | some b => rw [hb'] at hok2; exact ⟨(hsame b (.inr hb')).trans hok2.1, hok2.2⟩
      refine s_same08 (xs := e1.xs) k1.rd (by rw [hxx]; exact k2.rd) k1.len (by rw [hxx]; exact k2.len) (by omega) ?_
      exact hk ls' ws' _ H9 hB9 hp9 hd9 hb.1 hb.2 (hU08.trans hU9 fun b _ h => h)
    refine Jn.mk (fun _ H9 => ∃ ls' ws', BookAt H9 B bk ls' ws' ∧ Upd (RollM H B p r) H8 H9 ∧ (∀ b, e1.b = some b ∨ e2.b = some b → H9[b]? = H8[b]?) ∧ DieP H9 p (ShufE s o.2.2.1).2 ∧ DieR H9 r (ShufE s o.2.2.1).2)
      (fun kk hkk => ?_) fun _ H9 ⟨ls', ws', h1, h2, h3, h4, h5⟩ => fin ls' ws' H9 h1 h2 h3 h4 h5
    refine Br_dec (fun hlt => ?_) fun _ => hkk _ _ ⟨ls, ws, hB8, .refl _ _, fun _ _ => rfl, hp8, hd8⟩
    have hlen40 : ls.length < 40 := by have := hL.len; simp at this; omega
    have hwlen : ws.length = ls.length := by have := congrArg List.length hB8.eq; simpa using this.symm
    refine Ld_sl ((hbk.cell 0).trans rfl) ?_
    refine Nw_row fun b2 H10 hb2 hE10 _ hr10 => ?_
    refine App_vec (hL.upd hE10 fun _ _ h => h) (ws := [e1.v]) hr10.rd_all rfl (by simp [Ent.v, Value.oneCell']) (by omega) (by simp; omega) fun l1 H11 hv11 hU11 hl1 hs11 => ?_
    have hbk10 := hE10.row hbk fun h => h
    have hL10 := hL.upd hE10 fun _ _ h => h
    have hW10 := hW.upd hE10 fun _ _ h => h
    have hbk11 := hU11.row hbk10 fun e => hL10.ne e.1 hbk10 (by decide) rfl
    have hW11 := hW10.upd hU11 fun b hb e => (hLW b e.1).2 hb
    have lB8 : H.size ≤ H8.size := hU08.size
    refine St_row hbk11 (by simp) fun H12 hU12 hs12 hbk12 => ?_
    have hv12 := hv11.upd hU12 fun b hb e => hv11.ne hb hbk11 (by decide) e
    have hW12 := hW11.upd hU12 fun b hb e => hW11.ne hb hbk11 (by decide) e
    refine Ld_sl ((hbk12.cell 1).trans rfl) ?_
    refine Nw_row fun b3 H13 hb3 hE13 _ hr13 => ?_
    have hv13 := hv12.upd hE13 fun _ _ h => h
    have hW13 := hW12.upd hE13 fun _ _ h => h
    have hbk13 := hE13.row hbk12 fun h => h
    refine App_vec hW13 (ws := [e2.v]) hr13.rd_all rfl (by simp [Ent.v, Value.oneCell']) (by omega) (by simp; omega) fun l2 H14 hv14 hU14 hl2 hs14 => ?_
    have hne1 : ∀ b, l1.a = some (adr b) → W.a ≠ some (adr b) := fun b hb hb2 => by
      rcases hl1 with h | h
      · rw [h] at hb; exact (hLW b hb).2 hb2
      · rw [h] at hb; cases hb; have := hW10.lt hb2; omega
    have hv14' := hv13.upd hU14 fun b hb e => hne1 b hb e.1
    have hbk14 := hU14.row hbk13 fun e => hW13.ne e.1 hbk13 (by decide) rfl
    refine St_row hbk14 (by simp) fun H15 hU15 hs15 hbk15 => ?_
    have hv15 := hv14'.upd hU15 fun b hb e => hv14'.ne hb hbk14 (by decide) e
    have hw15 := hv14.upd hU15 fun b hb e => hv14.ne hb hbk14 (by decide) e
    -- all that has turned
    have hM : Upd (fun b => b = bk ∨ L.a = some (adr b) ∨ W.a = some (adr b)) H8 H15 :=
      ((((((hE10.mono fun _ _ h => h.elim).trans hU11 fun b _ e => .inr (.inl e.1)).trans hU12 fun b _ e => .inl e).trans hE13 fun _ _ h => h.elim).trans hU14 fun b _ e => .inr (.inr e.1)).trans hU15 fun b _ e => .inl e)
    have rowM : ∀ b T vs, Row H8 b T vs → T ≠ T_hindcastlaw08_book → T ≠ T_Sl_int → Row H15 b T vs := fun b T vs h t1 t2 => hM.row h (by
      rintro (e | e | e)
      · exact h.ne hbk t1 e
      · exact hL.ne e h (fun t => t2 t.symm) rfl
      · exact hW.ne e h (fun t => t2 t.symm) rfl)
    have entM : ∀ (e : Ent) C, e.ok H8 C → e.ok H15 C := fun e C h => by
      unfold Ent.ok at h ⊢
      cases hb' : e.b with
      | none => rw [hb'] at h; exact h
      | some b => rw [hb'] at h; exact ⟨rowM _ _ _ h.1 (by decide) (by decide), h.2⟩
    have down : ∀ (e : Ent) C, e.ok H15 C → B ≤ C → e.ok H15 B := fun e C h hc => by
      unfold Ent.ok at h ⊢
      cases hb' : e.b with
      | none => rw [hb'] at h; exact h
      | some b => rw [hb'] at h; exact ⟨h.1, Nat.le_trans hc h.2⟩
    refine hkk _ _ ⟨ls ++ [e1], ws ++ [e2], ?_, hM.mono fun b hb e => ?_, fun b hb => ?_, rowM _ _ [.int .u64 _] hp8 (by decide) (by decide), rowM _ _ [.int .u64 _] hd8 (by decide) (by decide)⟩
    · refine ⟨⟨l1, l2, hbk15, by rw [List.map_append]; exact hv15, by rw [List.map_append]; exact hw15, fun b hb => ⟨?_, fun hb2 => ?_⟩, fun b hb => ?_⟩, hB.bk, ?_, ?_, by simp [hB.eq, hxx], ?_, by simp; omega, fun e he => (List.mem_append.1 he).elim (hB.xl e) fun h => by simp only [List.mem_singleton] at h; subst h; exact len1⟩
      · rcases hl1 with h | h
        · rw [h] at hb; exact (hLW b hb).1
        · rw [h] at hb; cases hb; have := hE10.size; omega
      · rcases hl2 with h | h
        · rw [h] at hb2; exact hne1 b hb hb2
        · rw [h] at hb2; cases hb2; have := hv13.lt hb; omega
      · rcases hl2 with h | h
        · rw [h] at hb; exact hWB b hb
        · rw [h] at hb; cases hb; have := hE10.size; have := hE13.size; omega
      · intro e he
        rcases List.mem_append.1 he with he | he
        · exact entM e B (hB8.lok e he)
        · simp only [List.mem_singleton] at he; subst he; exact down _ _ (entM _ _ hok1') (by have := hE1.size; omega)
      · intro e he
        rcases List.mem_append.1 he with he | he
        · exact entM e B (hB8.wok e he)
        · simp only [List.mem_singleton] at he; subst he; exact down _ _ (entM _ _ hok2) (by have := hE1.size; have := hU7.size; omega)
      · rw [List.filterMap_append, List.nodup_append]
        refine ⟨hB.nd, ?_, ?_⟩
        · cases hb' : e1.b <;> simp [hb']
        · intro x hx y hy
          simp only [List.mem_filterMap, List.mem_singleton] at hx hy
          obtain ⟨e, he, hex⟩ := hx
          obtain ⟨e', rfl, hey⟩ := hy
          have h1 := fresh1 y hey
          have h2 := hB.lok e he
          unfold Ent.ok at h2; rw [hex] at h2
          have := h2.1.lt
          have := hE1.size
          omega
    · rcases e with e | e | e
      · subst e; exact .inr (.inr ⟨hB.bk, not_die hbk0 (by decide) (by decide)⟩)
      · exact nodie L _ b hL0 e (hLW b e).1
      · exact nodie W _ b hW0 e (hWB b e)
    · have key : ∀ (e : Ent) C, e.ok H8 C → e.b = some b → H15[b]? = H8[b]? := fun e C h hb' => by
        unfold Ent.ok at h; rw [hb'] at h
        exact (rowM _ _ _ h.1 (by decide) (by decide)).trans h.1.symm
      rcases hb with hb | hb
      · exact key e1 _ hok1' hb
      · exact key e2 _ hok2 hb
  · -- Next
    refine s_dice_Next hp1 fun H3 hU3 hp3 => ?_
    have hd3 : DieR H3 r s := hU3.keep hd1 (fun e => hpr e.symm)
    refine s_ref_Next hd3 fun H4 hU4 hd4 => ?_
    rw [beq_self_eq_true]
    have hb := nextS_bd s
    exact hk ls ws _ H4 ((hB1.keepP hU3 hp1).keepR hU4 hd3) (hU4.keep hp3 hpr) hd4 hb.1 hb.2 ((uP hU3).trans hU4 fun b _ e => .inr (.inl e))
end Go.Proofs.Ytpkpebgpiakbeaa
