/-
  Shuffle, and the dice's bounds.
-/
import Derived.Test.YtpkpebgpiakbeaaDice
namespace Go.Proofs.Ytpkpebgpiakbeaa
set_option linter.unusedVariables false
set_option linter.unusedSimpArgs false
open Go.Proofs.Ytpkpebgpiakbeaa.Hc Go.Proofs.Ytpkpebgpiakbeaa.Hc.Dice
set_option maxRecDepth 100000

theorem s_dice_Shuffle {p : Nat} {s n : Int} {H : Heap} {k : Sl → Heap → Prop} (hp : DieP H p s) (h0 : 0 ≤ s) (h1 : s < 18446744073709551616)
    (hk0 : n < 1 ∨ n > 1000 → k ⟨none, 0, 0⟩ H)
    (hk1 : 1 ≤ n → n ≤ 1000 → ∀ b H', H.size ≤ b → Upd (· = p) H H' → DieP H' p (ShuffleF s n.toNat).2 → Row H' b T_int (ints (ShuffleF s n.toNat).1) → k ⟨some (adr b), n.toNat, n.toNat⟩ H') :
    CallT Pg f_dice_Dice_Shuffle [.pointer (some (adr p)), .int .i64 n] (.one (.c .sl)) H k := by
  apply c_dice_Dice_Shuffle
  unfold v_dice_Dice_Shuffle
  refine Jn.mk (fun b H' => H = H' ∧ (b = true ↔ n < 1 ∨ n > 1000)) (fun kk hkk => ?_) ?_
  · refine Br_dec (fun h => hkk _ _ ⟨rfl, by simp [h]⟩) fun h => hkk _ _ ⟨rfl, by simp only [decide_eq_true_eq]; omega⟩
  rintro b _ ⟨rfl, hb⟩
  refine Br.mk (fun h => hk0 (hb.1 h)) fun h => ?_
  have hn : 1 ≤ n ∧ n ≤ 1000 := by
    have : ¬ (n < 1 ∨ n > 1000) := fun h' => by rw [hb.2 h'] at h; cases h
    omega
  refine Mks_row (by omega) (by omega) (by omega) fun b1 H1 hb1 hE1 _ hr1 => ?_
  have hpb : p < b1 := hb1 ▸ lt_of_get hp
  have hp1 : DieP H1 p s := hE1.keep hp (fun h => h)
  refine LoopT.mk (fun i H' => ∃ j : Nat, i = j ∧ j ≤ n.toNat ∧ Upd (· = b1) H1 H' ∧ Row H' b1 T_int (ints (iota j ++ List.replicate (n.toNat - j) 0))) (fun i _ => (n - i).toNat)
    ⟨0, rfl, by omega, .refl _ _, by simpa [iota, ints] using hr1⟩ ?_
  rintro next1 _ H2 ⟨j, rfl, hj, hU2, hr2⟩ hnext1
  dsimp only
  refine Br_dec (fun hlt => ?_) fun hge => ?_
  · refine IxA_adr (by omega) hlt ?_
    rw [Nat.mul_one]
    refine St_row hr2 (by simp [iota_len]; omega) fun H3 hU3 _ hr3 => ?_
    rw [Lt_def, wrap_i64_id (by omega) (by omega)]
    refine hnext1 _ _ ⟨j + 1, by omega, by omega, hU2.trans hU3 fun _ _ h => h, ?_⟩ (by omega)
    rw [Int.toNat_natCast, ints_set, iota_step (by omega)] at hr3
    exact hr3
  · have hjn : j = n.toNat := by omega
    subst hjn
    rw [Nat.sub_self, List.replicate_zero, List.append_nil] at hr2
    have hU2' : Ext H H2 := hE1.trans hU2 fun b hb e => by omega
    have hp2 : DieP H2 p s := hU2'.keep hp fun h => h
    rw [Lt_def, wrap_i64_id (by omega) (by omega)]
    refine LoopT.mk (fun i H' => ∃ (j : Nat) (l : List Int) (s' : Int), i = j ∧ j < n.toNat ∧ l.length = n.toNat ∧ 0 ≤ s' ∧ s' < 18446744073709551616 ∧ shufF s' j l = ShuffleF s n.toNat ∧
      Upd (· = p) H H' ∧ DieP H' p s' ∧ Row H' b1 T_int (ints l)) (fun i _ => i.toNat)
      ⟨n.toNat - 1, iota n.toNat, s, by omega, by omega, iota_len _, h0, h1, rfl, hU2'.mono fun _ _ h => h.elim, hp2, hr2⟩ ?_
    rintro next2 _ H5 ⟨i, l, s', rfl, hi, hl, hs0, hs1, hsh, hU5, hp5, hr5⟩ hnext2
    refine Br_dec (fun hge1 => ?_) fun hlt1 => ?_
    · obtain ⟨m, rfl⟩ : ∃ m, i = m + 1 := ⟨i - 1, by omega⟩
      rw [Lt_def, wrap_i64_id (by omega) (by omega)]
      have e2 : ((m + 1 : Nat) : Int) + 1 = (m : Int) + 2 := by omega
      rw [e2]
      refine s_dice_Below hp5 hs0 hs1 ⟨by omega, by omega⟩ fun H6 hU6 hp6 => ?_
      have hr6 : Row H6 b1 T_int (ints l) := hU6.row hr5 (by omega)
      have hb := BelowF_in s' ((m : Int) + 2) (by omega)
      have hbd := BelowF_bd s' ((m : Int) + 2) hs0 hs1
      simp only [shufF] at hsh
      generalize hq : (BelowF s' ((m : Int) + 2)).1 = q at hb hsh ⊢
      refine IxA_adr hb.1 (by omega) ?_
      rw [Nat.mul_one]
      refine Ld_int ((hr6.cell _).trans (ints_get (by omega))) ?_
      refine IxA_adr (by omega) (by omega) ?_
      rw [Nat.mul_one, Int.toNat_natCast]
      refine Ld_int ((hr6.cell _).trans (ints_get (by omega))) ?_
      refine IxA_adr (by omega) (by omega) ?_
      rw [Nat.mul_one, Int.toNat_natCast]
      refine St_row hr6 (by simp; omega) fun H7 hU7 _ hr7 => ?_
      refine IxA_adr hb.1 (by omega) ?_
      rw [Nat.mul_one]
      refine St_row hr7 (by simp; omega) fun H8 hU8 _ hr8 => ?_
      rw [Lt_def, wrap_i64_id (by omega) (by omega)]
      have hp8 : DieP H8 p (BelowF s' ((m : Int) + 2)).2 := hU8.keep (hU7.keep hp6 (by omega)) (by omega)
      refine hnext2 _ _ ⟨m, swapL l (m + 1) q.toNat, _, by omega, by omega, by rw [swapL_len]; exact hl, hbd.1, hbd.2, hsh, ?_, hp8, ?_⟩ (by omega)
      · have := lt_of_get hp
        exact ((hU5.trans hU6 fun _ _ h => h).trans hU7 fun b hb' e => by omega).trans hU8 fun b hb' e => by omega
      · rw [ints_set, ints_set] at hr8; exact hr8
    · have : i = 0 := by omega
      subst this
      simp only [shufF] at hsh
      have hl' : l = (ShuffleF s n.toNat).1 := by rw [← hsh]
      have hs' : s' = (ShuffleF s n.toNat).2 := by rw [← hsh]
      subst hl' hs'
      exact hk1 hn.1 hn.2 b1 H5 (by omega) hU5 hp5 hr5
theorem s_ref_Shuffle {p : Nat} {s n : Int} {H : Heap} {k : Sl → Heap → Prop} (hp : DieR H p s) (h0 : 0 ≤ s) (h1 : s < 18446744073709551616)
    (hk0 : n < 1 ∨ n > 1000 → k ⟨none, 0, 0⟩ H)
    (hk1 : 1 ≤ n → n ≤ 1000 → ∀ b H', H.size ≤ b → Upd (· = p) H H' → DieR H' p (ShuffleF s n.toNat).2 → Row H' b T_int (ints (ShuffleF s n.toNat).1) → k ⟨some (adr b), n.toNat, n.toNat⟩ H') :
    CallT Pg f_hindcastref08_Dice_Shuffle [.pointer (some (adr p)), .int .i64 n] (.one (.c .sl)) H k := by
  apply c_hindcastref08_Dice_Shuffle
  unfold v_hindcastref08_Dice_Shuffle
  refine Jn.mk (fun b H' => H = H' ∧ (b = true ↔ n < 1 ∨ n > 1000)) (fun kk hkk => ?_) ?_
  · refine Br_dec (fun h => hkk _ _ ⟨rfl, by simp [h]⟩) fun h => hkk _ _ ⟨rfl, by simp only [decide_eq_true_eq]; omega⟩
  rintro b _ ⟨rfl, hb⟩
  refine Br.mk (fun h => hk0 (hb.1 h)) fun h => ?_
  have hn : 1 ≤ n ∧ n ≤ 1000 := by
    have : ¬ (n < 1 ∨ n > 1000) := fun h' => by rw [hb.2 h'] at h; cases h
    omega
  refine Mks_row (by omega) (by omega) (by omega) fun b1 H1 hb1 hE1 _ hr1 => ?_
  have hpb : p < b1 := hb1 ▸ lt_of_get hp
  have hp1 : DieR H1 p s := hE1.keep hp (fun h => h)
  refine LoopT.mk (fun i H' => ∃ j : Nat, i = j ∧ j ≤ n.toNat ∧ Upd (· = b1) H1 H' ∧ Row H' b1 T_int (ints (iota j ++ List.replicate (n.toNat - j) 0))) (fun i _ => (n - i).toNat)
    ⟨0, rfl, by omega, .refl _ _, by simpa [iota, ints] using hr1⟩ ?_
  rintro next1 _ H2 ⟨j, rfl, hj, hU2, hr2⟩ hnext1
  refine Br_dec (fun hlt => ?_) fun hge => ?_
  · refine IxA_adr (by omega) (by omega) ?_
    rw [Nat.mul_one]
    refine St_row hr2 (by simp [iota_len]; omega) fun H3 hU3 _ hr3 => ?_
    rw [Lt_def, wrap_i64_id (by omega) (by omega)]
    refine hnext1 _ _ ⟨j + 1, by omega, by omega, hU2.trans hU3 fun _ _ h => h, ?_⟩ (by omega)
    rw [Int.toNat_natCast, ints_set, iota_step (by omega)] at hr3
    exact hr3
  · have hjn : j = n.toNat := by omega
    subst hjn
    rw [Nat.sub_self, List.replicate_zero, List.append_nil] at hr2
    have hU2' : Ext H H2 := hE1.trans hU2 fun b hb e => by omega
    have hp2 : DieR H2 p s := hU2'.keep hp fun h => h
    rw [Lt_def, wrap_i64_id (by omega) (by omega)]
    refine LoopT.mk (fun i H' => ∃ (j : Nat) (l : List Int) (s' : Int), i = j ∧ j < n.toNat ∧ l.length = n.toNat ∧ 0 ≤ s' ∧ s' < 18446744073709551616 ∧ shufF s' j l = ShuffleF s n.toNat ∧
      Upd (· = p) H H' ∧ DieR H' p s' ∧ Row H' b1 T_int (ints l)) (fun i _ => i.toNat)
      ⟨n.toNat - 1, iota n.toNat, s, by omega, by omega, iota_len _, h0, h1, rfl, hU2'.mono fun _ _ h => h.elim, hp2, hr2⟩ ?_
    rintro next2 _ H5 ⟨i, l, s', rfl, hi, hl, hs0, hs1, hsh, hU5, hp5, hr5⟩ hnext2
    refine Br_dec (fun hge1 => ?_) fun hlt1 => ?_
    · obtain ⟨m, rfl⟩ : ∃ m, i = m + 1 := ⟨i - 1, by omega⟩
      rw [Lt_def, wrap_i64_id (by omega) (by omega)]
      have e2 : ((m + 1 : Nat) : Int) + 1 = (m : Int) + 2 := by omega
      rw [e2]
      refine s_ref_Below hp5 hs0 hs1 ⟨by omega, by omega⟩ fun H6 hU6 hp6 => ?_
      have hr6 : Row H6 b1 T_int (ints l) := hU6.row hr5 (by omega)
      have hb := BelowF_in s' ((m : Int) + 2) (by omega)
      have hbd := BelowF_bd s' ((m : Int) + 2) hs0 hs1
      simp only [shufF] at hsh
      generalize hq : (BelowF s' ((m : Int) + 2)).1 = q at hb hsh ⊢
      refine IxA_adr (by omega) (by omega) ?_
      rw [Nat.mul_one, Int.toNat_natCast]
      refine Ld_int ((hr6.cell _).trans (ints_get (by omega))) ?_
      refine IxA_adr hb.1 (by omega) ?_
      rw [Nat.mul_one]
      refine Ld_int ((hr6.cell _).trans (ints_get (by omega))) ?_
      refine IxA_adr (by omega) (by omega) ?_
      rw [Nat.mul_one, Int.toNat_natCast]
      refine St_row hr6 (by simp; omega) fun H7 hU7 _ hr7 => ?_
      refine IxA_adr hb.1 (by omega) ?_
      rw [Nat.mul_one]
      refine St_row hr7 (by simp; omega) fun H8 hU8 _ hr8 => ?_
      rw [Lt_def, wrap_i64_id (by omega) (by omega)]
      have hp8 : DieR H8 p (BelowF s' ((m : Int) + 2)).2 := hU8.keep (hU7.keep hp6 (by omega)) (by omega)
      refine hnext2 _ _ ⟨m, swapL l (m + 1) q.toNat, _, by omega, by omega, by rw [swapL_len]; exact hl, hbd.1, hbd.2, hsh, ?_, hp8, ?_⟩ (by omega)
      · have := lt_of_get hp
        exact ((hU5.trans hU6 fun _ _ h => h).trans hU7 fun b hb' e => by omega).trans hU8 fun b hb' e => by omega
      · rw [ints_set, ints_set] at hr8; exact hr8
    · have : i = 0 := by omega
      subst this
      simp only [shufF] at hsh
      have hl' : l = (ShuffleF s n.toNat).1 := by rw [← hsh]
      have hs' : s' = (ShuffleF s n.toNat).2 := by rw [← hsh]
      subst hl' hs'
      exact hk1 hn.1 hn.2 b1 H5 (by omega) hU5 hp5 hr5

def pickF (c n : Int) : Int := (if c < 0 then -(c + 1) else c) % n
theorem pickF_bd (c n : Int) (hn : 1 ≤ n) : 0 ≤ pickF c n ∧ pickF c n < n := ⟨Int.emod_nonneg _ (by omega), Int.emod_lt_of_pos _ (by omega)⟩
theorem s_pick08 (c n : Int) (hc : I64 c) (hn : 1 ≤ n) {H : Heap} {k : Int → Heap → Prop} (hk : k (pickF c n) H) : CallT Pg f_hindcastlaw08_pick [.int .i64 c, .int .i64 n] (.one (.c (.int .i64))) H k := by
  apply c_hindcastlaw08_pick
  unfold v_hindcastlaw08_pick
  unfold I64 at hc
  refine Jn.mk (fun j H' => H = H' ∧ j = if c < 0 then -(c + 1) else c) (fun kk hkk => ?_) ?_
  · refine Br_dec (fun h => ?_) fun h => hkk _ _ ⟨rfl, by rw [if_neg h]⟩
    rw [Lt_def, wrap_i64_id (x := c + 1) (by omega) (by omega), wrap_i64_id (by omega) (by omega)]
    exact hkk _ _ ⟨rfl, by rw [if_pos h]; omega⟩
  · rintro j _ ⟨rfl, rfl⟩
    refine ⟨by omega, ?_⟩
    rw [Int.tmod_eq_emod_of_nonneg (by split <;> omega)]
    exact hk

/-- Four int64. -/
def I4 (c : Int × Int × Int × Int) : Prop := I64 c.1 ∧ I64 c.2.1 ∧ I64 c.2.2.1 ∧ I64 c.2.2.2

theorem s_DiceBounds (c : Int × Int × Int × Int) (n a b many : Int) (hn : I64 n) (ha : I64 a) (hb : I64 b) (hm : I64 many) {H : Heap} {k : Bool → Heap → Prop} (hk : ∀ H', Ext H H' → k true H') :
    CallT Pg f_hindcastlaw08_DiceBounds [.agg #[.int .i64 c.1, .int .i64 c.2.1, .int .i64 c.2.2.1, .int .i64 c.2.2.2], .int .i64 n, .int .i64 a, .int .i64 b, .int .i64 many] (.one (.c .bool)) H k := by
  apply c_hindcastlaw08_DiceBounds
  unfold v_hindcastlaw08_DiceBounds
  simp only [adr_add]
  refine Nw_row fun b1 H1 hb1 hE1 _ hr1 => ?_
  refine s_law08_shown fun H2 hE2 => ?_
  have hr2 := hE2.row hr1 fun h => h
  refine Ld_int ((hr2.cell 0).trans rfl) ?_
  refine Ld_int ((hr2.cell 1).trans rfl) ?_
  refine Ld_int ((hr2.cell 2).trans rfl) ?_
  refine Ld_int ((hr2.cell 3).trans rfl) ?_
  refine s_dice_New _ _ _ _ fun H3 hE3 hd3 => ?_
  have hr3 := hE3.row hr2 fun h => h
  refine Ld_int ((hr3.cell 0).trans rfl) ?_
  refine Ld_int ((hr3.cell 1).trans rfl) ?_
  refine Ld_int ((hr3.cell 2).trans rfl) ?_
  refine Ld_int ((hr3.cell 3).trans rfl) ?_
  refine s_dice_New _ _ _ _ fun H4 hE4 he4 => ?_
  have hr4 := hE4.row hr3 fun h => h
  refine Ld_int ((hr4.cell 0).trans rfl) ?_
  refine Ld_int ((hr4.cell 1).trans rfl) ?_
  refine Ld_int ((hr4.cell 2).trans rfl) ?_
  refine Ld_int ((hr4.cell 3).trans rfl) ?_
  refine s_dice_New _ _ _ _ fun H5 hE5 hx5 => ?_
  have hr5 := hE5.row hr4 fun h => h
  have hd5 : DieP H5 H2.size _ := hE5.keep (hE4.keep hd3 fun h => h) fun h => h
  have he5 : DieP H5 H3.size _ := hE5.keep he4 fun h => h
  have l1 : H2.size < H3.size := lt_of_get hd3
  have l2 : H3.size < H4.size := lt_of_get he4
  have l0 : H.size ≤ b1 ∧ b1 < H2.size := ⟨by omega, hr2.lt⟩
  have hE : Ext H H5 := (((hE1.ext hE2).ext hE3).ext hE4).ext hE5
  have hS := newS_bd c.1 c.2.1 c.2.2.1 c.2.2.2
  generalize hs0 : newS c.1 c.2.1 c.2.2.1 c.2.2.2 = s0 at hd5 he5 hx5 hS
  generalize H2.size = d at *
  generalize H3.size = e at *
  generalize H4.size = x at *
  refine Jn_in ?_
  simp only [Bool.not_true, Br_false, Option.isNone_some]
  refine LoopT.mk (fun i H' => ∃ (j : Nat) (s sx : Int), i = j ∧ j ≤ 5 ∧ 0 ≤ s ∧ s < 18446744073709551616 ∧ 0 ≤ sx ∧ sx < 18446744073709551616 ∧ Ext H H' ∧ DieP H' d s ∧ DieP H' e s ∧ DieP H' x sx ∧ Row H' b1 T_hindcastlaw08_Cup [.int .i64 c.1, .int .i64 c.2.1, .int .i64 c.2.2.1, .int .i64 c.2.2.2])
    (fun i _ => (5 - i).toNat) ⟨0, s0, s0, rfl, by omega, hS.1, hS.2, hS.1, hS.2, hE, hd5, he5, hx5, hr5⟩ ?_
  clear hd3 he4 hx5 hd5 he5 hr1 hr2 hr3 hr4 hr5 hE1 hE2 hE3 hE4 hE5 hE
  rintro next1 _ H7 ⟨i, s, sx, rfl, hi, hs, hs', hsx, hsx', hE7, hd7, he7, hx7, hr7⟩ hnext1
  refine Br_dec (fun hlt => ?_) fun hge => ?_
  · refine s_dice_Below hd7 hs hs' hn fun H8 hU8 hd8 => ?_
    have hb2 := BelowF_bd s n hs hs'
    refine s_dice_Between hd8 hb2.1 hb2.2 ha hb fun H9 hU9 hd9 => ?_
    have hx9 : DieP H9 x sx := hU9.keep (hU8.keep hx7 (by omega)) (by omega)
    refine s_dice_Next hx9 fun H10 hU10 hx10 => ?_
    have hnx := nextS_bd sx
    refine s_dice_Shuffle hx10 hnx.1 hnx.2 (fun h => by omega) fun _ _ bb H11 hbb hU11 hx11 hr11 => ?_
    have hshb := ShuffleF_bd (nextS sx) (Int.toNat 3) hnx.1 hnx.2
    have he11 : DieP H11 e s := hU11.keep (hU10.keep (hU9.keep (hU8.keep he7 (by omega)) (by omega)) (by omega)) (by omega)
    refine s_dice_Below he11 hs hs' hn fun H12 hU12 he12 => ?_
    refine s_dice_Between he12 hb2.1 hb2.2 ha hb fun H13 hU13 he13 => ?_
    have hb3 := BetweenF_bd (BelowF s n).2 a b hb2.1 hb2.2
    have hd13 : DieP H13 d _ := hU13.keep (hU12.keep (hU11.keep (hU10.keep hd9 (by omega)) (by omega)) (by omega)) (by omega)
    have hx13 : DieP H13 x _ := hU13.keep (hU12.keep hx11 (by omega)) (by omega)
    have hr13 := hU13.row (hU12.row (hU11.row (hU10.row (hU9.row (hU8.row hr7 (by omega)) (by omega)) (by omega)) (by omega)) (by omega)) (by omega)
    have hE13 : Ext H H13 := (((((hE7.trans hU8 (by omega)).trans hU9 (by omega)).trans hU10 (by omega)).trans hU11 (by omega)).trans hU12 (by omega)).trans hU13 (by omega)
    have r1 : (n < 1 ∧ (BelowF s n).1 = 0) ∨ (1 ≤ n ∧ 0 ≤ (BelowF s n).1 ∧ (BelowF s n).1 < n) := by
      rcases Int.lt_or_le n 1 with h | h
      · exact .inl ⟨h, BelowF_lo s n h⟩
      · exact .inr ⟨h, BelowF_in s n h⟩
    have r3 : (b < a ∧ (BetweenF (BelowF s n).2 a b).1 = a) ∨ (a ≤ b ∧ a ≤ (BetweenF (BelowF s n).2 a b).1 ∧ (BetweenF (BelowF s n).2 a b).1 ≤ b) := by
      rcases Int.lt_or_le b a with h | h
      · exact .inl ⟨h, BetweenF_lo _ a b h⟩
      · exact .inr ⟨h, BetweenF_in _ a b ha.1 hb.2 h⟩
    refine Jn.mk (fun j H' => j = false ∧ H13 = H') (fun kk hkk => ?_) ?_
    · simp only [bne_self_eq_false, Br_false]
      refine Br_no (by omega) (Br_dec (fun h => Br_no (by omega) (Br_no (by omega) (hkk _ _ ⟨rfl, rfl⟩))) fun h => Br_yes (by omega) ?_)
      have : (BelowF s n).1 = 0 := by omega
      rw [this]
      exact hkk _ _ ⟨rfl, rfl⟩
    · rintro _ _ ⟨rfl, rfl⟩
      rw [Br_false]
      refine Jn.mk (fun j H' => j = false ∧ H13 = H') (fun kk hkk => ?_) ?_
      · refine Br_no (by omega) (Br_dec (fun h => Br_no (by omega) (Br_no (by omega) (hkk _ _ ⟨rfl, rfl⟩))) fun h => Br_yes (by omega) ?_)
        have : (BetweenF (BelowF s n).2 a b).1 = a := by omega
        rw [this]
        exact hkk _ _ ⟨by simp, rfl⟩
      · rintro _ _ ⟨rfl, rfl⟩
        rw [Br_false, Lt_def, wrap_i64_id (by omega) (by omega)]
        exact hnext1 _ _ ⟨i + 1, _, _, by omega, by omega, hb3.1, hb3.2, hshb.1, hshb.2, hE13, hd13, he13, hx13, hr13⟩ (by omega)
  · clear hnext1 hx7 hsx hsx' hge hi
    refine LoopT.mk (fun i H' => ∃ (j : Nat), i = j ∧ j ≤ 40 ∧ Ext H H' ∧ DieP H' d s ∧ DieP H' e s ∧ Row H' b1 T_hindcastlaw08_Cup [.int .i64 c.1, .int .i64 c.2.1, .int .i64 c.2.2.1, .int .i64 c.2.2.2])
      (fun i _ => (40 - i).toNat) ⟨0, rfl, by omega, hE7, hd7, he7, hr7⟩ ?_
    clear hE7 hd7 he7 hr7
    rintro next2 _ H16 ⟨i, rfl, hi, hE16, hd16, he16, hr16⟩ hnext2
    refine Br_dec (fun hlt => ?_) fun hge => ?_
    · refine Ld_int ((hr16.cell 0).trans rfl) ?_
      refine Ld_int ((hr16.cell 1).trans rfl) ?_
      refine Ld_int ((hr16.cell 2).trans rfl) ?_
      refine s_dice_New _ _ _ _ fun H17 hE17 ho17 => ?_
      have ld := lt_of_get hd16
      have le := lt_of_get he16
      have lr := hr16.lt
      rw [Option.isNone_some, Br_false]
      refine s_dice_Next ho17 fun H18 hU18 _ => ?_
      rw [Lt_def, wrap_i64_id (by omega) (by omega)]
      exact hnext2 _ _ ⟨i + 1, by omega, by omega, (hE16.ext hE17).trans hU18 (by omega), hU18.keep (hE17.keep hd16 fun h => h) (by omega), hU18.keep (hE17.keep he16 fun h => h) (by omega),
        hU18.row (hE17.row hr16 fun h => h) (by omega)⟩ (by omega)
    · clear hnext2
      refine s_pick08 many 1001 hm (by omega) ?_
      have hq := pickF_bd many 1001 (by omega)
      generalize pickF many 1001 = q at hq ⊢
      have ld := lt_of_get hd16
      have le := lt_of_get he16
      -- what stands behind the last loop
      have fin : ∀ H24 s', 0 ≤ s' → s' < 18446744073709551616 → Ext H H24 → DieP H24 d s' → DieP H24 e s' →
          CallT Pg f_hindcastlaw08_pick [.int .i64 many, .int .i64 5] (.one (.c (.int .i64))) H24 fun (r16 : Int) H27 =>
          Lt (IntKind.wrap .i64 (1001 + r16)) fun t4 =>
          CallT Pg f_dice_Dice_Shuffle [.pointer (some (adr d)), .int .i64 t4] (.one (.c .sl)) H27 fun (r17 : Sl) H28 =>
          CallT Pg f_hindcastlaw08_pick [.int .i64 many, .int .i64 5] (.one (.c (.int .i64))) H28 fun (r18 : Int) H29 =>
          Lt (IntKind.wrap .i64 ((-1) - r18)) fun t5 =>
          CallT Pg f_dice_Dice_Shuffle [.pointer (some (adr d)), .int .i64 t5] (.one (.c .sl)) H29 fun (r19 : Sl) H30 =>
          Jn (σ := Bool) (fun kk6 =>
            Br ((r17.len : Int) == 0) (
              Br ((r19.len : Int) == 0) (
                CallT Pg f_dice_Dice_Next [.pointer (some (adr d))] (.one (.c (.int .u64))) H30 fun (r20 : Int) H32 =>
                CallT Pg f_dice_Dice_Next [.pointer (some (adr e))] (.one (.c (.int .u64))) H32 fun (r21 : Int) H33 =>
                kk6 (r20 == r21) H33) (
                kk6 false H30)) (
              kk6 false H30)) fun j6 H31 =>
          k j6 H31 := by
        intro H24 s' hs0 hs1 hE24 hd24 he24
        refine s_pick08 many 5 hm (by omega) ?_
        have hp5 := pickF_bd many 5 (by omega)
        rw [Lt_def, wrap_i64_id (by omega) (by omega)]
        refine s_dice_Shuffle hd24 hs0 hs1 (fun _ => ?_) fun _ _ => by omega
        refine s_pick08 many 5 hm (by omega) ?_
        rw [Lt_def, wrap_i64_id (by omega) (by omega)]
        refine s_dice_Shuffle hd24 hs0 hs1 (fun _ => ?_) fun _ _ => by omega
        refine Jn_in ?_
        refine (Br_true _ _).2 ((Br_true _ _).2 ?_)
        refine s_dice_Next hd24 fun H32 hU32 hd32 => ?_
        have he32 : DieP H32 e s' := hU32.keep he24 (by omega)
        refine s_dice_Next he32 fun H33 hU33 he33 => ?_
        rw [beq_self_eq_true]
        exact hk H33 ((hE24.trans hU32 (by omega)).trans hU33 (by omega))
      have hq1 : q < 1 ∨ (1 ≤ q ∧ q ≤ 1000) := by omega
      rcases hq1 with hq1 | ⟨hq1, hq2⟩
      · have : q = 0 := by omega
        subst this
        refine s_dice_Shuffle hd16 hs hs' (fun _ => ?_) fun _ _ => by omega
        refine s_dice_Shuffle he16 hs hs' (fun _ => ?_) fun _ _ => by omega
        refine Mks_row (by omega) (by omega) (by omega) fun bl H22 hbl hE22 _ hrl => ?_
        refine Jn_in ?_
        simp only [Int.ofNat_eq_natCast, Int.cast_ofNat_Int, bne_self_eq_false, Br_false]
        refine LoopT.mk (fun i H' => i = 0 ∧ H22 = H') (fun _ _ => 0) ⟨rfl, rfl⟩ ?_
        rintro next3 _ _ ⟨rfl, rfl⟩ _
        refine Br_no (by omega) ?_
        exact fin H22 s hs hs' (hE16.ext hE22) (hE22.keep hd16 fun h => h) (hE22.keep he16 fun h => h)
      · refine s_dice_Shuffle hd16 hs hs' (fun _ => by omega) fun _ _ bd H20 hbd hU20 hd20 hr20 => ?_
        have he20 : DieP H20 e s := hU20.keep he16 (by omega)
        refine s_dice_Shuffle he20 hs hs' (fun _ => by omega) fun _ _ be H21 hbe hU21 he21 hr21 => ?_
        have hd21 : DieP H21 d _ := hU21.keep hd20 (by omega)
        have hrd21 := hU21.row hr20 (by have := hr20.lt; omega)
        refine Mks_row (by omega) (by omega) (by omega) fun bl H22 hbl hE22 _ hrl => ?_
        have hperm := ShuffleF_perm s q.toNat (by omega)
        have hlen := ShuffleF_len s q.toNat (by omega)
        have hbds := ShuffleF_bd s q.toNat hs hs'
        generalize (ShuffleF s q.toNat).1 = L at *
        generalize (ShuffleF s q.toNat).2 = s2 at *
        have hmem : ∀ x ∈ L, 0 ≤ x ∧ x < q := fun x hx => by
          have := (mem_iota (n := q.toNat)).1 (hperm.mem_iff.1 hx); omega
        have hnd : L.Nodup := hperm.nodup_iff.2 (nodup_iota _)
        have eq : ((q.toNat : Nat) : Int) = q := by omega
        refine Jn_in ?_
        simp only [eq, bne_self_eq_false, Br_false]
        have lrd := hrd21.lt
        have lre := hr21.lt
        refine LoopT.mk (fun i H' => ∃ (j : Nat) (bs : List Bool), i = j ∧ j ≤ q.toNat ∧ bs.length = q.toNat ∧ (∀ x, x < q.toNat → (bs.getD x false = true ↔ (x : Int) ∈ L.take j)) ∧
            Ext H H' ∧ DieP H' d s2 ∧ DieP H' e s2 ∧ Row H' bd T_int (ints L) ∧ Row H' be T_int (ints L) ∧ Row H' bl T_bool (bs.map Value.bool))
          (fun i _ => (q - i).toNat) ⟨0, List.replicate q.toNat false, rfl, by omega, by simp, fun x hx => by rw [List.getD_eq_getElem?_getD, List.getElem?_replicate, if_pos hx]; simp, ?_, hE22.keep hd21 fun h => h, hE22.keep he21 fun h => h, hE22.row hrd21 fun h => h, hE22.row hr21 fun h => h, by simpa using hrl⟩ ?_
        · exact ((hE16.trans hU20 (by omega)).trans hU21 (by omega)).ext hE22
        rintro next3 _ H24 ⟨j, bs, rfl, hj, hbs, hseen, hE24, hd24, he24, hrd24, hre24, hrl24⟩ hnext3
        refine Br_dec (fun hlt => ?_) fun hge => ?_
        · have hjl : j < L.length := by omega
          obtain ⟨x, hx⟩ : ∃ x, L[j]? = some x := ⟨_, List.getElem?_eq_getElem hjl⟩
          have hxd : L.getD j 0 = x := by rw [List.getD_eq_getElem?_getD, hx]; rfl
          have hxm : x ∈ L := List.mem_of_getElem? hx
          have hxb := hmem _ hxm
          have hnot : x ∉ L.take j := by
            intro hin
            obtain ⟨i, hi, hie⟩ := List.getElem_of_mem hin
            have hi' : i < j := by simp at hi; omega
            rw [List.getElem_take] at hie
            rw [List.getElem?_eq_getElem hjl, Option.some.injEq] at hx
            rw [← hx] at hie
            have := (List.nodup_iff_pairwise_ne.1 hnd)
            exact (List.pairwise_iff_getElem.1 this i j (by omega) hjl hi') hie
          have hset : ∀ y : Nat, y < q.toNat → ((bs.set x.toNat true).getD y false = true ↔ (y : Int) ∈ L.take (j + 1)) := by
            intro y hyq
            rw [List.take_add_one, hx, Option.toList_some, List.mem_append, List.mem_singleton, ← hseen y hyq]
            simp only [List.getD_eq_getElem?_getD, List.getElem?_set]
            by_cases hc : x.toNat = y
            · have h2 : (y : Int) = x := by omega
              rw [if_pos hc, if_pos (by omega)]
              simp [h2]
            · have h2 : ¬ ((y : Int) = x) := by omega
              rw [if_neg hc]
              simp [h2]
          have hxf : bs.getD x.toNat false = false := by
            cases hb' : bs.getD x.toNat false with
            | false => rfl
            | true =>
              have := (hseen x.toNat (by omega)).1 hb'
              rw [show ((x.toNat : Nat) : Int) = x by omega] at this
              exact absurd this hnot
          have hcb : hcell H24 ⟨bl, x.toNat, none⟩ = some (.bool false) := by
            rw [hrl24.cell, List.getElem?_map]
            have hlt' : x.toNat < bs.length := by omega
            rw [List.getElem?_eq_getElem hlt']
            have : bs[x.toNat] = false := by
              rw [List.getD_eq_getElem?_getD, List.getElem?_eq_getElem hlt'] at hxf; exact hxf
            rw [this]; rfl
          have cd := (hrd24.cell j).trans (ints_get (by omega))
          have ce := (hre24.cell j).trans (ints_get (by omega))
          rw [hxd] at cd ce
          refine Jn.mk (fun b H' => b = false ∧ H24 = H') (fun kk hkk => ?_) ?_
          · refine IxA_adr (by omega) (by first | omega | (dsimp only; omega)) ?_
            rw [Nat.mul_one, Int.toNat_natCast]
            refine Ld_int cd ?_
            refine IxA_adr (by omega) (by first | omega | (dsimp only; omega)) ?_
            rw [Nat.mul_one, Int.toNat_natCast]
            refine Ld_int ce ?_
            simp only [bne_self_eq_false, Br_false]
            refine IxA_adr (by omega) (by first | omega | (dsimp only; omega)) ?_
            rw [Nat.mul_one, Int.toNat_natCast]
            refine Ld_int cd ?_
            refine Br_no (by omega) ?_
            refine IxA_adr (by omega) (by first | omega | (dsimp only; omega)) ?_
            rw [Nat.mul_one, Int.toNat_natCast]
            refine Ld_int cd ?_
            refine Br_no (by omega) ?_
            refine IxA_adr (by omega) (by first | omega | (dsimp only; omega)) ?_
            rw [Nat.mul_one, Int.toNat_natCast]
            refine Ld_int cd ?_
            refine IxA_adr (by omega) (by first | omega | (dsimp only; omega)) ?_
            rw [Nat.mul_one]
            exact Ld_bool hcb (hkk _ _ ⟨rfl, rfl⟩)
          · rintro _ _ ⟨rfl, rfl⟩
            rw [Br_false]
            refine IxA_adr (by omega) (by first | omega | (dsimp only; omega)) ?_
            rw [Nat.mul_one, Int.toNat_natCast]
            refine Ld_int cd ?_
            refine IxA_adr (by omega) (by first | omega | (dsimp only; omega)) ?_
            rw [Nat.mul_one]
            refine St_row hrl24 (by simp; omega) fun H26 hU26 _ hrl26 => ?_
            rw [Lt_def, wrap_i64_id (by omega) (by omega)]
            have hne : bl ≠ d ∧ bl ≠ e ∧ bl ≠ bd ∧ bl ≠ be := by
              have := lt_of_get hd21; have := lt_of_get he21; omega
            refine hnext3 _ _ ⟨j + 1, bs.set x.toNat true, by omega, by omega, by simp [hbs], hset, hE24.trans hU26 (by omega), hU26.keep hd24 (by omega), hU26.keep he24 (by omega), hU26.row hrd24 (by omega), hU26.row hre24 (by omega), ?_⟩ (by omega)
            rw [List.map_set]; exact hrl26
        · exact fin H24 s2 hbds.1 hbds.2 hE24 hd24 he24

theorem list4_hindcastlaw08_Cup {cs : List Value} (h : cs.length = 4) : ∃ x0 x1 x2 x3, cs = [x0, x1, x2, x3] := by
  match cs, h with
  | [x0, x1, x2, x3], _ => exact ⟨x0, x1, x2, x3, rfl⟩
theorem rdS_hindcastlaw08_Cup {H : Heap} {f : Nat} {cs : List Value} (h : RdC Try.prog H f 27 cs) : ∃ x0 x1 x2 x3, cs = [x0, x1, x2, x3] ∧ ∃ f', RdC Try.prog H f' 2 [x0] ∧ RdC Try.prog H f' 3 [x1] ∧ RdC Try.prog H f' 3 [x2] ∧ RdC Try.prog H f' 3 [x3] := by
  obtain ⟨f', hl, hall⟩ := rdC_struct Try.underlying27 h
  obtain ⟨x0, x1, x2, x3, rfl⟩ := list4_hindcastlaw08_Cup (hl.trans (by kernel_rfl))
  simp only [List.mem_cons, List.not_mem_nil, or_false, forall_eq_or_imp, forall_eq] at hall
  have c2 : Try.prog.cellsOf 2 = 1 := by kernel_rfl
  have c3 : Try.prog.cellsOf 3 = 1 := by kernel_rfl
  obtain ⟨h0, h1, h2, h3⟩ := hall
  exact ⟨x0, x1, x2, x3, rfl, f', by simpa [c2] using h0, by simpa [c3] using h1, by simpa [c3] using h2, by simpa [c3] using h3⟩
theorem rd_cup {H : Heap} {v : Value} (h : RdV Try.prog H 27 v) : ∃ c : Int × Int × Int × Int, v = .agg #[.int .i64 c.1, .int .i64 c.2.1, .int .i64 c.2.2.1, .int .i64 c.2.2.2] ∧ I4 c := by
  obtain ⟨f, cs, rfl, hr⟩ := rd_struct Try.underlying27 h
  obtain ⟨x0, x1, x2, x3, rfl, f', h0, h1, h2, h3⟩ := rdS_hindcastlaw08_Cup hr
  obtain ⟨n0, e0, i0⟩ := rdC_i64 Try.underlying2 h0
  obtain ⟨n1, e1, i1⟩ := rdC_i64 Try.underlying3 h1
  obtain ⟨n2, e2, i2⟩ := rdC_i64 Try.underlying3 h2
  obtain ⟨n3, e3, i3⟩ := rdC_i64 Try.underlying3 h3
  simp only [List.cons.injEq, and_true] at e0 e1 e2 e3
  subst e0 e1 e2 e3
  exact ⟨(n0, n1, n2, n3), rfl, i0, i1, i2, i3⟩
theorem w_DiceBounds {H : Heap} (v0 v1 v2 v3 v4 : Value) (r0 : RdV Try.prog H 27 v0) (r1 : RdV Try.prog H 2 v1) (r2 : RdV Try.prog H 2 v2) (r3 : RdV Try.prog H 2 v3) (r4 : RdV Try.prog H 3 v4) :
    CallT Try.prog 5 [v0, v1, v2, v3, v4] (.one (.c .bool)) H (fun b H' => b = true ∧ Ext H H') := by
  obtain ⟨c, rfl, hc⟩ := rd_cup r0
  obtain ⟨n, rfl, hn⟩ := rd_i64 Try.underlying2 r1
  obtain ⟨a, rfl, ha⟩ := rd_i64 Try.underlying2 r2
  obtain ⟨b, rfl, hb⟩ := rd_i64 Try.underlying2 r3
  obtain ⟨m, rfl, hm⟩ := rd_i64 Try.underlying3 r4
  exact s_DiceBounds c n a b m hn ha hb hm fun H' h => ⟨rfl, h⟩
end Go.Proofs.Ytpkpebgpiakbeaa
