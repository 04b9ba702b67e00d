/-
  Contracts of the dice: the program's and the document's.
-/
import Derived.Test.YtpkpebgpiakbeaaVDice
import Derived.Test.YtpkpebgpiakbeaaHcDiceMath
import Derived.Test.YtpkpebgpiakbeaaHcLaw
namespace Go.Proofs.Ytpkpebgpiakbeaa
set_option linter.unusedVariables false
set_option linter.unusedSimpArgs false
open Go.Proofs.Ytpkpebgpiakbeaa.Hc Go.Proofs.Ytpkpebgpiakbeaa.Hc.Dice
set_option maxRecDepth 100000

theorem s_dice_Mix (x : Int) {H : Heap} {k : Int → Heap → Prop} (hk : k (mixI x) H) : CallT Pg f_dice_Mix [.int .u64 x] (.one (.c (.int .u64))) H k := by
  apply c_dice_Mix
  exact ⟨by decide, by decide, by decide, hk⟩
theorem s_ref_Mix (x : Int) {H : Heap} {k : Int → Heap → Prop} (hk : k (mixI x) H) : CallT Pg f_hindcastref08_Mix [.int .u64 x] (.one (.c (.int .u64))) H k := by
  apply c_hindcastref08_Mix
  exact ⟨by decide, by decide, by decide, hk⟩

/-- A die of the program's, of the document's. -/
def DieP (H : Heap) (p : Nat) (s : Int) : Prop := H[p]? = some (.cells #[.int .u64 s] T_dice_Dice (0, 0))
def DieR (H : Heap) (p : Nat) (s : Int) : Prop := H[p]? = some (.cells #[.int .u64 s] T_hindcastref08_Dice (0, 0))

theorem s_dice_Next {p : Nat} {s : Int} {H : Heap} {k : Int → Heap → Prop} (hp : DieP H p s)
    (hk : ∀ H', Upd (· = p) H H' → DieP H' p (nextS s) → k (mixI s) H') : CallT Pg f_dice_Dice_Next [.pointer (some (adr p))] (.one (.c (.int .u64))) H k := by
  apply c_dice_Dice_Next
  unfold v_dice_Dice_Next
  have hc : hcell H (adr p) = some (.int .u64 s) := by rw [cell_blk hp]; rfl
  simp only [NilCk_some, Lt_def]
  refine Ld_int hc (Ld_int hc ?_)
  refine St_blk hp (by simp) fun H' hU hs hp' => ?_
  refine s_dice_Mix s (hk H' hU hp')
theorem s_ref_Next {p : Nat} {s : Int} {H : Heap} {k : Int → Heap → Prop} (hp : DieR H p s)
    (hk : ∀ H', Upd (· = p) H H' → DieR H' p (nextS s) → k (mixI s) H') : CallT Pg f_hindcastref08_Dice_Next [.pointer (some (adr p))] (.one (.c (.int .u64))) H k := by
  apply c_hindcastref08_Dice_Next
  unfold v_hindcastref08_Dice_Next
  have hc : hcell H (adr p) = some (.int .u64 s) := by rw [cell_blk hp]; rfl
  simp only [NilCk_some, Lt_def]
  refine Ld_int hc (s_ref_Mix s (Ld_int hc ?_))
  refine St_blk hp (by simp) fun H' hU hs hp' => hk H' hU hp'

theorem s_dice_below {p : Nat} {s n : Int} {H : Heap} {k : Int → Heap → Prop} (hp : DieP H p s) (h0 : 0 ≤ s) (h1 : s < 18446744073709551616) (hn : 1 ≤ n) (hn' : n < 9223372036854775808)
    (hk : ∀ H', Upd (· = p) H H' → DieP H' p (belowS s n) → k (belowR s n) H') : CallT Pg f_dice_Dice_below [.pointer (some (adr p)), .int .u64 n] (.one (.c (.int .u64))) H k := by
  apply c_dice_Dice_below
  unfold v_dice_Dice_below
  refine ⟨by omega, ?_⟩
  simp only [Lt_def]
  have hf := fallJ_spec s (mB n) h0 h1 (mB_pos n hn hn')
  refine LoopT.ghost (fun m _ H' => ∃ j, j + m = fallJ s (mB n) ∧ Upd (· = p) H H' ∧ DieP H' p (itS s j)) (fallJ s (mB n)) ⟨0, by omega, .refl _ _, hp⟩ ?_
  rintro next m _ H1 ⟨j, hj, hU, hp1⟩ hnext
  refine s_dice_Next hp1 fun H2 hU2 hp2 => ?_
  have hU' : Upd (· = p) H H2 := hU.trans hU2 fun _ _ h => h
  refine Br_dec (fun hlt => ?_) fun hge => ?_
  · have : j = fallJ s (mB n) := Falls.unique ⟨hlt, fun i hi => hf.2 i (by omega)⟩ hf
    subst this
    exact ⟨by omega, hk H2 hU' hp2⟩
  · have hne : j ≠ fallJ s (mB n) := fun e => hge (by rw [e]; exact hf.1)
    exact hnext (m - 1) () H2 (by omega) ⟨j + 1, by omega, hU', hp2⟩

theorem s_dice_Below {p : Nat} {s n : Int} {H : Heap} {k : Int → Heap → Prop} (hp : DieP H p s) (h0 : 0 ≤ s) (h1 : s < 18446744073709551616) (hn : I64 n)
    (hk : ∀ H', Upd (· = p) H H' → DieP H' p (BelowF s n).2 → k (BelowF s n).1 H') : CallT Pg f_dice_Dice_Below [.pointer (some (adr p)), .int .i64 n] (.one (.c (.int .i64))) H k := by
  apply c_dice_Dice_Below
  unfold v_dice_Dice_Below
  unfold BelowF at hk
  refine Br_dec (fun hlt => ?_) fun hge => ?_
  · simp only [hlt, if_true] at hk
    exact s_dice_Next hp hk
  · simp only [hge, if_false] at hk
    rw [wrap_u64_id (by omega) (by unfold I64 at hn; omega)]
    refine s_dice_below hp h0 h1 (by omega) hn.2 fun H' hU hp' => ?_
    have := belowR_bd s n (by omega)
    rw [wrap_i64_id (by omega) (by unfold I64 at hn; omega)]
    exact hk H' hU hp'

theorem s_ref_Below {p : Nat} {s n : Int} {H : Heap} {k : Int → Heap → Prop} (hp : DieR H p s) (h0 : 0 ≤ s) (h1 : s < 18446744073709551616) (hn : I64 n)
    (hk : ∀ H', Upd (· = p) H H' → DieR H' p (BelowF s n).2 → k (BelowF s n).1 H') : CallT Pg f_hindcastref08_Dice_Below [.pointer (some (adr p)), .int .i64 n] (.one (.c (.int .i64))) H k := by
  apply c_hindcastref08_Dice_Below
  unfold v_hindcastref08_Dice_Below
  unfold BelowF at hk
  refine Br_dec (fun hlt => ?_) fun hge => ?_
  · simp only [hlt, if_true] at hk
    exact s_ref_Next hp hk
  · simp only [hge, if_false] at hk
    unfold I64 at hn
    rw [wrap_u64_id (by omega) (by omega)]
    refine ⟨by omega, ?_⟩
    simp only [Lt_def]
    have hf := fallJ_spec s (mB n) h0 h1 (mB_pos n (by omega) hn.2)
    refine LoopT.ghost (fun m _ H' => ∃ j, j + m = fallJ s (mB n) ∧ Upd (· = p) H H' ∧ DieR H' p (itS s j)) (fallJ s (mB n)) ⟨0, by omega, .refl _ _, hp⟩ ?_
    rintro next m _ H1 ⟨j, hj, hU, hp1⟩ hnext
    refine s_ref_Next hp1 fun H2 hU2 hp2 => ?_
    have hU' : Upd (· = p) H H2 := hU.trans hU2 fun _ _ h => h
    refine Br_dec (fun hlt => ?_) fun hge => ?_
    · have : j = fallJ s (mB n) := Falls.unique ⟨hlt, fun i hi => hf.2 i (by omega)⟩ hf
      subst this
      have := belowR_bd s n (by omega)
      refine ⟨by omega, ?_⟩
      have e : IntKind.wrap .i64 ((mixI (itS s (fallJ s (mB n)))).tmod n) = belowR s n := wrap_i64_id (x := belowR s n) (by omega) (by omega)
      dsimp only
      rw [e]
      exact hk H2 hU' hp2
    · have hne : j ≠ fallJ s (mB n) := fun e => hge (by rw [e]; exact hf.1)
      exact hnext (m - 1) () H2 (by omega) ⟨j + 1, by omega, hU', hp2⟩

theorem s_dice_Between {p : Nat} {s a b : Int} {H : Heap} {k : Int → Heap → Prop} (hp : DieP H p s) (h0 : 0 ≤ s) (h1 : s < 18446744073709551616) (ha : I64 a) (hb : I64 b)
    (hk : ∀ H', Upd (· = p) H H' → DieP H' p (BetweenF s a b).2 → k (BetweenF s a b).1 H') : CallT Pg f_dice_Dice_Between [.pointer (some (adr p)), .int .i64 a, .int .i64 b] (.one (.c (.int .i64))) H k := by
  apply c_dice_Dice_Between
  unfold v_dice_Dice_Between
  unfold BetweenF at hk
  unfold I64 at ha hb
  refine Br_dec (fun hlt => ?_) fun hge => ?_
  · simp only [hlt, if_true] at hk
    exact hk H (.refl _ _) hp
  · simp only [hge, if_false] at hk
    simp only [Lt_def]
    have e : IntKind.wrap .u64 (IntKind.wrap .u64 (IntKind.wrap .u64 b - IntKind.wrap .u64 a) + 1) = (b - a + 1) % 18446744073709551616 := by
      simp only [wrap_u64]; omega
    rw [e]
    by_cases hc : b - a + 1 = 18446744073709551616
    · simp only [hc, if_true] at hk
      have : ((b - a + 1) % 18446744073709551616 == 0) = true := by simp; omega
      rw [this, Br_true]
      exact s_dice_Next hp hk
    · simp only [hc, if_false] at hk
      have e1 : (b - a + 1) % 18446744073709551616 = b - a + 1 := by omega
      rw [e1]
      have : (b - a + 1 == 0) = false := by simp; omega
      rw [this, Br_false]
      refine Br_dec (fun hgt => ?_) fun hle => ?_
      · simp only [hgt, if_true] at hk
        refine s_dice_Next hp fun H' hU hp' => ⟨by omega, hk H' hU hp'⟩
      · simp only [hle, if_false] at hk
        refine s_dice_below hp h0 h1 (by omega) (by omega) fun H' hU hp' => ?_
        have := belowR_bd s (b - a + 1) (by omega)
        have e2 : IntKind.wrap .i64 (IntKind.wrap .u64 (IntKind.wrap .u64 a + belowR s (b - a + 1))) = a + belowR s (b - a + 1) := by
          simp only [wrap_u64, wrap_i64]; omega
        rw [e2]
        exact hk H' hU hp'

theorem s_ref_Between {p : Nat} {s a b : Int} {H : Heap} {k : Int → Heap → Prop} (hp : DieR H p s) (h0 : 0 ≤ s) (h1 : s < 18446744073709551616) (ha : I64 a) (hb : I64 b)
    (hk : ∀ H', Upd (· = p) H H' → DieR H' p (BetweenF s a b).2 → k (BetweenF s a b).1 H') : CallT Pg f_hindcastref08_Dice_Between [.pointer (some (adr p)), .int .i64 a, .int .i64 b] (.one (.c (.int .i64))) H k := by
  apply c_hindcastref08_Dice_Between
  unfold v_hindcastref08_Dice_Between
  unfold BetweenF at hk
  unfold I64 at ha hb
  refine Br_dec (fun hlt => ?_) fun hge => ?_
  · simp only [hlt, if_true] at hk
    exact hk H (.refl _ _) hp
  · simp only [hge, if_false] at hk
    simp only [Lt_def]
    have e : IntKind.wrap .i64 (IntKind.wrap .i64 (b - a) + 1) = (b - a + 1 + 9223372036854775808) % 18446744073709551616 - 9223372036854775808 := by
      simp only [wrap_i64]; omega
    rw [e]
    refine Br_dec (fun hge1 => ?_) fun hlt1 => ?_
    · have hc : ¬ (b - a + 1 = 18446744073709551616) := by omega
      have hg : ¬ (b - a + 1 > 9223372036854775807) := by omega
      simp only [hc, hg, if_false] at hk
      have e1 : (b - a + 1 + 9223372036854775808) % 18446744073709551616 - 9223372036854775808 = b - a + 1 := by omega
      rw [e1]
      refine s_ref_Below hp h0 h1 ⟨by omega, by omega⟩ fun H' hU hp' => ?_
      have hl : ¬ (b - a + 1 < 1) := by omega
      simp only [BelowF, hl, if_false] at hp' ⊢
      have := belowR_bd s (b - a + 1) (by omega)
      rw [wrap_i64_id (by omega) (by omega)]
      exact hk H' hU hp'
    · refine s_ref_Next hp fun H' hU hp' => ?_
      by_cases hc : b - a + 1 = 18446744073709551616
      · simp only [hc, if_true] at hk
        have : ((b - a + 1 + 9223372036854775808) % 18446744073709551616 - 9223372036854775808 == 0) = true := by simp; omega
        rw [this, Br_true]
        exact hk H' hU hp'
      · have hg : b - a + 1 > 9223372036854775807 := by omega
        simp only [hc, hg, if_false, if_true] at hk
        have : ((b - a + 1 + 9223372036854775808) % 18446744073709551616 - 9223372036854775808 == 0) = false := by simp; omega
        rw [this, Br_false]
        have e1 : IntKind.wrap .u64 ((b - a + 1 + 9223372036854775808) % 18446744073709551616 - 9223372036854775808) = b - a + 1 := by rw [wrap_u64]; omega
        rw [e1]
        refine ⟨by omega, ?_⟩
        have e2 : ∀ x : Int, IntKind.wrap .i64 (a + IntKind.wrap .i64 x) = IntKind.wrap .i64 (IntKind.wrap .u64 (IntKind.wrap .u64 a + x)) := by
          intro x; simp only [wrap_u64, wrap_i64]; omega
        dsimp only
        rw [e2]
        exact hk H' hU hp'

theorem s_dice_New (a b c d : Int) {H : Heap} {k : Option Addr → Heap → Prop} (hk : ∀ H', Ext H H' → DieP H' H.size (newS a b c d) → k (some (adr H.size)) H') :
    CallT Pg f_dice_New [.int .i64 a, .int .i64 b, .int .i64 c, .int .i64 d] (.one (.c .ptr)) H k := by
  apply c_dice_New
  unfold v_dice_New
  refine s_dice_Mix _ ?_
  refine LoopT.mk (fun s H' => H' = H ∧ ∃ j : Nat, j ≤ 3 ∧ s.2 = j ∧ s.1 = newIt a b c d j) (fun s _ => (3 - s.2).toNat) ⟨rfl, 0, by omega, rfl, rfl⟩ ?_
  rintro next ⟨st, i⟩ _ ⟨rfl, j, hj, hi, hst⟩ hnext
  dsimp only at hi hst ⊢
  subst hi hst
  refine Br_dec (fun hlt => ?_) fun hge => ?_
  · simp only [Lt_def]
    have e : IntKind.wrap .i64 ((j : Int) + 1) = ((j + 1 : Nat) : Int) := by rw [wrap_i64]; omega
    have : j = 0 ∨ j = 1 ∨ j = 2 := by omega
    rcases this with rfl | rfl | rfl
    · refine ⟨b, by omega, by omega, rfl, ?_⟩
      refine s_dice_Mix _ ?_
      exact hnext _ _ ⟨rfl, 1, by omega, e, rfl⟩ (by dsimp only; omega)
    · refine ⟨c, by omega, by omega, rfl, ?_⟩
      refine s_dice_Mix _ ?_
      exact hnext _ _ ⟨rfl, 2, by omega, e, rfl⟩ (by dsimp only; omega)
    · refine ⟨d, by omega, by omega, rfl, ?_⟩
      refine s_dice_Mix _ ?_
      exact hnext _ _ ⟨rfl, 3, by omega, e, rfl⟩ (by dsimp only; omega)
  · have : j = 3 := by omega
    subst this
    refine Nw_blk fun b' H' hb hE _ hblk => ?_
    subst hb
    exact hk H' hE hblk
theorem s_ref_New (a b c d : Int) {H : Heap} {k : Option Addr → Heap → Prop} (hk : ∀ H', Ext H H' → DieR H' H.size (newS a b c d) → k (some (adr H.size)) H') :
    CallT Pg f_hindcastref08_New [.int .i64 a, .int .i64 b, .int .i64 c, .int .i64 d] (.one (.c .ptr)) H k := by
  apply c_hindcastref08_New
  unfold v_hindcastref08_New
  simp only [Lt_def]
  refine s_ref_Mix _ ?_
  refine s_ref_Mix _ ?_
  refine s_ref_Mix _ ?_
  refine s_ref_Mix _ ?_
  refine Nw_blk fun b' H' hb hE _ hblk => ?_
  subst hb
  exact hk H' hE hblk

theorem s_law08_shown {H : Heap} {k : Bool → Heap → Prop} (hk : ∀ H', Ext H H' → k true H') : CallT Pg f_hindcastlaw08_shown [] (.one (.c .bool)) H k := by
  apply c_hindcastlaw08_shown
  unfold v_hindcastlaw08_shown
  refine s_dice_New 1 2 3 4 fun H1 hE1 hp1 => ?_
  simp only [Option.isNone_some, Br_false]
  refine s_dice_Mix 0 ?_
  refine s_dice_Mix 1 ?_
  have hb := newS_bd 1 2 3 4
  refine s_dice_Below hp1 hb.1 hb.2 ⟨by decide, by decide⟩ fun H2 hU2 hp2 => ?_
  rw [shown_one] at hp2 ⊢
  refine s_dice_Below hp2 (by decide) (by decide) ⟨by decide, by decide⟩ fun H3 hU3 hp3 => ?_
  refine Jn_in ?_
  rw [mix_0, mix_1, shown_two]
  exact hk H3 ((hE1.trans hU2 fun b hb e => by omega).trans hU3 fun b hb e => by omega)

theorem s_DiceMixes (x : Int) {H : Heap} {k : Bool → Heap → Prop} (hk : ∀ H', Ext H H' → k true H') : CallT Pg f_hindcastlaw08_DiceMixes [.int .u64 x] (.one (.c .bool)) H k := by
  apply c_hindcastlaw08_DiceMixes
  unfold v_hindcastlaw08_DiceMixes
  refine s_law08_shown fun H1 hE1 => ?_
  refine Jn_in ?_
  rw [Br_true]
  refine s_dice_Mix x ?_
  refine s_ref_Mix x ?_
  simp only [beq_self_eq_true]
  exact hk H1 hE1

theorem w_DiceMixes {H : Heap} (v0 : Value) (r0 : RdV Try.prog H 22 v0) : CallT Try.prog 3 [v0] (.one (.c .bool)) H (fun b H' => b = true ∧ Ext H H') := by
  obtain ⟨x, rfl, _, _⟩ := rd_int Try.underlying22 r0
  exact s_DiceMixes x fun H' h => ⟨rfl, h⟩
end Go.Proofs.Ytpkpebgpiakbeaa
