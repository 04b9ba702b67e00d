/-
  The plain law of dice: numbers alone.
-/
import Derived.Test.YtpkpebgpiakbeaaHcRows
namespace Go.Proofs.Ytpkpebgpiakbeaa.Hc.Dice
set_option linter.unusedVariables false
set_option linter.unusedSimpArgs false
open Go Go.Proofs.Ytpkpebgpiakbeaa.Hc

def stepI : Int := 11400714819323198485
def mixI (x : Int) : Int :=
  let a := IntKind.wrap .u64 (x + 11400714819323198485)
  let b := IntKind.wrap .u64 (bits .xor .u64 a (a.fdiv (2 ^ 30)) * 13787848793156543929)
  let c := IntKind.wrap .u64 (bits .xor .u64 b (b.fdiv (2 ^ 27)) * 10723151780598845931)
  bits .xor .u64 c (c.fdiv (2 ^ 31))
theorem bits_u64_bd (op : BinOp) (x y : Int) : 0 ≤ bits op .u64 x y ∧ bits op .u64 x y < 18446744073709551616 := by
  unfold bits; dsimp only; rw [wrap_u64]; omega
theorem mixI_bd (x : Int) : 0 ≤ mixI x ∧ mixI x < 18446744073709551616 := by unfold mixI; dsimp only; exact bits_u64_bd _ _ _
theorem mix_zero : mixI 7046029254386353131 = 0 := by decide +kernel
def nextS (s : Int) : Int := IntKind.wrap .u64 (s + 11400714819323198485)
def itS (s : Int) : Nat → Int
  | 0 => s
  | j + 1 => nextS (itS s j)
theorem itS_eq (s : Int) (h0 : 0 ≤ s) (h1 : s < 18446744073709551616) (j : Nat) : itS s j = (s + j * 11400714819323198485) % 18446744073709551616 := by
  induction j with
  | zero => simp [itS]; omega
  | succ j ih =>
    simp only [itS, nextS, wrap_u64]
    rw [ih]
    have : ((j + 1 : Nat) : Int) * 11400714819323198485 = (j : Int) * 11400714819323198485 + 11400714819323198485 := by
      rw [Int.natCast_add]; omega
    rw [this]
    omega
/-- Some throw is 0: the walk over the states goes through all of them. -/
theorem some_zero (s : Int) (h0 : 0 ≤ s) (h1 : s < 18446744073709551616) : ∃ j, mixI (itS s j) = 0 := by
  refine ⟨(((7046029254386353131 - s) * 17428512612931826493) % 18446744073709551616).toNat, ?_⟩
  rw [itS_eq s h0 h1, Int.toNat_of_nonneg (by omega)]
  have : (s + (7046029254386353131 - s) * 17428512612931826493 % 18446744073709551616 * 11400714819323198485) % 18446744073709551616 = 7046029254386353131 := by omega
  rw [this]; exact mix_zero
theorem itS_bd (s : Int) (h0 : 0 ≤ s) (h1 : s < 18446744073709551616) (j : Nat) : 0 ≤ itS s j ∧ itS s j < 18446744073709551616 := by
  rw [itS_eq s h0 h1]; omega
theorem nextS_bd (s : Int) : 0 ≤ nextS s ∧ nextS s < 18446744073709551616 := by unfold nextS; rw [wrap_u64]; omega
def Falls (s m : Int) (j : Nat) : Prop := mixI (itS s j) < m ∧ ∀ i, i < j → ¬ mixI (itS s i) < m
theorem falls_ex (s m : Int) (h0 : 0 ≤ s) (h1 : s < 18446744073709551616) (hm : 0 < m) : ∃ j, Falls s m j := by
  obtain ⟨j, hj⟩ := some_zero s h0 h1
  obtain ⟨n, hn, hle⟩ := exists_least (p := fun j => mixI (itS s j) < m) ⟨j, by omega⟩
  exact ⟨n, hn, fun i hi hlt => by have := hle i hlt; omega⟩
noncomputable def fallJ (s m : Int) : Nat := Classical.epsilon (Falls s m)
theorem fallJ_spec (s m : Int) (h0 : 0 ≤ s) (h1 : s < 18446744073709551616) (hm : 0 < m) : Falls s m (fallJ s m) := Classical.epsilon_spec (falls_ex s m h0 h1 hm)
theorem Falls.unique {s m : Int} {i j : Nat} (hi : Falls s m i) (hj : Falls s m j) : i = j := by
  rcases Nat.lt_trichotomy i j with h | h | h
  · exact absurd hi.1 (hj.2 i h)
  · exact h
  · exact absurd hj.1 (hi.2 j h)
/-- What a throw must lie below. -/
def mB (n : Int) : Int := IntKind.wrap .u64 (18446744073709551615 - (18446744073709551615 : Int).tmod n)
theorem mB_pos (n : Int) (h0 : 1 ≤ n) (h1 : n < 9223372036854775808) : 0 < mB n := by
  unfold mB
  have e : (18446744073709551615 : Int).tmod n = 18446744073709551615 % n := by rw [Int.tmod_eq_emod_of_nonneg (by decide)]
  have a := Int.emod_nonneg 18446744073709551615 (show n ≠ 0 by omega)
  have b := Int.emod_lt_of_pos 18446744073709551615 (show 0 < n by omega)
  rw [e, wrap_u64]
  omega
noncomputable def belowR (s n : Int) : Int := (mixI (itS s (fallJ s (mB n)))).tmod n
noncomputable def belowS (s n : Int) : Int := itS s (fallJ s (mB n) + 1)
theorem belowR_bd (s n : Int) (h0 : 1 ≤ n) : 0 ≤ belowR s n ∧ belowR s n < n := by
  unfold belowR
  have := mixI_bd (itS s (fallJ s (mB n)))
  rw [Int.tmod_eq_emod_of_nonneg this.1]
  exact ⟨Int.emod_nonneg _ (by omega), Int.emod_lt_of_pos _ (by omega)⟩
/-- 'Below': the number, and the state behind it. -/
noncomputable def BelowF (s n : Int) : Int × Int := if n < 1 then (0, nextS s) else (belowR s n, belowS s n)
/-- 'Between'. -/
noncomputable def BetweenF (s a b : Int) : Int × Int :=
  if b < a then (a, s) else
  if b - a + 1 = 18446744073709551616 then (IntKind.wrap .i64 (mixI s), nextS s) else
  if b - a + 1 > 9223372036854775807 then (IntKind.wrap .i64 (IntKind.wrap .u64 (IntKind.wrap .u64 a + (mixI s).tmod (b - a + 1))), nextS s) else
  (a + belowR s (b - a + 1), belowS s (b - a + 1))
/-- The state of a new die. -/
def newS (a b c d : Int) : Int :=
  mixI (bits .xor .u64 (mixI (bits .xor .u64 (mixI (bits .xor .u64 (mixI (IntKind.wrap .u64 a)) (IntKind.wrap .u64 b))) (IntKind.wrap .u64 c))) (IntKind.wrap .u64 d))
theorem newS_bd (a b c d : Int) : 0 ≤ newS a b c d ∧ newS a b c d < 18446744073709551616 := mixI_bd _
def newIt (a b c d : Int) : Nat → Int
  | 0 => mixI (IntKind.wrap .u64 a)
  | 1 => mixI (bits .xor .u64 (mixI (IntKind.wrap .u64 a)) (IntKind.wrap .u64 b))
  | 2 => mixI (bits .xor .u64 (mixI (bits .xor .u64 (mixI (IntKind.wrap .u64 a)) (IntKind.wrap .u64 b))) (IntKind.wrap .u64 c))
  | _ => newS a b c d
theorem newIt_three (a b c d : Int) : newIt a b c d 3 = newS a b c d := rfl
theorem below_now {s n : Int} (h : mixI s < mB n) (h0 : 0 ≤ s) (h1 : s < 18446744073709551616) (hn : 1 ≤ n) (hn' : n < 9223372036854775808) : belowR s n = (mixI s).tmod n ∧ belowS s n = nextS s := by
  have hf := fallJ_spec s (mB n) h0 h1 (mB_pos n hn hn')
  have : fallJ s (mB n) = 0 := Falls.unique hf ⟨h, fun i hi => by omega⟩
  unfold belowR belowS
  rw [this]
  exact ⟨rfl, rfl⟩
theorem BelowF_bd (s n : Int) (h0 : 0 ≤ s) (h1 : s < 18446744073709551616) : 0 ≤ (BelowF s n).2 ∧ (BelowF s n).2 < 18446744073709551616 := by
  unfold BelowF; split
  · exact nextS_bd s
  · exact itS_bd s h0 h1 _
theorem BelowF_lo (s n : Int) (hn : n < 1) : (BelowF s n).1 = 0 := by unfold BelowF; rw [if_pos hn]
theorem BelowF_in (s n : Int) (hn : 1 ≤ n) : 0 ≤ (BelowF s n).1 ∧ (BelowF s n).1 < n := by unfold BelowF; rw [if_neg (by omega)]; exact belowR_bd s n hn
theorem BetweenF_bd (s a b : Int) (h0 : 0 ≤ s) (h1 : s < 18446744073709551616) : 0 ≤ (BetweenF s a b).2 ∧ (BetweenF s a b).2 < 18446744073709551616 := by
  unfold BetweenF; split
  · exact ⟨h0, h1⟩
  · split
    · exact nextS_bd s
    · split
      · exact nextS_bd s
      · exact itS_bd s h0 h1 _
theorem BetweenF_lo (s a b : Int) (h : b < a) : (BetweenF s a b).1 = a := by unfold BetweenF; rw [if_pos h]
theorem BetweenF_in (s a b : Int) (ha : -9223372036854775808 ≤ a) (hb : b < 9223372036854775808) (h : a ≤ b) : a ≤ (BetweenF s a b).1 ∧ (BetweenF s a b).1 ≤ b := by
  unfold BetweenF
  rw [if_neg (by omega)]
  have hm := mixI_bd s
  split
  · rw [wrap_i64]; omega
  · split
    · have e : (mixI s).tmod (b - a + 1) = mixI s % (b - a + 1) := Int.tmod_eq_emod_of_nonneg hm.1
      have h1 := Int.emod_nonneg (mixI s) (show b - a + 1 ≠ 0 by omega)
      have h2 := Int.emod_lt_of_pos (mixI s) (show 0 < b - a + 1 by omega)
      simp only [wrap_u64, wrap_i64]
      rw [e]
      omega
    · have := belowR_bd s (b - a + 1) (by omega)
      exact ⟨by dsimp only; omega, by dsimp only; omega⟩
/-- Two elements change places. -/
def swapL (l : List Int) (i j : Nat) : List Int := (l.set i (l.getD j 0)).set j (l.getD i 0)
/-- The rounds of a shuffle from place i down. -/
noncomputable def shufF : Int → Nat → List Int → List Int × Int
  | s, 0, l => (l, s)
  | s, i + 1, l => shufF (BelowF s ((i : Int) + 2)).2 i (swapL l (i + 1) (BelowF s ((i : Int) + 2)).1.toNat)
theorem swapL_len (l : List Int) (i j : Nat) : (swapL l i j).length = l.length := by simp [swapL]
theorem swapL_perm (l : List Int) {i j : Nat} (hi : i < l.length) (hj : j < l.length) : (swapL l i j).Perm l := by
  have := List.set_set_perm (as := l) hi hj
  unfold swapL
  rw [List.getD_eq_getElem?_getD, List.getD_eq_getElem?_getD, List.getElem?_eq_getElem hi, List.getElem?_eq_getElem hj]
  exact this
theorem shufF_perm : ∀ (i : Nat) (s : Int) (l : List Int), i < l.length ∨ i = 0 → (shufF s i l).1.Perm l
  | 0, s, l, _ => List.Perm.refl _
  | i + 1, s, l, h => by
    simp only [shufF]
    have hb := BelowF_in s ((i : Int) + 2) (by omega)
    have hl : i + 1 < l.length := by omega
    exact (shufF_perm i _ _ (.inl (by rw [swapL_len]; omega))).trans (swapL_perm l hl (by omega))
theorem shufF_bd : ∀ (i : Nat) (s : Int) (l : List Int), 0 ≤ s → s < 18446744073709551616 → 0 ≤ (shufF s i l).2 ∧ (shufF s i l).2 < 18446744073709551616
  | 0, s, l, h0, h1 => ⟨h0, h1⟩
  | i + 1, s, l, h0, h1 => by
    simp only [shufF]
    have hb := BelowF_bd s ((i : Int) + 2) h0 h1
    exact shufF_bd i _ _ hb.1 hb.2
/-- 'Shuffle' of 1 to 1000 things. -/
noncomputable def ShuffleF (s : Int) (n : Nat) : List Int × Int := shufF s (n - 1) (iota n)
theorem ShuffleF_perm (s : Int) (n : Nat) (hn : 1 ≤ n) : (ShuffleF s n).1.Perm (iota n) := shufF_perm _ _ _ (.inl (by rw [iota_len]; omega))
theorem ShuffleF_len (s : Int) (n : Nat) (hn : 1 ≤ n) : (ShuffleF s n).1.length = n := by rw [(ShuffleF_perm s n hn).length_eq, iota_len]
theorem ShuffleF_bd (s : Int) (n : Nat) (h0 : 0 ≤ s) (h1 : s < 18446744073709551616) : 0 ≤ (ShuffleF s n).2 ∧ (ShuffleF s n).2 < 18446744073709551616 := shufF_bd _ _ _ h0 h1
theorem shown_new : newS 1 2 3 4 = 15374388949593934587 := by decide +kernel
theorem shown_one : BelowF (newS 1 2 3 4) 1000000 = (282457, 8328359695207581456) := by
  have h : belowR 15374388949593934587 1000000 = 282457 ∧ belowS 15374388949593934587 1000000 = 8328359695207581456 := by
    obtain ⟨h1, h2⟩ := below_now (s := 15374388949593934587) (n := 1000000) (by decide +kernel) (by decide) (by decide) (by decide) (by decide)
    rw [h1, h2]; exact ⟨by decide +kernel, by decide +kernel⟩
  rw [shown_new]
  unfold BelowF
  rw [if_neg (by decide), h.1, h.2]
theorem shown_two : (BelowF 8328359695207581456 1000000).1 = 423972 := by
  have h : belowR 8328359695207581456 1000000 = 423972 := by
    obtain ⟨h1, _⟩ := below_now (s := 8328359695207581456) (n := 1000000) (by decide +kernel) (by decide) (by decide) (by decide) (by decide)
    rw [h1]; decide +kernel
  unfold BelowF
  rw [if_neg (by decide), h]
theorem mix_0 : mixI 0 = 16294208416658607535 := by decide +kernel
theorem mix_1 : mixI 1 = 10451216379200822465 := by decide +kernel
end Go.Proofs.Ytpkpebgpiakbeaa.Hc.Dice
