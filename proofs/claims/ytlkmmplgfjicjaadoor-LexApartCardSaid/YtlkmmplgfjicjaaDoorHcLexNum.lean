/-
  Numbers that are read.
-/
import Derived.Test.YtlkmmplgfjicjaaDoorHcLexMath
namespace Go.Proofs.YtlkmmplgfjicjaaDoor.Hc.Lex
set_option linter.unusedVariables false
set_option linter.unusedSimpArgs false

def digs (l : Bs) : Prop := ∀ c ∈ l, digitC c = true
theorem digit_facts {c : UInt8} (h : digitC c = true) : blankC c = false ∧ letterC c = false ∧ c ≠ 47 := by
  unfold digitC at h
  simp only [Bool.and_eq_true, decide_eq_true_eq] at h
  refine ⟨?_, ?_, fun e => by subst e; revert h; decide⟩
  · unfold blankC
    simp only [Bool.or_eq_false_iff, beq_eq_false_iff_ne]
    refine ⟨⟨⟨?_, ?_⟩, ?_⟩, ?_⟩ <;> (rintro rfl; revert h; decide)
  · unfold letterC
    simp only [Bool.or_eq_false_iff, Bool.and_eq_false_iff, decide_eq_false_iff_not]
    omega
theorem remL_no {c : UInt8} {t : Bs} (h : c ≠ 47) : remL (c :: t) = .no := by
  unfold remL
  have : ∀ x : UInt8, Lib.hasPrefix (c :: t) [47, x] = false := fun x => by
    simp [Lib.hasPrefix, List.isPrefixOf]; exact fun e => absurd e.symm h
  rw [this, this]; rfl
theorem runL_app {p : UInt8 → Bool} : ∀ {l r : Bs}, (∀ c ∈ l, p c = true) → (∀ c t, r = c :: t → p c = false) → runL p (l ++ r) = l.length
  | [], [], _, _ => rfl
  | [], c :: t, _, h => by simp [runL, h c t rfl]
  | c :: l, r, h, hr => by
    rw [List.cons_append, runL, h c (List.mem_cons_self ..)]
    simp only [cond_true, List.length_cons]
    rw [runL_app (fun x hx => h x (List.mem_cons_of_mem _ hx)) hr]
theorem ev_num {c : UInt8} {d r : Bs} (hd : digs (c :: d)) (hr : ∀ x t, r = x :: t → digitC x = false) :
    evL (c :: d ++ r) = if decL 0 (c :: d) > 9223372036854775807 ∨ ((c :: d).length > 1 ∧ c = 48) then .err 0 else if badNext r then .err (c :: d).length else .tok 2 (c :: d).length := by
  obtain ⟨h1, h2, h3⟩ := digit_facts (hd c (List.mem_cons_self ..))
  have hrun := runL_app hd hr
  have hdc := hd c (List.mem_cons_self ..)
  rw [List.cons_append] at hrun ⊢
  unfold evL
  dsimp only
  rw [h1, remL_no h3]
  unfold tokE
  dsimp only
  rw [h2, hdc, hrun]
  simp only [Bool.false_eq_true, if_false, if_true]
  have e1 : (c :: (d ++ r)).take (c :: d).length = c :: d := by rw [← List.cons_append, List.take_left]
  have e2 : (c :: (d ++ r)).drop (c :: d).length = r := by rw [← List.cons_append, List.drop_left]
  rw [e1, e2]
theorem decL_pow : ∀ (l : Bs) (a : Nat), a * 10 ^ l.length ≤ decL a l
  | [], a => by rw [List.length_nil, Nat.pow_zero, Nat.mul_one]; exact Nat.le_refl _
  | c :: t, a => by
    unfold decL
    refine Nat.le_trans ?_ (decL_pow t _)
    rw [List.length_cons, Nat.pow_succ, ← Nat.mul_assoc, Nat.mul_right_comm]
    exact Nat.mul_le_mul_right _ (Nat.le_add_right _ _)

/-- The text of a number: its digits, none too many. -/
structure NumS (n : Nat) (l : Bs) : Prop where
  dg : digs l
  ne : l ≠ []
  le : l.length ≤ 19
  val : decL 0 l = n
  hd : l.head? ≠ some 48 ∨ l = [48]
  mx : n ≤ 9223372036854775807
variable {n : Nat} {l : Bs}
theorem NumS.ev (h : NumS n l) {r : Bs} (hr : ∀ x t, r = x :: t → digitC x = false) : ∃ c d, l = c :: d ∧ evL (l ++ r) = if badNext r then .err l.length else .tok 2 l.length := by
  cases l with
  | nil => exact absurd rfl h.ne
  | cons c d =>
    refine ⟨c, d, rfl, ?_⟩
    rw [ev_num h.dg hr, if_neg]
    rintro (e | ⟨e1, e2⟩)
    · rw [h.val] at e; have := h.mx; omega
    · rcases h.hd with g | g
      · subst e2; exact g rfl
      · rw [g] at e1; simp at e1
theorem NumS.lex (h : NumS n l) : lexL 0 l = .ok [⟨2, l, 0⟩, ⟨0, [], l.length⟩] := by
  obtain ⟨c, d, hl, he⟩ := h.ev (r := []) (fun _ _ e => by cases e)
  rw [List.append_nil] at he
  subst hl
  rw [lexL_cons, he]
  simp only [badNext, Bool.false_eq_true, if_false, List.length_cons, Nat.zero_add, Nat.add_sub_cancel]
  rw [List.drop_length, lexL_nil, ← List.length_cons (a := c), List.take_length]
  rfl
theorem NumS.lex0 (h : NumS n l) : lexL 0 (48 :: l) = .error 0 := by
  have hd : digs (48 :: l) := fun x hx => by
    rcases List.mem_cons.1 hx with rfl | hx
    · rfl
    · exact h.dg x hx
  have he := ev_num (r := []) hd (fun _ _ e => by cases e)
  rw [List.append_nil] at he
  have hne := h.ne
  rw [lexL_cons, he, if_pos (.inr ⟨by cases l with | nil => exact absurd rfl hne | cons _ _ => simp, rfl⟩)]
theorem NumS.lexX (h : NumS n l) : ∃ e, lexL 0 (l ++ [120]) = .error e := by
  obtain ⟨c, d, hl, he⟩ := h.ev (r := [120]) (fun x t e => by cases e; rfl)
  subst hl
  rw [List.cons_append] at he ⊢
  rw [lexL_cons, he]
  exact ⟨_, rfl⟩
theorem NumS.lexB (h : NumS n l) : lexL 0 (49 :: l ++ List.replicate 18 48) = .error 0 := by
  have hd : digs (49 :: (l ++ List.replicate 18 48)) := fun x hx => by
    rcases List.mem_cons.1 hx with rfl | hx
    · rfl
    · rcases List.mem_append.1 hx with hx | hx
      · exact h.dg x hx
      · rw [List.eq_of_mem_replicate hx]; rfl
  have he := ev_num (r := []) hd (fun _ _ e => by cases e)
  rw [List.append_nil] at he
  rw [List.cons_append, lexL_cons, he]
  have hne : 1 ≤ l.length := by cases l with | nil => exact absurd rfl h.ne | cons _ _ => simp
  have h1 := decL_pow (l ++ List.replicate 18 48) 1
  have h2 : (10 : Nat) ^ 19 ≤ 10 ^ (l ++ List.replicate 18 48).length := Nat.pow_le_pow_right (by omega) (by rw [List.length_append, List.length_replicate]; omega)
  have h3 : decL 0 (49 :: (l ++ List.replicate 18 48)) = decL 1 (l ++ List.replicate 18 48) := rfl
  rw [h3]
  have h4 : (10 : Nat) ^ 19 = 10000000000000000000 := by decide
  rw [if_pos (.inl (by omega))]
theorem NumS.lexP (h : NumS n l) : lexL 0 (40 :: l ++ [41]) = .ok [⟨3, [40], 0⟩, ⟨2, l, 1⟩, ⟨3, [41], l.length + 1⟩, ⟨0, [], l.length + 2⟩] := by
  obtain ⟨c, d, hl, he⟩ := h.ev (r := [41]) (fun x t e => by cases e; rfl)
  have sg : ∀ (a : UInt8) (t : Bs), a = 40 ∨ a = 41 → evL (a :: t) = .tok 3 1 := by
    intro a t ha
    have h47 : a ≠ 47 := by rcases ha with rfl | rfl <;> decide
    have hb : blankC a = false := by rcases ha with rfl | rfl <;> rfl
    have hl : letterC a = false := by rcases ha with rfl | rfl <;> rfl
    have hd : digitC a = false := by rcases ha with rfl | rfl <;> rfl
    unfold evL
    dsimp only
    rw [hb, remL_no h47]
    unfold tokE
    dsimp only
    rw [hl, hd]
    have hs : signL (a :: t) = 1 := by
      unfold signL
      rw [if_neg]
      · dsimp only
        rw [if_pos]
        rcases ha with rfl | rfl <;> decide
      · simp only [twos, List.any_cons, List.any_nil, Bool.or_false, Lib.hasPrefix, List.isPrefixOf]
        rcases ha with rfl | rfl <;> simp
    rw [hs]; rfl
  rw [List.cons_append, lexL_cons, sg 40 _ (.inl rfl)]
  dsimp only
  rw [Nat.sub_self, List.drop_zero]
  subst hl
  rw [List.cons_append] at he ⊢
  rw [lexL_cons, he]
  simp only [badNext, show (letterC 41 || (41 : UInt8) == 95) = false by decide, Bool.false_eq_true, if_false, List.length_cons, Nat.add_sub_cancel]
  have e1 : (d ++ [41]).drop d.length = [41] := List.drop_left
  have e2 : (c :: (d ++ [41])).take (d.length + 1) = c :: d := by rw [← List.cons_append, ← List.length_cons (a := c), List.take_left]
  rw [e1, e2, lexL_cons, sg 41 _ (.inr rfl)]
  simp only [pre, Nat.sub_self, List.drop_zero, lexL_nil, List.take_succ_cons, List.take_zero, List.cons_append, List.nil_append]
  congr 1
  simp only [List.cons.injEq, Tk.mk.injEq, true_and, and_true]
  omega
/-- The law's own making of the text. -/
structure NumI (n : Nat) (l : Bs) (k : Nat) : Prop where
  dg : digs l
  val : decL k l = n
  bd : 0 < k → 10 ^ l.length * k ≤ n
  le : l.length ≤ 19
  st : 0 < k ∨ (l = [] ∧ n = 0) ∨ (l ≠ [] ∧ l.head? ≠ some 48) ∨ (l = [48] ∧ n = 0)
  mx : n ≤ 9223372036854775807
theorem NumI.init (h : n ≤ 9223372036854775807) : NumI n [] n := ⟨fun _ h => (by cases h), rfl, fun _ => by simp, by simp, by
  rcases Nat.eq_zero_or_pos n with e | e
  · exact .inr (.inl ⟨rfl, e⟩)
  · exact .inl e, h⟩
theorem NumI.fin (h : NumI n l 0) (hne : l ≠ []) : NumS n l := ⟨h.dg, hne, h.le, h.val, by
  rcases h.st with e | ⟨e, _⟩ | ⟨_, e⟩ | ⟨e, _⟩
  · omega
  · exact absurd e hne
  · exact .inl e
  · exact .inr e, h.mx⟩
theorem NumI.step {k : Nat} (h : NumI n l k) (hgo : 0 < k ∨ l = []) : NumI n (UInt8.ofNat (48 + k % 10) :: l) (k / 10) := by
  have hd : (UInt8.ofNat (48 + k % 10)).toNat = 48 + k % 10 := by rw [UInt8.toNat_ofNat']; omega
  refine ⟨fun x hx => ?_, ?_, fun hk => ?_, ?_, ?_, h.mx⟩
  · rcases List.mem_cons.1 hx with rfl | hx
    · unfold digitC
      simp only [Bool.and_eq_true, decide_eq_true_eq]
      omega
    · exact h.dg x hx
  · unfold decL
    rw [hd, show k / 10 * 10 + (48 + k % 10 - 48) = k by omega]
    exact h.val
  · have := h.bd (by omega)
    rw [List.length_cons, Nat.pow_succ, Nat.mul_assoc]
    exact Nat.le_trans (Nat.mul_le_mul_left _ (by omega)) this
  · rcases hgo with hk | rfl
    · have h1 := h.bd hk
      have h2 : 10 ^ l.length ≤ n := Nat.le_trans (Nat.le_mul_of_pos_right _ hk) h1
      have hmx := h.mx
      have : l.length < 19 := by
        rcases Nat.lt_or_ge l.length 19 with h | h
        · exact h
        · have h3 : (10 : Nat) ^ 19 ≤ 10 ^ l.length := Nat.pow_le_pow_right (by omega) h
          have h4 : (10 : Nat) ^ 19 = 10000000000000000000 := by decide
          omega
      simp; omega
    · simp
  · rcases Nat.eq_zero_or_pos (k / 10) with e | e
    · rcases Nat.eq_zero_or_pos k with e0 | e0
      · have hl : l = [] := by rcases hgo with h | h; omega; exact h
        subst hl e0
        exact .inr (.inr (.inr ⟨rfl, (h.val : 0 = n).symm⟩))
      · refine .inr (.inr (.inl ⟨by simp, fun e2 => ?_⟩))
        simp only [List.head?_cons, Option.some.injEq] at e2
        have := congrArg UInt8.toNat e2
        rw [hd] at this
        have h48 : UInt8.toNat 48 = 48 := by decide
        omega
    · exact .inl e
end Go.Proofs.YtlkmmplgfjicjaaDoor.Hc.Lex
