/-
  The lexer: what a source's bytes are taken apart into.
-/
import Derived.Lib.IndexMore
import Derived.Lib.ParseIntB
import Derived.Test.YtlkmmplgfjicjaaDoorHcBytes
namespace Go.Proofs.YtlkmmplgfjicjaaDoor.Hc.Lex
set_option linter.unusedVariables false
set_option linter.unusedSimpArgs false
abbrev Bs := List UInt8
def blankC (c : UInt8) : Bool := c == 32 || c == 9 || c == 10 || c == 13
def letterC (c : UInt8) : Bool := (decide (97 ≤ c.toNat) && decide (c.toNat ≤ 122)) || (decide (65 ≤ c.toNat) && decide (c.toNat ≤ 90))
def digitC (c : UInt8) : Bool := decide (48 ≤ c.toNat) && decide (c.toNat ≤ 57)
def wordC (c : UInt8) : Bool := letterC c || digitC c || c == 95
/-- How many at the head are of a sort. -/
def runL (p : UInt8 → Bool) : Bs → Nat
  | [] => 0
  | c :: t => bif p c then runL p t + 1 else 0
inductive Rem where
  | no
  | to (n : Nat)
  | endless
deriving DecidableEq
def remL (r : Bs) : Rem :=
  if Lib.hasPrefix r [47, 47] then .to (runL (fun c => c != 10) r)
  else if Lib.hasPrefix r [47, 42] then (if 0 ≤ Lib.index (r.drop 2) [42, 47] then .to ((Lib.index (r.drop 2) [42, 47]).toNat + 4) else .endless)
  else .no
def twos : List Bs := [[61, 61], [33, 61], [60, 61], [62, 61], [38, 38], [124, 124]]
def ones : Bs := [43, 45, 42, 47, 37, 60, 62, 33, 61, 40, 41, 123, 125, 44, 59, 58, 63, 46]
def signL (r : Bs) : Nat :=
  if twos.any (fun s => Lib.hasPrefix r s) then 2 else match r with
    | c :: _ => if c ∈ ones then 1 else 0
    | [] => 0
def decL : Nat → Bs → Nat
  | acc, [] => acc
  | acc, c :: t => decL (acc * 10 + (c.toNat - 48)) t
def badNext : Bs → Bool
  | [] => false
  | c :: _ => letterC c || c == 95
inductive Ev where
  | skip (n : Nat)
  | tok (k : Nat) (n : Nat)
  | err (n : Nat)
deriving DecidableEq
/-- What stands at a place that is no blank and begins no remark. -/
def tokE : Bs → Ev
  | [] => .err 0
  | c :: t =>
    let r := c :: t
    if letterC c then (if runL wordC r > 16 then .err 0 else .tok 1 (runL wordC r))
    else if digitC c then
      (if decL 0 (r.take (runL digitC r)) > 9223372036854775807 ∨ (runL digitC r > 1 ∧ c = 48) then .err 0
       else if badNext (r.drop (runL digitC r)) then .err (runL digitC r) else .tok 2 (runL digitC r))
    else if signL r = 0 then .err 0 else .tok 3 (signL r)
def evL : Bs → Ev
  | [] => .err 0
  | c :: t => if blankC c then .skip 1 else match remL (c :: t) with
    | .to n => .skip n
    | .endless => .err 0
    | .no => tokE (c :: t)
structure Tk where
  kind : Nat
  text : Bs
  at' : Nat
deriving DecidableEq, Inhabited
abbrev Res := Except Nat (List Tk)
def pre (ts : List Tk) : Res → Res
  | .ok l => .ok (ts ++ l)
  | .error e => .error e
theorem pre_nil (r : Res) : pre [] r = r := by cases r <;> rfl
theorem pre_pre (a b : List Tk) (r : Res) : pre a (pre b r) = pre (a ++ b) r := by cases r <;> simp [pre]
def lexF : Nat → Nat → Bs → Res
  | _, p, [] => .ok [⟨0, [], p⟩]
  | 0, p, _ :: _ => .error p
  | f + 1, p, c :: t => match evL (c :: t) with
    | .skip n => lexF f (p + n) (t.drop (n - 1))
    | .tok k n => pre [⟨k, (c :: t).take n, p⟩] (lexF f (p + n) (t.drop (n - 1)))
    | .err n => .error (p + n)
theorem lexF_more : ∀ (f g p : Nat) (r : Bs), r.length ≤ f → r.length ≤ g → lexF f p r = lexF g p r
  | 0, 0, _, _, _, _ => rfl
  | f, g, p, [], _, _ => by cases f <;> cases g <;> rfl
  | f + 1, g + 1, p, c :: t, h1, h2 => by
    simp only [List.length_cons] at h1 h2
    unfold lexF
    have : ∀ n q, lexF f q (t.drop n) = lexF g q (t.drop n) := fun n q => lexF_more f g q _ (by simp; omega) (by simp; omega)
    simp only [this]
/-- A source's rest from place p on. -/
def lexL (p : Nat) (r : Bs) : Res := lexF r.length p r
theorem lexL_nil (p : Nat) : lexL p [] = .ok [⟨0, [], p⟩] := rfl
theorem lexL_cons (p : Nat) (c : UInt8) (t : Bs) : lexL p (c :: t) = match evL (c :: t) with
    | .skip n => lexL (p + n) (t.drop (n - 1))
    | .tok k n => pre [⟨k, (c :: t).take n, p⟩] (lexL (p + n) (t.drop (n - 1)))
    | .err n => .error (p + n) := by
  unfold lexL
  simp only [List.length_cons, lexF]
  have : ∀ n q, lexF t.length q (t.drop n) = lexF (t.drop n).length q (t.drop n) := fun n q => lexF_more _ _ _ _ (by simp) (Nat.le_refl _)
  simp only [this]
theorem drop_pred (c : UInt8) (t : Bs) {n : Nat} (h : 1 ≤ n) : t.drop (n - 1) = (c :: t).drop n := by
  obtain ⟨m, rfl⟩ : ∃ m, n = m + 1 := ⟨n - 1, by omega⟩
  simp
/-- At place p of L. -/
theorem lexL_skip {L : Bs} {p n : Nat} {c : UInt8} {t : Bs} (h : L.drop p = c :: t) (he : evL (c :: t) = .skip n) (hn : 1 ≤ n) : lexL p (L.drop p) = lexL (p + n) (L.drop (p + n)) := by
  rw [h, lexL_cons, he]
  dsimp only
  rw [drop_pred c t hn, ← h, List.drop_drop]
theorem lexL_tok {L : Bs} {p n k : Nat} {c : UInt8} {t : Bs} (h : L.drop p = c :: t) (he : evL (c :: t) = .tok k n) (hn : 1 ≤ n) :
    lexL p (L.drop p) = pre [⟨k, (L.drop p).take n, p⟩] (lexL (p + n) (L.drop (p + n))) := by
  rw [h, lexL_cons, he]
  dsimp only
  rw [drop_pred c t hn, ← h, List.drop_drop]
theorem lexL_err {L : Bs} {p n : Nat} {c : UInt8} {t : Bs} (h : L.drop p = c :: t) (he : evL (c :: t) = .err n) : lexL p (L.drop p) = .error (p + n) := by
  rw [h, lexL_cons, he]
theorem runL_le (p : UInt8 → Bool) : ∀ r, runL p r ≤ r.length
  | [] => Nat.le_refl _
  | c :: t => by unfold runL; cases p c <;> simp [runL_le p t]
theorem runL_pos {p : UInt8 → Bool} {c : UInt8} {t : Bs} (h : p c = true) : 1 ≤ runL p (c :: t) := by unfold runL; rw [h]; simp
/-- Number so many are of the sort. -/
theorem runL_step {p : UInt8 → Bool} : ∀ {r : Bs} {n : Nat}, n ≤ runL p r → (∃ c t, r.drop n = c :: t ∧ p c = true ∧ n < runL p r) ∨ (n = runL p r ∧ (r.drop n = [] ∨ ∃ c t, r.drop n = c :: t ∧ p c = false))
  | [], n, h => .inr ⟨Nat.le_antisymm h (Nat.zero_le _), .inl (by simp)⟩
  | c :: t, 0, _ => by
    cases h : p c with
    | true => exact .inl ⟨c, t, rfl, h, runL_pos h⟩
    | false => exact .inr ⟨by simp [runL, h], .inr ⟨c, t, rfl, h⟩⟩
  | c :: t, n + 1, h => by
    cases hc : p c with
    | false => simp [runL, hc] at h
    | true =>
      simp only [runL, hc, cond_true] at h ⊢
      rcases runL_step (p := p) (r := t) (n := n) (by omega) with ⟨d, u, h1, h2, h3⟩ | ⟨h1, h2⟩
      · exact .inl ⟨d, u, by simpa using h1, h2, by omega⟩
      · exact .inr ⟨by omega, by simpa using h2⟩
/-- What stands here is no blank, and no remark. -/
def Stop (r : Bs) : Prop := r = [] ∨ ∃ c t, r = c :: t ∧ blankC c = false ∧ remL r = .no
theorem Stop.ev {c : UInt8} {t : Bs} (h : Stop (c :: t)) : evL (c :: t) = tokE (c :: t) := by
  rcases h with h | ⟨d, u, h1, h2, h3⟩
  · cases h
  · simp only [List.cons.injEq] at h1
    obtain ⟨rfl, rfl⟩ := h1
    unfold evL
    dsimp only
    rw [h2, h3]
    rfl
theorem hp2 {r : Bs} {a b : UInt8} (h : Lib.hasPrefix r [a, b] = true) : ∃ t, r = a :: b :: t := by
  match r, h with
  | [], h => simp [Lib.hasPrefix] at h
  | [x], h => simp [Lib.hasPrefix, List.isPrefixOf] at h
  | x :: y :: t, h => simp only [Lib.hasPrefix, List.isPrefixOf, Bool.and_eq_true, beq_iff_eq, Bool.and_true] at h; exact ⟨t, by rw [h.1, h.2]⟩
theorem remL_le {r : Bs} {n : Nat} (h : remL r = .to n) : n ≤ r.length ∧ 2 ≤ n := by
  unfold remL at h
  split at h
  · rename_i hp
    simp only [Rem.to.injEq] at h
    subst h
    refine ⟨runL_le _ _, ?_⟩
    obtain ⟨t, rfl⟩ := hp2 hp
    simp [runL]
  · split at h
    · split at h
      · rename_i hi
        simp only [Rem.to.injEq] at h
        subst h
        have := Lib.index_room _ _ hi
        simp only [List.length_drop, List.length_cons, List.length_nil] at this
        omega
      · cases h
    · cases h
theorem signL_le (r : Bs) : signL r ≤ r.length := by
  unfold signL
  split
  · rename_i h
    obtain ⟨x, hx, h⟩ := List.any_eq_true.1 h
    simp only [twos, List.mem_cons, List.not_mem_nil, or_false] at hx
    rcases hx with rfl | rfl | rfl | rfl | rfl | rfl <;> (obtain ⟨t, rfl⟩ := hp2 h; simp)
  · cases r with
    | nil => simp
    | cons c t => dsimp only; split <;> simp
/-- What takes a token takes something, and no more than there is. -/
theorem tokE_le {r : Bs} {k n : Nat} (h : tokE r = .tok k n) : 1 ≤ n ∧ n ≤ r.length := by
  cases r with
  | nil => cases h
  | cons c t =>
    unfold tokE at h
    dsimp only at h
    split at h
    · rename_i hc
      split at h
      · cases h
      · simp only [Ev.tok.injEq] at h
        obtain ⟨_, rfl⟩ := h
        exact ⟨runL_pos (by simp [wordC, hc]), runL_le _ _⟩
    · split at h
      · rename_i hc
        split at h
        · cases h
        · split at h
          · cases h
          · simp only [Ev.tok.injEq] at h
            obtain ⟨_, rfl⟩ := h
            exact ⟨runL_pos hc, runL_le _ _⟩
      · split at h
        · cases h
        · simp only [Ev.tok.injEq] at h
          obtain ⟨_, rfl⟩ := h
          exact ⟨by omega, signL_le _⟩
/-- Where a source ends at fault: within it. -/
theorem drop_length {L : Bs} {p : Nat} {c : UInt8} {t : Bs} (h : L.drop p = c :: t) : p < L.length ∧ L.length = p + (t.length + 1) := by
  have := congrArg List.length h
  simp only [List.length_drop, List.length_cons] at this
  omega
end Go.Proofs.YtlkmmplgfjicjaaDoor.Hc.Lex
namespace Go.Proofs.YtlkmmplgfjicjaaDoor.Hc
/-- As LoopT.ghost, for a scope with jumps. -/
theorem JumpT.ghost {σ : Type} {first : (Nat → σ → Heap → Prop) → Prop} {passes : List (Nat × ((Nat → σ → Heap → Prop) → σ → Heap → Prop))} (I : Nat → Nat → σ → Heap → Prop)
    (hf : ∀ jump, (∀ m l s H, I m l s H → jump l s H) → first jump)
    (hb : ∀ p ∈ passes, ∀ jump m s H, I m p.1 s H → (∀ m' l s' H', m' < m → I m' l s' H' → jump l s' H') → p.2 jump s H) : JumpT first passes := by
  refine ⟨fun l s H => ∃ m, I m l s H, fun l s H => leastOf (fun m => I m l s H), hf _ fun m l s H h => ⟨m, h⟩, fun p hp s H hI => ?_⟩
  have hl := leastOf_spec hI
  exact hb p hp _ _ s H hl.1 fun m' l s' H' hlt hI' => ⟨⟨m', hI'⟩, Nat.lt_of_le_of_lt ((leastOf_spec ⟨m', hI'⟩).2 m' hI') hlt⟩
end Go.Proofs.YtlkmmplgfjicjaaDoor.Hc
namespace Go.Proofs.YtlkmmplgfjicjaaDoor.Hc.Lex
theorem runL_all {p : UInt8 → Bool} : ∀ {r : Bs} {c : UInt8}, c ∈ r.take (runL p r) → p c = true
  | [], c, h => by simp at h
  | d :: t, c, h => by
    unfold runL at h
    cases hd : p d with
    | false => simp [hd] at h
    | true =>
      simp only [hd, cond_true, List.take_succ_cons, List.mem_cons] at h
      rcases h with rfl | h
      · exact hd
      · exact runL_all h
theorem decL_ge : ∀ (l : Bs) (a : Nat), a ≤ decL a l
  | [], _ => Nat.le_refl _
  | c :: t, a => Nat.le_trans (by omega) (decL_ge t _)
theorem parseM {M : Nat} (hM : M < 18446744073709551620) : ∀ {l : Bs} {a : Nat}, (∀ c ∈ l, digitC c = true) → a ≤ M → Lib.parseUintM M a l = if decL a l ≤ M then .ok (decL a l) else .range
  | [], a, _, ha => by unfold Lib.parseUintM decL; rw [if_pos ha]
  | c :: t, a, h, ha => by
    have hc := h c (List.mem_cons_self ..)
    unfold digitC at hc
    simp only [Bool.and_eq_true, decide_eq_true_eq] at hc
    unfold Lib.parseUintM decL
    rw [if_pos hc]
    have hg := decL_ge t (a * 10 + (c.toNat - 48))
    split
    · rw [if_neg (by omega)]
    · split
      · rw [if_neg (by omega)]
      · exact parseM hM (fun x hx => h x (List.mem_cons_of_mem _ hx)) (by omega)
theorem parse_digits {l : Bs} (h : ∀ c ∈ l, digitC c = true) (hne : l ≠ []) : Lib.parseIntB 64 l = if decL 0 l ≤ 9223372036854775807 then .ok (decL 0 l : Nat) else .range := by
  match l, hne, h with
  | c :: t, _, h =>
    have hc := h c (List.mem_cons_self ..)
    unfold digitC at hc
    simp only [Bool.and_eq_true, decide_eq_true_eq] at hc
    unfold Lib.parseIntB
    dsimp only
    rw [if_neg (by omega)]
    unfold Lib.parseUintB
    rw [if_neg (by simp)]
    rw [show 2 ^ 64 - 1 = 18446744073709551615 by decide, parseM (by omega) h (by omega)]
    rw [show 2 ^ (64 - 1) = 9223372036854775808 by decide]
    by_cases h1 : decL 0 (c :: t) ≤ 18446744073709551615
    · rw [if_pos h1]
      dsimp only
      have hn : ¬ c.toNat = 45 := by omega
      by_cases h2 : decL 0 (c :: t) ≤ 9223372036854775807
      · rw [if_neg (by intro e; have := e.2; omega), if_neg (fun e => hn e.1), if_neg hn, if_pos h2]
      · rw [if_pos ⟨hn, by omega⟩, if_neg h2]
    · rw [if_neg h1]
      dsimp only
      rw [if_neg (by omega)]
/-- A line's length. -/
theorem index_line : ∀ (r : Bs), (0 ≤ Lib.index r [10] → (Lib.index r [10]).toNat = runL (fun c => c != 10) r) ∧ (¬ 0 ≤ Lib.index r [10] → runL (fun c => c != 10) r = r.length)
  | [] => by simp [Lib.index, runL]
  | c :: t => by
    obtain ⟨h1, h2⟩ := index_line t
    have hg := Lib.index_ge t [10]
    unfold Lib.index runL
    by_cases hc : c = 10
    · subst hc; simp [List.isPrefixOf]
    · have e : [(10 : UInt8)].isPrefixOf (c :: t) = false := by simp [List.isPrefixOf]; exact fun e => hc e.symm
      have e2 : (c != 10) = true := by simpa using hc
      rw [e, e2]
      simp only [Bool.false_eq_true, if_false, cond_true]
      split
      · rename_i h
        have : Lib.index t [10] = -1 := by simpa using h
        refine ⟨fun h => by omega, fun _ => ?_⟩
        rw [h2 (by omega)]; simp
      · rename_i h
        have : Lib.index t [10] ≠ -1 := by simpa using h
        refine ⟨fun _ => ?_, fun h => by omega⟩
        rw [← h1 (by omega)]; omega
theorem cut_line (r : Bs) : (Lib.cut r [10]).1.length = runL (fun c => c != 10) r := by
  obtain ⟨h1, h2⟩ := index_line r
  unfold Lib.cut
  split
  · rename_i h
    have := Lib.index_room _ _ h
    rw [List.length_take, ← h1 h]
    simp only [List.length_cons, List.length_nil] at this
    omega
  · rename_i h; exact (h2 h).symm
theorem cut_end (r : Bs) : (0 ≤ Lib.index r [42, 47] → (Lib.cut r [42, 47]).2.2 = true ∧ (Lib.cut r [42, 47]).1.length = (Lib.index r [42, 47]).toNat) ∧ (¬ 0 ≤ Lib.index r [42, 47] → (Lib.cut r [42, 47]).2.2 = false) := by
  unfold Lib.cut
  refine ⟨fun h => ?_, fun h => by rw [if_neg h]⟩
  have := Lib.index_room _ _ h
  rw [if_pos h]
  simp only [List.length_cons, List.length_nil] at this
  exact ⟨rfl, by rw [List.length_take]; omega⟩
end Go.Proofs.YtlkmmplgfjicjaaDoor.Hc.Lex
