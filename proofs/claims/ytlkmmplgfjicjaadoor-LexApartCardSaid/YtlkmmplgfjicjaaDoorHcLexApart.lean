/-
  Tokens stand at their places; put together again they are the same.
-/
import Derived.Test.YtlkmmplgfjicjaaDoorHcLexMath
namespace Go.Proofs.YtlkmmplgfjicjaaDoor.Hc.Lex
set_option linter.unusedVariables false
set_option linter.unusedSimpArgs false

/-- 'g' is gone over, with 'u' behind it. -/
inductive Skips : Bs → Bs → Prop where
  | nil (u : Bs) : Skips [] u
  | cons (g u : Bs) (n : Nat) (h : evL (g ++ u) = .skip n) (h1 : 1 ≤ n) (h2 : n ≤ g.length) (r : Skips (g.drop n) u) : Skips g u

theorem evL_skip_le {c : UInt8} {t : Bs} {n : Nat} (h : evL (c :: t) = .skip n) : 1 ≤ n ∧ n ≤ (c :: t).length := by
  unfold evL at h
  dsimp only at h
  split at h
  · simp only [Ev.skip.injEq] at h; subst h; simp
  · split at h
    · rename_i m hm
      simp only [Ev.skip.injEq] at h
      subst h
      have := remL_le hm
      omega
    · cases h
    · unfold tokE at h
      dsimp only at h
      repeat' split at h
      all_goals cases h
theorem evL_tok {c : UInt8} {t : Bs} {k n : Nat} (h : evL (c :: t) = .tok k n) : blankC c = false ∧ remL (c :: t) = .no ∧ tokE (c :: t) = .tok k n := by
  unfold evL at h
  dsimp only at h
  split at h
  · cases h
  · rename_i hb
    split at h
    · cases h
    · cases h
    · rename_i hr
      exact ⟨by simpa using hb, hr, h⟩
theorem tokE_kind {r : Bs} {k n : Nat} (h : tokE r = .tok k n) : 1 ≤ k := by
  cases r with
  | nil => cases h
  | cons c t =>
    unfold tokE at h
    dsimp only at h
    repeat' split at h
    all_goals (cases h; try omega)
/-- One step of what was taken apart. -/
theorem lex_unroll : ∀ (m : Nat) (r : Bs) (p : Nat) (ts : List Tk), r.length ≤ m → lexL p r = .ok ts → ∃ g u, r = g ++ u ∧ Skips g u ∧
    ((u = [] ∧ ts = [⟨0, [], p + g.length⟩]) ∨ ∃ k n ts', evL u = .tok k n ∧ 1 ≤ n ∧ n ≤ u.length ∧ 1 ≤ k ∧ ts = ⟨k, u.take n, p + g.length⟩ :: ts' ∧ lexL (p + g.length + n) (u.drop n) = .ok ts') := by
  intro m
  induction m with
  | zero =>
    intro r p ts hm h
    have : r = [] := List.eq_nil_of_length_eq_zero (by omega)
    subst this
    rw [lexL_nil] at h
    cases h
    exact ⟨[], [], rfl, .nil _, .inl ⟨rfl, rfl⟩⟩
  | succ m ih =>
    intro r p ts hm h
    cases r with
    | nil =>
      rw [lexL_nil] at h
      cases h
      exact ⟨[], [], rfl, .nil _, .inl ⟨rfl, rfl⟩⟩
    | cons c t =>
      rw [lexL_cons] at h
      split at h
      · rename_i n he
        obtain ⟨h1, h2⟩ := evL_skip_le he
        rw [drop_pred c t h1] at h
        obtain ⟨g, u, hr, hs, hc⟩ := ih ((c :: t).drop n) (p + n) ts (by simp only [List.length_drop, List.length_cons] at *; omega) h
        have hsplit : c :: t = ((c :: t).take n ++ g) ++ u := by rw [List.append_assoc, ← hr, List.take_append_drop]
        have htl : ((c :: t).take n).length = n := by rw [List.length_take]; omega
        refine ⟨(c :: t).take n ++ g, u, hsplit, ?_, ?_⟩
        · refine .cons _ _ n (by rw [← hsplit]; exact he) h1 (by rw [List.length_append, htl]; omega) ?_
          have : ((c :: t).take n ++ g).drop n = g := by
            conv => lhs; rw [show n = ((c :: t).take n).length from htl.symm]
            rw [htl]; exact List.drop_left' htl
          rw [this]; exact hs
        · rw [List.length_append, htl, ← Nat.add_assoc]; exact hc
      · rename_i k n he
        obtain ⟨_, _, ht⟩ := evL_tok he
        obtain ⟨h1, h2⟩ := tokE_le ht
        rw [drop_pred c t h1] at h
        cases hl : lexL (p + n) ((c :: t).drop n) with
        | error e => rw [hl] at h; cases h
        | ok l =>
          rw [hl] at h
          simp only [pre, Except.ok.injEq] at h
          exact ⟨[], c :: t, rfl, .nil _, .inr ⟨k, n, l, he, h1, h2, tokE_kind ht, by simpa using h.symm, by simpa using hl⟩⟩
      · cases h
theorem skips_lex : ∀ {g u : Bs}, Skips g u → ∀ p, lexL p (g ++ u) = lexL (p + g.length) u := by
  intro g u h
  induction h with
  | nil u => intro p; rfl
  | cons g u n he h1 h2 r ih =>
    intro p
    cases hg : g with
    | nil => rw [hg] at h2; simp at h2; omega
    | cons c t =>
      rw [hg] at he ih h2
      rw [List.cons_append] at he ⊢
      rw [lexL_cons, he]
      dsimp only
      have e1 : (t ++ u).drop (n - 1) = (c :: t).drop n ++ u := by
        rw [drop_pred c (t ++ u) h1, ← List.cons_append, List.drop_append_of_le_length h2]
      rw [e1, ih]
      congr 1
      simp only [List.length_drop]
      omega
/-! ### what is cut off behind -/
theorem hp_app2 {g u : Bs} {a b : UInt8} (h : 2 ≤ g.length) : Lib.hasPrefix (g ++ u) [a, b] = Lib.hasPrefix g [a, b] := by
  match g, h with
  | x :: y :: t, _ => rfl
theorem runL_trunc {p : UInt8 → Bool} : ∀ {g u : Bs}, runL p (g ++ u) ≤ g.length → runL p g = runL p (g ++ u)
  | [], u, h => by simp at h; simp [runL, h]
  | c :: g, u, h => by
    rw [List.cons_append] at h ⊢
    unfold runL at h ⊢
    cases hc : p c with
    | false => rfl
    | true =>
      rw [hc] at h
      simp only [cond_true, List.length_cons] at h ⊢
      rw [runL_trunc (g := g) (u := u) (by omega)]
theorem occ_app {g u sub : Bs} {i : Nat} (h : i + sub.length ≤ g.length) : Lib.occAt (g ++ u) sub i = Lib.occAt g sub i := by
  unfold Lib.occAt
  rw [List.drop_append_of_le_length (by omega)]
  rw [Bool.eq_iff_iff, List.isPrefixOf_iff_prefix, List.isPrefixOf_iff_prefix]
  constructor
  · intro hp
    exact List.prefix_of_prefix_length_le hp (List.prefix_append _ _) (by rw [List.length_drop]; omega)
  · intro hp
    exact hp.trans (List.prefix_append _ _)
theorem index_trunc {g u sub : Bs} (hs : sub ≠ []) {i : Nat} (h : Lib.index (g ++ u) sub = i) (hi : i + sub.length ≤ g.length) : Lib.index g sub = i := by
  rcases Lib.index_spec (g ++ u) sub with ⟨h1, _⟩ | ⟨j, h1, h2, h3, h4⟩
  · omega
  · have : j = i := by omega
    subst this
    refine Lib.index_first (by omega) (by rw [← occ_app hi]; exact h3) fun q hq => ?_
    rw [← occ_app (u := u) (by omega)]
    exact h4 q hq
theorem ev_trunc {g u : Bs} {n : Nat} (h : evL (g ++ u) = .skip n) (h1 : 1 ≤ n) (h2 : n ≤ g.length) : evL g = .skip n := by
  cases g with
  | nil => simp at h2; omega
  | cons c t =>
    rw [List.cons_append] at h
    unfold evL at h ⊢
    dsimp only at h ⊢
    split at h
    · rename_i hb; rw [if_pos hb]; exact h
    · rename_i hb
      rw [if_neg hb]
      split at h
      · rename_i m hm
        simp only [Ev.skip.injEq] at h
        subst h
        obtain ⟨_, g2⟩ := remL_le hm
        have hg2 : 2 ≤ (c :: t).length := by omega
        have hm' : remL (c :: t) = .to m := by
          rw [← List.cons_append] at hm
          unfold remL at hm ⊢
          rw [hp_app2 hg2, hp_app2 hg2] at hm
          split at hm
          · rename_i hq
            rw [if_pos hq]
            simp only [Rem.to.injEq] at hm
            rw [runL_trunc (by rw [hm]; exact h2), hm]
          · rename_i hq
            rw [if_neg hq]
            split at hm
            · rename_i hq2
              rw [if_pos hq2]
              split at hm
              · rename_i hq3
                simp only [Rem.to.injEq] at hm
                rw [List.drop_append_of_le_length hg2] at hm hq3
                have hi := index_trunc (g := (c :: t).drop 2) (u := u) (sub := [42, 47]) (i := (Lib.index ((c :: t).drop 2 ++ u) [42, 47]).toNat) (by simp) (by omega) (by simp only [List.length_drop, List.length_cons, List.length_nil] at *; omega)
                rw [hi, if_pos (by omega)]
                congr 1
              · cases hm
            · cases hm
        rw [hm']
      · cases h
      · unfold tokE at h
        dsimp only at h
        repeat' split at h
        all_goals cases h
theorem skips_trunc : ∀ {g u : Bs}, Skips g u → Skips g [] := by
  intro g u h
  induction h with
  | nil u => exact .nil _
  | cons g u n he h1 h2 r ih => exact .cons _ _ n (by rw [List.append_nil]; exact ev_trunc he h1 h2) h1 h2 ih
theorem skips_alone {g u : Bs} (h : Skips g u) : lexL 0 g = .ok [⟨0, [], g.length⟩] := by
  have := skips_lex (skips_trunc h) 0
  rw [List.append_nil, Nat.zero_add, lexL_nil] at this
  exact this
/-! ### a token before a blank -/
theorem runL_cut {p : UInt8 → Bool} {u v : Bs} {b : UInt8} (hb : p b = false) : runL p (u.take (runL p u) ++ b :: v) = runL p u := by
  induction u with
  | nil => simp [runL, hb]
  | cons c t ih =>
    cases hc : p c with
    | false => simp [runL, hc, hb]
    | true =>
      have e : runL p (c :: t) = runL p t + 1 := by simp [runL, hc]
      rw [e, List.take_succ_cons, List.cons_append]
      have e2 : runL p (c :: (t.take (runL p t) ++ b :: v)) = runL p (t.take (runL p t) ++ b :: v) + 1 := by simp [runL, hc]
      rw [e2, ih]
theorem blank_facts {b : UInt8} (h : blankC b = true) : wordC b = false ∧ digitC b = false ∧ (letterC b || b == 95) = false ∧ b ≠ 47 ∧ b ≠ 42 ∧ b ≠ 61 ∧ b ≠ 38 ∧ b ≠ 124 := by
  unfold blankC at h
  simp only [Bool.or_eq_true, beq_iff_eq] at h
  rcases h with ((h | h) | h) | h <;> subst h <;> decide
theorem remL_blank2 {c b : UInt8} {v : Bs} (h : blankC b = true) : remL (c :: b :: v) = .no := by
  obtain ⟨_, _, _, h1, h2, _⟩ := blank_facts h
  unfold remL
  have e1 : Lib.hasPrefix (c :: b :: v) [47, 47] = false := by
    simp only [Lib.hasPrefix, List.isPrefixOf, Bool.and_true]
    rw [Bool.and_eq_false_iff]; right; exact beq_eq_false_iff_ne.2 fun e => h1 e.symm
  have e2 : Lib.hasPrefix (c :: b :: v) [47, 42] = false := by
    simp only [Lib.hasPrefix, List.isPrefixOf, Bool.and_true]
    rw [Bool.and_eq_false_iff]; right; exact beq_eq_false_iff_ne.2 fun e => h2 e.symm
  rw [e1, e2]; rfl
theorem remL_head {c : UInt8} {t : Bs} (h : c ≠ 47) : remL (c :: t) = .no := by
  unfold remL
  have : ∀ x : UInt8, Lib.hasPrefix (c :: t) [47, x] = false := fun x => by
    simp [Lib.hasPrefix, List.isPrefixOf]; exact fun e => absurd e.symm h
  rw [this, this]; rfl
theorem tok_ctx {u v : Bs} {k n : Nat} {b : UInt8} (h : evL u = .tok k n) (hb : blankC b = true) : evL (u.take n ++ b :: v) = .tok k n := by
  obtain ⟨b1, b2, b3, b4, b5, b6, b7, b8⟩ := blank_facts hb
  cases u with
  | nil => cases h
  | cons c t =>
    obtain ⟨h1, h2, h3⟩ := evL_tok h
    obtain ⟨n1, n2⟩ := tokE_le h3
    -- its head
    obtain ⟨n', rfl⟩ : ∃ n', n = n' + 1 := ⟨n - 1, by omega⟩
    rw [List.take_succ_cons, List.cons_append]
    have fin : remL (c :: (t.take n' ++ b :: v)) = .no → tokE (c :: (t.take n' ++ b :: v)) = .tok k (n' + 1) → evL (c :: (t.take n' ++ b :: v)) = .tok k (n' + 1) := by
      intro g1 g2
      unfold evL
      dsimp only
      rw [h1, g1]
      exact g2
    unfold tokE at h3
    dsimp only at h3
    split at h3
    · rename_i hc
      have h47 : c ≠ 47 := by rintro rfl; revert hc; decide
      split at h3
      · cases h3
      · rename_i h16
        simp only [Ev.tok.injEq] at h3
        obtain ⟨rfl, hn⟩ := h3
        refine fin (remL_head h47) ?_
        have := runL_cut (u := c :: t) (v := v) b1
        rw [hn, List.take_succ_cons, List.cons_append] at this
        unfold tokE
        dsimp only
        rw [if_pos hc, this, if_neg (by omega)]
    · rename_i hc
      split at h3
      · rename_i hd
        have h47 : c ≠ 47 := by rintro rfl; revert hd; decide
        split at h3
        · cases h3
        · rename_i hbig
          split at h3
          · cases h3
          · simp only [Ev.tok.injEq] at h3
            obtain ⟨rfl, hn⟩ := h3
            refine fin (remL_head h47) ?_
            have hrun := runL_cut (u := c :: t) (v := v) b2
            rw [hn, List.take_succ_cons, List.cons_append] at hrun
            have htk : (c :: (t.take n' ++ b :: v)).take (n' + 1) = (c :: t).take (n' + 1) := by
              rw [List.take_succ_cons, List.take_succ_cons]
              congr 1
              have hl : (t.take n').length = n' := by rw [List.length_take]; simp only [List.length_cons] at n2; omega
              exact List.take_left' hl
            have hdr : (c :: (t.take n' ++ b :: v)).drop (n' + 1) = b :: v := by
              rw [List.drop_succ_cons]
              have hl : (t.take n').length = n' := by rw [List.length_take]; simp only [List.length_cons] at n2; omega
              exact List.drop_left' hl
            unfold tokE
            dsimp only
            rw [if_neg hc, if_pos hd, hrun, htk, hdr]
            rw [hn] at hbig
            rw [if_neg hbig]
            have : badNext (b :: v) = false := b3
            rw [this]; rfl
      · rename_i hd
        split at h3
        · cases h3
        · rename_i h0
          simp only [Ev.tok.injEq] at h3
          obtain ⟨rfl, hn⟩ := h3
          have main : remL (c :: (t.take n' ++ b :: v)) = .no ∧ signL (c :: (t.take n' ++ b :: v)) = n' + 1 := by
            by_cases h2s : twos.any (fun x => Lib.hasPrefix (c :: t) x) = true
            · have hs2 : signL (c :: t) = 2 := by unfold signL; rw [if_pos h2s]
              have : n' = 1 := by omega
              subst this
              cases t with
              | nil => simp at n2
              | cons d t =>
                have htk : (d :: t).take 1 = [d] := rfl
                rw [htk]
                have hany : twos.any (fun x => Lib.hasPrefix (c :: ([d] ++ b :: v)) x) = true := by
                  obtain ⟨x, hx, hp⟩ := List.any_eq_true.1 h2s
                  refine List.any_eq_true.2 ⟨x, hx, ?_⟩
                  simp only [twos, List.mem_cons, List.not_mem_nil, or_false] at hx
                  rcases hx with rfl | rfl | rfl | rfl | rfl | rfl <;> (simp only [Lib.hasPrefix, List.isPrefixOf, List.cons_append, List.nil_append] at hp ⊢; exact hp)
                refine ⟨?_, by unfold signL; rw [if_pos hany]⟩
                obtain ⟨x, hx, hp⟩ := List.any_eq_true.1 h2s
                have h47 : c ≠ 47 := by
                  simp only [twos, List.mem_cons, List.not_mem_nil, or_false] at hx
                  rintro rfl
                  rcases hx with rfl | rfl | rfl | rfl | rfl | rfl <;> simp [Lib.hasPrefix, List.isPrefixOf] at hp
                exact remL_head h47
            · have hs1 : signL (c :: t) = if c ∈ ones then 1 else 0 := by unfold signL; rw [if_neg h2s]
              have hcm : c ∈ ones := by
                by_cases e : c ∈ ones
                · exact e
                · rw [if_neg e] at hs1; omega
              rw [if_pos hcm] at hs1
              have : n' = 0 := by omega
              subst this
              rw [List.take_zero, List.nil_append]
              refine ⟨remL_blank2 hb, ?_⟩
              unfold signL
              rw [if_neg]
              · dsimp only; rw [if_pos hcm]
              · intro hany
                obtain ⟨x, hx, hp⟩ := List.any_eq_true.1 hany
                simp only [twos, List.mem_cons, List.not_mem_nil, or_false] at hx
                rcases hx with rfl | rfl | rfl | rfl | rfl | rfl <;> (simp only [Lib.hasPrefix, List.isPrefixOf, Bool.and_eq_true, beq_iff_eq] at hp; first | exact b6 hp.2.1.symm | exact b7 hp.2.1.symm | exact b8 hp.2.1.symm)
          refine fin main.1 ?_
          unfold tokE
          dsimp only
          rw [if_neg hc, if_neg hd, main.2, if_neg (by omega)]
/-! ### put together again -/
def gapB (k : Nat) : Bs := match k with
  | 0 => [32]
  | 1 => [10]
  | 2 => [32, 47, 42, 32, 120, 32, 42, 47]
  | 3 => [9, 47, 47, 32, 121, 10]
  | _ => [13, 32]
theorem gap_head (k : Nat) : ∃ b v, gapB k = b :: v ∧ blankC b = true := by
  unfold gapB
  split <;> exact ⟨_, _, rfl, by decide⟩
theorem ev_blank {b : UInt8} {t : Bs} (h : blankC b = true) : evL (b :: t) = .skip 1 := by unfold evL; dsimp only; rw [h]; rfl
theorem gap_skips (k : Nat) (u : Bs) : Skips (gapB k) u := by
  unfold gapB
  have one : ∀ (b : UInt8) (g : Bs), blankC b = true → Skips g u → Skips (b :: g) u := fun b g hb h => .cons _ _ 1 (ev_blank hb) (by omega) (by simp) h
  split
  · exact one _ _ (by decide) (.nil _)
  · exact one _ _ (by decide) (.nil _)
  · refine one _ _ (by decide) (.cons _ _ 7 ?_ (by omega) (by simp) (.nil _))
    simp only [List.cons_append, List.nil_append]
    rfl
  · refine one _ _ (by decide) (.cons _ _ 4 ?_ (by omega) (by simp) (one _ _ (by decide) (.nil _)))
    simp only [List.cons_append, List.nil_append]
    rfl
  · exact one _ _ (by decide) (one _ _ (by decide) (.nil _))
/-- The tokens' texts, each behind a gap. -/
def asm (γ : Nat → Nat) : Nat → List Tk → Bs
  | _, [] => []
  | i, t :: ts => gapB (γ i) ++ t.text ++ asm γ (i + 1) ts
/-- Such come out. -/
inductive Chain : List Tk → Prop where
  | fin (p : Nat) : Chain [⟨0, [], p⟩]
  | tok (u : Bs) (k n p : Nat) (ts : List Tk) (h : evL u = .tok k n) (h1 : 1 ≤ n) (h2 : n ≤ u.length) (r : Chain ts) : Chain (⟨k, u.take n, p⟩ :: ts)
theorem chain_of : ∀ (m : Nat) (r : Bs) (p : Nat) (ts : List Tk), r.length ≤ m → lexL p r = .ok ts → Chain ts := by
  intro m
  induction m with
  | zero =>
    intro r p ts hm h
    have : r = [] := List.eq_nil_of_length_eq_zero (by omega)
    subst this
    rw [lexL_nil] at h
    cases h
    exact .fin _
  | succ m ih =>
    intro r p ts hm h
    obtain ⟨g, u, rfl, hs, hc⟩ := lex_unroll _ r p ts (Nat.le_refl _) h
    rcases hc with ⟨_, rfl⟩ | ⟨k, n, ts', he, h1, h2, _, rfl, hl⟩
    · exact .fin _
    · exact .tok u k n _ ts' he h1 h2 (ih _ _ _ (by rw [List.length_append] at hm; rw [List.length_drop]; omega) hl)
theorem chain_ne {ts : List Tk} (h : Chain ts) : ts ≠ [] := by cases h <;> simp
/-- The same kinds and texts. -/
def sameT (a b : List Tk) : Prop := a.length = b.length ∧ ∀ i (h : i < a.length) (h' : i < b.length), a[i].kind = b[i].kind ∧ a[i].text = b[i].text
theorem asm_lex (γ : Nat → Nat) : ∀ {ts : List Tk}, Chain ts → ∀ (i p : Nat), ∃ ts', lexL p (asm γ i ts) = .ok ts' ∧ sameT ts' ts := by
  intro ts h
  induction h with
  | fin q =>
    intro i p
    refine ⟨[⟨0, [], p + (gapB (γ i)).length⟩], ?_, rfl, fun j h1 h2 => ?_⟩
    · unfold asm
      rw [List.append_nil, show asm γ (i + 1) [] = [] from rfl, skips_lex (gap_skips _ _), lexL_nil]
    · have : j = 0 := by simpa using h1
      subst this; exact ⟨rfl, rfl⟩
  | tok u k n q ts he h1 h2 r ih =>
    intro i p
    obtain ⟨ts', hl, hlen, hs⟩ := ih (i + 1) (p + (gapB (γ i)).length + n)
    have hne := chain_ne r
    obtain ⟨b, v, hbv, hb⟩ : ∃ b v, asm γ (i + 1) ts = b :: v ∧ blankC b = true := by
      cases ts with
      | nil => exact absurd rfl hne
      | cons t ts =>
        obtain ⟨b, v, e, hb⟩ := gap_head (γ (i + 1))
        exact ⟨b, v ++ t.text ++ asm γ (i + 1 + 1) ts, by show gapB (γ (i + 1)) ++ t.text ++ asm γ (i + 1 + 1) ts = _; rw [e]; rfl, hb⟩
    have hev := tok_ctx (v := v) he hb
    have htl : (u.take n).length = n := by rw [List.length_take]; omega
    refine ⟨⟨k, u.take n, p + (gapB (γ i)).length⟩ :: ts', ?_, by simp [hlen], fun j g1 g2 => ?_⟩
    · unfold asm
      rw [List.append_assoc, skips_lex (gap_skips _ _)]
      dsimp only
      rw [hbv]
      cases hu : u.take n with
      | nil => rw [hu] at htl; simp at htl; omega
      | cons c t =>
        rw [hu] at hev htl
        rw [List.cons_append] at hev ⊢
        rw [lexL_cons, hev]
        dsimp only
        have e1 : (t ++ b :: v).drop (n - 1) = b :: v := List.drop_left' (by simp only [List.length_cons] at htl; omega)
        have e2 : (c :: (t ++ b :: v)).take n = c :: t := by rw [← List.cons_append]; exact List.take_left' htl
        rw [e1, e2, ← hbv, hl]
        rfl
    · cases j with
      | zero => exact ⟨rfl, rfl⟩
      | succ j =>
        simp only [List.length_cons] at g1 g2
        simpa using hs j (by omega) (by omega)
end Go.Proofs.YtlkmmplgfjicjaaDoor.Hc.Lex
namespace Go.Proofs.YtlkmmplgfjicjaaDoor.Hc.Lex
/-- What is known of a token that came out. -/
theorem step_facts {L : Bs} {p : Nat} {t : Tk} {rest : List Tk} (hp : p ≤ L.length) (h : lexL p (L.drop p) = .ok (t :: rest)) : ∃ g : Bs, lexL 0 g = .ok [⟨0, [], g.length⟩] ∧ t.at' = p + g.length ∧ (L.drop p).take g.length = g ∧
    t.at' + t.text.length ≤ L.length ∧ (L.drop t.at').take t.text.length = t.text ∧ (t.kind = 0 ↔ rest = []) ∧ (t.text = [] ↔ t.kind = 0) ∧ (rest ≠ [] → lexL (t.at' + t.text.length) (L.drop (t.at' + t.text.length)) = .ok rest) := by
  obtain ⟨g, u, hr, hs, hc⟩ := lex_unroll _ _ p _ (Nat.le_refl _) h
  have hg : (L.drop p).take g.length = g := by rw [hr]; exact List.take_left
  have hu : L.drop (p + g.length) = u := by rw [← List.drop_drop, hr]; exact List.drop_left
  have hl := congrArg List.length hr
  simp only [List.length_drop, List.length_append] at hl
  refine ⟨g, skips_alone hs, ?_⟩
  rcases hc with ⟨rfl, h2⟩ | ⟨k, n, ts', he, h1, h2, hk, h3, h4⟩
  · simp only [List.cons.injEq] at h2
    obtain ⟨rfl, rfl⟩ := h2
    simp only [List.length_nil, Nat.add_zero] at hl ⊢
    exact ⟨trivial, hg, by omega, by simp, by simp, by simp, fun h => absurd rfl h⟩
  · simp only [List.cons.injEq] at h3
    obtain ⟨rfl, rfl⟩ := h3
    have htl : (u.take n).length = n := by rw [List.length_take]; omega
    dsimp only
    rw [htl]
    refine ⟨rfl, hg, by omega, by rw [hu], ⟨fun e => by omega, fun e => ?_⟩, ⟨fun e => by rw [e] at htl; simp at htl; omega, fun e => by omega⟩, fun _ => ?_⟩
    · subst e
      have := chain_of _ _ _ _ (Nat.le_refl _) h4
      exact absurd rfl (chain_ne this)
    · rw [← List.drop_drop, hu]; exact h4
end Go.Proofs.YtlkmmplgfjicjaaDoor.Hc.Lex
