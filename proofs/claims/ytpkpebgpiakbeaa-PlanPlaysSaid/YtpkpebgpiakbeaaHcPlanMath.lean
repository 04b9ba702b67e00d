/-
  Plans: who conflicts with whom, the stages, orders; in plain lists.
-/
namespace Go.Proofs.Ytpkpebgpiakbeaa.Hc.Plan
set_option linter.unusedVariables false
set_option linter.unusedSimpArgs false
abbrev PSys := List Int × List Int
def meetF (a b : List Int) : Bool := a.any fun x => b.contains x
theorem meetF_comm (a b : List Int) : meetF a b = meetF b a := by
  rw [Bool.eq_iff_iff]
  simp only [meetF, List.any_eq_true, List.contains_iff_mem]
  exact ⟨fun ⟨x, h1, h2⟩ => ⟨x, h2, h1⟩, fun ⟨x, h1, h2⟩ => ⟨x, h2, h1⟩⟩
def touchF (a b : PSys) : Bool := meetF a.2 b.1 || meetF a.2 b.2
def at' (l : List PSys) (i : Nat) : PSys := l.getD i ([], [])
def confF (l : List PSys) (i k : Nat) : Bool := i != k && (touchF (at' l i) (at' l k) || touchF (at' l k) (at' l i))
theorem confF_comm (l : List PSys) (i k : Nat) : confF l i k = confF l k i := by
  unfold confF
  rw [Bool.or_comm, bne_comm]
/-- As the document asks it. -/
theorem confF_ref (l : List PSys) (i k : Nat) (h : i ≠ k) : confF l i k = (meetF (at' l i).2 (at' l k).1 || meetF (at' l k).2 (at' l i).1 || meetF (at' l i).2 (at' l k).2) := by
  unfold confF touchF
  rw [show (i != k) = true by simpa using h, Bool.true_and, meetF_comm (at' l k).2 (at' l i).2]
  cases meetF (at' l i).2 (at' l k).1 <;> cases meetF (at' l i).2 (at' l k).2 <;> cases meetF (at' l k).2 (at' l i).1 <;> rfl

/-- The stage of system i, over those of the ones ahead of it; the first k looked at. -/
def stepK (l : List PSys) (sts : List Nat) (i : Nat) : Nat → Nat
  | 0 => 0
  | k + 1 => if confF l i k ∧ sts.getD k 0 + 1 > stepK l sts i k then sts.getD k 0 + 1 else stepK l sts i k
def stF (l : List PSys) : Nat → List Nat
  | 0 => []
  | i + 1 => stF l i ++ [stepK l (stF l i) i i]
@[simp] theorem stF_len (l : List PSys) : ∀ n, (stF l n).length = n
  | 0 => rfl
  | n + 1 => by simp [stF, stF_len l n]
theorem stF_take (l : List PSys) {i n : Nat} (h : i ≤ n) : (stF l n).take i = stF l i := by
  induction n with
  | zero => have : i = 0 := by omega
            subst this; rfl
  | succ n ih =>
    rcases Nat.lt_or_ge n i with h1 | h1
    · have : i = n + 1 := by omega
      subst this
      rw [List.take_of_length_le (by simp)]
    · rw [stF, List.take_append_of_le_length (by simp; omega)]
      exact ih h1
theorem stF_get (l : List PSys) {i n : Nat} (h : i < n) : (stF l n).getD i 0 = stepK l (stF l i) i i := by
  have h1 : (stF l n).getD i 0 = (stF l (i + 1)).getD i 0 := by
    rw [← stF_take l (show i + 1 ≤ n by omega)]
    simp only [List.getD_eq_getElem?_getD, List.getElem?_take]
    rw [if_pos (by omega)]
  rw [h1, stF, List.getD_eq_getElem?_getD, List.getElem?_append_right (by simp)]
  simp
theorem stepK_cases (l : List PSys) (sts : List Nat) (i : Nat) : ∀ k, stepK l sts i k = 0 ∨ ∃ j, j < k ∧ confF l i j = true ∧ stepK l sts i k = sts.getD j 0 + 1
  | 0 => .inl rfl
  | k + 1 => by
    unfold stepK
    split
    · rename_i h; exact .inr ⟨k, by omega, h.1, rfl⟩
    · rcases stepK_cases l sts i k with h | ⟨j, h1, h2, h3⟩
      · exact .inl h
      · exact .inr ⟨j, by omega, h2, h3⟩
theorem stepK_ge (l : List PSys) (sts : List Nat) (i : Nat) : ∀ k j, j < k → confF l i j = true → sts.getD j 0 + 1 ≤ stepK l sts i k
  | k + 1, j, hj, hc => by
    unfold stepK
    rcases Nat.lt_or_ge j k with h | h
    · have := stepK_ge l sts i k j h hc
      split <;> omega
    · have : j = k := by omega
      subst this
      split
      · exact Nat.le_refl _
      · rename_i h'
        have := not_and.1 h' hc
        omega
theorem stepK_le (l : List PSys) (sts : List Nat) (i k : Nat) : stepK l sts i k ≤ stepK l sts i (k + 1) := by
  rw [stepK]; split <;> omega
/-- The stage of each, at the end. -/
def stg (l : List PSys) (i : Nat) : Nat := (stF l l.length).getD i 0
theorem stg_of (l : List PSys) {i n : Nat} (h : i < n) (hn : n ≤ l.length) : (stF l n).getD i 0 = stg l i := by
  unfold stg; rw [stF_get l h, stF_get l (by omega)]
theorem stg_eq (l : List PSys) {i : Nat} (h : i < l.length) : stg l i = stepK l (stF l i) i i := stF_get l h
theorem stg_conf (l : List PSys) {i k : Nat} (h : i < l.length) (hk : k < i) (hc : confF l i k = true) : stg l k < stg l i := by
  rw [stg_eq l h, ← stg_of l hk (by omega)]
  exact stepK_ge l _ i i k hk hc
theorem stg_why (l : List PSys) {i : Nat} (h : i < l.length) : stg l i = 0 ∨ ∃ k, k < i ∧ confF l i k = true ∧ stg l i = stg l k + 1 := by
  rw [stg_eq l h]
  rcases stepK_cases l (stF l i) i i with h' | ⟨j, h1, h2, h3⟩
  · exact .inl h'
  · exact .inr ⟨j, h1, h2, by rw [h3, stg_of l h1 (by omega)]⟩
theorem stg_bd (l : List PSys) {i : Nat} (h : i < l.length) : stg l i ≤ i := by
  induction i using Nat.strongRecOn with
  | _ i ih =>
    rcases stg_why l h with h0 | ⟨k, hk, _, e⟩
    · omega
    · have := ih k hk (by omega); omega
/-- How many stages the first n have. -/
def cnt (l : List PSys) : Nat → Nat
  | 0 => 0
  | n + 1 => max (cnt l n) (stg l n + 1)
theorem cnt_lt (l : List PSys) : ∀ {n i : Nat}, i < n → stg l i < cnt l n
  | n + 1, i, h => by
    unfold cnt
    rcases Nat.lt_or_ge i n with h1 | h1
    · have := cnt_lt l h1; omega
    · have : i = n := by omega
      subst this; omega
theorem cnt_ex (l : List PSys) : ∀ {n : Nat}, n ≤ l.length → ∀ {s : Nat}, s < cnt l n → ∃ i, i < n ∧ stg l i = s
  | 0, _, s, h => by simp [cnt] at h
  | n + 1, hn, s, h => by
    unfold cnt at h
    rcases Nat.lt_or_ge s (cnt l n) with h1 | h1
    · obtain ⟨i, hi, e⟩ := cnt_ex l (by omega) h1
      exact ⟨i, by omega, e⟩
    · have hs : s < stg l n + 1 := by omega
      rcases stg_why l (i := n) (by omega) with h0 | ⟨k, hk, _, e⟩
      · exact ⟨n, by omega, by omega⟩
      · have := cnt_lt l hk
        exact ⟨n, by omega, by omega⟩
theorem cnt_step (l : List PSys) {n : Nat} (hn : n < l.length) : stg l n ≤ cnt l n := by
  rcases stg_why l hn with h | ⟨k, hk, _, e⟩
  · omega
  · have := cnt_lt l hk; omega
theorem cnt_bd (l : List PSys) : ∀ {n : Nat}, n ≤ l.length → cnt l n ≤ n
  | 0, _ => Nat.le_refl _
  | n + 1, h => by
    have h1 := cnt_bd l (n := n) (by omega)
    have h2 := stg_bd l (i := n) (by omega)
    unfold cnt; omega
/-- The systems of stage s among the first n, in order. -/
def ofS (l : List PSys) (n s : Nat) : List Int := ((List.range n).filter fun i => stg l i == s).map Int.ofNat
def stagesF (l : List PSys) : List (List Int) := (List.range (cnt l l.length)).map (ofS l l.length)
theorem ofS_succ (l : List PSys) (n s : Nat) : ofS l (n + 1) s = ofS l n s ++ (if stg l n = s then [(n : Int)] else []) := by
  unfold ofS
  rw [List.range_succ, List.filter_append, List.map_append]
  congr 1
  by_cases h : stg l n = s
  · simp [h]
  · simp [h]
theorem ofS_ne (l : List PSys) {n s : Nat} (hn : n ≤ l.length) (h : s < cnt l n) : ofS l n s ≠ [] := by
  obtain ⟨i, hi, e⟩ := cnt_ex l hn h
  intro h0
  have : (i : Int) ∈ ofS l n s := by
    unfold ofS
    exact List.mem_map.2 ⟨i, List.mem_filter.2 ⟨List.mem_range.2 hi, by simp [e]⟩, rfl⟩
  rw [h0] at this; cases this
theorem ofS_nil (l : List PSys) {n s : Nat} (h : cnt l n ≤ s) : ofS l n s = [] := by
  unfold ofS
  rw [List.map_eq_nil_iff, List.filter_eq_nil_iff]
  intro i hi
  have := cnt_lt l (List.mem_range.1 hi)
  simp; omega
/-- The order that picks say: of one stage. -/
def pickL (picks : List Int) : Nat → List Int → List Int → Option (List Int)
  | 0, out, left => if left = [] then some out else none
  | f + 1, out, left =>
    if left = [] then some out
    else
      let k := picks.getD out.length 0
      if k < 0 ∨ k ≥ (left.length : Int) then none
      else pickL picks f (out ++ [left.getD k.toNat 0]) (left.eraseIdx k.toNat)
def orderL (picks : List Int) : List (List Int) → List Int → Option (List Int)
  | [], out => some out
  | s :: ss, out => match pickL picks s.length out s with
    | some out' => orderL picks ss out'
    | none => none
theorem pickL_succ {picks : List Int} {f : Nat} {out left : List Int} (h : left ≠ []) : pickL picks (f + 1) out left =
    if picks.getD out.length 0 < 0 ∨ picks.getD out.length 0 ≥ (left.length : Int) then none else pickL picks f (out ++ [left.getD (picks.getD out.length 0).toNat 0]) (left.eraseIdx (picks.getD out.length 0).toNat) := by
  rw [pickL, if_neg h]
theorem pickL_nil {picks : List Int} {f : Nat} {out : List Int} : pickL picks f out [] = some out := by
  cases f <;> simp [pickL]
theorem sum_delta (a : Nat) : ∀ m, a < m → ((List.range m).map fun s => if a = s then 1 else 0).sum = 1
  | m + 1, h => by
    rw [List.range_succ, List.map_append, List.sum_append]
    rcases Nat.lt_or_ge a m with h1 | h1
    · rw [sum_delta a m h1]; simp; omega
    · have : a = m := by omega
      subst this
      have : ((List.range a).map fun s => if a = s then 1 else 0) = List.replicate a 0 := by
        rw [List.eq_replicate_iff]
        refine ⟨by simp, fun b hb => ?_⟩
        obtain ⟨s, hs, rfl⟩ := List.mem_map.1 hb
        rw [if_neg (by have := List.mem_range.1 hs; omega)]
      rw [this]; simp
theorem sum_add (f g : Nat → Nat) : ∀ m, ((List.range m).map fun s => f s + g s).sum = ((List.range m).map f).sum + ((List.range m).map g).sum
  | 0 => rfl
  | m + 1 => by
    rw [List.range_succ]
    simp only [List.map_append, List.sum_append, List.map_cons, List.map_nil, List.sum_cons, List.sum_nil]
    rw [sum_add f g m]; omega
theorem sum_ofS (l : List PSys) : ∀ {n m : Nat}, cnt l n ≤ m → ((List.range m).map fun s => (ofS l n s).length).sum = n
  | 0, m, _ => by
    have : ((List.range m).map fun s => (ofS l 0 s).length) = List.replicate m 0 := by
      rw [List.eq_replicate_iff]
      refine ⟨by simp, fun b hb => ?_⟩
      obtain ⟨s, hs, rfl⟩ := List.mem_map.1 hb
      rfl
    rw [this]; simp
  | n + 1, m, h => by
    unfold cnt at h
    have e : (fun s => (ofS l (n + 1) s).length) = fun s => (ofS l n s).length + (if stg l n = s then 1 else 0) := by
      funext s
      rw [ofS_succ, List.length_append]
      split <;> rfl
    rw [e, sum_add, sum_ofS l (by omega), sum_delta _ _ (by omega)]
theorem sum_stages (l : List PSys) : ((stagesF l).map List.length).sum = l.length := by
  rw [stagesF, List.map_map]
  exact sum_ofS l (Nat.le_refl _)
theorem sum_take_le (xs : List Nat) : ∀ d, (xs.take d).sum ≤ xs.sum := by
  induction xs with
  | nil => intro d; simp
  | cons x xs ih =>
    intro d
    cases d with
    | zero => simp
    | succ d => simp; exact ih d
/-- How many systems the first d stages have. -/
def upto (l : List PSys) (d : Nat) : Nat := (((stagesF l).map List.length).take d).sum
theorem upto_le (l : List PSys) (d : Nat) : upto l d ≤ l.length := by
  rw [← sum_stages l]; exact sum_take_le _ d
theorem upto_succ (l : List PSys) {d : Nat} (h : d < (stagesF l).length) : upto l (d + 1) = upto l d + ((stagesF l).getD d []).length := by
  unfold upto
  rw [List.take_add_one, List.sum_append, List.getElem?_map, List.getElem?_eq_getElem h, List.getD_eq_getElem?_getD, List.getElem?_eq_getElem h]
  simp
/-- 'Order': numbers and no error, or an error. -/
def orderF (l : List PSys) (picks : List Int) : Option (List Int) :=
  let p := if picks = [] then List.replicate l.length 0 else picks
  if p.length = l.length then orderL p (stagesF l) [] else none
/-- 'Legal'. -/
def pairOk (l : List PSys) (a b : Int) : Bool := a != b && !(confF l a.toNat b.toNat && decide (a > b))
def okI (l : List PSys) (o : List Int) (i : Nat) : Bool := decide (0 ≤ o.getD i 0 ∧ o.getD i 0 < (l.length : Int)) && (List.range i).all fun k => pairOk l (o.getD k 0) (o.getD i 0)
def legalF (l : List PSys) (o : List Int) : Bool := decide (o.length = l.length) && (List.range o.length).all (okI l o)
theorem legalF_no {l : List PSys} {o : List Int} {i : Nat} (h : i < o.length) (hi : okI l o i = false) : legalF l o = false := by
  unfold legalF
  rw [Bool.and_eq_false_iff]
  right
  rw [List.all_eq_false]
  exact ⟨i, List.mem_range.2 h, by rw [hi]; simp⟩
theorem legalF_yes {l : List PSys} {o : List Int} (hl : o.length = l.length) (h : ∀ i, i < o.length → okI l o i = true) : legalF l o = true := by
  unfold legalF
  rw [Bool.and_eq_true]
  exact ⟨by simpa using hl, List.all_eq_true.2 fun i hi => h i (List.mem_range.1 hi)⟩
theorem okI_iff {l : List PSys} {o : List Int} {i : Nat} : okI l o i = true ↔ (0 ≤ o.getD i 0 ∧ o.getD i 0 < (l.length : Int)) ∧ ∀ k, k < i → pairOk l (o.getD k 0) (o.getD i 0) = true := by
  unfold okI
  rw [Bool.and_eq_true, decide_eq_true_eq, List.all_eq_true]
  exact ⟨fun ⟨h1, h2⟩ => ⟨h1, fun k hk => h2 k (List.mem_range.2 hk)⟩, fun ⟨h1, h2⟩ => ⟨h1, fun k hk => h2 k (List.mem_range.1 hk)⟩⟩
theorem pairOk_iff {l : List PSys} {a b : Int} : pairOk l a b = true ↔ a ≠ b ∧ ¬ (confF l a.toNat b.toNat = true ∧ a > b) := by
  unfold pairOk
  simp only [Bool.and_eq_true, bne_iff_ne, ne_eq, Bool.not_eq_true', Bool.and_eq_false_iff, decide_eq_false_iff_not, not_and]
  refine and_congr_right fun _ => ?_
  cases confF l a.toNat b.toNat <;> simp
end Go.Proofs.Ytpkpebgpiakbeaa.Hc.Plan
