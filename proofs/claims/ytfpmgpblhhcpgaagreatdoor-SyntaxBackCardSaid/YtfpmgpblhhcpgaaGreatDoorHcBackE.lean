/-
  What a tree that was parsed is like: statements and what holds them.
-/
import Derived.Test.YtfpmgpblhhcpgaaGreatDoorHcWf
import Derived.Test.YtfpmgpblhhcpgaaGreatDoorWr
import Derived.Lib.ItoaLen
namespace Go.Proofs.YtfpmgpblhhcpgaaGreatDoor.Hc.Syn
set_option linter.unusedVariables false
set_option linter.unusedSimpArgs false
set_option maxRecDepth 100000
section
open Go Hc Hc.Lex
variable {F : Nat}
theorem named_name {s : PS} (h : namedB s = true) : isNameB s.hd.text = true := by
  unfold namedB at h; simp only [Bool.and_eq_true] at h; exact h.2
structure PB (m : Nat) (s : PS) (n : Nd) (s' : PS) : Prop where
  ok : okN n
  i : nmN n
  dp : s.deep + dpN n ≤ 20
  f : Sf s s' (cnt n) m
  nd : s.deep + ndN n ≤ 20
structure PL (s : PS) (l : List Nd) (s' : PS) : Prop where
  ok : okL l
  i : nmL l
  dp : s.deep + dpL l ≤ 20
  f : Sf s s' (cntL l) (stL l)
  nd : s.deep + ndL l ≤ 20
theorem PL.nil {s : PS} (hd : s.deep ≤ 20) : PL s [] s := ⟨trivial, trivial, (by simp [dpL]; exact hd), Sf.rfl', (by simp [ndL]; exact hd)⟩
theorem PL.snoc {s s1 s2 s3 : PS} {l : List Nd} {n : Nd} (h : PL s l s1) (hs : Sf s1 s2 0 0) (h' : PB (stN n) s2 n s3) : PL s (l ++ [n]) s3 := by
  have hf : Sf s s3 (cntL l + 0 + cnt n) (stL l + 0 + stN n) := (h.f.tr hs).tr h'.f
  have hd : s2.deep = s.deep := hs.d.trans h.f.d
  refine ⟨okL_app h.ok ⟨h'.ok, trivial⟩, nmL_app h.i ⟨h'.i, trivial⟩, ?_, ?_, ?_⟩
  · rw [dpL_app]; simp only [dpL]
    have := h.dp; have := h'.dp
    omega
  · rw [cntL_app, stL_app]; simpa [cntL, stL] using hf
  · rw [ndL_app]; simp only [ndL]
    have := h.nd; have := h'.nd
    omega
theorem PE.nd0 {lv : Nat} {s s' : PS} {n : Nd} (h : PE lv s n s') : s.deep + ndN n ≤ 20 := by have := h.nd; omega
theorem okName31 {t : Tk} (h : isNameB t.text = true) : okN (texted 31 t []) := ⟨Loc.of' (k := 1) (sl := []) (more := false) (m := 0) rfl h (by simp) (.inl (by simp)) trivial, trivial⟩
theorem wPartL : ∀ (f : Nat) (s0 : PS) (l : List Nd) (s : PS), s0.deep ≤ 20 → AllT s0 → PL s0 l s → (∀ n ∈ l, n.op = 24) → stL l = 0 → Gd (partL F f l s) fun l' s' => PL s0 l' s' ∧ (∀ n ∈ l', n.op = 24) ∧ stL l' = 0
  | 0, _, _, _, _, _, _, _, _ => by rw [partL]; exact Gd.no
  | f + 1, s0, l, s, hd, ha, hl, ho, hst => by
    rw [partL]
    refine Gd.ite (fun _ => Gd.ret ⟨hl, ho, hst⟩) fun _ => ?_
    refine (gd_name _).bind fun t s1 ⟨h1, et, e1⟩ => (gd_must _ _).bind fun _ s2 ⟨h2, _, e2⟩ => ?_
    subst e1 e2
    have g1 := sf_take (named_k h1)
    have g2 := sf_take (next_k h2)
    have g12 := g1.tr g2
    have a0 := hl.f.a ha
    have d0 := hl.f.d
    refine ((wE F).ex 0 s.take.take (by decide) (by show s.deep ≤ 20; omega) (g12.a a0)).bind fun n s3 h3 => ?_
    refine Gd.bind (P := fun _ s4 => Sf s3 s4 0 0) ?_ fun _ s4 h4 => ?_
    · refine Gd.ite (fun _ => Gd.ret Sf.rfl') fun _ => (gd_must _ _).bind fun _ s4 ⟨hm, _, e4⟩ => Gd.ite (fun _ => Gd.ret ?_) fun _ => Gd.fail
      subst e4
      exact (sf_take (next_k hm)).le (by omega)
    · have hn : PB 0 s (texted 24 t [n]) s4 := by
        have hf := (g12.tr h3.f).tr h4
        refine ⟨⟨Loc.of' (k := 1) (sl := [3]) (more := false) (m := 1) rfl (by rw [et]; exact named_name h1) (by simp) (.inl (by simp)) ⟨sortE h3.e, trivial⟩, h3.ok, trivial⟩, ⟨nm0, h3.i, trivial⟩, ?_, ?_, ?_⟩
        · simp [dpN, dpL, h3.dp]; omega
        · refine Sf.le (k := 1 + 1 + cnt n + 0) ?_ (by simp only [cnt, cntL]; omega)
          simpa using hf
        · rw [ndo _ _ _ _ (by decide) (by decide) (by decide), if_neg (by decide)]
          have := h3.nd0
          have : s.take.take.deep = s.deep := rfl
          simp only [ndL]; omega
      have hs0 : stN (texted 24 t [n]) = 0 := by simp [stN, stL, h3.st]
      refine wPartL f s0 _ s4 hd ha (hl.snoc Sf.rfl' (by rw [hs0]; exact hn)) (fun m hm => ?_) ?_
      · rcases List.mem_append.1 hm with g | g
        · exact ho m g
        · simp only [List.mem_singleton] at g; rw [g]; rfl
      · rw [stL_app, hst]; simp only [stL]; rw [hs0]
theorem wPart (s : PS) (hd : s.deep ≤ 20) (ha : AllT s) : Gd (partP F s) fun n s' => PB 0 s n s' ∧ n.op = 23 ∧ stN n = 0 := by
  unfold partP
  refine (gd_name _).bind fun t s1 ⟨h1, et, e1⟩ => (gd_down _ _).bind fun _ s2 ⟨h2, hne, _, e2⟩ => ?_
  subst e1
  have g1 := sf_take (named_k h1)
  have hdn := down_sf h2
  have d2 : s2.deep = s.deep + 1 := by rw [e2]; rfl
  have a2 : AllT s2 := by rw [e2]; exact hdn.a (g1.a ha)
  have hne : s.deep ≠ 20 := hne
  refine (wPartL F s2 [] s2 (by omega) a2 (PL.nil (by omega)) (fun n h => by cases h) rfl).bind fun l s3 ⟨h3, ho, hst⟩ => (gd_up _ _).bind fun _ s4 ⟨hu, e4⟩ => Gd.ret ?_
  subst e4
  have g4 := sf_take (next_k hu)
  have d3 := h3.f.d
  have hf : Sf s s3.take.up (1 + (1 + cntL l + 1)) 0 := by
    have q : Sf { s.take with deep := s.take.deep + 1 } s2 1 0 := by rw [e2]; exact hdn
    have := ((q.tr h3.f).tr g4).deep s.deep
    have e : s3.take.up = { s3.take with deep := s.deep } := by
      have : s3.take.up.deep = s.deep := by show s3.deep - 1 = s.deep; omega
      rw [← this]; rfl
    rw [e]
    have := g1.tr (show Sf s.take { s3.take with deep := s.deep } _ _ from this)
    rw [hst] at this
    simpa using this
  refine ⟨⟨⟨Loc.of' (k := 1) (sl := [5]) (more := true) (m := 0) rfl (by rw [et]; exact named_name h1) (by simp) (.inr rfl) (srt_of fun n hn => by rw [ho n hn]; rfl), h3.ok⟩, ⟨nm0, h3.i⟩, ?_, hf.le (by simp only [cnt]; omega), ?_⟩, rfl, ?_⟩
  · have := h3.dp
    simp only [dpN]; rw [if_neg (by decide)]; omega
  · rw [ndo _ _ _ _ (by decide) (by decide) (by decide), if_pos (.inr (.inr rfl))]
    have := h3.nd; omega
  · simp [stN, hst]
theorem gd_end (n : Nd) (s : PS) : Gd (endP n s) fun m s' => m = n ∧ Sf s s' 1 0 := by
  unfold endP
  refine (gd_must _ _).bind fun _ s1 ⟨h, _, e⟩ => Gd.ret ⟨rfl, ?_⟩
  subst e; exact sf_take (next_k h)
def PSt (s : PS) (n : Nd) (s' : PS) : Prop := (10 ≤ n.op ∧ n.op ≤ 22) ∧ ∃ m, stN n = m + 1 ∧ PB m s n s'
theorem pst {s s' : PS} {op nm a : Int} {tx : Txt} {l : List Nd} (ho : 10 ≤ op ∧ op ≤ 22) (hk : okN (.mk op tx nm l a)) (hi : nmN (.mk op tx nm l a)) (hdp : s.deep + dpL l ≤ 20) (hst : stL l = 0) (hf : Sf s s' (1 + cntL l) 0) (hnd : s.deep + ndL l ≤ 20) : PSt s (.mk op tx nm l a) s' := by
  refine ⟨ho, 0, ?_, hk, hi, ?_, by simpa [cnt] using hf, ?_⟩
  · simp only [stN]; rw [if_pos ho, hst]
  · simp only [dpN]; rw [if_neg (by omega)]; omega
  · rw [ndo _ _ _ _ (by omega) (by omega) (by omega), if_neg (by omega)]; omega
theorem wSpawnL : ∀ (f : Nat) (s0 : PS) (l : List Nd) (s : PS), s0.deep ≤ 20 → AllT s0 → PL s0 l s → (∀ n ∈ l, n.op = 23) → stL l = 0 → Gd (spawnL F f l s) fun l' s' => PL s0 l' s' ∧ (∀ n ∈ l', n.op = 23) ∧ stL l' = 0
  | 0, _, _, _, _, _, _, _, _ => by rw [spawnL]; exact Gd.no
  | f + 1, s0, l, s, hd, ha, hl, ho, hst => by
    rw [spawnL]
    refine Gd.ite (fun hq => ?_) fun _ => Gd.ret ⟨hl, ho, hst⟩
    have g := sf_take (next_k hq)
    have a1 := hl.f.a ha
    refine (wPart s.take (by show s.deep ≤ 20; have := hl.f.d; omega) (g.a a1)).bind fun n s3 ⟨h3, o3, t3⟩ => ?_
    refine wSpawnL f s0 _ s3 hd ha (hl.snoc (g.le (by omega)) (by rw [t3]; exact h3)) (fun m hm => ?_) ?_
    · rcases List.mem_append.1 hm with g | g
      · exact ho m g
      · simp only [List.mem_singleton] at g; rw [g]; exact o3
    · rw [stL_app, hst]; simp only [stL]; rw [t3]
section
variable (s : PS) (hd : s.deep ≤ 20) (ha : AllT s) (h0 : s.hd.kind ≠ 0)
include hd ha h0
theorem wLet : Gd (letP F s) (PSt s) := by
  unfold letP
  have g0 := sf_take h0
  refine (gd_name _).bind fun t s1 ⟨h1, et, e1⟩ => (gd_must _ _).bind fun _ s2 ⟨h2, _, e2⟩ => ?_
  subst e1 e2
  have g := (g0.tr (sf_take (named_k h1))).tr (sf_take (next_k h2))
  refine ((wE F).ex 0 s.take.take.take (by decide) hd (g.a ha)).bind fun n s3 h3 => (gd_end _ _).mono fun m s4 ⟨em, h4⟩ => ?_
  subst em
  have hf := (g.tr h3.f).tr h4
  refine pst (by decide) ⟨Loc.of' (k := 1) (sl := [3]) (more := false) (m := 1) rfl (by rw [et]; exact named_name h1) (by simp) (.inl (by simp)) ⟨sortE h3.e, trivial⟩, h3.ok, trivial⟩ ⟨nm0, h3.i, trivial⟩ ?_ ?_ ?_ ?_
  · simp [dpL, h3.dp]; exact hd
  · simp [stL, h3.st]
  · exact Sf.le (by simpa using hf) (by simp only [cntL]; omega)
  · have := h3.nd0; have : s.take.take.take.deep = s.deep := rfl
    simp only [ndL]; omega
theorem wSet : namedB s = true → Gd (setP F s) (PSt s) := by
  intro hnm
  unfold setP
  have g0 := sf_take h0
  refine Gd.ite (fun hq => ?_) fun _ => ?_
  · have gq := sf_take (next_k hq)
    refine (gd_name _).bind fun t s1 ⟨h1, et, e1⟩ => (gd_must _ _).bind fun _ s2 ⟨h2, _, e2⟩ => ?_
    subst e1 e2
    have g := ((g0.tr gq).tr (sf_take (named_k h1))).tr (sf_take (next_k h2))
    refine ((wE F).ex 0 s.take.take.take.take (by decide) hd (g.a ha)).bind fun n s3 h3 => (gd_end _ _).mono fun m s4 ⟨em, h4⟩ => ?_
    subst em
    have hf := (g.tr h3.f).tr h4
    refine pst (by decide) ⟨Loc.of' (k := 1) (sl := [6, 3]) (more := false) (m := 2) rfl (named_name hnm) (by simp) (.inl (by simp)) ⟨rfl, sortE h3.e, trivial⟩, okName31 (by rw [et]; exact named_name h1), h3.ok, trivial⟩ ⟨nm0, ⟨nm0, trivial⟩, h3.i, trivial⟩ ?_ ?_ ?_ ?_
    · simp [dpL, h3.dp, dpN]; exact hd
    · simp [stL, h3.st, stN]
    · exact Sf.le (by simpa using hf) (by simp only [cntL, cnt]; omega)
    · have := h3.nd0; have : s.take.take.take.take.deep = s.deep := rfl
      have e31 : ndN (texted 31 t []) = 0 := by rw [ndo _ _ _ _ (by decide) (by decide) (by decide), if_neg (by decide)]; rfl
      simp only [ndL, e31]; omega
  · refine (gd_must _ _).bind fun _ s2 ⟨h2, _, e2⟩ => ?_
    subst e2
    have g := g0.tr (sf_take (next_k h2))
    refine ((wE F).ex 0 s.take.take (by decide) hd (g.a ha)).bind fun n s3 h3 => (gd_end _ _).mono fun m s4 ⟨em, h4⟩ => ?_
    subst em
    have hf := (g.tr h3.f).tr h4
    refine pst (by decide) ⟨Loc.of' (k := 1) (sl := [3]) (more := false) (m := 1) rfl (named_name hnm) (by simp) (.inl (by simp)) ⟨sortE h3.e, trivial⟩, h3.ok, trivial⟩ ⟨nm0, h3.i, trivial⟩ ?_ ?_ ?_ ?_
    · simp [dpL, h3.dp]; exact hd
    · simp [stL, h3.st]
    · exact Sf.le (by simpa using hf) (by simp only [cntL]; omega)
    · have := h3.nd0; have : s.take.take.deep = s.deep := rfl
      simp only [ndL]; omega
theorem wEmit : Gd (emitP F s) (PSt s) := by
  unfold emitP
  have g0 := sf_take h0
  refine ((wE F).ex 0 s.take (by decide) hd (g0.a ha)).bind fun x s1 h1 => (gd_must _ _).bind fun _ s2 ⟨h2, _, e2⟩ => ?_
  subst e2
  have g := (g0.tr h1.f).tr (sf_take (next_k h2))
  have d1 : s1.take.deep = s.deep := h1.f.d
  refine ((wE F).ex 0 s1.take (by decide) (by omega) (g.a ha)).bind fun n s3 h3 => (gd_end _ _).mono fun m s4 ⟨em, h4⟩ => ?_
  subst em
  have hf := (g.tr h3.f).tr h4
  refine pst (by decide) ⟨Loc.of' (k := 0) (sl := [3, 3]) (more := false) (m := 2) rfl rfl (by simp) (.inl (by simp)) ⟨sortE h1.e, sortE h3.e, trivial⟩, h1.ok, h3.ok, trivial⟩ ⟨nm0, h1.i, h3.i, trivial⟩ ?_ ?_ ?_ ?_
  · simp [dpL, h3.dp, h1.dp]; exact hd
  · simp [stL, h3.st, h1.st]
  · exact Sf.le (by simpa using hf) (by simp only [cntL]; omega)
  · have := h3.nd0; have := h1.nd0; have : s.take.deep = s.deep := rfl
    simp only [ndL]; omega
theorem wSpawn : Gd (spawnP F s) (PSt s) := by
  unfold spawnP
  have g0 := sf_take h0
  have mk : ∀ {l : List Nd} {s4 : PS} {k : Nat}, okL l → nmL l → (∀ n ∈ l, n.op = 23) → s.deep + dpL l ≤ 20 → stL l = 0 → Sf s s4 k 0 → 1 + cntL l ≤ k → s.deep + ndL l ≤ 20 → PSt s (node 17 s.hd l) s4 := fun hk hi ho hdp hst hf hle hnd =>
    pst (by decide) ⟨Loc.of' (k := 0) (sl := [4]) (more := true) (m := 0) rfl rfl (by simp) (.inr rfl) (srt_of fun n hn => by rw [ho n hn]; rfl), hk⟩ ⟨nm0, hi⟩ hdp hst (hf.le hle) hnd
  refine Gd.ite (fun hq => Gd.ret ?_) fun _ => ?_
  · exact mk trivial trivial (fun n h => by cases h) (by simp [dpL]; exact hd) rfl (g0.tr (sf_take (next_k hq))) (by simp [cntL]) (by simp [ndL]; exact hd)
  · refine (wPart s.take hd (g0.a ha)).bind fun n s1 ⟨h1, o1, t1⟩ => ?_
    have hl : PL s.take [n] s1 := PL.snoc (l := []) (PL.nil hd) Sf.rfl' (by rw [t1]; exact h1)
    refine (wSpawnL F s.take [n] s1 hd (g0.a ha) hl (fun m hm => by simp only [List.mem_singleton] at hm; rw [hm]; exact o1) (by simp [stL, t1])).bind fun l s2 ⟨h2, o2, t2⟩ => (gd_end _ _).mono fun m s4 ⟨em, h4⟩ => ?_
    subst em
    have hf := (g0.tr h2.f).tr h4
    rw [t2] at hf
    exact mk h2.ok h2.i o2 h2.dp t2 hf (by omega) h2.nd
theorem wAdd : Gd (addP F s) (PSt s) := by
  unfold addP
  have g0 := sf_take h0
  refine (wPart s.take hd (g0.a ha)).bind fun n s1 ⟨h1, o1, t1⟩ => (gd_end _ _).mono fun m s4 ⟨em, h4⟩ => ?_
  subst em
  have hf := (g0.tr h1.f).tr h4
  refine pst (by decide) ⟨Loc.of' (k := 0) (sl := [4]) (more := false) (m := 1) rfl rfl (by simp) (.inl (by simp)) ⟨by rw [o1]; rfl, trivial⟩, h1.ok, trivial⟩ ⟨nm0, h1.i, trivial⟩ ?_ ?_ ?_ ?_
  · have := h1.dp; have : s.take.deep = s.deep := rfl
    simp only [dpL]; omega
  · simp [stL, t1]
  · exact Sf.le (by simpa using hf) (by simp only [cntL]; omega)
  · have := h1.nd; have : s.take.deep = s.deep := rfl
    simp only [ndL]; omega
omit ha in
theorem wRemove : Gd (removeP s) (PSt s) := by
  unfold removeP
  have g0 := sf_take h0
  refine (gd_name _).bind fun t s1 ⟨h1, et, e1⟩ => (gd_end _ _).mono fun m s4 ⟨em, h4⟩ => ?_
  subst em e1
  have hf := (g0.tr (sf_take (named_k h1))).tr h4
  refine pst (by decide) ⟨Loc.of' (k := 1) (sl := []) (more := false) (m := 0) rfl (by rw [et]; exact named_name h1) (by simp) (.inl (by simp)) trivial, trivial⟩ ⟨nm0, trivial⟩ ?_ rfl ?_ ?_
  · simp [dpL]; exact hd
  · exact Sf.le (by simpa using hf) (by simp only [cntL]; omega)
  · simp [ndL]; exact hd
omit ha in
theorem wShort : Gd (shortP s) (PSt s) := by
  unfold shortP
  have g0 := sf_take h0
  refine (gd_end _ _).mono fun m s4 ⟨em, h4⟩ => ?_
  subst em
  have hf := g0.tr h4
  have hk : ∀ op, op = 20 ∨ op = 21 → PSt s (node op s.hd []) s4 := fun op ho => by
    refine pst (by omega) ?_ ⟨nm0, trivial⟩ (by simp [dpL]; exact hd) rfl (Sf.le (by simpa using hf) (by simp only [cntL]; omega)) (by simp [ndL]; exact hd)
    rcases ho with rfl | rfl
    · exact ⟨Loc.of' (k := 0) (sl := []) (more := false) (m := 0) rfl rfl (by simp) (.inl (by simp)) trivial, trivial⟩
    · exact ⟨Loc.of' (k := 0) (sl := []) (more := false) (m := 0) rfl rfl (by simp) (.inl (by simp)) trivial, trivial⟩
  exact hk _ (by split; exact .inl rfl; exact .inr rfl)
theorem wAnswer : Gd (answerP F s) (PSt s) := by
  unfold answerP
  have g0 := sf_take h0
  refine ((wE F).ex 0 s.take (by decide) hd (g0.a ha)).bind fun n s3 h3 => (gd_end _ _).mono fun m s4 ⟨em, h4⟩ => ?_
  subst em
  have hf := (g0.tr h3.f).tr h4
  refine pst (by decide) ⟨Loc.of' (k := 0) (sl := [3]) (more := false) (m := 1) rfl rfl (by simp) (.inl (by simp)) ⟨sortE h3.e, trivial⟩, h3.ok, trivial⟩ ⟨nm0, h3.i, trivial⟩ ?_ ?_ ?_ ?_
  · simp [dpL, h3.dp]; exact hd
  · simp [stL, h3.st]
  · exact Sf.le (by simpa using hf) (by simp only [cntL]; omega)
  · have := h3.nd0; have : s.take.deep = s.deep := rfl
    simp only [ndL]; omega
end
theorem sf_more {s : PS} (h : s.stmts ≠ 200) : Sf s s.more 0 1 := ⟨by simp [PS.more], rfl, by simp [PS.more], fun g => by show s.stmts + 1 ≤ 200; omega, fun g => g⟩
theorem starts_cases (w : Txt) : startsN w = 161 ∨ startsN w = 162 ∨ startsN w = 163 ∨ startsN w = 164 ∨ startsN w = 165 ∨ startsN w = 166 ∨ startsN w = 167 ∨ startsN w = 168 ∨ startsN w = 169 ∨ startsN w = 0 := by
  unfold startsN
  split
  · omega
  split
  · omega
  split
  · omega
  split
  · omega
  split
  · omega
  split
  · omega
  split
  · omega
  split
  · omega
  split <;> omega
structure WS (F f : Nat) : Prop where
  block : ∀ s, s.deep ≤ 20 → AllT s → Gd (blockP F f s) fun n s' => PB (stN n) s n s' ∧ n.op = 5
  stmts : ∀ s0 l s, s0.deep ≤ 20 → AllT s0 → PL s0 l s → (∀ n ∈ l, 10 ≤ n.op ∧ n.op ≤ 22) → Gd (stmtsL F f l s) fun l' s' => PL s0 l' s' ∧ ∀ n ∈ l', 10 ≤ n.op ∧ n.op ≤ 22
  stmt : ∀ s, s.deep ≤ 20 → AllT s → Gd (stmtP F f s) fun n s' => PB (stN n) s n s' ∧ 10 ≤ n.op ∧ n.op ≤ 22
  branch : ∀ s, s.deep ≤ 20 → AllT s → s.hd.kind ≠ 0 → Gd (branchP F f s) fun n s' => PSt s n s' ∧ n.op = 13
  turns : ∀ s, s.deep ≤ 20 → AllT s → s.hd.kind ≠ 0 → Gd (turnsP F f s) (PSt s)
theorem sortS {n : Nd} (h : 10 ≤ n.op ∧ n.op ≤ 22) : sortB n.op 2 = true := by
  unfold sortB; simp [h.1, h.2]
theorem wS : ∀ f, WS F f
  | 0 => ⟨fun _ _ _ => by rw [blockP]; exact Gd.no, fun _ _ _ _ _ _ _ => by rw [stmtsL]; exact Gd.no, fun _ _ _ => by rw [stmtP]; exact Gd.no, fun _ _ _ _ => by rw [branchP]; exact Gd.no, fun _ _ _ _ => by rw [turnsP]; exact Gd.no⟩
  | f + 1 => by
    have ih := wS f
    refine ⟨fun s hd ha => ?_, fun s0 l s hd ha hl ho => ?_, fun s hd ha => ?_, fun s hd ha h0 => ?_, fun s hd ha h0 => ?_⟩
    · rw [blockP]
      refine (gd_down _ _).bind fun t s2 ⟨h2, hne, _, e2⟩ => ?_
      have hdn := down_sf h2
      have d2 : s2.deep = s.deep + 1 := by rw [e2]
      have a2 : AllT s2 := by rw [e2]; exact hdn.a ha
      refine (ih.stmts s2 [] s2 (by omega) a2 (PL.nil (by omega)) (fun n h => by cases h)).bind fun l s3 ⟨h3, ho⟩ => (gd_up _ _).bind fun _ s4 ⟨hu, e4⟩ => Gd.ret ?_
      subst e4
      have g4 := sf_take (next_k hu)
      have d3 := h3.f.d
      have hf : Sf s s3.take.up (1 + cntL l + 1) (stL l) := by
        have q : Sf { s with deep := s.deep + 1 } s2 1 0 := by rw [e2]; exact hdn
        have := ((q.tr h3.f).tr g4).deep s.deep
        have e : s3.take.up = { s3.take with deep := s.deep } := by
          have : s3.take.up.deep = s.deep := by show s3.deep - 1 = s.deep; omega
          rw [← this]; rfl
        rw [e]
        simpa using this
      refine ⟨⟨⟨Loc.of' (k := 0) (sl := [2]) (more := true) (m := 0) rfl rfl (by simp) (.inr rfl) (srt_of fun n hn => sortS (ho n hn)), h3.ok⟩, ⟨nm0, h3.i⟩, ?_, ?_, ?_⟩, rfl⟩
      · have := h3.dp
        simp only [dpN, if_true]; omega
      · simp only [stN]; rw [if_neg (by decide), Nat.zero_add]
        exact hf.le (by simp only [cnt]; omega)
      · rw [ndo _ _ _ _ (by decide) (by decide) (by decide), if_pos (.inr (.inl rfl))]
        have := h3.nd; omega
    · rw [stmtsL]
      refine Gd.ite (fun _ => Gd.ret ⟨hl, ho⟩) fun _ => ?_
      have d1 := hl.f.d
      refine (ih.stmt s (by omega) (hl.f.a ha)).bind fun n s3 ⟨h3, o3⟩ => ?_
      refine ih.stmts s0 _ s3 hd ha (hl.snoc Sf.rfl' h3) fun m hm => ?_
      rcases List.mem_append.1 hm with g | g
      · exact ho m g
      · simp only [List.mem_singleton] at g; rw [g]; exact o3
    · rw [stmtP]
      refine Gd.ite (fun _ => Gd.fail) fun hc => (gd_limit _ _ _).bind fun _ s1 ⟨hn, e1⟩ => ?_
      subst e1
      have hk : s1.hd.kind = 1 := Classical.byContradiction fun g => hc (.inl g)
      have gm := sf_more hn
      have hdm : s1.more.deep ≤ 20 := hd
      have ham : AllT s1.more := ha
      have hkm : s1.more.hd.kind ≠ 0 := by show s1.hd.kind ≠ 0; omega
      have fin : ∀ n s', PSt s1.more n s' → PB (stN n) s1 n s' ∧ 10 ≤ n.op ∧ n.op ≤ 22 := fun n s' ⟨ho, m, hm, hb⟩ => by
        refine ⟨⟨hb.ok, hb.i, hb.dp, ?_, hb.nd⟩, ho⟩
        have := gm.tr hb.f
        rw [hm]
        exact Sf.le (by rw [show m + 1 = 1 + m by omega]; exact this) (by omega)
      refine Gd.mono (P := PSt s1.more) ?_ fin
      have nm : startsN s1.hd.text = 0 → namedB s1.more = true := fun h => by
        show namedB s1 = true
        rw [← Bool.not_eq_false]
        intro g; exact hc (.inr ⟨h, g⟩)
      split
      · exact wLet _ hdm ham hkm
      · exact (ih.branch _ hdm ham hkm).mono fun _ _ h => h.1
      · exact ih.turns _ hdm ham hkm
      · exact wEmit _ hdm ham hkm
      · exact wSpawn _ hdm ham hkm
      · exact wAdd _ hdm ham hkm
      · exact wRemove _ hdm hkm
      · exact wShort _ hdm hkm
      · exact wAnswer _ hdm ham hkm
      · rename_i q1 q2 q3 q4 q5 q6 q7 q8 q9
        exact wSet _ hdm ham hkm (nm (by rcases starts_cases s1.hd.text with g | g | g | g | g | g | g | g | g | g <;> first | exact g | (exfalso; first | exact q1 g | exact q2 g | exact q3 g | exact q4 g | exact q5 g | exact q6 g | exact q7 g | exact q8 g | exact q9 g)))
    · rw [branchP]
      have g0 := sf_take h0
      refine ((wE F).ex 0 s.take (by decide) hd (g0.a ha)).bind fun c s1 h1 => ?_
      have d1 : s1.deep = s.deep := h1.f.d
      have f1 := g0.tr h1.f
      refine (ih.block s1 (by omega) (f1.a ha)).bind fun b s2 ⟨h2, ob⟩ => ?_
      have f2 := f1.tr h2.f
      have d2 : s2.deep = s.deep := f2.d
      have n1 := h1.nd0
      have n2 := h2.nd
      have p2 := h2.dp
      have dt : s.take.deep = s.deep := rfl
      have three : ∀ {e : Nd} {s4 : PS} {m k : Nat}, okN e → nmN e → (e.op = 5 ∨ e.op = 13) → s.deep + dpN e ≤ 20 → s.deep + ndN e ≤ 20 → Sf s2 s4 k m → stN e = m → cnt e ≤ k → PSt s (node 13 s.hd [c, b, e]) s4 ∧ (node 13 s.hd [c, b, e]).op = 13 := fun {e s4 m k} ke ie oe de ne fe se ce => by
        refine ⟨⟨(by show (10 : Int) ≤ 13 ∧ (13 : Int) ≤ 22; decide), stN b + m, ?_, ⟨⟨Loc.of' (k := 0) (sl := [3, 1, 7]) (more := false) (m := 2) rfl rfl (by simp) (.inl (by simp)) ⟨sortE h1.e, by rw [ob]; rfl, by rcases oe with o | o <;> (rw [o]; rfl), trivial⟩, h1.ok, h2.ok, ke, trivial⟩, ⟨nm0, h1.i, h2.i, ie, trivial⟩, ?_, ?_, ?_⟩⟩, rfl⟩
        · simp only [stN, stL]; rw [if_pos (by decide), h1.st, se]; omega
        · simp only [dpN, dpL, h1.dp]; rw [if_neg (by decide)]; omega
        · have := f2.tr fe
          refine Sf.le (k := 0 + 1 + cnt c + cnt b + k) ?_ (by simp only [cnt, cntL]; omega)
          simpa using this
        · rw [ndo _ _ _ _ (by decide) (by decide) (by decide), if_neg (by decide)]
          simp only [ndL]; omega
      refine Gd.ite (fun he => ?_) fun _ => Gd.ret ?_
      · have ge := sf_take (next_k he)
        refine Gd.ite (fun hi => ?_) fun _ => ?_
        · refine (gd_limit _ _ _).bind fun _ s3 ⟨hn, e3⟩ => ?_
          subst e3
          have gm := ge.tr (sf_more (s := s2.take) hn)
          refine (ih.branch s2.take.more (by show s2.deep ≤ 20; omega) ((f2.tr gm).a ha) (by show s2.take.hd.kind ≠ 0; exact next_k hi)).bind fun e s4 ⟨⟨_, m, hm, hb⟩, oe⟩ => Gd.ret ?_
          have dd : s2.take.more.deep = s.deep := d2
          refine three hb.ok hb.i (.inr oe) (by have := hb.dp; omega) (by have := hb.nd; omega) (gm.tr hb.f) ?_ (by omega)
          rw [hm]; omega
        · refine (ih.block s2.take (by show s2.deep ≤ 20; omega) ((f2.tr ge).a ha)).bind fun e s4 ⟨hb, oe⟩ => Gd.ret ?_
          have dd : s2.take.deep = s.deep := d2
          refine three hb.ok hb.i (.inl oe) (by have := hb.dp; omega) (by have := hb.nd; omega) (ge.tr hb.f) ?_ (by omega)
          omega
      · refine ⟨⟨(by show (10 : Int) ≤ 13 ∧ (13 : Int) ≤ 22; decide), stN b, ?_, ⟨⟨Loc.of' (k := 0) (sl := [3, 1, 7]) (more := false) (m := 2) rfl rfl (by simp) (.inl (by simp)) ⟨sortE h1.e, by rw [ob]; rfl, trivial⟩, h1.ok, h2.ok, trivial⟩, ⟨nm0, h1.i, h2.i, trivial⟩, ?_, ?_, ?_⟩⟩, rfl⟩
        · simp only [stN, stL]; rw [if_pos (by decide), h1.st]; omega
        · simp only [dpN, dpL, h1.dp]; rw [if_neg (by decide)]; omega
        · refine Sf.le (k := 0 + 1 + cnt c + cnt b) ?_ (by simp only [cnt, cntL]; omega)
          simpa using f2
        · rw [ndo _ _ _ _ (by decide) (by decide) (by decide), if_neg (by decide)]
          simp only [ndL]; omega
    · rw [turnsP]
      have g0 := sf_take h0
      refine ((wE F).ex 0 s.take (by decide) hd (g0.a ha)).bind fun c s1 h1 => ?_
      have d1 : s1.deep = s.deep := h1.f.d
      have f1 := g0.tr h1.f
      refine (ih.block s1 (by omega) (f1.a ha)).bind fun b s2 ⟨h2, ob⟩ => Gd.ret ?_
      have f2 := f1.tr h2.f
      have n1 := h1.nd0
      have n2 := h2.nd
      have p2 := h2.dp
      have dt : s.take.deep = s.deep := rfl
      have two : ∀ op, op = 14 ∨ op = 15 → PSt s (node op s.hd [c, b]) s2 := fun op hop => by
        refine ⟨by show 10 ≤ op ∧ op ≤ 22; omega, stN b, ?_, ⟨⟨?_, h1.ok, h2.ok, trivial⟩, ⟨nm0, h1.i, h2.i, trivial⟩, ?_, ?_, ?_⟩⟩
        · simp only [stN, stL]; rw [if_pos (by omega), h1.st]; omega
        · rcases hop with rfl | rfl
          · exact Loc.of' (k := 0) (sl := [3, 1]) (more := false) (m := 2) rfl rfl (by simp) (.inl (by simp)) ⟨sortE h1.e, by rw [ob]; rfl, trivial⟩
          · exact Loc.of' (k := 0) (sl := [3, 1]) (more := false) (m := 2) rfl rfl (by simp) (.inl (by simp)) ⟨sortE h1.e, by rw [ob]; rfl, trivial⟩
        · simp only [dpN, dpL, h1.dp]; rw [if_neg (by omega)]; omega
        · refine Sf.le (k := 0 + 1 + cnt c + cnt b) ?_ (by simp only [cnt, cntL]; omega)
          simpa using f2
        · rw [ndo _ _ _ _ (by omega) (by omega) (by omega), if_neg (by omega)]
          simp only [ndL]; omega
      exact two _ (by split; exact .inl rfl; exact .inr rfl)
end
section
open Go Hc Hc.Lex
variable {F : Nat}
theorem wNames {most : Int} : ∀ (f : Nat) (s0 : PS) (l : List Nd) (s : PS), s0.deep ≤ 20 → PL s0 l s → (∀ n ∈ l, n.op = 31) → stL l = 0 → ((l.length : Nat) ≤ most ∨ most < 0) → Gd (namesL most f l s) fun l' s' => PL s0 l' s' ∧ (∀ n ∈ l', n.op = 31) ∧ stL l' = 0 ∧ ((l'.length : Nat) ≤ most ∨ most < 0)
  | 0, _, _, _, _, _, _, _, _ => by rw [namesL]; exact Gd.no
  | f + 1, s0, l, s, hd, hl, ho, hst, hm => by
    rw [namesL]
    refine Gd.ite (fun hn => (gd_limit _ _ _).bind fun _ s1 ⟨hne, e1⟩ => ?_) fun _ => Gd.fail
    subst e1
    have g0 := sf_take (named_k hn)
    have d0 := hl.f.d
    have hb : PB 0 s1 (texted 31 s1.hd []) s1.take := by
      refine ⟨okName31 (named_name hn), ⟨nm0, trivial⟩, ?_, by simpa [cnt, cntL] using g0, ?_⟩
      · simp [dpN, dpL]; omega
      · rw [ndo _ _ _ _ (by decide) (by decide) (by decide), if_neg (by decide)]; simp [ndL]; omega
    have h31 : stN (texted 31 s1.hd []) = 0 := rfl
    have hl' : PL s0 (l ++ [texted 31 s1.hd []]) s1.take := hl.snoc Sf.rfl' (by rw [h31]; exact hb)
    have ho' : ∀ n ∈ l ++ [texted 31 s1.hd []], n.op = 31 := fun n h => by
      rcases List.mem_append.1 h with g | g
      · exact ho n g
      · simp only [List.mem_singleton] at g; rw [g]; rfl
    have hst' : stL (l ++ [texted 31 s1.hd []]) = 0 := by rw [stL_app, hst]; rfl
    have hm' : (((l ++ [texted 31 s1.hd []]).length : Nat) : Int) ≤ most ∨ most < 0 := by
      rw [List.length_append, List.length_singleton]; omega
    refine Gd.ite (fun hc => ?_) fun _ => Gd.ret ⟨hl', ho', hst', hm'⟩
    have g2 := sf_take (next_k hc)
    refine wNames f s0 _ s1.take.take hd ?_ ho' hst' hm'
    exact ⟨hl'.ok, hl'.i, hl'.dp, by have := hl'.f.tr g2; exact Sf.le this (by omega), hl'.nd⟩
structure CL (s : PS) (ws : List Txt) (l : List Nd) (s' : PS) : Prop where
  ok : okL l
  i : nmL l
  dp : dpL l = 0
  st : stL l = 0
  nd : ndL l = 0
  op : ∀ n ∈ l, n.op = 3
  tx : l.map Nd.tx = ws
  f : Sf s s' (cntL l - l.length) 0
  c : l.length ≤ cntL l
theorem names_flat : ∀ {l : List Nd}, okL l → (∀ n ∈ l, n.op = 31) → dpL l = 0 ∧ ndL l = 0
  | [], _, _ => ⟨rfl, rfl⟩
  | n :: l, hk, ho => by
    obtain ⟨h1, h2⟩ := names_flat hk.2 fun m hm => ho m (List.mem_cons_of_mem _ hm)
    have h31 := ho n (List.mem_cons_self ..)
    obtain ⟨op, tx, nm, k, a, rfl⟩ := hk.1.op
    have h31 : op = 31 := h31
    subst h31
    obtain ⟨_, rfl⟩ := ok31 hk.1
    refine ⟨?_, ?_⟩
    · simp [dpL, dpN, h1]
    · simp only [ndL, h2]; rw [ndo _ _ _ _ (by decide) (by decide) (by decide), if_neg (by decide)]; rfl
theorem clause_in (w : Txt) (h : w ∈ clauseW) : (clauseW ++ [[102, 117, 110, 99]]).contains w = true := by
  rw [List.contains_iff_mem]; exact List.mem_append_left _ h
theorem CL.snoc {s s1 s2 : PS} {ws : List Txt} {l k : List Nd} {w : Txt} {a : Int} (h : CL s ws l s1) (hw : w ∈ clauseW) (hk : okL k) (hi : nmL k) (ho : ∀ n ∈ k, n.op = 31) (hst : stL k = 0) (hf : Sf s1 s2 (cntL k) 0) : CL s (ws ++ [w]) (l ++ [.mk 3 w 0 k a]) s2 := by
  obtain ⟨p1, p2⟩ := names_flat hk ho
  refine ⟨okL_app h.ok ⟨⟨Loc.of' (k := 2) (sl := [6]) (more := true) (m := 0) rfl (clause_in w hw) (by simp) (.inr rfl) (srt_of fun n hn => by rw [ho n hn]; rfl), hk⟩, trivial⟩, nmL_app h.i ⟨⟨nm0, hi⟩, trivial⟩, ?_, ?_, ?_, fun n hn => ?_, ?_, ?_, ?_⟩
  · rw [dpL_app, h.dp]; simp [dpL, dpN, p1]
  · rw [stL_app, h.st]; simp [stL, stN, hst]
  · rw [ndL_app, h.nd]; simp only [ndL]; rw [ndo _ _ _ _ (by decide) (by decide) (by decide), if_neg (by decide), p2]; rfl
  · rcases List.mem_append.1 hn with g | g
    · exact h.op n g
    · simp only [List.mem_singleton] at g; rw [g]; rfl
  · rw [List.map_append, h.tx]; rfl
  · rw [cntL_app, List.length_append]
    refine (h.f.tr hf).le ?_
    simp only [cntL, cnt, List.length_singleton]
    have := h.c; omega
  · rw [cntL_app, List.length_append]
    simp only [cntL, cnt, List.length_singleton]
    have := h.c; omega
theorem wClauses : ∀ (ws : List Txt) (s0 : PS) (us : List Txt) (l : List Nd) (s : PS), s0.deep ≤ 20 → CL s0 us l s → us ++ ws = clauseW → Gd (clausesP F ws l s) fun l' s' => CL s0 clauseW l' s'
  | [], s0, us, l, s, hd, hl, hw => by
    rw [clausesP]
    rw [List.append_nil] at hw; subst hw
    exact Gd.ret hl
  | w :: ws, s0, us, l, s, hd, hl, hw => by
    rw [clausesP]
    have hin : w ∈ clauseW := by rw [← hw]; exact List.mem_append_right _ (List.mem_cons_self ..)
    have hw' : (us ++ [w]) ++ ws = clauseW := by rw [← hw]; simp
    refine Gd.ite (fun hq => ?_) fun _ => ?_
    · have g0 := sf_take (next_k hq)
      have d0 := hl.f.d
      refine (wNames (most := -1) F s.take [] s.take (by show s.deep ≤ 20; omega) (PL.nil (by show s.deep ≤ 20; omega)) (fun n h => by cases h) rfl (.inr (by decide))).bind fun c s1 ⟨h1, o1, t1, _⟩ => ?_
      refine wClauses ws s0 _ _ s1 hd (hl.snoc hin h1.ok h1.i o1 t1 ?_) hw'
      have := g0.tr h1.f
      rw [t1] at this
      exact this.le (by omega)
    · exact wClauses ws s0 _ _ s hd (hl.snoc hin trivial trivial (fun n h => by cases h) rfl (Sf.rfl'.le (by simp [cntL]))) hw'
theorem fix_eq (a : Int) (op : Int) (tx : Txt) (nm : Int) (l : List Nd) (b : Int) : Nd.fix a (.mk op tx nm l b) = .mk op tx nm l (if b < 0 then a else b) := by
  show (if b < 0 then Nd.mk op tx nm l a else Nd.mk op tx nm l b) = _; split <;> rfl
theorem fix_okL (a : Int) : ∀ {l : List Nd}, okL l → okL (l.map (Nd.fix a))
  | [], _ => trivial
  | n :: l, h => by
    obtain ⟨op, tx, nm, k, b, rfl⟩ := h.1.op
    exact ⟨by rw [fix_eq]; exact h.1, fix_okL a h.2⟩
theorem fix_nmL (a : Int) : ∀ {l : List Nd}, nmL l → nmL (l.map (Nd.fix a))
  | [], _ => trivial
  | .nil :: l, h => ⟨trivial, fix_nmL a h.2⟩
  | .mk op tx nm k b :: l, h => ⟨by rw [fix_eq]; exact h.1, fix_nmL a h.2⟩
theorem fix_dpL (a : Int) : ∀ {l : List Nd}, dpL (l.map (Nd.fix a)) = dpL l
  | [] => rfl
  | .nil :: l => by simp only [List.map_cons, dpL, fix_dpL a (l := l)]; rfl
  | .mk op tx nm k b :: l => by simp only [List.map_cons, dpL, fix_dpL a (l := l), fix_eq]; rfl
theorem fix_stL (a : Int) : ∀ {l : List Nd}, stL (l.map (Nd.fix a)) = stL l
  | [] => rfl
  | .nil :: l => by simp only [List.map_cons, stL, fix_stL a (l := l)]; rfl
  | .mk op tx nm k b :: l => by simp only [List.map_cons, stL, fix_stL a (l := l), fix_eq]; rfl
theorem nd_at (op : Int) (tx : Txt) (nm : Int) (l : List Nd) (a b : Int) : ndN (.mk op tx nm l a) = ndN (.mk op tx nm l b) := by
  conv => lhs; unfold ndN
  conv => rhs; unfold ndN
theorem fix_ndL (a : Int) : ∀ {l : List Nd}, ndL (l.map (Nd.fix a)) = ndL l
  | [] => rfl
  | .nil :: l => by simp only [List.map_cons, ndL, fix_ndL a (l := l)]; rfl
  | .mk op tx nm k b :: l => by
    simp only [List.map_cons, ndL, fix_ndL a (l := l), fix_eq]
    rw [nd_at _ _ _ _ _ b]
theorem fix_cntL (a : Int) : ∀ {l : List Nd}, cntL (l.map (Nd.fix a)) = cntL l
  | [] => rfl
  | .nil :: l => by simp only [List.map_cons, cntL, fix_cntL a (l := l)]; rfl
  | .mk op tx nm k b :: l => by simp only [List.map_cons, cntL, fix_cntL a (l := l), fix_eq]; rfl
theorem fix_op (a : Int) (n : Nd) : (Nd.fix a n).op = n.op := by
  cases n with
  | nil => rfl
  | mk op tx nm l b => rw [fix_eq]; rfl
theorem fix_tx (a : Int) (n : Nd) : (Nd.fix a n).tx = n.tx := by
  cases n with
  | nil => rfl
  | mk op tx nm l b => rw [fix_eq]; rfl
structure PT (s : PS) (n : Nd) (s' : PS) : Prop where
  ok : okN n
  i : nmN n
  dp : s.deep + dpN n ≤ 20
  f : Sf s s' (cnt n - 5) (stN n)
  c : 5 ≤ cnt n ∨ cnt n ≤ 5
  nd : s.deep + ndN n ≤ 20
  p : n.op = 4 → (n.ks.headD .nil).ks.length ≤ 4
theorem wSystem (s : PS) (hd : s.deep ≤ 20) (ha : AllT s) (h0 : s.hd.kind ≠ 0) : Gd (systemP F s) fun n s' => PT s n s' ∧ n.op = 2 := by
  unfold systemP
  have g0 := sf_take h0
  refine (gd_name _).bind fun t s1 ⟨h1, et, e1⟩ => ?_
  subst e1
  have g1 := g0.tr (sf_take (named_k h1))
  have hd1 : s.take.take.deep ≤ 20 := hd
  refine (wClauses clauseW s.take.take [] [] s.take.take hd1 ⟨trivial, trivial, rfl, rfl, rfl, fun n h => (by cases h), rfl, Sf.rfl', Nat.le_refl _⟩ rfl).bind fun l s2 h2 => ?_
  have f2 := g1.tr h2.f
  have d2 : s2.deep = s.deep := f2.d
  refine ((wS F).block s2 (by omega) (f2.a ha)).bind fun b s3 ⟨h3, ob⟩ => Gd.ret ?_
  have f3 := f2.tr h3.f
  have hlen : l.length = 4 := by have := congrArg List.length h2.tx; simpa [clauseW] using this
  obtain ⟨c1, c2, c3, c4, rfl⟩ : ∃ a b c d, l = [a, b, c, d] := by
    match l, hlen with
    | [a, b, c, d], _ => exact ⟨a, b, c, d, rfl⟩
  have hso : ∀ c ∈ [c1, c2, c3, c4], sortB (Nd.fix b.place c).op 0 = true := fun c hc => by rw [fix_op, h2.op c hc]; rfl
  have p3 := h3.dp
  have n3 := h3.nd
  have hc4 := h2.c
  refine ⟨⟨⟨⟨⟨1, [0, 0, 0, 0, 1], false, 5, rfl, by rw [et]; exact named_name h1, by simp, .inl (by simp), ⟨hso c1 (by simp), hso c2 (by simp), hso c3 (by simp), hso c4 (by simp), by show sortB b.op 1 = true; rw [ob]; rfl, trivial⟩⟩, ?_, fun e => absurd e (by decide)⟩, okL_app (fix_okL _ h2.ok) ⟨h3.ok, trivial⟩⟩, ⟨nm0, nmL_app (fix_nmL _ h2.i) ⟨h3.i, trivial⟩⟩, ?_, ?_, Nat.le_total _ _, ?_, fun e => absurd (show (2 : Int) = 4 from e) (by decide)⟩, rfl⟩
  · have := h2.tx
    unfold clsB
    rw [if_pos rfl]
    simp only [List.map_cons, List.map_nil] at this
    simp only [List.map_cons, List.map_nil, List.cons_append, List.nil_append, List.take_succ_cons, List.take_zero, fix_tx]
    rw [this]; simp
  · simp only [dpN]; rw [if_neg (by decide), dpL_app, fix_dpL, h2.dp]; simp only [dpL]; omega
  · simp only [stN, cnt]
    rw [if_neg (by decide), stL_app, fix_stL, h2.st, cntL_app, fix_cntL]
    simp only [stL, cntL]
    have hf : Sf s s3 (0 + 1 + 1 + (cntL [c1, c2, c3, c4] - 4) + cnt b) (0 + stN b) := by simpa using f3
    have := hf.le (k' := 1 + (cntL [c1, c2, c3, c4] + (cnt b + 0)) - 5) (by simp only [List.length_cons, List.length_nil] at hc4; omega)
    simpa [cntL] using this
  · rw [ndo _ _ _ _ (by decide) (by decide) (by decide), if_neg (by decide), ndL_app, fix_ndL, h2.nd]
    simp only [ndL]; omega
theorem wFunction (s : PS) (hd : s.deep ≤ 20) (ha : AllT s) (h0 : s.hd.kind ≠ 0) : Gd (functionP F s) fun n s' => PT s n s' ∧ n.op = 4 := by
  unfold functionP
  have g0 := sf_take h0
  refine (gd_name _).bind fun t s1 ⟨h1, et, e1⟩ => (gd_must _ _).bind fun u s2 ⟨h2, _, e2⟩ => ?_
  subst e1 e2
  have g2 := (g0.tr (sf_take (named_k h1))).tr (sf_take (next_k h2))
  have hd2 : s.take.take.take.deep ≤ 20 := hd
  have key : Gd (if nextB [41] s.take.take.take then retP [] s.take.take.take else namesL 4 F [] s.take.take.take) fun l s' => PL s.take.take.take l s' ∧ (∀ n ∈ l, n.op = 31) ∧ stL l = 0 ∧ l.length ≤ 4 := by
    refine Gd.ite (fun _ => Gd.ret ⟨PL.nil hd2, fun n h => (by cases h), rfl, by simp⟩) fun _ => ?_
    exact (wNames (most := 4) F _ [] _ hd2 (PL.nil hd2) (fun n h => by cases h) rfl (.inl (by simp))).mono fun l s' ⟨q1, q2, q3, q4⟩ => ⟨q1, q2, q3, by omega⟩
  refine key.bind fun c s3 ⟨h3, o3, t3, l3⟩ => (gd_must _ _).bind fun _ s4 ⟨h4, _, e4⟩ => ?_
  subst e4
  have f4 := (g2.tr h3.f).tr (sf_take (next_k h4))
  have d4 : s3.take.deep = s.deep := f4.d
  refine ((wS F).block s3.take (by omega) (f4.a ha)).bind fun b s5 ⟨h5, ob⟩ => Gd.ret ?_
  have f5 := f4.tr h5.f
  have p5 := h5.dp
  have n5 := h5.nd
  obtain ⟨p1, p2⟩ := names_flat h3.ok o3
  refine ⟨⟨⟨⟨⟨1, [0, 1], false, 2, rfl, by rw [et]; exact named_name h1, by simp, .inl (by simp), ⟨rfl, by show sortB b.op 1 = true; rw [ob]; rfl, trivial⟩⟩, rfl, fun e => absurd e (by decide)⟩, ⟨Loc.of' (k := 2) (sl := [6]) (more := true) (m := 0) rfl rfl (by simp) (.inr rfl) (srt_of fun n hn => by rw [o3 n hn]; rfl), h3.ok⟩, h5.ok, trivial⟩, ⟨nm0, ⟨nm0, h3.i⟩, h5.i, trivial⟩, ?_, ?_, Nat.le_total _ _, ?_, fun _ => l3⟩, rfl⟩
  · simp [dpN, dpL, p1]; omega
  · simp only [stN, stL, cnt, cntL]
    rw [if_neg (by decide), if_neg (by decide), t3]
    have hf : Sf s s5 (0 + 1 + 1 + 1 + cntL c + 1 + cnt b) (0 + stN b) := by
      rw [t3] at f5; simpa using f5
    have := hf.le (k' := 1 + (1 + cntL c + (cnt b + 0)) - 5) (by omega)
    simpa using this
  · rw [ndo _ _ _ _ (by decide) (by decide) (by decide), if_neg (by decide)]
    simp only [ndL]
    rw [ndo _ _ _ _ (by decide) (by decide) (by decide), if_neg (by decide), p2]
    omega
abbrev cop (k : Int) (l : List Nd) : Nat := (l.filter fun n => n.op == k).length
structure PP (s : PS) (a b : Int) (l : List Nd) (s' : PS) : Prop where
  ok : okL l
  i : nmL l
  dp : dpL l ≤ 20
  f : Sf s s' (cntL l - 5 * l.length) (stL l)
  nd : ndL l ≤ 20
  op : ∀ n ∈ l, n.op = 2 ∨ n.op = 4
  a : (cop 2 l : Int) = a ∧ a ≤ 16
  b : (cop 4 l : Int) = b ∧ b ≤ 16
  p : ∀ n ∈ l, n.op = 4 → (n.ks.headD .nil).ks.length ≤ 4
theorem PP.snoc {s s1 s2 : PS} {a b a' b' : Int} {l : List Nd} {n : Nd} (h : PP s a b l s1) (h' : PT s1 n s2) (hd : s1.deep = 0) (ho : (n.op = 2 ∧ a' = a + 1 ∧ b' = b) ∨ (n.op = 4 ∧ a' = a ∧ b' = b + 1)) (ha : a' ≤ 16) (hb : b' ≤ 16) : PP s a' b' (l ++ [n]) s2 := by
  have hf := h.f.tr h'.f
  have q1 := h'.dp; have q2 := h'.nd
  refine ⟨okL_app h.ok ⟨h'.ok, trivial⟩, nmL_app h.i ⟨h'.i, trivial⟩, ?_, ?_, ?_, fun m hm => ?_, ⟨?_, ha⟩, ⟨?_, hb⟩, fun m hm e => ?_⟩
  · rw [dpL_app]; simp only [dpL]; have := h.dp; omega
  · rw [cntL_app, stL_app, List.length_append]
    simp only [cntL, stL, List.length_singleton, Nat.add_zero]
    exact hf.le (by omega)
  · rw [ndL_app]; simp only [ndL]; have := h.nd; omega
  · rcases List.mem_append.1 hm with g | g
    · exact h.op m g
    · simp only [List.mem_singleton] at g; rw [g]; rcases ho with g | g
      · exact .inl g.1
      · exact .inr g.1
  · unfold cop
    rw [List.filter_append, List.length_append]
    have := h.a.1
    rcases ho with ⟨g, e1, e2⟩ | ⟨g, e1, e2⟩
    · have : (List.filter (fun n => n.op == 2) [n]).length = 1 := by simp [g]
      rw [this]; unfold cop at *; omega
    · have : (List.filter (fun n => n.op == 2) [n]).length = 0 := by simp [g]
      rw [this]; unfold cop at *; omega
  · unfold cop
    rw [List.filter_append, List.length_append]
    have := h.b.1
    rcases ho with ⟨g, e1, e2⟩ | ⟨g, e1, e2⟩
    · have : (List.filter (fun n => n.op == 4) [n]).length = 0 := by simp [g]
      rw [this]; unfold cop at *; omega
    · have : (List.filter (fun n => n.op == 4) [n]).length = 1 := by simp [g]
      rw [this]; unfold cop at *; omega
  · rcases List.mem_append.1 hm with g | g
    · exact h.p m g e
    · simp only [List.mem_singleton] at g; rw [g] at e ⊢; exact h'.p e
theorem wProgramL : ∀ (f : Nat) (a b : Int) (s0 : PS) (l : List Nd) (s : PS), s0.deep = 0 → AllT s0 → PP s0 a b l s → Gd (programL F f a b l s) fun l' s' => ∃ a' b', PP s0 a' b' l' s'
  | 0, _, _, _, _, _, _, _, _ => by rw [programL]; exact Gd.no
  | f + 1, a, b, s0, l, s, hd, ht, hl => by
    rw [programL]
    have d0 : s.deep = 0 := hl.f.d.trans hd
    refine Gd.ite (fun _ => Gd.ret ⟨a, b, hl⟩) fun _ => Gd.ite (fun hq => ?_) fun _ => Gd.ite (fun hq => ?_) fun _ => Gd.fail
    · refine (gd_limit _ _ _).bind fun _ s1 ⟨hne, e1⟩ => ?_
      subst e1
      refine (wSystem s1 (by omega) (hl.f.a ht) (next_k hq)).bind fun n s2 ⟨h2, o2⟩ => ?_
      have := hl.a.2
      exact wProgramL f _ _ s0 _ s2 hd ht (hl.snoc h2 d0 (.inl ⟨o2, rfl, rfl⟩) (by omega) hl.b.2)
    · refine (gd_limit _ _ _).bind fun _ s1 ⟨hne, e1⟩ => ?_
      subst e1
      refine (wFunction s1 (by omega) (hl.f.a ht) (next_k hq)).bind fun n s2 ⟨h2, o2⟩ => ?_
      have := hl.b.2
      exact wProgramL f _ _ s0 _ s2 hd ht (hl.snoc h2 d0 (.inr ⟨o2, rfl, rfl⟩) hl.a.2 (by omega))
structure WfT (n : Nd) : Prop where
  ok : okN n
  op : n.op = 1
  i : nmN n
  cnt : cnt n ≤ 9200
  dp : dpN n ≤ 20
  nd : ndN n ≤ 20
  st : stN n ≤ 200
  sys : cop 2 n.ks ≤ 16
  fun' : cop 4 n.ks ≤ 16
  par : ∀ m ∈ n.ks, m.op = 4 → (m.ks.headD .nil).ks.length ≤ 4
theorem ops_len : ∀ {l : List Nd}, (∀ n ∈ l, n.op = 2 ∨ n.op = 4) → l.length = cop 2 l + cop 4 l
  | [], _ => rfl
  | n :: l, h => by
    have ih := ops_len fun m hm => h m (List.mem_cons_of_mem _ hm)
    unfold cop at *
    rcases h n (List.mem_cons_self ..) with g | g
    · simp [List.filter_cons, g]; omega
    · simp [List.filter_cons, g]; omega
theorem parse_wf {ts : List Tk} {n : Nd} {s' : PS} (h : parseT ts = some (.ok (n, s'))) (ht : ∀ t ∈ ts, NumOk t) (hlen : ts.length ≤ 9000) : WfT n := by
  unfold parseT programP at h
  have key := (wProgramL (F := fuelP) fuelP 0 0 ⟨ts, 0, 0⟩ [] ⟨ts, 0, 0⟩ rfl ht ⟨trivial, trivial, by decide, Sf.rfl', by decide, fun n h => (by cases h), ⟨rfl, by decide⟩, ⟨rfl, by decide⟩, fun n h => (by cases h)⟩).bind
    (F := fun l s => retP (Nd.mk 1 [] 0 l 0) s) (Q := fun n s => WfT n) (fun l s ⟨a, b, hp⟩ => Gd.ret ?_)
  · exact key n s' h
  · have hlen2 := ops_len hp.op
    have ha := hp.a; have hb := hp.b
    have hn := hp.f.n
    have hst := hp.f.t
    have hl := hp.f.l (show (0 : Int) ≤ 200 by decide)
    refine ⟨⟨Loc.of' (k := 0) (sl := [8]) (more := true) (m := 0) rfl rfl (by simp) (.inr rfl) (srt_of fun n hn => by rcases hp.op n hn with e | e <;> (rw [e]; rfl)), hp.ok⟩, rfl, ⟨by decide, hp.i⟩, ?_, ?_, ?_, ?_, ?_, ?_, hp.p⟩
    · simp only [cnt]
      have hn : s.N + (cntL l - 5 * l.length) ≤ ts.length := hn
      omega
    · simp only [dpN]; rw [if_neg (by decide)]; have := hp.dp; omega
    · rw [ndo _ _ _ _ (by decide) (by decide) (by decide), if_neg (by decide)]; have := hp.nd; omega
    · simp only [stN]; rw [if_neg (by decide)]
      have hst : s.stmts = 0 + (stL l : Int) := hst
      omega
    · show cop 2 l ≤ 16; omega
    · show cop 4 l ≤ 16; omega
end
section
open Go Hc Hc.Lex
mutual
def era : Nd → Nd
  | .nil => .nil
  | .mk op tx nm l _ => .mk op tx nm (eraL l) 0
def eraL : List Nd → List Nd
  | [] => []
  | n :: ns => era n :: eraL ns
end
theorem eraL_map : ∀ l : List Nd, eraL l = l.map era
  | [] => rfl
  | n :: l => by simp only [eraL, List.map_cons, eraL_map l]
theorem eraL_app (l k : List Nd) : eraL (l ++ k) = eraL l ++ eraL k := by simp [eraL_map]
theorem eraL_len (l : List Nd) : (eraL l).length = l.length := by simp [eraL_map]
theorem era_op (n : Nd) : (era n).op = n.op := by cases n <;> rfl
theorem era_tx (n : Nd) : (era n).tx = n.tx := by cases n <;> rfl
theorem era_ks (n : Nd) : (era n).ks = eraL n.ks := by cases n <;> rfl
theorem era_hd (l : List Nd) : (eraL l).headD .nil = era (l.headD .nil) := by cases l <;> rfl
theorem eraL_tail (l : List Nd) : (eraL l).tail = eraL l.tail := by cases l <;> rfl
theorem era_need (lv : Int) (b : Bool) (n : Nd) : needP lv b (era n) = needP lv b n := by unfold needP; rw [era_op, era_tx]
mutual
theorem era_same : ∀ {n m : Nd}, era n = era m → sameB n m = true
  | .nil, .nil, _ => by unfold sameB; rfl
  | .nil, .mk _ _ _ _ _, h => by simp [era] at h
  | .mk _ _ _ _ _, .nil, h => by simp [era] at h
  | .mk op tx nm l a, .mk op' tx' nm' l' a', h => by
    simp only [era, Nd.mk.injEq] at h
    obtain ⟨rfl, rfl, rfl, hl, _⟩ := h
    unfold sameB
    rw [eraL_same hl]; simp
theorem eraL_same : ∀ {l m : List Nd}, eraL l = eraL m → sameL l m = true
  | [], [], _ => by unfold sameL; rfl
  | [], _ :: _, h => by simp [eraL] at h
  | _ :: _, [], h => by simp [eraL] at h
  | n :: l, m :: k, h => by
    simp only [eraL, List.cons.injEq] at h
    unfold sameL
    rw [era_same h.1, eraL_same h.2]; rfl
end
mutual
theorem era_exT : ∀ n : Nd, exT (era n) = exT n
  | .nil => rfl
  | .mk op tx nm l a => by
    rw [era]
    unfold exT
    by_cases h1 : op = 30
    · rw [if_pos h1, if_pos h1]
    rw [if_neg h1, if_neg h1]
    by_cases h2 : op = 32
    · rw [if_pos h2, if_pos h2, era_hd, era_tx]
    rw [if_neg h2, if_neg h2]
    by_cases h3 : op = 33
    · rw [if_pos h3, if_pos h3]
      match l with
      | [] => rfl
      | [x] => rfl
      | x :: y :: k => simp only [eraL, era_need, era_exT x, era_exT y]
    rw [if_neg h3, if_neg h3]
    by_cases h4 : op = 34
    · rw [if_pos h4, if_pos h4]
      match l with
      | [] => rfl
      | x :: k => simp only [eraL, era_need, era_exT x]
    rw [if_neg h4, if_neg h4]
    by_cases h5 : op = 35
    · rw [if_pos h5, if_pos h5]
      match l with
      | [] => rfl
      | [x] => rfl
      | [x, y] => rfl
      | x :: y :: z :: k => simp only [eraL, era_need, era_exT x, era_exT y, era_exT z]
    rw [if_neg h5, if_neg h5, era_exTs l]
theorem era_exTs : ∀ l : List Nd, exTs (eraL l) = exTs l
  | [] => rfl
  | n :: l => by simp only [eraL, exTs, era_exT n, era_exTs l]
end
theorem era_valT (n : Nd) : valT (era n) = valT n := by unfold valT; rw [era_tx, era_ks, era_hd, era_exT]
theorem eraL_mapT {f : Nd → Txt} (h : ∀ n, f (era n) = f n) (l : List Nd) : (eraL l).map f = l.map f := by
  rw [eraL_map, List.map_map]; congr 1; funext n; exact h n
theorem era_partT (n : Nd) : partT (era n) = partT n := by unfold partT; rw [era_tx, era_ks, eraL_mapT era_valT]
theorem eraL_nil (l : List Nd) : (eraL l).isEmpty = l.isEmpty := by cases l <;> rfl
theorem era_simT : ∀ n : Nd, simT (era n) = simT n
  | .nil => rfl
  | .mk op tx nm l a => by
    rw [era]
    unfold simT
    simp only [era_hd, eraL_tail, era_exT, era_tx, eraL_nil, eraL_mapT era_partT, era_partT]
mutual
theorem era_stT : ∀ (t : Nat) (n : Nd), stT t (era n) = stT t n
  | t, .nil => rfl
  | t, .mk op tx nm l a => by
    rw [era]
    unfold stT
    by_cases h1 : op = 13
    · rw [if_pos h1, if_pos h1]
      match l with
      | [] => rfl
      | [x] => rfl
      | [x, y] => simp only [eraL, era_exT x, era_blkT t y]
      | x :: y :: z :: k => simp only [eraL, era_exT x, era_blkT t y, era_op, era_stT t z, era_blkT t z]
    rw [if_neg h1, if_neg h1]
    by_cases h2 : op = 14
    · rw [if_pos h2, if_pos h2]
      match l with
      | [] => rfl
      | [x] => rfl
      | x :: y :: k => simp only [eraL, era_exT x, era_blkT t y]
    rw [if_neg h2, if_neg h2]
    by_cases h3 : op = 15
    · rw [if_pos h3, if_pos h3]
      match l with
      | [] => rfl
      | [x] => rfl
      | x :: y :: k => simp only [eraL, era_exT x, era_blkT t y]
    rw [if_neg h3, if_neg h3]
    have := era_simT (.mk op tx nm l a)
    rw [era] at this
    have e : simT (.mk op tx nm (eraL l) 0) = simT (.mk op tx nm (eraL l) a) := by unfold simT; rfl
    rw [this]
theorem era_blkT : ∀ (t : Nat) (n : Nd), blkT t (era n) = blkT t n
  | t, .nil => rfl
  | t, .mk op tx nm l a => by
    rw [era]
    unfold blkT
    rw [era_stsT]
theorem era_stsT : ∀ (t : Nat) (l : List Nd), stsT t (eraL l) = stsT t l
  | t, [] => rfl
  | t, n :: l => by simp only [eraL, stsT, era_stT t n, era_stsT t l]
end
theorem era_namesT (l : List Nd) : namesT (eraL l) = namesT l := by unfold namesT; rw [eraL_mapT era_tx]
theorem era_clauseT : ∀ n : Nd, clauseT (era n) = clauseT n
  | .nil => rfl
  | .mk op tx nm l a => by rw [era]; unfold clauseT; try dsimp only
                           rw [eraL_nil, era_namesT]
theorem eraL_last (l : List Nd) : (eraL l).getLastD .nil = era (l.getLastD .nil) := by
  rw [eraL_map]
  induction l with
  | nil => rfl
  | cons n l ih => cases l with
    | nil => rfl
    | cons m l => simpa using ih
theorem eraL_take (k : Nat) (l : List Nd) : (eraL l).take k = eraL (l.take k) := by rw [eraL_map, eraL_map, List.map_take]
theorem eraL_flat {f : Nd → Txt} (h : ∀ n, f (era n) = f n) (l : List Nd) : (eraL l).flatMap f = l.flatMap f := by
  induction l with
  | nil => rfl
  | cons n l ih => simp only [eraL, List.flatMap_cons, h, ih]
theorem era_thingT : ∀ n : Nd, thingT (era n) = thingT n
  | .nil => rfl
  | .mk op tx nm l a => by
    rw [era]; unfold thingT
    try dsimp only
    rw [era_hd, era_ks, era_namesT, eraL_take, eraL_flat era_clauseT, eraL_last, era_blkT]
theorem era_progT (n : Nd) : progT (era n) = progT n := by unfold progT; rw [era_ks, eraL_flat era_thingT]
theorem era_cls (op : Int) (l : List Nd) : clsB op (eraL l) = clsB op l := by
  unfold clsB
  have : ∀ k, ((eraL l).take k).map Nd.tx = (l.take k).map Nd.tx := fun k => by
    rw [eraL_take, eraL_map, List.map_map]; congr 1; funext n; exact era_tx n
  rw [this, this]
mutual
theorem era_fitN : ∀ (n : Nd) (bl left : Int), fitN bl left (era n) = fitN bl left n
  | .nil, _, _ => rfl
  | .mk op tx nm l a, bl, left => by
    rw [era]
    unfold fitN
    rw [era_cls]
    simp only [era_fitL l, eraL_len]
theorem era_fitL : ∀ (l : List Nd) (bl left : Int) (sl : List Int), fitL bl left sl (eraL l) = fitL bl left sl l
  | [], _, _, _ => rfl
  | n :: l, bl, left, sl => by
    rw [eraL]
    unfold fitL
    simp only [era_fitN n, era_fitL l, era_op]
end
theorem era_printT (n : Nd) : printT (era n) = printT n := by unfold printT; rw [era_fitN, era_op, era_progT]
theorem print_era {n m : Nd} (h : era n = era m) : printT n = printT m := by rw [← era_printT n, h, era_printT]
mutual
theorem fit_of : ∀ {n : Nd} {bl left : Int}, okN n → (cnt n : Int) ≤ left → bl + dpN n ≤ 20 → fitN bl left n = some (left - cnt n)
  | .nil, _, _, h, _, _ => h.elim
  | .mk op tx nm l a, bl, left, h, hc, hd => by
    obtain ⟨⟨k, sl, more, m, hf, ht, hm, hn, hs⟩, hcls, h30⟩ := h.1
    simp only [cnt] at hc ⊢
    simp only [dpN] at hd
    unfold fitN
    rw [if_neg (by rintro (g | ⟨g, g2⟩); · omega
                   · have := h30 g; omega), hf]
    dsimp only
    rw [if_neg (by
      rintro (g | g | g | ⟨g, g2⟩)
      · split at g <;> rename_i e5
        · rw [if_pos e5] at hd; omega
        · rw [if_neg e5] at hd; omega
      · rw [ht] at g; cases g
      · omega
      · rcases hn with q | q
        · omega
        · rw [q] at g2; cases g2)]
    rw [fitL_of h.2 (by omega) (by
      split <;> rename_i e5
      · rw [if_pos e5] at hd; omega
      · rw [if_neg e5] at hd; omega) hs]
    dsimp only
    rw [if_pos hcls]
    congr 1; omega
theorem fitL_of : ∀ {l : List Nd} {bl left : Int} {sl : List Int}, okL l → (cntL l : Int) ≤ left → bl + dpL l ≤ 20 → srtL sl l → fitL bl left sl l = some (left - cntL l)
  | [], _, _, _, _, _, _, _ => by unfold fitL; simp [cntL]
  | n :: l, bl, left, sl, h, hc, hd, hs => by
    simp only [cntL] at hc ⊢
    simp only [dpL] at hd
    unfold fitL
    rw [fit_of h.1 (by omega) (by omega)]
    dsimp only
    rw [if_pos hs.1, fitL_of h.2 (by omega) (by omega) hs.2]
    congr 1; omega
end
end
section
open Go Hc Hc.Lex
theorem decL_app (k : Bs) : ∀ (l : Bs) (a : Nat), decL a (l ++ k) = decL (decL a l) k := by
  intro l
  induction l with
  | nil => intro a; rfl
  | cons c l ih => intro a; exact ih _
theorem digit_fin : ∀ i : _root_.Fin 10, (UInt8.ofNat (48 + i.val)).toNat = 48 + i.val := by decide +kernel
theorem digit_of {i : Nat} (h : i < 10) : (UInt8.ofNat (48 + i)).toNat = 48 + i := digit_fin ⟨i, h⟩
theorem dig_facts (u : Nat) : decL 0 (Lib.decDigits u) = u ∧ (∀ c ∈ Lib.decDigits u, digitC c = true) ∧ ∃ c t, Lib.decDigits u = c :: t ∧ (t ≠ [] → c ≠ 48) ∧ (c = 48 → u = 0) := by
  induction u using Nat.strongRecOn with
  | _ u ih =>
    by_cases h : u < 10
    · rw [Lib.decDigits, dif_pos h]
      have hd := digit_of h
      refine ⟨?_, fun c hc => ?_, _, _, rfl, fun e => absurd rfl e, fun e => ?_⟩
      · show 0 * 10 + ((UInt8.ofNat (48 + u)).toNat - 48) = u
        rw [hd]; omega
      · rw [List.mem_singleton.1 hc]
        unfold digitC; rw [hd]; simp; omega
      · have := congrArg UInt8.toNat e
        rw [hd] at this
        have e48 : (48 : UInt8).toNat = 48 := by decide
        rw [e48] at this; omega
    · rw [Lib.decDigits, dif_neg h]
      obtain ⟨h1, h2, c, t, h3, h4, h5⟩ := ih (u / 10) (by omega)
      have hd := digit_of (i := u % 10) (by omega)
      refine ⟨?_, fun c hc => ?_, c, t ++ [UInt8.ofNat (48 + u % 10)], by rw [h3]; rfl, fun _ e => ?_, fun e => ?_⟩
      · rw [decL_app _ _, h1]
        show u / 10 * 10 + ((UInt8.ofNat (48 + u % 10)).toNat - 48) = u
        rw [hd]; omega
      · rcases List.mem_append.1 hc with g | g
        · exact h2 c g
        · rw [List.mem_singleton.1 g]
          unfold digitC; rw [hd]; simp; omega
      · have := h5 e; omega
      · have := h5 e; omega
theorem dec_digits (n : Int) (h : 0 ≤ n) : (decL 0 (digs10 n) : Int) = n := by
  unfold digs10
  rw [(dig_facts n.toNat).1]; omega
end
section
open Go Hc Hc.Lex
abbrev KT := Nat × Txt
def kt (t : Tk) : KT := (t.kind, t.text)
def parK (b : Bool) (l : List KT) : List KT := if b then (3, [40]) :: (l ++ [(3, [41])]) else l
def comK : Bool → List (List KT) → List KT
  | _, [] => []
  | b, t :: ts => (if b then [] else [(3, [44])]) ++ (t ++ comK false ts)
mutual
def exK : Nd → List KT
  | .nil => []
  | .mk op tx nm l _ =>
    if op = 30 then [(2, digs10 nm)]
    else if op = 32 then [(1, tx), (3, [46]), (1, (l.headD .nil).tx)]
    else if op = 33 then (match l with
      | x :: y :: _ => parK (needP (levelI tx) false x) (exK x) ++ ((3, tx) :: parK (needP (levelI tx) true y) (exK y))
      | _ => [])
    else if op = 34 then (match l with
      | x :: _ => (3, tx) :: parK (needP 7 false x) (exK x)
      | _ => [])
    else if op = 35 then (match l with
      | x :: y :: z :: _ => parK (needP 0 false x) (exK x) ++ ((3, [63]) :: (exK y ++ ((3, [58]) :: exK z)))
      | _ => [])
    else if op = 36 then (1, tx) :: (3, [40]) :: (comK true (exKs l) ++ [(3, [41])])
    else if op = 37 then [(1, [104, 97, 115]), (3, [40]), (1, tx), (3, [41])]
    else [(1, tx)]
def exKs : List Nd → List (List KT)
  | [] => []
  | n :: ns => exK n :: exKs ns
end
theorem ek30 (tx : Txt) (nm : Int) (l : List Nd) (a : Int) : exK (.mk 30 tx nm l a) = [(2, digs10 nm)] := by
  conv => lhs; unfold exK
  rfl
theorem ek31 (tx : Txt) (nm : Int) (l : List Nd) (a : Int) : exK (.mk 31 tx nm l a) = [(1, tx)] := by
  conv => lhs; unfold exK
  rfl
theorem ek32 (tx : Txt) (nm : Int) (x : Nd) (a : Int) : exK (.mk 32 tx nm [x] a) = [(1, tx), (3, [46]), (1, x.tx)] := by
  conv => lhs; unfold exK
  rfl
theorem ek33 (tx : Txt) (nm : Int) (x y : Nd) (a : Int) : exK (.mk 33 tx nm [x, y] a) = parK (needP (levelI tx) false x) (exK x) ++ ((3, tx) :: parK (needP (levelI tx) true y) (exK y)) := by
  conv => lhs; unfold exK
  rfl
theorem ek34 (tx : Txt) (nm : Int) (x : Nd) (a : Int) : exK (.mk 34 tx nm [x] a) = (3, tx) :: parK (needP 7 false x) (exK x) := by
  conv => lhs; unfold exK
  rfl
theorem ek35 (tx : Txt) (nm : Int) (x y z : Nd) (a : Int) : exK (.mk 35 tx nm [x, y, z] a) = parK (needP 0 false x) (exK x) ++ ((3, [63]) :: (exK y ++ ((3, [58]) :: exK z))) := by
  conv => lhs; unfold exK
  rfl
theorem ek36 (tx : Txt) (nm : Int) (l : List Nd) (a : Int) : exK (.mk 36 tx nm l a) = (1, tx) :: (3, [40]) :: (comK true (exKs l) ++ [(3, [41])]) := by
  conv => lhs; unfold exK
  rfl
theorem ek37 (tx : Txt) (nm : Int) (l : List Nd) (a : Int) : exK (.mk 37 tx nm l a) = [(1, [104, 97, 115]), (3, [40]), (1, tx), (3, [41])] := by
  conv => lhs; unfold exK
  rfl
theorem ek38 (tx : Txt) (nm : Int) (l : List Nd) (a : Int) : exK (.mk 38 tx nm l a) = [(1, tx)] := by
  conv => lhs; unfold exK
  rfl
structure At (s : PS) (K : List KT) (d m : Int) : Prop where
  t : s.toks.map kt = K
  d : s.deep = d
  m : s.stmts = m
section
variable {s s' : PS} {K R : List KT} {d m : Int} {k : Nat} {w v : Txt}
theorem At.hd (h : At s ((k, w) :: K) d m) : s.hd.kind = k ∧ s.hd.text = w := by
  obtain ⟨l, e, n⟩ := s
  cases l with
  | nil => have := h.t; simp at this
  | cons t l =>
    have := h.t
    simp only [List.map_cons, List.cons.injEq] at this
    have := this.1
    simp only [kt, Prod.mk.injEq] at this
    exact this
theorem At.take (h : At s ((k, w) :: K) d m) : At s.take K d m := by
  obtain ⟨l, e, n⟩ := s
  refine ⟨?_, h.d, h.m⟩
  cases l with
  | nil => have := h.t; simp at this
  | cons t l =>
    have := h.t
    simp only [List.map_cons, List.cons.injEq] at this
    exact this.2
theorem At.next (h : At s ((k, w) :: K) d m) (hk : k = 1 ∨ k = 3) (v : Txt) : nextB v s = (w == v) := by
  unfold nextB
  rw [h.hd.1, h.hd.2]
  rcases hk with rfl | rfl <;> simp
theorem At.next0 (h : At s ((k, w) :: K) d m) (hk : ¬ (k = 1 ∨ k = 3)) (v : Txt) : nextB v s = false := by
  unfold nextB
  rw [h.hd.1]
  have h1 : k ≠ 1 := fun e => hk (.inl e)
  have h3 : k ≠ 3 := fun e => hk (.inr e)
  simp [h1, h3]
theorem At.yes (h : At s ((k, w) :: K) d m) (hk : k = 1 ∨ k = 3) : nextB w s = true := by rw [h.next hk]; simp
theorem At.no (h : At s ((k, w) :: K) d m) (hv : w ≠ v) : nextB v s = false := by
  by_cases hk : k = 1 ∨ k = 3
  · rw [h.next hk]; simpa using hv
  · exact h.next0 hk v
end
def Cp {α : Type} (r : R α) (Q : α → PS → Prop) : Prop := r = none ∨ ∃ a s', r = some (.ok (a, s')) ∧ Q a s'
section
variable {α β : Type} {P Q : α → PS → Prop} {s : PS} {K : List KT} {d m : Int} {k : Nat} {w : Txt}
theorem Cp.bind {A : R α} {F : α → PS → R β} {Q : β → PS → Prop} (h : Cp A P) (hF : ∀ a s, P a s → Cp (F a s) Q) : Cp (A.bind F) Q := by
  rcases h with rfl | ⟨a, s, rfl, h⟩
  · exact .inl rfl
  · exact hF a s h
theorem Cp.ret {a : α} {s : PS} (h : Q a s) : Cp (retP a s) Q := .inr ⟨a, s, rfl, h⟩
theorem Cp.mono {A : R α} (h : Cp A P) (hpq : ∀ a s, P a s → Q a s) : Cp A Q := by
  rcases h with rfl | ⟨a, s, rfl, h⟩
  · exact .inl rfl
  · exact .inr ⟨a, s, rfl, hpq _ _ h⟩
theorem cp_must (h : At s ((k, w) :: K) d m) (hk : k = 1 ∨ k = 3) : Cp (mustP w s) fun t s' => t.text = w ∧ At s' K d m := by
  unfold mustP
  rw [h.yes hk, if_pos rfl]
  exact Cp.ret ⟨h.hd.2, h.take⟩
theorem cp_name (h : At s ((1, w) :: K) d m) (hw : isNameB w = true) : Cp (nameP s) fun t s' => t.text = w ∧ At s' K d m := by
  unfold nameP namedB
  rw [h.hd.1, h.hd.2, hw]
  exact Cp.ret ⟨h.hd.2, h.take⟩
theorem cp_down (h : At s ((k, w) :: K) d m) (hk : k = 1 ∨ k = 3) (hd : d < 20) : Cp (downP w s) fun t s' => t.text = w ∧ At s' K (d + 1) m := by
  unfold downP
  rw [h.yes hk, if_pos rfl, if_neg (by rw [h.d]; omega)]
  exact Cp.ret ⟨h.hd.2, h.take.t, by show s.deep + 1 = d + 1; rw [h.d], h.m⟩
theorem cp_up (h : At s ((k, w) :: K) (d + 1) m) (hk : k = 1 ∨ k = 3) : Cp (upP w s) fun _ s' => At s' K d m := by
  unfold upP
  refine (cp_must h hk).bind fun t s1 ⟨_, h1⟩ => Cp.ret ⟨h1.t, by show s1.deep - 1 = d; rw [h1.d]; omega, h1.m⟩
theorem At.up {s : PS} {K : List KT} {d m : Int} (h : At s K (d + 1) m) : At s.up K d m := ⟨h.t, by show s.deep - 1 = d; rw [h.d]; omega, h.m⟩
end
theorem nm_ne {t c : Txt} (h : isNameB t = true) (hc : isNameB c = false) : t ≠ c := fun e => by rw [e, hc] at h; cases h
def Nx (lv : Nat) (R : List KT) : Prop := ∃ w R', R = (3, w) :: R' ∧ w ≠ [40] ∧ w ≠ [46] ∧ levelI w < (max lv 1 : Nat) ∧ (lv = 0 → w ≠ [63])
theorem Nx.up {lv lv' : Nat} {R : List KT} (h : Nx lv R) (hl : lv ≤ lv') (h0 : lv' ≠ 0) : Nx lv' R := by
  obtain ⟨w, R', e, h1, h2, h3, h4⟩ := h
  exact ⟨w, R', e, h1, h2, by omega, fun e => absurd e h0⟩
theorem nx_end {w : Txt} {R : List KT} (lv : Nat) (h1 : w ≠ [40] := by decide) (h2 : w ≠ [46] := by decide) (h3 : levelI w = 0 := by decide) (h4 : w ≠ [63] := by decide) : Nx lv ((3, w) :: R) :=
  ⟨w, R, rfl, h1, h2, by omega, fun _ => h4⟩
abbrev Ex (n : Nd) (R : List KT) (d m : Int) : Nd → PS → Prop := fun n' s' => era n' = era n ∧ At s' R d m
def CE (n : Nd) (lv : Nat) : Prop := ∀ (f : Nat) (s : PS) (R : List KT) (d m : Int), At s (parK (decide (lvE n < lv)) (exK n) ++ R) d m → Nx lv R → d + pd (decide (lvE n < lv)) + ndN n ≤ 20 → Cp (exP f lv s) (Ex n R d m)
def PBn (n : Nd) (lv : Nat) : Prop := ∀ (f : Nat) (s : PS) (R : List KT) (d m : Int), At s (parK (decide (lvE n < lv)) (exK n) ++ R) d m → Nx (lv + 1) R → d + pd (decide (lvE n < lv)) + ndN n ≤ 20 →
  exP f lv s = none ∨ ∃ f' n' s', era n' = era n ∧ At s' R d m ∧ exP f lv s = binP f' lv n' s'
theorem pb_of {n : Nd} {lv : Nat} (h : CE n (lv + 1)) (h1 : 1 ≤ lv) (h6 : lv ≤ 6) (hne : lvE n ≠ lv) : PBn n lv := by
  intro f s R d m hat hnx hd
  have e : decide (lvE n < lv) = decide (lvE n < lv + 1) := by rw [decide_eq_decide]; omega
  rw [e] at hat hd
  cases f with
  | zero => left; rw [exP]
  | succ f =>
    have hx : exP (f + 1) lv s = (exP f (lv + 1) s).bind fun n s => binP f lv n s := by rw [exP, if_neg (by omega), if_neg (by omega)]
    rcases h f s R d m hat hnx hd with h0 | ⟨n', s', h0, h2, h3⟩
    · left; rw [hx, h0]; rfl
    · right; exact ⟨f, n', s', h2, h3, by rw [hx, h0]; rfl⟩
theorem ce_of {n : Nd} {lv : Nat} (h : PBn n lv) (h1 : 1 ≤ lv) : CE n lv := by
  intro f s R d m hat hnx hd
  rcases h f s R d m hat (hnx.up (by omega) (by omega)) hd with h0 | ⟨f', n', s', h2, h3, h0⟩
  · exact .inl h0
  · rw [h0]
    cases f' with
    | zero => left; rw [binP]
    | succ f' =>
      rw [binP]
      obtain ⟨w, R', rfl, _, _, hw, _⟩ := hnx
      rw [if_neg]
      · exact Cp.ret ⟨h2, h3⟩
      · rintro ⟨_, g⟩
        rw [h3.hd.2] at g; omega
theorem ce_desc {n : Nd} {lv : Nat} (h : CE n (lv + 1)) (h1 : 1 ≤ lv) (h6 : lv ≤ 6) (hne : lvE n ≠ lv) : CE n lv := ce_of (pb_of h h1 h6 hne) h1
theorem ce_zero {n : Nd} (h : CE n 1) (hne : lvE n ≠ 0) : CE n 0 := by
  intro f s R d m hat hnx hd
  have e : decide (lvE n < 0) = decide (lvE n < 1) := by rw [decide_eq_decide]; omega
  rw [e] at hat hd
  cases f with
  | zero => left; rw [exP]
  | succ f =>
    rw [exP, if_pos rfl]
    refine (h f s R d m hat (hnx.up (by omega) (by decide)) hd).bind fun n' s' ⟨h2, h3⟩ => ?_
    obtain ⟨w, R', rfl, _, _, _, hw⟩ := hnx
    rw [h3.no (hw rfl)]
    exact Cp.ret ⟨h2, h3⟩
theorem ce_par {n : Nd} (h : CE n 0) (h7 : lvE n < 7) : CE n 7 := by
  intro f s R d m hat hnx hd
  have e : decide (lvE n < 7) = true := decide_eq_true h7
  rw [e] at hat hd
  have hat : At s ((3, [40]) :: ((exK n ++ [(3, [41])]) ++ R)) d m := hat
  have hd : d + 1 + ndN n ≤ 20 := hd
  cases f with
  | zero => left; rw [exP]
  | succ f =>
    rw [exP, if_neg (by decide), if_pos rfl, hat.no (by decide), hat.no (by decide)]
    show Cp (primP f s) _
    cases f with
    | zero => left; rw [primP]
    | succ f =>
      rw [primP, if_neg (by rw [hat.hd.1]; decide), if_pos (hat.yes (.inr rfl))]
      refine (cp_down hat (.inr rfl) (by omega)).bind fun t s1 ⟨_, h1⟩ => ?_
      rw [List.append_assoc] at h1
      refine (h f s1 ((3, [41]) :: R) (d + 1) m (by simpa [parK] using h1) (nx_end 0) (by simp [pd]; omega)).bind fun n' s2 ⟨h2, h3⟩ => ?_
      exact (cp_up h3 (.inr rfl)).bind fun _ s3 h4 => Cp.ret ⟨h2, h4⟩
theorem ce_prim {n : Nd} (h7 : lvE n = 7) (h : ∀ (f : Nat) (s : PS) (R : List KT) (d m : Int), At s (exK n ++ R) d m → Nx 7 R → d + ndN n ≤ 20 → nextB [45] s = false ∧ nextB [33] s = false ∧ Cp (primP f s) (Ex n R d m)) : CE n 7 := by
  intro f s R d m hat hnx hd
  rw [h7] at hat hd
  have hat : At s (exK n ++ R) d m := by simpa [parK] using hat
  have hd : d + ndN n ≤ 20 := by simp [pd] at hd; omega
  cases f with
  | zero => left; rw [exP]
  | succ f =>
    obtain ⟨h1, h2, h3⟩ := h f s R d m hat hnx hd
    rw [exP, if_neg (by decide), if_pos rfl, h1, h2]
    exact h3
theorem lv_of {op nm a : Int} {tx : Txt} {l : List Nd} (h1 : op ≠ 33) (h2 : op ≠ 35) : lvE (.mk op tx nm l a) = 7 := by
  show (if op = 35 then 0 else if op = 33 then _ else 7) = 7
  rw [if_neg h2, if_neg h1]
theorem ce30 {tx : Txt} {nm a : Int} {l : List Nd} (hk : okN (.mk 30 tx nm l a)) : CE (.mk 30 tx nm l a) 7 := by
  obtain ⟨rfl, h0, rfl⟩ := ok30 hk
  refine ce_prim (lv_of (by decide) (by decide)) fun f s R d m hat hnx hd => ?_
  rw [ek30] at hat
  have hat : At s ((2, digs10 nm) :: R) d m := hat
  refine ⟨hat.next0 (by decide) _, hat.next0 (by decide) _, ?_⟩
  cases f with
  | zero => left; rw [primP]
  | succ f =>
    rw [primP, if_pos hat.hd.1, hat.hd.2]
    refine Cp.ret ⟨?_, hat.take⟩
    rw [dec_digits nm h0]; rfl
theorem prim_name {f : Nat} {s : PS} {tx : Txt} {R : List KT} {d m : Int} (hat : At s ((1, tx) :: R) d m) (hn : isNameB tx = true) :
    nextB [45] s = false ∧ nextB [33] s = false ∧ primP (f + 1) s = (nameP s).bind fun t s => if nextB [40] s then (argsP f s).bind fun l s => retP (texted 36 t l) s
      else if nextB [46] s then (nameP s.take).bind fun u s => retP (texted 32 t [texted 31 u []]) s
      else retP (texted 31 t []) s := by
  refine ⟨hat.no (nm_ne hn (by decide)), hat.no (nm_ne hn (by decide)), ?_⟩
  have hb : builtinL.contains tx = false := by
    rw [← Bool.not_eq_true]
    intro g
    rw [List.contains_iff_mem] at g
    simp only [builtinL, List.mem_cons, List.not_mem_nil, or_false] at g
    rcases g with g | g | g | g | g <;> exact nm_ne hn (by decide) g
  rw [primP, if_neg (by rw [hat.hd.1]; decide), hat.no (nm_ne hn (by decide)), hat.no (v := [104, 97, 115]) (nm_ne hn (by decide)), hat.no (v := [116, 105, 99, 107]) (nm_ne hn (by decide)), hat.no (v := [109, 101]) (nm_ne hn (by decide)), hat.hd.2, hb]
  simp
theorem ce31 {tx : Txt} {nm a : Int} {l : List Nd} (hk : okN (.mk 31 tx nm l a)) (hz : nmN (.mk 31 tx nm l a)) : CE (.mk 31 tx nm l a) 7 := by
  obtain ⟨hn, rfl⟩ := ok31 hk
  have h0 : nm = 0 := by rcases hz.1.2 with g | g; · cases g
                         · exact g
  subst h0
  refine ce_prim (lv_of (by decide) (by decide)) fun f s R d m hat hnx hd => ?_
  rw [ek31] at hat
  have hat : At s ((1, tx) :: R) d m := hat
  obtain ⟨p1, p2, p3⟩ := prim_name (f := f - 1) hat hn
  refine ⟨p1, p2, ?_⟩
  cases f with
  | zero => left; rw [primP]
  | succ f =>
    simp only [Nat.add_sub_cancel] at p3
    rw [p3]
    refine (cp_name hat hn).bind fun t s1 ⟨et, h1⟩ => ?_
    obtain ⟨w, R', rfl, w1, w2, _⟩ := hnx
    rw [h1.no w1, h1.no w2]
    refine Cp.ret ⟨?_, h1⟩
    rw [← et]; rfl
theorem ce32 {tx : Txt} {nm a : Int} {l : List Nd} (hk : okN (.mk 32 tx nm l a)) (hz : nmN (.mk 32 tx nm l a)) : CE (.mk 32 tx nm l a) 7 := by
  obtain ⟨hn, x, rfl, hx, hxo⟩ := ok32 hk
  obtain ⟨op, ux, un, ul, ua, rfl⟩ := hx.op
  have hxo : op = 31 := hxo
  subst hxo
  obtain ⟨hun, rfl⟩ := ok31 hx
  have h0 : nm = 0 := by rcases hz.1.2 with g | g; · cases g
                         · exact g
  have hu0 : un = 0 := by rcases hz.2.1.1.2 with g | g; · cases g
                          · exact g
  subst h0 hu0
  refine ce_prim (lv_of (by decide) (by decide)) fun f s R d m hat hnx hd => ?_
  rw [ek32] at hat
  have hat : At s ((1, tx) :: (3, [46]) :: (1, ux) :: R) d m := hat
  obtain ⟨p1, p2, p3⟩ := prim_name (f := f - 1) hat hn
  refine ⟨p1, p2, ?_⟩
  cases f with
  | zero => left; rw [primP]
  | succ f =>
    simp only [Nat.add_sub_cancel] at p3
    rw [p3]
    refine (cp_name hat hn).bind fun t s1 ⟨et, h1⟩ => ?_
    rw [h1.no (by decide), h1.yes (.inr rfl)]
    refine (cp_name h1.take hun).bind fun u s2 ⟨eu, h2⟩ => Cp.ret ⟨?_, h2⟩
    rw [← et, ← eu]; rfl
theorem ce38 {tx : Txt} {nm a : Int} {l : List Nd} (hk : okN (.mk 38 tx nm l a)) (hz : nmN (.mk 38 tx nm l a)) : CE (.mk 38 tx nm l a) 7 := by
  obtain ⟨hn, rfl⟩ := ok38 hk
  have h0 : nm = 0 := by rcases hz.1.2 with g | g; · cases g
                         · exact g
  subst h0
  refine ce_prim (lv_of (by decide) (by decide)) fun f s R d m hat hnx hd => ?_
  rw [ek38] at hat
  have hat : At s ((1, tx) :: R) d m := hat
  have hne : ∀ c : Txt, c ≠ [116, 105, 99, 107] → c ≠ [109, 101] → tx ≠ c := fun c h1 h2 e => by
    rcases hn with g | g
    · exact h1 (e.symm.trans g)
    · exact h2 (e.symm.trans g)
  refine ⟨hat.no (hne _ (by decide) (by decide)), hat.no (hne _ (by decide) (by decide)), ?_⟩
  cases f with
  | zero => left; rw [primP]
  | succ f =>
    have hb : builtinL.contains tx = false := by rcases hn with rfl | rfl <;> decide
    have ht : (nextB [116, 105, 99, 107] s || nextB [109, 101] s) = true := by
      rw [hat.next (.inl rfl), hat.next (.inl rfl)]
      rcases hn with rfl | rfl <;> decide
    have e1 := hat.no (hne [40] (by decide) (by decide))
    have e2 := hat.no (hne [104, 97, 115] (by decide) (by decide))
    have hkk := hat.hd.1
    have htx := hat.hd.2
    rw [primP, if_neg (by rw [hkk]; decide), if_neg (by rw [e1]; decide), if_neg (by rw [htx, hb]; simp), if_neg (by rw [e2]; decide), if_pos ht]
    refine Cp.ret ⟨?_, hat.take⟩
    show Nd.mk 38 s.hd.text 0 [] 0 = _
    rw [htx]; rfl
theorem ce37 {tx : Txt} {nm a : Int} {l : List Nd} (hk : okN (.mk 37 tx nm l a)) (hz : nmN (.mk 37 tx nm l a)) : CE (.mk 37 tx nm l a) 7 := by
  obtain ⟨hn, rfl⟩ := ok37 hk
  have h0 : nm = 0 := by rcases hz.1.2 with g | g; · cases g
                         · exact g
  subst h0
  refine ce_prim (lv_of (by decide) (by decide)) fun f s R d m hat hnx hd => ?_
  rw [ek37] at hat
  have hat : At s ((1, [104, 97, 115]) :: (3, [40]) :: (1, tx) :: (3, [41]) :: R) d m := hat
  refine ⟨hat.no (by decide), hat.no (by decide), ?_⟩
  cases f with
  | zero => left; rw [primP]
  | succ f =>
    have e1 := hat.no (v := [40]) (by decide)
    have hkk := hat.hd.1
    have htx := hat.hd.2
    rw [primP, if_neg (by rw [hkk]; decide), if_neg (by rw [e1]; decide), if_neg (by rw [htx]; exact fun g => absurd g.2 (by decide)), if_pos (hat.yes (.inl rfl))]
    refine (cp_must hat.take (.inr rfl)).bind fun _ s1 ⟨_, h1⟩ => (cp_name h1 hn).bind fun t s2 ⟨et, h2⟩ => (cp_must h2 (.inr rfl)).bind fun _ s3 ⟨_, h3⟩ => Cp.ret ⟨?_, h3⟩
    rw [← et]; rfl
theorem ce34 {tx : Txt} {nm a : Int} {l : List Nd} (hk : okN (.mk 34 tx nm l a)) (hz : nmN (.mk 34 tx nm l a)) (ih : ∀ x ∈ l, CE x 7) : CE (.mk 34 tx nm l a) 7 := by
  obtain ⟨ht, x, rfl, hx, _⟩ := ok34 hk
  have h0 : nm = 0 := by rcases hz.1.2 with g | g; · cases g
                         · exact g
  subst h0
  have e7 := needP_l (n := x) (lv := 7) (by decide) (by decide)
  rw [show ((7 : Nat) : Int) = 7 from rfl] at e7
  intro f s R d m hat hnx hd
  have hlv : lvE (Nd.mk 34 tx 0 [x] a) = 7 := lv_of (by decide) (by decide)
  rw [hlv, nd34, e7] at hd
  rw [hlv, ek34, e7] at hat
  have hat : At s ((3, tx) :: (parK (decide (lvE x < 7)) (exK x) ++ R)) d m := by simpa [parK] using hat
  have hd : d + 1 + pd (decide (lvE x < 7)) + ndN x ≤ 20 := by simp [pd] at hd ⊢; omega
  have hun : ∀ f, Cp (unP f tx s) (Ex (Nd.mk 34 tx 0 [x] a) R d m) := fun f => by
    cases f with
    | zero => left; rw [unP]
    | succ f =>
      rw [unP]
      refine (cp_down hat (.inr rfl) (by omega)).bind fun t s1 ⟨et, h1⟩ => ?_
      refine (ih x (by simp) f s1 R (d + 1) m h1 hnx hd).bind fun n' s2 ⟨h2, h3⟩ => Cp.ret ⟨?_, h3.up⟩
      simp only [era, eraL, h2, et]
  cases f with
  | zero => left; rw [exP]
  | succ f =>
    rw [exP, if_neg (by decide), if_pos rfl]
    rcases ht with rfl | rfl
    · rw [hat.yes (.inr rfl)]; exact hun f
    · rw [hat.no (by decide), hat.yes (.inr rfl)]; exact hun f
theorem ce35 {tx : Txt} {nm a : Int} {l : List Nd} (hk : okN (.mk 35 tx nm l a)) (hz : nmN (.mk 35 tx nm l a)) (ih : ∀ x ∈ l, ∀ lv ≤ 7, CE x lv) : CE (.mk 35 tx nm l a) 0 := by
  obtain ⟨rfl, x, y, z, rfl, hx, hy, hz', _⟩ := ok35 hk
  have h0 : nm = 0 := by rcases hz.1.2 with g | g; · cases g
                         · exact g
  subst h0
  intro f s R d m hat hnx hd
  have hp : decide (lvE (Nd.mk 35 [] 0 [x, y, z] a) < 0) = false := by simp
  rw [hp, nd35, needP_0 hx] at hd
  rw [hp, ek35, needP_0 hx] at hat
  have hat : At s (parK (decide (lvE x < 1)) (exK x) ++ ((3, [63]) :: (exK y ++ ((3, [58]) :: (exK z ++ R))))) d m := by simpa [parK, List.append_assoc] using hat
  have p0 : pd false = 0 := rfl
  rw [p0] at hd
  cases f with
  | zero => left; rw [exP]
  | succ f =>
    rw [exP, if_pos rfl]
    refine (ih x (by simp) 1 (by decide) f s _ d m hat ⟨[63], _, rfl, by decide, by decide, by decide, fun e => absurd e (by decide)⟩ (by omega)).bind fun x' s1 ⟨hx1, h1⟩ => ?_
    rw [h1.yes (.inr rfl)]
    refine (cp_down h1 (.inr rfl) (by omega)).bind fun t s2 ⟨et, h2⟩ => ?_
    have q : ∀ n : Nd, pd (decide (lvE n < 0)) = 0 := fun n => by simp [pd]
    refine (ih y (by simp) 0 (by decide) f s2 ((3, [58]) :: (exK z ++ R)) (d + 1) m (by simpa [parK] using h2) (nx_end 0) (by rw [q]; omega)).bind fun y' s3 ⟨hy1, h3⟩ => ?_
    refine (cp_must h3 (.inr rfl)).bind fun _ s4 ⟨_, h4⟩ => ?_
    refine (ih z (by simp) 0 (by decide) f s4 R (d + 1) m (by simpa [parK] using h4) hnx (by rw [q]; omega)).bind fun z' s5 ⟨hz1, h5⟩ => Cp.ret ⟨?_, h5.up⟩
    simp only [era, eraL, hx1, hy1, hz1]
theorem pb33 {tx : Txt} {nm a : Int} {l : List Nd} (hk : okN (.mk 33 tx nm l a)) (hz : nmN (.mk 33 tx nm l a)) (ih : ∀ x ∈ l, (∀ lv ≤ 7, CE x lv) ∧ ∀ lv, 1 ≤ lv → lv ≤ 6 → PBn x lv) : PBn (.mk 33 tx nm l a) (lvE (.mk 33 tx nm l a)) := by
  obtain ⟨ht, x, y, rfl, hx, hy, _⟩ := ok33 hk
  have h0 : nm = 0 := by rcases hz.1.2 with g | g; · cases g
                         · exact g
  subst h0
  have hr := level_rng tx
  have hL : lvE (Nd.mk 33 tx 0 [x, y] a) = (levelI tx).toNat := rfl
  obtain ⟨L, hLe⟩ : ∃ L : Nat, levelI tx = (L : Int) := ⟨(levelI tx).toNat, by omega⟩
  have hL2 : (levelI tx).toNat = L := by omega
  rw [hL, hL2]
  intro f s R d m hat hnx hd
  have hp : decide (lvE (Nd.mk 33 tx 0 [x, y] a) < L) = false := by rw [hL, hL2]; simp
  rw [hp, nd33, hLe, needP_l (by omega) (by omega), needP_r (by omega)] at hd
  rw [hp, ek33, hLe, needP_l (by omega) (by omega), needP_r (by omega)] at hat
  have hat : At s (parK (decide (lvE x < L)) (exK x) ++ ((3, tx) :: (parK (decide (lvE y < L + 1)) (exK y) ++ R))) d m := by simpa [parK, List.append_assoc] using hat
  have p0 : pd false = 0 := rfl
  rw [p0] at hd
  have htx : tx ≠ [40] ∧ tx ≠ [46] := ⟨fun e => by rw [e] at ht; revert ht; decide, fun e => by rw [e] at ht; revert ht; decide⟩
  rcases (ih x (by simp)).2 L (by omega) (by omega) f s _ d m hat ⟨tx, _, rfl, htx.1, htx.2, by omega, fun e => by omega⟩ (by omega) with h1 | ⟨f1, x', s1, hx1, h1, e1⟩
  · exact .inl h1
  · rw [e1]
    cases f1 with
    | zero => left; rw [binP]
    | succ f1 =>
      rw [binP, if_pos ⟨h1.hd.1, by rw [h1.hd.2]; exact hLe⟩]
      rcases (ih y (by simp)).1 (L + 1) (by omega) f1 s1.take R d m h1.take hnx (by omega) with h2 | ⟨y', s2, h2, hy1, h3⟩
      · left; rw [h2]; rfl
      · right
        rw [h2]
        refine ⟨f1, _, s2, ?_, h3, rfl⟩
        simp only [era, eraL, hx1, hy1, h1.hd.2]
theorem exK_hd : ∀ {n : Nd}, okN n → isE n → ∃ k w K, exK n = (k, w) :: K ∧ w ≠ [41]
  | .nil, h, _ => h.elim
  | .mk op tx nm l a, h, he => by
    have he : 30 ≤ op ∧ op ≤ 38 := he
    have h9 : op = 30 ∨ op = 31 ∨ op = 32 ∨ op = 33 ∨ op = 34 ∨ op = 35 ∨ op = 36 ∨ op = 37 ∨ op = 38 := by omega
    have nb : ∀ t : Txt, (isNameB t = true ∨ builtinL.contains t = true) → t ≠ [41] := fun t ht e => by rw [e] at ht; revert ht; decide
    rcases h9 with rfl | rfl | rfl | rfl | rfl | rfl | rfl | rfl | rfl
    · rw [ek30]
      refine ⟨_, _, _, rfl, fun e => ?_⟩
      have := (dig_facts nm.toNat).2.1 41 (by show _ ∈ digs10 nm; rw [e]; exact List.mem_singleton.2 rfl)
      revert this; decide
    · rw [ek31]; exact ⟨_, _, _, rfl, nb _ (.inl (ok31 h).1)⟩
    · obtain ⟨hn, x, rfl, _⟩ := ok32 h
      rw [ek32]; exact ⟨_, _, _, rfl, nb _ (.inl hn)⟩
    · obtain ⟨_, x, y, rfl, hx, _, hxe, _⟩ := ok33 h
      rw [ek33]
      obtain ⟨k, w, K, e, hw⟩ := exK_hd hx hxe
      cases hb : needP (levelI tx) false x with
      | true => exact ⟨_, _, _, rfl, by decide⟩
      | false => exact ⟨k, w, _, by rw [parK, if_neg (by decide), e]; rfl, hw⟩
    · obtain ⟨ht, x, rfl, _⟩ := ok34 h
      rw [ek34]
      exact ⟨_, _, _, rfl, by rcases ht with rfl | rfl <;> decide⟩
    · obtain ⟨_, x, y, z, rfl, hx, _, _, hxe, _⟩ := ok35 h
      rw [ek35]
      obtain ⟨k, w, K, e, hw⟩ := exK_hd hx hxe
      cases hb : needP 0 false x with
      | true => exact ⟨_, _, _, rfl, by decide⟩
      | false => exact ⟨k, w, _, by rw [parK, if_neg (by decide), e]; rfl, hw⟩
    · rw [ek36]; exact ⟨_, _, _, rfl, nb _ (ok36 h).1⟩
    · rw [ek37]; exact ⟨_, _, _, rfl, by decide⟩
    · rw [ek38]; exact ⟨_, _, _, rfl, by rcases (ok38 h).1 with rfl | rfl <;> decide⟩
theorem nd_mem : ∀ {l : List Nd} {n : Nd}, n ∈ l → ndN n ≤ ndL l
  | m :: l, n, h => by
    simp only [ndL]
    rcases List.mem_cons.1 h with rfl | h
    · omega
    · have := nd_mem h; omega
theorem cp_argl : ∀ (f : Nat) (l acc : List Nd) (s : PS) (R : List KT) (d m : Int), (∀ x ∈ l, CE x 0) → At s (comK false (exKs l) ++ ((3, [41]) :: R)) d m → d + ndL l ≤ 20 → Cp (argsL f acc s) fun l' s' => eraL l' = eraL acc ++ eraL l ∧ At s' ((3, [41]) :: R) d m
  | 0, _, _, _, _, _, _, _, _, _ => by left; rw [argsL]
  | f + 1, [], acc, s, R, d, m, _, hat, hd => by
    rw [argsL]
    have hat : At s ((3, [41]) :: R) d m := hat
    rw [hat.no (by decide)]
    exact Cp.ret ⟨by simp [eraL], hat⟩
  | f + 1, n :: l, acc, s, R, d, m, hc, hat, hd => by
    rw [argsL]
    have hat : At s ((3, [44]) :: (exK n ++ (comK false (exKs l) ++ ((3, [41]) :: R)))) d m := by simpa [exKs, comK, List.append_assoc] using hat
    rw [hat.yes (.inr rfl)]
    simp only [ndL] at hd
    refine (hc n (by simp) f s.take (comK false (exKs l) ++ ((3, [41]) :: R)) d m (by simpa [parK] using hat.take) ?_ (by simp [pd]; omega)).bind fun n' s1 ⟨e1, h1⟩ => ?_
    · cases l with
      | nil => exact nx_end 0
      | cons n' l => exact nx_end 0
    · refine (cp_argl f l _ s1 R d m (fun x hx => hc x (List.mem_cons_of_mem _ hx)) h1 (by omega)).mono fun l' s' ⟨e2, h2⟩ => ⟨?_, h2⟩
      rw [e2, eraL_app]; simp [eraL, e1]
theorem cp_args (f : Nat) {l : List Nd} {s : PS} {R : List KT} {d m : Int} (hok : ∀ n ∈ l, okN n ∧ isE n) (hc : ∀ x ∈ l, CE x 0) (hat : At s ((3, [40]) :: (comK true (exKs l) ++ ((3, [41]) :: R))) d m) (hd : d + 1 + ndL l ≤ 20) :
    Cp (argsP f s) fun l' s' => eraL l' = eraL l ∧ At s' R d m := by
  cases f with
  | zero => left; rw [argsP]
  | succ f =>
    rw [argsP]
    refine (cp_down hat (.inr rfl) (by omega)).bind fun _ s1 ⟨_, h1⟩ => ?_
    refine Cp.bind (P := fun l' s' => eraL l' = eraL l ∧ At s' ((3, [41]) :: R) (d + 1) m) ?_ fun l' s2 ⟨e2, h2⟩ => (cp_up h2 (.inr rfl)).bind fun _ s3 h3 => Cp.ret ⟨e2, h3⟩
    cases l with
    | nil =>
      have h1 : At s1 ((3, [41]) :: R) (d + 1) m := h1
      rw [h1.yes (.inr rfl)]
      exact Cp.ret ⟨rfl, h1⟩
    | cons n l =>
      have h1 : At s1 (exK n ++ (comK false (exKs l) ++ ((3, [41]) :: R))) (d + 1) m := by simpa [exKs, comK, List.append_assoc] using h1
      obtain ⟨k, w, K, e, hw⟩ := exK_hd (hok n (by simp)).1 (hok n (by simp)).2
      have h1' := h1
      rw [e] at h1'
      rw [h1'.no hw]
      simp only [ndL] at hd
      refine (hc n (by simp) f s1 (comK false (exKs l) ++ ((3, [41]) :: R)) (d + 1) m (by simpa [parK] using h1) ?_ (by simp [pd]; omega)).bind fun n' s2 ⟨e1, h2⟩ => ?_
      · cases l with
        | nil => exact nx_end 0
        | cons n' l => exact nx_end 0
      · refine (cp_argl f l [n'] s2 R (d + 1) m (fun x hx => hc x (List.mem_cons_of_mem _ hx)) h2 (by omega)).mono fun l' s' ⟨e3, h3⟩ => ⟨?_, h3⟩
        rw [e3]; simp [eraL, e1]
theorem ce36 {tx : Txt} {nm a : Int} {l : List Nd} (hk : okN (.mk 36 tx nm l a)) (hz : nmN (.mk 36 tx nm l a)) (ih : ∀ x ∈ l, CE x 0) : CE (.mk 36 tx nm l a) 7 := by
  obtain ⟨hn, hl⟩ := ok36 hk
  have h0 : nm = 0 := by rcases hz.1.2 with g | g; · cases g
                         · exact g
  subst h0
  refine ce_prim (lv_of (by decide) (by decide)) fun f s R d m hat hnx hd => ?_
  rw [ek36] at hat
  rw [ndo _ _ _ _ (by decide) (by decide) (by decide), if_pos (.inl rfl)] at hd
  have hat : At s ((1, tx) :: (3, [40]) :: (comK true (exKs l) ++ ((3, [41]) :: R))) d m := by simpa [List.append_assoc] using hat
  by_cases hb : builtinL.contains tx = true
  · have hne : ∀ c : Txt, builtinL.contains c = false → tx ≠ c := fun c h1 e => by rw [e, h1] at hb; cases hb
    refine ⟨hat.no (hne _ (by decide)), hat.no (hne _ (by decide)), ?_⟩
    cases f with
    | zero => left; rw [primP]
    | succ f =>
      have e1 := hat.no (hne [40] (by decide))
      have hkk := hat.hd.1
      have htx := hat.hd.2
      rw [primP, if_neg (by rw [hkk]; decide), if_neg (by rw [e1]; decide), if_pos ⟨hkk, by rw [htx]; exact hb⟩]
      refine (cp_args f hl ih hat.take (by omega)).bind fun l' s' ⟨e, h1⟩ => Cp.ret ⟨?_, h1⟩
      simp only [era, e, htx]
  · have hn : isNameB tx = true := by
      rcases hn with g | g
      · exact g
      · exact absurd g hb
    obtain ⟨p1, p2, p3⟩ := prim_name (f := f - 1) hat hn
    refine ⟨p1, p2, ?_⟩
    cases f with
    | zero => left; rw [primP]
    | succ f =>
      simp only [Nat.add_sub_cancel] at p3
      rw [p3]
      refine (cp_name hat hn).bind fun t s1 ⟨et, h1⟩ => ?_
      rw [h1.yes (.inr rfl)]
      refine (cp_args f hl ih h1 (by omega)).bind fun l' s' ⟨e, h2⟩ => Cp.ret ⟨?_, h2⟩
      simp only [era, e, et]
theorem lvE_le (n : Nd) : lvE n ≤ 7 := by
  unfold lvE
  have := level_rng n.tx
  split
  · omega
  · split <;> omega
theorem ce_down {n : Nd} : ∀ (k lv : Nat), CE n (lv + k) → 1 ≤ lv → lv + k ≤ 7 → (lvE n < lv ∨ lv + k ≤ lvE n) → CE n lv
  | 0, lv, h, _, _, _ => h
  | k + 1, lv, h, h1, h7, hl => by
    have := ce_down k (lv + 1) (by rw [show lv + 1 + k = lv + (k + 1) by omega]; exact h) (by omega) (by omega) (by omega)
    exact ce_desc this h1 (by omega) (by omega)
theorem ce_all {n : Nd} (h : CE n (lvE n)) (hpb : 1 ≤ lvE n → lvE n ≤ 6 → PBn n (lvE n)) : (∀ lv ≤ 7, CE n lv) ∧ ∀ lv, 1 ≤ lv → lv ≤ 6 → PBn n lv := by
  have h7 := lvE_le n
  have hlow : ∀ lv ≤ lvE n, CE n lv := fun lv hle => by
    have hpos : ∀ lv, 1 ≤ lv → lv ≤ lvE n → CE n lv := fun lv h1 hle => ce_down (lvE n - lv) lv (by rw [show lv + (lvE n - lv) = lvE n by omega]; exact h) h1 (by omega) (by omega)
    by_cases h0 : lv = 0
    · subst h0
      by_cases he : lvE n = 0
      · rw [he] at h; exact h
      · exact ce_zero (hpos 1 (by omega) (by omega)) he
    · exact hpos lv (by omega) hle
  have hce : ∀ lv ≤ 7, CE n lv := fun lv hle => by
    by_cases hl : lv ≤ lvE n
    · exact hlow lv hl
    · have := ce_par (hlow 0 (by omega)) (by omega)
      exact ce_down (7 - lv) lv (by rw [show lv + (7 - lv) = 7 by omega]; exact this) (by omega) (by omega) (by omega)
  refine ⟨hce, fun lv h1 h6 => ?_⟩
  by_cases he : lvE n = lv
  · rw [← he]; exact hpb (by omega) (by omega)
  · exact pb_of (hce (lv + 1) (by omega)) h1 h6 he
theorem ce_main : ∀ (k : Nat) (n : Nd), cnt n ≤ k → okN n → nmN n → isE n → (∀ lv ≤ 7, CE n lv) ∧ ∀ lv, 1 ≤ lv → lv ≤ 6 → PBn n lv
  | 0, n, hc, hk, _, _ => by have := cnt_pos hk; omega
  | k + 1, n, hc, hk, hz, he => by
    obtain ⟨op, tx, nm, l, a, rfl⟩ := hk.op
    simp only [cnt] at hc
    have hcl : ∀ x ∈ l, cnt x ≤ cntL l := by
      intro x hx
      clear hc hk hz he
      induction l with
      | nil => cases hx
      | cons y l ih =>
        simp only [cntL]
        rcases List.mem_cons.1 hx with rfl | hx
        · omega
        · have := ih hx; omega
    have ihx : ∀ x ∈ l, okN x → isE x → (∀ lv ≤ 7, CE x lv) ∧ ∀ lv, 1 ≤ lv → lv ≤ 6 → PBn x lv := fun x hx hkx hex => ce_main k x (by have := hcl x hx; omega) hkx (nmL_all hz.2 x hx) hex
    have he : 30 ≤ op ∧ op ≤ 38 := he
    have h9 : op = 30 ∨ op = 31 ∨ op = 32 ∨ op = 33 ∨ op = 34 ∨ op = 35 ∨ op = 36 ∨ op = 37 ∨ op = 38 := by omega
    have seven : op ≠ 33 → op ≠ 35 → CE (.mk op tx nm l a) 7 → (∀ lv ≤ 7, CE (.mk op tx nm l a) lv) ∧ ∀ lv, 1 ≤ lv → lv ≤ 6 → PBn (.mk op tx nm l a) lv := fun g1 g2 h => by
      have hlv : lvE (.mk op tx nm l a) = 7 := lv_of g1 g2
      exact ce_all (by rw [hlv]; exact h) (fun _ g => by omega)
    rcases h9 with rfl | rfl | rfl | rfl | rfl | rfl | rfl | rfl | rfl
    · exact seven (by decide) (by decide) (ce30 hk)
    · exact seven (by decide) (by decide) (ce31 hk hz)
    · exact seven (by decide) (by decide) (ce32 hk hz)
    · obtain ⟨ht, x, y, hl, hx, hy, hxe, hye⟩ := ok33 hk
      have hpb := pb33 hk hz fun u hu => by
        rw [hl] at hu
        simp only [List.mem_cons, List.not_mem_nil, or_false] at hu
        rcases hu with rfl | rfl
        · exact ihx _ (by rw [hl]; simp) hx hxe
        · exact ihx _ (by rw [hl]; simp) hy hye
      have hr := level_rng tx
      have hlv : lvE (.mk 33 tx nm l a) = (levelI tx).toNat := rfl
      exact ce_all (ce_of hpb (by omega)) fun _ _ => hpb
    · obtain ⟨ht, x, hl, hx, hxe⟩ := ok34 hk
      exact seven (by decide) (by decide) (ce34 hk hz fun u hu => by
        rw [hl] at hu
        simp only [List.mem_singleton] at hu
        subst hu
        exact (ihx _ (by rw [hl]; simp) hx hxe).1 7 (by decide))
    · obtain ⟨ht, x, y, z, hl, hx, hy, hz', hxe, hye, hze⟩ := ok35 hk
      have h0 := ce35 hk hz fun u hu => by
        rw [hl] at hu
        simp only [List.mem_cons, List.not_mem_nil, or_false] at hu
        rcases hu with rfl | rfl | rfl
        · exact (ihx _ (by rw [hl]; simp) hx hxe).1
        · exact (ihx _ (by rw [hl]; simp) hy hye).1
        · exact (ihx _ (by rw [hl]; simp) hz' hze).1
      have hlv : lvE (.mk 35 tx nm l a) = 0 := rfl
      exact ce_all (by rw [hlv]; exact h0) fun g _ => by omega
    · exact seven (by decide) (by decide) (ce36 hk hz fun u hu => (ihx u hu ((ok36 hk).2 u hu).1 ((ok36 hk).2 u hu).2).1 0 (by decide))
    · exact seven (by decide) (by decide) (ce37 hk hz)
    · exact seven (by decide) (by decide) (ce38 hk hz)
theorem cp_ex {n : Nd} (hk : okN n) (hz : nmN n) (he : isE n) {f : Nat} {s : PS} {R : List KT} {d m : Int} (hat : At s (exK n ++ R) d m) (hnx : Nx 0 R) (hd : d + ndN n ≤ 20) : Cp (exP f 0 s) (Ex n R d m) :=
  (ce_main (cnt n) n (Nat.le_refl _) hk hz he).1 0 (by decide) f s R d m (by simpa [parK] using hat) hnx (by simp [pd]; omega)
end
end Go.Proofs.YtfpmgpblhhcpgaaGreatDoor.Hc.Syn
