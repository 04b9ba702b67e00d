/-
  The parser, in plain Lean: statements leave it as deep as it was.
-/
import Derived.Test.YtfpmgpblhhcpgaaGreatDoorC
import Derived.Test.YtfpmgpblhhcpgaaGreatDoorName
import Derived.Tactics
import Derived.Tactics2
import Derived.Defers
import Derived.Recover
import Derived.Laws.Pointers
namespace Go.Proofs.YtfpmgpblhhcpgaaGreatDoor.Hc.Syn
set_option linter.unusedVariables false
set_option linter.unusedSimpArgs false
set_option maxRecDepth 100000
section
open Go Hc Hc.Lex
abbrev Dp (s s' : PS) : Prop := s'.deep = s.deep
theorem Dp.tr {s s1 s2 : PS} (h : Dp s s1) (h2 : Dp s1 s2) : Dp s s2 := h2.trans h
variable {F : Nat}
theorem must_dp {w : Txt} {s s' : PS} {t : Tk} (h : mustP w s = some (.ok (t, s'))) : Dp s s' := by
  obtain ⟨_, _, rfl⟩ := must_ok h; rfl
theorem name_dp {s s' : PS} {t : Tk} (h : nameP s = some (.ok (t, s'))) : Dp s s' := by
  obtain ⟨_, _, rfl⟩ := name_ok h; rfl
theorem ex_dp {f lv : Nat} {s s' : PS} {n : Nd} (h : exP f lv s = some (.ok (n, s'))) : Dp s s' := ((exLv f).ex _ _ _ _ h).1
theorem end_dp {s s' : PS} {n m : Nd} (h : endP n s = some (.ok (m, s'))) : Dp s s' := by
  unfold endP at h
  obtain ⟨_, s1, h1, h⟩ := bind_ok h
  obtain ⟨_, rfl⟩ := ret_ok h
  exact must_dp h1
theorem lim_dp {n m : Int} {s s' : PS} {u : Unit} (h : limitP n m s = some (.ok (u, s'))) : Dp s s' := by
  obtain ⟨_, rfl⟩ := limit_ok h; rfl
theorem partL_dp : ∀ {f : Nat} {l l' : List Nd} {s s' : PS}, partL F f l s = some (.ok (l', s')) → Dp s s'
  | 0, _, _, _, _, h => by simp [partL] at h
  | f + 1, l, l', s, s', h => by
    unfold partL at h
    split at h
    · obtain ⟨_, rfl⟩ := ret_ok h; rfl
    · obtain ⟨_, s1, h1, h⟩ := bind_ok h
      obtain ⟨_, s2, h2, h⟩ := bind_ok h
      obtain ⟨_, s3, h3, h⟩ := bind_ok h
      obtain ⟨_, s4, h4, h⟩ := bind_ok h
      refine ((((name_dp h1).tr (must_dp h2)).tr (ex_dp h3)).tr ?_).tr (partL_dp h)
      split at h4
      · obtain ⟨_, rfl⟩ := ret_ok h4; rfl
      · obtain ⟨_, s5, h5, h4⟩ := bind_ok h4
        split at h4
        · obtain ⟨_, rfl⟩ := ret_ok h4; exact must_dp h5
        · cases h4
theorem part_dp {s s' : PS} {n : Nd} (h : partP F s = some (.ok (n, s'))) : Dp s s' := by
  unfold partP at h
  obtain ⟨_, s1, h1, h⟩ := bind_ok h
  obtain ⟨_, s2, h2, h⟩ := bind_ok h
  obtain ⟨_, _, _, rfl⟩ := down_ok h2
  obtain ⟨_, s3, h3, h⟩ := bind_ok h
  obtain ⟨_, s4, h4, h⟩ := bind_ok h
  obtain ⟨_, rfl⟩ := up_ok h4
  obtain ⟨_, rfl⟩ := ret_ok h
  have e1 := name_dp h1
  have e3 : s3.deep = s1.deep + 1 := partL_dp h3
  show s3.deep - 1 = _
  rw [e3]
  have : s1.deep = s.deep := e1
  omega
theorem spawnL_dp : ∀ {f : Nat} {l l' : List Nd} {s s' : PS}, spawnL F f l s = some (.ok (l', s')) → Dp s s'
  | 0, _, _, _, _, h => by simp [spawnL] at h
  | f + 1, l, l', s, s', h => by
    unfold spawnL at h
    split at h
    · obtain ⟨_, s1, h1, h⟩ := bind_ok h
      have := part_dp h1
      exact (show Dp s s1 from this).tr (spawnL_dp h)
    · obtain ⟨_, rfl⟩ := ret_ok h; rfl
theorem simple_dp {s s' : PS} {n : Nd} : (letP F s = some (.ok (n, s')) → Dp s s') ∧ (emitP F s = some (.ok (n, s')) → Dp s s') ∧ (spawnP F s = some (.ok (n, s')) → Dp s s') ∧ (addP F s = some (.ok (n, s')) → Dp s s') ∧ (removeP s = some (.ok (n, s')) → Dp s s') ∧
    (shortP s = some (.ok (n, s')) → Dp s s') ∧ (answerP F s = some (.ok (n, s')) → Dp s s') ∧ (setP F s = some (.ok (n, s')) → Dp s s') := by
  refine ⟨fun h => ?_, fun h => ?_, fun h => ?_, fun h => ?_, fun h => ?_, fun h => ?_, fun h => ?_, fun h => ?_⟩
  · unfold letP at h
    obtain ⟨_, s1, h1, h⟩ := bind_ok h
    obtain ⟨_, s2, h2, h⟩ := bind_ok h
    obtain ⟨_, s3, h3, h⟩ := bind_ok h
    have := name_dp h1
    exact (((show Dp s s1 from this).tr (must_dp h2)).tr (ex_dp h3)).tr (end_dp h)
  · unfold emitP at h
    obtain ⟨_, s1, h1, h⟩ := bind_ok h
    obtain ⟨_, s2, h2, h⟩ := bind_ok h
    obtain ⟨_, s3, h3, h⟩ := bind_ok h
    have := ex_dp h1
    exact (((show Dp s s1 from this).tr (must_dp h2)).tr (ex_dp h3)).tr (end_dp h)
  · unfold spawnP at h
    split at h
    · obtain ⟨_, rfl⟩ := ret_ok h; rfl
    · obtain ⟨_, s1, h1, h⟩ := bind_ok h
      obtain ⟨_, s2, h2, h⟩ := bind_ok h
      have := part_dp h1
      exact ((show Dp s s1 from this).tr (spawnL_dp h2)).tr (end_dp h)
  · unfold addP at h
    obtain ⟨_, s1, h1, h⟩ := bind_ok h
    have := part_dp h1
    exact (show Dp s s1 from this).tr (end_dp h)
  · unfold removeP at h
    obtain ⟨_, s1, h1, h⟩ := bind_ok h
    have := name_dp h1
    exact (show Dp s s1 from this).tr (end_dp h)
  · unfold shortP at h
    have := end_dp h
    exact this
  · unfold answerP at h
    obtain ⟨_, s1, h1, h⟩ := bind_ok h
    have := ex_dp h1
    exact (show Dp s s1 from this).tr (end_dp h)
  · unfold setP at h
    split at h
    · obtain ⟨_, s1, h1, h⟩ := bind_ok h
      obtain ⟨_, s2, h2, h⟩ := bind_ok h
      obtain ⟨_, s3, h3, h⟩ := bind_ok h
      have := name_dp h1
      exact (((show Dp s s1 from this).tr (must_dp h2)).tr (ex_dp h3)).tr (end_dp h)
    · obtain ⟨_, s2, h2, h⟩ := bind_ok h
      obtain ⟨_, s3, h3, h⟩ := bind_ok h
      have := must_dp h2
      exact ((show Dp s s2 from this).tr (ex_dp h3)).tr (end_dp h)
structure StDp (F f : Nat) : Prop where
  block : ∀ s n s', blockP F f s = some (.ok (n, s')) → Dp s s'
  stmts : ∀ l s l' s', stmtsL F f l s = some (.ok (l', s')) → Dp s s'
  stmt : ∀ s n s', stmtP F f s = some (.ok (n, s')) → Dp s s'
  branch : ∀ s n s', branchP F f s = some (.ok (n, s')) → Dp s s'
  turns : ∀ s n s', turnsP F f s = some (.ok (n, s')) → Dp s s'
theorem stDp : ∀ f, StDp F f
  | 0 => ⟨fun _ _ _ h => by simp [blockP] at h, fun _ _ _ _ h => by simp [stmtsL] at h, fun _ _ _ h => by simp [stmtP] at h, fun _ _ _ h => by simp [branchP] at h, fun _ _ _ h => by simp [turnsP] at h⟩
  | f + 1 => by
    have ih := stDp f
    refine ⟨fun s n s' h => ?_, fun l s l' s' h => ?_, fun s n s' h => ?_, fun s n s' h => ?_, fun s n s' h => ?_⟩
    · unfold blockP at h
      obtain ⟨_, s2, h2, h⟩ := bind_ok h
      obtain ⟨_, _, _, rfl⟩ := down_ok h2
      obtain ⟨_, s3, h3, h⟩ := bind_ok h
      obtain ⟨_, s4, h4, h⟩ := bind_ok h
      obtain ⟨_, rfl⟩ := up_ok h4
      obtain ⟨_, rfl⟩ := ret_ok h
      have e3 : s3.deep = s.deep + 1 := ih.stmts _ _ _ _ h3
      show s3.deep - 1 = _
      omega
    · unfold stmtsL at h
      split at h
      · obtain ⟨_, rfl⟩ := ret_ok h; rfl
      · obtain ⟨_, s1, h1, h⟩ := bind_ok h
        exact (ih.stmt _ _ _ h1).tr (ih.stmts _ _ _ _ h)
    · unfold stmtP at h
      split at h
      · cases h
      · obtain ⟨_, s1, h1, h⟩ := bind_ok h
        have e := lim_dp h1
        have sm := fun s2 s3 m => simple_dp (F := F) (s := s2) (s' := s3) (n := m)
        have key : Dp s1.more s' := by
          split at h
          · exact (sm _ _ _).1 h
          · exact ih.branch _ _ _ h
          · exact ih.turns _ _ _ h
          · exact (sm _ _ _).2.1 h
          · exact (sm _ _ _).2.2.1 h
          · exact (sm _ _ _).2.2.2.1 h
          · exact (simple_dp (F := F)).2.2.2.2.1 h
          · exact (simple_dp (F := F)).2.2.2.2.2.1 h
          · exact (sm _ _ _).2.2.2.2.2.2.1 h
          · exact (sm _ _ _).2.2.2.2.2.2.2 h
        exact e.tr key
    · unfold branchP at h
      obtain ⟨_, s1, h1, h⟩ := bind_ok h
      obtain ⟨_, s2, h2, h⟩ := bind_ok h
      have e1 := ex_dp h1
      have e2 : Dp s s2 := (show Dp s s1 from e1).tr (ih.block _ _ _ h2)
      split at h
      · split at h
        · obtain ⟨_, s3, h3, h⟩ := bind_ok h
          obtain ⟨_, s4, h4, h⟩ := bind_ok h
          obtain ⟨_, rfl⟩ := ret_ok h
          have e3 := lim_dp h3
          have e4 := ih.branch _ _ _ h4
          exact (e2.tr (show Dp s2 s3 from e3)).tr (show Dp s3 _ from e4)
        · obtain ⟨_, s4, h4, h⟩ := bind_ok h
          obtain ⟨_, rfl⟩ := ret_ok h
          have e4 := ih.block _ _ _ h4
          exact e2.tr (show Dp s2 _ from e4)
      · obtain ⟨_, rfl⟩ := ret_ok h; exact e2
    · unfold turnsP at h
      obtain ⟨_, s1, h1, h⟩ := bind_ok h
      obtain ⟨_, s2, h2, h⟩ := bind_ok h
      obtain ⟨_, rfl⟩ := ret_ok h
      have e1 := ex_dp h1
      exact (show Dp s s1 from e1).tr (ih.block _ _ _ h2)
end
end Go.Proofs.YtfpmgpblhhcpgaaGreatDoor.Hc.Syn
namespace Go.Proofs.YtfpmgpblhhcpgaaGreatDoor
set_option linter.unusedVariables false
set_option linter.unusedSimpArgs false
set_option maxRecDepth 100000
section
open Hc Hc.Lex Hc.Syn
variable {H : Heap} {F : Nat}
abbrev fnV (n : Nat) : Value := if n = 0 then .nilFunc else .func (.func n) #[] #[]
theorem p_starts {w : Txt} {k : Value → Heap → Prop} (hk0 : k (fnV (startsN w)) H) : CallT Pg fQay [.string ⟨⟨w⟩⟩] (.one (.c .raw)) H k := by
  refine cQa7 _ ?_
  unfold vQa7
  have hk : ∀ n, startsN w = n → k (fnV n) H := fun n e => e ▸ hk0
  clear hk0
  simp only [Jn, beq_bs]
  repeat' refine Br_dec (fun _ => ?_) fun _ => ?_
  · exact hk 161 (by simp_all [startsN])
  · exact hk 162 (by simp_all [startsN])
  · exact (Br_true _ _).2 (hk 163 (by simp_all [startsN]))
  · exact hk 163 (by simp_all [startsN])
  · exact hk 164 (by simp_all [startsN])
  · exact hk 165 (by simp_all [startsN])
  · exact hk 166 (by simp_all [startsN])
  · exact hk 167 (by simp_all [startsN])
  · exact (Br_true _ _).2 (hk 168 (by simp_all [startsN]))
  · exact hk 168 (by simp_all [startsN])
  · exact hk 169 (by simp_all [startsN])
  · exact hk 0 (by simp_all [startsN])
theorem FnNil_mk {n : Nat} {k : Bool → Prop} (hk : k (decide (n = 0))) : FnNil (fnV n) k := by
  by_cases h : n = 0
  · rw [decide_eq_true h] at hk
    exact .inl ⟨if_pos h, hk⟩
  · rw [decide_eq_false h] at hk
    exact .inr ⟨⟨.func n, #[], #[], if_neg h⟩, hk⟩
theorem CallXE_mk {n : Nat} (h : n ≠ 0) {b : Nat} {r : RTy} {kp : Value → Heap → Prop} {k : r.den → Heap → Prop} (hc : CallE Pg n [pA b] r H kp k) : CallXE Pg (fnV n) [pA b] r H kp k :=
  ⟨n, #[], #[], if_neg h, by simpa using hc⟩
structure WkS (F f : Nat) : Prop where
  block : ∀ {H : Heap} {b tb : Nat} {s : PS}, PR H b tb s → Wk fQak [pA b] (.one (.c .ptr)) b tb H (blockP F f s) (NdO H)
  stmt : ∀ {H : Heap} {b tb : Nat} {s : PS}, PR H b tb s → Wk fQas [pA b] (.one (.c .ptr)) b tb H (stmtP F f s) (NdO H)
  branch : ∀ {H : Heap} {b tb : Nat} {s : PS}, PR H b tb s → s.hd.kind ≠ 0 → Wk fQa1 [pA b] (.one (.c .ptr)) b tb H (branchP F f s) (NdO H)
  turns : ∀ {H : Heap} {b tb : Nat} {s : PS}, PR H b tb s → s.hd.kind ≠ 0 → Wk fQa2 [pA b] (.one (.c .ptr)) b tb H (turnsP F f s) (NdO H)
theorem s_starts_of {w : Txt} : startsN w = 0 ∨ startsN w = 161 ∨ startsN w = 162 ∨ startsN w = 163 ∨ startsN w = 164 ∨ startsN w = 165 ∨ startsN w = 166 ∨ startsN w = 167 ∨ startsN w = 168 ∨ startsN w = 169 := by
  unfold startsN
  repeat' split
  all_goals omega
theorem s_more {b tb : Nat} {s : PS} (h : PR H b tb s) (hd : s.stmts ≠ 200) {k : Heap → Prop} (hk : ∀ H', Upd (· = b) H H' → PR H' b tb s.more → k H') :
    Ld (.int .i64) ⟨b, 2, none⟩ H fun x1 => Lt (IntKind.wrap .i64 (x1 + 1)) fun t1 => St ⟨b, 2, none⟩ (.int .i64 t1) H k := by
  obtain ⟨sl, q1, _⟩ := h.row
  have hst := h.st
  exact Ld_int ((q1.cell 2).trans rfl) (Lt.mk (u := s.stmts + 1) (by rw [wrap_i64_id] <;> omega) (h.poke (s' := s.more) rfl (fun _ => rfl) (by decide) h.dp ⟨by dsimp only [PS.more]; omega, by dsimp only [PS.more]; omega⟩ hk))
theorem st_stmt (hF : F ≤ 2 ^ 30) {f : Nat} (ih : WkS F f) {b tb : Nat} {s : PS} (h : PR H b tb s) : Wk fQas [pA b] (.one (.c .ptr)) b tb H (stmtP F (f + 1) s) (NdO H) := by
  intro kp k he hk
  refine cQap _ ?_
  unfold vQap
  have hlb := h.lt
  have htb := h.tlt.1
  generalize hres : stmtP F (f + 1) s = res at *
  unfold stmtP at hres
  simp only [adr_add, NilCk_some]
  obtain ⟨sl, h1, h2⟩ := h.rd
  refine Ld_sl h1 (h2 fun a ha => Ld_str (tok_rd ha).2.1 (p_starts ?_))
  generalize hn : startsN s.hd.text = n at *
  refine Jn.mk (fun j H' => Ext H H' ∧ j = decide (s.hd.kind ≠ 1 ∨ (n = 0 ∧ namedB s = false))) (fun kk hkk => ?_) ?_
  · refine Ld_sl h1 (h2 fun a ha => Ld_int (tok_rd ha).1 (Br.mk (fun e1 => hkk _ _ ⟨.refl _ _, ?_⟩) fun e1 => FnNil_mk (Br_dec (fun e2 => s_named h fun H2 hE2 => hkk _ _ ⟨hE2, ?_⟩) fun e2 => hkk _ _ ⟨.refl _ _, ?_⟩)))
    · have e1 : ((s.hd.kind : Nat) : Int) ≠ 1 := by simpa using e1
      exact (decide_eq_true (.inl (by omega))).symm
    · have e1 : ((s.hd.kind : Nat) : Int) = 1 := by simpa using e1
      cases hb : namedB s with
      | true => exact (decide_eq_false (by rintro (g | ⟨_, g⟩); omega; cases g)).symm
      | false => exact (decide_eq_true (.inr ⟨e2, rfl⟩)).symm
    · have e1 : ((s.hd.kind : Nat) : Int) = 1 := by simpa using e1
      exact (decide_eq_false (by rintro (g | ⟨g, _⟩); omega; exact e2 g)).symm
  rintro _ H2 ⟨hE2, rfl⟩
  have h2 := h.ext hE2
  have he2 : EP b H2 res kp := he.mv (ExU hE2)
  refine Jn.mk (fun _ H' => H2 = H' ∧ ¬ (s.hd.kind ≠ 1 ∨ (n = 0 ∧ namedB s = false))) (fun kk hkk => Br_dec (fun e => ?_) fun e => hkk _ _ ⟨rfl, e⟩) ?_
  · rw [if_pos e] at hres
    exact s_wrong h2 (he2.to hres.symm)
  rintro _ _ ⟨rfl, e⟩
  rw [if_neg e] at hres
  have hk1 : s.hd.kind ≠ 0 := fun g => e (.inl (by omega))
  obtain ⟨sl2, q1, _⟩ := h2.row
  refine Ld_int ((q1.cell 2).trans rfl) ((w_limit h2 s.stmts 200).st he (ExU hE2) hres.symm fun d H3 u s3 e3 ha hB3 hU3 h3 eH => ?_)
  subst eH
  obtain ⟨h200, es⟩ := limit_ok ha
  have es := es.symm
  subst es
  refine s_more h3 h200 fun H4 hU4 h4 => ?_
  have hB4 := upU hB3 hU4
  have hk4 : s.more.hd.kind ≠ 0 := hk1
  have fin : ∀ {A : R Nd} {g : FuncId}, res = A → Wk g [pA b] (.one (.c .ptr)) b tb H4 A (NdO H4) → CallE Pg g [pA b] (.one (.c .ptr)) H4 kp fun r5 H8 => k r5 H8 := fun e w =>
    w.st he hB4 (e.trans (bind_ret _)) fun d H9 n9 s9 e9 ha hB9 hU9 h9 ⟨q, eq, g1, o⟩ => hk _ H9 _ s9 e9 hB9 h9 ⟨q, eq, by have := hB4.size; omega, o.mono hB4.size⟩
  refine FnNil_mk ?_
  have nn : n = 0 ∨ n = 161 ∨ n = 162 ∨ n = 163 ∨ n = 164 ∨ n = 165 ∨ n = 166 ∨ n = 167 ∨ n = 168 ∨ n = 169 := hn ▸ s_starts_of
  rcases nn with rfl | rfl | rfl | rfl | rfl | rfl | rfl | rfl | rfl | rfl <;> simp only [hn] at e3
  · exact (Br_false _ _).2 (fin e3 (st_set hF h4 hk4))
  · exact (Br_true _ _).2 (CallXE_mk (by decide) (fin e3 (st_let hF h4 hk4)))
  · exact (Br_true _ _).2 (CallXE_mk (by decide) (fin e3 (ih.branch h4 hk4)))
  · exact (Br_true _ _).2 (CallXE_mk (by decide) (fin e3 (ih.turns h4 hk4)))
  · exact (Br_true _ _).2 (CallXE_mk (by decide) (fin e3 (st_emit hF h4 hk4)))
  · exact (Br_true _ _).2 (CallXE_mk (by decide) (fin e3 (st_spawn hF h4 hk4)))
  · exact (Br_true _ _).2 (CallXE_mk (by decide) (fin e3 (st_add hF h4 hk4)))
  · exact (Br_true _ _).2 (CallXE_mk (by decide) (fin e3 (st_remove h4 hk4)))
  · exact (Br_true _ _).2 (CallXE_mk (by decide) (fin e3 (st_short h4 hk4)))
  · exact (Br_true _ _).2 (CallXE_mk (by decide) (fin e3 (st_answer hF h4 hk4)))
theorem st_turns (hF : F ≤ 2 ^ 30) {f : Nat} (ih : WkS F f) {b tb : Nat} {s : PS} (h : PR H b tb s) (h0 : s.hd.kind ≠ 0) : Wk fQa2 [pA b] (.one (.c .ptr)) b tb H (turnsP F (f + 1) s) (NdO H) := by
  intro kp k he hk
  refine cQau _ ?_
  unfold vQau
  have hlb := h.lt
  have htb := h.tlt.1
  generalize hres : turnsP F (f + 1) s = res at *
  unfold turnsP at hres
  refine s_next h fun H1 hE1 => Jn.mk (fun j H' => H1 = H' ∧ j = if nextB [119, 104, 105, 108, 101] s then (14 : Int) else 15) (fun kk hkk => by cases hn : nextB [119, 104, 105, 108, 101] s <;> exact hkk _ _ ⟨rfl, by rw [hn]; rfl⟩) ?_
  rintro j _ ⟨rfl, rfl⟩
  refine s_take (h.ext hE1) h0 fun H2 hU2 h2 => ?_
  have hB2 := upU (ExU hE1) hU2
  refine s_node (t := s.hd) (L := ⟨none, 0, 0⟩) (lo := H.size) lfO hB2.size fun H3 q hE3 hq o3 => ?_
  have hB3 := upE hB2 hE3
  have hs3 := hB3.size
  simp only [NilCk_some, adr_add]
  refine ((wkE F hF).ex (h2.ext hE3)).st he hB3 hres.symm fun d H4 n s4 e ha hB4 hU4 h4 ⟨q4, e4, g4, o4⟩ => ?_
  subst e4
  refine (ih.block h4).st he hB4 e fun d H6 m s6 e ha hB6 hU6 h6 ⟨q6, e6, g6, o6⟩ => ?_
  subst e6
  refine give_lit (qs := [some q4, some q6]) hB6 hlb htb o3 hs3 (upU hU4 hU6) h6 ((OwnT.one o4).more hU6 (by omega) hU4.size o6) rfl fun H8 hB8 h8 o8 => ?_
  exact hk _ H8 _ _ e hB8 h8 ⟨q, rfl, own_ge o8, o8⟩
theorem st_branch (hF : F ≤ 2 ^ 30) {f : Nat} (ih : WkS F f) {b tb : Nat} {s : PS} (h : PR H b tb s) (h0 : s.hd.kind ≠ 0) : Wk fQa1 [pA b] (.one (.c .ptr)) b tb H (branchP F (f + 1) s) (NdO H) := by
  intro kp k he hk
  refine cQat _ ?_
  unfold vQat
  have hlb := h.lt
  have htb := h.tlt.1
  generalize hres : branchP F (f + 1) s = res at *
  unfold branchP at hres
  refine s_take h h0 fun H2 hU2 h2 => ?_
  refine s_node (t := s.hd) (L := ⟨none, 0, 0⟩) (lo := H.size) lfO hU2.size fun H3 q hE3 hq o3 => ?_
  have hB3 := upE hU2 hE3
  have hs3 := hB3.size
  simp only [NilCk_some, adr_add]
  refine ((wkE F hF).ex (h2.ext hE3)).st he hB3 hres.symm fun d H4 n s4 e ha hB4 hU4 h4 ⟨q4, e4, g4, o4⟩ => ?_
  subst e4
  refine (ih.block h4).st he hB4 e fun d H6 m s6 e ha hB6 hU6 h6 ⟨q6, e6, g6, o6⟩ => ?_
  subst e6
  refine give_lit (qs := [some q4, some q6]) hB6 hlb htb o3 hs3 (upU hU4 hU6) h6 ((OwnT.one o4).more hU6 (by omega) hU4.size o6) rfl fun H8 hB8 h8 o8 => ?_
  refine s_may h8 [101, 108, 115, 101] fun H9 hU9 h9 => ?_
  have hB9 := upU hB8 hU9
  have o9 := o8.mv hU9 hlb
  cases hn : nextB [101, 108, 115, 101] s6 with
  | false =>
    rw [hn, if_neg (by decide)] at e h9
    exact (Br_true _ _).2 (hk _ H9 _ _ e hB9 h9 ⟨q, rfl, own_ge o9, o9⟩)
  | true =>
  rw [hn, if_pos rfl] at e h9
  refine (Br_false _ _).2 (s_next h9 fun H10 hE10 => ?_)
  have hB10 := upE hB9 hE10
  have h10 := h9.ext hE10
  have o10 := o9.mv (ExU (b := b) hE10) hlb
  refine Jn.mk (fun _ H11 => ∃ x s11, res = some (.ok (node 13 s.hd [n, m, x], s11)) ∧ Upd (· = b) H H11 ∧ PR H11 b tb s11 ∧ Ow H.size H11 (node 13 s.hd [n, m, x]) q) (fun kk hkk => ?_) ?_
  rotate_left
  · rintro _ H11 ⟨x, s11, e11, hB11, h11, o11⟩
    exact hk _ H11 _ _ e11 hB11 h11 ⟨q, rfl, own_ge o11, o11⟩
  cases hi : nextB [105, 102] s6.take with
  | true =>
    rw [hi, if_pos rfl] at e
    obtain ⟨sl2, q1, _⟩ := h10.row
    refine (Br_true _ _).2 (Ld_int ((q1.cell 2).trans rfl) ((w_limit h10 s6.take.stmts 200).st he hB10 e fun d H11 u s11 e ha hB11 hU11 h11 eH => ?_))
    subst eH
    obtain ⟨h200, es⟩ := limit_ok ha
    have es := es.symm
    subst es
    refine s_more h11 h200 fun H12 hU12 h12 => ?_
    refine add_child (upU hB11 hU12) hlb htb (o10.mv hU12 hlb) (by show 2 ≤ _; decide) (ih.branch h12 (next_kind hi)) he e fun x s13 H13 e _ hB13 h13 o13 => ?_
    exact hkk _ _ ⟨x, s13, e, hB13, h13, o13⟩
  | false =>
    rw [hi, if_neg (by decide)] at e
    refine (Br_false _ _).2 (add_child hB10 hlb htb o10 (by show 2 ≤ _; decide) (ih.block h10) he e fun x s13 H13 e _ hB13 h13 o13 => ?_)
    exact hkk _ _ ⟨x, s13, e, hB13, h13, o13⟩
theorem st_block {f : Nat} (hf : f ≤ 2 ^ 30) (ihs : ∀ g, g ≤ f → WkS F g) {b tb : Nat} {s : PS} (h : PR H b tb s) : Wk fQak [pA b] (.one (.c .ptr)) b tb H (blockP F (f + 1) s) (NdO H) := by
  intro kp k he hk
  refine cQao _ ?_
  unfold vQao
  have hlb := h.lt
  have htb := h.tlt.1
  generalize hres : blockP F (f + 1) s = res at *
  unfold blockP at hres
  refine (w_down h [123]).st he (.refl _ _) hres.symm fun d H1 t s1 e ha hB1 hU1 h1 et => ?_
  subst et
  obtain ⟨_, _, _, e1⟩ := down_ok ha
  have hd1 : s1.deep = s.deep + 1 := by rw [e1]
  have hdp := h.dp
  refine s_node (t := t) (L := ⟨none, 0, 0⟩) (lo := H.size) lfO hB1.size fun H2 q hE2 hq o2 => ?_
  have hB2 := upE hB1 hE2
  simp only [NilCk_some, adr_add]
  refine LoopT.ghost (fun m _ H' => ∃ l s', m ≤ f ∧ l.length + m ≤ f ∧ s'.deep = s.deep + 1 ∧ Upd (· = b) H H' ∧ PR H' b tb s' ∧ Ow H.size H' (node 5 t l) q ∧ res = (stmtsL F m l s').bind fun l s => (upP [125] s).bind fun _ s => retP (node 5 t l) s) f ⟨[], s1, Nat.le_refl _, by simp, hd1, hB2, h1.ext hE2, o2, e⟩ ?_
  rintro next m _ H4 ⟨l, s', hm, hl, hd, hB4, h4, o4, e4⟩ hnext
  cases m with
  | zero => exact absurd e4 (by unfold stmtsL; exact he.ne)
  | succ m =>
  unfold stmtsL at e4
  refine s_next h4 fun H5 hE5 => ?_
  have h5 := h4.ext hE5
  have hB5 := upE hB4 hE5
  have o5 := o4.mv (ExU (b := b) hE5) hlb
  cases hn : nextB [125] s' with
  | true =>
    rw [hn, if_pos rfl] at e4
    refine (Br_false _ _).2 ((w_up h5 (by omega) [125]).st he hB5 e4 fun d H22 u s22 e ha hB22 hU22 h22 _ => ?_)
    exact hk _ H22 _ s22 e hB22 h22 ⟨q, rfl, own_ge o5, o5.mv hU22 hlb⟩
  | false =>
    rw [hn, if_neg (by decide), bind_assoc] at e4
    refine (Br_true _ _).2 (add_child hB5 hlb htb o5 (by omega) ((ihs m (by omega)).stmt h5) he e4 fun n s7 H7 e ha hB7 h7 o7 => hnext m _ _ (by omega) ⟨_, s7, by omega, by simp; omega, ((stDp m).stmt _ _ _ ha).trans hd, hB7, h7, o7, e⟩)
theorem wkS (hF : F ≤ 2 ^ 30) : ∀ f, f ≤ 2 ^ 30 → WkS F f := by
  intro f
  induction f using Nat.strongRecOn with
  | _ f ih =>
    intro hf
    cases f with
    | zero => exact ⟨fun h kp k he => absurd (by unfold blockP; rfl) he.ne, fun h kp k he => absurd (by unfold stmtP; rfl) he.ne, fun h _ kp k he => absurd (by unfold branchP; rfl) he.ne, fun h _ kp k he => absurd (by unfold turnsP; rfl) he.ne⟩
    | succ f =>
      have ihs : ∀ g, g ≤ f → WkS F g := fun g hg => ih g (by omega) (by omega)
      exact ⟨fun h => st_block (by omega) ihs h, fun h => st_stmt hF (ihs f (Nat.le_refl _)) h, fun h h0 => st_branch hF (ihs f (Nat.le_refl _)) h h0, fun h h0 => st_turns hF (ihs f (Nat.le_refl _)) h h0⟩
end
end Go.Proofs.YtfpmgpblhhcpgaaGreatDoor
namespace Go.Proofs.YtfpmgpblhhcpgaaGreatDoor.Hc.Syn
set_option linter.unusedVariables false
set_option linter.unusedSimpArgs false
set_option maxRecDepth 100000
section
open Go Hc Hc.Lex
variable {TN TP : TypeId} {H H' : Heap} {lo mid : Nat} {A : Nat → Prop}
theorem TrL.at' {n : Nd} {ys : List Nd} : ∀ {xs : List Nd} {qs : List (Option Nat)} {fp : List Nat}, TrL TN TP H (xs ++ n :: ys) qs fp → ∃ qx q qy fx f fy, qs = qx ++ q :: qy ∧ qx.length = xs.length ∧ fp = fx ++ (f ++ fy) ∧ TrL TN TP H xs qx fx ∧ TrR TN TP H n q f ∧ TrL TN TP H ys qy fy
  | [], _, _, ⟨q, qs', f1, f2, e1, e2, h1, h2⟩ => ⟨[], q, qs', [], f1, f2, e1, rfl, e2, ⟨rfl, rfl⟩, h1, h2⟩
  | m :: xs, _, _, ⟨q, qs', f1, f2, e1, e2, h1, h2⟩ => by
    obtain ⟨qx, q', qy, fx, f, fy, r1, r2, r3, r4, r5, r6⟩ := TrL.at' h2
    exact ⟨q :: qx, q', qy, f1 ++ fx, f, fy, by rw [e1, r1]; rfl, by simp [r2], by rw [e2, r3, List.append_assoc], ⟨q, qx, f1, fx, rfl, rfl, h1, r4⟩, r5, r6⟩
theorem TrL.put {n : Nd} {ys : List Nd} {q : Option Nat} {qy : List (Option Nat)} {f fy : List Nat} (hn : TrR TN TP H n q f) (hy : TrL TN TP H ys qy fy) : ∀ {xs : List Nd} {qx : List (Option Nat)} {fx : List Nat}, TrL TN TP H xs qx fx → TrL TN TP H (xs ++ n :: ys) (qx ++ q :: qy) (fx ++ (f ++ fy))
  | [], _, _, ⟨rfl, rfl⟩ => ⟨q, qy, f, fy, rfl, rfl, hn, hy⟩
  | m :: xs, _, _, ⟨q', qs', f1, f2, e1, e2, h1, h2⟩ => ⟨q', qs' ++ q :: qy, f1, f2 ++ (f ++ fy), by rw [e1]; rfl, by rw [e2, List.append_assoc], h1, TrL.put hn hy h2⟩
structure OwnB (TN TP : TypeId) (A : Nat → Prop) (H : Heap) (op : Int) (tx : Txt) (num : Int) (ns : List Nd) (at' : Int) (b : Nat) (L : Sl) : Prop where
  ex : ∃ qs fl, Row H b TN (ndV op tx num L at') ∧ Vec H TP L (qs.map ptrV) ∧ TrL TN TP H ns qs fl ∧ (b :: (blkL L ++ fl)).Nodup ∧ ∀ x ∈ b :: (blkL L ++ fl), A x
variable {op num at' : Int} {tx : Txt} {ns : List Nd} {b : Nat} {L : Sl}
theorem Own.toB (h : Own TN TP lo H (.mk op tx num ns at') (some b)) : ∃ L, OwnB TN TP (fun x => lo ≤ x ∧ x < H.size) H op tx num ns at' b L := by
  obtain ⟨fp, h0, h2, h3⟩ := h.ex
  have hlt := h0.lt
  obtain ⟨b', L, qs, fl, hb, hr, hv, hl, rfl⟩ := h0
  cases hb
  exact ⟨L, qs, fl, hr, hv, hl, h2, fun x hx => ⟨h3 x hx, hlt x hx⟩⟩
theorem OwnB.own (h : OwnB TN TP A H op tx num ns at' b L) (hA : ∀ x, A x → lo ≤ x) : Own TN TP lo H (.mk op tx num ns at') (some b) := by
  obtain ⟨qs, fl, hr, hv, hl, h2, h3⟩ := h.ex
  exact ⟨_, ⟨b, L, qs, fl, rfl, hr, hv, hl, rfl⟩, h2, fun x hx => hA x (h3 x hx)⟩
theorem OwnB.mono {A' : Nat → Prop} (h : OwnB TN TP A H op tx num ns at' b L) (hA : ∀ x, A x → x < H.size → A' x) : OwnB TN TP A' H op tx num ns at' b L := by
  obtain ⟨qs, fl, hr, hv, hl, h2, h3⟩ := h.ex
  refine ⟨qs, fl, hr, hv, hl, h2, fun x hx => hA x (h3 x hx) ?_⟩
  rcases List.mem_cons.1 hx with rfl | hx
  · exact hr.lt
  · rcases List.mem_append.1 hx with hx | hx
    · exact (vec_blk hv x hx).1
    · exact hl.lt x hx
theorem OwnB.upd {M : Nat → Prop} (h : OwnB TN TP A H op tx num ns at' b L) (hU : Upd M H H') (hM : ∀ x, A x → x < H.size → ¬ M x) : OwnB TN TP A H' op tx num ns at' b L := by
  obtain ⟨qs, fl, hr, hv, hl, h2, h3⟩ := h.ex
  have hlt : ∀ x ∈ b :: (blkL L ++ fl), x < H.size := fun x hx => by
    rcases List.mem_cons.1 hx with rfl | hx
    · exact hr.lt
    · rcases List.mem_append.1 hx with hx | hx
      · exact (vec_blk hv x hx).1
      · exact hl.lt x hx
  have hm : ∀ x ∈ b :: (blkL L ++ fl), ¬ M x := fun x hx => hM x (h3 x hx) (hlt x hx)
  exact ⟨qs, fl, hU.row hr (hm b (by simp)), hv.upd hU fun c hc => hm c (by unfold blkL; rw [hc]; simp), hl.upd hU fun x hx => hm x (by simp [hx]), h2, h3⟩
theorem OwnB.len (h : OwnB TN TP A H op tx num ns at' b L) : L.len = ns.length := by
  obtain ⟨qs, fl, _, hv, hl, _, _⟩ := h.ex
  rw [hv.len, List.length_map, hl.len]
theorem OwnB.sl (h : OwnB TN TP A H op tx num ns at' b L) : hcell H ⟨b, 3, none⟩ = some (.slice L.a L.len L.cap) := by
  obtain ⟨qs, fl, hr, _⟩ := h.ex
  exact (hr.cell 3).trans rfl
theorem OwnB.in' (h : OwnB TN TP A H op tx num ns at' b L) : A b ∧ b < H.size := by
  obtain ⟨qs, fl, hr, _, _, _, h3⟩ := h.ex
  exact ⟨h3 b (by simp), hr.lt⟩
theorem OwnB.kid {xs ys l : List Nd} {o u a : Int} {t : Txt} (h : OwnB TN TP A H op tx num (xs ++ .mk o t u l a :: ys) at' b L) {i : Int} (hi : i = (xs.length : Nat)) {k : Addr → Prop}
    (hk : ∀ ad c, hcell H ad = some (.pointer (some (adr c))) → hcell H ⟨c, 4, none⟩ = some (.int .i64 a) → (∀ {v : Int} {K : Heap → Prop}, (∀ H', Upd A H H' → OwnB TN TP A H' op tx num (xs ++ .mk o t u l v :: ys) at' b L → K H') → St ⟨c, 4, none⟩ (.int .i64 v) H K) → k ad) : IxA 1 L i k := by
  obtain ⟨qs, fl, hr, hv, hl, h2, h3⟩ := h.ex
  obtain ⟨qx, q, qy, fx, f, fy, rfl, r2, rfl, r4, r5, r6⟩ := hl.at'
  obtain ⟨c, L2, q2, f2, rfl, hr5, hv5, hl5, rfl⟩ := r5
  refine IxA_vec hv (by omega) (by simp; omega) fun ad hc _ => hk ad c (hc.trans ?_) ((hr5.cell 4).trans rfl) fun {v K} hK => ?_
  · have e : i.toNat = qx.length := by omega
    rw [e, List.map_append, List.getElem?_append_right (by simp)]
    simp [ptrV]
  · have hc3 := h3 c (by simp)
    refine St_row hr5 (by simp) fun H1 hU _ hr1 => hK H1 (hU.mono fun x _ e => by subst e; exact hc3) ?_
    have hne : (c ≠ b ∧ c ∉ blkL L ∧ c ∉ fx ∧ c ∉ fy) ∧ c ∉ blkL L2 ∧ c ∉ f2 := by
      clear hr hv hl hc hr1 hU hK r4 r6 hr5 hv5 hl5 h3 hk
      grind
    obtain ⟨⟨n1, n2, n3, n4⟩, n5, n6⟩ := hne
    exact ⟨qx ++ some c :: qy, fx ++ ((c :: (blkL L2 ++ f2)) ++ fy), hU.row hr (Ne.symm n1), hv.upd hU fun d hd e => n2 (by subst e; unfold blkL; rw [hd]; simp), TrL.put (n := .mk o t u l v) (q := some c) (f := c :: (blkL L2 ++ f2)) ⟨c, L2, q2, f2, rfl, hr1, hv5.upd hU fun d hd e => n5 (by subst e; unfold blkL; rw [hd]; simp), hl5.upd hU fun x hx e => n6 (by subst e; exact hx), rfl⟩ (r6.upd hU fun x hx e => n4 (by subst e; exact hx)) (r4.upd hU fun x hx e => n3 (by subst e; exact hx)), h2, h3⟩
theorem OwnB.app (h : OwnB TN TP A H op tx num ns at' b L) (hA : ∀ x, A x → x < mid) (hmid : mid ≤ H.size) {n : Nd} {q : Option Nat} (hn : Own TN TP mid H n q) (hlen : ns.length ≤ 2 ^ 40) {K : Heap → Prop}
    (hK : ∀ H3, Upd A H H3 → ∀ L', OwnB TN TP (fun x => A x ∨ mid ≤ x) H3 op tx num (ns ++ [n]) at' b L' → K H3) :
    Nw ⟨[ptrV q]⟩ TP H fun b2 H1 => App TP 1 8 #[.pointer none] L ⟨some (adr b2), 1, 1⟩ H1 fun L' H2 => St ⟨b, 3, none⟩ (.slice L'.a L'.len L'.cap) H2 K := by
  have hin := h.in'
  have hle := h.sl
  refine Nw_row (vs := [ptrV q]) fun b2 H1 hb2 hE1 _ hr2 => ?_
  have h' := h.upd hE1 fun _ _ _ h => h
  have hs1 := hE1.size
  obtain ⟨qs, fl, hr, hv, hl, h2, h3⟩ := h'.ex
  obtain ⟨f, g1, g2, g3⟩ := (hn.upd hE1 fun _ _ _ h => h).ex
  have hql := hl.len
  refine App_vec2 (vs := qs.map ptrV) (ws := [ptrV q]) hv hr2.rd_all rfl (fun w hw => by rw [List.mem_singleton.1 hw]; rfl) (by decide) (by simp only [List.length_map, List.length_singleton]; omega) fun L' H2 hv2 hU2 ha hz => ?_
  have hLin : ∀ x, L.a = some (adr x) → x ∈ blkL L := fun x hx => by unfold blkL; rw [hx]; simp
  have hU12 : Upd (· ∈ blkL L) H1 H2 := hU2.mono fun x _ e => hLin x e.1
  have hblk : ∀ x ∈ blkL L', x ∈ blkL L ∨ x = H1.size := fun x hx => by
    have hx' := (vec_blk hv2 x hx).2
    rcases ha with ⟨e, _⟩ | e
    · rw [e] at hx'
      exact .inl (hLin x hx')
    · rw [e] at hx'
      have : H1.size = x := by simpa [adr] using hx'
      exact .inr this.symm
  have hnd := h2
  have hLb : b ∉ blkL L := fun e => (List.nodup_cons.1 h2).1 (List.mem_append_left _ e)
  refine St_row (hU12.row hr hLb) (by simp) fun H3 hU3 _ hr3 => hK H3 ?_ L' ?_
  · exact (hE1.mono fun _ _ h => h.elim).trans ((hU12.mono fun x _ e => h3 x (List.mem_cons_of_mem _ (List.mem_append_left _ e))).trans hU3 fun x _ e => by subst e; exact hin.1) fun _ _ e => e
  have h1lt := hr2.lt
  have hbH1 : b < H1.size := hr.lt
  have l1 : ∀ x ∈ fl, x < H1.size := fun x hx => hl.lt x hx
  have l2 : ∀ x ∈ f, x < H1.size := fun x hx => g1.lt x hx
  have hnb : b ∉ blkL L' := fun hx => by
    rcases hblk b hx with e | e
    · exact hLb e
    · omega
  have m1 : ∀ x ∈ blkL L, A x := fun x hx => h3 x (List.mem_cons_of_mem _ (List.mem_append_left _ hx))
  have m2 : ∀ x ∈ fl, A x := fun x hx => h3 x (List.mem_cons_of_mem _ (List.mem_append_right _ hx))
  have hfl1 : ∀ x ∈ fl, x ∉ blkL L := fun x hx e => (List.nodup_append.1 (List.nodup_cons.1 h2).2).2.2 x e x hx rfl
  have hbfl : b ∉ fl := fun e => (List.nodup_cons.1 h2).1 (List.mem_append_right _ e)
  have hM : ∀ x, ¬ x = b → ¬ x ∈ blkL L → ¬ (x = b ∨ x ∈ blkL L) := fun x h1 h2 h => h.elim h1 h2
  have hU13 : Upd (fun x => x = b ∨ x ∈ blkL L) H1 H3 := (hU12.mono fun x _ e => .inr e).trans hU3 fun x _ e => .inl e
  refine ⟨qs ++ [q], fl ++ f, hr3, (by rw [List.map_append]; exact hv2.upd hU3 fun c hc e => hnb (by subst e; unfold blkL; rw [hc]; simp)), TrL.snoc (g1.upd hU13 fun x hx => hM x (fun e => by have := g3 x hx; have := hA b hin.1; omega) fun e => by have := g3 x hx; have := hA x (m1 x e); omega) (hl.upd hU13 fun x hx => hM x (fun e => hbfl (e ▸ hx)) (hfl1 x hx)), ?_, ?_⟩
  · refine List.nodup_cons.2 ⟨fun hx => ?_, List.nodup_append.2 ⟨?_, List.nodup_append.2 ⟨(List.nodup_append.1 (List.nodup_cons.1 h2).2).2.1, g2, fun x hx y hy e => by have := hA x (m2 x hx); have := g3 y hy; omega⟩, fun x hx y hy e => ?_⟩⟩
    · rcases List.mem_append.1 hx with hx | hx
      · exact hnb hx
      · rcases List.mem_append.1 hx with hx | hx
        · exact hbfl hx
        · have := g3 b hx; have := hA b hin.1; omega
    · unfold blkL; split <;> simp
    · subst e
      rcases hblk x hx with e | e
      · rcases List.mem_append.1 hy with hy | hy
        · exact hfl1 x hy e
        · have := g3 x hy; have := hA x (m1 x e); omega
      · rcases List.mem_append.1 hy with hy | hy
        · have := l1 x hy; omega
        · have := l2 x hy; omega
  · intro x hx
    rcases List.mem_cons.1 hx with rfl | hx
    · exact .inl hin.1
    · rcases List.mem_append.1 hx with hx | hx
      · rcases hblk x hx with e | e
        · exact .inl (m1 x e)
        · exact .inr (by omega)
      · rcases List.mem_append.1 hx with hx | hx
        · exact .inl (m2 x hx)
        · exact .inr (g3 x hx)
end
end Go.Proofs.YtfpmgpblhhcpgaaGreatDoor.Hc.Syn
namespace Go.Proofs.YtfpmgpblhhcpgaaGreatDoor
set_option linter.unusedVariables false
set_option linter.unusedSimpArgs false
set_option maxRecDepth 100000
section
open Hc Hc.Lex Hc.Syn
variable {H : Heap} {F : Nat}
theorem own_len {lo : Nat} {L : Sl} {ns : List Nd} (h : OwL lo H L ns) : L.len = ns.length := by
  obtain ⟨qs, fp, h0, h1, _⟩ := h.ex
  rw [h0.len, List.length_map, h1.len]
theorem st_names (hF : F ≤ 2 ^ 30) {b tb : Nat} {s : PS} (most : Int) (h : PR H b tb s) : Wk fQaj [pA b, .int .i64 most] (.one (.c .sl)) b tb H (namesL most F [] s) (LsO H) := by
  intro kp k he hk
  refine cQan _ _ ?_
  unfold vQan
  have hlb := h.lt
  have htb := h.tlt
  generalize hres : namesL most F [] s = res at *
  refine LoopT.ghost (fun m L H' => ∃ l s', m ≤ F ∧ l.length + m ≤ F ∧ Upd (· = b) H H' ∧ PR H' b tb s' ∧ OwL H.size H' L l ∧ res = namesL most m l s') F ⟨[], s, Nat.le_refl _, by simp, .refl _ _, h, OwnL.nil _ _, hres.symm⟩ ?_
  rintro next m L H1 ⟨l, s', hm, hl, hB1, h1, o1, e⟩ hnext
  cases m with
  | zero => exact absurd e (by unfold namesL; exact he.ne)
  | succ m =>
  unfold namesL at e
  refine s_named h1 fun H2 hE2 => ?_
  have h2 := h1.ext hE2
  have hB2 := upE hB1 hE2
  have o2 := o1.mv (ExU (b := b) hE2) hlb
  refine Jn.mk (fun _ H' => H2 = H' ∧ namedB s' = true) (fun kk hkk => ?_) ?_
  · cases hn : namedB s' with
    | false =>
      rw [hn, if_neg (by decide)] at e
      exact s_wrong h2 ((he.mv hB2).to e)
    | true => exact hkk _ _ ⟨rfl, hn⟩
  rintro _ _ ⟨rfl, hn⟩
  rw [hn, if_pos rfl] at e
  rw [own_len o2]
  refine (w_limit h2 _ most).st he hB2 e fun d H3 u s3 e ha hB3 hU3 h3 eH => ?_
  subst eH
  obtain ⟨_, es⟩ := limit_ok ha
  have es := es.symm
  subst es
  have hs3 := hB3.size
  refine s_take h3 (named_kind hn) fun H4 hU4 h4 => ?_
  refine s_texted (t := s'.hd) (L := ⟨none, 0, 0⟩) (lo := H3.size) (OwnL.nil _ _) hU4.size fun H5 q hE5 hq o5 => ?_
  have hU5 := upE hU4 hE5
  refine app_more o2 hU5 hlb hs3 o5 (by omega) fun L1 H6 hU6 o6 => ?_
  have h6 : PR H6 b tb s'.take := (h4.ext hE5).upd hU6 (by omega) (by omega) (by omega)
  have hB6 : Upd (· = b) H H6 := (upU hB3 hU5).trans hU6 fun x hx e => by omega
  refine s_may h6 [44] fun H7 hU7 h7 => ?_
  have hB7 := upU hB6 hU7
  cases hc : nextB [44] s'.take with
  | true =>
    rw [hc, if_pos rfl] at e h7
    exact (Br_false _ _).2 (hnext m _ _ (by omega) ⟨_, _, by omega, by simp; omega, hB7, h7, o6.mv hU7 hlb, e⟩)
  | false =>
    rw [hc, if_neg (by decide)] at e h7
    exact (Br_true _ _).2 (hk _ H7 _ _ e hB7 h7 ⟨o6.mv hU7 hlb, by simp; omega⟩)
theorem st_function (hF : F ≤ 2 ^ 30) {b tb : Nat} {s : PS} (h : PR H b tb s) (h0 : s.hd.kind ≠ 0) : Wk fQae [pA b] (.one (.c .ptr)) b tb H (functionP F s) (NdO H) := by
  intro kp k he hk
  refine cQam _ ?_
  unfold vQam
  have hlb := h.lt
  have htb := h.tlt.1
  generalize hres : functionP F s = res at *
  unfold functionP at hres
  simp only [adr_add]
  refine s_take h h0 fun H1 hU1 h1 => tok_new rfl fun b1 H5 hb1 hE5 r5 => Ld_int ((r5.cell 2).trans rfl) ?_
  have hs1 := hU1.size
  have hB5 := upE hU1 hE5
  refine (w_name (h1.ext hE5)).st he hB5 hres.symm fun d H6 t s6 e ha hB6 hU6 h6 et => ?_
  subst et
  have r6 := hU6.row r5 (by omega)
  refine Stab_1 ((r6.cell 2).trans rfl) (s_texted (t := ⟨0, t.text, s.hd.at'⟩) (L := ⟨none, 0, 0⟩) (lo := H.size) lfO hB6.size fun H7 q hE7 hq o7 => ?_)
  have r7 := hE7.row r6 fun h => h
  have hB7 := upE hB6 hE7
  have hs7 := hB7.size
  refine Stab_1 ((r7.cell 2).trans rfl) ((w_must (h6.ext hE7) [40]).st he hB7 e fun d H8 u s8 e ha hB8 hU8 h8 et => ?_)
  subst et
  refine s_node (t := u) (L := ⟨none, 0, 0⟩) (lo := H7.size) lfO hU8.size fun H9 q2 hE9 hq2 o9 => ?_
  have hB9 := upE hB8 hE9
  have hU9 := upE hU8 hE9
  simp only [NilCk_some, adr_add]
  refine poke_text hU9 (by omega) (by have := h8.tlt; have := hB7.size; omega) o9 (h8.ext hE9) [102, 117, 110, 99] fun H10 hU10 hq10 h10 o10 => ?_
  have hs10 := hU10.size
  have hB10 := upU hB7 hU10
  refine s_next h10 fun H11 hE11 => ?_
  have hB11 := upE hB10 hE11
  have hU11 := upE hU10 hE11
  have h11 := h10.ext hE11
  refine Jn.mk (fun _ H12 => ∃ c s12, Upd (· = b) H H12 ∧ Upd (· = b) H7 H12 ∧ PR H12 b tb s12 ∧ Ow H7.size H12 (.mk 3 [102, 117, 110, 99] 0 c (u.at' : Nat)) q2 ∧ res = (mustP [41] s12).bind fun _ s4 => (blockP F F s4).bind fun b s5 => retP (.mk 4 t.text 0 [.mk 3 [102, 117, 110, 99] 0 c (u.at' : Nat), b] (s.hd.at' : Nat)) s5) (fun kk hkk => ?_) ?_
  · cases hn : nextB [41] s8 with
    | true =>
      rw [hn, if_pos rfl] at e
      exact (Br_false _ _).2 (hkk _ _ ⟨[], s8, hB11, hU11, h11, o10.mv (ExU (b := b) hE11) (by omega), e⟩)
    | false =>
      rw [hn, if_neg (by decide)] at e
      refine (Br_true _ _).2 ((st_names hF 4 h11).st he hB11 e fun d H13 c s13 e ha hB13 hU13 h13 ⟨o13, _⟩ => ?_)
      have o11 := o10.mv (ExU (b := b) hE11) (by omega)
      have hq2' := o11.row.1
      refine Own.give o11 hU13 (fun x hx _ => by omega) o13 (by have := hU11.size; omega) fun H14 hU14 o14 => ?_
      have ht := h13.tlt
      exact hkk _ _ ⟨c, s13, hB13.trans hU14 fun x hx e => by omega, (upU hU11 hU13).trans hU14 fun x hx e => by omega, h13.upd hU14 (by omega) (by omega) (by omega), o14, e⟩
  · rintro _ H12 ⟨c, s12, hB12, hU12, h12, o12, e⟩
    refine (w_must h12 [41]).st he hB12 e fun d H15 u2 s15 e ha hB15 hU15 h15 _ => ?_
    refine ((wkS hF F hF).block h15).st he hB15 e fun d H16 m s16 e ha hB16 hU16 h16 ⟨q6, e6, g6, o6⟩ => ?_
    subst e6
    have hU715 := upU hU12 hU15
    refine give_lit (qs := [some q2, some q6]) hB16 hlb htb o7 hs7 (upU hU715 hU16) h16 (((OwnT.one o12).mv hU15 (by omega)).more hU16 (by omega) hU715.size o6) rfl fun H18 hB18 h18 o18 => ?_
    exact hk _ H18 _ _ e hB18 h18 ⟨q, rfl, own_ge o18, o18⟩
end
section
open Hc Hc.Lex Hc.Syn
variable {H : Heap} {F : Nat}
abbrev OwB (A : Nat → Prop) (H : Heap) (op : Int) (tx : Txt) (num : Int) (ns : List Nd) (at' : Int) (b : Nat) (L : Sl) : Prop := OwnB TQaf TQab A H op tx num ns at' b L
theorem block_mk {f : Nat} {s s' : PS} {n : Nd} (h : blockP F f s = some (.ok (n, s'))) : ∃ t l, n = node 5 t l := by
  cases f with
  | zero => simp [blockP] at h
  | succ f =>
    unfold blockP at h
    obtain ⟨t, s2, h2, h⟩ := bind_ok h
    obtain ⟨l, s3, h3, h⟩ := bind_ok h
    obtain ⟨_, s4, h4, h⟩ := bind_ok h
    obtain ⟨rfl, _⟩ := ret_ok h
    exact ⟨t, l, rfl⟩
theorem clause_str {w : Txt} {i : Nat} (h : clauseW[i]? = some w) : ([strV [119, 105, 116, 104], strV [119, 105, 116, 104, 111, 117, 116], strV [114, 101, 97, 100, 115], strV [119, 114, 105, 116, 101, 115]] : List Value)[i]? = some (strV w) := by
  have : ([strV [119, 105, 116, 104], strV [119, 105, 116, 104, 111, 117, 116], strV [114, 101, 97, 100, 115], strV [119, 114, 105, 116, 101, 115]] : List Value) = clauseW.map strV := rfl
  rw [this, List.getElem?_map, h]; rfl
theorem st_system (hF : F ≤ 2 ^ 30) {b tb : Nat} {s : PS} (h : PR H b tb s) (h0 : s.hd.kind ≠ 0) : Wk fQad [pA b] (.one (.c .ptr)) b tb H (systemP F s) (NdO H) := by
  intro kp k he hk
  refine cQal _ ?_
  unfold vQal
  have hlb := h.lt
  have htb := h.tlt.1
  generalize hres : systemP F s = res at *
  unfold systemP at hres
  simp only [adr_add]
  refine s_take h h0 fun H1 hU1 h1 => tok_new rfl fun b1 H5 hb1 hE5 r5 => Ld_int ((r5.cell 2).trans rfl) ?_
  have hs1 := hU1.size
  have hB5 := upE hU1 hE5
  refine (w_name (h1.ext hE5)).st he hB5 hres.symm fun d H6 t s6 e ha hB6 hU6 h6 et => ?_
  subst et
  have r6 := hU6.row r5 (by omega)
  refine Stab_1 ((r6.cell 2).trans rfl) (s_texted (t := ⟨0, t.text, s.hd.at'⟩) (L := ⟨none, 0, 0⟩) (lo := H.size) lfO hB6.size fun H7 q hE7 hq o7 => ?_)
  have r7 := hE7.row r6 fun h => h
  have hB7 := upE hB6 hE7
  have hs7 := hB7.size
  refine Stab_1 ((r7.cell 2).trans rfl) ?_
  refine Nw_row (vs := [strV [119, 105, 116, 104], strV [119, 105, 116, 104, 111, 117, 116], strV [114, 101, 97, 100, 115], strV [119, 114, 105, 116, 101, 115]]) fun b2 H8 hb2 hE8 _ hr8 => ?_
  have hB8 := upE hB7 hE8
  simp only [NilCk_some, adr_add]
  obtain ⟨L8, o7b⟩ := o7.toB
  have o8 : OwB (fun x => H.size ≤ x ∧ x ≠ b2) H8 2 t.text 0 [] (s.hd.at' : Nat) q L8 := (o7b.upd hE8 fun _ _ _ h => h).mono fun x h1 _ => ⟨h1.1, by omega⟩
  refine LoopT.ghost (fun m (i : Int) H' => ∃ l s' L, i = (l.length : Nat) ∧ l.length + m = 4 ∧ (∀ n ∈ l, ∃ o t u l a, n = Nd.mk o t u l a) ∧ Upd (· = b) H H' ∧ Row H' b2 TQae [strV [119, 105, 116, 104], strV [119, 105, 116, 104, 111, 117, 116], strV [114, 101, 97, 100, 115], strV [119, 114, 105, 116, 101, 115]] ∧ PR H' b tb s' ∧ OwB (fun x => H.size ≤ x ∧ x ≠ b2) H' 2 t.text 0 l (s.hd.at' : Nat) q L ∧
    res = (clausesP F (clauseW.drop l.length) l s').bind fun l s2 => (blockP F F s2).bind fun b s3 => retP (.mk 2 t.text 0 (l.map (Nd.fix b.place) ++ [b]) (s.hd.at' : Nat)) s3) 4
    ⟨[], s6, L8, rfl, rfl, (fun n hn => by cases hn), hB8, hr8, (h6.ext hE7).ext hE8, o8, e⟩ ?_
  rintro next m i H9 ⟨l, s9, L9, hi, hm, hmk, hB9, r9, h9, o9, e⟩ hnext
  have hlt9 := hB9.size
  cases m with
  | zero =>
    have hl4 : l.length = 4 := by omega
    refine Br_dec (fun g => by omega) fun _ => ?_
    rw [hl4] at e
    have e : res = (blockP F F s9).bind fun b s3 => retP (.mk 2 t.text 0 (l.map (Nd.fix b.place) ++ [b]) (s.hd.at' : Nat)) s3 := e
    refine ((wkS hF F hF).block h9).st he hB9 e fun d H10 nb s10 e ha hB10 hU10 h10 ⟨q6, e6, g6, o6⟩ => ?_
    subst e6
    obtain ⟨tk, lk, enb⟩ := block_mk ha
    have o10 : OwB (fun x => H.size ≤ x ∧ x < H9.size) H10 2 t.text 0 l (s.hd.at' : Nat) q L9 := (o9.mono fun x h1 h2 => ⟨h1.1, h2⟩).upd hU10 fun x h1 h2 => by omega
    have hs10 := hU10.size
    refine Ld_sl o10.sl ?_
    refine LoopT.ghost (fun m (i : Int) H' => ∃ xs ys, i = (xs.length : Nat) ∧ m = ys.length ∧ l = xs ++ ys ∧ Upd (· = b) H H' ∧ H9.size ≤ H'.size ∧ PR H' b tb s10 ∧ Ow H9.size H' nb q6 ∧ OwB (fun x => H.size ≤ x ∧ x < H9.size) H' 2 t.text 0 (xs.map (Nd.fix nb.place) ++ ys) (s.hd.at' : Nat) q L9) l.length ⟨[], l, rfl, rfl, rfl, hB10, hs10, h10, o6, o10⟩ ?_
    rintro next m i H11 ⟨xs, ys, hi, hm, hxy, hB11, hs11, h11, o11, o12⟩ hnext
    have hlen := o12.len
    rw [List.length_append, List.length_map] at hlen
    cases ys with
    | nil =>
      refine Br_dec (fun g => by simp at hlen; omega) fun _ => ?_
      rw [List.append_nil] at o12 hxy
      subst hxy
      refine Ld_sl o12.sl (o12.app (mid := H9.size) (fun x h => h.2) hs11 o11 (by simp; omega) fun H12 hU12 L' o13 => ?_)
      refine hk _ H12 _ _ e (hB11.trans hU12 fun x hx e => by omega) (h11.upd hU12 (by have := h11.b0; omega) (by omega) (by omega)) ⟨q, rfl, by have := o7.row.1; omega, ?_⟩
      exact o13.own fun x hx => by rcases hx with hx | hx <;> omega
    | cons y ys =>
      obtain ⟨o, u, v, l2, a, ey⟩ := hmk y (by rw [hxy]; simp)
      subst ey
      refine Br_dec (fun _ => ?_) fun g => by simp at hlen; omega
      refine Jn.mk (fun _ H' => ∃ a', Nd.fix nb.place (.mk o u v l2 a) = .mk o u v l2 a' ∧ Upd (· = b) H H' ∧ H9.size ≤ H'.size ∧ PR H' b tb s10 ∧ Ow H9.size H' nb q6 ∧ OwB (fun x => H.size ≤ x ∧ x < H9.size) H' 2 t.text 0 (xs.map (Nd.fix nb.place) ++ .mk o u v l2 a' :: ys) (s.hd.at' : Nat) q L9) (fun kk hkk => ?_) ?_
      · refine o12.kid (by simp; omega) fun ad c hc1 hc2 hst => Ld_ptr hc1 ?_
        simp only [NilCk_some, adr_add]
        refine Ld_int hc2 (Br_dec (fun ha0 => ?_) fun ha0 => ?_)
        · subst enb
          obtain ⟨_, LB, rB, _⟩ := o11.row
          refine Ld_int ((rB.cell 4).trans rfl) (hst (v := (tk.at' : Nat)) fun H12 hU12 o13 => hkk _ _ ⟨(tk.at' : Nat), ?_, hB11.trans hU12 fun x hx e => by omega, by have := hU12.size; omega, h11.upd hU12 (by have := h11.b0; omega) (by omega) (by omega), o11.upd hU12 fun x h1 h2 => by omega, o13⟩)
          show (if a < 0 then _ else _) = _
          rw [if_pos ha0]; rfl
        · exact hkk _ _ ⟨a, by show (if a < 0 then _ else _) = _; rw [if_neg ha0], hB11, hs11, h11, o11, o12⟩
      · rintro _ H12 ⟨a', ef, g1, g2, g3, g4, g5⟩
        have hx4 := congrArg List.length hxy
        rw [List.length_append] at hx4
        refine Lt.mk (u := i + 1) (by rw [wrap_i64_id] <;> omega) (hnext _ _ _ (by rw [hm]; simp) ⟨xs ++ [.mk o u v l2 a], ys, by simp; omega, rfl, by rw [hxy]; simp, g1, g2, g3, g4, ?_⟩)
        rw [List.map_append, List.append_assoc]
        simpa [ef] using g5
  | succ m =>
    have hli : l.length < 4 := by omega
    obtain ⟨w, hw, hd⟩ : ∃ w, clauseW[l.length]? = some w ∧ clauseW.drop l.length = w :: clauseW.drop (l.length + 1) := by
      have hh : l.length < clauseW.length := hli
      exact ⟨clauseW[l.length], List.getElem?_eq_getElem hh, List.drop_eq_getElem_cons hh⟩
    refine Br_dec (fun _ => ?_) fun g => by omega
    rw [hd] at e
    unfold clausesP at e
    refine IxA.mk (a := adr b2) rfl (by omega) (by show i < 4; omega) ?_
    have ei : i.toNat = l.length := by omega
    rw [adr_add, ei, Nat.mul_one]
    refine Ld_str (by rw [r9.cell]; exact clause_str hw) ?_
    refine Nw_row (vs := ndV 3 w 0 ⟨none, 0, 0⟩ 0) fun b3 H10 hb3 hE10 _ hr10 => ?_
    have o10 : Ow H9.size H10 (.mk 3 w 0 [] 0) b3 := Own.node (OwnL.nil _ _) hE10 hb3 (Nat.le_refl _) hr10
    have hB10 := upE hB9 hE10
    have h10 := h9.ext hE10
    refine s_next h10 fun H11 hE11 => ?_
    have hB11 := upE hB10 hE11
    have h11 := h10.ext hE11
    have hE911 := hE10.trans hE11 fun _ _ h => h
    have hs911 := hE911.size
    have o11 := o10.mv (ExU (b := b) hE11) (by omega)
    have hq3 := o11.row.1
    refine Jn.mk (fun _ H12 => ∃ c a s12, Upd (· = b) H H12 ∧ Upd (· = b) H9 H12 ∧ PR H12 b tb s12 ∧ Ow H9.size H12 (.mk 3 w 0 c a) b3 ∧ res = (clausesP F (clauseW.drop (l.length + 1)) (l ++ [.mk 3 w 0 c a]) s12).bind fun l s2 => (blockP F F s2).bind fun b s3 => retP (.mk 2 t.text 0 (l.map (Nd.fix b.place) ++ [b]) (s.hd.at' : Nat)) s3) (fun kk hkk => ?_) ?_
    · cases hn : nextB w s9 with
      | true =>
        rw [hn, if_pos rfl, bind_assoc] at e
        refine (Br_true _ _).2 (s_take h11 (next_kind hn) fun H13 hU13 h13 => ?_)
        have hU913 := upU (ExU hE911) hU13
        refine Own.poke (o11.mv hU13 (by omega)) (op2 := 3) (tx2 := w) (num2 := 0) (at2 := (s9.hd.at' : Nat)) (fun _ => rfl) (by decide) fun H14 hU14 o14 => ?_
        have hU914 : Upd (· = b) H9 H14 := hU913.trans hU14 fun x hx e => by omega
        have hB14 := upU hB9 hU914
        have h14 : PR H14 b tb s9.take := h13.upd hU14 (by have := h13.b0; omega) (by omega) (by omega)
        refine (st_names hF (-1) h14).st he hB14 e fun d H15 c s15 e ha hB15 hU15 h15 ⟨o15, _⟩ => ?_
        refine Own.give o14 hU15 (fun x hx _ => by omega) o15 (by have := hU914.size; omega) fun H16 hU16 o16 => ?_
        exact hkk _ _ ⟨c, _, s15, hB15.trans hU16 fun x hx e => by omega, (upU hU914 hU15).trans hU16 fun x hx e => by omega, h15.upd hU16 (by have := h15.b0; omega) (by omega) (by omega), o16, e⟩
      | false =>
        rw [hn, if_neg (by decide)] at e
        refine (Br_false _ _).2 (Own.poke o11 (op2 := 3) (tx2 := w) (num2 := 0) (at2 := -1) (fun _ => rfl) (by decide) fun H14 hU14 o14 => ?_)
        exact hkk _ _ ⟨[], _, s9, hB11.trans hU14 fun x hx e => by omega, (ExU hE911).trans hU14 fun x hx e => by omega, h11.upd hU14 (by have := h11.b0; omega) (by omega) (by omega), o14, e⟩
    · rintro _ H12 ⟨c, a, s12, hB12, hU12, h12, o12, e⟩
      have o13 : OwB (fun x => (H.size ≤ x ∧ x ≠ b2) ∧ x < H9.size) H12 2 t.text 0 l (s.hd.at' : Nat) q L9 := (o9.mono fun x h1 h2 => ⟨h1, h2⟩).upd hU12 fun x h1 h2 => by omega
      have hs12 := hU12.size
      have hb29 := r9.lt
      refine Ld_sl o13.sl (o13.app (mid := H9.size) (fun x h => h.2) hs12 o12 (by omega) fun H13 hU13 L' o14 => ?_)
      refine Lt.mk (u := i + 1) (by rw [wrap_i64_id] <;> omega) (hnext m _ _ (by omega) ⟨l ++ [.mk 3 w 0 c a], s12, L', by simp; omega, by simp; omega, fun n hn => ?_, hB12.trans hU13 fun x hx e => by omega, hU13.row (hU12.row r9 (by omega)) (by omega), h12.upd hU13 (by have := h12.b0; omega) (by omega) (by omega), o14.mono fun x hx _ => by rcases hx with hx | hx <;> omega, by rw [List.length_append]; exact e⟩)
      rcases List.mem_append.1 hn with hn | hn
      · exact hmk n hn
      · exact ⟨_, _, _, _, _, List.mem_singleton.1 hn⟩
theorem st_program (hF : F ≤ 2 ^ 30) {b tb : Nat} {s : PS} (h : PR H b tb s) : Wk fQaa [pA b] (.one (.c .ptr)) b tb H (programP F s) (NdO H) := by
  intro kp k he hk
  refine cQak _ ?_
  unfold vQak
  have hlb := h.lt
  have htb := h.tlt.1
  generalize hres : programP F s = res at *
  unfold programP at hres
  refine Nw_row (vs := ndV 1 [] 0 ⟨none, 0, 0⟩ 0) fun q H1 hq hE1 _ hr1 => ?_
  have o1 : Ow H.size H1 (.mk 1 [] 0 [] 0) q := Own.node (OwnL.nil _ _) hE1 hq (Nat.le_refl _) hr1
  have hB1 : Upd (· = b) H H1 := ExU hE1
  simp only [NilCk_some, adr_add]
  refine LoopT.ghost (fun m (σ : Int × Int) H' => ∃ l s', m ≤ F ∧ l.length + m ≤ F ∧ (0 ≤ σ.1 ∧ σ.1 ≤ 16 ∧ 0 ≤ σ.2 ∧ σ.2 ≤ 16) ∧ Upd (· = b) H H' ∧ PR H' b tb s' ∧ Ow H.size H' (.mk 1 [] 0 l 0) q ∧ res = (programL F m σ.1 σ.2 l s').bind fun l s => retP (.mk 1 [] 0 l 0) s) F
    ⟨[], s, Nat.le_refl _, by simp, by decide, hB1, h.ext hE1, o1, hres.symm⟩ ?_
  rintro next m ⟨x, y⟩ H2 ⟨l, s', hm, hl, ⟨b1, b2, b3, b4⟩, hB2, h2, o2, e⟩ hnext
  dsimp only at b1 b2 b3 b4 e ⊢
  cases m with
  | zero => exact absurd e (by unfold programL; exact he.ne)
  | succ m =>
  unfold programL at e
  obtain ⟨sl, r1, r2⟩ := h2.rd
  refine Ld_sl r1 (r2 fun a ha => Ld_int (tok_rd ha).1 (Br.mk (fun e1 => ?_) fun e1 => ?_))
  rotate_left
  · have e1 : ((s'.hd.kind : Nat) : Int) = 0 := by simpa using e1
    rw [if_pos (by omega)] at e
    exact hk _ H2 _ _ e hB2 h2 ⟨q, rfl, own_ge o2, o2⟩
  have e1 : ((s'.hd.kind : Nat) : Int) ≠ 0 := by simpa using e1
  rw [if_neg (by omega)] at e
  simp only [Jn]
  refine s_next h2 fun H5 hE5 => ?_
  have h5 := h2.ext hE5
  have hB5 := upE hB2 hE5
  have o5 := o2.mv (ExU (b := b) hE5) hlb
  cases hn : nextB [115, 121, 115, 116, 101, 109] s' with
  | true =>
    rw [hn, if_pos rfl, bind_assoc] at e
    refine (Br_true _ _).2 ((w_limit h5 x 16).st he hB5 e fun d H7 u s7 e ha hB7 hU7 h7 eH => ?_)
    subst eH
    obtain ⟨h16, es⟩ := limit_ok ha
    have es := es.symm
    subst es
    rw [bind_assoc] at e
    refine add_child hB7 hlb htb o5 (by omega) (st_system hF h7 (next_kind hn)) he e fun n s8 H8 e _ hB8 h8 o8 => ?_
    exact Lt.mk (u := x + 1) (by rw [wrap_i64_id] <;> omega) (hnext m _ _ (by omega) ⟨_, s8, by omega, by simp; omega, ⟨by dsimp only; omega, by dsimp only; omega, b3, b4⟩, hB8, h8, o8, e⟩)
  | false =>
    rw [hn, if_neg (by decide)] at e
    refine (Br_false _ _).2 (s_next h5 fun H12 hE12 => ?_)
    have h12 := h5.ext hE12
    have hB12 := upE hB5 hE12
    have o12 := o5.mv (ExU (b := b) hE12) hlb
    cases hn2 : nextB [102, 117, 110, 99] s' with
    | true =>
      rw [hn2, if_pos rfl, bind_assoc] at e
      refine (Br_true _ _).2 ((w_limit h12 y 16).st he hB12 e fun d H7 u s7 e ha hB7 hU7 h7 eH => ?_)
      subst eH
      obtain ⟨h16, es⟩ := limit_ok ha
      have es := es.symm
      subst es
      rw [bind_assoc] at e
      refine add_child hB7 hlb htb o12 (by omega) (st_function hF h7 (next_kind hn2)) he e fun n s8 H8 e _ hB8 h8 o8 => ?_
      exact Lt.mk (u := y + 1) (by rw [wrap_i64_id] <;> omega) (hnext m _ _ (by omega) ⟨_, s8, by omega, by simp; omega, ⟨b1, b2, by dsimp only; omega, by dsimp only; omega⟩, hB8, h8, o8, e⟩)
    | false =>
      rw [hn2, if_neg (by decide)] at e
      exact (Br_false _ _).2 (s_wrong (α := Nd) h12 ((he.mv hB12).to e))
end
section
theorem assert_fault (W : World) (v : Value) : (Instr.typeAssert (.iface 56 v) 20 56 true).run Tryz.prog W = .ok (.tuple #[v, .bool true]) W := by kernel_rfl
set_option maxHeartbeats 1000000 in
theorem catch_panicking (p q : Addr) (x y : Value) (a : Option Addr) (older : List PanicEntry) (w : World) (hc : w.cell? p = some x) (hz : w.frozen? p = false) (hc2 : w.cell? q = some y) (hz2 : w.frozen? q = false) (hpq : p.block ≠ q.block) :
    CallsD Tryz.prog 23 #[.pointer (some p), .pointer (some q)] (.panicking ({ v := .iface 56 (.pointer a), recovered := false } :: older)) w fun e u' w' =>
      e = .returned (.tuple #[]) ∧ u' = .panicking ({ v := .iface 56 (.pointer a), recovered := true } :: older) ∧ w' = (w.setCell p (.pointer none)).setCell q (.iface 56 (.pointer a)) := by
  refine callsD_of_wpS Tryz.func23 rfl fun c₀ cs hu => ?_
  apply wpS_seq
  apply wpS_region
  simp [wpOpsS, go_sem, recoverD, hu, Tryz.ntmps23, Exit.thenS]
  refine wpS_of_wp ?_
  have hta := assert_fault
  have hq : (w.setCell p (.pointer none)).cell? q = some y := by rw [World.cell?_setCell_other _ _ _ _ (by intro e; exact hpq (by rw [e]))]; exact hc2
  have hqf : (w.setCell p (.pointer none)).frozen? q = false := by simp [hz2]
  go_wp2
  cases c₀
  simp_all [bodyPostS, results, Tryz.results23]
set_option maxHeartbeats 1000000 in
theorem catch_idle (p q : Addr) (w : World) :
    CallsD Tryz.prog 23 #[.pointer (some p), .pointer (some q)] .returning w fun e u' w' => e = .returned (.tuple #[]) ∧ u' = .returning ∧ w' = w := by
  refine callsD_of_wpS Tryz.func23 rfl fun c₀ cs hu => ?_
  apply wpS_seq
  apply wpS_region
  simp [wpOpsS, go_sem, recoverD, hu, Tryz.ntmps23, Exit.thenS]
  refine wpS_of_wp ?_
  go_wp2
  cases c₀
  simp_all [bodyPostS, results, Tryz.results23]
end
end Go.Proofs.YtfpmgpblhhcpgaaGreatDoor
namespace Go.Proofs.YtfpmgpblhhcpgaaGreatDoor.Hc.Syn
set_option linter.unusedVariables false
set_option linter.unusedSimpArgs false
set_option maxRecDepth 100000
section
open Go Hc Hc.Lex
abbrev PS.N (s : PS) : Nat := s.toks.length
def Fn {α : Type} (A : R α) (m : Nat) : Prop := A ≠ none ∧ ∀ a s', A = some (.ok (a, s')) → s'.N < m
theorem Fn.bind {α β : Type} {A : R α} {m : Nat} (h : Fn A m) {G : α → PS → R β} {m' : Nat} (hG : ∀ a s', s'.N < m → Fn (G a s') m') : Fn (A.bind G) m' := by
  obtain ⟨h1, h2⟩ := h
  cases A with
  | none => exact absurd rfl h1
  | some r =>
    cases r with
    | error e => exact ⟨fun e => (by cases e), fun a s' e => (by cases e)⟩
    | ok p => exact hG p.1 p.2 (h2 p.1 p.2 rfl)
theorem Fn.ret {α : Type} {a : α} {s : PS} {m : Nat} (h : s.N < m) : Fn (retP a s) m := ⟨fun e => (by cases e), fun b s' e => by cases e; exact h⟩
theorem Fn.fail {α : Type} {e : Int} {s : PS} {m : Nat} : Fn (failP (α := α) e s) m := ⟨fun e => (by cases e), fun b s' e => (by cases e)⟩
theorem Fn.mono {α : Type} {A : R α} {m m' : Nat} (h : Fn A m) (hm : m ≤ m') : Fn A m' := ⟨h.1, fun a s' e => Nat.lt_of_lt_of_le (h.2 a s' e) hm⟩
theorem Fn.ite {α : Type} {p : Prop} [Decidable p] {A B : R α} {m : Nat} (h1 : p → Fn A m) (h2 : ¬ p → Fn B m) : Fn (if p then A else B) m := by
  split
  · exact h1 ‹_›
  · exact h2 ‹_›
theorem take_N {s : PS} (h : s.hd.kind ≠ 0) : s.take.N + 1 = s.N := by
  obtain ⟨l, d, n⟩ := s
  cases l with
  | nil => exact absurd rfl h
  | cons t l => rfl
theorem next_k {w : Txt} {s : PS} (h : nextB w s = true) : s.hd.kind ≠ 0 := by
  unfold nextB at h
  simp only [Bool.and_eq_true, Bool.or_eq_true, beq_iff_eq] at h
  omega
theorem named_k {s : PS} (h : namedB s = true) : s.hd.kind ≠ 0 := by
  unfold namedB at h
  simp only [Bool.and_eq_true, beq_iff_eq] at h
  omega
theorem fn_must {w : Txt} {s : PS} : Fn (mustP w s) s.N := by
  unfold mustP
  refine Fn.ite (fun h => Fn.ret ?_) fun _ => Fn.fail
  have := take_N (next_k h); omega
theorem fn_name {s : PS} : Fn (nameP s) s.N := by
  unfold nameP
  refine Fn.ite (fun h => Fn.ret ?_) fun _ => Fn.fail
  have := take_N (named_k h); omega
theorem fn_down {w : Txt} {s : PS} : Fn (downP w s) s.N := by
  unfold downP
  refine Fn.ite (fun h => Fn.ite (fun _ => Fn.fail) fun _ => Fn.ret ?_) fun _ => Fn.fail
  have := take_N (next_k h)
  show s.take.N < s.N
  omega
theorem fn_up {w : Txt} {s : PS} : Fn (upP w s) s.N := by
  unfold upP
  exact fn_must.bind fun a s' h => Fn.ret h
structure FE (f : Nat) : Prop where
  ex : ∀ lv s, lv ≤ 7 → 20 * s.N + 10 ≤ f + lv → Fn (exP f lv s) s.N
  un : ∀ w s, 20 * s.N + 2 ≤ f → Fn (unP f w s) s.N
  bi : ∀ lv n s, lv ≤ 6 → 20 * s.N + 1 ≤ f → Fn (binP f lv n s) (s.N + 1)
  pr : ∀ s, 20 * s.N + 2 ≤ f → Fn (primP f s) s.N
  ar : ∀ s, 20 * s.N + 1 ≤ f → Fn (argsP f s) s.N
  al : ∀ l s, 20 * s.N + 1 ≤ f → Fn (argsL f l s) (s.N + 1)
theorem fE : ∀ f, FE f
  | 0 => ⟨fun lv s h h2 => by omega, fun _ _ h => by omega, fun _ _ _ _ h => by omega, fun _ h => by omega, fun _ h => by omega, fun _ _ h => by omega⟩
  | f + 1 => by
    have ih := fE f
    refine ⟨fun lv s h h2 => ?_, fun w s h => ?_, fun lv n s hl h => ?_, fun s h => ?_, fun s h => ?_, fun l s h => ?_⟩
    · unfold exP
      refine Fn.ite (fun e => (ih.ex 1 s (by omega) (by omega)).bind fun n s1 h1 => Fn.ite (fun hn => ?_) fun _ => Fn.ret h1) fun e => Fn.ite (fun e7 => Fn.ite (fun _ => ih.un _ _ (by omega)) fun _ => Fn.ite (fun _ => ih.un _ _ (by omega)) fun _ => ih.pr _ (by omega)) fun e7 => ?_
      · refine fn_down.bind fun t s2 h2 => (ih.ex 0 s2 (by omega) (by omega)).bind fun y s3 h3 => fn_must.bind fun _ s4 h4 => (ih.ex 0 s4 (by omega) (by omega)).bind fun z s5 h5 => Fn.ret ?_
        show s5.N < s.N
        omega
      · exact (ih.ex (lv + 1) s (by omega) (by omega)).bind fun n s1 h1 => (ih.bi lv n s1 (by omega) (by omega)).mono (by omega)
    · unfold unP
      refine fn_down.bind fun t s1 h1 => (ih.ex 7 s1 (by omega) (by omega)).bind fun n s2 h2 => Fn.ret ?_
      show s2.N < s.N
      omega
    · unfold binP
      refine Fn.ite (fun e => ?_) fun _ => Fn.ret (by omega)
      have := take_N (s := s) (by omega)
      exact (ih.ex (lv + 1) s.take (by omega) (by omega)).bind fun m s1 h1 => (ih.bi lv _ s1 (by omega) (by omega)).mono (by omega)
    · unfold primP
      refine Fn.ite (fun e => Fn.ret ?_) fun _ => Fn.ite (fun e => ?_) fun _ => Fn.ite (fun e => ?_) fun _ => Fn.ite (fun e => ?_) fun _ => Fn.ite (fun e => Fn.ret ?_) fun _ => ?_
      · have := take_N (s := s) (by omega); omega
      · exact fn_down.bind fun _ s1 h1 => (ih.ex 0 s1 (by omega) (by omega)).bind fun n s2 h2 => fn_up.bind fun _ s3 h3 => Fn.ret (by omega)
      · have := take_N (s := s) (by omega)
        exact (ih.ar _ (by omega)).bind fun l s1 h1 => Fn.ret (by omega)
      · have := take_N (next_k e)
        exact fn_must.bind fun _ s1 h1 => fn_name.bind fun t s2 h2 => fn_must.bind fun _ s3 h3 => Fn.ret (by omega)
      · have : s.hd.kind ≠ 0 := by
          rcases Bool.or_eq_true _ _ ▸ e with e | e <;> exact next_k e
        have := take_N this; omega
      · refine fn_name.bind fun t s1 h1 => Fn.ite (fun e => (ih.ar _ (by omega)).bind fun l s2 h2 => Fn.ret (by omega)) fun _ => Fn.ite (fun e => ?_) fun _ => Fn.ret h1
        have := take_N (next_k e)
        exact fn_name.bind fun u s2 h2 => Fn.ret (by omega)
    · unfold argsP
      refine fn_down.bind fun _ s1 h1 => Fn.bind (m := s.N) (Fn.ite (fun _ => Fn.ret h1) fun _ => (ih.ex 0 s1 (by omega) (by omega)).bind fun n s2 h2 => (ih.al _ s2 (by omega)).mono (by omega)) fun l s3 h3 => fn_up.bind fun _ s4 h4 => Fn.ret (by omega)
    · unfold argsL
      refine Fn.ite (fun e => ?_) fun _ => Fn.ret (by omega)
      have := take_N (next_k e)
      exact (ih.ex 0 _ (by omega) (by omega)).bind fun n s2 h2 => (ih.al _ s2 (by omega)).mono (by omega)
variable {F : Nat}
theorem fn_ex {s : PS} (h : 20 * s.N + 10 ≤ F) : Fn (exP F 0 s) s.N := (fE F).ex 0 s (by omega) h
theorem fn_partL : ∀ {f : Nat} {l : List Nd} {s : PS}, 20 * s.N + 10 ≤ F → s.N + 1 ≤ f → Fn (partL F f l s) (s.N + 1)
  | 0, _, _, _, h => by omega
  | f + 1, l, s, hF, h => by
    unfold partL
    refine Fn.ite (fun _ => Fn.ret (by omega)) fun _ => fn_name.bind fun t s1 h1 => fn_must.bind fun _ s2 h2 => (fn_ex (by omega)).bind fun n s3 h3 => Fn.bind (m := s3.N + 1) (Fn.ite (fun _ => Fn.ret (by omega)) fun _ => fn_must.bind fun _ s4 h4 => Fn.ite (fun _ => Fn.ret (by omega)) fun _ => Fn.fail) fun _ s5 h5 => ?_
    exact (fn_partL (by omega) (by omega)).mono (by omega)
theorem fn_part {s : PS} (hF : 20 * s.N + 10 ≤ F) : Fn (partP F s) s.N := by
  unfold partP
  exact fn_name.bind fun t s1 h1 => fn_down.bind fun _ s2 h2 => (fn_partL (by omega) (by omega)).bind fun l s3 h3 => fn_up.bind fun _ s4 h4 => Fn.ret (by omega)
theorem fn_end {n : Nd} {s : PS} : Fn (endP n s) s.N := by
  unfold endP
  exact fn_must.bind fun _ s1 h1 => Fn.ret h1
theorem fn_spawnL : ∀ {f : Nat} {l : List Nd} {s : PS}, 20 * s.N + 10 ≤ F → s.N + 1 ≤ f → Fn (spawnL F f l s) (s.N + 1)
  | 0, _, _, _, h => by omega
  | f + 1, l, s, hF, h => by
    unfold spawnL
    refine Fn.ite (fun e => ?_) fun _ => Fn.ret (by omega)
    have := take_N (next_k e)
    exact (fn_part (by omega)).bind fun n s1 h1 => (fn_spawnL (by omega) (by omega)).mono (by omega)
structure FS (F f : Nat) : Prop where
  block : ∀ s, 20 * s.N + 10 ≤ F → 4 * s.N + 1 ≤ f → Fn (blockP F f s) s.N
  stmts : ∀ l s, 20 * s.N + 10 ≤ F → 4 * s.N + 4 ≤ f → Fn (stmtsL F f l s) (s.N + 1)
  stmt : ∀ s, 20 * s.N + 10 ≤ F → 4 * s.N + 3 ≤ f → Fn (stmtP F f s) s.N
  branch : ∀ s, s.hd.kind ≠ 0 → 20 * s.N + 10 ≤ F → 4 * s.N + 2 ≤ f → Fn (branchP F f s) s.N
  turns : ∀ s, s.hd.kind ≠ 0 → 20 * s.N + 10 ≤ F → 4 * s.N + 2 ≤ f → Fn (turnsP F f s) s.N
theorem fS : ∀ f, FS F f
  | 0 => ⟨fun _ _ h => by omega, fun _ _ _ h => by omega, fun _ _ h => by omega, fun _ _ _ h => by omega, fun _ _ _ h => by omega⟩
  | f + 1 => by
    have ih := fS f
    refine ⟨fun s hF h => ?_, fun l s hF h => ?_, fun s hF h => ?_, fun s h0 hF h => ?_, fun s h0 hF h => ?_⟩
    · unfold blockP
      refine fn_down.bind fun t s1 h1 => (ih.stmts _ s1 (by omega) (by omega)).bind fun l s2 h2 => fn_up.bind fun _ s3 h3 => Fn.ret (by omega)
    · unfold stmtsL
      exact Fn.ite (fun _ => Fn.ret (by omega)) fun _ => (ih.stmt s hF (by omega)).bind fun n s1 h1 => (ih.stmts _ s1 (by omega) (by omega)).mono (by omega)
    · unfold stmtP
      refine Fn.ite (fun _ => Fn.fail) fun e => ?_
      have hk : s.hd.kind = 1 := Classical.byContradiction fun g => e (.inl g)
      unfold limitP
      by_cases h2 : s.stmts = 200
      · rw [if_pos h2]; exact Fn.fail
      rw [if_neg h2]
      show Fn (match startsN s.hd.text with
      | 161 => letP F s.more
      | 162 => branchP F f s.more
      | 163 => turnsP F f s.more
      | 164 => emitP F s.more
      | 165 => spawnP F s.more
      | 166 => addP F s.more
      | 167 => removeP s.more
      | 168 => shortP s.more
      | 169 => answerP F s.more
      | _ => setP F s.more) s.N
      have hk' : s.more.hd.kind ≠ 0 := by show s.hd.kind ≠ 0; omega
      have ht := take_N hk'
      have hm : s.more.N = s.N := rfl
      generalize s.more = s1 at *
      rw [← hm] at hF h ⊢
      split
      · unfold letP
        exact fn_name.bind fun t s2 h2 => fn_must.bind fun _ s3 h3 => (fn_ex (by omega)).bind fun n s4 h4 => fn_end.mono (by omega)
      · exact ih.branch _ hk' hF (by omega)
      · exact ih.turns _ hk' hF (by omega)
      · unfold emitP
        exact (fn_ex (by omega)).bind fun a s2 h2 => fn_must.bind fun _ s3 h3 => (fn_ex (by omega)).bind fun n s4 h4 => fn_end.mono (by omega)
      · unfold spawnP
        refine Fn.ite (fun e => Fn.ret ?_) fun _ => (fn_part (by omega)).bind fun n s2 h2 => (fn_spawnL (by omega) (by omega)).bind fun l s3 h3 => fn_end.mono (by omega)
        have := take_N (next_k e); omega
      · unfold addP
        exact (fn_part (by omega)).bind fun n s2 h2 => fn_end.mono (by omega)
      · unfold removeP
        exact fn_name.bind fun n s2 h2 => fn_end.mono (by omega)
      · unfold shortP
        exact fn_end.mono (by omega)
      · unfold answerP
        exact (fn_ex (by omega)).bind fun n s2 h2 => fn_end.mono (by omega)
      · unfold setP
        refine Fn.ite (fun e => ?_) fun _ => fn_must.bind fun _ s3 h3 => (fn_ex (by omega)).bind fun n s4 h4 => fn_end.mono (by omega)
        have := take_N (next_k e)
        exact fn_name.bind fun t s2 h2 => fn_must.bind fun _ s3 h3 => (fn_ex (by omega)).bind fun n s4 h4 => fn_end.mono (by omega)
    · have ht := take_N h0
      unfold branchP
      refine (fn_ex (by omega)).bind fun c s1 h1 => (ih.block s1 (by omega) (by omega)).bind fun b s2 h2 => Fn.ite (fun e => ?_) fun _ => Fn.ret (by omega)
      have ht2 := take_N (next_k e)
      refine Fn.ite (fun e2 => ?_) fun _ => (ih.block _ (by omega) (by omega)).bind fun x s3 h3 => Fn.ret (by omega)
      unfold limitP
      by_cases h2 : s2.stmts = 200
      · rw [if_pos h2]; exact Fn.fail
      rw [if_neg h2]
      show Fn ((branchP F f s2.take.more).bind fun e s4 => retP (node 13 s.hd [c, b, e]) s4) s.N
      have hm : s2.take.more.N = s2.take.N := rfl
      exact (ih.branch s2.take.more (next_k e2) (by omega) (by omega)).bind fun x s3 h3 => Fn.ret (by omega)
    · have ht := take_N h0
      unfold turnsP
      exact (fn_ex (by omega)).bind fun c s1 h1 => (ih.block s1 (by omega) (by omega)).bind fun b s2 h2 => Fn.ret (by omega)
theorem fn_block {s : PS} (hF : 20 * s.N + 10 ≤ F) : Fn (blockP F F s) s.N := (fS F).block s hF (by omega)
theorem fn_names {most : Int} : ∀ {f : Nat} {l : List Nd} {s : PS}, s.N + 1 ≤ f → Fn (namesL most f l s) s.N
  | 0, _, _, h => by omega
  | f + 1, l, s, h => by
    unfold namesL
    refine Fn.ite (fun e => ?_) fun _ => Fn.fail
    have ht := take_N (named_k e)
    unfold limitP
    by_cases h2 : ((l.length : Nat) : Int) = most
    · rw [if_pos h2]; exact Fn.fail
    rw [if_neg h2]
    show Fn (if nextB [44] s.take then namesL most f (l ++ [texted 31 s.hd []]) s.take.take else retP (l ++ [texted 31 s.hd []]) s.take) s.N
    refine Fn.ite (fun e => ?_) fun _ => Fn.ret (by omega)
    have ht2 := take_N (next_k e)
    exact (fn_names (by omega)).mono (by omega)
theorem fn_clauses : ∀ {ws : List Txt} {l : List Nd} {s : PS}, s.N + 1 ≤ F → Fn (clausesP F ws l s) (s.N + 1)
  | [], l, s, h => by unfold clausesP; exact Fn.ret (by omega)
  | w :: ws, l, s, h => by
    unfold clausesP
    refine Fn.ite (fun e => ?_) fun _ => fn_clauses h
    have ht := take_N (next_k e)
    exact (fn_names (by omega)).bind fun c s1 h1 => (fn_clauses (by omega)).mono (by omega)
theorem fn_system {s : PS} (h0 : s.hd.kind ≠ 0) (hF : 20 * s.N + 10 ≤ F) : Fn (systemP F s) s.N := by
  have ht := take_N h0
  unfold systemP
  exact fn_name.bind fun t s1 h1 => (fn_clauses (by omega)).bind fun l s2 h2 => (fn_block (by omega)).bind fun b s3 h3 => Fn.ret (by omega)
theorem fn_function {s : PS} (h0 : s.hd.kind ≠ 0) (hF : 20 * s.N + 10 ≤ F) : Fn (functionP F s) s.N := by
  have ht := take_N h0
  unfold functionP
  exact fn_name.bind fun t s1 h1 => fn_must.bind fun u s2 h2 => Fn.bind (m := s2.N + 1) (Fn.ite (fun _ => Fn.ret (by omega)) fun _ => (fn_names (by omega)).mono (by omega)) fun c s3 h3 => fn_must.bind fun _ s4 h4 => (fn_block (by omega)).bind fun b s5 h5 => Fn.ret (by omega)
theorem fn_programL : ∀ {f : Nat} {a b : Int} {l : List Nd} {s : PS}, 20 * s.N + 10 ≤ F → s.N + 1 ≤ f → Fn (programL F f a b l s) (s.N + 1)
  | 0, _, _, _, _, _, h => by omega
  | f + 1, a, b, l, s, hF, h => by
    unfold programL
    unfold limitP
    refine Fn.ite (fun _ => Fn.ret (by omega)) fun _ => Fn.ite (fun e => ?_) fun _ => Fn.ite (fun e => ?_) fun _ => Fn.fail
    · by_cases h2 : a = 16
      · rw [if_pos h2]; exact Fn.fail
      rw [if_neg h2]
      show Fn ((systemP F s).bind fun n s => programL F f (a + 1) b (l ++ [n]) s) (s.N + 1)
      exact (fn_system (next_k e) hF).bind fun n s1 h1 => (fn_programL (by omega) (by omega)).mono (by omega)
    · by_cases h2 : b = 16
      · rw [if_pos h2]; exact Fn.fail
      rw [if_neg h2]
      show Fn ((functionP F s).bind fun n s => programL F f a (b + 1) (l ++ [n]) s) (s.N + 1)
      exact (fn_function (next_k e) hF).bind fun n s1 h1 => (fn_programL (by omega) (by omega)).mono (by omega)
theorem parseT_ne {ts : List Tk} (h : ts.length ≤ 9000) : parseT ts ≠ none := by
  unfold parseT programP
  have : Fn (programL fuelP fuelP 0 0 [] ⟨ts, 0, 0⟩) (ts.length + 1) := fn_programL (by show 20 * ts.length + 10 ≤ 200000; omega) (by show ts.length + 1 ≤ 200000; omega)
  exact (this.bind (m' := ts.length + 1) fun l s h => Fn.ret h).1
end
end Go.Proofs.YtfpmgpblhhcpgaaGreatDoor.Hc.Syn
namespace Go.Proofs.YtfpmgpblhhcpgaaGreatDoor
set_option linter.unusedVariables false
set_option linter.unusedSimpArgs false
set_option maxRecDepth 100000
section
open Hc Hc.Lex Hc.Syn
theorem tokE_ok {c : UInt8} {t : Bs} {k n p : Nat} (h : tokE (c :: t) = .tok k n) (hp : p + (t.length + 1) ≤ 8000) : TkOk ⟨k, (c :: t).take n, p⟩ ∧ k ≠ 0 := by
  obtain ⟨h1, h2⟩ := tokE_le h
  have hlen : ((c :: t).take n).length ≤ 8000 := by rw [List.length_take, List.length_cons]; omega
  have hlen2 : ((c :: t).take n).length = n := by rw [List.length_take]; omega
  unfold tokE at h
  dsimp only at h
  split at h
  · rename_i hl
    split at h
    · cases h
    · rename_i hn
      cases h
      refine ⟨⟨(by show p ≤ 8000; omega), hlen, fun e => (by cases e), fun _ => ⟨(by show ((c :: t).take _).length ≤ 16; omega), ?_⟩, (by show 1 ≤ 3; omega)⟩, by decide⟩
      show shapeB ((c :: t).take (runL wordC (c :: t))) = true
      obtain ⟨m, hm⟩ : ∃ m, runL wordC (c :: t) = m + 1 := ⟨runL wordC (c :: t) - 1, by omega⟩
      have hall : ∀ x ∈ (c :: t).take (runL wordC (c :: t)), wordC x = true := fun x hx => runL_all hx
      rw [hm] at hall ⊢
      show (letterC c && (t.take m).all wordC) = true
      rw [hl, Bool.true_and, List.all_eq_true]
      exact fun x hx => hall x (List.mem_cons_of_mem _ hx)
  · split at h
    · rename_i hd
      split at h
      · cases h
      · rename_i hn
        split at h
        · cases h
        · cases h
          refine ⟨⟨(by show p ≤ 8000; omega), hlen, fun _ => ⟨fun e => (by have := congrArg List.length e; rw [hlen2] at this; simp at this; omega), ?_, ?_⟩, fun e => (by cases e), (by show 2 ≤ 3; omega)⟩, by decide⟩
          · rw [List.all_eq_true]
            exact fun x hx => runL_all hx
          · show decL 0 ((c :: t).take (runL digitC (c :: t))) ≤ _
            exact Nat.le_of_not_lt fun g => hn (.inl g)
    · split at h
      · cases h
      · cases h
        exact ⟨⟨(by show p ≤ 8000; omega), hlen, fun e => (by cases e), fun e => (by cases e), (by show 3 ≤ 3; omega)⟩, by decide⟩
theorem evL_skip {c : UInt8} {t : Bs} {n : Nat} (h : Lex.evL (c :: t) = .skip n) : 1 ≤ n ∧ n ≤ t.length + 1 := by
  unfold Lex.evL at h
  dsimp only at h
  by_cases hb : blankC c = true
  · rw [if_pos hb] at h; cases h; omega
  · rw [if_neg hb] at h
    cases hm : remL (c :: t) with
    | «to» m =>
      rw [hm] at h
      cases h
      have := remL_le hm
      simp only [List.length_cons] at this; omega
    | endless => rw [hm] at h; cases h
    | no =>
      rw [hm] at h
      have h : tokE (c :: t) = .skip n := h
      unfold tokE at h
      dsimp only at h
      repeat' split at h
      all_goals cases h
theorem evL_tok {c : UInt8} {t : Bs} {k n : Nat} (h : Lex.evL (c :: t) = .tok k n) : tokE (c :: t) = .tok k n := by
  unfold Lex.evL at h
  dsimp only at h
  by_cases hb : blankC c = true
  · rw [if_pos hb] at h; cases h
  · rw [if_neg hb] at h
    cases hm : remL (c :: t) with
    | «to» m => rw [hm] at h; cases h
    | endless => rw [hm] at h; cases h
    | no => rw [hm] at h; exact h
theorem lexF_ok : ∀ (f p : Nat) (r : Bs) (ts : List Tk), lexF f p r = .ok ts → p + r.length ≤ 8000 → (∀ t ∈ ts, TkOk t) ∧ ∃ i l, ts = i ++ [l] ∧ l.kind = 0 ∧ ∀ t ∈ i, t.kind ≠ 0 := by
  intro f
  induction f with
  | zero =>
    intro p r ts h hp
    cases r with
    | nil =>
      unfold lexF at h; cases h
      refine ⟨fun t ht => ?_, [], _, rfl, rfl, fun t ht => (by cases ht)⟩
      rw [List.mem_singleton.1 ht]
      exact ⟨(by show p ≤ 8000; omega), Nat.zero_le _, fun e => (by cases e), fun e => (by cases e), Nat.zero_le _⟩
    | cons c t => unfold lexF at h; cases h
  | succ f ih =>
    intro p r ts h hp
    cases r with
    | nil =>
      unfold lexF at h; cases h
      refine ⟨fun t ht => ?_, [], _, rfl, rfl, fun t ht => (by cases ht)⟩
      rw [List.mem_singleton.1 ht]
      exact ⟨(by show p ≤ 8000; omega), Nat.zero_le _, fun e => (by cases e), fun e => (by cases e), Nat.zero_le _⟩
    | cons c t =>
      unfold lexF at h
      rw [List.length_cons] at hp
      split at h
      · rename_i n hn
        have := evL_skip hn
        exact ih _ _ _ h (by rw [List.length_drop]; omega)
      · rename_i k n hn
        have ht := evL_tok hn
        have hle := tokE_le ht
        rw [List.length_cons] at hle
        cases hr : lexF f (p + n) (t.drop (n - 1)) with
        | error e => rw [hr] at h; cases h
        | ok l =>
          rw [hr] at h
          cases h
          obtain ⟨g1, i, z, g2, g3, g4⟩ := ih _ _ _ hr (by rw [List.length_drop]; omega)
          obtain ⟨k1, k2⟩ := tokE_ok (p := p) ht hp
          refine ⟨fun x hx => ?_, ⟨k, (c :: t).take n, p⟩ :: i, z, by rw [g2]; rfl, g3, fun x hx => ?_⟩
          · rcases List.mem_append.1 hx with hx | hx
            · rw [List.mem_singleton.1 hx]; exact k1
            · exact g1 x hx
          · rcases List.mem_cons.1 hx with rfl | hx
            · exact k2
            · exact g4 x hx
      · cases h
theorem lexS_ok {s : ByteArray} {ts : List Tk} (h : lexS s = .ok ts) : TsOk ts := by
  have hl := lexS_len h
  have hs : s.size ≤ 8000 := by
    rcases Nat.lt_or_ge 8000 s.size with g | g
    · unfold lexS at h; rw [if_pos g] at h; cases h
    · exact g
  rw [lexS_small hs] at h
  cases hr : lexL 0 (bs s) with
  | error e => rw [hr] at h; cases h
  | ok l =>
    rw [hr] at h
    cases h
    obtain ⟨g1, g2⟩ := lexF_ok _ _ _ _ hr (by rw [bs_size]; omega)
    exact ⟨g1, g2, by omega⟩
end
end Go.Proofs.YtfpmgpblhhcpgaaGreatDoor
