/-
  Machine: MachineInputs.
-/
import Derived.Test.YtfpmgpblhhcpgaaGreatOG
namespace Go.Proofs.YtfpmgpblhhcpgaaGreat
set_option linter.unusedVariables false
set_option linter.unusedSimpArgs false
open Go.Proofs.YtfpmgpblhhcpgaaGreat.Hc Go.Proofs.YtfpmgpblhhcpgaaGreat.Hc.Vf Go.Proofs.YtfpmgpblhhcpgaaGreat.Hc.Mc Go.Proofs.YtfpmgpblhhcpgaaGreat.Hc.Dice
set_option maxRecDepth 100000
variable {H : Heap}

abbrev InT := Int × Int × Int
def sameK (x y : InT) : Bool := y.1 == x.1 && y.2.1 == x.2.1
/-- The last of each player and key. -/
def lasts : List InT → List InT
  | [] => []
  | x :: r => if r.any (sameK x) = true then lasts r else x :: lasts r
theorem lasts_find (p q : Int) : ∀ l : List InT, (lasts l).reverse.find? (fun x => x.1 == p && x.2.1 == q) = l.reverse.find? (fun x => x.1 == p && x.2.1 == q)
  | [] => rfl
  | x :: r => by
    have ih := lasts_find p q r
    by_cases h : r.any (sameK x) = true
    · have e : lasts (x :: r) = lasts r := if_pos h
      rw [e, List.reverse_cons, List.find?_append, ← ih]
      cases hm : (x.1 == p && x.2.1 == q) with
      | false => simp [hm]
      | true =>
        obtain ⟨y, hy, hs⟩ := List.any_eq_true.1 h
        have : ((lasts r).reverse.find? fun x => x.1 == p && x.2.1 == q).isSome = true := by
          rw [ih, List.find?_isSome]
          refine ⟨y, List.mem_reverse.2 hy, ?_⟩
          unfold sameK at hs
          simp only [Bool.and_eq_true, beq_iff_eq] at hs hm ⊢
          exact ⟨hs.1.trans hm.1, hs.2.trans hm.2⟩
        obtain ⟨z, hz⟩ := Option.isSome_iff_exists.1 this
        rw [hz]; rfl
    · have e : lasts (x :: r) = x :: lasts r := if_neg h
      rw [e, List.reverse_cons, List.find?_append, List.reverse_cons, List.find?_append, ih]
theorem lasts_inp (l : List InT) (p q : Int) : inp (lasts l) p q = inp l p q := by
  unfold inp
  rw [lasts_find]
theorem lasts_sub : ∀ {l : List InT} {x : InT}, x ∈ lasts l → x ∈ l
  | [], _, h => by cases h
  | y :: r, x, h => by
    unfold lasts at h
    split at h
    · exact List.mem_cons_of_mem _ (lasts_sub h)
    · rcases List.mem_cons.1 h with h | h
      · exact h ▸ List.mem_cons_self
      · exact List.mem_cons_of_mem _ (lasts_sub h)
theorem lasts_len : ∀ l : List InT, (lasts l).length ≤ l.length
  | [] => Nat.le_refl _
  | y :: r => by
    have := lasts_len r
    unfold lasts
    split <;> simp <;> omega
/-- Inputs that answer alike. -/
theorem step_inp {P : MP} {E E' : En} (h : E'.frame = E.frame ∧ E'.idx = E.idx ∧ E'.gen = E.gen) (hi : ∀ p q, inp E'.inputs p q = inp E.inputs p q) (m : Ms) : stepM P E' m = stepM P E m := by
  unfold stepM
  split
  · unfold does
    dsimp only
    split
    · rfl
    split
    · rfl
    · unfold act
      rw [h.1, h.2.1, h.2.2]
      simp only [hi]
  · rfl
theorem runs_inp {P : MP} {E E' : En} (h : E'.frame = E.frame ∧ E'.idx = E.idx ∧ E'.gen = E.gen) (hi : ∀ p q, inp E'.inputs p q = inp E.inputs p q) {m m' : Ms} {N : Nat} {er : Int} (hr : Runs P E' m N er m') : Runs P E m N er m' := by
  induction hr with
  | over ho => exact .over ho
  | bad ho he =>
    rename_i m
    have := Runs.bad (P := P) (E := E) (m := m) ho (by rw [← step_inp h hi m]; exact he)
    rw [← step_inp h hi m] at this
    exact this
  | step ho he _ ih =>
    rename_i m _ _ _ _
    refine .step (m := m) ho (by rw [← step_inp h hi m]; exact he) ?_
    rw [← step_inp h hi m]
    exact ih
theorem outIs_inp {lim : Int} {ss : List Sy} {fs : List Rou} {n : Int} {E E' : En} {parts : List Pt} (h : E'.frame = E.frame ∧ E'.seed = E.seed ∧ E'.idx = E.idx ∧ E'.gen = E.gen) (hi : ∀ p q, inp E'.inputs p q = inp E.inputs p q) {o : Outc} (ho : OutIs lim ss fs n E' parts o) : OutIs lim ss fs n E parts o := by
  unfold OutIs at ho ⊢
  split
  · rename_i hn
    rw [if_pos hn] at ho
    have e : ∀ P : MP, initM P E' parts = initM P E parts := fun P => by unfold initM; rw [h.1, h.2.1, h.2.2.1]
    rw [e] at ho
    rcases ho with ⟨N, m', hr, rfl⟩ | ⟨N, er, m', hne, hr, rfl⟩
    · exact .inl ⟨N, m', runs_inp ⟨h.1, h.2.2.1, h.2.2.2⟩ hi hr, rfl⟩
    · exact .inr ⟨N, er, m', hne, runs_inp ⟨h.1, h.2.2.1, h.2.2.2⟩ hi hr, rfl⟩
  · rename_i hn
    rwa [if_neg hn] at ho
theorem inp_tail {B : Heap} {p : Sl × Sl} {ss : List Sy} {fs : List Rou} {e : EnV} {ins : List InT} {ps : List PtP} {H16 H7 : Heap} {b1 b2 b3 : Nat} {r : OutS} {o : Outc} {vs : List PtP} {cl : List CmP} {system_ other_ : Int} {k : Bool → Heap → Prop}
    (hP : PrgI B p ss fs) (hE : EnvI B e ins ps) (hx : Ext B H16) (h1 : Row H16 b1 T_api_Program [slV p.1, slV p.2]) (h2 : Row H16 b2 T_api_Env (envL e)) (h3 : Row H16 b3 T_api_Outcome (outV r)) (ho : OutIs (2 ^ 40) ss fs system_ (enS e ins) (firsts (ps.map PtP.pt)) o) (hm : OutM H7.size H16 r o vs cl)
    (hk : ∀ H', Ext H16 H' → k true H') : v_hindcastlaw16_MachineInputs_a0 b2 H16 other_ k b3 b1 system_ true := by
  unfold v_hindcastlaw16_MachineInputs_a0
  have hil : ins.length ≤ 2 ^ 43 := by have := hE.inL; omega
  have hpl : ps.length ≤ 2 ^ 42 := by have := hE.prL; omega
  have hin16 := hE.inp.ext hx
  have hinl := hin16.len
  refine ⟨(e.fr, e.sd, e.en, e.inS, e.ix, e.gn, e.rp), h2.rd_all, ?_⟩
  refine s_copied (e := e) hin16 (hE.prt.ext hx) (fun q hq => ⟨(hE.prR q hq).1.ext hx, (hE.prR q hq).2.1⟩) hil hpl fun H17 bi bp qs hE17 hcp hqs => ?_
  refine Nw_row (vs := [.int .i64 0, .int .i64 0, .int .i64 0, .slice none 0 0, .int .i64 0, .int .i64 0, .slice none 0 0]) fun b4 H18 hb4 hE18 _ hr4 => ?_
  simp only [adr_add]
  refine St_row hr4 (by simp) fun G1 hU1 _ hg1 => St_row hg1 (by simp) fun G2 hU2 _ hg2 => St_row hg2 (by simp) fun G3 hU3 _ hg3 => St_row hg3 (by simp) fun G4 hU4 _ hg4 => St_row hg4 (by simp) fun G5 hU5 _ hg5 => ?_
  refine St_row hg5 (by simp) fun G6 hU6 _ hg6 => St_row hg6 (by simp) fun G7 hU7 _ hg7 => St_row hg7 (by simp) fun G8 hU8 _ hg8 => St_row hg8 (by simp) fun H27 hU9 _ hg9 => ?_
  have hql := map_len hqs
  have hg9 : Row H27 b4 T_api_Env (envL ⟨e.fr, e.sd, other_, ⟨none, 0, 0⟩, e.ix, e.gn, ⟨some (adr bp), ps.length, ps.length + 80⟩⟩) := hg9
  have hUG : Upd (· = b4) H18 H27 := (((((((hU1.trans hU2 fun _ _ e => e).trans hU3 fun _ _ e => e).trans hU4 fun _ _ e => e).trans hU5 fun _ _ e => e).trans hU6 fun _ _ e => e).trans hU7 fun _ _ e => e).trans hU8 fun _ _ e => e).trans hU9 fun _ _ e => e
  have hz17 := hE17.size
  have hU27 : Upd (· = b4) H17 H27 := (hE18.mono fun _ _ h => h.elim).trans hUG fun _ _ e => e
  have hE27 : Ext H16 H27 := hE17.trans hU27 fun b hb e => by omega
  -- the last ones are chosen
  refine LoopT.mk (fun i H' => ∃ (m : Nat) (s : Sl) (acc : List InT), i = m ∧ m ≤ ins.length ∧ Upd (· = b4) H17 H' ∧ Row H' b4 T_api_Env (envL ⟨e.fr, e.sd, other_, s, e.ix, e.gn, ⟨some (adr bp), ps.length, ps.length + 80⟩⟩) ∧ VecN H' T_api_Input 3 s (acc.flatMap inV) ∧ (∀ b, s.a = some (adr b) → H17.size ≤ b) ∧ acc.length ≤ m ∧ lasts ins = acc ++ lasts (ins.drop m))
    (fun i _ => ins.length - i.toNat) ⟨0, ⟨none, 0, 0⟩, [], rfl, Nat.zero_le _, hU27, hg9, VecN.nil _ _ _, (fun b hb => by cases hb), Nat.le_refl _, rfl⟩ ?_
  rintro next _ H28 ⟨m, s, acc, rfl, hml, hU28, hr28, hv28, hs28, hal, hacc⟩ hnext
  have hE28 : Ext H16 H28 := hE17.trans hU28 fun b hb e => by omega
  have q2 : ∀ {H'}, Ext H16 H' → hcell H' ⟨b2, 3, none⟩ = some (.slice e.inS.a e.inS.len e.inS.cap) := fun h => ((h.row h2 fun h => h).cell 3).trans rfl
  have gI : ∀ {j : Nat} (hj : j < ins.length) {k : Addr → Prop}, (∀ a, hcells H16 a 0 (inV ins[j]) → k a) → IxA 3 e.inS (j : Nat) k := fun {j} hj {k} hk => IxA_rn' inV_len hin16 (by decide) rfl hj fun a ha => by
    rw [getElem!_pos ins j hj] at ha
    exact hk a ha
  have up : ∀ {H' : Heap} {a : Addr} {v : Value}, Ext H16 H' → hcell H16 a = some v → hcell H' a = some v := fun hE g => hE.cell g fun h => h
  refine Ld_sl (s := e.inS) (q2 hE28) (Br_dec (fun hlt => ?_) fun hge => ?_)
  · have hm2 : m < ins.length := by omega
    have hdrop : ins.drop m = ins[m] :: ins.drop (m + 1) := List.drop_eq_getElem_cons hm2
    refine Jn.mk (fun _ H' => ∃ (s : Sl) (acc : List InT), Upd (· = b4) H17 H' ∧ Row H' b4 T_api_Env (envL ⟨e.fr, e.sd, other_, s, e.ix, e.gn, ⟨some (adr bp), ps.length, ps.length + 80⟩⟩) ∧ VecN H' T_api_Input 3 s (acc.flatMap inV) ∧ (∀ b, s.a = some (adr b) → H17.size ≤ b) ∧ acc.length ≤ m + 1 ∧ lasts ins = acc ++ lasts (ins.drop (m + 1))) (fun kk hkk => ?_) ?_
    rotate_left
    · rintro _ H29 ⟨s', acc', g1, g2, g3, g4, g5, g6⟩
      exact Lt.mk (u := ((m + 1 : Nat) : Int)) (by rw [wrap_i64_id] <;> omega) (hnext _ _ ⟨m + 1, s', acc', rfl, hm2, g1, g2, g3, g4, g5, g6⟩ (by omega))
    refine Lt.mk (u := ((m + 1 : Nat) : Int)) (by rw [wrap_i64_id] <;> omega) ?_
    refine LoopT.mk (fun t H' => H28 = H' ∧ ∃ j : Nat, t.2 = j ∧ m + 1 ≤ j ∧ j ≤ ins.length ∧ t.1 = ((ins.drop (m + 1)).take (j - (m + 1))).any (sameK ins[m])) (fun t _ => ins.length - t.2.toNat) ⟨rfl, m + 1, rfl, Nat.le_refl _, hm2, by simp⟩ ?_
    rintro next2 ⟨lt, j⟩ _ ⟨rfl, j', hj, hj1, hj2, hlt'⟩ hnext2
    dsimp only at hj hlt' ⊢
    subst hj hlt'
    refine Ld_sl (s := e.inS) (q2 hE28) (Br_dec (fun hlt2 => ?_) fun hge2 => ?_)
    · have hj3 : j' < ins.length := by omega
      have etk : (ins.drop (m + 1)).take (j' + 1 - (m + 1)) = (ins.drop (m + 1)).take (j' - (m + 1)) ++ [ins[j']] := by
        rw [show j' + 1 - (m + 1) = (j' - (m + 1)) + 1 by omega, List.take_add_one, List.getElem?_drop, show m + 1 + (j' - (m + 1)) = j' by omega, List.getElem?_eq_getElem hj3]; rfl
      refine Jn.mk (fun b H' => H28 = H' ∧ b = ((ins.drop (m + 1)).take (j' + 1 - (m + 1))).any (sameK ins[m])) (fun kk2 hkk2 => ?_) ?_
      · have hst : ∀ b, b = (((ins.drop (m + 1)).take (j' - (m + 1))).any (sameK ins[m]) || sameK ins[m] ins[j']) → kk2 b H28 := fun b hb => hkk2 _ _ ⟨rfl, by rw [hb, etk, List.any_append]; simp⟩
        refine Br.mk (fun hb => hst _ (by rw [hb]; rfl)) fun hb => ?_
        rw [hb, Bool.false_or] at hst
        unfold sameK at hst
        refine Ld_sl (s := e.inS) (q2 hE28) (gI hj3 fun a1 ha1 => ?_)
        refine Ld_int (n := ins[j'].1) (up hE28 ha1.1) ?_
        refine Ld_sl (s := e.inS) (q2 hE28) (gI hm2 fun a2 ha2 => ?_)
        refine Ld_int (n := ins[m].1) (up hE28 ha2.1) (Br.mk (fun hx => ?_) fun hx => ?_)
        · refine Ld_sl (s := e.inS) (q2 hE28) (gI hj3 fun a1 ha1 => ?_)
          refine Ld_int (n := ins[j'].2.1) (up hE28 ha1.2.1) ?_
          refine Ld_sl (s := e.inS) (q2 hE28) (gI hm2 fun a2 ha2 => ?_)
          refine Ld_int (n := ins[m].2.1) (up hE28 ha2.2.1) (hst _ ?_)
          rw [hx, Bool.true_and]
        · exact hst _ (by rw [hx, Bool.false_and])
      · rintro b _ ⟨rfl, rfl⟩
        exact Lt.mk (u := ((j' + 1 : Nat) : Int)) (by rw [wrap_i64_id] <;> omega) (hnext2 _ _ ⟨rfl, j' + 1, rfl, by omega, hj3, rfl⟩ (by dsimp only; omega))
    · have hj3 : j' = ins.length := by omega
      have etk : (ins.drop (m + 1)).take (j' - (m + 1)) = ins.drop (m + 1) := by
        rw [hj3]; exact List.take_of_length_le (by rw [List.length_drop]; omega)
      rw [etk]
      refine Jn_in (Br_not (Br.mk (fun hany => ?_) fun hany => ?_))
      · refine hkk _ _ ⟨s, acc, hU28, hr28, hv28, hs28, by omega, ?_⟩
        rw [hacc, hdrop]
        conv => lhs; rw [lasts, if_pos hany]
      · refine Ld_sl (s := s) ((hr28.cell 3).trans rfl) (Ld_sl (s := e.inS) (q2 hE28) (gI hm2 fun a ha => ?_))
        refine ⟨(ins[m].1, ins[m].2.1, ins[m].2.2), hcells_ext hE28 ha, ?_⟩
        refine Nw_row (vs := inV ins[m]) fun b5 H33 hb5 hE33 _ hr5 => ?_
        have hE33' := hE28.trans hE33 fun _ _ h => h
        have r33 := hE33.row hr28 fun h => h
        refine Stab_2 (q2 hE33') ((r33.cell 3).trans rfl) ?_
        have hv33 := hv28.ext hE33
        have hvl := hv33.len
        rw [flat_len inV_len] at hvl
        refine App_vecN (ws := inV ins[m]) rfl (by decide) hv33 hr5.rd_all rfl (inV_one _) (by decide) (by dsimp only; omega) fun l2 H34 hv34 hl34 hU34 ha34 => ?_
        have hE34 : Ext H16 H34 := hE33'.trans hU34 fun b hb e => by have := hs28 b e.1; omega
        have hst34 : ∀ y ∈ [(a.add 0, Value.int .i64 ins[m].1), (a.add 1, Value.int .i64 ins[m].2.1), (a.add 2, Value.int .i64 ins[m].2.2), ((⟨b2, 3, none⟩ : Addr), .slice e.inS.a e.inS.len e.inS.cap)], hcell H34 y.1 = some y.2 := fun y hy => by
          have ha' := hcells_ext hE34 ha
          simp only [List.mem_cons, List.not_mem_nil, or_false] at hy
          rcases hy with rfl | rfl | rfl | rfl
          · exact ha'.1
          · exact ha'.2.1
          · exact ha'.2.2.1
          · exact q2 hE34
        refine Stab_all hst34 ?_
        have nb : ∀ b, s.a = some (adr b) → b ≠ b4 := fun b hb => hv28.ne hb hr28 (by decide)
        have r34 := hU34.row r33 fun e => nb _ e.1 rfl
        refine St_row r34 (by simp) fun H35 hU35 _ hr35 => ?_
        have nb2 : ∀ b, l2.a = some (adr b) → b ≠ b4 := fun b hb => hv34.ne hb r34 (by decide)
        refine hkk _ _ ⟨l2, acc ++ [ins[m]], ?_, hr35, ?_, fun b hb => ?_, by simp; omega, ?_⟩
        · refine ((hU28.trans (hE33.mono fun _ _ h => h.elim : Upd (· = b4) H28 H33) fun _ _ e => e).trans hU34 fun b hb e => ?_).trans hU35 fun _ _ e => e
          have := hs28 b e.1; omega
        · have := hv34.upd hU35 fun b hb e => nb2 b hb e
          rw [List.flatMap_append]; simpa using this
        · rcases ha34 with e | e
          · rw [e.1] at hb; exact hs28 b hb
          · rw [e] at hb; cases hb; have := hU28.size; have := hE33.size; omega
        · rw [hacc, hdrop]
          conv => lhs; rw [lasts, if_neg (by rw [hany]; decide)]
          simp
  · have hm3 : m = ins.length := by omega
    rw [hm3, List.drop_length] at hacc
    have hacc : lasts ins = acc := by rw [hacc]; simp [lasts]
    subst hacc
    have r1 := hE28.row h1 fun h => h
    have r3 := hE28.row h3 fun h => h
    refine ⟨r, r3.rd_all, ⟨p, r1.rd_all, ⟨(e.fr, e.sd, other_, s, e.ix, e.gn, ⟨some (adr bp), ps.length, ps.length + 80⟩), hr28.rd_all, ?_⟩⟩⟩
    have hx28 := hx.trans hE28 fun _ _ h => h
    have hcp28 : CpR H16.size H28 bi bp ins qs := hcp.upd hU28 fun b h1 h2 e => by omega
    have hls := lasts_len ins
    refine s_RunG (e := ⟨e.fr, e.sd, other_, s, e.ix, e.gn, ⟨some (adr bp), ps.length, ps.length + 80⟩⟩) (ins := lasts ins) (ps0 := qs) (fs := fs) (hP.sys.ext hx28) (fun hn => ?_) fun H36 r7 o7 vs7 cl7 hE36 ho7 hm7 => ?_
    · have hrp := hcp28.rnP
      rw [hql] at hrp
      exact ⟨hP.sys.ext hx28, hn, hP.ctx hx28 hn (VecN.rn inV_len (by decide) hv28) (by have := hE.inL; omega) (fun a ha => by
          obtain ⟨b, rfl⟩ := VecN.blk hv28 ha
          exact ⟨rfl, hv28.lt ha⟩) (fun ha => by
          rcases hv28.own with ⟨_, h, _⟩ | ⟨b, _, h, _⟩
          · exact h
          · rw [h] at ha; cases ha), ((hP.sysR _ (sys_get hn)).rou.code).ext hx28, hrp, fun q hq' => ⟨hcp28.rlV hq', (cp_parts hE hqs q hq').1, (cp_parts hE hqs q hq').2⟩, by omega, (hP.sysR _ (sys_get hn)).lens 3 (by decide), hP.pok hn _, ⟨hE.fr, hE.ix, fun x hx => (hE.in64 x (lasts_sub hx)).2.2⟩⟩
    · have ho7 := outIs_inp (E := enS e ins) (E' := enS ⟨e.fr, e.sd, other_, s, e.ix, e.gn, ⟨some (adr bp), ps.length, ps.length + 80⟩⟩ (lasts ins)) ⟨rfl, rfl, rfl, rfl⟩ (lasts_inp ins) ho7
      rw [hqs] at ho7
      have heq : o7 = o := ho7.unique ho
      subst heq
      have r3 := hE36.row r3 fun h => h
      have hE1636 := hE28.trans hE36 fun _ _ h => h
      refine Stab_all (fun y hy => ?_) ?_
      · simp only [List.mem_cons, List.not_mem_nil, or_false] at hy
        rcases hy with rfl | rfl | rfl | rfl | rfl
        · exact (r3.cell 0).trans rfl
        · exact (r3.cell 1).trans rfl
        · exact (r3.cell 2).trans rfl
        · exact (r3.cell 3).trans rfl
        · exact (r3.cell 4).trans rfl
      have hsm : OutSm o7 vs cl := outIs_small hP hE.eok (firsts_sub' fun q hq => by
        obtain ⟨q', hq', rfl⟩ := List.mem_map.1 hq
        exact (hE.prR q' hq').2.2.1) (firsts_sub' fun q hq => by
        obtain ⟨q', hq', rfl⟩ := List.mem_map.1 hq
        exact (hE.prR q' hq').2.1) (by
        have := firsts_len (ps.map PtP.pt) []
        rw [List.length_map] at this
        unfold firsts
        simp only [List.length_nil] at this
        omega) ho hm.vals hm.cmds
      refine s_same (hm.rd.ext hE1636) hm7.rd hsm fun H37 hE37 => ?_
      have r4 := (hE36.trans hE37 fun _ _ h => h).row hr28 fun h => h
      have r1 := (hE36.trans hE37 fun _ _ h => h).row r1 fun h => h
      refine Stab_all (st_both (e := ⟨e.fr, e.sd, other_, s, e.ix, e.gn, ⟨some (adr bp), ps.length, ps.length + 80⟩⟩) r1 r4) (Jn_in ?_)
      exact hk H37 (hE1636.trans hE37 fun _ _ h => h)
theorem RN.pre {α : Type} {f : α → List Value} {n : Nat} (hf : ∀ e, (f e).length = n) {s : Sl} {xs : List α} (h : RN f n H s xs) {j c : Nat} (hj : j ≤ xs.length) (hc : j ≤ c) : RN f n H ⟨s.a, j, c⟩ (xs.take j) := by
  refine ⟨?_, by rw [List.length_take]; dsimp only; omega, hc⟩
  have hr := h.rd
  unfold rdL at hr ⊢
  have e : xs.flatMap f = (xs.take j).flatMap f ++ (xs.drop j).flatMap f := by rw [← List.flatMap_append, List.take_append_drop]
  cases ha : s.a with
  | none =>
    rw [ha] at hr
    rw [e] at hr
    exact (List.append_eq_nil_iff.1 hr).1
  | some a =>
    rw [ha] at hr
    rw [e] at hr
    exact (hcells_app.1 hr).1
theorem s_MachineInputs {p : Sl × Sl} {ss : List Sy} {fs : List Rou} {e : EnV} {ins : List InT} {ps : List PtP} (hP : PrgI H p ss fs) (hE : EnvI H e ins ps) {n other : Int} {k : Bool → Heap → Prop} (hk : ∀ H', Ext H H' → k true H') :
    CallT Pg f_hindcastlaw16_MachineInputs [prgA p, .int .i64 n, envA e, .int .i64 other] (.one (.c .bool)) H k := by
  refine c_hindcastlaw16_MachineInputs p n (e.fr, e.sd, e.en, e.inS, e.ix, e.gn, e.rp) other ?_
  unfold v_hindcastlaw16_MachineInputs
  refine Nw_row (vs := [slV p.1, slV p.2]) fun b1 H1 hb1 hE1 _ hr1 => ?_
  refine Nw_row (vs := envL e) fun b2 H2 hb2 hE2 _ hr2 => s_shown fun H3 hE3 => ?_
  have hE03 : Ext H H3 := (hE1.trans hE2 fun _ _ h => h).trans hE3 fun _ _ h => h
  have r1 := (hE2.trans hE3 fun _ _ h => h).row hr1 fun h => h
  have r2 := hE3.row hr2 fun h => h
  simp only [adr_add]
  have hz1 := hE1.size
  refine Ld_sl (s := e.inS) ((r2.cell 3).trans rfl) ?_
  refine Jn.mk (fun _ H' => ∃ (e' : EnV) (ins' : List InT), Ext H H' ∧ Row H' b1 T_api_Program [slV p.1, slV p.2] ∧ Row H' b2 T_api_Env (envL e') ∧ EnvI H e' ins' ps) (fun kk hkk => ?_) ?_
  · have hil := hE.inp.len
    have hic := hE.inp.cap
    refine Br_dec (fun hgt => ?_) fun _ => hkk _ _ ⟨e, ins, hE03, r1, r2, hE⟩
    refine Ld_sl (s := e.inS) ((r2.cell 3).trans rfl) (SlA0 (by decide) (by omega) (Int.le_refl _) ?_)
    simp only [Int.toNat_natCast]
    refine St_row r2 (by simp) fun H5 hU5 _ hr5 => ?_
    refine hkk _ _ ⟨{ e with inS := ⟨e.inS.a, 300, e.inS.cap⟩ }, ins.take 300, extUpd hE03 (by omega) hU5, hU5.row r1 fun e => by omega, hr5, ?_⟩
    have hi := hE.inL
    exact { hE with inp := RN.pre inV_len hE.inp (by omega) (by omega), in64 := fun x hx => hE.in64 x (List.mem_of_mem_take hx), inL := by rw [List.length_take]; omega }
  rintro _ H4 ⟨e', ins', hE04, r1, r2, hE'⟩
  clear hr2 hr1 hE03 hE
  generalize e' = e at *
  generalize ins' = ins at *
  have hE := hE'
  have hil : ins.length ≤ 2 ^ 43 := by have := hE.inL; omega
  have hpl : ps.length ≤ 2 ^ 42 := by have := hE.prL; omega
  have hpr : ∀ {H'}, Ext H H' → ∀ q ∈ ps, RL (Value.int .i64) H' q.sl q.vals ∧ q.vals.length ≤ 2 ^ 44 := fun hx q hq => ⟨(hE.prR q hq).1.ext hx, (hE.prR q hq).2.1⟩
  refine ⟨p, r1.rd_all, ⟨(e.fr, e.sd, e.en, e.inS, e.ix, e.gn, e.rp), r2.rd_all, ?_⟩⟩
  refine s_copied (e := e) (hE.inp.ext hE04) (hE.prt.ext hE04) (hpr hE04) hil hpl fun H6 bi bp qs hE6 hcp hqs => ?_
  have hE06 := hE04.trans hE6 fun _ _ h => h
  have r1 := hE6.row r1 fun h => h
  have r2 := hE6.row r2 fun h => h
  refine Stab_all (st_prog r1) ?_
  have hql := map_len hqs
  rw [← hql]
  refine s_Long (e := cpE e bi bp ins.length qs.length) (ps0 := qs) (fs := fs) (ins := ins) (most := 300000) (by decide) (hP.sys.ext hE06) (fun hn => run_in hP hE hE06 hcp hqs hn) fun lg H7 hE7 => ?_
  have hE07 := hE06.trans hE7 fun _ _ h => h
  have r1 := hE7.row r1 fun h => h
  have r2 := hE7.row r2 fun h => h
  refine Stab_all (st_env r2) (Jn_in ?_)
  rw [Bool.not_true, Br_false]
  refine Br.mk (fun _ => hk _ hE07) fun _ => ?_
  refine ⟨p, r1.rd_all, ⟨(e.fr, e.sd, e.en, e.inS, e.ix, e.gn, e.rp), r2.rd_all, ?_⟩⟩
  refine run3 (f := f_machine_Run) (e := e) (hE.inp.ext hE07) hil (hE.prt.ext hE07) (hpr hE07) hpl r1 r2 (Res := fun Ha Hb r => ∃ o vs cl, OutIs (2 ^ 40) ss fs n (enS e ins) (firsts (ps.map PtP.pt)) o ∧ OutM Ha.size Hb r o vs cl)
    (fun {Ha Hb Hc r b} ⟨o, vs, cl, g1, g2⟩ hU hb => ⟨o, vs, cl, g1, g2.upd hU fun c h1 h2 e => by omega⟩) (fun {Ha lo bi bp qs} hx hcp hqs {k} hk => ?_) (K := fun b3 H14 => v_hindcastlaw16_MachineInputs_a0 b2 H14 other k b3 b1 n true) fun Ha H14 b3 r hx _ h3 ⟨o, vs, cl, g1, g2⟩ _ => ?_
  · rw [← map_len hqs]
    exact s_RunM hP hE (hE07.trans hx fun _ _ h => h) hcp hqs fun H' r o vs cl h1 h2 h3 => hk _ _ h1 ⟨o, vs, cl, h2, h3⟩
  · exact inp_tail hP hE (hE07.trans hx fun _ _ h => h) (hx.row r1 fun h => h) (hx.row r2 fun h => h) h3 g1 g2 fun H' hx' => hk H' ((hE07.trans hx fun _ _ h => h).trans hx' fun _ _ h => h)
theorem w_MachineInputs {H : Heap} (v0 v1 v2 v3 : Value) (r0 : RdV Tryz.prog H 25 v0) (r1 : RdV Tryz.prog H 3 v1) (r2 : RdV Tryz.prog H 33 v2) (r3 : RdV Tryz.prog H 3 v3) :
    CallT Tryz.prog 5 [v0, v1, v2, v3] (.one (.c .bool)) H (fun b H' => b = true ∧ Ext H H') := by
  obtain ⟨p, ss, fs, rfl, hP⟩ := rd_prog r0
  obtain ⟨n, rfl, hn⟩ := rd_i64 Tryz.underlying3 r1
  obtain ⟨e, ins, ps, rfl, hE⟩ := rd_env r2
  obtain ⟨o, rfl, ho⟩ := rd_i64 Tryz.underlying3 r3
  exact s_MachineInputs hP hE fun H' h => ⟨rfl, h⟩
end Go.Proofs.YtfpmgpblhhcpgaaGreat
