/-
  Machine: instructions that go elsewhere.
-/
import Derived.Test.YtfpmgpblhhcpgaaGreatMF
import Derived.Test.YtfpmgpblhhcpgaaGreatVA
namespace Go.Proofs.YtfpmgpblhhcpgaaGreat
set_option linter.unusedVariables false
set_option linter.unusedSimpArgs false
set_option maxRecDepth 100000
section
open Hc Hc.Vf Hc.Mc Hc.Dice
variable {H : Heap}
abbrev stat (g : RunG) : Sl × Sl × Sy × Int × Int × Int × Int × Sl × Int × Int × Sl × Nat × Nat := (g.pS, g.pF, g.s, g.n, g.fr, g.sd, g.en, g.inS, g.ix, g.gn, g.rp, g.mp, g.dp)
structure Post (H0 : Heap) (x : MG) (res : Int × Ms) (H' : Heap) (x' : MG) : Prop where
  mac : MacR H0 H' x'
  b : x'.b = x.b
  st : stat x'.g = stat x.g
  er : x'.g.er = res.1
  ms : res.1 = 0 → x'.ms = res.2
  steps : x'.g.st = res.2.steps
abbrev cutS (m : Ms) (t : Nat) : Ms := { m with top := { m.top with stk := m.top.stk.take (m.top.stk.length - t) } }
theorem goal_nx {r : Rou} {P : MP} (hP : P.lim = 2 ^ 40) (A : Int) : NxR r.code.length (goal P (fnOf r) A) (if 0 ≤ A ∧ A ≤ 2 ^ 40 then A else -1) := by
  unfold goal NxR
  rw [hP]
  dsimp only
  repeat' split
  all_goals omega
theorem vec_pre {H : Heap} {T : TypeId} {s : Sl} {vs : List Value} (h : Vec H T s vs) {n : Nat} (hn : n ≤ vs.length) : Vec H T ⟨s.a, n, s.cap⟩ (vs.take n) := by
  have hl := h.len
  refine ⟨by simp; omega, ?_, by have := h.lc; dsimp only; omega⟩
  rcases h.own with ⟨h1, h2, h3⟩ | ⟨b, sp, h1, h2, h3⟩
  · exact .inl ⟨h1, h2, by rw [h3]; simp⟩
  · refine .inr ⟨b, vs.drop n ++ sp, h1, by rw [← List.append_assoc, List.take_append_drop]; exact h2, ?_⟩
    simp only [List.length_append, List.length_drop, List.length_take]
    omega
theorem rou_get {fs : List Rou} {j : Nat} (hj : j < fs.length) : (fs.map fnOf)[j]! = fnOf fs[j]! := by
  rw [getElem!_pos (fs.map fnOf) j (by simpa using hj), getElem!_pos fs j hj]; simp
theorem s_jumps {H0 : Heap} {x : MG} {fs : List Rou} {ins : List (Int × Int × Int)} (h : MacR H0 H x) (hc : CtxR H0 x.g.pF x.g.s x.g.inS fs ins) (her : x.g.er = 0) (hst : 0 ≤ x.g.st ∧ x.g.st ≤ 2000) {op A : Int}
    (ht : takes (parms fs) (op, A) ≤ x.top.stk.length) (hsl : x.top.stk.length ≤ 64) (hcall : op = 21 → 0 ≤ A ∧ A < (fs.length : Int) ∧ x.low.length + 1 ≤ 16) (hret : op = 22 → x.low ≠ [] ∧ ∀ a ∈ x.low, a.stk.length ≤ 64) (E : En) {k : Bool → Heap → Prop}
    (hyes : ∀ H' x', (19 ≤ op ∧ op ≤ 24) → Post H0 x (act (mpOf x.g fs) E x.ms (cutS x.ms (takes (parms fs) (op, A)).toNat) (args x.ms (takes (parms fs) (op, A)).toNat) op.toNat A) H' x' → k true H')
    (hno : ∀ H', ¬ (19 ≤ op ∧ op ≤ 24) → Ext H H' → k false H') :
    CallT Pg f_machine_run_jumps [.pointer (some (adr x.b)), .agg #[.int .i64 op, .int .i64 A]] (.one (.c .bool)) H k := by
  refine c_machine_run_jumps _ (op, A) ?_
  unfold v_machine_run_jumps
  refine Nw_row (vs := [.int .i64 op, .int .i64 A]) fun b1 H1 hb1 hE1 hz1 hr1 => ?_
  have h1 := h.ext hE1
  have c0 : hcell H1 (adr b1) = some (.int .i64 op) := (hr1.cell 0).trans rfl
  have c1 : hcell H1 ⟨b1, 1, none⟩ = some (.int .i64 A) := (hr1.cell 1).trans rfl
  simp only [NilCk_some, adr_add, mk_add, Jn]
  refine s_last h1 (Ld_int c0 ?_)
  simp only [NilCk_some, adr_add, mk_add]
  refine Br.mk (fun h19 => ?_) fun h19 => ?_
  · have h19 := beqI h19; subst h19
    refine Ld_int c1 (s_goal (m_cell h1 (t := { x.top with nx := goal (mpOf x.g fs) (fnOf x.top.r) A, v := if 0 ≤ A ∧ A ≤ 2 ^ 40 then A else -1 }) (by decide) rfl rfl rfl rfl rfl rfl rfl (goal_nx rfl A) fun H2 c hU2 _ h2 => ?_))
    refine hyes H2 _ (by omega) ⟨h2, rfl, rfl, her, fun _ => ?_, rfl⟩
    have e : (takes (parms fs) (19, A)).toNat = 0 := by rw [takes_of (by decide) (by decide) (c := 0) (by decide)]; rfl
    rw [e]
    simp [act, cutS, MG.ms, AP.act]
  have h19 := bneI h19
  refine Br.mk (fun h20 => ?_) fun h20 => ?_
  · have h20 := beqI h20; subst h20
    have e : takes (parms fs) (20, A) = 1 := takes_of (by decide) (by decide) (by decide)
    rw [e] at ht hyes
    refine m_take h1 (n := 1) rfl (by omega) (by omega) fun r H2 c2 hU2 h2 hv2 _ => ?_
    have hx : (x.top.stk.drop (x.top.stk.length - 1)).length = 1 := by simp; omega
    have ha : args x.ms 1 = x.top.stk.drop (x.top.stk.length - 1) := rfl
    generalize hl : x.top.stk.drop (x.top.stk.length - 1) = l at *
    match l, hx with
    | [w], _ =>
      refine IxA_vec hv2 (by decide) (by simp) fun a2 ha2 _ => Ld_int (n := w) (ha2.trans rfl) ?_
      have c12 : hcell H2 ⟨b1, 1, none⟩ = some (.int .i64 A) := hU2.cell c1 (by have := h.topR.row.lt; dsimp only; omega)
      refine Br.mk (fun hw => ?_) fun hw => ?_
      · refine Ld_int c12 (s_goal (m_cell h2 (t := { x.top.took 1 with nx := goal (mpOf x.g fs) (fnOf x.top.r) A, v := if 0 ≤ A ∧ A ≤ 2 ^ 40 then A else -1 }) (by decide) rfl rfl rfl rfl rfl rfl rfl (goal_nx rfl A) fun H3 c hU3 _ h3 => ?_))
        refine hyes H3 _ (by omega) ⟨h3, rfl, rfl, her, fun _ => ?_, ?_⟩
        · rw [show (1 : Int).toNat = 1 from rfl, ha]
          have hw := beqI hw
          subst hw
          rfl
        · rw [show (1 : Int).toNat = 1 from rfl, ha]
          have hw := beqI hw
          subst hw
          rfl
      · refine hyes H2 _ (by omega) ⟨h2, rfl, rfl, her, fun _ => ?_, ?_⟩
        · rw [show (1 : Int).toNat = 1 from rfl, ha]
          have hw := bneI hw
          show _ = (if w = 0 then _ else cutS x.ms 1)
          rw [if_neg hw]
        · rw [show (1 : Int).toNat = 1 from rfl, ha]
          have hw := bneI hw
          show _ = (if w = 0 then _ else cutS x.ms 1).steps
          rw [if_neg hw]
  have h20 := bneI h20
  have bne : b1 ≠ x.top.p := by have := h.topR.row.lt; omega
  refine Br.mk (fun h21 => ?_) fun h21 => ?_
  · have h21 := beqI h21; subst h21
    obtain ⟨hA0, hA1, hA2⟩ := hcall rfl
    have hj : A.toNat < fs.length := by omega
    have e : takes (parms fs) (21, A) = max (fs[A.toNat]!).params 0 := by
      unfold takes isOpB
      rw [if_pos (show decide ((1 : Int) ≤ 21 ∧ (21 : Int) ≤ 39) = true by decide), if_pos (show (tbl[(21 : Int).toNat]!).2.2 = 1 by decide), if_pos ⟨hA0, by simpa [parms] using hA1⟩, parms_get hj]
    have hrou : (mpOf x.g fs).fns[A.toNat]! = fnOf fs[A.toNat]! := rou_get hj
    generalize hr : fs[A.toNat]! = r at *
    have hcr : CodeR H0 r := hc.fnC r (by rw [← hr, getElem!_pos fs _ hj]; exact List.getElem_mem _)
    rw [e] at ht hyes
    refine Ld_sl (s := x.g.pF) ((h1.run.1.cell 1).trans rfl) (Ld_int c1 (IxA_rn' rouV_len (hc.fn.ext h1.base) (by decide) (j := A.toNat) (by omega) hj fun a5 ha5 => ?_))
    rw [hr] at ha5
    refine ⟨(r.name, r.params, r.locals, r.sl), ha5, ?_⟩
    refine Nw_row (vs := [.string ByteArray.empty, .int .i64 0, .int .i64 0, .slice none 0 0]) fun b2 H2 hb2 hE2 hz2 hr2 => ?_
    have h2 := h1.ext hE2
    have ha52 := hcells_ext hE2 ha5
    refine Stab_all (fun y hy => ?_) ?_
    · simp only [List.mem_cons, List.not_mem_nil, or_false] at hy
      rcases hy with rfl | rfl | rfl | rfl | rfl | rfl
      · have := ha52.1; simpa using this
      · have := ha52.2.1; simpa using this
      · have := ha52.2.2.1; simpa using this
      · have := ha52.2.2.2.1; simpa using this
      · exact hE2.cell c1 fun h => h
      · exact (h2.run.1.cell 1).trans rfl
    refine St_row hr2 (by simp) fun H3 hU3 _ hr3 => St_row hr3 (by simp) fun H4 hU4 _ hr4 => St_row hr4 (by simp) fun H5 hU5 _ hr5 => St_row hr5 (by simp) fun H6 hU6 _ hr6 => ?_
    have hr6 : Row H6 b2 T_api_Routine (rouV r) := hr6
    have hE6 : Ext H1 H6 := extUpd hE2 (by omega) (((hU3.trans hU4 fun _ _ e => e).trans hU5 fun _ _ e => e).trans hU6 fun _ _ e => e)
    have h6 := h1.ext hE6
    refine Ld_int (n := r.params) ((hr6.cell 1).trans rfl) ?_
    have emax : (if r.params < 0 then 0 else r.params) = max r.params 0 := by split <;> omega
    rw [emax]
    have htn : max r.params 0 = ((max r.params 0).toNat : Int) := by omega
    refine m_take h6 (n := (max r.params 0).toNat) htn (by omega) (by omega) fun pr H7 c7 hU7 h7 hv7 _ => ?_
    have hpl := hv7.len
    have hlow : x.top.p < H1.size := h1.topR.row.lt
    have hbx : x.b < H1.size := h1.run.1.lt
    have hr7 : Row H7 b2 T_api_Routine (rouV r) := hU7.row hr6 (by omega)
    generalize hl : x.top.stk.drop (x.top.stk.length - (max r.params 0).toNat) = l at *
    have hll : l.length ≤ 64 := by rw [← hl]; simp; omega
    have harg : args x.ms (max r.params 0).toNat = l := hl
    refine s_mstep h7.run.1 ⟨hst.1, by dsimp only; omega⟩ fun H8 hU8 hr8 => ?_
    have h8 := h7.num (st := x.g.st + 1) (er := x.g.er) (si := 0) (ov := x.g.ov) hU8 hr8
    have hact : act (mpOf x.g fs) E x.ms (cutS x.ms (max r.params 0).toNat) l (21 : Int).toNat A = if x.g.st + 1 ≤ 2000 then
      (0, { cutS x.ms (max r.params 0).toNat with low := x.ms.low ++ [(cutS x.ms (max r.params 0).toNat).top], top := ⟨fnOf r, locals (fnOf r) l, [], 0⟩, steps := x.g.st + 1, since := 0 })
      else (120, { cutS x.ms (max r.params 0).toNat with steps := x.g.st + 1 }) := by
      rw [← hrou]; rfl
    rw [harg, hact] at hyes
    dsimp only
    refine Br.mk (fun hb => ?_) fun hb => ?_
    · have hst2 : ¬ x.g.st + 1 ≤ 2000 := by simpa using hb
      rw [if_neg hst2] at hyes
      refine St_row h8.run.1 (by simp) fun H9 hU9 _ hr9 => ?_
      have h9 := h8.num (st := x.g.st + 1) (er := 120) (si := 0) (ov := x.g.ov) hU9 hr9
      exact hyes H9 _ (by omega) ⟨h9, rfl, rfl, rfl, fun e => (by cases e), rfl⟩
    have hst2 : x.g.st + 1 ≤ 2000 := by simpa using hb
    rw [if_pos hst2] at hyes
    have hr28 : Row H8 b2 T_api_Routine (rouV r) := hU8.row hr7 (by dsimp only; omega)
    refine Ld_sl (s := x.g.ls) ((h8.run.1.cell 19).trans rfl) ⟨(r.name, r.params, r.locals, r.sl), hr28.rd_all, ?_⟩
    rw [List.length_map] at hpl
    have hv8 : rdL H8 pr.a (ints l) := by
      refine (hv7.upd hU8 fun b hb e => ?_).rd
      exact hv7.ne hb h7.run.1 (by decide) e
    refine s_activate (l := l) (by rw [hpl]) hv8 hpl (by omega) fun H9 t hE9 ht9 hf9 htr htl hts htn => ?_
    have h9 := h8.ext hE9
    refine Stab_1 ((h9.run.1.cell 19).trans rfl) ?_
    refine Nw_row (vs := [.pointer (some (adr t.p))]) fun b3 H10 hb3 hE10 hz10 hr10 => ?_
    have h10 := h9.ext hE10
    have hE810 := hE9.trans hE10 fun _ _ h => h
    have st : ∀ {H'}, Row H' b2 T_api_Routine (rouV r) → ∀ y ∈ [((⟨b2, 0, none⟩ : Addr), Value.string r.name), (⟨b2, 1, none⟩, .int .i64 r.params), (⟨b2, 2, none⟩, .int .i64 r.locals), (⟨b2, 3, none⟩, .slice r.sl.a r.sl.len r.sl.cap)], hcell H' y.1 = some y.2 := fun hr y hy => by
      simp only [List.mem_cons, List.not_mem_nil, or_false] at hy
      rcases hy with rfl | rfl | rfl | rfl
      · exact (hr.cell 0).trans rfl
      · exact (hr.cell 1).trans rfl
      · exact (hr.cell 2).trans rfl
      · exact (hr.cell 3).trans rfl
    refine Stab_all (fun y hy => ?_) ?_
    · have hr := hE810.row hr28 fun h => h
      simp only [List.mem_cons, List.not_mem_nil, or_false] at hy
      rcases hy with rfl | rfl | rfl | rfl | rfl
      · exact (hr.cell 0).trans rfl
      · exact (hr.cell 1).trans rfl
      · exact (hr.cell 2).trans rfl
      · exact (hr.cell 3).trans rfl
      · exact (h10.run.1.cell 19).trans rfl
    have hlv := h10.lv.1
    have hlvl := hlv.len
    simp only [List.length_map, List.length_append, List.length_singleton] at hlvl
    refine App_vec2 (ws := [.pointer (some (adr t.p))]) hlv hr10.rd_all rfl (fun w hw => by rw [List.mem_singleton.1 hw]; rfl) (by decide) (by simp; omega) fun ls' H11 hv11 hU11 ha11 hz11 => ?_
    have hls : ls'.a = x.g.ls.a ∨ ∃ b, ls'.a = some (adr b) ∧ H8.size ≤ b := ha11.imp (fun e => e.1) fun e => ⟨_, e, by have := hE810.size; omega⟩
    have hU11' : Upd (fun b => x.g.ls.a = some (adr b) ∨ b = x.b) H8 H11 := (hE810.mono fun _ _ h => h.elim).trans (hU11.mono fun b _ e => .inl e.1) fun _ _ e => e
    have hb2l : x.g.ls.a ≠ some (adr b2) := fun e => by have := h1.lv.1.lt e; omega
    refine Stab_all (st (hU11.row (hE810.row hr28 fun h => h) fun e => hb2l e.1)) ?_
    have hrow11 := hU11.row h10.run.1 fun e => (hlv.ne e.1 h10.run.1 (by decide)) rfl
    refine St_row hrow11 (by simp) fun H12 hU12 _ hr12 => ?_
    have hp10 := ht9.upd hE10 fun _ _ h => h
    have ht11 : ActR H11 t := hp10.upd hU11 fun b hb e => by
      have h1 := hf9 b hb
      have h2 := h8.lv.1.lt e.1
      omega
    have ht12 : ActR H12 t := ht11.upd hU12 fun b hb e => by
      have h1 := hf9 b hb
      have h2 := h8.run.1.lt
      dsimp only at e h2
      omega
    have hfin := h8.call (ls := ls') (t := t) (by simpa using hA2) (hU11'.trans hU12 fun _ _ e => .inr e) hr12 (by
      have := hv11.upd hU12 fun b hb e => hv11.ne hb hrow11 (by decide) e
      simpa [ptrs] using this) hls ht12 hf9 (by rw [htr]; exact hcr)
    refine hyes H12 _ (by omega) ⟨hfin, rfl, rfl, her, fun _ => ?_, rfl⟩
    simp only [MG.ms, AP.act, htr, htl, hts, htn, List.map_append, List.map_cons, List.map_nil]
  have h21 := bneI h21
  refine Br.mk (fun h22 => ?_) fun h22 => ?_
  · have h22 := beqI h22; subst h22
    have e : takes (parms fs) (22, A) = 1 := takes_of (by decide) (by decide) (by decide)
    rw [e] at ht hyes
    obtain ⟨hne, hlen⟩ := hret rfl
    refine m_take h1 (n := 1) rfl (by omega) (by omega) fun r H2 c2 hU2 h2 hv2 _ => ?_
    have hx : (x.top.stk.drop (x.top.stk.length - 1)).length = 1 := by simp; omega
    have ha : args x.ms 1 = x.top.stk.drop (x.top.stk.length - 1) := rfl
    generalize hl : x.top.stk.drop (x.top.stk.length - 1) = l at *
    match l, hx with
    | [w], _ =>
      obtain ⟨low, t, hlow⟩ : ∃ low t, x.low = low ++ [t] := ⟨x.low.dropLast, x.low.getLast hne, (List.dropLast_concat_getLast hne).symm⟩
      refine IxA_vec hv2 (by decide) (by simp) fun a2 ha2 _ => Ld_int (n := w) (ha2.trans rfl) ?_
      have hlv := h2.lv.1
      have hlvl := hlv.len
      dsimp only at hlv hlvl
      rw [hlow] at hlv hlvl
      simp only [List.length_map, List.length_append, List.length_singleton] at hlvl
      have hl16 := h.lowl
      rw [hlow] at hl16
      simp only [List.length_append, List.length_singleton] at hl16
      refine Ld_sl (s := x.g.ls) ((h2.run.1.cell 19).trans rfl) (Ld_sl (s := x.g.ls) ((h2.run.1.cell 19).trans rfl) (Lt.mk (u := ((low.length + 1 : Nat) : Int)) (by rw [wrap_i64_id (by omega) (by omega)]; omega) (SlA0 (by omega) (by have := hlv.lc; omega) (by omega) ?_)))
      simp only [Int.toNat_natCast]
      refine St_row h2.run.1 (by simp) fun H3 hU3 _ hr3 => ?_
      have hv3 := (vec_pre hlv (n := low.length + 1) (by simp)).upd hU3 fun b hb e => hlv.ne hb h2.run.1 (by decide) e
      have epre : (ptrs (low ++ [t] ++ [x.top.took 1])).take (low.length + 1) = ptrs (low ++ [t]) := by
        rw [ptrs, List.map_append, List.take_left' (by simp)]
      have hv3' : Vec H3 T_P_machine_activation ⟨x.g.ls.a, low.length + 1, x.g.ls.cap⟩ (ptrs (low ++ [t])) := by rw [← epre]; exact hv3
      have h3 := h2.ret (low := low) (t := t) hlow (ls := ⟨x.g.ls.a, low.length + 1, x.g.ls.cap⟩) hU3 hr3 hv3' rfl
      have htl := hlen t (by rw [hlow]; simp)
      refine s_last h3 (m_push h3 (by dsimp only; omega) fun ss H4 c4 hU4 h4 => ?_)
      have hml : x.ms.low = low.map AP.act ++ [t.act] := by
        show x.low.map AP.act = _
        rw [hlow]; simp
      refine hyes H4 _ (by omega) ⟨h4, rfl, rfl, her, fun _ => ?_, rfl⟩
      rw [show (1 : Int).toNat = 1 from rfl, ha]
      have eg : x.ms.low.getLast! = t.act := by rw [hml, List.getLast!_eq_getLast?_getD, List.getLast?_concat]; rfl
      show _ = { cutS x.ms 1 with low := x.ms.low.dropLast, top := { x.ms.low.getLast! with stk := x.ms.low.getLast!.stk ++ [w] } }
      rw [eg, hml, List.dropLast_concat]
  have h22 := bneI h22
  refine Br.mk (fun h23 => ?_) fun h23 => ?_
  · have h23 := beqI h23; subst h23
    have e : (takes (parms fs) (23, A)).toNat = 0 := by rw [takes_of (by decide) (by decide) (c := 0) (by decide)]; rfl
    rw [e] at hyes
    refine St_row h1.run.1 (by simp) fun H2 hU2 _ hr2 => ?_
    have h2 := h1.num (st := x.g.st) (er := x.g.er) (si := x.g.si) (ov := true) hU2 hr2
    refine hyes H2 _ (by omega) ⟨h2, rfl, rfl, her, fun _ => ?_, rfl⟩
    simp [act, cutS, MG.ms, AP.act]
  have h23 := bneI h23
  refine Br.mk (fun h24 => ?_) fun h24 => ?_
  · have h24 := beqI h24; subst h24
    have e : (takes (parms fs) (24, A)).toNat = 0 := by rw [takes_of (by decide) (by decide) (c := 0) (by decide)]; rfl
    rw [e] at hyes
    have hcut : cutS x.ms 0 = x.ms := by simp [cutS, MG.ms, AP.act]
    have hact : act (mpOf x.g fs) E x.ms (cutS x.ms 0) (args x.ms 0) (24 : Int).toNat A = if x.g.st + 1 ≤ 2000 then (0, { x.ms with steps := x.g.st + 1, since := 0 }) else (120, { x.ms with steps := x.g.st + 1 }) := by rw [hcut]; rfl
    rw [hact] at hyes
    refine s_mstep h1.run.1 ⟨hst.1, by omega⟩ fun H8 hU8 hr8 => ?_
    have h8 := h1.num (st := x.g.st + 1) (er := x.g.er) (si := 0) (ov := x.g.ov) hU8 hr8
    refine Br.mk (fun hb => ?_) fun hb => ?_
    · have hst2 : ¬ x.g.st + 1 ≤ 2000 := by simpa using hb
      rw [if_neg hst2] at hyes
      refine St_row h8.run.1 (by simp) fun H9 hU9 _ hr9 => ?_
      have h9 := h8.num (st := x.g.st + 1) (er := 120) (si := 0) (ov := x.g.ov) hU9 hr9
      exact hyes H9 _ (by omega) ⟨h9, rfl, rfl, rfl, fun e => (by cases e), rfl⟩
    · have hst2 : x.g.st + 1 ≤ 2000 := by simpa using hb
      rw [if_pos hst2] at hyes
      exact hyes H8 _ (by omega) ⟨h8, rfl, rfl, her, fun _ => rfl, rfl⟩
  have h24 := bneI h24
  exact hno H1 (by omega) hE1
end
section
open Hc Hc.Vf Hc.Mc Hc.Dice
variable {H : Heap}
def InputOk : Prop := ∀ (H0 H : Heap) (x : MG) (fs : List Rou) (ins : List (Int × Int × Int)) (p q : Int) (k : Int → Heap → Prop), MacR H0 H x → CtxR H0 x.g.pF x.g.s x.g.inS fs ins →
  (∀ H', Ext H H' → k (inp ins p q) H') → CallT Pg f_machine_run_input [.pointer (some (adr x.b)), .int .i64 p, .int .i64 q] IntR H k
theorem cut0 (x : MG) : cutS x.ms 0 = x.ms := by simp [cutS, MG.ms, AP.act]
theorem post_push0 {H0 H' : Heap} {x : MG} {ss : Sl} {c : Col} {v : Int} (h : MacR H0 H' { x with top := { x.top with ss := ss, stk := x.top.stk ++ [v] }, c := c }) (her : x.g.er = 0) :
    Post H0 x (0, (cutS x.ms 0).push v) H' { x with top := { x.top with ss := ss, stk := x.top.stk ++ [v] }, c := c } := ⟨h, rfl, rfl, her, fun _ => by rw [cut0]; rfl, rfl⟩
theorem MacR.freeTop {H0 H H' : Heap} {x : MG} (h : MacR H0 H x) {r : Sl} {vs : List Value} (hv : Vec H T_int64 r vs) (hr : IsS x.c H0.size 999 r) (hu : Upd (fun b => b = x.top.p ∨ x.top.ss.a = some (adr b)) H H') : Vec H' T_int64 r vs :=
  hv.upd hu fun b hb e => by
    have h1 := (h.topI b (e.imp id fun e => .inr e)).2
    have h2 := (hr b hb).2
    have := h.lowl
    omega
theorem s_asks (hin : InputOk) {H0 : Heap} {x : MG} {fs : List Rou} {ins : List (Int × Int × Int)} (h : MacR H0 H x) (hc : CtxR H0 x.g.pF x.g.s x.g.inS fs ins) (her : x.g.er = 0) {op A : Int} (hA : I64 A)
    (ht : takes (parms fs) (op, A) ≤ x.top.stk.length) (hsl : x.top.stk.length ≤ 64) (h64 : All64 x.top.stk) (hd : 0 ≤ x.d ∧ x.d < 18446744073709551616) (hload : op = 2 → 0 ≤ A ∧ A < (x.top.loc.length : Int))
    (hfield : op = 4 → 0 ≤ A ∧ ∃ v, lookV x.ms.vals (A / 8) = some v ∧ A % 8 < (v.length : Int)) {k : Bool → Heap → Prop}
    (hyes : ∀ H' x', (op = 1 ∨ op = 2 ∨ op = 4 ∨ (31 ≤ op ∧ op ≤ 35)) → Post H0 x (act (mpOf x.g fs) (enOf x.g ins) x.ms (cutS x.ms (takes (parms fs) (op, A)).toNat) (args x.ms (takes (parms fs) (op, A)).toNat) op.toNat A) H' x' → k true H')
    (hno : ∀ H', ¬ (op = 1 ∨ op = 2 ∨ op = 4 ∨ (31 ≤ op ∧ op ≤ 35)) → Ext H H' → k false H') :
    CallT Pg f_machine_run_asks [.pointer (some (adr x.b)), .agg #[.int .i64 op, .int .i64 A]] (.one (.c .bool)) H k := by
  refine c_machine_run_asks _ (op, A) ?_
  unfold v_machine_run_asks
  refine Nw_row (vs := [.int .i64 op, .int .i64 A]) fun b1 H1 hb1 hE1 hz1 hr1 => ?_
  have h1 := h.ext hE1
  have c0 : hcell H1 (adr b1) = some (.int .i64 op) := (hr1.cell 0).trans rfl
  have c1 : hcell H1 ⟨b1, 1, none⟩ = some (.int .i64 A) := (hr1.cell 1).trans rfl
  have bp : b1 ≠ x.top.p := by have := h.topR.row.lt; omega
  have bs : x.top.ss.a ≠ some (adr b1) := fun e => by have := h.topR.stk.lt e; omega
  have c1' : ∀ {H'}, Upd (fun b => b = x.top.p ∨ x.top.ss.a = some (adr b)) H1 H' → hcell H' ⟨b1, 1, none⟩ = some (.int .i64 A) := fun hU => hU.cell c1 fun e => e.elim bp bs
  have topc : ∀ n, hcell H1 ⟨x.top.p, n, none⟩ = (actV x.top)[n]? := h1.topR.row.cell
  simp only [NilCk_some, adr_add, mk_add, Jn]
  refine s_last h1 (Ld_int c0 ?_)
  simp only [NilCk_some, adr_add, mk_add]
  refine Br.mk (fun h_ => ?_) fun hn1 => ?_
  · have h_ := beqI h_; subst h_
    have e : (takes (parms fs) (1, A)).toNat = 0 := by rw [takes_of (by decide) (by decide) (c := 0) (by decide)]; rfl
    rw [e] at hyes
    exact Ld_int c1 (m_push h1 (by omega) fun ss H2 c hU2 h2 => hyes H2 _ (by omega) (post_push0 h2 her))
  have hn1 := bneI hn1
  refine Br.mk (fun h_ => ?_) fun hn2 => ?_
  · have h_ := beqI h_; subst h_
    have e : (takes (parms fs) (2, A)).toNat = 0 := by rw [takes_of (by decide) (by decide) (c := 0) (by decide)]; rfl
    rw [e] at hyes
    obtain ⟨hA0, hA1⟩ := hload rfl
    have hlt : A.toNat < x.top.loc.length := by omega
    refine Ld_sl (s := x.top.ls) ((topc 4).trans rfl) (Ld_int c1 (IxA_vec h1.topR.loc hA0 (by simpa using hA1) fun a2 ha2 _ => Ld_int (n := x.top.loc[A.toNat]!) (ha2.trans ?_) ?_))
    · rw [getElem!_pos x.top.loc _ hlt]; simp [List.getElem?_eq_getElem hlt]
    refine m_push h1 (by omega) fun ss H2 c hU2 h2 => Stab_2 (c1' hU2) ((h2.topR.row.cell 4).trans rfl) (hyes H2 _ (by omega) (post_push0 h2 her))
  have hn2 := bneI hn2
  refine Br.mk (fun h_ => ?_) fun hn4 => ?_
  · have h_ := beqI h_; subst h_
    have e : (takes (parms fs) (4, A)).toNat = 0 := by rw [takes_of (by decide) (by decide) (c := 0) (by decide)]; rfl
    rw [e] at hyes
    obtain ⟨hA0, v, hv, hvl⟩ := hfield rfl
    refine ⟨.map (some x.g.mp), (h1.run.1.cell 18).trans rfl, Ld_int c1 ⟨by omega, Ld_int c1 ⟨by omega, ?_⟩⟩⟩
    rw [tdiv8 hA0 hA, Int.tmod_eq_emod_of_nonneg hA0]
    refine MpL_es h1.map.1 (fun j hj hkd hl _ => ?_) fun hl => ?_
    · have ev : x.es[j].vals = v := by
        have : some x.es[j].vals = some v := hl.symm.trans hv
        exact Option.some.inj this
      have hlt : (A % 8).toNat < x.es[j].vals.length := by rw [ev]; omega
      refine Stab_2 c1 c1 (IxA_vec (h1.esR _ (List.getElem_mem hj)).1 (by omega) (by rw [List.length_map, ev]; exact hvl) fun a4 ha4 _ => Ld_int (n := x.es[j].vals[(A % 8).toNat]!) (ha4.trans ?_) ?_)
      · rw [getElem!_pos x.es[j].vals _ hlt]; simp [List.getElem?_eq_getElem hlt]
      refine m_push h1 (by omega) fun ss H2 c hU2 h2 => Stab_all (fun y hy => ?_) ?_
      · simp only [List.mem_cons, List.not_mem_nil, or_false] at hy
        rcases hy with rfl | rfl | rfl
        · exact c1' hU2
        · exact c1' hU2
        · exact (h2.run.1.cell 18).trans rfl
      have hact : act (mpOf x.g fs) (enOf x.g ins) x.ms (cutS x.ms 0) (args x.ms 0) (4 : Int).toNat A = (0, (cutS x.ms 0).push x.es[j].vals[(A % 8).toNat]!) := by
        show (0, (cutS x.ms 0).push ((lookV (x.es.map PtP.pt) (A / 8)).getD [])[(A % 8).toNat]!) = _
        rw [hl]; rfl
      rw [hact] at hyes
      exact hyes H2 _ (by omega) (post_push0 h2 her)
    · have : none = some v := hl.symm.trans hv
      cases this
  have hn4 := bneI hn4
  refine Br.mk (fun h_ => ?_) fun hn31 => ?_
  · have h_ := beqI h_; subst h_
    have e : takes (parms fs) (31, A) = 1 := takes_of (by decide) (by decide) (by decide)
    rw [e] at ht hyes
    refine Ld_ptr (n := some (adr x.g.dp)) ((h1.run.1.cell 26).trans rfl) (m_take h1 (n := 1) rfl (by omega) (by omega) fun r H2 c2 hU2 h2 hv2 hf2 => Stab_1 ((h2.run.1.cell 26).trans rfl) ?_)
    have hx : (x.top.stk.drop (x.top.stk.length - 1)).length = 1 := by simp; omega
    have ha : args x.ms 1 = x.top.stk.drop (x.top.stk.length - 1) := rfl
    have hl64 : All64 (x.top.stk.drop (x.top.stk.length - 1)) := all_drop h64 _
    generalize hl : x.top.stk.drop (x.top.stk.length - 1) = l at *
    match l, hx with
    | [w], _ =>
      refine IxA_vec hv2 (by decide) (by simp) fun a6 ha6 haa => Ld_int (n := w) (ha6.trans rfl) ?_
      refine s_dice_Below (s := x.d) h2.dice.1 hd.1 hd.2 (hl64 w (by simp)) fun H3 hU3 hr3 => ?_
      have h3 := h2.fell (d := (BelowF x.d w).2) hU3 hr3
      have hv3 : Vec H3 T_int64 r (ints [w]) := hv2.upd hU3 fun b hb e => hv2.ne hb h2.dice.1 (by decide) e
      refine m_push h3 (by simp; omega) fun ss H4 c4 hU4 h4 => ?_
      have hv4 := h3.freeTop hv3 hf2 hU4
      refine Stab_2 ?_ ((h4.run.1.cell 26).trans rfl) (hyes H4 _ (by omega) ⟨h4, rfl, rfl, her, fun _ => ?_, rfl⟩)
      · obtain ⟨b, hb, rfl⟩ := haa
        obtain ⟨b', hb', hcc⟩ := hv4.cell (i := 0) (by simp)
        rw [hb] at hb'; cases hb'
        exact hcc
      · rw [show (1 : Int).toNat = 1 from rfl, ha]; rfl
  have hn31 := bneI hn31
  refine Br.mk (fun h_ => ?_) fun hn32 => ?_
  · have h_ := beqI h_; subst h_
    have e : (takes (parms fs) (32, A)).toNat = 0 := by rw [takes_of (by decide) (by decide) (c := 0) (by decide)]; rfl
    rw [e] at hyes
    exact Ld_int (n := x.g.fr) ((h1.run.1.cell 11).trans rfl) (m_push h1 (by omega) fun ss H2 c hU2 h2 => hyes H2 _ (by omega) (post_push0 h2 her))
  have hn32 := bneI hn32
  refine Br.mk (fun h_ => ?_) fun hn33 => ?_
  · have h_ := beqI h_; subst h_
    have e : (takes (parms fs) (33, A)).toNat = 0 := by rw [takes_of (by decide) (by decide) (c := 0) (by decide)]; rfl
    rw [e] at hyes
    exact Ld_int (n := x.g.ix) ((h1.run.1.cell 15).trans rfl) (m_push h1 (by omega) fun ss H2 c hU2 h2 => hyes H2 _ (by omega) (post_push0 h2 her))
  have hn33 := bneI hn33
  refine Br.mk (fun h_ => ?_) fun hn34 => ?_
  · have h_ := beqI h_; subst h_
    have e : takes (parms fs) (34, A) = 2 := takes_of (by decide) (by decide) (by decide)
    rw [e] at ht hyes
    refine m_take h1 (n := 2) rfl (by omega) (by omega) fun r H2 c2 hU2 h2 hv2 hf2 => ?_
    have hx : (x.top.stk.drop (x.top.stk.length - 2)).length = 2 := by simp; omega
    have ha : args x.ms 2 = x.top.stk.drop (x.top.stk.length - 2) := rfl
    generalize hl : x.top.stk.drop (x.top.stk.length - 2) = l at *
    match l, hx with
    | [w, z], _ =>
      refine IxA_vec hv2 (by decide) (by simp) fun a6 ha6 haa => Ld_int (n := w) (ha6.trans rfl) (IxA_vec hv2 (by decide) (by simp) fun a7 ha7 haa7 => Ld_int (n := z) (ha7.trans rfl) ?_)
      refine hin H0 H2 { x with top := x.top.took 2, c := c2 } fs ins w z _ h2 hc fun H3 hE3 => ?_
      have h3 := h2.ext hE3
      refine m_push h3 (by simp; omega) fun ss H4 c4 hU4 h4 => ?_
      have hv4 := h3.freeTop (hv2.ext hE3) hf2 hU4
      refine Stab_2 ?_ ?_ (hyes H4 _ (by omega) ⟨h4, rfl, rfl, her, fun _ => ?_, rfl⟩)
      · obtain ⟨b, hb, rfl⟩ := haa7
        obtain ⟨b', hb', hcc⟩ := hv4.cell (i := 1) (by simp)
        rw [hb] at hb'; cases hb'
        exact hcc
      · obtain ⟨b, hb, rfl⟩ := haa
        obtain ⟨b', hb', hcc⟩ := hv4.cell (i := 0) (by simp)
        rw [hb] at hb'; cases hb'
        exact hcc
      · rw [show (2 : Int).toNat = 2 from rfl, ha]; rfl
  have hn34 := bneI hn34
  refine Br.mk (fun h_ => ?_) fun hn35 => ?_
  · have h_ := beqI h_; subst h_
    have e : (takes (parms fs) (35, A)).toNat = 0 := by rw [takes_of (by decide) (by decide) (c := 0) (by decide)]; rfl
    rw [e] at hyes
    refine ⟨.map (some x.g.mp), (h1.run.1.cell 18).trans rfl, Ld_int c1 (MpL_es h1.map.1 (fun j hj hkd hl _ => ?_) fun hl => ?_)⟩
    · have hact : act (mpOf x.g fs) (enOf x.g ins) x.ms (cutS x.ms 0) (args x.ms 0) (35 : Int).toNat A = (0, (cutS x.ms 0).push (truthI true)) := by
        show (0, (cutS x.ms 0).push (truthI (lookV (x.es.map PtP.pt) A).isSome)) = _
        rw [hl]; rfl
      rw [hact] at hyes
      exact s_truth (m_push h1 (by omega) fun ss H2 c hU2 h2 => hyes H2 _ (by omega) (post_push0 h2 her))
    · have hact : act (mpOf x.g fs) (enOf x.g ins) x.ms (cutS x.ms 0) (args x.ms 0) (35 : Int).toNat A = (0, (cutS x.ms 0).push (truthI false)) := by
        show (0, (cutS x.ms 0).push (truthI (lookV (x.es.map PtP.pt) A).isSome)) = _
        rw [hl]; rfl
      rw [hact] at hyes
      exact s_truth (m_push h1 (by omega) fun ss H2 c hU2 h2 => hyes H2 _ (by omega) (post_push0 h2 her))
  have hn35 := bneI hn35
  exact hno H1 (by omega) hE1
end
end Go.Proofs.YtfpmgpblhhcpgaaGreat
namespace Go.Proofs.YtfpmgpblhhcpgaaGreat.Hc.Mc
set_option linter.unusedVariables false
set_option linter.unusedSimpArgs false
set_option maxRecDepth 100000
section
open Go Hc
variable {α : Type}
def risN (key : α → Int) (n : Nat) (l : List α) : List α := (List.range n).flatMap fun (k : Nat) => l.filter fun x => key x == (k : Int)
abbrev risK (key : α → Int) (l : List α) : List α := risN key 13 l
theorem rise_eq (l : List Pt) : rise l = risK Pt.kind l := rfl
theorem risN_succ (key : α → Int) (n : Nat) (l : List α) : risN key (n + 1) l = risN key n l ++ l.filter fun x => key x == (n : Int) := by
  unfold risN
  rw [List.range_succ, List.flatMap_append]
  simp
theorem risN_map {β : Type} (f : α → β) {key : α → Int} {key' : β → Int} (h : ∀ x, key' (f x) = key x) (l : List α) : ∀ n, (risN key n l).map f = risN key' n (l.map f)
  | 0 => rfl
  | n + 1 => by
    rw [risN_succ, risN_succ, List.map_append, risN_map f h l n, List.filter_map]
    congr 2
    exact List.filter_congr fun x _ => by simp [h]
theorem risN_bd {key : α → Int} {l : List α} : ∀ {n : Nat}, ∀ x ∈ risN key n l, key x < n
  | 0, x, h => by simp [risN] at h
  | n + 1, x, h => by
    rw [risN_succ] at h
    rcases List.mem_append.1 h with h | h
    · have := risN_bd x h; omega
    · have := (List.mem_filter.1 h).2
      have : key x = n := by simpa using this
      omega
theorem risN_pw {key : α → Int} {l : List α} : ∀ {n : Nat}, (risN key n l).Pairwise fun x y => key x ≤ key y
  | 0 => by simp [risN]
  | n + 1 => by
    rw [risN_succ, List.pairwise_append]
    refine ⟨risN_pw, ?_, fun x hx y hy => ?_⟩
    · refine List.pairwise_iff_getElem.2 fun i j hi hj _ => ?_
      have h1 := (List.mem_filter.1 (List.getElem_mem hi)).2
      have h2 := (List.mem_filter.1 (List.getElem_mem hj)).2
      simp only [beq_iff_eq] at h1 h2
      omega
    · have h1 := risN_bd x hx
      have h2 := (List.mem_filter.1 hy).2
      simp only [beq_iff_eq] at h2
      omega
theorem risN_snoc {key : α → Int} {l : List α} {x : α} (hx : 0 ≤ key x) : ∀ n : Nat, risN key n (l ++ [x]) = if key x < n then (risN key n l).filter (fun y => decide (key y ≤ key x)) ++ [x] ++ (risN key n l).filter (fun y => decide (key x < key y)) else risN key n l
  | 0 => by rw [if_neg (by omega)]; rfl
  | n + 1 => by
    have ih := risN_snoc (l := l) hx n
    rw [risN_succ, ih, risN_succ, List.filter_append]
    have hb := risN_bd (key := key) (l := l) (n := n)
    rcases Int.lt_trichotomy (key x) n with h | h | h
    · rw [if_pos h, if_pos (by omega), List.filter_append, List.filter_append]
      have e1 : ([x].filter fun y => key y == (n : Int)) = [] := by
        rw [List.filter_cons, if_neg (by simp; omega)]; rfl
      have e2 : ((l.filter fun y => key y == (n : Int)).filter fun y => decide (key y ≤ key x)) = [] := by
        refine List.filter_eq_nil_iff.2 fun y hy => ?_
        have := (List.mem_filter.1 hy).2
        simp only [beq_iff_eq] at this
        simp; omega
      have e3 : ((l.filter fun y => key y == (n : Int)).filter fun y => decide (key x < key y)) = l.filter fun y => key y == (n : Int) := by
        refine List.filter_eq_self.2 fun y hy => ?_
        have := (List.mem_filter.1 hy).2
        simp only [beq_iff_eq] at this
        simp; omega
      rw [e1, e2, e3]; simp
    · rw [if_neg (by omega), if_pos (by omega), List.filter_append, List.filter_append]
      have e1 : ([x].filter fun y => key y == (n : Int)) = [x] := by rw [List.filter_cons, if_pos (by simp; omega)]; rfl
      have e2 : (risN key n l).filter (fun y => decide (key y ≤ key x)) = risN key n l := List.filter_eq_self.2 fun y hy => by have := hb y hy; simp; omega
      have e3 : (risN key n l).filter (fun y => decide (key x < key y)) = [] := List.filter_eq_nil_iff.2 fun y hy => by have := hb y hy; simp; omega
      have e4 : ((l.filter fun y => key y == (n : Int)).filter fun y => decide (key y ≤ key x)) = l.filter fun y => key y == (n : Int) := by
        refine List.filter_eq_self.2 fun y hy => ?_
        have := (List.mem_filter.1 hy).2
        simp only [beq_iff_eq] at this
        simp; omega
      have e5 : ((l.filter fun y => key y == (n : Int)).filter fun y => decide (key x < key y)) = [] := by
        refine List.filter_eq_nil_iff.2 fun y hy => ?_
        have := (List.mem_filter.1 hy).2
        simp only [beq_iff_eq] at this
        simp; omega
      rw [e1, e2, e3, e4, e5]; simp
    · rw [if_neg (by omega), if_neg (by omega)]
      have e1 : ([x].filter fun y => key y == (n : Int)) = [] := by
        rw [List.filter_cons, if_neg (by simp; omega)]; rfl
      rw [e1, List.append_nil]
theorem ris_ins {key : α → Int} {l : List α} {x : α} (hx : 0 ≤ key x ∧ key x < 13) {A B : List α} (h : risK key l = A ++ B) (hB : ∀ y ∈ B, key x < key y) (hA : ∀ y ∈ A, key y ≤ key x) : risK key (l ++ [x]) = A ++ [x] ++ B := by
  rw [risK, risN_snoc hx.1, if_pos (by omega)]
  rw [risK] at h
  rw [h, List.filter_append, List.filter_append]
  have e1 : A.filter (fun y => decide (key y ≤ key x)) = A := List.filter_eq_self.2 fun y hy => by simpa using hA y hy
  have e2 : B.filter (fun y => decide (key y ≤ key x)) = [] := List.filter_eq_nil_iff.2 fun y hy => by have := hB y hy; simp; omega
  have e3 : A.filter (fun y => decide (key x < key y)) = [] := List.filter_eq_nil_iff.2 fun y hy => by have := hA y hy; simp; omega
  have e4 : B.filter (fun y => decide (key x < key y)) = B := List.filter_eq_self.2 fun y hy => by simpa using hB y hy
  rw [e1, e2, e3, e4]; simp
end
end Go.Proofs.YtfpmgpblhhcpgaaGreat.Hc.Mc
namespace Go.Proofs.YtfpmgpblhhcpgaaGreat
set_option linter.unusedVariables false
set_option linter.unusedSimpArgs false
set_option maxRecDepth 100000
section
open Hc Hc.Vf Hc.Mc Hc.Dice
variable {H : Heap}
instance : Inhabited PtP := ⟨⟨0, default, []⟩⟩
theorem s_isNaN {x : Int} {k : Bool → Heap → Prop} (hk : k false H) : CallT Pg f_cmp_isNaN_int [.int .i64 x] (.one (.c .bool)) H k := by
  refine c_cmp_isNaN_int _ ?_
  unfold v_cmp_isNaN_int
  have : (x != x) = false := by simp
  rw [this]; exact hk
theorem s_cmp {x y : Int} {k : Int → Heap → Prop} (hk : ∀ r, (r < 0 ↔ x < y) → k r H) : CallT Pg f_cmp_Compare_int [.int .i64 x, .int .i64 y] IntR H k := by
  refine c_cmp_Compare_int _ _ ?_
  unfold v_cmp_Compare_int
  refine s_isNaN (s_isNaN ?_)
  rw [Br_false, Br_false]
  refine Br_dec (fun h => hk _ (by omega)) fun h => Br_dec (fun h' => hk _ (by omega)) fun h' => hk _ (by omega)
theorem x_cmp {a b : PtP} {k : Int → Heap → Prop} (hk : ∀ r H', Ext H H' → (r < 0 ↔ a.kind < b.kind) → k r H') :
    CallX Pg (fnV 121) [.agg #[.int .i64 a.kind, .slice a.sl.a a.sl.len a.sl.cap], .agg #[.int .i64 b.kind, .slice b.sl.a b.sl.len b.sl.cap]] IntR H k := by
  refine ⟨121, #[], #[], rfl, ?_⟩
  show CallT Pg f_machine_run_spawn_1 [.agg #[.int .i64 a.kind, .slice a.sl.a a.sl.len a.sl.cap], .agg #[.int .i64 b.kind, .slice b.sl.a b.sl.len b.sl.cap]] _ _ _
  refine c_machine_run_spawn_1 (a.kind, a.sl) (b.kind, b.sl) ?_
  unfold v_machine_run_spawn_1
  refine Nw_row (vs := ptV a) fun b1 H1 hb1 hE1 _ hr1 => Nw_row (vs := ptV b) fun b2 H2 hb2 hE2 _ hr2 => ?_
  exact Ld_int (n := a.kind) (((hE2.row hr1 fun h => h).cell 0).trans rfl) (Ld_int (n := b.kind) ((hr2.cell 0).trans rfl) (s_cmp fun r hr => hk r H2 (hE1.trans hE2 fun _ _ h => h) hr))
theorem swap_elems {s : Sl} {xs : List PtP} (h : VecN H T_api_Part 2 s (xs.flatMap ptV)) {j : Nat} (hj : j + 1 < xs.length) {k : Heap → Prop}
    (hk : ∀ H', Upd (fun b => s.a = some (adr b)) H H' → VecN H' T_api_Part 2 s (((xs.set (j + 1) xs[j]).set j xs[j + 1]).flatMap ptV) → k H') :
    IxA 2 s (j : Nat) fun a3 => LdC [(.int .i64), .sl] a3 H fun (c3 : Int × Sl) => IxA 2 s ((j + 1 : Nat) : Int) fun a4 => LdC [(.int .i64), .sl] a4 H fun (c4 : Int × Sl) => IxA 2 s ((j + 1 : Nat) : Int) fun a5 =>
      St (a5.add 0) (.int .i64 c3.1) H fun H5 => St (a5.add 1) (.slice c3.2.a c3.2.len c3.2.cap) H5 fun H6 => IxA 2 s (j : Nat) fun a6 => St (a6.add 0) (.int .i64 c4.1) H6 fun H7 => St (a6.add 1) (.slice c4.2.a c4.2.len c4.2.cap) H7 k := by
  have hl := h.len
  rw [flat_len ptV_len] at hl
  refine IxA_vecN h (by decide) rfl (by omega) fun b hb hc => ?_
  refine ⟨(xs[j].kind, xs[j].sl), ?_, ?_⟩
  · rw [hcells_iff]
    intro o ho
    have ho : o < 2 := ho
    rw [mk_add, Nat.zero_add, hc o ho, flat_get ptV_len (by omega) ho]; rfl
  refine IxA_vecN h (by decide) rfl (by omega) fun b' hb' hc' => ?_
  rw [hb] at hb'; cases hb'
  refine ⟨(xs[j + 1].kind, xs[j + 1].sl), ?_, ?_⟩
  · rw [hcells_iff]
    intro o ho
    have ho : o < 2 := ho
    rw [mk_add, Nat.zero_add, hc' o ho, flat_get ptV_len (by omega) ho]; rfl
  refine IxA_vecN h (by decide) rfl (by omega) fun b' hb' _ => ?_
  rw [hb] at hb'; cases hb'
  simp only [mk_add]
  have hfl := flat_len ptV_len (es := xs)
  refine St_vecN h hb (by omega) fun H1 h1 hU1 _ => ?_
  rw [flat_set ptV_len (e' := ⟨xs[j].kind, xs[j + 1].sl, xs[j + 1].vals⟩) (by omega) (by decide) rfl] at h1
  have hfl1 := flat_len ptV_len (es := xs.set (j + 1) ⟨xs[j].kind, xs[j + 1].sl, xs[j + 1].vals⟩)
  rw [List.length_set] at hfl1
  refine St_vecN h1 hb (by omega) fun H2 h2 hU2 _ => ?_
  rw [flat_set ptV_len (e' := xs[j]) (by rw [List.length_set]; omega) (by decide) (by rw [List.getElem_set_self]; rfl), List.set_set] at h2
  have hfl2 := flat_len ptV_len (es := xs.set (j + 1) xs[j])
  rw [List.length_set] at hfl2
  have hl2 := h2.len
  refine IxA_vecN h2 (by decide) rfl (by omega) fun b' hb' _ => ?_
  rw [hb] at hb'; cases hb'
  have hg : (xs.set (j + 1) xs[j])[j]'(by rw [List.length_set]; omega) = xs[j] := List.getElem_set_ne (by omega) _
  simp only [mk_add]
  refine St_vecN h2 hb (by omega) fun H3 h3 hU3 _ => ?_
  rw [flat_set ptV_len (e' := ⟨xs[j + 1].kind, xs[j].sl, xs[j].vals⟩) (by rw [List.length_set]; omega) (by decide) (by rw [hg]; rfl)] at h3
  have hfl3 := flat_len ptV_len (es := (xs.set (j + 1) xs[j]).set j ⟨xs[j + 1].kind, xs[j].sl, xs[j].vals⟩)
  rw [List.length_set, List.length_set] at hfl3
  refine St_vecN h3 hb (by omega) fun H4 h4 hU4 _ => ?_
  rw [flat_set ptV_len (e' := xs[j + 1]) (by rw [List.length_set, List.length_set]; omega) (by decide) (by rw [List.getElem_set_self]; rfl), List.set_set] at h4
  refine hk H4 ?_ h4
  have e : ∀ x, x < H.size → x = b → s.a = some (adr x) := fun x _ e => e ▸ hb
  exact (((hU1.trans hU2 fun _ _ e => e).trans hU3 fun _ _ e => e).trans hU4 fun _ _ e => e).mono e
theorem elem_at {s : Sl} {xs : List PtP} (h : VecN H T_api_Part 2 s (xs.flatMap ptV)) {i : Int} {j : Nat} (hi : i = j) (hj : j < xs.length) {k : Int × Sl → Prop} (hk : k (xs[j].kind, xs[j].sl)) :
    IxA 2 s i fun a3 => LdC [(.int .i64), .sl] a3 H k := by
  have hl := h.len
  rw [flat_len ptV_len] at hl
  refine IxA_vecN h (by decide) hi (by omega) fun b hb hc => ⟨(xs[j].kind, xs[j].sl), ?_, hk⟩
  rw [hcells_iff]
  intro o ho
  have ho : o < 2 := ho
  rw [mk_add, Nat.zero_add, hc o ho, flat_get ptV_len (by omega) ho]; rfl
theorem s_insert {s : Sl} {kp : List PtP} {nb : Int} (hnb : nb = (kp.length : Nat)) (h : VecN H T_api_Part 2 s (kp.flatMap ptV)) (hl : kp.length ≤ 12) (hK : ∀ q ∈ kp, 1 ≤ q.kind ∧ q.kind ≤ 12) {k : Unit → Heap → Prop}
    (hk : ∀ H', Upd (fun b => s.a = some (adr b)) H H' → VecN H' T_api_Part 2 s ((risK PtP.kind kp).flatMap ptV) → k () H') :
    CallT Pg f_slices_insertionSortCmpFunc_api_Part [.slice s.a s.len s.cap, .int .i64 0, .int .i64 nb, fnV 121] (.tup []) H k := by
  subst hnb
  classical
  refine c_slices_insertionSortCmpFunc_api_Part _ _ _ _ ?_
  unfold v_slices_insertionSortCmpFunc_api_Part
  refine Lt.mk (u := 1) (by decide) ?_
  refine LoopT.mk (fun i H' => ∃ n : Nat, i = n ∧ 1 ≤ n ∧ (n ≤ kp.length ∨ n = 1) ∧ Upd (fun b => s.a = some (adr b)) H H' ∧ VecN H' T_api_Part 2 s ((risK PtP.kind (kp.take n) ++ kp.drop n).flatMap ptV)) (fun i _ => 13 - i.toNat) ⟨1, rfl, Nat.le_refl _, .inr rfl, .refl _ _, ?_⟩ ?_
  · have e : risK PtP.kind (kp.take 1) ++ kp.drop 1 = kp := by
      match kp, hK with
      | [], _ => rfl
      | x :: r, hK =>
        have := ris_ins (key := PtP.kind) (l := []) (x := x) (by have := hK x (by simp); omega) (A := []) (B := []) (by simp [risK, risN]) (fun y hy => by cases hy) fun y hy => by cases hy
        simp only [List.take_succ_cons, List.take_zero, List.drop_succ_cons, List.drop_zero]
        rw [List.nil_append] at this
        rw [this]; rfl
    rw [e]; exact h
  rintro next _ H1 ⟨i, rfl, hi1, hi2, hU1, hv1⟩ hnext
  refine Br_dec (fun hlt => ?_) fun hge => ?_
  · have hi : i < kp.length := by omega
    have htk : kp.take (i + 1) = kp.take i ++ [kp[i]] := by rw [List.take_add_one, List.getElem?_eq_getElem hi]; rfl
    have hdr : kp.drop i = kp[i] :: kp.drop (i + 1) := List.drop_eq_getElem_cons hi
    have hxk := hK _ (List.getElem_mem hi)
    have hRp : (risK PtP.kind (kp.take i)).Pairwise fun x y => x.kind ≤ y.kind := risN_pw
    have hRl : (risK PtP.kind (kp.take i)).length = i := by
      have hp := (rise_len (l := (kp.take i).map PtP.pt) fun p hp => by
        obtain ⟨q, hq, rfl⟩ := List.mem_map.1 hp
        exact hK q (List.mem_of_mem_take hq)).length_eq
      rw [rise_eq, risK, ← risN_map PtP.pt (key := PtP.kind) (fun _ => rfl), List.length_map, List.length_map, List.length_take] at hp
      rw [risK, hp]; omega
    rw [hdr] at hv1
    have hsnoc := @ris_ins PtP PtP.kind (kp.take i) kp[i] (by omega)
    rw [← htk] at hsnoc
    generalize kp[i] = x at *
    generalize hD : kp.drop (i + 1) = D at *
    generalize risK PtP.kind (kp.take i) = R at *
    refine LoopT.mk (fun (j : Int) H' => ∃ A B, R = A ++ B ∧ j = (A.length : Nat) ∧ (∀ y ∈ B, x.kind < y.kind) ∧ Upd (fun b => s.a = some (adr b)) H H' ∧ VecN H' T_api_Part 2 s ((A ++ x :: (B ++ D)).flatMap ptV)) (fun (j : Int) _ => j.toNat) ⟨R, [], by simp, by rw [hRl], (fun y hy => by cases hy), hU1, by simpa using hv1⟩ ?_
    rintro next2 _ H2 ⟨A, B, hR, rfl, hB, hU2, hv2⟩ hnext2
    have hAB := congrArg List.length hR
    rw [List.length_append, hRl] at hAB
    have hlen : (A ++ x :: (B ++ D)).length = A.length + (1 + (B ++ D).length) := by simp; omega
    have fin : (∀ y ∈ A, y.kind ≤ x.kind) → ∀ H3, Upd (fun b => s.a = some (adr b)) H H3 → VecN H3 T_api_Part 2 s ((A ++ x :: (B ++ D)).flatMap ptV) → Lt (IntKind.wrap .i64 ((i : Int) + 1)) fun t6 => next t6 H3 := fun hA H3 hU3 hv3 => by
      refine Lt.mk (u := ((i + 1 : Nat) : Int)) (by rw [wrap_i64_id (by omega) (by omega)]; omega) (hnext _ _ ⟨i + 1, rfl, by omega, .inl (by omega), hU3, ?_⟩ (by omega))
      rw [hsnoc hR hB hA, hD]
      simpa using hv3
    refine Jn.mk (fun b H' => Ext H2 H' ∧ b = decide (∃ A' y, A = A' ++ [y] ∧ x.kind < y.kind)) (fun kk hkk => ?_) ?_
    · refine Br_dec (fun hpos => ?_) fun hpos => hkk _ _ ⟨.refl _ _, ?_⟩
      · obtain ⟨A', y, rfl⟩ : ∃ A' y, A = A' ++ [y] := ⟨A.dropLast, A.getLast (by rintro rfl; simp at hpos), (List.dropLast_concat_getLast _).symm⟩
        have hl2 : (A' ++ [y]).length = A'.length + 1 := by simp
        have hg1 : (A' ++ [y] ++ x :: (B ++ D))[A'.length + 1]'(by omega) = x := by simp
        have hg2 : (A' ++ [y] ++ x :: (B ++ D))[A'.length]'(by omega) = y := by simp
        refine elem_at hv2 (j := A'.length + 1) (by rw [hl2]) (by omega) (Lt.mk (u := (A'.length : Nat)) (by rw [hl2, wrap_i64_id (by omega) (by omega)]; omega) (elem_at hv2 (j := A'.length) rfl (by omega) ?_))
        rw [hg1, hg2]
        refine x_cmp fun r H3 hE3 hr => hkk _ _ ⟨hE3, ?_⟩
        rw [decide_eq_decide]
        refine hr.trans ⟨fun e => ⟨A', y, rfl, e⟩, fun ⟨A2, y2, e, e2⟩ => ?_⟩
        have := List.append_inj' e rfl
        have : y = y2 := by simpa using this.2
        rw [this]; exact e2
      · refine (decide_eq_false ?_).symm
        rintro ⟨A', y, rfl, _⟩
        simp at hpos
    rintro _ H3 ⟨hE3, rfl⟩
    have hv3 := hv2.ext hE3
    have hU3 := hU2.ext hE3
    refine Br_dec (fun hc => ?_) fun hc => ?_
    · obtain ⟨A', y, rfl, hyx⟩ := hc
      have hl2 : (A' ++ [y]).length = A'.length + 1 := by simp
      have hg1 : (A' ++ [y] ++ x :: (B ++ D))[A'.length + 1]'(by omega) = x := by simp
      have hg2 : (A' ++ [y] ++ x :: (B ++ D))[A'.length]'(by omega) = y := by simp
      have ew : IntKind.wrap .i64 (((A' ++ [y]).length : Nat) - 1 : Int) = (A'.length : Nat) := by rw [hl2, wrap_i64_id (by omega) (by omega)]; omega
      refine Lt.mk ew (Lt.mk ew ?_)
      rw [hl2]
      refine swap_elems hv3 (j := A'.length) (by omega) fun H4 hU4 hv4 => ?_
      rw [← hl2]
      refine Lt.mk ew (hnext2 _ _ ⟨A', y :: B, by rw [hR]; simp, rfl, fun z hz => ?_, hU3.trans hU4 fun _ _ e => e, ?_⟩ (by omega))
      · rcases List.mem_cons.1 hz with rfl | hz
        · exact hyx
        · exact hB z hz
      · rw [hg1, hg2] at hv4
        have e : ((A' ++ [y] ++ x :: (B ++ D)).set (A'.length + 1) y).set A'.length x = A' ++ x :: (y :: B ++ D) := by
          simp [List.set_append]
        rwa [e] at hv4
    · refine fin (fun z hz => ?_) H3 hU3 hv3
      have hAne : A ≠ [] := by rintro rfl; cases hz
      have hA2 := (List.dropLast_concat_getLast hAne).symm
      have hnot : ¬ x.kind < (A.getLast hAne).kind := fun e => hc ⟨_, _, hA2, e⟩
      rw [hR] at hRp
      have hAp := (List.pairwise_append.1 hRp).1
      rw [hA2] at hAp hz
      rcases List.mem_append.1 hz with hz | hz
      · have := (List.pairwise_append.1 hAp).2.2 z hz _ (List.mem_singleton.2 rfl)
        omega
      · rw [List.mem_singleton.1 hz]; omega
  · have e : risK PtP.kind (kp.take i) ++ kp.drop i = risK PtP.kind kp := by
      rw [List.take_of_length_le (by omega), List.drop_eq_nil_of_le (by omega), List.append_nil]
    rw [e] at hv1
    exact hk H1 hU1 hv1
theorem s_sortParts {s : Sl} {kp : List PtP} (h : VecN H T_api_Part 2 s (kp.flatMap ptV)) (hl : kp.length ≤ 12) (hK : ∀ q ∈ kp, 1 ≤ q.kind ∧ q.kind ≤ 12) {k : Unit → Heap → Prop}
    (hk : ∀ H', Upd (fun b => s.a = some (adr b)) H H' → VecN H' T_api_Part 2 s ((risK PtP.kind kp).flatMap ptV) → k () H') :
    CallT Pg f_slices_SortStableFunc_Sl_api_Part_api_Part [.slice s.a s.len s.cap, fnV 121] (.tup []) H k := by
  have hlen := h.len
  rw [flat_len ptV_len] at hlen
  have hn : s.len = kp.length := by omega
  refine c_slices_SortStableFunc_Sl_api_Part_api_Part _ _ ?_
  unfold v_slices_SortStableFunc_Sl_api_Part_api_Part
  refine c_slices_stableCmpFunc_api_Part _ _ _ ?_
  unfold v_slices_stableCmpFunc_api_Part
  refine LoopT.mk (fun p H' => p = (0, 20) ∧ H = H') (fun _ _ => 0) ⟨rfl, rfl⟩ ?_
  rintro next _ _ ⟨rfl, rfl⟩ _
  refine Br_no (by dsimp only; omega) ?_
  refine s_insert (by rw [hn]) h hl hK fun H' hU hv => ?_
  refine LoopT.mk (fun p H2 => p = 20 ∧ H' = H2) (fun _ _ => 0) ⟨rfl, rfl⟩ ?_
  rintro next _ _ ⟨rfl, rfl⟩ _
  exact Br_no (by omega) (hk H' hU hv)
end
section
open Hc Hc.Vf Hc.Mc Hc.Dice
variable {H : Heap}
theorem s_command {b : Nat} {g : RunG} {cl : List CmP} {q : CmP} (hr : Row H b T_machine_run (runV g)) (hv : VecN H T_api_Command 6 g.cs (cl.flatMap cmV)) (hl : cl.length ≤ 16) {k : Unit → Heap → Prop}
    (hk : ∀ H' cs, Upd (fun x => g.cs.a = some (adr x) ∨ x = b) H H' → Row H' b T_machine_run (runV { g with cs := cs }) → VecN H' T_api_Command 6 cs ((cl ++ [q]).flatMap cmV) → (cs.a = g.cs.a ∨ ∃ x, cs.a = some (adr x) ∧ H.size ≤ x) → k () H') :
    CallT Pg f_machine_run_command [.pointer (some (adr b)), .agg #[.int .i64 q.op, .int .i64 q.e.1, .int .i64 q.e.2, .int .i64 q.kind, .slice q.vsl.a q.vsl.len q.vsl.cap, .slice q.psl.a q.psl.len q.psl.cap]] (.tup []) H k := by
  refine c_machine_run_command _ (q.op, q.e.1, q.e.2, q.kind, q.vsl, q.psl) ?_
  unfold v_machine_run_command
  simp only [NilCk_some, adr_add, mk_add]
  refine Nw_row (vs := cmV q) fun b1 H1 hb1 hE1 hz1 hr1 => ?_
  have hrun1 := hE1.row hr fun h => h
  refine Ld_sl (s := g.cs) ((hrun1.cell 22).trans rfl) ⟨(q.op, q.e.1, q.e.2, q.kind, q.vsl, q.psl), hr1.rd_all, ?_⟩
  refine Nw_row (vs := cmV q) fun b2 H2 hb2 hE2 hz2 hr2 => ?_
  have hrun2 := hE2.row hrun1 fun h => h
  refine Stab_1 ((hrun2.cell 22).trans rfl) ?_
  have hE02 := hE1.trans hE2 fun _ _ h => h
  have hv2 := hv.ext hE02
  have hlen := hv2.len
  rw [flat_len cmV_len] at hlen
  refine App_vecN (ws := cmV q) rfl (by decide) hv2 hr2.rd_all rfl (fun w hw => ?_) (by decide) (by dsimp only; omega) fun cs H3 hv3 hl3 hU3 ha3 => ?_
  · simp only [cmV, List.mem_cons, List.not_mem_nil, or_false] at hw
    rcases hw with rfl | rfl | rfl | rfl | rfl | rfl <;> rfl
  have hb1l : g.cs.a ≠ some (adr b1) := fun e => by have := hv.lt e; omega
  have hr13 : Row H3 b1 T_api_Command (cmV q) := hU3.row (hE2.row hr1 fun h => h) fun e => hb1l e.1
  refine Stab_all (fun y hy => ?_) ?_
  · simp only [List.mem_cons, List.not_mem_nil, or_false] at hy
    rcases hy with rfl | rfl | rfl | rfl | rfl | rfl
    · exact (hr13.cell 0).trans rfl
    · exact (hr13.cell 1).trans rfl
    · exact (hr13.cell 2).trans rfl
    · exact (hr13.cell 3).trans rfl
    · exact (hr13.cell 4).trans rfl
    · exact (hr13.cell 5).trans rfl
  have hrun3 := hU3.row hrun2 fun e => hv2.ne e.1 hrun2 (by decide) rfl
  refine St_row hrun3 (by simp) fun H4 hU4 _ hr4 => ?_
  refine hk H4 cs ?_ hr4 ?_ (ha3.imp (fun e => e.1) fun e => ⟨_, e, hE02.size⟩)
  · exact ((hE02.mono fun _ _ h => h.elim).trans (hU3.mono fun _ _ e => .inl e.1) fun _ _ e => e).trans hU4 fun _ _ e => .inr e
  · have := hv3.upd hU4 fun b hb e => hv3.ne hb hrun3 (by decide) e
    simpa using this
theorem m_cmd {H0 : Heap} {x : MG} (h : MacR H0 H x) (hl : x.cl.length ≤ 16) {q : CmP} (hq : Vec H T_int64 q.vsl (ints q.vals)) (hqc : IsS x.c H0.size 999 q.vsl) (hp : q.parts = []) (hps : q.psl = ⟨none, 0, 0⟩) {k : Unit → Heap → Prop}
    (hk : ∀ H' cs c, MacR H0 H' { x with g := { x.g with cs := cs }, cl := x.cl ++ [q], c := c } → k () H') :
    CallT Pg f_machine_run_command [.pointer (some (adr x.b)), .agg #[.int .i64 q.op, .int .i64 q.e.1, .int .i64 q.e.2, .int .i64 q.kind, .slice q.vsl.a q.vsl.len q.vsl.cap, .slice q.psl.a q.psl.len q.psl.cap]] (.tup []) H k :=
  s_command h.run.1 h.cv.1 hl fun H' cs hU hr hv ha => hk H' cs _ (h.cmd hU hr hv ha hq hqc hp hps)
theorem s_spawn {H0 : Heap} {x : MG} (h : MacR H0 H x) (hl : x.cl.length ≤ 16) (hkl : x.kp.length ≤ 12) (hK : ∀ q ∈ x.kp, 1 ≤ q.kind ∧ q.kind ≤ 12) {k : Unit → Heap → Prop}
    (hk : ∀ H' cs c, MacR H0 H' { x with g := { x.g with cs := cs, ks := ⟨none, 0, 0⟩ }, cl := x.cl ++ [spawned x.g.ks (risK PtP.kind x.kp)], kp := [], c := c } → k () H') :
    CallT Pg f_machine_run_spawn [.pointer (some (adr x.b))] (.tup []) H k := by
  refine c_machine_run_spawn _ ?_
  unfold v_machine_run_spawn
  simp only [NilCk_some, adr_add, mk_add]
  refine Ld_sl (s := x.g.ks) ((h.run.1.cell 20).trans rfl) (s_sortParts h.kv.1 hkl hK fun H1 hU1 hv1 => ?_)
  have hrun1 := hU1.row h.run.1 fun e => h.kv.1.ne e h.run.1 (by decide) rfl
  have hcv1 := h.cv.1.upd hU1 fun b hb e => by
    have h1 := (h.cv.2 b hb).2; have h2 := (h.kv.2 b e).2; omega
  refine Ld_sl (s := x.g.ks) ((hrun1.cell 20).trans rfl) (s_command (q := spawned x.g.ks (risK PtP.kind x.kp)) hrun1 hcv1 hl fun H2 cs hU2 hr2 hv2 ha2 => ?_)
  refine St_row hr2 (by simp) fun H3 hU3 _ hr3 => ?_
  have hp : (risK PtP.kind x.kp).Perm x.kp := by
    have := rise_len (l := x.kp.map PtP.pt) fun p hp => by
      obtain ⟨q, hq, rfl⟩ := List.mem_map.1 hp
      exact hK q hq
    have key : ∀ (n : Nat) (l : List PtP), (∀ p ∈ l, 0 ≤ p.kind ∧ p.kind < n) → (risN PtP.kind n l).Perm l := by
      intro n
      induction n with
      | zero => intro l h; cases l with
        | nil => exact .refl _
        | cons p l => have := h p (by simp); omega
      | succ n ih =>
        intro l h
        rw [risN_succ]
        have h1 : risN PtP.kind n l = risN PtP.kind n (l.filter fun p => !(p.kind == (n : Int))) := by
          unfold risN
          have : ∀ k ∈ List.range n, (l.filter fun p => p.kind == (k : Int)) = (l.filter fun p => !(p.kind == (n : Int))).filter fun p => p.kind == (k : Int) := by
            intro k hk
            rw [List.filter_filter]
            refine List.filter_congr fun p _ => ?_
            by_cases e : p.kind = (k : Int)
            · have := List.mem_range.1 hk
              have h2 : (p.kind == (n : Int)) = false := beq_eq_false_iff_ne.2 (by omega)
              rw [h2]; simp
            · have : (p.kind == (k : Int)) = false := beq_eq_false_iff_ne.2 e
              rw [this]; simp
          rw [List.flatMap_def, List.flatMap_def, List.map_congr_left this]
        rw [h1]
        refine ((ih (l.filter fun p => !(p.kind == (n : Int))) fun p hp => ?_).append (.refl _)).trans ?_
        · obtain ⟨hp, hq⟩ := List.mem_filter.1 hp
          have := h p hp
          have hq : p.kind ≠ n := by simpa using hq
          omega
        · exact List.perm_append_comm.trans (List.filter_append_perm (fun p : PtP => p.kind == (n : Int)) l)
    exact key 13 x.kp fun p hp => by have := hK p hp; omega
  refine hk H3 cs _ (h.spawn hp ?_ hr3 ?_ ?_ ?_)
  · refine ((hU1.mono fun _ _ e => .inl e).trans (hU2.mono fun _ _ e => .inr e) fun _ _ e => e).trans hU3 fun _ _ e => .inr (.inr e)
  · refine (hv1.upd hU2 fun b hb e => ?_).upd hU3 fun b hb e => ?_
    · rcases e with e | e
      · have h1 := (h.cv.2 b e).2; have h2 := (h.kv.2 b hb).2; omega
      · exact h.kv.1.ne hb h.run.1 (by decide) e
    · exact h.kv.1.ne hb h.run.1 (by decide) e
  · exact hv2.upd hU3 fun b hb e => hv2.ne hb hr2 (by decide) e
  · exact ha2.imp_right fun ⟨y, e, hy⟩ => ⟨y, e, by have := hU1.size; omega⟩
end
section
open Hc Hc.Vf Hc.Mc Hc.Dice
variable {H : Heap}
theorem act_congr {P : MP} {E : En} {m m1 : Ms} {l : List Int} {op : Nat} {A nx si : Int} : act P E { m with top := { m.top with nx := nx }, since := si } m1 l op A = act P E m m1 l op A := by
  unfold act
  split <;> rfl
theorem vec_st {T : TypeId} {s : Sl} {vs : List Value} (h : Vec H T s vs) {i : Int} {j : Nat} (hi : i = j) (hj : j < vs.length) {v : Value} {k : Heap → Prop} (hk : ∀ H' b, s.a = some (adr b) → Upd (· = b) H H' → Vec H' T s (vs.set j v) → k H') :
    IxA 1 s i fun a => St a v H k := by
  subst hi
  have hl := h.len
  rcases h.own with ⟨_, _, h3⟩ | ⟨b, sp, h1, h2, h3⟩
  · rw [h3] at hj; simp at hj
  · refine IxA.mk h1 (by omega) (by omega) ?_
    rw [Int.toNat_natCast, adr_add, Nat.mul_one]
    refine St_row h2 (by rw [List.length_append]; omega) fun H' hU _ hr => hk H' b h1 hU ⟨by rw [List.length_set]; exact hl, .inr ⟨b, sp, h1, ?_, by rw [List.length_set]; exact h3⟩, h.lc⟩
    rwa [List.set_append_left _ _ hj] at hr
theorem ints_setI (xs : List Int) (i : Nat) (x : Int) : (ints xs).set i (.int .i64 x) = ints (xs.set i x) := by simp [ints, List.map_set]
theorem s_kept {H0 : Heap} {x : MG} (h : MacR H0 H x) (her : x.g.er = 0) {op A : Int} (hop : op = 26 ∨ op = 28) (hA : I64 A) (hA0 : 0 ≤ A) (ht : A % 8 ≤ x.top.stk.length) (hsl : x.top.stk.length ≤ 64) (hkl : x.kp.length ≤ 12) (hcl : x.cl.length ≤ 16) (P : MP) (E : En) (hE : E.idx = x.g.ix ∧ E.gen = x.g.gn) {k : Unit → Heap → Prop}
    (hk : ∀ H' x', Post H0 x (act P E x.ms (cutS x.ms (A % 8).toNat) (args x.ms (A % 8).toNat) op.toNat A) H' x' → k () H') :
    CallT Pg f_machine_run_kept [.pointer (some (adr x.b)), .agg #[.int .i64 op, .int .i64 A]] (.tup []) H k := by
  refine c_machine_run_kept _ (op, A) ?_
  unfold v_machine_run_kept
  refine Nw_row (vs := [.int .i64 op, .int .i64 A]) fun b1 H1 hb1 hE1 hz1 hr1 => ?_
  have h1 := h.ext hE1
  have bp : b1 ≠ x.top.p := by have := h.topR.row.lt; omega
  have c1 : hcell H1 ⟨b1, 1, none⟩ = some (.int .i64 A) := (hr1.cell 1).trans rfl
  simp only [NilCk_some, adr_add, mk_add]
  refine Ld_int c1 ⟨by omega, ?_⟩
  rw [Int.tmod_eq_emod_of_nonneg hA0]
  refine s_last h1 (Stab_1 c1 (m_take h1 (n := (A % 8).toNat) (by omega) (by omega) (by omega) fun r H2 c2 hU2 h2 hv2 hf2 => ?_))
  have hr2 : Row H2 b1 T_api_Instr [.int .i64 op, .int .i64 A] := hU2.row hr1 bp
  have c12 : hcell H2 ⟨b1, 1, none⟩ = some (.int .i64 A) := (hr2.cell 1).trans rfl
  refine Stab_1 c12 (Ld_int c12 ⟨by omega, ?_⟩)
  rw [tdiv8 hA0 hA]
  refine Ld_int (n := op) ((hr2.cell 0).trans rfl) (Br.mk (fun ho => ?_) fun ho => ?_)
  · have ho := beqI ho; subst ho
    refine Ld_sl (s := x.g.ks) ((h2.run.1.cell 20).trans rfl) ?_
    refine Nw_row (vs := [.int .i64 (A / 8), slV r]) fun b2 H3 hb2 hE3 hz3 hr3 => ?_
    have h3 := h2.ext hE3
    have hkv := h3.kv.1
    have hkvl := hkv.len
    rw [flat_len ptV_len] at hkvl
    dsimp only at hkv hkvl
    refine App_vecN (ws := ptV ⟨A / 8, r, x.top.stk.drop (x.top.stk.length - (A % 8).toNat)⟩) rfl (by decide) hkv hr3.rd_all rfl (fun w hw => ?_) (by decide) (by dsimp only; omega) fun ks H4 hv4 hl4 hU4 ha4 => ?_
    · simp only [ptV, List.mem_cons, List.not_mem_nil, or_false] at hw
      rcases hw with rfl | rfl <;> rfl
    have hrun4 := hU4.row h3.run.1 fun e => hkv.ne e.1 h3.run.1 (by decide) rfl
    refine St_row hrun4 (by simp) fun H5 hU5 _ hr5 => ?_
    have hfin := h2.keep (ks := ks) (q := ⟨A / 8, r, x.top.stk.drop (x.top.stk.length - (A % 8).toNat)⟩) (((hE3.mono fun _ _ h => h.elim).trans (hU4.mono fun _ _ e => .inl e.1) fun _ _ e => e).trans hU5 fun _ _ e => .inr e) hr5 (by
      have := hv4.upd hU5 fun b hb e => hv4.ne hb hrun4 (by decide) e
      simpa using this) (ha4.imp (fun e => e.1) fun e => ⟨_, e, hE3.size⟩) hv2 hf2
    refine hk H5 _ ⟨hfin, rfl, rfl, her, fun _ => ?_, rfl⟩
    show _ = { cutS x.ms (A % 8).toNat with kept := x.ms.kept ++ [(⟨A / 8, args x.ms (A % 8).toNat⟩ : Pt)] }
    simp only [MG.ms, List.map_append, List.map_cons, List.map_nil]
    rfl
  · have ho2 : op = 28 := by have := bneI ho; omega
    subst ho2
    refine ⟨(x.g.ix, x.g.gn), ?_, ?_⟩
    · rw [hcells_iff]
      intro o ho
      have ho : o < 2 := ho
      rw [mk_add, h2.run.1.cell]
      match o, ho with
      | 0, _ => rfl
      | 1, _ => rfl
    refine m_cmd h2 (q := ⟨3, (x.g.ix, x.g.gn), A / 8, r, x.top.stk.drop (x.top.stk.length - (A % 8).toNat), ⟨none, 0, 0⟩, []⟩) hcl hv2 hf2 rfl rfl fun H4 cs c4 h4 => ?_
    refine hk H4 _ ⟨h4, rfl, rfl, her, fun _ => ?_, rfl⟩
    show _ = { cutS x.ms (A % 8).toNat with cmds := x.ms.cmds ++ [(⟨3, (E.idx, E.gen), A / 8, args x.ms (A % 8).toNat, []⟩ : Cm)] }
    rw [hE.1, hE.2]
    simp only [MG.ms, List.map_append, List.map_cons, List.map_nil]
    rfl
abbrev MG.bump (x : MG) (c : Col) : MG := { x with top := { x.top with nx := x.top.nx + 1, v := x.top.v + 1 }, g := { x.g with si := x.g.si + 1 }, c := c }
theorem bump_post {H0 H' : Heap} {x x' : MG} {c : Col} {res : Int × Ms} (h : Post H0 (x.bump c) res H' x') : Post H0 x res H' x' := ⟨h.mac, h.b, h.st, h.er, h.ms, h.steps⟩
theorem does_act {P : MP} {E : En} {x : MG} {c : Col} {i : Ins} (hb : isBin i.1 = false) (hu : isUn i.1 = false) :
    does P E x.ms i = act P E (x.bump c).ms (cutS (x.bump c).ms (takes P.ps i).toNat) (args (x.bump c).ms (takes P.ps i).toNat) i.1.toNat i.2 := by
  unfold does
  dsimp only
  rw [if_neg (by rw [hb]; decide), if_neg (by rw [hu]; decide)]
  exact (act_congr (m := x.ms) (nx := x.top.nx + 1) (si := x.g.si + 1)).symm
theorem s_store {H0 : Heap} {x : MG} (h : MacR H0 H x) {A w : Int} (hA : 0 ≤ A ∧ A < (x.top.loc.length : Int)) {k : Heap → Prop} (hk : ∀ H' c, MacR H0 H' { x with top := { x.top with loc := x.top.loc.set A.toNat w }, c := c } → k H') :
    IxA 1 x.top.ls A fun a => St a (.int .i64 w) H k := by
  refine vec_st h.topR.loc (j := A.toNat) (by omega) (by rw [List.length_map]; omega) fun H' b hb hU hv => hk H' _ (h.top (t := { x.top with loc := x.top.loc.set A.toNat w }) (d := fun _ => 999) (tch_row hU (h.topI _ (.inr (.inl hb))) rfl) ⟨?_, ?_, ?_, h.topR.ap, h.topR.nxr⟩ rfl rfl fun b hb => .inl hb)
  · exact hU.row h.topR.row fun e => h.topR.neL hb e.symm
  · rw [ints_setI] at hv; exact hv
  · exact h.topR.stk.upd hU fun b' hb' e => h.topR.ap b hb (e ▸ hb')
theorem s_putf {H0 : Heap} {x : MG} (h : MacR H0 H x) {j : Nat} (hj : j < x.es.length) {i w : Int} (hi : 0 ≤ i ∧ i < (x.es[j].vals.length : Int)) {k : Heap → Prop} (hk : ∀ H', MacR H0 H' { x with es := x.es.set j { x.es[j] with vals := x.es[j].vals.set i.toNat w } } → k H') :
    IxA 1 x.es[j].sl i fun a => St a (.int .i64 w) H k := by
  refine vec_st (h.esR _ (List.getElem_mem hj)).1 (j := i.toNat) (by omega) (by rw [List.length_map]; omega) fun H' b hb hU hv => hk H' (h.put hj hb hU ?_)
  rw [ints_setI] at hv; exact hv
theorem s_does (hin : InputOk) {H0 : Heap} {x : MG} {fs : List Rou} {ins : List (Int × Int × Int)} (h : MacR H0 H x) (hc : CtxR H0 x.g.pF x.g.s x.g.inS fs ins) (her : x.g.er = 0) (hP : POk (mpOf x.g fs)) (hM : MOk (mpOf x.g fs) x.ms) {i : Ins} (hr : Rdy (mpOf x.g fs) x.ms i) {k : Unit → Heap → Prop}
    (hk : ∀ H' x', Post H0 x (does (mpOf x.g fs) (enOf x.g ins) x.ms i) H' x' → k () H') :
    CallT Pg f_machine_run_does [.pointer (some (adr x.b)), .agg #[.int .i64 i.1, .int .i64 i.2]] (.tup []) H k := by
  have hps : (mpOf x.g fs).ps = parms fs := by simp [MP.ps, parms]
  have hi64 := (hM.top.fnOk hP).code i hr.get
  have hop := hr.op
  have hstk := hr.stk
  have hnx := hr.nx
  have hsince := hr.since
  have hsl : x.top.stk.length ≤ 64 := hM.top.stk
  have hsi := hM.since
  have hcode : (x.top.r.code.length : Int) ≤ 2 ^ 62 := by
    have := (hM.top.fnOk hP).len
    have e : x.ms.top.fn.code.length = x.top.r.code.length := rfl
    omega
  have hv : x.top.v = x.top.nx := by
    rcases h.topR.nxr with e | ⟨e, _⟩
    · exact e
    · exact absurd hnx e
  rw [hps] at hstk
  have hstk : takes (parms fs) i ≤ (x.top.stk.length : Int) ∧ (x.top.stk.length : Int) - takes (parms fs) i + puts i ≤ 64 := hstk
  refine c_machine_run_does _ i ?_
  unfold v_machine_run_does
  refine Nw_row (vs := insV i) fun b1 H1 hb1 hE1 hz1 hr1 => ?_
  have h1 := h.ext hE1
  refine s_last h1 ?_
  simp only [NilCk_some, adr_add, mk_add]
  have hnx' : 0 ≤ x.top.nx ∧ x.top.nx < (x.top.r.code.length : Int) := hnx
  refine Ld_int (n := x.top.v) ((h1.topR.row.cell 6).trans rfl) (Lt.mk (u := x.top.v + 1) (by rw [wrap_i64_id (by omega) (by omega)]) ?_)
  refine m_cell h1 (t := { x.top with nx := x.top.nx + 1, v := x.top.v + 1 }) (by decide) rfl rfl rfl rfl rfl rfl rfl (.inl (by dsimp only; omega)) fun H2 c2 hU2 _ h2 => ?_
  have hsi' : 0 ≤ x.g.si ∧ x.g.si < 40000 := ⟨hsi.1, hsince⟩
  refine Ld_int (n := x.g.si) ((h2.run.1.cell 27).trans rfl) (Lt.mk (u := x.g.si + 1) (by rw [wrap_i64_id (by omega) (by omega)]) ?_)
  refine St_row h2.run.1 (by simp) fun H3 hU3 _ hr3 => ?_
  have h3 : MacR H0 H3 (x.bump c2) := h2.num (st := x.g.st) (er := x.g.er) (si := x.g.si + 1) (ov := x.g.ov) hU3 hr3
  have hlo : x.top.p < H1.size := h1.topR.row.lt
  have hlb : x.b < H1.size := h1.run.1.lt
  have rb : Row H3 b1 T_api_Instr (insV i) := hU3.row (hU2.row hr1 (by have := h.topR.row.lt; omega)) (by have := h.run.1.lt; omega)
  refine Ld_int (n := i.1) ((rb.cell 0).trans rfl) (s_deedOf fun H4 n v hE4 hv1 hD => ?_)
  have h4 := h3.ext hE4
  have rb4 := hE4.row rb fun h => h
  refine Nw_row (vs := [.int .i64 0, .nilFunc]) fun b2 H5 hb2 hE5 hz5 hr5 => ?_
  refine St_row hr5 (by simp) fun H6 hU6 _ hr6 => ⟨hv1, St_row hr6 (by simp) fun H7 hU7 _ hr7 => ?_⟩
  have hE47 : Ext H4 H7 := extUpd hE5 (by omega) (hU6.trans hU7 fun _ _ e => e)
  have h7 := h4.ext hE47
  have rb7 := hE47.row rb4 fun h => h
  have hD7 := hD.upd hE47 fun _ _ _ _ _ h => h
  have hyp : (x.bump c2).top.p = x.top.p := rfl
  refine Br.mk (fun hre => ?_) fun hre => ?_
  · -- it reckons
    refine ⟨v, (hr7.cell 1).trans rfl, Ld_int (n := n) ((hr7.cell 0).trans rfl) ?_⟩
    have hm : isBin i.1 = true ∨ isUn i.1 = true := by simpa using hre
    have hb2x : b2 ≠ x.top.p := by have := hE4.size; have := hU3.size; have := hU2.size; omega
    rcases hm with hb | hu
    · obtain ⟨hn, hDB⟩ := hD7.1 hb
      subst hn
      have ht := (takes_bin (ps := parms fs) hop hb).1
      rw [ht] at hstk
      refine m_take h7 (n := 2) rfl (by dsimp only; omega) (by dsimp only; omega) fun r H8 c8 hU8 h8 hv8 hf8 => ?_
      have hb28 : Row H8 b2 T_machine_deed _ := hU8.row hr7 hb2x
      refine Stab_1 ((hb28.cell 1).trans rfl) ?_
      have hx : (x.top.stk.drop (x.top.stk.length - 2)).length = 2 := by simp; omega
      have ha : args x.ms 2 = x.top.stk.drop (x.top.stk.length - 2) := rfl
      dsimp only at hv8
      have hdo : does (mpOf x.g fs) (enOf x.g ins) x.ms i = ((0 : Int), (cut x.ms 2).push (binI i.1.toNat (args x.ms 2)[0]! (args x.ms 2)[1]!)) := by
        unfold does
        rw [hps, ht, if_pos hb]; rfl
      rw [hdo, ha] at hk
      generalize hl : x.top.stk.drop (x.top.stk.length - 2) = l at *
      match l, hx with
      | [w, z], _ =>
        refine (hDB.upd hU8 fun b vs hr e => hr.ne h7.topR.row (by decide) e).call hv8 ?_
        refine Stab_1 ((hb28.cell 0).trans rfl) (m_push h8 (by simp; omega) fun ss H9 c9 hU9 h9 => ?_)
        have hb29 : Row H9 b2 T_machine_deed _ := hU9.row hb28 fun e => e.elim hb2x fun e => by have := h.topR.stk.lt e; have := hE4.size; have := hU3.size; have := hU2.size; omega
        exact Stab_2 ((hb29.cell 0).trans rfl) ((hb29.cell 1).trans rfl) (hk H9 _ ⟨h9, rfl, rfl, her, fun _ => rfl, rfl⟩)
    · obtain ⟨hn, hDB⟩ := hD7.2 hu
      subst hn
      have ht := (takes_un (ps := parms fs) hop hu).1
      rw [ht] at hstk
      refine m_take h7 (n := 1) rfl (by dsimp only; omega) (by dsimp only; omega) fun r H8 c8 hU8 h8 hv8 hf8 => ?_
      have hb28 : Row H8 b2 T_machine_deed _ := hU8.row hr7 hb2x
      refine Stab_1 ((hb28.cell 1).trans rfl) ?_
      have hx : (x.top.stk.drop (x.top.stk.length - 1)).length = 1 := by simp; omega
      have ha : args x.ms 1 = x.top.stk.drop (x.top.stk.length - 1) := rfl
      dsimp only at hv8
      have hnb : isBin i.1 = false := by
        cases e : isBin i.1 with
        | false => rfl
        | true => have := (takes_bin (ps := parms fs) hop e).1; omega
      have hdo : does (mpOf x.g fs) (enOf x.g ins) x.ms i = ((0 : Int), (cut x.ms 1).push (unI i.1.toNat (args x.ms 1)[0]!)) := by
        unfold does
        dsimp only
        rw [hps, ht, if_neg (by rw [hnb]; decide), if_pos hu]; rfl
      rw [hdo, ha] at hk
      generalize hl : x.top.stk.drop (x.top.stk.length - 1) = l at *
      match l, hx with
      | [w], _ =>
        refine (hDB.upd hU8 fun b vs hr e => hr.ne h7.topR.row (by decide) e).call hv8 ?_
        refine Stab_1 ((hb28.cell 0).trans rfl) (m_push h8 (by simp; omega) fun ss H9 c9 hU9 h9 => ?_)
        have hb29 : Row H9 b2 T_machine_deed _ := hU9.row hb28 fun e => e.elim hb2x fun e => by have := h.topR.stk.lt e; have := hE4.size; have := hU3.size; have := hU2.size; omega
        exact Stab_2 ((hb29.cell 0).trans rfl) ((hb29.cell 1).trans rfl) (hk H9 _ ⟨h9, rfl, rfl, her, fun _ => rfl, rfl⟩)
  have hnb : isBin i.1 = false := by revert hre; cases isBin i.1 <;> simp
  have hnu : isUn i.1 = false := by revert hre; cases isUn i.1 <;> simp
  rw [does_act (c := c2) hnb hnu, hps] at hk
  have hk : ∀ H' x', Post H0 (x.bump c2) (act (mpOf x.g fs) (enOf x.g ins) (x.bump c2).ms (cutS (x.bump c2).ms (takes (parms fs) i).toNat) (args (x.bump c2).ms (takes (parms fs) i).toNat) i.1.toNat i.2) H' x' → k () H' := fun H' x' hp => hk H' x' (bump_post hp)
  obtain ⟨op, A⟩ := i
  dsimp only at hop hi64 hstk hnb hnu hk rb7
  have hA := hi64.2
  have hA2 := hA
  unfold I64 at hA2
  have hacc := hr.acc
  have hroom := hr.room
  unfold access at hacc
  dsimp only at hacc hroom
  have hacc : accessM (mpOf x.g fs) x.ms op.toNat A = true := by
    split at hacc
    · cases hacc
    · exact hacc
  have hlowl := h.lowl
  have hx1 : op = 2 ∨ op = 3 → 0 ≤ A ∧ A < (x.top.loc.length : Int) := fun e => by
    rcases e with rfl | rfl <;> exact of_decide_eq_true hacc
  have hfo : ∀ set, fieldOk x.ms.vals A set = true → 0 ≤ A ∧ ∃ v, lookV x.ms.vals (A / 8) = some v ∧ A % 8 < (v.length : Int) := fun set e => by
    unfold fieldOk at e
    simp only [Bool.and_eq_true, decide_eq_true_eq] at e
    refine ⟨e.1.1, ?_⟩
    have e2 := e.1.2
    cases hl : lookV x.ms.vals (A / 8) with
    | none => rw [hl] at e2; cases e2
    | some v => rw [hl] at e2; exact ⟨v, rfl, of_decide_eq_true e2⟩
  have hx4 : op = 4 ∨ op = 5 → 0 ≤ A ∧ ∃ v, lookV x.ms.vals (A / 8) = some v ∧ A % 8 < (v.length : Int) := fun e => by
    rcases e with rfl | rfl <;> exact hfo _ hacc
  have hx21 : op = 21 → 0 ≤ A ∧ A < (fs.length : Int) ∧ x.low.length + 1 ≤ 16 := fun e => by
    subst e
    have := of_decide_eq_true (show decide (0 ≤ A ∧ A < ((fs.map fnOf).length : Int) ∧ (x.low.map AP.act).length + 1 ≤ 16) = true from hacc)
    rw [List.length_map, List.length_map] at this
    exact this
  have hx22 : op = 22 → x.low ≠ [] ∧ ∀ a ∈ x.low, a.stk.length ≤ 64 := fun e => by
    subst e
    have := of_decide_eq_true (show decide (x.low.map AP.act ≠ []) = true from hacc)
    refine ⟨fun e => this (by rw [e]; rfl), fun a ha => ?_⟩
    exact (hM.low a.act (List.mem_map.2 ⟨a, ha, rfl⟩)).1.stk
  have hx26 : op = 26 ∨ op = 28 → 0 ≤ A := fun e => by
    rcases e with rfl | rfl
    · have : (decide (0 ≤ A) && isKindB (A / 8) && decide (x.ms.kept.length < 12)) = true := hacc
      simp only [Bool.and_eq_true, decide_eq_true_eq] at this
      exact this.1.1
    · have : (decide (0 ≤ A) && isKindB (A / 8)) = true := hacc
      simp only [Bool.and_eq_true, decide_eq_true_eq] at this
      exact this.1
  have hkl : x.kp.length ≤ 12 := by have := hM.kept; rwa [List.length_map] at this
  have hcl : x.cl.length ≤ 16 := by have := hM.cmds; rwa [List.length_map] at this
  have hel : x.evs.length ≤ 16 := hM.evs
  have hKK : ∀ q ∈ x.kp, 1 ≤ q.kind ∧ q.kind ≤ 12 := fun q hq => hM.keptK q.pt (List.mem_map.2 ⟨q, hq, rfl⟩)
  have hdd := hM.dice
  have hst : 0 ≤ x.g.st ∧ x.g.st ≤ 2000 := hM.steps
  refine Jn.mk (fun j H' => (j = true ∧ ∃ x', Post H0 (x.bump c2) (act (mpOf x.g fs) (enOf x.g ins) (x.bump c2).ms (cutS (x.bump c2).ms (takes (parms fs) (op, A)).toNat) (args (x.bump c2).ms (takes (parms fs) (op, A)).toNat) op.toNat A) H' x') ∨
    (j = false ∧ Ext H7 H' ∧ ¬ (19 ≤ op ∧ op ≤ 24) ∧ ¬ (op = 1 ∨ op = 2 ∨ op = 4 ∨ (31 ≤ op ∧ op ≤ 35)))) (fun kk hkk => ?_) ?_
  · refine ⟨(op, A), rb7.rd_all, ?_⟩
    refine s_jumps (x := x.bump c2) (fs := fs) (ins := ins) h7 hc her hst hstk.1 hsl hx21 hx22 (enOf x.g ins) (fun H' x' hop' hp => ?_) fun H' hno hE8 => ?_
    · exact hkk _ _ (.inl ⟨rfl, x', hp⟩)
    · refine ⟨(op, A), (hE8.row rb7 fun h => h).rd_all, ?_⟩
      refine s_asks (x := x.bump c2) (fs := fs) (ins := ins) hin (h7.ext hE8) hc her hA hstk.1 hsl hM.top.stk64 hdd (fun e => hx1 (.inl e)) (fun e => hx4 (.inl e)) (fun H' x' hop' hp => ?_) fun H' hno2 hE9 => ?_
      · exact hkk _ _ (.inl ⟨rfl, x', hp⟩)
      · exact hkk _ _ (.inr ⟨rfl, hE8.trans hE9 fun _ _ h => h, hno, hno2⟩)
  rintro j H8 (⟨rfl, x', hp⟩ | ⟨rfl, hE8, hn1, hn2⟩)
  · exact hk H8 x' hp
  rw [Br_false]
  have h8 := h7.ext hE8
  have rb8 := hE8.row rb7 fun h => h
  refine ⟨(x.g.ix, x.g.gn), ?_, ?_⟩
  · rw [hcells_iff]
    intro o ho
    have ho : o < 2 := ho
    rw [mk_add, h8.run.1.cell]
    match o, ho with
    | 0, _ => rfl
    | 1, _ => rfl
  refine Nw_row (vs := [.int .i64 0, .int .i64 0]) fun b3 H9 hb3 hE9 hz9 hr9 => ?_
  refine St_row hr9 (by simp) fun H10 hU10 _ hr10 => St_row hr10 (by simp) fun H11 hU11 _ hr11 => ?_
  have hE811 : Ext H8 H11 := extUpd hE9 (by omega) (hU10.trans hU11 fun _ _ e => e)
  have h11 := h8.ext hE811
  have rb11 := hE811.row rb8 fun h => h
  have re : Row H11 b3 T_api_Entity [.int .i64 x.g.ix, .int .i64 x.g.gn] := hr11
  have lp : x.top.p < H8.size := h8.topR.row.lt
  have b1p : b1 ≠ x.top.p := by have := h.topR.row.lt; omega
  have b3p : b3 ≠ x.top.p := by omega
  have topc : ∀ n, hcell H11 ⟨x.top.p, n, none⟩ = (actV (x.bump c2).top)[n]? := h11.topR.row.cell
  refine Ld_int (n := op) ((rb11.cell 0).trans rfl) ?_
  have c1 : hcell H11 ⟨b1, 1, none⟩ = some (.int .i64 A) := (rb11.cell 1).trans rfl
  simp only [Jn]
  refine Br.mk (fun e3 => ?_) fun e3 => ?_
  · have e3 := beqI e3; subst e3
    have et : takes (parms fs) (3, A) = 1 := takes_of (by decide) (by decide) (by decide)
    rw [et] at hstk hk
    refine Ld_sl (s := x.top.ls) ((topc 4).trans rfl) (Ld_int c1 (m_take h11 (n := 1) rfl (by dsimp only; omega) (by dsimp only; omega) fun r H12 c12 hU12 h12 hv12 hf12 => ?_))
    refine Stab_2 ((hU12.row rb11 b1p |>.cell 1).trans rfl) ((h12.topR.row.cell 4).trans rfl) ?_
    have hx : (x.top.stk.drop (x.top.stk.length - 1)).length = 1 := by simp; omega
    have ha : args (x.bump c2).ms 1 = x.top.stk.drop (x.top.stk.length - 1) := rfl
    dsimp only at hv12
    generalize hl : x.top.stk.drop (x.top.stk.length - 1) = l at *
    match l, hx with
    | [w], _ =>
      refine IxA_vec hv12 (by decide) (by simp) fun a7 ha7 _ => Ld_int (n := w) (ha7.trans rfl) ?_
      refine s_store h12 (hx1 (.inr rfl)) fun H13 c13 h13 => hk H13 _ ⟨h13, rfl, rfl, her, fun _ => ?_, rfl⟩
      rw [show (1 : Int).toNat = 1 from rfl, ha]; rfl
  have e3 := bneI e3
  refine Br.mk (fun e5 => ?_) fun e5 => ?_
  · have e5 := beqI e5; subst e5
    have et : takes (parms fs) (5, A) = 1 := takes_of (by decide) (by decide) (by decide)
    rw [et] at hstk hk
    obtain ⟨hA0, vv, hvv, hvl⟩ := hx4 (.inr rfl)
    refine ⟨.map (some x.g.mp), (h11.run.1.cell 18).trans rfl, Ld_int c1 ⟨by omega, Ld_int c1 ⟨by omega, ?_⟩⟩⟩
    rw [tdiv8 hA0 hA, Int.tmod_eq_emod_of_nonneg hA0]
    have hx : (x.top.stk.drop (x.top.stk.length - 1)).length = 1 := by simp; omega
    have ha : args (x.bump c2).ms 1 = x.top.stk.drop (x.top.stk.length - 1) := rfl
    rw [show (1 : Int).toNat = 1 from rfl, ha] at hk
    generalize hl : x.top.stk.drop (x.top.stk.length - 1) = l at *
    match l, hx with
    | [w], _ =>
      have fin : ∀ {Hx : Heap} {c : Col} (hx : MacR H0 Hx { (x.bump c2) with top := (x.bump c2).top.took 1, c := c }) {j : Nat} (hj : j < x.es.length), x.es[j].kind = A / 8 → lookV (x.es.map PtP.pt) (A / 8) = some x.es[j].vals → (∀ f v, putV (x.es.map PtP.pt) (A / 8) f v = (x.es.set j { x.es[j] with vals := x.es[j].vals.set f v }).map PtP.pt) →
          IxA 1 x.es[j].sl (A % 8) fun a11 => St a11 (.int .i64 w) Hx fun H24 => k () H24 := fun {Hx c} hx {j} hj hkd hlk hpv => by
        have ev : x.es[j].vals = vv := by
          have : some x.es[j].vals = some vv := hlk.symm.trans hvv
          exact Option.some.inj this
        refine s_putf hx (j := j) hj (i := A % 8) (w := w) ⟨by omega, by dsimp only; rw [ev]; exact hvl⟩ fun H13 h13 => hk H13 _ ⟨h13, rfl, rfl, her, fun _ => ?_, rfl⟩
        show _ = { cutS (x.bump c2).ms 1 with vals := putV (x.es.map PtP.pt) (A / 8) (A % 8).toNat w }
        rw [hpv]
      have absurd' : ∀ {X : Prop}, lookV (x.es.map PtP.pt) (A / 8) = none → X := fun {X} hlk => by
        have : none = some vv := hlk.symm.trans hvv
        cases this
      refine ⟨MpL_es h11.map.1 (fun j hj hkd hlk hpv => Stab_2 c1 c1 (m_take h11 (n := 1) rfl (by dsimp only; omega) (by dsimp only; omega) fun r H12 c12 hU12 h12 hv12 hf12 => ?_)) fun hlk => absurd' hlk, m_take h11 (n := 1) rfl (by dsimp only; omega) (by dsimp only; omega) fun r H12 c12 hU12 h12 hv12 hf12 => ?_, trivial⟩
      · have c112 : hcell H12 ⟨b1, 1, none⟩ = some (.int .i64 A) := (hU12.row rb11 b1p |>.cell 1).trans rfl
        dsimp only at hv12
        rw [hl] at hv12
        refine Stab_all (fun y hy => ?_) (IxA_vec hv12 (by decide) (by simp) fun a7 ha7 _ => Ld_int (n := w) (ha7.trans rfl) (fin h12 hj hkd hlk hpv))
        simp only [List.mem_cons, List.not_mem_nil, or_false] at hy
        rcases hy with rfl | rfl | rfl
        · exact c112
        · exact c112
        · exact (h12.run.1.cell 18).trans rfl
      · have c112 : hcell H12 ⟨b1, 1, none⟩ = some (.int .i64 A) := (hU12.row rb11 b1p |>.cell 1).trans rfl
        dsimp only at hv12
        rw [hl] at hv12
        refine Stab_all (fun y hy => ?_) (IxA_vec hv12 (by decide) (by simp) fun a7 ha7 _ => Ld_int (n := w) (ha7.trans rfl) (MpL_es h12.map.1 (fun j hj hkd hlk hpv => Stab_all (fun y hy => ?_) (fin h12 hj hkd hlk hpv)) fun hlk => absurd' hlk))
        · simp only [List.mem_cons, List.not_mem_nil, or_false] at hy
          rcases hy with rfl | rfl | rfl
          · exact c112
          · exact c112
          · exact (h12.run.1.cell 18).trans rfl
        · simp only [List.mem_cons, List.not_mem_nil, or_false] at hy
          rcases hy with rfl | rfl | rfl
          · exact ha7.trans rfl
          · exact c112
          · exact c112
  have e5 := bneI e5
  refine Br.mk (fun e25 => ?_) fun e25 => ?_
  · have e25 := beqI e25; subst e25
    have et : takes (parms fs) (25, A) = 2 := takes_of (by decide) (by decide) (by decide)
    rw [et] at hstk hk
    refine m_take h11 (n := 2) rfl (by dsimp only; omega) (by dsimp only; omega) fun r H12 c12 hU12 h12 hv12 hf12 => ?_
    have hx : (x.top.stk.drop (x.top.stk.length - 2)).length = 2 := by simp; omega
    have ha : args (x.bump c2).ms 2 = x.top.stk.drop (x.top.stk.length - 2) := rfl
    dsimp only at hv12
    generalize hl : x.top.stk.drop (x.top.stk.length - 2) = l at *
    match l, hx with
    | [w, z], _ =>
      have re12 := hU12.row re b3p
      refine Ld_sl (s := x.g.es) ((h12.run.1.cell 23).trans rfl) (Ld_int (n := x.g.n) ((h12.run.1.cell 10).trans rfl) ⟨(x.g.ix, x.g.gn), re12.rd_all, ?_⟩)
      refine IxA_vec hv12 (by decide) (by simp) fun a6 ha6 haa6 => Ld_int (n := w) (ha6.trans rfl) (IxA_vec hv12 (by decide) (by simp) fun a7 ha7 haa7 => Ld_int (n := z) (ha7.trans rfl) ?_)
      refine Nw_row (vs := evV ⟨x.g.n, (x.g.ix, x.g.gn), w, z⟩) fun b4 H13 hb4 hE13 hz13 hr13 => ?_
      have h13 := h12.ext hE13
      have hv13 := hv12.ext hE13
      have re13 := hE13.row re12 fun h => h
      obtain ⟨rb, hrb, rfl⟩ := haa6
      obtain ⟨rb', hrb', rfl⟩ := haa7
      rw [hrb] at hrb'; cases hrb'
      have cr : ∀ {H'}, Vec H' T_int64 r (ints [w, z]) → hcell H' ⟨rb, 0, none⟩ = some (.int .i64 w) ∧ hcell H' ⟨rb, 1, none⟩ = some (.int .i64 z) := fun hv => by
        obtain ⟨c, hc, e⟩ := hv.cell (i := 0) (by simp)
        obtain ⟨c', hc', e'⟩ := hv.cell (i := 1) (by simp)
        rw [hrb] at hc hc'; cases hc; cases hc'
        exact ⟨e, e'⟩
      have st : ∀ {H'}, Vec H' T_int64 r (ints [w, z]) → Row H' b3 T_api_Entity [.int .i64 x.g.ix, .int .i64 x.g.gn] → hcell H' ⟨x.b, 10, none⟩ = some (.int .i64 x.g.n) → ∀ y ∈ [((⟨rb, 1, none⟩ : Addr), Value.int .i64 z), (⟨rb, 0, none⟩, .int .i64 w), (⟨b3, 0, none⟩, .int .i64 x.g.ix), (⟨b3, 1, none⟩, .int .i64 x.g.gn), (⟨x.b, 10, none⟩, .int .i64 x.g.n)], hcell H' y.1 = some y.2 := fun hv hr hn y hy => by
        simp only [List.mem_cons, List.not_mem_nil, or_false] at hy
        rcases hy with rfl | rfl | rfl | rfl | rfl
        · exact (cr hv).2
        · exact (cr hv).1
        · exact (hr.cell 0).trans rfl
        · exact (hr.cell 1).trans rfl
        · exact hn
      refine Stab_all (fun y hy => ?_) ?_
      · have hs := st hv13 re13 ((h13.run.1.cell 10).trans rfl)
        simp only [List.mem_cons, List.not_mem_nil, or_false] at hy hs
        rcases hy with rfl | rfl | rfl | rfl | rfl | rfl
        · exact hs _ (.inl rfl)
        · exact hs _ (.inr (.inl rfl))
        · exact hs _ (.inr (.inr (.inl rfl)))
        · exact hs _ (.inr (.inr (.inr (.inl rfl))))
        · exact hs _ (.inr (.inr (.inr (.inr rfl))))
        · exact (h13.run.1.cell 23).trans rfl
      have hev := h13.ev.1
      have hevl := hev.len
      rw [flat_len evV_len] at hevl
      dsimp only at hev hevl
      refine App_vecN (ws := evV ⟨x.g.n, (x.g.ix, x.g.gn), w, z⟩) rfl (by decide) hev hr13.rd_all rfl (fun w hw => ?_) (by decide) (by dsimp only; omega) fun es H14 hv14 hl14 hU14 ha14 => ?_
      · simp only [evV, List.mem_cons, List.not_mem_nil, or_false] at hw
        rcases hw with rfl | rfl | rfl | rfl | rfl <;> rfl
      have hrun14 := hU14.row h13.run.1 fun e => hev.ne e.1 h13.run.1 (by decide) rfl
      refine Stab_all (st (hv13.upd hU14 fun b hb e => ?_) (hU14.row re13 fun e => hev.ne e.1 re13 (by decide) rfl) ((hrun14.cell 10).trans rfl)) ?_
      · exact (hev.apV hv13 (by decide) e.1 hb)
      refine St_row hrun14 (by simp) fun H15 hU15 _ hr15 => ?_
      have hfin := h12.event (es := es) (q := ⟨x.g.n, (x.g.ix, x.g.gn), w, z⟩) (((hE13.mono fun _ _ h => h.elim).trans (hU14.mono fun _ _ e => .inl e.1) fun _ _ e => e).trans hU15 fun _ _ e => .inr e) hr15 (by
        have := hv14.upd hU15 fun b hb e => hv14.ne hb hrun14 (by decide) e
        simpa using this) (ha14.imp (fun e => e.1) fun e => ⟨_, e, hE13.size⟩)
      refine hk H15 _ ⟨hfin, rfl, rfl, her, fun _ => ?_, rfl⟩
      rw [show (2 : Int).toNat = 2 from rfl, ha]; rfl
  have e25 := bneI e25
  have kept : op = 26 ∨ op = 28 → (LdC [(.int .i64), (.int .i64)] (adr b1) H11 fun (c5 : Int × Int) => CallT Pg f_machine_run_kept [.pointer (some (adr x.b)), .agg #[.int .i64 c5.1, .int .i64 c5.2]] (.tup []) H11 fun (r12 : Unit) H34 => k () H34) := fun ho => by
    have hA0 := hx26 ho
    have et : takes (parms fs) (op, A) = A % 8 := by
      unfold takes isOpB
      rcases ho with rfl | rfl
      · rw [if_pos (show decide ((1 : Int) ≤ 26 ∧ (26 : Int) ≤ 39) = true by decide), if_neg (show ¬ (tbl[(26 : Int).toNat]!).2.2 = 1 by decide), if_pos (show (tbl[(26 : Int).toNat]!).2.2 = 2 by decide), if_pos hA0]
      · rw [if_pos (show decide ((1 : Int) ≤ 28 ∧ (28 : Int) ≤ 39) = true by decide), if_neg (show ¬ (tbl[(28 : Int).toNat]!).2.2 = 1 by decide), if_pos (show (tbl[(28 : Int).toNat]!).2.2 = 2 by decide), if_pos hA0]
    rw [et] at hstk hk
    exact ⟨(op, A), rb11.rd_all, s_kept h11 her ho hA hA0 hstk.1 hsl hkl hcl _ _ ⟨rfl, rfl⟩ hk⟩
  have rest : op ≠ 26 → op ≠ 28 → (Br (op == 27) (CallT Pg f_machine_run_spawn [.pointer (some (adr x.b))] (.tup []) H11 fun (r13 : Unit) H36 => k () H36) (Br (op == 29) (LdC [(.int .i64), (.int .i64)] (adr b3) H11 fun (c6 : Int × Int) => Ld (.int .i64) ⟨b1, 1, none⟩ H11 fun (x21 : Int) => CallT Pg f_machine_run_command [.pointer (some (adr x.b)), .agg #[.int .i64 4, .int .i64 c6.1, .int .i64 c6.2, .int .i64 x21, .slice none 0 0, .slice none 0 0]] (.tup []) H11 fun (r14 : Unit) H38 => k () H38)
      (Br (op == 30) (LdC [(.int .i64), (.int .i64)] (adr b3) H11 fun (c7 : Int × Int) => CallT Pg f_machine_run_command [.pointer (some (adr x.b)), .agg #[.int .i64 2, .int .i64 c7.1, .int .i64 c7.2, .int .i64 0, .slice none 0 0, .slice none 0 0]] (.tup []) H11 fun (r15 : Unit) H40 => k () H40)
        (Br (op == 39) (CallT Pg f_machine_activation_take [.pointer (some (adr x.top.p)), .int .i64 1] (.one (.c .sl)) H11 fun (r16 : Sl) H42 => k () H42) (k () H11))))) := fun e26 e28 => by
    refine Br.mk (fun e27 => ?_) fun e27 => ?_
    · have e27 := beqI e27; subst e27
      have et : (takes (parms fs) (27, A)).toNat = 0 := by rw [takes_of (by decide) (by decide) (c := 0) (by decide)]; rfl
      rw [et] at hk
      refine s_spawn h11 hcl hkl hKK fun H12 cs c12 h12 => hk H12 _ ⟨h12, rfl, rfl, her, fun _ => ?_, rfl⟩
      rw [cut0]
      show _ = { (x.bump c2).ms with cmds := (x.bump c2).ms.cmds ++ [(⟨1, (0, 0), 0, [], rise (x.kp.map PtP.pt)⟩ : Cm)], kept := [] }
      have er : rise (x.kp.map PtP.pt) = (risK PtP.kind x.kp).map PtP.pt := (risN_map PtP.pt (key := PtP.kind) (key' := Pt.kind) (fun _ => rfl) x.kp 13).symm
      rw [er]
      simp only [MG.ms, List.map_append, List.map_cons, List.map_nil]
    have e27 := bneI e27
    refine Br.mk (fun e29 => ?_) fun e29 => ?_
    · have e29 := beqI e29; subst e29
      have et : (takes (parms fs) (29, A)).toNat = 0 := by rw [takes_of (by decide) (by decide) (c := 0) (by decide)]; rfl
      rw [et] at hk
      refine ⟨(x.g.ix, x.g.gn), re.rd_all, Ld_int c1 ?_⟩
      refine m_cmd h11 (q := ⟨4, (x.g.ix, x.g.gn), A, ⟨none, 0, 0⟩, [], ⟨none, 0, 0⟩, []⟩) hcl (Vec.nil _ _) (fun b hb => by cases hb) rfl rfl fun H12 cs c12 h12 => hk H12 _ ⟨h12, rfl, rfl, her, fun _ => ?_, rfl⟩
      rw [cut0]
      show _ = { (x.bump c2).ms with cmds := (x.bump c2).ms.cmds ++ [(⟨4, (x.g.ix, x.g.gn), A, [], []⟩ : Cm)] }
      simp only [MG.ms, List.map_append, List.map_cons, List.map_nil]
      rfl
    have e29 := bneI e29
    refine Br.mk (fun e30 => ?_) fun e30 => ?_
    · have e30 := beqI e30; subst e30
      have et : (takes (parms fs) (30, A)).toNat = 0 := by rw [takes_of (by decide) (by decide) (c := 0) (by decide)]; rfl
      rw [et] at hk
      refine ⟨(x.g.ix, x.g.gn), re.rd_all, ?_⟩
      refine m_cmd h11 (q := ⟨2, (x.g.ix, x.g.gn), 0, ⟨none, 0, 0⟩, [], ⟨none, 0, 0⟩, []⟩) hcl (Vec.nil _ _) (fun b hb => by cases hb) rfl rfl fun H12 cs c12 h12 => hk H12 _ ⟨h12, rfl, rfl, her, fun _ => ?_, rfl⟩
      rw [cut0]
      show _ = { (x.bump c2).ms with cmds := (x.bump c2).ms.cmds ++ [(⟨2, (x.g.ix, x.g.gn), 0, [], []⟩ : Cm)] }
      simp only [MG.ms, List.map_append, List.map_cons, List.map_nil]
      rfl
    have e30 := bneI e30
    refine Br.mk (fun e39 => ?_) fun e39 => ?_
    · have e39 := beqI e39; subst e39
      have et : takes (parms fs) (39, A) = 1 := takes_of (by decide) (by decide) (by decide)
      rw [et] at hstk hk
      exact m_take h11 (n := 1) rfl (by dsimp only; omega) (by dsimp only; omega) fun r H12 c12 hU12 h12 hv12 hf12 => hk H12 _ ⟨h12, rfl, rfl, her, fun _ => rfl, rfl⟩
    have e39 := bneI e39
    exfalso
    simp only [isBin, List.contains_cons, List.contains_nil, Bool.or_false, Bool.or_eq_false_iff, beq_eq_false_iff_ne] at hnb
    simp only [isUn, List.contains_cons, List.contains_nil, Bool.or_false, Bool.or_eq_false_iff, beq_eq_false_iff_ne] at hnu
    omega
  refine Br.mk (fun e26 => ?_) fun e26 => ?_
  · rw [Br_true]; exact kept (.inl (beqI e26))
  · have e26 := bneI e26
    refine Br.mk (fun e28 => kept (.inr (beqI e28))) fun e28 => ?_
    exact rest e26 (bneI e28)
end
end Go.Proofs.YtfpmgpblhhcpgaaGreat
