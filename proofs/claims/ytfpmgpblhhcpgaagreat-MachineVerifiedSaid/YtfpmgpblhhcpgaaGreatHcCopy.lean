/-
  Machine: one instruction, by the document.
-/
import Derived.Test.YtfpmgpblhhcpgaaGreatNG
import Derived.Test.YtfpmgpblhhcpgaaGreatNB
import Derived.Test.YtfpmgpblhhcpgaaGreatHcDiceMath
import Derived.Test.YtfpmgpblhhcpgaaGreatMB
namespace Go.Proofs.YtfpmgpblhhcpgaaGreat
set_option linter.unusedVariables false
set_option linter.unusedSimpArgs false
set_option maxRecDepth 100000
section
open Hc Hc.Vf Hc.Mc Hc.Dice
variable {H : Heap}
theorem DPost.of {H0 H' : Heap} {x y x' : DG} {res : Int × Ms} (h : DPost H0 y res H' x') (hb : y.b = x.b) (hs : dstat y.g = dstat x.g) (he : y.es.length = x.es.length) : DPost H0 x res H' x' :=
  ⟨h.doc, h.b.trans hb, h.st.trans hs, h.ms, h.steps, h.el.trans he⟩
theorem room_c {m : Ms} {op : Int} (h : op = 27 ∨ (28 ≤ op ∧ op ≤ 30)) : room m op = decide (m.cmds.length < 16) := by
  unfold room; rw [if_pos (by omega)]
theorem room_e {m : Ms} (h : True) : room m 25 = decide (m.evs.length < 16) := by
  unfold room; rw [if_neg (by decide), if_pos rfl]
theorem room_o {m : Ms} {op : Int} (h : ¬ (op = 27 ∨ (28 ≤ op ∧ op ≤ 30)) ∧ op ≠ 25) : room m op = true := by
  unfold room; rw [if_neg (by omega), if_neg h.2]
theorem s_rone {H0 : Heap} {x : DG} {fs : List Rou} {ins : List (Int × Int × Int)} (h : DocR H0 H x) (hc : CtxR H0 x.g.pF x.g.s x.g.inS fs ins) (hes : x.es.length ≤ 2 ^ 60) (hP : POk (dmpOf x.g fs)) (hM : MOk (dmpOf x.g fs) x.ms) {k : Int → Heap → Prop}
    (hk : ∀ H' x', DPost H0 x (stepM (dmpOf x.g fs) (denOf x.g ins) x.ms) H' x' → k (stepM (dmpOf x.g fs) (denOf x.g ins) x.ms).1 H') :
    CallT Pg fQbp [.pointer (some (adr x.b))] IntR H k := by
  refine cQbk _ ?_
  unfold vQbk
  simp only [NilCk_some, adr_add, mk_add]
  have hps : (dmpOf x.g fs).ps = parms fs := by simp [MP.ps, parms]
  have hlow := h.lowl
  have hll := h.lv.1.len
  simp only [List.length_map, List.length_append, List.length_singleton] at hll
  have hsi := hM.since
  have hsi' : 0 ≤ x.g.si ∧ x.g.si ≤ 40000 := hsi
  -- who fails
  have hbad : ∀ (e : Int) (H' : Heap) (x' : DG), e ≠ 0 → ready (dmpOf x.g fs) x.ms = e → DocR H0 H' x' → x'.b = x.b → dstat x'.g = dstat x.g → x'.g.st = x.g.st → x'.es.length = x.es.length → k e H' := fun e H' x' he hr hd hb hs hst hel => by
    have hm : stepM (dmpOf x.g fs) (denOf x.g ins) x.ms = (e, x.ms) := by unfold stepM; rw [if_neg (by rw [hr]; exact he), hr]
    have := hk H' x' ⟨hd, hb, hs, fun h0 => by rw [hm] at h0; exact absurd h0 he, by rw [hm]; exact hst, hel⟩
    rw [hm] at this; exact this
  have cls : hcell H ⟨x.b, 19, none⟩ = some (.slice x.g.ls.a x.g.ls.len x.g.ls.cap) := (h.run.1.cell 19).trans rfl
  refine Ld_sl (s := x.g.ls) cls (Ld_sl (s := x.g.ls) cls (Lt.mk (u := ((x.low.length : Nat) : Int)) (by rw [wrap_i64_id] <;> omega) ?_))
  refine IxA_vec h.lv.1 (by omega) (by simp [dptrs]; omega) fun a ha _ => Ld_ptr (n := some (adr x.top.p)) (ha.trans ?_) ?_
  · rw [Int.toNat_natCast, dptrs, List.map_append, List.getElem?_append_right (by simp)]
    simp
  simp only [NilCk_some, adr_add]
  have topc : ∀ n, hcell H ⟨x.top.p, n, none⟩ = (dactV x.top)[n]? := h.topR.row.cell
  have hcl : x.top.r.sl.len = x.top.r.code.length := (h.codes x.top (by simp)).len
  refine Jn.mk (fun j H' => H = H' ∧ j = decide (¬ (0 ≤ x.top.nx ∧ x.top.nx < (x.top.r.code.length : Int)))) (fun kk hkk => ?_) ?_
  · refine Ld_int (n := x.top.nx) ((topc 4).trans rfl) (Br_dec (fun h => hkk _ _ ⟨rfl, (decide_eq_true (by omega)).symm⟩) fun h => ?_)
    refine Ld_int (n := x.top.nx) ((topc 4).trans rfl) (Ld_sl (s := x.top.r.sl) ((topc 1).trans rfl) (hkk _ _ ⟨rfl, decide_eq_decide.2 (by omega)⟩))
  rintro j _ ⟨rfl, rfl⟩
  refine Br_dec (fun hj => hbad 150 _ x (by decide) (by unfold ready; exact if_pos hj) h rfl rfl rfl rfl) fun hj => ?_
  have hnx := Decidable.not_not.1 hj
  refine Ld_int (n := x.g.si) ((h.run.1.cell 21).trans rfl) (Br_dec (fun hs => hbad 153 _ x (by decide) (by unfold ready; rw [if_neg hj]; exact if_pos hs) h rfl rfl rfl rfl) fun hs => ?_)
  refine Ld_int (n := x.g.si) ((h.run.1.cell 21).trans rfl) (Lt.mk (u := x.g.si + 1) (by rw [wrap_i64_id] <;> omega) ?_)
  refine St_row h.run.1 (by simp) fun H1 hU1 _ hr1 => ?_
  have hr1 : Row H1 x.b TQa0 (drunV { x.g with si := x.g.si + 1 }) := hr1
  have h1 := h.num hU1 hr1
  have topc1 : ∀ n, hcell H1 ⟨x.top.p, n, none⟩ = (dactV x.top)[n]? := h1.topR.row.cell
  refine Ld_sl (s := x.top.r.sl) ((topc1 1).trans rfl) (Ld_int (n := x.top.nx) ((topc1 4).trans rfl) ?_)
  have hin : x.top.nx.toNat < x.top.r.code.length := by omega
  refine IxA_rn' insV_len ((h1.codes x.top (by simp)).ext h1.base) (by decide) (j := x.top.nx.toNat) (by omega) hin fun a7 ha7 => ?_
  have hmem : x.top.r.code[x.top.nx.toNat]! ∈ x.top.r.code := by rw [getElem!_pos x.top.r.code _ hin]; exact List.getElem_mem _
  have hi64 := (hM.top.fnOk hP).code _ hmem
  generalize hi : x.top.r.code[x.top.nx.toNat]! = i at *
  obtain ⟨op, A⟩ := i
  have hins : x.ms.top.fn.code[x.ms.top.nx.toNat]! = (op, A) := hi
  dsimp only at hi64
  refine ⟨(op, A), ha7, ?_⟩
  refine Nw_row (vs := [.int .i64 0, .int .i64 0]) fun b2 H2 hb2 hE2 hz2 hr2 => ?_
  have h2 := h1.ext hE2
  have topc2 : ∀ n, hcell H2 ⟨x.top.p, n, none⟩ = (dactV x.top)[n]? := h2.topR.row.cell
  have ha72 := hcells_ext hE2 ha7
  refine Stab_all (fun y hy => ?_) ?_
  · simp only [List.mem_cons, List.not_mem_nil, or_false] at hy
    rcases hy with rfl | rfl | rfl | rfl
    · exact ha72.1
    · exact ha72.2.1
    · exact (topc2 4).trans rfl
    · exact (topc2 1).trans rfl
  refine St_row hr2 (by simp) fun H3 hU3 _ hr3 => St_row hr3 (by simp) fun H4 hU4 _ hr4 => ?_
  have hr4 : Row H4 b2 TQag [.int .i64 op, .int .i64 A] := hr4
  have hE4 : Ext H1 H4 := extUpd (extUpd hE2 (by omega) hU3) (by omega) hU4
  have h4 := h1.ext hE4
  have hs4 := hE4.size
  have ci : ∀ {H'}, Ext H4 H' → hcell H' (adr b2) = some (.int .i64 op) := fun hE => ((hE.row hr4 fun h => h).cell 0).trans rfl
  have cia : ∀ {H'}, Ext H4 H' → hcells H' (adr b2) 0 [.int .i64 op, .int .i64 A] := fun hE => (hE.row hr4 fun h => h).rd_all
  have e4 : ∀ (e : Int) (H' : Heap), Ext H4 H' → e ≠ 0 → ready (dmpOf x.g fs) x.ms = e → k e H' := fun e H' hE he hr => hbad e H' _ he hr (h4.ext hE) rfl rfl rfl rfl
  refine Ld_int (ci (.refl _ _)) (s_rIsOp (Br_not (Br.mk (fun hop => ?_) fun hop => ?_)))
  rotate_left
  · exact e4 152 _ (.refl _ _) (by decide) (by unfold ready; rw [hins, if_neg hj, if_neg hs]; exact if_pos hop)
  have hop' : 1 ≤ op ∧ op ≤ 39 := of_decide_eq_true hop
  refine ⟨(op, A), cia (.refl _ _), Ld_sl (s := x.g.pF) ((h4.run.1.cell 1).trans rfl) (s_rEffect (i := (op, A)) (hc.fn.ext h4.base) fun H5 hE5 => ?_)⟩
  have h5 := h4.ext hE5
  have topc5 : ∀ n, hcell H5 ⟨x.top.p, n, none⟩ = (dactV x.top)[n]? := h5.topR.row.cell
  have hsl : x.top.ss.len = x.top.stk.length := by have := h.topR.stk.len; simpa using this
  have hst64 : x.top.stk.length ≤ 64 := hM.top.stk
  have hn0 : ¬ isOpB op = false := by rw [hop]; decide
  refine Jn.mk (fun j H' => H5 = H' ∧ j = decide ((x.top.stk.length : Int) < takes (parms fs) (op, A) ∨ (x.top.stk.length : Int) - takes (parms fs) (op, A) + puts (op, A) > 64)) (fun kk hkk => ?_) ?_
  · refine Ld_sl (s := x.top.ss) ((topc5 3).trans rfl) (Br_dec (fun h => hkk _ _ ⟨rfl, (decide_eq_true (by omega)).symm⟩) fun h => ?_)
    have ht0 := takes_bd (parms fs) (op, A)
    have hp0 := puts_bd (op, A)
    refine Ld_sl (s := x.top.ss) ((topc5 3).trans rfl) (Lt.mk (u := (x.top.stk.length : Int) - takes (parms fs) (op, A)) (by rw [wrap_i64_id] <;> omega) (Lt.mk (u := (x.top.stk.length : Int) - takes (parms fs) (op, A) + puts (op, A)) (by rw [wrap_i64_id] <;> omega) (hkk _ _ ⟨rfl, decide_eq_decide.2 (by omega)⟩)))
  rintro j _ ⟨rfl, rfl⟩
  refine Br_dec (fun hst => e4 151 _ hE5 (by decide) (by unfold ready; rw [hins, if_neg hj, if_neg hs, if_neg hn0, hps]; exact if_pos hst)) fun hst => ?_
  refine ⟨(op, A), cia hE5, s_raccess h5 hc hes (i := (op, A)) hi64.2 fun H6 hE6 => ?_⟩
  have h6 := h5.ext hE6
  have hE46 := hE5.trans hE6 fun _ _ h => h
  have hacc : access (dmpOf { x.g with si := x.g.si + 1 } fs) ({ x with g := { x.g with si := x.g.si + 1 } } : DG).ms (op, A) = access (dmpOf x.g fs) x.ms (op, A) := rfl
  rw [hacc]
  refine Br_not (Br.mk (fun ha => ?_) fun ha => ?_)
  rotate_left
  · exact e4 152 _ hE46 (by decide) (by unfold ready; rw [hins, if_neg hj, if_neg hs, if_neg hn0, hps, if_neg hst]; exact if_pos ha)
  have han : ¬ access (dmpOf x.g fs) x.ms (op, A) = false := by rw [ha]; decide
  have hcsl : x.g.cs.len = x.cl.length := by have := h.cv.1.len; rw [flat_len cmV_len] at this; omega
  have hesl : x.g.es.len = x.evs.length := by have := h.ev.1.len; rw [flat_len evV_len] at this; omega
  have cc : hcell H6 ⟨x.b, 24, none⟩ = some (.slice x.g.cs.a x.g.cs.len x.g.cs.cap) := (h6.run.1.cell 24).trans rfl
  have ce : hcell H6 ⟨x.b, 25, none⟩ = some (.slice x.g.es.a x.g.es.len x.g.es.cap) := (h6.run.1.cell 25).trans rfl
  have co := ci hE46
  refine Jn.mk (fun j H' => H6 = H' ∧ j = !(room x.ms op)) (fun kk hkk => ?_) ?_
  · have hcm : ∀ b, (op = 27 ∨ (28 ≤ op ∧ op ≤ 30)) → b = decide ((x.g.cs.len : Int) ≥ 16) → kk b H6 := fun b ho hb => hkk _ _ ⟨rfl, by
      rw [hb, room_c ho, ← decide_not]
      exact decide_eq_decide.2 (by show _ ↔ ¬ (x.cl.map CmP.cm).length < 16; rw [List.length_map]; omega)⟩
    have hev : ∀ b, op = 25 → b = decide ((x.g.es.len : Int) ≥ 16) → kk b H6 := fun b ho hb => hkk _ _ ⟨rfl, by
      rw [hb, ho, room_e trivial, ← decide_not]
      exact decide_eq_decide.2 (by show _ ↔ ¬ x.evs.length < 16; omega)⟩
    have hot : ¬ (op = 27 ∨ (28 ≤ op ∧ op ≤ 30)) → op ≠ 25 → kk false H6 := fun h1 h2 => hkk _ _ ⟨rfl, by rw [room_o ⟨h1, h2⟩]; rfl⟩
    refine Ld_int co (Br.mk (fun h27 => ?_) fun h27 => ?_)
    · have h27 := beqI h27
      refine Ld_sl (s := x.g.cs) cc (Br_dec (fun h => hcm _ (.inl h27) (decide_eq_true h).symm) fun h => Ld_int co (Br.mk (fun h25 => absurd (beqI h25) (by omega)) fun _ => hcm _ (.inl h27) (decide_eq_false h).symm))
    · have h27 := bneI h27
      refine Ld_int co (Br_dec (fun h28 => Ld_int co (Br_dec (fun h30 => ?_) fun h30 => ?_)) fun h28 => ?_)
      · refine Ld_sl (s := x.g.cs) cc (Br_dec (fun h => hcm _ (.inr ⟨h28, h30⟩) (decide_eq_true h).symm) fun h => Ld_int co (Br.mk (fun h25 => absurd (beqI h25) (by omega)) fun _ => hcm _ (.inr ⟨h28, h30⟩) (decide_eq_false h).symm))
      · refine Ld_int co (Br.mk (fun h25 => absurd (beqI h25) (by omega)) fun h25 => hot (by omega) (by omega))
      · refine Ld_int co (Br.mk (fun h25 => Ld_sl (s := x.g.es) ce (hev _ (beqI h25) rfl)) fun h25 => hot (by omega) (bneI h25))
  rintro j _ ⟨rfl, rfl⟩
  refine Br_not (Br.mk (fun hrm => ?_) fun hrm => ?_)
  rotate_left
  · exact e4 102 _ hE46 (by decide) (by unfold ready; rw [hins, if_neg hj, if_neg hs, if_neg hn0, hps, if_neg hst, if_neg han]; exact if_pos hrm)
  -- it is ready
  have hR : Rdy (dmpOf x.g fs) x.ms (op, A) := ⟨hnx, hi, (show x.g.si < 40000 from by omega), hop', by rw [hps]; exact ⟨show takes (parms fs) (op, A) ≤ (x.top.stk.length : Int) by omega, show (x.top.stk.length : Int) - takes (parms fs) (op, A) + puts (op, A) ≤ 64 by omega⟩, ha, hrm⟩
  have hrdy := ready_of hR
  have hstep : stepM (dmpOf x.g fs) (denOf x.g ins) x.ms = doesD (dmpOf x.g fs) (denOf x.g ins) (cut x.ms (takes (parms fs) (op, A)).toNat) (args x.ms (takes (parms fs) (op, A)).toNat) (op, A) := by
    unfold stepM
    rw [if_pos hrdy, hR.ins, does_doesD, hps]
  have ht0 := takes_bd (parms fs) (op, A)
  generalize htn : takes (parms fs) (op, A) = t at *
  obtain ⟨n, rfl⟩ : ∃ n : Nat, t = n := ⟨t.toNat, by omega⟩
  have hnl : n ≤ x.top.stk.length := by omega
  rw [Int.toNat_natCast] at hstep
  have topc6 : ∀ n, hcell H6 ⟨x.top.p, n, none⟩ = (dactV x.top)[n]? := h6.topR.row.cell
  refine Ld_sl (s := x.top.ss) ((topc6 3).trans rfl) (Ld_sl (s := x.top.ss) ((topc6 3).trans rfl) (Lt.mk (u := ((x.top.stk.length - n : Nat) : Int)) (by rw [wrap_i64_id] <;> omega) ?_))
  refine vec_tail h6.topR.stk (n := x.top.stk.length - n) (by simp) fun s' hs' hsl' hsn => ?_
  rw [ints_drop] at hs'
  have hdl : (x.top.stk.drop (x.top.stk.length - n)).length = n := by rw [List.length_drop]; omega
  refine App_vec2 (ws := ints (x.top.stk.drop (x.top.stk.length - n))) (Vec.nil _ _) hs' (by rw [hsl', List.length_map, hdl, List.length_map]; show n = x.top.stk.length - (x.top.stk.length - n); omega) (ints_one _) (by decide) (by rw [List.length_map, hdl]; simp only [List.length_nil]; omega) fun l2 H7 hv7 hU7 ha7 _ => ?_
  have hE7 : Ext H6 H7 := hU7.mono fun b _ e => by cases e.1
  have hl2 : ∀ b, l2.a = some (adr b) → H6.size ≤ b := fun b hb => by
    rcases ha7 with e | e
    · rw [e.1] at hb; cases hb
    · rw [e] at hb; cases hb; exact Nat.le_refl _
  have h7 := h6.ext hE7
  have topc7 : ∀ n, hcell H7 ⟨x.top.p, n, none⟩ = (dactV x.top)[n]? := h7.topR.row.cell
  refine Stab_2 ((topc7 3).trans rfl) ((topc7 3).trans rfl) ?_
  refine Ld_sl (s := x.top.ss) ((topc7 3).trans rfl) (Ld_sl (s := x.top.ss) ((topc7 3).trans rfl) (Lt.mk (u := ((x.top.stk.length - n : Nat) : Int)) (by rw [wrap_i64_id] <;> omega) ?_))
  refine SlA0 (by omega) (by have : x.top.ss.len ≤ x.top.ss.cap := h7.topR.stk.lc; omega) (by omega) ?_
  simp only [Int.toNat_natCast]
  refine St_row h7.topR.row (by simp) fun H8 hU8 _ hr8 => ?_
  refine Ld_int (n := x.top.nx) ((hr8.cell 4).trans rfl) (Lt.mk (u := x.top.nx + 1) ?_ ?_)
  · have := (hM.top.fnOk hP).len
    have e : x.ms.top.fn.code.length = x.top.r.code.length := rfl
    rw [wrap_i64_id] <;> omega
  refine St_row hr8 (by simp) fun H9 hU9 _ hr9 => ?_
  have hU79 : Upd (· = x.top.p) H7 H9 := hU8.trans hU9 fun _ _ e => e
  have hU69 : Upd (· = x.top.p) H6 H9 := (hE7.mono fun _ _ h => h.elim).trans hU79 fun _ _ e => e
  have hvcut : Vec H7 TQaq ⟨x.top.ss.a, x.top.stk.length - n, x.top.ss.cap⟩ (ints (x.top.stk.take (x.top.stk.length - n))) := by
    have := vec_pre h7.topR.stk (n := x.top.stk.length - n) (by simp)
    rwa [ints_take] at this
  have h9 := h6.top (t := { x.top with ss := ⟨x.top.ss.a, x.top.stk.length - n, x.top.ss.cap⟩, stk := x.top.stk.take (x.top.stk.length - n), nx := x.top.nx + 1 }) (d := fun _ => 999) (tch_row hU69 (h6.topI _ (.inl rfl)) rfl)
    ⟨hr9, h7.topR.loc.upd hU79 fun b hb e => h7.topR.neL hb e, hvcut.upd hU79 fun b hb e => h7.topR.neS hb e, h7.topR.ap⟩ rfl rfl rfl fun b hb => .inl hb
  have hv9 := hv7.upd hU79 fun b hb e => by have := hl2 b hb; have : x.top.p < H6.size := h6.topR.row.lt; omega
  have hb9 : Row H9 b2 TQag [.int .i64 op, .int .i64 A] := hU79.row ((hE46.trans hE7 fun _ _ h => h).row hr4 fun h => h) fun e => hr4.ne h4.topR.row (by decide) e
  refine ⟨(op, A), hb9.rd_all, ?_⟩
  have hlow2 : ∀ a ∈ x.low, a.stk.length ≤ 64 := fun a ha => by
    have := (hM.low a.act (List.mem_map.2 ⟨a, ha, rfl⟩)).2
    have e : a.act.stk.length = a.stk.length := rfl
    omega
  have hkp : x.kp.length ≤ 12 := by have := hM.kept; simpa using this
  have hclm : x.cl.length ≤ 16 := by have := hM.cmds; simpa using this
  have hv0 : Vec H9 TQaq l2 (ints (x.top.stk.drop (x.top.stk.length - n))) := by simpa using hv9
  refine s_rdoes h9 hc (vs := x.top.stk.drop (x.top.stk.length - n)) ⟨hop', hi64.2, by rw [hdl, htn], all_drop hM.top.stk64 _, ha, hM.dice, hM.steps, by rw [List.length_take]; omega, hlow2, hkp, fun q hq => hM.keptK q.pt (List.mem_map.2 ⟨q, hq, rfl⟩), hclm, hM.evs, hes, by rw [hdl]; omega⟩ hv0 (fun b hb => is_new h6.base.size (hl2 b hb) rfl) fun H' x' hp => ?_
  have e : doesD (dmpOf x.g fs) (denOf x.g ins) (cut x.ms n) (args x.ms n) (op, A) = stepM (dmpOf x.g fs) (denOf x.g ins) x.ms := hstep.symm
  have := hk H' x' (by rw [← e]; exact hp.of rfl rfl rfl)
  rw [← e] at this
  exact this
end
section
open Hc Hc.Vf Hc.Mc Hc.Dice
variable {H : Heap}
structure CopR (lo : Nat) (H : Heap) (out : Sl) (es : List PtP) : Prop where
  vn : VecN H TQai 2 out (es.flatMap ptV)
  vR : ∀ q ∈ es, Vec H TQaq q.sl (ints q.vals)
  ap : es.Pairwise fun p q => Apart p.sl q.sl
  newO : ∀ b, out.a = some (adr b) → lo ≤ b
  newE : ∀ q ∈ es, ∀ b, q.sl.a = some (adr b) → lo ≤ b
theorem CopR.ext {lo : Nat} {H' : Heap} {out : Sl} {es : List PtP} (h : CopR lo H out es) (hE : Ext H H') : CopR lo H' out es :=
  ⟨h.vn.ext hE, fun q hq => (h.vR q hq).ext hE, h.ap, h.newO, h.newE⟩
theorem CopR.upd {lo : Nat} {H' : Heap} {out : Sl} {es : List PtP} (h : CopR lo H out es) {b0 : Nat} {T : TypeId} {vs : List Value} (hr : Row H b0 T vs) (hT : T ≠ TQai) (hT2 : T ≠ TQaq) (hU : Upd (· = b0) H H') : CopR lo H' out es :=
  ⟨h.vn.upd hU fun b hb e => h.vn.ne hb hr (fun e => hT e.symm) e, fun q hq => (h.vR q hq).upd hU fun b hb e => (h.vR q hq).ne hb hr (fun e => hT2 e.symm) e, h.ap, h.newO, h.newE⟩
theorem s_rcopied {l : Sl} {ps : List PtP} (hl : RN ptV 2 H l ps) (hpr : ∀ q ∈ ps, RL (Value.int .i64) H q.sl q.vals ∧ q.vals.length ≤ 2 ^ 44) (hpl : ps.length ≤ 2 ^ 42) {k : Sl → Heap → Prop}
    (hk : ∀ H' out es, Ext H H' → CopR H.size H' out es → es.map PtP.pt = ps.map PtP.pt → k out H') : CallT Pg fQbr [.slice l.a l.len l.cap] (.one (.c .sl)) H k := by
  refine cQbl _ ?_
  unfold vQbl
  have hlen := hl.len
  refine LoopT.mk (fun s H' => ∃ (n : Nat) (es : List PtP), s.2 = n ∧ n ≤ ps.length ∧ Ext H H' ∧ CopR H.size H' s.1 es ∧ es.map PtP.pt = (ps.take n).map PtP.pt) (fun s _ => ps.length - s.2.toNat)
    ⟨0, [], rfl, Nat.zero_le _, .refl _ _, ⟨VecN.nil _ _ _, (fun q h => by cases h), .nil, (fun b h => by cases h), fun q h => by cases h⟩, rfl⟩ ?_
  rintro next ⟨out, i⟩ H1 ⟨n, es, hi, hn, hE1, hcr, hes⟩ hnext
  dsimp only at hi hcr ⊢
  subst hi
  have hel : es.length = n := by
    have := congrArg List.length hes
    simp only [List.length_map, List.length_take] at this
    omega
  refine Br_dec (fun hlt => ?_) fun hge => ?_
  · have hn2 : n < ps.length := by omega
    refine IxA_rn' ptV_len hl (by decide) rfl hn2 fun a1 ha1 => ?_
    rw [getElem!_pos ps n hn2] at ha1
    refine Ld_int (n := ps[n].kind) (hcells_ext hE1 ha1).1 (IxA_rn' ptV_len hl (by decide) rfl hn2 fun a2 ha2 => ?_)
    rw [getElem!_pos ps n hn2] at ha2
    obtain ⟨hv, hvl⟩ := hpr _ (List.getElem_mem hn2)
    have hv1 := hv.ext hE1
    have k1 : ∀ {H'}, Ext H H' → hcell H' a1 = some (.int .i64 ps[n].kind) := fun hE => (hcells_ext hE ha1).1
    have k2 : ∀ {H'}, Ext H H' → hcell H' (a2.add 1) = some (slV ps[n].sl) := fun hE => (hcells_ext hE ha2).2.1
    refine Ld_sl (s := ps[n].sl) (k2 hE1) ?_
    refine App_vec2 (ws := ints ps[n].vals) (Vec.nil _ _) hv1.rd (by have := hv1.len; simp [this]) (ints_one _) (by decide) (by simp; omega) fun l1 H2 hv2 hU2 ha2' _ => ?_
    have hE2 : Ext H1 H2 := hU2.mono fun b _ e => by cases e.1
    have hn1 : ∀ b, l1.a = some (adr b) → H1.size ≤ b := fun b hb => by
      rcases ha2' with e | e
      · rw [e.1] at hb; cases hb
      · rw [e] at hb; cases hb; exact Nat.le_refl _
    have hE02 := hE1.trans hE2 fun _ _ h => h
    refine Stab_1 (k1 hE02) ?_
    refine Nw_row (vs := ptV ⟨ps[n].kind, l1, ps[n].vals⟩) fun b3 H3 hb3 hE3 _ hr3 => ?_
    have hE13 := hE2.trans hE3 fun _ _ h => h
    have hE03 := hE1.trans hE13 fun _ _ h => h
    refine Stab_2 (k2 hE03) (k1 hE03) ?_
    have hcr3 := hcr.ext hE13
    have hol := hcr3.vn.len
    rw [flat_len ptV_len] at hol
    refine App_vecN (ws := ptV ⟨ps[n].kind, l1, ps[n].vals⟩) rfl (by decide) hcr3.vn hr3.rd_all rfl (ptV_one _) (by decide) (by dsimp only; omega) fun l2 H4 hv4 hl4 hU4 ha4 => ?_
    have hE04 : Ext H H4 := hE03.trans hU4 fun b hb e => by have := hcr.newO b e.1; omega
    refine Stab_2 (k2 hE04) (k1 hE04) ?_
    refine Lt.mk (u := ((n + 1 : Nat) : Int)) (by rw [wrap_i64_id] <;> omega) (hnext _ _ ⟨n + 1, es ++ [⟨ps[n].kind, l1, ps[n].vals⟩], rfl, hn2, hE04, ⟨?_, fun q hq => ?_, ?_, fun b hb => ?_, fun q hq b hb => ?_⟩, ?_⟩ (by dsimp only; omega))
    · rw [List.flatMap_append]; simpa using hv4
    · rcases List.mem_append.1 hq with hq | hq
      · exact (hcr3.vR q hq).upd hU4 fun b hb e => hcr3.vn.apV (hcr3.vR q hq) (by decide) e.1 hb
      · rw [List.mem_singleton.1 hq]
        have : Vec H2 TQaq l1 (ints ps[n].vals) := by simpa using hv2
        exact (this.ext hE3).upd hU4 fun b hb e => hcr3.vn.apV (this.ext hE3) (by decide) e.1 hb
    · rw [List.pairwise_append]
      refine ⟨hcr.ap, List.pairwise_singleton _ _, fun p hp q hq b hb hb' => ?_⟩
      rw [List.mem_singleton.1 hq] at hb'
      have := hn1 b hb'
      have := (hcr.vR p hp).lt hb
      omega
    · rcases ha4 with e | e
      · rw [e.1] at hb; exact hcr.newO b hb
      · rw [e] at hb; cases hb; exact hE03.size
    · rcases List.mem_append.1 hq with hq | hq
      · exact hcr.newE q hq b hb
      · rw [List.mem_singleton.1 hq] at hb
        exact Nat.le_trans hE1.size (hn1 b hb)
    · rw [List.map_append, hes, List.take_add_one, List.getElem?_eq_getElem hn2, List.map_append]; rfl
  · rw [List.take_of_length_le (by omega)] at hes
    exact hk H1 out es hE1 hcr hes
open Classical in
theorem doc_init {B : Heap} {p : Sl × Sl} {s : Sy} {n : Int} {e : EnV} {dp b b7 : Nat} {es : List PtP} {t : DP} {out : Sl} {g : DunG} (hB : Ext B H) (he : CopR B.size H out es) (hr : Row H b TQa0 (drunV g)) (hb : B.size ≤ b)
    (hg : g = ⟨p.1, p.2, s, n, e.fr, e.sd, e.en, e.inS, e.ix, e.gn, e.rp, out, ⟨some (adr b7), 1, 1⟩, ⟨none, 0, 0⟩, ⟨none, 0, 0⟩, ⟨none, 0, 0⟩, 0, dp, 0, false⟩)
    (hdp : Row H dp TQax [.int .u64 (newS e.sd e.fr n e.ix)]) (hdl : B.size ≤ dp) (ht : DActR H t) (htb : ∀ x, DActB t x → B.size ≤ x ∧ ∀ q ∈ es, q.sl.a ≠ some (adr x)) (h7 : Row H b7 TQau [.pointer (some (adr t.p))]) (h7l : B.size ≤ b7) (hc : CodeR B t.r) (hf : t.f < 0) :
    ∃ c, DocR B H ⟨c, b, g, [], t, es, newS e.sd e.fr n e.ix, [], [], []⟩ := by
  have vne : ∀ {sl : Sl} {vs : List Value} {x : Nat} {T : TypeId} {ws : List Value}, Vec H TQaq sl vs → sl.a = some (adr x) → Row H x T ws → TQaq ≠ T → False := fun hv ha hr hT => hv.ne ha hr hT rfl
  refine ⟨fun x => if x = b then 200 else if x = b7 then 201 else if x = dp then 205 else if out.a = some (adr x) then 206 else if ∃ q ∈ es, q.sl.a = some (adr x) then 100 else 0, ?_⟩
  have b7b : b7 ≠ b := h7.ne hr (by decide)
  have dpb : dp ≠ b := hdp.ne hr (by decide)
  have dp7 : dp ≠ b7 := hdp.ne h7 (by decide)
  have one : ∀ x, out.a = some (adr x) → x ≠ b ∧ x ≠ b7 ∧ x ≠ dp := fun x hx => ⟨he.vn.ne hx hr (by decide), he.vn.ne hx h7 (by decide), he.vn.ne hx hdp (by decide)⟩
  have esne : ∀ q ∈ es, ∀ x, q.sl.a = some (adr x) → x ≠ b ∧ x ≠ b7 ∧ x ≠ dp ∧ out.a ≠ some (adr x) := fun q hq x hx =>
    ⟨fun e => vne (he.vR q hq) hx (e ▸ hr) (by decide), fun e => vne (he.vR q hq) hx (e ▸ h7) (by decide), fun e => vne (he.vR q hq) hx (e ▸ hdp) (by decide), fun e => he.vn.apV (he.vR q hq) (by decide) e hx⟩
  have tne : ∀ x, DActB t x → x ≠ b ∧ x ≠ b7 ∧ x ≠ dp ∧ out.a ≠ some (adr x) := fun x hx => by
    rcases hx with rfl | hx | hx
    · exact ⟨ht.row.ne hr (by decide), ht.row.ne h7 (by decide), ht.row.ne hdp (by decide), fun e => he.vn.ne e ht.row (by decide) rfl⟩
    · exact ⟨fun e => vne ht.loc hx (e ▸ hr) (by decide), fun e => vne ht.loc hx (e ▸ h7) (by decide), fun e => vne ht.loc hx (e ▸ hdp) (by decide), fun e => he.vn.apV ht.loc (by decide) e hx⟩
    · exact ⟨fun e => vne ht.stk hx (e ▸ hr) (by decide), fun e => vne ht.stk hx (e ▸ h7) (by decide), fun e => vne ht.stk hx (e ▸ hdp) (by decide), fun e => he.vn.apV ht.stk (by decide) e hx⟩
  subst hg
  exact {
    base := hB
    run := ⟨hr, hb, if_pos rfl⟩
    lv := ⟨⟨rfl, .inr ⟨b7, [], rfl, by simpa [dptrs] using h7, by simp⟩, Nat.le_refl _⟩, fun x hx => by cases hx; exact ⟨h7l, by dsimp only; rw [if_neg b7b, if_pos rfl]⟩⟩
    lowR := fun i hi => by cases hi
    topR := ht
    topI := fun x hx => ⟨(htb x hx).1, by
      obtain ⟨h1, h2, h3, h4⟩ := tne x hx
      dsimp only
      rw [if_neg h1, if_neg h2, if_neg h3, if_neg h4, if_neg]
      · rfl
      · rintro ⟨q, hq, e⟩; exact (htb x hx).2 q hq e⟩
    codes := fun a ha => by rw [List.mem_singleton.1 ha]; exact hc
    lowl := Nat.zero_le _
    fsg := by
      have : decide (0 ≤ t.f) = false := decide_eq_false (by omega)
      simp [this]
    dice := ⟨hdp, hdl, by dsimp only; rw [if_neg dpb, if_neg dp7, if_pos rfl]⟩
    pv := ⟨he.vn, fun x hx => ⟨he.newO x hx, by
      obtain ⟨h1, h2, h3⟩ := one x hx
      dsimp only at hx ⊢
      rw [if_neg h1, if_neg h2, if_neg h3, if_pos hx]⟩⟩
    esR := fun q hq => ⟨he.vR q hq, fun x hx => ⟨he.newE q hq x hx, by
      obtain ⟨h1, h2, h3, h4⟩ := esne q hq x hx
      dsimp only
      rw [if_neg h1, if_neg h2, if_neg h3, if_neg h4, if_pos ⟨q, hq, hx⟩]⟩⟩
    esA := he.ap
    kv := VecNC.nil _ _ _ _ _ _
    kR := fun q hq => by cases hq
    cv := VecNC.nil _ _ _ _ _ _
    cR := fun q hq => by cases hq
    outA := List.Pairwise.nil
    parA := List.Pairwise.nil
    ev := VecNC.nil _ _ _ _ _ _ }
end
section
open Hc Hc.Vf Hc.Mc Hc.Dice
variable {H : Heap}
abbrev dmpS (s : Sy) (n : Int) (fs : List Rou) : MP := ⟨fs.map fnOf, fnOf s.rou, s.l 2, s.l 3, n, 2 ^ 63⟩
theorem s_begun {p : Sl × Sl} {ss : List Sy} {n : Int} {e : EnV} {ps0 : List PtP} {fs : List Rou} {ins : List (Int × Int × Int)} (hss : RN sysV 8 H p.1 ss) (hn : 0 ≤ n ∧ n < (ss.length : Int)) (hsc : CodeR H (ss[n.toNat]!).rou)
    (hps : RN ptV 2 H e.rp ps0) (hpr : ∀ q ∈ ps0, RL (Value.int .i64) H q.sl q.vals ∧ q.vals.length ≤ 2 ^ 44) (hpl : ps0.length ≤ 2 ^ 42) {k : Option Addr → Heap → Prop}
    (hk : ∀ H' x, DocR H H' x → x.es.length = ps0.length → dstat x.g = (p.1, p.2, ss[n.toNat]!, n, e.fr, e.sd, e.en, e.inS, e.ix, e.gn, e.rp, x.g.ps, x.g.dp) → x.g.ov = false →
      x.ms = initM (dmpS (ss[n.toNat]!) n fs) (enS e ins) (ps0.map PtP.pt) → k (some (adr x.b)) H') :
    CallT Pg fQbo [.agg #[.slice p.1.a p.1.len p.1.cap, .slice p.2.a p.2.len p.2.cap], .int .i64 n, envA e] (.one (.c .ptr)) H k := by
  refine cQbj p n (e.fr, e.sd, e.en, e.inS, e.ix, e.gn, e.rp) ?_
  unfold vQbj
  have hsl := hss.len
  have hlt : n.toNat < ss.length := by omega
  generalize hs : ss[n.toNat]! = s at *
  refine Nw_row (vs := [slV p.1, slV p.2]) fun b1 H1 hb1 hE1 hz1 hr1 => ?_
  refine Nw_row (vs := envL e) fun b2 H2 hb2 hE2 hz2 hr2 => ?_
  have hE02 : Ext H H2 := hE1.trans hE2 fun _ _ h => h
  simp only [adr_add, mk_add]
  refine Ld_sl (s := p.1) (((hE2.row hr1 fun h => h).cell 0).trans rfl) (IxA_rn' sysV_len hss (by decide) (j := n.toNat) (by omega) hlt fun a1 ha1 => ?_)
  rw [hs] at ha1
  refine ⟨(s.s 0, s.s 1, s.s 2, s.s 3, s.rou.name, s.rou.params, s.rou.locals, s.rou.sl), hcells_ext hE02 ha1, ?_⟩
  refine Nw_row (vs := [.slice none 0 0, .slice none 0 0, .slice none 0 0, .slice none 0 0, .string ByteArray.empty, .int .i64 0, .int .i64 0, .slice none 0 0]) fun b3 H3 hb3 hE3 hz3 hr3 => ?_
  refine St_row hr3 (by simp) fun H4 hU4 _ hr4 => St_row hr4 (by simp) fun H5 hU5 _ hr5 => St_row hr5 (by simp) fun H6 hU6 _ hr6 => St_row hr6 (by simp) fun H7 hU7 _ hr7 => ?_
  refine St_row hr7 (by simp) fun H8 hU8 _ hr8 => St_row hr8 (by simp) fun H9 hU9 _ hr9 => St_row hr9 (by simp) fun H10 hU10 _ hr10 => St_row hr10 (by simp) fun H11 hU11 _ hr11 => ?_
  have hr11 : Row H11 b3 TQaw (sysV s) := hr11
  have hE211 : Ext H2 H11 := hE3.trans ((((((((hU4.trans hU5 fun _ _ e => e).trans hU6 fun _ _ e => e).trans hU7 fun _ _ e => e).trans hU8 fun _ _ e => e).trans hU9 fun _ _ e => e).trans hU10 fun _ _ e => e).trans hU11 fun _ _ e => e)) fun b hb e => by omega
  have hE11 : Ext H H11 := hE02.trans hE211 fun _ _ h => h
  have hr1' := (hE2.trans hE211 fun _ _ h => h).row hr1 fun h => h
  have hr2' := hE211.row hr2 fun h => h
  refine ⟨p, hr1'.rd_all, ⟨(s.s 0, s.s 1, s.s 2, s.s 3, s.rou.name, s.rou.params, s.rou.locals, s.rou.sl), hr11.rd_all, ⟨(e.fr, e.sd, e.en, e.inS, e.ix, e.gn, e.rp), hr2'.rd_all, ?_⟩⟩⟩
  refine Ld_sl (s := e.rp) ((hr2'.cell 6).trans rfl) (s_rcopied (hps.ext hE11) (fun q hq => ⟨(hpr q hq).1.ext hE11, (hpr q hq).2⟩) hpl fun H12 out es hE12 hcr hes => ?_)
  have hcr : CopR H.size H12 out es := ⟨hcr.vn, hcr.vR, hcr.ap, fun b hb => Nat.le_trans hE11.size (hcr.newO b hb), fun q hq b hb => Nat.le_trans hE11.size (hcr.newE q hq b hb)⟩
  have r1 := hE12.row hr1' fun h => h
  have r2 := hE12.row hr2' fun h => h
  have r3 := hE12.row hr11 fun h => h
  have hE012 := hE11.trans hE12 fun _ _ h => h
  refine Stab_all (fun y hy => ?_) ?_
  · simp only [List.mem_cons, List.not_mem_nil, or_false] at hy
    rcases hy with rfl | rfl | rfl | rfl | rfl | rfl | rfl | rfl | rfl | rfl | rfl | rfl | rfl | rfl | rfl | rfl | rfl
    · exact (r2.cell 0).trans rfl
    · exact (r2.cell 1).trans rfl
    · exact (r2.cell 2).trans rfl
    · exact (r2.cell 3).trans rfl
    · exact (r2.cell 4).trans rfl
    · exact (r2.cell 5).trans rfl
    · exact (r2.cell 6).trans rfl
    · exact (r3.cell 0).trans rfl
    · exact (r3.cell 1).trans rfl
    · exact (r3.cell 2).trans rfl
    · exact (r3.cell 3).trans rfl
    · exact (r3.cell 4).trans rfl
    · exact (r3.cell 5).trans rfl
    · exact (r3.cell 6).trans rfl
    · exact (r3.cell 7).trans rfl
    · exact (r1.cell 0).trans rfl
    · exact (r1.cell 1).trans rfl
  refine Nw_row (vs := [slV p.1, slV p.2, slV (s.s 0), slV (s.s 1), slV (s.s 2), slV (s.s 3), .string s.rou.name, .int .i64 s.rou.params, .int .i64 s.rou.locals, slV s.rou.sl, .int .i64 n, .int .i64 e.fr, .int .i64 e.sd, .int .i64 e.en, slV e.inS, .int .i64 e.ix, .int .i64 e.gn, slV e.rp, slV out, .slice none 0 0, .pointer none, .int .i64 0, .slice none 0 0, .slice none 0 0, .slice none 0 0, .slice none 0 0, .int .i64 0, .int .i64 0, .bool false]) fun b4 H13 hb4 hE13 hz13 hr13 => ?_
  have r1 := hE13.row r1 fun h => h
  have r2 := hE13.row r2 fun h => h
  have r3l := r3.lt
  have r3 := hE13.row r3 fun h => h
  refine Stab_all (fun y hy => ?_) ?_
  · simp only [List.mem_cons, List.not_mem_nil, or_false] at hy
    rcases hy with rfl | rfl | rfl | rfl | rfl | rfl | rfl | rfl | rfl | rfl | rfl | rfl | rfl | rfl | rfl | rfl | rfl | rfl
    · exact (r2.cell 6).trans rfl
    · exact (r2.cell 0).trans rfl
    · exact (r2.cell 1).trans rfl
    · exact (r2.cell 2).trans rfl
    · exact (r2.cell 3).trans rfl
    · exact (r2.cell 4).trans rfl
    · exact (r2.cell 5).trans rfl
    · exact (r2.cell 6).trans rfl
    · exact (r3.cell 0).trans rfl
    · exact (r3.cell 1).trans rfl
    · exact (r3.cell 2).trans rfl
    · exact (r3.cell 3).trans rfl
    · exact (r3.cell 4).trans rfl
    · exact (r3.cell 5).trans rfl
    · exact (r3.cell 6).trans rfl
    · exact (r3.cell 7).trans rfl
    · exact (r1.cell 0).trans rfl
    · exact (r1.cell 1).trans rfl
  refine Ld_int (n := e.sd) ((r2.cell 1).trans rfl) ?_
  refine Ld_int (n := e.fr) ((r2.cell 0).trans rfl) ?_
  refine Ld_int (n := e.ix) ((r2.cell 4).trans rfl) ?_
  refine s_ref_New _ _ _ _ fun H14 hE14 hd14 => ?_
  have hd14 : Row H14 H13.size TQax [.int .u64 (newS e.sd e.fr n e.ix)] := hd14
  have hr14 := hE14.row hr13 fun h => h
  have hz14 := hd14.lt
  simp only [NilCk_some, adr_add]
  refine St_row hr14 (by simp) fun H15 hU15 hz15 hr15 => ?_
  have nb : b4 ≠ H13.size := by omega
  have r3 := hU15.row (hE14.row r3 fun h => h) fun e => by omega
  refine Ld_sl (s := s.rou.sl) ((r3.cell 7).trans rfl) ⟨(s.rou.name, s.rou.params, s.rou.locals, s.rou.sl), ⟨(r3.cell 4).trans rfl, (r3.cell 5).trans rfl, (r3.cell 6).trans rfl, (r3.cell 7).trans rfl, trivial⟩, ?_⟩
  refine s_locals (ps := ⟨none, 0, 0⟩) (l := []) rfl rfl (by simp) fun H16 r5 hE16 hv16 hn16 => ?_
  have r16 := hE16.row r3 fun h => h
  refine Stab_1 ((r16.cell 7).trans rfl) ?_
  refine Nw_row (vs := [.int .i64 (-1), slV s.rou.sl, slV r5, .slice none 0 0, .int .i64 0]) fun b5 H17 hb5 hE17 hz17 hr17 => ?_
  have st : ∀ {H'}, Ext H16 H' → ∀ y ∈ [((⟨b3, 4, none⟩ : Addr), Value.string s.rou.name), (⟨b3, 5, none⟩, .int .i64 s.rou.params), (⟨b3, 6, none⟩, .int .i64 s.rou.locals), (⟨b3, 7, none⟩, .slice s.rou.sl.a s.rou.sl.len s.rou.sl.cap), (⟨b3, 7, none⟩, .slice s.rou.sl.a s.rou.sl.len s.rou.sl.cap)], hcell H' y.1 = some y.2 := fun hE y hy => by
    have hr := hE.row r16 fun h => h
    simp only [List.mem_cons, List.not_mem_nil, or_false] at hy
    rcases hy with rfl | rfl | rfl | rfl | rfl
    · exact (hr.cell 4).trans rfl
    · exact (hr.cell 5).trans rfl
    · exact (hr.cell 6).trans rfl
    · exact (hr.cell 7).trans rfl
    · exact (hr.cell 7).trans rfl
  refine Stab_all (st hE17) ?_
  refine Nw_row (vs := [.pointer (some (adr b5))]) fun b6 H18 hb6 hE18 hz18 hr18 => ?_
  have hE1618 := hE17.trans hE18 fun _ _ h => h
  refine Stab_all (st hE1618) ?_
  have hE1518 := hE16.trans hE1618 fun _ _ h => h
  have hr18' := hE1518.row hr15 fun h => h
  refine St_row hr18' (by simp) fun H19 hU19 hz19 hr19 => ?_
  have hs12 := hE012.size
  have hs13 := hE13.size
  have hs14 := hE14.size
  have hs16 := hE16.size
  have hE13' : Ext H H13 := hE012.trans hE13 fun _ _ h => h
  have hE014 : Ext H H14 := hE13'.trans hE14 fun _ _ h => h
  have hE015 : Ext H H15 := extUpd hE014 (by omega) hU15
  have hE018 : Ext H H18 := hE015.trans hE1518 fun _ _ h => h
  have hE019 : Ext H H19 := extUpd hE018 (by omega) hU19
  -- all of it in H19
  have hU1419 : Upd (· = b4) H14 H19 := (hU15.trans hE1518 fun _ _ h => h.elim).trans hU19 fun _ _ e => e
  have hcr19 : CopR H.size H19 out es := (hcr.ext (hE13.trans hE14 fun _ _ h => h)).upd hr14 (by decide) (by decide) hU1419
  have hd19 := hU1419.row hd14 fun e => nb e.symm
  have ht19 : DActR H19 ⟨b5, -1, s.rou, r5, ⟨none, 0, 0⟩, locals (fnOf s.rou) [], [], 0⟩ := by
    refine ⟨hU19.row (hE18.row hr17 fun h => h) fun e => ?_, (hv16.ext hE1618).upd hU19 fun b hb e => ?_, Vec.nil _ _, apart_nil _ rfl⟩
    · have : b5 = b4 := e
      omega
    · have := hn16 b hb; omega
  have hx0 : ∀ x, DActB ⟨b5, -1, s.rou, r5, ⟨none, 0, 0⟩, locals (fnOf s.rou) [], [], 0⟩ x → H.size ≤ x ∧ ∀ q ∈ es, q.sl.a ≠ some (adr x) := fun x hx => by
    have hle : H16.size ≤ x ∨ H15.size ≤ x := by
      rcases hx with rfl | hx | hx
      · exact .inl (by omega)
      · exact .inr (hn16 x hx)
      · cases hx
    refine ⟨by omega, fun q hq e => ?_⟩
    have := (hcr.vR q hq).lt e
    omega
  obtain ⟨c, hdoc⟩ := doc_init (p := p) (s := s) (n := n) (e := e) (b := b4) (b7 := b6) (dp := H13.size) (g := ⟨p.1, p.2, s, n, e.fr, e.sd, e.en, e.inS, e.ix, e.gn, e.rp, out, ⟨some (adr b6), 1, 1⟩, ⟨none, 0, 0⟩, ⟨none, 0, 0⟩, ⟨none, 0, 0⟩, 0, H13.size, 0, false⟩) hE019 hcr19 hr19 (by omega) rfl hd19 (by omega) ht19 hx0 (hU19.row hr18 fun e => by omega) (by omega) hsc (show (-1 : Int) < 0 by decide)
  refine hk H19 _ hdoc ?_ rfl rfl ?_
  · have := congrArg List.length hes
    simpa using this
  · show Ms.mk _ _ _ _ _ _ _ _ _ _ = Ms.mk _ _ _ _ _ _ _ _ _ _
    rw [hes]; rfl
end
section
open Hc Hc.Vf Hc.Mc Hc.Dice
variable {H : Heap}
end
section
open Hc Hc.Vf Hc.Mc Hc.Dice
variable {H : Heap}
theorem init_okD {P : MP} {E : En} {ps : List Pt} (h : ∀ p ∈ ps, All64 p.vals) : MOk P (initM P E ps) where
  low := fun a ha => by cases ha
  top := ⟨.inl rfl, by simp [initM], (fun x hx => by cases hx), locals_len _ _ (by simp), locals_64 (fun x hx => by cases hx), by dsimp only [initM]; omega⟩
  lowl := Nat.zero_le _
  vals := h
  dice := newS_bd _ _ _ _
  since := by dsimp only [initM]; omega
  steps := by dsimp only [initM]; omega
  kept := Nat.zero_le _
  keptK := fun p hp => by cases hp
  cmds := Nat.zero_le _
  evs := Nat.zero_le _
theorem d_turn {B : Heap} {x : DG} {fs : List Rou} {ins : List (Int × Int × Int)} {P : MP} {E : En} (h : DocR B H x) (hc : CtxR B x.g.pF x.g.s x.g.inS fs ins) (hes : x.es.length ≤ 2 ^ 60) (hmp : dmpOf x.g fs = P) (hen : denOf x.g ins = E) (hP : POk P) (hE : EOk E) (hM : MOk P x.ms) (hov : x.g.ov = false) {k : Int → Heap → Prop}
    (hbad : ∀ H' x' e n m', DocR B H' x' → x'.b = x.b → Runs P E x.ms n e m' → e ≠ 0 → x'.g.st = m'.steps → k e H')
    (hgo : ∀ H' x', DocR B H' x' → x'.b = x.b → dstat x'.g = dstat x.g → x'.es.length = x.es.length → MOk P x'.ms → (∀ n e m', Runs P E x'.ms n e m' → Runs P E x.ms (n + 1) e m') →
      ((2001 - x'.g.st) * 40001 + (40000 - x'.g.si)).toNat < ((2001 - x.g.st) * 40001 + (40000 - x.g.si)).toNat → k 0 H') :
    CallT Pg fQbp [.pointer (some (adr x.b))] IntR H k := by
  subst hmp hen
  refine s_rone (ins := ins) h hc hes hP hM fun H' x' hp => ?_
  have hov' : x.ms.over = false := hov
  by_cases h0 : (stepM (dmpOf x.g fs) (denOf x.g ins) x.ms).1 = 0
  · rw [h0]
    have hms := hp.ms h0
    have hrdy : ready (dmpOf x.g fs) x.ms = 0 := by
      unfold stepM at h0
      split at h0
      · assumption
      · rename_i hne; exact absurd h0 hne
    have hR := ready_iff hrdy
    have hstep : stepM (dmpOf x.g fs) (denOf x.g ins) x.ms = does (dmpOf x.g fs) (denOf x.g ins) x.ms x.ms.top.fn.code[x.ms.top.nx.toNat]! := by unfold stepM; rw [if_pos hrdy]
    rw [hstep] at h0 hms
    rcases hM.does hP hE hR with ⟨_, hmo⟩ | ⟨h120, _⟩
    · rw [← hms] at hmo
      refine hgo H' x' hp.doc hp.b hp.st hp.el hmo (fun n e m' hr => .step hov' (by rw [hstep]; exact h0) (by rw [hstep, ← hms]; exact hr)) ?_
      have hme := does_meas h0
      rw [← hms] at hme
      have hme : (x'.g.st = x.g.st ∧ x'.g.si = x.g.si + 1) ∨ (x'.g.st = x.g.st + 1 ∧ x'.g.si = 0) := hme
      have h1 : 0 ≤ x.g.st ∧ x.g.st ≤ 2000 := hM.steps
      have h2 : 0 ≤ x'.g.st ∧ x'.g.st ≤ 2000 := hmo.steps
      have h3 : 0 ≤ x.g.si ∧ x.g.si ≤ 40000 := hM.since
      have h4 : 0 ≤ x'.g.si ∧ x'.g.si ≤ 40000 := hmo.since
      omega
    · rw [h0] at h120; cases h120
  · exact hbad H' x' _ 1 _ hp.doc hp.b (.bad hov' h0) h0 hp.steps
structure RunIn (H : Heap) (p : Sl × Sl) (ss : List Sy) (n : Int) (e : EnV) (ps0 : List PtP) (fs : List Rou) (ins : List (Int × Int × Int)) : Prop where
  h_ss : RN sysV 8 H p.1 ss
  h_n : 0 ≤ n ∧ n < (ss.length : Int)
  h_cx : CtxR H p.2 (ss[n.toNat]!) e.inS fs ins
  h_co : CodeR H (ss[n.toNat]!).rou
  h_ps : RN ptV 2 H e.rp ps0
  h_pr : ∀ q ∈ ps0, RL (Value.int .i64) H q.sl q.vals ∧ q.vals.length ≤ 2 ^ 44 ∧ All64 q.vals
  h_pl : ps0.length ≤ 2 ^ 42
  h_wl : ((ss[n.toNat]!).l 3).length ≤ 2 ^ 44
  h_P : POk (dmpS (ss[n.toNat]!) n fs)
  h_E : EOk (enS e ins)
theorem RunIn.ext {H' : Heap} {p : Sl × Sl} {ss : List Sy} {n : Int} {e : EnV} {ps0 : List PtP} {fs : List Rou} {ins : List (Int × Int × Int)} (h : RunIn H p ss n e ps0 fs ins) (hE : Ext H H') : RunIn H' p ss n e ps0 fs ins :=
  ⟨h.h_ss.ext hE, h.h_n, h.h_cx.ext hE, h.h_co.ext hE, h.h_ps.ext hE, fun q hq => ⟨(h.h_pr q hq).1.ext hE, (h.h_pr q hq).2⟩, h.h_pl, h.h_wl, h.h_P, h.h_E⟩
theorem mp_of {g : DunG} {p : Sl × Sl} {s : Sy} {n : Int} {e : EnV} (hst : dstat g = (p.1, p.2, s, n, e.fr, e.sd, e.en, e.inS, e.ix, e.gn, e.rp, g.ps, g.dp)) (fs : List Rou) (ins : List (Int × Int × Int)) : dmpOf g fs = dmpS s n fs ∧ denOf g ins = enS e ins ∧ g.pF = p.2 ∧ g.s = s ∧ g.inS = e.inS := by
  simp only [dstat, Prod.mk.injEq] at hst
  obtain ⟨_, h2, h3, h4, h5, h6, _, h8, h9, h10, _⟩ := hst
  refine ⟨?_, ?_, h2, h3, h8⟩
  · show MP.mk (fs.map fnOf) (fnOf g.s.rou) (g.s.l 2) (g.s.l 3) g.n (2 ^ 63) = _
    rw [h3, h4]
  · show En.mk g.fr g.sd g.ix g.gn ins = _
    rw [h5, h6, h9, h10]
theorem s_Count {p : Sl × Sl} {ss : List Sy} {n : Int} {e : EnV} {ps0 : List PtP} {fs : List Rou} {ins : List (Int × Int × Int)} {most : Int} (hm : most < 2 ^ 62) (hss : RN sysV 8 H p.1 ss) (hi : 0 ≤ n ∧ n < (ss.length : Int) → RunIn H p ss n e ps0 fs ins) {k : Int → Heap → Prop} (hk : ∀ r H', Ext H H' → k r H') :
    CallT Pg fQbn [.agg #[.slice p.1.a p.1.len p.1.cap, .slice p.2.a p.2.len p.2.cap], .int .i64 n, envA e, .int .i64 most] IntR H k := by
  refine cQbi p n (e.fr, e.sd, e.en, e.inS, e.ix, e.gn, e.rp) most ?_
  unfold vQbi
  have hsl := hss.len
  refine Nw_row (vs := [slV p.1, slV p.2]) fun b1 H1 hb1 hE1 hz1 hr1 => ?_
  refine Nw_row (vs := envL e) fun b2 H2 hb2 hE2 hz2 hr2 => ?_
  have hE02 : Ext H H2 := hE1.trans hE2 fun _ _ h => h
  have hr1 := hE2.row hr1 fun h => h
  refine Jn.mk (fun j H' => H2 = H' ∧ j = decide (¬ (0 ≤ n ∧ n < (ss.length : Int)))) (fun kk hkk => Br_dec (fun h => hkk _ _ ⟨rfl, (decide_eq_true (by omega)).symm⟩) fun h => Ld_sl (s := p.1) ((hr1.cell 0).trans rfl) (hkk _ _ ⟨rfl, decide_eq_decide.2 (by omega)⟩)) ?_
  rintro j _ ⟨rfl, rfl⟩
  refine Br_dec (fun _ => hk _ _ hE02) fun hn => ?_
  have hi := (hi (Decidable.not_not.1 hn)).ext hE02
  refine ⟨p, hr1.rd_all, ⟨(e.fr, e.sd, e.en, e.inS, e.ix, e.gn, e.rp), hr2.rd_all, ?_⟩⟩
  refine s_begun (fs := fs) (ins := ins) (e := e) hi.h_ss hi.h_n hi.h_co hi.h_ps (fun q hq => ⟨(hi.h_pr q hq).1, (hi.h_pr q hq).2.1⟩) hi.h_pl fun H3 x hx hel hst hov hms => ?_
  obtain ⟨mp, en, e1, e2, e3⟩ := mp_of hst fs ins
  have hcx : CtxR H2 x.g.pF x.g.s x.g.inS fs ins := by rw [e1, e2, e3]; exact hi.h_cx
  have hM : MOk (dmpS (ss[n.toNat]!) n fs) x.ms := by
    rw [hms]; exact init_okD fun q hq => by
      obtain ⟨q', hq', rfl⟩ := List.mem_map.1 hq
      exact (hi.h_pr q' hq').2.2
  have hpl := hi.h_pl
  refine LoopT.mk (fun c H' => 0 ≤ c ∧ (c ≤ most ∨ c = 0) ∧ ∃ y, DocR H2 H' y ∧ y.b = x.b ∧ dstat y.g = dstat x.g ∧ y.es.length = x.es.length ∧ MOk (dmpS (ss[n.toNat]!) n fs) y.ms) (fun c _ => (most - c).toNat) ⟨by omega, .inr rfl, x, hx, rfl, rfl, rfl, hM⟩ ?_
  rintro next c H4 ⟨hc0, hcm, y, hy, hyb, hys, hye, hym⟩ hnext
  simp only [NilCk_some, adr_add]
  have cov : hcell H4 ⟨x.b, 28, none⟩ = some (.bool y.g.ov) := by rw [← hyb]; exact (hy.run.1.cell 28).trans rfl
  have hE4 : Ext H H4 := hE02.trans hy.base fun _ _ h => h
  refine Jn.mk (fun j H' => H4 = H' ∧ (j = true → c < most ∧ y.g.ov = false)) (fun kk hkk => Br_dec (fun h => Ld_bool cov (hkk _ _ ⟨rfl, fun e => ⟨h, by simpa using e⟩⟩)) fun h => hkk _ _ ⟨rfl, fun e => by cases e⟩) ?_
  rintro j _ ⟨rfl, hj⟩
  refine Br.mk (fun hje => ?_) fun _ => hk _ _ hE4
  obtain ⟨hlt, hov'⟩ := hj hje
  refine Lt.mk (u := c + 1) (by rw [wrap_i64_id] <;> omega) ?_
  have hs : dstat y.g = (p.1, p.2, ss[n.toNat]!, n, e.fr, e.sd, e.en, e.inS, e.ix, e.gn, e.rp, y.g.ps, y.g.dp) := by
    have h1 : dstat y.g = (p.1, p.2, ss[n.toNat]!, n, e.fr, e.sd, e.en, e.inS, e.ix, e.gn, e.rp, x.g.ps, x.g.dp) := hys.trans hst
    have h2 := h1
    simp only [dstat, Prod.mk.injEq] at h2
    obtain ⟨_, _, _, _, _, _, _, _, _, _, _, g1, g2⟩ := h2
    rw [h1, g1, g2]
  obtain ⟨mp', en', f1, f2, f3⟩ := mp_of hs fs ins
  have hcy : CtxR H2 y.g.pF y.g.s y.g.inS fs ins := by rw [f1, f2, f3]; exact hi.h_cx
  rw [← hyb]
  refine d_turn (ins := ins) hy hcy (by omega) mp' en' hi.h_P hi.h_E hym hov' (fun H5 y' er N m' hy' _ _ hne _ => ?_) fun H5 y' hy' hb' hs' he' hm' _ _ => ?_
  · exact Br.mk (fun _ => hk _ _ (hE02.trans hy'.base fun _ _ h => h)) fun e => absurd (by simpa using e) hne
  · exact hnext _ _ ⟨by omega, .inl (by omega), y', hy', hb'.trans hyb, hs'.trans hys, he'.trans hye, hm'⟩ (by omega)
theorem s_Long {p : Sl × Sl} {ss : List Sy} {n : Int} {e : EnV} {ps0 : List PtP} {fs : List Rou} {ins : List (Int × Int × Int)} {most : Int} (hm : most < 2 ^ 62) (hss : RN sysV 8 H p.1 ss) (hi : 0 ≤ n ∧ n < (ss.length : Int) → RunIn H p ss n e ps0 fs ins) {k : Bool → Heap → Prop} (hk : ∀ r H', Ext H H' → k r H') :
    CallT Pg fQbl [.agg #[.slice p.1.a p.1.len p.1.cap, .slice p.2.a p.2.len p.2.cap], .int .i64 n, envA e, .int .i64 most] (.one (.c .bool)) H k := by
  refine cQbh p n (e.fr, e.sd, e.en, e.inS, e.ix, e.gn, e.rp) most ?_
  unfold vQbh
  refine Nw_row (vs := [slV p.1, slV p.2]) fun b1 H1 hb1 hE1 hz1 hr1 => ?_
  refine Nw_row (vs := envL e) fun b2 H2 hb2 hE2 hz2 hr2 => ?_
  have hE02 : Ext H H2 := hE1.trans hE2 fun _ _ h => h
  have hr1 := hE2.row hr1 fun h => h
  refine ⟨p, hr1.rd_all, ⟨(e.fr, e.sd, e.en, e.inS, e.ix, e.gn, e.rp), hr2.rd_all, ?_⟩⟩
  exact s_Count (e := e) (ps0 := ps0) (fs := fs) (ins := ins) hm (hss.ext hE02) (fun h => (hi h).ext hE02) fun r H3 hE3 => hk _ _ (hE02.trans hE3 fun _ _ h => h)
end
section
open Hc Hc.Vf Hc.Mc Hc.Dice
def phi (m : Ms) : Ms := { m with vals := firsts m.vals }
structure Alike (P P' : MP) : Prop where
  fns : P.fns = P'.fns
  sys : P.sys = P'.sys
  rd : P.reads = P'.reads
  wr : P.writes = P'.writes
  n : P.sysN = P'.sysN
end
section
open Hc Hc.Vf Hc.Mc Hc.Dice
variable {H : Heap}
abbrev exP (code : List Ins) : MP := ⟨[], ⟨0, 0, code⟩, [], [1], 0, 2 ^ 40⟩
abbrev exE : En := ⟨3, 0, 5, 1, []⟩
abbrev exS (code : List Ins) (stk : List Int) (nx : Int) (v : Int) (d si st : Int) (evs : List Ev) (ov : Bool) : Ms := ⟨[], ⟨⟨0, 0, code⟩, [], stk, nx⟩, [⟨1, [v]⟩], d, si, st, [], [], evs, ov⟩
abbrev cA : List Ins := [(24, 0), (4, 8), (1, 1), (6, 0), (5, 8), (23, 0)]
abbrev cB : List Ins := [(1, 1), (19, 0)]
abbrev cC : List Ins := [(24, 0), (19, 0)]
abbrev cD : List Ins := [(1, 1), (1, 2), (25, 0), (23, 0)]
theorem ex_init (code : List Ins) : initM (exP code) exE (firsts [⟨1, [7]⟩]) = exS code [] 0 7 (newS 0 3 0 5) 0 0 [] false := rfl
theorem run_a (d : Int) : Runs (exP cA) exE (exS cA [] 0 7 d 0 0 [] false) 6 0 (exS cA [] 6 8 d 5 1 [] true) := by
  refine .step (m := exS cA [] 0 7 d 0 0 [] false) rfl (by rfl) ?_
  refine .step (m := exS cA [] 1 7 d 0 1 [] false) rfl (by rfl) ?_
  refine .step (m := exS cA [7] 2 7 d 1 1 [] false) rfl (by rfl) ?_
  refine .step (m := exS cA [7, 1] 3 7 d 2 1 [] false) rfl (by rfl) ?_
  refine .step (m := exS cA [8] 4 7 d 3 1 [] false) rfl (by rfl) ?_
  refine .step (m := exS cA [] 5 8 d 4 1 [] false) rfl (by rfl) ?_
  exact .over (m := exS cA [] 6 8 d 5 1 [] true) rfl
theorem push_b {stk : List Int} (h : stk.length < 64) {d si : Int} (hs : si < 40000) : stepM (exP cB) exE (exS cB stk 0 7 d si 0 [] false) = (0, exS cB (stk ++ [1]) 1 7 d (si + 1) 0 [] false) := by
  have r : Rdy (exP cB) (exS cB stk 0 7 d si 0 [] false) (1, 1) := ⟨⟨show (0 : Int) ≤ 0 by decide, show (0 : Int) < 2 by decide⟩, rfl, hs, by decide, ⟨by show (0 : Int) ≤ _; omega, by show (stk.length : Int) - 0 + 1 ≤ 64; omega⟩, rfl, rfl⟩
  unfold stepM
  rw [if_pos (ready_of r), r.ins]
  show (0, Ms.push (cut (exS cB stk 0 7 d si 0 [] false) 0) 1) = _
  unfold Ms.push cut
  simp
theorem jump_b {stk : List Int} (h : stk.length ≤ 64) {d si : Int} (hs : si < 40000) : stepM (exP cB) exE (exS cB stk 1 7 d si 0 [] false) = (0, exS cB stk 0 7 d (si + 1) 0 [] false) := by
  have r : Rdy (exP cB) (exS cB stk 1 7 d si 0 [] false) (19, 0) := ⟨⟨show (0 : Int) ≤ 1 by decide, show (1 : Int) < 2 by decide⟩, rfl, hs, by decide, ⟨by show (0 : Int) ≤ _; omega, by show (stk.length : Int) - 0 + 0 ≤ 64; omega⟩, rfl, rfl⟩
  unfold stepM
  rw [if_pos (ready_of r), r.ins]
  have e : does (exP cB) exE (exS cB stk 1 7 d si 0 [] false) (19, 0) = (0, exS cB (stk.take (stk.length - 0)) 0 7 d (si + 1) 0 [] false) := by kernel_rfl
  rw [e]
  simp
theorem full_b {stk : List Int} (h : stk.length = 64) {d si : Int} (hs : si < 40000) : stepM (exP cB) exE (exS cB stk 0 7 d si 0 [] false) = (151, exS cB stk 0 7 d si 0 [] false) := by
  have r : ready (exP cB) (exS cB stk 0 7 d si 0 [] false) = 151 := by
    unfold ready
    refine (if_neg ?_).trans ((if_neg ?_).trans ((if_neg ?_).trans (if_pos (.inr ?_))))
    · show ¬¬((0 : Int) ≤ 0 ∧ (0 : Int) < 2); decide
    · show ¬ si ≥ 40000; omega
    · show ¬ isOpB 1 = false; decide
    · show (stk.length : Int) - 0 + 1 > 64; omega
  unfold stepM
  rw [r]; rfl
theorem run_b (d : Int) : ∀ (n : Nat) (stk : List Int) (si : Int), stk.length + n = 64 → si = 2 * stk.length → ∃ N m', Runs (exP cB) exE (exS cB stk 0 7 d si 0 [] false) N 151 m'
  | 0, stk, si, h, hs => by
    have := Runs.bad (P := exP cB) (E := exE) (m := exS cB stk 0 7 d si 0 [] false) rfl (by rw [full_b (by omega) (by omega)]; show (151 : Int) ≠ 0; decide)
    rw [full_b (by omega) (by omega)] at this
    exact ⟨_, _, this⟩
  | n + 1, stk, si, h, hs => by
    obtain ⟨N, m', hr⟩ := run_b d n (stk ++ [1]) (si + 1 + 1) (by simp; omega) (by simp; omega)
    refine ⟨N + 1 + 1, m', .step (m := exS cB stk 0 7 d si 0 [] false) rfl (by rw [push_b (by omega) (by omega)]) ?_⟩
    rw [push_b (by omega) (by omega)]
    refine .step (m := exS cB (stk ++ [1]) 1 7 d (si + 1) 0 [] false) rfl (by rw [jump_b (by simp; omega) (by omega)]) ?_
    rw [jump_b (by simp; omega) (by omega)]
    exact hr
theorem step_c {d si st : Int} (hs : si < 40000) : stepM (exP cC) exE (exS cC [] 0 7 d si st [] false) = if st + 1 ≤ 2000 then (0, exS cC [] 1 7 d 0 (st + 1) [] false) else (120, exS cC [] 1 7 d (si + 1) (st + 1) [] false) := by
  have r : Rdy (exP cC) (exS cC [] 0 7 d si st [] false) (24, 0) := ⟨⟨show (0 : Int) ≤ 0 by decide, show (0 : Int) < 2 by decide⟩, rfl, hs, by decide, ⟨show (0 : Int) ≤ 0 by decide, show (0 : Int) - 0 + 0 ≤ 64 by decide⟩, rfl, rfl⟩
  unfold stepM
  rw [if_pos (ready_of r), r.ins]
  rfl
theorem jump_c {d st : Int} : stepM (exP cC) exE (exS cC [] 1 7 d 0 st [] false) = (0, exS cC [] 0 7 d 1 st [] false) := by
  have r : Rdy (exP cC) (exS cC [] 1 7 d 0 st [] false) (19, 0) := ⟨⟨show (0 : Int) ≤ 1 by decide, show (1 : Int) < 2 by decide⟩, rfl, show (0 : Int) < 40000 by decide, by decide, ⟨show (0 : Int) ≤ 0 by decide, show (0 : Int) - 0 + 0 ≤ 64 by decide⟩, rfl, rfl⟩
  unfold stepM
  rw [if_pos (ready_of r), r.ins]
  rfl
theorem run_c (d : Int) : ∀ (n : Nat) (si st : Int), st + n = 2000 → si < 40000 → ∃ N m', Runs (exP cC) exE (exS cC [] 0 7 d si st [] false) N 120 m' ∧ m'.steps = 2001
  | 0, si, st, h, hs => by
    have hst : st = 2000 := by omega
    subst hst
    have e := step_c (d := d) (st := 2000) hs
    rw [if_neg (by decide)] at e
    have := Runs.bad (P := exP cC) (E := exE) (m := exS cC [] 0 7 d si 2000 [] false) rfl (by rw [e]; show (120 : Int) ≠ 0; decide)
    rw [e] at this
    exact ⟨_, _, this, rfl⟩
  | n + 1, si, st, h, hs => by
    obtain ⟨N, m', hr, hm⟩ := run_c d n 1 (st + 1) (by omega) (by decide)
    have e := step_c (d := d) (st := st) hs
    rw [if_pos (by omega)] at e
    refine ⟨N + 1 + 1, m', .step (m := exS cC [] 0 7 d si st [] false) rfl (by rw [e]) ?_, hm⟩
    rw [e]
    refine .step (m := exS cC [] 1 7 d 0 (st + 1) [] false) rfl (by rw [jump_c]) ?_
    rw [jump_c]
    exact hr
theorem run_d (d : Int) : Runs (exP cD) exE (exS cD [] 0 7 d 0 0 [] false) 4 0 (exS cD [] 4 7 d 4 0 [⟨0, (5, 1), 1, 2⟩] true) := by
  refine .step (m := exS cD [] 0 7 d 0 0 [] false) rfl (by rfl) ?_
  refine .step (m := exS cD [1] 1 7 d 1 0 [] false) rfl (by rfl) ?_
  refine .step (m := exS cD [1, 2] 2 7 d 2 0 [] false) rfl (by rfl) ?_
  refine .step (m := exS cD [] 3 7 d 3 0 [⟨0, (5, 1), 1, 2⟩] false) rfl (by rfl) ?_
  exact .over (m := exS cD [] 4 7 d 4 0 [⟨0, (5, 1), 1, 2⟩] true) rfl
end
section
open Hc Hc.Vf Hc.Mc Hc.Dice
variable {H : Heap}
theorem row_rl {b : Nat} {T : TypeId} {xs : List Int} (h : Row H b T (ints xs)) {c : Nat} (hc : xs.length ≤ c) : RL (Value.int .i64) H ⟨some (adr b), xs.length, c⟩ xs := ⟨h.rd_all, rfl, hc⟩
theorem row_rn {α : Type} {f : α → List Value} {n : Nat} {b : Nat} {T : TypeId} {xs : List α} (h : Row H b T (xs.flatMap f)) {c : Nat} (hc : xs.length ≤ c) : RN f n H ⟨some (adr b), xs.length, c⟩ xs := ⟨h.rd_all, rfl, hc⟩
abbrev ProgR : RTy := .one (.agg [.sl, .sl])
abbrev EnvR : RTy := .one (.agg [(.int .i64), (.int .i64), (.int .i64), .sl, (.int .i64), (.int .i64), .sl])
theorem s_one {l : Sl} {code : List Ins} {k : Sl × Sl → Heap → Prop}
    (hk : ∀ H' p1 (s : Sy), Ext H H' → RN sysV 8 H' p1 [s] → (∀ q, q < 4 → RL (Value.int .i64) H' (s.s q) (s.l q)) → s.l = (fun q => if q = 3 then [1] else []) → s.rou = ⟨⟨#[115]⟩, 0, 0, l, code⟩ → k (p1, ⟨none, 0, 0⟩) H') :
    CallT Pg fQep [.slice l.a l.len l.cap] ProgR H k := by
  refine cQei l ?_
  unfold vQei
  refine Nw_row (vs := [.slice none 0 0, .slice none 0 0]) fun b1 H1 hb1 hE1 _ hr1 => ?_
  refine Nw_row (vs := ints [1]) fun b2 H2 hb2 hE2 _ hr2 => ?_
  refine Nw_row (vs := [.slice none 0 0, .slice none 0 0, .slice none 0 0, .slice (some (adr b2)) 1 1, .string ⟨#[115]⟩, .int .i64 0, .int .i64 0, .slice l.a l.len l.cap]) fun b3 H3 hb3 hE3 _ hr3 => ?_
  have hE03 := (hE1.trans hE2 fun _ _ h => h).trans hE3 fun _ _ h => h
  have hs1 := hE1.size
  simp only [adr_add]
  refine St_row ((hE2.trans hE3 fun _ _ h => h).row hr1 fun h => h) (by simp) fun H4 hU4 _ hr4 => St_row hr4 (by simp) fun H5 hU5 _ hr5 => ?_
  have hU : Upd (· = b1) H3 H5 := hU4.trans hU5 fun _ _ e => e
  refine ⟨(⟨some (adr b3), 1, 1⟩, ⟨none, 0, 0⟩), hr5.rd_all, ?_⟩
  have r2 := hU.row (hE3.row hr2 fun h => h) fun e => by omega
  have r3 := hU.row hr3 fun e => by omega
  refine hk H5 ⟨some (adr b3), 1, 1⟩ ⟨fun q => if q = 3 then ⟨some (adr b2), 1, 1⟩ else ⟨none, 0, 0⟩, fun q => if q = 3 then [1] else [], ⟨⟨#[115]⟩, 0, 0, l, code⟩⟩ (extUpd hE03 (by omega) hU) ⟨r3.rd_all, rfl, Nat.le_refl _⟩ (fun q hq => ?_) rfl rfl
  by_cases e : q = 3
  · subst e; exact row_rl (xs := [1]) r2 (Nat.le_refl _)
  · show RL _ _ (if q = 3 then _ else _) (if q = 3 then _ else _)
    rw [if_neg e, if_neg e]
    exact RL.nil _ _
theorem s_env {k : Int × Int × Int × Sl × Int × Int × Sl → Heap → Prop} (hk : ∀ H' rp q, Ext H H' → RN ptV 2 H' rp [q] → RL (Value.int .i64) H' q.sl [7] → q.kind = 1 → q.vals = [7] → k (3, 0, 0, ⟨none, 0, 0⟩, 5, 1, rp) H') :
    CallT Pg fQeq [] EnvR H k := by
  refine cQej ?_
  unfold vQej
  refine Nw_row (vs := [.int .i64 0, .int .i64 0, .int .i64 0, .slice none 0 0, .int .i64 0, .int .i64 0, .slice none 0 0]) fun b1 H1 hb1 hE1 _ hr1 => ?_
  refine Nw_row (vs := ints [7]) fun b2 H2 hb2 hE2 _ hr2 => ?_
  refine Nw_row (vs := ptV ⟨1, ⟨some (adr b2), 1, 1⟩, [7]⟩) fun b3 H3 hb3 hE3 _ hr3 => ?_
  have hE03 := (hE1.trans hE2 fun _ _ h => h).trans hE3 fun _ _ h => h
  have hs1 := hE1.size
  simp only [adr_add]
  refine St_row ((hE2.trans hE3 fun _ _ h => h).row hr1 fun h => h) (by simp) fun H4 hU4 _ hr4 => St_row hr4 (by simp) fun H5 hU5 _ hr5 => St_row hr5 (by simp) fun H6 hU6 _ hr6 => St_row hr6 (by simp) fun H7 hU7 _ hr7 => ?_
  refine St_row hr7 (by simp) fun H8 hU8 _ hr8 => St_row hr8 (by simp) fun H9 hU9 _ hr9 => St_row hr9 (by simp) fun H10 hU10 _ hr10 => ?_
  have hU : Upd (· = b1) H3 H10 := (((((hU4.trans hU5 fun _ _ e => e).trans hU6 fun _ _ e => e).trans hU7 fun _ _ e => e).trans hU8 fun _ _ e => e).trans hU9 fun _ _ e => e).trans hU10 fun _ _ e => e
  refine ⟨(3, 0, 0, ⟨none, 0, 0⟩, 5, 1, ⟨some (adr b3), 1, 1⟩), hr10.rd_all, ?_⟩
  have r2 := hU.row (hE3.row hr2 fun h => h) fun e => by omega
  have r3 := hU.row hr3 fun e => by omega
  exact hk H10 ⟨some (adr b3), 1, 1⟩ ⟨1, ⟨some (adr b2), 1, 1⟩, [7]⟩ (extUpd hE03 (by omega) hU) ⟨r3.rd_all, rfl, Nat.le_refl _⟩ (row_rl (xs := [7]) r2 (Nat.le_refl _)) rfl rfl
theorem compact_one : Lib.compact (([1] : List Int).mergeSort fun a b => decide (a ≤ b)) = [1] := by
  have h := sortU_ok [1]
  generalize Lib.compact (([1] : List Int).mergeSort fun a b => decide (a ≤ b)) = l at *
  obtain ⟨h1, h2⟩ := h
  match l, h1, h2 with
  | [], _, h2 => exact absurd ((h2 1).2 (by simp)) (by simp)
  | [x], _, h2 => have := (h2 x).1 (by simp); simp at this; rw [this]
  | x :: y :: r, h1, h2 =>
    have hx := (h2 x).1 (by simp)
    have hy := (h2 y).1 (by simp)
    simp only [List.mem_singleton] at hx hy
    have := (List.pairwise_cons.1 h1).1 y (by simp)
    omega
theorem ex_Run {b c : Nat} {code : List Ins} (hcode : ∀ i ∈ code, I64 i.1 ∧ I64 i.2) (hlen : code.length ≤ 2 ^ 40) (hr : Row H b TQag (code.flatMap insV)) (hc : c = code.length) {k : Sl × Sl × Sl × Int × Int → Heap → Prop}
    (hbad : ∀ H' N er m', Ext H H' → Runs (exP code) exE (exS code [] 0 7 (newS 0 3 0 5) 0 0 [] false) N er m' → er ≠ 0 → k (⟨none, 0, 0⟩, ⟨none, 0, 0⟩, ⟨none, 0, 0⟩, m'.steps, er) H')
    (hok : ∀ H' N m' vs cs es (ps : List PtP) (cl : List CmP) (q : List PtP), Ext H H' → Runs (exP code) exE (exS code [] 0 7 (newS 0 3 0 5) 0 0 [] false) N 0 m' → VecN H' TQai 2 vs (ps.flatMap ptV) → (∀ q ∈ ps, Vec H' TQaq q.sl (ints q.vals)) → VecN H' TQaf 5 es (m'.evs.flatMap evV) → m'.vals = q.map PtP.pt →
      ps = partsOf q [1] → k (vs, cs, es, m'.steps, 0) H') :
    CallT Pg fQep [.slice (some (adr b)) c c] ProgR H fun (r1 : Sl × Sl) H2 =>
    CallT Pg fQeq [] EnvR H2 fun (r2 : Int × Int × Int × Sl × Int × Int × Sl) H3 =>
    CallT Pg fQaa [.agg #[.slice r1.1.a r1.1.len r1.1.cap, .slice r1.2.a r1.2.len r1.2.cap], .int .i64 0, .agg #[.int .i64 r2.1, .int .i64 r2.2.1, .int .i64 r2.2.2.1, .slice r2.2.2.2.1.a r2.2.2.2.1.len r2.2.2.2.1.cap, .int .i64 r2.2.2.2.2.1, .int .i64 r2.2.2.2.2.2.1, .slice r2.2.2.2.2.2.2.a r2.2.2.2.2.2.2.len r2.2.2.2.2.2.2.cap]] RunT H3 k := by
  subst hc
  refine s_one (l := ⟨some (adr b), code.length, code.length⟩) (code := code) fun H2 p1 s hE2 hs hset hsl hrou => s_env fun H3 rp q hE3 hrn hrl hqk hqv => ?_
  have hE := hE2.trans hE3 fun _ _ h => h
  have hcR : CodeR H3 s.rou := by rw [hrou]; exact (row_rn hr (Nat.le_refl _)).ext hE
  have hmp : mpS s 0 [] = exP code := by
    show MP.mk _ (fnOf s.rou) (s.l 2) (s.l 3) 0 _ = _
    rw [hrou, hsl]; rfl
  have hl3 : s.l 3 = [1] := by rw [hsl]; rfl
  have hPO : POk (exP code) := ⟨fun f hf => (by cases hf), ⟨show I64 0 from ⟨by decide, by decide⟩, show I64 0 from ⟨by decide, by decide⟩, hcode, by show code.length ≤ 2 ^ 60; omega⟩⟩
  have hEO : EOk exE := ⟨⟨by decide, by decide⟩, ⟨by decide, by decide⟩, fun x hx => (by cases hx)⟩
  refine s_Run inputOk (p := (p1, ⟨none, 0, 0⟩)) (ss := [s]) (fs := []) (n := 0) (e := ⟨3, 0, 0, ⟨none, 0, 0⟩, 5, 1, rp⟩) (ps0 := [q]) (ins := []) (hs.ext hE3) ⟨Int.le_refl _, show (0 : Int) < 1 by decide⟩
    ⟨RN.nil _ _ _, (fun r hr => by cases hr), fun i hi => (hset i hi).ext hE3, fun i hi => ?_, RN.nil _ _ _, (show 0 * 24 ≤ 140737488351232 by decide), (fun a ha => by cases ha), fun _ => rfl⟩ hcR hrn
    (fun q' hq' => ?_) (show 1 ≤ 2 ^ 42 by decide) ?_ ?_ hEO (fun H' N er m' hE' hrn' hne => ?_) fun H' N m' vs cs es ps cl q' hE' hrn' ho _ hv _ hps => ?_
  · show (s.l i).length ≤ _
    rw [hsl]; dsimp only; split <;> simp
  · rw [List.mem_singleton.1 hq', hqv]
    exact ⟨hrl, by simp, fun x hx => by rw [List.mem_singleton.1 hx]; exact ⟨by decide, by decide⟩⟩
  · show (s.l 3).length ≤ _
    rw [hl3]; simp
  · show POk (mpS s 0 [])
    rw [hmp]; exact hPO
  · have hrn' : Runs (mpS s 0 []) exE (initM (mpS s 0 []) exE (firsts [q.pt])) N er m' := hrn'
    rw [hmp, show q.pt = ⟨1, [7]⟩ by rw [← hqk, ← hqv], ex_init] at hrn'
    exact hbad H' N er m' (hE.trans hE' fun _ _ h => h) hrn' hne
  · have hrn' : Runs (mpS s 0 []) exE (initM (mpS s 0 []) exE (firsts [q.pt])) N 0 m' := hrn'
    rw [hmp, show q.pt = ⟨1, [7]⟩ by rw [← hqk, ← hqv], ex_init] at hrn'
    have hps : ps = partsOf q' (Lib.compact ((s.l 3).mergeSort fun a b => decide (a ≤ b))) := hps
    rw [hl3, compact_one] at hps
    exact hok H' N m' vs cs es ps cl q' (hE.trans hE' fun _ _ h => h) hrn' ho.vv ho.vR ho.ev hv hps
theorem out_row {r : Sl × Sl × Sl × Int × Int} {K : Nat → Heap → Prop} (hk : ∀ b H', Ext H H' → Row H' b TQah [slV r.1, slV r.2.1, slV r.2.2.1, .int .i64 r.2.2.2.1, .int .i64 r.2.2.2.2] → H.size ≤ b → K b H') :
    Nw #[.slice none 0 0, .slice none 0 0, .slice none 0 0, .int .i64 0, .int .i64 0] TQah H fun b2 H5 =>
    St ((adr b2).add 0) (.slice r.1.a r.1.len r.1.cap) H5 fun H6 =>
    St ((adr b2).add 1) (.slice r.2.1.a r.2.1.len r.2.1.cap) H6 fun H7 =>
    St ((adr b2).add 2) (.slice r.2.2.1.a r.2.2.1.len r.2.2.1.cap) H7 fun H8 =>
    St ((adr b2).add 3) (.int .i64 r.2.2.2.1) H8 fun H9 =>
    St ((adr b2).add 4) (.int .i64 r.2.2.2.2) H9 fun H10 => K b2 H10 := by
  refine Nw_row (vs := [.slice none 0 0, .slice none 0 0, .slice none 0 0, .int .i64 0, .int .i64 0]) fun b H1 hb hE1 _ hr1 => ?_
  simp only [adr_add]
  refine St_row hr1 (by simp) fun G1 hU1 _ hg1 => St_row hg1 (by simp) fun G2 hU2 _ hg2 => St_row hg2 (by simp) fun G3 hU3 _ hg3 => St_row hg3 (by simp) fun G4 hU4 _ hg4 => St_row hg4 (by simp) fun G5 hU5 _ hg5 => ?_
  have hUU := (((hU1.trans hU2 fun _ _ e => e).trans hU3 fun _ _ e => e).trans hU4 fun _ _ e => e).trans hU5 fun _ _ e => e
  exact hk b G5 (extUpd hE1 (by omega) hUU) hg5 (by omega)
theorem code_ok {code : List Ins} (h : ∀ i ∈ code, 0 ≤ i.1 ∧ i.1 < 100 ∧ 0 ≤ i.2 ∧ i.2 < 100) : ∀ i ∈ code, I64 i.1 ∧ I64 i.2 := fun i hi => by
  have := h i hi
  unfold I64; omega
theorem s_shown {k : Bool → Heap → Prop} (hk : ∀ H', Ext H H' → k true H') : CallT Pg fQen [] (.one (.c .bool)) H k := by
  refine cQeg ?_
  unfold vQeg
  -- the first
  refine Nw_row (vs := cA.flatMap insV) fun b1 H1 hb1 hE1 _ hr1 => ?_
  refine ex_Run (code := cA) (code_ok (by decide)) (by decide) hr1 rfl (fun H2 N er m' hE2 hrn hne => absurd ((hrn.unique (run_a _)).2.1) hne) fun H2 N m' vs cs es ps cl q hE2 hrn hvs hvR _ hq hps => ?_
  obtain ⟨_, _, rfl⟩ := hrn.unique (run_a _)
  obtain ⟨p, hp, hpv⟩ : ∃ p : PtP, q = [p] ∧ p.pt = ⟨1, [8]⟩ := by
    have hq : [(⟨1, [8]⟩ : Pt)] = q.map PtP.pt := hq
    cases q with
    | nil => cases hq
    | cons p r =>
      cases r with
      | nil => simp only [List.map_cons, List.map_nil, List.cons.injEq, and_true] at hq; exact ⟨p, rfl, hq.symm⟩
      | cons _ _ => simp at hq
  subst hp
  have hpk : p.kind = 1 := congrArg Pt.kind hpv
  have hpvv : p.vals = [8] := congrArg Pt.vals hpv
  have hps : ps = [p] := by rw [hps]; unfold partsOf; simp [hpk]
  subst hps
  refine out_row (r := (vs, cs, es, 1, 0)) fun b2 H3 hE3 hr3 hz3 => ?_
  have hvs3 := hvs.ext hE3
  have hv3 := (hvR p (by simp)).ext hE3
  -- the second
  refine Nw_row (vs := cB.flatMap insV) fun b4 H4 hb4 hE4 _ hr4 => ?_
  obtain ⟨Nb, mb, hrb⟩ := run_b (newS 0 3 0 5) 64 [] 0 rfl rfl
  refine ex_Run (code := cB) (code_ok (by decide)) (by decide) hr4 rfl (fun H5 N er m' hE5 hrn hne => ?_) fun H2 N m' vs cs es ps cl q hE2 hrn _ _ _ _ _ => absurd ((hrn.unique hrb).2.1) (by decide)
  obtain ⟨_, rfl, _⟩ := hrn.unique hrb
  refine out_row (r := (⟨none, 0, 0⟩, ⟨none, 0, 0⟩, ⟨none, 0, 0⟩, _, 151)) fun b6 H6 hE6 hr6 hz6 => ?_
  -- the third
  refine Nw_row (vs := cC.flatMap insV) fun b7 H7 hb7 hE7 _ hr7 => ?_
  obtain ⟨Nc, mc, hrc, hsc⟩ := run_c (newS 0 3 0 5) 2000 0 0 rfl (by decide)
  refine ex_Run (code := cC) (code_ok (by decide)) (by decide) hr7 rfl (fun H8 N er m' hE8 hrn hne => ?_) fun H2 N m' vs cs es ps cl q hE2 hrn _ _ _ _ _ => absurd ((hrn.unique hrc).2.1) (by decide)
  obtain ⟨_, rfl, hmc⟩ := hrn.unique hrc
  rw [hmc, hsc]
  refine out_row (r := (⟨none, 0, 0⟩, ⟨none, 0, 0⟩, ⟨none, 0, 0⟩, _, 120)) fun b9 H9 hE9 hr9 hz9 => ?_
  -- the fourth
  refine Nw_row (vs := cD.flatMap insV) fun b10 H10 hb10 hE10 _ hr10 => ?_
  refine ex_Run (code := cD) (code_ok (by decide)) (by decide) hr10 rfl (fun H2 N er m' hE2 hrn hne => absurd ((hrn.unique (run_d _)).2.1) hne) fun H11 N m' vs' cs' es' ps' cl' q' hE11 hrn _ _ hev _ _ => ?_
  obtain ⟨_, _, rfl⟩ := hrn.unique (run_d _)
  refine out_row (r := (vs', cs', es', 0, 0)) fun b12 H12 hE12 hr12 hz12 => ?_
  have hev := hev.ext hE12
  have E912 : Ext H9 H12 := (hE10.trans hE11 fun _ _ h => h).trans hE12 fun _ _ h => h
  have E612 : Ext H6 H12 := (((hE7.trans hE8 fun _ _ h => h).trans hE9 fun _ _ h => h)).trans E912 fun _ _ h => h
  have E312 : Ext H3 H12 := (((hE4.trans hE5 fun _ _ h => h).trans hE6 fun _ _ h => h)).trans E612 fun _ _ h => h
  have E012 : Ext H H12 := (((hE1.trans hE2 fun _ _ h => h).trans hE3 fun _ _ h => h)).trans E312 fun _ _ h => h
  have r2 := E312.row hr3 fun h => h
  have r6 := E612.row hr6 fun h => h
  have r9 := E912.row hr9 fun h => h
  have rvs := VecN.rn ptV_len (by decide) (hvs3.ext E312 : VecN H12 TQai 2 vs ([p].flatMap ptV))
  have rv := (hv3.ext E312)
  rw [hpvv] at rv
  have rev := VecN.rn evV_len (by decide) hev
  simp only [adr_add]
  have c2 : hcell H12 (adr b2) = some (.slice vs.a vs.len vs.cap) := (r2.cell 0).trans rfl
  have c12 : hcell H12 ⟨b12, 2, none⟩ = some (.slice es'.a es'.len es'.cap) := (hr12.cell 2).trans rfl
  have hl1 : vs.len = 1 := rvs.len
  have hl2 : es'.len = 1 := rev.len
  have hl3 : p.sl.len = 1 := rv.len
  have cp : ∀ {k : Addr → Prop}, (∀ a, hcell H12 a = some (.int .i64 1) → hcell H12 (a.add 1) = some (.slice p.sl.a p.sl.len p.sl.cap) → k a) → IxA 2 vs 0 k := fun hk => IxA_rn' ptV_len rvs (by decide) (j := 0) rfl (show 0 < 1 by decide) fun a ha => by
    have ha : hcells H12 a 0 (ptV p) := ha
    exact hk a (by rw [← hpk]; exact ha.1) ha.2.1
  refine Jn_in ?_
  refine Ld_int (n := 0) ((r2.cell 4).trans rfl) ?_
  refine Ld_int (n := 1) ((r2.cell 3).trans rfl) ?_
  refine Ld_sl (s := vs) c2 ?_
  rw [hl1]
  refine Ld_sl (s := vs) c2 (cp fun a ha _ => Ld_int ha ?_)
  refine Ld_sl (s := vs) c2 (cp fun a _ ha => Ld_sl (s := p.sl) ha ?_)
  rw [hl3]
  refine Ld_sl (s := vs) c2 (cp fun a _ ha => Ld_sl (s := p.sl) ha (vec_rdi (vs := [8]) rv (j := 0) rfl (by decide) ?_))
  refine Ld_int (n := 151) ((r6.cell 4).trans rfl) ?_
  refine Ld_int (n := 120) ((r9.cell 4).trans rfl) ?_
  refine Ld_int (n := 2001) ((r9.cell 3).trans rfl) ?_
  refine Ld_sl (s := es') c12 ?_
  rw [hl2]
  refine Ld_sl (s := es') c12 (IxA_rn' evV_len rev (by decide) (j := 0) rfl (show 0 < 1 by decide) fun a ha => ?_)
  have ha : hcells H12 a 0 (evV ⟨0, (5, 1), 1, 2⟩) := ha
  refine ⟨(0, 5, 1, 1, 2), ha, ?_⟩
  exact hk H12 E012
end
end Go.Proofs.YtfpmgpblhhcpgaaGreat
namespace Go.Proofs.YtfpmgpblhhcpgaaGreat.Hc
set_option linter.unusedVariables false
set_option linter.unusedSimpArgs false
set_option maxRecDepth 100000
theorem zcells_rep (z : Array Value) (m : Nat) : zcells z (m * z.size) = ⟨(List.replicate m z.toList).flatten⟩ := by
  apply Array.ext'
  unfold zcells
  simp only [Array.toList_map, Array.toList_range]
  induction m with
  | zero => simp
  | succ m ih =>
    rw [List.replicate_succ', List.flatten_append, ← ih, Nat.succ_mul, List.range_add, List.map_append]
    congr 1
    simp only [List.flatten_cons, List.flatten_nil, List.append_nil, List.map_map]
    apply List.ext_getElem
    · simp
    · intro i h1 h2
      have hi : i < z.size := by simpa using h1
      simp only [List.getElem_map, List.getElem_range, Function.comp]
      rw [show (m * z.size + i) % z.size = i by rw [Nat.mul_comm, Nat.mul_add_mod]; exact Nat.mod_eq_of_lt hi, getElem!_pos z i hi]
      simp
theorem Mks_rep {α : Type} {f : α → List Value} {e : α} {T : TypeId} {bytes n m : Nat} {z : Array Value} {H : Heap} {k : Sl → Heap → Prop} (hz : z.toList = f e) (hn : (f e).length = n) (h1 : m < 9223372036854775808) (hb : (bytes : Int) * m ≤ 2 ^ 48)
    (hk : ∀ b H', b = H.size → Ext H H' → H'.size = H.size + 1 → Row H' b T ((List.replicate m e).flatMap f) → k ⟨some (adr b), m, m⟩ H') : Mks T n bytes z (m : Nat) (m : Nat) H k := by
  unfold Mks
  rw [wrap_i64_id (by omega) (by omega)]
  refine ⟨by omega, by omega, hb, ?_⟩
  rw [Int.toNat_natCast]
  have hs : z.size = n := by rw [← Array.length_toList, hz, hn]
  rw [← hs, zcells_rep, hz, ← List.flatMap_replicate]
  exact hk _ _ rfl (Upd.push _ _ _) (by simp) (get_push_new _ _)
theorem flat_dropN {α : Type} {f : α → List Value} {n : Nat} (hf : ∀ e, (f e).length = n) : ∀ {es : List α} {i : Nat}, (es.flatMap f).drop (i * n) = (es.drop i).flatMap f
  | es, 0 => by simp
  | [], i + 1 => by simp
  | e :: es, i + 1 => by
    rw [List.flatMap_cons, List.drop_succ_cons, ← flat_dropN hf (es := es) (i := i), show (i + 1) * n = (f e).length + i * n by rw [hf, Nat.succ_mul, Nat.add_comm], ← List.drop_drop, List.drop_left]
theorem Cpy_rn {α : Type} {f : α → List Value} {n : Nat} (hf : ∀ e, (f e).length = n) (hone : ∀ e, ∀ w ∈ f e, w.oneCell' = true) {T : TypeId} {b c : Nat} {x : Sl} {xs ys : List α} {H : Heap} {k : Int → Heap → Prop} (hr : Row H b T (ys.flatMap f)) (hx : RN f n H x xs) (hl : xs.length ≤ ys.length)
    (hk : ∀ H', Upd (· = b) H H' → H'.size = H.size → Row H' b T ((xs ++ ys.drop xs.length).flatMap f) → k xs.length H') : Cpy n ⟨some (adr b), ys.length, c⟩ x H k := by
  have hm : Nat.min x.len ys.length = xs.length := by rw [hx.len]; exact Nat.min_eq_left hl
  refine ⟨xs.flatMap f, hx.rd, fun _ => ?_, ?_⟩
  · dsimp only; rw [hm, flat_len hf]
  · dsimp only
    rw [hm]
    refine StL_row hr (by rw [flat_len hf, flat_len hf]; have := Nat.mul_le_mul_right n hl; omega) (fun w hw => ?_) fun H' hU hs hr' => ?_
    · obtain ⟨e, _, he⟩ := List.mem_flatMap.1 hw
      exact hone e w he
    · refine hk H' (hU.mono fun _ _ h => h.1) hs ?_
      rw [List.flatMap_append, ← flat_dropN hf]
      simpa [flat_len hf] using hr'
theorem ints_flat (xs : List Int) : ints xs = xs.flatMap fun x : Int => [Value.int .i64 x] := by induction xs <;> simp_all [ints]
theorem RL.rn1 {H : Heap} {s : Sl} {xs : List Int} (h : RL (Value.int .i64) H s xs) : RN (fun x : Int => [Value.int .i64 x]) 1 H s xs :=
  ⟨by rw [← ints_flat]; exact h.rd, h.len, h.cap⟩
theorem fill_set {α : Type} {ys t : List α} {i : Nat} (hi : i < t.length) (hl : ys.length = t.length) (h : ys.take i = t.take i) : (ys.set i t[i]).take (i + 1) = t.take (i + 1) := by
  rw [List.take_add_one, List.take_add_one, List.take_set_of_le (Nat.le_refl _), h, List.getElem?_set_self (by omega), List.getElem?_eq_getElem hi]
theorem fill_ints {b : Nat} {T : TypeId} {m n c : Nat} {v : Int} {xs ys : List Int} {H : Heap} (hr : Row H b T (ints ys)) (hy : ys.length = m) (hx : ys.take n = xs) (hxn : xs.length = n) (hnm : n ≤ m) (hm : m < 2 ^ 62) {k : Heap → Prop}
    (hk : ∀ H', Upd (· = b) H H' → H'.size = H.size → Row H' b T (ints (xs ++ List.replicate (m - n) v)) → k H') :
    LoopT (σ := Int) (fun next3 s3 H17 => Br (decide (s3 < ((⟨some (adr b), m, c⟩ : Sl).len : Int))) (IxA 1 ⟨some (adr b), m, c⟩ s3 fun a6 => St a6 (.int .i64 v) H17 fun H18 => Lt (IntKind.wrap .i64 (s3 + 1)) fun t5 => next3 t5 H18) (k H17)) (n : Nat) H := by
  have ht : (xs ++ List.replicate (m - n) v).length = m := by rw [List.length_append, List.length_replicate]; omega
  refine LoopT.mk (fun s H' => ∃ (i : Nat) (zs : List Int), s = i ∧ n ≤ i ∧ i ≤ m ∧ Upd (· = b) H H' ∧ H'.size = H.size ∧ Row H' b T (ints zs) ∧ zs.length = m ∧ zs.take i = (xs ++ List.replicate (m - n) v).take i) (fun s _ => m - s.toNat)
    ⟨n, ys, rfl, Nat.le_refl _, hnm, .refl _ _, rfl, hr, hy, by rw [hx, ← hxn, List.take_left]⟩ ?_
  rintro next _ H1 ⟨i, zs, rfl, h1, h2, hU1, hz1, hr1, hzl, hze⟩ hnext
  refine Br_dec (fun hlt => ?_) fun hge => ?_
  · have hi : i < m := by dsimp only at hlt; omega
    refine IxA_adr (by omega) (by dsimp only at hlt; omega) ?_
    rw [Int.toNat_natCast, Nat.mul_one]
    refine St_row hr1 (by rw [List.length_map]; omega) fun H2 hU2 hz2 hr2 => ?_
    rw [ints_set] at hr2
    refine Lt.mk (u := ((i + 1 : Nat) : Int)) (by rw [wrap_i64_id] <;> omega) (hnext _ _ ⟨i + 1, _, rfl, by omega, by omega, hU1.trans hU2 fun _ _ e => e, hz2.trans hz1, hr2, by rw [List.length_set]; exact hzl, ?_⟩ (by omega))
    have e : (xs ++ List.replicate (m - n) v)[i]'(by omega) = v := by rw [List.getElem_append_right (by omega)]; simp
    have := fill_set (t := xs ++ List.replicate (m - n) v) (ys := zs) (i := i) (by omega) (by omega) hze
    rwa [e] at this
  · have hi : i = m := by dsimp only at hge; omega
    rw [List.take_of_length_le (by omega), List.take_of_length_le (by omega)] at hze
    subst hze
    exact hk H1 hU1 hz1 hr1
end Go.Proofs.YtfpmgpblhhcpgaaGreat.Hc
