/-
  Machine: Run, Count and Long, by the document.
-/
import Derived.Test.YtfpmgpblhhcpgaaGreatNK
import Derived.Test.YtfpmgpblhhcpgaaGreatVLawA
import Derived.Test.YtfpmgpblhhcpgaaGreatInD
import Derived.Test.YtfpmgpblhhcpgaaGreatMB
import Derived.Test.YtfpmgpblhhcpgaaGreatVA
namespace Go.Proofs.YtfpmgpblhhcpgaaGreat
set_option linter.unusedVariables false
set_option linter.unusedSimpArgs false
set_option maxRecDepth 100000
section
open Hc Hc.Vf Hc.Mc Hc.Dice
variable {H : Heap}
theorem init_okD {P : MP} {E : En} {ps : List Pt} (h : ∀ p ∈ ps, All64 p.vals) : MOk P (initM P E ps) where
  low := fun a ha => by cases ha
  top := ⟨.inl rfl, by simp [initM], (fun x hx => by cases hx), locals_len _ _ (by simp), locals_64 (fun x hx => by cases hx), by dsimp only [initM]; omega⟩
  lowl := Nat.zero_le _
  vals := h
  dice := newS_bd _ _ _ _
  since := by dsimp only [initM]; omega
  steps := by dsimp only [initM]; omega
  kept := Nat.zero_le _
  keptK := fun p hp => by cases hp
  cmds := Nat.zero_le _
  evs := Nat.zero_le _
theorem d_turn {B : Heap} {x : DG} {fs : List Rou} {ins : List (Int × Int × Int)} {P : MP} {E : En} (h : DocR B H x) (hc : CtxR B x.g.pF x.g.s x.g.inS fs ins) (hes : x.es.length ≤ 2 ^ 60) (hmp : dmpOf x.g fs = P) (hen : denOf x.g ins = E) (hP : POk P) (hE : EOk E) (hM : MOk P x.ms) (hov : x.g.ov = false) {k : Int → Heap → Prop}
    (hbad : ∀ H' x' e n m', DocR B H' x' → x'.b = x.b → Runs P E x.ms n e m' → e ≠ 0 → x'.g.st = m'.steps → k e H')
    (hgo : ∀ H' x', DocR B H' x' → x'.b = x.b → dstat x'.g = dstat x.g → x'.es.length = x.es.length → MOk P x'.ms → (∀ n e m', Runs P E x'.ms n e m' → Runs P E x.ms (n + 1) e m') →
      ((2001 - x'.g.st) * 40001 + (40000 - x'.g.si)).toNat < ((2001 - x.g.st) * 40001 + (40000 - x.g.si)).toNat → k 0 H') :
    CallT Pg f_R_run_one [.pointer (some (adr x.b))] IntR H k := by
  subst hmp hen
  refine s_rone (ins := ins) h hc hes hP hM fun H' x' hp => ?_
  have hov' : x.ms.over = false := hov
  by_cases h0 : (stepM (dmpOf x.g fs) (denOf x.g ins) x.ms).1 = 0
  · rw [h0]
    have hms := hp.ms h0
    have hrdy : ready (dmpOf x.g fs) x.ms = 0 := by
      unfold stepM at h0
      split at h0
      · assumption
      · rename_i hne; exact absurd h0 hne
    have hR := ready_iff hrdy
    have hstep : stepM (dmpOf x.g fs) (denOf x.g ins) x.ms = does (dmpOf x.g fs) (denOf x.g ins) x.ms x.ms.top.fn.code[x.ms.top.nx.toNat]! := by unfold stepM; rw [if_pos hrdy]
    rw [hstep] at h0 hms
    rcases hM.does hP hE hR with ⟨_, hmo⟩ | ⟨h120, _⟩
    · rw [← hms] at hmo
      refine hgo H' x' hp.doc hp.b hp.st hp.el hmo (fun n e m' hr => .step hov' (by rw [hstep]; exact h0) (by rw [hstep, ← hms]; exact hr)) ?_
      have hme := does_meas h0
      rw [← hms] at hme
      have hme : (x'.g.st = x.g.st ∧ x'.g.si = x.g.si + 1) ∨ (x'.g.st = x.g.st + 1 ∧ x'.g.si = 0) := hme
      have h1 : 0 ≤ x.g.st ∧ x.g.st ≤ 2000 := hM.steps
      have h2 : 0 ≤ x'.g.st ∧ x'.g.st ≤ 2000 := hmo.steps
      have h3 : 0 ≤ x.g.si ∧ x.g.si ≤ 40000 := hM.since
      have h4 : 0 ≤ x'.g.si ∧ x'.g.si ≤ 40000 := hmo.since
      omega
    · rw [h0] at h120; cases h120
  · exact hbad H' x' _ 1 _ hp.doc hp.b (.bad hov' h0) h0 hp.steps
structure RunIn (H : Heap) (p : Sl × Sl) (ss : List Sy) (n : Int) (e : EnV) (ps0 : List PtP) (fs : List Rou) (ins : List (Int × Int × Int)) : Prop where
  h_ss : RN sysV 8 H p.1 ss
  h_n : 0 ≤ n ∧ n < (ss.length : Int)
  h_cx : CtxR H p.2 (ss[n.toNat]!) e.inS fs ins
  h_co : CodeR H (ss[n.toNat]!).rou
  h_ps : RN ptV 2 H e.rp ps0
  h_pr : ∀ q ∈ ps0, RL (Value.int .i64) H q.sl q.vals ∧ q.vals.length ≤ 2 ^ 44 ∧ All64 q.vals
  h_pl : ps0.length ≤ 2 ^ 42
  h_wl : ((ss[n.toNat]!).l 3).length ≤ 2 ^ 44
  h_P : POk (dmpS (ss[n.toNat]!) n fs)
  h_E : EOk (enS e ins)
theorem RunIn.ext {H' : Heap} {p : Sl × Sl} {ss : List Sy} {n : Int} {e : EnV} {ps0 : List PtP} {fs : List Rou} {ins : List (Int × Int × Int)} (h : RunIn H p ss n e ps0 fs ins) (hE : Ext H H') : RunIn H' p ss n e ps0 fs ins :=
  ⟨h.h_ss.ext hE, h.h_n, h.h_cx.ext hE, h.h_co.ext hE, h.h_ps.ext hE, fun q hq => ⟨(h.h_pr q hq).1.ext hE, (h.h_pr q hq).2⟩, h.h_pl, h.h_wl, h.h_P, h.h_E⟩
theorem mp_of {g : DunG} {p : Sl × Sl} {s : Sy} {n : Int} {e : EnV} (hst : dstat g = (p.1, p.2, s, n, e.fr, e.sd, e.en, e.inS, e.ix, e.gn, e.rp, g.ps, g.dp)) (fs : List Rou) (ins : List (Int × Int × Int)) : dmpOf g fs = dmpS s n fs ∧ denOf g ins = enS e ins ∧ g.pF = p.2 ∧ g.s = s ∧ g.inS = e.inS := by
  simp only [dstat, Prod.mk.injEq] at hst
  obtain ⟨_, h2, h3, h4, h5, h6, _, h8, h9, h10, _⟩ := hst
  refine ⟨?_, ?_, h2, h3, h8⟩
  · show MP.mk (fs.map fnOf) (fnOf g.s.rou) (g.s.l 2) (g.s.l 3) g.n (2 ^ 63) = _
    rw [h3, h4]
  · show En.mk g.fr g.sd g.ix g.gn ins = _
    rw [h5, h6, h9, h10]
theorem s_Count {p : Sl × Sl} {ss : List Sy} {n : Int} {e : EnV} {ps0 : List PtP} {fs : List Rou} {ins : List (Int × Int × Int)} {most : Int} (hm : most < 2 ^ 62) (hss : RN sysV 8 H p.1 ss) (hi : 0 ≤ n ∧ n < (ss.length : Int) → RunIn H p ss n e ps0 fs ins) {k : Int → Heap → Prop} (hk : ∀ r H', Ext H H' → k r H') :
    CallT Pg f_R_Count [.agg #[.slice p.1.a p.1.len p.1.cap, .slice p.2.a p.2.len p.2.cap], .int .i64 n, envA e, .int .i64 most] IntR H k := by
  refine c_R_Count p n (e.fr, e.sd, e.en, e.inS, e.ix, e.gn, e.rp) most ?_
  unfold v_R_Count
  have hsl := hss.len
  refine Nw_row (vs := [slV p.1, slV p.2]) fun b1 H1 hb1 hE1 hz1 hr1 => ?_
  refine Nw_row (vs := envL e) fun b2 H2 hb2 hE2 hz2 hr2 => ?_
  have hE02 : Ext H H2 := hE1.trans hE2 fun _ _ h => h
  have hr1 := hE2.row hr1 fun h => h
  refine Jn.mk (fun j H' => H2 = H' ∧ j = decide (¬ (0 ≤ n ∧ n < (ss.length : Int)))) (fun kk hkk => Br_dec (fun h => hkk _ _ ⟨rfl, (decide_eq_true (by omega)).symm⟩) fun h => Ld_sl (s := p.1) ((hr1.cell 0).trans rfl) (hkk _ _ ⟨rfl, decide_eq_decide.2 (by omega)⟩)) ?_
  rintro j _ ⟨rfl, rfl⟩
  refine Br_dec (fun _ => hk _ _ hE02) fun hn => ?_
  have hi := (hi (Decidable.not_not.1 hn)).ext hE02
  refine ⟨p, hr1.rd_all, ⟨(e.fr, e.sd, e.en, e.inS, e.ix, e.gn, e.rp), hr2.rd_all, ?_⟩⟩
  refine s_begun (fs := fs) (ins := ins) (e := e) hi.h_ss hi.h_n hi.h_co hi.h_ps (fun q hq => ⟨(hi.h_pr q hq).1, (hi.h_pr q hq).2.1⟩) hi.h_pl fun H3 x hx hel hst hov hms => ?_
  obtain ⟨mp, en, e1, e2, e3⟩ := mp_of hst fs ins
  have hcx : CtxR H2 x.g.pF x.g.s x.g.inS fs ins := by rw [e1, e2, e3]; exact hi.h_cx
  have hM : MOk (dmpS (ss[n.toNat]!) n fs) x.ms := by
    rw [hms]; exact init_okD fun q hq => by
      obtain ⟨q', hq', rfl⟩ := List.mem_map.1 hq
      exact (hi.h_pr q' hq').2.2
  have hpl := hi.h_pl
  refine LoopT.mk (fun c H' => 0 ≤ c ∧ (c ≤ most ∨ c = 0) ∧ ∃ y, DocR H2 H' y ∧ y.b = x.b ∧ dstat y.g = dstat x.g ∧ y.es.length = x.es.length ∧ MOk (dmpS (ss[n.toNat]!) n fs) y.ms) (fun c _ => (most - c).toNat) ⟨by omega, .inr rfl, x, hx, rfl, rfl, rfl, hM⟩ ?_
  rintro next c H4 ⟨hc0, hcm, y, hy, hyb, hys, hye, hym⟩ hnext
  simp only [NilCk_some, adr_add]
  have cov : hcell H4 ⟨x.b, 28, none⟩ = some (.bool y.g.ov) := by rw [← hyb]; exact (hy.run.1.cell 28).trans rfl
  have hE4 : Ext H H4 := hE02.trans hy.base fun _ _ h => h
  refine Jn.mk (fun j H' => H4 = H' ∧ (j = true → c < most ∧ y.g.ov = false)) (fun kk hkk => Br_dec (fun h => Ld_bool cov (hkk _ _ ⟨rfl, fun e => ⟨h, by simpa using e⟩⟩)) fun h => hkk _ _ ⟨rfl, fun e => by cases e⟩) ?_
  rintro j _ ⟨rfl, hj⟩
  refine Br.mk (fun hje => ?_) fun _ => hk _ _ hE4
  obtain ⟨hlt, hov'⟩ := hj hje
  refine Lt.mk (u := c + 1) (by rw [wrap_i64_id] <;> omega) ?_
  have hs : dstat y.g = (p.1, p.2, ss[n.toNat]!, n, e.fr, e.sd, e.en, e.inS, e.ix, e.gn, e.rp, y.g.ps, y.g.dp) := by
    have h1 : dstat y.g = (p.1, p.2, ss[n.toNat]!, n, e.fr, e.sd, e.en, e.inS, e.ix, e.gn, e.rp, x.g.ps, x.g.dp) := hys.trans hst
    have h2 := h1
    simp only [dstat, Prod.mk.injEq] at h2
    obtain ⟨_, _, _, _, _, _, _, _, _, _, _, g1, g2⟩ := h2
    rw [h1, g1, g2]
  obtain ⟨mp', en', f1, f2, f3⟩ := mp_of hs fs ins
  have hcy : CtxR H2 y.g.pF y.g.s y.g.inS fs ins := by rw [f1, f2, f3]; exact hi.h_cx
  rw [← hyb]
  refine d_turn (ins := ins) hy hcy (by omega) mp' en' hi.h_P hi.h_E hym hov' (fun H5 y' er N m' hy' _ _ hne _ => ?_) fun H5 y' hy' hb' hs' he' hm' _ _ => ?_
  · exact Br.mk (fun _ => hk _ _ (hE02.trans hy'.base fun _ _ h => h)) fun e => absurd (by simpa using e) hne
  · exact hnext _ _ ⟨by omega, .inl (by omega), y', hy', hb'.trans hyb, hs'.trans hys, he'.trans hye, hm'⟩ (by omega)
theorem s_Long {p : Sl × Sl} {ss : List Sy} {n : Int} {e : EnV} {ps0 : List PtP} {fs : List Rou} {ins : List (Int × Int × Int)} {most : Int} (hm : most < 2 ^ 62) (hss : RN sysV 8 H p.1 ss) (hi : 0 ≤ n ∧ n < (ss.length : Int) → RunIn H p ss n e ps0 fs ins) {k : Bool → Heap → Prop} (hk : ∀ r H', Ext H H' → k r H') :
    CallT Pg f_R_Long [.agg #[.slice p.1.a p.1.len p.1.cap, .slice p.2.a p.2.len p.2.cap], .int .i64 n, envA e, .int .i64 most] (.one (.c .bool)) H k := by
  refine c_R_Long p n (e.fr, e.sd, e.en, e.inS, e.ix, e.gn, e.rp) most ?_
  unfold v_R_Long
  refine Nw_row (vs := [slV p.1, slV p.2]) fun b1 H1 hb1 hE1 hz1 hr1 => ?_
  refine Nw_row (vs := envL e) fun b2 H2 hb2 hE2 hz2 hr2 => ?_
  have hE02 : Ext H H2 := hE1.trans hE2 fun _ _ h => h
  have hr1 := hE2.row hr1 fun h => h
  refine ⟨p, hr1.rd_all, ⟨(e.fr, e.sd, e.en, e.inS, e.ix, e.gn, e.rp), hr2.rd_all, ?_⟩⟩
  exact s_Count (e := e) (ps0 := ps0) (fs := fs) (ins := ins) hm (hss.ext hE02) (fun h => (hi h).ext hE02) fun r H3 hE3 => hk _ _ (hE02.trans hE3 fun _ _ h => h)
theorem s_rRun {p : Sl × Sl} {ss : List Sy} {n : Int} {e : EnV} {ps0 : List PtP} {fs : List Rou} {ins : List (Int × Int × Int)} (hi : RunIn H p ss n e ps0 fs ins) {k : Sl × Sl × Sl × Int × Int → Heap → Prop}
    (hbad : ∀ H' N er m', Ext H H' → Runs (dmpS (ss[n.toNat]!) n fs) (enS e ins) (initM (dmpS (ss[n.toNat]!) n fs) (enS e ins) (ps0.map PtP.pt)) N er m' → er ≠ 0 → k (⟨none, 0, 0⟩, ⟨none, 0, 0⟩, ⟨none, 0, 0⟩, m'.steps, er) H')
    (hok : ∀ H' N m' vs cs es (ps : List PtP) (cl : List CmP) (q : List PtP), Ext H H' → Runs (dmpS (ss[n.toNat]!) n fs) (enS e ins) (initM (dmpS (ss[n.toNat]!) n fs) (enS e ins) (ps0.map PtP.pt)) N 0 m' → VecN H' T_api_Part 2 vs (ps.flatMap ptV) → (∀ q ∈ ps, Vec H' T_int64 q.sl (ints q.vals)) →
      VecN H' T_api_Command 6 cs (cl.flatMap cmV) → (∀ q ∈ cl, Vec H' T_int64 q.vsl (ints q.vals) ∧ VecN H' T_api_Part 2 q.psl (q.parts.flatMap ptV) ∧ ∀ p ∈ q.parts, Vec H' T_int64 p.sl (ints p.vals)) → VecN H' T_api_Event 5 es (m'.evs.flatMap evV) →
      m'.cmds = cl.map CmP.cm → m'.vals = q.map PtP.pt → ps = partsOf q (Lib.compact (((ss[n.toNat]!).l 3).mergeSort fun a b => decide (a ≤ b))) → k (vs, cs, es, m'.steps, 0) H') :
    CallT Pg f_R_Run [.agg #[.slice p.1.a p.1.len p.1.cap, .slice p.2.a p.2.len p.2.cap], .int .i64 n, envA e] RunT H k := by
  refine c_R_Run p n (e.fr, e.sd, e.en, e.inS, e.ix, e.gn, e.rp) ?_
  unfold v_R_Run
  have hsl := hi.h_ss.len
  have hn := hi.h_n
  refine Nw_row (vs := [slV p.1, slV p.2]) fun b1 H1 hb1 hE1 hz1 hr1 => ?_
  refine Nw_row (vs := envL e) fun b2 H2 hb2 hE2 hz2 hr2 => ?_
  refine Nw_row (vs := [.slice none 0 0, .slice none 0 0, .slice none 0 0, .int .i64 0, .int .i64 0]) fun b3 H3 hb3 hE3 hz3 hr3 => ?_
  have hE03 : Ext H H3 := (hE1.trans hE2 fun _ _ h => h).trans hE3 fun _ _ h => h
  have hr1 := (hE2.trans hE3 fun _ _ h => h).row hr1 fun h => h
  have hr2 := hE3.row hr2 fun h => h
  refine Jn.mk (fun j H' => H3 = H' ∧ j = false) (fun kk hkk => ?_) ?_
  · exact Br_dec (fun h => by omega) fun h => Ld_sl (s := p.1) ((hr1.cell 0).trans rfl) (hkk _ _ ⟨rfl, decide_eq_false (by omega)⟩)
  rintro j _ ⟨rfl, rfl⟩
  rw [Br_false]
  have hi3 := hi.ext hE03
  refine ⟨p, hr1.rd_all, ⟨(e.fr, e.sd, e.en, e.inS, e.ix, e.gn, e.rp), hr2.rd_all, ?_⟩⟩
  refine s_begun (fs := fs) (ins := ins) (e := e) hi3.h_ss hi3.h_n hi3.h_co hi3.h_ps (fun q hq => ⟨(hi3.h_pr q hq).1, (hi3.h_pr q hq).2.1⟩) hi3.h_pl fun H4 x hx hel hst hov hms => ?_
  have hM : MOk (dmpS (ss[n.toNat]!) n fs) x.ms := by
    rw [hms]; exact init_okD fun q hq => by
      obtain ⟨q', hq', rfl⟩ := List.mem_map.1 hq
      exact (hi.h_pr q' hq').2.2
  have hpl := hi.h_pl
  rw [← hms] at hbad hok
  refine LoopT.ghost (fun m _ H' => ∃ y, m = ((2001 - y.g.st) * 40001 + (40000 - y.g.si)).toNat ∧ DocR H3 H' y ∧ y.b = x.b ∧ dstat y.g = dstat x.g ∧ y.es.length = x.es.length ∧ MOk (dmpS (ss[n.toNat]!) n fs) y.ms ∧
      (∀ N er m', Runs (dmpS (ss[n.toNat]!) n fs) (enS e ins) y.ms N er m' → ∃ N', Runs (dmpS (ss[n.toNat]!) n fs) (enS e ins) x.ms N' er m')) _ ⟨x, rfl, hx, rfl, rfl, rfl, hM, fun N er m' h => ⟨N, h⟩⟩ ?_
  rintro next m _ H5 ⟨y, rfl, hy, hyb, hys, hye, hym, hyr⟩ hnext
  simp only [NilCk_some, adr_add, mk_add]
  have hs : dstat y.g = (p.1, p.2, ss[n.toNat]!, n, e.fr, e.sd, e.en, e.inS, e.ix, e.gn, e.rp, y.g.ps, y.g.dp) := by
    have h1 : dstat y.g = (p.1, p.2, ss[n.toNat]!, n, e.fr, e.sd, e.en, e.inS, e.ix, e.gn, e.rp, x.g.ps, x.g.dp) := hys.trans hst
    have h2 := h1
    simp only [dstat, Prod.mk.injEq] at h2
    obtain ⟨_, _, _, _, _, _, _, _, _, _, _, g1, g2⟩ := h2
    rw [h1, g1, g2]
  obtain ⟨mp', en', f1, f2, f3⟩ := mp_of hs fs ins
  have hcy : CtxR H3 y.g.pF y.g.s y.g.inS fs ins := by rw [f1, f2, f3]; exact hi3.h_cx
  have ro : ∀ {H'}, Ext H3 H' → Row H' b3 T_api_Outcome [.slice none 0 0, .slice none 0 0, .slice none 0 0, .int .i64 0, .int .i64 0] := fun h => h.row hr3 fun h => h
  have hz03 : H.size ≤ b3 := by have := hE1.size; have := hE2.size; omega
  rw [← hyb]
  refine Ld_bool (n := y.g.ov) ((hy.run.1.cell 28).trans rfl) (Br.mk (fun hov => ?_) fun hov => ?_)
  · have hov : y.g.ov = false := by simpa using hov
    refine d_turn (ins := ins) hy hcy (by omega) mp' en' hi.h_P hi.h_E hym hov (fun H6 y' er N m' hy' hb' hrn hne hst' => ?_) fun H6 y' hy' hb' hs' he' hm' hr' hlt => ?_
    · have hbn : (er != 0) = true := by simp [hne]
      rw [hbn, Br_true]
      obtain ⟨N', hN'⟩ := hyr N er m' hrn
      refine Ld_int (n := y'.g.st) (by have := hy'.run.1; rw [hb'] at this; exact (this.cell 26).trans rfl) ?_
      refine St_row (ro hy'.base) (by simp) fun G1 hU1 _ hg1 => St_row hg1 (by simp) fun G2 hU2 _ hg2 => St_row hg2 (by simp) fun G3 hU3 _ hg3 => St_row hg3 (by simp) fun G4 hU4 _ hg4 => St_row hg4 (by simp) fun G5 hU5 _ hg5 => ?_
      refine ⟨(⟨none, 0, 0⟩, ⟨none, 0, 0⟩, ⟨none, 0, 0⟩, y'.g.st, er), hg5.rd_all, ?_⟩
      rw [hst']
      have hUU := (((hU1.trans hU2 fun _ _ e => e).trans hU3 fun _ _ e => e).trans hU4 fun _ _ e => e).trans hU5 fun _ _ e => e
      exact hbad G5 N' er m' (extUpd (b := b3) (hE03.trans hy'.base fun _ _ h => h) hz03 hUU) hN' hne
    · have hbn : ((0 : Int) != 0) = false := by decide
      rw [hbn, Br_false]
      exact hnext _ _ _ hlt ⟨y', rfl, hy', hb'.trans hyb, hs'.trans hys, he'.trans hye, hm', fun N er m' hrn => hyr _ _ _ (hr' N er m' hrn)⟩
  · have hov : y.g.ov = true := by simpa using hov
    obtain ⟨N, hN⟩ := hyr 0 0 y.ms (.over hov)
    refine s_rvalues hy hcy (by omega) (by rw [f2]; exact hi.h_wl) fun r H13 hE13' hv13 hf13 => ?_
    rw [f2] at hv13
    have h13 := hy.ext hE13'
    refine St_row h13.run.1 (by simp) fun G0 hU0 _ hg0 => ?_
    have cells : hcells G0 ⟨y.b, 23, none⟩ 0 [slV r, slV y.g.cs, slV y.g.es, .int .i64 y.g.st, .int .i64 0] := by
      rw [hcells_iff]
      intro o ho
      have ho : o < 5 := ho
      rw [mk_add, hg0.cell]
      match o, ho with
      | 0, _ => rfl
      | 1, _ => rfl
      | 2, _ => rfl
      | 3, _ => rfl
      | 4, _ => rfl
    refine ⟨(r, y.g.cs, y.g.es, y.g.st, 0), cells, ?_⟩
    have b3b : ¬ b3 = y.b := by have := hy.run.2.1; have := hr3.lt; omega
    have hr13 : Row G0 b3 T_api_Outcome _ := hU0.row (ro h13.base) b3b
    refine St_row hr13 (by simp) fun G1 hU1 _ hg1 => St_row hg1 (by simp) fun G2 hU2 _ hg2 => St_row hg2 (by simp) fun G3 hU3 _ hg3 => St_row hg3 (by simp) fun G4 hU4 _ hg4 => St_row hg4 (by simp) fun G5 hU5 _ hg5 => ?_
    refine ⟨(r, y.g.cs, y.g.es, y.g.st, 0), hg5.rd_all, ?_⟩
    have hUU : Upd (· = b3) G0 G5 := (((hU1.trans hU2 fun _ _ e => e).trans hU3 fun _ _ e => e).trans hU4 fun _ _ e => e).trans hU5 fun _ _ e => e
    have hU : Upd (fun z => z = y.b ∨ z = b3) H13 G5 := (hU0.mono fun _ _ e => .inl e).trans hUU fun _ _ e => .inr e
    have hrb := h13.run.1
    have hrb3 := ro h13.base
    have vu : ∀ {sl : Sl} {vs : List Value}, Vec H13 T_int64 sl vs → Vec G5 T_int64 sl vs := fun hv => hv.upd hU fun c hc e => e.elim (hv.ne hc hrb (by decide)) (hv.ne hc hrb3 (by decide))
    have vn : ∀ {sl : Sl} {T : TypeId} {m : Nat} {vs : List Value}, T ≠ T_hindcastref16_run → T ≠ T_api_Outcome → VecN H13 T m sl vs → VecN G5 T m sl vs := fun hT hT2 hv => hv.upd hU fun c hc e => e.elim (hv.ne hc hrb hT) (hv.ne hc hrb3 hT2)
    have hE5 : Ext H G5 := (hE03.trans h13.base fun _ _ h => h).trans hU fun z hz e => by
      have := hy.run.2.1; have := hE03.size
      rcases e with e | e <;> omega
    have hesr : ∀ {z : PtP}, z ∈ partsOf y.es (Lib.compact (((ss[n.toNat]!).l 3).mergeSort fun a b => decide (a ≤ b))) → z ∈ y.es := parts_mem
    exact hok G5 N y.ms r y.g.cs y.g.es _ y.cl y.es hE5 hN (vn (by decide) (by decide) hv13) (fun q hq => vu (h13.esR q (hesr hq)).1) (vn (by decide) (by decide) h13.cv.1) (fun q hq => ⟨vu (h13.cR q hq).vs.1, vn (by decide) (by decide) (h13.cR q hq).ps.1, fun p hp => vu ((h13.cR q hq).pt p hp).1⟩) (vn (by decide) (by decide) h13.ev.1) rfl rfl rfl
end
section
open Hc Hc.Vf Hc.Mc Hc.Dice
theorem look_put {k q : Int} {f : Nat} {x : Int} : ∀ {l : List Pt}, (lookV (putV l k f x) q = none ↔ lookV l q = none)
  | [] => Iff.rfl
  | p :: r => by
    unfold putV
    split
    · unfold lookV
      simp only [List.find?_cons]
      cases h : p.kind == q <;> simp
    · unfold lookV
      simp only [List.find?_cons]
      cases h : p.kind == q
      · exact look_put (l := r)
      · simp
theorem put_app {k : Int} {f : Nat} {x : Int} : ∀ {l m : List Pt}, lookV l k ≠ none → putV (l ++ m) k f x = putV l k f x ++ m
  | [], m, h => absurd rfl h
  | p :: r, m, h => by
    simp only [List.cons_append, putV]
    split
    · rfl
    · rename_i hne
      have : lookV r k ≠ none := by
        unfold lookV at h ⊢
        rw [List.find?_cons] at h
        have e : (p.kind == k) = false := by simpa using hne
        rw [e] at h; exact h
      rw [put_app this]; rfl
theorem put_app' {k : Int} {f : Nat} {x : Int} : ∀ {l m : List Pt}, lookV l k = none → putV (l ++ m) k f x = l ++ putV m k f x
  | [], m, h => rfl
  | p :: r, m, h => by
    simp only [List.cons_append, putV]
    unfold lookV at h
    rw [List.find?_cons] at h
    cases e : p.kind == k
    · rw [e] at h
      rw [if_neg (by simpa using e), put_app' (l := r) h]
    · rw [e] at h; cases h
theorem fold_put {k : Int} {f : Nat} {x : Int} : ∀ {r acc : List Pt}, lookV acc k ≠ none → r.foldl addF (putV acc k f x) = putV (r.foldl addF acc) k f x
  | [], _, _ => rfl
  | q :: r, acc, h => by
    simp only [List.foldl_cons]
    unfold addF
    by_cases hq : lookV acc q.kind = none
    · rw [if_pos hq, if_pos (look_put.2 hq), ← put_app h]
      refine fold_put fun e => h ?_
      rw [lookV_app, Option.or_eq_none_iff] at e
      exact e.1
    · rw [if_neg hq, if_neg fun e => hq (look_put.1 e)]
      exact fold_put h
theorem fold_put' {k : Int} {f : Nat} {x : Int} : ∀ {l acc : List Pt}, lookV acc k = none → (putV l k f x).foldl addF acc = putV (l.foldl addF acc) k f x
  | [], acc, h => by
    have := put_app' (f := f) (x := x) (m := []) h
    rw [List.append_nil] at this
    show acc = putV acc k f x
    rw [this]
    show acc = acc ++ []
    rw [List.append_nil]
  | p :: r, acc, h => by
    by_cases e : p.kind = k
    · have hp1 : putV (p :: r) k f x = (⟨p.kind, p.vals.set f x⟩ : Pt) :: r := if_pos e
      have hp : acc ++ [(⟨p.kind, p.vals.set f x⟩ : Pt)] = putV (acc ++ [p]) k f x := by
        rw [put_app' h]
        congr 1
        exact (if_pos e : putV [p] k f x = [(⟨p.kind, p.vals.set f x⟩ : Pt)]).symm
      have e1 : addF acc ⟨p.kind, p.vals.set f x⟩ = acc ++ [(⟨p.kind, p.vals.set f x⟩ : Pt)] := if_pos (by dsimp only; rw [e]; exact h)
      have e2 : addF acc p = acc ++ [p] := if_pos (by rw [e]; exact h)
      rw [hp1, List.foldl_cons, List.foldl_cons, e1, e2, hp]
      refine fold_put fun h2 => ?_
      rw [lookV_app, Option.or_eq_none_iff] at h2
      have := h2.2
      unfold lookV at this
      simp [e] at this
    · have hp1 : putV (p :: r) k f x = p :: putV r k f x := if_neg e
      rw [hp1, List.foldl_cons, List.foldl_cons]
      refine fold_put' ?_
      rw [look_addF, h]
      unfold lookV
      have : (p.kind == k) = false := by simpa using e
      simp [this]
theorem firsts_put (l : List Pt) (k : Int) (f : Nat) (x : Int) : firsts (putV l k f x) = putV (firsts l) k f x := fold_put' rfl
def phi (m : Ms) : Ms := { m with vals := firsts m.vals }
theorem act_phi {P P' : MP} {E : En} {m m1 : Ms} {l : List Int} {op : Nat} {A : Int} (h1 : P.fns = P'.fns) (h2 : P.sysN = P'.sysN) (hg : goal P m.top.fn A = goal P' m.top.fn A) (hv : m1.vals = m.vals) :
    act P E (phi m) (phi m1) l op A = ((act P' E m m1 l op A).1, phi (act P' E m m1 l op A).2) := by
  unfold act
  split
  case h_4 =>
    dsimp only [phi, Ms.push]
    rw [look_firsts]
  case h_5 =>
    dsimp only [phi]
    rw [firsts_put]
  case h_6 =>
    dsimp only [phi]
    rw [hg]
  case h_7 =>
    dsimp only [phi]
    rw [hg]
    by_cases hh : l[0]! = 0
    · rw [if_pos hh, if_pos hh]
    · rw [if_neg hh, if_neg hh]
  case h_8 =>
    dsimp only [phi]
    rw [h1]
    by_cases hh : m.steps + 1 ≤ 2000
    · refine (if_pos hh).trans ?_
      rw [if_pos hh]
    · refine (if_neg hh).trans ?_
      rw [if_neg hh]
  case h_11 =>
    dsimp only [phi]
    by_cases hh : m.steps + 1 ≤ 2000
    · refine (if_pos hh).trans ?_
      rw [if_pos hh]
    · refine (if_neg hh).trans ?_
      rw [if_neg hh]
  case h_12 =>
    dsimp only [phi]
    rw [h2]
  case h_22 =>
    dsimp only [phi, Ms.push]
    rw [look_firsts]
  all_goals first | rfl | (split <;> first | rfl | simp_all)
structure Alike (P P' : MP) : Prop where
  fns : P.fns = P'.fns
  sys : P.sys = P'.sys
  rd : P.reads = P'.reads
  wr : P.writes = P'.writes
  n : P.sysN = P'.sysN
theorem goal_eq {P P' : MP} {f : Fnc} (hl : (f.code.length : Int) ≤ P.lim ∧ (f.code.length : Int) ≤ P'.lim) (A : Int) : goal P f A = goal P' f A := by
  unfold goal
  by_cases h : 0 ≤ A ∧ A < (f.code.length : Int)
  · rw [if_pos ⟨h.1, h.2, by omega⟩, if_pos ⟨h.1, h.2, by omega⟩]
  · rw [if_neg fun g => h ⟨g.1, g.2.1⟩, if_neg fun g => h ⟨g.1, g.2.1⟩]
theorem ready_phi {P P' : MP} (h : Alike P P') (m : Ms) : ready P (phi m) = ready P' m := by
  have hps : P.ps = P'.ps := by unfold MP.ps; rw [h.fns]
  have ha : ∀ i, access P (phi m) i = access P' m i := fun i => by
    unfold access
    by_cases hh : m.low ≠ [] ∧ outerB i.1 = true
    · exact (if_pos hh).trans (if_pos hh).symm
    · refine (if_neg hh).trans (Eq.trans ?_ (if_neg hh).symm)
      unfold accessM
      split
      all_goals first | rfl | skip
      · dsimp only [phi]; unfold fieldOk; rw [look_firsts, h.rd, h.wr]
      · dsimp only [phi]; unfold fieldOk; rw [look_firsts, h.wr]
      · rw [h.fns]; rfl
  unfold ready
  rw [hps]
  simp only [ha]
  rfl
theorem step_phi {P P' : MP} (h : Alike P P') {E : En} {m : Ms} (hl : (m.top.fn.code.length : Int) ≤ P.lim ∧ (m.top.fn.code.length : Int) ≤ P'.lim) : stepM P E (phi m) = ((stepM P' E m).1, phi (stepM P' E m).2) := by
  have hps : P.ps = P'.ps := by unfold MP.ps; rw [h.fns]
  unfold stepM
  rw [ready_phi h]
  by_cases hr : ready P' m = 0
  · rw [if_pos hr, if_pos hr]
    show does P E (phi m) m.top.fn.code[m.top.nx.toNat]! = _
    generalize m.top.fn.code[m.top.nx.toNat]! = i
    unfold does
    dsimp only
    rw [hps]
    have ha : args (phi m) (takes P'.ps i).toNat = args m (takes P'.ps i).toNat := rfl
    have hc : cut (phi m) (takes P'.ps i).toNat = phi (cut m (takes P'.ps i).toNat) := rfl
    rw [ha, hc]
    by_cases hb : isBin i.1 = true
    · rw [if_pos hb, if_pos hb]; rfl
    · rw [if_neg hb, if_neg hb]
      by_cases hu : isUn i.1 = true
      · rw [if_pos hu, if_pos hu]; rfl
      · rw [if_neg hu, if_neg hu]
        exact act_phi h.fns h.n (goal_eq hl _) rfl
  · rw [if_neg hr, if_neg hr]
theorem runs_phi {P P' : MP} (h : Alike P P') {E : En} (hP' : POk P') (hE : EOk E) (hl : ∀ f, (f = P'.sys ∨ f ∈ P'.fns) → (f.code.length : Int) ≤ P.lim ∧ (f.code.length : Int) ≤ P'.lim) {m : Ms} {N : Nat} {er : Int} {m' : Ms} (hr : Runs P' E m N er m') (hM : MOk P' m) : Runs P E (phi m) N er (phi m') := by
  induction hr with
  | over ho => exact .over ho
  | bad ho he =>
    rename_i m
    have hs := step_phi h (E := E) (m := m) (hl _ hM.top.fn)
    have := Runs.bad (P := P) (E := E) (m := phi m) ho (by rw [hs]; exact he)
    rw [hs] at this
    exact this
  | step ho he _ ih =>
    rename_i m _ _ _ _
    have hs := step_phi h (E := E) (m := m) (hl _ hM.top.fn)
    have hM2 : MOk P' (stepM P' E m).2 := by
      have hrdy : ready P' m = 0 := by
        unfold stepM at he
        split at he
        · assumption
        · rename_i hne; exact absurd he hne
      have hst : stepM P' E m = does P' E m m.top.fn.code[m.top.nx.toNat]! := by unfold stepM; rw [if_pos hrdy]
      rw [hst] at he ⊢
      rcases hM.does hP' hE (ready_iff hrdy) with ⟨_, hmo⟩ | ⟨h120, _⟩
      · exact hmo
      · rw [he] at h120; cases h120
    refine .step (m := phi m) ho (by rw [hs]; exact he) ?_
    rw [hs]
    exact ih hM2
end
section
open Hc Hc.Vf Hc.Mc Hc.Dice
variable {H : Heap}
abbrev exP (code : List Ins) : MP := ⟨[], ⟨0, 0, code⟩, [], [1], 0, 2 ^ 40⟩
abbrev exE : En := ⟨3, 0, 5, 1, []⟩
abbrev exS (code : List Ins) (stk : List Int) (nx : Int) (v : Int) (d si st : Int) (evs : List Ev) (ov : Bool) : Ms := ⟨[], ⟨⟨0, 0, code⟩, [], stk, nx⟩, [⟨1, [v]⟩], d, si, st, [], [], evs, ov⟩
abbrev cA : List Ins := [(24, 0), (4, 8), (1, 1), (6, 0), (5, 8), (23, 0)]
abbrev cB : List Ins := [(1, 1), (19, 0)]
abbrev cC : List Ins := [(24, 0), (19, 0)]
abbrev cD : List Ins := [(1, 1), (1, 2), (25, 0), (23, 0)]
theorem ex_init (code : List Ins) : initM (exP code) exE (firsts [⟨1, [7]⟩]) = exS code [] 0 7 (newS 0 3 0 5) 0 0 [] false := rfl
theorem run_a (d : Int) : Runs (exP cA) exE (exS cA [] 0 7 d 0 0 [] false) 6 0 (exS cA [] 6 8 d 5 1 [] true) := by
  refine .step (m := exS cA [] 0 7 d 0 0 [] false) rfl (by rfl) ?_
  refine .step (m := exS cA [] 1 7 d 0 1 [] false) rfl (by rfl) ?_
  refine .step (m := exS cA [7] 2 7 d 1 1 [] false) rfl (by rfl) ?_
  refine .step (m := exS cA [7, 1] 3 7 d 2 1 [] false) rfl (by rfl) ?_
  refine .step (m := exS cA [8] 4 7 d 3 1 [] false) rfl (by rfl) ?_
  refine .step (m := exS cA [] 5 8 d 4 1 [] false) rfl (by rfl) ?_
  exact .over (m := exS cA [] 6 8 d 5 1 [] true) rfl
theorem push_b {stk : List Int} (h : stk.length < 64) {d si : Int} (hs : si < 40000) : stepM (exP cB) exE (exS cB stk 0 7 d si 0 [] false) = (0, exS cB (stk ++ [1]) 1 7 d (si + 1) 0 [] false) := by
  have r : Rdy (exP cB) (exS cB stk 0 7 d si 0 [] false) (1, 1) := ⟨⟨show (0 : Int) ≤ 0 by decide, show (0 : Int) < 2 by decide⟩, rfl, hs, by decide, ⟨by show (0 : Int) ≤ _; omega, by show (stk.length : Int) - 0 + 1 ≤ 64; omega⟩, rfl, rfl⟩
  unfold stepM
  rw [if_pos (ready_of r), r.ins]
  show (0, Ms.push (cut (exS cB stk 0 7 d si 0 [] false) 0) 1) = _
  unfold Ms.push cut
  simp
theorem jump_b {stk : List Int} (h : stk.length ≤ 64) {d si : Int} (hs : si < 40000) : stepM (exP cB) exE (exS cB stk 1 7 d si 0 [] false) = (0, exS cB stk 0 7 d (si + 1) 0 [] false) := by
  have r : Rdy (exP cB) (exS cB stk 1 7 d si 0 [] false) (19, 0) := ⟨⟨show (0 : Int) ≤ 1 by decide, show (1 : Int) < 2 by decide⟩, rfl, hs, by decide, ⟨by show (0 : Int) ≤ _; omega, by show (stk.length : Int) - 0 + 0 ≤ 64; omega⟩, rfl, rfl⟩
  unfold stepM
  rw [if_pos (ready_of r), r.ins]
  have e : does (exP cB) exE (exS cB stk 1 7 d si 0 [] false) (19, 0) = (0, exS cB (stk.take (stk.length - 0)) 0 7 d (si + 1) 0 [] false) := by kernel_rfl
  rw [e]
  simp
theorem full_b {stk : List Int} (h : stk.length = 64) {d si : Int} (hs : si < 40000) : stepM (exP cB) exE (exS cB stk 0 7 d si 0 [] false) = (151, exS cB stk 0 7 d si 0 [] false) := by
  have r : ready (exP cB) (exS cB stk 0 7 d si 0 [] false) = 151 := by
    unfold ready
    refine (if_neg ?_).trans ((if_neg ?_).trans ((if_neg ?_).trans (if_pos (.inr ?_))))
    · show ¬¬((0 : Int) ≤ 0 ∧ (0 : Int) < 2); decide
    · show ¬ si ≥ 40000; omega
    · show ¬ isOpB 1 = false; decide
    · show (stk.length : Int) - 0 + 1 > 64; omega
  unfold stepM
  rw [r]; rfl
theorem run_b (d : Int) : ∀ (n : Nat) (stk : List Int) (si : Int), stk.length + n = 64 → si = 2 * stk.length → ∃ N m', Runs (exP cB) exE (exS cB stk 0 7 d si 0 [] false) N 151 m'
  | 0, stk, si, h, hs => by
    have := Runs.bad (P := exP cB) (E := exE) (m := exS cB stk 0 7 d si 0 [] false) rfl (by rw [full_b (by omega) (by omega)]; show (151 : Int) ≠ 0; decide)
    rw [full_b (by omega) (by omega)] at this
    exact ⟨_, _, this⟩
  | n + 1, stk, si, h, hs => by
    obtain ⟨N, m', hr⟩ := run_b d n (stk ++ [1]) (si + 1 + 1) (by simp; omega) (by simp; omega)
    refine ⟨N + 1 + 1, m', .step (m := exS cB stk 0 7 d si 0 [] false) rfl (by rw [push_b (by omega) (by omega)]) ?_⟩
    rw [push_b (by omega) (by omega)]
    refine .step (m := exS cB (stk ++ [1]) 1 7 d (si + 1) 0 [] false) rfl (by rw [jump_b (by simp; omega) (by omega)]) ?_
    rw [jump_b (by simp; omega) (by omega)]
    exact hr
theorem step_c {d si st : Int} (hs : si < 40000) : stepM (exP cC) exE (exS cC [] 0 7 d si st [] false) = if st + 1 ≤ 2000 then (0, exS cC [] 1 7 d 0 (st + 1) [] false) else (120, exS cC [] 1 7 d (si + 1) (st + 1) [] false) := by
  have r : Rdy (exP cC) (exS cC [] 0 7 d si st [] false) (24, 0) := ⟨⟨show (0 : Int) ≤ 0 by decide, show (0 : Int) < 2 by decide⟩, rfl, hs, by decide, ⟨show (0 : Int) ≤ 0 by decide, show (0 : Int) - 0 + 0 ≤ 64 by decide⟩, rfl, rfl⟩
  unfold stepM
  rw [if_pos (ready_of r), r.ins]
  rfl
theorem jump_c {d st : Int} : stepM (exP cC) exE (exS cC [] 1 7 d 0 st [] false) = (0, exS cC [] 0 7 d 1 st [] false) := by
  have r : Rdy (exP cC) (exS cC [] 1 7 d 0 st [] false) (19, 0) := ⟨⟨show (0 : Int) ≤ 1 by decide, show (1 : Int) < 2 by decide⟩, rfl, show (0 : Int) < 40000 by decide, by decide, ⟨show (0 : Int) ≤ 0 by decide, show (0 : Int) - 0 + 0 ≤ 64 by decide⟩, rfl, rfl⟩
  unfold stepM
  rw [if_pos (ready_of r), r.ins]
  rfl
theorem run_c (d : Int) : ∀ (n : Nat) (si st : Int), st + n = 2000 → si < 40000 → ∃ N m', Runs (exP cC) exE (exS cC [] 0 7 d si st [] false) N 120 m' ∧ m'.steps = 2001
  | 0, si, st, h, hs => by
    have hst : st = 2000 := by omega
    subst hst
    have e := step_c (d := d) (st := 2000) hs
    rw [if_neg (by decide)] at e
    have := Runs.bad (P := exP cC) (E := exE) (m := exS cC [] 0 7 d si 2000 [] false) rfl (by rw [e]; show (120 : Int) ≠ 0; decide)
    rw [e] at this
    exact ⟨_, _, this, rfl⟩
  | n + 1, si, st, h, hs => by
    obtain ⟨N, m', hr, hm⟩ := run_c d n 1 (st + 1) (by omega) (by decide)
    have e := step_c (d := d) (st := st) hs
    rw [if_pos (by omega)] at e
    refine ⟨N + 1 + 1, m', .step (m := exS cC [] 0 7 d si st [] false) rfl (by rw [e]) ?_, hm⟩
    rw [e]
    refine .step (m := exS cC [] 1 7 d 0 (st + 1) [] false) rfl (by rw [jump_c]) ?_
    rw [jump_c]
    exact hr
theorem run_d (d : Int) : Runs (exP cD) exE (exS cD [] 0 7 d 0 0 [] false) 4 0 (exS cD [] 4 7 d 4 0 [⟨0, (5, 1), 1, 2⟩] true) := by
  refine .step (m := exS cD [] 0 7 d 0 0 [] false) rfl (by rfl) ?_
  refine .step (m := exS cD [1] 1 7 d 1 0 [] false) rfl (by rfl) ?_
  refine .step (m := exS cD [1, 2] 2 7 d 2 0 [] false) rfl (by rfl) ?_
  refine .step (m := exS cD [] 3 7 d 3 0 [⟨0, (5, 1), 1, 2⟩] false) rfl (by rfl) ?_
  exact .over (m := exS cD [] 4 7 d 4 0 [⟨0, (5, 1), 1, 2⟩] true) rfl
end
section
open Hc Hc.Vf Hc.Mc Hc.Dice
variable {H : Heap}
theorem row_rl {b : Nat} {T : TypeId} {xs : List Int} (h : Row H b T (ints xs)) {c : Nat} (hc : xs.length ≤ c) : RL (Value.int .i64) H ⟨some (adr b), xs.length, c⟩ xs := ⟨h.rd_all, rfl, hc⟩
theorem row_rn {α : Type} {f : α → List Value} {n : Nat} {b : Nat} {T : TypeId} {xs : List α} (h : Row H b T (xs.flatMap f)) {c : Nat} (hc : xs.length ≤ c) : RN f n H ⟨some (adr b), xs.length, c⟩ xs := ⟨h.rd_all, rfl, hc⟩
abbrev ProgR : RTy := .one (.agg [.sl, .sl])
abbrev EnvR : RTy := .one (.agg [(.int .i64), (.int .i64), (.int .i64), .sl, (.int .i64), (.int .i64), .sl])
theorem s_one {l : Sl} {code : List Ins} {k : Sl × Sl → Heap → Prop}
    (hk : ∀ H' p1 (s : Sy), Ext H H' → RN sysV 8 H' p1 [s] → (∀ q, q < 4 → RL (Value.int .i64) H' (s.s q) (s.l q)) → s.l = (fun q => if q = 3 then [1] else []) → s.rou = ⟨⟨#[115]⟩, 0, 0, l, code⟩ → k (p1, ⟨none, 0, 0⟩) H') :
    CallT Pg f_L_one [.slice l.a l.len l.cap] ProgR H k := by
  refine c_L_one l ?_
  unfold v_L_one
  refine Nw_row (vs := [.slice none 0 0, .slice none 0 0]) fun b1 H1 hb1 hE1 _ hr1 => ?_
  refine Nw_row (vs := ints [1]) fun b2 H2 hb2 hE2 _ hr2 => ?_
  refine Nw_row (vs := [.slice none 0 0, .slice none 0 0, .slice none 0 0, .slice (some (adr b2)) 1 1, .string ⟨#[115]⟩, .int .i64 0, .int .i64 0, .slice l.a l.len l.cap]) fun b3 H3 hb3 hE3 _ hr3 => ?_
  have hE03 := (hE1.trans hE2 fun _ _ h => h).trans hE3 fun _ _ h => h
  have hs1 := hE1.size
  simp only [adr_add]
  refine St_row ((hE2.trans hE3 fun _ _ h => h).row hr1 fun h => h) (by simp) fun H4 hU4 _ hr4 => St_row hr4 (by simp) fun H5 hU5 _ hr5 => ?_
  have hU : Upd (· = b1) H3 H5 := hU4.trans hU5 fun _ _ e => e
  refine ⟨(⟨some (adr b3), 1, 1⟩, ⟨none, 0, 0⟩), hr5.rd_all, ?_⟩
  have r2 := hU.row (hE3.row hr2 fun h => h) fun e => by omega
  have r3 := hU.row hr3 fun e => by omega
  refine hk H5 ⟨some (adr b3), 1, 1⟩ ⟨fun q => if q = 3 then ⟨some (adr b2), 1, 1⟩ else ⟨none, 0, 0⟩, fun q => if q = 3 then [1] else [], ⟨⟨#[115]⟩, 0, 0, l, code⟩⟩ (extUpd hE03 (by omega) hU) ⟨r3.rd_all, rfl, Nat.le_refl _⟩ (fun q hq => ?_) rfl rfl
  by_cases e : q = 3
  · subst e; exact row_rl (xs := [1]) r2 (Nat.le_refl _)
  · show RL _ _ (if q = 3 then _ else _) (if q = 3 then _ else _)
    rw [if_neg e, if_neg e]
    exact RL.nil _ _
theorem s_env {k : Int × Int × Int × Sl × Int × Int × Sl → Heap → Prop} (hk : ∀ H' rp q, Ext H H' → RN ptV 2 H' rp [q] → RL (Value.int .i64) H' q.sl [7] → q.kind = 1 → q.vals = [7] → k (3, 0, 0, ⟨none, 0, 0⟩, 5, 1, rp) H') :
    CallT Pg f_L_env [] EnvR H k := by
  refine c_L_env ?_
  unfold v_L_env
  refine Nw_row (vs := [.int .i64 0, .int .i64 0, .int .i64 0, .slice none 0 0, .int .i64 0, .int .i64 0, .slice none 0 0]) fun b1 H1 hb1 hE1 _ hr1 => ?_
  refine Nw_row (vs := ints [7]) fun b2 H2 hb2 hE2 _ hr2 => ?_
  refine Nw_row (vs := ptV ⟨1, ⟨some (adr b2), 1, 1⟩, [7]⟩) fun b3 H3 hb3 hE3 _ hr3 => ?_
  have hE03 := (hE1.trans hE2 fun _ _ h => h).trans hE3 fun _ _ h => h
  have hs1 := hE1.size
  simp only [adr_add]
  refine St_row ((hE2.trans hE3 fun _ _ h => h).row hr1 fun h => h) (by simp) fun H4 hU4 _ hr4 => St_row hr4 (by simp) fun H5 hU5 _ hr5 => St_row hr5 (by simp) fun H6 hU6 _ hr6 => St_row hr6 (by simp) fun H7 hU7 _ hr7 => ?_
  refine St_row hr7 (by simp) fun H8 hU8 _ hr8 => St_row hr8 (by simp) fun H9 hU9 _ hr9 => St_row hr9 (by simp) fun H10 hU10 _ hr10 => ?_
  have hU : Upd (· = b1) H3 H10 := (((((hU4.trans hU5 fun _ _ e => e).trans hU6 fun _ _ e => e).trans hU7 fun _ _ e => e).trans hU8 fun _ _ e => e).trans hU9 fun _ _ e => e).trans hU10 fun _ _ e => e
  refine ⟨(3, 0, 0, ⟨none, 0, 0⟩, 5, 1, ⟨some (adr b3), 1, 1⟩), hr10.rd_all, ?_⟩
  have r2 := hU.row (hE3.row hr2 fun h => h) fun e => by omega
  have r3 := hU.row hr3 fun e => by omega
  exact hk H10 ⟨some (adr b3), 1, 1⟩ ⟨1, ⟨some (adr b2), 1, 1⟩, [7]⟩ (extUpd hE03 (by omega) hU) ⟨r3.rd_all, rfl, Nat.le_refl _⟩ (row_rl (xs := [7]) r2 (Nat.le_refl _)) rfl rfl
theorem compact_one : Lib.compact (([1] : List Int).mergeSort fun a b => decide (a ≤ b)) = [1] := by
  have h := sortU_ok [1]
  generalize Lib.compact (([1] : List Int).mergeSort fun a b => decide (a ≤ b)) = l at *
  obtain ⟨h1, h2⟩ := h
  match l, h1, h2 with
  | [], _, h2 => exact absurd ((h2 1).2 (by simp)) (by simp)
  | [x], _, h2 => have := (h2 x).1 (by simp); simp at this; rw [this]
  | x :: y :: r, h1, h2 =>
    have hx := (h2 x).1 (by simp)
    have hy := (h2 y).1 (by simp)
    simp only [List.mem_singleton] at hx hy
    have := (List.pairwise_cons.1 h1).1 y (by simp)
    omega
theorem ex_Run {b c : Nat} {code : List Ins} (hcode : ∀ i ∈ code, I64 i.1 ∧ I64 i.2) (hlen : code.length ≤ 2 ^ 40) (hr : Row H b T_api_Instr (code.flatMap insV)) (hc : c = code.length) {k : Sl × Sl × Sl × Int × Int → Heap → Prop}
    (hbad : ∀ H' N er m', Ext H H' → Runs (exP code) exE (exS code [] 0 7 (newS 0 3 0 5) 0 0 [] false) N er m' → er ≠ 0 → k (⟨none, 0, 0⟩, ⟨none, 0, 0⟩, ⟨none, 0, 0⟩, m'.steps, er) H')
    (hok : ∀ H' N m' vs cs es (ps : List PtP) (cl : List CmP) (q : List PtP), Ext H H' → Runs (exP code) exE (exS code [] 0 7 (newS 0 3 0 5) 0 0 [] false) N 0 m' → VecN H' T_api_Part 2 vs (ps.flatMap ptV) → (∀ q ∈ ps, Vec H' T_int64 q.sl (ints q.vals)) → VecN H' T_api_Event 5 es (m'.evs.flatMap evV) → m'.vals = q.map PtP.pt →
      ps = partsOf q [1] → k (vs, cs, es, m'.steps, 0) H') :
    CallT Pg f_L_one [.slice (some (adr b)) c c] ProgR H fun (r1 : Sl × Sl) H2 =>
    CallT Pg f_L_env [] EnvR H2 fun (r2 : Int × Int × Int × Sl × Int × Int × Sl) H3 =>
    CallT Pg f_machine_Run [.agg #[.slice r1.1.a r1.1.len r1.1.cap, .slice r1.2.a r1.2.len r1.2.cap], .int .i64 0, .agg #[.int .i64 r2.1, .int .i64 r2.2.1, .int .i64 r2.2.2.1, .slice r2.2.2.2.1.a r2.2.2.2.1.len r2.2.2.2.1.cap, .int .i64 r2.2.2.2.2.1, .int .i64 r2.2.2.2.2.2.1, .slice r2.2.2.2.2.2.2.a r2.2.2.2.2.2.2.len r2.2.2.2.2.2.2.cap]] RunT H3 k := by
  subst hc
  refine s_one (l := ⟨some (adr b), code.length, code.length⟩) (code := code) fun H2 p1 s hE2 hs hset hsl hrou => s_env fun H3 rp q hE3 hrn hrl hqk hqv => ?_
  have hE := hE2.trans hE3 fun _ _ h => h
  have hcR : CodeR H3 s.rou := by rw [hrou]; exact (row_rn hr (Nat.le_refl _)).ext hE
  have hmp : mpS s 0 [] = exP code := by
    show MP.mk _ (fnOf s.rou) (s.l 2) (s.l 3) 0 _ = _
    rw [hrou, hsl]; rfl
  have hl3 : s.l 3 = [1] := by rw [hsl]; rfl
  have hPO : POk (exP code) := ⟨fun f hf => (by cases hf), ⟨show I64 0 from ⟨by decide, by decide⟩, show I64 0 from ⟨by decide, by decide⟩, hcode, by show code.length ≤ 2 ^ 60; omega⟩⟩
  have hEO : EOk exE := ⟨⟨by decide, by decide⟩, ⟨by decide, by decide⟩, fun x hx => (by cases hx)⟩
  refine s_Run inputOk (p := (p1, ⟨none, 0, 0⟩)) (ss := [s]) (fs := []) (n := 0) (e := ⟨3, 0, 0, ⟨none, 0, 0⟩, 5, 1, rp⟩) (ps0 := [q]) (ins := []) (hs.ext hE3) ⟨Int.le_refl _, show (0 : Int) < 1 by decide⟩
    ⟨RN.nil _ _ _, (fun r hr => by cases hr), fun i hi => (hset i hi).ext hE3, fun i hi => ?_, RN.nil _ _ _, (show 0 * 24 ≤ 140737488351232 by decide), (fun a ha => by cases ha), fun _ => rfl⟩ hcR hrn
    (fun q' hq' => ?_) (show 1 ≤ 2 ^ 42 by decide) ?_ ?_ hEO (fun H' N er m' hE' hrn' hne => ?_) fun H' N m' vs cs es ps cl q' hE' hrn' ho _ hv _ hps => ?_
  · show (s.l i).length ≤ _
    rw [hsl]; dsimp only; split <;> simp
  · rw [List.mem_singleton.1 hq', hqv]
    exact ⟨hrl, by simp, fun x hx => by rw [List.mem_singleton.1 hx]; exact ⟨by decide, by decide⟩⟩
  · show (s.l 3).length ≤ _
    rw [hl3]; simp
  · show POk (mpS s 0 [])
    rw [hmp]; exact hPO
  · have hrn' : Runs (mpS s 0 []) exE (initM (mpS s 0 []) exE (firsts [q.pt])) N er m' := hrn'
    rw [hmp, show q.pt = ⟨1, [7]⟩ by rw [← hqk, ← hqv], ex_init] at hrn'
    exact hbad H' N er m' (hE.trans hE' fun _ _ h => h) hrn' hne
  · have hrn' : Runs (mpS s 0 []) exE (initM (mpS s 0 []) exE (firsts [q.pt])) N 0 m' := hrn'
    rw [hmp, show q.pt = ⟨1, [7]⟩ by rw [← hqk, ← hqv], ex_init] at hrn'
    have hps : ps = partsOf q' (Lib.compact ((s.l 3).mergeSort fun a b => decide (a ≤ b))) := hps
    rw [hl3, compact_one] at hps
    exact hok H' N m' vs cs es ps cl q' (hE.trans hE' fun _ _ h => h) hrn' ho.vv ho.vR ho.ev hv hps
theorem out_row {r : Sl × Sl × Sl × Int × Int} {K : Nat → Heap → Prop} (hk : ∀ b H', Ext H H' → Row H' b T_api_Outcome [slV r.1, slV r.2.1, slV r.2.2.1, .int .i64 r.2.2.2.1, .int .i64 r.2.2.2.2] → H.size ≤ b → K b H') :
    Nw #[.slice none 0 0, .slice none 0 0, .slice none 0 0, .int .i64 0, .int .i64 0] T_api_Outcome H fun b2 H5 =>
    St ((adr b2).add 0) (.slice r.1.a r.1.len r.1.cap) H5 fun H6 =>
    St ((adr b2).add 1) (.slice r.2.1.a r.2.1.len r.2.1.cap) H6 fun H7 =>
    St ((adr b2).add 2) (.slice r.2.2.1.a r.2.2.1.len r.2.2.1.cap) H7 fun H8 =>
    St ((adr b2).add 3) (.int .i64 r.2.2.2.1) H8 fun H9 =>
    St ((adr b2).add 4) (.int .i64 r.2.2.2.2) H9 fun H10 => K b2 H10 := by
  refine Nw_row (vs := [.slice none 0 0, .slice none 0 0, .slice none 0 0, .int .i64 0, .int .i64 0]) fun b H1 hb hE1 _ hr1 => ?_
  simp only [adr_add]
  refine St_row hr1 (by simp) fun G1 hU1 _ hg1 => St_row hg1 (by simp) fun G2 hU2 _ hg2 => St_row hg2 (by simp) fun G3 hU3 _ hg3 => St_row hg3 (by simp) fun G4 hU4 _ hg4 => St_row hg4 (by simp) fun G5 hU5 _ hg5 => ?_
  have hUU := (((hU1.trans hU2 fun _ _ e => e).trans hU3 fun _ _ e => e).trans hU4 fun _ _ e => e).trans hU5 fun _ _ e => e
  exact hk b G5 (extUpd hE1 (by omega) hUU) hg5 (by omega)
theorem code_ok {code : List Ins} (h : ∀ i ∈ code, 0 ≤ i.1 ∧ i.1 < 100 ∧ 0 ≤ i.2 ∧ i.2 < 100) : ∀ i ∈ code, I64 i.1 ∧ I64 i.2 := fun i hi => by
  have := h i hi
  unfold I64; omega
theorem s_shown {k : Bool → Heap → Prop} (hk : ∀ H', Ext H H' → k true H') : CallT Pg f_L_shown [] (.one (.c .bool)) H k := by
  refine c_L_shown ?_
  unfold v_L_shown
  -- the first
  refine Nw_row (vs := cA.flatMap insV) fun b1 H1 hb1 hE1 _ hr1 => ?_
  refine ex_Run (code := cA) (code_ok (by decide)) (by decide) hr1 rfl (fun H2 N er m' hE2 hrn hne => absurd ((hrn.unique (run_a _)).2.1) hne) fun H2 N m' vs cs es ps cl q hE2 hrn hvs hvR _ hq hps => ?_
  obtain ⟨_, _, rfl⟩ := hrn.unique (run_a _)
  obtain ⟨p, hp, hpv⟩ : ∃ p : PtP, q = [p] ∧ p.pt = ⟨1, [8]⟩ := by
    have hq : [(⟨1, [8]⟩ : Pt)] = q.map PtP.pt := hq
    cases q with
    | nil => cases hq
    | cons p r =>
      cases r with
      | nil => simp only [List.map_cons, List.map_nil, List.cons.injEq, and_true] at hq; exact ⟨p, rfl, hq.symm⟩
      | cons _ _ => simp at hq
  subst hp
  have hpk : p.kind = 1 := congrArg Pt.kind hpv
  have hpvv : p.vals = [8] := congrArg Pt.vals hpv
  have hps : ps = [p] := by rw [hps]; unfold partsOf; simp [hpk]
  subst hps
  refine out_row (r := (vs, cs, es, 1, 0)) fun b2 H3 hE3 hr3 hz3 => ?_
  have hvs3 := hvs.ext hE3
  have hv3 := (hvR p (by simp)).ext hE3
  -- the second
  refine Nw_row (vs := cB.flatMap insV) fun b4 H4 hb4 hE4 _ hr4 => ?_
  obtain ⟨Nb, mb, hrb⟩ := run_b (newS 0 3 0 5) 64 [] 0 rfl rfl
  refine ex_Run (code := cB) (code_ok (by decide)) (by decide) hr4 rfl (fun H5 N er m' hE5 hrn hne => ?_) fun H2 N m' vs cs es ps cl q hE2 hrn _ _ _ _ _ => absurd ((hrn.unique hrb).2.1) (by decide)
  obtain ⟨_, rfl, _⟩ := hrn.unique hrb
  refine out_row (r := (⟨none, 0, 0⟩, ⟨none, 0, 0⟩, ⟨none, 0, 0⟩, _, 151)) fun b6 H6 hE6 hr6 hz6 => ?_
  -- the third
  refine Nw_row (vs := cC.flatMap insV) fun b7 H7 hb7 hE7 _ hr7 => ?_
  obtain ⟨Nc, mc, hrc, hsc⟩ := run_c (newS 0 3 0 5) 2000 0 0 rfl (by decide)
  refine ex_Run (code := cC) (code_ok (by decide)) (by decide) hr7 rfl (fun H8 N er m' hE8 hrn hne => ?_) fun H2 N m' vs cs es ps cl q hE2 hrn _ _ _ _ _ => absurd ((hrn.unique hrc).2.1) (by decide)
  obtain ⟨_, rfl, hmc⟩ := hrn.unique hrc
  rw [hmc, hsc]
  refine out_row (r := (⟨none, 0, 0⟩, ⟨none, 0, 0⟩, ⟨none, 0, 0⟩, _, 120)) fun b9 H9 hE9 hr9 hz9 => ?_
  -- the fourth
  refine Nw_row (vs := cD.flatMap insV) fun b10 H10 hb10 hE10 _ hr10 => ?_
  refine ex_Run (code := cD) (code_ok (by decide)) (by decide) hr10 rfl (fun H2 N er m' hE2 hrn hne => absurd ((hrn.unique (run_d _)).2.1) hne) fun H11 N m' vs' cs' es' ps' cl' q' hE11 hrn _ _ hev _ _ => ?_
  obtain ⟨_, _, rfl⟩ := hrn.unique (run_d _)
  refine out_row (r := (vs', cs', es', 0, 0)) fun b12 H12 hE12 hr12 hz12 => ?_
  have hev := hev.ext hE12
  have E912 : Ext H9 H12 := (hE10.trans hE11 fun _ _ h => h).trans hE12 fun _ _ h => h
  have E612 : Ext H6 H12 := (((hE7.trans hE8 fun _ _ h => h).trans hE9 fun _ _ h => h)).trans E912 fun _ _ h => h
  have E312 : Ext H3 H12 := (((hE4.trans hE5 fun _ _ h => h).trans hE6 fun _ _ h => h)).trans E612 fun _ _ h => h
  have E012 : Ext H H12 := (((hE1.trans hE2 fun _ _ h => h).trans hE3 fun _ _ h => h)).trans E312 fun _ _ h => h
  have r2 := E312.row hr3 fun h => h
  have r6 := E612.row hr6 fun h => h
  have r9 := E912.row hr9 fun h => h
  have rvs := VecN.rn ptV_len (by decide) (hvs3.ext E312 : VecN H12 T_api_Part 2 vs ([p].flatMap ptV))
  have rv := (hv3.ext E312)
  rw [hpvv] at rv
  have rev := VecN.rn evV_len (by decide) hev
  simp only [adr_add]
  have c2 : hcell H12 (adr b2) = some (.slice vs.a vs.len vs.cap) := (r2.cell 0).trans rfl
  have c12 : hcell H12 ⟨b12, 2, none⟩ = some (.slice es'.a es'.len es'.cap) := (hr12.cell 2).trans rfl
  have hl1 : vs.len = 1 := rvs.len
  have hl2 : es'.len = 1 := rev.len
  have hl3 : p.sl.len = 1 := rv.len
  have cp : ∀ {k : Addr → Prop}, (∀ a, hcell H12 a = some (.int .i64 1) → hcell H12 (a.add 1) = some (.slice p.sl.a p.sl.len p.sl.cap) → k a) → IxA 2 vs 0 k := fun hk => IxA_rn' ptV_len rvs (by decide) (j := 0) rfl (show 0 < 1 by decide) fun a ha => by
    have ha : hcells H12 a 0 (ptV p) := ha
    exact hk a (by rw [← hpk]; exact ha.1) ha.2.1
  refine Jn_in ?_
  refine Ld_int (n := 0) ((r2.cell 4).trans rfl) ?_
  refine Ld_int (n := 1) ((r2.cell 3).trans rfl) ?_
  refine Ld_sl (s := vs) c2 ?_
  rw [hl1]
  refine Ld_sl (s := vs) c2 (cp fun a ha _ => Ld_int ha ?_)
  refine Ld_sl (s := vs) c2 (cp fun a _ ha => Ld_sl (s := p.sl) ha ?_)
  rw [hl3]
  refine Ld_sl (s := vs) c2 (cp fun a _ ha => Ld_sl (s := p.sl) ha (vec_rdi (vs := [8]) rv (j := 0) rfl (by decide) ?_))
  refine Ld_int (n := 151) ((r6.cell 4).trans rfl) ?_
  refine Ld_int (n := 120) ((r9.cell 4).trans rfl) ?_
  refine Ld_int (n := 2001) ((r9.cell 3).trans rfl) ?_
  refine Ld_sl (s := es') c12 ?_
  rw [hl2]
  refine Ld_sl (s := es') c12 (IxA_rn' evV_len rev (by decide) (j := 0) rfl (show 0 < 1 by decide) fun a ha => ?_)
  have ha : hcells H12 a 0 (evV ⟨0, (5, 1), 1, 2⟩) := ha
  refine ⟨(0, 5, 1, 1, 2), ha, ?_⟩
  exact hk H12 E012
end
end Go.Proofs.YtfpmgpblhhcpgaaGreat
namespace Go.Proofs.YtfpmgpblhhcpgaaGreat.Hc
set_option linter.unusedVariables false
set_option linter.unusedSimpArgs false
set_option maxRecDepth 100000
theorem zcells_rep (z : Array Value) (m : Nat) : zcells z (m * z.size) = ⟨(List.replicate m z.toList).flatten⟩ := by
  apply Array.ext'
  unfold zcells
  simp only [Array.toList_map, Array.toList_range]
  induction m with
  | zero => simp
  | succ m ih =>
    rw [List.replicate_succ', List.flatten_append, ← ih, Nat.succ_mul, List.range_add, List.map_append]
    congr 1
    simp only [List.flatten_cons, List.flatten_nil, List.append_nil, List.map_map]
    apply List.ext_getElem
    · simp
    · intro i h1 h2
      have hi : i < z.size := by simpa using h1
      simp only [List.getElem_map, List.getElem_range, Function.comp]
      rw [show (m * z.size + i) % z.size = i by rw [Nat.mul_comm, Nat.mul_add_mod]; exact Nat.mod_eq_of_lt hi, getElem!_pos z i hi]
      simp
theorem Mks_rep {α : Type} {f : α → List Value} {e : α} {T : TypeId} {bytes n m : Nat} {z : Array Value} {H : Heap} {k : Sl → Heap → Prop} (hz : z.toList = f e) (hn : (f e).length = n) (h1 : m < 9223372036854775808) (hb : (bytes : Int) * m ≤ 2 ^ 48)
    (hk : ∀ b H', b = H.size → Ext H H' → H'.size = H.size + 1 → Row H' b T ((List.replicate m e).flatMap f) → k ⟨some (adr b), m, m⟩ H') : Mks T n bytes z (m : Nat) (m : Nat) H k := by
  unfold Mks
  rw [wrap_i64_id (by omega) (by omega)]
  refine ⟨by omega, by omega, hb, ?_⟩
  rw [Int.toNat_natCast]
  have hs : z.size = n := by rw [← Array.length_toList, hz, hn]
  rw [← hs, zcells_rep, hz, ← List.flatMap_replicate]
  exact hk _ _ rfl (Upd.push _ _ _) (by simp) (get_push_new _ _)
theorem flat_dropN {α : Type} {f : α → List Value} {n : Nat} (hf : ∀ e, (f e).length = n) : ∀ {es : List α} {i : Nat}, (es.flatMap f).drop (i * n) = (es.drop i).flatMap f
  | es, 0 => by simp
  | [], i + 1 => by simp
  | e :: es, i + 1 => by
    rw [List.flatMap_cons, List.drop_succ_cons, ← flat_dropN hf (es := es) (i := i), show (i + 1) * n = (f e).length + i * n by rw [hf, Nat.succ_mul, Nat.add_comm], ← List.drop_drop, List.drop_left]
theorem Cpy_rn {α : Type} {f : α → List Value} {n : Nat} (hf : ∀ e, (f e).length = n) (hone : ∀ e, ∀ w ∈ f e, w.oneCell' = true) {T : TypeId} {b c : Nat} {x : Sl} {xs ys : List α} {H : Heap} {k : Int → Heap → Prop} (hr : Row H b T (ys.flatMap f)) (hx : RN f n H x xs) (hl : xs.length ≤ ys.length)
    (hk : ∀ H', Upd (· = b) H H' → H'.size = H.size → Row H' b T ((xs ++ ys.drop xs.length).flatMap f) → k xs.length H') : Cpy n ⟨some (adr b), ys.length, c⟩ x H k := by
  have hm : Nat.min x.len ys.length = xs.length := by rw [hx.len]; exact Nat.min_eq_left hl
  refine ⟨xs.flatMap f, hx.rd, fun _ => ?_, ?_⟩
  · dsimp only; rw [hm, flat_len hf]
  · dsimp only
    rw [hm]
    refine StL_row hr (by rw [flat_len hf, flat_len hf]; have := Nat.mul_le_mul_right n hl; omega) (fun w hw => ?_) fun H' hU hs hr' => ?_
    · obtain ⟨e, _, he⟩ := List.mem_flatMap.1 hw
      exact hone e w he
    · refine hk H' (hU.mono fun _ _ h => h.1) hs ?_
      rw [List.flatMap_append, ← flat_dropN hf]
      simpa [flat_len hf] using hr'
theorem ints_flat (xs : List Int) : ints xs = xs.flatMap fun x : Int => [Value.int .i64 x] := by induction xs <;> simp_all [ints]
theorem RL.rn1 {H : Heap} {s : Sl} {xs : List Int} (h : RL (Value.int .i64) H s xs) : RN (fun x : Int => [Value.int .i64 x]) 1 H s xs :=
  ⟨by rw [← ints_flat]; exact h.rd, h.len, h.cap⟩
theorem fill_set {α : Type} {ys t : List α} {i : Nat} (hi : i < t.length) (hl : ys.length = t.length) (h : ys.take i = t.take i) : (ys.set i t[i]).take (i + 1) = t.take (i + 1) := by
  rw [List.take_add_one, List.take_add_one, List.take_set_of_le (Nat.le_refl _), h, List.getElem?_set_self (by omega), List.getElem?_eq_getElem hi]
theorem fill_ints {b : Nat} {T : TypeId} {m n c : Nat} {v : Int} {xs ys : List Int} {H : Heap} (hr : Row H b T (ints ys)) (hy : ys.length = m) (hx : ys.take n = xs) (hxn : xs.length = n) (hnm : n ≤ m) (hm : m < 2 ^ 62) {k : Heap → Prop}
    (hk : ∀ H', Upd (· = b) H H' → H'.size = H.size → Row H' b T (ints (xs ++ List.replicate (m - n) v)) → k H') :
    LoopT (σ := Int) (fun next3 s3 H17 => Br (decide (s3 < ((⟨some (adr b), m, c⟩ : Sl).len : Int))) (IxA 1 ⟨some (adr b), m, c⟩ s3 fun a6 => St a6 (.int .i64 v) H17 fun H18 => Lt (IntKind.wrap .i64 (s3 + 1)) fun t5 => next3 t5 H18) (k H17)) (n : Nat) H := by
  have ht : (xs ++ List.replicate (m - n) v).length = m := by rw [List.length_append, List.length_replicate]; omega
  refine LoopT.mk (fun s H' => ∃ (i : Nat) (zs : List Int), s = i ∧ n ≤ i ∧ i ≤ m ∧ Upd (· = b) H H' ∧ H'.size = H.size ∧ Row H' b T (ints zs) ∧ zs.length = m ∧ zs.take i = (xs ++ List.replicate (m - n) v).take i) (fun s _ => m - s.toNat)
    ⟨n, ys, rfl, Nat.le_refl _, hnm, .refl _ _, rfl, hr, hy, by rw [hx, ← hxn, List.take_left]⟩ ?_
  rintro next _ H1 ⟨i, zs, rfl, h1, h2, hU1, hz1, hr1, hzl, hze⟩ hnext
  refine Br_dec (fun hlt => ?_) fun hge => ?_
  · have hi : i < m := by dsimp only at hlt; omega
    refine IxA_adr (by omega) (by dsimp only at hlt; omega) ?_
    rw [Int.toNat_natCast, Nat.mul_one]
    refine St_row hr1 (by rw [List.length_map]; omega) fun H2 hU2 hz2 hr2 => ?_
    rw [ints_set] at hr2
    refine Lt.mk (u := ((i + 1 : Nat) : Int)) (by rw [wrap_i64_id] <;> omega) (hnext _ _ ⟨i + 1, _, rfl, by omega, by omega, hU1.trans hU2 fun _ _ e => e, hz2.trans hz1, hr2, by rw [List.length_set]; exact hzl, ?_⟩ (by omega))
    have e : (xs ++ List.replicate (m - n) v)[i]'(by omega) = v := by rw [List.getElem_append_right (by omega)]; simp
    have := fill_set (t := xs ++ List.replicate (m - n) v) (ys := zs) (i := i) (by omega) (by omega) hze
    rwa [e] at this
  · have hi : i = m := by dsimp only at hge; omega
    rw [List.take_of_length_le (by omega), List.take_of_length_le (by omega)] at hze
    subst hze
    exact hk H1 hU1 hz1 hr1
end Go.Proofs.YtfpmgpblhhcpgaaGreat.Hc
namespace Go.Proofs.YtfpmgpblhhcpgaaGreat
set_option linter.unusedVariables false
set_option linter.unusedSimpArgs false
set_option maxRecDepth 100000
section
open Hc Hc.Vf Hc.Mc Hc.Dice
variable {H : Heap}
theorem inV_one (x : Int × Int × Int) : ∀ w ∈ inV x, w.oneCell' = true := fun w hw => by
  simp only [inV, List.mem_cons, List.not_mem_nil, or_false] at hw
  rcases hw with rfl | rfl | rfl <;> rfl
abbrev mkI : Int × Int × Int := (-7, 0, 0)
abbrev mkP : PtP := ⟨-7, ⟨none, 0, 0⟩, []⟩
abbrev markI (ins : List (Int × Int × Int)) : List (Int × Int × Int) := ins ++ List.replicate 80 mkI
abbrev markV (vs : List Int) : List Int := vs ++ List.replicate 80 (-7)
abbrev markP (qs : List PtP) : List PtP := qs ++ List.replicate 80 mkP
structure CpR (lo : Nat) (H : Heap) (bi bp : Nat) (ins : List (Int × Int × Int)) (qs : List PtP) : Prop where
  inp : Row H bi T_api_Input ((markI ins).flatMap inV)
  prt : Row H bp T_api_Part ((markP qs).flatMap ptV)
  vls : ∀ q ∈ qs, ∃ b, q.sl = ⟨some (adr b), q.vals.length, q.vals.length + 80⟩ ∧ Row H b T_int64 (ints (markV q.vals)) ∧ lo ≤ b
  ap : qs.Pairwise fun p q => Apart p.sl q.sl
  bi : lo ≤ bi
  bp : lo ≤ bp
abbrev cpE (e : EnV) (bi bp n m : Nat) : EnV := { e with inS := ⟨some (adr bi), n, n + 80⟩, rp := ⟨some (adr bp), m, m + 80⟩ }
theorem CpR.upd {lo : Nat} {H' : Heap} {bi bp : Nat} {ins : List (Int × Int × Int)} {qs : List PtP} (h : CpR lo H bi bp ins qs) {M : Nat → Prop} (hU : Upd M H H') (hM : ∀ b, lo ≤ b → b < H.size → ¬ M b) : CpR lo H' bi bp ins qs :=
  ⟨hU.row h.inp (hM _ h.bi h.inp.lt), hU.row h.prt (hM _ h.bp h.prt.lt), fun q hq => by
    obtain ⟨b, h1, h2, h3⟩ := h.vls q hq
    exact ⟨b, h1, hU.row h2 (hM _ h3 h2.lt), h3⟩, h.ap, h.bi, h.bp⟩
theorem CpR.ext {lo : Nat} {H' : Heap} {bi bp : Nat} {ins : List (Int × Int × Int)} {qs : List PtP} (h : CpR lo H bi bp ins qs) (hE : Ext H H') : CpR lo H' bi bp ins qs := h.upd hE fun _ _ _ h => h
theorem CpR.rnI {lo : Nat} {bi bp : Nat} {ins : List (Int × Int × Int)} {qs : List PtP} (h : CpR lo H bi bp ins qs) : RN inV 3 H ⟨some (adr bi), ins.length, ins.length + 80⟩ ins := by
  have := h.inp
  rw [List.flatMap_append] at this
  exact ⟨this.rd, rfl, Nat.le_add_right _ _⟩
theorem CpR.rnP {lo : Nat} {bi bp : Nat} {ins : List (Int × Int × Int)} {qs : List PtP} (h : CpR lo H bi bp ins qs) : RN ptV 2 H ⟨some (adr bp), qs.length, qs.length + 80⟩ qs := by
  have := h.prt
  rw [List.flatMap_append] at this
  exact ⟨this.rd, rfl, Nat.le_add_right _ _⟩
theorem CpR.rlV {lo : Nat} {bi bp : Nat} {ins : List (Int × Int × Int)} {qs : List PtP} (h : CpR lo H bi bp ins qs) {q : PtP} (hq : q ∈ qs) : RL (Value.int .i64) H q.sl q.vals := by
  obtain ⟨b, h1, h2, _⟩ := h.vls q hq
  rw [h1]
  have h2 : Row H b T_int64 (ints (q.vals ++ List.replicate 80 (-7))) := h2
  rw [ints, List.map_append] at h2
  exact ⟨h2.rd, rfl, Nat.le_add_right _ _⟩
theorem s_copied {e : EnV} {ins : List (Int × Int × Int)} {ps : List PtP} (hin : RN inV 3 H e.inS ins) (hps : RN ptV 2 H e.rp ps) (hpr : ∀ q ∈ ps, RL (Value.int .i64) H q.sl q.vals ∧ q.vals.length ≤ 2 ^ 44) (hil : ins.length ≤ 2 ^ 43) (hpl : ps.length ≤ 2 ^ 42)
    {k : Int × Int × Int × Sl × Int × Int × Sl → Heap → Prop}
    (hk : ∀ H' bi bp qs, Ext H H' → CpR H.size H' bi bp ins qs → qs.map PtP.pt = ps.map PtP.pt → k (e.fr, e.sd, e.en, ⟨some (adr bi), ins.length, ins.length + 80⟩, e.ix, e.gn, ⟨some (adr bp), ps.length, ps.length + 80⟩) H') :
    CallT Pg f_L_copied [envA e] EnvR H k := by
  refine c_L_copied (e.fr, e.sd, e.en, e.inS, e.ix, e.gn, e.rp) ?_
  unfold v_L_copied
  have hinl := hin.len
  have hpsl := hps.len
  refine Nw_row (vs := envL e) fun b1 H1 hb1 hE1 hz1 hr1 => ?_
  refine Nw_row (vs := [.int .i64 0, .int .i64 0, .int .i64 0, .slice none 0 0, .int .i64 0, .int .i64 0, .slice none 0 0]) fun b2 H2 hb2 hE2 hz2 hr2 => ?_
  have hE02 := hE1.trans hE2 fun _ _ h => h
  have hr1 := hE2.row hr1 fun h => h
  simp only [adr_add, mk_add]
  refine Ld_sl (s := e.inS) ((hr1.cell 3).trans rfl) (Lt.mk (u := ((ins.length + 80 : Nat) : Int)) (by rw [wrap_i64_id] <;> omega) ?_)
  refine Mks_rep (f := inV) (e := (0, 0, 0)) (m := ins.length + 80) rfl rfl (by omega) (by omega) fun bi H3 hbi hE3 hz3 hr3 => ?_
  have hE03 := hE02.trans hE3 fun _ _ h => h
  have hr1 := hE3.row hr1 fun h => h
  have hr2 := hE3.row hr2 fun h => h
  refine Ld_sl (s := e.inS) ((hr1.cell 3).trans rfl) ?_
  have e3 : (⟨some (adr bi), ins.length + 80, ins.length + 80⟩ : Sl) = ⟨some (adr bi), (List.replicate (ins.length + 80) ((0, 0, 0) : Int × Int × Int)).length, ins.length + 80⟩ := by rw [List.length_replicate]
  rw [e3]
  refine Cpy_rn inV_len inV_one hr3 (hin.ext hE03) (by rw [List.length_replicate]; omega) fun H4 hU4 hz4 hr4 => ?_
  rw [List.drop_replicate, show ins.length + 80 - ins.length = 80 by omega] at hr4
  rw [← e3]
  have hs03 := hE1.size
  have n1 : b1 ≠ bi := by omega
  have n2 : b2 ≠ bi := by omega
  have hr1 := hU4.row hr1 n1
  have hr2 := hU4.row hr2 n2
  refine Ld_sl (s := e.inS) ((hr1.cell 3).trans rfl) ?_
  have hE04 : Ext H H4 := extUpd hE03 (by omega) hU4
  have ht : (markI ins).length = ins.length + 80 := by rw [List.length_append, List.length_replicate]
  -- the inputs' marks
  refine LoopT.mk (fun s H' => ∃ (i : Nat) (ys : List (Int × Int × Int)), s = i ∧ ins.length ≤ i ∧ i ≤ ins.length + 80 ∧ Upd (· = bi) H4 H' ∧ H'.size = H4.size ∧ Row H' bi T_api_Input (ys.flatMap inV) ∧ ys.length = ins.length + 80 ∧ ys.take i = (markI ins).take i) (fun s _ => ins.length + 80 - s.toNat)
    ⟨ins.length, _, by rw [hinl], Nat.le_refl _, by omega, .refl _ _, rfl, hr4, by rw [List.length_append, List.length_replicate], by rw [List.take_left, List.take_left]⟩ ?_
  rintro next _ H5 ⟨i, ys, rfl, hi1, hi2, hU5, hz5, hr5, hyl, hye⟩ hnext
  have r1 := hU5.row hr1 n1
  have r2 := hU5.row hr2 n2
  refine Br_dec (fun hlt => ?_) fun hge => ?_
  · have hi : i < ins.length + 80 := by first | omega | (dsimp only at hlt; omega)
    refine IxA_adr (by omega) (by first | omega | (dsimp only at hlt; omega)) ?_
    rw [Int.toNat_natCast]
    simp only [mk_add]
    have hfl : (ys.flatMap inV).length = ys.length * 3 := flat_len inV_len
    refine St_row hr5 (by rw [hfl]; omega) fun H6 hU6 hz6 hr6 => ?_
    rw [flat_set inV_len (e' := (-7, (ys[i]'(by omega)).2.1, (ys[i]'(by omega)).2.2)) (i := i) (o := 0) (by omega) (by decide) rfl] at hr6
    refine St_row hr6 (by rw [flat_len inV_len, List.length_set]; omega) fun H7 hU7 hz7 hr7 => ?_
    rw [flat_set inV_len (e' := (-7, 0, (ys[i]'(by omega)).2.2)) (i := i) (o := 1) (by rw [List.length_set]; omega) (by decide) (by rw [List.getElem_set_self]; rfl)] at hr7
    refine St_row hr7 (by rw [flat_len inV_len, List.length_set, List.length_set]; omega) fun H8 hU8 hz8 hr8 => ?_
    rw [flat_set inV_len (e' := mkI) (i := i) (o := 2) (by rw [List.length_set, List.length_set]; omega) (by decide) (by rw [List.getElem_set_self]; rfl)] at hr8
    rw [List.set_set, List.set_set] at hr8
    refine Lt.mk (u := ((i + 1 : Nat) : Int)) (by rw [wrap_i64_id] <;> omega) (hnext _ _ ⟨i + 1, _, rfl, by omega, by omega, ((hU5.trans hU6 fun _ _ e => e).trans hU7 fun _ _ e => e).trans hU8 fun _ _ e => e, by omega, hr8, by rw [List.length_set]; exact hyl, ?_⟩ (by omega))
    have e : (markI ins)[i]'(by omega) = mkI := by rw [List.getElem_append_right (by omega)]; exact List.getElem_replicate _
    have := fill_set (t := markI ins) (ys := ys) (i := i) (by omega) (by omega) hye
    rwa [e] at this
  have hi : i = ins.length + 80 := by first | omega | (dsimp only at hge; omega)
  rw [List.take_of_length_le (by omega), List.take_of_length_le (by omega)] at hye
  subst hye
  have hE05 : Ext H H5 := extUpd hE04 (by omega) hU5
  refine Ld_sl (s := e.rp) ((r1.cell 6).trans rfl) (Lt.mk (u := ((ps.length + 80 : Nat) : Int)) (by rw [wrap_i64_id] <;> omega) ?_)
  refine Mks_rep (f := ptV) (e := ⟨0, ⟨none, 0, 0⟩, []⟩) (m := ps.length + 80) rfl rfl (by omega) (by omega) fun bp H9 hbp hE9 hz9 hr9 => ?_
  have r1 := hE9.row r1 fun h => h
  have r2 := hE9.row r2 fun h => h
  have r5 := hE9.row hr5 fun h => h
  have hE09 : Ext H H9 := hE05.trans hE9 fun _ _ h => h
  have hs5 := hE05.size
  have m1 : b1 ≠ bp := by have := hr1.lt; omega
  have m2 : b2 ≠ bp := by have := hr2.lt; omega
  have m5 : bi ≠ bp := by have := hr5.lt; omega
  -- the parts
  refine LoopT.mk (fun s H' => ∃ (i : Nat) (qs ys : List PtP), s = i ∧ i ≤ ps.length + 80 ∧ Upd (· = bp) H9 H' ∧ Row H' bp T_api_Part (ys.flatMap ptV) ∧ ys.length = ps.length + 80 ∧ ys.take i = qs ++ List.replicate (i - ps.length) mkP ∧ qs.length = min i ps.length ∧ qs.map PtP.pt = (ps.take i).map PtP.pt ∧
      (∀ q ∈ qs, ∃ b, q.sl = ⟨some (adr b), q.vals.length, q.vals.length + 80⟩ ∧ Row H' b T_int64 (ints (markV q.vals)) ∧ H9.size ≤ b) ∧ qs.Pairwise fun p q => Apart p.sl q.sl) (fun s _ => ps.length + 80 - s.toNat)
    ⟨0, [], _, rfl, by omega, .refl _ _, hr9, by rw [List.length_replicate], by simp, by simp, by simp, (fun q hq => by cases hq), .nil⟩ ?_
  rintro next2 _ H10 ⟨i, qs, ys, rfl, hi1, hU10, hr10, hyl, hye, hql, hqm, hqv, hqa⟩ hnext2
  have q1 := hU10.row r1 m1
  have q2 := hU10.row r2 m2
  have q5 := hU10.row r5 m5
  have hE010 : Ext H H10 := extUpd hE09 (by omega) hU10
  have hs10 := hU10.size
  refine Br_dec (fun hlt => ?_) fun hge => ?_
  · have hi : i < ps.length + 80 := by first | omega | (dsimp only at hlt; omega)
    have hfl : (ys.flatMap ptV).length = ys.length * 2 := flat_len ptV_len
    have ixp : ∀ {k : Addr → Prop}, k ⟨bp, i * 2, none⟩ → IxA 2 ⟨some (adr bp), ps.length + 80, ps.length + 80⟩ (i : Nat) k := fun hk => IxA_adr (by omega) (by first | omega | (dsimp only; omega)) (by rw [Int.toNat_natCast]; exact hk)
    refine Jn.mk (fun _ H' => ∃ (qs' ys' : List PtP), Upd (· = bp) H9 H' ∧ Row H' bp T_api_Part (ys'.flatMap ptV) ∧ ys'.length = ps.length + 80 ∧ ys'.take (i + 1) = qs' ++ List.replicate (i + 1 - ps.length) mkP ∧ qs'.length = min (i + 1) ps.length ∧ qs'.map PtP.pt = (ps.take (i + 1)).map PtP.pt ∧
      (∀ q ∈ qs', ∃ b, q.sl = ⟨some (adr b), q.vals.length, q.vals.length + 80⟩ ∧ Row H' b T_int64 (ints (markV q.vals)) ∧ H9.size ≤ b) ∧ qs'.Pairwise fun p q => Apart p.sl q.sl) (fun kk hkk => ?_) ?_
    rotate_left
    · rintro _ H11 ⟨qs', ys', g1, g2, g3, g4, g5, g6, g7, g8⟩
      exact Lt.mk (u := ((i + 1 : Nat) : Int)) (by rw [wrap_i64_id] <;> omega) (hnext2 _ _ ⟨i + 1, qs', ys', rfl, by omega, g1, g2, g3, g4, g5, g6, g7, g8⟩ (by omega))
    refine ixp ?_
    simp only [mk_add]
    refine St_row hr10 (by rw [hfl]; omega) fun H12 hU12 _ hr12 => ?_
    rw [flat_set ptV_len (e' := ⟨-7, (ys[i]'(by omega)).sl, (ys[i]'(by omega)).vals⟩) (i := i) (o := 0) (by omega) (by decide) rfl] at hr12
    refine St_row hr12 (by rw [flat_len ptV_len, List.length_set]; omega) fun H13 hU13 _ hr13 => ?_
    rw [flat_set ptV_len (e' := mkP) (i := i) (o := 1) (by rw [List.length_set]; omega) (by decide) (by rw [List.getElem_set_self]; rfl), List.set_set] at hr13
    have hU1013 : Upd (· = bp) H10 H13 := hU12.trans hU13 fun _ _ e => e
    have hE013 : Ext H H13 := extUpd hE010 (by omega) hU1013
    have q1 := hU1013.row q1 m1
    have hqv13 : ∀ q ∈ qs, ∃ b, q.sl = ⟨some (adr b), q.vals.length, q.vals.length + 80⟩ ∧ Row H13 b T_int64 (ints (markV q.vals)) ∧ H9.size ≤ b := fun q hq => by
      obtain ⟨b, h1, h2, h3⟩ := hqv q hq
      exact ⟨b, h1, hU1013.row h2 fun e => h2.ne hr10 (by decide) e, h3⟩
    have ytk : ∀ x : PtP, (ys.set i x).take (i + 1) = qs ++ List.replicate (i - ps.length) mkP ++ [x] := fun x => by
      rw [List.take_add_one, List.take_set_of_le (Nat.le_refl _), hye, List.getElem?_set_self (by omega)]; rfl
    have crp : ∀ {H'}, Row H' b1 T_api_Env (envL e) → hcell H' ⟨b1, 6, none⟩ = some (.slice e.rp.a e.rp.len e.rp.cap) := fun h => (h.cell 6).trans rfl
    refine Ld_sl (s := e.rp) (crp q1) (Jn_in (Br_dec (fun hlt2 => ?_) fun hge2 => ?_))
    · have hip : i < ps.length := by omega
      have hget : ∀ {k : Addr → Prop}, (∀ a, hcell H a = some (.int .i64 ps[i].kind) → hcell H (a.add 1) = some (slV ps[i].sl) → k a) → IxA 2 e.rp (i : Nat) k := fun hk => IxA_rn' ptV_len hps (by decide) rfl hip fun a ha => by
        rw [getElem!_pos ps i hip] at ha
        exact hk a ha.1 ha.2.1
      have up : ∀ {H'} {a : Addr} {v : Value}, Ext H H' → hcell H a = some v → hcell H' a = some v := fun hE g => hE.cell g fun h => h
      obtain ⟨hv, hvl⟩ := hpr _ (List.getElem_mem hip)
      have hvn := hv.len
      refine Ld_sl (s := e.rp) (crp q1) (hget fun a _ ha => Ld_sl (s := ps[i].sl) (up hE013 ha) (Lt.mk (u := ((ps[i].vals.length + 80 : Nat) : Int)) (by rw [wrap_i64_id] <;> omega) ?_))
      refine Mks_rep (f := fun x : Int => [Value.int .i64 x]) (e := 0) (m := ps[i].vals.length + 80) rfl rfl (by omega) (by omega) fun bv H15 hbv hE15 hz15 hr15 => ?_
      have hE015 : Ext H H15 := hE013.trans hE15 fun _ _ h => h
      have q1 := hE15.row q1 fun h => h
      refine Ld_sl (s := e.rp) (crp q1) (hget fun a _ ha => Ld_sl (s := ps[i].sl) (up hE015 ha) ?_)
      have e15 : (⟨some (adr bv), ps[i].vals.length + 80, ps[i].vals.length + 80⟩ : Sl) = ⟨some (adr bv), (List.replicate (ps[i].vals.length + 80) (0 : Int)).length, ps[i].vals.length + 80⟩ := by rw [List.length_replicate]
      rw [e15]
      refine Cpy_rn (f := fun x : Int => [Value.int .i64 x]) (n := 1) (fun _ => rfl) (fun x w hw => by rw [List.mem_singleton.1 hw]; rfl) hr15 (hv.ext hE015).rn1 (by rw [List.length_replicate]; omega) fun H16 hU16 hz16 hr16 => ?_
      rw [List.drop_replicate, show ps[i].vals.length + 80 - ps[i].vals.length = 80 by omega, ← ints_flat] at hr16
      rw [← e15]
      have hs13 := hE013.size
      have hs13' := hU1013.size
      have nv1 : b1 ≠ bv := by have := q1.lt; have := hr1.lt; omega
      have q1 := hU16.row q1 nv1
      have hE016 : Ext H H16 := extUpd hE015 (by omega) hU16
      refine Ld_sl (s := e.rp) (crp q1) (hget fun a _ ha => Ld_sl (s := ps[i].sl) (up hE016 ha) ?_)
      rw [hvn]
      refine fill_ints hr16 (m := ps[i].vals.length + 80) (n := ps[i].vals.length) (c := ps[i].vals.length + 80) (xs := ps[i].vals) (by simp) (by rw [List.take_left]) rfl (by omega) (by omega) fun H17 hU17 hz17 hr17 => ?_
      rw [show ps[i].vals.length + 80 - ps[i].vals.length = 80 by omega] at hr17
      have hU1517 : Upd (· = bv) H15 H17 := hU16.trans hU17 fun _ _ e => e
      have hU1317 : Upd (· = bv) H13 H17 := (hE15.mono fun _ _ h => h.elim).trans hU1517 fun _ _ e => e
      have q1 := hU17.row q1 nv1
      have hE017 : Ext H H17 := extUpd hE015 (by omega) hU1517
      refine Ld_sl (s := e.rp) (crp q1) (hget fun a ha _ => Ld_int (n := ps[i].kind) (up hE017 ha) (Ld_sl (s := e.rp) (crp q1) (hget fun a' _ ha' => Ld_sl (s := ps[i].sl) (up hE017 ha') ?_)))
      rw [hvn]
      refine SlA0 (by omega) (by first | omega | (dsimp only; omega)) (Int.le_refl _) (ixp ?_)
      have nbp : bp ≠ bv := by have := hr13.lt; omega
      have hr17' := hU1317.row hr13 nbp
      simp only [mk_add, Int.toNat_natCast]
      refine St_row hr17' (by rw [flat_len ptV_len, List.length_set]; omega) fun H19 hU19 _ hr19 => ?_
      rw [flat_set ptV_len (e' := ⟨ps[i].kind, ⟨none, 0, 0⟩, []⟩) (i := i) (o := 0) (by rw [List.length_set]; omega) (by decide) (by rw [List.getElem_set_self]; rfl), List.set_set] at hr19
      refine St_row hr19 (by rw [flat_len ptV_len, List.length_set]; omega) fun H20 hU20 _ hr20 => ?_
      rw [flat_set ptV_len (e' := ⟨ps[i].kind, ⟨some (adr bv), ps[i].vals.length, ps[i].vals.length + 80⟩, ps[i].vals⟩) (i := i) (o := 1) (by rw [List.length_set]; omega) (by decide) (by rw [List.getElem_set_self]; rfl), List.set_set] at hr20
      have hU1720 : Upd (· = bp) H17 H20 := hU19.trans hU20 fun _ _ e => e
      refine hkk _ _ ⟨qs ++ [⟨ps[i].kind, ⟨some (adr bv), ps[i].vals.length, ps[i].vals.length + 80⟩, ps[i].vals⟩], _, ?_, hr20, by rw [List.length_set]; exact hyl, ?_, ?_, ?_, ?_, ?_⟩
      · exact ((hU10.trans hU1013 fun _ _ e => e).trans hU1317 fun b hb e => by omega).trans hU1720 fun _ _ e => e
      · rw [ytk, show i - ps.length = 0 by omega, show i + 1 - ps.length = 0 by omega]; simp
      · rw [List.length_append, hql]; simp; omega
      · rw [List.map_append, hqm, List.take_add_one, List.getElem?_eq_getElem hip, List.map_append]; rfl
      · intro q hq
        rcases List.mem_append.1 hq with hq | hq
        · obtain ⟨b, h1, h2, h3⟩ := hqv13 q hq
          refine ⟨b, h1, hU1720.row (hU1317.row h2 fun e => by have := h2.lt; omega) fun e => ?_, h3⟩
          subst e
          exact h2.ne hr13 (by decide) rfl
        · rw [List.mem_singleton.1 hq]
          refine ⟨bv, rfl, hU1720.row hr17 fun e => nbp e.symm, by omega⟩
      · rw [List.pairwise_append]
        refine ⟨hqa, List.pairwise_singleton _ _, fun p hp q hq b hb hb' => ?_⟩
        rw [List.mem_singleton.1 hq] at hb'
        obtain ⟨b0, h1, h2, _⟩ := hqv13 p hp
        rw [h1] at hb
        cases hb; cases hb'
        have := h2.lt; omega
    · have hip : ps.length ≤ i := by omega
      refine hkk _ _ ⟨qs, _, hU10.trans hU1013 fun _ _ e => e, hr13, by rw [List.length_set]; exact hyl, ?_, by rw [hql]; omega, ?_, hqv13, hqa⟩
      · rw [ytk, show i + 1 - ps.length = (i - ps.length) + 1 by omega, List.replicate_succ', List.append_assoc]
      · rw [hqm, List.take_of_length_le hip, List.take_of_length_le (by omega)]
  have hi : i = ps.length + 80 := by first | omega | (dsimp only at hge; omega)
  subst hi
  rw [List.take_of_length_le (by omega), show ps.length + 80 - ps.length = 80 by omega] at hye
  rw [List.take_of_length_le (by omega)] at hqm
  subst hye
  refine Ld_sl (s := e.inS) ((q1.cell 3).trans rfl) ?_
  rw [hinl]
  refine SlA0 (by omega) (by first | omega | (dsimp only; omega)) (Int.le_refl _) ?_
  simp only [Int.toNat_natCast]
  refine St_row q1 (by simp) fun H21 hU21 _ hr21 => ?_
  refine Ld_sl (s := e.rp) ((hr21.cell 6).trans rfl) ?_
  rw [hpsl]
  refine SlA0 (by omega) (by first | omega | (dsimp only; omega)) (Int.le_refl _) ?_
  simp only [Int.toNat_natCast]
  refine St_row hr21 (by simp) fun H22 hU22 _ hr22 => ?_
  have hr22 : Row H22 b1 T_api_Env (envL (cpE e bi bp ins.length ps.length)) := hr22
  refine ⟨(e.fr, e.sd, e.en, ⟨some (adr bi), ins.length, ins.length + 80⟩, e.ix, e.gn, ⟨some (adr bp), ps.length, ps.length + 80⟩), hr22.rd_all, ?_⟩
  have b12 : b2 ≠ b1 := by omega
  have hU1022 : Upd (· = b1) H10 H22 := hU21.trans hU22 fun _ _ e => e
  have q2 := hU1022.row q2 b12
  refine St_row q2 (by simp) fun G1 hV1 _ hg1 => St_row hg1 (by simp) fun G2 hV2 _ hg2 => St_row hg2 (by simp) fun G3 hV3 _ hg3 => St_row hg3 (by simp) fun G4 hV4 _ hg4 => ?_
  refine St_row hg4 (by simp) fun G5 hV5 _ hg5 => St_row hg5 (by simp) fun G6 hV6 _ hg6 => St_row hg6 (by simp) fun G7 hV7 _ hg7 => ?_
  have hg7 : Row G7 b2 T_api_Env (envL (cpE e bi bp ins.length ps.length)) := hg7
  refine ⟨(e.fr, e.sd, e.en, ⟨some (adr bi), ins.length, ins.length + 80⟩, e.ix, e.gn, ⟨some (adr bp), ps.length, ps.length + 80⟩), hg7.rd_all, ?_⟩
  have hV : Upd (· = b2) H22 G7 := (((((hV1.trans hV2 fun _ _ e => e).trans hV3 fun _ _ e => e).trans hV4 fun _ _ e => e).trans hV5 fun _ _ e => e).trans hV6 fun _ _ e => e).trans hV7 fun _ _ e => e
  have hUV : Upd (fun b => b = b1 ∨ b = b2) H10 G7 := (hU1022.mono fun _ _ e => .inl e).trans hV fun _ _ e => .inr e
  have hE0G : Ext H G7 := hE010.trans hUV fun b hb e => by rcases e with e | e <;> omega
  refine hk G7 bi bp qs hE0G ⟨hUV.row q5 fun e => by rcases e with e | e <;> omega, hUV.row hr10 fun e => by rcases e with e | e <;> omega, fun q hq => ?_, hqa, by omega, by omega⟩ hqm
  obtain ⟨b, h1, h2, h3⟩ := hqv q hq
  refine ⟨b, h1, hUV.row h2 fun e => ?_, by omega⟩
  have := hr1.lt; have := hr2.lt; have := hU5.size
  have := hE9.size
  rcases e with e | e <;> omega
end
section
open Hc Hc.Vf Hc.Mc
theorem rdC_string {P : Program} {t : TypeId} (hu : P.underlying t = some .string) {H : Heap} {f : Nat} {cs : List Value} (h : RdC P H f t cs) : ∃ s : ByteArray, cs = [.string s] ∧ s.size ≤ reachBytes := by
  cases f with
  | zero => exact h.elim
  | succ f => simp only [RdC, hu] at h; exact h
theorem rdC_rows {P : Program} {t e : TypeId} (hu : P.underlying t = some (.slice e)) {n : Nat} (hce : P.cellsOf e = n) {α : Type} {g : α → List Value} (hg : ∀ x, (g x).length = n) {Q : α → Prop} {H : Heap} (hR : ∀ f cs, RdC P H f e cs → ∃ x, cs = g x ∧ Q x) {f : Nat} {v : Value} (h : RdC P H f t [v]) :
    ∃ (s : Sl) (xs : List α), v = .slice s.a s.len s.cap ∧ RN g n H s xs ∧ (∀ x ∈ xs, Q x) ∧ s.cap * P.bytesOf e ≤ reachBytes := by
  obtain ⟨s, xs, h1, h2, h3, h4, h5, h6⟩ := rdC_elems hu hce (R := fun cs x => cs = g x ∧ Q x) hR h
  refine ⟨s, xs, h1, RN.of_elems hg h2 h3 fun i hi => ?_, fun x hx => ?_, h4⟩
  · obtain ⟨a, ha, cs, _, k2, k3, _⟩ := h6 i hi
    subst k3; exact ⟨a, ha, k2⟩
  · obtain ⟨i, hi, rfl⟩ := List.getElem_of_mem hx
    obtain ⟨_, _, _, _, _, _, k⟩ := h6 i hi
    exact k
theorem list2_api_Program {cs : List Value} (h : cs.length = 2) : ∃ x0 x1, cs = [x0, x1] := by
  match cs, h with
  | [x0, x1], _ => exact ⟨x0, x1, rfl⟩
theorem rdS_api_Program {H : Heap} {f : Nat} {cs : List Value} (h : RdC Tryz.prog H f 25 cs) : ∃ x0 x1, cs = [x0, x1] ∧ ∃ f', RdC Tryz.prog H f' 22 [x0] ∧ RdC Tryz.prog H f' 23 [x1] := by
  obtain ⟨f', hl, hall⟩ := rdC_struct Tryz.underlying25 h
  obtain ⟨x0, x1, rfl⟩ := list2_api_Program (hl.trans (by kernel_rfl))
  simp only [List.mem_cons, List.not_mem_nil, or_false, forall_eq_or_imp, forall_eq] at hall
  have c22 : Tryz.prog.cellsOf 22 = 1 := by kernel_rfl
  have c23 : Tryz.prog.cellsOf 23 = 1 := by kernel_rfl
  obtain ⟨h0, h1⟩ := hall
  exact ⟨x0, x1, rfl, f', by simpa [c22] using h0, by simpa [c23] using h1⟩
theorem list2_api_Entity {cs : List Value} (h : cs.length = 2) : ∃ x0 x1, cs = [x0, x1] := by
  match cs, h with
  | [x0, x1], _ => exact ⟨x0, x1, rfl⟩
theorem rdS_api_Entity {H : Heap} {f : Nat} {cs : List Value} (h : RdC Tryz.prog H f 28 cs) : ∃ x0 x1, cs = [x0, x1] ∧ ∃ f', RdC Tryz.prog H f' 3 [x0] ∧ RdC Tryz.prog H f' 3 [x1] := by
  obtain ⟨f', hl, hall⟩ := rdC_struct Tryz.underlying28 h
  obtain ⟨x0, x1, rfl⟩ := list2_api_Entity (hl.trans (by kernel_rfl))
  simp only [List.mem_cons, List.not_mem_nil, or_false, forall_eq_or_imp, forall_eq] at hall
  have c3 : Tryz.prog.cellsOf 3 = 1 := by kernel_rfl
  obtain ⟨h0, h1⟩ := hall
  exact ⟨x0, x1, rfl, f', by simpa [c3] using h0, by simpa [c3] using h1⟩
theorem list3_api_Row {cs : List Value} (h : cs.length = 3) : ∃ x0 x1 x2, cs = [x0, x1, x2] := by
  match cs, h with
  | [x0, x1, x2], _ => exact ⟨x0, x1, x2, rfl⟩
theorem rdS_api_Row {H : Heap} {f : Nat} {cs : List Value} (h : RdC Tryz.prog H f 31 cs) : ∃ x0 x1 x2, cs = [x0, x1, x2] ∧ ∃ f', RdC Tryz.prog H f' 28 [x0, x1] ∧ RdC Tryz.prog H f' 29 [x2] := by
  obtain ⟨f', hl, hall⟩ := rdC_struct Tryz.underlying31 h
  obtain ⟨x0, x1, x2, rfl⟩ := list3_api_Row (hl.trans (by kernel_rfl))
  simp only [List.mem_cons, List.not_mem_nil, or_false, forall_eq_or_imp, forall_eq] at hall
  have c28 : Tryz.prog.cellsOf 28 = 2 := by kernel_rfl
  have c29 : Tryz.prog.cellsOf 29 = 1 := by kernel_rfl
  obtain ⟨h0, h1⟩ := hall
  exact ⟨x0, x1, x2, rfl, f', by simpa [c28] using h0, by simpa [c29] using h1⟩
theorem list7_api_Env {cs : List Value} (h : cs.length = 7) : ∃ x0 x1 x2 x3 x4 x5 x6, cs = [x0, x1, x2, x3, x4, x5, x6] := by
  match cs, h with
  | [x0, x1, x2, x3, x4, x5, x6], _ => exact ⟨x0, x1, x2, x3, x4, x5, x6, rfl⟩
theorem rdS_api_Env {H : Heap} {f : Nat} {cs : List Value} (h : RdC Tryz.prog H f 33 cs) : ∃ x0 x1 x2 x3 x4 x5 x6, cs = [x0, x1, x2, x3, x4, x5, x6] ∧ ∃ f', RdC Tryz.prog H f' 3 [x0] ∧ RdC Tryz.prog H f' 2 [x1] ∧ RdC Tryz.prog H f' 3 [x2] ∧ RdC Tryz.prog H f' 26 [x3] ∧ RdC Tryz.prog H f' 31 [x4, x5, x6] := by
  obtain ⟨f', hl, hall⟩ := rdC_struct Tryz.underlying33 h
  obtain ⟨x0, x1, x2, x3, x4, x5, x6, rfl⟩ := list7_api_Env (hl.trans (by kernel_rfl))
  simp only [List.mem_cons, List.not_mem_nil, or_false, forall_eq_or_imp, forall_eq] at hall
  have c2 : Tryz.prog.cellsOf 2 = 1 := by kernel_rfl
  have c3 : Tryz.prog.cellsOf 3 = 1 := by kernel_rfl
  have c26 : Tryz.prog.cellsOf 26 = 1 := by kernel_rfl
  have c31 : Tryz.prog.cellsOf 31 = 3 := by kernel_rfl
  obtain ⟨h0, h1, h2, h3, h4⟩ := hall
  exact ⟨x0, x1, x2, x3, x4, x5, x6, rfl, f', by simpa [c3] using h0, by simpa [c2] using h1, by simpa [c3] using h2, by simpa [c26] using h3, by simpa [c31] using h4⟩
theorem list4_api_Routine {cs : List Value} (h : cs.length = 4) : ∃ x0 x1 x2 x3, cs = [x0, x1, x2, x3] := by
  match cs, h with
  | [x0, x1, x2, x3], _ => exact ⟨x0, x1, x2, x3, rfl⟩
theorem rdS_api_Routine {H : Heap} {f : Nat} {cs : List Value} (h : RdC Tryz.prog H f 52 cs) : ∃ x0 x1 x2 x3, cs = [x0, x1, x2, x3] ∧ ∃ f', RdC Tryz.prog H f' 9 [x0] ∧ RdC Tryz.prog H f' 3 [x1] ∧ RdC Tryz.prog H f' 3 [x2] ∧ RdC Tryz.prog H f' 50 [x3] := by
  obtain ⟨f', hl, hall⟩ := rdC_struct Tryz.underlying52 h
  obtain ⟨x0, x1, x2, x3, rfl⟩ := list4_api_Routine (hl.trans (by kernel_rfl))
  simp only [List.mem_cons, List.not_mem_nil, or_false, forall_eq_or_imp, forall_eq] at hall
  have c3 : Tryz.prog.cellsOf 3 = 1 := by kernel_rfl
  have c9 : Tryz.prog.cellsOf 9 = 1 := by kernel_rfl
  have c50 : Tryz.prog.cellsOf 50 = 1 := by kernel_rfl
  obtain ⟨h0, h1, h2, h3⟩ := hall
  exact ⟨x0, x1, x2, x3, rfl, f', by simpa [c9] using h0, by simpa [c3] using h1, by simpa [c3] using h2, by simpa [c50] using h3⟩
theorem list8_api_System {cs : List Value} (h : cs.length = 8) : ∃ x0 x1 x2 x3 x4 x5 x6 x7, cs = [x0, x1, x2, x3, x4, x5, x6, x7] := by
  match cs, h with
  | [x0, x1, x2, x3, x4, x5, x6, x7], _ => exact ⟨x0, x1, x2, x3, x4, x5, x6, x7, rfl⟩
theorem rdS_api_System {H : Heap} {f : Nat} {cs : List Value} (h : RdC Tryz.prog H f 55 cs) : ∃ x0 x1 x2 x3 x4 x5 x6 x7, cs = [x0, x1, x2, x3, x4, x5, x6, x7] ∧ ∃ f', RdC Tryz.prog H f' 53 [x0] ∧ RdC Tryz.prog H f' 53 [x1] ∧ RdC Tryz.prog H f' 53 [x2] ∧ RdC Tryz.prog H f' 53 [x3] ∧ RdC Tryz.prog H f' 52 [x4, x5, x6, x7] := by
  obtain ⟨f', hl, hall⟩ := rdC_struct Tryz.underlying55 h
  obtain ⟨x0, x1, x2, x3, x4, x5, x6, x7, rfl⟩ := list8_api_System (hl.trans (by kernel_rfl))
  simp only [List.mem_cons, List.not_mem_nil, or_false, forall_eq_or_imp, forall_eq] at hall
  have c52 : Tryz.prog.cellsOf 52 = 4 := by kernel_rfl
  have c53 : Tryz.prog.cellsOf 53 = 1 := by kernel_rfl
  obtain ⟨h0, h1, h2, h3, h4⟩ := hall
  exact ⟨x0, x1, x2, x3, x4, x5, x6, x7, rfl, f', by simpa [c53] using h0, by simpa [c53] using h1, by simpa [c53] using h2, by simpa [c53] using h3, by simpa [c52] using h4⟩
theorem list3_api_Input {cs : List Value} (h : cs.length = 3) : ∃ x0 x1 x2, cs = [x0, x1, x2] := by
  match cs, h with
  | [x0, x1, x2], _ => exact ⟨x0, x1, x2, rfl⟩
theorem rdS_api_Input {H : Heap} {f : Nat} {cs : List Value} (h : RdC Tryz.prog H f 57 cs) : ∃ x0 x1 x2, cs = [x0, x1, x2] ∧ ∃ f', RdC Tryz.prog H f' 3 [x0] ∧ RdC Tryz.prog H f' 3 [x1] ∧ RdC Tryz.prog H f' 2 [x2] := by
  obtain ⟨f', hl, hall⟩ := rdC_struct Tryz.underlying57 h
  obtain ⟨x0, x1, x2, rfl⟩ := list3_api_Input (hl.trans (by kernel_rfl))
  simp only [List.mem_cons, List.not_mem_nil, or_false, forall_eq_or_imp, forall_eq] at hall
  have c2 : Tryz.prog.cellsOf 2 = 1 := by kernel_rfl
  have c3 : Tryz.prog.cellsOf 3 = 1 := by kernel_rfl
  obtain ⟨h0, h1, h2⟩ := hall
  exact ⟨x0, x1, x2, rfl, f', by simpa [c3] using h0, by simpa [c3] using h1, by simpa [c2] using h2⟩
theorem list2_api_Part {cs : List Value} (h : cs.length = 2) : ∃ x0 x1, cs = [x0, x1] := by
  match cs, h with
  | [x0, x1], _ => exact ⟨x0, x1, rfl⟩
theorem rdS_api_Part {H : Heap} {f : Nat} {cs : List Value} (h : RdC Tryz.prog H f 60 cs) : ∃ x0 x1, cs = [x0, x1] ∧ ∃ f', RdC Tryz.prog H f' 3 [x0] ∧ RdC Tryz.prog H f' 58 [x1] := by
  obtain ⟨f', hl, hall⟩ := rdC_struct Tryz.underlying60 h
  obtain ⟨x0, x1, rfl⟩ := list2_api_Part (hl.trans (by kernel_rfl))
  simp only [List.mem_cons, List.not_mem_nil, or_false, forall_eq_or_imp, forall_eq] at hall
  have c3 : Tryz.prog.cellsOf 3 = 1 := by kernel_rfl
  have c58 : Tryz.prog.cellsOf 58 = 1 := by kernel_rfl
  obtain ⟨h0, h1⟩ := hall
  exact ⟨x0, x1, rfl, f', by simpa [c3] using h0, by simpa [c58] using h1⟩
theorem list2_api_Instr {cs : List Value} (h : cs.length = 2) : ∃ x0 x1, cs = [x0, x1] := by
  match cs, h with
  | [x0, x1], _ => exact ⟨x0, x1, rfl⟩
theorem rdS_api_Instr {H : Heap} {f : Nat} {cs : List Value} (h : RdC Tryz.prog H f 74 cs) : ∃ x0 x1, cs = [x0, x1] ∧ ∃ f', RdC Tryz.prog H f' 3 [x0] ∧ RdC Tryz.prog H f' 2 [x1] := by
  obtain ⟨f', hl, hall⟩ := rdC_struct Tryz.underlying74 h
  obtain ⟨x0, x1, rfl⟩ := list2_api_Instr (hl.trans (by kernel_rfl))
  simp only [List.mem_cons, List.not_mem_nil, or_false, forall_eq_or_imp, forall_eq] at hall
  have c2 : Tryz.prog.cellsOf 2 = 1 := by kernel_rfl
  have c3 : Tryz.prog.cellsOf 3 = 1 := by kernel_rfl
  obtain ⟨h0, h1⟩ := hall
  exact ⟨x0, x1, rfl, f', by simpa [c3] using h0, by simpa [c2] using h1⟩
abbrev prgA (p : Sl × Sl) : Value := .agg #[.slice p.1.a p.1.len p.1.cap, .slice p.2.a p.2.len p.2.cap]
structure RouI (H : Heap) (r : Rou) : Prop where
  code : CodeR H r
  len : r.code.length ≤ 2 ^ 43
  par : I64 r.params
  loc : I64 r.locals
  ins : ∀ i ∈ r.code, I64 i.1 ∧ I64 i.2
  name : r.name.size ≤ 2 ^ 47
structure SyI (H : Heap) (x : Sy) : Prop where
  sets : ∀ q, q < 4 → RL (Value.int .i64) H (x.s q) (x.l q)
  lens : ∀ q, q < 4 → (x.l q).length ≤ 2 ^ 44
  ints : ∀ q, q < 4 → ∀ y ∈ x.l q, I64 y
  rou : RouI H x.rou
structure PrgI (H : Heap) (p : Sl × Sl) (ss : List Sy) (fs : List Rou) : Prop where
  sys : RN sysV 8 H p.1 ss
  sysR : ∀ x ∈ ss, SyI H x
  fun' : RN rouV 4 H p.2 fs
  funR : ∀ r ∈ fs, RouI H r
  sl : ss.length * 152 ≤ 2 ^ 47
  fl : fs.length * 56 ≤ 2 ^ 47
theorem PrgI.prg {H : Heap} {p : Sl × Sl} {ss : List Sy} {fs : List Rou} (h : PrgI H p ss fs) : PrgR H p ss fs :=
  ⟨h.sys, fun x hx => ⟨(h.sysR x hx).sets, (h.sysR x hx).rou.code, fun q hq => by have := (h.sysR x hx).lens q hq; omega, by have := (h.sysR x hx).rou.len; omega⟩, h.fun', fun r hr => (h.funR r hr).code, fun r hr => by have := (h.funR r hr).len; omega⟩
theorem PrgI.par {H : Heap} {p : Sl × Sl} {ss : List Sy} {fs : List Rou} (h : PrgI H p ss fs) : ∀ x ∈ parms fs, I64 x := fun x hx => by
  obtain ⟨r, hr, rfl⟩ := List.mem_map.1 hx
  exact (h.funR r hr).par
theorem b47 : Tryz.prog.bytesOf 74 = 16 := by kernel_rfl
theorem rdC_rou {H : Heap} {f : Nat} {cs : List Value} (h : RdC Tryz.prog H f 52 cs) : ∃ r : Rou, cs = rouV r ∧ RouI H r := by
  have c47 : Tryz.prog.cellsOf 74 = 2 := by kernel_rfl
  obtain ⟨x0, x1, x2, x3, rfl, f', h0, h1, h2, h3⟩ := rdS_api_Routine h
  obtain ⟨n, e0, hn⟩ := rdC_string Tryz.underlying9 h0
  obtain ⟨a, e1, ha⟩ := rdC_i64 Tryz.underlying3 h1
  obtain ⟨b, e2, hb⟩ := rdC_i64 Tryz.underlying3 h2
  obtain ⟨s, xs, e3, hs, hx, hc⟩ := rdC_rows Tryz.underlying50 c47 insV_len (Q := fun i => I64 i.1 ∧ I64 i.2) (fun f cs hh => by
    obtain ⟨y0, y1, rfl, f', g0, g1⟩ := rdS_api_Instr hh
    obtain ⟨a, e0, ha⟩ := rdC_i64 Tryz.underlying3 g0
    obtain ⟨b, e1, hb⟩ := rdC_i64 Tryz.underlying2 g1
    simp only [List.cons.injEq, and_true] at e0 e1
    subst e0 e1
    exact ⟨(a, b), rfl, ha, hb⟩) h3
  simp only [List.cons.injEq, and_true] at e0 e1 e2
  subst e0 e1 e2 e3
  refine ⟨⟨n, a, b, s, xs⟩, rfl, hs, ?_, ha, hb, hx, by have := reach47; show n.size ≤ _; omega⟩
  rw [b47] at hc
  have h1 := hs.len
  have h2 := hs.cap
  have := reach47
  show xs.length ≤ _
  omega
theorem rdC_set {H : Heap} {f : Nat} {v : Value} (h : RdC Tryz.prog H f 53 [v]) : ∃ (s : Sl) (xs : List Int), v = slV s ∧ RL (Value.int .i64) H s xs ∧ (∀ x ∈ xs, I64 x) ∧ xs.length ≤ 2 ^ 44 := by
  have c3 : Tryz.prog.cellsOf 3 = 1 := by kernel_rfl
  have b3 : Tryz.prog.bytesOf 3 = 8 := by kernel_rfl
  obtain ⟨s, xs, e, h1, h2, h3, h4⟩ := rdC_ints Tryz.underlying53 Tryz.underlying3 c3 h
  rw [b3] at h3
  refine ⟨s, xs, e, h1, h2, ?_⟩
  have := h1.len; have := h1.cap; have := reach47; omega
def pick4 {α : Type} (a b c d : α) (q : Nat) : α := if q = 0 then a else if q = 1 then b else if q = 2 then c else d
theorem rdC_sys {H : Heap} {f : Nat} {cs : List Value} (h : RdC Tryz.prog H f 55 cs) : ∃ x : Sy, cs = sysV x ∧ SyI H x := by
  obtain ⟨x0, x1, x2, x3, x4, x5, x6, x7, rfl, f', h0, h1, h2, h3, h4⟩ := rdS_api_System h
  obtain ⟨s0, l0, rfl, r0, i0, n0⟩ := rdC_set h0
  obtain ⟨s1, l1, rfl, r1, i1, n1⟩ := rdC_set h1
  obtain ⟨s2, l2, rfl, r2, i2, n2⟩ := rdC_set h2
  obtain ⟨s3, l3, rfl, r3, i3, n3⟩ := rdC_set h3
  obtain ⟨r, e, hr⟩ := rdC_rou h4
  simp only [List.cons.injEq, and_true] at e
  obtain ⟨rfl, rfl, rfl, rfl⟩ := e
  refine ⟨⟨pick4 s0 s1 s2 s3, pick4 l0 l1 l2 l3, r⟩, rfl, fun q hq => ?_, fun q hq => ?_, fun q hq => ?_, hr⟩
  all_goals
    match q, hq with
    | 0, _ => assumption
    | 1, _ => assumption
    | 2, _ => assumption
    | 3, _ => assumption
theorem rd_prog {H : Heap} {v : Value} (h : RdV Tryz.prog H 25 v) : ∃ (p : Sl × Sl) (ss : List Sy) (fs : List Rou), v = prgA p ∧ PrgI H p ss fs := by
  have c60 : Tryz.prog.cellsOf 55 = 8 := by kernel_rfl
  have c28 : Tryz.prog.cellsOf 52 = 4 := by kernel_rfl
  have b60 : Tryz.prog.bytesOf 55 = 152 := by kernel_rfl
  have b28 : Tryz.prog.bytesOf 52 = 56 := by kernel_rfl
  obtain ⟨f, cs, rfl, hr⟩ := rd_struct Tryz.underlying25 h
  obtain ⟨x0, x1, e, f', h0, h1⟩ := rdS_api_Program hr
  obtain ⟨s, ss, rfl, hs, hx, hc⟩ := rdC_rows Tryz.underlying22 c60 sysV_len (fun f cs hh => rdC_sys hh) h0
  obtain ⟨t, fs, rfl, ht, hy, hd⟩ := rdC_rows Tryz.underlying23 c28 rouV_len (fun f cs hh => rdC_rou hh) h1
  rw [b60] at hc
  rw [b28] at hd
  have := reach47
  have g1 := hs.len
  have g2 := hs.cap
  have g3 := ht.len
  have g4 := ht.cap
  subst e
  exact ⟨(s, t), ss, fs, rfl, hs, hx, ht, hy, by omega, by omega⟩
structure EnvI (H : Heap) (e : EnV) (ins : List (Int × Int × Int)) (ps : List PtP) : Prop where
  fr : I64 e.fr
  sd : I64 e.sd
  en : I64 e.en
  ix : I64 e.ix
  gn : I64 e.gn
  inp : RN inV 3 H e.inS ins
  in64 : ∀ x ∈ ins, I64 x.1 ∧ I64 x.2.1 ∧ I64 x.2.2
  inL : ins.length * 24 ≤ 140737488351232
  prt : RN ptV 2 H e.rp ps
  prR : ∀ q ∈ ps, RL (Value.int .i64) H q.sl q.vals ∧ q.vals.length ≤ 2 ^ 44 ∧ All64 q.vals ∧ I64 q.kind
  prL : ps.length * 32 ≤ 2 ^ 47
theorem rdC_nums {H : Heap} {f : Nat} {v : Value} (h : RdC Tryz.prog H f 58 [v]) : ∃ (s : Sl) (xs : List Int), v = slV s ∧ RL (Value.int .i64) H s xs ∧ (∀ x ∈ xs, I64 x) ∧ xs.length ≤ 2 ^ 44 := by
  have c3 : Tryz.prog.cellsOf 2 = 1 := by kernel_rfl
  have b3 : Tryz.prog.bytesOf 2 = 8 := by kernel_rfl
  obtain ⟨s, xs, e, h1, h2, h3, h4⟩ := rdC_ints Tryz.underlying58 Tryz.underlying2 c3 h
  rw [b3] at h3
  refine ⟨s, xs, e, h1, h2, ?_⟩
  have := h1.len; have := h1.cap; have := reach47; omega
theorem rd_env {H : Heap} {v : Value} (h : RdV Tryz.prog H 33 v) : ∃ (e : EnV) (ins : List (Int × Int × Int)) (ps : List PtP), v = envA e ∧ EnvI H e ins ps := by
  have c57 : Tryz.prog.cellsOf 57 = 3 := by kernel_rfl
  have b57 : Tryz.prog.bytesOf 57 = 24 := by kernel_rfl
  have c60 : Tryz.prog.cellsOf 60 = 2 := by kernel_rfl
  have b60 : Tryz.prog.bytesOf 60 = 32 := by kernel_rfl
  obtain ⟨f, cs, rfl, hr⟩ := rd_struct Tryz.underlying33 h
  obtain ⟨x0, x1, x2, x3, x4, x5, x6, e, f', h0, h1, h2, h3, h4⟩ := rdS_api_Env hr
  obtain ⟨y0, y1, y2, e', f2, g0, g1⟩ := rdS_api_Row h4
  obtain ⟨z0, z1, e'', f3, k0, k1⟩ := rdS_api_Entity g0
  simp only [List.cons.injEq, and_true] at e' e''
  obtain ⟨rfl, rfl, rfl⟩ := e'
  obtain ⟨rfl, rfl⟩ := e''
  obtain ⟨a0, e0, i0⟩ := rdC_i64 Tryz.underlying3 h0
  obtain ⟨a1, e1, i1⟩ := rdC_i64 Tryz.underlying2 h1
  obtain ⟨a2, e2, i2⟩ := rdC_i64 Tryz.underlying3 h2
  obtain ⟨a4, e4, i4⟩ := rdC_i64 Tryz.underlying3 k0
  obtain ⟨a5, e5, i5⟩ := rdC_i64 Tryz.underlying3 k1
  simp only [List.cons.injEq, and_true] at e0 e1 e2 e4 e5
  subst e0 e1 e2 e4 e5
  obtain ⟨s, ins, rfl, hs, hx, hc⟩ := rdC_rows Tryz.underlying26 c57 inV_len (Q := fun x => I64 x.1 ∧ I64 x.2.1 ∧ I64 x.2.2) (fun f cs hh => by
    obtain ⟨y0, y1, y2, rfl, f', g0, g1, g2⟩ := rdS_api_Input hh
    obtain ⟨a, e0, ha⟩ := rdC_i64 Tryz.underlying3 g0
    obtain ⟨b, e1, hb⟩ := rdC_i64 Tryz.underlying3 g1
    obtain ⟨c, e2, hc⟩ := rdC_i64 Tryz.underlying2 g2
    simp only [List.cons.injEq, and_true] at e0 e1 e2
    subst e0 e1 e2
    exact ⟨(a, b, c), rfl, ha, hb, hc⟩) h3
  obtain ⟨t, ps, rfl, ht, hy, hd⟩ := rdC_rows Tryz.underlying29 c60 ptV_len (Q := fun q : PtP => RL (Value.int .i64) H q.sl q.vals ∧ q.vals.length ≤ 2 ^ 44 ∧ All64 q.vals ∧ I64 q.kind) (fun f cs hh => by
    obtain ⟨y0, y1, rfl, f', g0, g1⟩ := rdS_api_Part hh
    obtain ⟨a, e0, ha⟩ := rdC_i64 Tryz.underlying3 g0
    obtain ⟨u, xs, rfl, h1, h2, h3⟩ := rdC_nums g1
    simp only [List.cons.injEq, and_true] at e0
    subst e0
    exact ⟨⟨a, u, xs⟩, rfl, h1, h3, h2, ha⟩) g1
  rw [b57] at hc
  rw [b60] at hd
  have hrb : reachBytes = 140737488351232 := rfl
  have q1 := hs.len
  have q2 := hs.cap
  have q3 := ht.len
  have q4 := ht.cap
  subst e
  exact ⟨⟨a0, a1, a2, s, a4, a5, t⟩, ins, ps, rfl, i0, i1, i2, i4, i5, hs, hx, by omega, ht, hy, by omega⟩
end
end Go.Proofs.YtfpmgpblhhcpgaaGreat
