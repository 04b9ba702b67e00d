/-
  Machine: the document's outcome, typed; runs of copied programs for copied Envs.
-/
import Derived.Test.YtfpmgpblhhcpgaaGreatPK
import Derived.Test.YtfpmgpblhhcpgaaGreatVLawC
import Derived.Test.YtfpmgpblhhcpgaaGreatHcLists
import Derived.KernelRfl
import Derived.Test.YtfpmgpblhhcpgaaGreatProg
namespace Go.Proofs.YtfpmgpblhhcpgaaGreat
set_option linter.unusedVariables false
set_option linter.unusedSimpArgs false
set_option maxRecDepth 100000
section
open Hc Hc.Vf Hc.Mc Hc.Dice
variable {H : Heap}
structure OutD (H : Heap) (r : OutS) (o : Outc) (ps : List PtP) (cl : List CmP) : Prop where
  vv : VecN H T_api_Part 2 r.1 (ps.flatMap ptV)
  vR : ∀ q ∈ ps, Vec H T_int64 q.sl (ints q.vals)
  cv : VecN H T_api_Command 6 r.2.1 (cl.flatMap cmV)
  cR : ∀ q ∈ cl, Vec H T_int64 q.vsl (ints q.vals) ∧ VecN H T_api_Part 2 q.psl (q.parts.flatMap ptV) ∧ ∀ p ∈ q.parts, Vec H T_int64 p.sl (ints p.vals)
  ev : VecN H T_api_Event 5 r.2.2.1 (o.evs.flatMap evV)
  vals : ps.map PtP.pt = o.vals
  cmds : cl.map CmP.cm = o.cmds
  st : r.2.2.2.1 = o.st
  er : r.2.2.2.2 = o.er
theorem OutD.rd {r : OutS} {o : Outc} {ps : List PtP} {cl : List CmP} (h : OutD H r o ps cl) : OutRd H r o ps cl :=
  ⟨VecN.rn ptV_len (by decide) h.vv, fun q hq => (h.vR q hq).rl, VecN.rn cmV_len (by decide) h.cv, fun q hq => ⟨(h.cR q hq).1.rl, VecN.rn ptV_len (by decide) (h.cR q hq).2.1, fun p hp => ((h.cR q hq).2.2 p hp).rl⟩, VecN.rn evV_len (by decide) h.ev, h.vals, h.cmds, h.st, h.er⟩
theorem OutD.nil {st er : Int} : OutD H (⟨none, 0, 0⟩, ⟨none, 0, 0⟩, ⟨none, 0, 0⟩, st, er) ⟨[], [], [], st, er⟩ [] [] :=
  ⟨VecN.nil _ _ _, (fun q h => by cases h), VecN.nil _ _ _, (fun q h => by cases h), VecN.nil _ _ _, rfl, rfl, rfl, rfl⟩
theorem VecN.off {T T' : TypeId} {n : Nat} {s : Sl} {vs ws : List Value} {b : Nat} {H' : Heap} (h : VecN H T n s vs) (hU : Upd (· = b) H H') (hT : T ≠ T') (hb : (∃ ws, Row H b T' ws) ∨ H.size ≤ b) : VecN H' T n s vs := VecN.upd hU h fun c hc e => by
  subst e
  rcases hb with ⟨ws, hw⟩ | hb
  · exact VecN.ne h hc hw hT rfl
  · have := VecN.lt h hc; omega
theorem Vec.off {T T' : TypeId} {s : Sl} {vs : List Value} {b : Nat} {H' : Heap} (h : Vec H T s vs) (hU : Upd (· = b) H H') (hT : T ≠ T') (hb : (∃ ws, Row H b T' ws) ∨ H.size ≤ b) : Vec H' T s vs := Vec.upd hU h fun c hc e => by
  subst e
  rcases hb with ⟨ws, hw⟩ | hb
  · exact Vec.ne h hc hw hT rfl
  · have := Vec.lt h hc; omega
theorem OutD.off {r : OutS} {o : Outc} {ps : List PtP} {cl : List CmP} {b : Nat} {H' : Heap} (h : OutD H r o ps cl) (hU : Upd (· = b) H H') (hb : (∃ ws, Row H b T_api_Outcome ws) ∨ H.size ≤ b) : OutD H' r o ps cl :=
  ⟨VecN.off (ws := []) h.vv hU (by decide) hb, fun q hq => Vec.off (h.vR q hq) hU (by decide) hb, VecN.off (ws := []) h.cv hU (by decide) hb, fun q hq => ⟨Vec.off (h.cR q hq).1 hU (by decide) hb, VecN.off (ws := []) (h.cR q hq).2.1 hU (by decide) hb, fun p hp => Vec.off ((h.cR q hq).2.2 p hp) hU (by decide) hb⟩, VecN.off (ws := []) h.ev hU (by decide) hb, h.vals, h.cmds, h.st, h.er⟩
theorem OutD.ext {r : OutS} {o : Outc} {ps : List PtP} {cl : List CmP} {H' : Heap} (h : OutD H r o ps cl) (hE : Ext H H') : OutD H' r o ps cl :=
  ⟨VecN.ext hE h.vv, fun q hq => Vec.ext hE (h.vR q hq), VecN.ext hE h.cv, fun q hq => ⟨Vec.ext hE (h.cR q hq).1, VecN.ext hE (h.cR q hq).2.1, fun p hp => Vec.ext hE ((h.cR q hq).2.2 p hp)⟩, VecN.ext hE h.ev, h.vals, h.cmds, h.st, h.er⟩
theorem OutM.d {lo : Nat} {r : OutS} {o : Outc} {ps : List PtP} {cl : List CmP} (h : OutM lo H r o ps cl) : OutD H r o ps cl := ⟨h.out.vv, h.out.vR, h.out.cv, h.out.cR, h.out.ev, h.vals, h.cmds, h.st, h.er⟩
theorem s_rRunD {B : Heap} {p : Sl × Sl} {ss : List Sy} {fs : List Rou} {e : EnV} {ins : List (Int × Int × Int)} {ps0 : List PtP} (hss : RN sysV 8 H p.1 ss) {n : Int} (hi : 0 ≤ n ∧ n < (ss.length : Int) → RunIn H p ss n e ps0 fs ins) {k : OutS → Heap → Prop}
    (hk : ∀ H' r o vs cl, Ext H H' → OutIs (2 ^ 63) ss fs n (enS e ins) (ps0.map PtP.pt) o → OutD H' r o vs cl → k r H') :
    CallT Pg f_R_Run [prgA p, .int .i64 n, envA e] RunT H k := by
  by_cases hn : 0 ≤ n ∧ n < (ss.length : Int)
  · refine s_rRun (hi hn) (fun H' N er m' h hr hne => hk _ _ _ _ _ h ((if_pos hn).mpr (.inr ⟨N, er, m', hne, hr, rfl⟩)) OutD.nil)
      fun H' N m' vs cs es ps' cl q h hr g1 g2 g3 g4 g5 g6 g7 g8 => hk _ _ _ ps' cl h ((if_pos hn).mpr (.inl ⟨N, m', hr, rfl⟩)) ⟨g1, g2, g3, g4, g5, ?_, g6.symm, rfl, rfl⟩
    rw [g8, partsOf_pt, ← g7]
  · have hsl := hss.len
    refine c_R_Run p n (e.fr, e.sd, e.en, e.inS, e.ix, e.gn, e.rp) ?_
    unfold v_R_Run
    refine Nw_row (vs := [slV p.1, slV p.2]) fun b1 H1 hb1 hE1 hz1 hr1 => ?_
    refine Nw_row (vs := envL e) fun b2 H2 hb2 hE2 hz2 hr2 => ?_
    refine Nw_row (vs := [.slice none 0 0, .slice none 0 0, .slice none 0 0, .int .i64 0, .int .i64 0]) fun b3 H3 hb3 hE3 hz3 hr3 => ?_
    have hE03 : Ext H H3 := (hE1.trans hE2 fun _ _ h => h).trans hE3 fun _ _ h => h
    have hr1 := (hE2.trans hE3 fun _ _ h => h).row hr1 fun h => h
    refine Jn.mk (fun j H' => H3 = H' ∧ j = true) (fun kk hkk => ?_) ?_
    · exact Br_dec (fun h => hkk _ _ ⟨rfl, rfl⟩) fun h => Ld_sl (s := p.1) ((hr1.cell 0).trans rfl) (hkk _ _ ⟨rfl, decide_eq_true (by omega)⟩)
    rintro j _ ⟨rfl, rfl⟩
    rw [Br_true]
    simp only [adr_add]
    refine St_row hr3 (by simp) fun G1 hU1 _ hg1 => St_row hg1 (by simp) fun G2 hU2 _ hg2 => St_row hg2 (by simp) fun G3 hU3 _ hg3 => St_row hg3 (by simp) fun G4 hU4 _ hg4 => St_row hg4 (by simp) fun G5 hU5 _ hg5 => ?_
    refine ⟨(⟨none, 0, 0⟩, ⟨none, 0, 0⟩, ⟨none, 0, 0⟩, 0, 190), hg5.rd_all, ?_⟩
    have hUU := (((hU1.trans hU2 fun _ _ e => e).trans hU3 fun _ _ e => e).trans hU4 fun _ _ e => e).trans hU5 fun _ _ e => e
    exact hk G5 _ ⟨[], [], [], 0, 190⟩ _ _ (extUpd (b := b3) hE03 (by have := hE1.size; have := hE2.size; omega) hUU) (by unfold OutIs; rw [if_neg hn]) OutD.nil
theorem run3R {f : FuncId} {H5 : Heap} {p : Sl × Sl} {e : EnV} {ins : List (Int × Int × Int)} {ps : List PtP} {n : Int} {b1 b2 : Nat} (hin : RN inV 3 H5 e.inS ins) (hil : ins.length ≤ 2 ^ 43) (hprt : RN ptV 2 H5 e.rp ps) (hpr : ∀ q ∈ ps, RL (Value.int .i64) H5 q.sl q.vals ∧ q.vals.length ≤ 2 ^ 44) (hpl : ps.length ≤ 2 ^ 42)
    (r1 : Row H5 b1 T_api_Program [slV p.1, slV p.2]) (r2 : Row H5 b2 T_api_Env (envL e)) {Res : Heap → Heap → OutS → Prop} (hupd : ∀ {H7 H8 H9 r b}, Res H7 H8 r → Upd (· = b) H8 H9 → (b < H7.size ∧ (∃ vs, Row H8 b T_api_Outcome vs) ∨ H8.size ≤ b) → Res H7 H9 r)
    (hrun : ∀ {H7 : Heap} {lo bi bp : Nat} {qs : List PtP}, Ext H5 H7 → CpR lo H7 bi bp ins qs → qs.map PtP.pt = ps.map PtP.pt → ∀ {k : OutS → Heap → Prop}, (∀ H8 r, Ext H7 H8 → Res H7 H8 r → k r H8) → CallT Pg f [prgA p, .int .i64 n, envA (cpE e bi bp ins.length ps.length)] RunT H7 k)
    {K : Nat → Heap → Prop} (hK : ∀ H7 H14 b3 r, Ext H5 H14 → H5.size ≤ H7.size → Row H14 b3 T_api_Outcome (outV r) → Res H7 H14 r → H5.size ≤ b3 → K b3 H14) :
    (CallT Pg f_L_copied [envA e] EnvR H5 fun (r4 : Int × Int × Int × Sl × Int × Int × Sl) H7 =>
      Stab (stP b1 p) H7 <|
      ((CallT Pg f [prgA p, .int .i64 n, .agg #[.int .i64 r4.1, .int .i64 r4.2.1, .int .i64 r4.2.2.1, .slice r4.2.2.2.1.a r4.2.2.2.1.len r4.2.2.2.1.cap, .int .i64 r4.2.2.2.2.1, .int .i64 r4.2.2.2.2.2.1, .slice r4.2.2.2.2.2.2.a r4.2.2.2.2.2.2.len r4.2.2.2.2.2.2.cap]] RunT H7 fun (r5 : OutS) H8 =>
        Stab (stE b2 e) H8 <|
        Nw #[.slice none 0 0, .slice none 0 0, .slice none 0 0, .int .i64 0, .int .i64 0] T_api_Outcome H8 fun b3 H9 =>
        Stab (stE b2 e ++ stP b1 p) H9 <|
        St ⟨b3, 0, none⟩ (.slice r5.1.a r5.1.len r5.1.cap) H9 fun H10 =>
        St ⟨b3, 1, none⟩ (.slice r5.2.1.a r5.2.1.len r5.2.1.cap) H10 fun H11 =>
        St ⟨b3, 2, none⟩ (.slice r5.2.2.1.a r5.2.2.1.len r5.2.2.1.cap) H11 fun H12 =>
        St ⟨b3, 3, none⟩ (.int .i64 r5.2.2.2.1) H12 fun H13 =>
        St ⟨b3, 4, none⟩ (.int .i64 r5.2.2.2.2) H13 fun H14 => K b3 H14) ∧
      (Nw #[.slice none 0 0, .slice none 0 0, .slice none 0 0, .int .i64 0, .int .i64 0] T_api_Outcome H7 fun b3 H8 =>
        Stab (stE b2 e ++ stP b1 p) H8 <|
        CallT Pg f [prgA p, .int .i64 n, .agg #[.int .i64 r4.1, .int .i64 r4.2.1, .int .i64 r4.2.2.1, .slice r4.2.2.2.1.a r4.2.2.2.1.len r4.2.2.2.1.cap, .int .i64 r4.2.2.2.2.1, .int .i64 r4.2.2.2.2.2.1, .slice r4.2.2.2.2.2.2.a r4.2.2.2.2.2.2.len r4.2.2.2.2.2.2.cap]] RunT H8 fun (r5 : OutS) H9 =>
        Stab (stE b2 e) H9 <|
        St ⟨b3, 0, none⟩ (.slice r5.1.a r5.1.len r5.1.cap) H9 fun H10 =>
        St ⟨b3, 1, none⟩ (.slice r5.2.1.a r5.2.1.len r5.2.1.cap) H10 fun H11 =>
        St ⟨b3, 2, none⟩ (.slice r5.2.2.1.a r5.2.2.1.len r5.2.2.1.cap) H11 fun H12 =>
        St ⟨b3, 3, none⟩ (.int .i64 r5.2.2.2.1) H12 fun H13 =>
        St ⟨b3, 4, none⟩ (.int .i64 r5.2.2.2.2) H13 fun H14 => K b3 H14) ∧ True)) ∧
    (Nw #[.slice none 0 0, .slice none 0 0, .slice none 0 0, .int .i64 0, .int .i64 0] T_api_Outcome H5 fun b3 H6 =>
      Stab (stE b2 e ++ stP b1 p) H6 <|
      CallT Pg f_L_copied [envA e] EnvR H6 fun (r4 : Int × Int × Int × Sl × Int × Int × Sl) H7 =>
      Stab (stP b1 p) H7 <|
      CallT Pg f [prgA p, .int .i64 n, .agg #[.int .i64 r4.1, .int .i64 r4.2.1, .int .i64 r4.2.2.1, .slice r4.2.2.2.1.a r4.2.2.2.1.len r4.2.2.2.1.cap, .int .i64 r4.2.2.2.2.1, .int .i64 r4.2.2.2.2.2.1, .slice r4.2.2.2.2.2.2.a r4.2.2.2.2.2.2.len r4.2.2.2.2.2.2.cap]] RunT H7 fun (r5 : OutS) H8 =>
      Stab (stE b2 e) H8 <|
      St ⟨b3, 0, none⟩ (.slice r5.1.a r5.1.len r5.1.cap) H8 fun H10 =>
      St ⟨b3, 1, none⟩ (.slice r5.2.1.a r5.2.1.len r5.2.1.cap) H10 fun H11 =>
      St ⟨b3, 2, none⟩ (.slice r5.2.2.1.a r5.2.2.1.len r5.2.2.1.cap) H11 fun H12 =>
      St ⟨b3, 3, none⟩ (.int .i64 r5.2.2.2.1) H12 fun H13 =>
      St ⟨b3, 4, none⟩ (.int .i64 r5.2.2.2.2) H13 fun H14 => K b3 H14) ∧ True := by
  have tail : ∀ {H7 H8 : Heap} {b3 : Nat} {r : OutS}, Ext H5 H8 → H5.size ≤ H7.size → Res H7 H8 r → Row H8 b3 T_api_Outcome [.slice none 0 0, .slice none 0 0, .slice none 0 0, .int .i64 0, .int .i64 0] → H5.size ≤ b3 → (b3 < H7.size ∨ (∃ H8', H8'.size ≤ b3 ∧ Res H7 H8' r ∧ Ext H8' H8)) →
      St ⟨b3, 0, none⟩ (.slice r.1.a r.1.len r.1.cap) H8 fun H10 => St ⟨b3, 1, none⟩ (.slice r.2.1.a r.2.1.len r.2.1.cap) H10 fun H11 => St ⟨b3, 2, none⟩ (.slice r.2.2.1.a r.2.2.1.len r.2.2.1.cap) H11 fun H12 => St ⟨b3, 3, none⟩ (.int .i64 r.2.2.2.1) H12 fun H13 => St ⟨b3, 4, none⟩ (.int .i64 r.2.2.2.2) H13 fun H14 => K b3 H14 := fun {H7 H8 b3 r} hx h7 hres h3 hb3 hor => by
    refine St_row h3 (by simp) fun G1 hU1 _ hg1 => St_row hg1 (by simp) fun G2 hU2 _ hg2 => St_row hg2 (by simp) fun G3 hU3 _ hg3 => St_row hg3 (by simp) fun G4 hU4 _ hg4 => St_row hg4 (by simp) fun G5 hU5 _ hg5 => ?_
    have hUU : Upd (· = b3) H8 G5 := (((hU1.trans hU2 fun _ _ e => e).trans hU3 fun _ _ e => e).trans hU4 fun _ _ e => e).trans hU5 fun _ _ e => e
    refine hK H7 G5 b3 r (extUpd hx hb3 hUU) h7 hg5 ?_ hb3
    rcases hor with h | ⟨H8', h1, h2, h3⟩
    · exact hupd hres hUU (.inl ⟨h, _, h3⟩)
    · exact hupd h2 ((h3.mono fun _ _ h => h.elim).trans hUU fun _ _ e => e) (.inr h1)
  refine ⟨?_, ?_, trivial⟩
  · refine s_copied (e := e) hin hprt hpr hil hpl fun H7 bi bp qs hE7 hcp hqs => ?_
    have q1 := hE7.row r1 fun h => h
    have q2 := hE7.row r2 fun h => h
    refine Stab_all (st_prog q1) ⟨?_, ?_, trivial⟩
    · refine hrun hE7 hcp hqs fun H8 r hE8 hres => ?_
      have hE58 := hE7.trans hE8 fun _ _ h => h
      have q1 := hE8.row q1 fun h => h
      have q2 := hE8.row q2 fun h => h
      refine Stab_all (st_env q2) (Nw_row (vs := [.slice none 0 0, .slice none 0 0, .slice none 0 0, .int .i64 0, .int .i64 0]) fun b3 H9 hb3 hE9 _ hr3 => ?_)
      refine Stab_all (st_both (hE9.row q1 fun h => h) (hE9.row q2 fun h => h)) ?_
      exact tail (hE58.trans hE9 fun _ _ h => h) hE7.size (hupd hres (hE9.mono fun _ _ h => h.elim : Upd (· = b3) H8 H9) (.inr (by omega))) hr3 (by have := hE58.size; omega) (.inr ⟨H8, by omega, hres, hE9⟩)
    · refine Nw_row (vs := [.slice none 0 0, .slice none 0 0, .slice none 0 0, .int .i64 0, .int .i64 0]) fun b3 H8 hb3 hE8 _ hr3 => ?_
      have q1 := hE8.row q1 fun h => h
      have q2 := hE8.row q2 fun h => h
      refine Stab_all (st_both q1 q2) ?_
      have hE58 := hE7.trans hE8 fun _ _ h => h
      refine hrun hE58 (hcp.ext hE8) hqs fun H9 r hE9 hres => ?_
      refine Stab_all (st_env (hE9.row q2 fun h => h)) ?_
      exact tail (hE58.trans hE9 fun _ _ h => h) hE58.size hres (hE9.row hr3 fun h => h) (by have := hE7.size; omega) (.inl hr3.lt)
  · refine Nw_row (vs := [.slice none 0 0, .slice none 0 0, .slice none 0 0, .int .i64 0, .int .i64 0]) fun b3 H6 hb3 hE6 _ hr3 => ?_
    have q1 := hE6.row r1 fun h => h
    have q2 := hE6.row r2 fun h => h
    refine Stab_all (st_both q1 q2) ?_
    refine s_copied (e := e) (hin.ext hE6) (hprt.ext hE6) (fun q hq => ⟨(hpr q hq).1.ext hE6, (hpr q hq).2⟩) hil hpl fun H7 bi bp qs hE7 hcp hqs => ?_
    have q1 := hE7.row q1 fun h => h
    have q2 := hE7.row q2 fun h => h
    refine Stab_all (st_prog q1) ?_
    have hE57 := hE6.trans hE7 fun _ _ h => h
    refine hrun hE57 hcp hqs fun H8 r hE8 hres => ?_
    refine Stab_all (st_env (hE8.row q2 fun h => h)) ?_
    exact tail (hE57.trans hE8 fun _ _ h => h) hE57.size hres ((hE7.trans hE8 fun _ _ h => h).row hr3 fun h => h) (by omega) (.inl (by have := hr3.lt; have := hE7.size; omega))
end
section
open Hc Hc.Vf Hc.Mc Hc.Dice
variable {H : Heap}
abbrev nilO : List Value := [.slice none 0 0, .slice none 0 0, .slice none 0 0, .int .i64 0, .int .i64 0]
abbrev envT (r : Int × Int × Int × Sl × Int × Int × Sl) : Value := .agg #[.int .i64 r.1, .int .i64 r.2.1, .int .i64 r.2.2.1, .slice r.2.2.2.1.a r.2.2.2.1.len r.2.2.2.1.cap, .int .i64 r.2.2.2.2.1, .int .i64 r.2.2.2.2.2.1, .slice r.2.2.2.2.2.2.a r.2.2.2.2.2.2.len r.2.2.2.2.2.2.cap]
theorem run4R {f : FuncId} {H5 : Heap} {q : Sl × Sl} {ss : List Sy} {fs : List Rou} {e : EnV} {ins : List (Int × Int × Int)} {ps : List PtP} {n : Int} {b2 b5 : Nat} (hP : PrgI H5 q ss fs) (hin : RN inV 3 H5 e.inS ins) (hil : ins.length ≤ 2 ^ 43) (hprt : RN ptV 2 H5 e.rp ps) (hpr : ∀ q ∈ ps, RL (Value.int .i64) H5 q.sl q.vals ∧ q.vals.length ≤ 2 ^ 44) (hpl : ps.length ≤ 2 ^ 42)
    (r1 : Row H5 b5 T_api_Program [slV q.1, slV q.2]) (r2 : Row H5 b2 T_api_Env (envL e)) {Res : Heap → Heap → OutS → Prop} (hupd : ∀ {H7 H8 H9 r b}, Res H7 H8 r → Upd (· = b) H8 H9 → (b < H7.size ∧ (∃ vs, Row H8 b T_api_Outcome vs) ∨ H8.size ≤ b) → Res H7 H9 r)
    (hrun : ∀ {H7 : Heap} {lo lo2 bi bp bs bf : Nat} {qs : List PtP} {ss2 : List Sy} {fs2 : List Rou}, Ext H5 H7 → CpP lo2 H7 bs bf ss2 fs2 → ss2.map sysP = ss.map sysP → fs2.map rouP = fs.map rouP → CpR lo H7 bi bp ins qs → qs.map PtP.pt = ps.map PtP.pt → ∀ {k : OutS → Heap → Prop}, (∀ H8 r, Ext H7 H8 → Res H7 H8 r → k r H8) → CallT Pg f [prgA (cpQ bs bf ss.length fs.length), .int .i64 n, envA (cpE e bi bp ins.length ps.length)] RunT H7 k)
    {K : Nat → Heap → Prop} (hK : ∀ H7 H14 b3 r, Ext H5 H14 → H5.size ≤ H7.size → Row H14 b3 T_api_Outcome (outV r) → Res H7 H14 r → H5.size ≤ b3 → K b3 H14) :
    (CallT Pg f_L_program [prgA q] PrgT H5 fun (r24 : Sl × Sl) H65 =>
      Stab (stE b2 e) H65 <|
      (CallT Pg f_L_copied [envA e] EnvR H65 fun (r25 : Int × Int × Int × Sl × Int × Int × Sl) H66 =>
        Stab (stP b5 q) H66 <|
        (CallT Pg f [prgA r24, .int .i64 n, envT r25] RunT H66 fun (r26 : OutS) H67 =>
          Stab (stE b2 e ++ stP b5 q) H67 <|
          Nw ⟨nilO⟩ T_api_Outcome H67 fun b9 H68 =>
          Stab (stE b2 e ++ stP b5 q) H68 <|
          St ⟨b9, 0, none⟩ (.slice r26.1.a r26.1.len r26.1.cap) H68 fun H10 =>
          St ⟨b9, 1, none⟩ (.slice r26.2.1.a r26.2.1.len r26.2.1.cap) H10 fun H11 =>
          St ⟨b9, 2, none⟩ (.slice r26.2.2.1.a r26.2.2.1.len r26.2.2.1.cap) H11 fun H12 =>
          St ⟨b9, 3, none⟩ (.int .i64 r26.2.2.2.1) H12 fun H13 =>
          St ⟨b9, 4, none⟩ (.int .i64 r26.2.2.2.2) H13 fun H14 => K b9 H14) ∧
        (Nw ⟨nilO⟩ T_api_Outcome H66 fun b9 H68 =>
          Stab (stE b2 e ++ stP b5 q) H68 <|
          CallT Pg f [prgA r24, .int .i64 n, envT r25] RunT H68 fun (r26 : OutS) H69 =>
          Stab (stE b2 e ++ stP b5 q) H69 <|
          St ⟨b9, 0, none⟩ (.slice r26.1.a r26.1.len r26.1.cap) H69 fun H10 =>
          St ⟨b9, 1, none⟩ (.slice r26.2.1.a r26.2.1.len r26.2.1.cap) H10 fun H11 =>
          St ⟨b9, 2, none⟩ (.slice r26.2.2.1.a r26.2.2.1.len r26.2.2.1.cap) H11 fun H12 =>
          St ⟨b9, 3, none⟩ (.int .i64 r26.2.2.2.1) H12 fun H13 =>
          St ⟨b9, 4, none⟩ (.int .i64 r26.2.2.2.2) H13 fun H14 => K b9 H14) ∧ True) ∧
      (Nw ⟨nilO⟩ T_api_Outcome H65 fun b9 H66 =>
        Stab (stE b2 e ++ stP b5 q) H66 <|
        CallT Pg f_L_copied [envA e] EnvR H66 fun (r25 : Int × Int × Int × Sl × Int × Int × Sl) H67 =>
        Stab (stP b5 q) H67 <|
        CallT Pg f [prgA r24, .int .i64 n, envT r25] RunT H67 fun (r26 : OutS) H69 =>
        Stab (stE b2 e ++ stP b5 q) H69 <|
        St ⟨b9, 0, none⟩ (.slice r26.1.a r26.1.len r26.1.cap) H69 fun H10 =>
        St ⟨b9, 1, none⟩ (.slice r26.2.1.a r26.2.1.len r26.2.1.cap) H10 fun H11 =>
        St ⟨b9, 2, none⟩ (.slice r26.2.2.1.a r26.2.2.1.len r26.2.2.1.cap) H11 fun H12 =>
        St ⟨b9, 3, none⟩ (.int .i64 r26.2.2.2.1) H12 fun H13 =>
        St ⟨b9, 4, none⟩ (.int .i64 r26.2.2.2.2) H13 fun H14 => K b9 H14) ∧ True) ∧
    (Nw ⟨nilO⟩ T_api_Outcome H5 fun b9 H6 =>
      Stab (stE b2 e ++ stP b5 q) H6 <|
      CallT Pg f_L_program [prgA q] PrgT H6 fun (r24 : Sl × Sl) H65 =>
      Stab (stE b2 e) H65 <|
      CallT Pg f_L_copied [envA e] EnvR H65 fun (r25 : Int × Int × Int × Sl × Int × Int × Sl) H67 =>
      Stab (stP b5 q) H67 <|
      CallT Pg f [prgA r24, .int .i64 n, envT r25] RunT H67 fun (r26 : OutS) H69 =>
      Stab (stE b2 e ++ stP b5 q) H69 <|
      St ⟨b9, 0, none⟩ (.slice r26.1.a r26.1.len r26.1.cap) H69 fun H10 =>
      St ⟨b9, 1, none⟩ (.slice r26.2.1.a r26.2.1.len r26.2.1.cap) H10 fun H11 =>
      St ⟨b9, 2, none⟩ (.slice r26.2.2.1.a r26.2.2.1.len r26.2.2.1.cap) H11 fun H12 =>
      St ⟨b9, 3, none⟩ (.int .i64 r26.2.2.2.1) H12 fun H13 =>
      St ⟨b9, 4, none⟩ (.int .i64 r26.2.2.2.2) H13 fun H14 => K b9 H14) ∧ True := by
  have tail : ∀ {H7 H8 : Heap} {b3 : Nat} {r : OutS}, Ext H5 H8 → H5.size ≤ H7.size → Res H7 H8 r → Row H8 b3 T_api_Outcome nilO → H5.size ≤ b3 → (b3 < H7.size ∨ (∃ H8', H8'.size ≤ b3 ∧ Res H7 H8' r ∧ Ext H8' H8)) →
      St ⟨b3, 0, none⟩ (.slice r.1.a r.1.len r.1.cap) H8 fun H10 => St ⟨b3, 1, none⟩ (.slice r.2.1.a r.2.1.len r.2.1.cap) H10 fun H11 => St ⟨b3, 2, none⟩ (.slice r.2.2.1.a r.2.2.1.len r.2.2.1.cap) H11 fun H12 => St ⟨b3, 3, none⟩ (.int .i64 r.2.2.2.1) H12 fun H13 => St ⟨b3, 4, none⟩ (.int .i64 r.2.2.2.2) H13 fun H14 => K b3 H14 := fun {H7 H8 b3 r} hx h7 hres h3 hb3 hor => by
    refine St_row h3 (by simp) fun G1 hU1 _ hg1 => St_row hg1 (by simp) fun G2 hU2 _ hg2 => St_row hg2 (by simp) fun G3 hU3 _ hg3 => St_row hg3 (by simp) fun G4 hU4 _ hg4 => St_row hg4 (by simp) fun G5 hU5 _ hg5 => ?_
    have hUU : Upd (· = b3) H8 G5 := (((hU1.trans hU2 fun _ _ e => e).trans hU3 fun _ _ e => e).trans hU4 fun _ _ e => e).trans hU5 fun _ _ e => e
    refine hK H7 G5 b3 r (extUpd hx hb3 hUU) h7 hg5 ?_ hb3
    rcases hor with h | ⟨H8', h1, h2, h3'⟩
    · exact hupd hres hUU (.inl ⟨h, _, h3⟩)
    · exact hupd h2 ((h3'.mono fun _ _ h => h.elim).trans hUU fun _ _ e => e) (.inr h1)
  have pI : ∀ {H'}, Ext H5 H' → PrgI H' q ss fs := fun hE => ⟨hP.sys.ext hE, fun x hx => ⟨fun q hq => ((hP.sysR x hx).sets q hq).ext hE, (hP.sysR x hx).lens, (hP.sysR x hx).ints, ⟨(hP.sysR x hx).rou.code.ext hE, (hP.sysR x hx).rou.len, (hP.sysR x hx).rou.par, (hP.sysR x hx).rou.loc, (hP.sysR x hx).rou.ins, (hP.sysR x hx).rou.name⟩⟩, hP.fun'.ext hE, fun r hr => ⟨(hP.funR r hr).code.ext hE, (hP.funR r hr).len, (hP.funR r hr).par, (hP.funR r hr).loc, (hP.funR r hr).ins, (hP.funR r hr).name⟩, hP.sl, hP.fl⟩
  have cpy : ∀ {H' : Heap} {k : Int × Int × Int × Sl × Int × Int × Sl → Heap → Prop}, Ext H5 H' → (∀ H'' bi bp qs, Ext H' H'' → CpR H'.size H'' bi bp ins qs → qs.map PtP.pt = ps.map PtP.pt → k (e.fr, e.sd, e.en, ⟨some (adr bi), ins.length, ins.length + 80⟩, e.ix, e.gn, ⟨some (adr bp), ps.length, ps.length + 80⟩) H'') → CallT Pg f_L_copied [envA e] EnvR H' k := fun hE hk =>
    s_copied (e := e) (hin.ext hE) (hprt.ext hE) (fun q hq => ⟨(hpr q hq).1.ext hE, (hpr q hq).2⟩) hil hpl hk
  have w1 : ∀ {H'}, Ext H5 H' → Row H' b5 T_api_Program [slV q.1, slV q.2] := fun hE => hE.row r1 fun h => h
  have w2 : ∀ {H'}, Ext H5 H' → Row H' b2 T_api_Env (envL e) := fun hE => hE.row r2 fun h => h
  refine ⟨?_, ?_, trivial⟩
  · refine s_program hP fun H65 bs bf ss2 fs2 hE65 hcp hs hf => ?_
    refine Stab_all (st_env (w2 hE65)) ⟨?_, ?_, trivial⟩
    · refine cpy hE65 fun H66 bi bp qs hE66 hcr hqs => ?_
      have hx66 := hE65.trans hE66 fun _ _ h => h
      refine Stab_all (st_prog (w1 hx66)) ⟨?_, ?_, trivial⟩
      · refine hrun hx66 (hcp.ext hE66) hs hf hcr hqs fun H67 r hE67 hres => ?_
        have hx67 := hx66.trans hE67 fun _ _ h => h
        refine Stab_all (st_both (w1 hx67) (w2 hx67)) (Nw_row (vs := nilO) fun b3 H9 hb3 hE9 _ hr3 => ?_)
        have hx9 := hx67.trans hE9 fun _ _ h => h
        refine Stab_all (st_both (w1 hx9) (w2 hx9)) ?_
        exact tail hx9 hx66.size (hupd hres (hE9.mono fun _ _ h => h.elim : Upd (· = b3) H67 H9) (.inr (by omega))) hr3 (by have := hx67.size; omega) (.inr ⟨H67, by omega, hres, hE9⟩)
      · refine Nw_row (vs := nilO) fun b3 H9 hb3 hE9 _ hr3 => ?_
        have hx9 := hx66.trans hE9 fun _ _ h => h
        refine Stab_all (st_both (w1 hx9) (w2 hx9)) ?_
        refine hrun hx9 ((hcp.ext hE66).ext hE9) hs hf (hcr.ext hE9) hqs fun H67 r hE67 hres => ?_
        have hx67 := hx9.trans hE67 fun _ _ h => h
        refine Stab_all (st_both (w1 hx67) (w2 hx67)) ?_
        exact tail hx67 hx9.size hres (hE67.row hr3 fun h => h) (by have := hx66.size; omega) (.inl hr3.lt)
    · refine Nw_row (vs := nilO) fun b3 H9 hb3 hE9 _ hr3 => ?_
      have hx9 := hE65.trans hE9 fun _ _ h => h
      refine Stab_all (st_both (w1 hx9) (w2 hx9)) ?_
      refine cpy hx9 fun H66 bi bp qs hE66 hcr hqs => ?_
      have hx66 := hx9.trans hE66 fun _ _ h => h
      refine Stab_all (st_prog (w1 hx66)) ?_
      refine hrun hx66 ((hcp.ext hE9).ext hE66) hs hf hcr hqs fun H67 r hE67 hres => ?_
      have hx67 := hx66.trans hE67 fun _ _ h => h
      refine Stab_all (st_both (w1 hx67) (w2 hx67)) ?_
      exact tail hx67 hx66.size hres ((hE66.trans hE67 fun _ _ h => h).row hr3 fun h => h) (by have := hE65.size; omega) (.inl (by have := hr3.lt; have := hE66.size; omega))
  · refine Nw_row (vs := nilO) fun b3 H9 hb3 hE9 _ hr3 => ?_
    refine Stab_all (st_both (w1 hE9) (w2 hE9)) ?_
    refine s_program (pI hE9) fun H65 bs bf ss2 fs2 hE65 hcp hs hf => ?_
    have hx65 := hE9.trans hE65 fun _ _ h => h
    refine Stab_all (st_env (w2 hx65)) ?_
    refine cpy hx65 fun H66 bi bp qs hE66 hcr hqs => ?_
    have hx66 := hx65.trans hE66 fun _ _ h => h
    refine Stab_all (st_prog (w1 hx66)) ?_
    refine hrun hx66 (hcp.ext hE66) hs hf hcr hqs fun H67 r hE67 hres => ?_
    have hx67 := hx66.trans hE67 fun _ _ h => h
    refine Stab_all (st_both (w1 hx67) (w2 hx67)) ?_
    exact tail hx67 hx66.size hres (((hE65.trans hE66 fun _ _ h => h).trans hE67 fun _ _ h => h).row hr3 fun h => h) (by omega) (.inl (by have := hr3.lt; have := hE65.size; have := hE66.size; omega))
end
section
open Hc Hc.Vf Hc.Mc Hc.Dice
variable {H : Heap}
theorem set_next {α : Type} {f : α → α} {l : List α} {i : Nat} (h : i < l.length) : ((l.take i).map f ++ l.drop i).set i (f l[i]) = (l.take (i + 1)).map f ++ l.drop (i + 1) := by
  have e1 : ((l.take i).map f).length = i := by rw [List.length_map, List.length_take]; omega
  rw [← List.getElem_cons_drop h, List.take_add_one, List.getElem?_eq_getElem h, List.map_append, List.append_assoc]
  conv => lhs; arg 2; rw [← e1]
  rw [list_set_at]
  rfl
theorem get_next {α : Type} {f : α → α} {l : List α} {i : Nat} (h : i < l.length) (h' : i < ((l.take i).map f ++ l.drop i).length) : ((l.take i).map f ++ l.drop i)[i] = l[i] := by
  have e1 : ((l.take i).map f).length = i := by rw [List.length_map, List.length_take]; omega
  rw [List.getElem_append_right (by omega)]
  simp only [List.getElem_drop, e1, Nat.sub_self, Nat.add_zero]
theorem len_next {α : Type} {f : α → α} {l : List α} {i : Nat} : ((l.take i).map f ++ l.drop i).length = l.length := by
  rw [List.length_append, List.length_map, List.length_take, List.length_drop]; omega
abbrev bI (x : Int × Int × Int) : Int × Int × Int := (x.1, x.2.1, IntKind.wrap .i64 (x.2.2 + 1))
abbrev b2 (x : Int) : Int := IntKind.wrap .i64 (x + 2)
abbrev bP (q : PtP) : PtP := { q with vals := q.vals.map b2 }
theorem CpP.tou {lo bs bf : Nat} {ss : List Sy} {fs : List Rou} {M : Nat → Prop} {S : TypeId → Prop} {H' : Heap} (h : CpP lo H bs bf ss fs) (ht : Tou M S H H') (h1 : ¬ S T_int) (h2 : ¬ S T_api_Instr) (h3 : ¬ S T_api_System) (h4 : ¬ S T_api_Routine) : CpP lo H' bs bf ss fs := by
  have hc : ∀ {s c}, CpC lo H s c → CpC lo H' s c := fun ⟨b, g1, g2, g3⟩ => ⟨b, g1, ht.keep g2 h2, g3⟩
  exact ⟨ht.keep h.sys h3, ht.keep h.fun' h4, fun x hx => ⟨fun q hq => ((h.sysR x hx).sets q hq).keep ht h1, hc (h.sysR x hx).code⟩, fun r hr => hc (h.funR r hr), h.ap, h.bs, h.bf⟩
theorem bumpI {lo bi bp c4 : Nat} {e : EnV} {ins : List (Int × Int × Int)} {qs : List PtP} {m : Nat} (hr4 : Row H c4 T_api_Env (envL (cpE e bi bp ins.length m))) (hc : CpR lo H bi bp ins qs) (hil : ins.length ≤ 2 ^ 43) {K : Heap → Prop}
    (hK : ∀ H', Tou (· = bi) (· = T_api_Input) H H' → CpR lo H' bi bp (ins.map bI) qs → K H') :
    LoopT (σ := Int) (fun next3 s3 H83 =>
        Ld .sl ⟨c4, 0 + 3, none⟩ H83 fun (x7 : Sl) =>
        Br (decide (s3 < (x7.len : Int))) (
          Ld .sl ⟨c4, 0 + 3, none⟩ H83 fun (x8 : Sl) =>
          Ld .sl ⟨c4, 0 + 3, none⟩ H83 fun (x9 : Sl) =>
          IxA 3 x9 s3 fun a3 =>
          Ld (.int .i64) (a3.add 2) H83 fun (x10 : Int) =>
          Lt (IntKind.wrap .i64 (x10 + 1)) fun t3 =>
          IxA 3 x8 s3 fun a4 =>
          St (a4.add 2) (.int .i64 t3) H83 fun H84 =>
          Lt (IntKind.wrap .i64 (s3 + 1)) fun t4 =>
          next3 t4 H84) (K H83)) 0 H := by
  generalize hn : ins.length = n at *
  refine LoopT.mk (fun s H' => ∃ i : Nat, s = i ∧ i ≤ n ∧ Upd (· = bi) H H' ∧ H'.size = H.size ∧ Row H' bi T_api_Input ((markI ((ins.take i).map bI ++ ins.drop i)).flatMap inV)) (fun s _ => n - s.toNat) ⟨0, rfl, Nat.zero_le _, .refl _ _, rfl, hc.inp⟩ ?_
  rintro next _ H1 ⟨i, rfl, hi, hU, hz, hr⟩ hnext
  have hne : c4 ≠ bi := hr4.ne hc.inp (by decide)
  have ld : ∀ {k : Sl → Prop}, k ⟨some (adr bi), n, n + 80⟩ → Ld .sl ⟨c4, 0 + 3, none⟩ H1 k := fun h => Ld_sl (((hU.row hr4 hne).cell 3).trans rfl) h
  refine ld (Br_dec (fun hlt => ?_) fun hge => ?_)
  · have hi2 : i < n := by first | omega | (dsimp only at hlt; omega)
    have hi3 : i < ins.length := by omega
    have hil' : i < ((ins.take i).map bI ++ ins.drop i).length := by rw [len_next]; exact hi3
    have hiy : i < (markI ((ins.take i).map bI ++ ins.drop i)).length := by rw [mk_len, len_next]; omega
    have ei : (markI ((ins.take i).map bI ++ ins.drop i))[i] = ins[i] := by rw [mk_lt hil', get_next hi3]
    have ixp : ∀ {k : Addr → Prop}, k ⟨bi, i * 3, none⟩ → IxA 3 ⟨some (adr bi), n, n + 80⟩ (i : Nat) k := fun hk => IxA_adr (by omega) (by first | omega | (dsimp only; omega)) (by rw [Int.toNat_natCast]; exact hk)
    have c1 : hcell H1 ⟨bi, i * 3 + 2, none⟩ = some (.int .i64 ins[i].2.2) := by
      rw [hr.cell, flat_get inV_len hiy (by decide), ei]; rfl
    refine ld (ld (ixp ?_))
    simp only [mk_add]
    refine Ld_int (n := ins[i].2.2) c1 (Lt.mk rfl (ixp ?_))
    simp only [mk_add]
    refine St_row hr (by rw [flat_len inV_len]; omega) fun H2 hU2 hz2 hr2 => ?_
    rw [flat_set inV_len (e' := bI ins[i]) (i := i) (o := 2) hiy (by decide) (by rw [ei]; rfl), List.set_append_left _ _ hil', set_next hi3] at hr2
    exact Lt.mk (u := ((i + 1 : Nat) : Int)) (by rw [wrap_i64_id] <;> omega) (hnext _ _ ⟨i + 1, rfl, hi2, hU.trans hU2 fun _ _ e => e, by omega, hr2⟩ (by omega))
  have hi : i = n := by first | omega | (dsimp only at hge; omega)
  subst hi
  rw [List.take_of_length_le (by omega), List.drop_of_length_le (by omega), List.append_nil] at hr
  have ht : Tou (· = bi) (· = T_api_Input) H H1 := Tou.of_st hc.inp hU hr (by rw [flat_len inV_len, flat_len inV_len, mk_len, mk_len, List.length_map])
  exact hK _ ht ⟨hr, ht.keep hc.prt (by decide), fun q hq => by
    obtain ⟨b, h1, h2, h3⟩ := hc.vls q hq
    exact ⟨b, h1, ht.keep h2 (by decide), h3⟩, hc.ap, hc.bi, hc.bp⟩
theorem CpR.set {lo bi bp : Nat} {ins : List (Int × Int × Int)} {qs : List PtP} {H' : Heap} (h : CpR lo H bi bp ins qs) {i : Nat} (hi : i < qs.length) {ws : List Int} {b : Nat} (hb : qs[i].sl.a = some (adr b)) (ht : Tou (· = b) (· = T_int64) H H') (hr : Row H' b T_int64 (ints (markV ws))) (hl : ws.length = qs[i].vals.length) : CpR lo H' bi bp ins (qs.set i { qs[i] with vals := ws }) := by
  have hap := h.ap
  refine ⟨ht.keep h.inp (by decide), ?_, fun q hq => ?_, ?_, h.bi, h.bp⟩
  · have := ht.keep h.prt (by decide)
    rw [List.flatMap_append] at this ⊢
    rw [flat_same hi (by rfl)]
    exact this
  · obtain ⟨j, hj, rfl⟩ := List.mem_iff_getElem.1 hq
    rw [List.length_set] at hj
    by_cases e : i = j
    · subst e
      rw [List.getElem_set_self]
      obtain ⟨c, h1, h2, h3⟩ := h.vls _ (List.getElem_mem hi)
      rw [h1] at hb
      cases hb
      exact ⟨_, by dsimp only; rw [h1, hl], hr, h3⟩
    · rw [List.getElem_set_ne e]
      obtain ⟨c, h1, h2, h3⟩ := h.vls _ (List.getElem_mem hj)
      refine ⟨c, h1, ht.upd.row h2 fun ec => ?_, h3⟩
      subst ec
      have ha : Apart qs[i].sl qs[j].sl := by
        rcases Nat.lt_or_ge i j with hlt | hge
        · exact List.pairwise_iff_getElem.1 hap i j hi hj hlt
        · exact (List.pairwise_iff_getElem.1 hap j i hj hi (by omega)).symm
      exact ha _ hb (by rw [h1])
  · have e1 : (qs.set i { qs[i] with vals := ws }).map PtP.sl = qs.map PtP.sl := by
      rw [List.map_set]
      show (qs.map PtP.sl).set i qs[i].sl = _
      rw [← List.getElem_map PtP.sl (h := by rw [List.length_map]; exact hi), List.set_getElem_self]
    have h2 : (qs.map PtP.sl).Pairwise Apart := List.pairwise_map.2 hap
    rw [← e1] at h2
    exact List.pairwise_map.1 h2
theorem bumpP {lo bi bp c4 : Nat} {e : EnV} {ins : List (Int × Int × Int)} {qs : List PtP} {n : Nat} (hr4 : Row H c4 T_api_Env (envL (cpE e bi bp n qs.length))) (hc : CpR lo H bi bp ins qs) (hql : qs.length ≤ 2 ^ 42) (hqv : ∀ q ∈ qs, q.vals.length ≤ 2 ^ 44) {K : Heap → Prop}
    (hK : ∀ H', Tou (fun b => lo ≤ b) (· = T_int64) H H' → CpR lo H' bi bp ins (qs.map bP) → K H') :
    LoopT (σ := Int) (fun next4 s4 H85 =>
            Ld .sl ⟨c4, 0 + 4 + 2, none⟩ H85 fun (x11 : Sl) =>
            Br (decide (s4 < (x11.len : Int))) (
              LoopT (σ := Int) (fun next5 s5 H86 =>
                Ld .sl ⟨c4, 0 + 4 + 2, none⟩ H86 fun (x12 : Sl) =>
                IxA 2 x12 s4 fun a5 =>
                Ld .sl (a5.add 1) H86 fun (x13 : Sl) =>
                Br (decide (s5 < (x13.len : Int))) (
                  Ld .sl ⟨c4, 0 + 4 + 2, none⟩ H86 fun (x14 : Sl) =>
                  IxA 2 x14 s4 fun a6 =>
                  Ld .sl (a6.add 1) H86 fun (x15 : Sl) =>
                  Ld .sl ⟨c4, 0 + 4 + 2, none⟩ H86 fun (x16 : Sl) =>
                  IxA 2 x16 s4 fun a7 =>
                  Ld .sl (a7.add 1) H86 fun (x17 : Sl) =>
                  IxA 1 x17 s5 fun a8 =>
                  Ld (.int .i64) a8 H86 fun (x18 : Int) =>
                  Lt (IntKind.wrap .i64 (x18 + 2)) fun t5 =>
                  IxA 1 x15 s5 fun a9 =>
                  St a9 (.int .i64 t5) H86 fun H87 =>
                  Lt (IntKind.wrap .i64 (s5 + 1)) fun t6 =>
                  next5 t6 H87) (
                  Lt (IntKind.wrap .i64 (s4 + 1)) fun t7 =>
                  next4 t7 H86)) 0 H85) (K H85)) 0 H := by
  generalize hm : qs.length = m at *
  refine LoopT.mk (fun s H' => ∃ i : Nat, s = i ∧ i ≤ m ∧ Tou (fun b => lo ≤ b) (· = T_int64) H H' ∧ CpR lo H' bi bp ins ((qs.take i).map bP ++ qs.drop i)) (fun s _ => m - s.toNat) ⟨0, rfl, Nat.zero_le _, .refl _ _ _, by simpa using hc⟩ ?_
  rintro next _ H1 ⟨i, rfl, hi, ht, hcp⟩ hnext
  have r4 := ht.keep hr4 (by decide)
  refine Ld_sl (s := ⟨some (adr bp), m, m + 80⟩) ((r4.cell 6).trans rfl) (Br_dec (fun hlt => ?_) fun hge => ?_)
  rotate_left
  · have hi : i = m := by first | omega | (dsimp only at hge; omega)
    subst hi
    rw [List.take_of_length_le (by omega), List.drop_of_length_le (by omega), List.append_nil] at hcp
    exact hK _ ht hcp
  have hi2 : i < m := by first | omega | (dsimp only at hlt; omega)
  have hi3 : i < qs.length := by omega
  have hil : i < ((qs.take i).map bP ++ qs.drop i).length := by rw [len_next]; exact hi3
  have hmem := List.getElem_mem hi3
  have hvl := hqv _ hmem
  have eg := get_next (f := bP) hi3 hil
  obtain ⟨b, h1, h2, h3⟩ := hcp.vls _ (List.getElem_mem hil)
  rw [eg] at h1 h2
  have hrP := hcp.rnP
  rw [len_next, hm] at hrP
  generalize hn : qs[i].vals.length = v at *
  have rdq : ∀ {H'} {k : Sl → Prop}, Tou (· = b) (· = T_int64) H1 H' → k ⟨some (adr b), v, v + 80⟩ → Ld .sl ⟨c4, 0 + 4 + 2, none⟩ H' fun x => IxA 2 x (i : Nat) fun a => Ld .sl (a.add 1) H' k := fun {H'} {k} t hk => Ld_sl (s := ⟨some (adr bp), m, m + 80⟩) (((t.keep r4 (by decide)).cell 6).trans rfl) (by
    have hp := t.keep hcp.prt (by decide)
    have hW : RN ptV 2 H' ⟨some (adr bp), m, m + 80⟩ ((qs.take i).map bP ++ qs.drop i) := by
      rw [List.flatMap_append] at hp
      exact ⟨hp.rd, by rw [len_next]; exact hm.symm, Nat.le_add_right _ _⟩
    refine IxA_rn' ptV_len hW (by decide) rfl hil fun a g => ?_
    rw [getElem!_pos _ i hil, eg] at g
    exact Ld_sl (s := qs[i].sl) g.2.1 (by rw [h1]; exact hk))
  have hml : (markV qs[i].vals).length = v + 80 := by rw [mk_len, hn]
  refine LoopT.mk (fun s H' => ∃ (k : Nat) (ys : List Int), s = k ∧ k ≤ v ∧ Upd (· = b) H1 H' ∧ H'.size = H1.size ∧ Row H' b T_int64 (ints ys) ∧ ys.length = v + 80 ∧ ys.take k = (qs[i].vals.map b2).take k ∧ ys.drop k = (markV qs[i].vals).drop k) (fun s _ => v - s.toNat) ⟨0, _, rfl, Nat.zero_le _, .refl _ _, rfl, h2, hml, by simp, rfl⟩ ?_
  rintro next2 _ H2 ⟨k, ys, rfl, hk, hU, hz, hr, hyl, hyt, hyd⟩ hnext2
  have t12 : Tou (· = b) (· = T_int64) H1 H2 := Tou.of_st h2 hU hr (by rw [ints, ints, List.length_map, List.length_map, hyl, hml])
  refine rdq t12 (Br_dec (fun hlt => ?_) fun hge => ?_)
  · have hk2 : k < v := by first | omega | (dsimp only at hlt; omega)
    have hk3 : k < qs[i].vals.length := by omega
    have hky : k < ys.length := by omega
    have ek : ys[k] = qs[i].vals[k] := by
      have := congrArg (fun l => l[0]?) hyd
      simp only [List.getElem?_drop, Nat.add_zero] at this
      rw [List.getElem?_eq_getElem hky, List.getElem?_append_left hk3, List.getElem?_eq_getElem hk3] at this
      exact Option.some.inj this
    have ixp : ∀ {k' : Addr → Prop}, k' ⟨b, k * 1, none⟩ → IxA 1 ⟨some (adr b), v, v + 80⟩ (k : Nat) k' := fun hk => IxA_adr (by omega) (by first | omega | (dsimp only; omega)) (by rw [Int.toNat_natCast]; exact hk)
    have c1 : hcell H2 ⟨b, k * 1, none⟩ = some (.int .i64 qs[i].vals[k]) := by
      rw [hr.cell, Nat.mul_one, ints, List.getElem?_map, List.getElem?_eq_getElem hky, ek]; rfl
    refine rdq t12 (rdq t12 (ixp (Ld_int (n := qs[i].vals[k]) c1 (Lt.mk rfl (ixp ?_)))))
    rw [Nat.mul_one]
    refine St_row hr (by rw [ints, List.length_map]; omega) fun H3 hU3 hz3 hr3 => ?_
    have es : (ints ys).set k (.int .i64 (IntKind.wrap .i64 (qs[i].vals[k] + 2))) = ints (ys.set k (b2 qs[i].vals[k])) := by rw [ints, ints, List.map_set]
    rw [es] at hr3
    refine Lt.mk (u := ((k + 1 : Nat) : Int)) (by rw [wrap_i64_id] <;> omega) (hnext2 _ _ ⟨k + 1, _, rfl, hk2, hU.trans hU3 fun _ _ e => e, by omega, hr3, by rw [List.length_set]; exact hyl, ?_, ?_⟩ (by omega))
    · rw [List.take_add_one, List.take_set_of_le (Nat.le_refl _), hyt, List.getElem?_set_self hky, List.take_add_one, List.getElem?_map, List.getElem?_eq_getElem hk3]; rfl
    · rw [List.drop_set_of_lt (by omega), ← List.drop_drop, hyd, List.drop_drop]
  have hk2 : k = v := by first | omega | (dsimp only at hge; omega)
  subst hk2
  have e : ys = markV (qs[i].vals.map b2) := by
    rw [← List.take_append_drop k ys, hyt, hyd, List.take_of_length_le (by rw [List.length_map]; omega), List.drop_append_of_le_length (by omega), List.drop_of_length_le (by omega)]
    rfl
  subst e
  have hset := hcp.set hil (ws := qs[i].vals.map b2) (b := b) (by rw [eg, h1]) t12 hr (by rw [List.length_map, eg])
  have es : ((qs.take i).map bP ++ qs.drop i).set i { ((qs.take i).map bP ++ qs.drop i)[i] with vals := qs[i].vals.map b2 } = (qs.take (i + 1)).map bP ++ qs.drop (i + 1) := by
    rw [eg]; exact set_next hi3
  rw [es] at hset
  exact Lt.mk (u := ((i + 1 : Nat) : Int)) (by rw [wrap_i64_id] <;> omega) (hnext _ _ ⟨i + 1, rfl, hi2, ht.trans t12 (fun c _ ec => by rw [ec]; exact h3) fun _ e => e, hset⟩ (by omega))
end
section
open Hc
abbrev f_L_MachineRuns : FuncId := 3
def v_L_MachineRuns_a0 (b10 : Nat) (H81 : Heap) (b9 : Nat) (k : Bool → Heap → Prop) (b4 : Nat) (b5 : Nat) (system_ : Int) : Prop :=
 LdC [.sl, .sl, .sl, (.int .i64), (.int .i64)] (adr b10) H81 fun (c32 : Sl × Sl × Sl × Int × Int) =>
 LdC [.sl, .sl, .sl, (.int .i64), (.int .i64)] (adr b9) H81 fun (c33 : Sl × Sl × Sl × Int × Int) =>
 CallT Pg f_L_same [.agg #[slV c32.1, slV c32.2.1, slV c32.2.2.1, .int .i64 c32.2.2.2.1, .int .i64 c32.2.2.2.2], .agg #[slV c33.1, slV c33.2.1, slV c33.2.2.1, .int .i64 c33.2.2.2.1, .int .i64 c33.2.2.2.2]] (.one (.c .bool)) H81 fun (r29 : Bool) H82 =>
 Br (!r29) (
 k false H82) (
 LoopT (σ := Int) (fun next3 s3 H83 =>
 Ld .sl ((adr b4).add 3) H83 fun (x7 : Sl) =>
 Br (decide (s3 < (x7.len : Int))) (
 Ld .sl ((adr b4).add 3) H83 fun (x8 : Sl) =>
 Ld .sl ((adr b4).add 3) H83 fun (x9 : Sl) =>
 IxA 3 x9 s3 fun a3 =>
 Ld (.int .i64) (a3.add 2) H83 fun (x10 : Int) =>
 Lt (IntKind.wrap .i64 (x10 + 1)) fun t3 =>
 IxA 3 x8 s3 fun a4 =>
 St (a4.add 2) (.int .i64 t3) H83 fun H84 =>
 Lt (IntKind.wrap .i64 (s3 + 1)) fun t4 =>
 next3 t4 H84) (
 LoopT (σ := Int) (fun next4 s4 H85 =>
 Ld .sl (((adr b4).add 4).add 2) H85 fun (x11 : Sl) =>
 Br (decide (s4 < (x11.len : Int))) (
 LoopT (σ := Int) (fun next5 s5 H86 =>
 Ld .sl (((adr b4).add 4).add 2) H86 fun (x12 : Sl) =>
 IxA 2 x12 s4 fun a5 =>
 Ld .sl (a5.add 1) H86 fun (x13 : Sl) =>
 Br (decide (s5 < (x13.len : Int))) (
 Ld .sl (((adr b4).add 4).add 2) H86 fun (x14 : Sl) =>
 IxA 2 x14 s4 fun a6 =>
 Ld .sl (a6.add 1) H86 fun (x15 : Sl) =>
 Ld .sl (((adr b4).add 4).add 2) H86 fun (x16 : Sl) =>
 IxA 2 x16 s4 fun a7 =>
 Ld .sl (a7.add 1) H86 fun (x17 : Sl) =>
 IxA 1 x17 s5 fun a8 =>
 Ld (.int .i64) a8 H86 fun (x18 : Int) =>
 Lt (IntKind.wrap .i64 (x18 + 2)) fun t5 =>
 IxA 1 x15 s5 fun a9 =>
 St a9 (.int .i64 t5) H86 fun H87 =>
 Lt (IntKind.wrap .i64 (s5 + 1)) fun t6 =>
 next5 t6 H87) (
 Lt (IntKind.wrap .i64 (s4 + 1)) fun t7 =>
 next4 t7 H86)) 0 H85) (
 LdC [.sl, .sl] (adr b5) H85 fun (c34 : Sl × Sl) =>
 LdC [(.int .i64), (.int .i64), (.int .i64), .sl, (.int .i64), (.int .i64), .sl] (adr b4) H85 fun (c35 : Int × Int × Int × Sl × Int × Int × Sl) =>
 CallT Pg f_L_program [.agg #[slV c34.1, slV c34.2]] (.one (.agg [.sl, .sl])) H85 fun (r30 : Sl × Sl) H88 =>
 Stab [((adr b4).add 0, .int .i64 c35.1), ((adr b4).add 1, .int .i64 c35.2.1), ((adr b4).add 2, .int .i64 c35.2.2.1), ((adr b4).add 3, slV c35.2.2.2.1), ((adr b4).add 4, .int .i64 c35.2.2.2.2.1), ((adr b4).add 5, .int .i64 c35.2.2.2.2.2.1), ((adr b4).add 6, slV c35.2.2.2.2.2.2)] H88 <|
 CallT Pg f_L_copied [.agg #[.int .i64 c35.1, .int .i64 c35.2.1, .int .i64 c35.2.2.1, slV c35.2.2.2.1, .int .i64 c35.2.2.2.2.1, .int .i64 c35.2.2.2.2.2.1, slV c35.2.2.2.2.2.2]] (.one (.agg [(.int .i64), (.int .i64), (.int .i64), .sl, (.int .i64), (.int .i64), .sl])) H88 fun (r31 : Int × Int × Int × Sl × Int × Int × Sl) H89 =>
 Stab [((adr b5).add 0, slV c34.1), ((adr b5).add 1, slV c34.2)] H89 <|
 CallT Pg f_R_Long [.agg #[slV r30.1, slV r30.2], .int .i64 system_, .agg #[.int .i64 r31.1, .int .i64 r31.2.1, .int .i64 r31.2.2.1, slV r31.2.2.2.1, .int .i64 r31.2.2.2.2.1, .int .i64 r31.2.2.2.2.2.1, slV r31.2.2.2.2.2.2], .int .i64 300000] (.one (.c .bool)) H89 fun (r32 : Bool) H90 =>
 Stab [((adr b4).add 0, .int .i64 c35.1), ((adr b4).add 1, .int .i64 c35.2.1), ((adr b4).add 2, .int .i64 c35.2.2.1), ((adr b4).add 3, slV c35.2.2.2.1), ((adr b4).add 4, .int .i64 c35.2.2.2.2.1), ((adr b4).add 5, .int .i64 c35.2.2.2.2.2.1), ((adr b4).add 6, slV c35.2.2.2.2.2.2), ((adr b5).add 0, slV c34.1), ((adr b5).add 1, slV c34.2)] H90 <|
 Br r32 (
 k true H90) (
 LdC [.sl, .sl] (adr b5) H90 fun (c36 : Sl × Sl) =>
 LdC [(.int .i64), (.int .i64), (.int .i64), .sl, (.int .i64), (.int .i64), .sl] (adr b4) H90 fun (c37 : Int × Int × Int × Sl × Int × Int × Sl) =>
 CallT Pg f_L_program [.agg #[slV c36.1, slV c36.2]] (.one (.agg [.sl, .sl])) H90 fun (r33 : Sl × Sl) H91 =>
 Stab [((adr b4).add 0, .int .i64 c37.1), ((adr b4).add 1, .int .i64 c37.2.1), ((adr b4).add 2, .int .i64 c37.2.2.1), ((adr b4).add 3, slV c37.2.2.2.1), ((adr b4).add 4, .int .i64 c37.2.2.2.2.1), ((adr b4).add 5, .int .i64 c37.2.2.2.2.2.1), ((adr b4).add 6, slV c37.2.2.2.2.2.2)] H91 <|
 CallT Pg f_L_copied [.agg #[.int .i64 c37.1, .int .i64 c37.2.1, .int .i64 c37.2.2.1, slV c37.2.2.2.1, .int .i64 c37.2.2.2.2.1, .int .i64 c37.2.2.2.2.2.1, slV c37.2.2.2.2.2.2]] (.one (.agg [(.int .i64), (.int .i64), (.int .i64), .sl, (.int .i64), (.int .i64), .sl])) H91 fun (r34 : Int × Int × Int × Sl × Int × Int × Sl) H92 =>
 Stab [((adr b5).add 0, slV c36.1), ((adr b5).add 1, slV c36.2)] H92 <|
 CallT Pg f_R_Run [.agg #[slV r33.1, slV r33.2], .int .i64 system_, .agg #[.int .i64 r34.1, .int .i64 r34.2.1, .int .i64 r34.2.2.1, slV r34.2.2.2.1, .int .i64 r34.2.2.2.2.1, .int .i64 r34.2.2.2.2.2.1, slV r34.2.2.2.2.2.2]] (.one (.agg [.sl, .sl, .sl, (.int .i64), (.int .i64)])) H92 fun (r35 : Sl × Sl × Sl × Int × Int) H93 =>
 Stab [((adr b4).add 0, .int .i64 c37.1), ((adr b4).add 1, .int .i64 c37.2.1), ((adr b4).add 2, .int .i64 c37.2.2.1), ((adr b4).add 3, slV c37.2.2.2.1), ((adr b4).add 4, .int .i64 c37.2.2.2.2.1), ((adr b4).add 5, .int .i64 c37.2.2.2.2.2.1), ((adr b4).add 6, slV c37.2.2.2.2.2.2), ((adr b5).add 0, slV c36.1), ((adr b5).add 1, slV c36.2)] H93 <|
 St ((adr b9).add 0) (slV r35.1) H93 fun H94 =>
 St ((adr b9).add 1) (slV r35.2.1) H94 fun H95 =>
 St ((adr b9).add 2) (slV r35.2.2.1) H95 fun H96 =>
 St ((adr b9).add 3) (.int .i64 r35.2.2.2.1) H96 fun H97 =>
 St ((adr b9).add 4) (.int .i64 r35.2.2.2.2) H97 fun H98 =>
 LdC [.sl, .sl] (adr b5) H98 fun (c38 : Sl × Sl) =>
 LdC [(.int .i64), (.int .i64), (.int .i64), .sl, (.int .i64), (.int .i64), .sl] (adr b4) H98 fun (c39 : Int × Int × Int × Sl × Int × Int × Sl) =>
 LdC [.sl, .sl, .sl, (.int .i64), (.int .i64)] (adr b9) H98 fun (c40 : Sl × Sl × Sl × Int × Int) =>
 CallT Pg f_machine_Run [.agg #[slV c38.1, slV c38.2], .int .i64 system_, .agg #[.int .i64 c39.1, .int .i64 c39.2.1, .int .i64 c39.2.2.1, slV c39.2.2.2.1, .int .i64 c39.2.2.2.2.1, .int .i64 c39.2.2.2.2.2.1, slV c39.2.2.2.2.2.2]] (.one (.agg [.sl, .sl, .sl, (.int .i64), (.int .i64)])) H98 fun (r36 : Sl × Sl × Sl × Int × Int) H99 =>
 Stab [((adr b9).add 0, slV c40.1), ((adr b9).add 1, slV c40.2.1), ((adr b9).add 2, slV c40.2.2.1), ((adr b9).add 3, .int .i64 c40.2.2.2.1), ((adr b9).add 4, .int .i64 c40.2.2.2.2)] H99 <|
 CallT Pg f_L_same [.agg #[slV r36.1, slV r36.2.1, slV r36.2.2.1, .int .i64 r36.2.2.2.1, .int .i64 r36.2.2.2.2], .agg #[slV c40.1, slV c40.2.1, slV c40.2.2.1, .int .i64 c40.2.2.2.1, .int .i64 c40.2.2.2.2]] (.one (.c .bool)) H99 fun (r37 : Bool) H100 =>
 Stab [((adr b4).add 0, .int .i64 c39.1), ((adr b4).add 1, .int .i64 c39.2.1), ((adr b4).add 2, .int .i64 c39.2.2.1), ((adr b4).add 3, slV c39.2.2.2.1), ((adr b4).add 4, .int .i64 c39.2.2.2.2.1), ((adr b4).add 5, .int .i64 c39.2.2.2.2.2.1), ((adr b4).add 6, slV c39.2.2.2.2.2.2), ((adr b5).add 0, slV c38.1), ((adr b5).add 1, slV c38.2)] H100 <|
 k r37 H100))) 0 H83)) 0 H82)
def v_L_MachineRuns_a1 (b5 : Nat) (H73 : Heap) (b2 : Nat) (system_ : Int) (b9 : Nat) (k : Bool → Heap → Prop) (b4 : Nat) : Prop :=
 LdC [.sl, .sl] (adr b5) H73 fun (c30 : Sl × Sl) =>
 LdC [(.int .i64), (.int .i64), (.int .i64), .sl, (.int .i64), (.int .i64), .sl] (adr b2) H73 fun (c31 : Int × Int × Int × Sl × Int × Int × Sl) =>
 (
 CallT Pg f_L_copied [.agg #[.int .i64 c31.1, .int .i64 c31.2.1, .int .i64 c31.2.2.1, slV c31.2.2.2.1, .int .i64 c31.2.2.2.2.1, .int .i64 c31.2.2.2.2.2.1, slV c31.2.2.2.2.2.2]] (.one (.agg [(.int .i64), (.int .i64), (.int .i64), .sl, (.int .i64), (.int .i64), .sl])) H73 fun (r27 : Int × Int × Int × Sl × Int × Int × Sl) H74 =>
 Stab [((adr b5).add 0, slV c30.1), ((adr b5).add 1, slV c30.2)] H74 <|
 (
 CallT Pg f_machine_Run [.agg #[slV c30.1, slV c30.2], .int .i64 system_, .agg #[.int .i64 r27.1, .int .i64 r27.2.1, .int .i64 r27.2.2.1, slV r27.2.2.2.1, .int .i64 r27.2.2.2.2.1, .int .i64 r27.2.2.2.2.2.1, slV r27.2.2.2.2.2.2]] (.one (.agg [.sl, .sl, .sl, (.int .i64), (.int .i64)])) H74 fun (r28 : Sl × Sl × Sl × Int × Int) H75 =>
 Stab [((adr b2).add 0, .int .i64 c31.1), ((adr b2).add 1, .int .i64 c31.2.1), ((adr b2).add 2, .int .i64 c31.2.2.1), ((adr b2).add 3, slV c31.2.2.2.1), ((adr b2).add 4, .int .i64 c31.2.2.2.2.1), ((adr b2).add 5, .int .i64 c31.2.2.2.2.2.1), ((adr b2).add 6, slV c31.2.2.2.2.2.2)] H75 <|
 Nw #[.slice none 0 0, .slice none 0 0, .slice none 0 0, .int .i64 0, .int .i64 0] T_api_Outcome H75 fun b10 H76 =>
 Stab [((adr b2).add 0, .int .i64 c31.1), ((adr b2).add 1, .int .i64 c31.2.1), ((adr b2).add 2, .int .i64 c31.2.2.1), ((adr b2).add 3, slV c31.2.2.2.1), ((adr b2).add 4, .int .i64 c31.2.2.2.2.1), ((adr b2).add 5, .int .i64 c31.2.2.2.2.2.1), ((adr b2).add 6, slV c31.2.2.2.2.2.2), ((adr b5).add 0, slV c30.1), ((adr b5).add 1, slV c30.2)] H76 <|
 St ((adr b10).add 0) (slV r28.1) H76 fun H77 =>
 St ((adr b10).add 1) (slV r28.2.1) H77 fun H78 =>
 St ((adr b10).add 2) (slV r28.2.2.1) H78 fun H79 =>
 St ((adr b10).add 3) (.int .i64 r28.2.2.2.1) H79 fun H80 =>
 St ((adr b10).add 4) (.int .i64 r28.2.2.2.2) H80 fun H81 =>
 v_L_MachineRuns_a0 b10 H81 b9 k b4 b5 system_) ∧ (
 Nw #[.slice none 0 0, .slice none 0 0, .slice none 0 0, .int .i64 0, .int .i64 0] T_api_Outcome H74 fun b11 H101 =>
 Stab [((adr b2).add 0, .int .i64 c31.1), ((adr b2).add 1, .int .i64 c31.2.1), ((adr b2).add 2, .int .i64 c31.2.2.1), ((adr b2).add 3, slV c31.2.2.2.1), ((adr b2).add 4, .int .i64 c31.2.2.2.2.1), ((adr b2).add 5, .int .i64 c31.2.2.2.2.2.1), ((adr b2).add 6, slV c31.2.2.2.2.2.2), ((adr b5).add 0, slV c30.1), ((adr b5).add 1, slV c30.2)] H101 <|
 CallT Pg f_machine_Run [.agg #[slV c30.1, slV c30.2], .int .i64 system_, .agg #[.int .i64 r27.1, .int .i64 r27.2.1, .int .i64 r27.2.2.1, slV r27.2.2.2.1, .int .i64 r27.2.2.2.2.1, .int .i64 r27.2.2.2.2.2.1, slV r27.2.2.2.2.2.2]] (.one (.agg [.sl, .sl, .sl, (.int .i64), (.int .i64)])) H101 fun (r38 : Sl × Sl × Sl × Int × Int) H102 =>
 Stab [((adr b2).add 0, .int .i64 c31.1), ((adr b2).add 1, .int .i64 c31.2.1), ((adr b2).add 2, .int .i64 c31.2.2.1), ((adr b2).add 3, slV c31.2.2.2.1), ((adr b2).add 4, .int .i64 c31.2.2.2.2.1), ((adr b2).add 5, .int .i64 c31.2.2.2.2.2.1), ((adr b2).add 6, slV c31.2.2.2.2.2.2)] H102 <|
 St ((adr b11).add 0) (slV r38.1) H102 fun H103 =>
 St ((adr b11).add 1) (slV r38.2.1) H103 fun H104 =>
 St ((adr b11).add 2) (slV r38.2.2.1) H104 fun H105 =>
 St ((adr b11).add 3) (.int .i64 r38.2.2.2.1) H105 fun H106 =>
 St ((adr b11).add 4) (.int .i64 r38.2.2.2.2) H106 fun H107 =>
 v_L_MachineRuns_a0 b11 H107 b9 k b4 b5 system_) ∧ True) ∧ (
 Nw #[.slice none 0 0, .slice none 0 0, .slice none 0 0, .int .i64 0, .int .i64 0] T_api_Outcome H73 fun b12 H127 =>
 Stab [((adr b2).add 0, .int .i64 c31.1), ((adr b2).add 1, .int .i64 c31.2.1), ((adr b2).add 2, .int .i64 c31.2.2.1), ((adr b2).add 3, slV c31.2.2.2.1), ((adr b2).add 4, .int .i64 c31.2.2.2.2.1), ((adr b2).add 5, .int .i64 c31.2.2.2.2.2.1), ((adr b2).add 6, slV c31.2.2.2.2.2.2), ((adr b5).add 0, slV c30.1), ((adr b5).add 1, slV c30.2)] H127 <|
 CallT Pg f_L_copied [.agg #[.int .i64 c31.1, .int .i64 c31.2.1, .int .i64 c31.2.2.1, slV c31.2.2.2.1, .int .i64 c31.2.2.2.2.1, .int .i64 c31.2.2.2.2.2.1, slV c31.2.2.2.2.2.2]] (.one (.agg [(.int .i64), (.int .i64), (.int .i64), .sl, (.int .i64), (.int .i64), .sl])) H127 fun (r48 : Int × Int × Int × Sl × Int × Int × Sl) H128 =>
 Stab [((adr b5).add 0, slV c30.1), ((adr b5).add 1, slV c30.2)] H128 <|
 CallT Pg f_machine_Run [.agg #[slV c30.1, slV c30.2], .int .i64 system_, .agg #[.int .i64 r48.1, .int .i64 r48.2.1, .int .i64 r48.2.2.1, slV r48.2.2.2.1, .int .i64 r48.2.2.2.2.1, .int .i64 r48.2.2.2.2.2.1, slV r48.2.2.2.2.2.2]] (.one (.agg [.sl, .sl, .sl, (.int .i64), (.int .i64)])) H128 fun (r49 : Sl × Sl × Sl × Int × Int) H129 =>
 Stab [((adr b2).add 0, .int .i64 c31.1), ((adr b2).add 1, .int .i64 c31.2.1), ((adr b2).add 2, .int .i64 c31.2.2.1), ((adr b2).add 3, slV c31.2.2.2.1), ((adr b2).add 4, .int .i64 c31.2.2.2.2.1), ((adr b2).add 5, .int .i64 c31.2.2.2.2.2.1), ((adr b2).add 6, slV c31.2.2.2.2.2.2)] H129 <|
 St ((adr b12).add 0) (slV r49.1) H129 fun H130 =>
 St ((adr b12).add 1) (slV r49.2.1) H130 fun H131 =>
 St ((adr b12).add 2) (slV r49.2.2.1) H131 fun H132 =>
 St ((adr b12).add 3) (.int .i64 r49.2.2.2.1) H132 fun H133 =>
 St ((adr b12).add 4) (.int .i64 r49.2.2.2.2) H133 fun H134 =>
 v_L_MachineRuns_a0 b12 H134 b9 k b4 b5 system_) ∧ True
def v_L_MachineRuns_a2 (b2 : Nat) (H14 : Heap) (b1 : Nat) (system_ : Int) (k : Bool → Heap → Prop) (b3 : Nat) : Prop :=
 LdC [(.int .i64), (.int .i64), (.int .i64), .sl, (.int .i64), (.int .i64), .sl] (adr b2) H14 fun (c5 : Int × Int × Int × Sl × Int × Int × Sl) =>
 CallT Pg f_L_copied [.agg #[.int .i64 c5.1, .int .i64 c5.2.1, .int .i64 c5.2.2.1, slV c5.2.2.2.1, .int .i64 c5.2.2.2.2.1, .int .i64 c5.2.2.2.2.2.1, slV c5.2.2.2.2.2.2]] (.one (.agg [(.int .i64), (.int .i64), (.int .i64), .sl, (.int .i64), (.int .i64), .sl])) H14 fun (r6 : Int × Int × Int × Sl × Int × Int × Sl) H15 =>
 Nw #[.int .i64 0, .int .i64 0, .int .i64 0, .slice none 0 0, .int .i64 0, .int .i64 0, .slice none 0 0] T_api_Env H15 fun b4 H16 =>
 St ((adr b4).add 0) (.int .i64 r6.1) H16 fun H17 =>
 St ((adr b4).add 1) (.int .i64 r6.2.1) H17 fun H18 =>
 St ((adr b4).add 2) (.int .i64 r6.2.2.1) H18 fun H19 =>
 St ((adr b4).add 3) (slV r6.2.2.2.1) H19 fun H20 =>
 St ((adr b4).add 4) (.int .i64 r6.2.2.2.2.1) H20 fun H21 =>
 St ((adr b4).add 5) (.int .i64 r6.2.2.2.2.2.1) H21 fun H22 =>
 St ((adr b4).add 6) (slV r6.2.2.2.2.2.2) H22 fun H23 =>
 LdC [.sl, .sl] (adr b1) H23 fun (c6 : Sl × Sl) =>
 CallT Pg f_L_program [.agg #[slV c6.1, slV c6.2]] (.one (.agg [.sl, .sl])) H23 fun (r7 : Sl × Sl) H24 =>
 Nw #[.slice none 0 0, .slice none 0 0] T_api_Program H24 fun b5 H25 =>
 St ((adr b5).add 0) (slV r7.1) H25 fun H26 =>
 St ((adr b5).add 1) (slV r7.2) H26 fun H27 =>
 LdC [.sl, .sl] (adr b5) H27 fun (c7 : Sl × Sl) =>
 LdC [(.int .i64), (.int .i64), (.int .i64), .sl, (.int .i64), (.int .i64), .sl] (adr b4) H27 fun (c8 : Int × Int × Int × Sl × Int × Int × Sl) =>
 CallT Pg f_machine_Run [.agg #[slV c7.1, slV c7.2], .int .i64 system_, .agg #[.int .i64 c8.1, .int .i64 c8.2.1, .int .i64 c8.2.2.1, slV c8.2.2.2.1, .int .i64 c8.2.2.2.2.1, .int .i64 c8.2.2.2.2.2.1, slV c8.2.2.2.2.2.2]] (.one (.agg [.sl, .sl, .sl, (.int .i64), (.int .i64)])) H27 fun (r8 : Sl × Sl × Sl × Int × Int) H28 =>
 Nw #[.slice none 0 0, .slice none 0 0, .slice none 0 0, .int .i64 0, .int .i64 0] T_api_Outcome H28 fun b6 H29 =>
 St ((adr b6).add 0) (slV r8.1) H29 fun H30 =>
 St ((adr b6).add 1) (slV r8.2.1) H30 fun H31 =>
 St ((adr b6).add 2) (slV r8.2.2.1) H31 fun H32 =>
 St ((adr b6).add 3) (.int .i64 r8.2.2.2.1) H32 fun H33 =>
 St ((adr b6).add 4) (.int .i64 r8.2.2.2.2) H33 fun H34 =>
 LdC [.sl, .sl] (adr b5) H34 fun (c9 : Sl × Sl) =>
 LdC [(.int .i64), (.int .i64), (.int .i64), .sl, (.int .i64), (.int .i64), .sl] (adr b4) H34 fun (c10 : Int × Int × Int × Sl × Int × Int × Sl) =>
 CallT Pg f_machine_Run [.agg #[slV c9.1, slV c9.2], .int .i64 system_, .agg #[.int .i64 c10.1, .int .i64 c10.2.1, .int .i64 c10.2.2.1, slV c10.2.2.2.1, .int .i64 c10.2.2.2.2.1, .int .i64 c10.2.2.2.2.2.1, slV c10.2.2.2.2.2.2]] (.one (.agg [.sl, .sl, .sl, (.int .i64), (.int .i64)])) H34 fun (r9 : Sl × Sl × Sl × Int × Int) H35 =>
 Nw #[.slice none 0 0, .slice none 0 0, .slice none 0 0, .int .i64 0, .int .i64 0] T_api_Outcome H35 fun b7 H36 =>
 St ((adr b7).add 0) (slV r9.1) H36 fun H37 =>
 St ((adr b7).add 1) (slV r9.2.1) H37 fun H38 =>
 St ((adr b7).add 2) (slV r9.2.2.1) H38 fun H39 =>
 St ((adr b7).add 3) (.int .i64 r9.2.2.2.1) H39 fun H40 =>
 St ((adr b7).add 4) (.int .i64 r9.2.2.2.2) H40 fun H41 =>
 LdC [.sl, .sl] (adr b5) H41 fun (c11 : Sl × Sl) =>
 LdC [(.int .i64), (.int .i64), (.int .i64), .sl, (.int .i64), (.int .i64), .sl] (adr b4) H41 fun (c12 : Int × Int × Int × Sl × Int × Int × Sl) =>
 CallT Pg f_machine_Run [.agg #[slV c11.1, slV c11.2], .int .i64 system_, .agg #[.int .i64 c12.1, .int .i64 c12.2.1, .int .i64 c12.2.2.1, slV c12.2.2.2.1, .int .i64 c12.2.2.2.2.1, .int .i64 c12.2.2.2.2.2.1, slV c12.2.2.2.2.2.2]] (.one (.agg [.sl, .sl, .sl, (.int .i64), (.int .i64)])) H41 fun (r10 : Sl × Sl × Sl × Int × Int) H42 =>
 Nw #[.slice none 0 0, .slice none 0 0, .slice none 0 0, .int .i64 0, .int .i64 0] T_api_Outcome H42 fun b8 H43 =>
 St ((adr b8).add 0) (slV r10.1) H43 fun H44 =>
 St ((adr b8).add 1) (slV r10.2.1) H44 fun H45 =>
 St ((adr b8).add 2) (slV r10.2.2.1) H45 fun H46 =>
 St ((adr b8).add 3) (.int .i64 r10.2.2.2.1) H46 fun H47 =>
 St ((adr b8).add 4) (.int .i64 r10.2.2.2.2) H47 fun H48 =>
 LdC [(.int .i64), (.int .i64), (.int .i64), .sl, (.int .i64), (.int .i64), .sl] (adr b4) H48 fun (c13 : Int × Int × Int × Sl × Int × Int × Sl) =>
 LdC [(.int .i64), (.int .i64), (.int .i64), .sl, (.int .i64), (.int .i64), .sl] (adr b2) H48 fun (c14 : Int × Int × Int × Sl × Int × Int × Sl) =>
 CallT Pg f_L_still [.agg #[.int .i64 c13.1, .int .i64 c13.2.1, .int .i64 c13.2.2.1, slV c13.2.2.2.1, .int .i64 c13.2.2.2.2.1, .int .i64 c13.2.2.2.2.2.1, slV c13.2.2.2.2.2.2], .agg #[.int .i64 c14.1, .int .i64 c14.2.1, .int .i64 c14.2.2.1, slV c14.2.2.2.1, .int .i64 c14.2.2.2.2.1, .int .i64 c14.2.2.2.2.2.1, slV c14.2.2.2.2.2.2]] (.one (.c .bool)) H48 fun (r11 : Bool) H49 =>
 LdC [.sl, .sl] (adr b5) H49 fun (c15 : Sl × Sl) =>
 LdC [.sl, .sl] (adr b1) H49 fun (c16 : Sl × Sl) =>
 CallT Pg f_L_unspoilt [.agg #[slV c15.1, slV c15.2], .agg #[slV c16.1, slV c16.2]] (.one (.c .bool)) H49 fun (r12 : Bool) H50 =>
 Br (!r12) (
 k false H50) (
 LdC [.sl, .sl, .sl, (.int .i64), (.int .i64)] (adr b6) H50 fun (c17 : Sl × Sl × Sl × Int × Int) =>
 LdC [.sl, .sl, .sl, (.int .i64), (.int .i64)] (adr b3) H50 fun (c18 : Sl × Sl × Sl × Int × Int) =>
 CallT Pg f_L_same [.agg #[slV c17.1, slV c17.2.1, slV c17.2.2.1, .int .i64 c17.2.2.2.1, .int .i64 c17.2.2.2.2], .agg #[slV c18.1, slV c18.2.1, slV c18.2.2.1, .int .i64 c18.2.2.2.1, .int .i64 c18.2.2.2.2]] (.one (.c .bool)) H50 fun (r13 : Bool) H51 =>
 LdC [.sl, .sl, .sl, (.int .i64), (.int .i64)] (adr b6) H51 fun (c19 : Sl × Sl × Sl × Int × Int) =>
 CallT Pg f_L_marked [.agg #[slV c19.1, slV c19.2.1, slV c19.2.2.1, .int .i64 c19.2.2.2.1, .int .i64 c19.2.2.2.2]] (.one (.c .bool)) H51 fun (r14 : Bool) H52 =>
 LdC [.sl, .sl, .sl, (.int .i64), (.int .i64)] (adr b7) H52 fun (c20 : Sl × Sl × Sl × Int × Int) =>
 LdC [.sl, .sl, .sl, (.int .i64), (.int .i64)] (adr b3) H52 fun (c21 : Sl × Sl × Sl × Int × Int) =>
 CallT Pg f_L_same [.agg #[slV c20.1, slV c20.2.1, slV c20.2.2.1, .int .i64 c20.2.2.2.1, .int .i64 c20.2.2.2.2], .agg #[slV c21.1, slV c21.2.1, slV c21.2.2.1, .int .i64 c21.2.2.2.1, .int .i64 c21.2.2.2.2]] (.one (.c .bool)) H52 fun (r15 : Bool) H53 =>
 LdC [.sl, .sl, .sl, (.int .i64), (.int .i64)] (adr b7) H53 fun (c22 : Sl × Sl × Sl × Int × Int) =>
 CallT Pg f_L_own [.agg #[slV c22.1, slV c22.2.1, slV c22.2.2.1, .int .i64 c22.2.2.2.1, .int .i64 c22.2.2.2.2]] (.tup []) H53 fun (r16 : Unit) H54 =>
 LdC [.sl, .sl, .sl, (.int .i64), (.int .i64)] (adr b8) H54 fun (c23 : Sl × Sl × Sl × Int × Int) =>
 LdC [.sl, .sl, .sl, (.int .i64), (.int .i64)] (adr b3) H54 fun (c24 : Sl × Sl × Sl × Int × Int) =>
 CallT Pg f_L_same [.agg #[slV c23.1, slV c23.2.1, slV c23.2.2.1, .int .i64 c23.2.2.2.1, .int .i64 c23.2.2.2.2], .agg #[slV c24.1, slV c24.2.1, slV c24.2.2.1, .int .i64 c24.2.2.2.1, .int .i64 c24.2.2.2.2]] (.one (.c .bool)) H54 fun (r17 : Bool) H55 =>
 LdC [.sl, .sl, .sl, (.int .i64), (.int .i64)] (adr b8) H55 fun (c25 : Sl × Sl × Sl × Int × Int) =>
 CallT Pg f_L_own [.agg #[slV c25.1, slV c25.2.1, slV c25.2.2.1, .int .i64 c25.2.2.2.1, .int .i64 c25.2.2.2.2]] (.tup []) H55 fun (r18 : Unit) H56 =>
 Jn (σ := Bool) (fun kk2 =>
 Br (!r13) (
 kk2 true H56) (
 Br (!r14) (
 kk2 true H56) (
 Br (!r15) (
 kk2 true H56) (
 Br (!r17) (
 kk2 true H56) (
 kk2 (!r11) H56))))) fun j2 H57 =>
 Br j2 (
 k false H57) (
 LoopT (σ := Int) (fun next1 s1 H58 =>
 Ld .sl (adr b5) H58 fun (x1 : Sl) =>
 Br (decide (s1 < (x1.len : Int))) (
 Ld .sl (adr b5) H58 fun (x2 : Sl) =>
 IxA 8 x2 s1 fun a1 =>
 Ld .sl ((a1.add 4).add 3) H58 fun (x3 : Sl) =>
 CallT Pg f_L_turned [slV x3] (.tup []) H58 fun (r19 : Unit) H59 =>
 Lt (IntKind.wrap .i64 (s1 + 1)) fun t1 =>
 next1 t1 H59) (
 LoopT (σ := Int) (fun next2 s2 H60 =>
 Ld .sl ((adr b5).add 1) H60 fun (x4 : Sl) =>
 Br (decide (s2 < (x4.len : Int))) (
 Ld .sl ((adr b5).add 1) H60 fun (x5 : Sl) =>
 IxA 4 x5 s2 fun a2 =>
 Ld .sl (a2.add 3) H60 fun (x6 : Sl) =>
 CallT Pg f_L_turned [slV x6] (.tup []) H60 fun (r20 : Unit) H61 =>
 Lt (IntKind.wrap .i64 (s2 + 1)) fun t2 =>
 next2 t2 H61) (
 LdC [.sl, .sl] (adr b5) H60 fun (c26 : Sl × Sl) =>
 LdC [(.int .i64), (.int .i64), (.int .i64), .sl, (.int .i64), (.int .i64), .sl] (adr b2) H60 fun (c27 : Int × Int × Int × Sl × Int × Int × Sl) =>
 CallT Pg f_L_program [.agg #[slV c26.1, slV c26.2]] (.one (.agg [.sl, .sl])) H60 fun (r21 : Sl × Sl) H62 =>
 Stab [((adr b2).add 0, .int .i64 c27.1), ((adr b2).add 1, .int .i64 c27.2.1), ((adr b2).add 2, .int .i64 c27.2.2.1), ((adr b2).add 3, slV c27.2.2.2.1), ((adr b2).add 4, .int .i64 c27.2.2.2.2.1), ((adr b2).add 5, .int .i64 c27.2.2.2.2.2.1), ((adr b2).add 6, slV c27.2.2.2.2.2.2)] H62 <|
 CallT Pg f_L_copied [.agg #[.int .i64 c27.1, .int .i64 c27.2.1, .int .i64 c27.2.2.1, slV c27.2.2.2.1, .int .i64 c27.2.2.2.2.1, .int .i64 c27.2.2.2.2.2.1, slV c27.2.2.2.2.2.2]] (.one (.agg [(.int .i64), (.int .i64), (.int .i64), .sl, (.int .i64), (.int .i64), .sl])) H62 fun (r22 : Int × Int × Int × Sl × Int × Int × Sl) H63 =>
 Stab [((adr b5).add 0, slV c26.1), ((adr b5).add 1, slV c26.2)] H63 <|
 CallT Pg f_R_Long [.agg #[slV r21.1, slV r21.2], .int .i64 system_, .agg #[.int .i64 r22.1, .int .i64 r22.2.1, .int .i64 r22.2.2.1, slV r22.2.2.2.1, .int .i64 r22.2.2.2.2.1, .int .i64 r22.2.2.2.2.2.1, slV r22.2.2.2.2.2.2], .int .i64 300000] (.one (.c .bool)) H63 fun (r23 : Bool) H64 =>
 Stab [((adr b2).add 0, .int .i64 c27.1), ((adr b2).add 1, .int .i64 c27.2.1), ((adr b2).add 2, .int .i64 c27.2.2.1), ((adr b2).add 3, slV c27.2.2.2.1), ((adr b2).add 4, .int .i64 c27.2.2.2.2.1), ((adr b2).add 5, .int .i64 c27.2.2.2.2.2.1), ((adr b2).add 6, slV c27.2.2.2.2.2.2), ((adr b5).add 0, slV c26.1), ((adr b5).add 1, slV c26.2)] H64 <|
 Br r23 (
 k true H64) (
 LdC [.sl, .sl] (adr b5) H64 fun (c28 : Sl × Sl) =>
 LdC [(.int .i64), (.int .i64), (.int .i64), .sl, (.int .i64), (.int .i64), .sl] (adr b2) H64 fun (c29 : Int × Int × Int × Sl × Int × Int × Sl) =>
 (
 CallT Pg f_L_program [.agg #[slV c28.1, slV c28.2]] (.one (.agg [.sl, .sl])) H64 fun (r24 : Sl × Sl) H65 =>
 Stab [((adr b2).add 0, .int .i64 c29.1), ((adr b2).add 1, .int .i64 c29.2.1), ((adr b2).add 2, .int .i64 c29.2.2.1), ((adr b2).add 3, slV c29.2.2.2.1), ((adr b2).add 4, .int .i64 c29.2.2.2.2.1), ((adr b2).add 5, .int .i64 c29.2.2.2.2.2.1), ((adr b2).add 6, slV c29.2.2.2.2.2.2)] H65 <|
 (
 CallT Pg f_L_copied [.agg #[.int .i64 c29.1, .int .i64 c29.2.1, .int .i64 c29.2.2.1, slV c29.2.2.2.1, .int .i64 c29.2.2.2.2.1, .int .i64 c29.2.2.2.2.2.1, slV c29.2.2.2.2.2.2]] (.one (.agg [(.int .i64), (.int .i64), (.int .i64), .sl, (.int .i64), (.int .i64), .sl])) H65 fun (r25 : Int × Int × Int × Sl × Int × Int × Sl) H66 =>
 Stab [((adr b5).add 0, slV c28.1), ((adr b5).add 1, slV c28.2)] H66 <|
 (
 CallT Pg f_R_Run [.agg #[slV r24.1, slV r24.2], .int .i64 system_, .agg #[.int .i64 r25.1, .int .i64 r25.2.1, .int .i64 r25.2.2.1, slV r25.2.2.2.1, .int .i64 r25.2.2.2.2.1, .int .i64 r25.2.2.2.2.2.1, slV r25.2.2.2.2.2.2]] (.one (.agg [.sl, .sl, .sl, (.int .i64), (.int .i64)])) H66 fun (r26 : Sl × Sl × Sl × Int × Int) H67 =>
 Stab [((adr b2).add 0, .int .i64 c29.1), ((adr b2).add 1, .int .i64 c29.2.1), ((adr b2).add 2, .int .i64 c29.2.2.1), ((adr b2).add 3, slV c29.2.2.2.1), ((adr b2).add 4, .int .i64 c29.2.2.2.2.1), ((adr b2).add 5, .int .i64 c29.2.2.2.2.2.1), ((adr b2).add 6, slV c29.2.2.2.2.2.2), ((adr b5).add 0, slV c28.1), ((adr b5).add 1, slV c28.2)] H67 <|
 Nw #[.slice none 0 0, .slice none 0 0, .slice none 0 0, .int .i64 0, .int .i64 0] T_api_Outcome H67 fun b9 H68 =>
 Stab [((adr b2).add 0, .int .i64 c29.1), ((adr b2).add 1, .int .i64 c29.2.1), ((adr b2).add 2, .int .i64 c29.2.2.1), ((adr b2).add 3, slV c29.2.2.2.1), ((adr b2).add 4, .int .i64 c29.2.2.2.2.1), ((adr b2).add 5, .int .i64 c29.2.2.2.2.2.1), ((adr b2).add 6, slV c29.2.2.2.2.2.2), ((adr b5).add 0, slV c28.1), ((adr b5).add 1, slV c28.2)] H68 <|
 St ((adr b9).add 0) (slV r26.1) H68 fun H69 =>
 St ((adr b9).add 1) (slV r26.2.1) H69 fun H70 =>
 St ((adr b9).add 2) (slV r26.2.2.1) H70 fun H71 =>
 St ((adr b9).add 3) (.int .i64 r26.2.2.2.1) H71 fun H72 =>
 St ((adr b9).add 4) (.int .i64 r26.2.2.2.2) H72 fun H73 =>
 v_L_MachineRuns_a1 b5 H73 b2 system_ b9 k b4) ∧ (
 Nw #[.slice none 0 0, .slice none 0 0, .slice none 0 0, .int .i64 0, .int .i64 0] T_api_Outcome H66 fun b13 H154 =>
 Stab [((adr b2).add 0, .int .i64 c29.1), ((adr b2).add 1, .int .i64 c29.2.1), ((adr b2).add 2, .int .i64 c29.2.2.1), ((adr b2).add 3, slV c29.2.2.2.1), ((adr b2).add 4, .int .i64 c29.2.2.2.2.1), ((adr b2).add 5, .int .i64 c29.2.2.2.2.2.1), ((adr b2).add 6, slV c29.2.2.2.2.2.2), ((adr b5).add 0, slV c28.1), ((adr b5).add 1, slV c28.2)] H154 <|
 CallT Pg f_R_Run [.agg #[slV r24.1, slV r24.2], .int .i64 system_, .agg #[.int .i64 r25.1, .int .i64 r25.2.1, .int .i64 r25.2.2.1, slV r25.2.2.2.1, .int .i64 r25.2.2.2.2.1, .int .i64 r25.2.2.2.2.2.1, slV r25.2.2.2.2.2.2]] (.one (.agg [.sl, .sl, .sl, (.int .i64), (.int .i64)])) H154 fun (r59 : Sl × Sl × Sl × Int × Int) H155 =>
 Stab [((adr b2).add 0, .int .i64 c29.1), ((adr b2).add 1, .int .i64 c29.2.1), ((adr b2).add 2, .int .i64 c29.2.2.1), ((adr b2).add 3, slV c29.2.2.2.1), ((adr b2).add 4, .int .i64 c29.2.2.2.2.1), ((adr b2).add 5, .int .i64 c29.2.2.2.2.2.1), ((adr b2).add 6, slV c29.2.2.2.2.2.2), ((adr b5).add 0, slV c28.1), ((adr b5).add 1, slV c28.2)] H155 <|
 St ((adr b13).add 0) (slV r59.1) H155 fun H156 =>
 St ((adr b13).add 1) (slV r59.2.1) H156 fun H157 =>
 St ((adr b13).add 2) (slV r59.2.2.1) H157 fun H158 =>
 St ((adr b13).add 3) (.int .i64 r59.2.2.2.1) H158 fun H159 =>
 St ((adr b13).add 4) (.int .i64 r59.2.2.2.2) H159 fun H160 =>
 v_L_MachineRuns_a1 b5 H160 b2 system_ b13 k b4) ∧ True) ∧ (
 Nw #[.slice none 0 0, .slice none 0 0, .slice none 0 0, .int .i64 0, .int .i64 0] T_api_Outcome H65 fun b17 H241 =>
 Stab [((adr b2).add 0, .int .i64 c29.1), ((adr b2).add 1, .int .i64 c29.2.1), ((adr b2).add 2, .int .i64 c29.2.2.1), ((adr b2).add 3, slV c29.2.2.2.1), ((adr b2).add 4, .int .i64 c29.2.2.2.2.1), ((adr b2).add 5, .int .i64 c29.2.2.2.2.2.1), ((adr b2).add 6, slV c29.2.2.2.2.2.2), ((adr b5).add 0, slV c28.1), ((adr b5).add 1, slV c28.2)] H241 <|
 CallT Pg f_L_copied [.agg #[.int .i64 c29.1, .int .i64 c29.2.1, .int .i64 c29.2.2.1, slV c29.2.2.2.1, .int .i64 c29.2.2.2.2.1, .int .i64 c29.2.2.2.2.2.1, slV c29.2.2.2.2.2.2]] (.one (.agg [(.int .i64), (.int .i64), (.int .i64), .sl, (.int .i64), (.int .i64), .sl])) H241 fun (r92 : Int × Int × Int × Sl × Int × Int × Sl) H242 =>
 Stab [((adr b5).add 0, slV c28.1), ((adr b5).add 1, slV c28.2)] H242 <|
 CallT Pg f_R_Run [.agg #[slV r24.1, slV r24.2], .int .i64 system_, .agg #[.int .i64 r92.1, .int .i64 r92.2.1, .int .i64 r92.2.2.1, slV r92.2.2.2.1, .int .i64 r92.2.2.2.2.1, .int .i64 r92.2.2.2.2.2.1, slV r92.2.2.2.2.2.2]] (.one (.agg [.sl, .sl, .sl, (.int .i64), (.int .i64)])) H242 fun (r93 : Sl × Sl × Sl × Int × Int) H243 =>
 Stab [((adr b2).add 0, .int .i64 c29.1), ((adr b2).add 1, .int .i64 c29.2.1), ((adr b2).add 2, .int .i64 c29.2.2.1), ((adr b2).add 3, slV c29.2.2.2.1), ((adr b2).add 4, .int .i64 c29.2.2.2.2.1), ((adr b2).add 5, .int .i64 c29.2.2.2.2.2.1), ((adr b2).add 6, slV c29.2.2.2.2.2.2), ((adr b5).add 0, slV c28.1), ((adr b5).add 1, slV c28.2)] H243 <|
 St ((adr b17).add 0) (slV r93.1) H243 fun H244 =>
 St ((adr b17).add 1) (slV r93.2.1) H244 fun H245 =>
 St ((adr b17).add 2) (slV r93.2.2.1) H245 fun H246 =>
 St ((adr b17).add 3) (.int .i64 r93.2.2.2.1) H246 fun H247 =>
 St ((adr b17).add 4) (.int .i64 r93.2.2.2.2) H247 fun H248 =>
 v_L_MachineRuns_a1 b5 H248 b2 system_ b17 k b4) ∧ True) ∧ (
 Nw #[.slice none 0 0, .slice none 0 0, .slice none 0 0, .int .i64 0, .int .i64 0] T_api_Outcome H64 fun b21 H329 =>
 Stab [((adr b2).add 0, .int .i64 c29.1), ((adr b2).add 1, .int .i64 c29.2.1), ((adr b2).add 2, .int .i64 c29.2.2.1), ((adr b2).add 3, slV c29.2.2.2.1), ((adr b2).add 4, .int .i64 c29.2.2.2.2.1), ((adr b2).add 5, .int .i64 c29.2.2.2.2.2.1), ((adr b2).add 6, slV c29.2.2.2.2.2.2), ((adr b5).add 0, slV c28.1), ((adr b5).add 1, slV c28.2)] H329 <|
 CallT Pg f_L_program [.agg #[slV c28.1, slV c28.2]] (.one (.agg [.sl, .sl])) H329 fun (r126 : Sl × Sl) H330 =>
 Stab [((adr b2).add 0, .int .i64 c29.1), ((adr b2).add 1, .int .i64 c29.2.1), ((adr b2).add 2, .int .i64 c29.2.2.1), ((adr b2).add 3, slV c29.2.2.2.1), ((adr b2).add 4, .int .i64 c29.2.2.2.2.1), ((adr b2).add 5, .int .i64 c29.2.2.2.2.2.1), ((adr b2).add 6, slV c29.2.2.2.2.2.2)] H330 <|
 CallT Pg f_L_copied [.agg #[.int .i64 c29.1, .int .i64 c29.2.1, .int .i64 c29.2.2.1, slV c29.2.2.2.1, .int .i64 c29.2.2.2.2.1, .int .i64 c29.2.2.2.2.2.1, slV c29.2.2.2.2.2.2]] (.one (.agg [(.int .i64), (.int .i64), (.int .i64), .sl, (.int .i64), (.int .i64), .sl])) H330 fun (r127 : Int × Int × Int × Sl × Int × Int × Sl) H331 =>
 Stab [((adr b5).add 0, slV c28.1), ((adr b5).add 1, slV c28.2)] H331 <|
 CallT Pg f_R_Run [.agg #[slV r126.1, slV r126.2], .int .i64 system_, .agg #[.int .i64 r127.1, .int .i64 r127.2.1, .int .i64 r127.2.2.1, slV r127.2.2.2.1, .int .i64 r127.2.2.2.2.1, .int .i64 r127.2.2.2.2.2.1, slV r127.2.2.2.2.2.2]] (.one (.agg [.sl, .sl, .sl, (.int .i64), (.int .i64)])) H331 fun (r128 : Sl × Sl × Sl × Int × Int) H332 =>
 Stab [((adr b2).add 0, .int .i64 c29.1), ((adr b2).add 1, .int .i64 c29.2.1), ((adr b2).add 2, .int .i64 c29.2.2.1), ((adr b2).add 3, slV c29.2.2.2.1), ((adr b2).add 4, .int .i64 c29.2.2.2.2.1), ((adr b2).add 5, .int .i64 c29.2.2.2.2.2.1), ((adr b2).add 6, slV c29.2.2.2.2.2.2), ((adr b5).add 0, slV c28.1), ((adr b5).add 1, slV c28.2)] H332 <|
 St ((adr b21).add 0) (slV r128.1) H332 fun H333 =>
 St ((adr b21).add 1) (slV r128.2.1) H333 fun H334 =>
 St ((adr b21).add 2) (slV r128.2.2.1) H334 fun H335 =>
 St ((adr b21).add 3) (.int .i64 r128.2.2.2.1) H335 fun H336 =>
 St ((adr b21).add 4) (.int .i64 r128.2.2.2.2) H336 fun H337 =>
 v_L_MachineRuns_a1 b5 H337 b2 system_ b21 k b4) ∧ True))) 0 H58)) 0 H57))
def v_L_MachineRuns (p_ : Sl × Sl) (system_ : Int) (e_ : Int × Int × Int × Sl × Int × Int × Sl) (H : Heap) (k : Bool → Heap → Prop) : Prop :=
 Nw #[slV p_.1, slV p_.2] T_api_Program H fun b1 H1 =>
 Nw #[.int .i64 e_.1, .int .i64 e_.2.1, .int .i64 e_.2.2.1, slV e_.2.2.2.1, .int .i64 e_.2.2.2.2.1, .int .i64 e_.2.2.2.2.2.1, slV e_.2.2.2.2.2.2] T_api_Env H1 fun b2 H2 =>
 CallT Pg f_L_shown [] (.one (.c .bool)) H2 fun (r1 : Bool) H3 =>
 LdC [.sl, .sl] (adr b1) H3 fun (c1 : Sl × Sl) =>
 LdC [(.int .i64), (.int .i64), (.int .i64), .sl, (.int .i64), (.int .i64), .sl] (adr b2) H3 fun (c2 : Int × Int × Int × Sl × Int × Int × Sl) =>
 CallT Pg f_L_copied [.agg #[.int .i64 c2.1, .int .i64 c2.2.1, .int .i64 c2.2.2.1, slV c2.2.2.2.1, .int .i64 c2.2.2.2.2.1, .int .i64 c2.2.2.2.2.2.1, slV c2.2.2.2.2.2.2]] (.one (.agg [(.int .i64), (.int .i64), (.int .i64), .sl, (.int .i64), (.int .i64), .sl])) H3 fun (r2 : Int × Int × Int × Sl × Int × Int × Sl) H4 =>
 Stab [((adr b1).add 0, slV c1.1), ((adr b1).add 1, slV c1.2)] H4 <|
 CallT Pg f_R_Long [.agg #[slV c1.1, slV c1.2], .int .i64 system_, .agg #[.int .i64 r2.1, .int .i64 r2.2.1, .int .i64 r2.2.2.1, slV r2.2.2.2.1, .int .i64 r2.2.2.2.2.1, .int .i64 r2.2.2.2.2.2.1, slV r2.2.2.2.2.2.2], .int .i64 300000] (.one (.c .bool)) H4 fun (r3 : Bool) H5 =>
 Stab [((adr b2).add 0, .int .i64 c2.1), ((adr b2).add 1, .int .i64 c2.2.1), ((adr b2).add 2, .int .i64 c2.2.2.1), ((adr b2).add 3, slV c2.2.2.2.1), ((adr b2).add 4, .int .i64 c2.2.2.2.2.1), ((adr b2).add 5, .int .i64 c2.2.2.2.2.2.1), ((adr b2).add 6, slV c2.2.2.2.2.2.2)] H5 <|
 Jn (σ := Bool) (fun kk1 =>
 Br (!r1) (
 kk1 true H5) (
 kk1 r3 H5)) fun j1 H6 =>
 Br j1 (
 k r1 H6) (
 LdC [.sl, .sl] (adr b1) H6 fun (c3 : Sl × Sl) =>
 LdC [(.int .i64), (.int .i64), (.int .i64), .sl, (.int .i64), (.int .i64), .sl] (adr b2) H6 fun (c4 : Int × Int × Int × Sl × Int × Int × Sl) =>
 (
 CallT Pg f_L_copied [.agg #[.int .i64 c4.1, .int .i64 c4.2.1, .int .i64 c4.2.2.1, slV c4.2.2.2.1, .int .i64 c4.2.2.2.2.1, .int .i64 c4.2.2.2.2.2.1, slV c4.2.2.2.2.2.2]] (.one (.agg [(.int .i64), (.int .i64), (.int .i64), .sl, (.int .i64), (.int .i64), .sl])) H6 fun (r4 : Int × Int × Int × Sl × Int × Int × Sl) H7 =>
 Stab [((adr b1).add 0, slV c3.1), ((adr b1).add 1, slV c3.2)] H7 <|
 (
 CallT Pg f_R_Run [.agg #[slV c3.1, slV c3.2], .int .i64 system_, .agg #[.int .i64 r4.1, .int .i64 r4.2.1, .int .i64 r4.2.2.1, slV r4.2.2.2.1, .int .i64 r4.2.2.2.2.1, .int .i64 r4.2.2.2.2.2.1, slV r4.2.2.2.2.2.2]] (.one (.agg [.sl, .sl, .sl, (.int .i64), (.int .i64)])) H7 fun (r5 : Sl × Sl × Sl × Int × Int) H8 =>
 Stab [((adr b2).add 0, .int .i64 c4.1), ((adr b2).add 1, .int .i64 c4.2.1), ((adr b2).add 2, .int .i64 c4.2.2.1), ((adr b2).add 3, slV c4.2.2.2.1), ((adr b2).add 4, .int .i64 c4.2.2.2.2.1), ((adr b2).add 5, .int .i64 c4.2.2.2.2.2.1), ((adr b2).add 6, slV c4.2.2.2.2.2.2)] H8 <|
 Nw #[.slice none 0 0, .slice none 0 0, .slice none 0 0, .int .i64 0, .int .i64 0] T_api_Outcome H8 fun b3 H9 =>
 Stab [((adr b2).add 0, .int .i64 c4.1), ((adr b2).add 1, .int .i64 c4.2.1), ((adr b2).add 2, .int .i64 c4.2.2.1), ((adr b2).add 3, slV c4.2.2.2.1), ((adr b2).add 4, .int .i64 c4.2.2.2.2.1), ((adr b2).add 5, .int .i64 c4.2.2.2.2.2.1), ((adr b2).add 6, slV c4.2.2.2.2.2.2), ((adr b1).add 0, slV c3.1), ((adr b1).add 1, slV c3.2)] H9 <|
 St ((adr b3).add 0) (slV r5.1) H9 fun H10 =>
 St ((adr b3).add 1) (slV r5.2.1) H10 fun H11 =>
 St ((adr b3).add 2) (slV r5.2.2.1) H11 fun H12 =>
 St ((adr b3).add 3) (.int .i64 r5.2.2.2.1) H12 fun H13 =>
 St ((adr b3).add 4) (.int .i64 r5.2.2.2.2) H13 fun H14 =>
 v_L_MachineRuns_a2 b2 H14 b1 system_ k b3) ∧ (
 Nw #[.slice none 0 0, .slice none 0 0, .slice none 0 0, .int .i64 0, .int .i64 0] T_api_Outcome H7 fun b25 H418 =>
 Stab [((adr b2).add 0, .int .i64 c4.1), ((adr b2).add 1, .int .i64 c4.2.1), ((adr b2).add 2, .int .i64 c4.2.2.1), ((adr b2).add 3, slV c4.2.2.2.1), ((adr b2).add 4, .int .i64 c4.2.2.2.2.1), ((adr b2).add 5, .int .i64 c4.2.2.2.2.2.1), ((adr b2).add 6, slV c4.2.2.2.2.2.2), ((adr b1).add 0, slV c3.1), ((adr b1).add 1, slV c3.2)] H418 <|
 CallT Pg f_R_Run [.agg #[slV c3.1, slV c3.2], .int .i64 system_, .agg #[.int .i64 r4.1, .int .i64 r4.2.1, .int .i64 r4.2.2.1, slV r4.2.2.2.1, .int .i64 r4.2.2.2.2.1, .int .i64 r4.2.2.2.2.2.1, slV r4.2.2.2.2.2.2]] (.one (.agg [.sl, .sl, .sl, (.int .i64), (.int .i64)])) H418 fun (r161 : Sl × Sl × Sl × Int × Int) H419 =>
 Stab [((adr b2).add 0, .int .i64 c4.1), ((adr b2).add 1, .int .i64 c4.2.1), ((adr b2).add 2, .int .i64 c4.2.2.1), ((adr b2).add 3, slV c4.2.2.2.1), ((adr b2).add 4, .int .i64 c4.2.2.2.2.1), ((adr b2).add 5, .int .i64 c4.2.2.2.2.2.1), ((adr b2).add 6, slV c4.2.2.2.2.2.2)] H419 <|
 St ((adr b25).add 0) (slV r161.1) H419 fun H420 =>
 St ((adr b25).add 1) (slV r161.2.1) H420 fun H421 =>
 St ((adr b25).add 2) (slV r161.2.2.1) H421 fun H422 =>
 St ((adr b25).add 3) (.int .i64 r161.2.2.2.1) H422 fun H423 =>
 St ((adr b25).add 4) (.int .i64 r161.2.2.2.2) H423 fun H424 =>
 v_L_MachineRuns_a2 b2 H424 b1 system_ k b25) ∧ True) ∧ (
 Nw #[.slice none 0 0, .slice none 0 0, .slice none 0 0, .int .i64 0, .int .i64 0] T_api_Outcome H6 fun b47 H828 =>
 Stab [((adr b2).add 0, .int .i64 c4.1), ((adr b2).add 1, .int .i64 c4.2.1), ((adr b2).add 2, .int .i64 c4.2.2.1), ((adr b2).add 3, slV c4.2.2.2.1), ((adr b2).add 4, .int .i64 c4.2.2.2.2.1), ((adr b2).add 5, .int .i64 c4.2.2.2.2.2.1), ((adr b2).add 6, slV c4.2.2.2.2.2.2), ((adr b1).add 0, slV c3.1), ((adr b1).add 1, slV c3.2)] H828 <|
 CallT Pg f_L_copied [.agg #[.int .i64 c4.1, .int .i64 c4.2.1, .int .i64 c4.2.2.1, slV c4.2.2.2.1, .int .i64 c4.2.2.2.2.1, .int .i64 c4.2.2.2.2.2.1, slV c4.2.2.2.2.2.2]] (.one (.agg [(.int .i64), (.int .i64), (.int .i64), .sl, (.int .i64), (.int .i64), .sl])) H828 fun (r317 : Int × Int × Int × Sl × Int × Int × Sl) H829 =>
 Stab [((adr b1).add 0, slV c3.1), ((adr b1).add 1, slV c3.2)] H829 <|
 CallT Pg f_R_Run [.agg #[slV c3.1, slV c3.2], .int .i64 system_, .agg #[.int .i64 r317.1, .int .i64 r317.2.1, .int .i64 r317.2.2.1, slV r317.2.2.2.1, .int .i64 r317.2.2.2.2.1, .int .i64 r317.2.2.2.2.2.1, slV r317.2.2.2.2.2.2]] (.one (.agg [.sl, .sl, .sl, (.int .i64), (.int .i64)])) H829 fun (r318 : Sl × Sl × Sl × Int × Int) H830 =>
 Stab [((adr b2).add 0, .int .i64 c4.1), ((adr b2).add 1, .int .i64 c4.2.1), ((adr b2).add 2, .int .i64 c4.2.2.1), ((adr b2).add 3, slV c4.2.2.2.1), ((adr b2).add 4, .int .i64 c4.2.2.2.2.1), ((adr b2).add 5, .int .i64 c4.2.2.2.2.2.1), ((adr b2).add 6, slV c4.2.2.2.2.2.2)] H830 <|
 St ((adr b47).add 0) (slV r318.1) H830 fun H831 =>
 St ((adr b47).add 1) (slV r318.2.1) H831 fun H832 =>
 St ((adr b47).add 2) (slV r318.2.2.1) H832 fun H833 =>
 St ((adr b47).add 3) (.int .i64 r318.2.2.2.1) H833 fun H834 =>
 St ((adr b47).add 4) (.int .i64 r318.2.2.2.2) H834 fun H835 =>
 v_L_MachineRuns_a2 b2 H835 b1 system_ k b47) ∧ True)
def h_L_MachineRuns : Hint := (.two .no (.two .no (.two .no (.two (.two (.join [(39, (.c .bool))] .no) .no) (.two .no (.two .no (.two .no (.two .no (.two .no (.two .no (.two .no (.two .no (.two .no (.two .no (.two .no (.two .no (.two .no (.two .no (.two .no (.two (.two (.join [(102, (.c .bool))] .no) .no) (.two (.two .no (.one (.loop [(21, (.c (.int .i64)))] .no))) (.two (.two .no (.one (.loop [(22, (.c (.int .i64)))] .no))) (.two .no (.two .no (.two .no (.two .no (.two .no (.two .no (.two (.two .no (.one (.loop [(26, (.c (.int .i64)))] .no))) (.two (.two .no (.one (.loop [(27, (.c (.int .i64)))] (.two .no (.two (.one (.two .no (.one (.loop [(28, (.c (.int .i64)))] .no)))) .no))))) .no))))))))))))))))))))))))))))))
theorem c_L_MachineRuns (p_ : Sl × Sl) (system_ : Int) (e_ : Int × Int × Int × Sl × Int × Int × Sl) {H : Heap} {k : Bool → Heap → Prop} (h : v_L_MachineRuns p_ system_ e_ H k) : CallT Pg f_L_MachineRuns [.agg #[slV p_.1, slV p_.2], .int .i64 system_, .agg #[.int .i64 e_.1, .int .i64 e_.2.1, .int .i64 e_.2.2.1, slV e_.2.2.2.1, .int .i64 e_.2.2.2.2.1, .int .i64 e_.2.2.2.2.2.1, slV e_.2.2.2.2.2.2]] (.one (.c .bool)) H k :=
 call_of_E (h := h_L_MachineRuns) Pg_mixed Tryz.func3 (by kernel_rfl) (by kernel_rfl) (by kernel_rfl) (by kernel_rfl) (Eq.mpr (by kernel_rfl) h)
end
section
open Hc Hc.Vf Hc.Mc Hc.Dice
variable {H : Heap}
structure EnvP (e : EnV) (ins : List (Int × Int × Int)) (ps : List PtP) : Prop where
  ok : EOk (enS e ins)
  il : ins.length * 24 ≤ 140737488351232
  pl : ps.length ≤ 2 ^ 42
  pv : ∀ q ∈ ps, q.vals.length ≤ 2 ^ 44 ∧ All64 q.vals
structure PrgS (ss : List Sy) (fs : List Rou) : Prop where
  prg : ∃ (H0 : Heap) (q0 : Sl × Sl), PrgI H0 q0 ss fs
  sl : ∀ x ∈ ss, x.rou.code.length ≤ 2 ^ 40
  fl : ∀ r ∈ fs, r.code.length ≤ 2 ^ 40
theorem PrgS.at {ss : List Sy} {fs : List Rou} (h : PrgS ss fs) {lo bs bf : Nat} (hc : CpP lo H bs bf ss fs) : PrgI H (cpQ bs bf ss.length fs.length) ss fs := by
  obtain ⟨H0, q0, hP⟩ := h.prg
  exact hc.prgI hP rfl rfl
theorem PrgS.cp {ss ss' : List Sy} {fs fs' : List Rou} (h : PrgS ss fs) {lo bs bf : Nat} (hc : CpP lo H bs bf ss' fs') (hs : ss'.map sysP = ss.map sysP) (hf : fs'.map rouP = fs.map rouP) : PrgI H (cpQ bs bf ss.length fs.length) ss' fs' := by
  obtain ⟨H0, q0, hP⟩ := h.prg
  exact hc.prgI hP hs hf
section
variable {p : Sl × Sl} {ss : List Sy} {fs : List Rou} {e : EnV} {ins : List (Int × Int × Int)} {ps qs : List PtP} {bi bp lo : Nat} {n : Int}
theorem run_in3 (hP : PrgI H p ss fs) (hcp : CpR lo H bi bp ins qs) (hq : qs.map PtP.pt = ps.map PtP.pt) (hE : EnvP e ins ps) (hn : 0 ≤ n ∧ n < (ss.length : Int)) : RunIn H p ss n (cpE e bi bp ins.length ps.length) qs fs ins := by
  have hl : qs.length = ps.length := by simpa using congrArg List.length hq
  have := run_in2 (e := e) hP hcp hE.il (by rw [hl]; exact hE.pl) (fun q hq' => by
    obtain ⟨y, hy, ey⟩ := mem_map_eq hq hq'
    have e2 : q.vals = y.vals := congrArg Pt.vals ey
    rw [e2]; exact hE.pv y hy) hE.ok hn
  rwa [hl] at this
theorem ref_run (hP : PrgI H p ss fs) (hcp : CpR lo H bi bp ins qs) (hq : qs.map PtP.pt = ps.map PtP.pt) (hE : EnvP e ins ps) {k : OutS → Heap → Prop} (hk : ∀ H' r o vs cl, Ext H H' → OutIs (2 ^ 63) ss fs n (enS e ins) (ps.map PtP.pt) o → OutD H' r o vs cl → k r H') :
    CallT Pg f_R_Run [prgA p, .int .i64 n, envA (cpE e bi bp ins.length ps.length)] RunT H k :=
  s_rRunD (B := H) hP.sys (fun hn => run_in3 hP hcp hq hE hn) fun H' r o vs cl h1 h2 h3 => hk H' r o vs cl h1 (by rw [← hq]; exact h2) h3
theorem mac_run (hP : PrgI H p ss fs) (hcp : CpR lo H bi bp ins qs) (hq : qs.map PtP.pt = ps.map PtP.pt) (hE : EnvP e ins ps) {k : OutS → Heap → Prop} (hk : ∀ H' r o vs cl, Ext H H' → OutIs (2 ^ 40) ss fs n (enS e ins) (firsts (ps.map PtP.pt)) o → OutM H.size H' r o vs cl → k r H') :
    CallT Pg f_machine_Run [prgA p, .int .i64 n, envA (cpE e bi bp ins.length ps.length)] RunT H k :=
  s_RunG hP.sys (fun hn => run_in3 hP hcp hq hE hn) fun H' r o vs cl h1 h2 h3 => hk H' r o vs cl h1 (by rw [← hq]; exact h2) h3
theorem ref_long (hP : PrgI H p ss fs) (hcp : CpR lo H bi bp ins qs) (hq : qs.map PtP.pt = ps.map PtP.pt) (hE : EnvP e ins ps) {k : Bool → Heap → Prop} (hk : ∀ r H', Ext H H' → k r H') :
    CallT Pg f_R_Long [prgA p, .int .i64 n, envA (cpE e bi bp ins.length ps.length), .int .i64 300000] BoolR H k :=
  s_Long (by decide) hP.sys (fun hn => run_in3 hP hcp hq hE hn) hk
theorem one_out (hS : PrgS ss fs) (hE : EnvP e ins ps) {o o' : Outc} (h : OutIs (2 ^ 63) ss fs n (enS e ins) (ps.map PtP.pt) o) (h' : OutIs (2 ^ 40) ss fs n (enS e ins) (firsts (ps.map PtP.pt)) o') : o = o' := by
  obtain ⟨H0, q0, hP⟩ := hS.prg
  refine outIs_one hP hE.ok (fun q hq => ?_) hS.sl hS.fl h h'
  obtain ⟨y, hy, rfl⟩ := List.mem_map.1 hq
  exact (hE.pv y hy).2
theorem small_out (hS : PrgS ss fs) (hE : EnvP e ins ps) {o : Outc} (h : OutIs (2 ^ 63) ss fs n (enS e ins) (ps.map PtP.pt) o) {vs : List PtP} {cl : List CmP} (h1 : vs.map PtP.pt = o.vals) (h2 : cl.map CmP.cm = o.cmds) : OutSm2 o vs cl := by
  obtain ⟨H0, q0, hP⟩ := hS.prg
  refine outIs_small2 hP hE.ok (fun q hq => ?_) (fun q hq => ?_) (by rw [List.length_map]; exact hE.pl) h h1 h2
  · obtain ⟨y, hy, rfl⟩ := List.mem_map.1 hq
    exact (hE.pv y hy).2
  · obtain ⟨y, hy, rfl⟩ := List.mem_map.1 hq
    exact (hE.pv y hy).1
end
theorem EnvP.bump {e : EnV} {ins : List (Int × Int × Int)} {ps : List PtP} (h : EnvP e ins ps) : EnvP e (ins.map bI) (ps.map bP) := by
  refine ⟨⟨h.ok.1, h.ok.2, fun x hx => ?_⟩, by rw [List.length_map]; exact h.il, by rw [List.length_map]; exact h.pl, fun q hq => ?_⟩
  · obtain ⟨y, _, rfl⟩ := List.mem_map.1 hx
    exact w64_bd _
  · obtain ⟨y, hy, rfl⟩ := List.mem_map.1 hq
    refine ⟨by show (y.vals.map b2).length ≤ _; rw [List.length_map]; exact (h.pv y hy).1, fun x hx => ?_⟩
    obtain ⟨z, _, rfl⟩ := List.mem_map.1 hx
    exact w64_bd _
theorem a0_ok {B : Heap} {c4 c5 c9 c10 bi bp bs bf : Nat} {e : EnV} {ins : List (Int × Int × Int)} {qs : List PtP} {ss : List Sy} {fs : List Rou} {n : Int} {rn ra : OutS} {o : Outc} {pn pa : List PtP} {cn ca : List CmP} {k : Bool → Heap → Prop} (hB : Ext B H) (h9 : B.size ≤ c9) (r4 : Row H c4 T_api_Env (envL (cpE e bi bp ins.length qs.length))) (r5 : Row H c5 T_api_Program [slV (cpQ bs bf ss.length fs.length).1, slV (cpQ bs bf ss.length fs.length).2]) (r9 : Row H c9 T_api_Outcome (outV rn)) (r10 : Row H c10 T_api_Outcome (outV ra))
    (hcx : CpR B.size H bi bp ins qs) (hcq : CpP B.size H bs bf ss fs) (hS : PrgS ss fs) (hE : EnvP e ins qs) (dn : OutD H rn o pn cn) (da : OutD H ra o pa ca) (hsm : OutSm o pa ca) (hk : ∀ H', Ext B H' → k true H') : v_L_MachineRuns_a0 c10 H c9 k c4 c5 n := by
  unfold v_L_MachineRuns_a0
  simp only [adr_add]
  have hil := hE.il
  refine ⟨ra, r10.rd_all, ⟨rn, r9.rd_all, ?_⟩⟩
  refine s_same da.rd dn.rd hsm fun H1 hE1 => ?_
  rw [Bool.not_true, Br_false]
  have r4 := hE1.row r4 fun h => h
  have r5 := hE1.row r5 fun h => h
  have r9 := hE1.row r9 fun h => h
  have hB1 := hB.trans hE1 fun _ _ h => h
  refine bumpI r4 (hcx.ext hE1) (by omega) fun H2 t2 hcx2 => ?_
  have r4 := t2.keep r4 (by decide)
  have r5 := t2.keep r5 (by decide)
  have r9 := t2.keep r9 (by decide)
  have hB2 : Ext B H2 := hB1.trans t2.upd fun b hb e => by have := hcx.bi; omega
  have hcq2 := (hcq.ext hE1).tou t2 (by decide) (by decide) (by decide) (by decide)
  refine bumpP r4 hcx2 hE.pl (fun q hq => (hE.pv q hq).1) fun H3 t3 hcx3 => ?_
  have r4 := t3.keep r4 (by decide)
  have r5 := t3.keep r5 (by decide)
  have r9 := t3.keep r9 (by decide)
  have hB3 : Ext B H3 := hB2.trans t3.upd fun b hb e => by omega
  have hcq3 := hcq2.tou t3 (by decide) (by decide) (by decide) (by decide)
  have hE2 := hE.bump
  have hil2 : (ins.map bI).length ≤ 2 ^ 43 := by rw [List.length_map]; omega
  have hl1 : ins.length = (ins.map bI).length := by rw [List.length_map]
  have hl2 : qs.length = (qs.map bP).length := by rw [List.length_map]
  rw [hl1, hl2] at r4
  generalize ins.map bI = ins2 at *
  generalize qs.map bP = qs2 at *
  have ee : cpE e bi bp ins2.length qs2.length = cpE e bi bp ins2.length qs2.length := rfl
  generalize hx : cpE e bi bp ins2.length qs2.length = x at *
  have hEx : EnvP x ins2 qs2 := by rw [← hx]; exact ⟨hE2.ok, hE2.il, hE2.pl, hE2.pv⟩
  have hin : RN inV 3 H3 x.inS ins2 := by rw [← hx]; exact hcx3.rnI
  have hpr : RN ptV 2 H3 x.rp qs2 := by rw [← hx]; exact hcx3.rnP
  have cpy : ∀ {H' : Heap} {k : Int × Int × Int × Sl × Int × Int × Sl → Heap → Prop}, Ext H3 H' → (∀ H'' bi bp qs, Ext H' H'' → CpR H'.size H'' bi bp ins2 qs → qs.map PtP.pt = qs2.map PtP.pt → k (x.fr, x.sd, x.en, ⟨some (adr bi), ins2.length, ins2.length + 80⟩, x.ix, x.gn, ⟨some (adr bp), qs2.length, qs2.length + 80⟩) H'') → CallT Pg f_L_copied [envA x] EnvR H' k := fun hE hk =>
    s_copied (e := x) (hin.ext hE) (hpr.ext hE) (fun q hq => ⟨(hcx3.rlV hq).ext hE, (hE2.pv q hq).1⟩) hil2 hE2.pl hk
  refine ⟨cpQ bs bf ss.length fs.length, r5.rd_all, ⟨(x.fr, x.sd, x.en, x.inS, x.ix, x.gn, x.rp), r4.rd_all, ?_⟩⟩
  refine s_program (hS.at hcq3) fun H4 bs4 bf4 ss4 fs4 hE4 hcq4 hs4 hf4 => ?_
  refine Stab_all (st_env (hE4.row r4 fun h => h)) ?_
  refine cpy hE4 fun H5 bi5 bp5 qs5 hE5 hcx5 hq5 => ?_
  have hE35 := hE4.trans hE5 fun _ _ h => h
  refine Stab_all (st_prog (hE35.row r5 fun h => h)) ?_
  refine ref_long (e := x) (hS.cp (hcq4.ext hE5) hs4 hf4) hcx5 hq5 hEx fun rl H6 hE6 => ?_
  have hE36 := hE35.trans hE6 fun _ _ h => h
  have r4 := hE36.row r4 fun h => h
  have r5 := hE36.row r5 fun h => h
  have r9 := hE36.row r9 fun h => h
  have hB6 := hB3.trans hE36 fun _ _ h => h
  refine Stab_all (st_both r5 r4) (Br.mk (fun _ => hk _ hB6) fun _ => ?_)
  refine ⟨cpQ bs bf ss.length fs.length, r5.rd_all, ⟨(x.fr, x.sd, x.en, x.inS, x.ix, x.gn, x.rp), r4.rd_all, ?_⟩⟩
  refine s_program (hS.at (hcq3.ext hE36)) fun H7 bs7 bf7 ss7 fs7 hE7 hcq7 hs7 hf7 => ?_
  have hE37 := hE36.trans hE7 fun _ _ h => h
  refine Stab_all (st_env (hE7.row r4 fun h => h)) ?_
  refine cpy hE37 fun H8 bi8 bp8 qs8 hE8 hcx8 hq8 => ?_
  have hE68 := hE7.trans hE8 fun _ _ h => h
  refine Stab_all (st_prog (hE68.row r5 fun h => h)) ?_
  refine ref_run (e := x) (hS.cp (hcq7.ext hE8) hs7 hf7) hcx8 hq8 hEx fun H9 r o1 vs1 cl1 hE9 ho1 d1 => ?_
  have hE69 := hE68.trans hE9 fun _ _ h => h
  have r4 := hE69.row r4 fun h => h
  have r5 := hE69.row r5 fun h => h
  have r9 := hE69.row r9 fun h => h
  have hB9 := hB6.trans hE69 fun _ _ h => h
  refine Stab_all (st_both r5 r4) ?_
  refine St_row r9 (by simp) fun G1 hU1 _ hg1 => St_row hg1 (by simp) fun G2 hU2 _ hg2 => St_row hg2 (by simp) fun G3 hU3 _ hg3 => St_row hg3 (by simp) fun G4 hU4 _ hg4 => St_row hg4 (by simp) fun G5 hU5 _ hg5 => ?_
  have hg5 : Row G5 c9 T_api_Outcome (outV r) := hg5
  have hUU : Upd (· = c9) H9 G5 := (((hU1.trans hU2 fun _ _ e => e).trans hU3 fun _ _ e => e).trans hU4 fun _ _ e => e).trans hU5 fun _ _ e => e
  have tG : Tou (· = c9) (· = T_api_Outcome) H9 G5 := Tou.of_st r9 hUU hg5 rfl
  have d1 := d1.off hUU (.inl ⟨_, r9⟩)
  have hBG : Ext B G5 := extUpd hB9 h9 hUU
  have r4 := tG.keep r4 (by decide)
  have r5 := tG.keep r5 (by decide)
  have hE39 := hE36.trans hE69 fun _ _ h => h
  have hcxG : CpR B.size G5 bi bp ins2 qs2 := by
    have h := hcx3.ext hE39
    exact ⟨tG.keep h.inp (by decide), tG.keep h.prt (by decide), fun q hq => by
      obtain ⟨b, g1, g2, g3⟩ := h.vls q hq
      exact ⟨b, g1, tG.keep g2 (by decide), g3⟩, h.ap, h.bi, h.bp⟩
  have hcqG := (hcq3.ext hE39).tou tG (by decide) (by decide) (by decide) (by decide)
  refine ⟨cpQ bs bf ss.length fs.length, r5.rd_all, ⟨(x.fr, x.sd, x.en, x.inS, x.ix, x.gn, x.rp), r4.rd_all, ⟨r, hg5.rd_all, ?_⟩⟩⟩
  subst hx
  refine mac_run (e := e) (hS.at hcqG) hcxG rfl hE2 fun H10 r' o2 vs2 cl2 hE10 ho2 m2 => ?_
  have r9' := hE10.row hg5 fun h => h
  refine Stab_all (fun y hy => by
    simp only [List.mem_cons, List.not_mem_nil, or_false] at hy
    rcases hy with rfl | rfl | rfl | rfl | rfl <;> exact (r9'.cell _).trans rfl) ?_
  have ho1' := ho1.cp hs7 hf7
  have e12 : o1 = o2 := one_out hS hE2 ho1' ho2
  subst e12
  refine s_same m2.rd (d1.ext hE10).rd (small_out hS hE2 ho1' m2.vals m2.cmds).sm fun H11 hE11 => ?_
  have hX := hE10.trans hE11 fun _ _ h => h
  refine Stab_all (st_both (hX.row r5 fun h => h) (hX.row r4 fun h => h)) ?_
  exact hk _ (hBG.trans hX fun _ _ h => h)
end
end Go.Proofs.YtfpmgpblhhcpgaaGreat
