/-
  Machine: the middle parts of MachineRuns.
-/
import Derived.Test.YtfpmgpblhhcpgaaGreatPO
import Derived.Test.YtfpmgpblhhcpgaaGreatRows
namespace Go.Proofs.YtfpmgpblhhcpgaaGreat
set_option linter.unusedVariables false
set_option linter.unusedSimpArgs false
set_option maxRecDepth 100000
section
open Hc Hc.Vf Hc.Mc Hc.Dice
variable {H : Heap}
structure EnvQ (H : Heap) (e : EnV) (ins : List (Int × Int × Int)) (ps : List PtP) : Prop where
  inp : RN inV 3 H e.inS ins
  prt : RN ptV 2 H e.rp ps
  prR : ∀ q ∈ ps, RL (Value.int .i64) H q.sl q.vals ∧ q.vals.length ≤ 2 ^ 44
theorem EnvQ.ext {H' : Heap} {e : EnV} {ins : List (Int × Int × Int)} {ps : List PtP} (h : EnvQ H e ins ps) (hE : Ext H H') : EnvQ H' e ins ps :=
  ⟨h.inp.ext hE, h.prt.ext hE, fun q hq => ⟨(h.prR q hq).1.ext hE, (h.prR q hq).2⟩⟩
theorem EnvP.of_pt {e : EnV} {ins : List (Int × Int × Int)} {ps qs : List PtP} (h : EnvP e ins ps) (hq : qs.map PtP.pt = ps.map PtP.pt) : EnvP e ins qs := by
  have hl : qs.length = ps.length := by simpa using congrArg List.length hq
  refine ⟨h.ok, h.il, by rw [hl]; exact h.pl, fun q hq' => ?_⟩
  obtain ⟨y, hy, ey⟩ := mem_map_eq hq hq'
  have e2 : q.vals = y.vals := congrArg Pt.vals ey
  rw [e2]; exact h.pv y hy
theorem outB_lt {lo : Nat} {r : OutS} {o : Outc} {ps : List PtP} {cl : List CmP} (h : OutM lo H r o ps cl) {b : Nat} (hb : OutB r.1 r.2.1 r.2.2.1 ps cl b) : lo ≤ b ∧ b < H.size := by
  obtain ⟨s, hs, hb⟩ := hb
  refine ⟨h.out.new s hs b hb, ?_⟩
  simp only [List.mem_cons, List.mem_append] at hs
  rcases hs with rfl | rfl | rfl | (hs | hs) | hs
  · exact VecN.lt h.out.vv hb
  · exact VecN.lt h.out.cv hb
  · exact VecN.lt h.out.ev hb
  · obtain ⟨q, hq, rfl⟩ := List.mem_map.1 hs
    exact Vec.lt (h.out.vR q hq) hb
  · obtain ⟨q, hq, hs⟩ := List.mem_flatMap.1 hs
    rcases List.mem_cons.1 hs with rfl | hs
    · exact Vec.lt (h.out.cR q hq).1 hb
    · obtain ⟨p, hp, rfl⟩ := List.mem_map.1 hs
      exact Vec.lt ((h.out.cR q hq).2.2 p hp) hb
  · obtain ⟨q, hq, rfl⟩ := List.mem_map.1 hs
    exact VecN.lt (h.out.cR q hq).2.1 hb
theorem a1_ok {B : Heap} {c2 c4 c5 c9 bi bp bs bf : Nat} {e : EnV} {ins : List (Int × Int × Int)} {ps qs : List PtP} {ss : List Sy} {fs : List Rou} {n : Int} {rn : OutS} {o : Outc} {pn : List PtP} {cn : List CmP} {k : Bool → Heap → Prop} (hB : Ext B H) (h9 : B.size ≤ c9) (r2 : Row H c2 T_api_Env (envL e)) (r4 : Row H c4 T_api_Env (envL (cpE e bi bp ins.length qs.length))) (r5 : Row H c5 T_api_Program [slV (cpQ bs bf ss.length fs.length).1, slV (cpQ bs bf ss.length fs.length).2]) (r9 : Row H c9 T_api_Outcome (outV rn))
    (hcx : CpR B.size H bi bp ins qs) (hcq : CpP B.size H bs bf ss fs) (hS : PrgS ss fs) (hE : EnvP e ins ps) (hQ : EnvQ H e ins ps) (hqs : qs.map PtP.pt = ps.map PtP.pt) (dn : OutD H rn o pn cn) (ho : OutIs (2 ^ 63) ss fs n (enS e ins) (ps.map PtP.pt) o) (hk : ∀ H', Ext B H' → k true H') : v_L_MachineRuns_a1 c5 H c2 n c9 k c4 := by
  unfold v_L_MachineRuns_a1
  simp only [adr_add]
  refine ⟨cpQ bs bf ss.length fs.length, r5.rd_all, ⟨(e.fr, e.sd, e.en, e.inS, e.ix, e.gn, e.rp), r2.rd_all, ?_⟩⟩
  have hil := hE.il
  refine run3R (f := f_machine_Run) (e := e) (Res := fun H7 H8 r => ∃ o vs cl, OutIs (2 ^ 40) ss fs n (enS e ins) (firsts (ps.map PtP.pt)) o ∧ OutM H7.size H8 r o vs cl) hQ.inp (by omega) hQ.prt hQ.prR hE.pl r5 r2 ?_ ?_ ?_
  · rintro H7 H8 H9 r b ⟨o, vs, cl, g1, g2⟩ hU hb
    refine ⟨o, vs, cl, g1, g2.upd hU fun c hc hc2 e => ?_⟩
    subst e
    rcases hb with ⟨hb, _⟩ | hb <;> omega
  · intro H7 lo bi bp qs' hx hcp hq k hk
    exact mac_run (e := e) (hS.at (hcq.ext hx)) hcp hq hE fun H8 r o vs cl h1 h2 h3 => hk H8 r h1 ⟨o, vs, cl, h2, h3⟩
  · rintro H7 H14 b3 r hx h7 hr3 ⟨o', vs, cl, ho', hm⟩ hb3
    have e12 := one_out hS hE ho ho'
    subst e12
    exact a0_ok (hB.trans hx fun _ _ h => h) h9 (hx.row r4 fun h => h) (hx.row r5 fun h => h) (hx.row r9 fun h => h) hr3 (hcx.ext hx) (hcq.ext hx) hS (hE.of_pt hqs) (dn.ext hx) hm.d (small_out hS hE ho hm.vals hm.cmds).sm hk
theorem t2_ok {B : Heap} {c2 c4 c5 bi bp bs bf : Nat} {e : EnV} {ins : List (Int × Int × Int)} {ps qs : List PtP} {ss : List Sy} {fs : List Rou} {n : Int} {k : Bool → Heap → Prop} (hB : Ext B H) (r2 : Row H c2 T_api_Env (envL e)) (r4 : Row H c4 T_api_Env (envL (cpE e bi bp ins.length qs.length))) (r5 : Row H c5 T_api_Program [slV (cpQ bs bf ss.length fs.length).1, slV (cpQ bs bf ss.length fs.length).2])
    (hcx : CpR B.size H bi bp ins qs) (hcq : CpP B.size H bs bf ss fs) (hS : PrgS ss fs) (hE : EnvP e ins ps) (hQ : EnvQ B e ins ps) (hqs : qs.map PtP.pt = ps.map PtP.pt) (hk : ∀ H', Ext B H' → k true H') :
    LoopT (σ := Int) /- i -/ (fun next1 s1 H58 =>
          Ld .sl (adr c5) H58 fun (x1 : Sl) =>
          Br (decide (s1 < (x1.len : Int))) (
            Ld .sl (adr c5) H58 fun (x2 : Sl) =>
            IxA 8 x2 s1 fun a1 =>
            Ld .sl ((a1.add 4).add 3) H58 fun (x3 : Sl) =>
            CallT Pg f_L_turned [.slice x3.a x3.len x3.cap] (.tup []) H58 fun (r19 : Unit) H59 =>
            Lt (IntKind.wrap .i64 (s1 + 1)) fun t1 =>
            next1 t1 H59) (
            LoopT (σ := Int) /- i -/ (fun next2 s2 H60 =>
              Ld .sl ⟨c5, 0 + 1, none⟩ H60 fun (x4 : Sl) =>
              Br (decide (s2 < (x4.len : Int))) (
                Ld .sl ⟨c5, 0 + 1, none⟩ H60 fun (x5 : Sl) =>
                IxA 4 x5 s2 fun a2 =>
                Ld .sl (a2.add 3) H60 fun (x6 : Sl) =>
                CallT Pg f_L_turned [.slice x6.a x6.len x6.cap] (.tup []) H60 fun (r20 : Unit) H61 =>
                Lt (IntKind.wrap .i64 (s2 + 1)) fun t2 =>
                next2 t2 H61) (
                LdC [.sl, .sl] (adr c5) H60 fun (c26 : Sl × Sl) =>
                LdC [(.int .i64), (.int .i64), (.int .i64), .sl, (.int .i64), (.int .i64), .sl] (adr c2) H60 fun (c27 : Int × Int × Int × Sl × Int × Int × Sl) =>
                CallT Pg f_L_program [prgA c26] (.one (.agg [.sl, .sl])) H60 fun (r21 : Sl × Sl) H62 =>
                Stab [(⟨c2, 0 + 0, none⟩, .int .i64 c27.1), (⟨c2, 0 + 1, none⟩, .int .i64 c27.2.1), (⟨c2, 0 + 2, none⟩, .int .i64 c27.2.2.1), (⟨c2, 0 + 3, none⟩, .slice c27.2.2.2.1.a c27.2.2.2.1.len c27.2.2.2.1.cap), (⟨c2, 0 + 4, none⟩, .int .i64 c27.2.2.2.2.1), (⟨c2, 0 + 5, none⟩, .int .i64 c27.2.2.2.2.2.1), (⟨c2, 0 + 6, none⟩, .slice c27.2.2.2.2.2.2.a c27.2.2.2.2.2.2.len c27.2.2.2.2.2.2.cap)] H62 <|
                CallT Pg f_L_copied [envT c27] EnvR H62 fun (r22 : Int × Int × Int × Sl × Int × Int × Sl) H63 =>
                Stab [(⟨c5, 0 + 0, none⟩, .slice c26.1.a c26.1.len c26.1.cap), (⟨c5, 0 + 1, none⟩, .slice c26.2.a c26.2.len c26.2.cap)] H63 <|
                CallT Pg f_R_Long [prgA r21, .int .i64 n, envT r22, .int .i64 300000] (.one (.c .bool)) H63 fun (r23 : Bool) H64 =>
                Stab [(⟨c2, 0 + 0, none⟩, .int .i64 c27.1), (⟨c2, 0 + 1, none⟩, .int .i64 c27.2.1), (⟨c2, 0 + 2, none⟩, .int .i64 c27.2.2.1), (⟨c2, 0 + 3, none⟩, .slice c27.2.2.2.1.a c27.2.2.2.1.len c27.2.2.2.1.cap), (⟨c2, 0 + 4, none⟩, .int .i64 c27.2.2.2.2.1), (⟨c2, 0 + 5, none⟩, .int .i64 c27.2.2.2.2.2.1), (⟨c2, 0 + 6, none⟩, .slice c27.2.2.2.2.2.2.a c27.2.2.2.2.2.2.len c27.2.2.2.2.2.2.cap), (⟨c5, 0 + 0, none⟩, .slice c26.1.a c26.1.len c26.1.cap), (⟨c5, 0 + 1, none⟩, .slice c26.2.a c26.2.len c26.2.cap)] H64 <|
                Br r23 (
                  k true H64) (
                  LdC [.sl, .sl] (adr c5) H64 fun (c28 : Sl × Sl) =>
                  LdC [(.int .i64), (.int .i64), (.int .i64), .sl, (.int .i64), (.int .i64), .sl] (adr c2) H64 fun (c29 : Int × Int × Int × Sl × Int × Int × Sl) =>
                  (
                    CallT Pg f_L_program [.agg #[.slice c28.1.a c28.1.len c28.1.cap, .slice c28.2.a c28.2.len c28.2.cap]] (.one (.agg [.sl, .sl])) H64 fun (r24 : Sl × Sl) H65 =>
                    Stab [(⟨c2, 0 + 0, none⟩, .int .i64 c29.1), (⟨c2, 0 + 1, none⟩, .int .i64 c29.2.1), (⟨c2, 0 + 2, none⟩, .int .i64 c29.2.2.1), (⟨c2, 0 + 3, none⟩, .slice c29.2.2.2.1.a c29.2.2.2.1.len c29.2.2.2.1.cap), (⟨c2, 0 + 4, none⟩, .int .i64 c29.2.2.2.2.1), (⟨c2, 0 + 5, none⟩, .int .i64 c29.2.2.2.2.2.1), (⟨c2, 0 + 6, none⟩, .slice c29.2.2.2.2.2.2.a c29.2.2.2.2.2.2.len c29.2.2.2.2.2.2.cap)] H65 <|
                    (
                      CallT Pg f_L_copied [.agg #[.int .i64 c29.1, .int .i64 c29.2.1, .int .i64 c29.2.2.1, .slice c29.2.2.2.1.a c29.2.2.2.1.len c29.2.2.2.1.cap, .int .i64 c29.2.2.2.2.1, .int .i64 c29.2.2.2.2.2.1, .slice c29.2.2.2.2.2.2.a c29.2.2.2.2.2.2.len c29.2.2.2.2.2.2.cap]] (.one (.agg [(.int .i64), (.int .i64), (.int .i64), .sl, (.int .i64), (.int .i64), .sl])) H65 fun (r25 : Int × Int × Int × Sl × Int × Int × Sl) H66 =>
                      Stab [(⟨c5, 0 + 0, none⟩, .slice c28.1.a c28.1.len c28.1.cap), (⟨c5, 0 + 1, none⟩, .slice c28.2.a c28.2.len c28.2.cap)] H66 <|
                      (
                        CallT Pg f_R_Run [.agg #[.slice r24.1.a r24.1.len r24.1.cap, .slice r24.2.a r24.2.len r24.2.cap], .int .i64 n, .agg #[.int .i64 r25.1, .int .i64 r25.2.1, .int .i64 r25.2.2.1, .slice r25.2.2.2.1.a r25.2.2.2.1.len r25.2.2.2.1.cap, .int .i64 r25.2.2.2.2.1, .int .i64 r25.2.2.2.2.2.1, .slice r25.2.2.2.2.2.2.a r25.2.2.2.2.2.2.len r25.2.2.2.2.2.2.cap]] (.one (.agg [.sl, .sl, .sl, (.int .i64), (.int .i64)])) H66 fun (r26 : Sl × Sl × Sl × Int × Int) H67 =>
                        Stab [(⟨c2, 0 + 0, none⟩, .int .i64 c29.1), (⟨c2, 0 + 1, none⟩, .int .i64 c29.2.1), (⟨c2, 0 + 2, none⟩, .int .i64 c29.2.2.1), (⟨c2, 0 + 3, none⟩, .slice c29.2.2.2.1.a c29.2.2.2.1.len c29.2.2.2.1.cap), (⟨c2, 0 + 4, none⟩, .int .i64 c29.2.2.2.2.1), (⟨c2, 0 + 5, none⟩, .int .i64 c29.2.2.2.2.2.1), (⟨c2, 0 + 6, none⟩, .slice c29.2.2.2.2.2.2.a c29.2.2.2.2.2.2.len c29.2.2.2.2.2.2.cap), (⟨c5, 0 + 0, none⟩, .slice c28.1.a c28.1.len c28.1.cap), (⟨c5, 0 + 1, none⟩, .slice c28.2.a c28.2.len c28.2.cap)] H67 <|
                        Nw #[.slice none 0 0, .slice none 0 0, .slice none 0 0, .int .i64 0, .int .i64 0] T_api_Outcome H67 fun b9 H68 =>
                        Stab [(⟨c2, 0 + 0, none⟩, .int .i64 c29.1), (⟨c2, 0 + 1, none⟩, .int .i64 c29.2.1), (⟨c2, 0 + 2, none⟩, .int .i64 c29.2.2.1), (⟨c2, 0 + 3, none⟩, .slice c29.2.2.2.1.a c29.2.2.2.1.len c29.2.2.2.1.cap), (⟨c2, 0 + 4, none⟩, .int .i64 c29.2.2.2.2.1), (⟨c2, 0 + 5, none⟩, .int .i64 c29.2.2.2.2.2.1), (⟨c2, 0 + 6, none⟩, .slice c29.2.2.2.2.2.2.a c29.2.2.2.2.2.2.len c29.2.2.2.2.2.2.cap), (⟨c5, 0 + 0, none⟩, .slice c28.1.a c28.1.len c28.1.cap), (⟨c5, 0 + 1, none⟩, .slice c28.2.a c28.2.len c28.2.cap)] H68 <|
                        St ⟨b9, 0 + 0, none⟩ (.slice r26.1.a r26.1.len r26.1.cap) H68 fun H69 =>
                        St ⟨b9, 0 + 1, none⟩ (.slice r26.2.1.a r26.2.1.len r26.2.1.cap) H69 fun H70 =>
                        St ⟨b9, 0 + 2, none⟩ (.slice r26.2.2.1.a r26.2.2.1.len r26.2.2.1.cap) H70 fun H71 =>
                        St ⟨b9, 0 + 3, none⟩ (.int .i64 r26.2.2.2.1) H71 fun H72 =>
                        St ⟨b9, 0 + 4, none⟩ (.int .i64 r26.2.2.2.2) H72 fun H73 =>
                        v_L_MachineRuns_a1 c5 H73 c2 n b9 k c4) ∧ (
                        Nw #[.slice none 0 0, .slice none 0 0, .slice none 0 0, .int .i64 0, .int .i64 0] T_api_Outcome H66 fun b13 H154 =>
                        Stab [(⟨c2, 0 + 0, none⟩, .int .i64 c29.1), (⟨c2, 0 + 1, none⟩, .int .i64 c29.2.1), (⟨c2, 0 + 2, none⟩, .int .i64 c29.2.2.1), (⟨c2, 0 + 3, none⟩, .slice c29.2.2.2.1.a c29.2.2.2.1.len c29.2.2.2.1.cap), (⟨c2, 0 + 4, none⟩, .int .i64 c29.2.2.2.2.1), (⟨c2, 0 + 5, none⟩, .int .i64 c29.2.2.2.2.2.1), (⟨c2, 0 + 6, none⟩, .slice c29.2.2.2.2.2.2.a c29.2.2.2.2.2.2.len c29.2.2.2.2.2.2.cap), (⟨c5, 0 + 0, none⟩, .slice c28.1.a c28.1.len c28.1.cap), (⟨c5, 0 + 1, none⟩, .slice c28.2.a c28.2.len c28.2.cap)] H154 <|
                        CallT Pg f_R_Run [.agg #[.slice r24.1.a r24.1.len r24.1.cap, .slice r24.2.a r24.2.len r24.2.cap], .int .i64 n, .agg #[.int .i64 r25.1, .int .i64 r25.2.1, .int .i64 r25.2.2.1, .slice r25.2.2.2.1.a r25.2.2.2.1.len r25.2.2.2.1.cap, .int .i64 r25.2.2.2.2.1, .int .i64 r25.2.2.2.2.2.1, .slice r25.2.2.2.2.2.2.a r25.2.2.2.2.2.2.len r25.2.2.2.2.2.2.cap]] (.one (.agg [.sl, .sl, .sl, (.int .i64), (.int .i64)])) H154 fun (r59 : Sl × Sl × Sl × Int × Int) H155 =>
                        Stab [(⟨c2, 0 + 0, none⟩, .int .i64 c29.1), (⟨c2, 0 + 1, none⟩, .int .i64 c29.2.1), (⟨c2, 0 + 2, none⟩, .int .i64 c29.2.2.1), (⟨c2, 0 + 3, none⟩, .slice c29.2.2.2.1.a c29.2.2.2.1.len c29.2.2.2.1.cap), (⟨c2, 0 + 4, none⟩, .int .i64 c29.2.2.2.2.1), (⟨c2, 0 + 5, none⟩, .int .i64 c29.2.2.2.2.2.1), (⟨c2, 0 + 6, none⟩, .slice c29.2.2.2.2.2.2.a c29.2.2.2.2.2.2.len c29.2.2.2.2.2.2.cap), (⟨c5, 0 + 0, none⟩, .slice c28.1.a c28.1.len c28.1.cap), (⟨c5, 0 + 1, none⟩, .slice c28.2.a c28.2.len c28.2.cap)] H155 <|
                        St ⟨b13, 0 + 0, none⟩ (.slice r59.1.a r59.1.len r59.1.cap) H155 fun H156 =>
                        St ⟨b13, 0 + 1, none⟩ (.slice r59.2.1.a r59.2.1.len r59.2.1.cap) H156 fun H157 =>
                        St ⟨b13, 0 + 2, none⟩ (.slice r59.2.2.1.a r59.2.2.1.len r59.2.2.1.cap) H157 fun H158 =>
                        St ⟨b13, 0 + 3, none⟩ (.int .i64 r59.2.2.2.1) H158 fun H159 =>
                        St ⟨b13, 0 + 4, none⟩ (.int .i64 r59.2.2.2.2) H159 fun H160 =>
                        v_L_MachineRuns_a1 c5 H160 c2 n b13 k c4) ∧ True) ∧ (
                      Nw #[.slice none 0 0, .slice none 0 0, .slice none 0 0, .int .i64 0, .int .i64 0] T_api_Outcome H65 fun b17 H241 =>
                      Stab [(⟨c2, 0 + 0, none⟩, .int .i64 c29.1), (⟨c2, 0 + 1, none⟩, .int .i64 c29.2.1), (⟨c2, 0 + 2, none⟩, .int .i64 c29.2.2.1), (⟨c2, 0 + 3, none⟩, .slice c29.2.2.2.1.a c29.2.2.2.1.len c29.2.2.2.1.cap), (⟨c2, 0 + 4, none⟩, .int .i64 c29.2.2.2.2.1), (⟨c2, 0 + 5, none⟩, .int .i64 c29.2.2.2.2.2.1), (⟨c2, 0 + 6, none⟩, .slice c29.2.2.2.2.2.2.a c29.2.2.2.2.2.2.len c29.2.2.2.2.2.2.cap), (⟨c5, 0 + 0, none⟩, .slice c28.1.a c28.1.len c28.1.cap), (⟨c5, 0 + 1, none⟩, .slice c28.2.a c28.2.len c28.2.cap)] H241 <|
                      CallT Pg f_L_copied [.agg #[.int .i64 c29.1, .int .i64 c29.2.1, .int .i64 c29.2.2.1, .slice c29.2.2.2.1.a c29.2.2.2.1.len c29.2.2.2.1.cap, .int .i64 c29.2.2.2.2.1, .int .i64 c29.2.2.2.2.2.1, .slice c29.2.2.2.2.2.2.a c29.2.2.2.2.2.2.len c29.2.2.2.2.2.2.cap]] (.one (.agg [(.int .i64), (.int .i64), (.int .i64), .sl, (.int .i64), (.int .i64), .sl])) H241 fun (r92 : Int × Int × Int × Sl × Int × Int × Sl) H242 =>
                      Stab [(⟨c5, 0 + 0, none⟩, .slice c28.1.a c28.1.len c28.1.cap), (⟨c5, 0 + 1, none⟩, .slice c28.2.a c28.2.len c28.2.cap)] H242 <|
                      CallT Pg f_R_Run [.agg #[.slice r24.1.a r24.1.len r24.1.cap, .slice r24.2.a r24.2.len r24.2.cap], .int .i64 n, .agg #[.int .i64 r92.1, .int .i64 r92.2.1, .int .i64 r92.2.2.1, .slice r92.2.2.2.1.a r92.2.2.2.1.len r92.2.2.2.1.cap, .int .i64 r92.2.2.2.2.1, .int .i64 r92.2.2.2.2.2.1, .slice r92.2.2.2.2.2.2.a r92.2.2.2.2.2.2.len r92.2.2.2.2.2.2.cap]] (.one (.agg [.sl, .sl, .sl, (.int .i64), (.int .i64)])) H242 fun (r93 : Sl × Sl × Sl × Int × Int) H243 =>
                      Stab [(⟨c2, 0 + 0, none⟩, .int .i64 c29.1), (⟨c2, 0 + 1, none⟩, .int .i64 c29.2.1), (⟨c2, 0 + 2, none⟩, .int .i64 c29.2.2.1), (⟨c2, 0 + 3, none⟩, .slice c29.2.2.2.1.a c29.2.2.2.1.len c29.2.2.2.1.cap), (⟨c2, 0 + 4, none⟩, .int .i64 c29.2.2.2.2.1), (⟨c2, 0 + 5, none⟩, .int .i64 c29.2.2.2.2.2.1), (⟨c2, 0 + 6, none⟩, .slice c29.2.2.2.2.2.2.a c29.2.2.2.2.2.2.len c29.2.2.2.2.2.2.cap), (⟨c5, 0 + 0, none⟩, .slice c28.1.a c28.1.len c28.1.cap), (⟨c5, 0 + 1, none⟩, .slice c28.2.a c28.2.len c28.2.cap)] H243 <|
                      St ⟨b17, 0 + 0, none⟩ (.slice r93.1.a r93.1.len r93.1.cap) H243 fun H244 =>
                      St ⟨b17, 0 + 1, none⟩ (.slice r93.2.1.a r93.2.1.len r93.2.1.cap) H244 fun H245 =>
                      St ⟨b17, 0 + 2, none⟩ (.slice r93.2.2.1.a r93.2.2.1.len r93.2.2.1.cap) H245 fun H246 =>
                      St ⟨b17, 0 + 3, none⟩ (.int .i64 r93.2.2.2.1) H246 fun H247 =>
                      St ⟨b17, 0 + 4, none⟩ (.int .i64 r93.2.2.2.2) H247 fun H248 =>
                      v_L_MachineRuns_a1 c5 H248 c2 n b17 k c4) ∧ True) ∧ (
                    Nw #[.slice none 0 0, .slice none 0 0, .slice none 0 0, .int .i64 0, .int .i64 0] T_api_Outcome H64 fun b21 H329 =>
                    Stab [(⟨c2, 0 + 0, none⟩, .int .i64 c29.1), (⟨c2, 0 + 1, none⟩, .int .i64 c29.2.1), (⟨c2, 0 + 2, none⟩, .int .i64 c29.2.2.1), (⟨c2, 0 + 3, none⟩, .slice c29.2.2.2.1.a c29.2.2.2.1.len c29.2.2.2.1.cap), (⟨c2, 0 + 4, none⟩, .int .i64 c29.2.2.2.2.1), (⟨c2, 0 + 5, none⟩, .int .i64 c29.2.2.2.2.2.1), (⟨c2, 0 + 6, none⟩, .slice c29.2.2.2.2.2.2.a c29.2.2.2.2.2.2.len c29.2.2.2.2.2.2.cap), (⟨c5, 0 + 0, none⟩, .slice c28.1.a c28.1.len c28.1.cap), (⟨c5, 0 + 1, none⟩, .slice c28.2.a c28.2.len c28.2.cap)] H329 <|
                    CallT Pg f_L_program [.agg #[.slice c28.1.a c28.1.len c28.1.cap, .slice c28.2.a c28.2.len c28.2.cap]] (.one (.agg [.sl, .sl])) H329 fun (r126 : Sl × Sl) H330 =>
                    Stab [(⟨c2, 0 + 0, none⟩, .int .i64 c29.1), (⟨c2, 0 + 1, none⟩, .int .i64 c29.2.1), (⟨c2, 0 + 2, none⟩, .int .i64 c29.2.2.1), (⟨c2, 0 + 3, none⟩, .slice c29.2.2.2.1.a c29.2.2.2.1.len c29.2.2.2.1.cap), (⟨c2, 0 + 4, none⟩, .int .i64 c29.2.2.2.2.1), (⟨c2, 0 + 5, none⟩, .int .i64 c29.2.2.2.2.2.1), (⟨c2, 0 + 6, none⟩, .slice c29.2.2.2.2.2.2.a c29.2.2.2.2.2.2.len c29.2.2.2.2.2.2.cap)] H330 <|
                    CallT Pg f_L_copied [.agg #[.int .i64 c29.1, .int .i64 c29.2.1, .int .i64 c29.2.2.1, .slice c29.2.2.2.1.a c29.2.2.2.1.len c29.2.2.2.1.cap, .int .i64 c29.2.2.2.2.1, .int .i64 c29.2.2.2.2.2.1, .slice c29.2.2.2.2.2.2.a c29.2.2.2.2.2.2.len c29.2.2.2.2.2.2.cap]] (.one (.agg [(.int .i64), (.int .i64), (.int .i64), .sl, (.int .i64), (.int .i64), .sl])) H330 fun (r127 : Int × Int × Int × Sl × Int × Int × Sl) H331 =>
                    Stab [(⟨c5, 0 + 0, none⟩, .slice c28.1.a c28.1.len c28.1.cap), (⟨c5, 0 + 1, none⟩, .slice c28.2.a c28.2.len c28.2.cap)] H331 <|
                    CallT Pg f_R_Run [.agg #[.slice r126.1.a r126.1.len r126.1.cap, .slice r126.2.a r126.2.len r126.2.cap], .int .i64 n, .agg #[.int .i64 r127.1, .int .i64 r127.2.1, .int .i64 r127.2.2.1, .slice r127.2.2.2.1.a r127.2.2.2.1.len r127.2.2.2.1.cap, .int .i64 r127.2.2.2.2.1, .int .i64 r127.2.2.2.2.2.1, .slice r127.2.2.2.2.2.2.a r127.2.2.2.2.2.2.len r127.2.2.2.2.2.2.cap]] (.one (.agg [.sl, .sl, .sl, (.int .i64), (.int .i64)])) H331 fun (r128 : Sl × Sl × Sl × Int × Int) H332 =>
                    Stab [(⟨c2, 0 + 0, none⟩, .int .i64 c29.1), (⟨c2, 0 + 1, none⟩, .int .i64 c29.2.1), (⟨c2, 0 + 2, none⟩, .int .i64 c29.2.2.1), (⟨c2, 0 + 3, none⟩, .slice c29.2.2.2.1.a c29.2.2.2.1.len c29.2.2.2.1.cap), (⟨c2, 0 + 4, none⟩, .int .i64 c29.2.2.2.2.1), (⟨c2, 0 + 5, none⟩, .int .i64 c29.2.2.2.2.2.1), (⟨c2, 0 + 6, none⟩, .slice c29.2.2.2.2.2.2.a c29.2.2.2.2.2.2.len c29.2.2.2.2.2.2.cap), (⟨c5, 0 + 0, none⟩, .slice c28.1.a c28.1.len c28.1.cap), (⟨c5, 0 + 1, none⟩, .slice c28.2.a c28.2.len c28.2.cap)] H332 <|
                    St ⟨b21, 0 + 0, none⟩ (.slice r128.1.a r128.1.len r128.1.cap) H332 fun H333 =>
                    St ⟨b21, 0 + 1, none⟩ (.slice r128.2.1.a r128.2.1.len r128.2.1.cap) H333 fun H334 =>
                    St ⟨b21, 0 + 2, none⟩ (.slice r128.2.2.1.a r128.2.2.1.len r128.2.2.1.cap) H334 fun H335 =>
                    St ⟨b21, 0 + 3, none⟩ (.int .i64 r128.2.2.2.1) H335 fun H336 =>
                    St ⟨b21, 0 + 4, none⟩ (.int .i64 r128.2.2.2.2) H336 fun H337 =>
                    v_L_MachineRuns_a1 c5 H337 c2 n b21 k c4) ∧ True))) 0 H58)) 0 H := by
  have hil := hE.il
  have hl1 : (0 : Nat) + 0 = 0 := rfl
  refine LoopT.mk (fun s H' => Tou (fun b => B.size ≤ b) (· = T_api_Instr) H H' ∧ ∃ i : Nat, s = i ∧ i ≤ ss.length ∧ CpP B.size H' bs bf ((ss.take i).map turnS ++ ss.drop i) fs) (fun s _ => ss.length - s.toNat) ⟨.refl _ _ _, 0, rfl, Nat.zero_le _, by simpa using hcq⟩ ?_
  rintro next _ H1 ⟨t1, i, rfl, hi, hc1⟩ hnext
  obtain ⟨HP, qP, hP⟩ := hS.prg
  have hsz := hP.sl
  have hfz := hP.fl
  refine Ld_sl (s := ⟨some (adr bs), ss.length, ss.length + 80⟩) (((t1.keep r5 (by decide)).cell 0).trans rfl) (Br_dec (fun hlt => ?_) fun hge => ?_)
  · have hi2 : i < ss.length := by first | omega | (dsimp only at hlt; omega)
    have hil2 : i < ((ss.take i).map turnS ++ ss.drop i).length := by rw [len_next]; exact hi2
    have eg := get_next (f := turnS) hi2 hil2
    have hW : RN sysV 8 H1 ⟨some (adr bs), ss.length, ss.length + 80⟩ ((ss.take i).map turnS ++ ss.drop i) := by
      have := hc1.sys
      rw [List.flatMap_append] at this
      exact ⟨this.rd, by rw [len_next], Nat.le_add_right _ _⟩
    refine Ld_sl (s := ⟨some (adr bs), ss.length, ss.length + 80⟩) (((t1.keep r5 (by decide)).cell 0).trans rfl) (IxA_rn' sysV_len hW (by decide) rfl hil2 fun a g => ?_)
    rw [getElem!_pos _ i hil2, eg] at g
    have hcc := (hc1.sysR _ (List.getElem_mem hil2)).code
    rw [eg] at hcc
    rw [addAdd]
    refine Ld_sl (s := ss[i].rou.sl) g.2.2.2.2.2.2.2.1 (s_turned hcc (hP.sysR _ (List.getElem_mem hi2)).rou.len fun H2 t2 hc2 => ?_)
    have hn := hc1.turnsS hil2 (H' := H2) (by rw [eg]; exact t2) (by rw [eg]; exact hc2)
    rw [eg, set_next hi2] at hn
    obtain ⟨cb, gb1, _, gb3⟩ := hcc
    exact Lt.mk (u := ((i + 1 : Nat) : Int)) (by rw [wrap_i64_id] <;> omega) (hnext _ _ ⟨t1.trans t2 (fun b _ e => by rw [gb1] at e; cases e; exact gb3) fun _ e => e, i + 1, rfl, hi2, hn⟩ (by omega))
  have hi : i = ss.length := by first | omega | (dsimp only at hge; omega)
  subst hi
  rw [List.take_of_length_le (Nat.le_refl _), List.drop_of_length_le (Nat.le_refl _), List.append_nil] at hc1
  clear hnext
  have ls : (ss.map turnS).length = ss.length := List.length_map _
  refine LoopT.mk (fun s H' => Tou (fun b => B.size ≤ b) (· = T_api_Instr) H H' ∧ ∃ i : Nat, s = i ∧ i ≤ fs.length ∧ CpP B.size H' bs bf (ss.map turnS) ((fs.take i).map turnR ++ fs.drop i)) (fun s _ => fs.length - s.toNat) ⟨t1, 0, rfl, Nat.zero_le _, by simpa using hc1⟩ ?_
  rintro next _ H1 ⟨t1, i, rfl, hi, hc1⟩ hnext
  refine Ld_sl (s := ⟨some (adr bf), fs.length, fs.length + 80⟩) (((t1.keep r5 (by decide)).cell 1).trans rfl) (Br_dec (fun hlt => ?_) fun hge => ?_)
  · have hi2 : i < fs.length := by first | omega | (dsimp only at hlt; omega)
    have hil2 : i < ((fs.take i).map turnR ++ fs.drop i).length := by rw [len_next]; exact hi2
    have eg := get_next (f := turnR) hi2 hil2
    have hW : RN rouV 4 H1 ⟨some (adr bf), fs.length, fs.length + 80⟩ ((fs.take i).map turnR ++ fs.drop i) := by
      have := hc1.fun'
      rw [List.flatMap_append] at this
      exact ⟨this.rd, by rw [len_next], Nat.le_add_right _ _⟩
    refine Ld_sl (s := ⟨some (adr bf), fs.length, fs.length + 80⟩) (((t1.keep r5 (by decide)).cell 1).trans rfl) (IxA_rn' rouV_len hW (by decide) rfl hil2 fun a g => ?_)
    rw [getElem!_pos _ i hil2, eg] at g
    have hcc := hc1.funR _ (List.getElem_mem hil2)
    rw [eg] at hcc
    refine Ld_sl (s := fs[i].sl) g.2.2.2.1 (s_turned hcc (hP.funR _ (List.getElem_mem hi2)).len fun H2 t2 hc2 => ?_)
    have hn := hc1.turnsF hil2 (H' := H2) (by rw [eg]; exact t2) (by rw [eg]; exact hc2)
    rw [eg, set_next hi2] at hn
    obtain ⟨cb, gb1, _, gb3⟩ := hcc
    exact Lt.mk (u := ((i + 1 : Nat) : Int)) (by rw [wrap_i64_id] <;> omega) (hnext _ _ ⟨t1.trans t2 (fun b _ e => by rw [gb1] at e; cases e; exact gb3) fun _ e => e, i + 1, rfl, hi2, hn⟩ (by omega))
  have hi : i = fs.length := by first | omega | (dsimp only at hge; omega)
  subst hi
  rw [List.take_of_length_le (Nat.le_refl _), List.drop_of_length_le (Nat.le_refl _), List.append_nil] at hc1
  clear hnext
  have lf : (fs.map turnR).length = fs.length := List.length_map _
  have hS' : PrgS (ss.map turnS) (fs.map turnR) := ⟨⟨H1, _, turn_prgI hP hc1 rfl rfl⟩, fun x hx => by
    obtain ⟨y, hy, rfl⟩ := List.mem_map.1 hx
    show (turnC y.rou.code).length ≤ _
    rw [List.length_map]; exact hS.sl y hy, fun r hr => by
    obtain ⟨y, hy, rfl⟩ := List.mem_map.1 hr
    show (turnC y.code).length ≤ _
    rw [List.length_map]; exact hS.fl y hy⟩
  have r2 := t1.keep r2 (by decide)
  have r4 := t1.keep r4 (by decide)
  have r5 := t1.keep r5 (by decide)
  rw [← ls, ← lf] at r5
  have hcx : CpR B.size H1 bi bp ins qs := ⟨t1.keep hcx.inp (by decide), t1.keep hcx.prt (by decide), fun q hq => by
    obtain ⟨b, g1, g2, g3⟩ := hcx.vls q hq
    exact ⟨b, g1, t1.keep g2 (by decide), g3⟩, hcx.ap, hcx.bi, hcx.bp⟩
  have hB1 : Ext B H1 := hB.trans t1.upd fun b hb e => by omega
  clear hP hsz hfz hcq hS ls lf t1
  generalize ss.map turnS = ss at *
  generalize fs.map turnR = fs at *
  have hQ1 := hQ.ext hB1
  refine ⟨cpQ bs bf ss.length fs.length, r5.rd_all, ⟨(e.fr, e.sd, e.en, e.inS, e.ix, e.gn, e.rp), r2.rd_all, ?_⟩⟩
  refine s_program (hS'.at hc1) fun H4 bs4 bf4 ss4 fs4 hE4 hcq4 hs4 hf4 => ?_
  refine Stab_all (st_env (hE4.row r2 fun h => h)) ?_
  have hQ4 := hQ1.ext hE4
  refine s_copied (e := e) hQ4.inp hQ4.prt hQ4.prR (by omega) hE.pl fun H5 bi5 bp5 qs5 hE5 hcx5 hq5 => ?_
  have hE35 := hE4.trans hE5 fun _ _ h => h
  refine Stab_all (st_prog (hE35.row r5 fun h => h)) ?_
  refine ref_long (e := e) (hS'.cp (hcq4.ext hE5) hs4 hf4) hcx5 hq5 hE fun rl H6 hE6 => ?_
  have hE36 := hE35.trans hE6 fun _ _ h => h
  have r2 := hE36.row r2 fun h => h
  have r4 := hE36.row r4 fun h => h
  have r5 := hE36.row r5 fun h => h
  have hB6 := hB1.trans hE36 fun _ _ h => h
  refine Stab_all (st_both r5 r2) (Br.mk (fun _ => hk _ hB6) fun _ => ?_)
  refine ⟨cpQ bs bf ss.length fs.length, r5.rd_all, ⟨(e.fr, e.sd, e.en, e.inS, e.ix, e.gn, e.rp), r2.rd_all, ?_⟩⟩
  have hQ6 := hQ1.ext hE36
  have hc6 := hc1.ext hE36
  refine run4R (f := f_R_Run) (q := cpQ bs bf ss.length fs.length) (e := e) (Res := fun H7 H8 r => ∃ o vs cl, OutIs (2 ^ 63) ss fs n (enS e ins) (ps.map PtP.pt) o ∧ OutD H8 r o vs cl) (hS'.at hc6) hQ6.inp (by omega) hQ6.prt hQ6.prR hE.pl r5 r2 ?_ ?_ ?_
  · rintro H7 H8 H9 r b ⟨o, vs, cl, g1, g2⟩ hU hb
    exact ⟨o, vs, cl, g1, g2.off hU (hb.imp (fun h => h.2) id)⟩
  · intro H7 lo lo2 bi bp bs2 bf2 qs' ss2 fs2 hx hcp hs hf hcr hq k hk
    exact ref_run (e := e) (hS'.cp hcp hs hf) hcr hq hE fun H8 r o vs cl h1 h2 h3 => hk H8 r h1 ⟨o, vs, cl, h2.cp hs hf, h3⟩
  · rintro H7 H14 b3 r hx h7 hr3 ⟨o', vs, cl, ho', hm⟩ hb3
    exact a1_ok (hB6.trans hx fun _ _ h => h) (by have := hB6.size; omega) (hx.row r2 fun h => h) (hx.row r4 fun h => h) (hx.row r5 fun h => h) hr3 ((hcx.ext hE36).ext hx) (hc6.ext hx) hS' hE (hQ6.ext hx) hqs hm ho' hk
end
section
open Hc Hc.Vf Hc.Mc Hc.Dice
variable {H : Heap}
theorem extOut {B : Heap} {H' : Heap} {lo : Nat} {vs cs es : Sl} {ps : List PtP} {cl : List CmP} (hB : Ext B H) (hU : Upd (OutB vs cs es ps cl) H H') (hlo : ∀ b, OutB vs cs es ps cl b → lo ≤ b) (hl : B.size ≤ lo) : Ext B H' := hB.trans hU fun b hb e => by have := hlo b e; omega
theorem box_out {r : OutS} {K : Nat → Heap → Prop} (hK : ∀ b H', b = H.size → Ext H H' → Row H' b T_api_Outcome (outV r) → K b H') :
    Nw ⟨nilO⟩ T_api_Outcome H fun b6 H29 =>
      St ⟨b6, 0 + 0, none⟩ (.slice r.1.a r.1.len r.1.cap) H29 fun H30 =>
      St ⟨b6, 0 + 1, none⟩ (.slice r.2.1.a r.2.1.len r.2.1.cap) H30 fun H31 =>
      St ⟨b6, 0 + 2, none⟩ (.slice r.2.2.1.a r.2.2.1.len r.2.2.1.cap) H31 fun H32 =>
      St ⟨b6, 0 + 3, none⟩ (.int .i64 r.2.2.2.1) H32 fun H33 =>
      St ⟨b6, 0 + 4, none⟩ (.int .i64 r.2.2.2.2) H33 fun H34 => K b6 H34 := by
  refine Nw_row (vs := nilO) fun b H1 hb hE _ hr => ?_
  refine St_row hr (by simp) fun G1 hU1 _ hg1 => St_row hg1 (by simp) fun G2 hU2 _ hg2 => St_row hg2 (by simp) fun G3 hU3 _ hg3 => St_row hg3 (by simp) fun G4 hU4 _ hg4 => St_row hg4 (by simp) fun G5 hU5 _ hg5 => ?_
  exact hK b G5 hb (extUpd hE (by omega) ((((hU1.trans hU2 fun _ _ e => e).trans hU3 fun _ _ e => e).trans hU4 fun _ _ e => e).trans hU5 fun _ _ e => e)) hg5
theorem a2_ok {B : Heap} {c1 c2 c3 : Nat} {p : Sl × Sl} {e : EnV} {ins : List (Int × Int × Int)} {ps : List PtP} {ss : List Sy} {fs : List Rou} {n : Int} {rw : OutS} {o : Outc} {pw : List PtP} {cw : List CmP} {k : Bool → Heap → Prop} (hB : Ext B H) (r1 : Row H c1 T_api_Program [slV p.1, slV p.2]) (r2 : Row H c2 T_api_Env (envL e)) (r3 : Row H c3 T_api_Outcome (outV rw))
    (hP : PrgI H p ss fs) (hS : PrgS ss fs) (hE : EnvP e ins ps) (hQ : EnvQ H e ins ps) (dw : OutD H rw o pw cw) (ho : OutIs (2 ^ 63) ss fs n (enS e ins) (ps.map PtP.pt) o) (hk : ∀ H', Ext B H' → k true H') : v_L_MachineRuns_a2 c2 H c1 n k c3 := by
  unfold v_L_MachineRuns_a2
  simp only [adr_add]
  have hil := hE.il
  refine ⟨(e.fr, e.sd, e.en, e.inS, e.ix, e.gn, e.rp), r2.rd_all, ?_⟩
  refine s_copied (e := e) hQ.inp hQ.prt hQ.prR (by omega) hE.pl fun H1 bi bp qs hE1 hcx hqs => ?_
  have hql : qs.length = ps.length := by simpa using congrArg List.length hqs
  refine Nw_row (vs := [.int .i64 0, .int .i64 0, .int .i64 0, .slice none 0 0, .int .i64 0, .int .i64 0, .slice none 0 0]) fun c4 H2 hb4 hE2 _ hr4 => ?_
  refine St_row hr4 (by simp) fun G1 hV1 _ hg1 => St_row hg1 (by simp) fun G2 hV2 _ hg2 => St_row hg2 (by simp) fun G3 hV3 _ hg3 => St_row hg3 (by simp) fun G4 hV4 _ hg4 => ?_
  refine St_row hg4 (by simp) fun G5 hV5 _ hg5 => St_row hg5 (by simp) fun G6 hV6 _ hg6 => St_row hg6 (by simp) fun H3 hV7 _ hr4 => ?_
  have hr4 : Row H3 c4 T_api_Env (envL (cpE e bi bp ins.length ps.length)) := hr4
  have hV : Upd (· = c4) H2 H3 := (((((hV1.trans hV2 fun _ _ e => e).trans hV3 fun _ _ e => e).trans hV4 fun _ _ e => e).trans hV5 fun _ _ e => e).trans hV6 fun _ _ e => e).trans hV7 fun _ _ e => e
  have hE13 : Ext H1 H3 := extUpd hE2 (by omega) hV
  have hE03 := hE1.trans hE13 fun _ _ h => h
  clear hV1 hV2 hV3 hV4 hV5 hV6 hV7 hg1 hg2 hg3 hg4 hg5 hg6 hV
  have pI : ∀ {H'}, Ext H H' → PrgI H' p ss fs := fun hE => ⟨hP.sys.ext hE, fun x hx => ⟨fun q hq => ((hP.sysR x hx).sets q hq).ext hE, (hP.sysR x hx).lens, (hP.sysR x hx).ints, ⟨(hP.sysR x hx).rou.code.ext hE, (hP.sysR x hx).rou.len, (hP.sysR x hx).rou.par, (hP.sysR x hx).rou.loc, (hP.sysR x hx).rou.ins, (hP.sysR x hx).rou.name⟩⟩, hP.fun'.ext hE, fun r hr => ⟨(hP.funR r hr).code.ext hE, (hP.funR r hr).len, (hP.funR r hr).par, (hP.funR r hr).loc, (hP.funR r hr).ins, (hP.funR r hr).name⟩, hP.sl, hP.fl⟩
  refine ⟨p, (hE03.row r1 fun h => h).rd_all, s_program (pI hE03) fun H4 bs bf ss' fs' hE4 hcq hs hf => ?_⟩
  have l1 : ss'.length = ss.length := by simpa using congrArg List.length hs
  have l2 : fs'.length = fs.length := by simpa using congrArg List.length hf
  refine Nw_row (vs := [.slice none 0 0, .slice none 0 0]) fun c5 H5 hb5 hE5 _ hr5 => ?_
  refine St_row hr5 (by simp) fun G1 hV1 _ hg1 => St_row hg1 (by simp) fun H6 hV2 _ hr5 => ?_
  have hr5 : Row H6 c5 T_api_Program [slV (cpQ bs bf ss.length fs.length).1, slV (cpQ bs bf ss.length fs.length).2] := hr5
  have hE46 : Ext H4 H6 := extUpd hE5 (by omega) (hV1.trans hV2 fun _ _ e => e)
  have hE36 := hE4.trans hE46 fun _ _ h => h
  have hE06 := hE03.trans hE36 fun _ _ h => h
  clear hV1 hV2 hg1
  -- all that the three runs lean on
  have r1 := hE06.row r1 fun h => h
  have r2 := hE06.row r2 fun h => h
  have r3 := hE06.row r3 fun h => h
  have r4 := hE36.row hr4 fun h => h
  have hcx : CpR H.size H6 bi bp ins qs := (hcx.ext hE13).ext hE36
  have hcq6 := hcq.ext hE46
  have hP' : PrgI H6 (cpQ bs bf ss.length fs.length) ss' fs' := hS.cp hcq6 hs hf
  have dw := dw.ext hE06
  have hQ6 := hQ.ext hE06
  have hP6 := pI hE06
  have hS' : PrgS ss' fs' := ⟨⟨H6, _, hP'⟩, fun x hx => by
    obtain ⟨y, hy, ey⟩ := mem_map_eq hs hx
    have := sys_rou ey
    simp only [rouP, Prod.mk.injEq] at this
    rw [this.2.2.2]; exact hS.sl y hy, fun r hr => by
    obtain ⟨y, hy, ey⟩ := mem_map_eq hf hr
    simp only [rouP, Prod.mk.injEq] at ey
    rw [ey.2.2.2]; exact hS.fl y hy⟩
  have z06 := hE06.size
  have z03 := hE03.size
  have run : ∀ {H'} {k : OutS → Heap → Prop}, Ext H6 H' → (∀ H'' r vs cl, Ext H' H'' → OutM H'.size H'' r o vs cl → k r H'') → CallT Pg f_machine_Run [prgA (cpQ bs bf ss.length fs.length), .int .i64 n, envA (cpE e bi bp ins.length ps.length)] RunT H' k := fun hx hk =>
    mac_run (e := e) (hS.cp (hcq6.ext hx) hs hf) (hcx.ext hx) hqs hE fun H'' r o' vs cl h1 h2 h3 => by
      have e12 : o = o' := one_out hS hE ho (h2.cp hs hf)
      subst e12
      exact hk H'' r vs cl h1 h3
  have sm : ∀ {vs : List PtP} {cl : List CmP}, vs.map PtP.pt = o.vals → cl.map CmP.cm = o.cmds → OutSm2 o vs cl := fun h1 h2 => small_out hS hE ho h1 h2
  have ld54 : ∀ {H'} {K : Sl × Sl → Int × Int × Int × Sl × Int × Int × Sl → Prop}, Ext H6 H' → K (cpQ bs bf ss.length fs.length) (e.fr, e.sd, e.en, ⟨some (adr bi), ins.length, ins.length + 80⟩, e.ix, e.gn, ⟨some (adr bp), ps.length, ps.length + 80⟩) → LdC [.sl, .sl] (adr c5) H' fun c7 => LdC [(.int .i64), (.int .i64), (.int .i64), .sl, (.int .i64), (.int .i64), .sl] (adr c4) H' fun c8 => K c7 c8 := fun hx hK =>
    ⟨cpQ bs bf ss.length fs.length, (hx.row hr5 fun h => h).rd_all, ⟨(e.fr, e.sd, e.en, (⟨some (adr bi), ins.length, ins.length + 80⟩ : Sl), e.ix, e.gn, (⟨some (adr bp), ps.length, ps.length + 80⟩ : Sl)), (hx.row r4 fun h => h).rd_all, hK⟩⟩
  have x6 : Ext H6 H6 := .refl _ _
  refine ld54 x6 (run x6 fun H7 ra va ca hE7 ma => ?_)
  refine box_out fun c6 H8 hc6 hE8 r6 => ?_
  have x8 := hE7.trans hE8 fun _ _ h => h
  refine ld54 x8 (run x8 fun H9 rb vb cb hE9 mb => ?_)
  refine box_out fun c7 H10 hc7 hE10 r7 => ?_
  have x10 := (x8.trans hE9 fun _ _ h => h).trans hE10 fun _ _ h => h
  refine ld54 x10 (run x10 fun H11 rc vc cc hE11 mc => ?_)
  refine box_out fun c8 H12 hc8 hE12 r8 => ?_
  have x12 := (x10.trans hE11 fun _ _ h => h).trans hE12 fun _ _ h => h
  have z7 := hE7.size
  have z8 := hE8.size
  have z9 := hE9.size
  have z10 := hE10.size
  have z11 := hE11.size
  have z12 := hE12.size
  have r6 := (((hE9.trans hE10 fun _ _ h => h).trans hE11 fun _ _ h => h).trans hE12 fun _ _ h => h).row r6 fun h => h
  have r7 := (hE11.trans hE12 fun _ _ h => h).row r7 fun h => h
  have ma12 := ma.upd ((((hE8.trans hE9 fun _ _ h => h).trans hE10 fun _ _ h => h).trans hE11 fun _ _ h => h).trans hE12 fun _ _ h => h) fun _ _ _ h => h
  have mb12 := mb.upd ((hE10.trans hE11 fun _ _ h => h).trans hE12 fun _ _ h => h) fun _ _ _ h => h
  have mc12 := mc.upd hE12 fun _ _ _ h => h
  have ba : ∀ b, OutB ra.1 ra.2.1 ra.2.2.1 va ca b → H6.size ≤ b ∧ b < H7.size := fun b h => outB_lt ma h
  have bb : ∀ b, OutB rb.1 rb.2.1 rb.2.2.1 vb cb b → H8.size ≤ b ∧ b < H9.size := fun b h => outB_lt mb h
  have bc : ∀ b, OutB rc.1 rc.2.1 rc.2.2.1 vc cc b → H10.size ≤ b ∧ b < H11.size := fun b h => outB_lt mc h
  have sa := sm ma.vals ma.cmds
  have sb := sm mb.vals mb.cmds
  have sc := sm mc.vals mc.cmds
  -- what was lent is as it was
  refine ⟨(e.fr, e.sd, e.en, (⟨some (adr bi), ins.length, ins.length + 80⟩ : Sl), e.ix, e.gn, (⟨some (adr bp), ps.length, ps.length + 80⟩ : Sl)), (x12.row r4 fun h => h).rd_all, ⟨(e.fr, e.sd, e.en, e.inS, e.ix, e.gn, e.rp), (x12.row r2 fun h => h).rd_all, ?_⟩⟩
  have hQ12 := hQ6.ext x12
  refine s_still (hcx.ext x12) hQ12.inp hQ12.prt hQ12.prR hqs (by omega) hE.pl fun H13 hE13' => ?_
  have x13 := x12.trans hE13' fun _ _ h => h
  refine ⟨cpQ bs bf ss.length fs.length, (x13.row hr5 fun h => h).rd_all, ⟨p, (x13.row r1 fun h => h).rd_all, ?_⟩⟩
  refine s_unspoilt (pI (hE06.trans x13 fun _ _ h => h)) (hcq6.ext x13) hs hf fun H14 hE14 => ?_
  rw [Bool.not_true, Br_false]
  have x14 := x13.trans hE14 fun _ _ h => h
  have y14 : Ext H12 H14 := hE13'.trans hE14 fun _ _ h => h
  have r6 := y14.row r6 fun h => h
  have r7 := y14.row r7 fun h => h
  have r8 := y14.row r8 fun h => h
  have ma := ma12.upd y14 fun _ _ _ h => h
  have mb := mb12.upd y14 fun _ _ _ h => h
  have mc := mc12.upd y14 fun _ _ _ h => h
  have z14 := y14.size
  clear ma12 mb12 mc12
  -- the first
  refine ⟨ra, r6.rd_all, ⟨rw, (x14.row r3 fun h => h).rd_all, s_same ma.rd (dw.ext x14).rd sa.sm fun H15 hE15 => ?_⟩⟩
  refine ⟨ra, (hE15.row r6 fun h => h).rd_all, ?_⟩
  have ma := ma.upd hE15 fun _ _ _ h => h
  have mb := mb.upd hE15 fun _ _ _ h => h
  have mc := mc.upd hE15 fun _ _ _ h => h
  have r7 := hE15.row r7 fun h => h
  have r8 := hE15.row r8 fun h => h
  have x15 := x14.trans hE15 fun _ _ h => h
  refine s_marked (ma.own sa) ma.out.ap ma.out.pa (nums_len sa) fun H16 hU16 => ?_
  have x16 : Ext H6 H16 := extOut x15 hU16 (fun b h => (ba b h).1) (Nat.le_refl _)
  have mb := mb.upd hU16 fun b hb _ h => by have := (ba b h).2; omega
  have mc := mc.upd hU16 fun b hb _ h => by have := (ba b h).2; omega
  have r7 := hU16.row r7 fun h => by have := (ba _ h).2; omega
  have r8 := hU16.row r8 fun h => by have := (ba _ h).2; omega
  -- the second
  refine ⟨rb, r7.rd_all, ⟨rw, (x16.row r3 fun h => h).rd_all, s_same mb.rd (dw.ext x16).rd sb.sm fun H17 hE17 => ?_⟩⟩
  have mb := mb.upd hE17 fun _ _ _ h => h
  have mc := mc.upd hE17 fun _ _ _ h => h
  have r8 := hE17.row r8 fun h => h
  have x17 := x16.trans hE17 fun _ _ h => h
  refine ⟨rb, (hE17.row r7 fun h => h).rd_all, s_own (mb.own sb) fun H18 h18 => ?_⟩
  have hU18 := h18.upd
  have x18 : Ext H6 H18 := extOut x17 hU18 (fun b h => (bb b h).1) (by omega)
  have mc := mc.upd hU18 fun b hb _ h => by have := (bb b h).2; omega
  have r8 := hU18.row r8 fun h => by have := (bb _ h).2; omega
  -- the third
  refine ⟨rc, r8.rd_all, ⟨rw, (x18.row r3 fun h => h).rd_all, s_same mc.rd (dw.ext x18).rd sc.sm fun H19 hE19 => ?_⟩⟩
  have mc := mc.upd hE19 fun _ _ _ h => h
  have x19 := x18.trans hE19 fun _ _ h => h
  refine ⟨rc, (hE19.row r8 fun h => h).rd_all, s_own (mc.own sc) fun H20 h20 => ?_⟩
  have x20 : Ext H6 H20 := extOut x19 h20.upd (fun b h => (bc b h).1) (by omega)
  refine Jn.mk (fun j H' => H20 = H' ∧ j = false) (fun kk hkk => ?_) ?_
  · rw [Bool.not_true, Br_false, Br_false, Br_false, Br_false]
    exact hkk _ _ ⟨rfl, rfl⟩
  rintro _ _ ⟨rfl, rfl⟩
  rw [Br_false]
  have hx : Ext H H20 := hE06.trans x20 fun _ _ h => h
  have r4 := x20.row r4 fun h => h
  rw [← hql] at r4
  have r5 := x20.row hr5 fun h => h
  rw [← l1, ← l2] at r5
  have hq20 := hcq6.ext x20
  have hq20 : CpP H.size H20 bs bf ss' fs' := ⟨hq20.sys, hq20.fun', fun x hx => (hq20.sysR x hx).mono z03, fun r hr => (hq20.funR r hr).mono z03, hq20.ap, Nat.le_trans z03 hq20.bs, Nat.le_trans z03 hq20.bf⟩
  exact t2_ok (B := H) hx (x20.row r2 fun h => h) r4 r5 (hcx.ext x20) hq20 hS' hE hQ hqs fun H' h => hk H' (hB.trans h fun _ _ h => h)
end
section
open Hc Hc.Vf Hc.Mc
theorem bulk_one {X : Type} (d : DataW X) : 1 ≤ Rows.uptoBulk d := by
  cases d with
  | lit l => cases l <;> simp [Rows.uptoBulk]
  | nil => simp [Rows.uptoBulk]
  | ptr d => simp [Rows.uptoBulk]
  | slice elems spare => simp [Rows.uptoBulk]
  | agg parts => simp [Rows.uptoBulk]
  | iface t d => simp [Rows.uptoBulk]
  | map entries => simp [Rows.uptoBulk]
  | held h => simp [Rows.uptoBulk]
theorem bulk_part {X : Type} {d : DataW X} {l : List (DataW X)} (h : d ∈ l) : Rows.uptoBulk d ≤ Rows.uptoBulkAll l := by
  induction l with
  | nil => cases h
  | cons x r ih =>
    simp only [Rows.uptoBulkAll]
    rcases List.mem_cons.1 h with e | e
    · subst e; omega
    · have := ih e; omega
theorem bulk_len {X : Type} (l : List (DataW X)) : l.length ≤ Rows.uptoBulkAll l := by
  induction l with
  | nil => simp [Rows.uptoBulkAll]
  | cons x r ih => have := bulk_one x; simp only [Rows.uptoBulkAll, List.length_cons]; omega
def CapC (P : Program) (H : Heap) (N : Nat) : Nat → TypeId → List Value → Prop
  | 0, _, _ => False
  | f + 1, t, cs => match P.underlying t with
    | some (.slice e) => cs = [.slice none 0 0] ∨ ∃ a len cap, cs = [.slice (some a) len cap] ∧ len ≤ cap ∧ cap ≤ N ∧
        ∀ i, i < cap → ∃ xs, xs.length = P.cellsOf e ∧ hcells H (a.add (i * P.cellsOf e)) 0 xs ∧ CapC P H N f e xs
    | some (.struct fs) => cs.length = P.cellsOf t ∧ ∀ g ∈ fs.toList, CapC P H N f g.type ((cs.drop g.offset).take (P.cellsOf g.type))
    | _ => True
theorem cap_of_trod {X : Type} {enc : TypeId × Value → X} {P : Program} {w : World} {base : Nat} {held : Bool} {N : Nat} : ∀ {f : Nat} {t : TypeId} {cs : List Value} {d : DataW X} {ps : List MemPlace},
    DataW.trod enc P w base (fun _ => true) held f t cs = some (d, ps) → Rows.uptoBulk d ≤ N → CapC P w.heap N f t cs
  | 0, t, cs, d, ps, h, hwt => by simp [DataW.trod] at h
  | f + 1, t, cs, d, ps, h, hwt => by
    unfold DataW.trod at h
    unfold CapC
    split at h
    case h_1 b hu => rw [hu]; trivial
    case h_2 k k' n hu => rw [hu]; trivial
    case h_3 => rename_i hu; rw [hu]; trivial
    case h_4 s hu => rw [hu]; trivial
    case h_5 => rename_i hu; rw [hu]; trivial
    case h_6 e a hu => rw [hu]; trivial
    case h_7 => rename_i hu; rw [hu]; exact .inl rfl
    case h_8 e a len cap hu =>
      rw [hu]
      dsimp only at h
      split at h
      · rename_i hc
        obtain ⟨_, hlc, hcap⟩ := hc
        simp only [if_true, Option.bind_eq_some_iff, Option.map_eq_some_iff] at h
        obtain ⟨es, hes, rs, hrs, hd⟩ := h
        simp only [Option.some.injEq, Prod.mk.injEq] at hd
        obtain ⟨rfl, _⟩ := hd
        obtain ⟨l1, g1⟩ := Go.Proofs.YtfpmgpblhhcpgaaGreat.Hc.mapM_some_get hes
        obtain ⟨l2, g2⟩ := Go.Proofs.YtfpmgpblhhcpgaaGreat.Hc.mapM_some_get hrs
        simp only [Rows.uptoBulk] at hwt
        have b1 := bulk_len (es.map (·.1))
        have b2 := bulk_len (rs.map (·.1))
        rw [List.length_map, l1, List.length_range] at b1
        rw [List.length_map, l2, List.length_range] at b2
        refine .inr ⟨a, len, cap, rfl, hlc, by omega, fun i hi => ?_⟩
        have key : ∃ y : DataW X × List MemPlace, (w.cells? base (a.add (i * P.cellsOf e)) (P.cellsOf e)).bind (DataW.trod enc P w base (fun _ => true) held f e) = some y ∧ Rows.uptoBulk y.1 ≤ N := by
          rcases Nat.lt_or_ge i len with hl | hl
          · obtain ⟨y, h1, h2⟩ := g1 i i (by simp [hl])
            refine ⟨y, h2, ?_⟩
            have := bulk_part (List.mem_map.2 ⟨y, List.mem_of_getElem? h1, rfl⟩ : y.1 ∈ es.map (·.1))
            omega
          · obtain ⟨y, h1, h2⟩ := g2 (i - len) (i - len) (by rw [List.getElem?_range (by omega)])
            rw [show len + (i - len) = i by omega] at h2
            refine ⟨y, h2, ?_⟩
            have := bulk_part (List.mem_map.2 ⟨y, List.mem_of_getElem? h1, rfl⟩ : y.1 ∈ rs.map (·.1))
            omega
        obtain ⟨⟨d', ps'⟩, hy, hwy⟩ := key
        simp only [Option.bind_eq_some_iff] at hy
        obtain ⟨xs, hxs, hx⟩ := hy
        obtain ⟨h1, h2⟩ := cells?_hcells hxs
        exact ⟨xs, h1, h2, cap_of_trod hx hwy⟩
      · cases h
    case h_9 fs _ hu =>
      rw [hu]
      split at h
      · rename_i hl
        simp only [Option.map_eq_some_iff] at h
        obtain ⟨xs, hxs, hd⟩ := h
        simp only [Prod.mk.injEq] at hd
        obtain ⟨rfl, _⟩ := hd
        obtain ⟨l1, g1⟩ := Go.Proofs.YtfpmgpblhhcpgaaGreat.Hc.mapM_some_get hxs
        simp only [Rows.uptoBulk] at hwt
        refine ⟨hl, fun g hg => ?_⟩
        obtain ⟨i, hi, hgi⟩ := List.getElem_of_mem hg
        obtain ⟨y, hy1, hy⟩ := g1 i g (by rw [List.getElem?_eq_getElem hi, hgi])
        have := bulk_part (List.mem_map.2 ⟨y, List.mem_of_getElem? hy1, rfl⟩ : y.1 ∈ xs.map (·.1))
        obtain ⟨d', ps'⟩ := y
        dsimp only at this
        exact cap_of_trod hy (by omega)
      · cases h
    case h_10 n e _ hu => rw [hu]; trivial
    all_goals first
      | (rename_i hu; rw [hu]; trivial)
      | (rename_i hu _; rw [hu]; trivial)
      | (rename_i hu _ _; rw [hu]; trivial)
      | (cases h; done)
theorem capC_slice {P : Program} {H : Heap} {N f : Nat} {t e : TypeId} (hu : P.underlying t = some (.slice e)) {v : Value} (h : CapC P H N f t [v]) : v = .slice none 0 0 ∨ ∃ a len cap, v = .slice (some a) len cap ∧ len ≤ cap ∧ cap ≤ N ∧ ∃ f', ∀ i, i < cap → ∃ xs, xs.length = P.cellsOf e ∧ hcells H (a.add (i * P.cellsOf e)) 0 xs ∧ CapC P H N f' e xs := by
  cases f with
  | zero => exact h.elim
  | succ f =>
    simp only [CapC, hu] at h
    rcases h with h | ⟨a, len, cap, h1, h2, h3, h4⟩
    · exact .inl (by simpa using h)
    · exact .inr ⟨a, len, cap, by simpa using h1, h2, h3, f, h4⟩
theorem capC_struct {P : Program} {H : Heap} {N f : Nat} {t : TypeId} {fs : Array Field} (hu : P.underlying t = some (.struct fs)) {cs : List Value} (h : CapC P H N f t cs) : ∃ f', ∀ g ∈ fs.toList, CapC P H N f' g.type ((cs.drop g.offset).take (P.cellsOf g.type)) := by
  cases f with
  | zero => exact h.elim
  | succ f =>
    simp only [CapC, hu] at h
    exact ⟨f, h.2⟩
theorem hcells_uniq {H : Heap} {a : Addr} : ∀ {xs ys : List Value} {i : Nat}, xs.length = ys.length → hcells H a i xs → hcells H a i ys → xs = ys
  | [], [], _, _, _, _ => rfl
  | x :: xs, y :: ys, i, hl, hx, hy => by
    have e := hx.1.symm.trans hy.1
    cases e
    rw [hcells_uniq (by simpa using hl) hx.2 hy.2]
theorem capC_rn {P : Program} {H : Heap} {N f : Nat} {t e : TypeId} (hu : P.underlying t = some (.slice e)) {n : Nat} (hce : P.cellsOf e = n) {α : Type} {g : α → List Value} (hg : ∀ x, (g x).length = n) (hn : 0 < n) {s : Sl} {xs : List α} (hx : RN g n H s xs) (h : CapC P H N f t [slV s]) : xs.length ≤ N ∧ ∃ f', ∀ x ∈ xs, CapC P H N f' e (g x) := by
  have hl := hx.len
  have hc := hx.cap
  rcases capC_slice hu h with h | ⟨a, len, cap, h1, h2, h3, f', h4⟩
  · simp only [slV, Value.slice.injEq] at h
    have : xs = [] := List.eq_nil_of_length_eq_zero (by omega)
    subst this
    exact ⟨Nat.zero_le _, 0, fun x hx => by cases hx⟩
  · simp only [slV, Value.slice.injEq] at h1
    obtain ⟨ha, hb, hcp⟩ := h1
    refine ⟨by omega, f', fun x hxm => ?_⟩
    obtain ⟨i, hi, rfl⟩ := List.getElem_of_mem hxm
    obtain ⟨ys, g1, g2, g3⟩ := h4 i (by omega)
    have hrd := hx.rd
    rw [ha] at hrd
    have hrd : hcells H a 0 (xs.flatMap g) := hrd
    have e : xs.flatMap g = (xs.take i).flatMap g ++ (g xs[i] ++ (xs.drop (i + 1)).flatMap g) := by
      rw [show xs.flatMap g = (xs.take i ++ xs[i] :: xs.drop (i + 1)).flatMap g from congrArg _ (by rw [List.getElem_cons_drop, List.take_append_drop]), List.flatMap_append, List.flatMap_cons]
    rw [e] at hrd
    have k := (hcells_app.1 (hcells_app.1 hrd).2).1
    rw [Nat.zero_add, flat_len hg, List.length_take, Nat.min_eq_left (by omega), ← Nat.add_zero (i * n), hcellsShift] at k
    rw [hce] at g1 g2
    have := hcells_uniq (by rw [g1, hg]) g2 k
    rw [← this]; exact g3
theorem codes_short {H : Heap} {N f : Nat} {p : Sl × Sl} {ss : List Sy} {fs : List Rou} (hP : PrgI H p ss fs) (h : CapC Tryz.prog H N f 25 [slV p.1, slV p.2]) : (∀ x ∈ ss, x.rou.code.length ≤ N) ∧ ∀ r ∈ fs, r.code.length ≤ N := by
  have c55 : Tryz.prog.cellsOf 55 = 8 := by kernel_rfl
  have c52 : Tryz.prog.cellsOf 52 = 4 := by kernel_rfl
  have c74 : Tryz.prog.cellsOf 74 = 2 := by kernel_rfl
  have c22 : Tryz.prog.cellsOf 22 = 1 := by kernel_rfl
  have c23 : Tryz.prog.cellsOf 23 = 1 := by kernel_rfl
  have c50 : Tryz.prog.cellsOf 50 = 1 := by kernel_rfl
  obtain ⟨f1, h1⟩ := capC_struct Tryz.underlying25 h
  simp only [List.mem_cons, List.not_mem_nil, or_false, forall_eq_or_imp, forall_eq] at h1
  obtain ⟨a, b⟩ := h1
  have rou : ∀ {f : Nat} {r : Rou}, RouI H r → CapC Tryz.prog H N f 52 (rouV r) → r.code.length ≤ N := fun {f r} hr h => by
    obtain ⟨f2, h2⟩ := capC_struct Tryz.underlying52 h
    simp only [List.mem_cons, List.not_mem_nil, or_false, forall_eq_or_imp, forall_eq] at h2
    have h3 := h2.2.2.2
    exact (capC_rn Tryz.underlying50 c74 insV_len (by decide) hr.code (by simpa [c50] using h3)).1
  constructor
  · obtain ⟨_, f2, h2⟩ := capC_rn Tryz.underlying22 c55 sysV_len (by decide) hP.sys (by simpa [c22] using a)
    intro x hx
    obtain ⟨f3, h3⟩ := capC_struct Tryz.underlying55 (h2 x hx)
    simp only [List.mem_cons, List.not_mem_nil, or_false, forall_eq_or_imp, forall_eq] at h3
    have h4 := h3.2.2.2.2
    exact rou (f := f3) (hP.sysR x hx).rou (by simpa [c52] using h4)
  · obtain ⟨_, f2, h2⟩ := capC_rn Tryz.underlying23 c52 rouV_len (by decide) hP.fun' (by simpa [c23] using b)
    exact fun r hr => rou (hP.funR r hr) (h2 r hr)
end
section
open Hc Hc.Vf Hc.Mc Hc.Dice
variable {H : Heap}
theorem PrgI.mv {H' : Heap} {p : Sl × Sl} {ss : List Sy} {fs : List Rou} (hP : PrgI H p ss fs) (hE : Ext H H') : PrgI H' p ss fs :=
  ⟨hP.sys.ext hE, fun x hx => ⟨fun q hq => ((hP.sysR x hx).sets q hq).ext hE, (hP.sysR x hx).lens, (hP.sysR x hx).ints, ⟨(hP.sysR x hx).rou.code.ext hE, (hP.sysR x hx).rou.len, (hP.sysR x hx).rou.par, (hP.sysR x hx).rou.loc, (hP.sysR x hx).rou.ins, (hP.sysR x hx).rou.name⟩⟩, hP.fun'.ext hE, fun r hr => ⟨(hP.funR r hr).code.ext hE, (hP.funR r hr).len, (hP.funR r hr).par, (hP.funR r hr).loc, (hP.funR r hr).ins, (hP.funR r hr).name⟩, hP.sl, hP.fl⟩
theorem s_MachineRuns {p : Sl × Sl} {ss : List Sy} {fs : List Rou} {e : EnV} {ins : List (Int × Int × Int)} {ps : List PtP} (hP : PrgI H p ss fs) (hEI : EnvI H e ins ps) {n : Int} (hS : PrgS ss fs) {k : Bool → Heap → Prop} (hk : ∀ H', Ext H H' → k true H') :
    CallT Pg f_L_MachineRuns [prgA p, .int .i64 n, envA e] BoolR H k := by
  refine c_L_MachineRuns p n (e.fr, e.sd, e.en, e.inS, e.ix, e.gn, e.rp) ?_
  unfold v_L_MachineRuns
  refine Nw_row (vs := [slV p.1, slV p.2]) fun b1 H1 hb1 hE1 _ hr1 => ?_
  refine Nw_row (vs := envL e) fun b2 H2 hb2 hE2 _ hr2 => s_shown fun H3 hE3 => ?_
  have hE03 : Ext H H3 := (hE1.trans hE2 fun _ _ h => h).trans hE3 fun _ _ h => h
  have r1 := (hE2.trans hE3 fun _ _ h => h).row hr1 fun h => h
  have r2 := hE3.row hr2 fun h => h
  have hE : EnvP e ins ps := ⟨hEI.eok, hEI.inL, by have := hEI.prL; omega, fun q hq => ⟨(hEI.prR q hq).2.1, (hEI.prR q hq).2.2.1⟩⟩
  have hQ0 : EnvQ H e ins ps := ⟨hEI.inp, hEI.prt, fun q hq => ⟨(hEI.prR q hq).1, (hEI.prR q hq).2.1⟩⟩
  have hil := hE.il
  have hQ := hQ0.ext hE03
  simp only [adr_add]
  refine ⟨p, r1.rd_all, ⟨(e.fr, e.sd, e.en, e.inS, e.ix, e.gn, e.rp), r2.rd_all, ?_⟩⟩
  refine s_copied (e := e) hQ.inp hQ.prt hQ.prR (by omega) hE.pl fun H4 bi bp qs hE4 hcx hq => ?_
  refine Stab_all (st_prog (hE4.row r1 fun h => h)) ?_
  refine ref_long (e := e) (hP.mv (hE03.trans hE4 fun _ _ h => h)) hcx hq hE fun rl H5 hE5 => ?_
  have hE35 := hE4.trans hE5 fun _ _ h => h
  have r1 := hE35.row r1 fun h => h
  have r2 := hE35.row r2 fun h => h
  have hE05 := hE03.trans hE35 fun _ _ h => h
  refine Stab_all (st_env r2) ?_
  refine Jn.mk (fun j H' => H5 = H' ∧ j = rl) (fun kk hkk => ?_) ?_
  · rw [Bool.not_true, Br_false]
    exact hkk _ _ ⟨rfl, rfl⟩
  rintro _ _ ⟨rfl, rfl⟩
  refine Br.mk (fun _ => hk _ hE05) fun _ => ?_
  refine ⟨p, r1.rd_all, ⟨(e.fr, e.sd, e.en, e.inS, e.ix, e.gn, e.rp), r2.rd_all, ?_⟩⟩
  have hQ5 := hQ0.ext hE05
  refine run3R (f := f_R_Run) (p := p) (e := e) (Res := fun H7 H8 r => ∃ o vs cl, OutIs (2 ^ 63) ss fs n (enS e ins) (ps.map PtP.pt) o ∧ OutD H8 r o vs cl) hQ5.inp (by omega) hQ5.prt hQ5.prR hE.pl r1 r2 ?_ ?_ ?_
  · rintro H7 H8 H9 r b ⟨o, vs, cl, g1, g2⟩ hU hb
    exact ⟨o, vs, cl, g1, g2.off hU (hb.imp (fun h => h.2) id)⟩
  · intro H7 lo bi bp qs' hx hcr hq k hk
    exact ref_run (e := e) (hP.mv (hE05.trans hx fun _ _ h => h)) hcr hq hE fun H8 r o vs cl h1 h2 h3 => hk H8 r h1 ⟨o, vs, cl, h2, h3⟩
  · rintro H7 H14 b3 r hx h7 hr3 ⟨o', vs, cl, ho', hm⟩ hb3
    exact a2_ok (B := H) (hE05.trans hx fun _ _ h => h) (hx.row r1 fun h => h) (hx.row r2 fun h => h) hr3 (hP.mv (hE05.trans hx fun _ _ h => h)) hS hE (hQ5.ext hx) hm ho' hk
theorem w_MachineRuns {H : Heap} (v0 v1 v2 : Value) (r0 : RdV Tryz.prog H 25 v0) (r1 : RdV Tryz.prog H 3 v1) (r2 : RdV Tryz.prog H 33 v2) (hc : ∃ f, CapC Tryz.prog H 1048576 f 25 v0.cells.toList) :
    CallT Tryz.prog 3 [v0, v1, v2] (.one (.c .bool)) H (fun b H' => b = true ∧ Ext H H') := by
  obtain ⟨p, ss, fs, rfl, hP⟩ := rd_prog r0
  obtain ⟨n, rfl, hn⟩ := rd_i64 Tryz.underlying3 r1
  obtain ⟨e, ins, ps, rfl, hE⟩ := rd_env r2
  obtain ⟨f, hc⟩ := hc
  obtain ⟨h1, h2⟩ := codes_short hP hc
  exact s_MachineRuns hP hE ⟨⟨H, p, hP⟩, fun x hx => by have := h1 x hx; omega, fun r hr => by have := h2 r hr; omega⟩ fun H' h => ⟨rfl, h⟩
end
end Go.Proofs.YtfpmgpblhhcpgaaGreat
