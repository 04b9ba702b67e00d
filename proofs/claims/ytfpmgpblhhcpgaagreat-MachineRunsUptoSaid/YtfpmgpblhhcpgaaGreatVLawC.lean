/-
  Machine: how a run ends.
-/
import Derived.Test.YtfpmgpblhhcpgaaGreatRd
import Derived.Test.YtfpmgpblhhcpgaaGreatVLawA
import Derived.Test.YtfpmgpblhhcpgaaGreatHcLists
import Derived.KernelRfl
import Derived.Test.YtfpmgpblhhcpgaaGreatProg
namespace Go.Proofs.YtfpmgpblhhcpgaaGreat
set_option linter.unusedVariables false
set_option linter.unusedSimpArgs false
set_option maxRecDepth 100000
section
open Hc Hc.Vf Hc.Mc Hc.Dice
variable {H : Heap}
theorem ready_codes {P : MP} {m : Ms} : ready P m = 0 ∨ ready P m = 150 ∨ ready P m = 153 ∨ ready P m = 152 ∨ ready P m = 151 ∨ ready P m = 102 := by
  unfold ready
  repeat' split
  all_goals simp
theorem runs_end {P : MP} {E : En} (hP : POk P) (hE : EOk E) {m m' : Ms} {N : Nat} {er : Int} (h : Runs P E m N er m') (hM : MOk P m) :
    (er = 0 ∧ MOk P m') ∨ (er = 120 ∧ m'.steps = 2001) ∨ (er ≠ 0 ∧ er ≠ 120 ∧ er ≠ 190 ∧ 0 ≤ m'.steps ∧ m'.steps ≤ 2000) := by
  induction h with
  | over _ => exact .inl ⟨rfl, hM⟩
  | bad _ he =>
    rename_i m _
    unfold stepM at he ⊢
    split at he
    · rename_i hr
      rw [if_pos hr]
      rcases hM.does hP hE (ready_iff hr) with ⟨h0, _⟩ | ⟨h1, h2⟩
      · exact absurd h0 he
      · exact .inr (.inl ⟨h1, h2⟩)
    · rename_i hr
      rw [if_neg hr]
      refine .inr (.inr ⟨hr, ?_, ?_, hM.steps.1, hM.steps.2⟩)
      · show ready P m ≠ _
        rcases ready_codes (P := P) (m := m) with e | e | e | e | e | e <;> rw [e] <;> decide
      · show ready P m ≠ _
        rcases ready_codes (P := P) (m := m) with e | e | e | e | e | e <;> rw [e] <;> decide
  | step ho he _ ih =>
    rename_i m _ _ _ _
    refine ih ?_
    have hrdy : ready P m = 0 := by
      unfold stepM at he
      split at he
      · assumption
      · rename_i hne; exact absurd he hne
    have hst : stepM P E m = does P E m m.top.fn.code[m.top.nx.toNat]! := by unfold stepM; rw [if_pos hrdy]
    rw [hst] at he ⊢
    rcases hM.does hP hE (ready_iff hrdy) with ⟨_, hmo⟩ | ⟨h120, _⟩
    · exact hmo
    · rw [he] at h120; cases h120
theorem runs_keep {P : MP} {E : En} (Q : Ms → Prop) (hs : ∀ m, Q m → Q (stepM P E m).2) {m m' : Ms} {N : Nat} {er : Int} (h : Runs P E m N er m') (h0 : Q m) : Q m' := by
  induction h with
  | over _ => exact h0
  | bad _ _ => exact hs _ h0
  | step _ _ _ ih => exact ih (hs _ h0)
abbrev shp2 (l : List Pt) : List (Int × Nat) := l.map fun p => (p.kind, p.vals.length)
theorem put_shp (l : List Pt) (k : Int) (f : Nat) (x : Int) : shp2 (putV l k f x) = shp2 l := by
  induction l with
  | nil => rfl
  | cons p r ih => unfold putV; split <;> simp_all [shp2]
theorem step_keep {P : MP} {E : En} {m : Ms} (h : ∀ ev ∈ m.evs, ev.e = (E.idx, E.gen) ∧ ev.sys = P.sysN) : shp2 (stepM P E m).2.vals = shp2 m.vals ∧ ∀ ev ∈ (stepM P E m).2.evs, ev.e = (E.idx, E.gen) ∧ ev.sys = P.sysN := by
  unfold stepM
  split
  · unfold does
    dsimp only
    split
    · exact ⟨rfl, h⟩
    split
    · exact ⟨rfl, h⟩
    · unfold act
      split
      case h_5 => exact ⟨put_shp _ _ _ _, h⟩
      case h_7 => dsimp only; split <;> exact ⟨rfl, h⟩
      case h_8 => split <;> exact ⟨rfl, h⟩
      case h_11 => split <;> exact ⟨rfl, h⟩
      case h_12 =>
        refine ⟨rfl, fun ev hev => ?_⟩
        rcases List.mem_append.1 hev with hev | hev
        · exact h ev hev
        · rw [List.mem_singleton.1 hev]; exact ⟨rfl, rfl⟩
      all_goals exact ⟨rfl, h⟩
  · exact ⟨rfl, h⟩
theorem runs_shape {P : MP} {E : En} {m m' : Ms} {N : Nat} {er : Int} (h : Runs P E m N er m') (h0 : ∀ ev ∈ m.evs, ev.e = (E.idx, E.gen) ∧ ev.sys = P.sysN) : shp2 m'.vals = shp2 m.vals ∧ ∀ ev ∈ m'.evs, ev.e = (E.idx, E.gen) ∧ ev.sys = P.sysN :=
  runs_keep (fun x => shp2 x.vals = shp2 m.vals ∧ ∀ ev ∈ x.evs, ev.e = (E.idx, E.gen) ∧ ev.sys = P.sysN) (fun x hx => by
    have := step_keep (P := P) (E := E) (m := x) hx.2
    exact ⟨this.1.trans hx.1, this.2⟩) h ⟨rfl, h0⟩
structure EndsP (p : Sl × Sl) (ss : List Sy) (n : Int) (e : EnV) (ps0 : List PtP) (H : Heap) (vs cs es : Sl) (st er : Int) : Prop where
  h_sys : er = 190 ↔ ¬ (0 ≤ n ∧ n < (ss.length : Int))
  h_st : 0 ≤ st ∧ st ≤ 2001
  h_fuel : er = 120 ↔ st = 2001
  h_cl : cs.len ≤ 16
  h_el : es.len ≤ 16
  h_bad : er ≠ 0 → vs.len = 0 ∧ cs.len = 0 ∧ es.len = 0
  h_ok : er = 0 → (∃ qs : List PtP, RN ptV 2 H vs qs ∧ (qs.map PtP.kind).Pairwise (· < ·) ∧ ∀ q ∈ qs, q.sl.len = q.vals.length ∧ q.kind ∈ (ss[n.toNat]!).l 3 ∧ ∃ v, lookV (ps0.map PtP.pt) q.kind = some v ∧ v.length = q.vals.length) ∧
    ∃ evs : List Ev, RN evV 5 H es evs ∧ ∀ ev ∈ evs, ev.e = (e.ix, e.gn) ∧ ev.sys = n
end
section
open Hc Hc.Vf Hc.Mc Hc.Dice
variable {H : Heap}
theorem sys_get {ss : List Sy} {n : Int} (hn : 0 ≤ n ∧ n < (ss.length : Int)) : ss[n.toNat]! ∈ ss := by
  rw [getElem!_pos ss _ (by omega)]; exact List.getElem_mem _
theorem RouI.fnOk {r : Rou} (h : RouI H r) : FnOk (fnOf r) := ⟨h.loc, h.par, h.ins, by have := h.len; show r.code.length ≤ _; omega⟩
theorem PrgI.ctx {B : Heap} {p : Sl × Sl} {ss : List Sy} {fs : List Rou} (hP : PrgI B p ss fs) (hE : Ext B H) {n : Int} (hn : 0 ≤ n ∧ n < (ss.length : Int)) {inS : Sl} {ins : List (Int × Int × Int)} (hi : RN inV 3 H inS ins) (hl : ins.length * 24 ≤ 140737488351232)
    (hB : ∀ a, inS.a = some a → a.spot = none ∧ a.block < H.size) (hN : inS.a = none → inS.cap = 0) : CtxR H p.2 (ss[n.toNat]!) inS fs ins :=
  ⟨hP.fun'.ext hE, fun r hr => ((hP.funR r hr).code).ext hE, fun q hq => ((hP.sysR _ (sys_get hn)).sets q hq).ext hE, fun q hq => by have := (hP.sysR _ (sys_get hn)).lens q hq; omega, hi, hl, hB, hN⟩
theorem PrgI.pok {B : Heap} {p : Sl × Sl} {ss : List Sy} {fs : List Rou} (hP : PrgI B p ss fs) {n : Int} (hn : 0 ≤ n ∧ n < (ss.length : Int)) (lim : Int) : POk ⟨fs.map fnOf, fnOf (ss[n.toNat]!).rou, (ss[n.toNat]!).l 2, (ss[n.toNat]!).l 3, n, lim⟩ :=
  ⟨fun f hf => by
    obtain ⟨r, hr, rfl⟩ := List.mem_map.1 hf
    exact (hP.funR r hr).fnOk, (hP.sysR _ (sys_get hn)).rou.fnOk⟩
theorem EnvI.eok {B : Heap} {e : EnV} {ins : List (Int × Int × Int)} {ps : List PtP} (h : EnvI B e ins ps) : EOk (enS e ins) := ⟨h.fr, h.ix, fun x hx => (h.in64 x hx).2.2⟩
theorem map_len {ps qs : List PtP} (h : qs.map PtP.pt = ps.map PtP.pt) : qs.length = ps.length := by
  have := congrArg List.length h
  simpa using this
theorem EndsP.upd {p : Sl × Sl} {ss : List Sy} {n : Int} {e : EnV} {ps : List PtP} {vs cs es : Sl} {st er : Int} (h : EndsP p ss n e ps H vs cs es st er) {b : Nat} {H' : Heap} (hU : Upd (· = b) H H') (hb : ∀ s, s = vs ∨ s = es → ∀ a, s.a = some a → a.block ≠ b) : EndsP p ss n e ps H' vs cs es st er :=
  ⟨h.h_sys, h.h_st, h.h_fuel, h.h_cl, h.h_el, h.h_bad, fun h0 => by
    obtain ⟨⟨qs, h1, h2, h3⟩, evs, h4, h5⟩ := h.h_ok h0
    exact ⟨⟨qs, h1.upd hU fun a ha => hb vs (.inl rfl) a ha, h2, h3⟩, evs, h4.upd hU fun a ha => hb es (.inr rfl) a ha, h5⟩⟩
end
section
open Hc
abbrev f_L_MachineInputs : FuncId := 5
abbrev f_L_same : FuncId := 15
abbrev f_L_parts : FuncId := 36
abbrev f_L_numbers : FuncId := 37
def v_L_same (a_ : Sl × Sl × Sl × Int × Int) (b_ : Sl × Sl × Sl × Int × Int) (H : Heap) (k : Bool → Heap → Prop) : Prop :=
 Nw #[slV a_.1, slV a_.2.1, slV a_.2.2.1, .int .i64 a_.2.2.2.1, .int .i64 a_.2.2.2.2] T_api_Outcome H fun b1 H1 =>
 Nw #[slV b_.1, slV b_.2.1, slV b_.2.2.1, .int .i64 b_.2.2.2.1, .int .i64 b_.2.2.2.2] T_api_Outcome H1 fun b2 H2 =>
 Ld .sl (adr b1) H2 fun (x1 : Sl) =>
 Ld .sl (adr b2) H2 fun (x2 : Sl) =>
 CallT Pg f_L_parts [slV x1, slV x2] (.one (.c .bool)) H2 fun (r1 : Bool) H3 =>
 Jn (σ := Bool) (fun kk1 =>
 Br (!r1) (
 kk1 true H3) (
 Ld (.int .i64) ((adr b1).add 3) H3 fun (x3 : Int) =>
 Ld (.int .i64) ((adr b2).add 3) H3 fun (x4 : Int) =>
 Br (x3 != x4) (
 kk1 true H3) (
 Ld (.int .i64) ((adr b1).add 4) H3 fun (x5 : Int) =>
 Ld (.int .i64) ((adr b2).add 4) H3 fun (x6 : Int) =>
 Br (x5 != x6) (
 kk1 true H3) (
 Ld .sl ((adr b1).add 1) H3 fun (x7 : Sl) =>
 Ld .sl ((adr b2).add 1) H3 fun (x8 : Sl) =>
 Br ((x7.len : Int) != (x8.len : Int)) (
 kk1 true H3) (
 Ld .sl ((adr b1).add 2) H3 fun (x9 : Sl) =>
 Ld .sl ((adr b2).add 2) H3 fun (x10 : Sl) =>
 kk1 ((x9.len : Int) != (x10.len : Int)) H3))))) fun j1 H4 =>
 Br j1 (
 k false H4) (
 LoopT (σ := Int) (fun next1 s1 H5 =>
 Ld .sl ((adr b1).add 1) H5 fun (x11 : Sl) =>
 Br (decide (s1 < (x11.len : Int))) (
 Ld .sl ((adr b1).add 1) H5 fun (x12 : Sl) =>
 IxA 6 x12 s1 fun a1 =>
 LdC [(.int .i64), (.int .i64), (.int .i64), (.int .i64), .sl, .sl] a1 H5 fun (c1 : Int × Int × Int × Int × Sl × Sl) =>
 Nw #[.int .i64 0, .int .i64 0, .int .i64 0, .int .i64 0, .slice none 0 0, .slice none 0 0] T_api_Command H5 fun b3 H6 =>
 St ((adr b3).add 0) (.int .i64 c1.1) H6 fun H7 =>
 St ((adr b3).add 1) (.int .i64 c1.2.1) H7 fun H8 =>
 St ((adr b3).add 2) (.int .i64 c1.2.2.1) H8 fun H9 =>
 St ((adr b3).add 3) (.int .i64 c1.2.2.2.1) H9 fun H10 =>
 St ((adr b3).add 4) (slV c1.2.2.2.2.1) H10 fun H11 =>
 St ((adr b3).add 5) (slV c1.2.2.2.2.2) H11 fun H12 =>
 Ld .sl ((adr b2).add 1) H12 fun (x13 : Sl) =>
 IxA 6 x13 s1 fun a2 =>
 LdC [(.int .i64), (.int .i64), (.int .i64), (.int .i64), .sl, .sl] a2 H12 fun (c2 : Int × Int × Int × Int × Sl × Sl) =>
 Nw #[.int .i64 0, .int .i64 0, .int .i64 0, .int .i64 0, .slice none 0 0, .slice none 0 0] T_api_Command H12 fun b4 H13 =>
 St ((adr b4).add 0) (.int .i64 c2.1) H13 fun H14 =>
 St ((adr b4).add 1) (.int .i64 c2.2.1) H14 fun H15 =>
 St ((adr b4).add 2) (.int .i64 c2.2.2.1) H15 fun H16 =>
 St ((adr b4).add 3) (.int .i64 c2.2.2.2.1) H16 fun H17 =>
 St ((adr b4).add 4) (slV c2.2.2.2.2.1) H17 fun H18 =>
 St ((adr b4).add 5) (slV c2.2.2.2.2.2) H18 fun H19 =>
 Ld .sl ((adr b3).add 4) H19 fun (x14 : Sl) =>
 Ld .sl ((adr b4).add 4) H19 fun (x15 : Sl) =>
 CallT Pg f_L_numbers [slV x14, slV x15] (.one (.c .bool)) H19 fun (r2 : Bool) H20 =>
 Ld .sl ((adr b3).add 5) H20 fun (x16 : Sl) =>
 Ld .sl ((adr b4).add 5) H20 fun (x17 : Sl) =>
 CallT Pg f_L_parts [slV x16, slV x17] (.one (.c .bool)) H20 fun (r3 : Bool) H21 =>
 Jn (σ := Bool) (fun kk2 =>
 Br (!r2) (
 kk2 true H21) (
 Br (!r3) (
 kk2 true H21) (
 Ld (.int .i64) (adr b3) H21 fun (x18 : Int) =>
 Ld (.int .i64) (adr b4) H21 fun (x19 : Int) =>
 Br (x18 != x19) (
 kk2 true H21) (
 LdC [(.int .i64), (.int .i64)] ((adr b3).add 1) H21 fun (c3 : Int × Int) =>
 LdC [(.int .i64), (.int .i64)] ((adr b4).add 1) H21 fun (c4 : Int × Int) =>
 Br (!(eqL [(.int .i64), (.int .i64)] (c3.1, c3.2) (c4.1, c4.2))) (
 kk2 true H21) (
 Ld (.int .i64) ((adr b3).add 3) H21 fun (x20 : Int) =>
 Ld (.int .i64) ((adr b4).add 3) H21 fun (x21 : Int) =>
 kk2 (x20 != x21) H21))))) fun j2 H22 =>
 Br j2 (
 k false H22) (
 Lt (IntKind.wrap .i64 (s1 + 1)) fun t1 =>
 next1 t1 H22)) (
 LoopT (σ := Int) (fun next2 s2 H23 =>
 Ld .sl ((adr b1).add 2) H23 fun (x22 : Sl) =>
 Br (decide (s2 < (x22.len : Int))) (
 Ld .sl ((adr b1).add 2) H23 fun (x23 : Sl) =>
 IxA 5 x23 s2 fun a3 =>
 LdC [(.int .i64), (.int .i64), (.int .i64), (.int .i64), (.int .i64)] a3 H23 fun (c5 : Int × Int × Int × Int × Int) =>
 Ld .sl ((adr b2).add 2) H23 fun (x24 : Sl) =>
 IxA 5 x24 s2 fun a4 =>
 LdC [(.int .i64), (.int .i64), (.int .i64), (.int .i64), (.int .i64)] a4 H23 fun (c6 : Int × Int × Int × Int × Int) =>
 Br (!(eqL [(.int .i64), (.int .i64), (.int .i64), (.int .i64), (.int .i64)] (c5.1, c5.2.1, c5.2.2.1, c5.2.2.2.1, c5.2.2.2.2) (c6.1, c6.2.1, c6.2.2.1, c6.2.2.2.1, c6.2.2.2.2))) (
 k false H23) (
 Lt (IntKind.wrap .i64 (s2 + 1)) fun t2 =>
 next2 t2 H23)) (
 k true H23)) 0 H5)) 0 H4)
def h_L_same : Hint := (.two .no (.two .no (.two (.two (.join [(50, (.c .bool))] .no) .no) (.two (.two .no (.one (.loop [(6, (.c (.int .i64)))] (.two .no (.two (.one (.two .no (.two .no (.two .no (.two .no (.two (.join [(104, (.c .bool))] .no) .no)))))) .no))))) (.two (.two .no (.one (.loop [(11, (.c (.int .i64)))] .no))) .no)))))
theorem c_L_same (a_ : Sl × Sl × Sl × Int × Int) (b_ : Sl × Sl × Sl × Int × Int) {H : Heap} {k : Bool → Heap → Prop} (h : v_L_same a_ b_ H k) : CallT Pg f_L_same [.agg #[slV a_.1, slV a_.2.1, slV a_.2.2.1, .int .i64 a_.2.2.2.1, .int .i64 a_.2.2.2.2], .agg #[slV b_.1, slV b_.2.1, slV b_.2.2.1, .int .i64 b_.2.2.2.1, .int .i64 b_.2.2.2.2]] (.one (.c .bool)) H k :=
 call_of_E (h := h_L_same) Pg_mixed Tryz.func15 (by kernel_rfl) (by kernel_rfl) (by kernel_rfl) (by kernel_rfl) (Eq.mpr (by kernel_rfl) h)
def v_L_parts (a_ : Sl) (b_ : Sl) (H : Heap) (k : Bool → Heap → Prop) : Prop :=
 Br ((a_.len : Int) != (b_.len : Int)) (
 k false H) (
 LoopT (σ := Int) (fun next1 s1 H1 =>
 Br (decide (s1 < (a_.len : Int))) (
 IxA 2 a_ s1 fun a1 =>
 Ld .sl (a1.add 1) H1 fun (x1 : Sl) =>
 IxA 2 b_ s1 fun a2 =>
 Ld .sl (a2.add 1) H1 fun (x2 : Sl) =>
 CallT Pg f_L_numbers [slV x1, slV x2] (.one (.c .bool)) H1 fun (r1 : Bool) H2 =>
 Jn (σ := Bool) (fun kk1 =>
 Br (!r1) (
 kk1 true H2) (
 IxA 2 a_ s1 fun a3 =>
 Ld (.int .i64) a3 H2 fun (x3 : Int) =>
 IxA 2 b_ s1 fun a4 =>
 Ld (.int .i64) a4 H2 fun (x4 : Int) =>
 kk1 (x3 != x4) H2)) fun j1 H3 =>
 Br j1 (
 k false H3) (
 Lt (IntKind.wrap .i64 (s1 + 1)) fun t1 =>
 next1 t1 H3)) (
 k true H1)) 0 H)
def h_L_parts : Hint := (.two .no (.two .no (.two (.two .no (.one (.loop [(5, (.c (.int .i64)))] (.two .no (.two (.one (.two .no (.two (.join [(43, (.c .bool))] .no) .no))) .no))))) .no)))
theorem c_L_parts (a_ : Sl) (b_ : Sl) {H : Heap} {k : Bool → Heap → Prop} (h : v_L_parts a_ b_ H k) : CallT Pg f_L_parts [slV a_, slV b_] (.one (.c .bool)) H k :=
 call_of_E (h := h_L_parts) Pg_mixed Tryz.func36 (by kernel_rfl) (by kernel_rfl) (by kernel_rfl) (by kernel_rfl) (Eq.mpr (by kernel_rfl) h)
def v_L_numbers (a_ : Sl) (b_ : Sl) (H : Heap) (k : Bool → Heap → Prop) : Prop :=
 Br ((a_.len : Int) != (b_.len : Int)) (
 k false H) (
 LoopT (σ := Int) (fun next1 s1 H1 =>
 Br (decide (s1 < (a_.len : Int))) (
 IxA 1 a_ s1 fun a1 =>
 Ld (.int .i64) a1 H1 fun (x1 : Int) =>
 IxA 1 b_ s1 fun a2 =>
 Ld (.int .i64) a2 H1 fun (x2 : Int) =>
 Br (x1 != x2) (
 k false H1) (
 Lt (IntKind.wrap .i64 (s1 + 1)) fun t1 =>
 next1 t1 H1)) (
 k true H1)) 0 H)
def h_L_numbers : Hint := (.two .no (.two .no (.two (.two .no (.one (.loop [(5, (.c (.int .i64)))] .no))) .no)))
theorem c_L_numbers (a_ : Sl) (b_ : Sl) {H : Heap} {k : Bool → Heap → Prop} (h : v_L_numbers a_ b_ H k) : CallT Pg f_L_numbers [slV a_, slV b_] (.one (.c .bool)) H k :=
 call_of_E (h := h_L_numbers) Pg_mixed Tryz.func37 (by kernel_rfl) (by kernel_rfl) (by kernel_rfl) (by kernel_rfl) (Eq.mpr (by kernel_rfl) h)
end
section
open Hc Hc.Vf Hc.Mc Hc.Dice
variable {H : Heap}
instance : Inhabited CmP := ⟨⟨0, (0, 0), 0, ⟨none, 0, 0⟩, [], ⟨none, 0, 0⟩, []⟩⟩
structure Outc where
  vals : List Pt
  cmds : List Cm
  evs : List Ev
  st : Int
  er : Int
def partsP (vals : List Pt) (ks : List Int) : List Pt := ks.filterMap fun k => vals.find? fun p => p.kind == k
theorem partsOf_pt (q : List PtP) (ks : List Int) : (partsOf q ks).map PtP.pt = partsP (q.map PtP.pt) ks := by
  unfold partsOf partsP
  rw [List.map_filterMap]
  congr 1
  funext k
  rw [List.find?_map]
  rfl
abbrev sortU (l : List Int) : List Int := Lib.compact (l.mergeSort fun a b => decide (a ≤ b))
def IsOut (P : MP) (E : En) (m0 : Ms) (o : Outc) : Prop :=
  (∃ N m', Runs P E m0 N 0 m' ∧ o = ⟨partsP m'.vals (sortU P.writes), m'.cmds, m'.evs, m'.steps, 0⟩) ∨ ∃ N er m', er ≠ 0 ∧ Runs P E m0 N er m' ∧ o = ⟨[], [], [], m'.steps, er⟩
theorem IsOut.unique {P : MP} {E : En} {m0 : Ms} {o o' : Outc} (h : IsOut P E m0 o) (h' : IsOut P E m0 o') : o = o' := by
  rcases h with ⟨N, m, h, rfl⟩ | ⟨N, er, m, hne, h, rfl⟩ <;> rcases h' with ⟨N', m', h', rfl⟩ | ⟨N', er', m', hne', h', rfl⟩
  · obtain ⟨_, _, rfl⟩ := h.unique h'; rfl
  · exact absurd (h.unique h').2.1.symm hne'
  · exact absurd (h.unique h').2.1 hne
  · obtain ⟨_, rfl, rfl⟩ := h.unique h'; rfl
def OutIs (lim : Int) (ss : List Sy) (fs : List Rou) (n : Int) (E : En) (parts : List Pt) (o : Outc) : Prop :=
  if 0 ≤ n ∧ n < (ss.length : Int) then IsOut ⟨fs.map fnOf, fnOf (ss[n.toNat]!).rou, (ss[n.toNat]!).l 2, (ss[n.toNat]!).l 3, n, lim⟩ E (initM ⟨fs.map fnOf, fnOf (ss[n.toNat]!).rou, (ss[n.toNat]!).l 2, (ss[n.toNat]!).l 3, n, lim⟩ E parts) o
  else o = ⟨[], [], [], 0, 190⟩
theorem OutIs.unique {lim : Int} {ss : List Sy} {fs : List Rou} {n : Int} {E : En} {parts : List Pt} {o o' : Outc} (h : OutIs lim ss fs n E parts o) (h' : OutIs lim ss fs n E parts o') : o = o' := by
  unfold OutIs at h h'
  split at h
  · rw [if_pos ‹_›] at h'; exact h.unique h'
  · rw [if_neg ‹_›] at h'; rw [h, h']
abbrev OutS := Sl × Sl × Sl × Int × Int
structure OutRd (H : Heap) (r : OutS) (o : Outc) (ps : List PtP) (cl : List CmP) : Prop where
  vv : RN ptV 2 H r.1 ps
  vR : ∀ q ∈ ps, RL (Value.int .i64) H q.sl q.vals
  cv : RN cmV 6 H r.2.1 cl
  cR : ∀ q ∈ cl, RL (Value.int .i64) H q.vsl q.vals ∧ RN ptV 2 H q.psl q.parts ∧ ∀ p ∈ q.parts, RL (Value.int .i64) H p.sl p.vals
  ev : RN evV 5 H r.2.2.1 o.evs
  vals : ps.map PtP.pt = o.vals
  cmds : cl.map CmP.cm = o.cmds
  st : r.2.2.2.1 = o.st
  er : r.2.2.2.2 = o.er
theorem OutRd.ext {H' : Heap} {r : OutS} {o : Outc} {ps : List PtP} {cl : List CmP} (h : OutRd H r o ps cl) (hE : Ext H H') : OutRd H' r o ps cl :=
  ⟨h.vv.ext hE, fun q hq => (h.vR q hq).ext hE, h.cv.ext hE, fun q hq => ⟨(h.cR q hq).1.ext hE, (h.cR q hq).2.1.ext hE, fun p hp => ((h.cR q hq).2.2 p hp).ext hE⟩, h.ev.ext hE, h.vals, h.cmds, h.st, h.er⟩
structure OutM (lo : Nat) (H : Heap) (r : OutS) (o : Outc) (ps : List PtP) (cl : List CmP) : Prop where
  out : OutR lo H r.1 r.2.1 r.2.2.1 ps cl o.evs
  vals : ps.map PtP.pt = o.vals
  cmds : cl.map CmP.cm = o.cmds
  st : r.2.2.2.1 = o.st
  er : r.2.2.2.2 = o.er
theorem OutM.rd {lo : Nat} {r : OutS} {o : Outc} {ps : List PtP} {cl : List CmP} (h : OutM lo H r o ps cl) : OutRd H r o ps cl :=
  ⟨VecN.rn ptV_len (by decide) h.out.vv, fun q hq => (h.out.vR q hq).rl, VecN.rn cmV_len (by decide) h.out.cv, fun q hq => ⟨(h.out.cR q hq).1.rl, VecN.rn ptV_len (by decide) (h.out.cR q hq).2.1, fun p hp => ((h.out.cR q hq).2.2 p hp).rl⟩, VecN.rn evV_len (by decide) h.out.ev, h.vals, h.cmds, h.st, h.er⟩
theorem OutM.upd {lo : Nat} {H' : Heap} {M : Nat → Prop} {r : OutS} {o : Outc} {ps : List PtP} {cl : List CmP} (h : OutM lo H r o ps cl) (hU : Upd M H H') (hM : ∀ b, lo ≤ b → b < H.size → ¬ M b) : OutM lo H' r o ps cl := by
  have hn := h.out.new
  have key : ∀ {T : TypeId} {m : Nat} {s : Sl} {vs : List Value}, s ∈ r.1 :: r.2.1 :: r.2.2.1 :: (ps.map PtP.sl ++ cl.flatMap cmSl ++ cl.map CmP.psl) → VecN H T m s vs → VecN H' T m s vs := fun hm hv => hv.upd hU fun b hb => hM b (hn _ hm b hb) (hv.lt hb)
  have key1 : ∀ {T : TypeId} {s : Sl} {vs : List Value}, s ∈ r.1 :: r.2.1 :: r.2.2.1 :: (ps.map PtP.sl ++ cl.flatMap cmSl ++ cl.map CmP.psl) → Vec H T s vs → Vec H' T s vs := fun hm hv => hv.upd hU fun b hb => hM b (hn _ hm b hb) (hv.lt hb)
  refine ⟨⟨key (by simp) h.out.vv, fun q hq => key1 ?_ (h.out.vR q hq), key (by simp) h.out.cv, fun q hq => ⟨key1 ?_ (h.out.cR q hq).1, key ?_ (h.out.cR q hq).2.1, fun p hp => key1 ?_ ((h.out.cR q hq).2.2 p hp)⟩, key (by simp) h.out.ev, h.out.ap, h.out.pa, hn⟩, h.vals, h.cmds, h.st, h.er⟩
  · simp only [List.mem_cons, List.mem_append]
    exact .inr (.inr (.inr (.inl (.inl (List.mem_map.2 ⟨q, hq, rfl⟩)))))
  · simp only [List.mem_cons, List.mem_append]
    exact .inr (.inr (.inr (.inl (.inr (List.mem_flatMap.2 ⟨q, hq, List.mem_cons_self⟩)))))
  · simp only [List.mem_cons, List.mem_append]
    exact .inr (.inr (.inr (.inr (List.mem_map.2 ⟨q, hq, rfl⟩))))
  · simp only [List.mem_cons, List.mem_append]
    exact .inr (.inr (.inr (.inl (.inr (List.mem_flatMap.2 ⟨q, hq, List.mem_cons_of_mem _ (List.mem_map.2 ⟨p, hp, rfl⟩)⟩)))))
theorem OutM.nil (lo : Nat) (H : Heap) (st er : Int) : OutM lo H (⟨none, 0, 0⟩, ⟨none, 0, 0⟩, ⟨none, 0, 0⟩, st, er) ⟨[], [], [], st, er⟩ [] [] :=
  ⟨⟨VecN.nil _ _ _, (fun q h => by cases h), VecN.nil _ _ _, (fun q h => by cases h), VecN.nil _ _ _, .nil, by simp, fun s hs b hb => by
    simp only [List.map_nil, List.flatMap_nil, List.append_nil, List.mem_cons, List.not_mem_nil, or_false] at hs
    rcases hs with rfl | rfl | rfl <;> cases hb⟩, rfl, rfl, rfl, rfl⟩
abbrev BoolR : RTy := .one (.c .bool)
theorem s_numbers {a b : Sl} {xs : List Int} (ha : RL (Value.int .i64) H a xs) (hb : RL (Value.int .i64) H b xs) (hl : xs.length ≤ 2 ^ 60) {k : Bool → Heap → Prop} (hk : k true H) : CallT Pg f_L_numbers [.slice a.a a.len a.cap, .slice b.a b.len b.cap] BoolR H k := by
  refine c_L_numbers _ _ ?_
  unfold v_L_numbers
  have h1 := ha.len
  have h2 := hb.len
  have e : ((a.len : Int) != (b.len : Int)) = false := by rw [h1, h2]; simp
  rw [e, Br_false]
  refine LoopT.mk (fun i H' => H = H' ∧ ∃ n : Nat, i = n ∧ n ≤ xs.length) (fun i _ => xs.length - i.toNat) ⟨rfl, 0, rfl, Nat.zero_le _⟩ ?_
  rintro next _ _ ⟨rfl, n, rfl, hn⟩ hnext
  refine Br_dec (fun hlt => ?_) fun _ => hk
  have hn2 : n < xs.length := by omega
  refine IxA_rl ha rfl hn2 fun a1 g1 => Ld_int (n := xs[n]) g1 (IxA_rl hb rfl hn2 fun a2 g2 => Ld_int (n := xs[n]) g2 ?_)
  have e2 : (xs[n] != xs[n]) = false := by simp
  rw [e2, Br_false]
  exact Lt.mk (u := ((n + 1 : Nat) : Int)) (by rw [wrap_i64_id] <;> omega) (hnext _ _ ⟨rfl, n + 1, rfl, hn2⟩ (by omega))
theorem pt_get {ps qs : List PtP} (h : ps.map PtP.pt = qs.map PtP.pt) {n : Nat} (h1 : n < ps.length) (h2 : n < qs.length) : ps[n].kind = qs[n].kind ∧ ps[n].vals = qs[n].vals := by
  have e : (ps.map PtP.pt)[n]? = (qs.map PtP.pt)[n]? := by rw [h]
  rw [List.getElem?_map, List.getElem?_map, List.getElem?_eq_getElem h1, List.getElem?_eq_getElem h2] at e
  simp only [Option.map_some, Option.some.injEq, Pt.mk.injEq] at e
  exact e
theorem s_parts {a b : Sl} {ps qs : List PtP} (ha : RN ptV 2 H a ps) (hb : RN ptV 2 H b qs) (hpa : ∀ q ∈ ps, RL (Value.int .i64) H q.sl q.vals ∧ q.vals.length ≤ 2 ^ 60) (hpb : ∀ q ∈ qs, RL (Value.int .i64) H q.sl q.vals) (he : ps.map PtP.pt = qs.map PtP.pt) (hl : ps.length ≤ 2 ^ 60) {k : Bool → Heap → Prop} (hk : k true H) :
    CallT Pg f_L_parts [.slice a.a a.len a.cap, .slice b.a b.len b.cap] BoolR H k := by
  refine c_L_parts _ _ ?_
  unfold v_L_parts
  have h1 := ha.len
  have h2 := hb.len
  have h3 := map_len he
  have e : ((a.len : Int) != (b.len : Int)) = false := by rw [h1, h2, h3]; simp
  rw [e, Br_false]
  refine LoopT.mk (fun i H' => H = H' ∧ ∃ n : Nat, i = n ∧ n ≤ ps.length) (fun i _ => ps.length - i.toNat) ⟨rfl, 0, rfl, Nat.zero_le _⟩ ?_
  rintro next _ _ ⟨rfl, n, rfl, hn⟩ hnext
  refine Br_dec (fun hlt => ?_) fun _ => hk
  have hn2 : n < ps.length := by omega
  have hn3 : n < qs.length := by omega
  obtain ⟨e1, e2⟩ := pt_get he hn2 hn3
  have ga : ∀ {k : Addr → Prop}, (∀ a', hcells H a' 0 (ptV ps[n]) → k a') → IxA 2 a (n : Nat) k := fun hk => IxA_rn' ptV_len ha (by decide) rfl hn2 fun a' g => hk a' (by rw [getElem!_pos ps n hn2] at g; exact g)
  have gb : ∀ {k : Addr → Prop}, (∀ a', hcells H a' 0 (ptV qs[n]) → k a') → IxA 2 b (n : Nat) k := fun hk => IxA_rn' ptV_len hb (by decide) rfl hn3 fun a' g => hk a' (by rw [getElem!_pos qs n hn3] at g; exact g)
  refine ga fun a1 g1 => Ld_sl (s := ps[n].sl) g1.2.1 (gb fun a2 g2 => Ld_sl (s := qs[n].sl) g2.2.1 ?_)
  have hv := hpb _ (List.getElem_mem hn3)
  rw [← e2] at hv
  refine s_numbers (hpa _ (List.getElem_mem hn2)).1 hv (hpa _ (List.getElem_mem hn2)).2 ?_
  refine Jn.mk (fun j H' => H = H' ∧ j = false) (fun kk hkk => ?_) ?_
  · rw [Bool.not_true, Br_false]
    refine ga fun a1 g1 => Ld_int (n := ps[n].kind) g1.1 (gb fun a2 g2 => Ld_int (n := qs[n].kind) g2.1 (hkk _ _ ⟨rfl, by rw [e1]; simp⟩))
  · rintro j _ ⟨rfl, rfl⟩
    rw [Br_false]
    exact Lt.mk (u := ((n + 1 : Nat) : Int)) (by rw [wrap_i64_id] <;> omega) (hnext _ _ ⟨rfl, n + 1, rfl, hn2⟩ (by omega))
structure OutSm (o : Outc) (ps : List PtP) (cl : List CmP) : Prop where
  h_ps : ps.length ≤ 2 ^ 60
  h_pv : ∀ q ∈ ps, q.vals.length ≤ 2 ^ 60
  h_cl : cl.length ≤ 2 ^ 60
  h_cv : ∀ q ∈ cl, q.vals.length ≤ 2 ^ 60 ∧ q.parts.length ≤ 2 ^ 60 ∧ ∀ p ∈ q.parts, p.vals.length ≤ 2 ^ 60
  h_ev : o.evs.length ≤ 2 ^ 60
theorem cm_get {cl dl : List CmP} (h : cl.map CmP.cm = dl.map CmP.cm) {n : Nat} (h1 : n < cl.length) (h2 : n < dl.length) : cl[n].op = dl[n].op ∧ cl[n].e = dl[n].e ∧ cl[n].kind = dl[n].kind ∧ cl[n].vals = dl[n].vals ∧ cl[n].parts.map PtP.pt = dl[n].parts.map PtP.pt := by
  have e : (cl.map CmP.cm)[n]? = (dl.map CmP.cm)[n]? := by rw [h]
  rw [List.getElem?_map, List.getElem?_map, List.getElem?_eq_getElem h1, List.getElem?_eq_getElem h2] at e
  simp only [Option.map_some, Option.some.injEq, Cm.mk.injEq] at e
  exact e
theorem s_same {a b : OutS} {o : Outc} {ps qs : List PtP} {cl dl : List CmP} (ha : OutRd H a o ps cl) (hb : OutRd H b o qs dl) (hs : OutSm o ps cl) {k : Bool → Heap → Prop} (hk : ∀ H', Ext H H' → k true H') :
    CallT Pg f_L_same [.agg #[.slice a.1.a a.1.len a.1.cap, .slice a.2.1.a a.2.1.len a.2.1.cap, .slice a.2.2.1.a a.2.2.1.len a.2.2.1.cap, .int .i64 a.2.2.2.1, .int .i64 a.2.2.2.2], .agg #[.slice b.1.a b.1.len b.1.cap, .slice b.2.1.a b.2.1.len b.2.1.cap, .slice b.2.2.1.a b.2.2.1.len b.2.2.1.cap, .int .i64 b.2.2.2.1, .int .i64 b.2.2.2.2]] BoolR H k := by
  refine c_L_same a b ?_
  unfold v_L_same
  have hps : ps.map PtP.pt = qs.map PtP.pt := ha.vals.trans hb.vals.symm
  have hcm : cl.map CmP.cm = dl.map CmP.cm := ha.cmds.trans hb.cmds.symm
  have hcl : cl.length = dl.length := by have := congrArg List.length hcm; simpa using this
  refine Nw_row (vs := [slV a.1, slV a.2.1, slV a.2.2.1, .int .i64 a.2.2.2.1, .int .i64 a.2.2.2.2]) fun b1 H1 hb1 hE1 _ hr1 => ?_
  refine Nw_row (vs := [slV b.1, slV b.2.1, slV b.2.2.1, .int .i64 b.2.2.2.1, .int .i64 b.2.2.2.2]) fun b2 H2 hb2 hE2 _ hr2 => ?_
  have hE02 := hE1.trans hE2 fun _ _ h => h
  have hr1 := hE2.row hr1 fun h => h
  have ha2 := ha.ext hE02
  have hb2' := hb.ext hE02
  simp only [adr_add]
  refine Ld_sl (s := a.1) ((hr1.cell 0).trans rfl) (Ld_sl (s := b.1) ((hr2.cell 0).trans rfl) ?_)
  refine s_parts ha2.vv hb2'.vv (fun q hq => ⟨ha2.vR q hq, hs.h_pv q hq⟩) hb2'.vR hps hs.h_ps ?_
  have e1 : (a.2.2.2.1 != b.2.2.2.1) = false := by rw [ha.st, hb.st]; simp
  have e2 : (a.2.2.2.2 != b.2.2.2.2) = false := by rw [ha.er, hb.er]; simp
  have l1 := ha.cv.len
  have l2 := hb.cv.len
  have l3 := ha.ev.len
  have l4 := hb.ev.len
  have e3 : ((a.2.1.len : Int) != (b.2.1.len : Int)) = false := by rw [l1, l2, hcl]; simp
  have e4 : ((a.2.2.1.len : Int) != (b.2.2.1.len : Int)) = false := by rw [l3, l4]; simp
  refine Jn.mk (fun j H' => H2 = H' ∧ j = false) (fun kk hkk => ?_) ?_
  · rw [Bool.not_true, Br_false]
    refine Ld_int (n := a.2.2.2.1) ((hr1.cell 3).trans rfl) (Ld_int (n := b.2.2.2.1) ((hr2.cell 3).trans rfl) ?_)
    rw [e1, Br_false]
    refine Ld_int (n := a.2.2.2.2) ((hr1.cell 4).trans rfl) (Ld_int (n := b.2.2.2.2) ((hr2.cell 4).trans rfl) ?_)
    rw [e2, Br_false]
    refine Ld_sl (s := a.2.1) ((hr1.cell 1).trans rfl) (Ld_sl (s := b.2.1) ((hr2.cell 1).trans rfl) ?_)
    rw [e3, Br_false]
    refine Ld_sl (s := a.2.2.1) ((hr1.cell 2).trans rfl) (Ld_sl (s := b.2.2.1) ((hr2.cell 2).trans rfl) ?_)
    rw [e4]
    exact hkk _ _ ⟨rfl, rfl⟩
  rintro j _ ⟨rfl, rfl⟩
  rw [Br_false]
  have ca : ∀ {H'}, Ext H2 H' → Row H' b1 T_api_Outcome [slV a.1, slV a.2.1, slV a.2.2.1, .int .i64 a.2.2.2.1, .int .i64 a.2.2.2.2] := fun h => h.row hr1 fun h => h
  have cb : ∀ {H'}, Ext H2 H' → Row H' b2 T_api_Outcome [slV b.1, slV b.2.1, slV b.2.2.1, .int .i64 b.2.2.2.1, .int .i64 b.2.2.2.2] := fun h => h.row hr2 fun h => h
  have hscl := hs.h_cl
  have hsev := hs.h_ev
  refine LoopT.mk (fun i H' => Ext H2 H' ∧ ∃ n : Nat, i = n ∧ n ≤ cl.length) (fun i _ => cl.length - i.toNat) ⟨.refl _ _, 0, rfl, Nat.zero_le _⟩ ?_
  rintro next _ H5 ⟨hE5, n, rfl, hn⟩ hnext
  refine Ld_sl (s := a.2.1) (((ca hE5).cell 1).trans rfl) (Br_dec (fun hlt => ?_) fun hge => ?_)
  · have hn2 : n < cl.length := by omega
    have hn3 : n < dl.length := by omega
    obtain ⟨g1, g2, g3, g4, g5⟩ := cm_get hcm hn2 hn3
    generalize hq : cl[n] = q at *
    generalize hd : dl[n] = d at *
    have hqm : q ∈ cl := by rw [← hq]; exact List.getElem_mem _
    have hdm : d ∈ dl := by rw [← hd]; exact List.getElem_mem _
    refine Ld_sl (s := a.2.1) (((ca hE5).cell 1).trans rfl) (IxA_rn' cmV_len ha2.cv (by decide) rfl hn2 fun a1 ha1 => ?_)
    rw [getElem!_pos cl n hn2, hq] at ha1
    refine ⟨(q.op, q.e.1, q.e.2, q.kind, q.vsl, q.psl), hcells_ext hE5 ha1, ?_⟩
    refine Nw_row (vs := [.int .i64 0, .int .i64 0, .int .i64 0, .int .i64 0, .slice none 0 0, .slice none 0 0]) fun b3 H6 hb3 hE6 _ hr3 => ?_
    refine St_row hr3 (by simp) fun G1 hU1 _ hg1 => St_row hg1 (by simp) fun G2 hU2 _ hg2 => St_row hg2 (by simp) fun G3 hU3 _ hg3 => St_row hg3 (by simp) fun G4 hU4 _ hg4 => St_row hg4 (by simp) fun G5 hU5 _ hg5 => St_row hg5 (by simp) fun G6 hU6 _ hg6 => ?_
    have hg6 : Row G6 b3 T_api_Command (cmV q) := hg6
    have hUG : Upd (· = b3) H6 G6 := ((((hU1.trans hU2 fun _ _ e => e).trans hU3 fun _ _ e => e).trans hU4 fun _ _ e => e).trans hU5 fun _ _ e => e).trans hU6 fun _ _ e => e
    have hz5 := hE5.size
    have hEG : Ext H2 G6 := extUpd (hE5.trans hE6 fun _ _ h => h) (by omega) hUG
    have hzG := hEG.size
    refine Ld_sl (s := b.2.1) (((cb hEG).cell 1).trans rfl) (IxA_rn' cmV_len hb2'.cv (by decide) rfl hn3 fun a2 ha2' => ?_)
    rw [getElem!_pos dl n hn3, hd] at ha2'
    refine ⟨(d.op, d.e.1, d.e.2, d.kind, d.vsl, d.psl), hcells_ext hEG ha2', ?_⟩
    refine Nw_row (vs := [.int .i64 0, .int .i64 0, .int .i64 0, .int .i64 0, .slice none 0 0, .slice none 0 0]) fun b4 H7 hb4 hE7 _ hr4 => ?_
    refine St_row hr4 (by simp) fun K1 hV1 _ hk1 => St_row hk1 (by simp) fun K2 hV2 _ hk2 => St_row hk2 (by simp) fun K3 hV3 _ hk3 => St_row hk3 (by simp) fun K4 hV4 _ hk4 => St_row hk4 (by simp) fun K5 hV5 _ hk5 => St_row hk5 (by simp) fun K6 hV6 _ hk6 => ?_
    have hk6 : Row K6 b4 T_api_Command (cmV d) := hk6
    have hVK : Upd (· = b4) H7 K6 := ((((hV1.trans hV2 fun _ _ e => e).trans hV3 fun _ _ e => e).trans hV4 fun _ _ e => e).trans hV5 fun _ _ e => e).trans hV6 fun _ _ e => e
    have hEK : Ext H2 K6 := extUpd (hEG.trans hE7 fun _ _ h => h) (by omega) hVK
    have hk3' : Row K6 b3 T_api_Command (cmV q) := hVK.row (hE7.row hg6 fun h => h) fun e => by have := hg6.lt; omega
    refine Ld_sl (s := q.vsl) ((hk3'.cell 4).trans rfl) (Ld_sl (s := d.vsl) ((hk6.cell 4).trans rfl) ?_)
    have hv := (hb2'.cR d hdm).1.ext hEK
    rw [← g4] at hv
    refine s_numbers ((ha2.cR q hqm).1.ext hEK) hv (hs.h_cv q hqm).1 ?_
    refine Ld_sl (s := q.psl) ((hk3'.cell 5).trans rfl) (Ld_sl (s := d.psl) ((hk6.cell 5).trans rfl) ?_)
    refine s_parts ((ha2.cR q hqm).2.1.ext hEK) ((hb2'.cR d hdm).2.1.ext hEK) (fun p hp => ⟨((ha2.cR q hqm).2.2 p hp).ext hEK, (hs.h_cv q hqm).2.2 p hp⟩) (fun p hp => ((hb2'.cR d hdm).2.2 p hp).ext hEK) g5 (hs.h_cv q hqm).2.1 ?_
    refine Jn.mk (fun j H' => K6 = H' ∧ j = false) (fun kk hkk => ?_) ?_
    · rw [Bool.not_true, Br_false, Br_false]
      refine Ld_int (n := q.op) ((hk3'.cell 0).trans rfl) (Ld_int (n := d.op) ((hk6.cell 0).trans rfl) ?_)
      have x1 : (q.op != d.op) = false := by rw [g1]; simp
      rw [x1, Br_false]
      refine ⟨(q.e.1, q.e.2), ⟨(hk3'.cell 1).trans rfl, (hk3'.cell 2).trans rfl, trivial⟩, ⟨(d.e.1, d.e.2), ⟨(hk6.cell 1).trans rfl, (hk6.cell 2).trans rfl, trivial⟩, ?_⟩⟩
      dsimp only
      have x2 : eqL [(.int .i64), (.int .i64)] (q.e.1, q.e.2) (d.e.1, d.e.2) = true := by rw [g2]; simp [eqL, eqT]
      rw [x2, Bool.not_true, Br_false]
      refine Ld_int (n := q.kind) ((hk3'.cell 3).trans rfl) (Ld_int (n := d.kind) ((hk6.cell 3).trans rfl) (hkk _ _ ⟨rfl, by rw [g3]; simp⟩))
    · rintro j _ ⟨rfl, rfl⟩
      rw [Br_false]
      exact Lt.mk (u := ((n + 1 : Nat) : Int)) (by rw [wrap_i64_id] <;> omega) (hnext _ _ ⟨hEK, n + 1, rfl, hn2⟩ (by omega))
  · refine LoopT.mk (fun i H' => H5 = H' ∧ ∃ n : Nat, i = n ∧ n ≤ o.evs.length) (fun i _ => o.evs.length - i.toNat) ⟨rfl, 0, rfl, Nat.zero_le _⟩ ?_
    rintro next2 _ _ ⟨rfl, n2, rfl, hn2⟩ hnext2
    refine Ld_sl (s := a.2.2.1) (((ca hE5).cell 2).trans rfl) (Br_dec (fun hlt => ?_) fun _ => hk _ (hE02.trans hE5 fun _ _ h => h))
    have hn3 : n2 < o.evs.length := by omega
    refine Ld_sl (s := a.2.2.1) (((ca hE5).cell 2).trans rfl) (IxA_rn' evV_len ha2.ev (by decide) rfl hn3 fun a3 ha3 => ?_)
    rw [getElem!_pos o.evs n2 hn3] at ha3
    refine ⟨(o.evs[n2].sys, o.evs[n2].e.1, o.evs[n2].e.2, o.evs[n2].code, o.evs[n2].val), hcells_ext hE5 ha3, ?_⟩
    refine Ld_sl (s := b.2.2.1) (((cb hE5).cell 2).trans rfl) (IxA_rn' evV_len hb2'.ev (by decide) rfl hn3 fun a4 ha4 => ?_)
    rw [getElem!_pos o.evs n2 hn3] at ha4
    refine ⟨(o.evs[n2].sys, o.evs[n2].e.1, o.evs[n2].e.2, o.evs[n2].code, o.evs[n2].val), hcells_ext hE5 ha4, ?_⟩
    dsimp only
    have x2 : eqL [(.int .i64), (.int .i64), (.int .i64), (.int .i64), (.int .i64)] (o.evs[n2].sys, o.evs[n2].e.1, o.evs[n2].e.2, o.evs[n2].code, o.evs[n2].val) (o.evs[n2].sys, o.evs[n2].e.1, o.evs[n2].e.2, o.evs[n2].code, o.evs[n2].val) = true := by simp [eqL, eqT]
    rw [x2, Bool.not_true, Br_false]
    exact Lt.mk (u := ((n2 + 1 : Nat) : Int)) (by rw [wrap_i64_id] <;> omega) (hnext2 _ _ ⟨rfl, n2 + 1, rfl, hn3⟩ (by omega))
end
section
open Hc Hc.Vf Hc.Mc Hc.Dice
variable {H : Heap}
theorem runs_ok {P : MP} {E : En} (hP : POk P) (hE : EOk E) (Q : Ms → Prop) (hs : ∀ m i, MOk P m → Rdy P m i → Q m → Q (does P E m i).2) {m m' : Ms} {N : Nat} {er : Int} (h : Runs P E m N er m') (he : er = 0) (hM : MOk P m) (h0 : Q m) : Q m' := by
  induction h with
  | over _ => exact h0
  | bad _ hne => exact absurd he hne
  | step ho h1 _ ih =>
    rename_i m _ _ _ _
    have hrdy : ready P m = 0 := by
      unfold stepM at h1
      split at h1
      · assumption
      · rename_i hne; exact absurd h1 hne
    have hst : stepM P E m = does P E m m.top.fn.code[m.top.nx.toNat]! := by unfold stepM; rw [if_pos hrdy]
    have hR := ready_iff hrdy
    rw [hst] at h1 ih
    refine ih he ?_ (hs m _ hM hR h0)
    rcases hM.does hP hE hR with ⟨_, hmo⟩ | ⟨h120, _⟩
    · exact hmo
    · rw [h1] at h120; cases h120
def SmM (m : Ms) : Prop := (∀ p ∈ m.kept, p.vals.length ≤ 64) ∧ ∀ c ∈ m.cmds, c.vals.length ≤ 64 ∧ c.parts.length ≤ 12 ∧ ∀ p ∈ c.parts, p.vals.length ≤ 64
theorem sm_does {P : MP} {E : En} {m : Ms} {i : Ins} (hM : MOk P m) (h : SmM m) : SmM (does P E m i).2 := by
  have hl : (args m (takes P.ps i).toNat).length ≤ 64 := by
    unfold args
    rw [List.length_drop]
    have := hM.top.stk
    omega
  unfold does
  dsimp only
  split
  · exact h
  split
  · exact h
  generalize args m (takes P.ps i).toNat = l at *
  have hk : SmM (cut m (takes P.ps i).toNat) := h
  have add : ∀ c : Cm, (c.vals.length ≤ 64 ∧ c.parts.length ≤ 12 ∧ ∀ p ∈ c.parts, p.vals.length ≤ 64) → ∀ d ∈ m.cmds ++ [c], d.vals.length ≤ 64 ∧ d.parts.length ≤ 12 ∧ ∀ p ∈ d.parts, p.vals.length ≤ 64 := fun c hc d hd => by
    rcases List.mem_append.1 hd with hd | hd
    · exact h.2 d hd
    · rw [List.mem_singleton.1 hd]; exact hc
  unfold act
  split
  case h_7 => dsimp only; split <;> exact h
  case h_8 => split <;> exact h
  case h_11 => split <;> exact h
  case h_13 =>
    refine ⟨fun p hp => ?_, h.2⟩
    rcases List.mem_append.1 hp with hp | hp
    · exact h.1 p hp
    · rw [List.mem_singleton.1 hp]; exact hl
  case h_14 =>
    have hp := rise_len hM.keptK
    exact ⟨fun p hp => (by cases hp), add _ ⟨Nat.zero_le _, by have := hp.length_eq; have := hM.kept; dsimp only; omega, fun p hpp => h.1 p (hp.subset hpp)⟩⟩
  case h_15 => exact ⟨h.1, add _ ⟨hl, Nat.zero_le _, fun p hp => (by cases hp)⟩⟩
  case h_16 => exact ⟨h.1, add _ ⟨Nat.zero_le _, Nat.zero_le _, fun p hp => (by cases hp)⟩⟩
  case h_17 => exact ⟨h.1, add _ ⟨Nat.zero_le _, Nat.zero_le _, fun p hp => (by cases hp)⟩⟩
  all_goals exact h
theorem s_RunG {p : Sl × Sl} {ss : List Sy} {fs : List Rou} {e : EnV} {ins : List (Int × Int × Int)} {ps0 : List PtP} (hss : RN sysV 8 H p.1 ss) {n : Int} (hi : 0 ≤ n ∧ n < (ss.length : Int) → RunIn H p ss n e ps0 fs ins) {k : OutS → Heap → Prop}
    (hk : ∀ H' r o vs cl, Ext H H' → OutIs (2 ^ 40) ss fs n (enS e ins) (firsts (ps0.map PtP.pt)) o → OutM H.size H' r o vs cl → k r H') :
    CallT Pg f_machine_Run [prgA p, .int .i64 n, envA e] RunT H k := by
  by_cases hn : 0 ≤ n ∧ n < (ss.length : Int)
  · have r := hi hn
    refine s_Run inputOk (fs := fs) (ins := ins) (ps0 := ps0) r.h_ss hn r.h_cx r.h_co r.h_ps r.h_pr r.h_pl r.h_wl ⟨r.h_P.fns, r.h_P.sys⟩ r.h_E (fun H' N er m' h hr hne => hk _ _ _ _ _ h ((if_pos hn).mpr (.inr ⟨N, er, m', hne, hr, rfl⟩)) (OutM.nil _ _ _ _))
      fun H' N m' vs cs es ps' cl q h hr ho hcm hv hnd hps => hk _ _ _ ps' cl h ((if_pos hn).mpr (.inl ⟨N, m', hr, rfl⟩)) ⟨ho, ?_, hcm.symm, rfl, rfl⟩
    rw [hps, partsOf_pt, ← hv]
  · exact s_Run_no (e := e) hss hn fun H' h => hk _ _ ⟨[], [], [], 0, 190⟩ _ _ h (by unfold OutIs; rw [if_neg hn]) (OutM.nil _ _ _ _)
abbrev outV (r : OutS) : List Value := [slV r.1, slV r.2.1, slV r.2.2.1, .int .i64 r.2.2.2.1, .int .i64 r.2.2.2.2]
abbrev stE (b2 : Nat) (e : EnV) : List (Addr × Value) := [(⟨b2, 0, none⟩, .int .i64 e.fr), (⟨b2, 1, none⟩, .int .i64 e.sd), (⟨b2, 2, none⟩, .int .i64 e.en), (⟨b2, 3, none⟩, .slice e.inS.a e.inS.len e.inS.cap), (⟨b2, 4, none⟩, .int .i64 e.ix), (⟨b2, 5, none⟩, .int .i64 e.gn), (⟨b2, 6, none⟩, .slice e.rp.a e.rp.len e.rp.cap)]
abbrev stP (b1 : Nat) (p : Sl × Sl) : List (Addr × Value) := [(⟨b1, 0, none⟩, .slice p.1.a p.1.len p.1.cap), (⟨b1, 1, none⟩, .slice p.2.a p.2.len p.2.cap)]
theorem st_prog {b1 : Nat} {p : Sl × Sl} (r : Row H b1 T_api_Program [slV p.1, slV p.2]) : ∀ y ∈ stP b1 p, hcell H y.1 = some y.2 := fun y hy => by
  simp only [List.mem_cons, List.not_mem_nil, or_false] at hy
  rcases hy with rfl | rfl
  · exact (r.cell 0).trans rfl
  · exact (r.cell 1).trans rfl
theorem st_env {b2 : Nat} {e : EnV} (r : Row H b2 T_api_Env (envL e)) : ∀ y ∈ stE b2 e, hcell H y.1 = some y.2 := fun y hy => by
  simp only [List.mem_cons, List.not_mem_nil, or_false] at hy
  rcases hy with rfl | rfl | rfl | rfl | rfl | rfl | rfl
  · exact (r.cell 0).trans rfl
  · exact (r.cell 1).trans rfl
  · exact (r.cell 2).trans rfl
  · exact (r.cell 3).trans rfl
  · exact (r.cell 4).trans rfl
  · exact (r.cell 5).trans rfl
  · exact (r.cell 6).trans rfl
theorem st_both {b1 b2 : Nat} {p : Sl × Sl} {e : EnV} (r1 : Row H b1 T_api_Program [slV p.1, slV p.2]) (r2 : Row H b2 T_api_Env (envL e)) : ∀ y ∈ stE b2 e ++ stP b1 p, hcell H y.1 = some y.2 := fun y hy => by
  rcases List.mem_append.1 hy with h | h
  · exact st_env r2 y h
  · exact st_prog r1 y h
end
section
open Hc
abbrev T_Sl_api_Part : TypeId := 29
abbrev T_Sl_int64 : TypeId := 58
abbrev f_L_program : FuncId := 11
abbrev f_L_still : FuncId := 13
abbrev f_L_unspoilt : FuncId := 14
abbrev f_L_marked : FuncId := 16
abbrev f_L_own : FuncId := 17
abbrev f_L_turned : FuncId := 18
abbrev f_L_set : FuncId := 26
abbrev f_L_routine : FuncId := 27
abbrev f_L_alike : FuncId := 33
abbrev f_L_sets : FuncId := 34
abbrev f_L_routines : FuncId := 35
abbrev f_L_wipe : FuncId := 38
def v_L_program (p_ : Sl × Sl) (H : Heap) (k : Sl × Sl → Heap → Prop) : Prop :=
 Nw #[slV p_.1, slV p_.2] T_api_Program H fun b1 H1 =>
 Nw #[.slice none 0 0, .slice none 0 0] T_api_Program H1 fun b2 H2 =>
 Ld .sl (adr b1) H2 fun (x1 : Sl) =>
 Lt (IntKind.wrap .i64 ((x1.len : Int) + 80)) fun t1 =>
 Mks T_api_System 8 152 #[.slice none 0 0, .slice none 0 0, .slice none 0 0, .slice none 0 0, .string ByteArray.empty, .int .i64 0, .int .i64 0, .slice none 0 0] t1 t1 H2 fun l1 H3 =>
 Ld .sl ((adr b1).add 1) H3 fun (x2 : Sl) =>
 Lt (IntKind.wrap .i64 ((x2.len : Int) + 80)) fun t2 =>
 Mks T_api_Routine 4 56 #[.string ByteArray.empty, .int .i64 0, .int .i64 0, .slice none 0 0] t2 t2 H3 fun l2 H4 =>
 LoopT (σ := Int) (fun next1 s1 H5 =>
 Br (decide (s1 < (l1.len : Int))) (
 Jn (σ := Unit) (fun kk1 =>
 IxA 8 l1 s1 fun a1 =>
 St (a1.add 0) (.slice none 0 0) H5 fun H7 =>
 St (a1.add 1) (.slice none 0 0) H7 fun H8 =>
 St (a1.add 2) (.slice none 0 0) H8 fun H9 =>
 St (a1.add 3) (.slice none 0 0) H9 fun H10 =>
 St (a1.add 4) (.string (⟨#[109, 97, 114, 107]⟩ : ByteArray)) H10 fun H11 =>
 St (a1.add 5) (.int .i64 0) H11 fun H12 =>
 St (a1.add 6) (.int .i64 0) H12 fun H13 =>
 St (a1.add 7) (.slice none 0 0) H13 fun H14 =>
 Ld .sl (adr b1) H14 fun (x3 : Sl) =>
 Jn (σ := Unit) (fun kk2 =>
 Br (decide (s1 < (x3.len : Int))) (
 Ld .sl (adr b1) H14 fun (x4 : Sl) =>
 IxA 8 x4 s1 fun a2 =>
 LdC [.sl, .sl, .sl, .sl, .str, (.int .i64), (.int .i64), .sl] a2 H14 fun (c1 : Sl × Sl × Sl × Sl × ByteArray × Int × Int × Sl) =>
 Nw #[.slice none 0 0, .slice none 0 0, .slice none 0 0, .slice none 0 0, .string ByteArray.empty, .int .i64 0, .int .i64 0, .slice none 0 0] T_api_System H14 fun b3 H16 =>
 St ((adr b3).add 0) (slV c1.1) H16 fun H17 =>
 St ((adr b3).add 1) (slV c1.2.1) H17 fun H18 =>
 St ((adr b3).add 2) (slV c1.2.2.1) H18 fun H19 =>
 St ((adr b3).add 3) (slV c1.2.2.2.1) H19 fun H20 =>
 St ((adr b3).add 4) (.string c1.2.2.2.2.1) H20 fun H21 =>
 St ((adr b3).add 5) (.int .i64 c1.2.2.2.2.2.1) H21 fun H22 =>
 St ((adr b3).add 6) (.int .i64 c1.2.2.2.2.2.2.1) H22 fun H23 =>
 St ((adr b3).add 7) (slV c1.2.2.2.2.2.2.2) H23 fun H24 =>
 Ld .sl (adr b3) H24 fun (x5 : Sl) =>
 Ld .sl ((adr b3).add 1) H24 fun (x6 : Sl) =>
 Ld .sl ((adr b3).add 2) H24 fun (x7 : Sl) =>
 Ld .sl ((adr b3).add 3) H24 fun (x8 : Sl) =>
 LdC [.str, (.int .i64), (.int .i64), .sl] ((adr b3).add 4) H24 fun (c2 : ByteArray × Int × Int × Sl) =>
 CallT Pg f_L_set [slV x5] (.one (.c .sl)) H24 fun (r1 : Sl) H25 =>
 Stab [(((adr b3).add 4).add 0, .string c2.1), (((adr b3).add 4).add 1, .int .i64 c2.2.1), (((adr b3).add 4).add 2, .int .i64 c2.2.2.1), (((adr b3).add 4).add 3, slV c2.2.2.2), ((adr b3).add 3, slV x8), ((adr b3).add 2, slV x7), ((adr b3).add 1, slV x6)] H25 <|
 CallT Pg f_L_set [slV x6] (.one (.c .sl)) H25 fun (r2 : Sl) H26 =>
 Stab [(((adr b3).add 4).add 0, .string c2.1), (((adr b3).add 4).add 1, .int .i64 c2.2.1), (((adr b3).add 4).add 2, .int .i64 c2.2.2.1), (((adr b3).add 4).add 3, slV c2.2.2.2), ((adr b3).add 3, slV x8), ((adr b3).add 2, slV x7), (adr b3, slV x5)] H26 <|
 CallT Pg f_L_set [slV x7] (.one (.c .sl)) H26 fun (r3 : Sl) H27 =>
 Stab [(((adr b3).add 4).add 0, .string c2.1), (((adr b3).add 4).add 1, .int .i64 c2.2.1), (((adr b3).add 4).add 2, .int .i64 c2.2.2.1), (((adr b3).add 4).add 3, slV c2.2.2.2), ((adr b3).add 3, slV x8), ((adr b3).add 1, slV x6), (adr b3, slV x5)] H27 <|
 CallT Pg f_L_set [slV x8] (.one (.c .sl)) H27 fun (r4 : Sl) H28 =>
 Stab [(((adr b3).add 4).add 0, .string c2.1), (((adr b3).add 4).add 1, .int .i64 c2.2.1), (((adr b3).add 4).add 2, .int .i64 c2.2.2.1), (((adr b3).add 4).add 3, slV c2.2.2.2), ((adr b3).add 2, slV x7), ((adr b3).add 1, slV x6), (adr b3, slV x5)] H28 <|
 CallT Pg f_L_routine [.agg #[.string c2.1, .int .i64 c2.2.1, .int .i64 c2.2.2.1, slV c2.2.2.2]] (.one (.agg [.str, (.int .i64), (.int .i64), .sl])) H28 fun (r5 : ByteArray × Int × Int × Sl) H29 =>
 Stab [((adr b3).add 3, slV x8), ((adr b3).add 2, slV x7), ((adr b3).add 1, slV x6), (adr b3, slV x5)] H29 <|
 IxA 8 l1 s1 fun a3 =>
 St (a3.add 0) (slV r1) H29 fun H30 =>
 St (a3.add 1) (slV r2) H30 fun H31 =>
 St (a3.add 2) (slV r3) H31 fun H32 =>
 St (a3.add 3) (slV r4) H32 fun H33 =>
 St (a3.add 4) (.string r5.1) H33 fun H34 =>
 St (a3.add 5) (.int .i64 r5.2.1) H34 fun H35 =>
 St (a3.add 6) (.int .i64 r5.2.2.1) H35 fun H36 =>
 St (a3.add 7) (slV r5.2.2.2) H36 fun H37 =>
 kk2 () H37) (
 kk2 () H14)) fun j2 H15 =>
 kk1 () H15) fun j1 H6 =>
 Lt (IntKind.wrap .i64 (s1 + 1)) fun t3 =>
 next1 t3 H6) (
 LoopT (σ := Int) (fun next2 s2 H38 =>
 Br (decide (s2 < (l2.len : Int))) (
 Jn (σ := Unit) (fun kk3 =>
 IxA 4 l2 s2 fun a4 =>
 St (a4.add 0) (.string (⟨#[109, 97, 114, 107]⟩ : ByteArray)) H38 fun H40 =>
 St (a4.add 1) (.int .i64 0) H40 fun H41 =>
 St (a4.add 2) (.int .i64 0) H41 fun H42 =>
 St (a4.add 3) (.slice none 0 0) H42 fun H43 =>
 Ld .sl ((adr b1).add 1) H43 fun (x9 : Sl) =>
 Jn (σ := Unit) (fun kk4 =>
 Br (decide (s2 < (x9.len : Int))) (
 Ld .sl ((adr b1).add 1) H43 fun (x10 : Sl) =>
 IxA 4 x10 s2 fun a5 =>
 LdC [.str, (.int .i64), (.int .i64), .sl] a5 H43 fun (c3 : ByteArray × Int × Int × Sl) =>
 CallT Pg f_L_routine [.agg #[.string c3.1, .int .i64 c3.2.1, .int .i64 c3.2.2.1, slV c3.2.2.2]] (.one (.agg [.str, (.int .i64), (.int .i64), .sl])) H43 fun (r6 : ByteArray × Int × Int × Sl) H45 =>
 IxA 4 l2 s2 fun a6 =>
 St (a6.add 0) (.string r6.1) H45 fun H46 =>
 St (a6.add 1) (.int .i64 r6.2.1) H46 fun H47 =>
 St (a6.add 2) (.int .i64 r6.2.2.1) H47 fun H48 =>
 St (a6.add 3) (slV r6.2.2.2) H48 fun H49 =>
 kk4 () H49) (
 kk4 () H43)) fun j4 H44 =>
 kk3 () H44) fun j3 H39 =>
 Lt (IntKind.wrap .i64 (s2 + 1)) fun t4 =>
 next2 t4 H39) (
 Ld .sl (adr b1) H38 fun (x11 : Sl) =>
 SlA 8 l1 0 (x11.len : Int) (l1.cap : Nat) fun l3 =>
 Ld .sl ((adr b1).add 1) H38 fun (x12 : Sl) =>
 SlA 4 l2 0 (x12.len : Int) (l2.cap : Nat) fun l4 =>
 St ((adr b2).add 0) (slV l3) H38 fun H50 =>
 St ((adr b2).add 1) (slV l4) H50 fun H51 =>
 LdC [.sl, .sl] (adr b2) H51 fun (c4 : Sl × Sl) =>
 k (c4.1, c4.2) H51)) 0 H5)) 0 H4
def h_L_program : Hint := (.two .no (.two .no (.two .no (.two (.two .no (.one (.loop [(5, (.c (.int .i64)))] (.two .no (.two (.join [] (.one (.two .no (.two .no (.join [] .no))))) .no))))) (.two (.two .no (.one (.loop [(7, (.c (.int .i64)))] (.two .no (.two (.join [] (.one (.two .no (.two .no (.join [] .no))))) .no))))) .no)))))
theorem c_L_program (p_ : Sl × Sl) {H : Heap} {k : Sl × Sl → Heap → Prop} (h : v_L_program p_ H k) : CallT Pg f_L_program [.agg #[slV p_.1, slV p_.2]] (.one (.agg [.sl, .sl])) H k :=
 call_of_E (h := h_L_program) Pg_mixed Tryz.func11 (by kernel_rfl) (by kernel_rfl) (by kernel_rfl) (by kernel_rfl) (Eq.mpr (by kernel_rfl) h)
def v_L_still (x_ : Int × Int × Int × Sl × Int × Int × Sl) (e_ : Int × Int × Int × Sl × Int × Int × Sl) (H : Heap) (k : Bool → Heap → Prop) : Prop :=
 Nw #[.int .i64 x_.1, .int .i64 x_.2.1, .int .i64 x_.2.2.1, slV x_.2.2.2.1, .int .i64 x_.2.2.2.2.1, .int .i64 x_.2.2.2.2.2.1, slV x_.2.2.2.2.2.2] T_api_Env H fun b1 H1 =>
 Nw #[.int .i64 e_.1, .int .i64 e_.2.1, .int .i64 e_.2.2.1, slV e_.2.2.2.1, .int .i64 e_.2.2.2.2.1, .int .i64 e_.2.2.2.2.2.1, slV e_.2.2.2.2.2.2] T_api_Env H1 fun b2 H2 =>
 LdC [(.int .i64), (.int .i64), (.int .i64), .sl, (.int .i64), (.int .i64), .sl] (adr b1) H2 fun (c1 : Int × Int × Int × Sl × Int × Int × Sl) =>
 LdC [(.int .i64), (.int .i64), (.int .i64), .sl, (.int .i64), (.int .i64), .sl] (adr b2) H2 fun (c2 : Int × Int × Int × Sl × Int × Int × Sl) =>
 CallT Pg f_L_alike [.agg #[.int .i64 c1.1, .int .i64 c1.2.1, .int .i64 c1.2.2.1, slV c1.2.2.2.1, .int .i64 c1.2.2.2.2.1, .int .i64 c1.2.2.2.2.2.1, slV c1.2.2.2.2.2.2], .agg #[.int .i64 c2.1, .int .i64 c2.2.1, .int .i64 c2.2.2.1, slV c2.2.2.2.1, .int .i64 c2.2.2.2.2.1, .int .i64 c2.2.2.2.2.2.1, slV c2.2.2.2.2.2.2]] (.one (.c .bool)) H2 fun (r1 : Bool) H3 =>
 Br (!r1) (
 k false H3) (
 Ld .sl ((adr b1).add 3) H3 fun (x1 : Sl) =>
 Ld .sl ((adr b1).add 3) H3 fun (x2 : Sl) =>
 Lt (IntKind.wrap .i64 ((x2.len : Int) + 80)) fun t1 =>
 SlA 3 x1 0 t1 (x1.cap : Nat) fun l1 =>
 Ld .sl ((adr b2).add 3) H3 fun (x3 : Sl) =>
 LoopT (σ := Bool × Int) (fun next1 s1 H4 =>
 Br (decide (s1.2 < (l1.len : Int))) (
 Jn (σ := Bool) (fun kk1 =>
 Br s1.1 (
 IxA 3 l1 s1.2 fun a1 =>
 LdC [(.int .i64), (.int .i64), (.int .i64)] a1 H4 fun (c3 : Int × Int × Int) =>
 kk1 (eqL [(.int .i64), (.int .i64), (.int .i64)] (c3.1, c3.2.1, c3.2.2) (-7, 0, 0)) H4) (
 kk1 false H4)) fun j1 H5 =>
 Lt (IntKind.wrap .i64 (s1.2 + 1)) fun t2 =>
 next1 (j1, t2) H5) (
 Ld .sl (((adr b1).add 4).add 2) H4 fun (x4 : Sl) =>
 Ld .sl (((adr b1).add 4).add 2) H4 fun (x5 : Sl) =>
 Lt (IntKind.wrap .i64 ((x5.len : Int) + 80)) fun t3 =>
 SlA 2 x4 0 t3 (x4.cap : Nat) fun l2 =>
 LoopT (σ := Bool × Int) (fun next2 s2 H6 =>
 Br (decide (s2.2 < (l2.len : Int))) (
 Jn (σ := Bool) (fun kk2 =>
 Ld .sl (((adr b2).add 4).add 2) H6 fun (x6 : Sl) =>
 Br (decide (s2.2 ≥ (x6.len : Int))) (
 Jn (σ := Bool) (fun kk3 =>
 Br s2.1 (
 IxA 2 l2 s2.2 fun a2 =>
 Ld (.int .i64) a2 H6 fun (x7 : Int) =>
 Br (x7 == (-7)) (
 IxA 2 l2 s2.2 fun a3 =>
 Ld .sl (a3.add 1) H6 fun (x8 : Sl) =>
 kk3 ((x8.len : Int) == 0) H6) (
 kk3 false H6)) (
 kk3 false H6)) fun j3 H8 =>
 kk2 j3 H8) (
 IxA 2 l2 s2.2 fun a4 =>
 Ld .sl (a4.add 1) H6 fun (x9 : Sl) =>
 IxA 2 l2 s2.2 fun a5 =>
 Ld .sl (a5.add 1) H6 fun (x10 : Sl) =>
 Lt (IntKind.wrap .i64 ((x10.len : Int) + 80)) fun t4 =>
 SlA 1 x9 0 t4 (x9.cap : Nat) fun l3 =>
 Ld .sl (((adr b2).add 4).add 2) H6 fun (x11 : Sl) =>
 IxA 2 x11 s2.2 fun a6 =>
 Ld .sl (a6.add 1) H6 fun (x12 : Sl) =>
 LoopT (σ := Bool × Int) (fun next3 s3 H9 =>
 Br (decide (s3.2 < (l3.len : Int))) (
 Jn (σ := Bool) (fun kk4 =>
 Br s3.1 (
 IxA 1 l3 s3.2 fun a7 =>
 Ld (.int .i64) a7 H9 fun (x13 : Int) =>
 kk4 (x13 == (-7)) H9) (
 kk4 false H9)) fun j4 H10 =>
 Lt (IntKind.wrap .i64 (s3.2 + 1)) fun t5 =>
 next3 (j4, t5) H10) (
 kk2 s3.1 H9)) ((s2.1, (x12.len : Int))) H6)) fun j2 H7 =>
 Lt (IntKind.wrap .i64 (s2.2 + 1)) fun t6 =>
 next2 (j2, t6) H7) (
 k s2.1 H6)) (s1.1, 0) H4)) ((r1, (x3.len : Int))) H3)
def h_L_still : Hint := (.two .no (.two .no (.two .no (.two .no (.two (.two .no (.one (.loop [(5, (.c .bool)), (7, (.c (.int .i64)))] (.two .no (.two (.one (.join [(5, (.c .bool))] .no)) .no))))) (.two .no (.two (.two .no (.one (.loop [(5, (.c .bool)), (9, (.c (.int .i64)))] (.two .no (.two (.join [(5, (.c .bool))] (.one (.two (.two .no (.two (.two (.join [(5, (.c .bool))] .no) .no) .no)) (.two .no (.two .no (.one (.loop [(5, (.c .bool)), (11, (.c (.int .i64)))] (.two .no (.two (.one (.join [(5, (.c .bool))] .no)) .no))))))))) .no))))) .no)))))))
theorem c_L_still (x_ : Int × Int × Int × Sl × Int × Int × Sl) (e_ : Int × Int × Int × Sl × Int × Int × Sl) {H : Heap} {k : Bool → Heap → Prop} (h : v_L_still x_ e_ H k) : CallT Pg f_L_still [.agg #[.int .i64 x_.1, .int .i64 x_.2.1, .int .i64 x_.2.2.1, slV x_.2.2.2.1, .int .i64 x_.2.2.2.2.1, .int .i64 x_.2.2.2.2.2.1, slV x_.2.2.2.2.2.2], .agg #[.int .i64 e_.1, .int .i64 e_.2.1, .int .i64 e_.2.2.1, slV e_.2.2.2.1, .int .i64 e_.2.2.2.2.1, .int .i64 e_.2.2.2.2.2.1, slV e_.2.2.2.2.2.2]] (.one (.c .bool)) H k :=
 call_of_E (h := h_L_still) Pg_mixed Tryz.func13 (by kernel_rfl) (by kernel_rfl) (by kernel_rfl) (by kernel_rfl) (Eq.mpr (by kernel_rfl) h)
def v_L_unspoilt (q_ : Sl × Sl) (p_ : Sl × Sl) (H : Heap) (k : Bool → Heap → Prop) : Prop :=
 Nw #[slV q_.1, slV q_.2] T_api_Program H fun b1 H1 =>
 Nw #[slV p_.1, slV p_.2] T_api_Program H1 fun b2 H2 =>
 Jn (σ := Bool) (fun kk1 =>
 Ld .sl (adr b1) H2 fun (x1 : Sl) =>
 Ld .sl (adr b2) H2 fun (x2 : Sl) =>
 Br ((x1.len : Int) != (x2.len : Int)) (
 kk1 true H2) (
 Ld .sl ((adr b1).add 1) H2 fun (x3 : Sl) =>
 Ld .sl ((adr b2).add 1) H2 fun (x4 : Sl) =>
 kk1 ((x3.len : Int) != (x4.len : Int)) H2)) fun j1 H3 =>
 Br j1 (
 k false H3) (
 Ld .sl (adr b1) H3 fun (x5 : Sl) =>
 Ld .sl (adr b1) H3 fun (x6 : Sl) =>
 Lt (IntKind.wrap .i64 ((x6.len : Int) + 80)) fun t1 =>
 SlA 8 x5 0 t1 (x5.cap : Nat) fun l1 =>
 LoopT (σ := Int) (fun next1 s1 H4 =>
 Br (decide (s1 < (l1.len : Int))) (
 Jn (σ := Unit) (fun kk2 =>
 Ld .sl (adr b2) H4 fun (x7 : Sl) =>
 Br (decide (s1 ≥ (x7.len : Int))) (
 Jn (σ := Bool) (fun kk3 =>
 IxA 8 l1 s1 fun a1 =>
 Ld .str (a1.add 4) H4 fun (x8 : ByteArray) =>
 Br (!(x8.toList == (⟨#[109, 97, 114, 107]⟩ : ByteArray).toList)) (
 kk3 true H4) (
 IxA 8 l1 s1 fun a2 =>
 Ld .sl ((a2.add 4).add 3) H4 fun (x9 : Sl) =>
 Br ((x9.len : Int) != 0) (
 kk3 true H4) (
 IxA 8 l1 s1 fun a3 =>
 Ld .sl a3 H4 fun (x10 : Sl) =>
 IxA 8 l1 s1 fun a4 =>
 Ld .sl (a4.add 1) H4 fun (x11 : Sl) =>
 Lt (IntKind.wrap .i64 ((x10.len : Int) + (x11.len : Int))) fun t2 =>
 IxA 8 l1 s1 fun a5 =>
 Ld .sl (a5.add 2) H4 fun (x12 : Sl) =>
 Lt (IntKind.wrap .i64 (t2 + (x12.len : Int))) fun t3 =>
 IxA 8 l1 s1 fun a6 =>
 Ld .sl (a6.add 3) H4 fun (x13 : Sl) =>
 Lt (IntKind.wrap .i64 (t3 + (x13.len : Int))) fun t4 =>
 kk3 (t4 != 0) H4))) fun j3 H6 =>
 Br j3 (
 k false H6) (
 kk2 () H6)) (
 IxA 8 l1 s1 fun a7 =>
 LdC [.sl, .sl, .sl, .sl, .str, (.int .i64), (.int .i64), .sl] a7 H4 fun (c1 : Sl × Sl × Sl × Sl × ByteArray × Int × Int × Sl) =>
 Nw #[.slice none 0 0, .slice none 0 0, .slice none 0 0, .slice none 0 0, .string ByteArray.empty, .int .i64 0, .int .i64 0, .slice none 0 0] T_api_System H4 fun b3 H7 =>
 St ((adr b3).add 0) (slV c1.1) H7 fun H8 =>
 St ((adr b3).add 1) (slV c1.2.1) H8 fun H9 =>
 St ((adr b3).add 2) (slV c1.2.2.1) H9 fun H10 =>
 St ((adr b3).add 3) (slV c1.2.2.2.1) H10 fun H11 =>
 St ((adr b3).add 4) (.string c1.2.2.2.2.1) H11 fun H12 =>
 St ((adr b3).add 5) (.int .i64 c1.2.2.2.2.2.1) H12 fun H13 =>
 St ((adr b3).add 6) (.int .i64 c1.2.2.2.2.2.2.1) H13 fun H14 =>
 St ((adr b3).add 7) (slV c1.2.2.2.2.2.2.2) H14 fun H15 =>
 Ld .sl (adr b2) H15 fun (x14 : Sl) =>
 IxA 8 x14 s1 fun a8 =>
 LdC [.sl, .sl, .sl, .sl, .str, (.int .i64), (.int .i64), .sl] a8 H15 fun (c2 : Sl × Sl × Sl × Sl × ByteArray × Int × Int × Sl) =>
 Nw #[.slice none 0 0, .slice none 0 0, .slice none 0 0, .slice none 0 0, .string ByteArray.empty, .int .i64 0, .int .i64 0, .slice none 0 0] T_api_System H15 fun b4 H16 =>
 St ((adr b4).add 0) (slV c2.1) H16 fun H17 =>
 St ((adr b4).add 1) (slV c2.2.1) H17 fun H18 =>
 St ((adr b4).add 2) (slV c2.2.2.1) H18 fun H19 =>
 St ((adr b4).add 3) (slV c2.2.2.2.1) H19 fun H20 =>
 St ((adr b4).add 4) (.string c2.2.2.2.2.1) H20 fun H21 =>
 St ((adr b4).add 5) (.int .i64 c2.2.2.2.2.2.1) H21 fun H22 =>
 St ((adr b4).add 6) (.int .i64 c2.2.2.2.2.2.2.1) H22 fun H23 =>
 St ((adr b4).add 7) (slV c2.2.2.2.2.2.2.2) H23 fun H24 =>
 Jn (σ := Bool) (fun kk4 =>
 Ld .sl (adr b3) H24 fun (x15 : Sl) =>
 Ld .sl (adr b4) H24 fun (x16 : Sl) =>
 CallT Pg f_L_sets [slV x15, slV x16] (.one (.c .bool)) H24 fun (r1 : Bool) H26 =>
 Br r1 (
 Ld .sl ((adr b3).add 1) H26 fun (x17 : Sl) =>
 Ld .sl ((adr b4).add 1) H26 fun (x18 : Sl) =>
 CallT Pg f_L_sets [slV x17, slV x18] (.one (.c .bool)) H26 fun (r2 : Bool) H27 =>
 Br r2 (
 Ld .sl ((adr b3).add 2) H27 fun (x19 : Sl) =>
 Ld .sl ((adr b4).add 2) H27 fun (x20 : Sl) =>
 CallT Pg f_L_sets [slV x19, slV x20] (.one (.c .bool)) H27 fun (r3 : Bool) H28 =>
 Br r3 (
 Ld .sl ((adr b3).add 3) H28 fun (x21 : Sl) =>
 Ld .sl ((adr b4).add 3) H28 fun (x22 : Sl) =>
 CallT Pg f_L_sets [slV x21, slV x22] (.one (.c .bool)) H28 fun (r4 : Bool) H29 =>
 kk4 r4 H29) (
 kk4 false H28)) (
 kk4 false H27)) (
 kk4 false H26)) fun j4 H25 =>
 LdC [.str, (.int .i64), (.int .i64), .sl] ((adr b3).add 4) H25 fun (c3 : ByteArray × Int × Int × Sl) =>
 LdC [.str, (.int .i64), (.int .i64), .sl] ((adr b4).add 4) H25 fun (c4 : ByteArray × Int × Int × Sl) =>
 CallT Pg f_L_routines [.agg #[.string c3.1, .int .i64 c3.2.1, .int .i64 c3.2.2.1, slV c3.2.2.2], .agg #[.string c4.1, .int .i64 c4.2.1, .int .i64 c4.2.2.1, slV c4.2.2.2]] (.one (.c .bool)) H25 fun (r5 : Bool) H30 =>
 Jn (σ := Bool) (fun kk5 =>
 Br (!j4) (
 kk5 true H30) (
 kk5 (!r5) H30)) fun j5 H31 =>
 Br j5 (
 k false H31) (
 kk2 () H31))) fun j2 H5 =>
 Lt (IntKind.wrap .i64 (s1 + 1)) fun t5 =>
 next1 t5 H5) (
 Ld .sl ((adr b1).add 1) H4 fun (x23 : Sl) =>
 Ld .sl ((adr b1).add 1) H4 fun (x24 : Sl) =>
 Lt (IntKind.wrap .i64 ((x24.len : Int) + 80)) fun t6 =>
 SlA 4 x23 0 t6 (x23.cap : Nat) fun l2 =>
 LoopT (σ := Int) (fun next2 s2 H32 =>
 Br (decide (s2 < (l2.len : Int))) (
 Jn (σ := Unit) (fun kk6 =>
 Ld .sl ((adr b2).add 1) H32 fun (x25 : Sl) =>
 Br (decide (s2 ≥ (x25.len : Int))) (
 Jn (σ := Bool) (fun kk7 =>
 IxA 4 l2 s2 fun a9 =>
 Ld .str a9 H32 fun (x26 : ByteArray) =>
 Br (!(x26.toList == (⟨#[109, 97, 114, 107]⟩ : ByteArray).toList)) (
 kk7 true H32) (
 IxA 4 l2 s2 fun a10 =>
 Ld .sl (a10.add 3) H32 fun (x27 : Sl) =>
 kk7 ((x27.len : Int) != 0) H32)) fun j7 H34 =>
 Br j7 (
 k false H34) (
 kk6 () H34)) (
 IxA 4 l2 s2 fun a11 =>
 LdC [.str, (.int .i64), (.int .i64), .sl] a11 H32 fun (c5 : ByteArray × Int × Int × Sl) =>
 Ld .sl ((adr b2).add 1) H32 fun (x28 : Sl) =>
 IxA 4 x28 s2 fun a12 =>
 LdC [.str, (.int .i64), (.int .i64), .sl] a12 H32 fun (c6 : ByteArray × Int × Int × Sl) =>
 CallT Pg f_L_routines [.agg #[.string c5.1, .int .i64 c5.2.1, .int .i64 c5.2.2.1, slV c5.2.2.2], .agg #[.string c6.1, .int .i64 c6.2.1, .int .i64 c6.2.2.1, slV c6.2.2.2]] (.one (.c .bool)) H32 fun (r6 : Bool) H35 =>
 Stab [((adr b2).add 1, slV x28)] H35 <|
 Br (!r6) (
 k false H35) (
 kk6 () H35))) fun j6 H33 =>
 Lt (IntKind.wrap .i64 (s2 + 1)) fun t7 =>
 next2 t7 H33) (
 k true H32)) 0 H4)) 0 H3)
def h_L_unspoilt : Hint := (.two .no (.two (.two (.join [(29, (.c .bool))] .no) .no) (.two .no (.two (.two .no (.one (.loop [(6, (.c (.int .i64)))] (.two .no (.two (.join [] (.one (.two (.two .no (.two (.two (.two (.join [(94, (.c .bool))] .no) .no) .no) .no)) (.two .no (.two .no (.two (.join [(9, (.c .bool))] .no) (.two .no (.two (.join [(140, (.c .bool))] .no) .no)))))))) .no))))) (.two .no (.two (.two .no (.one (.loop [(12, (.c (.int .i64)))] (.two .no (.two (.join [] (.one (.two (.two .no (.two (.two (.two (.join [(173, (.c .bool))] .no) .no) .no) .no)) .no))) .no))))) .no))))))
theorem c_L_unspoilt (q_ : Sl × Sl) (p_ : Sl × Sl) {H : Heap} {k : Bool → Heap → Prop} (h : v_L_unspoilt q_ p_ H k) : CallT Pg f_L_unspoilt [.agg #[slV q_.1, slV q_.2], .agg #[slV p_.1, slV p_.2]] (.one (.c .bool)) H k :=
 call_of_E (h := h_L_unspoilt) Pg_mixed Tryz.func14 (by kernel_rfl) (by kernel_rfl) (by kernel_rfl) (by kernel_rfl) (Eq.mpr (by kernel_rfl) h)
def v_L_marked (o_ : Sl × Sl × Sl × Int × Int) (H : Heap) (k : Bool → Heap → Prop) : Prop :=
 Nw #[slV o_.1, slV o_.2.1, slV o_.2.2.1, .int .i64 o_.2.2.2.1, .int .i64 o_.2.2.2.2] T_api_Outcome H fun b1 H1 =>
 LoopT (σ := Sl × Int) (fun next1 s1 H2 =>
 Ld .sl (adr b1) H2 fun (x1 : Sl) =>
 Br (decide (s1.2 < (x1.len : Int))) (
 Ld .sl (adr b1) H2 fun (x2 : Sl) =>
 IxA 2 x2 s1.2 fun a1 =>
 Ld .sl (a1.add 1) H2 fun (x3 : Sl) =>
 Nw #[slV x3] T_Sl_int64 H2 fun b2 H3 =>
 App T_Sl_int64 1 24 #[.slice none 0 0] s1.1 ⟨some (adr b2), 1, 1⟩ H3 fun l1 H4 =>
 Lt (IntKind.wrap .i64 (s1.2 + 1)) fun t1 =>
 next1 (l1, t1) H4) (
 LoopT (σ := Sl × Int) (fun next2 s2 H5 =>
 Ld .sl ((adr b1).add 1) H5 fun (x4 : Sl) =>
 Br (decide (s2.2 < (x4.len : Int))) (
 Ld .sl ((adr b1).add 1) H5 fun (x5 : Sl) =>
 IxA 6 x5 s2.2 fun a2 =>
 Ld .sl (a2.add 4) H5 fun (x6 : Sl) =>
 Nw #[slV x6] T_Sl_int64 H5 fun b3 H6 =>
 App T_Sl_int64 1 24 #[.slice none 0 0] s2.1 ⟨some (adr b3), 1, 1⟩ H6 fun l2 H7 =>
 LoopT (σ := Sl × Int) (fun next3 s3 H8 =>
 Ld .sl ((adr b1).add 1) H8 fun (x7 : Sl) =>
 IxA 6 x7 s2.2 fun a3 =>
 Ld .sl (a3.add 5) H8 fun (x8 : Sl) =>
 Br (decide (s3.2 < (x8.len : Int))) (
 Ld .sl ((adr b1).add 1) H8 fun (x9 : Sl) =>
 IxA 6 x9 s2.2 fun a4 =>
 Ld .sl (a4.add 5) H8 fun (x10 : Sl) =>
 IxA 2 x10 s3.2 fun a5 =>
 Ld .sl (a5.add 1) H8 fun (x11 : Sl) =>
 Nw #[slV x11] T_Sl_int64 H8 fun b4 H9 =>
 App T_Sl_int64 1 24 #[.slice none 0 0] s3.1 ⟨some (adr b4), 1, 1⟩ H9 fun l3 H10 =>
 Lt (IntKind.wrap .i64 (s3.2 + 1)) fun t2 =>
 next3 (l3, t2) H10) (
 Lt (IntKind.wrap .i64 (s2.2 + 1)) fun t3 =>
 next2 (s3.1, t3) H8)) (l2, 0) H7) (
 LoopT (σ := Int) (fun next4 s4 H11 =>
 Br (decide (s4 < (s2.1.len : Int))) (
 LoopT (σ := Int) (fun next5 s5 H12 =>
 IxA 1 s2.1 s4 fun a6 =>
 Ld .sl a6 H12 fun (x12 : Sl) =>
 Br (decide (s5 < (x12.len : Int))) (
 IxA 1 s2.1 s4 fun a7 =>
 Ld .sl a7 H12 fun (x13 : Sl) =>
 Lt (IntKind.wrap .i64 ((-1000) - s4)) fun t4 =>
 IxA 1 x13 s5 fun a8 =>
 St a8 (.int .i64 t4) H12 fun H13 =>
 Lt (IntKind.wrap .i64 (s5 + 1)) fun t5 =>
 next5 t5 H13) (
 Lt (IntKind.wrap .i64 (s4 + 1)) fun t6 =>
 next4 t6 H12)) 0 H11) (
 LoopT (σ := Sl × Int) (fun next6 s6 H14 =>
 Br (decide (s6.2 < (s2.1.len : Int))) (
 IxA 1 s6.1 s6.2 fun a9 =>
 Ld .sl a9 H14 fun (x14 : Sl) =>
 LoopT (σ := Sl × Int) (fun next7 s7 H15 =>
 Br (decide (s7.2 < 70)) (
 Lt (IntKind.wrap .i64 ((-1000) - s6.2)) fun t7 =>
 Nw #[.int .i64 t7] T_int64 H15 fun b5 H16 =>
 App T_int64 1 8 #[.int .i64 0] s7.1 ⟨some (adr b5), 1, 1⟩ H16 fun l4 H17 =>
 Lt (IntKind.wrap .i64 (s7.2 + 1)) fun t8 =>
 next7 (l4, t8) H17) (
 Nw #[slV s7.1] T_Sl_int64 H15 fun b6 H18 =>
 App T_Sl_int64 1 24 #[.slice none 0 0] s6.1 ⟨some (adr b6), 1, 1⟩ H18 fun l5 H19 =>
 Lt (IntKind.wrap .i64 (s6.2 + 1)) fun t9 =>
 next6 (l5, t9) H19)) (x14, 0) H14) (
 LoopT (σ := Int) (fun next8 s8 H20 =>
 Br (decide (s8 < (s6.1.len : Int))) (
 LoopT (σ := Int) (fun next9 s9 H21 =>
 IxA 1 s6.1 s8 fun a10 =>
 Ld .sl a10 H21 fun (x15 : Sl) =>
 Br (decide (s9 < (x15.len : Int))) (
 IxA 1 s6.1 s8 fun a11 =>
 Ld .sl a11 H21 fun (x16 : Sl) =>
 IxA 1 x16 s9 fun a12 =>
 Ld (.int .i64) a12 H21 fun (x17 : Int) =>
 Rem s8 (s2.1.len : Int) fun t10 =>
 Lt (IntKind.wrap .i64 ((-1000) - t10)) fun t11 =>
 Br (x17 != t11) (
 k false H21) (
 Lt (IntKind.wrap .i64 (s9 + 1)) fun t12 =>
 next9 t12 H21)) (
 Lt (IntKind.wrap .i64 (s8 + 1)) fun t13 =>
 next8 t13 H21)) 0 H20) (
 LoopT (σ := Sl × Int) (fun next10 s10 H22 =>
 Ld .sl ((adr b1).add 1) H22 fun (x18 : Sl) =>
 Br (decide (s10.2 < (x18.len : Int))) (
 Ld .sl ((adr b1).add 1) H22 fun (x19 : Sl) =>
 IxA 6 x19 s10.2 fun a13 =>
 Ld .sl (a13.add 5) H22 fun (x20 : Sl) =>
 Nw #[slV x20] T_Sl_api_Part H22 fun b7 H23 =>
 App T_Sl_api_Part 1 24 #[.slice none 0 0] s10.1 ⟨some (adr b7), 1, 1⟩ H23 fun l6 H24 =>
 Lt (IntKind.wrap .i64 (s10.2 + 1)) fun t14 =>
 next10 (l6, t14) H24) (
 Ld .sl (adr b1) H22 fun (x21 : Sl) =>
 Nw #[slV x21] T_Sl_api_Part H22 fun b8 H25 =>
 App T_Sl_api_Part 1 24 #[.slice none 0 0] s10.1 ⟨some (adr b8), 1, 1⟩ H25 fun l7 H26 =>
 LoopT (σ := Int) (fun next11 s11 H27 =>
 Br (decide (s11 < (l7.len : Int))) (
 LoopT (σ := Int) (fun next12 s12 H28 =>
 IxA 1 l7 s11 fun a14 =>
 Ld .sl a14 H28 fun (x22 : Sl) =>
 Br (decide (s12 < (x22.len : Int))) (
 IxA 1 l7 s11 fun a15 =>
 Ld .sl a15 H28 fun (x23 : Sl) =>
 Lt (IntKind.wrap .i64 ((-1000) - s11)) fun t15 =>
 IxA 2 x23 s12 fun a16 =>
 St (a16.add 0) (.int .i64 t15) H28 fun H29 =>
 St (a16.add 1) (.slice none 0 0) H29 fun H30 =>
 Lt (IntKind.wrap .i64 (s12 + 1)) fun t16 =>
 next12 t16 H30) (
 Lt (IntKind.wrap .i64 (s11 + 1)) fun t17 =>
 next11 t17 H28)) 0 H27) (
 LoopT (σ := Sl × Int) (fun next13 s13 H31 =>
 Br (decide (s13.2 < (l7.len : Int))) (
 IxA 1 s13.1 s13.2 fun a17 =>
 Ld .sl a17 H31 fun (x24 : Sl) =>
 LoopT (σ := Sl × Int) (fun next14 s14 H32 =>
 Br (decide (s14.2 < 64)) (
 Lt (IntKind.wrap .i64 ((-1000) - s13.2)) fun t18 =>
 Nw #[.int .i64 t18, .slice none 0 0] T_api_Part H32 fun b9 H33 =>
 App T_api_Part 2 32 #[.int .i64 0, .slice none 0 0] s14.1 ⟨some (adr b9), 1, 1⟩ H33 fun l8 H34 =>
 Lt (IntKind.wrap .i64 (s14.2 + 1)) fun t19 =>
 next14 (l8, t19) H34) (
 Nw #[slV s14.1] T_Sl_api_Part H32 fun b10 H35 =>
 App T_Sl_api_Part 1 24 #[.slice none 0 0] s13.1 ⟨some (adr b10), 1, 1⟩ H35 fun l9 H36 =>
 Lt (IntKind.wrap .i64 (s13.2 + 1)) fun t20 =>
 next13 (l9, t20) H36)) (x24, 0) H31) (
 LoopT (σ := Int) (fun next15 s15 H37 =>
 Br (decide (s15 < (s13.1.len : Int))) (
 LoopT (σ := Int) (fun next16 s16 H38 =>
 IxA 1 s13.1 s15 fun a18 =>
 Ld .sl a18 H38 fun (x25 : Sl) =>
 Br (decide (s16 < (x25.len : Int))) (
 Jn (σ := Bool) (fun kk1 =>
 IxA 1 s13.1 s15 fun a19 =>
 Ld .sl a19 H38 fun (x26 : Sl) =>
 IxA 2 x26 s16 fun a20 =>
 Ld (.int .i64) a20 H38 fun (x27 : Int) =>
 Rem s15 (l7.len : Int) fun t21 =>
 Lt (IntKind.wrap .i64 ((-1000) - t21)) fun t22 =>
 Br (x27 != t22) (
 kk1 true H38) (
 IxA 1 s13.1 s15 fun a21 =>
 Ld .sl a21 H38 fun (x28 : Sl) =>
 IxA 2 x28 s16 fun a22 =>
 Ld .sl (a22.add 1) H38 fun (x29 : Sl) =>
 kk1 ((x29.len : Int) != 0) H38)) fun j1 H39 =>
 Br j1 (
 k false H39) (
 Lt (IntKind.wrap .i64 (s16 + 1)) fun t23 =>
 next16 t23 H39)) (
 Lt (IntKind.wrap .i64 (s15 + 1)) fun t24 =>
 next15 t24 H38)) 0 H37) (
 LdC [.sl, .sl, .sl, (.int .i64), (.int .i64)] (adr b1) H37 fun (c1 : Sl × Sl × Sl × Int × Int) =>
 CallT Pg f_L_own [.agg #[slV c1.1, slV c1.2.1, slV c1.2.2.1, .int .i64 c1.2.2.2.1, .int .i64 c1.2.2.2.2]] (.tup []) H37 fun (r1 : Unit) H40 =>
 k true H40)) 0 H31)) (l7, 0) H27)) 0 H26)) (⟨none, 0, 0⟩, 0) H20)) 0 H14)) (s2.1, 0) H11)) 0 H5)) (s1.1, 0) H2)) (⟨none, 0, 0⟩, 0) H1
def h_L_marked : Hint := (.two .no (.two .no (.two (.two .no (.one (.loop [(3, (.c .sl)), (4, (.c (.int .i64)))] .no))) (.two (.two .no (.one (.loop [(3, (.c .sl)), (5, (.c (.int .i64)))] (.two .no (.two (.one (.two .no (.two .no (.one (.loop [(3, (.c .sl)), (6, (.c (.int .i64)))] .no))))) .no))))) (.two .no (.two (.two .no (.one (.loop [(8, (.c (.int .i64)))] (.two .no (.two (.one (.two .no (.one (.loop [(9, (.c (.int .i64)))] .no)))) .no))))) (.two (.two .no (.one (.loop [(3, (.c .sl)), (10, (.c (.int .i64)))] (.two .no (.two (.one (.two .no (.two (.two .no (.one (.loop [(11, (.c .sl)), (12, (.c (.int .i64)))] .no))) .no))) .no))))) (.two (.two .no (.one (.loop [(13, (.c (.int .i64)))] (.two .no (.two (.one (.two .no (.one (.loop [(14, (.c (.int .i64)))] .no)))) .no))))) (.two .no (.two (.two .no (.one (.loop [(15, (.c .sl)), (16, (.c (.int .i64)))] .no))) (.two .no (.two .no (.two (.two .no (.one (.loop [(18, (.c (.int .i64)))] (.two .no (.two (.one (.two .no (.one (.loop [(19, (.c (.int .i64)))] .no)))) .no))))) (.two (.two .no (.one (.loop [(15, (.c .sl)), (20, (.c (.int .i64)))] (.two .no (.two (.one (.two .no (.two (.two .no (.one (.loop [(21, (.c .sl)), (22, (.c (.int .i64)))] .no))) .no))) .no))))) (.two (.two .no (.one (.loop [(23, (.c (.int .i64)))] (.two .no (.two (.one (.two .no (.one (.loop [(24, (.c (.int .i64)))] (.two .no (.two (.one (.two (.join [(262, (.c .bool))] .no) .no)) .no)))))) .no))))) .no)))))))))))))))
theorem c_L_marked (o_ : Sl × Sl × Sl × Int × Int) {H : Heap} {k : Bool → Heap → Prop} (h : v_L_marked o_ H k) : CallT Pg f_L_marked [.agg #[slV o_.1, slV o_.2.1, slV o_.2.2.1, .int .i64 o_.2.2.2.1, .int .i64 o_.2.2.2.2]] (.one (.c .bool)) H k :=
 call_of_E (h := h_L_marked) Pg_mixed Tryz.func16 (by kernel_rfl) (by kernel_rfl) (by kernel_rfl) (by kernel_rfl) (Eq.mpr (by kernel_rfl) h)
def v_L_own (o_ : Sl × Sl × Sl × Int × Int) (H : Heap) (k : Unit → Heap → Prop) : Prop :=
 Nw #[slV o_.1, slV o_.2.1, slV o_.2.2.1, .int .i64 o_.2.2.2.1, .int .i64 o_.2.2.2.2] T_api_Outcome H fun b1 H1 =>
 LoopT (σ := Int) (fun next1 s1 H2 =>
 Ld .sl (adr b1) H2 fun (x1 : Sl) =>
 Br (decide (s1 < (x1.len : Int))) (
 Ld .sl (adr b1) H2 fun (x2 : Sl) =>
 IxA 2 x2 s1 fun a1 =>
 Ld .sl (a1.add 1) H2 fun (x3 : Sl) =>
 CallT Pg f_L_wipe [slV x3] (.tup []) H2 fun (r1 : Unit) H3 =>
 Lt (IntKind.wrap .i64 (s1 + 1)) fun t1 =>
 next1 t1 H3) (
 LoopT (σ := Int) (fun next2 s2 H4 =>
 Ld .sl ((adr b1).add 1) H4 fun (x4 : Sl) =>
 Br (decide (s2 < (x4.len : Int))) (
 Ld .sl ((adr b1).add 1) H4 fun (x5 : Sl) =>
 IxA 6 x5 s2 fun a2 =>
 Ld .sl (a2.add 4) H4 fun (x6 : Sl) =>
 CallT Pg f_L_wipe [slV x6] (.tup []) H4 fun (r2 : Unit) H5 =>
 LoopT (σ := Int) (fun next3 s3 H6 =>
 Ld .sl ((adr b1).add 1) H6 fun (x7 : Sl) =>
 IxA 6 x7 s2 fun a3 =>
 Ld .sl (a3.add 5) H6 fun (x8 : Sl) =>
 Br (decide (s3 < (x8.len : Int))) (
 Ld .sl ((adr b1).add 1) H6 fun (x9 : Sl) =>
 IxA 6 x9 s2 fun a4 =>
 Ld .sl (a4.add 5) H6 fun (x10 : Sl) =>
 IxA 2 x10 s3 fun a5 =>
 Ld .sl (a5.add 1) H6 fun (x11 : Sl) =>
 CallT Pg f_L_wipe [slV x11] (.tup []) H6 fun (r3 : Unit) H7 =>
 Lt (IntKind.wrap .i64 (s3 + 1)) fun t2 =>
 next3 t2 H7) (
 Lt (IntKind.wrap .i64 (s2 + 1)) fun t3 =>
 next2 t3 H6)) 0 H5) (
 LoopT (σ := Int) (fun next4 s4 H8 =>
 Ld .sl ((adr b1).add 1) H8 fun (x12 : Sl) =>
 Br (decide (s4 < (x12.len : Int))) (
 LoopT (σ := Int) (fun next5 s5 H9 =>
 Ld .sl ((adr b1).add 1) H9 fun (x13 : Sl) =>
 IxA 6 x13 s4 fun a6 =>
 Ld .sl (a6.add 5) H9 fun (x14 : Sl) =>
 Br (decide (s5 < (x14.len : Int))) (
 Ld .sl ((adr b1).add 1) H9 fun (x15 : Sl) =>
 IxA 6 x15 s4 fun a7 =>
 Ld .sl (a7.add 5) H9 fun (x16 : Sl) =>
 IxA 2 x16 s5 fun a8 =>
 St (a8.add 0) (.int .i64 (-77)) H9 fun H10 =>
 St (a8.add 1) (.slice none 0 0) H10 fun H11 =>
 Lt (IntKind.wrap .i64 (s5 + 1)) fun t4 =>
 next5 t4 H11) (
 Ld .sl ((adr b1).add 1) H9 fun (x17 : Sl) =>
 IxA 6 x17 s4 fun a9 =>
 Ld .sl (a9.add 5) H9 fun (x18 : Sl) =>
 LoopT (σ := Sl × Int) (fun next6 s6 H12 =>
 Br (decide (s6.2 < 64)) (
 Nw #[.int .i64 (-77), .slice none 0 0] T_api_Part H12 fun b2 H13 =>
 App T_api_Part 2 32 #[.int .i64 0, .slice none 0 0] s6.1 ⟨some (adr b2), 1, 1⟩ H13 fun l1 H14 =>
 Lt (IntKind.wrap .i64 (s6.2 + 1)) fun t5 =>
 next6 (l1, t5) H14) (
 Ld .sl ((adr b1).add 1) H12 fun (x19 : Sl) =>
 IxA 6 x19 s4 fun a10 =>
 St (a10.add 0) (.int .i64 (-77)) H12 fun H15 =>
 St (a10.add 1) (.int .i64 0) H15 fun H16 =>
 St (a10.add 2) (.int .i64 0) H16 fun H17 =>
 St (a10.add 3) (.int .i64 0) H17 fun H18 =>
 St (a10.add 4) (.slice none 0 0) H18 fun H19 =>
 St (a10.add 5) (.slice none 0 0) H19 fun H20 =>
 Lt (IntKind.wrap .i64 (s4 + 1)) fun t6 =>
 next4 t6 H20)) (x18, 0) H9)) 0 H8) (
 LoopT (σ := Int) (fun next7 s7 H21 =>
 Ld .sl (adr b1) H21 fun (x20 : Sl) =>
 Br (decide (s7 < (x20.len : Int))) (
 Ld .sl (adr b1) H21 fun (x21 : Sl) =>
 IxA 2 x21 s7 fun a11 =>
 St (a11.add 0) (.int .i64 (-77)) H21 fun H22 =>
 St (a11.add 1) (.slice none 0 0) H22 fun H23 =>
 Lt (IntKind.wrap .i64 (s7 + 1)) fun t7 =>
 next7 t7 H23) (
 LoopT (σ := Int) (fun next8 s8 H24 =>
 Ld .sl ((adr b1).add 2) H24 fun (x22 : Sl) =>
 Br (decide (s8 < (x22.len : Int))) (
 Ld .sl ((adr b1).add 2) H24 fun (x23 : Sl) =>
 IxA 5 x23 s8 fun a12 =>
 St (a12.add 0) (.int .i64 (-77)) H24 fun H25 =>
 St (a12.add 1) (.int .i64 0) H25 fun H26 =>
 St (a12.add 2) (.int .i64 0) H26 fun H27 =>
 St (a12.add 3) (.int .i64 0) H27 fun H28 =>
 St (a12.add 4) (.int .i64 0) H28 fun H29 =>
 Lt (IntKind.wrap .i64 (s8 + 1)) fun t8 =>
 next8 t8 H29) (
 Ld .sl (adr b1) H24 fun (x24 : Sl) =>
 LoopT (σ := Sl × Int) (fun next9 s9 H30 =>
 Br (decide (s9.2 < 64)) (
 Nw #[.int .i64 (-77), .slice none 0 0] T_api_Part H30 fun b3 H31 =>
 App T_api_Part 2 32 #[.int .i64 0, .slice none 0 0] s9.1 ⟨some (adr b3), 1, 1⟩ H31 fun l2 H32 =>
 Lt (IntKind.wrap .i64 (s9.2 + 1)) fun t9 =>
 next9 (l2, t9) H32) (
 Ld .sl ((adr b1).add 1) H30 fun (x25 : Sl) =>
 LoopT (σ := Sl × Int) (fun next10 s10 H33 =>
 Br (decide (s10.2 < 64)) (
 Nw #[.int .i64 (-77), .int .i64 0, .int .i64 0, .int .i64 0, .slice none 0 0, .slice none 0 0] T_api_Command H33 fun b4 H34 =>
 App T_api_Command 6 80 #[.int .i64 0, .int .i64 0, .int .i64 0, .int .i64 0, .slice none 0 0, .slice none 0 0] s10.1 ⟨some (adr b4), 1, 1⟩ H34 fun l3 H35 =>
 Lt (IntKind.wrap .i64 (s10.2 + 1)) fun t10 =>
 next10 (l3, t10) H35) (
 Ld .sl ((adr b1).add 2) H33 fun (x26 : Sl) =>
 LoopT (σ := Sl × Int) (fun next11 s11 H36 =>
 Br (decide (s11.2 < 64)) (
 Nw #[.int .i64 (-77), .int .i64 0, .int .i64 0, .int .i64 0, .int .i64 0] T_api_Event H36 fun b5 H37 =>
 App T_api_Event 5 40 #[.int .i64 0, .int .i64 0, .int .i64 0, .int .i64 0, .int .i64 0] s11.1 ⟨some (adr b5), 1, 1⟩ H37 fun l4 H38 =>
 Lt (IntKind.wrap .i64 (s11.2 + 1)) fun t11 =>
 next11 (l4, t11) H38) (
 k () H36)) (x26, 0) H33)) (x25, 0) H30)) (x24, 0) H24)) 0 H21)) 0 H8)) 0 H4)) 0 H2)) 0 H1
def h_L_own : Hint := (.two .no (.two (.two .no (.one (.loop [(2, (.c (.int .i64)))] .no))) (.two (.two .no (.one (.loop [(3, (.c (.int .i64)))] (.two .no (.two (.one (.two .no (.two .no (.one (.loop [(4, (.c (.int .i64)))] .no))))) .no))))) (.two (.two .no (.one (.loop [(5, (.c (.int .i64)))] (.two .no (.two (.one (.two (.two .no (.one (.loop [(6, (.c (.int .i64)))] .no))) (.two .no (.two (.two .no (.one (.loop [(7, (.c .sl)), (8, (.c (.int .i64)))] .no))) .no)))) .no))))) (.two (.two .no (.one (.loop [(9, (.c (.int .i64)))] .no))) (.two (.two .no (.one (.loop [(10, (.c (.int .i64)))] .no))) (.two .no (.two (.two .no (.one (.loop [(11, (.c .sl)), (12, (.c (.int .i64)))] .no))) (.two .no (.two (.two .no (.one (.loop [(13, (.c .sl)), (14, (.c (.int .i64)))] .no))) (.two .no (.two .no (.one (.loop [(15, (.c .sl)), (16, (.c (.int .i64)))] .no))))))))))))))
theorem c_L_own (o_ : Sl × Sl × Sl × Int × Int) {H : Heap} {k : Unit → Heap → Prop} (h : v_L_own o_ H k) : CallT Pg f_L_own [.agg #[slV o_.1, slV o_.2.1, slV o_.2.2.1, .int .i64 o_.2.2.2.1, .int .i64 o_.2.2.2.2]] (.tup []) H k :=
 call_of_E (h := h_L_own) Pg_mixed Tryz.func17 (by kernel_rfl) (by kernel_rfl) (by kernel_rfl) (by kernel_rfl) (Eq.mpr (by kernel_rfl) h)
def v_L_turned (l_ : Sl) (H : Heap) (k : Unit → Heap → Prop) : Prop :=
 LoopT (σ := Int) (fun next1 s1 H1 =>
 Br (decide (s1 < (l_.len : Int))) (
 Jn (σ := Unit) (fun kk1 =>
 IxA 2 l_ s1 fun a1 =>
 Ld (.int .i64) a1 H1 fun (x1 : Int) =>
 Jn (σ := Unit) (fun kk2 =>
 Br (x1 == 1) (
 IxA 2 l_ s1 fun a2 =>
 Ld (.int .i64) (a2.add 1) H1 fun (x2 : Int) =>
 Lt (IntKind.wrap .i64 (x2 + 1)) fun t1 =>
 IxA 2 l_ s1 fun a3 =>
 St (a3.add 1) (.int .i64 t1) H1 fun H4 =>
 kk2 () H4) (
 kk2 () H1)) fun j2 H3 =>
 kk1 () H3) fun j1 H2 =>
 Lt (IntKind.wrap .i64 (s1 + 1)) fun t2 =>
 next1 t2 H2) (
 k () H1)) 0 H
def h_L_turned : Hint := (.two .no (.one (.loop [(2, (.c (.int .i64)))] (.two .no (.two (.join [] (.one (.two .no (.join [] .no)))) .no)))))
theorem c_L_turned (l_ : Sl) {H : Heap} {k : Unit → Heap → Prop} (h : v_L_turned l_ H k) : CallT Pg f_L_turned [slV l_] (.tup []) H k :=
 call_of_E (h := h_L_turned) Pg_mixed Tryz.func18 (by kernel_rfl) (by kernel_rfl) (by kernel_rfl) (by kernel_rfl) (Eq.mpr (by kernel_rfl) h)
def v_L_set (l_ : Sl) (H : Heap) (k : Sl → Heap → Prop) : Prop :=
 Lt (IntKind.wrap .i64 ((l_.len : Int) + 80)) fun t1 =>
 Mks T_int 1 8 #[.int .i64 0] t1 t1 H fun l1 H1 =>
 Cpy 1 l1 l_ H1 fun n1 H2 =>
 LoopT (σ := Int) (fun next1 s1 H3 =>
 Br (decide (s1 < (l1.len : Int))) (
 IxA 1 l1 s1 fun a1 =>
 St a1 (.int .i64 (-7)) H3 fun H4 =>
 Lt (IntKind.wrap .i64 (s1 + 1)) fun t2 =>
 next1 t2 H4) (
 SlA 1 l1 0 (l_.len : Int) (l1.cap : Nat) fun l2 =>
 k l2 H3)) (l_.len : Int) H2
def h_L_set : Hint := (.two .no (.two .no (.two .no (.two (.two .no (.one (.loop [(4, (.c (.int .i64)))] .no))) .no))))
theorem c_L_set (l_ : Sl) {H : Heap} {k : Sl → Heap → Prop} (h : v_L_set l_ H k) : CallT Pg f_L_set [slV l_] (.one (.c .sl)) H k :=
 call_of_E (h := h_L_set) Pg_mixed Tryz.func26 (by kernel_rfl) (by kernel_rfl) (by kernel_rfl) (by kernel_rfl) (Eq.mpr (by kernel_rfl) h)
def v_L_routine (r_ : ByteArray × Int × Int × Sl) (H : Heap) (k : ByteArray × Int × Int × Sl → Heap → Prop) : Prop :=
 Nw #[.string r_.1, .int .i64 r_.2.1, .int .i64 r_.2.2.1, slV r_.2.2.2] T_api_Routine H fun b1 H1 =>
 Nw #[.string ByteArray.empty, .int .i64 0, .int .i64 0, .slice none 0 0] T_api_Routine H1 fun b2 H2 =>
 Ld .sl ((adr b1).add 3) H2 fun (x1 : Sl) =>
 Lt (IntKind.wrap .i64 ((x1.len : Int) + 80)) fun t1 =>
 Mks T_api_Instr 2 16 #[.int .i64 0, .int .i64 0] t1 t1 H2 fun l1 H3 =>
 Ld .sl ((adr b1).add 3) H3 fun (x2 : Sl) =>
 Cpy 2 l1 x2 H3 fun n1 H4 =>
 Ld .sl ((adr b1).add 3) H4 fun (x3 : Sl) =>
 LoopT (σ := Int) (fun next1 s1 H5 =>
 Br (decide (s1 < (l1.len : Int))) (
 IxA 2 l1 s1 fun a1 =>
 St (a1.add 0) (.int .i64 (-7)) H5 fun H6 =>
 St (a1.add 1) (.int .i64 0) H6 fun H7 =>
 Lt (IntKind.wrap .i64 (s1 + 1)) fun t2 =>
 next1 t2 H7) (
 Ld .sl ((adr b1).add 3) H5 fun (x4 : Sl) =>
 SlA 2 l1 0 (x4.len : Int) (l1.cap : Nat) fun l2 =>
 St ((adr b1).add 3) (slV l2) H5 fun H8 =>
 LdC [.str, (.int .i64), (.int .i64), .sl] (adr b1) H8 fun (c1 : ByteArray × Int × Int × Sl) =>
 St ((adr b2).add 0) (.string c1.1) H8 fun H9 =>
 St ((adr b2).add 1) (.int .i64 c1.2.1) H9 fun H10 =>
 St ((adr b2).add 2) (.int .i64 c1.2.2.1) H10 fun H11 =>
 St ((adr b2).add 3) (slV c1.2.2.2) H11 fun H12 =>
 LdC [.str, (.int .i64), (.int .i64), .sl] (adr b2) H12 fun (c2 : ByteArray × Int × Int × Sl) =>
 k (c2.1, c2.2.1, c2.2.2.1, c2.2.2.2) H12)) (x3.len : Int) H4
def h_L_routine : Hint := (.two .no (.two .no (.two .no (.two (.two .no (.one (.loop [(4, (.c (.int .i64)))] .no))) .no))))
theorem c_L_routine (r_ : ByteArray × Int × Int × Sl) {H : Heap} {k : ByteArray × Int × Int × Sl → Heap → Prop} (h : v_L_routine r_ H k) : CallT Pg f_L_routine [.agg #[.string r_.1, .int .i64 r_.2.1, .int .i64 r_.2.2.1, slV r_.2.2.2]] (.one (.agg [.str, (.int .i64), (.int .i64), .sl])) H k :=
 call_of_E (h := h_L_routine) Pg_mixed Tryz.func27 (by kernel_rfl) (by kernel_rfl) (by kernel_rfl) (by kernel_rfl) (Eq.mpr (by kernel_rfl) h)
def v_L_alike (a_ : Int × Int × Int × Sl × Int × Int × Sl) (b_ : Int × Int × Int × Sl × Int × Int × Sl) (H : Heap) (k : Bool → Heap → Prop) : Prop :=
 Nw #[.int .i64 a_.1, .int .i64 a_.2.1, .int .i64 a_.2.2.1, slV a_.2.2.2.1, .int .i64 a_.2.2.2.2.1, .int .i64 a_.2.2.2.2.2.1, slV a_.2.2.2.2.2.2] T_api_Env H fun b1 H1 =>
 Nw #[.int .i64 b_.1, .int .i64 b_.2.1, .int .i64 b_.2.2.1, slV b_.2.2.2.1, .int .i64 b_.2.2.2.2.1, .int .i64 b_.2.2.2.2.2.1, slV b_.2.2.2.2.2.2] T_api_Env H1 fun b2 H2 =>
 Jn (σ := Bool) (fun kk1 =>
 Ld (.int .i64) (adr b1) H2 fun (x1 : Int) =>
 Ld (.int .i64) (adr b2) H2 fun (x2 : Int) =>
 Br (x1 != x2) (
 kk1 true H2) (
 Ld (.int .i64) ((adr b1).add 1) H2 fun (x3 : Int) =>
 Ld (.int .i64) ((adr b2).add 1) H2 fun (x4 : Int) =>
 Br (x3 != x4) (
 kk1 true H2) (
 Ld (.int .i64) ((adr b1).add 2) H2 fun (x5 : Int) =>
 Ld (.int .i64) ((adr b2).add 2) H2 fun (x6 : Int) =>
 Br (x5 != x6) (
 kk1 true H2) (
 LdC [(.int .i64), (.int .i64)] ((adr b1).add 4) H2 fun (c1 : Int × Int) =>
 LdC [(.int .i64), (.int .i64)] ((adr b2).add 4) H2 fun (c2 : Int × Int) =>
 Br (!(eqL [(.int .i64), (.int .i64)] (c1.1, c1.2) (c2.1, c2.2))) (
 kk1 true H2) (
 Ld .sl ((adr b1).add 3) H2 fun (x7 : Sl) =>
 Ld .sl ((adr b2).add 3) H2 fun (x8 : Sl) =>
 kk1 ((x7.len : Int) != (x8.len : Int)) H2))))) fun j1 H3 =>
 Br j1 (
 k false H3) (
 LoopT (σ := Int) (fun next1 s1 H4 =>
 Ld .sl ((adr b1).add 3) H4 fun (x9 : Sl) =>
 Br (decide (s1 < (x9.len : Int))) (
 Ld .sl ((adr b1).add 3) H4 fun (x10 : Sl) =>
 IxA 3 x10 s1 fun a1 =>
 LdC [(.int .i64), (.int .i64), (.int .i64)] a1 H4 fun (c3 : Int × Int × Int) =>
 Ld .sl ((adr b2).add 3) H4 fun (x11 : Sl) =>
 IxA 3 x11 s1 fun a2 =>
 LdC [(.int .i64), (.int .i64), (.int .i64)] a2 H4 fun (c4 : Int × Int × Int) =>
 Br (!(eqL [(.int .i64), (.int .i64), (.int .i64)] (c3.1, c3.2.1, c3.2.2) (c4.1, c4.2.1, c4.2.2))) (
 k false H4) (
 Lt (IntKind.wrap .i64 (s1 + 1)) fun t1 =>
 next1 t1 H4)) (
 Ld .sl (((adr b1).add 4).add 2) H4 fun (x12 : Sl) =>
 Ld .sl (((adr b2).add 4).add 2) H4 fun (x13 : Sl) =>
 CallT Pg f_L_parts [slV x12, slV x13] (.one (.c .bool)) H4 fun (r1 : Bool) H5 =>
 k r1 H5)) 0 H3)
def h_L_alike : Hint := (.two .no (.two (.two (.join [(42, (.c .bool))] .no) .no) (.two (.two .no (.one (.loop [(5, (.c (.int .i64)))] .no))) .no)))
theorem c_L_alike (a_ : Int × Int × Int × Sl × Int × Int × Sl) (b_ : Int × Int × Int × Sl × Int × Int × Sl) {H : Heap} {k : Bool → Heap → Prop} (h : v_L_alike a_ b_ H k) : CallT Pg f_L_alike [.agg #[.int .i64 a_.1, .int .i64 a_.2.1, .int .i64 a_.2.2.1, slV a_.2.2.2.1, .int .i64 a_.2.2.2.2.1, .int .i64 a_.2.2.2.2.2.1, slV a_.2.2.2.2.2.2], .agg #[.int .i64 b_.1, .int .i64 b_.2.1, .int .i64 b_.2.2.1, slV b_.2.2.2.1, .int .i64 b_.2.2.2.2.1, .int .i64 b_.2.2.2.2.2.1, slV b_.2.2.2.2.2.2]] (.one (.c .bool)) H k :=
 call_of_E (h := h_L_alike) Pg_mixed Tryz.func33 (by kernel_rfl) (by kernel_rfl) (by kernel_rfl) (by kernel_rfl) (Eq.mpr (by kernel_rfl) h)
def v_L_sets (a_ : Sl) (b_ : Sl) (H : Heap) (k : Bool → Heap → Prop) : Prop :=
 Br ((a_.len : Int) != (b_.len : Int)) (
 k false H) (
 Lt (IntKind.wrap .i64 ((a_.len : Int) + 80)) fun t1 =>
 SlA 1 a_ 0 t1 (a_.cap : Nat) fun l1 =>
 LoopT (σ := Int) (fun next1 s1 H1 =>
 Br (decide (s1 < (l1.len : Int))) (
 Jn (σ := Bool) (fun kk1 =>
 Br (decide (s1 < (b_.len : Int))) (
 IxA 1 l1 s1 fun a1 =>
 Ld (.int .i64) a1 H1 fun (x1 : Int) =>
 IxA 1 b_ s1 fun a2 =>
 Ld (.int .i64) a2 H1 fun (x2 : Int) =>
 Br (x1 != x2) (
 kk1 true H1) (
 Br (decide (s1 ≥ (b_.len : Int))) (
 IxA 1 l1 s1 fun a3 =>
 Ld (.int .i64) a3 H1 fun (x3 : Int) =>
 kk1 (x3 != (-7)) H1) (
 kk1 false H1))) (
 Br (decide (s1 ≥ (b_.len : Int))) (
 IxA 1 l1 s1 fun a4 =>
 Ld (.int .i64) a4 H1 fun (x4 : Int) =>
 kk1 (x4 != (-7)) H1) (
 kk1 false H1))) fun j1 H2 =>
 Br j1 (
 k false H2) (
 Lt (IntKind.wrap .i64 (s1 + 1)) fun t2 =>
 next1 t2 H2)) (
 k true H1)) 0 H)
def h_L_sets : Hint := (.two .no (.two .no (.two .no (.two (.two .no (.one (.loop [(6, (.c (.int .i64)))] (.two .no (.two (.one (.two (.join [(50, (.c .bool))] .no) .no)) .no))))) .no))))
theorem c_L_sets (a_ : Sl) (b_ : Sl) {H : Heap} {k : Bool → Heap → Prop} (h : v_L_sets a_ b_ H k) : CallT Pg f_L_sets [slV a_, slV b_] (.one (.c .bool)) H k :=
 call_of_E (h := h_L_sets) Pg_mixed Tryz.func34 (by kernel_rfl) (by kernel_rfl) (by kernel_rfl) (by kernel_rfl) (Eq.mpr (by kernel_rfl) h)
def v_L_routines (a_ : ByteArray × Int × Int × Sl) (b_ : ByteArray × Int × Int × Sl) (H : Heap) (k : Bool → Heap → Prop) : Prop :=
 Nw #[.string a_.1, .int .i64 a_.2.1, .int .i64 a_.2.2.1, slV a_.2.2.2] T_api_Routine H fun b1 H1 =>
 Nw #[.string b_.1, .int .i64 b_.2.1, .int .i64 b_.2.2.1, slV b_.2.2.2] T_api_Routine H1 fun b2 H2 =>
 Jn (σ := Bool) (fun kk1 =>
 Ld .str (adr b1) H2 fun (x1 : ByteArray) =>
 Ld .str (adr b2) H2 fun (x2 : ByteArray) =>
 Br (!(x1.toList == x2.toList)) (
 kk1 true H2) (
 Ld (.int .i64) ((adr b1).add 1) H2 fun (x3 : Int) =>
 Ld (.int .i64) ((adr b2).add 1) H2 fun (x4 : Int) =>
 Br (x3 != x4) (
 kk1 true H2) (
 Ld (.int .i64) ((adr b1).add 2) H2 fun (x5 : Int) =>
 Ld (.int .i64) ((adr b2).add 2) H2 fun (x6 : Int) =>
 Br (x5 != x6) (
 kk1 true H2) (
 Ld .sl ((adr b1).add 3) H2 fun (x7 : Sl) =>
 Ld .sl ((adr b2).add 3) H2 fun (x8 : Sl) =>
 kk1 ((x7.len : Int) != (x8.len : Int)) H2)))) fun j1 H3 =>
 Br j1 (
 k false H3) (
 Ld .sl ((adr b1).add 3) H3 fun (x9 : Sl) =>
 Ld .sl ((adr b1).add 3) H3 fun (x10 : Sl) =>
 Lt (IntKind.wrap .i64 ((x10.len : Int) + 80)) fun t1 =>
 SlA 2 x9 0 t1 (x9.cap : Nat) fun l1 =>
 LoopT (σ := Int) (fun next1 s1 H4 =>
 Br (decide (s1 < (l1.len : Int))) (
 Jn (σ := Bool) (fun kk2 =>
 Ld .sl ((adr b2).add 3) H4 fun (x11 : Sl) =>
 Br (decide (s1 < (x11.len : Int))) (
 IxA 2 l1 s1 fun a1 =>
 LdC [(.int .i64), (.int .i64)] a1 H4 fun (c1 : Int × Int) =>
 Ld .sl ((adr b2).add 3) H4 fun (x12 : Sl) =>
 IxA 2 x12 s1 fun a2 =>
 LdC [(.int .i64), (.int .i64)] a2 H4 fun (c2 : Int × Int) =>
 Br (!(eqL [(.int .i64), (.int .i64)] (c1.1, c1.2) (c2.1, c2.2))) (
 kk2 true H4) (
 Ld .sl ((adr b2).add 3) H4 fun (x13 : Sl) =>
 Br (decide (s1 ≥ (x13.len : Int))) (
 IxA 2 l1 s1 fun a3 =>
 LdC [(.int .i64), (.int .i64)] a3 H4 fun (c3 : Int × Int) =>
 kk2 (!(eqL [(.int .i64), (.int .i64)] (c3.1, c3.2) (-7, 0))) H4) (
 kk2 false H4))) (
 Ld .sl ((adr b2).add 3) H4 fun (x14 : Sl) =>
 Br (decide (s1 ≥ (x14.len : Int))) (
 IxA 2 l1 s1 fun a4 =>
 LdC [(.int .i64), (.int .i64)] a4 H4 fun (c4 : Int × Int) =>
 kk2 (!(eqL [(.int .i64), (.int .i64)] (c4.1, c4.2) (-7, 0))) H4) (
 kk2 false H4))) fun j2 H5 =>
 Br j2 (
 k false H5) (
 Lt (IntKind.wrap .i64 (s1 + 1)) fun t2 =>
 next1 t2 H5)) (
 k true H4)) 0 H3)
def h_L_routines : Hint := (.two .no (.two (.two (.join [(34, (.c .bool))] .no) .no) (.two .no (.two (.two .no (.one (.loop [(6, (.c (.int .i64)))] (.two .no (.two (.one (.two (.join [(79, (.c .bool))] .no) .no)) .no))))) .no))))
theorem c_L_routines (a_ : ByteArray × Int × Int × Sl) (b_ : ByteArray × Int × Int × Sl) {H : Heap} {k : Bool → Heap → Prop} (h : v_L_routines a_ b_ H k) : CallT Pg f_L_routines [.agg #[.string a_.1, .int .i64 a_.2.1, .int .i64 a_.2.2.1, slV a_.2.2.2], .agg #[.string b_.1, .int .i64 b_.2.1, .int .i64 b_.2.2.1, slV b_.2.2.2]] (.one (.c .bool)) H k :=
 call_of_E (h := h_L_routines) Pg_mixed Tryz.func35 (by kernel_rfl) (by kernel_rfl) (by kernel_rfl) (by kernel_rfl) (Eq.mpr (by kernel_rfl) h)
def v_L_wipe (l_ : Sl) (H : Heap) (k : Unit → Heap → Prop) : Prop :=
 LoopT (σ := Int) (fun next1 s1 H1 =>
 Br (decide (s1 < (l_.len : Int))) (
 IxA 1 l_ s1 fun a1 =>
 St a1 (.int .i64 (-77)) H1 fun H2 =>
 Lt (IntKind.wrap .i64 (s1 + 1)) fun t1 =>
 next1 t1 H2) (
 LoopT (σ := Sl × Int) (fun next2 s2 H3 =>
 Br (decide (s2.2 < 70)) (
 Nw #[.int .i64 (-77)] T_int64 H3 fun b1 H4 =>
 App T_int64 1 8 #[.int .i64 0] s2.1 ⟨some (adr b1), 1, 1⟩ H4 fun l1 H5 =>
 Lt (IntKind.wrap .i64 (s2.2 + 1)) fun t2 =>
 next2 (l1, t2) H5) (
 k () H3)) (l_, 0) H1)) 0 H
def h_L_wipe : Hint := (.two (.two .no (.one (.loop [(2, (.c (.int .i64)))] .no))) (.two .no (.one (.loop [(0, (.c .sl)), (3, (.c (.int .i64)))] .no))))
theorem c_L_wipe (l_ : Sl) {H : Heap} {k : Unit → Heap → Prop} (h : v_L_wipe l_ H k) : CallT Pg f_L_wipe [slV l_] (.tup []) H k :=
 call_of_E (h := h_L_wipe) Pg_mixed Tryz.func38 (by kernel_rfl) (by kernel_rfl) (by kernel_rfl) (by kernel_rfl) (Eq.mpr (by kernel_rfl) h)
end
end Go.Proofs.YtfpmgpblhhcpgaaGreat
