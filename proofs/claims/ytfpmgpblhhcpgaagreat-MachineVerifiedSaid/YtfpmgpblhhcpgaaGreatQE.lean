/-
  Machine: outcomes, told plainly; are two one?
-/
import Derived.Test.YtfpmgpblhhcpgaaGreatVLawB
import Derived.Test.YtfpmgpblhhcpgaaGreatVVer
import Derived.Test.YtfpmgpblhhcpgaaGreatHcDiceMath
import Derived.Test.YtfpmgpblhhcpgaaGreatHcLists
import Derived.KernelRfl
import Derived.Test.YtfpmgpblhhcpgaaGreatProg
namespace Go.Proofs.YtfpmgpblhhcpgaaGreat
set_option linter.unusedVariables false
set_option linter.unusedSimpArgs false
set_option maxRecDepth 100000
section
open Hc Hc.Vf Hc.Mc Hc.Dice
variable {H : Heap}
instance : Inhabited CmP := ⟨⟨0, (0, 0), 0, ⟨none, 0, 0⟩, [], ⟨none, 0, 0⟩, []⟩⟩
structure Outc where
  vals : List Pt
  cmds : List Cm
  evs : List Ev
  st : Int
  er : Int
def partsP (vals : List Pt) (ks : List Int) : List Pt := ks.filterMap fun k => vals.find? fun p => p.kind == k
abbrev sortU (l : List Int) : List Int := Lib.compact (l.mergeSort fun a b => decide (a ≤ b))
def IsOut (P : MP) (E : En) (m0 : Ms) (o : Outc) : Prop :=
  (∃ N m', Runs P E m0 N 0 m' ∧ o = ⟨partsP m'.vals (sortU P.writes), m'.cmds, m'.evs, m'.steps, 0⟩) ∨ ∃ N er m', er ≠ 0 ∧ Runs P E m0 N er m' ∧ o = ⟨[], [], [], m'.steps, er⟩
theorem IsOut.unique {P : MP} {E : En} {m0 : Ms} {o o' : Outc} (h : IsOut P E m0 o) (h' : IsOut P E m0 o') : o = o' := by
  rcases h with ⟨N, m, h, rfl⟩ | ⟨N, er, m, hne, h, rfl⟩ <;> rcases h' with ⟨N', m', h', rfl⟩ | ⟨N', er', m', hne', h', rfl⟩
  · obtain ⟨_, _, rfl⟩ := h.unique h'; rfl
  · exact absurd (h.unique h').2.1.symm hne'
  · exact absurd (h.unique h').2.1 hne
  · obtain ⟨_, rfl, rfl⟩ := h.unique h'; rfl
def OutIs (lim : Int) (ss : List Sy) (fs : List Rou) (n : Int) (E : En) (parts : List Pt) (o : Outc) : Prop :=
  if 0 ≤ n ∧ n < (ss.length : Int) then IsOut ⟨fs.map fnOf, fnOf (ss[n.toNat]!).rou, (ss[n.toNat]!).l 2, (ss[n.toNat]!).l 3, n, lim⟩ E (initM ⟨fs.map fnOf, fnOf (ss[n.toNat]!).rou, (ss[n.toNat]!).l 2, (ss[n.toNat]!).l 3, n, lim⟩ E parts) o
  else o = ⟨[], [], [], 0, 190⟩
theorem OutIs.unique {lim : Int} {ss : List Sy} {fs : List Rou} {n : Int} {E : En} {parts : List Pt} {o o' : Outc} (h : OutIs lim ss fs n E parts o) (h' : OutIs lim ss fs n E parts o') : o = o' := by
  unfold OutIs at h h'
  split at h
  · rw [if_pos ‹_›] at h'; exact h.unique h'
  · rw [if_neg ‹_›] at h'; rw [h, h']
abbrev OutS := Sl × Sl × Sl × Int × Int
structure OutRd (H : Heap) (r : OutS) (o : Outc) (ps : List PtP) (cl : List CmP) : Prop where
  vv : RN ptV 2 H r.1 ps
  vR : ∀ q ∈ ps, RL (Value.int .i64) H q.sl q.vals
  cv : RN cmV 6 H r.2.1 cl
  cR : ∀ q ∈ cl, RL (Value.int .i64) H q.vsl q.vals ∧ RN ptV 2 H q.psl q.parts ∧ ∀ p ∈ q.parts, RL (Value.int .i64) H p.sl p.vals
  ev : RN evV 5 H r.2.2.1 o.evs
  vals : ps.map PtP.pt = o.vals
  cmds : cl.map CmP.cm = o.cmds
  st : r.2.2.2.1 = o.st
  er : r.2.2.2.2 = o.er
theorem OutRd.ext {H' : Heap} {r : OutS} {o : Outc} {ps : List PtP} {cl : List CmP} (h : OutRd H r o ps cl) (hE : Ext H H') : OutRd H' r o ps cl :=
  ⟨h.vv.ext hE, fun q hq => (h.vR q hq).ext hE, h.cv.ext hE, fun q hq => ⟨(h.cR q hq).1.ext hE, (h.cR q hq).2.1.ext hE, fun p hp => ((h.cR q hq).2.2 p hp).ext hE⟩, h.ev.ext hE, h.vals, h.cmds, h.st, h.er⟩
structure OutM (lo : Nat) (H : Heap) (r : OutS) (o : Outc) (ps : List PtP) (cl : List CmP) : Prop where
  out : OutR lo H r.1 r.2.1 r.2.2.1 ps cl o.evs
  vals : ps.map PtP.pt = o.vals
  cmds : cl.map CmP.cm = o.cmds
  st : r.2.2.2.1 = o.st
  er : r.2.2.2.2 = o.er
theorem OutM.rd {lo : Nat} {r : OutS} {o : Outc} {ps : List PtP} {cl : List CmP} (h : OutM lo H r o ps cl) : OutRd H r o ps cl :=
  ⟨VecN.rn ptV_len (by decide) h.out.vv, fun q hq => (h.out.vR q hq).rl, VecN.rn cmV_len (by decide) h.out.cv, fun q hq => ⟨(h.out.cR q hq).1.rl, VecN.rn ptV_len (by decide) (h.out.cR q hq).2.1, fun p hp => ((h.out.cR q hq).2.2 p hp).rl⟩, VecN.rn evV_len (by decide) h.out.ev, h.vals, h.cmds, h.st, h.er⟩
theorem OutM.upd {lo : Nat} {H' : Heap} {M : Nat → Prop} {r : OutS} {o : Outc} {ps : List PtP} {cl : List CmP} (h : OutM lo H r o ps cl) (hU : Upd M H H') (hM : ∀ b, lo ≤ b → b < H.size → ¬ M b) : OutM lo H' r o ps cl := by
  have hn := h.out.new
  have key : ∀ {T : TypeId} {m : Nat} {s : Sl} {vs : List Value}, s ∈ r.1 :: r.2.1 :: r.2.2.1 :: (ps.map PtP.sl ++ cl.flatMap cmSl ++ cl.map CmP.psl) → VecN H T m s vs → VecN H' T m s vs := fun hm hv => hv.upd hU fun b hb => hM b (hn _ hm b hb) (hv.lt hb)
  have key1 : ∀ {T : TypeId} {s : Sl} {vs : List Value}, s ∈ r.1 :: r.2.1 :: r.2.2.1 :: (ps.map PtP.sl ++ cl.flatMap cmSl ++ cl.map CmP.psl) → Vec H T s vs → Vec H' T s vs := fun hm hv => hv.upd hU fun b hb => hM b (hn _ hm b hb) (hv.lt hb)
  refine ⟨⟨key (by simp) h.out.vv, fun q hq => key1 ?_ (h.out.vR q hq), key (by simp) h.out.cv, fun q hq => ⟨key1 ?_ (h.out.cR q hq).1, key ?_ (h.out.cR q hq).2.1, fun p hp => key1 ?_ ((h.out.cR q hq).2.2 p hp)⟩, key (by simp) h.out.ev, h.out.ap, h.out.pa, hn⟩, h.vals, h.cmds, h.st, h.er⟩
  · simp only [List.mem_cons, List.mem_append]
    exact .inr (.inr (.inr (.inl (.inl (List.mem_map.2 ⟨q, hq, rfl⟩)))))
  · simp only [List.mem_cons, List.mem_append]
    exact .inr (.inr (.inr (.inl (.inr (List.mem_flatMap.2 ⟨q, hq, List.mem_cons_self⟩)))))
  · simp only [List.mem_cons, List.mem_append]
    exact .inr (.inr (.inr (.inr (List.mem_map.2 ⟨q, hq, rfl⟩))))
  · simp only [List.mem_cons, List.mem_append]
    exact .inr (.inr (.inr (.inl (.inr (List.mem_flatMap.2 ⟨q, hq, List.mem_cons_of_mem _ (List.mem_map.2 ⟨p, hp, rfl⟩)⟩)))))
theorem OutM.nil (lo : Nat) (H : Heap) (st er : Int) : OutM lo H (⟨none, 0, 0⟩, ⟨none, 0, 0⟩, ⟨none, 0, 0⟩, st, er) ⟨[], [], [], st, er⟩ [] [] :=
  ⟨⟨VecN.nil _ _ _, (fun q h => by cases h), VecN.nil _ _ _, (fun q h => by cases h), VecN.nil _ _ _, .nil, by simp, fun s hs b hb => by
    simp only [List.map_nil, List.flatMap_nil, List.append_nil, List.mem_cons, List.not_mem_nil, or_false] at hs
    rcases hs with rfl | rfl | rfl <;> cases hb⟩, rfl, rfl, rfl, rfl⟩
abbrev BoolR : RTy := .one (.c .bool)
structure OutSm (o : Outc) (ps : List PtP) (cl : List CmP) : Prop where
  h_ps : ps.length ≤ 2 ^ 60
  h_pv : ∀ q ∈ ps, q.vals.length ≤ 2 ^ 60
  h_cl : cl.length ≤ 2 ^ 60
  h_cv : ∀ q ∈ cl, q.vals.length ≤ 2 ^ 60 ∧ q.parts.length ≤ 2 ^ 60 ∧ ∀ p ∈ q.parts, p.vals.length ≤ 2 ^ 60
  h_ev : o.evs.length ≤ 2 ^ 60
end
section
open Hc Hc.Vf Hc.Mc Hc.Dice
variable {H : Heap}
def SmM (m : Ms) : Prop := (∀ p ∈ m.kept, p.vals.length ≤ 64) ∧ ∀ c ∈ m.cmds, c.vals.length ≤ 64 ∧ c.parts.length ≤ 12 ∧ ∀ p ∈ c.parts, p.vals.length ≤ 64
abbrev outV (r : OutS) : List Value := [slV r.1, slV r.2.1, slV r.2.2.1, .int .i64 r.2.2.2.1, .int .i64 r.2.2.2.2]
abbrev stE (b2 : Nat) (e : EnV) : List (Addr × Value) := [(⟨b2, 0, none⟩, .int .i64 e.fr), (⟨b2, 1, none⟩, .int .i64 e.sd), (⟨b2, 2, none⟩, .int .i64 e.en), (⟨b2, 3, none⟩, .slice e.inS.a e.inS.len e.inS.cap), (⟨b2, 4, none⟩, .int .i64 e.ix), (⟨b2, 5, none⟩, .int .i64 e.gn), (⟨b2, 6, none⟩, .slice e.rp.a e.rp.len e.rp.cap)]
abbrev stP (b1 : Nat) (p : Sl × Sl) : List (Addr × Value) := [(⟨b1, 0, none⟩, .slice p.1.a p.1.len p.1.cap), (⟨b1, 1, none⟩, .slice p.2.a p.2.len p.2.cap)]
end
section
open Hc
abbrev fQev : FuncId := 6
def vQek (p_ : Sl × Sl) (kinds_ : Sl) (system_ : Int) (e_ : Int × Int × Int × Sl × Int × Int × Sl) (values_ : Sl) (H : Heap) (k : Bool → Heap → Prop) : Prop :=
 Nw #[slV p_.1, slV p_.2] TQaj H fun b1 H1 =>
 Nw #[.int .i64 e_.1, .int .i64 e_.2.1, .int .i64 e_.2.2.1, slV e_.2.2.2.1, .int .i64 e_.2.2.2.2.1, .int .i64 e_.2.2.2.2.2.1, slV e_.2.2.2.2.2.2] TQae H1 fun b2 H2 =>
 CallT Pg fQen [] (.one (.c .bool)) H2 fun (r1 : Bool) H3 =>
 Br (!r1) (
 k false H3) (
 Jn (σ := Bool) (fun kk1 =>
 LdC [.sl, .sl] (adr b1) H3 fun (c1 : Sl × Sl) =>
 CallT Pg fQc2 [.agg #[slV c1.1, slV c1.2], slV kinds_] (.one (.c .raw)) H3 fun (r2 : Value) H5 =>
 IfNil r2 fun e1 =>
 Br (!e1) (
 kk1 true H5) (
 Br (decide (system_ < 0)) (
 kk1 true H5) (
 Ld .sl (adr b1) H5 fun (x1 : Sl) =>
 kk1 (decide (system_ ≥ (x1.len : Int))) H5))) fun j1 H4 =>
 Br j1 (
 k true H4) (
 LdC [(.int .i64), (.int .i64), (.int .i64), .sl, (.int .i64), (.int .i64), .sl] (adr b2) H4 fun (c2 : Int × Int × Int × Sl × Int × Int × Sl) =>
 CallT Pg fQeo [.agg #[.int .i64 c2.1, .int .i64 c2.2.1, .int .i64 c2.2.2.1, slV c2.2.2.2.1, .int .i64 c2.2.2.2.2.1, .int .i64 c2.2.2.2.2.2.1, slV c2.2.2.2.2.2.2]] (.one (.agg [(.int .i64), (.int .i64), (.int .i64), .sl, (.int .i64), (.int .i64), .sl])) H4 fun (r3 : Int × Int × Int × Sl × Int × Int × Sl) H6 =>
 Nw #[.int .i64 0, .int .i64 0, .int .i64 0, .slice none 0 0, .int .i64 0, .int .i64 0, .slice none 0 0] TQae H6 fun b3 H7 =>
 St ((adr b3).add 0) (.int .i64 r3.1) H7 fun H8 =>
 St ((adr b3).add 1) (.int .i64 r3.2.1) H8 fun H9 =>
 St ((adr b3).add 2) (.int .i64 r3.2.2.1) H9 fun H10 =>
 St ((adr b3).add 3) (slV r3.2.2.2.1) H10 fun H11 =>
 St ((adr b3).add 4) (.int .i64 r3.2.2.2.2.1) H11 fun H12 =>
 St ((adr b3).add 5) (.int .i64 r3.2.2.2.2.2.1) H12 fun H13 =>
 St ((adr b3).add 6) (slV r3.2.2.2.2.2.2) H13 fun H14 =>
 St (((adr b3).add 4).add 2) (.slice none 0 0) H14 fun H15 =>
 Ld .sl (adr b1) H15 fun (x2 : Sl) =>
 IxA 8 x2 system_ fun a1 =>
 LdC [.sl, .sl, .sl, .sl, .str, (.int .i64), (.int .i64), .sl] a1 H15 fun (c3 : Sl × Sl × Sl × Sl × ByteArray × Int × Int × Sl) =>
 Nw #[.slice none 0 0, .slice none 0 0, .slice none 0 0, .slice none 0 0, .string ByteArray.empty, .int .i64 0, .int .i64 0, .slice none 0 0] TQaw H15 fun b4 H16 =>
 St ((adr b4).add 0) (slV c3.1) H16 fun H17 =>
 St ((adr b4).add 1) (slV c3.2.1) H17 fun H18 =>
 St ((adr b4).add 2) (slV c3.2.2.1) H18 fun H19 =>
 St ((adr b4).add 3) (slV c3.2.2.2.1) H19 fun H20 =>
 St ((adr b4).add 4) (.string c3.2.2.2.2.1) H20 fun H21 =>
 St ((adr b4).add 5) (.int .i64 c3.2.2.2.2.2.1) H21 fun H22 =>
 St ((adr b4).add 6) (.int .i64 c3.2.2.2.2.2.2.1) H22 fun H23 =>
 St ((adr b4).add 7) (slV c3.2.2.2.2.2.2.2) H23 fun H24 =>
 LoopT (σ := Int × Int) (fun next1 s1 H25 =>
 Br (decide (s1.2 ≤ (kinds_.len : Int))) (
 Jn (σ := Int) (fun kk2 =>
 Rem s1.2 2 fun t1 =>
 LoopT (σ := Bool × Int) (fun next2 s2 H27 =>
 Ld .sl ((adr b4).add 2) H27 fun (x3 : Sl) =>
 Br (decide (s2.2 < (x3.len : Int))) (
 Jn (σ := Bool) (fun kk3 =>
 Br s2.1 (
 kk3 true H27) (
 Ld .sl ((adr b4).add 2) H27 fun (x4 : Sl) =>
 IxA 1 x4 s2.2 fun a2 =>
 Ld (.int .i64) a2 H27 fun (x5 : Int) =>
 kk3 (x5 == s1.2) H27)) fun j3 H28 =>
 Lt (IntKind.wrap .i64 (s2.2 + 1)) fun t2 =>
 next2 (j3, t2) H28) (
 LoopT (σ := Bool × Int) (fun next3 s3 H29 =>
 Ld .sl ((adr b4).add 3) H29 fun (x6 : Sl) =>
 Br (decide (s3.2 < (x6.len : Int))) (
 Jn (σ := Bool) (fun kk4 =>
 Br s3.1 (
 kk4 true H29) (
 Ld .sl ((adr b4).add 3) H29 fun (x7 : Sl) =>
 IxA 1 x7 s3.2 fun a3 =>
 Ld (.int .i64) a3 H29 fun (x8 : Int) =>
 kk4 (x8 == s1.2) H29)) fun j4 H30 =>
 Lt (IntKind.wrap .i64 (s3.2 + 1)) fun t3 =>
 next3 (j4, t3) H30) (
 Br (!s3.1) (
 kk2 s1.1 H29) (
 Nw #[.int .i64 0, .slice none 0 0] TQai H29 fun b5 H31 =>
 St ((adr b5).add 0) (.int .i64 s1.2) H31 fun H32 =>
 St ((adr b5).add 1) (.slice none 0 0) H32 fun H33 =>
 LoopT (σ := Int × Int) (fun next4 s4 H34 =>
 Lt (IntKind.wrap .i64 (s1.2 - 1)) fun t4 =>
 IxA 2 kinds_ t4 fun a4 =>
 Ld .sl (a4.add 1) H34 fun (x9 : Sl) =>
 Br (decide (s4.2 < (x9.len : Int))) (
 Jn (σ := Int) (fun kk5 =>
 Br (decide (s4.1 < (values_.len : Int))) (
 IxA 1 values_ s4.1 fun a5 =>
 Ld (.int .i64) a5 H34 fun (x10 : Int) =>
 kk5 x10 H34) (
 kk5 s4.1 H34)) fun j5 H35 =>
 Ld .sl ((adr b5).add 1) H35 fun (x11 : Sl) =>
 Nw #[.int .i64 j5] TQaq H35 fun b6 H36 =>
 App TQaq 1 8 #[.int .i64 0] x11 ⟨some (adr b6), 1, 1⟩ H36 fun l1 H37 =>
 St ((adr b5).add 1) (slV l1) H37 fun H38 =>
 Lt (IntKind.wrap .i64 (s4.1 + 1)) fun t5 =>
 Lt (IntKind.wrap .i64 (s4.2 + 1)) fun t6 =>
 next4 (t5, t6) H38) (
 Ld .sl (((adr b3).add 4).add 2) H34 fun (x12 : Sl) =>
 LdC [(.int .i64), .sl] (adr b5) H34 fun (c4 : Int × Sl) =>
 Nw #[.int .i64 c4.1, slV c4.2] TQai H34 fun b7 H39 =>
 App TQai 2 32 #[.int .i64 0, .slice none 0 0] x12 ⟨some (adr b7), 1, 1⟩ H39 fun l2 H40 =>
 St (((adr b3).add 4).add 2) (slV l2) H40 fun H41 =>
 kk2 s4.1 H41)) (s1.1, 0) H33))) (s2.1, 0) H27)) (t1 == 0, 0) H25) fun j2 H26 =>
 Lt (IntKind.wrap .i64 (s1.2 + 1)) fun t7 =>
 next1 (j2, t7) H26) (
 LdC [.sl, .sl] (adr b1) H25 fun (c5 : Sl × Sl) =>
 LdC [(.int .i64), (.int .i64), (.int .i64), .sl, (.int .i64), (.int .i64), .sl] (adr b3) H25 fun (c6 : Int × Int × Int × Sl × Int × Int × Sl) =>
 CallT Pg fQeo [.agg #[.int .i64 c6.1, .int .i64 c6.2.1, .int .i64 c6.2.2.1, slV c6.2.2.2.1, .int .i64 c6.2.2.2.2.1, .int .i64 c6.2.2.2.2.2.1, slV c6.2.2.2.2.2.2]] (.one (.agg [(.int .i64), (.int .i64), (.int .i64), .sl, (.int .i64), (.int .i64), .sl])) H25 fun (r4 : Int × Int × Int × Sl × Int × Int × Sl) H42 =>
 Stab [((adr b1).add 0, slV c5.1), ((adr b1).add 1, slV c5.2)] H42 <|
 CallT Pg fQbl [.agg #[slV c5.1, slV c5.2], .int .i64 system_, .agg #[.int .i64 r4.1, .int .i64 r4.2.1, .int .i64 r4.2.2.1, slV r4.2.2.2.1, .int .i64 r4.2.2.2.2.1, .int .i64 r4.2.2.2.2.2.1, slV r4.2.2.2.2.2.2], .int .i64 300000] (.one (.c .bool)) H42 fun (r5 : Bool) H43 =>
 Stab [((adr b3).add 0, .int .i64 c6.1), ((adr b3).add 1, .int .i64 c6.2.1), ((adr b3).add 2, .int .i64 c6.2.2.1), ((adr b3).add 3, slV c6.2.2.2.1), ((adr b3).add 4, .int .i64 c6.2.2.2.2.1), ((adr b3).add 5, .int .i64 c6.2.2.2.2.2.1), ((adr b3).add 6, slV c6.2.2.2.2.2.2)] H43 <|
 Br r5 (
 k true H43) (
 LdC [.sl, .sl] (adr b1) H43 fun (c7 : Sl × Sl) =>
 LdC [(.int .i64), (.int .i64), (.int .i64), .sl, (.int .i64), (.int .i64), .sl] (adr b3) H43 fun (c8 : Int × Int × Int × Sl × Int × Int × Sl) =>
 CallT Pg fQaa [.agg #[slV c7.1, slV c7.2], .int .i64 system_, .agg #[.int .i64 c8.1, .int .i64 c8.2.1, .int .i64 c8.2.2.1, slV c8.2.2.2.1, .int .i64 c8.2.2.2.2.1, .int .i64 c8.2.2.2.2.2.1, slV c8.2.2.2.2.2.2]] (.one (.agg [.sl, .sl, .sl, (.int .i64), (.int .i64)])) H43 fun (r6 : Sl × Sl × Sl × Int × Int) H44 =>
 Nw #[.slice none 0 0, .slice none 0 0, .slice none 0 0, .int .i64 0, .int .i64 0] TQah H44 fun b8 H45 =>
 St ((adr b8).add 0) (slV r6.1) H45 fun H46 =>
 St ((adr b8).add 1) (slV r6.2.1) H46 fun H47 =>
 St ((adr b8).add 2) (slV r6.2.2.1) H47 fun H48 =>
 St ((adr b8).add 3) (.int .i64 r6.2.2.2.1) H48 fun H49 =>
 St ((adr b8).add 4) (.int .i64 r6.2.2.2.2) H49 fun H50 =>
 Jn (σ := Bool) (fun kk6 =>
 Ld (.int .i64) ((adr b8).add 4) H50 fun (x13 : Int) =>
 Br (x13 == 0) (
 kk6 true H50) (
 Ld (.int .i64) ((adr b8).add 4) H50 fun (x14 : Int) =>
 Br (x14 == 120) (
 kk6 true H50) (
 Ld (.int .i64) ((adr b8).add 4) H50 fun (x15 : Int) =>
 kk6 (x15 == 102) H50))) fun j6 H51 =>
 k j6 H51))) (0, 1) H24))
def h_L_MachineVerified : Hint := (.two .no (.two .no (.two .no (.two (.two (.join [(41, (.c .bool))] .no) .no) (.two .no (.two .no (.two .no (.two .no (.two (.two .no (.one (.loop [(14, (.c (.int .i64))), (15, (.c (.int .i64)))] (.two .no (.two (.join [(14, (.c (.int .i64)))] (.one (.two .no (.two (.two .no (.one (.loop [(16, (.c .bool)), (17, (.c (.int .i64)))] (.two .no (.two (.one (.join [(16, (.c .bool))] .no)) .no))))) (.two (.two .no (.one (.loop [(16, (.c .bool)), (18, (.c (.int .i64)))] (.two .no (.two (.one (.join [(16, (.c .bool))] .no)) .no))))) (.two .no (.two .no (.two (.two .no (.one (.loop [(14, (.c (.int .i64))), (20, (.c (.int .i64)))] (.two .no (.two (.one (.two .no (.two (.two .no (.join [(21, (.c (.int .i64)))] .no)) .no))) .no))))) .no)))))))) .no))))) (.two .no (.two .no (.two .no (.two (.join [(10, (.c .bool))] .no) .no)))))))))))))
theorem cQek (p_ : Sl × Sl) (kinds_ : Sl) (system_ : Int) (e_ : Int × Int × Int × Sl × Int × Int × Sl) (values_ : Sl) {H : Heap} {k : Bool → Heap → Prop} (h : vQek p_ kinds_ system_ e_ values_ H k) : CallT Pg fQev [.agg #[slV p_.1, slV p_.2], slV kinds_, .int .i64 system_, .agg #[.int .i64 e_.1, .int .i64 e_.2.1, .int .i64 e_.2.2.1, slV e_.2.2.2.1, .int .i64 e_.2.2.2.2.1, .int .i64 e_.2.2.2.2.2.1, slV e_.2.2.2.2.2.2], slV values_] (.one (.c .bool)) H k :=
 call_of_E (h := h_L_MachineVerified) Pg_mixed Tryz.func6 (by kernel_rfl) (by kernel_rfl) (by kernel_rfl) (by kernel_rfl) (Eq.mpr (by kernel_rfl) h)
end
section
open Hc Hc.Vf Hc.Mc Hc.Dice
variable {H : Heap}
theorem IfNil_ver {lo : Nat} {v : Value} {o : Option (Nat × Nat)} (h : VerOut lo H v o) {k : Bool → Prop} (hk : k o.isNone) : IfNil v k := by
  cases o with
  | none => exact .inl ⟨h, hk⟩
  | some ae => obtain ⟨g, rfl, _⟩ := h; exact .inr ⟨⟨_, _, rfl⟩, hk⟩
theorem ld_fields {ksl : Sl} {ks : List Ki} (hK : KdsR H ksl ks) {t : Int} (h : 1 ≤ t ∧ t ≤ ks.length) {kk : Sl → Prop} (hkk : ∀ s : Sl, s.len = (ks[(t - 1).toNat]!).l.length → kk s) :
    Lt (IntKind.wrap .i64 (t - 1)) fun t3 => IxA 2 ksl t3 fun a1 => Ld .sl (a1.add 1) H fun (x14 : Sl) => kk x14 := by
  have hlen := hK.len
  refine Lt.mk (u := (((t - 1).toNat : Nat) : Int)) (by rw [wrap_i64_id] <;> omega) (IxA_rn' kiV_len hK.rn (by omega) (j := (t - 1).toNat) rfl (by omega) fun a ha => ?_)
  have hm : ks[(t - 1).toNat]! ∈ ks := by rw [getElem!_pos ks _ (by omega)]; exact List.getElem_mem _
  refine Ld_sl (s := (ks[(t - 1).toNat]!).s) ?_ (hkk _ (hK.el _ hm).len)
  have := hcells_iff.1 ha 1 (by simp)
  simpa using this
theorem want_loop {b4 q : Nat} {s : Sy} (hr : Row H b4 TQaw (sysV s)) (hq : q < 4) (hs : RL (Value.int .i64) H (s.s q) (s.l q)) (hl : (s.l q).length ≤ 2 ^ 60) (kd : Int) {w0 : Bool} {K : Bool × Int → Heap → Prop} (hk : ∀ i, K (w0 || decide (kd ∈ s.l q), i) H) :
    LoopT (σ := Bool × Int) (fun next2 s2 H27 =>
      Ld .sl ⟨b4, q, none⟩ H27 fun (x3 : Sl) =>
      Br (decide (s2.2 < (x3.len : Int))) (
        Jn (σ := Bool) (fun kk3 =>
          Br s2.1 (
            kk3 true H27) (
            Ld .sl ⟨b4, q, none⟩ H27 fun (x4 : Sl) =>
            IxA 1 x4 s2.2 fun a2 =>
            Ld (.int .i64) a2 H27 fun (x5 : Int) =>
            kk3 (x5 == kd) H27)) fun j3 H28 =>
        Lt (IntKind.wrap .i64 (s2.2 + 1)) fun t2 =>
        next2 (j3, t2) H28) (K s2 H27)) (w0, 0) H := by
  have hc : hcell H ⟨b4, q, none⟩ = some (slV (s.s q)) := by
    rw [hr.cell]
    rcases q with _ | _ | _ | _ | q
    · rfl
    · rfl
    · rfl
    · rfl
    · omega
  have hlen := hs.len
  refine LoopT.mk (fun (st : Bool × Int) H' => H = H' ∧ ∃ i : Nat, st.2 = i ∧ i ≤ (s.l q).length ∧ st.1 = (w0 || decide (kd ∈ (s.l q).take i))) (fun st _ => (s.l q).length - st.2.toNat) ⟨rfl, 0, rfl, Nat.zero_le _, by simp⟩ ?_
  rintro next ⟨w, _⟩ _ ⟨rfl, i, rfl, hi, hw⟩ hnext
  dsimp only at hw ⊢
  refine Ld_sl hc (Br_dec (fun hlt => ?_) fun hge => ?_)
  · have hi2 : i < (s.l q).length := by omega
    refine Jn.mk (fun j H' => H = H' ∧ j = (w0 || decide (kd ∈ (s.l q).take (i + 1)))) (fun kk hkk => ?_) ?_
    · have e : decide (kd ∈ (s.l q).take (i + 1)) = (decide (kd ∈ (s.l q).take i) || ((s.l q)[i] == kd)) := by
        rw [List.take_add_one, List.getElem?_eq_getElem hi2, Bool.eq_iff_iff]
        simp only [Option.toList_some, List.mem_append, List.mem_singleton, decide_eq_true_eq, Bool.or_eq_true, beq_iff_eq]
        exact or_congr Iff.rfl eq_comm
      refine Br.mk (fun ht => hkk _ _ ⟨rfl, ?_⟩) fun hf => Ld_sl hc (IxA_rl hs rfl hi2 fun a ha => Ld_int ha (hkk _ _ ⟨rfl, ?_⟩))
      · rw [e, ← Bool.or_assoc, ← hw, ht, Bool.true_or]
      · rw [e, ← Bool.or_assoc, ← hw, hf, Bool.false_or]
    · rintro j _ ⟨rfl, rfl⟩
      exact Lt.mk (u := ((i + 1 : Nat) : Int)) (by rw [wrap_i64_id] <;> omega) (hnext _ _ ⟨rfl, i + 1, rfl, hi2, rfl⟩ (by dsimp only; omega))
  · have : i = (s.l q).length := by omega
    subst this
    rw [List.take_length] at hw
    rw [hw]; exact hk _
theorem vals_loop {B : Heap} (hB : Ext B H) {b5 : Nat} (hb5 : B.size ≤ b5) {kd : Int} {ksl : Sl} {ks : List Ki} (hK : KdsR B ksl ks) (hkd : 1 ≤ kd ∧ kd ≤ ks.length) (hf : (ks[(kd - 1).toNat]!).l.length ≤ 4) {vsl : Sl} {vs : List Int} (hv : RL (Value.int .i64) B vsl vs) (hv64 : ∀ x ∈ vs, I64 x)
    (hr : Row H b5 TQai [.int .i64 kd, .slice none 0 0]) {cnt : Int} (hc : 0 ≤ cnt ∧ cnt ≤ 1000) {K : Int × Int → Heap → Prop}
    (hk : ∀ cnt' H' sl xs i, 0 ≤ cnt' → cnt' ≤ cnt + 4 → Upd (fun b => b = b5) H H' → Row H' b5 TQai [.int .i64 kd, slV sl] → Vec H' TQaq sl (ints xs) → (∀ b, sl.a = some (adr b) → H.size ≤ b) → All64 xs → (xs.length : Int) = fieldsI ks kd → K (cnt', i) H') :
    LoopT (σ := Int × Int) (fun next4 s4 H34 =>
      Lt (IntKind.wrap .i64 (kd - 1)) fun t4 =>
      IxA 2 ksl t4 fun a4 =>
      Ld .sl (a4.add 1) H34 fun (x9 : Sl) =>
      Br (decide (s4.2 < (x9.len : Int))) (
        Jn (σ := Int) (fun kk5 =>
          Br (decide (s4.1 < (vsl.len : Int))) (
            IxA 1 vsl s4.1 fun a5 =>
            Ld (.int .i64) a5 H34 fun (x10 : Int) =>
            kk5 x10 H34) (
            kk5 s4.1 H34)) fun j5 H35 =>
        Ld .sl ⟨b5, 1, none⟩ H35 fun (x11 : Sl) =>
        Nw #[.int .i64 j5] TQaq H35 fun b6 H36 =>
        App TQaq 1 8 #[.int .i64 0] x11 ⟨some (adr b6), 1, 1⟩ H36 fun l1 H37 =>
        St ⟨b5, 1, none⟩ (.slice l1.a l1.len l1.cap) H37 fun H38 =>
        Lt (IntKind.wrap .i64 (s4.1 + 1)) fun t5 =>
        Lt (IntKind.wrap .i64 (s4.2 + 1)) fun t6 =>
        next4 (t5, t6) H38) (K s4 H34)) (cnt, 0) H := by
  have hfl : fieldsI ks kd = ((ks[(kd - 1).toNat]!).l.length : Nat) := if_pos hkd
  generalize hn : (ks[(kd - 1).toNat]!).l.length = n at *
  have hvl := hv.len
  refine LoopT.mk (fun (st : Int × Int) H' => ∃ (i : Nat) (sl : Sl) (xs : List Int), st = (cnt + i, (i : Int)) ∧ i ≤ n ∧ Upd (fun b => b = b5) H H' ∧ Row H' b5 TQai [.int .i64 kd, slV sl] ∧ Vec H' TQaq sl (ints xs) ∧ (∀ b, sl.a = some (adr b) → H.size ≤ b) ∧ All64 xs ∧ xs.length = i) (fun st _ => n - st.2.toNat)
    ⟨0, ⟨none, 0, 0⟩, [], by simp, Nat.zero_le _, .refl _ _, hr, Vec.nil _ _, (fun b hb => by cases hb), (fun x hx => by cases hx), rfl⟩ ?_
  rintro next _ H1 ⟨i, sl, xs, rfl, hi, hU, hr1, hvc, hown, h64, hxl⟩ hnext
  dsimp only
  have hE1 : Ext B H1 := extUpd hB hb5 hU
  have hK1 := hK.ext hE1
  refine ld_fields hK1 hkd fun s hs => ?_
  rw [hs, hn]
  refine Br_dec (fun hlt => ?_) fun hge => ?_
  · have hi2 : i < n := by omega
    refine Jn.mk (fun j H' => H1 = H' ∧ I64 j) (fun kk hkk => ?_) ?_
    · refine Br_dec (fun h1 => ?_) fun h1 => hkk _ _ ⟨rfl, by unfold I64; omega⟩
      refine IxA_rl (hv.ext hE1) (j := (cnt + i).toNat) (by omega) (by omega) fun a ha => Ld_int ha (hkk _ _ ⟨rfl, hv64 _ (List.getElem_mem _)⟩)
    rintro x _ ⟨rfl, hx⟩
    refine Ld_sl ((hr1.cell 1).trans rfl) ?_
    refine Nw_row (vs := [.int .i64 x]) fun b6 H2 hb6 hE2 hz2 hr6 => ?_
    refine App_vec2 (vs := ints xs) (ws := ints [x]) (hvc.upd hE2 fun _ _ h => h) hr6.rd_all rfl (by simp [ints]; rfl) (by decide) (by simp [ints]; omega) fun l H3 hv3 hU3 ha3 hz3 => ?_
    have hr3 : Row H3 b5 TQai [.int .i64 kd, slV sl] := hU3.row (hE2.row hr1 fun h => h) fun e => (hvc.ne e.1 hr1 (by decide)) rfl
    refine St_row hr3 (by simp) fun H4 hU4 hz4 hr4 => ?_
    have hs2 := hE2.size
    have hsU := hU.size
    refine Lt.mk (u := cnt + ((i + 1 : Nat) : Int)) (by rw [wrap_i64_id] <;> omega) (Lt.mk (u := ((i + 1 : Nat) : Int)) (by rw [wrap_i64_id] <;> omega) (hnext _ _ ⟨i + 1, l, xs ++ [x], rfl, hi2, ?_, hr4, ?_, ?_, ?_, by simp [hxl]⟩ (by dsimp only; omega)))
    · refine ((hU.trans (hE2.mono fun _ _ h => h.elim) fun _ _ e => e).trans hU3 fun b hb e => ?_).trans hU4 fun _ _ e => e
      have := hown b e.1; omega
    · rw [ints, List.map_append]
      refine hv3.upd hU4 fun b hb e => ?_
      subst e
      exact hv3.ne hb hr3 (by decide) rfl
    · intro b hb
      rcases ha3 with ⟨e, _⟩ | e
      · exact hown b (by rw [← e]; exact hb)
      · rw [e] at hb
        have : H2.size = b := by simpa [adr] using hb
        omega
    · exact all_app h64 (all_one hx)
  · refine hk _ _ sl xs _ (by omega) (by omega) hU hr1 hvc hown h64 ?_
    rw [hfl]; omega
theorem sys_copy' {x : Sy} {K : Nat → Heap → Prop} (hK : ∀ b H', b = H.size → Ext H H' → Row H' b TQaw (sysV x) → K b H') :
    Nw #[.slice none 0 0, .slice none 0 0, .slice none 0 0, .slice none 0 0, .string ByteArray.empty, .int .i64 0, .int .i64 0, .slice none 0 0] TQaw H fun b3 H6 =>
      St ⟨b3, 0, none⟩ (slV (x.s 0)) H6 fun H7 => St ⟨b3, 1, none⟩ (slV (x.s 1)) H7 fun H8 => St ⟨b3, 2, none⟩ (slV (x.s 2)) H8 fun H9 => St ⟨b3, 3, none⟩ (slV (x.s 3)) H9 fun H10 =>
      St ⟨b3, 4, none⟩ (.string x.rou.name) H10 fun H11 => St ⟨b3, 5, none⟩ (.int .i64 x.rou.params) H11 fun H12 => St ⟨b3, 6, none⟩ (.int .i64 x.rou.locals) H12 fun H13 => St ⟨b3, 7, none⟩ (slV x.rou.sl) H13 fun H14 => K b3 H14 := by
  have := sys_copy hK
  simpa only [adr_add] using this
abbrev eW (e : EnV) (rp : Sl) : EnV := { e with rp := rp }
structure PrtV (B H : Heap) (b1 b3 b4 bi : Nat) (p : Sl × Sl) (s : Sy) (e : EnV) (ins : List (Int × Int × Int)) (ks : List Ki) (k : Nat) (cnt : Int) (rp : Sl) (qs : List PtP) : Prop where
  ext : Ext B H
  r1 : Row H b1 TQaj [slV p.1, slV p.2]
  r3 : Row H b3 TQae (envL (eW e rp))
  r4 : Row H b4 TQaw (sysV s)
  ri : Row H bi TQav ((markI ins).flatMap inV)
  vp : VecN H TQai 2 rp (qs.flatMap ptV)
  vv : ∀ q ∈ qs, Vec H TQaq q.sl (ints q.vals)
  own : ∀ b, rp.a = some (adr b) → B.size ≤ b
  a64 : ∀ q ∈ qs, All64 q.vals ∧ q.vals.length ≤ 4 ∧ 1 ≤ q.kind ∧ q.kind < k
  ql : qs.length < k
  cb : 0 ≤ cnt ∧ cnt ≤ 4 * (k : Int)
  has : ∀ x : Int, 1 ≤ x → x < k → x ∈ s.l 2 ∨ x ∈ s.l 3 → ∃ v, lookV (qs.map PtP.pt) x = some v ∧ (v.length : Int) = fieldsI ks x
theorem PrtV.skip {B : Heap} {b1 b3 b4 bi : Nat} {p : Sl × Sl} {s : Sy} {e : EnV} {ins : List (Int × Int × Int)} {ks : List Ki} {k : Nat} {cnt : Int} {rp : Sl} {qs : List PtP} (h : PrtV B H b1 b3 b4 bi p s e ins ks k cnt rp qs) (hno : ¬ ((k : Int) ∈ s.l 2 ∨ (k : Int) ∈ s.l 3)) :
    PrtV B H b1 b3 b4 bi p s e ins ks (k + 1) cnt rp qs :=
  ⟨h.ext, h.r1, h.r3, h.r4, h.ri, h.vp, h.vv, h.own, fun q hq => by have := h.a64 q hq; exact ⟨this.1, this.2.1, this.2.2.1, by omega⟩, by have := h.ql; omega, by have := h.cb; omega, fun x h1 h2 h3 => by
    by_cases e : x = k
    · subst e; exact absurd h3 hno
    · exact h.has x h1 (by omega) h3⟩
theorem look_none {l : List Pt} {x : Int} (h : ∀ q ∈ l, q.kind < x) : lookV l x = none := by
  unfold lookV
  rw [Option.map_eq_none_iff, List.find?_eq_none]
  intro q hq e
  have := h q hq
  simp at e; omega
set_option maxHeartbeats 1000000 in
theorem part_step {B : Heap} {b1 b3 b4 bi : Nat} {p : Sl × Sl} {s : Sy} {e : EnV} {ins : List (Int × Int × Int)} {ksl : Sl} {ks : List Ki} {k : Nat} {cnt : Int} {rp : Sl} {qs : List PtP} {vsl : Sl} {vs : List Int} (hK : KdsR B ksl ks) (hkd : 1 ≤ (k : Int) ∧ (k : Int) ≤ ks.length) (hkl : ks.length ≤ 12) (hf : (ks[((k : Int) - 1).toNat]!).l.length ≤ 4)
    (hv : RL (Value.int .i64) B vsl vs) (hv64 : ∀ x ∈ vs, I64 x) (h : PrtV B H b1 b3 b4 bi p s e ins ks k cnt rp qs) (hb3 : B.size ≤ b3) {kk2 : Int → Heap → Prop} (hkk : ∀ cnt' H' rp' qs', PrtV B H' b1 b3 b4 bi p s e ins ks (k + 1) cnt' rp' qs' → kk2 cnt' H') :
    Nw #[.int .i64 0, .slice none 0 0] TQai H fun b5 H31 =>
    St ⟨b5, 0, none⟩ (.int .i64 (k : Int)) H31 fun H32 =>
    St ⟨b5, 1, none⟩ (.slice none 0 0) H32 fun H33 =>
    LoopT (σ := Int × Int) (fun next4 s4 H34 =>
      Lt (IntKind.wrap .i64 ((k : Int) - 1)) fun t4 =>
      IxA 2 ksl t4 fun a4 =>
      Ld .sl (a4.add 1) H34 fun (x9 : Sl) =>
      Br (decide (s4.2 < (x9.len : Int))) (
        Jn (σ := Int) (fun kk5 =>
          Br (decide (s4.1 < (vsl.len : Int))) (
            IxA 1 vsl s4.1 fun a5 =>
            Ld (.int .i64) a5 H34 fun (x10 : Int) =>
            kk5 x10 H34) (
            kk5 s4.1 H34)) fun j5 H35 =>
        Ld .sl ⟨b5, 1, none⟩ H35 fun (x11 : Sl) =>
        Nw #[.int .i64 j5] TQaq H35 fun b6 H36 =>
        App TQaq 1 8 #[.int .i64 0] x11 ⟨some (adr b6), 1, 1⟩ H36 fun l1 H37 =>
        St ⟨b5, 1, none⟩ (.slice l1.a l1.len l1.cap) H37 fun H38 =>
        Lt (IntKind.wrap .i64 (s4.1 + 1)) fun t5 =>
        Lt (IntKind.wrap .i64 (s4.2 + 1)) fun t6 =>
        next4 (t5, t6) H38) (
        Ld .sl ⟨b3, 6, none⟩ H34 fun (x12 : Sl) =>
        LdC [(.int .i64), .sl] (adr b5) H34 fun (c4 : Int × Sl) =>
        Nw #[.int .i64 c4.1, .slice c4.2.a c4.2.len c4.2.cap] TQai H34 fun b7 H39 =>
        App TQai 2 32 #[.int .i64 0, .slice none 0 0] x12 ⟨some (adr b7), 1, 1⟩ H39 fun l2 H40 =>
        St ⟨b3, 6, none⟩ (.slice l2.a l2.len l2.cap) H40 fun H41 =>
        kk2 s4.1 H41)) (cnt, 0) H33 := by
  refine Nw_row (vs := [.int .i64 0, .slice none 0 0]) fun b5 H1 hb5 hE1 hz1 hr1 => ?_
  refine St_row hr1 (by simp) fun H2 hU2 hz2 hr2 => St_row hr2 (by simp) fun H3 hU3 hz3 hr3 => ?_
  have hU03 : Upd (· = b5) H H3 := (hE1.mono fun _ _ h => h.elim).trans (hU2.trans hU3 fun _ _ e => e) fun _ _ e => e
  have hBs := h.ext.size
  have hE3 : Ext B H3 := extUpd h.ext (by omega) hU03
  have hcb := h.cb
  have hql := h.ql
  refine vals_loop hE3 (by omega) hK hkd hf hv hv64 hr3 (by omega) fun cnt' H4 sl xs _ g1 g2 g3 g4 g5 g6 g7 g8 => ?_
  have hU04 : Upd (· = b5) H H4 := hU03.trans g3 fun _ _ e => e
  have r3 := hU04.row h.r3 (by have := h.r3.lt; omega)
  have r1 := hU04.row h.r1 (by have := h.r1.lt; omega)
  have r4 := hU04.row h.r4 (by have := h.r4.lt; omega)
  have ri := hU04.row h.ri (by have := h.ri.lt; omega)
  have vp := h.vp.upd hU04 fun b hb e => by have := h.vp.lt hb; omega
  have vv : ∀ q ∈ qs, Vec H4 TQaq q.sl (ints q.vals) := fun q hq => (h.vv q hq).upd hU04 fun b hb e => by have := (h.vv q hq).lt hb; omega
  have hE4 : Ext B H4 := extUpd h.ext (by omega) hU04
  refine Ld_sl ((r3.cell 6).trans rfl) ⟨((k : Int), sl), g4.rd_all, ?_⟩
  refine Nw_row (vs := [.int .i64 (k : Int), slV sl]) fun b7 H5 hb7 hE5 hz5 hr7 => ?_
  have hvpl := h.vp.len
  rw [flat_len ptV_len] at hvpl
  refine App_vecN (n := 2) (vs := qs.flatMap ptV) (ws := ptV ⟨k, sl, xs⟩) rfl (by decide) (vp.upd hE5 fun _ _ h => h) hr7.rd_all rfl (fun w hw => by
    simp only [ptV, List.mem_cons, List.not_mem_nil, or_false] at hw
    rcases hw with rfl | rfl <;> rfl) (by decide) (by dsimp only; omega) fun l H6 hv6 hl6 hU6 ha6 => ?_
  have nT : ∀ {b : Nat} {T : TypeId} {ws : List Value}, Row H5 b T ws → TQai ≠ T → ¬ (rp.a = some (adr b) ∧ rp.len + 1 ≤ rp.cap) := fun hr ht e => by
    rcases (vp.upd hE5 fun _ _ h => h).own with ⟨e1, _⟩ | ⟨c, sp, e1, e2, _⟩
    · rw [e1] at e; cases e.1
    · rw [e1] at e
      have := e.1
      cases this
      exact e2.ne hr ht rfl
  have q3 := hU6.row (hE5.row r3 fun h => h) (nT (hE5.row r3 fun h => h) (by decide))
  have q1 := hU6.row (hE5.row r1 fun h => h) (nT (hE5.row r1 fun h => h) (by decide))
  have q4 := hU6.row (hE5.row r4 fun h => h) (nT (hE5.row r4 fun h => h) (by decide))
  have qi := hU6.row (hE5.row ri fun h => h) (nT (hE5.row ri fun h => h) (by decide))
  have nV : ∀ {t : Sl} {ws : List Value}, Vec H4 TQaq t ws → Vec H6 TQaq t ws := fun ht => by
    have ht5 := ht.upd hE5 fun _ _ h => h
    refine ht5.upd hU6 fun b hb e => ?_
    rcases ht5.own with ⟨e1, _⟩ | ⟨c, sp, e1, e2, _⟩
    · rw [e1] at hb; cases hb
    · rw [e1] at hb; cases hb
      exact nT e2 (by decide) e
  refine St_row q3 (by simp) fun H7 hU7 _ q3' => hkk _ _ l (qs ++ [⟨k, sl, xs⟩]) ?_
  have hE6 : Ext B H6 := (hE4.trans hE5 fun _ _ h => h).trans hU6 fun b hb e => by have := h.own b e.1; omega
  have hE7 : Ext B H7 := extUpd hE6 hb3 hU7
  refine ⟨hE7, hU7.row q1 fun e => q1.ne q3 (by decide) e, q3', hU7.row q4 fun e => q4.ne q3 (by decide) e, hU7.row qi fun e => qi.ne q3 (by decide) e, ?_, fun q hq => ?_, fun b hb => ?_, fun q hq => ?_, ?_, by omega, fun x h1 h2 h3 => ?_⟩
  · rw [List.flatMap_append, List.flatMap_singleton]
    refine hv6.upd hU7 fun b hb e => ?_
    subst e
    rcases hv6.own with ⟨e1, _⟩ | ⟨c, sp, e1, e2, _⟩
    · rw [e1] at hb; cases hb
    · rw [e1] at hb; cases hb
      exact e2.ne q3 (by decide) rfl
  · have key : ∀ {t : Sl} {ws : List Value}, Vec H4 TQaq t ws → Vec H7 TQaq t ws := fun ht => (nV ht).upd hU7 fun b hb e => by
      subst e; exact (nV ht).ne hb q3 (by decide) rfl
    rcases List.mem_append.1 hq with hq | hq
    · exact key (vv q hq)
    · rw [List.mem_singleton.1 hq]; exact key g5
  · rcases ha6 with ⟨e, _⟩ | e
    · exact h.own b (by rw [← e]; exact hb)
    · rw [e] at hb
      have : H5.size = b := by simpa [adr] using hb
      have := hE4.size; have := hE5.size
      omega
  · rcases List.mem_append.1 hq with hq | hq
    · have := h.a64 q hq; exact ⟨this.1, this.2.1, this.2.2.1, by omega⟩
    · rw [List.mem_singleton.1 hq]
      refine ⟨g7, ?_, hkd.1, by show (k : Int) < _; omega⟩
      have : fieldsI ks k = ((ks[((k : Int) - 1).toNat]!).l.length : Nat) := if_pos hkd
      show xs.length ≤ 4
      omega
  · rw [List.length_append, List.length_singleton]; omega
  · rw [List.map_append, lookV_app]
    by_cases e : x = k
    · subst e
      have e1 : lookV (qs.map PtP.pt) (k : Int) = none := look_none fun q hq => by
        obtain ⟨q', hq', rfl⟩ := List.mem_map.1 hq
        exact (h.a64 q' hq').2.2.2
      rw [e1, Option.none_or]
      refine ⟨xs, ?_, g8⟩
      unfold lookV; simp [PtP.pt]
    · obtain ⟨v, e1, e2⟩ := h.has x h1 (by omega) h3
      exact ⟨v, by rw [e1]; rfl, e2⟩
end
section
open Hc Hc.Vf Hc.Mc Hc.Dice
variable {H : Heap}
theorem may_fields {ks : List Ki} {ss : List Sy} {fs : List Rou} (hv : verifyO ks ss fs = none) {i : Nat} (hi : i < ks.length) : (ks[i]!).l.length ≤ 4 := by
  unfold verifyO at hv
  split at hv
  · rename_i h
    unfold mayK at h
    simp only [Bool.and_eq_true, decide_eq_true_eq, List.all_eq_true] at h
    have := h.1.1 (ks[i]!) (by rw [getElem!_pos ks i hi]; exact List.getElem_mem _)
    unfold kiOk at this
    simp only [Bool.and_eq_true, decide_eq_true_eq] at this
    exact this.1
  · cases hv
set_option maxHeartbeats 2000000 in
theorem s_MachineVerified {p : Sl × Sl} {ss : List Sy} {fs : List Rou} {e : EnV} {ins : List (Int × Int × Int)} {ps : List PtP} {ksl : Sl} {ks : List Ki} {vsl : Sl} {vs : List Int} (hP : PrgI H p ss fs) (hE : EnvI H e ins ps) (hK : KdsR H ksl ks) (hv : RL (Value.int .i64) H vsl vs) (hv64 : ∀ x ∈ vs, I64 x) {n : Int} (hn : I64 n)
    {k : Bool → Heap → Prop} (hk : ∀ H', Ext H H' → k true H') : CallT Pg fQev [prgA p, .slice ksl.a ksl.len ksl.cap, .int .i64 n, envA e, .slice vsl.a vsl.len vsl.cap] (.one (.c .bool)) H k := by
  refine cQek p ksl n (e.fr, e.sd, e.en, e.inS, e.ix, e.gn, e.rp) vsl ?_
  unfold vQek
  refine Nw_row (vs := [slV p.1, slV p.2]) fun b1 H1 hb1 hE1 _ hr1 => ?_
  refine Nw_row (vs := envL e) fun b2 H2 hb2 hE2 _ hr2 => s_shown fun H3 hE3 => (Br_false _ _).2 ?_
  have hE03 : Ext H H3 := (hE1.trans hE2 fun _ _ h => h).trans hE3 fun _ _ h => h
  have r1 := (hE2.trans hE3 fun _ _ h => h).row hr1 fun h => h
  have r2 := hE3.row hr2 fun h => h
  simp only [adr_add]
  simp only [mk_add, Nat.reduceAdd]
  have hssl := hP.sys.len
  refine Jn.mk (fun j H' => Ext H3 H' ∧ (j = false → verifyO ks ss fs = none ∧ 0 ≤ n ∧ n < (ss.length : Int))) (fun kk hkk => ⟨p, r1.rd_all, s_Verify (hP.prg.ext hE03) (hK.ext hE03) hP.par fun v H5 hE5 hvo => IfNil_ver hvo ?_⟩) ?_
  · cases ho : verifyO ks ss fs with
    | some x => exact (Br_true _ _).2 (hkk _ _ ⟨hE5, fun h => by cases h⟩)
    | none =>
      refine (Br_false _ _).2 (Br_dec (fun h => hkk _ _ ⟨hE5, fun h => by cases h⟩) fun h => Ld_sl (s := p.1) (((hE5.row r1 fun h => h).cell 0).trans rfl) (hkk _ _ ⟨hE5, fun hf => ⟨ho, by omega, ?_⟩⟩))
      have := of_decide_eq_false hf
      omega
  rintro j H4 ⟨hE4, hj⟩
  have hE04 : Ext H H4 := hE03.trans hE4 fun _ _ h => h
  refine Br.mk (fun _ => hk _ hE04) fun hf => ?_
  obtain ⟨hver, hn0, hn1⟩ := hj hf
  obtain ⟨nn, rfl⟩ : ∃ m : Nat, n = m := ⟨n.toNat, by omega⟩
  have hnn : nn < ss.length := by omega
  have r1 := hE4.row r1 fun h => h
  have r2 := hE4.row r2 fun h => h
  have hil : ins.length ≤ 2 ^ 43 := by have := hE.inL; omega
  have hpl : ps.length ≤ 2 ^ 42 := by have := hE.prL; omega
  refine ⟨(e.fr, e.sd, e.en, e.inS, e.ix, e.gn, e.rp), r2.rd_all, s_copied (e := e) (hE.inp.ext hE04) (hE.prt.ext hE04) (fun q hq => ⟨(hE.prR q hq).1.ext hE04, (hE.prR q hq).2.1⟩) hil hpl fun H6 bi bp qs0 hE6 hcp _ => ?_⟩
  have hE06 : Ext H H6 := hE04.trans hE6 fun _ _ h => h
  have r1 := hE6.row r1 fun h => h
  refine Nw_row (vs := [.int .i64 0, .int .i64 0, .int .i64 0, .slice none 0 0, .int .i64 0, .int .i64 0, .slice none 0 0]) fun b3 H7 hb3 hE7 _ hr3 => ?_
  refine St_row hr3 (by simp) fun G1 hU1 _ g1 => St_row g1 (by simp) fun G2 hU2 _ g2 => St_row g2 (by simp) fun G3 hU3 _ g3 => St_row g3 (by simp) fun G4 hU4 _ g4 => ?_
  refine St_row g4 (by simp) fun G5 hU5 _ g5 => St_row g5 (by simp) fun G6 hU6 _ g6 => St_row g6 (by simp) fun G7 hU7 _ g7 => St_row g7 (by simp) fun G8 hU8 _ g8 => ?_
  have hUG : Upd (· = b3) H6 G8 := (((((((((hE7.mono fun _ _ h => h.elim).trans hU1 fun _ _ e => e).trans hU2 fun _ _ e => e).trans hU3 fun _ _ e => e).trans hU4 fun _ _ e => e).trans hU5 fun _ _ e => e).trans hU6 fun _ _ e => e).trans hU7 fun _ _ e => e).trans hU8 fun _ _ e => e)
  have hs6 := hE06.size
  have hE0G : Ext H G8 := extUpd hE06 (by omega) hUG
  have r1 := hUG.row r1 (by have := r1.lt; omega)
  have ri := hUG.row hcp.inp (by have := hcp.inp.lt; omega)
  generalize hsy : ss[nn]! = s
  have hsm : s ∈ ss := by rw [← hsy, getElem!_pos ss nn hnn]; exact List.getElem_mem _
  refine Ld_sl (s := p.1) ((r1.cell 0).trans rfl) (IxA_rn' sysV_len (hP.sys.ext hE0G) (by decide) (j := nn) rfl hnn fun a ha => ld_sys (by rw [hsy] at ha; exact ha) (sys_copy' fun b4 H8 hb4 hE8 r4 => ?_))
  have r1 := hE8.row r1 fun h => h
  have r3 := hE8.row g8 fun h => h
  have ri := hE8.row ri fun h => h
  have hE08 : Ext H H8 := hE0G.trans hE8 fun _ _ h => h
  have hkl := ksl_le hver
  have hkn := hK.rn.len
  let e' : EnV := { e with inS := ⟨some (adr bi), ins.length, ins.length + 80⟩ }
  refine LoopT.mk (fun (st : Int × Int) H' => ∃ (kd : Nat) (cnt : Int) (rp : Sl) (qs : List PtP), st = (cnt, (kd : Int)) ∧ 1 ≤ kd ∧ kd ≤ ks.length + 1 ∧ PrtV H H' b1 b3 b4 bi p s e' ins ks kd cnt rp qs) (fun st _ => ks.length + 1 - st.2.toNat)
    ⟨1, 0, ⟨none, 0, 0⟩, [], rfl, Nat.le_refl _, by omega, hE08, r1, r3, r4, ri, VecN.nil _ _ _, (fun q hq => by cases hq), (fun b hb => by cases hb), (fun q hq => by cases hq), by decide, by omega, fun x h1 h2 => by omega⟩ ?_
  rintro next _ H9 ⟨kd, cnt, rp, qs, rfl, hk1, hk2, hI⟩ hnext
  dsimp only
  refine Br_dec (fun hle => ?_) fun hgt => ?_
  · have hkd : kd ≤ ks.length := by omega
    refine Jn.mk (fun n' H' => ∃ rp' qs', PrtV H H' b1 b3 b4 bi p s e' ins ks (kd + 1) n' rp' qs') (fun kk2 hkk => ?_) ?_
    rotate_left
    · rintro n' H' ⟨rp', qs', hI'⟩
      exact Lt.mk (u := ((kd + 1 : Nat) : Int)) (by rw [wrap_i64_id] <;> omega) (hnext _ _ ⟨kd + 1, n', rp', qs', rfl, by omega, by omega, hI'⟩ (by dsimp only; omega))
    have hS := hP.sysR s hsm
    refine ⟨by decide, want_loop hI.r4 (by decide) ((hS.sets 2 (by decide)).ext hI.ext) (by have := hS.lens 2 (by decide); omega) (kd : Int) fun i2 => want_loop hI.r4 (by decide) ((hS.sets 3 (by decide)).ext hI.ext) (by have := hS.lens 3 (by decide); omega) (kd : Int) fun i3 => ?_⟩
    dsimp only
    refine Br.mk (fun hno => hkk _ _ ⟨rp, qs, hI.skip ?_⟩) fun _ => ?_
    · simp only [Bool.not_eq_true', Bool.or_eq_false_iff, decide_eq_false_iff_not] at hno
      exact fun h => h.elim hno.1.2 hno.2
    · exact part_step hK (by omega) hkl (may_fields hver (by omega)) hv hv64 hI (by omega) fun cnt' H' rp' qs' h => hkk _ _ ⟨rp', qs', h⟩
  · have hkd : kd = ks.length + 1 := by omega
    have hql : qs.length ≤ 12 := by have := hI.ql; omega
    have riN : RN inV 3 H9 ⟨some (adr bi), ins.length, ins.length + 80⟩ ins := by
      have := hI.ri
      rw [List.flatMap_append] at this
      exact ⟨this.rd, rfl, Nat.le_add_right _ _⟩
    have hps := VecN.rn ptV_len (by decide) hI.vp
    have hpv : ∀ q ∈ qs, RL (Value.int .i64) H9 q.sl q.vals ∧ q.vals.length ≤ 2 ^ 44 ∧ All64 q.vals := fun q hq => ⟨Vec.rl (hI.vv q hq), by have := (hI.a64 q hq).2.1; omega, (hI.a64 q hq).1⟩
    refine ⟨p, hI.r1.rd_all, ⟨(e.fr, e.sd, e.en, ⟨some (adr bi), ins.length, ins.length + 80⟩, e.ix, e.gn, rp), hI.r3.rd_all, s_copied (e := eW e' rp) riN hps (fun q hq => ⟨(hpv q hq).1, (hpv q hq).2.1⟩) hil (by omega) fun H10 bi2 bp2 qs2 hE10 hcp2 hqs2 => ?_⟩⟩
    have r1 := hE10.row hI.r1 fun h => h
    have r3 := hE10.row hI.r3 fun h => h
    have hE010 : Ext H H10 := hI.ext.trans hE10 fun _ _ h => h
    refine Stab_all (fun y hy => ?_) ?_
    · simp only [List.mem_cons, List.not_mem_nil, or_false] at hy
      rcases hy with rfl | rfl
      · exact (r1.cell 0).trans rfl
      · exact (r1.cell 1).trans rfl
    have hql2 := map_len hqs2
    have hn' : 0 ≤ (nn : Int) ∧ (nn : Int) < (ss.length : Int) := ⟨by omega, by omega⟩
    have hEE : ∀ rp', EOk (enS (eW e' rp') ins) := fun rp' => hE.eok
    have hsG : ss[((nn : Nat) : Int).toNat]! ∈ ss := sys_get hn'
    rw [← hql2]
    refine s_Long (e := cpE (eW e' rp) bi2 bp2 ins.length qs2.length) (ps0 := qs2) (fs := fs) (ins := ins) (most := 300000) (by decide) (hP.sys.ext hE010) (fun hn => ⟨hP.sys.ext hE010, hn, hP.ctx hE010 hn hcp2.rnI hE.inL (fun a ha => by cases ha; exact ⟨rfl, hcp2.inp.lt⟩) (fun h => by cases h), ((hP.sysR _ (sys_get hn)).rou.code).ext hE010, hcp2.rnP, fun q hq' => ⟨hcp2.rlV hq', ?_⟩, by omega, (hP.sysR _ (sys_get hn)).lens 3 (by decide), hP.pok hn _, hE.eok⟩) fun lg H11 hE11 => ?_
    · obtain ⟨q', hq1, hq2⟩ := List.mem_map.1 (show q.pt ∈ qs.map PtP.pt by rw [← hqs2]; exact List.mem_map.2 ⟨q, hq', rfl⟩)
      have : q.vals = q'.vals := (congrArg Pt.vals hq2).symm
      rw [this]; exact (hpv q' hq1).2
    have r1 := hE11.row r1 fun h => h
    have r3 := hE11.row r3 fun h => h
    have hE011 : Ext H H11 := hE010.trans hE11 fun _ _ h => h
    have hE911 : Ext H9 H11 := hE10.trans hE11 fun _ _ h => h
    refine Stab_all (fun y hy => ?_) (Br.mk (fun _ => hk _ hE011) fun _ => ?_)
    · simp only [List.mem_cons, List.not_mem_nil, or_false] at hy
      rcases hy with rfl | rfl | rfl | rfl | rfl | rfl | rfl
      · exact (r3.cell 0).trans rfl
      · exact (r3.cell 1).trans rfl
      · exact (r3.cell 2).trans rfl
      · exact (r3.cell 3).trans rfl
      · exact (r3.cell 4).trans rfl
      · exact (r3.cell 5).trans rfl
      · exact (r3.cell 6).trans rfl
    refine ⟨p, r1.rd_all, ⟨(e.fr, e.sd, e.en, ⟨some (adr bi), ins.length, ins.length + 80⟩, e.ix, e.gn, rp), r3.rd_all, ?_⟩⟩
    have tail : ∀ {G : Heap} {vs' cs es : Sl} {st er : Int}, Ext H11 G → (er = 0 ∨ er = 120 ∨ er = 102) →
        Nw #[.slice none 0 0, .slice none 0 0, .slice none 0 0, .int .i64 0, .int .i64 0] TQah G fun b8 H45 =>
        St ⟨b8, 0, none⟩ (.slice vs'.a vs'.len vs'.cap) H45 fun H46 => St ⟨b8, 1, none⟩ (.slice cs.a cs.len cs.cap) H46 fun H47 => St ⟨b8, 2, none⟩ (.slice es.a es.len es.cap) H47 fun H48 => St ⟨b8, 3, none⟩ (.int .i64 st) H48 fun H49 => St ⟨b8, 4, none⟩ (.int .i64 er) H49 fun H50 =>
        Jn (σ := Bool) (fun kk6 =>
          Ld (.int .i64) ⟨b8, 4, none⟩ H50 fun (x13 : Int) =>
          Br (x13 == 0) (kk6 true H50) (
            Ld (.int .i64) ⟨b8, 4, none⟩ H50 fun (x14 : Int) =>
            Br (x14 == 120) (kk6 true H50) (
              Ld (.int .i64) ⟨b8, 4, none⟩ H50 fun (x15 : Int) =>
              kk6 (x15 == 102) H50))) fun j6 H51 => k j6 H51 := fun {G vs' cs es st er} hG her => by
      refine Nw_row (vs := [.slice none 0 0, .slice none 0 0, .slice none 0 0, .int .i64 0, .int .i64 0]) fun b8 J0 hb8 hJ0 _ j0 => ?_
      refine St_row j0 (by simp) fun J1 hJ1 _ j1 => St_row j1 (by simp) fun J2 hJ2 _ j2 => St_row j2 (by simp) fun J3 hJ3 _ j3 => St_row j3 (by simp) fun J4 hJ4 _ j4 => St_row j4 (by simp) fun J5 hJ5 _ j5 => ?_
      have hG0 : Ext H G := hE011.trans hG fun _ _ h => h
      have hJ : Ext H J5 := extUpd (hG0.trans hJ0 fun _ _ h => h) (by have := hG0.size; omega) ((((hJ1.trans hJ2 fun _ _ e => e).trans hJ3 fun _ _ e => e).trans hJ4 fun _ _ e => e).trans hJ5 fun _ _ e => e)
      have c4 : hcell J5 ⟨b8, 4, none⟩ = some (.int .i64 er) := (j5.cell 4).trans rfl
      refine Jn.mk (fun j H' => J5 = H' ∧ j = true) (fun kk6 hkk => Ld_int c4 (Br.mk (fun _ => hkk _ _ ⟨rfl, rfl⟩) fun h0 => Ld_int c4 (Br.mk (fun _ => hkk _ _ ⟨rfl, rfl⟩) fun h1 => Ld_int c4 (hkk _ _ ⟨rfl, ?_⟩)))) ?_
      · have := bneI h0; have := bneI h1
        rw [beq_iff_eq]; omega
      · rintro j _ ⟨rfl, rfl⟩
        exact hk _ hJ
    have hc : VC ks ss fs nn (qs.map PtP.pt) := ⟨hver, hnn, fun x hx hb => by
      rw [hsy] at hx
      exact hI.has x hb.1 (by omega) hx⟩
    have hPv : POk (vP ss fs nn) := hP.pok hn' (2 ^ 40)
    have fin : ∀ {N : Nat} {er : Int} {m' : Ms}, Runs (mpS (ss[((nn : Nat) : Int).toNat]!) nn fs) (enS (eW e' rp) ins) (initM (mpS (ss[((nn : Nat) : Int).toNat]!) nn fs) (enS (eW e' rp) ins) (firsts (qs.map PtP.pt))) N er m' → er = 0 ∨ er = 120 ∨ er = 102 := fun h =>
      ver_run hc hPv h (.inr ⟨[], [], ver_init hc _⟩)
    refine s_Run inputOk (e := eW e' rp) (ps0 := qs) (fs := fs) (ins := ins) (hP.sys.ext hE011) hn' (hP.ctx hE011 hn' (riN.ext hE911) hE.inL (fun a ha => by cases ha; exact ⟨rfl, (hE911.row hI.ri fun h => h).lt⟩) (fun h => by cases h)) (((hP.sysR _ hsG).rou.code).ext hE011) (hps.ext hE911) (fun q hq => ⟨(hpv q hq).1.ext hE911, (hpv q hq).2⟩) (by omega) ((hP.sysR _ hsG).lens 3 (by decide)) hPv (hEE rp) ?_ ?_
    · intro G N er m' hG hr _
      exact tail hG (fin hr)
    · intro G N m' vs' cs es ps' cl q hG hr _ _ _ _ _
      exact tail hG (.inl rfl)
theorem list2_api_Kind {cs : List Value} (h : cs.length = 2) : ∃ x0 x1, cs = [x0, x1] := by
  match cs, h with
  | [x0, x1], _ => exact ⟨x0, x1, rfl⟩
theorem rdS_api_Kind {H : Heap} {f : Nat} {cs : List Value} (h : RdC Tryz.prog H f 70 cs) : ∃ x0 x1, cs = [x0, x1] ∧ ∃ f', RdC Tryz.prog H f' 9 [x0] ∧ RdC Tryz.prog H f' 68 [x1] := by
  obtain ⟨f', hl, hall⟩ := rdC_struct Tryz.underlying70 h
  obtain ⟨x0, x1, rfl⟩ := list2_api_Kind (hl.trans (by kernel_rfl))
  simp only [List.mem_cons, List.not_mem_nil, or_false, forall_eq_or_imp, forall_eq] at hall
  have c9 : Tryz.prog.cellsOf 9 = 1 := by kernel_rfl
  have c68 : Tryz.prog.cellsOf 68 = 1 := by kernel_rfl
  obtain ⟨h0, h1⟩ := hall
  exact ⟨x0, x1, rfl, f', by simpa [c9] using h0, by simpa [c68] using h1⟩
theorem rd_kinds {H : Heap} {v : Value} (h : RdV Tryz.prog H 64 v) : ∃ (s : Sl) (ks : List Ki), v = slV s ∧ KdsR H s ks := by
  have c101 : Tryz.prog.cellsOf 70 = 2 := by kernel_rfl
  have b101 : Tryz.prog.bytesOf 70 = 40 := by kernel_rfl
  have c9 : Tryz.prog.cellsOf 9 = 1 := by kernel_rfl
  have b9 : Tryz.prog.bytesOf 9 = 16 := by kernel_rfl
  obtain ⟨f, hc⟩ := rd_cell Tryz.underlying64 rfl h
  have := reach47
  obtain ⟨s, ks, e, h1, h2, h3⟩ := rdC_rows Tryz.underlying64 c101 kiV_len (Q := fun x : Ki => RL Value.string H x.s x.l ∧ x.l.length ≤ 2 ^ 60 ∧ (∀ y ∈ x.l, y.size ≤ 2 ^ 60) ∧ x.name.size ≤ 2 ^ 60) (fun f cs hh => by
    obtain ⟨y0, y1, rfl, f', g0, g1⟩ := rdS_api_Kind hh
    obtain ⟨n, e0, hn⟩ := rdC_string Tryz.underlying9 g0
    obtain ⟨t, xs, e1, ht, hq, hcap, _⟩ := rdC_list Tryz.underlying68 c9 (g := Value.string) (Q := fun y : ByteArray => y.size ≤ 2 ^ 60) (fun f cs hh => by
      obtain ⟨n, e0, hn⟩ := rdC_string Tryz.underlying9 hh
      exact ⟨n, e0, by omega⟩) g1
    simp only [List.cons.injEq, and_true] at e0
    subst e0 e1
    rw [b9] at hcap
    have g1 := ht.len
    have g2 := ht.cap
    exact ⟨⟨n, t, xs⟩, rfl, ht, by show xs.length ≤ _; omega, hq, by show n.size ≤ _; omega⟩) hc
  rw [b101] at h3
  have g1 := h1.len
  have g2 := h1.cap
  exact ⟨s, ks, e, h1, fun x hx => (h2 x hx).1, fun x hx => (h2 x hx).2.1, fun x hx => (h2 x hx).2.2.1, fun x hx => (h2 x hx).2.2.2, by omega⟩
theorem w_MachineVerified {H : Heap} (v0 v1 v2 v3 v4 : Value) (r0 : RdV Tryz.prog H 25 v0) (r1 : RdV Tryz.prog H 64 v1) (r2 : RdV Tryz.prog H 3 v2) (r3 : RdV Tryz.prog H 33 v3) (r4 : RdV Tryz.prog H 58 v4) :
    CallT Tryz.prog 6 [v0, v1, v2, v3, v4] (.one (.c .bool)) H (fun b H' => b = true ∧ Ext H H') := by
  obtain ⟨p, ss, fs, rfl, hP⟩ := rd_prog r0
  obtain ⟨ksl, ks, rfl, hK⟩ := rd_kinds r1
  obtain ⟨n, rfl, hn⟩ := rd_i64 Tryz.underlying3 r2
  obtain ⟨e, ins, ps, rfl, hE⟩ := rd_env r3
  obtain ⟨f, hc⟩ := rd_cell Tryz.underlying58 rfl r4
  obtain ⟨vsl, vs, rfl, hv, hv64, _⟩ := rdC_nums hc
  exact s_MachineVerified hP hE hK hv hv64 hn fun H' h => ⟨rfl, h⟩
end
end Go.Proofs.YtfpmgpblhhcpgaaGreat
