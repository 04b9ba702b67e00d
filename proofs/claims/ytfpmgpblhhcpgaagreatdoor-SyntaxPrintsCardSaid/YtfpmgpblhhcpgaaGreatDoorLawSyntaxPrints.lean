/-
 a tree is printed as the document prints it, and compared as it compares; what is handed in stays
-/
import Derived.Test.YtfpmgpblhhcpgaaGreatDoorCards
import Derived.Test.YtfpmgpblhhcpgaaGreatDoorTie
import Derived.Test.YtfpmgpblhhcpgaaGreatDoorPqW
import Derived.WalkKit
import Derived.ProofKit
import Derived.OpenShut
import Derived.ShutString
import Derived.ChangeOld
import Derived.Below
import Derived.Lay
import Derived.Deep.DeepWitnessRowRef
import Derived.Deep.DeepHandedRow
set_option linter.unusedVariables false
set_option linter.unusedSimpArgs false
namespace Go.Proofs.YtfpmgpblhhcpgaaGreatDoor.syntaxPrintsRow
open Go.ChangeShapes Go.WideShapes Go.ChangeAt Go.RowKit Hc
theorem own : ownKnob Tryz.prog.godebug = none := by kernel_rfl
theorem laidOut : laidOutB Tryz.prog = true := by kernel_rfl
abbrev zargs : Array Value := #[.agg #[.int .i64 0, .string ByteArray.empty, .int .i64 0, .slice none 0 0, .int .i64 0], .agg #[.int .i64 0, .string ByteArray.empty, .int .i64 0, .slice none 0 0, .int .i64 0]]
theorem jmC (os : Os) : laidMetH Tryz.prog Rows.syntaxPrintsRow.laid ((World.laidAll Tryz.prog os Rows.syntaxPrintsRow.laid).forCall (fun _ _ => 0) ⟨#[], zargs, []⟩).memory := by
 rw [MakeChecks.laidMetH_plain _ _ _ (by kernel_rfl)]
 exact laidMet_laidAll _ (by kernel_rfl) (by kernel_rfl)
theorem reads (os : Os) {H : Type} (enc : TypeId × Value → H) : ∃ x, DataW.whole enc Tryz.prog ((World.laidAll Tryz.prog os Rows.syntaxPrintsRow.laid).forCall (fun _ _ => 0) ⟨#[], zargs, []⟩).memory Tryz.f4.params.toList Rows.syntaxPrintsSpec.vars false zargs.toList 8 = some x ∧ x.1 = [.agg [.lit (.int .i64 0), .lit (.string []), .lit (.int .i64 0), .nil, .lit (.int .i64 0)], .agg [.lit (.int .i64 0), .lit (.string []), .lit (.int .i64 0), .nil, .lit (.int .i64 0)]] ∧ x.2.1 = [] :=
 ⟨([.agg [.lit (.int .i64 0), .lit (.string []), .lit (.int .i64 0), .nil, .lit (.int .i64 0)], .agg [.lit (.int .i64 0), .lit (.string []), .lit (.int .i64 0), .nil, .lit (.int .i64 0)]], [], []), by kernel_rfl, rfl, rfl⟩
set_option maxRecDepth 100000 in
theorem lifted (os : Os) (started : os.Started) (H : Type) (enc : TypeId × Value → H) (F : Stop.Interp) :
 ReturnsInHanded {} Tryz.checked os 4 .any ((OpenSpec.ofChange Rows.syntaxPrintsSpec).preRow enc Tryz.prog Tryz.f4 Rows.syntaxPrintsRow.domain false Rows.syntaxPrintsRow.laid) (((OpenSpec.ofChange Rows.syntaxPrintsSpec).at F).post enc Tryz.prog Tryz.f4 false true false false) := by
 obtain ⟨⟨x1, x2, x3⟩, hx, e1, e2⟩ := reads os enc
 dsimp only at e1 e2
 subst e1 e2
 refine returnsInHanded_of_row (C := Tryz.checked) (s := OpenSpec.ofChange Rows.syntaxPrintsSpec) own started (by kernel_rfl) Tryz.func4
  (witness_row_atRef (enc := enc) (C := Tryz.checked) false (World.laidAll Tryz.prog os Rows.syntaxPrintsRow.laid) zargs (World.laidAll_os _ _ _) (by kernel_rfl) (by kernel_rfl) (by kernel_rfl)
    (OpenSpec.preRow_of_cond 8 hx (by kernel_rfl) (fun k hk => by cases hk) (by kernel_rfl) (jmC os))) ?_
 intro W base args ds gs before hval0 hW hcnd _ hsz hL hSh _
 have hge := gl_of (by kernel_rfl) (by simp [Rows.syntaxPrintsRow]) (by simp [Rows.syntaxPrintsRow]) (by simp [Rows.syntaxPrintsRow]) hL hSh
 have hval : ∀ (j : Nat) t v, Tryz.f4.params[j]? = some t → args[j]? = some v → Value.okWide Tryz.prog W .any base t v := hval0
 have hW' := hW
 obtain ⟨p, q, hA0, hV, rfl, hfz, hnd⟩ := hW
 have hA : DataW.TrodAll enc Tryz.prog W 0 (fun _ => true) true Tryz.f4.params.toList args.toList ds p := hA0
 rw [Tryz.params4] at hA hval
 obtain ⟨v0, vs0, d0, ds0, p0, q0, hargs, rfl, rfl, h0, r0⟩ := trodAll_cons hA
 obtain ⟨v1, vs1, d1, ds1, p1, q1, rfl, rfl, rfl, h1, r1⟩ := trodAll_cons r0
 obtain ⟨rfl, rfl, rfl⟩ := trodAll_nil r1
 obtain rfl : args = #[v0, v1] := by cases args; simp_all
 obtain ⟨rfl, rfl⟩ := trodVars_none hV
 have lt0 : ∀ x ∈ p0, x.block < W.heap.size := by have k := h0; obtain ⟨m, hm⟩ := k; exact DataW.trod_lt m _ _ _ hm
 have rd0 : RdV Tryz.prog W.heap 39 v0 := jne h0 (hval 0 39 v0 rfl rfl) (jjw hsz (j := 0) (by rw [Tryz.params4]; rfl) rfl)
 have lt1 : ∀ x ∈ p1, x.block < W.heap.size := by have k := h1; obtain ⟨m, hm⟩ := k; exact DataW.trod_lt m _ _ _ hm
 have rd1 : RdV Tryz.prog W.heap 39 v1 := jne h1 (hval 1 39 v1 rfl rfl) (jjw hsz (j := 1) (by rw [Tryz.params4]; rfl) rfl)
 clear hA0 hval0
 refine (jhD (jgp hge v0 v1 rd0 rd1)).mono fun e W' ⟨he, bel⟩ => ?_
 subst he
 exact ⟨_, rfl, _, _, _, [], _, [], hW', trodAll_mk1 (shut_bool Tryz.underlying4 _), (trodAll_cons_mk (Below.trod laidOut (by kernel_rfl) (of_decide_eq_true (by kernel_rfl)) h0 bel lt0) (trodAll_cons_mk (Below.trod laidOut (by kernel_rfl) (of_decide_eq_true (by kernel_rfl)) h1 bel lt1) trodAll_mk0)), rfl, bel.frame _, fun h => by cases h⟩
theorem over : Rows.SyntaxPrintsSaid :=
 OpenClaim.holds_of_cond 4 Tryz.f4 rfl rfl rfl rfl rfl rfl rfl ⟨rfl, rfl, rfl, rfl, rfl⟩ rfl rfl rfl rfl rfl (by kernel_rfl) Tryz.func4 (by kernel_rfl)
  (of_decide_eq_true (by kernel_rfl)) (by unfold Func.isWrapper; first | (rw [if_pos (by decide +kernel)]; kernel_rfl) | (rw [if_neg (by decide +kernel)]; exact ⟨rfl, rfl⟩))
  (fun os started H enc _ F => by rw [OpenClaim.pre_eq_preRow]; exact lifted os started H enc F)
theorem plain (f : FuncId) (fn : Func) (hf : Tryz.pinned.checked.prog.funcNamed "hindcast/hindcastlaw10.SyntaxPrints" = some f) (hfn : Tryz.pinned.checked.prog.funcs[f]? = some fn) :
 true = Tryz.pinned.checked.prog.looks [] ∧ ∀ (j : Nat) t, fn.params[j]? = some t → Tryz.pinned.checked.prog.wantsStandIn t = false := by
 obtain rfl : f = 4 := Option.some.inj ((show Tryz.prog.funcNamed "hindcast/hindcastlaw10.SyntaxPrints" = some 4 by kernel_rfl).symm.trans hf) |>.symm
 obtain rfl : fn = Tryz.f4 := (Option.some.inj (Tryz.func4.symm.trans hfn)).symm
 refine ⟨by kernel_rfl, fun j t ht => ?_⟩
 rw [Tryz.params4] at ht
 have ht := Array.mem_of_getElem? ht
 simp only [List.mem_toArray, List.mem_cons, List.not_mem_nil, or_false] at ht
 rcases ht with rfl | rfl
 ·exact (show Tryz.prog.wantsStandIn 39 = false by kernel_rfl)
 ·exact (show Tryz.prog.wantsStandIn 39 = false by kernel_rfl)
theorem card : Rows.SyntaxPrintsCardSaid :=
 Claim7.holds_tied_plain_at .later [] _ _ _ _ over (fun _ h => by cases h) (by kernel_rfl) (fun _ h => by cases h) syntaxPrints_row_tie rfl ⟨rfl, rfl⟩ (by kernel_rfl) rfl plain (by kernel_rfl)
end Go.Proofs.YtfpmgpblhhcpgaaGreatDoor.syntaxPrintsRow
namespace Go.Proofs.YtfpmgpblhhcpgaaGreatDoor
theorem SyntaxPrints_holds : Rows.SyntaxPrintsCardSaid := syntaxPrintsRow.card
#print axioms SyntaxPrints_holds
end Go.Proofs.YtfpmgpblhhcpgaaGreatDoor
