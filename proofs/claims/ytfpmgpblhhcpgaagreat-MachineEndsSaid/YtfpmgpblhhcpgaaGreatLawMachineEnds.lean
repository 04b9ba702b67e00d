/-
  MachineEnds: every run ends; what is cut off tells nothing; what is not has values of kinds that are written, by rising kinds, each with as many numbers as the entity had.
-/
import Derived.Test.YtfpmgpblhhcpgaaGreatRows
import Derived.Test.YtfpmgpblhhcpgaaGreatOE
import Derived.WalkKit
import Derived.ProofKit
import Derived.OpenShut
import Derived.ShutString
import Derived.ChangeOld
import Derived.Below
namespace Go.Proofs.YtfpmgpblhhcpgaaGreat.machineEndsRow
set_option linter.unusedVariables false
set_option linter.unusedSimpArgs false
open Go.ChangeShapes Go.WideShapes Go.ChangeAt Go.RowKit Go.Proofs.YtfpmgpblhhcpgaaGreat.Hc

theorem own : ownKnob Tryz.prog.godebug = none := by kernel_rfl
theorem laidOut : laidOutB Tryz.prog = true := by kernel_rfl

set_option maxRecDepth 100000 in
theorem lifted (os : Os) (started : os.Started) (H : Type) (enc : TypeId × Value → H) :
    ReturnsInHanded {} Tryz.checked os 4 .any (Rows.machineEndsSpec.pre6 enc Tryz.prog Tryz.f4 Rows.machineEndsRow.domain false) (Rows.machineEndsSpec.post enc Tryz.prog Tryz.f4 false true false false) := by
  refine returnsInHanded_of_change_sized (C := Tryz.checked) own started (by kernel_rfl) Tryz.func4
    (ChangeSpec.witness6 (enc := enc) (C := Tryz.checked) false ⟨#[], #[.agg #[.slice none 0 0, .slice none 0 0], .int .i64 0, .agg #[.int .i64 0, .int .i64 0, .int .i64 0, .slice none 0 0, .int .i64 0, .int .i64 0, .slice none 0 0]], []⟩ 8 (by kernel_rfl) (by kernel_rfl) (by kernel_rfl) (by kernel_rfl)) ?_
  intro W base args ds gs before hval0 hW hcnd hsz _
  have hval : ∀ (j : Nat) t v, Tryz.f4.params[j]? = some t → args[j]? = some v → Value.okWide Tryz.prog W .any base t v := hval0
  have hW' := hW
  obtain ⟨p, q, hA0, hV, rfl, hfz, hnd⟩ := hW
  have hA : DataW.TrodAll enc Tryz.prog W 0 (fun _ => true) true Tryz.f4.params.toList args.toList ds p := hA0
  rw [Tryz.params4] at hA hval
  obtain ⟨v0, vs0, d0, ds0, p0, q0, hargs, rfl, rfl, h0, r0⟩ := trodAll_cons hA
  obtain ⟨v1, vs1, d1, ds1, p1, q1, rfl, rfl, rfl, h1, r1⟩ := trodAll_cons r0
  obtain ⟨v2, vs2, d2, ds2, p2, q2, rfl, rfl, rfl, h2, r2⟩ := trodAll_cons r1
  obtain ⟨rfl, rfl, rfl⟩ := trodAll_nil r2
  obtain rfl : args = #[v0, v1, v2] := by cases args; simp_all
  obtain ⟨rfl, rfl⟩ := trodVars_none hV
  have lt0 : ∀ x ∈ p0, x.block < W.heap.size := by have k := h0; obtain ⟨m, hm⟩ := k; exact DataW.trod_lt m _ _ _ hm
  have rd0 : RdV Tryz.prog W.heap 25 v0 := rdV_of h0 (hval 0 25 v0 rfl rfl) (reach_at hsz (j := 0) (by rw [Tryz.params4]; rfl) rfl)
  have lt1 : ∀ x ∈ p1, x.block < W.heap.size := by have k := h1; obtain ⟨m, hm⟩ := k; exact DataW.trod_lt m _ _ _ hm
  have rd1 : RdV Tryz.prog W.heap 3 v1 := rdV_of h1 (hval 1 3 v1 rfl rfl) (reach_at hsz (j := 1) (by rw [Tryz.params4]; rfl) rfl)
  have lt2 : ∀ x ∈ p2, x.block < W.heap.size := by have k := h2; obtain ⟨m, hm⟩ := k; exact DataW.trod_lt m _ _ _ hm
  have rd2 : RdV Tryz.prog W.heap 33 v2 := rdV_of h2 (hval 2 33 v2 rfl rfl) (reach_at hsz (j := 2) (by rw [Tryz.params4]; rfl) rfl)
  clear hA0 hval0
  refine (calls_of_law (w_MachineEnds v0 v1 v2 rd0 rd1 rd2)).mono fun e W' ⟨he, bel⟩ => ?_
  subst he
  exact ⟨_, rfl, _, _, _, [], _, [], hW', trodAll_mk1 (shut_bool Tryz.underlying4 _), (trodAll_cons_mk (Below.trod laidOut (by kernel_rfl) (of_decide_eq_true (by kernel_rfl)) h0 bel lt0) (trodAll_cons_mk (Below.trod laidOut (by kernel_rfl) (of_decide_eq_true (by kernel_rfl)) h1 bel lt1) (trodAll_cons_mk (Below.trod laidOut (by kernel_rfl) (of_decide_eq_true (by kernel_rfl)) h2 bel lt2) trodAll_mk0))), rfl, bel.frame _, fun h => by cases h⟩

theorem over : Rows.machineEndsRow.holds Tryz.pinned (OpenSpec.ofChange Rows.machineEndsSpec) :=
  OpenClaim.holds_of_wide 4 Tryz.f4 rfl rfl rfl rfl rfl rfl rfl ⟨rfl, rfl, rfl, rfl, rfl⟩ rfl rfl rfl rfl rfl (by kernel_rfl) Tryz.func4 (by kernel_rfl)
    (of_decide_eq_true (by kernel_rfl)) (by unfold Func.isWrapper; first | (rw [if_pos (by decide +kernel)]; kernel_rfl) | (rw [if_neg (by decide +kernel)]; exact ⟨rfl, rfl⟩))
    (fun os started H enc _ => lifted os started H enc)
end Go.Proofs.YtfpmgpblhhcpgaaGreat.machineEndsRow
namespace Go.Proofs.YtfpmgpblhhcpgaaGreat
set_option linter.unusedVariables false
set_option linter.unusedSimpArgs false
theorem MachineEnds_holds : Rows.MachineEndsSaid := machineEndsRow.over
#print axioms MachineEnds_holds
end Go.Proofs.YtfpmgpblhhcpgaaGreat
