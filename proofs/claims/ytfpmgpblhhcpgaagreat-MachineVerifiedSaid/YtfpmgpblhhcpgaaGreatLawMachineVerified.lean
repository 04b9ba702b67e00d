/-
  MachineVerified: of a program that Verify takes for some kinds, a run for an entity whose row is made of these is never cut off but by ErrFuel or ErrLong.
-/
import Derived.Test.YtfpmgpblhhcpgaaGreatRows
import Derived.Test.YtfpmgpblhhcpgaaGreatQE
import Derived.WalkKit
import Derived.ProofKit
import Derived.OpenShut
import Derived.ShutString
import Derived.ChangeOld
import Derived.Below
namespace Go.Proofs.YtfpmgpblhhcpgaaGreat.machineVerifiedRow
set_option linter.unusedVariables false
set_option linter.unusedSimpArgs false
open Go.ChangeShapes Go.WideShapes Go.ChangeAt Go.RowKit Hc
theorem own : ownKnob Tryz.prog.godebug = none := by kernel_rfl
theorem laidOut : laidOutB Tryz.prog = true := by kernel_rfl
set_option maxRecDepth 100000 in
theorem lifted (os : Os) (started : os.Started) (H : Type) (enc : TypeId × Value → H) :
    ReturnsInHanded {} Tryz.checked os 6 .any (Rows.machineVerifiedSpec.pre6 enc Tryz.prog Tryz.f6 Rows.machineVerifiedRow.domain false) (Rows.machineVerifiedSpec.post enc Tryz.prog Tryz.f6 false true false false) := by
  refine returnsInHanded_of_change_sized (C := Tryz.checked) own started (by kernel_rfl) Tryz.func6
    (ChangeSpec.witness6 (enc := enc) (C := Tryz.checked) false ⟨#[], #[.agg #[.slice none 0 0, .slice none 0 0], .slice none 0 0, .int .i64 0, .agg #[.int .i64 0, .int .i64 0, .int .i64 0, .slice none 0 0, .int .i64 0, .int .i64 0, .slice none 0 0], .slice none 0 0], []⟩ 8 (by kernel_rfl) (by kernel_rfl) (by kernel_rfl) (by kernel_rfl)) ?_
  intro W base args ds gs before hval0 hW hcnd hsz _
  have hval : ∀ (j : Nat) t v, Tryz.f6.params[j]? = some t → args[j]? = some v → Value.okWide Tryz.prog W .any base t v := hval0
  have hW' := hW
  obtain ⟨p, q, hA0, hV, rfl, hfz, hnd⟩ := hW
  have hA : DataW.TrodAll enc Tryz.prog W 0 (fun _ => true) true Tryz.f6.params.toList args.toList ds p := hA0
  rw [Tryz.params6] at hA hval
  obtain ⟨v0, vs0, d0, ds0, p0, q0, hargs, rfl, rfl, h0, r0⟩ := trodAll_cons hA
  obtain ⟨v1, vs1, d1, ds1, p1, q1, rfl, rfl, rfl, h1, r1⟩ := trodAll_cons r0
  obtain ⟨v2, vs2, d2, ds2, p2, q2, rfl, rfl, rfl, h2, r2⟩ := trodAll_cons r1
  obtain ⟨v3, vs3, d3, ds3, p3, q3, rfl, rfl, rfl, h3, r3⟩ := trodAll_cons r2
  obtain ⟨v4, vs4, d4, ds4, p4, q4, rfl, rfl, rfl, h4, r4⟩ := trodAll_cons r3
  obtain ⟨rfl, rfl, rfl⟩ := trodAll_nil r4
  obtain rfl : args = #[v0, v1, v2, v3, v4] := by cases args; simp_all
  obtain ⟨rfl, rfl⟩ := trodVars_none hV
  have lt0 : ∀ x ∈ p0, x.block < W.heap.size := by have k := h0; obtain ⟨m, hm⟩ := k; exact DataW.trod_lt m _ _ _ hm
  have rd0 : RdV Tryz.prog W.heap 25 v0 := rdV_of h0 (hval 0 25 v0 rfl rfl) (reach_at hsz (j := 0) (by rw [Tryz.params6]; rfl) rfl)
  have lt1 : ∀ x ∈ p1, x.block < W.heap.size := by have k := h1; obtain ⟨m, hm⟩ := k; exact DataW.trod_lt m _ _ _ hm
  have rd1 : RdV Tryz.prog W.heap 64 v1 := rdV_of h1 (hval 1 64 v1 rfl rfl) (reach_at hsz (j := 1) (by rw [Tryz.params6]; rfl) rfl)
  have lt2 : ∀ x ∈ p2, x.block < W.heap.size := by have k := h2; obtain ⟨m, hm⟩ := k; exact DataW.trod_lt m _ _ _ hm
  have rd2 : RdV Tryz.prog W.heap 3 v2 := rdV_of h2 (hval 2 3 v2 rfl rfl) (reach_at hsz (j := 2) (by rw [Tryz.params6]; rfl) rfl)
  have lt3 : ∀ x ∈ p3, x.block < W.heap.size := by have k := h3; obtain ⟨m, hm⟩ := k; exact DataW.trod_lt m _ _ _ hm
  have rd3 : RdV Tryz.prog W.heap 33 v3 := rdV_of h3 (hval 3 33 v3 rfl rfl) (reach_at hsz (j := 3) (by rw [Tryz.params6]; rfl) rfl)
  have lt4 : ∀ x ∈ p4, x.block < W.heap.size := by have k := h4; obtain ⟨m, hm⟩ := k; exact DataW.trod_lt m _ _ _ hm
  have rd4 : RdV Tryz.prog W.heap 58 v4 := rdV_of h4 (hval 4 58 v4 rfl rfl) (reach_at hsz (j := 4) (by rw [Tryz.params6]; rfl) rfl)
  clear hA0 hval0
  refine (calls_of_law (w_MachineVerified v0 v1 v2 v3 v4 rd0 rd1 rd2 rd3 rd4)).mono fun e W' ⟨he, bel⟩ => ?_
  subst he
  exact ⟨_, rfl, _, _, _, [], _, [], hW', trodAll_mk1 (shut_bool Tryz.underlying4 _), (trodAll_cons_mk (Below.trod laidOut (by kernel_rfl) (of_decide_eq_true (by kernel_rfl)) h0 bel lt0) (trodAll_cons_mk (Below.trod laidOut (by kernel_rfl) (of_decide_eq_true (by kernel_rfl)) h1 bel lt1) (trodAll_cons_mk (Below.trod laidOut (by kernel_rfl) (of_decide_eq_true (by kernel_rfl)) h2 bel lt2) (trodAll_cons_mk (Below.trod laidOut (by kernel_rfl) (of_decide_eq_true (by kernel_rfl)) h3 bel lt3) (trodAll_cons_mk (Below.trod laidOut (by kernel_rfl) (of_decide_eq_true (by kernel_rfl)) h4 bel lt4) trodAll_mk0))))), rfl, bel.frame _, fun h => by cases h⟩
theorem over : Rows.machineVerifiedRow.holds Tryz.pinned (OpenSpec.ofChange Rows.machineVerifiedSpec) :=
  OpenClaim.holds_of_wide 6 Tryz.f6 rfl rfl rfl rfl rfl rfl rfl ⟨rfl, rfl, rfl, rfl, rfl⟩ rfl rfl rfl rfl rfl (by kernel_rfl) Tryz.func6 (by kernel_rfl)
    (of_decide_eq_true (by kernel_rfl)) (by unfold Func.isWrapper; first | (rw [if_pos (by decide +kernel)]; kernel_rfl) | (rw [if_neg (by decide +kernel)]; exact ⟨rfl, rfl⟩))
    (fun os started H enc _ => lifted os started H enc)
end Go.Proofs.YtfpmgpblhhcpgaaGreat.machineVerifiedRow
namespace Go.Proofs.YtfpmgpblhhcpgaaGreat
set_option linter.unusedVariables false
set_option linter.unusedSimpArgs false
theorem MachineVerified_holds : Rows.MachineVerifiedSaid := machineVerifiedRow.over
#print axioms MachineVerified_holds
end Go.Proofs.YtfpmgpblhhcpgaaGreat
