/-
  VerifyWalks: whatever way one goes through a routine of a program that Verify takes, each instruction is there, the stack is as deep as Depths says, what is touched is there and declared, and it comes to a step, a call or its end.
-/
import Derived.Test.YtlkmmplgfjicjaaRows
import Derived.Test.YtlkmmplgfjicjaaWK
import Derived.WalkKit
import Derived.ProofKit
import Derived.OpenShut
import Derived.ShutString
import Derived.ChangeOld
import Derived.Below
namespace Go.Proofs.Ytlkmmplgfjicjaa.verifyWalksRow
set_option linter.unusedVariables false
set_option linter.unusedSimpArgs false
open Go.ChangeShapes Go.WideShapes Go.ChangeAt Go.RowKit Go.Proofs.Ytlkmmplgfjicjaa.Hc

theorem own : ownKnob Try.prog.godebug = none := by kernel_rfl
theorem laidOut : laidOutB Try.prog = true := by kernel_rfl

set_option maxRecDepth 100000 in
theorem lifted (os : Os) (started : os.Started) (H : Type) (enc : TypeId × Value → H) :
    ReturnsInHanded {} Try.checked os 4 .any (Rows.verifyWalksSpec.pre6 enc Try.prog Try.f4 Rows.verifyWalksRow.domain false) (Rows.verifyWalksSpec.post enc Try.prog Try.f4 false true false false) := by
  refine returnsInHanded_of_change_sized (C := Try.checked) own started (by kernel_rfl) Try.func4
    (ChangeSpec.witness6 (enc := enc) (C := Try.checked) false ⟨#[], #[.agg #[.slice none 0 0, .slice none 0 0], .slice none 0 0, .int .i64 0, .slice none 0 0], []⟩ 8 (by kernel_rfl) (by kernel_rfl) (by kernel_rfl) (by kernel_rfl)) ?_
  intro W base args ds gs before hval0 hW hcnd hsz _
  have hval : ∀ (j : Nat) t v, Try.f4.params[j]? = some t → args[j]? = some v → Value.okWide Try.prog W .any base t v := hval0
  have hW' := hW
  obtain ⟨p, q, hA0, hV, rfl, hfz, hnd⟩ := hW
  have hA : DataW.TrodAll enc Try.prog W 0 (fun _ => true) true Try.f4.params.toList args.toList ds p := hA0
  rw [Try.params4] at hA hval
  obtain ⟨v0, vs0, d0, ds0, p0, q0, hargs, rfl, rfl, h0, r0⟩ := trodAll_cons hA
  obtain ⟨v1, vs1, d1, ds1, p1, q1, rfl, rfl, rfl, h1, r1⟩ := trodAll_cons r0
  obtain ⟨v2, vs2, d2, ds2, p2, q2, rfl, rfl, rfl, h2, r2⟩ := trodAll_cons r1
  obtain ⟨v3, vs3, d3, ds3, p3, q3, rfl, rfl, rfl, h3, r3⟩ := trodAll_cons r2
  obtain ⟨rfl, rfl, rfl⟩ := trodAll_nil r3
  obtain rfl : args = #[v0, v1, v2, v3] := by cases args; simp_all
  obtain ⟨rfl, rfl⟩ := trodVars_none hV
  have lt0 : ∀ x ∈ p0, x.block < W.heap.size := by have k := h0; obtain ⟨m, hm⟩ := k; exact DataW.trod_lt m _ _ _ hm
  have rd0 : RdV Try.prog W.heap 25 v0 := rdV_of h0 (hval 0 25 v0 rfl rfl) (reach_at hsz (j := 0) (by rw [Try.params4]; rfl) rfl)
  have lt1 : ∀ x ∈ p1, x.block < W.heap.size := by have k := h1; obtain ⟨m, hm⟩ := k; exact DataW.trod_lt m _ _ _ hm
  have rd1 : RdV Try.prog W.heap 49 v1 := rdV_of h1 (hval 1 49 v1 rfl rfl) (reach_at hsz (j := 1) (by rw [Try.params4]; rfl) rfl)
  have lt2 : ∀ x ∈ p2, x.block < W.heap.size := by have k := h2; obtain ⟨m, hm⟩ := k; exact DataW.trod_lt m _ _ _ hm
  have rd2 : RdV Try.prog W.heap 3 v2 := rdV_of h2 (hval 2 3 v2 rfl rfl) (reach_at hsz (j := 2) (by rw [Try.params4]; rfl) rfl)
  have lt3 : ∀ x ∈ p3, x.block < W.heap.size := by have k := h3; obtain ⟨m, hm⟩ := k; exact DataW.trod_lt m _ _ _ hm
  have rd3 : RdV Try.prog W.heap 50 v3 := rdV_of h3 (hval 3 50 v3 rfl rfl) (reach_at hsz (j := 3) (by rw [Try.params4]; rfl) rfl)
  clear hA0 hval0
  refine (calls_of_law (w_VerifyWalks v0 v1 v2 v3 rd0 rd1 rd2 rd3)).mono fun e W' ⟨he, bel⟩ => ?_
  subst he
  exact ⟨_, rfl, _, _, _, [], _, [], hW', trodAll_mk1 (shut_bool Try.underlying4 _), (trodAll_cons_mk (Below.trod laidOut (by kernel_rfl) (of_decide_eq_true (by kernel_rfl)) h0 bel lt0) (trodAll_cons_mk (Below.trod laidOut (by kernel_rfl) (of_decide_eq_true (by kernel_rfl)) h1 bel lt1) (trodAll_cons_mk (Below.trod laidOut (by kernel_rfl) (of_decide_eq_true (by kernel_rfl)) h2 bel lt2) (trodAll_cons_mk (Below.trod laidOut (by kernel_rfl) (of_decide_eq_true (by kernel_rfl)) h3 bel lt3) trodAll_mk0)))), rfl, bel.frame _, fun h => by cases h⟩

theorem over : Rows.verifyWalksRow.holds Try.pinned (OpenSpec.ofChange Rows.verifyWalksSpec) :=
  OpenClaim.holds_of_wide 4 Try.f4 rfl rfl rfl rfl rfl rfl rfl ⟨rfl, rfl, rfl, rfl, rfl⟩ rfl rfl rfl rfl rfl (by kernel_rfl) Try.func4 (by kernel_rfl)
    (of_decide_eq_true (by kernel_rfl)) (by unfold Func.isWrapper; first | (rw [if_pos (by decide +kernel)]; kernel_rfl) | (rw [if_neg (by decide +kernel)]; exact ⟨rfl, rfl⟩))
    (fun os started H enc _ => lifted os started H enc)
end Go.Proofs.Ytlkmmplgfjicjaa.verifyWalksRow
namespace Go.Proofs.Ytlkmmplgfjicjaa
set_option linter.unusedVariables false
set_option linter.unusedSimpArgs false
theorem VerifyWalks_holds : Rows.VerifyWalksSaid := verifyWalksRow.over
#print axioms VerifyWalks_holds
end Go.Proofs.Ytlkmmplgfjicjaa
