/-
  The arguments of Plan's laws.
-/
import Derived.Test.YtpkpebgpiakbeaaPlanQ
import Derived.Test.YtpkpebgpiakbeaaPlanW
import Derived.Test.YtpkpebgpiakbeaaHcLawB
namespace Go.Proofs.Ytpkpebgpiakbeaa
set_option linter.unusedVariables false
set_option linter.unusedSimpArgs false
open Go.Proofs.Ytpkpebgpiakbeaa.Hc Go.Proofs.Ytpkpebgpiakbeaa.Hc.Plan
set_option maxRecDepth 100000

theorem list2_hindcastlaw18_System {cs : List Value} (h : cs.length = 2) : ∃ x0 x1, cs = [x0, x1] := by
  match cs, h with
  | [x0, x1], _ => exact ⟨x0, x1, rfl⟩
theorem rdS_hindcastlaw18_System {H : Heap} {f : Nat} {cs : List Value} (h : RdC Try.prog H f 124 cs) : ∃ x0 x1, cs = [x0, x1] ∧ ∃ f', RdC Try.prog H f' 45 [x0] ∧ RdC Try.prog H f' 45 [x1] := by
  obtain ⟨f', hl, hall⟩ := rdC_struct Try.underlying124 h
  obtain ⟨x0, x1, rfl⟩ := list2_hindcastlaw18_System (hl.trans (by kernel_rfl))
  simp only [List.mem_cons, List.not_mem_nil, or_false, forall_eq_or_imp, forall_eq] at hall
  have c45 : Try.prog.cellsOf 45 = 1 := by kernel_rfl
  obtain ⟨h0, h1⟩ := hall
  exact ⟨x0, x1, rfl, f', by simpa [c45] using h0, by simpa [c45] using h1⟩
theorem rd_lawL {H : Heap} {v : Value} (h : RdV Try.prog H 74 v) : ∃ (s : Sl) (L : List PSys), v = .slice s.a s.len s.cap ∧ LawL H s L := by
  have c124 : Try.prog.cellsOf 124 = 2 := by kernel_rfl
  have c3 : Try.prog.cellsOf 3 = 1 := by kernel_rfl
  have b124 : Try.prog.bytesOf 124 = 48 := by kernel_rfl
  obtain ⟨s, L, e, h1, h2, h4, _, h5⟩ := rd_elems (α := PSys) (R := fun cs x => ∃ r w : Sl, cs = [slV r, slV w] ∧ RI H r x.1 ∧ RI H w x.2) Try.underlying74 c124 (fun f cs hc => by
    obtain ⟨x0, x1, rfl, f', g0, g1⟩ := rdS_hindcastlaw18_System hc
    obtain ⟨r, xs, rfl, hr, _⟩ := rdC_ints Try.underlying45 Try.underlying3 c3 g0
    obtain ⟨w, ys, rfl, hw, _⟩ := rdC_ints Try.underlying45 Try.underlying3 c3 g1
    exact ⟨(xs, ys), r, w, rfl, hr, hw⟩) h
  refine ⟨s, L, e, h1, ?_, fun i hi => ?_⟩
  · have := reach47; rw [b124] at h4; omega
  · obtain ⟨a, ha, cs, _, k2, r, w, rfl, hr, hw⟩ := h5 i hi
    exact ⟨a, ha, r, w, k2, hr, hw⟩
theorem rd_list45 {H : Heap} {v : Value} (h : RdV Try.prog H 45 v) : ∃ (s : Sl) (xs : List Int), v = .slice s.a s.len s.cap ∧ RI H s xs ∧ (∀ x ∈ xs, I64 x) ∧ xs.length ≤ 2 ^ 44 := by
  have c3 : Try.prog.cellsOf 3 = 1 := by kernel_rfl
  have b3 : Try.prog.bytesOf 3 = 8 := by kernel_rfl
  obtain ⟨s, xs, e, h1, h2, h3, h4⟩ := rd_ints Try.underlying45 Try.underlying3 c3 h
  rw [b3] at h3
  refine ⟨s, xs, e, h1, h2, ?_⟩
  have := h1.len; have := h1.cap; have := reach47; omega
theorem w_PlanLegal {H : Heap} (v0 v1 : Value) (r0 : RdV Try.prog H 74 v0) (r1 : RdV Try.prog H 45 v1) :
    CallT Try.prog 10 [v0, v1] (.one (.c .bool)) H (fun b H' => b = true ∧ Ext H H') := by
  obtain ⟨s, L, rfl, hs⟩ := rd_lawL r0
  obtain ⟨t, rs, rfl, ht, hi, hl⟩ := rd_list45 r1
  exact s_PlanLegal hs ht (by omega) hi fun H' h => ⟨rfl, h⟩
theorem w_PlanSwaps {H : Heap} (v0 v1 v2 : Value) (r0 : RdV Try.prog H 74 v0) (r1 : RdV Try.prog H 45 v1) (r2 : RdV Try.prog H 45 v2) :
    CallT Try.prog 11 [v0, v1, v2] (.one (.c .bool)) H (fun b H' => b = true ∧ Ext H H') := by
  obtain ⟨s, L, rfl, hs⟩ := rd_lawL r0
  obtain ⟨t, rs, rfl, ht, hi, hl⟩ := rd_list45 r1
  obtain ⟨w, ws, rfl, hw, hwi, hwl⟩ := rd_list45 r2
  exact s_PlanSwaps hs ht (by omega) hi hw (by omega) hwi fun H' h => ⟨rfl, h⟩
end Go.Proofs.Ytpkpebgpiakbeaa
