/-
  LexReads, of what can be read.
-/
import Derived.Test.YtlkmmplgfjicjaaDoorCard
import Derived.Test.YtlkmmplgfjicjaaDoorLexT
namespace Go.Proofs.YtlkmmplgfjicjaaDoor
set_option linter.unusedVariables false
set_option linter.unusedSimpArgs false
open Go.Proofs.YtlkmmplgfjicjaaDoor.Hc
theorem w_LexReads {W : World} (hg : GE W.heap.size W.heap) (v0 : Value) (h0 : RdV Tryd.prog W.heap 22 v0) :
    CallT Pg f_hindcastlaw09_LexReads [v0] (.one (.c .bool)) W.heap fun b H' => b = true ∧ Ext W.heap H' := by
  obtain ⟨f, hc⟩ := rd_cell Tryd.underlying22 rfl h0
  obtain ⟨s, xs, rfl, hs, _⟩ := rdC_list (g := Value.string) (Q := fun _ => True) Tryd.underlying22 (by kernel_rfl) (fun f cs h => by
    cases f with
    | zero => exact h.elim
    | succ f =>
      simp only [RdC, Tryd.underlying9] at h
      obtain ⟨x, hx, _⟩ := h
      exact ⟨x, hx, trivial⟩) hc
  exact w_Reads hg hs
end Go.Proofs.YtlkmmplgfjicjaaDoor
