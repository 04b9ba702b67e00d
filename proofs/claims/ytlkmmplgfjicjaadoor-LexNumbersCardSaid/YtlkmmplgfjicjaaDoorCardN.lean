/-
  LexNumbers, of what can be read.
-/
import Derived.Test.YtlkmmplgfjicjaaDoorCard
import Derived.Test.YtlkmmplgfjicjaaDoorLexN
namespace Go.Proofs.YtlkmmplgfjicjaaDoor
set_option linter.unusedVariables false
set_option linter.unusedSimpArgs false
open Go.Proofs.YtlkmmplgfjicjaaDoor.Hc
theorem w_LexNumbers {W : World} (hg : GE W.heap.size W.heap) (v0 : Value) (h0 : RdV Tryd.prog W.heap 2 v0) :
    CallT Pg f_hindcastlaw09_LexNumbers [v0] (.one (.c .bool)) W.heap fun b H' => b = true ∧ Ext W.heap H' := by
  obtain ⟨n, rfl, hn⟩ := rd_i64 Tryd.underlying2 h0
  exact w_Numbers hg hn
end Go.Proofs.YtlkmmplgfjicjaaDoor
