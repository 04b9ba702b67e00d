/-
  LexApart, of what can be read.
-/
import Derived.Test.YtlkmmplgfjicjaaDoorCard
import Derived.Test.YtlkmmplgfjicjaaDoorLexY
namespace Go.Proofs.YtlkmmplgfjicjaaDoor
set_option linter.unusedVariables false
set_option linter.unusedSimpArgs false
open Go.Proofs.YtlkmmplgfjicjaaDoor.Hc
theorem w_LexApart {W : World} (hg : GE W.heap.size W.heap) (v0 v1 : Value) (h0 : RdV Tryd.prog W.heap 9 v0) (h1 : RdV Tryd.prog W.heap 42 v1) :
    CallT Pg f_hindcastlaw09_LexApart [v0, v1] (.one (.c .bool)) W.heap fun b H' => b = true ∧ Ext W.heap H' := by
  obtain ⟨s, rfl, _⟩ := rd_string Tryd.underlying9 h0
  obtain ⟨f, hc⟩ := rd_cell Tryd.underlying42 rfl h1
  obtain ⟨l, xs, rfl, hr, hx, hcb, _⟩ := rdC_list (g := Value.int .i64) (Q := I64) Tryd.underlying42 (by kernel_rfl) (fun f cs h => rdC_i64 Tryd.underlying3 h) hc
  refine w_Apart hg hr hx ?_
  have h1 := hr.len
  have h2 := hr.cap
  have hb : Tryd.prog.bytesOf 3 = 8 := by kernel_rfl
  rw [hb] at hcb
  have h3 := reach47
  omega
end Go.Proofs.YtlkmmplgfjicjaaDoor
