/-
  LexWords, of what can be read.
-/
import Derived.Test.YtlkmmplgfjicjaaDoorCard
import Derived.Test.YtlkmmplgfjicjaaDoorLexX
import Derived.Lib.LaidTab
namespace Go.Proofs.YtlkmmplgfjicjaaDoor
set_option linter.unusedVariables false
set_option linter.unusedSimpArgs false
open Go.Proofs.YtlkmmplgfjicjaaDoor.Hc
theorem asciiTab : (Rows.laid_strings_asciiSpace : DataW Unit) = Lib.tabData .u8 Lib.asciiSpaceTab := by kernel_rfl
theorem gAsciiT : (Tryd.prog.globals[0]?).map (·.type) = some 71 := by kernel_rfl
theorem tab_of {W : World} {laid : List (String × DataW Unit)} (hp : (laid.all fun x => x.2.handleName?.isNone) = true) (hm : ("strings.asciiSpace", Rows.laid_strings_asciiSpace) ∈ laid) (hl : laidMetH Tryd.prog laid W) : TabH W.heap := by
  rw [MakeChecks.laidMetH_plain _ _ _ hp] at hl
  obtain ⟨ps, hl, _⟩ := hl
  obtain ⟨g, t, cs, fuel, p, h1, h2, h3, h4⟩ := laid_mem hl hm
  obtain rfl := Option.some.inj (gAscii.symm.trans h1)
  obtain rfl := Option.some.inj (gAsciiT.symm.trans h2)
  rw [asciiTab] at h4
  have hcs := Lib.cells_of_tab Tryd.underlying71 Tryd.underlying5 (by kernel_rfl) (by kernel_rfl) h4
  unfold World.var? at h3
  rw [gAscii, Option.bind_some] at h3
  split at h3
  · rename_i cs' ty fr hh
    cases h3
    exact ⟨ty, fr, by rw [hh, ← hcs]⟩
  · cases h3
theorem w_LexWords {W : World} (hg : GE W.heap.size W.heap) (ht : TabH W.heap) (v0 : Value) (h0 : RdV Tryd.prog W.heap 3 v0) :
    CallT Pg f_hindcastlaw09_LexWords [v0] (.one (.c .bool)) W.heap fun b H' => b = true ∧ Ext W.heap H' := by
  obtain ⟨n, rfl, hn⟩ := rd_i64 Tryd.underlying3 h0
  exact w_Words hg ht hn
end Go.Proofs.YtlkmmplgfjicjaaDoor
