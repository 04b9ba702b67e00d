/-
  What a row of the lexer gives of the library's variables.
-/
import Derived.Test.YtlkmmplgfjicjaaDoorRows
import Derived.Test.YtlkmmplgfjicjaaDoorLexG
import Derived.Shelf.Vars
import Derived.MakeChecks
import Derived.LaidLaws
namespace Go.Proofs.YtlkmmplgfjicjaaDoor
set_option linter.unusedVariables false
set_option linter.unusedSimpArgs false
open Go.Proofs.YtlkmmplgfjicjaaDoor.Hc

theorem laid_mem {P : Program} {w : World} {n : String} {d : DataW Unit} : ∀ {l : List (String × DataW Unit)} {ps : List MemPlace}, DataW.LaidVars P w l ps → (n, d) ∈ l →
    ∃ g t cs fuel p, P.globalNamed n = some g ∧ (P.globals[g]?).map (·.type) = some t ∧ w.var? P n = some cs ∧ DataW.trod (fun _ => ()) P w 0 (fun _ => true) false fuel t cs.toList = some (d, p)
  | (m, e) :: r, ps, ⟨g, t, cs, fuel, p, q, h1, h2, h3, h4, h5, _⟩, h => by
    rcases List.mem_cons.1 h with h | h
    · cases h; exact ⟨g, t, cs, fuel, p, h1, h2, h3, h4⟩
    · exact laid_mem h5 h
theorem gErr : Tryd.prog.globalNamed "strconv.ErrRange" = some 4 := by kernel_rfl
theorem gErrT : (Tryd.prog.globals[4]?).map (·.type) = some 27 := by kernel_rfl
theorem gErrU : ∃ ms, Tryd.prog.underlying 27 = some (.interface ms) := ⟨_, Tryd.underlying27⟩
theorem gMax : ((begin Tryd.prog (fun _ _ => 0) default).world.heap[1]?).bind Obj.row? = some (#[.int .i64 0], 3) := by kernel_rfl
theorem gTop : ∃ z t, ((begin Tryd.prog (fun _ _ => 0) default).world.heap[8]?).bind Obj.row? = some (z, t) := ⟨#[.pointer none], 89, by kernel_rfl⟩
theorem ge_of {W : World} {laid : List (String × DataW Unit)} (hp : (laid.all fun x => x.2.handleName?.isNone) = true) (hm : ("strconv.ErrRange", Rows.laid_strconv_ErrRange) ∈ laid) (hl : laidMetH Tryd.prog laid W) (hs : W.ShapedOpen Tryd.prog) :
    GE W.heap.size W.heap := by
  rw [MakeChecks.laidMetH_plain _ _ _ hp] at hl
  obtain ⟨ps, hl, _⟩ := hl
  obtain ⟨g, t, cs, fuel, p, h1, h2, h3, h4⟩ := laid_mem hl hm
  obtain rfl := Option.some.inj (gErr.symm.trans h1)
  obtain rfl := Option.some.inj (gErrT.symm.trans h2)
  obtain ⟨ms, hu⟩ := gErrU
  obtain ⟨_, u, v, hc, _, _⟩ := iface_of_trod hu h4
  have hcell := World.var?_cell gErr h3 0
  have hcs : cs = #[.iface u v] := by apply Array.ext'; exact hc
  subst hcs
  obtain ⟨m, hm⟩ := cell_of_shapedOpen_int (g := 1) (k := .i64) hs (by decide +kernel) gMax rfl (by kernel_rfl) (by kernel_rfl) Tryd.underlying3
  refine ⟨?_, ⟨m, ?_⟩, ⟨.iface u v, ?_, .inr ⟨u, v, rfl⟩⟩⟩
  · obtain ⟨z, t, hz⟩ := gTop
    obtain ⟨cs, hh, _⟩ := hs.1 8 z t (by decide +kernel) hz
    exact Nat.le_of_lt (lt_of_get hh)
  · rw [← cell?_eq]; exact hm
  · rw [← cell?_eq, hcell]; rfl
/-- An argument that is a string. -/
theorem rd_string {P : Program} {t : TypeId} (hu : P.underlying t = some .string) {H : Heap} {v : Value} (h : RdV P H t v) : ∃ s : ByteArray, v = .string s ∧ s.size ≤ reachBytes := by
  obtain ⟨f, hc⟩ := rd_cell hu rfl h
  cases f with
  | zero => exact hc.elim
  | succ f =>
    simp only [RdC, hu] at hc
    obtain ⟨s, hs, hl⟩ := hc
    simp only [List.cons.injEq, and_true] at hs
    exact ⟨s, hs, hl⟩
theorem w_LexPlaces {W : World} (hg : GE W.heap.size W.heap) (v0 v1 : Value) (h0 : RdV Tryd.prog W.heap 9 v0) (h1 : RdV Tryd.prog W.heap 3 v1) :
    CallT Pg f_hindcastlaw09_LexPlaces [v0, v1] (.one (.c .bool)) W.heap fun b H' => b = true ∧ Ext W.heap H' := by
  obtain ⟨s, rfl, hs⟩ := rd_string Tryd.underlying9 h0
  obtain ⟨n, rfl, _⟩ := rd_i64 Tryd.underlying3 h1
  exact w_Places hg (Nat.le_trans hs (by decide))
end Go.Proofs.YtlkmmplgfjicjaaDoor
