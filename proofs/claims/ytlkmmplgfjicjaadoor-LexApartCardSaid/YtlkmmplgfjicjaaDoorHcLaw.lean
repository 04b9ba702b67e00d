/-
  From a law's condition to what its row asks of the walk.
-/
import Derived.Test.YtlkmmplgfjicjaaDoorHcRead
import Derived.Below
import Derived.ProofKit
namespace Go.Proofs.YtlkmmplgfjicjaaDoor.Hc
set_option linter.unusedVariables false
set_option linter.unusedSimpArgs false
open Go.RowKit

/-- An argument as it can be read. -/
def RdV (P : Program) (H : Heap) (t : TypeId) (v : Value) : Prop :=
  ∃ f, RdC P H f t v.cells.toList ∧ (match P.underlying t with
    | some (.struct _) => ∃ cs, v = .agg cs
    | some (.array _ _) => ∃ cs, v = .agg cs
    | _ => v.cells = #[v])

theorem cells_of_ok {P : Program} {w : World} {r : Reach} {base : Nat} {t : TypeId} {v : Value} (h : Cell.okWide P w r base t v) : v.cells = #[v] := by
  cases v with
  | agg cs =>
    unfold Cell.okWide at h
    split at h <;> first
      | (rename_i hv; cases hv; done)
      | (rename_i hu hv; cases hv; done)
      | (unfold Cell.ok at h; (repeat' split at h) <;> first | (rename_i hv; cases hv; done) | (simp_all; done) | exact h.elim)
  | _ => rfl

theorem rdV_of {X : Type} {enc : TypeId × Value → X} {P : Program} {w : World} {t : TypeId} {v : Value} {d : DataW X} {ps : List MemPlace} {b base : Nat} {r : Reach}
    (h : DataW.Trod enc P w b (fun _ => true) true t v d ps) (ho : Value.okWide P w r base t v) (hw : ∀ n ∈ d.weights P t, n ≤ reachBytes) : RdV P w.heap t v := by
  obtain ⟨f, hf⟩ := h
  refine ⟨f, rd_of_trod hf hw, ?_⟩
  unfold Value.okWide at ho
  split
  · rename_i fs hu; rw [hu] at ho; obtain ⟨cs, rfl, _⟩ := ho; exact ⟨cs, rfl⟩
  · rename_i n e hu; rw [hu] at ho; obtain ⟨cs, rfl, _⟩ := ho; exact ⟨cs, rfl⟩
  · rename_i h1 h2
    split at ho
    · rename_i fs hu; exact absurd hu (h1 fs)
    · rename_i n e hu; exact absurd hu (h2 n e)
    · exact cells_of_ok ho

/-- What the form's own reach says of one argument. -/
theorem reach_at {X : Type} {P : Program} {ts : List TypeId} {ds : List (DataW X)} (h : (DataW.weightsEach P ts ds).all (· ≤ reachBytes) = true) {j : Nat} {t : TypeId} {d : DataW X} (ht : ts[j]? = some t) (hd : ds[j]? = some d) :
    ∀ n ∈ d.weights P t, n ≤ reachBytes := fun n hn => of_decide_eq_true (List.all_eq_true.1 h n (DataW.weights_mem_each ht hd n hn))

theorem below_of_ext {w w' : World} (he : SameEnv w w') (h : Ext w.heap w'.heap) : Below w.heap.size w w' :=
  ⟨he.os, he.tape, he.output, h.size, fun b hb => h.get b hb (fun h => h)⟩
theorem calls_of_law {P : Program} {f : FuncId} {args : List Value} {W : World} (h : CallT P f args (.one (.c .bool)) W.heap (fun b H' => b = true ∧ Ext W.heap H')) :
    Calls P f ⟨args⟩ W fun e W' => e = .returned (.bool true) ∧ Below W.heap.size W W' :=
  (h.2 W rfl).mono fun e w' ⟨he, d, h1, h2, h3⟩ => ⟨by rw [h1, h2]; rfl, below_of_ext he h3⟩
/-- An argument that is an integer. -/
theorem rd_int {P : Program} {t : TypeId} {k : IntKind} (hu : P.underlying t = some (.int k)) {H : Heap} {v : Value} (h : RdV P H t v) : ∃ n, v = .int k n ∧ k.min ≤ n ∧ n ≤ k.max := by
  obtain ⟨f, hr, hv⟩ := h
  cases f with
  | zero => exact hr.elim
  | succ f =>
    simp only [RdC, hu] at hr hv
    obtain ⟨n, hn, h0, h1⟩ := hr
    rw [hv] at hn
    simp only [List.cons.injEq, and_true] at hn
    exact ⟨n, hn, h0, h1⟩

theorem i64_of {n : Int} (h : IntKind.i64.min ≤ n ∧ n ≤ IntKind.i64.max) : I64 n := by
  have e0 : IntKind.i64.min = -9223372036854775808 := by decide
  have e1 : IntKind.i64.max = 9223372036854775807 := by decide
  rw [e0, e1] at h
  unfold I64; omega
theorem rd_i64 {P : Program} {t : TypeId} (hu : P.underlying t = some (.int .i64)) {H : Heap} {v : Value} (h : RdV P H t v) : ∃ n, v = .int .i64 n ∧ I64 n := by
  obtain ⟨n, hn, h⟩ := rd_int hu h
  exact ⟨n, hn, i64_of h⟩
/-- A cell that is an int64. -/
theorem rdC_i64 {P : Program} {t : TypeId} (hu : P.underlying t = some (.int .i64)) {H : Heap} {f : Nat} {cs : List Value} (h : RdC P H f t cs) : ∃ n, cs = [.int .i64 n] ∧ I64 n := by
  cases f with
  | zero => exact h.elim
  | succ f =>
    simp only [RdC, hu] at h
    obtain ⟨n, hn, h⟩ := h
    exact ⟨n, hn, i64_of h⟩
theorem rdC_struct {P : Program} {t : TypeId} {fs : Array Field} (hu : P.underlying t = some (.struct fs)) {H : Heap} {f : Nat} {cs : List Value} (h : RdC P H f t cs) :
    ∃ f', cs.length = P.cellsOf t ∧ ∀ g ∈ fs.toList, RdC P H f' g.type ((cs.drop g.offset).take (P.cellsOf g.type)) := by
  cases f with
  | zero => exact h.elim
  | succ f => simp only [RdC, hu] at h; exact ⟨f, h⟩
theorem rdC_slice {P : Program} {t e : TypeId} (hu : P.underlying t = some (.slice e)) {H : Heap} {f : Nat} {cs : List Value} (h : RdC P H f t cs) :
    ∃ f', cs = [.slice none 0 0] ∨ ∃ a len cap, cs = [.slice (some a) len cap] ∧ len ≤ cap ∧ (cap ≤ maxLen ∧ cap * P.bytesOf e ≤ reachBytes) ∧
        ∀ i, i < cap → ∃ xs, xs.length = P.cellsOf e ∧ hcells H (a.add (i * P.cellsOf e)) 0 xs ∧ RdC P H f' e xs := by
  cases f with
  | zero => exact h.elim
  | succ f => simp only [RdC, hu] at h; exact ⟨f, h⟩
theorem rdC_array {P : Program} {t e : TypeId} {n : Nat} (hu : P.underlying t = some (.array n e)) {H : Heap} {f : Nat} {cs : List Value} (h : RdC P H f t cs) :
    ∃ f', cs.length = P.cellsOf t ∧ ∀ i, i < n → RdC P H f' e ((cs.drop (i * P.cellsOf e)).take (P.cellsOf e)) := by
  cases f with
  | zero => exact h.elim
  | succ f => simp only [RdC, hu] at h; exact ⟨f, h⟩
theorem rd_struct {P : Program} {t : TypeId} {fs : Array Field} (hu : P.underlying t = some (.struct fs)) {H : Heap} {v : Value} (h : RdV P H t v) :
    ∃ f cs, v = .agg ⟨cs⟩ ∧ RdC P H f t cs := by
  obtain ⟨f, hr, hv⟩ := h
  simp only [hu] at hv
  obtain ⟨⟨cs⟩, rfl⟩ := hv
  exact ⟨f, cs, rfl, hr⟩
theorem rd_cell {P : Program} {t : TypeId} {d : TypeDesc} (hu : P.underlying t = some d) (hd : (match d with | .struct _ => false | .array _ _ => false | _ => true) = true) {H : Heap} {v : Value} (h : RdV P H t v) :
    ∃ f, RdC P H f t [v] := by
  obtain ⟨f, hr, hv⟩ := h
  rw [hu] at hv
  have : v.cells = #[v] := by cases d <;> first | exact hv | cases hd
  rw [this] at hr
  exact ⟨f, hr⟩
end Go.Proofs.YtlkmmplgfjicjaaDoor.Hc
