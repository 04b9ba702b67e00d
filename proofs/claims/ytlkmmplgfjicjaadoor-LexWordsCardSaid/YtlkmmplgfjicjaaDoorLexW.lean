/-
  LexWords.
-/
import Derived.Test.YtlkmmplgfjicjaaDoorLexT
import Derived.Test.YtlkmmplgfjicjaaDoorHcPick
namespace Go.Proofs.YtlkmmplgfjicjaaDoor
set_option linter.unusedVariables false
set_option linter.unusedSimpArgs false
open Go.Proofs.YtlkmmplgfjicjaaDoor.Hc Go.Proofs.YtlkmmplgfjicjaaDoor.Hc.Lex
set_option maxRecDepth 100000
variable {H : Heap}

/-- The library's table of blanks stands where it stood. -/
def TabH (H : Heap) : Prop := ∃ t fr, H[0]? = some (.cells (Lib.asciiSpaceTab.map fun z => Value.int .u8 z).toArray t fr)
theorem TabH.ext {H' : Heap} (h : TabH H) (hE : Ext H H') : TabH H' := by
  obtain ⟨t, fr, h⟩ := h
  exact ⟨t, fr, (hE.get 0 (lt_of_get h) fun h => h).trans h⟩
theorem TabH.nb {H' : Heap} {M : Nat → Prop} (h : TabH H) (hU : Upd M H H') (hM : ¬ M 0) : TabH H' := by
  obtain ⟨t, fr, h⟩ := h
  exact ⟨t, fr, (hU.get 0 (lt_of_get h) hM).trans h⟩
theorem gAscii : Tryd.prog.globalNamed "strings.asciiSpace" = some 0 := by kernel_rfl
def wordsL : List Bs := [[97, 98, 115], [97, 100, 100], [100, 105, 101], [101, 108, 115, 101], [101, 109, 105, 116], [102, 117, 110, 99], [104, 97, 115], [105, 102], [105, 110, 112, 117, 116], [108, 101, 116], [109, 97, 120], [109, 101], [109, 105, 110], [114, 97, 110, 100], [114, 101, 97, 100, 115], [114, 101, 109, 111, 118, 101], [114, 101, 112, 101, 97, 116], [114, 101, 116, 117, 114, 110], [115, 112, 97, 119, 110], [115, 116, 111, 112], [115, 121, 115, 116, 101, 109], [116, 105, 99, 107], [119, 104, 105, 108, 101], [119, 105, 116, 104], [119, 105, 116, 104, 111, 117, 116], [119, 114, 105, 116, 101, 115]]
abbrev sV (l : Bs) : Value := .string ⟨⟨l⟩⟩
theorem s_rWords {k : Sl → Heap → Prop} (hk : ∀ r H', Vec H' T_string r (wordsL.map sV) → Ext H H' → r.a = some (adr H.size) → H.size < H'.size → k r H') : CallT Pg f_hindcastref09_Words [] (.one (.c .sl)) H k := by
  refine c_hindcastref09_Words ?_
  unfold v_hindcastref09_Words
  refine Nw_row (vs := wordsL.map sV) fun b H1 hb hE hz hr => ?_
  subst hb
  exact hk _ _ ⟨rfl, .inr ⟨H.size, [], rfl, by simpa using hr, by simp [wordsL]⟩, Nat.le_refl _⟩ hE rfl (by omega)
def wordsS : ByteArray := ⟨#[97, 98, 115, 32, 97, 100, 100, 32, 100, 105, 101, 32, 101, 108, 115, 101, 32, 101, 109, 105, 116, 32, 102, 117, 110, 99, 32, 104, 97, 115, 32, 105, 102, 32, 105, 110, 112, 117, 116, 32, 108, 101, 116, 32, 109, 97, 120, 32, 109, 101, 32, 109, 105, 110, 32, 114, 97, 110, 100, 32, 114, 101, 97, 100, 115, 32, 114, 101, 109, 111, 118, 101, 32, 114, 101, 112, 101, 97, 116, 32, 114, 101, 116, 117, 114, 110, 32, 115, 112, 97, 119, 110, 32, 115, 116, 111, 112, 32, 115, 121, 115, 116, 101, 109, 32, 116, 105, 99, 107, 32, 119, 104, 105, 108, 101, 32, 119, 105, 116, 104, 32, 119, 105, 116, 104, 111, 117, 116, 32, 119, 114, 105, 116, 101, 115]⟩
theorem fields_words : Lib.fields wordsS.data.toList = wordsL := by rfl
theorem words_ascii : ∀ (j : Nat) b, wordsS.data.toList[j]? = some b → b.toNat < 128 := by
  have h : ∀ b ∈ wordsS.data.toList, b.toNat < 128 := by decide
  intro j b hb
  exact h b (List.mem_of_getElem? hb)
theorem s_Words (ht : TabH H) {k : Sl → Heap → Prop} (hk : ∀ r H', Vec H' T_string r (wordsL.map sV) → Ext H H' → r.a = some (adr H.size) → H.size < H'.size → k r H') : CallT Pg f_lex_Words [] (.one (.c .sl)) H k := by
  refine c_lex_Words ?_
  unfold v_lex_Words
  obtain ⟨t, fr, ht⟩ := ht
  refine lib_call cb_Fields (fun w hw => Tryd.strings_Fields wordsS w (by decide) words_ascii ?_) fun w e w' hw ⟨h1, h2⟩ => ?_
  · unfold Lib.TabIs World.var?
    rw [gAscii, Option.bind_some, hw, ht]
  · rw [fields_words] at h1 h2
    subst h2
    refine ⟨⟨rfl, rfl, rfl⟩, ⟨some (adr w.heap.size), 26, 26⟩, h1, ?_⟩
    have hE : Ext w.heap (w.alloc (.cells (wordsL.map fun l => Value.string ⟨l.toArray⟩).toArray 9)).heap := Upd.push _ _ _
    subst hw
    refine hk _ _ ⟨rfl, .inr ⟨w.heap.size, [], rfl, ?_, by simp [wordsL]⟩, Nat.le_refl _⟩ hE rfl (by show w.heap.size < (w.heap.push _).size; simp)
    rw [List.append_nil]
    exact get_push_new _ _
theorem s_pick {c n : Int} (hc : I64 c) (hn : 1 ≤ n) {k : Int → Heap → Prop} (hk : k (pickI c n) H) : CallT Pg f_hindcastlaw09_pick [.int .i64 c, .int .i64 n] (.one (.c (.int .i64))) H k :=
  c_hindcastlaw09_pick _ _ (pick_cond c n hc hn hk)
def lab (n : Nat) : Bs := match n with | 0 => [111, 110, 101] | 1 => [116, 119, 111] | _ => [116, 104, 114, 101, 101]
theorem lab_cell {b : Nat} (hr : Row H b T_string [sV [111, 110, 101], sV [116, 119, 111], sV [116, 104, 114, 101, 101]]) {n : Nat} (hn : n < 3) : hcell H ⟨b, n, none⟩ = some (sV (lab n)) := by
  rw [hr.cell]
  match n, hn with
  | 0, _ => rfl
  | 1, _ => rfl
  | 2, _ => rfl
end Go.Proofs.YtlkmmplgfjicjaaDoor
