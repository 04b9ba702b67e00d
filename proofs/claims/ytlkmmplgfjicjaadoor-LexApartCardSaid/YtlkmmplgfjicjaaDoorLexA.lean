/-
  The lexer's small functions; what Go's library says.
-/
import Derived.Test.YtlkmmplgfjicjaaDoorVLex
import Derived.Test.YtlkmmplgfjicjaaDoorShelf
import Derived.Test.YtlkmmplgfjicjaaDoorHcLexMath
import Derived.Test.YtlkmmplgfjicjaaDoorHcRec
namespace Go.Proofs.YtlkmmplgfjicjaaDoor
set_option linter.unusedVariables false
set_option linter.unusedSimpArgs false
open Go.Proofs.YtlkmmplgfjicjaaDoor.Hc Go.Proofs.YtlkmmplgfjicjaaDoor.Hc.Lex
set_option maxRecDepth 100000

/-! ### bytes of strings -/
abbrev bs (s : ByteArray) : Bs := s.data.toList
theorem bs_size (s : ByteArray) : (bs s).length = s.size := by simp [bs]
theorem bs_mk (l : Bs) : bs ⟨⟨l⟩⟩ = l := rfl
theorem bs_inj {a b : ByteArray} (h : bs a = bs b) : a = b := by
  apply ByteArray.ext; exact Array.ext' h
theorem mk_bs (s : ByteArray) : (⟨⟨bs s⟩⟩ : ByteArray) = s := rfl
theorem get_bs {s : ByteArray} {p : Nat} {c : UInt8} {t : Bs} (h : (bs s).drop p = c :: t) : s[p]? = some c := by
  have h1 : (bs s)[p]? = some c := by
    have := congrArg (fun l => l[0]?) h
    simpa using this
  obtain ⟨hlt, hv⟩ := List.getElem?_eq_some_iff.1 h1
  rw [bs_size] at hlt
  rw [getElem?_pos s p hlt, ← hv]
  rfl
theorem StrI_bs {s : ByteArray} {i : Int} {p : Nat} {c : UInt8} {t : Bs} {k : Int → Prop} (h : (bs s).drop p = c :: t) (hi : i = p) (hk : k c.toNat) : StrI s i k := by
  subst hi
  exact ⟨c, by omega, by rw [Int.toNat_natCast]; exact get_bs h, hk⟩
theorem bs_extract (s : ByteArray) (a b : Nat) : bs (s.extract a b) = ((bs s).drop a).take (b - a) := by
  simp [bs, ByteArray.data_extract, List.extract]
theorem StrS_bs {s : ByteArray} {lo hi : Int} {a b : Nat} {k : ByteArray → Prop} (h1 : lo = a) (h2 : hi = b) (h3 : a ≤ b) (h4 : b ≤ s.size) (hk : k ⟨⟨((bs s).drop a).take (b - a)⟩⟩) : StrS s lo hi k := by
  subst h1 h2
  refine ⟨by omega, by omega, by omega, ?_⟩
  rw [Int.toNat_natCast, Int.toNat_natCast]
  have : s.extract a b = ⟨⟨((bs s).drop a).take (b - a)⟩⟩ := bs_inj (bs_extract s a b)
  rw [this]; exact hk
theorem drop_cases (L : Bs) (p : Nat) : (L.length ≤ p ∧ L.drop p = []) ∨ ∃ c t, L.drop p = c :: t ∧ p < L.length := by
  rcases Nat.lt_or_ge p L.length with h | h
  · exact .inr ⟨L[p], L.drop (p + 1), List.drop_eq_getElem_cons h, h⟩
  · exact .inl ⟨h, List.drop_eq_nil_of_le h⟩
theorem beq_bs (a b : ByteArray) : (a.toList == b.toList) = decide (bs a = bs b) := by
  rw [ByteArray.toList_eq, ByteArray.toList_eq]
  by_cases h : bs a = bs b
  · rw [decide_eq_true h]; simpa using h
  · rw [decide_eq_false h]; simpa using h

/-! ### what stays -/
/-- From H to H' nothing below lo has turned. -/
abbrev Nb (lo : Nat) (H H' : Heap) : Prop := Upd (fun b => lo ≤ b) H H'
theorem Nb.tr {lo : Nat} {H H1 H2 : Heap} (h : Nb lo H H1) (h2 : Nb lo H1 H2) : Nb lo H H2 := h.trans h2 fun _ _ h => h
theorem Nb.ex {lo : Nat} {H H1 : Heap} (h : Ext H H1) : Nb lo H H1 := h.mono fun _ _ h => h.elim
/-- The library's variables. -/
structure GE (lo : Nat) (H : Heap) : Prop where
  lt : 8 ≤ lo
  mx : ∃ m, hcell H ⟨1, 0, none⟩ = some (.int .i64 m)
  er : ∃ ev, hcell H ⟨4, 0, none⟩ = some ev ∧ (ev = .nilIface ∨ ∃ te pe, ev = .iface te pe)
theorem GE.nb {lo l2 : Nat} {H H' : Heap} (h : GE lo H) (hl : 8 ≤ l2) (hu : Nb l2 H H') : GE lo H' := by
  obtain ⟨m, hm⟩ := h.mx
  obtain ⟨ev, he, hv⟩ := h.er
  exact ⟨h.lt, ⟨m, hu.cell hm (by simp; omega)⟩, ev, hu.cell he (by simp; omega), hv⟩
theorem GE.ext {lo : Nat} {H H' : Heap} (h : GE lo H) (hu : Ext H H') : GE lo H' := h.nb h.lt (Nb.ex hu)

/-! ### Go's library -/
theorem lib_call {f : FuncId} {args : List Value} {r : RTy} {H : Heap} {k : r.den → Heap → Prop} {post : World → Ending → World → Prop} (hcb : Cb Pg f) (h : ∀ w, w.heap = H → Calls Pg f ⟨args⟩ w (post w))
    (hp : ∀ w e w', w.heap = H → post w e w' → SameEnv w w' ∧ ∃ d, e = .returned (r.emb d) ∧ k d w'.heap) : CallT Pg f args r H k :=
  ⟨hcb, fun w hw => (h w hw).mono fun e w' h => hp w e w' hw h⟩
theorem cb_IndexByte : Cb Pg f_strings_IndexByte := ⟨_, Tryd.func44, by kernel_rfl, by kernel_rfl⟩
theorem cb_HasPrefix : Cb Pg f_strings_HasPrefix := ⟨_, Tryd.func45, by kernel_rfl, by kernel_rfl⟩
theorem cb_Cut : Cb Pg f_strings_Cut := ⟨_, Tryd.func46, by kernel_rfl, by kernel_rfl⟩
theorem cb_Count : Cb Pg f_strings_Count := ⟨_, Tryd.func21, by kernel_rfl, by kernel_rfl⟩
theorem cb_LastIndexByte : Cb Pg f_strings_LastIndexByte := ⟨_, Tryd.func22, by kernel_rfl, by kernel_rfl⟩
theorem cb_ParseInt : Cb Pg f_strconv_ParseInt := ⟨_, Tryd.func50, by kernel_rfl, by kernel_rfl⟩
theorem cb_Fields : Cb Pg f_strings_Fields := ⟨_, Tryd.func23, by kernel_rfl, by kernel_rfl⟩
theorem s_IndexByte {s : ByteArray} {c : UInt8} {H : Heap} {k : Int → Heap → Prop} (hk : k (Lib.indexByte (bs s) c) H) : CallT Pg f_strings_IndexByte [.string s, .int .u8 (c.toNat : Int)] (.one (.c (.int .i64))) H k := by
  refine lib_call cb_IndexByte (fun w _ => Tryd.strings_IndexByte s c.toNat w) fun w e w' hw ⟨h1, h2⟩ => ?_
  subst h2
  have : (c.toNat : Int).toNat.toUInt8 = c := by simp
  rw [this] at h1
  exact ⟨.refl _, _, h1, by rw [hw]; exact hk⟩
theorem s_HasPrefix {s p : ByteArray} {H : Heap} {k : Bool → Heap → Prop} (hk : k (Lib.hasPrefix (bs s) (bs p)) H) : CallT Pg f_strings_HasPrefix [.string s, .string p] (.one (.c .bool)) H k := by
  refine lib_call cb_HasPrefix (fun w _ => Tryd.strings_HasPrefix s p w) fun w e w' hw ⟨h1, h2⟩ => ?_
  subst h2
  exact ⟨.refl _, _, h1, by rw [hw]; exact hk⟩
theorem s_Cut {s p : ByteArray} {H : Heap} {lo : Nat} {k : ByteArray × ByteArray × Bool → Heap → Prop} (hg : GE lo H) (hs : s.size < 4294967281) (hk : k (⟨⟨(Lib.cut (bs s) (bs p)).1⟩⟩, ⟨⟨(Lib.cut (bs s) (bs p)).2.1⟩⟩, (Lib.cut (bs s) (bs p)).2.2) H) :
    CallT Pg f_strings_Cut [.string s, .string p] (.tup [(.c .str), (.c .str), (.c .bool)]) H k := by
  obtain ⟨m, hm⟩ := hg.mx
  refine lib_call cb_Cut (fun w hw => Tryd.strings_Cut s p m w hs (by rw [← hw] at hm; rw [cell?_eq]; exact hm)) fun w e w' hw ⟨h1, n, h2⟩ => ?_
  subst h2
  exact ⟨⟨rfl, rfl, rfl⟩, (⟨⟨(Lib.cut (bs s) (bs p)).1⟩⟩, ⟨⟨(Lib.cut (bs s) (bs p)).2.1⟩⟩, (Lib.cut (bs s) (bs p)).2.2), h1, by rw [World.heap_drewN, hw]; exact hk⟩
theorem s_Count {s : ByteArray} {c : UInt8} {H : Heap} {k : Int → Heap → Prop} (hk : k ((bs s).count c : Nat) H) : CallT Pg f_strings_Count [.string s, .string ⟨#[c]⟩] (.one (.c (.int .i64))) H k := by
  refine lib_call cb_Count (fun w _ => Tryd.strings_Count_one s c w) fun w e w' hw ⟨h1, h2⟩ => ?_
  subst h2
  exact ⟨.refl _, _, h1, by rw [hw]; exact hk⟩
theorem s_LastIndexByte {s : ByteArray} {c : Int} {H : Heap} {k : Int → Heap → Prop} (hs : s.size < 4611686018427387904) (hk : k (Lib.lastIndexByte s c) H) : CallT Pg f_strings_LastIndexByte [.string s, .int .u8 c] (.one (.c (.int .i64))) H k := by
  refine lib_call cb_LastIndexByte (fun w _ => Tryd.strings_LastIndexByte s c hs w) fun w e w' hw ⟨h1, h2⟩ => ?_
  subst h2
  exact ⟨.refl _, _, h1, by rw [hw]; exact hk⟩
theorem ext_freeze {w w1 : World} (h : Ext w.heap w1.heap) (n m : Nat) : SameEnv w1 (w1.freeze ⟨w.heap.size, n, none⟩ m) ∧ Ext w.heap (w1.freeze ⟨w.heap.size, n, none⟩ m).heap := by
  refine ⟨.freeze _ _ _, ?_⟩
  unfold World.freeze
  split
  · exact h
  · refine ⟨by simpa using h.size, fun b hb _ => ?_⟩
    simp only [Array.getElem?_modify]
    rw [if_neg (by omega)]
    exact h.get b hb fun h => h
theorem ext_bytesWorld (w : World) (T : TypeId) (t : ByteArray) : SameEnv w (Lib.bytesWorld w T t) ∧ Ext w.heap (Lib.bytesWorld w T t).heap := by
  have h : Ext w.heap (w.drew.alloc (.cells (Lib.bytesCells w T t) T)).heap := Upd.push _ _ _
  obtain ⟨h1, h2⟩ := ext_freeze h (Lib.bytesCells w T t).size 1
  have h0 : SameEnv w (w.drew.alloc (.cells (Lib.bytesCells w T t) T)) := ⟨rfl, rfl, rfl⟩
  exact ⟨h0.trans h1, h2⟩
theorem s_ParseInt_ok {s : ByteArray} {v : Int} {H : Heap} {k : Int × Value → Heap → Prop} (hs : s.size ≤ 8000) (h : Lib.parseIntB 64 (bs s) = .ok v) (hk : ∀ H', Ext H H' → k (v, .nilIface) H') :
    CallT Pg f_strconv_ParseInt [.string s, .int .i64 10, .int .i64 64] (.tup [(.c (.int .i64)), (.c .raw)]) H k := by
  refine lib_call cb_ParseInt (fun w _ => Tryd.strconv_ParseInt_10_at64_ok s (by omega) v h w) fun w e w' hw ⟨h1, h2⟩ => ?_
  rcases h2 with rfl | ⟨t, rfl⟩
  · exact ⟨.refl _, (v, .nilIface), h1, by rw [hw]; exact hk _ (.refl _ _)⟩
  · obtain ⟨g1, g2⟩ := ext_bytesWorld w 5 t
    exact ⟨g1, (v, .nilIface), h1, hk _ (by rw [← hw]; exact g2)⟩
theorem s_ParseInt_range {s : ByteArray} {lo : Nat} {H : Heap} {k : Int × Value → Heap → Prop} (hg : GE lo H) (hs : s.size ≤ 8000) (h : Lib.parseIntB 64 (bs s) = .range) (hk : ∀ H' v p, Ext H H' → k (v, .iface 107 p) H') :
    CallT Pg f_strconv_ParseInt [.string s, .int .i64 10, .int .i64 64] (.tup [(.c (.int .i64)), (.c .raw)]) H k := by
  obtain ⟨ev, he, hv⟩ := hg.er
  refine lib_call cb_ParseInt (fun w hw => Tryd.strconv_ParseInt_10_at64_range s (by omega) h ev w (by rw [← hw] at he; rw [cell?_eq]; exact he) hv) fun w e w' hw ⟨N, h1, h2, h3, h4⟩ => ?_
  refine ⟨⟨h4.tape, h4.os, h4.output⟩, (Lib.intSat 64 (bs s), .iface 107 (.pointer (some ⟨N, 0, none⟩))), h1, hk _ _ _ ?_⟩
  rw [← hw]
  exact ⟨h4.size, fun b hb _ => h4.block b hb⟩

/-! ### the small functions -/
theorem letterC_eq (c : UInt8) : letterC c = decide ((97 ≤ c.toNat ∧ c.toNat ≤ 122) ∨ (65 ≤ c.toNat ∧ c.toNat ≤ 90)) := by
  unfold letterC; rw [Bool.eq_iff_iff]; simp
theorem digitC_eq (c : UInt8) : digitC c = decide (48 ≤ c.toNat ∧ c.toNat ≤ 57) := by
  unfold digitC; rw [Bool.eq_iff_iff]; simp
theorem s_letter {c : UInt8} {H : Heap} {k : Bool → Heap → Prop} (hk : k (letterC c) H) : CallT Pg f_lex_letter [.int .u8 (c.toNat : Int)] (.one (.c .bool)) H k := by
  refine c_lex_letter _ ?_
  unfold v_lex_letter
  refine Jn.mk (fun j H' => H' = H ∧ j = letterC c) (fun kk hkk => ?_) (by rintro j _ ⟨rfl, rfl⟩; exact hk)
  have hd : ∀ {a b : Bool}, a = b → kk a H = kk b H := fun h => by rw [h]
  refine Br_dec (fun h1 => Br_dec (fun h2 => hkk _ _ ⟨rfl, ?_⟩) fun h2 => Br_dec (fun h3 => hkk _ _ ⟨rfl, ?_⟩) fun h3 => hkk _ _ ⟨rfl, ?_⟩) fun h1 => Br_dec (fun h3 => hkk _ _ ⟨rfl, ?_⟩) fun h3 => hkk _ _ ⟨rfl, ?_⟩
  all_goals rw [letterC_eq]
  · exact (decide_eq_true (by omega)).symm
  · exact decide_eq_decide.2 (by omega)
  · exact (decide_eq_false (by omega)).symm
  · exact decide_eq_decide.2 (by omega)
  · exact (decide_eq_false (by omega)).symm
theorem s_rletter {c : UInt8} {H : Heap} {k : Bool → Heap → Prop} (hk : k (letterC c) H) : CallT Pg f_hindcastref09_letter [.int .u8 (c.toNat : Int)] (.one (.c .bool)) H k := by
  refine c_hindcastref09_letter _ ?_
  unfold v_hindcastref09_letter
  refine Jn.mk (fun j H' => H' = H ∧ j = letterC c) (fun kk hkk => ?_) (by rintro j _ ⟨rfl, rfl⟩; exact hk)
  refine Br_dec (fun h1 => Br_dec (fun h2 => hkk _ _ ⟨rfl, ?_⟩) fun h2 => Br_dec (fun h3 => hkk _ _ ⟨rfl, ?_⟩) fun h3 => hkk _ _ ⟨rfl, ?_⟩) fun h1 => Br_dec (fun h3 => hkk _ _ ⟨rfl, ?_⟩) fun h3 => hkk _ _ ⟨rfl, ?_⟩
  all_goals rw [letterC_eq]
  · exact (decide_eq_true (by omega)).symm
  · exact decide_eq_decide.2 (by omega)
  · exact (decide_eq_false (by omega)).symm
  · exact decide_eq_decide.2 (by omega)
  · exact (decide_eq_false (by omega)).symm
theorem s_digit {c : UInt8} {H : Heap} {k : Bool → Heap → Prop} (hk : k (digitC c) H) : CallT Pg f_lex_digit [.int .u8 (c.toNat : Int)] (.one (.c .bool)) H k := by
  refine c_lex_digit _ ?_
  unfold v_lex_digit
  refine Jn.mk (fun j H' => H' = H ∧ j = digitC c) (fun kk hkk => ?_) (by rintro j _ ⟨rfl, rfl⟩; exact hk)
  refine Br_dec (fun h1 => hkk _ _ ⟨rfl, ?_⟩) fun h1 => hkk _ _ ⟨rfl, ?_⟩
  · rw [digitC_eq]; exact decide_eq_decide.2 (by omega)
  · rw [digitC_eq]; exact (decide_eq_false (by omega)).symm
theorem s_rdigit {c : UInt8} {H : Heap} {k : Bool → Heap → Prop} (hk : k (digitC c) H) : CallT Pg f_hindcastref09_digit [.int .u8 (c.toNat : Int)] (.one (.c .bool)) H k := by
  refine c_hindcastref09_digit _ ?_
  unfold v_hindcastref09_digit
  refine Jn.mk (fun j H' => H' = H ∧ j = digitC c) (fun kk hkk => ?_) (by rintro j _ ⟨rfl, rfl⟩; exact hk)
  refine Br_dec (fun h1 => hkk _ _ ⟨rfl, ?_⟩) fun h1 => hkk _ _ ⟨rfl, ?_⟩
  · rw [digitC_eq]; exact decide_eq_decide.2 (by omega)
  · rw [digitC_eq]; exact (decide_eq_false (by omega)).symm
theorem beq_byte (c : UInt8) (n : Nat) (hn : n < 256) : (((c.toNat : Int)) == (n : Int)) = (c == UInt8.ofNat n) := by
  have hc := UInt8.toNat_lt c
  by_cases h : c.toNat = n
  · subst h; simp
  · have h2 : c ≠ UInt8.ofNat n := fun e => h (by rw [e, UInt8.toNat_ofNat']; omega)
    rw [beq_eq_false_iff_ne.2 h2]
    exact beq_eq_false_iff_ne.2 (by omega)
theorem s_wordC {c : UInt8} {H : Heap} {k : Bool → Heap → Prop} (hk : k (wordC c) H) : CallT Pg f_lex_reader_word_1 [.int .u8 (c.toNat : Int)] (.one (.c .bool)) H k := by
  refine c_lex_reader_word_1 _ ?_
  unfold v_lex_reader_word_1
  refine Jn.mk (fun j H' => H' = H ∧ j = wordC c) (fun kk hkk => ?_) (by rintro j _ ⟨rfl, rfl⟩; exact hk)
  refine s_letter (Br.mk (fun h => hkk _ _ ⟨rfl, by simp [wordC, h]⟩) fun h => s_digit (Br.mk (fun h2 => hkk _ _ ⟨rfl, by simp [wordC, h2]⟩) fun h2 => hkk _ _ ⟨rfl, ?_⟩))
  unfold wordC; rw [h, h2]; exact beq_byte c 95 (by decide)
theorem s_fault {x e : Int} {H : Heap} {k : Option Addr → Heap → Prop} (hk : ∀ H' b, b = H.size → Ext H H' → Row H' b T_api_Fault [.int .i64 x, .int .i64 e] → k (some (adr b)) H') : CallT Pg f_lex_fault [.int .i64 x, .int .i64 e] (.one (.c .ptr)) H k :=
  c_lex_fault _ _ (Nw_row fun b H' h1 h2 _ h4 => hk H' b h1 h2 h4)
end Go.Proofs.YtlkmmplgfjicjaaDoor
