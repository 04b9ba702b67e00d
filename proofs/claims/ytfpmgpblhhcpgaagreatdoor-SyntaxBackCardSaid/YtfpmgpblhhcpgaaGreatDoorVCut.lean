/-
  Print: which trees have a text: forms, fits.
-/
import Derived.Test.YtfpmgpblhhcpgaaGreatDoorPu
import Derived.Test.YtfpmgpblhhcpgaaGreatDoorRows
import Derived.Shelf.Vars
import Derived.MakeChecks
import Derived.LaidLaws
import Derived.Lib.LaidTab
import Derived.Test.YtfpmgpblhhcpgaaGreatDoorVPri
import Derived.Test.YtfpmgpblhhcpgaaGreatDoorHcLists
import Derived.KernelRfl
import Derived.Test.YtfpmgpblhhcpgaaGreatDoorProg
namespace Go.Proofs.YtfpmgpblhhcpgaaGreatDoor
set_option linter.unusedVariables false
set_option linter.unusedSimpArgs false
set_option maxRecDepth 100000
section
open Hc Hc.Lex Hc.Syn
variable {H : Heap} {lo b : Nat}
theorem s_is {op sort : Int} (hs : 0 ≤ sort ∧ sort ≤ 8) {k : Bool → Heap → Prop} (hk : k (sortB op sort) H) : CallT Pg fQch [.int .i64 op, .int .i64 sort] (.one (.c .bool)) H k := by
  refine cQby _ _ ?_
  unfold vQby
  simp only [Jn]
  unfold sortB at hk
  by_cases e : sort = 0
  · rw [if_pos e] at hk; exact Br_eqT e hk
  rw [if_neg e] at hk; refine Br_eqF e ?_
  by_cases e : sort = 1
  · rw [if_pos e] at hk; exact Br_eqT e hk
  rw [if_neg e] at hk; refine Br_eqF e ?_
  by_cases e : sort = 2
  · rw [if_pos e] at hk
    refine Br_eqT e (Br_dec (fun h => ?_) fun h => ?_)
    · rw [decide_eq_true (show 10 ≤ op from h), Bool.true_and] at hk; exact hk
    · rw [decide_eq_false (show ¬ 10 ≤ op from h), Bool.false_and] at hk; exact hk
  rw [if_neg e] at hk; refine Br_eqF e ?_
  by_cases e : sort = 3
  · rw [if_pos e] at hk
    refine Br_eqT e (Br_dec (fun h => ?_) fun h => ?_)
    · rw [decide_eq_true (show 30 ≤ op from h), Bool.true_and] at hk; exact hk
    · rw [decide_eq_false (show ¬ 30 ≤ op from h), Bool.false_and] at hk; exact hk
  rw [if_neg e] at hk; refine Br_eqF e ?_
  by_cases e : sort = 4
  · rw [if_pos e] at hk; exact Br_eqT e hk
  rw [if_neg e] at hk; refine Br_eqF e ?_
  by_cases e : sort = 5
  · rw [if_pos e] at hk; exact Br_eqT e hk
  rw [if_neg e] at hk; refine Br_eqF e ?_
  by_cases e : sort = 6
  · rw [if_pos e] at hk; exact Br_eqT e hk
  rw [if_neg e] at hk; refine Br_eqF e ?_
  by_cases e : sort = 7
  · rw [if_pos e] at hk
    refine Br_eqT e (Br.mk (fun h => ?_) fun h => ?_)
    · rw [h] at hk; exact hk
    · rw [h] at hk; exact hk
  rw [if_neg e] at hk; refine Br_eqF e ?_
  exact Br.mk (fun h => by rw [h] at hk; exact hk) fun h => by rw [h] at hk; exact hk
theorem adr_inj {a c : Nat} (h : some (adr a) = some (adr c)) : a = c := by simpa [adr] using h
def TF (b : Nat) (H : Heap) (fv : Value) (kd : Nat) : Prop := ∀ {t : Txt} {H' : Heap} {k : Bool → Heap → Prop}, Upd (· = b) H H' → TabH H' → t.length ≤ 2 ^ 40 → (∀ H'', Ext H' H'' → k (textB kd t) H'') → CallX Pg fv [.string ⟨⟨t⟩⟩] (.one (.c .bool)) H' k
theorem tf_no : TF b H (.func (.func 89) #[] #[]) 0 := fun {t H' k} _ _ _ hk => ⟨89, #[], #[], rfl, cQb5 _ (by
  unfold vQb5
  rw [beq_bs]
  have := hk H' (.refl _ _)
  show k _ H'
  have e : (t == []) = decide (t = []) := by rw [Bool.eq_iff_iff]; simp
  unfold textB at this
  rw [e] at this; exact this)⟩
theorem tf_name : TF b H (.func (.func 90) #[] #[]) 1 := fun hE ht hl hk => ⟨90, #[], #[], rfl, s_isName ht hl hk⟩
theorem tf_sign : TF b H (.func (.func 92) #[] #[]) 3 := fun {t H' k} _ _ _ hk => ⟨92, #[], #[], rfl, cQb7 _ (by
  unfold vQb7
  exact s_levelOf (hk H' (.refl _ _)))⟩
theorem tf_called : TF b H (.func (.func 93) #[] #[]) 5 := fun {t H' k} _ ht hl hk => ⟨93, #[], #[], rfl, cQb8 _ (by
  unfold vQb8
  simp only [Jn]
  refine s_isName ht hl fun H1 hE1 => ?_
  have hk : ∀ H'', Ext H' H'' → k (isNameB t || builtinL.contains t) H'' := hk
  cases hn : isNameB t with
  | true => rw [hn] at hk; exact hk H1 hE1
  | false => rw [hn] at hk; exact s_builtin fun H2 hE2 => hk H2 (hE1.trans hE2 fun _ _ h => h))⟩
theorem tf_among {ws : List Txt} {kd : Nat} (hkd : ∀ t, textB kd t = ws.contains t) (hw : ws.length ≤ 1000) {L : Sl} (hv : Vec H TQae L (ws.map strV)) {b1 : Nat} (hr : Row H b1 TQai [slV L]) (h1 : b1 ≠ b) (h2 : L.a ≠ some (adr b)) : TF b H (.func (.func 127) #[] #[.pointer (some (adr b1))]) kd :=
  fun {t H' k} hE _ _ hk => ⟨127, #[], #[.pointer (some (adr b1))], rfl, cQci _ _ (by
    unfold vQci
    refine Ld_sl (((hE.row hr h1).cell 0).trans rfl) (s_Contains (hv.upd hE fun c hc e => h2 (by rw [hc, e])) hw ?_)
    rw [← hkd]; exact hk H' (.refl _ _))⟩
theorem s_among {L : Sl} {ws : List Txt} {kd : Nat} (hkd : ∀ t, textB kd t = ws.contains t) (hw : ws.length ≤ 1000) (hv : Vec H TQae L (ws.map strV)) (hb : b < H.size) (h2 : L.a ≠ some (adr b)) {k : Value → Heap → Prop} (hk : ∀ H' b1, Ext H H' → TF b H' (.func (.func 127) #[] #[.pointer (some (adr b1))]) kd → k (.func (.func 127) #[] #[.pointer (some (adr b1))]) H') :
    CallT Pg fQcp [.slice L.a L.len L.cap] (.one (.c .raw)) H k := by
  refine cQb6 L ?_
  unfold vQb6
  refine Nw_row (vs := [slV L]) fun b1 H1 hb1 hE1 _ hr1 => hk H1 b1 hE1 (tf_among hkd hw (hv.upd hE1 fun _ _ h => h) hr1 (by omega) h2)
abbrev FormA : ATy := .agg [.raw, .sl, .bool, (.int .i64)]
theorem fm_bld {b1 : Nat} (r1 : Row H b1 TQak [.nilFunc, .slice none 0 0, .bool false, .int .i64 0]) {g : Nat} {fi ca : Array Value} {L : Sl} {more : Bool} {m : Int} {K : Value × Sl × Bool × Int → Heap → Prop} (hK : ∀ H', Upd (· = b1) H H' → K (.func (.func g) fi ca, L, more, m) H') :
    BldX Pg TQak [(0, .func (.func g) fi ca), (1, .slice L.a L.len L.cap), (2, .bool more), (3, .int .i64 m)] [.raw, .sl, .bool, (.int .i64)] fun (d : Value × Sl × Bool × Int) =>
      StV ⟨b1, 0, none⟩ d.1 H fun H3 => St ⟨b1, 1, none⟩ (.slice d.2.1.a d.2.1.len d.2.1.cap) H3 fun H4 => St ⟨b1, 2, none⟩ (.bool d.2.2.1) H4 fun H5 => St ⟨b1, 3, none⟩ (.int .i64 d.2.2.2) H5 fun H6 =>
        LdC [.raw, .sl, .bool, (.int .i64)] (adr b1) H6 fun (c : Value × Sl × Bool × Int) => K (c.1, c.2.1, c.2.2.1, c.2.2.2) H6 := by
  refine ⟨(.func (.func g) fi ca, L, more, m), fun w => by kernel_rfl, rfl, ?_⟩
  dsimp only
  refine St_row r1 (by simp) fun H3 hU3 _ hr3 => St_row hr3 (by simp) fun H4 hU4 _ hr4 => St_row hr4 (by simp) fun H5 hU5 _ hr5 => St_row hr5 (by simp) fun H6 hU6 _ hr6 => ?_
  have hr6 : Row H6 b1 TQak [.func (.func g) fi ca, .slice L.a L.len L.cap, .bool more, .int .i64 m] := hr6
  exact ⟨(.func (.func g) fi ca, L, more, m), hr6.rd_all, hK H6 (((hU3.trans hU4 fun _ _ e => e).trans hU5 fun _ _ e => e).trans hU6 fun _ _ e => e)⟩
def FormOut (H0 H : Heap) (op : Int) (r : (Value × Sl × Bool × Int) × Bool) : Prop := match formI op with
  | some (kd, sl, more, m) => r.2 = true ∧ r.1.1.oneCell' = true ∧ (∃ b, TF b H r.1.1 kd) ∧ Vec H TQaj r.1.2.1 (ints sl) ∧ (∀ c, r.1.2.1.a = some (adr c) → H0.size ≤ c) ∧ r.1.2.2.1 = more ∧ r.1.2.2.2 = (m : Nat)
  | none => r = ((.nilFunc, ⟨none, 0, 0⟩, false, 0), false)
theorem ints_vec {b : Nat} {xs : List Int} {n : Nat} (h : Row H b TQaj (ints xs)) (hn : n = xs.length) : Vec H TQaj ⟨some (adr b), n, n⟩ (ints xs) :=
  ⟨by simp [hn], .inr ⟨b, [], rfl, by simpa using h, by simp [hn]⟩, Nat.le_refl _⟩
theorem TF.mv {H' : Heap} {fv : Value} {kd : Nat} (h : TF b H fv kd) (hU : Upd (· = b) H H') : TF b H' fv kd := fun hE2 ht hl hk => h (hU.trans hE2 fun _ _ h => h) ht hl hk
theorem TF.ext {H' : Heap} {fv : Value} {kd : Nat} (h : TF b H fv kd) (hE : Ext H H') : TF b H' fv kd := h.mv (hE.mono fun _ _ h => h.elim)
theorem fm_end {op : Int} {kd : Nat} {sl : List Int} {more : Bool} {m : Nat} (hf : formI op = some (kd, sl, more, m)) {H0 H2 : Heap} {b1 : Nat} (hb1 : b1 = H0.size) (hE1 : Ext H0 H2) (r1 : Row H2 b1 TQak [.nilFunc, .slice none 0 0, .bool false, .int .i64 0]) {g : Nat} {fi ca : Array Value} (ht : TF b1 H2 (.func (.func g) fi ca) kd) {L : Sl} (hv : Vec H2 TQaj L (ints sl)) (hlo : ∀ c, L.a = some (adr c) → H0.size < c) {k : (Value × Sl × Bool × Int) × Bool → Heap → Prop}
    (hk : ∀ r H', Ext H0 H' → FormOut H0 H' op r → k r H') :
    BldX Pg TQak [(0, .func (.func g) fi ca), (1, .slice L.a L.len L.cap), (2, .bool more), (3, .int .i64 (m : Nat))] [.raw, .sl, .bool, (.int .i64)] fun (d : Value × Sl × Bool × Int) =>
      StV ⟨b1, 0, none⟩ d.1 H2 fun H3 => St ⟨b1, 1, none⟩ (.slice d.2.1.a d.2.1.len d.2.1.cap) H3 fun H4 => St ⟨b1, 2, none⟩ (.bool d.2.2.1) H4 fun H5 => St ⟨b1, 3, none⟩ (.int .i64 d.2.2.2) H5 fun H6 =>
        LdC [.raw, .sl, .bool, (.int .i64)] (adr b1) H6 fun (c : Value × Sl × Bool × Int) => k ((c.1, c.2.1, c.2.2.1, c.2.2.2), true) H6 := by
  refine fm_bld (K := fun c H' => k (c, true) H') r1 fun H' hU => hk _ H' (hE1.trans hU fun x hx e => by omega) ?_
  unfold FormOut
  rw [hf]
  exact ⟨rfl, rfl, ⟨b1, ht.mv hU⟩, hv.upd hU fun c hc e => by have := hlo c hc; omega, fun c hc => Nat.le_of_lt (hlo c hc), rfl, rfl⟩
theorem strs_vec {b : Nat} {xs : List Txt} {n : Nat} (h : Row H b TQae (xs.map strV)) (hn : n = xs.length) : Vec H TQae ⟨some (adr b), n, n⟩ (xs.map strV) :=
  ⟨by simp [hn], .inr ⟨b, [], rfl, by simpa using h, by simp [hn]⟩, Nat.le_refl _⟩
theorem s_formOf {op : Int} {k : (Value × Sl × Bool × Int) × Bool → Heap → Prop} (hk : ∀ r H', Ext H H' → FormOut H H' op r → k r H') : CallT Pg fQcg [.int .i64 op] (.tup [FormA, (.c .bool)]) H k := by
  refine cQbx _ ?_
  unfold vQbx
  refine Nw_row (vs := [.nilFunc, .slice none 0 0, .bool false, .int .i64 0]) fun b1 H1 hb1 hE1 _ r1 => ?_
  simp only [adr_add]
  have hs1 := hE1.size
  by_cases e0 : op = 1
  · subst e0
    refine Br_eqT rfl ?_
    refine Nw_row (vs := ints [8]) fun b2 H2 hb2 hE2 _ hr2 => ?_
    have hs2 := hE2.size
    exact fm_end (sl := [8]) (more := true) (m := 0) (L := ⟨some (adr b2), 1, 1⟩) rfl hb1 (hE1.trans hE2 fun _ _ h => h) (hE2.row r1 fun h => h) tf_no (ints_vec hr2 rfl) (fun c hc => by have := adr_inj hc; omega) hk
  refine Br_eqF e0 ?_
  by_cases e1 : op = 2
  · subst e1
    refine Br_eqT rfl ?_
    refine Nw_row (vs := ints [0, 0, 0, 0, 1]) fun b2 H2 hb2 hE2 _ hr2 => ?_
    have hs2 := hE2.size
    exact fm_end (sl := [0, 0, 0, 0, 1]) (more := false) (m := 5) (L := ⟨some (adr b2), 5, 5⟩) rfl hb1 (hE1.trans hE2 fun _ _ h => h) (hE2.row r1 fun h => h) tf_name (ints_vec hr2 rfl) (fun c hc => by have := adr_inj hc; omega) hk
  refine Br_eqF e1 ?_
  by_cases e2 : op = 3
  · subst e2
    refine Br_eqT rfl ?_
    refine Nw_row (vs := (clauseW ++ [[102, 117, 110, 99]] : List Txt).map strV) fun b4 H4 hb4 hE4 _ hr4 => ?_
    refine s_among (kd := 2) (ws := clauseW ++ [[102, 117, 110, 99]]) (L := ⟨some (adr b4), 5, 5⟩) (fun t => by simp [textB, List.contains_cons]) (by decide) (strs_vec hr4 rfl) (b := b1) (by omega) (fun e => by have := adr_inj e; omega) fun H5 b5 hE5 ht5 => ?_
    have hE15 := hE4.trans hE5 fun _ _ h => h
    refine Nw_row (vs := ints [6]) fun b2 H2 hb2 hE2 _ hr2 => ?_
    have hE25 := hE15.trans hE2 fun _ _ h => h
    have hs25 := hE25.size
    have hs15 := hE15.size
    exact fm_end (sl := [6]) (more := true) (m := 0) (L := ⟨some (adr b2), 1, 1⟩) rfl hb1 (hE1.trans hE25 fun _ _ h => h) (hE25.row r1 fun h => h) (ht5.ext hE2) (ints_vec hr2 rfl) (fun c hc => by have := adr_inj hc; omega) hk
  refine Br_eqF e2 ?_
  by_cases e3 : op = 4
  · subst e3
    refine Br_eqT rfl ?_
    refine Nw_row (vs := ints [0, 1]) fun b2 H2 hb2 hE2 _ hr2 => ?_
    have hs2 := hE2.size
    exact fm_end (sl := [0, 1]) (more := false) (m := 2) (L := ⟨some (adr b2), 2, 2⟩) rfl hb1 (hE1.trans hE2 fun _ _ h => h) (hE2.row r1 fun h => h) tf_name (ints_vec hr2 rfl) (fun c hc => by have := adr_inj hc; omega) hk
  refine Br_eqF e3 ?_
  by_cases e4 : op = 5
  · subst e4
    refine Br_eqT rfl ?_
    refine Nw_row (vs := ints [2]) fun b2 H2 hb2 hE2 _ hr2 => ?_
    have hs2 := hE2.size
    exact fm_end (sl := [2]) (more := true) (m := 0) (L := ⟨some (adr b2), 1, 1⟩) rfl hb1 (hE1.trans hE2 fun _ _ h => h) (hE2.row r1 fun h => h) tf_no (ints_vec hr2 rfl) (fun c hc => by have := adr_inj hc; omega) hk
  refine Br_eqF e4 ?_
  by_cases e5 : op = 10
  · subst e5
    refine Br_eqT rfl ?_
    refine Nw_row (vs := ints [3]) fun b2 H2 hb2 hE2 _ hr2 => ?_
    have hs2 := hE2.size
    exact fm_end (sl := [3]) (more := false) (m := 1) (L := ⟨some (adr b2), 1, 1⟩) rfl hb1 (hE1.trans hE2 fun _ _ h => h) (hE2.row r1 fun h => h) tf_name (ints_vec hr2 rfl) (fun c hc => by have := adr_inj hc; omega) hk
  refine Br_eqF e5 ?_
  by_cases e6 : op = 11
  · subst e6
    refine Br_eqT rfl ?_
    refine Nw_row (vs := ints [3]) fun b2 H2 hb2 hE2 _ hr2 => ?_
    have hs2 := hE2.size
    exact fm_end (sl := [3]) (more := false) (m := 1) (L := ⟨some (adr b2), 1, 1⟩) rfl hb1 (hE1.trans hE2 fun _ _ h => h) (hE2.row r1 fun h => h) tf_name (ints_vec hr2 rfl) (fun c hc => by have := adr_inj hc; omega) hk
  refine Br_eqF e6 ?_
  by_cases e7 : op = 12
  · subst e7
    refine Br_eqT rfl ?_
    refine Nw_row (vs := ints [6, 3]) fun b2 H2 hb2 hE2 _ hr2 => ?_
    have hs2 := hE2.size
    exact fm_end (sl := [6, 3]) (more := false) (m := 2) (L := ⟨some (adr b2), 2, 2⟩) rfl hb1 (hE1.trans hE2 fun _ _ h => h) (hE2.row r1 fun h => h) tf_name (ints_vec hr2 rfl) (fun c hc => by have := adr_inj hc; omega) hk
  refine Br_eqF e7 ?_
  by_cases e8 : op = 13
  · subst e8
    refine Br_eqT rfl ?_
    refine Nw_row (vs := ints [3, 1, 7]) fun b2 H2 hb2 hE2 _ hr2 => ?_
    have hs2 := hE2.size
    exact fm_end (sl := [3, 1, 7]) (more := false) (m := 2) (L := ⟨some (adr b2), 3, 3⟩) rfl hb1 (hE1.trans hE2 fun _ _ h => h) (hE2.row r1 fun h => h) tf_no (ints_vec hr2 rfl) (fun c hc => by have := adr_inj hc; omega) hk
  refine Br_eqF e8 ?_
  by_cases e9 : op = 14
  · subst e9
    refine Br_eqT rfl ?_
    refine Nw_row (vs := ints [3, 1]) fun b2 H2 hb2 hE2 _ hr2 => ?_
    have hs2 := hE2.size
    exact fm_end (sl := [3, 1]) (more := false) (m := 2) (L := ⟨some (adr b2), 2, 2⟩) rfl hb1 (hE1.trans hE2 fun _ _ h => h) (hE2.row r1 fun h => h) tf_no (ints_vec hr2 rfl) (fun c hc => by have := adr_inj hc; omega) hk
  refine Br_eqF e9 ?_
  by_cases e10 : op = 15
  · subst e10
    refine Br_eqT rfl ?_
    refine Nw_row (vs := ints [3, 1]) fun b2 H2 hb2 hE2 _ hr2 => ?_
    have hs2 := hE2.size
    exact fm_end (sl := [3, 1]) (more := false) (m := 2) (L := ⟨some (adr b2), 2, 2⟩) rfl hb1 (hE1.trans hE2 fun _ _ h => h) (hE2.row r1 fun h => h) tf_no (ints_vec hr2 rfl) (fun c hc => by have := adr_inj hc; omega) hk
  refine Br_eqF e10 ?_
  by_cases e11 : op = 16
  · subst e11
    refine Br_eqT rfl ?_
    refine Nw_row (vs := ints [3, 3]) fun b2 H2 hb2 hE2 _ hr2 => ?_
    have hs2 := hE2.size
    exact fm_end (sl := [3, 3]) (more := false) (m := 2) (L := ⟨some (adr b2), 2, 2⟩) rfl hb1 (hE1.trans hE2 fun _ _ h => h) (hE2.row r1 fun h => h) tf_no (ints_vec hr2 rfl) (fun c hc => by have := adr_inj hc; omega) hk
  refine Br_eqF e11 ?_
  by_cases e12 : op = 17
  · subst e12
    refine Br_eqT rfl ?_
    refine Nw_row (vs := ints [4]) fun b2 H2 hb2 hE2 _ hr2 => ?_
    have hs2 := hE2.size
    exact fm_end (sl := [4]) (more := true) (m := 0) (L := ⟨some (adr b2), 1, 1⟩) rfl hb1 (hE1.trans hE2 fun _ _ h => h) (hE2.row r1 fun h => h) tf_no (ints_vec hr2 rfl) (fun c hc => by have := adr_inj hc; omega) hk
  refine Br_eqF e12 ?_
  by_cases e13 : op = 18
  · subst e13
    refine Br_eqT rfl ?_
    refine Nw_row (vs := ints [4]) fun b2 H2 hb2 hE2 _ hr2 => ?_
    have hs2 := hE2.size
    exact fm_end (sl := [4]) (more := false) (m := 1) (L := ⟨some (adr b2), 1, 1⟩) rfl hb1 (hE1.trans hE2 fun _ _ h => h) (hE2.row r1 fun h => h) tf_no (ints_vec hr2 rfl) (fun c hc => by have := adr_inj hc; omega) hk
  refine Br_eqF e13 ?_
  by_cases e14 : op = 19
  · subst e14
    refine Br_eqT rfl ?_
    exact fm_end (sl := []) (more := false) (m := 0) (L := ⟨none, 0, 0⟩) rfl hb1 hE1 r1 tf_name (Vec.nil _ _) (fun c hc => by cases hc) hk
  refine Br_eqF e14 ?_
  by_cases e15 : op = 20
  · subst e15
    refine Br_eqT rfl ?_
    exact fm_end (sl := []) (more := false) (m := 0) (L := ⟨none, 0, 0⟩) rfl hb1 hE1 r1 tf_no (Vec.nil _ _) (fun c hc => by cases hc) hk
  refine Br_eqF e15 ?_
  by_cases e16 : op = 21
  · subst e16
    refine Br_eqT rfl ?_
    exact fm_end (sl := []) (more := false) (m := 0) (L := ⟨none, 0, 0⟩) rfl hb1 hE1 r1 tf_no (Vec.nil _ _) (fun c hc => by cases hc) hk
  refine Br_eqF e16 ?_
  by_cases e17 : op = 22
  · subst e17
    refine Br_eqT rfl ?_
    refine Nw_row (vs := ints [3]) fun b2 H2 hb2 hE2 _ hr2 => ?_
    have hs2 := hE2.size
    exact fm_end (sl := [3]) (more := false) (m := 1) (L := ⟨some (adr b2), 1, 1⟩) rfl hb1 (hE1.trans hE2 fun _ _ h => h) (hE2.row r1 fun h => h) tf_no (ints_vec hr2 rfl) (fun c hc => by have := adr_inj hc; omega) hk
  refine Br_eqF e17 ?_
  by_cases e18 : op = 23
  · subst e18
    refine Br_eqT rfl ?_
    refine Nw_row (vs := ints [5]) fun b2 H2 hb2 hE2 _ hr2 => ?_
    have hs2 := hE2.size
    exact fm_end (sl := [5]) (more := true) (m := 0) (L := ⟨some (adr b2), 1, 1⟩) rfl hb1 (hE1.trans hE2 fun _ _ h => h) (hE2.row r1 fun h => h) tf_name (ints_vec hr2 rfl) (fun c hc => by have := adr_inj hc; omega) hk
  refine Br_eqF e18 ?_
  by_cases e19 : op = 24
  · subst e19
    refine Br_eqT rfl ?_
    refine Nw_row (vs := ints [3]) fun b2 H2 hb2 hE2 _ hr2 => ?_
    have hs2 := hE2.size
    exact fm_end (sl := [3]) (more := false) (m := 1) (L := ⟨some (adr b2), 1, 1⟩) rfl hb1 (hE1.trans hE2 fun _ _ h => h) (hE2.row r1 fun h => h) tf_name (ints_vec hr2 rfl) (fun c hc => by have := adr_inj hc; omega) hk
  refine Br_eqF e19 ?_
  by_cases e20 : op = 30
  · subst e20
    refine Br_eqT rfl ?_
    exact fm_end (sl := []) (more := false) (m := 0) (L := ⟨none, 0, 0⟩) rfl hb1 hE1 r1 tf_no (Vec.nil _ _) (fun c hc => by cases hc) hk
  refine Br_eqF e20 ?_
  by_cases e21 : op = 31
  · subst e21
    refine Br_eqT rfl ?_
    exact fm_end (sl := []) (more := false) (m := 0) (L := ⟨none, 0, 0⟩) rfl hb1 hE1 r1 tf_name (Vec.nil _ _) (fun c hc => by cases hc) hk
  refine Br_eqF e21 ?_
  by_cases e22 : op = 32
  · subst e22
    refine Br_eqT rfl ?_
    refine Nw_row (vs := ints [6]) fun b2 H2 hb2 hE2 _ hr2 => ?_
    have hs2 := hE2.size
    exact fm_end (sl := [6]) (more := false) (m := 1) (L := ⟨some (adr b2), 1, 1⟩) rfl hb1 (hE1.trans hE2 fun _ _ h => h) (hE2.row r1 fun h => h) tf_name (ints_vec hr2 rfl) (fun c hc => by have := adr_inj hc; omega) hk
  refine Br_eqF e22 ?_
  by_cases e23 : op = 33
  · subst e23
    refine Br_eqT rfl ?_
    refine Nw_row (vs := ints [3, 3]) fun b2 H2 hb2 hE2 _ hr2 => ?_
    have hs2 := hE2.size
    exact fm_end (sl := [3, 3]) (more := false) (m := 2) (L := ⟨some (adr b2), 2, 2⟩) rfl hb1 (hE1.trans hE2 fun _ _ h => h) (hE2.row r1 fun h => h) tf_sign (ints_vec hr2 rfl) (fun c hc => by have := adr_inj hc; omega) hk
  refine Br_eqF e23 ?_
  by_cases e24 : op = 34
  · subst e24
    refine Br_eqT rfl ?_
    refine Nw_row (vs := ([[45], [33]] : List Txt).map strV) fun b4 H4 hb4 hE4 _ hr4 => ?_
    refine s_among (kd := 4) (ws := [[45], [33]]) (L := ⟨some (adr b4), 2, 2⟩) (fun t => by rw [Bool.eq_iff_iff]; simp [textB]) (by decide) (strs_vec hr4 rfl) (b := b1) (by omega) (fun e => by have := adr_inj e; omega) fun H5 b5 hE5 ht5 => ?_
    have hE15 := hE4.trans hE5 fun _ _ h => h
    refine Nw_row (vs := ints [3]) fun b2 H2 hb2 hE2 _ hr2 => ?_
    have hE25 := hE15.trans hE2 fun _ _ h => h
    have hs25 := hE25.size
    have hs15 := hE15.size
    exact fm_end (sl := [3]) (more := false) (m := 1) (L := ⟨some (adr b2), 1, 1⟩) rfl hb1 (hE1.trans hE25 fun _ _ h => h) (hE25.row r1 fun h => h) (ht5.ext hE2) (ints_vec hr2 rfl) (fun c hc => by have := adr_inj hc; omega) hk
  refine Br_eqF e24 ?_
  by_cases e25 : op = 35
  · subst e25
    refine Br_eqT rfl ?_
    refine Nw_row (vs := ints [3, 3, 3]) fun b2 H2 hb2 hE2 _ hr2 => ?_
    have hs2 := hE2.size
    exact fm_end (sl := [3, 3, 3]) (more := false) (m := 3) (L := ⟨some (adr b2), 3, 3⟩) rfl hb1 (hE1.trans hE2 fun _ _ h => h) (hE2.row r1 fun h => h) tf_no (ints_vec hr2 rfl) (fun c hc => by have := adr_inj hc; omega) hk
  refine Br_eqF e25 ?_
  by_cases e26 : op = 36
  · subst e26
    refine Br_eqT rfl ?_
    refine Nw_row (vs := ints [3]) fun b2 H2 hb2 hE2 _ hr2 => ?_
    have hs2 := hE2.size
    exact fm_end (sl := [3]) (more := true) (m := 0) (L := ⟨some (adr b2), 1, 1⟩) rfl hb1 (hE1.trans hE2 fun _ _ h => h) (hE2.row r1 fun h => h) tf_called (ints_vec hr2 rfl) (fun c hc => by have := adr_inj hc; omega) hk
  refine Br_eqF e26 ?_
  by_cases e27 : op = 37
  · subst e27
    refine Br_eqT rfl ?_
    exact fm_end (sl := []) (more := false) (m := 0) (L := ⟨none, 0, 0⟩) rfl hb1 hE1 r1 tf_name (Vec.nil _ _) (fun c hc => by cases hc) hk
  refine Br_eqF e27 ?_
  by_cases e28 : op = 38
  · subst e28
    refine Br_eqT rfl ?_
    refine Nw_row (vs := ([[116, 105, 99, 107], [109, 101]] : List Txt).map strV) fun b4 H4 hb4 hE4 _ hr4 => ?_
    refine s_among (kd := 6) (ws := [[116, 105, 99, 107], [109, 101]]) (L := ⟨some (adr b4), 2, 2⟩) (fun t => by rw [Bool.eq_iff_iff]; simp [textB]) (by decide) (strs_vec hr4 rfl) (b := b1) (by omega) (fun e => by have := adr_inj e; omega) fun H5 b5 hE5 ht5 => ?_
    have hE15 := hE4.trans hE5 fun _ _ h => h
    have hs15 := hE15.size
    exact fm_end (sl := []) (more := false) (m := 0) (L := ⟨none, 0, 0⟩) rfl hb1 (hE1.trans hE15 fun _ _ h => h) (hE15.row r1 fun h => h) ht5 (Vec.nil _ _) (fun c hc => by cases hc) hk
  refine Br_eqF e28 ?_
  have hf : formI op = none := by unfold formI; simp only [if_neg e0, if_neg e1, if_neg e2, if_neg e3, if_neg e4, if_neg e5, if_neg e6, if_neg e7, if_neg e8, if_neg e9, if_neg e10, if_neg e11, if_neg e12, if_neg e13, if_neg e14, if_neg e15, if_neg e16, if_neg e17, if_neg e18, if_neg e19, if_neg e20, if_neg e21, if_neg e22, if_neg e23, if_neg e24, if_neg e25, if_neg e26, if_neg e27, if_neg e28]
  refine ⟨(.nilFunc, ⟨none, 0, 0⟩, false, 0), fun w => by kernel_rfl, rfl, ?_⟩
  dsimp only
  refine St_row r1 (by simp) fun H3 hU3 _ hr3 => St_row hr3 (by simp) fun H4 hU4 _ hr4 => St_row hr4 (by simp) fun H5 hU5 _ hr5 => St_row hr5 (by simp) fun H6 hU6 _ hr6 => ?_
  have hr6 : Row H6 b1 TQak [.nilFunc, .slice none 0 0, .bool false, .int .i64 0] := hr6
  refine ⟨(.nilFunc, ⟨none, 0, 0⟩, false, 0), hr6.rd_all, hk _ H6 (hE1.trans (((hU3.trans hU4 fun _ _ e => e).trans hU5 fun _ _ e => e).trans hU6 fun _ _ e => e) fun x hx e => by omega) ?_⟩
  unfold FormOut; rw [hf]
theorem St_row' {b : Nat} {T : TypeId} {u v : Value} {vs : List Value} {k : Heap → Prop} (h : Row H b T (u :: vs)) (hone : v.oneCell' = true := by rfl) (hk : ∀ H', Upd (· = b) H H' → Row H' b T (v :: vs) → k H') : StV ⟨b, 0, none⟩ v H k :=
  ⟨hone, St_row h (by simp) fun H' hU _ hr => hk H' hU hr⟩
theorem CallX_mono {fv : Value} {args : List Value} {r : RTy} {k : r.den → Heap → Prop} (h : CallX Pg fv args r H k) : CallX Pg fv args r H k := h
theorem okL_of : ∀ {l : List Nd}, (∀ n ∈ l, okN n) → okL l
  | [], _ => trivial
  | n :: ns, h => ⟨h n (by simp), okL_of fun m hm => h m (by simp [hm])⟩
theorem take_map_eq {W : List Txt} {l : List Nd} (hl : W.length ≤ l.length) : ((l.take W.length).map Nd.tx = W) ↔ ∀ i, i < W.length → (l[i]?.map Nd.tx) = W[i]? := by
  constructor
  · intro h i hi
    have := congrArg (fun x => x[i]?) h
    simp only [List.getElem?_map, List.getElem?_take, if_pos hi] at this
    exact this
  · intro h
    apply List.ext_getElem?
    intro i
    rw [List.getElem?_map, List.getElem?_take]
    by_cases hi : i < W.length
    · rw [if_pos hi]; exact h i hi
    · rw [if_neg hi, List.getElem?_eq_none (by omega)]; rfl
theorem s_clauses {op nm : Int} {tx : Txt} {l : List Nd} {c : Nat} {L : Sl} (na : NA lo H op tx nm l c L) (hl : okL l) (h2 : op = 2 → 4 ≤ l.length) (h4 : op = 4 → 1 ≤ l.length) {k : Bool → Heap → Prop} (hk : ∀ H', Ext H H' → k (clsB op l) H') :
    CallT Pg fQci [.pointer (some (adr c))] (.one (.c .bool)) H k := by
  refine cQbz _ ?_
  unfold vQbz
  simp only [NilCk_some, adr_add]
  refine Ld_int na.c0 ?_
  refine Jn.mk (fun r H1 => ∃ W : List Txt, Ext H H1 ∧ Vec H1 TQae r (W.map strV) ∧ W.length ≤ l.length ∧ W.length ≤ 4 ∧ clsB op l = decide ((l.take W.length).map Nd.tx = W)) (fun kk hkk => ?_) ?_
  · simp only [Jn]
    by_cases e : op = 2
    · refine Br_eqT e (Nw_row (vs := clauseW.map strV) fun b1 H1 hb1 hE1 _ hr1 => hkk _ _ ⟨clauseW, hE1, strs_vec hr1 rfl, h2 e, by decide, ?_⟩)
      unfold clsB
      rw [if_pos e, Bool.eq_iff_iff]; simp [clauseW]
    refine Br_eqF e ?_
    by_cases e4 : op = 4
    · refine Br_eqT e4 (Nw_row (vs := [[102, 117, 110, 99]].map strV) fun b1 H1 hb1 hE1 _ hr1 => hkk _ _ ⟨[[102, 117, 110, 99]], hE1, strs_vec hr1 rfl, h4 e4, by decide, ?_⟩)
      unfold clsB
      rw [if_neg e, if_pos e4, Bool.eq_iff_iff]; simp
    · refine Br_eqF e4 (hkk _ _ ⟨[], .refl _ _, Vec.nil _ _, Nat.zero_le _, Nat.zero_le _, ?_⟩)
      unfold clsB
      rw [if_neg e, if_neg e4]; simp
  · rintro r H1 ⟨W, hE1, hv, hlen, hW4, hcls⟩
    have na1 := na.upd (EL hE1)
    have hrl : r.len = W.length := by rw [hv.len, List.length_map]
    rw [hcls] at hk
    refine LoopT.ghost (fun m (i : Int) H' => H' = H1 ∧ ∃ j : Nat, i = j ∧ j + m = W.length ∧ ∀ x, x < j → (l[x]?.map Nd.tx) = W[x]?) W.length ⟨rfl, 0, rfl, by omega, fun x hx => by omega⟩ ?_
    rintro next m i H2 ⟨rfl, j, rfl, hj, hall⟩ hnext
    cases m with
    | zero =>
      refine Br_no (by rw [hrl]; omega) ?_
      rw [decide_eq_true ((take_map_eq hlen).2 fun i hi => hall i (by omega))] at hk
      exact hk _ hE1
    | succ m =>
      have hjW : j < W.length := by omega
      have hjl : j < l.length := by omega
      have hget : l[j]? = some l[j] := List.getElem?_eq_getElem hjl
      have hgW : W[j]? = some W[j] := List.getElem?_eq_getElem hjW
      obtain ⟨ad, qx, ix, hlt, hcc, hlx⟩ := na1.ix j _ hget
      obtain ⟨op2, tx2, nm2, l2, a2, c2, L2, he, rfl, na2⟩ := hlx.some' (okL_all hl _ (mem_get hget))
      refine Br_yes (by rw [hrl]; omega) (IxA_vec hv (by omega) (by simp; omega) fun ad2 hc2 _ => ?_)
      have hc2 : hcell H2 ad2 = some (strV W[j]) := hc2.trans (by simp [hgW])
      refine Ld_str hc2 (Ld_sl na1.c3 (ix rfl (Ld_ptr hcc ?_)))
      simp only [Option.map_some, NilCk_some, adr_add]
      refine Ld_str na2.c1 ?_
      rw [beq_bs]
      refine Br.mk (fun e => ?_) fun e => ?_
      · have hne : tx2 ≠ W[j] := by simpa using e
        rw [decide_eq_false fun h => hne (by have := (take_map_eq hlen).1 h j hjW; rw [hget, hgW, he] at this; simpa [Nd.tx] using this)] at hk
        exact hk _ hE1
      · have heq : tx2 = W[j] := by simpa using e
        refine Lt.mk (u := ((j + 1 : Nat) : Int)) (by rw [wrap_i64_id] <;> omega) (hnext m _ _ (by omega) ⟨rfl, j + 1, by omega, by omega, fun x hx => ?_⟩)
        rcases Nat.lt_or_ge x j with h | h
        · exact hall x h
        · have : x = j := by omega
          subst this
          rw [hget, hgW, he]; simp [Nd.tx, heq]
mutual
def txtN : Nd → Prop
  | .nil => True
  | .mk _ tx _ l _ => tx.length ≤ 2 ^ 40 ∧ l.length ≤ 2 ^ 40 ∧ txtL l
def txtL : List Nd → Prop
  | [] => True
  | n :: ns => txtN n ∧ txtL ns
end
theorem txtL_all : ∀ {l : List Nd}, txtL l → ∀ n ∈ l, txtN n
  | [], _, n, hn => by cases hn
  | m :: ms, h, n, hn => by
    rcases List.mem_cons.1 hn with rfl | hn
    · exact h.1
    · exact txtL_all h.2 n hn
theorem headD_drop (sl : List Int) : (sl.headD 8) = (sl[0]?).getD 8 := by cases sl <;> rfl
theorem fitL_step {bl left : Int} {sl : List Int} {n : Nd} {ns : List Nd} : fitL bl left sl (n :: ns) = match fitN bl left n with
    | none => none
    | some lf => if sortB n.op (sl.headD 8) then fitL bl lf (if sl.length ≤ 1 then sl else sl.tail) ns else none := by rw [fitL]; cases fitN bl left n <;> rfl
theorem formI_facts {op : Int} {k : Nat} {sl : List Int} {more : Bool} {m : Nat} (h : formI op = some (k, sl, more, m)) : (∀ s ∈ sl, 0 ≤ s ∧ s ≤ 8) ∧ (more = true → sl ≠ []) ∧ m ≤ 5 ∧ sl.length ≤ 5 ∧ (op = 2 → 4 ≤ m) ∧ (op = 4 → 1 ≤ m) := by
  unfold formI at h
  by_cases e : op = 1
  · rw [if_pos e] at h; cases h; exact ⟨by decide, by decide, by decide, by decide, fun g => by omega, fun g => by omega⟩
  rw [if_neg e] at h; clear e
  by_cases e : op = 2
  · rw [if_pos e] at h; cases h; exact ⟨by decide, by decide, by decide, by decide, fun g => by omega, fun g => by omega⟩
  rw [if_neg e] at h; clear e
  by_cases e : op = 3
  · rw [if_pos e] at h; cases h; exact ⟨by decide, by decide, by decide, by decide, fun g => by omega, fun g => by omega⟩
  rw [if_neg e] at h; clear e
  by_cases e : op = 4
  · rw [if_pos e] at h; cases h; exact ⟨by decide, by decide, by decide, by decide, fun g => by omega, fun g => by omega⟩
  rw [if_neg e] at h; clear e
  by_cases e : op = 5
  · rw [if_pos e] at h; cases h; exact ⟨by decide, by decide, by decide, by decide, fun g => by omega, fun g => by omega⟩
  rw [if_neg e] at h; clear e
  by_cases e : op = 10
  · rw [if_pos e] at h; cases h; exact ⟨by decide, by decide, by decide, by decide, fun g => by omega, fun g => by omega⟩
  rw [if_neg e] at h; clear e
  by_cases e : op = 11
  · rw [if_pos e] at h; cases h; exact ⟨by decide, by decide, by decide, by decide, fun g => by omega, fun g => by omega⟩
  rw [if_neg e] at h; clear e
  by_cases e : op = 12
  · rw [if_pos e] at h; cases h; exact ⟨by decide, by decide, by decide, by decide, fun g => by omega, fun g => by omega⟩
  rw [if_neg e] at h; clear e
  by_cases e : op = 13
  · rw [if_pos e] at h; cases h; exact ⟨by decide, by decide, by decide, by decide, fun g => by omega, fun g => by omega⟩
  rw [if_neg e] at h; clear e
  by_cases e : op = 14
  · rw [if_pos e] at h; cases h; exact ⟨by decide, by decide, by decide, by decide, fun g => by omega, fun g => by omega⟩
  rw [if_neg e] at h; clear e
  by_cases e : op = 15
  · rw [if_pos e] at h; cases h; exact ⟨by decide, by decide, by decide, by decide, fun g => by omega, fun g => by omega⟩
  rw [if_neg e] at h; clear e
  by_cases e : op = 16
  · rw [if_pos e] at h; cases h; exact ⟨by decide, by decide, by decide, by decide, fun g => by omega, fun g => by omega⟩
  rw [if_neg e] at h; clear e
  by_cases e : op = 17
  · rw [if_pos e] at h; cases h; exact ⟨by decide, by decide, by decide, by decide, fun g => by omega, fun g => by omega⟩
  rw [if_neg e] at h; clear e
  by_cases e : op = 18
  · rw [if_pos e] at h; cases h; exact ⟨by decide, by decide, by decide, by decide, fun g => by omega, fun g => by omega⟩
  rw [if_neg e] at h; clear e
  by_cases e : op = 19
  · rw [if_pos e] at h; cases h; exact ⟨by decide, by decide, by decide, by decide, fun g => by omega, fun g => by omega⟩
  rw [if_neg e] at h; clear e
  by_cases e : op = 20
  · rw [if_pos e] at h; cases h; exact ⟨by decide, by decide, by decide, by decide, fun g => by omega, fun g => by omega⟩
  rw [if_neg e] at h; clear e
  by_cases e : op = 21
  · rw [if_pos e] at h; cases h; exact ⟨by decide, by decide, by decide, by decide, fun g => by omega, fun g => by omega⟩
  rw [if_neg e] at h; clear e
  by_cases e : op = 22
  · rw [if_pos e] at h; cases h; exact ⟨by decide, by decide, by decide, by decide, fun g => by omega, fun g => by omega⟩
  rw [if_neg e] at h; clear e
  by_cases e : op = 23
  · rw [if_pos e] at h; cases h; exact ⟨by decide, by decide, by decide, by decide, fun g => by omega, fun g => by omega⟩
  rw [if_neg e] at h; clear e
  by_cases e : op = 24
  · rw [if_pos e] at h; cases h; exact ⟨by decide, by decide, by decide, by decide, fun g => by omega, fun g => by omega⟩
  rw [if_neg e] at h; clear e
  by_cases e : op = 30
  · rw [if_pos e] at h; cases h; exact ⟨by decide, by decide, by decide, by decide, fun g => by omega, fun g => by omega⟩
  rw [if_neg e] at h; clear e
  by_cases e : op = 31
  · rw [if_pos e] at h; cases h; exact ⟨by decide, by decide, by decide, by decide, fun g => by omega, fun g => by omega⟩
  rw [if_neg e] at h; clear e
  by_cases e : op = 32
  · rw [if_pos e] at h; cases h; exact ⟨by decide, by decide, by decide, by decide, fun g => by omega, fun g => by omega⟩
  rw [if_neg e] at h; clear e
  by_cases e : op = 33
  · rw [if_pos e] at h; cases h; exact ⟨by decide, by decide, by decide, by decide, fun g => by omega, fun g => by omega⟩
  rw [if_neg e] at h; clear e
  by_cases e : op = 34
  · rw [if_pos e] at h; cases h; exact ⟨by decide, by decide, by decide, by decide, fun g => by omega, fun g => by omega⟩
  rw [if_neg e] at h; clear e
  by_cases e : op = 35
  · rw [if_pos e] at h; cases h; exact ⟨by decide, by decide, by decide, by decide, fun g => by omega, fun g => by omega⟩
  rw [if_neg e] at h; clear e
  by_cases e : op = 36
  · rw [if_pos e] at h; cases h; exact ⟨by decide, by decide, by decide, by decide, fun g => by omega, fun g => by omega⟩
  rw [if_neg e] at h; clear e
  by_cases e : op = 37
  · rw [if_pos e] at h; cases h; exact ⟨by decide, by decide, by decide, by decide, fun g => by omega, fun g => by omega⟩
  rw [if_neg e] at h; clear e
  by_cases e : op = 38
  · rw [if_pos e] at h; cases h; exact ⟨by decide, by decide, by decide, by decide, fun g => by omega, fun g => by omega⟩
  rw [if_neg e] at h; clear e
  cases h
theorem drop_step {sl : List Int} (j : Nat) : (if (sl.drop (min j (sl.length - 1))).length ≤ 1 then sl.drop (min j (sl.length - 1)) else (sl.drop (min j (sl.length - 1))).tail) = sl.drop (min (j + 1) (sl.length - 1)) := by
  rw [List.length_drop]
  by_cases h : sl.length - 1 ≤ j
  · rw [Nat.min_eq_right h, Nat.min_eq_right (by omega : sl.length - 1 ≤ j + 1), if_pos (by omega)]
  · rw [Nat.min_eq_left (by omega), Nat.min_eq_left (by omega : j + 1 ≤ sl.length - 1), if_neg (by omega), List.tail_drop]
theorem s_fits : ∀ (m : Nat) {n : Nd} {q : Option Nat} {H : Heap} {bl left : Int} {lb : Nat}, cnt n ≤ m → LN lo H n q → txtN n → 8 ≤ lo → lo ≤ H.size → TabH H → lo ≤ lb → Row H lb TQaj [.int .i64 left] → 0 ≤ left ∧ left ≤ 100000 → 0 ≤ bl ∧ bl ≤ 100 →
    ∀ {k : Bool → Heap → Prop}, (∀ H', Upd (· = lb) H H' → fitN bl left n = none → k false H') → (∀ H' lf, Upd (· = lb) H H' → fitN bl left n = some lf → Row H' lb TQaj [.int .i64 lf] → k true H') →
    CallT Pg fQcc [pN q, .int .i64 bl, .pointer (some (adr lb))] (.one (.c .bool)) H k := by
  have up : ∀ {lb : Nat} {H H' : Heap}, lo ≤ lb → Upd (· = lb) H H' → Upd (lo ≤ ·) H H' := fun hl h => h.mono fun x _ e => by omega
  intro m
  induction m with
  | zero =>
    intro n q H bl left lb hm hq htx h8 hlo ht hlb hr hl hbl k hk0 hk1
    cases n with
    | mk op tx nm l a => simp [cnt] at hm
    | nil =>
      obtain ⟨fp, h1, h2⟩ := hq.ex
      obtain ⟨rfl, _⟩ := h1
      refine cQbu _ _ _ ?_
      unfold vQbu
      simp only [NilCk_some]
      refine Ld_int ((hr.cell 0).trans rfl) (Lt.mk (u := left - 1) (by rw [wrap_i64_id] <;> omega) (St_row hr (by simp) fun H1 hU1 _ hr1 => ?_))
      refine Jn.mk (fun j H' => H1 = H' ∧ j = true) (fun kk hkk => (Br_true _ _).2 (hkk _ _ ⟨rfl, rfl⟩)) ?_
      rintro _ _ ⟨rfl, rfl⟩
      exact (Br_true _ _).2 (hk0 _ hU1 (by simp [fitN]))
  | succ m ih =>
    intro n q H bl left lb hm hq htx h8 hlo ht hlb hr hl hbl k hk0 hk1
    cases n with
    | nil =>
      obtain ⟨fp, h1, h2⟩ := hq.ex
      obtain ⟨rfl, _⟩ := h1
      refine cQbu _ _ _ ?_
      unfold vQbu
      simp only [NilCk_some]
      refine Ld_int ((hr.cell 0).trans rfl) (Lt.mk (u := left - 1) (by rw [wrap_i64_id] <;> omega) (St_row hr (by simp) fun H1 hU1 _ hr1 => ?_))
      refine Jn.mk (fun j H' => H1 = H' ∧ j = true) (fun kk hkk => (Br_true _ _).2 (hkk _ _ ⟨rfl, rfl⟩)) ?_
      rintro _ _ ⟨rfl, rfl⟩
      exact (Br_true _ _).2 (hk0 _ hU1 (by simp [fitN]))
    | mk op tx nm l a =>
    obtain ⟨c, L, rfl, na⟩ := hq.na
    have hcn : cnt (.mk op tx nm l a) = 1 + cntL l := by simp [cnt]
    refine cQbu _ _ _ ?_
    unfold vQbu
    simp only [Option.map_some, NilCk_some, adr_add]
    have hcl := na.lt
    refine Ld_int ((hr.cell 0).trans rfl) (Lt.mk (u := left - 1) (by rw [wrap_i64_id] <;> omega) (St_row hr (by simp) fun H1 hU1 _ hr1 => ?_))
    have hL1 := hU1
    have hr1 : Row H1 lb TQaj [.int .i64 (left - 1)] := hr1
    have n1 := na.upd (up hlb hL1)
    have hfit : fitN bl left (.mk op tx nm l a) = (if left - 1 < 0 ∨ (op = 30 ∧ nm < 0) then none else
        match formI op with
        | none => none
        | some (k, sl, more, m) =>
          if (if op = 5 then bl + 1 else bl) > 20 ∨ textB k tx = false ∨ l.length < m ∨ (sl.length < l.length ∧ more = false) then none else
          match fitL (if op = 5 then bl + 1 else bl) (left - 1) sl l with
          | none => none
          | some lf => if clsB op l then some lf else none) := by
      rw [fitN]
      by_cases h0 : left - 1 < 0 ∨ (op = 30 ∧ nm < 0)
      · rw [if_pos h0, if_pos h0]
      · rw [if_neg h0, if_neg h0]
        cases formI op with
        | none => rfl
        | some z =>
          obtain ⟨k', sl, more, m'⟩ := z
          dsimp only
          by_cases h5 : op = 5
          · simp only [if_pos h5]
            split
            · rfl
            · cases fitL (bl + 1) (left - 1) sl l <;> rfl
          · simp only [if_neg h5]
            split
            · rfl
            · cases fitL bl (left - 1) sl l <;> rfl
    refine Jn.mk (fun j H' => H1 = H' ∧ j = decide (left - 1 < 0 ∨ (op = 30 ∧ nm < 0))) (fun kk hkk => ?_) ?_
    · refine (Br_false _ _).2 (Ld_int ((hr1.cell 0).trans rfl) (Br_dec (fun h => hkk _ _ ⟨rfl, (decide_eq_true (.inl h)).symm⟩) fun h => Ld_int n1.c0 ?_))
      by_cases e : op = 30
      · exact Br_eqT e (Ld_int n1.c2 (hkk _ _ ⟨rfl, decide_eq_decide.2 ⟨fun g => .inr ⟨e, g⟩, fun g => g.elim (fun g => absurd g h) fun g => g.2⟩⟩))
      · exact Br_eqF e (hkk _ _ ⟨rfl, (decide_eq_false fun g => g.elim h fun g => e g.1).symm⟩)
    rintro _ _ ⟨rfl, rfl⟩
    refine Br_dec (fun h0 => ?_) fun h0 => ?_
    · rw [if_pos h0] at hfit
      exact hk0 _ hL1 hfit
    rw [if_neg h0] at hfit
    refine Ld_int n1.c0 ?_
    generalize hb5 : (if op = 5 then bl + 1 else bl) = b5 at hfit
    refine Jn.mk (fun j H' => H1 = H' ∧ j = b5) (fun kk hkk => ?_) ?_
    · by_cases e : op = 5
      · rw [if_pos e] at hb5
        exact Br_eqT e (Lt.mk (u := b5) (by rw [wrap_i64_id] <;> omega) (hkk _ _ ⟨rfl, rfl⟩))
      · rw [if_neg e] at hb5
        exact Br_eqF e (hkk _ _ ⟨rfl, hb5⟩)
    rintro j5 _ ⟨rfl, hj5⟩
    rw [hj5]
    have hb5r : 0 ≤ b5 ∧ b5 ≤ 101 := by split at hb5 <;> omega
    refine Ld_int n1.c0 (s_formOf fun r H4 hE4 hF => ?_)
    refine Nw_row (vs := [.nilFunc, .slice none 0 0, .bool false, .int .i64 0]) fun b1 H5 hb1 hE5 _ hr5 => ?_
    unfold FormOut at hF
    have hs4 := hE4.size
    have hs1 := hL1.size
    cases hfo : formI op with
    | none =>
      rw [hfo] at hF hfit
      dsimp only at hF hfit
      -- no form
      subst hF
      dsimp only
      refine St_row' (hone := rfl) hr5 fun H6 hU6 r6 => ?_
      refine St_row r6 (by simp) fun H7 hU7 _ r7 => St_row r7 (by simp) fun H8 hU8 _ r8 => St_row r8 (by simp) fun H9 hU9 _ r9 => ?_
      have hL9 : Upd (· = lb) H H9 := upE (upE hL1 hE4) (extUpd hE5 (by omega) (((hU6.trans hU7 fun _ _ e => e).trans hU8 fun _ _ e => e).trans hU9 fun _ _ e => e))
      refine Jn.mk (fun j H' => H9 = H' ∧ j = true) (fun kk hkk => (Br_true _ _).2 (hkk _ _ ⟨rfl, rfl⟩)) ?_
      rintro _ _ ⟨rfl, rfl⟩
      exact (Br_true _ _).2 (hk0 _ hL9 hfit)
    | some z =>
      obtain ⟨kd, sl, more, m'⟩ := z
      rw [hfo] at hF hfit
      dsimp only at hF hfit
      obtain ⟨hsr, hme, hm5, hsl5, hm2, hm4⟩ := formI_facts hfo
      obtain ⟨⟨fv, sL, mo, so⟩, ok⟩ := r
      obtain ⟨f1, f2, ⟨tb, f3⟩, f4, f5, f6, f7⟩ := hF
      dsimp only at f1 f2 f3 f4 f5 f6 f7
      subst f1 f6 f7
      dsimp only
      refine St_row' (hone := f2) hr5 fun H6 hU6 r6 => ?_
      refine St_row r6 (by simp) fun H7 hU7 _ r7 => St_row r7 (by simp) fun H8 hU8 _ r8 => St_row r8 (by simp) fun H9 hU9 _ r9 => ?_
      have r9 : Row H9 b1 TQak [fv, slV sL, .bool mo, .int .i64 (m' : Nat)] := r9
      have hUb : Upd (· = b1) H5 H9 := ((hU6.trans hU7 fun _ _ e => e).trans hU8 fun _ _ e => e).trans hU9 fun _ _ e => e
      have hE49 : Ext H4 H9 := extUpd hE5 (by omega) hUb
      have hL9 : Upd (· = lb) H H9 := upE (upE hL1 hE4) hE49
      have n9 := na.upd (up hlb hL9)
      have hsL := f4.upd hE49 fun _ _ h => h
      have hlbr : Row H9 lb TQaj [.int .i64 (left - 1)] := hE49.row (hE4.row hr1 fun h => h) fun h => h
      have ht9 : TabH H9 := ht.nb hL9 (by show ¬ 0 = lb; omega)
      have hs9 := hL9.size
      -- the guard
      refine Jn.mk (fun j H' => Ext H9 H' ∧ j = decide (b5 > 20 ∨ textB kd tx = false ∨ l.length < m' ∨ (sl.length < l.length ∧ mo = false))) (fun kk hkk => ?_) ?_
      · refine (Br_false _ _).2 (Br_dec (fun h => hkk _ _ ⟨.refl _ _, (decide_eq_true (.inl h)).symm⟩) fun h => ?_)
        refine Ld.mk (c := .raw) fv ((r9.cell 0).trans rfl) (Ld_str n9.c1 (CallX_mono (f3.ext hE49 (.refl _ _) ht9 htx.1 fun H10 hE10 => ?_)))
        have r10 := hE10.row r9 fun h => h
        have n10 := n9.upd (EL hE10)
        refine Br.mk (fun e => hkk _ _ ⟨hE10, ?_⟩) fun e => ?_
        · have e : textB kd tx = false := by simpa using e
          exact (decide_eq_true (.inr (.inl e))).symm
        have e : textB kd tx = true := by simpa using e
        refine Ld_sl n10.c3 (Ld_int ((r10.cell 3).trans rfl) (Br_dec (fun h3 => hkk _ _ ⟨hE10, (decide_eq_true (.inr (.inr (.inl (by rw [na.len] at h3; omega))))).symm⟩) fun h3 => ?_))
        rw [na.len] at h3
        refine Ld_sl n10.c3 (Ld_sl ((r10.cell 1).trans rfl) ?_)
        have hsLl : sL.len = sl.length := by rw [f4.len]; simp
        rw [na.len, hsLl]
        refine Br_dec (fun h4 => Ld_bool ((r10.cell 2).trans rfl) (hkk _ _ ⟨hE10, ?_⟩)) fun h4 => hkk _ _ ⟨hE10, ?_⟩
        · rw [Bool.eq_iff_iff, decide_eq_true_eq, Bool.not_eq_true']
          exact ⟨fun g => .inr (.inr (.inr ⟨by omega, g⟩)), fun g => by
            rcases g with g | g | g | g
            · exact absurd g h
            · rw [e] at g; cases g
            · omega
            · exact g.2⟩
        · symm; rw [decide_eq_false_iff_not]
          intro g; rcases g with g | g | g | g
          · exact h g
          · rw [e] at g; cases g
          · omega
          · omega
      rintro _ H10 ⟨hE10, rfl⟩
      have hL10 := upE hL9 hE10
      refine Br_dec (fun hg => ?_) fun hg => ?_
      · rw [if_pos hg] at hfit
        exact hk0 _ hL10 hfit
      rw [if_neg hg] at hfit
      have n10 := na.upd (up hlb hL10)
      have hg1 : ¬ b5 > 20 := fun e => hg (.inl e)
      have hg3 : m' ≤ l.length := Nat.le_of_not_lt fun e => hg (.inr (.inr (.inl e)))
      have hg4 : l.length ≤ sl.length ∨ mo = true := by
        by_cases e : mo = true
        · exact .inr e
        · left; exact Nat.le_of_not_lt fun g => hg (.inr (.inr (.inr ⟨g, by simpa using e⟩)))
      refine Ld_sl n10.c3 ?_
      have hs10 := hL10.size
      have hb1lt : lo ≤ b1 := by omega
      have hl40 := htx.2.1
      -- the children
      refine LoopT.ghost (fun r (i : Int) H' => ∃ (j : Nat) (lf : Int), i = (j : Nat) ∧ j + r = l.length ∧ Upd (· = lb) H H' ∧ Row H' lb TQaj [.int .i64 lf] ∧ Row H' b1 TQak [fv, slV sL, .bool mo, .int .i64 (m' : Nat)] ∧ Vec H' TQaj sL (ints sl) ∧ (0 ≤ lf ∧ lf ≤ 100000) ∧ (∀ n ∈ l.take j, okN n) ∧ fitL b5 (left - 1) sl l = fitL b5 lf (sl.drop (min j (sl.length - 1))) (l.drop j)) l.length
        ⟨0, left - 1, rfl, by omega, hL10, hE10.row hlbr fun h => h, hE10.row r9 fun h => h, hsL.upd hE10 fun _ _ h => h, by omega, fun n hn => (by simp at hn), by simp⟩ ?_
      rintro next r i H11 ⟨j, lf, rfl, hj, hL11, q11, r11, v11, hlf, hok, heq⟩ hnext
      have n11 := na.upd (up hlb hL11)
      have hs11 := hL11.size
      cases r with
      | zero =>
        have hjl : j = l.length := by omega
        subst hjl
        rw [List.take_length] at hok
        have hokL : okL l := okL_of hok
        have : fitL b5 (left - 1) sl l = some lf := by rw [heq, List.drop_length, fitL]
        rw [this] at hfit
        dsimp only at hfit
        refine Br_no (by rw [na.len]; omega) (s_clauses n11 hokL (fun e => by have := hm2 e; omega) (fun e => by have := hm4 e; omega) fun H12 hE12 => ?_)
        cases hc : clsB op l with
        | true => rw [hc, if_pos rfl] at hfit; exact hk1 _ lf (upE hL11 hE12) hfit (hE12.row q11 fun h => h)
        | false => rw [hc] at hfit; exact hk0 _ (upE hL11 hE12) hfit
      | succ r =>
        have hjl : j < l.length := by omega
        have hget : l[j]? = some l[j] := List.getElem?_eq_getElem hjl
        have hdrop : l.drop j = l[j] :: l.drop (j + 1) := List.drop_eq_getElem_cons hjl
        have htake : l.take (j + 1) = l.take j ++ [l[j]] := by rw [List.take_add_one, hget]; rfl
        generalize l[j] = v at hget hdrop htake
        have hmem := mem_get hget
        have hvc := cnt_mem hmem
        obtain ⟨ad, qx, ix, hlt, hcc, hlx⟩ := n11.ix j v hget
        refine Br_yes (by rw [na.len]; omega) (ix rfl (Ld_ptr hcc ?_))
        rw [hdrop, fitL_step] at heq
        have hsl0 : 1 ≤ sl.length := by
          rcases hg4 with g | g
          · omega
          · have := hme g
            cases sl with
            | nil => exact absurd rfl this
            | cons => simp
        refine Jn.mk (fun y H' => (y = true ∧ Upd (· = lb) H H' ∧ fitL b5 (left - 1) sl l = none) ∨ (y = false ∧ ∃ lf2, Upd (· = lb) H H' ∧ Row H' lb TQaj [.int .i64 lf2] ∧ Row H' b1 TQak [fv, slV sL, .bool mo, .int .i64 (m' : Nat)] ∧ Vec H' TQaj sL (ints sl) ∧ (0 ≤ lf2 ∧ lf2 ≤ 100000) ∧ okN v ∧ fitL b5 (left - 1) sl l = fitL b5 lf2 (sl.drop (min (j + 1) (sl.length - 1))) (l.drop (j + 1)))) (fun kk hkk => ?_) ?_
        · have hbne : b1 ≠ lb := by have := q11.lt; have := hr.lt; omega
          have hvne : ∀ c, sL.a = some (adr c) → c ≠ lb := fun c hc => by have := f5 c hc; have := hr1.lt; omega
          refine ih (by omega) hlx (txtL_all htx.2.2 v hmem) h8 (by omega) (ht.nb hL11 (by show ¬ 0 = lb; omega)) hlb q11 hlf ⟨hb5r.1, by omega⟩ (fun H12 hU12 hno => ?_) fun H12 lf2 hU12 hfi q12 => ?_
          · rw [hno] at heq
            exact (Br_true _ _).2 (hkk _ _ (.inl ⟨rfl, upU hL11 hU12, heq⟩))
          · rw [hfi] at heq
            dsimp only at heq
            obtain ⟨okv, _, hlf2, _⟩ := fit_ok hfi
            have hlf3 : lf = lf2 + cnt v := (fit_ok hfi).2.1
            have hL12 := upU hL11 hU12
            obtain ⟨op2, tx2, nm2, l2, a2, c2, L2, rfl, rfl, na2⟩ := (hlx.upd (up hlb hU12)).some' okv
            have r12 := hU12.row r11 hbne
            have v12 := v11.upd hU12 hvne
            refine (Br_false _ _).2 ?_
            simp only [Option.map_some, NilCk_some, adr_add]
            have hsLl : sL.len = sl.length := by rw [f4.len]; simp
            refine Ld_int na2.c0 (Ld_sl ((r12.cell 1).trans rfl) (Ld_sl ((r12.cell 1).trans rfl) (Lt.mk (u := ((sl.length - 1 : Nat) : Int)) (by rw [hsLl, wrap_i64_id] <;> omega) ?_)))
            have eidx : (if ((sl.length - 1 : Nat) : Int) < (j : Int) then ((sl.length - 1 : Nat) : Int) else (j : Int)) = ((min j (sl.length - 1) : Nat) : Int) := by split <;> omega
            rw [eidx]
            have hmin : min j (sl.length - 1) < sl.length := by omega
            refine IxA_vec v12 (by omega) (by simp; omega) fun ad2 hc2 _ => ?_
            have hsort : sl[min j (sl.length - 1)]? = some sl[min j (sl.length - 1)] := List.getElem?_eq_getElem hmin
            have hhd : (sl.drop (min j (sl.length - 1))).headD 8 = sl[min j (sl.length - 1)] := by
              rw [headD_drop, List.getElem?_drop, Nat.add_zero, hsort]; rfl
            have hsrt := hsr _ (List.getElem_mem hmin)
            rw [hhd] at heq
            generalize sl[min j (sl.length - 1)] = sv at *
            have hc2 : hcell H12 ad2 = some (.int .i64 sv) := hc2.trans (by simp [hsort])
            refine Ld_int hc2 (s_is hsrt (Stab_2 ((r12.cell 1).trans rfl) ((r12.cell 1).trans rfl) ?_))
            cases hso : sortB op2 sv with
            | true =>
              have heq : fitL b5 (left - 1) sl l = if sortB op2 sv = true then fitL b5 lf2 (if (sl.drop (min j (sl.length - 1))).length ≤ 1 then sl.drop (min j (sl.length - 1)) else (sl.drop (min j (sl.length - 1))).tail) (l.drop (j + 1)) else none := heq
              rw [hso, if_pos rfl, drop_step] at heq
              exact hkk _ _ (.inr ⟨rfl, lf2, hL12, q12, r12, v12, by omega, okv, heq⟩)
            | false =>
              have heq : fitL b5 (left - 1) sl l = if sortB op2 sv = true then fitL b5 lf2 (if (sl.drop (min j (sl.length - 1))).length ≤ 1 then sl.drop (min j (sl.length - 1)) else (sl.drop (min j (sl.length - 1))).tail) (l.drop (j + 1)) else none := heq
              rw [hso] at heq
              exact hkk _ _ (.inl ⟨rfl, hL12, heq⟩)
        · rintro y H12 (⟨rfl, hL12, hno⟩ | ⟨rfl, lf2, hL12, q12, r12, v12, hlf2, hvok, heq2⟩)
          · rw [hno] at hfit
            exact (Br_true _ _).2 (hk0 _ hL12 hfit)
          · refine (Br_false _ _).2 (Lt.mk (u := ((j + 1 : Nat) : Int)) (by rw [wrap_i64_id] <;> omega) (hnext r _ _ (by omega) ⟨j + 1, lf2, rfl, by omega, hL12, q12, r12, v12, hlf2, fun n hn => ?_, heq2⟩))
            rw [htake] at hn
            rcases List.mem_append.1 hn with hn | hn
            · exact hok n hn
            · rw [List.mem_singleton.1 hn]; exact hvok
end
section
open Hc Hc.Lex Hc.Syn
variable {H : Heap}
structure GL (H : Heap) : Prop where
  ge : GE H.size H
  tab : TabH H
  pow : PowH H
theorem GL.ext {H' : Heap} (h : GL H) (hE : Ext H H') : GL H' := ⟨h.ge.up hE, h.tab.ext hE, h.pow.nb hE fun h => h⟩
theorem Tr_lt {n : Nd} {q : Option Nat} {fp : List Nat} (h : TrR TQaf TQab H n q fp) {H' : Heap} (hE : Ext H H') : LN H.size H' n q := ⟨fp, h.upd hE fun _ _ h => h, fun x hx => h.lt x hx⟩
theorem fit_cnt {n : Nd} {bl left lf : Int} (h : fitN bl left n = some lf) : (cnt n : Int) ≤ left := by
  obtain ⟨_, h1, h2, _⟩ := fit_ok h
  omega
theorem thing_drop {l : List Nd} {i : Nat} {n : Nd} (h : l[i]? = some n) : (l.drop i).flatMap thingT = thingT n ++ (l.drop (i + 1)).flatMap thingT := by
  have hlt := (List.getElem?_eq_some_iff.1 h).1
  rw [List.drop_eq_getElem_cons hlt, show l[i] = n from (List.getElem?_eq_some_iff.1 h).2, List.flatMap_cons]
theorem flat_len2 {f : Nd → Txt} : ∀ {l : List Nd}, (∀ n ∈ l, (f n).length ≤ 256 * cnt n) → (l.flatMap f).length ≤ 256 * cntL l := flat_len'
theorem s_Print (hg : GL H) {n : Nd} {q : Option Nat} {fp : List Nat} (hq : TrR TQaf TQab H n q fp) (htx : txtN n) (hi : i64N n) {k : ByteArray → Heap → Prop} (hk : ∀ H', Ext H H' → k ⟨⟨printT n⟩⟩ H') :
    CallT Pg fQca [pN q] (.one (.c .str)) H k := by
  refine cQbs _ ?_
  unfold vQbs
  have h8 : 8 ≤ H.size := hg.ge.lt
  refine Nw_row (vs := [.int .i64 0]) fun b1 H1 hb1 hE1 hs1 hr1 => St_row hr1 (by simp) fun H2 hU2 _ hr2 => ?_
  have hE2 : Ext H H2 := extUpd hE1 (by omega) hU2
  have hs2 := hE2.size
  refine Jn.mk (fun j H' => Ext H H' ∧ j = !((fitN 0 100000 n).isSome && n.op == 1)) (fun kk hkk => ?_) ?_
  · refine s_fits (lo := H.size) (cnt n) (Nat.le_refl _) (Tr_lt hq hE2) htx h8 (by omega) (hg.tab.ext hE2) (by omega) hr2 (by decide) (by decide) (fun H3 hU3 hf => (Br_true _ _).2 (hkk _ _ ⟨extUpd hE2 (by omega) hU3, by rw [hf]; rfl⟩)) fun H3 lf hU3 hf _ => ?_
    have hE3 : Ext H H3 := extUpd hE2 (by omega) hU3
    obtain ⟨op, tx, nm, l, a, c, L, rfl, rfl, na⟩ := (Tr_lt hq hE3).some' (fit_ok hf).1
    refine (Br_false _ _).2 ?_
    simp only [Option.map_some, NilCk_some]
    refine Ld_int na.c0 (hkk _ _ ⟨hE3, ?_⟩)
    rw [hf]; rfl
  · rintro j H3 ⟨hE3, rfl⟩
    unfold printT at hk
    cases hp : (fitN 0 100000 n).isSome && n.op == 1 with
    | false =>
      rw [hp] at hk
      exact (Br_true _ _).2 (hk _ hE3)
    | true =>
      rw [hp, if_pos rfl] at hk
      refine (Br_false _ _).2 ?_
      rw [Bool.and_eq_true, beq_iff_eq, Option.isSome_iff_exists] at hp
      obtain ⟨⟨lf, hf⟩, hop⟩ := hp
      have hcnt := fit_cnt hf
      obtain ⟨hok, _, _, hdp⟩ := fit_ok hf
      refine Nw_row (vs := [.pointer none, .slice none 0 0, .int .i64 0]) fun b2 H4 hb2 hE4 _ hr4 => ?_
      have hE34 := hE3.trans hE4 fun _ _ h => h
      have hs3 := hE3.size
      have hs4 := hE34.size
      obtain ⟨op, tx, nm, l, a, c, L, rfl, rfl, na⟩ := (Tr_lt hq hE34).some' hok
      have hop : op = 1 := hop
      subst hop
      obtain ⟨_, hall⟩ := ok1 hok
      have hcn : cnt (.mk 1 tx nm l a) = 1 + cntL l := by simp [cnt]
      have hle := len_cnt hok.2
      simp only [Option.map_some, NilCk_some, adr_add]
      have w0 : WR H.size H4 b2 [] 0 := ⟨⟨⟨.pointer none, ⟨none, 0, 0⟩, hr4, .inl rfl, Vec.nil _ _, (fun c hc => by cases hc), fun _ => rfl⟩, by omega⟩, h8, hs4, hg.pow.nb hE34 fun h => h⟩
      have hdl : dpL l ≤ 20 := by
        have := hdp (by decide)
        simp only [dpN] at this
        rw [if_neg (by decide)] at this; omega
      have hlen : ∀ v ∈ l, (thingT v).length ≤ 256 * cnt v := fun v hv => by
        refine thingT_len (hall v hv).1 (i64L_all hi.2 v hv) (hall v hv).2 ?_
        have : ∀ {l : List Nd} {v : Nd}, v ∈ l → dpN v ≤ dpL l := fun {l} => by
          induction l with
          | nil => intro v h; cases h
          | cons x xs ih =>
            intro v h
            rcases List.mem_cons.1 h with rfl | h
            · simp only [dpL]; omega
            · have := ih h; simp only [dpL]; omega
        have := this hv
        omega
      have htot := flat_len2 hlen
      refine Ld_sl na.c3 ?_
      refine LoopT.ghost (fun r (i : Int) H' => ∃ (j : Nat) (pr : Txt), i = (j : Nat) ∧ j + r = l.length ∧ Upd (H.size ≤ ·) H4 H' ∧ WR H.size H' b2 pr 0 ∧ pr ++ (l.drop j).flatMap thingT = l.flatMap thingT) l.length
        ⟨0, [], rfl, by omega, .refl _ _, w0, by simp⟩ ?_
      rintro next r i H5 ⟨j, pr, rfl, hj, hU5, h5, heq⟩ hnext
      have n5 := na.upd hU5
      have hlq := congrArg List.length heq
      rw [List.length_append] at hlq
      have hE5 : Ext H H5 := hE34.trans hU5 fun x hx e => by omega
      cases r with
      | zero =>
        refine Br_no (by rw [na.len]; omega) (s_String0 h5.w (by omega) fun H6 hU6 => ?_)
        have ed : l.drop j = [] := List.drop_eq_nil_of_le (by omega)
        rw [ed] at heq
        have et : pr = l.flatMap thingT := by simpa using heq
        rw [et]
        exact hk _ (hE5.trans hU6 fun x hx e => by omega)
      | succ r =>
        have hjl : j < l.length := by omega
        have hget : l[j]? = some l[j] := List.getElem?_eq_getElem hjl
        generalize l[j] = v at hget
        have hmem := mem_get hget
        have hvc := cnt_mem hmem
        obtain ⟨hvo, hvop⟩ := hall v hmem
        obtain ⟨ad, qx, ix, hlt, hcc, hlx⟩ := n5.ix j v hget
        rw [thing_drop hget] at heq hlq
        rw [List.length_append] at hlq
        refine Br_yes (by rw [na.len]; omega) (ix rfl (Ld_ptr hcc ?_))
        refine w_thing (by omega) hvo (i64L_all hi.2 v hmem) hvop hlx h5 (by omega) fun H6 hU6 h6 => ?_
        refine Lt.mk (u := ((j + 1 : Nat) : Int)) (by rw [wrap_i64_id] <;> omega) (hnext r _ _ (by omega) ⟨j + 1, _, rfl, by omega, upL hU5 hU6, h6, ?_⟩)
        rw [← heq, List.append_assoc]
end
section
open Hc
theorem laid_mem {P : Program} {w : World} {n : String} {d : DataW Unit} : ∀ {l : List (String × DataW Unit)} {ps : List MemPlace}, DataW.LaidVars P w l ps → (n, d) ∈ l →
    ∃ g t cs fuel p, P.globalNamed n = some g ∧ (P.globals[g]?).map (·.type) = some t ∧ w.var? P n = some cs ∧ DataW.trod (fun _ => ()) P w 0 (fun _ => true) false fuel t cs.toList = some (d, p)
  | (m, e) :: r, ps, ⟨g, t, cs, fuel, p, q, h1, h2, h3, h4, h5, _⟩, h => by
    rcases List.mem_cons.1 h with h | h
    · cases h; exact ⟨g, t, cs, fuel, p, h1, h2, h3, h4⟩
    · exact laid_mem h5 h
theorem gErr : Tryz.prog.globalNamed "strconv.ErrRange" = some 3 := by kernel_rfl
theorem gErrT : (Tryz.prog.globals[3]?).map (·.type) = some 25 := by kernel_rfl
theorem gErrU : ∃ ms, Tryz.prog.underlying 25 = some (.interface ms) := ⟨_, Tryz.underlying25⟩
theorem gMax : ((begin Tryz.prog (fun _ _ => 0) default).world.heap[1]?).bind Obj.row? = some (#[.int .i64 0], 3) := by kernel_rfl
theorem gTop : ∃ z t, ((begin Tryz.prog (fun _ _ => 0) default).world.heap[8]?).bind Obj.row? = some (z, t) := ⟨#[.pointer none], 190, by kernel_rfl⟩
theorem ge_of {W : World} {laid : List (String × DataW Unit)} (hp : (laid.all fun x => x.2.handleName?.isNone) = true) (hm : ("strconv.ErrRange", Rows.laid_strconv_ErrRange) ∈ laid) (hl : laidMetH Tryz.prog laid W) (hs : W.ShapedOpen Tryz.prog) :
    GE W.heap.size W.heap := by
  rw [MakeChecks.laidMetH_plain _ _ _ hp] at hl
  obtain ⟨ps, hl, _⟩ := hl
  obtain ⟨g, t, cs, fuel, p, h1, h2, h3, h4⟩ := laid_mem hl hm
  obtain rfl := Option.some.inj (gErr.symm.trans h1)
  obtain rfl := Option.some.inj (gErrT.symm.trans h2)
  obtain ⟨ms, hu⟩ := gErrU
  obtain ⟨_, u, v, hc, _, _⟩ := iface_of_trod hu h4
  have hcell := World.var?_cell gErr h3 0
  have hcs : cs = #[.iface u v] := by apply Array.ext'; exact hc
  subst hcs
  obtain ⟨m, hm⟩ := cell_of_shapedOpen_int (g := 1) (k := .i64) hs (by decide +kernel) gMax rfl (by kernel_rfl) (by kernel_rfl) Tryz.underlying3
  refine ⟨?_, ⟨m, ?_⟩, ⟨.iface u v, ?_, .inr ⟨u, v, rfl⟩⟩⟩
  · obtain ⟨z, t, hz⟩ := gTop
    obtain ⟨cs, hh, _⟩ := hs.1 8 z t (by decide +kernel) hz
    exact Nat.le_of_lt (lt_of_get hh)
  · rw [← cell?_eq]; exact hm
  · rw [← cell?_eq, hcell]; rfl
theorem rd_string {P : Program} {t : TypeId} (hu : P.underlying t = some .string) {H : Heap} {v : Value} (h : RdV P H t v) : ∃ s : ByteArray, v = .string s ∧ s.size ≤ reachBytes := by
  obtain ⟨f, hc⟩ := rd_cell hu rfl h
  cases f with
  | zero => exact hc.elim
  | succ f =>
    simp only [RdC, hu] at hc
    obtain ⟨s, hs, hl⟩ := hc
    simp only [List.cons.injEq, and_true] at hs
    exact ⟨s, hs, hl⟩
theorem asciiTab : (Rows.laid_strings_asciiSpace : DataW Unit) = Lib.tabData .u8 Lib.asciiSpaceTab := by kernel_rfl
theorem powTab : (Rows.laid_internal_strconv_uint64pow10 : DataW Unit) = Lib.tabData .u64 Lib.pow10Tab := by kernel_rfl
theorem gAsciiN : Tryz.prog.globalNamed "strings.asciiSpace" = some 0 := by kernel_rfl
theorem gAsciiT : (Tryz.prog.globals[0]?).map (·.type) = some 173 := by kernel_rfl
theorem gPowT : (Tryz.prog.globals[5]?).map (·.type) = some 218 := by kernel_rfl
theorem tab_of {W : World} {laid : List (String × DataW Unit)} (hp : (laid.all fun x => x.2.handleName?.isNone) = true) (hm : ("strings.asciiSpace", Rows.laid_strings_asciiSpace) ∈ laid) (hl : laidMetH Tryz.prog laid W) : TabH W.heap := by
  rw [MakeChecks.laidMetH_plain _ _ _ hp] at hl
  obtain ⟨ps, hl, _⟩ := hl
  obtain ⟨g, t, cs, fuel, p, h1, h2, h3, h4⟩ := laid_mem hl hm
  obtain rfl := Option.some.inj (gAsciiN.symm.trans h1)
  obtain rfl := Option.some.inj (gAsciiT.symm.trans h2)
  rw [asciiTab] at h4
  have hcs := Lib.cells_of_tab Tryz.underlying173 Tryz.underlying5 (by kernel_rfl) (by kernel_rfl) h4
  unfold World.var? at h3
  rw [gAsciiN, Option.bind_some] at h3
  split at h3
  · rename_i cs' ty fr hh
    cases h3
    exact ⟨ty, fr, by rw [hh, ← hcs]⟩
  · cases h3
theorem pow_of {W : World} {laid : List (String × DataW Unit)} (hp : (laid.all fun x => x.2.handleName?.isNone) = true) (hm : ("internal/strconv.uint64pow10", Rows.laid_internal_strconv_uint64pow10) ∈ laid) (hl : laidMetH Tryz.prog laid W) : PowH W.heap := by
  rw [MakeChecks.laidMetH_plain _ _ _ hp] at hl
  obtain ⟨ps, hl, _⟩ := hl
  obtain ⟨g, t, cs, fuel, p, h1, h2, h3, h4⟩ := laid_mem hl hm
  obtain rfl := Option.some.inj (g5.symm.trans h1)
  obtain rfl := Option.some.inj (gPowT.symm.trans h2)
  rw [powTab] at h4
  have hcs := Lib.cells_of_tab Tryz.underlying218 Tryz.underlying132 (by kernel_rfl) (by kernel_rfl) h4
  unfold World.var? at h3
  rw [g5, Option.bind_some] at h3
  split at h3
  · rename_i cs' ty fr hh
    cases h3
    exact ⟨ty, fr, by rw [hh, ← hcs]⟩
  · cases h3
theorem gl_of {W : World} {laid : List (String × DataW Unit)} (hp : (laid.all fun x => x.2.handleName?.isNone) = true) (h1 : ("strconv.ErrRange", Rows.laid_strconv_ErrRange) ∈ laid) (h2 : ("strings.asciiSpace", Rows.laid_strings_asciiSpace) ∈ laid) (h3 : ("internal/strconv.uint64pow10", Rows.laid_internal_strconv_uint64pow10) ∈ laid) (hl : laidMetH Tryz.prog laid W) (hs : W.ShapedOpen Tryz.prog) : GL W.heap :=
  ⟨ge_of hp h1 hl hs, tab_of hp h2 hl, pow_of hp h3 hl⟩
end
section
open Hc Hc.Lex Hc.Syn
variable {H : Heap}
theorem st124 : Pg.stoodInHeld 124 = false := by kernel_rfl
theorem SW_program (k : Program → Heap → Prop) (H : Heap) : SW Pg program k H = k Pg H := rfl
theorem SW_part_ptr {cs : Array Value} {i : Nat} {v : Value} (hi : cs[i]? = some v) (k : Value → Heap → Prop) (H : Heap) : SW Pg (part 23 cs i) k H = k v H := by
  unfold part isAgg
  simp only [SW_bind, SW_underlying Tryz.underlying23, SW_pure', Bool.false_eq_true, if_false, hi]
theorem eq_pair {p q x y : Option Addr} {H : Heap} {n : Nat} (h : PtrEq p x H (fun b => b = false)) : SW Pg (Op.equalIn (n + 2) 124 (.agg #[.pointer p, .pointer q]) (.agg #[.pointer x, .pointer y])) (fun b H' => b = false ∧ H' = H) H := by
  rw [Op.equalIn]
  simp only [SW_bind, SW_underlying Tryz.underlying124, SW_program, st124, Bool.false_eq_true, if_false]
  simp only [← Array.forIn_toList, List.forIn_cons, SW_bind]
  simp only [show ("a" : String) ≠ "_" by decide, ne_eq, not_false_eq_true, if_true, SW_bind, SW_part_ptr (cs := #[.pointer p, .pointer q]) (i := 0) (v := .pointer p) rfl, SW_part_ptr (cs := #[.pointer x, .pointer y]) (i := 0) (v := .pointer x) rfl]
  refine SW_mono ?_ (PtrEq.sound (n := n) Tryz.underlying23 (i := _) rfl ?_ h)
  · rintro b H' ⟨rfl, rfl⟩
    simp [SW_pure', SW_bind]
  · decide
abbrev pairV (e : Nat × Nat) : Value := .agg #[.pointer (some (adr e.1)), .pointer (some (adr e.2))]
theorem ck_ptr {p : Option Addr} (e : Bool) (n : Nat) (k : Unit → Heap → Prop) (H : Heap) : SW Pg (Instr.checkKey e (n + 1) 23 (.pointer p)) k H = k () H := by
  rw [Instr.checkKey]
  simp only [SW_bind, SW_underlying Tryz.underlying23, SW_pure']
theorem check_pair' {p q : Option Addr} (e : Bool) (n : Nat) : SW Pg (Instr.checkKey e (n + 2) 124 (.agg #[.pointer p, .pointer q])) (fun _ H' => H' = H) H := by
  rw [Instr.checkKey]
  simp only [SW_bind, SW_underlying Tryz.underlying124]
  simp only [← Array.forIn_toList, List.forIn_cons, List.forIn_nil, SW_bind]
  simp only [show ("a" : String) ≠ "_" by decide, show ("b" : String) ≠ "_" by decide, ne_eq, not_false_eq_true, if_true, SW_bind, SW_part_ptr (cs := #[.pointer p, .pointer q]) (i := 0) (v := .pointer p) rfl, SW_part_ptr (cs := #[.pointer p, .pointer q]) (i := 1) (v := .pointer q) rfl, ck_ptr, SW_pure']
theorem check_pair {p q : Option Addr} (e : Bool) : SW Pg (Instr.checkKey e 10000 124 (.agg #[.pointer p, .pointer q])) (fun _ H' => H' = H) H := check_pair' e 9998
theorem find_none {p q : Option Addr} : ∀ {es : List MapEntry} {l : List (Nat × Nat)} {i : Nat}, es.map (·.key) = l.map pairV → (∀ e ∈ l, PtrEq p (some (adr e.1)) H fun b => b = false) →
    SW Pg (Instr.findAsking 124 (.agg #[.pointer p, .pointer q]) es i) (fun r H' => r = none ∧ H' = H) H
  | [], _, _, _, _ => ⟨rfl, rfl⟩
  | e :: es, [], _, h, _ => by simp at h
  | e :: es, (x, y) :: l, i, h, hp => by
    simp only [List.map_cons, List.cons.injEq] at h
    rw [Instr.findAsking]
    rw [h.1, SW_bind]
    refine SW_mono ?_ (eq_pair (n := 9998) (hp (x, y) (by simp)))
    rintro b H' ⟨rfl, hH⟩
    rw [hH]
    simp only [Bool.false_eq_true, if_false]
    exact find_none h.2 fun e he => hp e (by simp [he])
theorem FK_none {p q : Option Addr} {es : List MapEntry} {l : List (Nat × Nat)} (h : es.map (·.key) = l.map pairV) (hp : ∀ e ∈ l, PtrEq p (some (adr e.1)) H fun b => b = false) : FK Pg TQal (.agg #[.pointer p, .pointer q]) es H none := by
  refine ⟨fun e => check_pair e, ?_⟩
  unfold Instr.findKey
  rw [SW_bind, SW_underlying Tryz.underlying124]
  cases es with
  | nil => exact ⟨rfl, rfl⟩
  | cons e es =>
    have hk : Instr.findNow (TypeDesc.struct #[{ name := "a", type := 23, offset := 0, embedded := false, tag := "", pkgPath := "hindcast/syntax", byteOffset := 0 }, { name := "b", type := 23, offset := 1, embedded := false, tag := "", pkgPath := "hindcast/syntax", byteOffset := 8 }]) (.agg #[.pointer p, .pointer q]) (e :: es) 0 = none := by
      unfold Instr.findNow; rfl
    rw [hk]
    exact find_none h hp
def MapP (H : Heap) (r : Nat) (l : List (Nat × Nat)) : Prop := ∃ es cl, H[r]? = some (.map ⟨es⟩ cl) ∧ es.map (·.key) = l.map pairV
def Cl (H : Heap) (x : Nat) : Prop := ∃ cs t, H[x]? = some (.cells cs t (0, 0))
theorem Row.cl {b : Nat} {T : TypeId} {vs : List Value} (h : Row H b T vs) : Cl H b := ⟨_, _, h⟩
theorem MapP.ne {r x : Nat} {l : List (Nat × Nat)} (h : MapP H r l) (hx : Cl H x) : x ≠ r := by
  obtain ⟨es, cl, h1, _⟩ := h
  obtain ⟨cs, t, h2⟩ := hx
  rintro rfl
  rw [h1] at h2; cases h2
theorem Cl.upd {x : Nat} {M : Nat → Prop} {H' : Heap} (h : Cl H x) (hU : Upd M H H') (hn : ¬ M x) : Cl H' x := by
  obtain ⟨cs, t, h2⟩ := h
  exact ⟨cs, t, hU.keep h2 hn⟩
mutual
theorem TrR.cl {TN TP : TypeId} : ∀ {n : Nd} {q : Option Nat} {fp : List Nat}, TrR TN TP H n q fp → ∀ x ∈ fp, Cl H x
  | .nil, _, _, ⟨_, rfl⟩, x, hx => by cases hx
  | .mk .., _, _, ⟨b, L, qs, fl, _, hr, hv, hl, rfl⟩, x, hx => by
    rcases List.mem_cons.1 hx with rfl | hx
    · exact Row.cl hr
    · rcases List.mem_append.1 hx with hx | hx
      · have hx' := (vec_blk hv x hx).2
        rcases hv.own with ⟨h1, _⟩ | ⟨b', sp, h1, h2, _⟩
        · rw [h1] at hx'; cases hx'
        · rw [h1] at hx'
          have := adr_inj hx'
          subst this
          exact Row.cl h2
      · exact TrL.cl hl x hx
theorem TrL.cl {TN TP : TypeId} : ∀ {ns : List Nd} {qs : List (Option Nat)} {fp : List Nat}, TrL TN TP H ns qs fp → ∀ x ∈ fp, Cl H x
  | [], _, _, ⟨_, rfl⟩, x, hx => by cases hx
  | n :: ns, _, _, ⟨q, qs', f1, f2, _, rfl, h1, h2⟩, x, hx => by
    rcases List.mem_append.1 hx with hx | hx
    · exact TrR.cl h1 x hx
    · exact TrL.cl h2 x hx
end
theorem vec_uniq {T T' : TypeId} {L : Sl} {vs vs' : List Value} (h : Vec H T L vs) (h' : Vec H T' L vs') : vs = vs' := by
  have hl := h.len
  have hl' := h'.len
  apply List.ext_getElem?
  intro i
  by_cases hi : i < vs.length
  · obtain ⟨b, hb, hc⟩ := h.cell hi
    obtain ⟨b', hb', hc'⟩ := h'.cell (i := i) (by omega)
    rw [hb] at hb'
    have := adr_inj hb'
    subst this
    exact hc.symm.trans hc'
  · rw [List.getElem?_eq_none (by omega), List.getElem?_eq_none (by omega)]
theorem ptrV_inj : ∀ {qs qs' : List (Option Nat)}, qs.map ptrV = qs'.map ptrV → qs = qs'
  | [], [], _ => rfl
  | [], _ :: _, h => by simp at h
  | _ :: _, [], h => by simp at h
  | q :: qs, q' :: qs', h => by
    simp only [List.map_cons, List.cons.injEq, ptrV, Value.pointer.injEq] at h
    obtain ⟨h1, h2⟩ := h
    rw [ptrV_inj (h2 : qs.map ptrV = qs'.map ptrV)]
    cases q <;> cases q' <;> simp_all [adr]
theorem row_uniq {b : Nat} {T T' : TypeId} {vs vs' : List Value} (h : Row H b T vs) (h' : Row H b T' vs') : vs = vs' := by
  have : (some (Obj.cells ⟨vs⟩ T (0, 0))) = some (Obj.cells ⟨vs'⟩ T' (0, 0)) := h.symm.trans h'
  injection this with this
  injection this with h1 h2 h3
  injection h1
mutual
theorem TrR.uniq {TN TP : TypeId} : ∀ {n m : Nd} {q : Option Nat} {fp fp' : List Nat}, TrR TN TP H n q fp → TrR TN TP H m q fp' → n = m
  | .nil, .nil, _, _, _, _, _ => rfl
  | .nil, .mk .., _, _, _, ⟨rfl, _⟩, ⟨_, _, _, _, h, _⟩ => by cases h
  | .mk .., .nil, _, _, _, ⟨_, _, _, _, h, _⟩, ⟨rfl, _⟩ => by cases h
  | .mk op tx nm l a, .mk op' tx' nm' l' a', _, _, _, ⟨b, L, qs, fl, e, hr, hv, hl, _⟩, ⟨b', L', qs', fl', e', hr', hv', hl', _⟩ => by
    rw [e] at e'
    cases e'
    have hu := row_uniq hr hr'
    simp only [ndV, List.cons.injEq, Value.int.injEq, Value.string.injEq, Value.slice.injEq, true_and, and_true] at hu
    obtain ⟨h1, h2, h3, h4, h5⟩ := hu
    have hL : L = L' := by
      obtain ⟨x, y, z⟩ := L; obtain ⟨x', y', z'⟩ := L'
      simp_all
    subst hL
    have hqs := ptrV_inj (vec_uniq hv hv')
    subst hqs
    have := TrL.uniq hl hl'
    have ht : tx = tx' := by
      have := congrArg (fun (s : ByteArray) => s.data.toList) h2
      exact this
    rw [h1, ht, h3, this, h5]
theorem TrL.uniq {TN TP : TypeId} : ∀ {ns ms : List Nd} {qs : List (Option Nat)} {fp fp' : List Nat}, TrL TN TP H ns qs fp → TrL TN TP H ms qs fp' → ns = ms
  | [], [], _, _, _, _, _ => rfl
  | [], _ :: _, _, _, _, ⟨rfl, _⟩, ⟨_, _, _, _, h, _⟩ => by cases h
  | _ :: _, [], _, _, _, ⟨_, _, _, _, h, _⟩, ⟨rfl, _⟩ => by cases h
  | n :: ns, m :: ms, _, _, _, ⟨q, qs', f1, f2, e, _, h1, h2⟩, ⟨q', qs'', g1, g2, e', _, k1, k2⟩ => by
    rw [e] at e'
    cases e'
    rw [TrR.uniq h1 k1, TrL.uniq h2 k2]
end
mutual
theorem TrR.fp_uniq {TN TP : TypeId} : ∀ {n m : Nd} {q : Option Nat} {fp fp' : List Nat}, TrR TN TP H n q fp → TrR TN TP H m q fp' → fp = fp'
  | .nil, .nil, _, _, _, ⟨_, h⟩, ⟨_, h'⟩ => by rw [h, h']
  | .nil, .mk .., _, _, _, ⟨rfl, _⟩, ⟨_, _, _, _, h, _⟩ => by cases h
  | .mk .., .nil, _, _, _, ⟨_, _, _, _, h, _⟩, ⟨rfl, _⟩ => by cases h
  | .mk op tx nm l a, .mk op' tx' nm' l' a', _, _, _, ⟨b, L, qs, fl, e, hr, hv, hl, e2⟩, ⟨b', L', qs', fl', e', hr', hv', hl', e2'⟩ => by
    rw [e] at e'
    cases e'
    have hu := row_uniq hr hr'
    simp only [ndV, List.cons.injEq, Value.int.injEq, Value.string.injEq, Value.slice.injEq, true_and, and_true] at hu
    obtain ⟨h1, h2, h3, h4, h5⟩ := hu
    have hL : L = L' := by
      obtain ⟨x, y, z⟩ := L; obtain ⟨x', y', z'⟩ := L'
      simp_all
    subst hL
    have hqs := ptrV_inj (vec_uniq hv hv')
    subst hqs
    rw [e2, e2', TrL.fp_uniq hl hl']
theorem TrL.fp_uniq {TN TP : TypeId} : ∀ {ns ms : List Nd} {qs : List (Option Nat)} {fp fp' : List Nat}, TrL TN TP H ns qs fp → TrL TN TP H ms qs fp' → fp = fp'
  | [], [], _, _, _, ⟨_, h⟩, ⟨_, h'⟩ => by rw [h, h']
  | [], _ :: _, _, _, _, ⟨rfl, _⟩, ⟨_, _, _, _, h, _⟩ => by cases h
  | _ :: _, [], _, _, _, ⟨_, _, _, _, h, _⟩, ⟨rfl, _⟩ => by cases h
  | n :: ns, m :: ms, _, _, _, ⟨q, qs', f1, f2, e, e2, h1, h2⟩, ⟨q', qs'', g1, g2, e', e2', k1, k2⟩ => by
    rw [e] at e'
    cases e'
    rw [e2, e2', TrR.fp_uniq h1 k1, TrL.fp_uniq h2 k2]
end
mutual
theorem sameB_refl : ∀ n : Nd, sameB n n = true
  | .nil => rfl
  | .mk op tx nm l a => by unfold sameB; rw [sameL_refl l]; simp
theorem sameL_refl : ∀ l : List Nd, sameL l l = true
  | [] => rfl
  | n :: ns => by unfold sameL; rw [sameB_refl n, sameL_refl ns]; rfl
end
end
section
open Hc Hc.Lex Hc.Syn
variable {H : Heap}
abbrev TR (H : Heap) (n : Nd) (q : Option Nat) (fp : List Nat) : Prop := TrR TQaf TQab H n q fp
theorem ptr_eq {qa qb : Option Nat} (ha : ∀ x, qa = some x → Cl H x) (hb : ∀ x, qb = some x → Cl H x) {k : Bool → Prop} (hk : k (decide (qa = qb))) : PtrEq (qa.map adr) (qb.map adr) H k := by
  refine ⟨_, hk, ?_⟩
  cases qa with
  | none => cases qb <;> simp
  | some x =>
    cases qb with
    | none => simp
    | some y =>
      simp only [Option.map_some]
      by_cases e : x = y
      · exact .inl ⟨by rw [e], by simp [e]⟩
      · obtain ⟨c1, t1, h1⟩ := ha x rfl
        obtain ⟨c2, t2, h2⟩ := hb y rfl
        exact .inr ⟨by simp [adr, e], by simp [e], c1, t1, c2, t2, h1, h2⟩
theorem TrR.at {n : Nd} {q : Option Nat} {fp : List Nat} (h : TR H n q fp) : ∀ x, q = some x → Cl H x ∧ x ∈ fp := by
  rintro x rfl
  cases n with
  | nil => obtain ⟨h, _⟩ := h; cases h
  | mk op tx nm l a =>
    obtain ⟨b, L, qs, fl, hb, hr, _, _, rfl⟩ := h
    cases hb
    exact ⟨Row.cl hr, by simp⟩
theorem TrR.mv {r : Nat} {l : List (Nat × Nat)} (hm : MapP H r l) {H' : Heap} (hU : Upd (· = r) H H') {n : Nd} {q : Option Nat} {fp : List Nat} (h : TR H n q fp) : TR H' n q fp := h.upd hU fun x hx => hm.ne (TrR.cl h x hx)
theorem TrL.get' {TN TP : TypeId} : ∀ {ns : List Nd} {qs : List (Option Nat)} {fp : List Nat}, TrL TN TP H ns qs fp → ∀ i, i < ns.length → ∃ f1 f f2 q, fp = f1 ++ (f ++ f2) ∧ qs[i]? = some q ∧ TrR TN TP H (ns[i]!) q f ∧ (∀ j, j < i → ∃ g q', qs[j]? = some q' ∧ TrR TN TP H (ns[j]!) q' g ∧ ∀ x ∈ g, x ∈ f1)
  | [], _, _, _, i, hi => by simp at hi
  | n :: ns, _, _, ⟨q, qs', f1, f2, rfl, rfl, h1, h2⟩, i, hi => by
    cases i with
    | zero => exact ⟨[], f1, f2, q, rfl, rfl, by simpa using h1, fun j hj => by omega⟩
    | succ i =>
      obtain ⟨g1, g, g2, q', e, e2, e3, e4⟩ := TrL.get' h2 i (by simpa using hi)
      refine ⟨f1 ++ g1, g, g2, q', by rw [e, List.append_assoc], by simpa using e2, by simpa using e3, fun j hj => ?_⟩
      cases j with
      | zero => exact ⟨f1, q, rfl, by simpa using h1, fun x hx => List.mem_append_left _ hx⟩
      | succ j =>
        obtain ⟨g, q'', k1, k2, k3⟩ := e4 j (by omega)
        exact ⟨g, q'', by simpa using k1, by simpa using k2, fun x hx => List.mem_append_right _ (k3 x hx)⟩
theorem sameL_drop {l l' : List Nd} (hl : l.length = l'.length) {j : Nat} (hj : j < l.length) : sameL (l.drop j) (l'.drop j) = (sameB l[j]! l'[j]! && sameL (l.drop (j + 1)) (l'.drop (j + 1))) := by
  have h1 : l.drop j = l[j]! :: l.drop (j + 1) := by rw [List.drop_eq_getElem_cons hj]; simp [hj]
  have h2 : l'.drop j = l'[j]! :: l'.drop (j + 1) := by rw [List.drop_eq_getElem_cons (by omega)]; simp [show j < l'.length by omega]
  rw [h1, h2, sameL]
theorem sameL_len : ∀ {l l' : List Nd}, sameL l l' = true → l.length = l'.length
  | [], [], _ => rfl
  | [], _ :: _, h => by simp [sameL] at h
  | _ :: _, [], h => by simp [sameL] at h
  | n :: ns, m :: ms, h => by
    rw [sameL, Bool.and_eq_true] at h
    simp [sameL_len h.2]
theorem s_same : ∀ (m : Nat) {x y : Nd} {qa qb : Option Nat} {fa fb : List Nat} {H : Heap} {r : Nat} {ps : List (Nat × Nat)}, cnt x ≤ m → TR H x qa fa → fa.Nodup → TR H y qb fb → txtN x → MapP H r ps → (∀ e ∈ ps, e.1 ∉ fa ∧ Cl H e.1) →
    ∀ {k : Bool → Heap → Prop}, (∀ H' ps', Upd (· = r) H H' → MapP H' r ps' → (∀ e ∈ ps', e ∈ ps ∨ e.1 ∈ fa) → k (sameB x y) H') →
    CallT Pg fQcf [pN qa, pN qb, .map (some r)] (.one (.c .bool)) H k := by
  intro m
  induction m with
  | zero => 
    intro x y qa qb fa fb H r ps hm ha hnd hb htx hmp hps k hk
    cases x with
    | mk op tx nm l a => simp [cnt] at hm
    | nil =>
      have ha0 := ha
      obtain ⟨rfl, rfl⟩ := ha
      refine cQbw _ _ _ ?_
      unfold vQbw
      have hbc := TrR.at hb
      refine Jn.mk (fun j H' => H = H' ∧ j = decide ((none : Option Nat) = qb)) (fun kk hkk => ?_) ?_
      · refine ptr_eq (fun x h => by cases h) (fun x h => (hbc x h).1) (Br_dec (fun e => hkk _ _ ⟨rfl, (decide_eq_true e).symm⟩) fun e => ?_)
        obtain ⟨es, cl, h1, h2⟩ := hmp
        refine ⟨es, .inr ⟨r, cl, rfl, h1⟩, .inr ⟨FK_none h2 fun e' he' => ?_, hkk _ _ ⟨rfl, ?_⟩⟩⟩
        · exact ⟨false, rfl, rfl⟩
        · rw [decide_eq_false e]; rfl
      rintro _ _ ⟨rfl, rfl⟩
      refine Br_dec (fun e => ?_) fun e => ?_
      · subst e
        have : y = .nil := (TrR.uniq ha0 hb).symm
        subst this
        exact hk H ps (.refl _ _) hmp fun e he => .inl he
      · have hne : sameB .nil y = false := by
          cases y with
          | nil => obtain ⟨h, _⟩ := hb; exact absurd h.symm e
          | mk => rfl
        refine Jn.mk (fun j H' => H = H' ∧ j = true) (fun kk hkk => (Br_true _ _).2 (hkk _ _ ⟨rfl, rfl⟩)) ?_
        rintro _ _ ⟨rfl, rfl⟩
        refine (Br_true _ _).2 ?_
        have := hk H ps (.refl _ _) hmp fun e he => .inl he
        rw [hne] at this; exact this
  | succ m ih =>
    intro x y qa qb fa fb H r ps hm ha hnd hb htx hmp hps k hk
    have hac := TrR.at ha
    have hbc := TrR.at hb
    refine cQbw _ _ _ ?_
    unfold vQbw
    refine Jn.mk (fun j H' => H = H' ∧ j = decide (qa = qb)) (fun kk hkk => ?_) ?_
    · refine ptr_eq (fun x h => (hac x h).1) (fun x h => (hbc x h).1) (Br_dec (fun e => hkk _ _ ⟨rfl, (decide_eq_true e).symm⟩) fun e => ?_)
      obtain ⟨es, cl, h1, h2⟩ := hmp
      refine ⟨es, .inr ⟨r, cl, rfl, h1⟩, .inr ⟨FK_none h2 fun e' he' => ?_, hkk _ _ ⟨rfl, ?_⟩⟩⟩
      · obtain ⟨g1, g2⟩ := hps e' he'
        refine ptr_eq (qb := some e'.1) (fun x h => (hac x h).1) (fun x h => by cases h; exact g2) ?_
        rw [decide_eq_false_iff_not]
        intro h; exact g1 (hac _ h).2
      · rw [decide_eq_false e]; rfl
    rintro _ _ ⟨rfl, rfl⟩
    refine Br_dec (fun e => ?_) fun e => ?_
    · subst e
      have := TrR.uniq ha hb
      subst this
      have := hk H ps (.refl _ _) hmp fun e he => .inl he
      rw [sameB_refl] at this; exact this
    cases x with
    | nil =>
      obtain ⟨rfl, rfl⟩ := ha
      have hne : sameB .nil y = false := by
        cases y with
        | nil => obtain ⟨h, _⟩ := hb; exact absurd h.symm e
        | mk => rfl
      refine Jn.mk (fun j H' => H = H' ∧ j = true) (fun kk hkk => (Br_true _ _).2 (hkk _ _ ⟨rfl, rfl⟩)) ?_
      rintro _ _ ⟨rfl, rfl⟩
      refine (Br_true _ _).2 ?_
      have := hk H ps (.refl _ _) hmp fun e he => .inl he
      rw [hne] at this; exact this
    | mk op tx nm l a =>
    cases y with
    | nil =>
      obtain ⟨rfl, rfl⟩ := hb
      obtain ⟨b, L, qs, fl, rfl, hr, hv, hl, rfl⟩ := ha
      refine Jn.mk (fun j H' => H = H' ∧ j = true) (fun kk hkk => (Br_false _ _).2 ((Br_true _ _).2 (hkk _ _ ⟨rfl, rfl⟩))) ?_
      rintro _ _ ⟨rfl, rfl⟩
      refine (Br_true _ _).2 ?_
      exact hk H ps (.refl _ _) hmp fun e he => .inl he
    | mk op' tx' nm' l' a' =>
    have hb0 := hb
    obtain ⟨b, L, qs, fl, rfl, hr, hv, hl, rfl⟩ := ha
    obtain ⟨b', L', qs', fl', rfl, hr', hv', hl', rfl⟩ := hb
    have hLl : L.len = l.length := by rw [hv.len, List.length_map, hl.len]
    have hLl' : L'.len = l'.length := by rw [hv'.len, List.length_map, hl'.len]
    have hl40 : l.length ≤ 2 ^ 40 := htx.2.1
    have hsB : sameB (.mk op tx nm l a) (.mk op' tx' nm' l' a') = ((op == op' && tx == tx' && nm == nm') && sameL l l') := by rw [sameB]
    simp only [Option.map_some, NilCk_some, adr_add, Option.isNone_some, Br_false]
    refine Jn.mk (fun j H' => H = H' ∧ j = !((op == op' && tx == tx' && nm == nm') && (l.length == l'.length))) (fun kk hkk => ?_) ?_
    · refine Ld_int ((hr.cell 0).trans rfl) (Ld_int ((hr'.cell 0).trans rfl) (Br.mk (fun h => hkk _ _ ⟨rfl, ?_⟩) fun h => ?_))
      · have h : op ≠ op' := by simpa using h
        rw [beq_eq_false_iff_ne.2 h]; rfl
      have e1 : op = op' := by simpa using h
      refine Ld_str ((hr.cell 1).trans rfl) (Ld_str ((hr'.cell 1).trans rfl) ?_)
      rw [beq_bs]
      refine Br.mk (fun h => hkk _ _ ⟨rfl, ?_⟩) fun h => ?_
      · have h : tx ≠ tx' := by simpa using h
        rw [beq_eq_false_iff_ne.2 h]; simp
      have e2 : tx = tx' := by simpa using h
      refine Ld_int ((hr.cell 2).trans rfl) (Ld_int ((hr'.cell 2).trans rfl) (Br.mk (fun h => hkk _ _ ⟨rfl, ?_⟩) fun h => ?_))
      · have h : nm ≠ nm' := by simpa using h
        rw [beq_eq_false_iff_ne.2 h]; simp
      have e3 : nm = nm' := by simpa using h
      refine Ld_sl ((hr.cell 3).trans rfl) (Ld_sl ((hr'.cell 3).trans rfl) (hkk _ _ ⟨rfl, ?_⟩))
      subst e1 e2 e3
      rw [hLl, hLl', Bool.eq_iff_iff]
      simp
      omega
    rintro _ _ ⟨rfl, rfl⟩
    cases hg : ((op == op' && tx == tx' && nm == nm') && (l.length == l'.length)) with
    | false =>
      refine (Br_true _ _).2 ?_
      have hne : sameB (.mk op tx nm l a) (.mk op' tx' nm' l' a') = false := by
        rw [hsB, Bool.and_eq_false_iff]
        rw [Bool.and_eq_false_iff] at hg
        rcases hg with g | g
        · exact .inl g
        · right
          rw [Bool.eq_false_iff]
          intro h
          have := sameL_len h
          simp [this] at g
      have := hk H ps (.refl _ _) hmp fun e he => .inl he
      rw [hne] at this; exact this
    | true =>
      rw [Bool.and_eq_true, beq_iff_eq] at hg
      obtain ⟨hg1, hll⟩ := hg
      rw [hg1, Bool.true_and] at hsB
      rw [hsB] at hk
      refine (Br_false _ _).2 ?_
      have hmp0 := hmp
      obtain ⟨es, cl, h1, h2⟩ := hmp
      refine ⟨r, es, cl, rfl, h1, .inr ⟨FK_none h2 fun e' he' => ?_, ?_⟩⟩
      · obtain ⟨g1, g2⟩ := hps e' he'
        refine ptr_eq (qa := some b) (qb := some e'.1) (fun x h => by cases h; exact Row.cl hr) (fun x h => by cases h; exact g2) ?_
        rw [decide_eq_false_iff_not]
        intro h; cases h; exact g1 (by simp)
      generalize hH1 : H.setIfInBounds r (.map ((⟨es⟩ : Array MapEntry).push { key := .agg #[.pointer (some (adr b)), .pointer (some (adr b'))], val := .int .i64 1, born := cl }) (cl + 1)) = H1
      have hrlt := lt_of_get h1
      have hU1 : Upd (· = r) H H1 := by
        subst hH1
        exact ⟨by simp, fun x hx hn => by rw [Array.getElem?_setIfInBounds, if_neg (fun e => hn e.symm)]⟩
      have hm1 : MapP H1 r (ps ++ [(b, b')]) := by
        subst hH1
        refine ⟨es ++ [{ key := .agg #[.pointer (some (adr b)), .pointer (some (adr b'))], val := .int .i64 1, born := cl }], cl + 1, ?_, by simp [h2]⟩
        rw [Array.getElem?_setIfInBounds, if_pos rfl, if_pos hrlt]
        congr 2
        apply Array.ext'; simp
      have hne : ∀ {x : Nat}, Cl H x → ¬ x = r := fun h => hmp0.ne h
      have hdisj := (List.nodup_cons.1 hnd).1
      have hndL := (List.nodup_append.1 (List.nodup_cons.1 hnd).2)
      have r1 := hU1.row hr (hne (Row.cl hr))
      have r1' := hU1.row hr' (hne (Row.cl hr'))
      have hcl0 : ∀ x ∈ b :: (blkL L ++ fl), Cl H x := TrR.cl (n := .mk op tx nm l a) (q := some b) ⟨b, L, qs, fl, rfl, hr, hv, hl, rfl⟩
      have hclb : ∀ x ∈ b' :: (blkL L' ++ fl'), Cl H x := TrR.cl hb0
      refine Ld_sl ((r1.cell 3).trans rfl) ?_
      refine LoopT.ghost (fun rr (i : Int) H' => ∃ (j : Nat) (ps1 : List (Nat × Nat)), i = (j : Nat) ∧ j + rr = l.length ∧ Upd (· = r) H H' ∧ MapP H' r ps1 ∧ (∀ e ∈ ps1, e ∈ ps ∨ e.1 = b ∨ ∃ i' g q', i' < j ∧ qs[i']? = some q' ∧ TR H (l[i']!) q' g ∧ e.1 ∈ g) ∧ sameL l l' = sameL (l.drop j) (l'.drop j)) l.length
        ⟨0, _, rfl, by omega, hU1, hm1, fun e he => ?_, by simp⟩ ?_
      · rcases List.mem_append.1 he with he | he
        · exact .inl he
        · rw [List.mem_singleton.1 he]; exact .inr (.inl rfl)
      rintro next rr i H2 ⟨j, ps1, rfl, hj, hU2, hm2, hps1, heq⟩ hnext
      have r2 := hU2.row hr (hne (Row.cl hr))
      have r2' := hU2.row hr' (hne (Row.cl hr'))
      have hsub : ∀ e ∈ ps1, e ∈ ps ∨ e.1 ∈ b :: (blkL L ++ fl) := fun e he => by
        rcases hps1 e he with g | g | ⟨i', g, q', hi', hq', htr, hin⟩
        · exact .inl g
        · rw [g]; exact .inr (by simp)
        · have hql := hl.len
          have hlt : i' < l.length := by
            have := (List.getElem?_eq_some_iff.1 hq').1
            omega
          obtain ⟨f1, f, f2, q2, e1, e2, e3, _⟩ := TrL.get' hl i' hlt
          rw [hq'] at e2; cases e2
          have : g = f := TrR.fp_uniq htr e3
          subst this
          exact .inr (by rw [e1]; simp [hin])
      cases rr with
      | zero =>
        have hjl : j = l.length := by omega
        refine Br_no (by rw [hLl]; omega) ?_
        have e1 : sameL l l' = true := by
          rw [heq, List.drop_eq_nil_of_le (by omega), List.drop_eq_nil_of_le (by omega)]; rfl
        rw [e1] at hk
        exact hk H2 ps1 hU2 hm2 hsub
      | succ rr =>
        have hjl : j < l.length := by omega
        have hjl' : j < l'.length := by omega
        rw [sameL_drop hll hjl] at heq
        refine Br_yes (by rw [hLl]; omega) (Ld_sl ((r2.cell 3).trans rfl) ?_)
        have hv2 := hv.upd hU2 fun c hc => hne (hcl0 c (by simp [blkL, hc]))
        have hv2' := hv'.upd hU2 fun c hc => hne (hclb c (by simp [blkL, hc]))
        obtain ⟨f1, f, f2, q2, e1, e2, e3, e4⟩ := TrL.get' hl j hjl
        obtain ⟨f1', f', f2', q2', e1', e2', e3', _⟩ := TrL.get' hl' j hjl'
        have hql := hl.len
        have hql' := hl'.len
        refine IxA_vec hv2 (by omega) (by simp; omega) fun ad hc _ => ?_
        have hc : hcell H2 ad = some (ptrV q2) := hc.trans (by simp [e2])
        refine Ld_ptr hc (Ld_sl ((r2'.cell 3).trans rfl) (IxA_vec hv2' (by omega) (by simp; omega) fun ad' hc' _ => ?_))
        have hc' : hcell H2 ad' = some (ptrV q2') := hc'.trans (by simp [e2'])
        refine Ld_ptr hc' ?_
        have t2 : TR H2 (l[j]!) q2 f := e3.upd hU2 fun x hx => hne (TrR.cl e3 x hx)
        have t2' : TR H2 (l'[j]!) q2' f' := e3'.upd hU2 fun x hx => hne (TrR.cl e3' x hx)
        have hmem : l[j]! ∈ l := by
          have : l[j]! = l[j] := by simp [hjl]
          rw [this]; exact List.getElem_mem hjl
        have hvc := cnt_mem hmem
        have hcn : cnt (.mk op tx nm l a) = 1 + cntL l := by simp [cnt]
        have hndfl : (f1 ++ (f ++ f2)).Nodup := e1 ▸ hndL.2.1
        have hndf : f.Nodup := (List.nodup_append.1 (List.nodup_append.1 hndfl).2.1).1
        refine ih (by omega) t2 hndf t2' (txtL_all htx.2.2 _ hmem) hm2 (fun e he => ?_) fun H3 ps3 hU3 hm3 hps3 => ?_
        · rcases hps1 e he with g | g | ⟨i', g, q', hi', hq', htr, hin⟩
          · obtain ⟨k1, k2⟩ := hps e g
            refine ⟨fun hx => k1 (by rw [e1]; simp [hx]), k2.upd hU2 (hne k2)⟩
          · rw [g]
            refine ⟨fun hx => hdisj (by rw [e1]; simp [hx]), (Row.cl hr).upd hU2 (hne (Row.cl hr))⟩
          · obtain ⟨g', q'', k1, k2, k3⟩ := e4 i' hi'
            rw [hq'] at k1; cases k1
            have : g = g' := TrR.fp_uniq htr k2
            subst this
            refine ⟨fun hx => (List.nodup_append.1 hndfl).2.2 _ (k3 _ hin) _ (List.mem_append_left _ hx) rfl, ?_⟩
            have := TrR.cl htr _ hin
            exact this.upd hU2 (hne this)
        · have hU23 : Upd (· = r) H H3 := upU hU2 hU3
          have r3 := hU23.row hr (hne (Row.cl hr))
          have r3' := hU23.row hr' (hne (Row.cl hr'))
          have hps4 : ∀ e ∈ ps3, e ∈ ps ∨ e.1 = b ∨ ∃ i' g q', i' < j + 1 ∧ qs[i']? = some q' ∧ TR H (l[i']!) q' g ∧ e.1 ∈ g := fun e he => by
            rcases hps3 e he with g | g
            · rcases hps1 e g with g | g | ⟨i', g, q', hi', hrest⟩
              · exact .inl g
              · exact .inr (.inl g)
              · exact .inr (.inr ⟨i', g, q', by omega, hrest⟩)
            · exact .inr (.inr ⟨j, f, q2, by omega, e2, e3, g⟩)
          refine Stab_2 ((r3'.cell 3).trans rfl) ((r3.cell 3).trans rfl) ?_
          cases hsv : sameB l[j]! l'[j]! with
          | false =>
            rw [hsv, Bool.false_and] at heq
            rw [heq] at hk
            refine (Br_true _ _).2 (hk H3 ps3 hU23 hm3 fun e he => ?_)
            rcases hps3 e he with g | g
            · exact hsub e g
            · exact .inr (by rw [e1]; simp [g])
          | true =>
            rw [hsv, Bool.true_and] at heq
            refine (Br_false _ _).2 (Lt.mk (u := ((j + 1 : Nat) : Int)) (by rw [wrap_i64_id] <;> omega) (hnext rr _ _ (by omega) ⟨j + 1, ps3, rfl, by omega, hU23, hm3, hps4, heq⟩))
theorem s_Same {x y : Nd} {qa qb : Option Nat} {fa fb : List Nat} (ha : TR H x qa fa) (hnd : fa.Nodup) (hb : TR H y qb fb) (htx : txtN x) {k : Bool → Heap → Prop} (hk : ∀ H', Ext H H' → k (sameB x y) H') : CallT Pg fQcb [pN qa, pN qb] (.one (.c .bool)) H k := by
  refine cQbt _ _ ?_
  unfold vQbt
  show CallT _ _ _ _ _ _
  have hE : Ext H (H.push (.map #[] 0)) := Upd.push _ _ _
  have hm : MapP (H.push (.map #[] 0)) H.size [] := ⟨[], 0, get_push_new _ _, rfl⟩
  exact s_same (cnt x) (Nat.le_refl _) (ha.upd hE fun _ _ h => h) hnd (hb.upd hE fun _ _ h => h) htx hm (fun e he => by cases he) fun H' ps' hU _ _ => hk H' (extUpd hE (Nat.le_refl _) hU)
end
section
open Hc
abbrev fQc5 : FuncId := 6
end
end Go.Proofs.YtfpmgpblhhcpgaaGreatDoor
