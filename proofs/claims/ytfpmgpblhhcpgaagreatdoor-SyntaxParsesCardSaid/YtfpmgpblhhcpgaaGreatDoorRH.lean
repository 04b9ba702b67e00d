/-
 The document's parser: operands; expressions by any fuel.
-/
import Derived.Test.YtfpmgpblhhcpgaaGreatDoorRD
import Derived.Test.YtfpmgpblhhcpgaaGreatDoorE
set_option linter.unusedVariables false
set_option linter.unusedSimpArgs false
namespace Go.Proofs.YtfpmgpblhhcpgaaGreatDoor
set_option maxRecDepth 100000
section
open Hc Hc.Lex Hc.Syn
variable {H : jaa} {b tb : Nat} {L : List Tk} {σ τ : DS}
def jhq (f : Nat) (t : Tk) (s : PS) : R Nd := if jaf [40] s then (jb5 f s).bind fun l s => jaE (jaq 36 t l) s
 else if jaf [46] s then (jdn s).bind fun _ s => (jaQ s).bind fun u s => jaE (jaq 32 t [jaq 31 u []]) s
 else jaE (jaq 31 t []) s
theorem jeC {w v : Txt} {s : PS} (h : jaf w s = true) (hv : w ≠ v) : jaf v s = false := by
 unfold jaf at h ⊢
 simp only [Bool.and_eq_true, beq_iff_eq] at h
 rw [h.1]
 have : (w == v) = false := beq_eq_false_iff_ne.2 hv
 rw [this]; rfl
theorem jdX {w : Txt} {s : PS} (h : jaf w s = true) : s.hd.text = w ∧ (s.hd.kind = 1 ∨ s.hd.kind = 3) := by
 unfold jaf at h
 simpa using h
section
variable {f : Nat} {s : PS}
theorem jeU (h : jas s = true) {w : Txt} (hw : jaJ w = false) : jaf w s = false := by
 unfold jas at h
 simp only [Bool.and_eq_true] at h
 unfold jaf
 have : (s.hd.text == w) = false := beq_eq_false_iff_ne.2 fun e => by rw [e, hw] at h; exact absurd h.2 (by decide)
 rw [this]; rfl
theorem jnk (h : jas s = true) : builtinL.contains s.hd.text = false := by
 unfold jas at h
 simp only [Bool.and_eq_true] at h
 rw [← Bool.not_eq_true]
 intro g
 rw [List.contains_iff_mem] at g
 simp only [builtinL, List.mem_cons, List.not_mem_nil, or_false] at g
 have : ∀ w : Txt, jaJ w = false → s.hd.text ≠ w := fun w hw e => by rw [e, hw] at h; exact absurd h.2 (by decide)
 rcases g with g | g | g | g | g <;> exact this _ (by decide) g
theorem jng (h : s.hd.kind = 2) : jbh (f + 1) s = (jdn s).bind fun t s => jaE (.mk 30 [] (jb7 0 t.text : Nat) [] (t.at' : Nat)) s := by
 rw [jbh, if_pos h]; rfl
theorem prim_nm (h : jas s = true) : jbh (f + 1) s = (jdn s).bind fun t s => jhq f t s := by
 have hk : s.hd.kind = 1 := by unfold jas at h; simp only [Bool.and_eq_true, beq_iff_eq] at h; exact h.1
 rw [jbh, if_neg (by omega), jeU h (by decide), jeU h (w := [104, 97, 115]) (by decide), jeU h (w := [116, 105, 99, 107]) (by decide), jeU h (w := [109, 101]) (by decide), jnk h]
 simp only [Bool.false_eq_true, if_false, and_false, Bool.or_self]
 unfold jaQ
 rw [h]
 rfl
theorem jmn (hk : s.hd.kind = 1) (h : builtinL.contains s.hd.text = true) : jbh (f + 1) s = (jdn s).bind fun t s => (jb5 f s).bind fun l s => jaE (jaq 36 t l) s := by
 have h40 : jaf [40] s = false := by
  unfold jaf
  have : (s.hd.text == [40]) = false := beq_eq_false_iff_ne.2 fun e => by rw [e] at h; exact absurd h (by decide)
  rw [this]; rfl
 rw [jbh, if_neg (by omega), h40, if_neg (by decide), if_pos ⟨hk, h⟩]; rfl
theorem jnS {w : Txt} (h : jaf w s = true) (hw : builtinL.contains w = false) : ¬ (s.hd.kind = 1 ∧ builtinL.contains s.hd.text = true) := by
 rintro ⟨_, g⟩
 rw [(jdX h).1, hw] at g; cases g
theorem jk8 (h : (jaf [116, 105, 99, 107] s || jaf [109, 101] s) = true) : jbh (f + 1) s = (jdn s).bind fun t s => jaE (jaq 38 t []) s := by
 have key : ∃ w, jaf w s = true ∧ w ≠ [40] ∧ w ≠ [104, 97, 115] ∧ builtinL.contains w = false := by
  rcases Bool.or_eq_true_iff.1 h with g | g
  ·exact ⟨_, g, by decide, by decide, by decide⟩
  ·exact ⟨_, g, by decide, by decide, by decide⟩
 obtain ⟨w, hw, w1, w2, w3⟩ := key
 have hk := (jdX hw).2
 rw [jbh, if_neg (by omega), jeC hw w1, if_neg (by decide), if_neg (jnS hw w3), jeC hw w2, if_neg (by decide), if_pos h]; rfl
theorem jmO (h : jaf [104, 97, 115] s = true) : jbh (f + 1) s = (jdn s).bind fun t s => (jaA [40] s).bind fun _ s => (jaQ s).bind fun u s => (jaA [41] s).bind fun _ s => jaE (.mk 37 u.text 0 [] (t.at' : Nat)) s := by
 have hk := (jdX h).2
 rw [jbh, if_neg (by omega), jeC h (v := [40]) (by decide), if_neg (by decide), if_neg (jnS h (by decide)), if_pos h]; rfl
theorem jlA (h : jaf [40] s = true) : jbh (f + 1) s = (jbs s).bind fun _ s => (jdn s).bind fun _ s => (exP f 0 s).bind fun n s => (jaA [41] s).bind fun _ s => jaE n s.up := by
 have hk := (jdX h).2
 rw [jbh, if_neg (by omega), if_pos h, jiL h, ja8]
 congr 1; funext _ s; congr 1; funext _ s; congr 1; funext n s
 show ((jaA [41] s).bind fun _ s => jl0 s).bind _ = _
 rw [ja8]; rfl
theorem jlj (h1 : s.hd.kind ≠ 2) (h2 : jas s = false) (h3 : ¬ (s.hd.kind = 1 ∧ builtinL.contains s.hd.text = true)) (h4 : (jaf [116, 105, 99, 107] s || jaf [109, 101] s) = false) (h5 : jaf [104, 97, 115] s = false) (h6 : jaf [40] s = false) : jbh (f + 1) s = jc2 100 s := by
 rw [jbh, if_neg h1, h6, if_neg (by decide), if_neg h3, h5, if_neg (by decide), h4, if_neg (by decide)]
 unfold jaQ
 rw [h2]; rfl
end
theorem jmC {q : Nat} {H0 H1 H2 : jaa} (h : Upd (· = b) H0 H1) (h2 : Upd (· = q) H1 H2) (hq : H0.size ≤ q) : Upd (· = b) H0 H2 := h.trans h2 fun x hx e => by omega
theorem jnF {f : Nat} (wa : WdA f) {s : PS} (t : Tk) (h : DR H b tb L (.ok s)) (hne : jhq f t s ≠ none) : Wd fQdw [pA b, tokA t] (.one (.c .ptr)) b tb L H (jhq f t s) (NdD H) := by
 intro k hk
 refine cQdl _ (jg8 t) ?_
 unfold vQdl
 simp only [adr_add, NilCk_some]
 have hlb := h.lt
 have htl := h.tlt
 have hG := To.refl hne
 refine jak (vs := jgu t) fun b1 H1 hb1 hE1 _ hr1 => jam ((hr1.cell 1).trans rfl) (jag ((hr1.cell 2).trans rfl) ?_)
 refine jkc (tx := ⟨⟨t.text⟩⟩) fun q H2 hq hE2 o2 => ?_
 have hE02 := hE1.trans hE2 fun _ _ h => h
 refine jbM (w := [46]) (h.ext hE02) fun H3 hE3 => jbM (w := [40]) ((h.ext hE02).ext hE3) fun H4 hE4 => ?_
 have hE34 := hE3.trans hE4 fun _ _ h => h
 have hE04 := hE02.trans hE34 fun _ _ h => h
 have h4 := h.ext hE04
 have hs1 := hE1.size
 have hs4 := hE04.size
 have o4 : OwD H1.size H4 (.mk 31 t.text 0 [] (t.at' : Nat)) (some q) := o2.upd hE34 fun _ _ _ h => h
 have hqs := (o4.row).1
 have hql : q < H4.size := by obtain ⟨_, _, r, _⟩ := o4.row; exact r.lt
 have hs14 : H1.size ≤ H4.size := (hE2.trans hE34 fun _ _ h => h).size
 simp only [Jn]
 have e46 : isD [46] (.ok s) = jaf [46] s := rfl
 have e40 : isD [40] (.ok s) = jaf [40] s := rfl
 rw [e46, e40]
 cases hd : jaf [46] s with
 | true =>
   have hno := jeC hd (v := [40]) (by decide)
   rw [hno]
   refine (Br_true _ _).2 ?_
   have hG := hG.eq (show _ = (jdn s).bind fun _ s => (jaQ s).bind fun u s => jaE (jaq 32 t [jaq 31 u []]) s by unfold jhq; rw [hno, hd]; rfl)
   refine jaY h4 (fun s' e => by cases e; exact jaB hd) fun t5 H5 hU5 h5 ht5 => ?_
   have hpn := jcb (.ok s) t5 ht5
   have hG := (hG.step hpn).eq (jan _ _ _)
   refine jco h5 _ fun _ H6 u τ6 hp6 hU6 h6 eu => ?_
   subst eu
   have hG := hG.step hp6
   have hU6' := upU hU5 hU6
   refine jbe rfl fun b3 H9 hb3 hE9 hr9 => ?_
   have hU9 := upE hU6' hE9
   have hs6 := hU6'.size
   have o9 := o4.mv hU9 (by omega)
   have h9 := h6.ext hE9
   have hs9 := hU9.size
   refine Own.poke o9 (op2 := 32) (tx2 := t.text) (num2 := 0) (at2 := (t.at' : Nat)) (fun _ => rfl) (by decide) fun H10 hU10 o10 => ?_
   have hr10 := hU10.row hr9 (by omega)
   have h10 := h9.young hU10 (by omega) (by omega)
   have hs10 := hU10.size
   refine jam ((hr10.cell 1).trans rfl) (jag ((hr10.cell 2).trans rfl) ?_)
   refine jkc (tx := ⟨⟨u.text⟩⟩) fun q2 H11 hq2 hE11 o11 => ?_
   have hs11 := hE11.size
   refine OwnT.lit (qs := [some q2]) (OwnT.one o11) hs11 rfl fun b5 H12 hb5 hE12 o12 => ?_
   have hE1012 := hE11.trans hE12 fun _ _ h => h
   refine Own.give o10 hE1012 (fun _ _ _ h => h) o12 (by omega) fun H13 hU13 o13 => (Br_false _ _).2 ?_
   have hU : Upd (· = b) H H13 := jmC (upE (jmC (upU (ExU hE04) hU9) hU10 (by omega)) hE1012) hU13 (by omega)
   exact hk _ H13 _ τ6 hG.ret hU ((h10.ext hE1012).young hU13 (by omega) (by omega)) ⟨q, rfl, by omega, o13.mono hs1⟩
 | false =>
   refine (Br_false _ _).2 ?_
   cases ho : jaf [40] s with
   | true =>
     have hG := hG.eq (show _ = (jb5 f s).bind fun l s => jaE (jaq 36 t l) s by unfold jhq; rw [ho]; rfl)
     refine (Br_true _ _).2 (Own.poke o4 (op2 := 36) (tx2 := t.text) (num2 := 0) (at2 := (t.at' : Nat)) (fun _ => rfl) (by decide) fun H5 hU5 o5 => ?_)
     have h5 := h4.young hU5 (by omega) (by omega)
     have hs5 := hU5.size
     have hU5' : Upd (· = b) H H5 := jmC (ExU hE04) hU5 (by omega)
     refine wa h5 o5 (by omega) (by omega) (by omega) hG.part _ fun H6 l τ hp hU6 h6 o6 => ?_
     exact hk _ H6 _ τ (hG.step hp).ret (hU5'.trans hU6 fun x hx e => by omega) h6 ⟨q, rfl, by omega, o6.mono hs1⟩
   | false =>
     have hG := hG.eq (show _ = th (.ok s) (jaE (jaq 31 t [])) by unfold jhq; rw [ho, hd]; rfl)
     exact (Br_false _ _).2 (hk _ H4 _ _ hG.ret (ExU hE04) h4 ⟨q, rfl, by omega, o4.mono hs1⟩)
theorem rx_prim {f : Nat} (ih : WkD f) (wa : WdA f) {s : PS} (h : DR H b tb L (.ok s)) (hne : jbh (f + 1) s ≠ none) : Wd fQdu [pA b] (.one (.c .ptr)) b tb L H (jbh (f + 1) s) (NdD H) := by
 intro k hk
 refine cQdj _ ?_
 unfold vQdj
 simp only [adr_add, NilCk_some]
 have hlb := h.lt
 have htl := h.tlt
 have hG := To.refl hne
 have htok := h.tl.ok _ h.tok
 have hsg := h.sg _ h.tok
 refine jjG h fun t b1 H4 hb1 hE4 hr4 ht hs => jag ((hr4.cell 2).trans rfl) (jkc fun q H5 hq hE5 o5 => ?_)
 have hs := hs s rfl
 subst hs
 have hE05 := hE4.trans hE5 fun _ _ h => h
 refine jcN (h.ext hE05) fun H6 hE6 => ?_
 have hE06 := hE05.trans hE6 fun _ _ h => h
 refine jak (vs := builtinL.map fun t => (Value.string ⟨⟨t⟩⟩)) fun b3 H7 _ hE7 _ hr7 => ?_
 have hE07 := hE06.trans hE7 fun _ _ h => h
 refine jeA (l := builtinL) (h.ext hE07) (jbS hr7) (by decide) fun H8 hE8 => ?_
 have hE08 := hE07.trans hE8 fun _ _ h => h
 refine jak (vs := [[116, 105, 99, 107], [109, 101]].map fun t => (Value.string ⟨⟨t⟩⟩)) fun b4 H9 _ hE9 _ hr9 => ?_
 have hE09 := hE08.trans hE9 fun _ _ h => h
 refine jeA (l := [[116, 105, 99, 107], [109, 101]]) (h.ext hE09) (jbS hr9) (by decide) fun H10 hE10 => ?_
 have hE0A := hE09.trans hE10 fun _ _ h => h
 refine jbM (w := [104, 97, 115]) (h.ext hE0A) fun H11 hE11 => jbM (w := [40]) ((h.ext hE0A).ext hE11) fun H12 hE12 => ?_
 have hE0C := (hE0A.trans hE11 fun _ _ h => h).trans hE12 fun _ _ h => h
 have hE5C : Ext H5 H12 := ((((((hE6.trans hE7 fun _ _ h => h).trans hE8 fun _ _ h => h).trans hE9 fun _ _ h => h).trans hE10 fun _ _ h => h).trans hE11 fun _ _ h => h).trans hE12 fun _ _ h => h)
 have hs4 := hE4.size
 have hs5 := hE5.size
 have hsC := hE0C.size
 have hs5C := hE5C.size
 have o : OwD H4.size H12 (.mk 0 [] 0 [] (s.hd.at' : Nat)) (some q) := o5.upd hE5C fun _ _ _ h => h
 have hr := (hE5.trans hE5C fun _ _ h => h).row hr4 fun h => h
 have hqs := (o.row).1
 have h12 := h.ext hE0C
 have hU0 : Upd (· = b) H H12 := ExU hE0C
 have hb1q : b1 < q := by have := hr4.lt; omega
 simp only [Jn]
 refine jdf h12 ((Br_false _ _).2 (jag ((hr.cell 0).trans rfl) ?_))
 -- the text of the copied token
 have rdT : ∀ {H' : jaa} {M : Nat → Prop}, Upd M H12 H' → ¬ M b1 → Row H' b1 jbc (jgu s.hd) := fun hU hM => hU.row hr hM
 have en : nmD (.ok s) = jas s := rfl
 have ea : isD [104, 97, 115] (.ok s) = jaf [104, 97, 115] s := rfl
 have eo : isD [40] (.ok s) = jaf [40] s := rfl
 have ew : ((([[116, 105, 99, 107], [109, 101]] : List Txt)).any fun w => isD w (.ok s)) = (jaf [116, 105, 99, 107] s || jaf [109, 101] s) := by
  show (jaf _ s || (jaf _ s || false)) = _
  rw [Bool.or_false]
 have ec : (builtinL.any fun w => isD w (.ok s)) = decide (s.hd.kind = 1 ∧ builtinL.contains s.hd.text = true) := by
  rw [Bool.eq_iff_iff, List.any_eq_true, decide_eq_true_eq]
  constructor
  ·rintro ⟨w, hw, hn⟩
   obtain ⟨g1, g2⟩ := jdX hn
   have hc : builtinL.contains s.hd.text = true := by rw [g1, List.contains_iff_mem]; exact hw
   refine ⟨?_, hc⟩
   rcases g2 with g | g
   ·exact g
   ·have := hsg g
    rw [g1] at this
    simp only [builtinL, List.mem_cons, List.not_mem_nil, or_false] at hw
    rcases hw with rfl | rfl | rfl | rfl | rfl <;> exact absurd this (by decide)
  ·rintro ⟨g1, g2⟩
   exact ⟨s.hd.text, by rwa [List.contains_iff_mem] at g2, by show jaf _ s = true; unfold jaf; rw [g1]; simp⟩
 rw [en, ea, eo, ew, ec]
 refine Br.mk (fun e => ?_) fun e => ?_
 ·have e : s.hd.kind = 2 := by have := jlk e; omega
  obtain ⟨n1, n2, n3⟩ := htok.num e
  have hG := hG.eq (jng e)
  refine jaY h12 (fun s' e' => by cases e'; rw [e]; decide) fun t5 H13 hU13 h13 ht5 => ?_
  have hpn := jcb (.ok s) t5 ht5
  have ht5 := ht5 s rfl
  subst ht5
  have hG := hG.step hpn
  have o13 := o.mv hU13 (by omega)
  have hU03 := upU hU0 hU13
  have hs13 := hU03.size
  refine Own.poke o13 (op2 := 30) (tx2 := []) (num2 := 0) (at2 := (s.hd.at' : Nat)) (fun _ => rfl) (by decide) fun H14 hU14 o14 => ?_
  have hr14 := hU14.row (hU13.row hr (by omega)) (by omega)
  have h14 := h13.young hU14 (by omega) (by omega)
  refine jam ((hr14.cell 1).trans rfl) (jm7 n2 n3 htok.len ?_)
  refine Own.poke o14 (op2 := 30) (tx2 := []) (num2 := (jb7 0 s.hd.text : Nat)) (at2 := (s.hd.at' : Nat)) (fun _ => rfl) (by decide) fun H15 hU15 o15 => ?_
  exact hk _ H15 _ _ hG.ret (jmC (jmC hU03 hU14 (by omega)) hU15 (by omega)) (h14.young hU15 (by omega) (by omega)) ⟨q, rfl, by omega, o15.mono hs4⟩
 have e2 : s.hd.kind ≠ 2 := fun g => jlQ e (by rw [g]; rfl)
 cases hn : jas s with
 | true =>
   refine (Br_true _ _).2 ?_
   have hG := hG.eq (prim_nm hn)
   refine jaY h12 (fun s' e' => by cases e'; exact jdR hn) fun t5 H13 hU13 h13 ht5 => ?_
   have hpn := jcb (.ok s) t5 ht5
   have ht5 := ht5 s rfl
   subst ht5
   have hG := hG.step hpn
   have hU03 := upU hU0 hU13
   have hs13 := hU03.size
   have h13 : DR H13 b tb L (.ok s.take) := h13
   refine ja4 (hU13.row hr (by omega)).rd_all (jnF wa s.hd h13 hG.ne _ fun d H14 n τ hp hU14 h14 ⟨q2, e1, g1, o1⟩ => ?_)
   exact hk d H14 n τ (hG.px _ _ hp) (upU hU03 hU14) h14 ⟨q2, e1, by omega, o1.mono hs13⟩
 | false =>
 refine (Br_false _ _).2 (jaj (fun hc => ?_) fun hc => ?_)
 ·have hG := hG.eq (jmn hc.1 hc.2)
  refine jaY h12 (fun s' e' => by cases e'; rw [hc.1]; decide) fun t5 H13 hU13 h13 ht5 => ?_
  have hpn := jcb (.ok s) t5 ht5
  have ht5 := ht5 s rfl
  subst ht5
  have hG := (hG.step hpn)
  have o13 := o.mv hU13 (by omega)
  have hU03 := upU hU0 hU13
  have hs13 := hU03.size
  have h13 : DR H13 b tb L (.ok s.take) := h13
  refine Own.poke o13 (op2 := 36) (tx2 := []) (num2 := 0) (at2 := (s.hd.at' : Nat)) (fun _ => rfl) (by decide) fun H14 hU14 o14 => ?_
  have hr14 := hU14.row (hU13.row hr (by omega)) (by omega)
  have h14 := h13.young hU14 (by omega) (by omega)
  refine jam ((hr14.cell 1).trans rfl) ?_
  refine Own.poke o14 (op2 := 36) (tx2 := s.hd.text) (num2 := 0) (at2 := (s.hd.at' : Nat)) (fun _ => rfl) (by decide) fun H15 hU15 o15 => ?_
  have h15 := h14.young hU15 (by omega) (by omega)
  have hU05 := jmC (jmC hU03 hU14 (by omega)) hU15 (by omega)
  have hs15 := hU05.size
  have hs1415 := hU15.size
  have hs1314 := hU14.size
  have hs1213 := hU13.size
  refine wa h15 o15 (by omega) (by omega) (by omega) hG.part _ fun H16 l τ hp hU16 h16 o16 => ?_
  exact hk _ H16 _ τ (hG.step hp).ret (hU05.trans hU16 fun x hx e => by omega) h16 ⟨q, rfl, by omega, o16.mono hs4⟩
 cases hw : (jaf [116, 105, 99, 107] s || jaf [109, 101] s) with
 | true =>
   refine (Br_true _ _).2 ?_
   have hG := hG.eq (jk8 hw)
   refine jaY h12 (fun s' e' => by cases e'; rcases Bool.or_eq_true_iff.1 hw with g | g <;> exact jaB g) fun t5 H13 hU13 h13 ht5 => ?_
   have hpn := jcb (.ok s) t5 ht5
   have ht5 := ht5 s rfl
   subst ht5
   have hG := hG.step hpn
   have o13 := o.mv hU13 (by omega)
   have hU03 := upU hU0 hU13
   refine Own.poke o13 (op2 := 38) (tx2 := []) (num2 := 0) (at2 := (s.hd.at' : Nat)) (fun _ => rfl) (by decide) fun H14 hU14 o14 => ?_
   have hr14 := hU14.row (hU13.row hr (by omega)) (by omega)
   have h14 := h13.young hU14 (by omega) (by omega)
   refine jam ((hr14.cell 1).trans rfl) ?_
   refine Own.poke o14 (op2 := 38) (tx2 := s.hd.text) (num2 := 0) (at2 := (s.hd.at' : Nat)) (fun _ => rfl) (by decide) fun H15 hU15 o15 => ?_
   exact hk _ H15 _ _ hG.ret (jmC (jmC hU03 hU14 (by omega)) hU15 (by omega)) (h14.young hU15 (by omega) (by omega)) ⟨q, rfl, by omega, o15.mono hs4⟩
 | false =>
 refine (Br_false _ _).2 ?_
 cases ha : jaf [104, 97, 115] s with
 | true =>
   refine (Br_true _ _).2 ?_
   have hG := hG.eq (jmO ha)
   refine jaY h12 (fun s' e' => by cases e'; exact jaB ha) fun t5 H13 hU13 h13 ht5 => ?_
   have hpn := jcb (.ok s) t5 ht5
   have ht5 := ht5 s rfl
   subst ht5
   have hG := (hG.step hpn).eq (jan _ _ _)
   have o13 := o.mv hU13 (by omega)
   have hU03 := upU hU0 hU13
   refine Own.poke o13 (op2 := 37) (tx2 := []) (num2 := 0) (at2 := (s.hd.at' : Nat)) (fun _ => rfl) (by decide) fun H14 hU14 o14 => ?_
   have h14 := h13.young hU14 (by omega) (by omega)
   have hU04 := jmC hU03 hU14 (by omega)
   refine jbj h14 [40] _ fun _ H15 t6 τ6 hp6 hU15 h15 _ => ?_
   have hG := (hG.step hp6).eq (jan _ _ _)
   refine jco h15 _ fun _ H16 u τ7 hp7 hU16 h16 eu => ?_
   subst eu
   have hG := (hG.step hp7).eq (jan _ _ _)
   have o16 := (o14.mv hU15 (by omega)).mv hU16 (by omega)
   have hU06 := upU (upU hU04 hU15) hU16
   refine Own.poke o16 (op2 := 37) (tx2 := u.text) (num2 := 0) (at2 := (s.hd.at' : Nat)) (fun _ => rfl) (by decide) fun H17 hU17 o17 => ?_
   have h17 := h16.young hU17 (by omega) (by omega)
   refine jbj h17 [41] _ fun _ H18 t8 τ8 hp8 hU18 h18 _ => ?_
   have hG := hG.step hp8
   exact hk _ H18 _ _ hG.ret (upU (jmC hU06 hU17 (by omega)) hU18) h18 ⟨q, rfl, by omega, (o17.mv hU18 (by omega)).mono hs4⟩
 | false =>
 refine (Br_false _ _).2 ?_
 cases ho : jaf [40] s with
 | true =>
   refine (Br_true _ _).2 ?_
   have hG := hG.eq (jlA ho)
   refine je0 h12 _ fun _ H13 _ τ3 hp3 hU13 h13 _ => ?_
   have d3 := je4 hp3
   have hG := (hG.step hp3).eq (jan _ _ _)
   have hU03 := upU hU0 hU13
   refine jaY h13 (fun s' e => by subst e; rw [(jil hp3).1]; exact jaB ho) fun t5 H14 hU14 h14 ht5 => ?_
   have hpn := jcb τ3 t5 ht5
   have d4 := hpn.dp d3 fun s a s' e => by obtain ⟨_, rfl⟩ := jaK e; rfl
   have hG := (hG.step hpn).eq (jan _ _ _)
   have hU04 := upU hU03 hU14
   have hs14 := hU04.size
   refine ih.ex h14 hG.part _ fun d6 H15 n τ6 hp6 hU15 h15 ⟨q6, e6, g6, o6⟩ => ?_
   subst e6
   have d6 := hp6.dp d4 fun _ _ _ => jeD
   have hG := (hG.step hp6).eq (jan _ _ _)
   refine jbj h15 [41] _ fun _ H16 t7 τ7 hp7 hU16 h16 _ => ?_
   have d7 := hp7.dp d6 fun _ _ _ => jbF
   have hG := hG.step hp7
   refine jiQ h16 d7 h.d0 fun H17 hU17 h17 => ?_
   have hlb14 := h14.lt
   exact hk _ H17 n _ (jge hG) (upU (upU (upU hU04 hU15) hU16) hU17) h17 ⟨q6, rfl, by omega, ((o6.mv hU16 (by omega)).mv hU17 (by omega)).mono hs14⟩
 | false =>
   refine (Br_false _ _).2 (jdB h12 (by decide) fun H13 hU13 h13 => ?_)
   have hG := hG.eq (jlj e2 hn hc hw ha ho)
   exact hk _ H13 _ _ (hG.px _ _ (px_fail 100 (.ok s) _)) (upU hU0 hU13) h13 ⟨q, rfl, by omega, (o.mv hU13 (by omega)).mono hs4⟩
theorem wkD : ∀ f, f ≤ 2 ^ 30 → WkD f ∧ WdA f := by
 intro f
 induction f using Nat.strongRecOn with
 | _ f ihs =>
   intro hf
   have bad : ∀ {H : jaa} {b tb : Nat} {L : List Tk} {e : Int × Int}, DR H b tb L (.error e) → (∀ P : PS → R Nd, Wd jh7 [pA b] (.one (.c .ptr)) b tb L H (th (.error e) P) (NdD H)) := fun h P => jhX h P
   cases f with
   | zero =>
     refine ⟨⟨fun {H b tb L σ} h hne => ?_, fun {H b tb L σ} l hl h hne => ?_, fun {H b tb L σ} h hne => ?_, fun {H b tb L σ} h hne => ?_⟩, fun {H b tb L s lo nb op num at' tx} h o hb htb hlo hne k hk => absurd (by rw [jb5]) hne⟩
     ·cases σ with
      | error e => exact jhX h _
      | ok s => exact absurd (by rw [jaC, exP]) hne
     ·cases σ with
      | error e => exact jdT (6 - l) l (by omega) h _
      | ok s => exact absurd (by rw [jaC, exP]) hne
     ·cases σ with
      | error e => exact jgz h _
      | ok s => exact absurd (by rw [jaC, exP]) hne
     ·cases σ with
      | error e => exact jhO h _
      | ok s => exact absurd (by rw [jaC, jbh]) hne
   | succ f =>
     have ih : ∀ g, g ≤ f → WkD g := fun g hg => (ihs g (by omega) (by omega)).1
     obtain ⟨_, wa⟩ := ihs f (by omega) (by omega)
     have un : ∀ {H : jaa} {b tb : Nat} {L : List Tk} {s : PS}, DR H b tb L (.ok s) → exP (f + 1) 7 s ≠ none → Wd jnM [pA b] (.one (.c .ptr)) b tb L H (exP (f + 1) 7 s) (NdD H) := fun h hne => jm9 ih h hne
     refine ⟨⟨fun {H b tb L σ} h hne => ?_, fun {H b tb L σ} l hl h hne => ?_, fun {H b tb L σ} h hne => ?_, fun {H b tb L σ} h hne => ?_⟩, rx_args (by omega) ih⟩
     ·cases σ with
      | error e => exact jhX h _
      | ok s => exact rx_cond (ih f (Nat.le_refl _)) h hne
     ·cases σ with
      | error e => exact jdT (6 - l) l (by omega) h _
      | ok s => exact jl4 ih l hl (fun e => un h (by subst e; exact hne)) h hne
     ·cases σ with
      | error e => exact jgz h _
      | ok s => exact un h hne
     ·cases σ with
      | error e => exact jhO h _
      | ok s => exact rx_prim (ih f (Nat.le_refl _)) wa h hne
end
section
open Hc Hc.Lex Hc.Syn
variable {H B : jaa} {b tb : Nat} {L : List Tk} {σ τ : DS} {F : Nat}
theorem bneI' {a b : Int} (h : (a != b) = false) : a = b := by simpa using h
theorem Wd.st {α β : Type} {f : FuncId} {args : List Value} {r : RTy} {A : PS → R α} {Rel : α → r.den → jaa → Prop} (w : Wd f args r b tb L H (th σ A) Rel) {C : α → PS → R β} {G : R β} (hG : To G (th σ fun s => (A s).bind C)) (hB : Upd (· = b) B H)
 {k : r.den → jaa → Prop} (hk : ∀ d H' a τ, To G (th τ (C a)) → Px (th σ A) a τ → Upd (· = b) B H' → Upd (· = b) H H' → DR H' b tb L τ → Rel a d H' → k d H') : CallT Pg f args r H k :=
 w k fun d H' a τ hp hU h' hr => hk d H' a τ ((hG.eq (jan _ _ _)).step hp) hp (upU hB hU) hU h' hr
theorem jfX (hB : Upd (· = b) B H) (hb : b < B.size) (htb : tb < B.size) {q : Nat} {op num at' op2 num2 at2 : Int} {tx tx2 : Txt} {ns : List Nd} (o : OwD B.size H (.mk op tx num ns at') (some q)) (h : DR H b tb L σ) {i : Nat} {v : Value} (hv : ∀ L, (ndV op tx num L at').set i v = ndV op2 tx2 num2 L at2) (hi : i < 5) {K : jaa → Prop}
 (hk : ∀ H2, Upd (· = b) B H2 → Upd (· = q) H H2 → DR H2 b tb L σ → OwD B.size H2 (.mk op2 tx2 num2 ns at2) (some q) → K H2) : St ⟨q, i, none⟩ v H K := by
 have hq := o.row.1
 exact Own.poke o hv hi fun H2 hU2 o2 => hk H2 (hB.trans hU2 fun c hc e => by omega) hU2 (h.upd hU2 (by omega) (by omega)) o2
theorem jcd {β : Type} {nb : Nat} {op num at' : Int} {tx : Txt} {ns : List Nd} (hB : Upd (· = b) B H) (h : DR H b tb L σ) (o : OwD B.size H (.mk op tx num ns at') (some nb)) (hb : b < B.size) (htb : tb < B.size) (hlen : ns.length ≤ 2 ^ 40) {f : FuncId} {args : List Value} {A : PS → R Nd} {C : Nd → PS → R β} {G : R β}
 (w : Wd f args (.one (.c .ptr)) b tb L H (th σ A) (NdD H)) (hG : To G (th σ fun s => (A s).bind C)) {K : jaa → Prop} (hK : ∀ H' n τ, To G (th τ (C n)) → Px (th σ A) n τ → Upd (· = b) B H' → DR H' b tb L τ → OwD B.size H' (.mk op tx num (ns ++ [n]) at') (some nb) → K H') :
 Ld .sl ⟨nb, 3, none⟩ H fun x1 => CallT Pg f args (.one (.c .ptr)) H fun (r6 : Option Addr) H1 => Stab [(⟨nb, 3, none⟩, .slice x1.a x1.len x1.cap)] H1 <| Nw #[.pointer r6] TQ H1 fun b2 H2 => Stab [(⟨nb, 3, none⟩, .slice x1.a x1.len x1.cap)] H2 <|
  App TQ 1 8 #[.pointer none] x1 ⟨some (adr b2), 1, 1⟩ H2 fun l1 H3 => St ⟨nb, 3, none⟩ (.slice l1.a l1.len l1.cap) H3 fun H4 => K H4 :=
 jlH h o hb htb hB.size hlen w fun H' n τ hp hU h' o' => hK H' n τ ((hG.eq (jan _ _ _)).step hp) hp (up_lo hB hU) h' o'
theorem d_put {H0 : jaa} {nb q : Nat} {op num at' : Int} {tx : Txt} {ns : List Nd} {n : Nd} (hB : Upd (· = b) B H0) (o : OwD B.size H0 (.mk op tx num ns at') (some nb)) (hU : Upd (fun x => x = b ∨ H0.size ≤ x) H0 H) (h : DR H b tb L σ) (oc : OwD H0.size H n (some q)) (hb : b < B.size) (htb : tb < B.size) (hlen : ns.length ≤ 2 ^ 40) {K : jaa → Prop}
 (hK : ∀ H', Upd (· = b) B H' → DR H' b tb L σ → OwD B.size H' (.mk op tx num (ns ++ [n]) at') (some nb) → K H') :
 Ld .sl ⟨nb, 3, none⟩ H fun x1 => Nw #[.pointer (some (adr q))] TQ H fun b2 H2 => App TQ 1 8 #[.pointer none] x1 ⟨some (adr b2), 1, 1⟩ H2 fun l1 H3 => St ⟨nb, 3, none⟩ (.slice l1.a l1.len l1.cap) H3 fun H4 => K H4 := by
 have hs := hB.size
 obtain ⟨X, hc, happ⟩ := o.app hs hlen
 have hM : ∀ x, B.size ≤ x → x < H0.size → ¬ (x = b ∨ H0.size ≤ x) := fun x hx hl e => by omega
 refine jao (hc hU hM) (jak (vs := [jb3 (some q)]) fun b2 H2 hb2 hE2 _ hr2 => ?_)
 have hU2 : Upd (fun x => x = b ∨ H0.size ≤ x) H0 H2 := hU.trans hE2 fun _ _ e => e.elim
 refine happ hU2 hM (oc.upd hE2 fun _ _ _ e => e) hr2 fun L' H3 hU3 hK3 => hK3 fun H4 hU4 o4 => ?_
 have hs0 := hU2.size
 refine hK H4 ?_ ((h.ext hE2).upd hU4 (fun e => by have := e.1; omega) (fun e => by have := e.1; omega)) o4
 exact (hB.trans hU2 fun x hx e => by omega).trans hU4 fun x hx e => by omega
def dp0 : DS → Int
 | .ok s => s.deep
 | .error _ => 0
theorem jod (σ : DS) : dpD σ (dp0 σ) := fun s e => by subst e; rfl
theorem DR.dp0 (h : DR H b tb L σ) : 0 ≤ dp0 σ := by
 cases σ with
 | error e => exact Int.le_refl _
 | ok s => exact h.d0
theorem jj2 {w : Txt} {t : Tk} {d : Int} (h : Px (th σ (jby w)) t τ) (hd : dpD σ d) : dpD τ (d + 1) := by
 intro s' e
 subst e
 obtain ⟨s, rfl, h1⟩ := h.was
 obtain ⟨_, _, _, rfl⟩ := jbx h1
 show s.deep + 1 = d + 1
 rw [hd s rfl]
theorem jn7 {β : Type} (hB : Upd (· = b) B H) (h : DR H b tb L σ) (w : Txt) {C : Tk → PS → R β} {G : R β} (hG : To G (th σ fun s => (jby w s).bind C)) {k : Int × ByteArray × Int → jaa → Prop}
 (hk : ∀ H' t τ, To G (th τ (C t)) → Px (th σ (jby w)) t τ → Upd (· = b) B H' → Upd (· = b) H H' → DR H' b tb L τ → k (jg8 t) H') :
 CallT Pg jek [pA b, .string ⟨⟨w⟩⟩] (.one (.c .bool)) H fun (r1 : Bool) H1 =>
  Jn (σ := Unit) (fun kk1 => Br r1 (CallT Pg jmI [pA b] (.tup []) H1 fun (_ : Unit) H3 => kk1 () H3) (kk1 () H1)) fun _ H2 =>
  CallT Pg jeK [pA b, .string ⟨⟨w⟩⟩] jlc H2 k := by
 refine jbM h fun H1 hE1 => ?_
 simp only [Jn]
 cases hn : isD w σ with
 | true =>
   obtain ⟨s, rfl, hn⟩ := jez hn
   refine (Br_true _ _).2 (je0 (h.ext hE1) _ fun _ H3 _ τ3 hp3 hU3 h3 _ => jbj h3 w _ fun d H4 t τ4 hp4 hU4 h4 ed => ?_)
   have hp : Px (th (.ok s) (jby w)) t τ4 := by rw [jaC, jhS hn]; exact hp3.bind hp4
   subst ed
   have hU := upU (upU (ExU (b := b) hE1) hU3) hU4
   exact hk H4 t τ4 ((hG.eq (jan _ _ _)).step hp) hp (upU hB hU) hU h4
 | false =>
   refine (Br_false _ _).2 (jbj (h.ext hE1) w _ fun d H4 t τ4 hp4 hU4 h4 ed => ?_)
   have hp : Px (th σ (jby w)) t τ4 := by
    cases σ with
    | error e => exact hp4
    | ok s =>
      have hn : jaf w s = false := hn
      rw [jaC, jmw hn]; exact hp4
   subst ed
   have hU := upU (ExU (b := b) hE1) hU4
   exact hk H4 t τ4 ((hG.eq (jan _ _ _)).step hp) hp (upU hB hU) hU h4
theorem d_up {β : Type} (hB : Upd (· = b) B H) (h : DR H b tb L σ) (w : Txt) {d : Int} (hd : dpD σ (d + 1)) (h0 : 0 ≤ d) {C : Unit → PS → R β} {G : R β} (hG : To G (th σ fun s => (upP w s).bind C)) {K : jaa → Prop}
 (hk : ∀ H' τ, To G (th τ (C ())) → Upd (· = b) B H' → Upd (· = b) H H' → DR H' b tb L τ → K H') :
 CallT Pg jeK [pA b, .string ⟨⟨w⟩⟩] jlc H fun (_ : Int × ByteArray × Int) H17 =>
  Ld (.int .i64) ⟨b, 4, none⟩ H17 fun (x2 : Int) => Lt (IntKind.wrap .i64 (x2 - 1)) fun t1 => St ⟨b, 4, none⟩ (.int .i64 t1) H17 fun H18 => K H18 := by
 refine jbj h w _ fun _ H8 t2 τ8 hp8 hU8 h8 _ => jiQ h8 (hp8.dp hd fun _ _ _ => jbF) h0 fun H9 hU9 h9 => ?_
 have hU := upU hU8 hU9
 refine hk H9 _ ((hG.eq (jan _ _ _)).step (a := ()) ?_) (upU hB hU) hU h9
 rw [upP_eq]
 refine (Px.bind (F := fun _ s => jl0 s) hp8 ?_ : Px ((th σ (jaA w)).bind _) _ _) |> fun hx => by rw [jan]; exact hx
 cases τ8 with
 | error e => exact rfl
 | ok s => exact ⟨rfl, rfl⟩
where upP_eq : ∀ {w : Txt}, upP w = fun s => (jaA w s).bind fun _ s => jl0 s := fun {w} => up_eq w
theorem jkU {sl : Sl} {i : Nat} {pl ne st : Int} (g1 : Row H b TQaq [slV sl, .int .i64 (i : Nat), .int .i64 pl, .int .i64 0, .int .i64 ne, .int .i64 st]) (g2 : VecN H jbc 3 sl (jb8 L)) (g3 : sl.a = some (adr tb)) (g4 : i < L.length)
 (tl : TsOk L) (sg : ∀ t ∈ L, SgOk t) (hne : b ≠ tb) {e : Int} (he : e ≠ 0) {k : Unit → jaa → Prop} (hk : ∀ H', Upd (· = b) H H' → DR H' b tb L (.error ((L[i].at' : Nat), e)) → k () H') : CallT Pg jjr [pA b, .int .i64 e] (.tup []) H k := by
 refine cQcx _ _ ?_
 unfold vQcx
 simp only [adr_add, NilCk_some]
 refine jag ((g1.cell 3).trans rfl) ?_
 simp only [Jn]
 refine (Br_true _ _).2 (jat g1 (by simp) fun H1 hU1 _ hr1 => ?_)
 have g21 : VecN H1 jbc 3 sl (jb8 L) := g2.upd hU1 fun c hc e => by rw [g3] at hc; cases hc; exact hne e.symm
 have hl := g2.len
 rw [jb0] at hl
 refine jao ((hr1.cell 0).trans rfl) (jag ((hr1.cell 1).trans rfl) ?_)
 refine jgh g21 (by decide) rfl (by omega) fun c hc hcell => ?_
 have hc2 := hcell 2 (by decide)
 rw [jgg jfg g4 (by decide)] at hc2
 have hc2 : Hc.hcell H1 ((⟨tb, i * 3, none⟩ : Addr).add 2) = some (Value.int .i64 (L[i].at' : Nat)) := by
  rw [g3] at hc; cases hc
  rw [mk_add]; exact hc2.trans rfl
 rw [g3] at hc; cases hc
 refine jag hc2 (jat hr1 (by simp) fun H2 hU2 _ hr2 => hk H2 (hU1.trans hU2 fun _ _ e => e) ?_)
 exact ⟨⟨sl, i, _, _, _, _, hr2, g21.upd hU2 fun c hc e => by rw [g3] at hc; cases hc; exact hne e.symm, g3, g4, rfl, he, rfl⟩, tl, sg, hne⟩
def begL : List Txt := [[108, 101, 116], [105, 102], [119, 104, 105, 108, 101], [114, 101, 112, 101, 97, 116], [101, 109, 105, 116], [115, 112, 97, 119, 110], [97, 100, 100], [114, 101, 109, 111, 118, 101], [100, 105, 101], [115, 116, 111, 112], [114, 101, 116, 117, 114, 110]]
def jk2 (s : PS) : Bool := decide (s.hd.kind = 1) && (decide (jaz s.hd.text ≠ 0) || jas s)
theorem beg_starts {w : Txt} : w ∈ begL ↔ jaz w ≠ 0 := by
 unfold begL jaz
 constructor
 ·intro h
  simp only [List.mem_cons, List.not_mem_nil, or_false] at h
  rcases h with rfl | rfl | rfl | rfl | rfl | rfl | rfl | rfl | rfl | rfl | rfl <;> decide
 ·intro h
  simp only [List.mem_cons, List.not_mem_nil, or_false]
  repeat' split at h
  all_goals (first | (rename_i e; rcases e with e | e <;> simp [e]; done) | (rename_i e; simp [e]; done) | exact absurd rfl h)
theorem beg_sg {w : Txt} (h : w ∈ begL) : jdI w = true := by
 unfold begL at h
 simp only [List.mem_cons, List.not_mem_nil, or_false] at h
 rcases h with rfl | rfl | rfl | rfl | rfl | rfl | rfl | rfl | rfl | rfl | rfl <;> decide
def begD : DS → Bool
 | .ok s => jk2 s
 | .error _ => false
theorem jnT (hsg : ∀ s, σ = .ok s → SgOk s.hd) : ((begL.any fun w => isD w σ) || nmD σ) = begD σ := by
 cases σ with
 | error e => rw [jlr]; rfl
 | ok s =>
   have hsg := hsg s rfl
   rw [Bool.eq_iff_iff, Bool.or_eq_true_iff, List.any_eq_true]
   show _ ↔ jk2 s = true
   unfold jk2
   rw [Bool.and_eq_true_iff, Bool.or_eq_true_iff, decide_eq_true_eq, decide_eq_true_eq]
   constructor
   ·rintro (⟨w, hw, hn⟩ | hn)
    ·obtain ⟨g1, g2⟩ := jdX hn
     refine ⟨?_, .inl (by rw [g1]; exact beg_starts.1 hw)⟩
     rcases g2 with g | g
     ·exact g
     ·have := hsg g
      rw [g1, beg_sg hw] at this; cases this
    ·have hn : jas s = true := hn
     refine ⟨?_, .inr hn⟩
     unfold jas at hn; simp only [Bool.and_eq_true, beq_iff_eq] at hn; exact hn.1
   ·rintro ⟨h1, h2 | h2⟩
    ·exact .inl ⟨s.hd.text, beg_starts.2 h2, by show jaf _ s = true; unfold jaf; rw [h1]; simp⟩
    ·exact .inr h2
theorem DR.sgh (h : DR H b tb L σ) : ∀ s, σ = .ok s → SgOk s.hd := fun s e => by subst e; exact h.sg _ h.tok
theorem s_begun (h : DR H b tb L σ) {k : Bool → jaa → Prop} (hk : ∀ H', Ext H H' → k (begD σ) H') : CallT Pg fQdq [pA b] (.one (.c .bool)) H k := by
 refine cQdf _ ?_
 unfold vQdf
 refine jak (vs := begL.map fun t => (Value.string ⟨⟨t⟩⟩)) fun b3 H1 _ hE1 _ hr1 => ?_
 have hv : Vec H1 jcC ⟨some (adr b3), 11, 11⟩ (begL.map fun t => (Value.string ⟨⟨t⟩⟩)) := jbS hr1
 have e := jnT h.sgh
 refine LoopT.ghost (fun m st H' => ∃ j : Nat, Ext H1 H' ∧ st = (j : Nat) ∧ m = 11 - j ∧ j ≤ 11 ∧ ((begL.take j).any fun w => isD w σ) = false) 11 ⟨0, .refl _ _, rfl, rfl, Nat.zero_le _, rfl⟩ ?_
 rintro next m _ H2 ⟨j, hE, rfl, rfl, hj, hno⟩ hnext
 have hE02 := hE1.trans hE fun _ _ h => h
 refine jaj (fun hlt => ?_) fun hge => ?_
 ·have hj' : j < begL.length := by show j < 11; omega
  refine jcy (hv.upd hE fun _ _ h => h) (by omega) (by rw [List.length_map]; omega) fun ad hc _ => ?_
  have hc : hcell H2 ad = some (.string ⟨⟨begL[j]⟩⟩) := hc.trans (by simp [List.getElem?_eq_getElem hj'])
  refine jam hc (jbM (h.ext hE02) fun H3 hE3 => ?_)
  have hE03 := hE02.trans hE3 fun _ _ h => h
  have htk : begL.take (j + 1) = begL.take j ++ [begL[j]] := by rw [List.take_succ_eq_append_getElem hj']
  cases hn : isD begL[j] σ with
  | true =>
    have : begD σ = true := by rw [← e, List.any_eq_true.2 ⟨begL[j], List.getElem_mem _, hn⟩]; rfl
    exact (Br_true _ _).2 (this ▸ hk _ hE03)
  | false =>
    refine (Br_false _ _).2 (Lt.mk (u := ((j + 1 : Nat) : Int)) (by rw [jac] <;> omega) (hnext (11 - (j + 1)) _ _ (by omega) ⟨j + 1, hE.trans hE3 fun _ _ h => h, rfl, rfl, by omega, ?_⟩))
    rw [htk, List.any_append, hno, List.any_cons, hn]; rfl
 ·refine jcN (h.ext hE02) fun H3 hE3 => ?_
  have : begD σ = nmD σ := by
   rw [List.take_of_length_le (by show 11 ≤ j; omega)] at hno
   rw [← e, hno]; rfl
  exact this ▸ hk _ (hE02.trans hE3 fun _ _ h => h)
def jbT (s : PS) : R Unit := if jk2 s then (jaZ s.stmts 200 s).bind fun _ s => jaE () s.more else jc2 100 s
theorem jkd (h : DR H b tb L σ) : Wd fQdl [pA b] (.tup []) b tb L H (th σ jbT) fun _ _ _ => True := by
 intro k hk
 refine cQda _ ?_
 unfold vQda
 simp only [adr_add, NilCk_some]
 refine s_begun h fun H1 hE1 => ?_
 have h1 := h.ext hE1
 have hU1 : Upd (· = b) H H1 := ExU hE1
 -- where something is wrong
 have bad : ∀ {H2 : jaa} {e : Int × Int}, Upd (· = b) H H2 → DR H2 b tb L (.error e) → Px (th σ jbT) () (.error e) →
  Ld (.int .i64) ⟨b, 5, none⟩ H2 fun (x1 : Int) => Lt (IntKind.wrap .i64 (x1 + 1)) fun t1 => St ⟨b, 5, none⟩ (.int .i64 t1) H2 fun H4 => Ld (.int .i64) ⟨b, 5, none⟩ H4 fun (x2 : Int) =>
   Br (decide (x2 > 200)) (CallT Pg jjr [pA b, .int .i64 102] (.tup []) H4 fun (_ : Unit) H6 => k () H6) (k () H4) := by
  intro H2 e hU2 h2 hp
  obtain ⟨sl, i, t, bd, ne, st, r0, r1, r3, r4, r5, _⟩ := h2.rd
  refine jag r5 (Lt.mk rfl (h2.poke (τ := .error e) (j := 5) (by decide) (fun sl i pl bd ne' st hi hv => ⟨i, pl, bd, ne', _, hi, rfl, hv⟩) fun H4 hU4 h4 => ?_))
  have hU4 := upU hU2 hU4
  obtain ⟨sl, i, t, bd, ne, st, r0, r1, r3, r4, r5, _⟩ := h4.rd
  refine jag r5 (Br.mk (fun _ => jdB h4 (by decide) fun H5 hU5 h5 => hk _ H5 () _ hp (upU hU4 hU5) h5 trivial) fun _ => hk _ H4 () _ hp hU4 h4 trivial)
 simp only [Jn]
 cases σ with
 | error e =>
   refine (Br_true _ _).2 (jdB h1 (by decide) fun H2 hU2 h2 => ?_)
   exact bad (upU hU1 hU2) h2 rfl
 | ok s =>
   cases hb : jk2 s with
   | false =>
     have : begD (.ok s) = false := hb
     rw [this]
     refine (Br_true _ _).2 (jdB h1 (by decide) fun H2 hU2 h2 => bad (upU hU1 hU2) h2 ?_)
     rw [jaC]; unfold jbT; rw [hb]; rfl
   | true =>
     have : begD (.ok s) = true := hb
     rw [this]
     refine (Br_false _ _).2 ?_
     obtain ⟨sl, i, pl, bd, ne, st, g1, g2, g3, g4, g5⟩ := h1.ex
     have hne := h1.ne
     obtain ⟨y1, y2, y3, y4, y5, y6⟩ := g5
     subst y1
     refine jag ((g1.cell 5).trans rfl) (Lt.mk (u := st + 1) (by rw [jac] <;> omega) (jat g1 (by simp) fun H4 hU4 _ hr4 => jag ((hr4.cell 5).trans rfl) ?_))
     have g24 : VecN H4 jbc 3 sl (jb8 L) := g2.upd hU4 fun c hc e => by rw [g3] at hc; cases hc; exact hne e.symm
     have hhd : s.hd = L[i] := by
      unfold PS.hd
      rw [y2, List.drop_eq_getElem_cons g4]; rfl
     refine jaj (fun hgt => ?_) fun hle => ?_
     ·refine jkU hr4 g24 g3 g4 h1.tl h1.sg hne (by decide) fun H5 hU5 h5 => hk _ H5 () _ ?_ (upU (upU hU1 hU4) hU5) h5 trivial
      rw [jaC]; unfold jbT jaZ
      rw [hb, if_pos rfl, if_pos (by omega), ← hhd]; exact rfl
     ·refine hk _ H4 () (.ok s.more) ?_ (upU hU1 hU4) ⟨⟨sl, i, pl, 0, ne, st + 1, hr4, g24, g3, g4, rfl, y2, y3, ?_, y5, ?_⟩, h1.tl, h1.sg, hne⟩ trivial
      ·rw [jaC]; unfold jbT jaZ
       rw [hb, if_pos rfl, if_neg (by omega)]; exact ⟨rfl, rfl⟩
      ·show st + 1 = s.stmts + 1; omega
      ·show 0 ≤ s.stmts + 1 ∧ s.stmts + 1 ≤ 200; omega
end
section
open Hc Hc.Lex Hc.Syn
variable {H B : jaa} {b tb : Nat} {L : List Tk} {σ τ : DS} {F : Nat}
def jnv (F g : Nat) (l : List Nd) (s : PS) : R (List Nd) := (if jaf [125] s then jaE () s else (jaA [44] s).bind fun _ s => if jas s then jaE () s else jc2 100 s).bind fun _ s => jbZ F g l s
def valP (F g : Nat) (l : List Nd) (s : PS) : R (List Nd) := (jaQ s).bind fun t s => (jaA [58] s).bind fun _ s => (exP F 0 s).bind fun n s => jnv F g (l ++ [jaq 24 t [n]]) s
theorem jgm {g : Nat} {l : List Nd} {s : PS} : jbZ F (g + 1) l s = if jaf [125] s then jaE l s else valP F g l s := by rw [jbZ]; rfl
theorem jma {s : PS} (h : jas s = true) : jaf [125] s = false := jeU h (by decide)
theorem val_end {β : Type} {g : Nat} {l : List Nd} {C : List Nd → PS → R β} {G : R β} (hG : To G (th τ fun s => (jnv F g l s).bind fun l s => (upP [125] s).bind fun _ s => C l s)) (hn : isD [44] τ = false) : To G (th τ fun s => (upP [125] s).bind fun _ s => C l s) := by
 cases τ with
 | error e => exact hG.eq rfl
 | ok s =>
   have hn : jaf [44] s = false := hn
   rw [jaC] at hG
   cases he : jaf [125] s with
   | true =>
     have e : jnv F g l s = jbZ F g l s := by unfold jnv; rw [he]; rfl
     rw [e] at hG
     cases g with
     | zero => exact absurd (by rw [jbZ]; rfl) hG.ne
     | succ g =>
       rw [jgm, he, if_pos rfl] at hG
       exact hG
   | false =>
     refine hG.eq ?_
     rw [jaC]
     unfold jnv upP jaA
     rw [he, hn]; rfl
theorem jnI {β : Type} {g : Nat} {l : List Nd} {C : List Nd → PS → R β} {G : R β} {s : PS} (hG : To G (th (.ok s) fun s => (jnv F g l s).bind C)) (hn : jaf [44] s = true) :
 (jas s.take = true ∧ ∃ g', g = g' + 1 ∧ To G (th (.ok s.take) fun s => (valP F g' l s).bind C)) ∨ (jas s.take = false ∧ ∀ g', To G (th (.ok s.take) fun s => (valP F g' l s).bind C)) := by
 have he := jeC hn (v := [125]) (by decide)
 rw [jaC] at hG
 have e : jnv F g l s = (if jas s.take then jaE () s.take else jc2 100 s.take).bind fun _ s => jbZ F g l s := by unfold jnv jaA; rw [he, hn]; rfl
 rw [e] at hG
 cases h : jas s.take with
 | true =>
   rw [h, if_pos rfl] at hG
   have hG : To G ((jbZ F g l s.take).bind C) := hG
   refine .inl ⟨rfl, ?_⟩
   cases g with
   | zero => exact absurd (by rw [jbZ]; rfl) hG.ne
   | succ g =>
     rw [jgm, jma h] at hG
     exact ⟨g, rfl, hG⟩
 | false =>
   rw [h] at hG
   refine .inr ⟨rfl, fun g' => hG.eq ?_⟩
   rw [jaC]
   unfold valP jaQ
   rw [h]; rfl
def mP (g : Nat) (τ : DS) : Nat := 2 * g + if nmD τ then 2 else 1
def PartI (F : Nat) (G : R Nd) (t : Tk) (H : jaa) (b tb : Nat) (L : List Tk) (d : Int) (q : Nat) (m : Nat) (st : Bool) (H' : jaa) : Prop := ∃ l τ, l.length + m ≤ 2 * F + 2 ∧ Upd (· = b) H H' ∧ DR H' b tb L τ ∧ dpD τ (d + 1) ∧ OwD H.size H' (.mk 23 t.text 0 l (t.at' : Nat)) (some q) ∧
 ((st = false ∧ To G (th τ fun s => (upP [125] s).bind fun _ s => jaE (jaq 23 t l) s)) ∨ (st = true ∧ ∃ g, m = mP g τ ∧ To G (th τ fun s => (valP F g l s).bind fun l s => (upP [125] s).bind fun _ s => jaE (jaq 23 t l) s)))
theorem jmh (hF : F ≤ 2 ^ 30) (h : DR H b tb L σ) (hne : th σ (jcr F) ≠ none) : Wd fQdp [pA b] (.one (.c .ptr)) b tb L H (th σ (jcr F)) (NdD H) := by
 intro k hk
 refine cQde _ ?_
 unfold vQde
 simp only [adr_add, NilCk_some]
 have hlb := h.lt
 have htl := h.tlt
 have h0 := h.dp0
 have wE := (wkD F hF).1
 have hG : To (th σ (jcr F)) (th σ fun s => (jaQ s).bind fun t s => (jby [123] s).bind fun _ s => (jbZ F F [] s).bind fun l s => (upP [125] s).bind fun _ s => jaE (jaq 23 t l) s) := To.refl hne
 refine Wd.st (jco h) hG (.refl _ _) fun _ H1 t τ1 hG hp1 hB1 _ h1 et => ?_
 subst et
 have d1 := hp1.dp (jod σ) fun _ _ _ => jeO
 refine jbe rfl fun b1 H2 hb1 hE2 hr2 => jam ((hr2.cell 1).trans rfl) (jag ((hr2.cell 2).trans rfl) ?_)
 have hB2 := upE hB1 hE2
 refine jb4 (l := ⟨none, 0, 0⟩) (tx := t.text) (OwnL.nil H.size _) hB2.size fun q H3 hq hE3 _ o3 => ?_
 have hB3 := upE hB2 hE3
 have hs2 := hB2.size
 have hqH : H.size ≤ q := by omega
 refine jn7 hB3 ((h1.ext hE2).ext hE3) [123] hG fun H4 _ τ4 hG hp4 hB4 hU4 h4 => ?_
 have d4 := jj2 hp4 d1
 have o4 := o3.mv hU4 hlb
 refine jbM (w := [125]) h4 fun H5 hE5 => ?_
 have h5 := h4.ext hE5
 have hB5 := upE hB4 hE5
 have o5 := o4.mv (ExU (b := b) hE5) hlb
 have start : ∃ m, PartI F (th σ (jcr F)) t H b tb L (dp0 σ) q m (!isD [125] τ4) H5 := by
  cases hn : isD [125] τ4 with
  | true =>
    obtain ⟨s4, rfl, hn4⟩ := jez hn
    refine ⟨0, [], _, by simp, hB5, h5, d4, o5, .inl ⟨rfl, hG.eq ?_⟩⟩
    rw [jaC, jaC]
    cases F with
    | zero => exact absurd (by rw [jaC, jbZ]; rfl) hG.ne
    | succ F => rw [jgm, hn4]; rfl
  | false =>
    cases τ4 with
    | error e => exact ⟨mP F (.error e), [], _, by simp [mP, nmD], hB5, h5, d4, o5, .inr ⟨rfl, F, rfl, hG.eq rfl⟩⟩
    | ok s4 =>
      have hn : jaf [125] s4 = false := hn
      cases F with
      | zero => exact absurd (by rw [jaC, jbZ]; rfl) hG.ne
      | succ F =>
        refine ⟨mP F (.ok s4), [], _, ?_, hB5, h5, d4, o5, .inr ⟨rfl, F, rfl, hG.eq ?_⟩⟩
        ·simp only [mP, List.length_nil]; split <;> omega
        ·rw [jaC, jaC, jgm, hn]; rfl
 obtain ⟨m0, hi⟩ := start
 refine LoopT.ghost (PartI F (th σ (jcr F)) t H b tb L (dp0 σ) q) m0 hi ?_
 rintro next m st H6 ⟨l, τ, hlm, hB6, h6, d6, o6, hcase⟩ hnext
 -- the end
 have fin : To (th σ (jcr F)) (th τ fun s => (upP [125] s).bind fun _ s => jaE (jaq 23 t l) s) → CallT Pg jeK [.pointer (some (adr b)), .string (⟨#[125]⟩ : ByteArray)] (.one (.agg [(.int .i64), .str, (.int .i64)])) H6 fun (_ : Int × ByteArray × Int) H33 =>
  Ld (.int .i64) ⟨b, 4, none⟩ H33 fun (x7 : Int) => Lt (IntKind.wrap .i64 (x7 - 1)) fun t1 => St ⟨b, 4, none⟩ (.int .i64 t1) H33 fun H34 => k (some (adr q)) H34 := fun hG =>
  d_up hB6 h6 [125] d6 h0 hG fun H9 τ9 hG9 hB9 hU9 h9 => hk _ H9 _ τ9 hG9.ret hB9 h9 ⟨q, rfl, hqH, o6.mv hU9 hlb⟩
 refine Jn.mk (fun j H' => H6 = H' ∧ j = (st && okD τ)) (fun kk hkk => ?_) ?_
 ·cases st with
  | false => exact (Br_false _ _).2 (hkk _ _ ⟨rfl, rfl⟩)
  | true => exact (Br_true _ _).2 (jdf h6 (hkk _ _ ⟨rfl, by simp⟩))
 rintro _ _ ⟨rfl, rfl⟩
 rcases hcase with ⟨rfl, hG⟩ | ⟨rfl, g, hm, hG⟩
 ·exact (Br_false _ _).2 (fin hG)
 cases τ with
 | error e => exact (Br_false _ _).2 (fin (hG.eq rfl))
 | ok s6 =>
 refine (Br_true _ _).2 ?_
 simp only [Jn]
 have hG : To (th σ (jcr F)) (th (.ok s6) fun s => (jaQ s).bind fun u s => (jaA [58] s).bind fun _ s => (exP F 0 s).bind fun n s => (jnv F g (l ++ [jaq 24 u [n]]) s).bind fun l s => (upP [125] s).bind fun _ s => jaE (jaq 23 t l) s) :=
  hG.eq (jbY fun s _ => by simp only [valP, ja8])
 have hs6 := hB6.size
 refine Wd.st (jco h6) hG hB6 fun _ H7 u τ7 hG hp7 hB7 hU7 h7 eu => ?_
 subst eu
 have hnm : nmD (.ok s6) = false → ∃ e, τ7 = .error e := by
  intro hno
  have hno : jas s6 = false := hno
  rw [jaC] at hp7
  unfold jaQ at hp7
  rw [hno] at hp7
  exact ⟨_, hp7⟩
 have d7 := hp7.dp d6 fun _ _ _ => jeO
 have hs7 := hU7.size
 refine jbe rfl fun b3 H8 hb3 hE8 hr8 => jam ((hr8.cell 1).trans rfl) (jag ((hr8.cell 2).trans rfl) ?_)
 have hs8 := hE8.size
 refine jb4 (l := ⟨none, 0, 0⟩) (tx := u.text) (OwnL.nil H6.size _) (by omega) fun qv H9 hqv hE9 _ o9 => ?_
 have hE79 := hE8.trans hE9 fun _ _ h => h
 have hB9 := upE hB7 hE79
 have hU9 : Upd (fun x => x = b ∨ H6.size ≤ x) H6 H9 := jkQ (upE hU7 hE79)
 have hlb6 : b < H6.size := by omega
 have htb6 : tb < H6.size := by omega
 refine Wd.st (jbj (h7.ext hE79) [58]) hG hB9 fun _ H10 v τ10 hG hp10 hB10 hU10 h10 _ => ?_
 have d10 := hp10.dp d7 fun _ _ _ => jbF
 have hU10' : Upd (fun x => x = b ∨ H6.size ≤ x) H6 H10 := jg7 hU9 (jkQ hU10)
 have o10 := o9.mv hU10 hlb6
 refine jlH h10 o10 hlb6 htb6 hU10'.size (by simp) (wE.ex h10 (hG.eq (jan _ _ _)).part) fun H11 n τ11 hp11 hU11 h11 o11 => ?_
 have hG := (hG.eq (jan _ _ _)).step hp11
 have d11 := hp11.dp d10 fun _ _ _ => jeD
 have hU11' := jg7 hU10' hU11
 refine d_put hB6 o6 hU11' h11 o11 (by omega) (by omega) (by omega) fun H12 hB12 h12 o12 => ?_
 refine jbM (w := [44]) h12 fun H13 hE13 => ?_
 have h13 := h12.ext hE13
 have hB13 := upE hB12 hE13
 have o13 := o12.mv (ExU (b := b) hE13) hlb
 have hdec : ∀ {m' : Nat}, m' < m → (l ++ [jaq 24 u [n]]).length + m' ≤ 2 * F + 2 := fun hlt => by simp only [List.length_append, List.length_singleton]; omega
 have hm1 : 0 < m := by rw [hm]; unfold mP; split <;> omega
 cases hn : isD [44] τ11 with
 | false => exact (Br_false _ _).2 (hnext 0 false _ hm1 ⟨l ++ [jaq 24 u [n]], τ11, hdec hm1, hB13, h13, d11, o13, .inl ⟨rfl, val_end hG hn⟩⟩)
 | true =>
   obtain ⟨s11, rfl, hn11⟩ := jez hn
   -- a name stood there
   have hnm6 : nmD (.ok s6) = true := by
    cases hx : nmD (.ok s6) with
    | true => rfl
    | false =>
      obtain ⟨e, rfl⟩ := hnm hx
      have e10 : τ10 = .error e := hp10
      subst e10
      cases hp11
   refine (Br_true _ _).2 (jaY h13 (fun s' e => by cases e; exact jaB hn11) fun w H14 hU14 h14 _ => ?_)
   have h14 : DR H14 b tb L (.ok s11.take) := h14
   have hB14 := upU hB13 hU14
   have o14 := o13.mv hU14 hlb
   have d14 : dpD (.ok s11.take) (dp0 σ + 1) := fun s' e => by cases e; exact d11 s11 rfl
   rcases jnI hG hn11 with ⟨hx, g', rfl, hG2⟩ | ⟨hx, hG2⟩
   ·have hlt : mP g' (.ok s11.take) < m := by
     have : nmD (.ok s11.take) = true := hx
     rw [hm]; unfold mP; rw [this, hnm6]; simp only [if_true]; omega
    exact hnext (mP g' (.ok s11.take)) true _ hlt ⟨_, _, hdec hlt, hB14, h14, d14, o14, .inr ⟨rfl, g', rfl, hG2⟩⟩
   ·have hlt : mP g (.ok s11.take) < m := by
     have : nmD (.ok s11.take) = false := hx
     rw [hm]; unfold mP; rw [this, hnm6]; simp only [if_true, Bool.false_eq_true, if_false]; omega
    exact hnext (mP g (.ok s11.take)) true _ hlt ⟨_, _, hdec hlt, hB14, h14, d14, o14, .inr ⟨rfl, g, rfl, hG2 g⟩⟩
end
end Go.Proofs.YtfpmgpblhhcpgaaGreatDoor
namespace Go.Proofs.YtfpmgpblhhcpgaaGreatDoor.Hc.Syn
set_option maxRecDepth 100000
section
open Go Hc
variable {TN TP : TypeId} {A : Nat → Prop} {H : jaa} {lo mid : Nat}
variable {op num at' : Int} {tx : Txt} {ns : List Nd} {b : Nat} {L : Sl}
theorem OwnB.poke (h : OwnB TN TP A H op tx num ns at' b L) {op2 num2 at2 : Int} {tx2 : Txt} {i : Nat} {v : Value} (hv : (ndV op tx num L at').set i v = ndV op2 tx2 num2 L at2) (hi : i < 5) {k : jaa → Prop}
 (hk : ∀ H', Upd (· = b) H H' → OwnB TN TP A H' op2 tx2 num2 ns at2 b L → k H') : St ⟨b, i, none⟩ v H k := by
 obtain ⟨qs, fl, hr, hvc, hl, h2, h3⟩ := h.ex
 refine jat hr (by simpa using hi) fun H1 hU _ hr1 => hk H1 hU ?_
 rw [hv] at hr1
 have hno := (List.nodup_cons.1 h2).1
 exact ⟨qs, fl, hr1, hvc.upd hU fun c hc e => hno (by subst e; exact List.mem_append_left _ (by unfold jaW; rw [hc]; simp)), hl.upd hU fun x hx e => hno (by subst e; exact List.mem_append_right _ hx), h2, h3⟩
theorem OwnB.app2 (h' : OwnB TN TP A H op tx num ns at' b L) (hA : ∀ x, A x → x < mid) (hmid : mid ≤ H.size) {n : Nd} {q : Option Nat} (hn : Own TN TP mid H n q) (hlen : ns.length ≤ 2 ^ 40) {b2 : Nat} (hr2 : Row H b2 TP [jb3 q]) {k : Sl → jaa → Prop}
 (hk : ∀ L' H2, Upd A H H2 → (∀ {K : jaa → Prop}, (∀ H3, Upd A H H3 → OwnB TN TP (fun x => A x ∨ mid ≤ x) H3 op tx num (ns ++ [n]) at' b L' → K H3) → St ⟨b, 3, none⟩ (.slice L'.a L'.len L'.cap) H2 K) → k L' H2) :
 App TP 1 8 #[.pointer none] L ⟨some (adr b2), 1, 1⟩ H k := by
 have hin := h'.in'
 obtain ⟨qs, fl, hr, hv, hl, h2, h3⟩ := h'.ex
 obtain ⟨f, g1, g2, g3⟩ := hn.ex
 have hql := hl.len
 refine jdW (vs := qs.map jb3) (ws := [jb3 q]) hv hr2.rd_all rfl (fun w hw => by rw [List.mem_singleton.1 hw]; rfl) (by decide) (by simp only [List.length_map, List.length_singleton]; omega) fun L' H2 hv2 hU2 ha hz => ?_
 have hLin : ∀ x, L.a = some (adr x) → x ∈ jaW L := fun x hx => by unfold jaW; rw [hx]; simp
 have hU12 : Upd (· ∈ jaW L) H H2 := hU2.mono fun x _ e => hLin x e.1
 have hUA : Upd A H H2 := hU12.mono fun x _ e => h3 x (List.mem_cons_of_mem _ (List.mem_append_left _ e))
 refine hk L' H2 hUA fun {K} hK => ?_
 have hblk : ∀ x ∈ jaW L', x ∈ jaW L ∨ x = H.size := fun x hx => by
  have hx' := (jc6 hv2 x hx).2
  rcases ha with ⟨e, _⟩ | e
  ·rw [e] at hx'
   exact .inl (hLin x hx')
  ·rw [e] at hx'
   have : H.size = x := by simpa [adr] using hx'
   exact .inr this.symm
 have hLb : b ∉ jaW L := fun e => (List.nodup_cons.1 h2).1 (List.mem_append_left _ e)
 refine jat (hU12.row hr hLb) (by simp) fun H3 hU3 _ hr3 => hK H3 (hUA.trans hU3 fun x _ e => by subst e; exact hin.1) ?_
 have h1lt := hr2.lt
 have hbH1 : b < H.size := hr.lt
 have l1 : ∀ x ∈ fl, x < H.size := fun x hx => hl.lt x hx
 have l2 : ∀ x ∈ f, x < H.size := fun x hx => g1.lt x hx
 have hnb : b ∉ jaW L' := fun hx => by
  rcases hblk b hx with e | e
  ·exact hLb e
  ·omega
 have m1 : ∀ x ∈ jaW L, A x := fun x hx => h3 x (List.mem_cons_of_mem _ (List.mem_append_left _ hx))
 have m2 : ∀ x ∈ fl, A x := fun x hx => h3 x (List.mem_cons_of_mem _ (List.mem_append_right _ hx))
 have hfl1 : ∀ x ∈ fl, x ∉ jaW L := fun x hx e => (List.nodup_append.1 (List.nodup_cons.1 h2).2).2.2 x e x hx rfl
 have hbfl : b ∉ fl := fun e => (List.nodup_cons.1 h2).1 (List.mem_append_right _ e)
 have hM : ∀ x, ¬ x = b → ¬ x ∈ jaW L → ¬ (x = b ∨ x ∈ jaW L) := fun x h1 h2 h => h.elim h1 h2
 have hU13 : Upd (fun x => x = b ∨ x ∈ jaW L) H H3 := (hU12.mono fun x _ e => .inr e).trans hU3 fun x _ e => .inl e
 refine ⟨qs ++ [q], fl ++ f, hr3, (by rw [List.map_append]; exact hv2.upd hU3 fun c hc e => hnb (by subst e; unfold jaW; rw [hc]; simp)), TrL.snoc (g1.upd hU13 fun x hx => hM x (fun e => by have := g3 x hx; have := hA b hin.1; omega) fun e => by have := g3 x hx; have := hA x (m1 x e); omega) (hl.upd hU13 fun x hx => hM x (fun e => hbfl (e ▸ hx)) (hfl1 x hx)), ?_, ?_⟩
 ·refine List.nodup_cons.2 ⟨fun hx => ?_, List.nodup_append.2 ⟨?_, List.nodup_append.2 ⟨(List.nodup_append.1 (List.nodup_cons.1 h2).2).2.1, g2, fun x hx y hy e => by have := hA x (m2 x hx); have := g3 y hy; omega⟩, fun x hx y hy e => ?_⟩⟩
  ·rcases List.mem_append.1 hx with hx | hx
   ·exact hnb hx
   ·rcases List.mem_append.1 hx with hx | hx
    ·exact hbfl hx
    ·have := g3 b hx; have := hA b hin.1; omega
  ·unfold jaW; split <;> simp
  ·subst e
   rcases hblk x hx with e | e
   ·rcases List.mem_append.1 hy with hy | hy
    ·exact hfl1 x hy e
    ·have := g3 x hy; have := hA x (m1 x e); omega
   ·rcases List.mem_append.1 hy with hy | hy
    ·have := l1 x hy; omega
    ·have := l2 x hy; omega
 ·intro x hx
  rcases List.mem_cons.1 hx with rfl | hx
  ·exact .inl hin.1
  ·rcases List.mem_append.1 hx with hx | hx
   ·rcases hblk x hx with e | e
    ·exact .inl (m1 x e)
    ·exact .inr (by omega)
   ·rcases List.mem_append.1 hx with hx | hx
    ·exact .inl (m2 x hx)
    ·exact .inr (g3 x hx)
end
end Go.Proofs.YtfpmgpblhhcpgaaGreatDoor.Hc.Syn
namespace Go.Proofs.YtfpmgpblhhcpgaaGreatDoor
set_option maxRecDepth 100000
section
open Hc Hc.Lex Hc.Syn
variable {H B : jaa} {b tb : Nat} {L : List Tk} {σ τ : DS} {F : Nat}
theorem jde {w : Txt} {a : Array UInt8} {X Y : Prop} (h1 : w = a.toList → X) (h2 : w ≠ a.toList → Y) : Br ((⟨⟨w⟩⟩ : ByteArray).toList == (⟨a⟩ : ByteArray).toList) X Y := by
 rw [jcq]
 exact jaj h1 h2
structure WdS (F f : Nat) : Prop where
 blk : ∀ {H : jaa} {b tb : Nat} {L : List Tk} {σ : DS}, DR H b tb L σ → th σ (jay F f) ≠ none → Wd jly [pA b] (.one (.c .ptr)) b tb L H (th σ (jay F f)) (NdD H)
 stm : ∀ {H : jaa} {b tb : Nat} {L : List Tk} {s : PS}, DR H b tb L (.ok s) → jbK F f s ≠ none → Wd fQdi [pA b] (.one (.c .ptr)) b tb L H (jbK F f s) (NdD H)
 con : ∀ {H : jaa} {b tb : Nat} {L : List Tk} {σ : DS}, DR H b tb L σ → (∀ s, σ = .ok s → jaf [105, 102] s = true) → th σ (jaD F f) ≠ none → Wd fQdn [pA b] (.one (.c .ptr)) b tb L H (th σ (jaD F f)) (NdD H)
theorem jgd {α : Type} {w : Txt} {s : PS} (h : jaf w s = true) (C : Tk → PS → R α) : (jaA w s).bind C = C s.hd s.take := by unfold jaA; rw [h]; rfl
theorem joc {α : Type} {s : PS} (h : jas s = true) (C : Tk → PS → R α) : (jaQ s).bind C = C s.hd s.take := by unfold jaQ; rw [h]; rfl
def setD (F : Nat) (s : PS) : R Nd := (jaQ s).bind fun t s => if jaf [46] s then (jdn s).bind fun _ s => (jaQ s).bind fun u s => (jaA [61] s).bind fun _ s => (exP F 0 s).bind fun n s => jcs (jaq 12 t [jaq 31 u [], n]) s
 else (jaA [61] s).bind fun _ s => (exP F 0 s).bind fun n s => jcs (jaq 11 t [n]) s
theorem set_eq {s : PS} (h : jas s = true) : jk7 F s = setD F s := by unfold setD; rw [joc h]; rfl
theorem jk0 (hF : F ≤ 2 ^ 30) {s : PS} (h : DR H b tb L (.ok s)) (hne : setD F s ≠ none) : Wd fQdm [pA b] (.one (.c .ptr)) b tb L H (setD F s) (NdD H) := by
 intro k hk
 refine cQdb _ ?_
 unfold vQdb
 simp only [adr_add, NilCk_some]
 have hlb := h.lt
 have htl := h.tlt
 have wE := (wkD F hF).1
 have hG : To (setD F s) (th (.ok s) fun s => (jaQ s).bind fun t s => if jaf [46] s then (jdn s).bind fun _ s => (jaQ s).bind fun u s => (jaA [61] s).bind fun _ s => (exP F 0 s).bind fun n s => jcs (jaq 12 t [jaq 31 u [], n]) s
  else (jaA [61] s).bind fun _ s => (exP F 0 s).bind fun n s => jcs (jaq 11 t [n]) s) := To.refl hne
 refine Wd.st (jco h) hG (.refl _ _) fun _ H1 t τ1 hG hp1 hB1 _ h1 et => ?_
 subst et
 refine jbe rfl fun b1 H2 hb1 hE2 hr2 => jam ((hr2.cell 1).trans rfl) (jag ((hr2.cell 2).trans rfl) ?_)
 have hB2 := upE hB1 hE2
 have hs2 := hB2.size
 refine jb4 (l := ⟨none, 0, 0⟩) (tx := t.text) (OwnL.nil H.size _) hB2.size fun q H3 hq hE3 _ o3 => ?_
 have hB3 := upE hB2 hE3
 have h3 := (h1.ext hE2).ext hE3
 refine jbM (w := [46]) h3 fun H4 hE4 => ?_
 have h4 := h3.ext hE4
 have hB4 := upE hB3 hE4
 have o4 := o3.mv (ExU (b := b) hE4) hlb
 refine Jn.mk (fun _ H8 => ∃ op l τ, l.length ≤ 1 ∧ Upd (· = b) H H8 ∧ DR H8 b tb L τ ∧ OwD H.size H8 (.mk op t.text 0 l (t.at' : Nat)) (some q) ∧ To (setD F s) (th τ fun s => (jaA [61] s).bind fun _ s => (exP F 0 s).bind fun n s => jcs (jaq op t (l ++ [n])) s)) (fun kk hkk => ?_) ?_
 rotate_left
 ·rintro _ H8 ⟨op, l, τ, hl, hB8, h8, o8, hG⟩
  refine Wd.st (jbj h8 [61]) hG hB8 fun _ H9 _ τ9 hG hp9 hB9 hU9 h9 _ => ?_
  have o9 := o8.mv hU9 hlb
  refine jcd hB9 h9 o9 hlb htl (by omega) (wE.ex h9 (hG.eq (jan _ _ _)).part) hG fun H10 n τ10 hG hp10 hB10 h10 o10 => ?_
  refine Wd.st (jbj h10 [59]) hG hB10 fun _ H11 _ τ11 hG hp11 hB11 hU11 h11 _ => ?_
  exact hk _ H11 _ τ11 hG.ret hB11 h11 ⟨q, rfl, by omega, o10.mv hU11 hlb⟩
 ·cases hn : isD [46] τ1 with
  | false => exact (Br_false _ _).2 (hkk _ _ ⟨11, [], τ1, by simp, hB4, h4, o4, hG.eq (jjP hn _ _)⟩)
  | true =>
    obtain ⟨s1, rfl, hn1⟩ := jez hn
    have hG := hG.eq (jgW hn _ _)
    refine (Br_true _ _).2 (jaY h4 (fun s' e => by cases e; exact jaB hn1) fun v H5 hU5 h5 ht5 => ?_)
    have hpn := jcb (.ok s1) v ht5
    have hG := (hG.eq (jan _ _ _)).step hpn
    have hB5 := upU hB4 hU5
    refine Wd.st (jco h5) hG hB5 fun _ H6 u τ6 hG hp6 hB6 hU6 h6 eu => ?_
    subst eu
    have o6 := (o4.mv hU5 hlb).mv hU6 hlb
    have hs6 := hB6.size
    obtain ⟨X, ob⟩ := o6.toB
    refine jbe rfl fun b3 H7 hb3 hE7 hr7 => ?_
    have hB7 := upE hB6 hE7
    have h7 := h6.ext hE7
    have hqin := ob.in'
    refine OwnB.poke (op2 := 12) (tx2 := t.text) (num2 := 0) (at2 := (t.at' : Nat)) (ob.upd hE7 fun _ _ _ h => h) rfl (by decide) fun H8 hU8 ob8 => ?_
    have hr8 := hU8.row hr7 (by omega)
    have h8 := h7.upd hU8 (by omega) (by omega)
    have hB8 := hB7.trans hU8 fun x hx e => by omega
    have hs7 := hE7.size
    have hs8 := hU8.size
    refine jao ob8.sl (jam ((hr8.cell 1).trans rfl) (jag ((hr8.cell 2).trans rfl) ?_))
    refine jb4 (l := ⟨none, 0, 0⟩) (tx := u.text) (OwnL.nil H8.size _) (Nat.le_refl _) fun qv H9 hqv hE9 _ o9 => ?_
    have stb : ∀ {H' : jaa}, Row H' b3 jbc (jgu u) → OwnB TD TQ (fun x => H.size ≤ x ∧ x < H6.size) H' 12 t.text 0 [] (t.at' : Nat) q X → ∀ x ∈ [((⟨b3, 2, none⟩ : Addr), Value.int .i64 (u.at' : Nat)), (⟨b3, 1, none⟩, .string ⟨⟨u.text⟩⟩), (⟨q, 3, none⟩, .slice X.a X.len X.cap)], hcell H' x.1 = some x.2 := fun r o x hx => by
     simp only [List.mem_cons, List.not_mem_nil, or_false] at hx
     rcases hx with rfl | rfl | rfl
     ·exact (r.cell 2).trans rfl
     ·exact (r.cell 1).trans rfl
     ·exact o.sl
    have hr9 := hE9.row hr8 fun h => h
    have ob9 := ob8.upd hE9 fun _ _ _ h => h
    refine jaw (stb hr9 ob9) (jak (vs := [jb3 (some qv)]) fun b5 H10 hb5 hE10 _ hr10 => ?_)
    have hrA := hE10.row hr9 fun h => h
    have obA := ob9.upd hE10 fun _ _ _ h => h
    have hs9 := hE9.size
    have hsA := hE10.size
    refine jaw (stb hrA obA) ?_
    refine OwnB.app2 (mid := H8.size) obA (fun x hx => by omega) (by omega) (o9.upd hE10 fun _ _ _ h => h) (by simp) hr10 fun L' H11 hU11 hK11 => ?_
    have hr11 := hU11.row hrA (by omega)
    refine jaw (fun x hx => ?_) ?_
    ·simp only [List.mem_cons, List.not_mem_nil, or_false] at hx
     rcases hx with rfl | rfl
     ·exact (hr11.cell 2).trans rfl
     ·exact (hr11.cell 1).trans rfl
    refine hK11 fun H12 hU12 ob12 => ?_
    have hBA := upE (upE hB8 hE9) hE10
    have hb6 := h6.lt
    have htb6 := h6.tlt
    refine hkk _ _ ⟨12, [jaq 31 u []], τ6, by simp, hBA.trans hU12 fun x hx e => by omega, ((h8.ext hE9).ext hE10).upd hU12 (by omega) (by omega), ob12.own fun x hx => by omega, hG⟩
theorem jhx {s s' : PS} {u : Unit} (h : jbT s = some (.ok (u, s'))) : jk2 s = true ∧ s' = s.more := by
 unfold jbT at h
 split at h
 ·rename_i e
  obtain ⟨_, s1, h1, h2⟩ := jal h
  obtain ⟨_, rfl⟩ := jbX h1
  exact ⟨e, (jaK h2).2⟩
 ·cases h
def jcA (F f : Nat) (s : PS) : R Nd :=
 match jaz s.hd.text with
 | 161 => jmF F s
 | 162 => jaD F f s
 | 163 => jbu F f s
 | 164 => jhj F s
 | 165 => jcL F s
 | 166 => jmG F s
 | 167 => jcG s
 | 168 => jcw s
 | 169 => jcz F s
 | _ => jk7 F s
theorem stmt_eq {f : Nat} {s : PS} : jbK F (f + 1) s = (jbT s).bind fun _ s => jcA F f s := by
 rw [jbK]
 unfold jbT jk2
 by_cases hc : s.hd.kind ≠ 1 ∨ (jaz s.hd.text = 0 ∧ jas s = false)
 ·rw [if_pos hc]
  have : (decide (s.hd.kind = 1) && (decide (jaz s.hd.text ≠ 0) || jas s)) = false := by
   rcases hc with h | ⟨h1, h2⟩
   ·rw [decide_eq_false h]; rfl
   ·rw [h1, h2]; simp
  rw [this]; rfl
 ·rw [if_neg hc]
  have : (decide (s.hd.kind = 1) && (decide (jaz s.hd.text ≠ 0) || jas s)) = true := by
   have h1 : s.hd.kind = 1 := Decidable.byContradiction fun h => hc (.inl h)
   rw [decide_eq_true h1, Bool.true_and, Bool.or_eq_true_iff, decide_eq_true_eq]
   by_cases h2 : jaz s.hd.text = 0
   ·refine .inr ?_
    cases h3 : jas s with
    | true => rfl
    | false => exact absurd (.inr ⟨h2, h3⟩) hc
   ·exact .inl h2
  rw [this, if_pos rfl, ja8]
  unfold jaZ
  split
  ·rfl
  ·rfl
theorem d_end (hB : Upd (· = b) B H) (h : DR H b tb L σ) (hb : b < B.size) {n : Nd} {q : Nat} (o : OwD B.size H n (some q)) {G : R Nd} (hG : To G (th σ (jcs n))) {k : Option Addr → jaa → Prop} (hk : ∀ d H' n τ, Px G n τ → Upd (· = b) B H' → DR H' b tb L τ → (∃ q, d = some (adr q) ∧ B.size ≤ q ∧ OwD B.size H' n (some q)) → k d H') (hq : B.size ≤ q) :
 CallT Pg jeK [pA b, .string ⟨⟨[59]⟩⟩] jlc H fun (_ : Int × ByteArray × Int) H' => k (some (adr q)) H' :=
 Wd.st (jbj h [59]) (hG.eq (show th σ (jcs n) = th σ fun s => (jaA [59] s).bind fun _ s => jaE n s from rfl)) hB fun _ H11 _ τ11 hG _ hB11 hU11 h11 _ => hk _ H11 _ τ11 hG.ret hB11 h11 ⟨q, rfl, hq, o.mv hU11 hb⟩
theorem jiR {s : PS} (h : jas s = true) : jaz s.hd.text = 0 := by
 refine Decidable.byContradiction fun hne => ?_
 have hm := beg_starts.2 hne
 have hf : ∀ w ∈ begL, jaJ w = false := by decide
 unfold jas at h
 rw [hf _ hm] at h
 simp at h
def spL (F : Nat) (hd : Tk) (l : List Nd) (g : Nat) (s : PS) : R Nd := ((jcr F s).bind fun n s => jbQ F g (l ++ [n]) s).bind fun l s => jcs (node 17 hd l) s
def SpawnI (F : Nat) (G : R Nd) (t : Tk) (H : jaa) (b tb : Nat) (L : List Tk) (q : Nat) (m : Nat) (st : Bool) (H' : jaa) : Prop := ∃ l τ, m ≤ F + 1 ∧ l.length + m ≤ F + 1 ∧ Upd (· = b) H H' ∧ DR H' b tb L τ ∧ OwD H.size H' (.mk 17 [] 0 l (t.at' : Nat)) (some q) ∧
 ((st = false ∧ To G (th τ (jcs (node 17 t l)))) ∨ (st = true ∧ ∃ g, m = g + 1 ∧ To G (th τ (spL F t l g))))
theorem jmX (hF : F ≤ 2 ^ 30) {s1 : PS} {G : R Nd} {t : Tk} {q : Nat} (hB : Upd (· = b) B H) (h : DR H b tb L σ) (hb : b < B.size) (htb : tb < B.size) (o : OwD B.size H (.mk 17 [] 0 [] (t.at' : Nat)) (some q)) (hσ : To G (th σ fun s => if jaf [59] s then jcs (node 17 t []) s else spL F t [] F s)) {k : jaa → Prop}
 (hk : ∀ H' l τ, Upd (· = b) B H' → DR H' b tb L τ → OwD B.size H' (.mk 17 [] 0 l (t.at' : Nat)) (some q) → To G (th τ (jcs (node 17 t l))) → k H') :
 CallT Pg jek [.pointer (some (adr b)), .string (⟨#[59]⟩ : ByteArray)] (.one (.c .bool)) H fun (r18 : Bool) H50 =>
 LoopT (σ := Bool) (fun next1 s1 H51 =>
  Jn (σ := Bool) (fun kk7 => Br s1 (CallT Pg jk6 [.pointer (some (adr b))] (.one (.c .bool)) H51 fun (r19 : Bool) H53 => kk7 r19 H53) (kk7 false H51)) fun j7 H52 =>
  Br j7 (
   Jn (σ := Bool) (fun kk8 =>
    Ld .sl ⟨q, 3, none⟩ H52 fun (x11 : Sl) =>
    CallT Pg fQdp [.pointer (some (adr b))] (.one (.c .ptr)) H52 fun (r20 : Option Addr) H55 =>
    Stab [(⟨q, 3, none⟩, .slice x11.a x11.len x11.cap)] H55 <|
    Nw #[.pointer r20] jbJ H55 fun b8 H56 =>
    Stab [(⟨q, 3, none⟩, .slice x11.a x11.len x11.cap)] H56 <|
    App jbJ 1 8 #[.pointer none] x11 ⟨some (adr b8), 1, 1⟩ H56 fun l6 H57 =>
    St ⟨q, 3, none⟩ (.slice l6.a l6.len l6.cap) H57 fun H58 =>
    CallT Pg jek [.pointer (some (adr b)), .string (⟨#[44]⟩ : ByteArray)] (.one (.c .bool)) H58 fun (r21 : Bool) H59 =>
    Jn (σ := Unit) (fun kk9 =>
     Br r21 (CallT Pg jeF [.pointer (some (adr b))] (.one (.agg [(.int .i64), .str, (.int .i64)])) H59 fun (_ : Int × ByteArray × Int) H61 => kk9 () H61) (kk9 () H59)) fun _ H60 =>
    kk8 r21 H60) fun j8 H54 =>
   next1 j8 H54) (
   k H52)) (!r18) H50 := by
 refine jbM (w := [59]) h fun H5 hE5 => ?_
 have h5 := h.ext hE5
 have hB5 := upE hB hE5
 have o5 := o.mv (ExU (b := b) hE5) hb
 refine LoopT.ghost (SpawnI F G t B b tb L q) (F + 1) ?_ ?_
 ·refine ⟨[], σ, Nat.le_refl _, by simp, hB5, h5, o5, ?_⟩
  cases hn : isD [59] σ with
  | true => exact .inl ⟨rfl, hσ.eq (jgW hn _ _)⟩
  | false => exact .inr ⟨rfl, F, rfl, hσ.eq (jjP hn _ _)⟩
 rintro next m st H6 ⟨l, τ, hm, hlm, hB6, h6, o6, hcase⟩ hnext
 refine Jn.mk (fun j H' => H6 = H' ∧ j = (st && okD τ)) (fun kk hkk => ?_) ?_
 ·cases st with
  | false => exact (Br_false _ _).2 (hkk _ _ ⟨rfl, rfl⟩)
  | true => exact (Br_true _ _).2 (jdf h6 (hkk _ _ ⟨rfl, by simp⟩))
 rintro _ _ ⟨rfl, rfl⟩
 rcases hcase with ⟨rfl, hG⟩ | ⟨rfl, g, rfl, hG⟩
 ·exact (Br_false _ _).2 (hk _ l τ hB6 h6 o6 hG)
 cases τ with
 | error e => exact (Br_false _ _).2 (hk _ l _ hB6 h6 o6 (hG.eq rfl))
 | ok s6 =>
 refine (Br_true _ _).2 ?_
 simp only [Jn]
 have hG : To G (th (.ok s6) fun s => (jcr F s).bind fun n s => (jbQ F g (l ++ [n]) s).bind fun l s => jcs (node 17 t l) s) := hG.eq (jbY fun s _ => by unfold spL; rw [ja8])
 refine jcd hB6 h6 o6 hb htb (by omega) (jmh hF h6 (hG.eq (jan _ _ _)).part) hG fun H8 n τ8 hG hp8 hB8 h8 o8 => ?_
 refine jbM (w := [44]) h8 fun H9 hE9 => ?_
 have h9 := h8.ext hE9
 have hB9 := upE hB8 hE9
 have o9 := o8.mv (ExU (b := b) hE9) hb
 cases g with
 | zero =>
   cases τ8 with
   | error e => exact (Br_false _ _).2 (hnext 0 false _ (by omega) ⟨l ++ [n], _, by omega, by simp; omega, hB9, h9, o9, .inl ⟨rfl, hG.eq rfl⟩⟩)
   | ok s8 => exact absurd (by rw [jaC, jbQ]; rfl) hG.ne
 | succ g =>
   cases hn : isD [44] τ8 with
   | false =>
     refine (Br_false _ _).2 (hnext (g + 1) false _ (by omega) ⟨l ++ [n], τ8, by omega, by simp; omega, hB9, h9, o9, .inl ⟨rfl, hG.eq (jbY fun s e => ?_)⟩⟩)
     subst e
     have hn : jaf [44] s = false := hn
     rw [jbQ, hn]; rfl
   | true =>
     obtain ⟨s8, rfl, hn8⟩ := jez hn
     refine (Br_true _ _).2 (jaY h9 (fun s' e => by cases e; exact jaB hn8) fun t H10 hU10 h10 _ => ?_)
     have h10 : DR H10 b tb L (.ok s8.take) := h10
     refine hnext (g + 1) true _ (by omega) ⟨l ++ [n], _, by omega, by simp; omega, upU hB9 hU10, h10, o9.mv hU10 hb, .inr ⟨rfl, g, rfl, hG.eq ?_⟩⟩
     rw [jaC, jaC, jbQ, hn8]; rfl
end
end Go.Proofs.YtfpmgpblhhcpgaaGreatDoor
