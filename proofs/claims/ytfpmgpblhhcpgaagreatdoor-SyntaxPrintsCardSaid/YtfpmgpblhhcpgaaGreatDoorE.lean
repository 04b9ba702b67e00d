/-
 The parser: expressions, walked.
-/
import Derived.Test.YtfpmgpblhhcpgaaGreatDoorHcSynB
set_option linter.unusedVariables false
set_option linter.unusedSimpArgs false
namespace Go.Proofs.YtfpmgpblhhcpgaaGreatDoor
set_option maxRecDepth 100000
section
open Hc Hc.Lex Hc.Syn
variable {H : jaa}
abbrev pA (b : Nat) : Value := .pointer (some (adr b))
abbrev NdO (H : jaa) : Nd → Option Addr → jaa → Prop := fun n d H' => ∃ q, d = some (adr q) ∧ H.size ≤ q ∧ Ow H.size H' n q
abbrev LsO (H : jaa) : List Nd → Sl → jaa → Prop := fun l d H' => OwL H.size H' d l ∧ l.length ≤ 2 ^ 31
structure WkE (f : Nat) : Prop where
 ex : ∀ {H : jaa} {b tb : Nat} {s : PS}, PR H b tb s → Wk jif [pA b] (.one (.c .ptr)) b tb H (exP f 0 s) (NdO H)
 bi : ∀ {H : jaa} {b tb : Nat} {s : PS} (lv : Nat), 1 ≤ lv → lv ≤ 7 → PR H b tb s → Wk fQbc [pA b, .int .i64 (lv : Nat)] (.one (.c .ptr)) b tb H (exP f lv s) (NdO H)
 un : ∀ {H : jaa} {b tb : Nat} {s : PS}, PR H b tb s → Wk fQbd [pA b] (.one (.c .ptr)) b tb H (exP f 7 s) (NdO H)
 args : ∀ {H : jaa} {b tb : Nat} {s : PS}, PR H b tb s → Wk fQbf [pA b] (.one (.c .sl)) b tb H (je0 f s) (LsO H)
theorem bind_some {α β : Type} (a : α) (s : PS) (F : α → PS → R β) : R.bind (some (.ok (a, s))) F = F a s := rfl
theorem upE {b : Nat} {H1 H2 : jaa} (h : Upd (· = b) H H1) (h2 : Ext H1 H2) : Upd (· = b) H H2 := h.trans h2 fun _ _ h => h.elim
theorem upU {b : Nat} {H1 H2 : jaa} (h : Upd (· = b) H H1) (h2 : Upd (· = b) H1 H2) : Upd (· = b) H H2 := h.trans h2 fun _ _ h => h
theorem ex_cond {f : Nat} (ihs : ∀ g, g ≤ f → WkE g) {b tb : Nat} {s : PS} (h : PR H b tb s) : Wk jif [pA b] (.one (.c .ptr)) b tb H (exP (f + 1) 0 s) (NdO H) := by
 have ih := ihs f (Nat.le_refl _)
 intro kp k he hk
 refine cQa2 _ ?_
 unfold vQa2
 simp only [adr_add, NilCk_some]
 unfold exP at he hk
 rw [if_pos rfl] at he hk
 have hlb := h.lt
 refine (ih.bi 1 (by decide) (by decide) h).step he fun d1 H1 n s1 ha hU1 h1 ⟨q1, e1, g1, o1⟩ he => ?_
 subst e1
 have l1 := (jl4 f).ex _ _ _ _ ha
 simp only [ha, bind_some] at hk
 refine jbm h1 fun H2 hE2 => ?_
 cases hn : jau [63] s1 with
 | false =>
   simp only [hn, Bool.false_eq_true, if_false] at hk
   exact hk _ H2 n s1 rfl (upE hU1 hE2) (h1.ext hE2) ⟨q1, rfl, g1, o1.mv (ExU (b := b) hE2) hlb⟩
 | true =>
   simp only [hn, if_true] at hk he
   have hU2 := upE hU1 hE2
   have t1 := (OwnT.one o1).mv (ExU (b := b) hE2) hlb
   refine (Br_false _ _).2 ((jgB (h1.ext hE2) [63]).step (he.mv (ExU hE2)) fun d3 H3 t s3 ha hU3 h3 e3 he => ?_)
   subst e3
   obtain ⟨_, hd20, rfl, rfl⟩ := jbH ha
   simp only [ha, bind_some] at hk
   have hU3 := upU hU2 hU3
   have t3 := t1.mv ‹Upd _ H2 H3› hlb
   have htl := h3.tlt
   refine jcz rfl fun b1 H7 hb1 hE7 hr7 => ?_
   have h7 := h3.ext hE7
   have hU7 := upE hU3 hE7
   have hs7 := hU7.size
   have hs3 := hU3.size
   refine (ih.ex h7).step (he.mv (ExU hE7)) fun d4 H8 y s4 ha hU8 h8 ⟨q4, e4, g4, o4⟩ he => ?_
   subst e4
   have l4 := (jl4 f).ex _ _ _ _ ha
   simp only [ha, bind_some] at hk
   have t8 := (t3.mv (ExU (b := b) hE7) hlb).more hU8 hlb hs7 o4
   have r8 := hU8.row hr7 (by omega)
   refine (jce h8 [58]).step he fun d5 H9 u s5 ha hU9 h9 _ he => ?_
   obtain ⟨_, rfl, rfl⟩ := jdZ ha
   simp only [ha, bind_some] at hk
   have t9 := t8.mv hU9 hlb
   have r9 := hU9.row r8 (by omega)
   have hU79 := upU hU8 hU9
   have hs9 := hU79.size
   refine (ih.ex h9).step he fun d6 H10 z s6 ha hU10 h10 ⟨q6, e6, g6, o6⟩ he => ?_
   subst e6
   have l6 := (jl4 f).ex _ _ _ _ ha
   simp only [ha, bind_some] at hk
   have t10 := t9.more hU10 hlb (by omega) o6
   have r10 := hU10.row r9 (by omega)
   have hd : s6.deep = s1.deep + 1 := l6.1.trans l4.1
   have := h1.dp
   refine jeY h10 (by omega) fun H11 hU11 h11 => jbk (hU11.row r10 (by omega)).rd_all ?_
   have t11 := t10.mv hU11 hlb
   have hU711 := upU (upU hU79 hU10) hU11
   have hs11 := hU711.size
   refine OwnT.lit (qs := [some q1, some q4, some q6]) t11 (by omega) rfl fun b2 H12 hb2 hE12 o12 => ?_
   refine jb4 o12 (by have := hE12.size; omega) fun H13 q hE13 hq o13 => ?_
   exact hk _ H13 _ s6.up rfl (upE (upE (upU hU7 hU711) hE12) hE13) ((h11.ext hE12).ext hE13) ⟨q, rfl, by have := hE12.size; omega, o13⟩
theorem jk9 {f : Nat} (ihs : ∀ g, g ≤ f → WkE g) {b tb : Nat} {s : PS} (lv : Nat) (h1 : 1 ≤ lv) (h2 : lv ≤ 7) (hun : lv = 7 → Wk fQbd [pA b] (.one (.c .ptr)) b tb H (exP (f + 1) 7 s) (NdO H)) (h : PR H b tb s) :
 Wk fQbc [pA b, .int .i64 (lv : Nat)] (.one (.c .ptr)) b tb H (exP (f + 1) lv s) (NdO H) := by
 have ih := ihs f (Nat.le_refl _)
 intro kp k he hk
 refine cQa3 _ _ ?_
 unfold vQa3
 refine jaj (fun hgt => ?_) fun hle => ?_
 ·have : lv = 7 := by omega
  subst this
  exact hun rfl kp _ he hk
 have hlb := h.lt
 have e0 : exP (f + 1) lv s = (exP f (lv + 1) s).bind fun n s => jiV f lv n s := by
  conv => lhs; unfold exP
  rw [if_neg (by omega), if_neg (by omega)]
 simp only [adr_add, NilCk_some]
 have hwr : ∀ x : Int, x = IntKind.wrap .i64 ((lv : Int) + 1) → x = ((lv + 1 : Nat) : Int) := fun x hx => by rw [hx, jac] <;> omega
 refine Lt.mk (u := ((lv + 1 : Nat) : Int)) (hwr _ rfl) ?_
 rw [e0] at he
 refine (ih.bi (lv + 1) (by omega) (by omega) h).step he fun d1 H1 n s1 ha hU1 h1' ⟨q1, e1, g1, o1⟩ he => ?_
 subst e1
 rw [ha, bind_some] at e0
 generalize hres : exP (f + 1) lv s = res at *
 refine LoopT.ghost (fun m st H' => ∃ n s' q, m ≤ f ∧ st = some (adr q) ∧ Upd (· = b) H H' ∧ PR H' b tb s' ∧ H.size ≤ q ∧ Ow H.size H' n q ∧ res = jiV m lv n s' ∧ EP b H' (jiV m lv n s') kp) f ⟨n, s1, q1, Nat.le_refl _, rfl, hU1, h1', g1, o1, e0, he⟩ ?_
 rintro next m _ H3 ⟨n, s', q, hm, rfl, hU3, h3, g3, o3, e3, he⟩ hnext
 cases m with
 | zero => exact absurd (by unfold jiV; rfl) he.ne
 | succ m =>
 unfold jiV at he e3
 have hok := h3.hd.2.1
 refine Jn.mk (fun j H' => Ext H3 H' ∧ j = decide (s'.hd.kind = 3 ∧ jat s'.hd.text = lv)) (fun kk hkk => ?_) ?_
 ·obtain ⟨sl, r1, r2⟩ := h3.rd
  refine jam r1 (r2 fun a ha => jaf (jdQ ha).1 (Br.mk (fun e => jam r1 (r2 fun a ha => jap (jdQ ha).2.1 (jc7 (hkk _ _ ⟨.refl _ _, ?_⟩)))) fun e => hkk _ _ ⟨.refl _ _, ?_⟩))
  ·have := beqI e
   rw [Bool.eq_iff_iff, beq_iff_eq, decide_eq_true_eq]
   exact ⟨fun g => ⟨by omega, g⟩, fun g => g.2⟩
  ·have := bneI e
   exact (decide_eq_false fun g => this (by rw [g.1]; rfl)).symm
 rintro _ H4 ⟨hE4, rfl⟩
 have h4 := h3.ext hE4
 have hU4 := upE hU3 hE4
 have o4 := o3.mv (ExU (b := b) hE4) hlb
 refine jaj (fun hc => ?_) fun hc => ?_
 ·rw [if_pos hc] at he e3
  refine jbh h4 (by rw [hc.1]; decide) fun H6 hU6 h6 => ?_
  have o6 := o4.mv hU6 hlb
  have hU6' := upU hU4 hU6
  have hs6 := hU6'.size
  have htl := h6.tlt
  have hlb6 := h6.lt
  refine jcz rfl fun b1 H10 hb1 hE10 hr10 => jbk hr10.rd_all (Lt.mk (u := ((lv + 1 : Nat) : Int)) (hwr _ rfl) ?_)
  have h10 := h6.ext hE10
  have hU10 := upE hU6' hE10
  have hs10 := hU10.size
  refine ((ihs m (by omega)).bi (lv + 1) (by omega) (by omega) h10).step (he.mv (upE (upU (ExU hE4) hU6) hE10)) fun d5 H11 y s5 ha hU11 h11 ⟨q5, e5, g5, o5⟩ he => ?_
  subst e5
  rw [ha, bind_some] at e3
  have hr11 := hU11.row hr10 (by omega)
  have st : ∀ {H'}, Row H' b1 jbP (jgZ s'.hd) → ∀ x ∈ [(((adr b1).add 0 : Addr), Value.int .i64 (jhK s'.hd).1), ((adr b1).add 1, .string (jhK s'.hd).2.1), ((adr b1).add 2, .int .i64 (jhK s'.hd).2.2)], jar H' x.1 = some x.2 := fun r x hx => by
   simp only [List.mem_cons, List.not_mem_nil, or_false, adr_add] at hx
   rcases hx with rfl | rfl | rfl
   ·exact (r.cell 0).trans rfl
   ·exact (r.cell 1).trans rfl
   ·exact (r.cell 2).trans rfl
  simp only [adr_add] at st
  refine jax (st hr11) ?_
  have t11 := ((OwnT.one o6).mv (ExU (b := b) hE10) hlb).more hU11 hlb hs10 o5
  have hU11' := upU hU10 hU11
  refine OwnT.lit (qs := [some q, some q5]) t11 hU11'.size rfl fun b2 H12 hb2 hE12 o12 => ?_
  refine jax (st (hE12.row hr11 fun h => h)) ?_
  refine jaY o12 (by have := hE12.size; have := hU11'.size; omega) fun H13 q' hE13 hq o13 => ?_
  refine hnext m _ _ (by omega) ⟨_, s5, q', by omega, rfl, upE (upE hU11' hE12) hE13, (h11.ext hE12).ext hE13, by have := hE12.size; have := hU11'.size; omega, o13, e3, (he.mv (ExU hE12)).mv (ExU hE13)⟩
 ·rw [if_neg hc] at e3
  exact hk _ H4 n s' e3 hU4 h4 ⟨q, rfl, g3, o4⟩
theorem jcf {b1 : Nat} {t : Tk} (r : Row H b1 jbP (jgZ t)) : ∀ x ∈ [((⟨b1, 0, none⟩ : Addr), Value.int .i64 (jhK t).1), (⟨b1, 1, none⟩, .string (jhK t).2.1), (⟨b1, 2, none⟩, .int .i64 (jhK t).2.2)], jar H x.1 = some x.2 := fun x hx => by
 simp only [List.mem_cons, List.not_mem_nil, or_false] at hx
 rcases hx with rfl | rfl | rfl
 ·exact (r.cell 0).trans rfl
 ·exact (r.cell 1).trans rfl
 ·exact (r.cell 2).trans rfl
theorem jhl {lo : Nat} {H' : jaa} {L : Sl} {ns : List Nd} (h : OwL lo H L ns) {b : Nat} (hU : Upd (· = b) H H') (hb : b < lo) (hl : lo ≤ H.size) {n : Nd} {q : Nat} (hn : Ow H.size H' n q) (hlen : ns.length ≤ 2 ^ 40) {k : Sl → jaa → Prop}
 (hk : ∀ L' H2, Upd (fun x => lo ≤ x ∧ x < H.size) H' H2 → OwL lo H2 L' (ns ++ [n]) → k L' H2) :
 Nw #[.pointer (some (adr q))] jbd H' fun b2 H1 => App jbd 1 8 #[.pointer none] L ⟨some (adr b2), 1, 1⟩ H1 k := by
 refine jaq (vs := [jcy (some q)]) fun b2 H1 hb2 hE1 _ hr => ?_
 refine OwnL.app h (hU.trans hE1 fun _ _ h => h.elim) (fun x hx _ => by omega) hl (hn.mv (ExU (b := b) hE1) (by have := hU.size; omega)) hlen hr fun L' H2 hU2 ho => ?_
 exact hk L' H2 ((hE1.mono fun _ _ h => h.elim).trans hU2 fun _ _ e => e) ho
theorem ex_args {f : Nat} (hf : f ≤ 2 ^ 30) (ihs : ∀ g, g ≤ f → WkE g) {b tb : Nat} {s : PS} (h : PR H b tb s) : Wk fQbf [pA b] (.one (.c .sl)) b tb H (je0 (f + 1) s) (LsO H) := by
 have ih := ihs f (Nat.le_refl _)
 intro kp k he hk
 refine cQa6 _ ?_
 unfold vQa6
 unfold je0 at he hk
 have hlb := h.lt
 have htl0 := h.tlt
 refine (jgB h [40]).step he fun d1 H1 t s1 ha hU1 h1 _ he => ?_
 obtain ⟨_, hd20, rfl, rfl⟩ := jbH ha
 simp only [ha, bind_some] at hk
 have hdp := h.dp
 have hs1 := hU1.size
 refine jbm h1 fun H2 hE2 => ?_
 have h2 := h1.ext hE2
 have hU2 := upE hU1 hE2
 have hs2 := hU2.size
 generalize hs1' : ({ s.take with deep := s.deep + 1 } : PS) = s1 at *
 have hd1 : s1.deep = s.deep + 1 := by rw [← hs1']
 generalize hA : (if jau [41] s1 then jbo [] s1 else (exP f 0 s1).bind fun n s => jen f [n] s) = A at *
 refine Jn.mk (fun L H3 => ∃ l s5, A = some (.ok (l, s5)) ∧ s5.deep = s.deep + 1 ∧ Upd (· = b) H H3 ∧ PR H3 b tb s5 ∧ OwL H.size H3 L l ∧ l.length ≤ 2 ^ 31 ∧ EP b H3 ((upP [41] s5).bind fun _ s => jbo l s) kp) (fun kk hkk => ?_) ?_
 rotate_left
 ·rintro L H3 ⟨l, s5, ha, hd, hU3, h3, o3, hl, he⟩
  simp only [ha, bind_some] at hk
  refine (w_up h3 (by omega) [41]).step he fun d4 H4 u s4 ha hU4 h4 _ he => ?_
  obtain ⟨_, rfl⟩ := jkR ha
  simp only [ha, bind_some] at hk
  exact hk L H4 l _ rfl (upU hU3 hU4) h4 ⟨o3.mv hU4 hlb, hl⟩
 cases hn : jau [41] s1 with
 | true =>
   rw [hn, if_pos rfl] at hA
   subst hA
   exact hkk _ _ ⟨[], s1, rfl, hd1, hU2, h2, OwnL.nil _ _, by decide, he.mv (ExU hE2)⟩
 | false =>
   rw [hn, if_neg (by decide)] at hA
   have he2 := (he.mv (ExU hE2)).bad
   rw [← hA] at he2
   refine (Br_true _ _).2 ((ih.ex h2).step he2 fun d3 H4 y s4 ha hU4 h4 ⟨q4, e4, g4, o4⟩ he4 => ?_)
   subst e4
   have l4 := (jl4 f).ex _ _ _ _ ha
   rw [ha, bind_some] at hA
   refine jhl (H := H2) (lo := H2.size) (OwnL.nil _ _) hU4 (by omega) (Nat.le_refl _) o4 (by simp) fun L1 H6 hU6 o6 => ?_
   have hs4 := hU4.size
   have hU26 : Upd (· = b) H2 H6 := hU4.trans hU6 fun x hx e => by omega
   have h6 : PR H6 b tb s4 := h4.upd hU6 (by omega) (by omega) (by omega)
   refine LoopT.ghost (fun m L H' => ∃ l s', m ≤ f ∧ l.length + m ≤ f + 1 ∧ Upd (· = b) H2 H' ∧ PR H' b tb s' ∧ s'.deep = s.deep + 1 ∧ OwL H2.size H' L l ∧ A = jen m l s') f ⟨[y], s4, Nat.le_refl _, by simp; omega, hU26, h6, l4.1.trans hd1, o6, hA.symm⟩ ?_
   rintro next m L H7 ⟨l, s', hm, hl, hU7, h7, hd7, o7, e7⟩ hnext
   have he7 : EP b H7 A kp := (he.mv (ExU hE2)).bad.mv hU7
   cases m with
   | zero => exact absurd (e7.trans (by unfold jen; rfl)) he7.ne
   | succ m =>
   unfold jen at e7
   refine jjo h7 [44] fun H8 hU8 h8 => ?_
   have hU28 := upU hU7 hU8
   have hs8 := hU28.size
   cases hc : jau [44] s' with
   | false =>
     rw [hc] at h8
     rw [hc, if_neg (by decide)] at e7
     have he8 := (he.mv (ExU hE2)).next e7 hU28
     exact hkk _ _ ⟨l, s', e7, hd7, upU hU2 hU28, h8, (o7.mv hU8 (by omega)).mono hs2, by omega, he8⟩
   | true =>
     rw [hc, if_pos rfl] at h8
     rw [hc, if_pos rfl] at e7
     have he8 : EP b H8 ((exP m 0 s'.take).bind fun n s => jen m (l ++ [n]) s) kp := by rw [← e7]; exact he7.mv hU8
     refine (Br_true _ _).2 (((ihs m (by omega)).ex h8).step he8 fun d9 H9 z s9 ha hU9 h9 ⟨q9, e9, g9, o9⟩ _ => ?_)
     subst e9
     have l9 := (jl4 m).ex _ _ _ _ ha
     rw [ha, bind_some] at e7
     have hs9 := hU9.size
     refine jhl (o7.mv hU8 (by omega)) hU9 (by omega) hs8 o9 (by omega) fun L2 H10 hU10 o10 => ?_
     refine hnext m _ _ (by omega) ⟨l ++ [z], s9, by omega, by simp; omega, (upU hU28 hU9).trans hU10 fun x hx e => by omega, h9.upd hU10 (by omega) (by omega) (by omega), l9.1.trans hd7, o10, e7⟩
theorem jkC {f : Nat} (ihs : ∀ g, g ≤ f → WkE g) {b tb : Nat} {s : PS} (h : PR H b tb s) : Wk fQbe [pA b] (.one (.c .ptr)) b tb H (jey (f + 1) s) (NdO H) := by
 have ih := ihs f (Nat.le_refl _)
 intro kp k he hk
 refine cQa5 _ ?_
 unfold vQa5
 simp only [adr_add, NilCk_some]
 unfold jey at he hk
 have hlb := h.lt
 have htl := h.tlt
 have hok := h.hd.2.1
 have hdp := h.dp
 obtain ⟨sl, r1, r2⟩ := h.rd
 refine jam r1 (r2 fun a ha => jbk ha (jcz rfl fun b1 H4 hb1 hE4 hr4 => jaf ((hr4.cell 0).trans rfl) ?_))
 clear r1 r2 sl ha a
 have h4 := h.ext hE4
 have ek : ∀ n : Nat, ((s.hd.kind : Nat) : Int) = n ↔ s.hd.kind = n := fun n => by omega
 have hs4 := hE4.size
 have lf : ∀ {Hx : jaa}, OwL H.size Hx ⟨none, 0, 0⟩ [] := OwnL.nil _ _
 refine Br.mk (fun e => ?_) fun e => ?_
 ·have e : s.hd.kind = 2 := by have := beqI e; omega
  rw [if_pos e] at hk
  obtain ⟨n1, n2, n3⟩ := hok.num e
  refine jbh h4 (by rw [e]; decide) fun H5 hU5 h5 => ?_
  have hs5 := hU5.size
  refine jb4 (t := s.hd) (L := ⟨none, 0, 0⟩) (lf (Hx := H5)) (by omega) fun H6 q hE6 hq o6 => ?_
  have hr6 := hE6.row (hU5.row hr4 (by omega)) fun h => h
  refine jap ((hr6.cell 1).trans rfl) (jkg n1 (by have := h.hd.2.1.len; exact this) n2 n3 fun v H7 hE7 => ?_)
  simp only [NilCk_some, adr_add]
  refine Own.poke (o6.mv (ExU (b := b) hE7) hlb) (op2 := 30) (tx2 := []) (num2 := (jdl 0 s.hd.text : Nat)) (at2 := (s.hd.at' : Nat)) (fun _ => rfl) (by decide) fun H8 hU8 o8 => ?_
  have hqn := (o6.row).1
  have hs6 := hE6.size
  have h7 := (h5.ext hE6).ext hE7
  exact hk _ H8 _ s.take rfl ((upE (upE (upU (ExU hE4) hU5) hE6) hE7).trans hU8 fun c hc e => by omega) (h7.upd hU8 (by omega) (by omega) (by omega)) ⟨q, rfl, by omega, o8⟩
 have e2 : s.hd.kind ≠ 2 := fun g => bneI e (by rw [g]; rfl)
 rw [if_neg e2] at hk he
 refine jbm h4 fun H9 hE9 => ?_
 have h9 := h4.ext hE9
 have hr9 := hE9.row hr4 fun h => h
 have hU9 := upE (ExU (b := b) hE4) hE9
 have hs9 := hU9.size
 cases hn : jau [40] s with
 | true =>
   rw [hn, if_pos rfl] at hk he
   refine (Br_true _ _).2 ((jgB h9 [40]).step (he.mv hU9) fun d3 H10 t s3 ha hU10 h10 _ he => ?_)
   obtain ⟨_, hd20, rfl, rfl⟩ := jbH ha
   simp only [ha, bind_some] at hk
   have hU10' := upU hU9 hU10
   have hs10 := hU10'.size
   refine (ih.ex h10).step he fun d4 H11 y s4 ha hU11 h11 ⟨q4, e4, g4, o4⟩ he => ?_
   subst e4
   have l4 := (jl4 f).ex _ _ _ _ ha
   have l4d : s4.deep = s.deep + 1 := l4.1
   simp only [ha, bind_some] at hk
   refine (w_up h11 (by omega) [41]).step he fun d5 H12 u s5 ha hU12 h12 _ he => ?_
   simp only [ha, bind_some] at hk
   exact hk _ H12 y s5 rfl (upU (upU hU10' hU11) hU12) h12 ⟨q4, rfl, by omega, (o4.mv hU12 (by omega)).mono hs10⟩
 | false =>
 rw [hn, if_neg (by decide)] at hk he
 refine (Br_false _ _).2 ?_
 refine Jn.mk (fun j H' => Ext H9 H' ∧ j = decide (s.hd.kind = 1 ∧ builtinL.contains s.hd.text = true)) (fun kk hkk => ?_) ?_
 ·refine jaf ((hr9.cell 0).trans rfl) (Br.mk (fun e => jap ((hr9.cell 1).trans rfl) (jig fun H14 hE14 => hkk _ _ ⟨hE14, ?_⟩)) fun e => hkk _ _ ⟨.refl _ _, ?_⟩)
  ·have := beqI e
   rw [Bool.eq_iff_iff, decide_eq_true_eq]
   exact ⟨fun g => ⟨by omega, g⟩, fun g => g.2⟩
  ·have := bneI e
   exact (decide_eq_false fun g => this (by rw [g.1]; rfl)).symm
 rintro _ H13 ⟨hE13, rfl⟩
 have h13 := h9.ext hE13
 have hr13 := hE13.row hr9 fun h => h
 have hU13 := upE hU9 hE13
 have hs13 := hU13.size
 refine jaj (fun hc => ?_) fun hc => ?_
 ·rw [if_pos hc] at hk he
  refine jbh h13 (by rw [hc.1]; decide) fun H15 hU15 h15 => ?_
  have hr15 := hU15.row hr13 (by omega)
  have hU15' := upU hU13 hU15
  have hs15 := hU15'.size
  refine jbk hr15.rd_all ((ih.args h15).step (he.mv hU15') fun L H16 l s6 ha hU16 h16 ⟨o6, hl6⟩ _ => ?_)
  simp only [ha, bind_some] at hk
  have hr16 := hU16.row hr15 (by omega)
  have hU16' := upU hU15' hU16
  refine jax (jcf hr16) (jaY (o6.mono hs15) hU16'.size fun H17 q hE17 hq o17 => ?_)
  exact hk _ H17 _ s6 rfl (upE hU16' hE17) (h16.ext hE17) ⟨q, rfl, by have := hU16'.size; omega, o17⟩
 rw [if_neg hc] at hk he
 refine jbm h13 fun H18 hE18 => ?_
 have h18 := h13.ext hE18
 have hr18 := hE18.row hr13 fun h => h
 have hU18 := upE hU13 hE18
 have hs18 := hU18.size
 cases hn2 : jau [104, 97, 115] s with
 | true =>
   rw [hn2, if_pos rfl] at hk he
   refine (Br_true _ _).2 (jbh h18 (jbn hn2) fun H19 hU19 h19 => ?_)
   have hU19' := upU hU18 hU19
   refine (jce h19 [40]).step (he.mv hU19') fun d H20 t s1 ha hU20 h20 _ he => ?_
   simp only [ha, bind_some] at hk
   have hU20' := upU hU19' hU20
   have hs20 := hU20'.size
   refine jbk (hU20.row (hU19.row hr18 (by omega)) (by omega)).rd_all (jb4 (L := ⟨none, 0, 0⟩) (lf (Hx := H20)) hs20 fun H21 q hE21 hq o21 => ?_)
   have h21 := h20.ext hE21
   have he20 := he
   refine (jdS h21).step (he.mv (ExU hE21)) fun d H22 t2 s2 ha hU22 h22 e _ => ?_
   subst e
   have ha2 := ha
   simp only [ha, bind_some] at hk
   simp only [NilCk_some, adr_add]
   have hU22' := upU (upE hU20' hE21) hU22
   refine Own.poke (o21.mv hU22 hlb) (op2 := 37) (tx2 := t2.text) (num2 := 0) (at2 := (s.hd.at' : Nat)) (fun _ => rfl) (by decide) fun H23 hU23 o23 => ?_
   have hqn := o23.row.1
   have h23 : PR H23 b tb s2 := h22.upd hU23 (by omega) (by omega) (by omega)
   have hU23' : Upd (· = b) H H23 := hU22'.trans hU23 fun c hc e => by omega
   refine (jce h23 [41]).step (he20.next ha2 ((upU (ExU hE21) hU22).trans hU23 fun c hc e => by omega)) fun d H24 t3 s3 ha hU24 h24 _ he => ?_
   simp only [ha, bind_some] at hk
   exact hk _ H24 _ s3 rfl (upU hU23' hU24) h24 ⟨q, rfl, by omega, o23.mv hU24 hlb⟩
 | false =>
 rw [hn2, if_neg (by decide)] at hk he
 refine (Br_false _ _).2 (jbm h18 fun H25 hE25 => ?_)
 have h25 := h18.ext hE25
 have hr25 := hE25.row hr18 fun h => h
 have hU25 := upE hU18 hE25
 refine Jn.mk (fun j H' => Ext H25 H' ∧ j = (jau [116, 105, 99, 107] s || jau [109, 101] s)) (fun kk hkk => ?_) ?_
 ·cases h1 : jau [116, 105, 99, 107] s with
  | true => exact hkk _ _ ⟨.refl _ _, by rw [h1]; rfl⟩
  | false => exact (Br_false _ _).2 (jbm h25 fun H27 hE27 => hkk _ _ ⟨hE27, by rw [h1]; rfl⟩)
 rintro _ H26 ⟨hE26, rfl⟩
 have h26 := h25.ext hE26
 have hr26 := hE26.row hr25 fun h => h
 have hU26 := upE hU25 hE26
 have hs26 := hU26.size
 refine Br.mk (fun hc => ?_) fun hc => ?_
 ·rw [hc, if_pos rfl] at hk
  have hk0 : s.hd.kind ≠ 0 := by
   rcases Bool.or_eq_true _ _ ▸ hc with g | g
   ·exact jbn g
   ·exact jbn g
  refine jbh h26 hk0 fun H28 hU28 h28 => ?_
  have hU28' := upU hU26 hU28
  refine jaY (L := ⟨none, 0, 0⟩) (lf (Hx := H28)) hU28'.size fun H29 q hE29 hq o29 => ?_
  exact hk _ H29 _ s.take rfl (upE hU28' hE29) (h28.ext hE29) ⟨q, rfl, by have := hU28'.size; omega, o29⟩
 rw [hc, if_neg (by decide)] at hk he
 refine (jdS h26).step (he.mv hU26) fun d H30 t s1 ha hU30 h30 e he => ?_
 subst e
 obtain ⟨_, rfl, rfl⟩ := jeV ha
 simp only [ha, bind_some] at hk
 have hU30' := upU hU26 hU30
 have hr30 := hU30.row hr26 (by omega)
 refine jbm h30 fun H31 hE31 => ?_
 have h31 := h30.ext hE31
 have hr31 := hE31.row hr30 fun h => h
 have hU31 := upE hU30' hE31
 have hs31 := hU31.size
 cases hn3 : jau [40] s.take with
 | true =>
   simp only [hn3, if_true] at hk he
   refine (Br_true _ _).2 (jbk hr31.rd_all ((ih.args h31).step (he.mv (ExU hE31)) fun L H32 l s6 ha hU32 h32 ⟨o6, hl6⟩ _ => ?_))
   simp only [ha, bind_some] at hk
   have hU32' := upU hU31 hU32
   refine jax (jcf (hU32.row hr31 (by omega))) (jaY (o6.mono hs31) hU32'.size fun H33 q hE33 hq o33 => ?_)
   exact hk _ H33 _ s6 rfl (upE hU32' hE33) (h32.ext hE33) ⟨q, rfl, by have := hU32'.size; omega, o33⟩
 | false =>
 simp only [hn3, Bool.false_eq_true, if_false] at hk he
 refine (Br_false _ _).2 (jjo h31 [46] fun H34 hU34 h34 => ?_)
 have hr34 := hU34.row hr31 (by omega)
 have hU34' := upU hU31 hU34
 have hs34 := hU34'.size
 cases hn4 : jau [46] s.take with
 | true =>
   simp only [hn4, if_true] at hk he h34
   refine (Br_true _ _).2 (jbk hr34.rd_all ((jdS h34).step (he.mv (upU (ExU hE31) hU34)) fun d H35 u s2 ha hU35 h35 e _ => ?_))
   subst e
   simp only [ha, bind_some] at hk
   have hr35 := hU35.row hr34 (by omega)
   have hU35' := upU hU34' hU35
   have hs35 := hU35'.size
   refine jax (jcf hr35) (jaY (L := ⟨none, 0, 0⟩) (lf (Hx := H35)) hs35 fun H36 q1 hE36 hq1 o36 => ?_)
   have hr36 := hE36.row hr35 fun h => h
   have hs36 := hE36.size
   refine jax (jcf hr36) (OwnT.lit (qs := [some q1]) (OwnT.one o36) (by omega) rfl fun b2 H37 hb2 hE37 o37 => ?_)
   refine jax (jcf (hE37.row hr36 fun h => h)) (jaY o37 (by have := hE37.size; omega) fun H38 q hE38 hq o38 => ?_)
   exact hk _ H38 _ s2 rfl (upE (upE (upE hU35' hE36) hE37) hE38) (((h35.ext hE36).ext hE37).ext hE38) ⟨q, rfl, by have := hE37.size; omega, o38⟩
 | false =>
   simp only [hn4, Bool.false_eq_true, if_false] at hk h34
   refine (Br_false _ _).2 (jbk hr34.rd_all (jaY (L := ⟨none, 0, 0⟩) (lf (Hx := H34)) hs34 fun H39 q hE39 hq o39 => ?_))
   exact hk _ H39 _ s.take rfl (upE hU34' hE39) (h34.ext hE39) ⟨q, rfl, by omega, o39⟩
theorem jjG {f : Nat} (ihs : ∀ g, g ≤ f → WkE g) {b tb : Nat} {s : PS} (h : PR H b tb s) : Wk fQbd [pA b] (.one (.c .ptr)) b tb H (exP (f + 1) 7 s) (NdO H) := by
 intro kp k he hk
 refine cQa4 _ ?_
 unfold vQa4
 simp only [adr_add, NilCk_some]
 unfold exP at he hk
 rw [if_neg (by decide), if_pos rfl] at he hk
 have hlb := h.lt
 have htl := h.tlt
 have hdp := h.dp
 cases f with
 | zero =>
   refine absurd ?_ he.ne
   unfold unP jey
   split
   ·rfl
   ·split <;> rfl
 | succ g =>
 refine jaq (vs := [jbG [45], jbG [33]]) fun b1 H1 hb1 hE1 hz1 hr1 => ?_
 refine LoopT.mk (fun st H' => ∃ i : Nat, st = (i : Int) ∧ i ≤ 2 ∧ Ext H H' ∧ Row H' b1 jcC [jbG [45], jbG [33]] ∧ (1 ≤ i → jau [45] s = false) ∧ (2 ≤ i → jau [33] s = false)) (fun st _ => 2 - st.toNat) ⟨0, rfl, by decide, hE1, hr1, fun h => by omega, fun h => by omega⟩ ?_
 rintro next _ H2 ⟨i, rfl, hi, hE2, hr2, hn1, hn2⟩ hnext
 have h2 := h.ext hE2
 refine jaj (fun hlt => ?_) fun hge => ?_
 ·have key : ∀ (w : Txt), (i = 0 ∧ w = [45]) ∨ (i = 1 ∧ w = [33]) → (jau w s = true → (if jau [45] s = true then unP (g + 1) [45] s else if jau [33] s = true then unP (g + 1) [33] s else jey (g + 1) s) = unP (g + 1) w s) → (jau w s = false → (1 ≤ i + 1 → jau [45] s = false) ∧ (2 ≤ i + 1 → jau [33] s = false)) → jar H2 ⟨b1, i, none⟩ = some (jbG w) →
   IxA 1 ⟨some (adr b1), 2, 2⟩ (i : Int) fun a1 => Ld .str a1 H2 fun x1 => CallT Pg jfB [pA b, .string x1] (.one (.c .bool)) H2 fun r1 H3 => Br r1 (
    CallE Pg jmh [pA b, .string x1] (.one (.agg [(.int .i64), .str, (.int .i64)])) H3 kp fun (r2 : Int × ByteArray × Int) H4 =>
    Nw #[.int .i64 0, .string ByteArray.empty, .int .i64 0] jbP H4 fun b2 H5 =>
    St ⟨b2, 0, none⟩ (.int .i64 r2.1) H5 fun H6 =>
    St ⟨b2, 1, none⟩ (.string r2.2.1) H6 fun H7 =>
    St ⟨b2, 2, none⟩ (.int .i64 r2.2.2) H7 fun H8 =>
    LdC [(.int .i64), .str, (.int .i64)] (adr b2) H8 fun (c1 : Int × ByteArray × Int) =>
    CallE Pg fQbd [pA b] (.one (.c .ptr)) H8 kp fun (r3 : Option Addr) H9 =>
    Stab [(⟨b2, 0, none⟩, .int .i64 c1.1), (⟨b2, 1, none⟩, .string c1.2.1), (⟨b2, 2, none⟩, .int .i64 c1.2.2)] H9 <|
    Nw #[.pointer r3] jbd H9 fun b3 H10 =>
    Stab [(⟨b2, 0, none⟩, .int .i64 c1.1), (⟨b2, 1, none⟩, .string c1.2.1), (⟨b2, 2, none⟩, .int .i64 c1.2.2)] H10 <|
    CallT Pg jhi [.int .i64 34, .agg #[.int .i64 c1.1, .string c1.2.1, .int .i64 c1.2.2], .slice (some (adr b3)) 1 1] (.one (.c .ptr)) H10 fun (r4 : Option Addr) H11 =>
    Ld (.int .i64) ⟨b, 1, none⟩ H11 fun (x2 : Int) =>
    Lt (IntKind.wrap .i64 (x2 - 1)) fun t1 =>
    St ⟨b, 1, none⟩ (.int .i64 t1) H11 fun H12 =>
    k r4 H12) (
    Lt (IntKind.wrap .i64 ((i : Int) + 1)) fun t2 =>
    next t2 H3) := fun w hw hres hno hc => by
   refine jgc (by omega) (by rcases hw with ⟨e, _⟩ | ⟨e, _⟩ <;> omega) ?_
   rw [Int.toNat_natCast, Nat.mul_one]
   refine jap hc (jbm h2 fun H3 hE3 => ?_)
   have h3 := h2.ext hE3
   have hU3 := upE (ExU (b := b) hE2) hE3
   have hs3 := hU3.size
   cases hn : jau w s with
   | false =>
     refine (Br_false _ _).2 (Lt.mk (u := ((i + 1 : Nat) : Int)) (by rw [jac] <;> omega) (hnext _ _ ⟨i + 1, rfl, by omega, hE2.trans hE3 fun _ _ h => h, hE3.row hr2 fun h => h, (hno hn).1, (hno hn).2⟩ (by omega)))
   | true =>
     rw [hres hn] at he hk
     unfold unP at he hk
     refine (Br_true _ _).2 ((jgB h3 w).step (he.mv hU3) fun d4 H4 t s1 ha hU4 h4 e he => ?_)
     subst e
     obtain ⟨_, hd20, rfl, rfl⟩ := jbH ha
     simp only [ha, bind_some] at hk
     have hU4' := upU hU3 hU4
     have hs4 := hU4'.size
     refine jcz rfl fun b2 H8 hb2 hE8 hr8 => jbk hr8.rd_all ?_
     have h8 := h4.ext hE8
     have hU8 := upE hU4' hE8
     have hs8 := hU8.size
     refine ((ihs g (by omega)).un h8).step (he.mv (ExU hE8)) fun d9 H9 y s9 ha hU9 h9 ⟨q9, e9, g9, o9⟩ _ => ?_
     subst e9
     have l9 := (jl4 g).ex _ _ _ _ ha
     have l9d : s9.deep = s.deep + 1 := l9.1
     simp only [ha, bind_some] at hk
     have hr9 := hU9.row hr8 (by omega)
     have hU9' := upU hU8 hU9
     have hs9 := hU9'.size
     refine jax (jcf hr9) (OwnT.lit (qs := [some q9]) (OwnT.one (o9.mono hs8)) hs9 rfl fun b3 H10 hb3 hE10 o10 => ?_)
     refine jax (jcf (hE10.row hr9 fun h => h)) (jaY o10 (by have := hE10.size; omega) fun H11 q hE11 hq o11 => ?_)
     have h11 := (h9.ext hE10).ext hE11
     refine jeY h11 (by omega) fun H12 hU12 h12 => ?_
     exact hk _ H12 _ s9.up rfl (upU (upE (upE hU9' hE10) hE11) hU12) h12 ⟨q, rfl, by have := hE10.size; omega, o11.mv hU12 hlb⟩
  rcases (show i = 0 ∨ i = 1 by omega) with rfl | rfl
  ·exact key [45] (.inl ⟨rfl, rfl⟩) (fun e => if_pos e) (fun e => ⟨fun _ => e, fun h => by omega⟩) ((hr2.cell 0).trans rfl)
  ·have := hn1 (by omega)
   exact key [33] (.inr ⟨rfl, rfl⟩) (fun e => by rw [if_neg (by rw [this]; decide), if_pos e]) (fun e => ⟨fun _ => this, fun _ => e⟩) ((hr2.cell 1).trans rfl)
 ·have e1 := hn1 (by omega)
  have e2 := hn2 (by omega)
  rw [e1, e2, if_neg (by decide), if_neg (by decide)] at he hk
  exact jkC (fun g' hg' => ihs g' (by omega)) h2 kp _ (he.mv (ExU hE2)) fun d H' a s' ha hU h' ⟨q, e, g1, o⟩ => hk d H' a s' ha (upU (ExU hE2) hU) h' ⟨q, e, by have := hE2.size; omega, o.mono hE2.size⟩
theorem wkE : ∀ f, f ≤ 2 ^ 30 → WkE f := by
 intro f
 induction f using Nat.strongRecOn with
 | _ f ih =>
   intro hf
   cases f with
   | zero => exact ⟨fun h kp k he => absurd (by unfold exP; rfl) he.ne, fun lv _ _ h kp k he => absurd (by unfold exP; rfl) he.ne, fun h kp k he => absurd (by unfold exP; rfl) he.ne, fun h kp k he => absurd (by unfold je0; rfl) he.ne⟩
   | succ f =>
     have ihs : ∀ g, g ≤ f → WkE g := fun g hg => ih g (by omega) (by omega)
     exact ⟨fun h => ex_cond ihs h, fun lv h1 h2 h => jk9 ihs lv h1 h2 (fun _ => jjG ihs h) h, fun h => jjG ihs h, fun h => ex_args (by omega) ihs h⟩
end
section
open Hc Hc.Lex Hc.Syn
variable {H : jaa}
theorem Wk.st {B : jaa} {α β : Type} {f : FuncId} {args : List Value} {r : RTy} {b tb : Nat} {A : R α} {Rel : α → r.den → jaa → Prop} (w : Wk f args r b tb H A Rel) {res : R β} {kp : Value → jaa → Prop} (heB : EP b B res kp) (hU : Upd (· = b) B H) {F : α → PS → R β} (hres : res = A.bind F)
 {k : r.den → jaa → Prop} (hk : ∀ d H' a s', res = F a s' → A = some (.ok (a, s')) → Upd (· = b) B H' → Upd (· = b) H H' → PR H' b tb s' → Rel a d H' → k d H') : CallE Pg f args r H kp k :=
 w kp k ((heB.mv hU).to hres).bad fun d H' a s' ha hU' hR hrel => hk d H' a s' (by rw [hres, ha]; rfl) ha (upU hU hU') hU' hR hrel
theorem jb5 {B H0 : jaa} {b tb q : Nat} {s : PS} {op num at' : Int} {tx : Txt} {ns : List Nd} {qs : List (Option Nat)} (hB : Upd (· = b) B H) (hb : b < B.size) (htb : tb < B.size) (ho : Ow B.size H0 (.mk op tx num [] at') q) (h0 : B.size ≤ H0.size) (hU : Upd (· = b) H0 H) (hP : PR H b tb s)
 (hT : OwT H0.size H ns qs) {m : Nat} (hm : qs.length = m) {K : jaa → Prop} (hk : ∀ H2, Upd (· = b) B H2 → PR H2 b tb s → Ow B.size H2 (.mk op tx num ns at') q → K H2) :
 Nw ⟨qs.map jcy⟩ jbd H fun b1 H1 => St ⟨q, 3, none⟩ (.slice (some (adr b1)) m m) H1 K := by
 have hs := hU.size
 refine OwnT.lit hT hs hm fun b1 H1 hb1 hE1 o1 => ?_
 have hq := ho.row.1
 refine Own.give (L := ⟨some (adr b1), m, m⟩) ho (upE hU hE1) (fun x hx _ => by omega) o1 h0 fun H2 hU2 o2 => hk H2 ((upE hB hE1).trans hU2 fun c hc e => by omega) ((hP.ext hE1).upd hU2 (by omega) (by omega) (by omega)) o2
theorem jfF {B : jaa} {b tb q : Nat} {s : PS} {op num at' : Int} {tx : Txt} {ns : List Nd} (hB : Upd (· = b) B H) (hb : b < B.size) (htb : tb < B.size) (ho : Ow B.size H (.mk op tx num ns at') q) (hP : PR H b tb s) (tx2 : Txt) {K : jaa → Prop}
 (hk : ∀ H2, Upd (· = b) B H2 → Upd (· = q) H H2 → PR H2 b tb s → Ow B.size H2 (.mk op tx2 num ns at') q → K H2) : St ⟨q, 1, none⟩ (jbG tx2) H K := by
 have hq := ho.row.1
 exact Own.poke ho (op2 := op) (tx2 := tx2) (num2 := num) (at2 := at') (fun _ => rfl) (by decide) fun H2 hU2 o2 => hk H2 (hB.trans hU2 fun c hc e => by omega) hU2 (hP.upd hU2 (by omega) (by omega) (by omega)) o2
theorem jbV {B : jaa} {β : Type} {f : FuncId} {args : List Value} {b tb q : Nat} {op num at' : Int} {tx : Txt} {ns : List Nd} {A : R Nd} {res : R β} {kp : Value → jaa → Prop} {F : Nd → PS → R β} (hB : Upd (· = b) B H) (hb : b < B.size) (htb : tb < B.size) (ho : Ow B.size H (.mk op tx num ns at') q) (hlen : ns.length ≤ 2 ^ 40)
 (w : Wk f args (.one (.c .ptr)) b tb H A (NdO H)) (heB : EP b B res kp) (hres : res = A.bind F) {K : jaa → Prop}
 (hk : ∀ n s' H8, res = F n s' → A = some (.ok (n, s')) → Upd (· = b) B H8 → PR H8 b tb s' → Ow B.size H8 (.mk op tx num (ns ++ [n]) at') q → K H8) :
 Ld .sl ⟨q, 3, none⟩ H fun x1 => CallE Pg f args (.one (.c .ptr)) H kp fun (r4 : Option Addr) H5 => Stab [((⟨q, 3, none⟩ : Addr), .slice x1.a x1.len x1.cap)] H5 <| Nw #[.pointer r4] jbd H5 fun b1 H6 =>
  Stab [((⟨q, 3, none⟩ : Addr), .slice x1.a x1.len x1.cap)] H6 <| App jbd 1 8 #[.pointer none] x1 ⟨some (adr b1), 1, 1⟩ H6 fun l1 H7 => St ⟨q, 3, none⟩ (.slice l1.a l1.len l1.cap) H7 K := by
 obtain ⟨L, g1, g2⟩ := Own.app ho hB.size hlen
 have hs := hB.size
 refine jam (s := L) (g1 (.refl (fun _ => False) H) fun _ _ _ h => h) ?_
 refine w.st heB hB hres fun d H5 n s' e ha hB5 hU5 h5 ⟨q2, e2, k1, o5⟩ => ?_
 subst e2
 have hM : ∀ x, B.size ≤ x → x < H.size → ¬ x = b := fun x hx _ => by omega
 refine jb9 (g1 hU5 hM) (jaq (vs := [jcy (some q2)]) fun b1 H6 hb1 hE6 _ hr6 => jb9 (g1 (upE hU5 hE6) hM) ?_)
 refine g2 (upE hU5 hE6) hM (o5.mv (ExU (b := b) hE6) (by omega)) hr6 fun L' H7 _ hst => hst fun H8 hU8 o8 => ?_
 exact hk n s' H8 e ha ((upE hB5 hE6).trans hU8 fun c hc e => by omega) ((h5.ext hE6).upd hU8 (by omega) (by omega) (by omega)) o8
theorem jjU {α : Type} (A : R α) : A = A.bind jbo := by
 cases A with
 | none => rfl
 | some r => cases r <;> rfl
theorem jbi {α β γ : Type} (A : R α) (F : α → PS → R β) (G : β → PS → R γ) : (A.bind F).bind G = A.bind fun a s => (F a s).bind G := by
 cases A with
 | none => rfl
 | some r => cases r <;> rfl
theorem lfO {lo : Nat} {Hx : jaa} : OwL lo Hx ⟨none, 0, 0⟩ [] := OwnL.nil _ _
theorem w_ended {B : jaa} {b tb : Nat} {s : PS} (h : PR H b tb s) {n : Nd} {q : Nat} (ho : Ow B.size H n q) (hb : b < B.size) : Wk jks [pA b, .pointer (some (adr q))] (.one (.c .ptr)) b tb H (jhw n s) fun n' d H' => n' = n ∧ d = some (adr q) ∧ Ow B.size H' n q := by
 intro kp k he hk
 refine cQaq _ _ ?_
 unfold vQaq
 unfold jhw at he hk
 refine (jce h [59]).step he fun d H1 t s1 ha hU1 h1 _ _ => ?_
 simp only [ha, bind_some] at hk
 exact hk _ H1 n s1 rfl hU1 h1 ⟨rfl, rfl, ho.mv hU1 hb⟩
theorem jbF {lo : Nat} {op num at' : Int} {tx : Txt} {ns : List Nd} {q : Nat} (h : Ow lo H (.mk op tx num ns at') q) : lo ≤ q := h.row.1
variable {F : Nat}
theorem jeZ {B : jaa} {b tb : Nat} {s : PS} (h : PR H b tb s) {n : Nd} {q : Nat} (ho : Ow B.size H n q) (hb : b < B.size) (hq : B.size ≤ q) {res : R Nd} {kp : Value → jaa → Prop} (heB : EP b B res kp) (hB : Upd (· = b) B H) (e : res = jhw n s)
 {k : Option Addr → jaa → Prop} (hk : ∀ d H' a s', res = some (.ok (a, s')) → Upd (· = b) B H' → Upd (· = b) H H' → PR H' b tb s' → NdO B a d H' → k d H') :
 CallE Pg jks [pA b, .pointer (some (adr q))] (.one (.c .ptr)) H kp k :=
 (w_ended h ho hb).st heB hB (e.trans (jjU _)) fun d H9 n9 s9 e9 ha hB9 hU9 h9 ⟨en, ed, o9⟩ => by
  subst en ed
  exact hk _ H9 _ s9 e9 hB9 hU9 h9 ⟨q, rfl, hq, o9⟩
theorem jb2 {B : jaa} {b tb : Nat} {s : PS} (h : PR H b tb s) {n : Nd} {q : Nat} (ho : Ow B.size H n q) (hb : b < B.size) (hq : B.size ≤ q) {res : R Nd} {kp : Value → jaa → Prop} (heB : EP b B res kp) (hB : Upd (· = b) B H) (e : res = jhw n s)
 {k : Option Addr → jaa → Prop} (hk : ∀ d H' a s', res = some (.ok (a, s')) → Upd (· = b) B H' → PR H' b tb s' → NdO B a d H' → k d H') :
 CallE Pg jks [pA b, .pointer (some (adr q))] (.one (.c .ptr)) H kp k := jeZ h ho hb hq heB hB e fun d H' a s' e1 e2 _ => hk d H' a s' e1 e2
theorem st_let (hF : F ≤ 2 ^ 30) {b tb : Nat} {s : PS} (h : PR H b tb s) (h0 : s.hd.kind ≠ 0) : Wk fQa0 [pA b] (.one (.c .ptr)) b tb H (jna F s) (NdO H) := by
 intro kp k he hk
 refine cQar _ ?_
 unfold vQar
 have hlb := h.lt
 have htb := h.tlt.1
 generalize hres : jna F s = res at *
 unfold jna at hres
 refine jbh h h0 fun H1 hU1 h1 => jb4 (t := s.hd) (L := ⟨none, 0, 0⟩) (lo := H.size) lfO hU1.size fun H2 q hE2 hq o2 => ?_
 have hB2 := upE hU1 hE2
 simp only [NilCk_some, adr_add]
 refine (jdS (h1.ext hE2)).st he hB2 hres.symm fun d H3 t s3 e ha hB3 hU3 h3 et => ?_
 subst et
 refine jfF hB3 hlb htb (o2.mv hU3 hlb) h3 t.text fun H4 hB4 _ h4 o4 => ?_
 refine (jce h4 [61]).st he hB4 e fun d H5 u s5 e ha hB5 hU5 h5 _ => ?_
 refine ((wkE F hF).ex h5).st he hB5 e fun d H6 n s6 e ha hB6 hU6 h6 ⟨q6, e6, g6, o6⟩ => ?_
 subst e6
 refine jb5 (qs := [some q6]) hB6 hlb htb (o4.mv hU5 hlb) hB5.size hU6 h6 (OwnT.one o6) rfl fun H8 hB8 h8 o8 => ?_
 exact jb2 h8 o8 hlb (jbF o8) he hB8 e hk
theorem jlC {b tb : Nat} {s : PS} (h : PR H b tb s) (h0 : s.hd.kind ≠ 0) : Wk fQa6 [pA b] (.one (.c .ptr)) b tb H (jdc s) (NdO H) := by
 intro kp k he hk
 refine cQay _ ?_
 unfold vQay
 have hlb := h.lt
 have htb := h.tlt.1
 generalize hres : jdc s = res at *
 unfold jdc at hres
 refine jbh h h0 fun H1 hU1 h1 => jb4 (t := s.hd) (L := ⟨none, 0, 0⟩) (lo := H.size) lfO hU1.size fun H2 q hE2 hq o2 => ?_
 have hB2 := upE hU1 hE2
 simp only [NilCk_some, adr_add]
 refine (jdS (h1.ext hE2)).st he hB2 hres.symm fun d H3 t s3 e ha hB3 hU3 h3 et => ?_
 subst et
 refine jfF hB3 hlb htb (o2.mv hU3 hlb) h3 t.text fun H4 hB4 _ h4 o4 => ?_
 exact jb2 h4 o4 hlb (jbF o4) he hB4 e hk
theorem jkN (hF : F ≤ 2 ^ 30) {b tb : Nat} {s : PS} (h : PR H b tb s) (h0 : s.hd.kind ≠ 0) : Wk fQa8 [pA b] (.one (.c .ptr)) b tb H (jcW F s) (NdO H) := by
 intro kp k he hk
 refine cQa0 _ ?_
 unfold vQa0
 have hlb := h.lt
 have htb := h.tlt.1
 generalize hres : jcW F s = res at *
 unfold jcW at hres
 refine jbh h h0 fun H1 hU1 h1 => jb4 (t := s.hd) (L := ⟨none, 0, 0⟩) (lo := H.size) lfO hU1.size fun H2 q hE2 hq o2 => ?_
 have hB2 := upE hU1 hE2
 simp only [NilCk_some, adr_add]
 refine ((wkE F hF).ex (h1.ext hE2)).st he hB2 hres.symm fun d H6 n s6 e ha hB6 hU6 h6 ⟨q6, e6, g6, o6⟩ => ?_
 subst e6
 refine jb5 (qs := [some q6]) hB6 hlb htb o2 hB2.size hU6 h6 (OwnT.one o6) rfl fun H8 hB8 h8 o8 => ?_
 exact jb2 h8 o8 hlb (jbF o8) he hB8 e hk
theorem st_emit (hF : F ≤ 2 ^ 30) {b tb : Nat} {s : PS} (h : PR H b tb s) (h0 : s.hd.kind ≠ 0) : Wk fQa3 [pA b] (.one (.c .ptr)) b tb H (jh6 F s) (NdO H) := by
 intro kp k he hk
 refine cQav _ ?_
 unfold vQav
 have hlb := h.lt
 have htb := h.tlt.1
 generalize hres : jh6 F s = res at *
 unfold jh6 at hres
 refine jbh h h0 fun H1 hU1 h1 => jb4 (t := s.hd) (L := ⟨none, 0, 0⟩) (lo := H.size) lfO hU1.size fun H2 q hE2 hq o2 => ?_
 have hB2 := upE hU1 hE2
 have hs2 := hB2.size
 simp only [NilCk_some, adr_add]
 refine ((wkE F hF).ex (h1.ext hE2)).st he hB2 hres.symm fun d H3 n s3 e ha hB3 hU3 h3 ⟨q3, e3, g3, o3⟩ => ?_
 subst e3
 refine (jce h3 [44]).st he hB3 e fun d H5 u s5 e ha hB5 hU5 h5 _ => ?_
 have hU25 := upU hU3 hU5
 refine ((wkE F hF).ex h5).st he hB5 e fun d H6 m s6 e ha hB6 hU6 h6 ⟨q6, e6, g6, o6⟩ => ?_
 subst e6
 refine jb5 (qs := [some q3, some q6]) hB6 hlb htb o2 hs2 (upU hU25 hU6) h6 (((OwnT.one o3).mv hU5 (by omega)).more hU6 (by omega) hU25.size o6) rfl fun H8 hB8 h8 o8 => ?_
 exact jb2 h8 o8 hlb (jbF o8) he hB8 e hk
theorem jmv {b tb : Nat} {s : PS} (h : PR H b tb s) (h0 : s.hd.kind ≠ 0) : Wk fQa7 [pA b] (.one (.c .ptr)) b tb H (je6 s) (NdO H) := by
 intro kp k he hk
 refine cQaz _ ?_
 unfold vQaz
 have hlb := h.lt
 have htb := h.tlt.1
 generalize hres : je6 s = res at *
 unfold je6 at hres
 refine jbm h fun H1 hE1 => Jn.mk (fun j H' => H1 = H' ∧ j = if jau [100, 105, 101] s then (20 : Int) else 21) (fun kk hkk => by cases hn : jau [100, 105, 101] s <;> exact hkk _ _ ⟨rfl, by rw [hn]; rfl⟩) ?_
 rintro j _ ⟨rfl, rfl⟩
 refine jbh (h.ext hE1) h0 fun H2 hU2 h2 => ?_
 have hB2 := upU (ExU hE1) hU2
 refine jb4 (t := s.hd) (L := ⟨none, 0, 0⟩) (lo := H.size) lfO hB2.size fun H3 q hE3 hq o3 => ?_
 exact jb2 (h2.ext hE3) o3 hlb (jbF o3) he (upE hB2 hE3) hres.symm hk
theorem st_set (hF : F ≤ 2 ^ 30) {b tb : Nat} {s : PS} (h : PR H b tb s) (h0 : s.hd.kind ≠ 0) : Wk fQaz [pA b] (.one (.c .ptr)) b tb H (jm7 F s) (NdO H) := by
 intro kp k he hk
 refine cQas _ ?_
 unfold vQas
 have hlb := h.lt
 have htb := h.tlt.1
 generalize hres : jm7 F s = res at *
 unfold jm7 at hres
 simp only [adr_add]
 refine jbh h h0 fun H1 hU1 h1 => jcz rfl fun b1 H5 hb1 hE5 r5 => jjo (h1.ext hE5) [46] fun H6 hU6 h6 => ?_
 have hs1 := hU1.size
 have hB6 := upU (upE hU1 hE5) hU6
 have hs6 := hB6.size
 have r6 := hU6.row r5 (by omega)
 cases hn : jau [46] s.take with
 | true =>
   rw [hn, if_pos rfl] at hres h6
   refine (Br_true _ _).2 ((jdS h6).st he hB6 hres.symm fun d H7 t s7 e ha hB7 hU7 h7 et => ?_)
   subst et
   refine jaY (t := t) (L := ⟨none, 0, 0⟩) (lo := H.size) lfO hB7.size fun H8 q hE8 hq o8 => ?_
   have hB8 := upE hB7 hE8
   refine (jce (h7.ext hE8) [61]).st he hB8 e fun d H9 u s9 e ha hB9 hU9 h9 _ => ?_
   have r9 := hU9.row (hE8.row (hU7.row r6 (by omega)) fun h => h) (by omega)
   refine jbk r9.rd_all (((wkE F hF).ex h9).st he hB9 e fun d H10 n s10 e ha hB10 hU10 h10 ⟨q10, e10, g10, o10⟩ => ?_)
   subst e10
   have r10 := hU10.row r9 (by omega)
   refine jax (jcf r10) (OwnT.lit (qs := [some q, some q10]) (((OwnT.one o8).mv hU9 hlb).more hU10 hlb hB9.size o10) hB10.size rfl fun b2 H11 hb2 hE11 o11 => ?_)
   have r11 := hE11.row r10 fun h => h
   refine jax (jcf r11) (jaY o11 (upE hB10 hE11).size fun H12 q' hE12 hq' o12 => ?_)
   have r12 := hE12.row r11 fun h => h
   exact jeZ ((h10.ext hE11).ext hE12) o12 hlb (jbF o12) he (upE (upE hB10 hE11) hE12) e fun d H13 a s13 e13 hB13 hU13 h13 hN => jax (jcf (hU13.row r12 (by omega))) (hk d H13 a s13 e13 hB13 h13 hN)
 | false =>
   rw [hn, if_neg (by decide)] at hres h6
   refine (Br_false _ _).2 ((jce h6 [61]).st he hB6 hres.symm fun d H9 u s9 e ha hB9 hU9 h9 _ => ?_)
   have r9 := hU9.row r6 (by omega)
   refine jbk r9.rd_all (((wkE F hF).ex h9).st he hB9 e fun d H10 n s10 e ha hB10 hU10 h10 ⟨q10, e10, g10, o10⟩ => ?_)
   subst e10
   have r10 := hU10.row r9 (by omega)
   refine jax (jcf r10) (OwnT.lit (qs := [some q10]) (OwnT.one (o10.mono hB9.size)) hB10.size rfl fun b2 H11 hb2 hE11 o11 => ?_)
   have r11 := hE11.row r10 fun h => h
   refine jax (jcf r11) (jaY o11 (upE hB10 hE11).size fun H12 q' hE12 hq' o12 => ?_)
   have r12 := hE12.row r11 fun h => h
   exact jeZ ((h10.ext hE11).ext hE12) o12 hlb (jbF o12) he (upE (upE hB10 hE11) hE12) e fun d H13 a s13 e13 hB13 hU13 h13 hN => jax (jcf (hU13.row r12 (by omega))) (hk d H13 a s13 e13 hB13 h13 hN)
theorem jly {w : Txt} {s s' : PS} {t : Tk} (h : jbY w s = some (.ok (t, s'))) : Lv s s' := by
 obtain ⟨_, _, rfl⟩ := jdZ h; exact ⟨rfl, rfl⟩
theorem jk0 {s s' : PS} {t : Tk} (h : jcS s = some (.ok (t, s'))) : Lv s s' := by
 obtain ⟨_, _, rfl⟩ := jeV h; exact ⟨rfl, rfl⟩
theorem jjk (hF : F ≤ 2 ^ 30) {b tb : Nat} {s : PS} (h : PR H b tb s) : Wk fQbb [pA b] (.one (.c .ptr)) b tb H (jgq F s) (NdO H) := by
 intro kp k he hk
 refine cQa1 _ ?_
 unfold vQa1
 have hlb := h.lt
 have htb := h.tlt.1
 generalize hres : jgq F s = res at *
 unfold jgq at hres
 refine (jdS h).st he (.refl _ _) hres.symm fun d H1 t s1 e ha hB1 _ h1 et => ?_
 have l1 := jk0 ha
 subst et
 refine jaY (t := t) (L := ⟨none, 0, 0⟩) (lo := H.size) lfO hB1.size fun H2 q hE2 hq o2 => ?_
 have hB2 := upE hB1 hE2
 refine (jgB (h1.ext hE2) [123]).st he hB2 e fun d H3 t3 s3 e ha hB3 hU3 h3 _ => ?_
 obtain ⟨_, _, _, e3⟩ := jbH ha
 have hd3 : s3.deep = s.deep + 1 := by rw [e3]; show s1.deep + 1 = _; rw [l1.1]
 simp only [NilCk_some, adr_add]
 have hdp := h.dp
 -- the values
 refine LoopT.ghost (fun m _ H' => ∃ l s', m ≤ F ∧ l.length + m ≤ F ∧ s'.deep = s.deep + 1 ∧ Upd (· = b) H H' ∧ PR H' b tb s' ∧ Ow H.size H' (ja4 23 t l) q ∧ res = (jfk F m l s').bind fun l s => (upP [125] s).bind fun _ s => jbo (ja4 23 t l) s) F ⟨[], s3, Nat.le_refl _, by simp, hd3, hB3, h3, o2.mv hU3 hlb, e⟩ ?_
 rintro next m _ H4 ⟨l, s', hm, hl, hd, hB4, h4, o4, e4⟩ hnext
 cases m with
 | zero => exact absurd e4 (by unfold jfk; exact he.ne)
 | succ m =>
 unfold jfk at e4
 refine jbm h4 fun H5 hE5 => ?_
 have h5 := h4.ext hE5
 have hB5 := upE hB4 hE5
 have o5 := o4.mv (ExU (b := b) hE5) hlb
 cases hn : jau [125] s' with
 | true =>
   rw [hn, if_pos rfl] at e4
   refine (Br_false _ _).2 ((w_up h5 (by omega) [125]).st he hB5 e4 fun d H22 u s22 e ha hB22 hU22 h22 _ => ?_)
   exact hk _ H22 _ s22 e hB22 h22 ⟨q, rfl, jbF o5, o5.mv hU22 hlb⟩
 | false =>
   rw [hn, if_neg (by decide)] at e4
   refine (Br_true _ _).2 ?_
   refine Jn.mk (fun _ H6 => ∃ n s6, s6.deep = s.deep + 1 ∧ Upd (· = b) H H6 ∧ PR H6 b tb s6 ∧ Ow H.size H6 (ja4 23 t (l ++ [n])) q ∧ res = (jfk F m (l ++ [n]) s6).bind fun l s => (upP [125] s).bind fun _ s => jbo (ja4 23 t l) s) (fun kk hkk => ?_) ?_
   rotate_left
   ·rintro _ H6 ⟨n, s6, g1, g2, g3, g4, g5⟩
    exact hnext m _ _ (by omega) ⟨_, s6, by omega, by simp; omega, g1, g2, g3, g4, g5⟩
   simp only [jbi] at e4
   have htl5 := h5.tlt
   have hlb5 := h5.lt
   refine (jdS h5).st he hB5 e4 fun d H7 t7 s7 e ha hB7 hU7 h7 et => ?_
   have l7 := jk0 ha
   subst et
   refine jaY (t := t7) (L := ⟨none, 0, 0⟩) (lo := H5.size) lfO hU7.size fun H8 q6 hE8 hq6 o8 => ?_
   have hB8 := upE hB7 hE8
   have hU58 := upE hU7 hE8
   refine (jce (h7.ext hE8) [58]).st he hB8 e fun d H9 u s9 e ha hB9 hU9 h9 _ => ?_
   have l9 := jly ha
   have hU59 := upU hU58 hU9
   refine ((wkE F hF).ex h9).st he hB9 e fun d H10 n s10 e ha hB10 hU10 h10 ⟨q10, e10, g10, o10⟩ => ?_
   subst e10
   have l10 := (jl4 F).ex _ _ _ _ ha
   simp only [NilCk_some, adr_add]
   refine jb5 (B := H5) (qs := [some q10]) (upU hU59 hU10) hlb5 htl5.1 (o8.mv hU9 hlb5) hU59.size hU10 h10 (OwnT.one o10) rfl fun H12 hU12 h12 o12 => ?_
   have hM : ∀ x, H.size ≤ x → x < H5.size → ¬ x = b := fun x hx _ => by omega
   obtain ⟨L, g1, g2⟩ := Own.app o5 hB5.size (by omega)
   refine jam (g1 hU12 hM) (jaq (vs := [jcy (some q6)]) fun b2 H13 hb2 hE13 _ hr13 => ?_)
   refine g2 (upE hU12 hE13) hM (o12.mv (ExU (b := b) hE13) hlb5) hr13 fun L' H14 _ hst => hst fun H15 hU15 o15 => ?_
   have hs5 := hB5.size
   have h15 : PR H15 b tb s10 := (h12.ext hE13).upd hU15 (by omega) (by omega) (by omega)
   have hB15 : Upd (· = b) H H15 := ((upU hB5 hU12).trans hE13 fun _ _ h => h.elim).trans hU15 fun c hc e => by omega
   refine jbm h15 fun H16 hE16 => ?_
   have h16 := h15.ext hE16
   have hB16 := upE hB15 hE16
   have o16 := o15.mv (ExU (b := b) hE16) hlb
   have hd10 : s10.deep = s.deep + 1 := by rw [l10.1, l9.1, l7.1]; exact hd
   refine Jn.mk (fun _ H17 => ∃ s17, s17.deep = s.deep + 1 ∧ Upd (· = b) H H17 ∧ PR H17 b tb s17 ∧ Ow H.size H17 (ja4 23 t (l ++ [ja4 24 t7 [n]])) q ∧ res = (jfk F m (l ++ [ja4 24 t7 [n]]) s17).bind fun l s => (upP [125] s).bind fun _ s => jbo (ja4 23 t l) s) (fun kk2 hkk2 => ?_) ?_
   rotate_left
   ·rintro _ H17 ⟨s17, g1, g2, g3, g4, g5⟩
    exact hkk _ _ ⟨_, s17, g1, g2, g3, g4, g5⟩
   cases hn2 : jau [125] s10 with
   | true =>
     simp only [hn2, if_true] at e
     exact hkk2 _ _ ⟨s10, hd10, hB16, h16, o16, e⟩
   | false =>
     simp only [hn2, Bool.false_eq_true, if_false, jbi] at e
     refine (Br_true _ _).2 ((jce h16 [44]).st he hB16 e fun d H18 u s18 e ha hB18 hU18 h18 _ => jg6 h18 fun H19 hE19 => ?_)
     have l18 := jly ha
     have h19 := h18.ext hE19
     have hB19 := upE hB18 hE19
     refine Jn.mk (fun _ H' => H19 = H' ∧ jbf s18 = true) (fun kk3 hkk3 => ?_) ?_
     ·cases hn3 : jbf s18 with
      | false =>
        simp only [hn3, Bool.false_eq_true, if_false] at e
        exact jcE (α := Unit) h19 ((he.mv hB19).to e).bad
      | true => exact hkk3 _ _ ⟨rfl, hn3⟩
     ·rintro _ _ ⟨rfl, hn3⟩
      simp only [hn3, if_true] at e
      exact hkk2 _ _ ⟨s18, l18.1.trans hd10, hB19, h19, (o16.mv hU18 hlb).mv (ExU (b := b) hE19) hlb, e⟩
theorem st_add (hF : F ≤ 2 ^ 30) {b tb : Nat} {s : PS} (h : PR H b tb s) (h0 : s.hd.kind ≠ 0) : Wk fQa5 [pA b] (.one (.c .ptr)) b tb H (jnv F s) (NdO H) := by
 intro kp k he hk
 refine cQax _ ?_
 unfold vQax
 have hlb := h.lt
 have htb := h.tlt.1
 generalize hres : jnv F s = res at *
 unfold jnv at hres
 refine jbh h h0 fun H1 hU1 h1 => jb4 (t := s.hd) (L := ⟨none, 0, 0⟩) (lo := H.size) lfO hU1.size fun H2 q hE2 hq o2 => ?_
 have hB2 := upE hU1 hE2
 simp only [NilCk_some, adr_add]
 refine (jjk hF (h1.ext hE2)).st he hB2 hres.symm fun d H6 n s6 e ha hB6 hU6 h6 ⟨q6, e6, g6, o6⟩ => ?_
 subst e6
 refine jb5 (qs := [some q6]) hB6 hlb htb o2 hB2.size hU6 h6 (OwnT.one o6) rfl fun H8 hB8 h8 o8 => ?_
 exact jb2 h8 o8 hlb (jbF o8) he hB8 e hk
theorem jmM (hF : F ≤ 2 ^ 30) {b tb : Nat} {s : PS} (h : PR H b tb s) (h0 : s.hd.kind ≠ 0) : Wk fQa4 [pA b] (.one (.c .ptr)) b tb H (jfd F s) (NdO H) := by
 intro kp k he hk
 refine cQaw _ ?_
 unfold vQaw
 have hlb := h.lt
 have htb := h.tlt.1
 generalize hres : jfd F s = res at *
 unfold jfd at hres
 refine jbh h h0 fun H1 hU1 h1 => jb4 (t := s.hd) (L := ⟨none, 0, 0⟩) (lo := H.size) lfO hU1.size fun H2 q hE2 hq o2 => jjo (h1.ext hE2) [59] fun H3 hU3 h3 => ?_
 have hB3 := upU (upE hU1 hE2) hU3
 have o3 := o2.mv hU3 hlb
 simp only [NilCk_some, adr_add]
 cases hn : jau [59] s.take with
 | true =>
   rw [hn, if_pos rfl] at hres h3
   exact hk _ H3 _ _ hres.symm hB3 h3 ⟨q, rfl, jbF o3, o3⟩
 | false =>
 rw [hn, if_neg (by decide)] at hres h3
 refine (Br_false _ _).2 (jbV hB3 hlb htb o3 (by decide) (jjk hF h3) he hres.symm fun n s7 H7 e ha hB7 h7 o7 => ?_)
 refine LoopT.ghost (fun m _ H' => ∃ l s', m ≤ F ∧ l.length + m ≤ F + 1 ∧ Upd (· = b) H H' ∧ PR H' b tb s' ∧ Ow H.size H' (node 17 s.hd l) q ∧ res = (jdO F m l s').bind fun l s2 => jhw (node 17 s.hd l) s2) F ⟨[n], s7, Nat.le_refl _, by simp; omega, hB7, h7, o7, e⟩ ?_
 rintro next m _ H8 ⟨l, s', hm, hl, hB8, h8, o8, e8⟩ hnext
 cases m with
 | zero => exact absurd e8 (by unfold jdO; exact he.ne)
 | succ m =>
 unfold jdO at e8
 refine jjo h8 [44] fun H9 hU9 h9 => ?_
 have hB9 := upU hB8 hU9
 have o9 := o8.mv hU9 hlb
 cases hc : jau [44] s' with
 | true =>
   rw [hc, if_pos rfl] at e8 h9
   rw [jbi] at e8
   refine (Br_true _ _).2 (jbV hB9 hlb htb o9 (by omega) (jjk hF h9) he e8 fun n s7 H7 e ha hB7 h7 o7 => hnext m _ _ (by omega) ⟨_, s7, by omega, by simp; omega, hB7, h7, o7, e⟩)
 | false =>
   rw [hc, if_neg (by decide)] at e8 h9
   exact (Br_false _ _).2 (jb2 h9 o9 hlb (jbF o9) he hB9 e8 hk)
end
end Go.Proofs.YtfpmgpblhhcpgaaGreatDoor
namespace Go.Proofs.YtfpmgpblhhcpgaaGreatDoor.Hc.Syn
set_option maxRecDepth 100000
section
open Go Hc Hc.Lex
abbrev Dp (s s' : PS) : Prop := s'.deep = s.deep
theorem Dp.tr {s s1 s2 : PS} (h : Dp s s1) (h2 : Dp s1 s2) : Dp s s2 := h2.trans h
variable {F : Nat}
theorem jeb {w : Txt} {s s' : PS} {t : Tk} (h : jbY w s = some (.ok (t, s'))) : Dp s s' := by
 obtain ⟨_, _, rfl⟩ := jdZ h; rfl
theorem jfO {s s' : PS} {t : Tk} (h : jcS s = some (.ok (t, s'))) : Dp s s' := by
 obtain ⟨_, _, rfl⟩ := jeV h; rfl
theorem jhf {f lv : Nat} {s s' : PS} {n : Nd} (h : exP f lv s = some (.ok (n, s'))) : Dp s s' := ((jl4 f).ex _ _ _ _ h).1
theorem jeC {s s' : PS} {n m : Nd} (h : jhw n s = some (.ok (m, s'))) : Dp s s' := by
 unfold jhw at h
 obtain ⟨_, s1, h1, h⟩ := jao h
 obtain ⟨_, rfl⟩ := jaI h
 exact jeb h1
theorem jnt {n m : Int} {s s' : PS} {u : Unit} (h : jb8 n m s = some (.ok (u, s'))) : Dp s s' := by
 obtain ⟨_, rfl⟩ := jdx h; rfl
theorem jjW : ∀ {f : Nat} {l l' : List Nd} {s s' : PS}, jfk F f l s = some (.ok (l', s')) → Dp s s'
 | 0, _, _, _, _, h => by simp [jfk] at h
 | f + 1, l, l', s, s', h => by
   unfold jfk at h
   split at h
   ·obtain ⟨_, rfl⟩ := jaI h; rfl
   ·obtain ⟨_, s1, h1, h⟩ := jao h
    obtain ⟨_, s2, h2, h⟩ := jao h
    obtain ⟨_, s3, h3, h⟩ := jao h
    obtain ⟨_, s4, h4, h⟩ := jao h
    refine ((((jfO h1).tr (jeb h2)).tr (jhf h3)).tr ?_).tr (jjW h)
    split at h4
    ·obtain ⟨_, rfl⟩ := jaI h4; rfl
    ·obtain ⟨_, s5, h5, h4⟩ := jao h4
     split at h4
     ·obtain ⟨_, rfl⟩ := jaI h4; exact jeb h5
     ·cases h4
theorem jjj {s s' : PS} {n : Nd} (h : jgq F s = some (.ok (n, s'))) : Dp s s' := by
 unfold jgq at h
 obtain ⟨_, s1, h1, h⟩ := jao h
 obtain ⟨_, s2, h2, h⟩ := jao h
 obtain ⟨_, _, _, rfl⟩ := jbH h2
 obtain ⟨_, s3, h3, h⟩ := jao h
 obtain ⟨_, s4, h4, h⟩ := jao h
 obtain ⟨_, rfl⟩ := jkR h4
 obtain ⟨_, rfl⟩ := jaI h
 have e1 := jfO h1
 have e3 : s3.deep = s1.deep + 1 := jjW h3
 show s3.deep - 1 = _
 rw [e3]
 have : s1.deep = s.deep := e1
 omega
theorem jhT : ∀ {f : Nat} {l l' : List Nd} {s s' : PS}, jdO F f l s = some (.ok (l', s')) → Dp s s'
 | 0, _, _, _, _, h => by simp [jdO] at h
 | f + 1, l, l', s, s', h => by
   unfold jdO at h
   split at h
   ·obtain ⟨_, s1, h1, h⟩ := jao h
    have := jjj h1
    exact (show Dp s s1 from this).tr (jhT h)
   ·obtain ⟨_, rfl⟩ := jaI h; rfl
theorem jfE {s s' : PS} {n : Nd} : (jna F s = some (.ok (n, s')) → Dp s s') ∧ (jh6 F s = some (.ok (n, s')) → Dp s s') ∧ (jfd F s = some (.ok (n, s')) → Dp s s') ∧ (jnv F s = some (.ok (n, s')) → Dp s s') ∧ (jdc s = some (.ok (n, s')) → Dp s s') ∧
 (je6 s = some (.ok (n, s')) → Dp s s') ∧ (jcW F s = some (.ok (n, s')) → Dp s s') ∧ (jm7 F s = some (.ok (n, s')) → Dp s s') := by
 refine ⟨fun h => ?_, fun h => ?_, fun h => ?_, fun h => ?_, fun h => ?_, fun h => ?_, fun h => ?_, fun h => ?_⟩
 ·unfold jna at h
  obtain ⟨_, s1, h1, h⟩ := jao h
  obtain ⟨_, s2, h2, h⟩ := jao h
  obtain ⟨_, s3, h3, h⟩ := jao h
  have := jfO h1
  exact (((show Dp s s1 from this).tr (jeb h2)).tr (jhf h3)).tr (jeC h)
 ·unfold jh6 at h
  obtain ⟨_, s1, h1, h⟩ := jao h
  obtain ⟨_, s2, h2, h⟩ := jao h
  obtain ⟨_, s3, h3, h⟩ := jao h
  have := jhf h1
  exact (((show Dp s s1 from this).tr (jeb h2)).tr (jhf h3)).tr (jeC h)
 ·unfold jfd at h
  split at h
  ·obtain ⟨_, rfl⟩ := jaI h; rfl
  ·obtain ⟨_, s1, h1, h⟩ := jao h
   obtain ⟨_, s2, h2, h⟩ := jao h
   have := jjj h1
   exact ((show Dp s s1 from this).tr (jhT h2)).tr (jeC h)
 ·unfold jnv at h
  obtain ⟨_, s1, h1, h⟩ := jao h
  have := jjj h1
  exact (show Dp s s1 from this).tr (jeC h)
 ·unfold jdc at h
  obtain ⟨_, s1, h1, h⟩ := jao h
  have := jfO h1
  exact (show Dp s s1 from this).tr (jeC h)
 ·unfold je6 at h
  have := jeC h
  exact this
 ·unfold jcW at h
  obtain ⟨_, s1, h1, h⟩ := jao h
  have := jhf h1
  exact (show Dp s s1 from this).tr (jeC h)
 ·unfold jm7 at h
  split at h
  ·obtain ⟨_, s1, h1, h⟩ := jao h
   obtain ⟨_, s2, h2, h⟩ := jao h
   obtain ⟨_, s3, h3, h⟩ := jao h
   have := jfO h1
   exact (((show Dp s s1 from this).tr (jeb h2)).tr (jhf h3)).tr (jeC h)
  ·obtain ⟨_, s2, h2, h⟩ := jao h
   obtain ⟨_, s3, h3, h⟩ := jao h
   have := jeb h2
   exact ((show Dp s s2 from this).tr (jhf h3)).tr (jeC h)
structure StDp (F f : Nat) : Prop where
 block : ∀ s n s', ja2 F f s = some (.ok (n, s')) → Dp s s'
 stmts : ∀ l s l' s', jcF F f l s = some (.ok (l', s')) → Dp s s'
 stmt : ∀ s n s', jeq F f s = some (.ok (n, s')) → Dp s s'
 branch : ∀ s n s', jbg F f s = some (.ok (n, s')) → Dp s s'
 turns : ∀ s n s', jb7 F f s = some (.ok (n, s')) → Dp s s'
theorem stDp : ∀ f, StDp F f
 | 0 => ⟨fun _ _ _ h => by simp [ja2] at h, fun _ _ _ _ h => by simp [jcF] at h, fun _ _ _ h => by simp [jeq] at h, fun _ _ _ h => by simp [jbg] at h, fun _ _ _ h => by simp [jb7] at h⟩
 | f + 1 => by
   have ih := stDp f
   refine ⟨fun s n s' h => ?_, fun l s l' s' h => ?_, fun s n s' h => ?_, fun s n s' h => ?_, fun s n s' h => ?_⟩
   ·unfold ja2 at h
    obtain ⟨_, s2, h2, h⟩ := jao h
    obtain ⟨_, _, _, rfl⟩ := jbH h2
    obtain ⟨_, s3, h3, h⟩ := jao h
    obtain ⟨_, s4, h4, h⟩ := jao h
    obtain ⟨_, rfl⟩ := jkR h4
    obtain ⟨_, rfl⟩ := jaI h
    have e3 : s3.deep = s.deep + 1 := ih.stmts _ _ _ _ h3
    show s3.deep - 1 = _
    omega
   ·unfold jcF at h
    split at h
    ·obtain ⟨_, rfl⟩ := jaI h; rfl
    ·obtain ⟨_, s1, h1, h⟩ := jao h
     exact (ih.stmt _ _ _ h1).tr (ih.stmts _ _ _ _ h)
   ·unfold jeq at h
    split at h
    ·cases h
    ·obtain ⟨_, s1, h1, h⟩ := jao h
     have e := jnt h1
     have sm := fun s2 s3 m => jfE (F := F) (s := s2) (s' := s3) (n := m)
     have key : Dp s1.more s' := by
      split at h
      ·exact (sm _ _ _).1 h
      ·exact ih.branch _ _ _ h
      ·exact ih.turns _ _ _ h
      ·exact (sm _ _ _).2.1 h
      ·exact (sm _ _ _).2.2.1 h
      ·exact (sm _ _ _).2.2.2.1 h
      ·exact (jfE (F := F)).2.2.2.2.1 h
      ·exact (jfE (F := F)).2.2.2.2.2.1 h
      ·exact (sm _ _ _).2.2.2.2.2.2.1 h
      ·exact (sm _ _ _).2.2.2.2.2.2.2 h
     exact e.tr key
   ·unfold jbg at h
    obtain ⟨_, s1, h1, h⟩ := jao h
    obtain ⟨_, s2, h2, h⟩ := jao h
    have e1 := jhf h1
    have e2 : Dp s s2 := (show Dp s s1 from e1).tr (ih.block _ _ _ h2)
    split at h
    ·split at h
     ·obtain ⟨_, s3, h3, h⟩ := jao h
      obtain ⟨_, s4, h4, h⟩ := jao h
      obtain ⟨_, rfl⟩ := jaI h
      have e3 := jnt h3
      have e4 := ih.branch _ _ _ h4
      exact (e2.tr (show Dp s2 s3 from e3)).tr (show Dp s3 _ from e4)
     ·obtain ⟨_, s4, h4, h⟩ := jao h
      obtain ⟨_, rfl⟩ := jaI h
      have e4 := ih.block _ _ _ h4
      exact e2.tr (show Dp s2 _ from e4)
    ·obtain ⟨_, rfl⟩ := jaI h; exact e2
   ·unfold jb7 at h
    obtain ⟨_, s1, h1, h⟩ := jao h
    obtain ⟨_, s2, h2, h⟩ := jao h
    obtain ⟨_, rfl⟩ := jaI h
    have e1 := jhf h1
    exact (show Dp s s1 from e1).tr (ih.block _ _ _ h2)
end
end Go.Proofs.YtfpmgpblhhcpgaaGreatDoor.Hc.Syn
namespace Go.Proofs.YtfpmgpblhhcpgaaGreatDoor
set_option maxRecDepth 100000
section
open Hc Hc.Lex Hc.Syn
variable {H : jaa} {F : Nat}
abbrev fnV (n : Nat) : Value := if n = 0 then .nilFunc else .func (.func n) #[] #[]
theorem jmG {w : Txt} {k : Value → jaa → Prop} (hk0 : k (fnV (jaD w)) H) : CallT Pg fQay [.string ⟨⟨w⟩⟩] (.one (.c .raw)) H k := by
 refine cQa7 _ ?_
 unfold vQa7
 have hk : ∀ n, jaD w = n → k (fnV n) H := fun n e => e ▸ hk0
 clear hk0
 simp only [Jn, ja3]
 repeat' refine jaj (fun _ => ?_) fun _ => ?_
 ·exact hk 161 (by simp_all [jaD])
 ·exact hk 162 (by simp_all [jaD])
 ·exact (Br_true _ _).2 (hk 163 (by simp_all [jaD]))
 ·exact hk 163 (by simp_all [jaD])
 ·exact hk 164 (by simp_all [jaD])
 ·exact hk 165 (by simp_all [jaD])
 ·exact hk 166 (by simp_all [jaD])
 ·exact hk 167 (by simp_all [jaD])
 ·exact (Br_true _ _).2 (hk 168 (by simp_all [jaD]))
 ·exact hk 168 (by simp_all [jaD])
 ·exact hk 169 (by simp_all [jaD])
 ·exact hk 0 (by simp_all [jaD])
theorem jjX {n : Nat} {k : Bool → Prop} (hk : k (decide (n = 0))) : FnNil (fnV n) k := by
 by_cases h : n = 0
 ·rw [decide_eq_true h] at hk
  exact .inl ⟨if_pos h, hk⟩
 ·rw [decide_eq_false h] at hk
  exact .inr ⟨⟨.func n, #[], #[], if_neg h⟩, hk⟩
theorem jbv {n : Nat} (h : n ≠ 0) {b : Nat} {r : RTy} {kp : Value → jaa → Prop} {k : r.den → jaa → Prop} (hc : CallE Pg n [pA b] r H kp k) : jjv Pg (fnV n) [pA b] r H kp k :=
 ⟨n, #[], #[], if_neg h, by simpa using hc⟩
structure WkS (F f : Nat) : Prop where
 block : ∀ {H : jaa} {b tb : Nat} {s : PS}, PR H b tb s → Wk jns [pA b] (.one (.c .ptr)) b tb H (ja2 F f s) (NdO H)
 stmt : ∀ {H : jaa} {b tb : Nat} {s : PS}, PR H b tb s → Wk fQas [pA b] (.one (.c .ptr)) b tb H (jeq F f s) (NdO H)
 branch : ∀ {H : jaa} {b tb : Nat} {s : PS}, PR H b tb s → s.hd.kind ≠ 0 → Wk fQa1 [pA b] (.one (.c .ptr)) b tb H (jbg F f s) (NdO H)
 turns : ∀ {H : jaa} {b tb : Nat} {s : PS}, PR H b tb s → s.hd.kind ≠ 0 → Wk fQa2 [pA b] (.one (.c .ptr)) b tb H (jb7 F f s) (NdO H)
theorem jir {w : Txt} : jaD w = 0 ∨ jaD w = 161 ∨ jaD w = 162 ∨ jaD w = 163 ∨ jaD w = 164 ∨ jaD w = 165 ∨ jaD w = 166 ∨ jaD w = 167 ∨ jaD w = 168 ∨ jaD w = 169 := by
 unfold jaD
 repeat' split
 all_goals omega
theorem jnz {b tb : Nat} {s : PS} (h : PR H b tb s) (hd : s.stmts ≠ 200) {k : jaa → Prop} (hk : ∀ H', Upd (· = b) H H' → PR H' b tb s.more → k H') :
 Ld (.int .i64) ⟨b, 2, none⟩ H fun x1 => Lt (IntKind.wrap .i64 (x1 + 1)) fun t1 => St ⟨b, 2, none⟩ (.int .i64 t1) H k := by
 obtain ⟨sl, q1, _⟩ := h.row
 have hst := h.st
 exact jaf ((q1.cell 2).trans rfl) (Lt.mk (u := s.stmts + 1) (by rw [jac] <;> omega) (h.poke (s' := s.more) rfl (fun _ => rfl) (by decide) h.dp ⟨by dsimp only [PS.more]; omega, by dsimp only [PS.more]; omega⟩ hk))
theorem st_stmt (hF : F ≤ 2 ^ 30) {f : Nat} (ih : WkS F f) {b tb : Nat} {s : PS} (h : PR H b tb s) : Wk fQas [pA b] (.one (.c .ptr)) b tb H (jeq F (f + 1) s) (NdO H) := by
 intro kp k he hk
 refine cQap _ ?_
 unfold vQap
 have hlb := h.lt
 have htb := h.tlt.1
 generalize hres : jeq F (f + 1) s = res at *
 unfold jeq at hres
 simp only [adr_add, NilCk_some]
 obtain ⟨sl, h1, h2⟩ := h.rd
 refine jam h1 (h2 fun a ha => jap (jdQ ha).2.1 (jmG ?_))
 generalize hn : jaD s.hd.text = n at *
 refine Jn.mk (fun j H' => Ext H H' ∧ j = decide (s.hd.kind ≠ 1 ∨ (n = 0 ∧ jbf s = false))) (fun kk hkk => ?_) ?_
 ·refine jam h1 (h2 fun a ha => jaf (jdQ ha).1 (Br.mk (fun e1 => hkk _ _ ⟨.refl _ _, ?_⟩) fun e1 => jjX (jaj (fun e2 => jg6 h fun H2 hE2 => hkk _ _ ⟨hE2, ?_⟩) fun e2 => hkk _ _ ⟨.refl _ _, ?_⟩)))
  ·have e1 : ((s.hd.kind : Nat) : Int) ≠ 1 := by simpa using e1
   exact (decide_eq_true (.inl (by omega))).symm
  ·have e1 : ((s.hd.kind : Nat) : Int) = 1 := by simpa using e1
   cases hb : jbf s with
   | true => exact (decide_eq_false (by rintro (g | ⟨_, g⟩); omega; cases g)).symm
   | false => exact (decide_eq_true (.inr ⟨e2, rfl⟩)).symm
  ·have e1 : ((s.hd.kind : Nat) : Int) = 1 := by simpa using e1
   exact (decide_eq_false (by rintro (g | ⟨g, _⟩); omega; exact e2 g)).symm
 rintro _ H2 ⟨hE2, rfl⟩
 have h2 := h.ext hE2
 have he2 : EP b H2 res kp := he.mv (ExU hE2)
 refine Jn.mk (fun _ H' => H2 = H' ∧ ¬ (s.hd.kind ≠ 1 ∨ (n = 0 ∧ jbf s = false))) (fun kk hkk => jaj (fun e => ?_) fun e => hkk _ _ ⟨rfl, e⟩) ?_
 ·rw [if_pos e] at hres
  exact jcE h2 (he2.to hres.symm)
 rintro _ _ ⟨rfl, e⟩
 rw [if_neg e] at hres
 have hk1 : s.hd.kind ≠ 0 := fun g => e (.inl (by omega))
 obtain ⟨sl2, q1, _⟩ := h2.row
 refine jaf ((q1.cell 2).trans rfl) ((jfJ h2 s.stmts 200).st he (ExU hE2) hres.symm fun d H3 u s3 e3 ha hB3 hU3 h3 eH => ?_)
 subst eH
 obtain ⟨h200, es⟩ := jdx ha
 have es := es.symm
 subst es
 refine jnz h3 h200 fun H4 hU4 h4 => ?_
 have hB4 := upU hB3 hU4
 have hk4 : s.more.hd.kind ≠ 0 := hk1
 have fin : ∀ {A : R Nd} {g : FuncId}, res = A → Wk g [pA b] (.one (.c .ptr)) b tb H4 A (NdO H4) → CallE Pg g [pA b] (.one (.c .ptr)) H4 kp fun r5 H8 => k r5 H8 := fun e w =>
  w.st he hB4 (e.trans (jjU _)) fun d H9 n9 s9 e9 ha hB9 hU9 h9 ⟨q, eq, g1, o⟩ => hk _ H9 _ s9 e9 hB9 h9 ⟨q, eq, by have := hB4.size; omega, o.mono hB4.size⟩
 refine jjX ?_
 have nn : n = 0 ∨ n = 161 ∨ n = 162 ∨ n = 163 ∨ n = 164 ∨ n = 165 ∨ n = 166 ∨ n = 167 ∨ n = 168 ∨ n = 169 := hn ▸ jir
 rcases nn with rfl | rfl | rfl | rfl | rfl | rfl | rfl | rfl | rfl | rfl <;> simp only [hn] at e3
 ·exact (Br_false _ _).2 (fin e3 (st_set hF h4 hk4))
 ·exact (Br_true _ _).2 (jbv (by decide) (fin e3 (st_let hF h4 hk4)))
 ·exact (Br_true _ _).2 (jbv (by decide) (fin e3 (ih.branch h4 hk4)))
 ·exact (Br_true _ _).2 (jbv (by decide) (fin e3 (ih.turns h4 hk4)))
 ·exact (Br_true _ _).2 (jbv (by decide) (fin e3 (st_emit hF h4 hk4)))
 ·exact (Br_true _ _).2 (jbv (by decide) (fin e3 (jmM hF h4 hk4)))
 ·exact (Br_true _ _).2 (jbv (by decide) (fin e3 (st_add hF h4 hk4)))
 ·exact (Br_true _ _).2 (jbv (by decide) (fin e3 (jlC h4 hk4)))
 ·exact (Br_true _ _).2 (jbv (by decide) (fin e3 (jmv h4 hk4)))
 ·exact (Br_true _ _).2 (jbv (by decide) (fin e3 (jkN hF h4 hk4)))
theorem jma (hF : F ≤ 2 ^ 30) {f : Nat} (ih : WkS F f) {b tb : Nat} {s : PS} (h : PR H b tb s) (h0 : s.hd.kind ≠ 0) : Wk fQa2 [pA b] (.one (.c .ptr)) b tb H (jb7 F (f + 1) s) (NdO H) := by
 intro kp k he hk
 refine cQau _ ?_
 unfold vQau
 have hlb := h.lt
 have htb := h.tlt.1
 generalize hres : jb7 F (f + 1) s = res at *
 unfold jb7 at hres
 refine jbm h fun H1 hE1 => Jn.mk (fun j H' => H1 = H' ∧ j = if jau [119, 104, 105, 108, 101] s then (14 : Int) else 15) (fun kk hkk => by cases hn : jau [119, 104, 105, 108, 101] s <;> exact hkk _ _ ⟨rfl, by rw [hn]; rfl⟩) ?_
 rintro j _ ⟨rfl, rfl⟩
 refine jbh (h.ext hE1) h0 fun H2 hU2 h2 => ?_
 have hB2 := upU (ExU hE1) hU2
 refine jb4 (t := s.hd) (L := ⟨none, 0, 0⟩) (lo := H.size) lfO hB2.size fun H3 q hE3 hq o3 => ?_
 have hB3 := upE hB2 hE3
 have hs3 := hB3.size
 simp only [NilCk_some, adr_add]
 refine ((wkE F hF).ex (h2.ext hE3)).st he hB3 hres.symm fun d H4 n s4 e ha hB4 hU4 h4 ⟨q4, e4, g4, o4⟩ => ?_
 subst e4
 refine (ih.block h4).st he hB4 e fun d H6 m s6 e ha hB6 hU6 h6 ⟨q6, e6, g6, o6⟩ => ?_
 subst e6
 refine jb5 (qs := [some q4, some q6]) hB6 hlb htb o3 hs3 (upU hU4 hU6) h6 ((OwnT.one o4).more hU6 (by omega) hU4.size o6) rfl fun H8 hB8 h8 o8 => ?_
 exact hk _ H8 _ _ e hB8 h8 ⟨q, rfl, jbF o8, o8⟩
theorem jkL (hF : F ≤ 2 ^ 30) {f : Nat} (ih : WkS F f) {b tb : Nat} {s : PS} (h : PR H b tb s) (h0 : s.hd.kind ≠ 0) : Wk fQa1 [pA b] (.one (.c .ptr)) b tb H (jbg F (f + 1) s) (NdO H) := by
 intro kp k he hk
 refine cQat _ ?_
 unfold vQat
 have hlb := h.lt
 have htb := h.tlt.1
 generalize hres : jbg F (f + 1) s = res at *
 unfold jbg at hres
 refine jbh h h0 fun H2 hU2 h2 => ?_
 refine jb4 (t := s.hd) (L := ⟨none, 0, 0⟩) (lo := H.size) lfO hU2.size fun H3 q hE3 hq o3 => ?_
 have hB3 := upE hU2 hE3
 have hs3 := hB3.size
 simp only [NilCk_some, adr_add]
 refine ((wkE F hF).ex (h2.ext hE3)).st he hB3 hres.symm fun d H4 n s4 e ha hB4 hU4 h4 ⟨q4, e4, g4, o4⟩ => ?_
 subst e4
 refine (ih.block h4).st he hB4 e fun d H6 m s6 e ha hB6 hU6 h6 ⟨q6, e6, g6, o6⟩ => ?_
 subst e6
 refine jb5 (qs := [some q4, some q6]) hB6 hlb htb o3 hs3 (upU hU4 hU6) h6 ((OwnT.one o4).more hU6 (by omega) hU4.size o6) rfl fun H8 hB8 h8 o8 => ?_
 refine jjo h8 [101, 108, 115, 101] fun H9 hU9 h9 => ?_
 have hB9 := upU hB8 hU9
 have o9 := o8.mv hU9 hlb
 cases hn : jau [101, 108, 115, 101] s6 with
 | false =>
   rw [hn, if_neg (by decide)] at e h9
   exact (Br_true _ _).2 (hk _ H9 _ _ e hB9 h9 ⟨q, rfl, jbF o9, o9⟩)
 | true =>
 rw [hn, if_pos rfl] at e h9
 refine (Br_false _ _).2 (jbm h9 fun H10 hE10 => ?_)
 have hB10 := upE hB9 hE10
 have h10 := h9.ext hE10
 have o10 := o9.mv (ExU (b := b) hE10) hlb
 refine Jn.mk (fun _ H11 => ∃ x s11, res = some (.ok (node 13 s.hd [n, m, x], s11)) ∧ Upd (· = b) H H11 ∧ PR H11 b tb s11 ∧ Ow H.size H11 (node 13 s.hd [n, m, x]) q) (fun kk hkk => ?_) ?_
 rotate_left
 ·rintro _ H11 ⟨x, s11, e11, hB11, h11, o11⟩
  exact hk _ H11 _ _ e11 hB11 h11 ⟨q, rfl, jbF o11, o11⟩
 cases hi : jau [105, 102] s6.take with
 | true =>
   rw [hi, if_pos rfl] at e
   obtain ⟨sl2, q1, _⟩ := h10.row
   refine (Br_true _ _).2 (jaf ((q1.cell 2).trans rfl) ((jfJ h10 s6.take.stmts 200).st he hB10 e fun d H11 u s11 e ha hB11 hU11 h11 eH => ?_))
   subst eH
   obtain ⟨h200, es⟩ := jdx ha
   have es := es.symm
   subst es
   refine jnz h11 h200 fun H12 hU12 h12 => ?_
   refine jbV (upU hB11 hU12) hlb htb (o10.mv hU12 hlb) (by show 2 ≤ _; decide) (ih.branch h12 (jbn hi)) he e fun x s13 H13 e _ hB13 h13 o13 => ?_
   exact hkk _ _ ⟨x, s13, e, hB13, h13, o13⟩
 | false =>
   rw [hi, if_neg (by decide)] at e
   refine (Br_false _ _).2 (jbV hB10 hlb htb o10 (by show 2 ≤ _; decide) (ih.block h10) he e fun x s13 H13 e _ hB13 h13 o13 => ?_)
   exact hkk _ _ ⟨x, s13, e, hB13, h13, o13⟩
theorem jmd {f : Nat} (hf : f ≤ 2 ^ 30) (ihs : ∀ g, g ≤ f → WkS F g) {b tb : Nat} {s : PS} (h : PR H b tb s) : Wk jns [pA b] (.one (.c .ptr)) b tb H (ja2 F (f + 1) s) (NdO H) := by
 intro kp k he hk
 refine cQao _ ?_
 unfold vQao
 have hlb := h.lt
 have htb := h.tlt.1
 generalize hres : ja2 F (f + 1) s = res at *
 unfold ja2 at hres
 refine (jgB h [123]).st he (.refl _ _) hres.symm fun d H1 t s1 e ha hB1 hU1 h1 et => ?_
 subst et
 obtain ⟨_, _, _, e1⟩ := jbH ha
 have hd1 : s1.deep = s.deep + 1 := by rw [e1]
 have hdp := h.dp
 refine jb4 (t := t) (L := ⟨none, 0, 0⟩) (lo := H.size) lfO hB1.size fun H2 q hE2 hq o2 => ?_
 have hB2 := upE hB1 hE2
 simp only [NilCk_some, adr_add]
 refine LoopT.ghost (fun m _ H' => ∃ l s', m ≤ f ∧ l.length + m ≤ f ∧ s'.deep = s.deep + 1 ∧ Upd (· = b) H H' ∧ PR H' b tb s' ∧ Ow H.size H' (node 5 t l) q ∧ res = (jcF F m l s').bind fun l s => (upP [125] s).bind fun _ s => jbo (node 5 t l) s) f ⟨[], s1, Nat.le_refl _, by simp, hd1, hB2, h1.ext hE2, o2, e⟩ ?_
 rintro next m _ H4 ⟨l, s', hm, hl, hd, hB4, h4, o4, e4⟩ hnext
 cases m with
 | zero => exact absurd e4 (by unfold jcF; exact he.ne)
 | succ m =>
 unfold jcF at e4
 refine jbm h4 fun H5 hE5 => ?_
 have h5 := h4.ext hE5
 have hB5 := upE hB4 hE5
 have o5 := o4.mv (ExU (b := b) hE5) hlb
 cases hn : jau [125] s' with
 | true =>
   rw [hn, if_pos rfl] at e4
   refine (Br_false _ _).2 ((w_up h5 (by omega) [125]).st he hB5 e4 fun d H22 u s22 e ha hB22 hU22 h22 _ => ?_)
   exact hk _ H22 _ s22 e hB22 h22 ⟨q, rfl, jbF o5, o5.mv hU22 hlb⟩
 | false =>
   rw [hn, if_neg (by decide), jbi] at e4
   refine (Br_true _ _).2 (jbV hB5 hlb htb o5 (by omega) ((ihs m (by omega)).stmt h5) he e4 fun n s7 H7 e ha hB7 h7 o7 => hnext m _ _ (by omega) ⟨_, s7, by omega, by simp; omega, ((stDp m).stmt _ _ _ ha).trans hd, hB7, h7, o7, e⟩)
theorem wkS (hF : F ≤ 2 ^ 30) : ∀ f, f ≤ 2 ^ 30 → WkS F f := by
 intro f
 induction f using Nat.strongRecOn with
 | _ f ih =>
   intro hf
   cases f with
   | zero => exact ⟨fun h kp k he => absurd (by unfold ja2; rfl) he.ne, fun h kp k he => absurd (by unfold jeq; rfl) he.ne, fun h _ kp k he => absurd (by unfold jbg; rfl) he.ne, fun h _ kp k he => absurd (by unfold jb7; rfl) he.ne⟩
   | succ f =>
     have ihs : ∀ g, g ≤ f → WkS F g := fun g hg => ih g (by omega) (by omega)
     exact ⟨fun h => jmd (by omega) ihs h, fun h => st_stmt hF (ihs f (Nat.le_refl _)) h, fun h h0 => jkL hF (ihs f (Nat.le_refl _)) h h0, fun h h0 => jma hF (ihs f (Nat.le_refl _)) h h0⟩
end
end Go.Proofs.YtfpmgpblhhcpgaaGreatDoor
namespace Go.Proofs.YtfpmgpblhhcpgaaGreatDoor.Hc.Syn
set_option maxRecDepth 100000
section
open Go Hc Hc.Lex
variable {TN TP : TypeId} {H H' : jaa} {lo mid : Nat} {A : Nat → Prop}
theorem TrL.at' {n : Nd} {ys : List Nd} : ∀ {xs : List Nd} {qs : List (Option Nat)} {fp : List Nat}, TrL TN TP H (xs ++ n :: ys) qs fp → ∃ qx q qy fx f fy, qs = qx ++ q :: qy ∧ qx.length = xs.length ∧ fp = fx ++ (f ++ fy) ∧ TrL TN TP H xs qx fx ∧ TrR TN TP H n q f ∧ TrL TN TP H ys qy fy
 | [], _, _, ⟨q, qs', f1, f2, e1, e2, h1, h2⟩ => ⟨[], q, qs', [], f1, f2, e1, rfl, e2, ⟨rfl, rfl⟩, h1, h2⟩
 | m :: xs, _, _, ⟨q, qs', f1, f2, e1, e2, h1, h2⟩ => by
   obtain ⟨qx, q', qy, fx, f, fy, r1, r2, r3, r4, r5, r6⟩ := TrL.at' h2
   exact ⟨q :: qx, q', qy, f1 ++ fx, f, fy, by rw [e1, r1]; rfl, by simp [r2], by rw [e2, r3, List.append_assoc], ⟨q, qx, f1, fx, rfl, rfl, h1, r4⟩, r5, r6⟩
theorem TrL.put {n : Nd} {ys : List Nd} {q : Option Nat} {qy : List (Option Nat)} {f fy : List Nat} (hn : TrR TN TP H n q f) (hy : TrL TN TP H ys qy fy) : ∀ {xs : List Nd} {qx : List (Option Nat)} {fx : List Nat}, TrL TN TP H xs qx fx → TrL TN TP H (xs ++ n :: ys) (qx ++ q :: qy) (fx ++ (f ++ fy))
 | [], _, _, ⟨rfl, rfl⟩ => ⟨q, qy, f, fy, rfl, rfl, hn, hy⟩
 | m :: xs, _, _, ⟨q', qs', f1, f2, e1, e2, h1, h2⟩ => ⟨q', qs' ++ q :: qy, f1, f2 ++ (f ++ fy), by rw [e1]; rfl, by rw [e2, List.append_assoc], h1, TrL.put hn hy h2⟩
structure OwnB (TN TP : TypeId) (A : Nat → Prop) (H : jaa) (op : Int) (tx : Txt) (num : Int) (ns : List Nd) (at' : Int) (b : Nat) (L : Sl) : Prop where
 ex : ∃ qs fl, Row H b TN (ndV op tx num L at') ∧ Vec H TP L (qs.map jcy) ∧ TrL TN TP H ns qs fl ∧ (b :: (jbl L ++ fl)).Nodup ∧ ∀ x ∈ b :: (jbl L ++ fl), A x
variable {op num at' : Int} {tx : Txt} {ns : List Nd} {b : Nat} {L : Sl}
theorem Own.toB (h : Own TN TP lo H (.mk op tx num ns at') (some b)) : ∃ L, OwnB TN TP (fun x => lo ≤ x ∧ x < H.size) H op tx num ns at' b L := by
 obtain ⟨fp, h0, h2, h3⟩ := h.ex
 have hlt := h0.lt
 obtain ⟨b', L, qs, fl, hb, hr, hv, hl, rfl⟩ := h0
 cases hb
 exact ⟨L, qs, fl, hr, hv, hl, h2, fun x hx => ⟨h3 x hx, hlt x hx⟩⟩
theorem OwnB.own (h : OwnB TN TP A H op tx num ns at' b L) (hA : ∀ x, A x → lo ≤ x) : Own TN TP lo H (.mk op tx num ns at') (some b) := by
 obtain ⟨qs, fl, hr, hv, hl, h2, h3⟩ := h.ex
 exact ⟨_, ⟨b, L, qs, fl, rfl, hr, hv, hl, rfl⟩, h2, fun x hx => hA x (h3 x hx)⟩
theorem OwnB.mono {A' : Nat → Prop} (h : OwnB TN TP A H op tx num ns at' b L) (hA : ∀ x, A x → x < H.size → A' x) : OwnB TN TP A' H op tx num ns at' b L := by
 obtain ⟨qs, fl, hr, hv, hl, h2, h3⟩ := h.ex
 refine ⟨qs, fl, hr, hv, hl, h2, fun x hx => hA x (h3 x hx) ?_⟩
 rcases List.mem_cons.1 hx with rfl | hx
 ·exact hr.lt
 ·rcases List.mem_append.1 hx with hx | hx
  ·exact (jdp hv x hx).1
  ·exact hl.lt x hx
theorem OwnB.upd {M : Nat → Prop} (h : OwnB TN TP A H op tx num ns at' b L) (hU : Upd M H H') (hM : ∀ x, A x → x < H.size → ¬ M x) : OwnB TN TP A H' op tx num ns at' b L := by
 obtain ⟨qs, fl, hr, hv, hl, h2, h3⟩ := h.ex
 have hlt : ∀ x ∈ b :: (jbl L ++ fl), x < H.size := fun x hx => by
  rcases List.mem_cons.1 hx with rfl | hx
  ·exact hr.lt
  ·rcases List.mem_append.1 hx with hx | hx
   ·exact (jdp hv x hx).1
   ·exact hl.lt x hx
 have hm : ∀ x ∈ b :: (jbl L ++ fl), ¬ M x := fun x hx => hM x (h3 x hx) (hlt x hx)
 exact ⟨qs, fl, hU.row hr (hm b (by simp)), hv.upd hU fun c hc => hm c (by unfold jbl; rw [hc]; simp), hl.upd hU fun x hx => hm x (by simp [hx]), h2, h3⟩
theorem OwnB.len (h : OwnB TN TP A H op tx num ns at' b L) : L.len = ns.length := by
 obtain ⟨qs, fl, _, hv, hl, _, _⟩ := h.ex
 rw [hv.len, List.length_map, hl.len]
theorem OwnB.sl (h : OwnB TN TP A H op tx num ns at' b L) : jar H ⟨b, 3, none⟩ = some (.slice L.a L.len L.cap) := by
 obtain ⟨qs, fl, hr, _⟩ := h.ex
 exact (hr.cell 3).trans rfl
theorem OwnB.in' (h : OwnB TN TP A H op tx num ns at' b L) : A b ∧ b < H.size := by
 obtain ⟨qs, fl, hr, _, _, _, h3⟩ := h.ex
 exact ⟨h3 b (by simp), hr.lt⟩
theorem OwnB.kid {xs ys l : List Nd} {o u a : Int} {t : Txt} (h : OwnB TN TP A H op tx num (xs ++ .mk o t u l a :: ys) at' b L) {i : Int} (hi : i = (xs.length : Nat)) {k : Addr → Prop}
 (hk : ∀ ad c, jar H ad = some (.pointer (some (adr c))) → jar H ⟨c, 4, none⟩ = some (.int .i64 a) → (∀ {v : Int} {K : jaa → Prop}, (∀ H', Upd A H H' → OwnB TN TP A H' op tx num (xs ++ .mk o t u l v :: ys) at' b L → K H') → St ⟨c, 4, none⟩ (.int .i64 v) H K) → k ad) : IxA 1 L i k := by
 obtain ⟨qs, fl, hr, hv, hl, h2, h3⟩ := h.ex
 obtain ⟨qx, q, qy, fx, f, fy, rfl, r2, rfl, r4, r5, r6⟩ := hl.at'
 obtain ⟨c, L2, q2, f2, rfl, hr5, hv5, hl5, rfl⟩ := r5
 refine jcc hv (by omega) (by simp; omega) fun ad hc _ => hk ad c (hc.trans ?_) ((hr5.cell 4).trans rfl) fun {v K} hK => ?_
 ·have e : i.toNat = qx.length := by omega
  rw [e, List.map_append, List.getElem?_append_right (by simp)]
  simp [jcy]
 ·have hc3 := h3 c (by simp)
  refine jay hr5 (by simp) fun H1 hU _ hr1 => hK H1 (hU.mono fun x _ e => by subst e; exact hc3) ?_
  have hne : (c ≠ b ∧ c ∉ jbl L ∧ c ∉ fx ∧ c ∉ fy) ∧ c ∉ jbl L2 ∧ c ∉ f2 := by
   clear hr hv hl hc hr1 hU hK r4 r6 hr5 hv5 hl5 h3 hk
   grind
  obtain ⟨⟨n1, n2, n3, n4⟩, n5, n6⟩ := hne
  exact ⟨qx ++ some c :: qy, fx ++ ((c :: (jbl L2 ++ f2)) ++ fy), hU.row hr (Ne.symm n1), hv.upd hU fun d hd e => n2 (by subst e; unfold jbl; rw [hd]; simp), TrL.put (n := .mk o t u l v) (q := some c) (f := c :: (jbl L2 ++ f2)) ⟨c, L2, q2, f2, rfl, hr1, hv5.upd hU fun d hd e => n5 (by subst e; unfold jbl; rw [hd]; simp), hl5.upd hU fun x hx e => n6 (by subst e; exact hx), rfl⟩ (r6.upd hU fun x hx e => n4 (by subst e; exact hx)) (r4.upd hU fun x hx e => n3 (by subst e; exact hx)), h2, h3⟩
theorem OwnB.app (h : OwnB TN TP A H op tx num ns at' b L) (hA : ∀ x, A x → x < mid) (hmid : mid ≤ H.size) {n : Nd} {q : Option Nat} (hn : Own TN TP mid H n q) (hlen : ns.length ≤ 2 ^ 40) {K : jaa → Prop}
 (hK : ∀ H3, Upd A H H3 → ∀ L', OwnB TN TP (fun x => A x ∨ mid ≤ x) H3 op tx num (ns ++ [n]) at' b L' → K H3) :
 Nw ⟨[jcy q]⟩ TP H fun b2 H1 => App TP 1 8 #[.pointer none] L ⟨some (adr b2), 1, 1⟩ H1 fun L' H2 => St ⟨b, 3, none⟩ (.slice L'.a L'.len L'.cap) H2 K := by
 have hin := h.in'
 have hle := h.sl
 refine jaq (vs := [jcy q]) fun b2 H1 hb2 hE1 _ hr2 => ?_
 have h' := h.upd hE1 fun _ _ _ h => h
 have hs1 := hE1.size
 obtain ⟨qs, fl, hr, hv, hl, h2, h3⟩ := h'.ex
 obtain ⟨f, g1, g2, g3⟩ := (hn.upd hE1 fun _ _ _ h => h).ex
 have hql := hl.len
 refine jfz (vs := qs.map jcy) (ws := [jcy q]) hv hr2.rd_all rfl (fun w hw => by rw [List.mem_singleton.1 hw]; rfl) (by decide) (by simp only [List.length_map, List.length_singleton]; omega) fun L' H2 hv2 hU2 ha hz => ?_
 have hLin : ∀ x, L.a = some (adr x) → x ∈ jbl L := fun x hx => by unfold jbl; rw [hx]; simp
 have hU12 : Upd (· ∈ jbl L) H1 H2 := hU2.mono fun x _ e => hLin x e.1
 have hblk : ∀ x ∈ jbl L', x ∈ jbl L ∨ x = H1.size := fun x hx => by
  have hx' := (jdp hv2 x hx).2
  rcases ha with ⟨e, _⟩ | e
  ·rw [e] at hx'
   exact .inl (hLin x hx')
  ·rw [e] at hx'
   have : H1.size = x := by simpa [adr] using hx'
   exact .inr this.symm
 have hnd := h2
 have hLb : b ∉ jbl L := fun e => (List.nodup_cons.1 h2).1 (List.mem_append_left _ e)
 refine jay (hU12.row hr hLb) (by simp) fun H3 hU3 _ hr3 => hK H3 ?_ L' ?_
 ·exact (hE1.mono fun _ _ h => h.elim).trans ((hU12.mono fun x _ e => h3 x (List.mem_cons_of_mem _ (List.mem_append_left _ e))).trans hU3 fun x _ e => by subst e; exact hin.1) fun _ _ e => e
 have h1lt := hr2.lt
 have hbH1 : b < H1.size := hr.lt
 have l1 : ∀ x ∈ fl, x < H1.size := fun x hx => hl.lt x hx
 have l2 : ∀ x ∈ f, x < H1.size := fun x hx => g1.lt x hx
 have hnb : b ∉ jbl L' := fun hx => by
  rcases hblk b hx with e | e
  ·exact hLb e
  ·omega
 have m1 : ∀ x ∈ jbl L, A x := fun x hx => h3 x (List.mem_cons_of_mem _ (List.mem_append_left _ hx))
 have m2 : ∀ x ∈ fl, A x := fun x hx => h3 x (List.mem_cons_of_mem _ (List.mem_append_right _ hx))
 have hfl1 : ∀ x ∈ fl, x ∉ jbl L := fun x hx e => (List.nodup_append.1 (List.nodup_cons.1 h2).2).2.2 x e x hx rfl
 have hbfl : b ∉ fl := fun e => (List.nodup_cons.1 h2).1 (List.mem_append_right _ e)
 have hM : ∀ x, ¬ x = b → ¬ x ∈ jbl L → ¬ (x = b ∨ x ∈ jbl L) := fun x h1 h2 h => h.elim h1 h2
 have hU13 : Upd (fun x => x = b ∨ x ∈ jbl L) H1 H3 := (hU12.mono fun x _ e => .inr e).trans hU3 fun x _ e => .inl e
 refine ⟨qs ++ [q], fl ++ f, hr3, (by rw [List.map_append]; exact hv2.upd hU3 fun c hc e => hnb (by subst e; unfold jbl; rw [hc]; simp)), TrL.snoc (g1.upd hU13 fun x hx => hM x (fun e => by have := g3 x hx; have := hA b hin.1; omega) fun e => by have := g3 x hx; have := hA x (m1 x e); omega) (hl.upd hU13 fun x hx => hM x (fun e => hbfl (e ▸ hx)) (hfl1 x hx)), ?_, ?_⟩
 ·refine List.nodup_cons.2 ⟨fun hx => ?_, List.nodup_append.2 ⟨?_, List.nodup_append.2 ⟨(List.nodup_append.1 (List.nodup_cons.1 h2).2).2.1, g2, fun x hx y hy e => by have := hA x (m2 x hx); have := g3 y hy; omega⟩, fun x hx y hy e => ?_⟩⟩
  ·rcases List.mem_append.1 hx with hx | hx
   ·exact hnb hx
   ·rcases List.mem_append.1 hx with hx | hx
    ·exact hbfl hx
    ·have := g3 b hx; have := hA b hin.1; omega
  ·unfold jbl; split <;> simp
  ·subst e
   rcases hblk x hx with e | e
   ·rcases List.mem_append.1 hy with hy | hy
    ·exact hfl1 x hy e
    ·have := g3 x hy; have := hA x (m1 x e); omega
   ·rcases List.mem_append.1 hy with hy | hy
    ·have := l1 x hy; omega
    ·have := l2 x hy; omega
 ·intro x hx
  rcases List.mem_cons.1 hx with rfl | hx
  ·exact .inl hin.1
  ·rcases List.mem_append.1 hx with hx | hx
   ·rcases hblk x hx with e | e
    ·exact .inl (m1 x e)
    ·exact .inr (by omega)
   ·rcases List.mem_append.1 hx with hx | hx
    ·exact .inl (m2 x hx)
    ·exact .inr (g3 x hx)
end
end Go.Proofs.YtfpmgpblhhcpgaaGreatDoor.Hc.Syn
namespace Go.Proofs.YtfpmgpblhhcpgaaGreatDoor
set_option maxRecDepth 100000
section
open Hc Hc.Lex Hc.Syn
variable {H : jaa} {F : Nat}
theorem own_len {lo : Nat} {L : Sl} {ns : List Nd} (h : OwL lo H L ns) : L.len = ns.length := by
 obtain ⟨qs, fp, h0, h1, _⟩ := h.ex
 rw [h0.len, List.length_map, h1.len]
theorem jjq (hF : F ≤ 2 ^ 30) {b tb : Nat} {s : PS} (most : Int) (h : PR H b tb s) : Wk fQaj [pA b, .int .i64 most] (.one (.c .sl)) b tb H (jdo most F [] s) (LsO H) := by
 intro kp k he hk
 refine cQan _ _ ?_
 unfold vQan
 have hlb := h.lt
 have htb := h.tlt
 generalize hres : jdo most F [] s = res at *
 refine LoopT.ghost (fun m L H' => ∃ l s', m ≤ F ∧ l.length + m ≤ F ∧ Upd (· = b) H H' ∧ PR H' b tb s' ∧ OwL H.size H' L l ∧ res = jdo most m l s') F ⟨[], s, Nat.le_refl _, by simp, .refl _ _, h, OwnL.nil _ _, hres.symm⟩ ?_
 rintro next m L H1 ⟨l, s', hm, hl, hB1, h1, o1, e⟩ hnext
 cases m with
 | zero => exact absurd e (by unfold jdo; exact he.ne)
 | succ m =>
 unfold jdo at e
 refine jg6 h1 fun H2 hE2 => ?_
 have h2 := h1.ext hE2
 have hB2 := upE hB1 hE2
 have o2 := o1.mv (ExU (b := b) hE2) hlb
 refine Jn.mk (fun _ H' => H2 = H' ∧ jbf s' = true) (fun kk hkk => ?_) ?_
 ·cases hn : jbf s' with
  | false =>
    rw [hn, if_neg (by decide)] at e
    exact jcE h2 ((he.mv hB2).to e)
  | true => exact hkk _ _ ⟨rfl, hn⟩
 rintro _ _ ⟨rfl, hn⟩
 rw [hn, if_pos rfl] at e
 rw [own_len o2]
 refine (jfJ h2 _ most).st he hB2 e fun d H3 u s3 e ha hB3 hU3 h3 eH => ?_
 subst eH
 obtain ⟨_, es⟩ := jdx ha
 have es := es.symm
 subst es
 have hs3 := hB3.size
 refine jbh h3 (jgF hn) fun H4 hU4 h4 => ?_
 refine jaY (t := s'.hd) (L := ⟨none, 0, 0⟩) (lo := H3.size) (OwnL.nil _ _) hU4.size fun H5 q hE5 hq o5 => ?_
 have hU5 := upE hU4 hE5
 refine jhl o2 hU5 hlb hs3 o5 (by omega) fun L1 H6 hU6 o6 => ?_
 have h6 : PR H6 b tb s'.take := (h4.ext hE5).upd hU6 (by omega) (by omega) (by omega)
 have hB6 : Upd (· = b) H H6 := (upU hB3 hU5).trans hU6 fun x hx e => by omega
 refine jjo h6 [44] fun H7 hU7 h7 => ?_
 have hB7 := upU hB6 hU7
 cases hc : jau [44] s'.take with
 | true =>
   rw [hc, if_pos rfl] at e h7
   exact (Br_false _ _).2 (hnext m _ _ (by omega) ⟨_, _, by omega, by simp; omega, hB7, h7, o6.mv hU7 hlb, e⟩)
 | false =>
   rw [hc, if_neg (by decide)] at e h7
   exact (Br_true _ _).2 (hk _ H7 _ _ e hB7 h7 ⟨o6.mv hU7 hlb, by simp; omega⟩)
theorem jjn (hF : F ≤ 2 ^ 30) {b tb : Nat} {s : PS} (h : PR H b tb s) (h0 : s.hd.kind ≠ 0) : Wk fQae [pA b] (.one (.c .ptr)) b tb H (jbW F s) (NdO H) := by
 intro kp k he hk
 refine cQam _ ?_
 unfold vQam
 have hlb := h.lt
 have htb := h.tlt.1
 generalize hres : jbW F s = res at *
 unfold jbW at hres
 simp only [adr_add]
 refine jbh h h0 fun H1 hU1 h1 => jcz rfl fun b1 H5 hb1 hE5 r5 => jaf ((r5.cell 2).trans rfl) ?_
 have hs1 := hU1.size
 have hB5 := upE hU1 hE5
 refine (jdS (h1.ext hE5)).st he hB5 hres.symm fun d H6 t s6 e ha hB6 hU6 h6 et => ?_
 subst et
 have r6 := hU6.row r5 (by omega)
 refine jb9 ((r6.cell 2).trans rfl) (jaY (t := ⟨0, t.text, s.hd.at'⟩) (L := ⟨none, 0, 0⟩) (lo := H.size) lfO hB6.size fun H7 q hE7 hq o7 => ?_)
 have r7 := hE7.row r6 fun h => h
 have hB7 := upE hB6 hE7
 have hs7 := hB7.size
 refine jb9 ((r7.cell 2).trans rfl) ((jce (h6.ext hE7) [40]).st he hB7 e fun d H8 u s8 e ha hB8 hU8 h8 et => ?_)
 subst et
 refine jb4 (t := u) (L := ⟨none, 0, 0⟩) (lo := H7.size) lfO hU8.size fun H9 q2 hE9 hq2 o9 => ?_
 have hB9 := upE hB8 hE9
 have hU9 := upE hU8 hE9
 simp only [NilCk_some, adr_add]
 refine jfF hU9 (by omega) (by have := h8.tlt; have := hB7.size; omega) o9 (h8.ext hE9) [102, 117, 110, 99] fun H10 hU10 hq10 h10 o10 => ?_
 have hs10 := hU10.size
 have hB10 := upU hB7 hU10
 refine jbm h10 fun H11 hE11 => ?_
 have hB11 := upE hB10 hE11
 have hU11 := upE hU10 hE11
 have h11 := h10.ext hE11
 refine Jn.mk (fun _ H12 => ∃ c s12, Upd (· = b) H H12 ∧ Upd (· = b) H7 H12 ∧ PR H12 b tb s12 ∧ Ow H7.size H12 (.mk 3 [102, 117, 110, 99] 0 c (u.at' : Nat)) q2 ∧ res = (jbY [41] s12).bind fun _ s4 => (ja2 F F s4).bind fun b s5 => jbo (.mk 4 t.text 0 [.mk 3 [102, 117, 110, 99] 0 c (u.at' : Nat), b] (s.hd.at' : Nat)) s5) (fun kk hkk => ?_) ?_
 ·cases hn : jau [41] s8 with
  | true =>
    rw [hn, if_pos rfl] at e
    exact (Br_false _ _).2 (hkk _ _ ⟨[], s8, hB11, hU11, h11, o10.mv (ExU (b := b) hE11) (by omega), e⟩)
  | false =>
    rw [hn, if_neg (by decide)] at e
    refine (Br_true _ _).2 ((jjq hF 4 h11).st he hB11 e fun d H13 c s13 e ha hB13 hU13 h13 ⟨o13, _⟩ => ?_)
    have o11 := o10.mv (ExU (b := b) hE11) (by omega)
    have hq2' := o11.row.1
    refine Own.give o11 hU13 (fun x hx _ => by omega) o13 (by have := hU11.size; omega) fun H14 hU14 o14 => ?_
    have ht := h13.tlt
    exact hkk _ _ ⟨c, s13, hB13.trans hU14 fun x hx e => by omega, (upU hU11 hU13).trans hU14 fun x hx e => by omega, h13.upd hU14 (by omega) (by omega) (by omega), o14, e⟩
 ·rintro _ H12 ⟨c, s12, hB12, hU12, h12, o12, e⟩
  refine (jce h12 [41]).st he hB12 e fun d H15 u2 s15 e ha hB15 hU15 h15 _ => ?_
  refine ((wkS hF F hF).block h15).st he hB15 e fun d H16 m s16 e ha hB16 hU16 h16 ⟨q6, e6, g6, o6⟩ => ?_
  subst e6
  have hU715 := upU hU12 hU15
  refine jb5 (qs := [some q2, some q6]) hB16 hlb htb o7 hs7 (upU hU715 hU16) h16 (((OwnT.one o12).mv hU15 (by omega)).more hU16 (by omega) hU715.size o6) rfl fun H18 hB18 h18 o18 => ?_
  exact hk _ H18 _ _ e hB18 h18 ⟨q, rfl, jbF o18, o18⟩
end
end Go.Proofs.YtfpmgpblhhcpgaaGreatDoor
