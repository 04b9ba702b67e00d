/-
 The document's parser: statements, all fuels.
-/
import Derived.Test.YtfpmgpblhhcpgaaGreatDoorRH
import Derived.Test.YtfpmgpblhhcpgaaGreatDoorHcPrnB
import Derived.Test.YtfpmgpblhhcpgaaGreatDoorCard
import Derived.Test.YtfpmgpblhhcpgaaGreatDoorVPri
import Derived.Test.YtfpmgpblhhcpgaaGreatDoorHcLists
import Derived.Test.YtfpmgpblhhcpgaaGreatDoorProg
set_option linter.unusedVariables false
set_option linter.unusedSimpArgs false
namespace Go.Proofs.YtfpmgpblhhcpgaaGreatDoor
set_option maxRecDepth 100000
section
open Hc Hc.Lex Hc.Syn
variable {H B : jaa} {b tb : Nat} {L : List Tk} {σ τ : DS} {F : Nat}
theorem rx_stmt (hF : F ≤ 2 ^ 30) {f : Nat} (ihs : ∀ g, g ≤ f → WdS F g) {s : PS} (h : DR H b tb L (.ok s)) (hne : jbK F (f + 1) s ≠ none) : Wd fQdi [pA b] (.one (.c .ptr)) b tb L H (jbK F (f + 1) s) (NdD H) := by
 intro k hk
 refine cQc7 _ ?_
 unfold vQc7
 simp only [adr_add, NilCk_some]
 have hlb := h.lt
 have htl := h.tlt
 have wE := (wkD F hF).1
 have hG : To (jbK F (f + 1) s) (th (.ok s) fun s => (jbT s).bind fun _ s => jcA F f s) := (To.refl hne).eq stmt_eq
 generalize jbK F (f + 1) s = G at hG hk
 refine Wd.st (jkd h) hG (.refl _ _) fun _ H1 _ τ1 hG hp1 hB1 _ h1 _ => jcN h1 fun H2 hE2 => ?_
 have h2 := h1.ext hE2
 have hB2 := upE hB1 hE2
 have hs2 := hB2.size
 cases τ1 with
 | error e =>
   refine (Br_false _ _).2 (jjG h2 fun t b1 H3 hb1 hE3 hr3 ht hs => jag ((hr3.cell 2).trans rfl) ?_)
   refine jb4 (l := ⟨none, 0, 0⟩) (tx := []) (OwnL.nil H.size _) (by have := hE3.size; omega) fun q H4 hq hE4 _ o4 => jdf ((h2.ext hE3).ext hE4) ((Br_true _ _).2 ?_)
   exact hk _ H4 _ _ (hG.err _) (upE (upE hB2 hE3) hE4) ((h2.ext hE3).ext hE4) ⟨q, rfl, by have := hE3.size; omega, o4⟩
 | ok s1 =>
 obtain ⟨s0, e0, hc0⟩ := hp1.was
 cases e0
 obtain ⟨hbeg, e1⟩ := jhx hc0
 have hbeg1 : jk2 s1 = true := by rw [e1]; exact hbeg
 have hk1 : s1.hd.kind = 1 := by unfold jk2 at hbeg1; rw [Bool.and_eq_true_iff] at hbeg1; exact of_decide_eq_true hbeg1.1
 have hk0 : s1.hd.kind ≠ 0 := by omega
 have hG : To G (jcA F f s1) := hG
 cases hn : jas s1 with
 | true =>
   have : nmD (.ok s1) = true := hn
   rw [this]
   have hG : To G (setD F s1) := hG.eq (by unfold jcA; rw [jiR hn]; exact set_eq hn)
   refine (Br_true _ _).2 (jk0 hF h2 hG.ne _ fun d H3 n τ hp hU h3 ⟨q, e, g, o⟩ => ?_)
   exact hk d H3 n τ (hG.px _ _ hp) (upU hB2 hU) h3 ⟨q, e, by omega, o.mono hs2⟩
 | false =>
 have : nmD (.ok s1) = false := hn
 rw [this]
 have hst : jaz s1.hd.text ≠ 0 := by
  unfold jk2 at hbeg1
  rw [hn, Bool.or_false, Bool.and_eq_true_iff] at hbeg1
  exact of_decide_eq_true hbeg1.2
 refine (Br_false _ _).2 (jjG h2 fun t b1 H3 hb1 hE3 hr3 ht hs => jag ((hr3.cell 2).trans rfl) ?_)
 have hs := hs s1 rfl
 subst hs
 have hs3 := hE3.size
 refine jb4 (l := ⟨none, 0, 0⟩) (tx := []) (OwnL.nil H.size _) (by omega) fun q H4 hq hE4 _ o4 => jdf ((h2.ext hE3).ext hE4) ((Br_false _ _).2 ?_)
 have h4 := (h2.ext hE3).ext hE4
 have hB4 := upE (upE hB2 hE3) hE4
 have hr4 := hE4.row hr3 fun h => h
 have hb1q : b1 < q := by have := hr3.lt; omega
 have hqB : H.size ≤ q := by omega
 have hs4 := hB4.size
 have hkind : ∀ {w : Txt}, s1.hd.text = w → jaf w s1 = true := fun e => by unfold jaf; rw [e, hk1]; simp
 -- the token, and the node's kind
 have nx : ∀ {op : Int} {K : jaa → Prop}, (∀ H6, Upd (· = b) H H6 → DR H6 b tb L (.ok s1.take) → OwD H.size H6 (.mk op [] 0 [] (s1.hd.at' : Nat)) (some q) → K H6) →
  CallT Pg jeF [.pointer (some (adr b))] jlc H4 fun (_ : Int × ByteArray × Int) H26 => St ⟨q, 0, none⟩ (.int .i64 op) H26 fun H27 => K H27 := fun {op K} hK =>
  jaY h4 (fun s' e => by cases e; exact hk0) fun v H5 hU5 h5 _ => jfX (op2 := op) (tx2 := []) (num2 := 0) (at2 := (s1.hd.at' : Nat)) (upU hB4 hU5) hlb htl (o4.mv hU5 hlb) h5 (fun _ => rfl) (by decide) fun H6 hB6 _ h6 o6 => hK H6 hB6 h6 o6
 refine jam ((hr4.cell 1).trans rfl) ?_
 simp only [Jn]
 refine jde (fun e => ?_) fun n1 => ?_
 ·-- if
  have hG : To G (jaD F f s1) := hG.eq (by unfold jcA; rw [e]; rfl)
  refine (ihs f (Nat.le_refl _)).con h4 (fun s' e' => by cases e'; exact hkind e) hG.ne _ fun d H5 n τ hp hU h5 ⟨q5, e5, g5, o5⟩ => ?_
  exact hk d H5 n τ (hG.px _ _ hp) (upU hB4 hU) h5 ⟨q5, e5, by omega, o5.mono hs4⟩
 -- while, repeat
 have turns : ∀ {op : Int}, (s1.hd.text = [119, 104, 105, 108, 101] ∧ op = 14) ∨ (s1.hd.text = [114, 101, 112, 101, 97, 116] ∧ op = 15) → ∀ {H6 : jaa}, Upd (· = b) H H6 → DR H6 b tb L (.ok s1.take) → OwD H.size H6 (.mk op [] 0 [] (s1.hd.at' : Nat)) (some q) →
  Ld .sl ⟨q, 3, none⟩ H6 fun (x6 : Sl) => CallT Pg jh7 [.pointer (some (adr b))] (.one (.c .ptr)) H6 fun (r7 : Option Addr) H17 =>
   Stab [(⟨q, 3, none⟩, .slice x6.a x6.len x6.cap)] H17 <| Nw #[.pointer r7] jbJ H17 fun b3 H18 => Stab [(⟨q, 3, none⟩, .slice x6.a x6.len x6.cap)] H18 <|
   App jbJ 1 8 #[.pointer none] x6 ⟨some (adr b3), 1, 1⟩ H18 fun l1 H19 => St ⟨q, 3, none⟩ (.slice l1.a l1.len l1.cap) H19 fun H20 =>
   Ld .sl ⟨q, 3, none⟩ H20 fun (x7 : Sl) => CallT Pg jly [.pointer (some (adr b))] (.one (.c .ptr)) H20 fun (r8 : Option Addr) H21 =>
   Stab [(⟨q, 3, none⟩, .slice x7.a x7.len x7.cap)] H21 <| Nw #[.pointer r8] jbJ H21 fun b4 H22 => Stab [(⟨q, 3, none⟩, .slice x7.a x7.len x7.cap)] H22 <|
   App jbJ 1 8 #[.pointer none] x7 ⟨some (adr b4), 1, 1⟩ H22 fun l2 H23 => St ⟨q, 3, none⟩ (.slice l2.a l2.len l2.cap) H23 fun H24 => k (some (adr q)) H24 := by
  intro op hop H6 hB6 h6 o6
  cases f with
  | zero => exact absurd (by rcases hop with ⟨e, _⟩ | ⟨e, _⟩ <;> (unfold jcA; rw [e]; rfl)) hG.ne
  | succ f =>
  have hG : To G (th (.ok s1.take) fun s => (exP F 0 s).bind fun c s => (jay F f s).bind fun b s => jaE (.mk op [] 0 [c, b] (s1.hd.at' : Nat)) s) := by
   refine hG.eq ?_
   rcases hop with ⟨e, rfl⟩ | ⟨e, rfl⟩
   ·have : jcA F (f + 1) s1 = jbu F (f + 1) s1 := by unfold jcA; rw [e]; rfl
    rw [this, jbu, hkind e]; rfl
   ·have : jcA F (f + 1) s1 = jbu F (f + 1) s1 := by unfold jcA; rw [e]; rfl
    rw [this, jbu, jeC (hkind e) (v := [119, 104, 105, 108, 101]) (by decide)]; rfl
  refine jcd hB6 h6 o6 hlb htl (by simp) (wE.ex h6 (hG.eq (jan _ _ _)).part) hG fun H8 n τ8 hG hp8 hB8 h8 o8 => ?_
  refine jcd hB8 h8 o8 hlb htl (by simp) ((ihs f (by omega)).blk h8 (hG.eq (jan _ _ _)).part) hG fun H9 m τ9 hG hp9 hB9 h9 o9 => ?_
  exact hk _ H9 _ τ9 hG.ret hB9 h9 ⟨q, rfl, hqB, o9⟩
 refine jde (fun e => ?_) fun n2 => ?_
 ·refine (Br_true _ _).2 (jfX (op2 := 14) (tx2 := []) (num2 := 0) (at2 := (s1.hd.at' : Nat)) hB4 hlb htl o4 h4 (fun _ => rfl) (by decide) fun H5 hB5 hU5 h5 o5 => ?_)
  refine jam (((hU5.row hr4 (by omega)).cell 1).trans rfl) (jde (fun e' => by rw [e] at e'; exact absurd e' (by decide)) fun _ => ?_)
  exact jaY h5 (fun s' e => by cases e; exact hk0) fun v H6 hU6 h6 _ => turns (.inl ⟨e, rfl⟩) (upU hB5 hU6) h6 (o5.mv hU6 hlb)
 rw [jcq]
 refine jaj (fun e => ?_) fun n3 => ?_
 ·have e : s1.hd.text = [114, 101, 112, 101, 97, 116] := e
  refine jfX (op2 := 14) (tx2 := []) (num2 := 0) (at2 := (s1.hd.at' : Nat)) hB4 hlb htl o4 h4 (fun _ => rfl) (by decide) fun H5 hB5 hU5 h5 o5 => ?_
  refine jam (((hU5.row hr4 (by omega)).cell 1).trans rfl) (jde (fun _ => ?_) fun e' => absurd e e')
  refine jfX (op2 := 15) (tx2 := []) (num2 := 0) (at2 := (s1.hd.at' : Nat)) hB5 hlb htl o5 h5 (fun _ => rfl) (by decide) fun H6 hB6 hU6 h6 o6 => ?_
  exact jaY h6 (fun s' e => by cases e; exact hk0) fun v H7 hU7 h7 _ => turns (.inr ⟨e, rfl⟩) (upU hB6 hU7) h7 (o6.mv hU7 hlb)
 have n3 : s1.hd.text ≠ [114, 101, 112, 101, 97, 116] := n3
 have fin : ∀ {H8 : jaa} {n : Nd} {τ : DS}, Upd (· = b) H H8 → DR H8 b tb L τ → OwD H.size H8 n (some q) → To G (th τ (jcs n)) →
  CallT Pg jeK [.pointer (some (adr b)), .string (⟨#[59]⟩ : ByteArray)] (.one (.agg [(.int .i64), .str, (.int .i64)])) H8 fun (_ : Int × ByteArray × Int) H87 => k (some (adr q)) H87 := fun hB8 h8 o8 hG => d_end hB8 h8 hlb o8 hG hk hqB
 refine jde (fun e => ?_) fun n4 => ?_
 ·-- let
  have hG : To G (th (.ok s1.take) fun s => (jaQ s).bind fun t s => (jaA [61] s).bind fun _ s => (exP F 0 s).bind fun n s => jcs (.mk 10 t.text 0 [n] (s1.hd.at' : Nat)) s) := hG.eq (by unfold jcA; rw [e]; rfl)
  refine nx fun H6 hB6 h6 o6 => Wd.st (jco h6) hG hB6 fun _ H7 t τ7 hG hp7 hB7 hU7 h7 et => ?_
  subst et
  refine jfX (op2 := 10) (tx2 := t.text) (num2 := 0) (at2 := (s1.hd.at' : Nat)) hB7 hlb htl (o6.mv hU7 hlb) h7 (fun _ => rfl) (by decide) fun H8 hB8 _ h8 o8 => ?_
  refine Wd.st (jbj h8 [61]) hG hB8 fun _ H9 _ τ9 hG hp9 hB9 hU9 h9 _ => ?_
  refine jcd hB9 h9 (o8.mv hU9 hlb) hlb htl (by simp) (wE.ex h9 (hG.eq (jan _ _ _)).part) hG fun H10 n τ10 hG hp10 hB10 h10 o10 => fin hB10 h10 o10 hG
 refine jde (fun e => ?_) fun n5 => ?_
 ·-- emit
  have hG : To G (th (.ok s1.take) fun s => (exP F 0 s).bind fun a s => (jaA [44] s).bind fun _ s => (exP F 0 s).bind fun b s => jcs (node 16 s1.hd [a, b]) s) := hG.eq (by unfold jcA; rw [e]; rfl)
  refine nx fun H6 hB6 h6 o6 => jcd hB6 h6 o6 hlb htl (by simp) (wE.ex h6 (hG.eq (jan _ _ _)).part) hG fun H8 n τ8 hG hp8 hB8 h8 o8 => ?_
  refine Wd.st (jbj h8 [44]) hG hB8 fun _ H9 _ τ9 hG hp9 hB9 hU9 h9 _ => ?_
  refine jcd hB9 h9 (o8.mv hU9 hlb) hlb htl (by simp) (wE.ex h9 (hG.eq (jan _ _ _)).part) hG fun H10 m τ10 hG hp10 hB10 h10 o10 => fin hB10 h10 o10 hG
 refine jde (fun e => ?_) fun n6 => ?_
 ·-- spawn
  have hG : To G (th (.ok s1.take) fun s => if jaf [59] s then jcs (node 17 s1.hd []) s else spL F s1.hd [] F s) := by
   refine hG.eq ?_
   have : jcA F f s1 = jcL F s1 := by unfold jcA; rw [e]; rfl
   rw [this, jaC]
   unfold jcL
   cases hx : jaf [59] s1.take with
   | true => rw [if_pos rfl, if_pos rfl]; unfold jcs; rw [jgd hx]
   | false => rw [if_neg (by decide), if_neg (by decide)]; unfold spL; rw [ja8]; rfl
  refine nx fun H6 hB6 h6 o6 => ?_
  exact jmX hF (s1 := s1) hB6 h6 hlb htl o6 hG fun H8 l τ hB8 h8 o8 hG => fin hB8 h8 o8 hG
 refine jde (fun e => ?_) fun n7 => ?_
 ·-- add
  have hG : To G (th (.ok s1.take) fun s => (jcr F s).bind fun n s => jcs (node 18 s1.hd [n]) s) := hG.eq (by unfold jcA; rw [e]; rfl)
  refine nx fun H6 hB6 h6 o6 => jcd hB6 h6 o6 hlb htl (by simp) (jmh hF h6 (hG.eq (jan _ _ _)).part) hG fun H8 n τ8 hG hp8 hB8 h8 o8 => fin hB8 h8 o8 hG
 refine jde (fun e => ?_) fun n8 => ?_
 ·-- remove
  have hG : To G (th (.ok s1.take) fun s => (jaQ s).bind fun t s => jcs (.mk 19 t.text 0 [] (s1.hd.at' : Nat)) s) := hG.eq (by unfold jcA; rw [e]; rfl)
  refine nx fun H6 hB6 h6 o6 => Wd.st (jco h6) hG hB6 fun _ H7 t τ7 hG hp7 hB7 hU7 h7 et => ?_
  subst et
  exact jfX (op2 := 19) (tx2 := t.text) (num2 := 0) (at2 := (s1.hd.at' : Nat)) hB7 hlb htl (o6.mv hU7 hlb) h7 (fun _ => rfl) (by decide) fun H8 hB8 _ h8 o8 => fin hB8 h8 o8 hG
 refine jde (fun e => ?_) fun n9 => ?_
 ·-- die
  have hG : To G (th (.ok s1.take) (jcs (node 20 s1.hd []))) := by
   refine hG.eq ?_
   have : jcA F f s1 = jcw s1 := by unfold jcA; rw [e]; rfl
   rw [this, jaC]; unfold jcw; rw [hkind e]; rfl
  exact nx fun H6 hB6 h6 o6 => fin hB6 h6 o6 hG
 refine jde (fun e => ?_) fun n10 => ?_
 ·-- stop
  have hG : To G (th (.ok s1.take) (jcs (node 21 s1.hd []))) := by
   refine hG.eq ?_
   have : jcA F f s1 = jcw s1 := by unfold jcA; rw [e]; rfl
   rw [this, jaC]; unfold jcw; rw [jeC (hkind e) (v := [100, 105, 101]) (by decide)]; rfl
  exact nx fun H6 hB6 h6 o6 => fin hB6 h6 o6 hG
 refine jde (fun e => ?_) fun n11 => ?_
 ·-- return
  have hG : To G (th (.ok s1.take) fun s => (exP F 0 s).bind fun n s => jcs (node 22 s1.hd [n]) s) := hG.eq (by unfold jcA; rw [e]; rfl)
  exact nx fun H6 hB6 h6 o6 => jcd hB6 h6 o6 hlb htl (by simp) (wE.ex h6 (hG.eq (jan _ _ _)).part) hG fun H8 n τ8 hG hp8 hB8 h8 o8 => fin hB8 h8 o8 hG
 ·-- none
  exfalso
  have := beg_starts.2 hst
  unfold begL at this
  simp only [List.mem_cons, List.not_mem_nil, or_false] at this
  rcases this with g | g | g | g | g | g | g | g | g | g | g
  ·exact n4 g
  ·exact n1 g
  ·exact n2 g
  ·exact n3 g
  ·exact n5 g
  ·exact n6 g
  ·exact n7 g
  ·exact n8 g
  ·exact n9 g
  ·exact n10 g
  ·exact n11 g
def elseP (F f : Nat) (t : Tk) (c d : Nd) (s : PS) : R Nd := if jaf [101, 108, 115, 101] s then (jdn s).bind fun _ s => if jaf [105, 102] s then (jaZ s.stmts 200 s).bind fun _ s => (jaD F f s.more).bind fun e s => jaE (node 13 t [c, d, e]) s
 else (jay F f s).bind fun e s => jaE (node 13 t [c, d, e]) s
 else jaE (node 13 t [c, d]) s
theorem jk9 {f : Nat} {s : PS} (h : jaf [105, 102] s = true) : jaD F (f + 1) s = (jaA [105, 102] s).bind fun t s => (exP F 0 s).bind fun c s => (jay F f s).bind fun d s => elseP F f t c d s := by
 rw [jaD, jgd h]; rfl
theorem jl7 {f : Nat} {s : PS} {t : Tk} {c d : Nd} (hb : jk2 s = true) : ((jaZ s.stmts 200 s).bind fun _ s => (jaD F f s.more).bind fun e s => jaE (node 13 t [c, d, e]) s) = (jbT s).bind fun _ s => (jaD F f s).bind fun e s => jaE (node 13 t [c, d, e]) s := by
 unfold jbT
 rw [hb, if_pos rfl, ja8]; rfl
theorem jnY (hF : F ≤ 2 ^ 30) {f : Nat} (blk : ∀ {H : jaa} {b tb : Nat} {L : List Tk} {σ : DS}, DR H b tb L σ → th σ (jay F f) ≠ none → Wd jly [pA b] (.one (.c .ptr)) b tb L H (th σ (jay F f)) (NdD H))
 (h : DR H b tb L σ) (ihc : (∃ s, σ = .ok s) → WdS F f) (hif : ∀ s, σ = .ok s → jaf [105, 102] s = true) (hne : th σ (jaD F (f + 1)) ≠ none) : Wd fQdn [pA b] (.one (.c .ptr)) b tb L H (th σ (jaD F (f + 1))) (NdD H) := by
 intro k hk
 refine cQdc _ ?_
 unfold vQdc
 simp only [adr_add, NilCk_some]
 have hlb := h.lt
 have htl := h.tlt
 have wE := (wkD F hF).1
 have hG : To (th σ (jaD F (f + 1))) (th σ fun s => (jaA [105, 102] s).bind fun t s => (exP F 0 s).bind fun c s => (jay F f s).bind fun d s => elseP F f t c d s) := (To.refl hne).eq (jbY fun s e => jk9 (hif s e))
 generalize th σ (jaD F (f + 1)) = G at hG hk
 refine Wd.st (jbj h [105, 102]) hG (.refl _ _) fun _ H1 t τ1 hG hp1 hB1 _ h1 et => ?_
 subst et
 refine jb4 (l := ⟨none, 0, 0⟩) (tx := []) (at' := (t.at' : Nat)) (OwnL.nil H.size _) hB1.size fun q H2 hq hE2 _ o2 => ?_
 have hB2 := upE hB1 hE2
 have h2 := h1.ext hE2
 have hs1 := hB1.size
 refine jcd hB2 h2 o2 hlb htl (by simp) (wE.ex h2 (hG.eq (jan _ _ _)).part) hG fun H3 c τ3 hG hp3 hB3 h3 o3 => ?_
 refine jcd hB3 h3 o3 hlb htl (by simp) (blk h3 (hG.eq (jan _ _ _)).part) hG fun H4 d τ4 hG hp4 hB4 h4 o4 => ?_
 refine jbM (w := [101, 108, 115, 101]) h4 fun H5 hE5 => ?_
 have h5 := h4.ext hE5
 have hB5 := upE hB4 hE5
 have o5 := o4.mv (ExU (b := b) hE5) hlb
 cases hn : isD [101, 108, 115, 101] τ4 with
 | false => exact (Br_true _ _).2 (hk _ H5 _ τ4 (hG.eq (jjP hn _ _)).ret hB5 h5 ⟨q, rfl, by omega, o5⟩)
 | true =>
   obtain ⟨s4, rfl, hn4⟩ := jez hn
   have hσ : ∃ s, σ = .ok s := by
    obtain ⟨s3, e3, _⟩ := hp4.was
    subst e3
    obtain ⟨s2, e2, _⟩ := hp3.was
    subst e2
    obtain ⟨s1, e1, _⟩ := hp1.was
    exact ⟨s1, e1⟩
   have ih := ihc hσ
   have hG := hG.eq (jgW hn _ _)
   refine (Br_false _ _).2 (jaY h5 (fun s' e => by cases e; exact jaB hn4) fun v H6 hU6 h6 ht6 => ?_)
   have hpn := jcb (.ok s4) v ht6
   have hG : To G (th (.ok s4.take) fun s => if jaf [105, 102] s then (jaZ s.stmts 200 s).bind fun _ s => (jaD F f s.more).bind fun e s => jaE (node 13 t [c, d, e]) s
    else (jay F f s).bind fun e s => jaE (node 13 t [c, d, e]) s) := (hG.eq (jan _ _ _)).step hpn
   have h6 : DR H6 b tb L (.ok s4.take) := h6
   have hB6 := upU hB5 hU6
   refine jbM (w := [105, 102]) h6 fun H7 hE7 => ?_
   have h7 := h6.ext hE7
   have hB7 := upE hB6 hE7
   have o7 := (o5.mv hU6 hlb).mv (ExU (b := b) hE7) hlb
   simp only [Jn]
   cases hi : isD [105, 102] (.ok s4.take) with
   | true =>
     have hi' : jaf [105, 102] s4.take = true := hi
     have hbeg : jk2 s4.take = true := by
      have e := jnT h7.sgh
      have : (begL.any fun w => isD w (.ok s4.take)) = true := List.any_eq_true.2 ⟨[105, 102], by decide, hi⟩
      rw [this] at e; exact e.symm
     have hG := (hG.eq (jgW hi _ _)).eq (show _ = th (.ok s4.take) fun s => (jbT s).bind fun _ s => (jaD F f s).bind fun e s => jaE (node 13 t [c, d, e]) s from jl7 hbeg)
     refine (Br_true _ _).2 (Wd.st (jkd h7) hG hB7 fun _ H8 _ τ8 hG hp8 hB8 hU8 h8 _ => ?_)
     have o8 := o7.mv hU8 hlb
     refine jcd hB8 h8 o8 hlb htl (by simp) (ih.con h8 (fun s' e => ?_) (hG.eq (jan _ _ _)).part) hG fun H9 n τ9 hG hp9 hB9 h9 o9 => hk _ H9 _ τ9 hG.ret hB9 h9 ⟨q, rfl, by omega, o9⟩
     subst e
     obtain ⟨s7, e7, hc7⟩ := hp8.was
     cases e7
     rw [(jhx hc7).2]; exact hi'
   | false =>
     have hG := hG.eq (jjP hi _ _)
     exact (Br_false _ _).2 (jcd hB7 h7 o7 hlb htl (by simp) (blk h7 (hG.eq (jan _ _ _)).part) hG fun H9 n τ9 hG hp9 hB9 h9 o9 => hk _ H9 _ τ9 hG.ret hB9 h9 ⟨q, rfl, by omega, o9⟩)
theorem jjZ {f : Nat} (hf : f ≤ 2 ^ 30) (stm : ∀ g, g ≤ f → ∀ {H : jaa} {b tb : Nat} {L : List Tk} {s : PS}, DR H b tb L (.ok s) → jbK F g s ≠ none → Wd fQdi [pA b] (.one (.c .ptr)) b tb L H (jbK F g s) (NdD H))
 (h : DR H b tb L σ) (hne : th σ (jay F (f + 1)) ≠ none) : Wd jly [pA b] (.one (.c .ptr)) b tb L H (th σ (jay F (f + 1))) (NdD H) := by
 intro k hk
 refine cQc4 _ ?_
 unfold vQc4
 simp only [adr_add, NilCk_some]
 have hlb := h.lt
 have htl := h.tlt
 have h0 := h.dp0
 have hG : To (th σ (jay F (f + 1))) (th σ fun s => (jby [123] s).bind fun t s => (jbz F f [] s).bind fun l s => (upP [125] s).bind fun _ s => jaE (node 5 t l) s) := (To.refl hne).eq (jbY fun s _ => by rw [jay])
 generalize th σ (jay F (f + 1)) = G at hG hk
 refine jn7 (.refl _ _) h [123] hG fun H1 t τ1 hG hp1 hB1 _ h1 => ?_
 have d1 := jj2 hp1 (jod σ)
 refine jb4 (l := ⟨none, 0, 0⟩) (tx := []) (at' := (t.at' : Nat)) (OwnL.nil H.size _) hB1.size fun q H2 hq hE2 _ o2 => ?_
 have hB2 := upE hB1 hE2
 have hs1 := hB1.size
 have hqB : H.size ≤ q := by omega
 refine Jn.mk (fun _ H' => ∃ l τ, Upd (· = b) H H' ∧ DR H' b tb L τ ∧ dpD τ (dp0 σ + 1) ∧ OwD H.size H' (.mk 5 [] 0 l (t.at' : Nat)) (some q) ∧ To G (th τ fun s => (upP [125] s).bind fun _ s => jaE (node 5 t l) s)) (fun kk hkk => ?_) ?_
 rotate_left
 ·rintro _ H3 ⟨l, τ, hB3, h3, d3, o3, hG⟩
  exact d_up hB3 h3 [125] d3 h0 hG fun H9 τ9 hG9 hB9 hU9 h9 => hk _ H9 _ τ9 hG9.ret hB9 h9 ⟨q, rfl, hqB, o3.mv hU9 hlb⟩
 refine LoopT.ghost (fun m _ H' => ∃ l τ, m ≤ f ∧ l.length + m ≤ f ∧ Upd (· = b) H H' ∧ DR H' b tb L τ ∧ dpD τ (dp0 σ + 1) ∧ OwD H.size H' (.mk 5 [] 0 l (t.at' : Nat)) (some q) ∧ To G (th τ fun s => (jbz F m l s).bind fun l s => (upP [125] s).bind fun _ s => jaE (node 5 t l) s)) f ⟨[], τ1, Nat.le_refl _, by simp, hB2, h1.ext hE2, d1, o2, hG⟩ ?_
 rintro next m _ H4 ⟨l, τ, hm, hl, hB4, h4, d4, o4, hG⟩ hnext
 refine jdf h4 ?_
 cases τ with
 | error e => exact (Br_false _ _).2 (hkk _ H4 ⟨l, _, hB4, h4, d4, o4, hG.eq rfl⟩)
 | ok s4 =>
 cases m with
 | zero => exact absurd (by rw [jaC, jbz]; rfl) hG.ne
 | succ m =>
 refine (Br_true _ _).2 (jbM (w := [125]) h4 fun H5 hE5 => ?_)
 have h5 := h4.ext hE5
 have hB5 := upE hB4 hE5
 have o5 := o4.mv (ExU (b := b) hE5) hlb
 cases hn : isD [125] (.ok s4) with
 | true =>
   have hn4 : jaf [125] s4 = true := hn
   refine (Br_true _ _).2 (hkk _ H5 ⟨l, _, hB5, h5, d4, o5, hG.eq ?_⟩)
   rw [jaC, jaC, jbz, hn4]; rfl
 | false =>
   have hn4 : jaf [125] s4 = false := hn
   have hG : To G (th (.ok s4) fun s => (jbK F m s).bind fun n s => (jbz F m (l ++ [n]) s).bind fun l s => (upP [125] s).bind fun _ s => jaE (node 5 t l) s) := by
    refine hG.eq ?_
    rw [jaC, jaC, jbz, hn4, if_neg (by decide), ja8]
   refine (Br_false _ _).2 (jcd hB5 h5 o5 hlb htl (by omega) (stm m (by omega) h5 (hG.eq (jan _ _ _)).part) hG fun H7 n τ7 hG hp7 hB7 h7 o7 => ?_)
   exact hnext m _ _ (by omega) ⟨_, τ7, by omega, by simp; omega, hB7, h7, hp7.dp d4 fun s a s' => (stDp m).stmt s a s', o7, hG⟩
theorem wdS (hF : F ≤ 2 ^ 30) : ∀ f, f ≤ 2 ^ 30 → WdS F f := by
 intro f
 induction f using Nat.strongRecOn with
 | _ f ihs =>
   intro hf
   cases f with
   | zero =>
     have nostm : ∀ g, g ≤ 0 → ∀ {H : jaa} {b tb : Nat} {L : List Tk} {s : PS}, DR H b tb L (.ok s) → jbK F g s ≠ none → Wd fQdi [pA b] (.one (.c .ptr)) b tb L H (jbK F g s) (NdD H) := fun g hg {H b tb L s} h hne => by
      have : g = 0 := by omega
      subst this
      exact absurd (by rw [jbK]) hne
     have blk : ∀ {H : jaa} {b tb : Nat} {L : List Tk} {σ : DS}, DR H b tb L σ → th σ (jay F 0) ≠ none → Wd jly [pA b] (.one (.c .ptr)) b tb L H (th σ (jay F 0)) (NdD H) := fun {H b tb L σ} h hne => by
      cases σ with
      | error e => exact jjZ (F := F) (f := 0) (by decide) nostm h (by rw [jj8]; simp)
      | ok s => exact absurd (by rw [jaC, jay]) hne
     refine ⟨blk, fun {H b tb L s} h hne => nostm 0 (Nat.le_refl _) h hne, fun {H b tb L σ} h hif hne => ?_⟩
     cases σ with
     | error e => exact jnY hF (f := 0) blk h (by rintro ⟨s, e⟩; cases e) hif (by rw [jj8]; simp)
     | ok s => exact absurd (by rw [jaC, jaD]) hne
   | succ f =>
     have ih : ∀ g, g ≤ f → WdS F g := fun g hg => ihs g (by omega) (by omega)
     exact ⟨fun h hne => jjZ (by omega) (fun g hg => (ih g hg).stm) h hne, fun h hne => rx_stmt hF ih h hne, fun h hif hne => jnY hF (ih f (Nat.le_refl _)).blk h (fun _ => ih f (Nat.le_refl _)) hif hne⟩
end
section
open Hc Hc.Lex Hc.Syn
variable {H B : jaa} {b tb : Nat} {L : List Tk} {σ τ : DS} {F : Nat}
def limN (most : Int) (l : List Nd) (s : PS) : R Unit := if jas s = true ∧ (l.length : Int) = most then jc2 102 s else jaE () s
theorem jm0 {most : Int} {f : Nat} {l : List Nd} {s : PS} : jaS most (f + 1) l s = (limN most l s).bind fun _ s => (jaQ s).bind fun t s => if jaf [44] s then (jdn s).bind fun _ s => jaS most f (l ++ [jaq 31 t []]) s else jaE (l ++ [jaq 31 t []]) s := by
 rw [jaS]
 unfold limN jaZ
 cases hn : jas s with
 | false =>
   rw [if_neg (by decide), if_neg (by rintro ⟨g, _⟩; cases g)]
   show _ = (jaQ s).bind _
   unfold jaQ; rw [hn]; rfl
 | true =>
   rw [if_pos rfl]
   by_cases hm : (l.length : Int) = most
   ·rw [if_pos hm, if_pos ⟨rfl, hm⟩]; rfl
   ·rw [if_neg hm, if_neg (fun g => hm g.2)]
    show _ = (jaQ s).bind _
    rw [joc hn]; rfl
theorem DR.few (h : DR H b tb L σ) : ∀ s, σ = .ok s → s.toks.length ≤ 9000 ∧ s.take.toks.length + 1 = s.toks.length := by
 intro s e
 subst e
 obtain ⟨sl, i, pl, bd, ne, st, g1, g2, g3, g4, g5⟩ := h.ex
 have hl := h.tl.len
 have e2 := g5.2.1
 have : s.toks.length = L.length - i := by rw [e2, List.length_drop]
 refine ⟨by omega, ?_⟩
 show s.toks.tail.length + 1 = _
 rw [List.length_tail]; omega
theorem jmz {most m' : Int} (hmm : (most = 4 ∧ m' = 4) ∨ (most = -1 ∧ m' = 8000)) (hF : F ≤ 2 ^ 30) {lo nb : Nat} {op num at' : Int} {tx : Txt} (h : DR H b tb L σ) (o : OwD lo H (.mk op tx num [] at') (some nb)) (hb : b < lo) (htb : tb < lo) (hlo : lo ≤ H.size) (hne : th σ (jaS most F []) ≠ none)
 {k : Unit → jaa → Prop} (hk : ∀ H' l τ, Px (th σ (jaS most F [])) l τ → Upd (fun x => x = b ∨ lo ≤ x) H H' → DR H' b tb L τ → OwD lo H' (.mk op tx num l at') (some nb) → k () H') : CallT Pg fQde [pA b, .pointer (some (adr nb)), .int .i64 m'] (.tup []) H k := by
 refine cQc3 _ _ _ ?_
 unfold vQc3
 simp only [adr_add, NilCk_some]
 have hG := To.refl hne
 generalize hGG : th σ (jaS most F []) = G at hG hk
 refine LoopT.ghost (fun m _ H' => ∃ l τ, m ≤ F ∧ l.length + m ≤ F ∧ (most = 4 → l.length ≤ 4) ∧ (∀ s, τ = .ok s → 2 * l.length + s.toks.length ≤ 9000) ∧ Upd (fun x => x = b ∨ lo ≤ x) H H' ∧ DR H' b tb L τ ∧ OwD lo H' (.mk op tx num l at') (some nb) ∧ To G (th τ (jaS most m l))) F ⟨[], σ, Nat.le_refl _, by simp, fun _ => by simp, fun s e => by have := (h.few s e).1; simpa using this, .refl _ _, h, o, hG.eq hGG.symm⟩ ?_
 rintro next m _ H1 ⟨l, τ, hm, hlm, hl4, hfew, hU1, h1, o1, hG⟩ hnext
 have hs1 := hU1.size
 refine jdf h1 ?_
 cases τ with
 | error e => exact (Br_false _ _).2 (hk H1 l _ (hG.err _) hU1 h1 o1)
 | ok s1 =>
 cases m with
 | zero => exact absurd (by rw [jaC, jaS]) hG.ne
 | succ m =>
 have hfw := hfew s1 rfl
 have hG := hG.eq (show _ = th (.ok s1) fun s => (limN most l s).bind fun _ s => (jaQ s).bind fun t s => if jaf [44] s then (jdn s).bind fun _ s => jaS most m (l ++ [jaq 31 t []]) s else jaE (l ++ [jaq 31 t []]) s from jm0)
 refine (Br_true _ _).2 (jcN h1 fun H2 hE2 => ?_)
 have h2 := h1.ext hE2
 have o2 := jf9 o1 (ExU (b := b) hE2) hb
 have hU2 := jg7 hU1 (jn5 (b := b) (lo := lo) hE2)
 have ho := o2.row
 obtain ⟨hlb, X, hrX, hoX⟩ := ho
 have hlen : X.len = l.length := by
  obtain ⟨qs, fp, g0, g1, _⟩ := hoX.ex
  rw [g0.len, List.length_map, g1.len]
 have hen : nmD (.ok s1) = jas s1 := rfl
 rw [hen]
 refine Jn.mk (fun j H' => H2 = H' ∧ j = decide (jas s1 = true ∧ (l.length : Int) = most)) (fun kk hkk => ?_) ?_
 ·cases hn : jas s1 with
  | false => exact (Br_false _ _).2 (hkk _ _ ⟨rfl, (decide_eq_false (by rintro ⟨g, _⟩; rw [hn] at g; cases g)).symm⟩)
  | true =>
    refine (Br_true _ _).2 (jao ((hrX.cell 3).trans rfl) (hkk _ _ ⟨rfl, ?_⟩))
    rw [Bool.eq_iff_iff, decide_eq_true_eq, decide_eq_true_eq]
    have hpos := (h1.few s1 rfl).2
    rcases hmm with ⟨rfl, rfl⟩ | ⟨rfl, rfl⟩
    ·have := hl4 rfl
     constructor
     ·intro g; exact ⟨hn, by omega⟩
     ·rintro ⟨_, g⟩; omega
    ·constructor
     ·intro g; omega
     ·rintro ⟨_, g⟩; omega
 rintro _ _ ⟨rfl, rfl⟩
 refine Jn.mk (fun _ H' => ∃ τ5, Px (th (.ok s1) (limN most l)) () τ5 ∧ Upd (· = b) H2 H' ∧ DR H' b tb L τ5) (fun kk hkk => ?_) ?_
 ·refine jaj (fun hc => jdB h2 (by decide) fun H3 hU3 h3 => hkk _ _ ⟨_, ?_, hU3, h3⟩) fun hc => hkk _ _ ⟨.ok s1, ?_, .refl _ _, h2⟩
  ·rw [jaC]; unfold limN; rw [if_pos hc]; exact rfl
  ·rw [jaC]; unfold limN; rw [if_neg hc]; exact ⟨rfl, rfl⟩
 rintro _ H5 ⟨τ5, hp5, hU5, h5⟩
 have hG := (hG.eq (jan _ _ _)).step hp5
 have hU05 := jg7 hU2 (jkQ (lo := lo) hU5)
 have o5 := jf9 o2 hU5 hb
 refine jco h5 _ fun _ H7 t τ7 hp7 hU7 h7 et => ?_
 subst et
 have hG := (hG.eq (jan _ _ _)).step hp7
 have o7 := jf9 o5 hU7 hb
 have hU07 := jg7 hU05 (jkQ (lo := lo) hU7)
 have hs7 := hU07.size
 have htok7 : ∀ s, τ7 = .ok s → 2 * l.length + s.toks.length + 1 ≤ 9000 ∧ (most = 4 → l.length + 1 ≤ 4) := by
  intro s e
  subst e
  obtain ⟨s5, e5, hr⟩ := hp7.was
  subst e5
  have : s5 = s1 ∧ ¬ (jas s1 = true ∧ (l.length : Int) = most) := by
   rw [jaC] at hp5
   unfold limN at hp5
   split at hp5
   ·cases hp5
   ·rename_i hc
    obtain ⟨_, g⟩ := hp5
    cases g; exact ⟨rfl, hc⟩
  obtain ⟨rfl, hc⟩ := this
  obtain ⟨hnm, _, rfl⟩ := jdJ hr
  have := (h1.few _ rfl).2
  refine ⟨by omega, fun hm4 => ?_⟩
  have h4 := hl4 hm4
  have : ¬ (l.length : Int) = most := fun g => hc ⟨hnm, g⟩
  omega
 obtain ⟨Y, hc, happ⟩ := o7.app (by omega) (by have := h.tl.len; omega)
 refine jbe rfl fun b1 H8 hb1 hE8 hr8 => ?_
 have no8 : ∀ x, lo ≤ x → x < H7.size → ¬ (fun _ : Nat => False) x := fun _ _ _ h => h
 refine jao (hc hE8 no8) (jam ((hr8.cell 1).trans rfl) (jag ((hr8.cell 2).trans rfl) ?_))
 refine jb4 (l := ⟨none, 0, 0⟩) (tx := t.text) (at' := (t.at' : Nat)) (OwnL.nil H7.size _) hE8.size fun q H9 hq hE9 _ o9 => ?_
 have hE79 := hE8.trans hE9 fun _ _ h => h
 have hr9 := hE9.row hr8 fun h => h
 have stb : ∀ {H' : jaa}, Row H' b1 jbc (jgu t) → hcell H' ⟨nb, 3, none⟩ = some (.slice Y.a Y.len Y.cap) → ∀ x ∈ [((⟨b1, 2, none⟩ : Addr), Value.int .i64 (t.at' : Nat)), (⟨b1, 1, none⟩, .string ⟨⟨t.text⟩⟩), (⟨nb, 3, none⟩, .slice Y.a Y.len Y.cap)], hcell H' x.1 = some x.2 := fun r o x hx => by
  simp only [List.mem_cons, List.not_mem_nil, or_false] at hx
  rcases hx with rfl | rfl | rfl
  ·exact (r.cell 2).trans rfl
  ·exact (r.cell 1).trans rfl
  ·exact o
 refine jaw (stb hr9 (hc hE79 no8)) (jak (vs := [jb3 (some q)]) fun b3 H10 hb3 hE10 _ hr10 => ?_)
 have hEA := hE79.trans hE10 fun _ _ h => h
 have hrA := hE10.row hr9 fun h => h
 refine jaw (stb hrA (hc hEA no8)) ?_
 have hs8 := hE8.size
 refine happ hEA no8 (o9.upd hE10 fun _ _ _ h => h) hr10 fun L' H11 hU11 hK11 => ?_
 have hr11 := hU11.row hrA (by omega)
 refine jaw (fun x hx => ?_) ?_
 ·simp only [List.mem_cons, List.not_mem_nil, or_false] at hx
  rcases hx with rfl | rfl
  ·exact (hr11.cell 2).trans rfl
  ·exact (hr11.cell 1).trans rfl
 refine hK11 fun H12 hU12 o12 => ?_
 have h12 : DR H12 b tb L τ7 := (h7.ext hEA).upd hU12 (by omega) (by omega)
 have hU012 : Upd (fun x => x = b ∨ lo ≤ x) H H12 := jg7 (jg7 hU07 (jn5 hEA)) (hU12.mono fun x _ e => .inr e.1)
 refine jbM (w := [44]) h12 fun H13 hE13 => ?_
 have h13 := h12.ext hE13
 have o13 := jf9 o12 (ExU (b := b) hE13) hb
 have hU13 := jg7 hU012 (jn5 (b := b) (lo := lo) hE13)
 cases hn : isD [44] τ7 with
 | false => exact (Br_true _ _).2 (hk H13 _ _ (hG.eq (jjP hn _ _)).ret hU13 h13 o13)
 | true =>
   obtain ⟨s7, rfl, hn7⟩ := jez hn
   have hG := hG.eq (jgW hn _ _)
   refine (Br_false _ _).2 (jaY h13 (fun s' e => by cases e; exact jaB hn7) fun v H14 hU14 h14 ht14 => ?_)
   have hpn := jcb (.ok s7) v ht14
   have hG : To G (th (.ok s7.take) (jaS most m (l ++ [jaq 31 t []]))) := (hG.eq (jan _ _ _)).step hpn
   have h14 : DR H14 b tb L (.ok s7.take) := h14
   obtain ⟨k1, k2⟩ := htok7 s7 rfl
   have hf7 := (h13.few s7 rfl).2
   exact hnext m _ _ (by omega) ⟨_, _, by omega, by simp; omega, fun e => by have := k2 e; simp; omega, fun s e => by cases e; simp only [List.length_append, List.length_singleton]; omega, jg7 hU13 (jkQ hU14), h14, jf9 o13 hU14 hb, hG⟩
def jcm (F : Nat) (s : PS) : R Nd := (jaA [102, 117, 110, 99] s).bind fun w s => (jaQ s).bind fun t s => (jaA [40] s).bind fun u s => (if jaf [41] s then jaE [] s else jaS 4 F [] s).bind fun c s => (jaA [41] s).bind fun _ s => (jay F F s).bind fun b s => jaE (.mk 4 t.text 0 [.mk 3 [102, 117, 110, 99] 0 c (u.at' : Nat), b] (w.at' : Nat)) s
theorem ji1 {s : PS} (h : jaf [102, 117, 110, 99] s = true) : jbm F s = jcm F s := by unfold jcm; rw [jgd h]; rfl
theorem jjM (hF : F ≤ 2 ^ 30) (h : DR H b tb L σ) (hne : th σ (jcm F) ≠ none) : Wd fQda [pA b] (.one (.c .ptr)) b tb L H (th σ (jcm F)) (NdD H) := by
 intro k hk
 refine cQcz _ ?_
 unfold vQcz
 simp only [adr_add, NilCk_some]
 have hlb := h.lt
 have htl := h.tlt
 have hG : To (th σ (jcm F)) (th σ fun s => (jaA [102, 117, 110, 99] s).bind fun w s => (jaQ s).bind fun t s => (jaA [40] s).bind fun u s => (if jaf [41] s then jaE [] s else jaS 4 F [] s).bind fun c s => (jaA [41] s).bind fun _ s => (jay F F s).bind fun b s => jaE (.mk 4 t.text 0 [.mk 3 [102, 117, 110, 99] 0 c (u.at' : Nat), b] (w.at' : Nat)) s) := To.refl hne
 generalize th σ (jcm F) = G at hG hk
 refine Wd.st (jbj h [102, 117, 110, 99]) hG (.refl _ _) fun _ H1 w τ1 hG _ hB1 _ h1 et => ?_
 subst et
 refine jb4 (l := ⟨none, 0, 0⟩) (tx := []) (at' := (w.at' : Nat)) (OwnL.nil H.size _) hB1.size fun q H2 hq hE2 _ o2 => ?_
 have hB2 := upE hB1 hE2
 have hs1 := hB1.size
 refine Wd.st (jco (h1.ext hE2)) hG hB2 fun _ H3 t τ3 hG _ hB3 hU3 h3 et => ?_
 subst et
 refine jfX (op2 := 4) (tx2 := t.text) (num2 := 0) (at2 := (w.at' : Nat)) hB3 hlb htl (o2.mv hU3 hlb) h3 (fun _ => rfl) (by decide) fun H4 hB4 _ h4 o4 => ?_
 have hs4 := hB4.size
 refine Wd.st (jbj h4 [40]) hG hB4 fun _ H5 u τ5 hG _ hB5 hU5 h5 et => ?_
 subst et
 refine jb4 (l := ⟨none, 0, 0⟩) (tx := [102, 117, 110, 99]) (at' := (u.at' : Nat)) (OwnL.nil H4.size _) hU5.size fun q2 H6 hq2 hE6 _ o6 => ?_
 have hB6 := upE hB5 hE6
 have h6 := h5.ext hE6
 have hU6 : Upd (fun x => x = b ∨ H4.size ≤ x) H4 H6 := jkQ (upE hU5 hE6)
 refine jbM (w := [41]) h6 fun H7 hE7 => ?_
 have h7 := h6.ext hE7
 have o7 := jf9 o6 (ExU (b := b) hE7) (by omega)
 have hU7 := jg7 hU6 (jn5 (b := b) (lo := H4.size) hE7)
 refine Jn.mk (fun _ H8 => ∃ c τ8, Upd (fun x => x = b ∨ H4.size ≤ x) H4 H8 ∧ DR H8 b tb L τ8 ∧ OwD H4.size H8 (.mk 3 [102, 117, 110, 99] 0 c (u.at' : Nat)) (some q2) ∧ To G (th τ8 fun s => (jaA [41] s).bind fun _ s => (jay F F s).bind fun b s => jaE (.mk 4 t.text 0 [.mk 3 [102, 117, 110, 99] 0 c (u.at' : Nat), b] (w.at' : Nat)) s)) (fun kk hkk => ?_) ?_
 ·cases hn : isD [41] τ5 with
  | true =>
    obtain ⟨s5, rfl, hn5⟩ := jez hn
    refine (Br_false _ _).2 (hkk _ _ ⟨[], _, hU7, h7, o7, hG.eq ?_⟩)
    rw [jaC, jaC, hn5]; rfl
  | false =>
    have hG : To G (th τ5 fun s => (jaS 4 F [] s).bind fun c s => (jaA [41] s).bind fun _ s => (jay F F s).bind fun b s => jaE (.mk 4 t.text 0 [.mk 3 [102, 117, 110, 99] 0 c (u.at' : Nat), b] (w.at' : Nat)) s) := by
     refine hG.eq (jbY fun s e => ?_)
     subst e
     have hn : jaf [41] s = false := hn
     rw [hn]; rfl
    have hsz := hU7.size
    refine (Br_true _ _).2 (jmz (.inl ⟨rfl, rfl⟩) hF h7 o7 (by omega) (by omega) hsz (hG.eq (jan _ _ _)).part fun H8 c τ8 hp8 hU8 h8 o8 => ?_)
    exact hkk _ _ ⟨c, τ8, jg7 hU7 hU8, h8, o8, (hG.eq (jan _ _ _)).step hp8⟩
 ·rintro _ H8 ⟨c, τ8, hU8, h8, o8, hG⟩
  have hB8 := up_lo (h := hB4) (b := b) (H2 := H8) (by exact (hU8.mono fun x _ e => by omega))
  refine Wd.st (jbj h8 [41]) hG hB8 fun _ H9 _ τ9 hG _ hB9 hU9 h9 _ => ?_
  have o9 := o8.mv hU9 (by omega)
  have hU49 := jg7 hU8 (jkQ (lo := H4.size) hU9)
  refine Wd.st ((wdS hF F hF).blk h9 (hG.eq (jan _ _ _)).part) hG hB9 fun d H10 n τ10 hG _ hB10 hU10 h10 ⟨q3, ed, g3, o10⟩ => ?_
  subst ed
  have hU410 := jg7 hU49 (jkQ (lo := H4.size) hU10)
  have T : OwnT TD TQ H4.size H10 [.mk 3 [102, 117, 110, 99] 0 c (u.at' : Nat), n] [some q2, some q3] := (OwnT.one o9).more hU10 (by omega) hU49.size o10
  refine OwnT.lit (qs := [some q2, some q3]) T hU410.size rfl fun b5 H11 hb5 hE11 o11 => ?_
  have hU411 := jg7 hU410 (jn5 (b := b) (lo := H4.size) hE11)
  refine Own.give o4 hU411 (fun x hx hl e => by omega) o11 hs4 fun H12 hU12 o12 => ?_
  have h11 := h10.ext hE11
  have hqb := o12.row.1
  exact hk _ H12 _ τ10 hG.ret ((upE hB10 hE11).trans hU12 fun x hx e => by omega) (h11.upd hU12 (by omega) (by omega)) ⟨q, rfl, by omega, o12⟩
end
section
open Hc Hc.Lex Hc.Syn
variable {H B : jaa} {b tb : Nat} {L : List Tk} {σ τ : DS} {F : Nat}
theorem own_mk {lo : Nat} {n : Nd} {q : Nat} (h : OwD lo H n (some q)) : ∃ o t u l a, n = .mk o t u l a := by
 cases n with
 | nil => obtain ⟨fp, h1, _⟩ := h.ex; exact absurd h1.1 (by simp)
 | mk o t u l a => exact ⟨_, _, _, _, _, rfl⟩
abbrev OwBD (A : Nat → Prop) (H : jaa) (op : Int) (tx : Txt) (num : Int) (ns : List Nd) (at' : Int) (b : Nat) (L : Sl) : Prop := OwnB TD TQ A H op tx num ns at' b L
def jeq (F : Nat) (s : PS) : R Nd := (jaA [115, 121, 115, 116, 101, 109] s).bind fun w s => (jaQ s).bind fun t s => (jaM F clauseW [] s).bind fun l s => (jay F F s).bind fun b s => jaE (.mk 2 t.text 0 (l.map (Nd.fix b.place) ++ [b]) (w.at' : Nat)) s
theorem jli {s : PS} (h : jaf [115, 121, 115, 116, 101, 109] s = true) : jcB F s = jeq F s := by unfold jeq; rw [jgd h]; rfl
theorem jhA {w : Txt} {ws : List Txt} {l : List Nd} {s : PS} : jaM F (w :: ws) l s = if jaf w s then (jdn s).bind fun t s => (jaS (-1) F [] s).bind fun c s1 => jaM F ws (l ++ [.mk 3 w 0 c (t.at' : Nat)]) s1 else jaM F ws (l ++ [.mk 3 w 0 [] (-1)]) s := by
 rw [jaM]; rfl
theorem jlO (hF : F ≤ 2 ^ 30) (h : DR H b tb L σ) (hne : th σ (jeq F) ≠ none) : Wd fQc9 [pA b] (.one (.c .ptr)) b tb L H (th σ (jeq F)) (NdD H) := by
 intro k hk
 refine cQcy _ ?_
 unfold vQcy
 simp only [adr_add, NilCk_some]
 have hlb := h.lt
 have htl := h.tlt
 have hG : To (th σ (jeq F)) (th σ fun s => (jaA [115, 121, 115, 116, 101, 109] s).bind fun w s => (jaQ s).bind fun t s => (jaM F clauseW [] s).bind fun l s => (jay F F s).bind fun b s => jaE (.mk 2 t.text 0 (l.map (Nd.fix b.place) ++ [b]) (w.at' : Nat)) s) := To.refl hne
 generalize th σ (jeq F) = G at hG hk
 refine Wd.st (jbj h [115, 121, 115, 116, 101, 109]) hG (.refl _ _) fun _ H1 wt τ1 hG _ hB1 _ h1 et => ?_
 subst et
 refine jb4 (l := ⟨none, 0, 0⟩) (tx := []) (at' := (wt.at' : Nat)) (OwnL.nil H.size _) hB1.size fun q H2 hq hE2 _ o2 => ?_
 have hB2 := upE hB1 hE2
 have hs1 := hB1.size
 have hqB : H.size ≤ q := by omega
 refine Wd.st (jco (h1.ext hE2)) hG hB2 fun _ H3 t τ3 hG _ hB3 hU3 h3 et => ?_
 subst et
 refine jfX (op2 := 2) (tx2 := t.text) (num2 := 0) (at2 := (wt.at' : Nat)) hB3 hlb htl (o2.mv hU3 hlb) h3 (fun _ => rfl) (by decide) fun H4 hB4 _ h4 o4 => ?_
 have hs4 := hB4.size
 refine jak (vs := [jbA [119, 105, 116, 104], jbA [119, 105, 116, 104, 111, 117, 116], jbA [114, 101, 97, 100, 115], jbA [119, 114, 105, 116, 101, 115]]) fun b2 H8 hb2 hE8 _ hr8 => ?_
 have hB8 := upE hB4 hE8
 obtain ⟨L8, o7b⟩ := o4.toB
 have o8 : OwBD (fun x => H.size ≤ x ∧ x ≠ b2) H8 2 t.text 0 [] (wt.at' : Nat) q L8 := (o7b.upd hE8 fun _ _ _ h => h).mono fun x h1 _ => ⟨h1.1, by omega⟩
 refine LoopT.ghost (fun m (i : Int) H' => ∃ l τ L', i = (l.length : Nat) ∧ l.length + m = 4 ∧ (∀ n ∈ l, ∃ o t u l a, n = Nd.mk o t u l a) ∧ Upd (· = b) H H' ∧ Row H' b2 jcC [jbA [119, 105, 116, 104], jbA [119, 105, 116, 104, 111, 117, 116], jbA [114, 101, 97, 100, 115], jbA [119, 114, 105, 116, 101, 115]] ∧ DR H' b tb L τ ∧ OwBD (fun x => H.size ≤ x ∧ x ≠ b2) H' 2 t.text 0 l (wt.at' : Nat) q L' ∧
  To G (th τ fun s => (jaM F (clauseW.drop l.length) l s).bind fun l s => (jay F F s).bind fun b s => jaE (.mk 2 t.text 0 (l.map (Nd.fix b.place) ++ [b]) (wt.at' : Nat)) s)) 4
  ⟨[], τ3, L8, rfl, rfl, (fun n hn => by cases hn), hB8, hr8, h4.ext hE8, o8, hG⟩ ?_
 rintro next m i H9 ⟨l, τ9, L9, hi, hm, hmk, hB9, r9, h9, o9, hG⟩ hnext
 have hlt9 := hB9.size
 cases m with
 | zero =>
   have hl4 : l.length = 4 := by omega
   refine jaj (fun g => by omega) fun _ => ?_
   rw [hl4] at hG
   have hG : To G (th τ9 fun s => (jay F F s).bind fun b s => jaE (.mk 2 t.text 0 (l.map (Nd.fix b.place) ++ [b]) (wt.at' : Nat)) s) := hG
   refine Wd.st ((wdS hF F hF).blk h9 (hG.eq (jan _ _ _)).part) hG hB9 fun d H10 nb τ10 hG _ hB10 hU10 h10 ⟨q6, e6, g6, o6⟩ => ?_
   subst e6
   obtain ⟨bo, bt, bu, bl, ba, enb⟩ := own_mk o6
   have o10 : OwBD (fun x => H.size ≤ x ∧ x < H9.size) H10 2 t.text 0 l (wt.at' : Nat) q L9 := (o9.mono fun x h1 h2 => ⟨h1.1, h2⟩).upd hU10 fun x h1 h2 => by omega
   have hs10 := hU10.size
   refine LoopT.ghost (fun m (i : Int) H' => ∃ xs ys, i = (xs.length : Nat) ∧ m = ys.length ∧ l = xs ++ ys ∧ Upd (· = b) H H' ∧ H9.size ≤ H'.size ∧ DR H' b tb L τ10 ∧ OwD H9.size H' nb q6 ∧ OwBD (fun x => H.size ≤ x ∧ x < H9.size) H' 2 t.text 0 (xs.map (Nd.fix nb.place) ++ ys) (wt.at' : Nat) q L9) l.length ⟨[], l, rfl, rfl, rfl, hB10, hs10, h10, o6, o10⟩ ?_
   rintro next m i H11 ⟨xs, ys, hi, hm, hxy, hB11, hs11, h11, o11, o12⟩ hnext
   have hlen := o12.len
   have hx4 := congrArg List.length hxy
   rw [List.length_append] at hx4
   cases ys with
   | nil =>
     refine jaj (fun g => by simp at hx4; omega) fun _ => ?_
     rw [List.append_nil] at o12 hxy
     subst hxy
     refine jao o12.sl (o12.app (mid := H9.size) (fun x h => h.2) hs11 o11 (by simp; omega) fun H12 hU12 L' o13 => ?_)
     have hs12 := hU12.size
     refine hk _ H12 _ τ10 hG.ret (hB11.trans hU12 fun x hx e => by omega) (h11.upd hU12 (by omega) (by omega)) ⟨q, rfl, hqB, ?_⟩
     exact o13.own fun x hx => by rcases hx with hx | hx <;> omega
   | cons y ys =>
     obtain ⟨o, u, v, l2, a, ey⟩ := hmk y (by rw [hxy]; simp)
     subst ey
     refine jaj (fun _ => ?_) fun g => by simp at hx4; omega
     simp only [Jn]
     refine jao o12.sl (o12.kid (by simp; omega) fun ad c hc1 hc2 _ => jaG hc1 ?_)
     simp only [NilCk_some, adr_add]
     -- what the next turn needs
     have go : ∀ {H12 : jaa} {a' : Int}, Nd.fix nb.place (.mk o u v l2 a) = .mk o u v l2 a' → Upd (· = b) H H12 → H9.size ≤ H12.size → DR H12 b tb L τ10 → OwD H9.size H12 nb q6 → OwBD (fun x => H.size ≤ x ∧ x < H9.size) H12 2 t.text 0 (xs.map (Nd.fix nb.place) ++ .mk o u v l2 a' :: ys) (wt.at' : Nat) q L9 → Lt (IntKind.wrap .i64 (i + 1)) fun t2 => next t2 H12 := by
      intro H12 a' ef g1 g2 g3 g4 g5
      refine Lt.mk (u := i + 1) (by rw [jac] <;> omega) (hnext _ _ _ (by rw [hm]; simp) ⟨xs ++ [.mk o u v l2 a], ys, by simp; omega, rfl, by rw [hxy]; simp, g1, g2, g3, g4, ?_⟩)
      rw [List.map_append, List.append_assoc]
      simpa [ef] using g5
     refine jag hc2 (jaj (fun ha0 => ?_) fun ha0 => ?_)
     ·refine jao o12.sl (o12.kid (by simp; omega) fun ad c hc1 hc2 hst => jaG hc1 ?_)
      subst enb
      obtain ⟨_, LB, rB, _⟩ := o11.row
      simp only [NilCk_some, adr_add]
      refine jag ((rB.cell 4).trans rfl) (hst (v := ba) fun H12 hU12 o13 => go (a' := ba) ?_ (hB11.trans hU12 fun x hx e => by omega) (by have := hU12.size; omega) (h11.upd hU12 (by omega) (by omega)) (o11.upd hU12 fun x h1 h2 => by omega) o13)
      show (if a < 0 then _ else _) = _
      rw [if_pos ha0]; rfl
     ·exact go (a' := a) (by show (if a < 0 then _ else _) = _; rw [if_neg ha0]) hB11 hs11 h11 o11 o12
 | succ m =>
   have hli : l.length < 4 := by omega
   obtain ⟨w, hw, hd⟩ : ∃ w, clauseW[l.length]? = some w ∧ clauseW.drop l.length = w :: clauseW.drop (l.length + 1) := by
    have hh : l.length < clauseW.length := hli
    exact ⟨clauseW[l.length], List.getElem?_eq_getElem hh, List.drop_eq_getElem_cons hh⟩
   refine jaj (fun _ => ?_) fun g => by omega
   rw [hd] at hG
   have ei : i.toNat = l.length := by omega
   refine IxA.mk (a := adr b2) rfl (by omega) (by show i < 4; omega) ?_
   rw [adr_add, ei, Nat.mul_one]
   refine jam (by rw [r9.cell]; exact jfw hw) ?_
   refine jb4 (l := ⟨none, 0, 0⟩) (tx := w) (at' := -1) (OwnL.nil H9.size _) (Nat.le_refl _) fun b3 H10 hb3 hE10 _ o10 => ?_
   have hB10 := upE hB9 hE10
   have h10 := h9.ext hE10
   have r10 := hE10.row r9 fun h => h
   refine IxA.mk (a := adr b2) rfl (by omega) (by show i < 4; omega) ?_
   rw [adr_add, ei, Nat.mul_one]
   refine jam (by rw [r10.cell]; exact jfw hw) ?_
   refine jbM h10 fun H11 hE11 => ?_
   have hB11 := upE hB10 hE11
   have h11 := h10.ext hE11
   have hE911 := hE10.trans hE11 fun _ _ h => h
   have hs911 := hE911.size
   have o11 := o10.mv (ExU (b := b) hE11) (by omega)
   have hq3 := o11.row.1
   refine Jn.mk (fun _ H12 => ∃ c a τ12, Upd (fun x => x = b ∨ H9.size ≤ x) H9 H12 ∧ DR H12 b tb L τ12 ∧ OwD H9.size H12 (.mk 3 w 0 c a) b3 ∧ To G (th τ12 fun s => (jaM F (clauseW.drop (l.length + 1)) (l ++ [.mk 3 w 0 c a]) s).bind fun l s => (jay F F s).bind fun b s => jaE (.mk 2 t.text 0 (l.map (Nd.fix b.place) ++ [b]) (wt.at' : Nat)) s)) (fun kk hkk => ?_) ?_
   ·cases hn : isD w τ9 with
    | true =>
      obtain ⟨s9, rfl, hn9⟩ := jez hn
      have hG : To G (th (.ok s9) fun s => (jdn s).bind fun t' s => (jaS (-1) F [] s).bind fun c s => (jaM F (clauseW.drop (l.length + 1)) (l ++ [.mk 3 w 0 c (t'.at' : Nat)]) s).bind fun l s => (jay F F s).bind fun b s => jaE (.mk 2 t.text 0 (l.map (Nd.fix b.place) ++ [b]) (wt.at' : Nat)) s) := by
       refine hG.eq ?_
       rw [jaC, jaC, jhA, hn9, if_pos rfl, ja8]
       congr 1; funext _ s; rw [ja8]
      refine (Br_true _ _).2 (jaY h11 (fun s' e => by cases e; exact jaB hn9) fun t5 H13 hU13 h13 ht5 => ?_)
      have hpn := jcb (.ok s9) t5 ht5
      have hG := (hG.eq (jan _ _ _)).step hpn
      have h13 : DR H13 b tb L (.ok s9.take) := h13
      have hU913 : Upd (fun x => x = b ∨ H9.size ≤ x) H9 H13 := jg7 (jn5 hE911) (jkQ hU13)
      have o13 := o11.mv hU13 (by omega)
      refine Own.poke o13 (op2 := 3) (tx2 := w) (num2 := 0) (at2 := (t5.at' : Nat)) (fun _ => rfl) (by decide) fun H14 hU14 o14 => ?_
      have hU914 : Upd (fun x => x = b ∨ H9.size ≤ x) H9 H14 := jg7 hU913 (hU14.mono fun x _ e => by omega)
      have h14 : DR H14 b tb L (.ok s9.take) := h13.upd hU14 (by omega) (by omega)
      have hG : To G (th (.ok s9.take) fun s => (jaS (-1) F [] s).bind fun c s => (jaM F (clauseW.drop (l.length + 1)) (l ++ [.mk 3 w 0 c (t5.at' : Nat)]) s).bind fun l s => (jay F F s).bind fun b s => jaE (.mk 2 t.text 0 (l.map (Nd.fix b.place) ++ [b]) (wt.at' : Nat)) s) := hG
      refine jmz (.inr ⟨rfl, rfl⟩) hF h14 o14 (by omega) (by omega) hU914.size (hG.eq (jan _ _ _)).part fun H15 c τ15 hp15 hU15 h15 o15 => ?_
      exact hkk _ _ ⟨c, _, τ15, jg7 hU914 hU15, h15, o15, (hG.eq (jan _ _ _)).step hp15⟩
    | false =>
      refine (Br_false _ _).2 (hkk _ _ ⟨[], -1, τ9, jn5 hE911, h11, o11, hG.eq (jbY fun s e => ?_)⟩)
      subst e
      have hn : jaf w s = false := hn
      rw [jhA, hn]; rfl
   ·rintro _ H12 ⟨c, a, τ12, hU12, h12, o12, hG⟩
    have hB12 : Upd (· = b) H H12 := hB9.trans hU12 fun x hx e => by omega
    have hb29 := r9.lt
    have o13 : OwBD (fun x => (H.size ≤ x ∧ x ≠ b2) ∧ x < H9.size) H12 2 t.text 0 l (wt.at' : Nat) q L9 := (o9.mono fun x h1 h2 => ⟨h1, h2⟩).upd hU12 fun x h1 h2 => by omega
    have hs12 := hU12.size
    refine jao o13.sl (o13.app (mid := H9.size) (fun x h => h.2) hs12 o12 (by omega) fun H13 hU13 L' o14 => ?_)
    refine Lt.mk (u := i + 1) (by rw [jac] <;> omega) (hnext m _ _ (by omega) ⟨l ++ [.mk 3 w 0 c a], τ12, L', by simp; omega, by simp; omega, fun n hn => ?_, hB12.trans hU13 fun x hx e => by omega, hU13.row (hU12.row r9 (by omega)) (by omega), h12.upd hU13 (by omega) (by omega), o14.mono fun x hx _ => by rcases hx with hx | hx <;> omega, by rw [List.length_append]; exact hG⟩)
    rcases List.mem_append.1 hn with hn | hn
    ·exact hmk n hn
    ·exact ⟨_, _, _, _, _, List.mem_singleton.1 hn⟩
def jcT (lo : Nat) (H : jaa) (s : ByteArray) (d : Option Addr × Int × Int) : Prop := match jbn s with
 | some (.ok (n, _)) => d.2 = (0, 0) ∧ ∃ q, d.1 = some (adr q) ∧ lo ≤ q ∧ OwD lo H n q
 | some (.error (p, e)) => d = (none, p, e) ∧ e ≠ 0
 | none => False
theorem jj1 {src : ByteArray} {k : Option Addr × Int × Int → jaa → Prop} (hk : ∀ d H', Ext H H' → jcT H.size H' src d → k d H') : CallT Pg fQc5 [.string src] (.tup [.c .ptr, .c (.int .i64), .c (.int .i64)]) H k := by
 refine cQcu _ ?_
 unfold vQcu
 refine s_rLex fun r H1 hE1 hr => ?_
 unfold jie at hr
 cases hl : jgF src with
 | error x =>
   obtain ⟨a, e⟩ := x
   rw [hl] at hr
   obtain ⟨_, r1, r2, r3⟩ := hr
   refine (Br.mk (fun _ => ?_) fun hx => ?_)
   ·rw [r1, r2]
    refine hk _ H1 hE1 ?_
    unfold jcT jbn; rw [hl]; exact ⟨rfl, by show ((e : Nat) : Int) ≠ 0; omega⟩
   ·rw [r2] at hx
    have := bneI' hx
    omega
 | ok ts =>
   rw [hl] at hr
   obtain ⟨r1, hv, hlo⟩ := hr
   have r22 : r.2.2 = 0 := by rw [r1]
   rw [r22]
   refine (Br_false _ _).2 ?_
   have hT := jjb hl
   have hS : ∀ t ∈ ts, SgOk t := by
    have hs : src.size ≤ 8000 := by
     rcases Nat.lt_or_ge 8000 src.size with g | g
     ·unfold jgF at hl; rw [if_pos g] at hl; cases hl
     ·exact g
    rw [jhp hs] at hl
    cases hr : jdd 0 (bs src) with
    | error e => rw [hr] at hl; cases hl
    | ok l => rw [hr] at hl; cases hl; exact lexL_sg hr
   -- the tokens' block
   have hvn := hv.len
   rw [jb0] at hvn
   have hTl : 1 ≤ ts.length := by
    obtain ⟨i, l, e, _⟩ := hT.ends
    rw [e]; simp
   obtain ⟨tb, ha⟩ : ∃ tb, r.1.a = some (adr tb) := by
    rcases hv.own with ⟨y1, y2⟩ | ⟨c, sp, y1, _⟩
    ·have := congrArg List.length y2.2; rw [jb0] at this; simp at this; omega
    ·exact ⟨c, y1⟩
   have htb1 := hlo tb ha
   refine jak (vs := [slV r.1, .int .i64 ((0 : Nat) : Int), .int .i64 0, .int .i64 0, .int .i64 0, .int .i64 0]) fun b H2 hb hE2 _ hr2 => ?_
   have htlt : tb < H1.size := by
    rcases hv.own with ⟨y1, _⟩ | ⟨c, sp, y1, y2, _⟩
    ·rw [y1] at ha; cases ha
    ·rw [y1] at ha; cases ha; exact y2.lt
   have h2 : DR H2 b tb ts (.ok ⟨ts, 0, 0⟩) := ⟨⟨r.1, 0, 0, 0, 0, 0, hr2, hv.upd hE2 fun _ _ h => h, ha, by omega, rfl, rfl, rfl, rfl, (by show (0 : Int) ≤ 0 ∧ (0 : Int) ≤ 20; decide), (by show (0 : Int) ≤ 0 ∧ (0 : Int) ≤ 200; decide)⟩, hT, hS, by omega⟩
   have hs2 := hE2.size
   refine jb4 (l := ⟨none, 0, 0⟩) (tx := []) (at' := 0) (OwnL.nil H2.size _) (Nat.le_refl _) fun q H3 hq hE3 _ o3 => ?_
   have hlb := h2.lt
   have htl := h2.tlt
   simp only [NilCk_some, adr_add]
   have hps : jbn src = jbk ts := by unfold jbn; rw [hl]
   have hG : To (jbk ts) (th (.ok ⟨ts, 0, 0⟩) fun s => (jaH jcZ jcZ 0 0 [] s).bind fun l s => jaE (.mk 1 [] 0 l 0) s) := To.refl (jiT hT.len)
   have hE02 : Ext H H2 := hE1.trans hE2 fun _ _ h => h
   have hs02 := hE02.size
   have hF : jcZ ≤ 2 ^ 30 := by decide
   have hbH : H.size ≤ b := by have := hE1.size; omega
   -- what comes out
   have out : ∀ {H' : jaa} {l : List Nd} {τ : DS}, Upd (· = b) H2 H' → DR H' b tb ts τ → OwD H2.size H' (.mk 1 [] 0 l 0) (some q) → Px (jbk ts) (.mk 1 [] 0 l 0) τ → ∃ bd pl : Int, hcell H' ⟨b, 2, none⟩ = some (.int .i64 pl) ∧ hcell H' ⟨b, 3, none⟩ = some (.int .i64 bd) ∧ (bd = 0 → k (some (adr q), 0, 0) H') ∧ (bd ≠ 0 → k (none, pl, bd) H') := by
    intro H' l τ hU h' o' hp
    obtain ⟨sl, i, pl, bd, ne, st, g1, g2, g3, g4, g5⟩ := h'.ex
    refine ⟨bd, pl, (g1.cell 2).trans rfl, (g1.cell 3).trans rfl, fun e0 => hk _ H' (jel hE02 hbH hU) ?_, fun e0 => hk _ H' (jel hE02 hbH hU) ?_⟩
    ·unfold jcT
     rw [hps]
     cases τ with
     | error e => exact absurd e0 (by rw [g5.1]; exact g5.2.1)
     | ok s =>
       obtain ⟨x, hx⟩ : ∃ x, jbk ts = some x := by
        cases hx : jbk ts with
        | none => rw [hx] at hp; exact hp.elim
        | some x => exact ⟨x, rfl⟩
       rw [hx] at hp ⊢
       cases x with
       | error e => cases hp
       | ok p =>
         obtain ⟨e1, _⟩ := hp
         obtain ⟨n, s'⟩ := p
         have e1 : n = _ := e1
         subst e1
         exact ⟨rfl, q, rfl, by omega, o'.mono (by omega)⟩
    ·unfold jcT
     rw [hps]
     cases τ with
     | ok s => exact absurd g5.1 e0
     | error e =>
       obtain ⟨x, hx⟩ : ∃ x, jbk ts = some x := by
        cases hx : jbk ts with
        | none => rw [hx] at hp; exact hp.elim
        | some x => exact ⟨x, rfl⟩
       rw [hx] at hp ⊢
       cases x with
       | ok p => obtain ⟨_, g⟩ := hp; cases g
       | error e' =>
         have hp : (.error e : DS) = .error e' := hp
         cases hp
         obtain ⟨p, c⟩ := e
         obtain ⟨y1, y2, y3⟩ := g5
         rw [y1, y3]
         exact ⟨rfl, y2⟩
   refine LoopT.ghost (fun m (st : Int × Int) H' => ∃ l τ, m ≤ jcZ ∧ l.length + m ≤ jcZ ∧ (0 ≤ st.1 ∧ 0 ≤ st.2 ∧ ∀ s, τ = .ok s → st.1 ≤ 16 ∧ st.2 ≤ 16) ∧ Upd (· = b) H2 H' ∧ DR H' b tb ts τ ∧ OwD H2.size H' (.mk 1 [] 0 l 0) (some q) ∧ To (jbk ts) (th τ fun s => (jaH jcZ m st.1 st.2 l s).bind fun l s => jaE (.mk 1 [] 0 l 0) s)) jcZ
    ⟨[], _, Nat.le_refl _, by simp, ⟨Int.le_refl _, Int.le_refl _, fun _ _ => by decide⟩, ExU hE3, h2.ext hE3, o3, hG⟩ ?_
   rintro next m ⟨x, y⟩ H4 ⟨l, τ, hm, hlm, ⟨b1, b3, b5⟩, hB4, h4, o4, hG⟩ hnext
   dsimp only at b1 b3 b5 hG ⊢
   -- the end
   have fin : Px (jbk ts) (.mk 1 [] 0 l 0) τ → Ld (.int .i64) ⟨b, 3, none⟩ H4 fun (x6 : Int) => Br (x6 != 0) (Ld (.int .i64) ⟨b, 2, none⟩ H4 fun (x7 : Int) => Ld (.int .i64) ⟨b, 3, none⟩ H4 fun (x8 : Int) => k (none, x7, x8) H4) (k (some (adr q), 0, 0) H4) := by
    intro hp
    obtain ⟨bd, pl, c2, c3, k0, k1⟩ := out hB4 h4 o4 hp
    refine jag c3 (Br.mk (fun e => jag c2 (jag c3 (k1 ?_))) fun e => k0 ?_)
    ·exact fun g => by rw [g] at e; cases e
    ·exact bneI' e
   refine Jn.mk (fun j H' => H4 = H' ∧ ((j = false ∧ Px (jbk ts) (.mk 1 [] 0 l 0) τ) ∨ (j = true ∧ ∃ s, τ = .ok s ∧ s.hd.kind ≠ 0))) (fun kk hkk => jdf h4 ?_) ?_
   ·cases τ with
    | error e => exact (Br_false _ _).2 (hkk _ _ ⟨rfl, .inl ⟨rfl, (hG.eq (jj8 e _)).err _⟩⟩)
    | ok s =>
      obtain ⟨sl, i, t, bd, ne, st, r0, r1', r3, r4, r5, hx, ht, hs, _⟩ := h4.rd
      have hs := hs s rfl
      subst hs
      refine (Br_true _ _).2 (jao r0 (jag r1' (hx fun a ha => jag (jej ha).1 ?_)))
      by_cases hk0 : s.hd.kind = 0
      ·refine hkk _ _ ⟨rfl, .inl ⟨by rw [hk0]; rfl, ?_⟩⟩
       cases m with
       | zero => exact absurd (by rw [jaC, jaH]; rfl) hG.ne
       | succ m =>
         rw [jaC, jaH, if_pos hk0] at hG
         exact hG.px _ _ ⟨rfl, rfl⟩
      ·exact hkk _ _ ⟨rfl, .inr ⟨bne_iff_ne.2 (by omega), s, rfl, hk0⟩⟩
   rintro j _ ⟨rfl, hj⟩
   rcases hj with ⟨rfl, hp⟩ | ⟨rfl, s, rfl, hk0⟩
   ·exact (Br_false _ _).2 (fin hp)
   cases m with
   | zero => exact absurd (by rw [jaC, jaH]; rfl) hG.ne
   | succ m =>
   obtain ⟨b2, b4⟩ := b5 s rfl
   have hG := hG.eq (show _ = _ from by rw [jaC, jaH, if_neg hk0])
   refine (Br_true _ _).2 ?_
   simp only [Jn]
   refine jbM (w := [115, 121, 115, 116, 101, 109]) h4 fun H5 hE5 => jbM (w := [102, 117, 110, 99]) (h4.ext hE5) fun H6 hE6 => ?_
   have hE56 := hE5.trans hE6 fun _ _ h => h
   have h6 := h4.ext hE56
   have hB6 := upE hB4 hE56
   have o6 := o4.mv (ExU (b := b) hE56) hlb
   have lim : ∀ {a : Int} {H7 : jaa} {K : jaa → Prop}, DR H7 b tb ts (.ok s) → Upd (· = b) H2 H7 → OwD H2.size H7 (.mk 1 [] 0 l 0) (some q) → 0 ≤ a → a ≤ 16 → (∀ H8 τ, Px (th (.ok s) (jaZ a 16)) () τ → (∀ s', τ = .ok s' → a + 1 ≤ 16) → Upd (· = b) H2 H8 → DR H8 b tb ts τ → OwD H2.size H8 (.mk 1 [] 0 l 0) (some q) → K H8) →
    Br (decide (a + 1 > 16)) (CallT Pg jjr [.pointer (some (adr b)), .int .i64 102] (.tup []) H7 fun (_ : Unit) H13 => K H13) (K H7) := by
    intro a H7 K h7 hB7 o7 ha1 ha2 hK
    refine jaj (fun hc => jdB h7 (by decide) fun H8 hU8 h8 => hK H8 _ ?_ (fun s' e => by cases e) (upU hB7 hU8) h8 (o7.mv hU8 hlb)) fun hc => hK H7 (.ok s) ?_ (fun s' e => by omega) hB7 h7 o7
    ·rw [jaC]; unfold jaZ; rw [if_pos (by omega)]; exact rfl
    ·rw [jaC]; unfold jaZ; rw [if_neg (by omega)]; exact ⟨rfl, rfl⟩
   cases hn : isD [115, 121, 115, 116, 101, 109] (.ok s) with
   | true =>
     have hn' : jaf [115, 121, 115, 116, 101, 109] s = true := hn
     have hG : To (jbk ts) (th (.ok s) fun s => (jaZ x 16 s).bind fun _ s => (jcB jcZ s).bind fun n s => (jaH jcZ m (x + 1) y (l ++ [n]) s).bind fun l s => jaE (.mk 1 [] 0 l 0) s) := by
      refine hG.eq ?_
      rw [hn', if_pos rfl, jaC, ja8]
      congr 1; funext _ s; rw [ja8]
     refine (Br_true _ _).2 (Lt.mk (u := x + 1) (by rw [jac] <;> omega) (lim h6 hB6 o6 b1 b2 fun H8 τ8 hp8 hx8 hB8 h8 o8 => ?_))
     have hG := (hG.eq (jan _ _ _)).step hp8
     have hG : To (jbk ts) (th τ8 fun s => (jeq jcZ s).bind fun n s => (jaH jcZ m (x + 1) y (l ++ [n]) s).bind fun l s => jaE (.mk 1 [] 0 l 0) s) := by
      refine hG.eq (jbY fun s' e => ?_)
      subst e
      obtain ⟨s0, e0, h0⟩ := hp8.was
      cases e0
      obtain ⟨_, rfl⟩ := jbX h0
      rw [jli hn']
     refine jcd hB8 h8 o8 hlb htl (by omega) (jlO hF h8 (hG.eq (jan _ _ _)).part) hG fun H9 n τ9 hG hp9 hB9 h9 o9 => ?_
     refine hnext m _ _ (by omega) ⟨_, τ9, by omega, by simp; omega, ⟨by dsimp only; omega, b3, fun s' e => ⟨?_, b4⟩⟩, hB9, h9, o9, hG⟩
     subst e
     obtain ⟨s8, e8, _⟩ := hp9.was
     exact hx8 s8 e8
   | false =>
     have hn' : jaf [115, 121, 115, 116, 101, 109] s = false := hn
     rw [hn', if_neg (by decide)] at hG
     refine (Br_false _ _).2 ?_
     cases hf : isD [102, 117, 110, 99] (.ok s) with
     | true =>
       have hf' : jaf [102, 117, 110, 99] s = true := hf
       have hG : To (jbk ts) (th (.ok s) fun s => (jaZ y 16 s).bind fun _ s => (jbm jcZ s).bind fun n s => (jaH jcZ m x (y + 1) (l ++ [n]) s).bind fun l s => jaE (.mk 1 [] 0 l 0) s) := by
        refine hG.eq ?_
        rw [hf', if_pos rfl, jaC, ja8]
        congr 1; funext _ s; rw [ja8]
       refine (Br_true _ _).2 (Lt.mk (u := y + 1) (by rw [jac] <;> omega) (lim h6 hB6 o6 b3 b4 fun H8 τ8 hp8 hx8 hB8 h8 o8 => ?_))
       have hG := (hG.eq (jan _ _ _)).step hp8
       have hG : To (jbk ts) (th τ8 fun s => (jcm jcZ s).bind fun n s => (jaH jcZ m x (y + 1) (l ++ [n]) s).bind fun l s => jaE (.mk 1 [] 0 l 0) s) := by
        refine hG.eq (jbY fun s' e => ?_)
        subst e
        obtain ⟨s0, e0, h0⟩ := hp8.was
        cases e0
        obtain ⟨_, rfl⟩ := jbX h0
        rw [ji1 hf']
       refine jcd hB8 h8 o8 hlb htl (by omega) (jjM hF h8 (hG.eq (jan _ _ _)).part) hG fun H9 n τ9 hG hp9 hB9 h9 o9 => ?_
       refine hnext m _ _ (by omega) ⟨_, τ9, by omega, by simp; omega, ⟨b1, by dsimp only; omega, fun s' e => ⟨b2, ?_⟩⟩, hB9, h9, o9, hG⟩
       subst e
       obtain ⟨s8, e8, _⟩ := hp9.was
       exact hx8 s8 e8
     | false =>
       have hf' : jaf [102, 117, 110, 99] s = false := hf
       rw [hf', if_neg (by decide)] at hG
       refine (Br_false _ _).2 (jdB h6 (by decide) fun H8 hU8 h8 => ?_)
       refine hnext m _ _ (by omega) ⟨l, _, by omega, by omega, ⟨b1, b3, fun s' e => ⟨b2, b4⟩⟩, upU hB6 hU8, h8, o6.mv hU8 hlb, hG.eq rfl⟩
end
section
open Hc Hc.Lex Hc.Syn
variable {H : jaa}
theorem st124 : Pg.stoodInHeld 124 = false := by kernel_rfl
theorem jkD (k : Program → jaa → Prop) (H : jaa) : SW Pg program k H = k Pg H := rfl
theorem jda {cs : Array Value} {i : Nat} {v : Value} (hi : cs[i]? = some v) (k : Value → jaa → Prop) (H : jaa) : SW Pg (part 23 cs i) k H = k v H := by
 unfold part isAgg
 simp only [jae, jai Tryz.underlying23, jah, Bool.false_eq_true, if_false, hi]
theorem eq_pair {p q x y : Option Addr} {H : jaa} {n : Nat} (h : PtrEq p x H (fun b => b = false)) : SW Pg (Op.equalIn (n + 2) 124 (.agg #[.pointer p, .pointer q]) (.agg #[.pointer x, .pointer y])) (fun b H' => b = false ∧ H' = H) H := by
 rw [Op.equalIn]
 simp only [jae, jai Tryz.underlying124, jkD, st124, Bool.false_eq_true, if_false]
 simp only [← Array.forIn_toList, List.forIn_cons, jae]
 simp only [show ("a" : String) ≠ "_" by decide, ne_eq, not_false_eq_true, if_true, jae, jda (cs := #[.pointer p, .pointer q]) (i := 0) (v := .pointer p) rfl, jda (cs := #[.pointer x, .pointer y]) (i := 0) (v := .pointer x) rfl]
 refine jaI ?_ (PtrEq.sound (n := n) Tryz.underlying23 (i := _) rfl ?_ h)
 ·rintro b H' ⟨rfl, rfl⟩
  simp [jah, jae]
 ·decide
abbrev pairV (e : Nat × Nat) : Value := .agg #[.pointer (some (adr e.1)), .pointer (some (adr e.2))]
theorem ck_ptr {p : Option Addr} (e : Bool) (n : Nat) (k : Unit → jaa → Prop) (H : jaa) : SW Pg (Instr.checkKey e (n + 1) 23 (.pointer p)) k H = k () H := by
 rw [Instr.checkKey]
 simp only [jae, jai Tryz.underlying23, jah]
theorem jjc {p q : Option Addr} (e : Bool) (n : Nat) : SW Pg (Instr.checkKey e (n + 2) 124 (.agg #[.pointer p, .pointer q])) (fun _ H' => H' = H) H := by
 rw [Instr.checkKey]
 simp only [jae, jai Tryz.underlying124]
 simp only [← Array.forIn_toList, List.forIn_cons, List.forIn_nil, jae]
 simp only [show ("a" : String) ≠ "_" by decide, show ("b" : String) ≠ "_" by decide, ne_eq, not_false_eq_true, if_true, jae, jda (cs := #[.pointer p, .pointer q]) (i := 0) (v := .pointer p) rfl, jda (cs := #[.pointer p, .pointer q]) (i := 1) (v := .pointer q) rfl, ck_ptr, jah]
theorem jkF {p q : Option Addr} (e : Bool) : SW Pg (Instr.checkKey e 10000 124 (.agg #[.pointer p, .pointer q])) (fun _ H' => H' = H) H := jjc e 9998
theorem jig {p q : Option Addr} : ∀ {es : List MapEntry} {l : List (Nat × Nat)} {i : Nat}, es.map (·.key) = l.map pairV → (∀ e ∈ l, PtrEq p (some (adr e.1)) H fun b => b = false) →
 SW Pg (Instr.findAsking 124 (.agg #[.pointer p, .pointer q]) es i) (fun r H' => r = none ∧ H' = H) H
 | [], _, _, _, _ => ⟨rfl, rfl⟩
 | e :: es, [], _, h, _ => by simp at h
 | e :: es, (x, y) :: l, i, h, hp => by
   simp only [List.map_cons, List.cons.injEq] at h
   rw [Instr.findAsking]
   rw [h.1, jae]
   refine jaI ?_ (eq_pair (n := 9998) (hp (x, y) (by simp)))
   rintro b H' ⟨rfl, hH⟩
   rw [hH]
   simp only [Bool.false_eq_true, if_false]
   exact jig h.2 fun e he => hp e (by simp [he])
theorem ji9 {p q : Option Addr} {es : List MapEntry} {l : List (Nat × Nat)} (h : es.map (·.key) = l.map pairV) (hp : ∀ e ∈ l, PtrEq p (some (adr e.1)) H fun b => b = false) : FK Pg TQal (.agg #[.pointer p, .pointer q]) es H none := by
 refine ⟨fun e => jkF e, ?_⟩
 unfold Instr.findKey
 rw [jae, jai Tryz.underlying124]
 cases es with
 | nil => exact ⟨rfl, rfl⟩
 | cons e es =>
   have hk : Instr.findNow (TypeDesc.struct #[{ name := "a", type := 23, offset := 0, embedded := false, tag := "", pkgPath := "hindcast/syntax", byteOffset := 0 }, { name := "b", type := 23, offset := 1, embedded := false, tag := "", pkgPath := "hindcast/syntax", byteOffset := 8 }]) (.agg #[.pointer p, .pointer q]) (e :: es) 0 = none := by
    unfold Instr.findNow; rfl
   rw [hk]
   exact jig h hp
def MapP (H : jaa) (r : Nat) (l : List (Nat × Nat)) : Prop := ∃ es cl, H[r]? = some (.map ⟨es⟩ cl) ∧ es.map (·.key) = l.map pairV
def Cl (H : jaa) (x : Nat) : Prop := ∃ cs t, H[x]? = some (.cells cs t (0, 0))
theorem Row.cl {b : Nat} {T : TypeId} {vs : List Value} (h : Row H b T vs) : Cl H b := ⟨_, _, h⟩
theorem MapP.ne {r x : Nat} {l : List (Nat × Nat)} (h : MapP H r l) (hx : Cl H x) : x ≠ r := by
 obtain ⟨es, cl, h1, _⟩ := h
 obtain ⟨cs, t, h2⟩ := hx
 rintro rfl
 rw [h1] at h2; cases h2
theorem Cl.upd {x : Nat} {M : Nat → Prop} {H' : jaa} (h : Cl H x) (hU : Upd M H H') (hn : ¬ M x) : Cl H' x := by
 obtain ⟨cs, t, h2⟩ := h
 exact ⟨cs, t, hU.keep h2 hn⟩
mutual
theorem TrR.cl {TN TP : TypeId} : ∀ {n : Nd} {q : Option Nat} {fp : List Nat}, TrR TN TP H n q fp → ∀ x ∈ fp, Cl H x
 | .nil, _, _, ⟨_, rfl⟩, x, hx => by cases hx
 | .mk .., _, _, ⟨b, L, qs, fl, _, hr, hv, hl, rfl⟩, x, hx => by
   rcases List.mem_cons.1 hx with rfl | hx
   ·exact Row.cl hr
   ·rcases List.mem_append.1 hx with hx | hx
    ·have hx' := (jc6 hv x hx).2
     rcases hv.own with ⟨h1, _⟩ | ⟨b', sp, h1, h2, _⟩
     ·rw [h1] at hx'; cases hx'
     ·rw [h1] at hx'
      have := jaO hx'
      subst this
      exact Row.cl h2
    ·exact TrL.cl hl x hx
theorem TrL.cl {TN TP : TypeId} : ∀ {ns : List Nd} {qs : List (Option Nat)} {fp : List Nat}, TrL TN TP H ns qs fp → ∀ x ∈ fp, Cl H x
 | [], _, _, ⟨_, rfl⟩, x, hx => by cases hx
 | n :: ns, _, _, ⟨q, qs', f1, f2, _, rfl, h1, h2⟩, x, hx => by
   rcases List.mem_append.1 hx with hx | hx
   ·exact TrR.cl h1 x hx
   ·exact TrL.cl h2 x hx
end
theorem jke {T T' : TypeId} {L : Sl} {vs vs' : List Value} (h : Vec H T L vs) (h' : Vec H T' L vs') : vs = vs' := by
 have hl := h.len
 have hl' := h'.len
 apply List.ext_getElem?
 intro i
 by_cases hi : i < vs.length
 ·obtain ⟨b, hb, hc⟩ := h.cell hi
  obtain ⟨b', hb', hc'⟩ := h'.cell (i := i) (by omega)
  rw [hb] at hb'
  have := jaO hb'
  subst this
  exact hc.symm.trans hc'
 ·rw [List.getElem?_eq_none (by omega), List.getElem?_eq_none (by omega)]
theorem jh0 : ∀ {qs qs' : List (Option Nat)}, qs.map jb3 = qs'.map jb3 → qs = qs'
 | [], [], _ => rfl
 | [], _ :: _, h => by simp at h
 | _ :: _, [], h => by simp at h
 | q :: qs, q' :: qs', h => by
   simp only [List.map_cons, List.cons.injEq, jb3, Value.pointer.injEq] at h
   obtain ⟨h1, h2⟩ := h
   rw [jh0 (h2 : qs.map jb3 = qs'.map jb3)]
   cases q <;> cases q' <;> simp_all [adr]
theorem jj7 {b : Nat} {T T' : TypeId} {vs vs' : List Value} (h : Row H b T vs) (h' : Row H b T' vs') : vs = vs' := by
 have : (some (Obj.cells ⟨vs⟩ T (0, 0))) = some (Obj.cells ⟨vs'⟩ T' (0, 0)) := h.symm.trans h'
 injection this with this
 injection this with h1 h2 h3
 injection h1
mutual
theorem TrR.uniq {TN TP : TypeId} : ∀ {n m : Nd} {q : Option Nat} {fp fp' : List Nat}, TrR TN TP H n q fp → TrR TN TP H m q fp' → n = m
 | .nil, .nil, _, _, _, _, _ => rfl
 | .nil, .mk .., _, _, _, ⟨rfl, _⟩, ⟨_, _, _, _, h, _⟩ => by cases h
 | .mk .., .nil, _, _, _, ⟨_, _, _, _, h, _⟩, ⟨rfl, _⟩ => by cases h
 | .mk op tx nm l a, .mk op' tx' nm' l' a', _, _, _, ⟨b, L, qs, fl, e, hr, hv, hl, _⟩, ⟨b', L', qs', fl', e', hr', hv', hl', _⟩ => by
   rw [e] at e'
   cases e'
   have hu := jj7 hr hr'
   simp only [ndV, List.cons.injEq, Value.int.injEq, Value.string.injEq, Value.slice.injEq, true_and, and_true] at hu
   obtain ⟨h1, h2, h3, h4, h5⟩ := hu
   have hL : L = L' := by
    obtain ⟨x, y, z⟩ := L; obtain ⟨x', y', z'⟩ := L'
    simp_all
   subst hL
   have hqs := jh0 (jke hv hv')
   subst hqs
   have := TrL.uniq hl hl'
   have ht : tx = tx' := by
    have := congrArg (fun (s : ByteArray) => s.data.toList) h2
    exact this
   rw [h1, ht, h3, this, h5]
theorem TrL.uniq {TN TP : TypeId} : ∀ {ns ms : List Nd} {qs : List (Option Nat)} {fp fp' : List Nat}, TrL TN TP H ns qs fp → TrL TN TP H ms qs fp' → ns = ms
 | [], [], _, _, _, _, _ => rfl
 | [], _ :: _, _, _, _, ⟨rfl, _⟩, ⟨_, _, _, _, h, _⟩ => by cases h
 | _ :: _, [], _, _, _, ⟨_, _, _, _, h, _⟩, ⟨rfl, _⟩ => by cases h
 | n :: ns, m :: ms, _, _, _, ⟨q, qs', f1, f2, e, _, h1, h2⟩, ⟨q', qs'', g1, g2, e', _, k1, k2⟩ => by
   rw [e] at e'
   cases e'
   rw [TrR.uniq h1 k1, TrL.uniq h2 k2]
end
mutual
theorem TrR.fp_uniq {TN TP : TypeId} : ∀ {n m : Nd} {q : Option Nat} {fp fp' : List Nat}, TrR TN TP H n q fp → TrR TN TP H m q fp' → fp = fp'
 | .nil, .nil, _, _, _, ⟨_, h⟩, ⟨_, h'⟩ => by rw [h, h']
 | .nil, .mk .., _, _, _, ⟨rfl, _⟩, ⟨_, _, _, _, h, _⟩ => by cases h
 | .mk .., .nil, _, _, _, ⟨_, _, _, _, h, _⟩, ⟨rfl, _⟩ => by cases h
 | .mk op tx nm l a, .mk op' tx' nm' l' a', _, _, _, ⟨b, L, qs, fl, e, hr, hv, hl, e2⟩, ⟨b', L', qs', fl', e', hr', hv', hl', e2'⟩ => by
   rw [e] at e'
   cases e'
   have hu := jj7 hr hr'
   simp only [ndV, List.cons.injEq, Value.int.injEq, Value.string.injEq, Value.slice.injEq, true_and, and_true] at hu
   obtain ⟨h1, h2, h3, h4, h5⟩ := hu
   have hL : L = L' := by
    obtain ⟨x, y, z⟩ := L; obtain ⟨x', y', z'⟩ := L'
    simp_all
   subst hL
   have hqs := jh0 (jke hv hv')
   subst hqs
   rw [e2, e2', TrL.fp_uniq hl hl']
theorem TrL.fp_uniq {TN TP : TypeId} : ∀ {ns ms : List Nd} {qs : List (Option Nat)} {fp fp' : List Nat}, TrL TN TP H ns qs fp → TrL TN TP H ms qs fp' → fp = fp'
 | [], [], _, _, _, ⟨_, h⟩, ⟨_, h'⟩ => by rw [h, h']
 | [], _ :: _, _, _, _, ⟨rfl, _⟩, ⟨_, _, _, _, h, _⟩ => by cases h
 | _ :: _, [], _, _, _, ⟨_, _, _, _, h, _⟩, ⟨rfl, _⟩ => by cases h
 | n :: ns, m :: ms, _, _, _, ⟨q, qs', f1, f2, e, e2, h1, h2⟩, ⟨q', qs'', g1, g2, e', e2', k1, k2⟩ => by
   rw [e] at e'
   cases e'
   rw [e2, e2', TrR.fp_uniq h1 k1, TrL.fp_uniq h2 k2]
end
mutual
theorem jfJ : ∀ n : Nd, jff n n = true
 | .nil => rfl
 | .mk op tx nm l a => by unfold jff; rw [jhr l]; simp
theorem jhr : ∀ l : List Nd, jep l l = true
 | [] => rfl
 | n :: ns => by unfold jep; rw [jfJ n, jhr ns]; rfl
end
end
section
open Hc Hc.Lex Hc.Syn
variable {H : jaa}
abbrev TR (H : jaa) (n : Nd) (q : Option Nat) (fp : List Nat) : Prop := TrR jh8 jbl H n q fp
theorem jkq {qa qb : Option Nat} (ha : ∀ x, qa = some x → Cl H x) (hb : ∀ x, qb = some x → Cl H x) {k : Bool → Prop} (hk : k (decide (qa = qb))) : PtrEq (qa.map adr) (qb.map adr) H k := by
 refine ⟨_, hk, ?_⟩
 cases qa with
 | none => cases qb <;> simp
 | some x =>
   cases qb with
   | none => simp
   | some y =>
     simp only [Option.map_some]
     by_cases e : x = y
     ·exact .inl ⟨by rw [e], by simp [e]⟩
     ·obtain ⟨c1, t1, h1⟩ := ha x rfl
      obtain ⟨c2, t2, h2⟩ := hb y rfl
      exact .inr ⟨by simp [adr, e], by simp [e], c1, t1, c2, t2, h1, h2⟩
theorem TrR.at {n : Nd} {q : Option Nat} {fp : List Nat} (h : TR H n q fp) : ∀ x, q = some x → Cl H x ∧ x ∈ fp := by
 rintro x rfl
 cases n with
 | nil => obtain ⟨h, _⟩ := h; cases h
 | mk op tx nm l a =>
   obtain ⟨b, L, qs, fl, hb, hr, _, _, rfl⟩ := h
   cases hb
   exact ⟨Row.cl hr, by simp⟩
theorem TrR.mv {r : Nat} {l : List (Nat × Nat)} (hm : MapP H r l) {H' : jaa} (hU : Upd (· = r) H H') {n : Nd} {q : Option Nat} {fp : List Nat} (h : TR H n q fp) : TR H' n q fp := h.upd hU fun x hx => hm.ne (TrR.cl h x hx)
theorem TrL.get' {TN TP : TypeId} : ∀ {ns : List Nd} {qs : List (Option Nat)} {fp : List Nat}, TrL TN TP H ns qs fp → ∀ i, i < ns.length → ∃ f1 f f2 q, fp = f1 ++ (f ++ f2) ∧ qs[i]? = some q ∧ TrR TN TP H (ns[i]!) q f ∧ (∀ j, j < i → ∃ g q', qs[j]? = some q' ∧ TrR TN TP H (ns[j]!) q' g ∧ ∀ x ∈ g, x ∈ f1)
 | [], _, _, _, i, hi => by simp at hi
 | n :: ns, _, _, ⟨q, qs', f1, f2, rfl, rfl, h1, h2⟩, i, hi => by
   cases i with
   | zero => exact ⟨[], f1, f2, q, rfl, rfl, by simpa using h1, fun j hj => by omega⟩
   | succ i =>
     obtain ⟨g1, g, g2, q', e, e2, e3, e4⟩ := TrL.get' h2 i (by simpa using hi)
     refine ⟨f1 ++ g1, g, g2, q', by rw [e, List.append_assoc], by simpa using e2, by simpa using e3, fun j hj => ?_⟩
     cases j with
     | zero => exact ⟨f1, q, rfl, by simpa using h1, fun x hx => List.mem_append_left _ hx⟩
     | succ j =>
       obtain ⟨g, q'', k1, k2, k3⟩ := e4 j (by omega)
       exact ⟨g, q'', by simpa using k1, by simpa using k2, fun x hx => List.mem_append_right _ (k3 x hx)⟩
theorem jkR {l l' : List Nd} (hl : l.length = l'.length) {j : Nat} (hj : j < l.length) : jep (l.drop j) (l'.drop j) = (jff l[j]! l'[j]! && jep (l.drop (j + 1)) (l'.drop (j + 1))) := by
 have h1 : l.drop j = l[j]! :: l.drop (j + 1) := by rw [List.drop_eq_getElem_cons hj]; simp [hj]
 have h2 : l'.drop j = l'[j]! :: l'.drop (j + 1) := by rw [List.drop_eq_getElem_cons (by omega)]; simp [show j < l'.length by omega]
 rw [h1, h2, jep]
theorem jis : ∀ {l l' : List Nd}, jep l l' = true → l.length = l'.length
 | [], [], _ => rfl
 | [], _ :: _, h => by simp [jep] at h
 | _ :: _, [], h => by simp [jep] at h
 | n :: ns, m :: ms, h => by
   rw [jep, Bool.and_eq_true] at h
   simp [jis h.2]
theorem s_same : ∀ (m : Nat) {x y : Nd} {qa qb : Option Nat} {fa fb : List Nat} {H : jaa} {r : Nat} {ps : List (Nat × Nat)}, cnt x ≤ m → TR H x qa fa → fa.Nodup → TR H y qb fb → jn1 x → MapP H r ps → (∀ e ∈ ps, e.1 ∉ fa ∧ Cl H e.1) →
 ∀ {k : Bool → jaa → Prop}, (∀ H' ps', Upd (· = r) H H' → MapP H' r ps' → (∀ e ∈ ps', e ∈ ps ∨ e.1 ∈ fa) → k (jff x y) H') →
 CallT Pg fQcf [pN qa, pN qb, .map (some r)] (.one (.c .bool)) H k := by
 intro m
 induction m with
 | zero => 
   intro x y qa qb fa fb H r ps hm ha hnd hb htx hmp hps k hk
   cases x with
   | mk op tx nm l a => simp [cnt] at hm
   | nil =>
     have ha0 := ha
     obtain ⟨rfl, rfl⟩ := ha
     refine cQb5 _ _ _ ?_
     unfold vQb5
     have hbc := TrR.at hb
     refine Jn.mk (fun j H' => H = H' ∧ j = decide ((none : Option Nat) = qb)) (fun kk hkk => ?_) ?_
     ·refine jkq (fun x h => by cases h) (fun x h => (hbc x h).1) (jaj (fun e => hkk _ _ ⟨rfl, (decide_eq_true e).symm⟩) fun e => ?_)
      obtain ⟨es, cl, h1, h2⟩ := hmp
      refine ⟨es, .inr ⟨r, cl, rfl, h1⟩, .inr ⟨ji9 h2 fun e' he' => ?_, hkk _ _ ⟨rfl, ?_⟩⟩⟩
      ·exact ⟨false, rfl, rfl⟩
      ·rw [decide_eq_false e]; rfl
     rintro _ _ ⟨rfl, rfl⟩
     refine jaj (fun e => ?_) fun e => ?_
     ·subst e
      have : y = .nil := (TrR.uniq ha0 hb).symm
      subst this
      exact hk H ps (.refl _ _) hmp fun e he => .inl he
     ·have hne : jff .nil y = false := by
       cases y with
       | nil => obtain ⟨h, _⟩ := hb; exact absurd h.symm e
       | mk => rfl
      refine Jn.mk (fun j H' => H = H' ∧ j = true) (fun kk hkk => (Br_true _ _).2 (hkk _ _ ⟨rfl, rfl⟩)) ?_
      rintro _ _ ⟨rfl, rfl⟩
      refine (Br_true _ _).2 ?_
      have := hk H ps (.refl _ _) hmp fun e he => .inl he
      rw [hne] at this; exact this
 | succ m ih =>
   intro x y qa qb fa fb H r ps hm ha hnd hb htx hmp hps k hk
   have hac := TrR.at ha
   have hbc := TrR.at hb
   refine cQb5 _ _ _ ?_
   unfold vQb5
   refine Jn.mk (fun j H' => H = H' ∧ j = decide (qa = qb)) (fun kk hkk => ?_) ?_
   ·refine jkq (fun x h => (hac x h).1) (fun x h => (hbc x h).1) (jaj (fun e => hkk _ _ ⟨rfl, (decide_eq_true e).symm⟩) fun e => ?_)
    obtain ⟨es, cl, h1, h2⟩ := hmp
    refine ⟨es, .inr ⟨r, cl, rfl, h1⟩, .inr ⟨ji9 h2 fun e' he' => ?_, hkk _ _ ⟨rfl, ?_⟩⟩⟩
    ·obtain ⟨g1, g2⟩ := hps e' he'
     refine jkq (qb := some e'.1) (fun x h => (hac x h).1) (fun x h => by cases h; exact g2) ?_
     rw [decide_eq_false_iff_not]
     intro h; exact g1 (hac _ h).2
    ·rw [decide_eq_false e]; rfl
   rintro _ _ ⟨rfl, rfl⟩
   refine jaj (fun e => ?_) fun e => ?_
   ·subst e
    have := TrR.uniq ha hb
    subst this
    have := hk H ps (.refl _ _) hmp fun e he => .inl he
    rw [jfJ] at this; exact this
   cases x with
   | nil =>
     obtain ⟨rfl, rfl⟩ := ha
     have hne : jff .nil y = false := by
      cases y with
      | nil => obtain ⟨h, _⟩ := hb; exact absurd h.symm e
      | mk => rfl
     refine Jn.mk (fun j H' => H = H' ∧ j = true) (fun kk hkk => (Br_true _ _).2 (hkk _ _ ⟨rfl, rfl⟩)) ?_
     rintro _ _ ⟨rfl, rfl⟩
     refine (Br_true _ _).2 ?_
     have := hk H ps (.refl _ _) hmp fun e he => .inl he
     rw [hne] at this; exact this
   | mk op tx nm l a =>
   cases y with
   | nil =>
     obtain ⟨rfl, rfl⟩ := hb
     obtain ⟨b, L, qs, fl, rfl, hr, hv, hl, rfl⟩ := ha
     refine Jn.mk (fun j H' => H = H' ∧ j = true) (fun kk hkk => (Br_false _ _).2 ((Br_true _ _).2 (hkk _ _ ⟨rfl, rfl⟩))) ?_
     rintro _ _ ⟨rfl, rfl⟩
     refine (Br_true _ _).2 ?_
     exact hk H ps (.refl _ _) hmp fun e he => .inl he
   | mk op' tx' nm' l' a' =>
   have hb0 := hb
   obtain ⟨b, L, qs, fl, rfl, hr, hv, hl, rfl⟩ := ha
   obtain ⟨b', L', qs', fl', rfl, hr', hv', hl', rfl⟩ := hb
   have hLl : L.len = l.length := by rw [hv.len, List.length_map, hl.len]
   have hLl' : L'.len = l'.length := by rw [hv'.len, List.length_map, hl'.len]
   have hl40 : l.length ≤ 2 ^ 40 := htx.2.1
   have hsB : jff (.mk op tx nm l a) (.mk op' tx' nm' l' a') = ((op == op' && tx == tx' && nm == nm') && jep l l') := by rw [jff]
   simp only [Option.map_some, NilCk_some, adr_add, Option.isNone_some, Br_false]
   refine Jn.mk (fun j H' => H = H' ∧ j = !((op == op' && tx == tx' && nm == nm') && (l.length == l'.length))) (fun kk hkk => ?_) ?_
   ·refine jag ((hr.cell 0).trans rfl) (jag ((hr'.cell 0).trans rfl) (Br.mk (fun h => hkk _ _ ⟨rfl, ?_⟩) fun h => ?_))
    ·have h : op ≠ op' := by simpa using h
     rw [beq_eq_false_iff_ne.2 h]; rfl
    have e1 : op = op' := by simpa using h
    refine jam ((hr.cell 1).trans rfl) (jam ((hr'.cell 1).trans rfl) ?_)
    rw [jcq]
    refine Br.mk (fun h => hkk _ _ ⟨rfl, ?_⟩) fun h => ?_
    ·have h : tx ≠ tx' := by simpa using h
     rw [beq_eq_false_iff_ne.2 h]; simp
    have e2 : tx = tx' := by simpa using h
    refine jag ((hr.cell 2).trans rfl) (jag ((hr'.cell 2).trans rfl) (Br.mk (fun h => hkk _ _ ⟨rfl, ?_⟩) fun h => ?_))
    ·have h : nm ≠ nm' := by simpa using h
     rw [beq_eq_false_iff_ne.2 h]; simp
    have e3 : nm = nm' := by simpa using h
    refine jao ((hr.cell 3).trans rfl) (jao ((hr'.cell 3).trans rfl) (hkk _ _ ⟨rfl, ?_⟩))
    subst e1 e2 e3
    rw [hLl, hLl', Bool.eq_iff_iff]
    simp
    omega
   rintro _ _ ⟨rfl, rfl⟩
   cases hg : ((op == op' && tx == tx' && nm == nm') && (l.length == l'.length)) with
   | false =>
     refine (Br_true _ _).2 ?_
     have hne : jff (.mk op tx nm l a) (.mk op' tx' nm' l' a') = false := by
      rw [hsB, Bool.and_eq_false_iff]
      rw [Bool.and_eq_false_iff] at hg
      rcases hg with g | g
      ·exact .inl g
      ·right
       rw [Bool.eq_false_iff]
       intro h
       have := jis h
       simp [this] at g
     have := hk H ps (.refl _ _) hmp fun e he => .inl he
     rw [hne] at this; exact this
   | true =>
     rw [Bool.and_eq_true, beq_iff_eq] at hg
     obtain ⟨hg1, hll⟩ := hg
     rw [hg1, Bool.true_and] at hsB
     rw [hsB] at hk
     refine (Br_false _ _).2 ?_
     have hmp0 := hmp
     obtain ⟨es, cl, h1, h2⟩ := hmp
     refine ⟨r, es, cl, rfl, h1, .inr ⟨ji9 h2 fun e' he' => ?_, ?_⟩⟩
     ·obtain ⟨g1, g2⟩ := hps e' he'
      refine jkq (qa := some b) (qb := some e'.1) (fun x h => by cases h; exact Row.cl hr) (fun x h => by cases h; exact g2) ?_
      rw [decide_eq_false_iff_not]
      intro h; cases h; exact g1 (by simp)
     generalize hH1 : H.setIfInBounds r (.map ((⟨es⟩ : Array MapEntry).push { key := .agg #[.pointer (some (adr b)), .pointer (some (adr b'))], val := .int .i64 1, born := cl }) (cl + 1)) = H1
     have hrlt := jcQ h1
     have hU1 : Upd (· = r) H H1 := by
      subst hH1
      exact ⟨by simp, fun x hx hn => by rw [Array.getElem?_setIfInBounds, if_neg (fun e => hn e.symm)]⟩
     have hm1 : MapP H1 r (ps ++ [(b, b')]) := by
      subst hH1
      refine ⟨es ++ [{ key := .agg #[.pointer (some (adr b)), .pointer (some (adr b'))], val := .int .i64 1, born := cl }], cl + 1, ?_, by simp [h2]⟩
      rw [Array.getElem?_setIfInBounds, if_pos rfl, if_pos hrlt]
      congr 2
      apply Array.ext'; simp
     have hne : ∀ {x : Nat}, Cl H x → ¬ x = r := fun h => hmp0.ne h
     have hdisj := (List.nodup_cons.1 hnd).1
     have hndL := (List.nodup_append.1 (List.nodup_cons.1 hnd).2)
     have r1 := hU1.row hr (hne (Row.cl hr))
     have r1' := hU1.row hr' (hne (Row.cl hr'))
     have hcl0 : ∀ x ∈ b :: (jaW L ++ fl), Cl H x := TrR.cl (n := .mk op tx nm l a) (q := some b) ⟨b, L, qs, fl, rfl, hr, hv, hl, rfl⟩
     have hclb : ∀ x ∈ b' :: (jaW L' ++ fl'), Cl H x := TrR.cl hb0
     refine jao ((r1.cell 3).trans rfl) ?_
     refine LoopT.ghost (fun rr (i : Int) H' => ∃ (j : Nat) (ps1 : List (Nat × Nat)), i = (j : Nat) ∧ j + rr = l.length ∧ Upd (· = r) H H' ∧ MapP H' r ps1 ∧ (∀ e ∈ ps1, e ∈ ps ∨ e.1 = b ∨ ∃ i' g q', i' < j ∧ qs[i']? = some q' ∧ TR H (l[i']!) q' g ∧ e.1 ∈ g) ∧ jep l l' = jep (l.drop j) (l'.drop j)) l.length
      ⟨0, _, rfl, by omega, hU1, hm1, fun e he => ?_, by simp⟩ ?_
     ·rcases List.mem_append.1 he with he | he
      ·exact .inl he
      ·rw [List.mem_singleton.1 he]; exact .inr (.inl rfl)
     rintro next rr i H2 ⟨j, ps1, rfl, hj, hU2, hm2, hps1, heq⟩ hnext
     have r2 := hU2.row hr (hne (Row.cl hr))
     have r2' := hU2.row hr' (hne (Row.cl hr'))
     have hsub : ∀ e ∈ ps1, e ∈ ps ∨ e.1 ∈ b :: (jaW L ++ fl) := fun e he => by
      rcases hps1 e he with g | g | ⟨i', g, q', hi', hq', htr, hin⟩
      ·exact .inl g
      ·rw [g]; exact .inr (by simp)
      ·have hql := hl.len
       have hlt : i' < l.length := by
        have := (List.getElem?_eq_some_iff.1 hq').1
        omega
       obtain ⟨f1, f, f2, q2, e1, e2, e3, _⟩ := TrL.get' hl i' hlt
       rw [hq'] at e2; cases e2
       have : g = f := TrR.fp_uniq htr e3
       subst this
       exact .inr (by rw [e1]; simp [hin])
     cases rr with
     | zero =>
       have hjl : j = l.length := by omega
       refine jcD (by rw [hLl]; omega) ?_
       have e1 : jep l l' = true := by
        rw [heq, List.drop_eq_nil_of_le (by omega), List.drop_eq_nil_of_le (by omega)]; rfl
       rw [e1] at hk
       exact hk H2 ps1 hU2 hm2 hsub
     | succ rr =>
       have hjl : j < l.length := by omega
       have hjl' : j < l'.length := by omega
       rw [jkR hll hjl] at heq
       refine jbb (by rw [hLl]; omega) (jao ((r2.cell 3).trans rfl) ?_)
       have hv2 := hv.upd hU2 fun c hc => hne (hcl0 c (by simp [jaW, hc]))
       have hv2' := hv'.upd hU2 fun c hc => hne (hclb c (by simp [jaW, hc]))
       obtain ⟨f1, f, f2, q2, e1, e2, e3, e4⟩ := TrL.get' hl j hjl
       obtain ⟨f1', f', f2', q2', e1', e2', e3', _⟩ := TrL.get' hl' j hjl'
       have hql := hl.len
       have hql' := hl'.len
       refine jcy hv2 (by omega) (by simp; omega) fun ad hc _ => ?_
       have hc : hcell H2 ad = some (jb3 q2) := hc.trans (by simp [e2])
       refine jaG hc (jao ((r2'.cell 3).trans rfl) (jcy hv2' (by omega) (by simp; omega) fun ad' hc' _ => ?_))
       have hc' : hcell H2 ad' = some (jb3 q2') := hc'.trans (by simp [e2'])
       refine jaG hc' ?_
       have t2 : TR H2 (l[j]!) q2 f := e3.upd hU2 fun x hx => hne (TrR.cl e3 x hx)
       have t2' : TR H2 (l'[j]!) q2' f' := e3'.upd hU2 fun x hx => hne (TrR.cl e3' x hx)
       have hmem : l[j]! ∈ l := by
        have : l[j]! = l[j] := by simp [hjl]
        rw [this]; exact List.getElem_mem hjl
       have hvc := jbV hmem
       have hcn : cnt (.mk op tx nm l a) = 1 + jbB l := by simp [cnt]
       have hndfl : (f1 ++ (f ++ f2)).Nodup := e1 ▸ hndL.2.1
       have hndf : f.Nodup := (List.nodup_append.1 (List.nodup_append.1 hndfl).2.1).1
       refine ih (by omega) t2 hndf t2' (jhT htx.2.2 _ hmem) hm2 (fun e he => ?_) fun H3 ps3 hU3 hm3 hps3 => ?_
       ·rcases hps1 e he with g | g | ⟨i', g, q', hi', hq', htr, hin⟩
        ·obtain ⟨k1, k2⟩ := hps e g
         refine ⟨fun hx => k1 (by rw [e1]; simp [hx]), k2.upd hU2 (hne k2)⟩
        ·rw [g]
         refine ⟨fun hx => hdisj (by rw [e1]; simp [hx]), (Row.cl hr).upd hU2 (hne (Row.cl hr))⟩
        ·obtain ⟨g', q'', k1, k2, k3⟩ := e4 i' hi'
         rw [hq'] at k1; cases k1
         have : g = g' := TrR.fp_uniq htr k2
         subst this
         refine ⟨fun hx => (List.nodup_append.1 hndfl).2.2 _ (k3 _ hin) _ (List.mem_append_left _ hx) rfl, ?_⟩
         have := TrR.cl htr _ hin
         exact this.upd hU2 (hne this)
       ·have hU23 : Upd (· = r) H H3 := upU hU2 hU3
        have r3 := hU23.row hr (hne (Row.cl hr))
        have r3' := hU23.row hr' (hne (Row.cl hr'))
        have hps4 : ∀ e ∈ ps3, e ∈ ps ∨ e.1 = b ∨ ∃ i' g q', i' < j + 1 ∧ qs[i']? = some q' ∧ TR H (l[i']!) q' g ∧ e.1 ∈ g := fun e he => by
         rcases hps3 e he with g | g
         ·rcases hps1 e g with g | g | ⟨i', g, q', hi', hrest⟩
          ·exact .inl g
          ·exact .inr (.inl g)
          ·exact .inr (.inr ⟨i', g, q', by omega, hrest⟩)
         ·exact .inr (.inr ⟨j, f, q2, by omega, e2, e3, g⟩)
        refine jgX ((r3'.cell 3).trans rfl) ((r3.cell 3).trans rfl) ?_
        cases hsv : jff l[j]! l'[j]! with
        | false =>
          rw [hsv, Bool.false_and] at heq
          rw [heq] at hk
          refine (Br_true _ _).2 (hk H3 ps3 hU23 hm3 fun e he => ?_)
          rcases hps3 e he with g | g
          ·exact hsub e g
          ·exact .inr (by rw [e1]; simp [g])
        | true =>
          rw [hsv, Bool.true_and] at heq
          refine (Br_false _ _).2 (Lt.mk (u := ((j + 1 : Nat) : Int)) (by rw [jac] <;> omega) (hnext rr _ _ (by omega) ⟨j + 1, ps3, rfl, by omega, hU23, hm3, hps4, heq⟩))
theorem jof {x y : Nd} {qa qb : Option Nat} {fa fb : List Nat} (ha : TR H x qa fa) (hnd : fa.Nodup) (hb : TR H y qb fb) (htx : jn1 x) {k : Bool → jaa → Prop} (hk : ∀ H', Ext H H' → k (jff x y) H') : CallT Pg fQcb [pN qa, pN qb] (.one (.c .bool)) H k := by
 refine cQb2 _ _ ?_
 unfold vQb2
 show CallT _ _ _ _ _ _
 have hE : Ext H (H.push (.map #[] 0)) := Upd.push _ _ _
 have hm : MapP (H.push (.map #[] 0)) H.size [] := ⟨[], 0, jaL _ _, rfl⟩
 exact s_same (cnt x) (Nat.le_refl _) (ha.upd hE fun _ _ h => h) hnd (hb.upd hE fun _ _ h => h) htx hm (fun e he => by cases he) fun H' ps' hU _ _ => hk H' (jel hE (Nat.le_refl _) hU)
end
section
open Hc
abbrev fQd2 : FuncId := 6
end
end Go.Proofs.YtfpmgpblhhcpgaaGreatDoor
