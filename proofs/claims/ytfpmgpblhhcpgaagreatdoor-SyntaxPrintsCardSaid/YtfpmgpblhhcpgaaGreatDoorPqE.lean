/-
 The document's printer: parts, statements, blocks: walked.
-/
import Derived.Test.YtfpmgpblhhcpgaaGreatDoorPqB
import Derived.Test.YtfpmgpblhhcpgaaGreatDoorPt
import Derived.Test.YtfpmgpblhhcpgaaGreatDoorHcPrnB
import Derived.Test.YtfpmgpblhhcpgaaGreatDoorVRef
import Derived.Test.YtfpmgpblhhcpgaaGreatDoorRC
set_option linter.unusedVariables false
set_option linter.unusedSimpArgs false
namespace Go.Proofs.YtfpmgpblhhcpgaaGreatDoor
set_option maxRecDepth 100000
section
open Hc Hc.Lex Hc.Syn
variable {H : jaa}
theorem jf8 : ∀ {l : List Nd} {n : Nd}, n ∈ l → dpN n ≤ dpL l
 | [], _, h => by cases h
 | m :: ms, n, h => by
   simp only [dpL]
   rcases List.mem_cons.1 h with rfl | h
   ·omega
   ·have := jf8 h; omega
theorem jca : ∀ (l : List Nd), (l.map cnt).sum = jaK l
 | [] => rfl
 | n :: l => by rw [List.map_cons, List.sum_cons, jca l, jaK]
theorem jjS {L : Sl} {l : List Nd} (h : Lst H L l) (hok : okL l) (hi : jl5 l) (h23 : ∀ n ∈ l, n.op = 23) (hl : jaK l ≤ 2 ^ 30) {k : ByteArray → jaa → Prop} (hk : ∀ H', Ext H H' → k ⟨⟨jbe true (l.map jbt)⟩⟩ H') : CallT Pg fQel [.slice L.a L.len L.cap] (.one (.c .str)) H k := by
 refine cQdj _ ?_
 unfold vQdj
 have hll := jbw hok
 have htot : (jbe true (l.map jbt)).length ≤ 64 * jaK l := by
  have := jc9 (f := jbt) (g := cnt) (l := l) (fun n hn => jdd (jaM hok n hn) (jaE hi n hn)) true
  rw [jca] at this; exact this
 refine LoopT.ghost (fun m (s : ByteArray × Int) H' => ∃ (i : Nat) (t : Txt), Ext H H' ∧ s = (⟨⟨t⟩⟩, ((i : Nat) : Int)) ∧ m = l.length - i ∧ i ≤ l.length ∧ jbe true (l.map jbt) = t ++ jbe (i == 0) ((l.drop i).map jbt)) l.length ⟨0, [], .refl _ _, rfl, rfl, Nat.zero_le _, rfl⟩ ?_
 rintro next _ _ H1 ⟨i, t, e1, rfl, rfl, hi', hs⟩ hnext
 dsimp only
 rw [h.len]
 refine jaj (fun hlt => ?_) fun hge => ?_
 ·have hil : i < l.length := by omega
  have hg : l[i]? = some l[i] := List.getElem?_eq_getElem hil
  have hm := List.getElem_mem hil
  generalize l[i] = n at hg hm
  have hx := jaM hok _ hm
  have hxi := jaE hi _ hm
  have h23n := h23 n hm
  have hcm := jaH hm
  obtain ⟨ad, q2, ix, hc, hl2⟩ := h.kid i _ hg
  obtain ⟨op, tx, nm, vs, a2, c2, L2, rfl, rfl, na⟩ := hl2.some' hx
  have h23n : op = 23 := h23n
  subst h23n
  rw [jdb hg] at hs
  have htx : tx.length ≤ 16 := hx.tlen
  have hcn : cnt (.mk 23 tx nm vs a2) = 1 + jaK vs := by simp [cnt]
  have hvl := jbw hx.2
  obtain ⟨_, hall⟩ := ok23 hx
  have eP : jbt (.mk 23 tx nm vs a2) = (tx ++ [123]) ++ jbe true (vs.map jiK) ++ [125] := by simp [jbt, Nd.tx, Nd.ks]
  rw [eP] at hs
  have hsl := congrArg List.length hs
  simp only [List.length_append, List.length_cons, List.length_nil] at hsl
  have hsep : (if i = 0 then ([] : Txt) else [44, 32]).length ≤ 2 := by split <;> simp
  refine Jn.mk (fun j H' => H1 = H' ∧ j = (⟨⟨t ++ (if i = 0 then [] else [44, 32])⟩⟩ : ByteArray)) (fun kk hkk => ?_) ?_
  ·refine jaj (fun hp => Cat (by simp; omega) (hkk _ _ ⟨rfl, by rw [if_neg (by omega)]⟩)) fun hp => hkk _ _ ⟨rfl, by rw [if_pos (by omega), List.append_nil]⟩
  rintro _ _ ⟨rfl, rfl⟩
  refine ix rfl (jan (cu e1 hc) ?_)
  simp only [Option.map_some, NilCk_some, adr_add]
  refine jap (cu e1 na.c1) (Cat (by simp only [List.length_append]; omega) (Cat (by simp only [List.length_append, List.length_cons, List.length_nil]; omega) ?_))
  generalize hpre : t ++ (if i = 0 then [] else [44, 32]) ++ tx ++ [123] = pre
  have hprl := congrArg List.length hpre
  simp only [List.length_append, List.length_cons, List.length_nil] at hprl
  refine LoopT.ghost (fun m (s : ByteArray × Int) H' => ∃ (j : Nat) (u : Txt), Ext H H' ∧ s = (⟨⟨u⟩⟩, ((j : Nat) : Int)) ∧ m = vs.length - j ∧ j ≤ vs.length ∧ pre ++ jbe true (vs.map jiK) = u ++ jbe (j == 0) ((vs.drop j).map jiK)) vs.length ⟨0, pre, e1, rfl, rfl, Nat.zero_le _, rfl⟩ ?_
  rintro next2 _ _ H3 ⟨j, u, e3, rfl, rfl, hj, hu⟩ hnext2
  dsimp only
  have hul := congrArg List.length hu
  simp only [List.length_append] at hul
  refine ix rfl (jan (cu e3 hc) ?_)
  simp only [Option.map_some, NilCk_some, adr_add]
  refine jam (cu e3 na.c3) ?_
  rw [na.len]
  refine jaj (fun hlt2 => ?_) fun hge2 => ?_
  ·have hjl : j < vs.length := by omega
   have hgv : vs[j]? = some vs[j] := List.getElem?_eq_getElem hjl
   have hmv := List.getElem_mem hjl
   generalize vs[j] = v at hgv hmv
   obtain ⟨hvo, hvop⟩ := hall v hmv
   have hvi := jaE hxi.2 v hmv
   have hvc := jaH hmv
   obtain ⟨av, qv, iv, hcv, hlv⟩ := na.kid j v hgv
   obtain ⟨op3, tx3, nm3, l3, a3, c3, L3, rfl, rfl, nv⟩ := hlv.some' hvo
   have hvop : op3 = 24 := hvop
   subst hvop
   obtain ⟨_, x, rfl, hxo, hxe⟩ := ok24 hvo
   have htx3 : tx3.length ≤ 16 := hvo.tlen
   have hcv3 : cnt (.mk 24 tx3 nm3 [x] a3) = 1 + (cnt x + 0) := by simp [cnt, jaK]
   have hxi3 := hvi.2.1
   have hxl := jbb hxo hxi3
   obtain ⟨ax, qx, ixx, hcx, hlx⟩ := nv.kid 0 x rfl
   rw [jdb hgv] at hu
   have eV : jiK (.mk 24 tx3 nm3 [x] a3) = tx3 ++ ([58, 32] ++ exT x) := rfl
   rw [eV] at hu
   have hul := congrArg List.length hu
   simp only [List.length_append, List.length_cons, List.length_nil] at hul
   have hsep2 : (if j = 0 then ([] : Txt) else [44, 32]).length ≤ 2 := by split <;> simp
   refine Jn.mk (fun b H' => H3 = H' ∧ b = (⟨⟨u ++ (if j = 0 then [] else [44, 32])⟩⟩ : ByteArray)) (fun kk hkk => ?_) ?_
   ·refine jaj (fun hp => Cat (by simp; omega) (hkk _ _ ⟨rfl, by rw [if_neg (by omega)]⟩)) fun hp => hkk _ _ ⟨rfl, by rw [if_pos (by omega), List.append_nil]⟩
   rintro _ _ ⟨rfl, rfl⟩
   refine ix rfl (jan (cu e3 hc) ?_)
   simp only [Option.map_some, NilCk_some, adr_add]
   refine jam (cu e3 na.c3) (iv rfl (jan (cu e3 hcv) ?_))
   simp only [Option.map_some, NilCk_some, adr_add]
   refine jap (cu e3 nv.c1) (Cat (by simp only [List.length_append]; omega) (Cat (by simp only [List.length_append, List.length_cons, List.length_nil]; omega) (ix rfl (jan (cu e3 hc) ?_))))
   simp only [Option.map_some, NilCk_some, adr_add]
   refine jam (cu e3 na.c3) (iv rfl (jan (cu e3 hcv) ?_))
   simp only [Option.map_some, NilCk_some, adr_add]
   refine jam (cu e3 nv.c3) (ixx rfl (jan (cu e3 hcx) ?_))
   refine ex_of hxo hxe hxi3 (by omega) (hlx.ext e3) fun H5 e5 => jaQ (eE e3 e5) (by repeat (first | exact sn | refine sc (by assumption) ?_ | refine sc na.c3 ?_ | refine sc nv.c1 ?_ | refine sc nv.c3 ?_)) ?_
   refine Cat (by simp only [List.length_append, List.length_cons, List.length_nil]; omega) (Lt.mk (u := ((j + 1 : Nat) : Int)) (by rw [jac] <;> omega) (hnext2 (vs.length - (j + 1)) _ _ (by omega) ⟨j + 1, _, eE e3 e5, rfl, rfl, by omega, ?_⟩))
   rw [hu]; simp
  ·have hjl : j = vs.length := by omega
   subst hjl
   rw [List.drop_length] at hu
   have hu : pre ++ jbe true (vs.map jiK) = u := by rw [hu]; simp [jbe]
   subst hu
   refine Cat (by simp only [List.length_append, List.length_cons, List.length_nil]; omega) (Lt.mk (u := ((i + 1 : Nat) : Int)) (by rw [jac] <;> omega) (hnext (l.length - (i + 1)) _ _ (by omega) ⟨i + 1, _, e3, rfl, rfl, by omega, ?_⟩))
   rw [hs, ← hpre]; simp
 ·have hil : i = l.length := by omega
  subst hil
  rw [List.drop_length] at hs
  exact kx (hk H1 e1) (by rw [hs]; simp [jbe])
def Wr (f : FuncId) (args : List Value) (t : Txt) (H : jaa) : Prop := ∀ {k : ByteArray → jaa → Prop}, (∀ H', Ext H H' → k ⟨⟨t⟩⟩ H') → CallT Pg f args (.one (.c .str)) H k
structure WQ (m : Nat) : Prop where
 st : ∀ {n : Nd} {q : Option Nat} {H : jaa} {t : Nat}, cnt n ≤ m → okN n → jcM n → 10 ≤ n.op ∧ n.op ≤ 22 → t + dpN n ≤ 40 → LD H n q → Wr fQed [pN q, .string ⟨⟨ja9 t⟩⟩] (stT t n) H
 ss : ∀ {n : Nd} {q : Option Nat} {H : jaa} {t : Nat}, cnt n ≤ m → okN n → jcM n → n.op = 5 → t + dpN n ≤ 41 → LD H n q → Wr fQd8 [pN q, .string ⟨⟨ja9 t⟩⟩] (jfs t n.ks) H
theorem jhb (t : Nat) : (ja9 t).length = t := by simp [ja9]
theorem s_body {m : Nat} (hm30 : m ≤ 2 ^ 30) (ih : WQ m) {n : Nd} {q : Option Nat} {t : Nat} (hm : cnt n ≤ m) (hn : okN n) (hi : jcM n) (ho : n.op = 5) (hd : t + dpN n ≤ 40) (hq : LD H n q) : Wr fQek [pN q, .string ⟨⟨ja9 t⟩⟩] (jcG t n) H := by
 intro k hk
 refine cQdi _ _ ?_
 unfold vQdi
 have htl := jhb t
 have et : ja9 t ++ [9] = ja9 (t + 1) := by unfold ja9; rw [List.replicate_succ']
 obtain ⟨op, tx, nm, l, a, rfl⟩ := hn.op
 have ho : op = 5 := ho
 subst ho
 have hdn : dpN (.mk 5 tx nm l a) = 1 + dpL l := by simp [dpN]
 have hsl := jft (ns := l) (t := t + 1) hn.2 hi.2 (by omega)
 have hcn : cnt (.mk 5 tx nm l a) = 1 + jaK l := by simp [cnt]
 refine Cat (by simp; omega) ?_
 rw [et]
 refine ih.ss hm hn hi rfl (by omega) hq fun H1 e1 => ?_
 have ek : (Nd.mk 5 tx nm l a).ks = l := rfl
 rw [ek]
 refine Cat (by simp only [List.length_cons, List.length_nil]; omega) (Cat (by simp only [List.length_append, List.length_cons, List.length_nil]; omega) (Cat (by simp only [List.length_append, List.length_cons, List.length_nil]; omega) ?_))
 exact kx (hk H1 e1) (by simp [jcG])
theorem wQ : ∀ m, m ≤ 2 ^ 30 → WQ m := by
 intro m
 induction m with
 | zero => exact fun _ => ⟨fun hm hn => by have := jbQ hn; omega, fun hm hn => by have := jbQ hn; omega⟩
 | succ m ih0 =>
 intro hm0
 have ih := ih0 (by omega)
 have hm30 : m ≤ 2 ^ 30 := by omega
 refine ⟨?_, ?_⟩
 ·intro n q H t hm hn hi hS hd hq k hk
  refine cQdb _ _ ?_
  unfold vQdb
  obtain ⟨op, tx, nm, l, a, c, L, rfl, rfl, na⟩ := hq.some' hn
  simp only [Option.map_some, NilCk_some, adr_add]
  have hcn : cnt (.mk op tx nm l a) = 1 + jaK l := by simp [cnt]
  have htl : tx.length ≤ 16 := hn.tlen
  have hE1 : 10 ≤ op := hS.1
  have hE2 : op ≤ 22 := hS.2
  have hT := jhb t
  have kid : ∀ {x : Nd}, x ∈ l → okN x ∧ jcM x ∧ cnt x ≤ m ∧ dpN x ≤ dpL l := fun {x} hx => ⟨jaM hn.2 _ hx, jaE hi.2 _ hx, by have := jaH hx; omega, jf8 hx⟩
  have hdl : dpL l ≤ dpN (.mk op tx nm l a) := by simp only [dpN]; omega
  have ex : ∀ {x : Nd}, x ∈ l → isE x → Ex x ∧ (exT x).length + 2 ≤ 64 * 2 ^ 30 := fun {x} hx hxe => by
   obtain ⟨h1, h2, h3, _⟩ := kid hx
   have := jbb h1 h2
   exact ⟨ex_of h1 hxe h2 (by omega), by omega⟩
  have bd : ∀ {x : Nd} {q : Option Nat} {H1 : jaa}, x ∈ l → x.op = 5 → LD H1 x q → Wr fQek [pN q, .string ⟨⟨ja9 t⟩⟩] (jcG t x) H1 ∧ (jcG t x).length ≤ 2 ^ 39 := fun {x q H1} hx ho hlx => by
   obtain ⟨h1, h2, h3, h4⟩ := kid hx
   have := jb6 (t := t) h1 h2 ho (by omega)
   exact ⟨s_body hm30 ih h3 h1 h2 ho (by omega) hlx, by omega⟩
  refine jaf na.c0 ?_
  by_cases e : op = 10
  ·subst e
   obtain ⟨_, x, rfl, hx, hxe⟩ := ok10 hn
   obtain ⟨ex, hxl⟩ := ex (by simp) hxe
   obtain ⟨ad, q0, ix, hc, hl0⟩ := na.kid 0 x rfl
   refine jah rfl (jap na.c1 (Cat (by simp; omega) (Cat (by simp; omega) (jam na.c3 (ix rfl (jan hc ?_))))))
   refine ex hl0 fun H1 e1 => jaQ e1 (sc na.c3 (sc na.c1 sn)) (Cat (by simp; omega) (Cat (by simp; omega) (kx (hk H1 e1) ?_)))
   rw [stS (by decide) (by decide) (by decide)]; simp [jcP]
  refine jai e ?_
  by_cases e : op = 11
  ·subst e
   obtain ⟨_, x, rfl, hx, hxe⟩ := ok11 hn
   obtain ⟨ex, hxl⟩ := ex (by simp) hxe
   obtain ⟨ad, q0, ix, hc, hl0⟩ := na.kid 0 x rfl
   refine jah rfl (jap na.c1 (Cat (by simp; omega) (jam na.c3 (ix rfl (jan hc ?_)))))
   refine ex hl0 fun H1 e1 => jaQ e1 (sc na.c3 (sc na.c1 sn)) (Cat (by simp; omega) (Cat (by simp; omega) (kx (hk H1 e1) ?_)))
   rw [stS (by decide) (by decide) (by decide)]; simp [jcP]
  refine jai e ?_
  by_cases e : op = 12
  ·subst e
   obtain ⟨_, x, y, rfl, hx, hy, hxo, hye⟩ := ok12 hn
   obtain ⟨ey, hyl⟩ := ex (x := y) (by simp) hye
   obtain ⟨ad, q0, ix, hc, hl0⟩ := na.kid 0 x rfl
   obtain ⟨ad1, q1, iy, hc1, hl1⟩ := na.kid 1 y rfl
   obtain ⟨op2, tx2, nm2, l2, a2, c2, L2, rfl, rfl, na2⟩ := hl0.some' hx
   have htx2 : tx2.length ≤ 16 := hx.tlen
   refine jah rfl (jap na.c1 (Cat (by simp; omega) (jam na.c3 (ix rfl (jan hc ?_)))))
   simp only [Option.map_some, NilCk_some, adr_add]
   refine jap na2.c1 (Cat (by simp; omega) (Cat (by simp; omega) (jam na.c3 (iy rfl (jan hc1 ?_)))))
   refine ey hl1 fun H1 e1 => jaQ e1 (sc na.c3 (sc na2.c1 (sc hc (sc na.c3 (sc na.c1 sn))))) (Cat (by simp; omega) (Cat (by simp; omega) (kx (hk H1 e1) ?_)))
   rw [stS (by decide) (by decide) (by decide)]; simp [jcP, Nd.tx]
  refine jai e ?_
  by_cases e : op = 13
  ·subst e
   obtain ⟨_, co, bk, hco, hcoe, hbk, hbko, hl2⟩ := ok13 hn
   have hg0 : l[0]? = some co := by rcases hl2 with rfl | ⟨_, rfl, _⟩ <;> rfl
   have hg1 : l[1]? = some bk := by rcases hl2 with rfl | ⟨_, rfl, _⟩ <;> rfl
   obtain ⟨ec, hcl⟩ := ex (ja5 hg0) hcoe
   obtain ⟨ad, q0, ix, hc, hl0⟩ := na.kid 0 co hg0
   obtain ⟨ad1, q1, iy, hc1, hl1⟩ := na.kid 1 bk hg1
   refine jah rfl (jam na.c3 (ix rfl (jan hc (jam na.c3 (iy rfl (jan hc1 ?_))))))
   refine ec hl0 fun H1 e1 => jaQ e1 (sc hc1 (sc na.c3 (sc na.c3 sn))) (Cat (by simp; omega) ?_)
   obtain ⟨wb, hbl⟩ := bd (ja5 hg1) hbko (hl1.ext e1)
   refine wb fun H2 e2 => ?_
   have e12 := eE e1 e2
   refine jaQ e12 (sc na.c3 (sc hc (sc na.c3 sn))) (Cat (by simp; omega) (jam (cu e12 na.c3) ?_))
   rw [na.len]
   rcases hl2 with rfl | ⟨e, rfl, heo, heop⟩
   ·exact ja1 (by show (2 : Int) < 3; decide) (kx (hk H2 e12) (by rw [st13a]))
   ·refine jbS (by show ¬ (3 : Int) < 3; decide) ?_
    obtain ⟨ad3, q3, iz, hc3, hl3⟩ := na.kid 2 e rfl
    obtain ⟨op4, tx4, nm4, l4, a4, c4, L4, rfl, rfl, na4⟩ := hl3.some' heo
    refine jam (cu e12 na.c3) (iz rfl (jan (cu e12 hc3) ?_))
    simp only [Option.map_some, NilCk_some, adr_add]
    refine jaf (cu e12 na4.c0) ?_
    obtain ⟨k1, k2, k3, k4⟩ := kid (x := .mk op4 tx4 nm4 l4 a4) (by simp)
    rcases heop with e5 | e13
    ·have e5 : op4 = 5 := e5
     subst e5
     obtain ⟨wb2, hbl2⟩ := bd (x := .mk 5 tx4 nm4 l4 a4) (by simp) rfl (hl3.ext e12)
     refine jai (by decide) (Cat (by simp; omega) (jam (cu e12 na.c3) (iz rfl (jan (cu e12 hc3) (wb2 fun H3 e3 => Cat (by simp; omega) (kx (hk H3 (eE e12 e3)) ?_))))))
     rw [jmq, if_neg (by show ¬ (5 : Int) = 13; decide)]
    ·have e13 : op4 = 13 := e13
     subst e13
     have hsl := jiO (t := t) k1 k2 (by omega)
     refine jah rfl (Cat (by simp; omega) (jam (cu e12 na.c3) (iz rfl (jan (cu e12 hc3) (ih.st k3 k1 k2 (by show (10 : Int) ≤ 13 ∧ (13 : Int) ≤ 22; decide) (by omega) (hl3.ext e12) fun H3 e3 => Cat (by simp; omega) (kx (hk H3 (eE e12 e3)) ?_))))))
     rw [jmq, if_pos (by rfl)]; simp
  refine jai e ?_
  by_cases e : op = 14
  ·subst e
   obtain ⟨_, co, bk, rfl, hco, hcoe, hbk, hbko⟩ := ok14 hn
   obtain ⟨ec, hcl⟩ := ex (x := co) (by simp) hcoe
   obtain ⟨ad, q0, ix, hc, hl0⟩ := na.kid 0 co rfl
   obtain ⟨ad1, q1, iy, hc1, hl1⟩ := na.kid 1 bk rfl
   refine jah rfl (jam na.c3 (ix rfl (jan hc (jam na.c3 (iy rfl (jan hc1 ?_))))))
   refine ec hl0 fun H1 e1 => jaQ e1 (sc hc1 (sc na.c3 (sc na.c3 sn))) (Cat (by simp; omega) ?_)
   obtain ⟨wb, hbl⟩ := bd (x := bk) (by simp) hbko (hl1.ext e1)
   exact wb fun H2 e2 => jaQ (eE e1 e2) (sc na.c3 (sc hc (sc na.c3 sn))) (Cat (by simp; omega) (kx (hk H2 (eE e1 e2)) (by rw [st14])))
  refine jai e ?_
  by_cases e : op = 15
  ·subst e
   obtain ⟨_, co, bk, rfl, hco, hcoe, hbk, hbko⟩ := ok15 hn
   obtain ⟨ec, hcl⟩ := ex (x := co) (by simp) hcoe
   obtain ⟨ad, q0, ix, hc, hl0⟩ := na.kid 0 co rfl
   obtain ⟨ad1, q1, iy, hc1, hl1⟩ := na.kid 1 bk rfl
   refine jah rfl (jam na.c3 (ix rfl (jan hc (jam na.c3 (iy rfl (jan hc1 ?_))))))
   refine ec hl0 fun H1 e1 => jaQ e1 (sc hc1 (sc na.c3 (sc na.c3 sn))) (Cat (by simp; omega) ?_)
   obtain ⟨wb, hbl⟩ := bd (x := bk) (by simp) hbko (hl1.ext e1)
   exact wb fun H2 e2 => jaQ (eE e1 e2) (sc na.c3 (sc hc (sc na.c3 sn))) (Cat (by simp; omega) (kx (hk H2 (eE e1 e2)) (by rw [st15])))
  refine jai e ?_
  by_cases e : op = 16
  ·subst e
   obtain ⟨_, x, y, rfl, hx, hy, hxe, hye⟩ := ok16 hn
   obtain ⟨ex1, hxl⟩ := ex (x := x) (by simp) hxe
   obtain ⟨ey, hyl⟩ := ex (x := y) (by simp) hye
   obtain ⟨ad, q0, ix, hc, hl0⟩ := na.kid 0 x rfl
   obtain ⟨ad1, q1, iy, hc1, hl1⟩ := na.kid 1 y rfl
   refine jah rfl (jam na.c3 (ix rfl (jan hc (jam na.c3 (iy rfl (jan hc1 ?_))))))
   refine ex1 hl0 fun H1 e1 => jaQ e1 (sc hc1 (sc na.c3 (sc na.c3 sn))) (Cat (by simp; omega) (Cat (by simp; omega) ?_))
   refine ey (hl1.ext e1) fun H2 e2 => jaQ (eE e1 e2) (sc na.c3 (sc hc (sc na.c3 sn))) (Cat (by simp; omega) (Cat (by simp; omega) (kx (hk H2 (eE e1 e2)) ?_)))
   rw [stS (by decide) (by decide) (by decide)]; simp [jcP]
  refine jai e ?_
  by_cases e : op = 17
  ·subst e
   obtain ⟨_, hks⟩ := ok17 hn
   have hpl := jc9 (f := jbt) (g := cnt) (l := l) (fun n hn' => jdd (jaM hn.2 n hn') (jaE hi.2 n hn')) true
   rw [jca] at hpl
   refine jah rfl (jam na.c3 ?_)
   rw [na.len]
   cases l with
   | nil =>
     refine (Br_true _ _).2 (kx (hk H (.refl _ _)) ?_)
     rw [stS (by decide) (by decide) (by decide)]; simp [jcP]
   | cons n ns =>
     rw [show (((n :: ns).length : Int) == 0) = false from beq_eq_false_iff_ne.2 (by simp only [List.length_cons]; omega)]
     refine (Br_false _ _).2 (jam na.c3 (jjS na.lst hn.2 hi.2 (fun m hm' => (hks m hm').2) (by omega) fun H1 e1 => Cat (by simp only [List.length_cons, List.length_nil]; omega) (Cat (by simp only [List.length_append, List.length_cons, List.length_nil]; omega) (kx (hk H1 e1) ?_))))
     rw [stS (by decide) (by decide) (by decide)]; simp [jcP]
  refine jai e ?_
  by_cases e : op = 18
  ·subst e
   obtain ⟨_, x, rfl, hx, hxo⟩ := ok18 hn
   have hpl := jdd hx hi.2.1
   simp only [jaK] at hcn
   refine jah rfl (jam na.c3 (jjS na.lst hn.2 hi.2 (fun m hm' => by rw [List.mem_singleton.1 hm']; exact hxo) (by simp only [jaK]; omega) fun H1 e1 => Cat (by simp [jbe]; omega) (Cat (by simp [jbe]; omega) (kx (hk H1 e1) ?_))))
   rw [stS (by decide) (by decide) (by decide)]; simp [jcP, jbe]
  refine jai e ?_
  by_cases e : op = 19
  ·subst e
   refine jah rfl (jap na.c1 (Cat (by simp; omega) (Cat (by simp; omega) (kx (hk H (.refl _ _)) ?_))))
   rw [stS (by decide) (by decide) (by decide)]; simp [jcP]
  refine jai e ?_
  by_cases e : op = 20
  ·subst e
   refine jah rfl (kx (hk H (.refl _ _)) ?_)
   rw [stS (by decide) (by decide) (by decide)]; simp [jcP]
  refine jai e ?_
  by_cases e : op = 21
  ·subst e
   refine jah rfl (kx (hk H (.refl _ _)) ?_)
   rw [stS (by decide) (by decide) (by decide)]; simp [jcP]
  have e22 : op = 22 := by omega
  subst e22
  obtain ⟨_, x, rfl, hx, hxe⟩ := ok22 hn
  obtain ⟨ex, hxl⟩ := ex (by simp) hxe
  obtain ⟨ad, q0, ix, hc, hl0⟩ := na.kid 0 x rfl
  refine jai e (jam na.c3 (ix rfl (jan hc (ex hl0 fun H1 e1 => Cat (by simp; omega) (Cat (by simp; omega) (kx (hk H1 e1) ?_))))))
  rw [stS (by decide) (by decide) (by decide)]; simp [jcP]
 ·intro n q H t hm hn hi ho hd hq k hk
  refine cQc6 _ _ ?_
  unfold vQc6
  obtain ⟨op, tx, nm, l, a, c, L, rfl, rfl, na⟩ := hq.some' hn
  have ho : op = 5 := ho
  subst ho
  simp only [Option.map_some, NilCk_some, adr_add]
  have hcn : cnt (.mk 5 tx nm l a) = 1 + jaK l := by simp [cnt]
  have hdn : dpN (.mk 5 tx nm l a) = 1 + dpL l := by simp [dpN]
  have hT := jhb t
  have hle := jbw hn.2
  have hsl := jft (ns := l) (t := t) hn.2 hi.2 (by omega)
  obtain ⟨_, hall⟩ := ok5 hn
  have ek : (Nd.mk 5 tx nm l a).ks = l := rfl
  rw [ek] at hk
  refine LoopT.ghost (fun m' (s : ByteArray × Int) H' => ∃ (i : Nat) (u : Txt), Ext H H' ∧ s = (⟨⟨u⟩⟩, ((i : Nat) : Int)) ∧ m' = l.length - i ∧ i ≤ l.length ∧ jfs t l = u ++ jfs t (l.drop i)) l.length ⟨0, [], .refl _ _, rfl, rfl, Nat.zero_le _, rfl⟩ ?_
  rintro next _ _ H1 ⟨i, u, e1, rfl, rfl, hi', hs⟩ hnext
  dsimp only
  refine jam (cu e1 na.c3) ?_
  rw [na.len]
  refine jaj (fun hlt => ?_) fun hge => ?_
  ·have hil : i < l.length := by omega
   have hg : l[i]? = some l[i] := List.getElem?_eq_getElem hil
   have hmem := List.getElem_mem hil
   generalize l[i] = x at hg hmem
   obtain ⟨hxo, hxop⟩ := hall x hmem
   have hxi := jaE hi.2 x hmem
   have hxc := jaH hmem
   have hxd := jf8 hmem
   rw [jhW hg] at hs
   have hsl2 := congrArg List.length hs
   simp only [List.length_append, List.length_cons, List.length_nil] at hsl2
   obtain ⟨ad, q0, ix, hc, hl0⟩ := na.kid i x hg
   refine Cat (by omega) (jam (cu e1 na.c3) (ix rfl (jan (cu e1 hc) (ih.st (by omega) hxo hxi hxop (by omega) (hl0.ext e1) fun H2 e2 => ?_))))
   refine Cat (by simp only [List.length_append]; omega) (Cat (by simp only [List.length_append, List.length_cons, List.length_nil]; omega) (Lt.mk (u := ((i + 1 : Nat) : Int)) (by rw [jac] <;> omega) (hnext (l.length - (i + 1)) _ _ (by omega) ⟨i + 1, _, eE e1 e2, rfl, rfl, by omega, ?_⟩)))
   rw [hs]; simp
  ·have hil : i = l.length := by omega
   subst hil
   rw [List.drop_length] at hs
   exact kx (hk H1 e1) (by rw [hs]; simp [jfs])
end
end Go.Proofs.YtfpmgpblhhcpgaaGreatDoor
namespace Go.Proofs.YtfpmgpblhhcpgaaGreatDoor.Hc.Syn
set_option maxRecDepth 100000
section
open Go Hc Hc.Lex
def pd (b : Bool) : Nat := if b then 1 else 0
mutual
def ndN : Nd → Nat
 | .nil => 0
 | .mk op tx _ l _ =>
   if op = 33 then (match l with
    | x :: y :: _ => max (pd (jaX (jat tx) false x) + ndN x) (pd (jaX (jat tx) true y) + ndN y)
    | _ => 0)
   else if op = 35 then (match l with
    | x :: y :: z :: _ => max (pd (jaX 0 false x) + ndN x) (1 + max (ndN y) (ndN z))
    | _ => 0)
   else if op = 34 then (match l with
    | x :: _ => 1 + (pd (jaX 7 false x) + ndN x)
    | _ => 0)
   else (if op = 36 ∨ op = 5 ∨ op = 23 then 1 else 0) + ndL l
def ndL : List Nd → Nat
 | [] => 0
 | n :: ns => max (ndN n) (ndL ns)
end
mutual
def stN : Nd → Nat
 | .nil => 0
 | .mk op _ _ l _ => (if 10 ≤ op ∧ op ≤ 22 then 1 else 0) + stL l
def stL : List Nd → Nat
 | [] => 0
 | n :: ns => stN n + stL ns
end
def lvE (n : Nd) : Nat := if n.op = 35 then 0 else if n.op = 33 then (jat n.tx).toNat else 7
theorem ndo {op : Int} (tx : Txt) (nm : Int) (l : List Nd) (a : Int) (h3 : op ≠ 33) (h4 : op ≠ 34) (h5 : op ≠ 35) : ndN (.mk op tx nm l a) = (if op = 36 ∨ op = 5 ∨ op = 23 then 1 else 0) + ndL l := by unfold ndN; rw [if_neg h3, if_neg h5, if_neg h4]
abbrev nmOk (op nm : Int) : Prop := (-9223372036854775808 ≤ nm ∧ nm ≤ 9223372036854775807) ∧ (op = 30 ∨ nm = 0)
theorem nm0 {op : Int} : nmOk op 0 := ⟨by decide, .inr rfl⟩
mutual
def nmN : Nd → Prop
 | .nil => True
 | .mk op _ nm l _ => nmOk op nm ∧ nmL l
def nmL : List Nd → Prop
 | [] => True
 | n :: ns => nmN n ∧ nmL ns
end
def Gd {α : Type} (r : R α) (Q : α → PS → Prop) : Prop := ∀ a s', r = some (.ok (a, s')) → Q a s'
section
variable {α β : Type} {P Q : α → PS → Prop}
theorem Gd.bind {A : R α} {F : α → PS → R β} {Q : β → PS → Prop} (h : Gd A P) (hF : ∀ a s, P a s → Gd (F a s) Q) : Gd (A.bind F) Q := fun b s' e => by
 obtain ⟨a, s, h1, h2⟩ := jao e
 exact hF a s (h a s h1) b s' h2
theorem Gd.ret {a : α} {s : PS} (h : Q a s) : Gd (jbo a s) Q := fun b s' e => by
 obtain ⟨rfl, rfl⟩ := jaI e; exact h
theorem Gd.fail {e : Int} {s : PS} : Gd (jeJ e s) Q := fun b s' e => by cases e
theorem Gd.no : Gd none Q := fun b s' e => by cases e
theorem Gd.mono {A : R α} (h : Gd A P) (hpq : ∀ a s, P a s → Q a s) : Gd A Q := fun a s' e => hpq _ _ (h a s' e)
theorem Gd.ite {c : Prop} [Decidable c] {A B : R α} (h1 : c → Gd A Q) (h2 : ¬ c → Gd B Q) : Gd (if c then A else B) Q := by
 split
 ·exact h1 ‹_›
 ·exact h2 ‹_›
end
def NumOk (t : Tk) : Prop := t.kind = 2 → jdl 0 t.text ≤ 9223372036854775807
abbrev jjK (s : PS) : Prop := ∀ t ∈ s.toks, NumOk t
structure Sf (s s' : PS) (k m : Nat) : Prop where
 n : s'.N + k ≤ s.N
 d : s'.deep = s.deep
 t : s'.stmts = s.stmts + (m : Nat)
 l : s.stmts ≤ 200 → s'.stmts ≤ 200
 a : jjK s → jjK s'
theorem Sf.rfl' {s : PS} : Sf s s 0 0 := ⟨by simp, rfl, by simp, id, id⟩
theorem Sf.tr {s s1 s2 : PS} {k k' m m' : Nat} (h : Sf s s1 k m) (h' : Sf s1 s2 k' m') : Sf s s2 (k + k') (m + m') :=
 ⟨by have := h.n; have := h'.n; omega, h'.d.trans h.d, by rw [h'.t, h.t]; omega, fun g => h'.l (h.l g), fun g => h'.a (h.a g)⟩
theorem Sf.le {s s1 : PS} {k k' m : Nat} (h : Sf s s1 k m) (hk : k' ≤ k) : Sf s s1 k' m := ⟨by have := h.n; omega, h.d, h.t, h.l, h.a⟩
theorem Loc.of' {op nm : Int} {tx : Txt} {l : List Nd} {k : Nat} {sl : List Int} {more : Bool} {m : Nat} (hf : jcl op = some (k, sl, more, m)) (ht : jaN k tx = true) (hm : m ≤ l.length) (hn : l.length ≤ sl.length ∨ more = true) (hs : jnm sl l)
 (hc : je3 op l = true := by rfl) (h30 : op = 30 → 0 ≤ nm := by decide) : Loc op tx nm l := ⟨⟨k, sl, more, m, hf, ht, hm, hn, hs⟩, hc, h30⟩
theorem jnh {s : Int} : ∀ {l : List Nd}, (∀ n ∈ l, jaz n.op s = true) → jnm [s] l
 | [], _ => trivial
 | m :: ms, h => ⟨h m (List.mem_cons_self ..), jnh fun n hn => h n (List.mem_cons_of_mem _ hn)⟩
structure PE (lv : Nat) (s : PS) (n : Nd) (s' : PS) : Prop where
 ok : okN n
 e : isE n
 i : nmN n
 dp : dpN n = 0
 st : stN n = 0
 f : Sf s s' (cnt n) 0
 nd : s.deep + pd (decide (lvE n < lv)) + ndN n ≤ 20
structure PA (s : PS) (l : List Nd) (s' : PS) : Prop where
 ok : okL l
 e : ∀ n ∈ l, isE n
 i : nmL l
 dp : dpL l = 0
 st : stL l = 0
 f : Sf s s' (jaK l) 0
 nd : s.deep + ndL l ≤ 20
theorem jg2 {l k : List Nd} (h : okL l) (h' : okL k) : okL (l ++ k) := by
 induction l with
 | nil => exact h'
 | cons n l ih => exact ⟨h.1, ih h.2⟩
theorem jhc {l k : List Nd} (h : nmL l) (h' : nmL k) : nmL (l ++ k) := by
 induction l with
 | nil => exact h'
 | cons n l ih => exact ⟨h.1, ih h.2⟩
theorem jhq (l k : List Nd) : dpL (l ++ k) = max (dpL l) (dpL k) := by
 induction l with
 | nil => simp [dpL]
 | cons n l ih => simp only [List.cons_append, dpL, ih]; omega
theorem jg7 (l k : List Nd) : stL (l ++ k) = stL l + stL k := by
 induction l with
 | nil => simp [stL]
 | cons n l ih => simp only [List.cons_append, stL, ih]; omega
theorem jha (l k : List Nd) : ndL (l ++ k) = max (ndL l) (ndL k) := by
 induction l with
 | nil => simp [ndL]
 | cons n l ih => simp only [List.cons_append, ndL, ih]; omega
theorem jet (l k : List Nd) : jaK (l ++ k) = jaK l + jaK k := by
 induction l with
 | nil => simp [jaK]
 | cons n l ih => simp only [List.cons_append, jaK, ih]; omega
theorem PA.nil {s : PS} (hd : s.deep ≤ 20) : PA s [] s := ⟨trivial, fun n h => (by cases h), trivial, rfl, rfl, Sf.rfl', (by simp [ndL]; exact hd)⟩
theorem PA.snoc {s s1 s2 s3 : PS} {l : List Nd} {n : Nd} (h : PA s l s1) (hs : Sf s1 s2 0 0) (h' : PE 0 s2 n s3) : PA s (l ++ [n]) s3 := by
 have hf : Sf s s3 (jaK l + 0 + cnt n) (0 + 0 + 0) := (h.f.tr hs).tr h'.f
 refine ⟨jg2 h.ok ⟨h'.ok, trivial⟩, fun m hm => ?_, jhc h.i ⟨h'.i, trivial⟩, ?_, ?_, ?_, ?_⟩
 ·rcases List.mem_append.1 hm with g | g
  ·exact h.e m g
  ·simp only [List.mem_singleton] at g; rw [g]; exact h'.e
 ·rw [jhq, h.dp]; simp [dpL, h'.dp]
 ·rw [jg7, h.st]; simp [stL, h'.st]
 ·rw [jet]; simpa [jaK] using hf
 ·rw [jha]; simp only [ndL]
  have := h.nd; have := h'.nd; have := hs.d; have := h.f.d
  omega
structure WE (f : Nat) : Prop where
 ex : ∀ lv s, lv ≤ 7 → s.deep ≤ 20 → jjK s → Gd (exP f lv s) (PE lv s)
 un : ∀ w s, (w = [45] ∨ w = [33]) → s.deep ≤ 20 → jjK s → Gd (unP f w s) (PE 7 s)
 bi : ∀ lv s0 n s, 1 ≤ lv → lv ≤ 6 → s0.deep ≤ 20 → jjK s0 → PE lv s0 n s → Gd (jiV f lv n s) (PE lv s0)
 pr : ∀ s, s.deep ≤ 20 → jjK s → Gd (jey f s) (PE 7 s)
 ar : ∀ s, s.deep ≤ 20 → jjK s → Gd (je0 f s) fun l s' => PA { s with deep := s.deep + 1 } l { s' with deep := s'.deep + 1 }
 al : ∀ s0 l s, s0.deep ≤ 20 → jjK s0 → PA s0 l s → Gd (jen f l s) (PA s0)
theorem Sf.deep {s s' : PS} {k m : Nat} (h : Sf s s' k m) (d : Int) : Sf { s with deep := d } { s' with deep := d } k m := ⟨h.n, rfl, h.t, h.l, h.a⟩
end
section
open Go Hc Hc.Lex
variable {F : Nat}
structure PB (m : Nat) (s : PS) (n : Nd) (s' : PS) : Prop where
 ok : okN n
 i : nmN n
 dp : s.deep + dpN n ≤ 20
 f : Sf s s' (cnt n) m
 nd : s.deep + ndN n ≤ 20
structure PL (s : PS) (l : List Nd) (s' : PS) : Prop where
 ok : okL l
 i : nmL l
 dp : s.deep + dpL l ≤ 20
 f : Sf s s' (jaK l) (stL l)
 nd : s.deep + ndL l ≤ 20
theorem PL.nil {s : PS} (hd : s.deep ≤ 20) : PL s [] s := ⟨trivial, trivial, (by simp [dpL]; exact hd), Sf.rfl', (by simp [ndL]; exact hd)⟩
theorem PL.snoc {s s1 s2 s3 : PS} {l : List Nd} {n : Nd} (h : PL s l s1) (hs : Sf s1 s2 0 0) (h' : PB (stN n) s2 n s3) : PL s (l ++ [n]) s3 := by
 have hf : Sf s s3 (jaK l + 0 + cnt n) (stL l + 0 + stN n) := (h.f.tr hs).tr h'.f
 have hd : s2.deep = s.deep := hs.d.trans h.f.d
 refine ⟨jg2 h.ok ⟨h'.ok, trivial⟩, jhc h.i ⟨h'.i, trivial⟩, ?_, ?_, ?_⟩
 ·rw [jhq]; simp only [dpL]
  have := h.dp; have := h'.dp
  omega
 ·rw [jet, jg7]; simpa [jaK, stL] using hf
 ·rw [jha]; simp only [ndL]
  have := h.nd; have := h'.nd
  omega
def PSt (s : PS) (n : Nd) (s' : PS) : Prop := (10 ≤ n.op ∧ n.op ≤ 22) ∧ ∃ m, stN n = m + 1 ∧ PB m s n s'
section
variable (s : PS) (hd : s.deep ≤ 20) (ha : jjK s) (h0 : s.hd.kind ≠ 0)
include hd ha h0
end
structure WS (F f : Nat) : Prop where
 block : ∀ s, s.deep ≤ 20 → jjK s → Gd (ja2 F f s) fun n s' => PB (stN n) s n s' ∧ n.op = 5
 stmts : ∀ s0 l s, s0.deep ≤ 20 → jjK s0 → PL s0 l s → (∀ n ∈ l, 10 ≤ n.op ∧ n.op ≤ 22) → Gd (jcF F f l s) fun l' s' => PL s0 l' s' ∧ ∀ n ∈ l', 10 ≤ n.op ∧ n.op ≤ 22
 stmt : ∀ s, s.deep ≤ 20 → jjK s → Gd (jeq F f s) fun n s' => PB (stN n) s n s' ∧ 10 ≤ n.op ∧ n.op ≤ 22
 branch : ∀ s, s.deep ≤ 20 → jjK s → s.hd.kind ≠ 0 → Gd (jbg F f s) fun n s' => PSt s n s' ∧ n.op = 13
 turns : ∀ s, s.deep ≤ 20 → jjK s → s.hd.kind ≠ 0 → Gd (jb7 F f s) (PSt s)
end
section
open Go Hc Hc.Lex
variable {F : Nat}
structure CL (s : PS) (ws : List Txt) (l : List Nd) (s' : PS) : Prop where
 ok : okL l
 i : nmL l
 dp : dpL l = 0
 st : stL l = 0
 nd : ndL l = 0
 op : ∀ n ∈ l, n.op = 3
 tx : l.map Nd.tx = ws
 f : Sf s s' (jaK l - l.length) 0
 c : l.length ≤ jaK l
theorem jgy : ∀ {l : List Nd}, okL l → (∀ n ∈ l, n.op = 31) → dpL l = 0 ∧ ndL l = 0
 | [], _, _ => ⟨rfl, rfl⟩
 | n :: l, hk, ho => by
   obtain ⟨h1, h2⟩ := jgy hk.2 fun m hm => ho m (List.mem_cons_of_mem _ hm)
   have h31 := ho n (List.mem_cons_self ..)
   obtain ⟨op, tx, nm, k, a, rfl⟩ := hk.1.op
   have h31 : op = 31 := h31
   subst h31
   obtain ⟨_, rfl⟩ := ok31 hk.1
   refine ⟨?_, ?_⟩
   ·simp [dpL, dpN, h1]
   ·simp only [ndL, h2]; rw [ndo _ _ _ _ (by decide) (by decide) (by decide), if_neg (by decide)]; rfl
theorem jln (w : Txt) (h : w ∈ clauseW) : (clauseW ++ [[102, 117, 110, 99]]).contains w = true := by
 rw [List.contains_iff_mem]; exact List.mem_append_left _ h
theorem CL.snoc {s s1 s2 : PS} {ws : List Txt} {l k : List Nd} {w : Txt} {a : Int} (h : CL s ws l s1) (hw : w ∈ clauseW) (hk : okL k) (hi : nmL k) (ho : ∀ n ∈ k, n.op = 31) (hst : stL k = 0) (hf : Sf s1 s2 (jaK k) 0) : CL s (ws ++ [w]) (l ++ [.mk 3 w 0 k a]) s2 := by
 obtain ⟨p1, p2⟩ := jgy hk ho
 refine ⟨jg2 h.ok ⟨⟨Loc.of' (k := 2) (sl := [6]) (more := true) (m := 0) rfl (jln w hw) (by simp) (.inr rfl) (jnh fun n hn => by rw [ho n hn]; rfl), hk⟩, trivial⟩, jhc h.i ⟨⟨nm0, hi⟩, trivial⟩, ?_, ?_, ?_, fun n hn => ?_, ?_, ?_, ?_⟩
 ·rw [jhq, h.dp]; simp [dpL, dpN, p1]
 ·rw [jg7, h.st]; simp [stL, stN, hst]
 ·rw [jha, h.nd]; simp only [ndL]; rw [ndo _ _ _ _ (by decide) (by decide) (by decide), if_neg (by decide), p2]; rfl
 ·rcases List.mem_append.1 hn with g | g
  ·exact h.op n g
  ·simp only [List.mem_singleton] at g; rw [g]; rfl
 ·rw [List.map_append, h.tx]; rfl
 ·rw [jet, List.length_append]
  refine (h.f.tr hf).le ?_
  simp only [jaK, cnt, List.length_singleton]
  have := h.c; omega
 ·rw [jet, List.length_append]
  simp only [jaK, cnt, List.length_singleton]
  have := h.c; omega
structure PT (s : PS) (n : Nd) (s' : PS) : Prop where
 ok : okN n
 i : nmN n
 dp : s.deep + dpN n ≤ 20
 f : Sf s s' (cnt n - 5) (stN n)
 c : 5 ≤ cnt n ∨ cnt n ≤ 5
 nd : s.deep + ndN n ≤ 20
 p : n.op = 4 → (n.ks.headD .nil).ks.length ≤ 4
abbrev cop (k : Int) (l : List Nd) : Nat := (l.filter fun n => n.op == k).length
structure PP (s : PS) (a b : Int) (l : List Nd) (s' : PS) : Prop where
 ok : okL l
 i : nmL l
 dp : dpL l ≤ 20
 f : Sf s s' (jaK l - 5 * l.length) (stL l)
 nd : ndL l ≤ 20
 op : ∀ n ∈ l, n.op = 2 ∨ n.op = 4
 a : (cop 2 l : Int) = a ∧ a ≤ 16
 b : (cop 4 l : Int) = b ∧ b ≤ 16
 p : ∀ n ∈ l, n.op = 4 → (n.ks.headD .nil).ks.length ≤ 4
theorem PP.snoc {s s1 s2 : PS} {a b a' b' : Int} {l : List Nd} {n : Nd} (h : PP s a b l s1) (h' : PT s1 n s2) (hd : s1.deep = 0) (ho : (n.op = 2 ∧ a' = a + 1 ∧ b' = b) ∨ (n.op = 4 ∧ a' = a ∧ b' = b + 1)) (ha : a' ≤ 16) (hb : b' ≤ 16) : PP s a' b' (l ++ [n]) s2 := by
 have hf := h.f.tr h'.f
 have q1 := h'.dp; have q2 := h'.nd
 refine ⟨jg2 h.ok ⟨h'.ok, trivial⟩, jhc h.i ⟨h'.i, trivial⟩, ?_, ?_, ?_, fun m hm => ?_, ⟨?_, ha⟩, ⟨?_, hb⟩, fun m hm e => ?_⟩
 ·rw [jhq]; simp only [dpL]; have := h.dp; omega
 ·rw [jet, jg7, List.length_append]
  simp only [jaK, stL, List.length_singleton, Nat.add_zero]
  exact hf.le (by omega)
 ·rw [jha]; simp only [ndL]; have := h.nd; omega
 ·rcases List.mem_append.1 hm with g | g
  ·exact h.op m g
  ·simp only [List.mem_singleton] at g; rw [g]; rcases ho with g | g
   ·exact .inl g.1
   ·exact .inr g.1
 ·unfold cop
  rw [List.filter_append, List.length_append]
  have := h.a.1
  rcases ho with ⟨g, e1, e2⟩ | ⟨g, e1, e2⟩
  ·have : (List.filter (fun n => n.op == 2) [n]).length = 1 := by simp [g]
   rw [this]; unfold cop at *; omega
  ·have : (List.filter (fun n => n.op == 2) [n]).length = 0 := by simp [g]
   rw [this]; unfold cop at *; omega
 ·unfold cop
  rw [List.filter_append, List.length_append]
  have := h.b.1
  rcases ho with ⟨g, e1, e2⟩ | ⟨g, e1, e2⟩
  ·have : (List.filter (fun n => n.op == 4) [n]).length = 0 := by simp [g]
   rw [this]; unfold cop at *; omega
  ·have : (List.filter (fun n => n.op == 4) [n]).length = 1 := by simp [g]
   rw [this]; unfold cop at *; omega
 ·rcases List.mem_append.1 hm with g | g
  ·exact h.p m g e
  ·simp only [List.mem_singleton] at g; rw [g] at e ⊢; exact h'.p e
structure WfT (n : Nd) : Prop where
 ok : okN n
 op : n.op = 1
 i : nmN n
 cnt : cnt n ≤ 9200
 dp : dpN n ≤ 20
 nd : ndN n ≤ 20
 st : stN n ≤ 200
 sys : cop 2 n.ks ≤ 16
 fun' : cop 4 n.ks ≤ 16
 par : ∀ m ∈ n.ks, m.op = 4 → (m.ks.headD .nil).ks.length ≤ 4
end
section
open Go Hc Hc.Lex
abbrev KT := Nat × Txt
def kt (t : Tk) : KT := (t.kind, t.text)
def parK (b : Bool) (l : List KT) : List KT := if b then (3, [40]) :: (l ++ [(3, [41])]) else l
def comK : Bool → List (List KT) → List KT
 | _, [] => []
 | b, t :: ts => (if b then [] else [(3, [44])]) ++ (t ++ comK false ts)
mutual
def exK : Nd → List KT
 | .nil => []
 | .mk op tx nm l _ =>
   if op = 30 then [(2, jcH nm)]
   else if op = 32 then [(1, tx), (3, [46]), (1, (l.headD .nil).tx)]
   else if op = 33 then (match l with
    | x :: y :: _ => parK (jaX (jat tx) false x) (exK x) ++ ((3, tx) :: parK (jaX (jat tx) true y) (exK y))
    | _ => [])
   else if op = 34 then (match l with
    | x :: _ => (3, tx) :: parK (jaX 7 false x) (exK x)
    | _ => [])
   else if op = 35 then (match l with
    | x :: y :: z :: _ => parK (jaX 0 false x) (exK x) ++ ((3, [63]) :: (exK y ++ ((3, [58]) :: exK z)))
    | _ => [])
   else if op = 36 then (1, tx) :: (3, [40]) :: (comK true (exKs l) ++ [(3, [41])])
   else if op = 37 then [(1, [104, 97, 115]), (3, [40]), (1, tx), (3, [41])]
   else [(1, tx)]
def exKs : List Nd → List (List KT)
 | [] => []
 | n :: ns => exK n :: exKs ns
end
structure At (s : PS) (K : List KT) (d m : Int) : Prop where
 t : s.toks.map kt = K
 d : s.deep = d
 m : s.stmts = m
section
variable {s s' : PS} {K R : List KT} {d m : Int} {k : Nat} {w v : Txt}
theorem At.hd (h : At s ((k, w) :: K) d m) : s.hd.kind = k ∧ s.hd.text = w := by
 obtain ⟨l, e, n⟩ := s
 cases l with
 | nil => have := h.t; simp at this
 | cons t l =>
   have := h.t
   simp only [List.map_cons, List.cons.injEq] at this
   have := this.1
   simp only [kt, Prod.mk.injEq] at this
   exact this
theorem At.take (h : At s ((k, w) :: K) d m) : At s.take K d m := by
 obtain ⟨l, e, n⟩ := s
 refine ⟨?_, h.d, h.m⟩
 cases l with
 | nil => have := h.t; simp at this
 | cons t l =>
   have := h.t
   simp only [List.map_cons, List.cons.injEq] at this
   exact this.2
theorem At.next (h : At s ((k, w) :: K) d m) (hk : k = 1 ∨ k = 3) (v : Txt) : jau v s = (w == v) := by
 unfold jau
 rw [h.hd.1, h.hd.2]
 rcases hk with rfl | rfl <;> simp
theorem At.next0 (h : At s ((k, w) :: K) d m) (hk : ¬ (k = 1 ∨ k = 3)) (v : Txt) : jau v s = false := by
 unfold jau
 rw [h.hd.1]
 have h1 : k ≠ 1 := fun e => hk (.inl e)
 have h3 : k ≠ 3 := fun e => hk (.inr e)
 simp [h1, h3]
theorem At.no (h : At s ((k, w) :: K) d m) (hv : w ≠ v) : jau v s = false := by
 by_cases hk : k = 1 ∨ k = 3
 ·rw [h.next hk]; simpa using hv
 ·exact h.next0 hk v
end
def Cp {α : Type} (r : R α) (Q : α → PS → Prop) : Prop := r = none ∨ ∃ a s', r = some (.ok (a, s')) ∧ Q a s'
section
variable {α β : Type} {P Q : α → PS → Prop} {s : PS} {K : List KT} {d m : Int} {k : Nat} {w : Txt}
theorem Cp.bind {A : R α} {F : α → PS → R β} {Q : β → PS → Prop} (h : Cp A P) (hF : ∀ a s, P a s → Cp (F a s) Q) : Cp (A.bind F) Q := by
 rcases h with rfl | ⟨a, s, rfl, h⟩
 ·exact .inl rfl
 ·exact hF a s h
theorem Cp.ret {a : α} {s : PS} (h : Q a s) : Cp (jbo a s) Q := .inr ⟨a, s, rfl, h⟩
theorem Cp.mono {A : R α} (h : Cp A P) (hpq : ∀ a s, P a s → Q a s) : Cp A Q := by
 rcases h with rfl | ⟨a, s, rfl, h⟩
 ·exact .inl rfl
 ·exact .inr ⟨a, s, rfl, hpq _ _ h⟩
theorem At.up {s : PS} {K : List KT} {d m : Int} (h : At s K (d + 1) m) : At s.up K d m := ⟨h.t, by show s.deep - 1 = d; rw [h.d]; omega, h.m⟩
end
def Nx (lv : Nat) (R : List KT) : Prop := ∃ w R', R = (3, w) :: R' ∧ w ≠ [40] ∧ w ≠ [46] ∧ jat w < (max lv 1 : Nat) ∧ (lv = 0 → w ≠ [63])
theorem Nx.up {lv lv' : Nat} {R : List KT} (h : Nx lv R) (hl : lv ≤ lv') (h0 : lv' ≠ 0) : Nx lv' R := by
 obtain ⟨w, R', e, h1, h2, h3, h4⟩ := h
 exact ⟨w, R', e, h1, h2, by omega, fun e => absurd e h0⟩
abbrev Ex (n : Nd) (R : List KT) (d m : Int) : Nd → PS → Prop := fun n' s' => era n' = era n ∧ At s' R d m
def CE (n : Nd) (lv : Nat) : Prop := ∀ (f : Nat) (s : PS) (R : List KT) (d m : Int), At s (parK (decide (lvE n < lv)) (exK n) ++ R) d m → Nx lv R → d + pd (decide (lvE n < lv)) + ndN n ≤ 20 → Cp (exP f lv s) (Ex n R d m)
def PBn (n : Nd) (lv : Nat) : Prop := ∀ (f : Nat) (s : PS) (R : List KT) (d m : Int), At s (parK (decide (lvE n < lv)) (exK n) ++ R) d m → Nx (lv + 1) R → d + pd (decide (lvE n < lv)) + ndN n ≤ 20 →
 exP f lv s = none ∨ ∃ f' n' s', era n' = era n ∧ At s' R d m ∧ exP f lv s = jiV f' lv n' s'
end
section
open Go Hc Hc.Lex
variable {F : Nat}
def valK (v : Nd) : List KT := (1, v.tx) :: (3, [58]) :: exK (v.ks.headD .nil)
def partK (n : Nd) : List KT := (1, n.tx) :: (3, [123]) :: (comK true (n.ks.map valK) ++ [(3, [125])])
def simK : Nd → List KT
 | .nil => []
 | .mk op tx _ l _ =>
   if op = 10 then (1, [108, 101, 116]) :: (1, tx) :: (3, [61]) :: exK (l.headD .nil)
   else if op = 11 then (1, tx) :: (3, [61]) :: exK (l.headD .nil)
   else if op = 12 then (1, tx) :: (3, [46]) :: (1, (l.headD .nil).tx) :: (3, [61]) :: exK (l.tail.headD .nil)
   else if op = 16 then (1, [101, 109, 105, 116]) :: (exK (l.headD .nil) ++ ((3, [44]) :: exK (l.tail.headD .nil)))
   else if op = 17 then (1, [115, 112, 97, 119, 110]) :: comK true (l.map partK)
   else if op = 18 then (1, [97, 100, 100]) :: partK (l.headD .nil)
   else if op = 19 then [(1, [114, 101, 109, 111, 118, 101]), (1, tx)]
   else if op = 20 then [(1, [100, 105, 101])]
   else if op = 21 then [(1, [115, 116, 111, 112])]
   else if op = 22 then (1, [114, 101, 116, 117, 114, 110]) :: exK (l.headD .nil)
   else []
mutual
def stK : Nd → List KT
 | .nil => []
 | .mk op tx nm l a =>
   if op = 13 then (match l with
    | c :: b :: [] => (1, [105, 102]) :: (exK c ++ blkK b)
    | c :: b :: e :: _ => (1, [105, 102]) :: (exK c ++ (blkK b ++ ((1, [101, 108, 115, 101]) :: (if e.op = 13 then stK e else blkK e))))
    | _ => [])
   else if op = 14 then (match l with
    | c :: b :: _ => (1, [119, 104, 105, 108, 101]) :: (exK c ++ blkK b)
    | _ => [])
   else if op = 15 then (match l with
    | c :: b :: _ => (1, [114, 101, 112, 101, 97, 116]) :: (exK c ++ blkK b)
    | _ => [])
   else simK (.mk op tx nm l a) ++ [(3, [59])]
def blkK : Nd → List KT
 | .nil => []
 | .mk _ _ _ l _ => (3, [123]) :: (stsK l ++ [(3, [125])])
def stsK : List Nd → List KT
 | [] => []
 | n :: ns => stK n ++ stsK ns
end
section
variable {tx : Txt} {nm a : Int} {l : List Nd} {s : PS} {R : List KT} {d m : Int}
end
theorem jaH : ∀ {l : List Nd} {x : Nd}, x ∈ l → cnt x ≤ jaK l
 | y :: l, x, hx => by
   simp only [jaK]
   rcases List.mem_cons.1 hx with rfl | hx
   ·omega
   ·have := jaH hx; omega
def Nr (R : List KT) : Prop := ∃ k w R', R = (k, w) :: R' ∧ w ≠ [101, 108, 115, 101]
theorem At.more {s : PS} {K : List KT} {d m : Int} (h : At s K d m) : At s.more K d (m + 1) := ⟨h.t, h.d, by show s.stmts + 1 = m + 1; rw [h.m]⟩
abbrev St (n : Nd) (R : List KT) (d m : Int) : Nd → PS → Prop := fun n' s' => era n' = era n ∧ At s' R d m
structure BS (F : Nat) (n : Nd) : Prop where
 block : n.op = 5 → ∀ (f : Nat) (s : PS) (R : List KT) (d m : Int), At s (blkK n ++ R) d m → d + ndN n ≤ 20 → m + stN n ≤ 200 → Cp (ja2 F f s) (St n R d (m + stN n))
 stmt : 10 ≤ n.op → n.op ≤ 22 → ∀ (f : Nat) (s : PS) (R : List KT) (d m : Int), At s (stK n ++ R) d m → Nr R → d + ndN n ≤ 20 → m + stN n ≤ 200 → Cp (jeq F f s) (St n R d (m + stN n))
 branch : n.op = 13 → ∀ (f : Nat) (s : PS) (R : List KT) (d m : Int), At s (stK n ++ R) d m → Nr R → d + ndN n ≤ 20 → m + stN n ≤ 201 → Cp (jbg F f s) (St n R d (m + stN n - 1))
end
section
open Go Hc Hc.Lex
variable {F : Nat}
def nmK (n : Nd) : List KT := [(1, n.tx)]
def jnl (l : List Nd) : List KT := comK true (l.map nmK)
def clauseK : Nd → List KT
 | .nil => []
 | .mk _ tx _ l _ => if l.isEmpty then [] else (1, tx) :: jnl l
def thingK : Nd → List KT
 | .nil => []
 | .mk op tx _ l _ =>
   (if op = 4 then (1, [102, 117, 110, 99]) :: (1, tx) :: (3, [40]) :: (jnl (l.headD .nil).ks ++ [(3, [41])])
    else (1, [115, 121, 115, 116, 101, 109]) :: (1, tx) :: (l.take 4).flatMap clauseK) ++ blkK (l.getLastD .nil)
def progK (n : Nd) : List KT := n.ks.flatMap thingK
end
section
open Go Hc Hc.Lex
def Lx (u v : Bs) (K : List KT) : Prop := ∀ p, ∃ ts, ts.map kt = K ∧ jdr p (u ++ v) = pre ts (jdr (p + u.length) v)
theorem Lx.nil (v : Bs) : Lx [] v [] := fun p => ⟨[], rfl, by rw [jiQ]; rfl⟩
theorem Lx.app {u u' v : Bs} {K K' : List KT} (h : Lx u (u' ++ v) K) (h' : Lx u' v K') : Lx (u ++ u') v (K ++ K') := fun p => by
 obtain ⟨ts, e, hl⟩ := h p
 obtain ⟨ts', e', hl'⟩ := h' (p + u.length)
 refine ⟨ts ++ ts', by rw [List.map_append, e, e'], ?_⟩
 rw [List.append_assoc, hl, hl', ji9, List.length_append, Nat.add_assoc]
theorem Lx.cons {c : UInt8} {u' v : Bs} {K K' : List KT} (h : Lx [c] (u' ++ v) K) (h' : Lx u' v K') : Lx (c :: u') v (K ++ K') := Lx.app (u := [c]) h h'
theorem Lx.tok {u v : Bs} {k : Nat} (h : Lex.evL (u ++ v) = .tok k u.length) (hu : u ≠ []) : Lx u v [(k, u)] := fun p => by
 cases u with
 | nil => exact absurd rfl hu
 | cons c t =>
   refine ⟨[⟨k, c :: t, p⟩], rfl, ?_⟩
   rw [List.cons_append] at h ⊢
   rw [jel, h]
   dsimp only
   have e1 : (c :: (t ++ v)).take (c :: t).length = c :: t := by rw [← List.cons_append]; exact List.take_left
   have e2 : (t ++ v).drop ((c :: t).length - 1) = v := by rw [List.length_cons, Nat.add_sub_cancel]; exact List.drop_left
   rw [e1, e2]
def NW (v : Bs) : Prop := v = [] ∨ ∃ c t, v = c :: t ∧ jaP c = false
theorem jjy {p : UInt8 → Bool} : ∀ {u v : Bs}, (∀ c ∈ u, p c = true) → (v = [] ∨ ∃ c t, v = c :: t ∧ p c = false) → ja0 p (u ++ v) = u.length
 | [], v, _, hv => by
   rcases hv with rfl | ⟨c, t, rfl, h⟩
   ·rfl
   ·show ja0 p (c :: t) = 0
    unfold ja0; rw [h]; rfl
 | c :: u, v, hu, hv => by
   rw [List.cons_append]
   unfold ja0
   rw [hu c (List.mem_cons_self ..), jjy (fun x hx => hu x (List.mem_cons_of_mem _ hx)) hv]
   rfl
theorem jib {c : UInt8} (h : jaA c = true) : jbE c = false ∧ c ≠ 47 := by
 unfold jaA at h
 simp only [Bool.or_eq_true, Bool.and_eq_true, decide_eq_true_eq] at h
 have hb : ∀ d : UInt8, d.toNat < 65 → c ≠ d := fun d hd e => by rw [e] at h; omega
 refine ⟨?_, hb 47 (by decide)⟩
 unfold jbE
 have h1 : (c == 32) = false := beq_eq_false_iff_ne.2 (hb 32 (by decide))
 have h2 : (c == 9) = false := beq_eq_false_iff_ne.2 (hb 9 (by decide))
 have h3 : (c == 10) = false := beq_eq_false_iff_ne.2 (hb 10 (by decide))
 have h4 : (c == 13) = false := beq_eq_false_iff_ne.2 (hb 13 (by decide))
 rw [h1, h2, h3, h4]; rfl
theorem ev_of {c : UInt8} {t : Bs} (h1 : jbE c = false) (h2 : jfa (c :: t) = .no) : Lex.evL (c :: t) = jeg (c :: t) := by
 unfold Lex.evL; dsimp only; rw [h1, h2]; rfl
def jjO (u : Txt) : Bool := decide (u.length ≤ 16) && jdU u
theorem lx_word {u v : Bs} (hu : jjO u = true) (hv : NW v) : Lx u v [(1, u)] := by
 unfold jjO at hu
 simp only [Bool.and_eq_true, decide_eq_true_eq] at hu
 obtain ⟨h16, hs⟩ := hu
 cases u with
 | nil => cases hs
 | cons c t =>
   have hs : (jaA c && t.all jaP) = true := hs
   simp only [Bool.and_eq_true, List.all_eq_true] at hs
   obtain ⟨hc, ht⟩ := hs
   obtain ⟨hb, h47⟩ := jib hc
   refine Lx.tok ?_ (by simp)
   have hrun := jjy (p := jaP) (u := c :: t) (v := v) (fun x hx => by
    rcases List.mem_cons.1 hx with rfl | hx
    ·simp [jaP, hc]
    ·exact ht x hx) hv
   rw [List.cons_append] at hrun ⊢
   rw [ev_of hb (jlP h47)]
   unfold jeg
   dsimp only
   rw [if_pos hc, hrun, if_neg (by omega)]
abbrev LxE (n : Nd) : Prop := ∀ v, NW v → Lx (exT n) v (exK n)
end
end Go.Proofs.YtfpmgpblhhcpgaaGreatDoor.Hc.Syn
namespace Go.Proofs.YtfpmgpblhhcpgaaGreatDoor
set_option maxRecDepth 100000
section
open Hc Hc.Lex Hc.Syn
variable {H : jaa}
theorem LstP.lst {L : Sl} {l : List Nd} (h : LstP H L l) : Lst H L l := by
 obtain ⟨h1, h2, h3⟩ := h
 refine ⟨h1, fun i n hi => ?_⟩
 rcases h3 with rfl | ⟨b, o, ha, hk⟩
 ·simp at hi
 ·obtain ⟨q, hc, hl⟩ := hk i n hi
  have hi' : i < l.length := (List.getElem?_eq_some_iff.1 hi).1
  refine ⟨⟨b, o + i, none⟩, q, fun {k j} hj hk => ?_, hc, hl⟩
  subst hj
  refine IxA.mk ha (by omega) (by omega) ?_
  rw [mk_add, Int.toNat_natCast, Nat.mul_one]; exact hk
theorem LstP.ext {L : Sl} {l : List Nd} {H' : jaa} (h : LstP H L l) (hE : Ext H H') : LstP H' L l := by
 obtain ⟨h1, h2, h3⟩ := h
 refine ⟨h1, h2, h3.imp id fun ⟨b, o, ha, hk⟩ => ⟨b, o, ha, fun i n hi => ?_⟩⟩
 obtain ⟨q, hc, hl⟩ := hk i n hi
 exact ⟨q, cu hE hc, hl.ext hE⟩
theorem LstP.drop {L : Sl} {l : List Nd} (h : LstP H L l) {j : Nat} (hj : j ≤ l.length) {i : Int} (hi : i = (j : Nat)) {k : Sl → Prop} (hk : ∀ L', LstP H L' (l.drop j) → k L') : SlA 1 L i (L.len : Nat) (L.cap : Nat) k := by
 obtain ⟨h1, h2, h3⟩ := h
 subst hi
 refine ⟨by omega, by omega, by omega, by omega, hk _ ⟨?_, ?_, ?_⟩⟩
 ·simp only [Int.toNat_natCast, List.length_drop]; omega
 ·simp only [Int.toNat_natCast]; omega
 ·rcases h3 with rfl | ⟨b, o, ha, hkk⟩
  ·exact .inl (by simp)
  ·by_cases e : L.cap = j
   ·exact .inl (List.drop_eq_nil_of_le (by omega))
   ·refine .inr ⟨b, o + j, ?_, fun i n hi => ?_⟩
    ·simp only [Int.toNat_natCast]
     rw [if_neg e, ha]
     show some ((⟨b, o, none⟩ : Addr).add (j * 1)) = _
     rw [mk_add, Nat.mul_one]
    ·rw [List.getElem?_drop] at hi
     obtain ⟨q, hc, hl⟩ := hkk (j + i) n hi
     exact ⟨q, by rw [Nat.add_assoc]; exact hc, hl⟩
theorem jb3 {w : Txt} {a : Array UInt8} {X Y : Prop} (h1 : w = a.toList → X) (h2 : w ≠ a.toList → Y) : Br ((⟨⟨w⟩⟩ : ByteArray).toList == (⟨a⟩ : ByteArray).toList) X Y := by
 rw [ja3]
 exact jaj h1 h2
def Nd.is (n : Nd) (op : Int) : Bool := match n with
 | .nil => false
 | .mk o _ _ _ _ => o == op
def isEB (n : Nd) : Bool := match n with
 | .nil => false
 | .mk o _ _ _ _ => decide (30 ≤ o) && decide (o ≤ 38)
def isSB (n : Nd) : Bool := match n with
 | .nil => false
 | .mk o _ _ _ _ => decide (10 ≤ o) && decide (o ≤ 22)
theorem jdV {n : Nd} {q : Option Nat} {op : Int} (h : LD H n q) {k : Bool → jaa → Prop} (hk : k (Nd.is n op) H) : CallT Pg jkF [pN q, .int .i64 op] (.one (.c .bool)) H k := by
 refine cQc3 _ _ ?_
 unfold vQc3
 simp only [Jn]
 cases n with
 | nil =>
   have := h.nil
   subst this
   exact (Br_false _ _).2 hk
 | mk o t u l a =>
   obtain ⟨c, L, rfl, na⟩ := h.nd
   simp only [Option.map_some, NilCk_some, Option.isNone_some, Bool.not_false, Br_true]
   exact jaf na.c0 hk
theorem jjM {n : Nd} {q : Option Nat} (h : LD H n q) {k : Bool → jaa → Prop} (hk : k (isEB n) H) : CallT Pg fQee [pN q] (.one (.c .bool)) H k := by
 refine cQdc _ ?_
 unfold vQdc
 simp only [Jn]
 cases n with
 | nil =>
   have := h.nil
   subst this
   exact (Br_false _ _).2 hk
 | mk o t u l a =>
   obtain ⟨c, L, rfl, na⟩ := h.nd
   simp only [Option.map_some, NilCk_some, Option.isNone_some, Bool.not_false, Br_true]
   have hk : k (decide (30 ≤ o) && decide (o ≤ 38)) H := hk
   refine jaf na.c0 (jaj (fun e => jaf na.c0 ?_) fun e => ?_)
   ·rw [decide_eq_true (show 30 ≤ o from e), Bool.true_and] at hk; exact hk
   ·rw [decide_eq_false (show ¬ 30 ≤ o from e), Bool.false_and] at hk; exact hk
theorem jmu {n : Nd} {q : Option Nat} (h : LD H n q) {k : Bool → jaa → Prop} (hk : k (isSB n) H) : CallT Pg fQef [pN q] (.one (.c .bool)) H k := by
 refine cQdd _ ?_
 unfold vQdd
 simp only [Jn]
 cases n with
 | nil =>
   have := h.nil
   subst this
   exact (Br_false _ _).2 hk
 | mk o t u l a =>
   obtain ⟨c, L, rfl, na⟩ := h.nd
   simp only [Option.map_some, NilCk_some, Option.isNone_some, Bool.not_false, Br_true]
   have hk : k (decide (10 ≤ o) && decide (o ≤ 22)) H := hk
   refine jaf na.c0 (jaj (fun e => jaf na.c0 ?_) fun e => ?_)
   ·rw [decide_eq_true (show 10 ≤ o from e), Bool.true_and] at hk; exact hk
   ·rw [decide_eq_false (show ¬ 10 ≤ o from e), Bool.false_and] at hk; exact hk
def jeK (op : Int) (n : Nd) : Bool := if op = -1 then isSB n else if op = 0 then isEB n else Nd.is n op
theorem jhP {L : Sl} {l : List Nd} (h : Lst H L l) (hl : l.length ≤ 2 ^ 40) {op : Int} {k : Bool → jaa → Prop} (hk : k (l.all (jeK op)) H) : CallT Pg fQd9 [.slice L.a L.len L.cap, .int .i64 op] (.one (.c .bool)) H k := by
 refine cQc7 _ _ ?_
 unfold vQc7
 refine LoopT.ghost (fun m (s : Int) H' => ∃ i : Nat, H = H' ∧ s = i ∧ m = l.length - i ∧ i ≤ l.length ∧ (l.take i).all (jeK op) = true) l.length ⟨0, rfl, rfl, rfl, Nat.zero_le _, rfl⟩ ?_
 rintro next _ _ _ ⟨i, rfl, rfl, rfl, hi, hall⟩ hnext
 rw [h.len]
 refine jaj (fun hlt => ?_) fun hge => ?_
 ·have hil : i < l.length := by omega
  obtain ⟨ad, q, ix, hc, hld⟩ := h.kid i l[i] (List.getElem?_eq_getElem hil)
  have htk : l.take (i + 1) = l.take i ++ [l[i]] := by rw [List.take_succ_eq_append_getElem hil]
  refine ix rfl (jan hc (jdV hld ?_))
  simp only [Jn]
  have fin : Br (!jeK op l[i]) (k false H) (Lt (IntKind.wrap .i64 ((i : Nat) + 1)) fun t1 => next t1 H) := by
   cases hb : jeK op l[i] with
   | false =>
     have : l.all (jeK op) = false := by
      rw [List.all_eq_false]
      exact ⟨l[i], List.getElem_mem hil, by rw [hb]; simp⟩
     rw [this] at hk
     exact (Br_true _ _).2 hk
   | true =>
     refine (Br_false _ _).2 (Lt.mk (u := ((i + 1 : Nat) : Int)) (by rw [jac] <;> omega) (hnext (l.length - (i + 1)) _ _ (by omega) ⟨i + 1, rfl, rfl, rfl, by omega, ?_⟩))
     rw [htk, List.all_append, hall]; simp [hb]
  by_cases e0 : op = 0
  ·subst e0
   refine jah rfl (ix rfl (jan hc (jjM hld ?_)))
   exact jai (by decide) fin
  ·refine jai e0 ?_
   by_cases e1 : op = -1
   ·subst e1
    exact jah rfl (ix rfl (jan hc (jmu hld fin)))
   ·refine jai e1 ?_
    have : jeK op l[i] = Nd.is l[i] op := by unfold jeK; rw [if_neg e1, if_neg e0]
    rw [this] at fin
    exact fin
 ·have hil : i = l.length := by omega
  subst hil
  rw [List.take_length] at hall
  rw [hall] at hk; exact hk
theorem jlN {s : Txt} (h1 : s.length ≤ 16) (h2 : jdU s = true) : ∃ t e, jfR ⟨⟨s⟩⟩ = .ok [t, e] ∧ t.kind = 1 ∧ t.text = s := by
 have hw : jjO s = true := by unfold jjO; rw [decide_eq_true h1, h2]; rfl
 obtain ⟨ts, hk, hl⟩ := lx_word (v := []) hw (.inl rfl) 0
 rw [List.append_nil, jhm] at hl
 have hsz : (⟨⟨s⟩⟩ : ByteArray).size = s.length := by show s.toArray.size = _; simp
 have hbs : bs (⟨⟨s⟩⟩ : ByteArray) = s := by show s.toArray.toList = s; simp
 have hlen := congrArg List.length hk
 rw [List.length_map] at hlen
 obtain ⟨t, rfl⟩ := List.length_eq_one_iff.1 hlen
 simp only [List.map_cons, List.map_nil, List.cons.injEq, and_true] at hk
 refine ⟨t, ⟨0, [], 0 + s.length⟩, ?_, congrArg Prod.fst hk, congrArg Prod.snd hk⟩
 rw [jgE (by omega), hbs, hl]; rfl
theorem jmI (s : Txt) {k : Bool → jaa → Prop} (hk : ∀ H', Ext H H' → k (jaC s) H') : CallT Pg fQeg [.string ⟨⟨s⟩⟩] (.one (.c .bool)) H k := by
 refine cQde _ ?_
 unfold vQde
 have hbs : bs (⟨⟨s⟩⟩ : ByteArray) = s := by show s.toArray.toList = s; simp
 refine s_rLex fun r H1 hE1 hr => jlD fun H2 hE2 => ?_
 have hE12 := eE hE1 hE2
 unfold jhQ at hr
 simp only [Jn]
 -- no name: no two tokens
 have no : (∀ t e, jfR ⟨⟨s⟩⟩ = .ok [t, e] → t.kind = 1 → t.text = s → wordsL.contains s = true) → k false H2 := fun hno => by
  have : jaC s = false := by
   rw [← Bool.not_eq_true]
   intro hn
   unfold jaC at hn
   simp only [Bool.and_eq_true, decide_eq_true_eq, Bool.not_eq_true'] at hn
   obtain ⟨t, e, g1, g2, g3⟩ := jlN hn.1.1 hn.2
   rw [hno t e g1 g2 g3] at hn
   exact absurd hn.1.2 (by decide)
  have := this ▸ hk H2 hE12
  exact this
 cases hl : jfR ⟨⟨s⟩⟩ with
 | error x =>
   obtain ⟨a, e⟩ := x
   rw [hl] at hr
   obtain ⟨_, _, r2, r3⟩ := hr
   rw [r2]
   exact jai (by omega) (no fun t e h => by rw [hl] at h; cases h)
 | ok ts =>
   rw [hl] at hr
   obtain ⟨r1, hv, _⟩ := hr
   have hv := hv.upd hE2 fun _ _ h => h
   have hvl := hv.len
   rw [jeo] at hvl
   refine jah (by rw [r1]) ?_
   by_cases e2 : r.1.len = 2
   ·refine jah (by omega) ?_
    obtain ⟨t, e, rfl⟩ : ∃ t e, ts = [t, e] := by
     have h2 : ts.length = 2 := by omega
     match ts, h2 with
     | [t, e], _ => exact ⟨t, e, rfl⟩
    have rd : ∀ {k : Addr → Prop}, (∀ a, jaR H2 a 0 (jgZ t) → k a) → IxA 3 r.1 0 k := fun {k} hk => by
     refine jjN hv (by decide) (show (0 : Int) = (0 : Nat) from rfl) (by omega) fun c hc jar => hk _ (hcells_iff.2 fun j hj => ?_)
     have := jar j hj
     rw [mk_add, Nat.zero_add, this, jhk (f := jgZ) jfC (es := [t, e]) (i := 0) (by simp) hj]
     rfl
    refine rd fun a ha => jaf (jdQ ha).1 ?_
    by_cases k1 : t.kind = 1
    ·refine jah (by omega) (rd fun a ha => jap (jdQ ha).2.1 ?_)
     rw [ja3]
     refine jaj (fun ht => ?_) fun ht => no fun t' e' h _ htx => ?_
     ·have ht : t.text = s := ht
      have hok := (jlj hl).ok t (by simp)
      obtain ⟨w1, w2⟩ := hok.word k1
      rw [ht] at w1 w2
      have : jaC s = !wordsL.contains s := by unfold jaC; rw [decide_eq_true w1, w2]; simp
      exact this ▸ hk H2 hE12
     ·rw [hl] at h; cases h; exact absurd htx ht
    ·exact jai (by omega) (no fun t' e' h hk' _ => by rw [hl] at h; cases h; exact absurd hk' k1)
   ·exact jai (by omega) (no fun t' e' h _ _ => by rw [hl] at h; cases h; simp only [List.length_cons, List.length_nil] at hvl; omega)
def ck : Nat → Txt
 | 0 => [45]
 | 1 => [110]
 | 3 => [98]
 | 4 => [117]
 | 5 => [99]
 | _ => [119]
theorem lv_pos (s : Txt) : decide (jat s > 0) = (List.range 6).any fun l => (lvT l).contains s := by
 have hle := jcw s
 rw [Bool.eq_iff_iff, decide_eq_true_eq, List.any_eq_true]
 constructor
 ·intro h
  exact ⟨(jat s - 1).toNat, List.mem_range.2 (by omega), by rw [jiN (by omega), decide_eq_true_eq]; omega⟩
 ·rintro ⟨l, hl, h⟩
  have hl := List.mem_range.1 hl
  rw [jiN (by omega), decide_eq_true_eq] at h
  omega
theorem s_rtext {kd : Nat} (hkd : kd = 0 ∨ kd = 1 ∨ kd = 3 ∨ kd = 4 ∨ kd = 5 ∨ kd = 6) (s : Txt) {k : Bool → jaa → Prop} (hk : ∀ H', Ext H H' → k (jaN kd s) H') : CallT Pg fQeb [.string ⟨⟨ck kd⟩⟩, .string ⟨⟨s⟩⟩] (.one (.c .bool)) H k := by
 refine cQc9 _ _ ?_
 unfold vQc9
 refine jmI s fun H1 e1 => ?_
 simp only [Jn]
 rcases hkd with rfl | rfl | rfl | rfl | rfl | rfl
 ·refine jb3 (fun _ => ?_) fun h => absurd rfl h
  rw [ja3]
  have : jaN 0 s = decide (s = []) := by show (s == []) = _; rw [Bool.eq_iff_iff]; simp
  have := this ▸ hk H1 e1
  exact this
 ·refine jb3 (fun h => absurd h (by decide)) fun _ => jb3 (fun _ => hk H1 e1) fun h => absurd rfl h
 ·refine jb3 (fun h => absurd h (by decide)) fun _ => jb3 (fun h => absurd h (by decide)) fun _ => jb3 (fun _ => ?_) fun h => absurd rfl h
  have ht : jaN 3 s = (List.range 6).any fun l => (lvT l).contains s := lv_pos s
  rw [ht] at hk
  refine jhI fun r H2 e2 hrl hr => ?_
  refine LoopT.ghost (fun m (st : Int) H' => ∃ j : Nat, H2 = H' ∧ st = j ∧ m = 6 - j ∧ j ≤ 6 ∧ ((List.range j).any fun l => (lvT l).contains s) = false) 6 ⟨0, rfl, rfl, rfl, by decide, rfl⟩ ?_
  rintro next _ _ _ ⟨j, rfl, rfl, rfl, hj, hno⟩ hnext
  rw [hrl]
  refine jaj (fun hlt => ?_) fun hge => ?_
  ·have hj5 : j ≤ 5 := by omega
   refine hr j hj5 fun x hx => s_in hx (jlt j) ?_
   cases hc : (lvT j).contains s with
   | true =>
     have : ((List.range 6).any fun l => (lvT l).contains s) = true := List.any_eq_true.2 ⟨j, List.mem_range.2 (by omega), hc⟩
     exact (Br_true _ _).2 (this ▸ hk H2 (eE e1 e2))
   | false =>
     refine (Br_false _ _).2 (Lt.mk (u := ((j + 1 : Nat) : Int)) (by rw [jac] <;> omega) (hnext (6 - (j + 1)) _ _ (by omega) ⟨j + 1, rfl, rfl, rfl, by omega, ?_⟩))
     rw [List.range_succ, List.any_append, hno]
     show (false || ((lvT j).contains s || false)) = false
     rw [hc]; rfl
  ·have : j = 6 := by omega
   subst this
   exact hno ▸ hk H2 (eE e1 e2)
 ·refine jb3 (fun h => absurd h (by decide)) fun _ => jb3 (fun h => absurd h (by decide)) fun _ => jb3 (fun h => absurd h (by decide)) fun _ => jb3 (fun _ => ?_) fun h => absurd rfl h
  have ht : jaN 4 s = (s == [45] || s == [33]) := rfl
  rw [ht] at hk
  refine jb3 (fun h => ?_) fun h => ?_
  ·have h : s = [45] := h
   subst h; exact hk H1 e1
  ·have h : s ≠ [45] := h
   rw [beq_eq_false_iff_ne.2 h, Bool.false_or] at hk
   rw [ja3]
   have : (s == [33]) = decide (s = [33]) := by rw [Bool.eq_iff_iff]; simp
   rw [this] at hk
   exact hk H1 e1
 ·refine jb3 (fun h => absurd h (by decide)) fun _ => jb3 (fun h => absurd h (by decide)) fun _ => jb3 (fun h => absurd h (by decide)) fun _ => jb3 (fun h => absurd h (by decide)) fun _ => jb3 (fun _ => ?_) fun h => absurd rfl h
  have ht : jaN 5 s = (jaC s || builtinL.contains s) := rfl
  rw [ht] at hk
  cases hn : jaC s with
  | true => exact (Br_true _ _).2 (by have := hk H1 e1; rw [hn] at this; exact this)
  | false =>
    rw [hn] at hk
    refine (Br_false _ _).2 (jaq (vs := builtinL.map fun t => (Value.string ⟨⟨t⟩⟩)) fun b1 H7 _ hE7 _ hr7 => s_in (jdn hr7) (by decide) ?_)
    exact hk H7 (eE e1 hE7)
 ·refine jb3 (fun h => absurd h (by decide)) fun _ => jb3 (fun h => absurd h (by decide)) fun _ => jb3 (fun h => absurd h (by decide)) fun _ => jb3 (fun h => absurd h (by decide)) fun _ => jb3 (fun h => absurd h (by decide)) fun _ => ?_
  have ht : jaN 6 s = (s == [116, 105, 99, 107] || s == [109, 101]) := rfl
  rw [ht] at hk
  refine jb3 (fun h => ?_) fun h => ?_
  ·have h : s = [116, 105, 99, 107] := h
   subst h; exact hk H1 e1
  ·have h : s ≠ [116, 105, 99, 107] := h
   rw [beq_eq_false_iff_ne.2 h, Bool.false_or] at hk
   rw [ja3]
   have : (s == [109, 101]) = decide (s = [109, 101]) := by rw [Bool.eq_iff_iff]; simp
   rw [this] at hk
   exact hk H1 e1
end
section
open Hc Hc.Lex Hc.Syn
variable {H : jaa}
def shD (op : Int) : Txt × Nat :=
 if op = 2 then ([67, 66], 1) else if op = 4 then ([70, 66], 1) else if op = 5 then ([83], 0) else if op = 10 then ([69], 1) else if op = 11 then ([69], 1) else if op = 12 then ([78, 69], 1)
 else if op = 13 then ([69, 66, 73], 0) else if op = 14 then ([69, 66], 0) else if op = 15 then ([69, 66], 0) else if op = 16 then ([69, 69], 0) else if op = 17 then ([80], 0) else if op = 18 then ([112], 0)
 else if op = 19 then ([], 1) else if op = 31 then ([], 1) else if op = 37 then ([], 1) else if op = 20 then ([], 0) else if op = 21 then ([], 0) else if op = 30 then ([], 0) else if op = 22 then ([69], 0)
 else if op = 23 then ([86], 1) else if op = 24 then ([69], 1) else if op = 32 then ([78], 1) else if op = 33 then ([69, 69], 3) else if op = 34 then ([69], 4) else if op = 35 then ([69, 69, 69], 0)
 else if op = 36 then ([65], 5) else if op = 38 then ([], 6) else ([63], 0)
abbrev jlU : List Int := [2, 4, 5, 10, 11, 12, 13, 14, 15, 16, 17, 18, 19, 20, 21, 22, 23, 24, 30, 31, 32, 33, 34, 35, 36, 37, 38]
theorem jjZ {P : Int → Prop} (op : Int) (h : ∀ o ∈ jlU, P o) (h2 : op ∉ jlU → P op) : P op := by
 by_cases hm : op ∈ jlU
 ·exact h op hm
 ·exact h2 hm
theorem jmm {op : Int} (h : op ∉ jlU) : shD op = ([63], 0) := by
 simp only [jlU, List.mem_cons, List.not_mem_nil, or_false, not_or] at h
 obtain ⟨h1, h2, h3, h4, h5, h6, h7, h8, h9, h10, h11, h12, h13, h14, h15, h16, h17, h18, h19, h20, h21, h22, h23, h24, h25, h26, h27⟩ := h
 unfold shD
 simp only [h1, h2, h3, h4, h5, h6, h7, h8, h9, h10, h11, h12, h13, h14, h15, h16, h17, h18, h19, h20, h21, h22, h23, h24, h25, h26, h27, if_false]
theorem sh_kd (op : Int) : (shD op).2 = 0 ∨ (shD op).2 = 1 ∨ (shD op).2 = 3 ∨ (shD op).2 = 4 ∨ (shD op).2 = 5 ∨ (shD op).2 = 6 := by
 refine jjZ (P := fun op => (shD op).2 = 0 ∨ (shD op).2 = 1 ∨ (shD op).2 = 3 ∨ (shD op).2 = 4 ∨ (shD op).2 = 5 ∨ (shD op).2 = 6) op (by decide) fun h => ?_
 rw [jmm h]; decide
theorem s_shape (op : Int) {k : ByteArray × ByteArray → jaa → Prop} (hk : k (⟨⟨(shD op).1⟩⟩, ⟨⟨ck (shD op).2⟩⟩) H) : CallT Pg fQea [.int .i64 op] (.tup [(.c .str), (.c .str)]) H k := by
 refine cQc8 _ ?_
 unfold vQc8
 simp only [Jn]
 by_cases hm : op ∈ jlU
 ·simp only [jlU, List.mem_cons, List.not_mem_nil, or_false] at hm
  rcases hm with rfl | rfl | rfl | rfl | rfl | rfl | rfl | rfl | rfl | rfl | rfl | rfl | rfl | rfl | rfl | rfl | rfl | rfl | rfl | rfl | rfl | rfl | rfl | rfl | rfl | rfl | rfl <;> exact hk
 ·rw [jmm hm] at hk
  simp only [jlU, List.mem_cons, List.not_mem_nil, or_false, not_or] at hm
  obtain ⟨h1, h2, h3, h4, h5, h6, h7, h8, h9, h10, h11, h12, h13, h14, h15, h16, h17, h18, h19, h20, h21, h22, h23, h24, h25, h26, h27⟩ := hm
  simp only [beq_eq_false_iff_ne.2 h1, beq_eq_false_iff_ne.2 h2, beq_eq_false_iff_ne.2 h3, beq_eq_false_iff_ne.2 h4, beq_eq_false_iff_ne.2 h5, beq_eq_false_iff_ne.2 h6, beq_eq_false_iff_ne.2 h7, beq_eq_false_iff_ne.2 h8, beq_eq_false_iff_ne.2 h9, beq_eq_false_iff_ne.2 h10, beq_eq_false_iff_ne.2 h11, beq_eq_false_iff_ne.2 h12, beq_eq_false_iff_ne.2 h13, beq_eq_false_iff_ne.2 h14, beq_eq_false_iff_ne.2 h15, beq_eq_false_iff_ne.2 h16, beq_eq_false_iff_ne.2 h17, beq_eq_false_iff_ne.2 h18, beq_eq_false_iff_ne.2 h19, beq_eq_false_iff_ne.2 h20, beq_eq_false_iff_ne.2 h21, beq_eq_false_iff_ne.2 h22, beq_eq_false_iff_ne.2 h23, beq_eq_false_iff_ne.2 h24, beq_eq_false_iff_ne.2 h25, beq_eq_false_iff_ne.2 h26, beq_eq_false_iff_ne.2 h27, Br_false]
  exact hk
def clN (x : Txt × Nd) : Bool := Nd.is x.2 3 && x.2.tx == x.1
def jip (l : List Nd) : Bool := decide (4 ≤ l.length) && (clauseW.zip l).all clN
theorem jkf {L : Sl} {l : List Nd} (h : Lst H L l) {k : Bool → jaa → Prop} (hk : ∀ H', Ext H H' → k (jip l) H') : CallT Pg fQei [.slice L.a L.len L.cap] (.one (.c .bool)) H k := by
 refine cQdg _ ?_
 unfold vQdg
 refine jaq (vs := clauseW.map fun t => (Value.string ⟨⟨t⟩⟩)) fun b1 H1 _ hE1 _ hr1 => ?_
 have hv : Vec H1 jcC ⟨some (adr b1), 4, 4⟩ (clauseW.map fun t => (Value.string ⟨⟨t⟩⟩)) := jdn hr1
 have h1 := h.ext hE1
 have hk1 := hk H1 hE1
 clear hk
 refine LoopT.ghost (fun m (s : Int) H' => ∃ i : Nat, H1 = H' ∧ s = i ∧ m = 4 - i ∧ i ≤ 4 ∧ i ≤ l.length ∧ ((clauseW.zip l).take i).all clN = true) 4 ⟨0, rfl, rfl, rfl, by decide, Nat.zero_le _, rfl⟩ ?_
 rintro next _ _ _ ⟨i, rfl, rfl, rfl, hi4, hil, hall⟩ hnext
 refine jaj (fun hlt => ?_) fun hge => ?_
 ·have hi : i < 4 := by omega
  rw [h1.len]
  refine jaj (fun hge => ?_) fun hlt2 => ?_
  ·have : jip l = false := by unfold jip; rw [decide_eq_false (by omega)]; rfl
   rw [this] at hk1; exact hk1
  have hli : i < l.length := by omega
  have hwi : i < clauseW.length := hi
  have hz : i < (clauseW.zip l).length := by rw [List.length_zip]; omega
  have hzg : (clauseW.zip l)[i] = (clauseW[i], l[i]) := List.getElem_zip
  have htk : (clauseW.zip l).take (i + 1) = (clauseW.zip l).take i ++ [(clauseW[i], l[i])] := by rw [List.take_succ_eq_append_getElem hz, hzg]
  have bad : clN (clauseW[i], l[i]) = false → jip l = false := fun hb => by
   unfold jip
   rw [Bool.and_eq_false_iff]
   right
   rw [List.all_eq_false]
   exact ⟨(clauseW[i], l[i]), by rw [← hzg]; exact List.getElem_mem hz, by rw [hb]; simp⟩
  have good : clN (clauseW[i], l[i]) = true → Lt (IntKind.wrap .i64 ((i : Nat) + 1)) fun t1 => next t1 H1 := fun hb =>
   Lt.mk (u := ((i + 1 : Nat) : Int)) (by rw [jac] <;> omega) (hnext (4 - (i + 1)) _ _ (by omega) ⟨i + 1, rfl, rfl, rfl, by omega, by omega, by rw [htk, List.all_append, hall]; simp [hb]⟩)
  obtain ⟨ad, q, ix, hc, hld⟩ := h1.kid i l[i] (List.getElem?_eq_getElem hli)
  have hlc := hld
  generalize l[i] = n at *
  refine ix rfl (jan hc (jdV hld ?_))
  simp only [Jn]
  cases hb : Nd.is n 3 with
  | false => exact (Br_true _ _).2 ((Br_true _ _).2 (by rw [bad (by unfold clN; rw [hb]; rfl)] at hk1; exact hk1))
  | true =>
    cases n with
    | nil => cases hb
    | mk o t u l2 a =>
    obtain ⟨c, L2, rfl, na⟩ := hlc.nd
    refine (Br_false _ _).2 (ix rfl (jan hc ?_))
    simp only [Option.map_some, NilCk_some, adr_add]
    refine jap na.c1 (jcc hv (by omega) (by show _ < ((4 : Nat) : Int); omega) fun ad2 hc2 _ => ?_)
    have hc2 : jar H1 ad2 = some (.string ⟨⟨clauseW[i]⟩⟩) := hc2.trans (by rw [Int.toNat_natCast, List.getElem?_map, List.getElem?_eq_getElem hwi]; rfl)
    refine jap hc2 ?_
    rw [ja3]
    by_cases ht : t = clauseW[i]
    ·rw [show decide (bs (⟨⟨t⟩⟩ : ByteArray) = bs (⟨⟨clauseW[i]⟩⟩ : ByteArray)) = true from decide_eq_true ht]
     exact (Br_false _ _).2 (good (by unfold clN; rw [hb]; show (t == clauseW[i]) = true; rw [ht]; simp))
    ·rw [show decide (bs (⟨⟨t⟩⟩ : ByteArray) = bs (⟨⟨clauseW[i]⟩⟩ : ByteArray)) = false from decide_eq_false ht]
     refine (Br_true _ _).2 ?_
     rw [bad (by unfold clN; rw [hb]; exact beq_eq_false_iff_ne.2 ht)] at hk1; exact hk1
 ·have hi : i = 4 := by omega
  subst hi
  have : jip l = true := by
   unfold jip
   rw [List.take_of_length_le (by rw [List.length_zip]; exact Nat.min_le_left _ _)] at hall
   rw [decide_eq_true hil, hall]; rfl
  rw [this] at hk1; exact hk1
def jaL (c : UInt8) (n : Nd) : Bool := if c = 69 then isEB n else if c = 66 then Nd.is n 5 else if c = 78 then Nd.is n 31 else if c = 112 then Nd.is n 23 else if c = 70 then Nd.is n 3 && n.tx == [102, 117, 110, 99] else false
def chD : Txt → List Nd → Bool
 | [], l => l.isEmpty
 | c :: s, l =>
   if c = 83 then l.all (jeK (-1)) else if c = 80 then l.all (jeK 23) else if c = 86 then l.all (jeK 24) else if c = 65 then l.all (jeK 0)
   else if c = 73 then l.isEmpty || (l.length == 1 && (Nd.is (l.headD .nil) 5 || Nd.is (l.headD .nil) 13))
   else if c = 67 then jip l && chD s (l.drop 4)
   else match l with
    | [] => false
    | n :: l' => jaL c n && chD s l'
def chK (c : UInt8) (s : Txt) : List Nd → Bool
 | [] => false
 | n :: l' => jaL c n && chD s l'
theorem jbc (c : UInt8) (s : Txt) (l : List Nd) : chD (c :: s) l = if c = 83 then l.all (jeK (-1)) else if c = 80 then l.all (jeK 23) else if c = 86 then l.all (jeK 24) else if c = 65 then l.all (jeK 0)
 else if c = 73 then l.isEmpty || (l.length == 1 && (Nd.is (l.headD .nil) 5 || Nd.is (l.headD .nil) 13))
 else if c = 67 then jip l && chD s (l.drop 4)
 else chK c s l := by
 cases l <;> rfl
theorem jkc {s : Txt} (hs : s.length ≤ 3) {L : Sl} {l : List Nd} (h : LstP H L l) (hl : l.length ≤ 2 ^ 40) {k : Bool → jaa → Prop} (hk : ∀ H', Ext H H' → k (chD s l) H') : CallT Pg fQec [.string ⟨⟨s⟩⟩, .slice L.a L.len L.cap] (.one (.c .bool)) H k := by
 refine cQda _ _ ?_
 unfold vQda
 have hsz : (⟨⟨s⟩⟩ : ByteArray).size = s.length := by show s.toArray.size = _; simp
 have hbs : bs (⟨⟨s⟩⟩ : ByteArray) = s := by show s.toArray.toList = s; simp
 refine LoopT.ghost (fun m (st : Sl × Int) H' => ∃ (i : Nat) (l2 : List Nd), Ext H H' ∧ st.2 = i ∧ m = s.length - i ∧ i ≤ s.length ∧ LstP H' st.1 l2 ∧ l2.length ≤ 2 ^ 40 ∧ chD s l = chD (s.drop i) l2 ∧ (0 < i → s ≠ [63])) s.length ⟨0, l, .refl _ _, rfl, rfl, Nat.zero_le _, h, hl, rfl, fun h => absurd h (Nat.lt_irrefl _)⟩ ?_
 rintro next _ ⟨L2, i'⟩ H1 ⟨i, l2, e1, hi', rfl, hi, hP, hl2, hch, h63⟩ hnext
 dsimp only at hi' hP ⊢
 subst hi'
 have hk1 : ∀ H', Ext H1 H' → k (chD (s.drop i) l2) H' := fun H' e => hch ▸ hk H' (eE e1 e)
 rw [hsz]
 refine jaj (fun hlt => ?_) fun hge => ?_
 ·have his : i < s.length := by omega
  have hdr : s.drop i = s[i] :: s.drop (i + 1) := List.drop_eq_getElem_cons his
  rw [hdr] at hch hk1
  generalize s[i] = c at *
  have hcn : ∀ (d : UInt8), ((c.toNat : Nat) : Int) = ((d.toNat : Nat) : Int) ↔ c = d := fun d => ⟨fun e => UInt8.toNat_inj.1 (by omega), fun e => by rw [e]⟩
  have hne : ∀ {d : UInt8}, c ≠ d → ((c.toNat : Nat) : Int) ≠ ((d.toNat : Nat) : Int) := fun h e => h ((hcn _).1 e)
  simp only [Jn]
  refine jaU (s := ⟨⟨s⟩⟩) (by rw [hbs]; exact hdr) rfl ?_
  -- what goes on
  have go : ∀ {L' : Sl} {l' : List Nd} {H2 : jaa}, Ext H1 H2 → LstP H2 L' l' → l'.length ≤ l2.length → c ≠ 63 → chD (c :: s.drop (i + 1)) l2 = chD (s.drop (i + 1)) l' → Lt (IntKind.wrap .i64 ((i : Nat) + 1)) fun t1 => next (L', t1) H2 := fun {L' l' H2} e2 hP' hlen hc e =>
   Lt.mk (u := ((i + 1 : Nat) : Int)) (by rw [jac] <;> omega) (hnext (s.length - (i + 1)) _ _ (by omega) ⟨i + 1, l', eE e1 e2, rfl, rfl, by omega, hP', by omega, hch.trans e, fun _ h => by
    subst h
    have hi0 : i = 0 := by simp at his; omega
    subst hi0
    simp at hdr
    exact hc hdr.symm⟩)
  by_cases c1 : c = 83
  ·subst c1; exact jah rfl (jhP hP.lst hl2 (hk1 H1 (.refl _ _)))
  refine jai (hne c1) ?_
  by_cases c2 : c = 80
  ·subst c2; exact jah rfl (jhP hP.lst hl2 (hk1 H1 (.refl _ _)))
  refine jai (hne c2) ?_
  by_cases c3 : c = 86
  ·subst c3; exact jah rfl (jhP hP.lst hl2 (hk1 H1 (.refl _ _)))
  refine jai (hne c3) ?_
  by_cases c4 : c = 65
  ·subst c4; exact jah rfl (jhP hP.lst hl2 (hk1 H1 (.refl _ _)))
  refine jai (hne c4) ?_
  by_cases c5 : c = 73
  ·subst c5
   have hk2 : k (l2.isEmpty || (l2.length == 1 && (Nd.is (l2.headD .nil) 5 || Nd.is (l2.headD .nil) 13))) H1 := hk1 H1 (.refl _ _)
   refine jah rfl ?_
   rw [hP.1]
   match l2, hP, hk2 with
   | [], hP, hk2 => exact jah rfl hk2
   | [n], hP, hk2 =>
     obtain ⟨ad, q, ix, hc, hld⟩ := hP.lst.kid 0 n rfl
     have hk2 : k (Nd.is n 5 || Nd.is n 13) H1 := by simpa using hk2
     refine jai (by simp) (jah rfl (ix rfl (jan hc (jdV hld ?_))))
     cases h5 : Nd.is n 5 with
     | true => rw [h5] at hk2; exact (Br_true _ _).2 hk2
     | false => rw [h5] at hk2; exact (Br_false _ _).2 (ix rfl (jan hc (jdV hld hk2)))
   | n :: m :: l, hP, hk2 => exact jai (by simp only [List.length_cons]; omega) (jai (by simp only [List.length_cons]; omega) (by simpa using hk2))
  refine jai (hne c5) ?_
  have hother : chD (c :: s.drop (i + 1)) l2 = if c = 67 then jip l2 && chD (s.drop (i + 1)) (l2.drop 4) else chK c (s.drop (i + 1)) l2 := by
   rw [jbc, if_neg c1, if_neg c2, if_neg c3, if_neg c4, if_neg c5]
  by_cases c6 : c = 67
  ·subst c6
   rw [if_pos rfl] at hother
   refine jah rfl (jkf hP.lst fun H2 e2 => ?_)
   cases hcl : jip l2 with
   | false =>
     rw [hcl, Bool.false_and] at hother
     exact (Br_true _ _).2 (by have := hk1 H2 e2; rw [hother] at this; exact this)
   | true =>
     rw [hcl, Bool.true_and] at hother
     have h4 : 4 ≤ l2.length := by
      unfold jip at hcl
      rw [Bool.and_eq_true_iff, decide_eq_true_eq] at hcl
      exact hcl.1
     refine (Br_false _ _).2 ((hP.ext e2).drop h4 rfl fun L' hP' => go e2 hP' (by rw [List.length_drop]; omega) (by decide) hother)
  refine jai (hne c6) ?_
  rw [if_neg c6] at hother
  rw [hP.1]
  cases l2 with
  | nil => exact jah rfl (by have := hk1 H1 (.refl _ _); rw [hother] at this; exact this)
  | cons n l3 =>
    refine jai (by simp only [List.length_cons]; omega) (jaU (s := ⟨⟨s⟩⟩) (by rw [hbs]; exact hdr) rfl ?_)
    obtain ⟨ad, q, ix, hc, hld⟩ := hP.lst.kid 0 n rfl
    have hother : chD (c :: s.drop (i + 1)) (n :: l3) = (jaL c n && chD (s.drop (i + 1)) l3) := hother
    have hlen1 : (((n :: l3).length : Nat) : Int) = ((L2.len : Nat) : Int) := by rw [hP.1]
    -- behind the child
    have fin : ∀ {b : Bool}, b = jaL c n → Br (!b) (k false H1) (SlA 1 L2 1 ((L2.len : Nat) : Int) ((L2.cap : Nat) : Int) fun l2 => Lt (IntKind.wrap .i64 ((i : Nat) + 1)) fun t1 => next (l2, t1) H1) := fun {b} hb => by
     cases hkb : jaL c n with
     | false =>
       rw [hkb] at hb; subst hb
       rw [hkb, Bool.false_and] at hother
       exact (Br_true _ _).2 (by have := hk1 H1 (.refl _ _); rw [hother] at this; exact this)
     | true =>
       rw [hkb] at hb; subst hb
       rw [hkb, Bool.true_and] at hother
       refine (Br_false _ _).2 (hP.drop (j := 1) (by simp) rfl fun L' hP' => go (.refl _ _) hP' (by simp) (fun e => ?_) hother)
       subst e
       have : jaL 63 n = false := by unfold jaL; rfl
       rw [this] at hkb; cases hkb
    try rw [hlen1]
    by_cases d1 : c = 69
    ·subst d1
     exact jah rfl (ix rfl (jan hc (jjM hld (fin rfl))))
    refine jai (hne d1) ?_
    by_cases d2 : c = 66
    ·subst d2
     exact jah rfl (ix rfl (jan hc (jdV hld (fin rfl))))
    refine jai (hne d2) ?_
    by_cases d3 : c = 78
    ·subst d3
     exact jah rfl (ix rfl (jan hc (jdV hld (fin rfl))))
    refine jai (hne d3) ?_
    by_cases d4 : c = 112
    ·subst d4
     exact jah rfl (ix rfl (jan hc (jdV hld (fin rfl))))
    refine jai (hne d4) ?_
    have hkn : jaL c n = if c = 70 then Nd.is n 3 && n.tx == [102, 117, 110, 99] else false := by unfold jaL; rw [if_neg d1, if_neg d2, if_neg d3, if_neg d4]
    by_cases d5 : c = 70
    ·subst d5
     rw [if_pos rfl] at hkn
     refine jah rfl (ix rfl (jan hc (jdV hld ?_)))
     have hlc := hld
     cases h3 : Nd.is n 3 with
     | false =>
       rw [h3, Bool.false_and] at hkn
       exact (Br_false _ _).2 (fin hkn.symm)
     | true =>
       rw [h3, Bool.true_and] at hkn
       cases n with
       | nil => cases h3
       | mk o t u l2 a =>
       obtain ⟨c, L3, rfl, na⟩ := hlc.nd
       refine (Br_true _ _).2 (ix rfl (jan hc ?_))
       simp only [Option.map_some, NilCk_some, adr_add]
       refine jap na.c1 ?_
       rw [ja3]
       refine fin ?_
       rw [hkn]
       show decide (t = [102, 117, 110, 99]) = (t == [102, 117, 110, 99])
       rw [Bool.eq_iff_iff]; simp
    ·rw [if_neg d5] at hkn
     exact jai (hne d5) (fin hkn.symm)
 ·have hil : i = s.length := by omega
  subst hil
  rw [List.drop_length] at hk1
  have hk2 : k l2.isEmpty H1 := hk1 H1 (.refl _ _)
  simp only [Jn]
  rw [hP.1]
  cases l2 with
  | cons n l => exact jai (by simp only [List.length_cons]; omega) hk2
  | nil =>
    refine jah rfl ?_
    rw [ja3]
    have : decide (bs (⟨⟨s⟩⟩ : ByteArray) = bs (⟨#[63]⟩ : ByteArray)) = false := by
     refine decide_eq_false fun e => ?_
     have e : s = [63] := e
     exact h63 (by rw [e]; decide) e
    rw [this]; exact hk2
end
end Go.Proofs.YtfpmgpblhhcpgaaGreatDoor
