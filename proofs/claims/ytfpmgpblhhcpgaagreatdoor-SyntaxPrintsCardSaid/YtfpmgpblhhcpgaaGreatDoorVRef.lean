/-
 Print: systems and functions written.
-/
import Derived.Test.YtfpmgpblhhcpgaaGreatDoorPt
import Derived.Test.YtfpmgpblhhcpgaaGreatDoorRows
import Derived.Shelf.Vars
import Derived.MakeChecks
import Derived.LaidLaws
import Derived.Lib.LaidTab
import Derived.Test.YtfpmgpblhhcpgaaGreatDoorHcPrnB
import Derived.KernelRfl
import Derived.Test.YtfpmgpblhhcpgaaGreatDoorHcSynB
import Derived.Test.YtfpmgpblhhcpgaaGreatDoorHcRN
import Derived.Test.YtfpmgpblhhcpgaaGreatDoorVPri
import Derived.Test.YtfpmgpblhhcpgaaGreatDoorHcLists
import Derived.Test.YtfpmgpblhhcpgaaGreatDoorProg
set_option linter.unusedVariables false
set_option linter.unusedSimpArgs false
namespace Go.Proofs.YtfpmgpblhhcpgaaGreatDoor
set_option maxRecDepth 100000
section
open Hc Hc.Lex Hc.Syn
variable {H : jaa} {lo b tabs : Nat} {pre : Txt}
theorem jk3 {op nm : Int} {tx : Txt} {l : List Nd} {c : Nat} {L : Sl} (na : NA lo H op tx nm l c L) (hl : okL l) (hc : jaK l ≤ 2 ^ 32) {k : ByteArray → jaa → Prop} (hk : ∀ H', Ext H H' → k ⟨⟨jb1 l⟩⟩ H') :
 CallT Pg fQck [.slice L.a L.len L.cap] (.one (.c .str)) H k := by
 refine cQca L ?_
 unfold vQca
 have hle := jbw hl
 refine LoopT.ghost (fun r (s : Sl × Int) H' => ∃ (j : Nat), s.2 = (j : Nat) ∧ j + r = l.length ∧ Ext H H' ∧ Vec H' jcC s.1 ((l.take j).map fun n => jbG n.tx) ∧ ∀ x, s.1.a = some (adr x) → H.size ≤ x) l.length
  ⟨0, rfl, by omega, .refl _ _, Vec.nil _ _, fun x h => by cases h⟩ ?_
 rintro next r ⟨s, i⟩ H2 ⟨j, hj0, hj, hE2, hv2, ho2⟩ hnext
 dsimp only at hj0 hv2 ho2 ⊢
 subst hj0
 have n2 := na.upd (EL hE2)
 cases r with
 | zero =>
   refine jbS (by rw [na.len]; omega) ?_
   rw [List.take_of_length_le (by omega)] at hv2
   have e : (l.map fun n => jbG n.tx) = (l.map Nd.tx).map jbG := by simp
   rw [e] at hv2
   have hlen : (jbe true (l.map Nd.tx)).length ≤ 64 * jaK l := by
    have := jc9 (f := Nd.tx) (g := cnt) (l := l) (fun n hn => by have := (jaM hl n hn).tlen; have := jbQ (jaM hl n hn); omega) true
    rw [jca] at this; exact this
   exact s_Join hv2 (by simp; omega) (by omega) fun H3 hE3 => hk H3 (hE2.trans hE3 fun _ _ h => h)
 | succ r =>
   have hjl : j < l.length := by omega
   have hget : l[j]? = some l[j] := List.getElem?_eq_getElem hjl
   obtain ⟨ad, qx, ix, hlt, hcc, hlx⟩ := n2.ix j _ hget
   obtain ⟨op2, tx2, nm2, l2, a2, c2, L2, he, rfl, na2⟩ := hlx.some' (jaM hl _ (ja5 hget))
   refine ja1 (by rw [na.len]; omega) (ix rfl (jan hcc ?_))
   simp only [Option.map_some, NilCk_some, adr_add]
   refine jap na2.c1 (jaq (vs := [jbG tx2]) fun b3 H3 hb3 hE3 _ hr3 => ?_)
   have hs2 := hE2.size
   refine jfz (ws := [jbG tx2]) (hv2.upd hE3 fun _ _ h => h) hr3.rd_all rfl (fun w hw => by rw [List.mem_singleton.1 hw]; rfl) (by decide) (by simp only [List.length_map, List.length_take, List.length_singleton]; omega) fun L4 H4 hv4 hU4 ha4 _ => ?_
   have hE4 : Ext H H4 := (hE2.trans hE3 fun _ _ h => h).trans hU4 fun x hx e => by have := ho2 x e.1; omega
   refine Lt.mk (u := ((j + 1 : Nat) : Int)) (by rw [jac] <;> omega) (hnext r _ _ (by omega) ⟨j + 1, rfl, by omega, hE4, ?_, fun x hx => ?_⟩)
   ·have e : (l.take (j + 1)).map (fun n => jbG n.tx) = (l.take j).map (fun n => jbG n.tx) ++ [jbG tx2] := by
     rw [List.take_add_one, hget, List.map_append, he]; rfl
    rw [e]; exact hv4
   ·rcases ha4 with ⟨e, _⟩ | e
    ·exact ho2 x (e.symm.trans hx)
    ·rw [hx] at e
     have : x = H3.size := by simpa [adr] using e
     have := hE3.size
     omega
theorem w_thing {n : Nd} {q : Option Nat} (hc : cnt n ≤ 2 ^ 31) (hn : okN n) (hi : jcM n) (ho : n.op = 2 ∨ n.op = 4) (hq : LN lo H n q) {k : Unit → jaa → Prop} (h : WR lo H b pre 0) (hl : pre.length + (jaT n).length ≤ 2 ^ 40) (hk : ∀ H', Upd (lo ≤ ·) H H' → WR lo H' b (pre ++ jaT n) 0 → k () H') :
 CallT Pg fQcd [pA b, pN q] (.tup []) H k := by
 refine cQb4 _ _ ?_
 unfold vQb4
 obtain ⟨op, tx, nm, l, a, c, L, rfl, rfl, na⟩ := hq.some' hn
 have ho : op = 2 ∨ op = 4 := ho
 simp only [Option.map_some, NilCk_some, adr_add]
 have hcn : cnt (.mk op tx nm l a) = 1 + jaK l := by simp [cnt]
 have htl : tx.length ≤ 16 := hn.tlen
 have hle := jbw hn.2
 refine jaf na.c0 ?_
 -- the head; then the block
 refine Jn.mk (fun _ H' => ∃ hd bk, Upd (lo ≤ ·) H H' ∧ WR lo H' b (pre ++ hd) 0 ∧ hd ≠ [] ∧ jaT (.mk op tx nm l a) = hd ++ (jcG 0 bk ++ [10]) ∧ okN bk ∧ bk.op = 5 ∧ l[l.length - 1]? = some bk ∧ 1 ≤ l.length) (fun kk hkk => ?_) ?_
 ·rcases ho with e | e
  ·subst e
   refine jai (by decide) ?_
   obtain ⟨_, c1, c2, c3, c4, bk, rfl, hcl, _, hb, hb5⟩ := ok2 hn
   have eT : jaT (.mk 2 tx nm [c1, c2, c3, c4, bk] a) = ([115, 121, 115, 116, 101, 109, 32] ++ (tx ++ [c1, c2, c3, c4].flatMap jaS)) ++ (jcG 0 bk ++ [10]) := by
    rw [jaT, if_neg (by decide)]; rfl
   rw [eT] at hl
   simp only [List.length_append, List.length_cons, List.length_nil] at hl
   refine jap na.c1 (Cat (by simp; omega) (jjE h _ (by simp) (by simp only [List.length_append, List.length_cons, List.length_nil]; omega) fun H1 hU1 h1 => ?_))
   have n1 := na.upd hU1
   refine jam n1.c3 ?_
   have hcap := na.cap
   have hlen := na.len
   simp only [List.length_cons, List.length_nil] at hlen
   refine SlA0 (by decide) (by omega) (by omega) ?_
   refine LoopT.ghost (fun r (i : Int) H' => ∃ (j : Nat) (pr : Txt), i = (j : Nat) ∧ j + r = 4 ∧ Upd (lo ≤ ·) H H' ∧ WR lo H' b pr 0 ∧ pr ≠ [] ∧ pr ++ ([c1, c2, c3, c4].drop j).flatMap jaS = pre ++ (ja9 0 ++ ([115, 121, 115, 116, 101, 109, 32] ++ tx)) ++ [c1, c2, c3, c4].flatMap jaS) 4
    ⟨0, _, rfl, rfl, hU1, h1, by simp, by simp⟩ ?_
   rintro next r i H2 ⟨j, pr, rfl, hj, hU2, h2, hpr, heq⟩ hnext
   have n2 := na.upd hU2
   have hlq := congrArg List.length heq
   simp only [List.length_append, List.length_cons, List.length_nil, ja9, List.length_replicate] at hlq
   cases r with
   | zero =>
     have hj4 : j = 4 := by omega
     subst hj4
     refine jbS (by show ¬ ((4 : Nat) : Int) < ((4 : Int).toNat : Int); decide) (hkk _ _ ⟨_, bk, hU2, ?_, by simp, eT, hb, hb5, rfl, by simp⟩)
     have et : pr = pre ++ ([115, 121, 115, 116, 101, 109, 32] ++ (tx ++ [c1, c2, c3, c4].flatMap jaS)) := by simpa [ja9] using heq
     rw [← et]; exact h2
   | succ r =>
     have hj4 : j < [c1, c2, c3, c4].length := by simp; omega
     have hget4 : [c1, c2, c3, c4][j]? = some [c1, c2, c3, c4][j] := List.getElem?_eq_getElem hj4
     have hdrop : [c1, c2, c3, c4].drop j = [c1, c2, c3, c4][j] :: [c1, c2, c3, c4].drop (j + 1) := List.drop_eq_getElem_cons hj4
     have hget : [c1, c2, c3, c4, bk][j]? = some [c1, c2, c3, c4][j] := by
      have : [c1, c2, c3, c4, bk] = [c1, c2, c3, c4] ++ [bk] := rfl
      rw [this, List.getElem?_append_left hj4]; exact hget4
     generalize [c1, c2, c3, c4][j] = v at hget hget4 hdrop
     obtain ⟨hvo, hvop⟩ := hcl v (ja5 hget4)
     have hvc := jaH (ja5 hget)
     obtain ⟨ad, qx, ix, hlt, hcc, hlx⟩ := n2.ix j v hget
     rw [hdrop, List.flatMap_cons] at heq hlq
     simp only [List.length_append] at hlq
     have ix' : ∀ {k : Addr → Prop}, k ad → IxA 1 ⟨L.a, (4 : Int).toNat, (L.cap : Int).toNat⟩ (j : Int) k := fun {k} hk => by
      obtain ⟨x, hx, g0, g1, g2⟩ := ix (k := (· = ad)) rfl rfl
      exact IxA.mk hx (by omega) (by show (j : Int) < ((4 : Int).toNat : Nat); simp at hj4; omega) (g2 ▸ hk)
     refine ja1 (by show (j : Int) < ((4 : Int).toNat : Nat); simp at hj4; omega) ?_
     simp only [Jn]
     refine ix' (jan hcc ?_)
     obtain ⟨op2, tx2, nm2, l2, a2, cc2, L2, rfl, rfl, na2⟩ := hlx.some' hvo
     have hvop : op2 = 3 := hvop
     subst hvop
     have htx2 : tx2.length ≤ 16 := hvo.tlen
     simp only [Option.map_some, NilCk_some, adr_add]
     have nx : ∀ H3, Upd (lo ≤ ·) H2 H3 → WR lo H3 b (pr ++ jaS (.mk 3 tx2 nm2 l2 a2)) 0 → Lt (IntKind.wrap .i64 ((j : Int) + 1)) fun t1 => next t1 H3 := fun H3 hU3 h3 => by
      refine Lt.mk (u := ((j + 1 : Nat) : Int)) (by rw [jac] <;> omega) (hnext r _ _ (by omega) ⟨j + 1, _, rfl, by omega, upL hU2 hU3, h3, jas hpr, ?_⟩)
      rw [← heq]; simp
     refine jam na2.c3 ?_
     by_cases hl20 : l2.length = 0
     ·have e : l2 = [] := List.eq_nil_of_length_eq_zero hl20
      subst e
      refine jbS (by rw [na2.len]; simp) (nx H2 (.refl _ _) ?_)
      have : jaS (.mk 3 tx2 nm2 [] a2) = [] := by simp [jaS]
      rw [this, List.append_nil]; exact h2
     ·have eC : jaS (.mk 3 tx2 nm2 l2 a2) = [32] ++ tx2 ++ [32] ++ jb1 l2 := by
       have : l2.isEmpty = false := by cases l2 with
        | nil => simp at hl20
        | cons => rfl
       simp [jaS, this]
      rw [eC] at hlq nx
      simp only [List.length_append, List.length_cons, List.length_nil] at hlq
      simp only [cnt, jaK] at hvc hc
      refine ja1 (by rw [na2.len]; omega) (jap na2.c1 (Cat (by simp; omega) (Cat (by simp; omega) (jam na2.c3 ?_))))
      refine jk3 na2 hvo.2 (by omega) fun H3 hE3 => ?_
      have n3 := na2.upd (EL hE3)
      refine jb9 n3.c1 (Cat (by simp; omega) (jgG (h2.ext hE3) _ (jas hpr) (by simp only [List.length_append, List.length_cons, List.length_nil]; omega) fun _ H4 hU4 h4 => ?_))
      have n4 := n3.upd hU4
      exact jdW n4.c3 n4.c1 (nx H4 (upL (EL hE3) hU4) h4)
  ·subst e
   obtain ⟨_, cl, bk, rfl, hcl, hclo, _, hb, hb5⟩ := ok4 hn
   obtain ⟨ad, qx, ix, hlt, hcc, hlx⟩ := na.ix 0 cl rfl
   obtain ⟨op2, tx2, nm2, l2, a2, cc2, L2, rfl, rfl, na2⟩ := hlx.some' hcl
   have eT : jaT (.mk 4 tx nm [.mk op2 tx2 nm2 l2 a2, bk] a) = ([102, 117, 110, 99, 32] ++ tx ++ [40] ++ jb1 l2 ++ [41]) ++ (jcG 0 bk ++ [10]) := by
    rw [jaT, if_pos rfl]; simp [Nd.ks]
   rw [eT] at hl
   simp only [List.length_append, List.length_cons, List.length_nil] at hl
   simp only [cnt, jaK] at hc
   refine jah rfl (jap na.c1 (Cat (by simp; omega) (Cat (by simp; omega) (jam na.c3 (ix rfl (jan hcc ?_))))))
   simp only [Option.map_some, NilCk_some, adr_add]
   refine jam na2.c3 (jk3 na2 hcl.2 (by omega) fun H1 hE1 => ?_)
   have n1 := na.upd (EL hE1)
   have n21 := na2.upd (EL hE1)
   have hcc1 : jar H1 ad = some (jcy (some cc2)) := (EL (lo := lo) hE1).cell hcc (by omega)
   refine jax (by simp only [List.mem_cons, List.not_mem_nil, or_false, forall_eq_or_imp, forall_eq]; exact ⟨hcc1, n1.c3, n1.c1⟩) (Cat (by simp only [List.length_append, List.length_cons, List.length_nil]; omega) (Cat (by simp only [List.length_append, List.length_cons, List.length_nil]; omega) ?_))
   refine jjE (h.ext hE1) _ (by simp) (by simp only [List.length_append, List.length_cons, List.length_nil]; omega) fun H2 hU2 h2 => ?_
   have n2 := n1.upd hU2
   have n22 := n21.upd hU2
   exact jax (by simp only [List.mem_cons, List.not_mem_nil, or_false, forall_eq_or_imp, forall_eq]; exact ⟨n22.c3, hU2.cell hcc1 (by omega), n2.c3, n2.c1⟩) (hkk _ _ ⟨_, bk, upL (EL hE1) hU2, by simpa [ja9] using h2, by simp, eT, hb, hb5, rfl, by simp⟩)
 ·rintro _ H1 ⟨hd, bk, hU1, h1, hhd, eT, hbk, hbk5, hget, hl1⟩
  have n1 := na.upd hU1
  rw [eT] at hl hk
  simp only [List.length_append, List.length_cons, List.length_nil] at hl
  refine jam n1.c3 (jam n1.c3 (Lt.mk (u := ((l.length - 1 : Nat) : Int)) (by rw [na.len, jac] <;> omega) ?_))
  obtain ⟨ad, qx, ix, hlt, hcc, hlx⟩ := n1.ix _ bk hget
  refine ix rfl (jan hcc ?_)
  have hmem := ja5 hget
  have := jaH hmem
  refine (wkP lo b (2 ^ 40) (Nat.le_refl _)).bl (by omega) hbk (jaE hi.2 _ hmem) hbk5 hlx h1 (by simp [hhd]) (by simp only [List.length_append]; omega) fun H2 hU2 h2 => ?_
  have n2 := n1.upd hU2
  refine jdW n2.c3 n2.c3 (jnj h2 10 rfl (by simp only [List.length_append]; omega) fun _ H3 hU3 h3 => hk H3 (upL (upL hU1 hU2) hU3) ?_)
  have e : pre ++ (hd ++ (jcG 0 bk ++ [10])) = pre ++ hd ++ jcG 0 bk ++ [10] := by simp
  rw [e]; exact h3
end
section
open Hc Hc.Lex Hc.Syn
variable {H : jaa} {lo b : Nat}
theorem s_is {op sort : Int} (hs : 0 ≤ sort ∧ sort ≤ 8) {k : Bool → jaa → Prop} (hk : k (jaz op sort) H) : CallT Pg fQch [.int .i64 op, .int .i64 sort] (.one (.c .bool)) H k := by
 refine cQb7 _ _ ?_
 unfold vQb7
 simp only [Jn]
 unfold jaz at hk
 by_cases e : sort = 0
 ·rw [if_pos e] at hk; exact jah e hk
 rw [if_neg e] at hk; refine jai e ?_
 by_cases e : sort = 1
 ·rw [if_pos e] at hk; exact jah e hk
 rw [if_neg e] at hk; refine jai e ?_
 by_cases e : sort = 2
 ·rw [if_pos e] at hk
  refine jah e (jaj (fun h => ?_) fun h => ?_)
  ·rw [decide_eq_true (show 10 ≤ op from h), Bool.true_and] at hk; exact hk
  ·rw [decide_eq_false (show ¬ 10 ≤ op from h), Bool.false_and] at hk; exact hk
 rw [if_neg e] at hk; refine jai e ?_
 by_cases e : sort = 3
 ·rw [if_pos e] at hk
  refine jah e (jaj (fun h => ?_) fun h => ?_)
  ·rw [decide_eq_true (show 30 ≤ op from h), Bool.true_and] at hk; exact hk
  ·rw [decide_eq_false (show ¬ 30 ≤ op from h), Bool.false_and] at hk; exact hk
 rw [if_neg e] at hk; refine jai e ?_
 by_cases e : sort = 4
 ·rw [if_pos e] at hk; exact jah e hk
 rw [if_neg e] at hk; refine jai e ?_
 by_cases e : sort = 5
 ·rw [if_pos e] at hk; exact jah e hk
 rw [if_neg e] at hk; refine jai e ?_
 by_cases e : sort = 6
 ·rw [if_pos e] at hk; exact jah e hk
 rw [if_neg e] at hk; refine jai e ?_
 by_cases e : sort = 7
 ·rw [if_pos e] at hk
  refine jah e (Br.mk (fun h => ?_) fun h => ?_)
  ·rw [h] at hk; exact hk
  ·rw [h] at hk; exact hk
 rw [if_neg e] at hk; refine jai e ?_
 exact Br.mk (fun h => by rw [h] at hk; exact hk) fun h => by rw [h] at hk; exact hk
theorem jaG {a c : Nat} (h : some (adr a) = some (adr c)) : a = c := by simpa [adr] using h
def TF (b : Nat) (H : jaa) (fv : Value) (kd : Nat) : Prop := ∀ {t : Txt} {H' : jaa} {k : Bool → jaa → Prop}, Upd (· = b) H H' → TabH H' → t.length ≤ 2 ^ 40 → (∀ H'', Ext H' H'' → k (jaN kd t) H'') → jkw Pg fv [.string ⟨⟨t⟩⟩] (.one (.c .bool)) H' k
theorem jeX : TF b H (.func (.func 89) #[] #[]) 0 := fun {t H' k} _ _ _ hk => ⟨89, #[], #[], rfl, cQce _ (by
 unfold vQce
 rw [ja3]
 have := hk H' (.refl _ _)
 show k _ H'
 have e : (t == []) = decide (t = []) := by rw [Bool.eq_iff_iff]; simp
 unfold jaN at this
 rw [e] at this; exact this)⟩
theorem jbR : TF b H (.func (.func 90) #[] #[]) 1 := fun hE ht hl hk => ⟨90, #[], #[], rfl, jhs ht hl hk⟩
theorem tf_sign : TF b H (.func (.func 92) #[] #[]) 3 := fun {t H' k} _ _ _ hk => ⟨92, #[], #[], rfl, cQcg _ (by
 unfold vQcg
 exact jc7 (hk H' (.refl _ _)))⟩
theorem jkU : TF b H (.func (.func 93) #[] #[]) 5 := fun {t H' k} _ ht hl hk => ⟨93, #[], #[], rfl, cQch _ (by
 unfold vQch
 simp only [Jn]
 refine jhs ht hl fun H1 hE1 => ?_
 have hk : ∀ H'', Ext H' H'' → k (jaC t || builtinL.contains t) H'' := hk
 cases hn : jaC t with
 | true => rw [hn] at hk; exact hk H1 hE1
 | false => rw [hn] at hk; exact jig fun H2 hE2 => hk H2 (hE1.trans hE2 fun _ _ h => h))⟩
theorem jmn {ws : List Txt} {kd : Nat} (hkd : ∀ t, jaN kd t = ws.contains t) (hw : ws.length ≤ 1000) {L : Sl} (hv : Vec H jcC L (ws.map jbG)) {b1 : Nat} (hr : Row H b1 TQai [slV L]) (h1 : b1 ≠ b) (h2 : L.a ≠ some (adr b)) : TF b H (.func (.func 127) #[] #[.pointer (some (adr b1))]) kd :=
 fun {t H' k} hE _ _ hk => ⟨127, #[], #[.pointer (some (adr b1))], rfl, cQcr _ _ (by
  unfold vQcr
  refine jam (((hE.row hr h1).cell 0).trans rfl) (je1 (hv.upd hE fun c hc e => h2 (by rw [hc, e])) hw ?_)
  rw [← hkd]; exact hk H' (.refl _ _))⟩
theorem jiI {L : Sl} {ws : List Txt} {kd : Nat} (hkd : ∀ t, jaN kd t = ws.contains t) (hw : ws.length ≤ 1000) (hv : Vec H jcC L (ws.map jbG)) (hb : b < H.size) (h2 : L.a ≠ some (adr b)) {k : Value → jaa → Prop} (hk : ∀ H' b1, Ext H H' → TF b H' (.func (.func 127) #[] #[.pointer (some (adr b1))]) kd → k (.func (.func 127) #[] #[.pointer (some (adr b1))]) H') :
 CallT Pg fQcp [.slice L.a L.len L.cap] (.one (.c .raw)) H k := by
 refine cQcf L ?_
 unfold vQcf
 refine jaq (vs := [slV L]) fun b1 H1 hb1 hE1 _ hr1 => hk H1 b1 hE1 (jmn hkd hw (hv.upd hE1 fun _ _ h => h) hr1 (by omega) h2)
abbrev FormA : ATy := .agg [.raw, .sl, .bool, (.int .i64)]
theorem fm_bld {b1 : Nat} (r1 : Row H b1 jcp [.nilFunc, .slice none 0 0, .bool false, .int .i64 0]) {g : Nat} {fi ca : Array Value} {L : Sl} {more : Bool} {m : Int} {K : Value × Sl × Bool × Int → jaa → Prop} (hK : ∀ H', Upd (· = b1) H H' → K (.func (.func g) fi ca, L, more, m) H') :
 jdA Pg jcp [(0, .func (.func g) fi ca), (1, .slice L.a L.len L.cap), (2, .bool more), (3, .int .i64 m)] [.raw, .sl, .bool, (.int .i64)] fun (d : Value × Sl × Bool × Int) =>
  StV ⟨b1, 0, none⟩ d.1 H fun H3 => St ⟨b1, 1, none⟩ (.slice d.2.1.a d.2.1.len d.2.1.cap) H3 fun H4 => St ⟨b1, 2, none⟩ (.bool d.2.2.1) H4 fun H5 => St ⟨b1, 3, none⟩ (.int .i64 d.2.2.2) H5 fun H6 =>
   LdC [.raw, .sl, .bool, (.int .i64)] (adr b1) H6 fun (c : Value × Sl × Bool × Int) => K (c.1, c.2.1, c.2.2.1, c.2.2.2) H6 := by
 refine ⟨(.func (.func g) fi ca, L, more, m), fun w => by kernel_rfl, rfl, ?_⟩
 dsimp only
 refine jay r1 (by simp) fun H3 hU3 _ hr3 => jay hr3 (by simp) fun H4 hU4 _ hr4 => jay hr4 (by simp) fun H5 hU5 _ hr5 => jay hr5 (by simp) fun H6 hU6 _ hr6 => ?_
 have hr6 : Row H6 b1 jcp [.func (.func g) fi ca, .slice L.a L.len L.cap, .bool more, .int .i64 m] := hr6
 exact ⟨(.func (.func g) fi ca, L, more, m), hr6.rd_all, hK H6 (((hU3.trans hU4 fun _ _ e => e).trans hU5 fun _ _ e => e).trans hU6 fun _ _ e => e)⟩
def jfS (H0 H : jaa) (op : Int) (r : (Value × Sl × Bool × Int) × Bool) : Prop := match jcl op with
 | some (kd, sl, more, m) => r.2 = true ∧ r.1.1.oneCell' = true ∧ (∃ b, TF b H r.1.1 kd) ∧ Vec H jcZ r.1.2.1 (jeL sl) ∧ (∀ c, r.1.2.1.a = some (adr c) → H0.size ≤ c) ∧ r.1.2.2.1 = more ∧ r.1.2.2.2 = (m : Nat)
 | none => r = ((.nilFunc, ⟨none, 0, 0⟩, false, 0), false)
theorem jaF {b : Nat} {xs : List Int} {n : Nat} (h : Row H b jcZ (jeL xs)) (hn : n = xs.length) : Vec H jcZ ⟨some (adr b), n, n⟩ (jeL xs) :=
 ⟨by simp [hn], .inr ⟨b, [], rfl, by simpa using h, by simp [hn]⟩, Nat.le_refl _⟩
theorem TF.mv {H' : jaa} {fv : Value} {kd : Nat} (h : TF b H fv kd) (hU : Upd (· = b) H H') : TF b H' fv kd := fun hE2 ht hl hk => h (hU.trans hE2 fun _ _ h => h) ht hl hk
theorem TF.ext {H' : jaa} {fv : Value} {kd : Nat} (h : TF b H fv kd) (hE : Ext H H') : TF b H' fv kd := h.mv (hE.mono fun _ _ h => h.elim)
theorem jaV {op : Int} {kd : Nat} {sl : List Int} {more : Bool} {m : Nat} (hf : jcl op = some (kd, sl, more, m)) {H0 H2 : jaa} {b1 : Nat} (hb1 : b1 = H0.size) (hE1 : Ext H0 H2) (r1 : Row H2 b1 jcp [.nilFunc, .slice none 0 0, .bool false, .int .i64 0]) {g : Nat} {fi ca : Array Value} (ht : TF b1 H2 (.func (.func g) fi ca) kd) {L : Sl} (hv : Vec H2 jcZ L (jeL sl)) (hlo : ∀ c, L.a = some (adr c) → H0.size < c) {k : (Value × Sl × Bool × Int) × Bool → jaa → Prop}
 (hk : ∀ r H', Ext H0 H' → jfS H0 H' op r → k r H') :
 jdA Pg jcp [(0, .func (.func g) fi ca), (1, .slice L.a L.len L.cap), (2, .bool more), (3, .int .i64 (m : Nat))] [.raw, .sl, .bool, (.int .i64)] fun (d : Value × Sl × Bool × Int) =>
  StV ⟨b1, 0, none⟩ d.1 H2 fun H3 => St ⟨b1, 1, none⟩ (.slice d.2.1.a d.2.1.len d.2.1.cap) H3 fun H4 => St ⟨b1, 2, none⟩ (.bool d.2.2.1) H4 fun H5 => St ⟨b1, 3, none⟩ (.int .i64 d.2.2.2) H5 fun H6 =>
   LdC [.raw, .sl, .bool, (.int .i64)] (adr b1) H6 fun (c : Value × Sl × Bool × Int) => k ((c.1, c.2.1, c.2.2.1, c.2.2.2), true) H6 := by
 refine fm_bld (K := fun c H' => k (c, true) H') r1 fun H' hU => hk _ H' (hE1.trans hU fun x hx e => by omega) ?_
 unfold jfS
 rw [hf]
 exact ⟨rfl, rfl, ⟨b1, ht.mv hU⟩, hv.upd hU fun c hc e => by have := hlo c hc; omega, fun c hc => Nat.le_of_lt (hlo c hc), rfl, rfl⟩
theorem jeG {b : Nat} {xs : List Txt} {n : Nat} (h : Row H b jcC (xs.map jbG)) (hn : n = xs.length) : Vec H jcC ⟨some (adr b), n, n⟩ (xs.map jbG) :=
 ⟨by simp [hn], .inr ⟨b, [], rfl, by simpa using h, by simp [hn]⟩, Nat.le_refl _⟩
theorem jmU {op : Int} {k : (Value × Sl × Bool × Int) × Bool → jaa → Prop} (hk : ∀ r H', Ext H H' → jfS H H' op r → k r H') : CallT Pg fQcg [.int .i64 op] (.tup [FormA, (.c .bool)]) H k := by
 refine cQb6 _ ?_
 unfold vQb6
 refine jaq (vs := [.nilFunc, .slice none 0 0, .bool false, .int .i64 0]) fun b1 H1 hb1 hE1 _ r1 => ?_
 simp only [adr_add]
 have hs1 := hE1.size
 by_cases e0 : op = 1
 ·subst e0
  refine jah rfl ?_
  refine jaq (vs := jeL [8]) fun b2 H2 hb2 hE2 _ hr2 => ?_
  have hs2 := hE2.size
  exact jaV (sl := [8]) (more := true) (m := 0) (L := ⟨some (adr b2), 1, 1⟩) rfl hb1 (hE1.trans hE2 fun _ _ h => h) (hE2.row r1 fun h => h) jeX (jaF hr2 rfl) (fun c hc => by have := jaG hc; omega) hk
 refine jai e0 ?_
 by_cases e1 : op = 2
 ·subst e1
  refine jah rfl ?_
  refine jaq (vs := jeL [0, 0, 0, 0, 1]) fun b2 H2 hb2 hE2 _ hr2 => ?_
  have hs2 := hE2.size
  exact jaV (sl := [0, 0, 0, 0, 1]) (more := false) (m := 5) (L := ⟨some (adr b2), 5, 5⟩) rfl hb1 (hE1.trans hE2 fun _ _ h => h) (hE2.row r1 fun h => h) jbR (jaF hr2 rfl) (fun c hc => by have := jaG hc; omega) hk
 refine jai e1 ?_
 by_cases e2 : op = 3
 ·subst e2
  refine jah rfl ?_
  refine jaq (vs := (clauseW ++ [[102, 117, 110, 99]] : List Txt).map jbG) fun b4 H4 hb4 hE4 _ hr4 => ?_
  refine jiI (kd := 2) (ws := clauseW ++ [[102, 117, 110, 99]]) (L := ⟨some (adr b4), 5, 5⟩) (fun t => by simp [jaN, List.contains_cons]) (by decide) (jeG hr4 rfl) (b := b1) (by omega) (fun e => by have := jaG e; omega) fun H5 b5 hE5 ht5 => ?_
  have hE15 := hE4.trans hE5 fun _ _ h => h
  refine jaq (vs := jeL [6]) fun b2 H2 hb2 hE2 _ hr2 => ?_
  have hE25 := hE15.trans hE2 fun _ _ h => h
  have hs25 := hE25.size
  have hs15 := hE15.size
  exact jaV (sl := [6]) (more := true) (m := 0) (L := ⟨some (adr b2), 1, 1⟩) rfl hb1 (hE1.trans hE25 fun _ _ h => h) (hE25.row r1 fun h => h) (ht5.ext hE2) (jaF hr2 rfl) (fun c hc => by have := jaG hc; omega) hk
 refine jai e2 ?_
 by_cases e3 : op = 4
 ·subst e3
  refine jah rfl ?_
  refine jaq (vs := jeL [0, 1]) fun b2 H2 hb2 hE2 _ hr2 => ?_
  have hs2 := hE2.size
  exact jaV (sl := [0, 1]) (more := false) (m := 2) (L := ⟨some (adr b2), 2, 2⟩) rfl hb1 (hE1.trans hE2 fun _ _ h => h) (hE2.row r1 fun h => h) jbR (jaF hr2 rfl) (fun c hc => by have := jaG hc; omega) hk
 refine jai e3 ?_
 by_cases e4 : op = 5
 ·subst e4
  refine jah rfl ?_
  refine jaq (vs := jeL [2]) fun b2 H2 hb2 hE2 _ hr2 => ?_
  have hs2 := hE2.size
  exact jaV (sl := [2]) (more := true) (m := 0) (L := ⟨some (adr b2), 1, 1⟩) rfl hb1 (hE1.trans hE2 fun _ _ h => h) (hE2.row r1 fun h => h) jeX (jaF hr2 rfl) (fun c hc => by have := jaG hc; omega) hk
 refine jai e4 ?_
 by_cases e5 : op = 10
 ·subst e5
  refine jah rfl ?_
  refine jaq (vs := jeL [3]) fun b2 H2 hb2 hE2 _ hr2 => ?_
  have hs2 := hE2.size
  exact jaV (sl := [3]) (more := false) (m := 1) (L := ⟨some (adr b2), 1, 1⟩) rfl hb1 (hE1.trans hE2 fun _ _ h => h) (hE2.row r1 fun h => h) jbR (jaF hr2 rfl) (fun c hc => by have := jaG hc; omega) hk
 refine jai e5 ?_
 by_cases e6 : op = 11
 ·subst e6
  refine jah rfl ?_
  refine jaq (vs := jeL [3]) fun b2 H2 hb2 hE2 _ hr2 => ?_
  have hs2 := hE2.size
  exact jaV (sl := [3]) (more := false) (m := 1) (L := ⟨some (adr b2), 1, 1⟩) rfl hb1 (hE1.trans hE2 fun _ _ h => h) (hE2.row r1 fun h => h) jbR (jaF hr2 rfl) (fun c hc => by have := jaG hc; omega) hk
 refine jai e6 ?_
 by_cases e7 : op = 12
 ·subst e7
  refine jah rfl ?_
  refine jaq (vs := jeL [6, 3]) fun b2 H2 hb2 hE2 _ hr2 => ?_
  have hs2 := hE2.size
  exact jaV (sl := [6, 3]) (more := false) (m := 2) (L := ⟨some (adr b2), 2, 2⟩) rfl hb1 (hE1.trans hE2 fun _ _ h => h) (hE2.row r1 fun h => h) jbR (jaF hr2 rfl) (fun c hc => by have := jaG hc; omega) hk
 refine jai e7 ?_
 by_cases e8 : op = 13
 ·subst e8
  refine jah rfl ?_
  refine jaq (vs := jeL [3, 1, 7]) fun b2 H2 hb2 hE2 _ hr2 => ?_
  have hs2 := hE2.size
  exact jaV (sl := [3, 1, 7]) (more := false) (m := 2) (L := ⟨some (adr b2), 3, 3⟩) rfl hb1 (hE1.trans hE2 fun _ _ h => h) (hE2.row r1 fun h => h) jeX (jaF hr2 rfl) (fun c hc => by have := jaG hc; omega) hk
 refine jai e8 ?_
 by_cases e9 : op = 14
 ·subst e9
  refine jah rfl ?_
  refine jaq (vs := jeL [3, 1]) fun b2 H2 hb2 hE2 _ hr2 => ?_
  have hs2 := hE2.size
  exact jaV (sl := [3, 1]) (more := false) (m := 2) (L := ⟨some (adr b2), 2, 2⟩) rfl hb1 (hE1.trans hE2 fun _ _ h => h) (hE2.row r1 fun h => h) jeX (jaF hr2 rfl) (fun c hc => by have := jaG hc; omega) hk
 refine jai e9 ?_
 by_cases e10 : op = 15
 ·subst e10
  refine jah rfl ?_
  refine jaq (vs := jeL [3, 1]) fun b2 H2 hb2 hE2 _ hr2 => ?_
  have hs2 := hE2.size
  exact jaV (sl := [3, 1]) (more := false) (m := 2) (L := ⟨some (adr b2), 2, 2⟩) rfl hb1 (hE1.trans hE2 fun _ _ h => h) (hE2.row r1 fun h => h) jeX (jaF hr2 rfl) (fun c hc => by have := jaG hc; omega) hk
 refine jai e10 ?_
 by_cases e11 : op = 16
 ·subst e11
  refine jah rfl ?_
  refine jaq (vs := jeL [3, 3]) fun b2 H2 hb2 hE2 _ hr2 => ?_
  have hs2 := hE2.size
  exact jaV (sl := [3, 3]) (more := false) (m := 2) (L := ⟨some (adr b2), 2, 2⟩) rfl hb1 (hE1.trans hE2 fun _ _ h => h) (hE2.row r1 fun h => h) jeX (jaF hr2 rfl) (fun c hc => by have := jaG hc; omega) hk
 refine jai e11 ?_
 by_cases e12 : op = 17
 ·subst e12
  refine jah rfl ?_
  refine jaq (vs := jeL [4]) fun b2 H2 hb2 hE2 _ hr2 => ?_
  have hs2 := hE2.size
  exact jaV (sl := [4]) (more := true) (m := 0) (L := ⟨some (adr b2), 1, 1⟩) rfl hb1 (hE1.trans hE2 fun _ _ h => h) (hE2.row r1 fun h => h) jeX (jaF hr2 rfl) (fun c hc => by have := jaG hc; omega) hk
 refine jai e12 ?_
 by_cases e13 : op = 18
 ·subst e13
  refine jah rfl ?_
  refine jaq (vs := jeL [4]) fun b2 H2 hb2 hE2 _ hr2 => ?_
  have hs2 := hE2.size
  exact jaV (sl := [4]) (more := false) (m := 1) (L := ⟨some (adr b2), 1, 1⟩) rfl hb1 (hE1.trans hE2 fun _ _ h => h) (hE2.row r1 fun h => h) jeX (jaF hr2 rfl) (fun c hc => by have := jaG hc; omega) hk
 refine jai e13 ?_
 by_cases e14 : op = 19
 ·subst e14
  refine jah rfl ?_
  exact jaV (sl := []) (more := false) (m := 0) (L := ⟨none, 0, 0⟩) rfl hb1 hE1 r1 jbR (Vec.nil _ _) (fun c hc => by cases hc) hk
 refine jai e14 ?_
 by_cases e15 : op = 20
 ·subst e15
  refine jah rfl ?_
  exact jaV (sl := []) (more := false) (m := 0) (L := ⟨none, 0, 0⟩) rfl hb1 hE1 r1 jeX (Vec.nil _ _) (fun c hc => by cases hc) hk
 refine jai e15 ?_
 by_cases e16 : op = 21
 ·subst e16
  refine jah rfl ?_
  exact jaV (sl := []) (more := false) (m := 0) (L := ⟨none, 0, 0⟩) rfl hb1 hE1 r1 jeX (Vec.nil _ _) (fun c hc => by cases hc) hk
 refine jai e16 ?_
 by_cases e17 : op = 22
 ·subst e17
  refine jah rfl ?_
  refine jaq (vs := jeL [3]) fun b2 H2 hb2 hE2 _ hr2 => ?_
  have hs2 := hE2.size
  exact jaV (sl := [3]) (more := false) (m := 1) (L := ⟨some (adr b2), 1, 1⟩) rfl hb1 (hE1.trans hE2 fun _ _ h => h) (hE2.row r1 fun h => h) jeX (jaF hr2 rfl) (fun c hc => by have := jaG hc; omega) hk
 refine jai e17 ?_
 by_cases e18 : op = 23
 ·subst e18
  refine jah rfl ?_
  refine jaq (vs := jeL [5]) fun b2 H2 hb2 hE2 _ hr2 => ?_
  have hs2 := hE2.size
  exact jaV (sl := [5]) (more := true) (m := 0) (L := ⟨some (adr b2), 1, 1⟩) rfl hb1 (hE1.trans hE2 fun _ _ h => h) (hE2.row r1 fun h => h) jbR (jaF hr2 rfl) (fun c hc => by have := jaG hc; omega) hk
 refine jai e18 ?_
 by_cases e19 : op = 24
 ·subst e19
  refine jah rfl ?_
  refine jaq (vs := jeL [3]) fun b2 H2 hb2 hE2 _ hr2 => ?_
  have hs2 := hE2.size
  exact jaV (sl := [3]) (more := false) (m := 1) (L := ⟨some (adr b2), 1, 1⟩) rfl hb1 (hE1.trans hE2 fun _ _ h => h) (hE2.row r1 fun h => h) jbR (jaF hr2 rfl) (fun c hc => by have := jaG hc; omega) hk
 refine jai e19 ?_
 by_cases e20 : op = 30
 ·subst e20
  refine jah rfl ?_
  exact jaV (sl := []) (more := false) (m := 0) (L := ⟨none, 0, 0⟩) rfl hb1 hE1 r1 jeX (Vec.nil _ _) (fun c hc => by cases hc) hk
 refine jai e20 ?_
 by_cases e21 : op = 31
 ·subst e21
  refine jah rfl ?_
  exact jaV (sl := []) (more := false) (m := 0) (L := ⟨none, 0, 0⟩) rfl hb1 hE1 r1 jbR (Vec.nil _ _) (fun c hc => by cases hc) hk
 refine jai e21 ?_
 by_cases e22 : op = 32
 ·subst e22
  refine jah rfl ?_
  refine jaq (vs := jeL [6]) fun b2 H2 hb2 hE2 _ hr2 => ?_
  have hs2 := hE2.size
  exact jaV (sl := [6]) (more := false) (m := 1) (L := ⟨some (adr b2), 1, 1⟩) rfl hb1 (hE1.trans hE2 fun _ _ h => h) (hE2.row r1 fun h => h) jbR (jaF hr2 rfl) (fun c hc => by have := jaG hc; omega) hk
 refine jai e22 ?_
 by_cases e23 : op = 33
 ·subst e23
  refine jah rfl ?_
  refine jaq (vs := jeL [3, 3]) fun b2 H2 hb2 hE2 _ hr2 => ?_
  have hs2 := hE2.size
  exact jaV (sl := [3, 3]) (more := false) (m := 2) (L := ⟨some (adr b2), 2, 2⟩) rfl hb1 (hE1.trans hE2 fun _ _ h => h) (hE2.row r1 fun h => h) tf_sign (jaF hr2 rfl) (fun c hc => by have := jaG hc; omega) hk
 refine jai e23 ?_
 by_cases e24 : op = 34
 ·subst e24
  refine jah rfl ?_
  refine jaq (vs := ([[45], [33]] : List Txt).map jbG) fun b4 H4 hb4 hE4 _ hr4 => ?_
  refine jiI (kd := 4) (ws := [[45], [33]]) (L := ⟨some (adr b4), 2, 2⟩) (fun t => by rw [Bool.eq_iff_iff]; simp [jaN]) (by decide) (jeG hr4 rfl) (b := b1) (by omega) (fun e => by have := jaG e; omega) fun H5 b5 hE5 ht5 => ?_
  have hE15 := hE4.trans hE5 fun _ _ h => h
  refine jaq (vs := jeL [3]) fun b2 H2 hb2 hE2 _ hr2 => ?_
  have hE25 := hE15.trans hE2 fun _ _ h => h
  have hs25 := hE25.size
  have hs15 := hE15.size
  exact jaV (sl := [3]) (more := false) (m := 1) (L := ⟨some (adr b2), 1, 1⟩) rfl hb1 (hE1.trans hE25 fun _ _ h => h) (hE25.row r1 fun h => h) (ht5.ext hE2) (jaF hr2 rfl) (fun c hc => by have := jaG hc; omega) hk
 refine jai e24 ?_
 by_cases e25 : op = 35
 ·subst e25
  refine jah rfl ?_
  refine jaq (vs := jeL [3, 3, 3]) fun b2 H2 hb2 hE2 _ hr2 => ?_
  have hs2 := hE2.size
  exact jaV (sl := [3, 3, 3]) (more := false) (m := 3) (L := ⟨some (adr b2), 3, 3⟩) rfl hb1 (hE1.trans hE2 fun _ _ h => h) (hE2.row r1 fun h => h) jeX (jaF hr2 rfl) (fun c hc => by have := jaG hc; omega) hk
 refine jai e25 ?_
 by_cases e26 : op = 36
 ·subst e26
  refine jah rfl ?_
  refine jaq (vs := jeL [3]) fun b2 H2 hb2 hE2 _ hr2 => ?_
  have hs2 := hE2.size
  exact jaV (sl := [3]) (more := true) (m := 0) (L := ⟨some (adr b2), 1, 1⟩) rfl hb1 (hE1.trans hE2 fun _ _ h => h) (hE2.row r1 fun h => h) jkU (jaF hr2 rfl) (fun c hc => by have := jaG hc; omega) hk
 refine jai e26 ?_
 by_cases e27 : op = 37
 ·subst e27
  refine jah rfl ?_
  exact jaV (sl := []) (more := false) (m := 0) (L := ⟨none, 0, 0⟩) rfl hb1 hE1 r1 jbR (Vec.nil _ _) (fun c hc => by cases hc) hk
 refine jai e27 ?_
 by_cases e28 : op = 38
 ·subst e28
  refine jah rfl ?_
  refine jaq (vs := ([[116, 105, 99, 107], [109, 101]] : List Txt).map jbG) fun b4 H4 hb4 hE4 _ hr4 => ?_
  refine jiI (kd := 6) (ws := [[116, 105, 99, 107], [109, 101]]) (L := ⟨some (adr b4), 2, 2⟩) (fun t => by rw [Bool.eq_iff_iff]; simp [jaN]) (by decide) (jeG hr4 rfl) (b := b1) (by omega) (fun e => by have := jaG e; omega) fun H5 b5 hE5 ht5 => ?_
  have hE15 := hE4.trans hE5 fun _ _ h => h
  have hs15 := hE15.size
  exact jaV (sl := []) (more := false) (m := 0) (L := ⟨none, 0, 0⟩) rfl hb1 (hE1.trans hE15 fun _ _ h => h) (hE15.row r1 fun h => h) ht5 (Vec.nil _ _) (fun c hc => by cases hc) hk
 refine jai e28 ?_
 have hf : jcl op = none := by unfold jcl; simp only [if_neg e0, if_neg e1, if_neg e2, if_neg e3, if_neg e4, if_neg e5, if_neg e6, if_neg e7, if_neg e8, if_neg e9, if_neg e10, if_neg e11, if_neg e12, if_neg e13, if_neg e14, if_neg e15, if_neg e16, if_neg e17, if_neg e18, if_neg e19, if_neg e20, if_neg e21, if_neg e22, if_neg e23, if_neg e24, if_neg e25, if_neg e26, if_neg e27, if_neg e28]
 refine ⟨(.nilFunc, ⟨none, 0, 0⟩, false, 0), fun w => by kernel_rfl, rfl, ?_⟩
 dsimp only
 refine jay r1 (by simp) fun H3 hU3 _ hr3 => jay hr3 (by simp) fun H4 hU4 _ hr4 => jay hr4 (by simp) fun H5 hU5 _ hr5 => jay hr5 (by simp) fun H6 hU6 _ hr6 => ?_
 have hr6 : Row H6 b1 jcp [.nilFunc, .slice none 0 0, .bool false, .int .i64 0] := hr6
 refine ⟨(.nilFunc, ⟨none, 0, 0⟩, false, 0), hr6.rd_all, hk _ H6 (hE1.trans (((hU3.trans hU4 fun _ _ e => e).trans hU5 fun _ _ e => e).trans hU6 fun _ _ e => e) fun x hx e => by omega) ?_⟩
 unfold jfS; rw [hf]
theorem jlX {b : Nat} {T : TypeId} {u v : Value} {vs : List Value} {k : jaa → Prop} (h : Row H b T (u :: vs)) (hone : v.oneCell' = true := by rfl) (hk : ∀ H', Upd (· = b) H H' → Row H' b T (v :: vs) → k H') : StV ⟨b, 0, none⟩ v H k :=
 ⟨hone, jay h (by simp) fun H' hU _ hr => hk H' hU hr⟩
theorem jkr {fv : Value} {args : List Value} {r : RTy} {k : r.den → jaa → Prop} (h : jkw Pg fv args r H k) : jkw Pg fv args r H k := h
theorem jnp : ∀ {l : List Nd}, (∀ n ∈ l, okN n) → okL l
 | [], _ => trivial
 | n :: ns, h => ⟨h n (by simp), jnp fun m hm => h m (by simp [hm])⟩
theorem jfN {W : List Txt} {l : List Nd} (hl : W.length ≤ l.length) : ((l.take W.length).map Nd.tx = W) ↔ ∀ i, i < W.length → (l[i]?.map Nd.tx) = W[i]? := by
 constructor
 ·intro h i hi
  have := congrArg (fun x => x[i]?) h
  simp only [List.getElem?_map, List.getElem?_take, if_pos hi] at this
  exact this
 ·intro h
  apply List.ext_getElem?
  intro i
  rw [List.getElem?_map, List.getElem?_take]
  by_cases hi : i < W.length
  ·rw [if_pos hi]; exact h i hi
  ·rw [if_neg hi, List.getElem?_eq_none (by omega)]; rfl
theorem jl1 {op nm : Int} {tx : Txt} {l : List Nd} {c : Nat} {L : Sl} (na : NA lo H op tx nm l c L) (hl : okL l) (h2 : op = 2 → 4 ≤ l.length) (h4 : op = 4 → 1 ≤ l.length) {k : Bool → jaa → Prop} (hk : ∀ H', Ext H H' → k (je3 op l) H') :
 CallT Pg fQci [.pointer (some (adr c))] (.one (.c .bool)) H k := by
 refine cQb8 _ ?_
 unfold vQb8
 simp only [NilCk_some, adr_add]
 refine jaf na.c0 ?_
 refine Jn.mk (fun r H1 => ∃ W : List Txt, Ext H H1 ∧ Vec H1 jcC r (W.map jbG) ∧ W.length ≤ l.length ∧ W.length ≤ 4 ∧ je3 op l = decide ((l.take W.length).map Nd.tx = W)) (fun kk hkk => ?_) ?_
 ·simp only [Jn]
  by_cases e : op = 2
  ·refine jah e (jaq (vs := clauseW.map jbG) fun b1 H1 hb1 hE1 _ hr1 => hkk _ _ ⟨clauseW, hE1, jeG hr1 rfl, h2 e, by decide, ?_⟩)
   unfold je3
   rw [if_pos e, Bool.eq_iff_iff]; simp [clauseW]
  refine jai e ?_
  by_cases e4 : op = 4
  ·refine jah e4 (jaq (vs := [[102, 117, 110, 99]].map jbG) fun b1 H1 hb1 hE1 _ hr1 => hkk _ _ ⟨[[102, 117, 110, 99]], hE1, jeG hr1 rfl, h4 e4, by decide, ?_⟩)
   unfold je3
   rw [if_neg e, if_pos e4, Bool.eq_iff_iff]; simp
  ·refine jai e4 (hkk _ _ ⟨[], .refl _ _, Vec.nil _ _, Nat.zero_le _, Nat.zero_le _, ?_⟩)
   unfold je3
   rw [if_neg e, if_neg e4]; simp
 ·rintro r H1 ⟨W, hE1, hv, hlen, hW4, hcls⟩
  have na1 := na.upd (EL hE1)
  have hrl : r.len = W.length := by rw [hv.len, List.length_map]
  rw [hcls] at hk
  refine LoopT.ghost (fun m (i : Int) H' => H' = H1 ∧ ∃ j : Nat, i = j ∧ j + m = W.length ∧ ∀ x, x < j → (l[x]?.map Nd.tx) = W[x]?) W.length ⟨rfl, 0, rfl, by omega, fun x hx => by omega⟩ ?_
  rintro next m i H2 ⟨rfl, j, rfl, hj, hall⟩ hnext
  cases m with
  | zero =>
    refine jbS (by rw [hrl]; omega) ?_
    rw [decide_eq_true ((jfN hlen).2 fun i hi => hall i (by omega))] at hk
    exact hk _ hE1
  | succ m =>
    have hjW : j < W.length := by omega
    have hjl : j < l.length := by omega
    have hget : l[j]? = some l[j] := List.getElem?_eq_getElem hjl
    have hgW : W[j]? = some W[j] := List.getElem?_eq_getElem hjW
    obtain ⟨ad, qx, ix, hlt, hcc, hlx⟩ := na1.ix j _ hget
    obtain ⟨op2, tx2, nm2, l2, a2, c2, L2, he, rfl, na2⟩ := hlx.some' (jaM hl _ (ja5 hget))
    refine ja1 (by rw [hrl]; omega) (jcc hv (by omega) (by simp; omega) fun ad2 hc2 _ => ?_)
    have hc2 : jar H2 ad2 = some (jbG W[j]) := hc2.trans (by simp [hgW])
    refine jap hc2 (jam na1.c3 (ix rfl (jan hcc ?_)))
    simp only [Option.map_some, NilCk_some, adr_add]
    refine jap na2.c1 ?_
    rw [ja3]
    refine Br.mk (fun e => ?_) fun e => ?_
    ·have hne : tx2 ≠ W[j] := by simpa using e
     rw [decide_eq_false fun h => hne (by have := (jfN hlen).1 h j hjW; rw [hget, hgW, he] at this; simpa [Nd.tx] using this)] at hk
     exact hk _ hE1
    ·have heq : tx2 = W[j] := by simpa using e
     refine Lt.mk (u := ((j + 1 : Nat) : Int)) (by rw [jac] <;> omega) (hnext m _ _ (by omega) ⟨rfl, j + 1, by omega, by omega, fun x hx => ?_⟩)
     rcases Nat.lt_or_ge x j with h | h
     ·exact hall x h
     ·have : x = j := by omega
      subst this
      rw [hget, hgW, he]; simp [Nd.tx, heq]
mutual
def jjH : Nd → Prop
 | .nil => True
 | .mk _ tx _ l _ => tx.length ≤ 2 ^ 40 ∧ l.length ≤ 2 ^ 40 ∧ txtL l
def txtL : List Nd → Prop
 | [] => True
 | n :: ns => jjH n ∧ txtL ns
end
theorem jdu : ∀ {l : List Nd}, txtL l → ∀ n ∈ l, jjH n
 | [], _, n, hn => by cases hn
 | m :: ms, h, n, hn => by
   rcases List.mem_cons.1 hn with rfl | hn
   ·exact h.1
   ·exact jdu h.2 n hn
theorem jkx (sl : List Int) : (sl.headD 8) = (sl[0]?).getD 8 := by cases sl <;> rfl
theorem jk7 {bl left : Int} {sl : List Int} {n : Nd} {ns : List Nd} : jcT bl left sl (n :: ns) = match jd0 bl left n with
 | none => none
 | some lf => if jaz n.op (sl.headD 8) then jcT bl lf (if sl.length ≤ 1 then sl else sl.tail) ns else none := by rw [jcT]; cases jd0 bl left n <;> rfl
theorem jiM {op : Int} {k : Nat} {sl : List Int} {more : Bool} {m : Nat} (h : jcl op = some (k, sl, more, m)) : (∀ s ∈ sl, 0 ≤ s ∧ s ≤ 8) ∧ (more = true → sl ≠ []) ∧ m ≤ 5 ∧ sl.length ≤ 5 ∧ (op = 2 → 4 ≤ m) ∧ (op = 4 → 1 ≤ m) := by
 unfold jcl at h
 by_cases e : op = 1
 ·rw [if_pos e] at h; cases h; exact ⟨by decide, by decide, by decide, by decide, fun g => by omega, fun g => by omega⟩
 rw [if_neg e] at h; clear e
 by_cases e : op = 2
 ·rw [if_pos e] at h; cases h; exact ⟨by decide, by decide, by decide, by decide, fun g => by omega, fun g => by omega⟩
 rw [if_neg e] at h; clear e
 by_cases e : op = 3
 ·rw [if_pos e] at h; cases h; exact ⟨by decide, by decide, by decide, by decide, fun g => by omega, fun g => by omega⟩
 rw [if_neg e] at h; clear e
 by_cases e : op = 4
 ·rw [if_pos e] at h; cases h; exact ⟨by decide, by decide, by decide, by decide, fun g => by omega, fun g => by omega⟩
 rw [if_neg e] at h; clear e
 by_cases e : op = 5
 ·rw [if_pos e] at h; cases h; exact ⟨by decide, by decide, by decide, by decide, fun g => by omega, fun g => by omega⟩
 rw [if_neg e] at h; clear e
 by_cases e : op = 10
 ·rw [if_pos e] at h; cases h; exact ⟨by decide, by decide, by decide, by decide, fun g => by omega, fun g => by omega⟩
 rw [if_neg e] at h; clear e
 by_cases e : op = 11
 ·rw [if_pos e] at h; cases h; exact ⟨by decide, by decide, by decide, by decide, fun g => by omega, fun g => by omega⟩
 rw [if_neg e] at h; clear e
 by_cases e : op = 12
 ·rw [if_pos e] at h; cases h; exact ⟨by decide, by decide, by decide, by decide, fun g => by omega, fun g => by omega⟩
 rw [if_neg e] at h; clear e
 by_cases e : op = 13
 ·rw [if_pos e] at h; cases h; exact ⟨by decide, by decide, by decide, by decide, fun g => by omega, fun g => by omega⟩
 rw [if_neg e] at h; clear e
 by_cases e : op = 14
 ·rw [if_pos e] at h; cases h; exact ⟨by decide, by decide, by decide, by decide, fun g => by omega, fun g => by omega⟩
 rw [if_neg e] at h; clear e
 by_cases e : op = 15
 ·rw [if_pos e] at h; cases h; exact ⟨by decide, by decide, by decide, by decide, fun g => by omega, fun g => by omega⟩
 rw [if_neg e] at h; clear e
 by_cases e : op = 16
 ·rw [if_pos e] at h; cases h; exact ⟨by decide, by decide, by decide, by decide, fun g => by omega, fun g => by omega⟩
 rw [if_neg e] at h; clear e
 by_cases e : op = 17
 ·rw [if_pos e] at h; cases h; exact ⟨by decide, by decide, by decide, by decide, fun g => by omega, fun g => by omega⟩
 rw [if_neg e] at h; clear e
 by_cases e : op = 18
 ·rw [if_pos e] at h; cases h; exact ⟨by decide, by decide, by decide, by decide, fun g => by omega, fun g => by omega⟩
 rw [if_neg e] at h; clear e
 by_cases e : op = 19
 ·rw [if_pos e] at h; cases h; exact ⟨by decide, by decide, by decide, by decide, fun g => by omega, fun g => by omega⟩
 rw [if_neg e] at h; clear e
 by_cases e : op = 20
 ·rw [if_pos e] at h; cases h; exact ⟨by decide, by decide, by decide, by decide, fun g => by omega, fun g => by omega⟩
 rw [if_neg e] at h; clear e
 by_cases e : op = 21
 ·rw [if_pos e] at h; cases h; exact ⟨by decide, by decide, by decide, by decide, fun g => by omega, fun g => by omega⟩
 rw [if_neg e] at h; clear e
 by_cases e : op = 22
 ·rw [if_pos e] at h; cases h; exact ⟨by decide, by decide, by decide, by decide, fun g => by omega, fun g => by omega⟩
 rw [if_neg e] at h; clear e
 by_cases e : op = 23
 ·rw [if_pos e] at h; cases h; exact ⟨by decide, by decide, by decide, by decide, fun g => by omega, fun g => by omega⟩
 rw [if_neg e] at h; clear e
 by_cases e : op = 24
 ·rw [if_pos e] at h; cases h; exact ⟨by decide, by decide, by decide, by decide, fun g => by omega, fun g => by omega⟩
 rw [if_neg e] at h; clear e
 by_cases e : op = 30
 ·rw [if_pos e] at h; cases h; exact ⟨by decide, by decide, by decide, by decide, fun g => by omega, fun g => by omega⟩
 rw [if_neg e] at h; clear e
 by_cases e : op = 31
 ·rw [if_pos e] at h; cases h; exact ⟨by decide, by decide, by decide, by decide, fun g => by omega, fun g => by omega⟩
 rw [if_neg e] at h; clear e
 by_cases e : op = 32
 ·rw [if_pos e] at h; cases h; exact ⟨by decide, by decide, by decide, by decide, fun g => by omega, fun g => by omega⟩
 rw [if_neg e] at h; clear e
 by_cases e : op = 33
 ·rw [if_pos e] at h; cases h; exact ⟨by decide, by decide, by decide, by decide, fun g => by omega, fun g => by omega⟩
 rw [if_neg e] at h; clear e
 by_cases e : op = 34
 ·rw [if_pos e] at h; cases h; exact ⟨by decide, by decide, by decide, by decide, fun g => by omega, fun g => by omega⟩
 rw [if_neg e] at h; clear e
 by_cases e : op = 35
 ·rw [if_pos e] at h; cases h; exact ⟨by decide, by decide, by decide, by decide, fun g => by omega, fun g => by omega⟩
 rw [if_neg e] at h; clear e
 by_cases e : op = 36
 ·rw [if_pos e] at h; cases h; exact ⟨by decide, by decide, by decide, by decide, fun g => by omega, fun g => by omega⟩
 rw [if_neg e] at h; clear e
 by_cases e : op = 37
 ·rw [if_pos e] at h; cases h; exact ⟨by decide, by decide, by decide, by decide, fun g => by omega, fun g => by omega⟩
 rw [if_neg e] at h; clear e
 by_cases e : op = 38
 ·rw [if_pos e] at h; cases h; exact ⟨by decide, by decide, by decide, by decide, fun g => by omega, fun g => by omega⟩
 rw [if_neg e] at h; clear e
 cases h
theorem jlT {sl : List Int} (j : Nat) : (if (sl.drop (min j (sl.length - 1))).length ≤ 1 then sl.drop (min j (sl.length - 1)) else (sl.drop (min j (sl.length - 1))).tail) = sl.drop (min (j + 1) (sl.length - 1)) := by
 rw [List.length_drop]
 by_cases h : sl.length - 1 ≤ j
 ·rw [Nat.min_eq_right h, Nat.min_eq_right (by omega : sl.length - 1 ≤ j + 1), if_pos (by omega)]
 ·rw [Nat.min_eq_left (by omega), Nat.min_eq_left (by omega : j + 1 ≤ sl.length - 1), if_neg (by omega), List.tail_drop]
theorem s_fits : ∀ (m : Nat) {n : Nd} {q : Option Nat} {H : jaa} {bl left : Int} {lb : Nat}, cnt n ≤ m → LN lo H n q → jjH n → 8 ≤ lo → lo ≤ H.size → TabH H → lo ≤ lb → Row H lb jcZ [.int .i64 left] → 0 ≤ left ∧ left ≤ 100000 → 0 ≤ bl ∧ bl ≤ 100 →
 ∀ {k : Bool → jaa → Prop}, (∀ H', Upd (· = lb) H H' → jd0 bl left n = none → k false H') → (∀ H' lf, Upd (· = lb) H H' → jd0 bl left n = some lf → Row H' lb jcZ [.int .i64 lf] → k true H') →
 CallT Pg fQcc [pN q, .int .i64 bl, .pointer (some (adr lb))] (.one (.c .bool)) H k := by
 have up : ∀ {lb : Nat} {H H' : jaa}, lo ≤ lb → Upd (· = lb) H H' → Upd (lo ≤ ·) H H' := fun hl h => h.mono fun x _ e => by omega
 intro m
 induction m with
 | zero =>
   intro n q H bl left lb hm hq htx h8 hlo ht hlb hr hl hbl k hk0 hk1
   cases n with
   | mk op tx nm l a => simp [cnt] at hm
   | nil =>
     obtain ⟨fp, h1, h2⟩ := hq.ex
     obtain ⟨rfl, _⟩ := h1
     refine cQb3 _ _ _ ?_
     unfold vQb3
     simp only [NilCk_some]
     refine jaf ((hr.cell 0).trans rfl) (Lt.mk (u := left - 1) (by rw [jac] <;> omega) (jay hr (by simp) fun H1 hU1 _ hr1 => ?_))
     refine Jn.mk (fun j H' => H1 = H' ∧ j = true) (fun kk hkk => (Br_true _ _).2 (hkk _ _ ⟨rfl, rfl⟩)) ?_
     rintro _ _ ⟨rfl, rfl⟩
     exact (Br_true _ _).2 (hk0 _ hU1 (by simp [jd0]))
 | succ m ih =>
   intro n q H bl left lb hm hq htx h8 hlo ht hlb hr hl hbl k hk0 hk1
   cases n with
   | nil =>
     obtain ⟨fp, h1, h2⟩ := hq.ex
     obtain ⟨rfl, _⟩ := h1
     refine cQb3 _ _ _ ?_
     unfold vQb3
     simp only [NilCk_some]
     refine jaf ((hr.cell 0).trans rfl) (Lt.mk (u := left - 1) (by rw [jac] <;> omega) (jay hr (by simp) fun H1 hU1 _ hr1 => ?_))
     refine Jn.mk (fun j H' => H1 = H' ∧ j = true) (fun kk hkk => (Br_true _ _).2 (hkk _ _ ⟨rfl, rfl⟩)) ?_
     rintro _ _ ⟨rfl, rfl⟩
     exact (Br_true _ _).2 (hk0 _ hU1 (by simp [jd0]))
   | mk op tx nm l a =>
   obtain ⟨c, L, rfl, na⟩ := hq.na
   have hcn : cnt (.mk op tx nm l a) = 1 + jaK l := by simp [cnt]
   refine cQb3 _ _ _ ?_
   unfold vQb3
   simp only [Option.map_some, NilCk_some, adr_add]
   have hcl := na.lt
   refine jaf ((hr.cell 0).trans rfl) (Lt.mk (u := left - 1) (by rw [jac] <;> omega) (jay hr (by simp) fun H1 hU1 _ hr1 => ?_))
   have hL1 := hU1
   have hr1 : Row H1 lb jcZ [.int .i64 (left - 1)] := hr1
   have n1 := na.upd (up hlb hL1)
   have hfit : jd0 bl left (.mk op tx nm l a) = (if left - 1 < 0 ∨ (op = 30 ∧ nm < 0) then none else
    match jcl op with
    | none => none
    | some (k, sl, more, m) =>
      if (if op = 5 then bl + 1 else bl) > 20 ∨ jaN k tx = false ∨ l.length < m ∨ (sl.length < l.length ∧ more = false) then none else
      match jcT (if op = 5 then bl + 1 else bl) (left - 1) sl l with
      | none => none
      | some lf => if je3 op l then some lf else none) := by
    rw [jd0]
    by_cases h0 : left - 1 < 0 ∨ (op = 30 ∧ nm < 0)
    ·rw [if_pos h0, if_pos h0]
    ·rw [if_neg h0, if_neg h0]
     cases jcl op with
     | none => rfl
     | some z =>
       obtain ⟨k', sl, more, m'⟩ := z
       dsimp only
       by_cases h5 : op = 5
       ·simp only [if_pos h5]
        split
        ·rfl
        ·cases jcT (bl + 1) (left - 1) sl l <;> rfl
       ·simp only [if_neg h5]
        split
        ·rfl
        ·cases jcT bl (left - 1) sl l <;> rfl
   refine Jn.mk (fun j H' => H1 = H' ∧ j = decide (left - 1 < 0 ∨ (op = 30 ∧ nm < 0))) (fun kk hkk => ?_) ?_
   ·refine (Br_false _ _).2 (jaf ((hr1.cell 0).trans rfl) (jaj (fun h => hkk _ _ ⟨rfl, (decide_eq_true (.inl h)).symm⟩) fun h => jaf n1.c0 ?_))
    by_cases e : op = 30
    ·exact jah e (jaf n1.c2 (hkk _ _ ⟨rfl, decide_eq_decide.2 ⟨fun g => .inr ⟨e, g⟩, fun g => g.elim (fun g => absurd g h) fun g => g.2⟩⟩))
    ·exact jai e (hkk _ _ ⟨rfl, (decide_eq_false fun g => g.elim h fun g => e g.1).symm⟩)
   rintro _ _ ⟨rfl, rfl⟩
   refine jaj (fun h0 => ?_) fun h0 => ?_
   ·rw [if_pos h0] at hfit
    exact hk0 _ hL1 hfit
   rw [if_neg h0] at hfit
   refine jaf n1.c0 ?_
   generalize hb5 : (if op = 5 then bl + 1 else bl) = b5 at hfit
   refine Jn.mk (fun j H' => H1 = H' ∧ j = b5) (fun kk hkk => ?_) ?_
   ·by_cases e : op = 5
    ·rw [if_pos e] at hb5
     exact jah e (Lt.mk (u := b5) (by rw [jac] <;> omega) (hkk _ _ ⟨rfl, rfl⟩))
    ·rw [if_neg e] at hb5
     exact jai e (hkk _ _ ⟨rfl, hb5⟩)
   rintro j5 _ ⟨rfl, hj5⟩
   rw [hj5]
   have hb5r : 0 ≤ b5 ∧ b5 ≤ 101 := by split at hb5 <;> omega
   refine jaf n1.c0 (jmU fun r H4 hE4 hF => ?_)
   refine jaq (vs := [.nilFunc, .slice none 0 0, .bool false, .int .i64 0]) fun b1 H5 hb1 hE5 _ hr5 => ?_
   unfold jfS at hF
   have hs4 := hE4.size
   have hs1 := hL1.size
   cases hfo : jcl op with
   | none =>
     rw [hfo] at hF hfit
     dsimp only at hF hfit
     -- no form
     subst hF
     dsimp only
     refine jlX (hone := rfl) hr5 fun H6 hU6 r6 => ?_
     refine jay r6 (by simp) fun H7 hU7 _ r7 => jay r7 (by simp) fun H8 hU8 _ r8 => jay r8 (by simp) fun H9 hU9 _ r9 => ?_
     have hL9 : Upd (· = lb) H H9 := upE (upE hL1 hE4) (jfM hE5 (by omega) (((hU6.trans hU7 fun _ _ e => e).trans hU8 fun _ _ e => e).trans hU9 fun _ _ e => e))
     refine Jn.mk (fun j H' => H9 = H' ∧ j = true) (fun kk hkk => (Br_true _ _).2 (hkk _ _ ⟨rfl, rfl⟩)) ?_
     rintro _ _ ⟨rfl, rfl⟩
     exact (Br_true _ _).2 (hk0 _ hL9 hfit)
   | some z =>
     obtain ⟨kd, sl, more, m'⟩ := z
     rw [hfo] at hF hfit
     dsimp only at hF hfit
     obtain ⟨hsr, hme, hm5, hsl5, hm2, hm4⟩ := jiM hfo
     obtain ⟨⟨fv, sL, mo, so⟩, ok⟩ := r
     obtain ⟨f1, f2, ⟨tb, f3⟩, f4, f5, f6, f7⟩ := hF
     dsimp only at f1 f2 f3 f4 f5 f6 f7
     subst f1 f6 f7
     dsimp only
     refine jlX (hone := f2) hr5 fun H6 hU6 r6 => ?_
     refine jay r6 (by simp) fun H7 hU7 _ r7 => jay r7 (by simp) fun H8 hU8 _ r8 => jay r8 (by simp) fun H9 hU9 _ r9 => ?_
     have r9 : Row H9 b1 jcp [fv, slV sL, .bool mo, .int .i64 (m' : Nat)] := r9
     have hUb : Upd (· = b1) H5 H9 := ((hU6.trans hU7 fun _ _ e => e).trans hU8 fun _ _ e => e).trans hU9 fun _ _ e => e
     have hE49 : Ext H4 H9 := jfM hE5 (by omega) hUb
     have hL9 : Upd (· = lb) H H9 := upE (upE hL1 hE4) hE49
     have n9 := na.upd (up hlb hL9)
     have hsL := f4.upd hE49 fun _ _ h => h
     have hlbr : Row H9 lb jcZ [.int .i64 (left - 1)] := hE49.row (hE4.row hr1 fun h => h) fun h => h
     have ht9 : TabH H9 := ht.nb hL9 (by show ¬ 0 = lb; omega)
     have hs9 := hL9.size
     -- the guard
     refine Jn.mk (fun j H' => Ext H9 H' ∧ j = decide (b5 > 20 ∨ jaN kd tx = false ∨ l.length < m' ∨ (sl.length < l.length ∧ mo = false))) (fun kk hkk => ?_) ?_
     ·refine (Br_false _ _).2 (jaj (fun h => hkk _ _ ⟨.refl _ _, (decide_eq_true (.inl h)).symm⟩) fun h => ?_)
      refine Ld.mk (c := .raw) fv ((r9.cell 0).trans rfl) (jap n9.c1 (jkr (f3.ext hE49 (.refl _ _) ht9 htx.1 fun H10 hE10 => ?_)))
      have r10 := hE10.row r9 fun h => h
      have n10 := n9.upd (EL hE10)
      refine Br.mk (fun e => hkk _ _ ⟨hE10, ?_⟩) fun e => ?_
      ·have e : jaN kd tx = false := by simpa using e
       exact (decide_eq_true (.inr (.inl e))).symm
      have e : jaN kd tx = true := by simpa using e
      refine jam n10.c3 (jaf ((r10.cell 3).trans rfl) (jaj (fun h3 => hkk _ _ ⟨hE10, (decide_eq_true (.inr (.inr (.inl (by rw [na.len] at h3; omega))))).symm⟩) fun h3 => ?_))
      rw [na.len] at h3
      refine jam n10.c3 (jam ((r10.cell 1).trans rfl) ?_)
      have hsLl : sL.len = sl.length := by rw [f4.len]; simp
      rw [na.len, hsLl]
      refine jaj (fun h4 => Ld_bool ((r10.cell 2).trans rfl) (hkk _ _ ⟨hE10, ?_⟩)) fun h4 => hkk _ _ ⟨hE10, ?_⟩
      ·rw [Bool.eq_iff_iff, decide_eq_true_eq, Bool.not_eq_true']
       exact ⟨fun g => .inr (.inr (.inr ⟨by omega, g⟩)), fun g => by
        rcases g with g | g | g | g
        ·exact absurd g h
        ·rw [e] at g; cases g
        ·omega
        ·exact g.2⟩
      ·symm; rw [decide_eq_false_iff_not]
       intro g; rcases g with g | g | g | g
       ·exact h g
       ·rw [e] at g; cases g
       ·omega
       ·omega
     rintro _ H10 ⟨hE10, rfl⟩
     have hL10 := upE hL9 hE10
     refine jaj (fun hg => ?_) fun hg => ?_
     ·rw [if_pos hg] at hfit
      exact hk0 _ hL10 hfit
     rw [if_neg hg] at hfit
     have n10 := na.upd (up hlb hL10)
     have hg1 : ¬ b5 > 20 := fun e => hg (.inl e)
     have hg3 : m' ≤ l.length := Nat.le_of_not_lt fun e => hg (.inr (.inr (.inl e)))
     have hg4 : l.length ≤ sl.length ∨ mo = true := by
      by_cases e : mo = true
      ·exact .inr e
      ·left; exact Nat.le_of_not_lt fun g => hg (.inr (.inr (.inr ⟨g, by simpa using e⟩)))
     refine jam n10.c3 ?_
     have hs10 := hL10.size
     have hb1lt : lo ≤ b1 := by omega
     have hl40 := htx.2.1
     -- the children
     refine LoopT.ghost (fun r (i : Int) H' => ∃ (j : Nat) (lf : Int), i = (j : Nat) ∧ j + r = l.length ∧ Upd (· = lb) H H' ∧ Row H' lb jcZ [.int .i64 lf] ∧ Row H' b1 jcp [fv, slV sL, .bool mo, .int .i64 (m' : Nat)] ∧ Vec H' jcZ sL (jeL sl) ∧ (0 ≤ lf ∧ lf ≤ 100000) ∧ (∀ n ∈ l.take j, okN n) ∧ jcT b5 (left - 1) sl l = jcT b5 lf (sl.drop (min j (sl.length - 1))) (l.drop j)) l.length
      ⟨0, left - 1, rfl, by omega, hL10, hE10.row hlbr fun h => h, hE10.row r9 fun h => h, hsL.upd hE10 fun _ _ h => h, by omega, fun n hn => (by simp at hn), by simp⟩ ?_
     rintro next r i H11 ⟨j, lf, rfl, hj, hL11, q11, r11, v11, hlf, hok, heq⟩ hnext
     have n11 := na.upd (up hlb hL11)
     have hs11 := hL11.size
     cases r with
     | zero =>
       have hjl : j = l.length := by omega
       subst hjl
       rw [List.take_length] at hok
       have hokL : okL l := jnp hok
       have : jcT b5 (left - 1) sl l = some lf := by rw [heq, List.drop_length, jcT]
       rw [this] at hfit
       dsimp only at hfit
       refine jbS (by rw [na.len]; omega) (jl1 n11 hokL (fun e => by have := hm2 e; omega) (fun e => by have := hm4 e; omega) fun H12 hE12 => ?_)
       cases hc : je3 op l with
       | true => rw [hc, if_pos rfl] at hfit; exact hk1 _ lf (upE hL11 hE12) hfit (hE12.row q11 fun h => h)
       | false => rw [hc] at hfit; exact hk0 _ (upE hL11 hE12) hfit
     | succ r =>
       have hjl : j < l.length := by omega
       have hget : l[j]? = some l[j] := List.getElem?_eq_getElem hjl
       have hdrop : l.drop j = l[j] :: l.drop (j + 1) := List.drop_eq_getElem_cons hjl
       have htake : l.take (j + 1) = l.take j ++ [l[j]] := by rw [List.take_add_one, hget]; rfl
       generalize l[j] = v at hget hdrop htake
       have hmem := ja5 hget
       have hvc := jaH hmem
       obtain ⟨ad, qx, ix, hlt, hcc, hlx⟩ := n11.ix j v hget
       refine ja1 (by rw [na.len]; omega) (ix rfl (jan hcc ?_))
       rw [hdrop, jk7] at heq
       have hsl0 : 1 ≤ sl.length := by
        rcases hg4 with g | g
        ·omega
        ·have := hme g
         cases sl with
         | nil => exact absurd rfl this
         | cons => simp
       refine Jn.mk (fun y H' => (y = true ∧ Upd (· = lb) H H' ∧ jcT b5 (left - 1) sl l = none) ∨ (y = false ∧ ∃ lf2, Upd (· = lb) H H' ∧ Row H' lb jcZ [.int .i64 lf2] ∧ Row H' b1 jcp [fv, slV sL, .bool mo, .int .i64 (m' : Nat)] ∧ Vec H' jcZ sL (jeL sl) ∧ (0 ≤ lf2 ∧ lf2 ≤ 100000) ∧ okN v ∧ jcT b5 (left - 1) sl l = jcT b5 lf2 (sl.drop (min (j + 1) (sl.length - 1))) (l.drop (j + 1)))) (fun kk hkk => ?_) ?_
       ·have hbne : b1 ≠ lb := by have := q11.lt; have := hr.lt; omega
        have hvne : ∀ c, sL.a = some (adr c) → c ≠ lb := fun c hc => by have := f5 c hc; have := hr1.lt; omega
        refine ih (by omega) hlx (jdu htx.2.2 v hmem) h8 (by omega) (ht.nb hL11 (by show ¬ 0 = lb; omega)) hlb q11 hlf ⟨hb5r.1, by omega⟩ (fun H12 hU12 hno => ?_) fun H12 lf2 hU12 hfi q12 => ?_
        ·rw [hno] at heq
         exact (Br_true _ _).2 (hkk _ _ (.inl ⟨rfl, upU hL11 hU12, heq⟩))
        ·rw [hfi] at heq
         dsimp only at heq
         obtain ⟨okv, _, hlf2, _⟩ := jfb hfi
         have hlf3 : lf = lf2 + cnt v := (jfb hfi).2.1
         have hL12 := upU hL11 hU12
         obtain ⟨op2, tx2, nm2, l2, a2, c2, L2, rfl, rfl, na2⟩ := (hlx.upd (up hlb hU12)).some' okv
         have r12 := hU12.row r11 hbne
         have v12 := v11.upd hU12 hvne
         refine (Br_false _ _).2 ?_
         simp only [Option.map_some, NilCk_some, adr_add]
         have hsLl : sL.len = sl.length := by rw [f4.len]; simp
         refine jaf na2.c0 (jam ((r12.cell 1).trans rfl) (jam ((r12.cell 1).trans rfl) (Lt.mk (u := ((sl.length - 1 : Nat) : Int)) (by rw [hsLl, jac] <;> omega) ?_)))
         have eidx : (if ((sl.length - 1 : Nat) : Int) < (j : Int) then ((sl.length - 1 : Nat) : Int) else (j : Int)) = ((min j (sl.length - 1) : Nat) : Int) := by split <;> omega
         rw [eidx]
         have hmin : min j (sl.length - 1) < sl.length := by omega
         refine jcc v12 (by omega) (by simp; omega) fun ad2 hc2 _ => ?_
         have hsort : sl[min j (sl.length - 1)]? = some sl[min j (sl.length - 1)] := List.getElem?_eq_getElem hmin
         have hhd : (sl.drop (min j (sl.length - 1))).headD 8 = sl[min j (sl.length - 1)] := by
          rw [jkx, List.getElem?_drop, Nat.add_zero, hsort]; rfl
         have hsrt := hsr _ (List.getElem_mem hmin)
         rw [hhd] at heq
         generalize sl[min j (sl.length - 1)] = sv at *
         have hc2 : jar H12 ad2 = some (.int .i64 sv) := hc2.trans (by simp [hsort])
         refine jaf hc2 (s_is hsrt (jdW ((r12.cell 1).trans rfl) ((r12.cell 1).trans rfl) ?_))
         cases hso : jaz op2 sv with
         | true =>
           have heq : jcT b5 (left - 1) sl l = if jaz op2 sv = true then jcT b5 lf2 (if (sl.drop (min j (sl.length - 1))).length ≤ 1 then sl.drop (min j (sl.length - 1)) else (sl.drop (min j (sl.length - 1))).tail) (l.drop (j + 1)) else none := heq
           rw [hso, if_pos rfl, jlT] at heq
           exact hkk _ _ (.inr ⟨rfl, lf2, hL12, q12, r12, v12, by omega, okv, heq⟩)
         | false =>
           have heq : jcT b5 (left - 1) sl l = if jaz op2 sv = true then jcT b5 lf2 (if (sl.drop (min j (sl.length - 1))).length ≤ 1 then sl.drop (min j (sl.length - 1)) else (sl.drop (min j (sl.length - 1))).tail) (l.drop (j + 1)) else none := heq
           rw [hso] at heq
           exact hkk _ _ (.inl ⟨rfl, hL12, heq⟩)
       ·rintro y H12 (⟨rfl, hL12, hno⟩ | ⟨rfl, lf2, hL12, q12, r12, v12, hlf2, hvok, heq2⟩)
        ·rw [hno] at hfit
         exact (Br_true _ _).2 (hk0 _ hL12 hfit)
        ·refine (Br_false _ _).2 (Lt.mk (u := ((j + 1 : Nat) : Int)) (by rw [jac] <;> omega) (hnext r _ _ (by omega) ⟨j + 1, lf2, rfl, by omega, hL12, q12, r12, v12, hlf2, fun n hn => ?_, heq2⟩))
         rw [htake] at hn
         rcases List.mem_append.1 hn with hn | hn
         ·exact hok n hn
         ·rw [List.mem_singleton.1 hn]; exact hvok
end
section
open Hc Hc.Lex Hc.Syn
variable {H : jaa}
structure GL (H : jaa) : Prop where
 ge : GE H.size H
 tab : TabH H
 pow : PowH H
theorem GL.ext {H' : jaa} (h : GL H) (hE : Ext H H') : GL H' := ⟨h.ge.up hE, h.tab.ext hE, h.pow.nb hE fun h => h⟩
theorem Tr_lt {n : Nd} {q : Option Nat} {fp : List Nat} (h : TrR jdY jbd H n q fp) {H' : jaa} (hE : Ext H H') : LN H.size H' n q := ⟨fp, h.upd hE fun _ _ h => h, fun x hx => h.lt x hx⟩
theorem fit_cnt {n : Nd} {bl left lf : Int} (h : jd0 bl left n = some lf) : (cnt n : Int) ≤ left := by
 obtain ⟨_, h1, h2, _⟩ := jfb h
 omega
theorem jke {l : List Nd} {i : Nat} {n : Nd} (h : l[i]? = some n) : (l.drop i).flatMap jaT = jaT n ++ (l.drop (i + 1)).flatMap jaT := by
 have hlt := (List.getElem?_eq_some_iff.1 h).1
 rw [List.drop_eq_getElem_cons hlt, show l[i] = n from (List.getElem?_eq_some_iff.1 h).2, List.flatMap_cons]
theorem jlq {f : Nd → Txt} : ∀ {l : List Nd}, (∀ n ∈ l, (f n).length ≤ 256 * cnt n) → (l.flatMap f).length ≤ 256 * jaK l := jev
theorem jiE (hg : GL H) {n : Nd} {q : Option Nat} {fp : List Nat} (hq : TrR jdY jbd H n q fp) (htx : jjH n) (hi : jcM n) {k : ByteArray → jaa → Prop} (hk : ∀ H', Ext H H' → k ⟨⟨jbX n⟩⟩ H') :
 CallT Pg fQca [pN q] (.one (.c .str)) H k := by
 refine cQb1 _ ?_
 unfold vQb1
 have h8 : 8 ≤ H.size := hg.ge.lt
 refine jaq (vs := [.int .i64 0]) fun b1 H1 hb1 hE1 hs1 hr1 => jay hr1 (by simp) fun H2 hU2 _ hr2 => ?_
 have hE2 : Ext H H2 := jfM hE1 (by omega) hU2
 have hs2 := hE2.size
 refine Jn.mk (fun j H' => Ext H H' ∧ j = !((jd0 0 100000 n).isSome && n.op == 1)) (fun kk hkk => ?_) ?_
 ·refine s_fits (lo := H.size) (cnt n) (Nat.le_refl _) (Tr_lt hq hE2) htx h8 (by omega) (hg.tab.ext hE2) (by omega) hr2 (by decide) (by decide) (fun H3 hU3 hf => (Br_true _ _).2 (hkk _ _ ⟨jfM hE2 (by omega) hU3, by rw [hf]; rfl⟩)) fun H3 lf hU3 hf _ => ?_
  have hE3 : Ext H H3 := jfM hE2 (by omega) hU3
  obtain ⟨op, tx, nm, l, a, c, L, rfl, rfl, na⟩ := (Tr_lt hq hE3).some' (jfb hf).1
  refine (Br_false _ _).2 ?_
  simp only [Option.map_some, NilCk_some]
  refine jaf na.c0 (hkk _ _ ⟨hE3, ?_⟩)
  rw [hf]; rfl
 ·rintro j H3 ⟨hE3, rfl⟩
  unfold jbX at hk
  cases hp : (jd0 0 100000 n).isSome && n.op == 1 with
  | false =>
    rw [hp] at hk
    exact (Br_true _ _).2 (hk _ hE3)
  | true =>
    rw [hp, if_pos rfl] at hk
    refine (Br_false _ _).2 ?_
    rw [Bool.and_eq_true, beq_iff_eq, Option.isSome_iff_exists] at hp
    obtain ⟨⟨lf, hf⟩, hop⟩ := hp
    have hcnt := fit_cnt hf
    obtain ⟨hok, _, _, hdp⟩ := jfb hf
    refine jaq (vs := [.pointer none, .slice none 0 0, .int .i64 0]) fun b2 H4 hb2 hE4 _ hr4 => ?_
    have hE34 := hE3.trans hE4 fun _ _ h => h
    have hs3 := hE3.size
    have hs4 := hE34.size
    obtain ⟨op, tx, nm, l, a, c, L, rfl, rfl, na⟩ := (Tr_lt hq hE34).some' hok
    have hop : op = 1 := hop
    subst hop
    obtain ⟨_, hall⟩ := ok1 hok
    have hcn : cnt (.mk 1 tx nm l a) = 1 + jaK l := by simp [cnt]
    have hle := jbw hok.2
    simp only [Option.map_some, NilCk_some, adr_add]
    have w0 : WR H.size H4 b2 [] 0 := ⟨⟨⟨.pointer none, ⟨none, 0, 0⟩, hr4, .inl rfl, Vec.nil _ _, (fun c hc => by cases hc), fun _ => rfl⟩, by omega⟩, h8, hs4, hg.pow.nb hE34 fun h => h⟩
    have hdl : dpL l ≤ 20 := by
     have := hdp (by decide)
     simp only [dpN] at this
     rw [if_neg (by decide)] at this; omega
    have hlen : ∀ v ∈ l, (jaT v).length ≤ 256 * cnt v := fun v hv => by
     refine jgv (hall v hv).1 (jaE hi.2 v hv) (hall v hv).2 ?_
     have : ∀ {l : List Nd} {v : Nd}, v ∈ l → dpN v ≤ dpL l := fun {l} => by
      induction l with
      | nil => intro v h; cases h
      | cons x xs ih =>
        intro v h
        rcases List.mem_cons.1 h with rfl | h
        ·simp only [dpL]; omega
        ·have := ih h; simp only [dpL]; omega
     have := this hv
     omega
    have htot := jlq hlen
    refine jam na.c3 ?_
    refine LoopT.ghost (fun r (i : Int) H' => ∃ (j : Nat) (pr : Txt), i = (j : Nat) ∧ j + r = l.length ∧ Upd (H.size ≤ ·) H4 H' ∧ WR H.size H' b2 pr 0 ∧ pr ++ (l.drop j).flatMap jaT = l.flatMap jaT) l.length
     ⟨0, [], rfl, by omega, .refl _ _, w0, by simp⟩ ?_
    rintro next r i H5 ⟨j, pr, rfl, hj, hU5, h5, heq⟩ hnext
    have n5 := na.upd hU5
    have hlq := congrArg List.length heq
    rw [List.length_append] at hlq
    have hE5 : Ext H H5 := hE34.trans hU5 fun x hx e => by omega
    cases r with
    | zero =>
      refine jbS (by rw [na.len]; omega) (jlK h5.w (by omega) fun H6 hU6 => ?_)
      have ed : l.drop j = [] := List.drop_eq_nil_of_le (by omega)
      rw [ed] at heq
      have et : pr = l.flatMap jaT := by simpa using heq
      rw [et]
      exact hk _ (hE5.trans hU6 fun x hx e => by omega)
    | succ r =>
      have hjl : j < l.length := by omega
      have hget : l[j]? = some l[j] := List.getElem?_eq_getElem hjl
      generalize l[j] = v at hget
      have hmem := ja5 hget
      have hvc := jaH hmem
      obtain ⟨hvo, hvop⟩ := hall v hmem
      obtain ⟨ad, qx, ix, hlt, hcc, hlx⟩ := n5.ix j v hget
      rw [jke hget] at heq hlq
      rw [List.length_append] at hlq
      refine ja1 (by rw [na.len]; omega) (ix rfl (jan hcc ?_))
      refine w_thing (by omega) hvo (jaE hi.2 v hmem) hvop hlx h5 (by omega) fun H6 hU6 h6 => ?_
      refine Lt.mk (u := ((j + 1 : Nat) : Int)) (by rw [jac] <;> omega) (hnext r _ _ (by omega) ⟨j + 1, _, rfl, by omega, upL hU5 hU6, h6, ?_⟩)
      rw [← heq, List.append_assoc]
end
section
open Hc
theorem jfu {P : Program} {w : World} {n : String} {d : DataW Unit} : ∀ {l : List (String × DataW Unit)} {ps : List MemPlace}, DataW.LaidVars P w l ps → (n, d) ∈ l →
 ∃ g t cs fuel p, P.globalNamed n = some g ∧ (P.globals[g]?).map (·.type) = some t ∧ w.var? P n = some cs ∧ DataW.trod (fun _ => ()) P w 0 (fun _ => true) false fuel t cs.toList = some (d, p)
 | (m, e) :: r, ps, ⟨g, t, cs, fuel, p, q, h1, h2, h3, h4, h5, _⟩, h => by
   rcases List.mem_cons.1 h with h | h
   ·cases h; exact ⟨g, t, cs, fuel, p, h1, h2, h3, h4⟩
   ·exact jfu h5 h
theorem gErr : Tryz.prog.globalNamed "strconv.ErrRange" = some 3 := by kernel_rfl
theorem gErrT : (Tryz.prog.globals[3]?).map (·.type) = some 25 := by kernel_rfl
theorem gErrU : ∃ ms, Tryz.prog.underlying 25 = some (.interface ms) := ⟨_, Tryz.underlying25⟩
theorem gMax : ((begin Tryz.prog (fun _ _ => 0) default).world.heap[1]?).bind Obj.row? = some (#[.int .i64 0], 3) := by kernel_rfl
theorem gTop : ∃ z t, ((begin Tryz.prog (fun _ _ => 0) default).world.heap[8]?).bind Obj.row? = some (z, t) := ⟨#[.pointer none], 190, by kernel_rfl⟩
theorem ge_of {W : World} {laid : List (String × DataW Unit)} (hp : (laid.all fun x => x.2.handleName?.isNone) = true) (hm : ("strconv.ErrRange", Rows.laid_strconv_ErrRange) ∈ laid) (hl : laidMetH Tryz.prog laid W) (hs : W.ShapedOpen Tryz.prog) :
 GE W.heap.size W.heap := by
 rw [MakeChecks.laidMetH_plain _ _ _ hp] at hl
 obtain ⟨ps, hl, _⟩ := hl
 obtain ⟨g, t, cs, fuel, p, h1, h2, h3, h4⟩ := jfu hl hm
 obtain rfl := Option.some.inj (gErr.symm.trans h1)
 obtain rfl := Option.some.inj (gErrT.symm.trans h2)
 obtain ⟨ms, hu⟩ := gErrU
 obtain ⟨_, u, v, hc, _, _⟩ := iface_of_trod hu h4
 have jar := World.var?_cell gErr h3 0
 have hcs : cs = #[.iface u v] := by apply Array.ext'; exact hc
 subst hcs
 obtain ⟨m, hm⟩ := cell_of_shapedOpen_int (g := 1) (k := .i64) hs (by decide +kernel) gMax rfl (by kernel_rfl) (by kernel_rfl) Tryz.underlying3
 refine ⟨?_, ⟨m, ?_⟩, ⟨.iface u v, ?_, .inr ⟨u, v, rfl⟩⟩⟩
 ·obtain ⟨z, t, hz⟩ := gTop
  obtain ⟨cs, hh, _⟩ := hs.1 8 z t (by decide +kernel) hz
  exact Nat.le_of_lt (jcj hh)
 ·rw [← cell?_eq]; exact hm
 ·rw [← cell?_eq, jar]; rfl
theorem jmb : (Rows.laid_strings_asciiSpace : DataW Unit) = Lib.tabData .u8 Lib.asciiSpaceTab := by kernel_rfl
theorem powTab : (Rows.laid_internal_strconv_uint64pow10 : DataW Unit) = Lib.tabData .u64 Lib.pow10Tab := by kernel_rfl
theorem gAsciiN : Tryz.prog.globalNamed "strings.asciiSpace" = some 0 := by kernel_rfl
theorem gAsciiT : (Tryz.prog.globals[0]?).map (·.type) = some 173 := by kernel_rfl
theorem gPowT : (Tryz.prog.globals[5]?).map (·.type) = some 218 := by kernel_rfl
theorem tab_of {W : World} {laid : List (String × DataW Unit)} (hp : (laid.all fun x => x.2.handleName?.isNone) = true) (hm : ("strings.asciiSpace", Rows.laid_strings_asciiSpace) ∈ laid) (hl : laidMetH Tryz.prog laid W) : TabH W.heap := by
 rw [MakeChecks.laidMetH_plain _ _ _ hp] at hl
 obtain ⟨ps, hl, _⟩ := hl
 obtain ⟨g, t, cs, fuel, p, h1, h2, h3, h4⟩ := jfu hl hm
 obtain rfl := Option.some.inj (gAsciiN.symm.trans h1)
 obtain rfl := Option.some.inj (gAsciiT.symm.trans h2)
 rw [jmb] at h4
 have hcs := Lib.cells_of_tab Tryz.underlying173 Tryz.underlying5 (by kernel_rfl) (by kernel_rfl) h4
 unfold World.var? at h3
 rw [gAsciiN, Option.bind_some] at h3
 split at h3
 ·rename_i cs' ty fr hh
  cases h3
  exact ⟨ty, fr, by rw [hh, ← hcs]⟩
 ·cases h3
theorem pow_of {W : World} {laid : List (String × DataW Unit)} (hp : (laid.all fun x => x.2.handleName?.isNone) = true) (hm : ("internal/strconv.uint64pow10", Rows.laid_internal_strconv_uint64pow10) ∈ laid) (hl : laidMetH Tryz.prog laid W) : PowH W.heap := by
 rw [MakeChecks.laidMetH_plain _ _ _ hp] at hl
 obtain ⟨ps, hl, _⟩ := hl
 obtain ⟨g, t, cs, fuel, p, h1, h2, h3, h4⟩ := jfu hl hm
 obtain rfl := Option.some.inj (g5.symm.trans h1)
 obtain rfl := Option.some.inj (gPowT.symm.trans h2)
 rw [powTab] at h4
 have hcs := Lib.cells_of_tab Tryz.underlying218 Tryz.underlying132 (by kernel_rfl) (by kernel_rfl) h4
 unfold World.var? at h3
 rw [g5, Option.bind_some] at h3
 split at h3
 ·rename_i cs' ty fr hh
  cases h3
  exact ⟨ty, fr, by rw [hh, ← hcs]⟩
 ·cases h3
theorem gl_of {W : World} {laid : List (String × DataW Unit)} (hp : (laid.all fun x => x.2.handleName?.isNone) = true) (h1 : ("strconv.ErrRange", Rows.laid_strconv_ErrRange) ∈ laid) (h2 : ("strings.asciiSpace", Rows.laid_strings_asciiSpace) ∈ laid) (h3 : ("internal/strconv.uint64pow10", Rows.laid_internal_strconv_uint64pow10) ∈ laid) (hl : laidMetH Tryz.prog laid W) (hs : W.ShapedOpen Tryz.prog) : GL W.heap :=
 ⟨ge_of hp h1 hl hs, tab_of hp h2 hl, pow_of hp h3 hl⟩
end
end Go.Proofs.YtfpmgpblhhcpgaaGreatDoor
namespace Go.Proofs.YtfpmgpblhhcpgaaGreatDoor.Hc.Syn
set_option maxRecDepth 100000
section
open Go Hc Hc.Lex
mutual
def era : Nd → Nd
 | .nil => .nil
 | .mk op tx nm l _ => .mk op tx nm (eraL l) 0
def eraL : List Nd → List Nd
 | [] => []
 | n :: ns => era n :: eraL ns
end
mutual
theorem jnw : ∀ {n : Nd} {bl left : Int}, okN n → (cnt n : Int) ≤ left → bl + dpN n ≤ 20 → jd0 bl left n = some (left - cnt n)
 | .nil, _, _, h, _, _ => h.elim
 | .mk op tx nm l a, bl, left, h, hc, hd => by
   obtain ⟨⟨k, sl, more, m, hf, ht, hm, hn, hs⟩, hcls, h30⟩ := h.1
   simp only [cnt] at hc ⊢
   simp only [dpN] at hd
   unfold jd0
   rw [if_neg (by rintro (g | ⟨g, g2⟩); · omega
                  ·have := h30 g; omega), hf]
   dsimp only
   rw [if_neg (by
    rintro (g | g | g | ⟨g, g2⟩)
    ·split at g <;> rename_i e5
     ·rw [if_pos e5] at hd; omega
     ·rw [if_neg e5] at hd; omega
    ·rw [ht] at g; cases g
    ·omega
    ·rcases hn with q | q
     ·omega
     ·rw [q] at g2; cases g2)]
   rw [jlW h.2 (by omega) (by
    split <;> rename_i e5
    ·rw [if_pos e5] at hd; omega
    ·rw [if_neg e5] at hd; omega) hs]
   dsimp only
   rw [if_pos hcls]
   congr 1; omega
theorem jlW : ∀ {l : List Nd} {bl left : Int} {sl : List Int}, okL l → (jaK l : Int) ≤ left → bl + dpL l ≤ 20 → jnm sl l → jcT bl left sl l = some (left - jaK l)
 | [], _, _, _, _, _, _, _ => by unfold jcT; simp [jaK]
 | n :: l, bl, left, sl, h, hc, hd, hs => by
   simp only [jaK] at hc ⊢
   simp only [dpL] at hd
   unfold jcT
   rw [jnw h.1 (by omega) (by omega)]
   dsimp only
   rw [if_pos hs.1, jlW h.2 (by omega) (by omega) hs.2]
   congr 1; omega
end
end
section
open Go Hc Hc.Lex
def je7 : Nat → Nd
 | 0 => .mk 30 [] 1 [] 0
 | n + 1 => .mk 33 [43] 0 [je7 n, je7 n] 0
def jjb (x : Nd) : Nd := .mk 1 [] 0 [.mk 4 [102] 0 [.mk 3 [102, 117, 110, 99] 0 [] 0, .mk 5 [] 0 [.mk 22 [] 0 [x] 0] 0] 0] 0
theorem jlr (n : Nat) : jaz (je7 n).op 3 = true := by cases n <;> rfl
theorem jk8 : ∀ n, okN (je7 n)
 | 0 => ⟨⟨⟨0, [], false, 0, rfl, rfl, Nat.le_refl _, .inl (Nat.le_refl _), trivial⟩, rfl, fun _ => by decide⟩, trivial⟩
 | n + 1 => ⟨⟨⟨3, [3, 3], false, 2, rfl, by kernel_rfl, Nat.le_refl _, .inl (Nat.le_refl _), jlr n, jlr n, trivial⟩, rfl, fun h => by cases h⟩, jk8 n, jk8 n, trivial⟩
theorem jiF : ∀ n, cnt (je7 n) + 1 = 2 ^ (n + 1)
 | 0 => rfl
 | n + 1 => by
   have := jiF n
   simp only [je7, cnt, jaK]
   rw [Nat.pow_succ]; omega
theorem jnB : ∀ n, dpN (je7 n) = 0
 | 0 => rfl
 | n + 1 => by simp [je7, dpN, dpL, jnB n]
theorem jjm : ∀ n, jcM (je7 n)
 | 0 => ⟨by omega, trivial⟩
 | n + 1 => ⟨by omega, jjm n, jjm n, trivial⟩
theorem dblP_ok (n : Nat) : okN (jjb (je7 n)) :=
 ⟨⟨⟨0, [8], true, 0, rfl, rfl, Nat.zero_le _, .inl (Nat.le_refl _), rfl, trivial⟩, rfl, fun h => by cases h⟩,
  ⟨⟨⟨1, [0, 1], false, 2, rfl, by kernel_rfl, Nat.le_refl _, .inl (Nat.le_refl _), rfl, rfl, trivial⟩, by kernel_rfl, fun h => by cases h⟩,
   ⟨⟨⟨2, [6], true, 0, rfl, by kernel_rfl, Nat.zero_le _, .inl (Nat.zero_le _), trivial⟩, rfl, fun h => by cases h⟩, trivial⟩,
   ⟨⟨⟨0, [2], true, 0, rfl, rfl, Nat.zero_le _, .inl (Nat.le_refl _), rfl, trivial⟩, rfl, fun h => by cases h⟩,
    ⟨⟨⟨0, [3], false, 1, rfl, rfl, Nat.le_refl _, .inl (Nat.le_refl _), jlr n, trivial⟩, rfl, fun h => by cases h⟩, jk8 n, trivial⟩, trivial⟩, trivial⟩, trivial⟩
theorem jj0 (n : Nat) : cnt (jjb (je7 n)) = cnt (je7 n) + 5 := by simp only [jjb, cnt, jaK]; omega
theorem dblP_dp (n : Nat) : dpN (jjb (je7 n)) = 1 := by simp [jjb, dpN, dpL, jnB]
theorem jmp (n : Nat) : jcM (jjb (je7 n)) := ⟨by omega, ⟨by omega, ⟨by omega, trivial⟩, ⟨by omega, ⟨by omega, jjm n, trivial⟩, trivial⟩, trivial⟩, trivial⟩
theorem dbl_few : jbX (jjb (je7 2)) = [102, 117, 110, 99, 32, 102, 40, 41, 32, 123, 10, 9, 114, 101, 116, 117, 114, 110, 32, 49, 32, 43, 32, 49, 32, 43, 32, 40, 49, 32, 43, 32, 49, 41, 59, 10, 125, 10] := by kernel_rfl
theorem jmf : jbX (jjb (je7 15)) ≠ [] := by
 have hc : cnt (jjb (je7 15)) = 65540 := by
  have := jiF 15
  rw [jj0]
  have : 2 ^ (15 + 1) = 65536 := rfl
  omega
 have hf := jnw (bl := 0) (left := 100000) (dblP_ok 15) (by rw [hc]; decide) (by rw [dblP_dp]; decide)
 unfold jbX
 rw [hf]
 intro h
 have : (([102, 117, 110, 99, 32] : Txt) ++ ([102] ++ (40 :: (jb1 [] ++ [41])))) ++ (jcG 0 (.mk 5 [] 0 [.mk 22 [] 0 [je7 15] 0] 0) ++ [10]) = [] := (List.append_eq_nil_iff.1 h).1
 cases this
theorem jm2 : jbX (jjb (je7 16)) = [] := by
 unfold jbX
 cases hf : jd0 0 100000 (jjb (je7 16)) with
 | none => rfl
 | some lf =>
   obtain ⟨_, h1, h2, _⟩ := jfb hf
   have := jiF 16
   rw [jj0] at h1
   have : 2 ^ (16 + 1) = 131072 := rfl
   omega
end
section
open Go Hc
variable {H H' : jaa}
abbrev TaV := Int × ByteArray × Int × Sl × Int
abbrev taC (v : TaV) : List Value := [.int .i64 v.1, .string v.2.1, .int .i64 v.2.2.1, slV v.2.2.2.1, .int .i64 v.2.2.2.2]
mutual
def TaR (H : jaa) : Nd → TaV → Prop
 | .nil, _ => False
 | .mk op tx nm l a, v => v.1 = op ∧ v.2.1 = ⟨⟨tx⟩⟩ ∧ v.2.2.1 = nm ∧ v.2.2.2.2 = a ∧ I64 nm ∧ tx.length ≤ 2 ^ 47 ∧ v.2.2.2.1.len = l.length ∧ l.length ≤ 2 ^ 47 ∧ TaL H l v.2.2.2.1.a 0
def TaL (H : jaa) : List Nd → Option Addr → Nat → Prop
 | [], _, _ => True
 | n :: ns, a, i => (∃ ad v, a = some ad ∧ jaR H (ad.add (i * 5)) 0 (taC v) ∧ TaR H n v) ∧ TaL H ns a (i + 1)
end
mutual
theorem TaR.ext (hE : Ext H H') : ∀ {n : Nd} {v : TaV}, TaR H n v → TaR H' n v
 | .nil, _, h => h
 | .mk .., _, ⟨h1, h2, h3, h4, h5, h6, h7, h8, h9⟩ => ⟨h1, h2, h3, h4, h5, h6, h7, h8, h9.ext hE⟩
theorem TaL.ext (hE : Ext H H') : ∀ {l : List Nd} {a : Option Addr} {i : Nat}, TaL H l a i → TaL H' l a i
 | [], _, _, _ => trivial
 | n :: ns, _, _, ⟨⟨ad, v, h1, h2, h3⟩, h4⟩ => ⟨⟨ad, v, h1, jaZ hE (fun h => h) h2, h3.ext hE⟩, h4.ext hE⟩
end
theorem TaL.get : ∀ {l : List Nd} {a : Option Addr} {i : Nat}, TaL H l a i → ∀ j, j < l.length → ∃ ad v, a = some ad ∧ jaR H (ad.add ((i + j) * 5)) 0 (taC v) ∧ TaR H l[j]! v
 | [], _, _, _, j, hj => by simp at hj
 | n :: ns, a, i, ⟨⟨ad, v, h1, h2, h3⟩, h4⟩, j, hj => by
   cases j with
   | zero => exact ⟨ad, v, h1, h2, by simpa using h3⟩
   | succ j =>
     obtain ⟨ad, v, g1, g2, g3⟩ := TaL.get h4 j (by simpa using hj)
     refine ⟨ad, v, g1, by rw [show i + (j + 1) = i + 1 + j by omega]; exact g2, by simpa using g3⟩
theorem TaR.some {n : Nd} {v : TaV} (h : TaR H n v) : ∃ op tx nm l a L, n = .mk op tx nm l a ∧ v = (op, ⟨⟨tx⟩⟩, nm, L, a) ∧ I64 nm ∧ tx.length ≤ 2 ^ 47 ∧ L.len = l.length ∧ l.length ≤ 2 ^ 47 ∧ TaL H l L.a 0 := by
 cases n with
 | nil => exact h.elim
 | mk op tx nm l a =>
   obtain ⟨v1, v2, v3, v4, v5⟩ := v
   obtain ⟨h1, h2, h3, h4, h5, h6, h7, h8, h9⟩ := h
   dsimp only at h1 h2 h3 h4 h7 h9
   subst h1 h2 h3 h4
   exact ⟨_, _, _, _, _, _, rfl, rfl, h5, h6, h7, h8, h9⟩
theorem ta_of {P : Program} {tT tS tB tL tI : TypeId} {f0 f1 f2 f3 f4 : Field} (hu : P.underlying tT = some (.struct #[f0, f1, f2, f3, f4])) (e0 : f0.type = tI ∧ f0.offset = 0) (e1 : f1.type = tS ∧ f1.offset = 1) (e2 : f2.type = tB ∧ f2.offset = 2) (e3 : f3.type = tL ∧ f3.offset = 3) (e4 : f4.type = tI ∧ f4.offset = 4)
 (hI : P.underlying tI = some (.int .i64)) (hB : P.underlying tB = some (.int .i64)) (hS : P.underlying tS = some .string) (hL : P.underlying tL = some (.slice tT)) (cI : P.cellsOf tI = 1) (cS : P.cellsOf tS = 1) (cB : P.cellsOf tB = 1) (cL : P.cellsOf tL = 1) (cT : P.cellsOf tT = 5) (bT : 1 ≤ P.bytesOf tT) :
 ∀ (F f : Nat), f ≤ F → ∀ {cs : List Value}, RdC P H f tT cs → ∃ n v, cs = taC v ∧ TaR H n v := by
 intro F
 induction F with
 | zero =>
   intro f hf cs h
   have : f = 0 := by omega
   subst this; exact h.elim
 | succ F ih =>
   intro f hf cs h
   cases f with
   | zero => exact h.elim
   | succ f =>
   simp only [RdC, hu] at h
   obtain ⟨hlen, hall⟩ := h
   rw [cT] at hlen
   match cs, hlen with
   | [c0, c1, c2, c3, c4], _ =>
   have g0 := hall f0 (by simp)
   have g1 := hall f1 (by simp)
   have g2 := hall f2 (by simp)
   have g3 := hall f3 (by simp)
   have g4 := hall f4 (by simp)
   rw [e0.1, e0.2, cI] at g0
   rw [e1.1, e1.2, cS] at g1
   rw [e2.1, e2.2, cB] at g2
   rw [e3.1, e3.2, cL] at g3
   rw [e4.1, e4.2, cI] at g4
   simp only [List.drop_zero, List.drop_succ_cons, List.take_succ_cons, List.take_zero] at g0 g1 g2 g3 g4
   obtain ⟨op, h0, _⟩ := jjl hI g0
   obtain ⟨nm, h2, i2⟩ := jjl hB g2
   obtain ⟨a, h4, _⟩ := jjl hI g4
   cases f with
   | zero => exact g1.elim
   | succ f =>
   simp only [RdC, hS] at g1
   obtain ⟨s, h1, hsz⟩ := g1
   simp only [RdC, hL] at g3
   simp only [List.cons.injEq, and_true] at h0 h1 h2 h4
   subst h0 h1 h2 h4
   obtain ⟨⟨tx⟩⟩ := s
   have hrb : reachBytes ≤ 2 ^ 47 := by decide
   have hs47 : tx.length ≤ 2 ^ 47 := Nat.le_trans hsz hrb
   rcases g3 with h3 | ⟨ad, len, cap, h3, hlc, ⟨_, hcap⟩, hel⟩
   ·simp only [List.cons.injEq, and_true] at h3
    subst h3
    exact ⟨.mk op tx nm [] a, (op, ⟨⟨tx⟩⟩, nm, ⟨none, 0, 0⟩, a), rfl, rfl, rfl, rfl, rfl, i2, hs47, rfl, by simp, trivial⟩
   ·simp only [List.cons.injEq, and_true] at h3
    subst h3
    have key : ∀ m i, i + m = len → ∃ l : List Nd, l.length = m ∧ TaL H l (some ad) i := by
     intro m
     induction m with
     | zero => intro i _; exact ⟨[], rfl, trivial⟩
     | succ m ihm =>
       intro i hi
       obtain ⟨l, hl1, hl2⟩ := ihm (i + 1) (by omega)
       obtain ⟨xs, _, hx2, hx3⟩ := hel i (by omega)
       obtain ⟨n, v, rfl, hn⟩ := ih f (by omega) hx3
       rw [cT] at hx2
       exact ⟨n :: l, by simp [hl1], ⟨ad, v, rfl, hx2, hn⟩, hl2⟩
    obtain ⟨l, hl1, hl2⟩ := key len 0 (by omega)
    have hb : len ≤ 2 ^ 47 := by
     have h5 : cap * 1 ≤ cap * P.bytesOf tT := Nat.mul_le_mul_left _ bT
     omega
    exact ⟨.mk op tx nm l a, (op, ⟨⟨tx⟩⟩, nm, ⟨some ad, len, cap⟩, a), rfl, rfl, rfl, rfl, rfl, i2, hs47, hl1.symm, by omega, hl2⟩
mutual
def cW : Nd → Nat
 | .nil => 0
 | .mk _ tx _ l _ => 1 + tx.length + cWL l
def cWL : List Nd → Nat
 | [] => 0
 | n :: ns => cW n + cWL ns
end
mutual
def fcN : Nd → Nd
 | .nil => .nil
 | .mk op tx nm l a => if op < 0 then .nil else .mk op tx nm (fcL l) a
def fcL : List Nd → List Nd
 | [] => []
 | n :: ns => fcN n :: fcL ns
end
theorem jeS : ∀ l : List Nd, (fcL l).length = l.length
 | [] => rfl
 | _ :: l => by simp [fcL, jeS l]
theorem jlo : ∀ {l : List Nd} {j : Nat}, j < l.length → (fcL l)[j]! = fcN l[j]!
 | [], j, h => by simp at h
 | n :: l, 0, _ => by simp [fcL]
 | n :: l, j + 1, h => by
   have := jlo (l := l) (j := j) (by simpa using h)
   simpa [fcL] using this
theorem jgX : ∀ {l : List Nd} {j : Nat}, j < l.length → fcL (l.take (j + 1)) = fcL (l.take j) ++ [fcN l[j]!]
 | [], j, h => by simp at h
 | n :: l, 0, _ => by simp [fcL]
 | n :: l, j + 1, h => by
   have := jgX (l := l) (j := j) (by simpa using h)
   simpa [fcL] using this
theorem jhp : ∀ {l : List Nd} {j : Nat}, j < l.length → cW l[j]! + cWL (l.take j) = cWL (l.take (j + 1)) ∧ cWL (l.take (j + 1)) ≤ cWL l
 | [], j, h => by simp at h
 | n :: l, 0, _ => by simp [cWL]
 | n :: l, j + 1, h => by
   have := jhp (l := l) (j := j) (by simpa using h)
   simp only [List.take_succ_cons, cWL, List.getElem!_cons_succ]
   omega
theorem TaR.pos {n : Nd} {v : TaV} (h : TaR H n v) : 1 ≤ cW n := by
 obtain ⟨op, tx, nm, l, a, _, rfl, _⟩ := h.some
 simp only [cW]; omega
theorem TaL.len : ∀ {l : List Nd} {a : Option Addr} {i : Nat}, TaL H l a i → l.length ≤ cWL l
 | [], _, _, _ => Nat.le_refl _
 | n :: ns, _, _, ⟨⟨_, _, _, _, h3⟩, h4⟩ => by
   have := h3.pos; have := TaL.len h4
   simp only [List.length_cons, cWL]; omega
mutual
theorem TaR.i64 : ∀ {n : Nd} {v : TaV}, TaR H n v → jcM (fcN n)
 | .nil, _, h => h.elim
 | .mk op tx nm l a, v, ⟨_, _, _, _, h5, _, _, _, h9⟩ => by
   unfold fcN
   split
   ·trivial
   ·exact ⟨by unfold I64 at h5; omega, h9.i64⟩
theorem TaL.i64 : ∀ {l : List Nd} {a : Option Addr} {i : Nat}, TaL H l a i → jl5 (fcL l)
 | [], _, _, _ => trivial
 | n :: ns, _, _, ⟨⟨_, _, _, _, h3⟩, h4⟩ => ⟨h3.i64, h4.i64⟩
end
end
end Go.Proofs.YtfpmgpblhhcpgaaGreatDoor.Hc.Syn
namespace Go.Proofs.YtfpmgpblhhcpgaaGreatDoor
set_option maxRecDepth 100000
section
open Hc
abbrev TQao : TypeId := 28
abbrev TQap : TypeId := 67
abbrev TQaq : TypeId := 64
abbrev fQc5 : FuncId := 9
abbrev fQc6 : FuncId := 26
abbrev fQc7 : FuncId := 27
abbrev fQc8 : FuncId := 28
abbrev fQc9 : FuncId := 29
abbrev fQda : FuncId := 30
abbrev fQdb : FuncId := 53
abbrev fQdc : FuncId := 54
abbrev fQdd : FuncId := 55
abbrev fQde : FuncId := 56
abbrev fQdf : FuncId := 57
abbrev fQdg : FuncId := 86
abbrev fQdh : FuncId := 87
abbrev fQdi : FuncId := 88
abbrev fQdj : FuncId := 100
abbrev fQdk : FuncId := 119
abbrev fQdl : FuncId := 120
abbrev fQdm : FuncId := 121
abbrev fQdn : FuncId := 122
abbrev fQdo : FuncId := 123
abbrev fQdp : FuncId := 124
abbrev fQdq : FuncId := 146
abbrev fQdr : FuncId := 147
abbrev fQds : FuncId := 172
abbrev fQdt : FuncId := 173
abbrev fQdu : FuncId := 190
abbrev fQdv : FuncId := 196
abbrev fQdw : FuncId := 197
abbrev fQdx : FuncId := 198
def vQcu  (H : jaa) (k : Sl → jaa → Prop) : Prop :=
 Nw #[.string (⟨#[124, 124]⟩ : ByteArray)] jcC H fun b1 H1 =>
 Nw #[.string (⟨#[38, 38]⟩ : ByteArray)] jcC H1 fun b2 H2 =>
 Nw #[.string (⟨#[61, 61]⟩ : ByteArray), .string (⟨#[33, 61]⟩ : ByteArray)] jcC H2 fun b3 H3 =>
 Nw #[.string (⟨#[60]⟩ : ByteArray), .string (⟨#[60, 61]⟩ : ByteArray), .string (⟨#[62]⟩ : ByteArray), .string (⟨#[62, 61]⟩ : ByteArray)] jcC H3 fun b4 H4 =>
 Nw #[.string (⟨#[43]⟩ : ByteArray), .string (⟨#[45]⟩ : ByteArray)] jcC H4 fun b5 H5 =>
 Nw #[.string (⟨#[42]⟩ : ByteArray), .string (⟨#[47]⟩ : ByteArray), .string (⟨#[37]⟩ : ByteArray)] jcC H5 fun b6 H6 =>
 Nw #[.slice (some (adr b1)) 1 1, .slice (some (adr b2)) 1 1, .slice (some (adr b3)) 2 2, .slice (some (adr b4)) 4 4, .slice (some (adr b5)) 2 2, .slice (some (adr b6)) 3 3] TQai H6 fun b7 H7 =>
 k ⟨some (adr b7), 6, 6⟩ H7
def jhz : Hint := .no
theorem cQcu  {H : jaa} {k : Sl → jaa → Prop} (h : vQcu  H k) : CallT Pg fQdj [] (.one (.c .sl)) H k := cE jad jhz Tryz.func100 h
def vQcv (s_ : ByteArray) (H : jaa) (k : Bool → jaa → Prop) : Prop :=
 CallT Pg fQb5 [] (.one (.c .sl)) H fun (r1 : Sl) H1 =>
 LoopT (σ := Int) (fun next1 s1 H2 =>
 Br (decide (s1 < (r1.len : Int))) (
 IxA 1 r1 s1 fun a1 =>
 Ld .str a1 H2 fun (x1 : ByteArray) =>
 Br (x1.toList == s_.toList) (
 k true H2) (
 Lt (IntKind.wrap .i64 (s1 + 1)) fun t1 =>
 next1 t1 H2)) (
 k false H2)) 0 H1
def jgY : Hint := (hq (hq (.two (hq (.one (.loop [(4, (.c (.int .i64)))] .no))) .no)))
theorem cQcv (s_ : ByteArray) {H : jaa} {k : Bool → jaa → Prop} (h : vQcv s_ H k) : CallT Pg fQdk [.string s_] (.one (.c .bool)) H k := cE jad jgY Tryz.func119 h
end
end Go.Proofs.YtfpmgpblhhcpgaaGreatDoor
