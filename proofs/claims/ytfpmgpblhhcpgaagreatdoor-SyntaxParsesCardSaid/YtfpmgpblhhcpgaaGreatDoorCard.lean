/-
 Print: systems and functions written.
-/
import Derived.Test.YtfpmgpblhhcpgaaGreatDoorPt
import Derived.Test.YtfpmgpblhhcpgaaGreatDoorRows
import Derived.Shelf.Vars
import Derived.MakeChecks
import Derived.LaidLaws
import Derived.Lib.LaidTab
set_option linter.unusedVariables false
set_option linter.unusedSimpArgs false
namespace Go.Proofs.YtfpmgpblhhcpgaaGreatDoor
set_option maxRecDepth 100000
section
open Hc Hc.Lex Hc.Syn
variable {H : jaa} {lo b tabs : Nat} {pre : Txt}
theorem jmo {op nm : Int} {tx : Txt} {l : List Nd} {c : Nat} {L : Sl} (na : NA lo H op tx nm l c L) (hl : okL l) (hc : jbB l ≤ 2 ^ 32) {k : ByteArray → jaa → Prop} (hk : ∀ H', Ext H H' → k ⟨⟨jgt l⟩⟩ H') :
 CallT Pg fQck [.slice L.a L.len L.cap] (.one (.c .str)) H k := by
 refine cQca L ?_
 unfold vQca
 have hle := jdL hl
 refine LoopT.ghost (fun r (s : Sl × Int) H' => ∃ (j : Nat), s.2 = (j : Nat) ∧ j + r = l.length ∧ Ext H H' ∧ Vec H' jcC s.1 ((l.take j).map fun n => jbA n.tx) ∧ ∀ x, s.1.a = some (adr x) → H.size ≤ x) l.length
  ⟨0, rfl, by omega, .refl _ _, Vec.nil _ _, fun x h => by cases h⟩ ?_
 rintro next r ⟨s, i⟩ H2 ⟨j, hj0, hj, hE2, hv2, ho2⟩ hnext
 dsimp only at hj0 hv2 ho2 ⊢
 subst hj0
 have n2 := na.upd (EL hE2)
 cases r with
 | zero =>
   refine jcD (by rw [na.len]; omega) ?_
   rw [List.take_of_length_le (by omega)] at hv2
   have e : (l.map fun n => jbA n.tx) = (l.map Nd.tx).map jbA := by simp
   rw [e] at hv2
   have hlen : (jcn true (l.map Nd.tx)).length ≤ 64 * jbB l := by
    have := jfL (f := Nd.tx) (g := cnt) (l := l) (fun n hn => by have := (jba hl n hn).tlen; have := jdv (jba hl n hn); omega) true
    rw [jfD] at this; exact this
   exact s_Join hv2 (by simp; omega) (by omega) fun H3 hE3 => hk H3 (hE2.trans hE3 fun _ _ h => h)
 | succ r =>
   have hjl : j < l.length := by omega
   have hget : l[j]? = some l[j] := List.getElem?_eq_getElem hjl
   obtain ⟨ad, qx, ix, hlt, hcc, hlx⟩ := n2.ix j _ hget
   obtain ⟨op2, tx2, nm2, l2, a2, c2, L2, he, rfl, na2⟩ := hlx.some' (jba hl _ (jbt hget))
   refine jbb (by rw [na.len]; omega) (ix rfl (jaG hcc ?_))
   simp only [Option.map_some, NilCk_some, adr_add]
   refine jam na2.c1 (jak (vs := [jbA tx2]) fun b3 H3 hb3 hE3 _ hr3 => ?_)
   have hs2 := hE2.size
   refine jdW (ws := [jbA tx2]) (hv2.upd hE3 fun _ _ h => h) hr3.rd_all rfl (fun w hw => by rw [List.mem_singleton.1 hw]; rfl) (by decide) (by simp only [List.length_map, List.length_take, List.length_singleton]; omega) fun L4 H4 hv4 hU4 ha4 _ => ?_
   have hE4 : Ext H H4 := (hE2.trans hE3 fun _ _ h => h).trans hU4 fun x hx e => by have := ho2 x e.1; omega
   refine Lt.mk (u := ((j + 1 : Nat) : Int)) (by rw [jac] <;> omega) (hnext r _ _ (by omega) ⟨j + 1, rfl, by omega, hE4, ?_, fun x hx => ?_⟩)
   ·have e : (l.take (j + 1)).map (fun n => jbA n.tx) = (l.take j).map (fun n => jbA n.tx) ++ [jbA tx2] := by
     rw [List.take_add_one, hget, List.map_append, he]; rfl
    rw [e]; exact hv4
   ·rcases ha4 with ⟨e, _⟩ | e
    ·exact ho2 x (e.symm.trans hx)
    ·rw [hx] at e
     have : x = H3.size := by simpa [adr] using e
     have := hE3.size
     omega
theorem w_thing {n : Nd} {q : Option Nat} (hc : cnt n ≤ 2 ^ 31) (hn : okN n) (hi : jgk n) (ho : n.op = 2 ∨ n.op = 4) (hq : LN lo H n q) {k : Unit → jaa → Prop} (h : WR lo H b pre 0) (hl : pre.length + (jbP n).length ≤ 2 ^ 40) (hk : ∀ H', Upd (lo ≤ ·) H H' → WR lo H' b (pre ++ jbP n) 0 → k () H') :
 CallT Pg fQcd [pA b, pN q] (.tup []) H k := by
 refine cQb4 _ _ ?_
 unfold vQb4
 obtain ⟨op, tx, nm, l, a, c, L, rfl, rfl, na⟩ := hq.some' hn
 have ho : op = 2 ∨ op = 4 := ho
 simp only [Option.map_some, NilCk_some, adr_add]
 have hcn : cnt (.mk op tx nm l a) = 1 + jbB l := by simp [cnt]
 have htl : tx.length ≤ 16 := hn.tlen
 have hle := jdL hn.2
 refine jag na.c0 ?_
 -- the head; then the block
 refine Jn.mk (fun _ H' => ∃ hd bk, Upd (lo ≤ ·) H H' ∧ WR lo H' b (pre ++ hd) 0 ∧ hd ≠ [] ∧ jbP (.mk op tx nm l a) = hd ++ (jfC 0 bk ++ [10]) ∧ okN bk ∧ bk.op = 5 ∧ l[l.length - 1]? = some bk ∧ 1 ≤ l.length) (fun kk hkk => ?_) ?_
 ·rcases ho with e | e
  ·subst e
   refine jar (by decide) ?_
   obtain ⟨_, c1, c2, c3, c4, bk, rfl, hcl, _, hb, hb5⟩ := ok2 hn
   have eT : jbP (.mk 2 tx nm [c1, c2, c3, c4, bk] a) = ([115, 121, 115, 116, 101, 109, 32] ++ (tx ++ [c1, c2, c3, c4].flatMap jbW)) ++ (jfC 0 bk ++ [10]) := by
    rw [jbP, if_neg (by decide)]; rfl
   rw [eT] at hl
   simp only [List.length_append, List.length_cons, List.length_nil] at hl
   refine jam na.c1 (Cat (by simp; omega) (jj6 h _ (by simp) (by simp only [List.length_append, List.length_cons, List.length_nil]; omega) fun H1 hU1 h1 => ?_))
   have n1 := na.upd hU1
   refine jao n1.c3 ?_
   have hcap := na.cap
   have hlen := na.len
   simp only [List.length_cons, List.length_nil] at hlen
   refine SlA0 (by decide) (by omega) (by omega) ?_
   refine LoopT.ghost (fun r (i : Int) H' => ∃ (j : Nat) (pr : Txt), i = (j : Nat) ∧ j + r = 4 ∧ Upd (lo ≤ ·) H H' ∧ WR lo H' b pr 0 ∧ pr ≠ [] ∧ pr ++ ([c1, c2, c3, c4].drop j).flatMap jbW = pre ++ (jbL 0 ++ ([115, 121, 115, 116, 101, 109, 32] ++ tx)) ++ [c1, c2, c3, c4].flatMap jbW) 4
    ⟨0, _, rfl, rfl, hU1, h1, by simp, by simp⟩ ?_
   rintro next r i H2 ⟨j, pr, rfl, hj, hU2, h2, hpr, heq⟩ hnext
   have n2 := na.upd hU2
   have hlq := congrArg List.length heq
   simp only [List.length_append, List.length_cons, List.length_nil, jbL, List.length_replicate] at hlq
   cases r with
   | zero =>
     have hj4 : j = 4 := by omega
     subst hj4
     refine jcD (by show ¬ ((4 : Nat) : Int) < ((4 : Int).toNat : Int); decide) (hkk _ _ ⟨_, bk, hU2, ?_, by simp, eT, hb, hb5, rfl, by simp⟩)
     have et : pr = pre ++ ([115, 121, 115, 116, 101, 109, 32] ++ (tx ++ [c1, c2, c3, c4].flatMap jbW)) := by simpa [jbL] using heq
     rw [← et]; exact h2
   | succ r =>
     have hj4 : j < [c1, c2, c3, c4].length := by simp; omega
     have hget4 : [c1, c2, c3, c4][j]? = some [c1, c2, c3, c4][j] := List.getElem?_eq_getElem hj4
     have hdrop : [c1, c2, c3, c4].drop j = [c1, c2, c3, c4][j] :: [c1, c2, c3, c4].drop (j + 1) := List.drop_eq_getElem_cons hj4
     have hget : [c1, c2, c3, c4, bk][j]? = some [c1, c2, c3, c4][j] := by
      have : [c1, c2, c3, c4, bk] = [c1, c2, c3, c4] ++ [bk] := rfl
      rw [this, List.getElem?_append_left hj4]; exact hget4
     generalize [c1, c2, c3, c4][j] = v at hget hget4 hdrop
     obtain ⟨hvo, hvop⟩ := hcl v (jbt hget4)
     have hvc := jbV (jbt hget)
     obtain ⟨ad, qx, ix, hlt, hcc, hlx⟩ := n2.ix j v hget
     rw [hdrop, List.flatMap_cons] at heq hlq
     simp only [List.length_append] at hlq
     have ix' : ∀ {k : Addr → Prop}, k ad → IxA 1 ⟨L.a, (4 : Int).toNat, (L.cap : Int).toNat⟩ (j : Int) k := fun {k} hk => by
      obtain ⟨x, hx, g0, g1, g2⟩ := ix (k := (· = ad)) rfl rfl
      exact IxA.mk hx (by omega) (by show (j : Int) < ((4 : Int).toNat : Nat); simp at hj4; omega) (g2 ▸ hk)
     refine jbb (by show (j : Int) < ((4 : Int).toNat : Nat); simp at hj4; omega) ?_
     simp only [Jn]
     refine ix' (jaG hcc ?_)
     obtain ⟨op2, tx2, nm2, l2, a2, cc2, L2, rfl, rfl, na2⟩ := hlx.some' hvo
     have hvop : op2 = 3 := hvop
     subst hvop
     have htx2 : tx2.length ≤ 16 := hvo.tlen
     simp only [Option.map_some, NilCk_some, adr_add]
     have nx : ∀ H3, Upd (lo ≤ ·) H2 H3 → WR lo H3 b (pr ++ jbW (.mk 3 tx2 nm2 l2 a2)) 0 → Lt (IntKind.wrap .i64 ((j : Int) + 1)) fun t1 => next t1 H3 := fun H3 hU3 h3 => by
      refine Lt.mk (u := ((j + 1 : Nat) : Int)) (by rw [jac] <;> omega) (hnext r _ _ (by omega) ⟨j + 1, _, rfl, by omega, upL hU2 hU3, h3, jav hpr, ?_⟩)
      rw [← heq]; simp
     refine jao na2.c3 ?_
     by_cases hl20 : l2.length = 0
     ·have e : l2 = [] := List.eq_nil_of_length_eq_zero hl20
      subst e
      refine jcD (by rw [na2.len]; simp) (nx H2 (.refl _ _) ?_)
      have : jbW (.mk 3 tx2 nm2 [] a2) = [] := by simp [jbW]
      rw [this, List.append_nil]; exact h2
     ·have eC : jbW (.mk 3 tx2 nm2 l2 a2) = [32] ++ tx2 ++ [32] ++ jgt l2 := by
       have : l2.isEmpty = false := by cases l2 with
        | nil => simp at hl20
        | cons => rfl
       simp [jbW, this]
      rw [eC] at hlq nx
      simp only [List.length_append, List.length_cons, List.length_nil] at hlq
      simp only [cnt, jbB] at hvc hc
      refine jbb (by rw [na2.len]; omega) (jam na2.c1 (Cat (by simp; omega) (Cat (by simp; omega) (jao na2.c3 ?_))))
      refine jmo na2 hvo.2 (by omega) fun H3 hE3 => ?_
      have n3 := na2.upd (EL hE3)
      refine jcc n3.c1 (Cat (by simp; omega) (jhv (h2.ext hE3) _ (jav hpr) (by simp only [List.length_append, List.length_cons, List.length_nil]; omega) fun _ H4 hU4 h4 => ?_))
      have n4 := n3.upd hU4
      exact jgX n4.c3 n4.c1 (nx H4 (upL (EL hE3) hU4) h4)
  ·subst e
   obtain ⟨_, cl, bk, rfl, hcl, hclo, _, hb, hb5⟩ := ok4 hn
   obtain ⟨ad, qx, ix, hlt, hcc, hlx⟩ := na.ix 0 cl rfl
   obtain ⟨op2, tx2, nm2, l2, a2, cc2, L2, rfl, rfl, na2⟩ := hlx.some' hcl
   have eT : jbP (.mk 4 tx nm [.mk op2 tx2 nm2 l2 a2, bk] a) = ([102, 117, 110, 99, 32] ++ tx ++ [40] ++ jgt l2 ++ [41]) ++ (jfC 0 bk ++ [10]) := by
    rw [jbP, if_pos rfl]; simp [Nd.ks]
   rw [eT] at hl
   simp only [List.length_append, List.length_cons, List.length_nil] at hl
   simp only [cnt, jbB] at hc
   refine jap rfl (jam na.c1 (Cat (by simp; omega) (Cat (by simp; omega) (jao na.c3 (ix rfl (jaG hcc ?_))))))
   simp only [Option.map_some, NilCk_some, adr_add]
   refine jao na2.c3 (jmo na2 hcl.2 (by omega) fun H1 hE1 => ?_)
   have n1 := na.upd (EL hE1)
   have n21 := na2.upd (EL hE1)
   have hcc1 : hcell H1 ad = some (jb3 (some cc2)) := (EL (lo := lo) hE1).cell hcc (by omega)
   refine jaw (by simp only [List.mem_cons, List.not_mem_nil, or_false, forall_eq_or_imp, forall_eq]; exact ⟨hcc1, n1.c3, n1.c1⟩) (Cat (by simp only [List.length_append, List.length_cons, List.length_nil]; omega) (Cat (by simp only [List.length_append, List.length_cons, List.length_nil]; omega) ?_))
   refine jj6 (h.ext hE1) _ (by simp) (by simp only [List.length_append, List.length_cons, List.length_nil]; omega) fun H2 hU2 h2 => ?_
   have n2 := n1.upd hU2
   have n22 := n21.upd hU2
   exact jaw (by simp only [List.mem_cons, List.not_mem_nil, or_false, forall_eq_or_imp, forall_eq]; exact ⟨n22.c3, hU2.cell hcc1 (by omega), n2.c3, n2.c1⟩) (hkk _ _ ⟨_, bk, upL (EL hE1) hU2, by simpa [jbL] using h2, by simp, eT, hb, hb5, rfl, by simp⟩)
 ·rintro _ H1 ⟨hd, bk, hU1, h1, hhd, eT, hbk, hbk5, hget, hl1⟩
  have n1 := na.upd hU1
  rw [eT] at hl hk
  simp only [List.length_append, List.length_cons, List.length_nil] at hl
  refine jao n1.c3 (jao n1.c3 (Lt.mk (u := ((l.length - 1 : Nat) : Int)) (by rw [na.len, jac] <;> omega) ?_))
  obtain ⟨ad, qx, ix, hlt, hcc, hlx⟩ := n1.ix _ bk hget
  refine ix rfl (jaG hcc ?_)
  have hmem := jbt hget
  have := jbV hmem
  refine (wkP lo b (2 ^ 40) (Nat.le_refl _)).bl (by omega) hbk (jbr hi.2 _ hmem) hbk5 hlx h1 (by simp [hhd]) (by simp only [List.length_append]; omega) fun H2 hU2 h2 => ?_
  have n2 := n1.upd hU2
  refine jgX n2.c3 n2.c3 (joe h2 10 rfl (by simp only [List.length_append]; omega) fun _ H3 hU3 h3 => hk H3 (upL (upL hU1 hU2) hU3) ?_)
  have e : pre ++ (hd ++ (jfC 0 bk ++ [10])) = pre ++ hd ++ jfC 0 bk ++ [10] := by simp
  rw [e]; exact h3
end
section
open Hc Hc.Lex Hc.Syn
variable {H : jaa} {lo b : Nat}
theorem s_is {op sort : Int} (hs : 0 ≤ sort ∧ sort ≤ 8) {k : Bool → jaa → Prop} (hk : k (jbR op sort) H) : CallT Pg fQch [.int .i64 op, .int .i64 sort] (.one (.c .bool)) H k := by
 refine cQb7 _ _ ?_
 unfold vQb7
 simp only [Jn]
 unfold jbR at hk
 by_cases e : sort = 0
 ·rw [if_pos e] at hk; exact jap e hk
 rw [if_neg e] at hk; refine jar e ?_
 by_cases e : sort = 1
 ·rw [if_pos e] at hk; exact jap e hk
 rw [if_neg e] at hk; refine jar e ?_
 by_cases e : sort = 2
 ·rw [if_pos e] at hk
  refine jap e (jaj (fun h => ?_) fun h => ?_)
  ·rw [decide_eq_true (show 10 ≤ op from h), Bool.true_and] at hk; exact hk
  ·rw [decide_eq_false (show ¬ 10 ≤ op from h), Bool.false_and] at hk; exact hk
 rw [if_neg e] at hk; refine jar e ?_
 by_cases e : sort = 3
 ·rw [if_pos e] at hk
  refine jap e (jaj (fun h => ?_) fun h => ?_)
  ·rw [decide_eq_true (show 30 ≤ op from h), Bool.true_and] at hk; exact hk
  ·rw [decide_eq_false (show ¬ 30 ≤ op from h), Bool.false_and] at hk; exact hk
 rw [if_neg e] at hk; refine jar e ?_
 by_cases e : sort = 4
 ·rw [if_pos e] at hk; exact jap e hk
 rw [if_neg e] at hk; refine jar e ?_
 by_cases e : sort = 5
 ·rw [if_pos e] at hk; exact jap e hk
 rw [if_neg e] at hk; refine jar e ?_
 by_cases e : sort = 6
 ·rw [if_pos e] at hk; exact jap e hk
 rw [if_neg e] at hk; refine jar e ?_
 by_cases e : sort = 7
 ·rw [if_pos e] at hk
  refine jap e (Br.mk (fun h => ?_) fun h => ?_)
  ·rw [h] at hk; exact hk
  ·rw [h] at hk; exact hk
 rw [if_neg e] at hk; refine jar e ?_
 exact Br.mk (fun h => by rw [h] at hk; exact hk) fun h => by rw [h] at hk; exact hk
theorem jaO {a c : Nat} (h : some (adr a) = some (adr c)) : a = c := by simpa [adr] using h
def TF (b : Nat) (H : jaa) (fv : Value) (kd : Nat) : Prop := ∀ {t : Txt} {H' : jaa} {k : Bool → jaa → Prop}, Upd (· = b) H H' → TabH H' → t.length ≤ 2 ^ 40 → (∀ H'', Ext H' H'' → k (jbf kd t) H'') → jky Pg fv [.string ⟨⟨t⟩⟩] (.one (.c .bool)) H' k
theorem jfo : TF b H (.func (.func 89) #[] #[]) 0 := fun {t H' k} _ _ _ hk => ⟨89, #[], #[], rfl, cQce _ (by
 unfold vQce
 rw [jcq]
 have := hk H' (.refl _ _)
 show k _ H'
 have e : (t == []) = decide (t = []) := by rw [Bool.eq_iff_iff]; simp
 unfold jbf at this
 rw [e] at this; exact this)⟩
theorem jcp : TF b H (.func (.func 90) #[] #[]) 1 := fun hE ht hl hk => ⟨90, #[], #[], rfl, jhH ht hl hk⟩
theorem tf_sign : TF b H (.func (.func 92) #[] #[]) 3 := fun {t H' k} _ _ _ hk => ⟨92, #[], #[], rfl, cQcg _ (by
 unfold vQcg
 exact jdC (hk H' (.refl _ _)))⟩
theorem jme : TF b H (.func (.func 93) #[] #[]) 5 := fun {t H' k} _ ht hl hk => ⟨93, #[], #[], rfl, cQch _ (by
 unfold vQch
 simp only [Jn]
 refine jhH ht hl fun H1 hE1 => ?_
 have hk : ∀ H'', Ext H' H'' → k (jaJ t || builtinL.contains t) H'' := hk
 cases hn : jaJ t with
 | true => rw [hn] at hk; exact hk H1 hE1
 | false => rw [hn] at hk; exact jik fun H2 hE2 => hk H2 (hE1.trans hE2 fun _ _ h => h))⟩
theorem jnJ {ws : List Txt} {kd : Nat} (hkd : ∀ t, jbf kd t = ws.contains t) (hw : ws.length ≤ 1000) {L : Sl} (hv : Vec H jcC L (ws.map jbA)) {b1 : Nat} (hr : Row H b1 TQai [slV L]) (h1 : b1 ≠ b) (h2 : L.a ≠ some (adr b)) : TF b H (.func (.func 127) #[] #[.pointer (some (adr b1))]) kd :=
 fun {t H' k} hE _ _ hk => ⟨127, #[], #[.pointer (some (adr b1))], rfl, cQcr _ _ (by
  unfold vQcr
  refine jao (((hE.row hr h1).cell 0).trans rfl) (jfK (hv.upd hE fun c hc e => h2 (by rw [hc, e])) hw ?_)
  rw [← hkd]; exact hk H' (.refl _ _))⟩
theorem ji4 {L : Sl} {ws : List Txt} {kd : Nat} (hkd : ∀ t, jbf kd t = ws.contains t) (hw : ws.length ≤ 1000) (hv : Vec H jcC L (ws.map jbA)) (hb : b < H.size) (h2 : L.a ≠ some (adr b)) {k : Value → jaa → Prop} (hk : ∀ H' b1, Ext H H' → TF b H' (.func (.func 127) #[] #[.pointer (some (adr b1))]) kd → k (.func (.func 127) #[] #[.pointer (some (adr b1))]) H') :
 CallT Pg fQcp [.slice L.a L.len L.cap] (.one (.c .raw)) H k := by
 refine cQcf L ?_
 unfold vQcf
 refine jak (vs := [slV L]) fun b1 H1 hb1 hE1 _ hr1 => hk H1 b1 hE1 (jnJ hkd hw (hv.upd hE1 fun _ _ h => h) hr1 (by omega) h2)
abbrev FormA : ATy := .agg [.raw, .sl, .bool, (.int .i64)]
theorem fm_bld {b1 : Nat} (r1 : Row H b1 jcS [.nilFunc, .slice none 0 0, .bool false, .int .i64 0]) {g : Nat} {fi ca : Array Value} {L : Sl} {more : Bool} {m : Int} {K : Value × Sl × Bool × Int → jaa → Prop} (hK : ∀ H', Upd (· = b1) H H' → K (.func (.func g) fi ca, L, more, m) H') :
 jd3 Pg jcS [(0, .func (.func g) fi ca), (1, .slice L.a L.len L.cap), (2, .bool more), (3, .int .i64 m)] [.raw, .sl, .bool, (.int .i64)] fun (d : Value × Sl × Bool × Int) =>
  StV ⟨b1, 0, none⟩ d.1 H fun H3 => St ⟨b1, 1, none⟩ (.slice d.2.1.a d.2.1.len d.2.1.cap) H3 fun H4 => St ⟨b1, 2, none⟩ (.bool d.2.2.1) H4 fun H5 => St ⟨b1, 3, none⟩ (.int .i64 d.2.2.2) H5 fun H6 =>
   LdC [.raw, .sl, .bool, (.int .i64)] (adr b1) H6 fun (c : Value × Sl × Bool × Int) => K (c.1, c.2.1, c.2.2.1, c.2.2.2) H6 := by
 refine ⟨(.func (.func g) fi ca, L, more, m), fun w => by kernel_rfl, rfl, ?_⟩
 dsimp only
 refine jat r1 (by simp) fun H3 hU3 _ hr3 => jat hr3 (by simp) fun H4 hU4 _ hr4 => jat hr4 (by simp) fun H5 hU5 _ hr5 => jat hr5 (by simp) fun H6 hU6 _ hr6 => ?_
 have hr6 : Row H6 b1 jcS [.func (.func g) fi ca, .slice L.a L.len L.cap, .bool more, .int .i64 m] := hr6
 exact ⟨(.func (.func g) fi ca, L, more, m), hr6.rd_all, hK H6 (((hU3.trans hU4 fun _ _ e => e).trans hU5 fun _ _ e => e).trans hU6 fun _ _ e => e)⟩
def jg3 (H0 H : jaa) (op : Int) (r : (Value × Sl × Bool × Int) × Bool) : Prop := match jfQ op with
 | some (kd, sl, more, m) => r.2 = true ∧ r.1.1.oneCell' = true ∧ (∃ b, TF b H r.1.1 kd) ∧ Vec H jdz r.1.2.1 (jfn sl) ∧ (∀ c, r.1.2.1.a = some (adr c) → H0.size ≤ c) ∧ r.1.2.2.1 = more ∧ r.1.2.2.2 = (m : Nat)
 | none => r = ((.nilFunc, ⟨none, 0, 0⟩, false, 0), false)
theorem jaN {b : Nat} {xs : List Int} {n : Nat} (h : Row H b jdz (jfn xs)) (hn : n = xs.length) : Vec H jdz ⟨some (adr b), n, n⟩ (jfn xs) :=
 ⟨by simp [hn], .inr ⟨b, [], rfl, by simpa using h, by simp [hn]⟩, Nat.le_refl _⟩
theorem TF.mv {H' : jaa} {fv : Value} {kd : Nat} (h : TF b H fv kd) (hU : Upd (· = b) H H') : TF b H' fv kd := fun hE2 ht hl hk => h (hU.trans hE2 fun _ _ h => h) ht hl hk
theorem TF.ext {H' : jaa} {fv : Value} {kd : Nat} (h : TF b H fv kd) (hE : Ext H H') : TF b H' fv kd := h.mv (hE.mono fun _ _ h => h.elim)
theorem jaU {op : Int} {kd : Nat} {sl : List Int} {more : Bool} {m : Nat} (hf : jfQ op = some (kd, sl, more, m)) {H0 H2 : jaa} {b1 : Nat} (hb1 : b1 = H0.size) (hE1 : Ext H0 H2) (r1 : Row H2 b1 jcS [.nilFunc, .slice none 0 0, .bool false, .int .i64 0]) {g : Nat} {fi ca : Array Value} (ht : TF b1 H2 (.func (.func g) fi ca) kd) {L : Sl} (hv : Vec H2 jdz L (jfn sl)) (hlo : ∀ c, L.a = some (adr c) → H0.size < c) {k : (Value × Sl × Bool × Int) × Bool → jaa → Prop}
 (hk : ∀ r H', Ext H0 H' → jg3 H0 H' op r → k r H') :
 jd3 Pg jcS [(0, .func (.func g) fi ca), (1, .slice L.a L.len L.cap), (2, .bool more), (3, .int .i64 (m : Nat))] [.raw, .sl, .bool, (.int .i64)] fun (d : Value × Sl × Bool × Int) =>
  StV ⟨b1, 0, none⟩ d.1 H2 fun H3 => St ⟨b1, 1, none⟩ (.slice d.2.1.a d.2.1.len d.2.1.cap) H3 fun H4 => St ⟨b1, 2, none⟩ (.bool d.2.2.1) H4 fun H5 => St ⟨b1, 3, none⟩ (.int .i64 d.2.2.2) H5 fun H6 =>
   LdC [.raw, .sl, .bool, (.int .i64)] (adr b1) H6 fun (c : Value × Sl × Bool × Int) => k ((c.1, c.2.1, c.2.2.1, c.2.2.2), true) H6 := by
 refine fm_bld (K := fun c H' => k (c, true) H') r1 fun H' hU => hk _ H' (hE1.trans hU fun x hx e => by omega) ?_
 unfold jg3
 rw [hf]
 exact ⟨rfl, rfl, ⟨b1, ht.mv hU⟩, hv.upd hU fun c hc e => by have := hlo c hc; omega, fun c hc => Nat.le_of_lt (hlo c hc), rfl, rfl⟩
theorem jeV {b : Nat} {xs : List Txt} {n : Nat} (h : Row H b jcC (xs.map jbA)) (hn : n = xs.length) : Vec H jcC ⟨some (adr b), n, n⟩ (xs.map jbA) :=
 ⟨by simp [hn], .inr ⟨b, [], rfl, by simpa using h, by simp [hn]⟩, Nat.le_refl _⟩
theorem jnn {op : Int} {k : (Value × Sl × Bool × Int) × Bool → jaa → Prop} (hk : ∀ r H', Ext H H' → jg3 H H' op r → k r H') : CallT Pg fQcg [.int .i64 op] (.tup [FormA, (.c .bool)]) H k := by
 refine cQb6 _ ?_
 unfold vQb6
 refine jak (vs := [.nilFunc, .slice none 0 0, .bool false, .int .i64 0]) fun b1 H1 hb1 hE1 _ r1 => ?_
 simp only [adr_add]
 have hs1 := hE1.size
 by_cases e0 : op = 1
 ·subst e0
  refine jap rfl ?_
  refine jak (vs := jfn [8]) fun b2 H2 hb2 hE2 _ hr2 => ?_
  have hs2 := hE2.size
  exact jaU (sl := [8]) (more := true) (m := 0) (L := ⟨some (adr b2), 1, 1⟩) rfl hb1 (hE1.trans hE2 fun _ _ h => h) (hE2.row r1 fun h => h) jfo (jaN hr2 rfl) (fun c hc => by have := jaO hc; omega) hk
 refine jar e0 ?_
 by_cases e1 : op = 2
 ·subst e1
  refine jap rfl ?_
  refine jak (vs := jfn [0, 0, 0, 0, 1]) fun b2 H2 hb2 hE2 _ hr2 => ?_
  have hs2 := hE2.size
  exact jaU (sl := [0, 0, 0, 0, 1]) (more := false) (m := 5) (L := ⟨some (adr b2), 5, 5⟩) rfl hb1 (hE1.trans hE2 fun _ _ h => h) (hE2.row r1 fun h => h) jcp (jaN hr2 rfl) (fun c hc => by have := jaO hc; omega) hk
 refine jar e1 ?_
 by_cases e2 : op = 3
 ·subst e2
  refine jap rfl ?_
  refine jak (vs := (clauseW ++ [[102, 117, 110, 99]] : List Txt).map jbA) fun b4 H4 hb4 hE4 _ hr4 => ?_
  refine ji4 (kd := 2) (ws := clauseW ++ [[102, 117, 110, 99]]) (L := ⟨some (adr b4), 5, 5⟩) (fun t => by simp [jbf, List.contains_cons]) (by decide) (jeV hr4 rfl) (b := b1) (by omega) (fun e => by have := jaO e; omega) fun H5 b5 hE5 ht5 => ?_
  have hE15 := hE4.trans hE5 fun _ _ h => h
  refine jak (vs := jfn [6]) fun b2 H2 hb2 hE2 _ hr2 => ?_
  have hE25 := hE15.trans hE2 fun _ _ h => h
  have hs25 := hE25.size
  have hs15 := hE15.size
  exact jaU (sl := [6]) (more := true) (m := 0) (L := ⟨some (adr b2), 1, 1⟩) rfl hb1 (hE1.trans hE25 fun _ _ h => h) (hE25.row r1 fun h => h) (ht5.ext hE2) (jaN hr2 rfl) (fun c hc => by have := jaO hc; omega) hk
 refine jar e2 ?_
 by_cases e3 : op = 4
 ·subst e3
  refine jap rfl ?_
  refine jak (vs := jfn [0, 1]) fun b2 H2 hb2 hE2 _ hr2 => ?_
  have hs2 := hE2.size
  exact jaU (sl := [0, 1]) (more := false) (m := 2) (L := ⟨some (adr b2), 2, 2⟩) rfl hb1 (hE1.trans hE2 fun _ _ h => h) (hE2.row r1 fun h => h) jcp (jaN hr2 rfl) (fun c hc => by have := jaO hc; omega) hk
 refine jar e3 ?_
 by_cases e4 : op = 5
 ·subst e4
  refine jap rfl ?_
  refine jak (vs := jfn [2]) fun b2 H2 hb2 hE2 _ hr2 => ?_
  have hs2 := hE2.size
  exact jaU (sl := [2]) (more := true) (m := 0) (L := ⟨some (adr b2), 1, 1⟩) rfl hb1 (hE1.trans hE2 fun _ _ h => h) (hE2.row r1 fun h => h) jfo (jaN hr2 rfl) (fun c hc => by have := jaO hc; omega) hk
 refine jar e4 ?_
 by_cases e5 : op = 10
 ·subst e5
  refine jap rfl ?_
  refine jak (vs := jfn [3]) fun b2 H2 hb2 hE2 _ hr2 => ?_
  have hs2 := hE2.size
  exact jaU (sl := [3]) (more := false) (m := 1) (L := ⟨some (adr b2), 1, 1⟩) rfl hb1 (hE1.trans hE2 fun _ _ h => h) (hE2.row r1 fun h => h) jcp (jaN hr2 rfl) (fun c hc => by have := jaO hc; omega) hk
 refine jar e5 ?_
 by_cases e6 : op = 11
 ·subst e6
  refine jap rfl ?_
  refine jak (vs := jfn [3]) fun b2 H2 hb2 hE2 _ hr2 => ?_
  have hs2 := hE2.size
  exact jaU (sl := [3]) (more := false) (m := 1) (L := ⟨some (adr b2), 1, 1⟩) rfl hb1 (hE1.trans hE2 fun _ _ h => h) (hE2.row r1 fun h => h) jcp (jaN hr2 rfl) (fun c hc => by have := jaO hc; omega) hk
 refine jar e6 ?_
 by_cases e7 : op = 12
 ·subst e7
  refine jap rfl ?_
  refine jak (vs := jfn [6, 3]) fun b2 H2 hb2 hE2 _ hr2 => ?_
  have hs2 := hE2.size
  exact jaU (sl := [6, 3]) (more := false) (m := 2) (L := ⟨some (adr b2), 2, 2⟩) rfl hb1 (hE1.trans hE2 fun _ _ h => h) (hE2.row r1 fun h => h) jcp (jaN hr2 rfl) (fun c hc => by have := jaO hc; omega) hk
 refine jar e7 ?_
 by_cases e8 : op = 13
 ·subst e8
  refine jap rfl ?_
  refine jak (vs := jfn [3, 1, 7]) fun b2 H2 hb2 hE2 _ hr2 => ?_
  have hs2 := hE2.size
  exact jaU (sl := [3, 1, 7]) (more := false) (m := 2) (L := ⟨some (adr b2), 3, 3⟩) rfl hb1 (hE1.trans hE2 fun _ _ h => h) (hE2.row r1 fun h => h) jfo (jaN hr2 rfl) (fun c hc => by have := jaO hc; omega) hk
 refine jar e8 ?_
 by_cases e9 : op = 14
 ·subst e9
  refine jap rfl ?_
  refine jak (vs := jfn [3, 1]) fun b2 H2 hb2 hE2 _ hr2 => ?_
  have hs2 := hE2.size
  exact jaU (sl := [3, 1]) (more := false) (m := 2) (L := ⟨some (adr b2), 2, 2⟩) rfl hb1 (hE1.trans hE2 fun _ _ h => h) (hE2.row r1 fun h => h) jfo (jaN hr2 rfl) (fun c hc => by have := jaO hc; omega) hk
 refine jar e9 ?_
 by_cases e10 : op = 15
 ·subst e10
  refine jap rfl ?_
  refine jak (vs := jfn [3, 1]) fun b2 H2 hb2 hE2 _ hr2 => ?_
  have hs2 := hE2.size
  exact jaU (sl := [3, 1]) (more := false) (m := 2) (L := ⟨some (adr b2), 2, 2⟩) rfl hb1 (hE1.trans hE2 fun _ _ h => h) (hE2.row r1 fun h => h) jfo (jaN hr2 rfl) (fun c hc => by have := jaO hc; omega) hk
 refine jar e10 ?_
 by_cases e11 : op = 16
 ·subst e11
  refine jap rfl ?_
  refine jak (vs := jfn [3, 3]) fun b2 H2 hb2 hE2 _ hr2 => ?_
  have hs2 := hE2.size
  exact jaU (sl := [3, 3]) (more := false) (m := 2) (L := ⟨some (adr b2), 2, 2⟩) rfl hb1 (hE1.trans hE2 fun _ _ h => h) (hE2.row r1 fun h => h) jfo (jaN hr2 rfl) (fun c hc => by have := jaO hc; omega) hk
 refine jar e11 ?_
 by_cases e12 : op = 17
 ·subst e12
  refine jap rfl ?_
  refine jak (vs := jfn [4]) fun b2 H2 hb2 hE2 _ hr2 => ?_
  have hs2 := hE2.size
  exact jaU (sl := [4]) (more := true) (m := 0) (L := ⟨some (adr b2), 1, 1⟩) rfl hb1 (hE1.trans hE2 fun _ _ h => h) (hE2.row r1 fun h => h) jfo (jaN hr2 rfl) (fun c hc => by have := jaO hc; omega) hk
 refine jar e12 ?_
 by_cases e13 : op = 18
 ·subst e13
  refine jap rfl ?_
  refine jak (vs := jfn [4]) fun b2 H2 hb2 hE2 _ hr2 => ?_
  have hs2 := hE2.size
  exact jaU (sl := [4]) (more := false) (m := 1) (L := ⟨some (adr b2), 1, 1⟩) rfl hb1 (hE1.trans hE2 fun _ _ h => h) (hE2.row r1 fun h => h) jfo (jaN hr2 rfl) (fun c hc => by have := jaO hc; omega) hk
 refine jar e13 ?_
 by_cases e14 : op = 19
 ·subst e14
  refine jap rfl ?_
  exact jaU (sl := []) (more := false) (m := 0) (L := ⟨none, 0, 0⟩) rfl hb1 hE1 r1 jcp (Vec.nil _ _) (fun c hc => by cases hc) hk
 refine jar e14 ?_
 by_cases e15 : op = 20
 ·subst e15
  refine jap rfl ?_
  exact jaU (sl := []) (more := false) (m := 0) (L := ⟨none, 0, 0⟩) rfl hb1 hE1 r1 jfo (Vec.nil _ _) (fun c hc => by cases hc) hk
 refine jar e15 ?_
 by_cases e16 : op = 21
 ·subst e16
  refine jap rfl ?_
  exact jaU (sl := []) (more := false) (m := 0) (L := ⟨none, 0, 0⟩) rfl hb1 hE1 r1 jfo (Vec.nil _ _) (fun c hc => by cases hc) hk
 refine jar e16 ?_
 by_cases e17 : op = 22
 ·subst e17
  refine jap rfl ?_
  refine jak (vs := jfn [3]) fun b2 H2 hb2 hE2 _ hr2 => ?_
  have hs2 := hE2.size
  exact jaU (sl := [3]) (more := false) (m := 1) (L := ⟨some (adr b2), 1, 1⟩) rfl hb1 (hE1.trans hE2 fun _ _ h => h) (hE2.row r1 fun h => h) jfo (jaN hr2 rfl) (fun c hc => by have := jaO hc; omega) hk
 refine jar e17 ?_
 by_cases e18 : op = 23
 ·subst e18
  refine jap rfl ?_
  refine jak (vs := jfn [5]) fun b2 H2 hb2 hE2 _ hr2 => ?_
  have hs2 := hE2.size
  exact jaU (sl := [5]) (more := true) (m := 0) (L := ⟨some (adr b2), 1, 1⟩) rfl hb1 (hE1.trans hE2 fun _ _ h => h) (hE2.row r1 fun h => h) jcp (jaN hr2 rfl) (fun c hc => by have := jaO hc; omega) hk
 refine jar e18 ?_
 by_cases e19 : op = 24
 ·subst e19
  refine jap rfl ?_
  refine jak (vs := jfn [3]) fun b2 H2 hb2 hE2 _ hr2 => ?_
  have hs2 := hE2.size
  exact jaU (sl := [3]) (more := false) (m := 1) (L := ⟨some (adr b2), 1, 1⟩) rfl hb1 (hE1.trans hE2 fun _ _ h => h) (hE2.row r1 fun h => h) jcp (jaN hr2 rfl) (fun c hc => by have := jaO hc; omega) hk
 refine jar e19 ?_
 by_cases e20 : op = 30
 ·subst e20
  refine jap rfl ?_
  exact jaU (sl := []) (more := false) (m := 0) (L := ⟨none, 0, 0⟩) rfl hb1 hE1 r1 jfo (Vec.nil _ _) (fun c hc => by cases hc) hk
 refine jar e20 ?_
 by_cases e21 : op = 31
 ·subst e21
  refine jap rfl ?_
  exact jaU (sl := []) (more := false) (m := 0) (L := ⟨none, 0, 0⟩) rfl hb1 hE1 r1 jcp (Vec.nil _ _) (fun c hc => by cases hc) hk
 refine jar e21 ?_
 by_cases e22 : op = 32
 ·subst e22
  refine jap rfl ?_
  refine jak (vs := jfn [6]) fun b2 H2 hb2 hE2 _ hr2 => ?_
  have hs2 := hE2.size
  exact jaU (sl := [6]) (more := false) (m := 1) (L := ⟨some (adr b2), 1, 1⟩) rfl hb1 (hE1.trans hE2 fun _ _ h => h) (hE2.row r1 fun h => h) jcp (jaN hr2 rfl) (fun c hc => by have := jaO hc; omega) hk
 refine jar e22 ?_
 by_cases e23 : op = 33
 ·subst e23
  refine jap rfl ?_
  refine jak (vs := jfn [3, 3]) fun b2 H2 hb2 hE2 _ hr2 => ?_
  have hs2 := hE2.size
  exact jaU (sl := [3, 3]) (more := false) (m := 2) (L := ⟨some (adr b2), 2, 2⟩) rfl hb1 (hE1.trans hE2 fun _ _ h => h) (hE2.row r1 fun h => h) tf_sign (jaN hr2 rfl) (fun c hc => by have := jaO hc; omega) hk
 refine jar e23 ?_
 by_cases e24 : op = 34
 ·subst e24
  refine jap rfl ?_
  refine jak (vs := ([[45], [33]] : List Txt).map jbA) fun b4 H4 hb4 hE4 _ hr4 => ?_
  refine ji4 (kd := 4) (ws := [[45], [33]]) (L := ⟨some (adr b4), 2, 2⟩) (fun t => by rw [Bool.eq_iff_iff]; simp [jbf]) (by decide) (jeV hr4 rfl) (b := b1) (by omega) (fun e => by have := jaO e; omega) fun H5 b5 hE5 ht5 => ?_
  have hE15 := hE4.trans hE5 fun _ _ h => h
  refine jak (vs := jfn [3]) fun b2 H2 hb2 hE2 _ hr2 => ?_
  have hE25 := hE15.trans hE2 fun _ _ h => h
  have hs25 := hE25.size
  have hs15 := hE15.size
  exact jaU (sl := [3]) (more := false) (m := 1) (L := ⟨some (adr b2), 1, 1⟩) rfl hb1 (hE1.trans hE25 fun _ _ h => h) (hE25.row r1 fun h => h) (ht5.ext hE2) (jaN hr2 rfl) (fun c hc => by have := jaO hc; omega) hk
 refine jar e24 ?_
 by_cases e25 : op = 35
 ·subst e25
  refine jap rfl ?_
  refine jak (vs := jfn [3, 3, 3]) fun b2 H2 hb2 hE2 _ hr2 => ?_
  have hs2 := hE2.size
  exact jaU (sl := [3, 3, 3]) (more := false) (m := 3) (L := ⟨some (adr b2), 3, 3⟩) rfl hb1 (hE1.trans hE2 fun _ _ h => h) (hE2.row r1 fun h => h) jfo (jaN hr2 rfl) (fun c hc => by have := jaO hc; omega) hk
 refine jar e25 ?_
 by_cases e26 : op = 36
 ·subst e26
  refine jap rfl ?_
  refine jak (vs := jfn [3]) fun b2 H2 hb2 hE2 _ hr2 => ?_
  have hs2 := hE2.size
  exact jaU (sl := [3]) (more := true) (m := 0) (L := ⟨some (adr b2), 1, 1⟩) rfl hb1 (hE1.trans hE2 fun _ _ h => h) (hE2.row r1 fun h => h) jme (jaN hr2 rfl) (fun c hc => by have := jaO hc; omega) hk
 refine jar e26 ?_
 by_cases e27 : op = 37
 ·subst e27
  refine jap rfl ?_
  exact jaU (sl := []) (more := false) (m := 0) (L := ⟨none, 0, 0⟩) rfl hb1 hE1 r1 jcp (Vec.nil _ _) (fun c hc => by cases hc) hk
 refine jar e27 ?_
 by_cases e28 : op = 38
 ·subst e28
  refine jap rfl ?_
  refine jak (vs := ([[116, 105, 99, 107], [109, 101]] : List Txt).map jbA) fun b4 H4 hb4 hE4 _ hr4 => ?_
  refine ji4 (kd := 6) (ws := [[116, 105, 99, 107], [109, 101]]) (L := ⟨some (adr b4), 2, 2⟩) (fun t => by rw [Bool.eq_iff_iff]; simp [jbf]) (by decide) (jeV hr4 rfl) (b := b1) (by omega) (fun e => by have := jaO e; omega) fun H5 b5 hE5 ht5 => ?_
  have hE15 := hE4.trans hE5 fun _ _ h => h
  have hs15 := hE15.size
  exact jaU (sl := []) (more := false) (m := 0) (L := ⟨none, 0, 0⟩) rfl hb1 (hE1.trans hE15 fun _ _ h => h) (hE15.row r1 fun h => h) ht5 (Vec.nil _ _) (fun c hc => by cases hc) hk
 refine jar e28 ?_
 have hf : jfQ op = none := by unfold jfQ; simp only [if_neg e0, if_neg e1, if_neg e2, if_neg e3, if_neg e4, if_neg e5, if_neg e6, if_neg e7, if_neg e8, if_neg e9, if_neg e10, if_neg e11, if_neg e12, if_neg e13, if_neg e14, if_neg e15, if_neg e16, if_neg e17, if_neg e18, if_neg e19, if_neg e20, if_neg e21, if_neg e22, if_neg e23, if_neg e24, if_neg e25, if_neg e26, if_neg e27, if_neg e28]
 refine ⟨(.nilFunc, ⟨none, 0, 0⟩, false, 0), fun w => by kernel_rfl, rfl, ?_⟩
 dsimp only
 refine jat r1 (by simp) fun H3 hU3 _ hr3 => jat hr3 (by simp) fun H4 hU4 _ hr4 => jat hr4 (by simp) fun H5 hU5 _ hr5 => jat hr5 (by simp) fun H6 hU6 _ hr6 => ?_
 have hr6 : Row H6 b1 jcS [.nilFunc, .slice none 0 0, .bool false, .int .i64 0] := hr6
 refine ⟨(.nilFunc, ⟨none, 0, 0⟩, false, 0), hr6.rd_all, hk _ H6 (hE1.trans (((hU3.trans hU4 fun _ _ e => e).trans hU5 fun _ _ e => e).trans hU6 fun _ _ e => e) fun x hx e => by omega) ?_⟩
 unfold jg3; rw [hf]
theorem jlY {b : Nat} {T : TypeId} {u v : Value} {vs : List Value} {k : jaa → Prop} (h : Row H b T (u :: vs)) (hone : v.oneCell' = true := by rfl) (hk : ∀ H', Upd (· = b) H H' → Row H' b T (v :: vs) → k H') : StV ⟨b, 0, none⟩ v H k :=
 ⟨hone, jat h (by simp) fun H' hU _ hr => hk H' hU hr⟩
theorem jk1 {fv : Value} {args : List Value} {r : RTy} {k : r.den → jaa → Prop} (h : jky Pg fv args r H k) : jky Pg fv args r H k := h
theorem jn9 : ∀ {l : List Nd}, (∀ n ∈ l, okN n) → okL l
 | [], _ => trivial
 | n :: ns, h => ⟨h n (by simp), jn9 fun m hm => h m (by simp [hm])⟩
theorem jgO {W : List Txt} {l : List Nd} (hl : W.length ≤ l.length) : ((l.take W.length).map Nd.tx = W) ↔ ∀ i, i < W.length → (l[i]?.map Nd.tx) = W[i]? := by
 constructor
 ·intro h i hi
  have := congrArg (fun x => x[i]?) h
  simp only [List.getElem?_map, List.getElem?_take, if_pos hi] at this
  exact this
 ·intro h
  apply List.ext_getElem?
  intro i
  rw [List.getElem?_map, List.getElem?_take]
  by_cases hi : i < W.length
  ·rw [if_pos hi]; exact h i hi
  ·rw [if_neg hi, List.getElem?_eq_none (by omega)]; rfl
theorem jlg {op nm : Int} {tx : Txt} {l : List Nd} {c : Nat} {L : Sl} (na : NA lo H op tx nm l c L) (hl : okL l) (h2 : op = 2 → 4 ≤ l.length) (h4 : op = 4 → 1 ≤ l.length) {k : Bool → jaa → Prop} (hk : ∀ H', Ext H H' → k (jk3 op l) H') :
 CallT Pg fQci [.pointer (some (adr c))] (.one (.c .bool)) H k := by
 refine cQb8 _ ?_
 unfold vQb8
 simp only [NilCk_some, adr_add]
 refine jag na.c0 ?_
 refine Jn.mk (fun r H1 => ∃ W : List Txt, Ext H H1 ∧ Vec H1 jcC r (W.map jbA) ∧ W.length ≤ l.length ∧ W.length ≤ 4 ∧ jk3 op l = decide ((l.take W.length).map Nd.tx = W)) (fun kk hkk => ?_) ?_
 ·simp only [Jn]
  by_cases e : op = 2
  ·refine jap e (jak (vs := clauseW.map jbA) fun b1 H1 hb1 hE1 _ hr1 => hkk _ _ ⟨clauseW, hE1, jeV hr1 rfl, h2 e, by decide, ?_⟩)
   unfold jk3
   rw [if_pos e, Bool.eq_iff_iff]; simp [clauseW]
  refine jar e ?_
  by_cases e4 : op = 4
  ·refine jap e4 (jak (vs := [[102, 117, 110, 99]].map jbA) fun b1 H1 hb1 hE1 _ hr1 => hkk _ _ ⟨[[102, 117, 110, 99]], hE1, jeV hr1 rfl, h4 e4, by decide, ?_⟩)
   unfold jk3
   rw [if_neg e, if_pos e4, Bool.eq_iff_iff]; simp
  ·refine jar e4 (hkk _ _ ⟨[], .refl _ _, Vec.nil _ _, Nat.zero_le _, Nat.zero_le _, ?_⟩)
   unfold jk3
   rw [if_neg e, if_neg e4]; simp
 ·rintro r H1 ⟨W, hE1, hv, hlen, hW4, hcls⟩
  have na1 := na.upd (EL hE1)
  have hrl : r.len = W.length := by rw [hv.len, List.length_map]
  rw [hcls] at hk
  refine LoopT.ghost (fun m (i : Int) H' => H' = H1 ∧ ∃ j : Nat, i = j ∧ j + m = W.length ∧ ∀ x, x < j → (l[x]?.map Nd.tx) = W[x]?) W.length ⟨rfl, 0, rfl, by omega, fun x hx => by omega⟩ ?_
  rintro next m i H2 ⟨rfl, j, rfl, hj, hall⟩ hnext
  cases m with
  | zero =>
    refine jcD (by rw [hrl]; omega) ?_
    rw [decide_eq_true ((jgO hlen).2 fun i hi => hall i (by omega))] at hk
    exact hk _ hE1
  | succ m =>
    have hjW : j < W.length := by omega
    have hjl : j < l.length := by omega
    have hget : l[j]? = some l[j] := List.getElem?_eq_getElem hjl
    have hgW : W[j]? = some W[j] := List.getElem?_eq_getElem hjW
    obtain ⟨ad, qx, ix, hlt, hcc, hlx⟩ := na1.ix j _ hget
    obtain ⟨op2, tx2, nm2, l2, a2, c2, L2, he, rfl, na2⟩ := hlx.some' (jba hl _ (jbt hget))
    refine jbb (by rw [hrl]; omega) (jcy hv (by omega) (by simp; omega) fun ad2 hc2 _ => ?_)
    have hc2 : hcell H2 ad2 = some (jbA W[j]) := hc2.trans (by simp [hgW])
    refine jam hc2 (jao na1.c3 (ix rfl (jaG hcc ?_)))
    simp only [Option.map_some, NilCk_some, adr_add]
    refine jam na2.c1 ?_
    rw [jcq]
    refine Br.mk (fun e => ?_) fun e => ?_
    ·have hne : tx2 ≠ W[j] := by simpa using e
     rw [decide_eq_false fun h => hne (by have := (jgO hlen).1 h j hjW; rw [hget, hgW, he] at this; simpa [Nd.tx] using this)] at hk
     exact hk _ hE1
    ·have heq : tx2 = W[j] := by simpa using e
     refine Lt.mk (u := ((j + 1 : Nat) : Int)) (by rw [jac] <;> omega) (hnext m _ _ (by omega) ⟨rfl, j + 1, by omega, by omega, fun x hx => ?_⟩)
     rcases Nat.lt_or_ge x j with h | h
     ·exact hall x h
     ·have : x = j := by omega
      subst this
      rw [hget, hgW, he]; simp [Nd.tx, heq]
mutual
def jn1 : Nd → Prop
 | .nil => True
 | .mk _ tx _ l _ => tx.length ≤ 2 ^ 40 ∧ l.length ≤ 2 ^ 40 ∧ txtL l
def txtL : List Nd → Prop
 | [] => True
 | n :: ns => jn1 n ∧ txtL ns
end
theorem jhT : ∀ {l : List Nd}, txtL l → ∀ n ∈ l, jn1 n
 | [], _, n, hn => by cases hn
 | m :: ms, h, n, hn => by
   rcases List.mem_cons.1 hn with rfl | hn
   ·exact h.1
   ·exact jhT h.2 n hn
theorem jkB (sl : List Int) : (sl.headD 8) = (sl[0]?).getD 8 := by cases sl <;> rfl
theorem jll {bl left : Int} {sl : List Int} {n : Nd} {ns : List Nd} : jgS bl left sl (n :: ns) = match jiW bl left n with
 | none => none
 | some lf => if jbR n.op (sl.headD 8) then jgS bl lf (if sl.length ≤ 1 then sl else sl.tail) ns else none := by rw [jgS]; cases jiW bl left n <;> rfl
theorem jjL {op : Int} {k : Nat} {sl : List Int} {more : Bool} {m : Nat} (h : jfQ op = some (k, sl, more, m)) : (∀ s ∈ sl, 0 ≤ s ∧ s ≤ 8) ∧ (more = true → sl ≠ []) ∧ m ≤ 5 ∧ sl.length ≤ 5 ∧ (op = 2 → 4 ≤ m) ∧ (op = 4 → 1 ≤ m) := by
 unfold jfQ at h
 by_cases e : op = 1
 ·rw [if_pos e] at h; cases h; exact ⟨by decide, by decide, by decide, by decide, fun g => by omega, fun g => by omega⟩
 rw [if_neg e] at h; clear e
 by_cases e : op = 2
 ·rw [if_pos e] at h; cases h; exact ⟨by decide, by decide, by decide, by decide, fun g => by omega, fun g => by omega⟩
 rw [if_neg e] at h; clear e
 by_cases e : op = 3
 ·rw [if_pos e] at h; cases h; exact ⟨by decide, by decide, by decide, by decide, fun g => by omega, fun g => by omega⟩
 rw [if_neg e] at h; clear e
 by_cases e : op = 4
 ·rw [if_pos e] at h; cases h; exact ⟨by decide, by decide, by decide, by decide, fun g => by omega, fun g => by omega⟩
 rw [if_neg e] at h; clear e
 by_cases e : op = 5
 ·rw [if_pos e] at h; cases h; exact ⟨by decide, by decide, by decide, by decide, fun g => by omega, fun g => by omega⟩
 rw [if_neg e] at h; clear e
 by_cases e : op = 10
 ·rw [if_pos e] at h; cases h; exact ⟨by decide, by decide, by decide, by decide, fun g => by omega, fun g => by omega⟩
 rw [if_neg e] at h; clear e
 by_cases e : op = 11
 ·rw [if_pos e] at h; cases h; exact ⟨by decide, by decide, by decide, by decide, fun g => by omega, fun g => by omega⟩
 rw [if_neg e] at h; clear e
 by_cases e : op = 12
 ·rw [if_pos e] at h; cases h; exact ⟨by decide, by decide, by decide, by decide, fun g => by omega, fun g => by omega⟩
 rw [if_neg e] at h; clear e
 by_cases e : op = 13
 ·rw [if_pos e] at h; cases h; exact ⟨by decide, by decide, by decide, by decide, fun g => by omega, fun g => by omega⟩
 rw [if_neg e] at h; clear e
 by_cases e : op = 14
 ·rw [if_pos e] at h; cases h; exact ⟨by decide, by decide, by decide, by decide, fun g => by omega, fun g => by omega⟩
 rw [if_neg e] at h; clear e
 by_cases e : op = 15
 ·rw [if_pos e] at h; cases h; exact ⟨by decide, by decide, by decide, by decide, fun g => by omega, fun g => by omega⟩
 rw [if_neg e] at h; clear e
 by_cases e : op = 16
 ·rw [if_pos e] at h; cases h; exact ⟨by decide, by decide, by decide, by decide, fun g => by omega, fun g => by omega⟩
 rw [if_neg e] at h; clear e
 by_cases e : op = 17
 ·rw [if_pos e] at h; cases h; exact ⟨by decide, by decide, by decide, by decide, fun g => by omega, fun g => by omega⟩
 rw [if_neg e] at h; clear e
 by_cases e : op = 18
 ·rw [if_pos e] at h; cases h; exact ⟨by decide, by decide, by decide, by decide, fun g => by omega, fun g => by omega⟩
 rw [if_neg e] at h; clear e
 by_cases e : op = 19
 ·rw [if_pos e] at h; cases h; exact ⟨by decide, by decide, by decide, by decide, fun g => by omega, fun g => by omega⟩
 rw [if_neg e] at h; clear e
 by_cases e : op = 20
 ·rw [if_pos e] at h; cases h; exact ⟨by decide, by decide, by decide, by decide, fun g => by omega, fun g => by omega⟩
 rw [if_neg e] at h; clear e
 by_cases e : op = 21
 ·rw [if_pos e] at h; cases h; exact ⟨by decide, by decide, by decide, by decide, fun g => by omega, fun g => by omega⟩
 rw [if_neg e] at h; clear e
 by_cases e : op = 22
 ·rw [if_pos e] at h; cases h; exact ⟨by decide, by decide, by decide, by decide, fun g => by omega, fun g => by omega⟩
 rw [if_neg e] at h; clear e
 by_cases e : op = 23
 ·rw [if_pos e] at h; cases h; exact ⟨by decide, by decide, by decide, by decide, fun g => by omega, fun g => by omega⟩
 rw [if_neg e] at h; clear e
 by_cases e : op = 24
 ·rw [if_pos e] at h; cases h; exact ⟨by decide, by decide, by decide, by decide, fun g => by omega, fun g => by omega⟩
 rw [if_neg e] at h; clear e
 by_cases e : op = 30
 ·rw [if_pos e] at h; cases h; exact ⟨by decide, by decide, by decide, by decide, fun g => by omega, fun g => by omega⟩
 rw [if_neg e] at h; clear e
 by_cases e : op = 31
 ·rw [if_pos e] at h; cases h; exact ⟨by decide, by decide, by decide, by decide, fun g => by omega, fun g => by omega⟩
 rw [if_neg e] at h; clear e
 by_cases e : op = 32
 ·rw [if_pos e] at h; cases h; exact ⟨by decide, by decide, by decide, by decide, fun g => by omega, fun g => by omega⟩
 rw [if_neg e] at h; clear e
 by_cases e : op = 33
 ·rw [if_pos e] at h; cases h; exact ⟨by decide, by decide, by decide, by decide, fun g => by omega, fun g => by omega⟩
 rw [if_neg e] at h; clear e
 by_cases e : op = 34
 ·rw [if_pos e] at h; cases h; exact ⟨by decide, by decide, by decide, by decide, fun g => by omega, fun g => by omega⟩
 rw [if_neg e] at h; clear e
 by_cases e : op = 35
 ·rw [if_pos e] at h; cases h; exact ⟨by decide, by decide, by decide, by decide, fun g => by omega, fun g => by omega⟩
 rw [if_neg e] at h; clear e
 by_cases e : op = 36
 ·rw [if_pos e] at h; cases h; exact ⟨by decide, by decide, by decide, by decide, fun g => by omega, fun g => by omega⟩
 rw [if_neg e] at h; clear e
 by_cases e : op = 37
 ·rw [if_pos e] at h; cases h; exact ⟨by decide, by decide, by decide, by decide, fun g => by omega, fun g => by omega⟩
 rw [if_neg e] at h; clear e
 by_cases e : op = 38
 ·rw [if_pos e] at h; cases h; exact ⟨by decide, by decide, by decide, by decide, fun g => by omega, fun g => by omega⟩
 rw [if_neg e] at h; clear e
 cases h
theorem jlG {sl : List Int} (j : Nat) : (if (sl.drop (min j (sl.length - 1))).length ≤ 1 then sl.drop (min j (sl.length - 1)) else (sl.drop (min j (sl.length - 1))).tail) = sl.drop (min (j + 1) (sl.length - 1)) := by
 rw [List.length_drop]
 by_cases h : sl.length - 1 ≤ j
 ·rw [Nat.min_eq_right h, Nat.min_eq_right (by omega : sl.length - 1 ≤ j + 1), if_pos (by omega)]
 ·rw [Nat.min_eq_left (by omega), Nat.min_eq_left (by omega : j + 1 ≤ sl.length - 1), if_neg (by omega), List.tail_drop]
theorem s_fits : ∀ (m : Nat) {n : Nd} {q : Option Nat} {H : jaa} {bl left : Int} {lb : Nat}, cnt n ≤ m → LN lo H n q → jn1 n → 8 ≤ lo → lo ≤ H.size → TabH H → lo ≤ lb → Row H lb jdz [.int .i64 left] → 0 ≤ left ∧ left ≤ 100000 → 0 ≤ bl ∧ bl ≤ 100 →
 ∀ {k : Bool → jaa → Prop}, (∀ H', Upd (· = lb) H H' → jiW bl left n = none → k false H') → (∀ H' lf, Upd (· = lb) H H' → jiW bl left n = some lf → Row H' lb jdz [.int .i64 lf] → k true H') →
 CallT Pg fQcc [pN q, .int .i64 bl, .pointer (some (adr lb))] (.one (.c .bool)) H k := by
 have up : ∀ {lb : Nat} {H H' : jaa}, lo ≤ lb → Upd (· = lb) H H' → Upd (lo ≤ ·) H H' := fun hl h => h.mono fun x _ e => by omega
 intro m
 induction m with
 | zero =>
   intro n q H bl left lb hm hq htx h8 hlo ht hlb hr hl hbl k hk0 hk1
   cases n with
   | mk op tx nm l a => simp [cnt] at hm
   | nil =>
     obtain ⟨fp, h1, h2⟩ := hq.ex
     obtain ⟨rfl, _⟩ := h1
     refine cQb3 _ _ _ ?_
     unfold vQb3
     simp only [NilCk_some]
     refine jag ((hr.cell 0).trans rfl) (Lt.mk (u := left - 1) (by rw [jac] <;> omega) (jat hr (by simp) fun H1 hU1 _ hr1 => ?_))
     refine Jn.mk (fun j H' => H1 = H' ∧ j = true) (fun kk hkk => (Br_true _ _).2 (hkk _ _ ⟨rfl, rfl⟩)) ?_
     rintro _ _ ⟨rfl, rfl⟩
     exact (Br_true _ _).2 (hk0 _ hU1 (by simp [jiW]))
 | succ m ih =>
   intro n q H bl left lb hm hq htx h8 hlo ht hlb hr hl hbl k hk0 hk1
   cases n with
   | nil =>
     obtain ⟨fp, h1, h2⟩ := hq.ex
     obtain ⟨rfl, _⟩ := h1
     refine cQb3 _ _ _ ?_
     unfold vQb3
     simp only [NilCk_some]
     refine jag ((hr.cell 0).trans rfl) (Lt.mk (u := left - 1) (by rw [jac] <;> omega) (jat hr (by simp) fun H1 hU1 _ hr1 => ?_))
     refine Jn.mk (fun j H' => H1 = H' ∧ j = true) (fun kk hkk => (Br_true _ _).2 (hkk _ _ ⟨rfl, rfl⟩)) ?_
     rintro _ _ ⟨rfl, rfl⟩
     exact (Br_true _ _).2 (hk0 _ hU1 (by simp [jiW]))
   | mk op tx nm l a =>
   obtain ⟨c, L, rfl, na⟩ := hq.na
   have hcn : cnt (.mk op tx nm l a) = 1 + jbB l := by simp [cnt]
   refine cQb3 _ _ _ ?_
   unfold vQb3
   simp only [Option.map_some, NilCk_some, adr_add]
   have hcl := na.lt
   refine jag ((hr.cell 0).trans rfl) (Lt.mk (u := left - 1) (by rw [jac] <;> omega) (jat hr (by simp) fun H1 hU1 _ hr1 => ?_))
   have hL1 := hU1
   have hr1 : Row H1 lb jdz [.int .i64 (left - 1)] := hr1
   have n1 := na.upd (up hlb hL1)
   have hfit : jiW bl left (.mk op tx nm l a) = (if left - 1 < 0 ∨ (op = 30 ∧ nm < 0) then none else
    match jfQ op with
    | none => none
    | some (k, sl, more, m) =>
      if (if op = 5 then bl + 1 else bl) > 20 ∨ jbf k tx = false ∨ l.length < m ∨ (sl.length < l.length ∧ more = false) then none else
      match jgS (if op = 5 then bl + 1 else bl) (left - 1) sl l with
      | none => none
      | some lf => if jk3 op l then some lf else none) := by
    rw [jiW]
    by_cases h0 : left - 1 < 0 ∨ (op = 30 ∧ nm < 0)
    ·rw [if_pos h0, if_pos h0]
    ·rw [if_neg h0, if_neg h0]
     cases jfQ op with
     | none => rfl
     | some z =>
       obtain ⟨k', sl, more, m'⟩ := z
       dsimp only
       by_cases h5 : op = 5
       ·simp only [if_pos h5]
        split
        ·rfl
        ·cases jgS (bl + 1) (left - 1) sl l <;> rfl
       ·simp only [if_neg h5]
        split
        ·rfl
        ·cases jgS bl (left - 1) sl l <;> rfl
   refine Jn.mk (fun j H' => H1 = H' ∧ j = decide (left - 1 < 0 ∨ (op = 30 ∧ nm < 0))) (fun kk hkk => ?_) ?_
   ·refine (Br_false _ _).2 (jag ((hr1.cell 0).trans rfl) (jaj (fun h => hkk _ _ ⟨rfl, (decide_eq_true (.inl h)).symm⟩) fun h => jag n1.c0 ?_))
    by_cases e : op = 30
    ·exact jap e (jag n1.c2 (hkk _ _ ⟨rfl, decide_eq_decide.2 ⟨fun g => .inr ⟨e, g⟩, fun g => g.elim (fun g => absurd g h) fun g => g.2⟩⟩))
    ·exact jar e (hkk _ _ ⟨rfl, (decide_eq_false fun g => g.elim h fun g => e g.1).symm⟩)
   rintro _ _ ⟨rfl, rfl⟩
   refine jaj (fun h0 => ?_) fun h0 => ?_
   ·rw [if_pos h0] at hfit
    exact hk0 _ hL1 hfit
   rw [if_neg h0] at hfit
   refine jag n1.c0 ?_
   generalize hb5 : (if op = 5 then bl + 1 else bl) = b5 at hfit
   refine Jn.mk (fun j H' => H1 = H' ∧ j = b5) (fun kk hkk => ?_) ?_
   ·by_cases e : op = 5
    ·rw [if_pos e] at hb5
     exact jap e (Lt.mk (u := b5) (by rw [jac] <;> omega) (hkk _ _ ⟨rfl, rfl⟩))
    ·rw [if_neg e] at hb5
     exact jar e (hkk _ _ ⟨rfl, hb5⟩)
   rintro j5 _ ⟨rfl, hj5⟩
   rw [hj5]
   have hb5r : 0 ≤ b5 ∧ b5 ≤ 101 := by split at hb5 <;> omega
   refine jag n1.c0 (jnn fun r H4 hE4 hF => ?_)
   refine jak (vs := [.nilFunc, .slice none 0 0, .bool false, .int .i64 0]) fun b1 H5 hb1 hE5 _ hr5 => ?_
   unfold jg3 at hF
   have hs4 := hE4.size
   have hs1 := hL1.size
   cases hfo : jfQ op with
   | none =>
     rw [hfo] at hF hfit
     dsimp only at hF hfit
     -- no form
     subst hF
     dsimp only
     refine jlY (hone := rfl) hr5 fun H6 hU6 r6 => ?_
     refine jat r6 (by simp) fun H7 hU7 _ r7 => jat r7 (by simp) fun H8 hU8 _ r8 => jat r8 (by simp) fun H9 hU9 _ r9 => ?_
     have hL9 : Upd (· = lb) H H9 := upE (upE hL1 hE4) (jel hE5 (by omega) (((hU6.trans hU7 fun _ _ e => e).trans hU8 fun _ _ e => e).trans hU9 fun _ _ e => e))
     refine Jn.mk (fun j H' => H9 = H' ∧ j = true) (fun kk hkk => (Br_true _ _).2 (hkk _ _ ⟨rfl, rfl⟩)) ?_
     rintro _ _ ⟨rfl, rfl⟩
     exact (Br_true _ _).2 (hk0 _ hL9 hfit)
   | some z =>
     obtain ⟨kd, sl, more, m'⟩ := z
     rw [hfo] at hF hfit
     dsimp only at hF hfit
     obtain ⟨hsr, hme, hm5, hsl5, hm2, hm4⟩ := jjL hfo
     obtain ⟨⟨fv, sL, mo, so⟩, ok⟩ := r
     obtain ⟨f1, f2, ⟨tb, f3⟩, f4, f5, f6, f7⟩ := hF
     dsimp only at f1 f2 f3 f4 f5 f6 f7
     subst f1 f6 f7
     dsimp only
     refine jlY (hone := f2) hr5 fun H6 hU6 r6 => ?_
     refine jat r6 (by simp) fun H7 hU7 _ r7 => jat r7 (by simp) fun H8 hU8 _ r8 => jat r8 (by simp) fun H9 hU9 _ r9 => ?_
     have r9 : Row H9 b1 jcS [fv, slV sL, .bool mo, .int .i64 (m' : Nat)] := r9
     have hUb : Upd (· = b1) H5 H9 := ((hU6.trans hU7 fun _ _ e => e).trans hU8 fun _ _ e => e).trans hU9 fun _ _ e => e
     have hE49 : Ext H4 H9 := jel hE5 (by omega) hUb
     have hL9 : Upd (· = lb) H H9 := upE (upE hL1 hE4) hE49
     have n9 := na.upd (up hlb hL9)
     have hsL := f4.upd hE49 fun _ _ h => h
     have hlbr : Row H9 lb jdz [.int .i64 (left - 1)] := hE49.row (hE4.row hr1 fun h => h) fun h => h
     have ht9 : TabH H9 := ht.nb hL9 (by show ¬ 0 = lb; omega)
     have hs9 := hL9.size
     -- the guard
     refine Jn.mk (fun j H' => Ext H9 H' ∧ j = decide (b5 > 20 ∨ jbf kd tx = false ∨ l.length < m' ∨ (sl.length < l.length ∧ mo = false))) (fun kk hkk => ?_) ?_
     ·refine (Br_false _ _).2 (jaj (fun h => hkk _ _ ⟨.refl _ _, (decide_eq_true (.inl h)).symm⟩) fun h => ?_)
      refine Ld.mk (c := .raw) fv ((r9.cell 0).trans rfl) (jam n9.c1 (jk1 (f3.ext hE49 (.refl _ _) ht9 htx.1 fun H10 hE10 => ?_)))
      have r10 := hE10.row r9 fun h => h
      have n10 := n9.upd (EL hE10)
      refine Br.mk (fun e => hkk _ _ ⟨hE10, ?_⟩) fun e => ?_
      ·have e : jbf kd tx = false := by simpa using e
       exact (decide_eq_true (.inr (.inl e))).symm
      have e : jbf kd tx = true := by simpa using e
      refine jao n10.c3 (jag ((r10.cell 3).trans rfl) (jaj (fun h3 => hkk _ _ ⟨hE10, (decide_eq_true (.inr (.inr (.inl (by rw [na.len] at h3; omega))))).symm⟩) fun h3 => ?_))
      rw [na.len] at h3
      refine jao n10.c3 (jao ((r10.cell 1).trans rfl) ?_)
      have hsLl : sL.len = sl.length := by rw [f4.len]; simp
      rw [na.len, hsLl]
      refine jaj (fun h4 => Ld_bool ((r10.cell 2).trans rfl) (hkk _ _ ⟨hE10, ?_⟩)) fun h4 => hkk _ _ ⟨hE10, ?_⟩
      ·rw [Bool.eq_iff_iff, decide_eq_true_eq, Bool.not_eq_true']
       exact ⟨fun g => .inr (.inr (.inr ⟨by omega, g⟩)), fun g => by
        rcases g with g | g | g | g
        ·exact absurd g h
        ·rw [e] at g; cases g
        ·omega
        ·exact g.2⟩
      ·symm; rw [decide_eq_false_iff_not]
       intro g; rcases g with g | g | g | g
       ·exact h g
       ·rw [e] at g; cases g
       ·omega
       ·omega
     rintro _ H10 ⟨hE10, rfl⟩
     have hL10 := upE hL9 hE10
     refine jaj (fun hg => ?_) fun hg => ?_
     ·rw [if_pos hg] at hfit
      exact hk0 _ hL10 hfit
     rw [if_neg hg] at hfit
     have n10 := na.upd (up hlb hL10)
     have hg1 : ¬ b5 > 20 := fun e => hg (.inl e)
     have hg3 : m' ≤ l.length := Nat.le_of_not_lt fun e => hg (.inr (.inr (.inl e)))
     have hg4 : l.length ≤ sl.length ∨ mo = true := by
      by_cases e : mo = true
      ·exact .inr e
      ·left; exact Nat.le_of_not_lt fun g => hg (.inr (.inr (.inr ⟨g, by simpa using e⟩)))
     refine jao n10.c3 ?_
     have hs10 := hL10.size
     have hb1lt : lo ≤ b1 := by omega
     have hl40 := htx.2.1
     -- the children
     refine LoopT.ghost (fun r (i : Int) H' => ∃ (j : Nat) (lf : Int), i = (j : Nat) ∧ j + r = l.length ∧ Upd (· = lb) H H' ∧ Row H' lb jdz [.int .i64 lf] ∧ Row H' b1 jcS [fv, slV sL, .bool mo, .int .i64 (m' : Nat)] ∧ Vec H' jdz sL (jfn sl) ∧ (0 ≤ lf ∧ lf ≤ 100000) ∧ (∀ n ∈ l.take j, okN n) ∧ jgS b5 (left - 1) sl l = jgS b5 lf (sl.drop (min j (sl.length - 1))) (l.drop j)) l.length
      ⟨0, left - 1, rfl, by omega, hL10, hE10.row hlbr fun h => h, hE10.row r9 fun h => h, hsL.upd hE10 fun _ _ h => h, by omega, fun n hn => (by simp at hn), by simp⟩ ?_
     rintro next r i H11 ⟨j, lf, rfl, hj, hL11, q11, r11, v11, hlf, hok, heq⟩ hnext
     have n11 := na.upd (up hlb hL11)
     have hs11 := hL11.size
     cases r with
     | zero =>
       have hjl : j = l.length := by omega
       subst hjl
       rw [List.take_length] at hok
       have hokL : okL l := jn9 hok
       have : jgS b5 (left - 1) sl l = some lf := by rw [heq, List.drop_length, jgS]
       rw [this] at hfit
       dsimp only at hfit
       refine jcD (by rw [na.len]; omega) (jlg n11 hokL (fun e => by have := hm2 e; omega) (fun e => by have := hm4 e; omega) fun H12 hE12 => ?_)
       cases hc : jk3 op l with
       | true => rw [hc, if_pos rfl] at hfit; exact hk1 _ lf (upE hL11 hE12) hfit (hE12.row q11 fun h => h)
       | false => rw [hc] at hfit; exact hk0 _ (upE hL11 hE12) hfit
     | succ r =>
       have hjl : j < l.length := by omega
       have hget : l[j]? = some l[j] := List.getElem?_eq_getElem hjl
       have hdrop : l.drop j = l[j] :: l.drop (j + 1) := List.drop_eq_getElem_cons hjl
       have htake : l.take (j + 1) = l.take j ++ [l[j]] := by rw [List.take_add_one, hget]; rfl
       generalize l[j] = v at hget hdrop htake
       have hmem := jbt hget
       have hvc := jbV hmem
       obtain ⟨ad, qx, ix, hlt, hcc, hlx⟩ := n11.ix j v hget
       refine jbb (by rw [na.len]; omega) (ix rfl (jaG hcc ?_))
       rw [hdrop, jll] at heq
       have hsl0 : 1 ≤ sl.length := by
        rcases hg4 with g | g
        ·omega
        ·have := hme g
         cases sl with
         | nil => exact absurd rfl this
         | cons => simp
       refine Jn.mk (fun y H' => (y = true ∧ Upd (· = lb) H H' ∧ jgS b5 (left - 1) sl l = none) ∨ (y = false ∧ ∃ lf2, Upd (· = lb) H H' ∧ Row H' lb jdz [.int .i64 lf2] ∧ Row H' b1 jcS [fv, slV sL, .bool mo, .int .i64 (m' : Nat)] ∧ Vec H' jdz sL (jfn sl) ∧ (0 ≤ lf2 ∧ lf2 ≤ 100000) ∧ okN v ∧ jgS b5 (left - 1) sl l = jgS b5 lf2 (sl.drop (min (j + 1) (sl.length - 1))) (l.drop (j + 1)))) (fun kk hkk => ?_) ?_
       ·have hbne : b1 ≠ lb := by have := q11.lt; have := hr.lt; omega
        have hvne : ∀ c, sL.a = some (adr c) → c ≠ lb := fun c hc => by have := f5 c hc; have := hr1.lt; omega
        refine ih (by omega) hlx (jhT htx.2.2 v hmem) h8 (by omega) (ht.nb hL11 (by show ¬ 0 = lb; omega)) hlb q11 hlf ⟨hb5r.1, by omega⟩ (fun H12 hU12 hno => ?_) fun H12 lf2 hU12 hfi q12 => ?_
        ·rw [hno] at heq
         exact (Br_true _ _).2 (hkk _ _ (.inl ⟨rfl, upU hL11 hU12, heq⟩))
        ·rw [hfi] at heq
         dsimp only at heq
         obtain ⟨okv, _, hlf2, _⟩ := jhw hfi
         have hlf3 : lf = lf2 + cnt v := (jhw hfi).2.1
         have hL12 := upU hL11 hU12
         obtain ⟨op2, tx2, nm2, l2, a2, c2, L2, rfl, rfl, na2⟩ := (hlx.upd (up hlb hU12)).some' okv
         have r12 := hU12.row r11 hbne
         have v12 := v11.upd hU12 hvne
         refine (Br_false _ _).2 ?_
         simp only [Option.map_some, NilCk_some, adr_add]
         have hsLl : sL.len = sl.length := by rw [f4.len]; simp
         refine jag na2.c0 (jao ((r12.cell 1).trans rfl) (jao ((r12.cell 1).trans rfl) (Lt.mk (u := ((sl.length - 1 : Nat) : Int)) (by rw [hsLl, jac] <;> omega) ?_)))
         have eidx : (if ((sl.length - 1 : Nat) : Int) < (j : Int) then ((sl.length - 1 : Nat) : Int) else (j : Int)) = ((min j (sl.length - 1) : Nat) : Int) := by split <;> omega
         rw [eidx]
         have hmin : min j (sl.length - 1) < sl.length := by omega
         refine jcy v12 (by omega) (by simp; omega) fun ad2 hc2 _ => ?_
         have hsort : sl[min j (sl.length - 1)]? = some sl[min j (sl.length - 1)] := List.getElem?_eq_getElem hmin
         have hhd : (sl.drop (min j (sl.length - 1))).headD 8 = sl[min j (sl.length - 1)] := by
          rw [jkB, List.getElem?_drop, Nat.add_zero, hsort]; rfl
         have hsrt := hsr _ (List.getElem_mem hmin)
         rw [hhd] at heq
         generalize sl[min j (sl.length - 1)] = sv at *
         have hc2 : hcell H12 ad2 = some (.int .i64 sv) := hc2.trans (by simp [hsort])
         refine jag hc2 (s_is hsrt (jgX ((r12.cell 1).trans rfl) ((r12.cell 1).trans rfl) ?_))
         cases hso : jbR op2 sv with
         | true =>
           have heq : jgS b5 (left - 1) sl l = if jbR op2 sv = true then jgS b5 lf2 (if (sl.drop (min j (sl.length - 1))).length ≤ 1 then sl.drop (min j (sl.length - 1)) else (sl.drop (min j (sl.length - 1))).tail) (l.drop (j + 1)) else none := heq
           rw [hso, if_pos rfl, jlG] at heq
           exact hkk _ _ (.inr ⟨rfl, lf2, hL12, q12, r12, v12, by omega, okv, heq⟩)
         | false =>
           have heq : jgS b5 (left - 1) sl l = if jbR op2 sv = true then jgS b5 lf2 (if (sl.drop (min j (sl.length - 1))).length ≤ 1 then sl.drop (min j (sl.length - 1)) else (sl.drop (min j (sl.length - 1))).tail) (l.drop (j + 1)) else none := heq
           rw [hso] at heq
           exact hkk _ _ (.inl ⟨rfl, hL12, heq⟩)
       ·rintro y H12 (⟨rfl, hL12, hno⟩ | ⟨rfl, lf2, hL12, q12, r12, v12, hlf2, hvok, heq2⟩)
        ·rw [hno] at hfit
         exact (Br_true _ _).2 (hk0 _ hL12 hfit)
        ·refine (Br_false _ _).2 (Lt.mk (u := ((j + 1 : Nat) : Int)) (by rw [jac] <;> omega) (hnext r _ _ (by omega) ⟨j + 1, lf2, rfl, by omega, hL12, q12, r12, v12, hlf2, fun n hn => ?_, heq2⟩))
         rw [htake] at hn
         rcases List.mem_append.1 hn with hn | hn
         ·exact hok n hn
         ·rw [List.mem_singleton.1 hn]; exact hvok
end
section
open Hc Hc.Lex Hc.Syn
variable {H : jaa}
structure GL (H : jaa) : Prop where
 ge : GE H.size H
 tab : TabH H
 pow : PowH H
theorem GL.ext {H' : jaa} (h : GL H) (hE : Ext H H') : GL H' := ⟨h.ge.up hE, h.tab.ext hE, h.pow.nb hE fun h => h⟩
theorem Tr_lt {n : Nd} {q : Option Nat} {fp : List Nat} (h : TrR jh8 jbl H n q fp) {H' : jaa} (hE : Ext H H') : LN H.size H' n q := ⟨fp, h.upd hE fun _ _ h => h, fun x hx => h.lt x hx⟩
theorem fit_cnt {n : Nd} {bl left lf : Int} (h : jiW bl left n = some lf) : (cnt n : Int) ≤ left := by
 obtain ⟨_, h1, h2, _⟩ := jhw h
 omega
theorem jkJ {l : List Nd} {i : Nat} {n : Nd} (h : l[i]? = some n) : (l.drop i).flatMap jbP = jbP n ++ (l.drop (i + 1)).flatMap jbP := by
 have hlt := (List.getElem?_eq_some_iff.1 h).1
 rw [List.drop_eq_getElem_cons hlt, show l[i] = n from (List.getElem?_eq_some_iff.1 h).2, List.flatMap_cons]
theorem jmm {f : Nd → Txt} : ∀ {l : List Nd}, (∀ n ∈ l, (f n).length ≤ 256 * cnt n) → (l.flatMap f).length ≤ 256 * jbB l := jgP
theorem s_Print (hg : GL H) {n : Nd} {q : Option Nat} {fp : List Nat} (hq : TrR jh8 jbl H n q fp) (htx : jn1 n) (hi : jgk n) {k : ByteArray → jaa → Prop} (hk : ∀ H', Ext H H' → k ⟨⟨jkf n⟩⟩ H') :
 CallT Pg fQca [pN q] (.one (.c .str)) H k := by
 refine cQb1 _ ?_
 unfold vQb1
 have h8 : 8 ≤ H.size := hg.ge.lt
 refine jak (vs := [.int .i64 0]) fun b1 H1 hb1 hE1 hs1 hr1 => jat hr1 (by simp) fun H2 hU2 _ hr2 => ?_
 have hE2 : Ext H H2 := jel hE1 (by omega) hU2
 have hs2 := hE2.size
 refine Jn.mk (fun j H' => Ext H H' ∧ j = !((jiW 0 100000 n).isSome && n.op == 1)) (fun kk hkk => ?_) ?_
 ·refine s_fits (lo := H.size) (cnt n) (Nat.le_refl _) (Tr_lt hq hE2) htx h8 (by omega) (hg.tab.ext hE2) (by omega) hr2 (by decide) (by decide) (fun H3 hU3 hf => (Br_true _ _).2 (hkk _ _ ⟨jel hE2 (by omega) hU3, by rw [hf]; rfl⟩)) fun H3 lf hU3 hf _ => ?_
  have hE3 : Ext H H3 := jel hE2 (by omega) hU3
  obtain ⟨op, tx, nm, l, a, c, L, rfl, rfl, na⟩ := (Tr_lt hq hE3).some' (jhw hf).1
  refine (Br_false _ _).2 ?_
  simp only [Option.map_some, NilCk_some]
  refine jag na.c0 (hkk _ _ ⟨hE3, ?_⟩)
  rw [hf]; rfl
 ·rintro j H3 ⟨hE3, rfl⟩
  unfold jkf at hk
  cases hp : (jiW 0 100000 n).isSome && n.op == 1 with
  | false =>
    rw [hp] at hk
    exact (Br_true _ _).2 (hk _ hE3)
  | true =>
    rw [hp, if_pos rfl] at hk
    refine (Br_false _ _).2 ?_
    rw [Bool.and_eq_true, beq_iff_eq, Option.isSome_iff_exists] at hp
    obtain ⟨⟨lf, hf⟩, hop⟩ := hp
    have hcnt := fit_cnt hf
    obtain ⟨hok, _, _, hdp⟩ := jhw hf
    refine jak (vs := [.pointer none, .slice none 0 0, .int .i64 0]) fun b2 H4 hb2 hE4 _ hr4 => ?_
    have hE34 := hE3.trans hE4 fun _ _ h => h
    have hs3 := hE3.size
    have hs4 := hE34.size
    obtain ⟨op, tx, nm, l, a, c, L, rfl, rfl, na⟩ := (Tr_lt hq hE34).some' hok
    have hop : op = 1 := hop
    subst hop
    obtain ⟨_, hall⟩ := ok1 hok
    have hcn : cnt (.mk 1 tx nm l a) = 1 + jbB l := by simp [cnt]
    have hle := jdL hok.2
    simp only [Option.map_some, NilCk_some, adr_add]
    have w0 : WR H.size H4 b2 [] 0 := ⟨⟨⟨.pointer none, ⟨none, 0, 0⟩, hr4, .inl rfl, Vec.nil _ _, (fun c hc => by cases hc), fun _ => rfl⟩, by omega⟩, h8, hs4, hg.pow.nb hE34 fun h => h⟩
    have hdl : dpL l ≤ 20 := by
     have := hdp (by decide)
     simp only [dpN] at this
     rw [if_neg (by decide)] at this; omega
    have hlen : ∀ v ∈ l, (jbP v).length ≤ 256 * cnt v := fun v hv => by
     refine jkW (hall v hv).1 (jbr hi.2 v hv) (hall v hv).2 ?_
     have : ∀ {l : List Nd} {v : Nd}, v ∈ l → dpN v ≤ dpL l := fun {l} => by
      induction l with
      | nil => intro v h; cases h
      | cons x xs ih =>
        intro v h
        rcases List.mem_cons.1 h with rfl | h
        ·simp only [dpL]; omega
        ·have := ih h; simp only [dpL]; omega
     have := this hv
     omega
    have htot := jmm hlen
    refine jao na.c3 ?_
    refine LoopT.ghost (fun r (i : Int) H' => ∃ (j : Nat) (pr : Txt), i = (j : Nat) ∧ j + r = l.length ∧ Upd (H.size ≤ ·) H4 H' ∧ WR H.size H' b2 pr 0 ∧ pr ++ (l.drop j).flatMap jbP = l.flatMap jbP) l.length
     ⟨0, [], rfl, by omega, .refl _ _, w0, by simp⟩ ?_
    rintro next r i H5 ⟨j, pr, rfl, hj, hU5, h5, heq⟩ hnext
    have n5 := na.upd hU5
    have hlq := congrArg List.length heq
    rw [List.length_append] at hlq
    have hE5 : Ext H H5 := hE34.trans hU5 fun x hx e => by omega
    cases r with
    | zero =>
      refine jcD (by rw [na.len]; omega) (jmi h5.w (by omega) fun H6 hU6 => ?_)
      have ed : l.drop j = [] := List.drop_eq_nil_of_le (by omega)
      rw [ed] at heq
      have et : pr = l.flatMap jbP := by simpa using heq
      rw [et]
      exact hk _ (hE5.trans hU6 fun x hx e => by omega)
    | succ r =>
      have hjl : j < l.length := by omega
      have hget : l[j]? = some l[j] := List.getElem?_eq_getElem hjl
      generalize l[j] = v at hget
      have hmem := jbt hget
      have hvc := jbV hmem
      obtain ⟨hvo, hvop⟩ := hall v hmem
      obtain ⟨ad, qx, ix, hlt, hcc, hlx⟩ := n5.ix j v hget
      rw [jkJ hget] at heq hlq
      rw [List.length_append] at hlq
      refine jbb (by rw [na.len]; omega) (ix rfl (jaG hcc ?_))
      refine w_thing (by omega) hvo (jbr hi.2 v hmem) hvop hlx h5 (by omega) fun H6 hU6 h6 => ?_
      refine Lt.mk (u := ((j + 1 : Nat) : Int)) (by rw [jac] <;> omega) (hnext r _ _ (by omega) ⟨j + 1, _, rfl, by omega, upL hU5 hU6, h6, ?_⟩)
      rw [← heq, List.append_assoc]
end
section
open Hc
theorem jgl {P : Program} {w : World} {n : String} {d : DataW Unit} : ∀ {l : List (String × DataW Unit)} {ps : List MemPlace}, DataW.LaidVars P w l ps → (n, d) ∈ l →
 ∃ g t cs fuel p, P.globalNamed n = some g ∧ (P.globals[g]?).map (·.type) = some t ∧ w.var? P n = some cs ∧ DataW.trod (fun _ => ()) P w 0 (fun _ => true) false fuel t cs.toList = some (d, p)
 | (m, e) :: r, ps, ⟨g, t, cs, fuel, p, q, h1, h2, h3, h4, h5, _⟩, h => by
   rcases List.mem_cons.1 h with h | h
   ·cases h; exact ⟨g, t, cs, fuel, p, h1, h2, h3, h4⟩
   ·exact jgl h5 h
theorem gErr : Tryz.prog.globalNamed "strconv.ErrRange" = some 3 := by kernel_rfl
theorem gErrT : (Tryz.prog.globals[3]?).map (·.type) = some 25 := by kernel_rfl
theorem gErrU : ∃ ms, Tryz.prog.underlying 25 = some (.interface ms) := ⟨_, Tryz.underlying25⟩
theorem gMax : ((begin Tryz.prog (fun _ _ => 0) default).world.heap[1]?).bind Obj.row? = some (#[.int .i64 0], 3) := by kernel_rfl
theorem gTop : ∃ z t, ((begin Tryz.prog (fun _ _ => 0) default).world.heap[8]?).bind Obj.row? = some (z, t) := ⟨#[.pointer none], 190, by kernel_rfl⟩
theorem ge_of {W : World} {laid : List (String × DataW Unit)} (hp : (laid.all fun x => x.2.handleName?.isNone) = true) (hm : ("strconv.ErrRange", Rows.laid_strconv_ErrRange) ∈ laid) (hl : laidMetH Tryz.prog laid W) (hs : W.ShapedOpen Tryz.prog) :
 GE W.heap.size W.heap := by
 rw [MakeChecks.laidMetH_plain _ _ _ hp] at hl
 obtain ⟨ps, hl, _⟩ := hl
 obtain ⟨g, t, cs, fuel, p, h1, h2, h3, h4⟩ := jgl hl hm
 obtain rfl := Option.some.inj (gErr.symm.trans h1)
 obtain rfl := Option.some.inj (gErrT.symm.trans h2)
 obtain ⟨ms, hu⟩ := gErrU
 obtain ⟨_, u, v, hc, _, _⟩ := iface_of_trod hu h4
 have hcell := World.var?_cell gErr h3 0
 have hcs : cs = #[.iface u v] := by apply Array.ext'; exact hc
 subst hcs
 obtain ⟨m, hm⟩ := cell_of_shapedOpen_int (g := 1) (k := .i64) hs (by decide +kernel) gMax rfl (by kernel_rfl) (by kernel_rfl) Tryz.underlying3
 refine ⟨?_, ⟨m, ?_⟩, ⟨.iface u v, ?_, .inr ⟨u, v, rfl⟩⟩⟩
 ·obtain ⟨z, t, hz⟩ := gTop
  obtain ⟨cs, hh, _⟩ := hs.1 8 z t (by decide +kernel) hz
  exact Nat.le_of_lt (jcQ hh)
 ·rw [← cell?_eq]; exact hm
 ·rw [← cell?_eq, hcell]; rfl
theorem jiu {P : Program} {t : TypeId} (hu : P.underlying t = some .string) {H : jaa} {v : Value} (h : RdV P H t v) : ∃ s : ByteArray, v = .string s ∧ s.size ≤ reachBytes := by
 obtain ⟨f, hc⟩ := rd_cell hu rfl h
 cases f with
 | zero => exact hc.elim
 | succ f =>
   simp only [RdC, hu] at hc
   obtain ⟨s, hs, hl⟩ := hc
   simp only [List.cons.injEq, and_true] at hs
   exact ⟨s, hs, hl⟩
theorem jny : (Rows.laid_strings_asciiSpace : DataW Unit) = Lib.tabData .u8 Lib.asciiSpaceTab := by kernel_rfl
theorem powTab : (Rows.laid_internal_strconv_uint64pow10 : DataW Unit) = Lib.tabData .u64 Lib.pow10Tab := by kernel_rfl
theorem gAsciiN : Tryz.prog.globalNamed "strings.asciiSpace" = some 0 := by kernel_rfl
theorem gAsciiT : (Tryz.prog.globals[0]?).map (·.type) = some 173 := by kernel_rfl
theorem gPowT : (Tryz.prog.globals[5]?).map (·.type) = some 218 := by kernel_rfl
theorem tab_of {W : World} {laid : List (String × DataW Unit)} (hp : (laid.all fun x => x.2.handleName?.isNone) = true) (hm : ("strings.asciiSpace", Rows.laid_strings_asciiSpace) ∈ laid) (hl : laidMetH Tryz.prog laid W) : TabH W.heap := by
 rw [MakeChecks.laidMetH_plain _ _ _ hp] at hl
 obtain ⟨ps, hl, _⟩ := hl
 obtain ⟨g, t, cs, fuel, p, h1, h2, h3, h4⟩ := jgl hl hm
 obtain rfl := Option.some.inj (gAsciiN.symm.trans h1)
 obtain rfl := Option.some.inj (gAsciiT.symm.trans h2)
 rw [jny] at h4
 have hcs := Lib.cells_of_tab Tryz.underlying173 Tryz.underlying5 (by kernel_rfl) (by kernel_rfl) h4
 unfold World.var? at h3
 rw [gAsciiN, Option.bind_some] at h3
 split at h3
 ·rename_i cs' ty fr hh
  cases h3
  exact ⟨ty, fr, by rw [hh, ← hcs]⟩
 ·cases h3
theorem pow_of {W : World} {laid : List (String × DataW Unit)} (hp : (laid.all fun x => x.2.handleName?.isNone) = true) (hm : ("internal/strconv.uint64pow10", Rows.laid_internal_strconv_uint64pow10) ∈ laid) (hl : laidMetH Tryz.prog laid W) : PowH W.heap := by
 rw [MakeChecks.laidMetH_plain _ _ _ hp] at hl
 obtain ⟨ps, hl, _⟩ := hl
 obtain ⟨g, t, cs, fuel, p, h1, h2, h3, h4⟩ := jgl hl hm
 obtain rfl := Option.some.inj (g5.symm.trans h1)
 obtain rfl := Option.some.inj (gPowT.symm.trans h2)
 rw [powTab] at h4
 have hcs := Lib.cells_of_tab Tryz.underlying218 Tryz.underlying132 (by kernel_rfl) (by kernel_rfl) h4
 unfold World.var? at h3
 rw [g5, Option.bind_some] at h3
 split at h3
 ·rename_i cs' ty fr hh
  cases h3
  exact ⟨ty, fr, by rw [hh, ← hcs]⟩
 ·cases h3
theorem gl_of {W : World} {laid : List (String × DataW Unit)} (hp : (laid.all fun x => x.2.handleName?.isNone) = true) (h1 : ("strconv.ErrRange", Rows.laid_strconv_ErrRange) ∈ laid) (h2 : ("strings.asciiSpace", Rows.laid_strings_asciiSpace) ∈ laid) (h3 : ("internal/strconv.uint64pow10", Rows.laid_internal_strconv_uint64pow10) ∈ laid) (hl : laidMetH Tryz.prog laid W) (hs : W.ShapedOpen Tryz.prog) : GL W.heap :=
 ⟨ge_of hp h1 hl hs, tab_of hp h2 hl, pow_of hp h3 hl⟩
end
end Go.Proofs.YtfpmgpblhhcpgaaGreatDoor
