/-
 The document's printer: expressions.
-/
import Derived.Test.YtfpmgpblhhcpgaaGreatDoorRC
import Derived.Test.YtfpmgpblhhcpgaaGreatDoorVRef
import Derived.Test.YtfpmgpblhhcpgaaGreatDoorHcPrnB
set_option linter.unusedVariables false
set_option linter.unusedSimpArgs false
namespace Go.Proofs.YtfpmgpblhhcpgaaGreatDoor
set_option maxRecDepth 100000
section
open Hc Hc.Lex Hc.Syn
variable {H : jaa}
def LD (H : jaa) (n : Nd) (q : Option Nat) : Prop := ∃ fp, TrR TD TQ H n q fp
theorem LD.ext {n : Nd} {q : Option Nat} {H' : jaa} (h : LD H n q) (hE : Ext H H') : LD H' n q := by
 obtain ⟨fp, h⟩ := h
 exact ⟨fp, h.upd hE fun _ _ h => h⟩
def LstP (H : jaa) (L : Sl) (l : List Nd) : Prop := L.len = l.length ∧ L.len ≤ L.cap ∧ (l = [] ∨ ∃ b o, L.a = some ⟨b, o, none⟩ ∧ ∀ (i : Nat) (n : Nd), l[i]? = some n → ∃ q : Option Nat, jar H ⟨b, o + i, none⟩ = some (.pointer (q.map adr)) ∧ LD H n q)
structure NDx (H : jaa) (op : Int) (tx : Txt) (nm : Int) (l : List Nd) (c : Nat) (L : Sl) : Prop where
 c0 : jar H (adr c) = some (.int .i64 op)
 c1 : jar H ⟨c, 1, none⟩ = some (jbG tx)
 c2 : jar H ⟨c, 2, none⟩ = some (.int .i64 nm)
 c3 : jar H ⟨c, 3, none⟩ = some (.slice L.a L.len L.cap)
 len : L.len = l.length
 lc : L.len ≤ L.cap
 kid : ∀ i n, l[i]? = some n → ∃ ad q, (∀ {k : Addr → Prop} {j : Int}, j = (i : Nat) → k ad → IxA 1 L j k) ∧ jar H ad = some (.pointer (q.map adr)) ∧ LD H n q
 pl : LstP H L l
theorem TrL.kidD : ∀ {ns : List Nd} {qs : List (Option Nat)} {fp : List Nat}, TrL TD TQ H ns qs fp → ∀ (i : Nat) (n : Nd), ns[i]? = some n → ∃ q, qs[i]? = some q ∧ LD H n q
 | [], _, _, _, i, n, hi => by simp at hi
 | m :: ns, _, _, ⟨q, qs', f1, f2, rfl, rfl, h1, h2⟩, i, n, hi => by
   cases i with
   | zero => simp at hi; subst hi; exact ⟨q, rfl, f1, h1⟩
   | succ i => obtain ⟨q', e, h⟩ := TrL.kidD h2 i n (by simpa using hi); exact ⟨q', by simpa using e, h⟩
theorem vec_kid {L : Sl} {qs : List (Option Nat)} {T : TypeId} (hv : Vec H T L (qs.map jcy)) {i : Nat} {q : Option Nat} (hq : qs[i]? = some q) : ∃ ad, (∀ {k : Addr → Prop} {j : Int}, j = (i : Nat) → k ad → IxA 1 L j k) ∧ jar H ad = some (.pointer (q.map adr)) := by
 have hi' : i < qs.length := (List.getElem?_eq_some_iff.1 hq).1
 obtain ⟨d, hd, hc⟩ := hv.cell (i := i) (by simpa using hi')
 have hlen := hv.len
 rw [List.length_map] at hlen
 refine ⟨⟨d, i, none⟩, fun {k j} hj hk => ?_, ?_⟩
 ·subst hj
  exact IxA.mk hd (by omega) (by omega) (by rw [adr_add]; simpa using hk)
 ·rw [hc]; simp [hq]
theorem LD.nd {op nm a : Int} {tx : Txt} {l : List Nd} {q : Option Nat} (h : LD H (.mk op tx nm l a) q) : ∃ c L, q = some c ∧ NDx H op tx nm l c L := by
 obtain ⟨fp, c, L, qs, fl, rfl, hr, hv, hl, rfl⟩ := h
 refine ⟨c, L, rfl, (hr.cell 0).trans rfl, (hr.cell 1).trans rfl, (hr.cell 2).trans rfl, (hr.cell 3).trans rfl, by rw [hv.len, List.length_map, hl.len], hv.lc, fun i n hi => ?_, by rw [hv.len, List.length_map, hl.len], hv.lc, ?_⟩
 ·obtain ⟨q, e, h⟩ := TrL.kidD hl i n hi
  obtain ⟨ad, h1, h2⟩ := vec_kid hv e
  exact ⟨ad, q, h1, h2, h⟩
 ·have hql := hl.len
  rcases hv.own with ⟨_, _, h3⟩ | ⟨b, sp, h1, h2, _⟩
  ·have : qs = [] := by simpa using h3
   subst this
   exact .inl (List.eq_nil_of_length_eq_zero hql.symm)
  ·refine .inr ⟨b, 0, h1, fun i n hi => ?_⟩
   obtain ⟨q, e, h⟩ := TrL.kidD hl i n hi
   have hi' : i < qs.length := (List.getElem?_eq_some_iff.1 e).1
   refine ⟨q, ?_, h⟩
   rw [Nat.zero_add, h2.cell, List.getElem?_append_left (by simpa using hi'), List.getElem?_map, e]; rfl
theorem LD.nil {q : Option Nat} (h : LD H .nil q) : q = none := by obtain ⟨_, h, _⟩ := h; exact h
theorem LD.some' {n : Nd} {q : Option Nat} (h : LD H n q) (hn : okN n) : ∃ op tx nm l a c L, n = .mk op tx nm l a ∧ q = some c ∧ NDx H op tx nm l c L := by
 obtain ⟨op, tx, nm, l, a, rfl⟩ := hn.op
 obtain ⟨c, L, rfl, g⟩ := h.nd
 exact ⟨op, tx, nm, l, a, c, L, rfl, rfl, g⟩
inductive StL (H : jaa) : List (Addr × Value) → Prop
 | nil : StL H []
 | cons {a : Addr} {v : Value} {l : List (Addr × Value)} : jar H a = some v → StL H l → StL H ((a, v) :: l)
theorem sn : StL H [] := .nil
theorem sc {a : Addr} {v : Value} {l : List (Addr × Value)} (h : jar H a = some v) (h2 : StL H l) : StL H ((a, v) :: l) := .cons h h2
theorem StL.all {l : List (Addr × Value)} (h : StL H l) : ∀ x ∈ l, jar H x.1 = some x.2 := by
 induction h with
 | nil => intro x hx; cases hx
 | cons h1 _ ih =>
   intro x hx
   rcases List.mem_cons.1 hx with rfl | hx
   ·exact h1
   ·exact ih x hx
theorem jaQ {H' : jaa} (hE : Ext H H') {l : List (Addr × Value)} (h : StL H l) {K : Prop} (hK : K) : Stab l H' K := jax (fun x hx => hE.cell (h.all x hx) fun h => h) hK
theorem cu {H' : jaa} (hE : Ext H H') {a : Addr} {v : Value} (h : jar H a = some v) : jar H' a = some v := hE.cell h fun h => h
theorem eE {H1 H2 : jaa} (h : Ext H H1) (h2 : Ext H1 H2) : Ext H H2 := h.trans h2 fun _ _ h => h
theorem s_in {s : Txt} {r : Sl} {l : List Txt} (hv : Vec H jcC r (l.map fun t => (Value.string ⟨⟨t⟩⟩))) (hl : l.length ≤ 1000) {k : Bool → jaa → Prop} (hk : k (l.contains s) H) : CallT Pg fQeh [.string ⟨⟨s⟩⟩, .slice r.a r.len r.cap] (.one (.c .bool)) H k := by
 refine cQdf _ _ ?_
 unfold vQdf
 have hlen : r.len = l.length := by rw [hv.len, List.length_map]
 refine LoopT.ghost (fun m st H' => ∃ j : Nat, H = H' ∧ st = (j : Nat) ∧ m = l.length - j ∧ j ≤ l.length ∧ (l.take j).contains s = false) l.length ⟨0, rfl, rfl, rfl, Nat.zero_le _, rfl⟩ ?_
 rintro next m _ _ ⟨j, rfl, rfl, rfl, hj, hno⟩ hnext
 refine jaj (fun hlt => ?_) fun hge => ?_
 ·have hj' : j < l.length := by omega
  refine jcc hv (by omega) (by rw [List.length_map]; omega) fun ad hc _ => ?_
  have hc : jar H ad = some (.string ⟨⟨l[j]⟩⟩) := hc.trans (by simp [List.getElem?_eq_getElem hj'])
  refine jap hc ?_
  rw [ja3]
  have htk : l.take (j + 1) = l.take j ++ [l[j]] := by rw [List.take_succ_eq_append_getElem hj']
  refine jaj (fun e => ?_) fun e => ?_
  ·have e : l[j] = s := e
   have : l.contains s = true := by rw [List.contains_iff_mem, ← e]; exact List.getElem_mem _
   exact this ▸ hk
  ·have e : ¬ l[j] = s := e
   refine Lt.mk (u := ((j + 1 : Nat) : Int)) (by rw [jac] <;> omega) (hnext (l.length - (j + 1)) _ _ (by omega) ⟨j + 1, rfl, rfl, rfl, by omega, ?_⟩)
   rw [← Bool.not_eq_true, List.contains_iff_mem] at hno ⊢
   rw [htk, List.mem_append, List.mem_singleton]
   rintro (g | g)
   ·exact hno g
   ·exact e g.symm
 ·have : l.contains s = false := by
   rw [List.take_of_length_le (by omega)] at hno; exact hno
  exact this ▸ hk
theorem jkW {n : Int} (h0 : 0 ≤ n) (hn : n ≤ 9223372036854775807) {k : ByteArray → jaa → Prop} (hk : k ⟨⟨jcH n⟩⟩ H) : CallT Pg fQem [.int .i64 n] (.one (.c .str)) H k := by
 refine cQdk _ ?_
 unfold vQdk
 have hlen := jgD h0 hn
 refine LoopT.ghost (fun K (st : Int × ByteArray) H' => ∃ (m : Nat) (s : Txt), H = H' ∧ st = (((m : Nat) : Int), (⟨⟨s⟩⟩ : ByteArray)) ∧ m ≤ n.toNat ∧ K = m + (if s = [] then 1 else 0) ∧ ((s = [] ∨ 0 < m) → jcH n = Lib.decDigits m ++ s) ∧ (s ≠ [] → m = 0 → jcH n = s)) (n.toNat + 1)
  ⟨n.toNat, [], rfl, by rw [show ((n.toNat : Nat) : Int) = n by omega], Nat.le_refl _, by simp, fun _ => by simp [jcH], fun h => absurd rfl h⟩ ?_
 rintro next K _ _ ⟨m, s, rfl, rfl, hm, rfl, h1, h2⟩ hnext
 dsimp only
 refine Jn.mk (fun j H' => H = H' ∧ j = decide (s = [] ∨ 0 < m)) (fun kk hkk => ?_) ?_
 ·rw [ja3]
  refine jaj (fun e => hkk _ _ ⟨rfl, (decide_eq_true (.inl e)).symm⟩) fun e => hkk _ _ ⟨rfl, ?_⟩
  have e : ¬ s = [] := e
  rw [Bool.eq_iff_iff, decide_eq_true_eq, decide_eq_true_eq]
  constructor
  ·intro g; exact .inr (by omega)
  ·rintro (g | g)
   ·exact absurd g e
   ·omega
 rintro _ _ ⟨rfl, rfl⟩
 refine jaj (fun hc => ?_) fun hc => ?_
 ·have hd := h1 hc
  have hrem : ((m : Nat) : Int).tmod 10 = ((m % 10 : Nat) : Int) := by rw [show (10 : Int) = ((10 : Nat) : Int) from rfl, ← Int.ofNat_tmod]
  refine ⟨by decide, ⟨by decide, ?_⟩⟩
  rw [hrem]
  refine Lt.mk (u := ((m % 10 + 1 : Nat) : Int)) (by rw [jac] <;> omega) ⟨by omega, by omega, by show ((m % 10 + 1 : Nat) : Int) ≤ 10; omega, ?_⟩
  have hlt : m % 10 < 10 := Nat.mod_lt _ (by decide)
  have hex : (⟨#[48, 49, 50, 51, 52, 53, 54, 55, 56, 57]⟩ : ByteArray).extract (((m % 10 : Nat) : Int).toNat) (((m % 10 + 1 : Nat) : Int).toNat) = ⟨⟨[UInt8.ofNat (48 + m % 10)]⟩⟩ := by
   rw [Int.toNat_natCast, Int.toNat_natCast]
   generalize m % 10 = d at hlt
   match d, hlt with
   | 0, _ => rfl
   | 1, _ => rfl
   | 2, _ => rfl
   | 3, _ => rfl
   | 4, _ => rfl
   | 5, _ => rfl
   | 6, _ => rfl
   | 7, _ => rfl
   | 8, _ => rfl
   | 9, _ => rfl
  rw [hex]
  have hsl : s.length ≤ 21 := by rw [hd, List.length_append] at hlen; omega
  refine Cat (by simp; omega) ⟨by decide, ?_⟩
  have hquo : IntKind.wrap .i64 (((m : Nat) : Int).tdiv 10) = ((m / 10 : Nat) : Int) := by rw [show (10 : Int) = ((10 : Nat) : Int) from rfl, ← Int.ofNat_tdiv, jac] <;> omega
  rw [hquo]
  refine hnext (m / 10 + 0) _ _ ?_ ⟨m / 10, [UInt8.ofNat (48 + m % 10)] ++ s, rfl, rfl, by omega, by simp, fun hc' => ?_, fun _ hm0 => ?_⟩
  ·rcases hc with hc | hc
   ·rw [if_pos hc]; omega
   ·split <;> omega
  ·have hpos : 0 < m / 10 := by
    rcases hc' with hc' | hc'
    ·simp at hc'
    ·exact hc'
   rw [hd, Lib.decDigits, dif_neg (by omega), List.append_assoc]
  ·rw [hd, Lib.decDigits, dif_pos (by omega), show m % 10 = m by omega]
 ·have e : s ≠ [] := fun e => hc (.inl e)
  rw [← h2 e (by omega)]
  exact hk
theorem jhI {K : Sl → jaa → Prop} (hK : ∀ r H', Ext H H' → r.len = 6 → (∀ l, l ≤ 5 → ∀ {k : Sl → Prop}, (∀ x, Vec H' jcC x ((lvT l).map fun t => (Value.string ⟨⟨t⟩⟩)) → k x) → IxA 1 r (l : Nat) fun a1 => Ld .sl a1 H' k) → K r H') :
 CallT Pg fQdj [] (.one (.c .sl)) H K := by
 refine cQcu ?_
 unfold vQcu
 refine jaq (vs := (lvT 0).map fun t => (Value.string ⟨⟨t⟩⟩)) fun b1 H1 _ hE1 _ hr1 => ?_
 refine jaq (vs := (lvT 1).map fun t => (Value.string ⟨⟨t⟩⟩)) fun b2 H2 _ hE2 _ hr2 => ?_
 refine jaq (vs := (lvT 2).map fun t => (Value.string ⟨⟨t⟩⟩)) fun b3 H3 _ hE3 _ hr3 => ?_
 refine jaq (vs := (lvT 3).map fun t => (Value.string ⟨⟨t⟩⟩)) fun b4 H4 _ hE4 _ hr4 => ?_
 refine jaq (vs := (lvT 4).map fun t => (Value.string ⟨⟨t⟩⟩)) fun b5 H5 _ hE5 _ hr5 => ?_
 refine jaq (vs := (lvT 5).map fun t => (Value.string ⟨⟨t⟩⟩)) fun b6 H6 _ hE6 _ hr6 => ?_
 refine jaq (vs := [slV ⟨some (adr b1), 1, 1⟩, slV ⟨some (adr b2), 1, 1⟩, slV ⟨some (adr b3), 2, 2⟩, slV ⟨some (adr b4), 4, 4⟩, slV ⟨some (adr b5), 2, 2⟩, slV ⟨some (adr b6), 3, 3⟩]) fun b7 H7 _ hE7 _ hr7 => ?_
 have f6 : Ext H6 H7 := hE7
 have f5 := eE hE6 f6
 have f4 := eE hE5 f5
 have f3 := eE hE4 f4
 have f2 := eE hE3 f3
 have f1 := eE hE2 f2
 have f0 := eE hE1 f1
 refine hK _ H7 f0 rfl fun l hl {k} hk => ?_
 refine IxA.mk (a := adr b7) rfl (by omega) (by show ((l : Nat) : Int) < 6; omega) ?_
 rw [Nat.mul_one, adr_add, Int.toNat_natCast]
 match l, hl with
 | 0, _ => exact jam ((hr7.cell 0).trans rfl) (hk _ (jdn (f1.row hr1 fun h => h)))
 | 1, _ => exact jam ((hr7.cell 1).trans rfl) (hk _ (jdn (f2.row hr2 fun h => h)))
 | 2, _ => exact jam ((hr7.cell 2).trans rfl) (hk _ (jdn (f3.row hr3 fun h => h)))
 | 3, _ => exact jam ((hr7.cell 3).trans rfl) (hk _ (jdn (f4.row hr4 fun h => h)))
 | 4, _ => exact jam ((hr7.cell 4).trans rfl) (hk _ (jdn (f5.row hr5 fun h => h)))
 | 5, _ => exact jam ((hr7.cell 5).trans rfl) (hk _ (jdn (f6.row hr6 fun h => h)))
theorem jiN {l : Nat} {t : Txt} (hl : l ≤ 5) : (lvT l).contains t = decide (jat t = (l : Int) + 1) := by
 rw [Bool.eq_iff_iff, List.contains_iff_mem, decide_eq_true_eq]
 exact ⟨fun h => (lvT_in h).1, lvT_of⟩
theorem jlt (l : Nat) : (lvT l).length ≤ 1000 := by
 match l with
 | 0 => decide
 | 1 => decide
 | 2 => decide
 | 3 => decide
 | 4 => decide
 | 5 => decide
 | n + 6 => simp [lvT]
theorem jcw (t : Txt) : jat t ≤ 6 ∧ 0 ≤ jat t := by
 unfold jat
 repeat' split
 all_goals omega
def jeH (n : Nd) : Int := if n.op = 35 then -1 else if n.op = 33 then (if 0 < jat n.tx then jat n.tx - 1 else 7) else 7
theorem jiW {n : Nd} {q : Option Nat} (hn : okN n) (hq : LD H n q) {k : Int → jaa → Prop} (hk : ∀ H', Ext H H' → k (jeH n) H') : CallT Pg fQeo [pN q] (.one (.c (.int .i64))) H k := by
 refine cQdm _ ?_
 unfold vQdm
 obtain ⟨op, tx, nm, l, a, c, L, rfl, rfl, na⟩ := hq.some' hn
 simp only [Option.map_some, NilCk_some, adr_add]
 have hbi : jeH (.mk op tx nm l a) = if op = 35 then -1 else if op = 33 then (if 0 < jat tx then jat tx - 1 else 7) else 7 := rfl
 rw [hbi] at hk
 refine jaf na.c0 ?_
 by_cases e : op = 35
 ·rw [if_pos e] at hk
  exact jah e (hk H (.refl _ _))
 rw [if_neg e] at hk
 refine jai e (jaf na.c0 ?_)
 by_cases e2 : op = 33
 ·rw [if_pos e2] at hk
  rw [show (op != 33) = false by rw [e2]; rfl]
  refine (Br_false _ _).2 (jhI fun r H1 hE1 hrl hr => ?_)
  refine LoopT.ghost (fun m st H' => ∃ j : Nat, H1 = H' ∧ st = (j : Nat) ∧ m = 6 - j ∧ j ≤ 6 ∧ ∀ i, i < j → jat tx ≠ (i : Int) + 1) 6 ⟨0, rfl, rfl, rfl, by decide, fun i hi => by omega⟩ ?_
  rintro next m _ _ ⟨j, rfl, rfl, rfl, hj, hno⟩ hnext
  rw [hrl]
  refine jaj (fun hlt => ?_) fun hge => ?_
  ·have hj5 : j ≤ 5 := by omega
   refine jap (cu hE1 na.c1) (hr j hj5 fun x hx => s_in hx (jlt j) ?_)
   rw [jiN hj5]
   refine jaj (fun h => ?_) fun h => ?_
   ·rw [if_pos (by omega), show jat tx - 1 = j by omega] at hk
    exact hk H1 hE1
   ·refine Lt.mk (u := ((j + 1 : Nat) : Int)) (by rw [jac] <;> omega) (hnext (6 - (j + 1)) _ _ (by omega) ⟨j + 1, rfl, rfl, rfl, by omega, fun i hi => ?_⟩)
    by_cases hij : i = j
    ·subst hij; exact h
    ·exact hno i (by omega)
  ·have hle := jcw tx
   have : jat tx = 0 := by
    refine Decidable.byContradiction fun h => hno (jat tx - 1).toNat (by omega) (by omega)
   rw [if_neg (by omega)] at hk
   exact hk H1 hE1
 ·rw [if_neg e2] at hk
  rw [show (op != 33) = true from bne_iff_ne.2 e2]
  exact (Br_true _ _).2 (hk H (.refl _ _))
def Ex (n : Nd) : Prop := ∀ {H : jaa} {q : Option Nat}, LD H n q → ∀ {k : ByteArray → jaa → Prop}, (∀ H', Ext H H' → k ⟨⟨exT n⟩⟩ H') → CallT Pg jhX [pN q] (.one (.c .str)) H k
theorem jfy {n : Nd} (he : Ex n) (hn : okN n) (hi : jcM n) (hcn : cnt n ≤ 2 ^ 30) {q : Option Nat} (hq : LD H n q) {least : Int} {b : Bool} (hb : b = decide (jeH n < least)) {k : ByteArray → jaa → Prop} (hk : ∀ H', Ext H H' → k ⟨⟨par b (exT n)⟩⟩ H') :
 CallT Pg fQen [pN q, .int .i64 least] (.one (.c .str)) H k := by
 refine cQdl _ _ ?_
 unfold vQdl
 have hlen := jbb hn hi
 refine jiW hn hq fun H1 hE1 => ?_
 rw [← hb]
 cases b with
 | true =>
   refine (Br_true _ _).2 (he (hq.ext hE1) fun H2 hE2 => Cat (x := [40]) (by simp; omega) (Cat (by simp; omega) ?_))
   exact hk H2 (eE hE1 hE2)
 | false => exact (Br_false _ _).2 (he (hq.ext hE1) fun H2 hE2 => hk H2 (eE hE1 hE2))
theorem jdq {x : Nd} (hx : okN x) : (x.op = 35 ∧ jeH x = -1 ∧ ∀ lv r, jaX lv r x = true) ∨ (x.op = 33 ∧ 0 < jat x.tx ∧ jeH x = jat x.tx - 1 ∧ ∀ lv r, jaX lv r x = (decide (jat x.tx < lv) || (r && jat x.tx == lv))) ∨ (jeH x = 7 ∧ ∀ lv r, jaX lv r x = false) := by
 by_cases e : x.op = 35
 ·exact .inl ⟨e, by unfold jeH; rw [if_pos e], fun lv r => by unfold jaX; simp [e]⟩
 by_cases e2 : x.op = 33
 ·have hlx : 0 < jat x.tx := by
   obtain ⟨op, t, nm, l, a, rfl⟩ := hx.op
   have e2 : op = 33 := e2
   subst e2; exact (ok33 hx).1
  exact .inr (.inl ⟨e2, hlx, by unfold jeH; rw [if_neg e, if_pos e2, if_pos hlx], fun lv r => by unfold jaX; simp [e2]⟩)
 ·exact .inr (.inr ⟨by unfold jeH; rw [if_neg e, if_neg e2], fun lv r => by unfold jaX; simp [e, e2]⟩)
theorem jlY {tx : Txt} {x : Nd} (hx : okN x) (h : 0 < jat tx) : jaX (jat tx) false x = decide (jeH x < jat tx - 1) := by
 have hle := jcw tx
 rcases jdq hx with ⟨_, h1, h2⟩ | ⟨_, h0, h1, h2⟩ | ⟨h1, h2⟩
 ·rw [h1, h2]; exact (decide_eq_true (by omega)).symm
 ·rw [h1, h2, Bool.eq_iff_iff]; simp
 ·rw [h1, h2]; exact (decide_eq_false (by omega)).symm
theorem jka {tx : Txt} {x : Nd} (hx : okN x) (h : 0 < jat tx) : jaX (jat tx) true x = decide (jeH x < jat tx - 1 + 1) := by
 have hle := jcw tx
 rcases jdq hx with ⟨_, h1, h2⟩ | ⟨_, h0, h1, h2⟩ | ⟨h1, h2⟩
 ·rw [h1, h2]; exact (decide_eq_true (by omega)).symm
 ·rw [h1, h2, Bool.eq_iff_iff]; simp; omega
 ·rw [h1, h2]; exact (decide_eq_false (by omega)).symm
theorem need_7 {x : Nd} (hx : okN x) : jaX 7 false x = decide (jeH x < 7) := by
 have hle := jcw x.tx
 rcases jdq hx with ⟨_, h1, h2⟩ | ⟨_, h0, h1, h2⟩ | ⟨h1, h2⟩
 ·rw [h1, h2]; rfl
 ·rw [h1, h2, Bool.eq_iff_iff, decide_eq_true (show jat x.tx < 7 by omega), decide_eq_true (show jat x.tx - 1 < 7 by omega)]; simp
 ·rw [h1, h2]; rfl
theorem need_0 {x : Nd} (hx : okN x) : jaX 0 false x = decide (jeH x < 0) := by
 have hle := jcw x.tx
 rcases jdq hx with ⟨_, h1, h2⟩ | ⟨_, h0, h1, h2⟩ | ⟨h1, h2⟩
 ·rw [h1, h2]; rfl
 ·rw [h1, h2, decide_eq_false (show ¬ jat x.tx < 0 by omega), decide_eq_false (show ¬ jat x.tx - 1 < 0 by omega)]; rfl
 ·rw [h1, h2]; rfl
end
end Go.Proofs.YtfpmgpblhhcpgaaGreatDoor
namespace Go.Proofs.YtfpmgpblhhcpgaaGreatDoor.Hc.Syn
set_option maxRecDepth 100000
section
open Go Hc Hc.Lex
mutual
def nz : Nd → Prop
 | .nil => False
 | .mk _ _ _ l _ => nzL l
def nzL : List Nd → Prop
 | [] => True
 | n :: ns => nz n ∧ nzL ns
end
mutual
def wt : Nd → Nat
 | .nil => 0
 | .mk _ _ _ l _ => 1 + wtL l
def wtL : List Nd → Nat
 | [] => 0
 | n :: ns => wt n + wtL ns
end
def Zd {α : Type} (r : R α) (Q : α → PS → Prop) : Prop := ∀ a s', r = some (.ok (a, s')) → Q a s'
section
variable {α β : Type} {P Q : α → PS → Prop}
theorem Zd.bind {A : R α} {F : α → PS → R β} {Q : β → PS → Prop} (h : Zd A P) (hF : ∀ a s, P a s → Zd (F a s) Q) : Zd (A.bind F) Q := fun b s' e => by
 obtain ⟨a, s, h1, h2⟩ := jao e
 exact hF a s (h a s h1) b s' h2
theorem Zd.ret {a : α} {s : PS} (h : Q a s) : Zd (jbo a s) Q := fun b s' e => by
 obtain ⟨rfl, rfl⟩ := jaI e; exact h
theorem Zd.fail {e : Int} {s : PS} : Zd (jeJ e s) Q := fun b s' e => by cases e
theorem Zd.no : Zd none Q := fun b s' e => by cases e
theorem Zd.mono {A : R α} (h : Zd A P) (hpq : ∀ a s, P a s → Q a s) : Zd A Q := fun a s' e => hpq _ _ (h a s' e)
theorem Zd.ite {c : Prop} [Decidable c] {A B : R α} (h1 : c → Zd A Q) (h2 : ¬ c → Zd B Q) : Zd (if c then A else B) Q := by
 split
 ·exact h1 ‹_›
 ·exact h2 ‹_›
end
abbrev ZN (p : Nat) (n : Nd) (s : PS) : Prop := nz n ∧ wt n + 8 * s.N ≤ p
abbrev ZL (p : Nat) (l : List Nd) (s : PS) : Prop := nzL l ∧ wtL l + 8 * s.N ≤ p
structure ZE (f : Nat) : Prop where
 ex : ∀ lv s, Zd (exP f lv s) (ZN (8 * s.N))
 un : ∀ w s, Zd (unP f w s) (ZN (8 * s.N))
 bi : ∀ lv n s, nz n → Zd (jiV f lv n s) (ZN (wt n + 8 * s.N))
 pr : ∀ s, Zd (jey f s) (ZN (8 * s.N))
 ar : ∀ s, Zd (je0 f s) (ZL (8 * s.N))
 al : ∀ l s, nzL l → Zd (jen f l s) (ZL (wtL l + 8 * s.N))
variable {F : Nat}
structure ZS (F f : Nat) : Prop where
 bl : ∀ s, Zd (ja2 F f s) (fun n s' => nz n ∧ wt n + 8 * s'.N + 8 ≤ 8 * s.N)
 ss : ∀ l s, nzL l → Zd (jcF F f l s) (ZL (wtL l + 8 * s.N))
 st : ∀ s, Zd (jeq F f s) (ZN (8 * s.N))
 br : ∀ s, s.hd.kind ≠ 0 → Zd (jbg F f s) (ZN (8 * s.N))
 tu : ∀ s, s.hd.kind ≠ 0 → Zd (jb7 F f s) (ZN (8 * s.N))
end
end Go.Proofs.YtfpmgpblhhcpgaaGreatDoor.Hc.Syn
namespace Go.Proofs.YtfpmgpblhhcpgaaGreatDoor
set_option maxRecDepth 100000
section
open Hc Hc.Lex Hc.Syn
variable {H : jaa}
theorem st124 : Pg.stoodInHeld 124 = false := by kernel_rfl
theorem jj8 (k : Program → jaa → Prop) (H : jaa) : SW Pg program k H = k Pg H := rfl
theorem jcs {cs : Array Value} {i : Nat} {v : Value} (hi : cs[i]? = some v) (k : Value → jaa → Prop) (H : jaa) : SW Pg (part 23 cs i) k H = k v H := by
 unfold part isAgg
 simp only [jae, jal Tryz.underlying23, jak, Bool.false_eq_true, if_false, hi]
theorem eq_pair {p q x y : Option Addr} {H : jaa} {n : Nat} (h : PtrEq p x H (fun b => b = false)) : SW Pg (Op.equalIn (n + 2) 124 (.agg #[.pointer p, .pointer q]) (.agg #[.pointer x, .pointer y])) (fun b H' => b = false ∧ H' = H) H := by
 rw [Op.equalIn]
 simp only [jae, jal Tryz.underlying124, jj8, st124, Bool.false_eq_true, if_false]
 simp only [← Array.forIn_toList, List.forIn_cons, jae]
 simp only [show ("a" : String) ≠ "_" by decide, ne_eq, not_false_eq_true, if_true, jae, jcs (cs := #[.pointer p, .pointer q]) (i := 0) (v := .pointer p) rfl, jcs (cs := #[.pointer x, .pointer y]) (i := 0) (v := .pointer x) rfl]
 refine jaB ?_ (PtrEq.sound (n := n) Tryz.underlying23 (i := _) rfl ?_ h)
 ·rintro b H' ⟨rfl, rfl⟩
  simp [jak, jae]
 ·decide
abbrev pairV (e : Nat × Nat) : Value := .agg #[.pointer (some (adr e.1)), .pointer (some (adr e.2))]
theorem ck_ptr {p : Option Addr} (e : Bool) (n : Nat) (k : Unit → jaa → Prop) (H : jaa) : SW Pg (Instr.checkKey e (n + 1) 23 (.pointer p)) k H = k () H := by
 rw [Instr.checkKey]
 simp only [jae, jal Tryz.underlying23, jak]
theorem ji5 {p q : Option Addr} (e : Bool) (n : Nat) : SW Pg (Instr.checkKey e (n + 2) 124 (.agg #[.pointer p, .pointer q])) (fun _ H' => H' = H) H := by
 rw [Instr.checkKey]
 simp only [jae, jal Tryz.underlying124]
 simp only [← Array.forIn_toList, List.forIn_cons, List.forIn_nil, jae]
 simp only [show ("a" : String) ≠ "_" by decide, show ("b" : String) ≠ "_" by decide, ne_eq, not_false_eq_true, if_true, jae, jcs (cs := #[.pointer p, .pointer q]) (i := 0) (v := .pointer p) rfl, jcs (cs := #[.pointer p, .pointer q]) (i := 1) (v := .pointer q) rfl, ck_ptr, jak]
theorem jkk {p q : Option Addr} (e : Bool) : SW Pg (Instr.checkKey e 10000 124 (.agg #[.pointer p, .pointer q])) (fun _ H' => H' = H) H := ji5 e 9998
theorem jik {p q : Option Addr} : ∀ {es : List MapEntry} {l : List (Nat × Nat)} {i : Nat}, es.map (·.key) = l.map pairV → (∀ e ∈ l, PtrEq p (some (adr e.1)) H fun b => b = false) →
 SW Pg (Instr.findAsking 124 (.agg #[.pointer p, .pointer q]) es i) (fun r H' => r = none ∧ H' = H) H
 | [], _, _, _, _ => ⟨rfl, rfl⟩
 | e :: es, [], _, h, _ => by simp at h
 | e :: es, (x, y) :: l, i, h, hp => by
   simp only [List.map_cons, List.cons.injEq] at h
   rw [Instr.findAsking]
   rw [h.1, jae]
   refine jaB ?_ (eq_pair (n := 9998) (hp (x, y) (by simp)))
   rintro b H' ⟨rfl, hH⟩
   rw [hH]
   simp only [Bool.false_eq_true, if_false]
   exact jik h.2 fun e he => hp e (by simp [he])
theorem jiP {p q : Option Addr} {es : List MapEntry} {l : List (Nat × Nat)} (h : es.map (·.key) = l.map pairV) (hp : ∀ e ∈ l, PtrEq p (some (adr e.1)) H fun b => b = false) : FK Pg TQal (.agg #[.pointer p, .pointer q]) es H none := by
 refine ⟨fun e => jkk e, ?_⟩
 unfold Instr.findKey
 rw [jae, jal Tryz.underlying124]
 cases es with
 | nil => exact ⟨rfl, rfl⟩
 | cons e es =>
   have hk : Instr.findNow (TypeDesc.struct #[{ name := "a", type := 23, offset := 0, embedded := false, tag := "", pkgPath := "hindcast/syntax", byteOffset := 0 }, { name := "b", type := 23, offset := 1, embedded := false, tag := "", pkgPath := "hindcast/syntax", byteOffset := 8 }]) (.agg #[.pointer p, .pointer q]) (e :: es) 0 = none := by
    unfold Instr.findNow; rfl
   rw [hk]
   exact jik h hp
def MapP (H : jaa) (r : Nat) (l : List (Nat × Nat)) : Prop := ∃ es cl, H[r]? = some (.map ⟨es⟩ cl) ∧ es.map (·.key) = l.map pairV
def Cl (H : jaa) (x : Nat) : Prop := ∃ cs t, H[x]? = some (.cells cs t (0, 0))
theorem Row.cl {b : Nat} {T : TypeId} {vs : List Value} (h : Row H b T vs) : Cl H b := ⟨_, _, h⟩
theorem MapP.ne {r x : Nat} {l : List (Nat × Nat)} (h : MapP H r l) (hx : Cl H x) : x ≠ r := by
 obtain ⟨es, cl, h1, _⟩ := h
 obtain ⟨cs, t, h2⟩ := hx
 rintro rfl
 rw [h1] at h2; cases h2
theorem Cl.upd {x : Nat} {M : Nat → Prop} {H' : jaa} (h : Cl H x) (hU : Upd M H H') (hn : ¬ M x) : Cl H' x := by
 obtain ⟨cs, t, h2⟩ := h
 exact ⟨cs, t, hU.keep h2 hn⟩
mutual
theorem TrR.cl {TN TP : TypeId} : ∀ {n : Nd} {q : Option Nat} {fp : List Nat}, TrR TN TP H n q fp → ∀ x ∈ fp, Cl H x
 | .nil, _, _, ⟨_, rfl⟩, x, hx => by cases hx
 | .mk .., _, _, ⟨b, L, qs, fl, _, hr, hv, hl, rfl⟩, x, hx => by
   rcases List.mem_cons.1 hx with rfl | hx
   ·exact Row.cl hr
   ·rcases List.mem_append.1 hx with hx | hx
    ·have hx' := (jdp hv x hx).2
     rcases hv.own with ⟨h1, _⟩ | ⟨b', sp, h1, h2, _⟩
     ·rw [h1] at hx'; cases hx'
     ·rw [h1] at hx'
      have := jaG hx'
      subst this
      exact Row.cl h2
    ·exact TrL.cl hl x hx
theorem TrL.cl {TN TP : TypeId} : ∀ {ns : List Nd} {qs : List (Option Nat)} {fp : List Nat}, TrL TN TP H ns qs fp → ∀ x ∈ fp, Cl H x
 | [], _, _, ⟨_, rfl⟩, x, hx => by cases hx
 | n :: ns, _, _, ⟨q, qs', f1, f2, _, rfl, h1, h2⟩, x, hx => by
   rcases List.mem_append.1 hx with hx | hx
   ·exact TrR.cl h1 x hx
   ·exact TrL.cl h2 x hx
end
theorem jjY {T T' : TypeId} {L : Sl} {vs vs' : List Value} (h : Vec H T L vs) (h' : Vec H T' L vs') : vs = vs' := by
 have hl := h.len
 have hl' := h'.len
 apply List.ext_getElem?
 intro i
 by_cases hi : i < vs.length
 ·obtain ⟨b, hb, hc⟩ := h.cell hi
  obtain ⟨b', hb', hc'⟩ := h'.cell (i := i) (by omega)
  rw [hb] at hb'
  have := jaG hb'
  subst this
  exact hc.symm.trans hc'
 ·rw [List.getElem?_eq_none (by omega), List.getElem?_eq_none (by omega)]
theorem jgU : ∀ {qs qs' : List (Option Nat)}, qs.map jcy = qs'.map jcy → qs = qs'
 | [], [], _ => rfl
 | [], _ :: _, h => by simp at h
 | _ :: _, [], h => by simp at h
 | q :: qs, q' :: qs', h => by
   simp only [List.map_cons, List.cons.injEq, jcy, Value.pointer.injEq] at h
   obtain ⟨h1, h2⟩ := h
   rw [jgU (h2 : qs.map jcy = qs'.map jcy)]
   cases q <;> cases q' <;> simp_all [adr]
theorem jjP {b : Nat} {T T' : TypeId} {vs vs' : List Value} (h : Row H b T vs) (h' : Row H b T' vs') : vs = vs' := by
 have : (some (Obj.cells ⟨vs⟩ T (0, 0))) = some (Obj.cells ⟨vs'⟩ T' (0, 0)) := h.symm.trans h'
 injection this with this
 injection this with h1 h2 h3
 injection h1
mutual
theorem TrR.uniq {TN TP : TypeId} : ∀ {n m : Nd} {q : Option Nat} {fp fp' : List Nat}, TrR TN TP H n q fp → TrR TN TP H m q fp' → n = m
 | .nil, .nil, _, _, _, _, _ => rfl
 | .nil, .mk .., _, _, _, ⟨rfl, _⟩, ⟨_, _, _, _, h, _⟩ => by cases h
 | .mk .., .nil, _, _, _, ⟨_, _, _, _, h, _⟩, ⟨rfl, _⟩ => by cases h
 | .mk op tx nm l a, .mk op' tx' nm' l' a', _, _, _, ⟨b, L, qs, fl, e, hr, hv, hl, _⟩, ⟨b', L', qs', fl', e', hr', hv', hl', _⟩ => by
   rw [e] at e'
   cases e'
   have hu := jjP hr hr'
   simp only [ndV, List.cons.injEq, Value.int.injEq, Value.string.injEq, Value.slice.injEq, true_and, and_true] at hu
   obtain ⟨h1, h2, h3, h4, h5⟩ := hu
   have hL : L = L' := by
    obtain ⟨x, y, z⟩ := L; obtain ⟨x', y', z'⟩ := L'
    simp_all
   subst hL
   have hqs := jgU (jjY hv hv')
   subst hqs
   have := TrL.uniq hl hl'
   have ht : tx = tx' := by
    have := congrArg (fun (s : ByteArray) => s.data.toList) h2
    exact this
   rw [h1, ht, h3, this, h5]
theorem TrL.uniq {TN TP : TypeId} : ∀ {ns ms : List Nd} {qs : List (Option Nat)} {fp fp' : List Nat}, TrL TN TP H ns qs fp → TrL TN TP H ms qs fp' → ns = ms
 | [], [], _, _, _, _, _ => rfl
 | [], _ :: _, _, _, _, ⟨rfl, _⟩, ⟨_, _, _, _, h, _⟩ => by cases h
 | _ :: _, [], _, _, _, ⟨_, _, _, _, h, _⟩, ⟨rfl, _⟩ => by cases h
 | n :: ns, m :: ms, _, _, _, ⟨q, qs', f1, f2, e, _, h1, h2⟩, ⟨q', qs'', g1, g2, e', _, k1, k2⟩ => by
   rw [e] at e'
   cases e'
   rw [TrR.uniq h1 k1, TrL.uniq h2 k2]
end
mutual
theorem TrR.fp_uniq {TN TP : TypeId} : ∀ {n m : Nd} {q : Option Nat} {fp fp' : List Nat}, TrR TN TP H n q fp → TrR TN TP H m q fp' → fp = fp'
 | .nil, .nil, _, _, _, ⟨_, h⟩, ⟨_, h'⟩ => by rw [h, h']
 | .nil, .mk .., _, _, _, ⟨rfl, _⟩, ⟨_, _, _, _, h, _⟩ => by cases h
 | .mk .., .nil, _, _, _, ⟨_, _, _, _, h, _⟩, ⟨rfl, _⟩ => by cases h
 | .mk op tx nm l a, .mk op' tx' nm' l' a', _, _, _, ⟨b, L, qs, fl, e, hr, hv, hl, e2⟩, ⟨b', L', qs', fl', e', hr', hv', hl', e2'⟩ => by
   rw [e] at e'
   cases e'
   have hu := jjP hr hr'
   simp only [ndV, List.cons.injEq, Value.int.injEq, Value.string.injEq, Value.slice.injEq, true_and, and_true] at hu
   obtain ⟨h1, h2, h3, h4, h5⟩ := hu
   have hL : L = L' := by
    obtain ⟨x, y, z⟩ := L; obtain ⟨x', y', z'⟩ := L'
    simp_all
   subst hL
   have hqs := jgU (jjY hv hv')
   subst hqs
   rw [e2, e2', TrL.fp_uniq hl hl']
theorem TrL.fp_uniq {TN TP : TypeId} : ∀ {ns ms : List Nd} {qs : List (Option Nat)} {fp fp' : List Nat}, TrL TN TP H ns qs fp → TrL TN TP H ms qs fp' → fp = fp'
 | [], [], _, _, _, ⟨_, h⟩, ⟨_, h'⟩ => by rw [h, h']
 | [], _ :: _, _, _, _, ⟨rfl, _⟩, ⟨_, _, _, _, h, _⟩ => by cases h
 | _ :: _, [], _, _, _, ⟨_, _, _, _, h, _⟩, ⟨rfl, _⟩ => by cases h
 | n :: ns, m :: ms, _, _, _, ⟨q, qs', f1, f2, e, e2, h1, h2⟩, ⟨q', qs'', g1, g2, e', e2', k1, k2⟩ => by
   rw [e] at e'
   cases e'
   rw [e2, e2', TrR.fp_uniq h1 k1, TrL.fp_uniq h2 k2]
end
mutual
theorem jdw : ∀ n : Nd, jcR n n = true
 | .nil => rfl
 | .mk op tx nm l a => by unfold jcR; rw [jgK l]; simp
theorem jgK : ∀ l : List Nd, jci l l = true
 | [] => rfl
 | n :: ns => by unfold jci; rw [jdw n, jgK ns]; rfl
end
end
section
open Hc Hc.Lex Hc.Syn
variable {H : jaa}
abbrev TR (H : jaa) (n : Nd) (q : Option Nat) (fp : List Nat) : Prop := TrR jdY jbd H n q fp
theorem jjL {qa qb : Option Nat} (ha : ∀ x, qa = some x → Cl H x) (hb : ∀ x, qb = some x → Cl H x) {k : Bool → Prop} (hk : k (decide (qa = qb))) : PtrEq (qa.map adr) (qb.map adr) H k := by
 refine ⟨_, hk, ?_⟩
 cases qa with
 | none => cases qb <;> simp
 | some x =>
   cases qb with
   | none => simp
   | some y =>
     simp only [Option.map_some]
     by_cases e : x = y
     ·exact .inl ⟨by rw [e], by simp [e]⟩
     ·obtain ⟨c1, t1, h1⟩ := ha x rfl
      obtain ⟨c2, t2, h2⟩ := hb y rfl
      exact .inr ⟨by simp [adr, e], by simp [e], c1, t1, c2, t2, h1, h2⟩
theorem TrR.at {n : Nd} {q : Option Nat} {fp : List Nat} (h : TR H n q fp) : ∀ x, q = some x → Cl H x ∧ x ∈ fp := by
 rintro x rfl
 cases n with
 | nil => obtain ⟨h, _⟩ := h; cases h
 | mk op tx nm l a =>
   obtain ⟨b, L, qs, fl, hb, hr, _, _, rfl⟩ := h
   cases hb
   exact ⟨Row.cl hr, by simp⟩
theorem TrR.mv {r : Nat} {l : List (Nat × Nat)} (hm : MapP H r l) {H' : jaa} (hU : Upd (· = r) H H') {n : Nd} {q : Option Nat} {fp : List Nat} (h : TR H n q fp) : TR H' n q fp := h.upd hU fun x hx => hm.ne (TrR.cl h x hx)
theorem TrL.get' {TN TP : TypeId} : ∀ {ns : List Nd} {qs : List (Option Nat)} {fp : List Nat}, TrL TN TP H ns qs fp → ∀ i, i < ns.length → ∃ f1 f f2 q, fp = f1 ++ (f ++ f2) ∧ qs[i]? = some q ∧ TrR TN TP H (ns[i]!) q f ∧ (∀ j, j < i → ∃ g q', qs[j]? = some q' ∧ TrR TN TP H (ns[j]!) q' g ∧ ∀ x ∈ g, x ∈ f1)
 | [], _, _, _, i, hi => by simp at hi
 | n :: ns, _, _, ⟨q, qs', f1, f2, rfl, rfl, h1, h2⟩, i, hi => by
   cases i with
   | zero => exact ⟨[], f1, f2, q, rfl, rfl, by simpa using h1, fun j hj => by omega⟩
   | succ i =>
     obtain ⟨g1, g, g2, q', e, e2, e3, e4⟩ := TrL.get' h2 i (by simpa using hi)
     refine ⟨f1 ++ g1, g, g2, q', by rw [e, List.append_assoc], by simpa using e2, by simpa using e3, fun j hj => ?_⟩
     cases j with
     | zero => exact ⟨f1, q, rfl, by simpa using h1, fun x hx => List.mem_append_left _ hx⟩
     | succ j =>
       obtain ⟨g, q'', k1, k2, k3⟩ := e4 j (by omega)
       exact ⟨g, q'', by simpa using k1, by simpa using k2, fun x hx => List.mem_append_right _ (k3 x hx)⟩
theorem jgw {l l' : List Nd} (hl : l.length = l'.length) {j : Nat} (hj : j < l.length) : jci (l.drop j) (l'.drop j) = (jcR l[j]! l'[j]! && jci (l.drop (j + 1)) (l'.drop (j + 1))) := by
 have h1 : l.drop j = l[j]! :: l.drop (j + 1) := by rw [List.drop_eq_getElem_cons hj]; simp [hj]
 have h2 : l'.drop j = l'[j]! :: l'.drop (j + 1) := by rw [List.drop_eq_getElem_cons (by omega)]; simp [show j < l'.length by omega]
 rw [h1, h2, jci]
theorem jfU : ∀ {l l' : List Nd}, jci l l' = true → l.length = l'.length
 | [], [], _ => rfl
 | [], _ :: _, h => by simp [jci] at h
 | _ :: _, [], h => by simp [jci] at h
 | n :: ns, m :: ms, h => by
   rw [jci, Bool.and_eq_true] at h
   simp [jfU h.2]
theorem s_same : ∀ (m : Nat) {x y : Nd} {qa qb : Option Nat} {fa fb : List Nat} {H : jaa} {r : Nat} {ps : List (Nat × Nat)}, cnt x ≤ m → TR H x qa fa → fa.Nodup → TR H y qb fb → jjH x → MapP H r ps → (∀ e ∈ ps, e.1 ∉ fa ∧ Cl H e.1) →
 ∀ {k : Bool → jaa → Prop}, (∀ H' ps', Upd (· = r) H H' → MapP H' r ps' → (∀ e ∈ ps', e ∈ ps ∨ e.1 ∈ fa) → k (jcR x y) H') →
 CallT Pg fQcf [pN qa, pN qb, .map (some r)] (.one (.c .bool)) H k := by
 intro m
 induction m with
 | zero => 
   intro x y qa qb fa fb H r ps hm ha hnd hb htx hmp hps k hk
   cases x with
   | mk op tx nm l a => simp [cnt] at hm
   | nil =>
     have ha0 := ha
     obtain ⟨rfl, rfl⟩ := ha
     refine cQb5 _ _ _ ?_
     unfold vQb5
     have hbc := TrR.at hb
     refine Jn.mk (fun j H' => H = H' ∧ j = decide ((none : Option Nat) = qb)) (fun kk hkk => ?_) ?_
     ·refine jjL (fun x h => by cases h) (fun x h => (hbc x h).1) (jaj (fun e => hkk _ _ ⟨rfl, (decide_eq_true e).symm⟩) fun e => ?_)
      obtain ⟨es, cl, h1, h2⟩ := hmp
      refine ⟨es, .inr ⟨r, cl, rfl, h1⟩, .inr ⟨jiP h2 fun e' he' => ?_, hkk _ _ ⟨rfl, ?_⟩⟩⟩
      ·exact ⟨false, rfl, rfl⟩
      ·rw [decide_eq_false e]; rfl
     rintro _ _ ⟨rfl, rfl⟩
     refine jaj (fun e => ?_) fun e => ?_
     ·subst e
      have : y = .nil := (TrR.uniq ha0 hb).symm
      subst this
      exact hk H ps (.refl _ _) hmp fun e he => .inl he
     ·have hne : jcR .nil y = false := by
       cases y with
       | nil => obtain ⟨h, _⟩ := hb; exact absurd h.symm e
       | mk => rfl
      refine Jn.mk (fun j H' => H = H' ∧ j = true) (fun kk hkk => (Br_true _ _).2 (hkk _ _ ⟨rfl, rfl⟩)) ?_
      rintro _ _ ⟨rfl, rfl⟩
      refine (Br_true _ _).2 ?_
      have := hk H ps (.refl _ _) hmp fun e he => .inl he
      rw [hne] at this; exact this
 | succ m ih =>
   intro x y qa qb fa fb H r ps hm ha hnd hb htx hmp hps k hk
   have hac := TrR.at ha
   have hbc := TrR.at hb
   refine cQb5 _ _ _ ?_
   unfold vQb5
   refine Jn.mk (fun j H' => H = H' ∧ j = decide (qa = qb)) (fun kk hkk => ?_) ?_
   ·refine jjL (fun x h => (hac x h).1) (fun x h => (hbc x h).1) (jaj (fun e => hkk _ _ ⟨rfl, (decide_eq_true e).symm⟩) fun e => ?_)
    obtain ⟨es, cl, h1, h2⟩ := hmp
    refine ⟨es, .inr ⟨r, cl, rfl, h1⟩, .inr ⟨jiP h2 fun e' he' => ?_, hkk _ _ ⟨rfl, ?_⟩⟩⟩
    ·obtain ⟨g1, g2⟩ := hps e' he'
     refine jjL (qb := some e'.1) (fun x h => (hac x h).1) (fun x h => by cases h; exact g2) ?_
     rw [decide_eq_false_iff_not]
     intro h; exact g1 (hac _ h).2
    ·rw [decide_eq_false e]; rfl
   rintro _ _ ⟨rfl, rfl⟩
   refine jaj (fun e => ?_) fun e => ?_
   ·subst e
    have := TrR.uniq ha hb
    subst this
    have := hk H ps (.refl _ _) hmp fun e he => .inl he
    rw [jdw] at this; exact this
   cases x with
   | nil =>
     obtain ⟨rfl, rfl⟩ := ha
     have hne : jcR .nil y = false := by
      cases y with
      | nil => obtain ⟨h, _⟩ := hb; exact absurd h.symm e
      | mk => rfl
     refine Jn.mk (fun j H' => H = H' ∧ j = true) (fun kk hkk => (Br_true _ _).2 (hkk _ _ ⟨rfl, rfl⟩)) ?_
     rintro _ _ ⟨rfl, rfl⟩
     refine (Br_true _ _).2 ?_
     have := hk H ps (.refl _ _) hmp fun e he => .inl he
     rw [hne] at this; exact this
   | mk op tx nm l a =>
   cases y with
   | nil =>
     obtain ⟨rfl, rfl⟩ := hb
     obtain ⟨b, L, qs, fl, rfl, hr, hv, hl, rfl⟩ := ha
     refine Jn.mk (fun j H' => H = H' ∧ j = true) (fun kk hkk => (Br_false _ _).2 ((Br_true _ _).2 (hkk _ _ ⟨rfl, rfl⟩))) ?_
     rintro _ _ ⟨rfl, rfl⟩
     refine (Br_true _ _).2 ?_
     exact hk H ps (.refl _ _) hmp fun e he => .inl he
   | mk op' tx' nm' l' a' =>
   have hb0 := hb
   obtain ⟨b, L, qs, fl, rfl, hr, hv, hl, rfl⟩ := ha
   obtain ⟨b', L', qs', fl', rfl, hr', hv', hl', rfl⟩ := hb
   have hLl : L.len = l.length := by rw [hv.len, List.length_map, hl.len]
   have hLl' : L'.len = l'.length := by rw [hv'.len, List.length_map, hl'.len]
   have hl40 : l.length ≤ 2 ^ 40 := htx.2.1
   have hsB : jcR (.mk op tx nm l a) (.mk op' tx' nm' l' a') = ((op == op' && tx == tx' && nm == nm') && jci l l') := by rw [jcR]
   simp only [Option.map_some, NilCk_some, adr_add, Option.isNone_some, Br_false]
   refine Jn.mk (fun j H' => H = H' ∧ j = !((op == op' && tx == tx' && nm == nm') && (l.length == l'.length))) (fun kk hkk => ?_) ?_
   ·refine jaf ((hr.cell 0).trans rfl) (jaf ((hr'.cell 0).trans rfl) (Br.mk (fun h => hkk _ _ ⟨rfl, ?_⟩) fun h => ?_))
    ·have h : op ≠ op' := by simpa using h
     rw [beq_eq_false_iff_ne.2 h]; rfl
    have e1 : op = op' := by simpa using h
    refine jap ((hr.cell 1).trans rfl) (jap ((hr'.cell 1).trans rfl) ?_)
    rw [ja3]
    refine Br.mk (fun h => hkk _ _ ⟨rfl, ?_⟩) fun h => ?_
    ·have h : tx ≠ tx' := by simpa using h
     rw [beq_eq_false_iff_ne.2 h]; simp
    have e2 : tx = tx' := by simpa using h
    refine jaf ((hr.cell 2).trans rfl) (jaf ((hr'.cell 2).trans rfl) (Br.mk (fun h => hkk _ _ ⟨rfl, ?_⟩) fun h => ?_))
    ·have h : nm ≠ nm' := by simpa using h
     rw [beq_eq_false_iff_ne.2 h]; simp
    have e3 : nm = nm' := by simpa using h
    refine jam ((hr.cell 3).trans rfl) (jam ((hr'.cell 3).trans rfl) (hkk _ _ ⟨rfl, ?_⟩))
    subst e1 e2 e3
    rw [hLl, hLl', Bool.eq_iff_iff]
    simp
    omega
   rintro _ _ ⟨rfl, rfl⟩
   cases hg : ((op == op' && tx == tx' && nm == nm') && (l.length == l'.length)) with
   | false =>
     refine (Br_true _ _).2 ?_
     have hne : jcR (.mk op tx nm l a) (.mk op' tx' nm' l' a') = false := by
      rw [hsB, Bool.and_eq_false_iff]
      rw [Bool.and_eq_false_iff] at hg
      rcases hg with g | g
      ·exact .inl g
      ·right
       rw [Bool.eq_false_iff]
       intro h
       have := jfU h
       simp [this] at g
     have := hk H ps (.refl _ _) hmp fun e he => .inl he
     rw [hne] at this; exact this
   | true =>
     rw [Bool.and_eq_true, beq_iff_eq] at hg
     obtain ⟨hg1, hll⟩ := hg
     rw [hg1, Bool.true_and] at hsB
     rw [hsB] at hk
     refine (Br_false _ _).2 ?_
     have hmp0 := hmp
     obtain ⟨es, cl, h1, h2⟩ := hmp
     refine ⟨r, es, cl, rfl, h1, .inr ⟨jiP h2 fun e' he' => ?_, ?_⟩⟩
     ·obtain ⟨g1, g2⟩ := hps e' he'
      refine jjL (qa := some b) (qb := some e'.1) (fun x h => by cases h; exact Row.cl hr) (fun x h => by cases h; exact g2) ?_
      rw [decide_eq_false_iff_not]
      intro h; cases h; exact g1 (by simp)
     generalize hH1 : H.setIfInBounds r (.map ((⟨es⟩ : Array MapEntry).push { key := .agg #[.pointer (some (adr b)), .pointer (some (adr b'))], val := .int .i64 1, born := cl }) (cl + 1)) = H1
     have hrlt := jcj h1
     have hU1 : Upd (· = r) H H1 := by
      subst hH1
      exact ⟨by simp, fun x hx hn => by rw [Array.getElem?_setIfInBounds, if_neg (fun e => hn e.symm)]⟩
     have hm1 : MapP H1 r (ps ++ [(b, b')]) := by
      subst hH1
      refine ⟨es ++ [{ key := .agg #[.pointer (some (adr b)), .pointer (some (adr b'))], val := .int .i64 1, born := cl }], cl + 1, ?_, by simp [h2]⟩
      rw [Array.getElem?_setIfInBounds, if_pos rfl, if_pos hrlt]
      congr 2
      apply Array.ext'; simp
     have hne : ∀ {x : Nat}, Cl H x → ¬ x = r := fun h => hmp0.ne h
     have hdisj := (List.nodup_cons.1 hnd).1
     have hndL := (List.nodup_append.1 (List.nodup_cons.1 hnd).2)
     have r1 := hU1.row hr (hne (Row.cl hr))
     have r1' := hU1.row hr' (hne (Row.cl hr'))
     have hcl0 : ∀ x ∈ b :: (jbl L ++ fl), Cl H x := TrR.cl (n := .mk op tx nm l a) (q := some b) ⟨b, L, qs, fl, rfl, hr, hv, hl, rfl⟩
     have hclb : ∀ x ∈ b' :: (jbl L' ++ fl'), Cl H x := TrR.cl hb0
     refine jam ((r1.cell 3).trans rfl) ?_
     refine LoopT.ghost (fun rr (i : Int) H' => ∃ (j : Nat) (ps1 : List (Nat × Nat)), i = (j : Nat) ∧ j + rr = l.length ∧ Upd (· = r) H H' ∧ MapP H' r ps1 ∧ (∀ e ∈ ps1, e ∈ ps ∨ e.1 = b ∨ ∃ i' g q', i' < j ∧ qs[i']? = some q' ∧ TR H (l[i']!) q' g ∧ e.1 ∈ g) ∧ jci l l' = jci (l.drop j) (l'.drop j)) l.length
      ⟨0, _, rfl, by omega, hU1, hm1, fun e he => ?_, by simp⟩ ?_
     ·rcases List.mem_append.1 he with he | he
      ·exact .inl he
      ·rw [List.mem_singleton.1 he]; exact .inr (.inl rfl)
     rintro next rr i H2 ⟨j, ps1, rfl, hj, hU2, hm2, hps1, heq⟩ hnext
     have r2 := hU2.row hr (hne (Row.cl hr))
     have r2' := hU2.row hr' (hne (Row.cl hr'))
     have hsub : ∀ e ∈ ps1, e ∈ ps ∨ e.1 ∈ b :: (jbl L ++ fl) := fun e he => by
      rcases hps1 e he with g | g | ⟨i', g, q', hi', hq', htr, hin⟩
      ·exact .inl g
      ·rw [g]; exact .inr (by simp)
      ·have hql := hl.len
       have hlt : i' < l.length := by
        have := (List.getElem?_eq_some_iff.1 hq').1
        omega
       obtain ⟨f1, f, f2, q2, e1, e2, e3, _⟩ := TrL.get' hl i' hlt
       rw [hq'] at e2; cases e2
       have : g = f := TrR.fp_uniq htr e3
       subst this
       exact .inr (by rw [e1]; simp [hin])
     cases rr with
     | zero =>
       have hjl : j = l.length := by omega
       refine jbS (by rw [hLl]; omega) ?_
       have e1 : jci l l' = true := by
        rw [heq, List.drop_eq_nil_of_le (by omega), List.drop_eq_nil_of_le (by omega)]; rfl
       rw [e1] at hk
       exact hk H2 ps1 hU2 hm2 hsub
     | succ rr =>
       have hjl : j < l.length := by omega
       have hjl' : j < l'.length := by omega
       rw [jgw hll hjl] at heq
       refine ja1 (by rw [hLl]; omega) (jam ((r2.cell 3).trans rfl) ?_)
       have hv2 := hv.upd hU2 fun c hc => hne (hcl0 c (by simp [jbl, hc]))
       have hv2' := hv'.upd hU2 fun c hc => hne (hclb c (by simp [jbl, hc]))
       obtain ⟨f1, f, f2, q2, e1, e2, e3, e4⟩ := TrL.get' hl j hjl
       obtain ⟨f1', f', f2', q2', e1', e2', e3', _⟩ := TrL.get' hl' j hjl'
       have hql := hl.len
       have hql' := hl'.len
       refine jcc hv2 (by omega) (by simp; omega) fun ad hc _ => ?_
       have hc : jar H2 ad = some (jcy q2) := hc.trans (by simp [e2])
       refine jan hc (jam ((r2'.cell 3).trans rfl) (jcc hv2' (by omega) (by simp; omega) fun ad' hc' _ => ?_))
       have hc' : jar H2 ad' = some (jcy q2') := hc'.trans (by simp [e2'])
       refine jan hc' ?_
       have t2 : TR H2 (l[j]!) q2 f := e3.upd hU2 fun x hx => hne (TrR.cl e3 x hx)
       have t2' : TR H2 (l'[j]!) q2' f' := e3'.upd hU2 fun x hx => hne (TrR.cl e3' x hx)
       have hmem : l[j]! ∈ l := by
        have : l[j]! = l[j] := by simp [hjl]
        rw [this]; exact List.getElem_mem hjl
       have hvc := jaH hmem
       have hcn : cnt (.mk op tx nm l a) = 1 + jaK l := by simp [cnt]
       have hndfl : (f1 ++ (f ++ f2)).Nodup := e1 ▸ hndL.2.1
       have hndf : f.Nodup := (List.nodup_append.1 (List.nodup_append.1 hndfl).2.1).1
       refine ih (by omega) t2 hndf t2' (jdu htx.2.2 _ hmem) hm2 (fun e he => ?_) fun H3 ps3 hU3 hm3 hps3 => ?_
       ·rcases hps1 e he with g | g | ⟨i', g, q', hi', hq', htr, hin⟩
        ·obtain ⟨k1, k2⟩ := hps e g
         refine ⟨fun hx => k1 (by rw [e1]; simp [hx]), k2.upd hU2 (hne k2)⟩
        ·rw [g]
         refine ⟨fun hx => hdisj (by rw [e1]; simp [hx]), (Row.cl hr).upd hU2 (hne (Row.cl hr))⟩
        ·obtain ⟨g', q'', k1, k2, k3⟩ := e4 i' hi'
         rw [hq'] at k1; cases k1
         have : g = g' := TrR.fp_uniq htr k2
         subst this
         refine ⟨fun hx => (List.nodup_append.1 hndfl).2.2 _ (k3 _ hin) _ (List.mem_append_left _ hx) rfl, ?_⟩
         have := TrR.cl htr _ hin
         exact this.upd hU2 (hne this)
       ·have hU23 : Upd (· = r) H H3 := upU hU2 hU3
        have r3 := hU23.row hr (hne (Row.cl hr))
        have r3' := hU23.row hr' (hne (Row.cl hr'))
        have hps4 : ∀ e ∈ ps3, e ∈ ps ∨ e.1 = b ∨ ∃ i' g q', i' < j + 1 ∧ qs[i']? = some q' ∧ TR H (l[i']!) q' g ∧ e.1 ∈ g := fun e he => by
         rcases hps3 e he with g | g
         ·rcases hps1 e g with g | g | ⟨i', g, q', hi', hrest⟩
          ·exact .inl g
          ·exact .inr (.inl g)
          ·exact .inr (.inr ⟨i', g, q', by omega, hrest⟩)
         ·exact .inr (.inr ⟨j, f, q2, by omega, e2, e3, g⟩)
        refine jdW ((r3'.cell 3).trans rfl) ((r3.cell 3).trans rfl) ?_
        cases hsv : jcR l[j]! l'[j]! with
        | false =>
          rw [hsv, Bool.false_and] at heq
          rw [heq] at hk
          refine (Br_true _ _).2 (hk H3 ps3 hU23 hm3 fun e he => ?_)
          rcases hps3 e he with g | g
          ·exact hsub e g
          ·exact .inr (by rw [e1]; simp [g])
        | true =>
          rw [hsv, Bool.true_and] at heq
          refine (Br_false _ _).2 (Lt.mk (u := ((j + 1 : Nat) : Int)) (by rw [jac] <;> omega) (hnext rr _ _ (by omega) ⟨j + 1, ps3, rfl, by omega, hU23, hm3, hps4, heq⟩))
theorem jj5 {x y : Nd} {qa qb : Option Nat} {fa fb : List Nat} (ha : TR H x qa fa) (hnd : fa.Nodup) (hb : TR H y qb fb) (htx : jjH x) {k : Bool → jaa → Prop} (hk : ∀ H', Ext H H' → k (jcR x y) H') : CallT Pg fQcb [pN qa, pN qb] (.one (.c .bool)) H k := by
 refine cQb2 _ _ ?_
 unfold vQb2
 show CallT _ _ _ _ _ _
 have hE : Ext H (H.push (.map #[] 0)) := Upd.push _ _ _
 have hm : MapP (H.push (.map #[] 0)) H.size [] := ⟨[], 0, jaJ _ _, rfl⟩
 exact s_same (cnt x) (Nat.le_refl _) (ha.upd hE fun _ _ h => h) hnd (hb.upd hE fun _ _ h => h) htx hm (fun e he => by cases he) fun H' ps' hU _ _ => hk H' (jfM hE (Nat.le_refl _) hU)
end
section
open Hc Hc.Lex Hc.Syn
variable {H : jaa}
abbrev TRD (H : jaa) (n : Nd) (q : Option Nat) (fp : List Nat) : Prop := TrR TD TQ H n q fp
theorem jgj : ∀ {l : List Nd} {i : Nat}, i < l.length → wt l[i]! ≤ wtL l
 | [], i, h => by simp at h
 | n :: l, i, h => by
   cases i with
   | zero => simp [wtL]
   | succ i =>
     have := jgj (l := l) (i := i) (by simpa using h)
     simp only [wtL]
     have e : (n :: l)[i + 1]! = l[i]! := by simp
     rw [e]; omega
theorem jg8 {T : TypeId} {L : Sl} {qs : List (Option Nat)} (h : Vec H T L (qs.map jcy)) {j : Nat} {q : Option Nat} (hq : qs[j]? = some q) {i : Int} (hi : i = (j : Nat)) {k : Option Addr → Prop} (hk : k (q.map adr)) : IxA 1 L i fun a => Ld .ptr a H k := by
 have hj : j < qs.length := by
  rcases Nat.lt_or_ge j qs.length with g | g
  ·exact g
  ·rw [List.getElem?_eq_none g] at hq; cases hq
 subst hi
 refine jcc h (by omega) (by rw [List.length_map]; omega) fun ad hc _ => jan (hc.trans ?_) hk
 rw [Int.toNat_natCast, List.getElem?_map, hq]; rfl
theorem s_rSame : ∀ (m : Nat) {x y : Nd} {qa qb : Option Nat} {fa fb : List Nat}, cnt x ≤ m → TRD H x qa fa → TRD H y qb fb → jjH x → ∀ {k : Bool → jaa → Prop}, k (jcR x y) H → CallT Pg fQd4 [pN qa, pN qb] (.one (.c .bool)) H k := by
 intro m
 induction m with
 | zero =>
   intro x y qa qb fa fb hm ha hb htx k hk
   cases x with
   | mk op tx nm l a => simp [cnt] at hm
   | nil =>
     obtain ⟨rfl, _⟩ := ha
     refine cQc2 _ _ ?_
     unfold vQc2
     cases y with
     | nil =>
       obtain ⟨rfl, _⟩ := hb
       simp only [Jn, Option.map_none, Option.isNone_none, Br_true]
       exact hk
     | mk op tx nm l a =>
       obtain ⟨b, L, qs, fl, rfl, _⟩ := hb
       simp only [Jn, Option.map_none, Option.map_some, Option.isNone_none, Option.isNone_some, Br_true]
       exact hk
 | succ m ih =>
   intro x y qa qb fa fb hm ha hb htx k hk
   refine cQc2 _ _ ?_
   unfold vQc2
   cases x with
   | nil =>
     obtain ⟨rfl, _⟩ := ha
     cases y with
     | nil =>
       obtain ⟨rfl, _⟩ := hb
       simp only [Jn, Option.map_none, Option.isNone_none, Br_true]
       exact hk
     | mk op tx nm l a =>
       obtain ⟨b, L, qs, fl, rfl, _⟩ := hb
       simp only [Jn, Option.map_none, Option.map_some, Option.isNone_none, Option.isNone_some, Br_true]
       exact hk
   | mk op tx nm l a =>
   cases y with
   | nil =>
     obtain ⟨rfl, _⟩ := hb
     obtain ⟨b, L, qs, fl, rfl, _⟩ := ha
     simp only [Jn, Option.map_none, Option.map_some, Option.isNone_none, Option.isNone_some, Br_true, Br_false]
     exact hk
   | mk op' tx' nm' l' a' =>
   obtain ⟨b, L, qs, fl, rfl, hr, hv, hl, rfl⟩ := ha
   obtain ⟨b', L', qs', fl', rfl, hr', hv', hl', rfl⟩ := hb
   have hLl : L.len = l.length := by rw [hv.len, List.length_map, hl.len]
   have hLl' : L'.len = l'.length := by rw [hv'.len, List.length_map, hl'.len]
   have hl40 : l.length ≤ 2 ^ 40 := htx.2.1
   have hsB : jcR (.mk op tx nm l a) (.mk op' tx' nm' l' a') = ((op == op' && tx == tx' && nm == nm') && jci l l') := by rw [jcR]
   rw [hsB] at hk
   simp only [Option.map_some, NilCk_some, adr_add, Option.isNone_some, Br_false]
   refine Jn.mk (fun j H' => H = H' ∧ j = false) (fun kk hkk => hkk _ _ ⟨rfl, rfl⟩) ?_
   rintro _ _ ⟨rfl, rfl⟩
   refine (Br_false _ _).2 ?_
   refine Jn.mk (fun j H' => H = H' ∧ j = !((op == op' && tx == tx' && nm == nm') && (l.length == l'.length))) (fun kk hkk => ?_) ?_
   ·refine jaf ((hr.cell 0).trans rfl) (jaf ((hr'.cell 0).trans rfl) (Br.mk (fun h => hkk _ _ ⟨rfl, ?_⟩) fun h => ?_))
    ·have h : op ≠ op' := by simpa using h
     rw [beq_eq_false_iff_ne.2 h]; rfl
    have e1 : op = op' := by simpa using h
    refine jap ((hr.cell 1).trans rfl) (jap ((hr'.cell 1).trans rfl) ?_)
    rw [ja3]
    refine Br.mk (fun h => hkk _ _ ⟨rfl, ?_⟩) fun h => ?_
    ·have h : tx ≠ tx' := by simpa using h
     rw [beq_eq_false_iff_ne.2 h]; simp
    have e2 : tx = tx' := by simpa using h
    refine jaf ((hr.cell 2).trans rfl) (jaf ((hr'.cell 2).trans rfl) (Br.mk (fun h => hkk _ _ ⟨rfl, ?_⟩) fun h => ?_))
    ·have h : nm ≠ nm' := by simpa using h
     rw [beq_eq_false_iff_ne.2 h]; simp
    have e3 : nm = nm' := by simpa using h
    refine jam ((hr.cell 3).trans rfl) (jam ((hr'.cell 3).trans rfl) (hkk _ _ ⟨rfl, ?_⟩))
    subst e1 e2 e3
    rw [hLl, hLl', Bool.eq_iff_iff]
    simp
    omega
   rintro _ _ ⟨rfl, rfl⟩
   cases hg : ((op == op' && tx == tx' && nm == nm') && (l.length == l'.length)) with
   | false =>
     refine (Br_true _ _).2 ?_
     have hne : ((op == op' && tx == tx' && nm == nm') && jci l l') = false := by
      rw [Bool.and_eq_false_iff]
      rw [Bool.and_eq_false_iff] at hg
      rcases hg with g | g
      ·exact .inl g
      ·right
       rw [Bool.eq_false_iff]
       intro h
       have := jfU h
       simp [this] at g
     rw [hne] at hk; exact hk
   | true =>
     rw [Bool.and_eq_true, beq_iff_eq] at hg
     obtain ⟨hg1, hll⟩ := hg
     rw [hg1, Bool.true_and] at hk
     refine (Br_false _ _).2 ?_
     refine LoopT.ghost (fun m' st H' => H = H' ∧ ∃ j : Nat, st = j ∧ m' = l.length - j ∧ j ≤ l.length ∧ jci l l' = jci (l.drop j) (l'.drop j)) l.length ⟨rfl, 0, rfl, rfl, Nat.zero_le _, by simp⟩ ?_
     rintro next _ _ _ ⟨rfl, j, rfl, rfl, hj, heq⟩ hnext
     refine jam ((hr.cell 3).trans rfl) (jaj (fun hlt => ?_) fun hge => ?_)
     ·have hj' : j < l.length := by rw [hLl] at hlt; omega
      obtain ⟨_, f1, _, q1, _, e1, t1, _⟩ := TrL.get' hl j hj'
      obtain ⟨_, f2, _, q2, _, e2, t2, _⟩ := TrL.get' hl' j (by omega)
      refine jam ((hr.cell 3).trans rfl) (jg8 hv e1 rfl (jam ((hr'.cell 3).trans rfl) (jg8 hv' e2 rfl ?_)))
      rw [jgw hll hj'] at heq
      have hmem : l[j]! ∈ l := by rw [getElem!_pos l j hj']; exact List.getElem_mem _
      have hvc := jaH hmem
      have hcn : cnt (.mk op tx nm l a) = 1 + jaK l := by simp [cnt]
      refine ih (by omega) t1 t2 (jdu htx.2.2 _ hmem) (jax (fun x hx => ?_) ?_)
      ·simp only [List.mem_cons, List.not_mem_nil, or_false] at hx
       rcases hx with rfl | rfl
       ·exact (hr'.cell 3).trans rfl
       ·exact (hr.cell 3).trans rfl
      cases hsv : jcR l[j]! l'[j]! with
      | false =>
        rw [hsv, Bool.false_and] at heq
        rw [heq] at hk
        exact (Br_true _ _).2 hk
      | true =>
        rw [hsv, Bool.true_and] at heq
        exact (Br_false _ _).2 (Lt.mk (u := ((j + 1 : Nat) : Int)) (by rw [jac] <;> omega) (hnext _ _ _ (by omega) ⟨rfl, j + 1, rfl, rfl, by omega, heq⟩))
     ·have e1 : jci l l' = true := by
       rw [hLl] at hge
       rw [heq, List.drop_eq_nil_of_le (by omega), List.drop_eq_nil_of_le (by omega)]; rfl
      rw [e1] at hk; exact hk
end
section
open Hc Hc.Lex Hc.Syn
variable {H : jaa}
theorem jjI {L : Sl} {l : List Nd} (hL : TaL H l L.a 0) (hlen : L.len = l.length) {j : Nat} (hj : j < l.length) {k : Addr → Prop} (hk : ∀ ad v, jaR H ad 0 (taC v) → TaR H l[j]! v → k ad) : IxA 5 L (j : Nat) k := by
 obtain ⟨ad, v, h1, h2, h3⟩ := hL.get j hj
 refine IxA.mk h1 (by omega) (by omega) (hk _ v ?_ h3)
 rw [Nat.zero_add] at h2
 exact h2
theorem jhy : ∀ (m : Nat) {n : Nd} {v : TaV} {H : jaa}, wt n ≤ m → TaR H n v → ∀ {q : Int}, 1 ≤ q → q ≤ 200000 → ∀ {k : Int → jaa → Prop}, (∀ r H', Ext H H' → 0 ≤ r → r ≤ q + (2 ^ 47 + 1) → (r < q → r = cW n) → k r H') → CallT Pg fQdy [.agg ⟨taC v⟩, .int .i64 q] (.one (.c (.int .i64))) H k := by
 intro m
 induction m with
 | zero =>
   intro n v H hm hn
   obtain ⟨op, tx, nm, l, a, L, rfl, _⟩ := hn.some
   simp [wt] at hm
 | succ m ih =>
   intro n v H hm hn q hq1 hq2 k hk
   obtain ⟨op, tx, nm, l, a, L, rfl, rfl, hnm, htx, hlen, hl47, hL⟩ := hn.some
   have hwt : wt (.mk op tx nm l a) = 1 + wtL l := by simp [wt]
   have hcw : cW (.mk op tx nm l a) = 1 + tx.length + cWL l := by simp [cW]
   refine cQcw (op, ⟨⟨tx⟩⟩, nm, L, a) _ ?_
   unfold vQcw
   dsimp only
   refine jaq (vs := taC (op, ⟨⟨tx⟩⟩, nm, L, a)) fun b1 H1 hb1 hE1 _ hr1 => ?_
   simp only [adr_add]
   refine jap ((hr1.cell 1).trans rfl) ?_
   rw [show ((⟨⟨tx⟩⟩ : ByteArray).size) = tx.length from rfl]
   refine Lt.mk (u := 1 + (tx.length : Int)) (by rw [jac] <;> omega) ?_
   refine LoopT.ghost (fun m' (st : Int × Int) H' => ∃ j : Nat, st.2 = (j : Nat) ∧ m' = l.length - j ∧ j ≤ l.length ∧ Ext H1 H' ∧ 1 ≤ st.1 ∧ st.1 ≤ q + (2 ^ 47 + 1) ∧ (st.1 = 1 + tx.length + cWL (l.take j) ∨ q ≤ st.1)) l.length ⟨0, rfl, rfl, Nat.zero_le _, .refl _ _, by dsimp only; omega, by dsimp only; omega, .inl (by simp [cWL])⟩ ?_
   rintro next _ ⟨s1, s2⟩ H3 ⟨j, hs2, rfl, hj, hE3, hn1, hn2, hn3⟩ hnext
   dsimp only at hs2 hn1 hn2 hn3 ⊢
   subst hs2
   have hb3 := cu hE3 ((hr1.cell 3).trans rfl)
   refine Jn.mk (fun b H' => H3 = H' ∧ b = decide (j < l.length ∧ s1 < q)) (fun kk hkk => ?_) ?_
   ·refine jam hb3 (jaj (fun h => hkk _ _ ⟨rfl, ?_⟩) fun h => hkk _ _ ⟨rfl, ?_⟩)
    ·have h : (j : Int) < (L.len : Int) := h
     have : j < l.length := by omega
     simp [this]
    ·have h : ¬ (j : Int) < (L.len : Int) := h
     have : ¬ j < l.length := by omega
     simp [this]
   rintro _ _ ⟨rfl, rfl⟩
   refine jaj (fun h => ?_) fun h => ?_
   ·obtain ⟨hj', hsq⟩ := h
    refine jam hb3 (jjI ((hL.ext hE1).ext hE3) hlen hj' fun ad v hcs hv => ⟨v, hcs, ?_⟩)
    refine Lt.mk (u := q - s1) (by rw [jac] <;> omega) ?_
    have hwj := jgj hj'
    have hcj := jhp hj'
    refine ih (by omega) hv (by omega) (by omega) fun r H4 hE4 hr0 hr1 hr2 => ?_
    refine Lt.mk (u := s1 + r) (by rw [jac] <;> omega) (Lt.mk (u := ((j + 1 : Nat) : Int)) (by rw [jac] <;> omega) ?_)
    refine hnext (l.length - (j + 1)) _ _ (by omega) ⟨j + 1, rfl, rfl, by omega, eE hE3 hE4, by dsimp only; omega, by dsimp only; omega, ?_⟩
    dsimp only
    by_cases hc : r < q - s1
    ·left
     have := hr2 hc
     omega
    ·right; omega
   ·refine hk s1 H3 (eE hE1 hE3) (by omega) hn2 fun hlt => ?_
    have hjl : j = l.length := by
     by_cases g : j < l.length
     ·exact absurd ⟨g, hlt⟩ h
     ·omega
    rw [hcw]
    rcases hn3 with g | g
    ·rw [hjl, List.take_length] at g; omega
    ·omega
theorem jkY : ∀ (m : Nat) {n : Nd} {v : TaV} {H : jaa}, wt n ≤ m → cW n ≤ 2 ^ 18 → TaR H n v → ∀ {k : Option Addr → jaa → Prop}, (∀ q H', Ext H H' → Own jdY jbd H.size H' (fcN n) q → k (q.map adr) H') → CallT Pg fQdz [.agg ⟨taC v⟩] (.one (.c .ptr)) H k := by
 intro m
 induction m with
 | zero =>
   intro n v H hm _ hn
   obtain ⟨op, tx, nm, l, a, L, rfl, _⟩ := hn.some
   simp [wt] at hm
 | succ m ih =>
   intro n v H hm hc18 hn k hk
   obtain ⟨op, tx, nm, l, a, L, rfl, rfl, hnm, htx, hlen, hl47, hL⟩ := hn.some
   have hwt : wt (.mk op tx nm l a) = 1 + wtL l := by simp [wt]
   have hcw : cW (.mk op tx nm l a) = 1 + tx.length + cWL l := by simp [cW]
   have hll := hL.len
   refine cQcx (op, ⟨⟨tx⟩⟩, nm, L, a) ?_
   unfold vQcx
   dsimp only
   refine jaq (vs := taC (op, ⟨⟨tx⟩⟩, nm, L, a)) fun b1 H1 hb1 hE1 hs1 hr1 => ?_
   simp only [adr_add, NilCk_some]
   refine jaf ((hr1.cell 0).trans rfl) (jaj (fun hop => ?_) fun hop => ?_)
   ·refine hk none H1 hE1 ⟨[], ?_, List.nodup_nil, fun x hx => by cases hx⟩
    unfold fcN
    rw [if_pos hop]
    exact ⟨rfl, rfl⟩
   have hfc : fcN (.mk op tx nm l a) = .mk op tx nm (fcL l) a := by rw [fcN, if_neg hop]
   rw [hfc] at hk
   refine jaf ((hr1.cell 0).trans rfl) (jap ((hr1.cell 1).trans rfl) (jaf ((hr1.cell 2).trans rfl) (jaf ((hr1.cell 4).trans rfl) ?_)))
   refine jaq (vs := ndV op tx nm ⟨none, 0, 0⟩ a) fun b2 H2 hb2 hE2 hs2 hr2 => ?_
   have o0 : Own jdY jbd H1.size H2 (.mk op tx nm [] a) (some b2) := Own.node (OwnL.nil H1.size H1) hE2 hb2 (Nat.le_refl _) hr2
   refine LoopT.ghost (fun m' (st : Int) H' => ∃ j : Nat, st = (j : Nat) ∧ m' = l.length - j ∧ j ≤ l.length ∧ Ext H1 H' ∧ Own jdY jbd H1.size H' (.mk op tx nm (fcL (l.take j)) a) (some b2)) l.length ⟨0, rfl, rfl, Nat.zero_le _, hE2, o0⟩ ?_
   rintro next _ _ H3 ⟨j, rfl, rfl, hj, hE3, o3⟩ hnext
   have hb3 := cu hE3 ((hr1.cell 3).trans rfl)
   refine jam hb3 (jaj (fun hlt => ?_) fun hge => ?_)
   ·have hlt : (j : Int) < (L.len : Int) := hlt
    have hj' : j < l.length := by omega
    obtain ⟨X, hc, happ⟩ := o3.app hE3.size (by rw [jeS, List.length_take]; omega)
    refine jam (hc (.refl (fun _ => False) _) (fun _ _ _ h => h)) (jam hb3 (jjI (hL.ext hE1) hlen hj' fun ad v hcs hv => ⟨v, jaZ hE3 (fun h => h) hcs, ?_⟩))
    have hwj := jgj hj'
    have hcj := jhp hj'
    refine ih (by omega) (by omega) (hv.ext hE3) fun qc H4 hE4 oc => ?_
    refine jdW (cu hE4 hb3) (hc hE4 fun _ _ _ h => h) (jaq (vs := [jcy qc]) fun b3 H5 hb5 hE5 hs5 hr5 => ?_)
    have hE35 : Ext H3 H5 := eE hE4 hE5
    have hE15 : Ext H1 H5 := eE hE3 hE35
    refine jax (fun x hx => ?_) (happ hE35 (fun _ _ _ h => h) (oc.upd hE5 fun _ _ _ h => h) hr5 fun L' H6 hU6 hK6 => ?_)
    ·simp only [List.mem_cons, List.not_mem_nil, or_false] at hx
     have hc1 := jaZ hE15 (fun h => h) hcs
     rcases hx with rfl | rfl | rfl | rfl | rfl | rfl | rfl
     ·exact hc1.1
     ·exact hc1.2.1
     ·exact hc1.2.2.1
     ·exact hc1.2.2.2.1
     ·exact hc1.2.2.2.2.1
     ·exact cu hE35 hb3
     ·exact hc hE35 fun _ _ _ h => h
    have hE16 : Ext H1 H6 := hE15.trans hU6 fun x hx e => by omega
    refine jax (fun x hx => ?_) (hK6 fun H7 hU7 o7 => ?_)
    ·simp only [List.mem_cons, List.not_mem_nil, or_false] at hx
     have hc1 := jaZ hE16 (fun h => h) hcs
     rcases hx with rfl | rfl | rfl | rfl | rfl | rfl
     ·exact hc1.1
     ·exact hc1.2.1
     ·exact hc1.2.2.1
     ·exact hc1.2.2.2.1
     ·exact hc1.2.2.2.2.1
     ·exact cu hE16 ((hr1.cell 3).trans rfl)
    rw [← jgX hj'] at o7
    exact Lt.mk (u := ((j + 1 : Nat) : Int)) (by rw [jac] <;> omega) (hnext _ _ _ (by omega) ⟨j + 1, rfl, rfl, by omega, hE15.trans hU7 fun x hx e => by omega, o7⟩)
   ·have hge : ¬ (j : Int) < (L.len : Int) := hge
    have hjl : j = l.length := by omega
    rw [hjl, List.take_length] at o3
    exact hk (some b2) H3 (eE hE1 hE3) (o3.mono (by omega))
theorem jli : ∀ (m : Nat) {n : Nd} {v : TaV} {H : jaa}, wt n ≤ m → cW n ≤ 2 ^ 18 → TaR H n v → ∀ {k : Option Addr → jaa → Prop}, (∀ q H', Ext H H' → Own TD TQ H.size H' (fcN n) q → k (q.map adr) H') → CallT Pg fQd0 [.agg ⟨taC v⟩] (.one (.c .ptr)) H k := by
 intro m
 induction m with
 | zero =>
   intro n v H hm _ hn
   obtain ⟨op, tx, nm, l, a, L, rfl, _⟩ := hn.some
   simp [wt] at hm
 | succ m ih =>
   intro n v H hm hc18 hn k hk
   obtain ⟨op, tx, nm, l, a, L, rfl, rfl, hnm, htx, hlen, hl47, hL⟩ := hn.some
   have hwt : wt (.mk op tx nm l a) = 1 + wtL l := by simp [wt]
   have hcw : cW (.mk op tx nm l a) = 1 + tx.length + cWL l := by simp [cW]
   have hll := hL.len
   refine cQcy (op, ⟨⟨tx⟩⟩, nm, L, a) ?_
   unfold vQcy
   dsimp only
   refine jaq (vs := taC (op, ⟨⟨tx⟩⟩, nm, L, a)) fun b1 H1 hb1 hE1 hs1 hr1 => ?_
   simp only [adr_add, NilCk_some]
   refine jaf ((hr1.cell 0).trans rfl) (jaj (fun hop => ?_) fun hop => ?_)
   ·refine hk none H1 hE1 ⟨[], ?_, List.nodup_nil, fun x hx => by cases hx⟩
    unfold fcN
    rw [if_pos hop]
    exact ⟨rfl, rfl⟩
   have hfc : fcN (.mk op tx nm l a) = .mk op tx nm (fcL l) a := by rw [fcN, if_neg hop]
   rw [hfc] at hk
   refine jaf ((hr1.cell 0).trans rfl) (jap ((hr1.cell 1).trans rfl) (jaf ((hr1.cell 2).trans rfl) (jaf ((hr1.cell 4).trans rfl) ?_)))
   refine jaq (vs := ndV op tx nm ⟨none, 0, 0⟩ a) fun b2 H2 hb2 hE2 hs2 hr2 => ?_
   have o0 : Own TD TQ H1.size H2 (.mk op tx nm [] a) (some b2) := Own.node (OwnL.nil H1.size H1) hE2 hb2 (Nat.le_refl _) hr2
   refine LoopT.ghost (fun m' (st : Int) H' => ∃ j : Nat, st = (j : Nat) ∧ m' = l.length - j ∧ j ≤ l.length ∧ Ext H1 H' ∧ Own TD TQ H1.size H' (.mk op tx nm (fcL (l.take j)) a) (some b2)) l.length ⟨0, rfl, rfl, Nat.zero_le _, hE2, o0⟩ ?_
   rintro next _ _ H3 ⟨j, rfl, rfl, hj, hE3, o3⟩ hnext
   have hb3 := cu hE3 ((hr1.cell 3).trans rfl)
   refine jam hb3 (jaj (fun hlt => ?_) fun hge => ?_)
   ·have hlt : (j : Int) < (L.len : Int) := hlt
    have hj' : j < l.length := by omega
    obtain ⟨X, hc, happ⟩ := o3.app hE3.size (by rw [jeS, List.length_take]; omega)
    refine jam (hc (.refl (fun _ => False) _) (fun _ _ _ h => h)) (jam hb3 (jjI (hL.ext hE1) hlen hj' fun ad v hcs hv => ⟨v, jaZ hE3 (fun h => h) hcs, ?_⟩))
    have hwj := jgj hj'
    have hcj := jhp hj'
    refine ih (by omega) (by omega) (hv.ext hE3) fun qc H4 hE4 oc => ?_
    refine jdW (cu hE4 hb3) (hc hE4 fun _ _ _ h => h) (jaq (vs := [jcy qc]) fun b3 H5 hb5 hE5 hs5 hr5 => ?_)
    have hE35 : Ext H3 H5 := eE hE4 hE5
    have hE15 : Ext H1 H5 := eE hE3 hE35
    refine jax (fun x hx => ?_) (happ hE35 (fun _ _ _ h => h) (oc.upd hE5 fun _ _ _ h => h) hr5 fun L' H6 hU6 hK6 => ?_)
    ·simp only [List.mem_cons, List.not_mem_nil, or_false] at hx
     have hc1 := jaZ hE15 (fun h => h) hcs
     rcases hx with rfl | rfl | rfl | rfl | rfl | rfl | rfl
     ·exact hc1.1
     ·exact hc1.2.1
     ·exact hc1.2.2.1
     ·exact hc1.2.2.2.1
     ·exact hc1.2.2.2.2.1
     ·exact cu hE35 hb3
     ·exact hc hE35 fun _ _ _ h => h
    have hE16 : Ext H1 H6 := hE15.trans hU6 fun x hx e => by omega
    refine jax (fun x hx => ?_) (hK6 fun H7 hU7 o7 => ?_)
    ·simp only [List.mem_cons, List.not_mem_nil, or_false] at hx
     have hc1 := jaZ hE16 (fun h => h) hcs
     rcases hx with rfl | rfl | rfl | rfl | rfl | rfl
     ·exact hc1.1
     ·exact hc1.2.1
     ·exact hc1.2.2.1
     ·exact hc1.2.2.2.1
     ·exact hc1.2.2.2.2.1
     ·exact cu hE16 ((hr1.cell 3).trans rfl)
    rw [← jgX hj'] at o7
    exact Lt.mk (u := ((j + 1 : Nat) : Int)) (by rw [jac] <;> omega) (hnext _ _ _ (by omega) ⟨j + 1, rfl, rfl, by omega, hE15.trans hU7 fun x hx e => by omega, o7⟩)
   ·have hge : ¬ (j : Int) < (L.len : Int) := hge
    have hjl : j = l.length := by omega
    rw [hjl, List.take_length] at o3
    exact hk (some b2) H3 (eE hE1 hE3) (o3.mono (by omega))
theorem jm9 : ∀ (m : Nat) {n : Nd} {v : TaV} {q : Option Nat} {fp : List Nat} {H : jaa}, wt n ≤ m → TaR H n v → TR H (fcN n) q fp → ∀ {k : Bool → jaa → Prop}, (∀ H', Ext H H' → k true H') → CallT Pg fQd1 [.agg ⟨taC v⟩, pN q] (.one (.c .bool)) H k := by
 intro m
 induction m with
 | zero =>
   intro n v q fp H hm hn
   obtain ⟨op, tx, nm, l, a, L, rfl, _⟩ := hn.some
   simp [wt] at hm
 | succ m ih =>
   intro n v q fp H hm hn ht k hk
   obtain ⟨op, tx, nm, l, a, L, rfl, rfl, hnm, htx, hlen, hl47, hL⟩ := hn.some
   have hwt : wt (.mk op tx nm l a) = 1 + wtL l := by simp [wt]
   refine cQcz (op, ⟨⟨tx⟩⟩, nm, L, a) _ ?_
   unfold vQcz
   dsimp only
   refine jaq (vs := taC (op, ⟨⟨tx⟩⟩, nm, L, a)) fun b1 H1 hb1 hE1 hs1 hr1 => ?_
   simp only [adr_add]
   have ht1 := ht.upd hE1 fun _ _ h => h
   by_cases hop : op < 0
   ·have hfc : fcN (.mk op tx nm l a) = .nil := by rw [fcN, if_pos hop]
    rw [hfc] at ht
    obtain ⟨rfl, _⟩ := ht
    refine Jn.mk (fun b H' => H1 = H' ∧ b = true) (fun kk hkk => jaf ((hr1.cell 0).trans rfl) (jaj (fun _ => hkk _ _ ⟨rfl, rfl⟩) fun h => absurd hop h)) ?_
    rintro _ _ ⟨rfl, rfl⟩
    refine (Br_true _ _).2 ?_
    refine Jn.mk (fun b H' => H1 = H' ∧ b = true) (fun kk hkk => jaf ((hr1.cell 0).trans rfl) (jaj (fun _ => hkk _ _ ⟨rfl, rfl⟩) fun h => absurd hop h)) ?_
    rintro _ _ ⟨rfl, rfl⟩
    exact hk H1 hE1
   have hfc : fcN (.mk op tx nm l a) = .mk op tx nm (fcL l) a := by rw [fcN, if_neg hop]
   rw [hfc] at ht1
   obtain ⟨b, X, qs, fl, rfl, hr, hv, hl, rfl⟩ := ht1
   have hXl : X.len = l.length := by rw [hv.len, List.length_map, hl.len, jeS]
   simp only [Option.map_some, NilCk_some, adr_add, Option.isNone_some]
   refine Jn.mk (fun b H' => H1 = H' ∧ b = false) (fun kk hkk => jaf ((hr1.cell 0).trans rfl) (jaj (fun h => absurd h hop) fun h => hkk _ _ ⟨rfl, rfl⟩)) ?_
   rintro _ _ ⟨rfl, rfl⟩
   refine (Br_false _ _).2 ?_
   refine Jn.mk (fun b H' => H1 = H' ∧ b = false) (fun kk hkk => ?_) ?_
   ·refine jaf ((hr.cell 0).trans rfl) (jaf ((hr1.cell 0).trans rfl) ?_)
    rw [show (op != op) = false by simp]
    refine (Br_false _ _).2 (jap ((hr.cell 1).trans rfl) (jap ((hr1.cell 1).trans rfl) ?_))
    rw [ja3, decide_eq_true rfl]
    refine (Br_false _ _).2 (jaf ((hr.cell 2).trans rfl) (jaf ((hr1.cell 2).trans rfl) ?_))
    rw [show (nm != nm) = false by simp]
    refine (Br_false _ _).2 (jaf ((hr.cell 4).trans rfl) (jaf ((hr1.cell 4).trans rfl) ?_))
    rw [show (a != a) = false by simp]
    refine (Br_false _ _).2 (jam ((hr.cell 3).trans rfl) (jam ((hr1.cell 3).trans rfl) (hkk _ _ ⟨rfl, ?_⟩)))
    rw [hXl, hlen]; simp
   rintro _ _ ⟨rfl, rfl⟩
   refine (Br_false _ _).2 ?_
   refine LoopT.ghost (fun m' (st : Int) H' => Ext H1 H' ∧ ∃ j : Nat, st = (j : Nat) ∧ m' = l.length - j ∧ j ≤ l.length) l.length ⟨.refl _ _, 0, rfl, rfl, Nat.zero_le _⟩ ?_
   rintro next _ _ H3 ⟨hE3, j, rfl, rfl, hj⟩ hnext
   have hb3 := cu hE3 ((hr1.cell 3).trans rfl)
   refine jam hb3 (jaj (fun hlt => ?_) fun hge => hk H3 (eE hE1 hE3))
   have hlt : (j : Int) < (L.len : Int) := hlt
   have hj' : j < l.length := by omega
   obtain ⟨_, f1, _, q1, _, e1, t1, _⟩ := TrL.get' hl j (by rw [jeS]; exact hj')
   rw [jlo hj'] at t1
   have hwj := jgj hj'
   refine jam hb3 (jjI ((hL.ext hE1).ext hE3) hlen hj' fun ad v hcs hv' => ⟨v, hcs, jam (cu hE3 ((hr.cell 3).trans rfl)) (jg8 (hv.upd hE3 fun _ _ h => h) e1 rfl ?_)⟩)
   refine ih (by omega) hv' (t1.upd hE3 fun _ _ h => h) fun H4 hE4 => jdW (cu (eE hE3 hE4) ((hr.cell 3).trans rfl)) (cu hE4 hb3) ((Br_false _ _).2 ?_)
   exact Lt.mk (u := ((j + 1 : Nat) : Int)) (by rw [jac] <;> omega) (hnext _ _ _ (by omega) ⟨eE hE3 hE4, j + 1, rfl, rfl, by omega⟩)
end
section
open Hc Hc.Lex Hc.Syn
variable {H : jaa}
theorem l40 {n : Nat} (h : n ≤ 8) : n ≤ 2 ^ 40 := by omega
theorem jjc : ∀ n, jjH (je7 n)
 | 0 => ⟨l40 (by simp), l40 (by simp), trivial⟩
 | n + 1 => ⟨l40 (by simp), l40 (by simp), jjc n, jjc n, trivial⟩
theorem jmL (n : Nat) : jjH (jjb (je7 n)) := ⟨l40 (by simp), l40 (by simp), ⟨l40 (by simp), l40 (by simp), ⟨l40 (by simp), l40 (by simp), trivial⟩, ⟨l40 (by simp), l40 (by simp), ⟨l40 (by simp), l40 (by simp), jjc n, trivial⟩, trivial⟩, trivial⟩, trivial⟩
def LF (H : jaa) (n : Nd) (q : Option Nat) : Prop := ∃ fp, TR H n q fp
theorem LF.ext {n : Nd} {q : Option Nat} {H' : jaa} (h : LF H n q) (hE : Ext H H') : LF H' n q := by
 obtain ⟨fp, h⟩ := h
 exact ⟨fp, h.upd hE fun _ _ h => h⟩
theorem jhx {op nm a : Int} {tx : Txt} {l : List Nd} {qs : List (Option Nat)} {m : Nat} (hm : qs.length = m) (hl : ∃ fl, TrL jdY jbd H l qs fl) {k : Option Nat → jaa → Prop} (hk : ∀ b H', Ext H H' → LF H' (.mk op tx nm l a) (some b) → k (some b) H') :
 Nw ⟨qs.map jcy⟩ jbd H fun b2 H3 => Nw ⟨ndV op tx nm ⟨some (adr b2), m, m⟩ a⟩ jdY H3 fun b3 H4 => k (some b3) H4 := by
 refine jaq (vs := qs.map jcy) fun b H1 _ hE1 _ hr1 => jaq (vs := ndV op tx nm ⟨some (adr b), m, m⟩ a) fun b3 H2 _ hE2 _ hr2 => hk b3 H2 (eE hE1 hE2) ?_
 obtain ⟨fl, hl⟩ := hl
 refine ⟨_, b3, ⟨some (adr b), m, m⟩, qs, fl, rfl, hr2, ⟨by simp [hm], .inr ⟨b, [], rfl, by simpa using hE2.row hr1 fun h => h, by simp [hm]⟩, Nat.le_refl _⟩, (hl.upd (eE hE1 hE2) fun _ _ h => h), rfl⟩
theorem jkX {op nm a : Int} {tx : Txt} {k : Option Nat → jaa → Prop} (hk : ∀ b H', Ext H H' → LF H' (.mk op tx nm [] a) (some b) → k (some b) H') : Nw ⟨ndV op tx nm ⟨none, 0, 0⟩ a⟩ jdY H fun b3 H4 => k (some b3) H4 := by
 refine jaq (vs := ndV op tx nm ⟨none, 0, 0⟩ a) fun b3 H2 _ hE2 _ hr2 => hk b3 H2 hE2 ⟨_, b3, ⟨none, 0, 0⟩, [], [], rfl, hr2, Vec.nil _ _, ⟨rfl, rfl⟩, rfl⟩
theorem jj1 {n : Nd} {q : Option Nat} (h : LF H n q) : ∃ fl, TrL jdY jbd H [n] [q] fl := by
 obtain ⟨f, h⟩ := h
 exact ⟨f ++ [], q, [], f, [], rfl, rfl, h, rfl, rfl⟩
theorem jm8 {n m : Nd} {q r : Option Nat} (h : LF H n q) (h2 : LF H m r) : ∃ fl, TrL jdY jbd H [n, m] [q, r] fl := by
 obtain ⟨f, h⟩ := h
 obtain ⟨f2, h2⟩ := jj1 h2
 exact ⟨f ++ f2, q, [r], f, f2, rfl, rfl, h, h2⟩
theorem jfI (hg : GL H) {n : Nat} (hn : n ≤ 100) {k : ByteArray → jaa → Prop} (hk : ∀ H', Ext H H' → k ⟨⟨jbX (jjb (je7 n))⟩⟩ H') : CallT Pg jnk [.int .i64 (n : Nat)] (.one (.c .str)) H k := by
 refine cQc0 _ ?_
 unfold vQc0
 refine jkX (op := 30) (tx := []) (nm := 1) (a := 0) (k := fun q H1 => LoopT (σ := Option Addr × Int) _ (q.map adr, 0) H1) fun b H1 hE1 h1 => ?_
 refine LoopT.ghost (fun m' (st : Option Addr × Int) H' => ∃ (j : Nat) (q : Option Nat), st = (q.map adr, ((j : Nat) : Int)) ∧ m' = n - j ∧ j ≤ n ∧ Ext H H' ∧ LF H' (je7 j) q) n ⟨0, some b, rfl, rfl, Nat.zero_le _, hE1, h1⟩ ?_
 rintro next _ _ H2 ⟨j, q, rfl, rfl, hj, hE2, h2⟩ hnext
 dsimp only
 refine jaj (fun hlt => ?_) fun hge => ?_
 ·refine jhx (op := 33) (tx := [43]) (nm := 0) (a := 0) (m := 2) (qs := [q, q]) (k := fun q' H4 => Lt (IntKind.wrap .i64 ((j : Int) + 1)) fun t1 => next (q'.map adr, t1) H4) rfl (jm8 h2 h2) fun b' H3 hE3 h3 => ?_
  exact Lt.mk (u := ((j + 1 : Nat) : Int)) (by rw [jac] <;> omega) (hnext (n - (j + 1)) _ _ (by omega) ⟨j + 1, some b', rfl, rfl, by omega, eE hE2 hE3, h3⟩)
 ·have hjn : j = n := by omega
  subst hjn
  refine jkX (op := 3) (tx := [102, 117, 110, 99]) (nm := 0) (a := 0) (k := fun q4 H5 => Nw #[.pointer (q.map adr)] jbd H5 fun b5 H6 => Nw #[.int .i64 22, .string ByteArray.empty, .int .i64 0, .slice (some (adr b5)) 1 1, .int .i64 0] jdY H6 fun b6 H7 =>
   Nw #[.pointer (some (adr b6))] jbd H7 fun b7 H8 =>
   Nw #[.int .i64 5, .string ByteArray.empty, .int .i64 0, .slice (some (adr b7)) 1 1, .int .i64 0] jdY H8 fun b8 H9 =>
   Nw #[.pointer (q4.map adr), .pointer (some (adr b8))] jbd H9 _) fun b4 H5 hE5 h4 => ?_
  refine jhx (op := 22) (tx := []) (nm := 0) (a := 0) (m := 1) (qs := [q]) (k := fun q6 H7 => Nw #[.pointer (q6.map adr)] jbd H7 fun b7 H8 =>
   Nw #[.int .i64 5, .string ByteArray.empty, .int .i64 0, .slice (some (adr b7)) 1 1, .int .i64 0] jdY H8 _) rfl (jj1 (h2.ext hE5)) fun b6 H7 hE7 h6 => ?_
  refine jhx (op := 5) (tx := []) (nm := 0) (a := 0) (m := 1) (qs := [some b6]) (k := fun q8 H9 => Nw #[.pointer (some (adr b4)), .pointer (q8.map adr)] jbd H9 _) rfl (jj1 h6) fun b8 H9 hE9 h8 => ?_
  refine jhx (op := 4) (tx := [102]) (nm := 0) (a := 0) (m := 2) (qs := [some b4, some b8]) (k := fun q10 H11 => Nw #[.pointer (q10.map adr)] jbd H11 _) rfl (jm8 (h4.ext (eE hE7 hE9)) h8) fun b10 H11 hE11 h10 => ?_
  refine jhx (op := 1) (tx := []) (nm := 0) (a := 0) (m := 1) (qs := [some b10]) (k := fun q12 H13 => CallT Pg fQca [.pointer (q12.map adr)] (.one (.c .str)) H13 _) rfl (jj1 h10) fun b12 H13 hE13 h12 => ?_
  have hE : Ext H H13 := eE hE2 (eE hE5 (eE hE7 (eE hE9 (eE hE11 hE13))))
  obtain ⟨fp, h12⟩ := h12
  exact jiE (hg.ext hE) (n := jjb (je7 j)) h12 (jmL j) (jmp j) fun H14 hE14 => hk H14 (eE hE hE14)
end
section
open Hc Hc.Lex Hc.Syn
variable {H : jaa}
theorem kx {k : ByteArray → jaa → Prop} {H' : jaa} {t t' : Txt} (h : k ⟨⟨t⟩⟩ H') (e : t = t') : k ⟨⟨t'⟩⟩ H' := e ▸ h
theorem s_rexpr : ∀ (m : Nat) {n : Nd}, cnt n ≤ m → okN n → isE n → jcM n → cnt n ≤ 2 ^ 30 → Ex n := by
 intro m
 induction m with
 | zero => intro n hm hn; have := jbQ hn; omega
 | succ m ih =>
   intro n hm hn he hi hc30 H q hq k hk
   refine cQdh _ ?_
   unfold vQdh
   have hlen := jbb hn hi
   have hq0 := hq
   obtain ⟨op, tx, nm, l, a, c, L, rfl, rfl, na⟩ := hq.some' hn
   simp only [Option.map_some, NilCk_some, adr_add]
   have hcn : cnt (.mk op tx nm l a) = 1 + jaK l := by simp [cnt]
   have htl : tx.length ≤ 16 := hn.tlen
   have hE1 : 30 ≤ op := he.1
   have hE2 : op ≤ 38 := he.2
   have kid : ∀ {x : Nd}, x ∈ l → isE x → Ex x ∧ okN x ∧ jcM x ∧ cnt x ≤ 2 ^ 30 ∧ (exT x).length + 2 ≤ 64 * cnt x := fun {x} hx hxe => by
    have h1 := jaH hx
    have h2 := jaM hn.2 _ hx
    have h3 := jaE hi.2 _ hx
    exact ⟨ih (by omega) h2 hxe h3 (by omega), h2, h3, by omega, jbb h2 h3⟩
   refine jaf na.c0 ?_
   by_cases e : op = 30
   ·subst e
    obtain ⟨_, h0, _⟩ := ok30 hn
    exact jah rfl (jaf na.c2 (jkW h0 hi.1.2 (kx (hk H (.refl _ _)) ex30)))
   refine jai e ?_
   by_cases e : op = 32
   ·subst e
    obtain ⟨_, x, rfl, hx, hxo⟩ := ok32 hn
    obtain ⟨ad, q2, ix, hc, hl2⟩ := na.kid 0 x rfl
    obtain ⟨op2, tx2, nm2, l2, a2, c2, L2, rfl, rfl, na2⟩ := hl2.some' hx
    have htx2 : tx2.length ≤ 16 := hx.tlen
    refine jah rfl (jap na.c1 (Cat (by simp; omega) (jam na.c3 (ix rfl (jan hc ?_)))))
    simp only [Option.map_some, NilCk_some, adr_add]
    exact jap na2.c1 (Cat (by simp; omega) (kx (hk H (.refl _ _)) (by rw [ex32]; simp [Nd.tx])))
   refine jai e ?_
   by_cases e : op = 33
   ·subst e
    obtain ⟨hlv, x, y, rfl, hx, hy, hxe, hye⟩ := ok33 hn
    obtain ⟨ex, _, hxi, hx30, hxl⟩ := kid (x := x) (by simp) hxe
    obtain ⟨ey, _, hyi, hy30, hyl⟩ := kid (x := y) (by simp) hye
    simp only [jaK] at hcn
    obtain ⟨ad0, q0, ix0, hc0, hl0⟩ := na.kid 0 x rfl
    obtain ⟨ad1, q1, ix1, hc1, hl1⟩ := na.kid 1 y rfl
    have hp0 := jdk (jaX (jat tx) false x) (exT x)
    have hp1 := jdk (jaX (jat tx) true y) (exT y)
    have hb : jeH (.mk 33 tx nm [x, y] a) = jat tx - 1 := by
     show (if (33 : Int) = 35 then (-1 : Int) else if (33 : Int) = 33 then (if 0 < jat tx then jat tx - 1 else 7) else 7) = _
     rw [if_neg (by decide), if_pos rfl, if_pos hlv]
    refine jah rfl (jam na.c3 (ix0 rfl (jan hc0 (jap na.c1 (jam na.c3 (ix1 rfl (jan hc1 ?_)))))))
    refine jiW (q := some c) hn hq0 fun H1 e1 => jaQ e1 (sc hc1 (sc na.c3 (sc na.c1 (sc hc0 (sc na.c3 sn))))) ?_
    rw [hb]
    refine jfy ex hx hxi hx30 (hl0.ext e1) (jlY hx hlv) fun H2 e2 => jaQ (eE e1 e2) (sc hc1 (sc na.c3 (sc na.c1 (sc na.c3 sn)))) ?_
    have e12 := eE e1 e2
    refine Cat (by simp; omega) (Cat (by simp; omega) (Cat (by simp; omega) ?_))
    refine jiW (q := some c) hn (hq0.ext e12) fun H3 e3 => jaQ (eE e12 e3) (sc hc1 (sc na.c3 (sc na.c1 (sc hc0 (sc na.c3 sn))))) ?_
    have e13 := eE e12 e3
    rw [hb]
    have hle := jcw tx
    refine Lt.mk (u := jat tx - 1 + 1) (by rw [jac] <;> omega) (jfy ey hy hyi hy30 (hl1.ext e13) (jka hy hlv) fun H4 e4 => jaQ (eE e13 e4) (sc na.c3 (sc na.c1 (sc hc0 (sc na.c3 sn)))) ?_)
    exact Cat (by simp; omega) (kx (hk H4 (eE e13 e4)) (by rw [ex33]; simp))
   refine jai e ?_
   by_cases e : op = 34
   ·subst e
    obtain ⟨_, x, rfl, hx, hxe⟩ := ok34 hn
    obtain ⟨ex, _, hxi, hx30, hxl⟩ := kid (x := x) (by simp) hxe
    simp only [jaK] at hcn
    obtain ⟨ad0, q0, ix0, hc0, hl0⟩ := na.kid 0 x rfl
    have hp0 := jdk (jaX 7 false x) (exT x)
    refine jah rfl (jap na.c1 (jam na.c3 (ix0 rfl (jan hc0 ?_))))
    refine jfy ex hx hxi hx30 hl0 (need_7 hx) fun H2 e2 => jaQ e2 (sc na.c3 (sc na.c1 sn)) ?_
    exact Cat (by omega) (kx (hk H2 e2) (by rw [ex34]))
   refine jai e ?_
   by_cases e : op = 35
   ·subst e
    obtain ⟨_, x, y, z, rfl, hx, hy, hz, hxe, hye, hze⟩ := ok35 hn
    obtain ⟨ex, _, hxi, hx30, hxl⟩ := kid (x := x) (by simp) hxe
    obtain ⟨ey, _, hyi, hy30, hyl⟩ := kid (x := y) (by simp) hye
    obtain ⟨ez, _, hzi, hz30, hzl⟩ := kid (x := z) (by simp) hze
    simp only [jaK] at hcn
    obtain ⟨ad0, q0, ix0, hc0, hl0⟩ := na.kid 0 x rfl
    obtain ⟨ad1, q1, ix1, hc1, hl1⟩ := na.kid 1 y rfl
    obtain ⟨ad2, q2, ix2, hc2, hl2⟩ := na.kid 2 z rfl
    have hp0 := jdk (jaX 0 false x) (exT x)
    refine jah rfl (jam na.c3 (ix0 rfl (jan hc0 (jam na.c3 (ix1 rfl (jan hc1 (jam na.c3 (ix2 rfl (jan hc2 ?_)))))))))
    refine jfy ex hx hxi hx30 hl0 (need_0 hx) fun H2 e2 => jaQ e2 (sc hc2 (sc na.c3 (sc hc1 (sc na.c3 (sc na.c3 sn))))) (Cat (by simp; omega) ?_)
    refine ey (hl1.ext e2) fun H3 e3 => jaQ (eE e2 e3) (sc hc2 (sc na.c3 (sc na.c3 (sc hc0 (sc na.c3 sn))))) (Cat (by simp; omega) (Cat (by simp; omega) ?_))
    refine ez (hl2.ext (eE e2 e3)) fun H4 e4 => jaQ (eE (eE e2 e3) e4) (sc na.c3 (sc hc1 (sc na.c3 (sc hc0 (sc na.c3 sn))))) (Cat (by simp; omega) ?_)
    exact kx (hk H4 (eE (eE e2 e3) e4)) (by rw [ex35]; simp)
   refine jai e ?_
   by_cases e : op = 36
   ·subst e
    obtain ⟨_, hks⟩ := ok36 hn
    have htot := jgO hn.2 hi.2 true
    refine jah rfl (LoopT.ghost (fun m (s : ByteArray × Int) H' => ∃ (i : Nat) (t : Txt), Ext H H' ∧ s = (⟨⟨t⟩⟩, ((i : Nat) : Int)) ∧ m = l.length - i ∧ i ≤ l.length ∧ jbe true (jhu l) = t ++ jbe (i == 0) (jhu (l.drop i))) l.length ⟨0, [], .refl _ _, rfl, rfl, Nat.zero_le _, rfl⟩ ?_)
    rintro next _ _ H1 ⟨i, t, e1, rfl, rfl, hi', hs⟩ hnext
    dsimp only
    have hsl := congrArg List.length hs
    rw [List.length_append] at hsl
    refine jam (cu e1 na.c3) (jaj (fun hlt => ?_) fun hge => ?_)
    ·rw [na.len] at hlt
     have hil : i < l.length := by omega
     have hg : l[i]? = some l[i] := List.getElem?_eq_getElem hil
     obtain ⟨hxk, hxe⟩ := hks _ (List.getElem_mem hil)
     obtain ⟨ex, _, hxi, hx30, hxl⟩ := kid (List.getElem_mem hil) hxe
     obtain ⟨ad, q2, ix, hc, hl2⟩ := na.kid i _ hg
     have hd := jh3 hg
     rw [hd, jgh] at hs
     have hll := jbw hn.2
     refine Jn.mk (fun j H' => H1 = H' ∧ j = (⟨⟨t ++ (if i = 0 then [] else [44, 32])⟩⟩ : ByteArray)) (fun kk hkk => ?_) ?_
     ·refine jaj (fun hp => Cat (by simp; omega) (hkk _ _ ⟨rfl, by rw [if_neg (by omega)]⟩)) fun hp => hkk _ _ ⟨rfl, by rw [if_pos (by omega), List.append_nil]⟩
     rintro _ _ ⟨rfl, rfl⟩
     refine jam (cu e1 na.c3) (ix rfl (jan (cu e1 hc) (ex (hl2.ext e1) fun H2 e2 => ?_)))
     refine Cat ?_ (Lt.mk (u := ((i + 1 : Nat) : Int)) (by rw [jac] <;> omega) (hnext (l.length - (i + 1)) _ _ (by omega) ⟨i + 1, _, eE e1 e2, rfl, rfl, by omega, ?_⟩))
     ·have : (if i = 0 then ([] : Txt) else [44, 32]).length ≤ 2 := by split <;> simp
      simp only [List.length_append]; omega
     ·rw [hs]; simp
    ·rw [na.len] at hge
     have hil : i = l.length := by omega
     subst hil
     rw [List.drop_length] at hs
     have hs : jbe true (jhu l) = t := by
      rw [hs]; simp [jhu, jbe]
     subst hs
     refine jap (cu e1 na.c1) (Cat (by simp; omega) (Cat (by simp; omega) (Cat (by simp; omega) ?_)))
     exact kx (hk H1 e1) (by rw [ex36]; simp)
   refine jai e ?_
   by_cases e : op = 37
   ·subst e
    refine jah rfl (jap na.c1 (Cat (by simp; omega) (Cat (by simp; omega) (kx (hk H (.refl _ _)) (by rw [ex37]; simp)))))
   refine jai e (jap na.c1 (kx (hk H (.refl _ _)) ?_))
   have : op = 31 ∨ op = 38 := by omega
   rcases this with rfl | rfl
   ·exact ex31
   ·exact ex38
theorem ex_of {n : Nd} (hn : okN n) (he : isE n) (hi : jcM n) (hc : cnt n ≤ 2 ^ 30) : Ex n := s_rexpr _ (Nat.le_refl _) hn he hi hc
structure Lst (H : jaa) (L : Sl) (l : List Nd) : Prop where
 len : L.len = l.length
 kid : ∀ i n, l[i]? = some n → ∃ ad q, (∀ {k : Addr → Prop} {j : Int}, j = (i : Nat) → k ad → IxA 1 L j k) ∧ jar H ad = some (.pointer (q.map adr)) ∧ LD H n q
theorem NDx.lst {op nm : Int} {tx : Txt} {l : List Nd} {c : Nat} {L : Sl} (h : NDx H op tx nm l c L) : Lst H L l := ⟨h.len, h.kid⟩
theorem Lst.ext {L : Sl} {l : List Nd} {H' : jaa} (h : Lst H L l) (hE : Ext H H') : Lst H' L l := ⟨h.len, fun i n hi => by
 obtain ⟨ad, q, h1, h2, h3⟩ := h.kid i n hi
 exact ⟨ad, q, h1, cu hE h2, h3.ext hE⟩⟩
theorem jjD : ∀ {b : Bool} {ts : List Txt}, (jbe b ts).length ≤ (ts.map fun t => t.length + 2).sum
 | _, [] => by simp [jbe]
 | b, t :: ts => by
   have := jjD (b := false) (ts := ts)
   rw [jht]
   simp only [List.map_cons, List.sum_cons]
   split <;> omega
theorem jjt {L : Sl} {l : List Nd} (h : Lst H L l) (hok : okL l) (hl : jaK l ≤ 2 ^ 30) {k : ByteArray → jaa → Prop} (hk : k ⟨⟨jb1 l⟩⟩ H) : CallT Pg fQd7 [.slice L.a L.len L.cap] (.one (.c .str)) H k := by
 refine cQc5 _ ?_
 unfold vQc5
 have hll := jbw hok
 have htot : (jbe true (l.map Nd.tx)).length ≤ 18 * l.length := by
  have key : ∀ (l : List Nd), okL l → ((l.map Nd.tx).map fun t => t.length + 2).sum ≤ 18 * l.length := by
   intro l
   induction l with
   | nil => simp
   | cons n l ih =>
     intro ho
     have := ih ho.2
     have h16 : n.tx.length ≤ 16 := ho.1.tlen
     simp only [List.map_cons, List.sum_cons, List.length_cons]; omega
  exact Nat.le_trans jjD (key l hok)
 refine LoopT.ghost (fun m (s : ByteArray × Int) H' => ∃ (i : Nat) (t : Txt), H = H' ∧ s = (⟨⟨t⟩⟩, ((i : Nat) : Int)) ∧ m = l.length - i ∧ i ≤ l.length ∧ jbe true (l.map Nd.tx) = t ++ jbe (i == 0) ((l.drop i).map Nd.tx)) l.length ⟨0, [], rfl, rfl, rfl, Nat.zero_le _, rfl⟩ ?_
 rintro next _ _ _ ⟨i, t, rfl, rfl, rfl, hi', hs⟩ hnext
 dsimp only
 have hsl := congrArg List.length hs
 rw [List.length_append] at hsl
 rw [h.len]
 refine jaj (fun hlt => ?_) fun hge => ?_
 ·have hil : i < l.length := by omega
  have hg : l[i]? = some l[i] := List.getElem?_eq_getElem hil
  have hx := jaM hok _ (List.getElem_mem hil)
  obtain ⟨ad, q2, ix, hc, hl2⟩ := h.kid i _ hg
  obtain ⟨op2, tx2, nm2, l2, a2, c2, L2, e, rfl, na2⟩ := hl2.some' hx
  rw [jdb hg] at hs
  have ht2 : l[i].tx = tx2 := by rw [e]; rfl
  have h16 := hx.tlen
  rw [ht2] at hs h16
  refine Jn.mk (fun j H' => H = H' ∧ j = (⟨⟨t ++ (if i = 0 then [] else [44, 32])⟩⟩ : ByteArray)) (fun kk hkk => ?_) ?_
  ·refine jaj (fun hp => Cat (by simp; omega) (hkk _ _ ⟨rfl, by rw [if_neg (by omega)]⟩)) fun hp => hkk _ _ ⟨rfl, by rw [if_pos (by omega), List.append_nil]⟩
  rintro _ _ ⟨rfl, rfl⟩
  refine ix rfl (jan hc ?_)
  simp only [Option.map_some, NilCk_some, adr_add]
  refine jap na2.c1 (Cat ?_ (Lt.mk (u := ((i + 1 : Nat) : Int)) (by rw [jac] <;> omega) (hnext (l.length - (i + 1)) _ _ (by omega) ⟨i + 1, _, rfl, rfl, rfl, by omega, ?_⟩)))
  ·have : (if i = 0 then ([] : Txt) else [44, 32]).length ≤ 2 := by split <;> simp
   simp only [List.length_append]; omega
  ·rw [hs]; simp
 ·have hil : i = l.length := by omega
  subst hil
  rw [List.drop_length] at hs
  exact kx hk (by unfold jb1; rw [hs]; simp [jbe])
end
end Go.Proofs.YtfpmgpblhhcpgaaGreatDoor
