/-
 The examples at the head of all statements.
-/
import Derived.Test.YtfpmgpblhhcpgaaGreatDoorVCut
import Derived.Test.YtfpmgpblhhcpgaaGreatDoorHcPrnB
import Derived.Test.YtfpmgpblhhcpgaaGreatDoorHcSynB
import Derived.Test.YtfpmgpblhhcpgaaGreatDoorHcLists
import Derived.Test.YtfpmgpblhhcpgaaGreatDoorHcRN
import Derived.Test.YtfpmgpblhhcpgaaGreatDoorLexA
import Derived.Test.YtfpmgpblhhcpgaaGreatDoorHcLexApart
set_option linter.unusedVariables false
set_option linter.unusedSimpArgs false
namespace Go.Proofs.YtfpmgpblhhcpgaaGreatDoor
set_option maxRecDepth 100000
section
open Hc Hc.Lex Hc.Syn
variable {H : jaa}
mutual
def jki : Nd → Bool
 | .nil => true
 | .mk _ tx nm l _ => decide (tx.length ≤ 1000) && decide (l.length ≤ 1000) && decide (0 ≤ nm) && decide (nm ≤ 1000) && jkb l
def jkb : List Nd → Bool
 | [] => true
 | n :: ns => jki n && jkb ns
end
mutual
theorem jkk : ∀ {n : Nd}, jki n = true → jn1 n ∧ jgk n
 | .nil, _ => ⟨trivial, trivial⟩
 | .mk _ tx nm l _, h => by
   simp only [jki, Bool.and_eq_true, decide_eq_true_eq] at h
   obtain ⟨g1, g2⟩ := jir h.2
   exact ⟨⟨by omega, by omega, g1⟩, ⟨by omega, by omega⟩, g2⟩
theorem jir : ∀ {l : List Nd}, jkb l = true → txtL l ∧ i64L l
 | [], _ => ⟨trivial, trivial⟩
 | n :: ns, h => by
   simp only [jkb, Bool.and_eq_true] at h
   obtain ⟨g1, g2⟩ := jkk h.1
   obtain ⟨k1, k2⟩ := jir h.2
   exact ⟨⟨g1, k1⟩, g2, k2⟩
end
abbrev exA : Txt := [115, 121, 115, 116, 101, 109, 32, 77, 32, 114, 101, 97, 100, 115, 32, 86, 32, 119, 114, 105, 116, 101, 115, 32, 80, 123, 80, 46, 120, 61, 80, 46, 120, 43, 86, 46, 120, 59, 125, 102, 117, 110, 99, 32, 102, 40, 97, 41, 123, 114, 101, 116, 117, 114, 110, 32, 97, 45, 40, 49, 45, 50, 41, 42, 45, 51, 59, 125]
abbrev exB : Txt := [115, 121, 115, 116, 101, 109, 32, 83, 32, 123, 32, 108, 101, 116, 32, 120, 32, 61, 32, 59, 32, 125]
abbrev exC : Txt := [115, 121, 115, 116, 101, 109, 32, 77, 32, 114, 101, 97, 100, 115, 32, 86, 32, 119, 114, 105, 116, 101, 115, 32, 80, 32, 123, 10, 9, 80, 46, 120, 32, 61, 32, 80, 46, 120, 32, 43, 32, 86, 46, 120, 59, 10, 125, 10, 102, 117, 110, 99, 32, 102, 40, 97, 41, 32, 123, 10, 9, 114, 101, 116, 117, 114, 110, 32, 97, 32, 45, 32, 40, 49, 32, 45, 32, 50, 41, 32, 42, 32, 45, 51, 59, 10, 125, 10]
def chkA : R Nd → Bool
 | some (.ok (.mk op tx nm [x, y] a, _)) => jki (.mk op tx nm [x, y] a) && (jkf (.mk op tx nm [x, y] a) == exC) && !jff (.mk op tx nm [x, y] a) x
 | _ => false
def chkB : R Nd → Bool
 | some (.error (p, e)) => p == 19 && e == 100
 | _ => false
theorem exA_ok : chkA (jbn ⟨⟨exA⟩⟩) = true := by kernel_rfl
theorem exB_ok : chkB (jbn ⟨⟨exB⟩⟩) = true := by kernel_rfl
theorem jnE : ∃ op tx nm x y a s, jbn ⟨⟨exA⟩⟩ = some (.ok (.mk op tx nm [x, y] a, s)) ∧ (jn1 (.mk op tx nm [x, y] a) ∧ jgk (.mk op tx nm [x, y] a)) ∧ jkf (.mk op tx nm [x, y] a) = exC ∧ jff (.mk op tx nm [x, y] a) x = false := by
 have h := exA_ok
 unfold chkA at h
 split at h
 ·rename_i op tx nm x y a s e
  simp only [Bool.and_eq_true, beq_iff_eq, Bool.not_eq_true'] at h
  exact ⟨op, tx, nm, x, y, a, s, e, jkk h.1.1, h.1.2, h.2⟩
 ·cases h
theorem jlE : ∃ p e, jbn ⟨⟨exB⟩⟩ = some (.error (p, e)) ∧ p = 19 ∧ e = 100 := by
 have h := exB_ok
 unfold chkB at h
 split at h
 ·rename_i p e he
  simp only [Bool.and_eq_true, beq_iff_eq] at h
  exact ⟨p, e, he, h.1, h.2⟩
 ·cases h
theorem jjk {k : Int × Int × Bool → jaa → Prop} (hk : k (0, 0, true) H) : CallT Pg jnr [.nilIface] (.tup [(.c (.int .i64)), (.c (.int .i64)), (.c .bool)]) H k := by
 refine cQct _ ?_
 unfold vQct
 exact .inl ⟨rfl, (Br_true _ _).2 hk⟩
theorem jhz {g : Nat} {p e : Int} (hr : Row H g jk4 [.int .i64 p, .int .i64 e]) {k : Int × Int × Bool → jaa → Prop} (hk : k (p, e, e != 0) H) : CallT Pg jnr [.iface jlD (.pointer (some (adr g)))] (.tup [(.c (.int .i64)), (.c (.int .i64)), (.c .bool)]) H k := by
 refine cQct _ ?_
 unfold vQct
 refine .inr ⟨⟨_, _, rfl⟩, (Br_false _ _).2 (.inl ⟨some (adr g), rfl, ?_⟩)⟩
 simp only [Jn, Bool.not_true, Br_false, Option.isNone_some, NilCk_some, adr_add]
 exact jag ((hr.cell 0).trans rfl) (jag ((hr.cell 1).trans rfl) (jag ((hr.cell 1).trans rfl) hk))
theorem ParOut.ok {lo : Nat} {s : ByteArray} {d : Option Addr} {v : Value} {n : Nd} {s' : PS} (h : ParOut lo H s d v) (e : jbn s = some (.ok (n, s'))) : v = .nilIface ∧ ∃ q, d = some (adr q) ∧ lo ≤ q ∧ Ow lo H n q := by
 unfold ParOut at h; rw [e] at h; exact h
theorem ParOut.err {lo : Nat} {s : ByteArray} {d : Option Addr} {v : Value} {p c : Int} (h : ParOut lo H s d v) (e : jbn s = some (.error (p, c))) : d = none ∧ ∃ g, v = .iface jlD (.pointer (some (adr g))) ∧ lo ≤ g ∧ Row H g jk4 [.int .i64 p, .int .i64 c] := by
 unfold ParOut at h; rw [e] at h; exact h
theorem s_shown (hg : GL H) {k : Bool → jaa → Prop} (hk : ∀ H', Ext H H' → k true H') : CallT Pg fQb7 [] (.one (.c .bool)) H k := by
 refine cQcs ?_
 unfold vQcs
 obtain ⟨op, tx, nm, x, y, a, s, eA, ⟨htx, hi⟩, hpr, hsm⟩ := jnE
 obtain ⟨p, e, eB, rfl, rfl⟩ := jlE
 refine jg5 hg.ge hg.tab fun d1 v1 H1 hE1 ho1 => ?_
 obtain ⟨rfl, q, rfl, _, hq⟩ := ho1.ok eA
 have g1 := hg.ext hE1
 refine jg5 g1.ge g1.tab fun d2 v2 H2 hE2 ho2 => ?_
 obtain ⟨rfl, g, rfl, _, hr⟩ := ho2.err eB
 have g2 := g1.ext hE2
 refine jhz hr ?_
 obtain ⟨fp, ht, hnd, _⟩ := (hq.upd hE2 fun _ _ _ h => h).ex
 have ht0 := ht
 obtain ⟨b, L, qs, fl, hb, hrow, hv, hl, hfp⟩ := ht
 cases hb
 have hLl : L.len = 2 := by rw [hv.len, List.length_map, hl.len]; rfl
 refine Jn.mk (fun j H' => H2 = H' ∧ j = false) (fun kk hkk => ?_) ?_
 ·refine .inl ⟨rfl, ?_⟩
  simp only [Bool.not_true, Br_false, Option.isNone_some, NilCk_some, adr_add]
  exact jao ((hrow.cell 3).trans rfl) (hkk _ _ ⟨rfl, by rw [hLl]; rfl⟩)
 rintro _ _ ⟨rfl, rfl⟩
 refine (Br_false _ _).2 ?_
 refine s_Print (q := some q) g2 ht0 htx hi fun H3 hE3 => ?_
 have ht3 := ht0.upd hE3 fun _ _ h => h
 refine jof (qa := some q) (qb := some q) ht3 hnd ht3 htx fun H4 hE4 => ?_
 have hE24 := hE3.trans hE4 fun _ _ h => h
 have ht4 := ht0.upd hE24 fun _ _ h => h
 have hrow4 := hE24.row hrow fun h => h
 have hv4 := hv.upd hE24 fun _ _ h => h
 obtain ⟨q1, qs1, f1, f2, hqs, _, hx, _⟩ := hl
 simp only [NilCk_some, adr_add]
 refine jao ((hrow4.cell 3).trans rfl) (jcy hv4 (by decide) (by rw [hqs]; simp) fun ad hc _ => ?_)
 have hc : hcell H4 ad = some (jb3 q1) := hc.trans (by simp [hqs])
 refine jaG hc (jof (qa := some q) (qb := q1) ht4 hnd (hx.upd hE24 fun _ _ h => h) htx fun H5 hE5 => ?_)
 rw [hsm, jfJ, hpr]
 simp only [Jn]
 have hE : Ext H H5 := ((hE1.trans hE2 fun _ _ h => h).trans hE24 fun _ _ h => h).trans hE5 fun _ _ h => h
 refine jap rfl (jap rfl ?_)
 refine (Br_true _ _).2 ((Br_true _ _).2 ((Br_true _ _).2 ?_))
 exact (congrArg (fun b => k b H5) (beq_iff_eq.2 rfl)).mpr (hk H5 hE)
end
end Go.Proofs.YtfpmgpblhhcpgaaGreatDoor
namespace Go.Proofs.YtfpmgpblhhcpgaaGreatDoor.Hc.Syn
set_option maxRecDepth 100000
section
open Go Hc Hc.Lex
mutual
def nz : Nd → Prop
 | .nil => False
 | .mk _ _ _ l _ => nzL l
def nzL : List Nd → Prop
 | [] => True
 | n :: ns => nz n ∧ nzL ns
end
mutual
def wt : Nd → Nat
 | .nil => 0
 | .mk _ _ _ l _ => 1 + wtL l
def wtL : List Nd → Nat
 | [] => 0
 | n :: ns => wt n + wtL ns
end
theorem jmp (l k : List Nd) : wtL (l ++ k) = wtL l + wtL k := by
 induction l with
 | nil => simp [wtL]
 | cons n l ih => simp only [List.cons_append, wtL, ih]; omega
theorem jms {l k : List Nd} (h : nzL l) (h2 : nzL k) : nzL (l ++ k) := by
 induction l with
 | nil => exact h2
 | cons n l ih => exact ⟨h.1, ih h.2⟩
def Zd {α : Type} (r : R α) (Q : α → PS → Prop) : Prop := ∀ a s', r = some (.ok (a, s')) → Q a s'
section
variable {α β : Type} {P Q : α → PS → Prop}
theorem Zd.bind {A : R α} {F : α → PS → R β} {Q : β → PS → Prop} (h : Zd A P) (hF : ∀ a s, P a s → Zd (F a s) Q) : Zd (A.bind F) Q := fun b s' e => by
 obtain ⟨a, s, h1, h2⟩ := jal e
 exact hF a s (h a s h1) b s' h2
theorem Zd.ret {a : α} {s : PS} (h : Q a s) : Zd (jaE a s) Q := fun b s' e => by
 obtain ⟨rfl, rfl⟩ := jaK e; exact h
theorem Zd.fail {e : Int} {s : PS} : Zd (jc2 e s) Q := fun b s' e => by cases e
theorem Zd.no : Zd none Q := fun b s' e => by cases e
theorem Zd.mono {A : R α} (h : Zd A P) (hpq : ∀ a s, P a s → Q a s) : Zd A Q := fun a s' e => hpq _ _ (h a s' e)
theorem Zd.ite {c : Prop} [Decidable c] {A B : R α} (h1 : c → Zd A Q) (h2 : ¬ c → Zd B Q) : Zd (if c then A else B) Q := by
 split
 ·exact h1 ‹_›
 ·exact h2 ‹_›
end
abbrev ZN (p : Nat) (n : Nd) (s : PS) : Prop := nz n ∧ wt n + 8 * s.N ≤ p
abbrev ZL (p : Nat) (l : List Nd) (s : PS) : Prop := nzL l ∧ wtL l + 8 * s.N ≤ p
theorem z_must {w : Txt} {s : PS} : Zd (jaA w s) fun _ s' => s'.N + 1 = s.N := fun _ _ e => by
 obtain ⟨h, _, rfl⟩ := jc4 e; exact jaP (jbv h)
theorem z_name {s : PS} : Zd (jaQ s) fun _ s' => s'.N + 1 = s.N := fun _ _ e => by
 obtain ⟨h, _, rfl⟩ := jdJ e; exact jaP (jh6 h)
theorem z_down {w : Txt} {s : PS} : Zd (jby w s) fun _ s' => s'.N + 1 = s.N := fun _ _ e => by
 obtain ⟨h, _, _, rfl⟩ := jbx e; exact jaP (jbv h)
theorem z_up {w : Txt} {s : PS} : Zd (upP w s) fun _ s' => s'.N + 1 = s.N := fun _ _ e => by
 obtain ⟨h, rfl⟩ := jkL e; exact jaP (jbv h)
theorem z_lim {n m : Int} {s : PS} : Zd (jaZ n m s) fun _ s' => s' = s := fun _ _ e => (jbX e).2
theorem jcx (s : PS) : s.take.N ≤ s.N := by
 show s.toks.tail.length ≤ s.toks.length
 rw [List.length_tail]; omega
structure ZE (f : Nat) : Prop where
 ex : ∀ lv s, Zd (exP f lv s) (ZN (8 * s.N))
 un : ∀ w s, Zd (unP f w s) (ZN (8 * s.N))
 bi : ∀ lv n s, nz n → Zd (jhb f lv n s) (ZN (wt n + 8 * s.N))
 pr : ∀ s, Zd (jbh f s) (ZN (8 * s.N))
 ar : ∀ s, Zd (jb5 f s) (ZL (8 * s.N))
 al : ∀ l s, nzL l → Zd (jcE f l s) (ZL (wtL l + 8 * s.N))
theorem zE : ∀ f, ZE f
 | 0 => ⟨fun _ _ => by rw [exP]; exact Zd.no, fun _ _ => by rw [unP]; exact Zd.no, fun _ _ _ _ => by rw [jhb]; exact Zd.no, fun _ => by rw [jbh]; exact Zd.no, fun _ => by rw [jb5]; exact Zd.no, fun _ _ _ => by rw [jcE]; exact Zd.no⟩
 | f + 1 => by
   have ih := zE f
   have X := fun s => ih.ex 0 s
   refine ⟨fun lv s => ?_, fun w s => ?_, fun lv n s hn => ?_, fun s => ?_, fun s => ?_, fun l s hl => ?_⟩
   ·rw [exP]
    refine Zd.ite (fun _ => (ih.ex 1 s).bind fun n s1 h1 => Zd.ite (fun _ => z_down.bind fun t s2 h2 => (X s2).bind fun y s3 h3 => z_must.bind fun _ s4 h4 => (X s4).bind fun z s5 h5 => Zd.ret ⟨⟨h1.1, h3.1, h5.1, trivial⟩, ?_⟩) fun _ => Zd.ret h1) fun _ =>
     Zd.ite (fun _ => Zd.ite (fun _ => ih.un _ _) fun _ => Zd.ite (fun _ => ih.un _ _) fun _ => ih.pr _) fun _ => (ih.ex (lv + 1) s).bind fun n s1 h1 => (ih.bi lv n s1 h1.1).mono fun m s2 h2 => ⟨h2.1, by have := h1.2; have := h2.2; omega⟩
    have a1 := h1.2; have a3 := h3.2; have a5 := h5.2
    show 1 + (wt n + (wt y + (wt z + 0))) + 8 * s5.N ≤ _
    omega
   ·rw [unP]
    refine z_down.bind fun t s1 h1 => (ih.ex 7 s1).bind fun n s2 h2 => Zd.ret ⟨⟨h2.1, trivial⟩, ?_⟩
    have a2 := h2.2
    show 1 + (wt n + 0) + 8 * s2.N ≤ _
    omega
   ·rw [jhb]
    refine Zd.ite (fun hc => (ih.ex (lv + 1) s.take).bind fun m s1 h1 => (ih.bi lv (jaq 33 s.hd [n, m]) s1 ⟨hn, h1.1, trivial⟩).mono fun x s2 h2 => ⟨h2.1, ?_⟩) fun _ => Zd.ret ⟨hn, Nat.le_refl _⟩
    have a1 := h1.2
    have a2 : wt x + 8 * s2.N ≤ 1 + (wt n + (wt m + 0)) + 8 * s1.N := h2.2
    have := jaP (s := s) (by omega)
    omega
   ·rw [jbh]
    have leaf : ∀ {op num a : Int} {t : Txt} {s' : PS}, s'.N + 1 ≤ s.N → ZN (8 * s.N) (.mk op t num [] a) s' := fun h => ⟨trivial, by show 1 + 0 + 8 * _ ≤ _; omega⟩
    refine Zd.ite (fun h2 => Zd.ret (leaf (by have := jaP (s := s) (by omega); omega))) fun _ => Zd.ite (fun _ => z_down.bind fun _ s1 h1 => (X s1).bind fun n s2 h2 => z_up.bind fun _ s3 h3 => Zd.ret ⟨h2.1, by have := h2.2; omega⟩) fun _ =>
     Zd.ite (fun hc => (ih.ar s.take).bind fun l s1 h1 => Zd.ret ⟨h1.1, ?_⟩) fun _ => Zd.ite (fun hw => z_must.bind fun _ s1 h1 => z_name.bind fun t s2 h2 => z_must.bind fun _ s3 h3 => Zd.ret (leaf (by have := jcx s; omega))) fun _ =>
     Zd.ite (fun hw => Zd.ret (leaf ?_)) fun _ => z_name.bind fun t s1 h1 => Zd.ite (fun _ => (ih.ar s1).bind fun l s2 h2 => Zd.ret ⟨h2.1, ?_⟩) fun _ => Zd.ite (fun _ => z_name.bind fun u s2 h2 => Zd.ret ⟨⟨trivial, trivial⟩, ?_⟩) fun _ => Zd.ret (leaf (by omega))
    ·have a1 := h1.2
     have := jaP (s := s) (by omega)
     show 1 + wtL l + 8 * s1.N ≤ _
     omega
    ·have : s.hd.kind ≠ 0 := by
      rcases Bool.or_eq_true_iff.1 hw with g | g <;> exact jbv g
     have := jaP this
     omega
    ·have a2 := h2.2
     show 1 + wtL l + 8 * s2.N ≤ _
     omega
    ·have := jcx s1
     show 1 + (1 + 0 + 0) + 8 * s2.N ≤ _
     omega
   ·rw [jb5]
    refine z_down.bind fun _ s1 h1 => (Zd.ite (Q := ZL (8 * s1.N)) (fun _ => Zd.ret (show ZL _ [] s1 from ⟨trivial, by show 0 + _ ≤ _; omega⟩)) fun _ => (X s1).bind fun n s2 h2 => (ih.al [n] s2 ⟨h2.1, trivial⟩).mono fun l s3 h3 => ⟨h3.1, ?_⟩).bind fun l s2 h2 => z_up.bind fun _ s3 h3 => Zd.ret ⟨h2.1, by have := h2.2; omega⟩
    have a2 := h2.2
    have a3 : wtL l + 8 * s3.N ≤ wt n + 0 + 8 * s2.N := h3.2
    omega
   ·rw [jcE]
    refine Zd.ite (fun _ => (X s.take).bind fun n s1 h1 => (ih.al (l ++ [n]) s1 (jms hl ⟨h1.1, trivial⟩)).mono fun l' s2 h2 => ⟨h2.1, ?_⟩) fun _ => Zd.ret ⟨hl, Nat.le_refl _⟩
    have a1 := h1.2
    have a2 := h2.2
    rw [jmp] at a2
    have e : wtL [n] = wt n + 0 := rfl
    have := jcx s
    omega
variable {F : Nat}
theorem z_ex {s : PS} : Zd (exP F 0 s) (ZN (8 * s.N)) := (zE F).ex 0 s
theorem jfV {l : List Nd} {n : Nd} (h : nzL l) (hn : nz n) : nzL (l ++ [n]) ∧ wtL (l ++ [n]) = wtL l + wt n := ⟨jms h ⟨hn, trivial⟩, by rw [jmp]; rfl⟩
theorem jmB : ∀ {f : Nat} {l : List Nd} {s : PS}, nzL l → Zd (jbZ F f l s) (ZL (wtL l + 8 * s.N))
 | 0, _, _, _ => by rw [jbZ]; exact Zd.no
 | f + 1, l, s, hl => by
   rw [jbZ]
   refine Zd.ite (fun _ => Zd.ret ⟨hl, Nat.le_refl _⟩) fun _ => z_name.bind fun t s1 h1 => z_must.bind fun _ s2 h2 => z_ex.bind fun n s3 h3 => (Zd.ite (Q := fun _ s' => s'.N ≤ s3.N) (fun _ => Zd.ret (Nat.le_refl _)) fun _ => z_must.bind fun _ s4 h4 => Zd.ite (fun _ => Zd.ret (by omega)) fun _ => Zd.fail).bind fun _ s5 h5 => ?_
   have hs := jfV (n := jaq 24 t [n]) hl ⟨h3.1, trivial⟩
   refine (jmB hs.1).mono fun l' s6 h6 => ⟨h6.1, ?_⟩
   have a3 := h3.2
   have a6 := h6.2
   rw [hs.2] at a6
   have e : wt (jaq 24 t [n]) = 1 + (wt n + 0) := rfl
   omega
theorem z_part {s : PS} : Zd (jcr F s) (ZN (8 * s.N)) := by
 unfold jcr
 refine z_name.bind fun t s1 h1 => z_down.bind fun _ s2 h2 => (jmB (l := []) trivial).bind fun l s3 h3 => z_up.bind fun _ s4 h4 => Zd.ret ⟨h3.1, ?_⟩
 have a3 : wtL l + 8 * s3.N ≤ 0 + 8 * s2.N := h3.2
 show 1 + wtL l + 8 * s4.N ≤ _
 omega
theorem jnl {n : Nd} {s : PS} {p : Nat} (h : nz n) (hp : wt n + 8 * s.N ≤ p + 8) : Zd (jcs n s) (ZN p) := by
 unfold jcs
 exact z_must.bind fun _ s1 h1 => Zd.ret ⟨h, by omega⟩
theorem jkj : ∀ {f : Nat} {l : List Nd} {s : PS}, nzL l → Zd (jbQ F f l s) (ZL (wtL l + 8 * s.N))
 | 0, _, _, _ => by rw [jbQ]; exact Zd.no
 | f + 1, l, s, hl => by
   rw [jbQ]
   refine Zd.ite (fun _ => z_part.bind fun n s1 h1 => ?_) fun _ => Zd.ret ⟨hl, Nat.le_refl _⟩
   have hs := jfV hl h1.1
   refine (jkj hs.1).mono fun l' s2 h2 => ⟨h2.1, ?_⟩
   have a1 := h1.2
   have a2 := h2.2
   rw [hs.2] at a2
   have := jcx s
   omega
structure ZS (F f : Nat) : Prop where
 bl : ∀ s, Zd (jay F f s) (fun n s' => nz n ∧ wt n + 8 * s'.N + 8 ≤ 8 * s.N)
 ss : ∀ l s, nzL l → Zd (jbz F f l s) (ZL (wtL l + 8 * s.N))
 st : ∀ s, Zd (jbK F f s) (ZN (8 * s.N))
 br : ∀ s, s.hd.kind ≠ 0 → Zd (jaD F f s) (ZN (8 * s.N))
 tu : ∀ s, s.hd.kind ≠ 0 → Zd (jbu F f s) (ZN (8 * s.N))
theorem jnH {s : PS} (h0 : s.hd.kind ≠ 0) : Zd (jmF F s) (ZN (8 * s.N)) ∧ Zd (jhj F s) (ZN (8 * s.N)) ∧ Zd (jcL F s) (ZN (8 * s.N)) ∧ Zd (jmG F s) (ZN (8 * s.N)) ∧ Zd (jcG s) (ZN (8 * s.N)) ∧ Zd (jcw s) (ZN (8 * s.N)) ∧ Zd (jcz F s) (ZN (8 * s.N)) ∧ Zd (jk7 F s) (ZN (8 * s.N)) := by
 have ht := jaP h0
 have one : ∀ {op num a : Int} {t : Txt} {n : Nd} {s' : PS}, nz n → wt n + 8 * s'.N ≤ 8 * s.take.N → Zd (jcs (.mk op t num [n] a) s') (ZN (8 * s.N)) := fun h1 h2 => jnl (n := .mk _ _ _ [_] _) ⟨h1, trivial⟩ (by show 1 + (_ + 0) + _ ≤ _; omega)
 have two : ∀ {op num a : Int} {t : Txt} {n m : Nd} {s' : PS}, nz n → nz m → wt n + wt m + 8 * s'.N ≤ 8 * s.take.N + 1 → Zd (jcs (.mk op t num [n, m] a) s') (ZN (8 * s.N)) := fun h1 h2 h3 => jnl (n := .mk _ _ _ [_, _] _) ⟨h1, h2, trivial⟩ (by show 1 + (_ + (_ + 0)) + _ ≤ _; omega)
 have nil : ∀ {op num a : Int} {t : Txt} {s' : PS}, s'.N ≤ s.take.N → Zd (jcs (.mk op t num [] a) s') (ZN (8 * s.N)) := fun h => jnl (n := .mk _ _ _ [] _) trivial (by show 1 + 0 + _ ≤ _; omega)
 refine ⟨?_, ?_, ?_, ?_, ?_, ?_, ?_, ?_⟩
 ·exact z_name.bind fun t s1 h1 => z_must.bind fun _ s2 h2 => z_ex.bind fun n s3 h3 => one h3.1 (by have := h3.2; omega)
 ·exact z_ex.bind fun a s1 h1 => z_must.bind fun _ s2 h2 => z_ex.bind fun b s3 h3 => two h1.1 h3.1 (by have := h1.2; have := h3.2; omega)
 ·unfold jcL
  refine Zd.ite (fun _ => Zd.ret ⟨trivial, ?_⟩) fun _ => z_part.bind fun n s1 h1 => (jkj (l := [n]) ⟨h1.1, trivial⟩).bind fun l s2 h2 => jnl (n := .mk _ _ _ l _) h2.1 ?_
  ·have := jcx s.take
   show 1 + 0 + 8 * s.take.take.N ≤ _; omega
  ·have a1 := h1.2
   have a2 : wtL l + 8 * s2.N ≤ wt n + 0 + 8 * s1.N := h2.2
   show 1 + wtL l + _ ≤ _; omega
 ·exact z_part.bind fun n s1 h1 => one h1.1 h1.2
 ·exact z_name.bind fun t s1 h1 => nil (by omega)
 ·exact nil (Nat.le_refl _)
 ·exact z_ex.bind fun n s1 h1 => one h1.1 h1.2
 ·unfold jk7
  refine Zd.ite (fun _ => z_name.bind fun u s1 h1 => z_must.bind fun _ s2 h2 => z_ex.bind fun n s3 h3 => two (n := jaq 31 u []) trivial h3.1 ?_) fun _ => z_must.bind fun _ s2 h2 => z_ex.bind fun n s3 h3 => one h3.1 (by have := h3.2; omega)
  have := h3.2
  have := jcx s.take
  show 1 + 0 + wt n + _ ≤ _; omega
theorem zS : ∀ f, ZS F f
 | 0 => ⟨fun _ => by rw [jay]; exact Zd.no, fun _ _ _ => by rw [jbz]; exact Zd.no, fun _ => by rw [jbK]; exact Zd.no, fun _ _ => by rw [jaD]; exact Zd.no, fun _ _ => by rw [jbu]; exact Zd.no⟩
 | f + 1 => by
   have ih := zS f
   refine ⟨fun s => ?_, fun l s hl => ?_, fun s => ?_, fun s h0 => ?_, fun s h0 => ?_⟩
   ·rw [jay]
    refine z_down.bind fun t s1 h1 => (ih.ss [] s1 trivial).bind fun l s2 h2 => z_up.bind fun _ s3 h3 => Zd.ret ⟨h2.1, ?_⟩
    have a2 : wtL l + 8 * s2.N ≤ 0 + 8 * s1.N := h2.2
    show 1 + wtL l + 8 * s3.N + 8 ≤ _
    omega
   ·rw [jbz]
    refine Zd.ite (fun _ => Zd.ret ⟨hl, Nat.le_refl _⟩) fun _ => (ih.st s).bind fun n s1 h1 => ?_
    have hs := jfV hl h1.1
    refine (ih.ss _ s1 hs.1).mono fun l' s2 h2 => ⟨h2.1, ?_⟩
    have a1 := h1.2
    have a2 := h2.2
    rw [hs.2] at a2
    omega
   ·rw [jbK]
    refine Zd.ite (fun _ => Zd.fail) fun hk => z_lim.bind fun _ s1 h1 => ?_
    subst h1
    have h0 : s1.more.hd.kind ≠ 0 := fun e => hk (.inl (by have e : s1.hd.kind = 0 := e; omega))
    obtain ⟨k1, k2, k3, k4, k5, k6, k7, k8⟩ := jnH (F := F) h0
    split
    ·exact k1
    ·exact ih.br _ h0
    ·exact ih.tu _ h0
    ·exact k2
    ·exact k3
    ·exact k4
    ·exact k5
    ·exact k6
    ·exact k7
    ·exact k8
   ·rw [jaD]
    have ht := jaP h0
    refine z_ex.bind fun c s1 h1 => (ih.bl s1).bind fun b s2 h2 => ?_
    have a1 := h1.2
    have a2 := h2.2
    refine Zd.ite (fun hn => Zd.ite (fun hi => z_lim.bind fun _ s3 h3 => ?_) fun _ => (ih.bl _).bind fun e s3 h3 => Zd.ret ⟨⟨h1.1, h2.1, h3.1, trivial⟩, ?_⟩) fun _ => Zd.ret ⟨⟨h1.1, h2.1, trivial⟩, ?_⟩
    ·subst h3
     refine (ih.br s2.take.more (show s2.take.more.hd.kind ≠ 0 from jbv hi)).bind fun e s4 h4 => Zd.ret ⟨⟨h1.1, h2.1, h4.1, trivial⟩, ?_⟩
     have a4 : wt e + 8 * s4.N ≤ 8 * s2.take.N := h4.2
     have := jcx s2
     show 1 + (wt c + (wt b + (wt e + 0))) + 8 * s4.N ≤ _
     omega
    ·have a3 := h3.2
     have := jcx s2
     show 1 + (wt c + (wt b + (wt e + 0))) + 8 * s3.N ≤ _
     omega
    ·show 1 + (wt c + (wt b + 0)) + 8 * s2.N ≤ _
     omega
   ·rw [jbu]
    have ht := jaP h0
    refine z_ex.bind fun c s1 h1 => (ih.bl s1).bind fun b s2 h2 => Zd.ret ⟨⟨h1.1, h2.1, trivial⟩, ?_⟩
    have a1 := h1.2
    have a2 := h2.2
    show 1 + (wt c + (wt b + 0)) + 8 * s2.N ≤ _
    omega
theorem jjq {most : Int} : ∀ {f : Nat} {l : List Nd} {s : PS}, nzL l → Zd (jaS most f l s) (ZL (wtL l + 8 * s.N))
 | 0, _, _, _ => by rw [jaS]; exact Zd.no
 | f + 1, l, s, hl => by
   rw [jaS]
   have hs := jfV (n := jaq 31 s.hd []) hl trivial
   have e : wt (jaq 31 s.hd []) = 1 := rfl
   refine Zd.ite (fun hn => z_lim.bind fun _ s1 h1 => ?_) fun _ => Zd.fail
   subst h1
   have ht := jaP (jh6 hn)
   refine Zd.ite (fun _ => (jjq hs.1).mono fun l' s2 h2 => ⟨h2.1, ?_⟩) fun _ => Zd.ret ⟨hs.1, by rw [hs.2]; omega⟩
   have a2 := h2.2
   rw [hs.2] at a2
   have := jcx s1.take
   omega
theorem jgR : ∀ {ws : List Txt} {l : List Nd} {s : PS}, nzL l → Zd (jaM F ws l s) (fun l' s' => nzL l' ∧ wtL l' + 8 * s'.N ≤ wtL l + ws.length + 8 * s.N)
 | [], l, s, hl => by rw [jaM]; exact Zd.ret ⟨hl, by show _ ≤ wtL l + 0 + _; omega⟩
 | w :: ws, l, s, hl => by
   rw [jaM]
   refine Zd.ite (fun hn => (jjq (l := []) trivial).bind fun c s1 h1 => ?_) fun _ => ?_
   ·have hs := jfV (n := .mk 3 w 0 c (s.hd.at' : Nat)) hl h1.1
    refine (jgR hs.1).mono fun l' s2 h2 => ⟨h2.1, ?_⟩
    have a1 : wtL c + 8 * s1.N ≤ 0 + 8 * s.take.N := h1.2
    have a2 := h2.2
    rw [hs.2] at a2
    have e : wt (.mk 3 w 0 c (s.hd.at' : Nat)) = 1 + wtL c := rfl
    have := jcx s
    simp only [List.length_cons]; omega
   ·have hs := jfV (n := .mk 3 w 0 [] (-1)) hl trivial
    refine (jgR hs.1).mono fun l' s2 h2 => ⟨h2.1, ?_⟩
    have a2 := h2.2
    rw [hs.2] at a2
    have e : wt (.mk 3 w 0 [] (-1)) = 1 := rfl
    simp only [List.length_cons]; omega
theorem fix_z (a : Int) : ∀ {l : List Nd}, nzL l → nzL (l.map (Nd.fix a)) ∧ wtL (l.map (Nd.fix a)) = wtL l
 | [], _ => ⟨trivial, rfl⟩
 | .nil :: _, h => h.1.elim
 | .mk op t n k at' :: l, h => by
   obtain ⟨h1, h2⟩ := fix_z a h.2
   have e : nz (Nd.fix a (.mk op t n k at')) ∧ wt (Nd.fix a (.mk op t n k at')) = wt (.mk op t n k at') := by
    by_cases h0 : at' < 0
    ·rw [show Nd.fix a (.mk op t n k at') = .mk op t n k a from if_pos h0]; exact ⟨h.1, rfl⟩
    ·rw [show Nd.fix a (.mk op t n k at') = .mk op t n k at' from if_neg h0]; exact ⟨h.1, rfl⟩
   refine ⟨⟨e.1, h1⟩, ?_⟩
   show wt _ + wtL _ = wt _ + wtL _
   rw [h2, e.2]
theorem jmU {s : PS} (h0 : s.hd.kind ≠ 0) : Zd (jcB F s) (ZN (8 * s.N)) := by
 have ht := jaP h0
 refine z_name.bind fun t s1 h1 => (jgR (l := []) trivial).bind fun l s2 h2 => ((zS F).bl s2).bind fun b s3 h3 => ?_
 obtain ⟨g1, g2⟩ := fix_z b.place h2.1
 obtain ⟨k1, k2⟩ := jfV g1 h3.1
 refine Zd.ret ⟨k1, ?_⟩
 have a2 : wtL l + 8 * s2.N ≤ 0 + 4 + 8 * s1.N := h2.2
 have a3 := h3.2
 show 1 + wtL _ + 8 * s3.N ≤ _
 rw [k2, g2]; omega
theorem jkI {s : PS} (h0 : s.hd.kind ≠ 0) : Zd (jbm F s) (ZN (8 * s.N)) := by
 have ht := jaP h0
 refine z_name.bind fun t s1 h1 => z_must.bind fun u s2 h2 => (Zd.ite (Q := ZL (8 * s2.N)) (fun _ => Zd.ret (show ZL _ [] s2 from ⟨trivial, by show 0 + _ ≤ _; omega⟩)) fun _ => (jjq (l := []) trivial).mono fun l s3 h3 => ⟨h3.1, by have a : wtL l + 8 * s3.N ≤ 0 + 8 * s2.N := h3.2; omega⟩).bind fun c s3 h3 => z_must.bind fun _ s4 h4 => ((zS F).bl s4).bind fun b s5 h5 => Zd.ret ⟨⟨h3.1, h5.1, trivial⟩, ?_⟩
 have a3 := h3.2
 have a5 := h5.2
 show 1 + (1 + wtL c + (wt b + 0)) + 8 * s5.N ≤ _
 omega
theorem jhm : ∀ {f : Nat} {a b : Int} {l : List Nd} {s : PS}, nzL l → Zd (jaH F f a b l s) (ZL (wtL l + 8 * s.N))
 | 0, _, _, _, _, _ => by rw [jaH]; exact Zd.no
 | f + 1, a, b, l, s, hl => by
   rw [jaH]
   have step : ∀ {A : R Nd} {x y : Int}, Zd A (ZN (8 * s.N)) → Zd (A.bind fun n s => jaH F f x y (l ++ [n]) s) (ZL (wtL l + 8 * s.N)) := fun h => h.bind fun n s1 h1 => by
    have hs := jfV hl h1.1
    refine (jhm hs.1).mono fun l' s2 h2 => ⟨h2.1, ?_⟩
    have a1 := h1.2
    have a2 := h2.2
    rw [hs.2] at a2
    omega
   refine Zd.ite (fun _ => Zd.ret ⟨hl, Nat.le_refl _⟩) fun hk => Zd.ite (fun _ => z_lim.bind fun _ s1 h1 => ?_) fun _ => Zd.ite (fun _ => z_lim.bind fun _ s1 h1 => ?_) fun _ => Zd.fail
   ·subst h1; exact step (jmU hk)
   ·subst h1; exact step (jkI hk)
theorem jmY {ts : List Tk} {n : Nd} {s' : PS} (h : jbk ts = some (.ok (n, s'))) (hl : ts.length ≤ 9000) : nz n ∧ wt n ≤ 80000 := by
 have key : Zd (jbk ts) (ZN (1 + 8 * ts.length)) := by
  unfold jbk jdS
  refine (jhm (l := []) trivial).bind fun l s1 h1 => Zd.ret ⟨h1.1, ?_⟩
  have a1 : wtL l + 8 * s1.N ≤ 0 + 8 * ts.length := h1.2
  show 1 + wtL l + 8 * s1.N ≤ _
  omega
 obtain ⟨h1, h2⟩ := key n s' h
 exact ⟨h1, by omega⟩
end
end Go.Proofs.YtfpmgpblhhcpgaaGreatDoor.Hc.Syn
namespace Go.Proofs.YtfpmgpblhhcpgaaGreatDoor.Hc
set_option maxRecDepth 100000
abbrev Col := Nat → Nat
def Tch (c : Col) (lo : Nat) (S : Nat → Prop) (H H' : jaa) : Prop := Upd (fun x => lo ≤ x ∧ S (c x)) H H'
def Is (c : Col) (lo j b : Nat) : Prop := lo ≤ b ∧ c b = j
def RowC (c : Col) (lo j : Nat) (H : jaa) (b : Nat) (T : TypeId) (vs : List Value) : Prop := Row H b T vs ∧ Is c lo j b
def IsS (c : Col) (lo j : Nat) (s : Sl) : Prop := ∀ b, s.a = some (adr b) → Is c lo j b
def VecC (c : Col) (lo j : Nat) (H : jaa) (T : TypeId) (s : Sl) (vs : List Value) : Prop := Vec H T s vs ∧ IsS c lo j s
def VecNC (c : Col) (lo j : Nat) (H : jaa) (T : TypeId) (n : Nat) (s : Sl) (vs : List Value) : Prop := VecN H T n s vs ∧ IsS c lo j s
theorem Tch.refl (c : Col) (lo : Nat) (S : Nat → Prop) (H : jaa) : Tch c lo S H H := Upd.refl _ _
theorem Tch.of {c : Col} {lo : Nat} {S : Nat → Prop} {H H' : jaa} {M : Nat → Prop} (h : Upd M H H') (hM : ∀ b, b < H.size → M b → lo ≤ b ∧ S (c b)) : Tch c lo S H H' := h.mono hM
theorem Tch.trans {c : Col} {lo : Nat} {S : Nat → Prop} {H H1 H2 : jaa} (h : Tch c lo S H H1) (h2 : Tch c lo S H1 H2) : Tch c lo S H H2 := Upd.trans h h2 fun _ _ h => h
theorem Tch.mono {c : Col} {lo : Nat} {S S' : Nat → Prop} {H H' : jaa} (h : Tch c lo S H H') (hS : ∀ j, S j → S' j) : Tch c lo S' H H' := Upd.mono h fun _ _ e => ⟨e.1, hS _ e.2⟩
theorem Tch.ext {c : Col} {S : Nat → Prop} {H0 H H' : jaa} (h0 : Ext H0 H) (h : Tch c H0.size S H H') : Ext H0 H' := h0.trans h fun b hb e => by have := e.1; omega
theorem RowC.tch {c : Col} {lo j : Nat} {S : Nat → Prop} {H H' : jaa} (h : Tch c lo S H H') (hj : ¬ S j) {b : Nat} {T : TypeId} {vs : List Value} (hr : RowC c lo j H b T vs) : RowC c lo j H' b T vs :=
 ⟨Upd.row h hr.1 fun e => hj (hr.2.2 ▸ e.2), hr.2⟩
theorem VecC.tch {c : Col} {lo j : Nat} {S : Nat → Prop} {H H' : jaa} (h : Tch c lo S H H') (hj : ¬ S j) {T : TypeId} {s : Sl} {vs : List Value} (hr : VecC c lo j H T s vs) : VecC c lo j H' T s vs :=
 ⟨hr.1.upd h fun b hb e => hj ((hr.2 b hb).2 ▸ e.2), hr.2⟩
theorem VecNC.tch {c : Col} {lo j : Nat} {S : Nat → Prop} {H H' : jaa} (h : Tch c lo S H H') (hj : ¬ S j) {T : TypeId} {n : Nat} {s : Sl} {vs : List Value} (hr : VecNC c lo j H T n s vs) : VecNC c lo j H' T n s vs :=
 ⟨hr.1.upd h fun b hb e => hj ((hr.2 b hb).2 ▸ e.2), hr.2⟩
def Agr (j : Nat) (n : Nat) (c c' : Col) : Prop := ∀ x, x < n → c x = j → c' x = j
def dye (n : Nat) (c d : Col) : Col := fun x => if x < n then c x else d x
theorem VecC.nil (c : Col) (lo j : Nat) (H : jaa) (T : TypeId) : VecC c lo j H T ⟨none, 0, 0⟩ [] := ⟨Vec.nil H T, fun b hb => by cases hb⟩
theorem VecNC.nil (c : Col) (lo j : Nat) (H : jaa) (T : TypeId) (n : Nat) : VecNC c lo j H T n ⟨none, 0, 0⟩ [] := ⟨VecN.nil H T n, fun b hb => by cases hb⟩
theorem RowC.mv {c c' : Col} {lo j : Nat} {S : Nat → Prop} {H H' : jaa} (h : Tch c lo S H H') (hj : ¬ S j) (ha : Agr j H.size c c') {b : Nat} {T : TypeId} {vs : List Value} (hr : RowC c lo j H b T vs) : RowC c' lo j H' b T vs :=
 ⟨(hr.tch h hj).1, hr.2.1, ha b hr.1.lt hr.2.2⟩
theorem VecC.mv {c c' : Col} {lo j : Nat} {S : Nat → Prop} {H H' : jaa} (h : Tch c lo S H H') (hj : ¬ S j) (ha : Agr j H.size c c') {T : TypeId} {s : Sl} {vs : List Value} (hr : VecC c lo j H T s vs) : VecC c' lo j H' T s vs :=
 ⟨(hr.tch h hj).1, fun b hb => ⟨(hr.2 b hb).1, ha b (hr.1.lt hb) (hr.2 b hb).2⟩⟩
theorem VecNC.mv {c c' : Col} {lo j : Nat} {S : Nat → Prop} {H H' : jaa} (h : Tch c lo S H H') (hj : ¬ S j) (ha : Agr j H.size c c') {T : TypeId} {n : Nat} {s : Sl} {vs : List Value} (hr : VecNC c lo j H T n s vs) : VecNC c' lo j H' T n s vs :=
 ⟨(hr.tch h hj).1, fun b hb => ⟨(hr.2 b hb).1, ha b (hr.1.lt hb) (hr.2 b hb).2⟩⟩
def StS (b : Nat) : Nat → List Value → jaa → (jaa → Prop) → Prop
 | _, [], H, K => K H
 | o, v :: vs, H, K => St ⟨b, o, none⟩ v H fun H' => StS b (o + 1) vs H' K
theorem jjA {α : Type} {A B : List α} {x v : α} : (A ++ x :: B).set A.length v = A ++ v :: B := by
 rw [List.set_append_right _ _ (Nat.le_refl _), Nat.sub_self]; rfl
theorem jl1 {b : Nat} {T : TypeId} : ∀ {ws xs A B : List Value} {H : jaa} {K : jaa → Prop}, Row H b T (A ++ xs ++ B) → xs.length = ws.length → (∀ H', Upd (· = b) H H' → H'.size = H.size → Row H' b T (A ++ ws ++ B) → K H') → StS b A.length ws H K
 | [], xs, A, B, H, K, hr, hl, hK => by
   have : xs = [] := List.eq_nil_of_length_eq_zero hl
   subst this
   exact hK H (.refl _ _) rfl hr
 | w :: ws, [], A, B, H, K, hr, hl, hK => by cases hl
 | w :: ws, x :: xs, A, B, H, K, hr, hl, hK => by
   have hr : Row H b T (A ++ x :: (xs ++ B)) := by simpa using hr
   refine jat hr (by simp) fun H1 hU1 hz1 hr1 => ?_
   rw [jjA] at hr1
   have hr2 : Row H1 b T ((A ++ [w]) ++ xs ++ B) := by simpa using hr1
   have := jl1 (ws := ws) (K := K) hr2 (by simpa using hl) fun H2 hU2 hz2 hr3 => hK H2 (hU1.trans hU2 fun _ _ e => e) (by omega) (by simpa using hr3)
   rw [List.length_append] at this
   exact this
section
structure Tou (M : Nat → Prop) (S : TypeId → Prop) (H H' : jaa) : Prop where
 upd : Upd M H H'
 row : ∀ {b T cs}, Row H b T cs → ∃ cs', Row H' b T cs' ∧ cs'.length = cs.length ∧ (¬ S T → cs' = cs)
variable {M : Nat → Prop} {S : TypeId → Prop} {H H' : jaa}
theorem Tou.refl (M : Nat → Prop) (S : TypeId → Prop) (H : jaa) : Tou M S H H := ⟨.refl _ _, fun h => ⟨_, h, rfl, fun _ => rfl⟩⟩
theorem Tou.trans {M2 : Nat → Prop} {S2 : TypeId → Prop} {H2 : jaa} (h : Tou M S H H') (h2 : Tou M2 S2 H' H2) (hM : ∀ b, b < H.size → M2 b → M b) (hS : ∀ T, S2 T → S T) : Tou M S H H2 :=
 ⟨h.upd.trans h2.upd hM, fun hr => by
   obtain ⟨c, g1, g2, g3⟩ := h.row hr
   obtain ⟨d, k1, k2, k3⟩ := h2.row g1
   exact ⟨d, k1, k2.trans g2, fun hn => (k3 fun hs => hn (hS _ hs)).trans (g3 hn)⟩⟩
theorem Tou.mono {M2 : Nat → Prop} {S2 : TypeId → Prop} (h : Tou M S H H') (hM : ∀ b, b < H.size → M b → M2 b) (hS : ∀ T, S T → S2 T) : Tou M2 S2 H H' :=
 ⟨h.upd.mono hM, fun hr => by
   obtain ⟨c, g1, g2, g3⟩ := h.row hr
   exact ⟨c, g1, g2, fun hn => g3 fun hs => hn (hS _ hs)⟩⟩
theorem Tou.of_ext (M : Nat → Prop) (S : TypeId → Prop) (h : Ext H H') : Tou M S H H' := ⟨h.mono fun _ _ h => h.elim, fun hr => ⟨_, h.row hr fun h => h, rfl, fun _ => rfl⟩⟩
theorem Row.uniq {b : Nat} {T T' : TypeId} {cs ds : List Value} (h : Row H b T cs) (h' : Row H b T' ds) : T = T' ∧ cs = ds := by
 unfold Row at h h'
 rw [h] at h'
 cases h'
 exact ⟨rfl, rfl⟩
theorem Tou.of_st {b : Nat} {T : TypeId} {cs cs' : List Value} (h : Row H b T cs) (hU : Upd (· = b) H H') (h' : Row H' b T cs') (hl : cs'.length = cs.length) : Tou (· = b) (· = T) H H' :=
 ⟨hU, fun {c T2 ds} hr => by
   by_cases e : c = b
   ·subst e
    obtain ⟨rfl, rfl⟩ := h.uniq hr
    exact ⟨cs', h', hl, fun hn => absurd rfl hn⟩
   ·exact ⟨ds, hU.row hr e, rfl, fun _ => rfl⟩⟩
theorem Tou.keep {b : Nat} {T : TypeId} {cs : List Value} (h : Tou M S H H') (hr : Row H b T cs) (hn : ¬ S T) : Row H' b T cs := by
 obtain ⟨c, g1, _, g3⟩ := h.row hr
 rw [g3 hn] at g1
 exact g1
theorem VecN.tou {T : TypeId} {n : Nat} {s : Sl} {vs : List Value} (hv : VecN H T n s vs) (h : Tou M S H H') (hn : ¬ S T) : VecN H' T n s vs := by
 refine ⟨hv.len, ?_, hv.lc⟩
 rcases hv.own with h1 | ⟨b, sp, h1, h2, h3⟩
 ·exact .inl h1
 ·exact .inr ⟨b, sp, h1, h.keep h2 hn, h3⟩
theorem Vec.n1 {T : TypeId} {s : Sl} {vs : List Value} (h : Vec H T s vs) : VecN H T 1 s vs := by
 refine ⟨by rw [h.len]; simp, ?_, h.lc⟩
 rcases h.own with h1 | ⟨b, sp, h1, h2, h3⟩
 ·exact .inl h1
 ·exact .inr ⟨b, sp, h1, h2, by simpa using h3⟩
def Room (H : jaa) (T : TypeId) (n : Nat) (s : Sl) : Prop := ∃ vs, VecN H T n s vs
theorem Room.tou {T : TypeId} {n : Nat} {s : Sl} (hv : Room H T n s) (h : Tou M S H H') : Room H' T n s := by
 obtain ⟨vs, hl, ho, hc⟩ := hv
 rcases ho with ⟨h1, h2, h3⟩ | ⟨b, sp, h1, h2, h3⟩
 ·exact ⟨vs, hl, .inl ⟨h1, h2, h3⟩, hc⟩
 ·obtain ⟨c, g1, g2, _⟩ := h.row h2
  have hle : s.len * n ≤ c.length := by rw [g2, List.length_append, hl]; exact Nat.le_add_right _ _
  refine ⟨c.take (s.len * n), by rw [List.length_take, Nat.min_eq_left hle], .inr ⟨b, c.drop (s.len * n), h1, by rw [List.take_append_drop]; exact g1, ?_⟩, hc⟩
  rw [List.length_take, Nat.min_eq_left hle, List.length_drop, g2, List.length_append]
  omega
theorem App_tou {T : TypeId} {n bytes : Nat} {z : Array Value} {s x : Sl} {k : Sl → jaa → Prop} {vs ws : List Value} (hz : z.size = n) (hn : 0 < n) (hv : VecN H T n s vs) (hx : rdL H x.a ws) (hxl : ws.length = x.len * n)
 (hone : ∀ w ∈ ws, w.oneCell' = true) (hb : bytes ≠ 0) (hcap : (s.len + x.len + (s.len + x.len) / 4 + 1000) * bytes ≤ 2 ^ 48)
 (hk : ∀ s' H', VecN H' T n s' (vs ++ ws) → s'.len = s.len + x.len → Tou (fun b => s.a = some (adr b)) (· = T) H H' → (s'.a = s.a ∧ s'.cap = s.cap ∨ (∃ b, s'.a = some (adr b) ∧ H.size ≤ b) ∧ Ext H H') → k s' H') :
 App T n bytes z s x H k := by
 have hlen := hv.len
 refine ⟨ws, hx, fun _ => by omega, fun hfit => ?_, fun hgrow => ?_⟩
 ·rcases hv.own with ⟨h1, h2, h3⟩ | ⟨b, sp, h1, h2, h3⟩
  ·rw [h1]
   have hx0 : x.len = 0 := by omega
   have hw : ws = [] := List.eq_nil_of_length_eq_zero (by rw [hxl, hx0]; simp)
   subst hw h3
   exact hk _ H ⟨by simp only [List.append_nil, List.length_nil]; simp at hlen; rw [hx0]; simp; omega, .inl ⟨rfl, by simpa using h2, rfl⟩, hfit⟩ rfl (.refl _ _ _) (.inl ⟨h1.symm, rfl⟩)
  ·rw [h1]
   dsimp only
   rw [adr_add]
   have hm : (s.len + x.len) * n ≤ s.cap * n := Nat.mul_le_mul_right n hfit
   rw [Nat.add_mul] at hm
   refine jfE h2 (by simp; omega) hone fun H' hU hs hr => ?_
   refine hk _ H' ⟨by simp only [List.length_append, Nat.add_mul]; omega, .inr ⟨b, sp.drop ws.length, rfl, ?_, by simp; omega⟩, hfit⟩ rfl ((Tou.of_st h2 (hU.mono fun _ _ e => e.1) hr ?_).mono (fun b' _ e => ?_) fun _ e => e) (.inl ⟨h1.symm, rfl⟩)
   ·rw [Nat.add_zero, ← hlen, List.take_left, List.drop_append, List.drop_eq_nil_of_le (by omega), List.nil_append] at hr
    rw [show vs.length + ws.length - vs.length = ws.length by omega] at hr
    exact hr
   ·simp only [List.length_append, List.length_take, List.length_drop]
    omega
   ·rw [e]; exact h1
 ·refine ⟨hb, ?_, vs, hv.rd, fun _ => by omega, fun c hc => ?_⟩
  ·have := jcP (s.len + x.len) s.cap hgrow
   exact Nat.le_trans (Nat.mul_le_mul_right bytes this) hcap
  ·refine hk _ _ ⟨?_, .inr ⟨H.size, (jbo z ((c - (s.len + x.len)) * z.size)).toList, rfl, ?_, ?_⟩, hc⟩ rfl (Tou.of_ext _ _ (Upd.push _ _ _)) (.inr ⟨⟨_, rfl, Nat.le_refl _⟩, Upd.push _ _ _⟩)
   ·simp only [List.length_append, Nat.add_mul]; omega
   ·unfold Row
    rw [jaL]
    congr 2
    apply Array.ext'; simp
   ·simp only [List.length_append, Array.length_toList, jgA, hz]
    rw [hlen, hxl, ← Nat.add_mul, ← Nat.add_mul]
    exact Nat.mul_le_mul_right n (by omega)
theorem jeT {T : TypeId} {n bytes : Nat} {z : Array Value} {s : Sl} {k : Sl → jaa → Prop} {vs ws : List Value} (hv : VecN H T n s vs) (hz : z.size = n) (hn : 0 < n) (hw : ws.length = n) (hone : ∀ w ∈ ws, w.oneCell' = true) (hb : bytes ≠ 0) (hcap : (s.len + 1 + (s.len + 1) / 4 + 1000) * bytes ≤ 2 ^ 48)
 (hk : ∀ s' H', VecN H' T n s' (vs ++ ws) → s'.len = s.len + 1 → Tou (fun b => s.a = some (adr b)) (· = T) H H' → (s'.a = s.a ∧ s'.cap = s.cap ∨ (∃ b, s'.a = some (adr b) ∧ H.size ≤ b) ∧ Ext H H') → k s' H') :
 Nw ⟨ws⟩ T H fun b H4 => App T n bytes z s ⟨some (adr b), 1, 1⟩ H4 k :=
 jak (vs := ws) fun b H4 hb4 hE4 _ hr4 => App_tou (ws := ws) hz hn (hv.ext hE4) hr4.rd_all (by rw [hw]; simp) hone hb hcap fun s' H' h1 h2 h3 h4 =>
  hk s' H' h1 h2 ((Tou.of_ext _ _ hE4).trans h3 (fun _ _ h => h) fun _ h => h) (h4.imp id fun ⟨⟨b, g1, g2⟩, g3⟩ => ⟨⟨b, g1, by have := hE4.size; omega⟩, hE4.trans g3 fun _ _ h => h⟩)
def StA (a : Addr) : Nat → List Value → jaa → (jaa → Prop) → Prop
 | _, [], H, K => K H
 | o, v :: vs, H, K => St (a.add o) v H fun H' => StA a (o + 1) vs H' K
theorem StA_S {b m : Nat} : ∀ {ws : List Value} {o : Nat} {H : jaa} {K : jaa → Prop}, StS b (m + o) ws H K → StA ⟨b, m, none⟩ o ws H K
 | [], _, _, _, h => h
 | _ :: _, _, _, _, h => fun_st h
where
 fun_st {b m o : Nat} {v : Value} {ws : List Value} {H : jaa} {K : jaa → Prop} (h : StS b (m + o) (v :: ws) H K) : StA ⟨b, m, none⟩ o (v :: ws) H K := by
  unfold StA
  unfold StS at h
  rw [mk_add]
  exact St.imp' h fun H' h' => StA_S (by rw [← Nat.add_assoc]; exact h')
 St.imp' {a : Addr} {v : Value} {H : jaa} {K K' : jaa → Prop} (h : St a v H K) (hk : ∀ H', K H' → K' H') : St a v H K' := by
  exact ⟨h.1, h.2.1, hk _ h.2.2⟩
theorem StS_at {b o : Nat} {T : TypeId} {cs ws : List Value} {H : jaa} {K : jaa → Prop} (hr : Row H b T cs) (hl : o + ws.length ≤ cs.length) (hK : ∀ H', Upd (· = b) H H' → Row H' b T (cs.take o ++ ws ++ cs.drop (o + ws.length)) → K H') : StS b o ws H K := by
 have e : cs = cs.take o ++ (cs.drop o).take ws.length ++ cs.drop (o + ws.length) := by
  rw [List.append_assoc, ← List.drop_drop, List.take_append_drop, List.take_append_drop]
 have ho : (cs.take o).length = o := by rw [List.length_take, Nat.min_eq_left (by omega)]
 rw [e] at hr
 have := jl1 (K := K) hr (by rw [List.length_take, List.length_drop, Nat.min_eq_left (by omega)]) fun H' hU _ h => hK H' hU h
 rwa [ho] at this
theorem put_raw {T : TypeId} {n : Nat} {s : Sl} {vs ws : List Value} {H : jaa} {K : jaa → Prop} (hv : VecN H T n s vs) (hw : ws.length = n) (hn : 0 < n) {i : Int} {j : Nat} (hj : i = j) (hl : j < s.len)
 (hK : ∀ H', VecN H' T n s (vs.take (j * n) ++ ws ++ vs.drop (j * n + n)) → Tou (fun b => s.a = some (adr b)) (· = T) H H' → K H') : IxA n s i fun a => StA a 0 ws H K := by
 obtain ⟨hlen, ho, hc⟩ := hv
 have h2 : j * n + n ≤ s.len * n := by
  calc j * n + n = (j + 1) * n := by rw [Nat.add_mul]; simp
   _ ≤ s.len * n := Nat.mul_le_mul_right n hl
 rcases ho with ⟨_, _, h3⟩ | ⟨b, sp, h1, hr, h3⟩
 ·subst h3; simp at hlen; omega
 ·subst hj
  refine IxA.mk h1 (by omega) (by omega) ?_
  rw [adr_add, Int.toNat_natCast]
  refine StA_S (StS_at hr (by rw [List.length_append]; omega) fun H' hU h => ?_)
  have hll : (vs.take (j * n) ++ ws ++ vs.drop (j * n + n)).length = s.len * n := by simp only [List.length_append, List.length_take, List.length_drop]; omega
  refine hK H' ⟨hll, .inr ⟨b, sp, h1, ?_, by rw [hll]; omega⟩, hc⟩ ((Tou.of_st hr hU h ?_).mono (fun c _ e => by rw [e]; exact h1) fun _ e => e)
  ·rw [Nat.add_zero, hw, List.take_append_of_le_length (by omega), List.drop_append_of_le_length (by omega), ← List.append_assoc] at h
   exact h
  ·simp only [List.length_append, List.length_take, List.length_drop]
   omega
end
section
variable {H : jaa}
theorem jhe {TS : TypeId} {l : Sl} {L : List Sl} (h : VecN H TS 1 l (L.map slV)) : RL slV H l L := ⟨h.rd, by have := h.len; simp at this; omega, h.lc⟩
abbrev mkAt (i : Nat) : Int := -1000 - (i : Int)
def Rp (H : jaa) (T : TypeId) (n : Nat) (mk : Int → List Value) (x : Sl) (m : Int) : Prop := VecN H T n x ((List.replicate x.len m).flatMap mk)
theorem Rp.upd {M : Nat → Prop} {H' : jaa} {T : TypeId} {n : Nat} {mk : Int → List Value} {x : Sl} {m : Int} (h : Rp H T n mk x m) (hu : Upd M H H') (hn : ∀ b, x.a = some (adr b) → ¬ M b) : Rp H' T n mk x m := VecN.upd hu h hn
end
section
variable {H : jaa}
abbrev mRow (i : Nat) : List Value := [.int .i64 0, .string ByteArray.empty, .int .i64 (i : Nat), .slice none 0 0, .int .i64 0]
abbrev pV (p : Nat) : Value := .pointer (some (adr p))
def Mkp (H : jaa) (TP TN : TypeId) (x : Sl) (i : Nat) : Prop := ∃ ps : List Nat, VecN H TP 1 x (ps.map pV) ∧ ∀ p ∈ ps, Row H p TN (mRow i)
theorem Mkp.tou {M : Nat → Prop} {S : TypeId → Prop} {H' : jaa} {TP TN : TypeId} {x : Sl} {i : Nat} (h : Mkp H TP TN x i) (ht : Tou M S H H') (hS : ¬ S TN) (hn : ∀ b, x.a = some (adr b) → ¬ M b) : Mkp H' TP TN x i := by
 obtain ⟨ps, h1, h2⟩ := h
 exact ⟨ps, VecN.upd ht.upd h1 hn, fun p hp => ht.keep (h2 p hp) hS⟩
theorem Mkp.tou2 {M : Nat → Prop} {S : TypeId → Prop} {H' : jaa} {TP TN : TypeId} {x : Sl} {i : Nat} (h : Mkp H TP TN x i) (ht : Tou M S H H') (hS : ¬ S TN) (hP : ¬ S TP) : Mkp H' TP TN x i := by
 obtain ⟨ps, h1, h2⟩ := h
 exact ⟨ps, h1.tou ht hP, fun p hp => ht.keep (h2 p hp) hS⟩
theorem Mkp.len {TP TN : TypeId} {x : Sl} {i : Nat} (h : Mkp H TP TN x i) : ∃ ps : List Nat, VecN H TP 1 x (ps.map pV) ∧ x.len = ps.length ∧ ∀ p ∈ ps, Row H p TN (mRow i) := by
 obtain ⟨ps, h1, h2⟩ := h
 have := h1.len
 rw [List.length_map] at this
 exact ⟨ps, h1, by omega, h2⟩
theorem rep_put {ps : List Value} {k : Nat} {v : Value} (hk : k < ps.length) (h : ps.take k = List.replicate k v) : (ps.take (k * 1) ++ [v] ++ ps.drop (k * 1 + 1)).take (k + 1) = List.replicate (k + 1) v := by
 rw [Nat.mul_one, h, List.take_append_of_le_length (by simp), List.take_of_length_le (by simp), List.replicate_succ']
variable {TP TN TS : TypeId}
theorem jmN (hPS : TS ≠ TP) (hPN : TN ≠ TP) {L : List Sl} {l : Sl} (hl : VecN H TS 1 l (L.map slV)) (hR : ∀ x ∈ L, Room H TP 1 x) (hap : L.Pairwise Apart) (hlen : ∀ x ∈ L, x.len ≤ 2 ^ 44) (hL : L.length ≤ 2 ^ 44) {K : jaa → Prop}
 (hK : ∀ H', Tou (fun b => ∃ x ∈ L, x.a = some (adr b)) (· = TP) H H' → (∀ j (h : j < L.length), Mkp H' TP TN L[j] j) → K H') :
 LoopT (σ := Int) (fun next2 s2 H7 => Br (decide (s2 < (l.len : Int))) (Nw #[.int .i64 0, .string ByteArray.empty, .int .i64 s2, .slice none 0 0, .int .i64 0] TN H7 fun b2 H8 =>
  LoopT (σ := Int) (fun next3 s3 H9 => IxA 1 l s2 fun a2 => Ld .sl a2 H9 fun (x2 : Sl) => Br (decide (s3 < (x2.len : Int))) (IxA 1 l s2 fun a3 => Ld .sl a3 H9 fun (x3 : Sl) => IxA 1 x3 s3 fun a4 => St a4 (.pointer (some (adr b2))) H9 fun H10 => Lt (IntKind.wrap .i64 (s3 + 1)) fun t2 => next3 t2 H10)
   (Lt (IntKind.wrap .i64 (s2 + 1)) fun t3 => next2 t3 H9)) 0 H8) (K H7)) 0 H := by
 have hll := (jhe hl).len
 refine LoopT.mk (fun s H' => Tou (fun b => ∃ x ∈ L, x.a = some (adr b)) (· = TP) H H' ∧ ∃ i : Nat, s = i ∧ i ≤ L.length ∧ ∀ j (h : j < L.length), j < i → Mkp H' TP TN L[j] j) (fun s _ => L.length - s.toNat) ⟨.refl _ _ _, 0, rfl, Nat.zero_le _, fun j _ h => absurd h (Nat.not_lt_zero _)⟩ ?_
 rintro next _ H1 ⟨ht, i, rfl, hi, hq⟩ hnext
 refine jaj (fun hlt => ?_) fun hge => hK _ ht fun j h => hq j h (by omega)
 have hi2 : i < L.length := by omega
 have hm := List.getElem_mem hi2
 have hx := hlen _ hm
 refine jak (vs := mRow i) fun b2 H2 hb2 hE2 _ hr2 => ?_
 have t12 : Tou (fun b => L[i].a = some (adr b)) (· = TP) H1 H2 := .of_ext _ _ hE2
 have rd : ∀ {M H'} {k : Sl → Prop}, Tou M (· = TP) H1 H' → k L[i] → IxA 1 l (i : Nat) fun a => Ld .sl a H' k := fun h hk => jjU (jhe ((hl.tou ht hPS).tou h hPS)) rfl hi2 fun a g => jao (s := L[i]) g hk
 have hap' : ∀ j (h : j < L.length), j ≠ i → ∀ b, L[j].a = some (adr b) → L[i].a ≠ some (adr b) := fun j h hne b hb => by
  rcases Nat.lt_or_ge j i with hlt | hge
  ·exact (List.pairwise_iff_getElem.1 hap j i h hi2 hlt) b hb
  ·exact fun hb' => (List.pairwise_iff_getElem.1 hap i j hi2 h (by omega)) b hb' hb
 have hR1 := ((hR _ hm).tou ht).tou t12
 generalize hxd : L[i] = x at *
 refine LoopT.mk (fun s H' => Tou (fun b => x.a = some (adr b)) (· = TP) H1 H' ∧ Row H' b2 TN (mRow i) ∧ ∃ (k : Nat) (vs : List Value), s = k ∧ k ≤ x.len ∧ VecN H' TP 1 x vs ∧ vs.take k = List.replicate k (pV b2)) (fun s _ => x.len - s.toNat) (by
  obtain ⟨vs, h⟩ := hR1
  exact ⟨t12, hr2, 0, vs, rfl, Nat.zero_le _, h, by simp⟩) ?_
 rintro next2 _ H3 ⟨h3, hr3, k, vs, rfl, hk, hv, hvt⟩ hnext2
 refine rd h3 (jaj (fun hlt => ?_) fun hge => ?_)
 ·have hk2 : k < x.len := by omega
  have hvl := hv.len
  have key := put_raw (ws := [pV b2]) (i := (k : Nat)) (K := fun H10 => Lt (IntKind.wrap .i64 (((k : Nat) : Int) + 1)) fun t2 => next2 t2 H10) hv rfl (by decide) rfl hk2 fun H4 g4 h4 => ?_
  ·exact rd h3 key
  refine Lt.mk (u := ((k + 1 : Nat) : Int)) (by rw [jac] <;> omega) (hnext2 _ _ ⟨h3.trans h4 (fun _ _ e => e) fun _ e => e, h4.keep hr3 hPN, k + 1, _, rfl, hk2, g4, rep_put (by omega) hvt⟩ (by omega))
 ·have hk2 : k = x.len := by omega
  subst hk2
  rw [List.take_of_length_le (by have := hv.len; omega)] at hvt
  subst hvt
  refine Lt.mk (u := ((i + 1 : Nat) : Int)) (by rw [jac] <;> omega) (hnext _ _ ⟨ht.trans h3 (fun _ _ e => ⟨x, hm, e⟩) fun _ e => e, i + 1, rfl, hi2, fun j hj hji => ?_⟩ (by omega))
  by_cases e : j = i
  ·subst e; rw [hxd]
   exact ⟨List.replicate x.len b2, by rw [List.map_replicate]; exact hv, fun p hp => by rw [(List.mem_replicate.1 hp).2]; exact hr3⟩
  ·exact (hq j hj (by omega)).tou h3 hPN (hap' j hj e)
theorem jnm (hPS : TS ≠ TP) (hPN : TN ≠ TP) (hSN : TN ≠ TS) {cnt : Int} (hc0 : 0 ≤ cnt) (hc : cnt ≤ 100) {L : List Sl} {l : Sl} (hl : VecN H TS 1 l (L.map slV)) (hq : ∀ j (h : j < L.length), Mkp H TP TN L[j] j) (hap : L.Pairwise Apart) (hlen : ∀ x ∈ L, x.len ≤ 2 ^ 40) (hL : L.length ≤ 2 ^ 40) {K : Sl × Int → jaa → Prop}
 (hK : ∀ s H' G, Tou (fun b => (∃ x ∈ L, x.a = some (adr b)) ∨ l.a = some (adr b)) (fun t => t = TP ∨ t = TS) H H' → VecN H' TS 1 s.1 ((L ++ G).map slV) → G.length = L.length → (∀ j (h : j < L.length), Mkp H' TP TN L[j] j) → (∀ j (h : j < G.length), Mkp H' TP TN G[j] j) → (∀ j (h : j < G.length) (h' : j < L.length), (G[j].len : Int) = L[j].len + cnt) → K s H') :
 LoopT (σ := Sl × Int) (fun next4 s4 H11 => Br (decide (s4.2 < (l.len : Int))) (IxA 1 s4.1 s4.2 fun a5 => Ld .sl a5 H11 fun (x4 : Sl) =>
  LoopT (σ := Sl × Int) (fun next5 s5 H12 => Br (decide (s5.2 < cnt)) (Nw #[.int .i64 0, .string ByteArray.empty, .int .i64 s4.2, .slice none 0 0, .int .i64 0] TN H12 fun b3 H13 => Nw #[.pointer (some (adr b3))] TP H13 fun b4 H14 => App TP 1 8 #[.pointer none] s5.1 ⟨some (adr b4), 1, 1⟩ H14 fun l3 H15 => Lt (IntKind.wrap .i64 (s5.2 + 1)) fun t4 => next5 (l3, t4) H15)
   (Nw #[.slice s5.1.a s5.1.len s5.1.cap] TS H12 fun b5 H16 => App TS 1 24 #[.slice none 0 0] s4.1 ⟨some (adr b5), 1, 1⟩ H16 fun l4 H17 => Lt (IntKind.wrap .i64 (s4.2 + 1)) fun t5 => next4 (l4, t5) H17)) (x4, 0) H11) (K s4 H11)) (l, 0) H := by
 have hll := (jhe hl).len
 have hnS : ¬ (TN = TP ∨ TN = TS) := fun e => e.elim hPN hSN
 refine LoopT.mk (fun s H' => Tou (fun b => (∃ x ∈ L, x.a = some (adr b)) ∨ l.a = some (adr b)) (fun t => t = TP ∨ t = TS) H H' ∧ (s.1.a = l.a ∨ ∃ b, s.1.a = some (adr b) ∧ H.size ≤ b) ∧ ∃ (i : Nat) (G : List Sl), s.2 = i ∧ i ≤ L.length ∧ VecN H' TS 1 s.1 ((L ++ G).map slV) ∧ G.length = i ∧ (∀ j (h : j < L.length), Mkp H' TP TN L[j] j) ∧ (∀ j (h : j < G.length), Mkp H' TP TN G[j] j) ∧ (∀ j (h : j < G.length) (h' : j < L.length), (G[j].len : Int) = L[j].len + cnt) ∧
  ∀ g ∈ G, ∀ j (h : j < L.length), i ≤ j → Apart g L[j]) (fun s _ => L.length - s.2.toNat) ⟨.refl _ _ _, .inl rfl, 0, [], rfl, Nat.zero_le _, by simpa using hl, rfl, hq, (fun j h => by cases h), (fun j h => by cases h), fun g h => by cases h⟩ ?_
 rintro next ⟨s, i'⟩ H1 ⟨ht, hs, i, G, hi', hi, hv, hG, q1, q2, q3, q4⟩ hnext
 dsimp only at hi' hs hv
 subst hi'
 refine jaj (fun hlt => ?_) fun hge => ?_
 rotate_left
 ·have hge : ¬ (i : Int) < l.len := hge
  exact hK _ _ G ht hv (by omega) q1 q2 q3
 have hi2 : i < L.length := by have hlt : (i : Int) < l.len := hlt; omega
 have hm := List.getElem_mem hi2
 have hx := hlen _ hm
 have hiA : i < (L ++ G).length := by rw [List.length_append]; omega
 refine jjU (jhe hv) rfl hiA fun a g => ?_
 rw [List.getElem_append_left hi2] at g
 refine jao (s := L[i]) g ?_
 have hqi := q1 i hi2
 have hap' : ∀ j (h : j < L.length), j ≠ i → ∀ b, L[j].a = some (adr b) → L[i].a ≠ some (adr b) := fun j h hne b hb => by
  rcases Nat.lt_or_ge j i with hlt | hge
  ·exact (List.pairwise_iff_getElem.1 hap j i h hi2 hlt) b hb
  ·exact fun hb' => (List.pairwise_iff_getElem.1 hap i j hi2 h (by omega)) b hb' hb
 have hgap : ∀ g ∈ G, Apart g L[i] := fun g hg => q4 g hg i hi2 (Nat.le_refl _)
 generalize hxd : L[i] = x at *
 refine LoopT.mk (fun s H' => Tou (fun b => x.a = some (adr b)) (· = TP) H1 H' ∧ Mkp H' TP TN x i ∧ (s.1.a = x.a ∧ s.1.cap = x.cap ∨ ∃ b, s.1.a = some (adr b) ∧ H1.size ≤ b) ∧ ∃ k : Nat, s.2 = k ∧ (k : Int) ≤ cnt ∧ s.1.len = x.len + k ∧ Mkp H' TP TN s.1 i) (fun s _ => cnt.toNat - s.2.toNat) ⟨.refl _ _ _, hqi, .inl ⟨rfl, rfl⟩, 0, rfl, by omega, rfl, hqi⟩ ?_
 rintro next2 ⟨w, k'⟩ H2 ⟨h2, hx2, hw, k, hk', hk, hwl, hwv⟩ hnext2
 dsimp only at hk' hw hwl hwv
 subst hk'
 have hz12 := h2.upd.size
 have hx2lt : ∀ {b : Nat}, x.a = some (adr b) → b < H1.size := fun hb => by
  obtain ⟨ps, h, _⟩ := hqi
  exact VecN.lt h hb
 refine jaj (fun hlt => ?_) fun hge => ?_
 ·have hlt : (k : Int) < cnt := hlt
  refine jak (vs := mRow i) fun b3 H2' hb3 hE3 _ hr3 => ?_
  have t2' : Tou (fun _ => False) (fun _ => False) H2 H2' := .of_ext _ _ hE3
  have hx2 := hx2.tou t2' id fun _ _ => id
  obtain ⟨ps, hwv, hps⟩ := hwv.tou t2' id fun _ _ => id
  refine jeT (ws := [pV b3]) (z := #[.pointer none]) hwv rfl (by decide) rfl (fun v hv => by rw [List.mem_singleton.1 hv]; rfl) (by decide) (by dsimp only; omega) fun w' H3 g1 g2 g3 g4 => ?_
  dsimp only at g1 g2 g3 g4
  have g1' : Mkp H3 TP TN w' i := ⟨ps ++ [b3], by rw [List.map_append]; exact g1, fun p hp => by
   rcases List.mem_append.1 hp with hp | hp
   ·exact g3.keep (hps p hp) hPN
   ·rw [List.mem_singleton.1 hp]; exact g3.keep hr3 hPN⟩
  have hz2' := hE3.size
  refine Lt.mk (u := ((k + 1 : Nat) : Int)) (by rw [jac] <;> omega) (hnext2 _ _ ⟨?_, ?_, ?_, k + 1, rfl, by omega, by rw [g2]; omega, g1'⟩ (by dsimp only; omega))
  ·refine (h2.trans t2' (fun b hb e => e.elim) fun _ e => e.elim).trans g3 (fun b hb e => ?_) fun _ e => e
   rcases hw with ⟨hw, _⟩ | ⟨c, h1, h3⟩
   ·rw [← hw]; exact e
   ·rw [h1] at e; cases e; omega
  ·rcases g4 with ⟨g4, g5⟩ | ⟨_, g5⟩
   ·rcases hw with ⟨hw, hwc⟩ | ⟨c, h1, h3⟩
    ·-- the same block: what stood there stands there
     obtain ⟨qs, hxv, hqs⟩ := hx2
     have hxl := hxv.len
     have hpl := hwv.len
     rw [List.length_map] at hxl hpl
     have hpre := jnf g1 (j := x.len) (c := x.cap) (by omega) (VecN.lc hxv) (by rw [g5, hwc]; exact Nat.le_refl _)
     rw [g4, hw] at hpre
     have e : (ps.map pV ++ [pV b3]).take (x.len * 1) = (ps.take x.len).map pV := by
      rw [List.take_append_of_le_length (by rw [List.length_map]; omega), Nat.mul_one, List.map_take]
     rw [e] at hpre
     exact ⟨ps.take x.len, hpre, fun p hp => g3.keep (hps p (List.mem_of_mem_take hp)) hPN⟩
    ·exact hx2.tou g3 hPN fun b hb e => by rw [h1] at e; cases e; have := hx2lt hb; omega
   ·exact hx2.tou (.of_ext (fun _ => False) (fun _ => False) g5) id fun _ _ => id
  ·rcases g4 with ⟨g4, g5⟩ | ⟨⟨b, h1, h3⟩, _⟩
   ·dsimp only; rw [g4, g5]; exact hw
   ·exact .inr ⟨b, h1, by omega⟩
 have hge : ¬ (k : Int) < cnt := hge
 have hv2 : VecN H2 TS 1 s ((L ++ G).map slV) := hv.tou h2 hPS
 have hsl : s.len = L.length + G.length := by have := (jhe hv).len; rw [List.length_append] at this; exact this
 refine jeT (ws := [slV w]) hv2 rfl (by decide) rfl (fun v hv => by rw [List.mem_singleton.1 hv]; rfl) (by decide) (by dsimp only; omega) fun s' H3 g1 g2 g3 g4 => ?_
 dsimp only at g1 g2 g3 g4
 have hST : ¬ TP = TS := fun e => hPS e.symm
 have keep : ∀ {y : Sl} {m : Nat}, Mkp H2 TP TN y m → Mkp H3 TP TN y m := fun h => h.tou2 g3 hSN hST
 have hz01 := ht.upd.size
 refine Lt.mk (u := ((i + 1 : Nat) : Int)) (by rw [jac] <;> omega) (hnext _ _ ⟨?_, ?_, i + 1, G ++ [w], rfl, hi2, ?_, by rw [List.length_append, hG]; rfl, ?_, ?_, ?_, ?_⟩ (by dsimp only; omega))
 ·refine (ht.trans h2 (fun b _ e => .inl ⟨x, hm, e⟩) fun _ e => .inl e).trans g3 (fun b hb e => ?_) fun _ e => .inr e
  rcases hs with hs | ⟨c, h1, h3⟩
  ·rw [hs] at e; exact .inr e
  ·rw [h1] at e; cases e; omega
 ·rcases g4 with ⟨g4, _⟩ | ⟨⟨b, h1, h3⟩, _⟩
  ·dsimp only; rw [g4]; exact hs
  ·exact .inr ⟨b, h1, by omega⟩
 ·have : (L ++ (G ++ [w])).map slV = (L ++ G).map slV ++ [slV w] := by simp
  rw [this]; exact g1
 ·intro j hj
  refine keep ?_
  by_cases e : j = i
  ·subst e; rw [hxd]; exact hx2
  ·exact (q1 j hj).tou h2 hPN (hap' j hj e)
 ·intro j hj
  refine keep ?_
  rcases Nat.lt_or_ge j G.length with h | h
  ·rw [List.getElem_append_left h]
   exact (q2 j h).tou h2 hPN (hgap _ (List.getElem_mem h))
  ·have : j = i := by rw [List.length_append, List.length_singleton] at hj; omega
   subst this
   rw [List.getElem_append_right h]
   simp only [hG, Nat.sub_self, List.getElem_cons_zero]
   exact hwv
 ·intro j hj hj'
  rcases Nat.lt_or_ge j G.length with h | h
  ·rw [List.getElem_append_left h]; exact q3 j h hj'
  ·have : j = i := by rw [List.length_append, List.length_singleton] at hj; omega
   subst this
   rw [List.getElem_append_right h]
   simp only [hG, Nat.sub_self, List.getElem_cons_zero, hxd]
   omega
 ·intro g hg j hj hij
  rcases List.mem_append.1 hg with hg | hg
  ·exact q4 g hg j hj (by omega)
  ·rw [List.mem_singleton.1 hg]
   intro b hb hb'
   rcases hw with ⟨hw, _⟩ | ⟨c, h1, h3⟩
   ·rw [hw] at hb; exact hap' j hj (by omega) b hb' hb
   ·rw [h1] at hb; cases hb
    obtain ⟨ps, h, _⟩ := q1 j hj
    have := VecN.lt h hb'
    omega
theorem jlN {l : Sl} {A : List Sl} {m : Nat} (hv : VecN H TS 1 l (A.map slV)) (hA : ∀ j (h : j < A.length), Mkp H TP TN A[j] (j % m)) (hm : 0 < m) (hlen : ∀ x ∈ A, x.len ≤ 2 ^ 44) (hL : A.length ≤ 2 ^ 44) {many : Int} (hmany : many = (m : Nat)) {kf : jaa → Prop} {K : jaa → Prop} (hK : K H) :
 LoopT (σ := Int) (fun next6 s6 H18 => Br (decide (s6 < (l.len : Int))) (LoopT (σ := Int) (fun next7 s7 H19 => IxA 1 l s6 fun a6 => Ld .sl a6 H19 fun (x5 : Sl) => Br (decide (s7 < (x5.len : Int))) (
  Jn (σ := Bool) (fun kk2 => IxA 1 l s6 fun a7 => Ld .sl a7 H19 fun (x6 : Sl) => IxA 1 x6 s7 fun a8 => Ld .ptr a8 H19 fun (x7 : Option Addr) => Br x7.isNone (kk2 true H19) (
   IxA 1 l s6 fun a9 => Ld .sl a9 H19 fun (x8 : Sl) => IxA 1 x8 s7 fun a10 => Ld .ptr a10 H19 fun (x9 : Option Addr) => jab x9 fun a11 => Ld (.int .i64) (a11.add 2) H19 fun (x10 : Int) => Rem s6 many fun t6 => kk2 (x10 != t6) H19)) fun j2 H20 =>
  Br j2 (kf H20) (Lt (IntKind.wrap .i64 (s7 + 1)) fun t7 => next7 t7 H20)) (Lt (IntKind.wrap .i64 (s6 + 1)) fun t8 => next6 t8 H19)) 0 H18) (K H18)) 0 H := by
 have hll := (jhe hv).len
 subst hmany
 refine LoopT.mk (fun s H' => H = H' ∧ ∃ i : Nat, s = i ∧ i ≤ A.length) (fun s _ => A.length - s.toNat) ⟨rfl, 0, rfl, Nat.zero_le _⟩ ?_
 rintro next _ _ ⟨rfl, i, rfl, hi⟩ hnext
 refine jaj (fun hlt => ?_) fun _ => hK
 have hi2 : i < A.length := by omega
 obtain ⟨ps, hx, hxl, hps⟩ := (hA i hi2).len
 have hxl44 := hlen _ (List.getElem_mem hi2)
 have rd : ∀ {k : Sl → Prop}, k A[i] → IxA 1 l (i : Nat) fun a => Ld .sl a H k := fun hk => jjU (jhe hv) rfl hi2 fun a g => jao (s := A[i]) g hk
 generalize hxd : A[i] = x at *
 refine LoopT.mk (fun s H' => H = H' ∧ ∃ k : Nat, s = k ∧ k ≤ x.len) (fun s _ => x.len - s.toNat) ⟨rfl, 0, rfl, Nat.zero_le _⟩ ?_
 rintro next2 _ _ ⟨rfl, k, rfl, hk⟩ hnext2
 refine rd (jaj (fun hlt => ?_) fun hge => ?_)
 ·have hk2 : k < ps.length := by omega
  have rp : ∀ {k' : Option Addr → Prop}, k' (some (adr ps[k])) → IxA 1 x (k : Nat) fun a => Ld .ptr a H k' := fun hk' => by
   refine jgh hx (by decide) rfl (by omega) fun c hc hcell => ?_
   have := hcell 0 (by decide)
   refine jaG (show Hc.hcell H ⟨c, k * 1, none⟩ = _ from Eq.trans this ?_) hk'
   rw [show k * 1 + 0 = k by omega, List.getElem?_map, List.getElem?_eq_getElem hk2]; rfl
  refine Jn.mk (fun j H' => H = H' ∧ j = false) (fun kk hkk => rd (rp ((Br_false _ _).2 (rd (rp ?_))))) ?_
  ·simp only [NilCk_some, adr_add]
   have hr := hps _ (List.getElem_mem hk2)
   refine jag ((hr.cell 2).trans rfl) ⟨by omega, ?_⟩
   refine hkk _ _ ⟨rfl, ?_⟩
   rw [← Int.ofNat_tmod]
   simp
  ·rintro _ _ ⟨rfl, rfl⟩
   exact (Br_false _ _).2 (Lt.mk (u := ((k + 1 : Nat) : Int)) (by rw [jac] <;> omega) (hnext2 _ _ ⟨rfl, k + 1, rfl, by omega⟩ (by omega)))
 ·exact Lt.mk (u := ((i + 1 : Nat) : Int)) (by rw [jac] <;> omega) (hnext _ _ ⟨rfl, i + 1, rfl, by omega⟩ (by omega))
end
end Go.Proofs.YtfpmgpblhhcpgaaGreatDoor.Hc
namespace Go.Proofs.YtfpmgpblhhcpgaaGreatDoor
set_option maxRecDepth 100000
section
open Hc Hc.Lex Hc.Syn
variable {H : jaa}
abbrev TRD (H : jaa) (n : Nd) (q : Option Nat) (fp : List Nat) : Prop := TrR TD TQ H n q fp
theorem jlB : ∀ {l : List Nd} {i : Nat}, i < l.length → wt l[i]! ≤ wtL l
 | [], i, h => by simp at h
 | n :: l, i, h => by
   cases i with
   | zero => simp [wtL]
   | succ i =>
     have := jlB (l := l) (i := i) (by simpa using h)
     simp only [wtL]
     have e : (n :: l)[i + 1]! = l[i]! := by simp
     rw [e]; omega
theorem jjh : ∀ {l : List Nd}, nzL l → l.length ≤ wtL l
 | [], _ => Nat.le_refl _
 | .nil :: _, h => h.1.elim
 | .mk op t n k a :: l, h => by
   have := jjh h.2
   show l.length + 1 ≤ (1 + wtL k) + wtL l
   omega
theorem jiX : ∀ {l : List Nd}, nzL l → ∀ n ∈ l, nz n
 | _ :: _, h, n, hn => by
   rcases List.mem_cons.1 hn with rfl | hn
   ·exact h.1
   ·exact jiX h.2 n hn
abbrev nzR (n : Nd) : Prop := n = .nil ∨ nz n
theorem jgi {T : TypeId} {L : Sl} {qs : List (Option Nat)} (h : Vec H T L (qs.map jb3)) {j : Nat} {q : Option Nat} (hq : qs[j]? = some q) {i : Int} (hi : i = (j : Nat)) {k : Option Addr → Prop} (hk : k (q.map adr)) : IxA 1 L i fun a => Ld .ptr a H k := by
 have hj : j < qs.length := by
  rcases Nat.lt_or_ge j qs.length with g | g
  ·exact g
  ·rw [List.getElem?_eq_none g] at hq; cases hq
 subst hi
 refine jcy h (by omega) (by rw [List.length_map]; omega) fun ad hc _ => jaG (hc.trans ?_) hk
 rw [Int.toNat_natCast, List.getElem?_map, hq]; rfl
theorem s_one : ∀ (m : Nat) {n : Nd} {qa qb : Option Nat} {fa fb : List Nat}, wt n ≤ m → wt n ≤ 2 ^ 40 → nzR n → TR H n qa fa → TRD H n qb fb → ∀ {k : Bool → jaa → Prop}, k true H → CallT Pg fQdy [pN qa, pN qb] (.one (.c .bool)) H k := by
 intro m
 induction m with
 | zero =>
   intro n qa qb fa fb hm hw40 hz ha hb k hk
   cases n with
   | mk op tx nm l a => simp [wt] at hm
   | nil =>
     obtain ⟨rfl, _⟩ := ha
     obtain ⟨rfl, _⟩ := hb
     refine cQdn _ _ ?_
     unfold vQdn
     simp only [Jn, Option.map_none, Option.isNone_none, Br_true]
     exact hk
 | succ m ih =>
   intro n qa qb fa fb hm hw40 hz ha hb k hk
   refine cQdn _ _ ?_
   unfold vQdn
   cases n with
   | nil =>
     obtain ⟨rfl, _⟩ := ha
     obtain ⟨rfl, _⟩ := hb
     simp only [Jn, Option.map_none, Option.isNone_none, Br_true]
     exact hk
   | mk op tx nm l a =>
   obtain ⟨b, L, qs, fl, rfl, hr, hv, hl, rfl⟩ := ha
   obtain ⟨b', L', qs', fl', rfl, hr', hv', hl', rfl⟩ := hb
   have hLl : L.len = l.length := by rw [hv.len, List.length_map, hl.len]
   have hLl' : L'.len = l.length := by rw [hv'.len, List.length_map, hl'.len]
   have hnz : nzL l := hz.elim (fun e => by cases e) id
   have hll := jjh hnz
   have hcn : wt (.mk op tx nm l a) = 1 + wtL l := by simp [wt]
   have hl40 : l.length ≤ 2 ^ 40 := by omega
   simp only [Jn, Option.map_some, Option.isNone_some, NilCk_some, adr_add, Br_false]
   refine jag ((hr.cell 0).trans rfl) (jag ((hr'.cell 0).trans rfl) ?_)
   rw [show (op != op) = false by simp]
   refine (Br_false _ _).2 (jam ((hr.cell 1).trans rfl) (jam ((hr'.cell 1).trans rfl) ?_))
   rw [jcq, decide_eq_true rfl]
   refine (Br_false _ _).2 (jag ((hr.cell 2).trans rfl) (jag ((hr'.cell 2).trans rfl) ?_))
   rw [show (nm != nm) = false by simp]
   refine (Br_false _ _).2 (jag ((hr.cell 4).trans rfl) (jag ((hr'.cell 4).trans rfl) ?_))
   rw [show (a != a) = false by simp]
   refine (Br_false _ _).2 (jao ((hr.cell 3).trans rfl) (jao ((hr'.cell 3).trans rfl) ?_))
   rw [hLl, hLl', show ((l.length : Int) != l.length) = false by simp]
   refine (Br_false _ _).2 ?_
   refine LoopT.ghost (fun m' st H' => H = H' ∧ ∃ j : Nat, st = j ∧ m' = l.length - j ∧ j ≤ l.length) l.length ⟨rfl, 0, rfl, rfl, Nat.zero_le _⟩ ?_
   rintro next _ _ _ ⟨rfl, j, rfl, rfl, hj⟩ hnext
   refine jao ((hr.cell 3).trans rfl) (jaj (fun hlt => ?_) fun hge => hk)
   have hj' : j < l.length := by rw [hLl] at hlt; omega
   obtain ⟨_, f1, _, q1, _, e1, t1, _⟩ := TrL.get' hl j hj'
   obtain ⟨_, f2, _, q2, _, e2, t2, _⟩ := TrL.get' hl' j hj'
   refine jao ((hr.cell 3).trans rfl) (jgi hv e1 rfl (jao ((hr'.cell 3).trans rfl) (jgi hv' e2 rfl ?_)))
   have hcj := jlB hj'
   have htj : nz l[j]! := by
    have hm : l[j]! ∈ l := by rw [getElem!_pos l j hj']; exact List.getElem_mem _
    exact jiX hnz _ hm
   refine ih (by omega) (by omega) (.inr htj) t1 t2 (jaw (fun x hx => ?_) ((Br_false _ _).2 ?_))
   ·simp only [List.mem_cons, List.not_mem_nil, or_false] at hx
    rcases hx with rfl | rfl
    ·exact (hr'.cell 3).trans rfl
    ·exact (hr.cell 3).trans rfl
   ·exact Lt.mk (u := ((j + 1 : Nat) : Int)) (by rw [jac] <;> omega) (hnext _ _ _ (by omega) ⟨rfl, j + 1, rfl, rfl, by omega⟩)
abbrev Ent := Sl × List (Option Nat)
mutual
def LsN (H : jaa) : Nd → Option Nat → List Ent → Prop
 | .nil, q, ls => q = none ∧ ls = []
 | .mk op tx nm l a, q, ls => ∃ b L qs ls', q = some b ∧ Row H b jh8 (ndV op tx nm L a) ∧ Vec H jbl L (qs.map jb3) ∧ LsL H l qs ls' ∧ ls = (L, qs) :: ls'
def LsL (H : jaa) : List Nd → List (Option Nat) → List Ent → Prop
 | [], qs, ls => qs = [] ∧ ls = []
 | n :: ns, qs, ls => ∃ q qs' l1 l2, qs = q :: qs' ∧ ls = l1 ++ l2 ∧ LsN H n q l1 ∧ LsL H ns qs' l2
end
abbrev blkE (x : Ent) : List Nat := jaW x.1
def Nde (H : jaa) (fp : List Nat) (q : Option Nat) : Prop := ∃ b, q = some b ∧ b ∈ fp ∧ ∃ vs, vs.length = 5 ∧ Row H b jh8 vs
theorem Nde.mono {fp fp' : List Nat} {q : Option Nat} (h : Nde H fp q) (hs : ∀ x ∈ fp, x ∈ fp') : Nde H fp' q := by
 obtain ⟨b, h1, h2, h3⟩ := h
 exact ⟨b, h1, hs b h2, h3⟩
mutual
theorem LsN.of : ∀ {n : Nd} {q : Option Nat} {fp : List Nat}, TR H n q fp → nz n → ∃ ls, LsN H n q ls ∧ (ls.flatMap blkE).Sublist fp ∧ (∀ x ∈ ls, Vec H jbl x.1 (x.2.map jb3)) ∧ (∀ q' ∈ q :: ls.flatMap (·.2), Nde H fp q') ∧ ls.length = wt n ∧ (ls.flatMap (·.2)).length + 1 = wt n
 | .nil, _, _, _, h => h.elim
 | .mk op tx nm l a, _, _, ⟨b, L, qs, fl, rfl, hr, hv, hl, rfl⟩, hok => by
   obtain ⟨ls, g1, g2, g3, g4, g5, g6⟩ := LsL.of hl hok
   have hsub : ∀ x ∈ fl, x ∈ b :: (jaW L ++ fl) := fun x hx => by simp [hx]
   refine ⟨(L, qs) :: ls, ⟨b, L, qs, ls, rfl, hr, hv, g1, rfl⟩, ?_, ?_, ?_, by simp only [List.length_cons, wt, g5]; omega, ?_⟩
   ·rw [List.flatMap_cons]
    exact ((List.Sublist.refl _).append g2).trans (List.sublist_cons_self _ _)
   ·intro x hx
    rcases List.mem_cons.1 hx with rfl | hx
    ·exact hv
    ·exact g3 x hx
   ·intro q' hq'
    rcases List.mem_cons.1 hq' with rfl | hq'
    ·exact ⟨b, rfl, by simp, _, rfl, hr⟩
    ·rw [List.flatMap_cons] at hq'
     exact (g4 q' hq').mono hsub
   ·simp only [List.flatMap_cons, List.length_append, wt] at g6 ⊢; omega
theorem LsL.of : ∀ {ns : List Nd} {qs : List (Option Nat)} {fp : List Nat}, TrL jh8 jbl H ns qs fp → nzL ns → ∃ ls, LsL H ns qs ls ∧ (ls.flatMap blkE).Sublist fp ∧ (∀ x ∈ ls, Vec H jbl x.1 (x.2.map jb3)) ∧ (∀ q' ∈ qs ++ ls.flatMap (·.2), Nde H fp q') ∧ ls.length = wtL ns ∧ (qs ++ ls.flatMap (·.2)).length = wtL ns
 | [], _, _, ⟨rfl, rfl⟩, _ => ⟨[], ⟨rfl, rfl⟩, by simp, (fun x hx => by cases hx), (fun q hq => by simp at hq), by simp [wtL], by simp [wtL]⟩
 | n :: ns, _, _, ⟨q, qs', f1, f2, rfl, rfl, h1, h2⟩, hok => by
   obtain ⟨l1, a1, a2, a3, a4, a5, a6⟩ := LsN.of h1 hok.1
   obtain ⟨l2, b1, b2, b3, b4, b5, b6⟩ := LsL.of h2 hok.2
   refine ⟨l1 ++ l2, ⟨q, qs', l1, l2, rfl, rfl, a1, b1⟩, ?_, ?_, ?_, by simp only [List.length_append, wtL, a5, b5], ?_⟩
   ·rw [List.flatMap_append]; exact a2.append b2
   ·intro x hx
    rcases List.mem_append.1 hx with hx | hx
    ·exact a3 x hx
    ·exact b3 x hx
   ·intro q' hq'
    rw [List.flatMap_append] at hq'
    have : q' ∈ q :: l1.flatMap (·.2) ∨ q' ∈ qs' ++ l2.flatMap (·.2) := by
     simp only [List.mem_append, List.mem_cons] at hq' ⊢
     rcases hq' with (h | h) | h | h
     ·exact .inl (.inl h)
     ·exact .inr (.inl h)
     ·exact .inl (.inr h)
     ·exact .inr (.inr h)
    rcases this with h | h
    ·exact (a4 q' h).mono fun x hx => List.mem_append_left _ hx
    ·exact (b4 q' h).mono fun x hx => List.mem_append_right _ hx
   ·simp only [List.flatMap_append, List.length_append, List.length_cons, wtL] at a6 b6 ⊢; omega
end
theorem jh4 {M : Nat → Prop} {S : TypeId → Prop} {H' : jaa} {T : TypeId} {s : Sl} {vs : List Value} (h : Vec H T s vs) (ht : Tou M S H H') (hn : ¬ S T) : Vec H' T s vs :=
 ⟨h.len, h.own.imp id fun ⟨b, sp, h1, h2, h3⟩ => ⟨b, sp, h1, ht.keep h2 hn, h3⟩, h.lc⟩
mutual
theorem LsN.tou {M : Nat → Prop} {H' : jaa} (ht : Tou M (· = TQar) H H') : ∀ {n : Nd} {q : Option Nat} {ls : List Ent}, LsN H n q ls → LsN H' n q ls
 | .nil, _, _, h => h
 | .mk .., _, _, ⟨b, L, qs, ls', h1, hr, hv, hl, h2⟩ => ⟨b, L, qs, ls', h1, ht.keep hr (by decide), jh4 hv ht (by decide), LsL.tou ht hl, h2⟩
theorem LsL.tou {M : Nat → Prop} {H' : jaa} (ht : Tou M (· = TQar) H H') : ∀ {ns : List Nd} {qs : List (Option Nat)} {ls : List Ent}, LsL H ns qs ls → LsL H' ns qs ls
 | [], _, _, h => h
 | _ :: _, _, _, ⟨q, qs', l1, l2, h1, h2, h3, h4⟩ => ⟨q, qs', l1, l2, h1, h2, LsN.tou ht h3, LsL.tou ht h4⟩
end
end
section
open Hc Hc.Lex Hc.Syn
variable {H : jaa}
abbrev TSN : TypeId := jh8
abbrev TSP : TypeId := jbl
abbrev TSL : TypeId := TQar
mutual
theorem LsN.len : ∀ {n : Nd} {q : Option Nat} {ls : List Ent}, LsN H n q ls → ls.length = wt n
 | .nil, _, _, ⟨_, rfl⟩ => by simp [wt]
 | .mk .., _, _, ⟨b, L, qs, ls', _, _, _, hl, rfl⟩ => by have := LsL.len hl; simp only [List.length_cons, wt]; omega
theorem LsL.len : ∀ {ns : List Nd} {qs : List (Option Nat)} {ls : List Ent}, LsL H ns qs ls → ls.length = wtL ns
 | [], _, _, ⟨_, rfl⟩ => by simp [wtL]
 | _ :: _, _, _, ⟨q, qs', l1, l2, _, rfl, h3, h4⟩ => by have := LsN.len h3; have := LsL.len h4; simp only [List.length_append, wtL]; omega
end
theorem LsL.lenq : ∀ {ns : List Nd} {qs : List (Option Nat)} {ls : List Ent}, LsL H ns qs ls → qs.length = ns.length
 | [], _, _, ⟨h, _⟩ => by rw [h]; rfl
 | _ :: _, _, _, ⟨q, qs', l1, l2, h, _, _, h4⟩ => by rw [h]; simp [LsL.lenq h4]
theorem s_lists : ∀ (m : Nat) {n : Nd} {q : Option Nat} {ls : List Ent} {H : jaa} {l : Sl} {vs : List Sl}, wt n ≤ m → nzR n → LsN H n q ls → VecN H TSL 1 l (vs.map slV) → vs.length + wt n ≤ 2 ^ 21 →
 ∀ {k : Sl → jaa → Prop}, (∀ l' H', Tou (fun b => l.a = some (adr b)) (· = TSL) H H' → VecN H' TSL 1 l' ((vs ++ ls.map (·.1)).map slV) → (l'.a = l.a ∨ ∃ b, l'.a = some (adr b) ∧ H.size ≤ b) → k l' H') →
 CallT Pg fQd0 [pN q, slV l] (.one (.c .sl)) H k := by
 intro m
 induction m with
 | zero =>
   intro n q ls H l vs hm hz hls hv hvs k hk
   cases n with
   | mk op tx nm l a => simp [wt] at hm
   | nil =>
     obtain ⟨rfl, rfl⟩ := hls
     refine cQdo _ _ ?_
     unfold vQdo
     simp only [Option.map_none, Option.isNone_none, Br_true]
     exact hk l H (.refl _ _ _) (by simpa using hv) (.inl rfl)
 | succ m ih =>
   intro n q ls H l vs hm hz hls hv hvs k hk
   cases n with
   | nil =>
     obtain ⟨rfl, rfl⟩ := hls
     refine cQdo _ _ ?_
     unfold vQdo
     simp only [Option.map_none, Option.isNone_none, Br_true]
     exact hk l H (.refl _ _ _) (by simpa using hv) (.inl rfl)
   | mk op tx nm ks a =>
   obtain ⟨b, L, qs, ls, rfl, hr, hvL, hl, rfl⟩ := hls
   refine cQdo _ _ ?_
   unfold vQdo
   simp only [Option.map_some, Option.isNone_some, NilCk_some, adr_add, Br_false]
   have hcn : wt (.mk op tx nm ks a) = 1 + wtL ks := by simp [wt]
   have hlc := LsL.len hl
   have hLl : L.len = ks.length := by rw [hvL.len, List.length_map, LsL.lenq hl]
   have hll := hv.len
   rw [List.length_map] at hll
   have hnz : nzL ks := hz.elim (fun e => by cases e) id
   have hks0 := jjh hnz
   have hks : ks.length ≤ 2 ^ 40 := by omega
   refine jao ((hr.cell 3).trans rfl) (jeT (ws := [slV L]) hv rfl (by decide) rfl (fun v hv => by rw [List.mem_singleton.1 hv]; rfl) (by decide) (by omega) fun l1 H1 g1 g2 g3 g4 => ?_)
   refine LoopT.ghost (fun m' (s : Sl × Int) H' => ∃ (j : Nat) (dn rs : List Ent), s.2 = j ∧ m' = ks.length - j ∧ j ≤ ks.length ∧ ls = dn ++ rs ∧ LsL H' (ks.drop j) (qs.drop j) rs ∧ Tou (fun b => l.a = some (adr b)) (· = TSL) H H' ∧ VecN H' TSL 1 s.1 ((vs ++ L :: dn.map (·.1)).map slV) ∧ (s.1.a = l.a ∨ ∃ b, s.1.a = some (adr b) ∧ H.size ≤ b)) ks.length
    ⟨0, [], ls, rfl, rfl, Nat.zero_le _, rfl, LsL.tou g3 (by simpa using hl), g3, by simpa using g1, ?_⟩ ?_
   ·rcases g4 with ⟨g4, _⟩ | ⟨g4, _⟩
    ·exact .inl g4
    ·exact .inr g4
   rintro next _ ⟨s, i⟩ H2 ⟨j, dn, rs, hi, rfl, hj, hdr, hlr, ht, hv2, ha2⟩ hnext
   dsimp only at hi hv2 ha2 ⊢
   subst hi
   have hr2 := ht.keep hr (by decide)
   have hvL2 : Vec H2 TSP L (qs.map jb3) := jh4 hvL ht (by decide)
   have hz := ht.upd.size
   refine jao ((hr2.cell 3).trans rfl) (jaj (fun hlt => ?_) fun hge => ?_)
   ·have hj' : j < ks.length := by rw [hLl] at hlt; omega
    rw [List.drop_eq_getElem_cons hj'] at hlr
    obtain ⟨q, qs', l1, l2, e1, rfl, h1, h2⟩ := hlr
    have hjq : j < qs.length := by rw [LsL.lenq hl]; exact hj'
    rw [List.drop_eq_getElem_cons hjq] at e1
    obtain ⟨e1, e2⟩ := List.cons.inj e1
    have hq : qs[j]? = some q := by rw [List.getElem?_eq_getElem hjq, e1]
    have hc1 := LsN.len h1
    have hdl := congrArg List.length hdr
    simp only [List.length_append] at hdl
    have htj : nz ks[j] := jiX hnz _ (List.getElem_mem _)
    refine jao ((hr2.cell 3).trans rfl) (jgi hvL2 hq rfl ?_)
    refine ih (by omega) (.inr htj) h1 hv2 (by simp only [List.length_append, List.length_cons, List.length_map]; omega) fun l3 H3 t3 v3 a3 => ?_
    refine Lt.mk (u := ((j + 1 : Nat) : Int)) (by rw [jac] <;> omega) (hnext (ks.length - (j + 1)) _ _ (by omega) ⟨j + 1, dn ++ l1, l2, rfl, rfl, by omega, by rw [hdr]; simp, LsL.tou t3 (e2 ▸ h2), ?_, by simpa using v3, ?_⟩)
    ·refine ht.trans t3 (fun c hc e => ?_) fun _ e => e
     rcases ha2 with h | ⟨d, h, h'⟩
     ·rw [← h]; exact e
     ·rw [h] at e; cases e; omega
    ·rcases a3 with h | ⟨d, h, h'⟩
     ·rw [h]; exact ha2
     ·exact .inr ⟨d, h, by omega⟩
   ·have hj' : j = ks.length := by rw [hLl] at hge; omega
    subst hj'
    rw [List.drop_of_length_le (Nat.le_refl _)] at hlr
    obtain ⟨_, rfl⟩ := hlr
    rw [List.append_nil] at hdr
    subst hdr
    exact hk s H2 ht (by simpa using hv2) ha2
theorem jku : ∀ {ls : List Ent}, (ls.flatMap blkE).Nodup → (ls.map (·.1)).Pairwise Apart
 | [], _ => List.Pairwise.nil
 | x :: ls, h => by
   rw [List.flatMap_cons] at h
   obtain ⟨_, h2, h3⟩ := List.nodup_append.1 h
   refine List.Pairwise.cons (fun y hy b hb hb' => ?_) (jku h2)
   obtain ⟨z, hz, rfl⟩ := List.mem_map.1 hy
   exact h3 b (by show b ∈ jaW x.1; unfold jaW; rw [hb]; simp) b (List.mem_flatMap.2 ⟨z, hz, by show b ∈ jaW z.1; unfold jaW; rw [hb']; simp⟩) rfl
theorem jlb {n : Nd} {q : Option Nat} {fp : List Nat} (htr : TR H n q fp) (hnd : fp.Nodup) (hok : nzR n) (hcn : wt n ≤ 2 ^ 18) {k : Bool → jaa → Prop} (hk : ∀ H', Upd (· ∈ fp) H H' → k true H') : CallT Pg fQdz [pN q] (.one (.c .bool)) H k := by
 refine cQdp _ ?_
 unfold vQdp
 -- what the tree is made of
 obtain ⟨ls, hls, hsub, hvec, hnde, hlen, hqs⟩ : ∃ ls, LsN H n q ls ∧ (ls.flatMap blkE).Sublist fp ∧ (∀ x ∈ ls, Vec H TSP x.1 (x.2.map jb3)) ∧ (∀ q' ∈ (if q.isNone then [] else [q]) ++ ls.flatMap (·.2), Nde H fp q') ∧ ls.length = wt n ∧ (ls.flatMap (·.2)).length ≤ wt n := by
  rcases hok with rfl | hok
  ·obtain ⟨rfl, rfl⟩ := htr
   exact ⟨[], ⟨rfl, rfl⟩, by simp, (fun x hx => by cases hx), (fun q hq => by simp at hq), by simp [wt], by simp⟩
  ·obtain ⟨ls, g1, g2, g3, g4, g5, g6⟩ := LsN.of htr hok
   refine ⟨ls, g1, g2, g3, fun q' hq' => ?_, g5, by omega⟩
   cases n with
   | nil => exact hok.elim
   | mk op tx nm l a =>
   obtain ⟨b, L, qs, fl, rfl, _⟩ := htr
   exact g4 q' (by simpa using hq')
 have hap := jku (hnd.sublist hsub)
 have hblk : ∀ x ∈ ls, ∀ b, x.1.a = some (adr b) → b ∈ fp := fun x hx b hb => hsub.subset (List.mem_flatMap.2 ⟨x, hx, by show b ∈ jaW x.1; unfold jaW; rw [hb]; simp⟩)
 have hfl : ∀ x ∈ fp, x < H.size := htr.lt
 refine s_lists (wt n) (l := ⟨none, 0, 0⟩) (vs := []) (Nat.le_refl _) hok hls (VecN.nil _ _ _) (by simp; omega) fun r1 H1 t1 v1 a1 => ?_
 have E1 : Ext H H1 := t1.upd.mono fun x _ e => by cases e
 have v1 : VecN H1 TSL 1 r1 ((ls.map (·.1)).map slV) := v1
 have hr1 : ∀ b, r1.a = some (adr b) → H.size ≤ b := fun b hb => by
  rcases a1 with h | ⟨c, h, h'⟩
  ·rw [h] at hb; cases hb
  ·rw [h] at hb; cases hb; exact h'
 have hr1l : r1.len = ls.length := by have := (jhe v1).len; simpa using this
 have hvec1 : ∀ x ∈ ls, Vec H1 TSP x.1 (x.2.map jb3) := fun x hx => jh4 (hvec x hx) t1 (by decide)
 -- the nodes
 have nodesI : ∀ {K : Sl → jaa → Prop}, (∀ l' H', Ext H1 H' → Vec H' TSP l' ((if q.isNone then [] else [q]).map jb3) → (∀ b, l'.a = some (adr b) → H1.size ≤ b) → K l' H') →
  Jn (σ := Sl) (fun kk1 => Br (!(q.map adr).isNone) (Nw #[.pointer (q.map adr)] jbl H1 fun b1 H3 => App jbl 1 8 #[.pointer none] ⟨none, 0, 0⟩ ⟨some (adr b1), 1, 1⟩ H3 fun l1 H4 => kk1 l1 H4) (kk1 ⟨none, 0, 0⟩ H1)) K := by
  intro K hK
  simp only [Jn]
  cases q with
  | none => exact (Br_false _ _).2 (hK _ H1 (.refl _ _) (Vec.nil _ _) fun b hb => by cases hb)
  | some q =>
    refine (Br_true _ _).2 (jeT (ws := [pV q]) (VecN.nil H1 TSP 1) rfl (by decide) rfl (fun v hv => by rw [List.mem_singleton.1 hv]; rfl) (by decide) (by decide) fun l' H4 g1 g2 g3 g4 => ?_)
    refine hK l' H4 (g3.upd.mono fun x _ e => by cases e) ⟨by rw [g2]; rfl, ?_, g1.lc⟩ fun b hb => ?_
    ·rcases g1.own with ⟨h1, h2, h3⟩ | ⟨c, sp, h1, h2, h3⟩
     ·cases h3
     ·exact .inr ⟨c, sp, h1, h2, by simpa using h3⟩
    ·rcases g4 with ⟨h, _⟩ | ⟨⟨c, h, h'⟩, _⟩
     ·rw [h] at hb; cases hb
     ·rw [h] at hb; cases hb; exact h'
 refine nodesI fun l0 H2 E2 vn0 hn0 => ?_
 have hq1 : (if q.isNone then [] else [q]).length ≤ 1 := by split <;> simp
 have t12 : Tou (fun b => H1.size ≤ b) (· = TSP) H1 H2 := .of_ext _ _ E2
 generalize hq0 : (if q.isNone then [] else [q]) = q0 at *
 refine LoopT.ghost (fun m' (s : Sl × Int) H' => ∃ i : Nat, s.2 = i ∧ m' = ls.length - i ∧ i ≤ ls.length ∧ Ext H1 H' ∧ Vec H' TSP s.1 ((q0 ++ (ls.take i).flatMap (·.2)).map jb3) ∧ (∀ b, s.1.a = some (adr b) → H1.size ≤ b)) ls.length ⟨0, rfl, rfl, Nat.zero_le _, E2, by simpa using vn0, hn0⟩ ?_
 rintro next _ ⟨s, i'⟩ H3 ⟨i, hi', rfl, hi, E3, v3, a3⟩ hnext
 dsimp only at hi' v3 a3 ⊢
 subst hi'
 have v13 : VecN H3 TSL 1 r1 ((ls.map (·.1)).map slV) := VecN.ext E3 v1
 have hs3 := E3.size
 have hs1 := E1.size
 refine jaj (fun hlt => ?_) fun hge => ?_
 ·have hi2 : i < ls.length := by rw [hr1l] at hlt; omega
  have hi3 : i < (ls.map (·.1)).length := by rw [List.length_map]; exact hi2
  refine jjU (jhe v13) rfl hi3 fun a g => jao (s := ls[i].1) (by simpa using g) ?_
  have hvi := (hvec1 _ (List.getElem_mem hi2)).upd E3 fun _ _ h => h
  have htk : ls.take (i + 1) = ls.take i ++ [ls[i]] := by rw [List.take_succ_eq_append_getElem hi2]
  have hfl2 : ((ls.take i).flatMap (·.2)).length + ls[i].2.length ≤ (ls.flatMap (·.2)).length := by
   have e : ls.flatMap (·.2) = (ls.take (i + 1)).flatMap (·.2) ++ (ls.drop (i + 1)).flatMap (·.2) := by rw [← List.flatMap_append, List.take_append_drop]
   rw [e, htk, List.flatMap_append]; simp
  have hsl := v3.len
  have hxl := hvi.len
  simp only [List.length_map, List.length_append] at hsl hxl
  refine jdW (vs := (q0 ++ (ls.take i).flatMap (·.2)).map jb3) (ws := ls[i].2.map jb3) v3 hvi.rd (by rw [List.length_map]; exact hxl.symm) (fun w hw => by obtain ⟨y, _, rfl⟩ := List.mem_map.1 hw; rfl) (by decide) (by simp only [List.length_map, List.length_append]; omega) fun l' H4 v4 hU4 ha4 _ => ?_
  have E4 : Ext H1 H4 := E3.trans hU4 fun x hx e => by have := a3 x e.1; omega
  refine Lt.mk (u := ((i + 1 : Nat) : Int)) (by rw [jac] <;> omega) (hnext (ls.length - (i + 1)) _ _ (by omega) ⟨i + 1, rfl, rfl, by omega, E4, ?_, fun b hb => ?_⟩)
  ·rw [htk, List.flatMap_append, ← List.append_assoc, List.map_append]
   simpa using v4
  ·rcases ha4 with ⟨e, _⟩ | e
   ·rw [e] at hb; exact a3 b hb
   ·rw [e] at hb; cases hb; omega
 have hil : i = ls.length := by rw [hr1l] at hge; omega
 subst hil
 rw [List.take_length] at v3
 -- written full
 have t13 : Tou (fun b => H1.size ≤ b) (fun _ => False) H1 H3 := .of_ext _ _ E3
 have hvec3 : ∀ x ∈ ls, Vec H3 TSP x.1 (x.2.map jb3) := fun x hx => (hvec1 x hx).upd E3 fun _ _ h => h
 have hlx : ∀ x ∈ ls, x.1.len ≤ 2 ^ 18 := fun x hx => by
  have h1 := (hvec x hx).len
  rw [List.length_map] at h1
  have h2 : x.2.length ≤ (ls.flatMap (·.2)).length := by
   obtain ⟨p, s, rfl⟩ := List.append_of_mem hx
   simp only [List.flatMap_append, List.flatMap_cons, List.length_append]; omega
  omega
 have hlL : ∀ x ∈ ls.map (·.1), x.len ≤ 2 ^ 18 := fun x hx => by
  obtain ⟨y, hy, rfl⟩ := List.mem_map.1 hx; exact hlx y hy
 have hmL : (ls.map (·.1)).length = ls.length := List.length_map _
 refine jmN (TP := TSP) (TN := TSN) (L := ls.map (·.1)) (by decide) (by decide) v13 (fun x hx => by obtain ⟨y, hy, rfl⟩ := List.mem_map.1 hx; exact ⟨_, (hvec3 y hy).n1⟩) hap (fun x hx => by have := hlL x hx; omega) (by omega) fun H4 t4 q4 => ?_
 have v14 := v13.tou t4 (by decide)
 refine jnm (TP := TSP) (TN := TSN) (cnt := 20) (by decide) (by decide) (by decide) (by decide) (by decide) v14 q4 hap (fun x hx => by have := hlL x hx; omega) (by omega) fun ⟨l5, i5⟩ H5 G t5 v5 hG q5 g5 e5 => ?_
 dsimp only at v5 ⊢
 have hA : ∀ j (h : j < (ls.map (·.1) ++ G).length), Mkp H5 TSP TSN (ls.map (·.1) ++ G)[j] (j % ls.length) := by
  intro j h
  rcases Nat.lt_or_ge j ls.length with g | g
  ·rw [Nat.mod_eq_of_lt g, List.getElem_append_left (by omega)]
   exact q5 j (by omega)
  ·rw [List.length_append] at h
   have e : j % ls.length = j - ls.length := by rw [Nat.mod_eq_sub_mod g, Nat.mod_eq_of_lt (by omega)]
   rw [e, List.getElem_append_right (by omega)]
   have := g5 (j - ls.length) (by omega)
   simpa [hmL] using this
 have hB : ∀ x ∈ ls.map (·.1) ++ G, x.len ≤ 2 ^ 44 := by
  intro x hx
  rcases List.mem_append.1 hx with hx | hx
  ·have := hlL x hx; omega
  ·obtain ⟨j, hj, rfl⟩ := List.mem_iff_getElem.1 hx
   have h1 := e5 j hj (by omega)
   have h2 := hlL _ (List.getElem_mem (show j < (ls.map (·.1)).length by omega))
   omega
 have t35 : Tou (fun b => (∃ x ∈ ls.map (·.1), x.a = some (adr b)) ∨ r1.a = some (adr b)) (fun t => t = TSP ∨ t = TSL) H3 H5 := (t4.mono (fun _ _ e => .inl e) fun _ e => .inl e).trans t5 (fun _ _ e => e) fun _ e => e
 have hlsb : ∀ b, (∃ x ∈ ls.map (·.1), x.a = some (adr b)) → b ∈ fp := fun b ⟨x, hx, hb⟩ => by
  obtain ⟨y, hy, rfl⟩ := List.mem_map.1 hx; exact hblk y hy b hb
 have U05 : Upd (· ∈ fp) H H5 := ((E1.trans E3 fun _ _ h => h).mono fun _ _ h => h.elim).trans t35.upd fun b hb e => by
  rcases e with e | e
  ·exact hlsb b e
  ·have := hr1 b e; omega
 have t03 : Tou (fun _ => False) (fun _ => False) H H3 := .of_ext _ _ (E1.trans E3 fun _ _ h => h)
 have nd5 : ∀ q' ∈ q0 ++ ls.flatMap (·.2), Nde H5 fp q' := fun q' hq' => by
  obtain ⟨b, h1, h2, vs, h3, h4⟩ := hnde q' hq'
  exact ⟨b, h1, h2, vs, h3, t35.keep (t03.keep h4 id) (by decide)⟩
 have vn5 : Vec H5 TSP s ((q0 ++ ls.flatMap (·.2)).map jb3) := v3.upd t35.upd fun b hb e => by
  have := a3 b hb
  rcases e with e | e
  ·have := hfl b (hlsb b e); omega
  ·have := VecN.lt v1 e; omega
 -- the nodes, at last
 have fin : LoopT (σ := Int) (fun next8 s8 H21 => Br (decide (s8 < (s.len : Int))) (
  IxA 1 s s8 fun a12 => Ld .ptr a12 H21 fun (x11 : Option Addr) => jab x11 fun a13 => St a13 (.int .i64 (-7)) H21 fun H22 =>
  IxA 1 s s8 fun a14 => Ld .ptr a14 H22 fun (x12 : Option Addr) => jab x12 fun a15 => St (a15.add 1) (.string (⟨#[109, 105, 110, 101]⟩ : ByteArray)) H22 fun H23 =>
  IxA 1 s s8 fun a16 => Ld .ptr a16 H23 fun (x13 : Option Addr) => jab x13 fun a17 => St (a17.add 4) (.int .i64 (-7)) H23 fun H24 =>
  Lt (IntKind.wrap .i64 (s8 + 1)) fun t9 => next8 t9 H24) (k true H21)) 0 H5 := by
  have hsl := vn5.len
  rw [List.length_map, List.length_append] at hsl
  refine LoopT.ghost (fun m' (s8 : Int) H' => ∃ i : Nat, s8 = i ∧ m' = s.len - i ∧ i ≤ s.len ∧ Tou (· ∈ fp) (· = TSN) H5 H') s.len ⟨0, rfl, rfl, Nat.zero_le _, .refl _ _ _⟩ ?_
  rintro next8 _ _ H6 ⟨i, rfl, rfl, hi, t6⟩ hnext8
  refine jaj (fun hlt => ?_) fun hge => hk H6 (U05.trans t6.upd fun _ _ e => e)
  have hi2 : i < (q0 ++ ls.flatMap (·.2)).length := by rw [List.length_append]; omega
  obtain ⟨b, h1, h2, vs, h3, h4⟩ := nd5 _ (List.getElem_mem hi2)
  have hq' : (q0 ++ ls.flatMap (·.2))[i]? = some (some b) := by rw [List.getElem?_eq_getElem hi2, h1]
  obtain ⟨vs6, r6, l6, _⟩ := t6.row h4
  have rd : ∀ {H' : jaa} {K : Option Addr → Prop}, Tou (· ∈ fp) (· = TSN) H5 H' → K (some (adr b)) → IxA 1 s (i : Nat) fun a => Ld .ptr a H' K := fun ht hK => jgi (jh4 vn5 ht (by decide)) hq' rfl hK
  refine rd t6 ?_
  simp only [NilCk_some, adr_add]
  refine jat r6 (by omega) fun H7 hU7 _ r7 => ?_
  have t7 := t6.trans ((Tou.of_st r6 hU7 r7 (by simp)).mono (fun c _ e => by subst e; exact h2) fun _ e => e) (fun _ _ e => e) fun _ e => e
  refine rd t7 ?_
  simp only [NilCk_some, adr_add]
  refine jat r7 (by simp; omega) fun H8 hU8 _ r8 => ?_
  have t8 := t7.trans ((Tou.of_st r7 hU8 r8 (by simp)).mono (fun c _ e => by subst e; exact h2) fun _ e => e) (fun _ _ e => e) fun _ e => e
  refine rd t8 ?_
  simp only [NilCk_some, adr_add]
  refine jat r8 (by simp; omega) fun H9 hU9 _ r9 => ?_
  have t9 := t8.trans ((Tou.of_st r8 hU9 r9 (by simp)).mono (fun c _ e => by subst e; exact h2) fun _ e => e) (fun _ _ e => e) fun _ e => e
  exact Lt.mk (u := ((i + 1 : Nat) : Int)) (by rw [jac] <;> omega) (hnext8 (s.len - (i + 1)) _ _ (by omega) ⟨i + 1, rfl, rfl, by omega, t9⟩)
 rcases Nat.eq_zero_or_pos ls.length with h0 | hpos
 ·have e0 : ls.map (·.1) ++ G = [] := by
   apply List.eq_nil_of_length_eq_zero
   rw [List.length_append, hG]; omega
  rw [e0] at v5
  have hl0 : l5.len = 0 := by have := (jhe (L := []) v5).len; simpa using this
  refine LoopT.mk (fun (x : Int) H' => x = 0 ∧ H5 = H') (fun _ _ => 0) ⟨rfl, rfl⟩ ?_
  rintro next6 _ _ ⟨rfl, rfl⟩ hnext6
  exact jaj (fun hlt => by rw [hl0] at hlt; exact absurd hlt (by decide)) fun _ => fin
 ·exact jlN v5 hA hpos hB (by rw [List.length_append]; omega) (by rw [hr1l]) fin
end
end Go.Proofs.YtfpmgpblhhcpgaaGreatDoor
