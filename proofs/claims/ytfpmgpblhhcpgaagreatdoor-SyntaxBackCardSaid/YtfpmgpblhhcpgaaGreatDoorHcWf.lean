/-
  The examples at the head of all statements.
-/
import Derived.Test.YtfpmgpblhhcpgaaGreatDoorVCut
import Derived.Test.YtfpmgpblhhcpgaaGreatDoorTok
import Derived.Test.YtfpmgpblhhcpgaaGreatDoorLexB
import Derived.Test.YtfpmgpblhhcpgaaGreatDoorVPri
import Derived.Test.YtfpmgpblhhcpgaaGreatDoorHcLists
import Derived.KernelRfl
import Derived.Test.YtfpmgpblhhcpgaaGreatDoorProg
import Derived.Test.YtfpmgpblhhcpgaaGreatDoorWr
namespace Go.Proofs.YtfpmgpblhhcpgaaGreatDoor
set_option linter.unusedVariables false
set_option linter.unusedSimpArgs false
set_option maxRecDepth 100000
section
open Hc Hc.Lex Hc.Syn
variable {H : Heap}
mutual
def plainB : Nd → Bool
  | .nil => true
  | .mk _ tx nm l _ => decide (tx.length ≤ 1000) && decide (l.length ≤ 1000) && decide (0 ≤ nm) && decide (nm ≤ 1000) && plainL l
def plainL : List Nd → Bool
  | [] => true
  | n :: ns => plainB n && plainL ns
end
mutual
theorem plain_ok : ∀ {n : Nd}, plainB n = true → txtN n ∧ i64N n
  | .nil, _ => ⟨trivial, trivial⟩
  | .mk _ tx nm l _, h => by
    simp only [plainB, Bool.and_eq_true, decide_eq_true_eq] at h
    obtain ⟨g1, g2⟩ := plainL_ok h.2
    exact ⟨⟨by omega, by omega, g1⟩, ⟨by omega, by omega⟩, g2⟩
theorem plainL_ok : ∀ {l : List Nd}, plainL l = true → txtL l ∧ i64L l
  | [], _ => ⟨trivial, trivial⟩
  | n :: ns, h => by
    simp only [plainL, Bool.and_eq_true] at h
    obtain ⟨g1, g2⟩ := plain_ok h.1
    obtain ⟨k1, k2⟩ := plainL_ok h.2
    exact ⟨⟨g1, k1⟩, g2, k2⟩
end
abbrev exA : Txt := [115, 121, 115, 116, 101, 109, 32, 77, 32, 114, 101, 97, 100, 115, 32, 86, 32, 119, 114, 105, 116, 101, 115, 32, 80, 123, 80, 46, 120, 61, 80, 46, 120, 43, 86, 46, 120, 59, 125, 102, 117, 110, 99, 32, 102, 40, 97, 41, 123, 114, 101, 116, 117, 114, 110, 32, 97, 45, 40, 49, 45, 50, 41, 42, 45, 51, 59, 125]
abbrev exB : Txt := [115, 121, 115, 116, 101, 109, 32, 83, 32, 123, 32, 108, 101, 116, 32, 120, 32, 61, 32, 59, 32, 125]
abbrev exC : Txt := [115, 121, 115, 116, 101, 109, 32, 77, 32, 114, 101, 97, 100, 115, 32, 86, 32, 119, 114, 105, 116, 101, 115, 32, 80, 32, 123, 10, 9, 80, 46, 120, 32, 61, 32, 80, 46, 120, 32, 43, 32, 86, 46, 120, 59, 10, 125, 10, 102, 117, 110, 99, 32, 102, 40, 97, 41, 32, 123, 10, 9, 114, 101, 116, 117, 114, 110, 32, 97, 32, 45, 32, 40, 49, 32, 45, 32, 50, 41, 32, 42, 32, 45, 51, 59, 10, 125, 10]
def chkA : R Nd → Bool
  | some (.ok (.mk op tx nm [x, y] a, _)) => plainB (.mk op tx nm [x, y] a) && (printT (.mk op tx nm [x, y] a) == exC) && !sameB (.mk op tx nm [x, y] a) x
  | _ => false
def chkB : R Nd → Bool
  | some (.error (p, e)) => p == 19 && e == 100
  | _ => false
theorem exA_ok : chkA (parseS ⟨⟨exA⟩⟩) = true := by kernel_rfl
theorem exB_ok : chkB (parseS ⟨⟨exB⟩⟩) = true := by kernel_rfl
theorem exA_tree : ∃ op tx nm x y a s, parseS ⟨⟨exA⟩⟩ = some (.ok (.mk op tx nm [x, y] a, s)) ∧ (txtN (.mk op tx nm [x, y] a) ∧ i64N (.mk op tx nm [x, y] a)) ∧ printT (.mk op tx nm [x, y] a) = exC ∧ sameB (.mk op tx nm [x, y] a) x = false := by
  have h := exA_ok
  unfold chkA at h
  split at h
  · rename_i op tx nm x y a s e
    simp only [Bool.and_eq_true, beq_iff_eq, Bool.not_eq_true'] at h
    exact ⟨op, tx, nm, x, y, a, s, e, plain_ok h.1.1, h.1.2, h.2⟩
  · cases h
theorem exB_fault : ∃ p e, parseS ⟨⟨exB⟩⟩ = some (.error (p, e)) ∧ p = 19 ∧ e = 100 := by
  have h := exB_ok
  unfold chkB at h
  split at h
  · rename_i p e he
    simp only [Bool.and_eq_true, beq_iff_eq] at h
    exact ⟨p, e, he, h.1, h.2⟩
  · cases h
theorem s_fault_nil {k : Int × Int × Bool → Heap → Prop} (hk : k (0, 0, true) H) : CallT Pg fQb9 [.nilIface] (.tup [(.c (.int .i64)), (.c (.int .i64)), (.c .bool)]) H k := by
  refine cQck _ ?_
  unfold vQck
  exact .inl ⟨rfl, (Br_true _ _).2 hk⟩
theorem s_fault_at {g : Nat} {p e : Int} (hr : Row H g TQac [.int .i64 p, .int .i64 e]) {k : Int × Int × Bool → Heap → Prop} (hk : k (p, e, e != 0) H) : CallT Pg fQb9 [.iface TQaa (.pointer (some (adr g)))] (.tup [(.c (.int .i64)), (.c (.int .i64)), (.c .bool)]) H k := by
  refine cQck _ ?_
  unfold vQck
  refine .inr ⟨⟨_, _, rfl⟩, (Br_false _ _).2 (.inl ⟨some (adr g), rfl, ?_⟩)⟩
  simp only [Jn, Bool.not_true, Br_false, Option.isNone_some, NilCk_some, adr_add]
  exact Ld_int ((hr.cell 0).trans rfl) (Ld_int ((hr.cell 1).trans rfl) (Ld_int ((hr.cell 1).trans rfl) hk))
theorem ParOut.ok {lo : Nat} {s : ByteArray} {d : Option Addr} {v : Value} {n : Nd} {s' : PS} (h : ParOut lo H s d v) (e : parseS s = some (.ok (n, s'))) : v = .nilIface ∧ ∃ q, d = some (adr q) ∧ lo ≤ q ∧ Ow lo H n q := by
  unfold ParOut at h; rw [e] at h; exact h
theorem ParOut.err {lo : Nat} {s : ByteArray} {d : Option Addr} {v : Value} {p c : Int} (h : ParOut lo H s d v) (e : parseS s = some (.error (p, c))) : d = none ∧ ∃ g, v = .iface TQaa (.pointer (some (adr g))) ∧ lo ≤ g ∧ Row H g TQac [.int .i64 p, .int .i64 c] := by
  unfold ParOut at h; rw [e] at h; exact h
theorem s_shown (hg : GL H) {k : Bool → Heap → Prop} (hk : ∀ H', Ext H H' → k true H') : CallT Pg fQb7 [] (.one (.c .bool)) H k := by
  refine cQcj ?_
  unfold vQcj
  obtain ⟨op, tx, nm, x, y, a, s, eA, ⟨htx, hi⟩, hpr, hsm⟩ := exA_tree
  obtain ⟨p, e, eB, rfl, rfl⟩ := exB_fault
  refine s_Parse hg.ge hg.tab fun d1 v1 H1 hE1 ho1 => ?_
  obtain ⟨rfl, q, rfl, _, hq⟩ := ho1.ok eA
  have g1 := hg.ext hE1
  refine s_Parse g1.ge g1.tab fun d2 v2 H2 hE2 ho2 => ?_
  obtain ⟨rfl, g, rfl, _, hr⟩ := ho2.err eB
  have g2 := g1.ext hE2
  refine s_fault_at hr ?_
  obtain ⟨fp, ht, hnd, _⟩ := (hq.upd hE2 fun _ _ _ h => h).ex
  have ht0 := ht
  obtain ⟨b, L, qs, fl, hb, hrow, hv, hl, hfp⟩ := ht
  cases hb
  have hLl : L.len = 2 := by rw [hv.len, List.length_map, hl.len]; rfl
  refine Jn.mk (fun j H' => H2 = H' ∧ j = false) (fun kk hkk => ?_) ?_
  · refine .inl ⟨rfl, ?_⟩
    simp only [Bool.not_true, Br_false, Option.isNone_some, NilCk_some, adr_add]
    exact Ld_sl ((hrow.cell 3).trans rfl) (hkk _ _ ⟨rfl, by rw [hLl]; rfl⟩)
  rintro _ _ ⟨rfl, rfl⟩
  refine (Br_false _ _).2 ?_
  refine s_Print (q := some q) g2 ht0 htx hi fun H3 hE3 => ?_
  have ht3 := ht0.upd hE3 fun _ _ h => h
  refine s_Same (qa := some q) (qb := some q) ht3 hnd ht3 htx fun H4 hE4 => ?_
  have hE24 := hE3.trans hE4 fun _ _ h => h
  have ht4 := ht0.upd hE24 fun _ _ h => h
  have hrow4 := hE24.row hrow fun h => h
  have hv4 := hv.upd hE24 fun _ _ h => h
  obtain ⟨q1, qs1, f1, f2, hqs, _, hx, _⟩ := hl
  simp only [NilCk_some, adr_add]
  refine Ld_sl ((hrow4.cell 3).trans rfl) (IxA_vec hv4 (by decide) (by rw [hqs]; simp) fun ad hc _ => ?_)
  have hc : hcell H4 ad = some (ptrV q1) := hc.trans (by simp [hqs])
  refine Ld_ptr hc (s_Same (qa := some q) (qb := q1) ht4 hnd (hx.upd hE24 fun _ _ h => h) htx fun H5 hE5 => ?_)
  rw [hsm, sameB_refl, hpr]
  simp only [Jn]
  have hE : Ext H H5 := ((hE1.trans hE2 fun _ _ h => h).trans hE24 fun _ _ h => h).trans hE5 fun _ _ h => h
  refine Br_eqT rfl (Br_eqT rfl ?_)
  refine (Br_true _ _).2 ((Br_true _ _).2 ((Br_true _ _).2 ?_))
  exact (congrArg (fun b => k b H5) (beq_iff_eq.2 rfl)).mpr (hk H5 hE)
end
end Go.Proofs.YtfpmgpblhhcpgaaGreatDoor
namespace Go.Proofs.YtfpmgpblhhcpgaaGreatDoor.Hc.Syn
set_option linter.unusedVariables false
set_option linter.unusedSimpArgs false
set_option maxRecDepth 100000
section
open Go Hc Hc.Lex
section
variable {Q : Nat → Prop} {P : Nat} {t : Tk} {rest : List Tk}
def Stp (Q : Nat → Prop) (P : Nat) (t : Tk) (rest : List Tk) (s s' : PS) : Prop := ∃ h pre, s.toks = h :: pre ++ t :: rest ∧ s'.toks = h :: pre ++ [⟨0, [], P⟩] ∧ s.deep = s'.deep ∧ s.stmts = s'.stmts ∧ ∀ x ∈ h :: pre, Q x.at'
abbrev CodeOk (e : Int) : Prop := e = 100 ∨ e = 101 ∨ e = 102
def Fin (P : Nat) (s' : PS) : Prop := s'.toks = [⟨0, [], P⟩]
def EndR (P : Nat) {α : Type} (r' : R α) : Prop := r' = none ∨ (∃ e, CodeOk e ∧ r' = some (.error ((P : Int), e))) ∨ ∃ a s', r' = some (.ok (a, s')) ∧ Fin P s'
def RC (Q : Nat → Prop) (P : Nat) (t : Tk) (rest : List Tk) {α : Type} (r r' : R α) : Prop :=
  EndR P r' ∨ (∃ a s s', r = some (.ok (a, s)) ∧ r' = some (.ok (a, s')) ∧ Stp Q P t rest s s') ∨ (∃ (n : Nat) (e : Int), CodeOk e ∧ Q n ∧ r = some (.error ((n : Int), e)) ∧ r' = some (.error ((n : Int), e)))
structure OkC (Q : Nat → Prop) (P : Nat) (t : Tk) (rest : List Tk) {α : Type} (A : PS → R α) : Prop where
  st : ∀ {s s'}, Stp Q P t rest s s' → RC Q P t rest (A s) (A s')
  en : ∀ {s'}, Fin P s' → EndR P (A s')
structure OkK (Q : Nat → Prop) (P : Nat) (t : Tk) (rest : List Tk) {α : Type} (A : PS → R α) : Prop where
  st : ∀ {s s'}, Stp Q P t rest s s' → RC Q P t rest (A s) (A s')
variable {α β : Type} {A B : PS → R α} {F : α → PS → R β} {s s' : PS}
theorem Stp.hd (h : Stp Q P t rest s s') : s.hd = s'.hd := by
  obtain ⟨h, pre, h1, h2, _⟩ := h
  unfold PS.hd; rw [h1, h2]; rfl
theorem Stp.q (h : Stp Q P t rest s s') : Q s'.hd.at' := by
  obtain ⟨h, pre, h1, h2, _, _, h5⟩ := h
  have : s'.hd = h := by unfold PS.hd; rw [h2]; rfl
  rw [this]; exact h5 h (by simp)
theorem Stp.take (h : Stp Q P t rest s s') : Stp Q P t rest s.take s'.take ∨ Fin P s'.take := by
  obtain ⟨h, pre, h1, h2, h3, h4, h5⟩ := h
  cases pre with
  | nil => right; unfold Fin PS.take; rw [h2]; rfl
  | cons g pre => left; exact ⟨g, pre, by unfold PS.take; rw [h1]; rfl, by unfold PS.take; rw [h2]; rfl, h3, h4, fun x hx => h5 x (List.mem_cons_of_mem _ hx)⟩
theorem Fin.hd (h : Fin P s') : s'.hd = ⟨0, [], P⟩ := by unfold PS.hd; rw [h]; rfl
theorem Fin.next (h : Fin P s') (w : Txt) : nextB w s' = false := by unfold nextB; rw [h.hd]; simp
theorem Fin.named (h : Fin P s') : namedB s' = false := by unfold namedB; rw [h.hd]; simp
theorem Stp.next (h : Stp Q P t rest s s') (w : Txt) : nextB w s = nextB w s' := by unfold nextB; rw [h.hd]
theorem Stp.named (h : Stp Q P t rest s s') : namedB s = namedB s' := by unfold namedB; rw [h.hd]
theorem EndR.bind {r : R α} (h : EndR P r) (hF : ∀ a s', Fin P s' → EndR P (F a s')) : EndR P (r.bind F) := by
  rcases h with rfl | ⟨e, hc, rfl⟩ | ⟨a, s', rfl, hf⟩
  · exact .inl rfl
  · exact .inr (.inl ⟨e, hc, rfl⟩)
  · exact hF a s' hf
theorem RC.bind {r r' : R α} (h : RC Q P t rest r r') (hF : ∀ a, OkC Q P t rest (F a)) : RC Q P t rest (r.bind F) (r'.bind F) := by
  rcases h with h | ⟨a, s, s', rfl, rfl, hs⟩ | ⟨n, e, hc, hn, rfl, rfl⟩
  · exact .inl (h.bind fun a s' hf => (hF a).en hf)
  · exact (hF a).st hs
  · exact .inr (.inr ⟨n, e, hc, hn, rfl, rfl⟩)
theorem OkC.bind (h : OkC Q P t rest A) (hF : ∀ a, OkC Q P t rest (F a)) : OkC Q P t rest fun s => (A s).bind F :=
  ⟨fun hs => (h.st hs).bind hF, fun hf => (h.en hf).bind fun a s' hf => (hF a).en hf⟩
theorem OkC.ret (a : α) : OkC Q P t rest (retP a) := ⟨fun hs => .inr (.inl ⟨a, _, _, rfl, rfl, hs⟩), fun {s'} hf => .inr (.inr ⟨a, s', rfl, hf⟩)⟩
theorem OkC.fail (e : Int) (hc : CodeOk e := by decide) : OkC Q P t rest (failP (α := α) e) := ⟨fun hs => .inr (.inr ⟨_, e, hc, hs.q, by unfold failP; rw [hs.hd], rfl⟩), fun hf => .inr (.inl ⟨e, hc, by unfold failP; rw [hf.hd]⟩)⟩
theorem OkC.k (h : OkC Q P t rest A) : OkK Q P t rest A := ⟨fun hs => h.st hs⟩
theorem OkK.hd {G : Tk → PS → R α} (h : ∀ x, OkK Q P t rest (G x)) : OkK Q P t rest fun s => G s.hd s := ⟨fun {s s'} hs => by
  show RC Q P t rest (G s.hd s) (G s'.hd s')
  rw [hs.hd]; exact (h _).st hs⟩
theorem OkK.take (h : OkC Q P t rest A) : OkK Q P t rest fun s => A s.take := ⟨fun hs => by
  rcases hs.take with g | g
  · exact h.st g
  · exact .inl (h.en g)⟩
theorem OkK.next (w : Txt) (hA : OkK Q P t rest A) (hB : OkK Q P t rest B) : OkK Q P t rest fun s => if nextB w s then A s else B s := ⟨fun {s s'} hs => by
  show RC Q P t rest (if nextB w s then A s else B s) (if nextB w s' then A s' else B s')
  rw [hs.next w]
  split
  · exact hA.st hs
  · exact hB.st hs⟩
theorem OkC.next (w : Txt) (hA : OkK Q P t rest A) (hB : OkC Q P t rest B) : OkC Q P t rest fun s => if nextB w s then A s else B s :=
  ⟨(OkK.next w hA hB.k).st, fun {s'} hf => by
    show EndR P (if nextB w s' then A s' else B s')
    rw [hf.next w]; exact hB.en hf⟩
theorem OkC.named (hA : OkK Q P t rest A) (hB : OkC Q P t rest B) : OkC Q P t rest fun s => if namedB s then A s else B s :=
  ⟨fun {s s'} hs => by
    show RC Q P t rest (if namedB s then A s else B s) (if namedB s' then A s' else B s')
    rw [hs.named]
    split
    · exact hA.st hs
    · exact hB.st hs, fun {s'} hf => by
    show EndR P (if namedB s' then A s' else B s')
    rw [hf.named]; exact hB.en hf⟩
theorem OkC.const {c : Prop} [Decidable c] (hA : OkC Q P t rest A) (hB : OkC Q P t rest B) : OkC Q P t rest fun s => if c then A s else B s := by
  split
  · exact hA
  · exact hB
theorem OkK.bind (h : OkK Q P t rest A) (hF : ∀ a, OkC Q P t rest (F a)) : OkK Q P t rest fun s => (A s).bind F := ⟨fun hs => (h.st hs).bind hF⟩
theorem OkC.congr (h : OkC Q P t rest A) (e : ∀ s, B s = A s) : OkC Q P t rest B := ⟨fun hs => by rw [e, e]; exact h.st hs, fun hf => by rw [e]; exact h.en hf⟩
theorem OkK.congr (h : OkK Q P t rest A) (e : ∀ s, B s = A s) : OkK Q P t rest B := ⟨fun hs => by rw [e, e]; exact h.st hs⟩
theorem kTk : OkK Q P t rest fun s => retP s.hd s.take := OkK.hd (G := fun x s => retP x s.take) fun x => OkK.take (A := retP x) (OkC.ret x)
theorem okMust (w : Txt) : OkC Q P t rest (mustP w) := OkC.next w kTk (OkC.fail 100)
theorem okName : OkC Q P t rest nameP := OkC.named kTk (OkC.fail 100)
theorem Stp.deep (h : Stp Q P t rest s s') {d d' : Int} (e : d = d') : Stp Q P t rest { s with deep := d } { s' with deep := d' } := by
  obtain ⟨h, pre, h1, h2, h3, h4, h5⟩ := h
  exact ⟨h, pre, h1, h2, e, h4, h5⟩
theorem okDown (w : Txt) : OkC Q P t rest (downP w) := by
  refine OkC.next w ⟨fun {s s'} hs => ?_⟩ (OkC.fail 100)
  have hd : s.deep = s'.deep := by obtain ⟨_, _, _, _, h3, _⟩ := hs; exact h3
  dsimp only
  rw [hd]
  split
  · exact (OkC.fail 101).st hs
  · rw [hs.hd]
    rcases hs.take with g | g
    · exact .inr (.inl ⟨_, _, _, rfl, rfl, g.deep rfl⟩)
    · exact .inl (.inr (.inr ⟨_, _, rfl, g⟩))
theorem okUpS (a : α) : OkC Q P t rest fun s => retP a s.up :=
  ⟨fun {s s'} hs => .inr (.inl ⟨a, _, _, rfl, rfl, hs.deep (by obtain ⟨_, _, _, _, h3, _⟩ := hs; rw [h3])⟩), fun {s'} hf => .inr (.inr ⟨a, s'.up, rfl, hf⟩)⟩
theorem okUp (w : Txt) : OkC Q P t rest (upP w) := (okMust w).bind fun _ => okUpS ()
structure CxE (Q : Nat → Prop) (P : Nat) (t : Tk) (rest : List Tk) (f : Nat) : Prop where
  ex : ∀ lv, OkC Q P t rest (exP f lv)
  un : ∀ w, OkC Q P t rest (unP f w)
  bi : ∀ lv n, OkC Q P t rest (binP f lv n)
  pr : OkC Q P t rest (primP f)
  ar : OkC Q P t rest (argsP f)
  al : ∀ l, OkC Q P t rest (argsL f l)
theorem okNone : OkC Q P t rest (fun _ => (none : R α)) := ⟨fun _ => .inl (.inl rfl), fun _ => .inl rfl⟩
theorem cxE : ∀ f, CxE Q P t rest f
  | 0 => ⟨fun _ => okNone.congr fun s => by rw [exP], fun _ => okNone.congr fun s => by rw [unP], fun _ _ => okNone.congr fun s => by rw [binP], okNone.congr fun s => by rw [primP], okNone.congr fun s => by rw [argsP], fun _ => okNone.congr fun s => by rw [argsL]⟩
  | f + 1 => by
    have ih := cxE f
    refine ⟨fun lv => ?_, fun w => ?_, fun lv n => ?_, ?_, ?_, fun l => ?_⟩
    · refine OkC.congr (A := fun s => if lv = 0 then (exP f 1 s).bind fun n s => if nextB [63] s then
        (downP [63] s).bind fun t s => (exP f 0 s).bind fun y s => (mustP [58] s).bind fun _ s => (exP f 0 s).bind fun z s => retP (node 35 t [n, y, z]) s.up
      else retP n s
    else if lv = 7 then (if nextB [45] s then unP f [45] s else if nextB [33] s then unP f [33] s else primP f s)
    else (exP f (lv + 1) s).bind fun n s => binP f lv n s) ?_ fun s => by rw [exP]
      refine OkC.const ?_ (OkC.const ?_ ?_)
      · refine (ih.ex 1).bind fun n => OkC.next [63] (OkC.k ?_) (OkC.ret n)
        exact (okDown _).bind fun t => (ih.ex 0).bind fun y => (okMust _).bind fun _ => (ih.ex 0).bind fun z => okUpS _
      · exact OkC.next _ (ih.un _).k (OkC.next _ (ih.un _).k ih.pr)
      · exact (ih.ex _).bind fun n => ih.bi lv n
    · refine OkC.congr (A := fun s => (downP w s).bind fun t s => (exP f 7 s).bind fun n s => retP (texted 34 t [n]) s.up) ?_ fun s => by rw [unP]
      exact (okDown w).bind fun t => (ih.ex 7).bind fun n => okUpS _
    · refine OkC.congr (A := fun s => if s.hd.kind = 3 ∧ levelI s.hd.text = lv then (exP f (lv + 1) s.take).bind fun m s' => binP f lv (texted 33 s.hd [n, m]) s' else retP n s) ?_ fun s => by rw [binP]
      refine ⟨fun {s s'} hs => ?_, fun {s'} hf => ?_⟩
      · have he := hs.hd
        try dsimp only
        rw [he]
        split
        · rcases hs.take with g | g
          · exact ((ih.ex _).st g).bind fun m => ih.bi lv _
          · exact .inl (((ih.ex _).en g).bind fun m s' hf => (ih.bi lv _).en hf)
        · exact (OkC.ret n).st hs
      · try dsimp only
        rw [if_neg (by rw [hf.hd]; simp)]
        exact (OkC.ret (Q := Q) (t := t) (rest := rest) n).en hf
    · refine OkC.congr (A := fun s => if s.hd.kind = 2 then retP (.mk 30 [] (decL 0 s.hd.text : Nat) [] (s.hd.at' : Nat)) s.take
    else if nextB [40] s then (downP [40] s).bind fun _ s => (exP f 0 s).bind fun n s => (upP [41] s).bind fun _ s => retP n s
    else if s.hd.kind = 1 ∧ builtinL.contains s.hd.text then (argsP f s.take).bind fun l s' => retP (texted 36 s.hd l) s'
    else if nextB [104, 97, 115] s then (mustP [40] s.take).bind fun _ s1 => (nameP s1).bind fun t s2 => (mustP [41] s2).bind fun _ s3 => retP (.mk 37 t.text 0 [] (s.hd.at' : Nat)) s3
    else if nextB [116, 105, 99, 107] s || nextB [109, 101] s then retP (texted 38 s.hd []) s.take
    else (nameP s).bind fun t s => if nextB [40] s then (argsP f s).bind fun l s => retP (texted 36 t l) s
      else if nextB [46] s then (nameP s.take).bind fun u s => retP (texted 32 t [texted 31 u []]) s
      else retP (texted 31 t []) s) ?_ fun s => by rw [primP]
      have hlast : OkC Q P t rest fun s => (nameP s).bind fun t s => if nextB [40] s then (argsP f s).bind fun l s => retP (texted 36 t l) s
        else if nextB [46] s then (nameP s.take).bind fun u s => retP (texted 32 t [texted 31 u []]) s
        else retP (texted 31 t []) s := okName.bind fun t => OkC.next _ (ih.ar.bind fun l => OkC.ret _).k (OkC.next _ (OkK.take (A := fun s => (nameP s).bind fun u s => retP (texted 32 t [texted 31 u []]) s) (okName.bind fun u => OkC.ret _)) (OkC.ret _))
      refine ⟨fun {s s'} hs => ?_, fun {s'} hf => ?_⟩
      · have he := hs.hd
        try dsimp only
        rw [he, hs.next [40], hs.next [104, 97, 115], hs.next [116, 105, 99, 107], hs.next [109, 101]]
        split
        · exact (OkK.take (A := retP _) (OkC.ret _)).st hs
        split
        · exact ((okDown _).bind fun _ => (ih.ex 0).bind fun n => (okUp _).bind fun _ => OkC.ret n).st hs
        split
        · exact (OkK.take (A := fun s => (argsP f s).bind fun l s' => retP (texted 36 _ l) s') (ih.ar.bind fun l => OkC.ret _)).st hs
        split
        · exact (OkK.take (A := fun s => (mustP [40] s).bind fun _ s1 => (nameP s1).bind fun t s2 => (mustP [41] s2).bind fun _ s3 => retP (Nd.mk 37 t.text 0 [] (s'.hd.at' : Nat)) s3) ((okMust _).bind fun _ => okName.bind fun t => (okMust _).bind fun _ => OkC.ret _)).st hs
        split
        · exact (OkK.take (A := retP _) (OkC.ret _)).st hs
        · exact hlast.st hs
      · try dsimp only
        rw [hf.next, hf.next, hf.next, hf.next, if_neg (by rw [hf.hd]; simp), if_neg (by simp), if_neg (by rw [hf.hd]; simp), if_neg (by simp), if_neg (by simp)]
        exact hlast.en hf
    · refine OkC.congr (A := fun s => (downP [40] s).bind fun _ s => (if nextB [41] s then retP [] s else (exP f 0 s).bind fun n s => argsL f [n] s).bind fun l s => (upP [41] s).bind fun _ s => retP l s) ?_ fun s => by rw [argsP]
      exact (okDown _).bind fun _ => OkC.bind (A := fun s => if nextB [41] s then retP [] s else (exP f 0 s).bind fun n s => argsL f [n] s) (OkC.next _ (OkC.ret _).k ((ih.ex 0).bind fun n => ih.al _)) fun l => (okUp _).bind fun _ => OkC.ret l
    · refine OkC.congr (A := fun s => if nextB [44] s then (exP f 0 s.take).bind fun n s => argsL f (l ++ [n]) s else retP l s) ?_ fun s => by rw [argsL]
      exact OkC.next _ (OkK.take (A := fun s => (exP f 0 s).bind fun n s => argsL f (l ++ [n]) s) ((ih.ex 0).bind fun n => ih.al _)) (OkC.ret l)
theorem okEnd (n : Nd) : OkC Q P t rest (endP n) := (okMust _).bind fun _ => OkC.ret n
theorem okPartL (F : Nat) : ∀ (f : Nat) (l : List Nd), OkC Q P t rest (partL F f l)
  | 0, _ => okNone.congr fun s => by rw [partL]
  | f + 1, l => by
    refine OkC.congr (A := fun s => if nextB [125] s then retP l s else
    (nameP s).bind fun t s => (mustP [58] s).bind fun _ s => (exP F 0 s).bind fun n s =>
      (if nextB [125] s then retP () s else (mustP [44] s).bind fun _ s => if namedB s then retP () s else failP 100 s).bind fun _ s => partL F f (l ++ [texted 24 t [n]]) s) ?_ fun s => by rw [partL]
    refine OkC.next _ (OkC.ret l).k (okName.bind fun t => (okMust _).bind fun _ => ((cxE F).ex 0).bind fun n => OkC.bind (A := fun s => if nextB [125] s then retP () s else (mustP [44] s).bind fun _ s => if namedB s then retP () s else failP 100 s) ?_ fun _ => okPartL F f _)
    exact OkC.next _ (OkC.ret ()).k ((okMust _).bind fun _ => OkC.named (OkC.ret ()).k (OkC.fail 100))
theorem okPart (F : Nat) : OkC Q P t rest (partP F) := okName.bind fun t => (okDown _).bind fun _ => (okPartL F F []).bind fun l => (okUp _).bind fun _ => OkC.ret _
theorem kHd {G : Tk → PS → R α} (h : ∀ x, OkC Q P t rest (G x)) : OkK Q P t rest fun s => G s.hd s.take := OkK.hd (G := fun x s => G x s.take) fun x => OkK.take (h x)
theorem kLet (F : Nat) : OkK Q P t rest (letP F) := kHd (G := fun x s => (nameP s).bind fun t s1 => (mustP [61] s1).bind fun _ s2 => (exP F 0 s2).bind fun n s3 => endP (.mk 10 t.text 0 [n] (x.at' : Nat)) s3) fun x => okName.bind fun t => (okMust _).bind fun _ => ((cxE F).ex 0).bind fun n => okEnd _
theorem kSet (F : Nat) : OkK Q P t rest (setP F) := kHd (G := fun x s => if nextB [46] s then (nameP s.take).bind fun u s1 => (mustP [61] s1).bind fun _ s2 => (exP F 0 s2).bind fun n s3 => endP (texted 12 x [texted 31 u [], n]) s3
  else (mustP [61] s).bind fun _ s2 => (exP F 0 s2).bind fun n s3 => endP (texted 11 x [n]) s3) fun x => OkC.next _ (OkK.take (A := fun s => (nameP s).bind fun u s1 => (mustP [61] s1).bind fun _ s2 => (exP F 0 s2).bind fun n s3 => endP (texted 12 x [texted 31 u [], n]) s3) (okName.bind fun u => (okMust _).bind fun _ => ((cxE F).ex 0).bind fun n => okEnd _)) ((okMust _).bind fun _ => ((cxE F).ex 0).bind fun n => okEnd _)
theorem kEmit (F : Nat) : OkK Q P t rest (emitP F) := kHd (G := fun x s => (exP F 0 s).bind fun a s1 => (mustP [44] s1).bind fun _ s2 => (exP F 0 s2).bind fun b s3 => endP (node 16 x [a, b]) s3) fun x => ((cxE F).ex 0).bind fun a => (okMust _).bind fun _ => ((cxE F).ex 0).bind fun b => okEnd _
theorem okSpawnL (F : Nat) : ∀ (f : Nat) (l : List Nd), OkC Q P t rest (spawnL F f l)
  | 0, _ => okNone.congr fun s => by rw [spawnL]
  | f + 1, l => by
    refine OkC.congr (A := fun s => if nextB [44] s then (partP F s.take).bind fun n s => spawnL F f (l ++ [n]) s else retP l s) ?_ fun s => by rw [spawnL]
    exact OkC.next _ (OkK.take (A := fun s => (partP F s).bind fun n s => spawnL F f (l ++ [n]) s) ((okPart F).bind fun n => okSpawnL F f _)) (OkC.ret l)
theorem kSpawn (F : Nat) : OkK Q P t rest (spawnP F) := kHd (G := fun x s => if nextB [59] s then retP (node 17 x []) s.take else (partP F s).bind fun n s1 => (spawnL F F [n] s1).bind fun l s2 => endP (node 17 x l) s2) fun x => OkC.next _ (OkK.take (OkC.ret _)) ((okPart F).bind fun n => (okSpawnL F F _).bind fun l => okEnd _)
theorem kAdd (F : Nat) : OkK Q P t rest (addP F) := kHd (G := fun x s => (partP F s).bind fun n s1 => endP (node 18 x [n]) s1) fun x => (okPart F).bind fun n => okEnd _
theorem kRemove : OkK Q P t rest removeP := kHd (G := fun x s => (nameP s).bind fun t s1 => endP (.mk 19 t.text 0 [] (x.at' : Nat)) s1) fun x => okName.bind fun t => okEnd _
theorem kShort : OkK Q P t rest shortP := ⟨fun {s s'} hs => by
  unfold shortP
  rw [hs.next, hs.hd]
  exact (OkK.take (okEnd _)).st hs⟩
theorem kAnswer (F : Nat) : OkK Q P t rest (answerP F) := kHd (G := fun x s => (exP F 0 s).bind fun n s1 => endP (node 22 x [n]) s1) fun x => ((cxE F).ex 0).bind fun n => okEnd _
theorem Stp.more (h : Stp Q P t rest s s') : Stp Q P t rest s.more s'.more := by
  obtain ⟨h, pre, h1, h2, h3, h4, h5⟩ := h
  exact ⟨h, pre, h1, h2, h3, by show s.stmts + 1 = s'.stmts + 1; rw [h4], h5⟩
theorem OkK.more (h : OkK Q P t rest A) : OkK Q P t rest fun s => A s.more := ⟨fun hs => h.st hs.more⟩
structure CxS (Q : Nat → Prop) (P : Nat) (t : Tk) (rest : List Tk) (F f : Nat) : Prop where
  bl : OkC Q P t rest (blockP F f)
  sl : ∀ l, OkC Q P t rest (stmtsL F f l)
  st : OkC Q P t rest (stmtP F f)
  br : OkK Q P t rest (branchP F f)
  tu : OkK Q P t rest (turnsP F f)
theorem cxS (F : Nat) : ∀ f, CxS Q P t rest F f
  | 0 => ⟨okNone.congr fun s => by rw [blockP], fun _ => okNone.congr fun s => by rw [stmtsL], okNone.congr fun s => by rw [stmtP], okNone.k.congr fun s => by rw [branchP], okNone.k.congr fun s => by rw [turnsP]⟩
  | f + 1 => by
    have ih := cxS F f
    have hbr : OkK Q P t rest (branchP F (f + 1)) := by
      refine OkK.congr (A := fun s => (exP F 0 s.take).bind fun c s1 => (blockP F f s1).bind fun b s2 => if nextB [101, 108, 115, 101] s2 then
      (if nextB [105, 102] s2.take then (limitP s2.stmts 200 s2.take).bind fun _ s3 => (branchP F f s3.more).bind fun e s4 => retP (node 13 s.hd [c, b, e]) s4
       else (blockP F f s2.take).bind fun e s4 => retP (node 13 s.hd [c, b, e]) s4)
    else retP (node 13 s.hd [c, b]) s2) ?_ fun s => by rw [branchP]
      refine kHd (G := fun x s => (exP F 0 s).bind fun c s1 => (blockP F f s1).bind fun b s2 => if nextB [101, 108, 115, 101] s2 then
      (if nextB [105, 102] s2.take then (limitP s2.stmts 200 s2.take).bind fun _ s3 => (branchP F f s3.more).bind fun e s4 => retP (node 13 x [c, b, e]) s4
       else (blockP F f s2.take).bind fun e s4 => retP (node 13 x [c, b, e]) s4)
    else retP (node 13 x [c, b]) s2) fun x => ((cxE F).ex 0).bind fun c => ih.bl.bind fun b => OkC.next _ ⟨fun {s s'} hs => ?_⟩ (OkC.ret _)
      have hst : s.stmts = s'.stmts := by obtain ⟨_, _, _, _, _, h4, _⟩ := hs; exact h4
      have hel : OkC Q P t rest fun s => (blockP F f s).bind fun e s4 => retP (node 13 x [c, b, e]) s4 := ih.bl.bind fun e => OkC.ret _
      rcases hs.take with g | g
      · try dsimp only
        rw [g.next, hst]
        split
        · unfold limitP
          split
          · exact .inr (.inr ⟨_, _, by decide, g.q, by show some (Except.error _) = some (Except.error _); rw [g.hd], rfl⟩)
          · show RC Q P t rest ((branchP F f s.take.more).bind fun e s4 => retP (node 13 x [c, b, e]) s4) ((branchP F f s'.take.more).bind fun e s4 => retP (node 13 x [c, b, e]) s4)
            exact RC.bind (ih.br.more.st g) fun e => OkC.ret _
        · exact hel.st g
      · left
        try dsimp only
        rw [g.next, if_neg (by decide)]
        exact hel.en g
    have htu : OkK Q P t rest (turnsP F (f + 1)) := by
      refine OkK.congr (A := fun s => (exP F 0 s.take).bind fun c s1 => (blockP F f s1).bind fun b s2 => retP (node (if nextB [119, 104, 105, 108, 101] s then 14 else 15) s.hd [c, b]) s2) ?_ fun s => by rw [turnsP]
      refine ⟨fun {s s'} hs => ?_⟩
      try dsimp only
      rw [hs.next, hs.hd]
      exact (OkK.take (A := fun s => (exP F 0 s).bind fun c s1 => (blockP F f s1).bind fun b s2 => retP (node (if nextB [119, 104, 105, 108, 101] s' then 14 else 15) s'.hd [c, b]) s2) (((cxE F).ex 0).bind fun c => ih.bl.bind fun b => OkC.ret _)).st hs
    refine ⟨?_, fun l => ?_, ?_, hbr, htu⟩
    · refine OkC.congr (A := fun s => (downP [123] s).bind fun t s => (stmtsL F f [] s).bind fun l s => (upP [125] s).bind fun _ s => retP (node 5 t l) s) ?_ fun s => by rw [blockP]
      exact (okDown _).bind fun t => (ih.sl []).bind fun l => (okUp _).bind fun _ => OkC.ret _
    · refine OkC.congr (A := fun s => if nextB [125] s then retP l s else (stmtP F f s).bind fun n s => stmtsL F f (l ++ [n]) s) ?_ fun s => by rw [stmtsL]
      exact OkC.next _ (OkC.ret l).k (ih.st.bind fun n => ih.sl _)
    · refine OkC.congr (A := fun s => if s.hd.kind ≠ 1 ∨ (startsN s.hd.text = 0 ∧ namedB s = false) then failP 100 s else (limitP s.stmts 200 s).bind fun _ s =>
      match startsN s.hd.text with
      | 161 => letP F s.more
      | 162 => branchP F f s.more
      | 163 => turnsP F f s.more
      | 164 => emitP F s.more
      | 165 => spawnP F s.more
      | 166 => addP F s.more
      | 167 => removeP s.more
      | 168 => shortP s.more
      | 169 => answerP F s.more
      | _ => setP F s.more) ?_ fun s => by rw [stmtP] <;> rfl
      refine ⟨fun {s s'} hs => ?_, fun {s'} hf => ?_⟩
      · try dsimp only
        have hst : s.stmts = s'.stmts := by obtain ⟨_, _, _, _, _, h4, _⟩ := hs; exact h4
        rw [hs.hd, hs.named, hst]
        split
        · exact (OkC.fail 100).st hs
        · unfold limitP
          split
          · exact .inr (.inr ⟨_, _, by decide, hs.q, by show some (Except.error _) = some (Except.error _); rw [hs.hd], rfl⟩)
          · show RC Q P t rest (match startsN s.hd.text with
              | 161 => letP F s.more
              | 162 => branchP F f s.more
              | 163 => turnsP F f s.more
              | 164 => emitP F s.more
              | 165 => spawnP F s.more
              | 166 => addP F s.more
              | 167 => removeP s.more
              | 168 => shortP s.more
              | 169 => answerP F s.more
              | _ => setP F s.more) (match startsN s'.hd.text with
              | 161 => letP F s'.more
              | 162 => branchP F f s'.more
              | 163 => turnsP F f s'.more
              | 164 => emitP F s'.more
              | 165 => spawnP F s'.more
              | 166 => addP F s'.more
              | 167 => removeP s'.more
              | 168 => shortP s'.more
              | 169 => answerP F s'.more
              | _ => setP F s'.more)
            rw [hs.hd]
            split
            · exact (kLet F).more.st hs
            · exact ih.br.more.st hs
            · exact ih.tu.more.st hs
            · exact (kEmit F).more.st hs
            · exact (kSpawn F).more.st hs
            · exact (kAdd F).more.st hs
            · exact kRemove.more.st hs
            · exact kShort.more.st hs
            · exact (kAnswer F).more.st hs
            · exact (kSet F).more.st hs
      · try dsimp only
        rw [if_pos (.inl (by rw [hf.hd]; show (0 : Nat) ≠ 1; decide))]
        exact (OkC.fail (Q := Q) (t := t) (rest := rest) 100).en hf
theorem okNames (most : Int) : ∀ (f : Nat) (l : List Nd), OkC Q P t rest (namesL most f l)
  | 0, _ => okNone.congr fun s => by rw [namesL]
  | f + 1, l => by
    refine OkC.congr (A := fun s => if namedB s then (limitP (l.length : Nat) most s).bind fun _ s => if nextB [44] s.take then namesL most f (l ++ [texted 31 s.hd []]) s.take.take else retP (l ++ [texted 31 s.hd []]) s.take else failP 100 s) ?_ fun s => by rw [namesL]
    refine OkC.named ⟨fun {s s'} hs => ?_⟩ (OkC.fail 100)
    unfold limitP
    split
    · exact .inr (.inr ⟨_, _, by decide, hs.q, by show some (Except.error _) = some (Except.error _); rw [hs.hd], rfl⟩)
    · exact (kHd (G := fun x s => if nextB [44] s then namesL most f (l ++ [texted 31 x []]) s.take else retP (l ++ [texted 31 x []]) s) fun x => OkC.next _ (OkK.take (okNames most f _)) (OkC.ret _)).st hs
theorem okClauses (F : Nat) : ∀ (ws : List Txt) (l : List Nd), OkC Q P t rest (clausesP F ws l)
  | [], l => (OkC.ret l).congr fun s => by rw [clausesP]
  | w :: ws, l => by
    refine OkC.congr (A := fun s => if nextB w s then (namesL (-1) F [] s.take).bind fun c s1 => clausesP F ws (l ++ [.mk 3 w 0 c (s.hd.at' : Nat)]) s1 else clausesP F ws (l ++ [.mk 3 w 0 [] (-1)]) s) ?_ fun s => by rw [clausesP]
    exact OkC.next _ (kHd (G := fun x s => (namesL (-1) F [] s).bind fun c s1 => clausesP F ws (l ++ [.mk 3 w 0 c (x.at' : Nat)]) s1) fun x => (okNames _ F []).bind fun c => okClauses F ws _) (okClauses F ws _)
theorem kSystem (F : Nat) : OkK Q P t rest (systemP F) := kHd (G := fun x s => (nameP s).bind fun t s1 => (clausesP F clauseW [] s1).bind fun l s2 => (blockP F F s2).bind fun b s3 => retP (Nd.mk 2 t.text 0 (l.map (Nd.fix b.place) ++ [b]) (x.at' : Nat)) s3) fun x => okName.bind fun t => (okClauses F _ _).bind fun l => (cxS F F).bl.bind fun b => OkC.ret _
theorem kFunction (F : Nat) : OkK Q P t rest (functionP F) := kHd (G := fun x s => (nameP s).bind fun t s1 => (mustP [40] s1).bind fun u s2 => (if nextB [41] s2 then retP [] s2 else namesL 4 F [] s2).bind fun c s3 => (mustP [41] s3).bind fun _ s4 => (blockP F F s4).bind fun b s5 => retP (Nd.mk 4 t.text 0 [Nd.mk 3 [102, 117, 110, 99] 0 c (u.at' : Nat), b] (x.at' : Nat)) s5) fun x => okName.bind fun t => (okMust _).bind fun u => OkC.bind (A := fun s2 => if nextB [41] s2 then retP [] s2 else namesL 4 F [] s2) (OkC.next _ (OkC.ret _).k (okNames _ _ _)) fun c => (okMust _).bind fun _ => (cxS F F).bl.bind fun b => OkC.ret _
theorem okProgramL (F : Nat) : ∀ (f : Nat) (a b : Int) (l : List Nd), OkK Q P t rest (programL F f a b l) ∧ ∀ {s'}, Fin P s' → EndR P (programL F f a b l s')
  | 0, a, b, l => ⟨okNone.k.congr fun s => by rw [programL], fun _ => by rw [programL]; exact .inl rfl⟩
  | f + 1, a, b, l => by
    refine ⟨⟨fun {s s'} hs => ?_⟩, fun {s'} hf => ?_⟩
    · rw [programL, programL, hs.hd, hs.next [115, 121, 115, 116, 101, 109], hs.next [102, 117, 110, 99]]
      have nx : ∀ (a b : Int) (n : Nd), OkC Q P t rest (programL F f a b (l ++ [n])) := fun a b n => ⟨(okProgramL F f a b _).1.st, (okProgramL F f a b _).2⟩
      split
      · exact (OkC.ret l).st hs
      split
      · unfold limitP
        split
        · exact .inr (.inr ⟨_, _, by decide, hs.q, by show some (Except.error _) = some (Except.error _); rw [hs.hd], rfl⟩)
        · show RC Q P t rest ((systemP F s).bind fun n s => programL F f (a + 1) b (l ++ [n]) s) ((systemP F s').bind fun n s => programL F f (a + 1) b (l ++ [n]) s)
          exact RC.bind ((kSystem F).st hs) fun n => nx _ _ n
      split
      · unfold limitP
        split
        · exact .inr (.inr ⟨_, _, by decide, hs.q, by show some (Except.error _) = some (Except.error _); rw [hs.hd], rfl⟩)
        · show RC Q P t rest ((functionP F s).bind fun n s => programL F f a (b + 1) (l ++ [n]) s) ((functionP F s').bind fun n s => programL F f a (b + 1) (l ++ [n]) s)
          exact RC.bind ((kFunction F).st hs) fun n => nx _ _ n
      · exact (OkC.fail 100).st hs
    · rw [programL, if_pos (by rw [hf.hd])]
      exact (OkC.ret (Q := Q) (t := t) (rest := rest) l).en hf
theorem parse_rc {pre : List Tk} (hq : ∀ x ∈ pre, Q x.at') : RC Q P t rest (parseT (pre ++ t :: rest)) (parseT (pre ++ [⟨0, [], P⟩])) := by
  unfold parseT programP
  have hok := okProgramL (Q := Q) (P := P) (t := t) (rest := rest) fuelP fuelP 0 0 []
  cases pre with
  | nil => exact .inl (EndR.bind (hok.2 rfl) fun a s' hf => (OkC.ret (Q := Q) (t := t) (rest := rest) _).en hf)
  | cons g pre => exact RC.bind (hok.1.st ⟨g, pre, rfl, rfl, rfl, rfl, hq⟩) fun a => OkC.ret _
theorem parse_place {pre : List Tk} {z : Nat} (h2 : (pre ++ [(⟨0, [], z⟩ : Tk)]).length ≤ 9000) {p e : Int} (h : parseT (pre ++ [⟨0, [], z⟩]) = some (.error (p, e))) : CodeOk e ∧ (p = (z : Int) ∨ ∃ x ∈ pre, p = (x.at' : Int)) := by
  have hne := parseT_ne h2
  rcases parse_rc (Q := fun n => ∃ x ∈ pre, n = x.at') (P := z) (t := ⟨0, [], z⟩) (rest := []) (pre := pre) (fun x hx => ⟨x, hx, rfl⟩) with (g | ⟨e', hc, g⟩ | ⟨a, s', g, _⟩) | ⟨a, s, s', g, _⟩ | ⟨n, e', hc, ⟨x, hx, hn⟩, g, _⟩
  · exact absurd g hne
  · rw [h] at g; cases g; exact ⟨hc, .inl rfl⟩
  · rw [h] at g; cases g
  · rw [h] at g; cases g
  · rw [h] at g; cases g; exact ⟨hc, .inr ⟨x, hx, by rw [hn]⟩⟩
end
end
end Go.Proofs.YtfpmgpblhhcpgaaGreatDoor.Hc.Syn
namespace Go.Proofs.YtfpmgpblhhcpgaaGreatDoor.Hc.Lex
set_option linter.unusedVariables false
set_option linter.unusedSimpArgs false
inductive Skips : Bs → Bs → Prop where
  | nil (u : Bs) : Skips [] u
  | cons (g u : Bs) (n : Nat) (h : evL (g ++ u) = .skip n) (h1 : 1 ≤ n) (h2 : n ≤ g.length) (r : Skips (g.drop n) u) : Skips g u
theorem evL_skip_le {c : UInt8} {t : Bs} {n : Nat} (h : evL (c :: t) = .skip n) : 1 ≤ n ∧ n ≤ (c :: t).length := by
  unfold evL at h
  dsimp only at h
  split at h
  · simp only [Ev.skip.injEq] at h; subst h; simp
  · split at h
    · rename_i m hm
      simp only [Ev.skip.injEq] at h
      subst h
      have := remL_le hm
      omega
    · cases h
    · unfold tokE at h
      dsimp only at h
      repeat' split at h
      all_goals cases h
theorem evL_tok {c : UInt8} {t : Bs} {k n : Nat} (h : evL (c :: t) = .tok k n) : blankC c = false ∧ remL (c :: t) = .no ∧ tokE (c :: t) = .tok k n := by
  unfold evL at h
  dsimp only at h
  split at h
  · cases h
  · rename_i hb
    split at h
    · cases h
    · cases h
    · rename_i hr
      exact ⟨by simpa using hb, hr, h⟩
theorem runL_cut {p : UInt8 → Bool} {u v : Bs} {b : UInt8} (hb : p b = false) : runL p (u.take (runL p u) ++ b :: v) = runL p u := by
  induction u with
  | nil => simp [runL, hb]
  | cons c t ih =>
    cases hc : p c with
    | false => simp [runL, hc, hb]
    | true =>
      have e : runL p (c :: t) = runL p t + 1 := by simp [runL, hc]
      rw [e, List.take_succ_cons, List.cons_append]
      have e2 : runL p (c :: (t.take (runL p t) ++ b :: v)) = runL p (t.take (runL p t) ++ b :: v) + 1 := by simp [runL, hc]
      rw [e2, ih]
theorem blank_facts {b : UInt8} (h : blankC b = true) : wordC b = false ∧ digitC b = false ∧ (letterC b || b == 95) = false ∧ b ≠ 47 ∧ b ≠ 42 ∧ b ≠ 61 ∧ b ≠ 38 ∧ b ≠ 124 := by
  unfold blankC at h
  simp only [Bool.or_eq_true, beq_iff_eq] at h
  rcases h with ((h | h) | h) | h <;> subst h <;> decide
theorem remL_blank2 {c b : UInt8} {v : Bs} (h : blankC b = true) : remL (c :: b :: v) = .no := by
  obtain ⟨_, _, _, h1, h2, _⟩ := blank_facts h
  unfold remL
  have e1 : Lib.hasPrefix (c :: b :: v) [47, 47] = false := by
    simp only [Lib.hasPrefix, List.isPrefixOf, Bool.and_true]
    rw [Bool.and_eq_false_iff]; right; exact beq_eq_false_iff_ne.2 fun e => h1 e.symm
  have e2 : Lib.hasPrefix (c :: b :: v) [47, 42] = false := by
    simp only [Lib.hasPrefix, List.isPrefixOf, Bool.and_true]
    rw [Bool.and_eq_false_iff]; right; exact beq_eq_false_iff_ne.2 fun e => h2 e.symm
  rw [e1, e2]; rfl
theorem remL_head {c : UInt8} {t : Bs} (h : c ≠ 47) : remL (c :: t) = .no := by
  unfold remL
  have : ∀ x : UInt8, Lib.hasPrefix (c :: t) [47, x] = false := fun x => by
    simp [Lib.hasPrefix, List.isPrefixOf]; exact fun e => absurd e.symm h
  rw [this, this]; rfl
theorem tok_ctx {u v : Bs} {k n : Nat} {b : UInt8} (h : evL u = .tok k n) (hb : blankC b = true) : evL (u.take n ++ b :: v) = .tok k n := by
  obtain ⟨b1, b2, b3, b4, b5, b6, b7, b8⟩ := blank_facts hb
  cases u with
  | nil => cases h
  | cons c t =>
    obtain ⟨h1, h2, h3⟩ := evL_tok h
    obtain ⟨n1, n2⟩ := tokE_le h3
    -- its head
    obtain ⟨n', rfl⟩ : ∃ n', n = n' + 1 := ⟨n - 1, by omega⟩
    rw [List.take_succ_cons, List.cons_append]
    have fin : remL (c :: (t.take n' ++ b :: v)) = .no → tokE (c :: (t.take n' ++ b :: v)) = .tok k (n' + 1) → evL (c :: (t.take n' ++ b :: v)) = .tok k (n' + 1) := by
      intro g1 g2
      unfold evL
      dsimp only
      rw [h1, g1]
      exact g2
    unfold tokE at h3
    dsimp only at h3
    split at h3
    · rename_i hc
      have h47 : c ≠ 47 := by rintro rfl; revert hc; decide
      split at h3
      · cases h3
      · rename_i h16
        simp only [Ev.tok.injEq] at h3
        obtain ⟨rfl, hn⟩ := h3
        refine fin (remL_head h47) ?_
        have := runL_cut (u := c :: t) (v := v) b1
        rw [hn, List.take_succ_cons, List.cons_append] at this
        unfold tokE
        dsimp only
        rw [if_pos hc, this, if_neg (by omega)]
    · rename_i hc
      split at h3
      · rename_i hd
        have h47 : c ≠ 47 := by rintro rfl; revert hd; decide
        split at h3
        · cases h3
        · rename_i hbig
          split at h3
          · cases h3
          · simp only [Ev.tok.injEq] at h3
            obtain ⟨rfl, hn⟩ := h3
            refine fin (remL_head h47) ?_
            have hrun := runL_cut (u := c :: t) (v := v) b2
            rw [hn, List.take_succ_cons, List.cons_append] at hrun
            have htk : (c :: (t.take n' ++ b :: v)).take (n' + 1) = (c :: t).take (n' + 1) := by
              rw [List.take_succ_cons, List.take_succ_cons]
              congr 1
              have hl : (t.take n').length = n' := by rw [List.length_take]; simp only [List.length_cons] at n2; omega
              exact List.take_left' hl
            have hdr : (c :: (t.take n' ++ b :: v)).drop (n' + 1) = b :: v := by
              rw [List.drop_succ_cons]
              have hl : (t.take n').length = n' := by rw [List.length_take]; simp only [List.length_cons] at n2; omega
              exact List.drop_left' hl
            unfold tokE
            dsimp only
            rw [if_neg hc, if_pos hd, hrun, htk, hdr]
            rw [hn] at hbig
            rw [if_neg hbig]
            have : badNext (b :: v) = false := b3
            rw [this]; rfl
      · rename_i hd
        split at h3
        · cases h3
        · rename_i h0
          simp only [Ev.tok.injEq] at h3
          obtain ⟨rfl, hn⟩ := h3
          have main : remL (c :: (t.take n' ++ b :: v)) = .no ∧ signL (c :: (t.take n' ++ b :: v)) = n' + 1 := by
            by_cases h2s : twos.any (fun x => Lib.hasPrefix (c :: t) x) = true
            · have hs2 : signL (c :: t) = 2 := by unfold signL; rw [if_pos h2s]
              have : n' = 1 := by omega
              subst this
              cases t with
              | nil => simp at n2
              | cons d t =>
                have htk : (d :: t).take 1 = [d] := rfl
                rw [htk]
                have hany : twos.any (fun x => Lib.hasPrefix (c :: ([d] ++ b :: v)) x) = true := by
                  obtain ⟨x, hx, hp⟩ := List.any_eq_true.1 h2s
                  refine List.any_eq_true.2 ⟨x, hx, ?_⟩
                  simp only [twos, List.mem_cons, List.not_mem_nil, or_false] at hx
                  rcases hx with rfl | rfl | rfl | rfl | rfl | rfl <;> (simp only [Lib.hasPrefix, List.isPrefixOf, List.cons_append, List.nil_append] at hp ⊢; exact hp)
                refine ⟨?_, by unfold signL; rw [if_pos hany]⟩
                obtain ⟨x, hx, hp⟩ := List.any_eq_true.1 h2s
                have h47 : c ≠ 47 := by
                  simp only [twos, List.mem_cons, List.not_mem_nil, or_false] at hx
                  rintro rfl
                  rcases hx with rfl | rfl | rfl | rfl | rfl | rfl <;> simp [Lib.hasPrefix, List.isPrefixOf] at hp
                exact remL_head h47
            · have hs1 : signL (c :: t) = if c ∈ ones then 1 else 0 := by unfold signL; rw [if_neg h2s]
              have hcm : c ∈ ones := by
                by_cases e : c ∈ ones
                · exact e
                · rw [if_neg e] at hs1; omega
              rw [if_pos hcm] at hs1
              have : n' = 0 := by omega
              subst this
              rw [List.take_zero, List.nil_append]
              refine ⟨remL_blank2 hb, ?_⟩
              unfold signL
              rw [if_neg]
              · dsimp only; rw [if_pos hcm]
              · intro hany
                obtain ⟨x, hx, hp⟩ := List.any_eq_true.1 hany
                simp only [twos, List.mem_cons, List.not_mem_nil, or_false] at hx
                rcases hx with rfl | rfl | rfl | rfl | rfl | rfl <;> (simp only [Lib.hasPrefix, List.isPrefixOf, Bool.and_eq_true, beq_iff_eq] at hp; first | exact b6 hp.2.1.symm | exact b7 hp.2.1.symm | exact b8 hp.2.1.symm)
          refine fin main.1 ?_
          unfold tokE
          dsimp only
          rw [if_neg hc, if_neg hd, main.2, if_neg (by omega)]
def gapB (k : Nat) : Bs := match k with
  | 0 => [32]
  | 1 => [10]
  | 2 => [32, 47, 42, 32, 120, 32, 42, 47]
  | 3 => [9, 47, 47, 32, 121, 10]
  | _ => [13, 32]
theorem ev_blank {b : UInt8} {t : Bs} (h : blankC b = true) : evL (b :: t) = .skip 1 := by unfold evL; dsimp only; rw [h]; rfl
def asm (γ : Nat → Nat) : Nat → List Tk → Bs
  | _, [] => []
  | i, t :: ts => gapB (γ i) ++ t.text ++ asm γ (i + 1) ts
inductive Chain : List Tk → Prop where
  | fin (p : Nat) : Chain [⟨0, [], p⟩]
  | tok (u : Bs) (k n p : Nat) (ts : List Tk) (h : evL u = .tok k n) (h1 : 1 ≤ n) (h2 : n ≤ u.length) (r : Chain ts) : Chain (⟨k, u.take n, p⟩ :: ts)
def sameT (a b : List Tk) : Prop := a.length = b.length ∧ ∀ i (h : i < a.length) (h' : i < b.length), a[i].kind = b[i].kind ∧ a[i].text = b[i].text
end Go.Proofs.YtfpmgpblhhcpgaaGreatDoor.Hc.Lex
namespace Go.Proofs.YtfpmgpblhhcpgaaGreatDoor.Hc.Lex
set_option linter.unusedVariables false
set_option linter.unusedSimpArgs false
end Go.Proofs.YtfpmgpblhhcpgaaGreatDoor.Hc.Lex
namespace Go.Proofs.YtfpmgpblhhcpgaaGreatDoor.Hc.Lex
set_option linter.unusedVariables false
set_option linter.unusedSimpArgs false
set_option maxRecDepth 100000
theorem lex_at : ∀ (m : Nat) (r : Bs) (p : Nat) (ts : List Tk), r.length ≤ m → lexL p r = .ok ts → ∀ t ∈ ts, p ≤ t.at' ∧ t.at' ≤ p + r.length := by
  intro m
  induction m with
  | zero =>
    intro r p ts hm h t ht
    cases r with
    | nil => rw [lexL_nil] at h; cases h; rw [List.mem_singleton.1 ht]; exact ⟨Nat.le_refl _, Nat.le_add_right _ _⟩
    | cons c r => simp at hm
  | succ m ih =>
    intro r p ts hm h t ht
    cases r with
    | nil => rw [lexL_nil] at h; cases h; rw [List.mem_singleton.1 ht]; exact ⟨Nat.le_refl _, Nat.le_add_right _ _⟩
    | cons c r =>
      rw [lexL_cons] at h
      rw [List.length_cons] at hm ⊢
      split at h
      · rename_i n hn
        obtain ⟨h1, h2⟩ := evL_skip_le hn
        rw [List.length_cons] at h2
        have := ih _ _ _ (by rw [List.length_drop]; omega) h t ht
        rw [List.length_drop] at this
        omega
      · rename_i k n hn
        obtain ⟨_, _, h3⟩ := evL_tok hn
        obtain ⟨h1, h2⟩ := tokE_le h3
        rw [List.length_cons] at h2
        cases hr : lexL (p + n) (r.drop (n - 1)) with
        | error e => rw [hr] at h; cases h
        | ok l =>
          rw [hr] at h
          cases h
          rcases List.mem_cons.1 ht with rfl | ht
          · exact ⟨Nat.le_refl _, Nat.le_add_right _ _⟩
          · have := ih _ _ _ (by rw [List.length_drop]; omega) hr t ht
            rw [List.length_drop] at this
            omega
      · cases h
theorem lex_ne : ∀ (m : Nat) (r : Bs) (p : Nat) (ts : List Tk), r.length ≤ m → lexL p r = .ok ts → ts ≠ [] := by
  intro m
  induction m with
  | zero =>
    intro r p ts hm h
    cases r with
    | nil => rw [lexL_nil] at h; cases h; simp
    | cons c r => simp at hm
  | succ m ih =>
    intro r p ts hm h
    cases r with
    | nil => rw [lexL_nil] at h; cases h; simp
    | cons c r =>
      rw [lexL_cons] at h
      rw [List.length_cons] at hm
      split at h
      · rename_i n hn
        obtain ⟨h1, h2⟩ := evL_skip_le hn
        rw [List.length_cons] at h2
        exact ih _ _ _ (by rw [List.length_drop]; omega) h
      · cases hr : lexL (p + _) (r.drop (_ - 1)) with
        | error e => rw [hr] at h; cases h
        | ok l => rw [hr] at h; cases h; simp
      · cases h
theorem lex_end : ∀ (m : Nat) (r : Bs) (p : Nat) (ts : List Tk), r.length ≤ m → lexL p r = .ok ts → ∀ i z, ts = i ++ [z] → z = ⟨0, [], p + r.length⟩ := by
  intro m
  induction m with
  | zero =>
    intro r p ts hm h i z hts
    cases r with
    | nil =>
      rw [lexL_nil] at h; cases h
      cases i with
      | nil => simp only [List.nil_append, List.cons.injEq, and_true] at hts; rw [← hts]; rfl
      | cons x i => simp at hts
    | cons c r => simp at hm
  | succ m ih =>
    intro r p ts hm h i z hts
    cases r with
    | nil =>
      rw [lexL_nil] at h; cases h
      cases i with
      | nil => simp only [List.nil_append, List.cons.injEq, and_true] at hts; rw [← hts]; rfl
      | cons x i => simp at hts
    | cons c r =>
      rw [lexL_cons] at h
      rw [List.length_cons] at hm ⊢
      split at h
      · rename_i n hn
        obtain ⟨h1, h2⟩ := evL_skip_le hn
        rw [List.length_cons] at h2
        have := ih _ _ _ (by rw [List.length_drop]; omega) h i z hts
        rw [this, List.length_drop]; congr 1; omega
      · rename_i k n hn
        obtain ⟨_, _, h3⟩ := evL_tok hn
        obtain ⟨h1, h2⟩ := tokE_le h3
        rw [List.length_cons] at h2
        cases hr : lexL (p + n) (r.drop (n - 1)) with
        | error e => rw [hr] at h; cases h
        | ok l =>
          rw [hr] at h
          cases h
          cases i with
          | nil =>
            simp only [List.nil_append, List.cons_append, List.cons.injEq] at hts
            have := lex_ne _ _ _ _ (Nat.le_refl _) hr
            exact absurd hts.2 this
          | cons x i =>
            simp only [List.nil_append, List.cons_append, List.cons.injEq] at hts
            have := ih _ _ _ (by rw [List.length_drop]; omega) hr i z hts.2
            rw [this, List.length_drop]; congr 1; omega
      · cases h
end Go.Proofs.YtfpmgpblhhcpgaaGreatDoor.Hc.Lex
namespace Go.Proofs.YtfpmgpblhhcpgaaGreatDoor
set_option linter.unusedVariables false
set_option linter.unusedSimpArgs false
set_option maxRecDepth 100000
section
open Hc Hc.Lex Hc.Syn
variable {H : Heap}
theorem lexS_end {s : ByteArray} {ts i : List Tk} {z : Tk} (h : lexS s = .ok ts) (hi : ts = i ++ [z]) : ∃ n, z = ⟨0, [], n⟩ := by
  have hs : s.size ≤ 8000 := by
    rcases Nat.lt_or_ge 8000 s.size with g | g
    · unfold lexS at h; rw [if_pos g] at h; cases h
    · exact g
  rw [lexS_small hs] at h
  cases hr : lexL 0 (bs s) with
  | error e => rw [hr] at h; cases h
  | ok l =>
    rw [hr] at h
    cases h
    exact ⟨_, lex_end _ _ _ _ (Nat.le_refl _) hr i z hi⟩
theorem fault_facts {s : ByteArray} {p e : Int} (h : parseS s = some (.error (p, e))) : e ≠ 0 ∧ 0 ≤ p ∧ ((e = 100 ∨ e = 101 ∨ e = 102) → s.size ≤ 8000 → ∃ ts, lexS s = .ok ts ∧ parseT ts = some (.error (p, e))) := by
  unfold parseS at h
  cases hl : lexS s with
  | error x =>
    obtain ⟨a, c⟩ := x
    rw [hl] at h
    dsimp only at h
    simp only [Option.some.injEq, Except.error.injEq, Prod.mk.injEq] at h
    obtain ⟨rfl, rfl⟩ := h
    by_cases hs : s.size ≤ 8000
    · rw [lexS_small hs] at hl
      cases hx : lexL 0 (bs s) with
      | ok l => rw [hx] at hl; cases hl
      | error e =>
        rw [hx] at hl
        cases hl
        exact ⟨by decide, by omega, fun he => by omega⟩
    · unfold lexS at hl
      rw [if_pos (by omega)] at hl
      cases hl
      exact ⟨by decide, by omega, fun _ h => by omega⟩
  | ok ts =>
    rw [hl] at h
    dsimp only at h
    have hok := lexS_ok hl
    obtain ⟨i, z, hi, hz, _⟩ := hok.ends
    have hz2 : ∃ n, z = ⟨0, [], n⟩ := lexS_end hl hi
    obtain ⟨n, rfl⟩ := hz2
    subst hi
    obtain ⟨hc, hp⟩ := parse_place hok.len h
    refine ⟨by omega, ?_, fun _ _ => ⟨_, rfl, h⟩⟩
    rcases hp with rfl | ⟨x, _, rfl⟩ <;> omega
end
section
open Hc
abbrev fQc6 : FuncId := 5
def vQcl (src_ : ByteArray) (H : Heap) (k : Bool → Heap → Prop) : Prop :=
    CallT Pg fQb7 [] (.one (.c .bool)) H fun (r1 : Bool) H1 =>
    Br (!r1) (
      k false H1) (
      CallT Pg fQb8 [.string src_] (.tup [(.c .ptr), (.c .raw)]) H1 fun (r2 : Option Addr × Value) H2 =>
      IfNil r2.2 fun e1 =>
      Br (!e1) (
        CallT Pg fQb9 [r2.2] (.tup [(.c (.int .i64)), (.c (.int .i64)), (.c .bool)]) H2 fun (r3 : Int × Int × Bool) H3 =>
        Jn (σ := Bool) /-  -/ (fun kk1 =>
          Br r2.1.isNone (
            Br r3.2.2 (
              Br (decide (r3.1 ≥ 0)) (
                Br (decide (r3.1 ≤ (src_.size : Int))) (
                  kk1 (r3.2.1 != 0) H3) (
                  kk1 false H3)) (
                kk1 false H3)) (
              kk1 false H3)) (
            kk1 false H3)) fun j1 H4 =>
        k j1 H4) (
        CallT Pg fQca [.pointer r2.1] (.one (.c .str)) H2 fun (r4 : ByteArray) H5 =>
        Jn (σ := Bool) /-  -/ (fun kk2 =>
          Br ((r4.toList == (⟨#[]⟩ : ByteArray).toList)) (
            NilCk r2.1 fun a1 =>
            Ld .sl (a1.add 3) H5 fun (x1 : Sl) =>
            kk2 (decide ((x1.len : Int) > 0)) H5) (
            kk2 false H5)) fun j2 H6 =>
        Br j2 (
          k false H6) (
          Br (decide ((r4.size : Int) > 8000)) (
            k true H6) (
            CallT Pg fQb8 [.string r4] (.tup [(.c .ptr), (.c .raw)]) H6 fun (r5 : Option Addr × Value) H7 =>
            CallT Pg fQcb [.pointer r2.1, .pointer r5.1] (.one (.c .bool)) H7 fun (r6 : Bool) H8 =>
            Jn (σ := Bool) /-  -/ (fun kk3 =>
              IfNil r5.2 fun e2 =>
              Br e2 (
                Br r6 (
                  CallT Pg fQca [.pointer r5.1] (.one (.c .str)) H8 fun (r7 : ByteArray) H10 =>
                  kk3 (r7.toList == r4.toList) H10) (
                  kk3 false H8)) (
                kk3 false H8)) fun j3 H9 =>
            k j3 H9))))
def h_L_SyntaxBack : Hint := (.two .no (.two .no (.two .no (.two .no (.two (.two .no (.two (.two .no (.two (.join [(2, (.c .bool))] .no) .no)) .no)) (.two .no (.two (.two (.join [(59, (.c .bool))] .no) .no) (.two .no (.two .no (.two .no (.two (.join [(2, (.c .bool))] .no) .no)))))))))))
theorem e_L_SyntaxBack (src_ : ByteArray) (H : Heap) (k : Bool → Heap → Prop) : EFun Pg Tryz.f5 h_L_SyntaxBack [.string src_] (.one (.c .bool)) H k = vQcl src_ H k := by kernel_rfl
theorem cQcl (src_ : ByteArray) {H : Heap} {k : Bool → Heap → Prop} (h : vQcl src_ H k) : CallT Pg fQc6 [.string src_] (.one (.c .bool)) H k :=
  call_of_E Pg_mixed Tryz.func5 (by kernel_rfl) (by kernel_rfl) (by kernel_rfl) (by kernel_rfl) ((e_L_SyntaxBack src_ H k).symm ▸ h)
end
end Go.Proofs.YtfpmgpblhhcpgaaGreatDoor
namespace Go.Proofs.YtfpmgpblhhcpgaaGreatDoor.Hc.Syn
set_option linter.unusedVariables false
set_option linter.unusedSimpArgs false
set_option maxRecDepth 100000
section
open Go Hc Hc.Lex
def pd (b : Bool) : Nat := if b then 1 else 0
mutual
def ndN : Nd → Nat
  | .nil => 0
  | .mk op tx _ l _ =>
    if op = 33 then (match l with
      | x :: y :: _ => max (pd (needP (levelI tx) false x) + ndN x) (pd (needP (levelI tx) true y) + ndN y)
      | _ => 0)
    else if op = 35 then (match l with
      | x :: y :: z :: _ => max (pd (needP 0 false x) + ndN x) (1 + max (ndN y) (ndN z))
      | _ => 0)
    else if op = 34 then (match l with
      | x :: _ => 1 + (pd (needP 7 false x) + ndN x)
      | _ => 0)
    else (if op = 36 ∨ op = 5 ∨ op = 23 then 1 else 0) + ndL l
def ndL : List Nd → Nat
  | [] => 0
  | n :: ns => max (ndN n) (ndL ns)
end
mutual
def stN : Nd → Nat
  | .nil => 0
  | .mk op _ _ l _ => (if 10 ≤ op ∧ op ≤ 22 then 1 else 0) + stL l
def stL : List Nd → Nat
  | [] => 0
  | n :: ns => stN n + stL ns
end
def lvE (n : Nd) : Nat := if n.op = 35 then 0 else if n.op = 33 then (levelI n.tx).toNat else 7
theorem level_rng (t : Txt) : 0 ≤ levelI t ∧ levelI t ≤ 6 := by
  unfold levelI
  repeat' split
  all_goals decide
theorem needP_l {n : Nd} {lv : Nat} (h : 0 < lv) (h7 : lv ≤ 7) : needP (lv : Nat) false n = decide (lvE n < lv) := by
  unfold needP lvE
  have := level_rng n.tx
  by_cases h1 : n.op = 35
  · rw [if_pos h1, Bool.eq_iff_iff]; simp [h1]; omega
  · rw [if_neg h1]
    by_cases h2 : n.op = 33
    · rw [if_pos h2, Bool.eq_iff_iff]; simp [h2]; omega
    · rw [if_neg h2, Bool.eq_iff_iff]; simp [h1, h2]; omega
theorem needP_r {n : Nd} {lv : Nat} (h6 : lv ≤ 6) : needP (lv : Nat) true n = decide (lvE n < lv + 1) := by
  unfold needP lvE
  have := level_rng n.tx
  by_cases h1 : n.op = 35
  · rw [if_pos h1, Bool.eq_iff_iff]; simp [h1]
  · rw [if_neg h1]
    by_cases h2 : n.op = 33
    · rw [if_pos h2, Bool.eq_iff_iff]; simp [h2]; omega
    · rw [if_neg h2, Bool.eq_iff_iff]; simp [h1, h2]; omega
theorem nd33 (tx : Txt) (nm : Int) (x y : Nd) (a : Int) : ndN (.mk 33 tx nm [x, y] a) = max (pd (needP (levelI tx) false x) + ndN x) (pd (needP (levelI tx) true y) + ndN y) := by
  conv => lhs; unfold ndN
  rfl
theorem nd35 (tx : Txt) (nm : Int) (x y z : Nd) (a : Int) : ndN (.mk 35 tx nm [x, y, z] a) = max (pd (needP 0 false x) + ndN x) (1 + max (ndN y) (ndN z)) := by
  conv => lhs; unfold ndN
  rfl
theorem nd34 (tx : Txt) (nm : Int) (x : Nd) (a : Int) : ndN (.mk 34 tx nm [x] a) = 1 + (pd (needP 7 false x) + ndN x) := by
  conv => lhs; unfold ndN
  rfl
theorem ndo {op : Int} (tx : Txt) (nm : Int) (l : List Nd) (a : Int) (h3 : op ≠ 33) (h4 : op ≠ 34) (h5 : op ≠ 35) : ndN (.mk op tx nm l a) = (if op = 36 ∨ op = 5 ∨ op = 23 then 1 else 0) + ndL l := by unfold ndN; rw [if_neg h3, if_neg h5, if_neg h4]
theorem needP_0 {n : Nd} (h : okN n) : needP 0 false n = decide (lvE n < 1) := by
  obtain ⟨op, tx, nm, l, a, rfl⟩ := h.op
  unfold needP lvE
  show ((op == 35) || ((op == 33) && (decide (levelI tx < 0) || (false && _)))) = decide ((if op = 35 then 0 else if op = 33 then (levelI tx).toNat else 7) < 1)
  have := level_rng tx
  by_cases h1 : op = 35
  · rw [if_pos h1]; simp [h1]
  · rw [if_neg h1]
    by_cases h2 : op = 33
    · subst h2
      have := (ok33 h).1
      rw [if_pos rfl]; simp; omega
    · rw [if_neg h2]; simp [h1, h2]
abbrev nmOk (op nm : Int) : Prop := (-9223372036854775808 ≤ nm ∧ nm ≤ 9223372036854775807) ∧ (op = 30 ∨ nm = 0)
theorem nm0 {op : Int} : nmOk op 0 := ⟨by decide, .inr rfl⟩
mutual
def nmN : Nd → Prop
  | .nil => True
  | .mk op _ nm l _ => nmOk op nm ∧ nmL l
def nmL : List Nd → Prop
  | [] => True
  | n :: ns => nmN n ∧ nmL ns
end
mutual
theorem nm_i64 : ∀ {n : Nd}, nmN n → i64N n
  | .nil, _ => trivial
  | .mk _ _ _ _ _, h => ⟨h.1.1, nm_i64L h.2⟩
theorem nm_i64L : ∀ {l : List Nd}, nmL l → i64L l
  | [], _ => trivial
  | _ :: _, h => ⟨nm_i64 h.1, nm_i64L h.2⟩
end
theorem nmL_all : ∀ {l : List Nd}, nmL l → ∀ n ∈ l, nmN n
  | [], _, n, hn => by cases hn
  | m :: ms, h, n, hn => by
    rcases List.mem_cons.1 hn with rfl | hn
    · exact h.1
    · exact nmL_all h.2 n hn
def Gd {α : Type} (r : R α) (Q : α → PS → Prop) : Prop := ∀ a s', r = some (.ok (a, s')) → Q a s'
section
variable {α β : Type} {P Q : α → PS → Prop}
theorem Gd.bind {A : R α} {F : α → PS → R β} {Q : β → PS → Prop} (h : Gd A P) (hF : ∀ a s, P a s → Gd (F a s) Q) : Gd (A.bind F) Q := fun b s' e => by
  obtain ⟨a, s, h1, h2⟩ := bind_ok e
  exact hF a s (h a s h1) b s' h2
theorem Gd.ret {a : α} {s : PS} (h : Q a s) : Gd (retP a s) Q := fun b s' e => by
  obtain ⟨rfl, rfl⟩ := ret_ok e; exact h
theorem Gd.fail {e : Int} {s : PS} : Gd (failP e s) Q := fun b s' e => by cases e
theorem Gd.no : Gd none Q := fun b s' e => by cases e
theorem Gd.mono {A : R α} (h : Gd A P) (hpq : ∀ a s, P a s → Q a s) : Gd A Q := fun a s' e => hpq _ _ (h a s' e)
theorem Gd.ite {c : Prop} [Decidable c] {A B : R α} (h1 : c → Gd A Q) (h2 : ¬ c → Gd B Q) : Gd (if c then A else B) Q := by
  split
  · exact h1 ‹_›
  · exact h2 ‹_›
theorem gd_must (w : Txt) (s : PS) : Gd (mustP w s) fun t s' => nextB w s = true ∧ t = s.hd ∧ s' = s.take := fun _ _ e => must_ok e
theorem gd_name (s : PS) : Gd (nameP s) fun t s' => namedB s = true ∧ t = s.hd ∧ s' = s.take := fun _ _ e => name_ok e
theorem gd_down (w : Txt) (s : PS) : Gd (downP w s) fun t s' => nextB w s = true ∧ s.deep ≠ 20 ∧ t = s.hd ∧ s' = { s.take with deep := s.deep + 1 } := fun _ _ e => down_ok e
theorem gd_up (w : Txt) (s : PS) : Gd (upP w s) fun _ s' => nextB w s = true ∧ s' = s.take.up := fun _ _ e => up_ok e
theorem gd_limit (n m : Int) (s : PS) : Gd (limitP n m s) fun _ s' => n ≠ m ∧ s' = s := fun _ _ e => limit_ok e
end
def NumOk (t : Tk) : Prop := t.kind = 2 → decL 0 t.text ≤ 9223372036854775807
abbrev AllT (s : PS) : Prop := ∀ t ∈ s.toks, NumOk t
structure Sf (s s' : PS) (k m : Nat) : Prop where
  n : s'.N + k ≤ s.N
  d : s'.deep = s.deep
  t : s'.stmts = s.stmts + (m : Nat)
  l : s.stmts ≤ 200 → s'.stmts ≤ 200
  a : AllT s → AllT s'
theorem Sf.rfl' {s : PS} : Sf s s 0 0 := ⟨by simp, rfl, by simp, id, id⟩
theorem Sf.tr {s s1 s2 : PS} {k k' m m' : Nat} (h : Sf s s1 k m) (h' : Sf s1 s2 k' m') : Sf s s2 (k + k') (m + m') :=
  ⟨by have := h.n; have := h'.n; omega, h'.d.trans h.d, by rw [h'.t, h.t]; omega, fun g => h'.l (h.l g), fun g => h'.a (h.a g)⟩
theorem Sf.le {s s1 : PS} {k k' m : Nat} (h : Sf s s1 k m) (hk : k' ≤ k) : Sf s s1 k' m := ⟨by have := h.n; omega, h.d, h.t, h.l, h.a⟩
theorem sf_take {s : PS} (h : s.hd.kind ≠ 0) : Sf s s.take 1 0 := by
  refine ⟨by have := take_N h; omega, rfl, by simp [PS.take], fun g => g, fun g t ht => g t ?_⟩
  exact List.mem_of_mem_tail ht
theorem hd_num {s : PS} (h : AllT s) (hk : s.hd.kind = 2) : decL 0 s.hd.text ≤ 9223372036854775807 := by
  obtain ⟨l, d, n⟩ := s
  cases l with
  | nil => exact absurd hk (by show ¬ (0 = 2); decide)
  | cons t l => exact h t (List.mem_cons_self ..) hk
theorem Loc.of' {op nm : Int} {tx : Txt} {l : List Nd} {k : Nat} {sl : List Int} {more : Bool} {m : Nat} (hf : formI op = some (k, sl, more, m)) (ht : textB k tx = true) (hm : m ≤ l.length) (hn : l.length ≤ sl.length ∨ more = true) (hs : srtL sl l)
    (hc : clsB op l = true := by rfl) (h30 : op = 30 → 0 ≤ nm := by decide) : Loc op tx nm l := ⟨⟨k, sl, more, m, hf, ht, hm, hn, hs⟩, hc, h30⟩
theorem srt_of {s : Int} : ∀ {l : List Nd}, (∀ n ∈ l, sortB n.op s = true) → srtL [s] l
  | [], _ => trivial
  | m :: ms, h => ⟨h m (List.mem_cons_self ..), srt_of fun n hn => h n (List.mem_cons_of_mem _ hn)⟩
theorem sortE {n : Nd} (h : isE n) : sortB n.op 3 = true := by
  unfold sortB; simp only [isE] at h; simp [h.1, h.2]
structure PE (lv : Nat) (s : PS) (n : Nd) (s' : PS) : Prop where
  ok : okN n
  e : isE n
  i : nmN n
  dp : dpN n = 0
  st : stN n = 0
  f : Sf s s' (cnt n) 0
  nd : s.deep + pd (decide (lvE n < lv)) + ndN n ≤ 20
theorem pd_le {p q : Prop} [Decidable p] [Decidable q] (h : p → q) : pd (decide p) ≤ pd (decide q) := by
  unfold pd
  by_cases hp : p
  · simp [hp, h hp]
  · simp [hp]
theorem pd_le1 (b : Bool) : pd b ≤ 1 := by cases b <;> decide
theorem PE.low {lv lv' : Nat} {s s' : PS} {n : Nd} (h : PE lv s n s') (hl : lv' ≤ lv) : PE lv' s n s' :=
  ⟨h.ok, h.e, h.i, h.dp, h.st, h.f, by have := h.nd; have := pd_le (p := lvE n < lv') (q := lvE n < lv) (fun g => by omega); omega⟩
theorem PE.leaf {s s' : PS} {op nm a : Int} {tx : Txt} (hk : okN (.mk op tx nm [] a)) (he : 30 ≤ op ∧ op ≤ 38) (h1 : op ≠ 33) (h2 : op ≠ 34) (h3 : op ≠ 35) (h4 : op ≠ 36) (hi : nmOk op nm) (hf : Sf s s' 1 0) (hd : s.deep ≤ 20) : PE 7 s (.mk op tx nm [] a) s' := by
  refine ⟨hk, he, ⟨hi, trivial⟩, ?_, ?_, by simpa [cnt, cntL] using hf, ?_⟩
  · simp only [dpN, dpL]; rw [if_neg (by omega)]
  · simp only [stN, stL]; rw [if_neg (by omega)]
  · rw [ndo _ _ _ _ h1 h2 h3, if_neg (by omega)]
    have e7 : lvE (.mk op tx nm [] a) = 7 := by
      show (if op = 35 then 0 else if op = 33 then _ else 7) = 7
      rw [if_neg h3, if_neg h1]
    rw [e7]
    simp [ndL, pd]; exact hd
structure PA (s : PS) (l : List Nd) (s' : PS) : Prop where
  ok : okL l
  e : ∀ n ∈ l, isE n
  i : nmL l
  dp : dpL l = 0
  st : stL l = 0
  f : Sf s s' (cntL l) 0
  nd : s.deep + ndL l ≤ 20
theorem okL_app {l k : List Nd} (h : okL l) (h' : okL k) : okL (l ++ k) := by
  induction l with
  | nil => exact h'
  | cons n l ih => exact ⟨h.1, ih h.2⟩
theorem nmL_app {l k : List Nd} (h : nmL l) (h' : nmL k) : nmL (l ++ k) := by
  induction l with
  | nil => exact h'
  | cons n l ih => exact ⟨h.1, ih h.2⟩
theorem dpL_app (l k : List Nd) : dpL (l ++ k) = max (dpL l) (dpL k) := by
  induction l with
  | nil => simp [dpL]
  | cons n l ih => simp only [List.cons_append, dpL, ih]; omega
theorem stL_app (l k : List Nd) : stL (l ++ k) = stL l + stL k := by
  induction l with
  | nil => simp [stL]
  | cons n l ih => simp only [List.cons_append, stL, ih]; omega
theorem ndL_app (l k : List Nd) : ndL (l ++ k) = max (ndL l) (ndL k) := by
  induction l with
  | nil => simp [ndL]
  | cons n l ih => simp only [List.cons_append, ndL, ih]; omega
theorem cntL_app (l k : List Nd) : cntL (l ++ k) = cntL l + cntL k := by
  induction l with
  | nil => simp [cntL]
  | cons n l ih => simp only [List.cons_append, cntL, ih]; omega
theorem PA.nil {s : PS} (hd : s.deep ≤ 20) : PA s [] s := ⟨trivial, fun n h => (by cases h), trivial, rfl, rfl, Sf.rfl', (by simp [ndL]; exact hd)⟩
theorem PA.snoc {s s1 s2 s3 : PS} {l : List Nd} {n : Nd} (h : PA s l s1) (hs : Sf s1 s2 0 0) (h' : PE 0 s2 n s3) : PA s (l ++ [n]) s3 := by
  have hf : Sf s s3 (cntL l + 0 + cnt n) (0 + 0 + 0) := (h.f.tr hs).tr h'.f
  refine ⟨okL_app h.ok ⟨h'.ok, trivial⟩, fun m hm => ?_, nmL_app h.i ⟨h'.i, trivial⟩, ?_, ?_, ?_, ?_⟩
  · rcases List.mem_append.1 hm with g | g
    · exact h.e m g
    · simp only [List.mem_singleton] at g; rw [g]; exact h'.e
  · rw [dpL_app, h.dp]; simp [dpL, h'.dp]
  · rw [stL_app, h.st]; simp [stL, h'.st]
  · rw [cntL_app]; simpa [cntL] using hf
  · rw [ndL_app]; simp only [ndL]
    have := h.nd; have := h'.nd; have := hs.d; have := h.f.d
    omega
structure WE (f : Nat) : Prop where
  ex : ∀ lv s, lv ≤ 7 → s.deep ≤ 20 → AllT s → Gd (exP f lv s) (PE lv s)
  un : ∀ w s, (w = [45] ∨ w = [33]) → s.deep ≤ 20 → AllT s → Gd (unP f w s) (PE 7 s)
  bi : ∀ lv s0 n s, 1 ≤ lv → lv ≤ 6 → s0.deep ≤ 20 → AllT s0 → PE lv s0 n s → Gd (binP f lv n s) (PE lv s0)
  pr : ∀ s, s.deep ≤ 20 → AllT s → Gd (primP f s) (PE 7 s)
  ar : ∀ s, s.deep ≤ 20 → AllT s → Gd (argsP f s) fun l s' => PA { s with deep := s.deep + 1 } l { s' with deep := s'.deep + 1 }
  al : ∀ s0 l s, s0.deep ≤ 20 → AllT s0 → PA s0 l s → Gd (argsL f l s) (PA s0)
theorem down_sf {s : PS} {w : Txt} (h : nextB w s = true) : Sf { s with deep := s.deep + 1 } { s.take with deep := s.deep + 1 } 1 0 := by
  have g := sf_take (next_k h)
  exact ⟨g.n, rfl, g.t, g.l, g.a⟩
theorem Sf.deep {s s' : PS} {k m : Nat} (h : Sf s s' k m) (d : Int) : Sf { s with deep := d } { s' with deep := d } k m := ⟨h.n, rfl, h.t, h.l, h.a⟩
theorem wE : ∀ f, WE f
  | 0 => ⟨fun _ _ _ _ _ => by rw [exP]; exact Gd.no, fun _ _ _ _ _ => by rw [unP]; exact Gd.no, fun _ _ _ _ _ _ _ _ _ => by rw [binP]; exact Gd.no, fun _ _ _ => by rw [primP]; exact Gd.no, fun _ _ _ => by rw [argsP]; exact Gd.no, fun _ _ _ _ _ _ => by rw [argsL]; exact Gd.no⟩
  | f + 1 => by
    have ih := wE f
    refine ⟨fun lv s h7 hd ha => ?_, fun w s hw hd ha => ?_, fun lv s0 n s h1 h6 hd ha hn => ?_, fun s hd ha => ?_, fun s hd ha => ?_, fun s0 l s hd ha hl => ?_⟩
    · rw [exP]
      refine Gd.ite (fun e0 => ?_) fun n0 => Gd.ite (fun e7 => ?_) fun n7 => ?_
      · subst e0
        refine (ih.ex 1 s (by decide) hd ha).bind fun n s1 h1 => Gd.ite (fun hq => ?_) fun _ => Gd.ret (h1.low (by decide))
        refine (gd_down _ _).bind fun t s2 ⟨_, hne, ht, e2⟩ => ?_
        have d1 : s1.deep = s.deep := h1.f.d
        have a1 := h1.f.a ha
        have hdn := down_sf hq
        have a2 : AllT s2 := by rw [e2]; exact hdn.a a1
        have d2 : s2.deep = s.deep + 1 := by rw [e2, ← d1]
        have dn : s.deep + 1 ≤ 20 := by rw [← d1]; have : s1.deep ≤ 20 := by omega
                                        omega
        refine (ih.ex 0 s2 (by decide) (by omega) a2).bind fun y s3 h3 => ?_
        refine (gd_must _ _).bind fun _ s4 ⟨hm, _, e4⟩ => ?_
        subst e4
        have d3 : s3.deep = s.deep + 1 := h3.f.d.trans d2
        have g4 := sf_take (next_k hm)
        refine (ih.ex 0 s3.take (by decide) (by show s3.deep ≤ 20; omega) (g4.a (h3.f.a a2))).bind fun z s5 h5 => Gd.ret ?_
        have h5d : s3.take.deep = s.deep + 1 := d3
        have hf : Sf s s5.up (cnt n + 1 + cnt y + 1 + cnt z) 0 := by
          have q2 : Sf { s1 with deep := s.deep + 1 } { s5 with deep := s.deep + 1 } (1 + cnt y + 1 + cnt z) 0 := by
            have q : Sf { s1 with deep := s1.deep + 1 } s2 1 0 := by rw [e2]; exact hdn
            have := ((q.tr h3.f).tr g4).tr h5.f
            have := this.deep (s.deep + 1)
            simpa using this
          have q1 := h1.f.tr (q2.deep s.deep |> fun (g : Sf { s1 with deep := s.deep } { s5 with deep := s.deep } _ _) => (show Sf s1 s5.up (1 + cnt y + 1 + cnt z) 0 from by
            have e5 : s5.deep - 1 = s.deep := by have := h5.f.d; omega
            have : s5.up = { s5 with deep := s.deep } := by unfold PS.up; rw [e5]
            rw [this]
            have : s1 = { s1 with deep := s.deep } := by rw [← d1]
            rw [this]; exact g))
          refine Sf.le ?_ (Nat.le_refl _)
          simpa [Nat.add_assoc] using q1
        refine ⟨⟨Loc.of' (k := 0) (sl := [3, 3, 3]) (more := false) (m := 3) rfl (by rfl) (by simp) (.inl (by simp)) ⟨sortE h1.e, sortE h3.e, sortE h5.e, trivial⟩, h1.ok, h3.ok, h5.ok, trivial⟩, (by simp [isE, Nd.op]), ⟨nm0, h1.i, h3.i, h5.i, trivial⟩, ?_, ?_, ?_, ?_⟩
        · simp [dpN, dpL, h1.dp, h3.dp, h5.dp]
        · simp [stN, stL, h1.st, h3.st, h5.st]
        · refine hf.le ?_
          simp only [cnt, cntL]; omega
        · rw [nd35, needP_0 h1.ok]
          have n1 := h1.nd; have n3 := h3.nd; have n5 := h5.nd
          have p3 := Nat.zero_le (pd (decide (lvE y < 0)))
          have p0 : pd (decide (lvE (node 35 t [n, y, z]) < 0)) = 0 := by simp [pd]
          rw [p0]
          omega
      · subst e7
        refine Gd.ite (fun _ => ih.un _ s (.inl rfl) hd ha) fun _ => Gd.ite (fun _ => ih.un _ s (.inr rfl) hd ha) fun _ => ih.pr s hd ha
      · refine (ih.ex (lv + 1) s (by omega) hd ha).bind fun n s1 h1 => ?_
        exact ih.bi lv s n s1 (by omega) (by omega) hd ha (h1.low (by omega))
    · rw [unP]
      refine (gd_down _ _).bind fun t s2 ⟨hq, hne, ht, e2⟩ => ?_
      have hdn := down_sf hq
      have a2 : AllT s2 := by rw [e2]; exact hdn.a ha
      have d2 : s2.deep = s.deep + 1 := by rw [e2]
      refine (ih.ex 7 s2 (by decide) (by omega) a2).bind fun y s3 h3 => Gd.ret ?_
      have htx : t.text = w := by
        unfold nextB at hq
        simp only [Bool.and_eq_true, beq_iff_eq] at hq
        rw [ht]; exact hq.1
      have d3 : s3.deep - 1 = s.deep := by have := h3.f.d; omega
      have hf : Sf s s3.up (1 + cnt y) 0 := by
        have q : Sf { s with deep := s.deep + 1 } s2 1 0 := by rw [e2]; exact hdn
        have := (q.tr h3.f).deep s.deep
        have e : s3.up = { s3 with deep := s.deep } := by unfold PS.up; rw [d3]
        rw [e]; simpa using this
      refine ⟨⟨Loc.of' (k := 4) (sl := [3]) (more := false) (m := 1) rfl ?_ (by simp) (.inl (by simp)) ⟨sortE h3.e, trivial⟩, h3.ok, trivial⟩, (by simp [isE, Nd.op]), ⟨nm0, h3.i, trivial⟩, ?_, ?_, ?_, ?_⟩
      · rw [htx]; rcases hw with rfl | rfl <;> rfl
      · simp [dpN, dpL, h3.dp]
      · simp [stN, stL, h3.st]
      · simpa [cnt, cntL] using hf
      · rw [nd34]
        have e7 := needP_l (n := y) (lv := 7) (by decide) (by decide)
        rw [show ((7 : Nat) : Int) = 7 from rfl] at e7
        rw [e7]
        have n3 := h3.nd
        have p0 : pd (decide (lvE (texted 34 t [y]) < 7)) = 0 := by simp [pd, lvE, Nd.op]
        rw [p0]; omega
    · rw [binP]
      refine Gd.ite (fun hc => ?_) fun _ => Gd.ret hn
      obtain ⟨hk, hlv⟩ := hc
      have a1 := hn.f.a ha
      have g := sf_take (s := s) (by omega)
      have d1 : s.take.deep = s0.deep := (show s.take.deep = s.deep from rfl).trans hn.f.d
      refine (ih.ex (lv + 1) s.take (by omega) (by omega) (g.a a1)).bind fun m s' hm => ?_
      refine ih.bi lv s0 _ s' h1 h6 hd ha ?_
      have hf : Sf s0 s' (cnt n + 1 + cnt m) 0 := (hn.f.tr g).tr hm.f
      have lvN : lvE (texted 33 s.hd [n, m]) = lv := by
        show (if (33 : Int) = 35 then 0 else if (33 : Int) = 33 then (levelI s.hd.text).toNat else 7) = lv
        rw [if_neg (by decide), if_pos rfl, hlv]; simp
      refine ⟨⟨Loc.of' (k := 3) (sl := [3, 3]) (more := false) (m := 2) rfl ?_ (by simp) (.inl (by simp)) ⟨sortE hn.e, sortE hm.e, trivial⟩, hn.ok, hm.ok, trivial⟩, (by simp [isE, Nd.op]), ⟨by decide, hn.i, hm.i, trivial⟩, ?_, ?_, ?_, ?_⟩
      · show decide (levelI s.hd.text > 0) = true
        rw [hlv]; simp; omega
      · simp [dpN, dpL, hn.dp, hm.dp]
      · simp [stN, stL, hn.st, hm.st]
      · refine hf.le ?_
        simp only [cnt, cntL]; omega
      · rw [lvN, nd33, hlv, needP_l (n := n) h1 (by omega), needP_r (n := m) h6]
        have n1 := hn.nd; have n2 := hm.nd
        have p0 : pd (decide (lv < lv)) = 0 := by simp [pd]
        rw [p0]; omega
    · rw [primP]
      refine Gd.ite (fun hk => Gd.ret ?_) fun _ => Gd.ite (fun hq => ?_) fun _ => Gd.ite (fun hb => ?_) fun _ => Gd.ite (fun hq => ?_) fun _ => Gd.ite (fun hq => Gd.ret ?_) fun _ => ?_
      · have := hd_num ha hk
        exact PE.leaf ⟨Loc.of' (k := 0) (sl := []) (more := false) (m := 0) rfl rfl (by simp) (.inl (by simp)) trivial rfl (fun _ => by omega), trivial⟩ (by decide) (by decide) (by decide) (by decide) (by decide) ⟨by omega, .inl rfl⟩ (sf_take (by omega)) hd
      · refine (gd_down _ _).bind fun t s2 ⟨hq, hne, ht, e2⟩ => ?_
        have hdn := down_sf hq
        have a2 : AllT s2 := by rw [e2]; exact hdn.a ha
        have d2 : s2.deep = s.deep + 1 := by rw [e2]
        refine (ih.ex 0 s2 (by decide) (by omega) a2).bind fun y s3 h3 => ?_
        refine (gd_up _ _).bind fun _ s4 ⟨hu, e4⟩ => Gd.ret ?_
        subst e4
        have d3 : s3.deep - 1 = s.deep := by have := h3.f.d; omega
        have g4 := sf_take (next_k hu)
        have hf : Sf s s3.take.up (1 + cnt y + 1) 0 := by
          have q : Sf { s with deep := s.deep + 1 } s2 1 0 := by rw [e2]; exact hdn
          have := ((q.tr h3.f).tr g4).deep s.deep
          have e : s3.take.up = { s3.take with deep := s.deep } := by unfold PS.up; rw [← d3]; rfl
          rw [e]; simpa using this
        refine ⟨h3.ok, h3.e, h3.i, h3.dp, h3.st, hf.le (by omega), ?_⟩
        have := h3.nd
        have := pd_le1 (decide (lvE y < 7))
        omega
      · have g := sf_take (s := s) (by omega)
        refine (ih.ar s.take hd (g.a ha)).bind fun l s' hl => Gd.ret ?_
        have hf : Sf s s' (1 + cntL l) 0 := by
          have := (g.deep (s.deep + 1)).tr hl.f
          have e : s' = { s' with deep := s.deep } := by
            have : s'.deep + 1 = s.deep + 1 := hl.f.d
            have : s'.deep = s.deep := by omega
            rw [← this]
          rw [e]
          have := this.deep s.deep
          simpa using this
        refine ⟨⟨Loc.of' (k := 5) (sl := [3]) (more := true) (m := 0) rfl ?_ (by simp) (.inr rfl) (srt_of fun n hn => sortE (hl.e n hn)), hl.ok⟩, (by simp [isE, Nd.op]), ⟨nm0, hl.i⟩, ?_, ?_, ?_, ?_⟩
        · show (isNameB s.hd.text || builtinL.contains s.hd.text) = true
          rw [hb.2]; simp
        · simp [dpN, hl.dp]
        · simp [stN, hl.st]
        · simpa [cnt] using hf
        · rw [ndo _ _ _ _ (by decide) (by decide) (by decide), if_pos (.inl rfl)]
          have n3 : s.deep + 1 + ndL l ≤ 20 := hl.nd
          have p0 : pd (decide (lvE (texted 36 s.hd l) < 7)) = 0 := by simp [pd, lvE, Nd.op]
          rw [p0]; omega
      · have g := sf_take (next_k hq)
        refine (gd_must _ _).bind fun _ s1 ⟨h1, _, e1⟩ => (gd_name _).bind fun t s2 ⟨h2, et, e2⟩ => (gd_must _ _).bind fun _ s3 ⟨h3, _, e3⟩ => Gd.ret ?_
        subst e1 e2 e3
        have hf := ((g.tr (sf_take (next_k h1))).tr (sf_take (named_k h2))).tr (sf_take (next_k h3))
        have hnm : isNameB t.text = true := by
          unfold namedB at h2; simp only [Bool.and_eq_true] at h2; rw [et]; exact h2.2
        exact PE.leaf ⟨Loc.of' (k := 1) (sl := []) (more := false) (m := 0) rfl hnm (by simp) (.inl (by simp)) trivial, trivial⟩ (by decide) (by decide) (by decide) (by decide) (by decide) (by decide) (hf.le (by omega)) hd
      · have hk : s.hd.kind ≠ 0 := by
          rcases Bool.or_eq_true_iff.1 hq with h | h <;> exact next_k h
        have ht : s.hd.text = [116, 105, 99, 107] ∨ s.hd.text = [109, 101] := by
          unfold nextB at hq
          simp only [Bool.or_eq_true, Bool.and_eq_true, beq_iff_eq] at hq
          rcases hq with h | h
          · exact .inl h.1
          · exact .inr h.1
        exact PE.leaf ⟨Loc.of' (k := 6) (sl := []) (more := false) (m := 0) rfl (by rcases ht with e | e <;> rw [e] <;> rfl) (by simp) (.inl (by simp)) trivial, trivial⟩ (by decide) (by decide) (by decide) (by decide) (by decide) (by decide) (sf_take hk) hd
      · refine (gd_name _).bind fun t s2 ⟨h2, et, e2⟩ => ?_
        subst e2
        have g := sf_take (named_k h2)
        have hnm : isNameB t.text = true := by
          unfold namedB at h2; simp only [Bool.and_eq_true] at h2; rw [et]; exact h2.2
        refine Gd.ite (fun hq => ?_) fun _ => Gd.ite (fun hq => ?_) fun _ => Gd.ret ?_
        · refine (ih.ar s.take hd (g.a ha)).bind fun l s' hl => Gd.ret ?_
          have hf : Sf s s' (1 + cntL l) 0 := by
            have := (g.deep (s.deep + 1)).tr hl.f
            have e : s' = { s' with deep := s.deep } := by
              have : s'.deep + 1 = s.deep + 1 := hl.f.d
              have : s'.deep = s.deep := by omega
              rw [← this]
            rw [e]
            have := this.deep s.deep
            simpa using this
          refine ⟨⟨Loc.of' (k := 5) (sl := [3]) (more := true) (m := 0) rfl ?_ (by simp) (.inr rfl) (srt_of fun n hn => sortE (hl.e n hn)), hl.ok⟩, (by simp [isE, Nd.op]), ⟨nm0, hl.i⟩, ?_, ?_, ?_, ?_⟩
          · show (isNameB t.text || builtinL.contains t.text) = true
            rw [hnm]; simp
          · simp [dpN, hl.dp]
          · simp [stN, hl.st]
          · simpa [cnt] using hf
          · rw [ndo _ _ _ _ (by decide) (by decide) (by decide), if_pos (.inl rfl)]
            have n3 : s.deep + 1 + ndL l ≤ 20 := hl.nd
            have p0 : pd (decide (lvE (texted 36 t l) < 7)) = 0 := by simp [pd, lvE, Nd.op]
            rw [p0]; omega
        · have g2 := sf_take (next_k hq)
          refine (gd_name _).bind fun u s3 ⟨h3, eu, e3⟩ => Gd.ret ?_
          subst e3
          have g3 := sf_take (named_k h3)
          have hnu : isNameB u.text = true := by
            unfold namedB at h3; simp only [Bool.and_eq_true] at h3; rw [eu]; exact h3.2
          refine ⟨⟨Loc.of' (k := 1) (sl := [6]) (more := false) (m := 1) rfl hnm (by simp) (.inl (by simp)) ⟨rfl, trivial⟩, ⟨Loc.of' (k := 1) (sl := []) (more := false) (m := 0) rfl hnu (by simp) (.inl (by simp)) trivial, trivial⟩, trivial⟩, (by simp [isE, Nd.op]), ⟨nm0, ⟨nm0, trivial⟩, trivial⟩, ?_, ?_, ?_, ?_⟩
          · simp [dpN, dpL]
          · simp [stN, stL]
          · have := (g.tr g2).tr g3
            refine Sf.le (k := 3) (by simpa using this) (by simp [cnt, cntL])
          · simp [ndN, ndL, pd, lvE, Nd.op]; exact hd
        · exact PE.leaf ⟨Loc.of' (k := 1) (sl := []) (more := false) (m := 0) rfl hnm (by simp) (.inl (by simp)) trivial, trivial⟩ (by decide) (by decide) (by decide) (by decide) (by decide) (by decide) g hd
    · rw [argsP]
      refine (gd_down _ _).bind fun t s2 ⟨hq, hne, ht, e2⟩ => ?_
      have hdn := down_sf hq
      have a2 : AllT s2 := by rw [e2]; exact hdn.a ha
      have d2 : s2.deep = s.deep + 1 := by rw [e2]
      have key : Gd (if nextB [41] s2 then retP [] s2 else (exP f 0 s2).bind fun n s => argsL f [n] s) (PA s2) := by
        refine Gd.ite (fun _ => Gd.ret (PA.nil (by omega))) fun _ => ?_
        refine (ih.ex 0 s2 (by decide) (by omega) a2).bind fun n s3 h3 => ?_
        exact ih.al s2 [n] s3 (by omega) a2 (PA.snoc (PA.nil (by omega)) Sf.rfl' h3)
      refine key.bind fun l s3 h3 => (gd_up _ _).bind fun _ s4 ⟨hu, e4⟩ => Gd.ret ?_
      subst e4
      have g4 := sf_take (next_k hu)
      refine ⟨h3.ok, h3.e, h3.i, h3.dp, h3.st, ?_, ?_⟩
      · have q : Sf { s with deep := s.deep + 1 } s2 1 0 := by rw [e2]; exact hdn
        have := ((q.tr h3.f).tr g4).deep (s.deep + 1)
        have e : ({ s3.take.up with deep := s3.take.up.deep + 1 } : PS) = { s3.take with deep := s.deep + 1 } := by
          have : s3.take.up.deep + 1 = s.deep + 1 := by
            show s3.deep - 1 + 1 = s.deep + 1
            have := h3.f.d; omega
          rw [this]; rfl
        rw [e]
        exact Sf.le (by simpa using this) (by omega)
      · have := h3.nd
        show s.deep + 1 + ndL l ≤ 20
        omega
    · rw [argsL]
      refine Gd.ite (fun hq => ?_) fun _ => Gd.ret hl
      have g := sf_take (next_k hq)
      have a1 := hl.f.a ha
      refine (ih.ex 0 s.take (by decide) (by show s.deep ≤ 20; have := hl.f.d; omega) (g.a a1)).bind fun n s3 h3 => ?_
      exact ih.al s0 _ s3 hd ha (hl.snoc (g.le (by omega)) h3)
end
end Go.Proofs.YtfpmgpblhhcpgaaGreatDoor.Hc.Syn
