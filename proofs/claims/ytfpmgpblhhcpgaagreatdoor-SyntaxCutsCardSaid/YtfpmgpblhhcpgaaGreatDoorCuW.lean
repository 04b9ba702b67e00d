/-
  The examples at the head of all statements.
-/
import Derived.Test.YtfpmgpblhhcpgaaGreatDoorVCut
import Derived.Test.YtfpmgpblhhcpgaaGreatDoorTok
import Derived.Test.YtfpmgpblhhcpgaaGreatDoorLexB
namespace Go.Proofs.YtfpmgpblhhcpgaaGreatDoor
set_option linter.unusedVariables false
set_option linter.unusedSimpArgs false
set_option maxRecDepth 100000
section
open Hc Hc.Lex Hc.Syn
variable {H : Heap}
mutual
def plainB : Nd → Bool
  | .nil => true
  | .mk _ tx nm l _ => decide (tx.length ≤ 1000) && decide (l.length ≤ 1000) && decide (0 ≤ nm) && decide (nm ≤ 1000) && plainL l
def plainL : List Nd → Bool
  | [] => true
  | n :: ns => plainB n && plainL ns
end
mutual
theorem plain_ok : ∀ {n : Nd}, plainB n = true → txtN n ∧ i64N n
  | .nil, _ => ⟨trivial, trivial⟩
  | .mk _ tx nm l _, h => by
    simp only [plainB, Bool.and_eq_true, decide_eq_true_eq] at h
    obtain ⟨g1, g2⟩ := plainL_ok h.2
    exact ⟨⟨by omega, by omega, g1⟩, ⟨by omega, by omega⟩, g2⟩
theorem plainL_ok : ∀ {l : List Nd}, plainL l = true → txtL l ∧ i64L l
  | [], _ => ⟨trivial, trivial⟩
  | n :: ns, h => by
    simp only [plainL, Bool.and_eq_true] at h
    obtain ⟨g1, g2⟩ := plain_ok h.1
    obtain ⟨k1, k2⟩ := plainL_ok h.2
    exact ⟨⟨g1, k1⟩, g2, k2⟩
end
abbrev exA : Txt := [115, 121, 115, 116, 101, 109, 32, 77, 32, 114, 101, 97, 100, 115, 32, 86, 32, 119, 114, 105, 116, 101, 115, 32, 80, 123, 80, 46, 120, 61, 80, 46, 120, 43, 86, 46, 120, 59, 125, 102, 117, 110, 99, 32, 102, 40, 97, 41, 123, 114, 101, 116, 117, 114, 110, 32, 97, 45, 40, 49, 45, 50, 41, 42, 45, 51, 59, 125]
abbrev exB : Txt := [115, 121, 115, 116, 101, 109, 32, 83, 32, 123, 32, 108, 101, 116, 32, 120, 32, 61, 32, 59, 32, 125]
abbrev exC : Txt := [115, 121, 115, 116, 101, 109, 32, 77, 32, 114, 101, 97, 100, 115, 32, 86, 32, 119, 114, 105, 116, 101, 115, 32, 80, 32, 123, 10, 9, 80, 46, 120, 32, 61, 32, 80, 46, 120, 32, 43, 32, 86, 46, 120, 59, 10, 125, 10, 102, 117, 110, 99, 32, 102, 40, 97, 41, 32, 123, 10, 9, 114, 101, 116, 117, 114, 110, 32, 97, 32, 45, 32, 40, 49, 32, 45, 32, 50, 41, 32, 42, 32, 45, 51, 59, 10, 125, 10]
def chkA : R Nd → Bool
  | some (.ok (.mk op tx nm [x, y] a, _)) => plainB (.mk op tx nm [x, y] a) && (printT (.mk op tx nm [x, y] a) == exC) && !sameB (.mk op tx nm [x, y] a) x
  | _ => false
def chkB : R Nd → Bool
  | some (.error (p, e)) => p == 19 && e == 100
  | _ => false
theorem exA_ok : chkA (parseS ⟨⟨exA⟩⟩) = true := by kernel_rfl
theorem exB_ok : chkB (parseS ⟨⟨exB⟩⟩) = true := by kernel_rfl
theorem exA_tree : ∃ op tx nm x y a s, parseS ⟨⟨exA⟩⟩ = some (.ok (.mk op tx nm [x, y] a, s)) ∧ (txtN (.mk op tx nm [x, y] a) ∧ i64N (.mk op tx nm [x, y] a)) ∧ printT (.mk op tx nm [x, y] a) = exC ∧ sameB (.mk op tx nm [x, y] a) x = false := by
  have h := exA_ok
  unfold chkA at h
  split at h
  · rename_i op tx nm x y a s e
    simp only [Bool.and_eq_true, beq_iff_eq, Bool.not_eq_true'] at h
    exact ⟨op, tx, nm, x, y, a, s, e, plain_ok h.1.1, h.1.2, h.2⟩
  · cases h
theorem exB_fault : ∃ p e, parseS ⟨⟨exB⟩⟩ = some (.error (p, e)) ∧ p = 19 ∧ e = 100 := by
  have h := exB_ok
  unfold chkB at h
  split at h
  · rename_i p e he
    simp only [Bool.and_eq_true, beq_iff_eq] at h
    exact ⟨p, e, he, h.1, h.2⟩
  · cases h
theorem s_fault_nil {k : Int × Int × Bool → Heap → Prop} (hk : k (0, 0, true) H) : CallT Pg fQb9 [.nilIface] (.tup [(.c (.int .i64)), (.c (.int .i64)), (.c .bool)]) H k := by
  refine cQck _ ?_
  unfold vQck
  exact .inl ⟨rfl, (Br_true _ _).2 hk⟩
theorem s_fault_at {g : Nat} {p e : Int} (hr : Row H g TQac [.int .i64 p, .int .i64 e]) {k : Int × Int × Bool → Heap → Prop} (hk : k (p, e, e != 0) H) : CallT Pg fQb9 [.iface TQaa (.pointer (some (adr g)))] (.tup [(.c (.int .i64)), (.c (.int .i64)), (.c .bool)]) H k := by
  refine cQck _ ?_
  unfold vQck
  refine .inr ⟨⟨_, _, rfl⟩, (Br_false _ _).2 (.inl ⟨some (adr g), rfl, ?_⟩)⟩
  simp only [Jn, Bool.not_true, Br_false, Option.isNone_some, NilCk_some, adr_add]
  exact Ld_int ((hr.cell 0).trans rfl) (Ld_int ((hr.cell 1).trans rfl) (Ld_int ((hr.cell 1).trans rfl) hk))
theorem ParOut.ok {lo : Nat} {s : ByteArray} {d : Option Addr} {v : Value} {n : Nd} {s' : PS} (h : ParOut lo H s d v) (e : parseS s = some (.ok (n, s'))) : v = .nilIface ∧ ∃ q, d = some (adr q) ∧ lo ≤ q ∧ Ow lo H n q := by
  unfold ParOut at h; rw [e] at h; exact h
theorem ParOut.err {lo : Nat} {s : ByteArray} {d : Option Addr} {v : Value} {p c : Int} (h : ParOut lo H s d v) (e : parseS s = some (.error (p, c))) : d = none ∧ ∃ g, v = .iface TQaa (.pointer (some (adr g))) ∧ lo ≤ g ∧ Row H g TQac [.int .i64 p, .int .i64 c] := by
  unfold ParOut at h; rw [e] at h; exact h
theorem s_shown (hg : GL H) {k : Bool → Heap → Prop} (hk : ∀ H', Ext H H' → k true H') : CallT Pg fQb7 [] (.one (.c .bool)) H k := by
  refine cQcj ?_
  unfold vQcj
  obtain ⟨op, tx, nm, x, y, a, s, eA, ⟨htx, hi⟩, hpr, hsm⟩ := exA_tree
  obtain ⟨p, e, eB, rfl, rfl⟩ := exB_fault
  refine s_Parse hg.ge hg.tab fun d1 v1 H1 hE1 ho1 => ?_
  obtain ⟨rfl, q, rfl, _, hq⟩ := ho1.ok eA
  have g1 := hg.ext hE1
  refine s_Parse g1.ge g1.tab fun d2 v2 H2 hE2 ho2 => ?_
  obtain ⟨rfl, g, rfl, _, hr⟩ := ho2.err eB
  have g2 := g1.ext hE2
  refine s_fault_at hr ?_
  obtain ⟨fp, ht, hnd, _⟩ := (hq.upd hE2 fun _ _ _ h => h).ex
  have ht0 := ht
  obtain ⟨b, L, qs, fl, hb, hrow, hv, hl, hfp⟩ := ht
  cases hb
  have hLl : L.len = 2 := by rw [hv.len, List.length_map, hl.len]; rfl
  refine Jn.mk (fun j H' => H2 = H' ∧ j = false) (fun kk hkk => ?_) ?_
  · refine .inl ⟨rfl, ?_⟩
    simp only [Bool.not_true, Br_false, Option.isNone_some, NilCk_some, adr_add]
    exact Ld_sl ((hrow.cell 3).trans rfl) (hkk _ _ ⟨rfl, by rw [hLl]; rfl⟩)
  rintro _ _ ⟨rfl, rfl⟩
  refine (Br_false _ _).2 ?_
  refine s_Print (q := some q) g2 ht0 htx hi fun H3 hE3 => ?_
  have ht3 := ht0.upd hE3 fun _ _ h => h
  refine s_Same (qa := some q) (qb := some q) ht3 hnd ht3 htx fun H4 hE4 => ?_
  have hE24 := hE3.trans hE4 fun _ _ h => h
  have ht4 := ht0.upd hE24 fun _ _ h => h
  have hrow4 := hE24.row hrow fun h => h
  have hv4 := hv.upd hE24 fun _ _ h => h
  obtain ⟨q1, qs1, f1, f2, hqs, _, hx, _⟩ := hl
  simp only [NilCk_some, adr_add]
  refine Ld_sl ((hrow4.cell 3).trans rfl) (IxA_vec hv4 (by decide) (by rw [hqs]; simp) fun ad hc _ => ?_)
  have hc : hcell H4 ad = some (ptrV q1) := hc.trans (by simp [hqs])
  refine Ld_ptr hc (s_Same (qa := some q) (qb := q1) ht4 hnd (hx.upd hE24 fun _ _ h => h) htx fun H5 hE5 => ?_)
  rw [hsm, sameB_refl, hpr]
  simp only [Jn]
  have hE : Ext H H5 := ((hE1.trans hE2 fun _ _ h => h).trans hE24 fun _ _ h => h).trans hE5 fun _ _ h => h
  refine Br_eqT rfl (Br_eqT rfl ?_)
  refine (Br_true _ _).2 ((Br_true _ _).2 ((Br_true _ _).2 ?_))
  exact (congrArg (fun b => k b H5) (beq_iff_eq.2 rfl)).mpr (hk H5 hE)
end
end Go.Proofs.YtfpmgpblhhcpgaaGreatDoor
namespace Go.Proofs.YtfpmgpblhhcpgaaGreatDoor.Hc.Syn
set_option linter.unusedVariables false
set_option linter.unusedSimpArgs false
set_option maxRecDepth 100000
section
open Go Hc Hc.Lex
section
variable {Q : Nat → Prop} {P : Nat} {t : Tk} {rest : List Tk}
def Stp (Q : Nat → Prop) (P : Nat) (t : Tk) (rest : List Tk) (s s' : PS) : Prop := ∃ h pre, s.toks = h :: pre ++ t :: rest ∧ s'.toks = h :: pre ++ [⟨0, [], P⟩] ∧ s.deep = s'.deep ∧ s.stmts = s'.stmts ∧ ∀ x ∈ h :: pre, Q x.at'
abbrev CodeOk (e : Int) : Prop := e = 100 ∨ e = 101 ∨ e = 102
def Fin (P : Nat) (s' : PS) : Prop := s'.toks = [⟨0, [], P⟩]
def EndR (P : Nat) {α : Type} (r' : R α) : Prop := r' = none ∨ (∃ e, CodeOk e ∧ r' = some (.error ((P : Int), e))) ∨ ∃ a s', r' = some (.ok (a, s')) ∧ Fin P s'
def RC (Q : Nat → Prop) (P : Nat) (t : Tk) (rest : List Tk) {α : Type} (r r' : R α) : Prop :=
  EndR P r' ∨ (∃ a s s', r = some (.ok (a, s)) ∧ r' = some (.ok (a, s')) ∧ Stp Q P t rest s s') ∨ (∃ (n : Nat) (e : Int), CodeOk e ∧ Q n ∧ r = some (.error ((n : Int), e)) ∧ r' = some (.error ((n : Int), e)))
structure OkC (Q : Nat → Prop) (P : Nat) (t : Tk) (rest : List Tk) {α : Type} (A : PS → R α) : Prop where
  st : ∀ {s s'}, Stp Q P t rest s s' → RC Q P t rest (A s) (A s')
  en : ∀ {s'}, Fin P s' → EndR P (A s')
structure OkK (Q : Nat → Prop) (P : Nat) (t : Tk) (rest : List Tk) {α : Type} (A : PS → R α) : Prop where
  st : ∀ {s s'}, Stp Q P t rest s s' → RC Q P t rest (A s) (A s')
variable {α β : Type} {A B : PS → R α} {F : α → PS → R β} {s s' : PS}
theorem Stp.hd (h : Stp Q P t rest s s') : s.hd = s'.hd := by
  obtain ⟨h, pre, h1, h2, _⟩ := h
  unfold PS.hd; rw [h1, h2]; rfl
theorem Stp.q (h : Stp Q P t rest s s') : Q s'.hd.at' := by
  obtain ⟨h, pre, h1, h2, _, _, h5⟩ := h
  have : s'.hd = h := by unfold PS.hd; rw [h2]; rfl
  rw [this]; exact h5 h (by simp)
theorem Stp.take (h : Stp Q P t rest s s') : Stp Q P t rest s.take s'.take ∨ Fin P s'.take := by
  obtain ⟨h, pre, h1, h2, h3, h4, h5⟩ := h
  cases pre with
  | nil => right; unfold Fin PS.take; rw [h2]; rfl
  | cons g pre => left; exact ⟨g, pre, by unfold PS.take; rw [h1]; rfl, by unfold PS.take; rw [h2]; rfl, h3, h4, fun x hx => h5 x (List.mem_cons_of_mem _ hx)⟩
theorem Fin.hd (h : Fin P s') : s'.hd = ⟨0, [], P⟩ := by unfold PS.hd; rw [h]; rfl
theorem Fin.next (h : Fin P s') (w : Txt) : nextB w s' = false := by unfold nextB; rw [h.hd]; simp
theorem Fin.named (h : Fin P s') : namedB s' = false := by unfold namedB; rw [h.hd]; simp
theorem Stp.next (h : Stp Q P t rest s s') (w : Txt) : nextB w s = nextB w s' := by unfold nextB; rw [h.hd]
theorem Stp.named (h : Stp Q P t rest s s') : namedB s = namedB s' := by unfold namedB; rw [h.hd]
theorem EndR.bind {r : R α} (h : EndR P r) (hF : ∀ a s', Fin P s' → EndR P (F a s')) : EndR P (r.bind F) := by
  rcases h with rfl | ⟨e, hc, rfl⟩ | ⟨a, s', rfl, hf⟩
  · exact .inl rfl
  · exact .inr (.inl ⟨e, hc, rfl⟩)
  · exact hF a s' hf
theorem RC.bind {r r' : R α} (h : RC Q P t rest r r') (hF : ∀ a, OkC Q P t rest (F a)) : RC Q P t rest (r.bind F) (r'.bind F) := by
  rcases h with h | ⟨a, s, s', rfl, rfl, hs⟩ | ⟨n, e, hc, hn, rfl, rfl⟩
  · exact .inl (h.bind fun a s' hf => (hF a).en hf)
  · exact (hF a).st hs
  · exact .inr (.inr ⟨n, e, hc, hn, rfl, rfl⟩)
theorem OkC.bind (h : OkC Q P t rest A) (hF : ∀ a, OkC Q P t rest (F a)) : OkC Q P t rest fun s => (A s).bind F :=
  ⟨fun hs => (h.st hs).bind hF, fun hf => (h.en hf).bind fun a s' hf => (hF a).en hf⟩
theorem OkC.ret (a : α) : OkC Q P t rest (retP a) := ⟨fun hs => .inr (.inl ⟨a, _, _, rfl, rfl, hs⟩), fun {s'} hf => .inr (.inr ⟨a, s', rfl, hf⟩)⟩
theorem OkC.fail (e : Int) (hc : CodeOk e := by decide) : OkC Q P t rest (failP (α := α) e) := ⟨fun hs => .inr (.inr ⟨_, e, hc, hs.q, by unfold failP; rw [hs.hd], rfl⟩), fun hf => .inr (.inl ⟨e, hc, by unfold failP; rw [hf.hd]⟩)⟩
theorem OkC.k (h : OkC Q P t rest A) : OkK Q P t rest A := ⟨fun hs => h.st hs⟩
theorem OkK.hd {G : Tk → PS → R α} (h : ∀ x, OkK Q P t rest (G x)) : OkK Q P t rest fun s => G s.hd s := ⟨fun {s s'} hs => by
  show RC Q P t rest (G s.hd s) (G s'.hd s')
  rw [hs.hd]; exact (h _).st hs⟩
theorem OkK.take (h : OkC Q P t rest A) : OkK Q P t rest fun s => A s.take := ⟨fun hs => by
  rcases hs.take with g | g
  · exact h.st g
  · exact .inl (h.en g)⟩
theorem OkK.next (w : Txt) (hA : OkK Q P t rest A) (hB : OkK Q P t rest B) : OkK Q P t rest fun s => if nextB w s then A s else B s := ⟨fun {s s'} hs => by
  show RC Q P t rest (if nextB w s then A s else B s) (if nextB w s' then A s' else B s')
  rw [hs.next w]
  split
  · exact hA.st hs
  · exact hB.st hs⟩
theorem OkC.next (w : Txt) (hA : OkK Q P t rest A) (hB : OkC Q P t rest B) : OkC Q P t rest fun s => if nextB w s then A s else B s :=
  ⟨(OkK.next w hA hB.k).st, fun {s'} hf => by
    show EndR P (if nextB w s' then A s' else B s')
    rw [hf.next w]; exact hB.en hf⟩
theorem OkC.named (hA : OkK Q P t rest A) (hB : OkC Q P t rest B) : OkC Q P t rest fun s => if namedB s then A s else B s :=
  ⟨fun {s s'} hs => by
    show RC Q P t rest (if namedB s then A s else B s) (if namedB s' then A s' else B s')
    rw [hs.named]
    split
    · exact hA.st hs
    · exact hB.st hs, fun {s'} hf => by
    show EndR P (if namedB s' then A s' else B s')
    rw [hf.named]; exact hB.en hf⟩
theorem OkC.const {c : Prop} [Decidable c] (hA : OkC Q P t rest A) (hB : OkC Q P t rest B) : OkC Q P t rest fun s => if c then A s else B s := by
  split
  · exact hA
  · exact hB
theorem OkK.bind (h : OkK Q P t rest A) (hF : ∀ a, OkC Q P t rest (F a)) : OkK Q P t rest fun s => (A s).bind F := ⟨fun hs => (h.st hs).bind hF⟩
theorem OkC.congr (h : OkC Q P t rest A) (e : ∀ s, B s = A s) : OkC Q P t rest B := ⟨fun hs => by rw [e, e]; exact h.st hs, fun hf => by rw [e]; exact h.en hf⟩
theorem OkK.congr (h : OkK Q P t rest A) (e : ∀ s, B s = A s) : OkK Q P t rest B := ⟨fun hs => by rw [e, e]; exact h.st hs⟩
theorem kTk : OkK Q P t rest fun s => retP s.hd s.take := OkK.hd (G := fun x s => retP x s.take) fun x => OkK.take (A := retP x) (OkC.ret x)
theorem okMust (w : Txt) : OkC Q P t rest (mustP w) := OkC.next w kTk (OkC.fail 100)
theorem okName : OkC Q P t rest nameP := OkC.named kTk (OkC.fail 100)
theorem Stp.deep (h : Stp Q P t rest s s') {d d' : Int} (e : d = d') : Stp Q P t rest { s with deep := d } { s' with deep := d' } := by
  obtain ⟨h, pre, h1, h2, h3, h4, h5⟩ := h
  exact ⟨h, pre, h1, h2, e, h4, h5⟩
theorem okDown (w : Txt) : OkC Q P t rest (downP w) := by
  refine OkC.next w ⟨fun {s s'} hs => ?_⟩ (OkC.fail 100)
  have hd : s.deep = s'.deep := by obtain ⟨_, _, _, _, h3, _⟩ := hs; exact h3
  dsimp only
  rw [hd]
  split
  · exact (OkC.fail 101).st hs
  · rw [hs.hd]
    rcases hs.take with g | g
    · exact .inr (.inl ⟨_, _, _, rfl, rfl, g.deep rfl⟩)
    · exact .inl (.inr (.inr ⟨_, _, rfl, g⟩))
theorem okUpS (a : α) : OkC Q P t rest fun s => retP a s.up :=
  ⟨fun {s s'} hs => .inr (.inl ⟨a, _, _, rfl, rfl, hs.deep (by obtain ⟨_, _, _, _, h3, _⟩ := hs; rw [h3])⟩), fun {s'} hf => .inr (.inr ⟨a, s'.up, rfl, hf⟩)⟩
theorem okUp (w : Txt) : OkC Q P t rest (upP w) := (okMust w).bind fun _ => okUpS ()
structure CxE (Q : Nat → Prop) (P : Nat) (t : Tk) (rest : List Tk) (f : Nat) : Prop where
  ex : ∀ lv, OkC Q P t rest (exP f lv)
  un : ∀ w, OkC Q P t rest (unP f w)
  bi : ∀ lv n, OkC Q P t rest (binP f lv n)
  pr : OkC Q P t rest (primP f)
  ar : OkC Q P t rest (argsP f)
  al : ∀ l, OkC Q P t rest (argsL f l)
theorem okNone : OkC Q P t rest (fun _ => (none : R α)) := ⟨fun _ => .inl (.inl rfl), fun _ => .inl rfl⟩
theorem cxE : ∀ f, CxE Q P t rest f
  | 0 => ⟨fun _ => okNone.congr fun s => by rw [exP], fun _ => okNone.congr fun s => by rw [unP], fun _ _ => okNone.congr fun s => by rw [binP], okNone.congr fun s => by rw [primP], okNone.congr fun s => by rw [argsP], fun _ => okNone.congr fun s => by rw [argsL]⟩
  | f + 1 => by
    have ih := cxE f
    refine ⟨fun lv => ?_, fun w => ?_, fun lv n => ?_, ?_, ?_, fun l => ?_⟩
    · refine OkC.congr (A := fun s => if lv = 0 then (exP f 1 s).bind fun n s => if nextB [63] s then
        (downP [63] s).bind fun t s => (exP f 0 s).bind fun y s => (mustP [58] s).bind fun _ s => (exP f 0 s).bind fun z s => retP (node 35 t [n, y, z]) s.up
      else retP n s
    else if lv = 7 then (if nextB [45] s then unP f [45] s else if nextB [33] s then unP f [33] s else primP f s)
    else (exP f (lv + 1) s).bind fun n s => binP f lv n s) ?_ fun s => by rw [exP]
      refine OkC.const ?_ (OkC.const ?_ ?_)
      · refine (ih.ex 1).bind fun n => OkC.next [63] (OkC.k ?_) (OkC.ret n)
        exact (okDown _).bind fun t => (ih.ex 0).bind fun y => (okMust _).bind fun _ => (ih.ex 0).bind fun z => okUpS _
      · exact OkC.next _ (ih.un _).k (OkC.next _ (ih.un _).k ih.pr)
      · exact (ih.ex _).bind fun n => ih.bi lv n
    · refine OkC.congr (A := fun s => (downP w s).bind fun t s => (exP f 7 s).bind fun n s => retP (texted 34 t [n]) s.up) ?_ fun s => by rw [unP]
      exact (okDown w).bind fun t => (ih.ex 7).bind fun n => okUpS _
    · refine OkC.congr (A := fun s => if s.hd.kind = 3 ∧ levelI s.hd.text = lv then (exP f (lv + 1) s.take).bind fun m s' => binP f lv (texted 33 s.hd [n, m]) s' else retP n s) ?_ fun s => by rw [binP]
      refine ⟨fun {s s'} hs => ?_, fun {s'} hf => ?_⟩
      · have he := hs.hd
        try dsimp only
        rw [he]
        split
        · rcases hs.take with g | g
          · exact ((ih.ex _).st g).bind fun m => ih.bi lv _
          · exact .inl (((ih.ex _).en g).bind fun m s' hf => (ih.bi lv _).en hf)
        · exact (OkC.ret n).st hs
      · try dsimp only
        rw [if_neg (by rw [hf.hd]; simp)]
        exact (OkC.ret (Q := Q) (t := t) (rest := rest) n).en hf
    · refine OkC.congr (A := fun s => if s.hd.kind = 2 then retP (.mk 30 [] (decL 0 s.hd.text : Nat) [] (s.hd.at' : Nat)) s.take
    else if nextB [40] s then (downP [40] s).bind fun _ s => (exP f 0 s).bind fun n s => (upP [41] s).bind fun _ s => retP n s
    else if s.hd.kind = 1 ∧ builtinL.contains s.hd.text then (argsP f s.take).bind fun l s' => retP (texted 36 s.hd l) s'
    else if nextB [104, 97, 115] s then (mustP [40] s.take).bind fun _ s1 => (nameP s1).bind fun t s2 => (mustP [41] s2).bind fun _ s3 => retP (.mk 37 t.text 0 [] (s.hd.at' : Nat)) s3
    else if nextB [116, 105, 99, 107] s || nextB [109, 101] s then retP (texted 38 s.hd []) s.take
    else (nameP s).bind fun t s => if nextB [40] s then (argsP f s).bind fun l s => retP (texted 36 t l) s
      else if nextB [46] s then (nameP s.take).bind fun u s => retP (texted 32 t [texted 31 u []]) s
      else retP (texted 31 t []) s) ?_ fun s => by rw [primP]
      have hlast : OkC Q P t rest fun s => (nameP s).bind fun t s => if nextB [40] s then (argsP f s).bind fun l s => retP (texted 36 t l) s
        else if nextB [46] s then (nameP s.take).bind fun u s => retP (texted 32 t [texted 31 u []]) s
        else retP (texted 31 t []) s := okName.bind fun t => OkC.next _ (ih.ar.bind fun l => OkC.ret _).k (OkC.next _ (OkK.take (A := fun s => (nameP s).bind fun u s => retP (texted 32 t [texted 31 u []]) s) (okName.bind fun u => OkC.ret _)) (OkC.ret _))
      refine ⟨fun {s s'} hs => ?_, fun {s'} hf => ?_⟩
      · have he := hs.hd
        try dsimp only
        rw [he, hs.next [40], hs.next [104, 97, 115], hs.next [116, 105, 99, 107], hs.next [109, 101]]
        split
        · exact (OkK.take (A := retP _) (OkC.ret _)).st hs
        split
        · exact ((okDown _).bind fun _ => (ih.ex 0).bind fun n => (okUp _).bind fun _ => OkC.ret n).st hs
        split
        · exact (OkK.take (A := fun s => (argsP f s).bind fun l s' => retP (texted 36 _ l) s') (ih.ar.bind fun l => OkC.ret _)).st hs
        split
        · exact (OkK.take (A := fun s => (mustP [40] s).bind fun _ s1 => (nameP s1).bind fun t s2 => (mustP [41] s2).bind fun _ s3 => retP (Nd.mk 37 t.text 0 [] (s'.hd.at' : Nat)) s3) ((okMust _).bind fun _ => okName.bind fun t => (okMust _).bind fun _ => OkC.ret _)).st hs
        split
        · exact (OkK.take (A := retP _) (OkC.ret _)).st hs
        · exact hlast.st hs
      · try dsimp only
        rw [hf.next, hf.next, hf.next, hf.next, if_neg (by rw [hf.hd]; simp), if_neg (by simp), if_neg (by rw [hf.hd]; simp), if_neg (by simp), if_neg (by simp)]
        exact hlast.en hf
    · refine OkC.congr (A := fun s => (downP [40] s).bind fun _ s => (if nextB [41] s then retP [] s else (exP f 0 s).bind fun n s => argsL f [n] s).bind fun l s => (upP [41] s).bind fun _ s => retP l s) ?_ fun s => by rw [argsP]
      exact (okDown _).bind fun _ => OkC.bind (A := fun s => if nextB [41] s then retP [] s else (exP f 0 s).bind fun n s => argsL f [n] s) (OkC.next _ (OkC.ret _).k ((ih.ex 0).bind fun n => ih.al _)) fun l => (okUp _).bind fun _ => OkC.ret l
    · refine OkC.congr (A := fun s => if nextB [44] s then (exP f 0 s.take).bind fun n s => argsL f (l ++ [n]) s else retP l s) ?_ fun s => by rw [argsL]
      exact OkC.next _ (OkK.take (A := fun s => (exP f 0 s).bind fun n s => argsL f (l ++ [n]) s) ((ih.ex 0).bind fun n => ih.al _)) (OkC.ret l)
theorem okEnd (n : Nd) : OkC Q P t rest (endP n) := (okMust _).bind fun _ => OkC.ret n
theorem okPartL (F : Nat) : ∀ (f : Nat) (l : List Nd), OkC Q P t rest (partL F f l)
  | 0, _ => okNone.congr fun s => by rw [partL]
  | f + 1, l => by
    refine OkC.congr (A := fun s => if nextB [125] s then retP l s else
    (nameP s).bind fun t s => (mustP [58] s).bind fun _ s => (exP F 0 s).bind fun n s =>
      (if nextB [125] s then retP () s else (mustP [44] s).bind fun _ s => if namedB s then retP () s else failP 100 s).bind fun _ s => partL F f (l ++ [texted 24 t [n]]) s) ?_ fun s => by rw [partL]
    refine OkC.next _ (OkC.ret l).k (okName.bind fun t => (okMust _).bind fun _ => ((cxE F).ex 0).bind fun n => OkC.bind (A := fun s => if nextB [125] s then retP () s else (mustP [44] s).bind fun _ s => if namedB s then retP () s else failP 100 s) ?_ fun _ => okPartL F f _)
    exact OkC.next _ (OkC.ret ()).k ((okMust _).bind fun _ => OkC.named (OkC.ret ()).k (OkC.fail 100))
theorem okPart (F : Nat) : OkC Q P t rest (partP F) := okName.bind fun t => (okDown _).bind fun _ => (okPartL F F []).bind fun l => (okUp _).bind fun _ => OkC.ret _
theorem kHd {G : Tk → PS → R α} (h : ∀ x, OkC Q P t rest (G x)) : OkK Q P t rest fun s => G s.hd s.take := OkK.hd (G := fun x s => G x s.take) fun x => OkK.take (h x)
theorem kLet (F : Nat) : OkK Q P t rest (letP F) := kHd (G := fun x s => (nameP s).bind fun t s1 => (mustP [61] s1).bind fun _ s2 => (exP F 0 s2).bind fun n s3 => endP (.mk 10 t.text 0 [n] (x.at' : Nat)) s3) fun x => okName.bind fun t => (okMust _).bind fun _ => ((cxE F).ex 0).bind fun n => okEnd _
theorem kSet (F : Nat) : OkK Q P t rest (setP F) := kHd (G := fun x s => if nextB [46] s then (nameP s.take).bind fun u s1 => (mustP [61] s1).bind fun _ s2 => (exP F 0 s2).bind fun n s3 => endP (texted 12 x [texted 31 u [], n]) s3
  else (mustP [61] s).bind fun _ s2 => (exP F 0 s2).bind fun n s3 => endP (texted 11 x [n]) s3) fun x => OkC.next _ (OkK.take (A := fun s => (nameP s).bind fun u s1 => (mustP [61] s1).bind fun _ s2 => (exP F 0 s2).bind fun n s3 => endP (texted 12 x [texted 31 u [], n]) s3) (okName.bind fun u => (okMust _).bind fun _ => ((cxE F).ex 0).bind fun n => okEnd _)) ((okMust _).bind fun _ => ((cxE F).ex 0).bind fun n => okEnd _)
theorem kEmit (F : Nat) : OkK Q P t rest (emitP F) := kHd (G := fun x s => (exP F 0 s).bind fun a s1 => (mustP [44] s1).bind fun _ s2 => (exP F 0 s2).bind fun b s3 => endP (node 16 x [a, b]) s3) fun x => ((cxE F).ex 0).bind fun a => (okMust _).bind fun _ => ((cxE F).ex 0).bind fun b => okEnd _
theorem okSpawnL (F : Nat) : ∀ (f : Nat) (l : List Nd), OkC Q P t rest (spawnL F f l)
  | 0, _ => okNone.congr fun s => by rw [spawnL]
  | f + 1, l => by
    refine OkC.congr (A := fun s => if nextB [44] s then (partP F s.take).bind fun n s => spawnL F f (l ++ [n]) s else retP l s) ?_ fun s => by rw [spawnL]
    exact OkC.next _ (OkK.take (A := fun s => (partP F s).bind fun n s => spawnL F f (l ++ [n]) s) ((okPart F).bind fun n => okSpawnL F f _)) (OkC.ret l)
theorem kSpawn (F : Nat) : OkK Q P t rest (spawnP F) := kHd (G := fun x s => if nextB [59] s then retP (node 17 x []) s.take else (partP F s).bind fun n s1 => (spawnL F F [n] s1).bind fun l s2 => endP (node 17 x l) s2) fun x => OkC.next _ (OkK.take (OkC.ret _)) ((okPart F).bind fun n => (okSpawnL F F _).bind fun l => okEnd _)
theorem kAdd (F : Nat) : OkK Q P t rest (addP F) := kHd (G := fun x s => (partP F s).bind fun n s1 => endP (node 18 x [n]) s1) fun x => (okPart F).bind fun n => okEnd _
theorem kRemove : OkK Q P t rest removeP := kHd (G := fun x s => (nameP s).bind fun t s1 => endP (.mk 19 t.text 0 [] (x.at' : Nat)) s1) fun x => okName.bind fun t => okEnd _
theorem kShort : OkK Q P t rest shortP := ⟨fun {s s'} hs => by
  unfold shortP
  rw [hs.next, hs.hd]
  exact (OkK.take (okEnd _)).st hs⟩
theorem kAnswer (F : Nat) : OkK Q P t rest (answerP F) := kHd (G := fun x s => (exP F 0 s).bind fun n s1 => endP (node 22 x [n]) s1) fun x => ((cxE F).ex 0).bind fun n => okEnd _
theorem Stp.more (h : Stp Q P t rest s s') : Stp Q P t rest s.more s'.more := by
  obtain ⟨h, pre, h1, h2, h3, h4, h5⟩ := h
  exact ⟨h, pre, h1, h2, h3, by show s.stmts + 1 = s'.stmts + 1; rw [h4], h5⟩
theorem OkK.more (h : OkK Q P t rest A) : OkK Q P t rest fun s => A s.more := ⟨fun hs => h.st hs.more⟩
structure CxS (Q : Nat → Prop) (P : Nat) (t : Tk) (rest : List Tk) (F f : Nat) : Prop where
  bl : OkC Q P t rest (blockP F f)
  sl : ∀ l, OkC Q P t rest (stmtsL F f l)
  st : OkC Q P t rest (stmtP F f)
  br : OkK Q P t rest (branchP F f)
  tu : OkK Q P t rest (turnsP F f)
theorem cxS (F : Nat) : ∀ f, CxS Q P t rest F f
  | 0 => ⟨okNone.congr fun s => by rw [blockP], fun _ => okNone.congr fun s => by rw [stmtsL], okNone.congr fun s => by rw [stmtP], okNone.k.congr fun s => by rw [branchP], okNone.k.congr fun s => by rw [turnsP]⟩
  | f + 1 => by
    have ih := cxS F f
    have hbr : OkK Q P t rest (branchP F (f + 1)) := by
      refine OkK.congr (A := fun s => (exP F 0 s.take).bind fun c s1 => (blockP F f s1).bind fun b s2 => if nextB [101, 108, 115, 101] s2 then
      (if nextB [105, 102] s2.take then (limitP s2.stmts 200 s2.take).bind fun _ s3 => (branchP F f s3.more).bind fun e s4 => retP (node 13 s.hd [c, b, e]) s4
       else (blockP F f s2.take).bind fun e s4 => retP (node 13 s.hd [c, b, e]) s4)
    else retP (node 13 s.hd [c, b]) s2) ?_ fun s => by rw [branchP]
      refine kHd (G := fun x s => (exP F 0 s).bind fun c s1 => (blockP F f s1).bind fun b s2 => if nextB [101, 108, 115, 101] s2 then
      (if nextB [105, 102] s2.take then (limitP s2.stmts 200 s2.take).bind fun _ s3 => (branchP F f s3.more).bind fun e s4 => retP (node 13 x [c, b, e]) s4
       else (blockP F f s2.take).bind fun e s4 => retP (node 13 x [c, b, e]) s4)
    else retP (node 13 x [c, b]) s2) fun x => ((cxE F).ex 0).bind fun c => ih.bl.bind fun b => OkC.next _ ⟨fun {s s'} hs => ?_⟩ (OkC.ret _)
      have hst : s.stmts = s'.stmts := by obtain ⟨_, _, _, _, _, h4, _⟩ := hs; exact h4
      have hel : OkC Q P t rest fun s => (blockP F f s).bind fun e s4 => retP (node 13 x [c, b, e]) s4 := ih.bl.bind fun e => OkC.ret _
      rcases hs.take with g | g
      · try dsimp only
        rw [g.next, hst]
        split
        · unfold limitP
          split
          · exact .inr (.inr ⟨_, _, by decide, g.q, by show some (Except.error _) = some (Except.error _); rw [g.hd], rfl⟩)
          · show RC Q P t rest ((branchP F f s.take.more).bind fun e s4 => retP (node 13 x [c, b, e]) s4) ((branchP F f s'.take.more).bind fun e s4 => retP (node 13 x [c, b, e]) s4)
            exact RC.bind (ih.br.more.st g) fun e => OkC.ret _
        · exact hel.st g
      · left
        try dsimp only
        rw [g.next, if_neg (by decide)]
        exact hel.en g
    have htu : OkK Q P t rest (turnsP F (f + 1)) := by
      refine OkK.congr (A := fun s => (exP F 0 s.take).bind fun c s1 => (blockP F f s1).bind fun b s2 => retP (node (if nextB [119, 104, 105, 108, 101] s then 14 else 15) s.hd [c, b]) s2) ?_ fun s => by rw [turnsP]
      refine ⟨fun {s s'} hs => ?_⟩
      try dsimp only
      rw [hs.next, hs.hd]
      exact (OkK.take (A := fun s => (exP F 0 s).bind fun c s1 => (blockP F f s1).bind fun b s2 => retP (node (if nextB [119, 104, 105, 108, 101] s' then 14 else 15) s'.hd [c, b]) s2) (((cxE F).ex 0).bind fun c => ih.bl.bind fun b => OkC.ret _)).st hs
    refine ⟨?_, fun l => ?_, ?_, hbr, htu⟩
    · refine OkC.congr (A := fun s => (downP [123] s).bind fun t s => (stmtsL F f [] s).bind fun l s => (upP [125] s).bind fun _ s => retP (node 5 t l) s) ?_ fun s => by rw [blockP]
      exact (okDown _).bind fun t => (ih.sl []).bind fun l => (okUp _).bind fun _ => OkC.ret _
    · refine OkC.congr (A := fun s => if nextB [125] s then retP l s else (stmtP F f s).bind fun n s => stmtsL F f (l ++ [n]) s) ?_ fun s => by rw [stmtsL]
      exact OkC.next _ (OkC.ret l).k (ih.st.bind fun n => ih.sl _)
    · refine OkC.congr (A := fun s => if s.hd.kind ≠ 1 ∨ (startsN s.hd.text = 0 ∧ namedB s = false) then failP 100 s else (limitP s.stmts 200 s).bind fun _ s =>
      match startsN s.hd.text with
      | 161 => letP F s.more
      | 162 => branchP F f s.more
      | 163 => turnsP F f s.more
      | 164 => emitP F s.more
      | 165 => spawnP F s.more
      | 166 => addP F s.more
      | 167 => removeP s.more
      | 168 => shortP s.more
      | 169 => answerP F s.more
      | _ => setP F s.more) ?_ fun s => by rw [stmtP] <;> rfl
      refine ⟨fun {s s'} hs => ?_, fun {s'} hf => ?_⟩
      · try dsimp only
        have hst : s.stmts = s'.stmts := by obtain ⟨_, _, _, _, _, h4, _⟩ := hs; exact h4
        rw [hs.hd, hs.named, hst]
        split
        · exact (OkC.fail 100).st hs
        · unfold limitP
          split
          · exact .inr (.inr ⟨_, _, by decide, hs.q, by show some (Except.error _) = some (Except.error _); rw [hs.hd], rfl⟩)
          · show RC Q P t rest (match startsN s.hd.text with
              | 161 => letP F s.more
              | 162 => branchP F f s.more
              | 163 => turnsP F f s.more
              | 164 => emitP F s.more
              | 165 => spawnP F s.more
              | 166 => addP F s.more
              | 167 => removeP s.more
              | 168 => shortP s.more
              | 169 => answerP F s.more
              | _ => setP F s.more) (match startsN s'.hd.text with
              | 161 => letP F s'.more
              | 162 => branchP F f s'.more
              | 163 => turnsP F f s'.more
              | 164 => emitP F s'.more
              | 165 => spawnP F s'.more
              | 166 => addP F s'.more
              | 167 => removeP s'.more
              | 168 => shortP s'.more
              | 169 => answerP F s'.more
              | _ => setP F s'.more)
            rw [hs.hd]
            split
            · exact (kLet F).more.st hs
            · exact ih.br.more.st hs
            · exact ih.tu.more.st hs
            · exact (kEmit F).more.st hs
            · exact (kSpawn F).more.st hs
            · exact (kAdd F).more.st hs
            · exact kRemove.more.st hs
            · exact kShort.more.st hs
            · exact (kAnswer F).more.st hs
            · exact (kSet F).more.st hs
      · try dsimp only
        rw [if_pos (.inl (by rw [hf.hd]; show (0 : Nat) ≠ 1; decide))]
        exact (OkC.fail (Q := Q) (t := t) (rest := rest) 100).en hf
theorem okNames (most : Int) : ∀ (f : Nat) (l : List Nd), OkC Q P t rest (namesL most f l)
  | 0, _ => okNone.congr fun s => by rw [namesL]
  | f + 1, l => by
    refine OkC.congr (A := fun s => if namedB s then (limitP (l.length : Nat) most s).bind fun _ s => if nextB [44] s.take then namesL most f (l ++ [texted 31 s.hd []]) s.take.take else retP (l ++ [texted 31 s.hd []]) s.take else failP 100 s) ?_ fun s => by rw [namesL]
    refine OkC.named ⟨fun {s s'} hs => ?_⟩ (OkC.fail 100)
    unfold limitP
    split
    · exact .inr (.inr ⟨_, _, by decide, hs.q, by show some (Except.error _) = some (Except.error _); rw [hs.hd], rfl⟩)
    · exact (kHd (G := fun x s => if nextB [44] s then namesL most f (l ++ [texted 31 x []]) s.take else retP (l ++ [texted 31 x []]) s) fun x => OkC.next _ (OkK.take (okNames most f _)) (OkC.ret _)).st hs
theorem okClauses (F : Nat) : ∀ (ws : List Txt) (l : List Nd), OkC Q P t rest (clausesP F ws l)
  | [], l => (OkC.ret l).congr fun s => by rw [clausesP]
  | w :: ws, l => by
    refine OkC.congr (A := fun s => if nextB w s then (namesL (-1) F [] s.take).bind fun c s1 => clausesP F ws (l ++ [.mk 3 w 0 c (s.hd.at' : Nat)]) s1 else clausesP F ws (l ++ [.mk 3 w 0 [] (-1)]) s) ?_ fun s => by rw [clausesP]
    exact OkC.next _ (kHd (G := fun x s => (namesL (-1) F [] s).bind fun c s1 => clausesP F ws (l ++ [.mk 3 w 0 c (x.at' : Nat)]) s1) fun x => (okNames _ F []).bind fun c => okClauses F ws _) (okClauses F ws _)
theorem kSystem (F : Nat) : OkK Q P t rest (systemP F) := kHd (G := fun x s => (nameP s).bind fun t s1 => (clausesP F clauseW [] s1).bind fun l s2 => (blockP F F s2).bind fun b s3 => retP (Nd.mk 2 t.text 0 (l.map (Nd.fix b.place) ++ [b]) (x.at' : Nat)) s3) fun x => okName.bind fun t => (okClauses F _ _).bind fun l => (cxS F F).bl.bind fun b => OkC.ret _
theorem kFunction (F : Nat) : OkK Q P t rest (functionP F) := kHd (G := fun x s => (nameP s).bind fun t s1 => (mustP [40] s1).bind fun u s2 => (if nextB [41] s2 then retP [] s2 else namesL 4 F [] s2).bind fun c s3 => (mustP [41] s3).bind fun _ s4 => (blockP F F s4).bind fun b s5 => retP (Nd.mk 4 t.text 0 [Nd.mk 3 [102, 117, 110, 99] 0 c (u.at' : Nat), b] (x.at' : Nat)) s5) fun x => okName.bind fun t => (okMust _).bind fun u => OkC.bind (A := fun s2 => if nextB [41] s2 then retP [] s2 else namesL 4 F [] s2) (OkC.next _ (OkC.ret _).k (okNames _ _ _)) fun c => (okMust _).bind fun _ => (cxS F F).bl.bind fun b => OkC.ret _
theorem okProgramL (F : Nat) : ∀ (f : Nat) (a b : Int) (l : List Nd), OkK Q P t rest (programL F f a b l) ∧ ∀ {s'}, Fin P s' → EndR P (programL F f a b l s')
  | 0, a, b, l => ⟨okNone.k.congr fun s => by rw [programL], fun _ => by rw [programL]; exact .inl rfl⟩
  | f + 1, a, b, l => by
    refine ⟨⟨fun {s s'} hs => ?_⟩, fun {s'} hf => ?_⟩
    · rw [programL, programL, hs.hd, hs.next [115, 121, 115, 116, 101, 109], hs.next [102, 117, 110, 99]]
      have nx : ∀ (a b : Int) (n : Nd), OkC Q P t rest (programL F f a b (l ++ [n])) := fun a b n => ⟨(okProgramL F f a b _).1.st, (okProgramL F f a b _).2⟩
      split
      · exact (OkC.ret l).st hs
      split
      · unfold limitP
        split
        · exact .inr (.inr ⟨_, _, by decide, hs.q, by show some (Except.error _) = some (Except.error _); rw [hs.hd], rfl⟩)
        · show RC Q P t rest ((systemP F s).bind fun n s => programL F f (a + 1) b (l ++ [n]) s) ((systemP F s').bind fun n s => programL F f (a + 1) b (l ++ [n]) s)
          exact RC.bind ((kSystem F).st hs) fun n => nx _ _ n
      split
      · unfold limitP
        split
        · exact .inr (.inr ⟨_, _, by decide, hs.q, by show some (Except.error _) = some (Except.error _); rw [hs.hd], rfl⟩)
        · show RC Q P t rest ((functionP F s).bind fun n s => programL F f a (b + 1) (l ++ [n]) s) ((functionP F s').bind fun n s => programL F f a (b + 1) (l ++ [n]) s)
          exact RC.bind ((kFunction F).st hs) fun n => nx _ _ n
      · exact (OkC.fail 100).st hs
    · rw [programL, if_pos (by rw [hf.hd])]
      exact (OkC.ret (Q := Q) (t := t) (rest := rest) l).en hf
theorem parse_rc {pre : List Tk} (hq : ∀ x ∈ pre, Q x.at') : RC Q P t rest (parseT (pre ++ t :: rest)) (parseT (pre ++ [⟨0, [], P⟩])) := by
  unfold parseT programP
  have hok := okProgramL (Q := Q) (P := P) (t := t) (rest := rest) fuelP fuelP 0 0 []
  cases pre with
  | nil => exact .inl (EndR.bind (hok.2 rfl) fun a s' hf => (OkC.ret (Q := Q) (t := t) (rest := rest) _).en hf)
  | cons g pre => exact RC.bind (hok.1.st ⟨g, pre, rfl, rfl, rfl, rfl, hq⟩) fun a => OkC.ret _
theorem parse_cut {pre : List Tk} (h2 : (pre ++ [(⟨0, [], P⟩ : Tk)]).length ≤ 9000) {e : Int} (h : parseT (pre ++ t :: rest) = some (.error ((P : Int), e))) :
    (∃ e', parseT (pre ++ [⟨0, [], P⟩]) = some (.error ((P : Int), e'))) ∨ ∃ x, parseT (pre ++ [⟨0, [], P⟩]) = some (.ok x) := by
  have hne := parseT_ne h2
  rcases parse_rc (Q := fun _ => True) (P := P) (t := t) (rest := rest) (pre := pre) (fun _ _ => trivial) with (g | ⟨e', hc, g⟩ | ⟨a, s', g, _⟩) | ⟨a, s, s', g, _⟩ | ⟨n, e', _, _, g, g'⟩
  · exact absurd g hne
  · exact .inl ⟨e', g⟩
  · exact .inr ⟨_, g⟩
  · rw [h] at g; cases g
  · rw [h] at g; cases g; exact .inl ⟨e, g'⟩
theorem parse_place {pre : List Tk} {z : Nat} (h2 : (pre ++ [(⟨0, [], z⟩ : Tk)]).length ≤ 9000) {p e : Int} (h : parseT (pre ++ [⟨0, [], z⟩]) = some (.error (p, e))) : CodeOk e ∧ (p = (z : Int) ∨ ∃ x ∈ pre, p = (x.at' : Int)) := by
  have hne := parseT_ne h2
  rcases parse_rc (Q := fun n => ∃ x ∈ pre, n = x.at') (P := z) (t := ⟨0, [], z⟩) (rest := []) (pre := pre) (fun x hx => ⟨x, hx, rfl⟩) with (g | ⟨e', hc, g⟩ | ⟨a, s', g, _⟩) | ⟨a, s, s', g, _⟩ | ⟨n, e', hc, ⟨x, hx, hn⟩, g, _⟩
  · exact absurd g hne
  · rw [h] at g; cases g; exact ⟨hc, .inl rfl⟩
  · rw [h] at g; cases g
  · rw [h] at g; cases g
  · rw [h] at g; cases g; exact ⟨hc, .inr ⟨x, hx, by rw [hn]⟩⟩
end
end
end Go.Proofs.YtfpmgpblhhcpgaaGreatDoor.Hc.Syn
namespace Go.Proofs.YtfpmgpblhhcpgaaGreatDoor.Hc.Lex
set_option linter.unusedVariables false
set_option linter.unusedSimpArgs false
inductive Skips : Bs → Bs → Prop where
  | nil (u : Bs) : Skips [] u
  | cons (g u : Bs) (n : Nat) (h : evL (g ++ u) = .skip n) (h1 : 1 ≤ n) (h2 : n ≤ g.length) (r : Skips (g.drop n) u) : Skips g u
theorem evL_skip_le {c : UInt8} {t : Bs} {n : Nat} (h : evL (c :: t) = .skip n) : 1 ≤ n ∧ n ≤ (c :: t).length := by
  unfold evL at h
  dsimp only at h
  split at h
  · simp only [Ev.skip.injEq] at h; subst h; simp
  · split at h
    · rename_i m hm
      simp only [Ev.skip.injEq] at h
      subst h
      have := remL_le hm
      omega
    · cases h
    · unfold tokE at h
      dsimp only at h
      repeat' split at h
      all_goals cases h
theorem evL_tok {c : UInt8} {t : Bs} {k n : Nat} (h : evL (c :: t) = .tok k n) : blankC c = false ∧ remL (c :: t) = .no ∧ tokE (c :: t) = .tok k n := by
  unfold evL at h
  dsimp only at h
  split at h
  · cases h
  · rename_i hb
    split at h
    · cases h
    · cases h
    · rename_i hr
      exact ⟨by simpa using hb, hr, h⟩
theorem hp_app2 {g u : Bs} {a b : UInt8} (h : 2 ≤ g.length) : Lib.hasPrefix (g ++ u) [a, b] = Lib.hasPrefix g [a, b] := by
  match g, h with
  | x :: y :: t, _ => rfl
theorem runL_trunc {p : UInt8 → Bool} : ∀ {g u : Bs}, runL p (g ++ u) ≤ g.length → runL p g = runL p (g ++ u)
  | [], u, h => by simp at h; simp [runL, h]
  | c :: g, u, h => by
    rw [List.cons_append] at h ⊢
    unfold runL at h ⊢
    cases hc : p c with
    | false => rfl
    | true =>
      rw [hc] at h
      simp only [cond_true, List.length_cons] at h ⊢
      rw [runL_trunc (g := g) (u := u) (by omega)]
theorem occ_app {g u sub : Bs} {i : Nat} (h : i + sub.length ≤ g.length) : Lib.occAt (g ++ u) sub i = Lib.occAt g sub i := by
  unfold Lib.occAt
  rw [List.drop_append_of_le_length (by omega)]
  rw [Bool.eq_iff_iff, List.isPrefixOf_iff_prefix, List.isPrefixOf_iff_prefix]
  constructor
  · intro hp
    exact List.prefix_of_prefix_length_le hp (List.prefix_append _ _) (by rw [List.length_drop]; omega)
  · intro hp
    exact hp.trans (List.prefix_append _ _)
theorem index_trunc {g u sub : Bs} (hs : sub ≠ []) {i : Nat} (h : Lib.index (g ++ u) sub = i) (hi : i + sub.length ≤ g.length) : Lib.index g sub = i := by
  rcases Lib.index_spec (g ++ u) sub with ⟨h1, _⟩ | ⟨j, h1, h2, h3, h4⟩
  · omega
  · have : j = i := by omega
    subst this
    refine Lib.index_first (by omega) (by rw [← occ_app hi]; exact h3) fun q hq => ?_
    rw [← occ_app (u := u) (by omega)]
    exact h4 q hq
theorem ev_trunc {g u : Bs} {n : Nat} (h : evL (g ++ u) = .skip n) (h1 : 1 ≤ n) (h2 : n ≤ g.length) : evL g = .skip n := by
  cases g with
  | nil => simp at h2; omega
  | cons c t =>
    rw [List.cons_append] at h
    unfold evL at h ⊢
    dsimp only at h ⊢
    split at h
    · rename_i hb; rw [if_pos hb]; exact h
    · rename_i hb
      rw [if_neg hb]
      split at h
      · rename_i m hm
        simp only [Ev.skip.injEq] at h
        subst h
        obtain ⟨_, g2⟩ := remL_le hm
        have hg2 : 2 ≤ (c :: t).length := by omega
        have hm' : remL (c :: t) = .to m := by
          rw [← List.cons_append] at hm
          unfold remL at hm ⊢
          rw [hp_app2 hg2, hp_app2 hg2] at hm
          split at hm
          · rename_i hq
            rw [if_pos hq]
            simp only [Rem.to.injEq] at hm
            rw [runL_trunc (by rw [hm]; exact h2), hm]
          · rename_i hq
            rw [if_neg hq]
            split at hm
            · rename_i hq2
              rw [if_pos hq2]
              split at hm
              · rename_i hq3
                simp only [Rem.to.injEq] at hm
                rw [List.drop_append_of_le_length hg2] at hm hq3
                have hi := index_trunc (g := (c :: t).drop 2) (u := u) (sub := [42, 47]) (i := (Lib.index ((c :: t).drop 2 ++ u) [42, 47]).toNat) (by simp) (by omega) (by simp only [List.length_drop, List.length_cons, List.length_nil] at *; omega)
                rw [hi, if_pos (by omega)]
                congr 1
              · cases hm
            · cases hm
        rw [hm']
      · cases h
      · unfold tokE at h
        dsimp only at h
        repeat' split at h
        all_goals cases h
def gapB (k : Nat) : Bs := match k with
  | 0 => [32]
  | 1 => [10]
  | 2 => [32, 47, 42, 32, 120, 32, 42, 47]
  | 3 => [9, 47, 47, 32, 121, 10]
  | _ => [13, 32]
def asm (γ : Nat → Nat) : Nat → List Tk → Bs
  | _, [] => []
  | i, t :: ts => gapB (γ i) ++ t.text ++ asm γ (i + 1) ts
inductive Chain : List Tk → Prop where
  | fin (p : Nat) : Chain [⟨0, [], p⟩]
  | tok (u : Bs) (k n p : Nat) (ts : List Tk) (h : evL u = .tok k n) (h1 : 1 ≤ n) (h2 : n ≤ u.length) (r : Chain ts) : Chain (⟨k, u.take n, p⟩ :: ts)
def sameT (a b : List Tk) : Prop := a.length = b.length ∧ ∀ i (h : i < a.length) (h' : i < b.length), a[i].kind = b[i].kind ∧ a[i].text = b[i].text
end Go.Proofs.YtfpmgpblhhcpgaaGreatDoor.Hc.Lex
namespace Go.Proofs.YtfpmgpblhhcpgaaGreatDoor.Hc.Lex
set_option linter.unusedVariables false
set_option linter.unusedSimpArgs false
end Go.Proofs.YtfpmgpblhhcpgaaGreatDoor.Hc.Lex
namespace Go.Proofs.YtfpmgpblhhcpgaaGreatDoor.Hc.Lex
set_option linter.unusedVariables false
set_option linter.unusedSimpArgs false
set_option maxRecDepth 100000
theorem hp_one {c a b : UInt8} : Lib.hasPrefix [c] [a, b] = false := by simp [Lib.hasPrefix, List.isPrefixOf]
theorem remL_trunc {c : UInt8} {t u : Bs} (h : remL (c :: (t ++ u)) = .no) : remL (c :: t) = .no := by
  cases t with
  | nil => unfold remL; rw [hp_one, hp_one]; rfl
  | cons d t =>
    have e : c :: ((d :: t) ++ u) = (c :: d :: t) ++ u := rfl
    rw [e] at h
    have h2 : 2 ≤ (c :: d :: t).length := by simp
    unfold remL at h ⊢
    rw [hp_app2 h2, hp_app2 h2] at h
    split at h
    · cases h
    · rename_i h3
      rw [if_neg h3]
      split at h
      · split at h <;> cases h
      · rename_i h4
        rw [if_neg h4]
theorem signL_trunc {c : UInt8} {t u : Bs} {n : Nat} (h : signL (c :: (t ++ u)) = n) (h2 : n ≤ (c :: t).length) : signL (c :: t) = n := by
  have e : c :: (t ++ u) = (c :: t) ++ u := rfl
  unfold signL at h ⊢
  cases t with
  | cons d t =>
    have h2 : 2 ≤ (c :: d :: t).length := by simp
    have ea : twos.any (fun s => Lib.hasPrefix (c :: ((d :: t) ++ u)) s) = twos.any (fun s => Lib.hasPrefix (c :: d :: t) s) := by
      rw [e]
      simp only [twos, List.any_cons, List.any_nil]
      simp only [hp_app2 h2]
    rw [ea] at h
    exact h
  | nil =>
    have ea : twos.any (fun s => Lib.hasPrefix [c] s) = false := by
      simp only [twos, List.any_cons, List.any_nil, hp_one, Bool.or_false]
    rw [ea, if_neg (by decide)]
    split at h
    · simp at h2; omega
    · exact h
theorem tok_trunc {g u : Bs} {k n : Nat} (h : evL (g ++ u) = .tok k n) (h1 : 1 ≤ n) (h2 : n ≤ g.length) : evL g = .tok k n := by
  cases g with
  | nil => simp at h2; omega
  | cons c t =>
    rw [List.cons_append] at h
    obtain ⟨hb, hr, ht⟩ := evL_tok h
    have hr' := remL_trunc hr
    have key : tokE (c :: t) = .tok k n := by
      have e : c :: (t ++ u) = (c :: t) ++ u := rfl
      unfold tokE at ht ⊢
      dsimp only at ht ⊢
      split at ht
      · rename_i hl
        rw [if_pos hl]
        split at ht
        · cases ht
        · rename_i h16
          simp only [Ev.tok.injEq] at ht
          obtain ⟨rfl, hn⟩ := ht
          rw [e] at hn h16
          have := runL_trunc (g := c :: t) (u := u) (p := wordC) (by rw [hn]; exact h2)
          rw [if_neg (by rw [this]; exact h16), this, hn]
      · rename_i hl
        rw [if_neg hl]
        split at ht
        · rename_i hd
          rw [if_pos hd]
          split at ht
          · cases ht
          · rename_i hv
            split at ht
            · cases ht
            · rename_i hbn
              simp only [Ev.tok.injEq] at ht
              obtain ⟨rfl, hn⟩ := ht
              rw [e] at hn hv hbn
              have hrun := runL_trunc (g := c :: t) (u := u) (p := digitC) (by rw [hn]; exact h2)
              rw [hrun, hn]
              rw [hn] at hv hbn
              have et : ((c :: t) ++ u).take n = (c :: t).take n := List.take_append_of_le_length h2
              rw [et] at hv
              rw [if_neg hv]
              rw [List.drop_append_of_le_length h2] at hbn
              have : badNext ((c :: t).drop n) = false := by
                cases hx : (c :: t).drop n with
                | nil => rfl
                | cons x y => rw [hx] at hbn; simpa [badNext] using hbn
              rw [this]; rfl
        · rename_i hd
          rw [if_neg hd]
          split at ht
          · cases ht
          · rename_i hs
            simp only [Ev.tok.injEq] at ht
            obtain ⟨rfl, hn⟩ := ht
            have := signL_trunc hn h2
            rw [this, if_neg (by omega)]
    unfold evL
    dsimp only
    rw [hb, hr', key]; rfl
theorem lex_at : ∀ (m : Nat) (r : Bs) (p : Nat) (ts : List Tk), r.length ≤ m → lexL p r = .ok ts → ∀ t ∈ ts, p ≤ t.at' ∧ t.at' ≤ p + r.length := by
  intro m
  induction m with
  | zero =>
    intro r p ts hm h t ht
    cases r with
    | nil => rw [lexL_nil] at h; cases h; rw [List.mem_singleton.1 ht]; exact ⟨Nat.le_refl _, Nat.le_add_right _ _⟩
    | cons c r => simp at hm
  | succ m ih =>
    intro r p ts hm h t ht
    cases r with
    | nil => rw [lexL_nil] at h; cases h; rw [List.mem_singleton.1 ht]; exact ⟨Nat.le_refl _, Nat.le_add_right _ _⟩
    | cons c r =>
      rw [lexL_cons] at h
      rw [List.length_cons] at hm ⊢
      split at h
      · rename_i n hn
        obtain ⟨h1, h2⟩ := evL_skip_le hn
        rw [List.length_cons] at h2
        have := ih _ _ _ (by rw [List.length_drop]; omega) h t ht
        rw [List.length_drop] at this
        omega
      · rename_i k n hn
        obtain ⟨_, _, h3⟩ := evL_tok hn
        obtain ⟨h1, h2⟩ := tokE_le h3
        rw [List.length_cons] at h2
        cases hr : lexL (p + n) (r.drop (n - 1)) with
        | error e => rw [hr] at h; cases h
        | ok l =>
          rw [hr] at h
          cases h
          rcases List.mem_cons.1 ht with rfl | ht
          · exact ⟨Nat.le_refl _, Nat.le_add_right _ _⟩
          · have := ih _ _ _ (by rw [List.length_drop]; omega) hr t ht
            rw [List.length_drop] at this
            omega
      · cases h
theorem lex_ne : ∀ (m : Nat) (r : Bs) (p : Nat) (ts : List Tk), r.length ≤ m → lexL p r = .ok ts → ts ≠ [] := by
  intro m
  induction m with
  | zero =>
    intro r p ts hm h
    cases r with
    | nil => rw [lexL_nil] at h; cases h; simp
    | cons c r => simp at hm
  | succ m ih =>
    intro r p ts hm h
    cases r with
    | nil => rw [lexL_nil] at h; cases h; simp
    | cons c r =>
      rw [lexL_cons] at h
      rw [List.length_cons] at hm
      split at h
      · rename_i n hn
        obtain ⟨h1, h2⟩ := evL_skip_le hn
        rw [List.length_cons] at h2
        exact ih _ _ _ (by rw [List.length_drop]; omega) h
      · cases hr : lexL (p + _) (r.drop (_ - 1)) with
        | error e => rw [hr] at h; cases h
        | ok l => rw [hr] at h; cases h; simp
      · cases h
theorem lex_cut : ∀ (m : Nat) (r : Bs) (p : Nat) (ts : List Tk), r.length ≤ m → lexL p r = .ok ts → ∀ (pr : List Tk) (t : Tk) (rest : List Tk), ts = pr ++ t :: rest → lexL p (r.take (t.at' - p)) = .ok (pr ++ [⟨0, [], t.at'⟩]) := by
  intro m
  induction m with
  | zero =>
    intro r p ts hm h pr t rest hts
    cases r with
    | nil =>
      rw [lexL_nil] at h; cases h
      cases pr with
      | nil => simp only [List.nil_append, List.cons.injEq] at hts; obtain ⟨rfl, _⟩ := hts; simp [lexL_nil]
      | cons x pr => simp at hts
    | cons c r => simp at hm
  | succ m ih =>
    intro r p ts hm h pr t rest hts
    cases r with
    | nil =>
      rw [lexL_nil] at h; cases h
      cases pr with
      | nil => simp only [List.nil_append, List.cons.injEq] at hts; obtain ⟨rfl, _⟩ := hts; simp [lexL_nil]
      | cons x pr => simp at hts
    | cons c r =>
      have hall := lex_at _ _ _ _ (Nat.le_refl _) h
      rw [lexL_cons] at h
      rw [List.length_cons] at hm
      split at h
      · rename_i n hn
        obtain ⟨h1, h2⟩ := evL_skip_le hn
        have hlen := h2
        rw [List.length_cons] at h2
        have hg := ih _ _ _ (by rw [List.length_drop]; omega) h pr t rest hts
        have hat := (lex_at _ _ _ _ (Nat.le_refl _) h t (by rw [hts]; simp))
        rw [List.length_drop] at hat
        have e : (c :: r).take (t.at' - p) = (c :: r.take (t.at' - p - 1)) := by
          obtain ⟨q, hq⟩ : ∃ q, t.at' - p = q + 1 := ⟨t.at' - p - 1, by omega⟩
          rw [hq]; rfl
        have hsplit : c :: r = (c :: r).take (t.at' - p) ++ (c :: r).drop (t.at' - p) := (List.take_append_drop _ _).symm
        have hn' : evL ((c :: r).take (t.at' - p)) = .skip n := by
          rw [hsplit] at hn
          exact ev_trunc hn h1 (by rw [List.length_take, List.length_cons]; omega)
        rw [e] at hn' ⊢
        rw [lexL_cons, hn']
        dsimp only
        have e2 : (r.take (t.at' - p - 1)).drop (n - 1) = (r.drop (n - 1)).take (t.at' - (p + n)) := by
          rw [List.drop_take]; congr 1; omega
        rw [e2]; exact hg
      · rename_i k n hn
        obtain ⟨_, _, h3⟩ := evL_tok hn
        obtain ⟨h1, h2⟩ := tokE_le h3
        rw [List.length_cons] at h2
        cases hr : lexL (p + n) (r.drop (n - 1)) with
        | error e => rw [hr] at h; cases h
        | ok l =>
          rw [hr] at h
          cases h
          cases pr with
          | nil =>
            simp only [List.nil_append, List.cons_append, List.cons.injEq] at hts
            obtain ⟨rfl, _⟩ := hts
            show lexL p ((c :: r).take (p - p)) = _
            rw [Nat.sub_self, List.take_zero, lexL_nil]; rfl
          | cons x pr =>
            simp only [List.nil_append, List.cons_append, List.cons.injEq] at hts
            obtain ⟨rfl, hts⟩ := hts
            have hg := ih _ _ _ (by rw [List.length_drop]; omega) hr pr t rest hts
            have hat := (lex_at _ _ _ _ (Nat.le_refl _) hr t (by rw [hts]; simp))
            rw [List.length_drop] at hat
            have e : (c :: r).take (t.at' - p) = (c :: r.take (t.at' - p - 1)) := by
              obtain ⟨q, hq⟩ : ∃ q, t.at' - p = q + 1 := ⟨t.at' - p - 1, by omega⟩
              rw [hq]; rfl
            have hsplit : c :: r = (c :: r).take (t.at' - p) ++ (c :: r).drop (t.at' - p) := (List.take_append_drop _ _).symm
            have hn' : evL ((c :: r).take (t.at' - p)) = .tok k n := by
              rw [hsplit] at hn
              exact tok_trunc hn h1 (by rw [List.length_take, List.length_cons]; omega)
            have etx : ((c :: r).take (t.at' - p)).take n = (c :: r).take n := by
              rw [List.take_take]; congr 1; omega
            rw [← etx]
            rw [e] at hn' ⊢
            rw [lexL_cons, hn']
            dsimp only
            have e2 : (r.take (t.at' - p - 1)).drop (n - 1) = (r.drop (n - 1)).take (t.at' - (p + n)) := by
              rw [List.drop_take]; congr 1; omega
            rw [e2, hg]; rfl
      · cases h
theorem lex_end : ∀ (m : Nat) (r : Bs) (p : Nat) (ts : List Tk), r.length ≤ m → lexL p r = .ok ts → ∀ i z, ts = i ++ [z] → z = ⟨0, [], p + r.length⟩ := by
  intro m
  induction m with
  | zero =>
    intro r p ts hm h i z hts
    cases r with
    | nil =>
      rw [lexL_nil] at h; cases h
      cases i with
      | nil => simp only [List.nil_append, List.cons.injEq, and_true] at hts; rw [← hts]; rfl
      | cons x i => simp at hts
    | cons c r => simp at hm
  | succ m ih =>
    intro r p ts hm h i z hts
    cases r with
    | nil =>
      rw [lexL_nil] at h; cases h
      cases i with
      | nil => simp only [List.nil_append, List.cons.injEq, and_true] at hts; rw [← hts]; rfl
      | cons x i => simp at hts
    | cons c r =>
      rw [lexL_cons] at h
      rw [List.length_cons] at hm ⊢
      split at h
      · rename_i n hn
        obtain ⟨h1, h2⟩ := evL_skip_le hn
        rw [List.length_cons] at h2
        have := ih _ _ _ (by rw [List.length_drop]; omega) h i z hts
        rw [this, List.length_drop]; congr 1; omega
      · rename_i k n hn
        obtain ⟨_, _, h3⟩ := evL_tok hn
        obtain ⟨h1, h2⟩ := tokE_le h3
        rw [List.length_cons] at h2
        cases hr : lexL (p + n) (r.drop (n - 1)) with
        | error e => rw [hr] at h; cases h
        | ok l =>
          rw [hr] at h
          cases h
          cases i with
          | nil =>
            simp only [List.nil_append, List.cons_append, List.cons.injEq] at hts
            have := lex_ne _ _ _ _ (Nat.le_refl _) hr
            exact absurd hts.2 this
          | cons x i =>
            simp only [List.nil_append, List.cons_append, List.cons.injEq] at hts
            have := ih _ _ _ (by rw [List.length_drop]; omega) hr i z hts.2
            rw [this, List.length_drop]; congr 1; omega
      · cases h
end Go.Proofs.YtfpmgpblhhcpgaaGreatDoor.Hc.Lex
namespace Go.Proofs.YtfpmgpblhhcpgaaGreatDoor
set_option linter.unusedVariables false
set_option linter.unusedSimpArgs false
set_option maxRecDepth 100000
section
open Hc Hc.Lex Hc.Syn
variable {H : Heap}
theorem lexS_end {s : ByteArray} {ts i : List Tk} {z : Tk} (h : lexS s = .ok ts) (hi : ts = i ++ [z]) : ∃ n, z = ⟨0, [], n⟩ := by
  have hs : s.size ≤ 8000 := by
    rcases Nat.lt_or_ge 8000 s.size with g | g
    · unfold lexS at h; rw [if_pos g] at h; cases h
    · exact g
  rw [lexS_small hs] at h
  cases hr : lexL 0 (bs s) with
  | error e => rw [hr] at h; cases h
  | ok l =>
    rw [hr] at h
    cases h
    exact ⟨_, lex_end _ _ _ _ (Nat.le_refl _) hr i z hi⟩
theorem fault_facts {s : ByteArray} {p e : Int} (h : parseS s = some (.error (p, e))) : e ≠ 0 ∧ 0 ≤ p ∧ ((e = 100 ∨ e = 101 ∨ e = 102) → s.size ≤ 8000 → ∃ ts, lexS s = .ok ts ∧ parseT ts = some (.error (p, e))) := by
  unfold parseS at h
  cases hl : lexS s with
  | error x =>
    obtain ⟨a, c⟩ := x
    rw [hl] at h
    dsimp only at h
    simp only [Option.some.injEq, Except.error.injEq, Prod.mk.injEq] at h
    obtain ⟨rfl, rfl⟩ := h
    by_cases hs : s.size ≤ 8000
    · rw [lexS_small hs] at hl
      cases hx : lexL 0 (bs s) with
      | ok l => rw [hx] at hl; cases hl
      | error e =>
        rw [hx] at hl
        cases hl
        exact ⟨by decide, by omega, fun he => by omega⟩
    · unfold lexS at hl
      rw [if_pos (by omega)] at hl
      cases hl
      exact ⟨by decide, by omega, fun _ h => by omega⟩
  | ok ts =>
    rw [hl] at h
    dsimp only at h
    have hok := lexS_ok hl
    obtain ⟨i, z, hi, hz, _⟩ := hok.ends
    have hz2 : ∃ n, z = ⟨0, [], n⟩ := lexS_end hl hi
    obtain ⟨n, rfl⟩ := hz2
    subst hi
    obtain ⟨hc, hp⟩ := parse_place hok.len h
    refine ⟨by omega, ?_, fun _ _ => ⟨_, rfl, h⟩⟩
    rcases hp with rfl | ⟨x, _, rfl⟩ <;> omega
theorem cuts_law {s : ByteArray} {p e : Int} (h : parseS s = some (.error (p, e))) (he : e = 100 ∨ e = 101 ∨ e = 102) (hp : p < s.size) (hs : s.size ≤ 8000) :
    (∃ e', parseS (s.extract 0 p.toNat) = some (.error (p, e'))) ∨ ∃ x, parseS (s.extract 0 p.toNat) = some (.ok x) := by
  obtain ⟨_, h0, h1⟩ := fault_facts h
  obtain ⟨ts, hl, ht⟩ := h1 he hs
  have hok := lexS_ok hl
  obtain ⟨i, z, hi, hz, _⟩ := hok.ends
  obtain ⟨n, rfl⟩ := lexS_end hl hi
  have hlL : lexL 0 (bs s) = .ok ts := by
    rw [lexS_small hs] at hl
    cases hx : lexL 0 (bs s) with
    | ok l => rw [hx] at hl; cases hl; rfl
    | error e => rw [hx] at hl; cases hl
  -- the token at fault
  have hlen := hok.len
  rw [hi] at ht hlen
  obtain ⟨_, hpl⟩ := parse_place hlen ht
  have hend : n = (bs s).length := by
    have := lex_end _ _ _ _ (Nat.le_refl _) hlL i ⟨0, [], n⟩ hi
    simpa using this
  rcases hpl with e1 | ⟨x, hx, e1⟩
  · rw [e1, hend, bs_size] at hp; omega
  · obtain ⟨pr, rest, hir⟩ := List.append_of_mem hx
    have hts : ts = pr ++ x :: (rest ++ [⟨0, [], n⟩]) := by rw [hi, hir]; simp
    have hcut := lex_cut _ _ _ _ (Nat.le_refl _) hlL pr x _ hts
    rw [Nat.sub_zero] at hcut
    have hex : bs (s.extract 0 p.toNat) = (bs s).take x.at' := by
      rw [e1]
      show (s.extract 0 x.at').data.toList = s.data.toList.take x.at'
      rw [ByteArray.data_extract]
      simp
    have hsz : (s.extract 0 p.toNat).size ≤ 8000 := by rw [← bs_size, hex, List.length_take]; have := bs_size s; omega
    have hl2 : lexS (s.extract 0 p.toNat) = .ok (pr ++ [⟨0, [], x.at'⟩]) := by rw [lexS_small hsz, hex, hcut]
    have hps : parseS (s.extract 0 p.toNat) = parseT (pr ++ [⟨0, [], x.at'⟩]) := by unfold parseS; rw [hl2]
    rw [hps, e1]
    have hlen2 : (pr ++ [(⟨0, [], x.at'⟩ : Tk)]).length ≤ 9000 := by
      rw [hir] at hlen
      simp only [List.length_append, List.length_cons, List.length_nil] at hlen ⊢
      omega
    have ht' : parseT (pr ++ x :: (rest ++ [⟨0, [], n⟩])) = some (.error ((x.at' : Int), e)) := by
      rw [← e1, ← ht, hir]; simp
    exact parse_cut hlen2 ht'
theorem w_Cuts (hg : GL H) {s : ByteArray} : CallT Pg fQc5 [.string s] (.one (.c .bool)) H fun b H' => b = true ∧ Ext H H' := by
  refine cQcl _ ?_
  unfold vQcl
  refine s_shown hg fun H1 hE1 => (Br_false _ _).2 ?_
  have g1 := hg.ext hE1
  refine s_Parse g1.ge g1.tab fun d v H2 hE2 hO => ?_
  have g2 := g1.ext hE2
  have hE12 := hE1.trans hE2 fun _ _ h => h
  cases hp : parseS s with
  | none => unfold ParOut at hO; rw [hp] at hO; exact hO.elim
  | some r =>
  cases r with
  | ok x =>
    obtain ⟨n, s'⟩ := x
    obtain ⟨rfl, _⟩ := hO.ok hp
    refine s_fault_nil ?_
    refine Jn.mk (fun j H' => H2 = H' ∧ j = true) (fun kk hkk => (Br_false _ _).2 (.inl ⟨rfl, (Br_true _ _).2 (hkk _ _ ⟨rfl, rfl⟩)⟩)) ?_
    rintro _ _ ⟨rfl, rfl⟩
    exact (Br_true _ _).2 ⟨rfl, hE12⟩
  | error x =>
    obtain ⟨p, e⟩ := x
    obtain ⟨rfl, g, rfl, _, hr⟩ := hO.err hp
    obtain ⟨hne, h0, _⟩ := fault_facts hp
    refine s_fault_at hr ?_
    have hb : (e != 0) = true := by simpa using hne
    rw [hb]
    refine Jn.mk (fun j H' => H2 = H' ∧ (j = false → (e = 100 ∨ e = 101 ∨ e = 102) ∧ p < s.size ∧ s.size ≤ 8000)) (fun kk hkk => ?_) ?_
    · refine (Br_false _ _).2 (.inr ⟨⟨_, _, rfl⟩, (Br_false _ _).2 ?_⟩)
      have fin : (e = 100 ∨ e = 101 ∨ e = 102) → Br (decide (p ≥ (s.size : Int))) (kk true H2) (kk (decide ((s.size : Int) > 8000)) H2) := fun he =>
        Br_dec (fun _ => hkk _ _ ⟨rfl, fun h => by cases h⟩) fun hlt => hkk _ _ ⟨rfl, fun h => ⟨he, by omega, by have := of_decide_eq_false h; omega⟩⟩
      have bne : ∀ {c : Int} {X Y : Prop}, (e ≠ c → X) → (e = c → Y) → Br (e != c) X Y := fun {c X Y} h1 h2 => by
        by_cases h : e = c
        · subst h
          have : (e != e) = false := by simp
          rw [this]; exact h2 rfl
        · have : (e != c) = true := by simpa using h
          rw [this]; exact h1 h
      exact bne (fun h1 => bne (fun h2 => bne (fun h3 => hkk _ _ ⟨rfl, fun h => by cases h⟩) fun h3 => fin (by omega)) fun h2 => fin (by omega)) fun h1 => fin (by omega)
    rintro j _ ⟨rfl, hj⟩
    refine Br.mk (fun _ => ⟨rfl, hE12⟩) fun hjf => ?_
    obtain ⟨he, hps, hs8⟩ := hj hjf
    refine ⟨Int.le_refl _, h0, by omega, ?_⟩
    refine s_Parse g2.ge g2.tab fun d2 v2 H5 hE5 hO2 => ?_
    have hE := hE12.trans hE5 fun _ _ h => h
    rcases cuts_law hp he hps hs8 with ⟨e', h2⟩ | ⟨⟨n, s'⟩, h2⟩
    · obtain ⟨rfl, g', rfl, _, hr'⟩ := hO2.err h2
      obtain ⟨hne', _, _⟩ := fault_facts h2
      refine s_fault_at hr' ?_
      have hb' : (e' != 0) = true := by simpa using hne'
      simp only [Jn]
      rw [hb']
      refine (Br_true _ _).2 (.inr ⟨⟨_, _, rfl⟩, (Br_false _ _).2 ⟨by simp, hE⟩⟩)
    · obtain ⟨rfl, _⟩ := hO2.ok h2
      refine s_fault_nil ?_
      simp only [Jn]
      exact (Br_true _ _).2 (.inl ⟨rfl, (Br_true _ _).2 ⟨trivial, hE⟩⟩)
end
section
open Hc
theorem w_SyntaxCuts {W : World} (hg : GL W.heap) (v0 : Value) (h0 : RdV Tryz.prog W.heap 9 v0) :
    CallT Pg fQc5 [v0] (.one (.c .bool)) W.heap fun b H' => b = true ∧ Ext W.heap H' := by
  obtain ⟨s, rfl, _⟩ := rd_string Tryz.underlying9 h0
  exact w_Cuts hg
end
end Go.Proofs.YtfpmgpblhhcpgaaGreatDoor
