/-
 Signs are no words.
-/
import Derived.Test.YtfpmgpblhhcpgaaGreatDoorHcLexApart
import Derived.Test.YtfpmgpblhhcpgaaGreatDoorHcPrnB
import Derived.Test.YtfpmgpblhhcpgaaGreatDoorE
import Derived.Lib.ItoaLen
set_option linter.unusedVariables false
set_option linter.unusedSimpArgs false
namespace Go.Proofs.YtfpmgpblhhcpgaaGreatDoor.Hc.Syn
set_option maxRecDepth 100000
section
open Go Hc Hc.Lex
def SgOk (t : Tk) : Prop := t.kind = 3 → jdI t.text = false
theorem tokE_sg {u : Bs} {n : Nat} (h : jec u = .tok 3 n) (h1 : 1 ≤ n) : jdI (u.take n) = false := by
 cases u with
 | nil => cases h
 | cons c t =>
   obtain ⟨m, rfl⟩ : ∃ m, n = m + 1 := ⟨n - 1, by omega⟩
   have hc : jaF c = false := by
    unfold jec at h
    dsimp only at h
    by_cases g : jaF c = true
    ·rw [if_pos g] at h
     split at h
     ·cases h
     ·simp only [Ev.tok.injEq] at h; omega
    ·exact Bool.not_eq_true _ ▸ g
   show (jaF c && _) = false
   rw [hc]; rfl
theorem jmT {ts : List Tk} (h : Chain ts) : ∀ t ∈ ts, SgOk t := by
 induction h with
 | fin p => intro t ht; rw [List.mem_singleton.1 ht]; intro h; cases h
 | tok u k n p ts he h1 h2 r ih =>
   intro t ht
   rcases List.mem_cons.1 ht with rfl | ht
   ·intro hk
    have hk : k = 3 := hk
    subst hk
    cases u with
    | nil => cases he
    | cons c u => exact tokE_sg (Lex.evL_tok he).2.2 h1
   ·exact ih t ht
theorem lexL_sg {r : Bs} {ts : List Tk} (h : jdd 0 r = .ok ts) : ∀ t ∈ ts, SgOk t := jmT (jm3 _ _ _ _ (Nat.le_refl _) h)
abbrev DS := Except (Int × Int) PS
def th {α : Type} (σ : DS) (P : PS → R α) : R α := match σ with
 | .error e => some (.error e)
 | .ok s => P s
def Px {α : Type} (r : R α) (a : α) (τ : DS) : Prop := match r with
 | none => False
 | some (.error e) => τ = .error e
 | some (.ok (x, s)) => x = a ∧ τ = .ok s
theorem jan {α β : Type} (σ : DS) (A : PS → R α) (F : α → PS → R β) : th σ (fun s => (A s).bind F) = (th σ A).bind F := by cases σ <;> rfl
theorem jj8 {α : Type} (e : Int × Int) (A : PS → R α) : th (.error e) A = some (.error e) := rfl
theorem jaC {α : Type} (s : PS) (A : PS → R α) : th (.ok s) A = A s := rfl
theorem Px.bind {α β : Type} {r : R α} {F : α → PS → R β} {a : α} {τ τ' : DS} {y : β} (h : Px r a τ) (h' : Px (th τ (F a)) y τ') : Px (r.bind F) y τ' := by
 cases r with
 | none => exact h.elim
 | some x =>
   cases x with
   | error e =>
     have h : τ = .error e := h
     subst h; exact h'
   | ok p =>
     obtain ⟨rfl, rfl⟩ : p.1 = a ∧ τ = .ok p.2 := h
     exact h'
structure To {α : Type} (G r : R α) : Prop where
 ne : r ≠ none
 px : ∀ y τ, Px r y τ → Px G y τ
theorem To.refl {α : Type} {G : R α} (h : G ≠ none) : To G G := ⟨h, fun _ _ h => h⟩
theorem To.eq {α : Type} {G r r' : R α} (h : To G r) (e : r = r') : To G r' := e ▸ h
theorem To.err {α : Type} {G : R α} {e : Int × Int} (h : To G (some (.error e))) : ∀ y, Px G y (.error e) := fun y => h.px y _ rfl
theorem To.ret {α : Type} {G : R α} {y : α} {τ : DS} (h : To G (th τ (jaE y))) : Px G y τ := by
 refine h.px y τ ?_
 cases τ with
 | error e => exact rfl
 | ok s => exact ⟨rfl, rfl⟩
theorem To.step {α β : Type} {G : R β} {r : R α} {F : α → PS → R β} (h : To G (r.bind F)) {a : α} {τ : DS} (hp : Px r a τ) : To G (th τ (F a)) := by
 refine ⟨fun e => ?_, fun y τ' hy => h.px y τ' (hp.bind hy)⟩
 cases r with
 | none => exact hp
 | some x =>
   cases x with
   | error e' =>
     have hp : τ = .error e' := hp
     subst hp; cases e
   | ok p =>
     obtain ⟨rfl, rfl⟩ : p.1 = a ∧ τ = .ok p.2 := hp
     exact h.ne e
theorem To.part {α β : Type} {G : R β} {r : R α} {F : α → PS → R β} (h : To G (r.bind F)) : r ≠ none := fun e => h.ne (by rw [e]; rfl)
def dpD (τ : DS) (d : Int) : Prop := ∀ s, τ = .ok s → s.deep = d
theorem dpD.err {e : Int × Int} {d : Int} : dpD (.error e) d := fun s h => by cases h
theorem Px.dp {α : Type} {τ τ' : DS} {A : PS → R α} {a : α} (h : Px (th τ A) a τ') {d : Int} (hd : dpD τ d) (hA : ∀ s a s', A s = some (.ok (a, s')) → Dp s s') : dpD τ' d := by
 intro s' e
 subst e
 cases τ with
 | error e => exact absurd h (by intro g; cases g)
 | ok s =>
   rw [jaC] at h
   cases hr : A s with
   | none => rw [hr] at h; exact h.elim
   | some x =>
     rw [hr] at h
     cases x with
     | error e => cases h
     | ok p =>
       obtain ⟨_, h2⟩ : p.1 = a ∧ (.ok s' : DS) = .ok p.2 := h
       cases h2
       exact (hA s p.1 p.2 hr).trans (hd s rfl)
theorem Px.was {α : Type} {τ : DS} {A : PS → R α} {a : α} {s' : PS} (h : Px (th τ A) a (.ok s')) : ∃ s, τ = .ok s ∧ A s = some (.ok (a, s')) := by
 cases τ with
 | error e => exact absurd h (by intro g; cases g)
 | ok s =>
   rw [jaC] at h
   cases hr : A s with
   | none => rw [hr] at h; exact h.elim
   | some x =>
     rw [hr] at h
     cases x with
     | error e => cases h
     | ok p =>
       obtain ⟨rfl, h2⟩ : p.1 = a ∧ (.ok s' : DS) = .ok p.2 := h
       cases h2
       exact ⟨s, rfl, hr⟩
def jbs (s : PS) : R Unit := if s.deep = 20 then jc2 101 s else jaE () { s with deep := s.deep + 1 }
def jdn (s : PS) : R Tk := jaE s.hd s.take
def jl0 (s : PS) : R Unit := jaE () s.up
theorem jhS {w : Txt} {s : PS} (h : jaf w s = true) : jby w s = (jbs s).bind fun _ s => jaA w s := by
 unfold jby jbs
 rw [if_pos h]
 split
 ·rfl
 ·show _ = jaA w _
  unfold jaA
  have h2 : jaf w { s with deep := s.deep + 1 } = true := h
  rw [h2]; rfl
theorem jiL {w : Txt} {s : PS} (h : jaf w s = true) : jby w s = (jbs s).bind fun _ s => jdn s := by
 unfold jby jbs
 rw [if_pos h]
 split
 ·rfl
 ·rfl
theorem jmw {w : Txt} {s : PS} (h : jaf w s = false) : jby w s = jaA w s := by
 unfold jby jaA
 rw [h]; rfl
theorem up_eq (w : Txt) : upP w = fun s => (jaA w s).bind fun _ s => jl0 s := by funext s; rfl
def okD : DS → Bool
 | .ok _ => true
 | .error _ => false
def isD (w : Txt) : DS → Bool
 | .ok s => jaf w s
 | .error _ => false
def nmD : DS → Bool
 | .ok s => jas s
 | .error _ => false
theorem jez {w : Txt} {τ : DS} (h : isD w τ = true) : ∃ s, τ = .ok s ∧ jaf w s = true := by
 cases τ with
 | error e => cases h
 | ok s => exact ⟨s, rfl, h⟩
theorem nmD_t {τ : DS} (h : nmD τ = true) : ∃ s, τ = .ok s ∧ jas s = true := by
 cases τ with
 | error e => cases h
 | ok s => exact ⟨s, rfl, h⟩
theorem jjP {α : Type} {w : Txt} {τ : DS} (h : isD w τ = false) (A B : PS → R α) : th τ (fun s => if jaf w s then A s else B s) = th τ B := by
 cases τ with
 | error e => rfl
 | ok s =>
   have h : jaf w s = false := h
   show (if jaf w s then A s else B s) = B s
   rw [h]; rfl
theorem jgW {α : Type} {w : Txt} {τ : DS} (h : isD w τ = true) (A B : PS → R α) : th τ (fun s => if jaf w s then A s else B s) = th τ A := by
 obtain ⟨s, rfl, h2⟩ := jez h
 show (if jaf w s then A s else B s) = A s
 rw [h2]; rfl
theorem jbY {α : Type} {τ : DS} {A B : PS → R α} (h : ∀ s, τ = .ok s → A s = B s) : th τ A = th τ B := by
 cases τ with
 | error e => rfl
 | ok s => exact h s rfl
end
end Go.Proofs.YtfpmgpblhhcpgaaGreatDoor.Hc.Syn
namespace Go.Proofs.YtfpmgpblhhcpgaaGreatDoor
set_option maxRecDepth 100000
section
open Hc Hc.Lex Hc.Syn
variable {H : jaa}
abbrev TD := jho
abbrev TQ := jbJ
abbrev OwD := Own TD TQ
def DV (L : List Tk) (i : Nat) (pl bd ne st : Int) : DS → Prop
 | .ok s => bd = 0 ∧ s.toks = L.drop i ∧ ne = s.deep ∧ st = s.stmts ∧ (0 ≤ s.deep ∧ s.deep ≤ 20) ∧ (0 ≤ s.stmts ∧ s.stmts ≤ 200)
 | .error (p, e) => bd = e ∧ e ≠ 0 ∧ pl = p
structure DR (H : jaa) (b tb : Nat) (L : List Tk) (σ : DS) : Prop where
 ex : ∃ (sl : Sl) (i : Nat) (pl bd ne st : Int), Row H b TQaq [slV sl, .int .i64 (i : Nat), .int .i64 pl, .int .i64 bd, .int .i64 ne, .int .i64 st] ∧ VecN H jbc 3 sl (jb8 L) ∧ sl.a = some (adr tb) ∧ i < L.length ∧ DV L i pl bd ne st σ
 tl : TsOk L
 sg : ∀ t ∈ L, SgOk t
 ne : b ≠ tb
variable {b tb : Nat} {L : List Tk} {σ τ : DS}
theorem DR.lt (h : DR H b tb L σ) : b < H.size := by obtain ⟨_, _, _, _, _, _, q, _⟩ := h.ex; exact q.lt
theorem DR.tlt (h : DR H b tb L σ) : tb < H.size := by
 obtain ⟨sl, i, pl, bd, ne, st, h1, h2, h3, h4, h5⟩ := h.ex
 rcases h2.own with ⟨y1, _⟩ | ⟨c, sp, y1, y2, _⟩
 ·rw [y1] at h3; cases h3
 ·rw [y1] at h3; cases h3; exact y2.lt
theorem DR.upd {H' : jaa} {M : Nat → Prop} (h : DR H b tb L σ) (hU : Upd M H H') (h1 : ¬ M b) (h2 : ¬ M tb) : DR H' b tb L σ := by
 obtain ⟨sl, i, pl, bd, ne, st, g1, g2, g3, g4, g5⟩ := h.ex
 exact ⟨⟨sl, i, pl, bd, ne, st, hU.row g1 h1, g2.upd hU fun c hc => by rw [g3] at hc; cases hc; exact h2, g3, g4, g5⟩, h.tl, h.sg, h.ne⟩
theorem DR.ext {H' : jaa} (h : DR H b tb L σ) (hE : Ext H H') : DR H' b tb L σ := h.upd hE (fun h => h) fun h => h
theorem DR.young {H' : jaa} {b1 : Nat} (h : DR H b tb L σ) (hU : Upd (· = b1) H H') (h1 : b < b1) (h2 : tb < b1) : DR H' b tb L σ := h.upd hU (by omega) (by omega)
theorem DR.rd (h : DR H b tb L σ) : ∃ (sl : Sl) (i : Nat) (t : Tk) (bd ne st : Int), hcell H ⟨b, 0, none⟩ = some (slV sl) ∧ hcell H ⟨b, 1, none⟩ = some (.int .i64 (i : Nat)) ∧ hcell H ⟨b, 3, none⟩ = some (.int .i64 bd) ∧ hcell H ⟨b, 4, none⟩ = some (.int .i64 ne) ∧ hcell H ⟨b, 5, none⟩ = some (.int .i64 st) ∧
 (∀ {k : Addr → Prop}, (∀ a, ja1 H a 0 (jgu t) → k a) → IxA 3 sl (i : Nat) k) ∧ t ∈ L ∧ (∀ s, σ = .ok s → s.hd = t) ∧ (bd == 0) = okD σ ∧ (∀ s, σ = .ok s → ne = s.deep ∧ st = s.stmts) ∧ sl.len = L.length := by
 obtain ⟨sl, i, pl, bd, ne, st, g1, g2, g3, g4, g5⟩ := h.ex
 have hl := g2.len
 rw [jb0] at hl
 refine ⟨sl, i, L[i], bd, ne, st, (g1.cell 0).trans rfl, (g1.cell 1).trans rfl, (g1.cell 3).trans rfl, (g1.cell 4).trans rfl, (g1.cell 5).trans rfl, fun {k} hk => ?_, List.getElem_mem _, fun s e => ?_, ?_, fun s e => ?_, by omega⟩
 ·refine jgh g2 (by decide) rfl (by omega) fun c hc hcell => hk _ (hcells_iff.2 fun j hj => ?_)
  have := hcell j hj
  rw [mk_add, Nat.zero_add, this, jgg jfg g4 hj]
 ·subst e
  obtain ⟨_, e2, _⟩ := g5
  unfold PS.hd
  rw [e2, List.drop_eq_getElem_cons g4]; rfl
 ·cases σ with
  | error e => obtain ⟨e1, e2, _⟩ := g5; rw [e1]; exact beq_eq_false_iff_ne.2 e2
  | ok s => rw [g5.1]; rfl
 ·subst e
  exact ⟨g5.2.2.1, g5.2.2.2.1⟩
theorem jdf (h : DR H b tb L σ) {k : Bool → jaa → Prop} (hk : k (okD σ) H) : CallT Pg jk6 [.pointer (some (adr b))] (.one (.c .bool)) H k := by
 refine cQcv _ ?_
 unfold vQcv
 simp only [NilCk_some, adr_add]
 obtain ⟨sl, i, t, bd, ne, st, r0, r1, r3, r4, r5, hx, ht, hs, hb, _⟩ := h.rd
 exact jag r3 (hb ▸ hk)
theorem jjG (h : DR H b tb L σ) {K : Nat → jaa → Prop} (hK : ∀ t b1 H', b1 = H.size → Ext H H' → Row H' b1 jbc (jgu t) → t ∈ L → (∀ s, σ = .ok s → s.hd = t) → K b1 H') :
 Ld .sl (adr b) H fun x1 => Ld (.int .i64) ⟨b, 1, none⟩ H fun x2 => IxA 3 x1 x2 fun a3 => LdC [(.int .i64), .str, (.int .i64)] a3 H fun (c1 : Int × ByteArray × Int) =>
 Nw #[.int .i64 0, .string ByteArray.empty, .int .i64 0] jbc H fun b1 H1 =>
 Stab [(a3.add 0, .int .i64 c1.1), (a3.add 1, .string c1.2.1), (a3.add 2, .int .i64 c1.2.2), (⟨b, 1, none⟩, .int .i64 x2), (adr b, .slice x1.a x1.len x1.cap)] H1 <|
 St ⟨b1, 0, none⟩ (.int .i64 c1.1) H1 fun H2 => St ⟨b1, 1, none⟩ (.string c1.2.1) H2 fun H3 => St ⟨b1, 2, none⟩ (.int .i64 c1.2.2) H3 fun H4 => K b1 H4 := by
 obtain ⟨sl, i, t, bd, ne, st, r0, r1, r3, r4, r5, hx, ht, hs, hb, _⟩ := h.rd
 refine jao r0 (jag r1 (hx fun a ha => ja4 ha ?_))
 obtain ⟨q0, q1, q2⟩ := jej ha
 refine jak (vs := [.int .i64 0, .string ByteArray.empty, .int .i64 0]) fun b1 H1 hb1 hE1 _ hr1 => jaw (fun x hx => ?_) ?_
 ·have cell : ∀ {y : Addr} {v : Value}, hcell H y = some v → hcell H1 y = some v := fun hc => hE1.cell hc fun h => h
  simp only [List.mem_cons, List.not_mem_nil, or_false] at hx
  rcases hx with rfl | rfl | rfl | rfl | rfl
  ·exact cell q0
  ·exact cell q1
  ·exact cell q2
  ·exact cell r1
  ·exact cell r0
 ·refine jat hr1 (by simp) fun H2 hU2 _ hr2 => jat hr2 (by simp) fun H3 hU3 _ hr3 => jat hr3 (by simp) fun H4 hU4 _ hr4 => ?_
  exact hK t b1 H4 hb1 (jel hE1 (by omega) ((hU2.trans hU3 fun _ _ e => e).trans hU4 fun _ _ e => e)) hr4 ht hs
theorem jbM (h : DR H b tb L σ) {w : Txt} {k : Bool → jaa → Prop} (hk : ∀ H', Ext H H' → k (isD w σ) H') : CallT Pg jek [.pointer (some (adr b)), .string ⟨⟨w⟩⟩] (.one (.c .bool)) H k := by
 refine cQcw _ _ ?_
 unfold vQcw
 simp only [adr_add, NilCk_some]
 refine jjG h fun t b1 H4 hb1 hE4 hr4 ht hs => ?_
 have h4 := h.ext hE4
 obtain ⟨sl, i, _, bd, ne, st, r0, r1, r3, r4, r5, _, _, _, hb, _⟩ := h4.rd
 refine Jn.mk (fun j H' => H4 = H' ∧ j = isD w σ) (fun kk hkk => ?_) (by rintro j _ ⟨rfl, rfl⟩; exact hk _ hE4)
 refine jag r3 ?_
 rw [hb]
 cases σ with
 | error e => exact (Br_false _ _).2 (hkk _ _ ⟨rfl, rfl⟩)
 | ok s =>
   refine (Br_true _ _).2 ?_
   have hs := hs s rfl
   have ek : ∀ n : Nat, ((t.kind : Nat) : Int) = n ↔ t.kind = n := fun n => by omega
   refine jag ((hr4.cell 0).trans rfl) (Br.mk (fun e1 => jam ((hr4.cell 1).trans rfl) ?_) fun e1 => jag ((hr4.cell 0).trans rfl) (Br.mk (fun e2 => jam ((hr4.cell 1).trans rfl) ?_) fun e2 => ?_))
   ·have := (ek 3).1 (jlk e1)
    rw [jcq]
    refine hkk _ _ ⟨rfl, ?_⟩
    show decide (t.text = w) = jaf w s
    unfold jaf; rw [hs, this, Bool.eq_iff_iff]; simp
   ·have := (ek 1).1 (jlk e2)
    rw [jcq]
    refine hkk _ _ ⟨rfl, ?_⟩
    show decide (t.text = w) = jaf w s
    unfold jaf; rw [hs, this, Bool.eq_iff_iff]; simp
   ·refine hkk _ _ ⟨rfl, ?_⟩
    have e1 := jlQ e1; have e2 := jlQ e2
    have h3 : (t.kind == 3) = false := beq_eq_false_iff_ne.2 fun g => e1 ((ek 3).2 g)
    have h1 : (t.kind == 1) = false := beq_eq_false_iff_ne.2 fun g => e2 ((ek 1).2 g)
    show false = jaf w s
    unfold jaf; rw [hs, h3, h1]; simp
theorem jln {w : Txt} {k : Bool → jaa → Prop} (hk : ∀ H', Ext H H' → k (wordsL.contains w) H') : CallT Pg fQdk [.string ⟨⟨w⟩⟩] (.one (.c .bool)) H k := by
 refine cQc9 _ ?_
 unfold vQc9
 refine jnx fun r H1 hv hE _ _ => ?_
 have hl : r.len = 26 := by rw [hv.len]; rfl
 refine LoopT.ghost (fun m st H' => ∃ j : Nat, H1 = H' ∧ st = (j : Nat) ∧ m = 26 - j ∧ j ≤ 26 ∧ ∀ x, x < j → wordsL[x]? ≠ some w) 26 ⟨0, rfl, rfl, rfl, by decide, fun x hx => by omega⟩ ?_
 rintro next m _ _ ⟨j, rfl, rfl, rfl, hj, hno⟩ hnext
 refine jaj (fun hlt => ?_) fun hge => ?_
 ·have hj' : j < wordsL.length := by show j < 26; omega
  refine jcy hv (by omega) (by rw [List.length_map]; omega) fun ad hc _ => ?_
  have hc : hcell H1 ad = some (.string ⟨⟨wordsL[j]⟩⟩) := hc.trans (by simp [List.getElem?_eq_getElem hj'])
  refine jam hc ?_
  rw [jcq]
  refine jaj (fun e => ?_) fun e => ?_
  ·have e : wordsL[j] = w := e
   have : wordsL.contains w = true := by rw [List.contains_iff_mem, ← e]; exact List.getElem_mem _
   exact this ▸ hk _ hE
  ·have e : ¬ wordsL[j] = w := e
   refine Lt.mk (u := ((j + 1 : Nat) : Int)) (by rw [jac] <;> omega) (hnext (26 - (j + 1)) _ _ (by omega) ⟨j + 1, rfl, rfl, rfl, by omega, fun x hx => ?_⟩)
   by_cases hxj : x = j
   ·subst hxj; rw [List.getElem?_eq_getElem hj']; intro g; exact e (Option.some.inj g)
   ·exact hno x (by omega)
 ·have : wordsL.contains w = false := by
   rw [← Bool.not_eq_true, List.contains_iff_mem]
   intro g
   obtain ⟨x, hx, e⟩ := List.mem_iff_getElem.1 g
   have hx26 : x < 26 := hx
   exact hno x (by omega) (by rw [List.getElem?_eq_getElem hx, e])
  exact this ▸ hk _ hE
theorem jcN (h : DR H b tb L σ) {k : Bool → jaa → Prop} (hk : ∀ H', Ext H H' → k (nmD σ) H') : CallT Pg fQdg [.pointer (some (adr b))] (.one (.c .bool)) H k := by
 refine cQc5 _ ?_
 unfold vQc5
 simp only [adr_add, NilCk_some]
 refine jjG h fun t b1 H4 hb1 hE4 hr4 ht hs => jam ((hr4.cell 1).trans rfl) (jln fun H5 hE5 => ?_)
 have hE := hE4.trans hE5 fun _ _ h => h
 have h5 := h.ext hE
 have hr5 := hE5.row hr4 fun h => h
 obtain ⟨sl, i, _, bd, ne, st, r0, r1, r3, r4, r5, _, _, _, hb, _⟩ := h5.rd
 refine Jn.mk (fun j H' => H5 = H' ∧ j = nmD σ) (fun kk hkk => ?_) (by rintro j _ ⟨rfl, rfl⟩; exact hk _ hE)
 refine jag r3 ?_
 rw [hb]
 cases σ with
 | error e => exact (Br_false _ _).2 (hkk _ _ ⟨rfl, rfl⟩)
 | ok s =>
   refine (Br_true _ _).2 ?_
   have hs := hs s rfl
   have ek : ∀ n : Nat, ((t.kind : Nat) : Int) = n ↔ t.kind = n := fun n => by omega
   refine jag ((hr5.cell 0).trans rfl) (Br.mk (fun e1 => hkk _ _ ⟨rfl, ?_⟩) fun e1 => hkk _ _ ⟨rfl, ?_⟩)
   ·have e1 := (ek 1).1 (jlk e1)
    obtain ⟨w1, w2⟩ := (h.tl.ok t ht).word e1
    show (!wordsL.contains t.text) = jas s
    unfold jas jaJ
    rw [hs, e1, w2, decide_eq_true w1]; simp
   ·have e1 := jlQ e1
    have h1 : (t.kind == 1) = false := beq_eq_false_iff_ne.2 fun g => e1 ((ek 1).2 g)
    show false = jas s
    unfold jas; rw [hs, h1]; rfl
def Wd {α : Type} (f : FuncId) (args : List Value) (r : RTy) (b tb : Nat) (L : List Tk) (H : jaa) (res : R α) (Rel : α → r.den → jaa → Prop) : Prop :=
 ∀ k : r.den → jaa → Prop, (∀ d H' a τ, Px res a τ → Upd (· = b) H H' → DR H' b tb L τ → Rel a d H' → k d H') → CallT Pg f args r H k
theorem DR.poke (h : DR H b tb L σ) {τ : DS} {j : Nat} {v : Value} (hj : j < 6)
 (hv : ∀ (sl : Sl) (i : Nat) (pl bd ne st : Int), i < L.length → DV L i pl bd ne st σ → ∃ (i' : Nat) (pl' bd' ne' st' : Int), i' < L.length ∧ [slV sl, .int .i64 (i : Nat), .int .i64 pl, .int .i64 bd, .int .i64 ne, .int .i64 st].set j v = [slV sl, .int .i64 (i' : Nat), .int .i64 pl', .int .i64 bd', .int .i64 ne', .int .i64 st'] ∧ DV L i' pl' bd' ne' st' τ)
 {k : jaa → Prop} (hk : ∀ H', Upd (· = b) H H' → DR H' b tb L τ → k H') : St ⟨b, j, none⟩ v H k := by
 obtain ⟨sl, i, pl, bd, ne, st, g1, g2, g3, g4, g5⟩ := h.ex
 have hne := h.ne
 refine jat g1 (by simpa using hj) fun H1 hU _ hr => hk H1 hU ?_
 obtain ⟨i', pl', bd', ne', st', q0, q1, q2⟩ := hv sl i pl bd ne st g4 g5
 rw [q1] at hr
 exact ⟨⟨sl, i', pl', bd', ne', st', hr, g2.upd hU fun c hc e => by rw [g3] at hc; cases hc; exact hne e.symm, g3, q0, q2⟩, h.tl, h.sg, h.ne⟩
def jne (e : Int) : DS → DS
 | .ok s => .error ((s.hd.at' : Nat), e)
 | .error x => .error x
theorem px_fail {α : Type} (e : Int) (σ : DS) (a : α) : Px (th σ (jc2 (α := α) e)) a (jne e σ) := by
 cases σ <;> rfl
theorem jdB (h : DR H b tb L σ) {e : Int} (he : e ≠ 0) {k : Unit → jaa → Prop} (hk : ∀ H', Upd (· = b) H H' → DR H' b tb L (jne e σ) → k () H') : CallT Pg jjr [.pointer (some (adr b)), .int .i64 e] (.tup []) H k := by
 refine cQcx _ _ ?_
 unfold vQcx
 simp only [adr_add, NilCk_some]
 obtain ⟨sl0, i0, t0, bd0, ne0, st0, r00, r01, r03, _, _, _, _, _, hb0, _⟩ := h.rd
 refine jag r03 ?_
 rw [hb0]
 simp only [Jn]
 cases σ with
 | error x => exact (Br_false _ _).2 (hk _ (.refl _ _) h)
 | ok s =>
   refine (Br_true _ _).2 ?_
   obtain ⟨sl, i, pl, bd, ne, st, g1, g2, g3, g4, g5⟩ := h.ex
   have hne := h.ne
   -- the fault is written, then its place
   refine jat g1 (by simp) fun H1 hU1 _ hr1 => ?_
   have g21 : VecN H1 jbc 3 sl (jb8 L) := g2.upd hU1 fun c hc e => by rw [g3] at hc; cases hc; exact hne e.symm
   have hl := g2.len
   rw [jb0] at hl
   have hhd : s.hd = L[i] := by
    unfold PS.hd
    rw [g5.2.1, List.drop_eq_getElem_cons g4]; rfl
   refine jao ((hr1.cell 0).trans rfl) (jag ((hr1.cell 1).trans rfl) ?_)
   refine jgh g21 (by decide) rfl (by omega) fun c hc hcell => ?_
   have hc2 := hcell 2 (by decide)
   rw [jgg jfg g4 (by decide)] at hc2
   have hc2 : Hc.hcell H1 ((⟨tb, i * 3, none⟩ : Addr).add 2) = some (Value.int .i64 (L[i].at' : Nat)) := by
    rw [g3] at hc; cases hc
    rw [mk_add]; exact hc2.trans rfl
   rw [g3] at hc; cases hc
   refine jag hc2 (jat hr1 (by simp) fun H2 hU2 _ hr2 => hk H2 (hU1.trans hU2 fun _ _ e => e) ?_)
   exact ⟨⟨sl, i, _, _, _, _, hr2, g21.upd hU2 fun c hc e => by rw [g3] at hc; cases hc; exact hne e.symm, g3, g4, rfl, he, by rw [hhd]⟩, h.tl, h.sg, h.ne⟩
def jmt : DS → DS
 | .ok s => .ok s.take
 | .error x => .error x
theorem jcb (σ : DS) (t : Tk) (ht : ∀ s, σ = .ok s → t = s.hd) : Px (th σ jdn) t (jmt σ) := by
 cases σ with
 | error e => rfl
 | ok s => exact ⟨(ht s rfl).symm, rfl⟩
theorem jls {L : List Tk} (h : TsOk L) {i : Nat} (hi : i < L.length) (hk : L[i].kind ≠ 0) : i + 1 < L.length := by
 obtain ⟨p, l, e, hl, _⟩ := h.ends
 rcases Nat.lt_or_ge (i + 1) L.length with g | g
 ·exact g
 ·exfalso
  have hlen := congrArg List.length e
  simp only [List.length_append, List.length_singleton] at hlen
  have hip : i = p.length := by omega
  have : L[i] = l := by
   have e2 : L[i]? = some l := by rw [e, hip]; simp
   rw [List.getElem?_eq_getElem hi] at e2; exact Option.some.inj e2
  rw [this] at hk; exact hk hl
theorem jaY (h : DR H b tb L σ) (hk0 : ∀ s, σ = .ok s → s.hd.kind ≠ 0) {k : Int × ByteArray × Int → jaa → Prop} (hk : ∀ t H', Upd (· = b) H H' → DR H' b tb L (jmt σ) → (∀ s, σ = .ok s → t = s.hd) → k (jg8 t) H') :
 CallT Pg jeF [.pointer (some (adr b))] jlc H k := by
 refine cQc2 _ ?_
 unfold vQc2
 simp only [adr_add, NilCk_some]
 refine jak (vs := [.int .i64 0, .string ByteArray.empty, .int .i64 0]) fun b1 H1 hb1 hE1 _ hr1 => ?_
 have h1 := h.ext hE1
 refine jjG h1 fun t b2 H5 hb2 hE5 hr5 ht hs => ?_
 have h5 := h1.ext hE5
 have hlb := h.lt
 have htl := h.tlt
 have hs1 := hE1.size
 have hs5 := hE5.size
 have hr15 := hE5.row hr1 fun h => h
 have fin : ∀ H6, Upd (· = b) H5 H6 → DR H6 b tb L (jmt σ) → LdC [(.int .i64), .str, (.int .i64)] (adr b2) H6 fun (c2 : Int × ByteArray × Int) =>
  St ⟨b1, 0, none⟩ (.int .i64 c2.1) H6 fun H9 => St ⟨b1, 1, none⟩ (.string c2.2.1) H9 fun H10 => St ⟨b1, 2, none⟩ (.int .i64 c2.2.2) H10 fun H11 =>
  LdC [(.int .i64), .str, (.int .i64)] (adr b1) H11 fun (c3 : Int × ByteArray × Int) => k (c3.1, c3.2.1, c3.2.2) H11 := fun H6 hU6 h6 => by
  have q5 := hU6.row hr5 (by omega)
  have q1 := hU6.row hr15 (by omega)
  refine ja4 q5.rd_all (jfI rfl q1 fun H7 hU7 => hk t H7 ?_ (h6.young hU7 (by omega) (by omega)) fun s e => (hs s e).symm)
  exact ((((hE1.trans hE5 fun _ _ h => h).mono fun _ _ h => h.elim).trans hU6 fun _ _ e => e).trans hU7 fun c hc e => by omega)
 obtain ⟨sl, i, pl, bd, ne, st, g1, g2, g3, g4, g5⟩ := h5.ex
 have hl := g2.len
 rw [jb0] at hl
 have hL := h.tl.len
 cases σ with
 | error x =>
   have hb : (bd == 0) = false := by rw [g5.1]; exact beq_eq_false_iff_ne.2 g5.2.1
   refine Jn.mk (fun j H' => H5 = H' ∧ j = false) (fun kk hkk => jag ((g1.cell 3).trans rfl) ?_) ?_
   ·rw [hb]; exact (Br_false _ _).2 (hkk _ _ ⟨rfl, rfl⟩)
   rintro _ _ ⟨rfl, rfl⟩
   exact (Br_false _ _).2 (fin H5 (.refl _ _) h5)
 | ok s =>
   have hb : (bd == 0) = true := by rw [g5.1]; rfl
   have hhd : s.hd = L[i] := by
    unfold PS.hd
    rw [g5.2.1, List.drop_eq_getElem_cons g4]; rfl
   have hmore := jls h.tl g4 (by rw [← hhd]; exact hk0 s rfl)
   refine Jn.mk (fun j H' => H5 = H' ∧ j = true) (fun kk hkk => jag ((g1.cell 3).trans rfl) ?_) ?_
   ·rw [hb]
    refine (Br_true _ _).2 (jag ((g1.cell 1).trans rfl) (Lt.mk (u := ((i + 1 : Nat) : Int)) (by rw [jac] <;> omega) (jao ((g1.cell 0).trans rfl) (hkk _ _ ⟨rfl, decide_eq_true (by omega)⟩))))
   rintro _ _ ⟨rfl, rfl⟩
   simp only [Jn]
   refine (Br_true _ _).2 (jag ((g1.cell 1).trans rfl) (Lt.mk (u := ((i + 1 : Nat) : Int)) (by rw [jac] <;> omega) ?_))
   refine jat g1 (by simp) fun H6 hU6 _ hr6 => fin H6 hU6 ?_
   have hne := h.ne
   refine ⟨⟨sl, i + 1, pl, bd, ne, st, hr6, g2.upd hU6 fun c hc e => by rw [g3] at hc; cases hc; exact hne e.symm, g3, hmore, ?_⟩, h.tl, h.sg, h.ne⟩
   obtain ⟨y1, y2, y3, y4, y5, y6⟩ := g5
   refine ⟨y1, ?_, y3, y4, y5, y6⟩
   show s.toks.tail = L.drop (i + 1)
   rw [y2, List.tail_drop]
theorem jbj (h : DR H b tb L σ) (w : Txt) : Wd jeK [.pointer (some (adr b)), .string ⟨⟨w⟩⟩] jlc b tb L H (th σ (jaA w)) fun t d _ => d = jg8 t := by
 intro k hk
 refine cQc0 _ _ ?_
 unfold vQc0
 simp only [adr_add]
 refine jak (vs := [.int .i64 0, .string ByteArray.empty, .int .i64 0]) fun b1 H1 hb1 hE1 _ hr1 => jbM (h.ext hE1) fun H2 hE2 => ?_
 have hE12 := hE1.trans hE2 fun _ _ h => h
 have h2 := h.ext hE12
 have htl := h.tlt
 have hlb := h.lt
 have hs1 := hE1.size
 have hr2 := hE2.row hr1 fun h => h
 refine Jn.mk (fun _ H' => ∃ τ, Upd (· = b) H2 H' ∧ DR H' b tb L τ ∧ ((isD w σ = true ∧ τ = σ) ∨ (isD w σ = false ∧ τ = jne 100 σ))) (fun kk hkk => ?_) ?_
 ·cases hn : isD w σ with
  | true => exact (Br_false _ _).2 (hkk _ _ ⟨σ, .refl _ _, h2, .inl ⟨hn, rfl⟩⟩)
  | false => exact (Br_true _ _).2 (jdB h2 (by decide) fun H3 hU3 h3 => hkk _ _ ⟨_, hU3, h3, .inr ⟨hn, rfl⟩⟩)
 rintro _ H3 ⟨τ, hU3, h3, hc⟩
 have hr3 := hU3.row hr2 (by omega)
 have hU03 : Upd (· = b) H H3 := (ExU hE12).trans hU3 fun _ _ e => e
 refine jaY h3 (fun s e => ?_) fun t H4 hU4 h4 ht => ?_
 ·rcases hc with ⟨hn, rfl⟩ | ⟨hn, rfl⟩
  ·obtain ⟨s2, e2, hn2⟩ := jez hn
   rw [e2] at e; cases e; exact jaB hn2
  ·cases σ <;> cases e
 ·refine jfI rfl (hU4.row hr3 (by omega)) fun H5 hU5 => ?_
  refine hk _ H5 t (jmt τ) ?_ ((hU03.trans hU4 fun _ _ e => e).trans hU5 fun c hc e => by omega) (h4.young hU5 (by omega) (by omega)) rfl
  rcases hc with ⟨hn, rfl⟩ | ⟨hn, rfl⟩
  ·obtain ⟨s2, rfl, hn2⟩ := jez hn
   rw [jaC]
   unfold jaA
   rw [hn2]
   exact ⟨(ht s2 rfl).symm, rfl⟩
  ·cases σ with
   | error e => exact rfl
   | ok s =>
     have hn : jaf w s = false := hn
     rw [jaC]
     unfold jaA
     rw [hn]
     exact rfl
theorem jco (h : DR H b tb L σ) : Wd jkG [.pointer (some (adr b))] jlc b tb L H (th σ jaQ) fun t d _ => d = jg8 t := by
 intro k hk
 refine cQc1 _ ?_
 unfold vQc1
 simp only [adr_add]
 refine jak (vs := [.int .i64 0, .string ByteArray.empty, .int .i64 0]) fun b1 H1 hb1 hE1 _ hr1 => jcN (h.ext hE1) fun H2 hE2 => ?_
 have hE12 := hE1.trans hE2 fun _ _ h => h
 have h2 := h.ext hE12
 have htl := h.tlt
 have hlb := h.lt
 have hs1 := hE1.size
 have hr2 := hE2.row hr1 fun h => h
 refine Jn.mk (fun _ H' => ∃ τ, Upd (· = b) H2 H' ∧ DR H' b tb L τ ∧ ((nmD σ = true ∧ τ = σ) ∨ (nmD σ = false ∧ τ = jne 100 σ))) (fun kk hkk => ?_) ?_
 ·cases hn : nmD σ with
  | true => exact (Br_false _ _).2 (hkk _ _ ⟨σ, .refl _ _, h2, .inl ⟨hn, rfl⟩⟩)
  | false => exact (Br_true _ _).2 (jdB h2 (by decide) fun H3 hU3 h3 => hkk _ _ ⟨_, hU3, h3, .inr ⟨hn, rfl⟩⟩)
 rintro _ H3 ⟨τ, hU3, h3, hc⟩
 have hr3 := hU3.row hr2 (by omega)
 have hU03 : Upd (· = b) H H3 := (ExU hE12).trans hU3 fun _ _ e => e
 refine jaY h3 (fun s e => ?_) fun t H4 hU4 h4 ht => ?_
 ·rcases hc with ⟨hn, rfl⟩ | ⟨hn, rfl⟩
  ·obtain ⟨s2, e2, hn2⟩ := nmD_t hn
   rw [e2] at e; cases e; exact jdR hn2
  ·cases σ <;> cases e
 ·refine jfI rfl (hU4.row hr3 (by omega)) fun H5 hU5 => ?_
  refine hk _ H5 t (jmt τ) ?_ ((hU03.trans hU4 fun _ _ e => e).trans hU5 fun c hc e => by omega) (h4.young hU5 (by omega) (by omega)) rfl
  rcases hc with ⟨hn, rfl⟩ | ⟨hn, rfl⟩
  ·obtain ⟨s2, rfl, hn2⟩ := nmD_t hn
   rw [jaC]
   unfold jaQ
   rw [hn2]
   exact ⟨(ht s2 rfl).symm, rfl⟩
  ·cases σ with
   | error e => exact rfl
   | ok s =>
     have hn : jas s = false := hn
     rw [jaC]
     unfold jaQ
     rw [hn]
     exact rfl
def deepD : DS → DS
 | .ok s => .ok { s with deep := s.deep + 1 }
 | .error x => .error x
theorem je0 (h : DR H b tb L σ) : Wd jmI [.pointer (some (adr b))] (.tup []) b tb L H (th σ jbs) fun _ _ _ => True := by
 intro k hk
 refine cQc6 _ ?_
 unfold vQc6
 simp only [adr_add, NilCk_some]
 obtain ⟨sl, i, t, bd, ne, st, r0, r1, r3, r4, r5, hx, ht, hs, hb, hn, _⟩ := h.rd
 refine jag r4 ?_
 have fin : ∀ H1 τ, Upd (· = b) H H1 → DR H1 b tb L τ → (∀ s, τ = .ok s → s.deep < 20) → Px (th σ jbs) () (deepD τ) → Ld (.int .i64) ⟨b, 4, none⟩ H1 fun (x2 : Int) => Lt (IntKind.wrap .i64 (x2 + 1)) fun t1 => St ⟨b, 4, none⟩ (.int .i64 t1) H1 fun H3 => k () H3 := by
  intro H1 τ hU1 h1 hlt hpx
  obtain ⟨sl, i, t, bd, ne, st, r0, r1, r3, r4, r5, hx, ht, hs, hb, hn, _⟩ := h1.rd
  refine jag r4 ?_
  refine h1.poke (τ := deepD τ) (by decide) (fun sl i pl bd ne' st hi hv => ?_) fun H2 hU2 h2 => hk () H2 () _ hpx (hU1.trans hU2 fun _ _ e => e) h2 trivial
  refine ⟨i, pl, bd, _, st, hi, rfl, ?_⟩
  cases τ with
  | error x => exact hv
  | ok s =>
    obtain ⟨y1, y2, y3, y4, y5, y6⟩ := hv
    have hd := (hn s rfl).1
    have hlt := hlt s rfl
    refine ⟨y1, y2, ?_, y4, ⟨?_, ?_⟩, y6⟩
    ·show IntKind.wrap .i64 (ne + 1) = s.deep + 1
     rw [hd, jac] <;> omega
    ·show 0 ≤ s.deep + 1; omega
    ·show s.deep + 1 ≤ 20; omega
 simp only [Jn]
 cases σ with
 | error x =>
   refine jaj (fun _ => jdB h (by decide) fun H1 hU1 h1 => fin H1 _ hU1 h1 (fun s e => by cases e) rfl) fun _ => fin H _ (.refl _ _) h (fun s e => by cases e) rfl
 | ok s =>
   obtain ⟨_, _, _, _, _, _, _, _, _, _, g5⟩ := h.ex
   have hd := (hn s rfl).1
   have hr : 0 ≤ s.deep ∧ s.deep ≤ 20 := g5.2.2.2.2.1
   refine jaj (fun hge => jdB h (by decide) fun H1 hU1 h1 => fin H1 _ hU1 h1 (fun s e => by cases e) ?_) fun hlt => fin H _ (.refl _ _) h (fun s' e => by cases e; omega) ?_
   ·rw [jaC]; unfold jbs; rw [if_pos (by omega)]; exact rfl
   ·rw [jaC]; unfold jbs; rw [if_neg (by omega)]; exact ⟨rfl, rfl⟩
def upD : DS → DS
 | .ok s => .ok s.up
 | .error x => .error x
theorem jiQ (h : DR H b tb L σ) {d : Int} (hd : dpD σ (d + 1)) (h0 : 0 ≤ d) {k : jaa → Prop} (hk : ∀ H', Upd (· = b) H H' → DR H' b tb L (upD σ) → k H') :
 Ld (.int .i64) ⟨b, 4, none⟩ H fun (x2 : Int) => Lt (IntKind.wrap .i64 (x2 - 1)) fun t1 => St ⟨b, 4, none⟩ (.int .i64 t1) H fun H3 => k H3 := by
 obtain ⟨sl, i, t, bd, ne, st, r0, r1, r3, r4, r5, hx, ht, hs, hb, hn, _⟩ := h.rd
 refine jag r4 ?_
 refine h.poke (τ := upD σ) (by decide) (fun sl i pl bd ne' st hi hv => ?_) fun H2 hU2 h2 => hk H2 hU2 h2
 refine ⟨i, pl, bd, _, st, hi, rfl, ?_⟩
 cases σ with
 | error x => exact hv
 | ok s =>
   obtain ⟨y1, y2, y3, y4, y5, y6⟩ := hv
   have hdd := hd s rfl
   have hne := (hn s rfl).1
   refine ⟨y1, y2, ?_, y4, ⟨?_, ?_⟩, y6⟩
   ·show IntKind.wrap .i64 (ne - 1) = s.deep - 1
    rw [hne, jac] <;> omega
   ·show 0 ≤ s.deep - 1; omega
   ·show s.deep - 1 ≤ 20; omega
theorem jeA (h : DR H b tb L σ) {r : Sl} {l : List Txt} (hv : Vec H jcC r (l.map fun t => (Value.string ⟨⟨t⟩⟩))) (hl : l.length ≤ 1000) {k : Bool → jaa → Prop} (hk : ∀ H', Ext H H' → k (l.any fun w => isD w σ) H') : CallT Pg fQdt [.pointer (some (adr b)), .slice r.a r.len r.cap] (.one (.c .bool)) H k := by
 refine cQdi _ _ ?_
 unfold vQdi
 have hlen : r.len = l.length := by rw [hv.len, List.length_map]
 refine LoopT.ghost (fun m st H' => ∃ j : Nat, Ext H H' ∧ st = (j : Nat) ∧ m = l.length - j ∧ j ≤ l.length ∧ ((l.take j).any fun w => isD w σ) = false) l.length ⟨0, .refl _ _, rfl, rfl, Nat.zero_le _, rfl⟩ ?_
 rintro next m _ H1 ⟨j, hE, rfl, rfl, hj, hno⟩ hnext
 refine jaj (fun hlt => ?_) fun hge => ?_
 ·have hj' : j < l.length := by omega
  refine jcy (hv.upd hE fun _ _ h => h) (by omega) (by rw [List.length_map]; omega) fun ad hc _ => ?_
  have hc : hcell H1 ad = some (.string ⟨⟨l[j]⟩⟩) := hc.trans (by simp [List.getElem?_eq_getElem hj'])
  refine jam hc (jbM (h.ext hE) fun H2 hE2 => ?_)
  have hE' := hE.trans hE2 fun _ _ h => h
  have htk : l.take (j + 1) = l.take j ++ [l[j]] := by rw [List.take_succ_eq_append_getElem hj']
  cases hn : isD l[j] σ with
  | true =>
    have : (l.any fun w => isD w σ) = true := List.any_eq_true.2 ⟨l[j], List.getElem_mem _, hn⟩
    exact (Br_true _ _).2 (this ▸ hk _ hE')
  | false =>
    refine (Br_false _ _).2 (Lt.mk (u := ((j + 1 : Nat) : Int)) (by rw [jac] <;> omega) (hnext (l.length - (j + 1)) _ _ (by omega) ⟨j + 1, hE', rfl, rfl, by omega, ?_⟩))
    rw [htk, List.any_append, hno, List.any_cons, hn]; rfl
 ·have : (l.any fun w => isD w σ) = false := by
   rw [List.take_of_length_le (by omega)] at hno; exact hno
  exact this ▸ hk _ hE
end
section
open Hc Hc.Lex Hc.Syn
variable {H : jaa} {b tb : Nat} {L : List Tk} {σ τ : DS}
theorem ja8 {α β γ : Type} (A : R α) (F : α → PS → R β) (F2 : β → PS → R γ) : (A.bind F).bind F2 = A.bind fun a s => (F a s).bind F2 := by
 cases A with
 | none => rfl
 | some x => cases x <;> rfl
theorem jge {α : Type} {G : R α} {y : α} (h : To G (th τ fun s => jaE y s.up)) : Px G y (upD τ) := by
 refine h.px y _ ?_
 cases τ with
 | error e => exact rfl
 | ok s => exact ⟨rfl, rfl⟩
theorem je4 {s : PS} {a : Unit} (h : Px (th (.ok s) jbs) a τ) : dpD τ (s.deep + 1) := by
 intro s' e
 subst e
 obtain ⟨s1, e1, h1⟩ := h.was
 cases e1
 unfold jbs at h1
 split at h1
 ·cases h1
 ·obtain ⟨_, rfl⟩ := jaK h1; rfl
abbrev NdD (H : jaa) : Nd → Option Addr → jaa → Prop := fun n d H' => ∃ q, d = some (adr q) ∧ H.size ≤ q ∧ OwD H.size H' n (some q)
theorem jb4 {lo : Nat} {l : Sl} {ns : List Nd} (h : OwnL TD TQ lo H l ns) (hl : lo ≤ H.size) {op num at' : Int} {tx : Txt} {k : Nat → jaa → Prop} (hk : ∀ q H', q = H.size → Ext H H' → Row H' q TD (ndV op tx num l at') → OwD lo H' (.mk op tx num ns at') (some q) → k q H') :
 Nw #[.int .i64 op, .string ⟨⟨tx⟩⟩, .int .i64 num, .slice l.a l.len l.cap, .int .i64 at'] TD H k := by
 refine jak (vs := ndV op tx num l at') fun q H1 hq hE _ hr => hk q H1 hq hE hr ?_
 exact Own.node h hE hq hl hr
theorem jkc {op num at' : Int} {tx : ByteArray} {k : Nat → jaa → Prop} (hk : ∀ q H', q = H.size → Ext H H' → OwD H.size H' (.mk op tx.data.toList num [] at') (some q) → k q H') :
 Nw #[.int .i64 op, .string tx, .int .i64 num, .slice none 0 0, .int .i64 at'] TD H k :=
 jb4 (l := ⟨none, 0, 0⟩) (tx := tx.data.toList) (OwnL.nil _ _) (Nat.le_refl _) fun q H' hq hE _ ho => hk q H' hq hE ho
theorem jlr {l : List Txt} {e : Int × Int} : (l.any fun w => isD w (.error e)) = false := by
 induction l with
 | nil => rfl
 | cons w l ih => rw [List.any_cons, ih]; rfl
theorem jbS {b1 : Nat} {l : List Txt} (hr : Row H b1 jcC (l.map fun t => (Value.string ⟨⟨t⟩⟩))) : Vec H jcC ⟨some (adr b1), l.length, l.length⟩ (l.map fun t => (Value.string ⟨⟨t⟩⟩)) :=
 ⟨by rw [List.length_map], .inr ⟨b1, [], rfl, by simpa using hr, by simp⟩, Nat.le_refl _⟩
variable {e : Int × Int}
theorem jhO (h : DR H b tb L (.error e)) (P : PS → R Nd) : Wd fQdu [pA b] (.one (.c .ptr)) b tb L H (th (.error e) P) (NdD H) := by
 intro k hk
 refine cQdj _ ?_
 unfold vQdj
 simp only [adr_add, NilCk_some]
 refine jjG h fun t b1 H4 hb1 hE4 hr4 ht hs => jag ((hr4.cell 2).trans rfl) (jkc fun q H5 hq hE5 o5 => ?_)
 have hE05 := hE4.trans hE5 fun _ _ h => h
 refine jcN (h.ext hE05) fun H6 hE6 => ?_
 have hE06 := hE05.trans hE6 fun _ _ h => h
 refine jak (vs := builtinL.map fun t => (Value.string ⟨⟨t⟩⟩)) fun b3 H7 _ hE7 _ hr7 => ?_
 have hE07 := hE06.trans hE7 fun _ _ h => h
 refine jeA (l := builtinL) (h.ext hE07) (jbS hr7) (by decide) fun H8 hE8 => ?_
 have hE08 := hE07.trans hE8 fun _ _ h => h
 refine jak (vs := [[116, 105, 99, 107], [109, 101]].map fun t => (Value.string ⟨⟨t⟩⟩)) fun b4 H9 _ hE9 _ hr9 => ?_
 have hE09 := hE08.trans hE9 fun _ _ h => h
 refine jeA (l := [[116, 105, 99, 107], [109, 101]]) (h.ext hE09) (jbS hr9) (by decide) fun H10 hE10 => ?_
 have hE0A := hE09.trans hE10 fun _ _ h => h
 refine jbM (h.ext hE0A) fun H11 hE11 => jbM ((h.ext hE0A).ext hE11) fun H12 hE12 => ?_
 have hE0C := (hE0A.trans hE11 fun _ _ h => h).trans hE12 fun _ _ h => h
 simp only [Jn]
 refine jdf (h.ext hE0C) ((Br_true _ _).2 ?_)
 have hE5C : Ext H5 H12 := ((((((hE6.trans hE7 fun _ _ h => h).trans hE8 fun _ _ h => h).trans hE9 fun _ _ h => h).trans hE10 fun _ _ h => h).trans hE11 fun _ _ h => h).trans hE12 fun _ _ h => h)
 have hs4 := hE4.size
 exact hk _ H12 _ _ rfl (ExU hE0C) (h.ext hE0C) ⟨q, rfl, by omega, (o5.upd hE5C fun _ _ _ h => h).mono hs4⟩
theorem jgz (h : DR H b tb L (.error e)) (P : PS → R Nd) : Wd jnM [pA b] (.one (.c .ptr)) b tb L H (th (.error e) P) (NdD H) := by
 intro k hk
 refine cQdh _ ?_
 unfold vQdh
 simp only [adr_add, NilCk_some]
 refine jak (vs := [[45], [33]].map fun t => (Value.string ⟨⟨t⟩⟩)) fun b3 H1 _ hE1 _ hr1 => ?_
 refine jeA (l := [[45], [33]]) (h.ext hE1) (jbS hr1) (by decide) fun H2 hE2 => ?_
 rw [jlr]
 have hE := hE1.trans hE2 fun _ _ h => h
 refine (Br_true _ _).2 (jhO (h.ext hE) P _ fun d H3 n τ hp hU h3 ⟨q, e1, g1, o1⟩ => ?_)
 have := hE.size
 exact hk d H3 n τ hp ((ExU hE).trans hU fun _ _ e => e) h3 ⟨q, e1, by omega, o1.mono this⟩
theorem jdT : ∀ (m l : Nat) {H : jaa}, l + m = 6 → DR H b tb L (.error e) → ∀ P : PS → R Nd, Wd fQdr [pA b, .int .i64 (l : Nat)] (.one (.c .ptr)) b tb L H (th (.error e) P) (NdD H)
 | 0, l, H, hl, h, P => by
   intro k hk
   refine cQdg _ _ ?_
   unfold vQdg
   have : l = 6 := by omega
   subst this
   refine (Br_true _ _).2 (jgz h P _ fun d H3 n τ hp hU h3 hd => hk d H3 n τ hp hU h3 hd)
 | m + 1, l, H, hl, h, P => by
   intro k hk
   refine cQdg _ _ ?_
   unfold vQdg
   have hne : (((l : Nat) : Int) == 6) = false := beq_eq_false_iff_ne.2 (by omega)
   rw [hne]
   refine (Br_false _ _).2 (Lt.mk (u := ((l + 1 : Nat) : Int)) (by rw [jac] <;> omega) ?_)
   refine jdT m (l + 1) (by omega) h P _ fun d H3 n τ hp hU h3 ⟨q, e1, g1, o1⟩ => ?_
   have hp' : τ = .error e := hp
   subst hp'
   simp only [Jn]
   refine LoopT.ghost (fun m st H' => H3 = H' ∧ st = d) 0 ⟨rfl, rfl⟩ ?_
   rintro next m _ _ ⟨rfl, rfl⟩ hnext
   exact jdf h3 ((Br_false _ _).2 (hk _ H3 n _ hp hU h3 ⟨q, e1, g1, o1⟩))
theorem jhX (h : DR H b tb L (.error e)) (P : PS → R Nd) : Wd jh7 [pA b] (.one (.c .ptr)) b tb L H (th (.error e) P) (NdD H) := by
 intro k hk
 refine cQdd _ ?_
 unfold vQdd
 refine jdT 6 0 rfl h P _ fun d H3 n τ hp hU h3 ⟨q, e1, g1, o1⟩ => ?_
 have hp' : τ = .error e := hp
 subst hp'
 refine jbM h3 fun H4 hE4 => (Br_true _ _).2 ?_
 exact hk _ H4 n _ hp (upE hU hE4) (h3.ext hE4) ⟨q, e1, g1, o1.mv (ExU (b := b) hE4) h.lt⟩
structure WkD (f : Nat) : Prop where
 ex : ∀ {H : jaa} {b tb : Nat} {L : List Tk} {σ : DS}, DR H b tb L σ → th σ (exP f 0) ≠ none → Wd jh7 [pA b] (.one (.c .ptr)) b tb L H (th σ (exP f 0)) (NdD H)
 bi : ∀ {H : jaa} {b tb : Nat} {L : List Tk} {σ : DS} (l : Nat), l ≤ 6 → DR H b tb L σ → th σ (exP f (l + 1)) ≠ none → Wd fQdr [pA b, .int .i64 (l : Nat)] (.one (.c .ptr)) b tb L H (th σ (exP f (l + 1))) (NdD H)
 un : ∀ {H : jaa} {b tb : Nat} {L : List Tk} {σ : DS}, DR H b tb L σ → th σ (exP f 7) ≠ none → Wd jnM [pA b] (.one (.c .ptr)) b tb L H (th σ (exP f 7)) (NdD H)
 pr : ∀ {H : jaa} {b tb : Nat} {L : List Tk} {σ : DS}, DR H b tb L σ → th σ (jbh f) ≠ none → Wd fQdu [pA b] (.one (.c .ptr)) b tb L H (th σ (jbh f)) (NdD H)
def OwP (A : Nat → Prop) (H : jaa) (ns : List Nd) (qs : List (Option Nat)) : Prop := ∃ fp, TrL TD TQ H ns qs fp ∧ fp.Nodup ∧ ∀ x ∈ fp, A x
theorem OwP.one {lo : Nat} {n : Nd} {q : Option Nat} (h : OwD lo H n q) {A : Nat → Prop} (hA : ∀ x, lo ≤ x → x < H.size → A x) : OwP A H [n] [q] := by
 obtain ⟨fp, h1, h2, h3⟩ := (OwnT.one h).ex
 exact ⟨fp, h1, h2, fun x hx => hA x (h3 x hx) (h1.lt x hx)⟩
theorem OwP.upd {A M : Nat → Prop} {H' : jaa} {ns : List Nd} {qs : List (Option Nat)} (h : OwP A H ns qs) (hU : Upd M H H') (hM : ∀ x, A x → x < H.size → ¬ M x) : OwP A H' ns qs := by
 obtain ⟨fp, h1, h2, h3⟩ := h
 exact ⟨fp, h1.upd hU fun x hx => hM x (h3 x hx) (h1.lt x hx), h2, h3⟩
theorem OwP.more {A M : Nat → Prop} {H' : jaa} {ns : List Nd} {qs : List (Option Nat)} (h : OwP A H ns qs) (hU : Upd M H H') (hM : ∀ x, A x → x < H.size → ¬ M x) {n : Nd} {q : Option Nat} (hn : OwD H.size H' n q) (hA : ∀ x, H.size ≤ x → A x) : OwP A H' (ns ++ [n]) (qs ++ [q]) := by
 obtain ⟨fp, h1, h2, h3⟩ := h
 obtain ⟨f, k1, k2, k3⟩ := hn.ex
 refine ⟨fp ++ f, TrL.snoc k1 (h1.upd hU fun x hx => hM x (h3 x hx) (h1.lt x hx)), List.nodup_append.2 ⟨h2, k2, fun x hx y hy e => ?_⟩, fun x hx => ?_⟩
 ·have := h1.lt x hx; have := k3 y hy; omega
 ·rcases List.mem_append.1 hx with g | g
  ·exact h3 x g
  ·exact hA x (k3 x g)
theorem OwP.give {A : Nat → Prop} {ns : List Nd} {qs : List (Option Nat)} (t : OwP A H ns qs) {b1 lo : Nat} {op num at' : Int} {tx : Txt} (hr : Row H b1 TD (ndV op tx num ⟨none, 0, 0⟩ at')) (hA : ∀ x, A x → lo ≤ x ∧ x ≠ b1) (hlb : lo ≤ b1) {m : Nat} (hm : qs.length = m) {K : jaa → Prop}
 (hK : ∀ H', Upd (· = b1) H H' → OwD lo H' (.mk op tx num ns at') (some b1) → K H') : Nw (qs.map jb3).toArray TQ H fun b2 H1 => St ⟨b1, 3, none⟩ (.slice (some (adr b2)) m m) H1 fun H2 => K H2 := by
 obtain ⟨fp, h1, h2, h3⟩ := t
 have hlt := hr.lt
 refine jak (vs := qs.map jb3) fun b2 H1 hb2 hE1 _ hr2 => jat (hE1.row hr fun h => h) (by simp) fun H2 hU2 _ hr3 => hK H2 ((ExU hE1).trans hU2 fun _ _ e => e) ?_
 have hne : b2 ≠ b1 := by omega
 refine ⟨b1 :: (b2 :: fp), ⟨b1, ⟨some (adr b2), m, m⟩, qs, fp, rfl, hr3, ⟨by simp [hm], .inr ⟨b2, [], rfl, by simpa using hU2.row hr2 hne, by simp [hm]⟩, Nat.le_refl _⟩, (h1.upd hE1 fun _ _ h => h).upd hU2 fun x hx e => (hA x (h3 x hx)).2 e, rfl⟩, List.nodup_cons.2 ⟨fun hx => ?_, List.nodup_cons.2 ⟨fun hx => ?_, h2⟩⟩, fun x hx => ?_⟩
 ·rcases List.mem_cons.1 hx with g | g
  ·exact hne g.symm
  ·exact (hA b1 (h3 b1 g)).2 rfl
 ·have := h1.lt b2 hx; omega
 ·rcases List.mem_cons.1 hx with rfl | hx
  ·exact hlb
  ·rcases List.mem_cons.1 hx with rfl | hx
   ·omega
   ·exact (hA x (h3 x hx)).1
theorem rx_cond {f : Nat} (ih : WkD f) {s : PS} (h : DR H b tb L (.ok s)) (hne : exP (f + 1) 0 s ≠ none) : Wd jh7 [pA b] (.one (.c .ptr)) b tb L H (exP (f + 1) 0 s) (NdD H) := by
 intro k hk
 refine cQdd _ ?_
 unfold vQdd
 simp only [adr_add, NilCk_some]
 have hlb := h.lt
 have hG := (To.refl hne).eq (show _ = (exP f 1 s).bind fun n s => if jaf [63] s then
  (jby [63] s).bind fun t s => (exP f 0 s).bind fun y s => (jaA [58] s).bind fun _ s => (exP f 0 s).bind fun z s => jaE (node 35 t [n, y, z]) s.up
  else jaE n s by rw [exP, if_pos rfl])
 refine ih.bi 0 (by decide) h hG.part _ fun d1 H1 n τ1 hp1 hU1 h1 ⟨q1, e1, g1, o1⟩ => ?_
 subst e1
 have hG := hG.step hp1
 refine jbM h1 fun H2 hE2 => ?_
 have hU2 := upE hU1 hE2
 have h2 := h1.ext hE2
 have o2 := o1.mv (ExU (b := b) hE2) hlb
 cases hn : isD [63] τ1 with
 | false => exact (Br_true _ _).2 (hk _ H2 n τ1 (hG.eq (jjP hn _ _)).ret hU2 h2 ⟨q1, rfl, g1, o2⟩)
 | true =>
   refine (Br_false _ _).2 ?_
   obtain ⟨s1, rfl, hn1⟩ := jez hn
   have hG := hG.eq ((jgW hn _ _).trans (show _ = (jbs s1).bind fun _ s => (jaA [63] s).bind fun t s => (exP f 0 s).bind fun y s => (jaA [58] s).bind fun _ s => (exP f 0 s).bind fun z s => jaE (node 35 t [n, y, z]) s.up by rw [jaC, jhS hn1, ja8]))
   refine je0 h2 _ fun _ H3 _ τ3 hp3 hU3 h3 _ => ?_
   have d3 := je4 hp3
   have hd0 := h2.ex
   have hG := (hG.step hp3).eq (jan _ _ _)
   refine jbj h3 [63] _ fun dt H4 t τ4 hp4 hU4 h4 et => ?_
   subst et
   have d4 := hp4.dp d3 fun _ _ _ => jbF
   have hG := (hG.step hp4).eq (jan _ _ _)
   have hU24 := upU hU3 hU4
   refine jak (vs := ndV 35 [] 0 ⟨none, 0, 0⟩ (t.at' : Nat)) fun b1 H5 hb1 hE5 _ hr5 => ?_
   have hs2 := hU2.size
   have hs4 := hU24.size
   have hlb2 := h2.lt
   have o4 := (o2.mv hU24 hlb).mv (ExU (b := b) hE5) hlb
   have t5 : OwP (fun x => H.size ≤ x ∧ x ≠ b1) H5 [n] [some q1] := (OwP.one (o2.mv hU24 hlb) (A := fun x => H.size ≤ x ∧ x ≠ b1) fun x hx hlt => ⟨hx, by omega⟩).upd hE5 fun _ _ _ h => h
   have h5 := h4.ext hE5
   refine ih.ex h5 hG.part _ fun d6 H6 y τ6 hp6 hU6 h6 ⟨q6, e6, g6, o6⟩ => ?_
   subst e6
   have d6 := hp6.dp d4 fun _ _ _ => jeD
   have hG := (hG.step hp6).eq (jan _ _ _)
   have hs5 := hE5.size
   have hb15 : b1 < H5.size := hr5.lt
   have t6 := t5.more hU6 (fun x hx _ e => by omega) o6 (fun x hx => ⟨by omega, by omega⟩)
   have r6 := hU6.row hr5 (by omega)
   refine jbj h6 [58] _ fun dt2 H7 t2 τ7 hp7 hU7 h7 et2 => ?_
   subst et2
   have d7 := hp7.dp d6 fun _ _ _ => jbF
   have hG := (hG.step hp7).eq (jan _ _ _)
   have t7 := t6.upd hU7 (fun x hx _ e => by omega)
   have r7 := hU7.row r6 (by omega)
   have hs6 := hU6.size
   have hs7 := hU7.size
   refine ih.ex h7 hG.part _ fun d8 H8 z τ8 hp8 hU8 h8 ⟨q8, e8, g8, o8⟩ => ?_
   subst e8
   have d8 := hp8.dp d7 fun _ _ _ => jeD
   have hG := hG.step hp8
   have t8 := t7.more hU8 (fun x hx _ e => by omega) o8 (fun x hx => ⟨by omega, by omega⟩)
   have r8 := hU8.row r7 (by omega)
   have hs8 := hU8.size
   have h0 : 0 ≤ s1.deep := by
    obtain ⟨_, _, _, _, _, _, _, _, _, _, g⟩ := h2.ex
    exact g.2.2.2.2.1.1
   refine jiQ h8 d8 h0 fun H9 hU9 h9 => ?_
   have t9 := t8.upd hU9 (fun x hx _ e => by omega)
   have r9 := hU9.row r8 (by omega)
   have hU09 : Upd (· = b) H H9 := upU (upU (upU (upU (upE (upU hU2 hU24) hE5) hU6) hU7) hU8) hU9
   have hlt := h.tlt
   refine OwP.give (qs := [some q1, some q6, some q8]) t9 r9 (lo := H.size) (fun x hx => hx) (by omega) rfl fun H11 hU11 o11 => ?_
   refine hk _ H11 _ _ (jge hG) (hU09.trans hU11 fun x hx e => by omega) (h9.young hU11 (by omega) (by omega)) ⟨b1, rfl, by omega, o11⟩
end
end Go.Proofs.YtfpmgpblhhcpgaaGreatDoor
namespace Go.Proofs.YtfpmgpblhhcpgaaGreatDoor.Hc.Syn
set_option maxRecDepth 100000
section
open Go Hc Hc.Lex
theorem jkr (k : Bs) : ∀ (l : Bs) (a : Nat), jb7 a (l ++ k) = jb7 (jb7 a l) k := by
 intro l
 induction l with
 | nil => intro a; rfl
 | cons c l ih => intro a; exact ih _
end
end Go.Proofs.YtfpmgpblhhcpgaaGreatDoor.Hc.Syn
namespace Go.Proofs.YtfpmgpblhhcpgaaGreatDoor
set_option maxRecDepth 100000
section
open Hc Hc.Lex Hc.Syn
variable {H : jaa} {b tb : Nat} {L : List Tk} {σ τ : DS}
theorem jil {s s' : PS} {a : Unit} (h : Px (th (.ok s) jbs) a (.ok s')) : s'.hd = s.hd ∧ s'.toks = s.toks := by
 obtain ⟨s1, e1, h1⟩ := h.was
 cases e1
 unfold jbs at h1
 split at h1
 ·cases h1
 ·obtain ⟨_, rfl⟩ := jaK h1; exact ⟨rfl, rfl⟩
theorem DR.d0 {s : PS} (h : DR H b tb L (.ok s)) : 0 ≤ s.deep := by
 obtain ⟨_, _, _, _, _, _, _, _, _, _, g⟩ := h.ex
 exact g.2.2.2.2.1.1
theorem DR.tok {s : PS} (h : DR H b tb L (.ok s)) : s.hd ∈ L := by
 obtain ⟨_, _, t, _, _, _, _, _, _, _, _, _, ht, hs, _⟩ := h.rd
 rw [hs s rfl]; exact ht
theorem jm7 {t : Txt} (hd : t.all jau = true) (hm : jb7 0 t ≤ 9223372036854775807) (hl : t.length ≤ 8000) {k : Int → jaa → Prop} (hk : k (jb7 0 t : Nat) H) : CallT Pg fQdv [.string ⟨⟨t⟩⟩] (.one (.c (.int .i64))) H k := by
 refine cQdk _ ?_
 unfold vQdk
 have hsz : (⟨⟨t⟩⟩ : ByteArray).size = t.length := by show t.toArray.size = _; simp
 have hbs : bs (⟨⟨t⟩⟩ : ByteArray) = t := by show t.toArray.toList = t; simp
 refine LoopT.ghost (fun m st H' => ∃ i : Nat, H = H' ∧ st = (((jb7 0 (t.take i) : Nat) : Int), (i : Int)) ∧ m = t.length - i ∧ i ≤ t.length) t.length ⟨0, rfl, rfl, rfl, Nat.zero_le _⟩ ?_
 rintro next m _ _ ⟨i, rfl, rfl, rfl, hi⟩ hnext
 refine jaj (fun hlt => ?_) fun hge => ?_
 ·have hi' : i < t.length := by rw [hsz] at hlt; dsimp only at hlt; omega
  have hdr : t.drop i = t[i] :: t.drop (i + 1) := List.drop_eq_getElem_cons hi'
  have hdig : jau t[i] = true := List.all_eq_true.1 hd _ (List.getElem_mem _)
  have hdg : 48 ≤ t[i].toNat ∧ t[i].toNat ≤ 57 := by
   unfold jau at hdig; simpa using hdig
  have htk : t.take (i + 1) = t.take i ++ [t[i]] := by rw [List.take_succ_eq_append_getElem hi']
  have hstep : jb7 0 (t.take (i + 1)) = jb7 0 (t.take i) * 10 + (t[i].toNat - 48) := by rw [htk, jkr _ _]; rfl
  have hle : jb7 0 (t.take (i + 1)) ≤ jb7 0 t := by
   have : jb7 0 t = jb7 (jb7 0 (t.take (i + 1))) (t.drop (i + 1)) := by rw [← jkr _ _, List.take_append_drop]
   rw [this]; exact jjx _ _
  dsimp only
  refine Lt.mk (u := ((jb7 0 (t.take i) * 10 : Nat) : Int)) (by rw [jac] <;> omega) ?_
  refine jaX (s := ⟨⟨t⟩⟩) (by rw [hbs]; exact hdr) rfl ?_
  refine Lt.mk (u := ((t[i].toNat - 48 : Nat) : Int)) (by rw [jmf]; omega) ?_
  refine Lt.mk (u := ((jb7 0 (t.take (i + 1)) : Nat) : Int)) (by rw [jac (x := ((t[i].toNat - 48 : Nat) : Int)), jac] <;> omega) ?_
  refine Lt.mk (u := ((i + 1 : Nat) : Int)) (by rw [jac] <;> omega) ?_
  exact hnext _ _ _ (by omega) ⟨i + 1, rfl, rfl, rfl, by omega⟩
 ·have : i = t.length := by rw [hsz] at hge; dsimp only at hge; omega
  subst this
  rw [List.take_length]
  exact hk
def lvT : Nat → List Txt
 | 0 => [[124, 124]]
 | 1 => [[38, 38]]
 | 2 => [[61, 61], [33, 61]]
 | 3 => [[60], [60, 61], [62], [62, 61]]
 | 4 => [[43], [45]]
 | 5 => [[42], [47], [37]]
 | _ => []
theorem lvT_in {l : Nat} {t : Txt} (h : t ∈ lvT l) : jbi t = l + 1 ∧ jdI t = false := by
 match l, h with
 | 0, h => simp only [lvT, List.mem_cons, List.not_mem_nil, or_false] at h; subst h; decide
 | 1, h => simp only [lvT, List.mem_cons, List.not_mem_nil, or_false] at h; subst h; decide
 | 2, h => simp only [lvT, List.mem_cons, List.not_mem_nil, or_false] at h; rcases h with rfl | rfl <;> decide
 | 3, h => simp only [lvT, List.mem_cons, List.not_mem_nil, or_false] at h; rcases h with rfl | rfl | rfl | rfl <;> decide
 | 4, h => simp only [lvT, List.mem_cons, List.not_mem_nil, or_false] at h; rcases h with rfl | rfl <;> decide
 | 5, h => simp only [lvT, List.mem_cons, List.not_mem_nil, or_false] at h; rcases h with rfl | rfl | rfl <;> decide
 | n + 6, h => simp [lvT] at h
theorem lvT_of {l : Nat} {t : Txt} (h : jbi t = (l : Int) + 1) : t ∈ lvT l := by
 unfold jbi at h
 split at h
 ·rename_i e; have : l = 0 := by omega
  subst this; subst e; decide
 split at h
 ·rename_i e; have : l = 1 := by omega
  subst this; subst e; decide
 split at h
 ·rename_i e; have : l = 2 := by omega
  subst this; rcases e with rfl | rfl <;> decide
 split at h
 ·rename_i e; have : l = 3 := by omega
  subst this; rcases e with rfl | rfl | rfl | rfl <;> decide
 split at h
 ·rename_i e; have : l = 4 := by omega
  subst this; rcases e with rfl | rfl <;> decide
 split at h
 ·rename_i e; have : l = 5 := by omega
  subst this; rcases e with rfl | rfl | rfl <;> decide
 ·omega
theorem lv_any {l : Nat} {s : PS} (hw : s.hd.kind = 1 → jdI s.hd.text = true) : ((lvT l).any fun w => isD w (.ok s)) = decide (s.hd.kind = 3 ∧ jbi s.hd.text = (l : Int) + 1) := by
 rw [Bool.eq_iff_iff, List.any_eq_true, decide_eq_true_eq]
 constructor
 ·rintro ⟨w, hwl, hn⟩
  have hn : jaf w s = true := hn
  unfold jaf at hn
  simp only [Bool.and_eq_true, Bool.or_eq_true, beq_iff_eq] at hn
  obtain ⟨h1, h2⟩ := lvT_in hwl
  rcases hn.2 with g | g
  ·have := hw g; rw [hn.1, h2] at this; cases this
  ·exact ⟨g, by rw [hn.1]; exact h1⟩
 ·rintro ⟨h1, h2⟩
  exact ⟨s.hd.text, lvT_of h2, by show jaf _ s = true; unfold jaf; rw [h1]; simp⟩
theorem s_level {l : Nat} (hl : l ≤ 5) {K : Sl → jaa → Prop} (hK : ∀ r H', Ext H H' → Vec H' jcC r ((lvT l).map fun t => (Value.string ⟨⟨t⟩⟩)) → K r H') :
 CallT Pg fQdj [] (.one (.c .sl)) H fun r4 H6 => IxA 1 r4 (l : Nat) fun a1 => Ld .sl a1 H6 fun x1 => K x1 H6 := by
 refine cQc8 ?_
 unfold vQc8
 refine jak (vs := (lvT 0).map fun t => (Value.string ⟨⟨t⟩⟩)) fun b1 H1 _ hE1 _ hr1 => ?_
 refine jak (vs := (lvT 1).map fun t => (Value.string ⟨⟨t⟩⟩)) fun b2 H2 _ hE2 _ hr2 => ?_
 refine jak (vs := (lvT 2).map fun t => (Value.string ⟨⟨t⟩⟩)) fun b3 H3 _ hE3 _ hr3 => ?_
 refine jak (vs := (lvT 3).map fun t => (Value.string ⟨⟨t⟩⟩)) fun b4 H4 _ hE4 _ hr4 => ?_
 refine jak (vs := (lvT 4).map fun t => (Value.string ⟨⟨t⟩⟩)) fun b5 H5 _ hE5 _ hr5 => ?_
 refine jak (vs := (lvT 5).map fun t => (Value.string ⟨⟨t⟩⟩)) fun b6 H6 _ hE6 _ hr6 => ?_
 refine jak (vs := [slV ⟨some (adr b1), 1, 1⟩, slV ⟨some (adr b2), 1, 1⟩, slV ⟨some (adr b3), 2, 2⟩, slV ⟨some (adr b4), 4, 4⟩, slV ⟨some (adr b5), 2, 2⟩, slV ⟨some (adr b6), 3, 3⟩]) fun b7 H7 _ hE7 _ hr7 => ?_
 have f6 : Ext H6 H7 := hE7
 have f5 := hE6.trans f6 fun _ _ h => h
 have f4 := hE5.trans f5 fun _ _ h => h
 have f3 := hE4.trans f4 fun _ _ h => h
 have f2 := hE3.trans f3 fun _ _ h => h
 have f1 := hE2.trans f2 fun _ _ h => h
 have f0 := hE1.trans f1 fun _ _ h => h
 refine IxA.mk (a := adr b7) rfl (by omega) (by show ((l : Nat) : Int) < 6; omega) ?_
 rw [Nat.mul_one, adr_add, Int.toNat_natCast]
 match l, hl with
 | 0, _ => exact jao ((hr7.cell 0).trans rfl) (hK _ _ f0 (jbS (f1.row hr1 fun h => h)))
 | 1, _ => exact jao ((hr7.cell 1).trans rfl) (hK _ _ f0 (jbS (f2.row hr2 fun h => h)))
 | 2, _ => exact jao ((hr7.cell 2).trans rfl) (hK _ _ f0 (jbS (f3.row hr3 fun h => h)))
 | 3, _ => exact jao ((hr7.cell 3).trans rfl) (hK _ _ f0 (jbS (f4.row hr4 fun h => h)))
 | 4, _ => exact jao ((hr7.cell 4).trans rfl) (hK _ _ f0 (jbS (f5.row hr5 fun h => h)))
 | 5, _ => exact jao ((hr7.cell 5).trans rfl) (hK _ _ f0 (jbS (f6.row hr6 fun h => h)))
theorem jm9 {f : Nat} (ihs : ∀ g, g ≤ f → WkD g) {s : PS} (h : DR H b tb L (.ok s)) (hne : exP (f + 1) 7 s ≠ none) : Wd jnM [pA b] (.one (.c .ptr)) b tb L H (exP (f + 1) 7 s) (NdD H) := by
 intro k hk
 refine cQdh _ ?_
 unfold vQdh
 simp only [adr_add, NilCk_some]
 have hlb := h.lt
 have htl := h.tlt
 refine jak (vs := [[45], [33]].map fun t => (Value.string ⟨⟨t⟩⟩)) fun b3 H1 _ hE1 _ hr1 => ?_
 refine jeA (l := [[45], [33]]) (h.ext hE1) (jbS hr1) (by decide) fun H2 hE2 => ?_
 have hE := hE1.trans hE2 fun _ _ h => h
 have h2 := h.ext hE
 have hs2 := hE.size
 have hx : exP (f + 1) 7 s = if jaf [45] s then unP f [45] s else if jaf [33] s then unP f [33] s else jbh f s := by rw [exP, if_neg (by decide), if_pos rfl]
 have hcase : ((([[45], [33]] : List Txt).any fun w => isD w (.ok s)) = false ∧ exP (f + 1) 7 s = jbh f s) ∨ ((([[45], [33]] : List Txt).any fun w => isD w (.ok s)) = true ∧ ∃ w, jaf w s = true ∧ exP (f + 1) 7 s = unP f w s) := by
  have ea : (([[45], [33]] : List Txt).any fun w => isD w (.ok s)) = (jaf [45] s || (jaf [33] s || false)) := rfl
  rw [ea, hx]
  cases h45 : jaf [45] s with
  | true => exact .inr ⟨rfl, [45], h45, rfl⟩
  | false => cases h33 : jaf [33] s with
    | true => exact .inr ⟨rfl, [33], h33, rfl⟩
    | false => exact .inl ⟨rfl, rfl⟩
 rcases hcase with ⟨hn, e0⟩ | ⟨hn, w, hw, e0⟩
 ·rw [hn]
  refine (Br_true _ _).2 ((ihs f (Nat.le_refl _)).pr h2 (by rw [jaC, ← e0]; exact hne) _ fun d H3 n τ hp hU h3 ⟨q, e1, g1, o1⟩ => ?_)
  exact hk d H3 n τ (by rw [e0]; exact hp) (upU (ExU hE) hU) h3 ⟨q, e1, by omega, o1.mono hs2⟩
 ·rw [hn]
  refine (Br_false _ _).2 ?_
  cases f with
  | zero => exact absurd (by rw [e0, unP]) hne
  | succ f =>
  have hG := (To.refl hne).eq (show _ = (jbs s).bind fun _ s => (jdn s).bind fun t s => (exP f 7 s).bind fun n s => jaE (jaq 34 t [n]) s.up by rw [e0, unP, jiL hw, ja8])
  refine je0 h2 _ fun _ H4 _ τ3 hp3 hU4 h4 _ => ?_
  have d3 := je4 hp3
  have hG := (hG.step hp3).eq (jan _ _ _)
  have hU04 := upU (ExU (b := b) hE) hU4
  refine jaY h4 (fun s' e => by subst e; rw [(jil hp3).1]; exact jaB hw) fun t H5 hU5 h5 ht => ?_
  have hpn := jcb τ3 t ht
  have d5 := hpn.dp d3 fun s a s' e => by obtain ⟨_, rfl⟩ := jaK e; rfl
  have hG := (hG.step hpn).eq (jan _ _ _)
  have hU05 := upU hU04 hU5
  have hs5 := hU05.size
  refine jbe rfl fun b2 H9 hb2 hE9 hr9 => jam ((hr9.cell 1).trans rfl) (jag ((hr9.cell 2).trans rfl) ?_)
  have h9 := h5.ext hE9
  have hU09 := upE hU05 hE9
  have hs9 := hU09.size
  refine (ihs f (by omega)).un h9 hG.part _ fun d6 H10 n τ6 hp6 hU10 h10 ⟨q6, e6, g6, o6⟩ => ?_
  subst e6
  have d6 := hp6.dp d5 fun _ _ _ => jeD
  have hG := hG.step hp6
  have hr10 := hU10.row hr9 (by omega)
  have st : ∀ {H' : jaa}, Row H' b2 jbc (jgu t) → ∀ x ∈ [((⟨b2, 2, none⟩ : Addr), Value.int .i64 (t.at' : Nat)), (⟨b2, 1, none⟩, .string ⟨⟨t.text⟩⟩)], hcell H' x.1 = some x.2 := fun r x hx => by
   simp only [List.mem_cons, List.not_mem_nil, or_false] at hx
   rcases hx with rfl | rfl
   ·exact (r.cell 2).trans rfl
   ·exact (r.cell 1).trans rfl
  refine jaw (st hr10) ?_
  refine OwnT.lit (qs := [some q6]) (OwnT.one (o6.mono hs9)) (by have := hU10.size; omega) rfl fun b5 H11 hb5 hE11 o11 => ?_
  refine jaw (st (hE11.row hr10 fun h => h)) ?_
  have hs10 := hU10.size
  have hs11 := hE11.size
  refine jb4 o11 (by omega) fun q H12 hq hE12 hrq o12 => jaw (st (hE12.row (hE11.row hr10 fun h => h) fun h => h)) ?_
  have h12 := (h10.ext hE11).ext hE12
  refine jiQ h12 d6 h2.d0 fun H13 hU13 h13 => ?_
  exact hk _ H13 _ _ (jge hG) (upU (upE (upE (upU hU09 hU10) hE11) hE12) hU13) h13 ⟨q, rfl, by omega, o12.mv hU13 hlb⟩
end
section
open Hc Hc.Lex Hc.Syn
variable {H : jaa} {b tb : Nat} {L : List Tk} {σ τ : DS}
theorem jl4 {f : Nat} (ihs : ∀ g, g ≤ f → WkD g) {s : PS} (l : Nat) (hl : l ≤ 6) (hun : l = 6 → Wd jnM [pA b] (.one (.c .ptr)) b tb L H (exP (f + 1) 7 s) (NdD H)) (h : DR H b tb L (.ok s)) (hne : exP (f + 1) (l + 1) s ≠ none) :
 Wd fQdr [pA b, .int .i64 (l : Nat)] (.one (.c .ptr)) b tb L H (exP (f + 1) (l + 1) s) (NdD H) := by
 intro k hk
 refine cQdg _ _ ?_
 unfold vQdg
 by_cases h6 : l = 6
 ·subst h6
  exact (Br_true _ _).2 (hun rfl _ hk)
 have hn6 : (((l : Nat) : Int) == 6) = false := beq_eq_false_iff_ne.2 (by omega)
 rw [hn6]
 have hlb := h.lt
 have htl := h.tlt
 have hwr : ∀ x : Int, x = IntKind.wrap .i64 ((l : Int) + 1) → x = ((l + 1 : Nat) : Int) := fun x hx => by rw [hx, jac] <;> omega
 refine (Br_false _ _).2 (Lt.mk (u := ((l + 1 : Nat) : Int)) (hwr _ rfl) ?_)
 have hG := (To.refl hne).eq (show _ = (exP f (l + 2) s).bind fun n s => jhb f (l + 1) n s by rw [exP, if_neg (by omega), if_neg (by omega)])
 refine (ihs f (Nat.le_refl _)).bi (l + 1) (by omega) h hG.part _ fun d1 H1 n τ1 hp1 hU1 h1 ⟨q1, e1, g1, o1⟩ => ?_
 subst e1
 have hG := hG.step hp1
 simp only [Jn, adr_add]
 refine LoopT.ghost (fun m st H' => ∃ n τ q, m ≤ f ∧ st = some (adr q) ∧ Upd (· = b) H H' ∧ DR H' b tb L τ ∧ H.size ≤ q ∧ OwD H.size H' n (some q) ∧ To (exP (f + 1) (l + 1) s) (th τ (jhb m (l + 1) n))) f ⟨n, τ1, q1, Nat.le_refl _, rfl, hU1, h1, g1, o1, hG⟩ ?_
 rintro next m _ H3 ⟨n, τ, q, hm, rfl, hU3, h3, g3, o3, hG⟩ hnext
 refine jdf h3 ?_
 cases τ with
 | error e => exact (Br_false _ _).2 (hk _ H3 n _ ((hG.eq (jj8 e _)).err n) hU3 h3 ⟨q, rfl, g3, o3⟩)
 | ok s' =>
 refine (Br_true _ _).2 ?_
 cases m with
 | zero => exact absurd (by rw [jaC, jhb]) hG.ne
 | succ m =>
 refine s_level (by omega) fun r H4 hE4 hv4 => jeA (h3.ext hE4) hv4 (by match l, h6 with | 0, _ => decide | 1, _ => decide | 2, _ => decide | 3, _ => decide | 4, _ => decide | 5, _ => decide | n + 6, _ => (simp [lvT])) fun H5 hE5 => ?_
 have hE35 := hE4.trans hE5 fun _ _ h => h
 have h5 := h3.ext hE35
 have hU5 := upE hU3 hE35
 have o5 := o3.mv (ExU (b := b) hE35) hlb
 have hgf : ∀ {X Y : R Nd}, th (.ok s') (jhb (m + 1) (l + 1) n) = if s'.hd.kind = 3 ∧ jbi s'.hd.text = ((l + 1 : Nat) : Int) then (exP m (l + 2) s'.take).bind fun m' s'' => jhb m (l + 1) (jaq 33 s'.hd [n, m']) s'' else jaE n s' := by
  intro X Y; rw [jaC, jhb]
 have hG := hG.eq (hgf (X := none) (Y := none))
 rw [lv_any fun e => (h.tl.ok _ h5.tok).word e |>.2]
 rw [show ((l + 1 : Nat) : Int) = (l : Int) + 1 by omega] at hG
 by_cases hc : s'.hd.kind = 3 ∧ jbi s'.hd.text = (l : Int) + 1
 ·rw [if_pos hc] at hG
  rw [decide_eq_true hc]
  refine (Br_false _ _).2 ?_
  refine jaY h5 (fun s2 e => by cases e; rw [hc.1]; decide) fun t H6 hU6 h6 ht => ?_
  have ht := ht s' rfl
  subst ht
  have h6 : DR H6 b tb L (.ok s'.take) := h6
  have hU06 := upU hU5 hU6
  refine jbe rfl fun b1 H10 hb1 hE10 hr10 => Lt.mk (u := ((l + 1 : Nat) : Int)) (hwr _ rfl) ?_
  have h10 := h6.ext hE10
  have hU10 := upE hU06 hE10
  have hs10 := hU10.size
  have hs6 := hU06.size
  have htl6 := h6.tlt
  have hlb6 := h6.lt
  refine (ihs m (by omega)).bi (l + 1) (by omega) h10 (by rw [jaC]; exact hG.part) _ fun d5 H11 y τ5 hp5 hU11 h11 ⟨q5, e5, g5, o5'⟩ => ?_
  subst e5
  have hG := hG.step hp5
  have hr11 := hU11.row hr10 (by omega)
  refine jam ((hr11.cell 1).trans rfl) (jag ((hr11.cell 2).trans rfl) ?_)
  have t11 := ((OwnT.one (o5.mv hU6 hlb)).mv (ExU (b := b) hE10) hlb).more hU11 hlb hs10 o5'
  have hU11' := upU hU10 hU11
  have hs11 := hU11'.size
  refine OwnT.lit (qs := [some q, some q5]) t11 hs11 rfl fun b2 H12 hb2 hE12 o12 => ?_
  have hs12 := hE12.size
  refine jb4 o12 (by omega) fun q' H13 hq hE13 _ o13 => ?_
  exact hnext m _ _ (by omega) ⟨_, τ5, q', by omega, rfl, upE (upE hU11' hE12) hE13, (h11.ext hE12).ext hE13, by omega, o13, hG⟩
 ·rw [if_neg hc] at hG
  rw [decide_eq_false hc]
  exact (Br_true _ _).2 (hk _ H5 n _ (To.ret (τ := .ok s') hG) hU5 h5 ⟨q, rfl, g3, o5⟩)
theorem jlH {lo nb : Nat} {op num at' : Int} {tx : Txt} {ns : List Nd} (h : DR H b tb L σ) (o : OwD lo H (.mk op tx num ns at') (some nb)) (hb : b < lo) (htb : tb < lo) (hlo : lo ≤ H.size) (hlen : ns.length ≤ 2 ^ 40) {f : FuncId} {args : List Value} {res : R Nd}
 (w : Wd f args (.one (.c .ptr)) b tb L H res (NdD H)) {K : jaa → Prop} (hK : ∀ H' n τ, Px res n τ → Upd (fun x => x = b ∨ lo ≤ x) H H' → DR H' b tb L τ → OwD lo H' (.mk op tx num (ns ++ [n]) at') (some nb) → K H') :
 Ld .sl ⟨nb, 3, none⟩ H fun x1 => CallT Pg f args (.one (.c .ptr)) H fun (r6 : Option Addr) H1 => Stab [(⟨nb, 3, none⟩, .slice x1.a x1.len x1.cap)] H1 <| Nw #[.pointer r6] TQ H1 fun b2 H2 => Stab [(⟨nb, 3, none⟩, .slice x1.a x1.len x1.cap)] H2 <|
  App TQ 1 8 #[.pointer none] x1 ⟨some (adr b2), 1, 1⟩ H2 fun l1 H3 => St ⟨nb, 3, none⟩ (.slice l1.a l1.len l1.cap) H3 fun H4 => K H4 := by
 obtain ⟨X, hc, happ⟩ := o.app hlo hlen
 refine jao (hc (.refl (fun _ => False) _) (fun _ _ _ h => h)) ?_
 refine w _ fun d H1 n τ hp hU1 h1 ⟨q, e1, g1, o1⟩ => ?_
 subst e1
 have hnm : ∀ x, lo ≤ x → x < H.size → ¬ (x = b) := fun x hx _ e => by omega
 refine jcc (hc hU1 hnm) (jak (vs := [jb3 (some q)]) fun b2 H2 hb2 hE2 _ hr2 => ?_)
 have hU2 := upE hU1 hE2
 have hs1 := hU1.size
 refine jcc (hc hU2 hnm) (happ hU2 hnm (o1.mv (ExU (b := b) hE2) h.lt) hr2 fun L' H3 hU3 hK3 => hK3 fun H4 hU4 o4 => ?_)
 refine hK H4 n τ hp ?_ ((h1.ext hE2).upd hU4 (fun e => by have := e.1; omega) (fun e => by have := e.1; omega)) o4
 exact (hU2.mono fun x _ e => .inl e).trans hU4 fun x _ e => .inr e.1
theorem up_lo {H0 H1 H2 : jaa} (h : Upd (· = b) H0 H1) (h2 : Upd (fun x => x = b ∨ H0.size ≤ x) H1 H2) : Upd (· = b) H0 H2 := h.trans h2 fun x hx e => by omega
def WdA (f : Nat) : Prop := ∀ {H : jaa} {b tb : Nat} {L : List Tk} {s : PS} {lo nb : Nat} {op num at' : Int} {tx : Txt}, DR H b tb L (.ok s) → OwD lo H (.mk op tx num [] at') (some nb) → b < lo → tb < lo → lo ≤ H.size → jb5 f s ≠ none →
 ∀ k : Unit → jaa → Prop, (∀ H' l τ, Px (jb5 f s) l τ → Upd (fun x => x = b ∨ lo ≤ x) H H' → DR H' b tb L τ → OwD lo H' (.mk op tx num l at') (some nb) → k () H') → CallT Pg fQdx [pA b, .pointer (some (adr nb))] (.tup []) H k
theorem jkQ {lo : Nat} {H1 H2 : jaa} (h : Upd (· = b) H1 H2) : Upd (fun x => x = b ∨ lo ≤ x) H1 H2 := h.mono fun x _ e => .inl e
theorem jn5 {lo : Nat} {H1 H2 : jaa} (h : Ext H1 H2) : Upd (fun x => x = b ∨ lo ≤ x) H1 H2 := h.mono fun x _ e => e.elim
theorem jg7 {lo : Nat} {H1 H2 H3 : jaa} (h : Upd (fun x => x = b ∨ lo ≤ x) H1 H2) (h2 : Upd (fun x => x = b ∨ lo ≤ x) H2 H3) : Upd (fun x => x = b ∨ lo ≤ x) H1 H3 := h.trans h2 fun _ _ e => e
theorem jf9 {lo nb : Nat} {n : Nd} {H1 : jaa} (o : OwD lo H n (some nb)) (hU : Upd (· = b) H H1) (hb : b < lo) : OwD lo H1 n (some nb) := o.mv hU hb
theorem rx_args {f : Nat} (hf : f ≤ 2 ^ 30) (ihs : ∀ g, g ≤ f → WkD g) : WdA (f + 1) := by
 intro H b tb L s lo nb op num at' tx h o hb htb hlo hne k hk
 refine cQdm _ _ ?_
 unfold vQdm
 simp only [adr_add, NilCk_some]
 have hx : jb5 (f + 1) s = (jby [40] s).bind fun _ s => (if jaf [41] s then jaE [] s else (exP f 0 s).bind fun n s => jcE f [n] s).bind fun l s => (jaA [41] s).bind fun _ s => jaE l s.up := by
  rw [jb5]; congr 1; funext _ s; congr 1; funext l s
  show ((jaA [41] s).bind fun _ s => jl0 s).bind _ = _
  rw [ja8]; rfl
 have hG := (To.refl hne).eq hx
 -- the sign, and deeper
 have key : ∀ (K : jaa → Prop), (∀ H4 τ t, Px (jby [40] s) t τ → Upd (· = b) H H4 → DR H4 b tb L τ → dpD τ (s.deep + 1) → K H4) →
  CallT Pg jek [.pointer (some (adr b)), .string (⟨#[40]⟩ : ByteArray)] (.one (.c .bool)) H fun (r1 : Bool) H1 =>
  Jn (σ := Unit) (fun kk1 => Br r1 (CallT Pg jmI [.pointer (some (adr b))] (.tup []) H1 fun (_ : Unit) H3 => kk1 () H3) (kk1 () H1)) fun _ H2 =>
  CallT Pg jeK [.pointer (some (adr b)), .string (⟨#[40]⟩ : ByteArray)] (.one (.agg [(.int .i64), .str, (.int .i64)])) H2 fun (_ : Int × ByteArray × Int) H4 => K H4 := by
  intro K hK
  refine jbM (w := [40]) h fun H1 hE1 => ?_
  simp only [Jn]
  cases hn : isD [40] (.ok s) with
  | true =>
    have hn : jaf [40] s = true := hn
    refine (Br_true _ _).2 (je0 (h.ext hE1) _ fun _ H3 _ τ3 hp3 hU3 h3 _ => jbj h3 [40] _ fun _ H4 t τ4 hp4 hU4 h4 _ => hK H4 τ4 t ?_ (upU (upU (ExU hE1) hU3) hU4) h4 (hp4.dp (je4 hp3) fun _ _ _ => jbF))
    rw [jhS hn]; exact hp3.bind hp4
  | false =>
    have hn : jaf [40] s = false := hn
    refine (Br_false _ _).2 (jbj (h.ext hE1) [40] _ fun _ H4 t τ4 hp4 hU4 h4 _ => hK H4 τ4 t (by rw [jmw hn]; exact hp4) (upU (ExU hE1) hU4) h4 ?_)
    intro s' e
    subst e
    obtain ⟨s1, e1, h1⟩ := hp4.was
    cases e1
    obtain ⟨g, _⟩ := jc4 h1
    rw [hn] at g; cases g
 refine key _ fun H4 τ4 t hp4 hU4 h4 d4 => ?_
 have hG := (hG.step hp4).eq (jan _ _ _)
 have o4 := jf9 o hU4 hb
 have hs4 := hU4.size
 refine jbM h4 fun H5 hE5 => ?_
 have h5 := h4.ext hE5
 have hU5 := upE hU4 hE5
 have o5 := jf9 o4 (ExU (b := b) hE5) hb
 have hs5 := hU5.size
 have h0 := h.d0
 -- the end
 have fin : ∀ {H7 : jaa} {l : List Nd} {τ : DS}, Upd (fun x => x = b ∨ lo ≤ x) H H7 → DR H7 b tb L τ → dpD τ (s.deep + 1) → OwD lo H7 (.mk op tx num l at') (some nb) → To (jb5 (f + 1) s) (th τ fun s => (jaA [41] s).bind fun _ s => jaE l s.up) →
  CallT Pg jeK [.pointer (some (adr b)), .string (⟨#[41]⟩ : ByteArray)] (.one (.agg [(.int .i64), .str, (.int .i64)])) H7 fun (_ : Int × ByteArray × Int) H17 =>
   Ld (.int .i64) ⟨b, 4, none⟩ H17 fun (x2 : Int) => Lt (IntKind.wrap .i64 (x2 - 1)) fun t1 => St ⟨b, 4, none⟩ (.int .i64 t1) H17 fun H18 => k () H18 := by
  intro H7 l τ hU7 h7 d7 o7 hG
  have hG := hG.eq (jan _ _ _)
  refine jbj h7 [41] _ fun _ H8 t2 τ8 hp8 hU8 h8 _ => jiQ h8 (hp8.dp d7 fun _ _ _ => jbF) h0 fun H9 hU9 h9 => ?_
  exact hk H9 l _ (jge (hG.step hp8)) (jg7 (jg7 hU7 (jkQ hU8)) (jkQ hU9)) h9 (jf9 (jf9 o7 hU8 hb) hU9 hb)
 -- the list
 refine LoopT.ghost (fun m st H' => ∃ l τ, m ≤ f + 1 ∧ l.length + m ≤ f + 1 ∧ Upd (fun x => x = b ∨ lo ≤ x) H H' ∧ DR H' b tb L τ ∧ dpD τ (s.deep + 1) ∧ OwD lo H' (.mk op tx num l at') (some nb) ∧
  ((st = false ∧ To (jb5 (f + 1) s) (th τ fun s => (jaA [41] s).bind fun _ s => jaE l s.up)) ∨
   (st = true ∧ ∃ g, m = g + 1 ∧ To (jb5 (f + 1) s) (th τ fun s => ((exP g 0 s).bind fun n s => jcE g (l ++ [n]) s).bind fun l s => (jaA [41] s).bind fun _ s => jaE l s.up)))) (f + 1) ?_ ?_
 ·refine ⟨[], τ4, Nat.le_refl _, by simp, jkQ hU5, h5, d4, o5, ?_⟩
  cases hn : isD [41] τ4 with
  | true =>
    refine .inl ⟨rfl, hG.eq ?_⟩
    rw [jgW hn]
    obtain ⟨s4, rfl, _⟩ := jez hn
    rfl
  | false =>
    refine .inr ⟨rfl, f, rfl, hG.eq ?_⟩
    rw [jjP hn, ← jan]; rfl
 rintro next m st H6 ⟨l, τ, hm, hlm, hU6, h6, d6, o6, hcase⟩ hnext
 have hs6 := hU6.size
 -- whether there is more
 refine Jn.mk (fun j H' => H6 = H' ∧ j = (st && okD τ)) (fun kk hkk => ?_) ?_
 ·cases st with
  | false => exact (Br_false _ _).2 (hkk _ _ ⟨rfl, rfl⟩)
  | true => exact (Br_true _ _).2 (jdf h6 (hkk _ _ ⟨rfl, by simp⟩))
 rintro _ _ ⟨rfl, rfl⟩
 rcases hcase with ⟨rfl, hG⟩ | ⟨rfl, g, rfl, hG⟩
 ·exact (Br_false _ _).2 (fin hU6 h6 d6 o6 hG)
 ·cases τ with
  | error e => exact (Br_false _ _).2 (fin hU6 h6 d6 o6 (hG.eq rfl))
  | ok s6 =>
    refine (Br_true _ _).2 ?_
    simp only [Jn]
    have hG := hG.eq (show _ = (exP g 0 s6).bind fun n s => (jcE g (l ++ [n]) s).bind fun l s => (jaA [41] s).bind fun _ s => jaE l s.up by rw [jaC, ja8])
    refine jlH h6 o6 hb htb (by omega) (by omega) ((ihs g (by omega)).ex h6 (by rw [jaC]; exact hG.part)) fun H8 n τ8 hp8 hU8 h8 o8 => ?_
    have d8 := hp8.dp d6 fun _ _ _ => jeD
    have hG := (hG.step hp8).eq (jan _ _ _)
    have hU08 := jg7 hU6 hU8
    refine jbM h8 fun H9 hE9 => ?_
    have h9 := h8.ext hE9
    have o9 := jf9 o8 (ExU (b := b) hE9) hb
    have hU09 := jg7 hU08 (jn5 (b := b) (lo := lo) hE9)
    cases g with
    | zero =>
      -- no fuel is left
      cases τ8 with
      | error e =>
        refine (Br_false _ _).2 (hnext 0 false _ (by omega) ⟨l ++ [n], _, by omega, by simp; omega, hU09, h9, d8, o9, .inl ⟨rfl, hG.eq rfl⟩⟩)
      | ok s8 => exact absurd (by rw [jaC, jcE]; rfl) hG.ne
    | succ g =>
      cases hn : isD [44] τ8 with
      | false =>
        refine (Br_false _ _).2 (hnext (g + 1) false _ (by omega) ⟨l ++ [n], τ8, by omega, by simp; omega, hU09, h9, d8, o9, .inl ⟨rfl, hG.eq ?_⟩⟩)
        rw [← jan]
        refine jbY fun s e => ?_
        subst e
        have hn : jaf [44] s = false := hn
        rw [jcE, hn]; rfl
      | true =>
        obtain ⟨s8, rfl, hn8⟩ := jez hn
        refine (Br_true _ _).2 (jaY h9 (fun s' e => by cases e; exact jaB hn8) fun t H10 hU10 h10 _ => ?_)
        have h10 : DR H10 b tb L (.ok s8.take) := h10
        refine hnext (g + 1) true _ (by omega) ⟨l ++ [n], _, by omega, by simp; omega, jg7 hU09 (jkQ hU10), h10, fun s' e => by cases e; exact d8 s8 rfl, jf9 o9 hU10 hb, .inr ⟨rfl, g, rfl, hG.eq ?_⟩⟩
        rw [jaC, jaC, jcE, hn8]; rfl
end
end Go.Proofs.YtfpmgpblhhcpgaaGreatDoor
