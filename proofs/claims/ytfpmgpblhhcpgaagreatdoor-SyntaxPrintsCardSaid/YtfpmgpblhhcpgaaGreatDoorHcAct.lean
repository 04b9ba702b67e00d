/-
 A heap-only reading of the model's operations: typed frames, the predicate transformer 'SW' of an operation, and of each kind of operation a typed condition that gives it.
-/
import Derived.Laws.Sem
import Derived.Calls
import Derived.Orders
import Derived.Laws.Slices
import Derived.Laws.BytesString
import Derived.Laws.StructEq
import Derived.ChangeKeysEq
set_option linter.unusedVariables false
set_option linter.unusedSimpArgs false
namespace Go.Proofs.YtfpmgpblhhcpgaaGreatDoor.Hc
set_option maxRecDepth 100000
abbrev jaa := Array Obj
def jar (H : jaa) (a : Addr) : Option Value :=
 match H[a.block]? with
 | some (.cells c _ _) => if a.spot.isSome then none else c[a.off]?
 | _ => none
def jck (H : jaa) (r : Nat) : Option (TypeId × Nat) :=
 match H[r]? with
 | some (.cells c elem _) => some (elem, c.size)
 | _ => none
def jba (H : jaa) (a : Addr) : Bool :=
 match H[a.block]? with
 | some (.cells _ _ (lo, hi)) => lo ≤ a.off && a.off < hi
 | _ => false
def jdv (H : jaa) (a : Addr) (v : Value) : jaa :=
 H.modify a.block fun
  | .cells c elem frozen => .cells (if a.spot.isSome then c else c.setIfInBounds a.off v) elem frozen
  | o => o
def je2 (H : jaa) (a : Addr) (n : Nat) : jaa :=
 if n = 0 then H else H.modify a.block fun
  | .cells c elem (lo, hi) => .cells c elem (if lo == hi then (a.off, a.off + n) else (min lo a.off, max hi (a.off + n)))
  | o => o
theorem cell?_eq (w : World) (a : Addr) : w.cell? a = jar w.heap a := rfl
theorem shape?_eq (w : World) (r : Nat) : w.shape? r = jck w.heap r := rfl
theorem frozen?_eq (w : World) (a : Addr) : w.frozen? a = jba w.heap a := rfl
theorem jia (w : World) (a : Addr) (v : Value) : (w.setCell a v).heap = jdv w.heap a v := rfl
theorem jjd (w : World) (a : Addr) (n : Nat) : (w.freeze a n).heap = je2 w.heap a n := by
 unfold World.freeze je2; split <;> rfl
structure SameEnv (w w' : World) : Prop where
 tape : w'.tape = w.tape
 os : w'.os = w.os
 output : w'.output = w.output
theorem SameEnv.refl (w : World) : SameEnv w w := ⟨rfl, rfl, rfl⟩
theorem SameEnv.trans {a b c : World} (h : SameEnv a b) (k : SameEnv b c) : SameEnv a c := ⟨k.tape.trans h.tape, k.os.trans h.os, k.output.trans h.output⟩
theorem SameEnv.setCell (w : World) (a : Addr) (v : Value) : SameEnv w (w.setCell a v) := ⟨rfl, rfl, rfl⟩
theorem SameEnv.freeze (w : World) (a : Addr) (n : Nat) : SameEnv w (w.freeze a n) := by unfold World.freeze; split <;> exact ⟨rfl, rfl, rfl⟩
def Poss (q : Question) (n : Nat) : Prop := if q.forced = true then n = 0 else ∃ t, n = q.cut t
def SW {α : Type} (P : Program) : Sem α → (α → jaa → Prop) → jaa → Prop
 | .pure a, k, H => k a H
 | .load _ a f, k, H => ∃ v, jar H a = some v ∧ SW P (f v) k H
 | .store _ _ (.agg _) _, _, _ | .store _ _ (.tuple _) _, _, _ => False
 | .store _ a v f, k, H => (jar H a).isSome = true ∧ jba H a = false ∧ SW P f k (jdv H a v)
 | .new o f, k, H => SW P (f H.size) k (H.push o)
 | .shape r f, k, H => SW P (f (jck H r)) k H
 | .freeze a n f, k, H => SW P f k (je2 H a n)
 | .frozen a f, k, H => SW P (f (jba H a)) k H
 | .getObj r f, k, H => ∃ o, H[r]? = some o ∧ (∀ c e fr, o ≠ .cells c e fr) ∧ SW P (f o) k H
 | .setObj r o f, k, H => (∃ o', H[r]? = some o' ∧ (∀ c e fr, o' ≠ .cells c e fr)) ∧ SW P f k (H.setIfInBounds r o)
 | .choose q f, k, H => ∀ n, Poss q n → SW P (f n) k H
 | .sys _ _, _, _ => False
 | .program f, k, H => SW P (f P) k H
 | .mark _ f, k, H => SW P f k H
 | .halt _, _, _ => False
theorem SW.sound {α : Type} {P : Program} {s : Sem α} {k : α → jaa → Prop} : ∀ {w : World}, SW P s k w.heap →
 ∃ a w', s.run P w = .ok a w' ∧ SameEnv w w' ∧ k a w'.heap := by
 induction s with
 | pure a => intro w h; exact ⟨a, w, rfl, .refl w, h⟩
 | load m a f ih =>
   intro w h; obtain ⟨v, hv, h⟩ := h
   obtain ⟨x, w', hr, he, hk⟩ := ih v h
   exact ⟨x, w', by simp only [Sem.run, cell?_eq, hv]; exact hr, he, hk⟩
 | store m a v f ih =>
   intro w h
   cases v <;> first
    | exact (h : False).elim
    | (obtain ⟨h1, h2, h3⟩ := h
       obtain ⟨u, hu⟩ := Option.isSome_iff_exists.1 h1
       obtain ⟨x, w', hr, he, hk⟩ := ih (w := w.setCell a _) h3
       exact ⟨x, w', by simp only [Sem.run, cell?_eq, hu, frozen?_eq, h2]; exact hr, (SameEnv.setCell w a _).trans he, hk⟩)
 | new o f ih => intro w h; obtain ⟨x, w', hr, he, hk⟩ := ih w.heap.size (w := { w with heap := w.heap.push o }) h; exact ⟨x, w', hr, ⟨he.tape, he.os, he.output⟩, hk⟩
 | shape r f ih => intro w h; obtain ⟨x, w', hr, he, hk⟩ := ih _ h; exact ⟨x, w', hr, he, hk⟩
 | freeze a n f ih =>
   intro w h
   obtain ⟨x, w', hr, he, hk⟩ := ih (w := w.freeze a n) (by rw [jjd]; exact h)
   exact ⟨x, w', hr, (SameEnv.freeze w a n).trans he, hk⟩
 | frozen a f ih => intro w h; obtain ⟨x, w', hr, he, hk⟩ := ih _ h; exact ⟨x, w', hr, he, hk⟩
 | getObj r f ih =>
   intro w h; obtain ⟨o, ho, hn, h⟩ := h
   obtain ⟨x, w', hr, he, hk⟩ := ih o h
   refine ⟨x, w', ?_, he, hk⟩
   simp only [Sem.run, ho]
   cases o with
   | cells c e fr => exact absurd rfl (hn c e fr)
   | _ => exact hr
 | setObj r o f ih =>
   intro w h; obtain ⟨⟨o', ho, hn⟩, h⟩ := h
   obtain ⟨x, w', hr, he, hk⟩ := ih (w := { w with heap := w.heap.setIfInBounds r o }) h
   refine ⟨x, w', ?_, ⟨he.tape, he.os, he.output⟩, hk⟩
   simp only [Sem.run, ho]
   cases o' with
   | cells c e fr => exact absurd rfl (hn c e fr)
   | _ => exact hr
 | choose q f ih =>
   intro w h
   by_cases hq : q.forced = true
   ·obtain ⟨x, w', hr, he, hk⟩ := ih 0 (w := w) (h 0 (by simp [Poss, hq]))
    exact ⟨x, w', by simp only [Sem.run, hq, if_true]; exact hr, he, hk⟩
   ·obtain ⟨x, w', hr, he, hk⟩ := ih _ (w := { w with drawn := w.drawn + 1 }) (h (q.cut (w.tape w.drawn q)) (by simp only [Poss, hq]; exact ⟨_, rfl⟩))
    exact ⟨x, w', by simp only [Sem.run, hq]; exact hr, ⟨he.tape, he.os, he.output⟩, hk⟩
 | sys c f ih => intro w h; exact h.elim
 | program f ih => intro w h; obtain ⟨x, w', hr, he, hk⟩ := ih _ h; exact ⟨x, w', hr, he, hk⟩
 | mark m f ih => intro w h; obtain ⟨x, w', hr, he, hk⟩ := ih h; exact ⟨x, w', hr, he, hk⟩
 | halt h => intro w h; exact h.elim
theorem jae {α β : Type} {P : Program} (s : Sem α) (f : α → Sem β) (k : β → jaa → Prop) (H : jaa) :
 SW P (s >>= f) k H = SW P s (fun a H' => SW P (f a) k H') H := by
 show SW P (s.bind f) k H = _
 induction s generalizing H with
 | store m a v g ih => cases v <;> simp [Sem.bind, SW, ih]
 | frozen a g ih => exact ih (jba H a) H
 | _ => simp_all [Sem.bind, SW]
theorem jaB {α : Type} {P : Program} {s : Sem α} {k k' : α → jaa → Prop} (hk : ∀ a H, k a H → k' a H) : ∀ {H : jaa}, SW P s k H → SW P s k' H := by
 induction s with
 | pure a => intro H h; exact hk _ _ h
 | load m a f ih => intro H h; obtain ⟨v, hv, h⟩ := h; exact ⟨v, hv, ih v h⟩
 | store m a v f ih =>
   intro H h
   cases v with
   | agg _ => exact h.elim
   | tuple _ => exact h.elim
   | _ => exact ⟨h.1, h.2.1, ih h.2.2⟩
 | new o f ih => intro H h; exact ih _ h
 | shape r f ih => intro H h; exact ih _ h
 | freeze a n f ih => intro H h; exact ih h
 | frozen a f ih => intro H h; exact ih _ h
 | getObj r f ih => intro H h; obtain ⟨o, ho, hn, h⟩ := h; exact ⟨o, ho, hn, ih o h⟩
 | setObj r o f ih => intro H h; exact ⟨h.1, ih h.2⟩
 | choose q f ih => intro H h n hn; exact ih n (h n hn)
 | sys c f ih => intro H h; exact h.elim
 | program f ih => intro H h; exact ih _ h
 | mark m f ih => intro H h; exact ih h
 | halt h => intro H h; exact h.elim
def SP {α : Type} (P : Program) : Sem α → (α → Prop) → Prop
 | .pure a, k => k a
 | .program f, k => SP P (f P) k
 | .mark _ f, k => SP P f k
 | _, _ => False
theorem SP.sound {α : Type} {P : Program} {s : Sem α} {k : α → Prop} (h : SP P s k) : ∃ a, (∀ w, s.run P w = .ok a w) ∧ k a := by
 induction s with
 | pure a => exact ⟨a, fun _ => rfl, h⟩
 | program f ih => exact ih _ h
 | mark m f ih => exact ih h
 | _ => exact h.elim
inductive CTy where
 | int (k : IntKind) | bool | str | ptr | sl | raw
structure Sl where
 a : Option Addr
 len : Nat
 cap : Nat
@[reducible] def CTy.den : CTy → Type
 | .int _ => Int
 | .bool => Bool
 | .str => ByteArray
 | .ptr => Option Addr
 | .sl => Sl
 | .raw => Value
def CTy.emb : (c : CTy) → c.den → Value
 | .int k, n => .int k n
 | .bool, b => .bool b
 | .str, s => .string s
 | .ptr, p => .pointer p
 | .sl, s => .slice s.a s.len s.cap
 | .raw, v => v
def CTy.un : (c : CTy) → Value → Option c.den
 | .int k, .int k' n => if k' = k then some n else none
 | .bool, .bool b => some b
 | .str, .string s => some s
 | .ptr, .pointer p => some p
 | .sl, .slice a l c => some ⟨a, l, c⟩
 | .raw, v => some v
 | _, _ => none
theorem CTy.un_emb {c : CTy} {v : Value} {d : c.den} (h : c.un v = some d) : v = c.emb d := by
 cases c <;> cases v <;> simp only [CTy.un, reduceCtorEq] at h
 case int.int k k' n => split at h <;> simp_all [CTy.emb]
 all_goals first | (cases h; rfl) | (simp only [Option.some.injEq] at h; subst h; rfl)
@[reducible] def DenC : List CTy → Type
 | [] => Unit
 | [t] => t.den
 | t :: u :: l => t.den × DenC (u :: l)
def jkQ : (l : List CTy) → DenC l → List Value
 | [], _ => []
 | [t], d => [t.emb d]
 | t :: u :: l, d => t.emb d.1 :: jkQ (u :: l) d.2
def unC : (l : List CTy) → List Value → Option (DenC l)
 | [], [] => some ()
 | [t], [v] => t.un v
 | t :: u :: l, v :: vs => (t.un v).bind fun d => (unC (u :: l) vs).map fun e => (d, e)
 | _, _ => none
theorem jlI : ∀ {l : List CTy} {vs : List Value} {d : DenC l}, unC l vs = some d → vs = jkQ l d
 | [], [], _, _ => rfl
 | [t], [v], d, h => by rw [CTy.un_emb (c := t) (d := d) h]; rfl
 | t :: u :: l, v :: vs, d, h => by
   simp only [unC, Option.bind_eq_some_iff, Option.map_eq_some_iff] at h
   obtain ⟨x, hx, e, he, rfl⟩ := h
   rw [CTy.un_emb hx, jlI he]; rfl
 | [], _ :: _, _, h => by simp [unC] at h
 | [_], [], _, h => by simp [unC] at h
 | [_], _ :: _ :: _, _, h => by simp [unC] at h
 | _ :: _ :: _, [], _, h => by simp [unC] at h
theorem jd8 : ∀ (l : List CTy) (d : DenC l), (jkQ l d).length = l.length
 | [], _ => rfl
 | [_], _ => rfl
 | _ :: u :: l, d => by simp [jkQ, jd8 (u :: l)]
inductive ATy where
 | c (t : CTy)
 | agg (l : List CTy)
 | big (n : Nat) (c : CTy)
@[reducible] def ATy.den : ATy → Type
 | .c t => t.den
 | .agg l => DenC l
 | .big _ _ => Value
def ATy.emb : (t : ATy) → t.den → Value
 | .c t, d => t.emb d
 | .agg l, d => .agg ⟨jkQ l d⟩
 | .big _ _, v => v
def ATy.un : (t : ATy) → Value → Option t.den
 | .c t, v => t.un v
 | .agg l, .agg cs => unC l cs.toList
 | .big _ _, v => some v
 | _, _ => none
theorem ATy.un_emb {t : ATy} {v : Value} {d : t.den} (h : t.un v = some d) : v = t.emb d := by
 cases t with
 | c t => exact CTy.un_emb h
 | agg l =>
   cases v <;> simp only [ATy.un, reduceCtorEq] at h
   case agg cs => obtain ⟨cs⟩ := cs; exact congrArg (fun l => Value.agg ⟨l⟩) (jlI h)
 | big n c => simp only [ATy.un, Option.some.injEq] at h; exact h
@[reducible] def DenA : List ATy → Type
 | [] => Unit
 | [t] => t.den
 | t :: u :: l => t.den × DenA (u :: l)
def embA : (l : List ATy) → DenA l → List Value
 | [], _ => []
 | [t], d => [t.emb d]
 | t :: u :: l, d => t.emb d.1 :: embA (u :: l) d.2
def unA : (l : List ATy) → List Value → Option (DenA l)
 | [], [] => some ()
 | [t], [v] => t.un v
 | t :: u :: l, v :: vs => (t.un v).bind fun d => (unA (u :: l) vs).map fun e => (d, e)
 | _, _ => none
theorem jgR : ∀ {l : List ATy} {vs : List Value} {d : DenA l}, unA l vs = some d → vs = embA l d
 | [], [], _, _ => rfl
 | [t], [v], d, h => by rw [ATy.un_emb (t := t) (d := d) h]; rfl
 | t :: u :: l, v :: vs, d, h => by
   simp only [unA, Option.bind_eq_some_iff, Option.map_eq_some_iff] at h
   obtain ⟨x, hx, e, he, rfl⟩ := h
   rw [ATy.un_emb hx, jgR he]; rfl
 | [], _ :: _, _, h => by simp [unA] at h
 | [_], [], _, h => by simp [unA] at h
 | [_], _ :: _ :: _, _, h => by simp [unA] at h
 | _ :: _ :: _, [], _, h => by simp [unA] at h
inductive RTy where
 | one (t : ATy)
 | tup (l : List ATy)
@[reducible] def RTy.den : RTy → Type
 | .one t => t.den
 | .tup l => DenA l
def RTy.emb : (t : RTy) → t.den → Value
 | .one t, d => t.emb d
 | .tup l, d => .tuple ⟨embA l d⟩
abbrev AFrame := List (Nat × Value)
def AFrame.get : AFrame → Nat → Option Value
 | [], _ => none
 | (i, v) :: F, t => bif Nat.beq i t then some v else AFrame.get F t
def AFrame.put (F : AFrame) (dst : Option Nat) (v : Value) : AFrame :=
 match dst with
 | some d => (d, v) :: F
 | none => F
def ev (F : AFrame) : Operand → Option Value
 | .tmp t => F.get t
 | .const v => some v
 | .global g => some (.pointer (some ⟨g, 0, none⟩))
 | .func f => some (.func (.func f) #[] #[])
def rho (F : AFrame) (x : Operand) : Value := (ev F x).getD undef
structure Ag (n : Nat) (F : AFrame) (a : Act) : Prop where
 size : a.tmps.size = n
 defers : a.defers = []
 get : ∀ t v, F.get t = some v → a.tmps[t]? = some v
theorem Ag.ev {n : Nat} {F : AFrame} {a : Act} (h : Ag n F a) {x : Operand} {v : Value} (hx : ev F x = some v) : a.eval x = v := by
 cases x with
 | tmp t => have := h.get t v hx; simp [Act.eval, this]
 | const u => simp only [Hc.ev, Option.some.injEq] at hx; exact hx
 | global g => simp only [Hc.ev, Option.some.injEq] at hx; exact hx
 | func f => simp only [Hc.ev, Option.some.injEq] at hx; exact hx
theorem AFrame.get_cons (i t : Nat) (v : Value) (F : AFrame) : AFrame.get ((i, v) :: F) t = if i = t then some v else AFrame.get F t := by
 simp only [AFrame.get]
 by_cases h : i = t
 ·subst h; simp
 ·have : Nat.beq i t = false := by cases hb : Nat.beq i t with
   | false => rfl
   | true => exact absurd (Nat.eq_of_beq_eq_true hb) h
  simp [this, h]
theorem Ag.put {n : Nat} {F : AFrame} {a : Act} (h : Ag n F a) {dst : Option Nat} (hd : ∀ d, dst = some d → d < n) (v : Value) : Ag n (F.put dst v) (a.put dst v) := by
 cases dst with
 | none => exact h
 | some d =>
   refine ⟨by simp [Act.put, h.size], by simp [Act.put, h.defers], fun t u hu => ?_⟩
   simp only [AFrame.put, AFrame.get_cons] at hu
   have hdn := hd d rfl
   by_cases hdt : d = t
   ·subst hdt
    simp only [if_true] at hu
    simp only [Act.put, Array.getElem?_setIfInBounds, if_true, h.size, hdn]
    exact hu
   ·rw [if_neg hdt] at hu
    simp only [Act.put, Array.getElem?_setIfInBounds, hdt, if_false]
    exact h.get t u hu
def opt' {α : Type} (v : Option α) (k : α → Prop) : Prop := match v with | some v => k v | none => False
def opt {α : Type} (v : Option α) (k : α → Prop) : Prop := match v with | some v => k v | none => False
def Br (b : Bool) (X Y : Prop) : Prop := cond b X Y
def Lt (v : Int) (k : Int → Prop) : Prop := k v
def jab (p : Option Addr) (k : Addr → Prop) : Prop := ∃ a, p = some a ∧ k a
def ShL (kd : IntKind) (x y : Int) (k : Int → Prop) : Prop := 0 ≤ y ∧ k (kd.wrap (x * 2 ^ (min y.toNat kd.bits)))
def ShR (kd : IntKind) (x y : Int) (k : Int → Prop) : Prop := 0 ≤ y ∧ k (x.fdiv (2 ^ (min y.toNat kd.bits)))
def Quo (kd : IntKind) (x y : Int) (k : Int → Prop) : Prop := y ≠ 0 ∧ k (kd.wrap (x.tdiv y))
def Rem (x y : Int) (k : Int → Prop) : Prop := y ≠ 0 ∧ k (x.tmod y)
def IxA (size : Nat) (s : Sl) (i : Int) (k : Addr → Prop) : Prop := ∃ a, s.a = some a ∧ 0 ≤ i ∧ i < (s.len : Int) ∧ k (a.add (i.toNat * size))
def IxR (size n : Nat) (a : Addr) (i : Int) (k : Addr → Prop) : Prop := 0 ≤ i ∧ i < (n : Int) ∧ k (a.add (i.toNat * size))
def SlA (size : Nat) (s : Sl) (lo hi mx : Int) (k : Sl → Prop) : Prop :=
 0 ≤ lo ∧ lo ≤ hi ∧ hi ≤ mx ∧ mx ≤ (s.cap : Int) ∧ k ⟨if mx.toNat = lo.toNat then s.a else s.a.map (·.add (lo.toNat * size)), hi.toNat - lo.toNat, mx.toNat - lo.toNat⟩
def ArI (c : CTy) (n : Nat) (cs : Array Value) (i : Int) (k : c.den → Prop) : Prop := ∃ d : c.den, 0 ≤ i ∧ i < (n : Int) ∧ cs[i.toNat]? = some (c.emb d) ∧ k d
def ArX (c : CTy) (n : Nat) (v : Value) (i : Int) (k : c.den → Prop) : Prop := ∃ cs, v = .agg cs ∧ ArI c n cs i k
def IfNil (v : Value) (k : Bool → Prop) : Prop := (v = .nilIface ∧ k true) ∨ ((∃ t x, v = .iface t x) ∧ k false)
def FnNil (v : Value) (k : Bool → Prop) : Prop := (v = .nilFunc ∧ k true) ∨ ((∃ f a b, v = .func f a b) ∧ k false)
def MpNil (v : Value) (k : Bool → Prop) : Prop := ∃ p : Option Nat, v = .map p ∧ k p.isNone
def TAs (a : ATy) (T : TypeId) (z : a.den) (v : Value) (k : a.den → Bool → Prop) : Prop :=
 (∃ d, v = .iface T (a.emb d) ∧ k d true) ∨ ((v = .nilIface ∨ ∃ t x, v = .iface t x ∧ t ≠ T) ∧ k z false)
def TAs1 (a : ATy) (T : TypeId) (v : Value) (k : a.den → Prop) : Prop := ∃ d, v = .iface T (a.emb d) ∧ k d
def eqT : (t : CTy) → t.den → t.den → Bool
 | .int _, a, b => (a : Int) == b
 | .bool, a, b => (a : Bool) == b
 | .str, a, b => ByteArray.toList a == ByteArray.toList b
 | _, _, _ => false
def eqL : (l : List CTy) → DenC l → DenC l → Bool
 | [], _, _ => true
 | [t], d, e => eqT t d e
 | t :: u :: l, d, e => eqT t d.1 e.1 && eqL (u :: l) d.2 e.2
def jff (P : Program) : Nat → List Field → Option (List CTy)
 | _, [] => some []
 | i, f :: fs => bif Nat.beq f.offset i && !(f.name == "_") then (match P.underlying f.type with
   | some (.int k) => (jff P (i + 1) fs).map fun l => .int k :: l
   | some .bool => (jff P (i + 1) fs).map fun l => .bool :: l
   | some .string => (jff P (i + 1) fs).map fun l => .str :: l
   | _ => none) else none
def jct (P : Program) : Nat → List Field → Option (List CTy)
 | _, [] => some []
 | i, f :: fs => bif Nat.beq f.offset i && !(f.name == "_") then (match P.underlying f.type with
   | some (.int k) => (jct P (i + 1) fs).map fun l => .int k :: l
   | some .bool => (jct P (i + 1) fs).map fun l => .bool :: l
   | some .string => (jct P (i + 1) fs).map fun l => .str :: l
   | some (.struct _) => (match jff P 0 (P.fieldsOf f.type).toList, P.info? f.type with
     | some l', some info => bif !P.stoodInHeld f.type && Nat.beq info.size l'.length then (jct P (i + l'.length) fs).map fun l => l' ++ l else none
     | _, _ => none)
   | _ => none) else none
def EqAgg (P : Program) (t : TypeId) (xs ys : Array Value) (k : Bool → Prop) : Prop :=
 match jct P 0 (P.fieldsOf t).toList, P.underlying t with
 | some l, some (.struct _) => bif !P.stoodInHeld t && !P.eqGuardType P.depth t then opt' (unC l xs.toList) fun d => opt' (unC l ys.toList) fun e => k (eqL l d e) else False
 | _, _ => False
abbrev adr (b : Nat) : Addr := ⟨b, 0, none⟩
def jdP (s : ByteArray) (i : Int) (k : Int → Prop) : Prop := ∃ b : UInt8, 0 ≤ i ∧ s[i.toNat]? = some b ∧ k b.toNat
def jag (a b : ByteArray) (k : ByteArray → Prop) : Prop := ((a.size + b.size : Nat) : Int) ≤ 2 ^ 63 - 1 ∧ k (a ++ b)
def jl7 (s : ByteArray) (lo hi : Int) (k : ByteArray → Prop) : Prop := 0 ≤ lo ∧ lo ≤ hi ∧ hi ≤ (s.size : Int) ∧ k (s.extract lo.toNat hi.toNat)
def Ld (c : CTy) (a : Addr) (H : jaa) (k : c.den → Prop) : Prop := ∃ d : c.den, jar H a = some (c.emb d) ∧ k d
def jaR (H : jaa) (a : Addr) : Nat → List Value → Prop
 | _, [] => True
 | i, v :: vs => jar H (a.add i) = some v ∧ jaR H a (i + 1) vs
def LdC (l : List CTy) (a : Addr) (H : jaa) (k : DenC l → Prop) : Prop := ∃ d : DenC l, jaR H a 0 (jkQ l d) ∧ k d
def St (a : Addr) (v : Value) (H : jaa) (k : jaa → Prop) : Prop := (jar H a).isSome = true ∧ jba H a = false ∧ k (jdv H a v)
def StV (a : Addr) (v : Value) (H : jaa) (k : jaa → Prop) : Prop := v.oneCell' = true ∧ St a v H k
def StL (a : Addr) : Nat → List Value → jaa → (jaa → Prop) → Prop
 | _, [], H, k => k H
 | i, v :: vs, H, k => StV (a.add i) v H fun H' => StL a (i + 1) vs H' k
def LdB (n : Nat) (a : Addr) (H : jaa) (k : List Value → Prop) : Prop := ∃ vs : List Value, vs.length = n ∧ jaR H a 0 vs ∧ k vs
def StB (v : Value) (n : Nat) (a : Addr) (H : jaa) (k : jaa → Prop) : Prop := ∃ vs : List Value, v = .agg ⟨vs⟩ ∧ vs.length = n ∧ StL a 0 vs H k
def Nw (cells : Array Value) (t : TypeId) (H : jaa) (k : Nat → jaa → Prop) : Prop := k H.size (H.push (.cells cells t))
def EBin0 (P : Program) (op : BinOp) (t : TypeId) (x y : Operand) (v u : Value) (kk : Value → Prop) : Prop :=
 let plain : Prop := SP P (do eqGuard op t x y v u; binOp op t v u) kk
 match op, v, u with
 | .add, .int k a, .int k' b => if k = k' then Lt (k.wrap (a + b)) (fun r => kk (.int k r)) else False
 | .sub, .int k a, .int k' b => if k = k' then Lt (k.wrap (a - b)) (fun r => kk (.int k r)) else False
 | .mul, .int k a, .int k' b => if k = k' then Lt (k.wrap (a * b)) (fun r => kk (.int k r)) else False
 | .and, .int k a, .int k' b => if k = k' then Lt (bits .and k a b) (fun r => kk (.int k r)) else False
 | .or, .int k a, .int k' b => if k = k' then Lt (bits .or k a b) (fun r => kk (.int k r)) else False
 | .xor, .int k a, .int k' b => if k = k' then Lt (bits .xor k a b) (fun r => kk (.int k r)) else False
 | .andNot, .int k a, .int k' b => if k = k' then Lt (bits .andNot k a b) (fun r => kk (.int k r)) else False
 | .quo, .int k a, .int k' b => if k = k' then Quo k a b (fun r => kk (.int k r)) else False
 | .rem, .int k a, .int k' b => if k = k' then Rem a b (fun r => kk (.int k r)) else False
 | .shl, .int k a, .int _ b => ShL k a b (fun r => kk (.int k r))
 | .shr, .int k a, .int _ b => ShR k a b (fun r => kk (.int k r))
 | .add, .string a, .string b => jag a b fun r => kk (.string r)
 | .eql, .pointer p, .pointer none => match P.underlying t with | some (.pointer _) => kk (.bool p.isNone) | _ => False
 | .neq, .pointer p, .pointer none => match P.underlying t with | some (.pointer _) => kk (.bool !p.isNone) | _ => False
 | .eql, .slice a _ _, .slice none _ _ => match P.underlying t with | some (.slice _) => kk (.bool a.isNone) | _ => False
 | .neq, .slice a _ _, .slice none _ _ => match P.underlying t with | some (.slice _) => kk (.bool !a.isNone) | _ => False
 | .eql, .agg a, .agg b => EqAgg P t a b fun r => kk (.bool r)
 | .neq, .agg a, .agg b => EqAgg P t a b fun r => kk (.bool !r)
 | _, _, _ => plain
def EBin (P : Program) (op : BinOp) (t : TypeId) (x y : Operand) (v u : Value) (kk : Value → Prop) : Prop :=
 match op, u with
 | .eql, .nilIface => (match y, P.underlying t with | .const _, some (.interface _) => IfNil v fun b => kk (.bool b) | _, _ => False)
 | .neq, .nilIface => (match y, P.underlying t with | .const _, some (.interface _) => IfNil v fun b => kk (.bool !b) | _, _ => False)
 | .eql, .nilFunc => (match P.underlying t with | some (.func _ _ _) => FnNil v fun b => kk (.bool b) | _ => False)
 | .neq, .nilFunc => (match P.underlying t with | some (.func _ _ _) => FnNil v fun b => kk (.bool !b) | _ => False)
 | .eql, .map none => (match P.underlying t with | some (.map _ _) => MpNil v fun b => kk (.bool b) | _ => False)
 | .neq, .map none => (match P.underlying t with | some (.map _ _) => MpNil v fun b => kk (.bool !b) | _ => False)
 | _, _ => EBin0 P op t x y v u kk
theorem jeI {P : Program} {t e : TypeId} (he : P.underlying t = some (.pointer e)) (p : Option Addr) (w : World) :
 (Op.equal t (.pointer p) (.pointer none)).run P w = .ok p.isNone w := by
 show (Op.equalIn (9999 + 1) t (.pointer p) (.pointer none)).run P w = _
 rw [Op.equalIn]
 simp only [Sem.run_bind, run_underlying he, Result.andThen]
 cases p <;> rfl
theorem je9 {P : Program} {t e : TypeId} (he : P.underlying t = some (.slice e)) (a : Option Addr) (l c l' c' : Nat) (w : World) :
 (Op.equal t (.slice a l c) (.slice none l' c')).run P w = .ok a.isNone w := by
 show (Op.equalIn (9999 + 1) t (.slice a l c) (.slice none l' c')).run P w = _
 rw [Op.equalIn]
 simp only [Sem.run_bind, run_underlying he, Result.andThen]
 cases a <;> rfl
theorem jep {P : Program} {t kt e : TypeId} (he : P.underlying t = some (.map kt e)) (a : Option Nat) (w : World) :
 (Op.equal t (.map a) (.map none)).run P w = .ok a.isNone w := by
 show (Op.equalIn (9999 + 1) t (.map a) (.map none)).run P w = _
 rw [Op.equalIn]
 simp only [Sem.run_bind, run_underlying he, Result.andThen]
 cases a <;> rfl
theorem jgA {α : Type} {v : Option α} {k : α → Prop} (h : opt' v k) : ∃ x, v = some x ∧ k x := by
 cases v with
 | none => exact h.elim
 | some x => exact ⟨x, rfl, h⟩
def jjB : TypeDesc → Bool
 | .struct _ => false
 | .array _ _ => false
 | _ => true
theorem jei {P : Program} {w : World} {t : TypeId} {d : TypeDesc} (hu : P.underlying t = some d) (hd : jjB d = true) {cs : Array Value} {i : Nat} {v : Value} (hi : cs[i]? = some v) :
 (part t cs i).run P w = .ok v w := by
 have ha : (isAgg t).run P w = .ok false w := by
  unfold isAgg
  simp only [Sem.run_bind, run_underlying hu, Result.andThen_ok]
  cases d <;> first | rfl | (simp [jjB] at hd; done)
 unfold part
 simp only [Sem.run_bind, ha, Result.andThen_ok, Bool.false_eq_true, if_false, hi, Sem.run_pure]
theorem je8 {P : Program} {w : World} {xs ys : Array Value} {n : Nat} : ∀ {fs : List Field} {i : Nat} {l : List CTy} {d e : DenC l}, jff P i fs = some l → unC l (xs.toList.drop i) = some d → unC l (ys.toList.drop i) = some e →
 (Op.eqFields (n + 1) xs ys fs).run P w = .ok (eqL l d e) w
 | [], i, l, d, e, h, _, _ => by
   simp only [jff, Option.some.injEq] at h; subst h; rfl
 | f :: fs, i, l, d, e, h, hd, he => by
   unfold jff at h
   cases hb : (Nat.beq f.offset i && !(f.name == "_")) with
   | false => rw [hb] at h; cases h
   | true =>
     rw [hb] at h
     simp only [cond_true] at h
     rw [Bool.and_eq_true] at hb
     have ho : f.offset = i := Nat.eq_of_beq_eq_true hb.1
     have hn : f.name ≠ "_" := by simpa using hb.2
     have key : ∀ (c : CTy) (l' : List CTy), l = c :: l' → jff P (i + 1) fs = some l' → (∀ a b : c.den, ∃ dd, P.underlying f.type = some dd ∧ jjB dd = true ∧ (Op.equalIn (n + 1) f.type (c.emb a) (c.emb b)).run P w = .ok (eqT c a b) w) →
      (Op.eqFields (n + 1) xs ys (f :: fs)).run P w = .ok (eqL l d e) w := by
      rintro c l' rfl hl' hc
      obtain ⟨a, xs', hxs, ha, hd'⟩ : ∃ (a : c.den) (xs' : List Value), xs.toList.drop i = c.emb a :: xs' ∧ (∃ d' : DenC l', unC l' xs' = some d' ∧ (∀ (b : c.den) (e' : DenC l') (ys' : List Value) , unC (c :: l') (c.emb b :: ys') = some e → unC l' ys' = some e' → eqL (c :: l') d e = (eqT c a b && eqL l' d' e'))) ∧ True := by
       cases hx : xs.toList.drop i with
       | nil => rw [hx] at hd; cases l' <;> simp [unC] at hd
       | cons v xs' =>
         rw [hx] at hd
         cases l' with
         | nil =>
           cases xs' with
           | nil =>
             have hv := CTy.un_emb (c := c) (v := v) (d := d) hd
             refine ⟨d, [], by rw [hv], ⟨(), rfl, fun b e' ys' h1 h2 => ?_⟩, trivial⟩
             cases ys' with
             | nil =>
               have : c.emb b = c.emb e := CTy.un_emb (c := c) (d := e) h1
               have hbe : b = e := by
                have h3 : c.un (c.emb b) = some e := h1
                have h4 : ∀ (c : CTy) (b : c.den), c.un (c.emb b) = some b := fun c b => by cases c <;> simp [CTy.un, CTy.emb]
                rw [h4] at h3; exact Option.some.inj h3
               subst hbe
               simp [eqL]
             | cons _ _ => simp [unC] at h2
           | cons _ _ => simp [unC] at hd
         | cons u l' =>
           simp only [unC, Option.bind_eq_some_iff, Option.map_eq_some_iff] at hd
           obtain ⟨a, ha, d', hd', rfl⟩ := hd
           refine ⟨a, xs', by rw [CTy.un_emb ha], ⟨d', hd', fun b e' ys' h1 h2 => ?_⟩, trivial⟩
           simp only [unC, Option.bind_eq_some_iff, Option.map_eq_some_iff] at h1
           obtain ⟨b', hb', e2, he2, rfl⟩ := h1
           have h4 : ∀ (c : CTy) (b : c.den), c.un (c.emb b) = some b := fun c b => by cases c <;> simp [CTy.un, CTy.emb]
           rw [h4] at hb'
           rw [h2] at he2
           cases hb'; cases he2
           simp [eqL]
      obtain ⟨d', hd', heq⟩ := ha
      obtain ⟨b, ys', hys, e', he'⟩ : ∃ (b : c.den) (ys' : List Value), ys.toList.drop i = c.emb b :: ys' ∧ ∃ e' : DenC l', unC l' ys' = some e' := by
       cases hy : ys.toList.drop i with
       | nil => rw [hy] at he; cases l' <;> simp [unC] at he
       | cons v ys' =>
         rw [hy] at he
         cases l' with
         | nil =>
           cases ys' with
           | nil => exact ⟨e, [], by rw [CTy.un_emb (c := c) (v := v) (d := e) he], (), rfl⟩
           | cons _ _ => simp [unC] at he
         | cons u l' =>
           simp only [unC, Option.bind_eq_some_iff, Option.map_eq_some_iff] at he
           obtain ⟨b, hb', e2, he2, rfl⟩ := he
           exact ⟨b, ys', by rw [CTy.un_emb hb'], e2, he2⟩
      rw [hys] at he
      have hfin := heq b e' ys' he he'
      rw [hfin]
      obtain ⟨dd, hu, hdd, hrun⟩ := hc a b
      have gx : xs[i]? = some (c.emb a) := by
       rw [← Array.getElem?_toList, ← Nat.add_zero i, ← List.getElem?_drop, hxs]; rfl
      have gy : ys[i]? = some (c.emb b) := by
       rw [← Array.getElem?_toList, ← Nat.add_zero i, ← List.getElem?_drop, hys]; rfl
      simp only [Op.eqFields, if_pos hn, Sem.run_bind, ho, jei hu hdd gx, jei hu hdd gy, Result.andThen_ok, hrun, Sem.run_ite]
      have rx : xs.toList.drop (i + 1) = xs' := by rw [← List.drop_drop, hxs]; rfl
      have ry : ys.toList.drop (i + 1) = ys' := by rw [← List.drop_drop, hys]; rfl
      cases hq : eqT c a b with
      | true =>
        simp only [Bool.not_true, Bool.false_eq_true, if_false, Bool.true_and]
        exact je8 hl' (by rw [rx]; exact hd') (by rw [ry]; exact he')
      | false => simp
     split at h
     ·rename_i k hu
      simp only [Option.map_eq_some_iff] at h
      obtain ⟨l', hl', rfl⟩ := h
      exact key (.int k) l' rfl hl' fun a b => ⟨_, hu, rfl, by simp only [CTy.emb, eqT]; exact run_equalIn_int w n f.type k k a b hu⟩
     ·rename_i hu
      simp only [Option.map_eq_some_iff] at h
      obtain ⟨l', hl', rfl⟩ := h
      exact key .bool l' rfl hl' fun a b => ⟨_, hu, rfl, by simp only [CTy.emb, eqT]; exact run_equalIn_bool' w n f.type a b hu⟩
     ·rename_i hu
      simp only [Option.map_eq_some_iff] at h
      obtain ⟨l', hl', rfl⟩ := h
      exact key .str l' rfl hl' fun a b => ⟨_, hu, rfl, by simp only [CTy.emb, eqT]; exact run_equalIn_string w n f.type a b hu⟩
     ·cases h
def eqB : List CTy → List Value → List Value → Bool
 | [], _, _ => true
 | t :: l, v :: vs, u :: us => (match t.un v, t.un u with | some a, some b => eqT t a b | _, _ => false) && eqB l vs us
 | _ :: _, _, _ => false
theorem jdt {t : CTy} {l : List CTy} {vs : List Value} {d : DenC (t :: l)} (h : unC (t :: l) vs = some d) : ∃ (v : Value) (vs' : List Value) (a : t.den) (d' : DenC l), vs = v :: vs' ∧ t.un v = some a ∧ unC l vs' = some d' ∧
 ∀ (e : DenC (t :: l)) (b : t.den) (e' : DenC l) (u : Value) (us : List Value), unC (t :: l) (u :: us) = some e → t.un u = some b → unC l us = some e' → eqL (t :: l) d e = (eqT t a b && eqL l d' e') := by
 cases l with
 | nil =>
   match vs, h with
   | [v], h =>
     refine ⟨v, [], d, (), rfl, h, rfl, fun e b e' u us h1 h2 h3 => ?_⟩
     cases us with
     | nil =>
       have h1 : t.un u = some e := h1
       rw [h1] at h2; cases h2
       simp [eqL]
     | cons _ _ => simp [unC] at h3
   | [], h => simp [unC] at h
   | _ :: _ :: _, h => simp [unC] at h
 | cons u l =>
   match vs, h with
   | v :: vs, h =>
     simp only [unC, Option.bind_eq_some_iff, Option.map_eq_some_iff] at h
     obtain ⟨a, ha, d', hd', rfl⟩ := h
     refine ⟨v, vs, a, d', rfl, ha, hd', fun e b e' w us h1 h2 h3 => ?_⟩
     simp only [unC, Option.bind_eq_some_iff, Option.map_eq_some_iff] at h1
     obtain ⟨b', hb', e2, he2, rfl⟩ := h1
     rw [h2] at hb'; rw [h3] at he2
     cases hb'; cases he2
     simp [eqL]
   | [], h => simp [unC] at h
theorem jis : ∀ {l : List CTy} {xs ys : List Value} {d e : DenC l}, unC l xs = some d → unC l ys = some e → eqL l d e = eqB l xs ys
 | [], _, _, _, _, _, _ => rfl
 | t :: l, xs, ys, d, e, hd, he => by
   obtain ⟨v, xs', a, d', rfl, ha, hd', hq⟩ := jdt hd
   obtain ⟨u, ys', b, e', rfl, hb, he', _⟩ := jdt he
   rw [hq e b e' u ys' he hb he', eqB, ha, hb]
   dsimp only
   rw [jis hd' he']
theorem jiJ : ∀ {l m : List CTy} {xs : List Value} {d : DenC (l ++ m)}, unC (l ++ m) xs = some d → ∃ d1 d2, unC l (xs.take l.length) = some d1 ∧ unC m (xs.drop l.length) = some d2
 | [], m, xs, d, h => ⟨(), d, rfl, h⟩
 | t :: l, m, xs, d, h => by
   obtain ⟨v, xs', a, d', rfl, ha, hd', _⟩ := jdt (l := l ++ m) h
   obtain ⟨d1, d2, h1, h2⟩ := jiJ hd'
   cases l with
   | nil => exact ⟨a, d2, by simpa [unC] using ha, by simpa using h2⟩
   | cons u l => exact ⟨(a, d1), d2, by simp only [List.length_cons, List.take_succ_cons, unC, ha, Option.bind_some]; rw [List.length_cons] at h1; rw [h1]; rfl, by simpa using h2⟩
theorem jiq : ∀ {l : List CTy} {xs : List Value} {d : DenC l}, unC l xs = some d → xs.length = l.length
 | [], [], _, _ => rfl
 | [], _ :: _, _, h => by simp [unC] at h
 | t :: l, xs, d, h => by
   obtain ⟨v, xs', a, d', rfl, ha, hd', _⟩ := jdt h
   simp [jiq hd']
theorem jkP : ∀ {l m : List CTy} {xs ys : List Value}, l.length ≤ xs.length → l.length ≤ ys.length → eqB (l ++ m) xs ys = (eqB l (xs.take l.length) (ys.take l.length) && eqB m (xs.drop l.length) (ys.drop l.length))
 | [], m, xs, ys, _, _ => by simp [eqB]
 | t :: l, m, v :: xs, u :: ys, h1, h2 => by
   simp only [List.cons_append, eqB, List.length_cons, List.take_succ_cons, List.drop_succ_cons]
   rw [jkP (by simpa using h1) (by simpa using h2), Bool.and_assoc]
 | _ :: _, _, [], _, h, _ => by simp at h
 | _ :: _, _, _ :: _, [], _, h => by simp at h
theorem jcr {P : Program} {w : World} {xs ys : Array Value} {n : Nat} : ∀ {fs : List Field} {i : Nat} {l : List CTy}, jct P i fs = some l → (∃ d, unC l (xs.toList.drop i) = some d) → (∃ e, unC l (ys.toList.drop i) = some e) →
 (Op.eqFields (n + 2) xs ys fs).run P w = .ok (eqB l (xs.toList.drop i) (ys.toList.drop i)) w
 | [], i, l, h, _, _ => by
   simp only [jct, Option.some.injEq] at h; subst h; rfl
 | f :: fs, i, l, h, ⟨d, hd⟩, ⟨e, he⟩ => by
   unfold jct at h
   cases hb : (Nat.beq f.offset i && !(f.name == "_")) with
   | false => rw [hb] at h; cases h
   | true =>
     rw [hb] at h
     simp only [cond_true] at h
     rw [Bool.and_eq_true] at hb
     have ho : f.offset = i := Nat.eq_of_beq_eq_true hb.1
     have hn : f.name ≠ "_" := by simpa using hb.2
     have key : ∀ (c : CTy) (l' : List CTy), l = c :: l' → jct P (i + 1) fs = some l' → (∀ a b : c.den, ∃ dd, P.underlying f.type = some dd ∧ jjB dd = true ∧ (Op.equalIn (n + 2) f.type (c.emb a) (c.emb b)).run P w = .ok (eqT c a b) w) →
      (Op.eqFields (n + 2) xs ys (f :: fs)).run P w = .ok (eqB l (xs.toList.drop i) (ys.toList.drop i)) w := by
      rintro c l' rfl hl' hc
      obtain ⟨v, xs', a, d', hxs, ha, hd', _⟩ := jdt hd
      obtain ⟨u, ys', b, e', hys, hb', he', _⟩ := jdt he
      have hv := CTy.un_emb ha
      have hu' := CTy.un_emb hb'
      obtain ⟨dd, hu, hdd, hrun⟩ := hc a b
      have gx : xs[i]? = some (c.emb a) := by
       rw [← Array.getElem?_toList, ← Nat.add_zero i, ← List.getElem?_drop, hxs, ← hv]; rfl
      have gy : ys[i]? = some (c.emb b) := by
       rw [← Array.getElem?_toList, ← Nat.add_zero i, ← List.getElem?_drop, hys, ← hu']; rfl
      have rx : xs.toList.drop (i + 1) = xs' := by rw [← List.drop_drop, hxs]; rfl
      have ry : ys.toList.drop (i + 1) = ys' := by rw [← List.drop_drop, hys]; rfl
      simp only [Op.eqFields, if_pos hn, Sem.run_bind, ho, jei hu hdd gx, jei hu hdd gy, Result.andThen_ok, hrun, Sem.run_ite]
      rw [hxs, hys, eqB, ha, hb']
      dsimp only
      cases hq : eqT c a b with
      | true =>
        simp only [Bool.not_true, Bool.false_eq_true, if_false, Bool.true_and]
        have := jcr (n := n) (w := w) hl' ⟨d', by rw [rx]; exact hd'⟩ ⟨e', by rw [ry]; exact he'⟩
        rwa [rx, ry] at this
      | false => simp
     split at h
     ·rename_i k hu
      simp only [Option.map_eq_some_iff] at h
      obtain ⟨l', hl', rfl⟩ := h
      exact key (.int k) l' rfl hl' fun a b => ⟨_, hu, rfl, by simp only [CTy.emb, eqT]; exact run_equalIn_int w (n + 1) f.type k k a b hu⟩
     ·rename_i hu
      simp only [Option.map_eq_some_iff] at h
      obtain ⟨l', hl', rfl⟩ := h
      exact key .bool l' rfl hl' fun a b => ⟨_, hu, rfl, by simp only [CTy.emb, eqT]; exact run_equalIn_bool' w (n + 1) f.type a b hu⟩
     ·rename_i hu
      simp only [Option.map_eq_some_iff] at h
      obtain ⟨l', hl', rfl⟩ := h
      exact key .str l' rfl hl' fun a b => ⟨_, hu, rfl, by simp only [CTy.emb, eqT]; exact run_equalIn_string w (n + 1) f.type a b hu⟩
     ·rename_i gs hu
      split at h
      ·rename_i l' info hl' hi
       cases hb2 : (!P.stoodInHeld f.type && Nat.beq info.size l'.length) with
       | false => rw [hb2] at h; cases h
       | true =>
         rw [hb2] at h
         simp only [cond_true, Option.map_eq_some_iff] at h
         obtain ⟨m, hm, rfl⟩ := h
         simp only [Bool.and_eq_true, Bool.not_eq_true'] at hb2
         have hsz : info.size = l'.length := Nat.eq_of_beq_eq_true hb2.2
         have hxl := jiq hd
         have hyl := jiq he
         rw [List.length_append] at hxl hyl
         obtain ⟨d1, d2, hd1, hd2⟩ := jiJ hd
         obtain ⟨e1, e2, he1, he2⟩ := jiJ he
         have hag : (isAgg f.type).run P w = .ok true w := by
          unfold isAgg
          simp only [Sem.run_bind, run_underlying hu, Result.andThen_ok]; rfl
         have hso : (sizeOf f.type).run P w = .ok info.size w := by simp [sizeOf, typeInfo, hi]
         have hpart : ∀ cs : Array Value, (part f.type cs i).run P w = .ok (.agg (cs.extract i (i + l'.length))) w := fun cs => by
          unfold part
          simp only [Sem.run_bind, hag, Result.andThen_ok, if_true, hso, Sem.run_pure, hsz]
         have hex : ∀ cs : Array Value, (cs.extract i (i + l'.length)).toList = (cs.toList.drop i).take l'.length := fun cs => by
          rw [Array.toList_extract, List.extract_eq_take_drop, Nat.add_sub_cancel_left]
         have hf : P.underlying f.type = some (.struct (P.fieldsOf f.type)) := by
          unfold Program.fieldsOf; rw [hu]
         have hin : (Op.equalIn (n + 2) f.type (.agg (xs.extract i (i + l'.length))) (.agg (ys.extract i (i + l'.length)))).run P w = .ok (eqB l' ((xs.toList.drop i).take l'.length) ((ys.toList.drop i).take l'.length)) w := by
          rw [show n + 2 = n + 1 + 1 from rfl, run_equalIn_struct w _ f.type _ _ hf hb2.1]
          rw [← jis hd1 he1]
          exact je8 hl' (by rw [List.drop_zero, hex]; exact hd1) (by rw [List.drop_zero, hex]; exact he1)
         simp only [Op.eqFields, if_pos hn, Sem.run_bind, ho, hpart, Result.andThen_ok, hin, Sem.run_ite]
         rw [jkP (by rw [hxl]; omega) (by rw [hyl]; omega)]
         cases hq : eqB l' ((xs.toList.drop i).take l'.length) ((ys.toList.drop i).take l'.length) with
         | true =>
           simp only [Bool.not_true, Bool.false_eq_true, if_false, Bool.true_and]
           rw [List.drop_drop, List.drop_drop]
           rw [List.drop_drop] at hd2 he2
           exact jcr (n := n) (w := w) hm ⟨d2, hd2⟩ ⟨e2, he2⟩
         | false => simp
      ·cases h
     ·cases h
theorem EqAgg.sound {P : Program} {t : TypeId} {xs ys : Array Value} {k : Bool → Prop} (h : EqAgg P t xs ys k) :
 ∃ r, (∀ w, (Op.equalIn 10000 t (.agg xs) (.agg ys)).run P w = .ok r w) ∧ P.eqGuardType P.depth t = false ∧ k r := by
 unfold EqAgg at h
 split at h
 ·rename_i l fs hl hu
  cases hb : (!P.stoodInHeld t && !P.eqGuardType P.depth t) with
  | false => rw [hb] at h; exact h.elim
  | true =>
    rw [hb] at h
    simp only [Bool.and_eq_true, Bool.not_eq_true'] at hb
    obtain ⟨d, hd, h⟩ := jgA (h : opt' _ _)
    obtain ⟨e, he, h⟩ := jgA h
    have hf : P.underlying t = some (.struct (P.fieldsOf t)) := by
     unfold Program.fieldsOf; rw [hu]
    refine ⟨_, fun w => ?_, hb.2, h⟩
    rw [show (10000 : Nat) = 9997 + 2 + 1 from rfl, run_equalIn_struct w _ t xs ys hf hb.1]
    have hd : unC l (xs.toList.drop 0) = some d := by simpa using hd
    have he : unC l (ys.toList.drop 0) = some e := by simpa using he
    rw [jis hd he]
    exact jcr hl ⟨d, hd⟩ ⟨e, he⟩
 ·exact h.elim
theorem EBin0.sound {P : Program} {op : BinOp} {t : TypeId} {x y : Operand} {v u : Value} {kk : Value → Prop} (h : EBin0 P op t x y v u kk) :
 ∃ r, (∀ w, (do eqGuard op t x y v u; binOp op t v u : Sem Value).run P w = .ok r w) ∧ kk r := by
 unfold EBin0 at h
 dsimp only at h
 split at h
 case h_1 k a k' b => split at h; · rename_i e; subst e; exact ⟨_, fun w => by simp [eqGuard, binOp, Op.intArith], h⟩
                      ·exact h.elim
 case h_2 k a k' b => split at h; · rename_i e; subst e; exact ⟨_, fun w => by simp [eqGuard, binOp, Op.intArith], h⟩
                      ·exact h.elim
 case h_3 k a k' b => split at h; · rename_i e; subst e; exact ⟨_, fun w => by simp [eqGuard, binOp, Op.intArith], h⟩
                      ·exact h.elim
 case h_4 k a k' b => split at h; · rename_i e; subst e; exact ⟨_, fun w => by simp [eqGuard, binOp, intBits_and], h⟩
                      ·exact h.elim
 case h_5 k a k' b => split at h; · rename_i e; subst e; exact ⟨_, fun w => by simp [eqGuard, binOp, intBits_or], h⟩
                      ·exact h.elim
 case h_6 k a k' b => split at h; · rename_i e; subst e; exact ⟨_, fun w => by simp [eqGuard, binOp, intBits_xor], h⟩
                      ·exact h.elim
 case h_7 k a k' b => split at h; · rename_i e; subst e; exact ⟨_, fun w => by simp [eqGuard, binOp, intBits_andNot], h⟩
                      ·exact h.elim
 case h_8 k a k' b => split at h; · rename_i e; subst e; exact ⟨_, fun w => by simp [eqGuard, binOp, Op.intDiv, h.1], h.2⟩
                      ·exact h.elim
 case h_9 k a k' b => split at h; · rename_i e; subst e; exact ⟨_, fun w => by simp [eqGuard, binOp, Op.intDiv, h.1], h.2⟩
                      ·exact h.elim
 case h_10 k a k' b => exact ⟨_, fun w => by have := h.1; simp [eqGuard, binOp, Op.shift, Int.not_lt.2 this], h.2⟩
 case h_11 k a k' b => exact ⟨_, fun w => by have := h.1; simp [eqGuard, binOp, Op.shift, Int.not_lt.2 this], h.2⟩
 case h_12 a b =>
  refine ⟨_, fun w => ?_, h.2⟩
  have h1 := h.1
  have hm : IntKind.i64.max = 2 ^ 63 - 1 := by decide
  have hn : ¬ ((a.size + b.size : Nat) : Int) > IntKind.i64.max := by rw [hm]; omega
  show ((do eqGuard .add t x y (.string a) (.string b); Op.stringOp .add a b : Sem Value)).run P w = _
  unfold Op.stringOp
  simp only [Sem.run_bind, Sem.run_ite, hn, if_false]
  simp [eqGuard]
 case h_13 p =>
  split at h
  ·rename_i e he
   exact ⟨_, fun w => by simp [eqGuard, binOp, jeI he], h⟩
  ·exact h.elim
 case h_14 p =>
  split at h
  ·rename_i e he
   exact ⟨_, fun w => by simp [eqGuard, binOp, jeI he], h⟩
  ·exact h.elim
 case h_15 a l c l' c' =>
  split at h
  ·rename_i e he
   exact ⟨_, fun w => by simp [eqGuard, binOp, je9 he], h⟩
  ·exact h.elim
 case h_16 a l c l' c' =>
  split at h
  ·rename_i e he
   exact ⟨_, fun w => by simp [eqGuard, binOp, je9 he], h⟩
  ·exact h.elim
 case h_17 a b =>
  obtain ⟨r, hr, hg, hk⟩ := h.sound
  exact ⟨_, fun w => by rw [Sem.run_bind, run_eqGuard_agg w _ _ _ _ _ _ hg, Result.andThen_ok, run_eql_struct, hr w]; rfl, hk⟩
 case h_18 a b =>
  obtain ⟨r, hr, hg, hk⟩ := h.sound
  exact ⟨_, fun w => by rw [Sem.run_bind, run_eqGuard_agg w _ _ _ _ _ _ hg, Result.andThen_ok, run_neq_struct, hr w]; rfl, hk⟩
 case h_19 => exact SP.sound h
theorem jc3 {P : Program} {t : TypeId} {ms : Array (String × TypeId)} (he : P.underlying t = some (.interface ms)) {v : Value} {b : Bool} (hv : v = .nilIface ∧ b = true ∨ (∃ t x, v = .iface t x) ∧ b = false) (w : World) :
 (Op.equal t v .nilIface).run P w = .ok b w := by
 show (Op.equalIn (9999 + 1) t v .nilIface).run P w = _
 rw [Op.equalIn]
 simp only [Sem.run_bind, run_underlying he, Result.andThen]
 rcases hv with ⟨rfl, rfl⟩ | ⟨⟨t', x, rfl⟩, rfl⟩ <;> rfl
theorem jfP {P : Program} {op : BinOp} {t : TypeId} {x : Operand} {c : Value} {v : Value} (w : World) (hv : v = .nilIface ∨ ∃ t x, v = .iface t x) : (eqGuard op t x (.const c) v .nilIface).run P w = .ok () w := by
 rcases hv with rfl | ⟨t', y, rfl⟩ <;> cases op <;> simp [eqGuard]
theorem IfNil.cases {v : Value} {k : Bool → Prop} (h : IfNil v k) : ∃ b, (v = .nilIface ∧ b = true ∨ (∃ t x, v = .iface t x) ∧ b = false) ∧ k b := by
 rcases h with ⟨h, hk⟩ | ⟨h, hk⟩
 ·exact ⟨true, .inl ⟨h, rfl⟩, hk⟩
 ·exact ⟨false, .inr ⟨h, rfl⟩, hk⟩
theorem jdT {P : Program} {t : TypeId} {ps rs : Array TypeId} {va : Bool} (he : P.underlying t = some (.func ps rs va)) {v : Value} {b : Bool} (hv : v = .nilFunc ∧ b = true ∨ (∃ f x y, v = .func f x y) ∧ b = false) (w : World) :
 (Op.equal t v .nilFunc).run P w = .ok b w := by
 show (Op.equalIn (9999 + 1) t v .nilFunc).run P w = _
 rw [Op.equalIn]
 simp only [Sem.run_bind, run_underlying he, Result.andThen]
 rcases hv with ⟨rfl, rfl⟩ | ⟨⟨f, x, y, rfl⟩, rfl⟩ <;> rfl
theorem FnNil.cases {v : Value} {k : Bool → Prop} (h : FnNil v k) : ∃ b, (v = .nilFunc ∧ b = true ∨ (∃ f x y, v = .func f x y) ∧ b = false) ∧ k b := by
 rcases h with ⟨h, hk⟩ | ⟨h, hk⟩
 ·exact ⟨true, .inl ⟨h, rfl⟩, hk⟩
 ·exact ⟨false, .inr ⟨h, rfl⟩, hk⟩
theorem EBin.sound {P : Program} {op : BinOp} {t : TypeId} {x y : Operand} {v u : Value} {kk : Value → Prop} (h : EBin P op t x y v u kk) :
 ∃ r, (∀ w, (do eqGuard op t x y v u; binOp op t v u : Sem Value).run P w = .ok r w) ∧ kk r := by
 unfold EBin at h
 split at h
 ·split at h
  ·rename_i c ms hu
   obtain ⟨b, hv, hk⟩ := h.cases
   refine ⟨_, fun w => ?_, hk⟩
   have hv2 : v = .nilIface ∨ ∃ t x, v = .iface t x := hv.imp (·.1) (·.1)
   have hbin : (binOp .eql t v .nilIface).run P w = .ok (.bool b) w := by
    have e : binOp .eql t v .nilIface = (do pure (.bool (← Op.equal t v .nilIface))) := by
     rcases hv2 with rfl | ⟨t', y, rfl⟩ <;> rfl
    rw [e]
    simp [jc3 hu hv]
   rw [Sem.run_bind, jfP w hv2, Result.andThen_ok, hbin]
  ·exact h.elim
 ·split at h
  ·rename_i c ms hu
   obtain ⟨b, hv, hk⟩ := h.cases
   refine ⟨_, fun w => ?_, hk⟩
   have hv2 : v = .nilIface ∨ ∃ t x, v = .iface t x := hv.imp (·.1) (·.1)
   have hbin : (binOp .neq t v .nilIface).run P w = .ok (.bool !b) w := by
    have e : binOp .neq t v .nilIface = (do pure (.bool (!(← Op.equal t v .nilIface)))) := by
     rcases hv2 with rfl | ⟨t', y, rfl⟩ <;> rfl
    rw [e]
    simp [jc3 hu hv]
   rw [Sem.run_bind, jfP w hv2, Result.andThen_ok, hbin]
  ·exact h.elim
 ·split at h
  ·rename_i ps rs va hu
   obtain ⟨b, hv, hk⟩ := h.cases
   refine ⟨_, fun w => ?_, hk⟩
   have g1 : (eqGuard .eql t x y v .nilFunc).run P w = .ok () w := by rcases hv with ⟨rfl, _⟩ | ⟨⟨f, x, y, rfl⟩, _⟩ <;> simp [eqGuard]
   have e : binOp .eql t v .nilFunc = (do pure (.bool (← Op.equal t v .nilFunc))) := by rcases hv with ⟨rfl, _⟩ | ⟨⟨f, x, y, rfl⟩, _⟩ <;> rfl
   rw [Sem.run_bind, g1, Result.andThen_ok, e]
   simp [jdT hu hv]
  ·exact h.elim
 ·split at h
  ·rename_i ps rs va hu
   obtain ⟨b, hv, hk⟩ := h.cases
   refine ⟨_, fun w => ?_, hk⟩
   have g1 : (eqGuard .neq t x y v .nilFunc).run P w = .ok () w := by rcases hv with ⟨rfl, _⟩ | ⟨⟨f, x, y, rfl⟩, _⟩ <;> simp [eqGuard]
   have e : binOp .neq t v .nilFunc = (do pure (.bool (!(← Op.equal t v .nilFunc)))) := by rcases hv with ⟨rfl, _⟩ | ⟨⟨f, x, y, rfl⟩, _⟩ <;> rfl
   rw [Sem.run_bind, g1, Result.andThen_ok, e]
   simp [jdT hu hv]
  ·exact h.elim
 ·split at h
  ·rename_i he
   obtain ⟨p, rfl, hk⟩ := h
   exact ⟨_, fun w => by simp [eqGuard, binOp, jep he], hk⟩
  ·exact h.elim
 ·split at h
  ·rename_i he
   obtain ⟨p, rfl, hk⟩ := h
   exact ⟨_, fun w => by simp [eqGuard, binOp, jep he], hk⟩
  ·exact h.elim
 ·exact h.sound
def tyC (P : Program) : Nat → TypeId → Option (List CTy)
 | 0, _ => none
 | d + 1, t => match P.underlying t with
   | some (.int k) => some [.int k]
   | some .bool => some [.bool]
   | some .string => some [.str]
   | some (.pointer _) => some [.ptr]
   | some (.slice _) => some [.sl]
   | some (.struct fs) => fs.toList.foldr (fun f acc => (tyC P d f.type).bind fun l => acc.map fun m => l ++ m) (some [])
   | some (.array n e) => bif Nat.ble n 16 then (tyC P d e).map fun l => (List.replicate n l).flatten else none
   | some (.map _ _) | some (.interface _) | some (.func _ _ _) | some (.chan _ _) | some (.float _) => some [.raw]
   | _ => none
def tyA (P : Program) (t : TypeId) : Option ATy :=
 match P.underlying t with
 | some (.struct _) => (tyC P 8 t).map .agg
 | some (.array n e) => bif Nat.ble n 16 then (tyC P 8 t).map .agg else (match tyC P 8 e with | some [c] => some (.big n c) | _ => none)
 | some (.int k) => some (.c (.int k))
 | some .bool => some (.c .bool)
 | some .string => some (.c .str)
 | some (.pointer _) => some (.c .ptr)
 | some (.slice _) => some (.c .sl)
 | some (.map _ _) | some (.interface _) | some (.func _ _ _) | some (.chan _ _) | some (.float _) => some (.c .raw)
 | _ => none
def tyAs (P : Program) : List TypeId → Option (List ATy)
 | [] => some []
 | t :: ts => (tyA P t).bind fun a => (tyAs P ts).map fun l => a :: l
def rtyOf (P : Program) (t : TypeId) : Option RTy :=
 match P.underlying t with
 | some (.tuple ts) => (tyAs P ts.toList).map .tup
 | _ => (tyA P t).map .one
theorem jmF {P : Program} {t : TypeId} {c : CTy} (h : tyA P t = some (.c c)) (w : World) : (isAgg t).run P w = .ok false w := by
 unfold tyA at h
 unfold isAgg
 split at h <;> first
  | (simp only [Option.map_eq_some_iff, reduceCtorEq, and_false, exists_false] at h; done)
  | (rename_i hu; simp only [Sem.run_bind, run_underlying hu, Result.andThen_ok]; rfl)
  | (rename_i n e hu
     exfalso
     cases hb : Nat.ble n 16 with
     | true => rw [hb] at h; simp only [cond_true, Option.map_eq_some_iff, reduceCtorEq, and_false, exists_false] at h
     | false => rw [hb] at h; simp only [cond_false] at h; split at h <;> simp at h)
  | cases h
theorem jlL {P : Program} {t : TypeId} {l : List CTy} (h : tyA P t = some (.agg l)) (w : World) : (isAgg t).run P w = .ok true w := by
 unfold tyA at h
 unfold isAgg
 split at h <;> first
  | (rename_i hu; simp only [Sem.run_bind, run_underlying hu, Result.andThen_ok]; rfl)
  | (simp only [Option.some.injEq, reduceCtorEq] at h; done)
  | cases h
theorem jkK {P : Program} {t : TypeId} {n : Nat} {c : CTy} (h : tyA P t = some (.big n c)) (w : World) : (isAgg t).run P w = .ok true w := by
 unfold tyA at h
 unfold isAgg
 split at h <;> first
  | (rename_i hu; simp only [Sem.run_bind, run_underlying hu, Result.andThen_ok]; rfl)
  | (simp only [Option.some.injEq, reduceCtorEq] at h; done)
  | cases h
def jkA (F : AFrame) (o : Oper) : Bool := o.op.operands.toList.all fun x => (ev F x).isSome
def evI (F : AFrame) (d : Int) : Option Operand → Option Int
 | none => some d
 | some x => match ev F x with
   | some (.int _ i) => some i
   | _ => none
def AsI (k : IntKind) (v : Value) (kk : Int → Prop) : Prop := match v with
 | .int k' n => if k' = k then kk n else False
 | _ => False
def AsB (v : Value) (kk : Bool → Prop) : Prop := match v with
 | .bool b => kk b
 | _ => False
def AsS (v : Value) (kk : ByteArray → Prop) : Prop := match v with
 | .string b => kk b
 | _ => False
def asT (P : Program) (o : Oper) (v : Value) (kk : Value → Prop) : Prop := match o.op with
 | .extract _ _ => (match P.underlying o.type with
   | some (.int k) => AsI k v fun n => kk (.int k n)
   | some .bool => AsB v fun n => kk (.bool n)
   | some .string => AsS v fun n => kk (.string n)
   | _ => kk v)
 | _ => kk v
theorem jng {P : Program} {o : Oper} {v : Value} {kk : Value → Prop} (h : asT P o v kk) : kk v := by
 unfold asT at h
 split at h
 ·split at h
  ·unfold AsI at h
   split at h
   ·split at h
    ·rename_i e; subst e; exact h
    ·exact h.elim
   ·exact h.elim
  ·unfold AsB at h
   split at h
   ·exact h
   ·exact h.elim
  ·unfold AsS at h
   split at h
   ·exact h
   ·exact h.elim
  ·exact h
 ·exact h
def evQ (F : AFrame) : List (Nat × Operand) → Option (List (Nat × Value))
 | [] => some []
 | (i, x) :: xs => (ev F x).bind fun v => (evQ F xs).map fun vs => (i, v) :: vs
theorem jjs {n : Nat} {F : AFrame} {a : Act} (hag : Ag n F a) : ∀ {l : List (Nat × Operand)} {vs : List (Nat × Value)}, evQ F l = some vs → l.map (fun p => (p.1, a.eval p.2)) = vs
 | [], vs, h => by simp only [evQ, Option.some.injEq] at h; subst h; rfl
 | (i, x) :: xs, vs, h => by
   simp only [evQ, Option.bind_eq_some_iff, Option.map_eq_some_iff] at h
   obtain ⟨v, hv, us, hus, rfl⟩ := h
   simp [hag.ev hv, jjs hag hus]
def hasFn (P : Program) (t : TypeId) : Bool := (P.fieldsOf t).toList.any fun f => match P.underlying f.type with
 | some (.func _ _ _) => true
 | _ => false
def jdA (P : Program) (t : TypeId) (vs : List (Nat × Value)) (l : List CTy) (k : DenC l → Prop) : Prop := ∃ d : DenC l, (∀ w, (Instr.build t ⟨vs⟩).run P w = .ok (.agg ⟨jkQ l d⟩) w) ∧ k d
def EPure (P : Program) (o : Oper) (F : AFrame) (kk : Value → Prop) : Prop :=
 match o.op with
 | .move x => opt (ev F x) kk
 | .assign x => opt (ev F x) kk
 | .pick c a b => match ev F c with
   | some (.bool t) => Br t (opt (ev F a) kk) (opt (ev F b) kk)
   | _ => False
 | .nilCheck x => match ev F x with
   | some (.pointer p) => jab p fun a => kk (.pointer (some a))
   | some (.func (.func f) fi ca) => kk (.func (.func f) fi ca)
   | _ => False
 | .binOp op t x y _ => match ev F x, ev F y with
   | some v, some u => EBin P op t x y v u kk
   | _, _ => False
 | .indexAddr t x ix => match ev F x, ev F ix, P.underlying t with
   | some (.slice a l c), some (.int _ i), some (.slice e) => (match P.info? e with
     | some f => IxA f.size ⟨a, l, c⟩ i fun p => kk (.pointer (some p))
     | none => False)
   | some (.pointer (some a)), some (.int _ i), some (.array n e) => (match P.info? e with
     | some f => IxR f.size n a i fun p => kk (.pointer (some p))
     | none => False)
   | _, _, _ => False
 | .typeAssert x _ T ok => match ev F x, tyA P T, P.underlying T with
   | some _, some _, some (.interface _) => False
   | some v, some a, some _ => (match ok with
     | true => (match P.info? T with
       | some i => (match i.zero with
         | some z => opt (a.un z) fun zd => TAs a T zd v fun d b => kk (.tuple #[a.emb d, .bool b])
         | none => False)
       | none => False)
     | false => TAs1 a T v fun d => kk (a.emb d))
   | _, _, _ => False
 | .index t x ix => match tyA P t, ev F x, ev F ix, P.underlying t with
  | some (.big _ _), some v, some (.int _ i), some (.array n e) => (match tyA P e, P.info? e with
     | some (.c c), some f => bif Nat.beq f.size 1 then ArX c n v i fun d => kk (c.emb d) else False
     | _, _ => False)
  | _, _, _, _ => match ev F x, ev F ix, P.underlying t with
   | some (.string s), some (.int _ i), some .string => jdP s i fun b => kk (.int .u8 b)
   | some (.agg cs), some (.int _ i), some (.array n e) => (match tyA P e, P.info? e with
     | some (.c c), some f => bif Nat.beq f.size 1 then ArI c n cs i fun d => kk (c.emb d) else False
     | _, _ => False)
   | _, _, _ => False
 | .slice t x lo hi mx => match ev F x, P.underlying t with
   | some (.slice a l c), some (.slice e) => (match P.info? e, evI F 0 lo, evI F l hi, evI F c mx, hi, mx with
     | some f, some lo, some h, some m, some _, _ => SlA f.size ⟨a, l, c⟩ lo h m fun s => kk (.slice s.a s.len s.cap)
     | some f, some lo, some h, some m, none, none => SlA f.size ⟨a, l, c⟩ lo h m fun s => kk (.slice s.a s.len s.cap)
     | _, _, _, _, _, _ => False)
   | some (.string s), some .string => (match evI F 0 lo, evI F s.size hi, mx with
     | some lo, some hi, none => jl7 s lo hi fun r => kk (.string r)
     | _, _, _ => False)
   | _, _ => False
 | .build t parts => bif hasFn P t then (match tyA P t, evQ F parts.toList with
   | some (.agg l), some vs => jdA P t vs l fun d => kk (.agg ⟨jkQ l d⟩)
   | _, _ => False) else bif jkA F o then SP P (execOp (rho F) o) (fun nx => match nx with | .value v => asT P o v kk | _ => False) else False
 | _ => bif jkA F o then SP P (execOp (rho F) o) (fun nx => match nx with | .value v => asT P o v kk | _ => False) else False
theorem ja7 {P : Program} {t : TypeId} {i : TypeInfo} (h : P.info? t = some i) (w : World) : (sizeOf t).run P w = .ok i.size w := by
 simp [sizeOf, typeInfo, h]
theorem jgI {n : Nat} {F : AFrame} {a : Act} (hag : Ag n F a) {o : Oper} (hs : ∀ cs b, o.op ≠ .select cs b) (hk : jkA F o = true) :
 execOp a.eval o = execOp (rho F) o := by
 refine execOp_congr o hs fun x hx => ?_
 simp only [jkA, List.all_eq_true] at hk
 obtain ⟨v, hv⟩ := Option.isSome_iff_exists.1 (hk x (by simpa using hx))
 rw [hag.ev hv, rho, hv]; rfl
theorem jaW {α : Type} {v : Option α} {k : α → Prop} (h : opt v k) : ∃ x, v = some x ∧ k x := by
 cases v with
 | none => exact h.elim
 | some x => exact ⟨x, rfl, h⟩
theorem jlz {n : Nat} {F : AFrame} {a : Act} (hag : Ag n F a) {d i : Int} {x : Option Operand} (h : evI F d x = some i) :
 (x = none ∧ i = d) ∨ ∃ y k, x = some y ∧ a.eval y = .int k i := by
 cases x with
 | none => simp only [evI, Option.some.injEq] at h; exact .inl ⟨rfl, h.symm⟩
 | some y =>
   right
   simp only [evI] at h
   split at h
   ·rename_i k j he
    simp only [Option.some.injEq] at h; subst h
    exact ⟨y, k, rfl, hag.ev he⟩
   ·cases h
def Bnd (v : Option Value) (d i : Int) : Prop := (v = none ∧ i = d) ∨ ∃ k, v = some (.int k i)
theorem jgM {P : Program} {w : World} {isSlice : Bool} {len cap : Nat} {lo hi mx : Option Value} {l h m : Int}
 (hl : Bnd lo 0 l) (hh : Bnd hi len h) (hm : Bnd mx cap m) (hs : hi.isSome = true ∨ mx = none) (h0 : 0 ≤ l) (h1 : l ≤ h) (h2 : h ≤ m) (h3 : m ≤ cap) :
 (Instr.sliceBounds isSlice len cap lo hi mx).run P w = .ok (l.toNat, h.toNat, m.toNat) w := by
 have em : (m.toNat : Int) = m := Int.toNat_of_nonneg (by omega)
 have eh : (h.toNat : Int) = h := Int.toNat_of_nonneg (by omega)
 unfold Instr.sliceBounds
 have bm : ∀ k code, (Instr.sliceBound (.int k m) cap code).run P w = .ok m.toNat w := fun k code => run_sliceBound w k m cap code (by omega) (by omega)
 have bh : ∀ k code, (Instr.sliceBound (.int k h) m.toNat code).run P w = .ok h.toNat w := fun k code => run_sliceBound w k h m.toNat code (by omega) (by omega)
 have bl : ∀ k code, (Instr.sliceBound (.int k l) h.toNat code).run P w = .ok l.toNat w := fun k code => run_sliceBound w k l h.toNat code (by omega) (by omega)
 rcases hl with ⟨rfl, rfl⟩ | ⟨kl, rfl⟩ <;> rcases hh with ⟨rfl, rfl⟩ | ⟨kh, rfl⟩ <;> rcases hm with ⟨rfl, rfl⟩ | ⟨km, rfl⟩ <;>
  first
   | (rcases hs with hs | hs <;> simp at hs; done)
   | (simp only [Sem.run_bind, Sem.run_pure, Result.andThen_ok, bm, bh, bl]; done)
   | (simp only [Sem.run_bind, Sem.run_pure, Result.andThen_ok, bm, bh, bl, Int.toNat_natCast]; done)
   | (simp only [Int.toNat_natCast] at bh bl ⊢; simp only [Sem.run_bind, Sem.run_pure, Result.andThen_ok, bm, bh, bl, Int.toNat_natCast]; done)
   | (simp only [Int.toNat_natCast] at bh bl ⊢; simp only [Sem.run_bind, Sem.run_pure, Result.andThen_ok, bm, bh, bl, Int.toNat_natCast]; rfl)
theorem jf5 {n : Nat} {F : AFrame} {a : Act} (hag : Ag n F a) {d i : Int} {x : Option Operand} (h : evI F d x = some i) : Bnd (x.map a.eval) d i := by
 rcases jlz hag h with ⟨rfl, rfl⟩ | ⟨y, k, rfl, e⟩
 ·exact .inl ⟨rfl, rfl⟩
 ·exact .inr ⟨k, by simp [e]⟩
theorem EPure.sound {P : Program} {o : Oper} {n : Nat} {F : AFrame} {a : Act} (hag : Ag n F a) (hs : ∀ cs b, o.op ≠ .select cs b) {kk : Value → Prop} (h : EPure P o F kk) :
 ∃ v, (∀ w, (execOp a.eval o).run P w = .ok (.value v) w) ∧ kk v := by
 unfold EPure at h
 split at h
 case h_1 x hx => obtain ⟨v, hv, hk⟩ := jaW h; exact ⟨v, fun w => by simp [execOp, hx, hag.ev hv], hk⟩
 case h_2 x hx => obtain ⟨v, hv, hk⟩ := jaW h; exact ⟨v, fun w => by simp [execOp, hx, hag.ev hv], hk⟩
 case h_3 c x y hx =>
  split at h
  ·rename_i t hc
   cases t with
   | true => obtain ⟨v, hv, hk⟩ := jaW (h : opt _ _); exact ⟨v, fun w => by simp [execOp, hx, hag.ev hv, hag.ev hc, asBool], hk⟩
   | false => obtain ⟨v, hv, hk⟩ := jaW (h : opt _ _); exact ⟨v, fun w => by simp [execOp, hx, hag.ev hv, hag.ev hc, asBool], hk⟩
  ·exact h.elim
 case h_4 x hx =>
  split at h
  ·rename_i p hp
   obtain ⟨b, rfl, hk⟩ := h
   exact ⟨_, fun w => by simp [execOp, hx, hag.ev hp], hk⟩
  ·rename_i f fi ca hp
   exact ⟨_, fun w => by simp [execOp, hx, hag.ev hp], h⟩
  ·exact h.elim
 case h_5 op t x y ty hx =>
  split at h
  ·rename_i v u hv hu
   obtain ⟨r, hr, hk⟩ := h.sound
   refine ⟨r, fun w => ?_, hk⟩
   have := hr w
   simp only [execOp, hx, hag.ev hv, hag.ev hu]
   simp only [Sem.run_bind] at this ⊢
   rw [this]; rfl
  ·exact h.elim
 case h_6 t x ix hx =>
  split at h
  ·rename_i b l c k i e hb hi ht
   split at h
   ·rename_i f hf
    obtain ⟨p, hp, h0, h1, hk⟩ := h
    dsimp only at hp h1; subst hp
    exact ⟨_, fun w => by simp [execOp, hx, hag.ev hb, hag.ev hi, Instr.indexAt, run_underlying ht, asIntOf, h0, h1, ja7 hf], hk⟩
   ·exact h.elim
  ·rename_i b k i m e hb hi ht
   split at h
   ·rename_i f hf
    obtain ⟨h0, h1, hk⟩ := h
    exact ⟨_, fun w => by simp [execOp, hx, hag.ev hb, hag.ev hi, Instr.indexAt, Instr.sureAddr, run_underlying ht, asIntOf, h0, h1, ja7 hf], hk⟩
   ·exact h.elim
  ·exact h.elim
 case h_7 x xt T ok hx =>
  split at h
  ·exact h.elim
  ·rename_i v b d hni hv hb hd
   have hnot : ∀ ms, d ≠ .interface ms := fun ms e => hni ms e
   cases ok with
   | true =>
     simp only at h
     split at h
     ·rename_i i hi
      split at h
      ·rename_i z hz
       obtain ⟨zd, hzd, h⟩ := jaW h
       rcases h with ⟨dd, rfl, hk⟩ | ⟨hn, hk⟩
       ·refine ⟨_, fun w => ?_, hk⟩
        simp only [execOp, hx, hag.ev hv, Instr.typeAssert, Sem.run_bind, run_underlying hd, Result.andThen_ok]
        cases d <;> first | exact absurd rfl (hnot _) | simp
       ·refine ⟨_, fun w => ?_, hk⟩
        have hzv : (zeroValue T).run P w = .ok z w := by
         simp [zeroValue, typeInfo, hi, hz]
        have hz' := ATy.un_emb hzd
        subst hz'
        rcases hn with rfl | ⟨t', x', rfl, hne⟩
        ·simp only [execOp, hx, hag.ev hv, Instr.typeAssert, Sem.run_bind, run_underlying hd, Result.andThen_ok]
         cases d <;> first | exact absurd rfl (hnot _) | simp [hzv]
        ·simp only [execOp, hx, hag.ev hv, Instr.typeAssert, Sem.run_bind, run_underlying hd, Result.andThen_ok]
         cases d <;> first | exact absurd rfl (hnot _) | simp [hzv, hne]
      ·exact h.elim
     ·exact h.elim
   | false =>
     obtain ⟨dd, rfl, hk⟩ := h
     refine ⟨_, fun w => ?_, hk⟩
     simp only [execOp, hx, hag.ev hv, Instr.typeAssert, Sem.run_bind, run_underlying hd, Result.andThen_ok]
     cases d <;> first | exact absurd rfl (hnot _) | simp
  ·exact h.elim
 case h_8 t x ix hx =>
  split at h
  ·rename_i v k i n' c' n e hbig hb hi ht
   split at h
   ·rename_i c f hc hf
    cases hbq : Nat.beq f.size 1 with
    | false => rw [hbq] at h; exact h.elim
    | true =>
      rw [hbq] at h
      obtain ⟨cs, rfl, d, h0, h1, h2, hk⟩ := (h : ArX _ _ _ _ _)
      have hsz : f.size = 1 := Nat.eq_of_beq_eq_true hbq
      refine ⟨_, fun w => ?_, hk⟩
      simp only [execOp, hx, hag.ev hb, hag.ev hi, Instr.index, Sem.run_bind, run_underlying ht, asIntOf, Sem.run_pure, Result.andThen_ok, Sem.run_ite, h0, h1, and_self, if_true, ja7 hf, hsz, Nat.mul_one, part, jmF hc, Bool.false_eq_true, if_false, h2]
   ·exact h.elim
  split at h
  ·rename_i s k i hb hi ht
   obtain ⟨b, h0, h1, hk⟩ := h
   exact ⟨_, fun w => by simp [execOp, hx, hag.ev hb, hag.ev hi, Instr.index, run_underlying ht, asIntOf, h0, h1], hk⟩
  ·rename_i cs k i m e hb hi ht
   split at h
   ·rename_i c f hc hf
    cases hbq : Nat.beq f.size 1 with
    | false => rw [hbq] at h; exact h.elim
    | true =>
      rw [hbq] at h
      obtain ⟨d, h0, h1, h2, hk⟩ := (h : ArI _ _ _ _ _)
      have hsz : f.size = 1 := Nat.eq_of_beq_eq_true hbq
      refine ⟨_, fun w => ?_, hk⟩
      simp only [execOp, hx, hag.ev hb, hag.ev hi, Instr.index, Sem.run_bind, run_underlying ht, asIntOf, Sem.run_pure, Result.andThen_ok, Sem.run_ite, h0, h1, and_self, if_true, ja7 hf, hsz, Nat.mul_one, part, jmF hc, Bool.false_eq_true, if_false, h2]
   ·exact h.elim
  ·exact h.elim
 case h_9 t x lo hi mx hx =>
  split at h
  ·rename_i b l c e hb ht
   have key : ∀ (f : TypeInfo) (lo' h' m' : Int), P.info? e = some f → evI F 0 lo = some lo' → evI F l hi = some h' → evI F c mx = some m' → (hi.isSome = true ∨ mx = none) →
    SlA f.size ⟨b, l, c⟩ lo' h' m' (fun s => kk (.slice s.a s.len s.cap)) → ∃ v, (∀ w, (execOp a.eval o).run P w = .ok (.value v) w) ∧ kk v := by
    intro f lo' h' m' hf hlo hhi hmx hsome hsl
    obtain ⟨h0, h1, h2, h3, hk⟩ := hsl
    refine ⟨_, fun w => ?_, hk⟩
    have hb' := jgM (P := P) (w := w) (isSlice := true) (jf5 hag hlo) (jf5 hag hhi) (jf5 hag hmx) (show (hi.map a.eval).isSome = true ∨ mx.map a.eval = none by rcases hsome with h | h <;> simp [h]) h0 h1 h2 h3
    simp only [execOp, hx, hag.ev hb, Instr.sliceAt, Instr.slice, Sem.run_bind, run_underlying ht, Result.andThen_ok, hb', ja7 hf, Sem.run_pure]
   split at h
   ·rename_i hf hlo hhi hmx; exact key _ _ _ _ hf hlo hhi hmx (.inl rfl) h
   ·rename_i hf hlo hhi hmx; exact key _ _ _ _ hf hlo hhi hmx (.inr rfl) h
   ·exact h.elim
  ·rename_i s hb ht
   split at h
   ·rename_i lo' h' hlo hhi
    obtain ⟨h0, h1, h2, hk⟩ := h
    refine ⟨_, fun w => ?_, hk⟩
    have hb' := jgM (P := P) (w := w) (isSlice := false) (len := s.size) (cap := s.size) (mx := none) (m := s.size) (jf5 hag hlo) (jf5 hag hhi) (.inl ⟨rfl, rfl⟩) (.inr rfl) h0 h1 h2 (by omega)
    simp only [execOp, hx, hag.ev hb, Instr.sliceAt, Instr.slice, Sem.run_bind, run_underlying ht, Result.andThen_ok, hb', Sem.run_pure, Option.map_none, Option.isSome_none, Bool.false_eq_true, if_false]
   ·exact h.elim
  ·exact h.elim
 case h_10 t parts hx =>
  cases hf : hasFn P t with
  | true =>
    rw [hf] at h
    simp only [cond_true] at h
    split at h
    ·rename_i l vs hl hvs
     obtain ⟨d, hd, hk⟩ := h
     refine ⟨_, fun w => ?_, hk⟩
     have hv := jjs hag hvs
     have hparts : (parts.map fun (i, x) => (i, a.eval x)) = ⟨vs⟩ := by rw [← hv]; apply Array.ext'; simp
     simp only [execOp, hx, hparts, Sem.run_bind, hd w, Result.andThen_ok, Sem.run_pure]
    ·exact h.elim
  | false =>
    rw [hf] at h
    simp only [cond_false] at h
    cases hk : jkA F o with
    | false => rw [hk] at h; exact h.elim
    | true =>
      rw [hk] at h
      obtain ⟨nx, hr, hnx⟩ := SP.sound (h : SP P (execOp (rho F) o) _)
      split at hnx
      ·rename_i v; exact ⟨v, fun w => by rw [jgI hag hs hk]; exact hr w, jng hnx⟩
      ·exact hnx.elim
 case h_11 =>
  cases hk : jkA F o with
  | false => rw [hk] at h; exact h.elim
  | true =>
    rw [hk] at h
    obtain ⟨nx, hr, hnx⟩ := SP.sound (h : SP P (execOp (rho F) o) _)
    split at hnx
    ·rename_i v; exact ⟨v, fun w => by rw [jgI hag hs hk]; exact hr w, jng hnx⟩
    ·exact hnx.elim
theorem Addr.add_zero' (a : Addr) : a.add 0 = a := rfl
def ents (a : Addr) : Nat → List Value → List (Addr × Value)
 | _, [] => []
 | i, v :: vs => (a.add i, v) :: ents a (i + 1) vs
def ELoad (P : Program) (o : Oper) (F : AFrame) (H : jaa) (k : Value → List (Addr × Value) → Prop) : Prop :=
 match o.op with
 | .load t x => match ev F x, tyA P t, P.info? t with
   | some (.pointer (some a)), some (.c c), _ => Ld c a H fun d => k (c.emb d) [(a, c.emb d)]
   | some (.pointer (some a)), some (.agg l), some i => bif Nat.beq i.size l.length then LdC l a H fun d => k (.agg ⟨jkQ l d⟩) (ents a 0 (jkQ l d)) else False
   | some (.pointer (some a)), some (.big n _), some i => bif Nat.beq i.size n then LdB n a H fun vs => k (.agg ⟨vs⟩) (ents a 0 vs) else False
   | _, _, _ => False
 | _ => False
theorem hcells_ents {H : jaa} {a : Addr} : ∀ {vs : List Value} {i : Nat}, jaR H a i vs ↔ ∀ e ∈ ents a i vs, jar H e.1 = some e.2
 | [], i => by simp [jaR, ents]
 | v :: vs, i => by simp [jaR, ents, hcells_ents]
theorem jcn {P : Program} {a : Addr} {w : World} : ∀ {vs : List Value} {i : Nat} {acc : Array Value}, jaR w.heap a i vs →
 (loadCellsFrom a i vs.length acc).run P w = .ok (acc ++ vs.toArray) w
 | [], i, acc, _ => by simp [loadCellsFrom]
 | v :: vs, i, acc, h => by
   simp only [List.length_cons, loadCellsFrom, Sem.run_bind, run_load, cell?_eq, h.1, Result.andThen_ok]
   rw [jcn h.2]
   simp
theorem jbL {P : Program} {a : Addr} {w : World} {vs : List Value} (h : jaR w.heap a 0 vs) : (loadCells a vs.length).run P w = .ok ⟨vs⟩ w := by
 unfold loadCells; rw [jcn h]; simp
theorem ELoad.sound {P : Program} {o : Oper} {n : Nat} {F : AFrame} {a : Act} (hag : Ag n F a) {H : jaa} {k : Value → List (Addr × Value) → Prop} (h : ELoad P o F H k) :
 ∃ v Ls, (∀ w, (∀ e ∈ Ls, jar w.heap e.1 = some e.2) → (execOp a.eval o).run P w = .ok (.value v) w) ∧ (∀ e ∈ Ls, jar H e.1 = some e.2) ∧ k v Ls := by
 unfold ELoad at h
 split at h
 ·rename_i t x hx
  split at h
  ·rename_i p c hp ht
   obtain ⟨d, hd, hk⟩ := h
   refine ⟨_, _, fun w hw => ?_, ?_, hk⟩
   ·have := hw (p, c.emb d) (by simp)
    simp only [execOp, hx, hag.ev hp, Instr.loadAt, Instr.sureAddr, loadVar, Sem.run_bind, Sem.run_pure, Result.andThen_ok, jmF ht, Bool.false_eq_true, if_false, run_load, cell?_eq, this]
   ·intro e he; simp only [List.mem_singleton] at he; subst he; exact hd
  ·rename_i p l i hp ht hi
   cases hb : Nat.beq i.size l.length with
   | false => rw [hb] at h; exact h.elim
   | true =>
     rw [hb] at h
     obtain ⟨d, hd, hk⟩ := (h : LdC l p H _)
     refine ⟨_, _, fun w hw => ?_, hcells_ents.1 hd, hk⟩
     have hl := jbL (P := P) (hcells_ents.2 hw)
     rw [jd8] at hl
     have hsz : i.size = l.length := Nat.eq_of_beq_eq_true hb
     simp only [execOp, hx, hag.ev hp, Instr.loadAt, Instr.sureAddr, loadVar, Sem.run_bind, Sem.run_pure, Result.andThen_ok, jlL ht, if_true, ja7 hi, hsz, hl]
  ·rename_i p m c i hp ht hi
   cases hb : Nat.beq i.size m with
   | false => rw [hb] at h; exact h.elim
   | true =>
     rw [hb] at h
     obtain ⟨vs, hvl, hd, hk⟩ := (h : LdB m p H _)
     refine ⟨_, _, fun w hw => ?_, hcells_ents.1 hd, hk⟩
     have hl := jbL (P := P) (hcells_ents.2 hw)
     rw [hvl] at hl
     have hsz : i.size = m := Nat.eq_of_beq_eq_true hb
     simp only [execOp, hx, hag.ev hp, Instr.loadAt, Instr.sureAddr, loadVar, Sem.run_bind, Sem.run_pure, Result.andThen_ok, jkK ht, if_true, ja7 hi, hsz, hl]
  ·exact h.elim
 ·exact h.elim
def EStC : List CTy → Addr → Nat → List Value → jaa → (jaa → Prop) → Prop
 | [], _, _, [], H, k => k H
 | .raw :: l, a, i, v :: vs, H, k => StV (a.add i) v H fun H' => EStC l a (i + 1) vs H' k
 | c :: l, a, i, v :: vs, H, k => match c.un v with
   | some d => St (a.add i) (c.emb d) H fun H' => EStC l a (i + 1) vs H' k
   | none => False
 | _, _, _, _, _, _ => False
def EStore (P : Program) (t : TypeId) (a : Addr) (v : Value) (H : jaa) (k : jaa → Prop) : Prop :=
 match tyA P t, P.info? t with
 | some (.c .raw), some i => bif Nat.beq i.size 1 then StV a v H k else False
 | some (.c c), some i => bif Nat.beq i.size 1 then (match c.un v with
   | some d => St a (c.emb d) H k
   | none => False) else False
 | some (.agg l), some i => (match v with
   | .agg cs => bif Nat.beq i.size cs.size then EStC l a 0 cs.toList H k else False
   | _ => False)
 | some (.big _ _), some i => StB v i.size a H k
 | _, _ => False
theorem jgi {c : CTy} (h : c ≠ .raw) (d : c.den) : (c.emb d).oneCell' = true := by cases c <;> first | rfl | exact absurd rfl h
theorem jmc {α : Type} {P : Program} {m : Mode} {a : Addr} {v : Value} {f : Sem α} {k : α → jaa → Prop} {H : jaa} (hv : v.oneCell' = true) :
 SW P (.store m a v f) k H = ((jar H a).isSome = true ∧ jba H a = false ∧ SW P f k (jdv H a v)) := by
 cases v <;> first | rfl | (simp [Value.oneCell'] at hv; done)
theorem jfW {P : Program} {m : Mode} {a : Addr} {v : Value} {k : Unit → jaa → Prop} {H : jaa} (hv : v.oneCell' = true) :
 SW P (store a v m) k H = St a v H (k ()) := by unfold store; rw [jmc hv]; rfl
theorem EStC.sound {P : Program} : ∀ {l : List CTy} {a : Addr} {i : Nat} {vs : List Value} {H : jaa} {k : jaa → Prop}, EStC l a i vs H k → SW P (storeCells a vs i) (fun _ => k) H
 | [], a, i, [], H, k, h => h
 | [], a, i, v :: vs, H, k, h => by simp [EStC] at h
 | c :: l, a, i, [], H, k, h => by cases c <;> simp [EStC] at h
 | c :: l, a, i, v :: vs, H, k, h => by
   simp only [storeCells, jae]
   have main : ∀ u, u.oneCell' = true → u = v → St (a.add i) u H (fun H' => EStC l a (i + 1) vs H' k) →
    SW P (store (a.add i) v) (fun _ H' => SW P (storeCells a vs (i + 1)) (fun _ => k) H') H := by
    rintro u hu rfl hs
    rw [jfW hu]
    exact ⟨hs.1, hs.2.1, EStC.sound hs.2.2⟩
   cases c with
   | raw => simp only [EStC] at h; exact main v h.1 rfl h.2
   | _ =>
     simp only [EStC] at h
     split at h
     ·rename_i d hd
      exact main _ (jgi (by simp) d) (CTy.un_emb hd).symm h
     ·exact h.elim
theorem jgN {P : Program} : ∀ {vs : List Value} {a : Addr} {i : Nat} {H : jaa} {k : jaa → Prop}, StL a i vs H k → SW P (storeCells a vs i) (fun _ => k) H
 | [], _, _, _, _, h => h
 | v :: vs, a, i, H, k, h => by
   simp only [storeCells, jae, jfW h.1]
   exact ⟨h.2.1, h.2.2.1, jgN h.2.2.2⟩
theorem jlZ {v : Value} (h : v.oneCell' = true) : v.cells = #[v] := by cases v <;> first | rfl | (simp [Value.oneCell'] at h; done)
theorem jbA {P : Program} {t : TypeId} {i : TypeInfo} (h : P.info? t = some i) (k : Nat → jaa → Prop) (H : jaa) : SW P (sizeOf t) k H = k i.size H := by
 unfold sizeOf typeInfo program
 simp only [jae, SW, h]
 rfl
theorem EStore.sound {P : Program} {t : TypeId} {a : Addr} {v : Value} {H : jaa} {k : jaa → Prop} (h : EStore P t a v H k) :
 SW P (storeVar t a v) (fun _ => k) H := by
 have one : ∀ (i : TypeInfo) u, P.info? t = some i → Nat.beq i.size 1 = true → u = v → u.oneCell' = true → St a u H k → SW P (storeVar t a v) (fun _ => k) H := by
  rintro i u hi hsz rfl hu hs
  have hsz' : i.size = 1 := Nat.eq_of_beq_eq_true hsz
  unfold storeVar
  simp only [jae, jbA hi, jlZ hu, hsz']
  show SW P (storeCells a [u]) _ H
  simp only [storeCells, jae, jfW hu, Addr.add_zero']
  exact hs
 unfold EStore at h
 split at h
 ·rename_i i ht hi
  cases hb : Nat.beq i.size 1 with
  | false => rw [hb] at h; exact h.elim
  | true => rw [hb] at h; exact one i v hi hb rfl (h : StV a v H k).1 (h : StV a v H k).2
 ·rename_i c i hne ht hi
  cases hb : Nat.beq i.size 1 with
  | false => rw [hb] at h; exact h.elim
  | true =>
    rw [hb] at h
    simp only [cond_true] at h
    split at h
    ·rename_i d hd; exact one i _ hi hb (CTy.un_emb hd).symm (jgi (fun e => hne e) d) h
    ·exact h.elim
 ·rename_i l i ht hi
  split at h
  ·rename_i cs
   cases hb : Nat.beq i.size cs.size with
   | false => rw [hb] at h; exact h.elim
   | true =>
     rw [hb] at h
     have hsz' : i.size = cs.size := Nat.eq_of_beq_eq_true hb
     unfold storeVar
     simp only [jae, jbA hi, Value.cells, hsz', ne_eq, not_true_eq_false, if_false]
     exact EStC.sound h
  ·exact h.elim
 ·rename_i n c i ht hi
  obtain ⟨vs, rfl, hl, hs⟩ := h
  unfold storeVar
  have hsz : (⟨vs⟩ : Array Value).size = i.size := by simpa using hl
  simp only [jae, jbA hi, Value.cells, hsz, ne_eq, not_true_eq_false, if_false]
  exact jgN hs
 ·exact h.elim
end Go.Proofs.YtfpmgpblhhcpgaaGreatDoor.Hc
