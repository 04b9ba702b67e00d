/-
  Typed frames and the condition of each operation ('EPure': those that touch no memory; 'EOp': all), and that each gives the operation's own run.
-/
import Derived.Test.YtlkmmplgfjicjaaDoorHcCore
import Derived.Laws.Slices
import Derived.Laws.BytesString
import Derived.Laws.StructEq
namespace Go.Proofs.YtlkmmplgfjicjaaDoor.Hc
set_option linter.unusedVariables false
set_option linter.unusedSimpArgs false

/-! ### types of cells and values -/
inductive CTy where
  | int (k : IntKind) | bool | str | ptr | sl | raw
/-- A slice value. -/
structure Sl where
  a : Option Addr
  len : Nat
  cap : Nat
@[reducible] def CTy.den : CTy → Type
  | .int _ => Int
  | .bool => Bool
  | .str => ByteArray
  | .ptr => Option Addr
  | .sl => Sl
  | .raw => Value
def CTy.emb : (c : CTy) → c.den → Value
  | .int k, n => .int k n
  | .bool, b => .bool b
  | .str, s => .string s
  | .ptr, p => .pointer p
  | .sl, s => .slice s.a s.len s.cap
  | .raw, v => v
def CTy.un : (c : CTy) → Value → Option c.den
  | .int k, .int k' n => if k' = k then some n else none
  | .bool, .bool b => some b
  | .str, .string s => some s
  | .ptr, .pointer p => some p
  | .sl, .slice a l c => some ⟨a, l, c⟩
  | .raw, v => some v
  | _, _ => none
theorem CTy.un_emb {c : CTy} {v : Value} {d : c.den} (h : c.un v = some d) : v = c.emb d := by
  cases c <;> cases v <;> simp only [CTy.un, reduceCtorEq] at h
  case int.int k k' n => split at h <;> simp_all [CTy.emb]
  all_goals first | (cases h; rfl) | (simp only [Option.some.injEq] at h; subst h; rfl)

@[reducible] def DenC : List CTy → Type
  | [] => Unit
  | [t] => t.den
  | t :: u :: l => t.den × DenC (u :: l)
def embC : (l : List CTy) → DenC l → List Value
  | [], _ => []
  | [t], d => [t.emb d]
  | t :: u :: l, d => t.emb d.1 :: embC (u :: l) d.2
def unC : (l : List CTy) → List Value → Option (DenC l)
  | [], [] => some ()
  | [t], [v] => t.un v
  | t :: u :: l, v :: vs => (t.un v).bind fun d => (unC (u :: l) vs).map fun e => (d, e)
  | _, _ => none
theorem unC_emb : ∀ {l : List CTy} {vs : List Value} {d : DenC l}, unC l vs = some d → vs = embC l d
  | [], [], _, _ => rfl
  | [t], [v], d, h => by rw [CTy.un_emb (c := t) (d := d) h]; rfl
  | t :: u :: l, v :: vs, d, h => by
    simp only [unC, Option.bind_eq_some_iff, Option.map_eq_some_iff] at h
    obtain ⟨x, hx, e, he, rfl⟩ := h
    rw [CTy.un_emb hx, unC_emb he]; rfl
  | [], _ :: _, _, h => by simp [unC] at h
  | [_], [], _, h => by simp [unC] at h
  | [_], _ :: _ :: _, _, h => by simp [unC] at h
  | _ :: _ :: _, [], _, h => by simp [unC] at h
theorem embC_length : ∀ (l : List CTy) (d : DenC l), (embC l d).length = l.length
  | [], _ => rfl
  | [_], _ => rfl
  | _ :: u :: l, d => by simp [embC, embC_length (u :: l)]

inductive ATy where
  | c (t : CTy)
  | agg (l : List CTy)
  | big (n : Nat) (c : CTy)
@[reducible] def ATy.den : ATy → Type
  | .c t => t.den
  | .agg l => DenC l
  | .big _ _ => Value
def ATy.emb : (t : ATy) → t.den → Value
  | .c t, d => t.emb d
  | .agg l, d => .agg ⟨embC l d⟩
  | .big _ _, v => v
def ATy.un : (t : ATy) → Value → Option t.den
  | .c t, v => t.un v
  | .agg l, .agg cs => unC l cs.toList
  | .big _ _, v => some v
  | _, _ => none
theorem ATy.un_emb {t : ATy} {v : Value} {d : t.den} (h : t.un v = some d) : v = t.emb d := by
  cases t with
  | c t => exact CTy.un_emb h
  | agg l =>
    cases v <;> simp only [ATy.un, reduceCtorEq] at h
    case agg cs => obtain ⟨cs⟩ := cs; exact congrArg (fun l => Value.agg ⟨l⟩) (unC_emb h)
  | big n c => simp only [ATy.un, Option.some.injEq] at h; exact h

@[reducible] def DenA : List ATy → Type
  | [] => Unit
  | [t] => t.den
  | t :: u :: l => t.den × DenA (u :: l)
def embA : (l : List ATy) → DenA l → List Value
  | [], _ => []
  | [t], d => [t.emb d]
  | t :: u :: l, d => t.emb d.1 :: embA (u :: l) d.2
def unA : (l : List ATy) → List Value → Option (DenA l)
  | [], [] => some ()
  | [t], [v] => t.un v
  | t :: u :: l, v :: vs => (t.un v).bind fun d => (unA (u :: l) vs).map fun e => (d, e)
  | _, _ => none
theorem unA_emb : ∀ {l : List ATy} {vs : List Value} {d : DenA l}, unA l vs = some d → vs = embA l d
  | [], [], _, _ => rfl
  | [t], [v], d, h => by rw [ATy.un_emb (t := t) (d := d) h]; rfl
  | t :: u :: l, v :: vs, d, h => by
    simp only [unA, Option.bind_eq_some_iff, Option.map_eq_some_iff] at h
    obtain ⟨x, hx, e, he, rfl⟩ := h
    rw [ATy.un_emb hx, unA_emb he]; rfl
  | [], _ :: _, _, h => by simp [unA] at h
  | [_], [], _, h => by simp [unA] at h
  | [_], _ :: _ :: _, _, h => by simp [unA] at h
  | _ :: _ :: _, [], _, h => by simp [unA] at h
/-- A call's results. -/
inductive RTy where
  | one (t : ATy)
  | tup (l : List ATy)
@[reducible] def RTy.den : RTy → Type
  | .one t => t.den
  | .tup l => DenA l
def RTy.emb : (t : RTy) → t.den → Value
  | .one t, d => t.emb d
  | .tup l, d => .tuple ⟨embA l d⟩

/-! ### frames -/
abbrev AFrame := List (Nat × Value)
def AFrame.get : AFrame → Nat → Option Value
  | [], _ => none
  | (i, v) :: F, t => bif Nat.beq i t then some v else AFrame.get F t
def AFrame.put (F : AFrame) (dst : Option Nat) (v : Value) : AFrame :=
  match dst with
  | some d => (d, v) :: F
  | none => F
def ev (F : AFrame) : Operand → Option Value
  | .tmp t => F.get t
  | .const v => some v
  | .global g => some (.pointer (some ⟨g, 0, none⟩))
  | .func f => some (.func (.func f) #[] #[])
def rho (F : AFrame) (x : Operand) : Value := (ev F x).getD undef
/-- The act agrees with what the frame knows. -/
structure Ag (n : Nat) (F : AFrame) (a : Act) : Prop where
  size : a.tmps.size = n
  defers : a.defers = []
  get : ∀ t v, F.get t = some v → a.tmps[t]? = some v
theorem Ag.ev {n : Nat} {F : AFrame} {a : Act} (h : Ag n F a) {x : Operand} {v : Value} (hx : ev F x = some v) : a.eval x = v := by
  cases x with
  | tmp t => have := h.get t v hx; simp [Act.eval, this]
  | const u => simp only [Hc.ev, Option.some.injEq] at hx; exact hx
  | global g => simp only [Hc.ev, Option.some.injEq] at hx; exact hx
  | func f => simp only [Hc.ev, Option.some.injEq] at hx; exact hx
theorem AFrame.get_cons (i t : Nat) (v : Value) (F : AFrame) : AFrame.get ((i, v) :: F) t = if i = t then some v else AFrame.get F t := by
  simp only [AFrame.get]
  by_cases h : i = t
  · subst h; simp
  · have : Nat.beq i t = false := by cases hb : Nat.beq i t with
      | false => rfl
      | true => exact absurd (Nat.eq_of_beq_eq_true hb) h
    simp [this, h]
theorem Ag.put {n : Nat} {F : AFrame} {a : Act} (h : Ag n F a) {dst : Option Nat} (hd : ∀ d, dst = some d → d < n) (v : Value) : Ag n (F.put dst v) (a.put dst v) := by
  cases dst with
  | none => exact h
  | some d =>
    refine ⟨by simp [Act.put, h.size], by simp [Act.put, h.defers], fun t u hu => ?_⟩
    simp only [AFrame.put, AFrame.get_cons] at hu
    have hdn := hd d rfl
    by_cases hdt : d = t
    · subst hdt
      simp only [if_true] at hu
      simp only [Act.put, Array.getElem?_setIfInBounds, if_true, h.size, hdn]
      exact hu
    · rw [if_neg hdt] at hu
      simp only [Act.put, Array.getElem?_setIfInBounds, hdt, if_false]
      exact h.get t u hu

/-! ### the words of the printed conditions -/
def opt' {α : Type} (v : Option α) (k : α → Prop) : Prop := match v with | some v => k v | none => False
def opt {α : Type} (v : Option α) (k : α → Prop) : Prop := match v with | some v => k v | none => False
def Br (b : Bool) (X Y : Prop) : Prop := cond b X Y
def Lt (v : Int) (k : Int → Prop) : Prop := k v
def NilCk (p : Option Addr) (k : Addr → Prop) : Prop := ∃ a, p = some a ∧ k a
def ShL (kd : IntKind) (x y : Int) (k : Int → Prop) : Prop := 0 ≤ y ∧ k (kd.wrap (x * 2 ^ (min y.toNat kd.bits)))
def ShR (kd : IntKind) (x y : Int) (k : Int → Prop) : Prop := 0 ≤ y ∧ k (x.fdiv (2 ^ (min y.toNat kd.bits)))
def Quo (kd : IntKind) (x y : Int) (k : Int → Prop) : Prop := y ≠ 0 ∧ k (kd.wrap (x.tdiv y))
def Rem (x y : Int) (k : Int → Prop) : Prop := y ≠ 0 ∧ k (x.tmod y)
/-- The address of element i of a slice whose elements have so many cells. -/
def IxA (size : Nat) (s : Sl) (i : Int) (k : Addr → Prop) : Prop := ∃ a, s.a = some a ∧ 0 ≤ i ∧ i < (s.len : Int) ∧ k (a.add (i.toNat * size))
/-- The same in an array of n elements. -/
def IxR (size n : Nat) (a : Addr) (i : Int) (k : Addr → Prop) : Prop := 0 ≤ i ∧ i < (n : Int) ∧ k (a.add (i.toNat * size))
def SlA (size : Nat) (s : Sl) (lo hi mx : Int) (k : Sl → Prop) : Prop :=
  0 ≤ lo ∧ lo ≤ hi ∧ hi ≤ mx ∧ mx ≤ (s.cap : Int) ∧ k ⟨if mx.toNat = lo.toNat then s.a else s.a.map (·.add (lo.toNat * size)), hi.toNat - lo.toNat, mx.toNat - lo.toNat⟩
/-- An element of an array's value. -/
def ArI (c : CTy) (n : Nat) (cs : Array Value) (i : Int) (k : c.den → Prop) : Prop := ∃ d : c.den, 0 ≤ i ∧ i < (n : Int) ∧ cs[i.toNat]? = some (c.emb d) ∧ k d
/-- An element of a great array's value. -/
def ArX (c : CTy) (n : Nat) (v : Value) (i : Int) (k : c.den → Prop) : Prop := ∃ cs, v = .agg cs ∧ ArI c n cs i k
/-- A value of an interface's type: nil, or not. -/
def IfNil (v : Value) (k : Bool → Prop) : Prop := (v = .nilIface ∧ k true) ∨ ((∃ t x, v = .iface t x) ∧ k false)
/-- What an assertion to a type that is no interface's gives. -/
def TAs (a : ATy) (T : TypeId) (z : a.den) (v : Value) (k : a.den → Bool → Prop) : Prop :=
  (∃ d, v = .iface T (a.emb d) ∧ k d true) ∨ ((v = .nilIface ∨ ∃ t x, v = .iface t x ∧ t ≠ T) ∧ k z false)
def TAs1 (a : ATy) (T : TypeId) (v : Value) (k : a.den → Prop) : Prop := ∃ d, v = .iface T (a.emb d) ∧ k d
def eqT : (t : CTy) → t.den → t.den → Bool
  | .int _, a, b => (a : Int) == b
  | .bool, a, b => (a : Bool) == b
  | .str, a, b => ByteArray.toList a == ByteArray.toList b
  | _, _, _ => false
/-- Are two structs one? -/
def eqL : (l : List CTy) → DenC l → DenC l → Bool
  | [], _, _ => true
  | [t], d, e => eqT t d e
  | t :: u :: l, d, e => eqT t d.1 e.1 && eqL (u :: l) d.2 e.2
/-- The kinds of a flat struct's fields. -/
def flatEq (P : Program) : Nat → List Field → Option (List CTy)
  | _, [] => some []
  | i, f :: fs => bif Nat.beq f.offset i && !(f.name == "_") then (match P.underlying f.type with
    | some (.int k) => (flatEq P (i + 1) fs).map fun l => .int k :: l
    | some .bool => (flatEq P (i + 1) fs).map fun l => .bool :: l
    | some .string => (flatEq P (i + 1) fs).map fun l => .str :: l
    | _ => none) else none
def EqAgg (P : Program) (t : TypeId) (xs ys : Array Value) (k : Bool → Prop) : Prop :=
  match flatEq P 0 (P.fieldsOf t).toList, P.underlying t with
  | some l, some (.struct _) => bif !P.stoodInHeld t && !P.eqGuardType P.depth t then opt' (unC l xs.toList) fun d => opt' (unC l ys.toList) fun e => k (eqL l d e) else False
  | _, _ => False
/-- The address of a block's first cell. -/
abbrev adr (b : Nat) : Addr := ⟨b, 0, none⟩
def StrI (s : ByteArray) (i : Int) (k : Int → Prop) : Prop := ∃ b : UInt8, 0 ≤ i ∧ s[i.toNat]? = some b ∧ k b.toNat
def StrCat (a b : ByteArray) (k : ByteArray → Prop) : Prop := ((a.size + b.size : Nat) : Int) ≤ 2 ^ 63 - 1 ∧ k (a ++ b)
def StrS (s : ByteArray) (lo hi : Int) (k : ByteArray → Prop) : Prop := 0 ≤ lo ∧ lo ≤ hi ∧ hi ≤ (s.size : Int) ∧ k (s.extract lo.toNat hi.toNat)

def Ld (c : CTy) (a : Addr) (H : Heap) (k : c.den → Prop) : Prop := ∃ d : c.den, hcell H a = some (c.emb d) ∧ k d
def hcells (H : Heap) (a : Addr) : Nat → List Value → Prop
  | _, [] => True
  | i, v :: vs => hcell H (a.add i) = some v ∧ hcells H a (i + 1) vs
def LdC (l : List CTy) (a : Addr) (H : Heap) (k : DenC l → Prop) : Prop := ∃ d : DenC l, hcells H a 0 (embC l d) ∧ k d
def St (a : Addr) (v : Value) (H : Heap) (k : Heap → Prop) : Prop := (hcell H a).isSome = true ∧ hfrozen H a = false ∧ k (hset H a v)
/-- A store of a value of which nothing is known. -/
def StV (a : Addr) (v : Value) (H : Heap) (k : Heap → Prop) : Prop := v.oneCell' = true ∧ St a v H k
/-- Cells written from an address on. -/
def StL (a : Addr) : Nat → List Value → Heap → (Heap → Prop) → Prop
  | _, [], H, k => k H
  | i, v :: vs, H, k => StV (a.add i) v H fun H' => StL a (i + 1) vs H' k
/-- A great array's value, loaded, stored. -/
def LdB (n : Nat) (a : Addr) (H : Heap) (k : List Value → Prop) : Prop := ∃ vs : List Value, vs.length = n ∧ hcells H a 0 vs ∧ k vs
def StB (v : Value) (n : Nat) (a : Addr) (H : Heap) (k : Heap → Prop) : Prop := ∃ vs : List Value, v = .agg ⟨vs⟩ ∧ vs.length = n ∧ StL a 0 vs H k
def Nw (cells : Array Value) (t : TypeId) (H : Heap) (k : Nat → Heap → Prop) : Prop := k H.size (H.push (.cells cells t))

/-! ### pure operations -/
def EBin0 (P : Program) (op : BinOp) (t : TypeId) (x y : Operand) (v u : Value) (kk : Value → Prop) : Prop :=
  let plain : Prop := SP P (do eqGuard op t x y v u; binOp op t v u) kk
  match op, v, u with
  | .add, .int k a, .int k' b => if k = k' then Lt (k.wrap (a + b)) (fun r => kk (.int k r)) else False
  | .sub, .int k a, .int k' b => if k = k' then Lt (k.wrap (a - b)) (fun r => kk (.int k r)) else False
  | .mul, .int k a, .int k' b => if k = k' then Lt (k.wrap (a * b)) (fun r => kk (.int k r)) else False
  | .and, .int k a, .int k' b => if k = k' then Lt (bits .and k a b) (fun r => kk (.int k r)) else False
  | .or, .int k a, .int k' b => if k = k' then Lt (bits .or k a b) (fun r => kk (.int k r)) else False
  | .xor, .int k a, .int k' b => if k = k' then Lt (bits .xor k a b) (fun r => kk (.int k r)) else False
  | .andNot, .int k a, .int k' b => if k = k' then Lt (bits .andNot k a b) (fun r => kk (.int k r)) else False
  | .quo, .int k a, .int k' b => if k = k' then Quo k a b (fun r => kk (.int k r)) else False
  | .rem, .int k a, .int k' b => if k = k' then Rem a b (fun r => kk (.int k r)) else False
  | .shl, .int k a, .int _ b => ShL k a b (fun r => kk (.int k r))
  | .shr, .int k a, .int _ b => ShR k a b (fun r => kk (.int k r))
  | .add, .string a, .string b => StrCat a b fun r => kk (.string r)
  | .eql, .pointer p, .pointer none => match P.underlying t with | some (.pointer _) => kk (.bool p.isNone) | _ => False
  | .neq, .pointer p, .pointer none => match P.underlying t with | some (.pointer _) => kk (.bool !p.isNone) | _ => False
  | .eql, .slice a _ _, .slice none _ _ => match P.underlying t with | some (.slice _) => kk (.bool a.isNone) | _ => False
  | .neq, .slice a _ _, .slice none _ _ => match P.underlying t with | some (.slice _) => kk (.bool !a.isNone) | _ => False
  | .eql, .agg a, .agg b => EqAgg P t a b fun r => kk (.bool r)
  | .neq, .agg a, .agg b => EqAgg P t a b fun r => kk (.bool !r)
  | _, _, _ => plain
def EBin (P : Program) (op : BinOp) (t : TypeId) (x y : Operand) (v u : Value) (kk : Value → Prop) : Prop :=
  match op, u with
  | .eql, .nilIface => (match y, P.underlying t with | .const _, some (.interface _) => IfNil v fun b => kk (.bool b) | _, _ => False)
  | .neq, .nilIface => (match y, P.underlying t with | .const _, some (.interface _) => IfNil v fun b => kk (.bool !b) | _, _ => False)
  | _, _ => EBin0 P op t x y v u kk

theorem equal_ptr_nil {P : Program} {t e : TypeId} (he : P.underlying t = some (.pointer e)) (p : Option Addr) (w : World) :
    (Op.equal t (.pointer p) (.pointer none)).run P w = .ok p.isNone w := by
  show (Op.equalIn (9999 + 1) t (.pointer p) (.pointer none)).run P w = _
  rw [Op.equalIn]
  simp only [Sem.run_bind, run_underlying he, Result.andThen]
  cases p <;> rfl
theorem equal_sl_nil {P : Program} {t e : TypeId} (he : P.underlying t = some (.slice e)) (a : Option Addr) (l c l' c' : Nat) (w : World) :
    (Op.equal t (.slice a l c) (.slice none l' c')).run P w = .ok a.isNone w := by
  show (Op.equalIn (9999 + 1) t (.slice a l c) (.slice none l' c')).run P w = _
  rw [Op.equalIn]
  simp only [Sem.run_bind, run_underlying he, Result.andThen]
  cases a <;> rfl
theorem opt'_cases {α : Type} {v : Option α} {k : α → Prop} (h : opt' v k) : ∃ x, v = some x ∧ k x := by
  cases v with
  | none => exact h.elim
  | some x => exact ⟨x, rfl, h⟩
def plainD : TypeDesc → Bool
  | .struct _ => false
  | .array _ _ => false
  | _ => true
theorem run_part1 {P : Program} {w : World} {t : TypeId} {d : TypeDesc} (hu : P.underlying t = some d) (hd : plainD d = true) {cs : Array Value} {i : Nat} {v : Value} (hi : cs[i]? = some v) :
    (part t cs i).run P w = .ok v w := by
  have ha : (isAgg t).run P w = .ok false w := by
    unfold isAgg
    simp only [Sem.run_bind, run_underlying hu, Result.andThen_ok]
    cases d <;> first | rfl | (simp [plainD] at hd; done)
  unfold part
  simp only [Sem.run_bind, ha, Result.andThen_ok, Bool.false_eq_true, if_false, hi, Sem.run_pure]
theorem eqFields_run {P : Program} {w : World} {xs ys : Array Value} {n : Nat} : ∀ {fs : List Field} {i : Nat} {l : List CTy} {d e : DenC l}, flatEq P i fs = some l → unC l (xs.toList.drop i) = some d → unC l (ys.toList.drop i) = some e →
    (Op.eqFields (n + 1) xs ys fs).run P w = .ok (eqL l d e) w
  | [], i, l, d, e, h, _, _ => by
    simp only [flatEq, Option.some.injEq] at h; subst h; rfl
  | f :: fs, i, l, d, e, h, hd, he => by
    unfold flatEq at h
    cases hb : (Nat.beq f.offset i && !(f.name == "_")) with
    | false => rw [hb] at h; cases h
    | true =>
      rw [hb] at h
      simp only [cond_true] at h
      rw [Bool.and_eq_true] at hb
      have ho : f.offset = i := Nat.eq_of_beq_eq_true hb.1
      have hn : f.name ≠ "_" := by simpa using hb.2
      have key : ∀ (c : CTy) (l' : List CTy), l = c :: l' → flatEq P (i + 1) fs = some l' → (∀ a b : c.den, ∃ dd, P.underlying f.type = some dd ∧ plainD dd = true ∧ (Op.equalIn (n + 1) f.type (c.emb a) (c.emb b)).run P w = .ok (eqT c a b) w) →
          (Op.eqFields (n + 1) xs ys (f :: fs)).run P w = .ok (eqL l d e) w := by
        rintro c l' rfl hl' hc
        obtain ⟨a, xs', hxs, ha, hd'⟩ : ∃ (a : c.den) (xs' : List Value), xs.toList.drop i = c.emb a :: xs' ∧ (∃ d' : DenC l', unC l' xs' = some d' ∧ (∀ (b : c.den) (e' : DenC l') (ys' : List Value) , unC (c :: l') (c.emb b :: ys') = some e → unC l' ys' = some e' → eqL (c :: l') d e = (eqT c a b && eqL l' d' e'))) ∧ True := by
          cases hx : xs.toList.drop i with
          | nil => rw [hx] at hd; cases l' <;> simp [unC] at hd
          | cons v xs' =>
            rw [hx] at hd
            cases l' with
            | nil =>
              cases xs' with
              | nil =>
                have hv := CTy.un_emb (c := c) (v := v) (d := d) hd
                refine ⟨d, [], by rw [hv], ⟨(), rfl, fun b e' ys' h1 h2 => ?_⟩, trivial⟩
                cases ys' with
                | nil =>
                  have : c.emb b = c.emb e := CTy.un_emb (c := c) (d := e) h1
                  have hbe : b = e := by
                    have h3 : c.un (c.emb b) = some e := h1
                    have h4 : ∀ (c : CTy) (b : c.den), c.un (c.emb b) = some b := fun c b => by cases c <;> simp [CTy.un, CTy.emb]
                    rw [h4] at h3; exact Option.some.inj h3
                  subst hbe
                  simp [eqL]
                | cons _ _ => simp [unC] at h2
              | cons _ _ => simp [unC] at hd
            | cons u l' =>
              simp only [unC, Option.bind_eq_some_iff, Option.map_eq_some_iff] at hd
              obtain ⟨a, ha, d', hd', rfl⟩ := hd
              refine ⟨a, xs', by rw [CTy.un_emb ha], ⟨d', hd', fun b e' ys' h1 h2 => ?_⟩, trivial⟩
              simp only [unC, Option.bind_eq_some_iff, Option.map_eq_some_iff] at h1
              obtain ⟨b', hb', e2, he2, rfl⟩ := h1
              have h4 : ∀ (c : CTy) (b : c.den), c.un (c.emb b) = some b := fun c b => by cases c <;> simp [CTy.un, CTy.emb]
              rw [h4] at hb'
              rw [h2] at he2
              cases hb'; cases he2
              simp [eqL]
        obtain ⟨d', hd', heq⟩ := ha
        obtain ⟨b, ys', hys, e', he'⟩ : ∃ (b : c.den) (ys' : List Value), ys.toList.drop i = c.emb b :: ys' ∧ ∃ e' : DenC l', unC l' ys' = some e' := by
          cases hy : ys.toList.drop i with
          | nil => rw [hy] at he; cases l' <;> simp [unC] at he
          | cons v ys' =>
            rw [hy] at he
            cases l' with
            | nil =>
              cases ys' with
              | nil => exact ⟨e, [], by rw [CTy.un_emb (c := c) (v := v) (d := e) he], (), rfl⟩
              | cons _ _ => simp [unC] at he
            | cons u l' =>
              simp only [unC, Option.bind_eq_some_iff, Option.map_eq_some_iff] at he
              obtain ⟨b, hb', e2, he2, rfl⟩ := he
              exact ⟨b, ys', by rw [CTy.un_emb hb'], e2, he2⟩
        rw [hys] at he
        have hfin := heq b e' ys' he he'
        rw [hfin]
        obtain ⟨dd, hu, hdd, hrun⟩ := hc a b
        have gx : xs[i]? = some (c.emb a) := by
          rw [← Array.getElem?_toList, ← Nat.add_zero i, ← List.getElem?_drop, hxs]; rfl
        have gy : ys[i]? = some (c.emb b) := by
          rw [← Array.getElem?_toList, ← Nat.add_zero i, ← List.getElem?_drop, hys]; rfl
        simp only [Op.eqFields, if_pos hn, Sem.run_bind, ho, run_part1 hu hdd gx, run_part1 hu hdd gy, Result.andThen_ok, hrun, Sem.run_ite]
        have rx : xs.toList.drop (i + 1) = xs' := by rw [← List.drop_drop, hxs]; rfl
        have ry : ys.toList.drop (i + 1) = ys' := by rw [← List.drop_drop, hys]; rfl
        cases hq : eqT c a b with
        | true =>
          simp only [Bool.not_true, Bool.false_eq_true, if_false, Bool.true_and]
          exact eqFields_run hl' (by rw [rx]; exact hd') (by rw [ry]; exact he')
        | false => simp
      split at h
      · rename_i k hu
        simp only [Option.map_eq_some_iff] at h
        obtain ⟨l', hl', rfl⟩ := h
        exact key (.int k) l' rfl hl' fun a b => ⟨_, hu, rfl, by simp only [CTy.emb, eqT]; exact run_equalIn_int w n f.type k k a b hu⟩
      · rename_i hu
        simp only [Option.map_eq_some_iff] at h
        obtain ⟨l', hl', rfl⟩ := h
        exact key .bool l' rfl hl' fun a b => ⟨_, hu, rfl, by simp only [CTy.emb, eqT]; exact run_equalIn_bool' w n f.type a b hu⟩
      · rename_i hu
        simp only [Option.map_eq_some_iff] at h
        obtain ⟨l', hl', rfl⟩ := h
        exact key .str l' rfl hl' fun a b => ⟨_, hu, rfl, by simp only [CTy.emb, eqT]; exact run_equalIn_string w n f.type a b hu⟩
      · cases h
theorem EqAgg.sound {P : Program} {t : TypeId} {xs ys : Array Value} {k : Bool → Prop} (h : EqAgg P t xs ys k) :
    ∃ r, (∀ w, (Op.equalIn 10000 t (.agg xs) (.agg ys)).run P w = .ok r w) ∧ P.eqGuardType P.depth t = false ∧ k r := by
  unfold EqAgg at h
  split at h
  · rename_i l fs hl hu
    cases hb : (!P.stoodInHeld t && !P.eqGuardType P.depth t) with
    | false => rw [hb] at h; exact h.elim
    | true =>
      rw [hb] at h
      simp only [Bool.and_eq_true, Bool.not_eq_true'] at hb
      obtain ⟨d, hd, h⟩ := opt'_cases (h : opt' _ _)
      obtain ⟨e, he, h⟩ := opt'_cases h
      have hf : P.underlying t = some (.struct (P.fieldsOf t)) := by
        unfold Program.fieldsOf; rw [hu]
      refine ⟨_, fun w => ?_, hb.2, h⟩
      rw [show (10000 : Nat) = 9998 + 1 + 1 from rfl, run_equalIn_struct w _ t xs ys hf hb.1]
      exact eqFields_run hl (by simpa using hd) (by simpa using he)
  · exact h.elim
theorem EBin0.sound {P : Program} {op : BinOp} {t : TypeId} {x y : Operand} {v u : Value} {kk : Value → Prop} (h : EBin0 P op t x y v u kk) :
    ∃ r, (∀ w, (do eqGuard op t x y v u; binOp op t v u : Sem Value).run P w = .ok r w) ∧ kk r := by
  unfold EBin0 at h
  dsimp only at h
  split at h
  case h_1 k a k' b => split at h; · rename_i e; subst e; exact ⟨_, fun w => by simp [eqGuard, binOp, Op.intArith], h⟩
                       · exact h.elim
  case h_2 k a k' b => split at h; · rename_i e; subst e; exact ⟨_, fun w => by simp [eqGuard, binOp, Op.intArith], h⟩
                       · exact h.elim
  case h_3 k a k' b => split at h; · rename_i e; subst e; exact ⟨_, fun w => by simp [eqGuard, binOp, Op.intArith], h⟩
                       · exact h.elim
  case h_4 k a k' b => split at h; · rename_i e; subst e; exact ⟨_, fun w => by simp [eqGuard, binOp, intBits_and], h⟩
                       · exact h.elim
  case h_5 k a k' b => split at h; · rename_i e; subst e; exact ⟨_, fun w => by simp [eqGuard, binOp, intBits_or], h⟩
                       · exact h.elim
  case h_6 k a k' b => split at h; · rename_i e; subst e; exact ⟨_, fun w => by simp [eqGuard, binOp, intBits_xor], h⟩
                       · exact h.elim
  case h_7 k a k' b => split at h; · rename_i e; subst e; exact ⟨_, fun w => by simp [eqGuard, binOp, intBits_andNot], h⟩
                       · exact h.elim
  case h_8 k a k' b => split at h; · rename_i e; subst e; exact ⟨_, fun w => by simp [eqGuard, binOp, Op.intDiv, h.1], h.2⟩
                       · exact h.elim
  case h_9 k a k' b => split at h; · rename_i e; subst e; exact ⟨_, fun w => by simp [eqGuard, binOp, Op.intDiv, h.1], h.2⟩
                       · exact h.elim
  case h_10 k a k' b => exact ⟨_, fun w => by have := h.1; simp [eqGuard, binOp, Op.shift, Int.not_lt.2 this], h.2⟩
  case h_11 k a k' b => exact ⟨_, fun w => by have := h.1; simp [eqGuard, binOp, Op.shift, Int.not_lt.2 this], h.2⟩
  case h_12 a b =>
    refine ⟨_, fun w => ?_, h.2⟩
    have h1 := h.1
    have hm : IntKind.i64.max = 2 ^ 63 - 1 := by decide
    have hn : ¬ ((a.size + b.size : Nat) : Int) > IntKind.i64.max := by rw [hm]; omega
    show ((do eqGuard .add t x y (.string a) (.string b); Op.stringOp .add a b : Sem Value)).run P w = _
    unfold Op.stringOp
    simp only [Sem.run_bind, Sem.run_ite, hn, if_false]
    simp [eqGuard]
  case h_13 p =>
    split at h
    · rename_i e he
      exact ⟨_, fun w => by simp [eqGuard, binOp, equal_ptr_nil he], h⟩
    · exact h.elim
  case h_14 p =>
    split at h
    · rename_i e he
      exact ⟨_, fun w => by simp [eqGuard, binOp, equal_ptr_nil he], h⟩
    · exact h.elim
  case h_15 a l c l' c' =>
    split at h
    · rename_i e he
      exact ⟨_, fun w => by simp [eqGuard, binOp, equal_sl_nil he], h⟩
    · exact h.elim
  case h_16 a l c l' c' =>
    split at h
    · rename_i e he
      exact ⟨_, fun w => by simp [eqGuard, binOp, equal_sl_nil he], h⟩
    · exact h.elim
  case h_17 a b =>
    obtain ⟨r, hr, hg, hk⟩ := h.sound
    exact ⟨_, fun w => by rw [Sem.run_bind, run_eqGuard_agg w _ _ _ _ _ _ hg, Result.andThen_ok, run_eql_struct, hr w]; rfl, hk⟩
  case h_18 a b =>
    obtain ⟨r, hr, hg, hk⟩ := h.sound
    exact ⟨_, fun w => by rw [Sem.run_bind, run_eqGuard_agg w _ _ _ _ _ _ hg, Result.andThen_ok, run_neq_struct, hr w]; rfl, hk⟩
  case h_19 => exact SP.sound h
theorem equal_iface_nil {P : Program} {t : TypeId} {ms : Array (String × TypeId)} (he : P.underlying t = some (.interface ms)) {v : Value} {b : Bool} (hv : v = .nilIface ∧ b = true ∨ (∃ t x, v = .iface t x) ∧ b = false) (w : World) :
    (Op.equal t v .nilIface).run P w = .ok b w := by
  show (Op.equalIn (9999 + 1) t v .nilIface).run P w = _
  rw [Op.equalIn]
  simp only [Sem.run_bind, run_underlying he, Result.andThen]
  rcases hv with ⟨rfl, rfl⟩ | ⟨⟨t', x, rfl⟩, rfl⟩ <;> rfl
theorem eqGuard_nil {P : Program} {op : BinOp} {t : TypeId} {x : Operand} {c : Value} {v : Value} (w : World) (hv : v = .nilIface ∨ ∃ t x, v = .iface t x) : (eqGuard op t x (.const c) v .nilIface).run P w = .ok () w := by
  rcases hv with rfl | ⟨t', y, rfl⟩ <;> cases op <;> simp [eqGuard]
theorem IfNil.cases {v : Value} {k : Bool → Prop} (h : IfNil v k) : ∃ b, (v = .nilIface ∧ b = true ∨ (∃ t x, v = .iface t x) ∧ b = false) ∧ k b := by
  rcases h with ⟨h, hk⟩ | ⟨h, hk⟩
  · exact ⟨true, .inl ⟨h, rfl⟩, hk⟩
  · exact ⟨false, .inr ⟨h, rfl⟩, hk⟩
theorem EBin.sound {P : Program} {op : BinOp} {t : TypeId} {x y : Operand} {v u : Value} {kk : Value → Prop} (h : EBin P op t x y v u kk) :
    ∃ r, (∀ w, (do eqGuard op t x y v u; binOp op t v u : Sem Value).run P w = .ok r w) ∧ kk r := by
  unfold EBin at h
  split at h
  · split at h
    · rename_i c ms hu
      obtain ⟨b, hv, hk⟩ := h.cases
      refine ⟨_, fun w => ?_, hk⟩
      have hv2 : v = .nilIface ∨ ∃ t x, v = .iface t x := hv.imp (·.1) (·.1)
      have hbin : (binOp .eql t v .nilIface).run P w = .ok (.bool b) w := by
        have e : binOp .eql t v .nilIface = (do pure (.bool (← Op.equal t v .nilIface))) := by
          rcases hv2 with rfl | ⟨t', y, rfl⟩ <;> rfl
        rw [e]
        simp [equal_iface_nil hu hv]
      rw [Sem.run_bind, eqGuard_nil w hv2, Result.andThen_ok, hbin]
    · exact h.elim
  · split at h
    · rename_i c ms hu
      obtain ⟨b, hv, hk⟩ := h.cases
      refine ⟨_, fun w => ?_, hk⟩
      have hv2 : v = .nilIface ∨ ∃ t x, v = .iface t x := hv.imp (·.1) (·.1)
      have hbin : (binOp .neq t v .nilIface).run P w = .ok (.bool !b) w := by
        have e : binOp .neq t v .nilIface = (do pure (.bool (!(← Op.equal t v .nilIface)))) := by
          rcases hv2 with rfl | ⟨t', y, rfl⟩ <;> rfl
        rw [e]
        simp [equal_iface_nil hu hv]
      rw [Sem.run_bind, eqGuard_nil w hv2, Result.andThen_ok, hbin]
    · exact h.elim
  · exact h.sound
end Go.Proofs.YtlkmmplgfjicjaaDoor.Hc
