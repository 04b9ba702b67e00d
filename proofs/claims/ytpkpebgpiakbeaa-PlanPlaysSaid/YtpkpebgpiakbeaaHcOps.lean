/-
  Typed frames and the condition of each operation ('EPure': those that touch no memory; 'EOp': all), and that each gives the operation's own run.
-/
import Derived.Test.YtpkpebgpiakbeaaHcCore
import Derived.Laws.Slices
import Derived.Laws.BytesString
namespace Go.Proofs.Ytpkpebgpiakbeaa.Hc
set_option linter.unusedVariables false
set_option linter.unusedSimpArgs false

/-! ### types of cells and values -/
inductive CTy where
  | int (k : IntKind) | bool | str | ptr | sl | raw
/-- A slice value. -/
structure Sl where
  a : Option Addr
  len : Nat
  cap : Nat
@[reducible] def CTy.den : CTy → Type
  | .int _ => Int
  | .bool => Bool
  | .str => ByteArray
  | .ptr => Option Addr
  | .sl => Sl
  | .raw => Value
def CTy.emb : (c : CTy) → c.den → Value
  | .int k, n => .int k n
  | .bool, b => .bool b
  | .str, s => .string s
  | .ptr, p => .pointer p
  | .sl, s => .slice s.a s.len s.cap
  | .raw, v => v
def CTy.un : (c : CTy) → Value → Option c.den
  | .int k, .int k' n => if k' = k then some n else none
  | .bool, .bool b => some b
  | .str, .string s => some s
  | .ptr, .pointer p => some p
  | .sl, .slice a l c => some ⟨a, l, c⟩
  | .raw, v => some v
  | _, _ => none
theorem CTy.un_emb {c : CTy} {v : Value} {d : c.den} (h : c.un v = some d) : v = c.emb d := by
  cases c <;> cases v <;> simp only [CTy.un, reduceCtorEq] at h
  case int.int k k' n => split at h <;> simp_all [CTy.emb]
  all_goals first | (cases h; rfl) | (simp only [Option.some.injEq] at h; subst h; rfl)

@[reducible] def DenC : List CTy → Type
  | [] => Unit
  | [t] => t.den
  | t :: u :: l => t.den × DenC (u :: l)
def embC : (l : List CTy) → DenC l → List Value
  | [], _ => []
  | [t], d => [t.emb d]
  | t :: u :: l, d => t.emb d.1 :: embC (u :: l) d.2
def unC : (l : List CTy) → List Value → Option (DenC l)
  | [], [] => some ()
  | [t], [v] => t.un v
  | t :: u :: l, v :: vs => (t.un v).bind fun d => (unC (u :: l) vs).map fun e => (d, e)
  | _, _ => none
theorem unC_emb : ∀ {l : List CTy} {vs : List Value} {d : DenC l}, unC l vs = some d → vs = embC l d
  | [], [], _, _ => rfl
  | [t], [v], d, h => by rw [CTy.un_emb (c := t) (d := d) h]; rfl
  | t :: u :: l, v :: vs, d, h => by
    simp only [unC, Option.bind_eq_some_iff, Option.map_eq_some_iff] at h
    obtain ⟨x, hx, e, he, rfl⟩ := h
    rw [CTy.un_emb hx, unC_emb he]; rfl
  | [], _ :: _, _, h => by simp [unC] at h
  | [_], [], _, h => by simp [unC] at h
  | [_], _ :: _ :: _, _, h => by simp [unC] at h
  | _ :: _ :: _, [], _, h => by simp [unC] at h
theorem embC_length : ∀ (l : List CTy) (d : DenC l), (embC l d).length = l.length
  | [], _ => rfl
  | [_], _ => rfl
  | _ :: u :: l, d => by simp [embC, embC_length (u :: l)]

inductive ATy where
  | c (t : CTy)
  | agg (l : List CTy)
@[reducible] def ATy.den : ATy → Type
  | .c t => t.den
  | .agg l => DenC l
def ATy.emb : (t : ATy) → t.den → Value
  | .c t, d => t.emb d
  | .agg l, d => .agg ⟨embC l d⟩
def ATy.un : (t : ATy) → Value → Option t.den
  | .c t, v => t.un v
  | .agg l, .agg cs => unC l cs.toList
  | _, _ => none
theorem ATy.un_emb {t : ATy} {v : Value} {d : t.den} (h : t.un v = some d) : v = t.emb d := by
  cases t with
  | c t => exact CTy.un_emb h
  | agg l =>
    cases v <;> simp only [ATy.un, reduceCtorEq] at h
    case agg cs => obtain ⟨cs⟩ := cs; exact congrArg (fun l => Value.agg ⟨l⟩) (unC_emb h)

@[reducible] def DenA : List ATy → Type
  | [] => Unit
  | [t] => t.den
  | t :: u :: l => t.den × DenA (u :: l)
def embA : (l : List ATy) → DenA l → List Value
  | [], _ => []
  | [t], d => [t.emb d]
  | t :: u :: l, d => t.emb d.1 :: embA (u :: l) d.2
def unA : (l : List ATy) → List Value → Option (DenA l)
  | [], [] => some ()
  | [t], [v] => t.un v
  | t :: u :: l, v :: vs => (t.un v).bind fun d => (unA (u :: l) vs).map fun e => (d, e)
  | _, _ => none
theorem unA_emb : ∀ {l : List ATy} {vs : List Value} {d : DenA l}, unA l vs = some d → vs = embA l d
  | [], [], _, _ => rfl
  | [t], [v], d, h => by rw [ATy.un_emb (t := t) (d := d) h]; rfl
  | t :: u :: l, v :: vs, d, h => by
    simp only [unA, Option.bind_eq_some_iff, Option.map_eq_some_iff] at h
    obtain ⟨x, hx, e, he, rfl⟩ := h
    rw [ATy.un_emb hx, unA_emb he]; rfl
  | [], _ :: _, _, h => by simp [unA] at h
  | [_], [], _, h => by simp [unA] at h
  | [_], _ :: _ :: _, _, h => by simp [unA] at h
  | _ :: _ :: _, [], _, h => by simp [unA] at h
/-- A call's results. -/
inductive RTy where
  | one (t : ATy)
  | tup (l : List ATy)
@[reducible] def RTy.den : RTy → Type
  | .one t => t.den
  | .tup l => DenA l
def RTy.emb : (t : RTy) → t.den → Value
  | .one t, d => t.emb d
  | .tup l, d => .tuple ⟨embA l d⟩

/-! ### frames -/
abbrev AFrame := List (Nat × Value)
def AFrame.get : AFrame → Nat → Option Value
  | [], _ => none
  | (i, v) :: F, t => bif Nat.beq i t then some v else AFrame.get F t
def AFrame.put (F : AFrame) (dst : Option Nat) (v : Value) : AFrame :=
  match dst with
  | some d => (d, v) :: F
  | none => F
def ev (F : AFrame) : Operand → Option Value
  | .tmp t => F.get t
  | .const v => some v
  | .global g => some (.pointer (some ⟨g, 0, none⟩))
  | .func f => some (.func (.func f) #[] #[])
def rho (F : AFrame) (x : Operand) : Value := (ev F x).getD undef
/-- The act agrees with what the frame knows. -/
structure Ag (n : Nat) (F : AFrame) (a : Act) : Prop where
  size : a.tmps.size = n
  defers : a.defers = []
  get : ∀ t v, F.get t = some v → a.tmps[t]? = some v
theorem Ag.ev {n : Nat} {F : AFrame} {a : Act} (h : Ag n F a) {x : Operand} {v : Value} (hx : ev F x = some v) : a.eval x = v := by
  cases x with
  | tmp t => have := h.get t v hx; simp [Act.eval, this]
  | const u => simp only [Hc.ev, Option.some.injEq] at hx; exact hx
  | global g => simp only [Hc.ev, Option.some.injEq] at hx; exact hx
  | func f => simp only [Hc.ev, Option.some.injEq] at hx; exact hx
theorem AFrame.get_cons (i t : Nat) (v : Value) (F : AFrame) : AFrame.get ((i, v) :: F) t = if i = t then some v else AFrame.get F t := by
  simp only [AFrame.get]
  by_cases h : i = t
  · subst h; simp
  · have : Nat.beq i t = false := by cases hb : Nat.beq i t with
      | false => rfl
      | true => exact absurd (Nat.eq_of_beq_eq_true hb) h
    simp [this, h]
theorem Ag.put {n : Nat} {F : AFrame} {a : Act} (h : Ag n F a) {dst : Option Nat} (hd : ∀ d, dst = some d → d < n) (v : Value) : Ag n (F.put dst v) (a.put dst v) := by
  cases dst with
  | none => exact h
  | some d =>
    refine ⟨by simp [Act.put, h.size], by simp [Act.put, h.defers], fun t u hu => ?_⟩
    simp only [AFrame.put, AFrame.get_cons] at hu
    have hdn := hd d rfl
    by_cases hdt : d = t
    · subst hdt
      simp only [if_true] at hu
      simp only [Act.put, Array.getElem?_setIfInBounds, if_true, h.size, hdn]
      exact hu
    · rw [if_neg hdt] at hu
      simp only [Act.put, Array.getElem?_setIfInBounds, hdt, if_false]
      exact h.get t u hu

/-! ### the words of the printed conditions -/
def opt {α : Type} (v : Option α) (k : α → Prop) : Prop := match v with | some v => k v | none => False
def Br (b : Bool) (X Y : Prop) : Prop := cond b X Y
def Lt (v : Int) (k : Int → Prop) : Prop := k v
def NilCk (p : Option Addr) (k : Addr → Prop) : Prop := ∃ a, p = some a ∧ k a
def ShL (kd : IntKind) (x y : Int) (k : Int → Prop) : Prop := 0 ≤ y ∧ k (kd.wrap (x * 2 ^ (min y.toNat kd.bits)))
def ShR (kd : IntKind) (x y : Int) (k : Int → Prop) : Prop := 0 ≤ y ∧ k (x.fdiv (2 ^ (min y.toNat kd.bits)))
def Quo (kd : IntKind) (x y : Int) (k : Int → Prop) : Prop := y ≠ 0 ∧ k (kd.wrap (x.tdiv y))
def Rem (x y : Int) (k : Int → Prop) : Prop := y ≠ 0 ∧ k (x.tmod y)
/-- The address of element i of a slice whose elements have so many cells. -/
def IxA (size : Nat) (s : Sl) (i : Int) (k : Addr → Prop) : Prop := ∃ a, s.a = some a ∧ 0 ≤ i ∧ i < (s.len : Int) ∧ k (a.add (i.toNat * size))
/-- The same in an array of n elements. -/
def IxR (size n : Nat) (a : Addr) (i : Int) (k : Addr → Prop) : Prop := 0 ≤ i ∧ i < (n : Int) ∧ k (a.add (i.toNat * size))
def SlA (size : Nat) (s : Sl) (lo hi mx : Int) (k : Sl → Prop) : Prop :=
  0 ≤ lo ∧ lo ≤ hi ∧ hi ≤ mx ∧ mx ≤ (s.cap : Int) ∧ k ⟨if mx.toNat = lo.toNat then s.a else s.a.map (·.add (lo.toNat * size)), hi.toNat - lo.toNat, mx.toNat - lo.toNat⟩
/-- An element of an array's value. -/
def ArI (c : CTy) (n : Nat) (cs : Array Value) (i : Int) (k : c.den → Prop) : Prop := ∃ d : c.den, 0 ≤ i ∧ i < (n : Int) ∧ cs[i.toNat]? = some (c.emb d) ∧ k d
/-- The address of a block's first cell. -/
abbrev adr (b : Nat) : Addr := ⟨b, 0, none⟩
def StrI (s : ByteArray) (i : Int) (k : Int → Prop) : Prop := ∃ b : UInt8, 0 ≤ i ∧ s[i.toNat]? = some b ∧ k b.toNat
def StrCat (a b : ByteArray) (k : ByteArray → Prop) : Prop := ((a.size + b.size : Nat) : Int) ≤ 2 ^ 63 - 1 ∧ k (a ++ b)
def StrS (s : ByteArray) (lo hi : Int) (k : ByteArray → Prop) : Prop := 0 ≤ lo ∧ lo ≤ hi ∧ hi ≤ (s.size : Int) ∧ k (s.extract lo.toNat hi.toNat)

def Ld (c : CTy) (a : Addr) (H : Heap) (k : c.den → Prop) : Prop := ∃ d : c.den, hcell H a = some (c.emb d) ∧ k d
def hcells (H : Heap) (a : Addr) : Nat → List Value → Prop
  | _, [] => True
  | i, v :: vs => hcell H (a.add i) = some v ∧ hcells H a (i + 1) vs
def LdC (l : List CTy) (a : Addr) (H : Heap) (k : DenC l → Prop) : Prop := ∃ d : DenC l, hcells H a 0 (embC l d) ∧ k d
def St (a : Addr) (v : Value) (H : Heap) (k : Heap → Prop) : Prop := (hcell H a).isSome = true ∧ hfrozen H a = false ∧ k (hset H a v)
/-- A store of a value of which nothing is known. -/
def StV (a : Addr) (v : Value) (H : Heap) (k : Heap → Prop) : Prop := v.oneCell' = true ∧ St a v H k
def Nw (cells : Array Value) (t : TypeId) (H : Heap) (k : Nat → Heap → Prop) : Prop := k H.size (H.push (.cells cells t))

/-! ### pure operations -/
def EBin (P : Program) (op : BinOp) (t : TypeId) (x y : Operand) (v u : Value) (kk : Value → Prop) : Prop :=
  let plain : Prop := SP P (do eqGuard op t x y v u; binOp op t v u) kk
  match op, v, u with
  | .add, .int k a, .int k' b => if k = k' then Lt (k.wrap (a + b)) (fun r => kk (.int k r)) else False
  | .sub, .int k a, .int k' b => if k = k' then Lt (k.wrap (a - b)) (fun r => kk (.int k r)) else False
  | .mul, .int k a, .int k' b => if k = k' then Lt (k.wrap (a * b)) (fun r => kk (.int k r)) else False
  | .and, .int k a, .int k' b => if k = k' then Lt (bits .and k a b) (fun r => kk (.int k r)) else False
  | .or, .int k a, .int k' b => if k = k' then Lt (bits .or k a b) (fun r => kk (.int k r)) else False
  | .xor, .int k a, .int k' b => if k = k' then Lt (bits .xor k a b) (fun r => kk (.int k r)) else False
  | .andNot, .int k a, .int k' b => if k = k' then Lt (bits .andNot k a b) (fun r => kk (.int k r)) else False
  | .quo, .int k a, .int k' b => if k = k' then Quo k a b (fun r => kk (.int k r)) else False
  | .rem, .int k a, .int k' b => if k = k' then Rem a b (fun r => kk (.int k r)) else False
  | .shl, .int k a, .int _ b => ShL k a b (fun r => kk (.int k r))
  | .shr, .int k a, .int _ b => ShR k a b (fun r => kk (.int k r))
  | .add, .string a, .string b => StrCat a b fun r => kk (.string r)
  | .eql, .pointer p, .pointer none => match P.underlying t with | some (.pointer _) => kk (.bool p.isNone) | _ => False
  | .neq, .pointer p, .pointer none => match P.underlying t with | some (.pointer _) => kk (.bool !p.isNone) | _ => False
  | .eql, .slice a _ _, .slice none _ _ => match P.underlying t with | some (.slice _) => kk (.bool a.isNone) | _ => False
  | .neq, .slice a _ _, .slice none _ _ => match P.underlying t with | some (.slice _) => kk (.bool !a.isNone) | _ => False
  | _, _, _ => plain

theorem equal_ptr_nil {P : Program} {t e : TypeId} (he : P.underlying t = some (.pointer e)) (p : Option Addr) (w : World) :
    (Op.equal t (.pointer p) (.pointer none)).run P w = .ok p.isNone w := by
  show (Op.equalIn (9999 + 1) t (.pointer p) (.pointer none)).run P w = _
  rw [Op.equalIn]
  simp only [Sem.run_bind, run_underlying he, Result.andThen]
  cases p <;> rfl
theorem equal_sl_nil {P : Program} {t e : TypeId} (he : P.underlying t = some (.slice e)) (a : Option Addr) (l c l' c' : Nat) (w : World) :
    (Op.equal t (.slice a l c) (.slice none l' c')).run P w = .ok a.isNone w := by
  show (Op.equalIn (9999 + 1) t (.slice a l c) (.slice none l' c')).run P w = _
  rw [Op.equalIn]
  simp only [Sem.run_bind, run_underlying he, Result.andThen]
  cases a <;> rfl
theorem EBin.sound {P : Program} {op : BinOp} {t : TypeId} {x y : Operand} {v u : Value} {kk : Value → Prop} (h : EBin P op t x y v u kk) :
    ∃ r, (∀ w, (do eqGuard op t x y v u; binOp op t v u : Sem Value).run P w = .ok r w) ∧ kk r := by
  unfold EBin at h
  dsimp only at h
  split at h
  case h_1 k a k' b => split at h; · rename_i e; subst e; exact ⟨_, fun w => by simp [eqGuard, binOp, Op.intArith], h⟩
                       · exact h.elim
  case h_2 k a k' b => split at h; · rename_i e; subst e; exact ⟨_, fun w => by simp [eqGuard, binOp, Op.intArith], h⟩
                       · exact h.elim
  case h_3 k a k' b => split at h; · rename_i e; subst e; exact ⟨_, fun w => by simp [eqGuard, binOp, Op.intArith], h⟩
                       · exact h.elim
  case h_4 k a k' b => split at h; · rename_i e; subst e; exact ⟨_, fun w => by simp [eqGuard, binOp, intBits_and], h⟩
                       · exact h.elim
  case h_5 k a k' b => split at h; · rename_i e; subst e; exact ⟨_, fun w => by simp [eqGuard, binOp, intBits_or], h⟩
                       · exact h.elim
  case h_6 k a k' b => split at h; · rename_i e; subst e; exact ⟨_, fun w => by simp [eqGuard, binOp, intBits_xor], h⟩
                       · exact h.elim
  case h_7 k a k' b => split at h; · rename_i e; subst e; exact ⟨_, fun w => by simp [eqGuard, binOp, intBits_andNot], h⟩
                       · exact h.elim
  case h_8 k a k' b => split at h; · rename_i e; subst e; exact ⟨_, fun w => by simp [eqGuard, binOp, Op.intDiv, h.1], h.2⟩
                       · exact h.elim
  case h_9 k a k' b => split at h; · rename_i e; subst e; exact ⟨_, fun w => by simp [eqGuard, binOp, Op.intDiv, h.1], h.2⟩
                       · exact h.elim
  case h_10 k a k' b => exact ⟨_, fun w => by have := h.1; simp [eqGuard, binOp, Op.shift, Int.not_lt.2 this], h.2⟩
  case h_11 k a k' b => exact ⟨_, fun w => by have := h.1; simp [eqGuard, binOp, Op.shift, Int.not_lt.2 this], h.2⟩
  case h_12 a b =>
    refine ⟨_, fun w => ?_, h.2⟩
    have h1 := h.1
    have hm : IntKind.i64.max = 2 ^ 63 - 1 := by decide
    have hn : ¬ ((a.size + b.size : Nat) : Int) > IntKind.i64.max := by rw [hm]; omega
    show ((do eqGuard .add t x y (.string a) (.string b); Op.stringOp .add a b : Sem Value)).run P w = _
    unfold Op.stringOp
    simp only [Sem.run_bind, Sem.run_ite, hn, if_false]
    simp [eqGuard]
  case h_13 p =>
    split at h
    · rename_i e he
      exact ⟨_, fun w => by simp [eqGuard, binOp, equal_ptr_nil he], h⟩
    · exact h.elim
  case h_14 p =>
    split at h
    · rename_i e he
      exact ⟨_, fun w => by simp [eqGuard, binOp, equal_ptr_nil he], h⟩
    · exact h.elim
  case h_15 a l c l' c' =>
    split at h
    · rename_i e he
      exact ⟨_, fun w => by simp [eqGuard, binOp, equal_sl_nil he], h⟩
    · exact h.elim
  case h_16 a l c l' c' =>
    split at h
    · rename_i e he
      exact ⟨_, fun w => by simp [eqGuard, binOp, equal_sl_nil he], h⟩
    · exact h.elim
  case h_17 => exact SP.sound h
end Go.Proofs.Ytpkpebgpiakbeaa.Hc
