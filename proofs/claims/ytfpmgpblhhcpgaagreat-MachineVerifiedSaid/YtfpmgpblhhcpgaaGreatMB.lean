/-
  Machine: a run, in plain Lean.
-/
import Derived.Test.YtfpmgpblhhcpgaaGreatVC
import Derived.Test.YtfpmgpblhhcpgaaGreatHcDiceMath
import Derived.Test.YtfpmgpblhhcpgaaGreatVMacB
import Derived.Test.YtfpmgpblhhcpgaaGreatHcLists
namespace Go.Proofs.YtfpmgpblhhcpgaaGreat.Hc.Mc
set_option linter.unusedVariables false
set_option linter.unusedSimpArgs false
set_option maxRecDepth 100000
section
open Go Hc Hc.Vf Hc.Dice
structure Fnc where
  params : Int
  locals : Int
  code : List Ins
instance : Inhabited Fnc := ⟨⟨0, 0, []⟩⟩
structure MP where
  fns : List Fnc
  sys : Fnc
  reads : List Int
  writes : List Int
  sysN : Int
  lim : Int
def MP.ps (P : MP) : List Int := P.fns.map (·.params)
structure En where
  frame : Int
  seed : Int
  idx : Int
  gen : Int
  inputs : List (Int × Int × Int)
structure Pt where
  kind : Int
  vals : List Int
instance : Inhabited Pt := ⟨⟨0, []⟩⟩
structure Actn where
  fn : Fnc
  loc : List Int
  stk : List Int
  nx : Int
instance : Inhabited Actn := ⟨⟨default, [], [], 0⟩⟩
structure Cm where
  op : Int
  e : Int × Int
  kind : Int
  vals : List Int
  parts : List Pt
instance : Inhabited Cm := ⟨⟨0, (0, 0), 0, [], []⟩⟩
structure Ev where
  sys : Int
  e : Int × Int
  code : Int
  val : Int
instance : Inhabited Ev := ⟨⟨0, (0, 0), 0, 0⟩⟩
structure Ms where
  low : List Actn
  top : Actn
  vals : List Pt
  dice : Int
  since : Int
  steps : Int
  kept : List Pt
  cmds : List Cm
  evs : List Ev
  over : Bool
def lookV (l : List Pt) (k : Int) : Option (List Int) := (l.find? fun p => p.kind == k).map (·.vals)
def putV : List Pt → Int → Nat → Int → List Pt
  | [], _, _, _ => []
  | p :: r, k, f, x => if p.kind = k then ⟨p.kind, p.vals.set f x⟩ :: r else p :: putV r k f x
def truthI (b : Bool) : Int := if b then 1 else 0
abbrev w64 (x : Int) : Int := IntKind.wrap .i64 x
def divI (w x : Int) : Int := if x = 0 then 0 else if x = -1 then w64 (-w) else w64 (w.tdiv x)
def remI (w x : Int) : Int := if x = 0 ∨ x = -1 then 0 else w.tmod x
def binI (op : Nat) (w x : Int) : Int :=
  match op with
  | 6 => w64 (w + x)
  | 7 => w64 (w - x)
  | 8 => w64 (w * x)
  | 9 => divI w x
  | 10 => remI w x
  | 12 => truthI (decide (w = x))
  | 13 => truthI (decide (w ≠ x))
  | 14 => truthI (decide (w < x))
  | 15 => truthI (decide (w ≤ x))
  | 16 => truthI (decide (w > x))
  | 17 => truthI (decide (w ≥ x))
  | 36 => if w < x then w else x
  | _ => if w > x then w else x
def unI (op : Nat) (x : Int) : Int :=
  match op with
  | 11 => w64 (-x)
  | 18 => truthI (decide (x = 0))
  | _ => if x < 0 then w64 (-x) else x
def isBin (op : Int) : Bool := [6, 7, 8, 9, 10, 12, 13, 14, 15, 16, 17, 36, 37].contains op
def isUn (op : Int) : Bool := [11, 18, 38].contains op
def outerB (op : Int) : Bool := [4, 5, 25, 26, 27, 28, 29, 30, 35, 23].contains op
def isKindB (k : Int) : Bool := decide (1 ≤ k ∧ k ≤ 12)
def fieldOk (vals : List Pt) (a : Int) (set : List Int) : Bool :=
  decide (0 ≤ a) && (match lookV vals (a / 8) with | some v => decide (a % 8 < (v.length : Int)) | none => false) && set.contains (a / 8)
def accessM (P : MP) (m : Ms) (op : Nat) (A : Int) : Bool :=
  match op with
  | 2 => decide (0 ≤ A ∧ A < (m.top.loc.length : Int))
  | 3 => decide (0 ≤ A ∧ A < (m.top.loc.length : Int))
  | 4 => fieldOk m.vals A (P.reads ++ P.writes)
  | 5 => fieldOk m.vals A P.writes
  | 21 => decide (0 ≤ A ∧ A < (P.fns.length : Int) ∧ m.low.length + 1 ≤ 16)
  | 22 => decide (m.low ≠ [])
  | 26 => decide (0 ≤ A) && isKindB (A / 8) && decide (m.kept.length < 12)
  | 28 => decide (0 ≤ A) && isKindB (A / 8)
  | 29 => isKindB A
  | 35 => isKindB A
  | _ => true
def access (P : MP) (m : Ms) (i : Ins) : Bool := if m.low ≠ [] ∧ outerB i.1 = true then false else accessM P m i.1.toNat i.2
theorem accessM_other {P : MP} {m : Ms} {n : Nat} {A : Int} (h : n ≠ 2 ∧ n ≠ 3 ∧ n ≠ 4 ∧ n ≠ 5 ∧ n ≠ 21 ∧ n ≠ 22 ∧ n ≠ 26 ∧ n ≠ 28 ∧ n ≠ 29 ∧ n ≠ 35) : accessM P m n A = true := by
  unfold accessM
  split <;> first | rfl | omega
def room (m : Ms) (op : Int) : Bool :=
  if op = 27 ∨ op = 28 ∨ op = 29 ∨ op = 30 then decide (m.cmds.length < 16) else if op = 25 then decide (m.evs.length < 16) else true
def locals (f : Fnc) (l : List Int) : List Int := l ++ List.replicate ((min (max f.locals 0) 32).toNat - l.length) 0
def inp (l : List (Int × Int × Int)) (p k : Int) : Int := ((l.reverse.find? fun x => x.1 == p && x.2.1 == k).map (·.2.2)).getD 0
def rise (l : List Pt) : List Pt := (List.range 13).flatMap fun (k : Nat) => l.filter fun p => p.kind == (k : Int)
def goal (P : MP) (f : Fnc) (a : Int) : Int := if 0 ≤ a ∧ a < (f.code.length : Int) ∧ a ≤ P.lim then a else -1
def Ms.push (m : Ms) (x : Int) : Ms := { m with top := { m.top with stk := m.top.stk ++ [x] } }
def args (m : Ms) (t : Nat) : List Int := m.top.stk.drop (m.top.stk.length - t)
def cut (m : Ms) (t : Nat) : Ms := { m with top := { m.top with stk := m.top.stk.take (m.top.stk.length - t), nx := m.top.nx + 1 }, since := m.since + 1 }
noncomputable def act (P : MP) (E : En) (m m1 : Ms) (l : List Int) (op : Nat) (A : Int) : Int × Ms :=
  match op with
  | 1 => (0, m1.push A)
  | 2 => (0, m1.push m.top.loc[A.toNat]!)
  | 3 => (0, { m1 with top := { m1.top with loc := m.top.loc.set A.toNat l[0]! } })
  | 4 => (0, m1.push ((lookV m.vals (A / 8)).getD [])[(A % 8).toNat]!)
  | 5 => (0, { m1 with vals := putV m.vals (A / 8) (A % 8).toNat l[0]! })
  | 19 => (0, { m1 with top := { m1.top with nx := goal P m.top.fn A } })
  | 20 => (0, if l[0]! = 0 then { m1 with top := { m1.top with nx := goal P m.top.fn A } } else m1)
  | 21 => if m.steps + 1 ≤ 2000 then
      (0, { m1 with low := m.low ++ [m1.top], top := ⟨P.fns[A.toNat]!, locals P.fns[A.toNat]! l, [], 0⟩, steps := m.steps + 1, since := 0 })
      else (120, { m1 with steps := m.steps + 1 })
  | 22 => (0, { m1 with low := m.low.dropLast, top := { m.low.getLast! with stk := m.low.getLast!.stk ++ [l[0]!] } })
  | 23 => (0, { m1 with over := true })
  | 24 => if m.steps + 1 ≤ 2000 then (0, { m1 with steps := m.steps + 1, since := 0 }) else (120, { m1 with steps := m.steps + 1 })
  | 25 => (0, { m1 with evs := m.evs ++ [⟨P.sysN, (E.idx, E.gen), l[0]!, l[1]!⟩] })
  | 26 => (0, { m1 with kept := m.kept ++ [⟨A / 8, l⟩] })
  | 27 => (0, { m1 with cmds := m.cmds ++ [⟨1, (0, 0), 0, [], rise m.kept⟩], kept := [] })
  | 28 => (0, { m1 with cmds := m.cmds ++ [⟨3, (E.idx, E.gen), A / 8, l, []⟩] })
  | 29 => (0, { m1 with cmds := m.cmds ++ [⟨4, (E.idx, E.gen), A, [], []⟩] })
  | 30 => (0, { m1 with cmds := m.cmds ++ [⟨2, (E.idx, E.gen), 0, [], []⟩] })
  | 31 => (0, { m1.push (BelowF m.dice l[0]!).1 with dice := (BelowF m.dice l[0]!).2 })
  | 32 => (0, m1.push E.frame)
  | 33 => (0, m1.push E.idx)
  | 34 => (0, m1.push (inp E.inputs l[0]! l[1]!))
  | 35 => (0, m1.push (truthI (lookV m.vals A).isSome))
  | _ => (0, m1)
noncomputable def does (P : MP) (E : En) (m : Ms) (i : Ins) : Int × Ms :=
  let l := args m (takes P.ps i).toNat
  let m1 := cut m (takes P.ps i).toNat
  if isBin i.1 then (0, m1.push (binI i.1.toNat l[0]! l[1]!))
  else if isUn i.1 then (0, m1.push (unI i.1.toNat l[0]!))
  else act P E m m1 l i.1.toNat i.2
def ready (P : MP) (m : Ms) : Int :=
  if ¬ (0 ≤ m.top.nx ∧ m.top.nx < (m.top.fn.code.length : Int)) then 150
  else if m.since ≥ 40000 then 153
  else if isOpB (m.top.fn.code[m.top.nx.toNat]!).1 = false then 152
  else if (m.top.stk.length : Int) < takes P.ps m.top.fn.code[m.top.nx.toNat]! ∨ (m.top.stk.length : Int) - takes P.ps m.top.fn.code[m.top.nx.toNat]! + puts m.top.fn.code[m.top.nx.toNat]! > 64 then 151
  else if access P m m.top.fn.code[m.top.nx.toNat]! = false then 152
  else if room m (m.top.fn.code[m.top.nx.toNat]!).1 = false then 102
  else 0
noncomputable def stepM (P : MP) (E : En) (m : Ms) : Int × Ms :=
  if ready P m = 0 then does P E m m.top.fn.code[m.top.nx.toNat]! else (ready P m, m)
def initM (P : MP) (E : En) (parts : List Pt) : Ms :=
  { low := [], top := ⟨P.sys, locals P.sys [], [], 0⟩, vals := parts, dice := newS E.seed E.frame P.sysN E.idx, since := 0, steps := 0, kept := [], cmds := [], evs := [], over := false }
inductive Runs (P : MP) (E : En) : Ms → Nat → Int → Ms → Prop where
  | over {m : Ms} (h : m.over = true) : Runs P E m 0 0 m
  | bad {m : Ms} (h : m.over = false) (he : (stepM P E m).1 ≠ 0) : Runs P E m 1 (stepM P E m).1 (stepM P E m).2
  | step {m m' : Ms} {n : Nat} {e : Int} (h : m.over = false) (he : (stepM P E m).1 = 0) (hr : Runs P E (stepM P E m).2 n e m') : Runs P E m (n + 1) e m'
theorem Runs.unique {P : MP} {E : En} {m m1 : Ms} {n1 : Nat} {e1 : Int} (h : Runs P E m n1 e1 m1) : ∀ {n2 : Nat} {e2 : Int} {m2 : Ms}, Runs P E m n2 e2 m2 → n1 = n2 ∧ e1 = e2 ∧ m1 = m2 := by
  induction h with
  | over h => intro n2 e2 m2 h2; cases h2 with
    | over => exact ⟨rfl, rfl, rfl⟩
    | bad h' => rw [h] at h'; cases h'
    | step h' => rw [h] at h'; cases h'
  | bad h he => intro n2 e2 m2 h2; cases h2 with
    | over h' => rw [h] at h'; cases h'
    | bad => exact ⟨rfl, rfl, rfl⟩
    | step _ he' => exact absurd he' he
  | step h he _ ih => intro n2 e2 m2 h2; cases h2 with
    | over h' => rw [h] at h'; cases h'
    | bad _ he' => exact absurd he he'
    | step _ _ hr => obtain ⟨a, b, c⟩ := ih hr; exact ⟨by omega, b, c⟩
def All64 (l : List Int) : Prop := ∀ x ∈ l, I64 x
structure FnOk (f : Fnc) : Prop where
  loc : I64 f.locals
  par : I64 f.params
  code : ∀ i ∈ f.code, I64 i.1 ∧ I64 i.2
  len : f.code.length ≤ 2 ^ 60
structure POk (P : MP) : Prop where
  fns : ∀ f ∈ P.fns, FnOk f
  sys : FnOk P.sys
structure EOk (E : En) : Prop where
  frame : I64 E.frame
  idx : I64 E.idx
  inputs : ∀ x ∈ E.inputs, I64 x.2.2
structure AOk (P : MP) (a : Actn) : Prop where
  fn : a.fn = P.sys ∨ a.fn ∈ P.fns
  stk : a.stk.length ≤ 64
  stk64 : All64 a.stk
  loc : a.loc.length ≤ 64
  loc64 : All64 a.loc
  nx : -1 ≤ a.nx ∧ a.nx ≤ a.fn.code.length
structure MOk (P : MP) (m : Ms) : Prop where
  low : ∀ a ∈ m.low, AOk P a ∧ a.stk.length ≤ 63
  top : AOk P m.top
  lowl : m.low.length ≤ 16
  vals : ∀ p ∈ m.vals, All64 p.vals
  dice : 0 ≤ m.dice ∧ m.dice < 18446744073709551616
  since : 0 ≤ m.since ∧ m.since ≤ 40000
  steps : 0 ≤ m.steps ∧ m.steps ≤ 2000
  kept : m.kept.length ≤ 12
  keptK : ∀ p ∈ m.kept, 1 ≤ p.kind ∧ p.kind ≤ 12
  cmds : m.cmds.length ≤ 16
  evs : m.evs.length ≤ 16
theorem w64_bd (x : Int) : I64 (w64 x) := by unfold I64 w64; rw [wrap_i64]; omega
theorem truthI_bd (b : Bool) : I64 (truthI b) := by cases b <;> exact ⟨by decide, by decide⟩
theorem divI_bd (w x : Int) : I64 (divI w x) := by
  unfold divI
  split
  · exact ⟨by decide, by decide⟩
  · split <;> exact w64_bd _
theorem remI_bd {w x : Int} (hx : I64 x) : I64 (remI w x) := by
  unfold remI
  split
  · exact ⟨by decide, by decide⟩
  · rename_i h
    have h1 : x ≠ 0 := fun e => h (.inl e)
    have h2 := Int.natAbs_tmod w x
    have := Nat.mod_lt w.natAbs (show 0 < x.natAbs by omega)
    rw [← h2] at this
    unfold I64 at *
    omega
theorem binI_bd {op : Nat} {w x : Int} (hw : I64 w) (hx : I64 x) : I64 (binI op w x) := by
  unfold binI
  split
  · exact w64_bd _
  · exact w64_bd _
  · exact w64_bd _
  · exact divI_bd _ _
  · exact remI_bd hx
  · exact truthI_bd _
  · exact truthI_bd _
  · exact truthI_bd _
  · exact truthI_bd _
  · exact truthI_bd _
  · exact truthI_bd _
  · split <;> assumption
  · split <;> assumption
theorem unI_bd {op : Nat} {x : Int} (hx : I64 x) : I64 (unI op x) := by
  unfold unI
  split
  · exact w64_bd _
  · exact truthI_bd _
  · split
    · exact w64_bd _
    · exact hx
theorem all_get {l : List Int} (h : All64 l) (i : Nat) : I64 l[i]! := by
  by_cases hi : i < l.length
  · rw [getElem!_pos l i hi]; exact h _ (List.getElem_mem hi)
  · rw [getElem!_neg l i hi]; exact ⟨by decide, by decide⟩
theorem all_set {l : List Int} (h : All64 l) {x : Int} (hx : I64 x) (i : Nat) : All64 (l.set i x) := fun y hy => by
  rcases List.mem_or_eq_of_mem_set hy with h1 | rfl
  · exact h _ h1
  · exact hx
theorem all_app {l l' : List Int} (h : All64 l) (h' : All64 l') : All64 (l ++ l') := fun y hy => (List.mem_append.1 hy).elim (h y) (h' y)
theorem all_take {l : List Int} (h : All64 l) (n : Nat) : All64 (l.take n) := fun y hy => h y (List.mem_of_mem_take hy)
theorem all_drop {l : List Int} (h : All64 l) (n : Nat) : All64 (l.drop n) := fun y hy => h y (List.mem_of_mem_drop hy)
theorem all_one {x : Int} (h : I64 x) : All64 [x] := fun y hy => by rw [List.mem_singleton.1 hy]; exact h
theorem lookV_all {l : List Pt} (h : ∀ p ∈ l, All64 p.vals) {k : Int} {v : List Int} (hv : lookV l k = some v) : All64 v := by
  unfold lookV at hv
  cases hf : l.find? fun p => p.kind == k with
  | none => rw [hf] at hv; cases hv
  | some p => rw [hf] at hv; cases hv; exact h _ (List.mem_of_find?_eq_some hf)
theorem putV_all {x : Int} (hx : I64 x) {k : Int} {f : Nat} : ∀ {l : List Pt}, (∀ p ∈ l, All64 p.vals) → ∀ p ∈ putV l k f x, All64 p.vals
  | [], _, p, hp => by cases hp
  | q :: r, h, p, hp => by
    unfold putV at hp
    split at hp
    · rcases List.mem_cons.1 hp with rfl | hp
      · exact all_set (h q (by simp)) hx _
      · exact h p (by simp [hp])
    · rcases List.mem_cons.1 hp with rfl | hp
      · exact h p (by simp)
      · exact putV_all hx (fun p hp => h p (by simp [hp])) p hp
theorem MOk.pushM {P : MP} {m : Ms} (h : MOk P m) (hs : m.top.stk.length ≤ 63) {x : Int} (hx : I64 x) : MOk P (m.push x) :=
  { h with top := { h.top with stk := by simp only [Ms.push, List.length_append, List.length_singleton]; omega, stk64 := all_app h.top.stk64 (all_one hx) } }
theorem MOk.cut {P : MP} {m : Ms} (h : MOk P m) {t : Nat} (hn : m.top.nx < m.top.fn.code.length) (hs : m.since < 40000) : MOk P (cut m t) :=
  { h with
    top := { h.top with stk := by have := h.top.stk; simp only [Mc.cut, List.length_take]; omega, stk64 := all_take h.top.stk64 _, nx := by have := h.top.nx; dsimp only [Mc.cut]; omega }
    since := by have := h.since; dsimp only [Mc.cut]; omega }
theorem locals_len (f : Fnc) (l : List Int) (h : l.length ≤ 64) : (locals f l).length ≤ 64 := by
  unfold locals; rw [List.length_append, List.length_replicate]; omega
theorem locals_64 {f : Fnc} {l : List Int} (h : All64 l) : All64 (locals f l) := all_app h fun x hx => by rw [List.eq_of_mem_replicate hx]; exact ⟨by decide, by decide⟩
theorem inp_64 {l : List (Int × Int × Int)} (h : ∀ x ∈ l, I64 x.2.2) (p k : Int) : I64 (inp l p k) := by
  unfold inp
  cases hf : l.reverse.find? fun x => x.1 == p && x.2.1 == k with
  | none => exact ⟨by decide, by decide⟩
  | some x => exact h _ (List.mem_reverse.1 (List.mem_of_find?_eq_some hf))
theorem BelowF_64 {s n : Int} (h : I64 n) : I64 (BelowF s n).1 := by
  by_cases hn : n < 1
  · rw [BelowF_lo s n hn]; exact ⟨by decide, by decide⟩
  · have := BelowF_in s n (by omega); unfold I64 at *; omega
theorem takes_of {ps : List Int} {op A : Int} {c : Int} (hop : 1 ≤ op ∧ op ≤ 39) (h : (tbl[op.toNat]!).2.2 = 0) (hc : (tbl[op.toNat]!).1 = c) : takes ps (op, A) = c := by
  unfold takes isOpB
  rw [if_pos (decide_eq_true hop), if_neg (by rw [h]; decide), if_neg (by rw [h]; decide)]; exact hc
theorem puts_of {op A : Int} {c : Int} (hop : 1 ≤ op ∧ op ≤ 39) (hc : (tbl[op.toNat]!).2.1 = c) : puts (op, A) = c := by
  unfold puts isOpB
  rw [if_pos (decide_eq_true hop)]; exact hc
structure Rdy (P : MP) (m : Ms) (i : Ins) : Prop where
  nx : 0 ≤ m.top.nx ∧ m.top.nx < (m.top.fn.code.length : Int)
  ins : m.top.fn.code[m.top.nx.toNat]! = i
  since : m.since < 40000
  op : 1 ≤ i.1 ∧ i.1 ≤ 39
  stk : takes P.ps i ≤ m.top.stk.length ∧ (m.top.stk.length : Int) - takes P.ps i + puts i ≤ 64
  acc : access P m i = true
  room : room m i.1 = true
theorem ready_iff {P : MP} {m : Ms} (h : ready P m = 0) : Rdy P m m.top.fn.code[m.top.nx.toNat]! := by
  unfold ready at h
  split at h
  · cases h
  rename_i h1
  split at h
  · cases h
  rename_i h2
  split at h
  · cases h
  rename_i h3
  split at h
  · cases h
  rename_i h4
  split at h
  · cases h
  rename_i h5
  split at h
  · cases h
  rename_i h6
  refine ⟨Decidable.not_not.1 h1, rfl, by omega, ?_, by omega, by simpa using h5, by simpa using h6⟩
  unfold isOpB at h3
  simpa using h3
theorem Rdy.get {P : MP} {m : Ms} {i : Ins} (h : Rdy P m i) : i ∈ m.top.fn.code := by
  have := h.nx
  rw [← h.ins, getElem!_pos _ _ (by omega)]
  exact List.getElem_mem _
theorem ready_of {P : MP} {m : Ms} {i : Ins} (h : Rdy P m i) : ready P m = 0 := by
  unfold ready
  have h1 := h.nx
  have h2 := h.since
  have h3 : isOpB i.1 = true := decide_eq_true h.op
  have h4 := h.stk
  rw [h.ins, if_neg (by omega), if_neg (by omega), if_neg (by rw [h3]; decide), if_neg (by omega), if_neg (by rw [h.acc]; decide), if_neg (by rw [h.room]; decide)]
end
section
open Go Hc Hc.Vf Hc.Dice
theorem bin_tbl : ∀ n : Nat, n < 40 → isBin n = true → tbl[n]! = (2, 1, 0) := by decide
theorem un_tbl : ∀ n : Nat, n < 40 → isUn n = true → tbl[n]! = (1, 1, 0) := by decide
theorem op_nat {op : Int} (h : 1 ≤ op ∧ op ≤ 39) : op = (op.toNat : Int) ∧ op.toNat < 40 := by omega
theorem takes_bin {ps : List Int} {i : Ins} (h : 1 ≤ i.1 ∧ i.1 ≤ 39) (hb : isBin i.1 = true) : takes ps i = 2 ∧ puts i = 1 := by
  obtain ⟨op, A⟩ := i
  dsimp only at h hb
  have ht := bin_tbl op.toNat (op_nat h).2 (by rw [← (op_nat h).1]; exact hb)
  exact ⟨takes_of h (by rw [ht]) (by rw [ht]), puts_of h (by rw [ht])⟩
theorem takes_un {ps : List Int} {i : Ins} (h : 1 ≤ i.1 ∧ i.1 ≤ 39) (hb : isUn i.1 = true) : takes ps i = 1 ∧ puts i = 1 := by
  obtain ⟨op, A⟩ := i
  dsimp only at h hb
  have ht := un_tbl op.toNat (op_nat h).2 (by rw [← (op_nat h).1]; exact hb)
  exact ⟨takes_of h (by rw [ht]) (by rw [ht]), puts_of h (by rw [ht])⟩
theorem puts_k {i : Ins} (h : 1 ≤ i.1 ∧ i.1 ≤ 39) {k : Nat} (hk : i.1.toNat = k) : puts i = (tbl[k]!).2.1 := by
  obtain ⟨op, A⟩ := i
  dsimp only at h hk
  exact puts_of h (by rw [hk])
theorem takes_k {ps : List Int} {i : Ins} (h : 1 ≤ i.1 ∧ i.1 ≤ 39) {k : Nat} (hk : i.1.toNat = k) (h0 : (tbl[k]!).2.2 = 0) : takes ps i = (tbl[k]!).1 := by
  obtain ⟨op, A⟩ := i
  dsimp only at h hk
  exact takes_of h (by rw [hk]; exact h0) (by rw [hk])
theorem cut_len (m : Ms) (t : Nat) : (cut m t).top.stk.length = m.top.stk.length - t := by
  unfold cut; rw [List.length_take]; omega
theorem args_len {m : Ms} {t : Nat} (h : t ≤ m.top.stk.length) : (args m t).length = t := by
  unfold args; rw [List.length_drop]; omega
theorem args_64 {P : MP} {m : Ms} (h : MOk P m) (t : Nat) : All64 (args m t) := all_drop h.top.stk64 _
theorem AOk.fnOk {P : MP} (hP : POk P) {a : Actn} (h : AOk P a) : FnOk a.fn := by
  rcases h.fn with e | e
  · rw [e]; exact hP.sys
  · exact hP.fns _ e
theorem goal_bd (P : MP) (f : Fnc) (a : Int) : -1 ≤ goal P f a ∧ goal P f a ≤ f.code.length := by unfold goal; split <;> omega
theorem getLast!_mem {α : Type} [Inhabited α] {l : List α} (h : l ≠ []) : l.getLast! ∈ l := by
  rw [List.getLast!_eq_getLast?_getD, List.getLast?_eq_some_getLast h]
  exact List.getLast_mem h
theorem rise_len {l : List Pt} (h : ∀ p ∈ l, 1 ≤ p.kind ∧ p.kind ≤ 12) : (rise l).Perm l := by
  have key : ∀ (n : Nat) (l : List Pt), (∀ p ∈ l, 0 ≤ p.kind ∧ p.kind < n) → ((List.range n).flatMap fun (k : Nat) => l.filter fun p => p.kind == (k : Int)).Perm l := by
    intro n
    induction n with
    | zero => intro l h; cases l with
      | nil => exact .refl _
      | cons p l => have := h p (by simp); omega
    | succ n ih =>
      intro l h
      rw [List.range_succ, List.flatMap_append]
      have h1 : (List.range n).flatMap (fun (k : Nat) => l.filter fun p => p.kind == (k : Int)) = (List.range n).flatMap fun (k : Nat) => (l.filter fun p => !(p.kind == (n : Int))).filter fun p => p.kind == (k : Int) := by
        have : ∀ k ∈ List.range n, (l.filter fun p => p.kind == (k : Int)) = (l.filter fun p => !(p.kind == (n : Int))).filter fun p => p.kind == (k : Int) := by
          intro k hk
          rw [List.filter_filter]
          refine List.filter_congr fun p _ => ?_
          by_cases e : p.kind = (k : Int)
          · have := List.mem_range.1 hk
            have h2 : (p.kind == (n : Int)) = false := beq_eq_false_iff_ne.2 (by omega)
            rw [h2]; simp
          · have : (p.kind == (k : Int)) = false := beq_eq_false_iff_ne.2 e
            rw [this]; simp
        rw [List.flatMap_def, List.flatMap_def, List.map_congr_left this]
      rw [h1]
      refine ((ih (l.filter fun p => !(p.kind == (n : Int))) fun p hp => ?_).append (.refl _)).trans ?_
      · obtain ⟨hp, hq⟩ := List.mem_filter.1 hp
        have := h p hp
        have hq : p.kind ≠ n := by simpa using hq
        omega
      · simp only [List.flatMap_cons, List.flatMap_nil, List.append_nil]
        exact List.perm_append_comm.trans (List.filter_append_perm (fun p : Pt => p.kind == (n : Int)) l)
  exact key 13 l fun p hp => by have := h p hp; omega
theorem MOk.does {P : MP} {E : En} {m : Ms} {i : Ins} (hP : POk P) (hE : EOk E) (h : MOk P m) (r : Rdy P m i) :
    ((Mc.does P E m i).1 = 0 ∧ MOk P (Mc.does P E m i).2) ∨ ((Mc.does P E m i).1 = 120 ∧ (Mc.does P E m i).2.steps = 2001) := by
  have hi := (h.top.fnOk hP).code i r.get
  have hst := r.stk
  have hop := r.op
  have ht0 := takes_bd P.ps i
  have hc := h.cut (t := (takes P.ps i).toNat) r.nx.2 r.since
  have hl := cut_len m (takes P.ps i).toNat
  have ha := args_len (m := m) (t := (takes P.ps i).toNat) (by omega)
  have ha64 := args_64 h (takes P.ps i).toNat
  have push : ∀ x, puts i = 1 → I64 x → MOk P ((Mc.cut m (takes P.ps i).toNat).push x) := fun x hp hx => hc.pushM (by omega) hx
  have hacc := r.acc
  have hroom := r.room
  unfold Mc.does
  dsimp only
  split
  · rename_i hb; exact .inl ⟨rfl, push _ (takes_bin (ps := P.ps) hop hb).2 (binI_bd (all_get ha64 _) (all_get ha64 _))⟩
  split
  · rename_i hb; exact .inl ⟨rfl, push _ (takes_un (ps := P.ps) hop hb).2 (unI_bd (all_get ha64 _))⟩
  generalize hm1 : Mc.cut m (takes P.ps i).toNat = m1 at *
  generalize hla : args m (takes P.ps i).toNat = l at *
  have e1 : m1.top.loc = m.top.loc := by rw [← hm1]; rfl
  have e2 : m1.top.fn = m.top.fn := by rw [← hm1]; rfl
  have e3 : m1.steps = m.steps := by rw [← hm1]; rfl
  have hs := h.steps
  unfold act
  split
  · rename_i hk; exact .inl ⟨rfl, push _ (puts_k hop hk) hi.2⟩
  · rename_i hk; exact .inl ⟨rfl, push _ (puts_k hop hk) (all_get h.top.loc64 _)⟩
  · exact .inl ⟨rfl, { hc with top := { hc.top with loc := by dsimp only; rw [List.length_set]; exact h.top.loc, loc64 := all_set h.top.loc64 (all_get ha64 _) _ } }⟩
  · rename_i hk
    refine .inl ⟨rfl, push _ (puts_k hop hk) ?_⟩
    cases hv : lookV m.vals (i.2 / 8) with
    | none => exact all_get (l := []) (fun _ h => by cases h) _
    | some v => exact all_get (lookV_all h.vals hv) _
  · exact .inl ⟨rfl, { hc with vals := putV_all (all_get ha64 _) h.vals }⟩
  · exact .inl ⟨rfl, { hc with top := { hc.top with nx := by dsimp only; rw [e2]; exact goal_bd _ _ _ } }⟩
  · refine .inl ⟨rfl, ?_⟩
    dsimp only
    split
    · exact { hc with top := { hc.top with nx := by dsimp only; rw [e2]; exact goal_bd _ _ _ } }
    · exact hc
  · rename_i hk
    have hA : 0 ≤ i.2 ∧ i.2 < (P.fns.length : Int) ∧ m.low.length + 1 ≤ 16 := by
      unfold access accessM at hacc
      rw [hk] at hacc
      split at hacc
      · cases hacc
      · exact of_decide_eq_true hacc
    have hmem : P.fns[i.2.toNat]! ∈ P.fns := by rw [getElem!_pos _ _ (by omega)]; exact List.getElem_mem _
    split
    · rename_i hle
      refine .inl ⟨rfl, { hc with low := fun a hal => ?_, lowl := ?_, top := ⟨.inr hmem, by simp, (fun _ hx => by cases hx), ?_, locals_64 ha64, by dsimp only; omega⟩, since := by dsimp only; omega, steps := by dsimp only; omega }⟩
      · rcases List.mem_append.1 hal with ha | ha
        · exact h.low a ha
        · rw [List.mem_singleton.1 ha]
          exact ⟨hc.top, by have : puts i = 1 := puts_k hop hk; omega⟩
      · exact locals_len _ _ (by have := h.top.stk; omega)
      · simp only [List.length_append, List.length_singleton]; omega
    · exact .inr ⟨rfl, by dsimp only; omega⟩
  · rename_i hk
    have hne : m.low ≠ [] := by
      unfold access accessM at hacc
      rw [hk] at hacc
      split at hacc
      · cases hacc
      · exact of_decide_eq_true hacc
    have hmem := getLast!_mem hne
    have hlo := h.low _ hmem
    refine .inl ⟨rfl, { hc with low := fun a hal => h.low a (List.dropLast_subset _ hal), lowl := ?_, top := { hlo.1 with stk := by dsimp only; rw [List.length_append, List.length_singleton]; omega, stk64 := all_app hlo.1.stk64 (all_one (all_get ha64 _)) } }⟩
    have := h.lowl
    dsimp only
    rw [List.length_dropLast]; omega
  · exact .inl ⟨rfl, { hc with }⟩
  · split
    · exact .inl ⟨rfl, { hc with since := by dsimp only; omega, steps := by dsimp only; omega }⟩
    · exact .inr ⟨rfl, by dsimp only; omega⟩
  · rename_i hk
    have : m.evs.length < 16 := by
      unfold Mc.room at hroom
      rw [if_neg (by omega), if_pos (by omega)] at hroom
      exact of_decide_eq_true hroom
    exact .inl ⟨rfl, { hc with evs := by simp only [List.length_append, List.length_singleton]; omega }⟩
  · rename_i hk
    have hA : (0 ≤ i.2 ∧ 1 ≤ i.2 / 8 ∧ i.2 / 8 ≤ 12) ∧ m.kept.length < 12 := by
      unfold access accessM at hacc
      rw [hk] at hacc
      split at hacc
      · cases hacc
      · simp only [Bool.and_eq_true, decide_eq_true_eq, isKindB] at hacc
        exact ⟨⟨hacc.1.1, hacc.1.2⟩, hacc.2⟩
    refine .inl ⟨rfl, { hc with kept := by simp only [List.length_append, List.length_singleton]; omega, keptK := fun p hp => ?_ }⟩
    rcases List.mem_append.1 hp with hp | hp
    · exact h.keptK p hp
    · rw [List.mem_singleton.1 hp]; exact hA.1.2
  all_goals first
    | (rename_i hk
       have : m.cmds.length < 16 := by
         unfold Mc.room at hroom
         rw [if_pos (by omega)] at hroom
         exact of_decide_eq_true hroom
       exact .inl ⟨rfl, { hc with cmds := by simp only [List.length_append, List.length_singleton]; omega }⟩)
    | (rename_i hk
       have : m.cmds.length < 16 := by
         unfold Mc.room at hroom
         rw [if_pos (by omega)] at hroom
         exact of_decide_eq_true hroom
       exact .inl ⟨rfl, { hc with cmds := by simp only [List.length_append, List.length_singleton]; omega, kept := by simp, keptK := fun p hp => by cases hp }⟩)
    | exact .inl ⟨rfl, hc⟩
    | skip
  · rename_i hk
    have hx := push _ (puts_k hop hk) (BelowF_64 (s := m.dice) (all_get ha64 0))
    exact .inl ⟨rfl, { hx with dice := BelowF_bd _ _ h.dice.1 h.dice.2 }⟩
  · rename_i hk; exact .inl ⟨rfl, push _ (puts_k hop hk) hE.frame⟩
  · rename_i hk; exact .inl ⟨rfl, push _ (puts_k hop hk) hE.idx⟩
  · rename_i hk; exact .inl ⟨rfl, push _ (puts_k hop hk) (inp_64 hE.inputs _ _)⟩
  · rename_i hk; exact .inl ⟨rfl, push _ (puts_k hop hk) (truthI_bd _)⟩
end
end Go.Proofs.YtfpmgpblhhcpgaaGreat.Hc.Mc
namespace Go.Proofs.YtfpmgpblhhcpgaaGreat
set_option linter.unusedVariables false
set_option linter.unusedSimpArgs false
set_option maxRecDepth 100000
section
open Hc.Mc
theorem backTo_rev (zs : List InX) {k : Nat} (hk : k ≤ zs.length) : (backTo zs k).map (·.2) = zs.reverse.take k := by
  apply List.ext_getElem
  · simp [backTo]; omega
  · intro i h1 h2
    simp [backTo] at h1
    have : zs.length - 1 - i < zs.length := by omega
    simp [backTo, elX, this]
theorem inp_done {zs : List InX} {p q : Int} (h : ∀ x ∈ backTo zs zs.length, ¬ hit p q x) : inp zs p q = 0 := by
  unfold inp
  have : zs.reverse.find? (fun x => x.1 == p && x.2.1 == q) = none := by
    refine List.find?_eq_none.2 fun y hy e => ?_
    have e1 := backTo_rev zs (Nat.le_refl _)
    rw [List.take_of_length_le (by simp)] at e1
    rw [← e1] at hy
    obtain ⟨x, hx, rfl⟩ := List.mem_map.1 hy
    exact h x hx (by simpa [hit] using e)
  rw [this]; rfl
theorem inp_stop {zs : List InX} {p q : Int} {pre : List (Int × InX)} {x : Int × InX} {k : Nat} (hk : k ≤ zs.length) (e : backTo zs k = pre ++ [x]) (hno : ∀ y ∈ pre, ¬ hit p q y) (hx : hit p q x) : inp zs p q = x.2.2.2 := by
  unfold inp
  have e1 := backTo_rev zs hk
  rw [e, List.map_append] at e1
  have : zs.reverse.find? (fun x => x.1 == p && x.2.1 == q) = some x.2 := by
    rw [← List.take_append_drop k zs.reverse, ← e1, List.append_assoc, List.find?_append]
    have h0 : (pre.map (·.2)).find? (fun x => x.1 == p && x.2.1 == q) = none := by
      refine List.find?_eq_none.2 fun y hy e => ?_
      obtain ⟨z, hz, rfl⟩ := List.mem_map.1 hy
      exact hno z hz (by simpa [hit] using e)
    rw [h0]
    have : (x.2.1 == p && x.2.2.1 == q) = true := by simpa [hit] using hx
    simp [this]
  rw [this]; rfl
end
section
open Hc Hc.Dice
theorem s_dice_Mix (x : Int) {H : Heap} {k : Int → Heap → Prop} (hk : k (mixI x) H) : CallT Pg fQag [.int .u64 x] (.one (.c (.int .u64))) H k := by
  apply cQag
  exact ⟨by decide, by decide, by decide, hk⟩
theorem s_ref_Mix (x : Int) {H : Heap} {k : Int → Heap → Prop} (hk : k (mixI x) H) : CallT Pg fQbz [.int .u64 x] (.one (.c (.int .u64))) H k := by
  apply cQbt
  exact ⟨by decide, by decide, by decide, hk⟩
def DieP (H : Heap) (p : Nat) (s : Int) : Prop := H[p]? = some (.cells #[.int .u64 s] TQam (0, 0))
def DieR (H : Heap) (p : Nat) (s : Int) : Prop := H[p]? = some (.cells #[.int .u64 s] TQax (0, 0))
theorem s_dice_Next {p : Nat} {s : Int} {H : Heap} {k : Int → Heap → Prop} (hp : DieP H p s)
    (hk : ∀ H', Upd (· = p) H H' → DieP H' p (nextS s) → k (mixI s) H') : CallT Pg fQbf [.pointer (some (adr p))] (.one (.c (.int .u64))) H k := by
  apply cQbc
  unfold vQbc
  have hc : hcell H (adr p) = some (.int .u64 s) := by rw [cell_blk hp]; rfl
  simp only [NilCk_some, Lt_def]
  refine Ld_int hc (Ld_int hc ?_)
  refine St_blk hp (by simp) fun H' hU hs hp' => ?_
  refine s_dice_Mix s (hk H' hU hp')
theorem s_ref_Next {p : Nat} {s : Int} {H : Heap} {k : Int → Heap → Prop} (hp : DieR H p s)
    (hk : ∀ H', Upd (· = p) H H' → DieR H' p (nextS s) → k (mixI s) H') : CallT Pg fQcc [.pointer (some (adr p))] (.one (.c (.int .u64))) H k := by
  apply cQb6
  unfold vQb6
  have hc : hcell H (adr p) = some (.int .u64 s) := by rw [cell_blk hp]; rfl
  simp only [NilCk_some, Lt_def]
  refine Ld_int hc (s_ref_Mix s (Ld_int hc ?_))
  refine St_blk hp (by simp) fun H' hU hs hp' => hk H' hU hp'
theorem s_dice_below {p : Nat} {s n : Int} {H : Heap} {k : Int → Heap → Prop} (hp : DieP H p s) (h0 : 0 ≤ s) (h1 : s < 18446744073709551616) (hn : 1 ≤ n) (hn' : n < 9223372036854775808)
    (hk : ∀ H', Upd (· = p) H H' → DieP H' p (belowS s n) → k (belowR s n) H') : CallT Pg fQbg [.pointer (some (adr p)), .int .u64 n] (.one (.c (.int .u64))) H k := by
  apply cQbd
  unfold vQbd
  refine ⟨by omega, ?_⟩
  simp only [Lt_def]
  have hf := fallJ_spec s (mB n) h0 h1 (mB_pos n hn hn')
  refine LoopT.ghost (fun m _ H' => ∃ j, j + m = fallJ s (mB n) ∧ Upd (· = p) H H' ∧ DieP H' p (itS s j)) (fallJ s (mB n)) ⟨0, by omega, .refl _ _, hp⟩ ?_
  rintro next m _ H1 ⟨j, hj, hU, hp1⟩ hnext
  refine s_dice_Next hp1 fun H2 hU2 hp2 => ?_
  have hU' : Upd (· = p) H H2 := hU.trans hU2 fun _ _ h => h
  refine Br_dec (fun hlt => ?_) fun hge => ?_
  · have : j = fallJ s (mB n) := Falls.unique ⟨hlt, fun i hi => hf.2 i (by omega)⟩ hf
    subst this
    exact ⟨by omega, hk H2 hU' hp2⟩
  · have hne : j ≠ fallJ s (mB n) := fun e => hge (by rw [e]; exact hf.1)
    exact hnext (m - 1) () H2 (by omega) ⟨j + 1, by omega, hU', hp2⟩
theorem s_dice_Below {p : Nat} {s n : Int} {H : Heap} {k : Int → Heap → Prop} (hp : DieP H p s) (h0 : 0 ≤ s) (h1 : s < 18446744073709551616) (hn : I64 n)
    (hk : ∀ H', Upd (· = p) H H' → DieP H' p (BelowF s n).2 → k (BelowF s n).1 H') : CallT Pg fQa9 [.pointer (some (adr p)), .int .i64 n] (.one (.c (.int .i64))) H k := by
  apply cQa7
  unfold vQa7
  unfold BelowF at hk
  refine Br_dec (fun hlt => ?_) fun hge => ?_
  · simp only [hlt, if_true] at hk
    exact s_dice_Next hp hk
  · simp only [hge, if_false] at hk
    rw [wrap_u64_id (by omega) (by unfold I64 at hn; omega)]
    refine s_dice_below hp h0 h1 (by omega) hn.2 fun H' hU hp' => ?_
    have := belowR_bd s n (by omega)
    rw [wrap_i64_id (by omega) (by unfold I64 at hn; omega)]
    exact hk H' hU hp'
theorem s_ref_Below {p : Nat} {s n : Int} {H : Heap} {k : Int → Heap → Prop} (hp : DieR H p s) (h0 : 0 ≤ s) (h1 : s < 18446744073709551616) (hn : I64 n)
    (hk : ∀ H', Upd (· = p) H H' → DieR H' p (BelowF s n).2 → k (BelowF s n).1 H') : CallT Pg fQb8 [.pointer (some (adr p)), .int .i64 n] (.one (.c (.int .i64))) H k := by
  apply cQb2
  unfold vQb2
  unfold BelowF at hk
  refine Br_dec (fun hlt => ?_) fun hge => ?_
  · simp only [hlt, if_true] at hk
    exact s_ref_Next hp hk
  · simp only [hge, if_false] at hk
    unfold I64 at hn
    rw [wrap_u64_id (by omega) (by omega)]
    refine ⟨by omega, ?_⟩
    simp only [Lt_def]
    have hf := fallJ_spec s (mB n) h0 h1 (mB_pos n (by omega) hn.2)
    refine LoopT.ghost (fun m _ H' => ∃ j, j + m = fallJ s (mB n) ∧ Upd (· = p) H H' ∧ DieR H' p (itS s j)) (fallJ s (mB n)) ⟨0, by omega, .refl _ _, hp⟩ ?_
    rintro next m _ H1 ⟨j, hj, hU, hp1⟩ hnext
    refine s_ref_Next hp1 fun H2 hU2 hp2 => ?_
    have hU' : Upd (· = p) H H2 := hU.trans hU2 fun _ _ h => h
    refine Br_dec (fun hlt => ?_) fun hge => ?_
    · have : j = fallJ s (mB n) := Falls.unique ⟨hlt, fun i hi => hf.2 i (by omega)⟩ hf
      subst this
      have := belowR_bd s n (by omega)
      refine ⟨by omega, ?_⟩
      have e : IntKind.wrap .i64 ((mixI (itS s (fallJ s (mB n)))).tmod n) = belowR s n := wrap_i64_id (x := belowR s n) (by omega) (by omega)
      dsimp only
      rw [e]
      exact hk H2 hU' hp2
    · have hne : j ≠ fallJ s (mB n) := fun e => hge (by rw [e]; exact hf.1)
      exact hnext (m - 1) () H2 (by omega) ⟨j + 1, by omega, hU', hp2⟩
theorem s_dice_New (a b c d : Int) {H : Heap} {k : Option Addr → Heap → Prop} (hk : ∀ H', Ext H H' → DieP H' H.size (newS a b c d) → k (some (adr H.size)) H') :
    CallT Pg fQab [.int .i64 a, .int .i64 b, .int .i64 c, .int .i64 d] (.one (.c .ptr)) H k := by
  apply cQab
  unfold vQab
  refine s_dice_Mix _ ?_
  refine LoopT.mk (fun s H' => H' = H ∧ ∃ j : Nat, j ≤ 3 ∧ s.2 = j ∧ s.1 = newIt a b c d j) (fun s _ => (3 - s.2).toNat) ⟨rfl, 0, by omega, rfl, rfl⟩ ?_
  rintro next ⟨st, i⟩ _ ⟨rfl, j, hj, hi, hst⟩ hnext
  dsimp only at hi hst ⊢
  subst hi hst
  refine Br_dec (fun hlt => ?_) fun hge => ?_
  · simp only [Lt_def]
    have e : IntKind.wrap .i64 ((j : Int) + 1) = ((j + 1 : Nat) : Int) := by rw [wrap_i64]; omega
    have : j = 0 ∨ j = 1 ∨ j = 2 := by omega
    rcases this with rfl | rfl | rfl
    · refine ⟨b, by omega, by omega, rfl, ?_⟩
      refine s_dice_Mix _ ?_
      exact hnext _ _ ⟨rfl, 1, by omega, e, rfl⟩ (by dsimp only; omega)
    · refine ⟨c, by omega, by omega, rfl, ?_⟩
      refine s_dice_Mix _ ?_
      exact hnext _ _ ⟨rfl, 2, by omega, e, rfl⟩ (by dsimp only; omega)
    · refine ⟨d, by omega, by omega, rfl, ?_⟩
      refine s_dice_Mix _ ?_
      exact hnext _ _ ⟨rfl, 3, by omega, e, rfl⟩ (by dsimp only; omega)
  · have : j = 3 := by omega
    subst this
    refine Nw_blk fun b' H' hb hE _ hblk => ?_
    subst hb
    exact hk H' hE hblk
theorem s_ref_New (a b c d : Int) {H : Heap} {k : Option Addr → Heap → Prop} (hk : ∀ H', Ext H H' → DieR H' H.size (newS a b c d) → k (some (adr H.size)) H') :
    CallT Pg fQbs [.int .i64 a, .int .i64 b, .int .i64 c, .int .i64 d] (.one (.c .ptr)) H k := by
  apply cQbm
  unfold vQbm
  simp only [Lt_def]
  refine s_ref_Mix _ ?_
  refine s_ref_Mix _ ?_
  refine s_ref_Mix _ ?_
  refine s_ref_Mix _ ?_
  refine Nw_blk fun b' H' hb hE _ hblk => ?_
  subst hb
  exact hk H' hE hblk
end
end Go.Proofs.YtfpmgpblhhcpgaaGreat
namespace Go.Proofs.YtfpmgpblhhcpgaaGreat.Hc
set_option linter.unusedVariables false
set_option linter.unusedSimpArgs false
set_option maxRecDepth 100000
structure VecO (H : Heap) (T : TypeId) (n : Nat) (s : Sl) (vs : List Value) : Prop where
  len : vs.length = s.len * n
  own : (s.a = none ∧ s.cap = 0 ∧ vs = []) ∨ ∃ (b : Nat) (pre sp : List Value), s.a = some ⟨b, pre.length, none⟩ ∧ Row H b T (pre ++ vs ++ sp) ∧ s.cap * n ≤ vs.length + sp.length
  lc : s.len ≤ s.cap
theorem VecO.upd {M : Nat → Prop} {H H' : Heap} (hu : Upd M H H') {T : TypeId} {n : Nat} {s : Sl} {vs : List Value} (h : VecO H T n s vs) (hn : ∀ a, s.a = some a → ¬ M a.block) : VecO H' T n s vs := by
  refine ⟨h.len, ?_, h.lc⟩
  rcases h.own with h1 | ⟨b, pre, sp, h1, h2, h3⟩
  · exact .inl h1
  · exact .inr ⟨b, pre, sp, h1, hu.row h2 (hn _ h1), h3⟩
theorem VecO.ext {H H' : Heap} (hu : Ext H H') {T : TypeId} {n : Nat} {s : Sl} {vs : List Value} (h : VecO H T n s vs) : VecO H' T n s vs := h.upd hu fun _ _ h => h
theorem VecO.ne {H : Heap} {T T' : TypeId} {n : Nat} {s : Sl} {vs ws : List Value} (h : VecO H T n s vs) {a : Addr} (ha : s.a = some a) {b : Nat} (h' : Row H b T' ws) (ht : T ≠ T') : a.block ≠ b := by
  rcases h.own with ⟨g1, _⟩ | ⟨c, pre, sp, g1, g2, _⟩
  · rw [g1] at ha; cases ha
  · rw [g1] at ha; cases ha; exact g2.ne h' ht
theorem VecO.cell {H : Heap} {T : TypeId} {n : Nat} {s : Sl} {vs : List Value} (h : VecO H T n s vs) {j : Nat} (hj : j < vs.length) : ∃ a, s.a = some a ∧ hcell H (a.add j) = vs[j]? := by
  rcases h.own with ⟨_, _, g⟩ | ⟨b, pre, sp, g1, g2, _⟩
  · subst g; simp at hj
  · refine ⟨_, g1, ?_⟩
    rw [mk_add, g2.cell, List.append_assoc, List.getElem?_append_right (by omega), show pre.length + j - pre.length = j by omega, List.getElem?_append_left hj]
abbrev Col := Nat → Nat
def Tch (c : Col) (lo : Nat) (S : Nat → Prop) (H H' : Heap) : Prop := Upd (fun x => lo ≤ x ∧ S (c x)) H H'
def Is (c : Col) (lo j b : Nat) : Prop := lo ≤ b ∧ c b = j
def RowC (c : Col) (lo j : Nat) (H : Heap) (b : Nat) (T : TypeId) (vs : List Value) : Prop := Row H b T vs ∧ Is c lo j b
def IsS (c : Col) (lo j : Nat) (s : Sl) : Prop := ∀ b, s.a = some (adr b) → Is c lo j b
def VecC (c : Col) (lo j : Nat) (H : Heap) (T : TypeId) (s : Sl) (vs : List Value) : Prop := Vec H T s vs ∧ IsS c lo j s
def VecNC (c : Col) (lo j : Nat) (H : Heap) (T : TypeId) (n : Nat) (s : Sl) (vs : List Value) : Prop := VecN H T n s vs ∧ IsS c lo j s
theorem Tch.refl (c : Col) (lo : Nat) (S : Nat → Prop) (H : Heap) : Tch c lo S H H := Upd.refl _ _
theorem Tch.of {c : Col} {lo : Nat} {S : Nat → Prop} {H H' : Heap} {M : Nat → Prop} (h : Upd M H H') (hM : ∀ b, b < H.size → M b → lo ≤ b ∧ S (c b)) : Tch c lo S H H' := h.mono hM
theorem Tch.ofExt {c : Col} {lo : Nat} {S : Nat → Prop} {H H' : Heap} (h : Ext H H') : Tch c lo S H H' := h.mono fun _ _ h => h.elim
theorem Tch.trans {c : Col} {lo : Nat} {S : Nat → Prop} {H H1 H2 : Heap} (h : Tch c lo S H H1) (h2 : Tch c lo S H1 H2) : Tch c lo S H H2 := Upd.trans h h2 fun _ _ h => h
theorem Tch.mono {c : Col} {lo : Nat} {S S' : Nat → Prop} {H H' : Heap} (h : Tch c lo S H H') (hS : ∀ j, S j → S' j) : Tch c lo S' H H' := Upd.mono h fun _ _ e => ⟨e.1, hS _ e.2⟩
theorem Tch.ext {c : Col} {S : Nat → Prop} {H0 H H' : Heap} (h0 : Ext H0 H) (h : Tch c H0.size S H H') : Ext H0 H' := h0.trans h fun b hb e => by have := e.1; omega
theorem RowC.tch {c : Col} {lo j : Nat} {S : Nat → Prop} {H H' : Heap} (h : Tch c lo S H H') (hj : ¬ S j) {b : Nat} {T : TypeId} {vs : List Value} (hr : RowC c lo j H b T vs) : RowC c lo j H' b T vs :=
  ⟨Upd.row h hr.1 fun e => hj (hr.2.2 ▸ e.2), hr.2⟩
theorem VecC.tch {c : Col} {lo j : Nat} {S : Nat → Prop} {H H' : Heap} (h : Tch c lo S H H') (hj : ¬ S j) {T : TypeId} {s : Sl} {vs : List Value} (hr : VecC c lo j H T s vs) : VecC c lo j H' T s vs :=
  ⟨hr.1.upd h fun b hb e => hj ((hr.2 b hb).2 ▸ e.2), hr.2⟩
theorem VecNC.tch {c : Col} {lo j : Nat} {S : Nat → Prop} {H H' : Heap} (h : Tch c lo S H H') (hj : ¬ S j) {T : TypeId} {n : Nat} {s : Sl} {vs : List Value} (hr : VecNC c lo j H T n s vs) : VecNC c lo j H' T n s vs :=
  ⟨hr.1.upd h fun b hb e => hj ((hr.2 b hb).2 ▸ e.2), hr.2⟩
def Agr (j : Nat) (n : Nat) (c c' : Col) : Prop := ∀ x, x < n → c x = j → c' x = j
theorem RowC.agr {c c' : Col} {lo j : Nat} {H : Heap} (h : Agr j H.size c c') {b : Nat} {T : TypeId} {vs : List Value} (hr : RowC c lo j H b T vs) : RowC c' lo j H b T vs :=
  ⟨hr.1, hr.2.1, h b hr.1.lt hr.2.2⟩
theorem VecC.agr {c c' : Col} {lo j : Nat} {H : Heap} (h : Agr j H.size c c') {T : TypeId} {s : Sl} {vs : List Value} (hr : VecC c lo j H T s vs) : VecC c' lo j H T s vs :=
  ⟨hr.1, fun b hb => ⟨(hr.2 b hb).1, h b (hr.1.lt hb) (hr.2 b hb).2⟩⟩
theorem VecNC.agr {c c' : Col} {lo j : Nat} {H : Heap} (h : Agr j H.size c c') {T : TypeId} {n : Nat} {s : Sl} {vs : List Value} (hr : VecNC c lo j H T n s vs) : VecNC c' lo j H T n s vs :=
  ⟨hr.1, fun b hb => ⟨(hr.2 b hb).1, h b (hr.1.lt hb) (hr.2 b hb).2⟩⟩
def dye (n : Nat) (c d : Col) : Col := fun x => if x < n then c x else d x
theorem dye_lt {n x : Nat} {c d : Col} (h : x < n) : dye n c d x = c x := if_pos h
theorem dye_ge {n x : Nat} {c d : Col} (h : n ≤ x) : dye n c d x = d x := if_neg (by omega)
theorem agr_dye (j n : Nat) (c d : Col) : Agr j n c (dye n c d) := fun x hx e => by rw [dye_lt hx]; exact e
theorem is_dye {c d : Col} {lo j b n : Nat} (h : Is c lo j b) (hb : b < n) : Is (dye n c d) lo j b := ⟨h.1, by rw [dye_lt hb]; exact h.2⟩
theorem is_new {c d : Col} {lo j b n : Nat} (hl : lo ≤ n) (hb : n ≤ b) (hd : d b = j) : Is (dye n c d) lo j b := ⟨by omega, by rw [dye_ge hb]; exact hd⟩
theorem VecC.nil (c : Col) (lo j : Nat) (H : Heap) (T : TypeId) : VecC c lo j H T ⟨none, 0, 0⟩ [] := ⟨Vec.nil H T, fun b hb => by cases hb⟩
theorem VecNC.nil (c : Col) (lo j : Nat) (H : Heap) (T : TypeId) (n : Nat) : VecNC c lo j H T n ⟨none, 0, 0⟩ [] := ⟨VecN.nil H T n, fun b hb => by cases hb⟩
theorem RowC.mv {c c' : Col} {lo j : Nat} {S : Nat → Prop} {H H' : Heap} (h : Tch c lo S H H') (hj : ¬ S j) (ha : Agr j H.size c c') {b : Nat} {T : TypeId} {vs : List Value} (hr : RowC c lo j H b T vs) : RowC c' lo j H' b T vs :=
  ⟨(hr.tch h hj).1, hr.2.1, ha b hr.1.lt hr.2.2⟩
theorem VecC.mv {c c' : Col} {lo j : Nat} {S : Nat → Prop} {H H' : Heap} (h : Tch c lo S H H') (hj : ¬ S j) (ha : Agr j H.size c c') {T : TypeId} {s : Sl} {vs : List Value} (hr : VecC c lo j H T s vs) : VecC c' lo j H' T s vs :=
  ⟨(hr.tch h hj).1, fun b hb => ⟨(hr.2 b hb).1, ha b (hr.1.lt hb) (hr.2 b hb).2⟩⟩
theorem VecNC.mv {c c' : Col} {lo j : Nat} {S : Nat → Prop} {H H' : Heap} (h : Tch c lo S H H') (hj : ¬ S j) (ha : Agr j H.size c c') {T : TypeId} {n : Nat} {s : Sl} {vs : List Value} (hr : VecNC c lo j H T n s vs) : VecNC c' lo j H' T n s vs :=
  ⟨(hr.tch h hj).1, fun b hb => ⟨(hr.2 b hb).1, ha b (hr.1.lt hb) (hr.2 b hb).2⟩⟩
theorem hcells_ext {H H' : Heap} (hu : Ext H H') {a : Addr} : ∀ {vs : List Value} {i : Nat}, hcells H a i vs → hcells H' a i vs
  | [], _, _ => trivial
  | _ :: _, _, h => ⟨hu.cell h.1 fun h => h, hcells_ext hu h.2⟩
theorem rdL_ext {H H' : Heap} (hu : Ext H H') {a : Option Addr} {vs : List Value} (h : rdL H a vs) : rdL H' a vs := by
  unfold rdL at h ⊢
  cases a with
  | none => exact h
  | some a => exact hcells_ext hu h
theorem flat_set {α : Type} {f : α → List Value} {n : Nat} (hf : ∀ e, (f e).length = n) {e' : α} {o : Nat} {v : Value} : ∀ {es : List α} {i : Nat} (hi : i < es.length), o < n → f e' = (f es[i]).set o v → (es.flatMap f).set (i * n + o) v = (es.set i e').flatMap f
  | e :: es, 0, _, ho, he => by
    simp only [List.flatMap_cons, List.set_cons_zero, Nat.zero_mul, Nat.zero_add]
    rw [List.set_append_left _ _ (by rw [hf]; exact ho)]
    rw [he]; rfl
  | e :: es, i + 1, hi, ho, he => by
    simp only [List.flatMap_cons, List.set_cons_succ]
    have e1 : (i + 1) * n + o = (f e).length + (i * n + o) := by rw [hf, Nat.add_mul]; omega
    rw [e1, List.set_append_right _ _ (by omega), Nat.add_sub_cancel_left, flat_set hf (es := es) (by simpa using hi) ho he]
theorem St_vecN {H : Heap} {T : TypeId} {n : Nat} {s : Sl} {vs : List Value} (h : VecN H T n s vs) {b : Nat} (hb : s.a = some (adr b)) {m : Nat} (hm : m < vs.length) {v : Value} {k : Heap → Prop} (hk : ∀ H', VecN H' T n s (vs.set m v) → Upd (· = b) H H' → H'.size = H.size → k H') : St ⟨b, m, none⟩ v H k := by
  rcases h.own with ⟨g, _⟩ | ⟨c, sp, g1, g2, g3⟩
  · rw [g] at hb; cases hb
  · rw [g1] at hb; cases hb
    refine St_row g2 (by rw [List.length_append]; omega) fun H' hU hz hr => hk H' ⟨by rw [List.length_set]; exact h.len, .inr ⟨b, sp, g1, ?_, by rw [List.length_set]; exact g3⟩, h.lc⟩ hU hz
    rwa [List.set_append_left _ _ hm] at hr
end Go.Proofs.YtfpmgpblhhcpgaaGreat.Hc
namespace Go.Proofs.YtfpmgpblhhcpgaaGreat
set_option linter.unusedVariables false
set_option linter.unusedSimpArgs false
set_option maxRecDepth 100000
section
open Hc Hc.Vf Hc.Mc Hc.Dice
variable {H : Heap}
abbrev fnOf (r : Rou) : Fnc := ⟨r.params, r.locals, r.code⟩
structure AP where
  p : Nat
  r : Rou
  ls : Sl
  ss : Sl
  loc : List Int
  stk : List Int
  nx : Int
  v : Int
instance : Inhabited AP := ⟨⟨0, default, default, default, [], [], 0, 0⟩⟩
abbrev AP.act (x : AP) : Actn := ⟨fnOf x.r, x.loc, x.stk, x.nx⟩
abbrev actV (x : AP) : List Value := [.string x.r.name, .int .i64 x.r.params, .int .i64 x.r.locals, slV x.r.sl, slV x.ls, slV x.ss, .int .i64 x.v]
def NxR (n : Nat) (nx v : Int) : Prop := v = nx ∨ (¬ (0 ≤ nx ∧ nx < (n : Int)) ∧ ¬ (0 ≤ v ∧ v < (n : Int)))
structure ActR (H : Heap) (x : AP) : Prop where
  row : Row H x.p TQar (actV x)
  loc : Vec H TQaq x.ls (ints x.loc)
  stk : Vec H TQaq x.ss (ints x.stk)
  ap : Apart x.ls x.ss
  nxr : NxR x.r.code.length x.nx x.v
def ActB (x : AP) (b : Nat) : Prop := b = x.p ∨ x.ls.a = some (adr b) ∨ x.ss.a = some (adr b)
theorem ActR.upd {M : Nat → Prop} {H H' : Heap} (h : Upd M H H') {x : AP} (hx : ActR H x) (hm : ∀ b, ActB x b → ¬ M b) : ActR H' x :=
  ⟨h.row hx.row (hm _ (.inl rfl)), hx.loc.upd h fun b hb => hm b (.inr (.inl hb)), hx.stk.upd h fun b hb => hm b (.inr (.inr hb)), hx.ap, hx.nxr⟩
theorem ActR.lt {H : Heap} {x : AP} (hx : ActR H x) {b : Nat} (hb : ActB x b) : b < H.size := by
  rcases hb with rfl | hb | hb
  · exact hx.row.lt
  · exact hx.loc.lt hb
  · exact hx.stk.lt hb
theorem ActR.neS {H : Heap} {x : AP} (hx : ActR H x) {b : Nat} (hb : x.ss.a = some (adr b)) : b ≠ x.p := hx.stk.ne hb hx.row (by decide)
theorem ActR.neL {H : Heap} {x : AP} (hx : ActR H x) {b : Nat} (hb : x.ls.a = some (adr b)) : b ≠ x.p := hx.loc.ne hb hx.row (by decide)
theorem tch_row {c : Col} {lo j b : Nat} {S : Nat → Prop} {H H' : Heap} (hu : Upd (· = b) H H') (hi : Is c lo j b) (hS : S j) : Tch c lo S H H' :=
  Tch.of hu fun x _ e => by subst e; exact ⟨hi.1, by rw [hi.2]; exact hS⟩
theorem vec_tail {H : Heap} {T : TypeId} {s : Sl} {vs : List Value} (h : Vec H T s vs) {n : Nat} (hn : n ≤ vs.length) {k : Sl → Prop}
    (hk : ∀ s', rdL H s'.a (vs.drop n) → s'.len = vs.length - n → (s'.a = none ↔ s.a = none) → k s') : SlA 1 s n (s.len : Nat) (s.cap : Nat) k := by
  have hl := h.len
  have hlc := h.lc
  refine ⟨by omega, by omega, by omega, by omega, ?_⟩
  rw [Int.toNat_natCast, Int.toNat_natCast, Int.toNat_natCast, Nat.mul_one]
  refine hk _ ?_ (by dsimp only; omega) ?_
  · rcases h.own with ⟨h1, h2, h3⟩ | ⟨b, sp, h1, h2, h3⟩
    · rw [h1, h3]; simp [rdL]
    · rw [h1]
      dsimp only
      split
      · have : vs.drop n = [] := List.drop_eq_nil_of_le (by omega)
        rw [this]; trivial
      · dsimp only [Option.map]
        unfold rdL
        dsimp only
        have := hcells_drop (m := n) h2.rd
        rw [Nat.zero_add] at this
        exact hcellsShift.1 this
  · dsimp only
    split
    · exact Iff.rfl
    · cases s.a <;> simp
theorem s_clone64 {s : Sl} {xs : List Int} (hr : rdL H s.a (ints xs)) (hl : s.len = xs.length) (hb : xs.length ≤ 2 ^ 40) (hn : s.a = none → s.len = 0) {k : Sl → Heap → Prop}
    (hk : ∀ r H', Ext H H' → Vec H' TQaq r (ints xs) → (∀ b, r.a = some (adr b) → H.size ≤ b) → k r H') : CallT Pg fQa6 [.slice s.a s.len s.cap] (.one (.c .sl)) H k := by
  refine cQa4 _ ?_
  unfold vQa4
  cases ha : s.a with
  | none =>
    have := hn ha
    have e : xs = [] := List.eq_nil_of_length_eq_zero (by omega)
    subst e
    exact hk ⟨none, 0, 0⟩ H (.refl _ _) (Vec.nil _ _) fun b hb => by cases hb
  | some a =>
    simp only [Option.isNone_some, Br_false]
    refine Nw_row (vs := []) fun b1 H1 hb1 hE1 hz1 hr1 => ?_
    have hv : Vec H1 TQaq ⟨some (adr b1), 0, 0⟩ [] := ⟨rfl, .inr ⟨b1, [], rfl, hr1, Nat.le_refl _⟩, Nat.le_refl _⟩
    refine App_vec2 (ws := ints xs) hv ?_ (by simp [hl]) (fun w hw => by obtain ⟨x, _, rfl⟩ := List.mem_map.1 hw; rfl) (by decide) (by simp; omega) fun s' H2 hv2 hU2 ha2 hz2 => ?_
    · have := rdL_ext hE1 hr
      exact this
    · refine hk _ _ (extUpd (b := b1) hE1 (by omega) (hU2.mono fun b _ e => ?_)) (by simpa using hv2) fun b hb => ?_
      · have := e.1; cases this; rfl
      · rcases ha2 with ⟨e, _⟩ | e
        · rw [e] at hb; cases hb; omega
        · rw [e] at hb; cases hb; have := hE1.size; omega
theorem ints_drop (xs : List Int) (n : Nat) : (ints xs).drop n = ints (xs.drop n) := by simp [ints]
theorem ints_take (xs : List Int) (n : Nat) : (ints xs).take n = ints (xs.take n) := by simp [ints]
theorem ints_one (xs : List Int) : ∀ w ∈ ints xs, w.oneCell' = true := fun w hw => by obtain ⟨x, _, rfl⟩ := List.mem_map.1 hw; rfl
abbrev AP.took (x : AP) (n : Nat) : AP := { x with ss := ⟨x.ss.a, x.ss.len - n, x.ss.cap⟩, stk := x.stk.take (x.stk.length - n) }
theorem s_take {x : AP} (hx : ActR H x) {t : Int} {n : Nat} (ht : t = n) (hn : n ≤ x.stk.length) (hb : x.stk.length ≤ 2 ^ 40) {k : Sl → Heap → Prop}
    (hk : ∀ r H', Upd (· = x.p) H H' → ActR H' (x.took n) → Vec H' TQaq r (ints (x.stk.drop (x.stk.length - n))) → (∀ b, r.a = some (adr b) → H.size ≤ b) → k r H') :
    CallT Pg fQao [.pointer (some (adr x.p)), .int .i64 t] (.one (.c .sl)) H k := by
  subst ht
  refine cQao _ _ ?_
  unfold vQao
  simp only [NilCk_some, adr_add]
  have hl := hx.stk.len
  rw [List.length_map] at hl
  refine Ld_sl ((hx.row.cell 5).trans rfl) (Lt.mk (u := ((x.stk.length - n : Nat) : Int)) (by rw [wrap_i64_id (by omega) (by omega)]; omega) ?_)
  refine Ld_sl ((hx.row.cell 5).trans rfl) (vec_tail hx.stk (n := x.stk.length - n) (by simp) fun s' hs' hsl hsn => ?_)
  rw [ints_drop] at hs'
  refine s_clone64 hs' (by rw [hsl]; simp) (by simp; omega) (fun e => ?_) fun r H1 hE1 hr hf => ?_
  · rw [hsl]
    rcases hx.stk.own with ⟨_, _, h3⟩ | ⟨b, sp, h1, _⟩
    · rw [h3]; simp
    · rw [hsn.1 e] at h1; cases h1
  have hx1 := hx.upd hE1 fun b _ h => h
  refine Ld_sl ((hx1.row.cell 5).trans rfl) (SlA0 (by omega) (by have := hx.stk.lc; omega) (by omega) ?_)
  simp only [Int.toNat_natCast]
  refine St_row hx1.row (by simp) fun H2 hU2 hz2 hr2 => ?_
  refine hk r H2 ((hE1.mono fun _ _ h => h.elim).trans hU2 fun _ _ e => e) ⟨?_, hx1.loc.upd hU2 fun b hb e => hx1.neL hb e, ?_, hx.ap, hx.nxr⟩ (hr.upd hU2 fun b hb e => by have := hf b hb; have := hx.row.lt; omega) hf
  · have e : x.ss.len - n = x.stk.length - n := by rw [hl]
    have : actV (x.took n) = (actV x).set 5 (.slice x.ss.a (x.stk.length - n) x.ss.cap) := by rw [← e]; rfl
    rw [this]; exact hr2
  · have hv := hx1.stk.upd hU2 fun b hb e => hx1.neS hb e
    refine ⟨by simp; omega, ?_, by have := hx.stk.lc; dsimp only; omega⟩
    rcases hv.own with ⟨h1, h2, h3⟩ | ⟨b, sp, h1, h2, h3⟩
    · refine .inl ⟨h1, h2, ?_⟩
      have : x.stk = [] := List.map_eq_nil_iff.1 h3
      show ints (x.stk.take _) = []
      rw [this]; simp
    · refine .inr ⟨b, (ints x.stk).drop (x.stk.length - n) ++ sp, h1, ?_, ?_⟩
      · rw [← ints_take, ← List.append_assoc, List.take_append_drop]; exact h2
      · simp only [List.length_append, List.length_drop, List.length_map, List.length_take] at h3 ⊢
        omega
theorem s_push {x : AP} (hx : ActR H x) {n : Int} (hb : x.stk.length ≤ 2 ^ 40) {k : Unit → Heap → Prop}
    (hk : ∀ s' H', Upd (fun b => b = x.p ∨ x.ss.a = some (adr b)) H H' → ActR H' { x with ss := s', stk := x.stk ++ [n] } → (s'.a = x.ss.a ∨ ∃ b, s'.a = some (adr b) ∧ H.size ≤ b) → k () H') :
    CallT Pg fQan [.pointer (some (adr x.p)), .int .i64 n] (.tup []) H k := by
  refine cQan _ _ ?_
  unfold vQan
  simp only [NilCk_some, adr_add]
  refine Ld_sl ((hx.row.cell 5).trans rfl) ?_
  refine Nw_row (vs := [.int .i64 n]) fun b1 H1 hb1 hE1 hz1 hr1 => ?_
  have hx1 := hx.upd hE1 fun b _ h => h
  refine App_vec2 (ws := ints [n]) hx1.stk hr1.rd_all rfl (ints_one _) (by decide) (by simp; omega) fun s' H2 hv2 hU2 ha2 hz2 => ?_
  have hfr : s'.a = x.ss.a ∨ ∃ b, s'.a = some (adr b) ∧ H.size ≤ b := ha2.imp (fun e => e.1) fun e => ⟨_, e, hE1.size⟩
  have hrow2 := hU2.row hx1.row fun e => hx1.neS e.1 rfl
  refine St_row hrow2 (by simp) fun H3 hU3 hz3 hr3 => ?_
  have hlt := hx.row.lt
  have hne : ∀ b, s'.a = some (adr b) → b ≠ x.p := fun b hb e => by
    rcases hfr with h | ⟨b', h, hlt'⟩
    · rw [h] at hb; exact hx.neS hb e
    · rw [h] at hb; cases hb; omega
  refine hk s' H3 ?_ ⟨hr3, (hx1.loc.upd hU2 fun b hb e => hx.ap b hb e.1).upd hU3 fun b hb e => hx.neL hb e, ?_, fun b hb hb' => ?_, hx.nxr⟩ hfr
  · exact ((hE1.mono fun _ _ h => h.elim).trans (hU2.mono fun b _ e => .inr e.1) fun _ _ e => e).trans hU3 fun _ _ e => .inl e
  · have := hv2.upd hU3 fun b hb e => hne b hb e
    simpa [ints] using this
  · rcases hfr with h | ⟨b', h, hlt'⟩
    · rw [h] at hb'; exact hx.ap b hb hb'
    · rw [h] at hb'; cases hb'; have := hx.loc.lt hb; omega
end
section
open Hc Hc.Vf Hc.Mc Hc.Dice
variable {H : Heap}
structure PtP where
  kind : Int
  sl : Sl
  vals : List Int
abbrev PtP.pt (x : PtP) : Pt := ⟨x.kind, x.vals⟩
abbrev ptV (x : PtP) : List Value := [.int .i64 x.kind, slV x.sl]
structure CmP where
  op : Int
  e : Int × Int
  kind : Int
  vsl : Sl
  vals : List Int
  psl : Sl
  parts : List PtP
abbrev CmP.cm (x : CmP) : Cm := ⟨x.op, x.e, x.kind, x.vals, x.parts.map PtP.pt⟩
abbrev cmV (x : CmP) : List Value := [.int .i64 x.op, .int .i64 x.e.1, .int .i64 x.e.2, .int .i64 x.kind, slV x.vsl, slV x.psl]
abbrev evV (x : Ev) : List Value := [.int .i64 x.sys, .int .i64 x.e.1, .int .i64 x.e.2, .int .i64 x.code, .int .i64 x.val]
theorem ptV_len (x : PtP) : (ptV x).length = 2 := rfl
theorem cmV_len (x : CmP) : (cmV x).length = 6 := rfl
theorem evV_len (x : Ev) : (evV x).length = 5 := rfl
structure RunG where
  pS : Sl
  pF : Sl
  s : Sy
  n : Int
  fr : Int
  sd : Int
  en : Int
  inS : Sl
  ix : Int
  gn : Int
  rp : Sl
  mp : Nat
  ls : Sl
  ks : Sl
  cs : Sl
  es : Sl
  st : Int
  er : Int
  dp : Nat
  si : Int
  ov : Bool
abbrev runV (g : RunG) : List Value :=
  [slV g.pS, slV g.pF, slV (g.s.s 0), slV (g.s.s 1), slV (g.s.s 2), slV (g.s.s 3), .string g.s.rou.name, .int .i64 g.s.rou.params, .int .i64 g.s.rou.locals, slV g.s.rou.sl, .int .i64 g.n, .int .i64 g.fr, .int .i64 g.sd, .int .i64 g.en,
   slV g.inS, .int .i64 g.ix, .int .i64 g.gn, slV g.rp, .map (some g.mp), slV g.ls, slV g.ks, .slice none 0 0, slV g.cs, slV g.es, .int .i64 g.st, .int .i64 g.er, .pointer (some (adr g.dp)), .int .i64 g.si, .bool g.ov]
structure MG where
  c : Col
  b : Nat
  g : RunG
  low : List AP
  top : AP
  es : List PtP
  d : Int
  kp : List PtP
  cl : List CmP
  evs : List Ev
abbrev MG.ms (x : MG) : Ms := ⟨x.low.map AP.act, x.top.act, x.es.map PtP.pt, x.d, x.g.si, x.g.st, x.kp.map PtP.pt, x.cl.map CmP.cm, x.evs, x.g.ov⟩
abbrev ptrs (l : List AP) : List Value := l.map fun x => .pointer (some (adr x.p))
def mapEnts : Nat → List PtP → List MapEntry
  | _, [] => []
  | n, x :: r => { key := .int .i64 x.kind, val := slV x.sl, born := n } :: mapEnts (n + 1) r
abbrev cmSl (x : CmP) : List Sl := x.vsl :: x.parts.map PtP.sl
abbrev outL (cl : List CmP) (kp : List PtP) : List Sl := cl.flatMap cmSl ++ kp.map PtP.sl
def ActI (c : Col) (lo j : Nat) (x : AP) : Prop := ∀ b, ActB x b → Is c lo j b
abbrev PtR (c : Col) (lo j : Nat) (H : Heap) (q : PtP) : Prop := VecC c lo j H TQaq q.sl (ints q.vals)
structure CmR (c : Col) (lo : Nat) (H : Heap) (q : CmP) : Prop where
  vs : VecC c lo 101 H TQaq q.vsl (ints q.vals)
  ps : VecNC c lo 207 H TQai 2 q.psl (q.parts.flatMap ptV)
  pt : ∀ p ∈ q.parts, PtR c lo 101 H p
structure MacR (H0 H : Heap) (x : MG) : Prop where
  base : Ext H0 H
  run : RowC x.c H0.size 200 H x.b TQat (runV x.g)
  lv : VecC x.c H0.size 201 H TQaa x.g.ls (ptrs (x.low ++ [x.top]))
  lowR : ∀ i (h : i < x.low.length), ActR H x.low[i] ∧ ActI x.c H0.size i x.low[i]
  topR : ActR H x.top
  topI : ActI x.c H0.size x.low.length x.top
  codes : ∀ a ∈ x.low ++ [x.top], CodeR H0 a.r
  lowl : x.low.length ≤ 16
  dice : RowC x.c H0.size 205 H x.g.dp TQam [.int .u64 x.d]
  map : H[x.g.mp]? = some (.map ⟨mapEnts 0 x.es⟩ x.es.length) ∧ Is x.c H0.size 206 x.g.mp
  esR : ∀ q ∈ x.es, PtR x.c H0.size 100 H q
  esA : x.es.Pairwise fun p q => Apart p.sl q.sl
  esK : (x.es.map PtP.kind).Nodup
  kv : VecNC x.c H0.size 202 H TQai 2 x.g.ks (x.kp.flatMap ptV)
  kR : ∀ q ∈ x.kp, PtR x.c H0.size 101 H q
  cv : VecNC x.c H0.size 203 H TQac 6 x.g.cs (x.cl.flatMap cmV)
  cR : ∀ q ∈ x.cl, CmR x.c H0.size H q
  outA : (outL x.cl x.kp).Pairwise Apart
  parA : (x.cl.map CmP.psl).Pairwise Apart
  ev : VecNC x.c H0.size 204 H TQaf 5 x.g.es (x.evs.flatMap evV)
theorem CmR.tch {c : Col} {lo : Nat} {S : Nat → Prop} {H H' : Heap} (h : Tch c lo S H H') (h1 : ¬ S 101) (h2 : ¬ S 207) {q : CmP} (hq : CmR c lo H q) : CmR c lo H' q :=
  ⟨hq.vs.tch h h1, hq.ps.tch h h2, fun p hp => (hq.pt p hp).tch h h1⟩
theorem CmR.agr {c c' : Col} {lo : Nat} {H : Heap} (h1 : Agr 101 H.size c c') (h2 : Agr 207 H.size c c') {q : CmP} (hq : CmR c lo H q) : CmR c' lo H q :=
  ⟨hq.vs.agr h1, hq.ps.agr h2, fun p hp => (hq.pt p hp).agr h1⟩
theorem ActI.agr {c c' : Col} {lo j : Nat} {H : Heap} (h : Agr j H.size c c') {x : AP} (hx : ActR H x) (hi : ActI c lo j x) : ActI c' lo j x := fun b hb => ⟨(hi b hb).1, h b (hx.lt hb) (hi b hb).2⟩
theorem ActR.tch {c : Col} {lo j : Nat} {S : Nat → Prop} {H H' : Heap} (h : Tch c lo S H H') (hj : ¬ S j) {x : AP} (hx : ActR H x) (hi : ActI c lo j x) : ActR H' x :=
  hx.upd h fun b hb e => hj ((hi b hb).2 ▸ e.2)
theorem map_tch {c : Col} {lo j : Nat} {S : Nat → Prop} {H H' : Heap} (h : Tch c lo S H H') (hj : ¬ S j) {r : Nat} {o : Obj} (hm : H[r]? = some o ∧ Is c lo j r) : H'[r]? = some o ∧ Is c lo j r :=
  ⟨h.keep hm.1 fun e => hj (hm.2.2 ▸ e.2), hm.2⟩
structure Fr (H0 H' : Heap) (x : MG) (c' : Col) (S : Nat → Prop) : Prop where
  base : Ext H0 H'
  run : ¬ S 200 → RowC c' H0.size 200 H' x.b TQat (runV x.g)
  lv : ¬ S 201 → VecC c' H0.size 201 H' TQaa x.g.ls (ptrs (x.low ++ [x.top]))
  lowR : ∀ i (h : i < x.low.length), ¬ S i → ActR H' x.low[i] ∧ ActI c' H0.size i x.low[i]
  topR : ¬ S x.low.length → ActR H' x.top ∧ ActI c' H0.size x.low.length x.top
  dice : ¬ S 205 → RowC c' H0.size 205 H' x.g.dp TQam [.int .u64 x.d]
  map : ¬ S 206 → H'[x.g.mp]? = some (.map ⟨mapEnts 0 x.es⟩ x.es.length) ∧ Is c' H0.size 206 x.g.mp
  esR : ¬ S 100 → ∀ q ∈ x.es, PtR c' H0.size 100 H' q
  kv : ¬ S 202 → VecNC c' H0.size 202 H' TQai 2 x.g.ks (x.kp.flatMap ptV)
  kR : ¬ S 101 → ∀ q ∈ x.kp, PtR c' H0.size 101 H' q
  cv : ¬ S 203 → VecNC c' H0.size 203 H' TQac 6 x.g.cs (x.cl.flatMap cmV)
  cR : ¬ S 101 → ¬ S 207 → ∀ q ∈ x.cl, CmR c' H0.size H' q
  ev : ¬ S 204 → VecNC c' H0.size 204 H' TQaf 5 x.g.es (x.evs.flatMap evV)
theorem MacR.fr {H0 H H' : Heap} {x : MG} (h : MacR H0 H x) {S : Nat → Prop} (ht : Tch x.c H0.size S H H') {c' : Col} (hA : ∀ j, ¬ S j → Agr j H.size x.c c') : Fr H0 H' x c' S where
  base := ht.ext h.base
  run := fun hj => h.run.mv ht hj (hA _ hj)
  lv := fun hj => h.lv.mv ht hj (hA _ hj)
  lowR := fun i hi hj => ⟨ActR.tch ht hj (h.lowR i hi).1 (h.lowR i hi).2, (h.lowR i hi).2.agr (hA _ hj) (h.lowR i hi).1⟩
  topR := fun hj => ⟨ActR.tch ht hj h.topR h.topI, h.topI.agr (hA _ hj) h.topR⟩
  dice := fun hj => h.dice.mv ht hj (hA _ hj)
  map := fun hj => ⟨(map_tch ht hj h.map).1, h.map.2.1, hA _ hj _ (lt_of_get h.map.1) h.map.2.2⟩
  esR := fun hj q hq => (h.esR q hq).mv ht hj (hA _ hj)
  kv := fun hj => h.kv.mv ht hj (hA _ hj)
  kR := fun hj q hq => (h.kR q hq).mv ht hj (hA _ hj)
  cv := fun hj => h.cv.mv ht hj (hA _ hj)
  cR := fun hj hj2 q hq => ⟨(h.cR q hq).vs.mv ht hj (hA _ hj), (h.cR q hq).ps.mv ht hj2 (hA _ hj2), fun p hp => ((h.cR q hq).pt p hp).mv ht hj (hA _ hj)⟩
  ev := fun hj => h.ev.mv ht hj (hA _ hj)
theorem dyeA (S : Nat → Prop) (n : Nat) (c d : Col) : ∀ j, ¬ S j → Agr j n c (dye n c d) := fun j _ => agr_dye j n c d
theorem MacR.top {H0 H H' : Heap} {x : MG} (h : MacR H0 H x) {t : AP} (ht : Tch x.c H0.size (· = x.low.length) H H') (hr : ActR H' t) (hp : t.p = x.top.p) (hrou : t.r = x.top.r)
    {d : Col} (hb : ∀ b, ActB t b → ActB x.top b ∨ (H.size ≤ b ∧ d b = x.low.length)) : MacR H0 H' { x with top := t, c := dye H.size x.c d } := by
  have hl := h.lowl
  have f := h.fr ht (dyeA _ H.size x.c d)
  exact { h with
    base := f.base
    run := f.run (by omega)
    lv := by
      have := f.lv (by omega)
      simpa [ptrs, hp] using this
    lowR := fun i (hi : i < x.low.length) => f.lowR i hi (by omega)
    topR := hr
    topI := fun b hbb => by
      rcases hb b hbb with e | e
      · exact is_dye (h.topI b e) (h.topR.lt e)
      · exact is_new h.base.size e.1 e.2
    codes := fun a ha => by
      rcases List.mem_append.1 ha with ha | ha
      · exact h.codes a (List.mem_append_left _ ha)
      · rw [List.mem_singleton.1 ha, hrou]; exact h.codes _ (by simp)
    dice := f.dice (by omega)
    map := f.map (by omega)
    esR := f.esR (by omega)
    kv := f.kv (by omega)
    kR := f.kR (by omega)
    cv := f.cv (by omega)
    cR := f.cR (by omega) (by omega)
    ev := f.ev (by omega) }
theorem MacR.ext {H0 H H' : Heap} {x : MG} (h : MacR H0 H x) (he : Ext H H') : MacR H0 H' x := by
  have f := h.fr (S := fun _ => False) (Tch.ofExt he) (c' := x.c) fun j _ y _ e => e
  exact { h with
    base := f.base, run := f.run id, lv := f.lv id, lowR := fun i hi => f.lowR i hi id, topR := (f.topR id).1, dice := f.dice id, map := f.map id, esR := f.esR id, kv := f.kv id, kR := f.kR id, cv := f.cv id, cR := f.cR id id, ev := f.ev id }
theorem MacR.num {H0 H H' : Heap} {x : MG} (h : MacR H0 H x) (hu : Upd (· = x.b) H H') {st er si : Int} {ov : Bool} (hr : Row H' x.b TQat (runV { x.g with st := st, er := er, si := si, ov := ov })) :
    MacR H0 H' { x with g := { x.g with st := st, er := er, si := si, ov := ov } } := by
  have hl := h.lowl
  have f := h.fr (S := (· = 200)) (tch_row hu h.run.2 rfl) (c' := x.c) fun j _ y _ e => e
  exact { h with
    base := f.base, run := ⟨hr, h.run.2⟩, lv := f.lv (by omega), lowR := fun i (hi : i < x.low.length) => f.lowR i hi (by omega), topR := (f.topR (by omega)).1, dice := f.dice (by omega), map := f.map (by omega), esR := f.esR (by omega)
    kv := f.kv (by omega), kR := f.kR (by omega), cv := f.cv (by omega), cR := f.cR (by omega) (by omega), ev := f.ev (by omega) }
theorem MacR.fell {H0 H H' : Heap} {x : MG} (h : MacR H0 H x) (hu : Upd (· = x.g.dp) H H') {d : Int} (hr : Row H' x.g.dp TQam [.int .u64 d]) : MacR H0 H' { x with d := d } := by
  have hl := h.lowl
  have f := h.fr (S := (· = 205)) (tch_row hu h.dice.2 rfl) (c' := x.c) fun j _ y _ e => e
  exact { h with
    base := f.base, run := f.run (by omega), lv := f.lv (by omega), lowR := fun i (hi : i < x.low.length) => f.lowR i hi (by omega), topR := (f.topR (by omega)).1, dice := ⟨hr, h.dice.2⟩, map := f.map (by omega), esR := f.esR (by omega)
    kv := f.kv (by omega), kR := f.kR (by omega), cv := f.cv (by omega), cR := f.cR (by omega) (by omega), ev := f.ev (by omega) }
def recol (c : Col) (i j : Nat) : Col := fun b => if c b = i then j else c b
theorem agr_recol {S : Nat → Prop} {n i k : Nat} {c d : Col} (hi : S i) : ∀ j, ¬ S j → Agr j n c (dye n (recol c i k) d) := fun j hj y hy e => by
  rw [dye_lt hy]; unfold recol; rw [if_neg (fun h => hj (by rw [← e, h]; exact hi)), e]
theorem is_recol {c d : Col} {lo i j b n : Nat} (h : Is c lo i b) (hb : b < n) : Is (dye n (recol c i j) d) lo j b := ⟨h.1, by rw [dye_lt hb]; unfold recol; rw [if_pos h.2]⟩
theorem sl_dye {c d : Col} {lo j n : Nat} {s s' : Sl} (h : IsS c lo j s) (hl : lo ≤ n) (ha : s'.a = s.a ∨ ∃ b, s'.a = some (adr b) ∧ n ≤ b) (hlt : ∀ b, s.a = some (adr b) → b < n) {i k : Nat} (hij : i ≠ j) (hd : ∀ b, s'.a = some (adr b) → d b = j) : IsS (dye n (recol c i k) d) lo j s' := fun b hb => by
  rcases ha with e | ⟨b', e, hge⟩
  · rw [e] at hb
    refine ⟨(h b hb).1, ?_⟩
    rw [dye_lt (hlt b hb)]; unfold recol; rw [(h b hb).2, if_neg (fun e => hij e.symm)]
  · rw [e] at hb; cases hb
    exact is_new hl hge (hd _ e)
theorem apart_col {c : Col} {lo i j : Nat} {s t : Sl} (hs : IsS c lo i s) (ht : IsS c lo j t) (h : i ≠ j) : Apart s t := fun b hb hb' => h ((hs b hb).2.symm.trans (ht b hb').2)
theorem apart_nil (s : Sl) {t : Sl} (h : t.a = none) : Apart s t := fun b _ hb => by rw [h] at hb; cases hb
theorem MacR.outCol {H0 H : Heap} {x : MG} (h : MacR H0 H x) : ∀ s ∈ outL x.cl x.kp, IsS x.c H0.size 101 s := fun s hs => by
  rcases List.mem_append.1 hs with hs | hs
  · obtain ⟨q, hq, hs⟩ := List.mem_flatMap.1 hs
    rcases List.mem_cons.1 hs with rfl | hs
    · exact (h.cR q hq).vs.2
    · obtain ⟨p, hp, rfl⟩ := List.mem_map.1 hs
      exact ((h.cR q hq).pt p hp).2
  · obtain ⟨p, hp, rfl⟩ := List.mem_map.1 hs
    exact (h.kR p hp).2
theorem MacR.free {H0 H : Heap} {x : MG} (h : MacR H0 H x) {b : Nat} (hb : x.c b = 999) (e : x.g.ks.a = some (adr b) ∨ b = x.b) : False := by
  rcases e with e | rfl
  · have := (h.kv.2 b e).2; omega
  · have := h.run.2.2; omega
theorem MacR.keep {H0 H H' : Heap} {x : MG} (h : MacR H0 H x) {ks : Sl} {q : PtP} (hu : Upd (fun b => x.g.ks.a = some (adr b) ∨ b = x.b) H H') (hr : Row H' x.b TQat (runV { x.g with ks := ks }))
    (hv : VecN H' TQai 2 ks ((x.kp ++ [q]).flatMap ptV)) (hks : ks.a = x.g.ks.a ∨ ∃ b, ks.a = some (adr b) ∧ H.size ≤ b) (hq : Vec H TQaq q.sl (ints q.vals)) (hqc : IsS x.c H0.size 999 q.sl) :
    MacR H0 H' { x with g := { x.g with ks := ks }, kp := x.kp ++ [q], c := dye H.size (recol x.c 999 101) fun _ => 202 } := by
  have hl := h.lowl
  have ht : Tch x.c H0.size (fun j => j = 202 ∨ j = 200 ∨ j = 999) H H' := Tch.of hu fun b _ e => by
    rcases e with e | rfl
    · exact ⟨(h.kv.2 b e).1, .inl (h.kv.2 b e).2⟩
    · exact ⟨h.run.2.1, .inr (.inl h.run.2.2)⟩
  have f := h.fr ht (agr_recol (n := H.size) (k := 101) (d := fun _ => 202) (.inr (.inr rfl)))
  exact { h with
    base := f.base, run := ⟨hr, is_dye (c := recol x.c 999 101) ⟨h.run.2.1, by unfold recol; rw [h.run.2.2, if_neg (by decide)]⟩ h.run.1.lt⟩
    lv := f.lv (by omega), lowR := fun i (hi : i < x.low.length) => f.lowR i hi (by omega), topR := (f.topR (by omega)).1, topI := (f.topR (by omega)).2, dice := f.dice (by omega), map := f.map (by omega), esR := f.esR (by omega)
    kv := ⟨hv, sl_dye h.kv.2 h.base.size hks (fun b hb => h.kv.1.lt hb) (by decide) fun _ _ => rfl⟩
    kR := fun p hp => by
      rcases List.mem_append.1 hp with hp | hp
      · exact f.kR (by omega) p hp
      · rw [List.mem_singleton.1 hp]
        exact ⟨hq.upd hu fun b hb e => h.free (hqc b hb).2 e, fun b hb => is_recol (hqc b hb) (hq.lt hb)⟩
    cv := f.cv (by omega), cR := f.cR (by omega) (by omega), ev := f.ev (by omega)
    outA := by
      have e : outL x.cl (x.kp ++ [q]) = outL x.cl x.kp ++ [q.sl] := by simp [outL]
      rw [e, List.pairwise_append]
      refine ⟨h.outA, List.pairwise_singleton _ _, fun s hs t ht => ?_⟩
      rw [List.mem_singleton.1 ht]
      exact apart_col (h.outCol s hs) hqc (by decide) }
theorem MacR.cmd {H0 H H' : Heap} {x : MG} (h : MacR H0 H x) {cs : Sl} {q : CmP} (hu : Upd (fun b => x.g.cs.a = some (adr b) ∨ b = x.b) H H') (hr : Row H' x.b TQat (runV { x.g with cs := cs }))
    (hv : VecN H' TQac 6 cs ((x.cl ++ [q]).flatMap cmV)) (hcs : cs.a = x.g.cs.a ∨ ∃ b, cs.a = some (adr b) ∧ H.size ≤ b) (hq : Vec H TQaq q.vsl (ints q.vals)) (hqc : IsS x.c H0.size 999 q.vsl) (hp : q.parts = []) (hps : q.psl = ⟨none, 0, 0⟩) :
    MacR H0 H' { x with g := { x.g with cs := cs }, cl := x.cl ++ [q], c := dye H.size (recol x.c 999 101) fun _ => 203 } := by
  have hl := h.lowl
  have ht : Tch x.c H0.size (fun j => j = 203 ∨ j = 200 ∨ j = 999) H H' := Tch.of hu fun b _ e => by
    rcases e with e | rfl
    · exact ⟨(h.cv.2 b e).1, .inl (h.cv.2 b e).2⟩
    · exact ⟨h.run.2.1, .inr (.inl h.run.2.2)⟩
  have f := h.fr ht (agr_recol (n := H.size) (k := 101) (d := fun _ => 203) (.inr (.inr rfl)))
  exact { h with
    base := f.base, run := ⟨hr, is_dye (c := recol x.c 999 101) ⟨h.run.2.1, by unfold recol; rw [h.run.2.2, if_neg (by decide)]⟩ h.run.1.lt⟩
    lv := f.lv (by omega), lowR := fun i (hi : i < x.low.length) => f.lowR i hi (by omega), topR := (f.topR (by omega)).1, topI := (f.topR (by omega)).2, dice := f.dice (by omega), map := f.map (by omega), esR := f.esR (by omega)
    kv := f.kv (by omega), kR := f.kR (by omega)
    cv := ⟨hv, sl_dye h.cv.2 h.base.size hcs (fun b hb => h.cv.1.lt hb) (by decide) fun _ _ => rfl⟩
    cR := fun p hp' => by
      rcases List.mem_append.1 hp' with hp' | hp'
      · exact f.cR (by omega) (by omega) p hp'
      · rw [List.mem_singleton.1 hp']
        refine ⟨⟨hq.upd hu fun b hb e => ?_, fun b hb => is_recol (hqc b hb) (hq.lt hb)⟩, ?_, fun p hpp => by rw [hp] at hpp; cases hpp⟩
        · rcases e with e | rfl
          · have := (h.cv.2 b e).2; have := (hqc b hb).2; omega
          · have := h.run.2.2; have := (hqc _ hb).2; omega
        · rw [hp, hps]; exact VecNC.nil _ _ _ _ _ _
    ev := f.ev (by omega)
    outA := by
      have e : (outL x.cl x.kp ++ [q.vsl]).Perm (outL (x.cl ++ [q]) x.kp) := by
        simp only [outL, List.flatMap_append, List.flatMap_cons, List.flatMap_nil, List.append_nil, cmSl, hp, List.map_nil, List.append_assoc]
        exact List.perm_append_left_iff _ |>.2 List.perm_append_comm
      refine (e.pairwise_iff fun {a b} h => h.symm).1 ?_
      rw [List.pairwise_append]
      refine ⟨h.outA, List.pairwise_singleton _ _, fun s hs t ht => ?_⟩
      rw [List.mem_singleton.1 ht]
      exact apart_col (h.outCol s hs) hqc (by decide)
    parA := by
      rw [List.map_append, List.pairwise_append]
      refine ⟨h.parA, List.pairwise_singleton _ _, fun s hs t ht => ?_⟩
      rw [List.mem_singleton.1 ht, hps]
      exact apart_nil _ rfl }
theorem MacR.event {H0 H H' : Heap} {x : MG} (h : MacR H0 H x) {es : Sl} {q : Ev} (hu : Upd (fun b => x.g.es.a = some (adr b) ∨ b = x.b) H H') (hr : Row H' x.b TQat (runV { x.g with es := es }))
    (hv : VecN H' TQaf 5 es ((x.evs ++ [q]).flatMap evV)) (hes : es.a = x.g.es.a ∨ ∃ b, es.a = some (adr b) ∧ H.size ≤ b) :
    MacR H0 H' { x with g := { x.g with es := es }, evs := x.evs ++ [q], c := dye H.size (recol x.c 999 101) fun _ => 204 } := by
  have hl := h.lowl
  have ht : Tch x.c H0.size (fun j => j = 204 ∨ j = 200 ∨ j = 999) H H' := Tch.of hu fun b _ e => by
    rcases e with e | rfl
    · exact ⟨(h.ev.2 b e).1, .inl (h.ev.2 b e).2⟩
    · exact ⟨h.run.2.1, .inr (.inl h.run.2.2)⟩
  have f := h.fr ht (agr_recol (n := H.size) (k := 101) (d := fun _ => 204) (.inr (.inr rfl)))
  exact { h with
    base := f.base, run := ⟨hr, is_dye (c := recol x.c 999 101) ⟨h.run.2.1, by unfold recol; rw [h.run.2.2, if_neg (by decide)]⟩ h.run.1.lt⟩
    lv := f.lv (by omega), lowR := fun i (hi : i < x.low.length) => f.lowR i hi (by omega), topR := (f.topR (by omega)).1, topI := (f.topR (by omega)).2, dice := f.dice (by omega), map := f.map (by omega), esR := f.esR (by omega)
    kv := f.kv (by omega), kR := f.kR (by omega), cv := f.cv (by omega), cR := f.cR (by omega) (by omega)
    ev := ⟨hv, sl_dye h.ev.2 h.base.size hes (fun b hb => h.ev.1.lt hb) (by decide) fun _ _ => rfl⟩ }
theorem MacR.call {H0 H H' : Heap} {x : MG} (h : MacR H0 H x) (hlt : x.low.length + 1 ≤ 16) {ls : Sl} {t : AP} (hu : Upd (fun b => x.g.ls.a = some (adr b) ∨ b = x.b) H H') (hr : Row H' x.b TQat (runV { x.g with ls := ls }))
    (hv : Vec H' TQaa ls (ptrs (x.low ++ [x.top] ++ [t]))) (hls : ls.a = x.g.ls.a ∨ ∃ b, ls.a = some (adr b) ∧ H.size ≤ b) (ht' : ActR H' t) (htb : ∀ b, ActB t b → H.size ≤ b) (hc : CodeR H0 t.r) :
    MacR H0 H' { x with g := { x.g with ls := ls }, low := x.low ++ [x.top], top := t, c := dye H.size (recol x.c 999 101) fun b => if ls.a = some (adr b) then 201 else x.low.length + 1 } := by
  have hl := h.lowl
  have ht : Tch x.c H0.size (fun j => j = 201 ∨ j = 200 ∨ j = 999) H H' := Tch.of hu fun b _ e => by
    rcases e with e | rfl
    · exact ⟨(h.lv.2 b e).1, .inl (h.lv.2 b e).2⟩
    · exact ⟨h.run.2.1, .inr (.inl h.run.2.2)⟩
  have f := h.fr ht (agr_recol (n := H.size) (k := 101) (d := fun b => if ls.a = some (adr b) then 201 else x.low.length + 1) (.inr (.inr rfl)))
  have hne : ∀ b, ActB t b → ls.a ≠ some (adr b) := fun b hb e => by
    rcases hb with rfl | hb | hb
    · exact hv.ne e ht'.row (by decide) rfl
    · rcases ht'.loc.own with ⟨h1, _⟩ | ⟨c, sp, h1, h2, _⟩
      · rw [h1] at hb; cases hb
      · rw [h1] at hb; cases hb; exact hv.ne e h2 (by decide) rfl
    · rcases ht'.stk.own with ⟨h1, _⟩ | ⟨c, sp, h1, h2, _⟩
      · rw [h1] at hb; cases hb
      · rw [h1] at hb; cases hb; exact hv.ne e h2 (by decide) rfl
  exact { h with
    base := f.base, run := ⟨hr, is_dye (c := recol x.c 999 101) ⟨h.run.2.1, by unfold recol; rw [h.run.2.2, if_neg (by decide)]⟩ h.run.1.lt⟩
    lv := ⟨hv, sl_dye h.lv.2 h.base.size hls (fun b hb => h.lv.1.lt hb) (by decide) fun b hb => if_pos hb⟩
    lowR := fun i hi => by
      have hi' : i < x.low.length + 1 := by simpa using hi
      by_cases e : i < x.low.length
      · have := f.lowR i e (by omega)
        simp only [List.getElem_append_left e]; exact this
      · have e : i = x.low.length := by omega
        subst e
        simp only [List.getElem_concat_length]
        exact f.topR (by omega)
    topR := ht'
    topI := fun b hb => by
      refine is_new h.base.size (htb b hb) ?_
      dsimp only
      rw [if_neg (hne b hb)]; simp
    codes := fun a ha => by
      rcases List.mem_append.1 ha with ha | ha
      · exact h.codes a ha
      · rw [List.mem_singleton.1 ha]; exact hc
    lowl := by simpa using hlt
    dice := f.dice (by omega), map := f.map (by omega), esR := f.esR (by omega)
    kv := f.kv (by omega), kR := f.kR (by omega), cv := f.cv (by omega), cR := f.cR (by omega) (by omega), ev := f.ev (by omega) }
theorem MacR.ret {H0 H H' : Heap} {x : MG} (h : MacR H0 H x) {low : List AP} {t : AP} (hlow : x.low = low ++ [t]) {ls : Sl} (hu : Upd (· = x.b) H H') (hr : Row H' x.b TQat (runV { x.g with ls := ls }))
    (hv : Vec H' TQaa ls (ptrs (low ++ [t]))) (hls : ls.a = x.g.ls.a) : MacR H0 H' { x with g := { x.g with ls := ls }, low := low, top := t } := by
  have hl := h.lowl
  have hll : x.low.length = low.length + 1 := by rw [hlow]; simp
  have f := h.fr (S := (· = 200)) (tch_row hu h.run.2 rfl) (c' := x.c) fun j _ y _ e => e
  have hlast : x.low[low.length]'(by omega) = t := by simp [hlow]
  exact { h with
    base := f.base, run := ⟨hr, h.run.2⟩, lv := ⟨hv, fun b hb => h.lv.2 b (by rw [← hls]; exact hb)⟩
    lowR := fun i (hi : i < low.length) => by
      have := f.lowR i (by omega) (by omega)
      have e : x.low[i]'(by omega) = low[i] := by simp [hlow, List.getElem_append_left hi]
      rw [e] at this; exact this
    topR := by have := (f.lowR low.length (by omega) (by omega)).1; rw [hlast] at this; exact this
    topI := by have := (f.lowR low.length (by omega) (by omega)).2; rw [hlast] at this; exact this
    codes := fun a ha => h.codes a (by rw [hlow]; exact List.mem_append_left _ ha)
    lowl := by show low.length ≤ 16; omega
    dice := f.dice (by omega), map := f.map (by omega), esR := f.esR (by omega)
    kv := f.kv (by omega), kR := f.kR (by omega), cv := f.cv (by omega), cR := f.cR (by omega) (by omega), ev := f.ev (by omega) }
theorem mapEnts_congr : ∀ {n : Nat} {l l' : List PtP}, l.map (fun q => (q.kind, q.sl)) = l'.map (fun q => (q.kind, q.sl)) → mapEnts n l = mapEnts n l'
  | _, [], [], _ => rfl
  | _, [], _ :: _, h => by cases h
  | _, _ :: _, [], h => by cases h
  | n, x :: r, y :: r', h => by
    simp only [List.map_cons, List.cons.injEq, Prod.mk.injEq] at h
    unfold mapEnts
    rw [h.1.1, h.1.2, mapEnts_congr h.2]
theorem MacR.put {H0 H H' : Heap} {x : MG} (h : MacR H0 H x) {j : Nat} (hj : j < x.es.length) {b : Nat} (hb : x.es[j].sl.a = some (adr b)) (hu : Upd (· = b) H H') {vs : List Int} (hv : Vec H' TQaq x.es[j].sl (ints vs)) :
    MacR H0 H' { x with es := x.es.set j { x.es[j] with vals := vs } } := by
  have hl := h.lowl
  have hmem := List.getElem_mem hj
  have hbc := (h.esR _ hmem).2 b hb
  have f := h.fr (S := (· = 100)) (tch_row hu hbc rfl) (c' := x.c) fun j _ y _ e => e
  have hk : ∀ {α : Type} (g : PtP → α), (g { x.es[j] with vals := vs } = g x.es[j]) → (x.es.set j { x.es[j] with vals := vs }).map g = x.es.map g := fun g hg => by
    rw [List.map_set, hg]
    apply List.ext_getElem
    · simp
    · intro i h1 h2
      rw [List.getElem_set]
      split
      · rename_i e; subst e; simp
      · rfl
  exact { h with
    base := f.base, run := f.run (by omega), lv := f.lv (by omega), lowR := fun i (hi : i < x.low.length) => f.lowR i hi (by omega), topR := (f.topR (by omega)).1, dice := f.dice (by omega)
    map := by
      have := f.map (by omega)
      dsimp only
      rw [List.length_set, mapEnts_congr (hk (fun q => (q.kind, q.sl)) rfl)]; exact this
    esR := fun q hq => by
      obtain ⟨i, hi, e⟩ := List.getElem_of_mem hq
      rw [List.length_set] at hi
      rw [List.getElem_set] at e
      split at e
      · subst e; exact ⟨hv, (h.esR _ hmem).2⟩
      · rename_i hne
        subst e
        have hr := h.esR _ (List.getElem_mem hi)
        refine ⟨hr.1.upd hu fun b' hb' e => ?_, hr.2⟩
        subst e
        rcases Nat.lt_or_ge i j with hlt | hge
        · exact List.pairwise_iff_getElem.1 h.esA i j hi hj hlt b' hb' hb
        · exact List.pairwise_iff_getElem.1 h.esA j i hj hi (by omega) b' hb hb'
    esA := by
      have e := hk PtP.sl rfl
      have := h.esA
      rw [← List.pairwise_map (f := PtP.sl) (R := Apart)] at this ⊢
      rw [e]; exact this
    esK := by
      have e := hk PtP.kind rfl
      dsimp only
      rw [e]; exact h.esK
    kv := f.kv (by omega), kR := f.kR (by omega), cv := f.cv (by omega), cR := f.cR (by omega) (by omega), ev := f.ev (by omega) }
abbrev spawned (ks : Sl) (kp : List PtP) : CmP := ⟨1, (0, 0), 0, ⟨none, 0, 0⟩, [], ks, kp⟩
theorem MacR.spawn {H0 H H' : Heap} {x : MG} (h : MacR H0 H x) {cs : Sl} {kp : List PtP} (hp : kp.Perm x.kp) (hu : Upd (fun b => x.g.ks.a = some (adr b) ∨ x.g.cs.a = some (adr b) ∨ b = x.b) H H')
    (hr : Row H' x.b TQat (runV { x.g with cs := cs, ks := ⟨none, 0, 0⟩ })) (hk : VecN H' TQai 2 x.g.ks (kp.flatMap ptV))
    (hv : VecN H' TQac 6 cs ((x.cl ++ [spawned x.g.ks kp]).flatMap cmV)) (hcs : cs.a = x.g.cs.a ∨ ∃ b, cs.a = some (adr b) ∧ H.size ≤ b) :
    MacR H0 H' { x with g := { x.g with cs := cs, ks := ⟨none, 0, 0⟩ }, cl := x.cl ++ [spawned x.g.ks kp], kp := [], c := dye H.size (recol x.c 202 207) fun _ => 203 } := by
  have hl := h.lowl
  have ht : Tch x.c H0.size (fun j => j = 203 ∨ j = 200 ∨ j = 202) H H' := Tch.of hu fun b _ e => by
    rcases e with e | e | rfl
    · exact ⟨(h.kv.2 b e).1, .inr (.inr (h.kv.2 b e).2)⟩
    · exact ⟨(h.cv.2 b e).1, .inl (h.cv.2 b e).2⟩
    · exact ⟨h.run.2.1, .inr (.inl h.run.2.2)⟩
  have f := h.fr ht (agr_recol (n := H.size) (k := 207) (d := fun _ => 203) (.inr (.inr rfl)))
  exact { h with
    base := f.base, run := ⟨hr, is_dye (c := recol x.c 202 207) ⟨h.run.2.1, by unfold recol; rw [h.run.2.2, if_neg (by decide)]⟩ h.run.1.lt⟩
    lv := f.lv (by omega), lowR := fun i (hi : i < x.low.length) => f.lowR i hi (by omega), topR := (f.topR (by omega)).1, topI := (f.topR (by omega)).2, dice := f.dice (by omega), map := f.map (by omega), esR := f.esR (by omega)
    kv := VecNC.nil _ _ _ _ _ _, kR := fun p hp => by cases hp
    cv := ⟨hv, sl_dye h.cv.2 h.base.size hcs (fun b hb => h.cv.1.lt hb) (by decide) fun _ _ => rfl⟩
    cR := fun p hp' => by
      rcases List.mem_append.1 hp' with hp' | hp'
      · exact f.cR (by omega) (by omega) p hp'
      · rw [List.mem_singleton.1 hp']
        exact ⟨VecC.nil _ _ _ _ _, ⟨hk, fun b hb => is_recol (h.kv.2 b hb) (h.kv.1.lt hb)⟩, fun p hpp => f.kR (by omega) p (hp.subset hpp)⟩
    ev := f.ev (by omega)
    outA := by
      have e : (outL x.cl x.kp ++ [(⟨none, 0, 0⟩ : Sl)]).Perm (outL (x.cl ++ [spawned x.g.ks kp]) []) := by
        simp only [outL, List.flatMap_append, List.flatMap_cons, List.flatMap_nil, List.append_nil, cmSl, List.map_nil, List.append_assoc]
        refine List.perm_append_left_iff _ |>.2 (List.perm_append_comm.trans ?_)
        exact (hp.symm.map _).cons _
      refine (e.pairwise_iff fun {a b} h => h.symm).1 ?_
      rw [List.pairwise_append]
      refine ⟨h.outA, List.pairwise_singleton _ _, fun s hs t ht => ?_⟩
      rw [List.mem_singleton.1 ht]
      exact apart_nil _ rfl
    parA := by
      rw [List.map_append, List.pairwise_append]
      refine ⟨h.parA, List.pairwise_singleton _ _, fun s hs t ht => ?_⟩
      rw [List.mem_singleton.1 ht]
      obtain ⟨q, hq, rfl⟩ := List.mem_map.1 hs
      exact apart_col (h.cR q hq).ps.2 h.kv.2 (by decide) }
end
end Go.Proofs.YtfpmgpblhhcpgaaGreat
