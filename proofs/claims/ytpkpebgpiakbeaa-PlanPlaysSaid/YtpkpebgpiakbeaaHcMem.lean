/-
  New memory, append, copy, conversions, calls; and the condition of any operation.
-/
import Derived.Test.YtpkpebgpiakbeaaHcAct
namespace Go.Proofs.Ytpkpebgpiakbeaa.Hc
set_option linter.unusedVariables false
set_option linter.unusedSimpArgs false

/-! ### words -/
/-- n elements' worth of zero cells. -/
def zcells (z : Array Value) (n : Nat) : Array Value := (Array.range n).map (z[· % z.size]!)
def Mks (e : TypeId) (size bytes : Nat) (z : Array Value) (len cap : Int) (H : Heap) (k : Sl → Heap → Prop) : Prop :=
  0 ≤ IntKind.i64.wrap len ∧ IntKind.i64.wrap len ≤ IntKind.i64.wrap cap ∧ (bytes : Int) * IntKind.i64.wrap cap ≤ 2 ^ 48 ∧
  k ⟨some ⟨H.size, 0, none⟩, (IntKind.i64.wrap len).toNat, (IntKind.i64.wrap cap).toNat⟩ (H.push (.cells (zcells z ((IntKind.i64.wrap cap).toNat * size)) e))
/-- The first cells behind an address (or none) read as these. -/
def rdL (H : Heap) (a : Option Addr) (vs : List Value) : Prop :=
  match a with
  | some a => hcells H a 0 vs
  | none => vs = []
/-- Cells written from an address on. -/
def StL (a : Addr) : Nat → List Value → Heap → (Heap → Prop) → Prop
  | _, [], H, k => k H
  | i, v :: vs, H, k => StV (a.add i) v H fun H' => StL a (i + 1) vs H' k
def App (e : TypeId) (size bytes : Nat) (z : Array Value) (s x : Sl) (H : Heap) (k : Sl → Heap → Prop) : Prop :=
  ∃ new : List Value, rdL H x.a new ∧ (x.a.isSome = true → new.length = x.len * size) ∧
    (s.len + x.len ≤ s.cap → match s.a with
      | some a => StL (a.add (s.len * size)) 0 new H (k ⟨some a, s.len + x.len, s.cap⟩)
      | none => k ⟨none, s.len + x.len, s.cap⟩ H) ∧
    (s.cap < s.len + x.len → bytes ≠ 0 ∧ Builtin.nextslicecap (s.len + x.len) s.cap * bytes ≤ 2 ^ 48 ∧
      ∃ old : List Value, rdL H s.a old ∧ (s.a.isSome = true → old.length = s.len * size) ∧
        ∀ c, s.len + x.len ≤ c → k ⟨some ⟨H.size, 0, none⟩, s.len + x.len, c⟩ (H.push (.cells (⟨old⟩ ++ ⟨new⟩ ++ zcells z ((c - (s.len + x.len)) * z.size)) e)))
def bytesV (s : ByteArray) : Array Value := s.data.map fun b => .int .u8 b.toNat
def AppStr (e : TypeId) (bytes : Nat) (z : Array Value) (s : Sl) (x : ByteArray) (H : Heap) (k : Sl → Heap → Prop) : Prop :=
    (s.len + x.size ≤ s.cap → match s.a with
      | some a => StL (a.add s.len) 0 (bytesV x).toList H (k ⟨some a, s.len + x.size, s.cap⟩)
      | none => k ⟨none, s.len + x.size, s.cap⟩ H) ∧
    (s.cap < s.len + x.size → bytes ≠ 0 ∧ Builtin.nextslicecap (s.len + x.size) s.cap * bytes ≤ 2 ^ 48 ∧
      ∃ old : List Value, rdL H s.a old ∧ (s.a.isSome = true → old.length = s.len) ∧
        ∀ c, s.len + x.size ≤ c → k ⟨some ⟨H.size, 0, none⟩, s.len + x.size, c⟩ (H.push (.cells (⟨old⟩ ++ bytesV x ++ zcells z ((c - (s.len + x.size)) * z.size)) e)))
def Cpy (size : Nat) (d s : Sl) (H : Heap) (k : Int → Heap → Prop) : Prop :=
  ∃ vs : List Value, rdL H s.a vs ∧ (s.a.isSome = true → vs.length = Nat.min s.len d.len * size) ∧
    (match d.a with
      | some a => StL a 0 vs H (k (Nat.min s.len d.len))
      | none => k (Nat.min s.len d.len) H)
def B2S (s : Sl) (H : Heap) (k : ByteArray → Prop) : Prop :=
  ∃ bs : List UInt8, rdL H s.a (bs.map fun b => .int .u8 b.toNat) ∧ (s.a.isSome = true → bs.length = s.len) ∧ k ⟨⟨bs⟩⟩
def S2B (e : TypeId) (s : ByteArray) (H : Heap) (k : Sl → Heap → Prop) : Prop :=
  ∀ c, s.size ≤ c → k ⟨some ⟨H.size, 0, none⟩, s.size, c⟩ (H.push (.cells (bytesV s ++ Array.replicate (c - s.size) (.int .u8 0)) e (c, c + 1)))

def Clr (z : Array Value) (s : Sl) (H : Heap) (k : Heap → Prop) : Prop :=
  match s.a with
  | some a => StL a 0 (zcells z (s.len * z.size)).toList H k
  | none => k H
/-- '[]byte("constant")': the cell behind the block's end is marked. -/
def Mrk (a : Addr) (H : Heap) (k : Heap → Prop) : Prop := ∃ e n, hshape H a.block = some (e, n) ∧ k (hfreeze H ⟨a.block, n, none⟩ 1)
/-- Function f can be called: it has a body. -/
def Cb (P : Program) (f : FuncId) : Prop := ∃ fn, P.funcs[f]? = some fn ∧ (fn.name == "runtime.NumGoroutine") = false ∧ fn.body.isNone = false
/-- Whatever the world over this heap: the call of function f comes back, with a result and a heap that meet k. -/
def CallV (P : Program) (f : FuncId) (args : Array Value) (H : Heap) (k : Value → Heap → Prop) : Prop :=
  ∀ w, w.heap = H → Calls P f args w fun e w' => SameEnv w w' ∧ ∃ v, e = .returned v ∧ k v w'.heap
def CallT (P : Program) (f : FuncId) (args : List Value) (r : RTy) (H : Heap) (k : r.den → Heap → Prop) : Prop :=
  Cb P f ∧ ∀ w, w.heap = H → Calls P f ⟨args⟩ w fun e w' => SameEnv w w' ∧ ∃ d, e = .returned (r.emb d) ∧ k d w'.heap

/-! ### each from its word -/
theorem SW_underlying {P : Program} {t : TypeId} {d : TypeDesc} (h : P.underlying t = some d) (k : TypeDesc → Heap → Prop) (H : Heap) : SW P (underlying t) k H = k d H := by
  unfold underlying program; simp only [SW_bind, SW, h]; rfl
theorem SW_typeInfo {P : Program} {t : TypeId} {i : TypeInfo} (h : P.info? t = some i) (k : TypeInfo → Heap → Prop) (H : Heap) : SW P (typeInfo t) k H = k i H := by
  unfold typeInfo program; simp only [SW_bind, SW, h]; rfl
theorem SW_zeroValue {P : Program} {t : TypeId} {i : TypeInfo} {z : Value} (h : P.info? t = some i) (hz : i.zero = some z) (k : Value → Heap → Prop) (H : Heap) : SW P (zeroValue t) k H = k z H := by
  unfold zeroValue; simp only [SW_bind, SW_typeInfo h, hz]; rfl
theorem SW_newRow {P : Program} (e : TypeId) (cells : Array Value) (k : Addr → Heap → Prop) (H : Heap) : SW P (newRow e cells) k H = k ⟨H.size, 0, none⟩ (H.push (.cells cells e)) := by
  unfold newRow newObj; simp only [SW_bind, SW]; rfl
theorem SW_askRoom {P : Program} (n : Nat) (k : Unit → Heap → Prop) (H : Heap) : SW P (askRoom n) k H = k () H := by
  unfold askRoom; split <;> rfl
theorem SW_ite {α : Type} {P : Program} (c : Prop) [Decidable c] (x y : Sem α) (k : α → Heap → Prop) (H : Heap) :
    SW P (if c then x else y) k H = if c then SW P x k H else SW P y k H := by split <;> rfl
theorem SW_pure' {α : Type} {P : Program} (a : α) (k : α → Heap → Prop) (H : Heap) : SW P (Pure.pure a) k H = k a H := rfl

theorem Mks.sound {P : Program} {t e : TypeId} {i : TypeInfo} {z : Value} {kl kc : IntKind} {len cap : Int} {H : Heap} {k : Sl → Heap → Prop}
    (ht : P.underlying t = some (.slice e)) (hi : P.info? e = some i) (hz : i.zero = some z)
    (h : Mks e i.size i.bytes z.cells len cap H k) : SW P (Instr.makeSlice t (.int kl len) (.int kc cap)) (fun v H' => ∃ s : Sl, v = .slice s.a s.len s.cap ∧ k s H') H := by
  obtain ⟨h0, h1, h2, hk⟩ := h
  unfold Instr.makeSlice
  simp only [SW_bind, SW_underlying ht, SW_typeInfo hi, SW_ite, asInt, asIntOf, SW_pure']
  have c0 : ¬ (IntKind.i64.wrap cap < 0) := by omega
  have c1 : ¬ (2 ^ 48 < (i.bytes : Int) * IntKind.i64.wrap cap) := by omega
  have c2 : ¬ (IntKind.i64.wrap len < 0) := by omega
  have c3 : ¬ (IntKind.i64.wrap cap < IntKind.i64.wrap len) := by omega
  simp only [c0, c1, c2, c3, gt_iff_lt, decide_false, Bool.or_self, Bool.false_eq_true, if_false, SW_pure', SW_askRoom, SW_sizeOf hi]
  split
  · rename_i hn
    simp only [SW_pure', SW_newRow]
    refine ⟨⟨some ⟨H.size, 0, none⟩, _, _⟩, rfl, ?_⟩
    have e1 : (Array.range ((IntKind.i64.wrap cap).toNat * i.size)).map (fun x => (#[] : Array Value)[x % (#[] : Array Value).size]!) = zcells z.cells ((IntKind.i64.wrap cap).toNat * i.size) := by
      rw [hn]; simp [zcells]
    rw [e1]; exact hk
  · simp only [SW_zeroValue hi hz, SW_pure', SW_newRow, SW_bind]
    exact ⟨⟨some ⟨H.size, 0, none⟩, _, _⟩, rfl, hk⟩

theorem SW_loadCellsFrom {P : Program} {a : Addr} : ∀ {vs : List Value} {i : Nat} {acc : Array Value} {H : Heap} {k : Array Value → Heap → Prop}, hcells H a i vs →
    k (acc ++ vs.toArray) H → SW P (loadCellsFrom a i vs.length acc) k H
  | [], i, acc, H, k, _, hk => by simpa [loadCellsFrom, SW_pure'] using hk
  | v :: vs, i, acc, H, k, h, hk => by
    simp only [List.length_cons, loadCellsFrom, SW_bind]
    refine ⟨v, h.1, ?_⟩
    exact SW_loadCellsFrom h.2 (by simpa using hk)
theorem SW_firstCells {P : Program} {size n : Nat} {a : Option Addr} {len cap : Nat} {vs : List Value} {H : Heap} {k : Array Value → Heap → Prop} (h : rdL H a vs) (hl : a.isSome = true → vs.length = n * size)
    (hk : k ⟨vs⟩ H) : SW P (Builtin.firstCells size n (.slice a len cap)) k H := by
  cases a with
  | none => simp only [rdL] at h; subst h; exact hk
  | some a =>
    show SW P (loadCells a (n * size)) k H
    rw [← hl rfl]
    exact SW_loadCellsFrom h (by simpa using hk)
theorem SW_StL {P : Program} : ∀ {vs : List Value} {a : Addr} {i : Nat} {H : Heap} {k : Heap → Prop}, StL a i vs H k → SW P (storeCells a vs i) (fun _ => k) H
  | [], _, _, _, _, h => h
  | v :: vs, a, i, H, k, h => by
    simp only [storeCells, SW_bind, SW_store' h.1]
    exact ⟨h.2.1, h.2.2.1, SW_StL h.2.2.2⟩

theorem App.sound {P : Program} {t u e ty : TypeId} {i : TypeInfo} {z : Value} {d : TypeDesc} {s x : Sl} {H : Heap} {k : Sl → Heap → Prop}
    (ht : P.underlying t = some (.slice e)) (hu : P.underlying u = some d) (hd : ∀ kk, d ≠ .int kk) (hi : P.info? e = some i) (hz : i.zero = some z)
    (h : App e i.size i.bytes z.cells s x H k) :
    SW P (Builtin.append_ #[t, u] ty #[.slice s.a s.len s.cap, .slice x.a x.len x.cap]) (fun v H' => ∃ s : Sl, v = .slice s.a s.len s.cap ∧ k s H') H := by
  obtain ⟨new, hnew, hlen, hfit, hgrow⟩ := h
  have hm : (match d with | .int _ => true | _ => false) = false := by cases d <;> first | rfl | exact absurd rfl (hd _)
  unfold Builtin.append_
  simp only [List.getElem?_toArray, List.getElem?_cons_zero, List.getElem?_cons_succ, SW_bind, SW_underlying ht, SW_sizeOf hi, SW_underlying hu, SW_pure', hm, Bool.false_eq_true, if_false, Builtin.lenOf]
  by_cases hc : s.len + x.len ≤ s.cap
  · simp only [SW_ite, hc, if_true, SW_bind]
    refine SW_firstCells hnew hlen ?_
    have hfit := hfit hc
    cases hs : s.a with
    | none =>
      rw [hs] at hfit
      simp only [SW_pure', SW_bind]
      exact ⟨⟨none, _, _⟩, rfl, hfit⟩
    | some b =>
      rw [hs] at hfit
      simp only [SW_bind, SW_pure']
      exact SW_mono (fun _ H' hk => ⟨⟨some b, _, _⟩, rfl, hk⟩) (SW_StL hfit)
  · obtain ⟨hb, hcap, old, hold, holen, hk⟩ := hgrow (by omega)
    have hc1 : ¬ (2 ^ 48 < Builtin.nextslicecap (s.len + x.len) s.cap * i.bytes) := by omega
    simp only [SW_ite, hc, if_false, SW_bind, SW_typeInfo hi, Bool.false_eq_true, hb, or_self, and_false, gt_iff_lt, hc1, SW_pure', false_or]
    intro c hp
    have hge : s.len + x.len ≤ c := by
      simp only [Poss, Question.forced, Bool.false_eq_true, if_false, Question.cut] at hp
      obtain ⟨t, rfl⟩ := hp; omega
    simp only [SW_pure', SW_askRoom]
    refine SW_firstCells hold holen ?_
    refine SW_firstCells hnew hlen ?_
    simp only [SW_zeroValue hi hz, SW_newRow]
    refine ⟨⟨some ⟨H.size, 0, none⟩, _, _⟩, rfl, ?_⟩
    have := hk c hge
    unfold Builtin.zeroCells
    exact this

theorem AppStr.sound {P : Program} {t u e ty : TypeId} {i : TypeInfo} {z : Value} {s : Sl} {x : ByteArray} {H : Heap} {k : Sl → Heap → Prop}
    (ht : P.underlying t = some (.slice e)) (hu : P.underlying u = some .string) (hi : P.info? e = some i) (hz : i.zero = some z) (hsz : i.size = 1)
    (h : AppStr e i.bytes z.cells s x H k) :
    SW P (Builtin.append_ #[t, u] ty #[.slice s.a s.len s.cap, .string x]) (fun v H' => ∃ s : Sl, v = .slice s.a s.len s.cap ∧ k s H') H := by
  obtain ⟨hfit, hgrow⟩ := h
  have hex : x.extract 0 x.size = x := by
    simp
  unfold Builtin.append_
  simp only [List.getElem?_toArray, List.getElem?_cons_zero, List.getElem?_cons_succ, SW_bind, SW_underlying ht, SW_sizeOf hi, SW_underlying hu, SW_pure', Bool.false_eq_true, if_false, Builtin.lenOf, hsz, Nat.mul_one]
  by_cases hc : s.len + x.size ≤ s.cap
  · simp only [SW_ite, hc, if_true, SW_bind]
    simp only [Builtin.firstCells, SW_pure', hex]
    have hfit := hfit hc
    cases hs : s.a with
    | none =>
      rw [hs] at hfit
      simp only [SW_pure', SW_bind]
      exact ⟨⟨none, _, _⟩, rfl, hfit⟩
    | some b =>
      rw [hs] at hfit
      simp only [SW_bind, SW_pure']
      exact SW_mono (fun _ H' hk => ⟨⟨some b, _, _⟩, rfl, hk⟩) (SW_StL hfit)
  · obtain ⟨hb, hcap, old, hold, holen, hk⟩ := hgrow (by omega)
    have hc1 : ¬ (2 ^ 48 < Builtin.nextslicecap (s.len + x.size) s.cap * i.bytes) := by omega
    simp only [SW_ite, hc, if_false, SW_bind, SW_typeInfo hi, Bool.false_eq_true, hb, or_self, and_false, gt_iff_lt, hc1, SW_pure', false_or]
    intro c hp
    have hge : s.len + x.size ≤ c := by
      simp only [Poss, Question.forced, Bool.false_eq_true, if_false, Question.cut] at hp
      obtain ⟨t, rfl⟩ := hp; omega
    simp only [SW_pure', SW_askRoom]
    refine SW_firstCells hold (by rw [Nat.mul_one]; exact holen) ?_
    simp only [Builtin.firstCells, SW_pure', hex, SW_zeroValue hi hz, SW_newRow]
    refine ⟨⟨some ⟨H.size, 0, none⟩, _, _⟩, rfl, ?_⟩
    have := hk c hge
    unfold Builtin.zeroCells
    exact this

theorem Cpy.sound {P : Program} {t u e ty : TypeId} {i : TypeInfo} {d s : Sl} {H : Heap} {k : Int → Heap → Prop}
    (ht : P.underlying t = some (.slice e)) (hi : P.info? e = some i) (h : Cpy i.size d s H k) :
    SW P (Builtin.copy_ #[t, u] ty #[.slice d.a d.len d.cap, .slice s.a s.len s.cap]) (fun v H' => ∃ n : Int, v = .int .i64 n ∧ k n H') H := by
  obtain ⟨vs, hvs, hlen, hd⟩ := h
  unfold Builtin.copy_
  simp only [List.getElem?_toArray, List.getElem?_cons_zero, List.getElem?_cons_succ, SW_bind, SW_underlying ht, SW_sizeOf hi, SW_pure', Builtin.lenOf]
  refine SW_firstCells hvs hlen ?_
  cases hs : d.a with
  | none =>
    rw [hs] at hd
    simp only [SW_pure', SW_bind]
    exact ⟨_, rfl, hd⟩
  | some b =>
    rw [hs] at hd
    simp only [SW_bind, SW_pure']
    exact SW_mono (fun _ H' hk => ⟨_, rfl, hk⟩) (SW_StL hd)

theorem SW_bytesLoop {P : Program} {H : Heap} {k : ByteArray → Heap → Prop} : ∀ (bs : List UInt8) (acc : ByteArray), k ⟨acc.data ++ bs.toArray⟩ H →
    SW P (forIn (bs.map fun b => (Value.int .u8 b.toNat)) acc fun (c : Value) (s : ByteArray) => (match c with
      | .int .u8 n => (pure (ForInStep.yield (s.push (UInt8.ofNat n.toNat))) : Sem (ForInStep ByteArray))
      | _ => do
        stuck "bytesToString: byte expected"
        pure (ForInStep.yield s))) k H
  | [], acc, h => by simpa [SW_pure'] using h
  | b :: bs, acc, h => by
    simp only [List.map_cons, List.forIn_cons, SW_bind, SW_pure']
    refine SW_bytesLoop bs _ ?_
    have : (UInt8.ofNat (Int.toNat (b.toNat : Int))) = b := by simp
    rw [this]
    simpa [ByteArray.push] using h
theorem B2S.sound {P : Program} {s : Sl} {H : Heap} {k : ByteArray → Prop} (h : B2S s H k) :
    SW P (Conv.bytesToString (.slice s.a s.len s.cap)) (fun v H' => H' = H ∧ ∃ b : ByteArray, v = .string b ∧ k b) H := by
  obtain ⟨bs, hbs, hlen, hk⟩ := h
  unfold Conv.bytesToString
  cases hs : s.a with
  | none =>
    rw [hs] at hbs
    simp only [rdL, List.map_eq_nil_iff] at hbs
    subst hbs
    exact ⟨rfl, _, rfl, hk⟩
  | some a =>
    rw [hs] at hbs
    simp only [SW_bind]
    rw [← hlen (by rw [hs]; rfl)]
    rw [show bs.length = (bs.map fun b => (Value.int .u8 b.toNat)).length by simp]
    refine SW_loadCellsFrom hbs ?_
    simp only [Array.empty_append, List.forIn_toArray, SW_bind]
    refine SW_bytesLoop bs _ ?_
    simp only [SW_pure']
    refine ⟨trivial, _, rfl, ?_⟩
    have : (ByteArray.empty.data ++ bs.toArray) = ⟨bs⟩ := by simp [ByteArray.empty, ByteArray.emptyWithCapacity]; rfl
    rw [this]; exact hk
theorem S2B.sound {P : Program} {e : TypeId} {s : ByteArray} {H : Heap} {k : Sl → Heap → Prop} (h : S2B e s H k) :
    SW P (Conv.stringToBytes e s) (fun v H' => ∃ s : Sl, v = .slice s.a s.len s.cap ∧ k s H') H := by
  unfold Conv.stringToBytes
  simp only [SW_bind]
  intro c hp
  have hge : s.size ≤ c := by
    simp only [Poss, Question.forced, Bool.false_eq_true, if_false, Question.cut] at hp
    obtain ⟨t, rfl⟩ := hp; omega
  simp only [SW_newRow, SW_bind]
  have hk := h c hge
  have hsz : (Array.map (fun b : UInt8 => Value.int IntKind.u8 (b.toNat : Int)) s.data ++ Array.replicate (c - s.size) (Value.int IntKind.u8 0)).size = c := by
    have : s.data.size = s.size := rfl
    simp [this]; omega
  have hsh : hshape (H.push (.cells (Array.map (fun b : UInt8 => Value.int IntKind.u8 (b.toNat : Int)) s.data ++ Array.replicate (c - s.size) (Value.int IntKind.u8 0)) e)) H.size = some (e, c) := by
    simp only [hshape, Array.getElem?_push_size, hsz]
  unfold markStringish
  simp only [SW_bind, shape, SW, SW_pure', hsh]
  show SW P (freeze ⟨H.size, c, none⟩ 1) _ _
  simp only [freeze, SW]
  refine ⟨⟨some ⟨H.size, 0, none⟩, s.size, c⟩, rfl, ?_⟩
  have hf : hfreeze (H.push (.cells (Array.map (fun b : UInt8 => Value.int IntKind.u8 (b.toNat : Int)) s.data ++ Array.replicate (c - s.size) (Value.int IntKind.u8 0)) e)) ⟨H.size, c, none⟩ 1 =
      H.push (.cells (bytesV s ++ Array.replicate (c - s.size) (.int .u8 0)) e (c, c + 1)) := by
    unfold hfreeze
    simp only [Nat.succ_ne_zero, if_false]
    apply Array.ext_getElem?
    intro j
    simp only [Array.getElem?_modify, Array.getElem?_push]
    by_cases hj : j = H.size
    · subst hj; simp [bytesV]
    · rw [if_neg (fun e => hj e.symm), if_neg hj, if_neg hj]
  rw [hf]; exact hk
theorem Clr.sound {P : Program} {t e : TypeId} {i : TypeInfo} {z : Value} {a : Option Addr} {len cap : Nat} {ty : TypeId} {H : Heap} {k : Heap → Prop}
    (ht : P.underlying t = some (.slice e)) (hi : P.info? e = some i) (hz : i.zero = some z) (h : Clr z.cells ⟨a, len, cap⟩ H k) :
    SW P (Builtin.clear_ #[t] ty #[.slice a len cap]) (fun v H' => v = .tuple #[] ∧ k H') H := by
  unfold Builtin.clear_
  simp only [List.getElem?_toArray, List.getElem?_cons_zero, SW_bind, SW_underlying ht]
  unfold Clr at h
  cases a with
  | none => exact ⟨rfl, h⟩
  | some b =>
    cases len with
    | zero =>
      dsimp only at h
      rw [Nat.zero_mul, show (zcells z.cells 0).toList = [] by simp [zcells]] at h
      exact ⟨rfl, h⟩
    | succ n =>
      dsimp only at h
      simp only [SW_zeroValue hi hz, SW_bind]
      exact SW_mono (fun _ H' hk => ⟨rfl, hk⟩) (SW_StL h)
end Go.Proofs.Ytpkpebgpiakbeaa.Hc
