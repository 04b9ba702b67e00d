/-
  New memory, append, copy, conversions, calls; and the condition of any operation.
-/
import Derived.Test.YtlkmmplgfjicjaaDoorHcAct
namespace Go.Proofs.YtlkmmplgfjicjaaDoor.Hc
set_option linter.unusedVariables false
set_option linter.unusedSimpArgs false

/-! ### words -/
/-- n elements' worth of zero cells. -/
def zcells (z : Array Value) (n : Nat) : Array Value := (Array.range n).map (z[· % z.size]!)
def Mks (e : TypeId) (size bytes : Nat) (z : Array Value) (len cap : Int) (H : Heap) (k : Sl → Heap → Prop) : Prop :=
  0 ≤ IntKind.i64.wrap len ∧ IntKind.i64.wrap len ≤ IntKind.i64.wrap cap ∧ (bytes : Int) * IntKind.i64.wrap cap ≤ 2 ^ 48 ∧
  k ⟨some ⟨H.size, 0, none⟩, (IntKind.i64.wrap len).toNat, (IntKind.i64.wrap cap).toNat⟩ (H.push (.cells (zcells z ((IntKind.i64.wrap cap).toNat * size)) e))
/-- The first cells behind an address (or none) read as these. -/
def rdL (H : Heap) (a : Option Addr) (vs : List Value) : Prop :=
  match a with
  | some a => hcells H a 0 vs
  | none => vs = []
def App (e : TypeId) (size bytes : Nat) (z : Array Value) (s x : Sl) (H : Heap) (k : Sl → Heap → Prop) : Prop :=
  ∃ new : List Value, rdL H x.a new ∧ (x.a.isSome = true → new.length = x.len * size) ∧
    (s.len + x.len ≤ s.cap → match s.a with
      | some a => StL (a.add (s.len * size)) 0 new H (k ⟨some a, s.len + x.len, s.cap⟩)
      | none => k ⟨none, s.len + x.len, s.cap⟩ H) ∧
    (s.cap < s.len + x.len → bytes ≠ 0 ∧ Builtin.nextslicecap (s.len + x.len) s.cap * bytes ≤ 2 ^ 48 ∧
      ∃ old : List Value, rdL H s.a old ∧ (s.a.isSome = true → old.length = s.len * size) ∧
        ∀ c, s.len + x.len ≤ c → k ⟨some ⟨H.size, 0, none⟩, s.len + x.len, c⟩ (H.push (.cells (⟨old⟩ ++ ⟨new⟩ ++ zcells z ((c - (s.len + x.len)) * z.size)) e)))
def bytesV (s : ByteArray) : Array Value := s.data.map fun b => .int .u8 b.toNat
def AppStr (e : TypeId) (bytes : Nat) (z : Array Value) (s : Sl) (x : ByteArray) (H : Heap) (k : Sl → Heap → Prop) : Prop :=
    (s.len + x.size ≤ s.cap → match s.a with
      | some a => StL (a.add s.len) 0 (bytesV x).toList H (k ⟨some a, s.len + x.size, s.cap⟩)
      | none => k ⟨none, s.len + x.size, s.cap⟩ H) ∧
    (s.cap < s.len + x.size → bytes ≠ 0 ∧ Builtin.nextslicecap (s.len + x.size) s.cap * bytes ≤ 2 ^ 48 ∧
      ∃ old : List Value, rdL H s.a old ∧ (s.a.isSome = true → old.length = s.len) ∧
        ∀ c, s.len + x.size ≤ c → k ⟨some ⟨H.size, 0, none⟩, s.len + x.size, c⟩ (H.push (.cells (⟨old⟩ ++ bytesV x ++ zcells z ((c - (s.len + x.size)) * z.size)) e)))
def Cpy (size : Nat) (d s : Sl) (H : Heap) (k : Int → Heap → Prop) : Prop :=
  ∃ vs : List Value, rdL H s.a vs ∧ (s.a.isSome = true → vs.length = Nat.min s.len d.len * size) ∧
    (match d.a with
      | some a => StL a 0 vs H (k (Nat.min s.len d.len))
      | none => k (Nat.min s.len d.len) H)
def B2S (s : Sl) (H : Heap) (k : ByteArray → Prop) : Prop :=
  ∃ bs : List UInt8, rdL H s.a (bs.map fun b => .int .u8 b.toNat) ∧ (s.a.isSome = true → bs.length = s.len) ∧ k ⟨⟨bs⟩⟩
def S2B (e : TypeId) (s : ByteArray) (H : Heap) (k : Sl → Heap → Prop) : Prop :=
  ∀ c, s.size ≤ c → k ⟨some ⟨H.size, 0, none⟩, s.size, c⟩ (H.push (.cells (bytesV s ++ Array.replicate (c - s.size) (.int .u8 0)) e (c, c + 1)))

def Clr (z : Array Value) (s : Sl) (H : Heap) (k : Heap → Prop) : Prop :=
  match s.a with
  | some a => StL a 0 (zcells z (s.len * z.size)).toList H k
  | none => k H
/-- '[]byte("constant")': the cell behind the block's end is marked. -/
def Mrk (a : Addr) (H : Heap) (k : Heap → Prop) : Prop := ∃ e n, hshape H a.block = some (e, n) ∧ k (hfreeze H ⟨a.block, n, none⟩ 1)
/-- Function f can be called: it has a body. -/
def Cb (P : Program) (f : FuncId) : Prop := ∃ fn, P.funcs[f]? = some fn ∧ (fn.name == "runtime.NumGoroutine") = false ∧ fn.body.isNone = false
/-- Whatever the world over this heap: the call of function f comes back, with a result and a heap that meet k. -/
def CallV (P : Program) (f : FuncId) (args : Array Value) (H : Heap) (k : Value → Heap → Prop) : Prop :=
  ∀ w, w.heap = H → Calls P f args w fun e w' => SameEnv w w' ∧ ∃ v, e = .returned v ∧ k v w'.heap
def CallT (P : Program) (f : FuncId) (args : List Value) (r : RTy) (H : Heap) (k : r.den → Heap → Prop) : Prop :=
  Cb P f ∧ ∀ w, w.heap = H → Calls P f ⟨args⟩ w fun e w' => SameEnv w w' ∧ ∃ d, e = .returned (r.emb d) ∧ k d w'.heap

/-- A call of a function value. -/
def CallX (P : Program) (v : Value) (args : List Value) (r : RTy) (H : Heap) (k : r.den → Heap → Prop) : Prop :=
  ∃ g fi ca, v = .func (.func g) fi ca ∧ CallT P g (fi.toList ++ (args ++ ca.toList)) r H k
/-! maps whose keys are numbers, bools or strings -/
def keyD : TypeDesc → Bool
  | .int _ => true
  | .bool => true
  | .string => true
  | _ => false
/-- A map value's entries. -/
def MpE (H : Heap) (m : Value) (es : List MapEntry) : Prop := (m = .map none ∧ es = []) ∨ ∃ r cl, m = .map (some r) ∧ H[r]? = some (.map ⟨es⟩ cl)
def MkM (H : Heap) (k : Value → Heap → Prop) : Prop := k (.map (some H.size)) (H.push (.map #[] 0))
def MpL (kd : TypeDesc) (a : ATy) (z : a.den) (m key : Value) (H : Heap) (k : a.den → Bool → Prop) : Prop :=
  ∃ es, MpE H m es ∧ ((∃ i d, Instr.findNow kd key es 0 = some (some (i, a.emb d)) ∧ k d true) ∨ (Instr.findNow kd key es 0 = some none ∧ k z false))
def MpU (kd : TypeDesc) (m key val : Value) (H : Heap) (k : Heap → Prop) : Prop :=
  ∃ r es cl, m = .map (some r) ∧ H[r]? = some (.map ⟨es⟩ cl) ∧
    ((∃ i x, Instr.findNow kd key es 0 = some (some (i, x)) ∧ Instr.sameBits 10000 (((es[i]?).map (·.key)).getD key) key = true ∧ k (H.setIfInBounds r (.map ((⟨es⟩ : Array MapEntry).modify i fun e => { e with key := key, val := val }) cl))) ∨
     (Instr.findNow kd key es 0 = some none ∧ k (H.setIfInBounds r (.map ((⟨es⟩ : Array MapEntry).push { key := key, val := val, born := cl }) (cl + 1)))))
def MpN (m : Value) (H : Heap) (k : Int → Prop) : Prop := ∃ es, MpE H m es ∧ k es.length
/-- An iteration over a map begins. -/
def MpR (m : Value) (H : Heap) (k : Addr → Heap → Prop) : Prop :=
  (m = .map none ∧ k ⟨H.size, 0, none⟩ (H.push (.mapIter none 0 #[] 0))) ∨
  ∃ r es cl, m = .map (some r) ∧ H[r]? = some (.map es cl) ∧ k ⟨H.size, 0, none⟩ (H.push (.mapIter (some r) cl #[] cl))
/-- One step of it: over, or an entry that was there from the first, and has not been seen; the map is as it was. -/
def MpX (it : Addr) (H : Heap) (k : Option (Value × Value) → Heap → Prop) : Prop :=
  it.off = 0 ∧ ((∃ s se la, H[it.block]? = some (.mapIter none s se la) ∧ k none H) ∨
  ∃ r es cl se, H[it.block]? = some (.mapIter (some r) cl se cl) ∧ H[r]? = some (.map ⟨es⟩ cl) ∧ (∀ e ∈ es, e.born < cl) ∧
    ((∀ e ∈ es, se.contains e.born = true) → k none H) ∧
    ∀ e ∈ es, se.contains e.born = false → k (some (e.key, e.val)) (H.setIfInBounds it.block (.mapIter (some r) cl (se.push e.born) cl)))

/-! ### each from its word -/
theorem SW_underlying {P : Program} {t : TypeId} {d : TypeDesc} (h : P.underlying t = some d) (k : TypeDesc → Heap → Prop) (H : Heap) : SW P (underlying t) k H = k d H := by
  unfold underlying program; simp only [SW_bind, SW, h]; rfl
theorem SW_typeInfo {P : Program} {t : TypeId} {i : TypeInfo} (h : P.info? t = some i) (k : TypeInfo → Heap → Prop) (H : Heap) : SW P (typeInfo t) k H = k i H := by
  unfold typeInfo program; simp only [SW_bind, SW, h]; rfl
theorem SW_zeroValue {P : Program} {t : TypeId} {i : TypeInfo} {z : Value} (h : P.info? t = some i) (hz : i.zero = some z) (k : Value → Heap → Prop) (H : Heap) : SW P (zeroValue t) k H = k z H := by
  unfold zeroValue; simp only [SW_bind, SW_typeInfo h, hz]; rfl
theorem SW_newRow {P : Program} (e : TypeId) (cells : Array Value) (k : Addr → Heap → Prop) (H : Heap) : SW P (newRow e cells) k H = k ⟨H.size, 0, none⟩ (H.push (.cells cells e)) := by
  unfold newRow newObj; simp only [SW_bind, SW]; rfl
theorem SW_askRoom {P : Program} (n : Nat) (k : Unit → Heap → Prop) (H : Heap) : SW P (askRoom n) k H = k () H := by
  unfold askRoom; split <;> rfl
theorem SW_ite {α : Type} {P : Program} (c : Prop) [Decidable c] (x y : Sem α) (k : α → Heap → Prop) (H : Heap) :
    SW P (if c then x else y) k H = if c then SW P x k H else SW P y k H := by split <;> rfl
theorem SW_pure' {α : Type} {P : Program} (a : α) (k : α → Heap → Prop) (H : Heap) : SW P (Pure.pure a) k H = k a H := rfl

theorem Mks.sound {P : Program} {t e : TypeId} {i : TypeInfo} {z : Value} {kl kc : IntKind} {len cap : Int} {H : Heap} {k : Sl → Heap → Prop}
    (ht : P.underlying t = some (.slice e)) (hi : P.info? e = some i) (hz : i.zero = some z)
    (h : Mks e i.size i.bytes z.cells len cap H k) : SW P (Instr.makeSlice t (.int kl len) (.int kc cap)) (fun v H' => ∃ s : Sl, v = .slice s.a s.len s.cap ∧ k s H') H := by
  obtain ⟨h0, h1, h2, hk⟩ := h
  unfold Instr.makeSlice
  simp only [SW_bind, SW_underlying ht, SW_typeInfo hi, SW_ite, asInt, asIntOf, SW_pure']
  have c0 : ¬ (IntKind.i64.wrap cap < 0) := by omega
  have c1 : ¬ (2 ^ 48 < (i.bytes : Int) * IntKind.i64.wrap cap) := by omega
  have c2 : ¬ (IntKind.i64.wrap len < 0) := by omega
  have c3 : ¬ (IntKind.i64.wrap cap < IntKind.i64.wrap len) := by omega
  simp only [c0, c1, c2, c3, gt_iff_lt, decide_false, Bool.or_self, Bool.false_eq_true, if_false, SW_pure', SW_askRoom, SW_sizeOf hi]
  split
  · rename_i hn
    simp only [SW_pure', SW_newRow]
    refine ⟨⟨some ⟨H.size, 0, none⟩, _, _⟩, rfl, ?_⟩
    have e1 : (Array.range ((IntKind.i64.wrap cap).toNat * i.size)).map (fun x => (#[] : Array Value)[x % (#[] : Array Value).size]!) = zcells z.cells ((IntKind.i64.wrap cap).toNat * i.size) := by
      rw [hn]; simp [zcells]
    rw [e1]; exact hk
  · simp only [SW_zeroValue hi hz, SW_pure', SW_newRow, SW_bind]
    exact ⟨⟨some ⟨H.size, 0, none⟩, _, _⟩, rfl, hk⟩

theorem SW_loadCellsFrom {P : Program} {a : Addr} : ∀ {vs : List Value} {i : Nat} {acc : Array Value} {H : Heap} {k : Array Value → Heap → Prop}, hcells H a i vs →
    k (acc ++ vs.toArray) H → SW P (loadCellsFrom a i vs.length acc) k H
  | [], i, acc, H, k, _, hk => by simpa [loadCellsFrom, SW_pure'] using hk
  | v :: vs, i, acc, H, k, h, hk => by
    simp only [List.length_cons, loadCellsFrom, SW_bind]
    refine ⟨v, h.1, ?_⟩
    exact SW_loadCellsFrom h.2 (by simpa using hk)
theorem SW_firstCells {P : Program} {size n : Nat} {a : Option Addr} {len cap : Nat} {vs : List Value} {H : Heap} {k : Array Value → Heap → Prop} (h : rdL H a vs) (hl : a.isSome = true → vs.length = n * size)
    (hk : k ⟨vs⟩ H) : SW P (Builtin.firstCells size n (.slice a len cap)) k H := by
  cases a with
  | none => simp only [rdL] at h; subst h; exact hk
  | some a =>
    show SW P (loadCells a (n * size)) k H
    rw [← hl rfl]
    exact SW_loadCellsFrom h (by simpa using hk)
theorem App.sound {P : Program} {t u e ty : TypeId} {i : TypeInfo} {z : Value} {d : TypeDesc} {s x : Sl} {H : Heap} {k : Sl → Heap → Prop}
    (ht : P.underlying t = some (.slice e)) (hu : P.underlying u = some d) (hd : ∀ kk, d ≠ .int kk) (hi : P.info? e = some i) (hz : i.zero = some z)
    (h : App e i.size i.bytes z.cells s x H k) :
    SW P (Builtin.append_ #[t, u] ty #[.slice s.a s.len s.cap, .slice x.a x.len x.cap]) (fun v H' => ∃ s : Sl, v = .slice s.a s.len s.cap ∧ k s H') H := by
  obtain ⟨new, hnew, hlen, hfit, hgrow⟩ := h
  have hm : (match d with | .int _ => true | _ => false) = false := by cases d <;> first | rfl | exact absurd rfl (hd _)
  unfold Builtin.append_
  simp only [List.getElem?_toArray, List.getElem?_cons_zero, List.getElem?_cons_succ, SW_bind, SW_underlying ht, SW_sizeOf hi, SW_underlying hu, SW_pure', hm, Bool.false_eq_true, if_false, Builtin.lenOf]
  by_cases hc : s.len + x.len ≤ s.cap
  · simp only [SW_ite, hc, if_true, SW_bind]
    refine SW_firstCells hnew hlen ?_
    have hfit := hfit hc
    cases hs : s.a with
    | none =>
      rw [hs] at hfit
      simp only [SW_pure', SW_bind]
      exact ⟨⟨none, _, _⟩, rfl, hfit⟩
    | some b =>
      rw [hs] at hfit
      simp only [SW_bind, SW_pure']
      exact SW_mono (fun _ H' hk => ⟨⟨some b, _, _⟩, rfl, hk⟩) (SW_StL hfit)
  · obtain ⟨hb, hcap, old, hold, holen, hk⟩ := hgrow (by omega)
    have hc1 : ¬ (2 ^ 48 < Builtin.nextslicecap (s.len + x.len) s.cap * i.bytes) := by omega
    simp only [SW_ite, hc, if_false, SW_bind, SW_typeInfo hi, Bool.false_eq_true, hb, or_self, and_false, gt_iff_lt, hc1, SW_pure', false_or]
    intro c hp
    have hge : s.len + x.len ≤ c := by
      simp only [Poss, Question.forced, Bool.false_eq_true, if_false, Question.cut] at hp
      obtain ⟨t, rfl⟩ := hp; omega
    simp only [SW_pure', SW_askRoom]
    refine SW_firstCells hold holen ?_
    refine SW_firstCells hnew hlen ?_
    simp only [SW_zeroValue hi hz, SW_newRow]
    refine ⟨⟨some ⟨H.size, 0, none⟩, _, _⟩, rfl, ?_⟩
    have := hk c hge
    unfold Builtin.zeroCells
    exact this

theorem AppStr.sound {P : Program} {t u e ty : TypeId} {i : TypeInfo} {z : Value} {s : Sl} {x : ByteArray} {H : Heap} {k : Sl → Heap → Prop}
    (ht : P.underlying t = some (.slice e)) (hu : P.underlying u = some .string) (hi : P.info? e = some i) (hz : i.zero = some z) (hsz : i.size = 1)
    (h : AppStr e i.bytes z.cells s x H k) :
    SW P (Builtin.append_ #[t, u] ty #[.slice s.a s.len s.cap, .string x]) (fun v H' => ∃ s : Sl, v = .slice s.a s.len s.cap ∧ k s H') H := by
  obtain ⟨hfit, hgrow⟩ := h
  have hex : x.extract 0 x.size = x := by
    simp
  unfold Builtin.append_
  simp only [List.getElem?_toArray, List.getElem?_cons_zero, List.getElem?_cons_succ, SW_bind, SW_underlying ht, SW_sizeOf hi, SW_underlying hu, SW_pure', Bool.false_eq_true, if_false, Builtin.lenOf, hsz, Nat.mul_one]
  by_cases hc : s.len + x.size ≤ s.cap
  · simp only [SW_ite, hc, if_true, SW_bind]
    simp only [Builtin.firstCells, SW_pure', hex]
    have hfit := hfit hc
    cases hs : s.a with
    | none =>
      rw [hs] at hfit
      simp only [SW_pure', SW_bind]
      exact ⟨⟨none, _, _⟩, rfl, hfit⟩
    | some b =>
      rw [hs] at hfit
      simp only [SW_bind, SW_pure']
      exact SW_mono (fun _ H' hk => ⟨⟨some b, _, _⟩, rfl, hk⟩) (SW_StL hfit)
  · obtain ⟨hb, hcap, old, hold, holen, hk⟩ := hgrow (by omega)
    have hc1 : ¬ (2 ^ 48 < Builtin.nextslicecap (s.len + x.size) s.cap * i.bytes) := by omega
    simp only [SW_ite, hc, if_false, SW_bind, SW_typeInfo hi, Bool.false_eq_true, hb, or_self, and_false, gt_iff_lt, hc1, SW_pure', false_or]
    intro c hp
    have hge : s.len + x.size ≤ c := by
      simp only [Poss, Question.forced, Bool.false_eq_true, if_false, Question.cut] at hp
      obtain ⟨t, rfl⟩ := hp; omega
    simp only [SW_pure', SW_askRoom]
    refine SW_firstCells hold (by rw [Nat.mul_one]; exact holen) ?_
    simp only [Builtin.firstCells, SW_pure', hex, SW_zeroValue hi hz, SW_newRow]
    refine ⟨⟨some ⟨H.size, 0, none⟩, _, _⟩, rfl, ?_⟩
    have := hk c hge
    unfold Builtin.zeroCells
    exact this

theorem Cpy.sound {P : Program} {t u e ty : TypeId} {i : TypeInfo} {d s : Sl} {H : Heap} {k : Int → Heap → Prop}
    (ht : P.underlying t = some (.slice e)) (hi : P.info? e = some i) (h : Cpy i.size d s H k) :
    SW P (Builtin.copy_ #[t, u] ty #[.slice d.a d.len d.cap, .slice s.a s.len s.cap]) (fun v H' => ∃ n : Int, v = .int .i64 n ∧ k n H') H := by
  obtain ⟨vs, hvs, hlen, hd⟩ := h
  unfold Builtin.copy_
  simp only [List.getElem?_toArray, List.getElem?_cons_zero, List.getElem?_cons_succ, SW_bind, SW_underlying ht, SW_sizeOf hi, SW_pure', Builtin.lenOf]
  refine SW_firstCells hvs hlen ?_
  cases hs : d.a with
  | none =>
    rw [hs] at hd
    simp only [SW_pure', SW_bind]
    exact ⟨_, rfl, hd⟩
  | some b =>
    rw [hs] at hd
    simp only [SW_bind, SW_pure']
    exact SW_mono (fun _ H' hk => ⟨_, rfl, hk⟩) (SW_StL hd)

theorem SW_bytesLoop {P : Program} {H : Heap} {k : ByteArray → Heap → Prop} : ∀ (bs : List UInt8) (acc : ByteArray), k ⟨acc.data ++ bs.toArray⟩ H →
    SW P (forIn (bs.map fun b => (Value.int .u8 b.toNat)) acc fun (c : Value) (s : ByteArray) => (match c with
      | .int .u8 n => (pure (ForInStep.yield (s.push (UInt8.ofNat n.toNat))) : Sem (ForInStep ByteArray))
      | _ => do
        stuck "bytesToString: byte expected"
        pure (ForInStep.yield s))) k H
  | [], acc, h => by simpa [SW_pure'] using h
  | b :: bs, acc, h => by
    simp only [List.map_cons, List.forIn_cons, SW_bind, SW_pure']
    refine SW_bytesLoop bs _ ?_
    have : (UInt8.ofNat (Int.toNat (b.toNat : Int))) = b := by simp
    rw [this]
    simpa [ByteArray.push] using h
theorem B2S.sound {P : Program} {s : Sl} {H : Heap} {k : ByteArray → Prop} (h : B2S s H k) :
    SW P (Conv.bytesToString (.slice s.a s.len s.cap)) (fun v H' => H' = H ∧ ∃ b : ByteArray, v = .string b ∧ k b) H := by
  obtain ⟨bs, hbs, hlen, hk⟩ := h
  unfold Conv.bytesToString
  cases hs : s.a with
  | none =>
    rw [hs] at hbs
    simp only [rdL, List.map_eq_nil_iff] at hbs
    subst hbs
    exact ⟨rfl, _, rfl, hk⟩
  | some a =>
    rw [hs] at hbs
    simp only [SW_bind]
    rw [← hlen (by rw [hs]; rfl)]
    rw [show bs.length = (bs.map fun b => (Value.int .u8 b.toNat)).length by simp]
    refine SW_loadCellsFrom hbs ?_
    simp only [Array.empty_append, List.forIn_toArray, SW_bind]
    refine SW_bytesLoop bs _ ?_
    simp only [SW_pure']
    refine ⟨trivial, _, rfl, ?_⟩
    have : (ByteArray.empty.data ++ bs.toArray) = ⟨bs⟩ := by simp [ByteArray.empty, ByteArray.emptyWithCapacity]; rfl
    rw [this]; exact hk
theorem S2B.sound {P : Program} {e : TypeId} {s : ByteArray} {H : Heap} {k : Sl → Heap → Prop} (h : S2B e s H k) :
    SW P (Conv.stringToBytes e s) (fun v H' => ∃ s : Sl, v = .slice s.a s.len s.cap ∧ k s H') H := by
  unfold Conv.stringToBytes
  simp only [SW_bind]
  intro c hp
  have hge : s.size ≤ c := by
    simp only [Poss, Question.forced, Bool.false_eq_true, if_false, Question.cut] at hp
    obtain ⟨t, rfl⟩ := hp; omega
  simp only [SW_newRow, SW_bind]
  have hk := h c hge
  have hsz : (Array.map (fun b : UInt8 => Value.int IntKind.u8 (b.toNat : Int)) s.data ++ Array.replicate (c - s.size) (Value.int IntKind.u8 0)).size = c := by
    have : s.data.size = s.size := rfl
    simp [this]; omega
  have hsh : hshape (H.push (.cells (Array.map (fun b : UInt8 => Value.int IntKind.u8 (b.toNat : Int)) s.data ++ Array.replicate (c - s.size) (Value.int IntKind.u8 0)) e)) H.size = some (e, c) := by
    simp only [hshape, Array.getElem?_push_size, hsz]
  unfold markStringish
  simp only [SW_bind, shape, SW, SW_pure', hsh]
  show SW P (freeze ⟨H.size, c, none⟩ 1) _ _
  simp only [freeze, SW]
  refine ⟨⟨some ⟨H.size, 0, none⟩, s.size, c⟩, rfl, ?_⟩
  have hf : hfreeze (H.push (.cells (Array.map (fun b : UInt8 => Value.int IntKind.u8 (b.toNat : Int)) s.data ++ Array.replicate (c - s.size) (Value.int IntKind.u8 0)) e)) ⟨H.size, c, none⟩ 1 =
      H.push (.cells (bytesV s ++ Array.replicate (c - s.size) (.int .u8 0)) e (c, c + 1)) := by
    unfold hfreeze
    simp only [Nat.succ_ne_zero, if_false]
    apply Array.ext_getElem?
    intro j
    simp only [Array.getElem?_modify, Array.getElem?_push]
    by_cases hj : j = H.size
    · subst hj; simp [bytesV]
    · rw [if_neg (fun e => hj e.symm), if_neg hj, if_neg hj]
  rw [hf]; exact hk
theorem Clr.sound {P : Program} {t e : TypeId} {i : TypeInfo} {z : Value} {a : Option Addr} {len cap : Nat} {ty : TypeId} {H : Heap} {k : Heap → Prop}
    (ht : P.underlying t = some (.slice e)) (hi : P.info? e = some i) (hz : i.zero = some z) (h : Clr z.cells ⟨a, len, cap⟩ H k) :
    SW P (Builtin.clear_ #[t] ty #[.slice a len cap]) (fun v H' => v = .tuple #[] ∧ k H') H := by
  unfold Builtin.clear_
  simp only [List.getElem?_toArray, List.getElem?_cons_zero, SW_bind, SW_underlying ht]
  unfold Clr at h
  cases a with
  | none => exact ⟨rfl, h⟩
  | some b =>
    cases len with
    | zero =>
      dsimp only at h
      rw [Nat.zero_mul, show (zcells z.cells 0).toList = [] by simp [zcells]] at h
      exact ⟨rfl, h⟩
    | succ n =>
      dsimp only at h
      simp only [SW_zeroValue hi hz, SW_bind]
      exact SW_mono (fun _ H' hk => ⟨rfl, hk⟩) (SW_StL h)
theorem SW_checkKey {P : Program} {t : TypeId} {d : TypeDesc} (ht : P.underlying t = some d) (hd : keyD d = true) (e : Bool) (v : Value) (k : Unit → Heap → Prop) (H : Heap) : SW P (Instr.checkKey e 10000 t v) k H = k () H := by
  show SW P (Instr.checkKey e (9999 + 1) t v) k H = _
  unfold Instr.checkKey
  simp only [SW_bind, SW_underlying ht]
  cases d <;> simp only [keyD, Bool.false_eq_true] at hd <;> rfl
theorem SW_findKey {P : Program} {t : TypeId} {d : TypeDesc} (ht : P.underlying t = some d) {key : Value} {es : List MapEntry} {r : Option (Nat × Value)} (hr : Instr.findNow d key es 0 = some r) (k : Option (Nat × Value) → Heap → Prop) (H : Heap) :
    SW P (Instr.findKey t key es) k H = k r H := by
  unfold Instr.findKey
  simp only [SW_bind, SW_underlying ht, hr, SW_pure']
theorem SW_getMap {P : Program} {r : Nat} {H : Heap} {es : Array MapEntry} {cl : Nat} (h : H[r]? = some (.map es cl)) (k : Obj → Heap → Prop) : k (.map es cl) H → SW P (getObj r) k H := by
  intro hk
  exact ⟨_, h, (by intro c e fr h'; cases h'), hk⟩
theorem MpL.sound {P : Program} {t kt et : TypeId} {d : TypeDesc} {i : TypeInfo} {z : Value} {a : ATy} {zd : a.den} {m key : Value} {H : Heap} {k : a.den → Bool → Prop} {ok : Bool}
    (ht : P.underlying t = some (.map kt et)) (hk : P.underlying kt = some d) (hd : keyD d = true) (hi : P.info? et = some i) (hz : i.zero = some z) (hzd : a.un z = some zd) (h : MpL d a zd m key H k) :
    SW P (Instr.lookup t m key ok) (fun v H' => H' = H ∧ ∃ x b, v = (if ok then .tuple #[a.emb x, .bool b] else a.emb x) ∧ k x b) H := by
  obtain ⟨es, hes, hfind⟩ := h
  unfold Instr.lookup
  simp only [SW_bind, SW_underlying ht]
  rcases hes with ⟨rfl, rfl⟩ | ⟨r, cl, rfl, hr⟩
  · simp only [SW_bind, SW_pure', SW_checkKey hk hd]
    rcases hfind with ⟨j, x, hf, hx⟩ | ⟨hf, hx⟩
    · rw [SW_findKey hk hf]; simp only [SW_bind, SW_pure']; exact ⟨trivial, x, true, rfl, hx⟩
    · rw [SW_findKey hk hf]
      simp only [SW_bind, SW_zeroValue hi hz, SW_pure']
      exact ⟨trivial, zd, false, by rw [ATy.un_emb hzd], hx⟩
  · simp only [SW_bind]
    refine SW_getMap hr _ ?_
    simp only [SW_bind, SW_pure', SW_checkKey hk hd]
    rcases hfind with ⟨j, x, hf, hx⟩ | ⟨hf, hx⟩
    · rw [SW_findKey hk hf]; simp only [SW_bind, SW_pure']; exact ⟨trivial, x, true, rfl, hx⟩
    · rw [SW_findKey hk hf]
      simp only [SW_bind, SW_zeroValue hi hz, SW_pure']
      exact ⟨trivial, zd, false, by rw [ATy.un_emb hzd], hx⟩
theorem MpU.sound {P : Program} {t kt et : TypeId} {d : TypeDesc} {m key val : Value} {H : Heap} {k : Heap → Prop}
    (ht : P.underlying t = some (.map kt et)) (hk : P.underlying kt = some d) (hd : keyD d = true) (h : MpU d m key val H k) : SW P (Instr.mapUpdate t m key val) (fun _ => k) H := by
  obtain ⟨r, es, cl, rfl, hr, hfind⟩ := h
  have hset : ∀ (o : Obj) (X : Unit → Heap → Prop), X () (H.setIfInBounds r o) → SW P (setObj r o) X H := fun o X hX => ⟨⟨_, hr, by intro c e fr h'; cases h'⟩, hX⟩
  unfold Instr.mapUpdate
  simp only [SW_bind, SW_underlying ht]
  refine SW_getMap hr _ ?_
  simp only [SW_bind, SW_checkKey hk hd]
  rcases hfind with ⟨i, x, hf, hs, hx⟩ | ⟨hf, hx⟩
  · rw [SW_findKey hk hf]
    simp only [SW_bind]
    unfold Instr.keyThatStays
    have hs' : Instr.sameBits 10000 (((⟨es⟩ : Array MapEntry)[i]?.map (·.key)).getD key) key = true := by simpa using hs
    simp only [hs', if_true, SW_pure']
    exact hset _ _ hx
  · rw [SW_findKey hk hf]
    exact hset _ _ hx
theorem MpN.sound {P : Program} {t ty : TypeId} {kt et : TypeId} {m : Value} {H : Heap} {k : Int → Prop} (ht : P.underlying t = some (.map kt et)) (h : MpN m H k) :
    SW P (Builtin.len_ #[t] ty #[m]) (fun v H' => H' = H ∧ ∃ n : Int, v = .int .i64 n ∧ k n) H := by
  obtain ⟨es, hes, hk⟩ := h
  unfold Builtin.len_
  simp only [List.getElem?_toArray, List.getElem?_cons_zero, SW_bind, SW_underlying ht]
  rcases hes with ⟨rfl, rfl⟩ | ⟨r, cl, rfl, hr⟩
  · exact ⟨rfl, _, rfl, hk⟩
  · simp only [SW_bind]
    refine SW_getMap hr _ ?_
    exact ⟨rfl, _, rfl, by simpa using hk⟩
theorem MpR.sound {P : Program} {t kt et : TypeId} {m : Value} {H : Heap} {k : Addr → Heap → Prop} (ht : P.underlying t = some (.map kt et)) (h : MpR m H k) :
    SW P (Instr.range t m) (fun v H' => ∃ a, v = .pointer (some a) ∧ k a H') H := by
  unfold Instr.range
  simp only [SW_bind, SW_underlying ht]
  rcases h with ⟨rfl, hk⟩ | ⟨r, es, cl, rfl, hr, hk⟩
  · simp only [SW_pure', newObj, SW]
    exact ⟨_, rfl, hk⟩
  · simp only [SW_bind]
    refine SW_getMap hr _ ?_
    simp only [SW_pure', newObj, SW]
    exact ⟨_, rfl, hk⟩
theorem MpX.sound {P : Program} {ty : TypeId} {it : Addr} {H : Heap} {k : Option (Value × Value) → Heap → Prop} (h : MpX it H k) :
    SW P (Instr.next (.pointer (some it)) false ty) (fun v H' => (v = .tuple #[.bool false] ∧ k none H') ∨ ∃ x y, v = .tuple #[.bool true, x, y] ∧ k (some (x, y)) H') H := by
  obtain ⟨h0, h⟩ := h
  obtain ⟨ib, io, isp⟩ := it
  dsimp only at h0 h
  subst h0
  have hget : ∀ (o : Obj) (X : Obj → Heap → Prop), H[ib]? = some o → (∀ c e fr, o ≠ .cells c e fr) → X o H → SW P (getObj ib) X H := fun o X h1 h2 h3 => ⟨o, h1, h2, h3⟩
  unfold Instr.next
  simp only [SW_bind]
  rcases h with ⟨s, se, la, hr, hk⟩ | ⟨r, es, cl, se, hr, hm, hborn, hnone, hsome⟩
  · refine hget _ _ hr (by intro c e fr h'; cases h') ?_
    exact .inl ⟨rfl, hk⟩
  · refine hget _ _ hr (by intro c e fr h'; cases h') ?_
    simp only [SW_bind]
    refine SW_getMap hm _ ?_
    have hbad : (!se.isEmpty && !(⟨es⟩ : Array MapEntry).isEmpty && (⟨es⟩ : Array MapEntry).all (fun e => decide (e.born ≥ cl))) = false := by
      cases es with
      | nil => simp
      | cons e es =>
        have : e.born < cl := hborn e (by simp)
        have hall : ((⟨e :: es⟩ : Array MapEntry).all fun e => decide (e.born ≥ cl)) = false := by
          simp; omega
        rw [hall]; simp
    simp only [hbad, Bool.false_eq_true, if_false, SW_bind]
    intro n hp
    simp only [Poss] at hp
    have hnew : (Array.filter (fun e => decide (e.born ≥ cl)) (Array.filter (fun e => !se.contains e.born) (⟨es⟩ : Array MapEntry))) = #[] := by
      rw [Array.filter_eq_empty_iff]
      intro e he
      have := (Array.mem_filter.1 he).1
      have := hborn e (by simpa using this)
      simp; omega
    have hold : (Array.filter (fun e => decide (e.born < cl)) (Array.filter (fun e => !se.contains e.born) (⟨es⟩ : Array MapEntry))) = Array.filter (fun e => !se.contains e.born) (⟨es⟩ : Array MapEntry) := by
      rw [Array.filter_eq_self]
      intro e he
      have := (Array.mem_filter.1 he).1
      have := hborn e (by simpa using this)
      simpa using this
    simp only [hnew, hold, Array.append_empty] at hp ⊢
    obtain ⟨left, hleft⟩ : ∃ left, left = Array.filter (fun e => !se.contains e.born) (⟨es⟩ : Array MapEntry) := ⟨_, rfl⟩
    rw [← hleft] at hp ⊢
    have hmem : ∀ e ∈ left, e ∈ es ∧ se.contains e.born = false := fun e he => by
      rw [hleft] at he
      have := Array.mem_filter.1 he
      exact ⟨by simpa using this.1, by simpa using this.2⟩
    by_cases hemp : left.isEmpty = true
    · have hle : left = #[] := by simpa using hemp
      simp only [hle]
      have hall : ∀ e ∈ es, se.contains e.born = true := fun e he => by
        cases hc : se.contains e.born with
        | true => rfl
        | false =>
          have : e ∈ left := by rw [hleft]; exact Array.mem_filter.2 ⟨by simpa using he, by rw [hc]; rfl⟩
          rw [hle] at this; simp at this
      have hn0 : n = 0 := by
        rw [hle] at hp
        simp at hp
        split at hp
        · exact hp
        · obtain ⟨t, ht⟩ := hp
          simp [Question.cut] at ht; omega
      subst hn0
      simp only [Array.isEmpty_empty, if_true, Array.map_empty, Array.append_empty]
      exact Or.inl ⟨rfl, hnone hall⟩
    · have hne : left.isEmpty = false := by simpa using hemp
      have hpos : 0 < left.size := by
        rcases Nat.eq_zero_or_pos left.size with h | h
        · exact absurd (by simpa using h) hemp
        · exact h
      simp only [hne, Bool.false_eq_true, if_false, Array.empty_append]
      have hlt : n < left.size := by
        simp only [hne, Bool.false_eq_true, if_false, Array.empty_append, Array.size_map] at hp
        split at hp
        · omega
        · obtain ⟨t, ht⟩ := hp
          simp only [Question.cut] at ht
          subst ht
          exact Nat.mod_lt _ hpos
      have hg : (left.map some)[n]? = some (some left[n]) := by
        rw [Array.getElem?_map, Array.getElem?_eq_getElem hlt]; rfl
      rw [show SW P (Sem.pure n) = fun (k : Nat → Heap → Prop) H => k n H from rfl]
      simp only [hg, SW_bind]
      refine ⟨⟨_, hr, by intro c e fr h'; cases h'⟩, ?_⟩
      obtain ⟨h1, h2⟩ := hmem _ (Array.getElem_mem hlt)
      exact .inr ⟨_, _, rfl, hsome _ h1 h2⟩
end Go.Proofs.YtlkmmplgfjicjaaDoor.Hc
