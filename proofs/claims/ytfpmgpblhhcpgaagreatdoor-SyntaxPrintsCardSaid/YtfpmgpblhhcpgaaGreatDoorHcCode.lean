/-
 New memory, append, copy, conversions, calls; and the condition of any operation.
-/
import Derived.Test.YtfpmgpblhhcpgaaGreatDoorHcAct
import Derived.OrdersHeld
import Derived.ScopeJumps
set_option linter.unusedVariables false
set_option linter.unusedSimpArgs false
namespace Go.Proofs.YtfpmgpblhhcpgaaGreatDoor.Hc
set_option maxRecDepth 100000
def jbq (z : Array Value) (n : Nat) : Array Value := (Array.range n).map (z[· % z.size]!)
def Mks (e : TypeId) (size bytes : Nat) (z : Array Value) (len cap : Int) (H : jaa) (k : Sl → jaa → Prop) : Prop :=
 0 ≤ IntKind.i64.wrap len ∧ IntKind.i64.wrap len ≤ IntKind.i64.wrap cap ∧ (bytes : Int) * IntKind.i64.wrap cap ≤ 2 ^ 48 ∧
 k ⟨some ⟨H.size, 0, none⟩, (IntKind.i64.wrap len).toNat, (IntKind.i64.wrap cap).toNat⟩ (H.push (.cells (jbq z ((IntKind.i64.wrap cap).toNat * size)) e))
def rdL (H : jaa) (a : Option Addr) (vs : List Value) : Prop :=
 match a with
 | some a => jaR H a 0 vs
 | none => vs = []
def App (e : TypeId) (size bytes : Nat) (z : Array Value) (s x : Sl) (H : jaa) (k : Sl → jaa → Prop) : Prop :=
 ∃ new : List Value, rdL H x.a new ∧ (x.a.isSome = true → new.length = x.len * size) ∧
  (s.len + x.len ≤ s.cap → match s.a with
    | some a => StL (a.add (s.len * size)) 0 new H (k ⟨some a, s.len + x.len, s.cap⟩)
    | none => k ⟨none, s.len + x.len, s.cap⟩ H) ∧
  (s.cap < s.len + x.len → bytes ≠ 0 ∧ Builtin.nextslicecap (s.len + x.len) s.cap * bytes ≤ 2 ^ 48 ∧
    ∃ old : List Value, rdL H s.a old ∧ (s.a.isSome = true → old.length = s.len * size) ∧
     ∀ c, s.len + x.len ≤ c → k ⟨some ⟨H.size, 0, none⟩, s.len + x.len, c⟩ (H.push (.cells (⟨old⟩ ++ ⟨new⟩ ++ jbq z ((c - (s.len + x.len)) * z.size)) e)))
def jem (s : ByteArray) : Array Value := s.data.map fun b => .int .u8 b.toNat
def AppStr (e : TypeId) (bytes : Nat) (z : Array Value) (s : Sl) (x : ByteArray) (H : jaa) (k : Sl → jaa → Prop) : Prop :=
 (s.len + x.size ≤ s.cap → match s.a with
   | some a => StL (a.add s.len) 0 (jem x).toList H (k ⟨some a, s.len + x.size, s.cap⟩)
   | none => k ⟨none, s.len + x.size, s.cap⟩ H) ∧
 (s.cap < s.len + x.size → bytes ≠ 0 ∧ Builtin.nextslicecap (s.len + x.size) s.cap * bytes ≤ 2 ^ 48 ∧
   ∃ old : List Value, rdL H s.a old ∧ (s.a.isSome = true → old.length = s.len) ∧
    ∀ c, s.len + x.size ≤ c → k ⟨some ⟨H.size, 0, none⟩, s.len + x.size, c⟩ (H.push (.cells (⟨old⟩ ++ jem x ++ jbq z ((c - (s.len + x.size)) * z.size)) e)))
def Cpy (size : Nat) (d s : Sl) (H : jaa) (k : Int → jaa → Prop) : Prop :=
 ∃ vs : List Value, rdL H s.a vs ∧ (s.a.isSome = true → vs.length = Nat.min s.len d.len * size) ∧
  (match d.a with
    | some a => StL a 0 vs H (k (Nat.min s.len d.len))
    | none => k (Nat.min s.len d.len) H)
def B2S (s : Sl) (H : jaa) (k : ByteArray → Prop) : Prop :=
 ∃ bs : List UInt8, rdL H s.a (bs.map fun b => .int .u8 b.toNat) ∧ (s.a.isSome = true → bs.length = s.len) ∧ k ⟨⟨bs⟩⟩
def S2B (e : TypeId) (s : ByteArray) (H : jaa) (k : Sl → jaa → Prop) : Prop :=
 ∀ c, s.size ≤ c → k ⟨some ⟨H.size, 0, none⟩, s.size, c⟩ (H.push (.cells (jem s ++ Array.replicate (c - s.size) (.int .u8 0)) e (c, c + 1)))
def Clr (z : Array Value) (s : Sl) (H : jaa) (k : jaa → Prop) : Prop :=
 match s.a with
 | some a => StL a 0 (jbq z (s.len * z.size)).toList H k
 | none => k H
def Mrk (a : Addr) (H : jaa) (k : jaa → Prop) : Prop := ∃ e n, jck H a.block = some (e, n) ∧ k (je2 H ⟨a.block, n, none⟩ 1)
def Cb (P : Program) (f : FuncId) : Prop := ∃ fn, P.funcs[f]? = some fn ∧ (fn.name == "runtime.NumGoroutine") = false ∧ fn.body.isNone = false
def CallV (P : Program) (f : FuncId) (args : Array Value) (H : jaa) (k : Value → jaa → Prop) : Prop :=
 ∀ w, w.heap = H → Calls P f args w fun e w' => SameEnv w w' ∧ ∃ v, e = .returned v ∧ k v w'.heap
def CallT (P : Program) (f : FuncId) (args : List Value) (r : RTy) (H : jaa) (k : r.den → jaa → Prop) : Prop :=
 Cb P f ∧ ∀ w, w.heap = H → Calls P f ⟨args⟩ w fun e w' => SameEnv w w' ∧ ∃ d, e = .returned (r.emb d) ∧ k d w'.heap
def CallVE (P : Program) (f : FuncId) (args : Array Value) (H : jaa) (kp k : Value → jaa → Prop) : Prop :=
 ∀ w, w.heap = H → Calls P f args w fun e w' => SameEnv w w' ∧ ((∃ v, e = .returned v ∧ k v w'.heap) ∨ ∃ v, e = .panicked [{ v, recovered := false }] ∧ kp v w'.heap)
def CallE (P : Program) (f : FuncId) (args : List Value) (r : RTy) (H : jaa) (kp : Value → jaa → Prop) (k : r.den → jaa → Prop) : Prop :=
 Cb P f ∧ ∀ w, w.heap = H → Calls P f ⟨args⟩ w fun e w' => SameEnv w w' ∧ ((∃ d, e = .returned (r.emb d) ∧ k d w'.heap) ∨ ∃ v, e = .panicked [{ v, recovered := false }] ∧ kp v w'.heap)
theorem CallT.e {P : Program} {f : FuncId} {args : List Value} {r : RTy} {H : jaa} {kp : Value → jaa → Prop} {k : r.den → jaa → Prop} (h : CallT P f args r H k) : CallE P f args r H kp k :=
 ⟨h.1, fun w hw => (h.2 w hw).mono fun _ _ h => ⟨h.1, .inl h.2⟩⟩
theorem CallE.t {P : Program} {f : FuncId} {args : List Value} {r : RTy} {H : jaa} {k : r.den → jaa → Prop} (h : CallE P f args r H (fun _ _ => False) k) : CallT P f args r H k :=
 ⟨h.1, fun w hw => (h.2 w hw).mono fun _ _ h => ⟨h.1, h.2.elim id fun ⟨_, _, h⟩ => h.elim⟩⟩
def jjv (P : Program) (v : Value) (args : List Value) (r : RTy) (H : jaa) (kp : Value → jaa → Prop) (k : r.den → jaa → Prop) : Prop :=
 ∃ g fi ca, v = .func (.func g) fi ca ∧ CallE P g (fi.toList ++ (args ++ ca.toList)) r H kp k
def memP (f : Nat) : List Nat → Bool
 | [] => false
 | g :: l => Nat.beq g f || memP f l
def jkw (P : Program) (v : Value) (args : List Value) (r : RTy) (H : jaa) (k : r.den → jaa → Prop) : Prop :=
 ∃ g fi ca, v = .func (.func g) fi ca ∧ CallT P g (fi.toList ++ (args ++ ca.toList)) r H k
def jl8 : TypeDesc → Bool
 | .int _ => true
 | .bool => true
 | .string => true
 | _ => false
def MpE (H : jaa) (m : Value) (es : List MapEntry) : Prop := (m = .map none ∧ es = []) ∨ ∃ r cl, m = .map (some r) ∧ H[r]? = some (.map ⟨es⟩ cl)
def MkM (H : jaa) (k : Value → jaa → Prop) : Prop := k (.map (some H.size)) (H.push (.map #[] 0))
def MpL (kd : TypeDesc) (a : ATy) (z : a.den) (m key : Value) (H : jaa) (k : a.den → Bool → Prop) : Prop :=
 ∃ es, MpE H m es ∧ ((∃ i d, Instr.findNow kd key es 0 = some (some (i, a.emb d)) ∧ k d true) ∨ (Instr.findNow kd key es 0 = some none ∧ k z false))
def MpU (kd : TypeDesc) (m key val : Value) (H : jaa) (k : jaa → Prop) : Prop :=
 ∃ r es cl, m = .map (some r) ∧ H[r]? = some (.map ⟨es⟩ cl) ∧
  ((∃ i x, Instr.findNow kd key es 0 = some (some (i, x)) ∧ Instr.sameBits 10000 (((es[i]?).map (·.key)).getD key) key = true ∧ k (H.setIfInBounds r (.map ((⟨es⟩ : Array MapEntry).modify i fun e => { e with key := key, val := val }) cl))) ∨
   (Instr.findNow kd key es 0 = some none ∧ k (H.setIfInBounds r (.map ((⟨es⟩ : Array MapEntry).push { key := key, val := val, born := cl }) (cl + 1)))))
def MpN (m : Value) (H : jaa) (k : Int → Prop) : Prop := ∃ es, MpE H m es ∧ k es.length
def MpR (m : Value) (H : jaa) (k : Addr → jaa → Prop) : Prop :=
 (m = .map none ∧ k ⟨H.size, 0, none⟩ (H.push (.mapIter none 0 #[] 0))) ∨
 ∃ r es cl, m = .map (some r) ∧ H[r]? = some (.map es cl) ∧ k ⟨H.size, 0, none⟩ (H.push (.mapIter (some r) cl #[] cl))
def MpX (it : Addr) (H : jaa) (k : Option (Value × Value) → jaa → Prop) : Prop :=
 it.off = 0 ∧ ((∃ s se la, H[it.block]? = some (.mapIter none s se la) ∧ k none H) ∨
 ∃ r es cl se, H[it.block]? = some (.mapIter (some r) cl se cl) ∧ H[r]? = some (.map ⟨es⟩ cl) ∧ (∀ e ∈ es, e.born < cl) ∧
  ((∀ e ∈ es, se.contains e.born = true) → k none H) ∧
  ∀ e ∈ es, se.contains e.born = false → k (some (e.key, e.val)) (H.setIfInBounds it.block (.mapIter (some r) cl (se.push e.born) cl)))
def PtrEq (p q : Option Addr) (H : jaa) (k : Bool → Prop) : Prop :=
 ∃ b, k b ∧ match p, q with
  | none, q => b = q.isNone
  | some _, none => b = false
  | some a, some c => (a = c ∧ b = true) ∨ (a ≠ c ∧ b = false ∧ ∃ ca ta cb tb, H[a.block]? = some (.cells ca ta (0, 0)) ∧ H[c.block]? = some (.cells cb tb (0, 0)))
def FK (P : Program) (kt : TypeId) (key : Value) (es : List MapEntry) (H : jaa) (r : Option (Nat × Value)) : Prop :=
 (∀ e, SW P (Instr.checkKey e 10000 kt key) (fun _ H' => H' = H) H) ∧ SW P (Instr.findKey kt key es) (fun r' H' => r' = r ∧ H' = H) H
def MpLX (P : Program) (kt : TypeId) (a : ATy) (z : a.den) (m key : Value) (H : jaa) (k : a.den → Bool → Prop) : Prop :=
 ∃ es, MpE H m es ∧ ((∃ i d, FK P kt key es H (some (i, a.emb d)) ∧ k d true) ∨ (FK P kt key es H none ∧ k z false))
def MpUX (P : Program) (kt : TypeId) (m key val : Value) (H : jaa) (k : jaa → Prop) : Prop :=
 ∃ r es cl, m = .map (some r) ∧ H[r]? = some (.map ⟨es⟩ cl) ∧
  ((∃ i x, FK P kt key es H (some (i, x)) ∧ Instr.sameBits 10000 (((es[i]?).map (·.key)).getD key) key = true ∧ k (H.setIfInBounds r (.map ((⟨es⟩ : Array MapEntry).modify i fun e => { e with key := key, val := val }) cl))) ∨
   (FK P kt key es H none ∧ k (H.setIfInBounds r (.map ((⟨es⟩ : Array MapEntry).push { key := key, val := val, born := cl }) (cl + 1)))))
def MpXk (it : Addr) (H : jaa) (kn : jaa → Prop) (ks : Value → Value → jaa → Prop) : Prop :=
 MpX it H fun r H' => match r with
  | none => kn H'
  | some p => ks p.1 p.2 H'
def MpC (it : Addr) (H : jaa) (k : Value → Value → Prop) : Prop :=
 it.off = 0 ∧ ∃ r s se cl es stamp e, H[it.block]? = some (.mapIter (some r) s se cl) ∧ H[r]? = some (.map ⟨es⟩ cl) ∧ se.back? = some stamp ∧ (⟨es⟩ : Array MapEntry).find? (fun x => x.born == stamp) = some e ∧ k e.key e.val
theorem jal {P : Program} {t : TypeId} {d : TypeDesc} (h : P.underlying t = some d) (k : TypeDesc → jaa → Prop) (H : jaa) : SW P (underlying t) k H = k d H := by
 unfold underlying program; simp only [jae, SW, h]; rfl
theorem jcu {P : Program} {t : TypeId} {i : TypeInfo} (h : P.info? t = some i) (k : TypeInfo → jaa → Prop) (H : jaa) : SW P (typeInfo t) k H = k i H := by
 unfold typeInfo program; simp only [jae, SW, h]; rfl
theorem jaO {P : Program} {t : TypeId} {i : TypeInfo} {z : Value} (h : P.info? t = some i) (hz : i.zero = some z) (k : Value → jaa → Prop) (H : jaa) : SW P (zeroValue t) k H = k z H := by
 unfold zeroValue; simp only [jae, jcu h, hz]; rfl
theorem jbx {P : Program} (e : TypeId) (cells : Array Value) (k : Addr → jaa → Prop) (H : jaa) : SW P (newRow e cells) k H = k ⟨H.size, 0, none⟩ (H.push (.cells cells e)) := by
 unfold newRow newObj; simp only [jae, SW]; rfl
theorem jeR {P : Program} (n : Nat) (k : Unit → jaa → Prop) (H : jaa) : SW P (askRoom n) k H = k () H := by
 unfold askRoom; split <;> rfl
theorem jfQ {α : Type} {P : Program} (c : Prop) [Decidable c] (x y : Sem α) (k : α → jaa → Prop) (H : jaa) :
 SW P (if c then x else y) k H = if c then SW P x k H else SW P y k H := by split <;> rfl
theorem jak {α : Type} {P : Program} (a : α) (k : α → jaa → Prop) (H : jaa) : SW P (Pure.pure a) k H = k a H := rfl
theorem Mks.sound {P : Program} {t e : TypeId} {i : TypeInfo} {z : Value} {kl kc : IntKind} {len cap : Int} {H : jaa} {k : Sl → jaa → Prop}
 (ht : P.underlying t = some (.slice e)) (hi : P.info? e = some i) (hz : i.zero = some z)
 (h : Mks e i.size i.bytes z.cells len cap H k) : SW P (Instr.makeSlice t (.int kl len) (.int kc cap)) (fun v H' => ∃ s : Sl, v = .slice s.a s.len s.cap ∧ k s H') H := by
 obtain ⟨h0, h1, h2, hk⟩ := h
 unfold Instr.makeSlice
 simp only [jae, jal ht, jcu hi, jfQ, asInt, asIntOf, jak]
 have c0 : ¬ (IntKind.i64.wrap cap < 0) := by omega
 have c1 : ¬ (2 ^ 48 < (i.bytes : Int) * IntKind.i64.wrap cap) := by omega
 have c2 : ¬ (IntKind.i64.wrap len < 0) := by omega
 have c3 : ¬ (IntKind.i64.wrap cap < IntKind.i64.wrap len) := by omega
 simp only [c0, c1, c2, c3, gt_iff_lt, decide_false, Bool.or_self, Bool.false_eq_true, if_false, jak, jeR, jbA hi]
 split
 ·rename_i hn
  simp only [jak, jbx]
  refine ⟨⟨some ⟨H.size, 0, none⟩, _, _⟩, rfl, ?_⟩
  have e1 : (Array.range ((IntKind.i64.wrap cap).toNat * i.size)).map (fun x => (#[] : Array Value)[x % (#[] : Array Value).size]!) = jbq z.cells ((IntKind.i64.wrap cap).toNat * i.size) := by
   rw [hn]; simp [jbq]
  rw [e1]; exact hk
 ·simp only [jaO hi hz, jak, jbx, jae]
  exact ⟨⟨some ⟨H.size, 0, none⟩, _, _⟩, rfl, hk⟩
theorem jbI {P : Program} {a : Addr} : ∀ {vs : List Value} {i : Nat} {acc : Array Value} {H : jaa} {k : Array Value → jaa → Prop}, jaR H a i vs →
 k (acc ++ vs.toArray) H → SW P (loadCellsFrom a i vs.length acc) k H
 | [], i, acc, H, k, _, hk => by simpa [loadCellsFrom, jak] using hk
 | v :: vs, i, acc, H, k, h, hk => by
   simp only [List.length_cons, loadCellsFrom, jae]
   refine ⟨v, h.1, ?_⟩
   exact jbI h.2 (by simpa using hk)
theorem jbu {P : Program} {size n : Nat} {a : Option Addr} {len cap : Nat} {vs : List Value} {H : jaa} {k : Array Value → jaa → Prop} (h : rdL H a vs) (hl : a.isSome = true → vs.length = n * size)
 (hk : k ⟨vs⟩ H) : SW P (Builtin.firstCells size n (.slice a len cap)) k H := by
 cases a with
 | none => simp only [rdL] at h; subst h; exact hk
 | some a =>
   show SW P (loadCells a (n * size)) k H
   rw [← hl rfl]
   exact jbI h (by simpa using hk)
theorem App.sound {P : Program} {t u e ty : TypeId} {i : TypeInfo} {z : Value} {d : TypeDesc} {s x : Sl} {H : jaa} {k : Sl → jaa → Prop}
 (ht : P.underlying t = some (.slice e)) (hu : P.underlying u = some d) (hd : ∀ kk, d ≠ .int kk) (hi : P.info? e = some i) (hz : i.zero = some z)
 (h : App e i.size i.bytes z.cells s x H k) :
 SW P (Builtin.append_ #[t, u] ty #[.slice s.a s.len s.cap, .slice x.a x.len x.cap]) (fun v H' => ∃ s : Sl, v = .slice s.a s.len s.cap ∧ k s H') H := by
 obtain ⟨new, hnew, hlen, hfit, hgrow⟩ := h
 have hm : (match d with | .int _ => true | _ => false) = false := by cases d <;> first | rfl | exact absurd rfl (hd _)
 unfold Builtin.append_
 simp only [List.getElem?_toArray, List.getElem?_cons_zero, List.getElem?_cons_succ, jae, jal ht, jbA hi, jal hu, jak, hm, Bool.false_eq_true, if_false, Builtin.lenOf]
 by_cases hc : s.len + x.len ≤ s.cap
 ·simp only [jfQ, hc, if_true, jae]
  refine jbu hnew hlen ?_
  have hfit := hfit hc
  cases hs : s.a with
  | none =>
    rw [hs] at hfit
    simp only [jak, jae]
    exact ⟨⟨none, _, _⟩, rfl, hfit⟩
  | some b =>
    rw [hs] at hfit
    simp only [jae, jak]
    exact jaB (fun _ H' hk => ⟨⟨some b, _, _⟩, rfl, hk⟩) (jgN hfit)
 ·obtain ⟨hb, hcap, old, hold, holen, hk⟩ := hgrow (by omega)
  have hc1 : ¬ (2 ^ 48 < Builtin.nextslicecap (s.len + x.len) s.cap * i.bytes) := by omega
  simp only [jfQ, hc, if_false, jae, jcu hi, Bool.false_eq_true, hb, or_self, and_false, gt_iff_lt, hc1, jak, false_or]
  intro c hp
  have hge : s.len + x.len ≤ c := by
   simp only [Poss, Question.forced, Bool.false_eq_true, if_false, Question.cut] at hp
   obtain ⟨t, rfl⟩ := hp; omega
  simp only [jak, jeR]
  refine jbu hold holen ?_
  refine jbu hnew hlen ?_
  simp only [jaO hi hz, jbx]
  refine ⟨⟨some ⟨H.size, 0, none⟩, _, _⟩, rfl, ?_⟩
  have := hk c hge
  unfold Builtin.zeroCells
  exact this
theorem AppStr.sound {P : Program} {t u e ty : TypeId} {i : TypeInfo} {z : Value} {s : Sl} {x : ByteArray} {H : jaa} {k : Sl → jaa → Prop}
 (ht : P.underlying t = some (.slice e)) (hu : P.underlying u = some .string) (hi : P.info? e = some i) (hz : i.zero = some z) (hsz : i.size = 1)
 (h : AppStr e i.bytes z.cells s x H k) :
 SW P (Builtin.append_ #[t, u] ty #[.slice s.a s.len s.cap, .string x]) (fun v H' => ∃ s : Sl, v = .slice s.a s.len s.cap ∧ k s H') H := by
 obtain ⟨hfit, hgrow⟩ := h
 have hex : x.extract 0 x.size = x := by
  simp
 unfold Builtin.append_
 simp only [List.getElem?_toArray, List.getElem?_cons_zero, List.getElem?_cons_succ, jae, jal ht, jbA hi, jal hu, jak, Bool.false_eq_true, if_false, Builtin.lenOf, hsz, Nat.mul_one]
 by_cases hc : s.len + x.size ≤ s.cap
 ·simp only [jfQ, hc, if_true, jae]
  simp only [Builtin.firstCells, jak, hex]
  have hfit := hfit hc
  cases hs : s.a with
  | none =>
    rw [hs] at hfit
    simp only [jak, jae]
    exact ⟨⟨none, _, _⟩, rfl, hfit⟩
  | some b =>
    rw [hs] at hfit
    simp only [jae, jak]
    exact jaB (fun _ H' hk => ⟨⟨some b, _, _⟩, rfl, hk⟩) (jgN hfit)
 ·obtain ⟨hb, hcap, old, hold, holen, hk⟩ := hgrow (by omega)
  have hc1 : ¬ (2 ^ 48 < Builtin.nextslicecap (s.len + x.size) s.cap * i.bytes) := by omega
  simp only [jfQ, hc, if_false, jae, jcu hi, Bool.false_eq_true, hb, or_self, and_false, gt_iff_lt, hc1, jak, false_or]
  intro c hp
  have hge : s.len + x.size ≤ c := by
   simp only [Poss, Question.forced, Bool.false_eq_true, if_false, Question.cut] at hp
   obtain ⟨t, rfl⟩ := hp; omega
  simp only [jak, jeR]
  refine jbu hold (by rw [Nat.mul_one]; exact holen) ?_
  simp only [Builtin.firstCells, jak, hex, jaO hi hz, jbx]
  refine ⟨⟨some ⟨H.size, 0, none⟩, _, _⟩, rfl, ?_⟩
  have := hk c hge
  unfold Builtin.zeroCells
  exact this
theorem Cpy.sound {P : Program} {t u e ty : TypeId} {i : TypeInfo} {d s : Sl} {H : jaa} {k : Int → jaa → Prop}
 (ht : P.underlying t = some (.slice e)) (hi : P.info? e = some i) (h : Cpy i.size d s H k) :
 SW P (Builtin.copy_ #[t, u] ty #[.slice d.a d.len d.cap, .slice s.a s.len s.cap]) (fun v H' => ∃ n : Int, v = .int .i64 n ∧ k n H') H := by
 obtain ⟨vs, hvs, hlen, hd⟩ := h
 unfold Builtin.copy_
 simp only [List.getElem?_toArray, List.getElem?_cons_zero, List.getElem?_cons_succ, jae, jal ht, jbA hi, jak, Builtin.lenOf]
 refine jbu hvs hlen ?_
 cases hs : d.a with
 | none =>
   rw [hs] at hd
   simp only [jak, jae]
   exact ⟨_, rfl, hd⟩
 | some b =>
   rw [hs] at hd
   simp only [jae, jak]
   exact jaB (fun _ H' hk => ⟨_, rfl, hk⟩) (jgN hd)
theorem jfg {P : Program} {H : jaa} {k : ByteArray → jaa → Prop} : ∀ (bs : List UInt8) (acc : ByteArray), k ⟨acc.data ++ bs.toArray⟩ H →
 SW P (forIn (bs.map fun b => (Value.int .u8 b.toNat)) acc fun (c : Value) (s : ByteArray) => (match c with
  | .int .u8 n => (pure (ForInStep.yield (s.push (UInt8.ofNat n.toNat))) : Sem (ForInStep ByteArray))
  | _ => do
    stuck "bytesToString: byte expected"
    pure (ForInStep.yield s))) k H
 | [], acc, h => by simpa [jak] using h
 | b :: bs, acc, h => by
   simp only [List.map_cons, List.forIn_cons, jae, jak]
   refine jfg bs _ ?_
   have : (UInt8.ofNat (Int.toNat (b.toNat : Int))) = b := by simp
   rw [this]
   simpa [ByteArray.push] using h
theorem B2S.sound {P : Program} {s : Sl} {H : jaa} {k : ByteArray → Prop} (h : B2S s H k) :
 SW P (Conv.bytesToString (.slice s.a s.len s.cap)) (fun v H' => H' = H ∧ ∃ b : ByteArray, v = .string b ∧ k b) H := by
 obtain ⟨bs, hbs, hlen, hk⟩ := h
 unfold Conv.bytesToString
 cases hs : s.a with
 | none =>
   rw [hs] at hbs
   simp only [rdL, List.map_eq_nil_iff] at hbs
   subst hbs
   exact ⟨rfl, _, rfl, hk⟩
 | some a =>
   rw [hs] at hbs
   simp only [jae]
   rw [← hlen (by rw [hs]; rfl)]
   rw [show bs.length = (bs.map fun b => (Value.int .u8 b.toNat)).length by simp]
   refine jbI hbs ?_
   simp only [Array.empty_append, List.forIn_toArray, jae]
   refine jfg bs _ ?_
   simp only [jak]
   refine ⟨trivial, _, rfl, ?_⟩
   have : (ByteArray.empty.data ++ bs.toArray) = ⟨bs⟩ := by simp [ByteArray.empty, ByteArray.emptyWithCapacity]; rfl
   rw [this]; exact hk
theorem S2B.sound {P : Program} {e : TypeId} {s : ByteArray} {H : jaa} {k : Sl → jaa → Prop} (h : S2B e s H k) :
 SW P (Conv.stringToBytes e s) (fun v H' => ∃ s : Sl, v = .slice s.a s.len s.cap ∧ k s H') H := by
 unfold Conv.stringToBytes
 simp only [jae]
 intro c hp
 have hge : s.size ≤ c := by
  simp only [Poss, Question.forced, Bool.false_eq_true, if_false, Question.cut] at hp
  obtain ⟨t, rfl⟩ := hp; omega
 simp only [jbx, jae]
 have hk := h c hge
 have hsz : (Array.map (fun b : UInt8 => Value.int IntKind.u8 (b.toNat : Int)) s.data ++ Array.replicate (c - s.size) (Value.int IntKind.u8 0)).size = c := by
  have : s.data.size = s.size := rfl
  simp [this]; omega
 have hsh : jck (H.push (.cells (Array.map (fun b : UInt8 => Value.int IntKind.u8 (b.toNat : Int)) s.data ++ Array.replicate (c - s.size) (Value.int IntKind.u8 0)) e)) H.size = some (e, c) := by
  simp only [jck, Array.getElem?_push_size, hsz]
 unfold markStringish
 simp only [jae, shape, SW, jak, hsh]
 show SW P (freeze ⟨H.size, c, none⟩ 1) _ _
 simp only [freeze, SW]
 refine ⟨⟨some ⟨H.size, 0, none⟩, s.size, c⟩, rfl, ?_⟩
 have hf : je2 (H.push (.cells (Array.map (fun b : UInt8 => Value.int IntKind.u8 (b.toNat : Int)) s.data ++ Array.replicate (c - s.size) (Value.int IntKind.u8 0)) e)) ⟨H.size, c, none⟩ 1 =
  H.push (.cells (jem s ++ Array.replicate (c - s.size) (.int .u8 0)) e (c, c + 1)) := by
  unfold je2
  simp only [Nat.succ_ne_zero, if_false]
  apply Array.ext_getElem?
  intro j
  simp only [Array.getElem?_modify, Array.getElem?_push]
  by_cases hj : j = H.size
  ·subst hj; simp [jem]
  ·rw [if_neg (fun e => hj e.symm), if_neg hj, if_neg hj]
 rw [hf]; exact hk
theorem Clr.sound {P : Program} {t e : TypeId} {i : TypeInfo} {z : Value} {a : Option Addr} {len cap : Nat} {ty : TypeId} {H : jaa} {k : jaa → Prop}
 (ht : P.underlying t = some (.slice e)) (hi : P.info? e = some i) (hz : i.zero = some z) (h : Clr z.cells ⟨a, len, cap⟩ H k) :
 SW P (Builtin.clear_ #[t] ty #[.slice a len cap]) (fun v H' => v = .tuple #[] ∧ k H') H := by
 unfold Builtin.clear_
 simp only [List.getElem?_toArray, List.getElem?_cons_zero, jae, jal ht]
 unfold Clr at h
 cases a with
 | none => exact ⟨rfl, h⟩
 | some b =>
   cases len with
   | zero =>
     dsimp only at h
     rw [Nat.zero_mul, show (jbq z.cells 0).toList = [] by simp [jbq]] at h
     exact ⟨rfl, h⟩
   | succ n =>
     dsimp only at h
     simp only [jaO hi hz, jae]
     exact jaB (fun _ H' hk => ⟨rfl, hk⟩) (jgN h)
theorem jd6 {P : Program} {t : TypeId} {d : TypeDesc} (ht : P.underlying t = some d) (hd : jl8 d = true) (e : Bool) (v : Value) (k : Unit → jaa → Prop) (H : jaa) : SW P (Instr.checkKey e 10000 t v) k H = k () H := by
 show SW P (Instr.checkKey e (9999 + 1) t v) k H = _
 unfold Instr.checkKey
 simp only [jae, jal ht]
 cases d <;> simp only [jl8, Bool.false_eq_true] at hd <;> rfl
theorem jbO {P : Program} {t : TypeId} {d : TypeDesc} (ht : P.underlying t = some d) {key : Value} {es : List MapEntry} {r : Option (Nat × Value)} (hr : Instr.findNow d key es 0 = some r) (k : Option (Nat × Value) → jaa → Prop) (H : jaa) :
 SW P (Instr.findKey t key es) k H = k r H := by
 unfold Instr.findKey
 simp only [jae, jal ht, hr, jak]
theorem jbD {P : Program} {r : Nat} {H : jaa} {es : Array MapEntry} {cl : Nat} (h : H[r]? = some (.map es cl)) (k : Obj → jaa → Prop) : k (.map es cl) H → SW P (getObj r) k H := by
 intro hk
 exact ⟨_, h, (by intro c e fr h'; cases h'), hk⟩
theorem MpL.sound {P : Program} {t kt et : TypeId} {d : TypeDesc} {i : TypeInfo} {z : Value} {a : ATy} {zd : a.den} {m key : Value} {H : jaa} {k : a.den → Bool → Prop} {ok : Bool}
 (ht : P.underlying t = some (.map kt et)) (hk : P.underlying kt = some d) (hd : jl8 d = true) (hi : P.info? et = some i) (hz : i.zero = some z) (hzd : a.un z = some zd) (h : MpL d a zd m key H k) :
 SW P (Instr.lookup t m key ok) (fun v H' => H' = H ∧ ∃ x b, v = (if ok then .tuple #[a.emb x, .bool b] else a.emb x) ∧ k x b) H := by
 obtain ⟨es, hes, hfind⟩ := h
 unfold Instr.lookup
 simp only [jae, jal ht]
 rcases hes with ⟨rfl, rfl⟩ | ⟨r, cl, rfl, hr⟩
 ·simp only [jae, jak, jd6 hk hd]
  rcases hfind with ⟨j, x, hf, hx⟩ | ⟨hf, hx⟩
  ·rw [jbO hk hf]; simp only [jae, jak]; exact ⟨trivial, x, true, rfl, hx⟩
  ·rw [jbO hk hf]
   simp only [jae, jaO hi hz, jak]
   exact ⟨trivial, zd, false, by rw [ATy.un_emb hzd], hx⟩
 ·simp only [jae]
  refine jbD hr _ ?_
  simp only [jae, jak, jd6 hk hd]
  rcases hfind with ⟨j, x, hf, hx⟩ | ⟨hf, hx⟩
  ·rw [jbO hk hf]; simp only [jae, jak]; exact ⟨trivial, x, true, rfl, hx⟩
  ·rw [jbO hk hf]
   simp only [jae, jaO hi hz, jak]
   exact ⟨trivial, zd, false, by rw [ATy.un_emb hzd], hx⟩
theorem MpU.sound {P : Program} {t kt et : TypeId} {d : TypeDesc} {m key val : Value} {H : jaa} {k : jaa → Prop}
 (ht : P.underlying t = some (.map kt et)) (hk : P.underlying kt = some d) (hd : jl8 d = true) (h : MpU d m key val H k) : SW P (Instr.mapUpdate t m key val) (fun _ => k) H := by
 obtain ⟨r, es, cl, rfl, hr, hfind⟩ := h
 have jdv : ∀ (o : Obj) (X : Unit → jaa → Prop), X () (H.setIfInBounds r o) → SW P (setObj r o) X H := fun o X hX => ⟨⟨_, hr, by intro c e fr h'; cases h'⟩, hX⟩
 unfold Instr.mapUpdate
 simp only [jae, jal ht]
 refine jbD hr _ ?_
 simp only [jae, jd6 hk hd]
 rcases hfind with ⟨i, x, hf, hs, hx⟩ | ⟨hf, hx⟩
 ·rw [jbO hk hf]
  simp only [jae]
  unfold Instr.keyThatStays
  have hs' : Instr.sameBits 10000 (((⟨es⟩ : Array MapEntry)[i]?.map (·.key)).getD key) key = true := by simpa using hs
  simp only [hs', if_true, jak]
  exact jdv _ _ hx
 ·rw [jbO hk hf]
  exact jdv _ _ hx
theorem FK.run {P : Program} {kt : TypeId} {key : Value} {es : List MapEntry} {H : jaa} {r : Option (Nat × Value)} (h : FK P kt key es H r) (e : Bool) {α : Type} {f : Option (Nat × Value) → Sem α} {k : α → jaa → Prop} (hk : SW P (f r) k H) :
 SW P (Instr.checkKey e 10000 kt key) (fun _ H' => SW P (Instr.findKey kt key es) (fun r H'' => SW P (f r) k H'') H') H :=
 jaB (fun _ _ e => by subst e; exact jaB (fun r' H' ⟨e1, e2⟩ => by subst e1 e2; exact hk) h.2) (h.1 e)
theorem MpLX.sound {P : Program} {t kt et : TypeId} {i : TypeInfo} {z : Value} {a : ATy} {zd : a.den} {m key : Value} {H : jaa} {k : a.den → Bool → Prop} {ok : Bool}
 (ht : P.underlying t = some (.map kt et)) (hi : P.info? et = some i) (hz : i.zero = some z) (hzd : a.un z = some zd) (h : MpLX P kt a zd m key H k) :
 SW P (Instr.lookup t m key ok) (fun v H' => H' = H ∧ ∃ x b, v = (if ok then .tuple #[a.emb x, .bool b] else a.emb x) ∧ k x b) H := by
 obtain ⟨es, hes, hfind⟩ := h
 unfold Instr.lookup
 simp only [jae, jal ht]
 rcases hes with ⟨rfl, rfl⟩ | ⟨r, cl, rfl, hr⟩
 ·simp only [jae, jak]
  rcases hfind with ⟨j, x, hf, hx⟩ | ⟨hf, hx⟩
  ·exact hf.run _ (f := fun r => _) (by simp only [jae, jak]; exact ⟨trivial, x, true, rfl, hx⟩)
  ·exact hf.run _ (f := fun r => _) (by simp only [jae, jaO hi hz, jak]; exact ⟨trivial, zd, false, by rw [ATy.un_emb hzd], hx⟩)
 ·simp only [jae]
  refine jbD hr _ ?_
  simp only [jae, jak]
  rcases hfind with ⟨j, x, hf, hx⟩ | ⟨hf, hx⟩
  ·exact hf.run _ (f := fun r => _) (by simp only [jae, jak]; exact ⟨trivial, x, true, rfl, hx⟩)
  ·exact hf.run _ (f := fun r => _) (by simp only [jae, jaO hi hz, jak]; exact ⟨trivial, zd, false, by rw [ATy.un_emb hzd], hx⟩)
theorem MpUX.sound {P : Program} {t kt et : TypeId} {m key val : Value} {H : jaa} {k : jaa → Prop}
 (ht : P.underlying t = some (.map kt et)) (h : MpUX P kt m key val H k) : SW P (Instr.mapUpdate t m key val) (fun _ => k) H := by
 obtain ⟨r, es, cl, rfl, hr, hfind⟩ := h
 have jdv : ∀ (o : Obj) (X : Unit → jaa → Prop), X () (H.setIfInBounds r o) → SW P (setObj r o) X H := fun o X hX => ⟨⟨_, hr, by intro c e fr h'; cases h'⟩, hX⟩
 unfold Instr.mapUpdate
 simp only [jae, jal ht]
 refine jbD hr _ ?_
 simp only [jae]
 rcases hfind with ⟨i, x, hf, hs, hx⟩ | ⟨hf, hx⟩
 ·refine hf.run _ (f := fun r => _) ?_
  simp only [jae]
  unfold Instr.keyThatStays
  have hs' : Instr.sameBits 10000 (((⟨es⟩ : Array MapEntry)[i]?.map (·.key)).getD key) key = true := by simpa using hs
  simp only [hs', if_true, jak]
  exact jdv _ _ hx
 ·exact hf.run _ (f := fun r => _) (jdv _ _ hx)
theorem jme {P : Program} (r : Nat) (k : Option (TypeId × Nat) → jaa → Prop) (H : jaa) : SW P (shape r) k H = k (jck H r) H := rfl
theorem jlh {P : Program} (a : Addr) (k : Bool → jaa → Prop) (H : jaa) : SW P (frozen a) k H = k (jba H a) H := rfl
theorem jiz {P : Program} {a b : Addr} {H : jaa} {k : Bool → jaa → Prop} (h : (a = b ∧ k true H) ∨ (a ≠ b ∧ k false H ∧ ∃ ca ta cb tb, H[a.block]? = some (.cells ca ta (0, 0)) ∧ H[b.block]? = some (.cells cb tb (0, 0)))) : SW P (sameAddr a b) k H := by
 unfold sameAddr
 rcases h with ⟨rfl, h⟩ | ⟨hne, h, ca, ta, cb, tb, ha, hb⟩
 ·simp only [beq_self_eq_true, if_true, jae, jak]; exact h
 ·by_cases e : a.block = b.block
  ·simp only [e, beq_self_eq_true, if_true, jak, beq_eq_false_iff_ne.2 hne]; exact h
  ·have e' : (a.block == b.block) = false := beq_eq_false_iff_ne.2 e
   have fa : ∀ o, jba H ⟨a.block, o, none⟩ = false := fun o => by unfold jba; rw [ha]; simp
   have fb : ∀ o, jba H ⟨b.block, o, none⟩ = false := fun o => by unfold jba; rw [hb]; simp
   have fa' : jba H a = false := by unfold jba; rw [ha]; simp
   have fb' : jba H b = false := by unfold jba; rw [hb]; simp
   have sa : jck H a.block = some (ta, ca.size) := by unfold jck; rw [ha]
   have sb : jck H b.block = some (tb, cb.size) := by unfold jck; rw [hb]
   simp only [e', Bool.false_eq_true, if_false, jae, jlh, fa', jak, Bool.and_false, Bool.false_and, noView, viewAt, jme, sa, sb, Option.isSome_some, if_true, mayBeOne, stringish, fb', fa, fb, jfQ, Option.isSome_none]
   exact h
theorem PtrEq.sound {P : Program} {t e : TypeId} {i : TypeInfo} {p q : Option Addr} {H : jaa} {k : Bool → Prop} {n : Nat} (ht : P.underlying t = some (.pointer e)) (hi : P.info? e = some i) (hz : i.size ≠ 0) (h : PtrEq p q H k) :
 SW P (Op.equalIn (n + 1) t (.pointer p) (.pointer q)) (fun b H' => k b ∧ H' = H) H := by
 obtain ⟨b, hb, h⟩ := h
 rw [Op.equalIn]
 simp only [jae, jal ht]
 match p, q, h with
 | none, q, h => subst h; exact ⟨hb, rfl⟩
 | some _, none, h => subst h; exact ⟨hb, rfl⟩
 | some a, some c, h =>
   simp only [jae, jbA hi, ne_eq, hz, not_false_eq_true, if_true]
   exact jiz (h.imp (fun ⟨h1, h2⟩ => by subst h2; exact ⟨h1, hb, rfl⟩) fun ⟨h1, h2, h3⟩ => by subst h2; exact ⟨h1, ⟨hb, rfl⟩, h3⟩)
theorem MpN.sound {P : Program} {t ty : TypeId} {kt et : TypeId} {m : Value} {H : jaa} {k : Int → Prop} (ht : P.underlying t = some (.map kt et)) (h : MpN m H k) :
 SW P (Builtin.len_ #[t] ty #[m]) (fun v H' => H' = H ∧ ∃ n : Int, v = .int .i64 n ∧ k n) H := by
 obtain ⟨es, hes, hk⟩ := h
 unfold Builtin.len_
 simp only [List.getElem?_toArray, List.getElem?_cons_zero, jae, jal ht]
 rcases hes with ⟨rfl, rfl⟩ | ⟨r, cl, rfl, hr⟩
 ·exact ⟨rfl, _, rfl, hk⟩
 ·simp only [jae]
  refine jbD hr _ ?_
  exact ⟨rfl, _, rfl, by simpa using hk⟩
theorem MpR.sound {P : Program} {t kt et : TypeId} {m : Value} {H : jaa} {k : Addr → jaa → Prop} (ht : P.underlying t = some (.map kt et)) (h : MpR m H k) :
 SW P (Instr.range t m) (fun v H' => ∃ a, v = .pointer (some a) ∧ k a H') H := by
 unfold Instr.range
 simp only [jae, jal ht]
 rcases h with ⟨rfl, hk⟩ | ⟨r, es, cl, rfl, hr, hk⟩
 ·simp only [jak, newObj, SW]
  exact ⟨_, rfl, hk⟩
 ·simp only [jae]
  refine jbD hr _ ?_
  simp only [jak, newObj, SW]
  exact ⟨_, rfl, hk⟩
theorem MpX.sound {P : Program} {ty : TypeId} {it : Addr} {H : jaa} {k : Option (Value × Value) → jaa → Prop} (h : MpX it H k) :
 SW P (Instr.next (.pointer (some it)) false ty) (fun v H' => (v = .tuple #[.bool false] ∧ k none H') ∨ ∃ x y, v = .tuple #[.bool true, x, y] ∧ k (some (x, y)) H') H := by
 obtain ⟨h0, h⟩ := h
 obtain ⟨ib, io, isp⟩ := it
 dsimp only at h0 h
 subst h0
 have hget : ∀ (o : Obj) (X : Obj → jaa → Prop), H[ib]? = some o → (∀ c e fr, o ≠ .cells c e fr) → X o H → SW P (getObj ib) X H := fun o X h1 h2 h3 => ⟨o, h1, h2, h3⟩
 unfold Instr.next
 simp only [jae]
 rcases h with ⟨s, se, la, hr, hk⟩ | ⟨r, es, cl, se, hr, hm, hborn, hnone, hsome⟩
 ·refine hget _ _ hr (by intro c e fr h'; cases h') ?_
  exact .inl ⟨rfl, hk⟩
 ·refine hget _ _ hr (by intro c e fr h'; cases h') ?_
  simp only [jae]
  refine jbD hm _ ?_
  have hbad : (!se.isEmpty && !(⟨es⟩ : Array MapEntry).isEmpty && (⟨es⟩ : Array MapEntry).all (fun e => decide (e.born ≥ cl))) = false := by
   cases es with
   | nil => simp
   | cons e es =>
     have : e.born < cl := hborn e (by simp)
     have hall : ((⟨e :: es⟩ : Array MapEntry).all fun e => decide (e.born ≥ cl)) = false := by
      simp; omega
     rw [hall]; simp
  simp only [hbad, Bool.false_eq_true, if_false, jae]
  intro n hp
  simp only [Poss] at hp
  have hnew : (Array.filter (fun e => decide (e.born ≥ cl)) (Array.filter (fun e => !se.contains e.born) (⟨es⟩ : Array MapEntry))) = #[] := by
   rw [Array.filter_eq_empty_iff]
   intro e he
   have := (Array.mem_filter.1 he).1
   have := hborn e (by simpa using this)
   simp; omega
  have hold : (Array.filter (fun e => decide (e.born < cl)) (Array.filter (fun e => !se.contains e.born) (⟨es⟩ : Array MapEntry))) = Array.filter (fun e => !se.contains e.born) (⟨es⟩ : Array MapEntry) := by
   rw [Array.filter_eq_self]
   intro e he
   have := (Array.mem_filter.1 he).1
   have := hborn e (by simpa using this)
   simpa using this
  simp only [hnew, hold, Array.append_empty] at hp ⊢
  obtain ⟨left, hleft⟩ : ∃ left, left = Array.filter (fun e => !se.contains e.born) (⟨es⟩ : Array MapEntry) := ⟨_, rfl⟩
  rw [← hleft] at hp ⊢
  have hmem : ∀ e ∈ left, e ∈ es ∧ se.contains e.born = false := fun e he => by
   rw [hleft] at he
   have := Array.mem_filter.1 he
   exact ⟨by simpa using this.1, by simpa using this.2⟩
  by_cases hemp : left.isEmpty = true
  ·have hle : left = #[] := by simpa using hemp
   simp only [hle]
   have hall : ∀ e ∈ es, se.contains e.born = true := fun e he => by
    cases hc : se.contains e.born with
    | true => rfl
    | false =>
      have : e ∈ left := by rw [hleft]; exact Array.mem_filter.2 ⟨by simpa using he, by rw [hc]; rfl⟩
      rw [hle] at this; simp at this
   have hn0 : n = 0 := by
    rw [hle] at hp
    simp at hp
    split at hp
    ·exact hp
    ·obtain ⟨t, ht⟩ := hp
     simp [Question.cut] at ht; omega
   subst hn0
   simp only [Array.isEmpty_empty, if_true, Array.map_empty, Array.append_empty]
   exact Or.inl ⟨rfl, hnone hall⟩
  ·have hne : left.isEmpty = false := by simpa using hemp
   have hpos : 0 < left.size := by
    rcases Nat.eq_zero_or_pos left.size with h | h
    ·exact absurd (by simpa using h) hemp
    ·exact h
   simp only [hne, Bool.false_eq_true, if_false, Array.empty_append]
   have hlt : n < left.size := by
    simp only [hne, Bool.false_eq_true, if_false, Array.empty_append, Array.size_map] at hp
    split at hp
    ·omega
    ·obtain ⟨t, ht⟩ := hp
     simp only [Question.cut] at ht
     subst ht
     exact Nat.mod_lt _ hpos
   have hg : (left.map some)[n]? = some (some left[n]) := by
    rw [Array.getElem?_map, Array.getElem?_eq_getElem hlt]; rfl
   rw [show SW P (Sem.pure n) = fun (k : Nat → jaa → Prop) H => k n H from rfl]
   simp only [hg, jae]
   refine ⟨⟨_, hr, by intro c e fr h'; cases h'⟩, ?_⟩
   obtain ⟨h1, h2⟩ := hmem _ (Array.getElem_mem hlt)
   exact .inr ⟨_, _, rfl, hsome _ h1 h2⟩
theorem MpC.sound {P : Program} {it : Addr} {H : jaa} {k : Value → Value → Prop} (h : MpC it H k) :
 SW P (Instr.entry (.pointer (some it))) (fun v H' => H' = H ∧ ∃ x y, v = .tuple #[x, y] ∧ k x y) H := by
 obtain ⟨h0, r, s, se, cl, es, stamp, e, h1, h2, h3, h4, hk⟩ := h
 obtain ⟨ib, io, isp⟩ := it
 dsimp only at h0 h1
 subst h0
 have hget : ∀ (o : Obj) (X : Obj → jaa → Prop), H[ib]? = some o → (∀ c e fr, o ≠ .cells c e fr) → X o H → SW P (getObj ib) X H := fun o X h1 h2 h3 => ⟨o, h1, h2, h3⟩
 unfold Instr.entry
 simp only [jae]
 refine hget _ _ h1 (by intro c e fr h'; cases h') ?_
 simp only [h3, jae]
 refine jbD h2 _ ?_
 simp only [bne_self_eq_false, Bool.false_eq_true, if_false, h4]
 exact ⟨rfl, _, _, rfl, hk⟩
def evL (F : AFrame) : List Operand → Option (List Value)
 | [] => some []
 | x :: xs => (ev F x).bind fun v => (evL F xs).map fun vs => v :: vs
def evP (F : AFrame) : List (Nat × Operand) → Option (List (Nat × Value))
 | [] => some []
 | (i, x) :: xs => (ev F x).bind fun v => (evP F xs).map fun vs => (i, v) :: vs
theorem jcD {n : Nat} {F : AFrame} {a : Act} (hag : Ag n F a) : ∀ {l : List Operand} {vs : List Value}, evL F l = some vs → l.map a.eval = vs
 | [], vs, h => by simp only [evL, Option.some.injEq] at h; subst h; rfl
 | x :: xs, vs, h => by
   simp only [evL, Option.bind_eq_some_iff, Option.map_eq_some_iff] at h
   obtain ⟨v, hv, us, hus, rfl⟩ := h
   simp [hag.ev hv, jcD hag hus]
theorem jjQ {n : Nat} {F : AFrame} {a : Act} (hag : Ag n F a) : ∀ {l : List (Nat × Operand)} {vs : List (Nat × Value)}, evP F l = some vs → l.map (fun p => (p.1, a.eval p.2)) = vs
 | [], vs, h => by simp only [evP, Option.some.injEq] at h; subst h; rfl
 | (i, x) :: xs, vs, h => by
   simp only [evP, Option.bind_eq_some_iff, Option.map_eq_some_iff] at h
   obtain ⟨v, hv, us, hus, rfl⟩ := h
   simp [hag.ev hv, jjQ hag hus]
def ji3 (P : Program) (kp k : Value → jaa → Prop) : Next → jaa → Prop
 | .value v, H => k v H
 | .skip, H => k undef H
 | .enter f args, H => CallVE P f args H kp k
 | _, _ => False
def jf6 (P : Program) (o : Oper) : Nat :=
 match o.op with
 | .load _ _ => 1
 | .store _ _ _ | .alloc _ | .box _ _ | .buildSlice _ _ _ | .makeSlice _ _ _ | .makeMap _ _ | .lookup _ _ _ _ | .mapUpdate _ _ _ _ | .insert _ _ _ _ => 2
 | .range t _ => match P.underlying t with
   | some (.map _ _) => 2
   | _ => 3
 | .next _ s => match s with
   | true => 3
   | false => 2
 | .entry _ => 2
 | .convert s d _ => match P.underlying s, P.underlying d with
   | some (.slice _), some .string => 2
   | some .string, some (.slice _) => 2
   | some (.slice _), some (.slice _) => 2
   | _, _ => 0
 | .call c => match c.callee with
   | .builtin .len => (match c.argTypes.toList with
     | [t] => (match P.underlying t with
       | some (.map _ _) => 2
       | _ => 0)
     | _ => 0)
   | .builtin .cap | .builtin .min | .builtin .max => 0
   | _ => 2
 | .binOp op t x y _ => (match op with
   | .eql | .neq => (match P.underlying t with
     | some (.pointer _) => (match x, y with
       | .const _, _ => 0
       | _, .const _ => 0
       | _, _ => 2)
     | _ => 0)
   | _ => 0)
 | .panic _ => 4
 | .select _ _ | .go _ | .defer _ | .send _ _ | .recv _ _ _ => 3
 | _ => 0
def jlF (P : Program) (sv xv : Value) (t u : TypeId) (H : jaa) (k : Value → jaa → Prop) : Prop :=
 match sv, P.underlying t with
 | .slice a l c, some (.slice e) => (match P.info? e with
   | some i => (match i.zero with
     | some z => (match xv, P.underlying u with
       | .slice a' l' c', some (.slice _) => App e i.size i.bytes z.cells ⟨a, l, c⟩ ⟨a', l', c'⟩ H fun s H' => k (.slice s.a s.len s.cap) H'
       | .string x, some .string => bif Nat.beq i.size 1 then AppStr e i.bytes z.cells ⟨a, l, c⟩ x H fun s H' => k (.slice s.a s.len s.cap) H' else False
       | _, _ => False)
     | none => False)
   | none => False)
 | _, _ => False
def ECopy (P : Program) (dv sv : Value) (t : TypeId) (H : jaa) (k : Value → jaa → Prop) : Prop :=
 match dv, sv, P.underlying t with
 | .slice a l c, .slice a' l' c', some (.slice e) => (match P.info? e with
   | some i => Cpy i.size ⟨a, l, c⟩ ⟨a', l', c'⟩ H fun n H' => k (.int .i64 n) H'
   | none => False)
 | _, _, _ => False
def jnb (P : Program) (sv : Value) (t : TypeId) (H : jaa) (k : Value → jaa → Prop) : Prop :=
 match sv, P.underlying t with
 | .slice a l c, some (.slice e) => (match P.info? e with
   | some i => (match i.zero with
     | some z => Clr z.cells ⟨a, l, c⟩ H fun H' => k (.tuple #[]) H'
     | none => False)
   | none => False)
 | _, _ => False
def ECall (P : Program) (PL : List Nat) (c : Go.Call) (ty : TypeId) (F : AFrame) (H : jaa) (kp k : Value → jaa → Prop) : Prop :=
 match c.callee with
 | .value (.func g) => match evL F c.args.toList, rtyOf P ty with
   | some vs, some r => (match memP g PL with
     | true => CallE P g vs r H kp fun d H' => k (r.emb d) H'
     | false => CallT P g vs r H fun d H' => k (r.emb d) H')
   | _, _ => False
 | .value f => match ev F f, evL F c.args.toList, rtyOf P ty with
   | some v, some vs, some r => (match PL with
     | [] => jkw P v vs r H fun d H' => k (r.emb d) H'
     | _ => jjv P v vs r H kp fun d H' => k (r.emb d) H')
   | _, _, _ => False
 | .builtin .len => match evL F c.args.toList, c.argTypes.toList with
   | some [m], [t] => (match P.underlying t with
     | some (.map _ _) => MpN m H fun n => k (.int .i64 n) H
     | _ => False)
   | _, _ => False
 | .builtin .append => match evL F c.args.toList, c.argTypes.toList with
   | some [s, x], [t, u] => jlF P s x t u H k
   | _, _ => False
 | .builtin .copy => match evL F c.args.toList, c.argTypes.toList with
   | some [s, x], [t, _] => ECopy P s x t H k
   | _, _ => False
 | .builtin .clear => match evL F c.args.toList, c.argTypes.toList with
   | some [s], [t] => jnb P s t H k
   | _, _ => False
 | _ => False
def EAct (P : Program) (PL : List Nat) (o : Oper) (F : AFrame) (H : jaa) (kp k : Value → jaa → Prop) : Prop :=
 match o.op with
 | .store t x y => match ev F x, ev F y with
   | some (.pointer (some a)), some v => EStore P t a v H (k undef)
   | _, _ => False
 | .alloc e => match P.info? e with
   | some i => (match i.zero with
     | some z => Nw z.cells e H fun b H' => k (.pointer (some ⟨b, 0, none⟩)) H'
     | none => False)
   | none => False
 | .box e x => match ev F x with
   | some v => Nw v.cells e H fun b H' => k (.pointer (some ⟨b, 0, none⟩)) H'
   | none => False
 | .buildSlice t len parts => match P.underlying t, evP F parts.toList with
   | some (.slice e), some vs => (match P.info? e with
     | some i => (match i.zero with
       | some z => bif Nat.ble (len * i.size) (2 ^ 24) then (match Instr.fill (fun j => some (j * i.size, i.size)) (jbq z.cells (len * i.size)) vs with
         | some cs => Nw cs e H fun b H' => k (.slice (some ⟨b, 0, none⟩) len len) H'
         | none => False) else False
       | none => False)
     | none => False)
   | _, _ => False
 | .makeSlice t x y => match P.underlying t, ev F x, ev F y with
   | some (.slice e), some (.int _ l), some (.int _ c) => (match P.info? e with
     | some i => (match i.zero with
       | some z => Mks e i.size i.bytes z.cells l c H fun s H' => k (.slice s.a s.len s.cap) H'
       | none => False)
     | none => False)
   | _, _, _ => False
 | .convert s d x => match P.underlying s, P.underlying d, ev F x with
   | some (.slice e), some .string, some (.slice a l c) => (match P.underlying e with
     | some (.int .u8) => B2S ⟨a, l, c⟩ H fun r => k (.string r) H
     | _ => False)
   | some .string, some (.slice e), some (.string r) => (match P.underlying e with
     | some (.int .u8) => S2B e r H fun s H' => k (.slice s.a s.len s.cap) H'
     | _ => False)
   | some (.slice _), some (.slice e), some (.slice (some a) l c) => (match P.underlying e with
     | some (.int .u8) => bif Nat.beq s d then Mrk a H fun H' => k (.slice (some a) l c) H' else False
     | _ => False)
   | _, _, _ => False
 | .makeMap _ r => (match r with
   | none => MkM H k
   | some x => (match ev F x with
     | some (.int _ _) => bif Nat.beq 0 1 then False else False
     | _ => False))
 | .lookup t x i ok => match P.underlying t, ev F x, ev F i with
   | some (.map kt et), some m, some key => (match P.underlying kt, tyA P et, P.info? et with
     | some d, some a, some inf => bif jl8 d then (match inf.zero with
       | some z => opt (a.un z) fun zd => MpL d a zd m key H fun x b => k (match ok with | true => .tuple #[a.emb x, .bool b] | false => a.emb x) H
       | none => False) else (match inf.zero with
       | some z => opt (a.un z) fun zd => MpLX P kt a zd m key H fun x b => k (match ok with | true => .tuple #[a.emb x, .bool b] | false => a.emb x) H
       | none => False)
     | _, _, _ => False)
   | _, _, _ => False
 | .mapUpdate t x i y => match P.underlying t, ev F x, ev F i, ev F y with
   | some (.map kt _), some m, some key, some v => (match P.underlying kt with
     | some d => bif jl8 d then MpU d m key v H (k undef) else MpUX P kt m key v H (k undef)
     | none => False)
   | _, _, _, _ => False
 | .insert t x i y => match P.underlying t, ev F x, ev F i, ev F y with
   | some (.map kt _), some m, some key, some v => (match P.underlying kt with
     | some d => bif jl8 d then MpU d m key v H (k undef) else False
     | none => False)
   | _, _, _, _ => False
 | .range t x => match P.underlying t, ev F x with
   | some (.map _ _), some m => MpR m H fun a H' => k (.pointer (some a)) H'
   | _, _ => False
 | .next x s => match s, ev F x with
   | false, some (.pointer (some a)) => MpXk a H (fun H' => k (.tuple #[.bool false]) H') fun x y H' => k (.tuple #[.bool true, x, y]) H'
   | _, _ => False
 | .entry x => match ev F x with
   | some (.pointer (some a)) => MpC a H fun x y => k (.tuple #[x, y]) H
   | _ => False
 | .call c => ECall P PL c o.type F H kp k
 | .binOp op t x y _ => match op, P.underlying t, ev F x, ev F y with
   | .eql, some (.pointer e), some (.pointer p), some (.pointer q) => (match P.info? e with
     | some i => bif Nat.beq i.size 0 then False else PtrEq p q H fun b => k (.bool b) H
     | none => False)
   | .neq, some (.pointer e), some (.pointer p), some (.pointer q) => (match P.info? e with
     | some i => bif Nat.beq i.size 0 then False else PtrEq p q H fun b => k (.bool !b) H
     | none => False)
   | _, _, _, _ => False
 | _ => False
theorem ja8 {P : Program} {s : Sem Value} {kp k : Value → jaa → Prop} {H : jaa} (h : SW P s k H) : SW P (do pure (Next.value (← s))) (ji3 P kp k) H := by
 rw [jae]; exact jaB (fun _ _ h => h) h
theorem jmy {k : Value → jaa → Prop} {v : Value} {H' : jaa} : (∃ s : Sl, v = .slice s.a s.len s.cap ∧ k (.slice s.a s.len s.cap) H') → k v H' := by
 rintro ⟨s, rfl, h⟩; exact h
theorem ECall.sound {P : Program} {PL : List Nat} {c : Go.Call} {ty : TypeId} {n : Nat} {F : AFrame} {a : Act} (hag : Ag n F a) {H : jaa} {kp k : Value → jaa → Prop} (h : ECall P PL c ty F H kp k) :
 SW P (do let d ← resolve a.eval c ty; invoke d.target d.args) (ji3 P kp k) H := by
 unfold ECall at h
 split at h
 ·rename_i g hc
  split at h
  ·rename_i vs r hvs hr
   obtain ⟨⟨fn, hfn, hne, hbody⟩, hcall⟩ : CallE P g vs r H kp fun d H' => k (r.emb d) H' := by
    split at h
    ·exact h
    ·exact h.e
   have hv := jcD hag hvs
   have hargs : c.args.map a.eval = ⟨vs⟩ := by rw [← hv]; apply Array.ext'; simp
   unfold resolve
   simp only [hc, Act.eval, Deferred.ofValue, jae, jak, invoke, callFunc, program, SW, hfn]
   simp only [hne, Bool.false_eq_true, if_false, hbody, jak, ji3]
   intro w hw
   have harr : (#[] : Array Value) ++ c.args.map a.eval ++ #[] = ⟨vs⟩ := by
    rw [hargs]; apply Array.ext'; simp
   rw [harr]
   exact (hcall w hw).mono fun e w' ⟨he, h⟩ => ⟨he, h.imp (fun ⟨d, h1, h2⟩ => ⟨_, h1, h2⟩) id⟩
  ·exact h.elim
 ·rename_i f hnf hc
  split at h
  ·rename_i v vs r hf hvs hr
   obtain ⟨g, fi, ca, rfl, ⟨fn, hfn, hne, hbody⟩, hcall⟩ : jjv P v vs r H kp fun d H' => k (r.emb d) H' := by
    split at h
    ·obtain ⟨g, fi, ca, e, h⟩ := h; exact ⟨g, fi, ca, e, h.e⟩
    ·exact h
   have hv := jcD hag hvs
   have hargs : c.args.map a.eval = ⟨vs⟩ := by rw [← hv]; apply Array.ext'; simp
   unfold resolve
   simp only [hc, hag.ev hf, Deferred.ofValue, jae, jak, invoke, callFunc, program, SW, hfn]
   simp only [hne, Bool.false_eq_true, if_false, hbody, jak, ji3]
   intro w hw
   have harr : fi ++ c.args.map a.eval ++ ca = ⟨fi.toList ++ (vs ++ ca.toList)⟩ := by
    rw [hargs]; apply Array.ext'; simp
   rw [harr]
   exact (hcall w hw).mono fun e w' ⟨he, h⟩ => ⟨he, h.imp (fun ⟨d, h1, h2⟩ => ⟨_, h1, h2⟩) id⟩
  ·exact h.elim
 ·rename_i hc
  split at h
  ·rename_i m t hvs hts
   split at h
   ·rename_i kt et ht
    have hv := jcD hag hvs
    have hargs : c.args.map a.eval = #[m] := by apply Array.ext'; simpa using hv
    have htys : c.argTypes = #[t] := by apply Array.ext'; simpa using hts
    unfold resolve
    simp only [hc, hargs, htys, jae, jak, invoke, builtin]
    exact jaB (fun v H' ⟨hH, n, hn, hk⟩ => by subst hH hn; exact hk) (MpN.sound ht h)
   ·exact h.elim
  ·exact h.elim
 ·rename_i hc
  split at h
  ·rename_i s x t u hvs hts
   have hv := jcD hag hvs
   have hargs : c.args.map a.eval = #[s, x] := by apply Array.ext'; simpa using hv
   have htys : c.argTypes = #[t, u] := by apply Array.ext'; simpa using hts
   unfold resolve
   simp only [hc, hargs, htys, jae, jak, invoke, builtin]
   refine jaB (fun v H' hk => ?_) (k := k) ?_
   ·exact hk
   unfold jlF at h
   split at h
   ·rename_i b l cp e ht
    split at h
    ·rename_i i hi
     split at h
     ·rename_i z hz
      split at h
      ·rename_i b' l' c' e' hu
       exact jaB (fun _ _ => jmy) (App.sound (s := ⟨b, l, cp⟩) (x := ⟨b', l', c'⟩) ht hu (by simp) hi hz h)
      ·rename_i r hu
       cases hb : Nat.beq i.size 1 with
       | false => rw [hb] at h; exact h.elim
       | true =>
         rw [hb] at h
         exact jaB (fun _ _ => jmy) (AppStr.sound (s := ⟨b, l, cp⟩) ht hu hi hz (Nat.eq_of_beq_eq_true hb) h)
      ·exact h.elim
     ·exact h.elim
    ·exact h.elim
   ·exact h.elim
  ·exact h.elim
 ·rename_i hc
  split at h
  ·rename_i s x t u hvs hts
   have hv := jcD hag hvs
   have hargs : c.args.map a.eval = #[s, x] := by apply Array.ext'; simpa using hv
   have htys : c.argTypes = #[t, u] := by apply Array.ext'; simpa using hts
   unfold resolve
   simp only [hc, hargs, htys, jae, jak, invoke, builtin]
   refine jaB (fun v H' hk => ?_) (k := k) ?_
   ·exact hk
   unfold ECopy at h
   split at h
   ·rename_i b l cp b' l' c' e ht
    split at h
    ·rename_i i hi
     exact jaB (fun _ _ ⟨n, hn, hk⟩ => by subst hn; exact hk) (Cpy.sound (d := ⟨b, l, cp⟩) (s := ⟨b', l', c'⟩) ht hi h)
    ·exact h.elim
   ·exact h.elim
  ·exact h.elim
 ·rename_i hc
  split at h
  ·rename_i s t hvs hts
   have hv := jcD hag hvs
   have hargs : c.args.map a.eval = #[s] := by apply Array.ext'; simpa using hv
   have htys : c.argTypes = #[t] := by apply Array.ext'; simpa using hts
   unfold resolve
   simp only [hc, hargs, htys, jae, jak, invoke, builtin]
   refine jaB (fun v H' hk => ?_) (k := k) ?_
   ·exact hk
   unfold jnb at h
   split at h
   ·rename_i b l cp e ht
    split at h
    ·rename_i i hi
     split at h
     ·rename_i z hz
      exact jaB (fun _ _ ⟨hn, hk⟩ => by subst hn; exact hk) (Clr.sound ht hi hz h)
     ·exact h.elim
    ·exact h.elim
   ·exact h.elim
  ·exact h.elim
 ·exact h.elim
theorem EAct.sound {P : Program} {PL : List Nat} {o : Oper} {n : Nat} {F : AFrame} {a : Act} (hag : Ag n F a) {H : jaa} {kp k : Value → jaa → Prop} (h : EAct P PL o F H kp k) :
 SW P (execOp a.eval o) (ji3 P kp k) H := by
 unfold EAct at h
 split at h
 ·rename_i t x y ho
  split at h
  ·rename_i p v hp hv
   simp only [execOp, ho, jae, hag.ev hp, hag.ev hv, Instr.storeAt, Instr.sureAddr, jak]
   exact jaB (fun _ _ hk => hk) (EStore.sound h)
  ·exact h.elim
 ·rename_i e ho
  split at h
  ·rename_i i hi
   split at h
   ·rename_i z hz
    simp only [execOp, ho]
    refine ja8 ?_
    simp only [Instr.alloc, jae, jaO hi hz, newVar, jbx, jak]
    exact h
   ·exact h.elim
  ·exact h.elim
 ·rename_i e x ho
  split at h
  ·rename_i v hv
   simp only [execOp, ho, hag.ev hv]
   refine ja8 ?_
   simp only [Instr.box, jae, newVar, jbx, jak]
   exact h
  ·exact h.elim
 ·rename_i t len parts ho
  split at h
  ·rename_i e vs ht hvs
   split at h
   ·rename_i i hi
    split at h
    ·rename_i z hz
     cases hb : Nat.ble (len * i.size) (2 ^ 24) with
     | false => rw [hb] at h; exact h.elim
     | true =>
       rw [hb] at h
       simp only [cond_true] at h
       split at h
       ·rename_i cs hcs
        have hle : len * i.size ≤ 2 ^ 24 := Nat.le_of_ble_eq_true hb
        have hv := jjQ hag hvs
        have hparts : (parts.map fun (i, x) => (i, a.eval x)).toList = vs := by rw [← hv]; simp
        simp only [execOp, ho]
        refine ja8 ?_
        have hz0 : (len * i.size = 0) → (Array.range (len * i.size)).map ((#[] : Array Value)[· % (#[] : Array Value).size]!) = jbq z.cells (len * i.size) := by
         intro h0; rw [h0]; simp [jbq]
        simp only [Instr.buildSlice, jae, jal ht, jbA hi, jfQ, hparts, Nat.not_lt.2 hle, gt_iff_lt, if_false, jak]
        by_cases h0 : len * i.size = 0
        ·simp only [h0, if_true]
         simp only [h0] at hz0 hcs
         rw [hz0 trivial, hcs]
         simp only [jae, jbx, jak]
         exact h
        ·simp only [h0, if_false, jaO hi hz]
         unfold jbq at hcs
         rw [hcs]
         simp only [jae, jbx, jak]
         exact h
       ·exact h.elim
    ·exact h.elim
   ·exact h.elim
  ·exact h.elim
 ·rename_i t x y ho
  split at h
  ·rename_i e k1 l k2 c ht hx hy
   split at h
   ·rename_i i hi
    split at h
    ·rename_i z hz
     simp only [execOp, ho, hag.ev hx, hag.ev hy]
     refine ja8 ?_
     exact jaB (fun _ _ => jmy) (Mks.sound ht hi hz h)
    ·exact h.elim
   ·exact h.elim
  ·exact h.elim
 ·rename_i s d x ho
  split at h
  ·rename_i e b l c hs hd hx
   split at h
   ·rename_i he
    simp only [execOp, ho, hag.ev hx]
    refine ja8 ?_
    simp only [convert, jae, jal hs, jal hd, jal he]
    exact jaB (fun v H' ⟨hH, r, hr, hk⟩ => by subst hH hr; exact hk) (B2S.sound (s := ⟨b, l, c⟩) h)
   ·exact h.elim
  ·rename_i e r hs hd hx
   split at h
   ·rename_i he
    simp only [execOp, ho, hag.ev hx]
    refine ja8 ?_
    simp only [convert, jae, jal hs, jal hd, jal he]
    exact jaB (fun _ _ => jmy) (S2B.sound h)
   ·exact h.elim
  ·rename_i e' e b l c hs hd hx
   split at h
   ·rename_i he
    cases hb : Nat.beq s d with
    | false => rw [hb] at h; exact h.elim
    | true =>
      rw [hb] at h
      obtain ⟨e2, n2, hsh, hk⟩ := (h : Mrk _ _ _)
      have hsd : s = d := Nat.eq_of_beq_eq_true hb
      subst hsd
      have hee : e' = e := by rw [hs] at hd; simpa using hd
      subst hee
      simp only [execOp, ho, hag.ev hx]
      refine ja8 ?_
      simp only [convert, jae, jal hs, jal he, beq_self_eq_true, markStringish, shape, SW, hsh, freeze, jak]
      exact hk
   ·exact h.elim
  ·exact h.elim
 ·rename_i mt r ho
  split at h
  ·simp only [execOp, ho]
   refine ja8 ?_
   simp only [Instr.makeMap, Option.map_none, jae, jak, newObj, SW]
   exact h
  ·split at h
   ·exact h.elim
   ·exact h.elim
 ·rename_i t x i ok ho
  split at h
  ·rename_i kt et m key ht hx hi
   split at h
   ·rename_i d b inf hkt hb hinf
    cases hkd : jl8 d with
    | false =>
      rw [hkd] at h
      simp only [cond_false] at h
      split at h
      ·rename_i z hz
       obtain ⟨zd, hzd, h⟩ := jaW h
       simp only [execOp, ho, hag.ev hx, hag.ev hi]
       refine ja8 (jaB (fun v H' ⟨hH, x, bb, hv, hk⟩ => ?_) (MpLX.sound (ok := ok) ht hinf hz hzd h))
       subst hH hv
       cases ok <;> exact hk
      ·exact h.elim
    | true =>
      rw [hkd] at h
      simp only [cond_true] at h
      split at h
      ·rename_i z hz
       obtain ⟨zd, hzd, h⟩ := jaW h
       simp only [execOp, ho, hag.ev hx, hag.ev hi]
       refine ja8 (jaB (fun v H' ⟨hH, x, bb, hv, hk⟩ => ?_) (MpL.sound (ok := ok) ht hkt hkd hinf hz hzd h))
       subst hH hv
       cases ok <;> exact hk
      ·exact h.elim
   ·exact h.elim
  ·exact h.elim
 ·rename_i t x i y ho
  split at h
  ·rename_i kt et m key v ht hx hi hy
   split at h
   ·rename_i d hkt
    cases hkd : jl8 d with
    | false =>
      rw [hkd] at h
      simp only [execOp, ho, hag.ev hx, hag.ev hi, hag.ev hy, jae]
      exact jaB (fun _ _ hk => hk) (MpUX.sound ht h)
    | true =>
      rw [hkd] at h
      simp only [execOp, ho, hag.ev hx, hag.ev hi, hag.ev hy, jae]
      exact jaB (fun _ _ hk => hk) (MpU.sound ht hkt hkd h)
   ·exact h.elim
  ·exact h.elim
 ·rename_i t x i y ho
  split at h
  ·rename_i kt et m key v ht hx hi hy
   split at h
   ·rename_i d hkt
    cases hkd : jl8 d with
    | false => rw [hkd] at h; exact h.elim
    | true =>
      rw [hkd] at h
      simp only [execOp, ho, hag.ev hx, hag.ev hi, hag.ev hy, jae]
      exact jaB (fun _ _ hk => hk) (MpU.sound ht hkt hkd h)
   ·exact h.elim
  ·exact h.elim
 ·rename_i t x ho
  split at h
  ·rename_i kt et m ht hx
   simp only [execOp, ho, hag.ev hx]
   exact ja8 (jaB (fun v H' ⟨b, hv, hk⟩ => by subst hv; exact hk) (MpR.sound ht h))
  ·exact h.elim
 ·rename_i x s ho
  split at h
  ·rename_i it hx
   simp only [execOp, ho, hag.ev hx]
   refine ja8 (jaB (fun v H' hk => ?_) (MpX.sound h))
   rcases hk with ⟨rfl, hk⟩ | ⟨x, y, rfl, hk⟩
   ·exact hk
   ·exact hk
  ·exact h.elim
 ·rename_i x ho
  split at h
  ·rename_i it hx
   simp only [execOp, ho, hag.ev hx]
   refine ja8 (jaB (fun v H' hk => ?_) (MpC.sound h))
   obtain ⟨rfl, x, y, rfl, hk⟩ := hk
   exact hk
  ·exact h.elim
 ·rename_i c ho
  simp only [execOp, ho]
  exact ECall.sound hag h
 ·rename_i op t x y u ho
  split at h
  ·rename_i e p q ht hx hy
   split at h
   ·rename_i i hi
    cases hz : Nat.beq i.size 0 with
    | true => rw [hz] at h; exact h.elim
    | false =>
      rw [hz] at h
      simp only [execOp, ho, hag.ev hx, hag.ev hy]
      refine ja8 ?_
      have e : (do eqGuard .eql t x y (.pointer p) (.pointer q); binOp .eql t (.pointer p) (.pointer q) : Sem Value) = (do pure (.bool (← Op.equal t (.pointer p) (.pointer q)))) := by simp [eqGuard, binOp]
      refine (congrArg (fun s => SW P s k H) e).mpr ?_
      rw [jae]
      exact jaB (fun b H' ⟨h1, h2⟩ => by subst h2; exact h1) (PtrEq.sound (n := 9999) ht hi (Nat.ne_of_beq_eq_false hz) h)
   ·exact h.elim
  ·rename_i e p q ht hx hy
   split at h
   ·rename_i i hi
    cases hz : Nat.beq i.size 0 with
    | true => rw [hz] at h; exact h.elim
    | false =>
      rw [hz] at h
      simp only [execOp, ho, hag.ev hx, hag.ev hy]
      refine ja8 ?_
      have e : (do eqGuard .neq t x y (.pointer p) (.pointer q); binOp .neq t (.pointer p) (.pointer q) : Sem Value) = (do pure (.bool (!(← Op.equal t (.pointer p) (.pointer q))))) := by simp [eqGuard, binOp]
      refine (congrArg (fun s => SW P s k H) e).mpr ?_
      rw [jae]
      exact jaB (fun b H' ⟨h1, h2⟩ => by subst h2; exact h1) (PtrEq.sound (n := 9999) ht hi (Nat.ne_of_beq_eq_false hz) h)
   ·exact h.elim
  ·exact h.elim
 ·exact h.elim
def EOp (P : Program) (PL : List Nat) (o : Oper) (F : AFrame) (H : jaa) (kp k : Value → jaa → Prop) : Prop :=
 match jf6 P o with
 | 0 => EPure P o F fun v => k v H
 | 1 => ELoad P o F H fun v _ => k v H
 | 2 => EAct P PL o F H kp k
 | 4 => (match o.op with
   | .panic x => (match ev F x with
     | some (.iface t u) => kp (.iface t u) H
     | _ => False)
   | _ => False)
 | _ => False
theorem jkl {P : Program} {o : Oper} {a : Act} {w : World} {kp k : Value → jaa → Prop} {next : Act → World → Prop} {Q : Exit → Act → World → Prop}
 (h : SW P (execOp a.eval o) (ji3 P kp k) w.heap) (hp : ∀ v w', SameEnv w w' → kp v w'.heap → Q (.panic [{ v, recovered := false }]) a w') (hk : ∀ v w', SameEnv w w' → k v w'.heap → next (a.put o.dst v) w') : o.wp P a w next Q := by
 obtain ⟨nx, w', hr, he, hn⟩ := SW.sound h
 unfold Oper.wp
 rw [hr]
 cases nx <;> simp only [ji3] at hn
 case value v => exact hk v w' he hn
 case skip => exact hk undef w' he hn
 case enter f args =>
  refine (hn w' rfl).mono ?_
  rintro e w'' ⟨he', ⟨v, rfl, hkv⟩ | ⟨v, rfl, hkv⟩⟩
  ·exact hk v w'' (he.trans he') hkv
  ·exact hp v w'' (he.trans he') hkv
theorem jeB {P : Program} {o : Oper} (h : jf6 P o ≠ 3) : ∀ cs b, o.op ≠ .select cs b := by
 intro cs b he; exact h (by unfold jf6; rw [he])
theorem EOp.sound {P : Program} {PL : List Nat} {o : Oper} {n : Nat} {F : AFrame} {a : Act} (hag : Ag n F a) {w : World} {kp k : Value → jaa → Prop} {next : Act → World → Prop} {Q : Exit → Act → World → Prop}
 (h : EOp P PL o F w.heap kp k) (hp : ∀ v w', SameEnv w w' → kp v w'.heap → Q (.panic [{ v, recovered := false }]) a w') (hk : ∀ v w', SameEnv w w' → k v w'.heap → next (a.put o.dst v) w') : o.wp P a w next Q := by
 unfold EOp at h
 split at h
 ·rename_i hkind
  obtain ⟨v, hr, hv⟩ := EPure.sound hag (jeB (P := P) (by rw [hkind]; decide)) h
  unfold Oper.wp
  rw [hr w]
  exact hk v w (.refl w) hv
 ·obtain ⟨v, Ls, hr, hL, hv⟩ := ELoad.sound hag h
  unfold Oper.wp
  rw [hr w hL]
  exact hk v w (.refl w) hv
 ·exact jkl (EAct.sound hag h) hp hk
 ·split at h
  ·rename_i x ho
   split at h
   ·rename_i t u hx
    unfold Oper.wp
    have e : (execOp a.eval o).run P w = .halt (.panic (.iface t u)) w := by
     simp only [execOp, ho, hag.ev hx]; rfl
    rw [e]
    exact hp _ w (.refl w) h
   ·exact h.elim
  ·exact h.elim
 ·exact h.elim
section
section
variable {P : Program} {ops : Array Oper} {Q : Exit → Act → World → Prop}
def jeD (P : Program) (ops : Array Oper) (Q : Exit → Act → World → Prop) (R : Nat → World → World → Prop) : Nat → Array Bool → Act → World → Prop
 | 0, listed, a, w => Region.ready .any ops listed = [] ∧ Q .normal a w
 | fuel + 1, listed, a, w =>
   (Region.ready .any ops listed = [] → Q .normal a w) ∧
   ∀ i ∈ Region.ready .any ops listed, wpOp P ops Q i (fun a' w' => R i w w' ∧ jeD P ops Q R fuel (listed.setIfInBounds i true) a' w') a w
theorem jgH {R : Nat → World → World → Prop} : ∀ (fuel : Nat) (listed : Array Bool) (a : Act) (w : World), jeD P ops Q R fuel listed a w → wpAny P .any ops Q fuel listed a w
 | 0, _, _, _, h => h
 | fuel + 1, _, _, _, h => ⟨h.1, fun i hi => wpOp_mono (fun a' w' h' => jgH fuel _ a' w' h'.2) (h.2 i hi)⟩
theorem jfY {R R' : Nat → World → World → Prop} (hr : ∀ i w w', R' i w w' → R i w w') : ∀ (fuel : Nat) (listed : Array Bool) (a : Act) (w : World), jeD P ops Q R' fuel listed a w → jeD P ops Q R fuel listed a w
 | 0, _, _, _, h => h
 | fuel + 1, _, _, _, h => ⟨h.1, fun i hi => wpOp_mono (fun a' w' h' => ⟨hr _ _ _ h'.1, jfY hr fuel _ a' w' h'.2⟩) (h.2 i hi)⟩
def jiu (ops : Array Oper) (j i : Nat) : Bool :=
 match ops[j]? with
 | some o => o.after.toList.any fun e => Region.binds .any e && Nat.beq e.on i
 | none => false
theorem jh8 {R : Nat → World → World → Prop} {S : World → Prop} {i : Nat} {oi : Oper} {v : Value} (hi : ops[i]? = some oi)
 (hsel : ∀ (j : Nat) (o : Oper) cs b, ops[j]? = some o → o.op ≠ .select cs b)
 (hQ : ∀ c a w, Q (.panic c) (a.put oi.dst v) w → Q (.panic c) a w)
 (hR : ∀ j w w', jiu ops j i = false → S w → R j w w' → S w') (hRi : ∀ w, R i w w) :
 ∀ (fuel : Nat) (listed : Array Bool) (a : Act) (w : World),
  (∀ j oj, ops[j]? = some oj → j ≠ i → listed.getD j true = false → (∀ e ∈ oj.after, Region.binds .any e = true → e.on ≠ i) → oi.apart ops oj = true) →
  i ∈ Region.ready .any ops listed → YieldsIf P ops S oi v a → S w →
  jeD P ops Q R fuel (listed.setIfInBounds i true) (a.put oi.dst v) w → jeD P ops Q R (fuel + 1) listed a w := by
 intro fuel
 induction fuel with
 | zero =>
   intro listed a w _ hr hy hS H
   refine ⟨fun h => (by rw [h] at hr; cases hr), fun j hj => ?_⟩
   by_cases hji : j = i
   ·subst hji; exact hy.wpOp hi hS ⟨hRi w, H⟩
   ·have := ready_mono hj hji
    rw [H.1] at this
    cases this
 | succ fuel ih =>
   intro listed a w hfree hr hy hS H
   refine ⟨fun h => (by rw [h] at hr; cases hr), fun j hj => ?_⟩
   by_cases hji : j = i
   ·subst hji; exact hy.wpOp hi hS ⟨hRi w, H⟩
   ·have h1 := H.2 j (ready_mono hj hji)
    obtain ⟨hjun, oj, hoj, hall⟩ := mem_ready.1 hj
    have hnot : ∀ e ∈ oj.after, Region.binds .any e = true → e.on ≠ i := fun e he hb heq => by
     have h1 := hall e he hb
     have h0 := (mem_ready.1 hr).1
     rw [heq] at h1
     rcases Nat.lt_or_ge i listed.size with h' | h'
     ·simp [h'] at h0 h1; rw [h0] at h1; cases h1
     ·simp [Array.getElem?_eq_none h'] at h1
    have hw : jiu ops j i = false := by
     unfold jiu
     rw [hoj]
     simp only [List.any_eq_false, Bool.and_eq_true, not_and]
     intro e he hb hbe
     exact hnot e (by simpa using he) hb (Nat.eq_of_beq_eq_true hbe)
    have h2 := wpOp_putIf hoj (hfree j oj hoj hji hjun hnot) (fun cs b => hsel i oi cs b hi) (fun cs b => hsel j oj cs b hoj) hQ hy h1
    have hfree' : ∀ k ok, ops[k]? = some ok → k ≠ i → (listed.setIfInBounds j true).getD k true = false →
     (∀ e ∈ ok.after, Region.binds .any e = true → e.on ≠ i) → oi.apart ops ok = true := fun k ok hk hki hun hno => by
     refine hfree k ok hk hki ?_ hno
     by_cases hjk : j = k
     ·subst hjk; exact hjun
     ·rw [getD_set_ne true hjk] at hun; exact hun
    refine wpOp_mono (fun a' w' h3 => ⟨h3.2.1, ih (listed.setIfInBounds j true) a' w' hfree' (ready_mono hr (Ne.symm hji)) h3.1 (hR j w w' hw hS h3.2.1) ?_⟩) h2
    ·rw [Array.setIfInBounds_comm _ _ hji]
     exact h3.2.2
end
end
def GuardE (ops : Array Oper) (o : Oper) (F : AFrame) (run skip : AFrame → Prop) : Prop :=
 match o.guard with
 | none => run F
 | some (j, want) => match (ops[j]?).bind (·.dst) with
   | some d => (match F.get d with
     | some (.bool b) => (match want with
       | true => Br b (run ((d, .bool true) :: F)) (skip ((d, .bool false) :: F))
       | false => Br b (skip ((d, .bool true) :: F)) (run ((d, .bool false) :: F)))
     | some (.tuple _) => skip F
     | _ => False)
   | none => False
theorem Ag.again {n : Nat} {F : AFrame} {a : Act} (h : Ag n F a) {d : Nat} {v : Value} (hd : F.get d = some v) : Ag n ((d, v) :: F) a := by
 refine ⟨h.size, h.defers, fun t u hu => ?_⟩
 rw [AFrame.get_cons] at hu
 by_cases e : d = t
 ·subst e; rw [if_pos rfl] at hu; cases hu; exact h.get d v hd
 ·rw [if_neg e] at hu; exact h.get t u hu
theorem GuardE.cases {ops : Array Oper} {o : Oper} {n : Nat} {F : AFrame} {a : Act} {run skip : AFrame → Prop} (hag : Ag n F a) (h : GuardE ops o F run skip) :
 ∃ F', Ag n F' a ∧ ((Region.wanted o (yielded ops a.tmps) = true ∧ run F') ∨ (Region.wanted o (yielded ops a.tmps) = false ∧ skip F')) := by
 unfold GuardE at h
 split at h
 ·rename_i hg
  exact ⟨F, hag, .inl ⟨by simp [Region.wanted, hg], h⟩⟩
 ·rename_i j want hg
  split at h
  ·rename_i d hd
   split at h
   ·rename_i b hb
    have hy : yielded ops a.tmps j = some b := by
     unfold yielded; rw [hd]; simp [hag.get d _ hb]
    cases b <;> cases want <;> simp only [Br, cond_true, cond_false] at h
    ·exact ⟨_, hag.again hb, .inl ⟨by simp [Region.wanted, hg, hy], h⟩⟩
    ·exact ⟨_, hag.again hb, .inr ⟨by simp [Region.wanted, hg, hy], h⟩⟩
    ·exact ⟨_, hag.again hb, .inr ⟨by simp [Region.wanted, hg, hy], h⟩⟩
    ·exact ⟨_, hag.again hb, .inl ⟨by simp [Region.wanted, hg, hy], h⟩⟩
   ·rename_i vs hb
    have hy : yielded ops a.tmps j = none := by
     unfold yielded; rw [hd]; simp [hag.get d _ hb]
    exact ⟨F, hag, .inr ⟨by simp [Region.wanted, hg, hy], h⟩⟩
   ·exact h.elim
  ·exact h.elim
theorem Ag.bare {n : Nat} {F : AFrame} {a : Act} (h : Ag n F a) : Ag n [] a := ⟨h.size, h.defers, fun t v hv => by simp [AFrame.get] at hv⟩
def EOps (P : Program) (PL : List Nat) (kp : Value → jaa → Prop) (ops : Array Oper) : List Oper → AFrame → jaa → (AFrame → jaa → Prop) → Prop
 | [], F, H, k => k F H
 | o :: rest, F, H, k => GuardE ops o F (fun F => EOp P PL o F H kp fun v H' => EOps P PL kp ops rest (F.put o.dst v) H' k) (fun F => EOps P PL kp ops rest (F.put o.dst undef) H k)
def jhv (ops : List Oper) : List Nat := ops.filterMap (·.dst)
def jlv (n : Nat) (ops : List Oper) : Prop := ∀ o ∈ ops, ∀ d, o.dst = some d → d < n
theorem jf0 {a : Act} {dst : Option Nat} {v : Value} {t : Nat} (h : ∀ d, dst = some d → d ≠ t) : (a.put dst v).tmps[t]? = a.tmps[t]? := by
 cases dst with
 | none => rfl
 | some d => simp [Act.put, Array.getElem?_setIfInBounds, h d rfl]
theorem EOps.sound {P : Program} {PL : List Nat} {kp : Value → jaa → Prop} {ops : Array Oper} {n : Nat} {Q : Exit → Act → World → Prop} : ∀ (l : List Oper) (m : Nat) (F : AFrame) (a : Act) (w : World) {k : AFrame → jaa → Prop},
 ops.toList.drop m = l → jlv n l → Ag n F a → EOps P PL kp ops l F w.heap k →
 (∀ v a' w', Ag n [] a' → SameEnv w w' → (∀ t, t ∉ jhv l → a'.tmps[t]? = a.tmps[t]?) → kp v w'.heap → Q (.panic [{ v, recovered := false }]) a' w') →
 (∀ F' a' w', Ag n F' a' → SameEnv w w' → (∀ t, t ∉ jhv l → a'.tmps[t]? = a.tmps[t]?) → k F' w'.heap → Q .normal a' w') →
 wpOps P ops Q (List.range' m l.length) a w
 | [], m, F, a, w, k, _, _, hag, h, _, hk => hk F a w hag (.refl w) (fun _ _ => rfl) h
 | o :: rest, m, F, a, w, k, hl, hok, hag, h, hp, hk => by
   have hlt : m < ops.toList.length := by
    rcases Nat.lt_or_ge m ops.toList.length with h' | h'
    ·exact h'
    ·rw [List.drop_eq_nil_of_le h'] at hl; cases hl
   have hcons := List.drop_eq_getElem_cons hlt
   rw [hl] at hcons
   injection hcons with ho hrest
   have hi : ops[m]? = some o := by
    rw [← Array.getElem?_toList, List.getElem?_eq_getElem hlt, ho]
   simp only [List.length_cons, List.range'_succ, wpOps, hi]
   have hd : ∀ d, o.dst = some d → d < n := hok o (by simp)
   have other : ∀ (a' : Act) v t, t ∉ jhv (o :: rest) → (a'.put o.dst v).tmps[t]? = a'.tmps[t]? := by
    intro a' v t ht
    refine jf0 fun d hd' e => ht ?_
    subst e
    simp only [jhv, List.mem_filterMap]
    exact ⟨o, by simp, hd'⟩
   have later : ∀ t, t ∉ jhv (o :: rest) → t ∉ jhv rest := by
    intro t ht hm
    refine ht ?_
    simp only [jhv, List.mem_filterMap] at hm ⊢
    obtain ⟨x, hx, e⟩ := hm
    exact ⟨x, by simp [hx], e⟩
   obtain ⟨F', hag', ⟨hw, hrun⟩ | ⟨hw, hskip⟩⟩ := h.cases hag
   ·simp only [hw, if_true]
    refine .inl (EOp.sound hag' hrun (fun v w' he hv => hp v a w' hag.bare he (fun _ _ => rfl) hv) fun v w' he hv => ?_)
    exact EOps.sound rest (m + 1) _ _ w' hrest.symm (fun x hx => hok x (by simp [hx])) (hag'.put hd v) hv
     (fun v a'' w'' h1 h2 h3 h4 => hp v a'' w'' h1 (he.trans h2) (fun t ht => (h3 t (later t ht)).trans (other _ _ t ht)) h4)
     fun F'' a'' w'' h1 h2 h3 h4 => hk F'' a'' w'' h1 (he.trans h2) (fun t ht => (h3 t (later t ht)).trans (other _ _ t ht)) h4
   ·simp only [hw, Bool.false_eq_true, if_false]
    exact EOps.sound rest (m + 1) _ _ w hrest.symm (fun x hx => hok x (by simp [hx])) (hag'.put hd undef) hskip
     (fun v a'' w'' h1 h2 h3 h4 => hp v a'' w'' h1 h2 (fun t ht => (h3 t (later t ht)).trans (other _ _ t ht)) h4)
     fun F'' a'' w'' h1 h2 h3 h4 => hk F'' a'' w'' h1 h2 (fun t ht => (h3 t (later t ht)).trans (other _ _ t ht)) h4
def Rel (ops : Array Oper) (L : List (Nat × List (Addr × Value))) (j : Nat) (w w' : World) : Prop :=
 w' = w ∨ ∀ e ∈ L, jiu ops j e.1 = false → ∀ x ∈ e.2, jar w'.heap x.1 = some x.2
def jiZ (ops : Array Oper) (j : Nat) : List (Nat × List (Addr × Value)) → List (Addr × Value)
 | [] => []
 | e :: L => bif jiu ops j e.1 then jiZ ops j L else e.2 ++ jiZ ops j L
def Stab (l : List (Addr × Value)) (H : jaa) (X : Prop) : Prop :=
 match l with
 | [] => X
 | e :: l => (∀ x ∈ e :: l, jar H x.1 = some x.2) ∧ X
theorem jfX {ops : Array Oper} {j : Nat} : ∀ {L : List (Nat × List (Addr × Value))} {e : Nat × List (Addr × Value)} {x : Addr × Value}, e ∈ L → jiu ops j e.1 = false → x ∈ e.2 → x ∈ jiZ ops j L
 | f :: L, e, x, h, hw, hx => by
   simp only [jiZ]
   rcases List.mem_cons.1 h with rfl | h
   ·simp [hw, hx]
   ·cases hf : jiu ops j f.1 with
    | true => simp [jfX h hw hx]
    | false => simp [jfX h hw hx]
theorem Stab.both {l : List (Addr × Value)} {H : jaa} {X : Prop} (h : Stab l H X) : (∀ x ∈ l, jar H x.1 = some x.2) ∧ X := by
 cases l with
 | nil => exact ⟨by simp, h⟩
 | cons e l => exact h
def jiR (P : Program) (ops : Array Oper) (listed : Array Bool) : List Nat → Option Nat
 | [] => none
 | i :: rs => match ops[i]? with
   | some o => bif Nat.ble (jf6 P o) 1 && Region.free .any ops listed i then some i else jiR P ops listed rs
   | none => jiR P ops listed rs
theorem jeP {P : Program} {ops : Array Oper} {listed : Array Bool} : ∀ {rs : List Nat} {i : Nat}, jiR P ops listed rs = some i →
 i ∈ rs ∧ ∃ o, ops[i]? = some o ∧ jf6 P o ≤ 1 ∧ Region.free .any ops listed i = true
 | j :: rs, i, h => by
   simp only [jiR] at h
   split at h
   ·rename_i o ho
    cases hb : (Nat.ble (jf6 P o) 1 && Region.free .any ops listed j) with
    | true =>
      rw [hb] at h
      simp only [cond_true, Option.some.injEq] at h; subst h
      simp only [Bool.and_eq_true] at hb
      exact ⟨by simp, o, ho, Nat.le_of_ble_eq_true hb.1, hb.2⟩
    | false =>
      rw [hb] at h
      obtain ⟨h1, h2⟩ := jeP (h : jiR P ops listed rs = some i)
      exact ⟨by simp [h1], h2⟩
   ·obtain ⟨h1, h2⟩ := jeP (h : jiR P ops listed rs = some i)
    exact ⟨by simp [h1], h2⟩
def jnq (P : Program) (o : Oper) (i : Nat) (F : AFrame) (H : jaa) (kk : Value → List (Nat × List (Addr × Value)) → Prop) : Prop :=
 match jf6 P o with
 | 0 => EPure P o F fun v => kk v []
 | 1 => ELoad P o F H fun v Ls => kk v [(i, Ls)]
 | _ => False
def EDraw (P : Program) (PL : List Nat) (kp : Value → jaa → Prop) (ops : Array Oper) : Nat → Array Bool → List (Nat × List (Addr × Value)) → AFrame → jaa → (AFrame → jaa → Prop) → Prop
 | 0, listed, _, F, H, k => match Region.ready .any ops listed with
   | [] => k F H
   | _ => False
 | fuel + 1, listed, L, F, H, k =>
   let act (i : Nat) : Prop := match ops[i]? with
    | some o => GuardE ops o F (fun F => EOp P PL o F H kp fun v H' => Stab (jiZ ops i L) H' (EDraw P PL kp ops fuel (listed.setIfInBounds i true) L (F.put o.dst v) H' k))
       (fun F => EDraw P PL kp ops fuel (listed.setIfInBounds i true) L (F.put o.dst undef) H k)
    | none => False
   match Region.ready .any ops listed with
   | [] => k F H
   | i :: rs => match jiR P ops listed (i :: rs) with
     | some i => (match ops[i]? with
       | some o => GuardE ops o F (fun F => jnq P o i F H fun v Li => EDraw P PL kp ops fuel (listed.setIfInBounds i true) (Li ++ L) (F.put o.dst v) H k)
          (fun F => EDraw P PL kp ops fuel (listed.setIfInBounds i true) L (F.put o.dst undef) H k)
       | none => False)
     | none => (match rs with
       | [] => act i
       | j :: rs => act i ∧ act j ∧ rs.foldr (fun i X => act i ∧ X) True)
def PaQ (n : Nat) (kp : Value → jaa → Prop) (S : List Nat) (a0 : Act) (w0 : World) (Q : Exit → Act → World → Prop) : Exit → Act → World → Prop
 | .panic c, a, w => ∃ v, c = [{ v, recovered := false }] ∧ kp v w.heap ∧ SameEnv w0 w ∧ Ag n [] a ∧ ∀ t, t ∉ S → a.tmps[t]? = a0.tmps[t]?
 | e, a, w => Q e a w
theorem PaQ.put {n : Nat} {kp : Value → jaa → Prop} {S : List Nat} {a0 : Act} {w0 : World} {Q : Exit → Act → World → Prop} {c : List PanicEntry} {a : Act} {w : World} {dst : Option Nat} {v : Value} (hd : ∀ d, dst = some d → d ∈ S) (h : PaQ n kp S a0 w0 Q (.panic c) (a.put dst v) w) : PaQ n kp S a0 w0 Q (.panic c) a w := by
 obtain ⟨u, h1, h2, h3, h4, h5⟩ := h
 refine ⟨u, h1, h2, h3, ⟨?_, ?_, fun t v hv => by simp [AFrame.get] at hv⟩, fun t ht => ?_⟩
 ·have := h4.size
  cases dst with
  | none => exact this
  | some d => simpa [Act.put] using this
 ·have := h4.defers
  cases dst with
  | none => exact this
  | some d => simpa [Act.put] using this
 ·rw [← h5 t ht, jf0]
  intro d e e2
  subst e2
  exact ht (hd _ e)
theorem jeF {act : Nat → Prop} : ∀ {rs : List Nat}, rs.foldr (fun i X => act i ∧ X) True → ∀ i ∈ rs, act i
 | _ :: _, h, _, hj => by
   rcases List.mem_cons.1 hj with rfl | hj
   ·exact h.1
   ·exact jeF h.2 _ hj
theorem EDraw.sound {P : Program} {PL : List Nat} {kp : Value → jaa → Prop} {ops : Array Oper} {n : Nat} {Q : Exit → Act → World → Prop} (hok : jlv n ops.toList) (hsel : Region.noSelect ops = true) {a0 : Act} {w0 : World} :
 ∀ (fuel : Nat) (listed : Array Bool) (L : List (Nat × List (Addr × Value))) (F : AFrame) (a : Act) (w : World) {k : AFrame → jaa → Prop},
 Ag n F a → SameEnv w0 w → (∀ t, t ∉ jhv ops.toList → a.tmps[t]? = a0.tmps[t]?) → EDraw P PL kp ops fuel listed L F w.heap k →
 (∀ F' a' w', Ag n F' a' → SameEnv w w' → (∀ t, t ∉ jhv ops.toList → a'.tmps[t]? = a.tmps[t]?) → k F' w'.heap → Q .normal a' w') →
 jeD P ops (PaQ n kp (jhv ops.toList) a0 w0 Q) (Rel ops L) fuel listed a w := by
 have dOk : ∀ (i : Nat) (o : Oper), ops[i]? = some o → ∀ d, o.dst = some d → d < n := fun i o ho => hok o (by
  have := Array.mem_of_getElem? ho; simpa using this)
 have other : ∀ (i : Nat) (o : Oper), ops[i]? = some o → ∀ (a' : Act) v t, t ∉ jhv ops.toList → (a'.put o.dst v).tmps[t]? = a'.tmps[t]? := by
  intro i o ho a' v t ht
  refine jf0 fun d hd' e => ht ?_
  subst e
  simp only [jhv, List.mem_filterMap]
  exact ⟨o, by have := Array.mem_of_getElem? ho; simpa using this, hd'⟩
 intro fuel
 induction fuel with
 | zero =>
   intro listed L F a w k hag he0 ht0 h hk
   simp only [EDraw] at h
   split at h
   ·rename_i hr; exact ⟨hr, hk F a w hag (.refl w) (fun _ _ => rfl) h⟩
   ·exact h.elim
 | succ fuel ih =>
   intro listed L F a w k hag he0 ht0 h hk
   simp only [EDraw] at h
   -- one that acts
   have hact : ∀ (i : Nat), (match ops[i]? with
    | some o => GuardE ops o F (fun F => EOp P PL o F w.heap kp fun v H' => Stab (jiZ ops i L) H' (EDraw P PL kp ops fuel (listed.setIfInBounds i true) L (F.put o.dst v) H' k))
       (fun F => EDraw P PL kp ops fuel (listed.setIfInBounds i true) L (F.put o.dst undef) w.heap k)
    | none => False) → wpOp P ops (PaQ n kp (jhv ops.toList) a0 w0 Q) i (fun a' w' => Rel ops L i w w' ∧ jeD P ops (PaQ n kp (jhv ops.toList) a0 w0 Q) (Rel ops L) fuel (listed.setIfInBounds i true) a' w') a w := by
    intro i hi
    split at hi
    ·rename_i o ho
     unfold wpOp
     simp only [ho]
     obtain ⟨F', hag', ⟨hw, hrun⟩ | ⟨hw, hskip⟩⟩ := hi.cases hag
     ·simp only [hw, if_true]
      refine .inl (EOp.sound hag' hrun (fun v w' he hv => ⟨v, rfl, hv, he0.trans he, hag.bare, ht0⟩) fun v w' he hv => ?_)
      obtain ⟨hst, hv⟩ := hv.both
      refine ⟨.inr fun e he' hwt x hx => hst _ (jfX he' hwt hx), ?_⟩
      exact ih _ _ _ _ w' (hag'.put (dOk i o ho) v) (he0.trans he) (fun t ht => (other i o ho _ _ t ht).trans (ht0 t ht)) hv fun F'' a'' w'' h1 h2 h3 h4 => hk F'' a'' w'' h1 (he.trans h2) (fun t ht => (h3 t ht).trans (other i o ho _ _ t ht)) h4
     ·simp only [hw, Bool.false_eq_true, if_false]
      refine ⟨.inl rfl, ?_⟩
      exact ih _ _ _ _ w (hag'.put (dOk i o ho) undef) he0 (fun t ht => (other i o ho _ _ t ht).trans (ht0 t ht)) hskip fun F'' a'' w'' h1 h2 h3 h4 => hk F'' a'' w'' h1 h2 (fun t ht => (h3 t ht).trans (other i o ho _ _ t ht)) h4
    ·exact hi.elim
   split at h
   ·rename_i hr
    exact ⟨fun _ => hk F a w hag (.refl w) (fun _ _ => rfl) h, by rw [hr]; simp⟩
   ·rename_i i0 rs hr
    split at h
    ·rename_i i hi
     obtain ⟨hmem, o, ho, hkind, hfree⟩ := jeP hi
     rw [ho] at h
     simp only at h
     rw [← hr] at hmem
     -- take it first
     have take : ∀ (F' : AFrame) (v : Value) (Li : List (Addr × Value)) (G : List (Nat × List (Addr × Value))), (∀ e ∈ Li, ∃ g ∈ G, g.1 = i ∧ e ∈ g.2) → Ag n F' a →
      YieldsIf P ops (fun w => ∀ e ∈ Li, jar w.heap e.1 = some e.2) o v a → (∀ e ∈ Li, jar w.heap e.1 = some e.2) →
      EDraw P PL kp ops fuel (listed.setIfInBounds i true) (G ++ L) (F'.put o.dst v) w.heap k →
      jeD P ops (PaQ n kp (jhv ops.toList) a0 w0 Q) (Rel ops L) (fuel + 1) listed a w := by
      intro F' v Li G hG hag' hy hS hE
      refine jfY (R' := Rel ops (G ++ L)) (fun j w w' hrel => hrel.imp id fun h e he => h e (by simp [he])) _ _ _ _ ?_
      refine jh8 ho (Region.noSelect_spec hsel) (fun _ _ _ h => h.put fun d hd => by
       simp only [jhv, List.mem_filterMap]; exact ⟨o, by have := Array.mem_of_getElem? ho; simpa using this, hd⟩) (S := fun w => ∀ e ∈ Li, jar w.heap e.1 = some e.2) ?_ (fun w => .inl rfl) fuel listed a w (Region.free_spec ho hfree) hmem hy hS ?_
      ·intro j w w' hwt hs hrel
       rcases hrel with rfl | hrel
       ·exact hs
       ·intro e he
        obtain ⟨g, hg, hgi, heg⟩ := hG e he
        exact hrel g (by simp only [List.mem_append]; exact .inl hg) (by rw [hgi]; exact hwt) e heg
      ·exact ih _ _ _ _ w (hag'.put (dOk i o ho) v) he0 (fun t ht => (other i o ho _ _ t ht).trans (ht0 t ht)) hE fun F'' a'' w'' h1 h2 h3 h4 => hk F'' a'' w'' h1 h2 (fun t ht => (h3 t ht).trans (other i o ho _ _ t ht)) h4
     obtain ⟨F', hag', ⟨hw, hrun⟩ | ⟨hw, hskip⟩⟩ := h.cases hag
     ·unfold jnq at hrun
      split at hrun
      ·rename_i hk0
       obtain ⟨v, hrv, hv⟩ := EPure.sound hag' (jeB (P := P) (by rw [hk0]; decide)) hrun
       exact take F' v [] [] (by simp) hag' (.inl ⟨hw, fun w _ => hrv w⟩) (by simp) hv
      ·obtain ⟨v, Ls, hrv, hL, hv⟩ := ELoad.sound hag' hrun
       exact take F' v Ls [(i, Ls)] (fun e he => ⟨_, List.mem_singleton.2 rfl, rfl, he⟩) hag' (.inl ⟨hw, fun w hs => hrv w hs⟩) hL hv
      ·exact hrun.elim
     ·exact take F' undef [] [] (by simp) hag' (.inr ⟨hw, rfl⟩) (by simp) hskip
    ·refine ⟨fun h0 => by rw [hr] at h0; (simp at h0), ?_⟩
     rw [hr]
     intro i hi
     apply hact
     split at h
     ·rcases List.mem_cons.1 hi with rfl | hi
      ·exact h
      ·cases hi
     ·obtain ⟨h1, h2, h3⟩ := h
      rcases List.mem_cons.1 hi with rfl | hi
      ·exact h1
      ·rcases List.mem_cons.1 hi with rfl | hi
       ·exact h2
       ·exact jeF (act := fun i => match ops[i]? with
         | some o => GuardE ops o F (fun F => EOp P PL o F w.heap kp fun v H' => Stab (jiZ ops i L) H' (EDraw P PL kp ops fuel (listed.setIfInBounds i true) L (F.put o.dst v) H' k))
            (fun F => EDraw P PL kp ops fuel (listed.setIfInBounds i true) L (F.put o.dst undef) w.heap k)
         | none => False) h3 i hi
end Go.Proofs.YtfpmgpblhhcpgaaGreatDoor.Hc
