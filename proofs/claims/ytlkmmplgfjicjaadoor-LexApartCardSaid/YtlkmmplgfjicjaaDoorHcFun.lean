/-
  A call of a function, from the condition of its body.
-/
import Derived.Test.YtlkmmplgfjicjaaDoorHcEng
namespace Go.Proofs.YtlkmmplgfjicjaaDoor.Hc
set_option linter.unusedVariables false
set_option linter.unusedSimpArgs false

def argF : Nat → List Value → AFrame
  | _, [] => []
  | i, v :: vs => (i, v) :: argF (i + 1) vs
def ELoadV (P : Program) (t : TypeId) (a : Addr) (H : Heap) (k : Value → Prop) : Prop :=
  match tyA P t, P.info? t with
  | some (.c c), _ => Ld c a H fun d => k (c.emb d)
  | some (.agg l), some i => bif Nat.beq i.size l.length then LdC l a H fun d => k (.agg ⟨embC l d⟩) else False
  | some (.big n _), some i => bif Nat.beq i.size n then LdB n a H fun vs => k (.agg ⟨vs⟩) else False
  | _, _ => False
def resL (P : Program) (F : AFrame) (H : Heap) : List ResultVar → (List Value → Prop) → Prop
  | [], k => k []
  | .tmp t :: rs, k => opt (F.get t) fun v => resL P F H rs fun vs => k (v :: vs)
  | .cell t ty :: rs, k => match F.get t with
    | some (.pointer (some a)) => ELoadV P ty a H fun v => resL P F H rs fun vs => k (v :: vs)
    | _ => False
def RTy.unL : (r : RTy) → List Value → Option r.den
  | .one t, [v] => t.un v
  | .tup _, [_] => none
  | .tup l, vs => unA l vs
  | _, _ => none
def fin (P : Program) (fn : Func) (r : RTy) (k : r.den → Heap → Prop) : Kont := fun e F H => match e with
  | .normal => resL P F H fn.results.toList fun vs => opt (r.unL vs) fun d => k d H
  | .ret => resL P F H fn.results.toList fun vs => opt (r.unL vs) fun d => k d H
  | _ => False
def EFun (P : Program) (fn : Func) (h : Hint) (args : List Value) (r : RTy) (H : Heap) (k : r.den → Heap → Prop) : Prop :=
  E P (fn.body.getD .skip) h (argF 0 args) H (fin P fn r k)

theorem ELoadV.sound {P : Program} {t : TypeId} {a : Addr} {w : World} {k : Value → Prop} (h : ELoadV P t a w.heap k) : ∃ v, (loadVar t a).run P w = .ok v w ∧ k v := by
  unfold ELoadV at h
  split at h
  · rename_i c ht
    obtain ⟨d, hd, hk⟩ := h
    refine ⟨_, ?_, hk⟩
    simp only [loadVar, Sem.run_bind, tyA_c ht, Result.andThen_ok, Bool.false_eq_true, if_false, run_load, cell?_eq, hd]
  · rename_i l i ht hi
    cases hb : Nat.beq i.size l.length with
    | false => rw [hb] at h; exact h.elim
    | true =>
      rw [hb] at h
      obtain ⟨d, hd, hk⟩ := (h : LdC l a w.heap _)
      refine ⟨_, ?_, hk⟩
      have hl := run_loadCells (P := P) hd
      rw [embC_length] at hl
      have hsz : i.size = l.length := Nat.eq_of_beq_eq_true hb
      simp only [loadVar, Sem.run_bind, Sem.run_pure, Result.andThen_ok, tyA_agg ht, if_true, run_sizeOf' hi, hsz, hl]
  · rename_i m c i ht hi
    cases hb : Nat.beq i.size m with
    | false => rw [hb] at h; exact h.elim
    | true =>
      rw [hb] at h
      obtain ⟨vs, hvl, hd, hk⟩ := (h : LdB m a w.heap _)
      refine ⟨_, ?_, hk⟩
      have hl := run_loadCells (P := P) hd
      rw [hvl] at hl
      have hsz : i.size = m := Nat.eq_of_beq_eq_true hb
      simp only [loadVar, Sem.run_bind, Sem.run_pure, Result.andThen_ok, tyA_big ht, if_true, run_sizeOf' hi, hsz, hl]
  · exact h.elim

theorem resL.sound {P : Program} {n : Nat} {F : AFrame} {a : Act} (hag : Ag n F a) {w : World} : ∀ {rs : List ResultVar} {k : List Value → Prop}, resL P F w.heap rs k →
    ∃ vs, (rs.mapM (m := Sem) fun
      | .tmp t => pure (a.tmps.getD t undef)
      | .cell x t => do loadVar t (← asAddr (a.tmps.getD x undef))).run P w = .ok vs w ∧ k vs
  | [], k, h => ⟨[], rfl, h⟩
  | .tmp t :: rs, k, h => by
    obtain ⟨v, hv, h⟩ := opt_cases h
    obtain ⟨vs, hvs, hk⟩ := resL.sound hag h
    refine ⟨v :: vs, ?_, hk⟩
    have := hag.get t v hv
    simp only [List.mapM_cons, Sem.run_bind, Sem.run_pure, Result.andThen_ok, hvs]
    simp [this]
  | .cell t ty :: rs, k, h => by
    simp only [resL] at h
    split at h
    · rename_i p hp
      obtain ⟨v, hv, h⟩ := h.sound
      obtain ⟨vs, hvs, hk⟩ := resL.sound hag h
      refine ⟨v :: vs, ?_, hk⟩
      have := hag.get t _ hp
      have ha : (asAddr (a.tmps.getD t undef)).run P w = .ok p w := by simp [this, asAddr]
      simp only [List.mapM_cons, Sem.run_bind, Sem.run_pure, Result.andThen_ok, ha, hv, hvs]
    · exact h.elim

theorem RTy.unL_emb {r : RTy} {vs : List Value} {d : r.den} (h : r.unL vs = some d) :
    (if h : (vs.toArray).size = 1 then (vs.toArray)[0] else Value.tuple vs.toArray) = r.emb d := by
  cases r with
  | one t =>
    match vs, h with
    | [v], h => rw [dif_pos (by rfl)]; exact ATy.un_emb (h : t.un v = some d)
    | [], h => simp [RTy.unL] at h
    | _ :: _ :: _, h => simp [RTy.unL] at h
  | tup l =>
    match vs, h with
    | [v], h => simp [RTy.unL] at h
    | [], h => simp only [RTy.unL] at h; rw [dif_neg (by simp)]; rw [unA_emb h]; rfl
    | v :: u :: us, h => simp only [RTy.unL] at h; rw [dif_neg (by simp)]; rw [unA_emb h]; rfl

theorem argF_get : ∀ {vs : List Value} {i t : Nat} {v : Value}, AFrame.get (argF i vs) t = some v → i ≤ t ∧ vs[t - i]? = some v
  | [], i, t, v, h => by simp [argF, AFrame.get] at h
  | u :: vs, i, t, v, h => by
    simp only [argF] at h
    rw [AFrame.get_cons] at h
    by_cases e : i = t
    · subst e; rw [if_pos rfl] at h; simpa using h
    · rw [if_neg e] at h
      obtain ⟨h1, h2⟩ := argF_get h
      have : t - i = (t - (i + 1)) + 1 := by omega
      rw [this]
      exact ⟨by omega, by simpa using h2⟩

theorem call_of_E {P : Program} (hm : P.follows .mixedOrders = true) {f : FuncId} {fn : Func} {h : Hint} {args : List Value} {r : RTy} {H : Heap} {k : r.den → Heap → Prop}
    (hf : P.funcs[f]? = some fn) (hn : (fn.name == "runtime.NumGoroutine") = false) (hb : fn.body.isSome = true) (hok : okN fn.ntmps (fn.body.getD .skip) = true) (hlen : Nat.ble args.length fn.ntmps = true)
    (hE : EFun P fn h args r H k) : CallT P f args r H k := by
  obtain ⟨body, hbody⟩ := Option.isSome_iff_exists.1 hb
  refine ⟨⟨fn, hf, hn, by rw [hbody]; rfl⟩, fun w hw => ?_⟩
  subst hw
  unfold EFun at hE
  rw [hbody] at hE hok
  simp only [Option.getD_some] at hE hok
  have hle : args.length ≤ fn.ntmps := Nat.le_of_ble_eq_true hlen
  refine calls_of_wp hf hbody (E.sound hm body h _ _ _ w _ hok (n := fn.ntmps) ?_ hE fun e F' a' w' h1 h2 _ h4 => ?_)
  · refine ⟨by simp; omega, rfl, fun t v hv => ?_⟩
    obtain ⟨_, h2⟩ := argF_get hv
    rw [Nat.sub_zero] at h2
    have hlt : t < args.length := (List.getElem?_eq_some_iff.1 h2).1
    simp only
    rw [Array.getElem?_append_left (by simpa using hlt)]
    simpa using h2
  · have key : resL P F' w'.heap fn.results.toList (fun vs => opt (r.unL vs) fun d => k d w'.heap) →
        a'.defers = [] ∧ ∃ v, (results fn a'.tmps).run P w' = .ok v w' ∧ SameEnv w w' ∧ ∃ d, Ending.returned v = .returned (r.emb d) ∧ k d w'.heap := by
      intro hr
      obtain ⟨vs, hvs, hk⟩ := resL.sound h1 hr
      obtain ⟨d, hd, hk⟩ := opt_cases hk
      refine ⟨h1.defers, r.emb d, ?_, h2, d, rfl, hk⟩
      unfold results
      rw [Array.mapM_eq_mapM_toList]
      simp only [Sem.run_bind, Sem.run_map, Sem.run_pure]
      refine (congrArg (fun x : Result (List Value) => (x.andThen fun a w' => Result.ok a.toArray w').andThen fun a w' => Result.ok (if h : a.size = 1 then a[0] else Value.tuple a) w') hvs).trans ?_
      exact congrArg (fun v => Result.ok v w') (RTy.unL_emb hd)
    cases e with
    | normal => exact key h4
    | ret => exact key h4
    | _ => exact h4.elim
end Go.Proofs.YtlkmmplgfjicjaaDoor.Hc
