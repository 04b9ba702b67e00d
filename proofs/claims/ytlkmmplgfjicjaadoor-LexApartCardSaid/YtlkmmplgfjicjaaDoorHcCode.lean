/-
  The condition of a piece of code, and that it gives the model's own 'Code.wp'.
-/
import Derived.Test.YtlkmmplgfjicjaaDoorHcEop
import Derived.Test.YtlkmmplgfjicjaaDoorHcRegion
import Derived.ScopeJumps
namespace Go.Proofs.YtlkmmplgfjicjaaDoor.Hc
set_option linter.unusedVariables false
set_option linter.unusedSimpArgs false

/-! ### guards -/
def GuardE (ops : Array Oper) (o : Oper) (F : AFrame) (run skip : AFrame → Prop) : Prop :=
  match o.guard with
  | none => run F
  | some (j, want) => match (ops[j]?).bind (·.dst) with
    | some d => (match F.get d with
      | some (.bool b) => (match want with
        | true => Br b (run ((d, .bool true) :: F)) (skip ((d, .bool false) :: F))
        | false => Br b (skip ((d, .bool true) :: F)) (run ((d, .bool false) :: F)))
      | some (.tuple _) => skip F
      | _ => False)
    | none => False

theorem Ag.again {n : Nat} {F : AFrame} {a : Act} (h : Ag n F a) {d : Nat} {v : Value} (hd : F.get d = some v) : Ag n ((d, v) :: F) a := by
  refine ⟨h.size, h.defers, fun t u hu => ?_⟩
  rw [AFrame.get_cons] at hu
  by_cases e : d = t
  · subst e; rw [if_pos rfl] at hu; cases hu; exact h.get d v hd
  · rw [if_neg e] at hu; exact h.get t u hu

theorem GuardE.cases {ops : Array Oper} {o : Oper} {n : Nat} {F : AFrame} {a : Act} {run skip : AFrame → Prop} (hag : Ag n F a) (h : GuardE ops o F run skip) :
    ∃ F', Ag n F' a ∧ ((Region.wanted o (yielded ops a.tmps) = true ∧ run F') ∨ (Region.wanted o (yielded ops a.tmps) = false ∧ skip F')) := by
  unfold GuardE at h
  split at h
  · rename_i hg
    exact ⟨F, hag, .inl ⟨by simp [Region.wanted, hg], h⟩⟩
  · rename_i j want hg
    split at h
    · rename_i d hd
      split at h
      · rename_i b hb
        have hy : yielded ops a.tmps j = some b := by
          unfold yielded; rw [hd]; simp [hag.get d _ hb]
        cases b <;> cases want <;> simp only [Br, cond_true, cond_false] at h
        · exact ⟨_, hag.again hb, .inl ⟨by simp [Region.wanted, hg, hy], h⟩⟩
        · exact ⟨_, hag.again hb, .inr ⟨by simp [Region.wanted, hg, hy], h⟩⟩
        · exact ⟨_, hag.again hb, .inr ⟨by simp [Region.wanted, hg, hy], h⟩⟩
        · exact ⟨_, hag.again hb, .inl ⟨by simp [Region.wanted, hg, hy], h⟩⟩
      · rename_i vs hb
        have hy : yielded ops a.tmps j = none := by
          unfold yielded; rw [hd]; simp [hag.get d _ hb]
        exact ⟨F, hag, .inr ⟨by simp [Region.wanted, hg, hy], h⟩⟩
      · exact h.elim
    · exact h.elim

/-! ### a region in the order of its text -/
def EOps (P : Program) (ops : Array Oper) : List Oper → AFrame → Heap → (AFrame → Heap → Prop) → Prop
  | [], F, H, k => k F H
  | o :: rest, F, H, k => GuardE ops o F (fun F => EOp P o F H fun v H' => EOps P ops rest (F.put o.dst v) H' k) (fun F => EOps P ops rest (F.put o.dst undef) H k)

def dsts (ops : List Oper) : List Nat := ops.filterMap (·.dst)
def dstsOk (n : Nat) (ops : List Oper) : Prop := ∀ o ∈ ops, ∀ d, o.dst = some d → d < n
theorem put_other {a : Act} {dst : Option Nat} {v : Value} {t : Nat} (h : ∀ d, dst = some d → d ≠ t) : (a.put dst v).tmps[t]? = a.tmps[t]? := by
  cases dst with
  | none => rfl
  | some d => simp [Act.put, Array.getElem?_setIfInBounds, h d rfl]

theorem EOps.sound {P : Program} {ops : Array Oper} {n : Nat} {Q : Exit → Act → World → Prop} : ∀ (l : List Oper) (m : Nat) (F : AFrame) (a : Act) (w : World) {k : AFrame → Heap → Prop},
    ops.toList.drop m = l → dstsOk n l → Ag n F a → EOps P ops l F w.heap k →
    (∀ F' a' w', Ag n F' a' → SameEnv w w' → (∀ t, t ∉ dsts l → a'.tmps[t]? = a.tmps[t]?) → k F' w'.heap → Q .normal a' w') →
    wpOps P ops Q (List.range' m l.length) a w
  | [], m, F, a, w, k, _, _, hag, h, hk => hk F a w hag (.refl w) (fun _ _ => rfl) h
  | o :: rest, m, F, a, w, k, hl, hok, hag, h, hk => by
    have hlt : m < ops.toList.length := by
      rcases Nat.lt_or_ge m ops.toList.length with h' | h'
      · exact h'
      · rw [List.drop_eq_nil_of_le h'] at hl; cases hl
    have hcons := List.drop_eq_getElem_cons hlt
    rw [hl] at hcons
    injection hcons with ho hrest
    have hi : ops[m]? = some o := by
      rw [← Array.getElem?_toList, List.getElem?_eq_getElem hlt, ho]
    simp only [List.length_cons, List.range'_succ, wpOps, hi]
    have hd : ∀ d, o.dst = some d → d < n := hok o (by simp)
    have other : ∀ (a' : Act) v t, t ∉ dsts (o :: rest) → (a'.put o.dst v).tmps[t]? = a'.tmps[t]? := by
      intro a' v t ht
      refine put_other fun d hd' e => ht ?_
      subst e
      simp only [dsts, List.mem_filterMap]
      exact ⟨o, by simp, hd'⟩
    have later : ∀ t, t ∉ dsts (o :: rest) → t ∉ dsts rest := by
      intro t ht hm
      refine ht ?_
      simp only [dsts, List.mem_filterMap] at hm ⊢
      obtain ⟨x, hx, e⟩ := hm
      exact ⟨x, by simp [hx], e⟩
    obtain ⟨F', hag', ⟨hw, hrun⟩ | ⟨hw, hskip⟩⟩ := h.cases hag
    · simp only [hw, if_true]
      refine .inl (EOp.sound hag' hrun fun v w' he hv => ?_)
      exact EOps.sound rest (m + 1) _ _ w' hrest.symm (fun x hx => hok x (by simp [hx])) (hag'.put hd v) hv
        fun F'' a'' w'' h1 h2 h3 h4 => hk F'' a'' w'' h1 (he.trans h2) (fun t ht => (h3 t (later t ht)).trans (other _ _ t ht)) h4
    · simp only [hw, Bool.false_eq_true, if_false]
      exact EOps.sound rest (m + 1) _ _ w hrest.symm (fun x hx => hok x (by simp [hx])) (hag'.put hd undef) hskip
        fun F'' a'' w'' h1 h2 h3 h4 => hk F'' a'' w'' h1 h2 (fun t ht => (h3 t (later t ht)).trans (other _ _ t ht)) h4

/-! ### a region whose order is drawn -/
def Rel (ops : Array Oper) (L : List (Nat × Addr × Value)) (j : Nat) (w w' : World) : Prop :=
  w' = w ∨ ∀ e ∈ L, waits ops j e.1 = false → hcell w'.heap e.2.1 = some e.2.2
def stabL (ops : Array Oper) (j : Nat) : List (Nat × Addr × Value) → List (Addr × Value)
  | [] => []
  | e :: L => bif waits ops j e.1 then stabL ops j L else (e.2.1, e.2.2) :: stabL ops j L
def Stab (l : List (Addr × Value)) (H : Heap) (X : Prop) : Prop :=
  match l with
  | [] => X
  | e :: l => (∀ x ∈ e :: l, hcell H x.1 = some x.2) ∧ X
theorem mem_stabL {ops : Array Oper} {j : Nat} : ∀ {L : List (Nat × Addr × Value)} {e : Nat × Addr × Value}, e ∈ L → waits ops j e.1 = false → (e.2.1, e.2.2) ∈ stabL ops j L
  | f :: L, e, h, hw => by
    simp only [stabL]
    rcases List.mem_cons.1 h with rfl | h
    · simp [hw]
    · cases hf : waits ops j f.1 with
      | true => simp [mem_stabL h hw]
      | false => simp [mem_stabL h hw]
theorem Stab.both {l : List (Addr × Value)} {H : Heap} {X : Prop} (h : Stab l H X) : (∀ x ∈ l, hcell H x.1 = some x.2) ∧ X := by
  cases l with
  | nil => exact ⟨by simp, h⟩
  | cons e l => exact h

def pickQ (P : Program) (ops : Array Oper) (listed : Array Bool) : List Nat → Option Nat
  | [] => none
  | i :: rs => match ops[i]? with
    | some o => bif Nat.ble (kindOf P o) 1 && Region.free .any ops listed i then some i else pickQ P ops listed rs
    | none => pickQ P ops listed rs
theorem pickQ_some {P : Program} {ops : Array Oper} {listed : Array Bool} : ∀ {rs : List Nat} {i : Nat}, pickQ P ops listed rs = some i →
    i ∈ rs ∧ ∃ o, ops[i]? = some o ∧ kindOf P o ≤ 1 ∧ Region.free .any ops listed i = true
  | j :: rs, i, h => by
    simp only [pickQ] at h
    split at h
    · rename_i o ho
      cases hb : (Nat.ble (kindOf P o) 1 && Region.free .any ops listed j) with
      | true =>
        rw [hb] at h
        simp only [cond_true, Option.some.injEq] at h; subst h
        simp only [Bool.and_eq_true] at hb
        exact ⟨by simp, o, ho, Nat.le_of_ble_eq_true hb.1, hb.2⟩
      | false =>
        rw [hb] at h
        obtain ⟨h1, h2⟩ := pickQ_some (h : pickQ P ops listed rs = some i)
        exact ⟨by simp [h1], h2⟩
    · obtain ⟨h1, h2⟩ := pickQ_some (h : pickQ P ops listed rs = some i)
      exact ⟨by simp [h1], h2⟩

def EQuiet (P : Program) (o : Oper) (i : Nat) (F : AFrame) (H : Heap) (kk : Value → List (Nat × Addr × Value) → Prop) : Prop :=
  match kindOf P o with
  | 0 => EPure P o F fun v => kk v []
  | 1 => ELoad P o F H fun v Ls => kk v (Ls.map fun e => (i, e.1, e.2))
  | _ => False
def EDraw (P : Program) (ops : Array Oper) : Nat → Array Bool → List (Nat × Addr × Value) → AFrame → Heap → (AFrame → Heap → Prop) → Prop
  | 0, listed, _, F, H, k => match Region.ready .any ops listed with
    | [] => k F H
    | _ => False
  | fuel + 1, listed, L, F, H, k =>
    let act (i : Nat) : Prop := match ops[i]? with
      | some o => GuardE ops o F (fun F => EOp P o F H fun v H' => Stab (stabL ops i L) H' (EDraw P ops fuel (listed.setIfInBounds i true) L (F.put o.dst v) H' k))
          (fun F => EDraw P ops fuel (listed.setIfInBounds i true) L (F.put o.dst undef) H k)
      | none => False
    match Region.ready .any ops listed with
    | [] => k F H
    | i :: rs => match pickQ P ops listed (i :: rs) with
      | some i => (match ops[i]? with
        | some o => GuardE ops o F (fun F => EQuiet P o i F H fun v Li => EDraw P ops fuel (listed.setIfInBounds i true) (Li ++ L) (F.put o.dst v) H k)
            (fun F => EDraw P ops fuel (listed.setIfInBounds i true) L (F.put o.dst undef) H k)
        | none => False)
      | none => (match rs with
        | [] => act i
        | j :: rs => act i ∧ act j ∧ rs.foldr (fun i X => act i ∧ X) True)

/-- No panic comes out. -/
def NoP (Q : Exit → Act → World → Prop) : Exit → Act → World → Prop
  | .panic _, _, _ => False
  | e, a, w => Q e a w
theorem NoP.imp {Q : Exit → Act → World → Prop} : ∀ (e : Exit) (a : Act) (w : World), NoP Q e a w → Q e a w := fun e a w h => by
  cases e <;> first | exact h | exact h.elim

theorem mem_foldr_and {act : Nat → Prop} : ∀ {rs : List Nat}, rs.foldr (fun i X => act i ∧ X) True → ∀ i ∈ rs, act i
  | _ :: _, h, _, hj => by
    rcases List.mem_cons.1 hj with rfl | hj
    · exact h.1
    · exact mem_foldr_and h.2 _ hj

theorem EDraw.sound {P : Program} {ops : Array Oper} {n : Nat} {Q : Exit → Act → World → Prop} (hok : dstsOk n ops.toList) (hsel : Region.noSelect ops = true) :
    ∀ (fuel : Nat) (listed : Array Bool) (L : List (Nat × Addr × Value)) (F : AFrame) (a : Act) (w : World) {k : AFrame → Heap → Prop},
    Ag n F a → EDraw P ops fuel listed L F w.heap k →
    (∀ F' a' w', Ag n F' a' → SameEnv w w' → (∀ t, t ∉ dsts ops.toList → a'.tmps[t]? = a.tmps[t]?) → k F' w'.heap → Q .normal a' w') →
    wpAnyR P ops (NoP Q) (Rel ops L) fuel listed a w := by
  have dOk : ∀ (i : Nat) (o : Oper), ops[i]? = some o → ∀ d, o.dst = some d → d < n := fun i o ho => hok o (by
    have := Array.mem_of_getElem? ho; simpa using this)
  have other : ∀ (i : Nat) (o : Oper), ops[i]? = some o → ∀ (a' : Act) v t, t ∉ dsts ops.toList → (a'.put o.dst v).tmps[t]? = a'.tmps[t]? := by
    intro i o ho a' v t ht
    refine put_other fun d hd' e => ht ?_
    subst e
    simp only [dsts, List.mem_filterMap]
    exact ⟨o, by have := Array.mem_of_getElem? ho; simpa using this, hd'⟩
  intro fuel
  induction fuel with
  | zero =>
    intro listed L F a w k hag h hk
    simp only [EDraw] at h
    split at h
    · rename_i hr; exact ⟨hr, hk F a w hag (.refl w) (fun _ _ => rfl) h⟩
    · exact h.elim
  | succ fuel ih =>
    intro listed L F a w k hag h hk
    simp only [EDraw] at h
    -- one that acts
    have hact : ∀ (i : Nat), (match ops[i]? with
        | some o => GuardE ops o F (fun F => EOp P o F w.heap fun v H' => Stab (stabL ops i L) H' (EDraw P ops fuel (listed.setIfInBounds i true) L (F.put o.dst v) H' k))
            (fun F => EDraw P ops fuel (listed.setIfInBounds i true) L (F.put o.dst undef) w.heap k)
        | none => False) → wpOp P ops (NoP Q) i (fun a' w' => Rel ops L i w w' ∧ wpAnyR P ops (NoP Q) (Rel ops L) fuel (listed.setIfInBounds i true) a' w') a w := by
      intro i hi
      split at hi
      · rename_i o ho
        unfold wpOp
        simp only [ho]
        obtain ⟨F', hag', ⟨hw, hrun⟩ | ⟨hw, hskip⟩⟩ := hi.cases hag
        · simp only [hw, if_true]
          refine .inl (EOp.sound hag' hrun fun v w' he hv => ?_)
          obtain ⟨hst, hv⟩ := hv.both
          refine ⟨.inr fun e he' hwt => hst _ (mem_stabL he' hwt), ?_⟩
          exact ih _ _ _ _ w' (hag'.put (dOk i o ho) v) hv fun F'' a'' w'' h1 h2 h3 h4 => hk F'' a'' w'' h1 (he.trans h2) (fun t ht => (h3 t ht).trans (other i o ho _ _ t ht)) h4
        · simp only [hw, Bool.false_eq_true, if_false]
          refine ⟨.inl rfl, ?_⟩
          exact ih _ _ _ _ w (hag'.put (dOk i o ho) undef) hskip fun F'' a'' w'' h1 h2 h3 h4 => hk F'' a'' w'' h1 h2 (fun t ht => (h3 t ht).trans (other i o ho _ _ t ht)) h4
      · exact hi.elim
    split at h
    · rename_i hr
      exact ⟨fun _ => hk F a w hag (.refl w) (fun _ _ => rfl) h, by rw [hr]; simp⟩
    · rename_i i0 rs hr
      split at h
      · rename_i i hi
        obtain ⟨hmem, o, ho, hkind, hfree⟩ := pickQ_some hi
        rw [ho] at h
        simp only at h
        rw [← hr] at hmem
        -- take it first
        have take : ∀ (F' : AFrame) (v : Value) (Li : List (Addr × Value)), Ag n F' a →
            YieldsIf P ops (fun w => ∀ e ∈ Li, hcell w.heap e.1 = some e.2) o v a → (∀ e ∈ Li, hcell w.heap e.1 = some e.2) →
            EDraw P ops fuel (listed.setIfInBounds i true) ((Li.map fun e => (i, e.1, e.2)) ++ L) (F'.put o.dst v) w.heap k →
            wpAnyR P ops (NoP Q) (Rel ops L) (fuel + 1) listed a w := by
          intro F' v Li hag' hy hS hE
          refine wpAnyR_mono (R' := Rel ops ((Li.map fun e => (i, e.1, e.2)) ++ L)) (fun j w w' hrel => hrel.imp id fun h e he => h e (by simp [he])) _ _ _ _ ?_
          refine wpAnyR_first ho (Region.noSelect_spec hsel) (fun _ _ _ h => h.elim) (S := fun w => ∀ e ∈ Li, hcell w.heap e.1 = some e.2) ?_ (fun w => .inl rfl) fuel listed a w (Region.free_spec ho hfree) hmem hy hS ?_
          · intro j w w' hwt hs hrel
            rcases hrel with rfl | hrel
            · exact hs
            · intro e he
              exact hrel (i, e.1, e.2) (by simp only [List.mem_append, List.mem_map]; exact .inl ⟨e, he, rfl⟩) hwt
          · exact ih _ _ _ _ w (hag'.put (dOk i o ho) v) hE fun F'' a'' w'' h1 h2 h3 h4 => hk F'' a'' w'' h1 h2 (fun t ht => (h3 t ht).trans (other i o ho _ _ t ht)) h4
        obtain ⟨F', hag', ⟨hw, hrun⟩ | ⟨hw, hskip⟩⟩ := h.cases hag
        · unfold EQuiet at hrun
          split at hrun
          · rename_i hk0
            obtain ⟨v, hrv, hv⟩ := EPure.sound hag' (kindOf_select (P := P) (by rw [hk0]; decide)) hrun
            exact take F' v [] hag' (.inl ⟨hw, fun w _ => hrv w⟩) (by simp) hv
          · obtain ⟨v, Ls, hrv, hL, hv⟩ := ELoad.sound hag' hrun
            exact take F' v Ls hag' (.inl ⟨hw, fun w hs => hrv w hs⟩) hL hv
          · exact hrun.elim
        · exact take F' undef [] hag' (.inr ⟨hw, rfl⟩) (by simp) hskip
      · refine ⟨fun h0 => by rw [hr] at h0; (simp at h0), ?_⟩
        rw [hr]
        intro i hi
        apply hact
        split at h
        · rcases List.mem_cons.1 hi with rfl | hi
          · exact h
          · cases hi
        · obtain ⟨h1, h2, h3⟩ := h
          rcases List.mem_cons.1 hi with rfl | hi
          · exact h1
          · rcases List.mem_cons.1 hi with rfl | hi
            · exact h2
            · exact mem_foldr_and (act := fun i => match ops[i]? with
                | some o => GuardE ops o F (fun F => EOp P o F w.heap fun v H' => Stab (stabL ops i L) H' (EDraw P ops fuel (listed.setIfInBounds i true) L (F.put o.dst v) H' k))
                    (fun F => EDraw P ops fuel (listed.setIfInBounds i true) L (F.put o.dst undef) w.heap k)
                | none => False) h3 i hi
end Go.Proofs.YtlkmmplgfjicjaaDoor.Hc
