/-
  The condition of a function's body: 'E', with hints for loops and for places where ways meet; and a call out of it.
-/
import Derived.Test.YtfpmgpblhhcpgaaGreatHcCode
import Derived.Deep.LoopGhost
import Derived.ScopeJumps
namespace Go.Proofs.YtfpmgpblhhcpgaaGreat.Hc
set_option linter.unusedVariables false
set_option linter.unusedSimpArgs false

inductive Hint where
  | no
  | two (a b : Hint)
  | one (a : Hint)
  | join (l : List (Nat × ATy)) (h : Hint)
  | loop (l : List (Nat × ATy)) (h : Hint)
  | jump (l : List (Nat × ATy)) (ls : List Nat) (h hs : Hint)
def Hint.fst : Hint → Hint | .two a _ => a | .one a => a | _ => .no
def Hint.snd : Hint → Hint | .two _ b => b | _ => .no

abbrev Kont := Exit → AFrame → Heap → Prop
def getL (F : AFrame) : List Nat → Option (List Value)
  | [] => some []
  | t :: ts => (F.get t).bind fun v => (getL F ts).map fun vs => v :: vs
def slots (l : List (Nat × ATy)) : List Nat := l.map (·.1)
def tys (l : List (Nat × ATy)) : List ATy := l.map (·.2)
/-- What the frame holds in these slots. -/
def prL (l : List (Nat × ATy)) (F : AFrame) : Option (DenA (tys l)) := (getL F (slots l)).bind (unA (tys l))
/-- The frame that holds these. -/
def embF (l : List (Nat × ATy)) (s : DenA (tys l)) : AFrame := (slots l).zip (embA (tys l) s)
def memN (t : Nat) : List Nat → Bool
  | [] => false
  | s :: l => Nat.beq s t || memN t l
def kill (S : List Nat) : AFrame → AFrame
  | [] => []
  | (i, v) :: F => bif memN i S then kill S F else (i, v) :: kill S F
def sets : Code → List Nat
  | .region _ ops _ => dsts ops.toList
  | .seq x y => sets x ++ sets y
  | .cond _ x y => sets x ++ sets y
  | .block _ x => sets x
  | .loop x => sets x
  | .scope x => sets x
  | _ => []
def okN (n : Nat) : Code → Bool
  | .region _ ops _ => ops.toList.all fun o => match o.dst with
    | some d => Nat.blt d n
    | none => true
  | .seq x y => okN n x && okN n y
  | .cond _ x y => okN n x && okN n y
  | .block _ x => okN n x
  | .loop x => okN n x
  | .scope x => okN n x
  | _ => true

def thenK (next : AFrame → Heap → Prop) (k : Kont) : Kont := fun e F H => match e with
  | .normal => next F H
  | e => k e F H
def blockK (id : Nat) (k : Kont) : Kont := fun e F H => match e with
  | .exit id' => bif Nat.beq id' id then k .normal F H else k (.exit id') F H
  | e => k e F H
def scopeK (k : Kont) : Kont := fun e F H => match e with
  | .goto _ => False
  | e => k e F H
/-- Ways that meet: one condition for what stands behind. -/
def Jn {σ : Type} (m : (σ → Heap → Prop) → Prop) (k : σ → Heap → Prop) : Prop := m k
/-- A loop: something that holds at each round's head, and a measure that falls. -/
def LoopT {σ : Type} (body : (σ → Heap → Prop) → σ → Heap → Prop) (s : σ) (H : Heap) : Prop :=
  ∃ (I : σ → Heap → Prop) (μ : σ → Heap → Nat), I s H ∧ ∀ s H, I s H → body (fun s' H' => I s' H' ∧ μ s' H' < μ s H) s H

def EJ (S : List Nat) (h : Hint) (m : Hint → AFrame → Heap → Kont → Prop) (F : AFrame) (H : Heap) (k : Kont) : Prop :=
  match h with
  | .join l h => Jn (σ := DenA (tys l)) (fun kk => m h F H (thenK (fun F' H' => opt (prL l F') fun s => kk s H') k)) (fun s H' => k .normal (embF l s ++ kill S F) H')
  | h => m h F H k
def condF (F : AFrame) (c : Operand) (b : Bool) : AFrame :=
  match c with
  | .tmp t => (t, .bool b) :: F
  | _ => F

def EG (SC : Code → Hint → AFrame → Heap → Kont → Prop) (P : Program) : Code → Hint → AFrame → Heap → Kont → Prop
  | .skip, _, F, H, k => k .normal F H
  | .label _, _, F, H, k => k .normal F H
  | .region _ ops draw, h, F, H, k => EJ (dsts ops.toList) h (fun _ F H k =>
      match draw with
      | false => EOps P ops ops.toList F H fun F' H' => k .normal F' H'
      | true => bif Region.noSelect ops then EDraw P ops ops.size (Array.replicate ops.size false) [] F H fun F' H' => k .normal F' H' else False) F H k
  | .seq x y, h, F, H, k => EJ (sets x ++ sets y) h (fun h F H k => EG SC P x h.fst F H (thenK (fun F' H' => EG SC P y h.snd F' H' k) k)) F H k
  | .cond c x y, h, F, H, k => EJ (sets x ++ sets y) h (fun h F H k => match ev F c with
      | some (.bool b) => Br b (EG SC P x h.fst (condF F c true) H k) (EG SC P y h.snd (condF F c false) H k)
      | _ => False) F H k
  | .block id x, h, F, H, k => EJ (sets x) h (fun h F H k => EG SC P x h.fst F H (blockK id k)) F H k
  | .loop x, h, F, H, k => match h with
      | .loop l h => opt (prL l F) fun s => LoopT (fun next s H => EG SC P x h (embF l s ++ kill (sets x) F) H (thenK (fun F' H' => opt (prL l F') fun s' => next s' H') k)) s H
      | _ => False
  | .scope x, h, F, H, k => EJ (sets x) h (fun h F H k => match h with
      | .jump l ls h hs => SC x (.jump l ls h hs) F H k
      | h => EG SC P x h.fst F H (scopeK k)) F H k
  | .exit id, _, F, H, k => k (.exit id) F H
  | .goto l, _, F, H, k => k (.goto l) F H
  | .ret, _, F, H, k => k .ret F H
  | _, _, _, _, _ => False

/-- A scope with jumps: something that holds at each jump, and a measure that falls from jump to jump. -/
def JumpT {σ : Type} (first : (Nat → σ → Heap → Prop) → Prop) (passes : List (Nat × ((Nat → σ → Heap → Prop) → σ → Heap → Prop))) : Prop :=
  ∃ (I : Nat → σ → Heap → Prop) (μ : Nat → σ → Heap → Nat), first I ∧ ∀ p ∈ passes, ∀ s H, I p.1 s H → p.2 (fun l s' H' => I l s' H' ∧ μ l s' H' < μ p.1 s H) s H
abbrev E0 (P : Program) := EG (fun _ _ _ _ _ => False) P
def jumpK (l : List (Nat × ATy)) (labels : List Nat) (j : Nat → DenA (tys l) → Heap → Prop) (k : Kont) : Kont := fun e F H => match e with
  | .goto t => bif memN t labels then opt (prL l F) fun s => j t s H else False
  | e => k e F H
def jpass (P : Program) (x : Code) (l : List (Nat × ATy)) (labels : List Nat) (k : Kont) (F : AFrame) : List Nat → Hint → List (Nat × ((Nat → DenA (tys l) → Heap → Prop) → DenA (tys l) → Heap → Prop))
  | [], _ => []
  | t :: ts, h => (t, fun j s H => match findLabel x t with
      | some rest => E0 P rest h.fst (embF l s ++ kill (sets x) F) H (jumpK l labels j k)
      | none => False) :: jpass P x l labels k F ts h.snd
def SJ (P : Program) (x : Code) (h : Hint) (F : AFrame) (H : Heap) (k : Kont) : Prop :=
  match h with
  | .jump l ls h hs => bif ls.all (fun t => (findLabel x t).isSome) then JumpT (σ := DenA (tys l)) (fun j => E0 P x h F H (jumpK l ls j k)) (jpass P x l ls k F ls hs) else False
  | _ => False
abbrev E (P : Program) := EG (SJ P) P

theorem getL_eval {n : Nat} {F : AFrame} {a : Act} (hag : Ag n F a) : ∀ {l : List Nat} {vs : List Value}, getL F l = some vs → ∀ t v, AFrame.get (l.zip vs) t = some v → a.tmps[t]? = some v
  | [], vs, h, t, v, hv => by simp [AFrame.get] at hv
  | s :: l, vs, h, t, v, hv => by
    simp only [getL, Option.bind_eq_some_iff, Option.map_eq_some_iff] at h
    obtain ⟨u, hu, us, hus, rfl⟩ := h
    rw [List.zip_cons_cons, AFrame.get_cons] at hv
    by_cases e : s = t
    · subst e; rw [if_pos rfl] at hv; cases hv; exact hag.get _ _ hu
    · rw [if_neg e] at hv; exact getL_eval hag hus t v hv
theorem get_append (F G : AFrame) (t : Nat) : AFrame.get (F ++ G) t = (AFrame.get F t).or (AFrame.get G t) := by
  induction F with
  | nil => simp [AFrame.get]
  | cons p F ih =>
    obtain ⟨i, v⟩ := p
    rw [List.cons_append, AFrame.get_cons, AFrame.get_cons, ih]
    split <;> rfl
theorem memN_iff {t : Nat} : ∀ {l : List Nat}, memN t l = true ↔ t ∈ l
  | [] => by simp [memN]
  | u :: l => by
    simp only [memN, Bool.or_eq_true, List.mem_cons, memN_iff (l := l)]
    constructor
    · rintro (h | h)
      · exact .inl (Nat.eq_of_beq_eq_true h).symm
      · exact .inr h
    · rintro (rfl | h)
      · exact .inl (by simp)
      · exact .inr h
theorem get_kill {S : List Nat} {t : Nat} {v : Value} : ∀ {F : AFrame}, AFrame.get (kill S F) t = some v → t ∉ S ∧ AFrame.get F t = some v
  | [], h => by simp [kill, AFrame.get] at h
  | (i, u) :: F, h => by
    simp only [kill] at h
    cases hm : memN i S with
    | true =>
      rw [hm] at h
      obtain ⟨h1, h2⟩ := get_kill (F := F) (h : AFrame.get (kill S F) t = some v)
      refine ⟨h1, ?_⟩
      rw [AFrame.get_cons, if_neg]
      · exact h2
      · rintro rfl; exact h1 (memN_iff.1 hm)
    | false =>
      rw [hm] at h
      simp only [cond_false] at h
      rw [AFrame.get_cons] at h ⊢
      by_cases e : i = t
      · subst e
        rw [if_pos rfl] at h ⊢
        exact ⟨fun hS => (by rw [memN_iff.2 hS] at hm; cases hm), h⟩
      · rw [if_neg e] at h ⊢
        exact get_kill h
/-- Where ways meet: the new frame agrees, too. -/
theorem ag_meet {n : Nat} {F F' : AFrame} {a a' : Act} {S : List Nat} {l : List (Nat × ATy)} {s : DenA (tys l)} (hag : Ag n F a) (hag' : Ag n F' a') (hp : prL l F' = some s)
    (hS : ∀ t, t ∉ S → a'.tmps[t]? = a.tmps[t]?) : Ag n (embF l s ++ kill S F) a' := by
  simp only [prL, Option.bind_eq_some_iff] at hp
  obtain ⟨vs, hvs, hun⟩ := hp
  have he := unA_emb hun
  refine ⟨hag'.size, hag'.defers, fun t v h => ?_⟩
  rw [get_append] at h
  cases hg : AFrame.get (embF l s) t with
  | some u =>
    rw [hg, Option.some_or, Option.some.injEq] at h
    subst h
    unfold embF at hg
    rw [← he] at hg
    exact getL_eval hag' hvs t _ hg
  | none =>
    rw [hg] at h
    simp only [Option.none_or] at h
    obtain ⟨h1, h2⟩ := get_kill h
    rw [hS t h1]
    exact hag.get t v h2
theorem ag_cond {n : Nat} {F : AFrame} {a : Act} (hag : Ag n F a) {c : Operand} {b : Bool} (h : ev F c = some (.bool b)) : Ag n (condF F c b) a := by
  cases c with
  | tmp t => exact hag.again h
  | _ => exact hag

/-- What is asked of a way's end: the frame agrees, and what the code does not set is as it was. -/
abbrev Ends (n : Nat) (S : List Nat) (a : Act) (w : World) (k : Kont) (Q : Exit → Act → World → Prop) : Prop :=
  ∀ e F' a' w', Ag n F' a' → SameEnv w w' → (∀ t, t ∉ S → a'.tmps[t]? = a.tmps[t]?) → k e F' w'.heap → Q e a' w'

theorem EJ.sound {P : Program} {c : Code} {n : Nat} {S : List Nat} {h : Hint} {m : Hint → AFrame → Heap → Kont → Prop} {F : AFrame} {a : Act} {w : World} {k : Kont} {Q : Exit → Act → World → Prop}
    (hag : Ag n F a) (hE : EJ S h m F w.heap k) (hk : Ends n S a w k Q)
    (hm : ∀ h k, m h F w.heap k → ∀ Q, Ends n S a w k Q → c.wp P Q a w) : c.wp P Q a w := by
  unfold EJ at hE
  split at hE
  · rename_i l h'
    refine hm h' _ hE Q fun e F' a' w' h1 h2 h3 h4 => ?_
    cases e with
    | normal =>
      obtain ⟨s, hs, hn⟩ := opt_cases (h4 : opt _ _)
      exact hk .normal _ a' w' (ag_meet hag h1 hs h3) h2 h3 hn
    | exit id => exact hk _ F' a' w' h1 h2 h3 h4
    | goto l => exact hk _ F' a' w' h1 h2 h3 h4
    | ret => exact hk _ F' a' w' h1 h2 h3 h4
    | panic c => exact hk _ F' a' w' h1 h2 h3 h4
    | outgrown => exact hk _ F' a' w' h1 h2 h3 h4
  · exact hm h k hE Q hk

theorem dstsOk_of {n : Nat} {ops : List Oper} (h : (ops.all fun o => match o.dst with
    | some d => Nat.blt d n
    | none => true) = true) : dstsOk n ops := by
  intro o ho d hd
  have := List.all_eq_true.1 h o ho
  rw [hd] at this
  exact Nat.le_of_ble_eq_true this

theorem EG.sound {SC : Code → Hint → AFrame → Heap → Kont → Prop} {P : Program} (hm : P.follows .mixedOrders = true) {n : Nat}
    (hSC : ∀ (x : Code) (h : Hint) (F : AFrame) (k : Kont) (a : Act) (w : World) (Q : Exit → Act → World → Prop), okN n x = true → Ag n F a → SC x h F w.heap k → Ends n (sets x) a w k Q → (Code.scope x).wp P Q a w) : ∀ (c : Code) (h : Hint) (F : AFrame) (k : Kont) (a : Act) (w : World) (Q : Exit → Act → World → Prop),
    okN n c = true → Ag n F a → EG SC P c h F w.heap k → Ends n (sets c) a w k Q → c.wp P Q a w := by
  intro c
  induction c with
  | skip => intro h F k a w Q _ hag hE hk; exact wp_skip (hk _ F a w hag (.refl w) (fun _ _ => rfl) hE)
  | label l => intro h F k a w Q _ hag hE hk; exact wp_label (hk _ F a w hag (.refl w) (fun _ _ => rfl) hE)
  | exit id => intro h F k a w Q _ hag hE hk; exact wp_exit (hk _ F a w hag (.refl w) (fun _ _ => rfl) hE)
  | goto l => intro h F k a w Q _ hag hE hk; exact wp_goto (hk _ F a w hag (.refl w) (fun _ _ => rfl) hE)
  | ret => intro h F k a w Q _ hag hE hk; exact wp_ret (hk _ F a w hag (.refl w) (fun _ _ => rfl) hE)
  | rangeFunc f ps x y => intro h F k a w Q _ hag hE hk; exact hE.elim
  | refuse why => intro h F k a w Q _ hag hE hk; exact hE.elim
  | region id ops draw =>
    intro h F k a w Q hok hag hE hk
    refine EJ.sound hag hE hk fun h' k' hr Q' hk' => ?_
    cases draw with
    | false =>
      refine wp_region ?_
      rw [List.range_eq_range']
      have := EOps.sound ops.toList 0 F a w (Q := Q') (by simp) (dstsOk_of hok) hag hr fun F' a' w' h1 h2 h3 h4 => hk' _ F' a' w' h1 h2 h3 h4
      simpa using this
    | true =>
      cases hs : Region.noSelect ops with
      | false => simp only [hs] at hr; exact hr.elim
      | true =>
        simp only [hs, cond_true] at hr
        refine Code.wp_mono NoP.imp (wp_region_any hm (wpAny_of_R _ _ _ _ (EDraw.sound (w := { w with drawn := w.drawn + 1 }) (dstsOk_of hok) hs _ _ _ F a hag hr
          fun F' a' w' h1 h2 h3 h4 => ?_)))
        exact hk' _ F' a' w' h1 ⟨h2.tape, h2.os, h2.output⟩ h3 h4
  | seq x y ihx ihy =>
    intro h F k a w Q hok hag hE hk
    simp only [okN, Bool.and_eq_true] at hok
    refine EJ.sound hag hE hk fun h' k' hr Q' hk' => ?_
    refine wp_seq (ihx h'.fst F _ a w _ hok.1 hag hr fun e F' a' w' h1 h2 h3 h4 => ?_)
    have keep : ∀ t, t ∉ sets x ++ sets y → a'.tmps[t]? = a.tmps[t]? := fun t ht => h3 t fun hx => ht (List.mem_append.2 (.inl hx))
    cases e with
    | normal =>
      refine ihy h'.snd F' k' a' w' Q' hok.2 h1 h4 fun e F'' a'' w'' g1 g2 g3 g4 => ?_
      exact hk' e F'' a'' w'' g1 (h2.trans g2) (fun t ht => (g3 t fun hy => ht (List.mem_append.2 (.inr hy))).trans (keep t ht)) g4
    | exit id => exact hk' _ F' a' w' h1 h2 keep h4
    | goto l => exact hk' _ F' a' w' h1 h2 keep h4
    | ret => exact hk' _ F' a' w' h1 h2 keep h4
    | panic c => exact hk' _ F' a' w' h1 h2 keep h4
    | outgrown => exact hk' _ F' a' w' h1 h2 keep h4
  | cond c x y ihx ihy =>
    intro h F k a w Q hok hag hE hk
    simp only [okN, Bool.and_eq_true] at hok
    refine EJ.sound hag hE hk fun h' k' hr Q' hk' => ?_
    split at hr
    · rename_i b hb
      have hc := hag.ev hb
      cases b with
      | true =>
        exact wp_cond_true hc (ihx h'.fst _ k' a w Q' hok.1 (ag_cond hag hb) hr fun e F' a' w' h1 h2 h3 h4 =>
          hk' e F' a' w' h1 h2 (fun t ht => h3 t fun hx => ht (List.mem_append.2 (.inl hx))) h4)
      | false =>
        exact wp_cond_false hc (ihy h'.snd _ k' a w Q' hok.2 (ag_cond hag hb) hr fun e F' a' w' h1 h2 h3 h4 =>
          hk' e F' a' w' h1 h2 (fun t ht => h3 t fun hx => ht (List.mem_append.2 (.inr hx))) h4)
    · exact hr.elim
  | block id x ih =>
    intro h F k a w Q hok hag hE hk
    refine EJ.sound hag hE hk fun h' k' hr Q' hk' => ?_
    refine wp_block (ih h'.fst F _ a w _ hok hag hr fun e F' a' w' h1 h2 h3 h4 => ?_)
    cases e with
    | exit id' =>
      simp only [blockK] at h4
      simp only [Exit.inBlock]
      by_cases e : id' = id
      · subst e
        simp only [Nat.beq_eq_true_eq, if_true] at h4 ⊢
        have : Nat.beq id' id' = true := by simp
        rw [this] at h4
        exact hk' _ F' a' w' h1 h2 h3 h4
      · have : Nat.beq id' id = false := by
          cases hb : Nat.beq id' id with
          | false => rfl
          | true => exact absurd (Nat.eq_of_beq_eq_true hb) e
        rw [this] at h4
        rw [if_neg e]
        exact hk' _ F' a' w' h1 h2 h3 h4
    | normal => exact hk' _ F' a' w' h1 h2 h3 h4
    | goto l => exact hk' _ F' a' w' h1 h2 h3 h4
    | ret => exact hk' _ F' a' w' h1 h2 h3 h4
    | panic c => exact hk' _ F' a' w' h1 h2 h3 h4
    | outgrown => exact hk' _ F' a' w' h1 h2 h3 h4
  | scope x ih =>
    intro h F k a w Q hok hag hE hk
    refine EJ.sound hag hE hk fun h' k' hr Q' hk' => ?_
    have straight : EG SC P x h'.fst F w.heap (scopeK k') → (Code.scope x).wp P Q' a w := fun hr => by
      refine wp_scope_straight (ih h'.fst F _ a w _ hok hag hr fun e F' a' w' h1 h2 h3 h4 => ?_)
      cases e with
      | goto l => exact (h4 : False).elim
      | normal => exact hk' _ F' a' w' h1 h2 h3 h4
      | exit id => exact hk' _ F' a' w' h1 h2 h3 h4
      | ret => exact hk' _ F' a' w' h1 h2 h3 h4
      | panic c => exact hk' _ F' a' w' h1 h2 h3 h4
      | outgrown => exact hk' _ F' a' w' h1 h2 h3 h4
    split at hr
    · exact hSC x _ F k' a w Q' hok hag hr hk'
    · exact straight hr
  | loop x ih =>
    intro h F k a w Q hok hag hE hk
    unfold EG at hE
    split at hE
    · rename_i l h'
      obtain ⟨s, hs, I, μ, hI, hstep⟩ := opt_cases hE
      refine wp_loop_ghost (fun n' a' w' => ∃ s', Ag n (embF l s' ++ kill (sets x) F) a' ∧ SameEnv w w' ∧ (∀ t, t ∉ sets x → a'.tmps[t]? = a.tmps[t]?) ∧ I s' w'.heap ∧ n' = μ s' w'.heap)
        (μ s w.heap) ?_ ?_
      · exact ⟨s, ag_meet hag hag hs (fun _ _ => rfl), .refl w, fun _ _ => rfl, hI, rfl⟩
      · rintro n' a' w' ⟨s', h1, h2, h3, h4, rfl⟩
        refine ih h' _ _ a' w' _ hok h1 (hstep s' w'.heap h4) fun e F'' a'' w'' g1 g2 g3 g4 => ?_
        have keep : ∀ t, t ∉ sets x → a''.tmps[t]? = a.tmps[t]? := fun t ht => (g3 t ht).trans (h3 t ht)
        cases e with
        | normal =>
          obtain ⟨s2, hs2, hI2, hlt⟩ := opt_cases (g4 : opt _ _)
          exact ⟨_, hlt, s2, ag_meet hag g1 hs2 keep, h2.trans g2, keep, hI2, rfl⟩
        | exit id => exact hk _ F'' a'' w'' g1 (h2.trans g2) keep g4
        | goto l => exact hk _ F'' a'' w'' g1 (h2.trans g2) keep g4
        | ret => exact hk _ F'' a'' w'' g1 (h2.trans g2) keep g4
        | panic c => exact hk _ F'' a'' w'' g1 (h2.trans g2) keep g4
        | outgrown => exact hk _ F'' a'' w'' g1 (h2.trans g2) keep g4
    · exact hE.elim

theorem findLabel_ok {n : Nat} {l : Nat} : ∀ {x rest : Code}, findLabel x l = some rest → (∀ t ∈ sets rest, t ∈ sets x) ∧ (okN n x = true → okN n rest = true)
  | .seq x y, rest, h => by
    unfold findLabel at h
    split at h
    · rename_i r hr
      obtain ⟨h1, h2⟩ := findLabel_ok (n := n) hr
      cases h
      refine ⟨fun t ht => ?_, fun ho => ?_⟩
      · simp only [sets, List.mem_append] at ht ⊢
        exact ht.imp (h1 t) id
      · simp only [okN, Bool.and_eq_true] at ho ⊢
        exact ⟨h2 ho.1, ho.2⟩
    · obtain ⟨h1, h2⟩ := findLabel_ok (n := n) h
      refine ⟨fun t ht => ?_, fun ho => ?_⟩
      · simp only [sets, List.mem_append]; exact .inr (h1 t ht)
      · simp only [okN, Bool.and_eq_true] at ho; exact h2 ho.2
  | .label l', rest, h => by
    unfold findLabel at h
    split at h
    · cases h; exact ⟨(fun t ht => by cases ht), fun _ => rfl⟩
    · cases h
  | .skip, _, h => by simp [findLabel] at h
  | .region _ _ _, _, h => by simp [findLabel] at h
  | .cond _ _ _, _, h => by simp [findLabel] at h
  | .block _ _, _, h => by simp [findLabel] at h
  | .loop _, _, h => by simp [findLabel] at h
  | .rangeFunc _ _ _ _, _, h => by simp [findLabel] at h
  | .exit _, _, h => by simp [findLabel] at h
  | .scope _, _, h => by simp [findLabel] at h
  | .goto _, _, h => by simp [findLabel] at h
  | .ret, _, h => by simp [findLabel] at h
  | .refuse _, _, h => by simp [findLabel] at h
/-- By a goto to one of these labels: J. -/
def jumpsE (labels : List Nat) (J : Nat → Act → World → Prop) (Q : Exit → Act → World → Prop) : Exit → Act → World → Prop
  | .goto l, a, w => l ∈ labels ∧ J l a w
  | e, a, w => Q e a w
theorem wp_scope_multi {P : Program} {a : Act} {w : World} {Q : Exit → Act → World → Prop} {c : Code} (labels : List Nat) (J : Nat → Nat → Act → World → Prop) (hf : ∀ l ∈ labels, ∃ rest, findLabel c l = some rest)
    (first : c.wp P (jumpsE labels (fun l a w => ∃ m, J m l a w) Q) a w)
    (pass : ∀ m l, l ∈ labels → ∀ rest, findLabel c l = some rest → ∀ a w, J m l a w → rest.wp P (jumpsE labels (fun l' a' w' => ∃ m', m' < m ∧ J m' l' a' w') Q) a w) : (Code.scope c).wp P Q a w := by
  intro b k cs
  have hg : ∀ l rest, findLabel c l = some rest → gotoIn l (.inScope c :: k) = some (.code rest :: .inScope c :: k) := fun l rest h => by simp [gotoIn, h]
  have key : ∀ m l rest a w, l ∈ labels → findLabel c l = some rest → J m l a w → ∃ e a' w', Q e a' w' ∧ Arrives P (lone (b.at a (.code rest :: .inScope c :: k)) cs w) b k cs e a' w' := by
    intro m
    induction m using Nat.strongRecOn with
    | _ m ih =>
      intro l rest a w hl hrest hJ
      obtain ⟨e, a₁, w₁, hq, harr⟩ := pass m l hl rest hrest a w hJ b (.inScope c :: k) cs
      cases e with
      | normal => exact ⟨.normal, a₁, w₁, hq, Steps.trans harr (.one step_inScope)⟩
      | exit id => exact ⟨.exit id, a₁, w₁, hq, fun k' hk => harr k' (by simp [exitTo, hk])⟩
      | goto l' =>
        obtain ⟨hl', m', hlt, hJ'⟩ := hq
        obtain ⟨rest', hrest'⟩ := hf l' hl'
        obtain ⟨e₂, a₂, w₂, hq₂, harr₂⟩ := ih m' hlt l' rest' a₁ w₁ hl' hrest' hJ'
        exact ⟨e₂, a₂, w₂, hq₂, .of_steps (harr _ (hg l' rest' hrest')) harr₂⟩
      | ret => exact ⟨_, a₁, w₁, hq, harr⟩
      | panic ch => exact ⟨_, a₁, w₁, hq, harr⟩
      | outgrown => exact ⟨_, a₁, w₁, hq, harr⟩
  obtain ⟨e, a₁, w₁, hq, harr⟩ := first b (.inScope c :: k) cs
  cases e with
  | normal => exact ⟨.normal, a₁, w₁, hq, .head step_scope (Steps.trans harr (.one step_inScope))⟩
  | exit id => exact ⟨.exit id, a₁, w₁, hq, fun k' hk => .head step_scope (harr k' (by simp [exitTo, hk]))⟩
  | goto l' =>
    obtain ⟨hl', m', hJ'⟩ := hq
    obtain ⟨rest', hrest'⟩ := hf l' hl'
    obtain ⟨e₂, a₂, w₂, hq₂, harr₂⟩ := key m' l' rest' a₁ w₁ hl' hrest' hJ'
    exact ⟨e₂, a₂, w₂, hq₂, .of_steps (.head step_scope (harr _ (hg l' rest' hrest'))) harr₂⟩
  | ret => exact ⟨_, a₁, w₁, hq, .of_steps (.one step_scope) harr⟩
  | panic ch => exact ⟨_, a₁, w₁, hq, .of_steps (.one step_scope) harr⟩
  | outgrown => exact ⟨_, a₁, w₁, hq, .of_steps (.one step_scope) harr⟩
theorem mem_jpass {P : Program} {x : Code} {l : List (Nat × ATy)} {labels : List Nat} {k : Kont} {F : AFrame} : ∀ {ts : List Nat} {h : Hint} {t : Nat}, t ∈ ts → ∃ h', (t, fun j s H => match findLabel x t with
      | some rest => E0 P rest h' (embF l s ++ kill (sets x) F) H (jumpK l labels j k)
      | none => False) ∈ jpass P x l labels k F ts h
  | u :: ts, h, t, ht => by
    rcases List.mem_cons.1 ht with rfl | ht
    · exact ⟨h.fst, List.mem_cons_self ..⟩
    · obtain ⟨h', hm⟩ := mem_jpass (P := P) (x := x) (l := l) (labels := labels) (k := k) (F := F) (h := h.snd) ht
      exact ⟨h', List.mem_cons_of_mem _ hm⟩
theorem E0.sound {P : Program} (hm : P.follows .mixedOrders = true) {n : Nat} : ∀ (c : Code) (h : Hint) (F : AFrame) (k : Kont) (a : Act) (w : World) (Q : Exit → Act → World → Prop),
    okN n c = true → Ag n F a → E0 P c h F w.heap k → Ends n (sets c) a w k Q → c.wp P Q a w := EG.sound hm fun _ _ _ _ _ _ _ _ _ h _ => h.elim
theorem SJ.sound {P : Program} (hm : P.follows .mixedOrders = true) {n : Nat} (x : Code) (h : Hint) (F : AFrame) (k : Kont) (a : Act) (w : World) (Q : Exit → Act → World → Prop)
    (hok : okN n x = true) (hag : Ag n F a) (hE : SJ P x h F w.heap k) (hk : Ends n (sets x) a w k Q) : (Code.scope x).wp P Q a w := by
  unfold SJ at hE
  split at hE
  · rename_i l ls h hs
    cases hb : ls.all (fun t => (findLabel x t).isSome) with
    | false => rw [hb] at hE; exact hE.elim
    | true =>
      rw [hb] at hE
      obtain ⟨I, μ, hfirst, hpass⟩ := (hE : JumpT _ _)
      have hall : ∀ t ∈ ls, ∃ rest, findLabel x t = some rest := fun t ht => Option.isSome_iff_exists.1 (List.all_eq_true.1 hb t ht)
      have ends : ∀ (a1 : Act) (w1 : World) (c : Code) (j : Nat → DenA (tys l) → Heap → Prop) (J : Nat → Act → World → Prop), SameEnv w w1 → (∀ t, t ∉ sets x → a1.tmps[t]? = a.tmps[t]?) → (∀ t ∈ sets c, t ∈ sets x) →
          (∀ t s a' w', Ag n (embF l s ++ kill (sets x) F) a' → SameEnv w w' → (∀ t, t ∉ sets x → a'.tmps[t]? = a.tmps[t]?) → j t s w'.heap → J t a' w') → Ends n (sets c) a1 w1 (jumpK l ls j k) (jumpsE ls J Q) := by
        intro a1 w1 c j J he1 hk1 hsub hJ e F' a' w' h1 h2 h3 h4
        have keep : ∀ t, t ∉ sets x → a'.tmps[t]? = a.tmps[t]? := fun t ht => (h3 t fun h => ht (hsub t h)).trans (hk1 t ht)
        cases e with
        | goto t =>
          simp only [jumpK] at h4
          cases hb : memN t ls with
          | false => rw [hb] at h4; exact h4.elim
          | true =>
            rw [hb] at h4
            obtain ⟨s, hs, hj⟩ := opt_cases (h4 : opt _ _)
            exact ⟨memN_iff.1 hb, hJ t s a' w' (ag_meet hag h1 hs keep) (he1.trans h2) keep hj⟩
        | normal => exact hk _ F' a' w' h1 (he1.trans h2) keep h4
        | exit id => exact hk _ F' a' w' h1 (he1.trans h2) keep h4
        | ret => exact hk _ F' a' w' h1 (he1.trans h2) keep h4
        | panic c => exact hk _ F' a' w' h1 (he1.trans h2) keep h4
        | outgrown => exact hk _ F' a' w' h1 (he1.trans h2) keep h4
      refine wp_scope_multi ls (fun m t a' w' => ∃ s, Ag n (embF l s ++ kill (sets x) F) a' ∧ SameEnv w w' ∧ (∀ t, t ∉ sets x → a'.tmps[t]? = a.tmps[t]?) ∧ I t s w'.heap ∧ m = μ t s w'.heap) hall ?_ ?_
      · exact E0.sound hm x h F _ a w _ hok hag hfirst (ends a w x I _ (.refl w) (fun _ _ => rfl) (fun _ h => h) fun t s a' w' h1 h2 h3 h4 => ⟨_, s, h1, h2, h3, h4, rfl⟩)
      · rintro m t ht rest hrest a1 w1 ⟨s, h1, h2, h3, h4, rfl⟩
        obtain ⟨h', hmem⟩ := mem_jpass (P := P) (x := x) (l := l) (labels := ls) (k := k) (F := F) (h := hs) ht
        have hp := hpass _ hmem s w1.heap h4
        simp only [hrest] at hp
        obtain ⟨hsub, hokr⟩ := findLabel_ok (n := n) hrest
        exact E0.sound hm rest h' _ _ a1 w1 _ (hokr hok) h1 hp (ends a1 w1 rest _ _ h2 h3 hsub fun t' s' a' w' g1 g2 g3 g4 => ⟨_, g4.2, s', g1, g2, g3, g4.1, rfl⟩)
  · exact hE.elim
theorem E.sound {P : Program} (hm : P.follows .mixedOrders = true) {n : Nat} : ∀ (c : Code) (h : Hint) (F : AFrame) (k : Kont) (a : Act) (w : World) (Q : Exit → Act → World → Prop),
    okN n c = true → Ag n F a → E P c h F w.heap k → Ends n (sets c) a w k Q → c.wp P Q a w := EG.sound hm fun x h F k a w Q => SJ.sound hm x h F k a w Q
end Go.Proofs.YtfpmgpblhhcpgaaGreat.Hc
/-
  A call of a function, from the condition of its body.
-/
namespace Go.Proofs.YtfpmgpblhhcpgaaGreat.Hc
set_option linter.unusedVariables false
set_option linter.unusedSimpArgs false

def argF : Nat → List Value → AFrame
  | _, [] => []
  | i, v :: vs => (i, v) :: argF (i + 1) vs
def ELoadV (P : Program) (t : TypeId) (a : Addr) (H : Heap) (k : Value → Prop) : Prop :=
  match tyA P t, P.info? t with
  | some (.c c), _ => Ld c a H fun d => k (c.emb d)
  | some (.agg l), some i => bif Nat.beq i.size l.length then LdC l a H fun d => k (.agg ⟨embC l d⟩) else False
  | some (.big n _), some i => bif Nat.beq i.size n then LdB n a H fun vs => k (.agg ⟨vs⟩) else False
  | _, _ => False
def resL (P : Program) (F : AFrame) (H : Heap) : List ResultVar → (List Value → Prop) → Prop
  | [], k => k []
  | .tmp t :: rs, k => opt (F.get t) fun v => resL P F H rs fun vs => k (v :: vs)
  | .cell t ty :: rs, k => match F.get t with
    | some (.pointer (some a)) => ELoadV P ty a H fun v => resL P F H rs fun vs => k (v :: vs)
    | _ => False
def RTy.unL : (r : RTy) → List Value → Option r.den
  | .one t, [v] => t.un v
  | .tup _, [_] => none
  | .tup l, vs => unA l vs
  | _, _ => none
def fin (P : Program) (fn : Func) (r : RTy) (k : r.den → Heap → Prop) : Kont := fun e F H => match e with
  | .normal => resL P F H fn.results.toList fun vs => opt (r.unL vs) fun d => k d H
  | .ret => resL P F H fn.results.toList fun vs => opt (r.unL vs) fun d => k d H
  | _ => False
def EFun (P : Program) (fn : Func) (h : Hint) (args : List Value) (r : RTy) (H : Heap) (k : r.den → Heap → Prop) : Prop :=
  E P (fn.body.getD .skip) h (argF 0 args) H (fin P fn r k)

theorem ELoadV.sound {P : Program} {t : TypeId} {a : Addr} {w : World} {k : Value → Prop} (h : ELoadV P t a w.heap k) : ∃ v, (loadVar t a).run P w = .ok v w ∧ k v := by
  unfold ELoadV at h
  split at h
  · rename_i c ht
    obtain ⟨d, hd, hk⟩ := h
    refine ⟨_, ?_, hk⟩
    simp only [loadVar, Sem.run_bind, tyA_c ht, Result.andThen_ok, Bool.false_eq_true, if_false, run_load, cell?_eq, hd]
  · rename_i l i ht hi
    cases hb : Nat.beq i.size l.length with
    | false => rw [hb] at h; exact h.elim
    | true =>
      rw [hb] at h
      obtain ⟨d, hd, hk⟩ := (h : LdC l a w.heap _)
      refine ⟨_, ?_, hk⟩
      have hl := run_loadCells (P := P) hd
      rw [embC_length] at hl
      have hsz : i.size = l.length := Nat.eq_of_beq_eq_true hb
      simp only [loadVar, Sem.run_bind, Sem.run_pure, Result.andThen_ok, tyA_agg ht, if_true, run_sizeOf' hi, hsz, hl]
  · rename_i m c i ht hi
    cases hb : Nat.beq i.size m with
    | false => rw [hb] at h; exact h.elim
    | true =>
      rw [hb] at h
      obtain ⟨vs, hvl, hd, hk⟩ := (h : LdB m a w.heap _)
      refine ⟨_, ?_, hk⟩
      have hl := run_loadCells (P := P) hd
      rw [hvl] at hl
      have hsz : i.size = m := Nat.eq_of_beq_eq_true hb
      simp only [loadVar, Sem.run_bind, Sem.run_pure, Result.andThen_ok, tyA_big ht, if_true, run_sizeOf' hi, hsz, hl]
  · exact h.elim

theorem resL.sound {P : Program} {n : Nat} {F : AFrame} {a : Act} (hag : Ag n F a) {w : World} : ∀ {rs : List ResultVar} {k : List Value → Prop}, resL P F w.heap rs k →
    ∃ vs, (rs.mapM (m := Sem) fun
      | .tmp t => pure (a.tmps.getD t undef)
      | .cell x t => do loadVar t (← asAddr (a.tmps.getD x undef))).run P w = .ok vs w ∧ k vs
  | [], k, h => ⟨[], rfl, h⟩
  | .tmp t :: rs, k, h => by
    obtain ⟨v, hv, h⟩ := opt_cases h
    obtain ⟨vs, hvs, hk⟩ := resL.sound hag h
    refine ⟨v :: vs, ?_, hk⟩
    have := hag.get t v hv
    simp only [List.mapM_cons, Sem.run_bind, Sem.run_pure, Result.andThen_ok, hvs]
    simp [this]
  | .cell t ty :: rs, k, h => by
    simp only [resL] at h
    split at h
    · rename_i p hp
      obtain ⟨v, hv, h⟩ := h.sound
      obtain ⟨vs, hvs, hk⟩ := resL.sound hag h
      refine ⟨v :: vs, ?_, hk⟩
      have := hag.get t _ hp
      have ha : (asAddr (a.tmps.getD t undef)).run P w = .ok p w := by simp [this, asAddr]
      simp only [List.mapM_cons, Sem.run_bind, Sem.run_pure, Result.andThen_ok, ha, hv, hvs]
    · exact h.elim

theorem RTy.unL_emb {r : RTy} {vs : List Value} {d : r.den} (h : r.unL vs = some d) :
    (if h : (vs.toArray).size = 1 then (vs.toArray)[0] else Value.tuple vs.toArray) = r.emb d := by
  cases r with
  | one t =>
    match vs, h with
    | [v], h => rw [dif_pos (by rfl)]; exact ATy.un_emb (h : t.un v = some d)
    | [], h => simp [RTy.unL] at h
    | _ :: _ :: _, h => simp [RTy.unL] at h
  | tup l =>
    match vs, h with
    | [v], h => simp [RTy.unL] at h
    | [], h => simp only [RTy.unL] at h; rw [dif_neg (by simp)]; rw [unA_emb h]; rfl
    | v :: u :: us, h => simp only [RTy.unL] at h; rw [dif_neg (by simp)]; rw [unA_emb h]; rfl

theorem argF_get : ∀ {vs : List Value} {i t : Nat} {v : Value}, AFrame.get (argF i vs) t = some v → i ≤ t ∧ vs[t - i]? = some v
  | [], i, t, v, h => by simp [argF, AFrame.get] at h
  | u :: vs, i, t, v, h => by
    simp only [argF] at h
    rw [AFrame.get_cons] at h
    by_cases e : i = t
    · subst e; rw [if_pos rfl] at h; simpa using h
    · rw [if_neg e] at h
      obtain ⟨h1, h2⟩ := argF_get h
      have : t - i = (t - (i + 1)) + 1 := by omega
      rw [this]
      exact ⟨by omega, by simpa using h2⟩

theorem call_of_E {P : Program} (hm : P.follows .mixedOrders = true) {f : FuncId} {fn : Func} {h : Hint} {args : List Value} {r : RTy} {H : Heap} {k : r.den → Heap → Prop}
    (hf : P.funcs[f]? = some fn) (hn : (fn.name == "runtime.NumGoroutine") = false) (hb : fn.body.isSome = true) (hok : okN fn.ntmps (fn.body.getD .skip) = true) (hlen : Nat.ble args.length fn.ntmps = true)
    (hE : EFun P fn h args r H k) : CallT P f args r H k := by
  obtain ⟨body, hbody⟩ := Option.isSome_iff_exists.1 hb
  refine ⟨⟨fn, hf, hn, by rw [hbody]; rfl⟩, fun w hw => ?_⟩
  subst hw
  unfold EFun at hE
  rw [hbody] at hE hok
  simp only [Option.getD_some] at hE hok
  have hle : args.length ≤ fn.ntmps := Nat.le_of_ble_eq_true hlen
  refine calls_of_wp hf hbody (E.sound hm body h _ _ _ w _ hok (n := fn.ntmps) ?_ hE fun e F' a' w' h1 h2 _ h4 => ?_)
  · refine ⟨by simp; omega, rfl, fun t v hv => ?_⟩
    obtain ⟨_, h2⟩ := argF_get hv
    rw [Nat.sub_zero] at h2
    have hlt : t < args.length := (List.getElem?_eq_some_iff.1 h2).1
    simp only
    rw [Array.getElem?_append_left (by simpa using hlt)]
    simpa using h2
  · have key : resL P F' w'.heap fn.results.toList (fun vs => opt (r.unL vs) fun d => k d w'.heap) →
        a'.defers = [] ∧ ∃ v, (results fn a'.tmps).run P w' = .ok v w' ∧ SameEnv w w' ∧ ∃ d, Ending.returned v = .returned (r.emb d) ∧ k d w'.heap := by
      intro hr
      obtain ⟨vs, hvs, hk⟩ := resL.sound h1 hr
      obtain ⟨d, hd, hk⟩ := opt_cases hk
      refine ⟨h1.defers, r.emb d, ?_, h2, d, rfl, hk⟩
      unfold results
      rw [Array.mapM_eq_mapM_toList]
      simp only [Sem.run_bind, Sem.run_map, Sem.run_pure]
      refine (congrArg (fun x : Result (List Value) => (x.andThen fun a w' => Result.ok a.toArray w').andThen fun a w' => Result.ok (if h : a.size = 1 then a[0] else Value.tuple a) w') hvs).trans ?_
      exact congrArg (fun v => Result.ok v w') (RTy.unL_emb hd)
    cases e with
    | normal => exact key h4
    | ret => exact key h4
    | _ => exact h4.elim
end Go.Proofs.YtfpmgpblhhcpgaaGreat.Hc
