/-
 The condition of a function's body: 'E', with hints for loops and for places where ways meet; and a call out of it.
-/
import Derived.Test.YtfpmgpblhhcpgaaGreatDoorHcCode
import Derived.Deep.LoopGhost
import Derived.ScopeJumps
import Derived.KernelRfl
import GoSem.ClaimChange
import Derived.SizedLaws
import Derived.Below
import Derived.ProofKit
set_option linter.unusedVariables false
set_option linter.unusedSimpArgs false
namespace Go.Proofs.YtfpmgpblhhcpgaaGreatDoor.Hc
set_option maxRecDepth 100000
inductive Hint where
 | no
 | two (a b : Hint)
 | one (a : Hint)
 | join (l : List (Nat × ATy)) (h : Hint)
 | loop (l : List (Nat × ATy)) (h : Hint)
 | jump (l : List (Nat × ATy)) (ls : List Nat) (h hs : Hint)
def Hint.fst : Hint → Hint | .two a _ => a | .one a => a | _ => .no
def Hint.snd : Hint → Hint | .two _ b => b | _ => .no
abbrev jeU := Exit → AFrame → jaa → Prop
def getL (F : AFrame) : List Nat → Option (List Value)
 | [] => some []
 | t :: ts => (F.get t).bind fun v => (getL F ts).map fun vs => v :: vs
def slots (l : List (Nat × ATy)) : List Nat := l.map (·.1)
def tys (l : List (Nat × ATy)) : List ATy := l.map (·.2)
def prL (l : List (Nat × ATy)) (F : AFrame) : Option (DenA (tys l)) := (getL F (slots l)).bind (unA (tys l))
def jl6 (l : List (Nat × ATy)) (s : DenA (tys l)) : AFrame := (slots l).zip (embA (tys l) s)
def jm3 (t : Nat) : List Nat → Bool
 | [] => false
 | s :: l => Nat.beq s t || jm3 t l
def jjr (S : List Nat) : AFrame → AFrame
 | [] => []
 | (i, v) :: F => bif jm3 i S then jjr S F else (i, v) :: jjr S F
def jcA : Code → List Nat
 | .region _ ops _ => jhv ops.toList
 | .seq x y => jcA x ++ jcA y
 | .cond _ x y => jcA x ++ jcA y
 | .block _ x => jcA x
 | .loop x => jcA x
 | .scope x => jcA x
 | _ => []
def okN (n : Nat) : Code → Bool
 | .region _ ops _ => ops.toList.all fun o => match o.dst with
   | some d => Nat.blt d n
   | none => true
 | .seq x y => okN n x && okN n y
 | .cond _ x y => okN n x && okN n y
 | .block _ x => okN n x
 | .loop x => okN n x
 | .scope x => okN n x
 | _ => true
def thenK (next : AFrame → jaa → Prop) (k : jeU) : jeU := fun e F H => match e with
 | .normal => next F H
 | e => k e F H
def jm6 (id : Nat) (k : jeU) : jeU := fun e F H => match e with
 | .exit id' => bif Nat.beq id' id then k .normal F H else k (.exit id') F H
 | e => k e F H
def jnA (k : jeU) : jeU := fun e F H => match e with
 | .goto _ => False
 | e => k e F H
def Jn {σ : Type} (m : (σ → jaa → Prop) → Prop) (k : σ → jaa → Prop) : Prop := m k
def LoopT {σ : Type} (body : (σ → jaa → Prop) → σ → jaa → Prop) (s : σ) (H : jaa) : Prop :=
 ∃ (I : σ → jaa → Prop) (μ : σ → jaa → Nat), I s H ∧ ∀ s H, I s H → body (fun s' H' => I s' H' ∧ μ s' H' < μ s H) s H
def EJ (S : List Nat) (h : Hint) (m : Hint → AFrame → jaa → jeU → Prop) (F : AFrame) (H : jaa) (k : jeU) : Prop :=
 match h with
 | .join l h => Jn (σ := DenA (tys l)) (fun kk => m h F H (thenK (fun F' H' => opt (prL l F') fun s => kk s H') k)) (fun s H' => k .normal (jl6 l s ++ jjr S F) H')
 | h => m h F H k
def condF (F : AFrame) (c : Operand) (b : Bool) : AFrame :=
 match c with
 | .tmp t => (t, .bool b) :: F
 | _ => F
def pkK (k : jeU) : Value → jaa → Prop := fun v H => k (.panic [{ v, recovered := false }]) [] H
def EG (SC : Code → Hint → AFrame → jaa → jeU → Prop) (P : Program) (PL : List Nat) : Code → Hint → AFrame → jaa → jeU → Prop
 | .skip, _, F, H, k => k .normal F H
 | .label _, _, F, H, k => k .normal F H
 | .region _ ops draw, h, F, H, k => EJ (jhv ops.toList) h (fun _ F H k =>
    match draw with
    | false => EOps P PL (pkK k) ops ops.toList F H fun F' H' => k .normal F' H'
    | true => bif Region.noSelect ops then EDraw P PL (pkK k) ops ops.size (Array.replicate ops.size false) [] F H fun F' H' => k .normal F' H' else False) F H k
 | .seq x y, h, F, H, k => EJ (jcA x ++ jcA y) h (fun h F H k => EG SC P PL x h.fst F H (thenK (fun F' H' => EG SC P PL y h.snd F' H' k) k)) F H k
 | .cond c x y, h, F, H, k => EJ (jcA x ++ jcA y) h (fun h F H k => match ev F c with
    | some (.bool b) => Br b (EG SC P PL x h.fst (condF F c true) H k) (EG SC P PL y h.snd (condF F c false) H k)
    | _ => False) F H k
 | .block id x, h, F, H, k => EJ (jcA x) h (fun h F H k => EG SC P PL x h.fst F H (jm6 id k)) F H k
 | .loop x, h, F, H, k => match h with
    | .loop l h => opt (prL l F) fun s => LoopT (fun next s H => EG SC P PL x h (jl6 l s ++ jjr (jcA x) F) H (thenK (fun F' H' => opt (prL l F') fun s' => next s' H') k)) s H
    | _ => False
 | .scope x, h, F, H, k => EJ (jcA x) h (fun h F H k => match h with
    | .jump l ls h hs => SC x (.jump l ls h hs) F H k
    | h => EG SC P PL x h.fst F H (jnA k)) F H k
 | .exit id, _, F, H, k => k (.exit id) F H
 | .goto l, _, F, H, k => k (.goto l) F H
 | .ret, _, F, H, k => k .ret F H
 | _, _, _, _, _ => False
def JumpT {σ : Type} (first : (Nat → σ → jaa → Prop) → Prop) (passes : List (Nat × ((Nat → σ → jaa → Prop) → σ → jaa → Prop))) : Prop :=
 ∃ (I : Nat → σ → jaa → Prop) (μ : Nat → σ → jaa → Nat), first I ∧ ∀ p ∈ passes, ∀ s H, I p.1 s H → p.2 (fun l s' H' => I l s' H' ∧ μ l s' H' < μ p.1 s H) s H
abbrev E0 (P : Program) (PL : List Nat) := EG (fun _ _ _ _ _ => False) P PL
def jlB (l : List (Nat × ATy)) (labels : List Nat) (j : Nat → DenA (tys l) → jaa → Prop) (k : jeU) : jeU := fun e F H => match e with
 | .goto t => bif jm3 t labels then opt (prL l F) fun s => j t s H else False
 | e => k e F H
def jpass (P : Program) (PL : List Nat) (x : Code) (l : List (Nat × ATy)) (labels : List Nat) (k : jeU) (F : AFrame) : List Nat → Hint → List (Nat × ((Nat → DenA (tys l) → jaa → Prop) → DenA (tys l) → jaa → Prop))
 | [], _ => []
 | t :: ts, h => (t, fun j s H => match findLabel x t with
    | some rest => E0 P PL rest h.fst (jl6 l s ++ jjr (jcA x) F) H (jlB l labels j k)
    | none => False) :: jpass P PL x l labels k F ts h.snd
def SJ (P : Program) (PL : List Nat) (x : Code) (h : Hint) (F : AFrame) (H : jaa) (k : jeU) : Prop :=
 match h with
 | .jump l ls h hs => bif ls.all (fun t => (findLabel x t).isSome) then JumpT (σ := DenA (tys l)) (fun j => E0 P PL x h F H (jlB l ls j k)) (jpass P PL x l ls k F ls hs) else False
 | _ => False
abbrev E (P : Program) (PL : List Nat) := EG (SJ P PL) P PL
theorem jhN {n : Nat} {F : AFrame} {a : Act} (hag : Ag n F a) : ∀ {l : List Nat} {vs : List Value}, getL F l = some vs → ∀ t v, AFrame.get (l.zip vs) t = some v → a.tmps[t]? = some v
 | [], vs, h, t, v, hv => by simp [AFrame.get] at hv
 | s :: l, vs, h, t, v, hv => by
   simp only [getL, Option.bind_eq_some_iff, Option.map_eq_some_iff] at h
   obtain ⟨u, hu, us, hus, rfl⟩ := h
   rw [List.zip_cons_cons, AFrame.get_cons] at hv
   by_cases e : s = t
   ·subst e; rw [if_pos rfl] at hv; cases hv; exact hag.get _ _ hu
   ·rw [if_neg e] at hv; exact jhN hag hus t v hv
theorem jkd (F G : AFrame) (t : Nat) : AFrame.get (F ++ G) t = (AFrame.get F t).or (AFrame.get G t) := by
 induction F with
 | nil => simp [AFrame.get]
 | cons p F ih =>
   obtain ⟨i, v⟩ := p
   rw [List.cons_append, AFrame.get_cons, AFrame.get_cons, ih]
   split <;> rfl
theorem memN_iff {t : Nat} : ∀ {l : List Nat}, jm3 t l = true ↔ t ∈ l
 | [] => by simp [jm3]
 | u :: l => by
   simp only [jm3, Bool.or_eq_true, List.mem_cons, memN_iff (l := l)]
   constructor
   ·rintro (h | h)
    ·exact .inl (Nat.eq_of_beq_eq_true h).symm
    ·exact .inr h
   ·rintro (rfl | h)
    ·exact .inl (by simp)
    ·exact .inr h
theorem jgT {S : List Nat} {t : Nat} {v : Value} : ∀ {F : AFrame}, AFrame.get (jjr S F) t = some v → t ∉ S ∧ AFrame.get F t = some v
 | [], h => by simp [jjr, AFrame.get] at h
 | (i, u) :: F, h => by
   simp only [jjr] at h
   cases hm : jm3 i S with
   | true =>
     rw [hm] at h
     obtain ⟨h1, h2⟩ := jgT (F := F) (h : AFrame.get (jjr S F) t = some v)
     refine ⟨h1, ?_⟩
     rw [AFrame.get_cons, if_neg]
     ·exact h2
     ·rintro rfl; exact h1 (memN_iff.1 hm)
   | false =>
     rw [hm] at h
     simp only [cond_false] at h
     rw [AFrame.get_cons] at h ⊢
     by_cases e : i = t
     ·subst e
      rw [if_pos rfl] at h ⊢
      exact ⟨fun hS => (by rw [memN_iff.2 hS] at hm; cases hm), h⟩
     ·rw [if_neg e] at h ⊢
      exact jgT h
theorem jho {n : Nat} {F F' : AFrame} {a a' : Act} {S : List Nat} {l : List (Nat × ATy)} {s : DenA (tys l)} (hag : Ag n F a) (hag' : Ag n F' a') (hp : prL l F' = some s)
 (hS : ∀ t, t ∉ S → a'.tmps[t]? = a.tmps[t]?) : Ag n (jl6 l s ++ jjr S F) a' := by
 simp only [prL, Option.bind_eq_some_iff] at hp
 obtain ⟨vs, hvs, hun⟩ := hp
 have he := jgR hun
 refine ⟨hag'.size, hag'.defers, fun t v h => ?_⟩
 rw [jkd] at h
 cases hg : AFrame.get (jl6 l s) t with
 | some u =>
   rw [hg, Option.some_or, Option.some.injEq] at h
   subst h
   unfold jl6 at hg
   rw [← he] at hg
   exact jhN hag' hvs t _ hg
 | none =>
   rw [hg] at h
   simp only [Option.none_or] at h
   obtain ⟨h1, h2⟩ := jgT h
   rw [hS t h1]
   exact hag.get t v h2
theorem jlg {n : Nat} {F : AFrame} {a : Act} (hag : Ag n F a) {c : Operand} {b : Bool} (h : ev F c = some (.bool b)) : Ag n (condF F c b) a := by
 cases c with
 | tmp t => exact hag.again h
 | _ => exact hag
abbrev jnu (n : Nat) (S : List Nat) (a : Act) (w : World) (k : jeU) (Q : Exit → Act → World → Prop) : Prop :=
 ∀ e F' a' w', Ag n F' a' → SameEnv w w' → (∀ t, t ∉ S → a'.tmps[t]? = a.tmps[t]?) → k e F' w'.heap → Q e a' w'
theorem EJ.sound {P : Program} {c : Code} {n : Nat} {S : List Nat} {h : Hint} {m : Hint → AFrame → jaa → jeU → Prop} {F : AFrame} {a : Act} {w : World} {k : jeU} {Q : Exit → Act → World → Prop}
 (hag : Ag n F a) (hE : EJ S h m F w.heap k) (hk : jnu n S a w k Q)
 (hm : ∀ h k, m h F w.heap k → ∀ Q, jnu n S a w k Q → c.wp P Q a w) : c.wp P Q a w := by
 unfold EJ at hE
 split at hE
 ·rename_i l h'
  refine hm h' _ hE Q fun e F' a' w' h1 h2 h3 h4 => ?_
  cases e with
  | normal =>
    obtain ⟨s, hs, hn⟩ := jaW (h4 : opt _ _)
    exact hk .normal _ a' w' (jho hag h1 hs h3) h2 h3 hn
  | exit id => exact hk _ F' a' w' h1 h2 h3 h4
  | goto l => exact hk _ F' a' w' h1 h2 h3 h4
  | ret => exact hk _ F' a' w' h1 h2 h3 h4
  | panic c => exact hk _ F' a' w' h1 h2 h3 h4
  | outgrown => exact hk _ F' a' w' h1 h2 h3 h4
 ·exact hm h k hE Q hk
theorem jhZ {n : Nat} {ops : List Oper} (h : (ops.all fun o => match o.dst with
 | some d => Nat.blt d n
 | none => true) = true) : jlv n ops := by
 intro o ho d hd
 have := List.all_eq_true.1 h o ho
 rw [hd] at this
 exact Nat.le_of_ble_eq_true this
theorem EG.sound {SC : Code → Hint → AFrame → jaa → jeU → Prop} {P : Program} {PL : List Nat} (hm : P.follows .mixedOrders = true) {n : Nat}
 (hSC : ∀ (x : Code) (h : Hint) (F : AFrame) (k : jeU) (a : Act) (w : World) (Q : Exit → Act → World → Prop), okN n x = true → Ag n F a → SC x h F w.heap k → jnu n (jcA x) a w k Q → (Code.scope x).wp P Q a w) : ∀ (c : Code) (h : Hint) (F : AFrame) (k : jeU) (a : Act) (w : World) (Q : Exit → Act → World → Prop),
 okN n c = true → Ag n F a → EG SC P PL c h F w.heap k → jnu n (jcA c) a w k Q → c.wp P Q a w := by
 intro c
 induction c with
 | skip => intro h F k a w Q _ hag hE hk; exact wp_skip (hk _ F a w hag (.refl w) (fun _ _ => rfl) hE)
 | label l => intro h F k a w Q _ hag hE hk; exact wp_label (hk _ F a w hag (.refl w) (fun _ _ => rfl) hE)
 | exit id => intro h F k a w Q _ hag hE hk; exact wp_exit (hk _ F a w hag (.refl w) (fun _ _ => rfl) hE)
 | goto l => intro h F k a w Q _ hag hE hk; exact wp_goto (hk _ F a w hag (.refl w) (fun _ _ => rfl) hE)
 | ret => intro h F k a w Q _ hag hE hk; exact wp_ret (hk _ F a w hag (.refl w) (fun _ _ => rfl) hE)
 | rangeFunc f ps x y => intro h F k a w Q _ hag hE hk; exact hE.elim
 | refuse why => intro h F k a w Q _ hag hE hk; exact hE.elim
 | region id ops draw =>
   intro h F k a w Q hok hag hE hk
   refine EJ.sound hag hE hk fun h' k' hr Q' hk' => ?_
   cases draw with
   | false =>
     refine wp_region ?_
     rw [List.range_eq_range']
     have := EOps.sound ops.toList 0 F a w (Q := Q') (by simp) (jhZ hok) hag hr (fun v a' w' h1 h2 h3 h4 => hk' _ [] a' w' h1 h2 h3 h4) fun F' a' w' h1 h2 h3 h4 => hk' _ F' a' w' h1 h2 h3 h4
     simpa using this
   | true =>
     cases hs : Region.noSelect ops with
     | false => simp only [hs] at hr; exact hr.elim
     | true =>
       simp only [hs, cond_true] at hr
       refine Code.wp_mono (fun e a' w' hq => ?_) (wp_region_any hm (jgH _ _ _ _ (EDraw.sound (w := { w with drawn := w.drawn + 1 }) (jhZ hok) hs (Q := Q') (a0 := a) (w0 := { w with drawn := w.drawn + 1 }) _ _ _ F a hag (.refl _) (fun _ _ => rfl) hr
        fun F' a' w' h1 h2 h3 h4 => ?_)))
       ·cases e <;> first | exact hq | (obtain ⟨v, rfl, hv, h2, h1, h3⟩ := hq; exact hk' _ [] a' w' h1 ⟨h2.tape, h2.os, h2.output⟩ h3 hv)
       ·exact hk' _ F' a' w' h1 ⟨h2.tape, h2.os, h2.output⟩ h3 h4
 | seq x y ihx ihy =>
   intro h F k a w Q hok hag hE hk
   simp only [okN, Bool.and_eq_true] at hok
   refine EJ.sound hag hE hk fun h' k' hr Q' hk' => ?_
   refine wp_seq (ihx h'.fst F _ a w _ hok.1 hag hr fun e F' a' w' h1 h2 h3 h4 => ?_)
   have keep : ∀ t, t ∉ jcA x ++ jcA y → a'.tmps[t]? = a.tmps[t]? := fun t ht => h3 t fun hx => ht (List.mem_append.2 (.inl hx))
   cases e with
   | normal =>
     refine ihy h'.snd F' k' a' w' Q' hok.2 h1 h4 fun e F'' a'' w'' g1 g2 g3 g4 => ?_
     exact hk' e F'' a'' w'' g1 (h2.trans g2) (fun t ht => (g3 t fun hy => ht (List.mem_append.2 (.inr hy))).trans (keep t ht)) g4
   | exit id => exact hk' _ F' a' w' h1 h2 keep h4
   | goto l => exact hk' _ F' a' w' h1 h2 keep h4
   | ret => exact hk' _ F' a' w' h1 h2 keep h4
   | panic c => exact hk' _ F' a' w' h1 h2 keep h4
   | outgrown => exact hk' _ F' a' w' h1 h2 keep h4
 | cond c x y ihx ihy =>
   intro h F k a w Q hok hag hE hk
   simp only [okN, Bool.and_eq_true] at hok
   refine EJ.sound hag hE hk fun h' k' hr Q' hk' => ?_
   split at hr
   ·rename_i b hb
    have hc := hag.ev hb
    cases b with
    | true =>
      exact wp_cond_true hc (ihx h'.fst _ k' a w Q' hok.1 (jlg hag hb) hr fun e F' a' w' h1 h2 h3 h4 =>
       hk' e F' a' w' h1 h2 (fun t ht => h3 t fun hx => ht (List.mem_append.2 (.inl hx))) h4)
    | false =>
      exact wp_cond_false hc (ihy h'.snd _ k' a w Q' hok.2 (jlg hag hb) hr fun e F' a' w' h1 h2 h3 h4 =>
       hk' e F' a' w' h1 h2 (fun t ht => h3 t fun hx => ht (List.mem_append.2 (.inr hx))) h4)
   ·exact hr.elim
 | block id x ih =>
   intro h F k a w Q hok hag hE hk
   refine EJ.sound hag hE hk fun h' k' hr Q' hk' => ?_
   refine wp_block (ih h'.fst F _ a w _ hok hag hr fun e F' a' w' h1 h2 h3 h4 => ?_)
   cases e with
   | exit id' =>
     simp only [jm6] at h4
     simp only [Exit.inBlock]
     by_cases e : id' = id
     ·subst e
      simp only [Nat.beq_eq_true_eq, if_true] at h4 ⊢
      have : Nat.beq id' id' = true := by simp
      rw [this] at h4
      exact hk' _ F' a' w' h1 h2 h3 h4
     ·have : Nat.beq id' id = false := by
       cases hb : Nat.beq id' id with
       | false => rfl
       | true => exact absurd (Nat.eq_of_beq_eq_true hb) e
      rw [this] at h4
      rw [if_neg e]
      exact hk' _ F' a' w' h1 h2 h3 h4
   | normal => exact hk' _ F' a' w' h1 h2 h3 h4
   | goto l => exact hk' _ F' a' w' h1 h2 h3 h4
   | ret => exact hk' _ F' a' w' h1 h2 h3 h4
   | panic c => exact hk' _ F' a' w' h1 h2 h3 h4
   | outgrown => exact hk' _ F' a' w' h1 h2 h3 h4
 | scope x ih =>
   intro h F k a w Q hok hag hE hk
   refine EJ.sound hag hE hk fun h' k' hr Q' hk' => ?_
   have straight : EG SC P PL x h'.fst F w.heap (jnA k') → (Code.scope x).wp P Q' a w := fun hr => by
    refine wp_scope_straight (ih h'.fst F _ a w _ hok hag hr fun e F' a' w' h1 h2 h3 h4 => ?_)
    cases e with
    | goto l => exact (h4 : False).elim
    | normal => exact hk' _ F' a' w' h1 h2 h3 h4
    | exit id => exact hk' _ F' a' w' h1 h2 h3 h4
    | ret => exact hk' _ F' a' w' h1 h2 h3 h4
    | panic c => exact hk' _ F' a' w' h1 h2 h3 h4
    | outgrown => exact hk' _ F' a' w' h1 h2 h3 h4
   split at hr
   ·exact hSC x _ F k' a w Q' hok hag hr hk'
   ·exact straight hr
 | loop x ih =>
   intro h F k a w Q hok hag hE hk
   unfold EG at hE
   split at hE
   ·rename_i l h'
    obtain ⟨s, hs, I, μ, hI, hstep⟩ := jaW hE
    refine wp_loop_ghost (fun n' a' w' => ∃ s', Ag n (jl6 l s' ++ jjr (jcA x) F) a' ∧ SameEnv w w' ∧ (∀ t, t ∉ jcA x → a'.tmps[t]? = a.tmps[t]?) ∧ I s' w'.heap ∧ n' = μ s' w'.heap)
     (μ s w.heap) ?_ ?_
    ·exact ⟨s, jho hag hag hs (fun _ _ => rfl), .refl w, fun _ _ => rfl, hI, rfl⟩
    ·rintro n' a' w' ⟨s', h1, h2, h3, h4, rfl⟩
     refine ih h' _ _ a' w' _ hok h1 (hstep s' w'.heap h4) fun e F'' a'' w'' g1 g2 g3 g4 => ?_
     have keep : ∀ t, t ∉ jcA x → a''.tmps[t]? = a.tmps[t]? := fun t ht => (g3 t ht).trans (h3 t ht)
     cases e with
     | normal =>
       obtain ⟨s2, hs2, hI2, hlt⟩ := jaW (g4 : opt _ _)
       exact ⟨_, hlt, s2, jho hag g1 hs2 keep, h2.trans g2, keep, hI2, rfl⟩
     | exit id => exact hk _ F'' a'' w'' g1 (h2.trans g2) keep g4
     | goto l => exact hk _ F'' a'' w'' g1 (h2.trans g2) keep g4
     | ret => exact hk _ F'' a'' w'' g1 (h2.trans g2) keep g4
     | panic c => exact hk _ F'' a'' w'' g1 (h2.trans g2) keep g4
     | outgrown => exact hk _ F'' a'' w'' g1 (h2.trans g2) keep g4
   ·exact hE.elim
theorem jdh {n : Nat} {l : Nat} : ∀ {x rest : Code}, findLabel x l = some rest → (∀ t ∈ jcA rest, t ∈ jcA x) ∧ (okN n x = true → okN n rest = true)
 | .seq x y, rest, h => by
   unfold findLabel at h
   split at h
   ·rename_i r hr
    obtain ⟨h1, h2⟩ := jdh (n := n) hr
    cases h
    refine ⟨fun t ht => ?_, fun ho => ?_⟩
    ·simp only [jcA, List.mem_append] at ht ⊢
     exact ht.imp (h1 t) id
    ·simp only [okN, Bool.and_eq_true] at ho ⊢
     exact ⟨h2 ho.1, ho.2⟩
   ·obtain ⟨h1, h2⟩ := jdh (n := n) h
    refine ⟨fun t ht => ?_, fun ho => ?_⟩
    ·simp only [jcA, List.mem_append]; exact .inr (h1 t ht)
    ·simp only [okN, Bool.and_eq_true] at ho; exact h2 ho.2
 | .label l', rest, h => by
   unfold findLabel at h
   split at h
   ·cases h; exact ⟨(fun t ht => by cases ht), fun _ => rfl⟩
   ·cases h
 | .skip, _, h => by simp [findLabel] at h
 | .region _ _ _, _, h => by simp [findLabel] at h
 | .cond _ _ _, _, h => by simp [findLabel] at h
 | .block _ _, _, h => by simp [findLabel] at h
 | .loop _, _, h => by simp [findLabel] at h
 | .rangeFunc _ _ _ _, _, h => by simp [findLabel] at h
 | .exit _, _, h => by simp [findLabel] at h
 | .scope _, _, h => by simp [findLabel] at h
 | .goto _, _, h => by simp [findLabel] at h
 | .ret, _, h => by simp [findLabel] at h
 | .refuse _, _, h => by simp [findLabel] at h
def jkV (labels : List Nat) (J : Nat → Act → World → Prop) (Q : Exit → Act → World → Prop) : Exit → Act → World → Prop
 | .goto l, a, w => l ∈ labels ∧ J l a w
 | e, a, w => Q e a w
theorem jgm {P : Program} {a : Act} {w : World} {Q : Exit → Act → World → Prop} {c : Code} (labels : List Nat) (J : Nat → Nat → Act → World → Prop) (hf : ∀ l ∈ labels, ∃ rest, findLabel c l = some rest)
 (first : c.wp P (jkV labels (fun l a w => ∃ m, J m l a w) Q) a w)
 (pass : ∀ m l, l ∈ labels → ∀ rest, findLabel c l = some rest → ∀ a w, J m l a w → rest.wp P (jkV labels (fun l' a' w' => ∃ m', m' < m ∧ J m' l' a' w') Q) a w) : (Code.scope c).wp P Q a w := by
 intro b k cs
 have hg : ∀ l rest, findLabel c l = some rest → gotoIn l (.inScope c :: k) = some (.code rest :: .inScope c :: k) := fun l rest h => by simp [gotoIn, h]
 have key : ∀ m l rest a w, l ∈ labels → findLabel c l = some rest → J m l a w → ∃ e a' w', Q e a' w' ∧ Arrives P (lone (b.at a (.code rest :: .inScope c :: k)) cs w) b k cs e a' w' := by
  intro m
  induction m using Nat.strongRecOn with
  | _ m ih =>
    intro l rest a w hl hrest hJ
    obtain ⟨e, a₁, w₁, hq, harr⟩ := pass m l hl rest hrest a w hJ b (.inScope c :: k) cs
    cases e with
    | normal => exact ⟨.normal, a₁, w₁, hq, Steps.trans harr (.one step_inScope)⟩
    | exit id => exact ⟨.exit id, a₁, w₁, hq, fun k' hk => harr k' (by simp [exitTo, hk])⟩
    | goto l' =>
      obtain ⟨hl', m', hlt, hJ'⟩ := hq
      obtain ⟨rest', hrest'⟩ := hf l' hl'
      obtain ⟨e₂, a₂, w₂, hq₂, harr₂⟩ := ih m' hlt l' rest' a₁ w₁ hl' hrest' hJ'
      exact ⟨e₂, a₂, w₂, hq₂, .of_steps (harr _ (hg l' rest' hrest')) harr₂⟩
    | ret => exact ⟨_, a₁, w₁, hq, harr⟩
    | panic ch => exact ⟨_, a₁, w₁, hq, harr⟩
    | outgrown => exact ⟨_, a₁, w₁, hq, harr⟩
 obtain ⟨e, a₁, w₁, hq, harr⟩ := first b (.inScope c :: k) cs
 cases e with
 | normal => exact ⟨.normal, a₁, w₁, hq, .head step_scope (Steps.trans harr (.one step_inScope))⟩
 | exit id => exact ⟨.exit id, a₁, w₁, hq, fun k' hk => .head step_scope (harr k' (by simp [exitTo, hk]))⟩
 | goto l' =>
   obtain ⟨hl', m', hJ'⟩ := hq
   obtain ⟨rest', hrest'⟩ := hf l' hl'
   obtain ⟨e₂, a₂, w₂, hq₂, harr₂⟩ := key m' l' rest' a₁ w₁ hl' hrest' hJ'
   exact ⟨e₂, a₂, w₂, hq₂, .of_steps (.head step_scope (harr _ (hg l' rest' hrest'))) harr₂⟩
 | ret => exact ⟨_, a₁, w₁, hq, .of_steps (.one step_scope) harr⟩
 | panic ch => exact ⟨_, a₁, w₁, hq, .of_steps (.one step_scope) harr⟩
 | outgrown => exact ⟨_, a₁, w₁, hq, .of_steps (.one step_scope) harr⟩
theorem jhS {P : Program} {PL : List Nat} {x : Code} {l : List (Nat × ATy)} {labels : List Nat} {k : jeU} {F : AFrame} : ∀ {ts : List Nat} {h : Hint} {t : Nat}, t ∈ ts → ∃ h', (t, fun j s H => match findLabel x t with
 | some rest => E0 P PL rest h' (jl6 l s ++ jjr (jcA x) F) H (jlB l labels j k)
 | none => False) ∈ jpass P PL x l labels k F ts h
 | u :: ts, h, t, ht => by
   rcases List.mem_cons.1 ht with rfl | ht
   ·exact ⟨h.fst, List.mem_cons_self ..⟩
   ·obtain ⟨h', hm⟩ := jhS (P := P) (PL := PL) (x := x) (l := l) (labels := labels) (k := k) (F := F) (h := h.snd) ht
    exact ⟨h', List.mem_cons_of_mem _ hm⟩
theorem E0.sound {P : Program} {PL : List Nat} (hm : P.follows .mixedOrders = true) {n : Nat} : ∀ (c : Code) (h : Hint) (F : AFrame) (k : jeU) (a : Act) (w : World) (Q : Exit → Act → World → Prop),
 okN n c = true → Ag n F a → E0 P PL c h F w.heap k → jnu n (jcA c) a w k Q → c.wp P Q a w := EG.sound hm fun _ _ _ _ _ _ _ _ _ h _ => h.elim
theorem SJ.sound {P : Program} {PL : List Nat} (hm : P.follows .mixedOrders = true) {n : Nat} (x : Code) (h : Hint) (F : AFrame) (k : jeU) (a : Act) (w : World) (Q : Exit → Act → World → Prop)
 (hok : okN n x = true) (hag : Ag n F a) (hE : SJ P PL x h F w.heap k) (hk : jnu n (jcA x) a w k Q) : (Code.scope x).wp P Q a w := by
 unfold SJ at hE
 split at hE
 ·rename_i l ls h hs
  cases hb : ls.all (fun t => (findLabel x t).isSome) with
  | false => rw [hb] at hE; exact hE.elim
  | true =>
    rw [hb] at hE
    obtain ⟨I, μ, hfirst, hpass⟩ := (hE : JumpT _ _)
    have hall : ∀ t ∈ ls, ∃ rest, findLabel x t = some rest := fun t ht => Option.isSome_iff_exists.1 (List.all_eq_true.1 hb t ht)
    have ends : ∀ (a1 : Act) (w1 : World) (c : Code) (j : Nat → DenA (tys l) → jaa → Prop) (J : Nat → Act → World → Prop), SameEnv w w1 → (∀ t, t ∉ jcA x → a1.tmps[t]? = a.tmps[t]?) → (∀ t ∈ jcA c, t ∈ jcA x) →
     (∀ t s a' w', Ag n (jl6 l s ++ jjr (jcA x) F) a' → SameEnv w w' → (∀ t, t ∉ jcA x → a'.tmps[t]? = a.tmps[t]?) → j t s w'.heap → J t a' w') → jnu n (jcA c) a1 w1 (jlB l ls j k) (jkV ls J Q) := by
     intro a1 w1 c j J he1 hk1 hsub hJ e F' a' w' h1 h2 h3 h4
     have keep : ∀ t, t ∉ jcA x → a'.tmps[t]? = a.tmps[t]? := fun t ht => (h3 t fun h => ht (hsub t h)).trans (hk1 t ht)
     cases e with
     | goto t =>
       simp only [jlB] at h4
       cases hb : jm3 t ls with
       | false => rw [hb] at h4; exact h4.elim
       | true =>
         rw [hb] at h4
         obtain ⟨s, hs, hj⟩ := jaW (h4 : opt _ _)
         exact ⟨memN_iff.1 hb, hJ t s a' w' (jho hag h1 hs keep) (he1.trans h2) keep hj⟩
     | normal => exact hk _ F' a' w' h1 (he1.trans h2) keep h4
     | exit id => exact hk _ F' a' w' h1 (he1.trans h2) keep h4
     | ret => exact hk _ F' a' w' h1 (he1.trans h2) keep h4
     | panic c => exact hk _ F' a' w' h1 (he1.trans h2) keep h4
     | outgrown => exact hk _ F' a' w' h1 (he1.trans h2) keep h4
    refine jgm ls (fun m t a' w' => ∃ s, Ag n (jl6 l s ++ jjr (jcA x) F) a' ∧ SameEnv w w' ∧ (∀ t, t ∉ jcA x → a'.tmps[t]? = a.tmps[t]?) ∧ I t s w'.heap ∧ m = μ t s w'.heap) hall ?_ ?_
    ·exact E0.sound hm x h F _ a w _ hok hag hfirst (ends a w x I _ (.refl w) (fun _ _ => rfl) (fun _ h => h) fun t s a' w' h1 h2 h3 h4 => ⟨_, s, h1, h2, h3, h4, rfl⟩)
    ·rintro m t ht rest hrest a1 w1 ⟨s, h1, h2, h3, h4, rfl⟩
     obtain ⟨h', hmem⟩ := jhS (P := P) (PL := PL) (x := x) (l := l) (labels := ls) (k := k) (F := F) (h := hs) ht
     have hp := hpass _ hmem s w1.heap h4
     simp only [hrest] at hp
     obtain ⟨hsub, hokr⟩ := jdh (n := n) hrest
     exact E0.sound hm rest h' _ _ a1 w1 _ (hokr hok) h1 hp (ends a1 w1 rest _ _ h2 h3 hsub fun t' s' a' w' g1 g2 g3 g4 => ⟨_, g4.2, s', g1, g2, g3, g4.1, rfl⟩)
 ·exact hE.elim
theorem E.sound {P : Program} {PL : List Nat} (hm : P.follows .mixedOrders = true) {n : Nat} : ∀ (c : Code) (h : Hint) (F : AFrame) (k : jeU) (a : Act) (w : World) (Q : Exit → Act → World → Prop),
 okN n c = true → Ag n F a → E P PL c h F w.heap k → jnu n (jcA c) a w k Q → c.wp P Q a w := EG.sound hm fun x h F k a w Q => SJ.sound hm x h F k a w Q
def argF : Nat → List Value → AFrame
 | _, [] => []
 | i, v :: vs => (i, v) :: argF (i + 1) vs
def ELoadV (P : Program) (t : TypeId) (a : Addr) (H : jaa) (k : Value → Prop) : Prop :=
 match tyA P t, P.info? t with
 | some (.c c), _ => Ld c a H fun d => k (c.emb d)
 | some (.agg l), some i => bif Nat.beq i.size l.length then LdC l a H fun d => k (.agg ⟨jkQ l d⟩) else False
 | some (.big n _), some i => bif Nat.beq i.size n then LdB n a H fun vs => k (.agg ⟨vs⟩) else False
 | _, _ => False
def resL (P : Program) (F : AFrame) (H : jaa) : List ResultVar → (List Value → Prop) → Prop
 | [], k => k []
 | .tmp t :: rs, k => opt (F.get t) fun v => resL P F H rs fun vs => k (v :: vs)
 | .cell t ty :: rs, k => match F.get t with
   | some (.pointer (some a)) => ELoadV P ty a H fun v => resL P F H rs fun vs => k (v :: vs)
   | _ => False
def RTy.unL : (r : RTy) → List Value → Option r.den
 | .one t, [v] => t.un v
 | .tup _, [_] => none
 | .tup l, vs => unA l vs
 | _, _ => none
def finE (P : Program) (fn : Func) (r : RTy) (kp : Value → jaa → Prop) (k : r.den → jaa → Prop) : jeU := fun e F H => match e with
 | .normal => resL P F H fn.results.toList fun vs => opt (r.unL vs) fun d => k d H
 | .ret => resL P F H fn.results.toList fun vs => opt (r.unL vs) fun d => k d H
 | .panic [⟨v, false, false⟩] => kp v H
 | _ => False
def jmk (P : Program) (PL : List Nat) (fn : Func) (h : Hint) (args : List Value) (r : RTy) (H : jaa) (kp : Value → jaa → Prop) (k : r.den → jaa → Prop) : Prop :=
 E P PL (fn.body.getD .skip) h (argF 0 args) H (finE P fn r kp k)
abbrev EFun (P : Program) (fn : Func) (h : Hint) (args : List Value) (r : RTy) (H : jaa) (k : r.den → jaa → Prop) : Prop := jmk P [] fn h args r H (fun _ _ => False) k
theorem ELoadV.sound {P : Program} {t : TypeId} {a : Addr} {w : World} {k : Value → Prop} (h : ELoadV P t a w.heap k) : ∃ v, (loadVar t a).run P w = .ok v w ∧ k v := by
 unfold ELoadV at h
 split at h
 ·rename_i c ht
  obtain ⟨d, hd, hk⟩ := h
  refine ⟨_, ?_, hk⟩
  simp only [loadVar, Sem.run_bind, jmF ht, Result.andThen_ok, Bool.false_eq_true, if_false, run_load, cell?_eq, hd]
 ·rename_i l i ht hi
  cases hb : Nat.beq i.size l.length with
  | false => rw [hb] at h; exact h.elim
  | true =>
    rw [hb] at h
    obtain ⟨d, hd, hk⟩ := (h : LdC l a w.heap _)
    refine ⟨_, ?_, hk⟩
    have hl := jbL (P := P) hd
    rw [jd8] at hl
    have hsz : i.size = l.length := Nat.eq_of_beq_eq_true hb
    simp only [loadVar, Sem.run_bind, Sem.run_pure, Result.andThen_ok, jlL ht, if_true, ja7 hi, hsz, hl]
 ·rename_i m c i ht hi
  cases hb : Nat.beq i.size m with
  | false => rw [hb] at h; exact h.elim
  | true =>
    rw [hb] at h
    obtain ⟨vs, hvl, hd, hk⟩ := (h : LdB m a w.heap _)
    refine ⟨_, ?_, hk⟩
    have hl := jbL (P := P) hd
    rw [hvl] at hl
    have hsz : i.size = m := Nat.eq_of_beq_eq_true hb
    simp only [loadVar, Sem.run_bind, Sem.run_pure, Result.andThen_ok, jkK ht, if_true, ja7 hi, hsz, hl]
 ·exact h.elim
theorem resL.sound {P : Program} {n : Nat} {F : AFrame} {a : Act} (hag : Ag n F a) {w : World} : ∀ {rs : List ResultVar} {k : List Value → Prop}, resL P F w.heap rs k →
 ∃ vs, (rs.mapM (m := Sem) fun
  | .tmp t => pure (a.tmps.getD t undef)
  | .cell x t => do loadVar t (← asAddr (a.tmps.getD x undef))).run P w = .ok vs w ∧ k vs
 | [], k, h => ⟨[], rfl, h⟩
 | .tmp t :: rs, k, h => by
   obtain ⟨v, hv, h⟩ := jaW h
   obtain ⟨vs, hvs, hk⟩ := resL.sound hag h
   refine ⟨v :: vs, ?_, hk⟩
   have := hag.get t v hv
   simp only [List.mapM_cons, Sem.run_bind, Sem.run_pure, Result.andThen_ok, hvs]
   simp [this]
 | .cell t ty :: rs, k, h => by
   simp only [resL] at h
   split at h
   ·rename_i p hp
    obtain ⟨v, hv, h⟩ := h.sound
    obtain ⟨vs, hvs, hk⟩ := resL.sound hag h
    refine ⟨v :: vs, ?_, hk⟩
    have := hag.get t _ hp
    have ha : (asAddr (a.tmps.getD t undef)).run P w = .ok p w := by simp [this, asAddr]
    simp only [List.mapM_cons, Sem.run_bind, Sem.run_pure, Result.andThen_ok, ha, hv, hvs]
   ·exact h.elim
theorem RTy.unL_emb {r : RTy} {vs : List Value} {d : r.den} (h : r.unL vs = some d) :
 (if h : (vs.toArray).size = 1 then (vs.toArray)[0] else Value.tuple vs.toArray) = r.emb d := by
 cases r with
 | one t =>
   match vs, h with
   | [v], h => rw [dif_pos (by rfl)]; exact ATy.un_emb (h : t.un v = some d)
   | [], h => simp [RTy.unL] at h
   | _ :: _ :: _, h => simp [RTy.unL] at h
 | tup l =>
   match vs, h with
   | [v], h => simp [RTy.unL] at h
   | [], h => simp only [RTy.unL] at h; rw [dif_neg (by simp)]; rw [jgR h]; rfl
   | v :: u :: us, h => simp only [RTy.unL] at h; rw [dif_neg (by simp)]; rw [jgR h]; rfl
theorem jj6 : ∀ {vs : List Value} {i t : Nat} {v : Value}, AFrame.get (argF i vs) t = some v → i ≤ t ∧ vs[t - i]? = some v
 | [], i, t, v, h => by simp [argF, AFrame.get] at h
 | u :: vs, i, t, v, h => by
   simp only [argF] at h
   rw [AFrame.get_cons] at h
   by_cases e : i = t
   ·subst e; rw [if_pos rfl] at h; simpa using h
   ·rw [if_neg e] at h
    obtain ⟨h1, h2⟩ := jj6 h
    have : t - i = (t - (i + 1)) + 1 := by omega
    rw [this]
    exact ⟨by omega, by simpa using h2⟩
theorem jgu {P : Program} {PL : List Nat} (hm : P.follows .mixedOrders = true) {f : FuncId} {fn : Func} {h : Hint} {args : List Value} {r : RTy} {H : jaa} {kp : Value → jaa → Prop} {k : r.den → jaa → Prop}
 (hf : P.funcs[f]? = some fn) (hn : (fn.name == "runtime.NumGoroutine") = false) (hb : fn.body.isSome = true) (hok : okN fn.ntmps (fn.body.getD .skip) = true) (hlen : Nat.ble args.length fn.ntmps = true)
 (hE : jmk P PL fn h args r H kp k) : CallE P f args r H kp k := by
 obtain ⟨body, hbody⟩ := Option.isSome_iff_exists.1 hb
 refine ⟨⟨fn, hf, hn, by rw [hbody]; rfl⟩, fun w hw => ?_⟩
 subst hw
 unfold jmk at hE
 rw [hbody] at hE hok
 simp only [Option.getD_some] at hE hok
 have hle : args.length ≤ fn.ntmps := Nat.le_of_ble_eq_true hlen
 refine calls_of_wp hf hbody (E.sound hm body h _ _ _ w _ hok (n := fn.ntmps) ?_ hE fun e F' a' w' h1 h2 _ h4 => ?_)
 ·refine ⟨by simp; omega, rfl, fun t v hv => ?_⟩
  obtain ⟨_, h2⟩ := jj6 hv
  rw [Nat.sub_zero] at h2
  have hlt : t < args.length := (List.getElem?_eq_some_iff.1 h2).1
  simp only
  rw [Array.getElem?_append_left (by simpa using hlt)]
  simpa using h2
 ·have key : resL P F' w'.heap fn.results.toList (fun vs => opt (r.unL vs) fun d => k d w'.heap) →
   a'.defers = [] ∧ ∃ v, (results fn a'.tmps).run P w' = .ok v w' ∧ SameEnv w w' ∧ ((∃ d, Ending.returned v = .returned (r.emb d) ∧ k d w'.heap) ∨ ∃ u, Ending.returned v = .panicked [{ v := u, recovered := false }] ∧ kp u w'.heap) := by
   intro hr
   obtain ⟨vs, hvs, hk⟩ := resL.sound h1 hr
   obtain ⟨d, hd, hk⟩ := jaW hk
   refine ⟨h1.defers, r.emb d, ?_, h2, .inl ⟨d, rfl, hk⟩⟩
   unfold results
   rw [Array.mapM_eq_mapM_toList]
   simp only [Sem.run_bind, Sem.run_map, Sem.run_pure]
   refine (congrArg (fun x : Result (List Value) => (x.andThen fun a w' => Result.ok a.toArray w').andThen fun a w' => Result.ok (if h : a.size = 1 then a[0] else Value.tuple a) w') hvs).trans ?_
   exact congrArg (fun v => Result.ok v w') (RTy.unL_emb hd)
  cases e with
  | normal => exact key h4
  | ret => exact key h4
  | panic c =>
    unfold finE at h4
    split at h4
    ·rename_i h; cases h
    ·rename_i h; cases h
    ·rename_i v h
     cases h
     exact ⟨h1.defers, h2, .inr ⟨v, rfl, h4⟩⟩
    ·exact h4.elim
  | _ => exact h4.elim
theorem jlw {P : Program} (hm : P.follows .mixedOrders = true) {f : FuncId} {fn : Func} {h : Hint} {args : List Value} {r : RTy} {H : jaa} {k : r.den → jaa → Prop}
 (hf : P.funcs[f]? = some fn) (hn : (fn.name == "runtime.NumGoroutine") = false) (hb : fn.body.isSome = true) (hok : okN fn.ntmps (fn.body.getD .skip) = true) (hlen : Nat.ble args.length fn.ntmps = true)
 (hE : EFun P fn h args r H k) : CallT P f args r H k := (jgu hm hf hn hb hok hlen hE).t
def hq (x : Hint) : Hint := .two .no x
theorem cE {P : Program} (hm : P.follows .mixedOrders = true) {f : FuncId} {fn : Func} (h : Hint) {args : List Value} {r : RTy} {H : jaa} {k : r.den → jaa → Prop} (hf : P.funcs[f]? = some fn) {V : Prop} (hV : V) (e : EFun P fn h args r H k = V := by kernel_rfl)
 (hn : (fn.name == "runtime.NumGoroutine") = false := by kernel_rfl) (hb : fn.body.isSome = true := by kernel_rfl) (hok : okN fn.ntmps (fn.body.getD .skip) = true := by kernel_rfl) (hlen : Nat.ble args.length fn.ntmps = true := by kernel_rfl) : CallT P f args r H k :=
 jlw hm hf hn hb hok hlen (e.symm ▸ hV)
theorem cEE {P : Program} {PL : List Nat} (hm : P.follows .mixedOrders = true) {f : FuncId} {fn : Func} (h : Hint) {args : List Value} {r : RTy} {H : jaa} {kp : Value → jaa → Prop} {k : r.den → jaa → Prop} (hf : P.funcs[f]? = some fn) {V : Prop} (hV : V) (e : jmk P PL fn h args r H kp k = V := by kernel_rfl)
 (hn : (fn.name == "runtime.NumGoroutine") = false := by kernel_rfl) (hb : fn.body.isSome = true := by kernel_rfl) (hok : okN fn.ntmps (fn.body.getD .skip) = true := by kernel_rfl) (hlen : Nat.ble args.length fn.ntmps = true := by kernel_rfl) : CallE P f args r H kp k :=
 jgu hm hf hn hb hok hlen (e.symm ▸ hV)
structure Upd (M : Nat → Prop) (H H' : jaa) : Prop where
 size : H.size ≤ H'.size
 get : ∀ b, b < H.size → ¬ M b → H'[b]? = H[b]?
abbrev Ext (H H' : jaa) : Prop := Upd (fun _ => False) H H'
theorem Upd.refl (M : Nat → Prop) (H : jaa) : Upd M H H := ⟨Nat.le_refl _, fun _ _ _ => rfl⟩
theorem Upd.trans {M M2 : Nat → Prop} {H H1 H2 : jaa} (h : Upd M H H1) (h2 : Upd M2 H1 H2) (hM : ∀ b, b < H.size → M2 b → M b) : Upd M H H2 :=
 ⟨Nat.le_trans h.size h2.size, fun b hb hn => (h2.get b (Nat.lt_of_lt_of_le hb h.size) fun hm => hn (hM b hb hm)).trans (h.get b hb hn)⟩
theorem Upd.mono {M M2 : Nat → Prop} {H H1 : jaa} (h : Upd M2 H H1) (hM : ∀ b, b < H.size → M2 b → M b) : Upd M H H1 :=
 ⟨h.size, fun b hb hn => h.get b hb fun hm => hn (hM b hb hm)⟩
theorem Upd.ext {M : Nat → Prop} {H H1 H2 : jaa} (h : Upd M H H1) (h2 : Ext H1 H2) : Upd M H H2 := h.trans h2 fun _ _ h => h.elim
theorem Upd.push (M : Nat → Prop) (H : jaa) (o : Obj) : Upd M H (H.push o) :=
 ⟨by simp, fun b hb _ => by rw [Array.getElem?_push, if_neg (by omega)]⟩
theorem Upd.set (H : jaa) (a : Addr) (v : Value) : Upd (· = a.block) H (jdv H a v) :=
 ⟨by simp [jdv], fun b _ hn => by simp only [jdv, Array.getElem?_modify]; rw [if_neg (fun e => hn e.symm)]⟩
theorem jcj {H : jaa} {b : Nat} {o : Obj} (h : H[b]? = some o) : b < H.size := by
 rcases Nat.lt_or_ge b H.size with h' | h'
 ·exact h'
 ·rw [Array.getElem?_eq_none h'] at h; cases h
theorem Upd.keep {M : Nat → Prop} {H H' : jaa} (h : Upd M H H') {b : Nat} {o : Obj} (hb : H[b]? = some o) (hn : ¬ M b) : H'[b]? = some o := (h.get b (jcj hb) hn).trans hb
theorem jaJ (H : jaa) (o : Obj) : (H.push o)[H.size]? = some o := by simp
theorem jdy {H : jaa} {a : Addr} {v : Value} (h : jar H a = some v) : a.block < H.size := by
 unfold jar at h
 rcases Nat.lt_or_ge a.block H.size with h' | h'
 ·exact h'
 ·rw [Array.getElem?_eq_none h'] at h; cases h
theorem jjp {H H' : jaa} {a : Addr} (h : H'[a.block]? = H[a.block]?) : jar H' a = jar H a := by unfold jar; rw [h]
theorem Upd.cell {M : Nat → Prop} {H H' : jaa} (h : Upd M H H') {a : Addr} {v : Value} (hc : jar H a = some v) (hn : ¬ M a.block) : jar H' a = some v :=
 (jjp (h.get _ (jdy hc) hn)).trans hc
theorem jgQ {H : jaa} {b o : Nat} {cs : Array Value} {t : TypeId} {fr : Nat × Nat} (h : H[b]? = some (.cells cs t fr)) : jar H ⟨b, o, none⟩ = cs[o]? := by
 simp [jar, h]
theorem jbr {H : jaa} {b o : Nat} {cs : Array Value} {t : TypeId} (h : H[b]? = some (.cells cs t (0, 0))) : jba H ⟨b, o, none⟩ = false := by
 simp [jba, h]
theorem jc4 {H : jaa} {b o : Nat} {cs : Array Value} {t : TypeId} {fr : Nat × Nat} (h : H[b]? = some (.cells cs t fr)) (v : Value) :
 (jdv H ⟨b, o, none⟩ v)[b]? = some (.cells (cs.setIfInBounds o v) t fr) := by
 simp [jdv, Array.getElem?_modify, h]
@[simp] theorem size_hset (H : jaa) (a : Addr) (v : Value) : (jdv H a v).size = H.size := by simp [jdv]
@[simp] theorem adr_add (b n : Nat) : (adr b).add n = ⟨b, n, none⟩ := by unfold Addr.add; split <;> simp_all
@[simp] theorem mk_add (b o n : Nat) : (Addr.add ⟨b, o, none⟩ n) = ⟨b, o + n, none⟩ := by unfold Addr.add; split <;> simp_all
@[simp] theorem NilCk_some (a : Addr) (k : Addr → Prop) : jab (some a) k ↔ k a := by simp [jab]
@[simp] theorem NilCk_none (k : Addr → Prop) : jab none k ↔ False := by simp [jab]
theorem Ld.mk {c : CTy} {a : Addr} {H : jaa} {k : c.den → Prop} (d : c.den) (h : jar H a = some (c.emb d)) (hk : k d) : Ld c a H k := ⟨d, h, hk⟩
theorem jaf {kd : IntKind} {a : Addr} {H : jaa} {k : Int → Prop} {n : Int} (h : jar H a = some (.int kd n)) (hk : k n) : Ld (.int kd) a H k := ⟨n, h, hk⟩
theorem Ld_bool {a : Addr} {H : jaa} {k : Bool → Prop} {n : Bool} (h : jar H a = some (.bool n)) (hk : k n) : Ld .bool a H k := ⟨n, h, hk⟩
theorem jap {a : Addr} {H : jaa} {k : ByteArray → Prop} {n : ByteArray} (h : jar H a = some (.string n)) (hk : k n) : Ld .str a H k := ⟨n, h, hk⟩
theorem jan {a : Addr} {H : jaa} {k : Option Addr → Prop} {n : Option Addr} (h : jar H a = some (.pointer n)) (hk : k n) : Ld .ptr a H k := ⟨n, h, hk⟩
theorem jam {a : Addr} {H : jaa} {k : Sl → Prop} {s : Sl} (h : jar H a = some (.slice s.a s.len s.cap)) (hk : k s) : Ld .sl a H k := ⟨s, h, hk⟩
theorem St.mk {a : Addr} {v : Value} {H : jaa} {k : jaa → Prop} {u : Value} (h : jar H a = some u) (hf : jba H a = false) (hk : k (jdv H a v)) : St a v H k := ⟨by rw [h]; rfl, hf, hk⟩
theorem St_blk {b o : Nat} {v : Value} {H : jaa} {k : jaa → Prop} {cs : Array Value} {t : TypeId} (h : H[b]? = some (.cells cs t (0, 0))) (ho : o < cs.size)
 (hk : ∀ H', Upd (· = b) H H' → H'.size = H.size → H'[b]? = some (.cells (cs.setIfInBounds o v) t (0, 0)) → k H') : St ⟨b, o, none⟩ v H k :=
 ⟨by rw [jgQ h]; simp [ho], jbr h, hk _ (Upd.set H ⟨b, o, none⟩ v) (by simp) (jc4 h v)⟩
@[simp] theorem Br_true (X Y : Prop) : Br true X Y ↔ X := Iff.rfl
@[simp] theorem Br_false (X Y : Prop) : Br false X Y ↔ Y := Iff.rfl
theorem Br.mk {b : Bool} {X Y : Prop} (h1 : b = true → X) (h2 : b = false → Y) : Br b X Y := by cases b; exact h2 rfl; exact h1 rfl
theorem jaj {p : Prop} [Decidable p] {X Y : Prop} (h1 : p → X) (h2 : ¬ p → Y) : Br (decide p) X Y := Br.mk (fun h => h1 (of_decide_eq_true h)) fun h => h2 (of_decide_eq_false h)
theorem ja1 {p : Prop} [Decidable p] {X Y : Prop} (h : p) (hx : X) : Br (decide p) X Y := by rw [decide_eq_true h]; exact hx
theorem jbS {p : Prop} [Decidable p] {X Y : Prop} (h : ¬ p) (hy : Y) : Br (decide p) X Y := by rw [decide_eq_false h]; exact hy
@[simp] theorem Lt_def (v : Int) (k : Int → Prop) : Lt v k ↔ k v := Iff.rfl
theorem Lt.mk {v u : Int} {k : Int → Prop} (h : v = u) (hk : k u) : Lt v k := by subst h; exact hk
theorem Nw.mk {cells : Array Value} {t : TypeId} {H : jaa} {k : Nat → jaa → Prop}
 (h : ∀ H', H' = H.push (.cells cells t) → k H.size H') : Nw cells t H k := h _ rfl
theorem Nw_blk {cells : Array Value} {t : TypeId} {H : jaa} {k : Nat → jaa → Prop}
 (h : ∀ b H', b = H.size → Ext H H' → H'.size = H.size + 1 → H'[b]? = some (.cells cells t (0, 0)) → k b H') : Nw cells t H k :=
 h _ _ rfl (Upd.push _ _ _) (by simp) (jaJ _ _)
theorem Jn.mk {σ : Type} {m : (σ → jaa → Prop) → Prop} {k : σ → jaa → Prop} (R : σ → jaa → Prop) (h1 : ∀ kk, (∀ s H, R s H → kk s H) → m kk) (h2 : ∀ s H, R s H → k s H) : Jn m k := h1 k h2
theorem jhB {σ : Type} {m : (σ → jaa → Prop) → Prop} {k : σ → jaa → Prop} (h : m k) : Jn m k := h
theorem LoopT.mk {σ : Type} {body : (σ → jaa → Prop) → σ → jaa → Prop} {s : σ} {H : jaa} (I : σ → jaa → Prop) (μ : σ → jaa → Nat) (h : I s H)
 (hb : ∀ next s H, I s H → (∀ s' H', I s' H' → μ s' H' < μ s H → next s' H') → body next s H) : LoopT body s H :=
 ⟨I, μ, h, fun s H hI => hb _ s H hI fun _ _ h1 h2 => ⟨h1, h2⟩⟩
theorem LoopT.ghost {σ : Type} {body : (σ → jaa → Prop) → σ → jaa → Prop} {s : σ} {H : jaa} (I : Nat → σ → jaa → Prop) (n : Nat) (h : I n s H)
 (hb : ∀ next m s H, I m s H → (∀ m' s' H', m' < m → I m' s' H' → next s' H') → body next s H) : LoopT body s H := by
 refine ⟨fun s H => ∃ m, I m s H, fun s H => leastOf (fun m => I m s H), ⟨n, h⟩, fun s H hI => ?_⟩
 have hl := leastOf_spec hI
 exact hb _ _ s H hl.1 fun m' s' H' hlt hI' => ⟨⟨m', hI'⟩, Nat.lt_of_le_of_lt ((leastOf_spec ⟨m', hI'⟩).2 m' hI') hlt⟩
theorem CallT.mono {P : Program} {f : FuncId} {args : List Value} {r : RTy} {H : jaa} {k k' : r.den → jaa → Prop} (h : CallT P f args r H k) (hk : ∀ d H', k d H' → k' d H') : CallT P f args r H k' :=
 ⟨h.1, fun w hw => (h.2 w hw).mono fun _ _ ⟨he, d, h1, h2⟩ => ⟨he, d, h1, hk d _ h2⟩⟩
theorem IxA.mk {size : Nat} {s : Sl} {i : Int} {k : Addr → Prop} {a : Addr} (ha : s.a = some a) (h0 : 0 ≤ i) (h1 : i < (s.len : Int)) (hk : k (a.add (i.toNat * size))) : IxA size s i k := ⟨a, ha, h0, h1, hk⟩
theorem jb9 {a : Addr} {v : Value} {H : jaa} {X : Prop} (h : jar H a = some v) (hx : X) : Stab [(a, v)] H X := ⟨by simpa using h, hx⟩
theorem jdW {a b : Addr} {v u : Value} {H : jaa} {X : Prop} (h : jar H a = some v) (h2 : jar H b = some u) (hx : X) : Stab [(a, v), (b, u)] H X := ⟨by simp [h, h2], hx⟩
theorem jax {l : List (Addr × Value)} {H : jaa} {X : Prop} (h : ∀ x ∈ l, jar H x.1 = some x.2) (hx : X) : Stab l H X := by
 cases l with
 | nil => exact hx
 | cons e l => exact ⟨h, hx⟩
def I64 (x : Int) : Prop := -9223372036854775808 ≤ x ∧ x < 9223372036854775808
theorem jms (x : Int) : IntKind.wrap .u64 x = x % 18446744073709551616 := by
 unfold IntKind.wrap; simp [IntKind.signed, IntKind.bits]
theorem jmN (x : Int) : IntKind.wrap .i64 x = (x + 9223372036854775808) % 18446744073709551616 - 9223372036854775808 := by
 unfold IntKind.wrap; simp [IntKind.signed, IntKind.bits]; split <;> omega
theorem jac {x : Int} (h0 : -9223372036854775808 ≤ x) (h1 : x < 9223372036854775808) : IntKind.wrap .i64 x = x := by rw [jmN]; omega
theorem jb0 {x : Int} (h0 : 0 ≤ x) (h1 : x < 18446744073709551616) : IntKind.wrap .u64 x = x := by rw [jms]; omega
theorem wrap_u8 (x : Int) : IntKind.wrap .u8 x = x % 256 := by
 unfold IntKind.wrap; simp [IntKind.signed, IntKind.bits]
def Row (H : jaa) (b : Nat) (T : TypeId) (vs : List Value) : Prop := H[b]? = some (.cells ⟨vs⟩ T (0, 0))
theorem Row.lt {H : jaa} {b : Nat} {T : TypeId} {vs : List Value} (h : Row H b T vs) : b < H.size := jcj h
theorem Row.cell {H : jaa} {b : Nat} {T : TypeId} {vs : List Value} (h : Row H b T vs) (i : Nat) : jar H ⟨b, i, none⟩ = vs[i]? := by
 rw [jgQ h]; simp
theorem Upd.row {M : Nat → Prop} {H H' : jaa} (h : Upd M H H') {b : Nat} {T : TypeId} {vs : List Value} (hb : Row H b T vs) (hn : ¬ M b) : Row H' b T vs := h.keep hb hn
theorem jay {b i : Nat} {v : Value} {H : jaa} {k : jaa → Prop} {T : TypeId} {vs : List Value} (h : Row H b T vs) (hi : i < vs.length)
 (hk : ∀ H', Upd (· = b) H H' → H'.size = H.size → Row H' b T (vs.set i v) → k H') : St ⟨b, i, none⟩ v H k := by
 refine St_blk h (by simpa using hi) fun H' h1 h2 h3 => hk H' h1 h2 ?_
 unfold Row; rw [h3]; simp
theorem jgc {size b len cap : Nat} {i : Int} {k : Addr → Prop} (h0 : 0 ≤ i) (h1 : i < (len : Int)) (hk : k ⟨b, i.toNat * size, none⟩) : IxA size ⟨some (adr b), len, cap⟩ i k :=
 IxA.mk rfl h0 h1 (by simpa using hk)
theorem jeN (z : Value) (n : Nat) : jbq #[z] n = ⟨List.replicate n z⟩ := by
 unfold jbq
 apply Array.ext'
 simp only [Array.toList_map, Array.toList_range]
 apply List.ext_getElem
 ·simp
 ·intro i h1 h2; simp [Nat.mod_one]
theorem jaq {vs : List Value} {t : TypeId} {H : jaa} {k : Nat → jaa → Prop}
 (h : ∀ b H', b = H.size → Ext H H' → H'.size = H.size + 1 → Row H' b t vs → k b H') : Nw ⟨vs⟩ t H k :=
 Nw_blk fun b H' h1 h2 h3 h4 => h b H' h1 h2 h3 h4
abbrev jeL (xs : List Int) : List Value := xs.map (Value.int .i64)
def iota (n : Nat) : List Int := (List.range n).map Int.ofNat
theorem Row.ne {H : jaa} {b b' : Nat} {T T' : TypeId} {vs vs' : List Value} (h : Row H b T vs) (h' : Row H b' T' vs') (ht : T ≠ T') : b ≠ b' := by
 rintro rfl
 unfold Row at h h'
 rw [h] at h'
 simp only [Option.some.injEq, Obj.cells.injEq] at h'
 exact ht h'.2.1
theorem hcells_iff {H : jaa} {a : Addr} : ∀ {vs : List Value} {i : Nat}, jaR H a i vs ↔ ∀ j, j < vs.length → jar H (a.add (i + j)) = vs[j]?
 | [], i => by simp [jaR]
 | v :: vs, i => by
   simp only [jaR, hcells_iff (vs := vs)]
   constructor
   ·rintro ⟨h0, h⟩ j hj
    cases j with
    | zero => simpa using h0
    | succ j => have := h j (by simpa using hj); rw [show i + (j + 1) = i + 1 + j by omega]; simpa using this
   ·intro h
    refine ⟨by simpa using h 0 (by simp), fun j hj => ?_⟩
    have := h (j + 1) (by simpa using hj)
    rw [show i + 1 + j = i + (j + 1) by omega]; simpa using this
theorem Row.rd {H : jaa} {b : Nat} {T : TypeId} {vs ws : List Value} (h : Row H b T (vs ++ ws)) : jaR H (adr b) 0 vs := by
 rw [hcells_iff]
 intro j hj
 rw [adr_add, h.cell, Nat.zero_add, List.getElem?_append_left hj]
theorem Row.rd_all {H : jaa} {b : Nat} {T : TypeId} {vs : List Value} (h : Row H b T vs) : jaR H (adr b) 0 vs := Row.rd (ws := []) (by simpa using h)
structure Vec (H : jaa) (T : TypeId) (s : Sl) (vs : List Value) : Prop where
 len : s.len = vs.length
 own : (s.a = none ∧ s.cap = 0 ∧ vs = []) ∨ ∃ b sp, s.a = some (adr b) ∧ Row H b T (vs ++ sp) ∧ s.cap ≤ vs.length + sp.length
 lc : s.len ≤ s.cap
theorem Vec.nil (H : jaa) (T : TypeId) : Vec H T ⟨none, 0, 0⟩ [] := ⟨rfl, .inl ⟨rfl, rfl, rfl⟩, Nat.le_refl _⟩
theorem Vec.rd {H : jaa} {T : TypeId} {s : Sl} {vs : List Value} (h : Vec H T s vs) : rdL H s.a vs := by
 rcases h.own with ⟨h1, _, h3⟩ | ⟨b, sp, h1, h2, _⟩
 ·rw [h1]; exact h3
 ·rw [h1]; exact h2.rd
theorem Vec.upd {M : Nat → Prop} {H H' : jaa} (hu : Upd M H H') {T : TypeId} {s : Sl} {vs : List Value} (h : Vec H T s vs) (hn : ∀ b, s.a = some (adr b) → ¬ M b) : Vec H' T s vs := by
 refine ⟨h.len, ?_, h.lc⟩
 rcases h.own with h1 | ⟨b, sp, h1, h2, h3⟩
 ·exact .inl h1
 ·exact .inr ⟨b, sp, h1, hu.row h2 (hn b h1), h3⟩
theorem Vec.lt {H : jaa} {T : TypeId} {s : Sl} {vs : List Value} (h : Vec H T s vs) {b : Nat} (hb : s.a = some (adr b)) : b < H.size := by
 rcases h.own with ⟨h1, _⟩ | ⟨c, sp, h1, h2, _⟩
 ·rw [h1] at hb; cases hb
 ·rw [h1] at hb; cases hb; exact h2.lt
theorem Vec.ne {H : jaa} {T T' : TypeId} {s : Sl} {vs vs' : List Value} (h : Vec H T s vs) {b b' : Nat} (hb : s.a = some (adr b)) (h' : Row H b' T' vs') (ht : T ≠ T') : b ≠ b' := by
 rcases h.own with ⟨h1, _⟩ | ⟨c, sp, h1, h2, _⟩
 ·rw [h1] at hb; cases hb
 ·rw [h1] at hb; cases hb; exact h2.ne h' ht
theorem Vec.cell {H : jaa} {T : TypeId} {s : Sl} {vs : List Value} (h : Vec H T s vs) {i : Nat} (hi : i < vs.length) : ∃ b, s.a = some (adr b) ∧ jar H ⟨b, i, none⟩ = vs[i]? := by
 rcases h.own with ⟨_, _, h3⟩ | ⟨b, sp, h1, h2, _⟩
 ·subst h3; simp at hi
 ·exact ⟨b, h1, by rw [h2.cell, List.getElem?_append_left hi]⟩
theorem jcc {H : jaa} {T : TypeId} {s : Sl} {vs : List Value} (h : Vec H T s vs) {i : Int} {k : Addr → Prop} (h0 : 0 ≤ i) (h1 : i < (vs.length : Int))
 (hk : ∀ a, jar H a = vs[i.toNat]? → (∃ b, s.a = some (adr b) ∧ a = ⟨b, i.toNat, none⟩) → k a) : IxA 1 s i k := by
 obtain ⟨b, hb, hc⟩ := h.cell (i := i.toNat) (by omega)
 refine IxA.mk hb h0 (by rw [h.len]; exact h1) ?_
 rw [adr_add, Nat.mul_one]
 exact hk _ hc ⟨b, hb, rfl⟩
theorem jlp (n : Nat) : ∀ (r c : Nat), n ≤ c → Builtin.growBy n r c = c
 | 0, c, _ => rfl
 | r + 1, c, h => by rw [Builtin.growBy, if_pos h]
theorem jic (n : Nat) : ∀ (r c : Nat), c < n → Builtin.growBy n r c ≤ n + n / 4 + 200
 | 0, c, h => by simp only [Builtin.growBy]; omega
 | r + 1, c, h => by
   rw [Builtin.growBy, if_neg (by omega)]
   rcases Nat.lt_or_ge (c + (c + 768) / 4) n with h1 | h1
   ·exact jic n r _ h1
   ·rw [jlp n r _ h1]; omega
theorem jds (n c : Nat) (h : c < n) : Builtin.nextslicecap n c ≤ n + n / 4 + 1000 := by
 unfold Builtin.nextslicecap
 split
 ·omega
 ·split
  ·omega
  ·have := jic n 4 c h
   omega
theorem jge {b o : Nat} {T : TypeId} : ∀ {ws : List Value} {i : Nat} {H : jaa} {k : jaa → Prop} {cs : List Value}, Row H b T cs → o + i + ws.length ≤ cs.length → (∀ w ∈ ws, w.oneCell' = true) →
 (∀ H', Upd (fun x => x = b ∧ ws ≠ []) H H' → H'.size = H.size → Row H' b T (cs.take (o + i) ++ ws ++ cs.drop (o + i + ws.length)) → k H') → StL ⟨b, o, none⟩ i ws H k
 | [], i, H, k, cs, h, hl, _, hk => by
   refine hk H (.refl _ _) rfl ?_
   simpa using h
 | w :: ws, i, H, k, cs, h, hl, h1, hk => by
   simp only [StL, mk_add]
   simp only [List.length_cons] at hl
   refine ⟨h1 w (by simp), jay h (by omega) fun H1 hU hs hr => ?_⟩
   refine jge hr (by simp; omega) (fun x hx => h1 x (by simp [hx])) fun H2 hU2 hs2 hr2 => ?_
   refine hk H2 ((hU.mono fun _ _ e => ⟨e, by simp⟩).trans hU2 fun _ _ e => ⟨e.1, by simp⟩) (hs2.trans hs) ?_
   have e : (cs.set (o + i) w).take (o + (i + 1)) ++ ws ++ (cs.set (o + i) w).drop (o + (i + 1) + ws.length) = cs.take (o + i) ++ (w :: ws) ++ cs.drop (o + i + (w :: ws).length) := by
    have ht : (cs.set (o + i) w).take (o + (i + 1)) = cs.take (o + i) ++ [w] := by
     rw [show o + (i + 1) = o + i + 1 by omega, List.take_add_one, List.getElem?_set_self (by omega), List.take_set_of_le (by omega)]; rfl
    rw [ht, List.drop_set_of_lt (by omega)]
    simp only [List.length_cons, List.append_assoc, List.singleton_append, List.cons_append, List.nil_append]
    rw [show o + (i + 1) + ws.length = o + i + (ws.length + 1) by omega]
   rw [e] at hr2
   exact hr2
theorem jfz {T : TypeId} {bytes : Nat} {z : Value} {s x : Sl} {H : jaa} {k : Sl → jaa → Prop} {vs ws : List Value} (hv : Vec H T s vs) (hx : rdL H x.a ws) (hxl : ws.length = x.len)
 (hone : ∀ w ∈ ws, w.oneCell' = true) (hb : bytes ≠ 0) (hcap : (vs.length + ws.length + (vs.length + ws.length) / 4 + 1000) * bytes ≤ 2 ^ 48)
 (hk : ∀ s' H', Vec H' T s' (vs ++ ws) → Upd (fun b => s.a = some (adr b) ∧ s.len + x.len ≤ s.cap ∧ ws ≠ []) H H' → (s'.a = s.a ∧ s.len + x.len ≤ s.cap ∨ s'.a = some (adr H.size)) → H.size ≤ H'.size → k s' H') :
 App T 1 bytes #[z] s x H k := by
 have hlen := hv.len
 refine ⟨ws, hx, fun _ => by omega, fun hfit => ?_, fun hgrow => ?_⟩
 ·rcases hv.own with ⟨h1, h2, h3⟩ | ⟨b, sp, h1, h2, h3⟩
  ·rw [h1]
   have hw : ws = [] := List.eq_nil_of_length_eq_zero (by omega)
   subst hw h3
   refine hk _ H ⟨by simp at hxl; simp; omega, .inl ⟨rfl, by simpa using h2, rfl⟩, hfit⟩ (.refl _ _) (.inl ⟨h1.symm, hfit⟩) (Nat.le_refl _)
  ·rw [h1]
   dsimp only
   rw [adr_add, Nat.mul_one]
   have hl : vs.length ≤ s.len := by omega
   refine jge h2 (by simp; omega) hone fun H' hU hs hr => ?_
   refine hk _ H' ⟨by simp; omega, .inr ⟨b, sp.drop ws.length, rfl, ?_, by simp; omega⟩, hfit⟩ (hU.mono fun b' _ e => ?_) (.inl ⟨h1.symm, hfit⟩) (by omega)
   ·rw [hlen, Nat.add_zero, List.take_left, List.drop_append, List.drop_eq_nil_of_le (by omega), List.nil_append] at hr
    rw [show vs.length + ws.length - vs.length = ws.length by omega] at hr
    exact hr
   ·obtain ⟨rfl, e⟩ := e; exact ⟨h1, hfit, e⟩
 ·refine ⟨hb, ?_, vs, hv.rd, fun _ => by omega, fun c hc => ?_⟩
  ·have := jds (s.len + x.len) s.cap hgrow
   refine Nat.le_trans (Nat.mul_le_mul_right bytes this) ?_
   rw [hlen, ← hxl]; exact hcap
  ·have e : (⟨vs⟩ ++ ⟨ws⟩ ++ jbq #[z] ((c - (s.len + x.len)) * (#[z] : Array Value).size) : Array Value) = ⟨vs ++ ws ++ List.replicate (c - (s.len + x.len)) z⟩ := by
    rw [jeN]; apply Array.ext'; simp
   rw [e]
   refine hk _ _ ⟨by simp; omega, .inr ⟨H.size, List.replicate (c - (s.len + x.len)) z, rfl, jaJ _ _, by simp; omega⟩, hc⟩ (Upd.push _ _ _) (.inr rfl) (by simp)
theorem App_vec {T : TypeId} {bytes : Nat} {z : Value} {s x : Sl} {H : jaa} {k : Sl → jaa → Prop} {vs ws : List Value} (hv : Vec H T s vs) (hx : rdL H x.a ws) (hxl : ws.length = x.len)
 (hone : ∀ w ∈ ws, w.oneCell' = true) (hb : bytes ≠ 0) (hcap : (vs.length + ws.length + (vs.length + ws.length) / 4 + 1000) * bytes ≤ 2 ^ 48)
 (hk : ∀ s' H', Vec H' T s' (vs ++ ws) → Upd (fun b => s.a = some (adr b) ∧ s.len + x.len ≤ s.cap ∧ ws ≠ []) H H' → (s'.a = s.a ∨ s'.a = some (adr H.size)) → H.size ≤ H'.size → k s' H') :
 App T 1 bytes #[z] s x H k :=
 jfz hv hx hxl hone hb hcap fun s' H' h1 h2 h3 h4 => hk s' H' h1 h2 (h3.imp (·.1) id) h4
def RdC (P : Program) (H : jaa) : Nat → TypeId → List Value → Prop
 | 0, _, _ => False
 | f + 1, t, cs => match P.underlying t with
   | some .bool => ∃ b, cs = [.bool b]
   | some (.int k) => ∃ n, cs = [.int k n] ∧ k.min ≤ n ∧ n ≤ k.max
   | some .string => ∃ s, cs = [.string s] ∧ s.size ≤ reachBytes
   | some (.pointer e) => cs = [.pointer none] ∨ ∃ a xs, cs = [.pointer (some a)] ∧ xs.length = P.cellsOf e ∧ jaR H a 0 xs ∧ RdC P H f e xs
   | some (.slice e) => cs = [.slice none 0 0] ∨ ∃ a len cap, cs = [.slice (some a) len cap] ∧ len ≤ cap ∧ (cap ≤ maxLen ∧ cap * P.bytesOf e ≤ reachBytes) ∧
      ∀ i, i < cap → ∃ xs, xs.length = P.cellsOf e ∧ jaR H (a.add (i * P.cellsOf e)) 0 xs ∧ RdC P H f e xs
   | some (.struct fs) => cs.length = P.cellsOf t ∧ ∀ g ∈ fs.toList, RdC P H f g.type ((cs.drop g.offset).take (P.cellsOf g.type))
   | some (.array n e) => cs.length = P.cellsOf t ∧ ∀ i, i < n → RdC P H f e ((cs.drop (i * P.cellsOf e)).take (P.cellsOf e))
   | _ => True
theorem jbs {α β : Type} {f : α → Option β} : ∀ {l : List α} {ys : List β}, l.mapM f = some ys → ys.length = l.length ∧ ∀ (i : Nat) (x : α), l[i]? = some x → ∃ y, ys[i]? = some y ∧ f x = some y
 | [], ys, h => by simp at h; subst h; exact ⟨rfl, fun i x hx => by simp at hx⟩
 | a :: l, ys, h => by
   simp only [List.mapM_cons, Option.bind_eq_bind, Option.bind_eq_some_iff] at h
   obtain ⟨y, hy, zs, hzs, he⟩ := h
   cases he
   obtain ⟨h1, h2⟩ := jbs hzs
   refine ⟨by simp [h1], fun i x hx => ?_⟩
   cases i with
   | zero => simp at hx; subst hx; exact ⟨y, rfl, hy⟩
   | succ i => exact h2 i x (by simpa using hx)
theorem jcx {H : Type} {P : Program} {e : TypeId} : ∀ {ds : List (DataW H)} {d : DataW H}, d ∈ ds → ∀ n ∈ d.weights P e, n ∈ DataW.weightsAll P e ds
 | c :: r, d, h, n, hn => by
   rw [DataW.weightsAll, List.mem_append]
   rcases List.mem_cons.1 h with rfl | h
   ·exact .inl hn
   ·exact .inr (jcx h n hn)
theorem jco {w : World} {a : Addr} : ∀ {n i : Nat} {xs : List Value}, (List.range' i n).mapM (fun i => w.cell? (a.add i)) = some xs → xs.length = n ∧ jaR w.heap a i xs
 | 0, i, xs, h => by simp at h; subst h; exact ⟨rfl, trivial⟩
 | n + 1, i, xs, h => by
   simp only [List.range'_succ, List.mapM_cons, Option.bind_eq_bind, Option.bind_eq_some_iff] at h
   obtain ⟨y, hy, zs, hzs, he⟩ := h
   obtain ⟨h1, h2⟩ := jco hzs
   cases he
   exact ⟨by simp [h1], hy, h2⟩
theorem cells?_hcells {w : World} {base : Nat} {a : Addr} {n : Nat} {xs : List Value} (h : w.cells? base a n = some xs) : xs.length = n ∧ jaR w.heap a 0 xs := by
 unfold World.cells? at h
 split at h
 ·rw [List.range_eq_range'] at h; exact jco h
 ·cases h
theorem jcq {X : Type} {enc : TypeId × Value → X} {P : Program} {w : World} {base : Nat} {held : Bool} : ∀ {f : Nat} {t : TypeId} {cs : List Value} {d : DataW X} {ps : List MemPlace},
 DataW.trod enc P w base (fun _ => true) held f t cs = some (d, ps) → (∀ n ∈ d.weights P t, n ≤ reachBytes) → RdC P w.heap f t cs
 | 0, t, cs, d, ps, h, hwt => by simp [DataW.trod] at h
 | f + 1, t, cs, d, ps, h, hwt => by
   unfold DataW.trod at h
   unfold RdC
   split at h
   case h_1 b hu => rw [hu]; exact ⟨b, rfl⟩
   case h_2 k k' n hu =>
    rw [hu]
    split at h
    ·rename_i hc
     obtain ⟨rfl, hw⟩ := hc
     simp only [Lit.wf, Bool.and_eq_true, decide_eq_true_eq] at hw
     exact ⟨n, rfl, hw.1, hw.2⟩
    ·cases h
   case h_3 => rename_i hu; rw [hu]; trivial
   case h_4 s hu =>
    rw [hu]
    split at h
    ·simp only [Option.some.injEq, Prod.mk.injEq] at h
     obtain ⟨rfl, rfl⟩ := h
     refine ⟨s, rfl, hwt _ ?_⟩
     simp [DataW.weights]
    ·cases h
   case h_5 => rename_i hu; rw [hu]; exact .inl rfl
   case h_6 e a hu =>
    rw [hu]
    simp only [Option.map_eq_some_iff, Option.bind_eq_some_iff] at h
    obtain ⟨x, ⟨xs, hxs, hx⟩, hd⟩ := h
    obtain ⟨h1, h2⟩ := cells?_hcells hxs
    obtain ⟨d', ps'⟩ := x
    simp only [Prod.mk.injEq] at hd
    obtain ⟨rfl, _⟩ := hd
    refine .inr ⟨a, xs, rfl, h1, h2, jcq hx fun n hn => hwt n ?_⟩
    rw [DataW.weights, hu]; exact hn
   case h_7 => rename_i hu; rw [hu]; exact .inl rfl
   case h_8 e a len cap hu =>
    rw [hu]
    dsimp only at h
    split at h
    ·rename_i hc
     obtain ⟨_, hlc, hcap⟩ := hc
     simp only [if_true, Option.bind_eq_some_iff, Option.map_eq_some_iff] at h
     obtain ⟨es, hes, rs, hrs, hd⟩ := h
     simp only [Option.some.injEq, Prod.mk.injEq] at hd
     obtain ⟨rfl, _⟩ := hd
     obtain ⟨l1, g1⟩ := jbs hes
     obtain ⟨l2, g2⟩ := jbs hrs
     simp only [DataW.weights, hu] at hwt
     refine .inr ⟨a, len, cap, rfl, hlc, ⟨hcap, ?_⟩, fun i hi => ?_⟩
     ·have := hwt _ (List.mem_cons_self ..)
      simp only [List.length_map, l1, l2, List.length_range] at this
      rwa [show len + (cap - len) = cap by omega] at this
     have key : ∃ y : DataW X × List MemPlace, (w.cells? base (a.add (i * P.cellsOf e)) (P.cellsOf e)).bind (DataW.trod enc P w base (fun _ => true) held f e) = some y ∧ ∀ n ∈ y.1.weights P e, n ≤ reachBytes := by
      rcases Nat.lt_or_ge i len with hl | hl
      ·obtain ⟨y, h1, h2⟩ := g1 i i (by simp [hl])
       refine ⟨y, h2, fun n hn => hwt n ?_⟩
       refine List.mem_cons_of_mem _ (List.mem_append_left _ (jcx (List.mem_map.2 ⟨y, List.mem_of_getElem? h1, rfl⟩) n hn))
      ·obtain ⟨y, h1, h2⟩ := g2 (i - len) (i - len) (by rw [List.getElem?_range (by omega)])
       rw [show len + (i - len) = i by omega] at h2
       refine ⟨y, h2, fun n hn => hwt n ?_⟩
       refine List.mem_cons_of_mem _ (List.mem_append_right _ (jcx (List.mem_map.2 ⟨y, List.mem_of_getElem? h1, rfl⟩) n hn))
     obtain ⟨⟨d', ps'⟩, hy, hwy⟩ := key
     simp only [Option.bind_eq_some_iff] at hy
     obtain ⟨xs, hxs, hx⟩ := hy
     obtain ⟨h1, h2⟩ := cells?_hcells hxs
     exact ⟨xs, h1, h2, jcq hx hwy⟩
    ·cases h
   case h_9 fs _ hu =>
    rw [hu]
    split at h
    ·rename_i hl
     simp only [Option.map_eq_some_iff] at h
     obtain ⟨xs, hxs, hd⟩ := h
     simp only [Prod.mk.injEq] at hd
     obtain ⟨rfl, _⟩ := hd
     obtain ⟨l1, g1⟩ := jbs hxs
     simp only [DataW.weights, hu] at hwt
     refine ⟨hl, fun g hg => ?_⟩
     obtain ⟨i, hi, hgi⟩ := List.getElem_of_mem hg
     obtain ⟨y, hy1, hy⟩ := g1 i g (by rw [List.getElem?_eq_getElem hi, hgi])
     obtain ⟨d', ps'⟩ := y
     exact jcq hy fun n hn => hwt n (DataW.weights_mem_each (j := i) (by rw [List.getElem?_map, List.getElem?_eq_getElem hi, hgi]; rfl) (by rw [List.getElem?_map, hy1]; rfl) n hn)
    ·cases h
   case h_10 n e _ hu =>
    rw [hu]
    split at h
    ·rename_i hl
     simp only [Option.map_eq_some_iff] at h
     obtain ⟨xs, hxs, hd⟩ := h
     simp only [Prod.mk.injEq] at hd
     obtain ⟨rfl, _⟩ := hd
     obtain ⟨l1, g1⟩ := jbs hxs
     simp only [DataW.weights, hu] at hwt
     refine ⟨hl, fun i hi => ?_⟩
     obtain ⟨⟨d', ps'⟩, hy1, hy⟩ := g1 i i (by rw [List.getElem?_range hi])
     exact jcq hy fun n hn => hwt n (jcx (List.mem_map.2 ⟨_, List.mem_of_getElem? hy1, rfl⟩) n hn)
    ·cases h
   all_goals first
    | (rename_i hu; rw [hu]; trivial)
    | (rename_i hu _; rw [hu]; trivial)
    | (rename_i hu _ _; rw [hu]; trivial)
    | (cases h; done)
section
open Go.RowKit
def RdV (P : Program) (H : jaa) (t : TypeId) (v : Value) : Prop :=
 ∃ f, RdC P H f t v.cells.toList ∧ (match P.underlying t with
  | some (.struct _) => ∃ cs, v = .agg cs
  | some (.array _ _) => ∃ cs, v = .agg cs
  | _ => v.cells = #[v])
theorem ji0 {P : Program} {w : World} {r : Reach} {base : Nat} {t : TypeId} {v : Value} (h : Cell.okWide P w r base t v) : v.cells = #[v] := by
 cases v with
 | agg cs =>
   unfold Cell.okWide at h
   split at h <;> first
    | (rename_i hv; cases hv; done)
    | (rename_i hu hv; cases hv; done)
    | (unfold Cell.ok at h; (repeat' split at h) <;> first | (rename_i hv; cases hv; done) | (simp_all; done) | exact h.elim)
 | _ => rfl
theorem jne {X : Type} {enc : TypeId × Value → X} {P : Program} {w : World} {t : TypeId} {v : Value} {d : DataW X} {ps : List MemPlace} {b base : Nat} {r : Reach}
 (h : DataW.Trod enc P w b (fun _ => true) true t v d ps) (ho : Value.okWide P w r base t v) (hw : ∀ n ∈ d.weights P t, n ≤ reachBytes) : RdV P w.heap t v := by
 obtain ⟨f, hf⟩ := h
 refine ⟨f, jcq hf hw, ?_⟩
 unfold Value.okWide at ho
 split
 ·rename_i fs hu; rw [hu] at ho; obtain ⟨cs, rfl, _⟩ := ho; exact ⟨cs, rfl⟩
 ·rename_i n e hu; rw [hu] at ho; obtain ⟨cs, rfl, _⟩ := ho; exact ⟨cs, rfl⟩
 ·rename_i h1 h2
  split at ho
  ·rename_i fs hu; exact absurd hu (h1 fs)
  ·rename_i n e hu; exact absurd hu (h2 n e)
  ·exact ji0 ho
theorem jjw {X : Type} {P : Program} {ts : List TypeId} {ds : List (DataW X)} (h : (DataW.weightsEach P ts ds).all (· ≤ reachBytes) = true) {j : Nat} {t : TypeId} {d : DataW X} (ht : ts[j]? = some t) (hd : ds[j]? = some d) :
 ∀ n ∈ d.weights P t, n ≤ reachBytes := fun n hn => of_decide_eq_true (List.all_eq_true.1 h n (DataW.weights_mem_each ht hd n hn))
theorem jhJ {w w' : World} (he : SameEnv w w') (h : Ext w.heap w'.heap) : Below w.heap.size w w' :=
 ⟨he.os, he.tape, he.output, h.size, fun b hb => h.get b hb (fun h => h)⟩
theorem jhD {P : Program} {f : FuncId} {args : List Value} {W : World} (h : CallT P f args (.one (.c .bool)) W.heap (fun b H' => b = true ∧ Ext W.heap H')) :
 Calls P f ⟨args⟩ W fun e W' => e = .returned (.bool true) ∧ Below W.heap.size W W' :=
 (h.2 W rfl).mono fun e w' ⟨he, d, h1, h2, h3⟩ => ⟨by rw [h1, h2]; rfl, jhJ he h3⟩
theorem i64_of {n : Int} (h : IntKind.i64.min ≤ n ∧ n ≤ IntKind.i64.max) : I64 n := by
 have e0 : IntKind.i64.min = -9223372036854775808 := by decide
 have e1 : IntKind.i64.max = 9223372036854775807 := by decide
 rw [e0, e1] at h
 unfold I64; omega
theorem jjl {P : Program} {t : TypeId} (hu : P.underlying t = some (.int .i64)) {H : jaa} {f : Nat} {cs : List Value} (h : RdC P H f t cs) : ∃ n, cs = [.int .i64 n] ∧ I64 n := by
 cases f with
 | zero => exact h.elim
 | succ f =>
   simp only [RdC, hu] at h
   obtain ⟨n, hn, h⟩ := h
   exact ⟨n, hn, i64_of h⟩
theorem jlA {P : Program} {t : TypeId} {fs : Array Field} (hu : P.underlying t = some (.struct fs)) {H : jaa} {v : Value} (h : RdV P H t v) :
 ∃ f cs, v = .agg ⟨cs⟩ ∧ RdC P H f t cs := by
 obtain ⟨f, hr, hv⟩ := h
 simp only [hu] at hv
 obtain ⟨⟨cs⟩, rfl⟩ := hv
 exact ⟨f, cs, rfl, hr⟩
end
abbrev u8s (bs : List UInt8) : List Value := bs.map fun b => .int .u8 (b.toNat : Int)
theorem u8s_get {bs : List UInt8} {i : Nat} (h : i < bs.length) : (u8s bs)[i]? = some (.int .u8 (bs[i].toNat : Int)) := by
 simp [h]
def u8of (x : Int) : UInt8 := UInt8.ofNat (x % 256).toNat
theorem jlV (s : List UInt8) : ∀ w ∈ u8s s, w.oneCell' = true := by simp [Value.oneCell']
theorem add_zero (a : Addr) : a.add 0 = a := rfl
theorem jcm (a : Addr) (n : Nat) : (a.add n).block = a.block := by unfold Addr.add; split <;> rfl
theorem jaZ {M : Nat → Prop} {H H' : jaa} (hu : Upd M H H') {a : Addr} (hn : ¬ M a.block) : ∀ {vs : List Value} {i : Nat}, jaR H a i vs → jaR H' a i vs
 | [], _, _ => trivial
 | _ :: _, _, h => ⟨hu.cell h.1 (by rw [jcm]; exact hn), jaZ hu hn h.2⟩
structure RB (H : jaa) (s : Sl) (bs : List UInt8) : Prop where
 rd : rdL H s.a (u8s bs)
 len : s.len = bs.length
 cap : s.len ≤ s.cap
theorem RB.nil (H : jaa) : RB H ⟨none, 0, 0⟩ [] := ⟨rfl, rfl, Nat.le_refl _⟩
theorem RB.upd {M : Nat → Prop} {H H' : jaa} (hu : Upd M H H') {s : Sl} {bs : List UInt8} (h : RB H s bs) (hn : ∀ a, s.a = some a → ¬ M a.block) : RB H' s bs := by
 refine ⟨?_, h.len, h.cap⟩
 have hr := h.rd
 unfold rdL at hr ⊢
 cases ha : s.a with
 | none => rw [ha] at hr; exact hr
 | some a => rw [ha] at hr; exact jaZ hu (hn a ha) hr
theorem RB.ext {H H' : jaa} (hu : Ext H H') {s : Sl} {bs : List UInt8} (h : RB H s bs) : RB H' s bs := h.upd hu fun _ _ h => h
theorem RB.lt {H : jaa} {s : Sl} {bs : List UInt8} (h : RB H s bs) (hb : bs ≠ []) : ∃ a, s.a = some a ∧ a.block < H.size := by
 have hr := h.rd
 unfold rdL at hr
 cases ha : s.a with
 | none => rw [ha] at hr; simp at hr; exact absurd hr hb
 | some a =>
   rw [ha] at hr
   cases bs with
   | nil => exact absurd rfl hb
   | cons b bs => exact ⟨a, rfl, by have := jdy hr.1; rwa [jcm] at this⟩
theorem IxA_rb {H : jaa} {s : Sl} {bs : List UInt8} (h : RB H s bs) {i : Int} {k : Addr → Prop} {j : Nat} (hj : i = j) (hl : j < bs.length)
 (hk : ∀ a, jar H a = some (.int .u8 (bs[j].toNat : Int)) → (∃ c, s.a = some c ∧ a.block = c.block) → k a) : IxA 1 s i k := by
 have hr := h.rd
 unfold rdL at hr
 cases ha : s.a with
 | none => rw [ha] at hr; simp at hr; subst hr; simp at hl
 | some a =>
   rw [ha] at hr
   subst hj
   refine IxA.mk ha (by omega) (by rw [h.len]; omega) ?_
   rw [Int.toNat_natCast, Nat.mul_one]
   refine hk _ ?_ ⟨a, ha, jcm _ _⟩
   have := hcells_iff.1 hr j (by simpa using hl)
   rw [Nat.zero_add] at this
   rw [this, u8s_get hl]
theorem SlA0 {size : Nat} {s : Sl} {hi mx : Int} {k : Sl → Prop} (h0 : 0 ≤ hi) (h1 : hi ≤ mx) (h2 : mx ≤ (s.cap : Int)) (hk : k ⟨s.a, hi.toNat, mx.toNat⟩) : SlA size s 0 hi mx k := by
 refine ⟨by omega, h0, h1, h2, ?_⟩
 have e : (if mx.toNat = (0 : Int).toNat then s.a else s.a.map (·.add ((0 : Int).toNat * size))) = s.a := by
  split
  ·rfl
  ·rw [show (0 : Int).toNat * size = 0 by simp]
   cases s.a <;> rfl
 rw [e]
 simpa using hk
theorem jlH (a b : List UInt8) : (⟨⟨a⟩⟩ : ByteArray) ++ ⟨⟨b⟩⟩ = ⟨⟨a ++ b⟩⟩ := by
 apply ByteArray.ext; simp
theorem S2B_rb {T : TypeId} {s : ByteArray} {H : jaa} {k : Sl → jaa → Prop} (hk : ∀ s' H', RB H' s' s.data.toList → Ext H H' → s'.a = some (adr H.size) → k s' H') : S2B T s H k := by
 intro c hc
 refine hk _ _ ⟨?_, by simp, hc⟩ (Upd.push _ _ _) rfl
 refine hcells_iff.2 fun j hj => ?_
 rw [adr_add, Nat.zero_add, jgQ (jaJ _ _)]
 simp only [List.length_map, Array.length_toList] at hj
 rw [Array.getElem?_append_left (by simpa [jem] using hj)]
 simp [jem]
structure VecN (H : jaa) (T : TypeId) (n : Nat) (s : Sl) (vs : List Value) : Prop where
 len : vs.length = s.len * n
 own : (s.a = none ∧ s.cap = 0 ∧ vs = []) ∨ ∃ b sp, s.a = some (adr b) ∧ Row H b T (vs ++ sp) ∧ s.cap * n ≤ vs.length + sp.length
 lc : s.len ≤ s.cap
theorem VecN.nil (H : jaa) (T : TypeId) (n : Nat) : VecN H T n ⟨none, 0, 0⟩ [] := ⟨by simp, .inl ⟨rfl, rfl, rfl⟩, Nat.le_refl _⟩
theorem VecN.rd {H : jaa} {T : TypeId} {n : Nat} {s : Sl} {vs : List Value} (h : VecN H T n s vs) : rdL H s.a vs := by
 rcases h.own with ⟨h1, _, h3⟩ | ⟨b, sp, h1, h2, _⟩
 ·rw [h1]; exact h3
 ·rw [h1]; exact h2.rd
theorem VecN.upd {M : Nat → Prop} {H H' : jaa} (hu : Upd M H H') {T : TypeId} {n : Nat} {s : Sl} {vs : List Value} (h : VecN H T n s vs) (hn : ∀ b, s.a = some (adr b) → ¬ M b) : VecN H' T n s vs := by
 refine ⟨h.len, ?_, h.lc⟩
 rcases h.own with h1 | ⟨b, sp, h1, h2, h3⟩
 ·exact .inl h1
 ·exact .inr ⟨b, sp, h1, hu.row h2 (hn b h1), h3⟩
theorem VecN.ext {H H' : jaa} (hu : Ext H H') {T : TypeId} {n : Nat} {s : Sl} {vs : List Value} (h : VecN H T n s vs) : VecN H' T n s vs := h.upd hu fun _ _ h => h
theorem Vec.ext {H H' : jaa} (hu : Ext H H') {T : TypeId} {s : Sl} {vs : List Value} (h : Vec H T s vs) : Vec H' T s vs := h.upd hu fun _ _ h => h
theorem VecN.lt {H : jaa} {T : TypeId} {n : Nat} {s : Sl} {vs : List Value} (h : VecN H T n s vs) {b : Nat} (hb : s.a = some (adr b)) : b < H.size := by
 rcases h.own with ⟨h1, _⟩ | ⟨c, sp, h1, h2, _⟩
 ·rw [h1] at hb; cases hb
 ·rw [h1] at hb; cases hb; exact h2.lt
theorem VecN.ne {H : jaa} {T T' : TypeId} {n : Nat} {s : Sl} {vs vs' : List Value} (h : VecN H T n s vs) {b b' : Nat} (hb : s.a = some (adr b)) (h' : Row H b' T' vs') (ht : T ≠ T') : b ≠ b' := by
 rcases h.own with ⟨h1, _⟩ | ⟨c, sp, h1, h2, _⟩
 ·rw [h1] at hb; cases hb
 ·rw [h1] at hb; cases hb; exact h2.ne h' ht
theorem jjN {H : jaa} {T : TypeId} {n : Nat} {s : Sl} {vs : List Value} (h : VecN H T n s vs) (hn : 0 < n) {i : Int} {k : Addr → Prop} {j : Nat} (hj : i = j) (hl : j < s.len)
 (hk : ∀ b, s.a = some (adr b) → (∀ o, o < n → jar H ⟨b, j * n + o, none⟩ = vs[j * n + o]?) → k ⟨b, j * n, none⟩) : IxA n s i k := by
 have hl2 : j * n + n ≤ vs.length := by rw [h.len]; calc j * n + n = (j + 1) * n := by rw [Nat.add_mul]; simp
                                        _ ≤ s.len * n := Nat.mul_le_mul_right n hl
 rcases h.own with ⟨_, _, h3⟩ | ⟨b, sp, h1, h2, _⟩
 ·subst h3; simp at hl2; omega
 ·subst hj
  refine IxA.mk h1 (by omega) (by omega) ?_
  rw [adr_add, Int.toNat_natCast]
  exact hk b h1 fun o ho => by rw [h2.cell, List.getElem?_append_left (by omega)]
theorem jiU (z : Array Value) (n : Nat) : (jbq z n).size = n := by unfold jbq; simp
theorem jjV {T : TypeId} {n bytes : Nat} {z : Array Value} {s x : Sl} {H : jaa} {k : Sl → jaa → Prop} {vs ws : List Value} (hz : z.size = n) (hn : 0 < n) (hv : VecN H T n s vs) (hx : rdL H x.a ws) (hxl : ws.length = x.len * n)
 (hone : ∀ w ∈ ws, w.oneCell' = true) (hb : bytes ≠ 0) (hcap : (s.len + x.len + (s.len + x.len) / 4 + 1000) * bytes ≤ 2 ^ 48)
 (hk : ∀ s' H', VecN H' T n s' (vs ++ ws) → s'.len = s.len + x.len → Upd (fun b => s.a = some (adr b) ∧ s.len + x.len ≤ s.cap) H H' → (s'.a = s.a ∧ s.len + x.len ≤ s.cap ∨ s'.a = some (adr H.size)) → k s' H') :
 App T n bytes z s x H k := by
 have hlen := hv.len
 refine ⟨ws, hx, fun _ => by omega, fun hfit => ?_, fun hgrow => ?_⟩
 ·rcases hv.own with ⟨h1, h2, h3⟩ | ⟨b, sp, h1, h2, h3⟩
  ·rw [h1]
   have hx0 : x.len = 0 := by omega
   have hw : ws = [] := List.eq_nil_of_length_eq_zero (by rw [hxl, hx0]; simp)
   subst hw h3
   refine hk _ H ⟨by simp only [List.append_nil, List.length_nil]; simp at hlen; rw [hx0]; simp; omega, .inl ⟨rfl, by simpa using h2, rfl⟩, hfit⟩ rfl (.refl _ _) (.inl ⟨h1.symm, hfit⟩)
  ·rw [h1]
   dsimp only
   rw [adr_add]
   have hm : (s.len + x.len) * n ≤ s.cap * n := Nat.mul_le_mul_right n hfit
   rw [Nat.add_mul] at hm
   refine jge h2 (by simp; omega) hone fun H' hU hs hr => ?_
   refine hk _ H' ⟨by simp only [List.length_append, Nat.add_mul]; omega, .inr ⟨b, sp.drop ws.length, rfl, ?_, by simp; omega⟩, hfit⟩ rfl (hU.mono fun b' _ e => ?_) (.inl ⟨h1.symm, hfit⟩)
   ·rw [Nat.add_zero, ← hlen, List.take_left, List.drop_append, List.drop_eq_nil_of_le (by omega), List.nil_append] at hr
    rw [show vs.length + ws.length - vs.length = ws.length by omega] at hr
    exact hr
   ·obtain ⟨rfl, e⟩ := e; exact ⟨h1, hfit⟩
 ·refine ⟨hb, ?_, vs, hv.rd, fun _ => by omega, fun c hc => ?_⟩
  ·have := jds (s.len + x.len) s.cap hgrow
   exact Nat.le_trans (Nat.mul_le_mul_right bytes this) hcap
  ·refine hk _ _ ⟨?_, .inr ⟨H.size, (jbq z ((c - (s.len + x.len)) * z.size)).toList, rfl, ?_, ?_⟩, hc⟩ rfl (Upd.push _ _ _) (.inr rfl)
   ·simp only [List.length_append, Nat.add_mul]; omega
   ·unfold Row
    rw [jaJ]
    congr 2
    apply Array.ext'; simp
   ·simp only [List.length_append, Array.length_toList, jiU, hz]
    rw [hlen, hxl, ← Nat.add_mul, ← Nat.add_mul]
    exact Nat.mul_le_mul_right n (by omega)
theorem jhk {α : Type} {f : α → List Value} {n : Nat} (hf : ∀ e, (f e).length = n) : ∀ {es : List α} {i : Nat} (hi : i < es.length) {o : Nat}, o < n → (es.flatMap f)[i * n + o]? = (f es[i])[o]?
 | e :: es, 0, _, o, ho => by
   simp only [List.flatMap_cons, Nat.zero_mul, Nat.zero_add, List.getElem_cons_zero]
   rw [List.getElem?_append_left (by rw [hf]; exact ho)]
 | e :: es, i + 1, hi, o, ho => by
   simp only [List.flatMap_cons, List.getElem_cons_succ]
   rw [List.getElem?_append_right (by rw [hf, Nat.add_mul]; omega), hf, show (i + 1) * n + o - n = i * n + o by rw [Nat.add_mul]; omega]
   exact jhk hf (by simpa using hi) ho
theorem jj3 {α : Type} {f : α → List Value} {n : Nat} (hf : ∀ e, (f e).length = n) : ∀ {es : List α}, (es.flatMap f).length = es.length * n
 | [] => by simp
 | e :: es => by rw [List.flatMap_cons, List.length_append, hf, jj3 hf, List.length_cons, Nat.add_mul]; omega
section
theorem jmJ {α : Type} (xs ys : List α) (y z : α) : (xs ++ y :: ys).set xs.length z = xs ++ z :: ys := by
 rw [List.set_append_right _ _ (Nat.le_refl _), Nat.sub_self]; rfl
structure RL {α : Type} (f : α → Value) (H : jaa) (s : Sl) (xs : List α) : Prop where
 rd : rdL H s.a (xs.map f)
 len : s.len = xs.length
 cap : s.len ≤ s.cap
abbrev slV (s : Sl) : Value := .slice s.a s.len s.cap
abbrev RI := RL (Value.int .i64)
variable {α : Type} {f : α → Value}
theorem RL.nil (f : α → Value) (H : jaa) : RL f H ⟨none, 0, 0⟩ [] := ⟨rfl, rfl, Nat.le_refl _⟩
theorem RL.upd {M : Nat → Prop} {H H' : jaa} (hu : Upd M H H') {s : Sl} {xs : List α} (h : RL f H s xs) (hn : ∀ a, s.a = some a → ¬ M a.block) : RL f H' s xs := by
 refine ⟨?_, h.len, h.cap⟩
 have hr := h.rd
 unfold rdL at hr ⊢
 cases ha : s.a with
 | none => rw [ha] at hr; exact hr
 | some a => rw [ha] at hr; exact jaZ hu (hn a ha) hr
theorem RL.ext {H H' : jaa} (hu : Ext H H') {s : Sl} {xs : List α} (h : RL f H s xs) : RL f H' s xs := h.upd hu fun _ _ h => h
theorem RL.lt {H : jaa} {s : Sl} {xs : List α} (h : RL f H s xs) (hb : xs ≠ []) {a : Addr} (ha : s.a = some a) : a.block < H.size := by
 have hr := h.rd
 unfold rdL at hr
 rw [ha] at hr
 cases xs with
 | nil => exact absurd rfl hb
 | cons b bs => have := jdy hr.1; rwa [jcm] at this
theorem Vec.spot {H : jaa} {T : TypeId} {s : Sl} {vs : List Value} (h : Vec H T s vs) : ∀ a, s.a = some a → a.spot = none := fun a ha => by
 rcases h.own with ⟨h1, _⟩ | ⟨b, sp, h1, _⟩
 ·rw [h1] at ha; cases ha
 ·rw [h1] at ha; cases ha; rfl
structure RN {α : Type} (f : α → List Value) (n : Nat) (H : jaa) (s : Sl) (xs : List α) : Prop where
 rd : rdL H s.a (xs.flatMap f)
 len : s.len = xs.length
 cap : s.len ≤ s.cap
theorem RN.nil {α : Type} (f : α → List Value) (n : Nat) (H : jaa) : RN f n H ⟨none, 0, 0⟩ [] := ⟨rfl, rfl, Nat.le_refl _⟩
theorem RN.upd {α : Type} {f : α → List Value} {n : Nat} {M : Nat → Prop} {H H' : jaa} (hu : Upd M H H') {s : Sl} {xs : List α} (h : RN f n H s xs) (hn : ∀ a, s.a = some a → ¬ M a.block) : RN f n H' s xs := by
 refine ⟨?_, h.len, h.cap⟩
 have hr := h.rd
 unfold rdL at hr ⊢
 cases ha : s.a with
 | none => rw [ha] at hr; exact hr
 | some a => rw [ha] at hr; exact jaZ hu (hn a ha) hr
theorem RN.ext {α : Type} {f : α → List Value} {n : Nat} {H H' : jaa} (hu : Ext H H') {s : Sl} {xs : List α} (h : RN f n H s xs) : RN f n H' s xs := h.upd hu fun _ _ h => h
theorem jeA {α : Type} [Inhabited α] {f : α → List Value} {n : Nat} (hf : ∀ e, (f e).length = n) : ∀ {es : List α} {i : Nat}, i < es.length → ∃ rest, (es.flatMap f).drop (i * n) = f (es[i]!) ++ rest
 | e :: es, 0, _ => ⟨es.flatMap f, by simp⟩
 | e :: es, i + 1, h => by
   obtain ⟨r, hr⟩ := jeA hf (es := es) (i := i) (by simpa using h)
   refine ⟨r, ?_⟩
   rw [List.flatMap_cons, List.drop_append, List.drop_eq_nil_of_le (by rw [hf, Nat.add_mul]; omega), hf, List.nil_append, show (i + 1) * n - n = i * n by rw [Nat.add_mul]; omega, hr]
   rfl
theorem VecN.spot {H : jaa} {T : TypeId} {n : Nat} {s : Sl} {vs : List Value} (h : VecN H T n s vs) : ∀ a, s.a = some a → a.spot = none := fun a ha => by
 rcases h.own with ⟨h1, _⟩ | ⟨b, sp, h1, _⟩
 ·rw [h1] at ha; cases ha
 ·rw [h1] at ha; cases ha; rfl
end
end Go.Proofs.YtfpmgpblhhcpgaaGreatDoor.Hc
