/-
  What is said does not look at names or places: the plain part.
-/
import Derived.Test.YtlkmmplgfjicjaaWM
import Derived.Test.YtlkmmplgfjicjaaVD
import Derived.Test.YtlkmmplgfjicjaaWB
namespace Go.Proofs.Ytlkmmplgfjicjaa
set_option linter.unusedVariables false
set_option linter.unusedSimpArgs false
open Go.Proofs.Ytlkmmplgfjicjaa.Hc Go.Proofs.Ytlkmmplgfjicjaa.Hc.Vf
set_option maxRecDepth 100000
variable {H : Heap}

abbrev eraNR (r : Rou) : Int × Int × List Ins := (r.params, r.locals, r.code)
abbrev eraN (x : Sy) : (Nat → List Int) × Int × Int × List Ins := (x.l, eraNR x.rou)
theorem map_at {α β : Type} [Inhabited α] {f : α → β} {xs ys : List α} (h : xs.map f = ys.map f) {i : Nat} (hi : i < xs.length) : f (xs[i]!) = f (ys[i]!) := by
  have hl : xs.length = ys.length := by simpa using congrArg List.length h
  have := congrArg (fun l => l[i]?) h
  simp only [List.getElem?_map, List.getElem?_eq_getElem hi, List.getElem?_eq_getElem (show i < ys.length by omega), Option.map_some, Option.some.injEq] at this
  rw [getElem!_pos xs i hi, getElem!_pos ys i (by omega)]
  exact this
theorem map_len {α β : Type} {f : α → β} {xs ys : List α} (h : xs.map f = ys.map f) : xs.length = ys.length := by simpa using congrArg List.length h
theorem map_via {α β γ : Type} {f : α → β} (g : β → γ) {xs ys : List α} (h : xs.map f = ys.map f) : xs.map (fun x => g (f x)) = ys.map fun x => g (f x) := by
  have := congrArg (List.map g) h
  rw [List.map_map, List.map_map] at this
  exact this
theorem all_via {α β : Type} {f : α → β} {P : β → Prop} {xs ys : List α} (h : xs.map f = ys.map f) (ha : ∀ x ∈ xs, P (f x)) : ∀ y ∈ ys, P (f y) := by
  have h1 : ∀ z ∈ xs.map f, P z := fun z hz => by obtain ⟨x, hx, rfl⟩ := List.mem_map.1 hz; exact ha x hx
  rw [h] at h1
  exact fun y hy => h1 _ (List.mem_map.2 ⟨y, hy, rfl⟩)
theorem find_congr {α : Type} {p q : α → Bool} : ∀ {l : List α}, (∀ a ∈ l, p a = q a) → l.find? p = l.find? q
  | [], _ => rfl
  | x :: l, h => by
    simp only [List.find?_cons]
    rw [h x (by simp), find_congr fun a ha => h a (by simp [ha])]
theorem findSome_congr {α β : Type} {p q : α → Option β} : ∀ {l : List α}, (∀ a ∈ l, p a = q a) → l.findSome? p = l.findSome? q
  | [], _ => rfl
  | x :: l, h => by
    simp only [List.findSome?_cons]
    rw [h x (by simp), findSome_congr fun a ha => h a (by simp [ha])]
/-- Two programs that are one but for names and places. -/
structure SimP (ss ss' : List Sy) (fs fs' : List Rou) : Prop where
  s : ss.map eraN = ss'.map eraN
  f : fs.map eraNR = fs'.map eraNR
variable {ss ss' : List Sy} {fs fs' : List Rou} {ks : List Ki}
theorem SimP.par (h : SimP ss ss' fs fs') : parms fs = parms fs' := map_via (f := eraNR) (fun x => x.1) h.f
theorem SimP.rous (h : SimP ss ss' fs fs') : (rousL ss fs).map eraNR = (rousL ss' fs').map eraNR := by
  unfold rousL
  rw [List.map_append, List.map_append, List.map_map, List.map_map, h.f]
  have := map_via (f := eraN) (fun x => x.2) h.s
  rw [show List.map (eraNR ∘ fun x => x.rou) ss = List.map (eraNR ∘ fun x => x.rou) ss' from this]
theorem SimP.sl (h : SimP ss ss' fs fs') : ss.length = ss'.length := map_len h.s
theorem SimP.fl (h : SimP ss ss' fs fs') : fs.length = fs'.length := map_len h.f
theorem SimP.at_ (h : SimP ss ss' fs fs') {n : Nat} (hn : n < ss.length + fs.length) : eraNR ((rousL ss fs)[n]!) = eraNR ((rousL ss' fs')[n]!) := map_at h.rous (by rw [List.length_append, List.length_map]; exact hn)
theorem SimP.sum (h : SimP ss ss' fs fs') (n : Nat) : sumL ((rousL ss fs).take n) = sumL ((rousL ss' fs').take n) := by
  have h1 := map_via (f := eraNR) (fun x => x.2.2.length) h.rous
  unfold sumL
  rw [List.map_take, List.map_take]
  exact congrArg (fun l => (List.take n l).sum) h1
theorem SimP.sets (h : SimP ss ss' fs fs') : setsO ks ss fs = setsO ks ss' fs' := by
  unfold setsO
  rw [← h.sl]
  have : (List.range ss.length).find? (fun i => setsBad ks (ss[i]!)) = (List.range ss.length).find? (fun i => setsBad ks (ss'[i]!)) := find_congr fun i hi => by
    have := map_at h.s (List.mem_range.1 hi)
    simp only [eraN, Prod.mk.injEq] at this
    unfold setsBad
    rw [this.1]
  rw [this]
  congr 1
  funext i
  rw [h.sum]
theorem acc_congr {nf : Nat} {sy sy' : Option Sy} {r r' : Rou} {j : Nat} (h1 : sy.map (·.l) = sy'.map (·.l)) (h2 : eraNR r = eraNR r') : accB ks nf sy r j = accB ks nf sy' r' j := by
  simp only [eraNR, Prod.mk.injEq] at h2
  obtain ⟨_, h3, h4⟩ := h2
  cases sy with
  | none =>
    cases sy' with
    | none => unfold accB; rw [h3, h4]
    | some y => cases h1
  | some x =>
    cases sy' with
    | none => cases h1
    | some y =>
      simp only [Option.map_some, Option.some.injEq] at h1
      unfold accB
      rw [h3, h4]
      dsimp only
      rw [h1]
      rfl
theorem SimP.syAt (h : SimP ss ss' fs fs') (n : Nat) : (syAt ss n).map (·.l) = (syAt ss' n).map (·.l) := by
  unfold Go.Proofs.Ytlkmmplgfjicjaa.syAt
  rw [← h.sl]
  split
  · rename_i hn
    have := map_at h.s hn
    simp only [eraN, Prod.mk.injEq] at this
    show some (ss[n]!).l = some (ss'[n]!).l
    rw [this.1]
  · rfl
theorem SimP.tI (h : SimP ss ss' fs fs') {n : Nat} (hn : n < ss.length + fs.length) : tI ks ss fs n = tI ks ss' fs' n := by
  unfold Go.Proofs.Ytlkmmplgfjicjaa.tI
  have hc := h.at_ hn
  have ht : ∀ j, tAt ks fs.length (Go.Proofs.Ytlkmmplgfjicjaa.syAt ss n) ((rousL ss fs)[n]!) j = tAt ks fs'.length (Go.Proofs.Ytlkmmplgfjicjaa.syAt ss' n) ((rousL ss' fs')[n]!) j := fun j => by
    unfold tAt
    rw [h.fl, acc_congr (h.syAt n) hc]
    simp only [eraNR, Prod.mk.injEq] at hc
    rw [hc.2.2]
  have : tR ks fs.length (Go.Proofs.Ytlkmmplgfjicjaa.syAt ss n) ((rousL ss fs)[n]!) = tR ks fs'.length (Go.Proofs.Ytlkmmplgfjicjaa.syAt ss' n) ((rousL ss' fs')[n]!) := by
    unfold tR
    simp only [eraNR, Prod.mk.injEq] at hc
    rw [hc.2.2]
    simp only [ht]
  rw [this, h.sum]
theorem SimP.touch (h : SimP ss ss' fs fs') : touchO ks ss fs = touchO ks ss' fs' := by
  unfold touchO
  rw [← h.sl, ← h.fl]
  exact findSome_congr fun n hn => h.tI (List.mem_range.1 hn)
theorem SimP.calls (h : SimP ss ss' fs fs') : callsO ss fs = callsO ss' fs' := by
  have hcode : ∀ x : Nat, (fs[x]!).code = (fs'[x]!).code := fun x => by
    by_cases hx : x < fs.length
    · have := map_at h.f hx
      simp only [eraNR, Prod.mk.injEq] at this
      exact this.2.2
    · have hx' : ¬ x < fs'.length := by rw [← h.fl]; exact hx
      rw [getElem!_neg fs x hx, getElem!_neg fs' x hx']
  have hR : CallsR fs = CallsR fs' := by
    funext x y
    unfold CallsR
    rw [hcode]
  have hB : roundB fs = roundB fs' := by
    funext f
    unfold roundB Round
    rw [hR]
  unfold callsO
  rw [hB, ← h.fl, ← h.sl]
  congr 1
  funext f
  rw [h.sum]
theorem SimP.ways (h : SimP ss ss' fs fs') : waysO ss fs = waysO ss' fs' := by
  have h1 : (List.range (ss.length + fs.length)).findSome? (wholeI ss fs) = (List.range (ss.length + fs.length)).findSome? (wholeI ss' fs') := findSome_congr fun n hn => by
    have hc := h.at_ (List.mem_range.1 hn)
    simp only [eraNR, Prod.mk.injEq] at hc
    unfold wholeI
    rw [hc.2.2, h.par, h.sum]
  have h2 : (List.range (ss.length + fs.length)).findSome? (turnI ss fs) = (List.range (ss.length + fs.length)).findSome? (turnI ss' fs') := findSome_congr fun n hn => by
    have hc := h.at_ (List.mem_range.1 hn)
    simp only [eraNR, Prod.mk.injEq] at hc
    unfold turnI
    rw [hc.2.2, h.par, h.sum]
  unfold waysO
  rw [← h.sl, ← h.fl, h1, h2]
theorem SimP.look (h : SimP ss ss' fs fs') (q : Nat) : lookO ks ss fs q = lookO ks ss' fs' q := by
  match q with
  | 0 => exact h.sets
  | 1 => exact h.touch
  | 2 => exact h.calls
  | _ + 3 => exact h.ways
def nameOk (n : ByteArray) : Bool := decide (1 ≤ n.size ∧ n.size ≤ 16)
def codeOkE (e : Int × Int × List Ins) : Bool := decide (0 ≤ e.1 ∧ e.1 ≤ 4 ∧ e.1 ≤ e.2.1 ∧ e.2.1 ≤ 32) && e.2.2.all instrOk
theorem rouOk_eq (r : Rou) : rouOk r = (nameOk r.name && codeOkE (eraNR r)) := by unfold rouOk nameOk codeOkE sizedOk; rw [Bool.and_assoc]
theorem SimP.may (h : SimP ss ss' fs fs') (hs : ∀ x ∈ ss', nameOk x.rou.name = true) (hf : ∀ x ∈ fs', nameOk x.name = true) (hm : MayP ss fs) : MayP ss' fs' := by
  obtain ⟨m1, m2, m3, m4, m5⟩ := hm
  have e1 := all_via (f := eraN) (P := fun e => (List.range 4).all (fun q => risesOk 0 (e.1 q)) = true ∧ codeOkE e.2 = true) h.s (fun x hx => ⟨(m3 x hx).1, by have := (m3 x hx).2; rw [rouOk_eq, Bool.and_eq_true] at this; exact this.2⟩)
  have e2 := all_via (f := eraNR) (P := fun e => codeOkE e = true) h.f (fun x hx => by have := m4 x hx; rw [rouOk_eq, Bool.and_eq_true] at this; exact this.2)
  refine ⟨h.sl ▸ m1, h.fl ▸ m2, fun x hx => ⟨(e1 x hx).1, by rw [rouOk_eq, hs x hx, (e1 x hx).2]; rfl⟩, fun x hx => by rw [rouOk_eq, hf x hx, e2 x hx]; rfl, ?_⟩
  have g1 := congrArg List.sum (map_via (f := eraN) (fun x => x.2.2.2.length) h.s)
  have g2 := congrArg List.sum (map_via (f := eraNR) (fun x => x.2.2.length) h.f)
  have g3 : sumL (ss.map (·.rou)) = sumL (ss'.map (·.rou)) := by unfold sumL; rw [List.map_map, List.map_map]; exact g1
  have g4 : sumL fs = sumL fs' := g2
  omega
/-- Names that may be do not matter. -/
theorem SimP.verify (h : SimP ss ss' fs fs') (hm : MayP ss fs) (hs : ∀ x ∈ ss', nameOk x.rou.name = true) (hf : ∀ x ∈ fs', nameOk x.name = true) : verifyO ks ss fs = verifyO ks ss' fs' := by
  unfold verifyO
  rw [if_pos hm, if_pos (h.may hs hf hm)]
  have : (List.range 4).findSome? (lookO ks ss fs) = (List.range 4).findSome? (lookO ks ss' fs') := findSome_congr fun q _ => h.look q
  rw [this]
theorem may_names (h : MayP ss fs) : (∀ x ∈ ss, nameOk x.rou.name = true) ∧ ∀ x ∈ fs, nameOk x.name = true :=
  ⟨fun x hx => by have := (h.2.2.1 x hx).2; rw [rouOk_eq, Bool.and_eq_true] at this; exact this.1, fun x hx => by have := h.2.2.2.1 x hx; rw [rouOk_eq, Bool.and_eq_true] at this; exact this.1⟩
theorem wr_ne {c : List Ins} {ps : List Int} {i : Nat} : wr c ps i = 0 ∨ wr c ps i = 150 ∨ wr c ps i = 151 ∨ wr c ps i = 153 := by
  unfold wr
  split
  · exact .inr (.inl rfl)
  · split
    · exact .inr (.inr (.inl rfl))
    · split
      · exact .inr (.inr (.inr rfl))
      · exact .inl rfl
theorem find_some_map {α β : Type} {l : List Nat} {p : Nat → Bool} {f : Nat → β} {y : β} (h : (l.find? p).map f = some y) : ∃ i, p i = true ∧ f i = y := by
  cases g : l.find? p with
  | none => rw [g] at h; cases h
  | some i =>
    rw [g] at h
    exact ⟨i, List.find?_some g, by simpa using h⟩
/-- A fault has a number. -/
theorem verify_ne {a e : Nat} (h : verifyO ks ss fs = some (a, e)) : e ≠ 0 := by
  unfold verifyO at h
  split at h
  · split at h
    · obtain ⟨q, hq, h⟩ := List.exists_of_findSome?_eq_some h
      have hq := List.mem_range.1 hq
      match q, hq with
      | 0, _ =>
        obtain ⟨i, _, h⟩ := find_some_map (α := Unit) (show (_ : Option Nat).map _ = some (a, e) from h)
        simp only [Prod.mk.injEq] at h; omega
      | 1, _ =>
        have h : touchO ks ss fs = some (a, e) := h
        obtain ⟨i, _, h⟩ := List.exists_of_findSome?_eq_some h
        unfold tI at h
        obtain ⟨⟨x, y⟩, hx, h⟩ := Option.map_eq_some_iff.1 h
        unfold tR at hx
        obtain ⟨i, hi, hx⟩ := find_some_map (α := Unit) hx
        simp only [Prod.mk.injEq] at hx h
        have := bne_iff_ne.1 hi
        omega
      | 2, _ =>
        obtain ⟨i, _, h⟩ := find_some_map (α := Unit) (show (_ : Option Nat).map _ = some (a, e) from h)
        simp only [Prod.mk.injEq] at h; omega
      | 3, _ =>
        have h : waysO ss fs = some (a, e) := h
        unfold waysO at h
        split at h
        · rename_i x hx
          simp only [Option.some.injEq] at h
          subst h
          obtain ⟨i, _, h⟩ := List.exists_of_findSome?_eq_some hx
          unfold wholeI at h
          split at h
          · rename_i a' e' hw
            simp only [Option.some.injEq, Prod.mk.injEq] at h
            unfold wholeS at hw
            split at hw
            · simp only [Except.error.injEq, Prod.mk.injEq] at hw; omega
            · split at hw
              · rename_i i' hf
                have this := List.find?_some hf
                have this : wr ((rousL ss fs)[i]!).code (parms fs) i' ≠ 0 := Classical.byContradiction fun g => by rw [badP_false fun h => g h.2] at this; cases this
                simp only [Except.error.injEq, Prod.mk.injEq] at hw; omega
              · cases hw
          · cases h
        · obtain ⟨i, _, h⟩ := List.exists_of_findSome?_eq_some h
          unfold turnI at h
          obtain ⟨i, _, h⟩ := find_some_map (α := Unit) h
          simp only [Prod.mk.injEq] at h; omega
    · simp only [Option.some.injEq, Prod.mk.injEq] at h; omega
  · simp only [Option.some.injEq, Prod.mk.injEq] at h; omega
theorem verify_may (h65 : ∀ a, verifyO ks ss fs ≠ some (a, 65)) (h130 : ∀ a, verifyO ks ss fs ≠ some (a, 130)) : mayK ks = true ∧ MayP ss fs := by
  unfold verifyO at h65 h130
  by_cases hk : mayK ks = true
  · rw [if_pos hk] at h130
    by_cases hm : MayP ss fs
    · exact ⟨hk, hm⟩
    · rw [if_neg hm] at h130; exact absurd rfl (h130 0)
  · rw [if_neg hk] at h65; exact absurd rfl (h65 0)
end Go.Proofs.Ytlkmmplgfjicjaa
/-
  VerifyNames.
-/
namespace Go.Proofs.Ytlkmmplgfjicjaa
set_option linter.unusedVariables false
set_option linter.unusedSimpArgs false
open Go.Proofs.Ytlkmmplgfjicjaa.Hc Go.Proofs.Ytlkmmplgfjicjaa.Hc.Vf
set_option maxRecDepth 100000
variable {H : Heap}

theorem flat_set {α : Type} {f : α → List Value} {n : Nat} (hf : ∀ e, (f e).length = n) {e' : α} {o : Nat} {v : Value} : ∀ {es : List α} {i : Nat} (hi : i < es.length), o < n → f e' = (f es[i]).set o v → (es.flatMap f).set (i * n + o) v = (es.set i e').flatMap f
  | e :: es, 0, _, ho, he => by
    simp only [List.flatMap_cons, List.set_cons_zero, Nat.zero_mul, Nat.zero_add]
    rw [List.set_append_left _ _ (by rw [hf]; exact ho)]
    rw [he]; rfl
  | e :: es, i + 1, hi, ho, he => by
    simp only [List.flatMap_cons, List.set_cons_succ]
    have e1 : (i + 1) * n + o = (f e).length + (i * n + o) := by rw [hf, Nat.add_mul]; omega
    rw [e1, List.set_append_right _ _ (by omega), Nat.add_sub_cancel_left, flat_set hf (es := es) (by simpa using hi) ho he]
theorem St_vecN {T : TypeId} {n : Nat} {s : Sl} {vs : List Value} (h : VecN H T n s vs) {b : Nat} (hb : s.a = some (adr b)) {m : Nat} (hm : m < vs.length) {v : Value} {k : Heap → Prop} (hk : ∀ H', VecN H' T n s (vs.set m v) → Upd (· = b) H H' → H'.size = H.size → k H') : St ⟨b, m, none⟩ v H k := by
  rcases h.own with ⟨g, _⟩ | ⟨c, sp, g1, g2, g3⟩
  · rw [g] at hb; cases hb
  · rw [g1] at hb; cases hb
    refine St_row g2 (by rw [List.length_append]; omega) fun H' hU hz hr => hk H' ⟨by rw [List.length_set]; exact h.len, .inr ⟨b, sp, g1, ?_, by rw [List.length_set]; exact g3⟩, h.lc⟩ hU hz
    rwa [List.set_append_left _ _ hm] at hr
/-- An element's cell is written. -/
theorem IxA_St_elem {α : Type} {f : α → List Value} {n : Nat} (hf : ∀ e, (f e).length = n) (hn : 0 < n) {T : TypeId} {s : Sl} {xs : List α} {y e' : α} (h : VecN H T n ⟨s.a, xs.length + 1, s.cap⟩ ((xs ++ [y]).flatMap f)) (hl : s.len = xs.length) {i : Nat} (hi : i < xs.length) {o : Nat} (ho : o < n) {v : Value} (he : f e' = (f xs[i]).set o v) {k : Heap → Prop}
    (hk : ∀ b H', s.a = some (adr b) → Upd (· = b) H H' → H'.size = H.size → VecN H' T n ⟨s.a, (xs.set i e').length + 1, s.cap⟩ ((xs.set i e' ++ [y]).flatMap f) → k H') : IxA n s (i : Nat) fun a => St (a.add o) v H k := by
  obtain ⟨b, hb⟩ : ∃ b, s.a = some (adr b) := by
    rcases h.own with ⟨g1, g2, g3⟩ | ⟨b, sp, g1, g2, g3⟩
    · have := congrArg List.length g3
      rw [flat_len hf] at this
      simp only [List.length_append, List.length_cons, List.length_nil] at this
      have : 0 < (xs.length + (0 + 1)) * n := Nat.mul_pos (by omega) hn
      omega
    · exact ⟨b, g1⟩
  refine IxA.mk hb (by omega) (by omega) ?_
  rw [Int.toNat_natCast, adr_add, mk_add]
  have hm : i * n + o < ((xs ++ [y]).flatMap f).length := by
    rw [flat_len hf, List.length_append, List.length_singleton]
    have : (i + 1) * n ≤ (xs.length + 1) * n := Nat.mul_le_mul_right n (by omega)
    rw [Nat.add_mul] at this; omega
  refine St_vecN h hb hm fun H' hv hU hz => hk b H' hb hU hz ?_
  rw [flat_set hf (e' := e') (by rw [List.length_append]; omega) ho (by rw [List.getElem_append_left hi]; exact he)] at hv
  rw [List.length_set, ← List.set_append_left _ _ hi]
  exact hv
def nmS (x : Sy) (nm : ByteArray) : Sy := ⟨x.s, x.l, ⟨nm, x.rou.params, x.rou.locals, x.rou.sl, x.rou.code⟩⟩
def nmR (x : Rou) (nm : ByteArray) : Rou := ⟨nm, x.params, x.locals, x.sl, x.code⟩
variable {q : Sl × Sl} {ss : List Sy} {fs : List Rou} {yb : Sy} {fb : Rou}
theorem lent_nameS (h : LentP H q ss fs yb fb) {i : Nat} (hi : i < ss.length) {nm : ByteArray} {k : Heap → Prop}
    (hk : ∀ H', Upd (fun b => q.1.a = some (adr b)) H H' → (∀ b T ws, Row H b T ws → T ≠ T_api_System → Row H' b T ws) → LentP H' q (ss.set i (nmS ss[i] nm)) fs yb fb → k H') : IxA 8 q.1 (i : Nat) fun a => St (a.add 4) (.string nm) H k := by
  refine IxA_St_elem sysV_len (by omega) h.sv h.sl hi (e' := nmS ss[i] nm) (o := 4) (by omega) rfl fun b H' hb hU hz hv => ?_
  obtain ⟨ws0, hw0⟩ := VecN.row h.sv hb
  have hne : ∀ c T ws, Row H c T ws → T ≠ T_api_System → ¬ c = b := fun c T ws hw hT => hw.ne hw0 hT
  refine hk H' (hU.mono fun c _ e => e ▸ hb) (fun c T ws hw hT => hU.row hw (hne c T ws hw hT)) ⟨hv, by rw [List.length_set]; exact h.sl, VecN.updT hU h.fv fun c ws hw => hne c _ ws hw (by decide), h.fl, fun x hx => ?_, fun r hr => (h.fn r hr).updT hU fun c ws hw => hne c _ ws hw (by decide), Vec.updT hU h.yb fun c ws hw => hne c _ ws hw (by decide), h.fb⟩
  have hold : ∀ y ∈ ss, LSy H' y := fun y hy => (h.sy y hy).updT hU (fun c ws hw => hne c _ ws hw (by decide)) fun c ws hw => hne c _ ws hw (by decide)
  rcases List.mem_or_eq_of_mem_set hx with g | g
  · exact hold x g
  · subst g
    have := hold ss[i] (List.getElem_mem hi)
    exact ⟨this.set, this.row⟩
theorem lent_nameF (h : LentP H q ss fs yb fb) {i : Nat} (hi : i < fs.length) {nm : ByteArray} {k : Heap → Prop}
    (hk : ∀ H', Upd (fun b => q.2.a = some (adr b)) H H' → (∀ b T ws, Row H b T ws → T ≠ T_api_Routine → Row H' b T ws) → LentP H' q ss (fs.set i (nmR fs[i] nm)) yb fb → k H') : IxA 4 q.2 (i : Nat) fun a => St a (.string nm) H k := by
  have := IxA_St_elem (k := k) rouV_len (by omega) h.fv h.fl hi (e' := nmR fs[i] nm) (o := 0) (v := .string nm) (by omega) rfl fun b H' hb hU hz hv => by
    obtain ⟨ws0, hw0⟩ := VecN.row h.fv hb
    have hne : ∀ c T ws, Row H c T ws → T ≠ T_api_Routine → ¬ c = b := fun c T ws hw hT => hw.ne hw0 hT
    refine hk H' (hU.mono fun c _ e => e ▸ hb) (fun c T ws hw hT => hU.row hw (hne c T ws hw hT)) ⟨VecN.updT hU h.sv fun c ws hw => hne c _ ws hw (by decide), h.sl, hv, by rw [List.length_set]; exact h.fl, fun x hx => (h.sy x hx).updT hU (fun c ws hw => hne c _ ws hw (by decide)) fun c ws hw => hne c _ ws hw (by decide), fun x hx => ?_, Vec.updT hU h.yb fun c ws hw => hne c _ ws hw (by decide), h.fb⟩
    have hold : ∀ y ∈ fs, LRow H' y.sl y.code := fun y hy => (h.fn y hy).updT hU fun c ws hw => hne c _ ws hw (by decide)
    rcases List.mem_or_eq_of_mem_set hx with g | g
    · exact hold x g
    · subst g
      exact hold fs[i] (List.getElem_mem hi)
  obtain ⟨a, h1, h2, h3, h4⟩ := this
  rw [add_zero] at h4
  exact ⟨a, h1, h2, h3, h4⟩
theorem set_same {α β : Type} {f : α → β} {xs : List α} {i : Nat} (hi : i < xs.length) {y : α} (h : f y = f xs[i]) : (xs.set i y).map f = xs.map f := by
  rw [List.map_set, h]
  have : f xs[i] = (xs.map f)[i]'(by simpa using hi) := by simp
  rw [this, List.set_getElem_self]
theorem set_nmS {xs : List Sy} {i : Nat} (hi : i < xs.length) (nm : ByteArray) : (xs.set i (nmS xs[i] nm)).map eraN = xs.map eraN := set_same hi (show eraN (nmS xs[i] nm) = eraN xs[i] from rfl)
theorem set_nmR {xs : List Rou} {i : Nat} (hi : i < xs.length) (nm : ByteArray) : (xs.set i (nmR xs[i] nm)).map eraNR = xs.map eraNR := set_same hi (show eraNR (nmR xs[i] nm) = eraNR xs[i] from rfl)
theorem all_set {α : Type} {P : α → Prop} {xs : List α} {i : Nat} {y : α} (h : ∀ x ∈ xs, P x) (hy : P y) : ∀ x ∈ xs.set i y, P x := fun x hx => by
  rcases List.mem_or_eq_of_mem_set hx with g | rfl
  · exact h x g
  · exact hy
theorem lens_of {ss ss' : List Sy} {fs fs' : List Rou} (hs : SimP ss ss' fs fs') {H0 : Heap} {p : Sl × Sl} (hP : PrgI H0 p ss fs) : (∀ x ∈ ss', (∀ q, q < 4 → (x.l q).length ≤ 2 ^ 60) ∧ x.rou.code.length ≤ 2 ^ 60) ∧ ∀ r ∈ fs', r.code.length ≤ 2 ^ 60 :=
  ⟨all_via (f := eraN) (P := fun e => (∀ q, q < 4 → (e.1 q).length ≤ 2 ^ 60) ∧ e.2.2.2.length ≤ 2 ^ 60) hs.s fun x hx => ⟨fun q hq => by have := (hP.sysR x hx).lens q hq; show (x.l q).length ≤ _; omega, by have := (hP.sysR x hx).rou.len; show x.rou.code.length ≤ _; omega⟩,
   all_via (f := eraNR) (P := fun e => e.2.2.length ≤ 2 ^ 60) hs.f fun x hx => by have := (hP.funR x hx).len; show x.code.length ≤ _; omega⟩
theorem foI_true {o : Option (Nat × Nat)} (h : ∀ a e, o = some (a, e) → e ≠ 0) : (foI o).2.2 = true := by
  cases o with
  | none => rfl
  | some ae =>
    have := h ae.1 ae.2 rfl
    show ((ae.2 : Int) != 0) = true
    rw [bne_iff_ne]; omega
theorem s_VerifyNames {p : Sl × Sl} {ksl : Sl} {ks : List Ki} {ss : List Sy} {fs : List Rou} (hP : PrgI H p ss fs) (hK : KdsR H ksl ks) {nm : ByteArray} (hnm : nm.size ≤ 2 ^ 60) {k : Bool → Heap → Prop} (hk : ∀ H', Ext H H' → k true H') :
    CallT Pg f_hindcastlaw15_VerifyNames [prgA p, .slice ksl.a ksl.len ksl.cap, .string nm] (.one (.c .bool)) H k := by
  refine c_hindcastlaw15_VerifyNames p _ _ ?_
  unfold v_hindcastlaw15_VerifyNames
  refine Nw_row (vs := [slV p.1, slV p.2]) fun b1 H1 hb1 hE1 _ hr1 => s_shown fun H2 hE2 => ?_
  have hE2' := hE1.trans hE2 fun _ _ h => h
  have hp2 := hE2.row hr1 fun h => h
  simp only [adr_add]
  refine ⟨p, hp2.rd_all, s_Verify (hP.prg.ext hE2') (hK.ext hE2') hP.par fun v H3 hE3 hv => s_lfault hv ?_⟩
  have hE3' := hE2'.trans hE3 fun _ _ h => h
  have hp3 := hE3.row hp2 fun h => h
  have hsl := hP.sys.len
  have hfl := hP.fun'.len
  have hsn := hP.sl
  have hfn := hP.fl
  have ht : (foI (verifyO ks ss fs)).2.2 = true := foI_true fun a e h => verify_ne h
  generalize ho : verifyO ks ss fs = o at *
  refine Jn.mk (fun j H' => H3 = H' ∧ (j = false → (foI o).2.1 ≠ 65 ∧ (foI o).2.1 ≠ 130 ∧ 0 < ss.length + fs.length)) (fun kk hkk => ?_) ?_
  · refine (Br_false _ _).2 ?_
    rw [ht]
    refine (Br_false _ _).2 (Br.mk (fun _ => hkk _ _ ⟨rfl, fun h => by cases h⟩) fun g1 => Br.mk (fun _ => hkk _ _ ⟨rfl, fun h => by cases h⟩) fun g2 => ?_)
    refine Ld_sl (s := p.1) ((hp3.cell 0).trans rfl) (Ld_sl (s := p.2) ((hp3.cell 1).trans rfl) (Lt.mk (u := ((ss.length + fs.length : Nat) : Int)) (by rw [wrap_i64_id] <;> omega) (hkk _ _ ⟨rfl, fun h => ⟨bneI g1, bneI g2, ?_⟩⟩)))
    have := bneI h
    omega
  rintro j _ ⟨rfl, hj⟩
  refine Br.mk (fun _ => Jn_in ((Br_true _ _).2 (by rw [ht]; exact hk _ hE3'))) fun hjf => ?_
  obtain ⟨g65, g130, hpos⟩ := hj hjf
  obtain ⟨hmk, hmp⟩ := verify_may (ks := ks) (ss := ss) (fs := fs) (fun a h => by rw [ho] at h; subst h; exact g65 rfl) fun a h => by rw [ho] at h; subst h; exact g130 rfl
  obtain ⟨hns, hnf⟩ := may_names hmp
  refine ⟨p, hp3.rd_all, s_lent (p := p) (ss := ss) (fs := fs) ⟨(hP.prg.ext hE3').sys, fun x hx => ?_, (hP.prg.ext hE3').fun', fun r hr => ?_, hP.sl, hP.fl⟩ fun q ss1 fs1 yb fb H7 hE7 hL7 hlo he1 he2 => ?_⟩
  · have h := hP.sysR x hx
    exact ⟨fun q hq => (h.sets q hq).ext hE3', h.lens, h.ints, ⟨h.rou.code.ext hE3', h.rou.len, h.rou.par, h.rou.loc, h.rou.ins, h.rou.name⟩⟩
  · have h := hP.funR r hr
    exact ⟨h.code.ext hE3', h.len, h.par, h.loc, h.ins, h.name⟩
  have hE7' := hE3'.trans hE7 fun _ _ h => h
  have hl1 := map_len he1
  have hl2 := map_len he2
  have hsim1 : SimP ss ss1 fs fs1 := ⟨(map_via (f := eraS) (fun e => (e.1, e.2.2)) he1).symm, (map_via (f := eraR) (fun e => e.2) he2).symm⟩
  have hns1 : ∀ x ∈ ss1, nameOk x.rou.name = true := all_via (f := eraS) (P := fun e => nameOk e.2.1 = true) he1.symm hns
  have hnf1 : ∀ x ∈ fs1, nameOk x.name = true := all_via (f := eraR) (P := fun e => nameOk e.1 = true) he2.symm hnf
  refine prog_copy (p := q) fun b2 H10 hb2 hE10 hq10 => ?_
  have z7 := hE7.size
  have z3 := hE3'.size
  have hlo1 : ∀ b, q.1.a = some (adr b) → H.size ≤ b := fun b hb => by have := hlo b (.inl hb); omega
  have hlo2 : ∀ b, q.2.a = some (adr b) → H.size ≤ b := fun b hb => by have := hlo b (.inr hb); omega
  refine LoopT.mk (fun (i : Int) H' => ∃ (n : Nat) (s2 : List Sy), i = n ∧ n ≤ ss.length ∧ Ext H H' ∧ Row H' b2 T_api_Program [slV q.1, slV q.2] ∧ LentP H' q s2 fs1 yb fb ∧ SimP ss s2 fs fs1 ∧ ∀ x ∈ s2, nameOk x.rou.name = true) (fun i _ => ss.length - i.toNat)
    ⟨0, ss1, rfl, Nat.zero_le _, hE7'.trans hE10 fun _ _ h => h, hq10, hL7.ext hE10, hsim1, hns1⟩ ?_
  rintro next _ H11 ⟨n, s2, rfl, hn, hE11, hq11, hL11, hsim, hok⟩ hnext
  have hq1l := hL11.sl
  have hsl2 := hsim.sl
  refine Ld_sl (s := q.1) ((hq11.cell 0).trans rfl) (Br_dec (fun hlt => ?_) fun hge => ?_)
  · have hn3 : n < s2.length := by omega
    refine Ld_sl (s := q.1) ((hq11.cell 0).trans rfl) (lent_nameS hL11 hn3 fun H12 hU12 hkeep hL12 => ?_)
    refine Lt.mk (u := ((n + 1 : Nat) : Int)) (by rw [wrap_i64_id] <;> omega) (hnext _ _ ⟨n + 1, _, rfl, by omega, hE11.trans hU12 fun b hb e => by have := hlo1 b e; omega, hkeep _ _ _ hq11 (by decide), hL12, ⟨?_, hsim.f⟩, all_set hok (show nameOk ⟨#[111, 116, 104, 101, 114]⟩ = true by decide)⟩ (by omega))
    exact hsim.s.trans (set_nmS hn3 _).symm
  · refine LoopT.mk (fun (i : Int) H' => ∃ (n : Nat) (f2 : List Rou), i = n ∧ n ≤ fs.length ∧ Ext H H' ∧ Row H' b2 T_api_Program [slV q.1, slV q.2] ∧ LentP H' q s2 f2 yb fb ∧ SimP ss s2 fs f2 ∧ ∀ x ∈ f2, nameOk x.name = true) (fun i _ => fs.length - i.toNat)
      ⟨0, fs1, rfl, Nat.zero_le _, hE11, hq11, hL11, hsim, hnf1⟩ ?_
    rintro next2 _ H13 ⟨m, f2, rfl, hm, hE13, hq13, hL13, hsim3, hokf⟩ hnext2
    have hq2l := hL13.fl
    have hfl2 := hsim3.fl
    refine Ld_sl (s := q.2) ((hq13.cell 1).trans rfl) (Br_dec (fun hlt2 => ?_) fun hge2 => ?_)
    · have hm3 : m < f2.length := by omega
      refine Ld_sl (s := q.2) ((hq13.cell 1).trans rfl) (lent_nameF hL13 hm3 fun H14 hU14 hkeep hL14 => ?_)
      refine Lt.mk (u := ((m + 1 : Nat) : Int)) (by rw [wrap_i64_id] <;> omega) (hnext2 _ _ ⟨m + 1, _, rfl, by omega, hE13.trans hU14 fun b hb e => by have := hlo2 b e; omega, hkeep _ _ _ hq13 (by decide), hL14, ⟨hsim3.s, ?_⟩, all_set hokf (show nameOk ⟨#[120]⟩ = true by decide)⟩ (by omega))
      exact hsim3.f.trans (set_nmR hm3 _).symm
    · have hver := hsim3.verify (ks := ks) hmp hok hokf
      rw [ho] at hver
      obtain ⟨hle1, hle2⟩ := lens_of hsim3 hP
      refine ⟨q, hq13.rd_all, s_Verify (hL13.prg hle1 hle2) (hK.ext hE13) (hsim3.par ▸ hP.par) fun v2 H15 hE15 hv2 => ?_⟩
      rw [← hver] at hv2
      refine s_lfault hv2 (Jn.mk (fun j H' => H15 = H' ∧ j = false) (fun kk hkk => ?_) ?_)
      · rw [ht]
        refine (Br_false _ _).2 ?_
        rw [show ((foI o).1 != (foI o).1) = false by simp, show ((foI o).2.1 != (foI o).2.1) = false by simp]
        exact (Br_false _ _).2 (hkk _ _ ⟨rfl, rfl⟩)
      rintro _ _ ⟨rfl, rfl⟩
      have hE15' := hE13.trans hE15 fun _ _ h => h
      have hq15 := hE15.row hq13 fun h => h
      have hL15 := hL13.ext hE15
      refine (Br_false _ _).2 (Ld_sl (s := q.1) ((hq15.cell 0).trans rfl) ?_)
      refine Jn.mk (fun _ H' => ∃ (s3 : List Sy) (f3 : List Rou), Ext H H' ∧ Row H' b2 T_api_Program [slV q.1, slV q.2] ∧ LentP H' q s3 f3 yb fb ∧ SimP ss s3 fs f3 ∧ ((∀ x ∈ s3, nameOk x.rou.name = true) ∧ (∀ x ∈ f3, nameOk x.name = true) ↔ nameOk nm = true)) (fun kk hkk => Br_dec (fun g => ?_) fun g => ?_) ?_
      · have hp0 : 0 < s2.length := by omega
        refine Ld_sl (s := q.1) ((hq15.cell 0).trans rfl) (lent_nameS (i := 0) hL15 hp0 fun H19 hU19 hkeep hL19 => hkk _ _ ⟨_, f2, hE15'.trans hU19 fun b hb e => by have := hlo1 b e; omega, hkeep _ _ _ hq15 (by decide), hL19, ⟨?_, hsim3.f⟩, fun h => ?_, fun h => ⟨all_set hok h, hokf⟩⟩)
        · exact hsim3.s.trans (set_nmS hp0 _).symm
        · exact h.1 (nmS s2[0] nm) (List.mem_set hp0 _)
      · have hp0 : 0 < f2.length := by omega
        refine Ld_sl (s := q.2) ((hq15.cell 1).trans rfl) (lent_nameF (i := 0) hL15 hp0 fun H19 hU19 hkeep hL19 => hkk _ _ ⟨s2, _, hE15'.trans hU19 fun b hb e => by have := hlo2 b e; omega, hkeep _ _ _ hq15 (by decide), hL19, ⟨hsim3.s, ?_⟩, fun h => ?_, fun h => ⟨hok, all_set hokf h⟩⟩)
        · exact hsim3.f.trans (set_nmR hp0 _).symm
        · exact h.2 (nmR f2[0] nm) (List.mem_set hp0 _)
      rintro _ H18 ⟨s3, f3, hE18, hq18, hL18, hsim4, hiff⟩
      obtain ⟨hle3, hle4⟩ := lens_of hsim4 hP
      refine ⟨q, hq18.rd_all, s_Verify (hL18.prg hle3 hle4) (hK.ext hE18) (hsim4.par ▸ hP.par) fun v3 H21 hE21 hv3 => s_lfault hv3 ?_⟩
      have hE21' := hE18.trans hE21 fun _ _ h => h
      refine Jn.mk (fun j H' => H21 = H' ∧ j = !nameOk nm) (fun kk hkk => Br_dec (fun g => hkk _ _ ⟨rfl, ?_⟩) fun g => hkk _ _ ⟨rfl, ?_⟩) ?_
      · have : nameOk nm = false := decide_eq_false (by omega)
        rw [this]; rfl
      · unfold nameOk
        rw [Bool.eq_iff_iff, decide_eq_true_eq, Bool.not_eq_true', decide_eq_false_iff_not]; omega
      rintro _ _ ⟨rfl, rfl⟩
      refine Br_not (Br.mk (fun g => ?_) fun g => ?_)
      · obtain ⟨k1, k2⟩ := hiff.2 g
        have := hsim4.verify (ks := ks) hmp k1 k2
        rw [← this, ho, ht]
        refine Jn_in ((Br_true _ _).2 ?_)
        rw [show ((foI o).1 == (foI o).1) = true by simp, show ((foI o).2.1 == (foI o).2.1) = true by simp]
        exact (Br_true _ _).2 (hk _ hE21')
      · have hno : ¬ MayP s3 f3 := fun h => by
          have := hiff.1 (may_names h)
          rw [this] at g; cases g
        have : verifyO ks s3 f3 = some (0, 130) := by unfold verifyO; rw [if_pos hmk, if_neg hno]
        rw [this]
        exact Jn_in ((Br_true _ _).2 ((Br_true _ _).2 (hk _ hE21')))
theorem w_VerifyNames {H : Heap} (v0 v1 v2 : Value) (r0 : RdV Try.prog H 25 v0) (r1 : RdV Try.prog H 49 v1) (r2 : RdV Try.prog H 9 v2) :
    CallT Try.prog 5 [v0, v1, v2] (.one (.c .bool)) H (fun b H' => b = true ∧ Ext H H') := by
  obtain ⟨p, ss, fs, rfl, hP⟩ := rd_prog r0
  obtain ⟨ksl, ks, rfl, hK⟩ := rd_kinds r1
  obtain ⟨f, hc⟩ := rd_cell Try.underlying9 rfl r2
  obtain ⟨n, e, hn⟩ := rdC_string Try.underlying9 hc
  simp only [List.cons.injEq, and_true] at e
  subst e
  have := reach47
  exact s_VerifyNames hP hK (by omega) fun H' h => ⟨rfl, h⟩
end Go.Proofs.Ytlkmmplgfjicjaa
/-
  Vectors that are consumed from the front.
-/
namespace Go.Proofs.Ytlkmmplgfjicjaa.Hc
set_option linter.unusedVariables false
set_option linter.unusedSimpArgs false

structure VecO (H : Heap) (T : TypeId) (n : Nat) (s : Sl) (vs : List Value) : Prop where
  len : vs.length = s.len * n
  own : (s.a = none ∧ s.cap = 0 ∧ vs = []) ∨ ∃ (b : Nat) (pre sp : List Value), s.a = some ⟨b, pre.length, none⟩ ∧ Row H b T (pre ++ vs ++ sp) ∧ s.cap * n ≤ vs.length + sp.length
  lc : s.len ≤ s.cap
theorem VecO.upd {M : Nat → Prop} {H H' : Heap} (hu : Upd M H H') {T : TypeId} {n : Nat} {s : Sl} {vs : List Value} (h : VecO H T n s vs) (hn : ∀ a, s.a = some a → ¬ M a.block) : VecO H' T n s vs := by
  refine ⟨h.len, ?_, h.lc⟩
  rcases h.own with h1 | ⟨b, pre, sp, h1, h2, h3⟩
  · exact .inl h1
  · exact .inr ⟨b, pre, sp, h1, hu.row h2 (hn _ h1), h3⟩
theorem VecO.ext {H H' : Heap} (hu : Ext H H') {T : TypeId} {n : Nat} {s : Sl} {vs : List Value} (h : VecO H T n s vs) : VecO H' T n s vs := h.upd hu fun _ _ h => h
theorem VecO.ne {H : Heap} {T T' : TypeId} {n : Nat} {s : Sl} {vs ws : List Value} (h : VecO H T n s vs) {a : Addr} (ha : s.a = some a) {b : Nat} (h' : Row H b T' ws) (ht : T ≠ T') : a.block ≠ b := by
  rcases h.own with ⟨g1, _⟩ | ⟨c, pre, sp, g1, g2, _⟩
  · rw [g1] at ha; cases ha
  · rw [g1] at ha; cases ha; exact g2.ne h' ht
theorem VecO.cell {H : Heap} {T : TypeId} {n : Nat} {s : Sl} {vs : List Value} (h : VecO H T n s vs) {j : Nat} (hj : j < vs.length) : ∃ a, s.a = some a ∧ hcell H (a.add j) = vs[j]? := by
  rcases h.own with ⟨_, _, g⟩ | ⟨b, pre, sp, g1, g2, _⟩
  · subst g; simp at hj
  · refine ⟨_, g1, ?_⟩
    rw [mk_add, g2.cell, List.append_assoc, List.getElem?_append_right (by omega), show pre.length + j - pre.length = j by omega, List.getElem?_append_left hj]
/-- The first is taken off. -/
theorem SlA_pop {H : Heap} {T : TypeId} {n : Nat} {s : Sl} {v ws : List Value} {k : Sl → Prop} (h : VecO H T n s (v ++ ws)) (hv : v.length = n) (hn : 0 < n) (hk : ∀ s', VecO H T n s' ws → (∀ a, s'.a = some a → ∃ a0, s.a = some a0 ∧ a0.block = a.block) → s'.len + 1 = s.len → k s') :
    SlA n s 1 (s.len : Nat) (s.cap : Nat) k := by
  have hl := h.len
  have hlc := h.lc
  have hpos : 0 < s.len := by
    rcases Nat.eq_zero_or_pos s.len with e | e
    · rw [e, List.length_append, hv] at hl; simp at hl; omega
    · exact e
  refine ⟨by omega, by omega, by omega, by omega, ?_⟩
  rw [show (Int.toNat 1) = 1 from rfl, Int.toNat_natCast, Int.toNat_natCast]
  obtain ⟨m, hm⟩ : ∃ m, s.len = m + 1 := ⟨s.len - 1, by omega⟩
  have hws : ws.length = m * n := by
    rw [List.length_append, hv, hm, Nat.add_mul] at hl; omega
  refine hk _ ⟨?_, ?_, ?_⟩ (fun a ha => ?_) (by dsimp only; omega)
  · dsimp only; rw [hm, show m + 1 - 1 = m by omega]; exact hws
  · rcases h.own with ⟨_, _, g⟩ | ⟨b, pre, sp, g1, g2, g3⟩
    · have := congrArg List.length g
      rw [List.length_append, hv] at this; simp at this; omega
    · right
      by_cases e : s.cap = 1
      · have hm0 : m = 0 := by omega
        have hw0 : ws = [] := List.eq_nil_of_length_eq_zero (by rw [hws, hm0]; simp)
        subst hw0
        refine ⟨b, pre, v ++ sp, ?_, ?_, ?_⟩
        · dsimp only; rw [if_pos e]; exact g1
        · simpa using g2
        · dsimp only; rw [e]; simp
      · refine ⟨b, pre ++ v, sp, ?_, ?_, ?_⟩
        · dsimp only
          rw [if_neg e, g1]
          simp [hv]
        · simpa using g2
        · dsimp only
          have : (s.cap - 1) * n = s.cap * n - n := by rw [Nat.sub_mul, Nat.one_mul]
          rw [this]
          rw [List.length_append, hv] at g3
          omega
  · dsimp only; omega
  · dsimp only at ha
    split at ha
    · exact ⟨a, ha, rfl⟩
    · cases hs : s.a with
      | none => rw [hs] at ha; cases ha
      | some a0 =>
        rw [hs] at ha
        simp only [Option.map_some, Option.some.injEq] at ha
        subst ha
        exact ⟨a0, rfl, (add_block _ _).symm⟩
/-- append of one element. -/
theorem App_vecO {T : TypeId} {n bytes : Nat} {z : Array Value} {s x : Sl} {H : Heap} {k : Sl → Heap → Prop} {vs ws : List Value} (hz : z.size = n) (hn : 0 < n) (hv : VecO H T n s vs) (hx : rdL H x.a ws) (hxl : ws.length = x.len * n)
    (hone : ∀ w ∈ ws, w.oneCell' = true) (hb : bytes ≠ 0) (hcap : (s.len + x.len + (s.len + x.len) / 4 + 1000) * bytes ≤ 2 ^ 48)
    (hk : ∀ s' H', VecO H' T n s' (vs ++ ws) → s'.len = s.len + x.len → Upd (fun b => ∃ a, s.a = some a ∧ a.block = b) H H' → (s'.a = s.a ∨ s'.a = some (adr H.size)) → k s' H') :
    App T n bytes z s x H k := by
  have hlen := hv.len
  have hrd : rdL H s.a vs := by
    unfold rdL
    rcases hv.own with ⟨h1, _, h3⟩ | ⟨b, pre, sp, h1, h2, h3⟩
    · rw [h1]; exact h3
    · rw [h1]
      dsimp only
      refine hcells_iff.2 fun j hj => ?_
      rw [Nat.zero_add, mk_add, h2.cell, List.append_assoc, List.getElem?_append_right (by omega), show pre.length + j - pre.length = j by omega, List.getElem?_append_left hj]
  refine ⟨ws, hx, fun _ => by omega, fun hfit => ?_, fun hgrow => ?_⟩
  · rcases hv.own with ⟨h1, h2, h3⟩ | ⟨b, pre, sp, h1, h2, h3⟩
    · rw [h1]
      have hx0 : x.len = 0 := by omega
      have hw : ws = [] := List.eq_nil_of_length_eq_zero (by rw [hxl, hx0]; simp)
      subst hw h3
      refine hk _ H ⟨by simp only [List.append_nil, List.length_nil]; simp at hlen; rw [hx0]; simp; omega, .inl ⟨rfl, by simpa using h2, rfl⟩, hfit⟩ rfl (.refl _ _) (.inl h1.symm)
    · rw [h1]
      dsimp only
      rw [mk_add]
      have hm : (s.len + x.len) * n ≤ s.cap * n := Nat.mul_le_mul_right n hfit
      rw [Nat.add_mul] at hm
      refine StL_row h2 (by simp; omega) hone fun H' hU hs hr => ?_
      refine hk _ H' ⟨by simp only [List.length_append, Nat.add_mul]; omega, .inr ⟨b, pre, sp.drop ws.length, rfl, ?_, by simp; omega⟩, hfit⟩ rfl (hU.mono fun b' _ e => ⟨_, h1, e.1.symm⟩) (.inl h1.symm)
      rw [Nat.add_zero, ← hlen] at hr
      have e1 : (pre ++ vs ++ sp).take (pre.length + vs.length) = pre ++ vs := by rw [← List.length_append, List.take_left]
      have e2 : (pre ++ vs ++ sp).drop (pre.length + vs.length + ws.length) = sp.drop ws.length := by
        rw [← List.length_append, ← List.drop_drop, List.drop_left]
      rw [e1, e2] at hr
      simpa using hr
  · refine ⟨hb, ?_, vs, hrd, fun _ => by omega, fun c hc => ?_⟩
    · have := nextcap_le (s.len + x.len) s.cap hgrow
      exact Nat.le_trans (Nat.mul_le_mul_right bytes this) hcap
    · refine hk _ _ ⟨?_, .inr ⟨H.size, [], (zcells z ((c - (s.len + x.len)) * z.size)).toList, rfl, ?_, ?_⟩, hc⟩ rfl (Upd.push _ _ _) (.inr rfl)
      · simp only [List.length_append, Nat.add_mul]; omega
      · unfold Row
        rw [get_push_new]
        congr 2
        apply Array.ext'; simp
      · simp only [List.length_append, Array.length_toList, zcells_size, hz]
        rw [hlen, hxl, ← Nat.add_mul, ← Nat.add_mul]
        exact Nat.mul_le_mul_right n (by omega)
/-- Memory for so many elements of n cells. -/
theorem Mks_all {T : TypeId} {bytes n : Nat} {z : Array Value} {v : Value} {m : Nat} {H : Heap} {k : Sl → Heap → Prop} (hz : z = Array.replicate n v) (hn : 0 < n) (h1 : m < 9223372036854775808) (hb : (bytes : Int) * m ≤ 2 ^ 48)
    (hk : ∀ b H', b = H.size → Ext H H' → H'.size = H.size + 1 → Row H' b T (List.replicate (m * n) v) → k ⟨some (adr b), m, m⟩ H') : Mks T n bytes z (m : Nat) (m : Nat) H k := by
  unfold Mks
  rw [wrap_i64_id (by omega) (by omega)]
  refine ⟨by omega, by omega, hb, ?_⟩
  rw [Int.toNat_natCast]
  have e : zcells z (m * n) = ⟨List.replicate (m * n) v⟩ := by
    apply Array.ext'
    unfold zcells
    simp only [Array.toList_map, Array.toList_range]
    apply List.ext_getElem
    · simp
    · intro i g1 g2
      simp only [List.getElem_map, List.getElem_range, List.getElem_replicate]
      subst hz
      have hlt : i % (Array.replicate n v).size < (Array.replicate n v).size := Nat.mod_lt _ (by simpa using hn)
      rw [getElem!_pos (Array.replicate n v) (i % (Array.replicate n v).size) hlt]; simp
  rw [e]
  exact hk _ _ rfl (Upd.push _ _ _) (by simp) (get_push_new _ _)
end Go.Proofs.Ytlkmmplgfjicjaa.Hc
/-
  The document's table of what is reached.
-/
namespace Go.Proofs.Ytlkmmplgfjicjaa
set_option linter.unusedVariables false
set_option linter.unusedSimpArgs false
open Go.Proofs.Ytlkmmplgfjicjaa.Hc Go.Proofs.Ytlkmmplgfjicjaa.Hc.Vf
set_option maxRecDepth 100000
variable {H : Heap}

/-- The document's next ones. -/
def nextsR (c : List Ins) (at' : Nat) : List Int :=
  let i := c[at']!
  if i.1 = 22 ∨ i.1 = 23 then [] else if i.1 = 19 then (if 0 ≤ i.2 ∧ i.2 < c.length then [i.2] else []) else if i.1 = 20 then (if 0 ≤ i.2 ∧ i.2 < c.length then [i.2, (at' : Int) + 1] else [(at' : Int) + 1]) else [(at' : Int) + 1]
theorem nextsR_mem {c : List Ins} {i j : Nat} (hj : j < c.length) : (j : Int) ∈ nextsR c i ↔ (j : Int) ∈ nexts c i := by
  unfold nextsR nexts
  dsimp only
  repeat' split
  all_goals first
    | exact Iff.rfl
    | (simp only [List.mem_cons, List.not_mem_nil, or_false, List.mem_singleton, false_iff]; omega)
    | (simp only [List.mem_cons, List.not_mem_nil, or_false, List.mem_singleton]; omega)
theorem nextsR_len (c : List Ins) (i : Nat) : (nextsR c i).length ≤ 2 := by
  unfold nextsR
  dsimp only
  repeat' split
  all_goals simp
theorem nextsR_nn (c : List Ins) (i : Nat) : ∀ x ∈ nextsR c i, 0 ≤ x := by
  intro x hx
  unfold nextsR at hx
  dsimp only at hx
  repeat' split at hx
  all_goals simp only [List.mem_cons, List.not_mem_nil, or_false, List.mem_singleton] at hx
  all_goals omega
theorem nextsR_end {c : List Ins} {i : Nat} (hi : i < c.length) (h : ¬ jumpBad c i) : (∃ x ∈ nextsR c i, (c.length : Int) ≤ x) ↔ endBad c i := by
  unfold jumpBad at h
  unfold endBad nextsR nexts
  dsimp only
  generalize c[i]! = x at *
  by_cases h1 : x.1 = 22 ∨ x.1 = 23
  · rw [if_pos h1, if_pos h1]; simp
  · rw [if_neg h1, if_neg h1]
    by_cases h2 : x.1 = 19
    · have h3 : 0 ≤ x.2 ∧ x.2 < c.length := Classical.byContradiction fun g => h ⟨.inl h2, g⟩
      rw [if_pos h2, if_pos h2, if_pos h3]
      simp only [List.mem_singleton, exists_eq_left]
      omega
    · rw [if_neg h2, if_neg h2]
      by_cases h4 : x.1 = 20
      · have h3 : 0 ≤ x.2 ∧ x.2 < c.length := Classical.byContradiction fun g => h ⟨.inr h4, g⟩
        rw [if_pos h4, if_pos h4, if_pos h3]
        simp only [List.mem_cons, List.not_mem_nil, or_false, exists_eq_or_imp, exists_eq_left]
        omega
      · rw [if_neg h4, if_neg h4]
        simp only [List.mem_singleton, exists_eq_left]
        omega
theorem s_rnext {csl : Sl} {c : List Ins} {i m : Nat} (hm : csl.len = m) (hr : RN insV 2 H csl c) (hi : i < c.length) (hl : c.length ≤ 100000) {k : Sl → Heap → Prop} (hk : ∀ s H', Ext H H' → Vec H' T_int s (ints (nextsR c i)) → k s H') :
    CallT Pg f_hindcastref15_next [.slice csl.a m csl.cap, .int .i64 (i : Nat)] (.one (.c .sl)) H k := by
  subst hm
  refine c_hindcastref15_next _ _ ?_
  unfold v_hindcastref15_next
  have at1 : ∀ {Hx : Heap}, Ext H Hx → ∀ {K : Int → Prop}, K (c[i]!).2 → IxA 2 csl (i : Nat) fun a => Ld (.int .i64) (a.add 1) Hx K := by
    intro Hx hE K hK
    exact IxA_rn' insV_len (hr.ext hE) (by omega) (j := i) rfl hi fun a ha => Ld_int ha.2.1 hK
  have at0 : ∀ {Hx : Heap}, Ext H Hx → ∀ {K : Int → Prop}, K (c[i]!).1 → IxA 2 csl (i : Nat) fun a => Ld (.int .i64) a Hx K := by
    intro Hx hE K hK
    exact IxA_rn' insV_len (hr.ext hE) (by omega) (j := i) rfl hi fun a ha => Ld_int ha.1 hK
  have hn : nextsR c i = (if (c[i]!).1 = 22 ∨ (c[i]!).1 = 23 then [] else if (c[i]!).1 = 19 then (if 0 ≤ (c[i]!).2 ∧ (c[i]!).2 < c.length then [(c[i]!).2] else []) else if (c[i]!).1 = 20 then (if 0 ≤ (c[i]!).2 ∧ (c[i]!).2 < c.length then [(c[i]!).2, (i : Int) + 1] else [(i : Int) + 1]) else [(i : Int) + 1]) := rfl
  generalize c[i]! = x at *
  refine at1 (.refl _ _) ?_
  refine Jn.mk (fun j H' => H = H' ∧ j = decide (0 ≤ x.2 ∧ x.2 < c.length)) (fun kk hkk => ?_) ?_
  · refine at1 (.refl _ _) (Br_dec (fun h => at1 (.refl _ _) (hkk _ _ ⟨rfl, ?_⟩)) fun h => hkk _ _ ⟨rfl, (decide_eq_false (by omega)).symm⟩)
    rw [hr.len]; exact decide_eq_decide.2 (by omega)
  rintro j _ ⟨rfl, rfl⟩
  refine at0 (.refl _ _) ?_
  refine Jn.mk (fun j H' => H = H' ∧ j = decide (x.1 = 22 ∨ x.1 = 23)) (fun kk hkk => ?_) ?_
  · refine Br.mk (fun h => hkk _ _ ⟨rfl, (decide_eq_true (.inl (beqI h))).symm⟩) fun h => hkk _ _ ⟨rfl, ?_⟩
    have h := bneI h
    by_cases e : x.1 = 23
    · rw [e]; rfl
    · rw [decide_eq_false (by omega)]; exact beq_eq_false_iff_ne.2 e
  rintro j _ ⟨rfl, rfl⟩
  have one : ∀ y, nextsR c i = [y] → Nw #[.int .i64 y] T_int H fun b1 H3 => k ⟨some (adr b1), 1, 1⟩ H3 := fun y e => Nw_row (vs := [.int .i64 y]) fun b H3 _ hE _ hrw => hk _ _ hE (by rw [e]; exact ⟨rfl, .inr ⟨b, [], rfl, by simpa using hrw, by simp⟩, Nat.le_refl _⟩)
  refine Br_dec (fun h => hk _ _ (.refl _ _) ?_) fun h => Br.mk (fun h19 => ?_) fun h19 => Br.mk (fun h20 => ?_) fun h20 => ?_
  · rw [hn, if_pos h]; exact Vec.nil _ _
  · have h19 := beqI h19
    refine Br_dec (fun ht => one _ (by rw [hn, if_neg h, if_pos h19, if_pos ht])) fun ht => hk _ _ (.refl _ _) ?_
    rw [hn, if_neg h, if_pos h19, if_neg ht]; exact Vec.nil _ _
  · have h19 := bneI h19
    have h20 := beqI h20
    refine Br_dec (fun ht => Lt.mk (u := (i : Int) + 1) (by rw [wrap_i64_id] <;> omega) (Nw_row (vs := [.int .i64 x.2, .int .i64 ((i : Int) + 1)]) fun b H3 _ hE _ hrw => hk _ _ hE ?_)) fun ht => Lt.mk (u := (i : Int) + 1) (by rw [wrap_i64_id] <;> omega) (one _ (by rw [hn, if_neg h, if_neg h19, if_pos h20, if_neg ht]))
    rw [hn, if_neg h, if_neg h19, if_pos h20, if_pos ht]
    exact ⟨rfl, .inr ⟨b, [], rfl, by simpa using hrw, by simp⟩, Nat.le_refl _⟩
  · have h19 := bneI h19
    have h20 := bneI h20
    exact Lt.mk (u := (i : Int) + 1) (by rw [wrap_i64_id] <;> omega) (one _ (by rw [hn, if_neg h, if_neg h19, if_neg h20]))
/-! ### the table -/
def cf (B : List Bool) : Nat := B.count false
theorem cf_set {B : List Bool} {i : Nat} (hi : i < B.length) (h : B[i] = false) : cf (B.set i true) + 1 = cf B := by
  unfold cf
  rw [List.count_set hi]
  have hpos : 0 < B.count false := List.count_pos_iff.2 (h ▸ List.getElem_mem hi)
  rw [h]
  simp
  omega
/-- Is a depth marked? -/
def mk' (B : List Bool) (i d : Nat) : Prop := d ≤ 64 ∧ B[i * 65 + d]? = some true
theorem mk_set {B : List Bool} {i d j e : Nat} (hi : i * 65 + d < B.length) (hd : d ≤ 64) : mk' (B.set (i * 65 + d) true) j e ↔ mk' B j e ∨ (j = i ∧ e = d) := by
  unfold mk'
  rw [List.getElem?_set]
  constructor
  · rintro ⟨h1, h2⟩
    split at h2
    · rename_i h
      right; omega
    · exact .inl ⟨h1, h2⟩
  · rintro (⟨h1, h2⟩ | ⟨rfl, rfl⟩)
    · refine ⟨h1, ?_⟩
      split
      · first | rfl | (rw [if_pos hi])
      · exact h2
    · exact ⟨hd, by rw [if_pos rfl, if_pos hi]⟩
abbrev boolsV (B : List Bool) : List Value := B.map Value.bool
theorem tab_adr {bt m j e : Nat} {k : Addr → Prop} (hj : j < m) (he : e ≤ 64) (hk : k ⟨bt, j * 65 + e, none⟩) : IxA 65 ⟨some (adr bt), m, m⟩ (j : Nat) fun a => IxR 1 65 a (e : Nat) k := by
  refine IxA_adr (by omega) (by omega) ⟨by omega, by omega, ?_⟩
  rw [Int.toNat_natCast, Int.toNat_natCast, Nat.mul_one, mk_add]
  exact hk
theorem s_rline {n0 : Nat} {c : List Ins} {bt i e : Nat} {rest : List (Nat × Nat)} {B : List Bool} {l1 r2 l2 : Sl} {H8 : Heap} {k : Sl → Heap → Prop} (hl1 : l1 = ⟨some (adr bt), c.length, c.length⟩) (hcl : n0 = c.length) (hn2 : c.length ≤ 2000) (hbtH : H.size ≤ bt) (hib : i < c.length) (hbl : e ≤ 64)
    (hrest : rest.length + cf B ≤ 65 * c.length) (hTm : ∀ x ∈ rest, mk' B x.1 x.2) (hnd : rest.Nodup) (hv2 : VecO H8 T_2_int 2 l2 (rest.flatMap stV)) (hb2' : ∀ a, l2.a = some a → H.size ≤ a.block) (hrB : Row H8 bt T_65_bool (boolsV B)) (hBl : B.length = c.length * 65) (hE8' : Ext H H8) (hr2 : Vec H8 T_int r2 (ints (nextsR c i)))
    (hk : ∀ (s2 : Sl) (H9 : Heap) (T' : List (Nat × Nat)) (B' : List Bool), VecO H9 T_2_int 2 s2 (T'.flatMap stV) → (∀ a, s2.a = some a → H.size ≤ a.block) → Row H9 bt T_65_bool (boolsV B') → B'.length = c.length * 65 → Ext H H9 → T'.Nodup → (∀ j f, mk' B' j f ↔ mk' B j f ∨ (f = e ∧ j < c.length ∧ (j : Int) ∈ nextsR c i)) →
      (∀ x, x ∈ T' ↔ x ∈ rest ∨ (mk' B' x.1 x.2 ∧ ¬ mk' B x.1 x.2)) → 2 * cf B' + T'.length ≤ 2 * cf B + rest.length → T'.length + cf B' ≤ rest.length + cf B → k s2 H9) :
    LoopT (σ := Sl × Int) (fun next2 s2 H9 =>
              Br (decide (s2.2 < (r2.len : Int))) (
                Jn (σ := Sl) (fun kk3 =>
                  Jn (σ := Bool) (fun kk4 =>
                    IxA 1 r2 s2.2 fun a8 =>
                    Ld (.int .i64) a8 H9 fun (x3 : Int) =>
                    Br (decide (x3 < (n0 : Nat))) (
                      IxA 1 r2 s2.2 fun a9 =>
                      Ld (.int .i64) a9 H9 fun (x4 : Int) =>
                      IxA 65 l1 x4 fun a10 =>
                      IxR 1 65 a10 (e : Nat) fun a11 =>
                      Ld .bool a11 H9 fun (x5 : Bool) =>
                      kk4 (!x5) H9) (
                      kk4 false H9)) fun j4 H11 =>
                  Jn (σ := Sl) (fun kk5 =>
                    Br j4 (
                      IxA 1 r2 s2.2 fun a12 =>
                      Ld (.int .i64) a12 H11 fun (x6 : Int) =>
                      IxA 65 l1 x6 fun a13 =>
                      IxR 1 65 a13 (e : Nat) fun a14 =>
                      St a14 (.bool true) H11 fun H13 =>
                      IxA 1 r2 s2.2 fun a15 =>
                      Ld (.int .i64) a15 H13 fun (x7 : Int) =>
                      Nw #[.int .i64 x7, .int .i64 (e : Nat)] T_2_int H13 fun b2 H14 =>
                      App T_2_int 2 16 #[.int .i64 0, .int .i64 0] s2.1 ⟨some (adr b2), 1, 1⟩ H14 fun l3 H15 =>
                      kk5 l3 H15) (
                      kk5 s2.1 H11)) fun j5 H12 =>
                  kk3 j5 H12) fun j3 H10 =>
                Lt (IntKind.wrap .i64 (s2.2 + 1)) fun t3 =>
                next2 (j3, t3) H10) (
                k s2.1 H9)) (l2, 0) H8 := by
  subst hl1 hcl
  have hxl := nextsR_len c i
  have hr2l := hr2.len
  rw [List.length_map] at hr2l
  refine LoopT.mk (fun (st : Sl × Int) H9 => ∃ (q : Nat) (T' : List (Nat × Nat)) (B' : List Bool), st.2 = q ∧ q ≤ (nextsR c i).length ∧ VecO H9 T_2_int 2 st.1 (T'.flatMap stV) ∧ (∀ a, st.1.a = some a → H.size ≤ a.block) ∧ Row H9 bt T_65_bool (boolsV B') ∧ B'.length = c.length * 65 ∧ Ext H H9 ∧
      T'.Nodup ∧ (∀ j f, mk' B' j f ↔ mk' B j f ∨ (f = e ∧ j < c.length ∧ (j : Int) ∈ (nextsR c i).take q)) ∧ (∀ x, x ∈ T' ↔ x ∈ rest ∨ (mk' B' x.1 x.2 ∧ ¬ mk' B x.1 x.2)) ∧ 2 * cf B' + T'.length ≤ 2 * cf B + rest.length ∧ T'.length + cf B' ≤ rest.length + cf B ∧ Vec H9 T_int r2 (ints (nextsR c i)))
    (fun st _ => (nextsR c i).length - st.2.toNat)
    ⟨0, rest, B, rfl, Nat.zero_le _, hv2, hb2', hrB, hBl, hE8', hnd, fun j f => by simp, fun x => ⟨fun h => .inl h, fun h => h.elim id fun h => absurd h.1 h.2⟩, Nat.le_refl _, Nat.le_refl _, hr2⟩ ?_
  rintro next2 ⟨s2, _⟩ H9 ⟨q, T', B', rfl, hq, hv9, hsb9, hr9, hBl9, hE9, hnd9, hM9, hT9, hm9, hm9', hrr9⟩ hnext2
  dsimp only at hv9 hsb9 ⊢
  have hv9l := hv9.len
  rw [flat_len stV_len] at hv9l
  refine Br_dec (fun hlt => Jn_in ?_) fun hge => ?_
  · have hq3 : q < (nextsR c i).length := by omega
    have hq4 : q < (nextsR c i).length := hq3
    obtain ⟨y, hy⟩ : ∃ y : Nat, (nextsR c i)[q] = y := ⟨((nextsR c i)[q]).toNat, by have := nextsR_nn c i _ (List.getElem_mem hq3); omega⟩
    have rdn : ∀ {Hx : Heap} {K : Int → Prop}, Vec Hx T_int r2 (ints (nextsR c i)) → K (y : Nat) → IxA 1 r2 (q : Nat) fun a => Ld (.int .i64) a Hx K := fun hv hK => IxA_rl hv.rl rfl hq3 fun a ha => Ld_int (n := (y : Nat)) (by rw [ha, hy]) hK
    have htk : (nextsR c i).take (q + 1) = (nextsR c i).take q ++ [(y : Int)] := by rw [List.take_add_one, List.getElem?_eq_getElem hq3, hy]; rfl
    have hlen9 : y < c.length → y * 65 + e < B'.length := fun h => by rw [hBl9]; omega
    refine Jn.mk (fun j H' => H9 = H' ∧ j = decide (y < c.length ∧ B'[y * 65 + e]? = some false)) (fun kk hkk => ?_) ?_
    · refine rdn hrr9 (Br_dec (fun h => rdn hrr9 (tab_adr (by omega) hbl ?_)) fun h => hkk _ _ ⟨rfl, (decide_eq_false (by omega)).symm⟩)
      have hlt2 := hlen9 (by omega)
      refine Ld_bool (n := B'[y * 65 + e]) ?_ (hkk _ _ ⟨rfl, ?_⟩)
      · rw [hr9.cell, List.getElem?_map, List.getElem?_eq_getElem hlt2]; rfl
      · rw [List.getElem?_eq_getElem hlt2]
        cases B'[y * 65 + e] <;> simp <;> omega
    rintro j _ ⟨rfl, rfl⟩
    have nx : ∀ (s3 : Sl) (H12 : Heap) (T3 : List (Nat × Nat)) (B3 : List Bool), VecO H12 T_2_int 2 s3 (T3.flatMap stV) → (∀ a, s3.a = some a → H.size ≤ a.block) → Row H12 bt T_65_bool (boolsV B3) → B3.length = c.length * 65 → Ext H H12 → T3.Nodup →
        (∀ j f, mk' B3 j f ↔ mk' B j f ∨ (f = e ∧ j < c.length ∧ (j : Int) ∈ (nextsR c i).take (q + 1))) → (∀ x, x ∈ T3 ↔ x ∈ rest ∨ (mk' B3 x.1 x.2 ∧ ¬ mk' B x.1 x.2)) → 2 * cf B3 + T3.length ≤ 2 * cf B + rest.length → T3.length + cf B3 ≤ rest.length + cf B → Vec H12 T_int r2 (ints (nextsR c i)) →
        Lt (IntKind.wrap .i64 ((q : Int) + 1)) fun t3 => next2 (s3, t3) H12 := fun s3 H12 T3 B3 g1 g2 g3 g4 g5 g6 g7 g8 g9 g10 g11 =>
      Lt.mk (u := ((q + 1 : Nat) : Int)) (by rw [wrap_i64_id] <;> omega) (hnext2 _ _ ⟨q + 1, T3, B3, rfl, hq3, g1, g2, g3, g4, g5, g6, g7, g8, g9, g10, g11⟩ (by dsimp only; omega))
    refine Jn_in (Br_dec (fun hnew => ?_) fun hold => ?_)
    · obtain ⟨hyl, hyf⟩ := hnew
      have hlt2 := hlen9 hyl
      have hyf2 : B'[y * 65 + e] = false := by rw [List.getElem?_eq_getElem hlt2] at hyf; exact Option.some.inj hyf
      refine rdn hrr9 (tab_adr hyl hbl (St_row hr9 (by simpa using hlt2) fun H13 hU13 hz13 hr13 => ?_))
      have hset : (boolsV B').set (y * 65 + e) (.bool true) = boolsV (B'.set (y * 65 + e) true) := by simp [List.map_set]
      rw [hset] at hr13
      have hrr13 : Vec H13 T_int r2 (ints (nextsR c i)) := hrr9.upd hU13 fun b hb => hrr9.ne hb hr9 (by decide)
      have hv13 : VecO H13 T_2_int 2 s2 (T'.flatMap stV) := hv9.upd hU13 fun a ha e2 => hv9.ne ha hr9 (by decide) e2
      have hbtH : H.size ≤ bt := by omega
      have hE13 : Ext H H13 := extUpd hE9 hbtH hU13
      refine rdn hrr13 (Nw_row (vs := stV (y, e)) fun b2 H14 hb2' hE14 hz14 hr14 => ?_)
      have hcfs := cf_set hlt2 hyf2
      have hcfb : cf B' ≤ B'.length := List.count_le_length
      have hcfB : cf B ≤ B.length := List.count_le_length
      have hTl9 : T'.length ≤ 200000 := by omega
      refine App_vecO (n := 2) rfl (by omega) (hv13.ext hE14) (ws := stV (y, e)) hr14.rd_all rfl (by simp [Value.oneCell']) (by omega) (by simp only; omega) fun l3 H15 hv15 hl15 hU15 ha15 => ?_
      have hv14 := hv13.ext hE14
      have hMs : ∀ j f, mk' (B'.set (y * 65 + e) true) j f ↔ mk' B' j f ∨ (j = y ∧ f = e) := fun j f => mk_set hlt2 hbl
      have hny : ¬ mk' B' y e := fun h => by have h2 := h.2; rw [hyf] at h2; cases h2
      refine nx l3 H15 (T' ++ [(y, e)]) (B'.set (y * 65 + e) true) ?_ (fun a ha => ?_) (hU15.row (hE14.row hr13 fun h => h) fun ⟨a, h1, h2⟩ => ?_) (by rw [List.length_set]; exact hBl9) ((hE13.trans hE14 fun _ _ h => h).trans hU15 fun b hb ⟨a, h1, h2⟩ => ?_) ?_ (fun j f => ?_) (fun x => ?_) ?_ ?_ ?_
      · rw [List.flatMap_append]; simpa using hv15
      · rcases ha15 with e2 | e2
        · rw [e2] at ha; exact hsb9 a ha
        · rw [e2] at ha; cases ha
          have := hE13.size; show H.size ≤ H14.size; have := hE14.size; omega
      · exact hv14.ne h1 (hE14.row hr13 fun h => h) (by decide) h2
      · have := hsb9 a h1; omega
      · rw [List.nodup_append]
        refine ⟨hnd9, by simp, fun x hx z hz => ?_⟩
        rw [List.mem_singleton] at hz
        subst hz
        rintro rfl
        rcases (hT9 (y, e)).1 hx with h | h
        · exact hny ((hM9 y e).2 (.inl (hTm _ h)))
        · exact hny h.1
      · rw [hMs, hM9, htk]
        simp only [List.mem_append, List.mem_singleton]
        constructor
        · rintro ((h | ⟨h1, h2, h3⟩) | ⟨rfl, rfl⟩)
          · exact .inl h
          · exact .inr ⟨h1, h2, .inl h3⟩
          · exact .inr ⟨rfl, hyl, .inr rfl⟩
        · rintro (h | ⟨h1, h2, h3 | h3⟩)
          · exact .inl (.inl h)
          · exact .inl (.inr ⟨h1, h2, h3⟩)
          · exact .inr ⟨by omega, h1⟩
      · rw [List.mem_append, List.mem_singleton, hT9, hMs]
        constructor
        · rintro ((h | ⟨h1, h2⟩) | rfl)
          · exact .inl h
          · exact .inr ⟨.inl h1, h2⟩
          · exact .inr ⟨.inr ⟨rfl, rfl⟩, fun h => hny ((hM9 y e).2 (.inl h))⟩
        · rintro (h | ⟨h1 | ⟨h1, h2⟩, h3⟩)
          · exact .inl (.inl h)
          · exact .inl (.inr ⟨h1, h3⟩)
          · exact .inr (by obtain ⟨x1, x2⟩ := x; dsimp only at h1 h2; rw [h1, h2])
      · rw [List.length_append, List.length_singleton]; omega
      · rw [List.length_append, List.length_singleton]; omega
      · refine (hrr13.upd hE14 fun _ _ h => h).upd hU15 fun b hb ⟨a, h1, h2⟩ => ?_
        rcases hrr13.own with ⟨g1, _⟩ | ⟨c', sp, g1, g2, _⟩
        · rw [g1] at hb; cases hb
        · rw [g1] at hb; cases hb
          exact hv14.ne h1 (hE14.row g2 fun h => h) (by decide) h2
    · refine nx s2 H9 T' B' hv9 hsb9 hr9 hBl9 hE9 hnd9 (fun j f => ?_) hT9 hm9 hm9' hrr9
      rw [hM9, htk]
      simp only [List.mem_append, List.mem_singleton]
      constructor
      · rintro (h | ⟨h1, h2, h3⟩)
        · exact .inl h
        · exact .inr ⟨h1, h2, .inl h3⟩
      · rintro (h | ⟨h1, h2, h3 | h3⟩)
        · exact .inl h
        · exact .inr ⟨h1, h2, h3⟩
        · have hjy : j = y := by omega
          subst hjy
          subst h1
          have hlt2 := hlen9 h2
          have hne : B'[j * 65 + f]? ≠ some false := fun h => hold ⟨h2, h⟩
          rw [List.getElem?_eq_getElem hlt2] at hne
          have ht : B'[j * 65 + f] = true := by
            cases hb : B'[j * 65 + f]
            · rw [hb] at hne; exact absurd rfl hne
            · rfl
          exact (hM9 j f).1 ⟨hbl, by rw [List.getElem?_eq_getElem hlt2, ht]⟩
  · have hqe : q = (nextsR c i).length := by omega
    subst hqe
    rw [List.take_length] at hM9
    exact hk s2 H9 T' B' hv9 hsb9 hr9 hBl9 hE9 hnd9 hM9 hT9 hm9 hm9'
theorem s_reached {csl fsl : Sl} {c : List Ins} {fs : List Rou} (hr : RN insV 2 H csl c) (hf : RN rouV 4 H fsl fs) (hI : ∀ x ∈ parms fs, I64 x) (hn : 0 < c.length) (hn2 : c.length ≤ 2000) {k : Sl → Heap → Prop}
    (hk : ∀ bt B H', Ext H H' → H.size ≤ bt → Row H' bt T_65_bool (boolsV B) → B.length = c.length * 65 → (∀ i d, mk' B i d ↔ Rch c (parms fs) i d) → k ⟨some (adr bt), c.length, c.length⟩ H') :
    CallT Pg f_hindcastref15_reached [.slice csl.a csl.len csl.cap, .slice fsl.a fsl.len fsl.cap] (.one (.c .sl)) H k := by
  refine c_hindcastref15_reached _ _ ?_
  unfold v_hindcastref15_reached
  have hcl := hr.len
  rw [hcl]
  refine Mks_all (v := .bool false) (n := 65) rfl (by omega) (by omega) (by omega) fun bt H1 hbt hE1 hz1 hrt => ?_
  refine tab_adr (j := 0) (e := 0) hn (by omega) ?_
  have hB0 : List.replicate (c.length * 65) (Value.bool false) = boolsV (List.replicate (c.length * 65) false) := by simp
  rw [hB0] at hrt
  refine St_row hrt (by simp; omega) fun H2 hU2 hz2 hr2 => ?_
  have hset0 : (boolsV (List.replicate (c.length * 65) false)).set (0 * 65 + 0) (.bool true) = boolsV ((List.replicate (c.length * 65) false).set (0 * 65 + 0) true) := by simp [List.map_set]
  rw [hset0] at hr2
  generalize hB : (List.replicate (c.length * 65) false).set (0 * 65 + 0) true = B at hr2
  have hBl : B.length = c.length * 65 := by rw [← hB]; simp
  have hBc : cf B + 1 = c.length * 65 := by
    rw [← hB, cf_set (by simp; omega) (by simp)]
    unfold cf; simp
  have hBm : ∀ i d, mk' B i d ↔ i = 0 ∧ d = 0 := fun i d => by
    rw [← hB, mk_set (by simp; omega) (by omega)]
    constructor
    · rintro (⟨_, h⟩ | h)
      · rw [List.getElem?_replicate] at h; split at h <;> cases h
      · exact h
    · exact .inr
  have hE2 : Ext H H2 := extUpd hE1 (by omega) hU2
  refine Nw_row (vs := stV (0, 0)) fun b1 H3 hb1 hE3 hz3 hr1 => ?_
  have z1 := hE1.size
  refine LoopT.ghost (fun m (s : Sl) H4 => ∃ (T : List (Nat × Nat)) (B : List Bool), m = 2 * cf B + T.length ∧ VecO H4 T_2_int 2 s (T.flatMap stV) ∧ (∀ a, s.a = some a → H.size ≤ a.block) ∧ Row H4 bt T_65_bool (boolsV B) ∧ B.length = c.length * 65 ∧ Ext H H4 ∧ T.Nodup ∧
      (∀ x ∈ T, mk' B x.1 x.2) ∧ T.length + cf B ≤ 65 * c.length ∧ Inv c (parms fs) (fun i d => mk' B i d ∧ (i, d) ∉ T) (fun i d => (i, d) ∈ T)) (2 * cf B + 1)
    ⟨[(0, 0)], B, rfl, ⟨rfl, .inr ⟨b1, [], [], rfl, by simpa using hr1, by simp⟩, Nat.le_refl _⟩, (fun a ha => by cases ha; show H.size ≤ b1; omega), hE3.row hr2 fun h => h, hBl, hE2.trans hE3 fun _ _ h => h, by simp, (fun x hx => by rw [List.mem_singleton] at hx; subst hx; exact (hBm 0 0).2 ⟨rfl, rfl⟩), by rw [List.length_singleton]; omega, ⟨fun i d h => ?_, .inr (by simp), fun i d j e hv _ => ?_⟩⟩ ?_
  · rcases h with ⟨h, _⟩ | h
    · obtain ⟨rfl, rfl⟩ := (hBm i d).1 h; exact .zero
    · simp only [List.mem_singleton, Prod.mk.injEq] at h
      obtain ⟨rfl, rfl⟩ := h; exact .zero
  · obtain ⟨rfl, rfl⟩ := (hBm i d).1 hv.1
    exact absurd (List.mem_singleton.2 rfl) hv.2
  clear hset0 hr2 hBm hBl hBc hB
  clear B
  rintro next m s H4 ⟨T, B, rfl, hvT, hsb, hrB, hBl, hE4, hnd, hTm, hTl, hInv⟩ hnext
  have hTlen := hvT.len
  rw [flat_len stV_len] at hTlen
  have hsl : s.len = T.length := by omega
  refine Br_dec (fun hgo => Jn_in ?_) fun hend => ?_
  · match T, hsl, hgo, hTlen, hvT, hnd, hTm, hTl, hInv, hnext with
    | [], hsl, hgo, _, _, _, _, _, _, _ => rw [hsl] at hgo; simp at hgo
    | (i, d) :: rest, hsl, hgo, hTlen, hvT, hnd, hTm, hTl, hInv, hnext =>
    have hxR := hInv.all i d (.inr (List.mem_cons_self ..))
    obtain ⟨hib, hdb⟩ := hxR.bd hn
    have hx0 : ∃ a, s.a = some a ∧ hcell H4 (a.add 0) = some (.int .i64 (i : Nat)) := by
      obtain ⟨a, h1, h2⟩ := hvT.cell (j := 0) (by simp)
      exact ⟨a, h1, h2⟩
    have hx1 : ∃ a, s.a = some a ∧ hcell H4 (a.add 1) = some (.int .i64 (d : Nat)) := by
      obtain ⟨a, h1, h2⟩ := hvT.cell (j := 1) (by simp)
      exact ⟨a, h1, h2⟩
    obtain ⟨a0, ha0, hc0⟩ := hx0
    obtain ⟨a0', ha0', hc1⟩ := hx1
    have ea : a0' = a0 := by rw [ha0] at ha0'; cases ha0'; rfl
    subst ea
    simp only [List.length_cons] at hsl hTl
    refine IxA.mk ha0 (by omega) (by omega) ⟨by omega, by omega, Ld_int (n := (i : Nat)) ?_ (IxA.mk ha0 (by omega) (by omega) ⟨by omega, by omega, Ld_int (n := (d : Nat)) ?_ ?_⟩)⟩
    · show hcell H4 ((a0'.add 0).add 0) = _; rw [addAdd]; exact hc0
    · show hcell H4 ((a0'.add 0).add 1) = _; rw [addAdd, Nat.zero_add]; exact hc1
    rw [List.flatMap_cons] at hvT
    refine SlA_pop (v := stV (i, d)) hvT rfl (by omega) fun l2 hv2 hb2 hl2 => ?_
    have hb2' : ∀ a, l2.a = some a → H.size ≤ a.block := fun a ha => by
      obtain ⟨a1, e1, e2⟩ := hb2 a ha
      rw [← e2]; exact hsb a1 e1
    have hnd2 := List.nodup_cons.1 hnd
    refine IxA_rn' insV_len (hr.ext hE4) (by omega) (j := i) rfl hib fun a7 ha7 => ?_
    refine ⟨((c[i]!).1, (c[i]!).2), ha7, s_rEffect (i := c[i]!) (hf.ext hE4) fun H6 hE6 => ?_⟩
    have hE6' := hE4.trans hE6 fun _ _ h => h
    have t0 := takes_bd (parms fs) c[i]!
    have t1 := takes_i64 hI c[i]!
    have p0 := puts_bd c[i]!
    refine Lt.mk (u := (d : Int) - takes (parms fs) c[i]!) (by rw [wrap_i64_id] <;> omega) (Lt.mk (u := (d : Int) - takes (parms fs) c[i]! + puts c[i]!) (by rw [wrap_i64_id] <;> omega) ?_)
    refine Jn.mk (fun j H' => H6 = H' ∧ (j = true ↔ ¬ fits (parms fs) c[i]! d)) (fun kk hkk => ?_) ?_
    · refine Br_dec (fun h => hkk _ _ ⟨rfl, fun _ g => by have := g.1; omega, fun _ => rfl⟩) fun h => hkk _ _ ⟨rfl, ?_⟩
      rw [decide_eq_true_eq]
      exact ⟨fun g g2 => by have := g2.2; omega, fun g => Classical.byContradiction fun g2 => g ⟨by omega, by omega⟩⟩
    rintro j _ ⟨rfl, hj⟩
    have hV0 : ∀ j e, mk' B j e ∧ (j, e) ∉ rest ↔ (mk' B j e ∧ (j, e) ∉ (i, d) :: rest) ∨ (j = i ∧ e = d) := by
      intro j e
      constructor
      · rintro ⟨h1, h2⟩
        by_cases h3 : j = i ∧ e = d
        · exact .inr h3
        · refine .inl ⟨h1, fun h4 => ?_⟩
          rcases List.mem_cons.1 h4 with h4 | h4
          · simp only [Prod.mk.injEq] at h4; exact h3 h4
          · exact h2 h4
      · rintro (⟨h1, h2⟩ | ⟨rfl, rfl⟩)
        · exact ⟨h1, fun h3 => h2 (List.mem_cons_of_mem _ h3)⟩
        · exact ⟨hTm (j, e) (List.mem_cons_self ..), hnd2.1⟩
    have hxin : (mk' B i d ∧ (i, d) ∉ (i, d) :: rest) ∨ (i, d) ∈ (i, d) :: rest := .inr (List.mem_cons_self ..)
    refine Br.mk (fun hnofit => ?_) fun hfit => ?_
    · have hnofit := hj.1 hnofit
      refine hnext (2 * cf B + rest.length) l2 H6 (by simp) ⟨rest, B, rfl, hv2.ext hE6, hb2', hE6.row hrB fun h => h, hBl, hE6', hnd2.2, fun x hx => hTm x (List.mem_cons_of_mem _ hx), by omega,
        hInv.go hxin hV0 (fun j e h => .inl (List.mem_cons_of_mem _ h)) (fun j e hs => ?_) fun j e h => ?_⟩
      · obtain ⟨_, g, _⟩ := hs; exact absurd g hnofit
      · by_cases h2 : (j, e) ∈ rest
        · exact .inr h2
        · exact .inl ⟨hTm _ h, h2⟩
    · have hfit : fits (parms fs) c[i]! d := Classical.byContradiction fun g => by rw [hj.2 g] at hfit; cases hfit
      obtain ⟨hbl, hbe⟩ := behind_le hfit
      rw [← hbe]
      generalize hee : behind (parms fs) c[i]! d = e at hbl
      refine s_rnext hcl (hr.ext hE6') hib (by omega) fun r2 H8 hE8 hr2 => ?_
      have hE8' := hE6'.trans hE8 fun _ _ h => h
      refine s_rline rfl rfl hn2 (by omega) hib hbl (by omega) (fun x hx => hTm x (List.mem_cons_of_mem _ hx)) hnd2.2 ((hv2.ext hE6).ext hE8) hb2' (hE8.row (hE6.row hrB fun h => h) fun h => h) hBl hE8' hr2 fun s2 H9 T' B' hv9 hsb9 hr9 hBl9 hE9 hnd9 hM9 hT9 hm9 hm9' => ?_
      have hcfB : cf B ≤ B.length := List.count_le_length
      refine hnext (2 * cf B' + T'.length) s2 H9 (by simp only [List.length_cons]; omega) ⟨T', B', rfl, hv9, hsb9, hr9, hBl9, hE9, hnd9, fun x hx => ?_, ?_, hInv.go hxin (fun j f => ?_) (fun j f h => ?_) (fun j f hs => ?_) fun j f h => ?_⟩
      · rcases (hT9 x).1 hx with h | h
        · exact (hM9 _ _).2 (.inl (hTm x (List.mem_cons_of_mem _ h)))
        · exact h.1
      · omega
      · rw [← hV0]
        constructor
        · rintro ⟨h1, h2⟩
          have h3 : ¬ (mk' B' j f ∧ ¬ mk' B j f) := fun h => h2 ((hT9 (j, f)).2 (.inr h))
          exact ⟨Classical.byContradiction fun h => h3 ⟨h1, h⟩, fun h => h2 ((hT9 (j, f)).2 (.inl h))⟩
        · rintro ⟨h1, h2⟩
          refine ⟨(hM9 j f).2 (.inl h1), fun h => ?_⟩
          rcases (hT9 (j, f)).1 h with h | h
          · exact h2 h
          · exact h.2 h1
      · rcases (hT9 (j, f)).1 h with h | ⟨h1, h2⟩
        · exact .inl (List.mem_cons_of_mem _ h)
        · rcases (hM9 j f).1 h1 with h3 | ⟨h3, h4, h5⟩
          · exact absurd h3 h2
          · exact .inr ⟨hib, hfit, (nextsR_mem h4).1 h5, h4, by rw [hee]; exact h3⟩
      · obtain ⟨_, _, g1, g2, g3⟩ := hs
        have hmk : mk' B' j f := (hM9 j f).2 (.inr ⟨by rw [← hee]; exact g3, g2, (nextsR_mem g2).2 g1⟩)
        by_cases h : (j, f) ∈ T'
        · exact .inr h
        · exact .inl ⟨hmk, h⟩
      · have hmk : mk' B' j f := (hM9 j f).2 (.inl (hTm _ h))
        by_cases h : (j, f) ∈ T'
        · exact .inr h
        · exact .inl ⟨hmk, h⟩
  · have hT0 : T = [] := List.eq_nil_of_length_eq_zero (by omega)
    subst hT0
    refine hk bt B H4 hE4 (by omega) hrB hBl fun i d => ?_
    have := hInv.done (fun i d h => by cases h) i d
    rw [this]
    exact ⟨fun h => ⟨h, fun h2 => by cases h2⟩, fun h => h.1⟩
end Go.Proofs.Ytlkmmplgfjicjaa
/-
  The document: what is wrong with a reached instruction.
-/
namespace Go.Proofs.Ytlkmmplgfjicjaa
set_option linter.unusedVariables false
set_option linter.unusedSimpArgs false
open Go.Proofs.Ytlkmmplgfjicjaa.Hc Go.Proofs.Ytlkmmplgfjicjaa.Hc.Vf
set_option maxRecDepth 100000
variable {H : Heap}

theorem s_rwrong {csl fsl : Sl} {c : List Ins} {fs : List Rou} {i : Nat} {v : Value} {w : List Bool} (hv : Value.cells v = ⟨boolsV w⟩) (hwl : w.length = 65) (hw : ∀ d, w[d]? = some true ↔ Rch c (parms fs) i d)
    (hr : RN insV 2 H csl c) (hf : RN rouV 4 H fsl fs) (hI : ∀ x ∈ parms fs, I64 x) (hi : i < c.length) (hn2 : c.length ≤ 2000) {k : Int → Heap → Prop} (hk : ∀ H', Ext H H' → k (wr c (parms fs) i : Nat) H') :
    CallT Pg f_hindcastref15_wrong [.slice csl.a csl.len csl.cap, .int .i64 (i : Nat), v, .slice fsl.a fsl.len fsl.cap] (.one (.c (.int .i64))) H k := by
  refine c_hindcastref15_wrong _ _ _ _ ?_
  unfold v_hindcastref15_wrong
  rw [hv]
  have hcl := hr.len
  have at1 : ∀ {Hx : Heap}, Ext H Hx → ∀ {K : Int → Prop}, K (c[i]!).2 → IxA 2 csl (i : Nat) fun a => Ld (.int .i64) (a.add 1) Hx K := by
    intro Hx hE K hK
    exact IxA_rn' insV_len (hr.ext hE) (by omega) (j := i) rfl hi fun a ha => Ld_int ha.2.1 hK
  have at0 : ∀ {Hx : Heap}, Ext H Hx → ∀ {K : Int → Prop}, K (c[i]!).1 → IxA 2 csl (i : Nat) fun a => Ld (.int .i64) a Hx K := by
    intro Hx hE K hK
    exact IxA_rn' insV_len (hr.ext hE) (by omega) (j := i) rfl hi fun a ha => Ld_int ha.1 hK
  refine Nw_row (vs := boolsV w) fun b1 H1 hb1 hE1 hz1 hr1 => ?_
  refine IxA_rn' insV_len (hr.ext hE1) (by omega) (j := i) rfl hi fun a ha => ⟨((c[i]!).1, (c[i]!).2), ha, s_rEffect (i := c[i]!) (hf.ext hE1) fun H2 hE2 => ?_⟩
  have hE2' := hE1.trans hE2 fun _ _ h => h
  have hr2 := hE2.row hr1 fun h => h
  have t0 := takes_bd (parms fs) c[i]!
  have t1 := takes_i64 hI c[i]!
  have p0 := puts_bd c[i]!
  refine Jn.mk (fun j H' => H2 = H' ∧ j = decide ((c[i]!).1 = 19 ∨ (c[i]!).1 = 20)) (fun kk hkk => ?_) ?_
  · refine at0 hE2' (Br.mk (fun h => hkk _ _ ⟨rfl, (decide_eq_true (.inl (beqI h))).symm⟩) fun h => at0 hE2' (hkk _ _ ⟨rfl, ?_⟩))
    have h := bneI h
    by_cases e : (c[i]!).1 = 20
    · rw [e]; rfl
    · rw [decide_eq_false (by omega)]; exact beq_eq_false_iff_ne.2 e
  rintro j _ ⟨rfl, rfl⟩
  refine Jn.mk (fun j H' => H2 = H' ∧ (j = true ↔ jumpBad c i)) (fun kk hkk => ?_) ?_
  · refine Br_dec (fun h => at1 hE2' (Br_dec (fun h2 => hkk _ _ ⟨rfl, fun _ => ⟨h, by omega⟩, fun _ => rfl⟩) fun h2 => at1 hE2' (hkk _ _ ⟨rfl, ?_⟩))) fun h => hkk _ _ ⟨rfl, fun e => (by cases e), fun e => absurd e.1 h⟩
    rw [decide_eq_true_eq]
    exact ⟨fun g => ⟨h, by omega⟩, fun g => by have := g.2; omega⟩
  rintro j _ ⟨rfl, hj⟩
  refine Br.mk (fun h => ?_) fun h => ?_
  · have := hk H2 hE2'
    rwa [wr_150 (hj.1 h)] at this
  have hnj : ¬ jumpBad c i := fun e => by rw [hj.2 e] at h; cases h
  have sb : stackBad c (parms fs) i → k 151 H2 := fun hs => by
    have := hk H2 hE2'
    rwa [wr_151 hnj hs] at this
  refine LoopT.mk (fun (st : Int × Int) H' => H2 = H' ∧ ∃ m n : Nat, st = ((m : Int), (n : Int)) ∧ n ≤ 65 ∧ m ≤ n ∧ (m = 0 → ∀ d, d < n → ¬ Rch c (parms fs) i d) ∧ (m = 1 → ∃ d, d < n ∧ Rch c (parms fs) i d ∧ ∀ e, e < n → Rch c (parms fs) i e → e = d) ∧
      (1 < m → ∃ d e, Rch c (parms fs) i d ∧ Rch c (parms fs) i e ∧ d ≠ e) ∧ ∀ d, d < n → Rch c (parms fs) i d → fits (parms fs) c[i]! d)
    (fun st _ => 65 - st.2.toNat) ⟨rfl, 0, 0, rfl, by omega, by omega, fun _ d hd => by omega, fun h => by omega, fun h => by omega, fun d hd => by omega⟩ ?_
  rintro next _ _ ⟨rfl, m, n, rfl, hn, hmn, h0, h1, h2, hfit⟩ hnext
  dsimp only
  refine Br_dec (fun hlt => Jn_in ?_) fun hge => ?_
  · have hn3 : n < w.length := by omega
    refine ⟨by omega, by omega, ?_⟩
    rw [Int.toNat_natCast, Nat.mul_one]
    refine Ld_bool (n := w[n]) ?_ ?_
    · rw [adr_add, hr2.cell, List.getElem?_map, List.getElem?_eq_getElem hn3]; rfl
    have hwn : w[n] = true ↔ Rch c (parms fs) i n := by rw [← hw, List.getElem?_eq_getElem hn3]; simp
    generalize w[n] = x at hwn
    refine Jn_in (Br.mk (fun hx => ?_) fun hx => ?_)
    · have hR := hwn.1 hx
      refine Lt.mk (u := ((m + 1 : Nat) : Int)) (by rw [wrap_i64_id] <;> omega) ?_
      refine Jn.mk (fun j H' => H2 = H' ∧ (j = true ↔ ¬ fits (parms fs) c[i]! n)) (fun kk hkk => ?_) ?_
      · refine Br_dec (fun h => hkk _ _ ⟨rfl, fun _ g => by have := g.1; omega, fun _ => rfl⟩) fun h => Lt.mk (u := (n : Int) - takes (parms fs) c[i]!) (by rw [wrap_i64_id] <;> omega) (Lt.mk (u := (n : Int) - takes (parms fs) c[i]! + puts c[i]!) (by rw [wrap_i64_id] <;> omega) (hkk _ _ ⟨rfl, ?_⟩))
        rw [decide_eq_true_eq]
        exact ⟨fun g g2 => by have := g2.2; omega, fun g => Classical.byContradiction fun g2 => g ⟨by omega, by omega⟩⟩
      rintro j5 _ ⟨rfl, hj5⟩
      refine Br.mk (fun hb => sb (.inl ⟨n, hR, hj5.1 hb⟩)) fun hb => ?_
      have hft : fits (parms fs) c[i]! n := Classical.byContradiction fun g => by rw [hj5.2 g] at hb; cases hb
      refine Lt.mk (u := ((n + 1 : Nat) : Int)) (by rw [wrap_i64_id] <;> omega) (hnext _ _ ⟨rfl, m + 1, n + 1, rfl, by omega, by omega, fun h => by omega, fun h => ⟨n, by omega, hR, fun e he hRe => ?_⟩, fun h => ?_, fun d hd hRd => ?_⟩ (by dsimp only; omega))
      · rcases Nat.lt_or_ge e n with g | g
        · exact absurd hRe (h0 (by omega) e g)
        · omega
      · rcases Nat.lt_or_ge 1 m with g | g
        · exact h2 g
        · obtain ⟨d, g1, g2, _⟩ := h1 (by omega)
          exact ⟨d, n, g2, hR, by omega⟩
      · rcases Nat.lt_or_ge d n with g | g
        · exact hfit d g hRd
        · have : d = n := by omega
          subst this; exact hft
    · have hR : ¬ Rch c (parms fs) i n := fun h => by rw [hwn.2 h] at hx; cases hx
      have hlt2 : ∀ {e}, e < n + 1 → Rch c (parms fs) i e → e < n := fun {e} he hRe => by
        rcases Nat.lt_or_ge e n with g | g
        · exact g
        · have : e = n := by omega
          subst this; exact absurd hRe hR
      refine Lt.mk (u := ((n + 1 : Nat) : Int)) (by rw [wrap_i64_id] <;> omega) (hnext _ _ ⟨rfl, m, n + 1, rfl, by omega, by omega, fun h d hd hRd => h0 h d (hlt2 hd hRd) hRd, fun h => ?_, h2, fun d hd hRd => hfit d (hlt2 hd hRd) hRd⟩ (by dsimp only; omega))
      obtain ⟨d, g1, g2, g3⟩ := h1 h
      exact ⟨d, by omega, g2, fun e he hRe => g3 e (hlt2 he hRe) hRe⟩
  · have hn65 : n = 65 := by omega
    subst hn65
    have hbd : ∀ {d}, Rch c (parms fs) i d → d < 65 := fun hd => by have := (hd.bd (by omega)).2; omega
    refine Br_dec (fun h => sb (.inr (h2 (by omega)))) fun h => ?_
    have hns : ¬ stackBad c (parms fs) i := by
      rintro (⟨d, g1, g2⟩ | ⟨d, e, g1, g2, g3⟩)
      · exact g2 (hfit d (hbd g1) g1)
      · rcases Nat.lt_or_ge m 1 with g | g
        · exact h0 (by omega) d (hbd g1) g1
        · obtain ⟨x, _, _, hx⟩ := h1 (by omega)
          exact g3 ((hx d (hbd g1) g1).trans (hx e (hbd g2) g2).symm)
    refine s_rnext rfl (hr.ext hE2') hi (by omega) fun r2 H9 hE9 hr9 => ?_
    have hE9' := hE2'.trans hE9 fun _ _ h => h
    have hxl := nextsR_len c i
    have hr2l := hr9.len
    rw [List.length_map] at hr2l
    have hend := nextsR_end hi hnj
    have hkk := hk H9 hE9'
    refine LoopT.mk (fun (s : Int) H' => H9 = H' ∧ ∃ q : Nat, s = q ∧ q ≤ (nextsR c i).length ∧ ∀ x ∈ (nextsR c i).take q, ¬ (c.length : Int) ≤ x) (fun s _ => (nextsR c i).length - s.toNat) ⟨rfl, 0, rfl, Nat.zero_le _, fun x hx => by simp at hx⟩ ?_
    rintro next2 _ _ ⟨rfl, q, rfl, hq, hqx⟩ hnext2
    refine Br_dec (fun hlt => ?_) fun hge2 => ?_
    · have hq3 : q < (nextsR c i).length := by omega
      refine IxA_rl hr9.rl rfl hq3 fun a ha => Ld_int (n := (nextsR c i)[q]) (by rw [ha]) (Br_dec (fun hx => ?_) fun hx => Lt.mk (u := ((q + 1 : Nat) : Int)) (by rw [wrap_i64_id] <;> omega) (hnext2 _ _ ⟨rfl, q + 1, rfl, hq3, fun x hx2 => ?_⟩ (by omega)))
      · rwa [wr_153 hnj hns (hend.1 ⟨_, List.getElem_mem hq3, by omega⟩)] at hkk
      · rw [List.take_add_one, List.getElem?_eq_getElem hq3, List.mem_append] at hx2
        rcases hx2 with hx2 | hx2
        · exact hqx x hx2
        · simp only [Option.toList_some, List.mem_singleton] at hx2
          subst hx2; omega
    · have hqe : q = (nextsR c i).length := by omega
      subst hqe
      rw [List.take_length] at hqx
      rwa [wr_0 hnj hns fun he => by obtain ⟨x, g1, g2⟩ := hend.2 he; exact hqx x g1 g2] at hkk
end Go.Proofs.Ytlkmmplgfjicjaa
/-
  The document's depths.
-/
namespace Go.Proofs.Ytlkmmplgfjicjaa
set_option linter.unusedVariables false
set_option linter.unusedSimpArgs false
open Go.Proofs.Ytlkmmplgfjicjaa.Hc Go.Proofs.Ytlkmmplgfjicjaa.Hc.Vf
set_option maxRecDepth 100000
variable {H : Heap}

theorem ints_sn {xs : List Int} {x : Int} : ints xs ++ [.int .i64 x] = ints (xs ++ [x]) := by simp [ints]
/-- What the document's Depths gives out. -/
def DepRef (H : Heap) (c : List Ins) (ps : List Int) (q : Sl × Int × Int) : Prop :=
  match depthsS c ps with
  | .ok xs => q.2 = (0, 0) ∧ Vec H T_int q.1 (ints xs)
  | .error (a, e) => q = (⟨none, 0, 0⟩, ((a : Nat) : Int), ((e : Nat) : Int))
theorem mk_line {B : List Bool} {n m : Nat} (hB : B.length = m * 65) (hn : n < m) (d : Nat) : ((B.drop (n * 65)).take 65)[d]? = some true ↔ mk' B n d := by
  unfold mk'
  rw [List.getElem?_take, List.getElem?_drop]
  by_cases h : d < 65
  · rw [if_pos h]; exact ⟨fun g => ⟨by omega, g⟩, fun g => g.2⟩
  · rw [if_neg h]; exact ⟨fun g => (by cases g), fun g => (by omega)⟩
theorem s_rline2 {bt n m : Nat} {B : List Bool} {r1 : Sl} {H5 : Heap} {c : List Ins} {ps : List Int} {k : Int × Int → Heap → Prop} (hr1 : r1 = ⟨some (adr bt), m, m⟩) (hn : n < m) (hm2 : m ≤ 2000) (hrow : Row H5 bt T_65_bool (boolsV B)) (hBl : B.length = m * 65) (hB : ∀ i d, mk' B i d ↔ Rch c ps i d)
    (hk : ∀ x y : Int, ((∀ d, ¬ Rch c ps n d) ∧ x = -1 ∨ ∃ d : Nat, x = d ∧ Rch c ps n d) → k (x, y) H5) :
    LoopT (σ := Int × Int) (fun next2 s2 H5 =>
              Br (decide (s2.2 ≥ 0)) (
                Jn (σ := Int) (fun kk1 =>
                  IxA 65 r1 (n : Nat) fun a1 =>
                  IxR 1 65 a1 s2.2 fun a2 =>
                  Ld .bool a2 H5 fun (x3 : Bool) =>
                  Jn (σ := Int) (fun kk2 =>
                    Br x3 (
                      kk2 s2.2 H5) (
                      kk2 s2.1 H5)) fun j2 H7 =>
                  kk1 j2 H7) fun j1 H6 =>
                Lt (IntKind.wrap .i64 (s2.2 - 1)) fun t1 =>
                next2 (j1, t1) H6) (
                k s2 H5)) (-1, 64) H5 := by
  subst hr1
  refine LoopT.mk (fun (st : Int × Int) H' => H5 = H' ∧ ∃ q : Nat, st.2 = (q : Int) - 1 ∧ q ≤ 65 ∧ ((∀ d, q ≤ d → ¬ Rch c ps n d) ∧ st.1 = -1 ∨ ∃ d : Nat, st.1 = d ∧ Rch c ps n d)) (fun st _ => (st.2 + 1).toNat) ⟨rfl, 65, rfl, by omega, .inl ⟨fun d hd hR => by have := ((hB n d).2 hR).1; omega, rfl⟩⟩ ?_
  rintro next ⟨a, _⟩ _ ⟨rfl, q, rfl, hq, hI⟩ hnext
  dsimp only at hI ⊢
  refine Br_dec (fun hge => Jn_in ?_) fun hlt => ?_
  · obtain ⟨p, rfl⟩ : ∃ p, q = p + 1 := ⟨q - 1, by omega⟩
    have e1 : (((p + 1 : Nat) : Int) - 1) = (p : Nat) := by omega
    rw [e1]
    have hlt2 : n * 65 + p < B.length := by rw [hBl]; omega
    refine tab_adr hn (by omega) (Ld_bool (n := B[n * 65 + p]) (by rw [hrow.cell, List.getElem?_map, List.getElem?_eq_getElem hlt2]; rfl) ?_)
    have hx : B[n * 65 + p] = true ↔ Rch c ps n p := by
      rw [← hB]
      unfold mk'
      rw [List.getElem?_eq_getElem hlt2]
      simp; omega
    generalize B[n * 65 + p] = x at hx
    refine Jn_in (Br.mk (fun h => ?_) fun h => ?_)
    · exact Lt.mk (u := (p : Int) - 1) (by rw [wrap_i64_id] <;> omega) (hnext _ _ ⟨rfl, p, rfl, by omega, .inr ⟨p, rfl, hx.1 h⟩⟩ (by dsimp only; omega))
    · refine Lt.mk (u := (p : Int) - 1) (by rw [wrap_i64_id] <;> omega) (hnext _ _ ⟨rfl, p, rfl, by omega, hI.imp (fun g => ⟨fun d hd hR => ?_, g.2⟩) id⟩ (by dsimp only; omega))
      rcases Nat.lt_or_ge p d with g2 | g2
      · exact g.1 d g2 hR
      · have : d = p := by omega
        subst this
        rw [hx.2 hR] at h; cases h
  · have hq0 : q = 0 := by omega
    subst hq0
    exact hk a _ (hI.imp (fun g => ⟨fun d => g.1 d (Nat.zero_le _), g.2⟩) id)
theorem s_rDepths {p : Sl × Sl} {r : Rou} {fs : List Rou} (hr : CodeR H r) (hf : RN rouV 4 H p.2 fs) (hI : ∀ x ∈ parms fs, I64 x) {k : Sl × Int × Int → Heap → Prop}
    (hk : ∀ q H', Ext H H' → DepRef H' r.code (parms fs) q → (∀ b, q.1.a = some (adr b) → H.size ≤ b) → k q H') : CallT Pg f_hindcastref15_Depths [prgA p, rouA r] (.tup [(.c .sl), (.c (.int .i64)), (.c (.int .i64))]) H k := by
  refine c_hindcastref15_Depths p (r.name, r.params, r.locals, r.sl) ?_
  unfold v_hindcastref15_Depths
  refine Nw_row (vs := [slV p.1, slV p.2]) fun b1 H1 hb1 hE1 hz1 hrow1 => Nw_row (vs := rouV r) fun b2 H2 hb2 hE2 hz2 hrow2 => ?_
  simp only [adr_add]
  have hE2' := hE1.trans hE2 fun _ _ h => h
  have hrow12 := hE2.row hrow1 fun h => h
  have hcl := hr.len
  have z2 := hE2'.size
  refine Ld_sl (s := r.sl) ((hrow2.cell 3).trans rfl) ?_
  refine Br_dec (fun hbig => hk _ _ hE2' ?_ fun b hb => by cases hb) fun hsm => Br.mk (fun h0 => hk _ _ hE2' ?_ fun b hb => by cases hb) fun h0 => ?_
  · unfold DepRef depthsS; rw [if_pos (by omega)]; rfl
  · have h0 := beqI h0
    unfold DepRef depthsS; rw [if_neg (by omega), if_pos (by omega)]; rfl
  have h0 := bneI h0
  have hn2 : r.code.length ≤ 2000 := by omega
  refine Ld_sl (s := p.2) ((hrow12.cell 1).trans rfl) (s_reached (hr.ext hE2') (hf.ext hE2') hI (by omega) hn2 fun bt B H3 hE3 hbt hrt hBl hBR => ?_)
  have hE3' := hE2'.trans hE3 fun _ _ h => h
  have z3 := hE3'.size
  refine LoopT.mk (fun (st : Sl × Int) H' => ∃ n : Nat, st.2 = n ∧ n ≤ r.code.length ∧ Vec H' T_int st.1 (ints ((List.range n).map (depI r.code (parms fs)))) ∧ (∀ b, st.1.a = some (adr b) → H3.size ≤ b) ∧ Ext H3 H' ∧ ∀ j, j < n → badP r.code (parms fs) j = false) (fun st _ => r.code.length - st.2.toNat)
    ⟨0, rfl, Nat.zero_le _, Vec.nil _ _, (fun b hb => by cases hb), .refl _ _, fun j hj => by omega⟩ ?_
  rintro next ⟨s, _⟩ H4 ⟨n, rfl, hn, hv, hsb, hE4, hno⟩ hnext
  dsimp only at hv hsb ⊢
  refine Br_dec (fun hlt => ?_) fun hge => ?_
  · have hn3 : n < r.code.length := by omega
    have hE4' := hE3'.trans hE4 fun _ _ h => h
    have hrt4 := hE4.row hrt fun h => h
    refine s_rline2 rfl hn3 hn2 hrt4 hBl hBR fun x _ hx => ?_
    dsimp only
    refine Jn.mk (fun _ H' => Ext H4 H' ∧ x = depI r.code (parms fs) n ∧ badP r.code (parms fs) n = false) (fun kk hkk => ?_) ?_
    · refine Br_dec (fun hx0 => ?_) fun hx0 => ?_
      · rcases hx with ⟨_, rfl⟩ | ⟨d, rfl, hR⟩
        · omega
        have hw65 : ((B.drop (n * 65)).take 65).length = 65 := by rw [List.length_take, List.length_drop]; omega
        refine IxA_adr (by omega) (by omega) ⟨boolsV ((B.drop (n * 65)).take 65), by simpa using hw65, hcells_iff.2 fun j hj => ?_, ?_⟩
        · rw [List.length_map, hw65] at hj
          rw [Int.toNat_natCast, mk_add, hrt4.cell, List.getElem?_map, List.getElem?_map, List.getElem?_take, if_pos hj, List.getElem?_drop, Nat.zero_add]
        have hp5 : hcell H4 ⟨b1, 1, none⟩ = some (slV p.2) := ((hE4.row (hE3.row hrow12 fun h => h) fun h => h).cell 1).trans rfl
        refine Ld_sl (s := p.2) hp5 (s_rwrong (w := (B.drop (n * 65)).take 65) rfl hw65 (fun d => (mk_line hBl hn3 d).trans (hBR n d)) (hr.ext hE4') (hf.ext hE4') hI hn3 hn2 fun H9 hE9 => ?_)
        by_cases hw : wr r.code (parms fs) n = 0
        · rw [hw]
          refine hkk _ _ ⟨hE9, (depI_of hR fun e he => ?_).symm, badP_false fun h => h.2 hw⟩
          refine Classical.byContradiction fun hne => ?_
          unfold wr at hw
          split at hw
          · cases hw
          · split at hw
            · cases hw
            · rename_i h2
              exact h2 (.inr ⟨e, d, he, hR, hne⟩)
        · rw [show ((((wr r.code (parms fs) n : Nat)) : Int) != 0) = true by rw [bne_iff_ne]; omega, Br_true]
          refine hk _ _ (hE4'.trans hE9 fun _ _ h => h) ?_ fun b hb => by cases hb
          have : (List.range r.code.length).find? (badP r.code (parms fs)) = some n := by
            rw [List.find?_range_eq_some]
            exact ⟨badP_true ⟨⟨d, hR⟩, hw⟩, List.mem_range.2 hn3, fun j hj => by rw [hno j hj]; rfl⟩
          unfold DepRef depthsS
          rw [if_neg (by omega), if_neg (by omega), this]
      · rcases hx with ⟨hx1, rfl⟩ | ⟨d, rfl, _⟩
        · exact hkk _ _ ⟨.refl _ _, (depI_none hx1).symm, badP_false fun ⟨⟨d, hd⟩, _⟩ => hx1 d hd⟩
        · omega
    rintro _ H8 ⟨hE8, hxd, hbf⟩
    refine Nw_row (vs := [.int .i64 x]) fun b3 H10 hb3 hE10 hz10 hr3 => ?_
    refine App_vec ((hv.ext hE8).ext hE10) (ws := [.int .i64 x]) hr3.rd_all rfl (by simp [Value.oneCell']) (by omega) (by simp [ints]; omega) fun l1 H11 hv11 hU11 ha11 _ => ?_
    refine Lt.mk (u := ((n + 1 : Nat) : Int)) (by rw [wrap_i64_id] <;> omega) (hnext _ _ ⟨n + 1, rfl, hn3, ?_, fun b hb => ?_, ?_, fun j hj => ?_⟩ (by dsimp only; omega))
    · rw [List.range_succ, List.map_append, List.map_singleton, ← hxd, ← ints_sn]; exact hv11
    · rcases ha11 with e | e
      · rw [e] at hb; exact hsb b hb
      · rw [e] at hb; cases hb
        have := hE4.size; have := hE8.size; have := hE10.size; omega
    · refine ((hE4.trans hE8 fun _ _ h => h).trans hE10 fun _ _ h => h).trans hU11 fun b hb ⟨h1, _⟩ => ?_
      have := hsb b h1; omega
    · rcases Nat.lt_or_ge j n with e | e
      · exact hno j e
      · have : j = n := by omega
        subst this; exact hbf
  · have hne : n = r.code.length := by omega
    subst hne
    refine hk _ _ (hE3'.trans hE4 fun _ _ h => h) ?_ fun b hb => by have := hsb b hb; omega
    have : (List.range r.code.length).find? (badP r.code (parms fs)) = none := by
      rw [List.find?_range_eq_none]
      intro j hj
      rw [hno j hj]; rfl
    unfold DepRef depthsS
    rw [if_neg (by omega), if_neg (by omega), this]
    exact ⟨rfl, hv⟩
end Go.Proofs.Ytlkmmplgfjicjaa
