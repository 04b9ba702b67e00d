/-
  What is said does not look at names or places: the plain part.
-/
import Derived.Test.YtlkmmplgfjicjaaWM
namespace Go.Proofs.Ytlkmmplgfjicjaa
set_option linter.unusedVariables false
set_option linter.unusedSimpArgs false
open Go.Proofs.Ytlkmmplgfjicjaa.Hc Go.Proofs.Ytlkmmplgfjicjaa.Hc.Vf
set_option maxRecDepth 100000
variable {H : Heap}

abbrev eraNR (r : Rou) : Int × Int × List Ins := (r.params, r.locals, r.code)
abbrev eraN (x : Sy) : (Nat → List Int) × Int × Int × List Ins := (x.l, eraNR x.rou)
theorem map_at {α β : Type} [Inhabited α] {f : α → β} {xs ys : List α} (h : xs.map f = ys.map f) {i : Nat} (hi : i < xs.length) : f (xs[i]!) = f (ys[i]!) := by
  have hl : xs.length = ys.length := by simpa using congrArg List.length h
  have := congrArg (fun l => l[i]?) h
  simp only [List.getElem?_map, List.getElem?_eq_getElem hi, List.getElem?_eq_getElem (show i < ys.length by omega), Option.map_some, Option.some.injEq] at this
  rw [getElem!_pos xs i hi, getElem!_pos ys i (by omega)]
  exact this
theorem map_len {α β : Type} {f : α → β} {xs ys : List α} (h : xs.map f = ys.map f) : xs.length = ys.length := by simpa using congrArg List.length h
theorem map_via {α β γ : Type} {f : α → β} (g : β → γ) {xs ys : List α} (h : xs.map f = ys.map f) : xs.map (fun x => g (f x)) = ys.map fun x => g (f x) := by
  have := congrArg (List.map g) h
  rw [List.map_map, List.map_map] at this
  exact this
theorem all_via {α β : Type} {f : α → β} {P : β → Prop} {xs ys : List α} (h : xs.map f = ys.map f) (ha : ∀ x ∈ xs, P (f x)) : ∀ y ∈ ys, P (f y) := by
  have h1 : ∀ z ∈ xs.map f, P z := fun z hz => by obtain ⟨x, hx, rfl⟩ := List.mem_map.1 hz; exact ha x hx
  rw [h] at h1
  exact fun y hy => h1 _ (List.mem_map.2 ⟨y, hy, rfl⟩)
theorem find_congr {α : Type} {p q : α → Bool} : ∀ {l : List α}, (∀ a ∈ l, p a = q a) → l.find? p = l.find? q
  | [], _ => rfl
  | x :: l, h => by
    simp only [List.find?_cons]
    rw [h x (by simp), find_congr fun a ha => h a (by simp [ha])]
theorem findSome_congr {α β : Type} {p q : α → Option β} : ∀ {l : List α}, (∀ a ∈ l, p a = q a) → l.findSome? p = l.findSome? q
  | [], _ => rfl
  | x :: l, h => by
    simp only [List.findSome?_cons]
    rw [h x (by simp), findSome_congr fun a ha => h a (by simp [ha])]
/-- Two programs that are one but for names and places. -/
structure SimP (ss ss' : List Sy) (fs fs' : List Rou) : Prop where
  s : ss.map eraN = ss'.map eraN
  f : fs.map eraNR = fs'.map eraNR
variable {ss ss' : List Sy} {fs fs' : List Rou} {ks : List Ki}
theorem SimP.par (h : SimP ss ss' fs fs') : parms fs = parms fs' := map_via (f := eraNR) (fun x => x.1) h.f
theorem SimP.rous (h : SimP ss ss' fs fs') : (rousL ss fs).map eraNR = (rousL ss' fs').map eraNR := by
  unfold rousL
  rw [List.map_append, List.map_append, List.map_map, List.map_map, h.f]
  have := map_via (f := eraN) (fun x => x.2) h.s
  rw [show List.map (eraNR ∘ fun x => x.rou) ss = List.map (eraNR ∘ fun x => x.rou) ss' from this]
theorem SimP.sl (h : SimP ss ss' fs fs') : ss.length = ss'.length := map_len h.s
theorem SimP.fl (h : SimP ss ss' fs fs') : fs.length = fs'.length := map_len h.f
theorem SimP.at_ (h : SimP ss ss' fs fs') {n : Nat} (hn : n < ss.length + fs.length) : eraNR ((rousL ss fs)[n]!) = eraNR ((rousL ss' fs')[n]!) := map_at h.rous (by rw [List.length_append, List.length_map]; exact hn)
theorem SimP.sum (h : SimP ss ss' fs fs') (n : Nat) : sumL ((rousL ss fs).take n) = sumL ((rousL ss' fs').take n) := by
  have h1 := map_via (f := eraNR) (fun x => x.2.2.length) h.rous
  unfold sumL
  rw [List.map_take, List.map_take]
  exact congrArg (fun l => (List.take n l).sum) h1
theorem SimP.sets (h : SimP ss ss' fs fs') : setsO ks ss fs = setsO ks ss' fs' := by
  unfold setsO
  rw [← h.sl]
  have : (List.range ss.length).find? (fun i => setsBad ks (ss[i]!)) = (List.range ss.length).find? (fun i => setsBad ks (ss'[i]!)) := find_congr fun i hi => by
    have := map_at h.s (List.mem_range.1 hi)
    simp only [eraN, Prod.mk.injEq] at this
    unfold setsBad
    rw [this.1]
  rw [this]
  congr 1
  funext i
  rw [h.sum]
theorem acc_congr {nf : Nat} {sy sy' : Option Sy} {r r' : Rou} {j : Nat} (h1 : sy.map (·.l) = sy'.map (·.l)) (h2 : eraNR r = eraNR r') : accB ks nf sy r j = accB ks nf sy' r' j := by
  simp only [eraNR, Prod.mk.injEq] at h2
  obtain ⟨_, h3, h4⟩ := h2
  cases sy with
  | none =>
    cases sy' with
    | none => unfold accB; rw [h3, h4]
    | some y => cases h1
  | some x =>
    cases sy' with
    | none => cases h1
    | some y =>
      simp only [Option.map_some, Option.some.injEq] at h1
      unfold accB
      rw [h3, h4]
      dsimp only
      rw [h1]
      rfl
theorem SimP.syAt (h : SimP ss ss' fs fs') (n : Nat) : (syAt ss n).map (·.l) = (syAt ss' n).map (·.l) := by
  unfold Go.Proofs.Ytlkmmplgfjicjaa.syAt
  rw [← h.sl]
  split
  · rename_i hn
    have := map_at h.s hn
    simp only [eraN, Prod.mk.injEq] at this
    show some (ss[n]!).l = some (ss'[n]!).l
    rw [this.1]
  · rfl
theorem SimP.tI (h : SimP ss ss' fs fs') {n : Nat} (hn : n < ss.length + fs.length) : tI ks ss fs n = tI ks ss' fs' n := by
  unfold Go.Proofs.Ytlkmmplgfjicjaa.tI
  have hc := h.at_ hn
  have ht : ∀ j, tAt ks fs.length (Go.Proofs.Ytlkmmplgfjicjaa.syAt ss n) ((rousL ss fs)[n]!) j = tAt ks fs'.length (Go.Proofs.Ytlkmmplgfjicjaa.syAt ss' n) ((rousL ss' fs')[n]!) j := fun j => by
    unfold tAt
    rw [h.fl, acc_congr (h.syAt n) hc]
    simp only [eraNR, Prod.mk.injEq] at hc
    rw [hc.2.2]
  have : tR ks fs.length (Go.Proofs.Ytlkmmplgfjicjaa.syAt ss n) ((rousL ss fs)[n]!) = tR ks fs'.length (Go.Proofs.Ytlkmmplgfjicjaa.syAt ss' n) ((rousL ss' fs')[n]!) := by
    unfold tR
    simp only [eraNR, Prod.mk.injEq] at hc
    rw [hc.2.2]
    simp only [ht]
  rw [this, h.sum]
theorem SimP.touch (h : SimP ss ss' fs fs') : touchO ks ss fs = touchO ks ss' fs' := by
  unfold touchO
  rw [← h.sl, ← h.fl]
  exact findSome_congr fun n hn => h.tI (List.mem_range.1 hn)
theorem SimP.calls (h : SimP ss ss' fs fs') : callsO ss fs = callsO ss' fs' := by
  have hcode : ∀ x : Nat, (fs[x]!).code = (fs'[x]!).code := fun x => by
    by_cases hx : x < fs.length
    · have := map_at h.f hx
      simp only [eraNR, Prod.mk.injEq] at this
      exact this.2.2
    · have hx' : ¬ x < fs'.length := by rw [← h.fl]; exact hx
      rw [getElem!_neg fs x hx, getElem!_neg fs' x hx']
  have hR : CallsR fs = CallsR fs' := by
    funext x y
    unfold CallsR
    rw [hcode]
  have hB : roundB fs = roundB fs' := by
    funext f
    unfold roundB Round
    rw [hR]
  unfold callsO
  rw [hB, ← h.fl, ← h.sl]
  congr 1
  funext f
  rw [h.sum]
theorem SimP.ways (h : SimP ss ss' fs fs') : waysO ss fs = waysO ss' fs' := by
  have h1 : (List.range (ss.length + fs.length)).findSome? (wholeI ss fs) = (List.range (ss.length + fs.length)).findSome? (wholeI ss' fs') := findSome_congr fun n hn => by
    have hc := h.at_ (List.mem_range.1 hn)
    simp only [eraNR, Prod.mk.injEq] at hc
    unfold wholeI
    rw [hc.2.2, h.par, h.sum]
  have h2 : (List.range (ss.length + fs.length)).findSome? (turnI ss fs) = (List.range (ss.length + fs.length)).findSome? (turnI ss' fs') := findSome_congr fun n hn => by
    have hc := h.at_ (List.mem_range.1 hn)
    simp only [eraNR, Prod.mk.injEq] at hc
    unfold turnI
    rw [hc.2.2, h.par, h.sum]
  unfold waysO
  rw [← h.sl, ← h.fl, h1, h2]
theorem SimP.look (h : SimP ss ss' fs fs') (q : Nat) : lookO ks ss fs q = lookO ks ss' fs' q := by
  match q with
  | 0 => exact h.sets
  | 1 => exact h.touch
  | 2 => exact h.calls
  | _ + 3 => exact h.ways
def nameOk (n : ByteArray) : Bool := decide (1 ≤ n.size ∧ n.size ≤ 16)
def codeOkE (e : Int × Int × List Ins) : Bool := decide (0 ≤ e.1 ∧ e.1 ≤ 4 ∧ e.1 ≤ e.2.1 ∧ e.2.1 ≤ 32) && e.2.2.all instrOk
theorem rouOk_eq (r : Rou) : rouOk r = (nameOk r.name && codeOkE (eraNR r)) := by unfold rouOk nameOk codeOkE sizedOk; rw [Bool.and_assoc]
theorem SimP.may (h : SimP ss ss' fs fs') (hs : ∀ x ∈ ss', nameOk x.rou.name = true) (hf : ∀ x ∈ fs', nameOk x.name = true) (hm : MayP ss fs) : MayP ss' fs' := by
  obtain ⟨m1, m2, m3, m4, m5⟩ := hm
  have e1 := all_via (f := eraN) (P := fun e => (List.range 4).all (fun q => risesOk 0 (e.1 q)) = true ∧ codeOkE e.2 = true) h.s (fun x hx => ⟨(m3 x hx).1, by have := (m3 x hx).2; rw [rouOk_eq, Bool.and_eq_true] at this; exact this.2⟩)
  have e2 := all_via (f := eraNR) (P := fun e => codeOkE e = true) h.f (fun x hx => by have := m4 x hx; rw [rouOk_eq, Bool.and_eq_true] at this; exact this.2)
  refine ⟨h.sl ▸ m1, h.fl ▸ m2, fun x hx => ⟨(e1 x hx).1, by rw [rouOk_eq, hs x hx, (e1 x hx).2]; rfl⟩, fun x hx => by rw [rouOk_eq, hf x hx, e2 x hx]; rfl, ?_⟩
  have g1 := congrArg List.sum (map_via (f := eraN) (fun x => x.2.2.2.length) h.s)
  have g2 := congrArg List.sum (map_via (f := eraNR) (fun x => x.2.2.length) h.f)
  have g3 : sumL (ss.map (·.rou)) = sumL (ss'.map (·.rou)) := by unfold sumL; rw [List.map_map, List.map_map]; exact g1
  have g4 : sumL fs = sumL fs' := g2
  omega
/-- Names that may be do not matter. -/
theorem SimP.verify (h : SimP ss ss' fs fs') (hm : MayP ss fs) (hs : ∀ x ∈ ss', nameOk x.rou.name = true) (hf : ∀ x ∈ fs', nameOk x.name = true) : verifyO ks ss fs = verifyO ks ss' fs' := by
  unfold verifyO
  rw [if_pos hm, if_pos (h.may hs hf hm)]
  have : (List.range 4).findSome? (lookO ks ss fs) = (List.range 4).findSome? (lookO ks ss' fs') := findSome_congr fun q _ => h.look q
  rw [this]
theorem may_names (h : MayP ss fs) : (∀ x ∈ ss, nameOk x.rou.name = true) ∧ ∀ x ∈ fs, nameOk x.name = true :=
  ⟨fun x hx => by have := (h.2.2.1 x hx).2; rw [rouOk_eq, Bool.and_eq_true] at this; exact this.1, fun x hx => by have := h.2.2.2.1 x hx; rw [rouOk_eq, Bool.and_eq_true] at this; exact this.1⟩
theorem wr_ne {c : List Ins} {ps : List Int} {i : Nat} : wr c ps i = 0 ∨ wr c ps i = 150 ∨ wr c ps i = 151 ∨ wr c ps i = 153 := by
  unfold wr
  split
  · exact .inr (.inl rfl)
  · split
    · exact .inr (.inr (.inl rfl))
    · split
      · exact .inr (.inr (.inr rfl))
      · exact .inl rfl
theorem find_some_map {α β : Type} {l : List Nat} {p : Nat → Bool} {f : Nat → β} {y : β} (h : (l.find? p).map f = some y) : ∃ i, p i = true ∧ f i = y := by
  cases g : l.find? p with
  | none => rw [g] at h; cases h
  | some i =>
    rw [g] at h
    exact ⟨i, List.find?_some g, by simpa using h⟩
/-- A fault has a number. -/
theorem verify_ne {a e : Nat} (h : verifyO ks ss fs = some (a, e)) : e ≠ 0 := by
  unfold verifyO at h
  split at h
  · split at h
    · obtain ⟨q, hq, h⟩ := List.exists_of_findSome?_eq_some h
      have hq := List.mem_range.1 hq
      match q, hq with
      | 0, _ =>
        obtain ⟨i, _, h⟩ := find_some_map (α := Unit) (show (_ : Option Nat).map _ = some (a, e) from h)
        simp only [Prod.mk.injEq] at h; omega
      | 1, _ =>
        have h : touchO ks ss fs = some (a, e) := h
        obtain ⟨i, _, h⟩ := List.exists_of_findSome?_eq_some h
        unfold tI at h
        obtain ⟨⟨x, y⟩, hx, h⟩ := Option.map_eq_some_iff.1 h
        unfold tR at hx
        obtain ⟨i, hi, hx⟩ := find_some_map (α := Unit) hx
        simp only [Prod.mk.injEq] at hx h
        have := bne_iff_ne.1 hi
        omega
      | 2, _ =>
        obtain ⟨i, _, h⟩ := find_some_map (α := Unit) (show (_ : Option Nat).map _ = some (a, e) from h)
        simp only [Prod.mk.injEq] at h; omega
      | 3, _ =>
        have h : waysO ss fs = some (a, e) := h
        unfold waysO at h
        split at h
        · rename_i x hx
          simp only [Option.some.injEq] at h
          subst h
          obtain ⟨i, _, h⟩ := List.exists_of_findSome?_eq_some hx
          unfold wholeI at h
          split at h
          · rename_i a' e' hw
            simp only [Option.some.injEq, Prod.mk.injEq] at h
            unfold wholeS at hw
            split at hw
            · simp only [Except.error.injEq, Prod.mk.injEq] at hw; omega
            · split at hw
              · rename_i i' hf
                have this := List.find?_some hf
                have this : wr ((rousL ss fs)[i]!).code (parms fs) i' ≠ 0 := Classical.byContradiction fun g => by rw [badP_false fun h => g h.2] at this; cases this
                simp only [Except.error.injEq, Prod.mk.injEq] at hw; omega
              · cases hw
          · cases h
        · obtain ⟨i, _, h⟩ := List.exists_of_findSome?_eq_some h
          unfold turnI at h
          obtain ⟨i, _, h⟩ := find_some_map (α := Unit) h
          simp only [Prod.mk.injEq] at h; omega
    · simp only [Option.some.injEq, Prod.mk.injEq] at h; omega
  · simp only [Option.some.injEq, Prod.mk.injEq] at h; omega
theorem verify_may (h65 : ∀ a, verifyO ks ss fs ≠ some (a, 65)) (h130 : ∀ a, verifyO ks ss fs ≠ some (a, 130)) : mayK ks = true ∧ MayP ss fs := by
  unfold verifyO at h65 h130
  by_cases hk : mayK ks = true
  · rw [if_pos hk] at h130
    by_cases hm : MayP ss fs
    · exact ⟨hk, hm⟩
    · rw [if_neg hm] at h130; exact absurd rfl (h130 0)
  · rw [if_neg hk] at h65; exact absurd rfl (h65 0)
end Go.Proofs.Ytlkmmplgfjicjaa
/-
  VerifyNames.
-/
namespace Go.Proofs.Ytlkmmplgfjicjaa
set_option linter.unusedVariables false
set_option linter.unusedSimpArgs false
open Go.Proofs.Ytlkmmplgfjicjaa.Hc Go.Proofs.Ytlkmmplgfjicjaa.Hc.Vf
set_option maxRecDepth 100000
variable {H : Heap}

theorem flat_set {α : Type} {f : α → List Value} {n : Nat} (hf : ∀ e, (f e).length = n) {e' : α} {o : Nat} {v : Value} : ∀ {es : List α} {i : Nat} (hi : i < es.length), o < n → f e' = (f es[i]).set o v → (es.flatMap f).set (i * n + o) v = (es.set i e').flatMap f
  | e :: es, 0, _, ho, he => by
    simp only [List.flatMap_cons, List.set_cons_zero, Nat.zero_mul, Nat.zero_add]
    rw [List.set_append_left _ _ (by rw [hf]; exact ho)]
    rw [he]; rfl
  | e :: es, i + 1, hi, ho, he => by
    simp only [List.flatMap_cons, List.set_cons_succ]
    have e1 : (i + 1) * n + o = (f e).length + (i * n + o) := by rw [hf, Nat.add_mul]; omega
    rw [e1, List.set_append_right _ _ (by omega), Nat.add_sub_cancel_left, flat_set hf (es := es) (by simpa using hi) ho he]
theorem St_vecN {T : TypeId} {n : Nat} {s : Sl} {vs : List Value} (h : VecN H T n s vs) {b : Nat} (hb : s.a = some (adr b)) {m : Nat} (hm : m < vs.length) {v : Value} {k : Heap → Prop} (hk : ∀ H', VecN H' T n s (vs.set m v) → Upd (· = b) H H' → H'.size = H.size → k H') : St ⟨b, m, none⟩ v H k := by
  rcases h.own with ⟨g, _⟩ | ⟨c, sp, g1, g2, g3⟩
  · rw [g] at hb; cases hb
  · rw [g1] at hb; cases hb
    refine St_row g2 (by rw [List.length_append]; omega) fun H' hU hz hr => hk H' ⟨by rw [List.length_set]; exact h.len, .inr ⟨b, sp, g1, ?_, by rw [List.length_set]; exact g3⟩, h.lc⟩ hU hz
    rwa [List.set_append_left _ _ hm] at hr
/-- An element's cell is written. -/
theorem IxA_St_elem {α : Type} {f : α → List Value} {n : Nat} (hf : ∀ e, (f e).length = n) (hn : 0 < n) {T : TypeId} {s : Sl} {xs : List α} {y e' : α} (h : VecN H T n ⟨s.a, xs.length + 1, s.cap⟩ ((xs ++ [y]).flatMap f)) (hl : s.len = xs.length) {i : Nat} (hi : i < xs.length) {o : Nat} (ho : o < n) {v : Value} (he : f e' = (f xs[i]).set o v) {k : Heap → Prop}
    (hk : ∀ b H', s.a = some (adr b) → Upd (· = b) H H' → H'.size = H.size → VecN H' T n ⟨s.a, (xs.set i e').length + 1, s.cap⟩ ((xs.set i e' ++ [y]).flatMap f) → k H') : IxA n s (i : Nat) fun a => St (a.add o) v H k := by
  obtain ⟨b, hb⟩ : ∃ b, s.a = some (adr b) := by
    rcases h.own with ⟨g1, g2, g3⟩ | ⟨b, sp, g1, g2, g3⟩
    · have := congrArg List.length g3
      rw [flat_len hf] at this
      simp only [List.length_append, List.length_cons, List.length_nil] at this
      have : 0 < (xs.length + (0 + 1)) * n := Nat.mul_pos (by omega) hn
      omega
    · exact ⟨b, g1⟩
  refine IxA.mk hb (by omega) (by omega) ?_
  rw [Int.toNat_natCast, adr_add, mk_add]
  have hm : i * n + o < ((xs ++ [y]).flatMap f).length := by
    rw [flat_len hf, List.length_append, List.length_singleton]
    have : (i + 1) * n ≤ (xs.length + 1) * n := Nat.mul_le_mul_right n (by omega)
    rw [Nat.add_mul] at this; omega
  refine St_vecN h hb hm fun H' hv hU hz => hk b H' hb hU hz ?_
  rw [flat_set hf (e' := e') (by rw [List.length_append]; omega) ho (by rw [List.getElem_append_left hi]; exact he)] at hv
  rw [List.length_set, ← List.set_append_left _ _ hi]
  exact hv
def nmS (x : Sy) (nm : ByteArray) : Sy := ⟨x.s, x.l, ⟨nm, x.rou.params, x.rou.locals, x.rou.sl, x.rou.code⟩⟩
def nmR (x : Rou) (nm : ByteArray) : Rou := ⟨nm, x.params, x.locals, x.sl, x.code⟩
variable {q : Sl × Sl} {ss : List Sy} {fs : List Rou} {yb : Sy} {fb : Rou}
theorem lent_nameS (h : LentP H q ss fs yb fb) {i : Nat} (hi : i < ss.length) {nm : ByteArray} {k : Heap → Prop}
    (hk : ∀ H', Upd (fun b => q.1.a = some (adr b)) H H' → (∀ b T ws, Row H b T ws → T ≠ T_api_System → Row H' b T ws) → LentP H' q (ss.set i (nmS ss[i] nm)) fs yb fb → k H') : IxA 8 q.1 (i : Nat) fun a => St (a.add 4) (.string nm) H k := by
  refine IxA_St_elem sysV_len (by omega) h.sv h.sl hi (e' := nmS ss[i] nm) (o := 4) (by omega) rfl fun b H' hb hU hz hv => ?_
  obtain ⟨ws0, hw0⟩ := VecN.row h.sv hb
  have hne : ∀ c T ws, Row H c T ws → T ≠ T_api_System → ¬ c = b := fun c T ws hw hT => hw.ne hw0 hT
  refine hk H' (hU.mono fun c _ e => e ▸ hb) (fun c T ws hw hT => hU.row hw (hne c T ws hw hT)) ⟨hv, by rw [List.length_set]; exact h.sl, VecN.updT hU h.fv fun c ws hw => hne c _ ws hw (by decide), h.fl, fun x hx => ?_, fun r hr => (h.fn r hr).updT hU fun c ws hw => hne c _ ws hw (by decide), Vec.updT hU h.yb fun c ws hw => hne c _ ws hw (by decide), h.fb⟩
  have hold : ∀ y ∈ ss, LSy H' y := fun y hy => (h.sy y hy).updT hU (fun c ws hw => hne c _ ws hw (by decide)) fun c ws hw => hne c _ ws hw (by decide)
  rcases List.mem_or_eq_of_mem_set hx with g | g
  · exact hold x g
  · subst g
    have := hold ss[i] (List.getElem_mem hi)
    exact ⟨this.set, this.row⟩
theorem lent_nameF (h : LentP H q ss fs yb fb) {i : Nat} (hi : i < fs.length) {nm : ByteArray} {k : Heap → Prop}
    (hk : ∀ H', Upd (fun b => q.2.a = some (adr b)) H H' → (∀ b T ws, Row H b T ws → T ≠ T_api_Routine → Row H' b T ws) → LentP H' q ss (fs.set i (nmR fs[i] nm)) yb fb → k H') : IxA 4 q.2 (i : Nat) fun a => St a (.string nm) H k := by
  have := IxA_St_elem (k := k) rouV_len (by omega) h.fv h.fl hi (e' := nmR fs[i] nm) (o := 0) (v := .string nm) (by omega) rfl fun b H' hb hU hz hv => by
    obtain ⟨ws0, hw0⟩ := VecN.row h.fv hb
    have hne : ∀ c T ws, Row H c T ws → T ≠ T_api_Routine → ¬ c = b := fun c T ws hw hT => hw.ne hw0 hT
    refine hk H' (hU.mono fun c _ e => e ▸ hb) (fun c T ws hw hT => hU.row hw (hne c T ws hw hT)) ⟨VecN.updT hU h.sv fun c ws hw => hne c _ ws hw (by decide), h.sl, hv, by rw [List.length_set]; exact h.fl, fun x hx => (h.sy x hx).updT hU (fun c ws hw => hne c _ ws hw (by decide)) fun c ws hw => hne c _ ws hw (by decide), fun x hx => ?_, Vec.updT hU h.yb fun c ws hw => hne c _ ws hw (by decide), h.fb⟩
    have hold : ∀ y ∈ fs, LRow H' y.sl y.code := fun y hy => (h.fn y hy).updT hU fun c ws hw => hne c _ ws hw (by decide)
    rcases List.mem_or_eq_of_mem_set hx with g | g
    · exact hold x g
    · subst g
      exact hold fs[i] (List.getElem_mem hi)
  obtain ⟨a, h1, h2, h3, h4⟩ := this
  rw [add_zero] at h4
  exact ⟨a, h1, h2, h3, h4⟩
theorem set_same {α β : Type} {f : α → β} {xs : List α} {i : Nat} (hi : i < xs.length) {y : α} (h : f y = f xs[i]) : (xs.set i y).map f = xs.map f := by
  rw [List.map_set, h]
  have : f xs[i] = (xs.map f)[i]'(by simpa using hi) := by simp
  rw [this, List.set_getElem_self]
theorem set_nmS {xs : List Sy} {i : Nat} (hi : i < xs.length) (nm : ByteArray) : (xs.set i (nmS xs[i] nm)).map eraN = xs.map eraN := set_same hi (show eraN (nmS xs[i] nm) = eraN xs[i] from rfl)
theorem set_nmR {xs : List Rou} {i : Nat} (hi : i < xs.length) (nm : ByteArray) : (xs.set i (nmR xs[i] nm)).map eraNR = xs.map eraNR := set_same hi (show eraNR (nmR xs[i] nm) = eraNR xs[i] from rfl)
theorem all_set {α : Type} {P : α → Prop} {xs : List α} {i : Nat} {y : α} (h : ∀ x ∈ xs, P x) (hy : P y) : ∀ x ∈ xs.set i y, P x := fun x hx => by
  rcases List.mem_or_eq_of_mem_set hx with g | rfl
  · exact h x g
  · exact hy
theorem lens_of {ss ss' : List Sy} {fs fs' : List Rou} (hs : SimP ss ss' fs fs') {H0 : Heap} {p : Sl × Sl} (hP : PrgI H0 p ss fs) : (∀ x ∈ ss', (∀ q, q < 4 → (x.l q).length ≤ 2 ^ 60) ∧ x.rou.code.length ≤ 2 ^ 60) ∧ ∀ r ∈ fs', r.code.length ≤ 2 ^ 60 :=
  ⟨all_via (f := eraN) (P := fun e => (∀ q, q < 4 → (e.1 q).length ≤ 2 ^ 60) ∧ e.2.2.2.length ≤ 2 ^ 60) hs.s fun x hx => ⟨fun q hq => by have := (hP.sysR x hx).lens q hq; show (x.l q).length ≤ _; omega, by have := (hP.sysR x hx).rou.len; show x.rou.code.length ≤ _; omega⟩,
   all_via (f := eraNR) (P := fun e => e.2.2.length ≤ 2 ^ 60) hs.f fun x hx => by have := (hP.funR x hx).len; show x.code.length ≤ _; omega⟩
theorem foI_true {o : Option (Nat × Nat)} (h : ∀ a e, o = some (a, e) → e ≠ 0) : (foI o).2.2 = true := by
  cases o with
  | none => rfl
  | some ae =>
    have := h ae.1 ae.2 rfl
    show ((ae.2 : Int) != 0) = true
    rw [bne_iff_ne]; omega
theorem s_VerifyNames {p : Sl × Sl} {ksl : Sl} {ks : List Ki} {ss : List Sy} {fs : List Rou} (hP : PrgI H p ss fs) (hK : KdsR H ksl ks) {nm : ByteArray} (hnm : nm.size ≤ 2 ^ 60) {k : Bool → Heap → Prop} (hk : ∀ H', Ext H H' → k true H') :
    CallT Pg f_hindcastlaw15_VerifyNames [prgA p, .slice ksl.a ksl.len ksl.cap, .string nm] (.one (.c .bool)) H k := by
  refine c_hindcastlaw15_VerifyNames p _ _ ?_
  unfold v_hindcastlaw15_VerifyNames
  refine Nw_row (vs := [slV p.1, slV p.2]) fun b1 H1 hb1 hE1 _ hr1 => s_shown fun H2 hE2 => ?_
  have hE2' := hE1.trans hE2 fun _ _ h => h
  have hp2 := hE2.row hr1 fun h => h
  simp only [adr_add]
  refine ⟨p, hp2.rd_all, s_Verify (hP.prg.ext hE2') (hK.ext hE2') hP.par fun v H3 hE3 hv => s_lfault hv ?_⟩
  have hE3' := hE2'.trans hE3 fun _ _ h => h
  have hp3 := hE3.row hp2 fun h => h
  have hsl := hP.sys.len
  have hfl := hP.fun'.len
  have hsn := hP.sl
  have hfn := hP.fl
  have ht : (foI (verifyO ks ss fs)).2.2 = true := foI_true fun a e h => verify_ne h
  generalize ho : verifyO ks ss fs = o at *
  refine Jn.mk (fun j H' => H3 = H' ∧ (j = false → (foI o).2.1 ≠ 65 ∧ (foI o).2.1 ≠ 130 ∧ 0 < ss.length + fs.length)) (fun kk hkk => ?_) ?_
  · refine (Br_false _ _).2 ?_
    rw [ht]
    refine (Br_false _ _).2 (Br.mk (fun _ => hkk _ _ ⟨rfl, fun h => by cases h⟩) fun g1 => Br.mk (fun _ => hkk _ _ ⟨rfl, fun h => by cases h⟩) fun g2 => ?_)
    refine Ld_sl (s := p.1) ((hp3.cell 0).trans rfl) (Ld_sl (s := p.2) ((hp3.cell 1).trans rfl) (Lt.mk (u := ((ss.length + fs.length : Nat) : Int)) (by rw [wrap_i64_id] <;> omega) (hkk _ _ ⟨rfl, fun h => ⟨bneI g1, bneI g2, ?_⟩⟩)))
    have := bneI h
    omega
  rintro j _ ⟨rfl, hj⟩
  refine Br.mk (fun _ => Jn_in ((Br_true _ _).2 (by rw [ht]; exact hk _ hE3'))) fun hjf => ?_
  obtain ⟨g65, g130, hpos⟩ := hj hjf
  obtain ⟨hmk, hmp⟩ := verify_may (ks := ks) (ss := ss) (fs := fs) (fun a h => by rw [ho] at h; subst h; exact g65 rfl) fun a h => by rw [ho] at h; subst h; exact g130 rfl
  obtain ⟨hns, hnf⟩ := may_names hmp
  refine ⟨p, hp3.rd_all, s_lent (p := p) (ss := ss) (fs := fs) ⟨(hP.prg.ext hE3').sys, fun x hx => ?_, (hP.prg.ext hE3').fun', fun r hr => ?_, hP.sl, hP.fl⟩ fun q ss1 fs1 yb fb H7 hE7 hL7 hlo he1 he2 => ?_⟩
  · have h := hP.sysR x hx
    exact ⟨fun q hq => (h.sets q hq).ext hE3', h.lens, h.ints, ⟨h.rou.code.ext hE3', h.rou.len, h.rou.par, h.rou.loc, h.rou.ins, h.rou.name⟩⟩
  · have h := hP.funR r hr
    exact ⟨h.code.ext hE3', h.len, h.par, h.loc, h.ins, h.name⟩
  have hE7' := hE3'.trans hE7 fun _ _ h => h
  have hl1 := map_len he1
  have hl2 := map_len he2
  have hsim1 : SimP ss ss1 fs fs1 := ⟨(map_via (f := eraS) (fun e => (e.1, e.2.2)) he1).symm, (map_via (f := eraR) (fun e => e.2) he2).symm⟩
  have hns1 : ∀ x ∈ ss1, nameOk x.rou.name = true := all_via (f := eraS) (P := fun e => nameOk e.2.1 = true) he1.symm hns
  have hnf1 : ∀ x ∈ fs1, nameOk x.name = true := all_via (f := eraR) (P := fun e => nameOk e.1 = true) he2.symm hnf
  refine prog_copy (p := q) fun b2 H10 hb2 hE10 hq10 => ?_
  have z7 := hE7.size
  have z3 := hE3'.size
  have hlo1 : ∀ b, q.1.a = some (adr b) → H.size ≤ b := fun b hb => by have := hlo b (.inl hb); omega
  have hlo2 : ∀ b, q.2.a = some (adr b) → H.size ≤ b := fun b hb => by have := hlo b (.inr hb); omega
  refine LoopT.mk (fun (i : Int) H' => ∃ (n : Nat) (s2 : List Sy), i = n ∧ n ≤ ss.length ∧ Ext H H' ∧ Row H' b2 T_api_Program [slV q.1, slV q.2] ∧ LentP H' q s2 fs1 yb fb ∧ SimP ss s2 fs fs1 ∧ ∀ x ∈ s2, nameOk x.rou.name = true) (fun i _ => ss.length - i.toNat)
    ⟨0, ss1, rfl, Nat.zero_le _, hE7'.trans hE10 fun _ _ h => h, hq10, hL7.ext hE10, hsim1, hns1⟩ ?_
  rintro next _ H11 ⟨n, s2, rfl, hn, hE11, hq11, hL11, hsim, hok⟩ hnext
  have hq1l := hL11.sl
  have hsl2 := hsim.sl
  refine Ld_sl (s := q.1) ((hq11.cell 0).trans rfl) (Br_dec (fun hlt => ?_) fun hge => ?_)
  · have hn3 : n < s2.length := by omega
    refine Ld_sl (s := q.1) ((hq11.cell 0).trans rfl) (lent_nameS hL11 hn3 fun H12 hU12 hkeep hL12 => ?_)
    refine Lt.mk (u := ((n + 1 : Nat) : Int)) (by rw [wrap_i64_id] <;> omega) (hnext _ _ ⟨n + 1, _, rfl, by omega, hE11.trans hU12 fun b hb e => by have := hlo1 b e; omega, hkeep _ _ _ hq11 (by decide), hL12, ⟨?_, hsim.f⟩, all_set hok (show nameOk ⟨#[111, 116, 104, 101, 114]⟩ = true by decide)⟩ (by omega))
    exact hsim.s.trans (set_nmS hn3 _).symm
  · refine LoopT.mk (fun (i : Int) H' => ∃ (n : Nat) (f2 : List Rou), i = n ∧ n ≤ fs.length ∧ Ext H H' ∧ Row H' b2 T_api_Program [slV q.1, slV q.2] ∧ LentP H' q s2 f2 yb fb ∧ SimP ss s2 fs f2 ∧ ∀ x ∈ f2, nameOk x.name = true) (fun i _ => fs.length - i.toNat)
      ⟨0, fs1, rfl, Nat.zero_le _, hE11, hq11, hL11, hsim, hnf1⟩ ?_
    rintro next2 _ H13 ⟨m, f2, rfl, hm, hE13, hq13, hL13, hsim3, hokf⟩ hnext2
    have hq2l := hL13.fl
    have hfl2 := hsim3.fl
    refine Ld_sl (s := q.2) ((hq13.cell 1).trans rfl) (Br_dec (fun hlt2 => ?_) fun hge2 => ?_)
    · have hm3 : m < f2.length := by omega
      refine Ld_sl (s := q.2) ((hq13.cell 1).trans rfl) (lent_nameF hL13 hm3 fun H14 hU14 hkeep hL14 => ?_)
      refine Lt.mk (u := ((m + 1 : Nat) : Int)) (by rw [wrap_i64_id] <;> omega) (hnext2 _ _ ⟨m + 1, _, rfl, by omega, hE13.trans hU14 fun b hb e => by have := hlo2 b e; omega, hkeep _ _ _ hq13 (by decide), hL14, ⟨hsim3.s, ?_⟩, all_set hokf (show nameOk ⟨#[120]⟩ = true by decide)⟩ (by omega))
      exact hsim3.f.trans (set_nmR hm3 _).symm
    · have hver := hsim3.verify (ks := ks) hmp hok hokf
      rw [ho] at hver
      obtain ⟨hle1, hle2⟩ := lens_of hsim3 hP
      refine ⟨q, hq13.rd_all, s_Verify (hL13.prg hle1 hle2) (hK.ext hE13) (hsim3.par ▸ hP.par) fun v2 H15 hE15 hv2 => ?_⟩
      rw [← hver] at hv2
      refine s_lfault hv2 (Jn.mk (fun j H' => H15 = H' ∧ j = false) (fun kk hkk => ?_) ?_)
      · rw [ht]
        refine (Br_false _ _).2 ?_
        rw [show ((foI o).1 != (foI o).1) = false by simp, show ((foI o).2.1 != (foI o).2.1) = false by simp]
        exact (Br_false _ _).2 (hkk _ _ ⟨rfl, rfl⟩)
      rintro _ _ ⟨rfl, rfl⟩
      have hE15' := hE13.trans hE15 fun _ _ h => h
      have hq15 := hE15.row hq13 fun h => h
      have hL15 := hL13.ext hE15
      refine (Br_false _ _).2 (Ld_sl (s := q.1) ((hq15.cell 0).trans rfl) ?_)
      refine Jn.mk (fun _ H' => ∃ (s3 : List Sy) (f3 : List Rou), Ext H H' ∧ Row H' b2 T_api_Program [slV q.1, slV q.2] ∧ LentP H' q s3 f3 yb fb ∧ SimP ss s3 fs f3 ∧ ((∀ x ∈ s3, nameOk x.rou.name = true) ∧ (∀ x ∈ f3, nameOk x.name = true) ↔ nameOk nm = true)) (fun kk hkk => Br_dec (fun g => ?_) fun g => ?_) ?_
      · have hp0 : 0 < s2.length := by omega
        refine Ld_sl (s := q.1) ((hq15.cell 0).trans rfl) (lent_nameS (i := 0) hL15 hp0 fun H19 hU19 hkeep hL19 => hkk _ _ ⟨_, f2, hE15'.trans hU19 fun b hb e => by have := hlo1 b e; omega, hkeep _ _ _ hq15 (by decide), hL19, ⟨?_, hsim3.f⟩, fun h => ?_, fun h => ⟨all_set hok h, hokf⟩⟩)
        · exact hsim3.s.trans (set_nmS hp0 _).symm
        · exact h.1 (nmS s2[0] nm) (List.mem_set hp0 _)
      · have hp0 : 0 < f2.length := by omega
        refine Ld_sl (s := q.2) ((hq15.cell 1).trans rfl) (lent_nameF (i := 0) hL15 hp0 fun H19 hU19 hkeep hL19 => hkk _ _ ⟨s2, _, hE15'.trans hU19 fun b hb e => by have := hlo2 b e; omega, hkeep _ _ _ hq15 (by decide), hL19, ⟨hsim3.s, ?_⟩, fun h => ?_, fun h => ⟨hok, all_set hokf h⟩⟩)
        · exact hsim3.f.trans (set_nmR hp0 _).symm
        · exact h.2 (nmR f2[0] nm) (List.mem_set hp0 _)
      rintro _ H18 ⟨s3, f3, hE18, hq18, hL18, hsim4, hiff⟩
      obtain ⟨hle3, hle4⟩ := lens_of hsim4 hP
      refine ⟨q, hq18.rd_all, s_Verify (hL18.prg hle3 hle4) (hK.ext hE18) (hsim4.par ▸ hP.par) fun v3 H21 hE21 hv3 => s_lfault hv3 ?_⟩
      have hE21' := hE18.trans hE21 fun _ _ h => h
      refine Jn.mk (fun j H' => H21 = H' ∧ j = !nameOk nm) (fun kk hkk => Br_dec (fun g => hkk _ _ ⟨rfl, ?_⟩) fun g => hkk _ _ ⟨rfl, ?_⟩) ?_
      · have : nameOk nm = false := decide_eq_false (by omega)
        rw [this]; rfl
      · unfold nameOk
        rw [Bool.eq_iff_iff, decide_eq_true_eq, Bool.not_eq_true', decide_eq_false_iff_not]; omega
      rintro _ _ ⟨rfl, rfl⟩
      refine Br_not (Br.mk (fun g => ?_) fun g => ?_)
      · obtain ⟨k1, k2⟩ := hiff.2 g
        have := hsim4.verify (ks := ks) hmp k1 k2
        rw [← this, ho, ht]
        refine Jn_in ((Br_true _ _).2 ?_)
        rw [show ((foI o).1 == (foI o).1) = true by simp, show ((foI o).2.1 == (foI o).2.1) = true by simp]
        exact (Br_true _ _).2 (hk _ hE21')
      · have hno : ¬ MayP s3 f3 := fun h => by
          have := hiff.1 (may_names h)
          rw [this] at g; cases g
        have : verifyO ks s3 f3 = some (0, 130) := by unfold verifyO; rw [if_pos hmk, if_neg hno]
        rw [this]
        exact Jn_in ((Br_true _ _).2 ((Br_true _ _).2 (hk _ hE21')))
theorem w_VerifyNames {H : Heap} (v0 v1 v2 : Value) (r0 : RdV Try.prog H 25 v0) (r1 : RdV Try.prog H 49 v1) (r2 : RdV Try.prog H 9 v2) :
    CallT Try.prog 5 [v0, v1, v2] (.one (.c .bool)) H (fun b H' => b = true ∧ Ext H H') := by
  obtain ⟨p, ss, fs, rfl, hP⟩ := rd_prog r0
  obtain ⟨ksl, ks, rfl, hK⟩ := rd_kinds r1
  obtain ⟨f, hc⟩ := rd_cell Try.underlying9 rfl r2
  obtain ⟨n, e, hn⟩ := rdC_string Try.underlying9 hc
  simp only [List.cons.injEq, and_true] at e
  subst e
  have := reach47
  exact s_VerifyNames hP hK (by omega) fun H' h => ⟨rfl, h⟩
end Go.Proofs.Ytlkmmplgfjicjaa
