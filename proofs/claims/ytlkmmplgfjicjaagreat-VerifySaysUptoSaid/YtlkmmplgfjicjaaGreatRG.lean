/-
  What is said does not look at names or places: the plain part.
-/
import Derived.Test.YtlkmmplgfjicjaaGreatWMx
namespace Go.Proofs.YtlkmmplgfjicjaaGreat
set_option linter.unusedVariables false
set_option linter.unusedSimpArgs false
open Go.Proofs.YtlkmmplgfjicjaaGreat.Hc Go.Proofs.YtlkmmplgfjicjaaGreat.Hc.Vf
set_option maxRecDepth 100000
variable {H : Heap}

abbrev eraNR (r : Rou) : Int × Int × List Ins := (r.params, r.locals, r.code)
abbrev eraN (x : Sy) : (Nat → List Int) × Int × Int × List Ins := (x.l, eraNR x.rou)
theorem map_at {α β : Type} [Inhabited α] {f : α → β} {xs ys : List α} (h : xs.map f = ys.map f) {i : Nat} (hi : i < xs.length) : f (xs[i]!) = f (ys[i]!) := by
  have hl : xs.length = ys.length := by simpa using congrArg List.length h
  have := congrArg (fun l => l[i]?) h
  simp only [List.getElem?_map, List.getElem?_eq_getElem hi, List.getElem?_eq_getElem (show i < ys.length by omega), Option.map_some, Option.some.injEq] at this
  rw [getElem!_pos xs i hi, getElem!_pos ys i (by omega)]
  exact this
theorem map_len {α β : Type} {f : α → β} {xs ys : List α} (h : xs.map f = ys.map f) : xs.length = ys.length := by simpa using congrArg List.length h
theorem map_via {α β γ : Type} {f : α → β} (g : β → γ) {xs ys : List α} (h : xs.map f = ys.map f) : xs.map (fun x => g (f x)) = ys.map fun x => g (f x) := by
  have := congrArg (List.map g) h
  rw [List.map_map, List.map_map] at this
  exact this
theorem all_via {α β : Type} {f : α → β} {P : β → Prop} {xs ys : List α} (h : xs.map f = ys.map f) (ha : ∀ x ∈ xs, P (f x)) : ∀ y ∈ ys, P (f y) := by
  have h1 : ∀ z ∈ xs.map f, P z := fun z hz => by obtain ⟨x, hx, rfl⟩ := List.mem_map.1 hz; exact ha x hx
  rw [h] at h1
  exact fun y hy => h1 _ (List.mem_map.2 ⟨y, hy, rfl⟩)
theorem find_congr {α : Type} {p q : α → Bool} : ∀ {l : List α}, (∀ a ∈ l, p a = q a) → l.find? p = l.find? q
  | [], _ => rfl
  | x :: l, h => by
    simp only [List.find?_cons]
    rw [h x (by simp), find_congr fun a ha => h a (by simp [ha])]
theorem findSome_congr {α β : Type} {p q : α → Option β} : ∀ {l : List α}, (∀ a ∈ l, p a = q a) → l.findSome? p = l.findSome? q
  | [], _ => rfl
  | x :: l, h => by
    simp only [List.findSome?_cons]
    rw [h x (by simp), findSome_congr fun a ha => h a (by simp [ha])]
/-- Two programs that are one but for names and places. -/
structure SimP (ss ss' : List Sy) (fs fs' : List Rou) : Prop where
  s : ss.map eraN = ss'.map eraN
  f : fs.map eraNR = fs'.map eraNR
variable {ss ss' : List Sy} {fs fs' : List Rou} {ks : List Ki}
theorem SimP.par (h : SimP ss ss' fs fs') : parms fs = parms fs' := map_via (f := eraNR) (fun x => x.1) h.f
theorem SimP.rous (h : SimP ss ss' fs fs') : (rousL ss fs).map eraNR = (rousL ss' fs').map eraNR := by
  unfold rousL
  rw [List.map_append, List.map_append, List.map_map, List.map_map, h.f]
  have := map_via (f := eraN) (fun x => x.2) h.s
  rw [show List.map (eraNR ∘ fun x => x.rou) ss = List.map (eraNR ∘ fun x => x.rou) ss' from this]
theorem SimP.sl (h : SimP ss ss' fs fs') : ss.length = ss'.length := map_len h.s
theorem SimP.fl (h : SimP ss ss' fs fs') : fs.length = fs'.length := map_len h.f
theorem SimP.at_ (h : SimP ss ss' fs fs') {n : Nat} (hn : n < ss.length + fs.length) : eraNR ((rousL ss fs)[n]!) = eraNR ((rousL ss' fs')[n]!) := map_at h.rous (by rw [List.length_append, List.length_map]; exact hn)
theorem SimP.sum (h : SimP ss ss' fs fs') (n : Nat) : sumL ((rousL ss fs).take n) = sumL ((rousL ss' fs').take n) := by
  have h1 := map_via (f := eraNR) (fun x => x.2.2.length) h.rous
  unfold sumL
  rw [List.map_take, List.map_take]
  exact congrArg (fun l => (List.take n l).sum) h1
theorem SimP.sets (h : SimP ss ss' fs fs') : setsO ks ss fs = setsO ks ss' fs' := by
  unfold setsO
  rw [← h.sl]
  have : (List.range ss.length).find? (fun i => setsBad ks (ss[i]!)) = (List.range ss.length).find? (fun i => setsBad ks (ss'[i]!)) := find_congr fun i hi => by
    have := map_at h.s (List.mem_range.1 hi)
    simp only [eraN, Prod.mk.injEq] at this
    unfold setsBad
    rw [this.1]
  rw [this]
  congr 1
  funext i
  rw [h.sum]
theorem acc_congr {nf : Nat} {sy sy' : Option Sy} {r r' : Rou} {j : Nat} (h1 : sy.map (·.l) = sy'.map (·.l)) (h2 : eraNR r = eraNR r') : accB ks nf sy r j = accB ks nf sy' r' j := by
  simp only [eraNR, Prod.mk.injEq] at h2
  obtain ⟨_, h3, h4⟩ := h2
  cases sy with
  | none =>
    cases sy' with
    | none => unfold accB; rw [h3, h4]
    | some y => cases h1
  | some x =>
    cases sy' with
    | none => cases h1
    | some y =>
      simp only [Option.map_some, Option.some.injEq] at h1
      unfold accB
      rw [h3, h4]
      dsimp only
      rw [h1]
      rfl
theorem SimP.syAt (h : SimP ss ss' fs fs') (n : Nat) : (syAt ss n).map (·.l) = (syAt ss' n).map (·.l) := by
  unfold Go.Proofs.YtlkmmplgfjicjaaGreat.syAt
  rw [← h.sl]
  split
  · rename_i hn
    have := map_at h.s hn
    simp only [eraN, Prod.mk.injEq] at this
    show some (ss[n]!).l = some (ss'[n]!).l
    rw [this.1]
  · rfl
theorem SimP.tI (h : SimP ss ss' fs fs') {n : Nat} (hn : n < ss.length + fs.length) : tI ks ss fs n = tI ks ss' fs' n := by
  unfold Go.Proofs.YtlkmmplgfjicjaaGreat.tI
  have hc := h.at_ hn
  have ht : ∀ j, tAt ks fs.length (Go.Proofs.YtlkmmplgfjicjaaGreat.syAt ss n) ((rousL ss fs)[n]!) j = tAt ks fs'.length (Go.Proofs.YtlkmmplgfjicjaaGreat.syAt ss' n) ((rousL ss' fs')[n]!) j := fun j => by
    unfold tAt
    rw [h.fl, acc_congr (h.syAt n) hc]
    simp only [eraNR, Prod.mk.injEq] at hc
    rw [hc.2.2]
  have : tR ks fs.length (Go.Proofs.YtlkmmplgfjicjaaGreat.syAt ss n) ((rousL ss fs)[n]!) = tR ks fs'.length (Go.Proofs.YtlkmmplgfjicjaaGreat.syAt ss' n) ((rousL ss' fs')[n]!) := by
    unfold tR
    simp only [eraNR, Prod.mk.injEq] at hc
    rw [hc.2.2]
    simp only [ht]
  rw [this, h.sum]
theorem SimP.touch (h : SimP ss ss' fs fs') : touchO ks ss fs = touchO ks ss' fs' := by
  unfold touchO
  rw [← h.sl, ← h.fl]
  exact findSome_congr fun n hn => h.tI (List.mem_range.1 hn)
theorem SimP.calls (h : SimP ss ss' fs fs') : callsO ss fs = callsO ss' fs' := by
  have hcode : ∀ x : Nat, (fs[x]!).code = (fs'[x]!).code := fun x => by
    by_cases hx : x < fs.length
    · have := map_at h.f hx
      simp only [eraNR, Prod.mk.injEq] at this
      exact this.2.2
    · have hx' : ¬ x < fs'.length := by rw [← h.fl]; exact hx
      rw [getElem!_neg fs x hx, getElem!_neg fs' x hx']
  have hR : CallsR fs = CallsR fs' := by
    funext x y
    unfold CallsR
    rw [hcode]
  have hB : roundB fs = roundB fs' := by
    funext f
    unfold roundB Round
    rw [hR]
  unfold callsO
  rw [hB, ← h.fl, ← h.sl]
  congr 1
  funext f
  rw [h.sum]
theorem SimP.ways (h : SimP ss ss' fs fs') : waysO ss fs = waysO ss' fs' := by
  have h1 : (List.range (ss.length + fs.length)).findSome? (wholeI ss fs) = (List.range (ss.length + fs.length)).findSome? (wholeI ss' fs') := findSome_congr fun n hn => by
    have hc := h.at_ (List.mem_range.1 hn)
    simp only [eraNR, Prod.mk.injEq] at hc
    unfold wholeI
    rw [hc.2.2, h.par, h.sum]
  have h2 : (List.range (ss.length + fs.length)).findSome? (turnI ss fs) = (List.range (ss.length + fs.length)).findSome? (turnI ss' fs') := findSome_congr fun n hn => by
    have hc := h.at_ (List.mem_range.1 hn)
    simp only [eraNR, Prod.mk.injEq] at hc
    unfold turnI
    rw [hc.2.2, h.par, h.sum]
  unfold waysO
  rw [← h.sl, ← h.fl, h1, h2]
theorem SimP.look (h : SimP ss ss' fs fs') (q : Nat) : lookO ks ss fs q = lookO ks ss' fs' q := by
  match q with
  | 0 => exact h.sets
  | 1 => exact h.touch
  | 2 => exact h.calls
  | _ + 3 => exact h.ways
def nameOk (n : ByteArray) : Bool := decide (1 ≤ n.size ∧ n.size ≤ 16)
def codeOkE (e : Int × Int × List Ins) : Bool := decide (0 ≤ e.1 ∧ e.1 ≤ 4 ∧ e.1 ≤ e.2.1 ∧ e.2.1 ≤ 32) && e.2.2.all instrOk
theorem rouOk_eq (r : Rou) : rouOk r = (nameOk r.name && codeOkE (eraNR r)) := by unfold rouOk nameOk codeOkE sizedOk; rw [Bool.and_assoc]
theorem SimP.may (h : SimP ss ss' fs fs') (hs : ∀ x ∈ ss', nameOk x.rou.name = true) (hf : ∀ x ∈ fs', nameOk x.name = true) (hm : MayP ss fs) : MayP ss' fs' := by
  obtain ⟨m1, m2, m3, m4, m5⟩ := hm
  have e1 := all_via (f := eraN) (P := fun e => (List.range 4).all (fun q => risesOk 0 (e.1 q)) = true ∧ codeOkE e.2 = true) h.s (fun x hx => ⟨(m3 x hx).1, by have := (m3 x hx).2; rw [rouOk_eq, Bool.and_eq_true] at this; exact this.2⟩)
  have e2 := all_via (f := eraNR) (P := fun e => codeOkE e = true) h.f (fun x hx => by have := m4 x hx; rw [rouOk_eq, Bool.and_eq_true] at this; exact this.2)
  refine ⟨h.sl ▸ m1, h.fl ▸ m2, fun x hx => ⟨(e1 x hx).1, by rw [rouOk_eq, hs x hx, (e1 x hx).2]; rfl⟩, fun x hx => by rw [rouOk_eq, hf x hx, e2 x hx]; rfl, ?_⟩
  have g1 := congrArg List.sum (map_via (f := eraN) (fun x => x.2.2.2.length) h.s)
  have g2 := congrArg List.sum (map_via (f := eraNR) (fun x => x.2.2.length) h.f)
  have g3 : sumL (ss.map (·.rou)) = sumL (ss'.map (·.rou)) := by unfold sumL; rw [List.map_map, List.map_map]; exact g1
  have g4 : sumL fs = sumL fs' := g2
  omega
/-- Names that may be do not matter. -/
theorem SimP.verify (h : SimP ss ss' fs fs') (hm : MayP ss fs) (hs : ∀ x ∈ ss', nameOk x.rou.name = true) (hf : ∀ x ∈ fs', nameOk x.name = true) : verifyO ks ss fs = verifyO ks ss' fs' := by
  unfold verifyO
  rw [if_pos hm, if_pos (h.may hs hf hm)]
  have : (List.range 4).findSome? (lookO ks ss fs) = (List.range 4).findSome? (lookO ks ss' fs') := findSome_congr fun q _ => h.look q
  rw [this]
theorem may_names (h : MayP ss fs) : (∀ x ∈ ss, nameOk x.rou.name = true) ∧ ∀ x ∈ fs, nameOk x.name = true :=
  ⟨fun x hx => by have := (h.2.2.1 x hx).2; rw [rouOk_eq, Bool.and_eq_true] at this; exact this.1, fun x hx => by have := h.2.2.2.1 x hx; rw [rouOk_eq, Bool.and_eq_true] at this; exact this.1⟩
theorem wr_ne {c : List Ins} {ps : List Int} {i : Nat} : wr c ps i = 0 ∨ wr c ps i = 150 ∨ wr c ps i = 151 ∨ wr c ps i = 153 := by
  unfold wr
  split
  · exact .inr (.inl rfl)
  · split
    · exact .inr (.inr (.inl rfl))
    · split
      · exact .inr (.inr (.inr rfl))
      · exact .inl rfl
theorem find_some_map {α β : Type} {l : List Nat} {p : Nat → Bool} {f : Nat → β} {y : β} (h : (l.find? p).map f = some y) : ∃ i, p i = true ∧ f i = y := by
  cases g : l.find? p with
  | none => rw [g] at h; cases h
  | some i =>
    rw [g] at h
    exact ⟨i, List.find?_some g, by simpa using h⟩
/-- A fault has a number. -/
theorem verify_ne {a e : Nat} (h : verifyO ks ss fs = some (a, e)) : e ≠ 0 := by
  unfold verifyO at h
  split at h
  · split at h
    · obtain ⟨q, hq, h⟩ := List.exists_of_findSome?_eq_some h
      have hq := List.mem_range.1 hq
      match q, hq with
      | 0, _ =>
        obtain ⟨i, _, h⟩ := find_some_map (α := Unit) (show (_ : Option Nat).map _ = some (a, e) from h)
        simp only [Prod.mk.injEq] at h; omega
      | 1, _ =>
        have h : touchO ks ss fs = some (a, e) := h
        obtain ⟨i, _, h⟩ := List.exists_of_findSome?_eq_some h
        unfold tI at h
        obtain ⟨⟨x, y⟩, hx, h⟩ := Option.map_eq_some_iff.1 h
        unfold tR at hx
        obtain ⟨i, hi, hx⟩ := find_some_map (α := Unit) hx
        simp only [Prod.mk.injEq] at hx h
        have := bne_iff_ne.1 hi
        omega
      | 2, _ =>
        obtain ⟨i, _, h⟩ := find_some_map (α := Unit) (show (_ : Option Nat).map _ = some (a, e) from h)
        simp only [Prod.mk.injEq] at h; omega
      | 3, _ =>
        have h : waysO ss fs = some (a, e) := h
        unfold waysO at h
        split at h
        · rename_i x hx
          simp only [Option.some.injEq] at h
          subst h
          obtain ⟨i, _, h⟩ := List.exists_of_findSome?_eq_some hx
          unfold wholeI at h
          split at h
          · rename_i a' e' hw
            simp only [Option.some.injEq, Prod.mk.injEq] at h
            unfold wholeS at hw
            split at hw
            · simp only [Except.error.injEq, Prod.mk.injEq] at hw; omega
            · split at hw
              · rename_i i' hf
                have this := List.find?_some hf
                have this : wr ((rousL ss fs)[i]!).code (parms fs) i' ≠ 0 := Classical.byContradiction fun g => by rw [badP_false fun h => g h.2] at this; cases this
                simp only [Except.error.injEq, Prod.mk.injEq] at hw; omega
              · cases hw
          · cases h
        · obtain ⟨i, _, h⟩ := List.exists_of_findSome?_eq_some h
          unfold turnI at h
          obtain ⟨i, _, h⟩ := find_some_map (α := Unit) h
          simp only [Prod.mk.injEq] at h; omega
    · simp only [Option.some.injEq, Prod.mk.injEq] at h; omega
  · simp only [Option.some.injEq, Prod.mk.injEq] at h; omega
theorem verify_may (h65 : ∀ a, verifyO ks ss fs ≠ some (a, 65)) (h130 : ∀ a, verifyO ks ss fs ≠ some (a, 130)) : mayK ks = true ∧ MayP ss fs := by
  unfold verifyO at h65 h130
  by_cases hk : mayK ks = true
  · rw [if_pos hk] at h130
    by_cases hm : MayP ss fs
    · exact ⟨hk, hm⟩
    · rw [if_neg hm] at h130; exact absurd rfl (h130 0)
  · rw [if_neg hk] at h65; exact absurd rfl (h65 0)
end Go.Proofs.YtlkmmplgfjicjaaGreat
/-
  VerifyNames.
-/
namespace Go.Proofs.YtlkmmplgfjicjaaGreat
set_option linter.unusedVariables false
set_option linter.unusedSimpArgs false
open Go.Proofs.YtlkmmplgfjicjaaGreat.Hc Go.Proofs.YtlkmmplgfjicjaaGreat.Hc.Vf
set_option maxRecDepth 100000
variable {H : Heap}

theorem flat_set {α : Type} {f : α → List Value} {n : Nat} (hf : ∀ e, (f e).length = n) {e' : α} {o : Nat} {v : Value} : ∀ {es : List α} {i : Nat} (hi : i < es.length), o < n → f e' = (f es[i]).set o v → (es.flatMap f).set (i * n + o) v = (es.set i e').flatMap f
  | e :: es, 0, _, ho, he => by
    simp only [List.flatMap_cons, List.set_cons_zero, Nat.zero_mul, Nat.zero_add]
    rw [List.set_append_left _ _ (by rw [hf]; exact ho)]
    rw [he]; rfl
  | e :: es, i + 1, hi, ho, he => by
    simp only [List.flatMap_cons, List.set_cons_succ]
    have e1 : (i + 1) * n + o = (f e).length + (i * n + o) := by rw [hf, Nat.add_mul]; omega
    rw [e1, List.set_append_right _ _ (by omega), Nat.add_sub_cancel_left, flat_set hf (es := es) (by simpa using hi) ho he]
theorem St_vecN {T : TypeId} {n : Nat} {s : Sl} {vs : List Value} (h : VecN H T n s vs) {b : Nat} (hb : s.a = some (adr b)) {m : Nat} (hm : m < vs.length) {v : Value} {k : Heap → Prop} (hk : ∀ H', VecN H' T n s (vs.set m v) → Upd (· = b) H H' → H'.size = H.size → k H') : St ⟨b, m, none⟩ v H k := by
  rcases h.own with ⟨g, _⟩ | ⟨c, sp, g1, g2, g3⟩
  · rw [g] at hb; cases hb
  · rw [g1] at hb; cases hb
    refine St_row g2 (by rw [List.length_append]; omega) fun H' hU hz hr => hk H' ⟨by rw [List.length_set]; exact h.len, .inr ⟨b, sp, g1, ?_, by rw [List.length_set]; exact g3⟩, h.lc⟩ hU hz
    rwa [List.set_append_left _ _ hm] at hr
/-- An element's cell is written. -/
theorem IxA_St_elem {α : Type} {f : α → List Value} {n : Nat} (hf : ∀ e, (f e).length = n) (hn : 0 < n) {T : TypeId} {s : Sl} {xs : List α} {y e' : α} (h : VecN H T n ⟨s.a, xs.length + 1, s.cap⟩ ((xs ++ [y]).flatMap f)) (hl : s.len = xs.length) {i : Nat} (hi : i < xs.length) {o : Nat} (ho : o < n) {v : Value} (he : f e' = (f xs[i]).set o v) {k : Heap → Prop}
    (hk : ∀ b H', s.a = some (adr b) → Upd (· = b) H H' → H'.size = H.size → VecN H' T n ⟨s.a, (xs.set i e').length + 1, s.cap⟩ ((xs.set i e' ++ [y]).flatMap f) → k H') : IxA n s (i : Nat) fun a => St (a.add o) v H k := by
  obtain ⟨b, hb⟩ : ∃ b, s.a = some (adr b) := by
    rcases h.own with ⟨g1, g2, g3⟩ | ⟨b, sp, g1, g2, g3⟩
    · have := congrArg List.length g3
      rw [flat_len hf] at this
      simp only [List.length_append, List.length_cons, List.length_nil] at this
      have : 0 < (xs.length + (0 + 1)) * n := Nat.mul_pos (by omega) hn
      omega
    · exact ⟨b, g1⟩
  refine IxA.mk hb (by omega) (by omega) ?_
  rw [Int.toNat_natCast, adr_add, mk_add]
  have hm : i * n + o < ((xs ++ [y]).flatMap f).length := by
    rw [flat_len hf, List.length_append, List.length_singleton]
    have : (i + 1) * n ≤ (xs.length + 1) * n := Nat.mul_le_mul_right n (by omega)
    rw [Nat.add_mul] at this; omega
  refine St_vecN h hb hm fun H' hv hU hz => hk b H' hb hU hz ?_
  rw [flat_set hf (e' := e') (by rw [List.length_append]; omega) ho (by rw [List.getElem_append_left hi]; exact he)] at hv
  rw [List.length_set, ← List.set_append_left _ _ hi]
  exact hv
def nmS (x : Sy) (nm : ByteArray) : Sy := ⟨x.s, x.l, ⟨nm, x.rou.params, x.rou.locals, x.rou.sl, x.rou.code⟩⟩
def nmR (x : Rou) (nm : ByteArray) : Rou := ⟨nm, x.params, x.locals, x.sl, x.code⟩
variable {q : Sl × Sl} {ss : List Sy} {fs : List Rou} {yb : Sy} {fb : Rou}
theorem lent_nameS (h : LentP H q ss fs yb fb) {i : Nat} (hi : i < ss.length) {nm : ByteArray} {k : Heap → Prop}
    (hk : ∀ H', Upd (fun b => q.1.a = some (adr b)) H H' → (∀ b T ws, Row H b T ws → T ≠ T_api_System → Row H' b T ws) → LentP H' q (ss.set i (nmS ss[i] nm)) fs yb fb → k H') : IxA 8 q.1 (i : Nat) fun a => St (a.add 4) (.string nm) H k := by
  refine IxA_St_elem sysV_len (by omega) h.sv h.sl hi (e' := nmS ss[i] nm) (o := 4) (by omega) rfl fun b H' hb hU hz hv => ?_
  obtain ⟨ws0, hw0⟩ := VecN.row h.sv hb
  have hne : ∀ c T ws, Row H c T ws → T ≠ T_api_System → ¬ c = b := fun c T ws hw hT => hw.ne hw0 hT
  refine hk H' (hU.mono fun c _ e => e ▸ hb) (fun c T ws hw hT => hU.row hw (hne c T ws hw hT)) ⟨hv, by rw [List.length_set]; exact h.sl, VecN.updT hU h.fv fun c ws hw => hne c _ ws hw (by decide), h.fl, fun x hx => ?_, fun r hr => (h.fn r hr).updT hU fun c ws hw => hne c _ ws hw (by decide), Vec.updT hU h.yb fun c ws hw => hne c _ ws hw (by decide), h.fb⟩
  have hold : ∀ y ∈ ss, LSy H' y := fun y hy => (h.sy y hy).updT hU (fun c ws hw => hne c _ ws hw (by decide)) fun c ws hw => hne c _ ws hw (by decide)
  rcases List.mem_or_eq_of_mem_set hx with g | g
  · exact hold x g
  · subst g
    have := hold ss[i] (List.getElem_mem hi)
    exact ⟨this.set, this.row⟩
theorem lent_nameF (h : LentP H q ss fs yb fb) {i : Nat} (hi : i < fs.length) {nm : ByteArray} {k : Heap → Prop}
    (hk : ∀ H', Upd (fun b => q.2.a = some (adr b)) H H' → (∀ b T ws, Row H b T ws → T ≠ T_api_Routine → Row H' b T ws) → LentP H' q ss (fs.set i (nmR fs[i] nm)) yb fb → k H') : IxA 4 q.2 (i : Nat) fun a => St a (.string nm) H k := by
  have := IxA_St_elem (k := k) rouV_len (by omega) h.fv h.fl hi (e' := nmR fs[i] nm) (o := 0) (v := .string nm) (by omega) rfl fun b H' hb hU hz hv => by
    obtain ⟨ws0, hw0⟩ := VecN.row h.fv hb
    have hne : ∀ c T ws, Row H c T ws → T ≠ T_api_Routine → ¬ c = b := fun c T ws hw hT => hw.ne hw0 hT
    refine hk H' (hU.mono fun c _ e => e ▸ hb) (fun c T ws hw hT => hU.row hw (hne c T ws hw hT)) ⟨VecN.updT hU h.sv fun c ws hw => hne c _ ws hw (by decide), h.sl, hv, by rw [List.length_set]; exact h.fl, fun x hx => (h.sy x hx).updT hU (fun c ws hw => hne c _ ws hw (by decide)) fun c ws hw => hne c _ ws hw (by decide), fun x hx => ?_, Vec.updT hU h.yb fun c ws hw => hne c _ ws hw (by decide), h.fb⟩
    have hold : ∀ y ∈ fs, LRow H' y.sl y.code := fun y hy => (h.fn y hy).updT hU fun c ws hw => hne c _ ws hw (by decide)
    rcases List.mem_or_eq_of_mem_set hx with g | g
    · exact hold x g
    · subst g
      exact hold fs[i] (List.getElem_mem hi)
  obtain ⟨a, h1, h2, h3, h4⟩ := this
  rw [add_zero] at h4
  exact ⟨a, h1, h2, h3, h4⟩
theorem set_same {α β : Type} {f : α → β} {xs : List α} {i : Nat} (hi : i < xs.length) {y : α} (h : f y = f xs[i]) : (xs.set i y).map f = xs.map f := by
  rw [List.map_set, h]
  have : f xs[i] = (xs.map f)[i]'(by simpa using hi) := by simp
  rw [this, List.set_getElem_self]
theorem set_nmS {xs : List Sy} {i : Nat} (hi : i < xs.length) (nm : ByteArray) : (xs.set i (nmS xs[i] nm)).map eraN = xs.map eraN := set_same hi (show eraN (nmS xs[i] nm) = eraN xs[i] from rfl)
theorem set_nmR {xs : List Rou} {i : Nat} (hi : i < xs.length) (nm : ByteArray) : (xs.set i (nmR xs[i] nm)).map eraNR = xs.map eraNR := set_same hi (show eraNR (nmR xs[i] nm) = eraNR xs[i] from rfl)
theorem all_set {α : Type} {P : α → Prop} {xs : List α} {i : Nat} {y : α} (h : ∀ x ∈ xs, P x) (hy : P y) : ∀ x ∈ xs.set i y, P x := fun x hx => by
  rcases List.mem_or_eq_of_mem_set hx with g | rfl
  · exact h x g
  · exact hy
theorem lens_of {ss ss' : List Sy} {fs fs' : List Rou} (hs : SimP ss ss' fs fs') {H0 : Heap} {p : Sl × Sl} (hP : PrgI H0 p ss fs) : (∀ x ∈ ss', (∀ q, q < 4 → (x.l q).length ≤ 2 ^ 60) ∧ x.rou.code.length ≤ 2 ^ 60) ∧ ∀ r ∈ fs', r.code.length ≤ 2 ^ 60 :=
  ⟨all_via (f := eraN) (P := fun e => (∀ q, q < 4 → (e.1 q).length ≤ 2 ^ 60) ∧ e.2.2.2.length ≤ 2 ^ 60) hs.s fun x hx => ⟨fun q hq => by have := (hP.sysR x hx).lens q hq; show (x.l q).length ≤ _; omega, by have := (hP.sysR x hx).rou.len; show x.rou.code.length ≤ _; omega⟩,
   all_via (f := eraNR) (P := fun e => e.2.2.length ≤ 2 ^ 60) hs.f fun x hx => by have := (hP.funR x hx).len; show x.code.length ≤ _; omega⟩
theorem foI_true {o : Option (Nat × Nat)} (h : ∀ a e, o = some (a, e) → e ≠ 0) : (foI o).2.2 = true := by
  cases o with
  | none => rfl
  | some ae =>
    have := h ae.1 ae.2 rfl
    show ((ae.2 : Int) != 0) = true
    rw [bne_iff_ne]; omega
end Go.Proofs.YtlkmmplgfjicjaaGreat
/-
  What was lent is as it was.
-/
namespace Go.Proofs.YtlkmmplgfjicjaaGreat
set_option linter.unusedVariables false
set_option linter.unusedSimpArgs false
open Go.Proofs.YtlkmmplgfjicjaaGreat.Hc Go.Proofs.YtlkmmplgfjicjaaGreat.Hc.Vf
set_option maxRecDepth 100000
variable {H : Heap}

theorem s_sameSet {l was : Sl} {xs : List Int} (hL : LSet H l xs) (hw : RL (Value.int .i64) H was xs) (hl : xs.length ≤ 2 ^ 60) {k : Bool → Heap → Prop} (hk : k true H) : CallT Pg f_hindcastlaw15_sameSet [.slice l.a l.len l.cap, .slice was.a was.len was.cap] (.one (.c .bool)) H k := by
  refine c_hindcastlaw15_sameSet _ _ ?_
  unfold v_hindcastlaw15_sameSet
  have h1 := hL.len
  have h2 := hw.len
  have hc := hL.vec.lc
  dsimp only at hc
  refine Jn.mk (fun j H' => H = H' ∧ j = false) (fun kk hkk => ?_) ?_
  · rw [show ((l.len : Int) != (was.len : Int)) = false by rw [bne_eq_false_iff_eq]; omega]
    refine (Br_false _ _).2 (Lt.mk (u := ((xs.length + 2 : Nat) : Int)) (by rw [wrap_i64_id] <;> omega) (hkk _ _ ⟨rfl, decide_eq_false (by omega)⟩))
  rintro _ _ ⟨rfl, rfl⟩
  refine (Br_false _ _).2 (Lt.mk (u := ((xs.length + 2 : Nat) : Int)) (by rw [wrap_i64_id] <;> omega) (SlA0 (by omega) (by omega) (Int.le_refl _) ?_))
  rw [Int.toNat_natCast, Int.toNat_natCast]
  refine LoopT.mk (fun (i : Int) H' => H = H' ∧ ∃ n : Nat, i = n ∧ n ≤ xs.length + 2) (fun i _ => xs.length + 2 - i.toNat) ⟨rfl, 0, rfl, Nat.zero_le _⟩ ?_
  rintro next _ _ ⟨rfl, n, rfl, hn⟩ hnext
  refine Br_dec (fun hlt => ?_) fun _ => hk
  have hlt : (n : Int) < ((xs.length + 2 : Nat) : Int) := hlt
  have hn3 : n < (xs ++ [77, 77]).length := by rw [List.length_append]; simp; omega
  have rd : ∀ {kk : Int → Prop}, kk ((xs ++ [77, 77])[n]) → IxA 1 ⟨l.a, xs.length + 2, l.cap⟩ (n : Int) fun a1 => Ld (.int .i64) a1 H fun (x1 : Int) => kk x1 := fun h =>
    IxA_vec hL.vec (by omega) (by rw [List.length_map]; omega) fun a1 ha1 _ => Ld_int (n := (xs ++ [77, 77])[n]) (by rw [ha1, Int.toNat_natCast, List.getElem?_map, List.getElem?_eq_getElem hn3]; rfl) h
  refine Jn.mk (fun j H' => H = H' ∧ j = false) (fun kk hkk => Br_dec (fun h => ?_) fun h => ?_) ?_
  · have hn4 : n < xs.length := by omega
    refine rd (IxA_rl hw rfl hn4 fun a2 ha2 => Ld_int ha2 ?_)
    rw [show ((xs ++ [77, 77])[n] != xs[n]) = false by rw [List.getElem_append_left hn4]; simp]
    exact (Br_false _ _).2 (Br_no (by omega) (hkk _ _ ⟨rfl, rfl⟩))
  · refine Br_yes (by omega) (rd (hkk _ _ ⟨rfl, ?_⟩))
    rw [List.getElem_append_right (by omega)]
    have : n - xs.length = 0 ∨ n - xs.length = 1 := by omega
    rcases this with e | e <;> simp [e]
  rintro _ _ ⟨rfl, rfl⟩
  exact (Br_false _ _).2 (Lt.mk (u := ((n + 1 : Nat) : Int)) (by rw [wrap_i64_id] <;> omega) (hnext _ _ ⟨rfl, n + 1, rfl, by omega⟩ (by omega)))
theorem eqL_ins (a b : Int) : eqL [(.int .i64), (.int .i64)] (a, b) (a, b) = true := by simp [eqL, eqT]
theorem s_sameRow {l was : Sl} {c : List Ins} (hL : LRow H l c) (hw : RN insV 2 H was c) (hl : c.length ≤ 2 ^ 60) {k : Bool → Heap → Prop} (hk : ∀ H', Ext H H' → k true H') : CallT Pg f_hindcastlaw15_sameRow [.slice l.a l.len l.cap, .slice was.a was.len was.cap] (.one (.c .bool)) H k := by
  refine c_hindcastlaw15_sameRow _ _ ?_
  unfold v_hindcastlaw15_sameRow
  have h1 := hL.len
  have h2 := hw.len
  have hc := hL.vec.lc
  dsimp only at hc
  refine Jn.mk (fun j H' => H = H' ∧ j = false) (fun kk hkk => ?_) ?_
  · rw [show ((l.len : Int) != (was.len : Int)) = false by rw [bne_eq_false_iff_eq]; omega]
    refine (Br_false _ _).2 (Lt.mk (u := ((c.length + 8 : Nat) : Int)) (by rw [wrap_i64_id] <;> omega) (hkk _ _ ⟨rfl, decide_eq_false (by omega)⟩))
  rintro _ _ ⟨rfl, rfl⟩
  refine (Br_false _ _).2 (Lt.mk (u := ((c.length + 8 : Nat) : Int)) (by rw [wrap_i64_id] <;> omega) (SlA0 (by omega) (by omega) (Int.le_refl _) ?_))
  rw [Int.toNat_natCast, Int.toNat_natCast]
  have hll : (c ++ List.replicate 8 ((77, 0) : Ins)).length = c.length + 8 := by simp
  refine LoopT.mk (fun (i : Int) H' => ∃ n : Nat, i = n ∧ n ≤ c.length + 8 ∧ Ext H H') (fun i _ => c.length + 8 - i.toNat) ⟨0, rfl, Nat.zero_le _, .refl _ _⟩ ?_
  rintro next _ H2 ⟨n, rfl, hn, hE2⟩ hnext
  refine Br_dec (fun hlt => ?_) fun _ => hk _ hE2
  have hlt : (n : Int) < ((c.length + 8 : Nat) : Int) := hlt
  have hn3 : n < (c ++ List.replicate 8 ((77, 0) : Ins)).length := by omega
  refine Nw_row (vs := [.int .i64 0, .int .i64 0]) fun b1 H3 hb1 hE3 _ hr3 => ?_
  simp only [adr_add]
  refine St_row hr3 (by simp) fun H4 hU4 _ hr4 => St_row hr4 (by simp) fun H5 hU5 _ hr5 => ?_
  have hE5 : Ext H2 H5 := extUpd hE3 (by omega) (hU4.trans hU5 fun _ _ h => h)
  refine Jn.mk (fun _ H' => Ext H2 H' ∧ Row H' b1 T_api_Instr (insV ((c ++ List.replicate 8 ((77, 0) : Ins))[n]))) (fun kk hkk => Br_dec (fun h => ?_) fun h => hkk _ _ ⟨hE5, ?_⟩) ?_
  · have hn4 : n < c.length := by omega
    have hE5' := hE2.trans hE5 fun _ _ h => h
    refine IxA_rn' insV_len (hw.ext hE5') (by omega) (j := n) rfl hn4 fun a1 ha1 => ⟨((c[n]!).1, (c[n]!).2), ha1, ?_⟩
    refine St_row hr5 (by simp) fun H7 hU7 _ hr7 => St_row hr7 (by simp) fun H8 hU8 _ hr8 => hkk _ _ ⟨hE5.trans (hU7.trans hU8 fun _ _ h => h) fun b hb e => by omega, ?_⟩
    rw [List.getElem_append_left hn4, ← getElem!_pos c n hn4]; exact hr8
  · rw [List.getElem_append_right (by omega), List.getElem_replicate]; exact hr5
  rintro _ H6 ⟨hE6, hr6⟩
  have hE6' := hE2.trans hE6 fun _ _ h => h
  have hrn : RN insV 2 H6 ⟨l.a, c.length + 8, l.cap⟩ (c ++ List.replicate 8 ((77, 0) : Ins)) := VecN.rn insV_len (by omega) (hL.vec.ext hE6')
  refine IxA_rn' insV_len hrn (by omega) (j := n) rfl hn3 fun a2 ha2 => ?_
  rw [getElem!_pos _ n hn3] at ha2
  generalize (c ++ List.replicate 8 ((77, 0) : Ins))[n] = i at *
  refine ⟨(i.1, i.2), ha2, (i.1, i.2), hr6.rd_all, ?_⟩
  show Br (!eqL [(.int .i64), (.int .i64)] (i.1, i.2) (i.1, i.2)) _ _
  rw [eqL_ins]
  exact (Br_false _ _).2 (Lt.mk (u := ((n + 1 : Nat) : Int)) (by rw [wrap_i64_id] <;> omega) (hnext _ _ ⟨n + 1, rfl, by omega, hE6'⟩ (by omega)))
theorem s_still {q p : Sl × Sl} {ss ss' : List Sy} {fs fs' : List Rou} {yb : Sy} {fb : Rou} (hL : LentP H q ss' fs' yb fb) (hP : PrgI H p ss fs) (he1 : ss'.map eraS = ss.map eraS) (he2 : fs'.map eraR = fs.map eraR) {k : Bool → Heap → Prop} (hk : ∀ H', Ext H H' → k true H') :
    CallT Pg f_hindcastlaw15_still [prgA q, prgA p] (.one (.c .bool)) H k := by
  refine c_hindcastlaw15_still q p ?_
  unfold v_hindcastlaw15_still
  refine Nw_row (vs := [slV q.1, slV q.2]) fun b1 H1 hb1 hE1 _ hr1 => Nw_row (vs := [slV p.1, slV p.2]) fun b2 H2 hb2 hE2 _ hr2 => ?_
  simp only [adr_add, mk_add]
  have hE2' := hE1.trans hE2 fun _ _ h => h
  have hq2 := hE2.row hr1 fun h => h
  have cq0 : ∀ {Hx}, Ext H2 Hx → hcell Hx (adr b1) = some (slV q.1) := fun hE => ((hE.row hq2 fun h => h).cell 0).trans rfl
  have cq1 : ∀ {Hx}, Ext H2 Hx → hcell Hx ⟨b1, 1, none⟩ = some (slV q.2) := fun hE => ((hE.row hq2 fun h => h).cell 1).trans rfl
  have cp0 : ∀ {Hx}, Ext H2 Hx → hcell Hx (adr b2) = some (slV p.1) := fun hE => ((hE.row hr2 fun h => h).cell 0).trans rfl
  have cp1 : ∀ {Hx}, Ext H2 Hx → hcell Hx ⟨b2, 1, none⟩ = some (slV p.2) := fun hE => ((hE.row hr2 fun h => h).cell 1).trans rfl
  have e0 : Ext H2 H2 := .refl _ _
  have hlx : ∀ {Hx}, Ext H2 Hx → LentP Hx q ss' fs' yb fb := fun hE => hL.ext (hE2'.trans hE fun _ _ h => h)
  have hpx : ∀ {Hx}, Ext H2 Hx → PrgR Hx p ss fs := fun hE => hP.prg.ext (hE2'.trans hE fun _ _ h => h)
  have l1 := map_len he1
  have l2 := map_len he2
  have a1 := hL.sl
  have a2 := hL.fl
  have a3 := hP.sys.len
  have a4 := hP.fun'.len
  have hsn := hP.sl
  have hfn := hP.fl
  refine Jn.mk (fun j H' => H2 = H' ∧ j = false) (fun kk hkk => ?_) ?_
  · refine Ld_sl (s := q.1) (cq0 e0) (Ld_sl (s := p.1) (cp0 e0) ?_)
    rw [show ((q.1.len : Int) != (p.1.len : Int)) = false by rw [bne_eq_false_iff_eq]; omega]
    refine (Br_false _ _).2 (Ld_sl (s := q.2) (cq1 e0) (Ld_sl (s := p.2) (cp1 e0) (hkk _ _ ⟨rfl, by rw [bne_eq_false_iff_eq]; omega⟩)))
  rintro _ _ ⟨rfl, rfl⟩
  refine (Br_false _ _).2 (LoopT.mk (fun (i : Int) H' => ∃ n : Nat, i = n ∧ n ≤ ss.length ∧ Ext H2 H') (fun i _ => ss.length - i.toNat) ⟨0, rfl, Nat.zero_le _, e0⟩ ?_)
  rintro next _ H4 ⟨n, rfl, hn, hE4⟩ hnext
  refine Ld_sl (s := p.1) (cp0 hE4) (Br_dec (fun hlt => ?_) fun hge => ?_)
  · have hn3 : n < ss.length := by omega
    have hn4 : n < ss'.length := by omega
    have hqs := rn_pre sysV_len (by omega) (hlx hE4).sv (hlx hE4).sl
    refine Ld_sl (s := q.1) (cq0 hE4) (IxA_rn' sysV_len hqs (by omega) (j := n) rfl hn4 fun a ha => ?_)
    have hm' : ss'[n]! ∈ ss' := by rw [getElem!_pos ss' n hn4]; exact List.getElem_mem hn4
    have hm : ss[n]! ∈ ss := by rw [getElem!_pos ss n hn3]; exact List.getElem_mem hn3
    have hx' : ∀ {Hx}, Ext H2 Hx → LSy Hx (ss'[n]!) := fun hE => (hlx hE).sy _ hm'
    have hx : ∀ {Hx}, Ext H2 Hx → SyR Hx (ss[n]!) := fun hE => (hpx hE).sysR _ hm
    have hxI := hP.sysR _ hm
    have hera := map_at he1 hn4
    have hget : ∀ {Hx : Heap} {kk : Addr → Prop}, Ext H2 Hx → (∀ a, hcells Hx a 0 (sysV ss[n]!) → kk a) → IxA 8 p.1 (n : Int) kk := fun hE hkk => IxA_rn' sysV_len (hpx hE).sys (by omega) (j := n) rfl hn3 hkk
    generalize ss[n]! = x at *
    generalize ss'[n]! = x' at *
    simp only [eraS, eraR, Prod.mk.injEq] at hera
    obtain ⟨r1, r2, r3, r4, r5⟩ := hera
    refine ld_sys ha (sys_copy (x := x') fun b3 H13 hb3 hE13 hr13 => ?_)
    have hE13' := hE4.trans hE13 fun _ _ h => h
    refine Ld_sl (s := p.1) (cp0 hE13') (hget hE13' fun a ha => ld_sys ha (sys_copy (x := x) fun b4 H22 hb4 hE22 hr22 => ?_))
    have hE22' := hE13'.trans hE22 fun _ _ h => h
    have hr322 := hE22.row hr13 fun h => h
    have ws : ∀ q (hq : q < 4), LSet H22 (x'.s q) (x.l q) := fun q hq => r1 ▸ (hx' hE22').set q hq
    have wl : ∀ q (hq : q < 4), (x.l q).length ≤ 2 ^ 60 := fun q hq => by have := hxI.lens q hq; omega
    refine Ld_sl (s := x'.s 0) ((hr322.cell 0).trans rfl) (Ld_sl (s := x.s 0) ((hr22.cell 0).trans rfl) (s_sameSet (ws 0 (by omega)) ((hx hE22').sets 0 (by omega)) (wl 0 (by omega)) ?_))
    refine Ld_sl (s := x'.s 1) ((hr322.cell 1).trans rfl) (Ld_sl (s := x.s 1) ((hr22.cell 1).trans rfl) (s_sameSet (ws 1 (by omega)) ((hx hE22').sets 1 (by omega)) (wl 1 (by omega)) ?_))
    refine Ld_sl (s := x'.s 2) ((hr322.cell 2).trans rfl) (Ld_sl (s := x.s 2) ((hr22.cell 2).trans rfl) (s_sameSet (ws 2 (by omega)) ((hx hE22').sets 2 (by omega)) (wl 2 (by omega)) ?_))
    refine Ld_sl (s := x'.s 3) ((hr322.cell 3).trans rfl) (Ld_sl (s := x.s 3) ((hr22.cell 3).trans rfl) (s_sameSet (ws 3 (by omega)) ((hx hE22').sets 3 (by omega)) (wl 3 (by omega)) ?_))
    refine Ld_sl (s := x'.rou.sl) ((hr322.cell 7).trans rfl) (Ld_sl (s := x.rou.sl) ((hr22.cell 7).trans rfl) (s_sameRow (c := x.rou.code) (r5 ▸ (hx' hE22').row) (hx hE22').code (by have := hxI.rou.len; omega) fun H27 hE27 => ?_))
    have hE27' := hE22'.trans hE27 fun _ _ h => h
    have g3 := hE27.row hr322 fun h => h
    have g4 := hE27.row hr22 fun h => h
    refine Jn.mk (fun j H' => H27 = H' ∧ j = false) (fun kk hkk => ?_) ?_
    · iterate 5 refine (Br_false _ _).2 ?_
      refine Ld_str (n := x'.rou.name) ((g3.cell 4).trans rfl) (Ld_str (n := x.rou.name) ((g4.cell 4).trans rfl) ?_)
      rw [r2, show (!(x.rou.name.toList == x.rou.name.toList)) = false by simp]
      refine (Br_false _ _).2 (Ld_int (n := x'.rou.params) ((g3.cell 5).trans rfl) (Ld_int (n := x.rou.params) ((g4.cell 5).trans rfl) ?_))
      rw [r3, show (x.rou.params != x.rou.params) = false by simp]
      refine (Br_false _ _).2 (Ld_int (n := x'.rou.locals) ((g3.cell 6).trans rfl) (Ld_int (n := x.rou.locals) ((g4.cell 6).trans rfl) (hkk _ _ ⟨rfl, by rw [r4]; simp⟩)))
    rintro _ _ ⟨rfl, rfl⟩
    exact (Br_false _ _).2 (Lt.mk (u := ((n + 1 : Nat) : Int)) (by rw [wrap_i64_id] <;> omega) (hnext _ _ ⟨n + 1, rfl, hn3, hE27'⟩ (by omega)))
  · refine LoopT.mk (fun (i : Int) H' => ∃ n : Nat, i = n ∧ n ≤ fs.length ∧ Ext H2 H') (fun i _ => fs.length - i.toNat) ⟨0, rfl, Nat.zero_le _, hE4⟩ ?_
    rintro next2 _ H5 ⟨n, rfl, hn2, hE5⟩ hnext2
    refine Ld_sl (s := p.2) (cp1 hE5) (Br_dec (fun hlt2 => ?_) fun hge2 => ?_)
    · have hn3 : n < fs.length := by omega
      have hn4 : n < fs'.length := by omega
      have hqs := rn_pre rouV_len (by omega) (hlx hE5).fv (hlx hE5).fl
      refine Ld_sl (s := q.2) (cq1 hE5) (IxA_rn' rouV_len hqs (by omega) (j := n) rfl hn4 fun a ha => ?_)
      have hm' : fs'[n]! ∈ fs' := by rw [getElem!_pos fs' n hn4]; exact List.getElem_mem hn4
      have hm : fs[n]! ∈ fs := by rw [getElem!_pos fs n hn3]; exact List.getElem_mem hn3
      have hx' : ∀ {Hx}, Ext H2 Hx → LRow Hx (fs'[n]!).sl (fs'[n]!).code := fun hE => (hlx hE).fn _ hm'
      have hx : ∀ {Hx}, Ext H2 Hx → CodeR Hx (fs[n]!) := fun hE => (hpx hE).funR _ hm
      have hxI := hP.funR _ hm
      have hera := map_at he2 hn4
      have hget : ∀ {Hx : Heap} {kk : Addr → Prop}, Ext H2 Hx → (∀ a, hcells Hx a 0 (rouV fs[n]!) → kk a) → IxA 4 p.2 (n : Int) kk := fun hE hkk => IxA_rn' rouV_len (hpx hE).fun' (by omega) (j := n) rfl hn3 hkk
      generalize fs[n]! = x at *
      generalize fs'[n]! = x' at *
      simp only [eraR, Prod.mk.injEq] at hera
      obtain ⟨r2, r3, r4, r5⟩ := hera
      refine ld_rou (r := x') ha (rou_copy (x := x') fun b3 H13 hb3 hE13 hr13 => ?_)
      have hE13' := hE5.trans hE13 fun _ _ h => h
      refine Ld_sl (s := p.2) (cp1 hE13') (hget hE13' fun a ha => ld_rou (r := x) ha (rou_copy (x := x) fun b4 H22 hb4 hE22 hr22 => ?_))
      have hE22' := hE13'.trans hE22 fun _ _ h => h
      have hr322 := hE22.row hr13 fun h => h
      refine Ld_sl (s := x'.sl) ((hr322.cell 3).trans rfl) (Ld_sl (s := x.sl) ((hr22.cell 3).trans rfl) (s_sameRow (c := x.code) (r5 ▸ hx' hE22') (hx hE22') (by have := hxI.len; omega) fun H27 hE27 => ?_))
      have hE27' := hE22'.trans hE27 fun _ _ h => h
      have g3 := hE27.row hr322 fun h => h
      have g4 := hE27.row hr22 fun h => h
      refine Jn.mk (fun j H' => H27 = H' ∧ j = false) (fun kk hkk => ?_) ?_
      · refine (Br_false _ _).2 ?_
        refine Ld_str (n := x'.name) ((g3.cell 0).trans rfl) (Ld_str (n := x.name) ((g4.cell 0).trans rfl) ?_)
        rw [r2, show (!(x.name.toList == x.name.toList)) = false by simp]
        refine (Br_false _ _).2 (Ld_int (n := x'.params) ((g3.cell 1).trans rfl) (Ld_int (n := x.params) ((g4.cell 1).trans rfl) ?_))
        rw [r3, show (x.params != x.params) = false by simp]
        refine (Br_false _ _).2 (Ld_int (n := x'.locals) ((g3.cell 2).trans rfl) (Ld_int (n := x.locals) ((g4.cell 2).trans rfl) (hkk _ _ ⟨rfl, by rw [r4]; simp⟩)))
      rintro _ _ ⟨rfl, rfl⟩
      exact (Br_false _ _).2 (Lt.mk (u := ((n + 1 : Nat) : Int)) (by rw [wrap_i64_id] <;> omega) (hnext2 _ _ ⟨n + 1, rfl, hn3, hE27'⟩ (by omega)))
    · have hL5 := hlx hE5
      have c1 := hL5.sv.lc
      have c2 := hL5.fv.lc
      dsimp only at c1 c2
      refine Ld_sl (s := q.1) (cq0 hE5) (Ld_sl (s := p.1) (cp0 hE5) (Lt.mk (u := ((ss'.length + 1 : Nat) : Int)) (by rw [wrap_i64_id] <;> omega) (SlA0 (by omega) (by omega) (Int.le_refl _) ?_)))
      refine Ld_sl (s := q.2) (cq1 hE5) (Ld_sl (s := p.2) (cp1 hE5) (Lt.mk (u := ((fs'.length + 1 : Nat) : Int)) (by rw [wrap_i64_id] <;> omega) (SlA0 (by omega) (by omega) (Int.le_refl _) ?_)))
      simp only [Int.toNat_natCast]
      refine Ld_sl (s := p.1) (cp0 hE5) ?_
      have hsy : RN sysV 8 H5 ⟨q.1.a, ss'.length + 1, q.1.cap⟩ (ss' ++ [yb]) := VecN.rn sysV_len (by omega) hL5.sv
      have hyb : (ss' ++ [yb])[ss'.length]! = yb := by rw [getElem!_pos _ _ (by simp)]; simp
      refine IxA_rn' sysV_len hsy (by omega) (j := ss'.length) (by omega) (by simp) fun a ha => ?_
      rw [hyb] at ha
      refine ld_sys ha (sys_copy (x := yb) fun b7 H50 hb7 hE50 hr50 => ?_)
      have hE50' := hE5.trans hE50 fun _ _ h => h
      have hyv := (hlx hE50').yb
      have hyl := hyv.len
      refine Jn.mk (fun j H' => H50 = H' ∧ j = true) (fun kk hkk => ?_) (by rintro _ _ ⟨rfl, rfl⟩; exact hk _ (hE2'.trans hE50' fun _ _ h => h))
      refine Ld_sl (s := yb.s 0) ((hr50.cell 0).trans rfl) ?_
      rw [hyl]
      refine (Br_true _ _).2 (Ld_sl (s := yb.s 0) ((hr50.cell 0).trans rfl) (IxA_vec hyv (by omega) (by simp) fun a6 ha6 _ => Ld_int (n := 77) (by rw [ha6]; rfl) ((Br_true _ _).2 (Ld_sl (s := p.2) (cp1 hE50') ?_))))
      have hfy : RN rouV 4 H50 ⟨q.2.a, fs'.length + 1, q.2.cap⟩ (fs' ++ [fb]) := VecN.rn rouV_len (by omega) (hlx hE50').fv
      have hfb : (fs' ++ [fb])[fs'.length]! = fb := by rw [getElem!_pos _ _ (by simp)]; simp
      refine IxA_rn' rouV_len hfy (by omega) (j := fs'.length) (by omega) (by simp) fun a7 ha7 => ?_
      rw [hfb] at ha7
      refine Ld_str (n := fb.name) ha7.1 (hkk _ _ ⟨rfl, ?_⟩)
      rw [hL.fb]
      simp [nmBehind]
end Go.Proofs.YtlkmmplgfjicjaaGreat
/-
  VerifyDepths: what came out is its owner's.
-/
namespace Go.Proofs.YtlkmmplgfjicjaaGreat
set_option linter.unusedVariables false
set_option linter.unusedSimpArgs false
open Go.Proofs.YtlkmmplgfjicjaaGreat.Hc Go.Proofs.YtlkmmplgfjicjaaGreat.Hc.Vf
set_option maxRecDepth 100000
variable {H : Heap}

noncomputable def depO (c : List Ins) (ps : List Int) : Option (Nat × Nat) := match depthsS c ps with
  | .ok _ => none
  | .error ae => some ae
noncomputable def depX (c : List Ins) (ps : List Int) : List Int := match depthsS c ps with
  | .ok xs => xs
  | .error _ => []
theorem depX_len (c : List Ins) (ps : List Int) : (depX c ps).length ≤ 2000 := by
  unfold depX
  rw [depthsS_eq]
  split
  · rename_i xs h
    split at h
    · cases h
    · split at h
      · cases h
      · cases h; simp; omega
  · simp
theorem wholeS_ne {c : List Ins} {ps : List Int} {a e : Nat} (hw : wholeS c ps = .error (a, e)) : e ≠ 0 := by
  unfold wholeS at hw
  split at hw
  · simp only [Except.error.injEq, Prod.mk.injEq] at hw; omega
  · split at hw
    · rename_i i' hf
      have this := List.find?_some hf
      have this : wr c ps i' ≠ 0 := Classical.byContradiction fun g => by rw [badP_false fun h => g h.2] at this; cases this
      simp only [Except.error.injEq, Prod.mk.injEq] at hw; omega
    · cases hw
theorem depO_ne {c : List Ins} {ps : List Int} {a e : Nat} (h : depO c ps = some (a, e)) : e ≠ 0 := by
  unfold depO at h
  cases hd : depthsS c ps with
  | ok xs => rw [hd] at h; cases h
  | error ae =>
    rw [hd] at h
    simp only [Option.some.injEq] at h
    subst h
    rw [depthsS_eq] at hd
    split at hd
    · simp only [Except.error.injEq, Prod.mk.injEq] at hd; omega
    · cases hw : wholeS c ps with
      | error ae =>
        obtain ⟨a', e'⟩ := ae
        rw [hw] at hd
        simp only [Except.error.injEq, Prod.mk.injEq] at hd
        have := wholeS_ne hw
        omega
      | ok u => rw [hw] at hd; cases hd
theorem dep_out {lo : Nat} {c : List Ins} {ps : List Int} {l : Sl} {v : Value} (h : DepOut lo H c ps l v) : VerOut lo H v (depO c ps) ∧ Vec H T_int l (ints (depX c ps)) ∧ ∀ b, l.a = some (adr b) → lo ≤ b := by
  unfold DepOut at h
  unfold depO depX
  cases hd : depthsS c ps with
  | ok xs => rw [hd] at h; exact ⟨h.1, h.2⟩
  | error ae =>
    obtain ⟨a, e⟩ := ae
    rw [hd] at h
    obtain ⟨rfl, g, h1, h2, h3⟩ := h
    exact ⟨⟨g, h1, h2, h3⟩, Vec.nil _ _, fun b hb => by cases hb⟩
theorem dep_ref {c : List Ins} {ps : List Int} {q : Sl × Int × Int} (h : DepRef H c ps q) : q.2 = ((foI (depO c ps)).1, (foI (depO c ps)).2.1) ∧ Vec H T_int q.1 (ints (depX c ps)) := by
  unfold DepRef at h
  unfold depO depX
  cases hd : depthsS c ps with
  | ok xs => rw [hd] at h; exact h
  | error ae =>
    obtain ⟨a, e⟩ := ae
    rw [hd] at h
    subst h
    exact ⟨rfl, Vec.nil _ _⟩
theorem VerOut.ext {H' : Heap} (hE : Ext H H') {lo : Nat} {v : Value} {o : Option (Nat × Nat)} (h : VerOut lo H v o) : VerOut lo H' v o := by
  cases o with
  | none => exact h
  | some ae => obtain ⟨g, h1, h2, h3⟩ := h; exact ⟨g, h1, h2, hE.row h3 fun h => h⟩
theorem VerOut.ext' {M : Nat → Prop} {H' : Heap} (hu : Upd M H H') (hM : ∀ b ws, Row H b T_api_Fault ws → ¬ M b) {lo : Nat} {v : Value} {o : Option (Nat × Nat)} (h : VerOut lo H v o) : VerOut lo H' v o := by
  cases o with
  | none => exact h
  | some ae => obtain ⟨g, h1, h2, h3⟩ := h; exact ⟨g, h1, h2, hu.row h3 (hM _ _ h3)⟩
/-- All of a list are written over. -/
theorem fill {x : Sl} {xs : List Int} {v : Int} (hv : Vec H T_int x (ints xs)) (hl : xs.length ≤ 100000) {q : Int} (hq : IntKind.wrap .i64 (1000 + q) = v) {K : Heap → Prop} (hK : ∀ H', Vec H' T_int x (ints (List.replicate xs.length v)) → Upd (fun b => x.a = some (adr b)) H H' → H'.size = H.size → K H') :
    LoopT (σ := Int) (fun next3 s3 H32 => Br (decide (s3 < (x.len : Int))) (Lt (IntKind.wrap .i64 (1000 + q)) fun t2 => IxA 1 x s3 fun a4 => St a4 (.int .i64 t2) H32 fun H33 => Lt (IntKind.wrap .i64 (s3 + 1)) fun t3 => next3 t3 H33) (K H32)) 0 H := by
  have hlen := hv.len
  rw [List.length_map] at hlen
  refine LoopT.mk (fun (i : Int) H' => ∃ n : Nat, i = n ∧ n ≤ xs.length ∧ Vec H' T_int x (ints (List.replicate n v ++ xs.drop n)) ∧ Upd (fun b => x.a = some (adr b)) H H' ∧ H'.size = H.size) (fun i _ => xs.length - i.toNat) ⟨0, rfl, Nat.zero_le _, by simpa using hv, .refl _ _, rfl⟩ ?_
  rintro next _ H1 ⟨n, rfl, hn, hv1, hU1, hz1⟩ hnext
  refine Br_dec (fun hlt => ?_) fun hge => ?_
  · have hn3 : n < xs.length := by omega
    refine Lt.mk hq (IxA_St_vec' hv1 rfl (by simp; omega) fun H2 hv2 hU2 hz2 => ?_)
    refine Lt.mk (u := ((n + 1 : Nat) : Int)) (by rw [wrap_i64_id] <;> omega) (hnext _ _ ⟨n + 1, rfl, hn3, ?_, hU1.trans hU2 fun _ _ h => h, by omega⟩ (by omega))
    rw [ints_set] at hv2
    have : (List.replicate n v ++ xs.drop n).set n v = List.replicate (n + 1) v ++ xs.drop (n + 1) := by
      rw [List.set_append_right _ _ (by simp), List.length_replicate, Nat.sub_self, List.drop_eq_getElem_cons hn3, List.set_cons_zero, List.replicate_succ', List.append_assoc]
      rfl
    rw [this] at hv2; exact hv2
  · have : n = xs.length := by omega
    subst this
    refine hK _ ?_ hU1 hz1
    simpa using hv1
theorem rl_pre {a : Option Addr} {s : Sl} {n m : Nat} {v : Int} {c : Sl} (hv : Vec H T_int s (ints (List.replicate (n + m) v))) (ha : s.a = c.a) (hc : c.len = n) (hcc : c.len ≤ c.cap) : RL (Value.int .i64) H c (List.replicate n v) := by
  refine ⟨?_, by rw [List.length_replicate]; exact hc, hcc⟩
  have := hv.rd
  rw [ha] at this
  have e : ints (List.replicate (n + m) v) = (List.replicate n v).map (Value.int .i64) ++ ints (List.replicate m v) := by unfold ints; rw [← List.map_append, List.replicate_append_replicate]
  rw [e] at this
  unfold rdL at this ⊢
  cases hca : c.a with
  | none =>
    rw [hca] at this
    exact (List.append_eq_nil_iff.1 this).1
  | some a =>
    rw [hca] at this
    exact (hcells_app.1 this).1
/-- Seventy more are appended. -/
theorem more {x : Sl} {n : Nat} {v q : Int} (hq : IntKind.wrap .i64 (1000 + q) = v) (hv : Vec H T_int x (ints (List.replicate n v))) (hl : n ≤ 100000) {K : Sl → Heap → Prop}
    (hK : ∀ s H', Vec H' T_int s (ints (List.replicate (n + 70) v)) → RL (Value.int .i64) H' x (List.replicate n v) → Upd (fun b => x.a = some (adr b)) H H' → (s.a = x.a ∨ ∀ b, s.a = some (adr b) → H.size ≤ b) → K s H') :
    LoopT (σ := Sl × Int) (fun next4 s4 H34 => Br (decide (s4.2 < 70)) (Lt (IntKind.wrap .i64 (1000 + q)) fun t4 => Nw #[.int .i64 t4] T_int H34 fun b8 H35 => App T_int 1 8 #[.int .i64 0] s4.1 ⟨some (adr b8), 1, 1⟩ H35 fun l1 H36 => Lt (IntKind.wrap .i64 (s4.2 + 1)) fun t5 => next4 (l1, t5) H36) (K s4.1 H34)) (x, 0) H := by
  have hlen := hv.len
  simp only [List.length_map, List.length_replicate] at hlen
  refine LoopT.mk (fun (st : Sl × Int) H' => ∃ m : Nat, st.2 = m ∧ m ≤ 70 ∧ Vec H' T_int st.1 (ints (List.replicate (n + m) v)) ∧ RL (Value.int .i64) H' x (List.replicate n v) ∧ Upd (fun b => x.a = some (adr b)) H H' ∧ (st.1.a = x.a ∨ ∀ b, st.1.a = some (adr b) → H.size ≤ b)) (fun st _ => 70 - st.2.toNat)
    ⟨0, rfl, by omega, hv, rl_pre (a := none) (m := 0) hv rfl hlen hv.lc, .refl _ _, .inl rfl⟩ ?_
  rintro next ⟨s, _⟩ H1 ⟨m, rfl, hm, hv1, hr1, hU1, ha1⟩ hnext
  dsimp only at hv1 ha1 ⊢
  refine Br_dec (fun hlt => ?_) fun hge => ?_
  · refine Lt.mk hq (Nw_row (vs := [.int .i64 v]) fun b8 H2 hb8 hE2 z2 hr2 => ?_)
    have z1 := hU1.size
    refine App_one (hv1.ext hE2) (Row.rd_all hr2) rfl rfl (by omega) (by simp only [List.length_map, List.length_replicate]; omega) fun s' H3 hv3 hl3 hc => ?_
    have hv3' : Vec H3 T_int s' (ints (List.replicate (n + (m + 1)) v)) := by
      have e : ints (List.replicate (n + (m + 1)) v) = ints (List.replicate (n + m) v) ++ [.int .i64 v] := by unfold ints; rw [show n + (m + 1) = n + m + 1 by omega, List.replicate_succ']; simp
      rw [e]; exact hv3
    have hr2x := hr1.ext hE2
    refine Lt.mk (u := ((m + 1 : Nat) : Int)) (by rw [wrap_i64_id] <;> omega) (hnext _ _ ⟨m + 1, rfl, by omega, hv3', ?_, ?_, ?_⟩ (by dsimp only; omega))
    · rcases hc with ⟨b, cs, h1, h2, _, _, h5, _⟩ | ⟨_, h2, _⟩
      · rcases ha1 with g | g
        · exact rl_pre (a := none) hv3' (by rw [h2, ← g, h1]) hlen hv.lc
        · refine hr2x.upd' h5 fun hne a hxa e => ?_
          have hlo := g b h1
          have hx : ∃ c, x.a = some (adr c) ∧ c < H.size := by
            rcases hv.own with ⟨k1, _⟩ | ⟨c, sp, k1, k2, _⟩
            · rw [k1] at hxa; cases hxa
            · exact ⟨c, k1, k2.lt⟩
          obtain ⟨c, k1, k2⟩ := hx
          rw [k1] at hxa; cases hxa
          have : (adr c).block = b := e
          have : c = b := this
          omega
      · exact hr2x.ext h2
    · have hE2u := hU1.trans hE2 fun _ _ h => h.elim
      rcases hc with ⟨b, cs, h1, h2, _, _, h5, _⟩ | ⟨_, h2, _⟩
      · refine hE2u.trans h5 fun c hc e => ?_
        subst e
        rcases ha1 with g | g
        · rw [← g]; exact h1
        · have := g _ h1; omega
      · exact hE2u.trans h2 fun _ _ h => h.elim
    · rcases hc with ⟨b, cs, h1, h2, _⟩ | ⟨h1, _⟩
      · rw [h2, ← h1]; exact ha1
      · refine .inr fun b hb => ?_
        rw [h1] at hb; cases hb; have := hE2.size; omega
  · have : m = 70 := by omega
    subst this
    exact hK _ _ hv1 hr1 hU1 ha1
end Go.Proofs.YtlkmmplgfjicjaaGreat
/-
  The document's Verify.
-/
namespace Go.Proofs.YtlkmmplgfjicjaaGreat
set_option linter.unusedVariables false
set_option linter.unusedSimpArgs false
open Go.Proofs.YtlkmmplgfjicjaaGreat.Hc Go.Proofs.YtlkmmplgfjicjaaGreat.Hc.Vf
set_option maxRecDepth 100000
variable {H : Heap}

theorem depO_whole {c : List Ins} {ps : List Int} (hl : c.length ≤ 2000) : (∀ a e, depO c ps = some (a, e) → wholeS c ps = .error (a, e)) ∧ (depO c ps = none → wholeS c ps = .ok () ∧ depX c ps = (List.range c.length).map (depI c ps)) := by
  have h := depthsS_eq c ps
  rw [if_neg (by omega)] at h
  unfold depO depX
  cases hw : wholeS c ps with
  | error ae =>
    rw [hw] at h
    rw [h]
    exact ⟨fun a e g => by simp only [Option.some.injEq] at g; rw [g], fun g => by cases g⟩
  | ok u =>
    rw [hw] at h
    rw [h]
    exact ⟨fun a e g => (by cases g), fun _ => ⟨rfl, rfl⟩⟩
theorem rrs_len (ss : List Sy) (fs : List Rou) : (rrs ss fs).length = ss.length + fs.length := by unfold rrs; simp
theorem may_len {ss : List Sy} {fs : List Rou} (h : MayP ss fs) {n : Nat} (hn : n < ss.length + fs.length) : ((rousL ss fs)[n]!).code.length ≤ 2000 := by
  have := sum_next hn
  have := sum_le h (ss := ss) (fs := fs) (n + 1)
  omega
theorem rouR_at {p : Sl × Sl} {ss : List Sy} {fs : List Rou} (hP : PrgR H p ss fs) {n : Nat} (hn : n < ss.length + fs.length) : CodeR H ((rousL ss fs)[n]!) := by
  have hn3 : n < (rousL ss fs).length := by rw [List.length_append, List.length_map]; exact hn
  have hmem : (rousL ss fs)[n]! ∈ rousL ss fs := by rw [getElem!_pos (rousL ss fs) n hn3]; exact List.getElem_mem hn3
  rcases List.mem_append.1 hmem with g | g
  · obtain ⟨x, hx, e⟩ := List.mem_map.1 g
    rw [← e]; exact (hP.sysR x hx).code
  · exact hP.funR _ g
theorem s_rVerify {p : Sl × Sl} {ksl : Sl} {ks : List Ki} {ss : List Sy} {fs : List Rou} (hP : PrgR H p ss fs) (hb1 : ∀ x ∈ ss, x.rou.code.length ≤ 2 ^ 43) (hb2 : ∀ r ∈ fs, r.code.length ≤ 2 ^ 43) (hK : KdsR H ksl ks) (hI : ∀ x ∈ parms fs, I64 x) {k : Int × Int → Heap → Prop}
    (hk : ∀ H', Ext H H' → k ((foI (verifyO ks ss fs)).1, (foI (verifyO ks ss fs)).2.1) H') : CallT Pg f_hindcastref15_Verify [prgA p, .slice ksl.a ksl.len ksl.cap] (.tup [(.c (.int .i64)), (.c (.int .i64))]) H k := by
  refine c_hindcastref15_Verify p _ ?_
  unfold v_hindcastref15_Verify
  refine Nw_row (vs := [slV p.1, slV p.2]) fun b1 H1 hb1' hE1 _ hr1 => s_MayBe (hK.ext hE1) fun H2 hE2 => ?_
  have hE2' := hE1.trans hE2 fun _ _ h => h
  unfold verifyO at hk
  refine Br_not (Br.mk (fun hm => ?_) fun hm => by rw [if_neg (by rw [hm]; simp)] at hk; exact hk _ hE2')
  rw [if_pos hm] at hk
  have hp : ∀ {Hx}, Ext H2 Hx → Row Hx b1 T_api_Program [slV p.1, slV p.2] := fun hE => hE.row (hE2.row hr1 fun h => h) fun h => h
  have e0 : Ext H2 H2 := .refl _ _
  simp only [adr_add]
  refine ⟨p, (hp e0).rd_all, s_rMay (hP.ext hE2') hb1 hb2 fun H3 hE3 => ?_⟩
  have hE3' := hE2'.trans hE3 fun _ _ h => h
  refine Br_not (Br_dec (fun hM => ?_) fun hM => by rw [if_neg hM] at hk; exact hk _ hE3')
  rw [if_pos hM] at hk
  refine ⟨p, (hp hE3).rd_all, s_rroutines (hP.ext hE3') hM fun r3 H4 hE4 hrn => ?_⟩
  have hE4' := hE3'.trans hE4 fun _ _ h => h
  have hE24 : Ext H2 H4 := hE3.trans hE4 fun _ _ h => h
  have hp4 : ∀ {Hx}, Ext H4 Hx → Row Hx b1 T_api_Program [slV p.1, slV p.2] := fun hE => hp (hE24.trans hE fun _ _ h => h)
  have hPx : ∀ {Hx}, Ext H4 Hx → PrgR Hx p ss fs := fun hE => hP.ext (hE4'.trans hE fun _ _ h => h)
  have hKx : ∀ {Hx}, Ext H4 Hx → KdsR Hx ksl ks := fun hE => hK.ext (hE4'.trans hE fun _ _ h => h)
  have hrx : ∀ {Hx}, Ext H4 Hx → RN rrV 14 Hx r3 (rrs ss fs) := fun hE => hrn.ext hE
  have hrl := hrn.len
  rw [rrs_len] at hrl
  have hsl := hP.sys.len
  have hfl := hP.fun'.len
  have hkl := hK.rn.len
  obtain ⟨m1, m2, _⟩ := id hM
  have e4 : Ext H4 H4 := .refl _ _
  -- one of the routines
  have hel : ∀ {Hx : Heap} {n : Nat} {kk : Addr → Prop}, Ext H4 Hx → n < ss.length + fs.length → (∀ a, hcells Hx a 0 (rrV (rrAt ss fs n)) → kk a) → IxA 14 r3 (n : Int) kk := fun hE hn hkk => IxA_rn' rrV_len (hrx hE) (by omega) rfl (by rw [rrs_len]; exact hn) fun a ha => hkk a (by rwa [rrs_at hn] at ha)
  have cl : ∀ {Hx : Heap} {a : Addr} {x : Rr}, hcells Hx a 0 (rrV x) → hcell Hx (a.add 3) = some (slV x.rou.sl) ∧ hcell Hx (a.add 13) = some (.int .i64 (x.place : Nat)) := fun h => by
    have h3 := hcells_iff.1 h 3 (by simp)
    have h13 := hcells_iff.1 h 13 (by simp)
    exact ⟨by simpa using h3, by simpa using h13⟩
  have hcl : ∀ {n : Nat}, n < ss.length + fs.length → ((rousL ss fs)[n]!).code.length ≤ 2000 := fun hn => may_len hM hn
  have hat : ∀ n, sumL ((rousL ss fs).take n) ≤ 2000 := fun n => sum_le hM n
  have hcx : ∀ {Hx : Heap} {n : Nat}, Ext H4 Hx → n < ss.length + fs.length → CodeR Hx ((rousL ss fs)[n]!) := fun hE hn => rouR_at (hPx hE) hn
  have out : ∀ {a e : Nat} {Hx : Heap}, Ext H4 Hx → (List.range 4).findSome? (lookO ks ss fs) = some (a, e) → k ((a : Nat), (e : Nat)) Hx := fun hE h => by
    have := hk _ (hE4'.trans hE fun _ _ h => h)
    rw [h] at this; exact this
  -- the sets
  refine LoopT.mk (fun (i : Int) H' => ∃ n : Nat, i = n ∧ n ≤ ss.length ∧ Ext H4 H' ∧ ∀ j, j < n → setsBad ks (ss[j]!) = false) (fun i _ => ss.length - i.toNat) ⟨0, rfl, Nat.zero_le _, e4, fun j hj => by omega⟩ ?_
  rintro next1 _ H5 ⟨n, rfl, hn, hE5, hno⟩ hnext1
  refine Ld_sl (s := p.1) (((hp4 hE5).cell 0).trans rfl) (Br_dec (fun hlt => ?_) fun hge => ?_)
  · have hn3 : n < ss.length := by omega
    have hmem : ss[n]! ∈ ss := by rw [getElem!_pos ss n hn3]; exact List.getElem_mem hn3
    have hx0 : ∀ {Hx}, Ext H4 Hx → SyR Hx (ss[n]!) := fun hE => (hPx hE).sysR _ hmem
    refine Ld_sl (s := p.1) (((hp4 hE5).cell 0).trans rfl) (IxA_rn' sysV_len (hPx hE5).sys (by omega) (j := n) rfl hn3 fun a ha => ?_)
    generalize hxe : ss[n]! = x at *
    refine ld_sys ha (sys_copy (x := x) fun b2 H14 hb2 hE14 hr14 => ?_)
    refine Ld_sl (s := x.s 0) ((hr14.cell 0).trans rfl) (Ld_sl (s := x.s 1) ((hr14.cell 1).trans rfl) (Ld_sl (s := x.s 2) ((hr14.cell 2).trans rfl) (Ld_sl (s := x.s 3) ((hr14.cell 3).trans rfl) ?_)))
    refine Nw_row (vs := [slV (x.s 0), slV (x.s 1), slV (x.s 2), slV (x.s 3)]) fun b3 H15 hb3 hE15 _ hr15 => ?_
    have hE15' := hE5.trans (hE14.trans hE15 fun _ _ h => h) fun _ _ h => h
    have hx := hx0 hE15'
    have hcq : ∀ q, q < 4 → hcell H15 ⟨b3, q, none⟩ = some (slV (x.s q)) := fun q hq => by
      rw [hr15.cell]
      match q, hq with
      | 0, _ => rfl
      | 1, _ => rfl
      | 2, _ => rfl
      | 3, _ => rfl
    have h4 : ∀ {q : Nat} {kk : Addr → Prop}, q < 4 → kk ⟨b3, q, none⟩ → IxA 1 ⟨some (adr b3), 4, 4⟩ (q : Int) kk := fun hq h => IxA_adr (by omega) (by omega) (by rw [Int.toNat_natCast, Nat.mul_one]; exact h)
    refine LoopT.mk (fun (i : Int) H' => H15 = H' ∧ ∃ q : Nat, i = q ∧ q ≤ 4 ∧ ∀ e, e < q → ∀ y ∈ x.l e, ¬ y > (ks.length : Int)) (fun i _ => 4 - i.toNat) ⟨rfl, 0, rfl, by omega, fun e he => by omega⟩ ?_
    rintro next2 _ _ ⟨rfl, q, rfl, hq, hq2⟩ hnext2
    refine Br_dec (fun hlt2 => ?_) fun hge2 => ?_
    · have hq3 : q < 4 := by omega
      have hsq := hx.sets q hq3
      have hlq := hx.lens q hq3
      have hsl2 := hsq.len
      refine LoopT.mk (fun (i : Int) H' => H15 = H' ∧ ∃ m : Nat, i = m ∧ m ≤ (x.l q).length ∧ ∀ j (h : j < (x.l q).length), j < m → ¬ (x.l q)[j] > (ks.length : Int)) (fun i _ => (x.l q).length - i.toNat) ⟨rfl, 0, rfl, by omega, fun j _ hj => by omega⟩ ?_
      rintro next3 _ _ ⟨rfl, m, rfl, hm, hm2⟩ hnext3
      refine h4 hq3 (Ld_sl (s := x.s q) (hcq q hq3) (Br_dec (fun hlt3 => ?_) fun hge3 => ?_))
      · have hm3 : m < (x.l q).length := by omega
        refine h4 hq3 (Ld_sl (s := x.s q) (hcq q hq3) (IxA_rl hsq rfl hm3 fun a4 ha4 => Ld_int ha4 (Br_dec (fun hbad => ?_) fun hok => ?_)))
        · refine hel hE15' (by omega) fun a5 ha5 => Ld_int (cl ha5).2 ?_
          have hb : setsBad ks (ss[n]!) = true := by
            rw [hxe]
            unfold setsBad
            exact List.any_eq_true.2 ⟨q, List.mem_range.2 hq3, List.any_eq_true.2 ⟨_, List.getElem_mem hm3, decide_eq_true (by omega)⟩⟩
          refine out (a := sumL ((rousL ss fs).take n)) (e := 60) hE15' (findSome_range (i := 0) (by omega) (fun j hj => by omega) ?_)
          show setsO ks ss fs = _
          unfold setsO
          have : (List.range ss.length).find? (fun i => setsBad ks (ss[i]!)) = some n := by
            rw [List.find?_range_eq_some]
            exact ⟨hb, List.mem_range.2 hn3, fun j hj => by rw [hno j hj]; rfl⟩
          rw [this]; rfl
        · refine Lt.mk (u := ((m + 1 : Nat) : Int)) (by rw [wrap_i64_id] <;> omega) (hnext3 _ _ ⟨rfl, m + 1, rfl, hm3, fun j hj hjm => ?_⟩ (by omega))
          rcases Nat.lt_or_ge j m with g | g
          · exact hm2 j hj g
          · have : j = m := by omega
            subst this; omega
      · refine Lt.mk (u := ((q + 1 : Nat) : Int)) (by rw [wrap_i64_id] <;> omega) (hnext2 _ _ ⟨rfl, q + 1, rfl, hq3, fun e he y hy => ?_⟩ (by omega))
        rcases Nat.lt_or_ge e q with g | g
        · exact hq2 e g y hy
        · have : e = q := by omega
          subst this
          obtain ⟨j, hj, rfl⟩ := List.getElem_of_mem hy
          exact hm2 j hj (by omega)
    · refine Lt.mk (u := ((n + 1 : Nat) : Int)) (by rw [wrap_i64_id] <;> omega) (hnext1 _ _ ⟨n + 1, rfl, hn3, hE15', fun j hj => ?_⟩ (by omega))
      rcases Nat.lt_or_ge j n with g | g
      · exact hno j g
      · have : j = n := by omega
        subst this
        rw [hxe]
        unfold setsBad
        rw [Bool.eq_false_iff]
        intro g
        obtain ⟨q', hq', g2⟩ := List.any_eq_true.1 g
        obtain ⟨y, hy, g3⟩ := List.any_eq_true.1 g2
        have := List.mem_range.1 hq'
        exact hq2 q' (by omega) y hy (of_decide_eq_true g3)
  have hsets : setsO ks ss fs = none := by
    unfold setsO
    have : (List.range ss.length).find? (fun i => setsBad ks (ss[i]!)) = none := by
      rw [List.find?_range_eq_none]
      intro j hj
      rw [hno j (by omega)]; rfl
    rw [this]; rfl
  -- what is touched
  refine LoopT.mk (fun (i : Int) H' => ∃ n : Nat, i = n ∧ n ≤ ss.length + fs.length ∧ Ext H4 H' ∧ ∀ j, j < n → tI ks ss fs j = none) (fun i _ => ss.length + fs.length - i.toNat) ⟨0, rfl, Nat.zero_le _, hE5, fun j hj => by omega⟩ ?_
  rintro next4 _ H18 ⟨n4, rfl, hn4, hE18, hno4⟩ hnext4
  refine Br_dec (fun hlt4 => ?_) fun hge4 => ?_
  · have hn3 : n4 < ss.length + fs.length := by omega
    have hcl4 := hcl hn3
    have hat4 := hat n4
    refine LoopT.mk (fun (i : Int) H' => ∃ j : Nat, i = j ∧ j ≤ ((rousL ss fs)[n4]!).code.length ∧ Ext H4 H' ∧ ∀ e, e < j → tAt ks fs.length (syAt ss n4) ((rousL ss fs)[n4]!) e = 0) (fun i _ => ((rousL ss fs)[n4]!).code.length - i.toNat) ⟨0, rfl, Nat.zero_le _, hE18, fun e he => by omega⟩ ?_
    rintro next5 _ H19 ⟨j, rfl, hj, hE19, hz⟩ hnext5
    have hxl := (hcx hE19 hn3).len
    refine hel hE19 hn3 fun a6 ha6 => Ld_sl (s := ((rousL ss fs)[n4]!).sl) (cl ha6).1 (Br_dec (fun hlt5 => ?_) fun hge5 => ?_)
    · have hj3 : j < ((rousL ss fs)[n4]!).code.length := by omega
      refine ⟨p, (hp4 hE19).rd_all, hel hE19 hn3 fun a7 ha7 => ?_⟩
      let z : Sy := (syAt ss n4).getD zeroSy
      refine ⟨(((rousL ss fs)[n4]!).name, ((rousL ss fs)[n4]!).params, ((rousL ss fs)[n4]!).locals, ((rousL ss fs)[n4]!).sl, z.s 0, z.s 1, z.s 2, z.s 3, z.rou.name, z.rou.params, z.rou.locals, z.rou.sl, (syAt ss n4).isSome, ((sumL ((rousL ss fs).take n4) : Nat) : Int)), ha7, ?_⟩
      refine s_raccess (x := rrAt ss fs n4) hfl (hKx hE19) (hcx hE19 hn3) hcl4 (fun y hy => ?_) hj3 fun H20 hE20 => ?_
      · have hy : syAt ss n4 = some y := hy
        unfold syAt at hy
        split at hy
        · rename_i h
          cases hy
          exact (hPx hE19).sysR _ (by rw [getElem!_pos ss n4 h]; exact List.getElem_mem h)
        · cases hy
      have hE20' := hE19.trans hE20 fun _ _ h => h
      show Br (((tAt ks fs.length (syAt ss n4) ((rousL ss fs)[n4]!) j : Nat) : Int) != 0) _ _
      by_cases ht : tAt ks fs.length (syAt ss n4) ((rousL ss fs)[n4]!) j = 0
      · rw [ht]
        refine (Br_false _ _).2 (Lt.mk (u := ((j + 1 : Nat) : Int)) (by rw [wrap_i64_id] <;> omega) (hnext5 _ _ ⟨j + 1, rfl, hj3, hE20', fun e he => ?_⟩ (by omega)))
        rcases Nat.lt_or_ge e j with g | g
        · exact hz e g
        · have : e = j := by omega
          subst this; exact ht
      · rw [show (((tAt ks fs.length (syAt ss n4) ((rousL ss fs)[n4]!) j : Nat) : Int) != 0) = true by rw [bne_iff_ne]; omega]
        refine (Br_true _ _).2 (hel hE20' hn3 fun a8 ha8 => Ld_int (cl ha8).2 (Lt.mk (u := ((sumL ((rousL ss fs).take n4) + j : Nat) : Int)) (by show IntKind.wrap .i64 (((sumL ((rousL ss fs).take n4) : Nat) : Int) + (j : Int)) = _; rw [wrap_i64_id] <;> omega) ?_))
        refine out hE20' (findSome_range (i := 1) (by omega) (fun j hj => ?_) ?_)
        · have : j = 0 := by omega
          subst this; exact hsets
        · show touchO ks ss fs = _
          refine findSome_range hn3 hno4 ?_
          unfold tI
          rw [tR_some hj3 hz ht]; rfl
    · refine Lt.mk (u := ((n4 + 1 : Nat) : Int)) (by rw [wrap_i64_id] <;> omega) (hnext4 _ _ ⟨n4 + 1, rfl, hn3, hE19, fun e he => ?_⟩ (by omega))
      rcases Nat.lt_or_ge e n4 with g | g
      · exact hno4 e g
      · have : e = n4 := by omega
        subst this
        unfold tI
        rw [tR_none fun e he => hz e (by omega)]; rfl
  have htouch : touchO ks ss fs = none := findSome_none fun j hj => hno4 j (by omega)
  have hin : CallsIn fs := calls_in htouch
  -- who calls itself
  refine LoopT.mk (fun (i : Int) H' => ∃ n : Nat, i = n ∧ n ≤ fs.length ∧ Ext H4 H' ∧ ∀ j, j < n → roundB fs j = false) (fun i _ => fs.length - i.toNat) ⟨0, rfl, Nat.zero_le _, hE18, fun j hj => by omega⟩ ?_
  rintro next6 _ H21 ⟨n6, rfl, hn6, hE21, hno6⟩ hnext6
  refine Ld_sl (s := p.2) (((hp4 hE21).cell 1).trans rfl) (Br_dec (fun hlt6 => ?_) fun hge6 => ?_)
  · have hn3 : n6 < fs.length := by omega
    have hclf : ∀ r ∈ fs, r.code.length ≤ 2000 := fun r hr => by
      obtain ⟨j, hj, rfl⟩ := List.getElem_of_mem hr
      have := hcl (n := ss.length + j) (by omega)
      rwa [rous_fun hj, getElem!_pos fs j hj] at this
    refine ⟨p, (hp4 hE21).rd_all, s_loops (hPx hE21).fun' (hPx hE21).funR hclf m2 hin hn3 fun H22 hE22 => ?_⟩
    have hE22' := hE21.trans hE22 fun _ _ h => h
    refine Br.mk (fun hb => ?_) fun hb => ?_
    · refine Ld_sl (s := p.1) (((hp4 hE22').cell 0).trans rfl) (Lt.mk (u := ((ss.length + n6 : Nat) : Int)) (by rw [wrap_i64_id] <;> omega) (hel hE22' (by omega) fun a9 ha9 => Ld_int (cl ha9).2 ?_))
      refine out hE22' (findSome_range (i := 2) (by omega) (fun j hj => ?_) ?_)
      · match j, hj with
        | 0, _ => exact hsets
        | 1, _ => exact htouch
      · show callsO ss fs = _
        unfold callsO
        have : (List.range fs.length).find? (roundB fs) = some n6 := by
          rw [List.find?_range_eq_some]
          exact ⟨hb, List.mem_range.2 hn3, fun j hj => by rw [hno6 j hj]; rfl⟩
        rw [this]; rfl
    · refine Lt.mk (u := ((n6 + 1 : Nat) : Int)) (by rw [wrap_i64_id] <;> omega) (hnext6 _ _ ⟨n6 + 1, rfl, hn3, hE22', fun j hj => ?_⟩ (by omega))
      rcases Nat.lt_or_ge j n6 with g | g
      · exact hno6 j g
      · have : j = n6 := by omega
        subst this; exact hb
  have hcalls : callsO ss fs = none := by
    unfold callsO
    have : (List.range fs.length).find? (roundB fs) = none := by
      rw [List.find?_range_eq_none]
      intro j hj
      rw [hno6 j (by omega)]; rfl
    rw [this]; rfl
  have look3 : ∀ j, j < 3 → lookO ks ss fs j = none := fun j hj => by
    match j, hj with
    | 0, _ => exact hsets
    | 1, _ => exact htouch
    | 2, _ => exact hcalls
  -- the ways
  refine LoopT.mk (fun (st : Sl × Int) H' => ∃ (n : Nat) (ds : List Sl), st.2 = n ∧ n ≤ ss.length + fs.length ∧ ds.length = n ∧ Ext H4 H' ∧ Vec H' T_Sl_int st.1 (ds.map slV) ∧ (∀ b, st.1.a = some (adr b) → H4.size ≤ b) ∧ (∀ j, j < n → Vec H' T_int (ds[j]!) (ints ((List.range ((rousL ss fs)[j]!).code.length).map (depI ((rousL ss fs)[j]!).code (parms fs))))) ∧ ∀ j, j < n → wholeI ss fs j = none)
    (fun st _ => ss.length + fs.length - st.2.toNat) ⟨0, [], rfl, Nat.zero_le _, rfl, hE21, Vec.nil _ _, (fun b hb => by cases hb), (fun j hj => by omega), fun j hj => by omega⟩ ?_
  rintro next7 ⟨s7, _⟩ H23 ⟨n7, ds, rfl, hn7, hds, hE23, hv7, hsb7, hd7, hno7⟩ hnext7
  dsimp only at hv7 hsb7 ⊢
  refine Br_dec (fun hlt7 => ?_) fun hge7 => ?_
  · have hn3 : n7 < ss.length + fs.length := by omega
    have hcl7 := hcl hn3
    have hat7 := hat n7
    refine ⟨p, (hp4 hE23).rd_all, hel hE23 hn3 fun a10 ha10 => ?_⟩
    refine ld_rou (r := (rousL ss fs)[n7]!) (hcells_app.1 (hcells_app.1 ha10).1).1 (s_rDepths (p := p) (r := (rousL ss fs)[n7]!) (hcx hE23 hn3) (hPx hE23).fun' hI fun d H24 hE24 hd hdlo => ?_)
    have hE24' := hE23.trans hE24 fun _ _ h => h
    obtain ⟨u1, u2⟩ := dep_ref hd
    obtain ⟨w1, w2⟩ := depO_whole (ps := parms fs) hcl7
    have U1 : d.2.1 = (foI (depO ((rousL ss fs)[n7]!).code (parms fs))).1 := by rw [u1]
    have U2 : d.2.2 = (foI (depO ((rousL ss fs)[n7]!).code (parms fs))).2.1 := by rw [u1]
    rw [U1, U2]
    cases ho : depO ((rousL ss fs)[n7]!).code (parms fs) with
    | some ae =>
      obtain ⟨a, e⟩ := ae
      have hW := w1 a e ho
      have hne := wholeS_ne hW
      have hbd := wholeS_bd hW
      show Br ((e : Int) != 0) _ _
      rw [show ((e : Int) != 0) = true by rw [bne_iff_ne]; omega]
      refine (Br_true _ _).2 (hel hE24' hn3 fun a11 ha11 => Ld_int (cl ha11).2 (Lt.mk (u := ((sumL ((rousL ss fs).take n7) + a : Nat) : Int)) (by show IntKind.wrap .i64 (((sumL ((rousL ss fs).take n7) : Nat) : Int) + (a : Int)) = _; rw [wrap_i64_id] <;> omega) ?_))
      refine out hE24' (findSome_range (i := 3) (by omega) look3 ?_)
      show waysO ss fs = _
      unfold waysO
      have hwI : wholeI ss fs n7 = some (sumL ((rousL ss fs).take n7) + a, e) := by unfold wholeI; rw [hW]
      rw [findSome_range hn3 hno7 hwI]
    | none =>
      obtain ⟨hW, hX⟩ := w2 ho
      rw [hX] at u2
      refine (Br_false _ _).2 (Nw_row (vs := [slV d.1]) fun b4 H25 hb4 hE25 _ hr25 => ?_)
      have hv25 := (hv7.ext hE24).ext hE25
      have hvl := hv25.len
      rw [List.length_map] at hvl
      refine App_vec2 (ws := [slV d.1]) hv25 (Row.rd_all hr25) rfl (by simp [Value.oneCell']) (by omega) (by simp only [List.length_map, List.length_singleton]; omega) fun l1 H26 hv26 hU26 ha26 hz26 => ?_
      have hE25' := hE24'.trans hE25 fun _ _ h => h
      have z25 := hE25'.size
      have keep : ∀ {s : Sl} {vs : List Value}, Vec H25 T_int s vs → Vec H26 T_int s vs := fun h => Vec.updT hU26 h fun b ws hr e => hv25.ne e.1 hr (by decide) rfl
      have hget : ∀ j, j < n7 → (ds ++ [d.1])[j]! = ds[j]! := fun j hj => by
        rw [getElem!_pos _ j (by simp; omega), List.getElem_append_left (by omega), getElem!_pos ds j (by omega)]
      have hgetn : (ds ++ [d.1])[n7]! = d.1 := by
        rw [getElem!_pos _ n7 (by simp; omega)]
        simp [← hds]
      refine Lt.mk (u := ((n7 + 1 : Nat) : Int)) (by rw [wrap_i64_id] <;> omega) (hnext7 _ _ ⟨n7 + 1, ds ++ [d.1], rfl, hn3, by simp; omega, hE25'.trans hU26 fun b hb e => by have := hsb7 b e.1; omega, by simpa using hv26, fun b hb => ?_, fun j hj => ?_, fun j hj => ?_⟩ (by dsimp only; omega))
      · rcases ha26 with ⟨g, _⟩ | g
        · rw [g] at hb; exact hsb7 b hb
        · rw [g] at hb; cases hb; omega
      · rcases Nat.lt_or_ge j n7 with g | g
        · rw [hget j g]; exact keep (((hd7 j g).ext hE24).ext hE25)
        · have : j = n7 := by omega
          subst this
          rw [hgetn]; exact keep (u2.ext hE25)
      · rcases Nat.lt_or_ge j n7 with g | g
        · exact hno7 j g
        · have : j = n7 := by omega
          subst this
          unfold wholeI; rw [hW]
  have hn77 : n7 = ss.length + fs.length := by omega
  subst hn77
  have hways : waysO ss fs = (List.range (ss.length + fs.length)).findSome? (turnI ss fs) := by
    unfold waysO
    rw [findSome_none hno7]
  have hv7l := hv7.len
  rw [List.length_map, hds] at hv7l
  refine LoopT.mk (fun (i : Int) H' => ∃ n : Nat, i = n ∧ n ≤ ss.length + fs.length ∧ Ext H23 H' ∧ ∀ j, j < n → turnI ss fs j = none) (fun i _ => ss.length + fs.length - i.toNat) ⟨0, rfl, Nat.zero_le _, .refl _ _, fun j hj => by omega⟩ ?_
  rintro next8 _ H27 ⟨n8, rfl, hn8, hE27, hno8⟩ hnext8
  refine Br_dec (fun hlt8 => ?_) fun hge8 => ?_
  · have hn3 : n8 < ss.length + fs.length := by omega
    have hcl8 := hcl hn3
    have hat8 := hat n8
    have hW : wholeS ((rousL ss fs)[n8]!).code (parms fs) = .ok () := by
      have := hno7 n8 hn3
      unfold wholeI at this
      cases g : wholeS ((rousL ss fs)[n8]!).code (parms fs) with
      | error ae => rw [g] at this; cases this
      | ok u => rfl
    obtain ⟨_, hgood⟩ := wholeS_ok hW
    have hdv : ∀ {Hx}, Ext H23 Hx → Vec Hx T_int (ds[n8]!) (ints ((List.range ((rousL ss fs)[n8]!).code.length).map (depI ((rousL ss fs)[n8]!).code (parms fs)))) := fun hE => (hd7 n8 hn3).ext hE
    have hdl : (ds[n8]!).len = ((rousL ss fs)[n8]!).code.length := by have := (hdv (.refl _ _)).len; simpa using this
    have hgd : ∀ {Hx : Heap} {kk : Sl → Prop}, Ext H23 Hx → kk (ds[n8]!) → IxA 1 s7 (n8 : Int) fun a => Ld .sl a Hx kk := fun hE hkk => IxA_vec (hv7.ext hE) (by omega) (by rw [List.length_map]; omega) fun a ha _ => Ld_sl (s := ds[n8]!) (by rw [ha, Int.toNat_natCast, List.getElem?_map, List.getElem?_eq_getElem (by omega), getElem!_pos ds n8 (by omega)]; rfl) hkk
    refine LoopT.mk (fun (i : Int) H' => ∃ j : Nat, i = j ∧ j ≤ ((rousL ss fs)[n8]!).code.length ∧ Ext H23 H' ∧ ∀ e, e < j → turnB ((rousL ss fs)[n8]!).code (parms fs) e = false) (fun i _ => ((rousL ss fs)[n8]!).code.length - i.toNat) ⟨0, rfl, Nat.zero_le _, hE27, fun e he => by omega⟩ ?_
    rintro next9 _ H28 ⟨j, rfl, hj, hE28, hz⟩ hnext9
    have hE28' := hE23.trans hE28 fun _ _ h => h
    refine hgd hE28 (Br_dec (fun hlt9 => ?_) fun hge9 => ?_)
    · have hj3 : j < ((rousL ss fs)[n8]!).code.length := by omega
      refine hel hE28' hn3 fun a13 ha13 => Ld_sl (s := ((rousL ss fs)[n8]!).sl) (cl ha13).1 (hgd hE28 ?_)
      refine s_rround (hcx hE28' hn3) (hdv hE28).rl hcl8 hgood hj3 fun H29 hE29 => ?_
      have hE29' := hE28.trans hE29 fun _ _ h => h
      have hE29h := hE28'.trans hE29 fun _ _ h => h
      refine Br.mk (fun hb => ?_) fun hb => ?_
      · refine hel hE29h hn3 fun a15 ha15 => Ld_int (cl ha15).2 (Lt.mk (u := ((sumL ((rousL ss fs).take n8) + j : Nat) : Int)) (by show IntKind.wrap .i64 (((sumL ((rousL ss fs).take n8) : Nat) : Int) + (j : Int)) = _; rw [wrap_i64_id] <;> omega) ?_)
        refine out hE29h (findSome_range (i := 3) (by omega) look3 ?_)
        show waysO ss fs = _
        rw [hways]
        refine findSome_range hn3 hno8 ?_
        unfold turnI
        have : (List.range ((rousL ss fs)[n8]!).code.length).find? (turnB ((rousL ss fs)[n8]!).code (parms fs)) = some j := by
          rw [List.find?_range_eq_some]
          exact ⟨hb, List.mem_range.2 hj3, fun e he => by rw [hz e he]; rfl⟩
        rw [this]; rfl
      · refine Lt.mk (u := ((j + 1 : Nat) : Int)) (by rw [wrap_i64_id] <;> omega) (hnext9 _ _ ⟨j + 1, rfl, hj3, hE29', fun e he => ?_⟩ (by omega))
        rcases Nat.lt_or_ge e j with g | g
        · exact hz e g
        · have : e = j := by omega
          subst this; exact hb
    · refine Lt.mk (u := ((n8 + 1 : Nat) : Int)) (by rw [wrap_i64_id] <;> omega) (hnext8 _ _ ⟨n8 + 1, rfl, hn3, hE28, fun e he => ?_⟩ (by omega))
      rcases Nat.lt_or_ge e n8 with g | g
      · exact hno8 e g
      · have : e = n8 := by omega
        subst this
        unfold turnI
        have : (List.range ((rousL ss fs)[e]!).code.length).find? (turnB ((rousL ss fs)[e]!).code (parms fs)) = none := by
          rw [List.find?_range_eq_none]
          intro q hq
          rw [hz q (by omega)]; rfl
        rw [this]; rfl
  · have hn88 : n8 = ss.length + fs.length := by omega
    subst hn88
    have hkk := hk _ (hE4'.trans (hE23.trans hE27 fun _ _ h => h) fun _ _ h => h)
    have hall : (List.range 4).findSome? (lookO ks ss fs) = none := findSome_none fun j hj => by
      rcases Nat.lt_or_ge j 3 with g | g
      · exact look3 j g
      · have : j = 3 := by omega
        subst this
        show waysO ss fs = none
        rw [hways, findSome_none hno8]
    rw [hall] at hkk
    exact hkk
end Go.Proofs.YtlkmmplgfjicjaaGreat
/-
  Kinds that are lent.
-/
namespace Go.Proofs.YtlkmmplgfjicjaaGreat
set_option linter.unusedVariables false
set_option linter.unusedSimpArgs false
open Go.Proofs.YtlkmmplgfjicjaaGreat.Hc Go.Proofs.YtlkmmplgfjicjaaGreat.Hc.Vf
set_option maxRecDepth 100000
variable {H : Heap}

abbrev strV (xs : List ByteArray) : List Value := xs.map Value.string
def behindK : Ki := ⟨nmBehind, ⟨none, 0, 0⟩, []⟩
structure LKi (H : Heap) (x : Ki) : Prop where
  vec : Vec H T_string ⟨x.s.a, x.l.length + 2, x.s.cap⟩ (strV (x.l ++ [nmBehind, nmBehind]))
  len : x.s.len = x.l.length
structure NamedK (H : Heap) (s : Sl) (ks : List Ki) : Prop where
  sv : VecN H T_api_Kind 2 ⟨s.a, ks.length + 1, s.cap⟩ ((ks ++ [behindK]).flatMap kiV)
  sl : s.len = ks.length
  el : ∀ x ∈ ks, LKi H x
abbrev eraK (x : Ki) : ByteArray × List ByteArray := (x.name, x.l)
theorem LKi.updT {M : Nat → Prop} {H' : Heap} (hu : Upd M H H') {x : Ki} (h : LKi H x) (hn : ∀ b ws, Row H b T_string ws → ¬ M b) : LKi H' x := ⟨Vec.updT hu h.vec hn, h.len⟩
theorem LKi.ext {H' : Heap} (hE : Ext H H') {x : Ki} (h : LKi H x) : LKi H' x := h.updT hE fun _ _ _ h => h
theorem NamedK.ext {H' : Heap} (hE : Ext H H') {s : Sl} {ks : List Ki} (h : NamedK H s ks) : NamedK H' s ks := ⟨h.sv.ext hE, h.sl, fun x hx => (h.el x hx).ext hE⟩
theorem LKi.rl {x : Ki} (h : LKi H x) : RL Value.string H x.s x.l := by
  have hl := h.vec.lc
  dsimp only at hl
  have := h.vec.pre (n := x.l.length) (c := x.s.cap) (by simp) (Nat.le_refl _) (by omega)
  have e : (strV (x.l ++ [nmBehind, nmBehind])).take x.l.length = strV x.l := by unfold strV; rw [List.map_append, List.take_left' (by simp)]
  rw [e] at this
  have hr := Vec.rl (f := Value.string) this
  rw [← h.len] at hr
  exact hr
theorem NamedK.kds {s : Sl} {ks' ks : List Ki} (h : NamedK H s ks') {H0 : Heap} {s0 : Sl} (hK : KdsR H0 s0 ks) (he : ks'.map eraK = ks.map eraK) : KdsR H s ks' := by
  have h2 := all_via (f := eraK) (P := fun e => e.2.length ≤ 2 ^ 60 ∧ (∀ y ∈ e.2, y.size ≤ 2 ^ 60) ∧ e.1.size ≤ 2 ^ 60) he.symm fun x hx => ⟨hK.ll x hx, hK.lw x hx, hK.ln x hx⟩
  refine ⟨rn_pre kiV_len (by omega) h.sv h.sl, fun x hx => (h.el x hx).rl, fun x hx => (h2 x hx).1, fun x hx => (h2 x hx).2.1, fun x hx => (h2 x hx).2.2, ?_⟩
  rw [map_len he]; exact hK.len
theorem kiV_one (x : Ki) : ∀ w ∈ kiV x, w.oneCell' = true := by simp [Value.oneCell']
theorem strV_one (xs : List ByteArray) : ∀ w ∈ strV xs, w.oneCell' = true := fun w hw => by obtain ⟨x, _, rfl⟩ := List.mem_map.1 hw; rfl
theorem kiCells {a : Addr} {x : Ki} (h : hcells H a 0 (kiV x)) : hcell H a = some (.string x.name) ∧ hcell H (a.add 1) = some (slV x.s) := by
  have h0 := hcells_iff.1 h 0 (by simp)
  have h1 := hcells_iff.1 h 1 (by simp)
  rw [Nat.zero_add, add_zero] at h0
  exact ⟨by simpa using h0, by simpa using h1⟩
theorem s_named {sl : Sl} {ks : List Ki} (hK : KdsR H sl ks) (hkl : ks.length * 40 ≤ 2 ^ 47) (hll : ∀ x ∈ ks, x.l.length * 16 ≤ 2 ^ 47) {k : Sl → Heap → Prop} (hk : ∀ s ks' H', Ext H H' → NamedK H' s ks' → (∀ b, s.a = some (adr b) → H.size ≤ b) → ks'.map eraK = ks.map eraK → k s H') :
    CallT Pg f_hindcastlaw15_named [.slice sl.a sl.len sl.cap] (.one (.c .sl)) H k := by
  refine c_hindcastlaw15_named _ ?_
  unfold v_hindcastlaw15_named
  have hsl := hK.rn.len
  refine LoopT.mk (fun (st : Sl × Int) H' => ∃ (n : Nat) (ks' : List Ki), st.2 = n ∧ n ≤ ks.length ∧ ks'.map eraK = (ks.take n).map eraK ∧ Ext H H' ∧ VecN H' T_api_Kind 2 st.1 (ks'.flatMap kiV) ∧ (∀ b, st.1.a = some (adr b) → H.size ≤ b) ∧ ∀ x ∈ ks', LKi H' x) (fun st _ => ks.length - st.2.toNat)
    ⟨0, [], rfl, Nat.zero_le _, rfl, .refl _ _, VecN.nil _ _ _, (fun b hb => by cases hb), fun x hx => by cases hx⟩ ?_
  rintro next ⟨s, _⟩ H1 ⟨n, ks', rfl, hn, hera, hE1, hv, hsb, hls⟩ hnext
  dsimp only at hv hsb ⊢
  have hkl' : ks'.length = n := by
    have := congrArg List.length hera
    simp only [List.length_map, List.length_take] at this; omega
  have hvl := hv.len
  rw [flat_len kiV_len, hkl'] at hvl
  refine Br_dec (fun hlt => ?_) fun hge => ?_
  · have hn3 : n < ks.length := by omega
    have hmem : ks[n]! ∈ ks := by rw [getElem!_pos ks n hn3]; exact List.getElem_mem hn3
    have hel : ∀ {Hx : Heap} {a0 : Addr}, Ext H Hx → sl.a = some a0 → hcell Hx (a0.add (n * 2)) = some (.string (ks[n]!).name) ∧ hcell Hx ((a0.add (n * 2)).add 1) = some (slV (ks[n]!).s) := fun hE ha => kiCells (RN.elt kiV_len (hK.rn.ext hE) ha hn3)
    have hat : ∀ {kk : Addr → Prop}, (∀ a0, sl.a = some a0 → kk (a0.add (n * 2))) → IxA 2 sl (n : Int) kk := fun hkk => IxA_rnb kiV_len hK.rn (by omega) (j := n) rfl hn3 hkk
    have hrl : ∀ {Hx}, Ext H Hx → RL Value.string Hx (ks[n]!).s (ks[n]!).l := fun hE => (hK.el _ hmem).ext hE
    have hlx := hll _ hmem
    have htk : ks.take (n + 1) = ks.take n ++ [ks[n]!] := by rw [List.take_add_one, List.getElem?_eq_getElem hn3, getElem!_pos ks n hn3]; rfl
    generalize ks[n]! = x at *
    have hxl := (hrl (.refl _ _)).len
    refine hat fun a0 ha0 => Ld_sl (s := x.s) (hel hE1 ha0).2 ?_
    refine App_vec2 (ws := strV x.l) (Vec.nil H1 T_string) (hrl hE1).rd (by simp [hxl]) (strV_one _) (by omega) (by simp only [List.length_nil, List.length_map]; omega) fun l1 H2 hv2 hU2 ha2 hz2 => ?_
    have hE2 : Ext H1 H2 := hU2.mono fun b _ e => by cases e.1
    refine Nw_row (vs := strV [nmBehind, nmBehind]) fun b1 H3 hb1 hE3 _ hr3 => ?_
    have hv3 := hv2.ext hE3
    have hl3 := hv2.len
    simp only [List.nil_append, List.length_map] at hl3
    refine App_vec2 (ws := strV [nmBehind, nmBehind]) hv3 (Row.rd_all hr3) rfl (strV_one _) (by omega) (by simp only [List.nil_append, List.length_map, List.length_cons, List.length_nil]; omega) fun l2 H4 hv4 hU4 ha4 hz4 => ?_
    have hE4 : Ext H1 H4 := (hE2.trans hE3 fun _ _ h => h).trans hU4 fun b hb e => by
      rcases ha2 with ⟨g, _⟩ | g
      · rw [g] at e; cases e.1
      · rw [g] at e; cases e.1; omega
    have hE4' := hE1.trans hE4 fun _ _ h => h
    have hl4 := hv4.len
    have hc4 := hv4.lc
    simp only [List.nil_append, List.length_append, List.length_map, List.length_cons, List.length_nil] at hl4
    refine hat fun a0' ha0' => Ld_str (hel hE4' ha0').1 (hat fun a1 ha1 => Ld_sl (s := x.s) (hel hE4' ha1).2 ?_)
    rw [ha0] at ha0' ha1
    cases ha0'
    cases ha1
    refine SlA0 (by omega) (by omega) (Int.le_refl _) ?_
    rw [Int.toNat_natCast, Int.toNat_natCast]
    let x' : Ki := ⟨x.name, ⟨l2.a, x.s.len, l2.cap⟩, x.l⟩
    have hlx' : LKi H4 x' := by
      refine ⟨?_, hxl⟩
      have e : (⟨l2.a, x.l.length + 2, l2.cap⟩ : Sl) = l2 := by rw [show x.l.length + 2 = l2.len by omega]
      show Vec H4 T_string ⟨l2.a, x.l.length + 2, l2.cap⟩ _
      rw [e]
      simpa [strV] using hv4
    refine Nw_row (vs := kiV x') fun b2 H5 hb2 hE5 _ hr5 => ?_
    have hE5' := hE4'.trans hE5 fun _ _ h => h
    refine Stab_2 (hel hE5' ha0).2 (hel hE5' ha0).1 ?_
    have hv5 := (hv.ext hE4).ext hE5
    refine App_vecN (n := 2) rfl (by omega) hv5 (ws := kiV x') (Row.rd_all hr5) rfl (kiV_one x') (by omega) (by simp only; omega) fun l4 H6 hv6 hl6 hU6 ha6 => ?_
    have z5 := hE5'.size
    have hE6 : Ext H H6 := hE5'.trans hU6 fun b hb e => by have := hsb b e.1; omega
    refine Stab_2 (hel hE6 ha0).2 (hel hE6 ha0).1 (Lt.mk (u := ((n + 1 : Nat) : Int)) (by rw [wrap_i64_id] <;> omega) (hnext _ _ ⟨n + 1, ks' ++ [x'], rfl, hn3, ?_, hE6, ?_, fun b hb => ?_, fun y hy => ?_⟩ (by dsimp only; omega)))
    · rw [htk, List.map_append, List.map_append, hera]; rfl
    · rw [snocF]; exact hv6
    · rcases ha6 with ⟨g, _⟩ | g
      · rw [g] at hb; exact hsb b hb
      · rw [g] at hb; cases hb; omega
    · have h5 : LKi H5 y := by
        rcases List.mem_append.1 hy with g | g
        · exact ((hls y g).ext hE4).ext hE5
        · rw [List.mem_singleton] at g; subst g; exact hlx'.ext hE5
      exact h5.updT hU6 fun b ws hw e => hv5.ne e.1 hw (by decide) rfl
  · have hne : n = ks.length := by omega
    subst hne
    rw [List.take_length] at hera
    refine Nw_row (vs := kiV behindK) fun b3 H7 hb3 hE7 _ hr7 => ?_
    have hv7 := hv.ext hE7
    have hE7' := hE1.trans hE7 fun _ _ h => h
    refine App_vecN (n := 2) rfl (by omega) hv7 (ws := kiV behindK) (Row.rd_all hr7) rfl (kiV_one _) (by omega) (by simp only; omega) fun l5 H8 hv8 hl8 hU8 ha8 => ?_
    have hc8 := hv8.lc
    simp only at hl8
    refine SlA0 (by omega) (by omega) (Int.le_refl _) ?_
    rw [Int.toNat_natCast, Int.toNat_natCast]
    have z7 := hE7'.size
    refine hk _ ks' H8 (hE7'.trans hU8 fun b hb e => by have := hsb b e.1; omega) ⟨?_, by show sl.len = ks'.length; omega, fun y hy => ((hls y hy).ext hE7).updT hU8 fun b ws hw e => hv7.ne e.1 hw (by decide) rfl⟩ (fun b hb => ?_) hera
    · have e : (⟨l5.a, ks'.length + 1, l5.cap⟩ : Sl) = l5 := by rw [show ks'.length + 1 = l5.len by omega]
      show VecN H8 T_api_Kind 2 ⟨l5.a, ks'.length + 1, l5.cap⟩ _
      rw [e, snocF]; exact hv8
    · have hb : l5.a = some (adr b) := hb
      rcases ha8 with ⟨g, _⟩ | g
      · rw [g] at hb; exact hsb b hb
      · rw [g] at hb; cases hb; omega
theorem s_sameKinds {s sl : Sl} {ks' ks : List Ki} (hN : NamedK H s ks') (hK : KdsR H sl ks) (he : ks'.map eraK = ks.map eraK) {k : Bool → Heap → Prop} (hk : k true H) : CallT Pg f_hindcastlaw15_sameKinds [.slice s.a s.len s.cap, .slice sl.a sl.len sl.cap] (.one (.c .bool)) H k := by
  refine c_hindcastlaw15_sameKinds _ _ ?_
  unfold v_hindcastlaw15_sameKinds
  have h1 := hN.sl
  have h2 := hK.rn.len
  have h3 := map_len he
  have hkl := hK.len
  have hc := hN.sv.lc
  dsimp only at hc
  refine Lt.mk (u := ((ks'.length + 1 : Nat) : Int)) (by rw [wrap_i64_id] <;> omega) (SlA0 (by omega) (by omega) (Int.le_refl _) ?_)
  rw [Int.toNat_natCast, Int.toNat_natCast]
  have hsy : RN kiV 2 H ⟨s.a, ks'.length + 1, s.cap⟩ (ks' ++ [behindK]) := VecN.rn kiV_len (by omega) hN.sv
  have hyb : (ks' ++ [behindK])[ks'.length]! = behindK := by rw [getElem!_pos _ _ (by simp)]; simp
  have hlast : ∀ {kk : Addr → Prop}, (∀ a, hcell H a = some (.string nmBehind) → hcell H (a.add 1) = some (.slice none 0 0) → kk a) → IxA 2 ⟨s.a, ks'.length + 1, s.cap⟩ (sl.len : Int) kk := fun hkk => IxA_rn' kiV_len hsy (by omega) (j := ks'.length) (by omega) (by simp) fun a ha => by
    rw [hyb] at ha
    exact hkk a (kiCells ha).1 (kiCells ha).2
  have seq : ∀ x : ByteArray, (!(x.toList == x.toList)) = false := fun x => by simp
  refine Jn.mk (fun j H' => H = H' ∧ j = false) (fun kk hkk => hlast fun a1 g1 _ => Ld_str g1 ?_) ?_
  · rw [show (nmBehind.toList == (⟨#[98, 101, 104, 105, 110, 100]⟩ : ByteArray).toList) = true by simp [nmBehind]]
    exact (Br_false _ _).2 (hlast fun a2 _ g2 => Ld_sl (s := ⟨none, 0, 0⟩) g2 (hkk _ _ ⟨rfl, rfl⟩))
  rintro _ _ ⟨rfl, rfl⟩
  refine (Br_false _ _).2 (LoopT.mk (fun (i : Int) H' => H = H' ∧ ∃ n : Nat, i = n ∧ n ≤ ks.length) (fun i _ => ks.length - i.toNat) ⟨rfl, 0, rfl, Nat.zero_le _⟩ ?_)
  rintro next _ _ ⟨rfl, n, rfl, hn⟩ hnext
  refine Br_dec (fun hlt => ?_) fun _ => hk
  have hn3 : n < ks.length := by omega
  have hn4 : n < ks'.length := by omega
  have hm' : ks'[n]! ∈ ks' := by rw [getElem!_pos ks' n hn4]; exact List.getElem_mem hn4
  have hm : ks[n]! ∈ ks := by rw [getElem!_pos ks n hn3]; exact List.getElem_mem hn3
  have hpre := rn_pre kiV_len (by omega) hN.sv hN.sl
  have atA : ∀ {kk : Addr → Prop}, (∀ a, hcell H a = some (.string (ks'[n]!).name) → hcell H (a.add 1) = some (slV (ks'[n]!).s) → kk a) → IxA 2 s (n : Int) kk := fun hkk => IxA_rn' kiV_len hpre (by omega) (j := n) rfl hn4 fun a ha => hkk a (kiCells ha).1 (kiCells ha).2
  have atB : ∀ {kk : Addr → Prop}, (∀ a, hcell H a = some (.string (ks[n]!).name) → hcell H (a.add 1) = some (slV (ks[n]!).s) → kk a) → IxA 2 sl (n : Int) kk := fun hkk => IxA_rn' kiV_len hK.rn (by omega) (j := n) rfl hn3 fun a ha => hkk a (kiCells ha).1 (kiCells ha).2
  have hxl := hN.el _ hm'
  have hyl := hK.el _ hm
  have hyn := hK.ll _ hm
  have hera := map_at he hn4
  generalize ks[n]! = y at *
  generalize ks'[n]! = x at *
  simp only [eraK, Prod.mk.injEq] at hera
  obtain ⟨r1, r2⟩ := hera
  have g1 := hxl.len
  have g2 := hyl.len
  have g3 := hxl.vec.lc
  dsimp only at g3
  have r3 : x.l.length = y.l.length := by rw [r2]
  refine atB fun a3 _ h => Ld_sl (s := y.s) h ?_
  refine Jn.mk (fun j H' => H = H' ∧ j = false) (fun kk hkk => atA fun a4 h4 _ => Ld_str h4 (atB fun a5 h5 _ => Ld_str h5 ?_)) ?_
  · rw [r1, seq]
    refine (Br_false _ _).2 (atA fun a6 _ h6 => Ld_sl (s := x.s) h6 ?_)
    rw [show ((x.s.len : Int) != (y.s.len : Int)) = false by rw [bne_eq_false_iff_eq]; omega]
    exact (Br_false _ _).2 (atA fun a7 _ h7 => Ld_sl (s := x.s) h7 (Lt.mk (u := ((x.l.length + 2 : Nat) : Int)) (by rw [wrap_i64_id] <;> omega) (hkk _ _ ⟨rfl, decide_eq_false (by omega)⟩)))
  rintro _ _ ⟨rfl, rfl⟩
  refine (Br_false _ _).2 (atA fun a8 _ h8 => Ld_sl (s := x.s) h8 (Lt.mk (u := ((x.l.length + 2 : Nat) : Int)) (by rw [wrap_i64_id] <;> omega) (SlA0 (by omega) (by omega) (Int.le_refl _) ?_)))
  rw [Int.toNat_natCast, Int.toNat_natCast]
  refine LoopT.mk (fun (i : Int) H' => H = H' ∧ ∃ m : Nat, i = m ∧ m ≤ x.l.length + 2) (fun i _ => x.l.length + 2 - i.toNat) ⟨rfl, 0, rfl, Nat.zero_le _⟩ ?_
  rintro next2 _ _ ⟨rfl, m, rfl, hm⟩ hnext2
  refine Br_dec (fun hlt2 => ?_) fun _ => Lt.mk (u := ((n + 1 : Nat) : Int)) (by rw [wrap_i64_id] <;> omega) (hnext _ _ ⟨rfl, n + 1, rfl, hn3⟩ (by omega))
  have hlt2 : (m : Int) < ((x.l.length + 2 : Nat) : Int) := hlt2
  have hm3 : m < (x.l ++ [nmBehind, nmBehind]).length := by rw [List.length_append]; simp; omega
  have rd : ∀ {kk : ByteArray → Prop}, kk ((x.l ++ [nmBehind, nmBehind])[m]) → IxA 1 ⟨x.s.a, x.l.length + 2, x.s.cap⟩ (m : Int) fun a1 => Ld .str a1 H fun (x1 : ByteArray) => kk x1 := fun h =>
    IxA_vec hxl.vec (by omega) (by rw [List.length_map]; omega) fun a1 ha1 _ => Ld_str (n := (x.l ++ [nmBehind, nmBehind])[m]) (by rw [ha1, Int.toNat_natCast, List.getElem?_map, List.getElem?_eq_getElem hm3]; rfl) h
  refine Jn.mk (fun j H' => H = H' ∧ j = false) (fun kk hkk => Br_dec (fun h => ?_) fun h => ?_) ?_
  · have hm4 : m < x.l.length := by omega
    have hm5 : m < y.l.length := by omega
    refine rd (atB fun a10 _ h10 => Ld_sl (s := y.s) h10 (IxA_rl hyl rfl hm5 fun a11 h11 => Ld_str h11 ?_))
    have : (x.l ++ [nmBehind, nmBehind])[m] = y.l[m] := by
      rw [List.getElem_append_left hm4]
      simp only [r2]
    rw [this, seq]
    exact (Br_false _ _).2 (Br_no (by omega) (hkk _ _ ⟨rfl, rfl⟩))
  · refine Br_yes (by omega) (rd (hkk _ _ ⟨rfl, ?_⟩))
    rw [List.getElem_append_right (by omega)]
    have : m - x.l.length = 0 ∨ m - x.l.length = 1 := by omega
    rcases this with e | e <;> simp [e, nmBehind]
  rintro _ _ ⟨rfl, rfl⟩
  exact (Br_false _ _).2 (Lt.mk (u := ((m + 1 : Nat) : Int)) (by rw [wrap_i64_id] <;> omega) (hnext2 _ _ ⟨rfl, m + 1, rfl, by omega⟩ (by omega)))
/-! ### kinds that are one but for places -/
variable {ks ks' : List Ki} {ss : List Sy} {fs : List Rou}
theorem mayK_era (h : ks.map eraK = ks'.map eraK) : mayK ks = mayK ks' := by
  have h1 : ks.all kiOk = ks'.all kiOk := by
    have e : ∀ l : List Ki, l.all kiOk = (l.map eraK).all fun e => decide (e.2.length ≤ 4) && wordsB e.2 := fun l => by rw [List.all_map]; rfl
    rw [e, e, h]
  have h2 : ks.map (·.name) = ks'.map (·.name) := map_via (f := eraK) (fun e => e.1) h
  unfold mayK
  rw [h1, h2, map_len h]
theorem fieldsI_era (h : ks.map eraK = ks'.map eraK) (n : Int) : fieldsI ks n = fieldsI ks' n := by
  unfold fieldsI
  rw [← map_len h]
  split
  · rename_i g
    have := map_at h (i := (n - 1).toNat) (by omega)
    simp only [eraK, Prod.mk.injEq] at this
    rw [this.2]
  · rfl
theorem acc_era (h : ks.map eraK = ks'.map eraK) {nf : Nat} {sy : Option Sy} {r : Rou} {j : Nat} : accB ks nf sy r j = accB ks' nf sy r j := by
  have hd : ∀ a l, declB ks a l = declB ks' a l := fun a l => by unfold declB; rw [fieldsI_era h]
  have hw : ∀ a, wholeB ks a = wholeB ks' a := fun a => by unfold wholeB; rw [fieldsI_era h]
  unfold accB
  simp only [hd, hw, fieldsI_era h]
theorem look_era (h : ks.map eraK = ks'.map eraK) (q : Nat) : lookO ks ss fs q = lookO ks' ss fs q := by
  match q with
  | 0 =>
    show setsO ks ss fs = setsO ks' ss fs
    unfold setsO setsBad
    rw [map_len h]
  | 1 =>
    show touchO ks ss fs = touchO ks' ss fs
    unfold touchO
    refine findSome_congr fun n _ => ?_
    unfold tI tR tAt
    simp only [acc_era h]
  | 2 => rfl
  | _ + 3 => rfl
theorem verify_eraK (h : ks.map eraK = ks'.map eraK) : verifyO ks ss fs = verifyO ks' ss fs := by
  unfold verifyO
  rw [mayK_era h]
  have : (List.range 4).findSome? (lookO ks ss fs) = (List.range 4).findSome? (lookO ks' ss fs) := findSome_congr fun q _ => look_era h q
  rw [this]
theorem verify_eraP {ss' : List Sy} {fs' : List Rou} (h1 : ss'.map eraS = ss.map eraS) (h2 : fs'.map eraR = fs.map eraR) : verifyO ks ss fs = verifyO ks ss' fs' := by
  have hsim : SimP ss ss' fs fs' := ⟨(map_via (f := eraS) (fun e => (e.1, e.2.2)) h1).symm, (map_via (f := eraR) (fun e => e.2) h2).symm⟩
  have hsim' : SimP ss' ss fs' fs := ⟨hsim.s.symm, hsim.f.symm⟩
  have n1 : ∀ {a b : List Sy}, a.map eraS = b.map eraS → (∀ x ∈ a, nameOk x.rou.name = true) → ∀ x ∈ b, nameOk x.rou.name = true := fun h hh => all_via (f := eraS) (P := fun e => nameOk e.2.1 = true) h hh
  have n2 : ∀ {a b : List Rou}, a.map eraR = b.map eraR → (∀ x ∈ a, nameOk x.name = true) → ∀ x ∈ b, nameOk x.name = true := fun h hh => all_via (f := eraR) (P := fun e => nameOk e.1 = true) h hh
  by_cases hM : MayP ss fs
  · obtain ⟨a, b⟩ := may_names hM
    exact hsim.verify hM (n1 h1.symm a) (n2 h2.symm b)
  · have hM' : ¬ MayP ss' fs' := fun g => by
      obtain ⟨a, b⟩ := may_names g
      exact hM (hsim'.may (n1 h1 a) (n2 h2 b) g)
    unfold verifyO
    rw [if_neg hM, if_neg hM']
end Go.Proofs.YtlkmmplgfjicjaaGreat
