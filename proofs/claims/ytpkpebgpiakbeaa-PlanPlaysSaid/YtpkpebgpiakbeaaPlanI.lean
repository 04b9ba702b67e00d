/-
  The law's plan: given.
-/
import Derived.Test.YtpkpebgpiakbeaaPlanH
namespace Go.Proofs.Ytpkpebgpiakbeaa
set_option linter.unusedVariables false
set_option linter.unusedSimpArgs false
open Go.Proofs.Ytpkpebgpiakbeaa.Hc Go.Proofs.Ytpkpebgpiakbeaa.Hc.Plan
set_option maxRecDepth 100000

/-- A list that is lent: its eight more stand behind it. -/
def Lent (H : Heap) (t : Sl) (xs : List Int) : Prop := Vec H T_int ⟨t.a, t.len + 8, t.cap⟩ (ints (xs ++ List.replicate 8 77)) ∧ t.len = xs.length
structure LOne (lo : Nat) (H : Heap) (c : SysC) (x : PSys) : Prop where
  r : Lent H c.2.2.1 x.1
  w : Lent H c.2.2.2.1 x.2
  wl : c.1.len = 2
  ol : c.2.1.len = 1
  fr : ∀ b, c.2.2.1.a = some (adr b) → lo ≤ b
  fw : ∀ b, c.2.2.2.1.a = some (adr b) → lo ≤ b
  ap : ∀ b, c.2.2.1.a = some (adr b) → c.2.2.2.1.a ≠ some (adr b)
theorem Lent.upd {M : Nat → Prop} {H H' : Heap} {t : Sl} {xs : List Int} (hu : Upd M H H') (h : Lent H t xs) (hm : ∀ b, t.a = some (adr b) → ¬ M b) : Lent H' t xs := ⟨h.1.upd hu hm, h.2⟩
theorem LOne.upd {lo : Nat} {M : Nat → Prop} {H H' : Heap} {c : SysC} {x : PSys} (hu : Upd M H H') (h : LOne lo H c x) (hm : ∀ b, (c.2.2.1.a = some (adr b) ∨ c.2.2.2.1.a = some (adr b)) → ¬ M b) : LOne lo H' c x :=
  ⟨h.r.upd hu fun b e => hm b (.inl e), h.w.upd hu fun b e => hm b (.inr e), h.wl, h.ol, h.fr, h.fw, h.ap⟩
theorem LOne.lt {lo : Nat} {H : Heap} {c : SysC} {x : PSys} (h : LOne lo H c x) {b : Nat} (hb : c.2.2.1.a = some (adr b) ∨ c.2.2.2.1.a = some (adr b)) : b < H.size :=
  hb.elim (fun e => h.r.1.lt e) fun e => h.w.1.lt e
/-- The lists of these two lie apart. -/
def ApE (c d : SysC) : Prop := ∀ b, (c.2.2.1.a = some (adr b) ∨ c.2.2.2.1.a = some (adr b)) → ¬ (d.2.2.1.a = some (adr b) ∨ d.2.2.2.1.a = some (adr b))
theorem Lent.ri {H : Heap} {t : Sl} {xs : List Int} (h : Lent H t xs) : RI H t xs := by
  have h1 := h.1.rl (f := Value.int .i64)
  have h2 := h1.pre (n := t.len) (c := t.cap) (by simp [h.2]) (by have := h.1.lc; dsimp only at this; omega)
  rw [h.2, List.take_left] at h2
  have : (⟨t.a, xs.length, t.cap⟩ : Sl) = t := by rw [← h.2]
  rwa [this] at h2

theorem s_list1 {lo : Nat} {H : Heap} {r : Sl} {cs : List SysC} {L : List PSys} (hv : VecN H T_api_System 8 r (cs.flatMap sysC)) (hl : cs.length = L.length) (hone : ∀ i (h : i < cs.length) (h' : i < L.length), One lo H cs[i] L[i]) (hbd : ∀ x ∈ L, x.1.length ≤ 30 ∧ x.2.length ≤ 30) (hn : L.length ≤ 200)
    (hfo : ∀ b, r.a = some (adr b) → lo ≤ b) (hlo : lo ≤ H.size) {k : Heap → Prop}
    (hk : ∀ (cs' : List SysC) (H' : Heap), VecN H' T_api_System 8 r (cs'.flatMap sysC) → cs'.length = L.length → (∀ i (h : i < cs'.length) (h' : i < L.length), LOne lo H' cs'[i] L[i]) → (∀ i j (h : i < cs'.length) (h' : j < cs'.length), i ≠ j → ApE cs'[i] cs'[j]) → Upd (fun b => r.a = some (adr b)) H H' → k H') :
    LoopT (σ := Int) (fun next1 s1 H2 =>
      Br (decide (s1 < (r.len : Int))) (
        IxA 8 r s1 fun a1 =>
        Ld .sl (a1.add 2) H2 fun (x1 : Sl) =>
        CallT Pg f_hindcastlaw18_listed [.slice x1.a x1.len x1.cap] (.one (.c .sl)) H2 fun (r2 : Sl) H3 =>
        IxA 8 r s1 fun a2 =>
        St (a2.add 2) (.slice r2.a r2.len r2.cap) H3 fun H4 =>
        IxA 8 r s1 fun a3 =>
        Ld .sl (a3.add 3) H4 fun (x2 : Sl) =>
        CallT Pg f_hindcastlaw18_listed [.slice x2.a x2.len x2.cap] (.one (.c .sl)) H4 fun (r3 : Sl) H5 =>
        IxA 8 r s1 fun a4 =>
        St (a4.add 3) (.slice r3.a r3.len r3.cap) H5 fun H6 =>
        Lt (IntKind.wrap .i64 (s1 + 1)) fun t1 =>
        next1 t1 H6) (k H2)) 0 H := by
  have hrl : ∀ {H' : Heap} {es : List SysC}, VecN H' T_api_System 8 r (es.flatMap sysC) → r.len = es.length := fun h => by
    have := h.len; rw [flat_len sysC_len] at this; omega
  refine LoopT.mk (fun σ H' => ∃ (i : Nat) (es : List SysC), σ = i ∧ i ≤ L.length ∧ VecN H' T_api_System 8 r (es.flatMap sysC) ∧ es.length = L.length ∧ (∀ j (h : j < es.length) (h' : j < L.length), (j < i → LOne lo H' es[j] L[j]) ∧ (i ≤ j → One lo H' es[j] L[j])) ∧
      (∀ j j' (h : j < es.length) (h' : j' < es.length), j < i → j' < i → j ≠ j' → ApE es[j] es[j']) ∧ Upd (fun b => r.a = some (adr b)) H H') (fun σ _ => (L.length - σ).toNat)
    ⟨0, cs, rfl, by omega, hv, hl, fun j h h' => ⟨fun h => by omega, fun _ => hone j h h'⟩, fun j j' _ _ h => by omega, .refl _ _⟩ ?_
  rintro next _ H2 ⟨i, es, rfl, hi, hv2, hel, hon, hap, hU2⟩ hnext
  have hrl2 := hrl hv2
  have z2 := hU2.size
  refine Br_dec (fun hlt => ?_) fun hge => ?_
  · have hi1 : i < es.length := by omega
    have hiL : i < L.length := by omega
    have ho := (hon i hi1 hiL).2 (Nat.le_refl _)
    have hb30 := hbd _ (List.getElem_mem hiL)
    refine IxA_vecN hv2 (by omega) rfl (by omega) fun b hb hc2 => ?_
    rw [mk_add]
    refine Ld_sl (s := es[i].2.2.1) ((hc2 2 (by omega)).trans (flat_get sysC_len hi1 (by omega))) ?_
    refine s_listed ho.r.rl (by omega) fun t c H3 hv3 htl htc hf3 hE3 => ?_
    subst htc
    have hv23 := hv2.ext hE3
    refine IxA_vecN hv23 (by omega) rfl (by omega) fun b' hb' _ => ?_
    rw [mk_add]
    obtain ⟨x1, hx1⟩ : ∃ x1 : SysC, x1 = (es[i].1, es[i].2.1, t, es[i].2.2.2) := ⟨_, rfl⟩
    refine IxA_St_vecN sysC_len hv23 (x := x1) hi1 (by omega) (by rw [hx1]; rfl) hb' fun H4 hv4 hU4 hs4 => ?_
    have z3 := hE3.size
    have nT : ∀ {Hx : Heap} {x : Sl} {vs : List Value} {es' : List SysC}, VecN Hx T_api_System 8 r (es'.flatMap sysC) → Vec Hx T_int x vs → ∀ b, x.a = some (adr b) → ¬ r.a = some (adr b) := fun hvx hx b hb e => hvx.apV hx (by decide) e hb
    have hw4 := (ho.w.ext hE3).upd hU4 (nT hv23 (ho.w.ext hE3))
    have ht4 := hv3.upd hU4 (nT (x := ⟨t.a, t.len + 8, t.cap⟩) hv23 hv3)
    have hset : i < (es.set i x1).length := by simpa using hi1
    refine IxA_vecN hv4 (by omega) rfl (by omega) fun b'' hb'' hc4 => ?_
    rw [mk_add]
    have g4 := (hc4 3 (by omega)).trans (flat_get sysC_len hset (by omega))
    rw [List.getElem_set_self] at g4
    refine Ld_sl (s := es[i].2.2.2.1) (by rw [g4, hx1]; rfl) ?_
    refine s_listed hw4.rl (by omega) fun u c5 H5 hv5 hul huc hf5 hE5 => ?_
    subst huc
    have hv45 := hv4.ext hE5
    refine IxA_vecN hv45 (by omega) rfl (by omega) fun b3 hb3 _ => ?_
    rw [mk_add]
    obtain ⟨x2, hx2⟩ : ∃ x2 : SysC, x2 = (es[i].1, es[i].2.1, t, u, es[i].2.2.2.2) := ⟨_, rfl⟩
    refine IxA_St_vecN sysC_len hv45 (x := x2) hset (by omega) (by rw [List.getElem_set_self, hx1, hx2]; rfl) hb3 fun H6 hv6 hU6 hs6 => ?_
    rw [List.set_set] at hv6
    rw [Lt_def, wrap_i64_id (by omega) (by omega)]
    have z5 := hE5.size
    have ht6 := (ht4.ext hE5).upd hU6 (nT (x := ⟨t.a, t.len + 8, t.cap⟩) hv45 (ht4.ext hE5))
    have hu6 := hv5.upd hU6 (nT (x := ⟨u.a, u.len + 8, u.cap⟩) hv45 hv5)
    have gne : ∀ j (h : j < (es.set i x2).length), j ≠ i → (es.set i x2)[j] = es[j]'(by simpa using h) := fun j h hne => List.getElem_set_ne (fun e => hne e.symm) _
    have geq : ∀ j (h : j < (es.set i x2).length), j = i → (es.set i x2)[j] = x2 := fun j h he => by subst he; exact List.getElem_set_self _
    have new : ∀ b, (x2.2.2.1.a = some (adr b) ∨ x2.2.2.2.1.a = some (adr b)) → H2.size ≤ b := fun b hb => by
      rw [hx2] at hb
      rcases hb with e | e
      · exact hf3 b e
      · have := hf5 b e; omega
    have up26 : Upd (fun b => r.a = some (adr b)) H2 H6 := (((hE3.mono fun _ _ h => h.elim).trans hU4 fun _ _ h => h).ext hE5).trans hU6 fun _ _ h => h
    refine hnext _ _ ⟨i + 1, es.set i x2, by omega, by omega, hv6, by simpa using hel, fun j hj hj' => ⟨fun hji => ?_, fun hji => ?_⟩, fun j j' hj hj' h1 h2 hne => ?_, hU2.trans up26 fun _ _ h => h⟩ (by omega)
    · by_cases e : j = i
      · rw [geq j hj e]
        subst e
        rw [hx2]
        exact ⟨⟨ht6, htl⟩, ⟨hu6, hul⟩, ho.wl, ho.ol, fun b hb => by have := hf3 b hb; omega, fun b hb => by have := hf5 b hb; omega, fun b h1 h2 => by have := hf5 b h2; have := hv3.lt (s := ⟨t.a, t.len + 8, t.cap⟩) h1; omega⟩
      · rw [gne j hj e]
        have hj2 : j < es.length := by simpa using hj
        have h := (hon j hj2 hj').1 (by omega)
        exact h.upd up26 fun b hb e' => hb.elim (fun hb => nT hv2 h.r.1 b hb e') fun hb => nT hv2 h.w.1 b hb e'
    · rw [gne j hj (by omega)]
      have hj2 : j < es.length := by simpa using hj
      have h := (hon j hj2 hj').2 (by omega)
      exact ⟨h.r.upd up26 (nT hv2 h.r), h.w.upd up26 (nT hv2 h.w), h.wl, h.ol, h.fr, h.fw⟩
    · have hj2 : j < es.length := by simpa using hj
      have hj2' : j' < es.length := by simpa using hj'
      intro b hb hb'
      by_cases e : j = i
      · rw [geq j hj e] at hb
        rw [gne j' hj' (by omega)] at hb'
        have := new b hb
        have := ((hon j' hj2' (by omega)).1 (by omega)).lt hb'
        omega
      · rw [gne j hj e] at hb
        by_cases e' : j' = i
        · rw [geq j' hj' e'] at hb'
          have := new b hb'
          have := ((hon j hj2 (by omega)).1 (by omega)).lt hb
          omega
        · rw [gne j' hj' e'] at hb'
          exact hap j j' hj2 hj2' (by omega) (by omega) hne b hb hb'
  · have : i = L.length := by omega
    subst this
    exact hk es H2 hv2 hel (fun j h h' => (hon j h h').1 h') (fun j j' h h' hne => hap j j' h h' (by omega) (by omega) hne) hU2
end Go.Proofs.Ytpkpebgpiakbeaa
