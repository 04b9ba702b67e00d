/-
  A record that owns vectors: appends to its fields; appends told as a store into a row.
-/
import Derived.Test.YtlkmmplgfjicjaaDoorHcLists
namespace Go.Proofs.YtlkmmplgfjicjaaDoor.Hc
set_option linter.unusedVariables false
set_option linter.unusedSimpArgs false

def Apart (s t : Sl) : Prop := ∀ b, s.a = some (adr b) → t.a ≠ some (adr b)
theorem Apart.symm {s t : Sl} (h : Apart s t) : Apart t s := fun b h1 h2 => h b h2 h1

/-- A slice's own block was written at one place. -/
theorem Vec.poke {H H' : Heap} {T : TypeId} {s : Sl} {vs : List Value} (h : Vec H T s vs) {b n : Nat} {v : Value} {cs : List Value} (hb : s.a = some (adr b)) (hr : Row H b T cs) (hr' : Row H' b T (cs.set n v)) : Vec H' T s (vs.set n v) := by
  refine ⟨by simpa using h.len, ?_, h.lc⟩
  rcases h.own with ⟨h1, _⟩ | ⟨c, sp, h1, h2, h3⟩
  · rw [h1] at hb; cases hb
  · rw [h1] at hb; cases hb
    have e : cs = vs ++ sp := by
      unfold Row at hr h2
      rw [hr] at h2
      simp only [Option.some.injEq, Obj.cells.injEq, Array.mk.injEq] at h2
      exact h2.1
    subst e
    rcases Nat.lt_or_ge n vs.length with hn | hn
    · refine .inr ⟨b, sp, h1, ?_, by simpa using h3⟩
      rw [List.set_append_left _ _ hn] at hr'; exact hr'
    · refine .inr ⟨b, sp.set (n - vs.length) v, h1, ?_, by simpa using h3⟩
      rw [List.set_append_right _ _ hn] at hr'
      rw [List.set_eq_of_length_le hn]; exact hr'
/-- append of one element to a slice of one's own: in place, or elsewhere. -/
theorem App_one {T : TypeId} {bytes : Nat} {z : Value} {s x : Sl} {H : Heap} {k : Sl → Heap → Prop} {vs : List Value} {w : Value} (hv : Vec H T s vs) (hx : rdL H x.a [w]) (hxl : x.len = 1)
    (hone : w.oneCell' = true) (hb : bytes ≠ 0) (hcap : (vs.length + 1 + (vs.length + 1) / 4 + 1000) * bytes ≤ 2 ^ 48)
    (hk : ∀ s' H', Vec H' T s' (vs ++ [w]) → s'.len = s.len + 1 → (∃ b cs, s.a = some (adr b) ∧ s'.a = some (adr b) ∧ Row H b T cs ∧ Row H' b T (cs.set s.len w) ∧ Upd (· = b) H H' ∧ H'.size = H.size) ∨ (s'.a = some (adr H.size) ∧ Ext H H' ∧ H.size < H'.size) → k s' H') :
    App T 1 bytes #[z] s x H k := by
  have hlen := hv.len
  refine ⟨[w], hx, fun _ => by simp; omega, fun hfit => ?_, fun hgrow => ?_⟩
  · rcases hv.own with ⟨h1, h2, h3⟩ | ⟨b, sp, h1, h2, h3⟩
    · omega
    · rw [h1]
      dsimp only
      rw [adr_add, Nat.mul_one]
      refine StL_row h2 (by simp; omega) (by simpa using hone) fun H' hU hs hr => ?_
      obtain ⟨c0, sp', rfl⟩ : ∃ c0 sp', sp = c0 :: sp' := by
        cases sp with
        | nil => simp at h3; omega
        | cons c0 sp' => exact ⟨c0, sp', rfl⟩
      have e1 : (vs ++ c0 :: sp').take (s.len + 0) ++ [w] ++ (vs ++ c0 :: sp').drop (s.len + 0 + [w].length) = vs ++ w :: sp' := by
        rw [Nat.add_zero, hlen, List.take_left, List.length_singleton, List.drop_append, List.drop_eq_nil_of_le (by omega)]
        simp
      rw [e1] at hr
      have e2 : (vs ++ c0 :: sp').set s.len w = vs ++ w :: sp' := by rw [hlen]; exact set_mid' vs sp' c0 w
      refine hk _ H' ⟨by simp; omega, .inr ⟨b, sp', rfl, by simpa using hr, by simp at h3 ⊢; omega⟩, by dsimp only; omega⟩ (by dsimp only; omega) (.inl ⟨b, vs ++ c0 :: sp', h1, rfl, h2, by rw [e2]; exact hr, hU.mono fun _ _ e => e.1, hs⟩)
  · refine ⟨hb, ?_, vs, hv.rd, fun _ => by omega, fun c hc => ?_⟩
    · have := nextcap_le (s.len + x.len) s.cap hgrow
      refine Nat.le_trans (Nat.mul_le_mul_right bytes this) ?_
      rw [hlen, hxl]; exact hcap
    · have e : (⟨vs⟩ ++ ⟨[w]⟩ ++ zcells #[z] ((c - (s.len + x.len)) * (#[z] : Array Value).size) : Array Value) = ⟨vs ++ [w] ++ List.replicate (c - (s.len + x.len)) z⟩ := by
        rw [zcells_one]; apply Array.ext'; simp
      rw [e]
      refine hk _ _ ⟨by simp; omega, .inr ⟨H.size, List.replicate (c - (s.len + x.len)) z, rfl, get_push_new _ _, by simp; omega⟩, hc⟩ (by dsimp only; omega) (.inr ⟨rfl, Upd.push _ _ _, by simp⟩)

abbrev RFd := TypeId × Sl × List Value
/-- A record at p whose first fields are vectors of its own, each apart. -/
structure Rec (H : Heap) (p : Nat) (T : TypeId) (fs : List RFd) (tl : List Value) : Prop where
  row : Row H p T (fs.map (fun f => slV f.2.1) ++ tl)
  vs : ∀ i (h : i < fs.length), Vec H fs[i].1 fs[i].2.1 fs[i].2.2
  ap : ∀ i j (h : i < fs.length) (h' : j < fs.length), i ≠ j → Apart fs[i].2.1 fs[j].2.1
  np : ∀ i (h : i < fs.length) b, fs[i].2.1.a = some (adr b) → b ≠ p
/-- Its blocks. -/
def RecB (p : Nat) (fs : List RFd) (b : Nat) : Prop := b = p ∨ ∃ i, ∃ h : i < fs.length, fs[i].2.1.a = some (adr b)
theorem Rec.upd {M : Nat → Prop} {H H' : Heap} {p : Nat} {T : TypeId} {fs : List RFd} {tl : List Value} (hu : Upd M H H') (h : Rec H p T fs tl) (hm : ∀ b, RecB p fs b → ¬ M b) : Rec H' p T fs tl :=
  ⟨hu.row h.row (hm p (.inl rfl)), fun i hi => (h.vs i hi).upd hu fun b hb => hm b (.inr ⟨i, hi, hb⟩), h.ap, h.np⟩
theorem Rec.ext {H H' : Heap} {p : Nat} {T : TypeId} {fs : List RFd} {tl : List Value} (hu : Ext H H') (h : Rec H p T fs tl) : Rec H' p T fs tl := h.upd hu fun _ _ h => h
theorem Rec.lt {H : Heap} {p : Nat} {T : TypeId} {fs : List RFd} {tl : List Value} (h : Rec H p T fs tl) {b : Nat} (hb : RecB p fs b) : b < H.size := by
  rcases hb with rfl | ⟨i, hi, e⟩
  · exact h.row.lt
  · exact (h.vs i hi).lt e
/-- A field is appended to; what is left is to store it. -/
structure RecP (H0 H : Heap) (p : Nat) (T : TypeId) (fs : List RFd) (tl : List Value) (q : Nat) (l : Sl) (w : Value) : Prop where
  hq : q < fs.length
  row : Row H p T (fs.map (fun f => slV f.2.1) ++ tl)
  vs : ∀ i (h : i < fs.length), i ≠ q → Vec H fs[i].1 fs[i].2.1 fs[i].2.2
  vl : Vec H fs[q].1 l (fs[q].2.2 ++ [w])
  ap : ∀ i j (h : i < fs.length) (h' : j < fs.length), i ≠ j → Apart fs[i].2.1 fs[j].2.1
  np : ∀ i (h : i < fs.length) b, fs[i].2.1.a = some (adr b) → b ≠ p
  la : l.a = fs[q].2.1.a ∨ l.a = some (adr H0.size)
  lt : ∀ b, RecB p fs b → b < H0.size
  up : Upd (fun b => fs[q].2.1.a = some (adr b)) H0 H
  old : Vec H fs[q].1 fs[q].2.1 fs[q].2.2
theorem Rec.app {H : Heap} {p : Nat} {T : TypeId} {fs : List RFd} {tl : List Value} (h : Rec H p T fs tl) {q : Nat} (hq : q < fs.length) {x : Sl} {w : Value} (hx : rdL H x.a [w]) (hxl : x.len = 1) (hone : w.oneCell' = true) {bytes : Nat} {z : Value} (hb : bytes ≠ 0)
    (hcap : (fs[q].2.2.length + 1 + (fs[q].2.2.length + 1) / 4 + 1000) * bytes ≤ 2 ^ 48) {k : Sl → Heap → Prop} (hk : ∀ l H', RecP H H' p T fs tl q l w → k l H') : App fs[q].1 1 bytes #[z] fs[q].2.1 x H k := by
  refine App_one (h.vs q hq) hx hxl hone hb hcap fun l H' hv hl hc => hk l H' ?_
  have up : Upd (fun b => fs[q].2.1.a = some (adr b)) H H' := by
    rcases hc with ⟨b, cs, h1, _, _, _, h5, _⟩ | ⟨_, h2, _⟩
    · exact h5.mono fun c _ e => e ▸ h1
    · exact h2.mono fun _ _ e => e.elim
  refine ⟨hq, up.row h.row fun e => h.np q hq p e rfl, fun i hi hne => (h.vs i hi).upd up fun b hb e => h.ap i q hi hq hne b hb e, hv, h.ap, h.np, ?_, fun b hb => h.lt hb, up, ?_⟩
  rotate_left
  · rcases hc with ⟨b, cs, h1, _, h3, h4, _⟩ | ⟨_, h2, _⟩
    · have := (h.vs q hq).poke h1 h3 h4
      rwa [List.set_eq_of_length_le (by rw [(h.vs q hq).len]; exact Nat.le_refl _)] at this
    · exact (h.vs q hq).upd h2 fun _ _ h => h
  rcases hc with ⟨b, cs, h1, h2, _⟩ | ⟨h1, _⟩
  · exact .inl (h2.trans h1.symm)
  · exact .inr h1
theorem RecP.cell {H0 H : Heap} {p : Nat} {T : TypeId} {fs : List RFd} {tl : List Value} {q : Nat} {l : Sl} {w : Value} (h : RecP H0 H p T fs tl q l w) (i : Nat) : hcell H ⟨p, i, none⟩ = (fs.map (fun f => slV f.2.1) ++ tl)[i]? := h.row.cell i
theorem RecP.st {H0 H : Heap} {p : Nat} {T : TypeId} {fs : List RFd} {tl : List Value} {q : Nat} {l : Sl} {w : Value} (h : RecP H0 H p T fs tl q l w) {k : Heap → Prop}
    (hk : ∀ H', Rec H' p T (fs.set q (fs[q]'h.hq |>.1, l, (fs[q]'h.hq).2.2 ++ [w])) tl → Upd (fun b => b = p ∨ (fs[q]'h.hq).2.1.a = some (adr b)) H0 H' → k H') : St ⟨p, q, none⟩ (.slice l.a l.len l.cap) H k := by
  have hq := h.hq
  refine St_row h.row (by simp; omega) fun H' hU hs hr => hk H' ?_ ((h.up.mono fun _ _ e => .inr e).trans hU fun _ _ e => .inl e)
  have hpH : p < H0.size := h.lt p (.inl rfl)
  have lnp : ∀ b, l.a = some (adr b) → b ≠ p := fun b hb e => by
    rcases h.la with h1 | h1
    · rw [h1] at hb; exact h.np q hq b hb e
    · rw [h1] at hb; cases hb; omega
  have lap : ∀ i (hi : i < fs.length), i ≠ q → Apart fs[i].2.1 l := fun i hi hne b hb hb' => by
    rcases h.la with h1 | h1
    · rw [h1] at hb'; exact h.ap i q hi hq hne b hb hb'
    · rw [h1] at hb'; cases hb'; have := h.lt _ (.inr ⟨i, hi, hb⟩); omega
  have gn : ∀ i (hi : i < (fs.set q (fs[q].1, l, fs[q].2.2 ++ [w])).length), i ≠ q → (fs.set q (fs[q].1, l, fs[q].2.2 ++ [w]))[i] = fs[i]'(by simpa using hi) := fun i hi hne => List.getElem_set_ne (fun e => hne e.symm) _
  have ge : ∀ i (hi : i < (fs.set q (fs[q].1, l, fs[q].2.2 ++ [w])).length), i = q → (fs.set q (fs[q].1, l, fs[q].2.2 ++ [w]))[i] = (fs[q].1, l, fs[q].2.2 ++ [w]) := fun i hi e => by subst e; exact List.getElem_set_self _
  refine ⟨?_, fun i hi => ?_, fun i j hi hj hne => ?_, fun i hi b hb => ?_⟩
  · rw [List.set_append_left _ _ (by simpa using hq)] at hr
    rw [List.map_set]; exact hr
  · by_cases e : i = q
    · rw [ge i hi e]; exact h.vl.upd hU fun b hb e => lnp b hb e
    · rw [gn i hi e]; exact (h.vs i _ e).upd hU fun b hb e => h.np i _ b hb e
  · by_cases e : i = q
    · have e' : j ≠ q := fun h => hne (e.trans h.symm)
      rw [ge i hi e, gn j hj e']; exact (lap j (by simpa using hj) e').symm
    · rw [gn i hi e]
      by_cases e' : j = q
      · rw [ge j hj e']; exact lap i (by simpa using hi) e
      · rw [gn j hj e']; exact h.ap i j _ _ hne
  · by_cases e : i = q
    · rw [ge i hi e] at hb; exact lnp b hb
    · rw [gn i hi e] at hb; exact h.np i _ b hb
theorem RecP.sub {H0 H : Heap} {p : Nat} {T : TypeId} {fs : List RFd} {tl : List Value} {q : Nat} {l : Sl} {w : Value} (h : RecP H0 H p T fs tl q l w) {b : Nat} (hb : RecB p (fs.set q (fs[q]'h.hq |>.1, l, (fs[q]'h.hq).2.2 ++ [w])) b) : RecB p fs b ∨ H0.size ≤ b := by
  have hq := h.hq
  rcases hb with rfl | ⟨i, hi, hb⟩
  · exact .inl (.inl rfl)
  · by_cases e : i = q
    · subst e
      rw [List.getElem_set_self] at hb
      rcases h.la with e | e
      · rw [e] at hb; exact .inl (.inr ⟨i, hq, hb⟩)
      · rw [e] at hb; cases hb; exact .inr (Nat.le_refl _)
    · rw [List.getElem_set_ne (fun h => e h.symm)] at hb
      exact .inl (.inr ⟨i, by simpa using hi, hb⟩)
/-- A number behind the vectors is stored. -/
theorem Rec.stTl {H : Heap} {p : Nat} {T : TypeId} {fs : List RFd} {tl : List Value} (h : Rec H p T fs tl) {q : Nat} (hq : q < tl.length) {v : Value} {k : Heap → Prop}
    (hk : ∀ H', Rec H' p T fs (tl.set q v) → Upd (· = p) H H' → k H') : St ⟨p, fs.length + q, none⟩ v H k := by
  refine St_row h.row (by simp; omega) fun H' hU hs hr => hk H' ⟨?_, fun i hi => (h.vs i hi).upd hU fun b hb e => h.np i hi b hb e, h.ap, h.np⟩ hU
  rw [List.set_append_right _ _ (by simp)] at hr
  simpa using hr
end Go.Proofs.YtlkmmplgfjicjaaDoor.Hc
