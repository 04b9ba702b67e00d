/-
  A record that owns vectors: appends to its fields; appends told as a store into a row.
-/
import Derived.Test.YtfpmgpblhhcpgaaGreatHcLists
import Derived.Test.YtfpmgpblhhcpgaaGreatVMacB
import Derived.Test.YtfpmgpblhhcpgaaGreatVVer
namespace Go.Proofs.YtfpmgpblhhcpgaaGreat.Hc
set_option linter.unusedVariables false
set_option linter.unusedSimpArgs false
set_option maxRecDepth 100000
def Apart (s t : Sl) : Prop := ∀ b, s.a = some (adr b) → t.a ≠ some (adr b)
theorem Apart.symm {s t : Sl} (h : Apart s t) : Apart t s := fun b h1 h2 => h b h2 h1
theorem App_one {T : TypeId} {bytes : Nat} {z : Value} {s x : Sl} {H : Heap} {k : Sl → Heap → Prop} {vs : List Value} {w : Value} (hv : Vec H T s vs) (hx : rdL H x.a [w]) (hxl : x.len = 1)
    (hone : w.oneCell' = true) (hb : bytes ≠ 0) (hcap : (vs.length + 1 + (vs.length + 1) / 4 + 1000) * bytes ≤ 2 ^ 48)
    (hk : ∀ s' H', Vec H' T s' (vs ++ [w]) → s'.len = s.len + 1 → (∃ b cs, s.a = some (adr b) ∧ s'.a = some (adr b) ∧ Row H b T cs ∧ Row H' b T (cs.set s.len w) ∧ Upd (· = b) H H' ∧ H'.size = H.size) ∨ (s'.a = some (adr H.size) ∧ Ext H H' ∧ H.size < H'.size) → k s' H') :
    App T 1 bytes #[z] s x H k := by
  have hlen := hv.len
  refine ⟨[w], hx, fun _ => by simp; omega, fun hfit => ?_, fun hgrow => ?_⟩
  · rcases hv.own with ⟨h1, h2, h3⟩ | ⟨b, sp, h1, h2, h3⟩
    · omega
    · rw [h1]
      dsimp only
      rw [adr_add, Nat.mul_one]
      refine StL_row h2 (by simp; omega) (by simpa using hone) fun H' hU hs hr => ?_
      obtain ⟨c0, sp', rfl⟩ : ∃ c0 sp', sp = c0 :: sp' := by
        cases sp with
        | nil => simp at h3; omega
        | cons c0 sp' => exact ⟨c0, sp', rfl⟩
      have e1 : (vs ++ c0 :: sp').take (s.len + 0) ++ [w] ++ (vs ++ c0 :: sp').drop (s.len + 0 + [w].length) = vs ++ w :: sp' := by
        rw [Nat.add_zero, hlen, List.take_left, List.length_singleton, List.drop_append, List.drop_eq_nil_of_le (by omega)]
        simp
      rw [e1] at hr
      have e2 : (vs ++ c0 :: sp').set s.len w = vs ++ w :: sp' := by rw [hlen]; exact set_mid' vs sp' c0 w
      refine hk _ H' ⟨by simp; omega, .inr ⟨b, sp', rfl, by simpa using hr, by simp at h3 ⊢; omega⟩, by dsimp only; omega⟩ (by dsimp only; omega) (.inl ⟨b, vs ++ c0 :: sp', h1, rfl, h2, by rw [e2]; exact hr, hU.mono fun _ _ e => e.1, hs⟩)
  · refine ⟨hb, ?_, vs, hv.rd, fun _ => by omega, fun c hc => ?_⟩
    · have := nextcap_le (s.len + x.len) s.cap hgrow
      refine Nat.le_trans (Nat.mul_le_mul_right bytes this) ?_
      rw [hlen, hxl]; exact hcap
    · have e : (⟨vs⟩ ++ ⟨[w]⟩ ++ zcells #[z] ((c - (s.len + x.len)) * (#[z] : Array Value).size) : Array Value) = ⟨vs ++ [w] ++ List.replicate (c - (s.len + x.len)) z⟩ := by
        rw [zcells_one]; apply Array.ext'; simp
      rw [e]
      refine hk _ _ ⟨by simp; omega, .inr ⟨H.size, List.replicate (c - (s.len + x.len)) z, rfl, get_push_new _ _, by simp; omega⟩, hc⟩ (by dsimp only; omega) (.inr ⟨rfl, Upd.push _ _ _, by simp⟩)
abbrev RFd := TypeId × Sl × List Value
structure Rec (H : Heap) (p : Nat) (T : TypeId) (fs : List RFd) (tl : List Value) : Prop where
  row : Row H p T (fs.map (fun f => slV f.2.1) ++ tl)
  vs : ∀ i (h : i < fs.length), Vec H fs[i].1 fs[i].2.1 fs[i].2.2
  ap : ∀ i j (h : i < fs.length) (h' : j < fs.length), i ≠ j → Apart fs[i].2.1 fs[j].2.1
  np : ∀ i (h : i < fs.length) b, fs[i].2.1.a = some (adr b) → b ≠ p
def RecB (p : Nat) (fs : List RFd) (b : Nat) : Prop := b = p ∨ ∃ i, ∃ h : i < fs.length, fs[i].2.1.a = some (adr b)
theorem Rec.upd {M : Nat → Prop} {H H' : Heap} {p : Nat} {T : TypeId} {fs : List RFd} {tl : List Value} (hu : Upd M H H') (h : Rec H p T fs tl) (hm : ∀ b, RecB p fs b → ¬ M b) : Rec H' p T fs tl :=
  ⟨hu.row h.row (hm p (.inl rfl)), fun i hi => (h.vs i hi).upd hu fun b hb => hm b (.inr ⟨i, hi, hb⟩), h.ap, h.np⟩
theorem Rec.ext {H H' : Heap} {p : Nat} {T : TypeId} {fs : List RFd} {tl : List Value} (hu : Ext H H') (h : Rec H p T fs tl) : Rec H' p T fs tl := h.upd hu fun _ _ h => h
theorem Rec.lt {H : Heap} {p : Nat} {T : TypeId} {fs : List RFd} {tl : List Value} (h : Rec H p T fs tl) {b : Nat} (hb : RecB p fs b) : b < H.size := by
  rcases hb with rfl | ⟨i, hi, e⟩
  · exact h.row.lt
  · exact (h.vs i hi).lt e
structure RecP (H0 H : Heap) (p : Nat) (T : TypeId) (fs : List RFd) (tl : List Value) (q : Nat) (l : Sl) (w : Value) : Prop where
  hq : q < fs.length
  row : Row H p T (fs.map (fun f => slV f.2.1) ++ tl)
  vs : ∀ i (h : i < fs.length), i ≠ q → Vec H fs[i].1 fs[i].2.1 fs[i].2.2
  vl : Vec H fs[q].1 l (fs[q].2.2 ++ [w])
  ap : ∀ i j (h : i < fs.length) (h' : j < fs.length), i ≠ j → Apart fs[i].2.1 fs[j].2.1
  np : ∀ i (h : i < fs.length) b, fs[i].2.1.a = some (adr b) → b ≠ p
  la : l.a = fs[q].2.1.a ∨ l.a = some (adr H0.size)
  lt : ∀ b, RecB p fs b → b < H0.size
  up : Upd (fun b => fs[q].2.1.a = some (adr b)) H0 H
  old : Vec H fs[q].1 fs[q].2.1 fs[q].2.2
theorem RecP.cell {H0 H : Heap} {p : Nat} {T : TypeId} {fs : List RFd} {tl : List Value} {q : Nat} {l : Sl} {w : Value} (h : RecP H0 H p T fs tl q l w) (i : Nat) : hcell H ⟨p, i, none⟩ = (fs.map (fun f => slV f.2.1) ++ tl)[i]? := h.row.cell i
theorem RecP.st {H0 H : Heap} {p : Nat} {T : TypeId} {fs : List RFd} {tl : List Value} {q : Nat} {l : Sl} {w : Value} (h : RecP H0 H p T fs tl q l w) {k : Heap → Prop}
    (hk : ∀ H', Rec H' p T (fs.set q (fs[q]'h.hq |>.1, l, (fs[q]'h.hq).2.2 ++ [w])) tl → Upd (fun b => b = p ∨ (fs[q]'h.hq).2.1.a = some (adr b)) H0 H' → k H') : St ⟨p, q, none⟩ (.slice l.a l.len l.cap) H k := by
  have hq := h.hq
  refine St_row h.row (by simp; omega) fun H' hU hs hr => hk H' ?_ ((h.up.mono fun _ _ e => .inr e).trans hU fun _ _ e => .inl e)
  have hpH : p < H0.size := h.lt p (.inl rfl)
  have lnp : ∀ b, l.a = some (adr b) → b ≠ p := fun b hb e => by
    rcases h.la with h1 | h1
    · rw [h1] at hb; exact h.np q hq b hb e
    · rw [h1] at hb; cases hb; omega
  have lap : ∀ i (hi : i < fs.length), i ≠ q → Apart fs[i].2.1 l := fun i hi hne b hb hb' => by
    rcases h.la with h1 | h1
    · rw [h1] at hb'; exact h.ap i q hi hq hne b hb hb'
    · rw [h1] at hb'; cases hb'; have := h.lt _ (.inr ⟨i, hi, hb⟩); omega
  have gn : ∀ i (hi : i < (fs.set q (fs[q].1, l, fs[q].2.2 ++ [w])).length), i ≠ q → (fs.set q (fs[q].1, l, fs[q].2.2 ++ [w]))[i] = fs[i]'(by simpa using hi) := fun i hi hne => List.getElem_set_ne (fun e => hne e.symm) _
  have ge : ∀ i (hi : i < (fs.set q (fs[q].1, l, fs[q].2.2 ++ [w])).length), i = q → (fs.set q (fs[q].1, l, fs[q].2.2 ++ [w]))[i] = (fs[q].1, l, fs[q].2.2 ++ [w]) := fun i hi e => by subst e; exact List.getElem_set_self _
  refine ⟨?_, fun i hi => ?_, fun i j hi hj hne => ?_, fun i hi b hb => ?_⟩
  · rw [List.set_append_left _ _ (by simpa using hq)] at hr
    rw [List.map_set]; exact hr
  · by_cases e : i = q
    · rw [ge i hi e]; exact h.vl.upd hU fun b hb e => lnp b hb e
    · rw [gn i hi e]; exact (h.vs i _ e).upd hU fun b hb e => h.np i _ b hb e
  · by_cases e : i = q
    · have e' : j ≠ q := fun h => hne (e.trans h.symm)
      rw [ge i hi e, gn j hj e']; exact (lap j (by simpa using hj) e').symm
    · rw [gn i hi e]
      by_cases e' : j = q
      · rw [ge j hj e']; exact lap i (by simpa using hi) e
      · rw [gn j hj e']; exact h.ap i j _ _ hne
  · by_cases e : i = q
    · rw [ge i hi e] at hb; exact lnp b hb
    · rw [gn i hi e] at hb; exact h.np i _ b hb
theorem RecP.sub {H0 H : Heap} {p : Nat} {T : TypeId} {fs : List RFd} {tl : List Value} {q : Nat} {l : Sl} {w : Value} (h : RecP H0 H p T fs tl q l w) {b : Nat} (hb : RecB p (fs.set q (fs[q]'h.hq |>.1, l, (fs[q]'h.hq).2.2 ++ [w])) b) : RecB p fs b ∨ H0.size ≤ b := by
  have hq := h.hq
  rcases hb with rfl | ⟨i, hi, hb⟩
  · exact .inl (.inl rfl)
  · by_cases e : i = q
    · subst e
      rw [List.getElem_set_self] at hb
      rcases h.la with e | e
      · rw [e] at hb; exact .inl (.inr ⟨i, hq, hb⟩)
      · rw [e] at hb; cases hb; exact .inr (Nat.le_refl _)
    · rw [List.getElem_set_ne (fun h => e h.symm)] at hb
      exact .inl (.inr ⟨i, by simpa using hi, hb⟩)
end Go.Proofs.YtfpmgpblhhcpgaaGreat.Hc
namespace Go.Proofs.YtfpmgpblhhcpgaaGreat.Hc.Vf
set_option linter.unusedVariables false
set_option linter.unusedSimpArgs false
set_option maxRecDepth 100000
section
abbrev Ins := Int × Int
def tbl : List (Int × Int × Nat) :=
  [(0, 0, 0), (0, 1, 0), (0, 1, 0), (1, 0, 0), (0, 1, 0), (1, 0, 0), (2, 1, 0), (2, 1, 0), (2, 1, 0), (2, 1, 0), (2, 1, 0), (1, 1, 0), (2, 1, 0), (2, 1, 0), (2, 1, 0), (2, 1, 0), (2, 1, 0), (2, 1, 0), (1, 1, 0),
   (0, 0, 0), (1, 0, 0), (0, 1, 1), (1, 0, 0), (0, 0, 0), (0, 0, 0), (2, 0, 0), (0, 0, 2), (0, 0, 0), (0, 0, 2), (0, 0, 0), (0, 0, 0), (1, 1, 0), (0, 1, 0), (0, 1, 0), (2, 1, 0), (0, 1, 0), (2, 1, 0), (2, 1, 0), (1, 1, 0), (1, 0, 0)]
theorem tbl_len : tbl.length = 40 := rfl
theorem tbl_bd : ∀ r ∈ tbl, 0 ≤ r.1 ∧ r.1 ≤ 2 ∧ 0 ≤ r.2.1 ∧ r.2.1 ≤ 1 := by decide
def isOpB (op : Int) : Bool := decide (1 ≤ op ∧ op ≤ 39)
def takes (ps : List Int) (i : Ins) : Int :=
  if isOpB i.1 then
    (if (tbl[i.1.toNat]!).2.2 = 1 then (if 0 ≤ i.2 ∧ i.2 < ps.length then max (ps[i.2.toNat]!) 0 else 0)
     else if (tbl[i.1.toNat]!).2.2 = 2 then (if 0 ≤ i.2 then i.2 % 8 else 0)
     else (tbl[i.1.toNat]!).1) else 0
def puts (i : Ins) : Int := if isOpB i.1 then (tbl[i.1.toNat]!).2.1 else 0
theorem tbl_get {op : Int} (h : isOpB op = true) : tbl[op.toNat]! ∈ tbl := by
  unfold isOpB at h
  have := of_decide_eq_true h
  rw [getElem!_pos tbl op.toNat (by rw [tbl_len]; omega)]
  exact List.getElem_mem _
theorem takes_bd (ps : List Int) (i : Ins) : 0 ≤ takes ps i := by
  unfold takes
  split
  · rename_i h
    have := tbl_bd _ (tbl_get h)
    repeat' split
    all_goals omega
  · exact Int.le_refl _
theorem puts_bd (i : Ins) : 0 ≤ puts i ∧ puts i ≤ 1 := by
  unfold puts
  split
  · rename_i h
    have := tbl_bd _ (tbl_get h)
    omega
  · omega
theorem takes_i64 {ps : List Int} (hps : ∀ x ∈ ps, I64 x) (i : Ins) : takes ps i < 9223372036854775808 := by
  unfold takes
  split
  · rename_i h
    have := tbl_bd _ (tbl_get h)
    split
    · split
      · rename_i hh
        rw [getElem!_pos ps _ (by omega)]
        have := hps _ (List.getElem_mem (show i.2.toNat < ps.length by omega))
        unfold I64 at this
        omega
      · omega
    · split
      · split <;> omega
      · omega
  · omega
def nexts (c : List Ins) (at' : Nat) : List Int :=
  let i := c[at']!
  if i.1 = 22 ∨ i.1 = 23 then [] else if i.1 = 19 then [i.2] else if i.1 = 20 then [i.2, (at' : Int) + 1] else [(at' : Int) + 1]
def fits (ps : List Int) (i : Ins) (d : Nat) : Prop := takes ps i ≤ d ∧ (d : Int) - takes ps i + puts i ≤ 64
instance (ps : List Int) (i : Ins) (d : Nat) : Decidable (fits ps i d) := by unfold fits; infer_instance
def behind (ps : List Int) (i : Ins) (d : Nat) : Nat := ((d : Int) - takes ps i + puts i).toNat
def Succ (c : List Ins) (ps : List Int) (i d j e : Nat) : Prop := i < c.length ∧ fits ps c[i]! d ∧ (j : Int) ∈ nexts c i ∧ j < c.length ∧ e = behind ps c[i]! d
inductive Rch (c : List Ins) (ps : List Int) : Nat → Nat → Prop where
  | zero : Rch c ps 0 0
  | step {i d j e : Nat} (h : Rch c ps i d) (s : Succ c ps i d j e) : Rch c ps j e
variable {c : List Ins} {ps : List Int}
theorem behind_le {i : Ins} {d : Nat} (h : fits ps i d) : behind ps i d ≤ 64 ∧ ((behind ps i d : Nat) : Int) = (d : Int) - takes ps i + puts i := by
  unfold fits at h
  unfold behind
  have := puts_bd i
  omega
theorem Rch.bd {i d : Nat} (h : Rch c ps i d) (hc : 0 < c.length) : i < c.length ∧ d ≤ 64 := by
  cases h with
  | zero => exact ⟨hc, by omega⟩
  | step h s => obtain ⟨_, h2, _, h4, rfl⟩ := s; exact ⟨h4, (behind_le h2).1⟩
structure Inv (c : List Ins) (ps : List Int) (V T : Nat → Nat → Prop) : Prop where
  all : ∀ i d, V i d ∨ T i d → Rch c ps i d
  start : V 0 0 ∨ T 0 0
  cl : ∀ i d j e, V i d → Succ c ps i d j e → V j e ∨ T j e
theorem Inv.done {V T : Nat → Nat → Prop} (h : Inv c ps V T) (hT : ∀ i d, ¬ T i d) (i d : Nat) : Rch c ps i d ↔ V i d := by
  constructor
  · intro hr
    induction hr with
    | zero => exact h.start.resolve_right (hT _ _)
    | step _ s ih => exact (h.cl _ _ _ _ ih s).resolve_right (hT _ _)
  · exact fun hv => h.all _ _ (.inl hv)
theorem Inv.swap {V T V' T' : Nat → Nat → Prop} (h : Inv c ps V T) (h1 : ∀ i d, V' i d → V i d) (h2 : ∀ i d, V i d ∨ T i d ↔ V' i d ∨ T' i d) : Inv c ps V' T' :=
  ⟨fun i d hv => h.all i d ((h2 i d).2 hv), (h2 0 0).1 h.start, fun i d j e hv hs => (h2 j e).1 (h.cl i d j e (h1 _ _ hv) hs)⟩
theorem Inv.go {V T V' T' : Nat → Nat → Prop} (h : Inv c ps V T) {i d : Nat} (hx : V i d ∨ T i d) (hV : ∀ j e, V' j e ↔ V j e ∨ (j = i ∧ e = d)) (hT : ∀ j e, T' j e → T j e ∨ Succ c ps i d j e) (hT1 : ∀ j e, Succ c ps i d j e → V' j e ∨ T' j e) (hT2 : ∀ j e, T j e → V' j e ∨ T' j e) : Inv c ps V' T' := by
  refine ⟨fun j e hv => ?_, ?_, fun j e k f hv hs => ?_⟩
  · rcases hv with hv | hv
    · rcases (hV j e).1 hv with hv | ⟨rfl, rfl⟩
      · exact h.all _ _ (.inl hv)
      · exact h.all _ _ hx
    · rcases hT j e hv with hv | hv
      · exact h.all _ _ (.inr hv)
      · exact .step (h.all _ _ hx) hv
  · rcases h.start with hv | hv
    · exact .inl ((hV _ _).2 (.inl hv))
    · exact hT2 _ _ hv
  · rcases (hV j e).1 hv with hv | ⟨rfl, rfl⟩
    · rcases h.cl _ _ _ _ hv hs with hv | hv
      · exact .inl ((hV _ _).2 (.inl hv))
      · exact hT2 _ _ hv
    · exact hT1 _ _ hs
def jumpBad (c : List Ins) (i : Nat) : Prop := (c[i]!.1 = 19 ∨ c[i]!.1 = 20) ∧ ¬ (0 ≤ c[i]!.2 ∧ c[i]!.2 < c.length)
def stackBad (c : List Ins) (ps : List Int) (i : Nat) : Prop := (∃ d, Rch c ps i d ∧ ¬ fits ps c[i]! d) ∨ ∃ d e, Rch c ps i d ∧ Rch c ps i e ∧ d ≠ e
def endBad (c : List Ins) (i : Nat) : Prop := (c.length : Int) ∈ nexts c i
open Classical in
noncomputable def wr (c : List Ins) (ps : List Int) (i : Nat) : Nat := if jumpBad c i then 150 else if stackBad c ps i then 151 else if endBad c i then 153 else 0
open Classical in
noncomputable def depI (c : List Ins) (ps : List Int) (i : Nat) : Int := if h : ∃ d, Rch c ps i d then (Classical.choose h : Nat) else -1
def isReached (c : List Ins) (ps : List Int) (i : Nat) : Prop := ∃ d, Rch c ps i d
open Classical in
noncomputable def depthsS (c : List Ins) (ps : List Int) : Except (Nat × Nat) (List Int) :=
  if 2000 < c.length then .error (0, 130) else if c.length = 0 then .error (0, 153) else
  match (List.range c.length).find? (fun i => decide (isReached c ps i ∧ wr c ps i ≠ 0)) with
  | some i => .error (i, wr c ps i)
  | none => .ok ((List.range c.length).map (depI c ps))
end
end Go.Proofs.YtfpmgpblhhcpgaaGreat.Hc.Vf
namespace Go.Proofs.YtfpmgpblhhcpgaaGreat.Hc
set_option linter.unusedVariables false
set_option linter.unusedSimpArgs false
set_option maxRecDepth 100000
theorem reach47 : reachBytes ≤ 2 ^ 47 := by decide
theorem list_of {α : Type} {R : Nat → α → Prop} : ∀ n, (∀ i, i < n → ∃ x, R i x) → ∃ xs : List α, xs.length = n ∧ ∀ i (h : i < xs.length), R i xs[i]
  | 0, _ => ⟨[], rfl, fun i h => by simp at h⟩
  | n + 1, h => by
    obtain ⟨xs, h1, h2⟩ := list_of n fun i hi => h i (by omega)
    obtain ⟨x, hx⟩ := h n (by omega)
    refine ⟨xs ++ [x], by simp [h1], fun i hi => ?_⟩
    rcases Nat.lt_or_ge i n with e | e
    · rw [List.getElem_append_left (by omega)]; exact h2 i (by omega)
    · have : i = n := by simp at hi; omega
      subst this
      rw [List.getElem_append_right (by omega)]
      simpa using hx
theorem rdC_elems {P : Program} {t e : TypeId} (hu : P.underlying t = some (.slice e)) {n : Nat} (hce : P.cellsOf e = n) {α : Type} {H : Heap} {R : List Value → α → Prop} (hR : ∀ f cs, RdC P H f e cs → ∃ x, R cs x) {f : Nat} {v : Value} (h : RdC P H f t [v]) :
    ∃ (s : Sl) (xs : List α), v = .slice s.a s.len s.cap ∧ s.len = xs.length ∧ s.len ≤ s.cap ∧ s.cap * P.bytesOf e ≤ reachBytes ∧ s.cap ≤ maxLen ∧
      ∀ i (h : i < xs.length), ∃ a, s.a = some a ∧ ∃ cs, cs.length = n ∧ hcells H (a.add (i * n)) 0 cs ∧ R cs xs[i] := by
  obtain ⟨f', hs⟩ := rdC_slice hu h
  rw [hce] at hs
  rcases hs with e | ⟨a, len, cap, e, h1, h2, h3⟩
  · simp only [List.cons.injEq, and_true] at e
    subst e
    exact ⟨⟨none, 0, 0⟩, [], rfl, rfl, Nat.le_refl _, by simp, Nat.zero_le _, fun i hi => by simp at hi⟩
  · simp only [List.cons.injEq, and_true] at e
    subst e
    obtain ⟨xs, g1, g2⟩ := list_of (R := fun i x => ∃ cs, cs.length = n ∧ hcells H (a.add (i * n)) 0 cs ∧ R cs x) len fun i hi => by
      obtain ⟨cs, k1, k2, k3⟩ := h3 i (Nat.lt_of_lt_of_le hi h1)
      obtain ⟨x, hx⟩ := hR _ _ k3
      exact ⟨x, cs, k1, k2, hx⟩
    exact ⟨⟨some a, len, cap⟩, xs, rfl, g1.symm, h1, h2.2, h2.1, fun i hi => ⟨a, rfl, g2 i hi⟩⟩
theorem rdC_list {P : Program} {t e : TypeId} (hu : P.underlying t = some (.slice e)) (hce : P.cellsOf e = 1) {α : Type} {g : α → Value} {Q : α → Prop} {H : Heap} (hR : ∀ f cs, RdC P H f e cs → ∃ x, cs = [g x] ∧ Q x) {f : Nat} {v : Value} (h : RdC P H f t [v]) :
    ∃ (s : Sl) (xs : List α), v = .slice s.a s.len s.cap ∧ RL g H s xs ∧ (∀ x ∈ xs, Q x) ∧ s.cap * P.bytesOf e ≤ reachBytes ∧ s.cap ≤ maxLen := by
  obtain ⟨s, xs, h1, h2, h3, h4, h5, h6⟩ := rdC_elems hu hce (R := fun cs x => cs = [g x] ∧ Q x) hR h
  refine ⟨s, xs, h1, ⟨?_, h2, h3⟩, fun x hx => ?_, h4, h5⟩
  · unfold rdL
    cases ha : s.a with
    | none =>
      cases xs with
      | nil => rfl
      | cons x xs => obtain ⟨a, e, _⟩ := h6 0 (by simp); rw [ha] at e; cases e
    | some a =>
      refine hcells_iff.2 fun j hj => ?_
      rw [List.length_map] at hj
      obtain ⟨b, e, cs, _, k2, k3, _⟩ := h6 j hj
      rw [ha] at e; cases e
      subst k3
      have := k2.1
      rw [Nat.mul_one, add_zero] at this
      rw [Nat.zero_add, this, List.getElem?_map, List.getElem?_eq_getElem hj]; rfl
  · obtain ⟨i, hi, rfl⟩ := List.getElem_of_mem hx
    obtain ⟨_, _, _, _, _, _, k⟩ := h6 i hi
    exact k
theorem rdC_ints {P : Program} {t e : TypeId} (hu : P.underlying t = some (.slice e)) (he : P.underlying e = some (.int .i64)) (hce : P.cellsOf e = 1) {H : Heap} {f : Nat} {v : Value} (h : RdC P H f t [v]) :
    ∃ (s : Sl) (xs : List Int), v = .slice s.a s.len s.cap ∧ RI H s xs ∧ (∀ x ∈ xs, I64 x) ∧ s.cap * P.bytesOf e ≤ reachBytes ∧ s.cap ≤ maxLen :=
  rdC_list hu hce (fun _ _ h => rdC_i64 he h) h
theorem addAdd (a : Addr) (n m : Nat) : (a.add n).add m = a.add (n + m) := by
  unfold Addr.add
  by_cases h : n = 0
  · subst h; simp
  · by_cases h2 : m = 0
    · subst h2; simp [h]
    · rw [if_neg h, if_neg h2, if_neg (by omega)]
      simp [Nat.add_assoc]
theorem hcellsShift {H : Heap} {a : Addr} {n : Nat} : ∀ {vs : List Value} {i : Nat}, hcells H a (n + i) vs ↔ hcells H (a.add n) i vs
  | [], _ => Iff.rfl
  | _ :: _, i => by
    simp only [hcells]
    rw [addAdd, Nat.add_assoc, hcellsShift (i := i + 1)]
theorem hcells_app {H : Heap} {a : Addr} : ∀ {vs ws : List Value} {i : Nat}, hcells H a i (vs ++ ws) ↔ hcells H a i vs ∧ hcells H a (i + vs.length) ws
  | [], ws, i => by simp [hcells]
  | v :: vs, ws, i => by
    simp only [List.cons_append, hcells, List.length_cons]
    rw [hcells_app (vs := vs), and_assoc, show i + 1 + vs.length = i + (vs.length + 1) by omega]
theorem IxA_rn' {α : Type} [Inhabited α] {f : α → List Value} {n : Nat} (hf : ∀ e, (f e).length = n) {H : Heap} {s : Sl} {xs : List α} (h : RN f n H s xs) (hn : 0 < n) {i : Int} {k : Addr → Prop} {j : Nat} (hj : i = j) (hl : j < xs.length)
    (hk : ∀ a, hcells H a 0 (f xs[j]!) → k a) : IxA n s i k := by
  have hr := h.rd
  unfold rdL at hr
  cases ha : s.a with
  | none =>
    rw [ha] at hr
    have := flat_len hf (es := xs)
    rw [hr] at this
    simp only [List.length_nil] at this
    have : 0 < xs.length * n := Nat.mul_pos (by omega) hn
    omega
  | some a =>
    rw [ha] at hr
    subst hj
    refine IxA.mk ha (by omega) (by rw [h.len]; omega) ?_
    rw [Int.toNat_natCast]
    refine hk _ ?_
    obtain ⟨r, hrest⟩ := flat_drop hf hl
    have h1 := hcells_drop (m := j * n) hr
    rw [hrest, Nat.zero_add] at h1
    exact hcellsShift.1 (hcells_app.1 h1).1
theorem rn_of {α : Type} {f : α → List Value} {n : Nat} (hf : ∀ e, (f e).length = n) {H : Heap} {a : Addr} : ∀ {xs : List α} {m : Nat}, (∀ i (h : i < xs.length), hcells H (a.add ((m + i) * n)) 0 (f xs[i])) → hcells H a (m * n) (xs.flatMap f)
  | [], _, _ => trivial
  | x :: xs, m, h => by
    rw [List.flatMap_cons, hcells_app, hf]
    refine ⟨?_, ?_⟩
    · have := h 0 (by simp)
      rw [Nat.add_zero] at this
      exact hcellsShift.2 this
    · have := rn_of hf (H := H) (a := a) (xs := xs) (m := m + 1) fun i hi => by
        have := h (i + 1) (by simpa using hi)
        rw [show m + 1 + i = m + (i + 1) by omega]
        simpa using this
      rw [Nat.add_mul, Nat.one_mul] at this
      exact this
theorem RN.of_elems {α : Type} {f : α → List Value} {n : Nat} (hf : ∀ e, (f e).length = n) {H : Heap} {s : Sl} {xs : List α} (hl : s.len = xs.length) (hc : s.len ≤ s.cap) (h : ∀ i (h : i < xs.length), ∃ a, s.a = some a ∧ hcells H (a.add (i * n)) 0 (f xs[i])) : RN f n H s xs := by
  refine ⟨?_, hl, hc⟩
  unfold rdL
  cases ha : s.a with
  | none =>
    cases xs with
    | nil => rfl
    | cons x xs => obtain ⟨a, e, _⟩ := h 0 (by simp); rw [ha] at e; cases e
  | some a =>
    dsimp only
    have := rn_of hf (H := H) (a := a) (xs := xs) (m := 0) fun i hi => by
      obtain ⟨a', e, hcell⟩ := h i hi
      rw [ha] at e; cases e
      rw [Nat.zero_add]; exact hcell
    simpa using this
theorem RN.upd' {α : Type} {f : α → List Value} {n : Nat} {M : Nat → Prop} {H H' : Heap} (hu : Upd M H H') {s : Sl} {xs : List α} (h : RN f n H s xs) (hn : xs ≠ [] → ∀ a, s.a = some a → ¬ M a.block) : RN f n H' s xs := by
  by_cases e : xs = []
  · subst e
    refine ⟨?_, h.len, h.cap⟩
    have := h.rd
    unfold rdL at this ⊢
    cases s.a <;> trivial
  · exact h.upd hu (hn e)
theorem RN.lt {α : Type} {f : α → List Value} {n : Nat} (hf : ∀ e, (f e).length = n) (hn : 0 < n) {H : Heap} {s : Sl} {xs : List α} (h : RN f n H s xs) (hx : xs ≠ []) {a : Addr} (ha : s.a = some a) : a.block < H.size := by
  have hr := h.rd
  unfold rdL at hr
  rw [ha] at hr
  cases xs with
  | nil => exact absurd rfl hx
  | cons x xs =>
    have hl := hf x
    cases hfx : f x with
    | nil => rw [hfx] at hl; simp at hl; omega
    | cons v vs =>
      rw [List.flatMap_cons, hfx] at hr
      have := lt_of_cell hr.1
      rwa [add_block] at this
theorem vecN_pre {T : TypeId} {n : Nat} {H : Heap} {s : Sl} {vs : List Value} (h : VecN H T n s vs) {j c : Nat} (hj : j ≤ s.len) (hc : j ≤ c) (hc2 : c ≤ s.cap) : VecN H T n ⟨s.a, j, c⟩ (vs.take (j * n)) := by
  have hl := h.len
  have h1 : j * n ≤ s.len * n := Nat.mul_le_mul_right n hj
  refine ⟨by rw [List.length_take]; dsimp only; omega, ?_, hc⟩
  rcases h.own with ⟨g1, g2, g3⟩ | ⟨b, sp, g1, g2, g3⟩
  · exact .inl ⟨g1, by dsimp only; omega, by rw [g3]; simp⟩
  · refine .inr ⟨b, vs.drop (j * n) ++ sp, g1, by rw [← List.append_assoc, List.take_append_drop]; exact g2, ?_⟩
    have := Nat.mul_le_mul_right n hc2
    simp only [List.length_take, List.length_append, List.length_drop]
    omega
def entsF : Nat → List Nat → List MapEntry
  | _, [] => []
  | n, d :: ds => { key := .int .i64 (d : Nat), val := .bool true, born := n } :: entsF (n + 1) ds
theorem entsF_len : ∀ (n : Nat) (ds : List Nat), (entsF n ds).length = ds.length
  | _, [] => rfl
  | n, d :: ds => by simp [entsF, entsF_len (n + 1) ds]
theorem entsF_snoc : ∀ (n : Nat) (ds : List Nat) (d : Nat), entsF n (ds ++ [d]) = entsF n ds ++ [{ key := .int .i64 (d : Nat), val := .bool true, born := n + ds.length }]
  | n, [], d => by simp [entsF]
  | n, e :: ds, d => by
    simp only [List.cons_append, entsF, entsF_snoc (n + 1) ds d, List.length_cons]
    congr 4
    omega
theorem entsF_mem : ∀ {n : Nat} {ds : List Nat} {e : MapEntry}, e ∈ entsF n ds → n ≤ e.born ∧ e.born < n + ds.length ∧ e.key = .int .i64 ((ds[e.born - n]! : Nat) : Int)
  | n, d :: ds, e, h => by
    rcases List.mem_cons.1 h with rfl | h
    · refine ⟨Nat.le_refl _, by simp, ?_⟩
      simp
    · obtain ⟨h1, h2, h3⟩ := entsF_mem h
      refine ⟨by omega, by simp only [List.length_cons]; omega, ?_⟩
      rw [h3]
      obtain ⟨q, hq⟩ : ∃ q, e.born - n = q + 1 := ⟨e.born - n - 1, by omega⟩
      rw [hq, show e.born - (n + 1) = q by omega]
      simp
theorem entsF_find : ∀ {n : Nat} {ds : List Nat} {j : Nat}, j < ds.length → (entsF n ds).find? (fun x => x.born == n + j) = some { key := .int .i64 ((ds[j]! : Nat) : Int), val := .bool true, born := n + j }
  | n, d :: ds, 0, _ => by simp [entsF]
  | n, d :: ds, j + 1, h => by
    have hne : (n == n + (j + 1)) = false := beq_eq_false_iff_ne.2 (by omega)
    simp only [entsF, List.find?_cons, hne]
    have := entsF_find (n := n + 1) (ds := ds) (j := j) (by simpa using h)
    rw [show n + (j + 1) = n + 1 + j by omega]
    simpa using this
theorem entsF_findNow {x : Nat} : ∀ {n i : Nat} {ds : List Nat}, Instr.findNow (.int .i64) (.int .i64 (x : Nat)) (entsF n ds) i = some (if x ∈ ds then (Instr.findNow (.int .i64) (.int .i64 (x : Nat)) (entsF n ds) i).getD none else none) ∧
    (x ∈ ds → ∃ j, Instr.findNow (.int .i64) (.int .i64 (x : Nat)) (entsF n ds) i = some (some (j, .bool true)))
  | n, i, [] => by simp [entsF, Instr.findNow]
  | n, i, d :: ds => by
    have hs : Instr.sameNow (.int .i64) (.int .i64 (x : Nat)) (.int .i64 (d : Nat)) = some (((x : Nat) : Int) == (d : Nat)) := by simp [Instr.sameNow]
    unfold entsF Instr.findNow
    dsimp only
    rw [hs]
    by_cases h : x = d
    · subst h; simp
    · have hb : (((x : Nat) : Int) == ((d : Nat) : Int)) = false := beq_eq_false_iff_ne.2 (by omega)
      rw [hb]
      dsimp only
      obtain ⟨h1, h2⟩ := entsF_findNow (x := x) (n := n + 1) (i := i + 1) (ds := ds)
      refine ⟨?_, fun hx => h2 ((List.mem_cons.1 hx).resolve_left h)⟩
      by_cases hx : x ∈ ds
      · rw [if_pos (List.mem_cons.2 (.inr hx))]
        rw [if_pos hx] at h1; exact h1
      · rw [if_neg (fun e => (List.mem_cons.1 e).elim h hx)]
        rw [if_neg hx] at h1; exact h1
def MapI (H : Heap) (v : Value) (ds : List Nat) : Prop := (v = .map none ∧ ds = []) ∨ ∃ r, v = .map (some r) ∧ H[r]? = some (.map ⟨entsF 0 ds⟩ ds.length)
theorem MapI.upd {M : Nat → Prop} {H H' : Heap} (hu : Upd M H H') {v : Value} {ds : List Nat} (h : MapI H v ds) (hn : ∀ r, v = .map (some r) → ¬ M r) : MapI H' v ds := by
  rcases h with h | ⟨r, h1, h2⟩
  · exact .inl h
  · exact .inr ⟨r, h1, hu.keep h2 (hn r h1)⟩
theorem MapI.ents {H : Heap} {v : Value} {ds : List Nat} (h : MapI H v ds) : MpE H v (entsF 0 ds) := by
  rcases h with ⟨h1, h2⟩ | ⟨r, h1, h2⟩
  · subst h2; exact .inl ⟨h1, rfl⟩
  · exact .inr ⟨r, _, h1, h2⟩
theorem MpN_i {H : Heap} {v : Value} {ds : List Nat} {k : Int → Prop} (h : MapI H v ds) (hk : k (ds.length : Nat)) : MpN v H k := ⟨_, h.ents, by rw [entsF_len]; exact hk⟩
theorem MpL_i {H : Heap} {v : Value} {ds : List Nat} {x : Nat} {k : Bool → Bool → Prop} (h : MapI H v ds) (hk : k (decide (x ∈ ds)) (decide (x ∈ ds))) : MpL (.int .i64) (.c .bool) false v (.int .i64 (x : Nat)) H k := by
  refine ⟨_, h.ents, ?_⟩
  obtain ⟨h1, h2⟩ := entsF_findNow (x := x) (n := 0) (i := 0) (ds := ds)
  by_cases hx : x ∈ ds
  · obtain ⟨j, hj⟩ := h2 hx
    rw [decide_eq_true hx] at hk
    exact .inl ⟨j, true, hj, hk⟩
  · rw [if_neg hx] at h1
    rw [decide_eq_false hx] at hk
    exact .inr ⟨h1, hk⟩
theorem MpU_i {H : Heap} {r : Nat} {ds : List Nat} {x : Nat} {k : Heap → Prop} (h : H[r]? = some (.map ⟨entsF 0 ds⟩ ds.length)) (hx : x ∉ ds) (hk : ∀ H', Upd (· = r) H H' → H'.size = H.size → H'[r]? = some (.map ⟨entsF 0 (ds ++ [x])⟩ (ds ++ [x]).length) → k H') :
    MpU (.int .i64) (.map (some r)) (.int .i64 (x : Nat)) (.bool true) H k := by
  refine ⟨r, _, _, rfl, h, .inr ⟨?_, hk _ ⟨by simp, fun b hb hn => ?_⟩ (by simp) ?_⟩⟩
  · obtain ⟨h1, _⟩ := entsF_findNow (x := x) (n := 0) (i := 0) (ds := ds)
    rw [if_neg hx] at h1; exact h1
  · simp only [Array.getElem?_setIfInBounds]; rw [if_neg (fun e => hn e.symm)]
  · have := lt_of_get h
    simp only [Array.getElem?_setIfInBounds, this, if_true]
    rw [entsF_snoc]
    simp
theorem MkM_i {H : Heap} {k : Value → Heap → Prop} (hk : ∀ r H', r = H.size → Ext H H' → H'.size = H.size + 1 → H'[r]? = some (.map ⟨entsF 0 []⟩ ([] : List Nat).length) → k (.map (some r)) H') : MkM H k :=
  hk _ _ rfl (Upd.push _ _ _) (by simp) (get_push_new _ _)
theorem MpRange_i {H : Heap} {v : Value} {ds : List Nat} (hm : MapI H v ds) {M0 : Nat → Prop} (hM : ∀ r, v = .map (some r) → ¬ M0 r) (I : List Nat → Heap → Prop) {DONE : Heap → Prop} {BODY : Int → Heap → (Heap → Prop) → Prop}
    (h0 : ∀ H', Ext H H' → I [] H')
    (hdone : ∀ H' seen, Upd M0 H H' → I seen H' → (∀ d, d ∈ ds → d ∈ seen) → DONE H')
    (hstep : ∀ H' H'' seen, Upd M0 H H' → Upd M0 H H'' → Upd (· = H.size) H' H'' → I seen H' → I seen H'')
    (hbody : ∀ H' seen (d : Nat) (nx : Heap → Prop), Upd M0 H H' → H.size < H'.size → I seen H' → d ∈ ds → d ∉ seen → (∀ H'', Upd M0 H H'' → H'.size ≤ H''.size → H''[H.size]? = H'[H.size]? → I (d :: seen) H'' → nx H'') → BODY (d : Nat) H' nx) (hnd : ds.Nodup) :
    MpR v H fun a H8 => LoopT (σ := Unit) (fun next _ H9 => MpXk a H9 (fun H10 => DONE H10) fun _ _ H11 => MpC a H11 fun x7 _ => AsI .i64 x7 fun n1 => BODY n1 H11 (next ())) () H8 := by
  rcases hm with ⟨rfl, rfl⟩ | ⟨r, rfl, hr⟩
  · refine .inl ⟨rfl, ?_⟩
    have hE : Ext H (H.push (.mapIter none 0 #[] 0)) := Upd.push _ _ _
    refine LoopT.mk (fun _ H' => H.push (.mapIter none 0 #[] 0) = H') (fun _ _ => 0) rfl ?_
    rintro next _ _ rfl _
    refine ⟨rfl, .inl ⟨_, _, _, get_push_new _ _, ?_⟩⟩
    exact hdone _ [] (hE.mono fun _ _ h => h.elim) (h0 _ hE) fun d hd => by cases hd
  · refine .inr ⟨r, _, _, rfl, hr, ?_⟩
    have hE : Ext H (H.push (.mapIter (some r) ds.length #[] ds.length)) := Upd.push _ _ _
    have hrl := lt_of_get hr
    have hM := hM r rfl
    refine LoopT.ghost (fun m _ H' => ∃ (st : List Nat), m = ds.length - st.length ∧ (∀ j ∈ st, j < ds.length) ∧ st.Nodup ∧ Upd M0 H H' ∧ H.size < H'.size ∧ H'[H.size]? = some (.mapIter (some r) ds.length ⟨st.reverse⟩ ds.length) ∧ I (st.map fun j => ds[j]!) H') (ds.length - 0)
      ⟨[], rfl, (fun j hj => by cases hj), List.nodup_nil, hE.mono (fun _ _ h => h.elim), by simp, get_push_new _ _, h0 _ hE⟩ ?_
    rintro next m _ H9 ⟨st, rfl, hst, hnds, hU, hsz, hit, hI⟩ hnext
    have hmap : H9[r]? = some (.map ⟨entsF 0 ds⟩ ds.length) := hU.keep hr hM
    refine ⟨rfl, .inr ⟨r, _, _, _, hit, hmap, fun e he => ?_, fun hall => ?_, fun e he hns => ?_⟩⟩
    · have := (entsF_mem he).2.1; omega
    · refine hdone _ _ hU hI fun d hd => ?_
      obtain ⟨j, hj, rfl⟩ := List.getElem_of_mem hd
      have hfe := List.mem_of_find?_eq_some (entsF_find (n := 0) (ds := ds) (j := j) hj)
      have := hall _ hfe
      simp only [Nat.zero_add, List.contains_toArray, List.contains_eq_mem, List.mem_reverse, decide_eq_true_eq] at this
      exact List.mem_map.2 ⟨j, this, getElem!_pos ds j hj⟩
    · obtain ⟨_, hb, hkey⟩ := entsF_mem he
      rw [Nat.zero_add] at hb
      rw [Nat.sub_zero] at hkey
      have hns' : e.born ∉ st := by simpa using hns
      have hU2 : Upd (· = H.size) H9 (H9.setIfInBounds H.size (.mapIter (some r) ds.length ((⟨st.reverse⟩ : Array Nat).push e.born) ds.length)) :=
        ⟨by simp, fun b hb hn => by simp only [Array.getElem?_setIfInBounds]; rw [if_neg (fun e => hn e.symm)]⟩
      have hU3 : Upd M0 H (H9.setIfInBounds H.size (.mapIter (some r) ds.length ((⟨st.reverse⟩ : Array Nat).push e.born) ds.length)) := hU.trans hU2 fun b hb e => by omega
      have hit2 : (H9.setIfInBounds H.size (.mapIter (some r) ds.length ((⟨st.reverse⟩ : Array Nat).push e.born) ds.length))[H.size]? = some (.mapIter (some r) ds.length ⟨(e.born :: st).reverse⟩ ds.length) := by
        simp only [Array.getElem?_setIfInBounds, hsz, if_true]
        congr 2
        simp
      have hcell : MpC ⟨H.size, 0, none⟩ (H9.setIfInBounds H.size (.mapIter (some r) ds.length ((⟨st.reverse⟩ : Array Nat).push e.born) ds.length)) fun x7 _ => AsI .i64 x7 fun n1 => BODY n1 (H9.setIfInBounds H.size (.mapIter (some r) ds.length ((⟨st.reverse⟩ : Array Nat).push e.born) ds.length)) (next ()) := by
        refine ⟨rfl, r, _, _, _, _, e.born, { key := .int .i64 ((ds[e.born]! : Nat) : Int), val := .bool true, born := e.born }, hit2, hU3.keep hr hM, by simp, ?_, ?_⟩
        · have := entsF_find (n := 0) (ds := ds) (j := e.born) hb
          simpa using this
        · show AsI .i64 (.int .i64 ((ds[e.born]! : Nat) : Int)) _
          unfold AsI
          dsimp only
          rw [if_pos rfl]
          refine hbody _ (st.map fun j => ds[j]!) ds[e.born]! _ hU3 (by simpa using hsz) (hstep _ _ _ hU hU3 hU2 hI) ?_ ?_ fun H'' g1 g2 g3 g4 => ?_
          · rw [getElem!_pos ds _ hb]; exact List.getElem_mem _
          · intro hmem
            obtain ⟨j, hj, hje⟩ := List.mem_map.1 hmem
            have hj2 := hst j hj
            rw [getElem!_pos ds j hj2, getElem!_pos ds _ hb] at hje
            have hjb : j = e.born := (List.getElem_inj hnd).1 hje
            exact hns' (hjb ▸ hj)
          · refine hnext (ds.length - (e.born :: st).length) () H'' ?_ ⟨e.born :: st, rfl, fun j hj => ?_, List.nodup_cons.2 ⟨hns', hnds⟩, g1, ?_, by rw [g3]; exact hit2, g4⟩
            · have hlen : st.length < ds.length := by
                have hsub : (e.born :: st).length ≤ (List.range ds.length).length := by
                  refine (List.nodup_cons.2 ⟨hns', hnds⟩).length_le_of_subset fun j hj => ?_
                  rcases List.mem_cons.1 hj with rfl | hj
                  · exact List.mem_range.2 hb
                  · exact List.mem_range.2 (hst j hj)
                simp only [List.length_cons, List.length_range] at hsub
                omega
              simp only [List.length_cons]
              omega
            · rcases List.mem_cons.1 hj with rfl | hj
              · exact hb
              · exact hst j hj
            · have : H9.size ≤ H''.size := by simpa using g2
              omega
      exact hcell
end Go.Proofs.YtfpmgpblhhcpgaaGreat.Hc
namespace Go.Proofs.YtfpmgpblhhcpgaaGreat
set_option linter.unusedVariables false
set_option linter.unusedSimpArgs false
set_option maxRecDepth 100000
section
open Hc Hc.Vf
def numB (op : Int) : Bool := [1, 2, 3, 4, 5, 19, 20, 21, 26, 28, 29, 35].contains op
def shp (op : Int) : Bool × Int × Int × Int := if isOpB op then (numB op, (tbl[op.toNat]!).1, (tbl[op.toNat]!).2.1, ((tbl[op.toNat]!).2.2 : Nat)) else (false, 0, 0, 0)
theorem shp_no {op : Int} (h : ¬ (1 ≤ op ∧ op ≤ 39)) : shp op = (false, 0, 0, 0) := by
  unfold shp isOpB; rw [decide_eq_false h]; rfl
theorem extUpd {H H1 H2 : Heap} {b : Nat} (hE : Ext H H1) (hb : H.size ≤ b) (hU : Upd (· = b) H1 H2) : Ext H H2 := hE.trans hU fun c hc e => by omega
theorem shape_put {H : Heap} {b : Nat} {x0 x1 x2 x3 x4 : Value} (hr : Row H b TQal [x0, x1, x2, x3, x4]) {w : ByteArray} {n : Bool} {t p y : Int} {k : ByteArray × Bool × Int × Int × Int → Heap → Prop}
    (hk : ∀ H', Upd (· = b) H H' → Row H' b TQal [.string w, .bool n, .int .i64 t, .int .i64 p, .int .i64 y] → k (w, n, t, p, y) H') :
    St ((adr b).add 0) (.string w) H fun H2 =>
      St ((adr b).add 1) (.bool n) H2 fun H3 =>
      St ((adr b).add 2) (.int .i64 t) H3 fun H4 =>
      St ((adr b).add 3) (.int .i64 p) H4 fun H5 =>
      St ((adr b).add 4) (.int .i64 y) H5 fun H6 =>
      LdC [.str, .bool, (.int .i64), (.int .i64), (.int .i64)] (adr b) H6 fun (c1 : ByteArray × Bool × Int × Int × Int) =>
      k (c1.1, c1.2.1, c1.2.2.1, c1.2.2.2.1, c1.2.2.2.2) H6 := by
  simp only [adr_add]
  refine St_row hr (by simp) fun H2 hU2 _ hr2 => St_row hr2 (by simp) fun H3 hU3 _ hr3 => St_row hr3 (by simp) fun H4 hU4 _ hr4 => St_row hr4 (by simp) fun H5 hU5 _ hr5 => St_row hr5 (by simp) fun H6 hU6 _ hr6 => ?_
  have hU : Upd (· = b) H H6 := (((hU2.trans hU3 fun _ _ h => h).trans hU4 fun _ _ h => h).trans hU5 fun _ _ h => h).trans hU6 fun _ _ h => h
  exact ⟨(w, n, t, p, y), hr6.rd_all, hk H6 hU hr6⟩
theorem beqI {a b : Int} (h : (a == b) = true) : a = b := by simpa using h
theorem bneI {a b : Int} (h : (a == b) = false) : a ≠ b := by simpa using h
theorem s_reckons {op : Int} {H : Heap} (hop : op < 19) {k : ByteArray × Bool × Int × Int × Int → Heap → Prop} (hk : ∀ H' w, Ext H H' → (isOpB op = true → w.size ≠ 0) → k (w, (shp op).1, (shp op).2.1, (shp op).2.2.1, (shp op).2.2.2) H') : CallT Pg fQbc [.int .i64 op] (.one (.agg [.str, .bool, (.int .i64), (.int .i64), (.int .i64)])) H k := by
  refine cQa9 _ ?_
  unfold vQa9
  refine Nw_row (vs := [.string ByteArray.empty, .bool false, .int .i64 0, .int .i64 0, .int .i64 0]) fun b1 H1 hb hE _ hr => ?_
  refine Br.mk (fun h => ?_) fun h1 => ?_
  · have h := beqI h; subst h; exact shape_put hr fun H' hU _ => hk H' _ (extUpd hE (by omega) hU) fun _ => by decide
  refine Br.mk (fun h => ?_) fun h2 => ?_
  · have h := beqI h; subst h; exact shape_put hr fun H' hU _ => hk H' _ (extUpd hE (by omega) hU) fun _ => by decide
  refine Br.mk (fun h => ?_) fun h3 => ?_
  · have h := beqI h; subst h; exact shape_put hr fun H' hU _ => hk H' _ (extUpd hE (by omega) hU) fun _ => by decide
  refine Br.mk (fun h => ?_) fun h4 => ?_
  · have h := beqI h; subst h; exact shape_put hr fun H' hU _ => hk H' _ (extUpd hE (by omega) hU) fun _ => by decide
  refine Br.mk (fun h => ?_) fun h5 => ?_
  · have h := beqI h; subst h; exact shape_put hr fun H' hU _ => hk H' _ (extUpd hE (by omega) hU) fun _ => by decide
  refine Br.mk (fun h => ?_) fun h6 => ?_
  · have h := beqI h; subst h; exact shape_put hr fun H' hU _ => hk H' _ (extUpd hE (by omega) hU) fun _ => by decide
  refine Br.mk (fun h => ?_) fun h7 => ?_
  · have h := beqI h; subst h; exact shape_put hr fun H' hU _ => hk H' _ (extUpd hE (by omega) hU) fun _ => by decide
  refine Br.mk (fun h => ?_) fun h8 => ?_
  · have h := beqI h; subst h; exact shape_put hr fun H' hU _ => hk H' _ (extUpd hE (by omega) hU) fun _ => by decide
  refine Br.mk (fun h => ?_) fun h9 => ?_
  · have h := beqI h; subst h; exact shape_put hr fun H' hU _ => hk H' _ (extUpd hE (by omega) hU) fun _ => by decide
  refine Br.mk (fun h => ?_) fun h10 => ?_
  · have h := beqI h; subst h; exact shape_put hr fun H' hU _ => hk H' _ (extUpd hE (by omega) hU) fun _ => by decide
  refine Br.mk (fun h => ?_) fun h11 => ?_
  · have h := beqI h; subst h; exact shape_put hr fun H' hU _ => hk H' _ (extUpd hE (by omega) hU) fun _ => by decide
  refine Br.mk (fun h => ?_) fun h12 => ?_
  · have h := beqI h; subst h; exact shape_put hr fun H' hU _ => hk H' _ (extUpd hE (by omega) hU) fun _ => by decide
  refine Br.mk (fun h => ?_) fun h13 => ?_
  · have h := beqI h; subst h; exact shape_put hr fun H' hU _ => hk H' _ (extUpd hE (by omega) hU) fun _ => by decide
  refine Br.mk (fun h => ?_) fun h14 => ?_
  · have h := beqI h; subst h; exact shape_put hr fun H' hU _ => hk H' _ (extUpd hE (by omega) hU) fun _ => by decide
  refine Br.mk (fun h => ?_) fun h15 => ?_
  · have h := beqI h; subst h; exact shape_put hr fun H' hU _ => hk H' _ (extUpd hE (by omega) hU) fun _ => by decide
  refine Br.mk (fun h => ?_) fun h16 => ?_
  · have h := beqI h; subst h; exact shape_put hr fun H' hU _ => hk H' _ (extUpd hE (by omega) hU) fun _ => by decide
  refine Br.mk (fun h => ?_) fun h17 => ?_
  · have h := beqI h; subst h; exact shape_put hr fun H' hU _ => hk H' _ (extUpd hE (by omega) hU) fun _ => by decide
  refine Br.mk (fun h => ?_) fun h18 => ?_
  · have h := beqI h; subst h; exact shape_put hr fun H' hU _ => hk H' _ (extUpd hE (by omega) hU) fun _ => by decide
  refine shape_put hr fun H' hU _ => ?_
  have hk := hk H' ByteArray.empty (extUpd hE (by omega) hU)
  have hk := fun (e : isOpB op ≠ true) => hk fun h => (e h).elim
  have h1 := bneI h1
  have h2 := bneI h2
  have h3 := bneI h3
  have h4 := bneI h4
  have h5 := bneI h5
  have h6 := bneI h6
  have h7 := bneI h7
  have h8 := bneI h8
  have h9 := bneI h9
  have h10 := bneI h10
  have h11 := bneI h11
  have h12 := bneI h12
  have h13 := bneI h13
  have h14 := bneI h14
  have h15 := bneI h15
  have h16 := bneI h16
  have h17 := bneI h17
  have h18 := bneI h18
  rw [shp_no (by omega)] at hk
  exact hk (by unfold isOpB; rw [decide_eq_false (by omega)]; decide)
theorem s_acts {op : Int} {H : Heap} (hop : ¬ op < 19) {k : ByteArray × Bool × Int × Int × Int → Heap → Prop} (hk : ∀ H' w, Ext H H' → (isOpB op = true → w.size ≠ 0) → k (w, (shp op).1, (shp op).2.1, (shp op).2.2.1, (shp op).2.2.2) H') : CallT Pg fQbd [.int .i64 op] (.one (.agg [.str, .bool, (.int .i64), (.int .i64), (.int .i64)])) H k := by
  refine cQba _ ?_
  unfold vQba
  refine Nw_row (vs := [.string ByteArray.empty, .bool false, .int .i64 0, .int .i64 0, .int .i64 0]) fun b1 H1 hb hE _ hr => ?_
  refine Br.mk (fun h => ?_) fun h19 => ?_
  · have h := beqI h; subst h; exact shape_put hr fun H' hU _ => hk H' _ (extUpd hE (by omega) hU) fun _ => by decide
  refine Br.mk (fun h => ?_) fun h20 => ?_
  · have h := beqI h; subst h; exact shape_put hr fun H' hU _ => hk H' _ (extUpd hE (by omega) hU) fun _ => by decide
  refine Br.mk (fun h => ?_) fun h21 => ?_
  · have h := beqI h; subst h; exact shape_put hr fun H' hU _ => hk H' _ (extUpd hE (by omega) hU) fun _ => by decide
  refine Br.mk (fun h => ?_) fun h22 => ?_
  · have h := beqI h; subst h; exact shape_put hr fun H' hU _ => hk H' _ (extUpd hE (by omega) hU) fun _ => by decide
  refine Br.mk (fun h => ?_) fun h23 => ?_
  · have h := beqI h; subst h; exact shape_put hr fun H' hU _ => hk H' _ (extUpd hE (by omega) hU) fun _ => by decide
  refine Br.mk (fun h => ?_) fun h24 => ?_
  · have h := beqI h; subst h; exact shape_put hr fun H' hU _ => hk H' _ (extUpd hE (by omega) hU) fun _ => by decide
  refine Br.mk (fun h => ?_) fun h25 => ?_
  · have h := beqI h; subst h; exact shape_put hr fun H' hU _ => hk H' _ (extUpd hE (by omega) hU) fun _ => by decide
  refine Br.mk (fun h => ?_) fun h26 => ?_
  · have h := beqI h; subst h; exact shape_put hr fun H' hU _ => hk H' _ (extUpd hE (by omega) hU) fun _ => by decide
  refine Br.mk (fun h => ?_) fun h27 => ?_
  · have h := beqI h; subst h; exact shape_put hr fun H' hU _ => hk H' _ (extUpd hE (by omega) hU) fun _ => by decide
  refine Br.mk (fun h => ?_) fun h28 => ?_
  · have h := beqI h; subst h; exact shape_put hr fun H' hU _ => hk H' _ (extUpd hE (by omega) hU) fun _ => by decide
  refine Br.mk (fun h => ?_) fun h29 => ?_
  · have h := beqI h; subst h; exact shape_put hr fun H' hU _ => hk H' _ (extUpd hE (by omega) hU) fun _ => by decide
  refine Br.mk (fun h => ?_) fun h30 => ?_
  · have h := beqI h; subst h; exact shape_put hr fun H' hU _ => hk H' _ (extUpd hE (by omega) hU) fun _ => by decide
  refine Br.mk (fun h => ?_) fun h31 => ?_
  · have h := beqI h; subst h; exact shape_put hr fun H' hU _ => hk H' _ (extUpd hE (by omega) hU) fun _ => by decide
  refine Br.mk (fun h => ?_) fun h32 => ?_
  · have h := beqI h; subst h; exact shape_put hr fun H' hU _ => hk H' _ (extUpd hE (by omega) hU) fun _ => by decide
  refine Br.mk (fun h => ?_) fun h33 => ?_
  · have h := beqI h; subst h; exact shape_put hr fun H' hU _ => hk H' _ (extUpd hE (by omega) hU) fun _ => by decide
  refine Br.mk (fun h => ?_) fun h34 => ?_
  · have h := beqI h; subst h; exact shape_put hr fun H' hU _ => hk H' _ (extUpd hE (by omega) hU) fun _ => by decide
  refine Br.mk (fun h => ?_) fun h35 => ?_
  · have h := beqI h; subst h; exact shape_put hr fun H' hU _ => hk H' _ (extUpd hE (by omega) hU) fun _ => by decide
  refine Br.mk (fun h => ?_) fun h36 => ?_
  · have h := beqI h; subst h; exact shape_put hr fun H' hU _ => hk H' _ (extUpd hE (by omega) hU) fun _ => by decide
  refine Br.mk (fun h => ?_) fun h37 => ?_
  · have h := beqI h; subst h; exact shape_put hr fun H' hU _ => hk H' _ (extUpd hE (by omega) hU) fun _ => by decide
  refine Br.mk (fun h => ?_) fun h38 => ?_
  · have h := beqI h; subst h; exact shape_put hr fun H' hU _ => hk H' _ (extUpd hE (by omega) hU) fun _ => by decide
  refine Br.mk (fun h => ?_) fun h39 => ?_
  · have h := beqI h; subst h; exact shape_put hr fun H' hU _ => hk H' _ (extUpd hE (by omega) hU) fun _ => by decide
  refine shape_put hr fun H' hU _ => ?_
  have hk := hk H' ByteArray.empty (extUpd hE (by omega) hU)
  have hk := fun (e : isOpB op ≠ true) => hk fun h => (e h).elim
  have h19 := bneI h19
  have h20 := bneI h20
  have h21 := bneI h21
  have h22 := bneI h22
  have h23 := bneI h23
  have h24 := bneI h24
  have h25 := bneI h25
  have h26 := bneI h26
  have h27 := bneI h27
  have h28 := bneI h28
  have h29 := bneI h29
  have h30 := bneI h30
  have h31 := bneI h31
  have h32 := bneI h32
  have h33 := bneI h33
  have h34 := bneI h34
  have h35 := bneI h35
  have h36 := bneI h36
  have h37 := bneI h37
  have h38 := bneI h38
  have h39 := bneI h39
  rw [shp_no (by omega)] at hk
  exact hk (by unfold isOpB; rw [decide_eq_false (by omega)]; decide)
theorem s_shapeOf {op : Int} {H : Heap} {k : ByteArray × Bool × Int × Int × Int → Heap → Prop} (hk : ∀ H' w, Ext H H' → (isOpB op = true → w.size ≠ 0) → k (w, (shp op).1, (shp op).2.1, (shp op).2.2.1, (shp op).2.2.2) H') : CallT Pg fQay [.int .i64 op] (.one (.agg [.str, .bool, (.int .i64), (.int .i64), (.int .i64)])) H k := by
  refine cQaw _ ?_
  unfold vQaw
  refine Nw_row (vs := [.string ByteArray.empty, .bool false, .int .i64 0, .int .i64 0, .int .i64 0]) fun b1 H1 hb hE _ hr => ?_
  refine Br_dec (fun h => s_reckons h fun H2 w hE2 hw => ?_) fun h => s_acts h fun H2 w hE2 hw => ?_
  all_goals
    have hE' := hE.trans hE2 fun _ _ h => h
    exact shape_put (hE2.row hr fun h => h) fun H' hU _ => hk H' _ (extUpd hE' (by omega) hU) hw
theorem s_isOp {op : Int} {H : Heap} {k : Bool → Heap → Prop} (hk : k (isOpB op) H) : CallT Pg fQax [.int .i64 op] (.one (.c .bool)) H k := by
  refine cQav _ ?_
  unfold vQav
  refine Jn.mk (fun j H' => H = H' ∧ j = isOpB op) (fun kk hkk => ?_) (by rintro j _ ⟨rfl, rfl⟩; exact hk)
  refine Br_dec (fun h => hkk _ _ ⟨rfl, ?_⟩) fun h => hkk _ _ ⟨rfl, ?_⟩
  · exact decide_eq_decide.2 (by omega)
  · exact (decide_eq_false (by omega)).symm
theorem s_rIsOp {op : Int} {H : Heap} {k : Bool → Heap → Prop} (hk : k (isOpB op) H) : CallT Pg fQbu [.int .i64 op] (.one (.c .bool)) H k := by
  refine cQbo _ ?_
  unfold vQbo
  refine Jn.mk (fun j H' => H = H' ∧ j = isOpB op) (fun kk hkk => ?_) (by rintro j _ ⟨rfl, rfl⟩; exact hk)
  refine Br_dec (fun h => hkk _ _ ⟨rfl, ?_⟩) fun h => hkk _ _ ⟨rfl, ?_⟩
  · exact decide_eq_decide.2 (by omega)
  · exact (decide_eq_false (by omega)).symm
end
section
open Hc Hc.Vf
structure Rou where
  name : ByteArray
  params : Int
  locals : Int
  sl : Sl
  code : List Ins
instance : Inhabited Sl := ⟨⟨none, 0, 0⟩⟩
instance : Inhabited Rou := ⟨⟨ByteArray.empty, 0, 0, ⟨none, 0, 0⟩, []⟩⟩
abbrev rouV (r : Rou) : List Value := [.string r.name, .int .i64 r.params, .int .i64 r.locals, slV r.sl]
abbrev insV (i : Ins) : List Value := [.int .i64 i.1, .int .i64 i.2]
theorem rouV_len (r : Rou) : (rouV r).length = 4 := rfl
theorem insV_len (i : Ins) : (insV i).length = 2 := rfl
abbrev parms (fs : List Rou) : List Int := fs.map (·.params)
theorem Br_not {x : Bool} {X Y : Prop} (h : Br x Y X) : Br (!x) X Y := by cases x <;> exact h
theorem parms_get {fs : List Rou} {j : Nat} (h : j < fs.length) : (parms fs)[j]! = (fs[j]!).params := by
  rw [getElem!_pos (parms fs) j (by simpa using h), getElem!_pos fs j h]; simp
theorem s_Effect {H : Heap} {i : Ins} {funcs : Sl} {fs : List Rou} (hf : RN rouV 4 H funcs fs) {k : Int × Int → Heap → Prop} (hk : ∀ H', Ext H H' → k (takes (parms fs) i, puts i) H') :
    CallT Pg fQaj [.agg #[.int .i64 i.1, .int .i64 i.2], .slice funcs.a funcs.len funcs.cap] (.tup [(.c (.int .i64)), (.c (.int .i64))]) H k := by
  refine cQaj _ _ ?_
  unfold vQaj
  refine Nw_row (vs := insV i) fun b1 H1 hb1 hE1 hz1 hr1 => ?_
  simp only [adr_add]
  refine Ld_int ((hr1.cell 0).trans rfl) (s_isOp (Br_not (Br.mk (fun hop => ?_) fun hop => ?_)))
  · refine Ld_int ((hr1.cell 0).trans rfl) (s_shapeOf fun H3 w hE3 _ => ?_)
    have hE3' := hE1.trans hE3 fun _ _ h => h
    refine Nw_row (vs := [.string ByteArray.empty, .bool false, .int .i64 0, .int .i64 0, .int .i64 0]) fun b2 H4 hb2 hE4 hz4 hr4 => ?_
    refine St_row hr4 (by simp) fun H5 hU5 _ hr5 => St_row hr5 (by simp) fun H6 hU6 _ hr6 => St_row hr6 (by simp) fun H7 hU7 _ hr7 => St_row hr7 (by simp) fun H8 hU8 _ hr8 => St_row hr8 (by simp) fun H9 hU9 _ hr9 => ?_
    have z3 := hE3'.size
    have hU : Upd (· = b2) H4 H9 := (((hU5.trans hU6 fun _ _ h => h).trans hU7 fun _ _ h => h).trans hU8 fun _ _ h => h).trans hU9 fun _ _ h => h
    have hE9 : Ext H H9 := extUpd (hE3'.trans hE4 fun _ _ h => h) (by omega) hU
    have hshp : shp i.1 = (numB i.1, (tbl[i.1.toNat]!).1, (tbl[i.1.toNat]!).2.1, (((tbl[i.1.toNat]!).2.2 : Nat) : Int)) := by unfold shp; rw [if_pos hop]
    rw [hshp] at hr9
    dsimp only at hr9
    have hI : Row H9 b1 TQag (insV i) := hU.row (hE4.row (hE3.row hr1 fun h => h) fun h => h) (by have := hr1.lt; have := hE3.size; omega)
    have hfx := (hf.ext hE9)
    have hx1 : hcell H9 ⟨b1, 1, none⟩ = some (.int .i64 i.2) := (hI.cell 1).trans rfl
    have hy4 : hcell H9 ⟨b2, 4, none⟩ = some (.int .i64 ((tbl[i.1.toNat]!).2.2 : Nat)) := (hr9.cell 4).trans rfl
    have htk : takes (parms fs) i = (if (tbl[i.1.toNat]!).2.2 = 1 then (if 0 ≤ i.2 ∧ i.2 < (parms fs).length then max ((parms fs)[i.2.toNat]!) 0 else 0)
     else if (tbl[i.1.toNat]!).2.2 = 2 then (if 0 ≤ i.2 then i.2 % 8 else 0)
     else (tbl[i.1.toNat]!).1) := by unfold takes; rw [if_pos hop]
    have hpt : puts i = (tbl[i.1.toNat]!).2.1 := by unfold puts; rw [if_pos hop]
    have hby : ∀ r ∈ tbl, r.2.2 = 1 ∨ r.2.2 = 2 → r.1 = 0 := by decide
    have hby0 := hby _ (tbl_get hop)
    generalize tbl[i.1.toNat]! = row at *
    rw [List.length_map] at htk
    refine Jn.mk (fun _ H' => Upd (· = b2) H9 H' ∧ hcell H' ⟨b2, 2, none⟩ = some (.int .i64 (takes (parms fs) i)) ∧ hcell H' ⟨b2, 3, none⟩ = some (.int .i64 (puts i))) (fun kk hkk => ?_) ?_
    · have hsame : takes (parms fs) i = row.1 → kk () H9 := fun e => hkk _ _ ⟨.refl _ _, by rw [e]; exact (hr9.cell 2).trans rfl, by rw [hpt]; exact (hr9.cell 3).trans rfl⟩
      have hput : ∀ x, takes (parms fs) i = x → St ⟨b2, 2, none⟩ (.int .i64 x) H9 fun H13 => kk () H13 := fun x e => St_row hr9 (by simp) fun H13 hU13 _ hr13 => hkk _ _ ⟨hU13, by rw [e]; exact (hr13.cell 2).trans rfl, by rw [hpt]; exact (hr13.cell 3).trans rfl⟩
      refine Jn.mk (fun j H' => H9 = H' ∧ j = decide (row.2.2 = 1 ∧ 0 ≤ i.2 ∧ i.2 < funcs.len)) (fun kk2 hkk2 => ?_) ?_
      · refine Ld_int hy4 (Br.mk (fun h => ?_) fun h => hkk2 _ _ ⟨rfl, ?_⟩)
        · have h := beqI h
          refine Ld_int hx1 (Br_dec (fun h2 => Ld_int hx1 (hkk2 _ _ ⟨rfl, ?_⟩)) fun h2 => hkk2 _ _ ⟨rfl, (decide_eq_false (by omega)).symm⟩)
          exact decide_eq_decide.2 (by omega)
        · have h := bneI h
          exact (decide_eq_false (by omega)).symm
      rintro j _ ⟨rfl, rfl⟩
      refine Jn_in (Br_dec (fun h => ?_) fun h => ?_)
      · obtain ⟨h1, h2, h3⟩ := h
        rw [hf.len] at h3
        have hj : i.2.toNat < fs.length := by omega
        refine Ld_int hx1 (IxA_rn' rouV_len hfx (by omega) (j := i.2.toNat) (by omega) hj fun a ha => Ld_int (n := (fs[i.2.toNat]!).params) ha.2.1 (hput _ ?_))
        rw [htk, if_pos h1, if_pos ⟨h2, by omega⟩, parms_get hj]
        split <;> omega
      · refine Jn.mk (fun j H' => H9 = H' ∧ j = decide (row.2.2 = 2 ∧ 0 ≤ i.2)) (fun kk4 hkk4 => ?_) ?_
        · refine Ld_int hy4 (Br.mk (fun h => ?_) fun h => hkk4 _ _ ⟨rfl, ?_⟩)
          · have h := beqI h
            exact Ld_int hx1 (hkk4 _ _ ⟨rfl, decide_eq_decide.2 (by omega)⟩)
          · have h := bneI h
            exact (decide_eq_false (by omega)).symm
        rintro j _ ⟨rfl, rfl⟩
        refine Jn_in (Br_dec (fun h5 => ?_) fun h5 => hsame ?_)
        · refine Ld_int hx1 ⟨by decide, ?_⟩
          rw [Int.tmod_eq_emod_of_nonneg h5.2]
          refine hput _ ?_
          rw [htk, if_neg (by omega), if_pos h5.1, if_pos h5.2]
        · rw [htk]
          rw [hf.len] at h
          by_cases e1 : row.2.2 = 1
          · rw [if_pos e1, if_neg (by omega), hby0 (.inl e1)]
          · rw [if_neg e1]
            by_cases e2 : row.2.2 = 2
            · rw [if_pos e2, if_neg (by omega), hby0 (.inr e2)]
            · rw [if_neg e2]
    · rintro _ H10 ⟨hU10, h2, h3⟩
      exact Ld_int h2 (Ld_int h3 (hk _ (extUpd hE9 (by omega) hU10)))
  · have h1 : takes (parms fs) i = 0 := by unfold takes; rw [if_neg (by rw [hop]; simp)]
    have h2 : puts i = 0 := by unfold puts; rw [if_neg (by rw [hop]; simp)]
    have := hk H1 hE1
    rwa [h1, h2] at this
def refL : List (ByteArray × Bool × Int × Int) :=
  [(⟨⟨[]⟩⟩, false, 0, 0), (⟨⟨[112, 117, 115, 104]⟩⟩, true, 0, 1), (⟨⟨[108, 111, 97, 100]⟩⟩, true, 0, 1), (⟨⟨[115, 116, 111, 114, 101]⟩⟩, true, 1, 0), (⟨⟨[102, 105, 101, 108, 100]⟩⟩, true, 0, 1), (⟨⟨[112, 117, 116]⟩⟩, true, 1, 0), (⟨⟨[97, 100, 100]⟩⟩, false, 2, 1), (⟨⟨[115, 117, 98]⟩⟩, false, 2, 1), (⟨⟨[109, 117, 108]⟩⟩, false, 2, 1), (⟨⟨[100, 105, 118]⟩⟩, false, 2, 1), (⟨⟨[114, 101, 109]⟩⟩, false, 2, 1), (⟨⟨[110, 101, 103]⟩⟩, false, 1, 1), (⟨⟨[101, 113]⟩⟩, false, 2, 1), (⟨⟨[110, 101]⟩⟩, false, 2, 1), (⟨⟨[108, 116]⟩⟩, false, 2, 1), (⟨⟨[108, 101]⟩⟩, false, 2, 1), (⟨⟨[103, 116]⟩⟩, false, 2, 1), (⟨⟨[103, 101]⟩⟩, false, 2, 1), (⟨⟨[110, 111, 116]⟩⟩, false, 1, 1), (⟨⟨[106, 117, 109, 112]⟩⟩, true, 0, 0), (⟨⟨[122, 101, 114, 111]⟩⟩, true, 1, 0), (⟨⟨[99, 97, 108, 108]⟩⟩, true, (-1), 1), (⟨⟨[114, 101, 116]⟩⟩, false, 1, 0), (⟨⟨[115, 116, 111, 112]⟩⟩, false, 0, 0), (⟨⟨[115, 116, 101, 112]⟩⟩, false, 0, 0), (⟨⟨[101, 109, 105, 116]⟩⟩, false, 2, 0), (⟨⟨[112, 97, 114, 116]⟩⟩, true, (-2), 0), (⟨⟨[115, 112, 97, 119, 110]⟩⟩, false, 0, 0), (⟨⟨[103, 105, 118, 101]⟩⟩, true, (-2), 0), (⟨⟨[116, 97, 107, 101]⟩⟩, true, 0, 0), (⟨⟨[100, 105, 101]⟩⟩, false, 0, 0), (⟨⟨[114, 97, 110, 100]⟩⟩, false, 1, 1), (⟨⟨[116, 105, 99, 107]⟩⟩, false, 0, 1), (⟨⟨[109, 101]⟩⟩, false, 0, 1), (⟨⟨[105, 110, 112, 117, 116]⟩⟩, false, 2, 1), (⟨⟨[104, 97, 115]⟩⟩, true, 0, 1), (⟨⟨[109, 105, 110]⟩⟩, false, 2, 1), (⟨⟨[109, 97, 120]⟩⟩, false, 2, 1), (⟨⟨[97, 98, 115]⟩⟩, false, 1, 1), (⟨⟨[100, 114, 111, 112]⟩⟩, false, 1, 0)]
abbrev refV (r : ByteArray × Bool × Int × Int) : List Value := [.string r.1, .bool r.2.1, .int .i64 r.2.2.1, .int .i64 r.2.2.2]
theorem refV_len (r : ByteArray × Bool × Int × Int) : (refV r).length = 4 := rfl
theorem ref_ok : ∀ n : Nat, n < 40 → (refL[n]!).2.2 = (if (tbl[n]!).2.2 = 1 then -1 else if (tbl[n]!).2.2 = 2 then -2 else (tbl[n]!).1, (tbl[n]!).2.1) := by decide
theorem s_table {H : Heap} {k : Sl → Heap → Prop} (hk : ∀ r H', Ext H H' → RN refV 4 H' r refL → k r H') : CallT Pg fQb0 [] (.one (.c .sl)) H k := by
  refine cQbu ?_
  unfold vQbu
  refine Nw_row (vs := refL.flatMap refV) fun b H1 hb hE _ hr => hk _ _ hE ⟨?_, rfl, Nat.le_refl _⟩
  exact hr.rd_all
theorem s_rEffect {H : Heap} {i : Ins} {funcs : Sl} {fs : List Rou} (hf : RN rouV 4 H funcs fs) {k : Int × Int → Heap → Prop} (hk : ∀ H', Ext H H' → k (takes (parms fs) i, puts i) H') :
    CallT Pg fQbv [.agg #[.int .i64 i.1, .int .i64 i.2], .slice funcs.a funcs.len funcs.cap] (.tup [(.c (.int .i64)), (.c (.int .i64))]) H k := by
  refine cQbp _ _ ?_
  unfold vQbp
  refine Nw_row (vs := insV i) fun b1 H1 hb1 hE1 hz1 hr1 => ?_
  simp only [adr_add]
  refine Ld_int ((hr1.cell 0).trans rfl) (s_rIsOp (Br_not (Br.mk (fun hop => ?_) fun hop => ?_)))
  · refine Ld_int ((hr1.cell 0).trans rfl) ?_
    have hop2 : 1 ≤ i.1 ∧ i.1 ≤ 39 := of_decide_eq_true hop
    have hn : i.1.toNat < 40 := by omega
    have hro := ref_ok _ hn
    have htk : takes (parms fs) i = (if (tbl[i.1.toNat]!).2.2 = 1 then (if 0 ≤ i.2 ∧ i.2 < (parms fs).length then max ((parms fs)[i.2.toNat]!) 0 else 0)
     else if (tbl[i.1.toNat]!).2.2 = 2 then (if 0 ≤ i.2 then i.2 % 8 else 0)
     else (tbl[i.1.toNat]!).1) := by unfold takes; rw [if_pos hop]
    have hpt : puts i = (tbl[i.1.toNat]!).2.1 := by unfold puts; rw [if_pos hop]
    have hbd := tbl_bd _ (tbl_get hop)
    generalize tbl[i.1.toNat]! = row at *
    rw [List.length_map] at htk
    generalize hrr : refL[i.1.toNat]! = rr at *
    obtain ⟨w, na, t', p'⟩ := rr
    dsimp only at hro
    simp only [Prod.mk.injEq] at hro
    obtain ⟨ht', hp'⟩ := hro
    -- behind the table
    have tail : ∀ (H8 : Heap) (b2 : Nat), Ext H H8 → Row H8 b1 TQag (insV i) → Row H8 b2 TQay [.string w, .bool na, .int .i64 t', .int .i64 p'] →
        Ld (.int .i64) ⟨b2, 2, none⟩ H8 fun (x3 : Int) =>
        Br (x3 == (-1)) (
          Jn (σ := Bool) (fun kk1 =>
            Ld (.int .i64) ⟨b1, 1, none⟩ H8 fun (x4 : Int) =>
            Br (decide (x4 < 0)) (
              kk1 true H8) (
              Ld (.int .i64) ⟨b1, 1, none⟩ H8 fun (x5 : Int) =>
              Br (decide (x5 ≥ (funcs.len : Int))) (
                kk1 true H8) (
                Ld (.int .i64) ⟨b1, 1, none⟩ H8 fun (x6 : Int) =>
                IxA 4 funcs x6 fun a2 =>
                Ld (.int .i64) (a2.add 1) H8 fun (x7 : Int) =>
                kk1 (decide (x7 < 0)) H8))) fun j1 H9 =>
          Br j1 (
            Ld (.int .i64) ⟨b2, 3, none⟩ H9 fun (x8 : Int) =>
            k (0, x8) H9) (
            Ld (.int .i64) ⟨b1, 1, none⟩ H9 fun (x9 : Int) =>
            IxA 4 funcs x9 fun a3 =>
            Ld (.int .i64) (a3.add 1) H9 fun (x10 : Int) =>
            Ld (.int .i64) ⟨b2, 3, none⟩ H9 fun (x11 : Int) =>
            k (x10, x11) H9)) (
          Ld (.int .i64) ⟨b2, 2, none⟩ H8 fun (x12 : Int) =>
          Br (x12 == (-2)) (
            Ld (.int .i64) ⟨b1, 1, none⟩ H8 fun (x13 : Int) =>
            Br (decide (x13 < 0)) (
              Ld (.int .i64) ⟨b2, 3, none⟩ H8 fun (x14 : Int) =>
              k (0, x14) H8) (
              Ld (.int .i64) ⟨b1, 1, none⟩ H8 fun (x15 : Int) =>
              Rem x15 8 fun t1 =>
              Ld (.int .i64) ⟨b2, 3, none⟩ H8 fun (x16 : Int) =>
              k (t1, x16) H8)) (
            Ld (.int .i64) ⟨b2, 2, none⟩ H8 fun (x17 : Int) =>
            Ld (.int .i64) ⟨b2, 3, none⟩ H8 fun (x18 : Int) =>
            k (x17, x18) H8)) := by
      intro H8 b2 hE8 hI hr8
      have hfx := hf.ext hE8
      have hx1 : hcell H8 ⟨b1, 1, none⟩ = some (.int .i64 i.2) := (hI.cell 1).trans rfl
      have hy2 : hcell H8 ⟨b2, 2, none⟩ = some (.int .i64 t') := (hr8.cell 2).trans rfl
      have hy3 : hcell H8 ⟨b2, 3, none⟩ = some (.int .i64 p') := (hr8.cell 3).trans rfl
      have hk8 := hk H8 hE8
      rw [hpt, ← hp'] at hk8
      refine Ld_int hy2 (Br.mk (fun h => ?_) fun h => ?_)
      · have h := beqI h
        have e1 : row.2.2 = 1 := by
          by_cases e : row.2.2 = 1
          · exact e
          · rw [if_neg e] at ht'
            split at ht' <;> omega
        rw [htk, if_pos e1] at hk8
        refine Jn.mk (fun j H' => H8 = H' ∧ j = decide (¬ (0 ≤ i.2 ∧ i.2 < fs.length ∧ 0 ≤ (fs[i.2.toNat]!).params))) (fun kk hkk => ?_) ?_
        · have hfl := hf.len
          refine Ld_int hx1 (Br_dec (fun h1 => hkk _ _ ⟨rfl, (decide_eq_true (by omega)).symm⟩) fun h1 => Ld_int hx1 (Br_dec (fun h2 => hkk _ _ ⟨rfl, (decide_eq_true (by omega)).symm⟩) fun h2 => ?_))
          refine Ld_int hx1 (IxA_rn' rouV_len hfx (by omega) (j := i.2.toNat) (by omega) (by omega) fun a ha => Ld_int (n := (fs[i.2.toNat]!).params) ha.2.1 (hkk _ _ ⟨rfl, ?_⟩))
          exact decide_eq_decide.2 (by omega)
        rintro j _ ⟨rfl, rfl⟩
        refine Br_dec (fun h1 => Ld_int hy3 ?_) fun h1 => ?_
        · have : (if 0 ≤ i.2 ∧ i.2 < (fs.length : Int) then max (parms fs)[i.2.toNat]! 0 else 0) = 0 := by
            split
            · rename_i h2
              rw [parms_get (by omega)]
              omega
            · rfl
          rw [this] at hk8; exact hk8
        · have h1 : 0 ≤ i.2 ∧ i.2 < (fs.length : Int) ∧ 0 ≤ (fs[i.2.toNat]!).params := Classical.byContradiction h1
          refine Ld_int hx1 (IxA_rn' rouV_len hfx (by omega) (j := i.2.toNat) (by omega) (by omega) fun a ha => Ld_int (n := (fs[i.2.toNat]!).params) ha.2.1 (Ld_int hy3 ?_))
          rw [if_pos ⟨h1.1, h1.2.1⟩, parms_get (by omega), Int.max_eq_left h1.2.2] at hk8
          exact hk8
      · have h := bneI h
        have e1 : row.2.2 ≠ 1 := fun e => by rw [if_pos e] at ht'; exact h ht'
        rw [if_neg e1] at ht'
        rw [htk, if_neg e1] at hk8
        refine Ld_int hy2 (Br.mk (fun h3 => ?_) fun h3 => ?_)
        · have h3 := beqI h3
          have e2 : row.2.2 = 2 := by
            by_cases e : row.2.2 = 2
            · exact e
            · rw [if_neg e] at ht'; omega
          rw [if_pos e2] at hk8
          refine Ld_int hx1 (Br_dec (fun h4 => Ld_int hy3 ?_) fun h4 => Ld_int hx1 ⟨by decide, Ld_int hy3 ?_⟩)
          · rw [if_neg (by omega)] at hk8; exact hk8
          · rw [if_pos (by omega)] at hk8
            rw [Int.tmod_eq_emod_of_nonneg (by omega)]; exact hk8
        · have h3 := bneI h3
          have e2 : row.2.2 ≠ 2 := fun e => by rw [if_pos e] at ht'; exact h3 ht'
          rw [if_neg e2] at ht' hk8
          refine Ld_int hy2 (Ld_int hy3 ?_)
          rw [ht']; exact hk8
    refine ⟨s_table fun r2 H3 hE3 hT => ?_, Nw_row (vs := [.string ByteArray.empty, .bool false, .int .i64 0, .int .i64 0]) fun b3 H10 hb3 hE10 hz10 hr10 => ?_, trivial⟩
    · have hI3 := hE3.row hr1 fun h => h
      have hE3' := hE1.trans hE3 fun _ _ h => h
      refine Stab_1 ((hI3.cell 0).trans rfl) (IxA_rn' refV_len hT (by omega) (j := i.1.toNat) (by omega) hn fun a ha => ?_)
      rw [hrr] at ha
      refine ⟨(w, na, t', p'), ha, Nw_row (vs := [.string ByteArray.empty, .bool false, .int .i64 0, .int .i64 0]) fun b2 H4 hb2 hE4 hz4 hr4 => ?_⟩
      have hI4 := hE4.row hI3 fun h => h
      have ha4 : hcells H4 a 0 (refV (w, na, t', p')) := hcells_upd hE4 (fun h => h) ha
      refine Stab_all (fun x hx => ?_) ?_
      · simp only [List.mem_cons, List.not_mem_nil, or_false] at hx
        rcases hx with rfl | rfl | rfl | rfl | rfl
        · exact ha4.1
        · exact ha4.2.1
        · exact ha4.2.2.1
        · exact ha4.2.2.2.1
        · exact (hI4.cell 0).trans rfl
      refine St_row hr4 (by simp) fun H5 hU5 _ hr5 => St_row hr5 (by simp) fun H6 hU6 _ hr6 => St_row hr6 (by simp) fun H7 hU7 _ hr7 => St_row hr7 (by simp) fun H8 hU8 _ hr8 => ?_
      have hU : Upd (· = b2) H4 H8 := ((hU5.trans hU6 fun _ _ h => h).trans hU7 fun _ _ h => h).trans hU8 fun _ _ h => h
      have z3 := hE3'.size
      exact tail H8 b2 (extUpd (hE3'.trans hE4 fun _ _ h => h) (by omega) hU) (hU.row hI4 (by have := hI3.lt; omega)) hr8
    · have hI10 := hE10.row hr1 fun h => h
      have hE10' := hE1.trans hE10 fun _ _ h => h
      refine Stab_1 ((hI10.cell 0).trans rfl) (s_table fun r3 H11 hE11 hT => ?_)
      have hI11 := hE11.row hI10 fun h => h
      have hr11 := hE11.row hr10 fun h => h
      refine Stab_1 ((hI11.cell 0).trans rfl) (IxA_rn' refV_len hT (by omega) (j := i.1.toNat) (by omega) hn fun a ha => ?_)
      rw [hrr] at ha
      refine ⟨(w, na, t', p'), ha, ?_⟩
      refine St_row hr11 (by simp) fun H5 hU5 _ hr5 => St_row hr5 (by simp) fun H6 hU6 _ hr6 => St_row hr6 (by simp) fun H7 hU7 _ hr7 => St_row hr7 (by simp) fun H8 hU8 _ hr8 => ?_
      have hU : Upd (· = b3) H11 H8 := ((hU5.trans hU6 fun _ _ h => h).trans hU7 fun _ _ h => h).trans hU8 fun _ _ h => h
      have z1 := hE1.size
      exact tail H8 b3 (extUpd (hE10'.trans hE11 fun _ _ h => h) (by omega) hU) (hU.row hI11 (by have := hr1.lt; omega)) hr8
  · have h1 : takes (parms fs) i = 0 := by unfold takes; rw [if_neg (by rw [hop]; simp)]
    have h2 : puts i = 0 := by unfold puts; rw [if_neg (by rw [hop]; simp)]
    have := hk H1 hE1
    rwa [h1, h2] at this
end
section
open Hc Hc.Vf
variable {H : Heap}
abbrev CodeR (H : Heap) (r : Rou) : Prop := RN insV 2 H r.sl r.code
structure Sy where
  s : Nat → Sl
  l : Nat → List Int
  rou : Rou
instance : Inhabited Sy := ⟨⟨fun _ => default, fun _ => [], default⟩⟩
abbrev sysV (x : Sy) : List Value := [slV (x.s 0), slV (x.s 1), slV (x.s 2), slV (x.s 3), .string x.rou.name, .int .i64 x.rou.params, .int .i64 x.rou.locals, slV x.rou.sl]
theorem sysV_len (x : Sy) : (sysV x).length = 8 := rfl
structure SyR (H : Heap) (x : Sy) : Prop where
  sets : ∀ q, q < 4 → RL (Value.int .i64) H (x.s q) (x.l q)
  code : CodeR H x.rou
  lens : ∀ q, q < 4 → (x.l q).length ≤ 2 ^ 60
  clen : x.rou.code.length ≤ 2 ^ 60
structure PrgR (H : Heap) (p : Sl × Sl) (ss : List Sy) (fs : List Rou) : Prop where
  sys : RN sysV 8 H p.1 ss
  sysR : ∀ x ∈ ss, SyR H x
  fun' : RN rouV 4 H p.2 fs
  funR : ∀ r ∈ fs, CodeR H r
  funL : ∀ r ∈ fs, r.code.length ≤ 2 ^ 60
theorem SyR.ext {H' : Heap} (hE : Ext H H') {x : Sy} (h : SyR H x) : SyR H' x := ⟨fun q hq => (h.sets q hq).ext hE, h.code.ext hE, h.lens, h.clen⟩
theorem PrgR.ext {H' : Heap} (hE : Ext H H') {p : Sl × Sl} {ss : List Sy} {fs : List Rou} (h : PrgR H p ss fs) : PrgR H' p ss fs :=
  ⟨h.sys.ext hE, fun x hx => (h.sysR x hx).ext hE, h.fun'.ext hE, fun r hr => (h.funR r hr).ext hE, h.funL⟩
end
section
open Hc
variable {H : Heap}
theorem s_IndexI {s : Sl} {xs : List Int} {v : Int} (hs : RL (Value.int .i64) H s xs) (hl : xs.length ≤ 2 ^ 60) {k : Int → Heap → Prop} (hk : ∀ x, (0 ≤ x ↔ v ∈ xs) → k x H) : CallT Pg fQc1 [.slice s.a s.len s.cap, .int .i64 v] (.one (.c (.int .i64))) H k := by
  refine cQca _ _ ?_
  unfold vQca
  have hlen := hs.len
  refine LoopT.mk (fun i H' => H = H' ∧ ∃ n : Nat, i = n ∧ n ≤ xs.length ∧ ∀ j (h : j < xs.length), j < n → xs[j] ≠ v) (fun i _ => xs.length - i.toNat) ⟨rfl, 0, rfl, Nat.zero_le _, fun j _ hj => by omega⟩ ?_
  rintro next _ _ ⟨rfl, n, rfl, hn, hno⟩ hnext
  refine Br_dec (fun hlt => ?_) fun hge => hk _ ⟨fun h => by omega, fun h => ?_⟩
  · have hn2 : n < xs.length := by omega
    refine IxA_rl hs rfl hn2 fun a ha => Ld_int ha (Br.mk (fun h => hk _ ⟨fun _ => ?_, fun _ => by omega⟩) fun h => ?_)
    · rw [beqI h]; exact List.getElem_mem hn2
    · have h := bneI h
      refine Lt.mk (u := ((n + 1 : Nat) : Int)) (by rw [wrap_i64_id] <;> omega) (hnext _ _ ⟨rfl, n + 1, rfl, hn2, fun j hj hjn => ?_⟩ (by omega))
      rcases Nat.lt_or_ge j n with e | e
      · exact hno j hj e
      · have : j = n := by omega
        subst this; exact fun e => h e.symm
  · obtain ⟨j, hj, e⟩ := List.getElem_of_mem h
    exact absurd e (hno j hj (by omega))
theorem s_ContainsI {s : Sl} {xs : List Int} {v : Int} (hs : RL (Value.int .i64) H s xs) (hl : xs.length ≤ 2 ^ 60) {k : Bool → Heap → Prop} (hk : k (decide (v ∈ xs)) H) : CallT Pg fQcr [.slice s.a s.len s.cap, .int .i64 v] (.one (.c .bool)) H k := by
  refine cQb9 _ _ ?_
  unfold vQb9
  refine s_IndexI hs hl fun x hx => ?_
  have : decide (x ≥ 0) = decide (v ∈ xs) := decide_eq_decide.2 hx
  rw [this]; exact hk
theorem s_anyL {s : Sl} {xs : List (Sl × List Int)} {f : Value} (hs : RL (fun x : Sl × List Int => slV x.1) H s xs) (hl : xs.length ≤ 2 ^ 60) (P : Sl × List Int → Bool)
    (hf : ∀ x, x ∈ xs → ∀ H' (K : Bool → Heap → Prop), Ext H H' → (∀ H'', Ext H' H'' → K (P x) H'') → CallX Pg f [.slice x.1.a x.1.len x.1.cap] (.one (.c .bool)) H' K) {k : Bool → Heap → Prop} (hk : ∀ H', Ext H H' → k (xs.any P) H') :
    CallT Pg fQbe [.slice s.a s.len s.cap, f] (.one (.c .bool)) H k := by
  refine cQbb _ _ ?_
  unfold vQbb
  refine cQbf _ _ ?_
  unfold vQbf
  have hlen := hs.len
  refine LoopT.mk (fun i H' => ∃ n : Nat, i = n ∧ n ≤ xs.length ∧ Ext H H' ∧ xs.any P = (xs.drop n).any P) (fun i _ => xs.length - i.toNat) ⟨0, rfl, Nat.zero_le _, .refl _ _, rfl⟩ ?_
  rintro next _ H1 ⟨n, rfl, hn, hE1, he⟩ hnext
  refine Br_dec (fun hlt => ?_) fun hge => ?_
  · have hn2 : n < xs.length := by omega
    rw [List.drop_eq_getElem_cons hn2, List.any_cons] at he
    refine IxA_rl (hs.ext hE1) rfl hn2 fun a ha => Ld_sl (s := (xs[n]).1) ha (hf _ (List.getElem_mem hn2) _ _ hE1 fun H2 hE2 => ?_)
    have hE2' := hE1.trans hE2 fun _ _ h => h
    refine Br.mk (fun h => ?_) fun h => ?_
    · have := hk _ hE2'
      rw [he, h, Bool.true_or] at this
      show k (decide ((n : Int) ≥ 0)) H2
      rwa [decide_eq_true (show (n : Int) ≥ 0 by omega)]
    · rw [h, Bool.false_or] at he
      exact Lt.mk (u := ((n + 1 : Nat) : Int)) (by rw [wrap_i64_id] <;> omega) (hnext _ _ ⟨n + 1, rfl, hn2, hE2', he⟩ (by omega))
  · rw [List.drop_eq_nil_of_le (by omega)] at he
    have := hk _ hE1
    rwa [he] at this
end
section
open Hc Hc.Vf
variable {H : Heap}
abbrev rouA (r : Rou) : Value := .agg #[.string r.name, .int .i64 r.params, .int .i64 r.locals, .slice r.sl.a r.sl.len r.sl.cap]
theorem ld_rou {a : Addr} {r : Rou} {k : ByteArray × Int × Int × Sl → Prop} (h : hcells H a 0 (rouV r)) (hk : k (r.name, r.params, r.locals, r.sl)) : LdC [.str, (.int .i64), (.int .i64), .sl] a H k := ⟨(r.name, r.params, r.locals, r.sl), h, hk⟩
theorem s_vfault {x e : Int} {k : Option Addr → Heap → Prop} (hk : ∀ H' b, b = H.size → Ext H H' → Row H' b TQa6 [.int .i64 x, .int .i64 e] → k (some (adr b)) H') : CallT Pg fQc4 [.int .i64 x, .int .i64 e] (.one (.c .ptr)) H k :=
  cQcy _ _ (Nw_row fun b H' h1 h2 _ h4 => hk H' b h1 h2 h4)
theorem ws_jumps {i : Ins} {k : Bool → Heap → Prop} (hk : ∀ H', Ext H H' → k (decide (i.1 = 19 ∨ i.1 = 20)) H') : CallT Pg fQdl [.agg #[.int .i64 i.1, .int .i64 i.2]] (.one (.c .bool)) H k := by
  refine cQdf _ ?_
  unfold vQdf
  refine Nw_row (vs := insV i) fun b1 H1 _ hE _ hr => ?_
  refine Jn.mk (fun j H' => H1 = H' ∧ j = decide (i.1 = 19 ∨ i.1 = 20)) (fun kk hkk => ?_) (by rintro j _ ⟨rfl, rfl⟩; exact hk _ hE)
  refine Ld_int ((hr.cell 0).trans rfl) (Br.mk (fun h => hkk _ _ ⟨rfl, (decide_eq_true (.inl (beqI h))).symm⟩) fun h => Ld_int ((hr.cell 0).trans rfl) (hkk _ _ ⟨rfl, ?_⟩))
  have h := bneI h
  by_cases e : i.1 = 20
  · rw [e]; rfl
  · rw [decide_eq_false (by omega)]; exact beq_eq_false_iff_ne.2 e
theorem s_there {r : Rou} {n : Int} {k : Bool → Heap → Prop} (hr : CodeR H r) (hk : ∀ H', Ext H H' → k (decide (0 ≤ n ∧ n < r.code.length)) H') : CallT Pg fQeh [rouA r, .int .i64 n] (.one (.c .bool)) H k := by
  refine cQeb (r.name, r.params, r.locals, r.sl) _ ?_
  unfold vQeb
  refine Nw_row (vs := rouV r) fun b1 H1 _ hE _ hrow => ?_
  simp only [adr_add]
  refine Jn.mk (fun j H' => H1 = H' ∧ j = decide (0 ≤ n ∧ n < r.code.length)) (fun kk hkk => ?_) (by rintro j _ ⟨rfl, rfl⟩; exact hk _ hE)
  refine Br_dec (fun h => Ld_sl (s := r.sl) ((hrow.cell 3).trans rfl) (hkk _ _ ⟨rfl, ?_⟩)) fun h => hkk _ _ ⟨rfl, (decide_eq_false (by omega)).symm⟩
  rw [hr.len]
  exact decide_eq_decide.2 (by omega)
theorem s_Index64 {s : Sl} {xs : List Int} {v : Int} (hs : RL (Value.int .i64) H s xs) (hl : xs.length ≤ 100000) {k : Int → Heap → Prop} (hk : ∀ x, (0 ≤ x ↔ v ∈ xs) → k x H) : CallT Pg fQel [.slice s.a s.len s.cap, .int .i64 v] (.one (.c (.int .i64))) H k := by
  refine cQef _ _ ?_
  unfold vQef
  have hlen := hs.len
  refine LoopT.mk (fun i H' => H = H' ∧ ∃ n : Nat, i = n ∧ n ≤ xs.length ∧ ∀ j (h : j < xs.length), j < n → xs[j] ≠ v) (fun i _ => xs.length - i.toNat) ⟨rfl, 0, rfl, Nat.zero_le _, fun j _ hj => by omega⟩ ?_
  rintro next _ _ ⟨rfl, n, rfl, hn, hno⟩ hnext
  refine Br_dec (fun hlt => ?_) fun hge => hk _ ⟨fun h => by omega, fun h => ?_⟩
  · have hn2 : n < xs.length := by omega
    refine IxA_rl hs rfl hn2 fun a ha => Ld_int ha (Br.mk (fun h => hk _ ⟨fun _ => ?_, fun _ => by omega⟩) fun h => ?_)
    · rw [beqI h]; exact List.getElem_mem hn2
    · have h := bneI h
      refine Lt.mk (u := ((n + 1 : Nat) : Int)) (by rw [wrap_i64_id] <;> omega) (hnext _ _ ⟨rfl, n + 1, rfl, hn2, fun j hj hjn => ?_⟩ (by omega))
      rcases Nat.lt_or_ge j n with e | e
      · exact hno j hj e
      · have : j = n := by omega
        subst this; exact fun e => h e.symm
  · obtain ⟨j, hj, e⟩ := List.getElem_of_mem h
    exact absurd e (hno j hj (by omega))
theorem s_Contains64 {s : Sl} {xs : List Int} {v : Int} (hs : RL (Value.int .i64) H s xs) (hl : xs.length ≤ 100000) {k : Bool → Heap → Prop} (hk : k (decide (v ∈ xs)) H) : CallT Pg fQek [.slice s.a s.len s.cap, .int .i64 v] (.one (.c .bool)) H k := by
  refine cQee _ _ ?_
  unfold vQee
  refine s_Index64 hs hl fun x hx => ?_
  have : decide (x ≥ 0) = decide (v ∈ xs) := decide_eq_decide.2 hx
  rw [this]; exact hk
theorem append_new {x : Int} {vs : List Int} {l : Sl} (hl : Vec H TQaq l (vs.map (Value.int .i64))) (hs : vs.length ≤ 100) {k : Sl → Heap → Prop} (hk : ∀ r H', Vec H' TQaq r ((vs ++ [x]).map (Value.int .i64)) → (Upd (fun b => l.a = some (adr b)) H H') → (r.a = l.a ∨ ∀ b, r.a = some (adr b) → H.size ≤ b) → k r H') :
    Nw #[.int .i64 x] TQaq H fun b5 H12 =>
      App TQaq 1 8 #[.int .i64 0] l ⟨some (adr b5), 1, 1⟩ H12 fun l3 H13 => k l3 H13 := by
  refine Nw_row (vs := [.int .i64 x]) fun b H1 hb hE hz hr => ?_
  have z := hE.size
  refine App_one (hl.upd hE fun _ _ h => h) hr.rd_all rfl (by simp [Value.oneCell']) (by decide) (by simp; omega) fun r H' hv _ hc => hk r H' (by rw [List.map_append]; exact hv) ?_ ?_
  · rcases hc with ⟨b', cs, e1, e2, _, _, h5, _⟩ | ⟨_, h2, _⟩
    · exact (hE.mono fun _ _ h => h.elim).trans h5 fun c _ e => by subst e; exact e1
    · exact (hE.trans h2 fun _ _ h => h).mono fun _ _ h => h.elim
  · rcases hc with ⟨b', cs, e1, e2, _⟩ | ⟨e1, _⟩
    · exact .inl (e2.trans e1.symm)
    · refine .inr fun c hc => ?_
      rw [e1] at hc; cases hc; omega
theorem s_next {r : Rou} {i : Nat} (hr : CodeR H r) (hi : i < r.code.length) (hl : r.code.length ≤ 100000) {k : Sl → Heap → Prop} (hk : ∀ s H', Ext H H' → Vec H' TQaq s ((nexts r.code i).map (Value.int .i64)) → k s H') :
    CallT Pg fQd7 [rouA r, .int .i64 (i : Nat)] (.one (.c .sl)) H k := by
  refine cQd1 (r.name, r.params, r.locals, r.sl) _ ?_
  unfold vQd1
  refine Nw_row (vs := rouV r) fun b1 H1 hb1 hE1 hz1 hrow => ?_
  simp only [adr_add]
  refine Ld_sl (s := r.sl) ((hrow.cell 3).trans rfl) (IxA_rn' insV_len (hr.ext hE1) (by omega) (j := i) rfl hi fun a ha => ?_)
  refine ⟨((r.code[i]!).1, (r.code[i]!).2), ha, Nw_row (vs := [.int .i64 0, .int .i64 0]) fun b2 H2 hb2 hE2 hz2 hr2 => St_row hr2 (by simp) fun H3 hU3 _ hr3 => St_row hr3 (by simp) fun H4 hU4 _ hr4 => ?_⟩
  have hE4 : Ext H H4 := extUpd (hE1.trans hE2 fun _ _ h => h) (by have := hE1.size; omega) (hU3.trans hU4 fun _ _ h => h)
  have z4 := hE4.size
  have hc0 : hcell H4 ⟨b2, 0, none⟩ = some (.int .i64 (r.code[i]!).1) := (hr4.cell 0).trans rfl
  have hc1 : hcell H4 ⟨b2, 1, none⟩ = some (.int .i64 (r.code[i]!).2) := (hr4.cell 1).trans rfl
  have hn : nexts r.code i = if (r.code[i]!).1 = 22 ∨ (r.code[i]!).1 = 23 then [] else if (r.code[i]!).1 = 19 then [(r.code[i]!).2] else if (r.code[i]!).1 = 20 then [(r.code[i]!).2, (i : Int) + 1] else [(i : Int) + 1] := rfl
  generalize r.code[i]! = x at *
  refine Ld_int hc0 (Jn.mk (fun s H' => Ext H H' ∧ Vec H' TQaq s ((nexts r.code i).map (Value.int .i64))) (fun kk1 hkk1 => ?_) (by rintro s H' ⟨h1, h2⟩; exact hk s H' h1 h2))
  -- with the one behind it
  have last : ∀ (vs : List Int) (l : Sl) (H6 : Heap), Ext H H6 → Vec H6 TQaq l (vs.map (Value.int .i64)) → (∀ b, l.a = some (adr b) → H.size ≤ b) → vs.length ≤ 10 → nexts r.code i = vs ++ [(i : Int) + 1] →
      Lt (IntKind.wrap .i64 ((i : Nat) + 1)) fun t1 =>
      Nw #[.int .i64 t1] TQaq H6 fun b5 H12 =>
      App TQaq 1 8 #[.int .i64 0] l ⟨some (adr b5), 1, 1⟩ H12 fun l3 H13 =>
      kk1 l3 H13 := by
    intro vs l H6 hE6 hv hb hvs hnx
    refine Lt.mk (u := (i : Int) + 1) (by rw [wrap_i64_id] <;> omega) (append_new hv (by omega) fun r' H13 hv13 hU13 _ => hkk1 _ _ ⟨hE6.trans hU13 (fun b hlt e => by have := hb b e; omega), ?_⟩)
    rw [hnx]; exact hv13
  refine Jn.mk (fun l H6 => ∃ vs : List Int, Ext H H6 ∧ Vec H6 TQaq l (vs.map (Value.int .i64)) ∧ (∀ b, l.a = some (adr b) → H.size ≤ b) ∧ vs.length ≤ 10 ∧ nexts r.code i = vs ++ [(i : Int) + 1]) (fun kk2 hkk2 => ?_) (by rintro l H6 ⟨vs, h1, h2, h3, h4, h5⟩; exact last vs l H6 h1 h2 h3 h4 h5)
  refine Jn.mk (fun j H' => H4 = H' ∧ j = decide (x.1 = 22 ∨ x.1 = 23)) (fun kk3 hkk3 => ?_) ?_
  · refine Br.mk (fun h => hkk3 _ _ ⟨rfl, (decide_eq_true (.inl (beqI h))).symm⟩) fun h => hkk3 _ _ ⟨rfl, ?_⟩
    have h := bneI h
    by_cases e : x.1 = 23
    · rw [e]; rfl
    · rw [decide_eq_false (by omega)]; exact beq_eq_false_iff_ne.2 e
  rintro j _ ⟨rfl, rfl⟩
  refine Br_dec (fun h => hkk1 _ _ ⟨hE4, ?_⟩) fun h => Br.mk (fun h19 => ?_) fun h19 => Br.mk (fun h20 => ?_) fun h20 => ?_
  · rw [hn, if_pos h]; exact Vec.nil _ _
  · have h19 := beqI h19
    refine Ld_int hc1 (append_new (vs := []) (Vec.nil _ _) (by simp) fun r' H9 hv9 hU9 _ => hkk1 _ _ ⟨hE4.trans hU9 (fun b _ e => by cases e), ?_⟩)
    rw [hn, if_neg h, if_pos h19]; exact hv9
  · have h19 := bneI h19
    have h20 := beqI h20
    refine Ld_int hc1 (append_new (vs := []) (Vec.nil _ _) (by simp) fun r' H11 hv11 hU11 ha11 => hkk2 _ _ ⟨[x.2], hE4.trans hU11 (fun b _ e => by cases e), hv11, (fun b hb => ?_), by simp, by rw [hn, if_neg h, if_neg h19, if_pos h20]; rfl⟩)
    rcases ha11 with e | e
    · rw [e] at hb; cases hb
    · have := e b hb; omega
  · have h19 := bneI h19
    have h20 := bneI h20
    exact hkk2 _ _ ⟨[], hE4, Vec.nil _ _, (fun b hb => by cases hb), by simp, by rw [hn, if_neg h, if_neg h19, if_neg h20]; rfl⟩
abbrev flowV (r : Rou) (fsl dl : Sl) : List Value := [.string r.name, .int .i64 r.params, .int .i64 r.locals, slV r.sl, slV fsl, slV dl]
abbrev FlowR (H : Heap) (f : Nat) (r : Rou) (fsl dl : Sl) : Prop := Row H f TQbf (flowV r fsl dl)
theorem FlowR.rou {f : Nat} {r : Rou} {fsl dl : Sl} (h : FlowR H f r fsl dl) : hcells H (adr f) 0 (rouV r) := Row.rd (ws := [slV fsl, slV dl]) h
theorem s_fits {f : Nat} {r : Rou} {fsl dl : Sl} {fs : List Rou} {i d : Nat} (hF : FlowR H f r fsl dl) (hr : CodeR H r) (hf : RN rouV 4 H fsl fs) (hI : ∀ x ∈ parms fs, I64 x) (hi : i < r.code.length) (hd : d ≤ 64) {k : Int × Bool → Heap → Prop}
    (hk : ∀ H', Ext H H' → k ((d : Int) - takes (parms fs) r.code[i]! + puts r.code[i]!, decide (fits (parms fs) r.code[i]! d)) H') :
    CallT Pg fQeg [.pointer (some (adr f)), .int .i64 (i : Nat), .int .i64 (d : Nat)] (.tup [(.c (.int .i64)), (.c .bool)]) H k := by
  refine cQea _ _ _ ?_
  unfold vQea
  simp only [NilCk_some, adr_add]
  have h3 : hcell H ⟨f, 3, none⟩ = some (slV r.sl) := (hF.cell 3).trans rfl
  refine Ld_sl (s := r.sl) h3 (IxA_rn' insV_len hr (by omega) (j := i) rfl hi fun a ha => ?_)
  refine ⟨((r.code[i]!).1, (r.code[i]!).2), ha, Ld_sl (s := fsl) ((hF.cell 4).trans rfl) (s_Effect (i := r.code[i]!) hf fun H1 hE => ?_)⟩
  refine Stab_1 (hE.cell h3 fun h => h) ?_
  have t0 := takes_bd (parms fs) r.code[i]!
  have t1 := takes_i64 hI r.code[i]!
  have p0 := puts_bd r.code[i]!
  have hk1 := hk H1 hE
  rw [show decide (fits (parms fs) r.code[i]! d) = decide (takes (parms fs) r.code[i]! ≤ d ∧ (d : Int) - takes (parms fs) r.code[i]! + puts r.code[i]! ≤ 64) from decide_eq_decide.2 Iff.rfl] at hk1
  clear hk
  generalize takes (parms fs) r.code[i]! = t at *
  generalize puts r.code[i]! = p at *
  refine Lt.mk (u := (d : Int) - t) (by rw [wrap_i64_id] <;> omega) (Lt.mk (u := (d : Int) - t + p) (by rw [wrap_i64_id] <;> omega) ?_)
  refine Jn.mk (fun st H' => H1 = H' ∧ st = ((d : Int) - t + p, decide (t ≤ d ∧ (d : Int) - t + p ≤ 64))) (fun kk hkk => ?_) (by rintro st _ ⟨rfl, rfl⟩; exact hk1)
  refine Br_dec (fun h => hkk _ _ ⟨rfl, ?_⟩) fun h => hkk _ _ ⟨rfl, ?_⟩
  · rw [show decide ((d : Int) - t + p ≤ 64) = decide (t ≤ d ∧ (d : Int) - t + p ≤ 64) from decide_eq_decide.2 (by omega)]
  · rw [show decide (t ≤ d ∧ (d : Int) - t + p ≤ 64) = false from decide_eq_false (by omega)]
end
end Go.Proofs.YtfpmgpblhhcpgaaGreat
