/-
  Every call of two stores in turns: whole.
-/
import Derived.Test.YtpkpebgpiakbeaaStoreQ
namespace Go.Proofs.Ytpkpebgpiakbeaa
set_option linter.unusedVariables false
set_option linter.unusedSimpArgs false
open Go.Proofs.Ytpkpebgpiakbeaa.Hc
set_option maxRecDepth 100000

/-- A pair of stores, with what is kept; F holds all its memory. -/
structure PX (F : Nat → Prop) (H : Heap) (q p : Nat) (s : Sl) (p' : Nat) (sA sB ks : Sl) (es : List Hold) (r r' : RSt) : Prop where
  st : SAt H p s r
  rt : RAt H p' sA sB r'
  kt : KAt H q (.pointer (some (adr p))) (.pointer (some (adr p'))) ks es
  a1 : Ap s sA
  a2 : Ap s sB
  a3 : ∀ e ∈ es, Ap s e.1
  fp : F p ∧ F p' ∧ F q
  fs : ∀ b, s.a = some (adr b) → F b
  fa : ∀ b, sA.a = some (adr b) ∨ sB.a = some (adr b) → F b
  fk : ∀ b, ks.a = some (adr b) → F b
  fe : ∀ e ∈ es, ∀ b, e.1.a = some (adr b) → F b
def Gr (F : Nat → Prop) (H H' : Heap) (b : Nat) : Prop := F b ∨ (H.size ≤ b ∧ b < H'.size)
theorem Gr.grow {F : Nat → Prop} {H H1 H2 : Heap} (h1 : H.size ≤ H1.size) (h2 : H1.size ≤ H2.size) : ∀ b, Gr (Gr F H H1) H1 H2 b → Gr F H H2 b := by
  rintro b ((h | h) | h)
  · exact .inl h
  · exact .inr (by omega)
  · exact .inr (by omega)
variable {F : Nat → Prop} {H : Heap} {q p : Nat} {s : Sl} {p' : Nat} {sA sB ks : Sl} {es : List Hold} {r r' : RSt}
theorem PX.mono {G : Nat → Prop} (h : PX F H q p s p' sA sB ks es r r') (hg : ∀ b, F b → G b) : PX G H q p s p' sA sB ks es r r' :=
  ⟨h.st, h.rt, h.kt, h.a1, h.a2, h.a3, ⟨hg _ h.fp.1, hg _ h.fp.2.1, hg _ h.fp.2.2⟩, fun b e => hg b (h.fs b e), fun b e => hg b (h.fa b e), fun b e => hg b (h.fk b e), fun x hx b e => hg b (h.fe x hx b e)⟩
theorem PX.upd {M : Nat → Prop} {H' : Heap} (hu : Upd M H H') (h : PX F H q p s p' sA sB ks es r r') (hm : ∀ b, F b → ¬ M b) : PX F H' q p s p' sA sB ks es r r' :=
  ⟨h.st.upd hu (hm _ h.fp.1) fun b e => hm b (h.fs b e), h.rt.upd hu (hm _ h.fp.2.1) (fun b e => hm b (h.fa b (.inl e))) fun b e => hm b (h.fa b (.inr e)), h.kt.upd hu (hm _ h.fp.2.2) (fun b e => hm b (h.fk b e)) fun x hx b e => hm b (h.fe x hx b e),
   h.a1, h.a2, h.a3, h.fp, h.fs, h.fa, h.fk, h.fe⟩
theorem PX.ext {H' : Heap} (hu : Ext H H') (h : PX F H q p s p' sA sB ks es r r') : PX F H' q p s p' sA sB ks es r r' := h.upd hu fun _ _ h => h
/-- The program's store has made a step. -/
theorem PX.doS {H' : Heap} {s1 : Sl} {r1 : RSt} (h : PX F H q p s p' sA sB ks es r r') (hS : SAt H' p s1 r1) (ho : Own H s s1) (hu : Upd (SM p s) H H') : PX (Gr F H H') H' q p s1 p' sA sB ks es r1 r' := by
  obtain ⟨f, hr, _⟩ := h.st.row
  obtain ⟨lg, _, _, hk⟩ := h.kt.row
  have ns : ∀ {T : TypeId} {x : Nat} {vs : List Value}, Row H x T vs → T ≠ T_store_Store → T ≠ T_uint8 → ¬ SM p s x := fun hx h1 h2 e => by
    rcases e with e | e
    · exact hx.ne hr h1 e
    · exact h.st.vec.ne e hx (fun e => h2 e.symm) rfl
  have nv : ∀ {x : Sl} {vs : List Value}, Vec H T_uint8 x vs → Ap s x → ∀ b, x.a = some (adr b) → ¬ SM p s b := fun hx ha b hb e => by
    rcases e with e | e
    · exact hx.ne hb hr (by decide) e
    · exact ha b e hb
  have oa : ∀ {x : Sl} {vs : List Value}, Vec H T_uint8 x vs → Ap s x → Ap s1 x := fun hx ha b h1 h2 => by
    rcases ho b h1 with e | e
    · exact ha b e h2
    · have := hx.lt h2; omega
  refine ⟨hS, h.rt.upd hu (ns h.rt.row (by decide) (by decide)) (nv h.rt.va h.a1) (nv h.rt.vb h.a2), h.kt.upd hu (ns hk (by decide) (by decide)) (fun b hb e => ?_) (fun x hx => nv (h.kt.ok x hx).1 (h.a3 x hx)),
    oa h.rt.va h.a1, oa h.rt.vb h.a2, fun x hx => oa (h.kt.ok x hx).1 (h.a3 x hx), ⟨.inl h.fp.1, .inl h.fp.2.1, .inl h.fp.2.2⟩, fun b hb => ?_, fun b hb => .inl (h.fa b hb), fun b hb => .inl (h.fk b hb), fun x hx b hb => .inl (h.fe x hx b hb)⟩
  · rcases e with e | e
    · exact h.kt.vec.ne hb hr (by decide) e
    · exact h.kt.vec.apV h.st.vec (by decide) hb e
  · rcases ho b hb with e | e
    · exact .inl (h.fs b e)
    · exact .inr ⟨e, hS.vec.lt hb⟩
/-- The document's has. -/
theorem PX.doR {H' : Heap} {sA' sB' : Sl} {r1 : RSt} (h : PX F H q p s p' sA sB ks es r r') (hR : RAt H' p' sA' sB' r1) (ho : Own2 H sA sB sA' sB') (hu : Upd (· = p') H H') : PX (Gr F H H') H' q p s p' sA' sB' ks es r r1 := by
  obtain ⟨f, hr, _⟩ := h.st.row
  obtain ⟨lg, _, _, hk⟩ := h.kt.row
  have hp := h.rt.row
  have lt' : ∀ b, sA'.a = some (adr b) ∨ sB'.a = some (adr b) → b < H'.size := fun b hb => hb.elim (fun e => hR.va.lt e) fun e => hR.vb.lt e
  have oa : ∀ b, s.a = some (adr b) → ¬ (sA'.a = some (adr b) ∨ sB'.a = some (adr b)) := fun b h1 h2 => by
    rcases ho b h2 with e | e | e
    · exact h.a1 b h1 e
    · exact h.a2 b h1 e
    · have := h.st.vec.lt h1; omega
  refine ⟨h.st.upd hu (hr.ne hp (by decide)) fun b hb e => h.st.vec.ne hb hp (by decide) e, hR, h.kt.upd hu (hk.ne hp (by decide)) (fun b hb e => h.kt.vec.ne hb hp (by decide) e) (fun x hx b hb e => (h.kt.ok x hx).1.ne hb hp (by decide) e),
    fun b h1 h2 => oa b h1 (.inl h2), fun b h1 h2 => oa b h1 (.inr h2), h.a3, ⟨.inl h.fp.1, .inl h.fp.2.1, .inl h.fp.2.2⟩, fun b hb => .inl (h.fs b hb), fun b hb => ?_, fun b hb => .inl (h.fk b hb), fun x hx b hb => .inl (h.fe x hx b hb)⟩
  rcases ho b hb with e | e | e
  · exact .inl (h.fa b (.inl e))
  · exact .inl (h.fa b (.inr e))
  · exact .inr ⟨e, lt' b hb⟩
/-- Something fresh has been kept. -/
theorem PX.doK {H' : Heap} {t ks' : Sl} {es' : List Hold} {bs : List UInt8} (h : PX F H q p s p' sA sB ks es r r') (hv : Vec H T_uint8 t (u8s bs)) (ht : ∀ b, t.a = some (adr b) → ¬ F b)
    (hK : KAt H' q (.pointer (some (adr p))) (.pointer (some (adr p'))) ks' es') (he : ∀ e ∈ es', e ∈ es ∨ e.1.a = t.a ∨ Fresh H e.1) (ho : Own H ks ks')
    (hu : Upd (fun b => b = q ∨ ks.a = some (adr b) ∨ t.a = some (adr b)) H H') : PX (fun b => Gr F H H' b ∨ t.a = some (adr b)) H' q p s p' sA sB ks' es' r r' := by
  obtain ⟨f, hr, _⟩ := h.st.row
  obtain ⟨lg, _, _, hk⟩ := h.kt.row
  have hp := h.rt.row
  have nm : ∀ {T : TypeId} {x : Nat} {vs : List Value}, Row H x T vs → T ≠ T_hindcastlaw03_pair → T ≠ T_hindcastlaw03_hold → T ≠ T_uint8 → ¬ (x = q ∨ ks.a = some (adr x) ∨ t.a = some (adr x)) := fun hx h1 h2 h3 e => by
    rcases e with e | e | e
    · exact hx.ne hk h1 e
    · exact h.kt.vec.ne e hx (fun e => h2 e.symm) rfl
    · exact hv.ne e hx (fun e => h3 e.symm) rfl
  have nv : ∀ {x : Sl} {vs : List Value}, Vec H T_uint8 x vs → (∀ b, x.a = some (adr b) → F b) → ∀ b, x.a = some (adr b) → ¬ (b = q ∨ ks.a = some (adr b) ∨ t.a = some (adr b)) := fun hx hf b hb e => by
    rcases e with e | e | e
    · exact hx.ne hb hk (by decide) e
    · exact h.kt.vec.apV hx (by decide) e hb
    · exact ht b e (hf b hb)
  refine ⟨h.st.upd hu (nm hr (by decide) (by decide) (by decide)) (nv h.st.vec h.fs), h.rt.upd hu (nm hp (by decide) (by decide) (by decide)) (nv h.rt.va fun b e => h.fa b (.inl e)) (nv h.rt.vb fun b e => h.fa b (.inr e)), hK,
    h.a1, h.a2, fun e hm b h1 h2 => ?_, ⟨.inl (.inl h.fp.1), .inl (.inl h.fp.2.1), .inl (.inl h.fp.2.2)⟩, fun b e => .inl (.inl (h.fs b e)), fun b e => .inl (.inl (h.fa b e)), fun b e => ?_, fun e hm b hb => ?_⟩
  · rcases he e hm with g | g | g
    · exact h.a3 e g b h1 h2
    · exact ht b (by rw [← g]; exact h2) (h.fs b h1)
    · have := g b h2; have := h.st.vec.lt h1; omega
  · rcases ho b e with g | g
    · exact .inl (.inl (h.fk b g))
    · exact .inl (.inr ⟨g, hK.vec.lt e⟩)
  · rcases he e hm with g | g | g
    · exact .inl (.inl (h.fe e g b hb))
    · exact .inr (by rw [← g]; exact hb)
    · exact .inl (.inr ⟨g b hb, (hK.ok e hm).1.lt hb⟩)

/-- What a pair is, seen from outside. -/
def PAt (F : Nat → Prop) (H : Heap) (q n : Nat) : Prop := ∃ p s p' sA sB ks es r, PX F H q p s p' sA sB ks es r r ∧ es.length ≤ n

theorem s_made {x : Sl} {bs : List UInt8} {H0 H : Heap} {k : Option Addr × Bool → Heap → Prop} (hx : RB H0 x bs) (hE : Ext H0 H) (hl : bs.length ≤ 2 ^ 47)
    (hnone : ∀ H', Ext H H' → k (none, true) H')
    (hk : ∀ q H', PAt (fun b => H.size ≤ b ∧ b < H'.size) H' q 0 → Ext H H' → k (some (adr q), true) H') :
    CallT Pg f_hindcastlaw03_made [.slice x.a x.len x.cap] (.tup [(.c .ptr), (.c .bool)]) H k := by
  apply c_hindcastlaw03_made
  unfold v_hindcastlaw03_made
  refine s_lent (hx.ext hE) hl fun c H1 hc hr1 hE1 => ?_
  have hrb1 : RB H1 ⟨some (adr c), bs.length, bs.length + 8⟩ bs := ⟨by have := hr1.rd_all; rw [u8s, List.map_append] at this; have := hcells_take (n := bs.length) this; rwa [List.take_left' (by simp)] at this, rfl, by dsimp only; omega⟩
  have s01 := hE.size
  have s1 := hE1.size
  refine s_store_New (x := ⟨some (adr c), bs.length, bs.length + 8⟩) hrb1 (fun hbig => ?_) fun p s H2 hsm hp hS hfs hE2 => ?_
  · refine s_back hx (hE.ext hE1) (by omega) hl hr1 fun H3 hU3 _ => ?_
    have hE3 : Ext H H3 := hE1.trans hU3 fun b hb e => by omega
    refine s_ref03_New (hx.ext (hE.ext hE3)) (fun _ => ?_) fun _ _ _ h => by omega
    refine Jn_in ?_
    simp only [Bool.not_true, Br_false, bne_self_eq_false, Option.isNone_none, beq_self_eq_true, Br_true]
    exact hnone _ hE3
  · have hr2 := hE2.row hr1 fun h => h
    have lc := hr1.lt
    refine s_back hx ((hE.ext hE1).ext hE2) (by omega) hl hr2 fun H3 hU3 hr3 => ?_
    have hE3 : Ext H H3 := (hE1.ext hE2).trans hU3 fun b hb e => by omega
    have hS3 := hS.upd hU3 (by omega) fun b hb e => by have := hfs b hb; omega
    refine s_ref03_New (hx.ext (hE.ext hE3)) (fun _ => by omega) fun p' sA H4 _ hp' hR hfA hE4 => ?_
    have hS4 := hS3.ext hE4
    have hE4' := hE3.ext hE4
    refine Jn_in ?_
    simp only [Bool.not_true, Br_false, bne_self_eq_false, Option.isNone_some, beq_self_eq_true]
    refine Nw_row fun q H6 hq hE6 hs6 hr6 => ?_
    have s2 := hE2.size
    have s3 := hU3.size
    have s4 := hE4.size
    have hlt := hS4.lt
    have hlt' := hR.row.lt
    refine hk q H6 ⟨p, s, p', sA, ⟨none, 0, 0⟩, ⟨none, 0, 0⟩, [], ⟨bs, [], false, -1⟩, ⟨hS4.ext hE6, hR.upd hE6 (fun h => h) (fun _ _ h => h) (fun _ _ h => h), ⟨⟨0, by omega, by omega, hr6⟩, .nil _ _ _, by simp⟩, fun b h1 h2 => ?_, fun b h1 h2 => ?_, by simp, ⟨by omega, by omega, by omega⟩, fun b hb => ?_, fun b hb => ?_, fun b hb => ?_, by simp⟩, by simp⟩ (hE4'.ext hE6)
    · have := hfA b h2; have := hS3.vec.lt h1; omega
    · cases h2
    · have := hfs b hb; have := hS4.vec.lt hb; omega
    · rcases hb with hb | hb
      · have := hfA b hb; have := hR.va.lt hb; omega
      · cases hb
    · cases hb
end Go.Proofs.Ytpkpebgpiakbeaa
