/-
  The law's book: lists that came out, written over by their owner, and grown.
-/
import Derived.Test.YtpkpebgpiakbeaaPlanV
namespace Go.Proofs.Ytpkpebgpiakbeaa
set_option linter.unusedVariables false
set_option linter.unusedSimpArgs false
open Go.Proofs.Ytpkpebgpiakbeaa.Hc Go.Proofs.Ytpkpebgpiakbeaa.Hc.Plan
set_option maxRecDepth 100000

/-- What the book's owner wrote: lists of one mark each, and lists of such. μ, ν: each block's mark. -/
structure HI (F : Nat → Prop) (H : Heap) (hs os : List (Sl × Int)) (μ ν : Nat → Int) : Prop where
  a : ∀ e ∈ hs, e.1.len ≤ 3000 ∧ Vec H T_int e.1 (ints (List.replicate e.1.len e.2)) ∧ ∀ b, e.1.a = some (adr b) → F b ∧ μ b = e.2
  b : ∀ e ∈ os, e.1.len ≤ 3000 ∧ (∃ xs : List Sl, Vec H T_Sl_int e.1 (xs.map slV) ∧ ∀ x ∈ xs, x.len = 1 ∧ Vec H T_int x (ints [e.2]) ∧ ∀ b, x.a = some (adr b) → F b ∧ μ b = e.2) ∧ ∀ b, e.1.a = some (adr b) → F b ∧ ν b = e.2
variable {F : Nat → Prop} {H H' : Heap} {hs os : List (Sl × Int)} {μ ν : Nat → Int}
theorem HI.upd {M : Nat → Prop} (hu : Upd M H H') (h : HI F H hs os μ ν) (hm : ∀ b, F b → ¬ M b) : HI F H' hs os μ ν :=
  ⟨fun e he => let ⟨h0, h1, h2⟩ := h.a e he; ⟨h0, h1.upd hu fun b hb => hm b (h2 b hb).1, h2⟩,
   fun e he => let ⟨h0, ⟨xs, h1, h3⟩, h2⟩ := h.b e he; ⟨h0, ⟨xs, h1.upd hu fun b hb => hm b (h2 b hb).1, fun x hx => let ⟨a1, a2, a3⟩ := h3 x hx; ⟨a1, a2.upd hu fun b hb => hm b (a3 b hb).1, a3⟩⟩, h2⟩⟩
theorem HI.ext (hu : Ext H H') (h : HI F H hs os μ ν) : HI F H' hs os μ ν := h.upd hu fun _ _ h => h
theorem HI.mono {F' : Nat → Prop} (h : HI F H hs os μ ν) (hf : ∀ b, F b → F' b) : HI F' H hs os μ ν :=
  ⟨fun e he => let ⟨h0, h1, h2⟩ := h.a e he; ⟨h0, h1, fun b hb => ⟨hf b (h2 b hb).1, (h2 b hb).2⟩⟩,
   fun e he => let ⟨h0, ⟨xs, h1, h3⟩, h2⟩ := h.b e he; ⟨h0, ⟨xs, h1, fun x hx => let ⟨a1, a2, a3⟩ := h3 x hx; ⟨a1, a2, fun b hb => ⟨hf b (a3 b hb).1, (a3 b hb).2⟩⟩⟩, fun b hb => ⟨hf b (h2 b hb).1, (h2 b hb).2⟩⟩⟩
theorem HI.sub {hs' os' : List (Sl × Int)} (h : HI F H hs os μ ν) (h1 : ∀ e ∈ hs', e ∈ hs) (h2 : ∀ e ∈ os', e ∈ os) : HI F H hs' os' μ ν := ⟨fun e he => h.a e (h1 e he), fun e he => h.b e (h2 e he)⟩
/-- A block that is nobody's gets a mark. -/
theorem HI.mark (h : HI F H hs os μ ν) {c : Nat} {m : Int} (hn : ¬ F c) : HI (fun b => F b ∨ b = c) H hs os (fun b => if b = c then m else μ b) ν := by
  have key : ∀ b v, F b ∧ μ b = v → (F b ∨ b = c) ∧ (if b = c then m else μ b) = v := fun b v ⟨h1, h2⟩ => ⟨.inl h1, (if_neg (show ¬ b = c by rintro rfl; exact hn h1)).trans h2⟩
  exact ⟨fun e he => let ⟨h0, h1, h2⟩ := h.a e he; ⟨h0, h1, fun b hb => key b _ (h2 b hb)⟩,
   fun e he => let ⟨h0, ⟨xs, h1, h3⟩, h2⟩ := h.b e he; ⟨h0, ⟨xs, h1, fun x hx => let ⟨a1, a2, a3⟩ := h3 x hx; ⟨a1, a2, fun b hb => key b _ (a3 b hb)⟩⟩, fun b hb => ⟨.inl (h2 b hb).1, (h2 b hb).2⟩⟩⟩
theorem HI.markN (h : HI F H hs os μ ν) {c : Nat} {m : Int} (hn : ¬ F c) : HI (fun b => F b ∨ b = c) H hs os μ (fun b => if b = c then m else ν b) := by
  exact ⟨fun e he => let ⟨h0, h1, h2⟩ := h.a e he; ⟨h0, h1, fun b hb => ⟨.inl (h2 b hb).1, (h2 b hb).2⟩⟩,
   fun e he => let ⟨h0, ⟨xs, h1, h3⟩, h2⟩ := h.b e he; ⟨h0, ⟨xs, h1, fun x hx => let ⟨a1, a2, a3⟩ := h3 x hx; ⟨a1, a2, fun b hb => ⟨.inl (a3 b hb).1, (a3 b hb).2⟩⟩⟩, fun b hb => ⟨.inl (h2 b hb).1, (if_neg (show ¬ b = c by rintro rfl; exact hn (h2 _ hb).1)).trans (h2 b hb).2⟩⟩⟩
theorem HI.addA (h : HI F H hs os μ ν) {x : Sl} {m : Int} (hl : x.len ≤ 3000) (hv : Vec H T_int x (ints (List.replicate x.len m))) (hF : ∀ b, x.a = some (adr b) → F b ∧ μ b = m) : HI F H (hs ++ [(x, m)]) os μ ν :=
  ⟨fun e he => by
    rcases List.mem_append.1 he with he | he
    · exact h.a e he
    · rw [List.mem_singleton] at he; subst he; exact ⟨hl, hv, hF⟩, h.b⟩
theorem HI.addB (h : HI F H hs os μ ν) {x : Sl} {m : Int} {xs : List Sl} (hl : x.len ≤ 3000) (hv : Vec H T_Sl_int x (xs.map slV)) (hx : ∀ x ∈ xs, x.len = 1 ∧ Vec H T_int x (ints [m]) ∧ ∀ b, x.a = some (adr b) → F b ∧ μ b = m) (hF : ∀ b, x.a = some (adr b) → F b ∧ ν b = m) : HI F H hs (os ++ [(x, m)]) μ ν :=
  ⟨h.a, fun e he => by
    rcases List.mem_append.1 he with he | he
    · exact h.b e he
    · rw [List.mem_singleton] at he; subst he; exact ⟨hl, ⟨xs, hv, hx⟩, hF⟩⟩
theorem rep_set (n q : Nat) (m : Int) : (ints (List.replicate n m)).set q (.int .i64 m) = ints (List.replicate n m) := by
  rw [ints, List.map_replicate, List.set_replicate_self]
/-- A list of marks is grown by its mark, in place. -/
theorem HI.pokeA (h : HI F H hs os μ ν) {b n : Nat} {m : Int} {cs : List Value} (hμ : μ b = m) (hr : Row H b T_int cs) (hr' : Row H' b T_int (cs.set n (.int .i64 m))) (hu : Upd (· = b) H H') : HI F H' hs os μ ν := by
  refine ⟨fun e he => ?_, fun e he => ?_⟩
  · obtain ⟨h0, h1, h2⟩ := h.a e he
    refine ⟨h0, ?_, h2⟩
    by_cases hb : e.1.a = some (adr b)
    · have em : e.2 = m := by rw [← (h2 b hb).2, hμ]
      have := h1.poke hb hr hr'
      rwa [em, rep_set, ← em] at this
    · exact h1.upd hu fun c hc e' => hb (e' ▸ hc)
  · obtain ⟨h0, ⟨xs, h1, h3⟩, h2⟩ := h.b e he
    refine ⟨h0, ⟨xs, h1.upd hu fun c hc e' => h1.ne (e' ▸ hc) hr (by decide) rfl, fun x hx => ?_⟩, h2⟩
    obtain ⟨a1, a2, a3⟩ := h3 x hx
    refine ⟨a1, ?_, a3⟩
    by_cases hb : x.a = some (adr b)
    · have em : e.2 = m := by rw [← (a3 b hb).2, hμ]
      have := a2.poke hb hr hr'
      rwa [em, show ints [m] = ints (List.replicate 1 m) from rfl, rep_set, show ints (List.replicate 1 m) = ints [m] from rfl, ← em] at this
    · exact a2.upd hu fun c hc e' => hb (e' ▸ hc)
/-- Likewise a list of lists. -/
theorem HI.pokeB (h : HI F H hs os μ ν) {b n : Nat} {m : Int} {y : Sl} {cs : List Value} (hν : ν b = m) (hr : Row H b T_Sl_int cs) (hr' : Row H' b T_Sl_int (cs.set n (slV y))) (hu : Upd (· = b) H H')
    (hy : y.len = 1 ∧ Vec H T_int y (ints [m]) ∧ ∀ b, y.a = some (adr b) → F b ∧ μ b = m) : HI F H' hs os μ ν := by
  have ky : ∀ {x : Sl} {vs : List Value}, Vec H T_int x vs → Vec H' T_int x vs := fun hv => hv.upd hu fun c hc e' => hv.ne (e' ▸ hc) hr (by decide) rfl
  refine ⟨fun e he => ?_, fun e he => ?_⟩
  · obtain ⟨h0, h1, h2⟩ := h.a e he
    exact ⟨h0, ky h1, h2⟩
  · obtain ⟨h0, ⟨xs, h1, h3⟩, h2⟩ := h.b e he
    by_cases hb : e.1.a = some (adr b)
    · have em : e.2 = m := by rw [← (h2 b hb).2, hν]
      have := h1.poke hb hr hr'
      refine ⟨h0, ⟨xs.set n y, by rw [List.map_set]; exact this, fun x hx => ?_⟩, h2⟩
      rcases List.mem_or_eq_of_mem_set hx with hx | rfl
      · obtain ⟨a1, a2, a3⟩ := h3 x hx; exact ⟨a1, ky a2, a3⟩
      · rw [em]; exact ⟨hy.1, ky hy.2.1, hy.2.2⟩
    · exact ⟨h0, ⟨xs, h1.upd hu fun c hc e' => hb (e' ▸ hc), fun x hx => let ⟨a1, a2, a3⟩ := h3 x hx; ⟨a1, ky a2, a3⟩⟩, h2⟩

abbrev bkF (l mk o m : Sl) (ls : List Sl) (ks : List Int) (os : List Sl) (ms : List Int) : List RFd := [(T_Sl_int, l, ls.map slV), (T_int, mk, ints ks), (T_Sl_Sl_int, o, os.map slV), (T_int, m, ints ms)]
theorem bkF_a (l mk o m : Sl) (es : List (Sl × Int)) (e : Sl × Int) (os : List Sl) (ms : List Int) : bkF l mk o m ((es ++ [e]).map (·.1)) ((es ++ [e]).map (·.2)) os ms =
    [(T_Sl_int, l, (es.map (·.1)).map slV ++ [slV e.1]), (T_int, mk, ints (es.map (·.2)) ++ [.int .i64 e.2]), (T_Sl_Sl_int, o, os.map slV), (T_int, m, ints ms)] := by simp [bkF, ints]
theorem bkF_b (l mk o m : Sl) (ls : List Sl) (ks : List Int) (es : List (Sl × Int)) (e : Sl × Int) : bkF l mk o m ls ks ((es ++ [e]).map (·.1)) ((es ++ [e]).map (·.2)) =
    [(T_Sl_int, l, ls.map slV), (T_int, mk, ints ks), (T_Sl_Sl_int, o, (es.map (·.1)).map slV ++ [slV e.1]), (T_int, m, ints (es.map (·.2)) ++ [.int .i64 e.2])] := by simp [bkF, ints]
/-- The book. -/
structure Bk (F : Nat → Prop) (H : Heap) (p : Nat) (l mk o m : Sl) (es os : List (Sl × Int)) (i j : Nat) (μ ν : Nat → Int) : Prop where
  rc : Rec H p T_hindcastlaw18_Book (bkF l mk o m (es.map (·.1)) (es.map (·.2)) (os.map (·.1)) (os.map (·.2))) [.int .i64 i, .int .i64 j]
  hi : HI F H es os μ ν
  fg : ∀ b, F b → ¬ RecB p (bkF l mk o m (es.map (·.1)) (es.map (·.2)) (os.map (·.1)) (os.map (·.2))) b
  lt : ∀ b, F b → b < H.size
/-- The book: its blocks lie in Φ. -/
def BkP (Φ : Nat → Prop) (N : Nat) (H : Heap) (p : Nat) : Prop := ∃ F l mk o m es os i j μ ν, Bk F H p l mk o m es os i j μ ν ∧ (∀ b, F b ∨ RecB p (bkF l mk o m (es.map (·.1)) (es.map (·.2)) (os.map (·.1)) (os.map (·.2))) b → Φ b) ∧
  i ≤ es.length ∧ j ≤ os.length ∧ 2 * es.length ≤ i + N ∧ 2 * os.length ≤ j + N ∧ (∀ q (h : q < es.length), i ≤ q → es[q].1.len ≤ 2000) ∧ ∀ q (h : q < os.length), j ≤ q → os[q].1.len ≤ 2000
variable {Φ : Nat → Prop} {N p : Nat}
theorem BkP.cut (h : BkP Φ N H p) : BkP (fun b => Φ b ∧ b < H.size) N H p := by
  obtain ⟨F, l, mk, o, m, es, os, i, j, μ, ν, hB, hF, h1⟩ := h
  exact ⟨F, l, mk, o, m, es, os, i, j, μ, ν, hB, fun b hb => ⟨hF b hb, hb.elim (hB.lt b) fun h => hB.rc.lt h⟩, h1⟩
theorem BkP.mono {Ψ : Nat → Prop} (h : BkP Φ N H p) (hf : ∀ b, Φ b → Ψ b) {N' : Nat} (hN : N ≤ N') : BkP Ψ N' H p := by
  obtain ⟨F, l, mk, o, m, es, os, i, j, μ, ν, hB, hF, h1, h2, h3, h4, h5⟩ := h
  exact ⟨F, l, mk, o, m, es, os, i, j, μ, ν, hB, fun b hb => hf b (hF b hb), h1, h2, by omega, by omega, h5⟩
theorem BkP.upd {M : Nat → Prop} (hu : Upd M H H') (h : BkP Φ N H p) (hm : ∀ b, Φ b → ¬ M b) : BkP Φ N H' p := by
  obtain ⟨F, l, mk, o, m, es, os, i, j, μ, ν, hB, hF, h1⟩ := h
  exact ⟨F, l, mk, o, m, es, os, i, j, μ, ν, ⟨hB.rc.upd hu fun b hb => hm b (hF b (.inr hb)), hB.hi.upd hu fun b hb => hm b (hF b (.inl hb)), hB.fg, fun b hb => Nat.lt_of_lt_of_le (hB.lt b hb) hu.size⟩, hF, h1⟩

theorem s_keep {x : Sl} {xs : List Int} (hB : BkP Φ N H p) (hN : N ≤ 2 ^ 30) (hx : Vec H T_int x (ints xs)) (hxl : xs.length ≤ 2000) (hap : ∀ b, x.a = some (adr b) → ¬ Φ b) {k : Unit → Heap → Prop}
    (hk : ∀ H', BkP (fun b => Φ b ∨ x.a = some (adr b) ∨ H.size ≤ b) (N + 2) H' p → Upd (fun b => Φ b ∨ x.a = some (adr b)) H H' → k () H') :
    CallT Pg f_hindcastlaw18_Book_keep [.pointer (some (adr p)), .slice x.a x.len x.cap] (.tup []) H k := by
  apply c_hindcastlaw18_Book_keep
  unfold v_hindcastlaw18_Book_keep
  obtain ⟨F, l, mk, o, m, es, os, i, j, μ, ν, hB, hF, hi, hj, hN1, hN2, hbi, hbj⟩ := hB
  have hl := (hB.rc.vs 0 (by simp)).len
  simp only [List.getElem_cons_zero, List.length_map] at hl
  have hxn := hx.len
  simp only [List.length_map] at hxn
  simp only [NilCk_some, adr_add]
  refine Ld_sl (s := l) ((hB.rc.row.cell 0).trans rfl) ?_
  rw [Lt_def, wrap_i64_id (by omega) (by omega)]
  obtain ⟨mm, hmm⟩ : ∃ mm : Int, mm = -1000 - (l.len : Int) := ⟨_, rfl⟩
  rw [← hmm]
  refine LoopT.mk (fun σ H' => ∃ q : Nat, σ = q ∧ q ≤ xs.length ∧ Upd (fun b => x.a = some (adr b)) H H' ∧ Vec H' T_int x (ints (List.replicate q mm ++ xs.drop q))) (fun σ _ => (xs.length - σ).toNat) ⟨0, rfl, by omega, .refl _ _, by simpa using hx⟩ ?_
  rintro next _ H1 ⟨q, rfl, hq, hU1, hv1⟩ hnext
  refine Br_dec (fun hlt => ?_) fun hge => ?_
  · have hq1 : q < xs.length := by omega
    refine IxA_St_vec' hv1 (j := q) rfl (by simp; omega) fun H2 hv2 hU2 _ => ?_
    rw [Lt_def, wrap_i64_id (by omega) (by omega)]
    rw [ints_set] at hv2
    have e : (List.replicate q mm ++ xs.drop q).set q mm = List.replicate (q + 1) mm ++ xs.drop (q + 1) := by
      rw [List.drop_eq_getElem_cons hq1]
      have := set_mid' (List.replicate q mm) (xs.drop (q + 1)) xs[q] mm
      rw [List.length_replicate] at this
      rw [this, List.replicate_succ', List.append_assoc]; rfl
    rw [e] at hv2
    exact hnext _ _ ⟨q + 1, by omega, by omega, hU1.trans hU2 fun _ _ h => h, hv2⟩ (by omega)
  · have hqn : q = xs.length := by omega
    subst hqn
    clear hnext
    rw [List.drop_eq_nil_of_le (Nat.le_refl _), List.append_nil, ← hxn] at hv1
    have notF : ∀ b, F b → ¬ (x.a = some (adr b)) := fun b hb e => hap b e (hF b (.inl hb))
    have notR : ∀ b, RecB p (bkF l mk o m (es.map (·.1)) (es.map (·.2)) (os.map (·.1)) (os.map (·.2))) b → ¬ (x.a = some (adr b)) := fun b hb e => hap b e (hF b (.inr hb))
    have hR1 := hB.rc.upd hU1 notR
    have hI1 := hB.hi.upd hU1 notF
    have z1 := hU1.size
    -- the list gets its mark
    obtain ⟨F1, μ1, hI2, hF1⟩ : ∃ F1 μ1, HI F1 H1 (es ++ [(x, mm)]) os μ1 ν ∧ ∀ b, F1 b → F b ∨ x.a = some (adr b) := by
      rcases hv1.own with ⟨h1, _⟩ | ⟨c, sp, h1, _⟩
      · exact ⟨F, μ, hI1.addA (by omega) hv1 (fun b hb => by rw [h1] at hb; cases hb), fun b hb => .inl hb⟩
      · refine ⟨fun b => F b ∨ b = c, fun b => if b = c then mm else μ b, (hI1.mark (fun hc => notF c hc h1)).addA (by omega) hv1 (fun b hb => ?_), fun b hb => by rcases hb with h | rfl; exact .inl h; exact .inr h1⟩
        rw [h1] at hb; cases hb
        exact ⟨.inr rfl, if_pos rfl⟩
    have hF1x : ∀ b, F1 b → ¬ RecB p (bkF l mk o m (es.map (·.1)) (es.map (·.2)) (os.map (·.1)) (os.map (·.2))) b := fun b hb hr => by
      rcases hF1 b hb with h | h
      · exact hB.fg b h hr
      · exact notR b hr h
    have hF1lt : ∀ b, F1 b → b < H1.size := fun b hb => by
      rcases hF1 b hb with h | h
      · have := hB.lt b h; omega
      · exact hv1.lt h
    refine Ld_sl (s := l) ((hR1.row.cell 0).trans rfl) ?_
    refine Nw_row fun b1 H3 hb1 hE3 _ hr3 => ?_
    have z3 := hE3.size
    refine (hR1.ext hE3).app (q := 0) (by simp) (w := slV x) (x := ⟨some (adr b1), 1, 1⟩) hr3.rd_all rfl rfl (by omega) (by simp; omega) fun l1 H4 hP4 => ?_
    refine hP4.st fun H5 hR5 up5 => ?_
    have sub5 := fun b => hP4.sub (b := b)
    simp only [List.set_cons_zero, List.getElem_cons_zero] at hR5 up5 sub5
    have hmkl := (hR5.vs 1 (by simp)).len
    simp only [List.getElem_cons_succ, List.getElem_cons_zero, List.length_map] at hmkl
    refine Ld_sl (s := mk) ((hR5.row.cell 1).trans rfl) ?_
    refine Nw_row fun b2 H6 hb2 hE6 _ hr6 => ?_
    have z5 := up5.size
    have z6 := hE6.size
    refine (hR5.ext hE6).app (q := 1) (by simp) (w := .int .i64 mm) (x := ⟨some (adr b2), 1, 1⟩) hr6.rd_all rfl rfl (by omega) (by simp; omega) fun l2 H7 hP7 => ?_
    refine hP7.st fun H8 hR8 up8 => ?_
    have sub8 := fun b => hP7.sub (b := b)
    simp only [List.set_cons_zero, List.getElem_cons_zero, List.set_cons_succ, List.getElem_cons_succ] at hR8 up8 sub8
    have r5 : ∀ b, (b = p ∨ l.a = some (adr b)) → RecB p (bkF l mk o m (es.map (·.1)) (es.map (·.2)) (os.map (·.1)) (os.map (·.2))) b := fun b e => e.imp id fun e => ⟨0, by simp, e⟩
    have r8 : ∀ b, (b = p ∨ mk.a = some (adr b)) → RecB p (bkF l mk o m (es.map (·.1)) (es.map (·.2)) (os.map (·.1)) (os.map (·.2))) b := fun b e => e.imp id fun e => ⟨1, by simp, e⟩
    have hU8 : Upd (fun b => Φ b ∨ x.a = some (adr b)) H H8 := by
      refine (((hU1.mono fun _ _ e => .inr e).ext hE3).trans up5 fun b _ e => .inl (hF b (.inr (r5 b e)))) |>.ext hE6 |>.trans up8 fun b _ e => .inl (hF b (.inr (r8 b e)))
    have hI8 := ((((hI2.ext hE3).upd up5 fun b hb e => hF1x b hb (r5 b e)).ext hE6).upd up8 fun b hb e => hF1x b hb (r8 b e))
    have z8 := up8.size
    refine hk H8 ⟨F1, l1, l2, o, m, es ++ [(x, mm)], os, i, j, μ1, ν, ⟨?_, hI8, fun b hb hr => ?_, fun b hb => by have := hF1lt b hb; omega⟩, fun b hb => ?_, ?_, hj, ?_, by omega, fun q hq hiq => ?_, hbj⟩ hU8
    · rw [bkF_a]; exact hR8
    · rw [bkF_a] at hr
      have hblt := hF1lt b hb
      rcases sub8 b hr with h | h
      · rcases sub5 b h with h | h
        · exact hF1x b hb h
        · omega
      · omega
    · rcases hb with hb | hb
      · exact (hF1 b hb).elim (fun h => .inl (hF b (.inl h))) fun h => .inr (.inl h)
      · rw [bkF_a] at hb
        rcases sub8 b hb with h | h
        · rcases sub5 b h with h | h
          · exact .inl (hF b (.inr h))
          · exact .inr (.inr (by omega))
        · exact .inr (.inr (by omega))
    · simp only [List.length_append, List.length_singleton]; omega
    · simp only [List.length_append, List.length_singleton]; omega
    · rcases Nat.lt_or_ge q es.length with e | e
      · rw [List.getElem_append_left e]; exact hbi q e hiq
      · rw [List.getElem_append_right e]
        have : q - es.length = 0 := by simp at hq; omega
        simp only [this, List.getElem_cons_zero]; omega
end Go.Proofs.Ytpkpebgpiakbeaa
