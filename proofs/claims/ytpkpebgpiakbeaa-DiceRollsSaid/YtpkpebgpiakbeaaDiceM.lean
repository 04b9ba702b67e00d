/-
  Two dice roll by turns: whole.
-/
import Derived.Test.YtpkpebgpiakbeaaDiceS
namespace Go.Proofs.Ytpkpebgpiakbeaa
set_option linter.unusedVariables false
set_option linter.unusedSimpArgs false
open Go.Proofs.Ytpkpebgpiakbeaa.Hc Go.Proofs.Ytpkpebgpiakbeaa.Hc.Dice
set_option maxRecDepth 100000

/-- A slice of a caller's, whose elements are five int64. -/
def Rolls (H : Heap) (s : Sl) : Prop := s.len ≤ maxLen ∧ ∀ i, i < s.len → ∃ a, s.a = some a ∧ ∃ o : Int × Int × Int × Int × Int,
  hcells H (a.add (i * 5)) 0 [.int .i64 o.1, .int .i64 o.2.1, .int .i64 o.2.2.1, .int .i64 o.2.2.2.1, .int .i64 o.2.2.2.2] ∧ (I64 o.1 ∧ I64 o.2.1 ∧ I64 o.2.2.1 ∧ I64 o.2.2.2.1 ∧ I64 o.2.2.2.2)
theorem hcells.ext {H H' : Heap} (hu : Ext H H') {a : Addr} : ∀ {vs : List Value} {i : Nat}, hcells H a i vs → hcells H' a i vs
  | [], _, _ => trivial
  | _ :: _, _, h => ⟨hu.cell h.1 fun h => h, hcells.ext hu h.2⟩
theorem Rolls.ext {H H' : Heap} (hu : Ext H H') {s : Sl} (h : Rolls H s) : Rolls H' s :=
  ⟨h.1, fun i hi => let ⟨a, h1, o, h2, h3⟩ := h.2 i hi; ⟨a, h1, o, hcells.ext hu h2, h3⟩⟩

theorem s_DiceRolls (c d : Int × Int × Int × Int) (s : Sl) {H : Heap} (hs : Rolls H s) {k : Bool → Heap → Prop} (hk : ∀ H', Ext H H' → k true H') :
    CallT Pg f_hindcastlaw08_DiceRolls [.agg #[.int .i64 c.1, .int .i64 c.2.1, .int .i64 c.2.2.1, .int .i64 c.2.2.2], .agg #[.int .i64 d.1, .int .i64 d.2.1, .int .i64 d.2.2.1, .int .i64 d.2.2.2], .slice s.a s.len s.cap] (.one (.c .bool)) H k := by
  apply c_hindcastlaw08_DiceRolls
  unfold v_hindcastlaw08_DiceRolls
  simp only [adr_add]
  refine Nw_row fun b1 H1 hb1 hE1 _ hr1 => ?_
  refine Nw_row fun b2 H2 hb2 hE2 _ hr2 => ?_
  have hr1 := hE2.row hr1 fun h => h
  have hE2 := hE1.ext hE2
  refine s_law08_shown fun H3 hE3 => ?_
  have hr1 := hE3.row hr1 fun h => h
  have hr2 := hE3.row hr2 fun h => h
  have hE3 := hE2.ext hE3
  refine Ld_int ((hr1.cell 0).trans rfl) ?_
  refine Ld_int ((hr1.cell 1).trans rfl) ?_
  refine Ld_int ((hr1.cell 2).trans rfl) ?_
  refine Ld_int ((hr1.cell 3).trans rfl) ?_
  refine s_dice_New _ _ _ _ fun H4 hE4 hd4 => ?_
  have hr1 := hE4.row hr1 fun h => h
  have hr2 := hE4.row hr2 fun h => h
  have hE4' := hE3.ext hE4
  refine Ld_int ((hr2.cell 0).trans rfl) ?_
  refine Ld_int ((hr2.cell 1).trans rfl) ?_
  refine Ld_int ((hr2.cell 2).trans rfl) ?_
  refine Ld_int ((hr2.cell 3).trans rfl) ?_
  refine s_dice_New _ _ _ _ fun H5 hE5 he5 => ?_
  have hr1 := hE5.row hr1 fun h => h
  have hr2 := hE5.row hr2 fun h => h
  have hd5 : DieP H5 _ _ := hE5.keep hd4 fun h => h
  have hE5' := hE4'.ext hE5
  refine Jn_in ?_
  simp only [Bool.not_true, Br_false, Option.isNone_some]
  refine Ld_int ((hr1.cell 0).trans rfl) ?_
  refine Ld_int ((hr1.cell 1).trans rfl) ?_
  refine Ld_int ((hr1.cell 2).trans rfl) ?_
  refine Ld_int ((hr1.cell 3).trans rfl) ?_
  refine s_ref_New _ _ _ _ fun H6 hE6 hf6 => ?_
  have hr2 := hE6.row hr2 fun h => h
  have hd6 : DieP H6 _ _ := hE6.keep hd5 fun h => h
  have he6 : DieP H6 _ _ := hE6.keep he5 fun h => h
  have hE6' := hE5'.ext hE6
  refine Ld_int ((hr2.cell 0).trans rfl) ?_
  refine Ld_int ((hr2.cell 1).trans rfl) ?_
  refine Ld_int ((hr2.cell 2).trans rfl) ?_
  refine Ld_int ((hr2.cell 3).trans rfl) ?_
  refine s_ref_New _ _ _ _ fun H7 hE7 hg7 => ?_
  have hd7 : DieP H7 _ _ := hE7.keep hd6 fun h => h
  have he7 : DieP H7 _ _ := hE7.keep he6 fun h => h
  have hf7 : DieR H7 _ _ := hE7.keep hf6 fun h => h
  have hE7' := hE6'.ext hE7
  refine Nw_row fun b3 H8 hb3 hE8 _ hr3 => ?_
  have hd8 : DieP H8 _ _ := hE8.keep hd7 fun h => h
  have he8 : DieP H8 _ _ := hE8.keep he7 fun h => h
  have hf8 : DieR H8 _ _ := hE8.keep hf7 fun h => h
  have hg8 : DieR H8 _ _ := hE8.keep hg7 fun h => h
  have hE8' := hE7'.ext hE8
  have hB8 : BookAt H8 H.size b3 [] [] := ⟨⟨⟨none, 0, 0⟩, ⟨none, 0, 0⟩, hr3, .nil _ _, .nil _ _, (fun b h => by cases h), (fun b h => by cases h)⟩, by rw [hb3]; exact hE7'.size, by simp, by simp, rfl, by simp, by simp, by simp⟩
  have s3 := hE3.size
  have s4 := hE4.size
  have s5 := hE5.size
  have s6 := hE6.size
  have s7 := hE7.size
  have l4 := lt_of_get hd4
  have l5 := lt_of_get he5
  have l6 := lt_of_get hf6
  have l7 := lt_of_get hg7
  have bp := newS_bd c.1 c.2.1 c.2.2.1 c.2.2.2
  have bq := newS_bd d.1 d.2.1 d.2.2.1 d.2.2.2
  revert hd8 he8 hf8 hg8
  generalize newS c.1 c.2.1 c.2.2.1 c.2.2.2 = sp at *
  generalize newS d.1 d.2.1 d.2.2.1 d.2.2.2 = sq at *
  intro hd8 he8 hf8 hg8
  refine LoopT.mk (fun i H' => ∃ (j : Nat) (ls ws : List Ent) (sp sq : Int), i = j ∧ j ≤ 300 ∧ BookAt H' H.size b3 ls ws ∧ Ext H H' ∧ DieP H' H3.size sp ∧ DieR H' H5.size sp ∧ DieP H' H4.size sq ∧ DieR H' H6.size sq ∧
      (0 ≤ sp ∧ sp < 18446744073709551616) ∧ (0 ≤ sq ∧ sq < 18446744073709551616)) (fun i _ => (300 - i).toNat)
    ⟨0, [], [], sp, sq, rfl, by omega, hB8, hE8', hd8, hf8, he8, hg8, bp, bq⟩ ?_
  clear hd8 he8 hf8 hg8 bp bq hB8
  rintro next _ H10 ⟨j, ls, ws, sp, sq, rfl, hj, hB, hE, hp, hr, hq, ht, bp, bq⟩ hnext
  refine Jn.mk (fun b H' => H10 = H' ∧ b = decide ((j : Int) < s.len ∧ (j : Int) < 300)) (fun kk hkk => ?_) ?_
  · refine Br_dec (fun h => hkk _ _ ⟨rfl, ?_⟩) fun h => hkk _ _ ⟨rfl, ?_⟩
    · simp [h]
    · simp [h]
  rintro _ _ ⟨rfl, rfl⟩
  refine Br_dec (fun hlt => ?_) fun _ => s_owned hB hE.size fun H' hU => hk H' (hE.trans hU fun b hb h => by omega)
  obtain ⟨a, ha, o, ho, hoi⟩ := (hs.ext hE).2 j (by omega)
  refine IxA.mk ha (by omega) (by omega) ?_
  rw [Int.toNat_natCast]
  refine Ld_int ho.2.1 ?_
  refine s_pick08 _ 2 hoi.2.1 (by omega) ?_
  refine Jn.mk (fun b H' => b = true ∧ ∃ (ls ws : List Ent) (sp sq : Int), BookAt H' H.size b3 ls ws ∧ Ext H H' ∧ DieP H' H3.size sp ∧ DieR H' H5.size sp ∧ DieP H' H4.size sq ∧ DieR H' H6.size sq ∧
      (0 ≤ sp ∧ sp < 18446744073709551616) ∧ (0 ≤ sq ∧ sq < 18446744073709551616)) (fun kk hkk => ?_) ?_
  · refine Br.mk (fun _ => ?_) fun _ => ?_
    · refine IxA.mk ha (by omega) (by omega) ?_
      rw [Int.toNat_natCast]
      refine ⟨o, ho, ?_⟩
      refine s_roll o hoi hB hp hr bp.1 bp.2 hE.size fun ls' ws' s' H' h1 h2 h3 h4 h5 h6 => ?_
      refine hkk _ _ ⟨rfl, ls', ws', s', sq, h1, hE.trans h6 fun b hb h => ?_, h2, h3, h6.keep hq ?_, h6.keep ht ?_, ⟨h4, h5⟩, bq⟩
      · rcases h with h | h | h <;> omega
      · rintro (h | h | h)
        · omega
        · omega
        · exact (h.2 sq).1 hq
      · rintro (h | h | h)
        · omega
        · omega
        · exact (h.2 sq).2 ht
    · refine IxA.mk ha (by omega) (by omega) ?_
      rw [Int.toNat_natCast]
      refine ⟨o, ho, ?_⟩
      refine s_roll o hoi hB hq ht bq.1 bq.2 hE.size fun ls' ws' s' H' h1 h2 h3 h4 h5 h6 => ?_
      refine hkk _ _ ⟨rfl, ls', ws', sp, s', h1, hE.trans h6 fun b hb h => ?_, h6.keep hp ?_, h6.keep hr ?_, h2, h3, bp, ⟨h4, h5⟩⟩
      · rcases h with h | h | h <;> omega
      · rintro (h | h | h)
        · omega
        · omega
        · exact (h.2 sp).1 hp
      · rintro (h | h | h)
        · omega
        · omega
        · exact (h.2 sp).2 hr
  · rintro _ H' ⟨rfl, ls, ws, sp, sq, hB, hE, hp, hr, hq, ht, bp, bq⟩
    refine s_still hB ?_
    refine Jn_in ?_
    rw [Bool.not_true, Br_false]
    show Br false _ _
    rw [Br_false, Lt_def, wrap_i64_id (by omega) (by omega)]
    exact hnext _ _ ⟨j + 1, ls, ws, sp, sq, by omega, by omega, hB, hE, hp, hr, hq, ht, bp, bq⟩ (by omega)

theorem list5_hindcastlaw08_Roll {cs : List Value} (h : cs.length = 5) : ∃ x0 x1 x2 x3 x4, cs = [x0, x1, x2, x3, x4] := by
  match cs, h with
  | [x0, x1, x2, x3, x4], _ => exact ⟨x0, x1, x2, x3, x4, rfl⟩
theorem rdS_hindcastlaw08_Roll {H : Heap} {f : Nat} {cs : List Value} (h : RdC Try.prog H f 39 cs) : ∃ x0 x1 x2 x3 x4, cs = [x0, x1, x2, x3, x4] ∧ ∃ f', RdC Try.prog H f' 3 [x0] ∧ RdC Try.prog H f' 3 [x1] ∧ RdC Try.prog H f' 3 [x2] ∧ RdC Try.prog H f' 2 [x3] ∧ RdC Try.prog H f' 2 [x4] := by
  obtain ⟨f', hl, hall⟩ := rdC_struct Try.underlying39 h
  obtain ⟨x0, x1, x2, x3, x4, rfl⟩ := list5_hindcastlaw08_Roll (hl.trans (by kernel_rfl))
  simp only [List.mem_cons, List.not_mem_nil, or_false, forall_eq_or_imp, forall_eq] at hall
  have c2 : Try.prog.cellsOf 2 = 1 := by kernel_rfl
  have c3 : Try.prog.cellsOf 3 = 1 := by kernel_rfl
  obtain ⟨h0, h1, h2, h3, h4⟩ := hall
  exact ⟨x0, x1, x2, x3, x4, rfl, f', by simpa [c3] using h0, by simpa [c3] using h1, by simpa [c3] using h2, by simpa [c2] using h3, by simpa [c2] using h4⟩
theorem rd_rolls {H : Heap} {v : Value} (h : RdV Try.prog H 28 v) : ∃ s : Sl, v = .slice s.a s.len s.cap ∧ Rolls H s := by
  obtain ⟨f, hc⟩ := rd_cell Try.underlying28 rfl h
  obtain ⟨f', hs⟩ := rdC_slice Try.underlying28 hc
  have c39 : Try.prog.cellsOf 39 = 5 := by kernel_rfl
  rw [c39] at hs
  rcases hs with e | ⟨a, len, cap, e, h1, h2, h3⟩
  · simp only [List.cons.injEq, and_true] at e
    subst e
    exact ⟨⟨none, 0, 0⟩, rfl, Nat.zero_le _, fun i hi => by simp at hi⟩
  · simp only [List.cons.injEq, and_true] at e
    subst e
    refine ⟨⟨some a, len, cap⟩, rfl, Nat.le_trans h1 h2, fun i hi => ⟨a, rfl, ?_⟩⟩
    obtain ⟨xs, h4, h5, h6⟩ := h3 i (Nat.lt_of_lt_of_le hi h1)
    obtain ⟨x0, x1, x2, x3, x4, rfl, f', g0, g1, g2, g3, g4⟩ := rdS_hindcastlaw08_Roll h6
    obtain ⟨n0, e0, i0⟩ := rdC_i64 Try.underlying3 g0
    obtain ⟨n1, e1, i1⟩ := rdC_i64 Try.underlying3 g1
    obtain ⟨n2, e2, i2⟩ := rdC_i64 Try.underlying3 g2
    obtain ⟨n3, e3, i3⟩ := rdC_i64 Try.underlying2 g3
    obtain ⟨n4, e4, i4⟩ := rdC_i64 Try.underlying2 g4
    simp only [List.cons.injEq, and_true] at e0 e1 e2 e3 e4
    subst e0 e1 e2 e3 e4
    exact ⟨(n0, n1, n2, n3, n4), h5, i0, i1, i2, i3, i4⟩
theorem w_DiceRolls {H : Heap} (v0 v1 v2 : Value) (r0 : RdV Try.prog H 27 v0) (r1 : RdV Try.prog H 27 v1) (r2 : RdV Try.prog H 28 v2) :
    CallT Try.prog 4 [v0, v1, v2] (.one (.c .bool)) H (fun b H' => b = true ∧ Ext H H') := by
  obtain ⟨c, rfl, _⟩ := rd_cup r0
  obtain ⟨d, rfl, _⟩ := rd_cup r1
  obtain ⟨s, rfl, hs⟩ := rd_rolls r2
  exact s_DiceRolls c d s hs fun H' h => ⟨rfl, h⟩
end Go.Proofs.Ytpkpebgpiakbeaa
