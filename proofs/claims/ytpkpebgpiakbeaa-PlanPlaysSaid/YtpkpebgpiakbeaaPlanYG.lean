/-
  The law's book: growing.
-/
import Derived.Test.YtpkpebgpiakbeaaPlanY
namespace Go.Proofs.Ytpkpebgpiakbeaa
set_option linter.unusedVariables false
set_option linter.unusedSimpArgs false
open Go.Proofs.Ytpkpebgpiakbeaa.Hc Go.Proofs.Ytpkpebgpiakbeaa.Hc.Plan
set_option maxRecDepth 100000
variable {F : Nat → Prop} {H H' : Heap} {hs os : List (Sl × Int)} {μ ν : Nat → Int} {Φ : Nat → Prop} {N p : Nat}

theorem rep_snoc (n : Nat) (m : Int) : ints (List.replicate n m) ++ [.int .i64 m] = ints (List.replicate (n + 1) m) := by
  rw [List.replicate_succ', ints, ints, List.map_append]; rfl
/-- One more mark behind a list of marks. -/
theorem growA {g : Sl} {m : Int} (hI : HI F H (hs ++ [(g, m)]) os μ ν) (hlt : ∀ b, F b → b < H.size) (hl : g.len ≤ 2900) {x : Sl} (hx : rdL H x.a [.int .i64 m]) (hxl : x.len = 1) {k : Sl → Heap → Prop}
    (hk : ∀ g' H' F' μ', HI F' H' (hs ++ [(g', m)]) os μ' ν → g'.len = g.len + 1 → (∀ b, F' b → F b ∨ H.size ≤ b) → (∀ b, F' b → b < H'.size) → Upd F H H' → k g' H') :
    App T_int 1 8 #[.int .i64 0] g x H k := by
  obtain ⟨_, h1, h2⟩ := hI.a (g, m) (by simp)
  dsimp only at h1 h2
  refine App_one h1 hx hxl rfl (by omega) (by simp; omega) fun g' H' hv hl' hc => ?_
  rw [rep_snoc, ← hl'] at hv
  rcases hc with ⟨b, cs, e1, e2, hr, hr', hu, hz⟩ | ⟨e1, hE, hz⟩
  · have hI' := hI.pokeA (h2 b e1).2 hr hr' hu
    refine hk g' H' F μ ((hI'.sub (hs' := hs) (os' := os) (fun e he => List.mem_append_left _ he) fun _ h => h).addA (by omega) hv fun c hc => ?_) hl' (fun b h => .inl h) (fun c hc => by have := hlt c hc; omega) (hu.mono fun c _ e => by rw [e]; exact (h2 b e1).1)
    rw [e2] at hc; cases hc; exact h2 b e1
  · have hn : ¬ F H.size := fun h => by have := hlt _ h; omega
    refine hk g' H' _ _ ((((hI.ext hE).mark (c := H.size) (m := m) hn).sub (hs' := hs) (os' := os) (fun e he => List.mem_append_left _ he) fun _ h => h).addA (by omega) hv fun c hc => ?_) hl' (fun b h => h.imp id fun h => by omega) (fun c hc => ?_) (hE.mono fun _ _ h => h.elim)
    · rw [e1] at hc; cases hc; exact ⟨.inr rfl, if_pos rfl⟩
    · rcases hc with h | h
      · have := hlt c h; omega
      · omega
/-- One more list of a mark behind a list of such. -/
theorem growB {g : Sl} {m : Int} (hI : HI F H hs (os ++ [(g, m)]) μ ν) (hlt : ∀ b, F b → b < H.size) (hl : g.len ≤ 2900) {x y : Sl} (hx : rdL H x.a [slV y]) (hxl : x.len = 1) (hy : y.len = 1 ∧ Vec H T_int y (ints [m]) ∧ ∀ b, y.a = some (adr b) → F b ∧ μ b = m) {k : Sl → Heap → Prop}
    (hk : ∀ g' H' F' ν', HI F' H' hs (os ++ [(g', m)]) μ ν' → g'.len = g.len + 1 → (∀ b, F' b → F b ∨ H.size ≤ b) → (∀ b, F' b → b < H'.size) → Upd F H H' → k g' H') :
    App T_Sl_int 1 24 #[.slice none 0 0] g x H k := by
  obtain ⟨_, ⟨xs, h1, h3⟩, h2⟩ := hI.b (g, m) (by simp)
  dsimp only at h1 h2 h3
  have hxl' := h1.len
  simp only [List.length_map] at hxl'
  refine App_one h1 hx hxl rfl (by omega) (by simp; omega) fun g' H' hv hl' hc => ?_
  rw [show xs.map slV ++ [slV y] = (xs ++ [y]).map slV by simp] at hv
  have h3' : ∀ x ∈ xs ++ [y], x.len = 1 ∧ Vec H T_int x (ints [m]) ∧ ∀ b, x.a = some (adr b) → F b ∧ μ b = m := fun x hx => by
    rcases List.mem_append.1 hx with hx | hx
    · exact h3 x hx
    · rw [List.mem_singleton] at hx; subst hx; exact hy
  rcases hc with ⟨b, cs, e1, e2, hr, hr', hu, hz⟩ | ⟨e1, hE, hz⟩
  · have hI' := hI.pokeB (h2 b e1).2 hr hr' hu hy
    refine hk g' H' F ν ((hI'.sub (hs' := hs) (os' := os) (fun _ h => h) fun e he => List.mem_append_left _ he).addB (by omega) hv (fun x hx => ?_) fun c hc => ?_) hl' (fun b h => .inl h) (fun c hc => by have := hlt c hc; omega) (hu.mono fun c _ e => by rw [e]; exact (h2 b e1).1)
    · obtain ⟨a1, a2, a3⟩ := h3' x hx
      exact ⟨a1, a2.upd hu fun c hc e' => a2.ne (e' ▸ hc) hr (by decide) rfl, a3⟩
    · rw [e2] at hc; cases hc; exact h2 b e1
  · have hn : ¬ F H.size := fun h => by have := hlt _ h; omega
    refine hk g' H' _ _ ((((hI.ext hE).markN (c := H.size) (m := m) hn).sub (hs' := hs) (os' := os) (fun _ h => h) fun e he => List.mem_append_left _ he).addB (by omega) hv (fun x hx => ?_) fun c hc => ?_) hl' (fun b h => h.imp id fun h => by omega) (fun c hc => ?_) (hE.mono fun _ _ h => h.elim)
    · obtain ⟨a1, a2, a3⟩ := h3' x hx
      exact ⟨a1, a2.ext hE, fun b hb => ⟨.inl (a3 b hb).1, (a3 b hb).2⟩⟩
    · rw [e1] at hc; cases hc; exact ⟨.inr rfl, if_pos rfl⟩
    · rcases hc with h | h
      · have := hlt c h; omega
      · omega

theorem s_grows (hB : BkP Φ N H p) (hN : N ≤ 2 ^ 20) {k : Unit → Heap → Prop} (hk : ∀ H', BkP (fun b => Φ b ∨ H.size ≤ b) N H' p → Upd Φ H H' → k () H') :
    CallT Pg f_hindcastlaw18_Book_grows [.pointer (some (adr p))] (.tup []) H k := by
  apply c_hindcastlaw18_Book_grows
  unfold v_hindcastlaw18_Book_grows
  obtain ⟨F, l, mk, o, m, es, os, i, j, μ, ν, hB, hF, hi, hj, hN1, hN2, hbi, hbj⟩ := hB
  have hll := (hB.rc.vs 0 (by simp)).len
  have hol := (hB.rc.vs 2 (by simp)).len
  simp only [List.getElem_cons_zero, List.getElem_cons_succ, List.length_map] at hll hol
  simp only [NilCk_some, adr_add]
  refine Ld_sl (s := l) ((hB.rc.row.cell 0).trans rfl) ?_
  refine Ld_int (n := (i : Int)) ((hB.rc.row.cell 4).trans rfl) ?_
  refine LoopT.mk (fun σ H' => ∃ (q : Nat) (l' mk' : Sl) (ext : List (Sl × Int)) (F' : Nat → Prop) (μ' : Nat → Int), σ = q ∧ i ≤ q ∧ q ≤ es.length ∧ Bk F' H' p l' mk' o m (es ++ ext) os i j μ' ν ∧ ext.length + i = q ∧
      (∀ b, F' b ∨ RecB p (bkF l' mk' o m ((es ++ ext).map (·.1)) ((es ++ ext).map (·.2)) (os.map (·.1)) (os.map (·.2))) b → Φ b ∨ H.size ≤ b) ∧ Upd Φ H H') (fun σ _ => (es.length - σ).toNat)
    ⟨i, l, mk, [], F, μ, rfl, Nat.le_refl _, hi, by simpa using hB, by simp, fun b hb => .inl (hF b (by simpa using hb)), .refl _ _⟩ ?_
  rintro next1 _ H1 ⟨q, l1, mk1, ext, F1, μ1, rfl, hiq, hq, hB1, hel, hF1, hU1⟩ hnext1
  have z1 := hU1.size
  refine Br_dec (fun hlt => ?_) fun hge => ?_
  · have hq1 : q < es.length := by omega
    have hq2 : q < (es ++ ext).length := by simp; omega
    have eq1 : (es ++ ext)[q] = es[q] := List.getElem_append_left hq1
    have hmk1 := (hB1.rc.vs 1 (by simp)).len
    have hl1 := (hB1.rc.vs 0 (by simp)).len
    simp only [List.getElem_cons_zero, List.getElem_cons_succ, List.length_map, List.length_append] at hmk1 hl1
    refine Ld_sl (s := l1) ((hB1.rc.row.cell 0).trans rfl) ?_
    have vl : RL slV H1 l1 ((es ++ ext).map (·.1)) := (hB1.rc.vs 0 (by simp)).rl
    refine IxA_rl vl rfl (by simpa using hq2) fun a4 g4 => ?_
    rw [List.getElem_map, eq1] at g4
    refine Ld_sl (s := es[q].1) g4 ?_
    have hbq := hbi q hq1 hiq
    obtain ⟨c0, c1, c2⟩ := hB1.hi.a es[q] (List.mem_append_left _ (List.getElem_mem hq1))
    obtain ⟨mq, hmq⟩ : ∃ mq, mq = es[q].2 := ⟨_, rfl⟩
    refine LoopT.mk (fun σ H' => ∃ (c : Nat) (F2 : Nat → Prop) (μ2 : Nat → Int), σ.2 = c ∧ c ≤ 70 ∧ HI F2 H' ((es ++ ext) ++ [(σ.1, mq)]) os μ2 ν ∧ (∀ b, F2 b → F1 b ∨ H1.size ≤ b) ∧ (∀ b, F2 b → b < H'.size) ∧ σ.1.len = es[q].1.len + c ∧ Upd F1 H1 H') (fun σ _ => (70 - σ.2).toNat)
      ⟨0, F1, μ1, rfl, by omega, hB1.hi.addA c0 (by rw [hmq]; exact c1) (by rw [hmq]; exact c2), fun b h => .inl h, hB1.lt, rfl, .refl _ _⟩ ?_
    rintro next2 ⟨g, _⟩ H2 ⟨c, F2, μ2, rfl, hc, hI2, hF2, hlt2, hgl, hU2⟩ hnext2
    dsimp only at hI2 hgl ⊢
    have hR2 := hB1.rc.upd hU2 fun b hb h => hB1.fg b h hb
    have z2 := hU2.size
    have hR2v1 : RI H2 mk1 ((es ++ ext).map (·.2)) := (hR2.vs 1 (by simp)).rl
    refine Br_dec (fun hltc => ?_) fun hgec => ?_
    · refine Ld_sl (s := mk1) ((hR2.row.cell 1).trans rfl) ?_
      refine IxA_rl hR2v1 rfl (by simpa using hq2) fun a6 g6 => ?_
      rw [List.getElem_map, eq1, ← hmq] at g6
      refine Ld_int g6 ?_
      refine Nw_row (vs := ints [mq]) fun b1 H3 hb1 hE3 _ hr3 => ?_
      have z3 := hE3.size
      refine growA (x := ⟨some (adr b1), 1, 1⟩) (hI2.ext hE3) (fun b hb => by have := hlt2 b hb; omega) (by omega) hr3.rd_all rfl fun g' H4 F4 μ4 hI4 hl4 hF4 hlt4 hU4 => ?_
      rw [Lt_def, wrap_i64_id (by omega) (by omega)]
      refine hnext2 _ _ ⟨c + 1, F4, μ4, by dsimp only; omega, by omega, hI4, fun b hb => ?_, hlt4, by dsimp only; omega, (hU2.ext hE3).trans hU4 fun b hb h => ?_⟩ (by dsimp only; omega)
      · rcases hF4 b hb with h | h
        · exact hF2 b h
        · exact .inr (by omega)
      · rcases hF2 b h with h | h
        · exact h
        · omega
    · have hc70 : c = 70 := by omega
      clear hnext2
      have hF2x : ∀ b, F2 b → ¬ RecB p (bkF l1 mk1 o m ((es ++ ext).map (·.1)) ((es ++ ext).map (·.2)) (os.map (·.1)) (os.map (·.2))) b := fun b hb hr => by
        rcases hF2 b hb with h | h
        · exact hB1.fg b h hr
        · have := hB1.rc.lt hr; omega
      refine Ld_sl (s := l1) ((hR2.row.cell 0).trans rfl) ?_
      refine Nw_row fun b2 H5 hb2 hE5 _ hr5 => ?_
      have z5 := hE5.size
      refine (hR2.ext hE5).app (q := 0) (by simp) (w := slV g) (x := ⟨some (adr b2), 1, 1⟩) hr5.rd_all rfl rfl (by omega) (by simp; omega) fun l2 H6 hP6 => ?_
      refine hP6.st fun H7 hR7 up7 => ?_
      have sub7 := fun b => hP6.sub (b := b)
      simp only [List.set_cons_zero, List.getElem_cons_zero] at hR7 up7 sub7
      have z7 := up7.size
      refine Ld_sl (s := mk1) ((hR7.row.cell 1).trans rfl) ?_
      refine Ld_sl (s := mk1) ((hR7.row.cell 1).trans rfl) ?_
      have hv7 : Vec H7 T_int mk1 (ints ((es ++ ext).map (·.2))) := hR7.vs 1 (by simp)
      refine IxA_vec hv7 (by omega) (by simp; omega) fun a11 g11 ⟨c11, hc11, ha11⟩ => ?_
      have e11 : (ints ((es ++ ext).map (·.2)))[(q : Int).toNat]? = some (.int .i64 mq) := by
        rw [Int.toNat_natCast, List.getElem?_map, List.getElem?_map, List.getElem?_eq_getElem hq2, eq1, hmq]; rfl
      rw [e11] at g11
      refine Ld_int g11 ?_
      refine Nw_row fun b3 H8 hb3 hE8 _ hr8 => ?_
      have z8 := hE8.size
      have hR8 := hR7.ext hE8
      refine Stab_2 ((hR8.row.cell 1).trans rfl) ((hR8.row.cell 1).trans rfl) ?_
      refine hR8.app (q := 1) (by simp) (w := .int .i64 mq) (x := ⟨some (adr b3), 1, 1⟩) hr8.rd_all rfl rfl (by omega) (by simp; omega) fun l3 H9 hP9 => ?_
      have hold : Vec H9 T_int mk1 (ints ((es ++ ext).map (·.2))) := hP9.old
      have g9 : hcell H9 a11 = some (.int .i64 mq) := by
        obtain ⟨c, h1, h2⟩ := hold.cell (i := (q : Int).toNat) (by simp; omega)
        rw [hc11] at h1; cases h1
        rw [ha11, h2]; exact e11
      refine Stab_2 g9 ((hP9.cell 1).trans rfl) ?_
      refine hP9.st fun H10 hR10 up10 => ?_
      have sub10 := fun b => hP9.sub (b := b)
      simp only [List.set_cons_zero, List.getElem_cons_zero, List.set_cons_succ, List.getElem_cons_succ] at hR10 up10 sub10
      have z10 := up10.size
      rw [Lt_def, wrap_i64_id (by omega) (by omega)]
      have r7 : ∀ b, (b = p ∨ l1.a = some (adr b)) → RecB p (bkF l1 mk1 o m ((es ++ ext).map (·.1)) ((es ++ ext).map (·.2)) (os.map (·.1)) (os.map (·.2))) b := fun b e => e.imp id fun e => ⟨0, by simp, e⟩
      have r10 : ∀ b, (b = p ∨ mk1.a = some (adr b)) → RecB p (bkF l1 mk1 o m ((es ++ ext).map (·.1)) ((es ++ ext).map (·.2)) (os.map (·.1)) (os.map (·.2))) b := fun b e => e.imp id fun e => ⟨1, by simp, e⟩
      have hI10 := ((((hI2.ext hE5).upd up7 fun b hb e => hF2x b hb (r7 b e)).ext hE8).upd up10 fun b hb e => hF2x b hb (r10 b e))
      have inΦ : ∀ b, F1 b ∨ RecB p (bkF l1 mk1 o m ((es ++ ext).map (·.1)) ((es ++ ext).map (·.2)) (os.map (·.1)) (os.map (·.2))) b → b < H.size → Φ b := fun b h hb => (hF1 b h).resolve_right (by omega)
      have U10 : Upd (fun b => F1 b ∨ RecB p (bkF l1 mk1 o m ((es ++ ext).map (·.1)) ((es ++ ext).map (·.2)) (os.map (·.1)) (os.map (·.2))) b) H1 H10 :=
        (((hU2.mono fun _ _ h => .inl h).ext hE5).trans up7 fun b _ e => .inr (r7 b e)) |>.ext hE8 |>.trans up10 fun b _ e => .inr (r10 b e)
      have hfin : ∀ b, RecB p (bkF l2 l3 o m ((es ++ (ext ++ [(g, mq)])).map (·.1)) ((es ++ (ext ++ [(g, mq)])).map (·.2)) (os.map (·.1)) (os.map (·.2))) b → RecB p (bkF l1 mk1 o m ((es ++ ext).map (·.1)) ((es ++ ext).map (·.2)) (os.map (·.1)) (os.map (·.2))) b ∨ H2.size ≤ b := fun b hr => by
        rw [← List.append_assoc, bkF_a] at hr
        rcases sub10 b hr with h | h
        · rcases sub7 b h with h | h
          · exact .inl h
          · exact .inr (by omega)
        · exact .inr (by omega)
      refine hnext1 _ _ ⟨q + 1, l2, l3, ext ++ [(g, mq)], F2, μ2, by omega, by omega, by omega, ⟨?_, ?_, fun b hb hr => ?_, fun b hb => ?_⟩, by simp; omega, fun b hb => ?_, hU1.trans U10 fun b hb h => inΦ b h hb⟩ (by omega)
      · rw [← List.append_assoc, bkF_a]; exact hR10
      · rw [← List.append_assoc]; exact hI10
      · rcases hfin b hr with h | h
        · exact hF2x b hb h
        · have := hlt2 b hb; omega
      · have := hlt2 b hb; omega
      · rcases hb with hb | hb
        · rcases hF2 b hb with h | h
          · exact hF1 b (.inl h)
          · exact .inr (by omega)
        · rcases hfin b hb with h | h
          · exact hF1 b (.inr h)
          · exact .inr (by omega)
  · have hqn : q = es.length := by omega
    subst hqn
    clear hnext1
    obtain ⟨es', hes'⟩ : ∃ es', es' = es ++ ext := ⟨_, rfl⟩
    have hel' : es'.length = 2 * es.length - i := by rw [hes', List.length_append]; omega
    rw [← hes'] at hB1 hF1
    have hl1 := (hB1.rc.vs 0 (by simp)).len
    simp only [List.getElem_cons_zero, List.length_map] at hl1
    refine Ld_sl (s := l1) ((hB1.rc.row.cell 0).trans rfl) ?_
    refine hB1.rc.stTl (q := 0) (by simp) fun Ha hRa upa => ?_
    rw [List.set_cons_zero, hl1] at hRa
    have za := upa.size
    have hIa := hB1.hi.upd upa fun b hb e => hB1.fg b hb (.inl e)
    have inΦ1 : ∀ b, F1 b ∨ RecB p (bkF l1 mk1 o m (es'.map (·.1)) (es'.map (·.2)) (os.map (·.1)) (os.map (·.2))) b → b < H.size → Φ b := fun b h hb => (hF1 b h).resolve_right (by omega)
    have hUa : Upd Φ H Ha := hU1.trans upa fun b hb e => inΦ1 b (.inr (.inl e)) hb
    refine Ld_sl (s := o) ((hRa.row.cell 2).trans rfl) ?_
    refine Ld_int (n := (j : Int)) ((hRa.row.cell 5).trans rfl) ?_
    refine LoopT.mk (fun σ H' => ∃ (q : Nat) (o' m' : Sl) (ext : List (Sl × Int)) (F' : Nat → Prop) (μ' ν' : Nat → Int), σ = q ∧ j ≤ q ∧ q ≤ os.length ∧ Bk F' H' p l1 mk1 o' m' es' (os ++ ext) es'.length j μ' ν' ∧ ext.length + j = q ∧
        (∀ b, F' b ∨ RecB p (bkF l1 mk1 o' m' (es'.map (·.1)) (es'.map (·.2)) ((os ++ ext).map (·.1)) ((os ++ ext).map (·.2))) b → Φ b ∨ H.size ≤ b) ∧ Upd Φ H H') (fun σ _ => (os.length - σ).toNat)
      ⟨j, o, m, [], F1, μ1, ν, rfl, Nat.le_refl _, hj, by simpa using ⟨hRa, hIa, hB1.fg, fun b hb => by have := hB1.lt b hb; omega⟩, by simp, by simpa using hF1, hUa⟩ ?_
    clear hIa hRa hUa inΦ1 hB1 hF1 hU1 upa hl1
    rintro next3 _ H3 ⟨q, o1, m1, ext2, F3, μ3, ν3, rfl, hjq, hq, hB3, hel3, hF3, hU3⟩ hnext3
    have z3 := hU3.size
    refine Br_dec (fun hlt => ?_) fun hge => ?_
    · have hq1 : q < os.length := by omega
      have hq2 : q < (os ++ ext2).length := by simp; omega
      have eq1 : (os ++ ext2)[q] = os[q] := List.getElem_append_left hq1
      have hm1 := (hB3.rc.vs 3 (by simp)).len
      have ho1 := (hB3.rc.vs 2 (by simp)).len
      simp only [List.getElem_cons_zero, List.getElem_cons_succ, List.length_map, List.length_append] at hm1 ho1
      refine Ld_sl (s := o1) ((hB3.rc.row.cell 2).trans rfl) ?_
      have vo : RL slV H3 o1 ((os ++ ext2).map (·.1)) := (hB3.rc.vs 2 (by simp)).rl
      refine IxA_rl vo rfl (by simpa using hq2) fun a4 g4 => ?_
      rw [List.getElem_map, eq1] at g4
      refine Ld_sl (s := os[q].1) g4 ?_
      have hbq := hbj q hq1 hjq
      obtain ⟨c0, ⟨xs0, c1, c3⟩, c2⟩ := hB3.hi.b os[q] (List.mem_append_left _ (List.getElem_mem hq1))
      obtain ⟨mq, hmq⟩ : ∃ mq, mq = os[q].2 := ⟨_, rfl⟩
      rw [← hmq] at c2 c3
      refine LoopT.mk (fun σ H' => ∃ (c : Nat) (F2 : Nat → Prop) (μ2 ν2 : Nat → Int), σ.2 = c ∧ c ≤ 70 ∧ HI F2 H' es' ((os ++ ext2) ++ [(σ.1, mq)]) μ2 ν2 ∧ (∀ b, F2 b → F3 b ∨ H3.size ≤ b) ∧ (∀ b, F2 b → b < H'.size) ∧ σ.1.len = os[q].1.len + c ∧ Upd F3 H3 H') (fun σ _ => (70 - σ.2).toNat)
        ⟨0, F3, μ3, ν3, rfl, by omega, hB3.hi.addB c0 c1 c3 c2, fun b h => .inl h, hB3.lt, rfl, .refl _ _⟩ ?_
      rintro next4 ⟨g, _⟩ H4 ⟨c, F4, μ4, ν4, rfl, hc, hI4, hF4, hlt4, hgl, hU4⟩ hnext4
      dsimp only at hI4 hgl ⊢
      have hR4 := hB3.rc.upd hU4 fun b hb h => hB3.fg b h hb
      have z4 := hU4.size
      have hR4v : RI H4 m1 ((os ++ ext2).map (·.2)) := (hR4.vs 3 (by simp)).rl
      refine Br_dec (fun hltc => ?_) fun hgec => ?_
      · refine Ld_sl (s := m1) ((hR4.row.cell 3).trans rfl) ?_
        refine IxA_rl hR4v rfl (by simpa using hq2) fun a6 g6 => ?_
        rw [List.getElem_map, eq1, ← hmq] at g6
        refine Ld_int g6 ?_
        refine Nw_row (vs := ints [mq]) fun b4 H5 hb4 hE5 _ hr5 => ?_
        refine Nw_row (vs := [.slice (some (adr b4)) 1 1]) fun b5 H6 hb5 hE6 _ hr6 => ?_
        have z5 := hE5.size
        have z6 := hE6.size
        have hE56 := hE5.ext hE6
        have hb4F : ¬ F4 b4 := fun h => by have := hlt4 b4 h; omega
        have hI6 := (hI4.ext hE56).mark (c := b4) (m := mq) hb4F
        have hr5' := hE6.row hr5 fun h => h
        refine growB (x := ⟨some (adr b5), 1, 1⟩) (y := ⟨some (adr b4), 1, 1⟩) hI6 (fun b hb => ?_) (by omega) hr6.rd_all rfl ⟨rfl, ⟨rfl, .inr ⟨b4, [], rfl, by simpa using hr5', by simp⟩, Nat.le_refl _⟩, fun b hb => ?_⟩ fun g' H7 F7 ν7 hI7 hl7 hF7 hlt7 hU7 => ?_
        · rcases hb with h | h
          · have := hlt4 b h; omega
          · omega
        · cases hb; exact ⟨.inr rfl, if_pos rfl⟩
        rw [Lt_def, wrap_i64_id (by omega) (by omega)]
        refine hnext4 _ _ ⟨c + 1, F7, _, ν7, by dsimp only; omega, by omega, hI7, fun b hb => ?_, hlt7, by dsimp only; omega, (hU4.ext hE56).trans hU7 fun b hb h => ?_⟩ (by dsimp only; omega)
        · rcases hF7 b hb with (h | h) | h
          · exact hF4 b h
          · exact .inr (by omega)
          · exact .inr (by omega)
        · rcases h with h | h
          · rcases hF4 b h with h | h
            · exact h
            · omega
          · omega
      · have hc70 : c = 70 := by omega
        clear hnext4
        have hF4x : ∀ b, F4 b → ¬ RecB p (bkF l1 mk1 o1 m1 (es'.map (·.1)) (es'.map (·.2)) ((os ++ ext2).map (·.1)) ((os ++ ext2).map (·.2))) b := fun b hb hr => by
          rcases hF4 b hb with h | h
          · exact hB3.fg b h hr
          · have := hB3.rc.lt hr; omega
        refine Ld_sl (s := o1) ((hR4.row.cell 2).trans rfl) ?_
        refine Nw_row fun b2 H5 hb2 hE5 _ hr5 => ?_
        have z5 := hE5.size
        refine (hR4.ext hE5).app (q := 2) (by simp) (w := slV g) (x := ⟨some (adr b2), 1, 1⟩) hr5.rd_all rfl rfl (by omega) (by simp; omega) fun l2 H6 hP6 => ?_
        refine hP6.st fun H7 hR7 up7 => ?_
        have sub7 := fun b => hP6.sub (b := b)
        simp only [List.set_cons_zero, List.getElem_cons_zero, List.set_cons_succ, List.getElem_cons_succ] at hR7 up7 sub7
        have z7 := up7.size
        refine Ld_sl (s := m1) ((hR7.row.cell 3).trans rfl) ?_
        refine Ld_sl (s := m1) ((hR7.row.cell 3).trans rfl) ?_
        have hv7 : Vec H7 T_int m1 (ints ((os ++ ext2).map (·.2))) := hR7.vs 3 (by simp)
        refine IxA_vec hv7 (by omega) (by simp; omega) fun a11 g11 ⟨c11, hc11, ha11⟩ => ?_
        have e11 : (ints ((os ++ ext2).map (·.2)))[(q : Int).toNat]? = some (.int .i64 mq) := by
          rw [Int.toNat_natCast, List.getElem?_map, List.getElem?_map, List.getElem?_eq_getElem hq2, eq1, hmq]; rfl
        rw [e11] at g11
        refine Ld_int g11 ?_
        refine Nw_row fun b3 H8 hb3 hE8 _ hr8 => ?_
        have z8 := hE8.size
        have hR8 := hR7.ext hE8
        refine Stab_2 ((hR8.row.cell 3).trans rfl) ((hR8.row.cell 3).trans rfl) ?_
        refine hR8.app (q := 3) (by simp) (w := .int .i64 mq) (x := ⟨some (adr b3), 1, 1⟩) hr8.rd_all rfl rfl (by omega) (by simp; omega) fun l3 H9 hP9 => ?_
        have hold : Vec H9 T_int m1 (ints ((os ++ ext2).map (·.2))) := hP9.old
        have g9 : hcell H9 a11 = some (.int .i64 mq) := by
          obtain ⟨c, h1, h2⟩ := hold.cell (i := (q : Int).toNat) (by simp; omega)
          rw [hc11] at h1; cases h1
          rw [ha11, h2]; exact e11
        refine Stab_2 g9 ((hP9.cell 3).trans rfl) ?_
        refine hP9.st fun H10 hR10 up10 => ?_
        have sub10 := fun b => hP9.sub (b := b)
        simp only [List.set_cons_zero, List.getElem_cons_zero, List.set_cons_succ, List.getElem_cons_succ] at hR10 up10 sub10
        have z10 := up10.size
        rw [Lt_def, wrap_i64_id (by omega) (by omega)]
        have r7 : ∀ b, (b = p ∨ o1.a = some (adr b)) → RecB p (bkF l1 mk1 o1 m1 (es'.map (·.1)) (es'.map (·.2)) ((os ++ ext2).map (·.1)) ((os ++ ext2).map (·.2))) b := fun b e => e.imp id fun e => ⟨2, by simp, e⟩
        have r10 : ∀ b, (b = p ∨ m1.a = some (adr b)) → RecB p (bkF l1 mk1 o1 m1 (es'.map (·.1)) (es'.map (·.2)) ((os ++ ext2).map (·.1)) ((os ++ ext2).map (·.2))) b := fun b e => e.imp id fun e => ⟨3, by simp, e⟩
        have hI10 := ((((hI4.ext hE5).upd up7 fun b hb e => hF4x b hb (r7 b e)).ext hE8).upd up10 fun b hb e => hF4x b hb (r10 b e))
        have inΦ : ∀ b, F3 b ∨ RecB p (bkF l1 mk1 o1 m1 (es'.map (·.1)) (es'.map (·.2)) ((os ++ ext2).map (·.1)) ((os ++ ext2).map (·.2))) b → b < H.size → Φ b := fun b h hb => (hF3 b h).resolve_right (by omega)
        have U10 : Upd (fun b => F3 b ∨ RecB p (bkF l1 mk1 o1 m1 (es'.map (·.1)) (es'.map (·.2)) ((os ++ ext2).map (·.1)) ((os ++ ext2).map (·.2))) b) H3 H10 :=
          (((hU4.mono fun _ _ h => .inl h).ext hE5).trans up7 fun b _ e => .inr (r7 b e)) |>.ext hE8 |>.trans up10 fun b _ e => .inr (r10 b e)
        have hfin : ∀ b, RecB p (bkF l1 mk1 l2 l3 (es'.map (·.1)) (es'.map (·.2)) ((os ++ (ext2 ++ [(g, mq)])).map (·.1)) ((os ++ (ext2 ++ [(g, mq)])).map (·.2))) b → RecB p (bkF l1 mk1 o1 m1 (es'.map (·.1)) (es'.map (·.2)) ((os ++ ext2).map (·.1)) ((os ++ ext2).map (·.2))) b ∨ H4.size ≤ b := fun b hr => by
          rw [← List.append_assoc, bkF_b] at hr
          rcases sub10 b hr with h | h
          · rcases sub7 b h with h | h
            · exact .inl h
            · exact .inr (by omega)
          · exact .inr (by omega)
        refine hnext3 _ _ ⟨q + 1, l2, l3, ext2 ++ [(g, mq)], F4, μ4, ν4, by omega, by omega, by omega, ⟨?_, ?_, fun b hb hr => ?_, fun b hb => ?_⟩, by simp; omega, fun b hb => ?_, hU3.trans U10 fun b hb h => inΦ b h hb⟩ (by omega)
        · rw [← List.append_assoc, bkF_b]; exact hR10
        · rw [← List.append_assoc]; exact hI10
        · rcases hfin b hr with h | h
          · exact hF4x b hb h
          · have := hlt4 b hb; omega
        · have := hlt4 b hb; omega
        · rcases hb with hb | hb
          · rcases hF4 b hb with h | h
            · exact hF3 b (.inl h)
            · exact .inr (by omega)
          · rcases hfin b hb with h | h
            · exact hF3 b (.inr h)
            · exact .inr (by omega)
    · have hqn : q = os.length := by omega
      subst hqn
      have ho1 := (hB3.rc.vs 2 (by simp)).len
      simp only [List.getElem_cons_zero, List.getElem_cons_succ, List.length_map] at ho1
      refine Ld_sl (s := o1) ((hB3.rc.row.cell 2).trans rfl) ?_
      refine hB3.rc.stTl (q := 1) (by simp) fun Hb hRb upb => ?_
      rw [List.set_cons_succ, List.set_cons_zero, ho1] at hRb
      have zb := upb.size
      have hol' : (os ++ ext2).length = 2 * os.length - j := by rw [List.length_append]; omega
      refine hk Hb ⟨F3, l1, mk1, o1, m1, es', os ++ ext2, es'.length, (os ++ ext2).length, μ3, ν3, ⟨hRb, hB3.hi.upd upb fun b hb e => hB3.fg b hb (.inl e), hB3.fg, fun b hb => by have := hB3.lt b hb; omega⟩, hF3, Nat.le_refl _, Nat.le_refl _, by omega, by omega, fun q h h' => by omega, fun q h h' => by omega⟩ (hU3.trans upb fun b hb e => (hF3 b (.inr (.inl e))).resolve_right (by omega))
end Go.Proofs.Ytpkpebgpiakbeaa
