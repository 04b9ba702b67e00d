/-
  The law's book: lists in a list; growing; looking.
-/
import Derived.Test.YtpkpebgpiakbeaaPlanX
namespace Go.Proofs.Ytpkpebgpiakbeaa
set_option linter.unusedVariables false
set_option linter.unusedSimpArgs false
open Go.Proofs.Ytpkpebgpiakbeaa.Hc Go.Proofs.Ytpkpebgpiakbeaa.Hc.Plan
set_option maxRecDepth 100000
variable {F : Nat → Prop} {H H' : Heap} {μ ν : Nat → Int} {Φ : Nat → Prop} {N p : Nat}

theorem s_keeps {lo : Nat} {s : Sl} {ts : List Sl} {xss : List (List Int)} (hB : BkP Φ N H p) (hN : N ≤ 2 ^ 20) (hL : LL lo H s ts xss) (hxl : ∀ xs ∈ xss, xs.length ≤ 2000) (hn : xss.length ≤ 1000)
    (hs : ∀ b, s.a = some (adr b) → ¬ Φ b) (ht : ∀ i (h : i < ts.length) b, ts[i].a = some (adr b) → ¬ Φ b) {k : Unit → Heap → Prop}
    (hk : ∀ H', BkP (fun b => Φ b ∨ (s.a = some (adr b) ∨ ∃ i, ∃ h : i < ts.length, ts[i].a = some (adr b)) ∨ H.size ≤ b) (N + 2 * ts.length + 2) H' p → Upd (fun b => Φ b ∨ s.a = some (adr b) ∨ ∃ i, ∃ h : i < ts.length, ts[i].a = some (adr b)) H H' → k () H') :
    CallT Pg f_hindcastlaw18_Book_keeps [.pointer (some (adr p)), .slice s.a s.len s.cap] (.tup []) H k := by
  apply c_hindcastlaw18_Book_keeps
  unfold v_hindcastlaw18_Book_keeps
  have hsl := hL.v.len
  have htl := hL.len
  simp only [List.length_map] at hsl
  refine LoopT.mk (fun σ H' => ∃ i : Nat, σ = i ∧ i ≤ ts.length ∧ BkP (fun b => Φ b ∨ (∃ j, ∃ h : j < ts.length, j < i ∧ ts[j].a = some (adr b)) ∨ H.size ≤ b) (N + 2 * i) H' p ∧ Vec H' T_Sl_int s (ts.map slV) ∧ (∀ j (h : j < ts.length), i ≤ j → Vec H' T_int ts[j] (ints (xss.getD j []))) ∧
      Upd (fun b => Φ b ∨ s.a = some (adr b) ∨ ∃ i, ∃ h : i < ts.length, ts[i].a = some (adr b)) H H') (fun σ _ => (ts.length - σ).toNat)
    ⟨0, rfl, by omega, hB.mono (fun _ h => .inl h) (by omega), hL.v, fun j h _ => hL.it j h, .refl _ _⟩ ?_
  rintro next1 _ H1 ⟨i, rfl, hi, hB1, hv1, hit1, hU1⟩ hnext1
  refine Br_dec (fun hlt => ?_) fun hge => ?_
  · have hi1 : i < ts.length := by omega
    refine IxA_rl (f := slV) (xs := ts) hv1.rl rfl hi1 fun a1 g1 => ?_
    refine Ld_sl (s := ts[i]) g1 ?_
    have hm : xss.getD i [] ∈ xss := by rw [List.getD_eq_getElem?_getD, List.getElem?_eq_getElem (by omega)]; exact List.getElem_mem _
    have hlt0 : ∀ j (h : j < ts.length) b, ts[j].a = some (adr b) → b < H.size := fun j h b hb => (hL.it j h).lt hb
    refine s_keep hB1 (by omega) (hit1 i hi1 (Nat.le_refl _)) (hxl _ hm) (fun b hb hc => ?_) fun H2 hB2 hU2 => ?_
    · rcases hc with hc | ⟨j, hj, hji, hc⟩ | hc
      · exact ht i hi1 b hb hc
      · exact hL.ap i j hi1 hj (by omega) b hb hc
      · have := hlt0 i hi1 b hb; omega
    · rw [Lt_def, wrap_i64_id (by omega) (by omega)]
      have z1 := hU1.size
      have hs0 : ∀ b, s.a = some (adr b) → b < H.size := fun b hb => hL.v.lt hb
      refine hnext1 _ _ ⟨i + 1, by omega, by omega, hB2.mono (fun b h => ?_) (by omega), hv1.upd hU2 fun b hb hc => ?_, fun j hj hji => (hit1 j hj (by omega)).upd hU2 fun b hb hc => ?_, hU1.trans hU2 fun b hb hc => ?_⟩ (by omega)
      · rcases h with (h | ⟨j, hj, hji, h⟩ | h) | h | h
        · exact .inl h
        · exact .inr (.inl ⟨j, hj, by omega, h⟩)
        · exact .inr (.inr h)
        · exact .inr (.inl ⟨i, hi1, by omega, h⟩)
        · exact .inr (.inr (by omega))
      · rcases hc with (h | ⟨j, hj, hji, h⟩ | h) | h
        · exact hs b hb h
        · exact hL.v.apV (hL.it j hj) (by decide) hb h
        · have := hs0 b hb; omega
        · exact hL.v.apV (hL.it i hi1) (by decide) hb h
      · rcases hc with (h | ⟨q, hq, hqi, h⟩ | h) | h
        · exact ht j hj b hb h
        · exact hL.ap j q hj hq (by omega) b hb h
        · have := hlt0 j hj b hb; omega
        · exact hL.ap j i hj hi1 (by omega) b hb h
      · rcases hc with (h | ⟨j, hj, hji, h⟩ | h) | h
        · exact .inl h
        · exact .inr (.inr ⟨j, hj, h⟩)
        · omega
        · exact .inr (.inr ⟨i, hi1, h⟩)
  · have hin : i = ts.length := by omega
    subst hin
    clear hnext1 hit1
    have z1 := hU1.size
    have hs0 : ∀ b, s.a = some (adr b) → b < H.size := fun b hb => hL.v.lt hb
    have hsn : ∀ b, s.a = some (adr b) → ¬ (Φ b ∨ (∃ j, ∃ h : j < ts.length, j < ts.length ∧ ts[j].a = some (adr b)) ∨ H.size ≤ b) := fun b hb hc => by
      rcases hc with h | ⟨j, hj, _, h⟩ | h
      · exact hs b hb h
      · exact hL.v.apV (hL.it j hj) (by decide) hb h
      · have := hs0 b hb; omega
    obtain ⟨Φ1, hΦ1⟩ : ∃ Φ1 : Nat → Prop, Φ1 = (fun b => Φ b ∨ (∃ j, ∃ h : j < ts.length, j < ts.length ∧ ts[j].a = some (adr b)) ∨ H.size ≤ b) := ⟨_, rfl⟩
    rw [← hΦ1] at hB1
    have hsn : ∀ b, s.a = some (adr b) → ¬ Φ1 b := fun b hb h => hsn b hb (by rw [hΦ1] at h; exact h)
    have hΦ1' : ∀ b, Φ1 b → b < H.size → Φ b ∨ s.a = some (adr b) ∨ ∃ i, ∃ h : i < ts.length, ts[i].a = some (adr b) := fun b h hb => by
      rw [hΦ1] at h
      rcases h with h | ⟨j, hj, _, h⟩ | h
      · exact .inl h
      · exact .inr (.inr ⟨j, hj, h⟩)
      · omega
    have hΦ1'' : ∀ b, Φ1 b → Φ b ∨ (s.a = some (adr b) ∨ ∃ i, ∃ h : i < ts.length, ts[i].a = some (adr b)) ∨ H.size ≤ b := fun b h => by
      rw [hΦ1] at h
      rcases h with h | ⟨j, hj, _, h⟩ | h
      · exact .inl h
      · exact .inr (.inl (.inr ⟨j, hj, h⟩))
      · exact .inr (.inr h)
    obtain ⟨F, l, mk, o, m, es, os, i, j, μ, ν, hB, hF, hi', hj, hN1, hN2, hbi, hbj⟩ := hB1
    have hol := (hB.rc.vs 2 (by simp)).len
    simp only [List.getElem_cons_zero, List.getElem_cons_succ, List.length_map] at hol
    simp only [NilCk_some, adr_add]
    refine Ld_sl (s := o) ((hB.rc.row.cell 2).trans rfl) ?_
    rw [Lt_def, wrap_i64_id (by omega) (by omega)]
    obtain ⟨mm, hmm⟩ : ∃ mm : Int, mm = -1000000 - (o.len : Int) := ⟨_, rfl⟩
    rw [← hmm]
    refine Nw_row (vs := ints [mm]) fun b1 H3 hb1 hE3 _ hr3 => ?_
    have z3 := hE3.size
    obtain ⟨row, hrow⟩ : ∃ row : Sl, row = ⟨some (adr b1), 1, 1⟩ := ⟨_, rfl⟩
    have hrv : Vec H3 T_int row (ints [mm]) := by rw [hrow]; exact ⟨rfl, .inr ⟨b1, [], rfl, by simpa using hr3, by simp⟩, Nat.le_refl _⟩
    refine LoopT.mk (fun σ H' => ∃ q : Nat, σ = q ∧ q ≤ ts.length ∧ Upd (fun b => s.a = some (adr b)) H3 H' ∧ Vec H' T_Sl_int s ((List.replicate q row ++ ts.drop q).map slV)) (fun σ _ => (ts.length - σ).toNat) ⟨0, rfl, by omega, .refl _ _, by simpa using hv1.ext hE3⟩ ?_
    rintro next2 _ H4 ⟨q, rfl, hq, hU4, hv4⟩ hnext2
    refine Br_dec (fun hlt => ?_) fun hge2 => ?_
    · have hq1 : q < ts.length := by omega
      refine IxA_St_vec' hv4 (j := q) rfl (by simp; omega) fun H5 hv5 hU5 _ => ?_
      rw [Lt_def, wrap_i64_id (by omega) (by omega)]
      have e : (List.replicate q row ++ ts.drop q).set q row = List.replicate (q + 1) row ++ ts.drop (q + 1) := by
        rw [List.drop_eq_getElem_cons hq1]
        have := set_mid' (List.replicate q row) (ts.drop (q + 1)) ts[q] row
        rw [List.length_replicate] at this
        rw [this, List.replicate_succ', List.append_assoc]; rfl
      rw [show Value.slice (some (adr b1)) 1 1 = slV row by rw [hrow], ← List.map_set, e] at hv5
      exact hnext2 _ _ ⟨q + 1, by omega, by omega, hU4.trans hU5 fun _ _ h => h, hv5⟩ (by omega)
    · have hqn : q = ts.length := by omega
      subst hqn
      clear hnext2
      rw [List.drop_eq_nil_of_le (Nat.le_refl _), List.append_nil] at hv4
      have notF : ∀ b, F b → ¬ (s.a = some (adr b)) := fun b hb e => hsn b e (hF b (.inl hb))
      have notR : ∀ b, RecB p (bkF l mk o m (es.map (·.1)) (es.map (·.2)) (os.map (·.1)) (os.map (·.2))) b → ¬ (s.a = some (adr b)) := fun b hb e => hsn b e (hF b (.inr hb))
      have hR4 := (hB.rc.ext hE3).upd hU4 notR
      have hI4 := (hB.hi.ext hE3).upd hU4 notF
      have z4 := hU4.size
      have hrv4 : Vec H4 T_int row (ints [mm]) := hrv.upd hU4 fun b hb e => by
        rw [hrow] at hb; cases hb; have := hs0 b1 e; omega
      have hb1F : ¬ F b1 := fun h => by have := hB.lt b1 h; omega
      have hI4' := hI4.mark (c := b1) (m := mm) hb1F
      obtain ⟨F1, ν1, hI5, hF1⟩ : ∃ F1 ν1, HI F1 H4 es (os ++ [(s, mm)]) (fun b => if b = b1 then mm else μ b) ν1 ∧ ∀ b, F1 b → F b ∨ b = b1 ∨ s.a = some (adr b) := by
        have hxs : ∀ x ∈ List.replicate ts.length row, x.len = 1 ∧ Vec H4 T_int x (ints [mm]) ∧ ∀ b, x.a = some (adr b) → (F b ∨ b = b1) ∧ (if b = b1 then mm else μ b) = mm := fun x hx => by
          rw [List.eq_of_mem_replicate hx]
          refine ⟨by rw [hrow], hrv4, fun b hb => ?_⟩
          rw [hrow] at hb; cases hb
          exact ⟨.inr rfl, if_pos rfl⟩
        rcases hv4.own with ⟨h1, _⟩ | ⟨c, sp, h1, _⟩
        · exact ⟨_, ν, hI4'.addB (by omega) hv4 hxs (fun b hb => by rw [h1] at hb; cases hb), fun b hb => hb.elim .inl fun h => .inr (.inl h)⟩
        · have hcF : ¬ (F c ∨ c = b1) := fun h => by
            rcases h with h | h
            · exact notF c h h1
            · have := hs0 c h1; omega
          refine ⟨_, _, (hI4'.markN (c := c) (m := mm) hcF).addB (by omega) hv4 (fun x hx => let ⟨a1, a2, a3⟩ := hxs x hx; ⟨a1, a2, fun b hb => ⟨.inl (a3 b hb).1, (a3 b hb).2⟩⟩) (fun b hb => ?_), fun b hb => ?_⟩
          · rw [h1] at hb; cases hb
            exact ⟨.inr rfl, if_pos rfl⟩
          · rcases hb with (hb | hb) | rfl
            · exact .inl hb
            · exact .inr (.inl hb)
            · exact .inr (.inr h1)
      have hF1x : ∀ b, F1 b → ¬ RecB p (bkF l mk o m (es.map (·.1)) (es.map (·.2)) (os.map (·.1)) (os.map (·.2))) b := fun b hb hr => by
        rcases hF1 b hb with h | h | h
        · exact hB.fg b h hr
        · have := hB.rc.lt hr; omega
        · exact notR b hr h
      have hF1lt : ∀ b, F1 b → b < H4.size := fun b hb => by
        rcases hF1 b hb with h | h | h
        · have := hB.lt b h; omega
        · omega
        · exact hv4.lt h
      refine Ld_sl (s := o) ((hR4.row.cell 2).trans rfl) ?_
      refine Nw_row fun b2 H6 hb2 hE6 _ hr6 => ?_
      have z6 := hE6.size
      refine (hR4.ext hE6).app (q := 2) (by simp) (w := slV s) (x := ⟨some (adr b2), 1, 1⟩) hr6.rd_all rfl rfl (by omega) (by simp; omega) fun l1 H7 hP7 => ?_
      refine hP7.st fun H8 hR8 up8 => ?_
      have sub8 := fun b => hP7.sub (b := b)
      simp only [List.set_cons_zero, List.getElem_cons_zero, List.set_cons_succ, List.getElem_cons_succ] at hR8 up8 sub8
      have hml := (hR8.vs 3 (by simp)).len
      simp only [List.getElem_cons_succ, List.getElem_cons_zero, List.length_map] at hml
      refine Ld_sl (s := m) ((hR8.row.cell 3).trans rfl) ?_
      refine Nw_row fun b3 H9 hb3 hE9 _ hr9 => ?_
      have z8 := up8.size
      have z9 := hE9.size
      refine (hR8.ext hE9).app (q := 3) (by simp) (w := .int .i64 mm) (x := ⟨some (adr b3), 1, 1⟩) hr9.rd_all rfl rfl (by omega) (by simp; omega) fun l2 H10 hP10 => ?_
      refine hP10.st fun H11 hR11 up11 => ?_
      have sub11 := fun b => hP10.sub (b := b)
      simp only [List.set_cons_zero, List.getElem_cons_zero, List.set_cons_succ, List.getElem_cons_succ] at hR11 up11 sub11
      have r8 : ∀ b, (b = p ∨ o.a = some (adr b)) → RecB p (bkF l mk o m (es.map (·.1)) (es.map (·.2)) (os.map (·.1)) (os.map (·.2))) b := fun b e => e.imp id fun e => ⟨2, by simp, e⟩
      have r11 : ∀ b, (b = p ∨ m.a = some (adr b)) → RecB p (bkF l mk o m (es.map (·.1)) (es.map (·.2)) (os.map (·.1)) (os.map (·.2))) b := fun b e => e.imp id fun e => ⟨3, by simp, e⟩
      have hI11 := ((((hI5.ext hE6).upd up8 fun b hb e => hF1x b hb (r8 b e)).ext hE9).upd up11 fun b hb e => hF1x b hb (r11 b e))
      have z11 := up11.size
      have U2 : Upd (fun b => RecB p (bkF l mk o m (es.map (·.1)) (es.map (·.2)) (os.map (·.1)) (os.map (·.2))) b ∨ s.a = some (adr b)) H1 H11 := by
        refine ((((hE3.mono fun _ _ h => h.elim).trans hU4 fun b _ e => .inr e).ext hE6).trans up8 fun b _ e => .inl (r8 b e)) |>.ext hE9 |>.trans up11 fun b _ e => .inl (r11 b e)
      refine hk H11 ⟨F1, l, mk, l1, l2, es, os ++ [(s, mm)], i, j, _, ν1, ⟨?_, hI11, fun b hb hr => ?_, fun b hb => by have := hF1lt b hb; omega⟩, fun b hb => ?_, hi', ?_, by omega, ?_, hbi, fun q hq hiq => ?_⟩ (hU1.trans U2 fun b hb e => ?_)
      · rw [bkF_b]; exact hR11
      · rw [bkF_b] at hr
        have hblt := hF1lt b hb
        rcases sub11 b hr with h | h
        · rcases sub8 b h with h | h
          · exact hF1x b hb h
          · omega
        · omega
      · rcases hb with hb | hb
        · rcases hF1 b hb with h | h | h
          · exact hΦ1'' b (hF b (.inl h))
          · exact .inr (.inr (by omega))
          · exact .inr (.inl (.inl h))
        · rw [bkF_b] at hb
          rcases sub11 b hb with h | h
          · rcases sub8 b h with h | h
            · exact hΦ1'' b (hF b (.inr h))
            · exact .inr (.inr (by omega))
          · exact .inr (.inr (by omega))
      · simp only [List.length_append, List.length_singleton]; omega
      · simp only [List.length_append, List.length_singleton]; omega
      · rcases Nat.lt_or_ge q os.length with e | e
        · rw [List.getElem_append_left e]; exact hbj q e hiq
        · rw [List.getElem_append_right e]
          have : q - os.length = 0 := by simp at hq; omega
          simp only [this, List.getElem_cons_zero]; omega
      · rcases e with e | e
        · exact hΦ1' b (hF b (.inr e)) hb
        · exact .inr (.inl e)

theorem s_looks (hB : BkP Φ N H p) (hN : N ≤ 2 ^ 30) {k : Bool → Heap → Prop} (hk : k true H) : CallT Pg f_hindcastlaw18_Book_looks [.pointer (some (adr p))] (.one (.c .bool)) H k := by
  apply c_hindcastlaw18_Book_looks
  unfold v_hindcastlaw18_Book_looks
  obtain ⟨F, l, mk, o, m, es, os, i, j, μ, ν, hB, hF, hi, hj, hN1, hN2, hbi, hbj⟩ := hB
  have hll := (hB.rc.vs 0 (by simp)).len
  have hol := (hB.rc.vs 2 (by simp)).len
  have vl : RL slV H l (es.map (·.1)) := (hB.rc.vs 0 (by simp)).rl
  have vk : RI H mk (es.map (·.2)) := (hB.rc.vs 1 (by simp)).rl
  have vo : RL slV H o (os.map (·.1)) := (hB.rc.vs 2 (by simp)).rl
  have vm : RI H m (os.map (·.2)) := (hB.rc.vs 3 (by simp)).rl
  simp only [List.getElem_cons_zero, List.getElem_cons_succ, List.length_map] at hll hol
  simp only [NilCk_some, adr_add]
  have rd0 : ∀ {K : Sl → Prop}, K l → Ld .sl (adr p) H K := fun hk => Ld_sl (s := l) ((hB.rc.row.cell 0).trans rfl) hk
  have rd1 : ∀ {K : Sl → Prop}, K mk → Ld .sl ⟨p, 1, none⟩ H K := fun hk => Ld_sl (s := mk) ((hB.rc.row.cell 1).trans rfl) hk
  have rd2 : ∀ {K : Sl → Prop}, K o → Ld .sl ⟨p, 2, none⟩ H K := fun hk => Ld_sl (s := o) ((hB.rc.row.cell 2).trans rfl) hk
  have rd3 : ∀ {K : Sl → Prop}, K m → Ld .sl ⟨p, 3, none⟩ H K := fun hk => Ld_sl (s := m) ((hB.rc.row.cell 3).trans rfl) hk
  refine LoopT.mk (fun σ H' => H = H' ∧ ∃ q : Nat, σ = q ∧ q ≤ es.length) (fun σ _ => (es.length - σ).toNat) ⟨rfl, 0, rfl, by omega⟩ ?_
  rintro next1 _ _ ⟨rfl, q, rfl, hq⟩ hnext1
  refine rd0 ?_
  refine Br_dec (fun hlt => ?_) fun hge => ?_
  · have hq1 : q < es.length := by omega
    obtain ⟨h0, h1, h2⟩ := hB.hi.a es[q] (List.getElem_mem hq1)
    have ixl : ∀ {K : Sl → Prop}, K es[q].1 → IxA 1 l (q : Int) fun a => Ld .sl a H K := fun hk => IxA_rl vl rfl (by simpa using hq1) fun a g => Ld_sl (by simpa using g) hk
    refine LoopT.mk (fun σ H' => H = H' ∧ ∃ c : Nat, σ = c ∧ c ≤ es[q].1.len) (fun σ _ => (es[q].1.len - σ).toNat) ⟨rfl, 0, rfl, by omega⟩ ?_
    rintro next2 _ _ ⟨rfl, c, rfl, hc⟩ hnext2
    refine rd0 (ixl ?_)
    refine Br_dec (fun hltc => ?_) fun hgec => ?_
    · refine rd0 (ixl ?_)
      refine IxA_rl (f := Value.int .i64) (xs := List.replicate es[q].1.len es[q].2) h1.rl (j := c) rfl (by simp; omega) fun a6 g6 => ?_
      refine Ld_int g6 ?_
      refine rd1 ?_
      refine IxA_rl vk rfl (by simpa using hq1) fun a8 g8 => ?_
      refine Ld_int g8 ?_
      rw [List.getElem_replicate, List.getElem_map, bne_self_eq_false, Br_false, Lt_def, wrap_i64_id (by omega) (by omega)]
      exact hnext2 _ _ ⟨rfl, c + 1, by omega, by omega⟩ (by omega)
    · rw [Lt_def, wrap_i64_id (by omega) (by omega)]
      exact hnext1 _ _ ⟨rfl, q + 1, by omega, by omega⟩ (by omega)
  · clear hnext1
    refine LoopT.mk (fun σ H' => H = H' ∧ ∃ q : Nat, σ = q ∧ q ≤ os.length) (fun σ _ => (os.length - σ).toNat) ⟨rfl, 0, rfl, by omega⟩ ?_
    rintro next3 _ _ ⟨rfl, q, rfl, hq⟩ hnext3
    refine rd2 ?_
    refine Br_dec (fun hlt => ?_) fun hge => hk
    have hq1 : q < os.length := by omega
    obtain ⟨h0, ⟨xs, h1, h3⟩, h2⟩ := hB.hi.b os[q] (List.getElem_mem hq1)
    have hxl := h1.len
    simp only [List.length_map] at hxl
    have ixl : ∀ {K : Sl → Prop}, K os[q].1 → IxA 1 o (q : Int) fun a => Ld .sl a H K := fun hk => IxA_rl vo rfl (by simpa using hq1) fun a g => Ld_sl (by simpa using g) hk
    refine LoopT.mk (fun σ H' => H = H' ∧ ∃ c : Nat, σ = c ∧ c ≤ os[q].1.len) (fun σ _ => (os[q].1.len - σ).toNat) ⟨rfl, 0, rfl, by omega⟩ ?_
    rintro next4 _ _ ⟨rfl, c, rfl, hc⟩ hnext4
    refine rd2 (ixl ?_)
    refine Br_dec (fun hltc => ?_) fun hgec => ?_
    · have hc1 : c < xs.length := by omega
      obtain ⟨a1, a2, a3⟩ := h3 xs[c] (List.getElem_mem hc1)
      have ixx : ∀ {K : Sl → Prop}, K xs[c] → IxA 1 os[q].1 (c : Int) fun a => Ld .sl a H K := fun hk => IxA_rl (f := slV) (xs := xs) h1.rl rfl hc1 fun a g => Ld_sl g hk
      refine Jn.mk (fun b H' => b = false ∧ H = H') (fun kk hkk => ?_) ?_
      · refine rd2 (ixl (ixx ?_))
        rw [a1, show (((1 : Nat) : Int) != 1) = false from rfl, Br_false]
        refine rd2 (ixl (ixx ?_))
        refine IxA_rl (f := Value.int .i64) (xs := [os[q].2]) a2.rl (j := 0) rfl (by simp) fun a18 g18 => ?_
        refine Ld_int g18 ?_
        refine rd3 ?_
        refine IxA_rl vm rfl (by simpa using hq1) fun a20 g20 => ?_
        refine Ld_int g20 ?_
        rw [List.getElem_map, List.getElem_cons_zero, bne_self_eq_false]
        exact hkk _ _ ⟨rfl, rfl⟩
      rintro _ _ ⟨rfl, rfl⟩
      rw [Br_false, Lt_def, wrap_i64_id (by omega) (by omega)]
      exact hnext4 _ _ ⟨rfl, c + 1, by omega, by omega⟩ (by omega)
    · rw [Lt_def, wrap_i64_id (by omega) (by omega)]
      exact hnext3 _ _ ⟨rfl, q + 1, by omega, by omega⟩ (by omega)
end Go.Proofs.Ytpkpebgpiakbeaa
