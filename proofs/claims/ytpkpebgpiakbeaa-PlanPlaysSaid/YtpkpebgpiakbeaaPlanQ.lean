/-
  PlanLegal: the stages, and whatever is picked.
-/
import Derived.Test.YtpkpebgpiakbeaaPlanP
namespace Go.Proofs.Ytpkpebgpiakbeaa
set_option linter.unusedVariables false
set_option linter.unusedSimpArgs false
open Go.Proofs.Ytpkpebgpiakbeaa.Hc Go.Proofs.Ytpkpebgpiakbeaa.Hc.Plan
set_option maxRecDepth 100000

/-- What is known of the stage list 'at': whoever has been looked at stands there. -/
def AtOk (l : List PSys) (at_ : List Int) (s : Nat) (seen : List Int) : Prop := at_.length = l.length ∧ ∀ m, m < l.length → (stg l m < s ∨ (m : Int) ∈ seen) → at_.getD m 0 = (stg l m : Int)

theorem s_PlanLegal {s t : Sl} {L : List PSys} {rs : List Int} {H : Heap} (hs : LawL H s L) (ht : RI H t rs) (hrl : rs.length ≤ 2 ^ 60) (hri : ∀ x ∈ rs, I64 x) {k : Bool → Heap → Prop} (hk : ∀ H', Ext H H' → k true H') :
    CallT Pg f_hindcastlaw18_PlanLegal [.slice s.a s.len s.cap, .slice t.a t.len t.cap] (.one (.c .bool)) H k := by
  apply c_hindcastlaw18_PlanLegal
  unfold v_hindcastlaw18_PlanLegal
  have hsl := hs.1
  have hn : (cutL L).length ≤ 200 := by rw [cutL_len]; exact Nat.min_le_left _ _
  have hcut : (if (200 : Int) < (s.len : Int) then (200 : Int) else (s.len : Int)) = ((cutL L).length : Int) := by
    have h1 : Nat.min 200 L.length = if 200 ≤ L.length then 200 else L.length := Nat.min_def
    rw [cutL_len, h1]; split <;> split <;> omega
  simp only [hcut]
  refine s_shown18 fun H1 hE1 => ?_
  refine s_made18 hs hE1 fun p H2 hp2 hp hE2 => ?_
  have hE2' := hE1.ext hE2
  refine Jn_in ?_
  simp only [Bool.not_true, Br_false, Option.isNone_some]
  generalize hl : cutL L = l at *
  refine s_Stages hp2 (by omega) fun so ts H4 hL4 hE4 => ?_
  have hp4 := hp2.ext hE4
  have hE4' := hE2'.ext hE4
  refine Mks_row (by omega) (by omega) (by omega) fun ba H5 hba hE5 _ hr5 => ?_
  rw [Int.toNat_natCast] at hr5 ⊢
  have stl : (stagesF l).length = cnt l l.length := by simp [stagesF]
  have cb : cnt l l.length ≤ l.length := cnt_bd l (Nat.le_refl _)
  have htl := hL4.len
  have hsol := hL4.v.len
  simp only [List.length_map] at hsol
  have z4 := hE4'.size
  have z5 := hE5.size
  have hS : ∀ d, d < ts.length → (stagesF l).getD d [] = ofS l l.length d := fun d hd => by
    rw [List.getD_eq_getElem?_getD, stagesF, List.getElem?_map, List.getElem?_range (by omega)]; rfl
  have ofl : ∀ d, (ofS l l.length d).length ≤ 200 := fun d => by
    unfold ofS; rw [List.length_map]; exact Nat.le_trans (List.length_filter_le _ _) (by simp; omega)
  refine LoopT.mk (fun σ H' => ∃ (d : Nat) (at_ : List Int), σ.2 = d ∧ d ≤ ts.length ∧ σ.1 = (upto l d : Int) ∧ Ext H4 H' ∧ Row H' ba T_int (ints at_) ∧ AtOk l at_ d []) (fun σ _ => (ts.length - σ.2).toNat)
    ⟨0, List.replicate l.length 0, rfl, by omega, by simp [upto], hE5, by simpa [ints] using hr5, by simp, fun m hm h => by rcases h with h | h; omega; cases h⟩ ?_
  rintro next1 ⟨_, _⟩ H6 ⟨d, at6, rfl, hd, rfl, hE6, hr6, hat6⟩ hnext1
  dsimp only
  refine Br_dec (fun hlt => ?_) fun hge => ?_
  · have hd1 : d < ts.length := by omega
    have hSd := hS d hd1
    have hup := upto_succ l (d := d) (by omega)
    have hupl := upto_le l (d + 1)
    rw [hSd] at hup
    have rdS : ∀ {H' : Heap} {k : Sl → Prop}, Ext H4 H' → (RI H' ts[d] (ofS l l.length d) → k ts[d]) → IxA 1 so (d : Int) fun a => Ld .sl a H' k := fun {H' k} hE hk => by
      refine IxA_vec (hL4.v.upd hE fun _ _ h => h) (by omega) (by simp; omega) fun a1 h1 _ => ?_
      rw [Int.toNat_natCast, List.getElem?_map, List.getElem?_eq_getElem hd1] at h1
      refine Ld_sl (s := ts[d]) h1 ?_
      have := (hL4.it d hd1).upd hE fun _ _ h => h
      rw [hSd] at this
      exact hk this.rl
    have hofl := ofl d
    obtain ⟨S, hSdef⟩ : ∃ S, S = ofS l l.length d := ⟨_, rfl⟩
    rw [← hSdef] at hup rdS hofl
    have hSmem : ∀ x ∈ S, ∃ m : Nat, m < l.length ∧ stg l m = d ∧ x = (m : Int) := fun x hx => mem_ofS.1 (hSdef ▸ hx)
    have hSlt : S.Pairwise (· < ·) := by rw [hSdef]; exact sorted_ofS l _ _
    refine LoopT.mk (fun σ H' => ∃ (i : Nat) (at_ : List Int), σ.2 = i ∧ i ≤ S.length ∧ σ.1 = ((upto l d + i : Nat) : Int) ∧ Ext H4 H' ∧ Row H' ba T_int (ints at_) ∧ AtOk l at_ d (S.take i)) (fun σ _ => (S.length - σ.2).toNat)
      ⟨0, at6, rfl, by omega, rfl, hE6, hr6, by simpa using hat6⟩ ?_
    rintro next2 ⟨_, _⟩ H7 ⟨i, at7, rfl, hi, rfl, hE7, hr7, hat7⟩ hnext2
    dsimp only
    refine rdS hE7 fun hrS => ?_
    have hSl := hrS.len
    refine Br_dec (fun hlti => ?_) fun hgei => ?_
    · have hi1 : i < S.length := by omega
      refine rdS hE7 fun _ => ?_
      refine IxA_rl hrS rfl hi1 fun a3 h3 => ?_
      refine Ld_int h3 ?_
      obtain ⟨m, hm, hms, hmx⟩ := hSmem _ (List.getElem_mem hi1)
      rw [hmx]
      refine Jn.mk (fun b H' => b = false ∧ H7 = H') (fun kk2 hkk2 => ?_) ?_
      · refine Br_dec (fun h => by omega) fun _ => ?_
        refine Br_dec (fun h => by omega) fun _ => ?_
        refine Br_dec (fun h => ?_) fun _ => hkk2 _ _ ⟨rfl, rfl⟩
        refine rdS hE7 fun _ => ?_
        rw [Lt_def, wrap_i64_id (by omega) (by omega)]
        refine IxA_rl hrS (j := i - 1) (by omega) (by omega) fun a5 h5 => ?_
        refine Ld_int h5 ?_
        have := List.pairwise_iff_getElem.1 hSlt (i - 1) i (by omega) hi1 (by omega)
        exact hkk2 _ _ ⟨by rw [decide_eq_false (by omega)], rfl⟩
      rintro _ _ ⟨rfl, rfl⟩
      rw [Br_false]
      have hal := hat7.1
      refine IxA_adr (by omega) (by omega) ?_
      rw [Int.toNat_natCast, Nat.mul_one]
      refine St_row hr7 (by simp; omega) fun H9 hU9 _ hr9 => ?_
      rw [ints_set] at hr9
      have hE9 : Ext H4 H9 := hE7.trans hU9 fun b hb e => by omega
      rw [Lt_def, wrap_i64_id (x := ((upto l d + i : Nat) : Int) + 1) (by omega) (by omega)]
      have stake : S.take (i + 1) = S.take i ++ [(m : Int)] := by rw [List.take_add_one, List.getElem?_eq_getElem hi1, hmx]; rfl
      have hat9 : AtOk l (at7.set m (d : Int)) d (S.take (i + 1)) := by
        refine ⟨by simpa using hal, fun q hq h => ?_⟩
        rw [List.getD_eq_getElem?_getD, List.getElem?_set]
        by_cases e : m = q
        · subst e; rw [if_pos rfl, if_pos (by omega)]; simp [hms]
        · rw [if_neg e, ← List.getD_eq_getElem?_getD]
          refine hat7.2 q hq (h.imp id fun h => ?_)
          rw [stake, List.mem_append, List.mem_singleton] at h
          exact h.resolve_right fun h => by omega
      have cell9 : ∀ q, q < l.length → hcell H9 ⟨ba, q, none⟩ = some (.int .i64 ((at7.set m (d : Int)).getD q 0)) := fun q hq => by
        rw [hr9.cell]; exact ints_get (by simp; omega)
      have hp9 := hp4.ext hE9
      refine LoopT.mk (fun σ H' => H9 = H' ∧ ∃ q : Nat, σ.2 = q ∧ q ≤ m ∧ (σ.1 = true ↔ (d = 0 ∨ ∃ z, z < q ∧ confF l m z = true ∧ stg l m = stg l z + 1))) (fun σ _ => (m - σ.2).toNat) ⟨rfl, 0, rfl, by omega, ?_⟩ ?_
      · simp
      rintro next3 ⟨rsn, _⟩ _ ⟨rfl, q, rfl, hq, hrsn⟩ hnext3
      dsimp only at hrsn ⊢
      refine Br_dec (fun hltq => ?_) fun hgeq => ?_
      · have hq1 : q < m := by omega
        refine s_Conflict hp9 ?_
        have ec : (decide (0 ≤ (q : Int) ∧ (q : Int) < (l.length : Int)) && decide (0 ≤ (m : Int) ∧ (m : Int) < (l.length : Int)) && confF l (q : Int).toNat (m : Int).toNat) = confF l m q := by
          rw [decide_eq_true (by omega), decide_eq_true (by omega), Int.toNat_natCast, Int.toNat_natCast, confF_comm]; rfl
        rw [ec]
        have atq : confF l m q = true → (at7.set m (d : Int)).getD q 0 = (stg l q : Int) := fun hc => by
          have := stg_conf l hm hq1 hc
          exact hat9.2 q (by omega) (.inl (by omega))
        refine Jn.mk (fun b H' => b = false ∧ H9 = H') (fun kk3 hkk3 => ?_) ?_
        · refine Br.mk (fun hc => ?_) fun _ => hkk3 _ _ ⟨rfl, rfl⟩
          refine IxA_adr (by omega) (by omega) ?_
          rw [Int.toNat_natCast, Nat.mul_one]
          refine Ld_int (cell9 q (by omega)) ?_
          have := stg_conf l hm hq1 hc
          exact hkk3 _ _ ⟨by rw [atq hc, decide_eq_false (by omega)], rfl⟩
        rintro _ _ ⟨rfl, rfl⟩
        rw [Br_false]
        refine Jn.mk (fun b H' => H9 = H' ∧ (b = true ↔ (d = 0 ∨ ∃ z, z < q + 1 ∧ confF l m z = true ∧ stg l m = stg l z + 1))) (fun kk4 hkk4 => ?_) ?_
        · refine Br.mk (fun hy => hkk4 _ _ ⟨rfl, ?_⟩) fun hno => ?_
          · have := hrsn.1 hy
            refine iff_of_true rfl (this.imp id fun ⟨z, h1, h2⟩ => ⟨z, by omega, h2⟩)
          · have hn' : ¬ (d = 0 ∨ ∃ z, z < q ∧ confF l m z = true ∧ stg l m = stg l z + 1) := fun h => by rw [hrsn.2 h] at hno; cases hno
            refine Br.mk (fun hc => ?_) fun hc => hkk4 _ _ ⟨rfl, ?_⟩
            · refine IxA_adr (by omega) (by omega) ?_
              rw [Int.toNat_natCast, Nat.mul_one]
              refine Ld_int (cell9 q (by omega)) ?_
              rw [Lt_def, wrap_i64_id (by omega) (by omega)]
              refine hkk4 _ _ ⟨rfl, ?_⟩
              rw [atq hc, beq_iff_eq]
              constructor
              · intro h; exact .inr ⟨q, by omega, hc, by omega⟩
              · rintro (h | ⟨z, h1, h2, h3⟩)
                · exact absurd (.inl h) hn'
                · rcases Nat.lt_or_ge z q with e | e
                  · exact absurd (.inr ⟨z, e, h2, h3⟩) hn'
                  · have : z = q := by omega
                    subst this; omega
            · refine iff_of_false (by simp) ?_
              rintro (h | ⟨z, h1, h2, h3⟩)
              · exact hn' (.inl h)
              · rcases Nat.lt_or_ge z q with e | e
                · exact hn' (.inr ⟨z, e, h2, h3⟩)
                · have : z = q := by omega
                  subst this; rw [hc] at h2; cases h2
        rintro b _ ⟨rfl, hb⟩
        rw [Lt_def, wrap_i64_id (by omega) (by omega)]
        exact hnext3 _ _ ⟨rfl, q + 1, by dsimp only; omega, by omega, hb⟩ (by dsimp only; omega)
      · have hqm : q = m := by omega
        subst hqm
        have hyes : rsn = true := hrsn.2 (by
          rcases stg_why l hm with h | ⟨z, h1, h2, h3⟩
          · exact .inl (by omega)
          · exact .inr ⟨z, h1, h2, h3⟩)
        rw [hyes, Bool.not_true, Br_false, Lt_def, wrap_i64_id (by omega) (by omega)]
        exact hnext2 _ _ ⟨i + 1, _, by dsimp only; omega, by omega, by dsimp only; omega, hE9, hr9, hat9⟩ (by dsimp only; omega)
    · rw [Lt_def, wrap_i64_id (by omega) (by omega)]
      have his : i = S.length := by omega
      refine hnext1 _ _ ⟨d + 1, at7, by dsimp only; omega, by omega, by dsimp only; omega, hE7, hr7, hat7.1, fun q hq h => hat7.2 q hq ?_⟩ (by dsimp only; omega)
      rcases h with h | h
      · rcases Nat.lt_or_ge (stg l q) d with e | e
        · exact .inl e
        · refine .inr ?_
          rw [List.take_of_length_le (by omega), hSdef]
          exact mem_ofS.2 ⟨q, hq, by omega, rfl⟩
      · cases h
  · have hdt : d = ts.length := by omega
    have hul : upto l d = l.length := by
      unfold upto; rw [List.take_of_length_le (by simp; omega), sum_stages]
    have hE06 : Ext H H6 := hE4'.trans hE6 fun _ _ h => h
    have hp6 := hp4.ext hE6
    refine s_picked hp6 (by omega) ht hE06 hrl hri fun r5 ps H14 hgood hpsl hv14 hf14 hE14 => ?_
    have hp14 := hp6.ext hE14
    have hE014 := hE06.ext hE14
    obtain ⟨qs, hq1, hq2, hq3⟩ := orderL_ok ps (stagesF l) [] hgood
    have hord := ordered_of hq2 hq3
    have hof : orderF l ps = some qs.flatten := by
      unfold orderF
      by_cases e : ps = []
      · have : l.length = 0 := by rw [← hpsl, e]; rfl
        rw [if_pos e, this, List.replicate_zero]
        rw [e, List.nil_append] at hq1
        simpa using hq1
      · rw [if_neg e, if_pos hpsl]; simpa using hq1
    generalize qs.flatten = o at *
    clear hq1 hq2 hq3
    refine s_Order hp14 (by omega) hv14.rl (by omega) (fun o' s6 H15 ho' hv15 hf15 hE15 => ?_) fun _ h => by rw [hof] at h; cases h
    rw [hof] at ho'
    cases ho'
    have hp15 := hp14.ext hE15
    have hE015 := hE014.ext hE15
    have hol := hv15.len
    simp only [List.length_map] at hol
    have holn := hord.len
    refine Jn.mk (fun b H' => b = false ∧ H15 = H') (fun kk5 hkk5 => ?_) ?_
    · dsimp only
      rw [hul, bne_self_eq_false, Br_false, bne_self_eq_false, Br_false]
      refine hkk5 _ _ ⟨?_, rfl⟩
      rw [hol, holn, bne_self_eq_false]
    rintro _ _ ⟨rfl, rfl⟩
    rw [Br_false]
    refine Mks_row (by omega) (by omega) (by omega) fun bs H17 hbs hE17 _ hr17 => ?_
    rw [Int.toNat_natCast] at hr17 ⊢
    have hE017 := hE015.ext hE17
    have z15 := hE015.size
    have hleg := hord.legal
    have rngI : ∀ i (h : i < o.length), 0 ≤ o[i] ∧ o[i] < (l.length : Int) := fun i h => hord.rng _ (List.getElem_mem h)
    refine LoopT.mk (fun σ H' => ∃ (i : Nat) (sn : List Bool), σ = i ∧ i ≤ l.length ∧ Ext H15 H' ∧ Row H' bs T_bool (bools sn) ∧ sn.length = l.length ∧ (∀ v : Nat, v < l.length → (sn.getD v false = true → (v : Int) ∈ o.take i))) (fun σ _ => (l.length - σ).toNat)
      ⟨0, List.replicate l.length false, rfl, by omega, hE17, by simpa [bools] using hr17, by simp, fun v hv h => by rw [List.getD_eq_getElem?_getD, List.getElem?_replicate, if_pos hv] at h; cases h⟩ ?_
    rintro next4 _ H18 ⟨i, sn, rfl, hi, hE18, hr18, hsn, hseen⟩ hnext4
    have hv18 := (hv15.ext hE18).rl (f := Value.int .i64)
    have hp18 := hp15.ext hE18
    have z18 := hE18.size
    refine Br_dec (fun hlti => ?_) fun hgei => ?_
    · have hi1 : i < o.length := by omega
      have hr := rngI i hi1
      obtain ⟨a, ha⟩ : ∃ a, a = o[i] := ⟨_, rfl⟩
      refine Jn.mk (fun b H' => b = false ∧ H18 = H') (fun kk6 hkk6 => ?_) ?_
      · refine IxA_rl hv18 rfl hi1 fun a9 h9 => ?_
        refine Ld_int h9 ?_
        refine Br_dec (fun h => by omega) fun _ => ?_
        refine IxA_rl hv18 rfl hi1 fun a10 h10 => ?_
        refine Ld_int h10 ?_
        refine Br_dec (fun h => by omega) fun _ => ?_
        refine IxA_rl hv18 rfl hi1 fun a11 h11 => ?_
        refine Ld_int h11 ?_
        refine IxA_adr (by omega) (by omega) ?_
        rw [Nat.mul_one]
        have hc : hcell H18 ⟨bs, o[i].toNat, none⟩ = some (.bool (sn.getD o[i].toNat false)) := by
          rw [hr18.cell, bools, List.getElem?_map, List.getD_eq_getElem?_getD, List.getElem?_eq_getElem (by omega)]; rfl
        refine Ld_bool hc ?_
        refine hkk6 _ _ ⟨?_, rfl⟩
        rw [Bool.eq_false_iff]
        intro h
        have := hseen o[i].toNat (by omega) h
        rw [show ((o[i].toNat : Nat) : Int) = o[i] by omega] at this
        obtain ⟨m, hm, hme⟩ := List.getElem_of_mem this
        have hm' : m < i := by simp at hm; omega
        rw [List.getElem_take] at hme
        exact (List.pairwise_iff_getElem.1 hord.pw m i (by omega) hi1 hm').1 hme
      rintro _ _ ⟨rfl, rfl⟩
      rw [Br_false]
      refine IxA_rl hv18 rfl hi1 fun a13 h13 => ?_
      refine Ld_int h13 ?_
      refine IxA_adr (by omega) (by omega) ?_
      rw [Nat.mul_one]
      refine St_row hr18 (by simp; omega) fun H20 hU20 _ hr20 => ?_
      rw [bools, ← List.map_set] at hr20
      have hE20 : Ext H15 H20 := hE18.trans hU20 fun b hb e => by omega
      have hv20 := (hv15.ext hE20).rl (f := Value.int .i64)
      have hp20 := hp15.ext hE20
      refine LoopT.mk (fun σ H' => H20 = H' ∧ ∃ q : Nat, σ = q ∧ q ≤ i) (fun σ _ => (i - σ).toNat) ⟨rfl, 0, rfl, by omega⟩ ?_
      rintro next5 _ _ ⟨rfl, q, rfl, hq⟩ hnext5
      refine Br_dec (fun hltq => ?_) fun hgeq => ?_
      · have hq1 : q < o.length := by omega
        have hrq := rngI q hq1
        refine IxA_rl hv20 rfl hq1 fun a15 h15 => ?_
        refine Ld_int h15 ?_
        refine IxA_rl hv20 rfl hi1 fun a16 h16 => ?_
        refine Ld_int h16 ?_
        refine s_Conflict hp20 ?_
        refine Jn.mk (fun b H' => b = false ∧ H20 = H') (fun kk7 hkk7 => ?_) ?_
        · refine Br.mk (fun hc => ?_) fun _ => hkk7 _ _ ⟨rfl, rfl⟩
          refine IxA_rl hv20 rfl hq1 fun a17 h17 => ?_
          refine Ld_int h17 ?_
          refine IxA_rl hv20 rfl hi1 fun a18 h18 => ?_
          refine Ld_int h18 ?_
          refine hkk7 _ _ ⟨decide_eq_false fun hgt => ?_, rfl⟩
          simp only [Bool.and_eq_true] at hc
          have hpw := List.pairwise_iff_getElem.1 hord.pw q i hq1 hi1 (by omega)
          have := stg_conf l (i := o[q].toNat) (k := o[i].toNat) (by omega) (by omega) hc.2
          omega
        rintro _ _ ⟨rfl, rfl⟩
        rw [Br_false, Lt_def, wrap_i64_id (by omega) (by omega)]
        exact hnext5 _ _ ⟨rfl, q + 1, by omega, by omega⟩ (by omega)
      · rw [Lt_def, wrap_i64_id (by omega) (by omega)]
        refine hnext4 _ _ ⟨i + 1, _, by omega, by omega, hE20, hr20, by simpa using hsn, fun v hv h => ?_⟩ (by omega)
        rw [List.take_add_one, List.getElem?_eq_getElem hi1, Option.toList_some, List.mem_append, List.mem_singleton]
        rw [List.getD_eq_getElem?_getD, List.getElem?_set] at h
        by_cases e : o[i].toNat = v
        · exact .inr (by omega)
        · rw [if_neg e, ← List.getD_eq_getElem?_getD] at h
          exact .inl (hseen v hv h)
    · refine s_Legal hp18 (by omega) hv18 (by omega) fun H24 hE24 => ?_
      rw [hleg]
      exact hk H24 ((hE015.ext hE18).ext hE24)
end Go.Proofs.Ytpkpebgpiakbeaa
