/-
  The document's own plan: Order, Legal, New.
-/
import Derived.Test.YtpkpebgpiakbeaaPlanT
namespace Go.Proofs.Ytpkpebgpiakbeaa
set_option linter.unusedVariables false
set_option linter.unusedSimpArgs false
open Go.Proofs.Ytpkpebgpiakbeaa.Hc Go.Proofs.Ytpkpebgpiakbeaa.Hc.Plan
set_option maxRecDepth 100000
variable {H : Heap} {p : Nat} {l : List PSys}

theorem s_refOrder {x : Sl} {picks : List Int} (hp : RefAt H p l) (hx : RI H x picks) (hxl : picks.length ≤ 2 ^ 44) {k : Sl × Int → Heap → Prop}
    (hok : ∀ o s' H', orderF l picks = some o → Vec H' T_int s' (ints o) → (∀ b, s'.a = some (adr b) → H.size ≤ b) → Ext H H' → k (s', 0) H')
    (hno : ∀ H', orderF l picks = none → Ext H H' → k (nilS, 180) H') :
    CallT Pg f_hindcastref18_Plan_Order [.pointer (some (adr p)), .slice x.a x.len x.cap] (.tup [(.c .sl), (.c (.int .i64))]) H k := by
  apply c_hindcastref18_Plan_Order
  unfold v_hindcastref18_Plan_Order
  obtain ⟨rs, ws, rr, wr, hr, _, hws, _, hwl, _, _, hl, _⟩ := id hp
  have hwsl := hws.len
  simp only [NilCk_some, adr_add]
  refine Ld_sl (s := ws) ((hr.cell 1).trans rfl) ?_
  refine s_copied hx (by omega) fun r1 H1 hv1 hf1 hE1 => ?_
  have hr1l := hv1.len
  simp only [List.length_map] at hr1l
  obtain ⟨P, hP⟩ : ∃ P, P = if picks = [] then List.replicate l.length (0 : Int) else picks := ⟨_, rfl⟩
  have e0 : orderF l picks = if P.length = l.length then orderL P (stagesF l) [] else none := by rw [hP]; rfl
  have z1 := hE1.size
  refine Jn.mk (fun y H' => RI H' y P ∧ Ext H H') (fun kk hkk => ?_) ?_
  · refine Br.mk (fun h => ?_) fun h => ?_
    · have hn : picks = [] := by simp at h; exact List.eq_nil_of_length_eq_zero (by omega)
      refine Mks_row (by omega) (by omega) (by omega) fun b H2 hb hE2 _ hr2 => ?_
      rw [Int.toNat_natCast] at hr2 ⊢
      refine hkk _ _ ⟨⟨?_, by rw [hP, if_pos hn]; simp; omega, Nat.le_refl _⟩, hE1.ext hE2⟩
      rw [hP, if_pos hn, List.map_replicate, ← hwl, ← hwsl]
      exact hr2.rd_all
    · have hn : picks ≠ [] := by intro e; rw [e] at hr1l; simp at h; simp at hr1l; omega
      exact hkk _ _ ⟨by rw [hP, if_neg hn]; exact hv1.rl, hE1⟩
  rintro y H2 ⟨hy, hE2⟩
  have hyl := hy.len
  refine Br.mk (fun h => ?_) fun h => ?_
  · rw [if_neg (by simp at h; omega)] at e0
    exact hno H2 e0 hE2
  have hPl : P.length = l.length := by simp at h; omega
  rw [if_pos hPl] at e0
  refine s_refStages (hp.ext hE2) fun so ts H4 hL4 hE4 => ?_
  have z2 := hE2.size
  have z4 := hE4.size
  have tl := hL4.len
  have stl : (stagesF l).length = cnt l l.length := by simp [stagesF]
  have cb : cnt l l.length ≤ l.length := cnt_bd l (Nat.le_refl _)
  have hsol := hL4.v.len
  simp only [List.length_map] at hsol
  have hE24 : Ext H H4 := hE2.ext hE4
  rw [e0] at hok hno
  obtain ⟨R, hR⟩ : ∃ R, orderL P (stagesF l) [] = R := ⟨_, rfl⟩
  rw [hR] at hok hno
  refine LoopT.mk (fun σ H' => ∃ (d : Nat) (o : List Int), σ.2 = d ∧ d ≤ ts.length ∧ Ext H4 H' ∧ Vec H' T_int σ.1 (ints o) ∧ (∀ b, σ.1.a = some (adr b) → H4.size ≤ b) ∧ orderL P ((stagesF l).drop d) o = R ∧ o.length = upto l d) (fun σ _ => (ts.length - σ.2).toNat)
    ⟨0, [], rfl, by omega, .refl _ _, .nil _ _, (fun b h => by cases h), hR, by simp [upto]⟩ ?_
  rintro next1 ⟨out, _⟩ H5 ⟨d, o, rfl, hd, hE5, ho5, hfo5, hord, hol⟩ hnext1
  dsimp only at ho5 hfo5 ⊢
  have hE5' := hE24.ext hE5
  refine Br_dec (fun hlt => ?_) fun hge => ?_
  · have hd1 : d < ts.length := by omega
    refine IxA_vec (hL4.v.ext hE5) (by omega) (by simp; omega) fun a2 h2 _ => ?_
    rw [Int.toNat_natCast, List.getElem?_map, List.getElem?_eq_getElem hd1] at h2
    refine Ld_sl (s := ts[d]) h2 ?_
    have ed : (stagesF l).drop d = (stagesF l).getD d [] :: (stagesF l).drop (d + 1) := by
      rw [List.drop_eq_getElem_cons (by omega), List.getD_eq_getElem?_getD, List.getElem?_eq_getElem (by omega)]; rfl
    rw [ed] at hord
    unfold orderL at hord
    have hup := upto_succ l (d := d) (by omega)
    have hupl := upto_le l (d + 1)
    have hitd := (hL4.it d hd1)
    have hltd : ∀ a, ts[d].a = some a → a.block < H4.size ∧ a.spot = none := fun a ha => by
      have := Vec.blk hitd a ha
      rw [this] at ha ⊢
      exact ⟨hitd.lt ha, rfl⟩
    have hsd : ((stagesF l).getD d []).length ≤ 1000 := by omega
    generalize (stagesF l).getD d [] = S at *
    refine LoopT.mk (fun σ H' => ∃ (o' lf : List Int), Ext H4 H' ∧ Vec H' T_int σ.1 (ints o') ∧ (∀ b, σ.1.a = some (adr b) → H4.size ≤ b) ∧ RI H' σ.2 lf ∧ (∀ a, σ.2.a = some a → a.spot = none) ∧ (∀ a, σ.2.a = some a → σ.1.a ≠ some (adr a.block)) ∧ pickL P lf.length o' lf = pickL P S.length o S ∧ o'.length + lf.length = o.length + S.length) (fun σ _ => σ.2.len)
      ⟨o, S, hE5, ho5, hfo5, (hitd.ext hE5).rl, fun a ha => (hltd a ha).2, (fun a ha e => by have := hfo5 _ e; have := (hltd a ha).1; omega), rfl, rfl⟩ ?_
    rintro next2 ⟨out2, left⟩ H6 ⟨o2, lf, hE6, ho6, hfo6, hlf6, hsp, hap, hpick, hlen6⟩ hnext2
    dsimp only at ho6 hfo6 hlf6 hsp hap ⊢
    have hlfl := hlf6.len
    have hlfc := hlf6.cap
    have ho6l := ho6.len
    simp only [List.length_map] at ho6l
    refine Br_dec (fun hpos => ?_) fun hnil => ?_
    · obtain ⟨f, hf⟩ : ∃ f, lf.length = f + 1 := ⟨lf.length - 1, by omega⟩
      have hlne : lf ≠ [] := by intro e; rw [e] at hf; simp at hf
      rw [hf, pickL_succ hlne] at hpick
      have hoP : o2.length < P.length := by omega
      refine IxA_rl ((hy.ext hE4).ext hE6) (j := o2.length) (by omega) hoP fun a4 h4 => ?_
      refine Ld_int h4 ?_
      have eP : P.getD o2.length 0 = P[o2.length] := by rw [List.getD_eq_getElem?_getD, List.getElem?_eq_getElem hoP]; rfl
      rw [eP] at hpick
      generalize P[o2.length] = n at *
      refine Jn.mk (fun b H' => H6 = H' ∧ b = decide (n < 0 ∨ n ≥ (lf.length : Int))) (fun kk hkk => ?_) ?_
      · refine Br_dec (fun h => hkk _ _ ⟨rfl, by rw [decide_eq_true (.inl h)]⟩) fun h => hkk _ _ ⟨rfl, ?_⟩
        rw [Bool.eq_iff_iff, decide_eq_true_eq, decide_eq_true_eq]; omega
      rintro _ _ ⟨rfl, rfl⟩
      refine Br_dec (fun hbad => ?_) fun hgood => ?_
      · rw [if_pos hbad] at hpick
        rw [← hpick] at hord
        exact hno H6 hord.symm (hE24.ext hE6)
      rw [if_neg hgood] at hpick
      obtain ⟨q, hq⟩ : ∃ q : Nat, n = q := ⟨n.toNat, by omega⟩
      subst hq
      rw [Int.toNat_natCast] at hpick
      have hq1 : q < lf.length := by omega
      refine IxA_rl hlf6 rfl hq1 fun a5 h5 => ?_
      refine Ld_int h5 ?_
      have en : lf.getD q 0 = lf[q] := by rw [List.getD_eq_getElem?_getD, List.getElem?_eq_getElem hq1]; rfl
      rw [en] at hpick
      refine Nw_row fun b1 H8 hb1 hE8 _ hr8 => ?_
      refine App_vec (ho6.ext hE8) (ws := ints [lf[q]]) hr8.rd_all rfl (ints_one _) (by omega) (by simp; omega) fun l2 H9 hv9 hU9 hl9 hs9 => ?_
      have z6 := hE6.size
      have z8 := hE8.size
      rw [ints, ints, ← List.map_append] at hv9
      have hE9 : Ext H4 H9 := (hE6.ext hE8).trans hU9 fun b hb e => by have := hfo6 b e.1; omega
      have hlf9 : RI H9 left lf := (hlf6.ext hE8).upd hU9 fun a ha e => hap a ha e.1
      refine SlA0 (by omega) (by omega) (by omega) ?_
      rw [Int.toNat_natCast]
      have hl3 := hlf9.pre (n := q) (c := (left.cap : Int).toNat) (by omega) (by omega)
      refine s_copied hl3 (by simp; omega) fun r3 H10 hv10 hf10 hE10 => ?_
      rw [Lt_def, wrap_i64_id (by omega) (by omega)]
      refine SlA_rl (hlf9.ext hE10) (i := q + 1) (j := left.len) (c := left.cap) (by omega) rfl rfl (by omega) (by omega) (by omega) (Nat.le_refl _) hsp fun l4 hr4 _ _ => ?_
      have e4 : (lf.drop (q + 1)).take (left.len - (q + 1)) = lf.drop (q + 1) := List.take_of_length_le (by simp; omega)
      rw [e4] at hr4
      refine App_vec hv10 hr4.rd (by rw [List.length_map]; exact hr4.len.symm) (ints_one _) (by omega) (by simp; omega) fun l5 H11 hv11 hU11 hl11 hs11 => ?_
      have z10 := hE10.size
      have z9 := hU9.size
      have e5 : ints (lf.take q) ++ List.map (Value.int .i64) (lf.drop (q + 1)) = ints (lf.eraseIdx q) := by rw [List.eraseIdx_eq_take_drop_succ, ints, ints, List.map_append]
      rw [e5] at hv11
      have hE11 : Ext H9 H11 := hE10.trans hU11 fun b hb e => by have := hf10 b e.1; omega
      have hel : (lf.eraseIdx q).length = f := by rw [List.length_eraseIdx, if_pos hq1]; omega
      have f5 : ∀ b, l5.a = some (adr b) → H9.size ≤ b := fun b hb => by
        rcases hl11 with e | e
        · rw [e] at hb; have := hf10 b hb; omega
        · rw [e] at hb; cases hb; omega
      refine hnext2 _ _ ⟨o2 ++ [lf[q]], lf.eraseIdx q, hE9.ext hE11, hv9.ext hE11, fun b hb => ?_, hv11.rl, fun a ha => hv11.spot a ha, fun a ha e => ?_, by rw [hel]; exact hpick, by rw [hel]; simp; omega⟩ ?_
      · dsimp only at hb
        rcases hl9 with e | e
        · rw [e] at hb; exact hfo6 b hb
        · rw [e] at hb; cases hb; omega
      · dsimp only at ha e
        have := Vec.blk hv11 a ha
        rw [this] at ha
        have := f5 _ ha
        have := hv9.lt e
        omega
      · have := hv11.len
        simp only [List.length_map] at this
        dsimp only
        omega
    · have hlf0 : lf = [] := List.eq_nil_of_length_eq_zero (by omega)
      subst hlf0
      rw [pickL_nil] at hpick
      rw [← hpick] at hord
      rw [Lt_def, wrap_i64_id (by omega) (by omega)]
      simp only [List.length_nil] at hlen6
      exact hnext1 _ _ ⟨d + 1, o2, by dsimp only; omega, by omega, hE6, ho6, hfo6, hord, by omega⟩ (by dsimp only; omega)
  · have : d = ts.length := by omega
    subst this
    rw [List.drop_eq_nil_of_le (by omega)] at hord
    exact hok o out H5 hord.symm ho5 (fun b hb => by have := hfo5 b hb; omega) hE5'

theorem s_refLegal {x : Sl} {o : List Int} (hp : RefAt H p l) (hx : RI H x o) (hol : o.length ≤ 2 ^ 60) {k : Bool → Heap → Prop} (hk : k (legalF l o) H) :
    CallT Pg f_hindcastref18_Plan_Legal [.pointer (some (adr p)), .slice x.a x.len x.cap] (.one (.c .bool)) H k := by
  apply c_hindcastref18_Plan_Legal
  unfold v_hindcastref18_Plan_Legal
  obtain ⟨rs, ws, rr, wr, hr, _, hws, _, hwl, _, _, hl, _⟩ := id hp
  have hwsl := hws.len
  have hxl := hx.len
  simp only [NilCk_some, adr_add]
  refine Ld_sl (s := ws) ((hr.cell 1).trans rfl) ?_
  refine Br.mk (fun h => ?_) fun h => ?_
  · have : legalF l o = false := by
      unfold legalF; rw [decide_eq_false (by intro e; simp at h; omega)]; rfl
    rw [← this]; exact hk
  have hlen : o.length = l.length := by simp at h; omega
  refine LoopT.mk (fun σ H' => H = H' ∧ ∃ i : Nat, σ = i ∧ i ≤ o.length ∧ ∀ m, m < i → okI l o m = true) (fun σ _ => (o.length - σ).toNat) ⟨rfl, 0, rfl, by omega, fun m h => by omega⟩ ?_
  rintro next1 _ _ ⟨rfl, i, rfl, hi, hok⟩ hnext1
  refine Br_dec (fun hlt => ?_) fun hge => ?_
  · have hi1 : i < o.length := by omega
    have eo : ∀ m (h : m < o.length), o.getD m 0 = o[m] := fun m h => by rw [List.getD_eq_getElem?_getD, List.getElem?_eq_getElem h]; rfl
    refine Jn.mk (fun b H' => H = H' ∧ b = !decide (0 ≤ o[i] ∧ o[i] < (l.length : Int))) (fun kk hkk => ?_) ?_
    · refine IxA_rl hx rfl hi1 fun a2 h2 => ?_
      refine Ld_int h2 ?_
      refine Br_dec (fun h => hkk _ _ ⟨rfl, by rw [decide_eq_false (by omega)]; rfl⟩) fun h => ?_
      refine IxA_rl hx rfl hi1 fun a3 h3 => ?_
      refine Ld_int h3 ?_
      refine hkk _ _ ⟨rfl, ?_⟩
      rw [Bool.eq_iff_iff, decide_eq_true_eq, Bool.not_eq_true', decide_eq_false_iff_not]; omega
    rintro _ _ ⟨rfl, rfl⟩
    refine Br.mk (fun hbad => ?_) fun hgood => ?_
    · have : legalF l o = false := legalF_no hi1 (Bool.eq_false_iff.2 fun h => by
        have := (okI_iff.1 h).1
        rw [eo i hi1] at this
        simp only [Bool.not_eq_true', decide_eq_false_iff_not] at hbad
        exact hbad this)
      rw [← this]; exact hk
    have hin : 0 ≤ o[i] ∧ o[i] < (l.length : Int) := by simpa using hgood
    refine LoopT.mk (fun σ H' => H = H' ∧ ∃ m : Nat, σ = m ∧ m ≤ i ∧ ∀ j, j < m → pairOk l (o.getD j 0) o[i] = true) (fun σ _ => (i - σ).toNat) ⟨rfl, 0, rfl, by omega, fun j h => by omega⟩ ?_
    rintro next2 _ _ ⟨rfl, m, rfl, hm, hpair⟩ hnext2
    refine Br_dec (fun hltm => ?_) fun hgem => ?_
    · have hm1 : m < o.length := by omega
      have hmi : m < i := by omega
      have hinm := (okI_iff.1 (hok m hmi)).1
      rw [eo m hm1] at hinm
      have rdm : ∀ {k : Int → Prop}, k o[m] → IxA 1 x (m : Int) fun a => Ld (.int .i64) a H k := fun {k} hk => IxA_rl hx rfl hm1 fun a h => Ld_int h hk
      have rdi : ∀ {k : Int → Prop}, k o[i] → IxA 1 x (i : Int) fun a => Ld (.int .i64) a H k := fun {k} hk => IxA_rl hx rfl hi1 fun a h => Ld_int h hk
      refine rdm (rdi ?_)
      refine s_refConflict hp ?_
      rw [decide_eq_true hinm, decide_eq_true hin, Bool.true_and, Bool.true_and]
      refine Jn.mk (fun b H' => H = H' ∧ b = !pairOk l o[m] o[i]) (fun kk hkk => ?_) ?_
      · refine rdm (rdi ?_)
        refine Br.mk (fun h => hkk _ _ ⟨rfl, ?_⟩) fun h => ?_
        · have : o[m] = o[i] := by simpa using h
          simp [pairOk, this]
        · have hne : (o[m] != o[i]) = true := by simpa using h
          refine Br.mk (fun hc => ?_) fun hc => ?_
          · refine rdm (rdi ?_)
            refine hkk _ _ ⟨rfl, ?_⟩
            unfold pairOk
            rw [hne, hc, Bool.true_and, Bool.true_and, Bool.not_not]
          · refine hkk _ _ ⟨rfl, ?_⟩
            unfold pairOk
            rw [hne, hc]; rfl
      rintro _ _ ⟨rfl, rfl⟩
      refine Br.mk (fun hbad => ?_) fun hgood2 => ?_
      · have : legalF l o = false := legalF_no hi1 (Bool.eq_false_iff.2 fun h => by
          have := (okI_iff.1 h).2 m hmi
          rw [eo m hm1, eo i hi1] at this
          rw [this] at hbad; cases hbad)
        rw [← this]; exact hk
      · rw [Lt_def, wrap_i64_id (by omega) (by omega)]
        refine hnext2 _ _ ⟨rfl, m + 1, by omega, by omega, fun j hj => ?_⟩ (by omega)
        rcases Nat.lt_or_ge j m with e | e
        · exact hpair j e
        · have : j = m := by omega
          subst this
          rw [eo j hm1]
          simpa using hgood2
    · have : m = i := by omega
      subst this
      rw [Lt_def, wrap_i64_id (by omega) (by omega)]
      refine hnext1 _ _ ⟨rfl, m + 1, by omega, by omega, fun j hj => ?_⟩ (by omega)
      rcases Nat.lt_or_ge j m with e | e
      · exact hok j e
      · have : j = m := by omega
        subst this
        exact okI_iff.2 ⟨by rw [eo j hi1]; exact hin, fun k hk' => by rw [eo j hi1]; exact hpair k hk'⟩
  · have := legalF_yes hlen fun m hm => hok m (by omega)
    rw [← this]; exact hk
end Go.Proofs.Ytpkpebgpiakbeaa
