/-
  plan: Order, Legal.
-/
import Derived.Test.YtpkpebgpiakbeaaPlanC
namespace Go.Proofs.Ytpkpebgpiakbeaa
set_option linter.unusedVariables false
set_option linter.unusedSimpArgs false
open Go.Proofs.Ytpkpebgpiakbeaa.Hc Go.Proofs.Ytpkpebgpiakbeaa.Hc.Plan
set_option maxRecDepth 100000
variable {H : Heap} {p : Nat} {l : List PSys}

theorem ints_one (xs : List Int) : ∀ w ∈ ints xs, w.oneCell' = true := fun w hw => by obtain ⟨x, _, rfl⟩ := List.mem_map.1 hw; rfl
theorem s_Delete {s : Sl} {xs : List Int} {i : Nat} (hv : Vec H T_int s (ints xs)) (hi : i < xs.length) (hl : xs.length ≤ 2 ^ 30) {k : Sl → Heap → Prop}
    (hk : ∀ s' H', Vec H' T_int s' (ints (xs.eraseIdx i)) → s'.a = s.a → Upd (fun b => s.a = some (adr b)) H H' → k s' H') :
    CallT Pg f_slices_Delete_Sl_int_int [.slice s.a s.len s.cap, .int .i64 (i : Int), .int .i64 ((i : Int) + 1)] (.one (.c .sl)) H k := by
  apply c_slices_Delete_Sl_int_int
  unfold v_slices_Delete_Sl_int_int
  have hsl := hv.len
  have hlc := hv.lc
  simp only [List.length_map] at hsl
  refine SlA_rl (f := Value.int .i64) (xs := xs) hv.rl (i := i) (j := i + 1) (c := s.len) rfl (by omega) rfl (by omega) (by omega) (by omega) hlc hv.spot fun _ _ _ _ => ?_
  refine Br.mk (fun h => by simp at h; omega) fun _ => ?_
  refine SlA0 (by omega) (by omega) (by omega) ?_
  simp only [Int.toNat_natCast]
  refine SlA_rl (f := Value.int .i64) (xs := xs) hv.rl (i := i + 1) (j := s.len) (c := s.cap) (by omega) rfl rfl (by omega) (by omega) (by omega) (Nat.le_refl _) hv.spot fun l3 hr3 _ _ => ?_
  have e3 : (xs.drop (i + 1)).take (s.len - (i + 1)) = xs.drop (i + 1) := List.take_of_length_le (by simp; omega)
  rw [e3] at hr3
  have hl3 := hr3.len
  simp only [List.length_drop] at hl3
  rcases hv.own with ⟨_, _, h3⟩ | ⟨b, sp, hb, hrow, hcap⟩
  · simp at h3; subst h3; simp at hi
  refine ⟨ints (xs.drop (i + 1)), hr3.rd, fun _ => by simp; omega, fun hfit => ?_, fun hgrow => by dsimp only at hgrow; omega⟩
  rw [hb]
  dsimp only
  rw [adr_add, Nat.mul_one]
  refine StL_row hrow (by simp; omega) (ints_one _) fun H1 hU1 hs1 hr1 => ?_
  have e1 : (ints xs ++ sp).take (i + 0) ++ ints (xs.drop (i + 1)) ++ (ints xs ++ sp).drop (i + 0 + (ints (xs.drop (i + 1))).length) = ints (xs.eraseIdx i) ++ (.int .i64 (xs.getD (xs.length - 1) 0) :: sp) := by
    rw [Nat.add_zero, List.take_append_of_le_length (by simp; omega), List.eraseIdx_eq_take_drop_succ, ints, ints, ints, List.map_append, List.map_take, List.map_drop]
    congr 1
    simp only [List.length_drop, List.length_map]
    rw [show i + (xs.length - (i + 1)) = xs.length - 1 by omega, List.drop_append_of_le_length (by simp)]
    rw [← List.map_drop]
    have : xs.drop (xs.length - 1) = [xs.getD (xs.length - 1) 0] := by
      rw [List.drop_eq_getElem_cons (by omega), List.drop_eq_nil_of_le (by omega), List.getD_eq_getElem?_getD, List.getElem?_eq_getElem (by omega)]; rfl
    rw [this]; rfl
  rw [e1] at hr1
  have el : (ints (xs.eraseIdx i)).length = xs.length - 1 := by simp [List.length_eraseIdx, hi]
  refine ⟨by omega, by omega, by omega, Int.le_refl _, ?_⟩
  simp only [Int.toNat_natCast]
  rw [if_neg (by omega)]
  dsimp only [Option.map]
  rw [adr_add, Nat.mul_one]
  unfold Clr
  dsimp only
  rw [show (s.len - (i + l3.len)) * (#[Value.int .i64 0] : Array Value).size = 1 by rw [show (#[Value.int .i64 0] : Array Value).size = 1 from rfl]; omega, zcells_one]
  refine StL_row hr1 (by rw [List.length_append, el]; simp; omega) (by simp [Value.oneCell']) fun H2 hU2 hs2 hr2 => ?_
  refine hk ⟨some (adr b), i + l3.len, s.cap⟩ H2 ⟨by rw [el]; dsimp only; omega, .inr ⟨b, .int .i64 0 :: sp, rfl, ?_, by rw [el]; simp only [List.length_map] at hcap; simp; omega⟩, by dsimp only; omega⟩ hb.symm ((hU1.mono fun c _ e => by rw [hb, e.1]).trans hU2 fun c _ e => by rw [hb, e.1])
  rw [show i + l3.len = (ints (xs.eraseIdx i)).length by rw [el]; omega, Nat.add_zero, List.take_left, List.drop_append, List.drop_eq_nil_of_le (by simp)] at hr2
  simpa using hr2

theorem s_Order {x : Sl} {picks : List Int} (hp : PlAt H p l) (hl : l.length ≤ 1000) (hx : RI H x picks) (hxl : picks.length ≤ 2 ^ 60) {k : Sl × Int → Heap → Prop}
    (hok : ∀ o s' H', orderF l picks = some o → Vec H' T_int s' (ints o) → (∀ b, s'.a = some (adr b) → H.size ≤ b) → Ext H H' → k (s', 0) H')
    (hno : ∀ H', orderF l picks = none → Ext H H' → k (nilS, 180) H') :
    CallT Pg f_plan_Plan_Order [.pointer (some (adr p)), .slice x.a x.len x.cap] (.tup [(.c .sl), (.c (.int .i64))]) H k := by
  obtain ⟨cs, ss, rows, us, hr, hc, hrl, _⟩ := hp.ex
  apply c_plan_Plan_Order
  unfold v_plan_Plan_Order
  simp only [NilCk_some]
  have hcl := hc.len
  have hxl' := hx.len
  obtain ⟨P, hP⟩ : ∃ P, P = if picks = [] then List.replicate l.length (0 : Int) else picks := ⟨_, rfl⟩
  have e0 : orderF l picks = if P.length = l.length then orderL P (stagesF l) [] else none := by rw [hP]; rfl
  refine Jn.mk (fun y H' => RI H' y P ∧ Ext H H' ∧ (P ≠ [] → ∀ a, y.a = some a → a.block < H'.size)) (fun kk hkk => ?_) ?_
  · refine Br.mk (fun h => ?_) fun h => ?_
    · have hn : picks = [] := by simp at h; exact List.eq_nil_of_length_eq_zero (by omega)
      refine Ld_sl (s := cs) ((hr.cell 0).trans rfl) ?_
      refine Mks_row (by omega) (by omega) (by omega) fun b H2 hb hE2 _ hr2 => ?_
      rw [Int.toNat_natCast] at hr2 ⊢
      refine hkk _ _ ⟨⟨?_, by rw [hP, if_pos hn]; simp; omega, Nat.le_refl _⟩, hE2, fun _ a ha => by cases ha; exact hr2.lt⟩
      rw [hP, if_pos hn, List.map_replicate, ← hrl, ← hcl]
      exact hr2.rd_all
    · have hn : picks ≠ [] := by intro e; rw [e] at hxl'; simp at h; simp at hxl'; omega
      exact hkk _ _ ⟨by rw [hP, if_neg hn]; exact hx, .refl _ _, fun _ a ha => RL.lt hx (by exact hn) ha⟩
  rintro y H1 ⟨hy, hE1, hyb0⟩
  have hyl := hy.len
  have hp1 := hp.ext hE1
  refine Ld_sl (s := cs) (((hE1.row hr fun h => h).cell 0).trans rfl) ?_
  refine Br.mk (fun h => ?_) fun h => ?_
  · rw [if_neg (by simp at h; omega)] at e0
    exact hno H1 e0 hE1
  have hPl : P.length = l.length := by simp at h; omega
  rw [if_pos hPl] at e0
  refine s_Stages hp1 hl fun so ts H3 hL3 hE3 => ?_
  have hy3 := hy.ext hE3
  have z1 := hE1.size
  have z3 := hE3.size
  have hsol := hL3.v.len
  simp only [List.length_map] at hsol
  have htl := hL3.len
  have hE13 := hE1.ext hE3
  have slen : (stagesF l).length = cnt l l.length := by simp [stagesF]
  have cb : cnt l l.length ≤ l.length := cnt_bd l (Nat.le_refl _)
  have sbd : ∀ i, ((stagesF l).getD i []).length ≤ 1000 := fun i => by
    rw [List.getD_eq_getElem?_getD]
    by_cases hi : i < cnt l l.length
    · rw [stagesF, List.getElem?_map, List.getElem?_range hi]
      simp only [Option.map_some, Option.getD_some]
      unfold ofS; rw [List.length_map]
      exact Nat.le_trans (List.length_filter_le _ _) (by simp; omega)
    · rw [List.getElem?_eq_none (by omega)]; simp
  -- all stages
  refine LoopT.mk (fun σ H' => ∃ (d : Nat) (o : List Int), σ.2 = d ∧ d ≤ ts.length ∧ H3.size ≤ H'.size ∧ Ext H H' ∧ RI H' y P ∧ Vec H' T_Sl_int so (ts.map slV) ∧ (∀ i (h : i < ts.length), d ≤ i → Vec H' T_int ts[i] (ints ((stagesF l).getD i []))) ∧
      Vec H' T_int σ.1 (ints o) ∧ (∀ b, σ.1.a = some (adr b) → H3.size ≤ b) ∧ orderL P ((stagesF l).drop d) o = orderF l picks ∧ o.length = upto l d) (fun σ _ => (ts.length - σ.2).toNat)
    ⟨0, [], rfl, by omega, Nat.le_refl _, hE13, hy3, hL3.v, fun i h _ => hL3.it i h, .nil _ _, (fun b h => by cases h), by rw [e0]; rfl, by simp [upto]⟩ ?_
  rintro next1 ⟨out, _⟩ H4 ⟨d, o, rfl, hd, hz34, hE4, hy4, hv4, hit4, ho4, hfo4, hord, hol⟩ hnext1
  dsimp only at ho4 hfo4 ⊢
  refine Br_dec (fun hlt => ?_) fun hge => ?_
  · have hd1 : d < ts.length := by omega
    refine IxA_vec hv4 (by omega) (by simp; omega) fun a3 h3 _ => ?_
    rw [Int.toNat_natCast, List.getElem?_map, List.getElem?_eq_getElem hd1] at h3
    refine Ld_sl (s := ts[d]) h3 ?_
    have ed : (stagesF l).drop d = (stagesF l).getD d [] :: (stagesF l).drop (d + 1) := by
      rw [List.drop_eq_getElem_cons (by omega), List.getD_eq_getElem?_getD, List.getElem?_eq_getElem (by omega)]; rfl
    rw [ed] at hord
    unfold orderL at hord
    have hsd := sbd d
    have hup := upto_succ l (d := d) (by omega)
    have hupl := upto_le l (d + 1)
    have hitd := hit4 d hd1 (Nat.le_refl _)
    clear sbd
    generalize (stagesF l).getD d [] = S at *
    refine LoopT.mk (fun σ H' => ∃ (o' lf : List Int), H3.size ≤ H'.size ∧ Ext H H' ∧ RI H' y P ∧ Vec H' T_Sl_int so (ts.map slV) ∧ (∀ i (h : i < ts.length), d + 1 ≤ i → Vec H' T_int ts[i] (ints ((stagesF l).getD i []))) ∧
        Vec H' T_int σ.1 (ints o') ∧ (∀ b, σ.1.a = some (adr b) → H3.size ≤ b) ∧ Vec H' T_int σ.2 (ints lf) ∧ σ.2.a = ts[d].a ∧ pickL P lf.length o' lf = pickL P S.length o S ∧ o'.length + lf.length = o.length + S.length) (fun σ _ => σ.2.len)
      ⟨o, S, hz34, hE4, hy4, hv4, fun i h hi => hit4 i h (by omega), ho4, hfo4, hitd, rfl, rfl, rfl⟩ ?_
    rintro next2 ⟨out2, left⟩ H5 ⟨o2, lf, hz35, hE5, hy5, hv5, hit5, ho5, hfo5, hlf5, hla, hpick, hlen5⟩ hnext2
    dsimp only at ho5 hfo5 hlf5 hla ⊢
    have hlfl := hlf5.len
    have ho5l := ho5.len
    simp only [List.length_map] at hlfl ho5l
    refine Br_dec (fun hpos => ?_) fun hnil => ?_
    · obtain ⟨f, hf⟩ : ∃ f, lf.length = f + 1 := ⟨lf.length - 1, by omega⟩
      have hlne : lf ≠ [] := by intro e; rw [e] at hf; simp at hf
      rw [hf, pickL_succ hlne] at hpick
      have hoP : o2.length < P.length := by omega
      refine IxA_rl hy5 (j := o2.length) (by omega) hoP fun a4 h4 => ?_
      refine Ld_int h4 ?_
      have eP : P.getD o2.length 0 = P[o2.length] := by rw [List.getD_eq_getElem?_getD, List.getElem?_eq_getElem hoP]; rfl
      rw [eP] at hpick
      generalize P[o2.length] = n at *
      refine Jn.mk (fun b H' => H5 = H' ∧ b = decide (n < 0 ∨ n ≥ (lf.length : Int))) (fun kk hkk => ?_) ?_
      · refine Br_dec (fun h => hkk _ _ ⟨rfl, by rw [decide_eq_true (.inl h)]⟩) fun h => hkk _ _ ⟨rfl, ?_⟩
        rw [Bool.eq_iff_iff, decide_eq_true_eq, decide_eq_true_eq]; omega
      rintro _ _ ⟨rfl, rfl⟩
      refine Br_dec (fun hbad => ?_) fun hgood => ?_
      · rw [if_pos hbad] at hpick
        rw [← hpick] at hord
        exact hno H5 hord.symm hE5
      rw [if_neg hgood] at hpick
      have hn1 : n.toNat < lf.length := by omega
      refine IxA_rl hlf5.rl (j := n.toNat) (by omega) hn1 fun a5 h5 => ?_
      refine Ld_int h5 ?_
      have en : lf.getD n.toNat 0 = lf[n.toNat] := by rw [List.getD_eq_getElem?_getD, List.getElem?_eq_getElem hn1]; rfl
      rw [en] at hpick
      refine Nw_row fun b1 H7 hb1 hE7 _ hr7 => ?_
      refine App_vec (ho5.ext hE7) (ws := ints [lf[n.toNat]]) hr7.rd_all rfl (ints_one _) (by omega) (by simp; omega) fun l2 H8 hv8 hU8 hl8 hs8 => ?_
      rw [Lt_def, wrap_i64_id (by omega) (by omega)]
      have z5 := hE5.size
      have z7 := hE7.size
      -- what is not the order's own
      have lt3 : ∀ b, ts[d].a = some (adr b) → b < H3.size := fun b hb => (hL3.it d hd1).lt hb
      have M8 : ∀ b, (out2.a = some (adr b) ∧ out2.len + 1 ≤ out2.cap ∧ ints [lf[n.toNat]] ≠ []) → H3.size ≤ b := fun b e => hfo5 b e.1
      have lf8 := (hlf5.ext hE7).upd hU8 fun b hb e => by
        have := M8 b e; rw [hla] at hb; have := lt3 b hb; omega
      rw [show n = ((n.toNat : Nat) : Int) by omega]
      refine s_Delete lf8 hn1 (by omega) fun r2 H9 hv9 ha9 hU9 => ?_
      have z8 := hU8.size
      have z9 := hU9.size
      have fo8 : ∀ b, l2.a = some (adr b) → H3.size ≤ b := fun b hb => by
        have := hL3.ext (.refl _ _)
        rcases hl8 with e | e
        · rw [e] at hb; exact hfo5 b hb
        · rw [e] at hb; cases hb
          have : H3.size ≤ H5.size := hz35
          omega
      have hs3 : ∀ b, left.a = some (adr b) → b < H3.size ∧ H1.size ≤ b := fun b hb => by
        rw [hla] at hb; exact ⟨lt3 b hb, hL3.ft d hd1 b hb⟩
      have M9 : ∀ b, left.a = some (adr b) → ∃ vs, Row H8 b T_int vs ∨ Row H8 b T_int vs := fun b e => let ⟨ws, hw⟩ := Vec.rowOf lf8 e; ⟨ws, .inl hw⟩
      have M8' : ∀ b, (out2.a = some (adr b) ∧ out2.len + 1 ≤ out2.cap ∧ ints [lf[n.toNat]] ≠ []) → ∃ vs, Row H7 b T_int vs ∨ Row H7 b T_int vs := fun b e => let ⟨ws, hw⟩ := Vec.rowOf (ho5.ext hE7) e.1; ⟨ws, .inl hw⟩
      rw [ints, ints, ← List.map_append] at hv8
      have hE57 := hE5.ext hE7
      have hyb : ∀ a, y.a = some a → a.block < H1.size := fun a ha => hyb0 (by intro e; rw [e] at hoP; simp at hoP) a ha
      have upH : ∀ b, b < H.size → H9[b]? = H5[b]? := fun b hb => by
        have h1 := hU9.get b (by omega) (fun e => by have := (hs3 b e).2; omega)
        have h2 := hU8.get b (by omega) (fun e => by have := M8 b e; omega)
        have h3 := hE7.get b (by omega) (fun e => e)
        rw [h1, h2, h3]
      have hE9 : Ext H H9 := ⟨by omega, fun b hb _ => (upH b hb).trans (hE5.get b hb fun h => h)⟩
      have ky : RI H9 y P := by
        refine (((hy5.ext hE7).upd hU8 fun a ha e => ?_).upd hU9 fun a ha e => ?_)
        · have := M8 _ e; have := hyb a ha; omega
        · have := (hs3 _ e).2; have := hyb a ha; omega
      have kv : Vec H9 T_Sl_int so (ts.map slV) := keepV hU9 M9 (keepV hU8 M8' (hv5.ext hE7) (by decide) (by decide)) (by decide) (by decide)
      have hlf1 : (lf.eraseIdx n.toNat).length = f := by rw [List.length_eraseIdx, if_pos hn1]; omega
      refine hnext2 _ _ ⟨o2 ++ [lf[n.toNat]], lf.eraseIdx n.toNat, by omega, hE9, ky, kv, fun i hi1 hi2 => ?_, ?_, fo8, hv9, by dsimp only; rw [ha9, hla], ?_, ?_⟩ ?_
      · refine (((hit5 i hi1 hi2).ext hE7).upd hU8 fun b hb e => ?_).upd hU9 fun b hb e => ?_
        · have := M8 b e; have := (hL3.it i hi1).lt hb; omega
        · rw [hla] at e
          exact hL3.ap i d hi1 hd1 (by omega) b hb e
      · refine hv8.upd hU9 fun b hb e => ?_
        have := fo8 b hb; have := (hs3 b e).1; omega
      · rw [hlf1]
        have : ((n.toNat : Nat) : Int) = n := by omega
        exact hpick
      · rw [hlf1]; simp; omega
      · have := hv9.len
        simp only [List.length_map] at this
        dsimp only
        omega
    · have hlf0 : lf = [] := List.eq_nil_of_length_eq_zero (by omega)
      subst hlf0
      rw [pickL_nil] at hpick
      rw [← hpick] at hord
      rw [Lt_def, wrap_i64_id (by omega) (by omega)]
      simp only [List.length_nil] at hlen5
      exact hnext1 _ _ ⟨d + 1, o2, by dsimp only; omega, by omega, hz35, hE5, hy5, hv5, hit5, ho5, hfo5, hord, by omega⟩ (by dsimp only; omega)
  · have : d = ts.length := by omega
    subst this
    rw [List.drop_eq_nil_of_le (by omega)] at hord
    exact hok o out H4 hord.symm ho4 (fun b hb => by have := hfo4 b hb; omega) hE4
end Go.Proofs.Ytpkpebgpiakbeaa
