/-
  PlanPlays: every call of two plans by turns.
-/
import Derived.Test.YtpkpebgpiakbeaaPlanA
import Derived.Test.YtpkpebgpiakbeaaPlanZ
namespace Go.Proofs.Ytpkpebgpiakbeaa
set_option linter.unusedVariables false
set_option linter.unusedSimpArgs false
open Go.Proofs.Ytpkpebgpiakbeaa.Hc Go.Proofs.Ytpkpebgpiakbeaa.Hc.Plan
set_option maxRecDepth 100000
variable {H H' : Heap}

theorem sysL_of {lo : Nat} {r : Sl} {cs : List SysC} {l : List PSys} (hv : VecN H T_api_System 8 r (cs.flatMap sysC)) (hcl : cs.length = l.length) (ho : ∀ i (h : i < cs.length) (h' : i < l.length), One lo H cs[i] l[i]) (hb : ∀ x ∈ l, x.1.length ≤ 30 ∧ x.2.length ≤ 30) : SysL H r l := by
  have hl : r.len = l.length := by have := hv.len; rw [flat_len sysC_len] at this; omega
  refine ⟨hl, fun i hi => ?_⟩
  have hi2 : i < cs.length := by omega
  obtain ⟨a, ha, hc⟩ := (hv.rn sysC_len (by omega)).el sysC_len hv.spot (by omega) hi2
  have h := ho i hi2 hi
  have := hb _ (List.getElem_mem hi)
  exact ⟨a, ha, _, hc, h.r.rl, h.w.rl, by omega, by omega⟩
theorem s_refof {s : Sl} {L : List PSys} {H0 : Heap} (hs : LawL H0 s L) (hE : Ext H0 H) {k : Option Addr → Heap → Prop} (hk : ∀ p H', RefAt H' p (cutL L) → Ext H H' → k (some (adr p)) H') :
    CallT Pg f_hindcastlaw18_systems [.slice s.a s.len s.cap] (.one (.c .sl)) H fun (r4 : Sl) H4 => CallT Pg f_hindcastref18_New [.slice r4.a r4.len r4.cap] (.one (.c .ptr)) H4 k := by
  have hn : (cutL L).length ≤ 200 := by rw [cutL_len]; exact Nat.min_le_left _ _
  refine s_systems hs hE fun r cs H1 hv hcl ho hf hE1 => ?_
  exact s_refNew (sysL_of hv hcl ho (cutL_mem L)) (by omega) fun p H2 hp hE2 => hk p H2 hp (hE1.ext hE2)

/-- A lent list is turned round. -/
theorem turned {t s : Sl} {xs zs : List Int} {K : Heap → Prop} {n : Int} (hn : n = xs.length) (ht : Vec H T_int t (ints zs)) (hz : zs.length = xs.length) (hs : RI H s xs) (hl : xs.length ≤ 2 ^ 60) (hap : xs ≠ [] → ∀ a, s.a = some a → t.a ≠ some (adr a.block))
    (hk : ∀ H', Vec H' T_int t (ints xs.reverse) → Upd (fun b => t.a = some (adr b)) H H' → K H') :
    LoopT (σ := Int) (fun next2 s2 H20 =>
      Br (decide (s2 < n)) (
        Lt (IntKind.wrap .i64 ((s.len : Int) - 1)) fun t2 =>
        Lt (IntKind.wrap .i64 (t2 - s2)) fun t3 =>
        IxA 1 s t3 fun a1 =>
        Ld (.int .i64) a1 H20 fun (x1 : Int) =>
        IxA 1 t s2 fun a2 =>
        St a2 (.int .i64 x1) H20 fun H21 =>
        Lt (IntKind.wrap .i64 (s2 + 1)) fun t4 =>
        next2 t4 H21) (K H20)) 0 H := by
  have htl := ht.len
  have hsl := hs.len
  simp only [List.length_map] at htl
  refine LoopT.mk (fun σ H' => ∃ i : Nat, σ = i ∧ i ≤ xs.length ∧ Vec H' T_int t (ints (xs.reverse.take i ++ zs.drop i)) ∧ Upd (fun b => t.a = some (adr b)) H H') (fun σ _ => (xs.length - σ).toNat) ⟨0, rfl, by omega, by simpa using ht, .refl _ _⟩ ?_
  rintro next _ H1 ⟨i, rfl, hi, hv1, hU1⟩ hnext
  refine Br_dec (fun hlt => ?_) fun hge => ?_
  · have hi1 : i < xs.length := by omega
    have hs1 : RI H1 s xs := hs.upd' hU1 fun hne a ha e => hap hne a ha e
    rw [Lt_def, wrap_i64_id (x := (s.len : Int) - 1) (by omega) (by omega), Lt_def, wrap_i64_id (by omega) (by omega)]
    refine IxA_rl hs1 (j := xs.length - 1 - i) (by omega) (by omega) fun a1 h1 => ?_
    refine Ld_int h1 ?_
    refine IxA_St_vec' hv1 (j := i) rfl (by simp; omega) fun H2 hv2 hU2 _ => ?_
    rw [Lt_def, wrap_i64_id (by omega) (by omega)]
    rw [ints_set] at hv2
    have e : (xs.reverse.take i ++ zs.drop i).set i xs[xs.length - 1 - i] = xs.reverse.take (i + 1) ++ zs.drop (i + 1) := by
      rw [List.drop_eq_getElem_cons (by omega)]
      have := set_mid' (xs.reverse.take i) (zs.drop (i + 1)) (zs[i]'(by omega)) xs[xs.length - 1 - i]
      rw [List.length_take, List.length_reverse, Nat.min_eq_left hi] at this
      rw [this, List.take_add_one, List.getElem?_reverse (by omega), List.getElem?_eq_getElem (by omega)]
      simp
    rw [e] at hv2
    exact hnext _ _ ⟨i + 1, by omega, by omega, hv2, hU1.trans hU2 fun _ _ h => h⟩ (by omega)
  · have : i = xs.length := by omega
    subst this
    rw [List.drop_eq_nil_of_le (by omega), List.append_nil, List.take_of_length_le (by simp)] at hv1
    exact hk H1 hv1 hU1
theorem len8_over {t : Sl} {n : Nat} (h : Vec H T_int ⟨t.a, t.len + 8, t.cap⟩ (ints (List.replicate (n + 8) (-3)))) (ht : t.len = n) : Vec H T_int t (ints (List.replicate n (-3))) := by
  have hc := h.lc
  dsimp only at hc
  have := h.pre (n := n) (c := t.cap) (by simp) (Nat.le_refl _) (by omega)
  rw [← ht] at this ⊢
  rw [ints, ← List.map_take, List.take_replicate, show min t.len (t.len + 8) = t.len by omega] at this
  exact this

theorem s_PlanPlays {s t x y : Sl} {L M : List PSys} {picks order : List Int} {a b : Int} (hs : LawL H s L) (ht : LawL H t M) (hx : RI H x picks) (hxl : picks.length ≤ 2 ^ 44) (hy : RI H y order) (hyl : order.length ≤ 2 ^ 44) {k : Bool → Heap → Prop} (hk : ∀ H', Ext H H' → k true H') :
    CallT Pg f_hindcastlaw18_PlanPlays [.slice s.a s.len s.cap, .slice t.a t.len t.cap, .slice x.a x.len x.cap, .slice y.a y.len y.cap, .int .i64 a, .int .i64 b] (.one (.c .bool)) H k := by
  apply c_hindcastlaw18_PlanPlays
  unfold v_hindcastlaw18_PlanPlays
  have hnL : (cutL L).length ≤ 200 := by rw [cutL_len]; exact Nat.min_le_left _ _
  have hnM : (cutL M).length ≤ 200 := by rw [cutL_len]; exact Nat.min_le_left _ _
  refine s_shown18 fun H1 hE1 => ?_
  refine s_given hs hE1 fun p H2 hp hp' hE2 => ?_
  have hX2 := hE1.ext hE2
  refine s_given ht hX2 fun q H3 hq hq' hE3 => ?_
  have hX3 := hX2.ext hE3
  refine s_refof hs hX3 fun r H5 hr hE5 => ?_
  have hX5 := hX3.ext hE5
  refine s_refof ht hX5 fun u H7 hu hE7 => ?_
  have hX7 := hX5.ext hE7
  refine Jn_in ?_
  simp only [Bool.not_true, Br_false, Option.isNone_some]
  have hp7 := (hp.ext hE3).ext (hE5.ext hE7)
  have hq7 := hq.ext (hE5.ext hE7)
  have hr7 := hr.ext hE7
  clear hp hq hr
  refine LoopT.mk (fun σ H' => ∃ i : Nat, σ = i ∧ i ≤ 20 ∧ Ext H7 H') (fun σ _ => (20 - σ).toNat) ⟨0, rfl, by omega, .refl _ _⟩ ?_
  rintro next1 _ H9 ⟨i, rfl, hi, hE9⟩ hnext1
  have hX9 := hX7.ext hE9
  refine Br_dec (fun hlt => ?_) fun hge => ?_
  · refine s_given ht hX9 fun p2 H10 _ _ hE10 => ?_
    refine s_given hs (hX9.ext hE10) fun q2 H11 _ _ hE11 => ?_
    refine Jn_in ?_
    simp only [Br_false, Option.isNone_some]
    rw [Lt_def, wrap_i64_id (by omega) (by omega)]
    exact hnext1 _ _ ⟨i + 1, by omega, by omega, (hE9.ext hE10).ext hE11⟩ (by omega)
  clear hnext1
  -- a book
  refine Nw_row (vs := [slV nilS, slV nilS, slV nilS, slV nilS, .int .i64 0, .int .i64 0]) fun bk H13 hbk hE13 hz13 hr13 => ?_
  have hB13 : BkP (fun b => H9.size ≤ b ∧ b < H13.size) 0 H13 bk := by
    refine ⟨fun _ => False, nilS, nilS, nilS, nilS, [], [], 0, 0, fun _ => 0, fun _ => 0, ⟨⟨hr13, fun i hi => ?_, fun i j hi hj _ b hb => ?_, fun i hi b hb => ?_⟩, ⟨(fun e he => by cases he), (fun e he => by cases he)⟩, fun _ h => h.elim, fun _ h => h.elim⟩, fun b hb => ?_, Nat.le_refl _, Nat.le_refl _, Nat.le_refl _, Nat.le_refl _, fun q hq => by simp at hq, fun q hq => by simp at hq⟩
    · match i, hi with
      | 0, _ => exact .nil _ _
      | 1, _ => exact .nil _ _
      | 2, _ => exact .nil _ _
      | 3, _ => exact .nil _ _
    · match i, hi with
      | 0, _ => cases hb
      | 1, _ => cases hb
      | 2, _ => cases hb
      | 3, _ => cases hb
    · match i, hi with
      | 0, _ => cases hb
      | 1, _ => cases hb
      | 2, _ => cases hb
      | 3, _ => cases hb
    · rcases hb with h | rfl | ⟨i, hi, hb⟩
      · exact h.elim
      · omega
      · match i, hi with
        | 0, _ => cases hb
        | 1, _ => cases hb
        | 2, _ => cases hb
        | 3, _ => cases hb
  have hX13 := hX9.ext hE13
  have hE013 := hE9.ext hE13
  refine s_lent (hx.ext hX13) (by omega) fun t1 H14 hL14 hf14 hE14 => ?_
  have z9 := hX9.size
  have z13 := hE13.size
  have z14 := hE14.size
  have lt14 : ∀ b, t1.a = some (adr b) → H13.size ≤ b ∧ b < H14.size := fun b hb => ⟨hf14 b hb, hL14.1.lt hb⟩
  obtain ⟨Ω, hΩ⟩ : ∃ Ω : Nat → Prop, Ω = (fun b => H9.size ≤ b ∧ ¬ (H13.size ≤ b ∧ b < H14.size)) := ⟨_, rfl⟩
  have Ωt : ∀ b, Ω b → ¬ (t1.a = some (adr b)) := fun b h e => by rw [hΩ] at h; exact h.2 (lt14 b e)
  have Ω9 : ∀ b, Ω b → H9.size ≤ b := fun b h => by rw [hΩ] at h; exact h.1
  have t9 : ∀ b, t1.a = some (adr b) → H9.size ≤ b := fun b hb => by have := (lt14 b hb).1; omega
  have Ωn : ∀ b, H14.size ≤ b → Ω b := fun b h => by rw [hΩ]; exact ⟨by omega, by omega⟩
  have hB14 : BkP Ω 0 H14 bk := (hB13.upd hE14 fun _ _ h => h).mono (fun b h => by rw [hΩ]; exact ⟨h.1, by omega⟩) (Nat.le_refl _)
  clear hΩ
  have hE914 : Ext H9 H14 := hE13.ext hE14
  have pl : ∀ {Hx : Heap}, Ext H9 Hx → PlAt Hx p (cutL L) := fun h => hp7.ext (hE9.ext h)
  have ql : ∀ {Hx : Heap}, Ext H9 Hx → PlAt Hx q (cutL M) := fun h => hq7.ext (hE9.ext h)
  have rl : ∀ {Hx : Heap}, Ext H9 Hx → RefAt Hx r (cutL L) := fun h => hr7.ext (hE9.ext h)
  have ul : ∀ {Hx : Heap}, Ext H9 Hx → RefAt Hx u (cutL M) := fun h => hu.ext (hE9.ext h)
  have xl : ∀ {Hx : Heap}, Ext H9 Hx → RI Hx x picks := fun h => hx.ext (hX9.ext h)
  have yl : ∀ {Hx : Heap}, Ext H9 Hx → RI Hx y order := fun h => hy.ext (hX9.ext h)
  have hxb : ∀ {zs : List Int} {v : Sl}, RI H v zs → zs ≠ [] → ∀ a, v.a = some a → a.block < H.size := fun h hz a ha => RL.lt h hz ha
  have ext9 : ∀ {Hx Hy : Heap} {M : Nat → Prop}, Ext H9 Hx → Upd M Hx Hy → (∀ b, M b → H9.size ≤ b) → Ext H9 Hy := fun h hu hm => h.trans hu fun b hb e => by have := hm b e; omega
  refine s_asks (pl hE914) (ql hE914) (rl hE914) (ul hE914) hnL hnM hL14.ri (xl hE914) (by omega) hB14 (by omega) fun H15 hB15 hU15 => ?_
  have hE15 := ext9 hE914 hU15 Ω9
  have z15 := hU15.size
  have hB15 : BkP Ω 3000 H15 bk := hB15.mono (fun b h => h.elim id fun h => Ωn b (by omega)) (by omega)
  have hL15 := hL14.upd hU15 fun b hb h => Ωt b h hb
  have xap : picks ≠ [] → ∀ a, x.a = some a → t1.a ≠ some (adr a.block) := fun hne a ha e => by have := hxb hx hne a ha; have := (lt14 _ e).1; have := hX13.size; omega
  refine s_back hL15 (xl hE15) (by omega) xap fun H16 hv16 hU16 => ?_
  have hE16 := ext9 hE15 hU16 t9
  have z16 := hU16.size
  have hB16 := hB15.upd hU16 Ωt
  refine Jn_in ?_
  simp only [Bool.not_true, Br_false]
  have ht16 := len8_over hv16 hL14.2
  have htl := hL14.2
  have hxn := hx.len
  -- over
  have over : ∀ {Hx : Heap} {v : Sl} {zs : List Int} {K : Sl → Heap → Prop}, Vec Hx T_int v (ints zs) → zs.length ≤ 2 ^ 44 → (∀ v' Hy, Vec Hy T_int v' (ints zs) → Ext Hx Hy → K v' Hy) → App T_int 1 8 #[.int .i64 0] ⟨none, 0, 0⟩ v Hx K := fun {Hx v zs K} hv hz hk => by
    have hvl := hv.len
    refine App_vec (Vec.nil Hx T_int) hv.rd hvl.symm (ints_one _) (by omega) (by simp; omega) fun l1 H1 hv1 hU1 hl1 hs1 => ?_
    rw [List.nil_append] at hv1
    exact hk l1 H1 hv1 (hU1.mono fun b hb e => by cases e.1)
  refine over ht16 (by simp; omega) fun l1 H18 hv18 hE18 => ?_
  have hEx18 := hE16.ext hE18
  have z18 := hE18.size
  have ht18 := ht16.ext hE18
  refine s_asks (pl hEx18) (ql hEx18) (rl hEx18) (ul hEx18) hnL hnM ht18.rl hv18.rl (by simp; omega) (hB16.upd hE18 fun _ _ h => h) (by omega) fun H19 hB19 hU19 => ?_
  have hE19 := ext9 hEx18 hU19 Ω9
  have z19 := hU19.size
  have hB19 : BkP Ω 6000 H19 bk := hB19.mono (fun b h => h.elim id fun h => Ωn b (by omega)) (by omega)
  have ht19 := ht18.upd hU19 fun b hb h => Ωt b h hb
  refine turned (by omega) ht19 (by simp) (xl hE19) (by omega) xap fun H20 hv20 hU20 => ?_
  have hE20 := ext9 hE19 hU20 t9
  have z20 := hU20.size
  have hB20 := hB19.upd hU20 Ωt
  refine over hv20 (by simp; omega) fun l2 H22 hv22 hE22 => ?_
  have hEx22 := hE20.ext hE22
  have z22 := hE22.size
  refine s_asks (pl hEx22) (ql hEx22) (rl hEx22) (ul hEx22) hnL hnM (hv20.ext hE22).rl hv22.rl (by simp; omega) (hB20.upd hE22 fun _ _ h => h) (by omega) fun H23 hB23 hU23 => ?_
  have hE23 := ext9 hEx22 hU23 Ω9
  have z23 := hU23.size
  clear hB23 hB20 hB19 hB16 hB15 hB14 hB13
  -- orders
  refine s_lent (yl hE23) (by omega) fun t2 H24 hL24 hf24 hE24 => ?_
  have hX24 := hE23.ext hE24
  have z24 := hE24.size
  refine s_Legal (pl hX24) (by omega) hL24.ri (by omega) fun H25 hE25 => ?_
  have hX25 := hX24.ext hE25
  refine s_Legal (ql hX25) (by omega) (hL24.ri.ext hE25) (by omega) fun H26 hE26 => ?_
  have hX26 := hX25.ext hE26
  have z9' := hX9.size
  have f9 : ∀ b, t2.a = some (adr b) → H9.size ≤ b := fun b hb => by have := hf24 b hb; omega
  have yap : order ≠ [] → ∀ a, y.a = some a → t2.a ≠ some (adr a.block) := fun hne a ha e => by have := hxb hy hne a ha; have := hf24 _ e; omega
  have hL26 := (hL24.upd hE25 fun _ _ h => h).upd hE26 fun _ _ h => h
  refine s_back hL26 (yl hX26) (by omega) yap fun H27 hv27 hU27 => ?_
  have hE27 := ext9 hX26 hU27 f9
  refine Jn.mk (fun b H' => b = false ∧ Ext H9 H' ∧ Upd (fun _ => False) H27 H') (fun kk hkk => ?_) ?_
  · simp only [Bool.not_true, Br_false]
    refine s_refLegal (rl hE27) (yl hE27) (by omega) ?_
    rw [beq_self_eq_true, Bool.not_true, Br_false]
    refine s_refLegal (ul hE27) (yl hE27) (by omega) ?_
    rw [beq_self_eq_true, Bool.not_true, Br_false]
    refine s_Conflict (pl hE27) ?_
    refine s_refConflict (rl hE27) ?_
    rw [beq_self_eq_true, Bool.not_true, Br_false]
    refine s_Conflict (ql hE27) ?_
    refine s_refConflict (ul hE27) ?_
    rw [beq_self_eq_true]
    exact hkk _ _ ⟨rfl, hE27, .refl _ _⟩
  rintro _ H28 ⟨rfl, hE28, hU28⟩
  rw [Br_false]
  have ht28 := (len8_over hv27 hL24.2).ext hU28
  have hyn := hy.len
  refine turned (by omega) ht28 (by simp) (yl hE28) (by omega) yap fun H35 hv35 hU35 => ?_
  have hE35 := ext9 hE28 hU35 f9
  refine over hv35 (by simp; omega) fun l3 H37 hv37 hE37 => ?_
  have hX37 := hE35.ext hE37
  refine s_Legal (pl hX37) (by omega) (hv35.ext hE37).rl (by simp; omega) fun H38 hE38 => ?_
  have hX38 := hX37.ext hE38
  refine s_refLegal (rl hX38) (hv37.ext hE38).rl (by simp; omega) ?_
  rw [beq_self_eq_true]
  exact hk H38 (hX9.ext hX38)
theorem w_PlanPlays {H : Heap} (v0 v1 v2 v3 v4 v5 : Value) (r0 : RdV Try.prog H 74 v0) (r1 : RdV Try.prog H 74 v1) (r2 : RdV Try.prog H 45 v2) (r3 : RdV Try.prog H 45 v3) (r4 : RdV Try.prog H 3 v4) (r5 : RdV Try.prog H 3 v5) :
    CallT Try.prog 9 [v0, v1, v2, v3, v4, v5] (.one (.c .bool)) H (fun b H' => b = true ∧ Ext H H') := by
  have c3 : Try.prog.cellsOf 3 = 1 := by kernel_rfl
  have b3 : Try.prog.bytesOf 3 = 8 := by kernel_rfl
  obtain ⟨s, L, rfl, hs⟩ := rd_lawL r0
  obtain ⟨t, M, rfl, ht⟩ := rd_lawL r1
  obtain ⟨x, xs, rfl, hx, _, hxl⟩ := rd_list45 r2
  obtain ⟨y, ys, rfl, hy, _, hyl⟩ := rd_list45 r3
  obtain ⟨a, rfl, _⟩ := rd_i64 Try.underlying3 r4
  obtain ⟨b, rfl, _⟩ := rd_i64 Try.underlying3 r5
  exact s_PlanPlays hs ht hx (by omega) hy (by omega) fun H' h => ⟨rfl, h⟩
end Go.Proofs.Ytpkpebgpiakbeaa
