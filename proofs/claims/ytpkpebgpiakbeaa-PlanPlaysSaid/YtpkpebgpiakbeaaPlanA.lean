/-
  PlanPlays: what is asked of two plans by turns.
-/
import Derived.Test.YtpkpebgpiakbeaaPlanYG
namespace Go.Proofs.Ytpkpebgpiakbeaa.Hc.Plan
set_option linter.unusedVariables false
set_option linter.unusedSimpArgs false
theorem pickL_len {ps : List Int} : ∀ (f : Nat) (out left o : List Int), pickL ps f out left = some o → o.length = out.length + left.length
  | 0, out, left, o, h => by
    unfold pickL at h
    split at h
    · rename_i e; cases h; rw [e]; rfl
    · cases h
  | f + 1, out, left, o, h => by
    by_cases e : left = []
    · subst e; rw [pickL_nil] at h; cases h; rfl
    · rw [pickL_succ e] at h
      split at h
      · cases h
      · rename_i hn
        have := pickL_len f _ _ _ h
        have hl : (ps.getD out.length 0).toNat < left.length := by omega
        rw [this, List.length_append, List.length_eraseIdx, if_pos hl]
        simp; omega
theorem orderL_len {ps : List Int} : ∀ (ss : List (List Int)) (out o : List Int), orderL ps ss out = some o → o.length = out.length + (ss.map List.length).sum
  | [], out, o, h => by simp only [orderL, Option.some.injEq] at h; subst h; simp
  | s :: ss, out, o, h => by
    unfold orderL at h
    split at h
    · rename_i out' h'
      have h1 := pickL_len _ _ _ _ h'
      have h2 := orderL_len ss out' o h
      simp only [List.map_cons, List.sum_cons]; omega
    · cases h
theorem orderF_len {l : List PSys} {ps o : List Int} (h : orderF l ps = some o) : o.length = l.length := by
  unfold orderF at h
  generalize (if ps = [] then List.replicate l.length 0 else ps) = P at h
  dsimp only at h
  by_cases e : P.length = l.length
  · rw [if_pos e] at h; rw [orderL_len _ _ _ h, sum_stages]; simp
  · rw [if_neg e] at h; cases h
/-- What 'Order' gives. -/
def oF (l : List PSys) (ps : List Int) : List Int := (orderF l ps).getD []
def eF (l : List PSys) (ps : List Int) : Int := if (orderF l ps).isSome then 0 else 180
theorem oF_len (l : List PSys) (ps : List Int) : (oF l ps).length ≤ l.length := by
  unfold oF
  cases h : orderF l ps with
  | none => simp
  | some o => simp [orderF_len h]
theorem stages_len (l : List PSys) : (stagesF l).length ≤ l.length := by
  have := cnt_bd l (Nat.le_refl _); simpa [stagesF] using this
theorem stage_len (l : List PSys) : ∀ xs ∈ stagesF l, xs.length ≤ l.length := by
  intro xs hx
  obtain ⟨s, _, rfl⟩ := List.mem_map.1 hx
  unfold ofS
  rw [List.length_map]
  exact Nat.le_trans (List.length_filter_le _ _) (by simp)
end Go.Proofs.Ytpkpebgpiakbeaa.Hc.Plan
namespace Go.Proofs.Ytpkpebgpiakbeaa
open Go.Proofs.Ytpkpebgpiakbeaa.Hc Go.Proofs.Ytpkpebgpiakbeaa.Hc.Plan
set_option maxRecDepth 100000
variable {H H' : Heap} {Φ : Nat → Prop} {N p : Nat}

theorem s_OrderF {l : List PSys} {x : Sl} {picks : List Int} (hp : PlAt H p l) (hl : l.length ≤ 1000) (hx : RI H x picks) (hxl : picks.length ≤ 2 ^ 60) {k : Sl × Int → Heap → Prop}
    (hk : ∀ s' H', Vec H' T_int s' (ints (oF l picks)) → (∀ b, s'.a = some (adr b) → H.size ≤ b) → Ext H H' → k (s', eF l picks) H') :
    CallT Pg f_plan_Plan_Order [.pointer (some (adr p)), .slice x.a x.len x.cap] (.tup [(.c .sl), (.c (.int .i64))]) H k := by
  refine s_Order hp hl hx hxl (fun o s' H' ho hv hf hE => ?_) fun H' ho hE => ?_
  · have := hk s' H' (by rw [oF, ho]; exact hv) hf hE
    rwa [eF, ho] at this
  · have := hk nilS H' (by rw [oF, ho]; exact .nil _ _) (fun b h => by cases h) hE
    rwa [eF, ho] at this
theorem s_refOrderF {l : List PSys} {x : Sl} {picks : List Int} (hp : RefAt H p l) (hx : RI H x picks) (hxl : picks.length ≤ 2 ^ 44) {k : Sl × Int → Heap → Prop}
    (hk : ∀ s' H', Vec H' T_int s' (ints (oF l picks)) → (∀ b, s'.a = some (adr b) → H.size ≤ b) → Ext H H' → k (s', eF l picks) H') :
    CallT Pg f_hindcastref18_Plan_Order [.pointer (some (adr p)), .slice x.a x.len x.cap] (.tup [(.c .sl), (.c (.int .i64))]) H k := by
  refine s_refOrder hp hx hxl (fun o s' H' ho hv hf hE => ?_) fun H' ho hE => ?_
  · have := hk s' H' (by rw [oF, ho]; exact hv) hf hE
    rwa [eF, ho] at this
  · have := hk nilS H' (by rw [oF, ho]; exact .nil _ _) (fun b h => by cases h) hE
    rwa [eF, ho] at this

def p3 {α : Type} (a b c : α) : Nat → α
  | 0 => a
  | 1 => b
  | _ => c
def z7 (a b c d e f g : Nat) : Nat → Nat
  | 0 => a
  | 1 => b
  | 2 => c
  | 3 => d
  | 4 => e
  | 5 => f
  | _ => g
theorem monoz {z : Nat → Nat} (h : ∀ i, z i ≤ z (i + 1)) : ∀ a b, a ≤ b → z a ≤ z b := by
  intro a b hab
  obtain ⟨d, rfl⟩ := Nat.exists_eq_add_of_le hab
  clear hab
  induction d with
  | zero => exact Nat.le_refl _
  | succ d ih => exact Nat.le_trans ih (h _)
theorem z7_mono {a b c d e f g : Nat} (h1 : a ≤ b) (h2 : b ≤ c) (h3 : c ≤ d) (h4 : d ≤ e) (h5 : e ≤ f) (h6 : f ≤ g) : ∀ i, z7 a b c d e f g i ≤ z7 a b c d e f g (i + 1)
  | 0 => h1
  | 1 => h2
  | 2 => h3
  | 3 => h4
  | 4 => h5
  | 5 => h6
  | _ + 6 => Nat.le_refl _
theorem LL.lt_s {lo : Nat} {s : Sl} {ts : List Sl} {xss : List (List Int)} (h : LL lo H s ts xss) : ∀ b, s.a = some (adr b) → b < H.size := fun _ hb => h.v.lt hb
theorem LL.lt_t {lo : Nat} {s : Sl} {ts : List Sl} {xss : List (List Int)} (h : LL lo H s ts xss) : ∀ i (hi : i < ts.length) b, ts[i].a = some (adr b) → b < H.size := fun i hi _ hb => (h.it i hi).lt hb

theorem s_asks {pp qq rr ss bk : Nat} {la lb : List PSys} {x pk : Sl} {picks : List Int} (hp : PlAt H pp la) (hq : PlAt H qq lb) (hr : RefAt H rr la) (hs : RefAt H ss lb) (hla : la.length ≤ 200) (hlb : lb.length ≤ 200)
    (hx : RI H x picks) (hpk : RI H pk picks) (hpl : picks.length ≤ 2 ^ 44) (hB : BkP Φ N H bk) (hN : N ≤ 100000) {k : Bool → Heap → Prop}
    (hk : ∀ H', BkP (fun b => Φ b ∨ H.size ≤ b) (N + 3000) H' bk → Upd Φ H H' → k true H') :
    CallT Pg f_hindcastlaw18_asks [.pointer (some (adr pp)), .pointer (some (adr qq)), .pointer (some (adr rr)), .pointer (some (adr ss)), .slice x.a x.len x.cap, .slice pk.a pk.len pk.cap, .pointer (some (adr bk))] (.one (.c .bool)) H k := by
  apply c_hindcastlaw18_asks
  unfold v_hindcastlaw18_asks
  refine s_Stages hp (by omega) fun s1 t1 H1 hL1 hE1 => ?_
  refine s_Stages (hq.ext hE1) (by omega) fun s2 t2 H2 hL2 hE2 => ?_
  have hX2 := hE1.ext hE2
  refine s_Stages (hp.ext hX2) (by omega) fun s3 t3 H3 hL3 hE3 => ?_
  have hX3 := hX2.ext hE3
  refine s_OrderF (hp.ext hX3) (by omega) (hx.ext hX3) (by omega) fun o4 H4 hv4 hf4 hE4 => ?_
  have hX4 := hX3.ext hE4
  refine s_OrderF (hq.ext hX4) (by omega) (hx.ext hX4) (by omega) fun o5 H5 hv5 hf5 hE5 => ?_
  have hX5 := hX4.ext hE5
  refine s_OrderF (hp.ext hX5) (by omega) (hx.ext hX5) (by omega) fun o6 H6 hv6 hf6 hE6 => ?_
  have hX6 := hX5.ext hE6
  refine s_refOrderF (hr.ext hX6) (hpk.ext hX6) hpl fun w7 H7 hv7 hf7 hE7 => ?_
  have hX7 := hX6.ext hE7
  refine s_refOrderF (hs.ext hX7) (hpk.ext hX7) hpl fun w8 H8 hv8 hf8 hE8 => ?_
  have hX8 := hX7.ext hE8
  refine Nw_row (vs := [slV s1, slV s2, slV s3]) fun b1 H9 hb1 hE9 _ hr9 => ?_
  have hX9 := hX8.ext hE9
  refine s_refStages (hr.ext hX9) fun w10 u10 H10 hL10 hE10 => ?_
  have hX10 := hX9.ext hE10
  refine s_refStages (hs.ext hX10) fun w11 u11 H11 hL11 hE11 => ?_
  have hX11 := hX10.ext hE11
  refine s_refStages (hr.ext hX11) fun w12 u12 H12 hL12 hE12 => ?_
  have hX12 := hX11.ext hE12
  refine Nw_row (vs := [slV w10, slV w11, slV w12]) fun b2 H13 hb2 hE13 _ hr13 => ?_
  have hX13 := hX12.ext hE13
  refine Nw_row (vs := [slV o4, slV o5, slV o6]) fun b3 H14 hb3 hE14 _ hr14 => ?_
  have hX14 := hX13.ext hE14
  refine Nw_row (vs := [slV w7, slV w8, slV w7]) fun b4 H15 hb4 hE15 _ hr15 => ?_
  have hX15 := hX14.ext hE15
  dsimp only
  refine Jn.mk (fun b H' => b = false ∧ H15 = H') (fun kk hkk => ?_) ?_
  · rw [bne_self_eq_false, Br_false, bne_self_eq_false, Br_false]
    exact hkk _ _ ⟨rfl, rfl⟩
  rintro _ _ ⟨rfl, rfl⟩
  rw [Br_false]
  have i1 := hE1.size; have i2 := hE2.size; have i3 := hE3.size; have i4 := hE4.size; have i5 := hE5.size; have i6 := hE6.size; have i7 := hE7.size; have i8 := hE8.size
  have i9 := hE9.size; have i10 := hE10.size; have i11 := hE11.size; have i12 := hE12.size; have i13 := hE13.size; have i14 := hE14.size; have i15 := hE15.size
  have lt1s := hL1.lt_s; have lt1t := hL1.lt_t; have lt2s := hL2.lt_s; have lt2t := hL2.lt_t; have lt3s := hL3.lt_s; have lt3t := hL3.lt_t
  have lt4 : ∀ b, o4.a = some (adr b) → b < H4.size := fun b hb => hv4.lt hb
  have lt5 : ∀ b, o5.a = some (adr b) → b < H5.size := fun b hb => hv5.lt hb
  have lt6 : ∀ b, o6.a = some (adr b) → b < H6.size := fun b hb => hv6.lt hb
  -- all at the last heap
  have e14 := hE15; have e13 := hE14.ext e14; have e12 := hE13.ext e13; have e11 := hE12.ext e12; have e10 := hE11.ext e11; have e9 := hE10.ext e10; have e8 := hE9.ext e9
  have e7 := hE8.ext e8; have e6 := hE7.ext e7; have e5 := hE6.ext e6; have e4 := hE5.ext e5; have e3 := hE4.ext e4; have e2 := hE3.ext e3; have e1 := hE2.ext e2
  obtain ⟨z, hz⟩ : ∃ z, z = z7 H.size H1.size H2.size H3.size H4.size H5.size H6.size := ⟨_, rfl⟩
  have zm : ∀ a b, a ≤ b → z a ≤ z b := by rw [hz]; exact monoz (z7_mono i1 i2 i3 i4 i5 i6)
  have hz0 : z 0 = H.size := by rw [hz]; rfl
  have hz6 : z 6 = H6.size := by rw [hz]; rfl
  obtain ⟨sS, hsS⟩ : ∃ f, f = p3 s1 s2 s3 := ⟨_, rfl⟩
  obtain ⟨sT, hsT⟩ : ∃ f, f = p3 t1 t2 t3 := ⟨_, rfl⟩
  obtain ⟨sO, hsO⟩ : ∃ f, f = p3 o4 o5 o6 := ⟨_, rfl⟩
  obtain ⟨sl, hsl⟩ : ∃ f, f = p3 la lb la := ⟨_, rfl⟩
  obtain ⟨wS, hwS⟩ : ∃ f, f = p3 w10 w11 w12 := ⟨_, rfl⟩
  obtain ⟨wT, hwT⟩ : ∃ f, f = p3 u10 u11 u12 := ⟨_, rfl⟩
  obtain ⟨wO, hwO⟩ : ∃ f, f = p3 w7 w8 w7 := ⟨_, rfl⟩
  have row1 : ∀ j, j < 3 → ([slV s1, slV s2, slV s3] : List Value)[j]? = some (slV (sS j)) := fun j hj => by rw [hsS]; match j, hj with | 0, _ => rfl | 1, _ => rfl | 2, _ => rfl
  have row2 : ∀ j, j < 3 → ([slV w10, slV w11, slV w12] : List Value)[j]? = some (slV (wS j)) := fun j hj => by rw [hwS]; match j, hj with | 0, _ => rfl | 1, _ => rfl | 2, _ => rfl
  have row3 : ∀ j, j < 3 → ([slV o4, slV o5, slV o6] : List Value)[j]? = some (slV (sO j)) := fun j hj => by rw [hsO]; match j, hj with | 0, _ => rfl | 1, _ => rfl | 2, _ => rfl
  have row4 : ∀ j, j < 3 → ([slV w7, slV w8, slV w7] : List Value)[j]? = some (slV (wO j)) := fun j hj => by rw [hwO]; match j, hj with | 0, _ => rfl | 1, _ => rfl | 2, _ => rfl
  have hsll : ∀ j, j < 3 → (sl j).length ≤ 200 := fun j hj => by rw [hsl]; match j, hj with | 0, _ => exact hla | 1, _ => exact hlb | 2, _ => exact hla
  have hst : ∀ j, j < 3 → LL (z j) H15 (sS j) (sT j) (stagesF (sl j)) := fun j hj => by rw [hsS, hsT, hsl, hz]; match j, hj with | 0, _ => exact hL1.ext e1 | 1, _ => exact hL2.ext e2 | 2, _ => exact hL3.ext e3
  have hsu : ∀ j, j < 3 → ∀ b, (sS j).a = some (adr b) → b < z (j + 1) := fun j hj => by rw [hsS, hz]; match j, hj with | 0, _ => exact lt1s | 1, _ => exact lt2s | 2, _ => exact lt3s
  have htu : ∀ j, j < 3 → ∀ i (h : i < (sT j).length) b, (sT j)[i].a = some (adr b) → b < z (j + 1) := fun j hj => by rw [hsT, hz]; match j, hj with | 0, _ => exact lt1t | 1, _ => exact lt2t | 2, _ => exact lt3t
  have hso : ∀ j, j < 3 → Vec H15 T_int (sO j) (ints (oF (sl j) picks)) := fun j hj => by rw [hsO, hsl]; match j, hj with | 0, _ => exact hv4.ext e4 | 1, _ => exact hv5.ext e5 | 2, _ => exact hv6.ext e6
  have hol : ∀ j, j < 3 → ∀ b, (sO j).a = some (adr b) → z (3 + j) ≤ b ∧ b < z (4 + j) := fun j hj b hb => by
    rw [hsO] at hb; rw [hz]
    match j, hj with
    | 0, _ => exact ⟨hf4 b hb, lt4 b hb⟩
    | 1, _ => exact ⟨hf5 b hb, lt5 b hb⟩
    | 2, _ => exact ⟨hf6 b hb, lt6 b hb⟩
  have hwt : ∀ j, j < 3 → LL H9.size H15 (wS j) (wT j) (stagesF (sl j)) := fun j hj => by rw [hwS, hwT, hsl]; match j, hj with | 0, _ => exact hL10.ext e10 | 1, _ => exact (hL11.ext e11).mono (by omega) | 2, _ => exact (hL12.ext e12).mono (by omega)
  have hwo : ∀ j, j < 3 → Vec H15 T_int (wO j) (ints (oF (sl j) picks)) := fun j hj => by rw [hwO, hsl]; match j, hj with | 0, _ => exact hv7.ext e7 | 1, _ => exact hv8.ext e8 | 2, _ => exact hv7.ext e7
  have hwol : ∀ j, j < 3 → ∀ b, (wO j).a = some (adr b) → H6.size ≤ b ∧ b < H15.size := fun j hj b hb => by
    have := (hwo j hj).lt hb
    refine ⟨?_, this⟩
    rw [hwO] at hb
    match j, hj with
    | 0, _ => exact hf7 b hb
    | 1, _ => have := hf8 b hb; omega
    | 2, _ => exact hf7 b hb
  have R1 := e9.row hr9 fun h => h
  have R2 := e13.row hr13 fun h => h
  have R3 := e14.row hr14 fun h => h
  have R4 := hr15
  clear hsS hsT hsO hsl hwS hwT hwO hL1 hL2 hL3 hL10 hL11 hL12 hv4 hv5 hv6 hv7 hv8 hf4 hf5 hf6 hf7 hf8 lt1s lt1t lt2s lt2t lt3s lt3t lt4 lt5 lt6 hr9 hr13 hr14 hr15 hz
  have hB15 : BkP (fun b => Φ b ∧ b < H.size) N H15 bk := (hB.cut).upd hX15 fun _ _ h => h
  refine LoopT.mk (fun σ H' => ∃ c : Nat, σ = c ∧ c ≤ 3 ∧ BkP (fun b => (Φ b ∧ b < H.size) ∨ (∃ i, i < c ∧ (z i ≤ b ∧ b < z (i + 1) ∨ z (3 + i) ≤ b ∧ b < z (4 + i))) ∨ H15.size ≤ b) (N + 1000 * c) H' bk ∧
      Upd (fun b => (Φ b ∧ b < H.size) ∨ ∃ i, i < c ∧ (z i ≤ b ∧ b < z (i + 1) ∨ z (3 + i) ≤ b ∧ b < z (4 + i))) H15 H') (fun σ _ => (3 - σ).toNat)
    ⟨0, rfl, by omega, hB15.mono (fun _ h => .inl h) (by omega), .refl _ _⟩ ?_
  rintro next1 _ H17 ⟨c, rfl, hc, hB17, hU17⟩ hnext1
  have z17 := hU17.size
  -- what has not had its turn stands
  have offM : ∀ {b : Nat}, H6.size ≤ b → ¬ ((Φ b ∧ b < H.size) ∨ ∃ i, i < c ∧ (z i ≤ b ∧ b < z (i + 1) ∨ z (3 + i) ≤ b ∧ b < z (4 + i))) := fun {b} hb h => by
    rcases h with h | ⟨i, hi, h⟩
    · omega
    · have := zm (i + 1) 6 (by omega); have := zm (4 + i) 6 (by omega); omega
  have offS : ∀ {b j : Nat}, c ≤ j → j < 3 → z j ≤ b → b < z (j + 1) → ¬ ((Φ b ∧ b < H.size) ∨ ∃ i, i < c ∧ (z i ≤ b ∧ b < z (i + 1) ∨ z (3 + i) ≤ b ∧ b < z (4 + i))) := fun {b j} hj hj3 h1 h2 h => by
    rcases h with h | ⟨i, hi, h⟩
    · have := zm 0 j (by omega); omega
    · have := zm (i + 1) j (by omega); have := zm (j + 1) (3 + i) (by omega); omega
  have offO : ∀ {b j : Nat}, c ≤ j → j < 3 → z (3 + j) ≤ b → b < z (4 + j) → ¬ ((Φ b ∧ b < H.size) ∨ ∃ i, i < c ∧ (z i ≤ b ∧ b < z (i + 1) ∨ z (3 + i) ≤ b ∧ b < z (4 + i))) := fun {b j} hj hj3 h1 h2 h => by
    rcases h with h | ⟨i, hi, h⟩
    · have := zm 0 (3 + j) (by omega); omega
    · have := zm (i + 1) (3 + j) (by omega); have := zm (4 + i) (3 + j) (by omega); omega
  have st17 : ∀ j, c ≤ j → j < 3 → LL (z j) H17 (sS j) (sT j) (stagesF (sl j)) := fun j hj hj3 => by
    have h := hst j hj3
    exact ⟨h.v.upd hU17 fun b hb => offS hj hj3 (h.fo b hb) (hsu j hj3 b hb), h.len, fun i hi => (h.it i hi).upd hU17 fun b hb => offS hj hj3 (h.ft i hi b hb) (htu j hj3 i hi b hb), h.ap, h.fo, h.ft⟩
  have wt17 : ∀ j, j < 3 → LL H9.size H17 (wS j) (wT j) (stagesF (sl j)) := fun j hj3 => by
    have h := hwt j hj3
    exact ⟨h.v.upd hU17 fun b hb => offM (by have := h.fo b hb; omega), h.len, fun i hi => (h.it i hi).upd hU17 fun b hb => offM (by have := h.ft i hi b hb; omega), h.ap, h.fo, h.ft⟩
  have so17 : ∀ j, c ≤ j → j < 3 → Vec H17 T_int (sO j) (ints (oF (sl j) picks)) := fun j hj hj3 => (hso j hj3).upd hU17 fun b hb => offO hj hj3 (hol j hj3 b hb).1 (hol j hj3 b hb).2
  have wo17 : ∀ j, j < 3 → Vec H17 T_int (wO j) (ints (oF (sl j) picks)) := fun j hj3 => (hwo j hj3).upd hU17 fun b hb => offM (hwol j hj3 b hb).1
  have r17 : ∀ {b : Nat} {T : TypeId} {vs : List Value}, Row H15 b T vs → H6.size ≤ b → Row H17 b T vs := fun hr hb => hU17.row hr (offM hb)
  have R1' := r17 R1 (by omega)
  have R2' := r17 R2 (by omega)
  have R3' := r17 R3 (by omega)
  have R4' := r17 R4 (by omega)
  have ix3 : ∀ {b j : Nat} {T : TypeId} {vs : List Value} {s : Sl} {Hx : Heap} {K : Sl → Prop}, Row Hx b T vs → vs[j]? = some (slV s) → j < 3 → K s → IxA 1 ⟨some (adr b), 3, 3⟩ (j : Int) fun a => Ld .sl a Hx K := fun {b j T vs s Hx K} hr hg hj hK => by
    refine IxA_adr (by omega) (by omega) ?_
    rw [Int.toNat_natCast, Nat.mul_one]
    exact Ld_sl (s := s) ((hr.cell j).trans hg) hK
  refine Br_dec (fun hlt => ?_) fun hge => ?_
  · have hc3 : c < 3 := by omega
    refine LoopT.mk (fun σ H' => H17 = H' ∧ ∃ j : Nat, σ = j ∧ c ≤ j ∧ j ≤ 3) (fun σ _ => (3 - σ).toNat) ⟨rfl, c, rfl, Nat.le_refl _, hc⟩ ?_
    rintro next2 _ _ ⟨rfl, j, rfl, hcj, hj⟩ hnext2
    refine Br_dec (fun hltj => ?_) fun hgej => ?_
    · have hj3 : j < 3 := by omega
      have hlj := hsll j hj3
      have h1 := stages_len (sl j)
      have h2 := oF_len (sl j) picks
      refine ix3 R1' (row1 j hj3) hj3 ?_
      refine ix3 R2' (row2 j hj3) hj3 ?_
      refine s_sames (st17 j hcj hj3) (wt17 j hj3) (by omega) (fun xs hxs => by have := stage_len _ xs hxs; omega) ?_
      refine ix3 R3' (row3 j hj3) hj3 ?_
      refine ix3 R4' (row4 j hj3) hj3 ?_
      refine s_same (so17 j hcj hj3).rl (wo17 j hj3).rl (by omega) ?_
      refine Jn_in ?_
      simp only [Bool.not_true, Br_false]
      rw [Lt_def, wrap_i64_id (by omega) (by omega)]
      exact hnext2 _ _ ⟨rfl, j + 1, by omega, by omega, by omega⟩ (by omega)
    · clear hnext2
      have hlc := hsll c hc3
      have h1 := stages_len (sl c)
      have h2 := oF_len (sl c) picks
      have hSt := st17 c (Nat.le_refl _) hc3
      have htl := hSt.len
      have offΦ : ∀ {b : Nat}, ¬ ((Φ b ∧ b < H.size) ∨ ∃ i, i < c ∧ (z i ≤ b ∧ b < z (i + 1) ∨ z (3 + i) ≤ b ∧ b < z (4 + i))) → b < H15.size → ¬ ((Φ b ∧ b < H.size) ∨ (∃ i, i < c ∧ (z i ≤ b ∧ b < z (i + 1) ∨ z (3 + i) ≤ b ∧ b < z (4 + i))) ∨ H15.size ≤ b) := fun {b} h hb h' => by
        rcases h' with h' | h' | h'
        · exact h (.inl h')
        · exact h (.inr h')
        · omega
      have zc := zm (c + 1) 6 (by omega)
      have zc2 := zm (4 + c) 6 (by omega)
      refine ix3 R1' (row1 c hc3) hc3 ?_
      refine s_keeps hB17 (by omega) hSt (fun xs hxs => by have := stage_len _ xs hxs; omega) (by omega) (fun b hb => offΦ (offS (Nat.le_refl _) hc3 (hSt.fo b hb) (hsu c hc3 b hb)) (by have := hsu c hc3 b hb; omega))
        (fun i hi b hb => offΦ (offS (Nat.le_refl _) hc3 (hSt.ft i hi b hb) (htu c hc3 i hi b hb)) (by have := htu c hc3 i hi b hb; omega)) fun H22 hB22 hU22 => ?_
      have z22 := hU22.size
      have inS : ∀ {b : Nat}, ((sS c).a = some (adr b) ∨ ∃ i, ∃ h : i < (sT c).length, (sT c)[i].a = some (adr b)) → z c ≤ b ∧ b < z (c + 1) := fun {b} h => by
        rcases h with h | ⟨i, hi, h⟩
        · exact ⟨hSt.fo b h, hsu c hc3 b h⟩
        · exact ⟨hSt.ft i hi b h, htu c hc3 i hi b h⟩
      have R3'' := hU22.row R3' fun h => by
        rcases h with h | h
        · rcases h with h | h | h
          · exact offM (b := b3) (by omega) (.inl h)
          · exact offM (b := b3) (by omega) (.inr h)
          · have := R3.lt; omega
        · have := inS h; omega
      have hso22 := (so17 c (Nat.le_refl _) hc3).upd hU22 fun b hb h => by
        have hb' := hol c hc3 b hb
        rcases h with h | h
        · exact offΦ (offO (Nat.le_refl _) hc3 hb'.1 hb'.2) (by omega) h
        · have := inS h; have := zm (c + 1) (3 + c) (by omega); omega
      refine ix3 R3'' (row3 c hc3) hc3 ?_
      refine s_keep hB22 (by omega) hso22 (by omega) (fun b hb h => ?_) fun H23 hB23 hU23 => ?_
      · have hb' := hol c hc3 b hb
        rcases h with h | h | h
        · exact offΦ (offO (Nat.le_refl _) hc3 hb'.1 hb'.2) (by omega) h
        · have := inS h; have := zm (c + 1) (3 + c) (by omega); omega
        · omega
      have z23 := hU23.size
      refine s_grows hB23 (by omega) fun H24 hB24 hU24 => ?_
      rw [Lt_def, wrap_i64_id (by omega) (by omega)]
      have toP : ∀ b, (((Φ b ∧ b < H.size) ∨ (∃ i, i < c ∧ (z i ≤ b ∧ b < z (i + 1) ∨ z (3 + i) ≤ b ∧ b < z (4 + i))) ∨ H15.size ≤ b) ∨ ((sS c).a = some (adr b) ∨ ∃ i, ∃ h : i < (sT c).length, (sT c)[i].a = some (adr b)) ∨ H17.size ≤ b) ∨ (sO c).a = some (adr b) ∨ H22.size ≤ b →
          (Φ b ∧ b < H.size) ∨ (∃ i, i < c + 1 ∧ (z i ≤ b ∧ b < z (i + 1) ∨ z (3 + i) ≤ b ∧ b < z (4 + i))) ∨ H15.size ≤ b := fun b h => by
        rcases h with ((h | ⟨i, hi, h⟩ | h) | h | h) | h | h
        · exact .inl h
        · exact .inr (.inl ⟨i, by omega, h⟩)
        · exact .inr (.inr h)
        · exact .inr (.inl ⟨c, by omega, .inl (inS h)⟩)
        · exact .inr (.inr (by omega))
        · exact .inr (.inl ⟨c, by omega, .inr (hol c hc3 b h)⟩)
        · exact .inr (.inr (by omega))
      have toM : ∀ b, b < H15.size → (Φ b ∧ b < H.size) ∨ (∃ i, i < c + 1 ∧ (z i ≤ b ∧ b < z (i + 1) ∨ z (3 + i) ≤ b ∧ b < z (4 + i))) ∨ H15.size ≤ b → (Φ b ∧ b < H.size) ∨ ∃ i, i < c + 1 ∧ (z i ≤ b ∧ b < z (i + 1) ∨ z (3 + i) ≤ b ∧ b < z (4 + i)) := fun b hb h => by
        rcases h with h | h | h
        · exact .inl h
        · exact .inr h
        · omega
      refine hnext1 _ _ ⟨c + 1, by omega, by omega, hB24.mono (fun b h => ?_) (by omega), ?_⟩ (by omega)
      · rcases h with h | h
        · exact toP b h
        · exact .inr (.inr (by omega))
      · have u1 : Upd (fun b => (Φ b ∧ b < H.size) ∨ ∃ i, i < c + 1 ∧ (z i ≤ b ∧ b < z (i + 1) ∨ z (3 + i) ≤ b ∧ b < z (4 + i))) H15 H17 := hU17.mono fun b _ h => h.imp id fun ⟨i, hi, h⟩ => ⟨i, by omega, h⟩
        refine ((u1.trans hU22 fun b hb h => toM b hb (toP b (.inl ?_))).trans hU23 fun b hb h => toM b hb (toP b ?_)).trans hU24 fun b hb h => toM b hb (toP b h)
        · rcases h with h | h
          · exact .inl h
          · exact .inr (.inl h)
        · rcases h with h | h
          · exact .inl h
          · exact .inr (.inl h)
  · have hc3 : c = 3 := by omega
    subst hc3
    refine s_looks hB17 (by omega) ?_
    refine hk H17 (hB17.mono (fun b h => ?_) (by omega)) (hX15.mono (fun _ _ h => h.elim) |>.trans hU17 fun b hb h => ?_)
    · rcases h with h | ⟨i, hi, h⟩ | h
      · exact .inl h.1
      · have := zm 0 i (by omega); have := zm 0 (3 + i) (by omega); exact .inr (by omega)
      · exact .inr (by omega)
    · rcases h with h | ⟨i, hi, h⟩
      · exact h.1
      · have := zm 0 i (by omega); have := zm 0 (3 + i) (by omega); omega
end Go.Proofs.Ytpkpebgpiakbeaa
