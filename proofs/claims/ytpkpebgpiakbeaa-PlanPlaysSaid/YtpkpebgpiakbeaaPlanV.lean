/-
  The document's own plan: New; lists that are lent; lists held against each other.
-/
import Derived.Test.YtpkpebgpiakbeaaPlanU
import Derived.Test.YtpkpebgpiakbeaaHcRec
namespace Go.Proofs.Ytpkpebgpiakbeaa
set_option linter.unusedVariables false
set_option linter.unusedSimpArgs false
open Go.Proofs.Ytpkpebgpiakbeaa.Hc Go.Proofs.Ytpkpebgpiakbeaa.Hc.Plan
set_option maxRecDepth 100000
variable {H : Heap} {p : Nat} {l : List PSys}

theorem s_refNew {s : Sl} (hs : SysL H s l) (hl : l.length ≤ 1000) {k : Option Addr → Heap → Prop} (hk : ∀ p H', RefAt H' p l → Ext H H' → k (some (adr p)) H') :
    CallT Pg f_hindcastref18_New [.slice s.a s.len s.cap] (.one (.c .ptr)) H k := by
  apply c_hindcastref18_New
  unfold v_hindcastref18_New
  have hsl := hs.1
  refine Nw_row fun p H1 hp hE1 _ hr1 => ?_
  have z1 := hE1.size
  refine LoopT.mk (fun σ H' => ∃ (i : Nat) (rs ws : Sl) (rr wr : List Sl), σ = i ∧ i ≤ l.length ∧ Ext H H' ∧ Rec H' p T_hindcastref18_Plan [(T_Sl_int, rs, rr.map slV), (T_Sl_int, ws, wr.map slV)] [] ∧ rr.length = i ∧ wr.length = i ∧
      (∀ m (h : m < rr.length) (h' : m < l.length), Vec H' T_int rr[m] (ints l[m].1)) ∧ (∀ m (h : m < wr.length) (h' : m < l.length), Vec H' T_int wr[m] (ints l[m].2)) ∧ (∀ b, RecB p [(T_Sl_int, rs, rr.map slV), (T_Sl_int, ws, wr.map slV)] b → H.size ≤ b) ∧ (∀ m, m < i → ∀ h : m < l.length, l[m].1.length ≤ 1000 ∧ l[m].2.length ≤ 1000)) (fun σ _ => (l.length - σ).toNat)
    ⟨0, nilS, nilS, [], [], rfl, by omega, hE1, ⟨hr1, fun i hi => ?_, fun i j hi hj hne b hb => ?_, fun i hi b hb => ?_⟩, rfl, rfl, by simp, by simp, fun b hb => ?_, fun m h => by omega⟩ ?_
  · match i, hi with
    | 0, _ => exact .nil _ _
    | 1, _ => exact .nil _ _
  · match i, hi with
    | 0, _ => cases hb
    | 1, _ => cases hb
  · match i, hi with
    | 0, _ => cases hb
    | 1, _ => cases hb
  · rcases hb with rfl | ⟨i, hi, hb⟩
    · omega
    · match i, hi with
      | 0, _ => cases hb
      | 1, _ => cases hb
  rintro next _ H2 ⟨i, rs, ws, rr, wr, rfl, hi, hE2, hR, hrl, hwl, her, hew, hfo, hbd⟩ hnext
  have z2 := hE2.size
  refine Br_dec (fun hlt => ?_) fun hge => ?_
  · have hi1 : i < l.length := by omega
    simp only [NilCk_some, adr_add]
    obtain ⟨a0, ha0, c, hc0, hcr, hcw, hb1, hb2⟩ := hs.2 i hi1
    have ix : ∀ {k : Addr → Prop}, k (a0.add (i * 8)) → IxA 8 s (i : Int) k := fun {k} hk => by
      refine IxA.mk ha0 (by omega) (by omega) ?_
      rw [Int.toNat_natCast]; exact hk
    have hcx : ∀ {H' : Heap}, Ext H H' → hcells H' (a0.add (i * 8)) 0 (sysC c) := fun hu => hcells_upd hu (fun h => h) hc0
    refine Ld_sl (s := rs) ((hR.row.cell 0).trans rfl) ?_
    refine ix ?_
    refine Ld_sl (s := c.2.2.1) (hcx hE2).2.2.1 ?_
    refine s_copied (hcr.ext hE2) (by omega) fun r1 H3 hv3 hf3 hE3 => ?_
    have hR3 := hR.ext hE3
    refine Stab_1 ((hR3.row.cell 0).trans rfl) ?_
    refine Nw_row fun b2 H4 hb2' hE4 _ hr4 => ?_
    have hR4 := hR3.ext hE4
    have hE4' := (hE2.ext hE3).ext hE4
    refine Stab_2 (hcx hE4').2.2.1 ((hR4.row.cell 0).trans rfl) ?_
    have z3 := hE3.size
    have z4 := hE4.size
    refine hR4.app (q := 0) (by simp) (w := slV r1) (x := ⟨some (adr b2), 1, 1⟩) hr4.rd_all rfl rfl (by omega) (by simp; omega) fun l1 H5 hP5 => ?_
    have fo0 : ∀ b, rs.a = some (adr b) → H.size ≤ b := fun b e => hfo b (.inr ⟨0, by simp, e⟩)
    have fo1 : ∀ b, ws.a = some (adr b) → H.size ≤ b := fun b e => hfo b (.inr ⟨1, by simp, e⟩)
    have up5 : Upd (fun b => rs.a = some (adr b)) H4 H5 := hP5.up
    have hE5' := hE4'.trans up5 fun b hb e => by have := fo0 b e; omega
    refine Stab_1 (hcx hE5').2.2.1 ?_
    refine hP5.st fun H6 hR6 up6 => ?_
    simp only [List.set_cons_zero, List.getElem_cons_zero] at hR6 up6
    have hE6' : Ext H H6 := hE4'.trans up6 fun b hb e => by
      rcases e with e | e
      · omega
      · have := fo0 b e; omega
    have hla : ∀ b, l1.a = some (adr b) → H.size ≤ b := fun b hb => by
      rcases hP5.la with e | e
      · rw [e] at hb; exact fo0 b hb
      · rw [e] at hb; cases hb; omega
    refine Ld_sl (s := ws) ((hR6.row.cell 1).trans rfl) ?_
    refine ix ?_
    refine Ld_sl (s := c.2.2.2.1) (hcx hE6').2.2.2.1 ?_
    refine s_copied (hcw.ext hE6') (by omega) fun r2 H7 hv7 hf7 hE7 => ?_
    have hR7 := hR6.ext hE7
    refine Stab_1 ((hR7.row.cell 1).trans rfl) ?_
    refine Nw_row fun b3 H8 hb3 hE8 _ hr8 => ?_
    have hR8 := hR7.ext hE8
    have hE8' := (hE6'.ext hE7).ext hE8
    refine Stab_2 (hcx hE8').2.2.2.1 ((hR8.row.cell 1).trans rfl) ?_
    have z6 := up6.size
    have z7 := hE7.size
    have z8 := hE8.size
    refine hR8.app (q := 1) (by simp) (w := slV r2) (x := ⟨some (adr b3), 1, 1⟩) hr8.rd_all rfl rfl (by omega) (by simp; omega) fun l2 H9 hP9 => ?_
    have up9 : Upd (fun b => ws.a = some (adr b)) H8 H9 := hP9.up
    have hE9' := hE8'.trans up9 fun b hb e => by have := fo1 b e; omega
    refine Stab_1 (hcx hE9').2.2.2.1 ?_
    refine hP9.st fun H10 hR10 up10 => ?_
    simp only [List.set_cons_zero, List.getElem_cons_zero, List.set_cons_succ, List.getElem_cons_succ] at hR10 up10
    have hE10' : Ext H H10 := hE8'.trans up10 fun b hb e => by
      rcases e with e | e
      · omega
      · have := fo1 b e; omega
    have hlb : ∀ b, l2.a = some (adr b) → H.size ≤ b := fun b hb => by
      rcases hP9.la with e | e
      · rw [e] at hb; exact fo1 b hb
      · rw [e] at hb; cases hb; omega
    rw [Lt_def, wrap_i64_id (by omega) (by omega)]
    have rp : Row H4 p T_hindcastref18_Plan [slV rs, slV ws] := hR4.row
    have rp8 : Row H8 p T_hindcastref18_Plan [slV l1, slV ws] := hR8.row
    have M6 : ∀ b, (b = p ∨ rs.a = some (adr b)) → ∃ vs, Row H4 b T_hindcastref18_Plan vs ∨ Row H4 b T_Sl_int vs := fun b e => by
      rcases e with rfl | e
      · exact ⟨_, .inl rp⟩
      · obtain ⟨ws', hw⟩ := Vec.rowOf (hR4.vs 0 (by simp)) e; exact ⟨ws', .inr hw⟩
    have M10 : ∀ b, (b = p ∨ ws.a = some (adr b)) → ∃ vs, Row H8 b T_hindcastref18_Plan vs ∨ Row H8 b T_Sl_int vs := fun b e => by
      rcases e with rfl | e
      · exact ⟨_, .inl rp8⟩
      · obtain ⟨ws', hw⟩ := Vec.rowOf (hR8.vs 1 (by simp)) e; exact ⟨ws', .inr hw⟩
    have kp : ∀ {x : Sl} {xs : List Int}, Vec H4 T_int x (ints xs) → Vec H10 T_int x (ints xs) := fun h =>
      keepV up10 M10 ((keepV up6 M6 h (by decide) (by decide)).ext (hE7.ext hE8)) (by decide) (by decide)
    refine hnext _ _ ⟨i + 1, l1, l2, rr ++ [r1], wr ++ [r2], by omega, by omega, hE10', by rw [List.map_append, List.map_append]; exact hR10, by simp; omega, by simp; omega, fun m hm hm' => ?_, fun m hm hm' => ?_, fun b hb => ?_, fun m hm h => ?_⟩ (by omega)
    · rcases Nat.lt_or_ge m rr.length with e | e
      · rw [List.getElem_append_left e]; exact kp ((her m e hm').ext (hE3.ext hE4))
      · have : m = i := by simp at hm; omega
        subst this
        rw [List.getElem_append_right e]
        simp only [hrl, Nat.sub_self, List.getElem_cons_zero]
        exact kp (hv3.ext hE4)
    · rcases Nat.lt_or_ge m wr.length with e | e
      · rw [List.getElem_append_left e]; exact kp ((hew m e hm').ext (hE3.ext hE4))
      · have : m = i := by simp at hm; omega
        subst this
        rw [List.getElem_append_right e]
        simp only [hwl, Nat.sub_self, List.getElem_cons_zero]
        exact keepV up10 M10 (hv7.ext hE8) (by decide) (by decide)
    · rcases hb with rfl | ⟨j, hj, hb⟩
      · omega
      · match j, hj with
        | 0, _ => exact hla b hb
        | 1, _ => exact hlb b hb
    · rcases Nat.lt_or_ge m i with e | e
      · exact hbd m e h
      · have : m = i := by omega
        subst this
        exact ⟨hb1, hb2⟩
  · have : i = l.length := by omega
    subst this
    refine hk p H2 ⟨rs, ws, rr, wr, hR.row, (Vec.rl (hR.vs 0 (by simp))), (Vec.rl (hR.vs 1 (by simp))), hrl, hwl, fun m h h' => (her m h h').rl, fun m h h' => (hew m h h').rl, hl, fun x hx => ?_⟩ hE2
    obtain ⟨m, hm, rfl⟩ := List.getElem_of_mem hx
    exact hbd m hm hm

/-- Numbers from seventy on. -/
def sev (j : Nat) : List Int := (List.range j).map fun i : Nat => 70 + (i : Int)
@[simp] theorem sev_len (j : Nat) : (sev j).length = j := by simp [sev]
theorem sev_succ (j : Nat) : sev (j + 1) = sev j ++ [70 + (j : Int)] := by simp [sev, List.range_succ]
/-- Numbers with eight behind them. -/
def Len8 (H : Heap) (t : Sl) (xs : List Int) : Prop := Vec H T_int ⟨t.a, t.len + 8, t.cap⟩ (ints (xs ++ sev 8)) ∧ t.len = xs.length
theorem s_lent {s : Sl} {xs : List Int} (hs : RI H s xs) (hl : xs.length ≤ 2 ^ 44) {k : Sl → Heap → Prop}
    (hk : ∀ t H', Len8 H' t xs → (∀ b, t.a = some (adr b) → H.size ≤ b) → Ext H H' → k t H') :
    CallT Pg f_hindcastlaw18_lent [.slice s.a s.len s.cap] (.one (.c .sl)) H k := by
  apply c_hindcastlaw18_lent
  unfold v_hindcastlaw18_lent
  have hsl := hs.len
  refine App_vec (Vec.nil H T_int) hs.rd (by simp [hsl]) (ints_one _) (by omega) (by simp; omega) fun l1 H1 hv1 hU1 hl1 hs1 => ?_
  rw [List.nil_append] at hv1
  have hE1 : Ext H H1 := hU1.mono fun b hb e => by cases e.1
  refine LoopT.mk (fun σ H' => ∃ j : Nat, σ.2 = j ∧ j ≤ 8 ∧ Ext H H' ∧ Vec H' T_int σ.1 (ints (xs ++ sev j)) ∧ (∀ b, σ.1.a = some (adr b) → H.size ≤ b)) (fun σ _ => (8 - σ.2).toNat)
    ⟨0, rfl, by omega, hE1, by simpa [sev] using hv1, fun b hb => ?_⟩ ?_
  · dsimp only at hb
    rcases hl1 with e | e
    · rw [e] at hb; cases hb
    · rw [e] at hb; cases hb; exact Nat.le_refl _
  rintro next ⟨out, _⟩ H2 ⟨j, rfl, hj, hE2, hv2, hf2⟩ hnext
  dsimp only at hv2 hf2 ⊢
  have hol := hv2.len
  simp only [List.length_map, List.length_append, sev_len] at hol
  refine Br_dec (fun hlt => ?_) fun hge => ?_
  · rw [Lt_def, wrap_i64_id (x := 70 + (j : Int)) (by omega) (by omega)]
    refine Nw_row fun b1 H3 hb1 hE3 _ hr3 => ?_
    refine App_vec (hv2.ext hE3) (ws := ints [70 + (j : Int)]) hr3.rd_all rfl (ints_one _) (by omega) (by simp; omega) fun l2 H4 hv4 hU4 hl4 hs4 => ?_
    rw [Lt_def, wrap_i64_id (by omega) (by omega)]
    have z2 := hE2.size
    have z3 := hE3.size
    rw [ints, ints, ← List.map_append, List.append_assoc, ← sev_succ] at hv4
    refine hnext _ _ ⟨j + 1, by dsimp only; omega, by omega, (hE2.ext hE3).trans hU4 fun b hb e => by have := hf2 b e.1; omega, hv4, fun b hb => ?_⟩ (by dsimp only; omega)
    dsimp only at hb
    rcases hl4 with e | e
    · rw [e] at hb; exact hf2 b hb
    · rw [e] at hb; cases hb; omega
  · have : j = 8 := by omega
    subst this
    have hoc := hv2.lc
    refine SlA0 (by omega) (by omega) (by omega) ?_
    rw [Int.toNat_natCast, Int.toNat_natCast, hsl]
    refine hk ⟨out.a, xs.length, out.cap⟩ H2 ⟨?_, rfl⟩ hf2 hE2
    have e1 : (⟨out.a, xs.length + 8, out.cap⟩ : Sl) = out := by
      cases out; simp at hol ⊢; omega
    exact e1 ▸ hv2
theorem Len8.upd {M : Nat → Prop} {H' : Heap} (hu : Upd M H H') {t : Sl} {xs : List Int} (h : Len8 H t xs) (hm : ∀ b, t.a = some (adr b) → ¬ M b) : Len8 H' t xs := ⟨h.1.upd hu hm, h.2⟩
theorem Len8.ri {t : Sl} {xs : List Int} (h : Len8 H t xs) : RI H t xs := by
  have hc := h.1.lc
  dsimp only at hc
  have := h.1.rl.pre (f := Value.int .i64) (xs := xs ++ sev 8) (n := t.len) (c := t.cap) (by simp [h.2]) (by omega)
  rwa [show (xs ++ sev 8).take t.len = xs by rw [h.2, List.take_left]] at this
/-- As they were; their owner writes over them. -/
theorem s_back {t s : Sl} {xs : List Int} (ht : Len8 H t xs) (hs : RI H s xs) (hl : xs.length ≤ 2 ^ 44) (hap : xs ≠ [] → ∀ a, s.a = some a → t.a ≠ some (adr a.block)) {k : Bool → Heap → Prop}
    (hk : ∀ H', Vec H' T_int ⟨t.a, t.len + 8, t.cap⟩ (ints (List.replicate (xs.length + 8) (-3))) → Upd (fun b => t.a = some (adr b)) H H' → k true H') :
    CallT Pg f_hindcastlaw18_back [.slice t.a t.len t.cap, .slice s.a s.len s.cap] (.one (.c .bool)) H k := by
  apply c_hindcastlaw18_back
  unfold v_hindcastlaw18_back
  have hsl := hs.len
  have htl := ht.2
  have htc := ht.1.lc
  dsimp only at htc
  rw [Lt_def, wrap_i64_id (by omega) (by omega)]
  refine SlA0 (by omega) (by omega) (by omega) ?_
  rw [show ((s.len : Int) + 8).toNat = t.len + 8 by omega, Int.toNat_natCast]
  refine LoopT.mk (fun σ H' => σ.1 = true ∧ ∃ i : Nat, σ.2 = i ∧ i ≤ xs.length + 8 ∧ Upd (fun b => t.a = some (adr b)) H H' ∧ Vec H' T_int ⟨t.a, t.len + 8, t.cap⟩ (ints (List.replicate i (-3) ++ (xs ++ sev 8).drop i))) (fun σ _ => (xs.length + 8 - σ.2).toNat)
    ⟨rfl, 0, rfl, by omega, .refl _ _, by simpa using ht.1⟩ ?_
  rintro next ⟨_, _⟩ H1 ⟨rfl, i, rfl, hi, hU1, hv1⟩ hnext
  dsimp only
  have hs1 : RI H1 s xs := hs.upd' hU1 fun hne a ha e => hap hne a ha e
  have xl : (xs ++ sev 8).length = xs.length + 8 := by simp
  refine Br_dec (fun hlt => ?_) fun hge => ?_
  · have hi1 : i < (xs ++ sev 8).length := by omega
    have hrl : RI H1 ⟨t.a, t.len + 8, t.cap⟩ (List.replicate i (-3) ++ (xs ++ sev 8).drop i) := hv1.rl
    have hil : i < (List.replicate i (-3) ++ (xs ++ sev 8).drop i).length := by simp; omega
    have hget : (List.replicate i (-3) ++ (xs ++ sev 8).drop i)[i] = (xs ++ sev 8)[i] := by
      rw [List.getElem_append_right (by simp)]
      simp
    refine Jn.mk (fun b H' => b = true ∧ H1 = H') (fun kk hkk => ?_) ?_
    · refine Br_dec (fun hin => ?_) fun hout => ?_
      · have hix : i < xs.length := by omega
        refine Jn_in ?_
        rw [Br_true]
        refine IxA_rl hrl rfl hil fun a1 h1 => ?_
        refine Ld_int h1 ?_
        refine IxA_rl hs1 rfl hix fun a2 h2 => ?_
        refine Ld_int h2 ?_
        rw [hget, List.getElem_append_left hix, beq_self_eq_true]
        exact hkk _ _ ⟨rfl, rfl⟩
      · refine Jn_in ?_
        rw [Br_true]
        refine IxA_rl hrl rfl hil fun a1 h1 => ?_
        refine Ld_int h1 ?_
        rw [Lt_def, wrap_i64_id (x := 70 + (i : Int)) (by omega) (by omega), Lt_def, wrap_i64_id (by omega) (by omega)]
        rw [hget, List.getElem_append_right (by omega)]
        have : (sev 8)[i - xs.length]'(by simp; omega) = 70 + (i : Int) - (s.len : Int) := by
          simp only [sev, List.getElem_map, List.getElem_range]; omega
        rw [this, beq_self_eq_true]
        exact hkk _ _ ⟨rfl, rfl⟩
    rintro _ _ ⟨rfl, rfl⟩
    refine IxA_St_vec' hv1 (j := i) rfl (by simp; omega) fun H5 hv5 hU5 _ => ?_
    rw [Lt_def, wrap_i64_id (by omega) (by omega)]
    rw [ints_set] at hv5
    have e : (List.replicate i (-3 : Int) ++ (xs ++ sev 8).drop i).set i (-3) = List.replicate (i + 1) (-3) ++ (xs ++ sev 8).drop (i + 1) := by
      rw [List.drop_eq_getElem_cons hi1]
      have := set_mid' (List.replicate i (-3 : Int)) ((xs ++ sev 8).drop (i + 1)) (xs ++ sev 8)[i] (-3)
      rw [List.length_replicate] at this
      rw [this, List.replicate_succ', List.append_assoc]; rfl
    rw [e] at hv5
    exact hnext _ _ ⟨rfl, i + 1, by dsimp only; omega, by omega, hU1.trans hU5 fun _ _ h => h, hv5⟩ (by dsimp only; omega)
  · have : i = xs.length + 8 := by omega
    subst this
    rw [List.drop_eq_nil_of_le (by omega), List.append_nil] at hv1
    exact hk H1 hv1 hU1

theorem s_same {s t : Sl} {xs : List Int} (hs : RI H s xs) (ht : RI H t xs) (hl : xs.length ≤ 2 ^ 60) {k : Bool → Heap → Prop} (hk : k true H) :
    CallT Pg f_hindcastlaw18_same [.slice s.a s.len s.cap, .slice t.a t.len t.cap] (.one (.c .bool)) H k := by
  apply c_hindcastlaw18_same
  unfold v_hindcastlaw18_same
  have hsl := hs.len
  have htl := ht.len
  rw [show ((s.len : Int) != (t.len : Int)) = false by simp; omega, Br_false]
  refine LoopT.mk (fun σ H' => H = H' ∧ ∃ i : Nat, σ = i ∧ i ≤ xs.length) (fun σ _ => (xs.length - σ).toNat) ⟨rfl, 0, rfl, by omega⟩ ?_
  rintro next _ _ ⟨rfl, i, rfl, hi⟩ hnext
  refine Br_dec (fun hlt => ?_) fun _ => hk
  have hi1 : i < xs.length := by omega
  refine IxA_rl hs rfl hi1 fun a1 h1 => ?_
  refine Ld_int h1 ?_
  refine IxA_rl ht rfl hi1 fun a2 h2 => ?_
  refine Ld_int h2 ?_
  rw [bne_self_eq_false, Br_false, Lt_def, wrap_i64_id (by omega) (by omega)]
  exact hnext _ _ ⟨rfl, i + 1, by omega, by omega⟩ (by omega)
theorem s_sames {lo lo' : Nat} {s t : Sl} {ts us : List Sl} {xss : List (List Int)} (hs : LL lo H s ts xss) (ht : LL lo' H t us xss) (hl : xss.length ≤ 2 ^ 60) (hl2 : ∀ xs ∈ xss, xs.length ≤ 2 ^ 60) {k : Bool → Heap → Prop} (hk : k true H) :
    CallT Pg f_hindcastlaw18_sames [.slice s.a s.len s.cap, .slice t.a t.len t.cap] (.one (.c .bool)) H k := by
  apply c_hindcastlaw18_sames
  unfold v_hindcastlaw18_sames
  have hsl := hs.v.len
  have htl := ht.v.len
  have h1 := hs.len
  have h2 := ht.len
  simp only [List.length_map] at hsl htl
  rw [show ((s.len : Int) != (t.len : Int)) = false by simp; omega, Br_false]
  refine LoopT.mk (fun σ H' => H = H' ∧ ∃ i : Nat, σ = i ∧ i ≤ xss.length) (fun σ _ => (xss.length - σ).toNat) ⟨rfl, 0, rfl, by omega⟩ ?_
  rintro next _ _ ⟨rfl, i, rfl, hi⟩ hnext
  refine Br_dec (fun hlt => ?_) fun _ => hk
  have hi1 : i < ts.length := by omega
  have hi2 : i < us.length := by omega
  refine IxA_rl (f := slV) (xs := ts) hs.v.rl rfl hi1 fun a1 g1 => ?_
  refine Ld_sl (s := ts[i]) g1 ?_
  refine IxA_rl (f := slV) (xs := us) ht.v.rl rfl hi2 fun a2 g2 => ?_
  refine Ld_sl (s := us[i]) g2 ?_
  have hm : xss.getD i [] ∈ xss := by rw [List.getD_eq_getElem?_getD, List.getElem?_eq_getElem (by omega)]; exact List.getElem_mem _
  refine s_same (hs.it i hi1).rl (ht.it i hi2).rl (hl2 _ hm) ?_
  rw [Bool.not_true, Br_false, Lt_def, wrap_i64_id (by omega) (by omega)]
  exact hnext _ _ ⟨rfl, i + 1, by omega, by omega⟩ (by omega)
end Go.Proofs.Ytpkpebgpiakbeaa
