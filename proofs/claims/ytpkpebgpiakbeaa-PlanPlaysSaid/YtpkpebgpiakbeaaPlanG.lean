/-
  The law's systems: made, listed, held against what they were.
-/
import Derived.Test.YtpkpebgpiakbeaaPlanL
namespace Go.Proofs.Ytpkpebgpiakbeaa
set_option linter.unusedVariables false
set_option linter.unusedSimpArgs false
open Go.Proofs.Ytpkpebgpiakbeaa.Hc Go.Proofs.Ytpkpebgpiakbeaa.Hc.Plan
set_option maxRecDepth 100000

/-- A caller's slice of the law's systems reads as this list. -/
def LawL (H : Heap) (s : Sl) (L : List PSys) : Prop := s.len = L.length ∧ L.length ≤ 2 ^ 60 ∧ ∀ i (h : i < L.length), ∃ a, s.a = some a ∧ ∃ r w : Sl, hcells H (a.add (i * 2)) 0 [slV r, slV w] ∧ RI H r L[i].1 ∧ RI H w L[i].2
/-- What the law makes of them. -/
def cutL (L : List PSys) : List PSys := (L.take 200).map fun x => (x.1.take 30, x.2.take 30)
theorem cutL_len (L : List PSys) : (cutL L).length = Nat.min 200 L.length := by simp [cutL]
theorem cutL_get (L : List PSys) (i : Nat) (h : i < 200) (h' : i < L.length) : (cutL L)[i]? = some (L[i].1.take 30, L[i].2.take 30) := by
  simp [cutL, h, h']
theorem cutL_mem (L : List PSys) : ∀ x ∈ cutL L, x.1.length ≤ 30 ∧ x.2.length ≤ 30 := by
  intro x hx
  obtain ⟨y, _, rfl⟩ := List.mem_map.1 hx
  simp; omega

theorem sysC_len (c : SysC) : (sysC c).length = 8 := rfl
theorem sysC_one (c : SysC) : ∀ w ∈ sysC c, w.oneCell' = true := by
  intro w hw
  simp only [sysC, List.mem_cons, List.not_mem_nil, or_false] at hw
  rcases hw with rfl | rfl | rfl | rfl | rfl | rfl | rfl | rfl <;> rfl
instance : Inhabited SysC := ⟨(nilS, nilS, nilS, nilS, ByteArray.empty, 0, 0, nilS)⟩

/-- One of the law's own: its two lists are its own. -/
structure One (lo : Nat) (H : Heap) (c : SysC) (x : PSys) : Prop where
  r : Vec H T_int c.2.2.1 (ints x.1)
  w : Vec H T_int c.2.2.2.1 (ints x.2)
  wl : c.1.len = 2
  ol : c.2.1.len = 1
  fr : ∀ b, c.2.2.1.a = some (adr b) → lo ≤ b
  fw : ∀ b, c.2.2.2.1.a = some (adr b) → lo ≤ b
theorem One.ext {lo : Nat} {H H' : Heap} (hu : Ext H H') {c : SysC} {x : PSys} (h : One lo H c x) : One lo H' c x := ⟨h.r.ext hu, h.w.ext hu, h.wl, h.ol, h.fr, h.fw⟩

theorem s_systems {s : Sl} {L : List PSys} {H0 H : Heap} (hs : LawL H0 s L) (hE : Ext H0 H) {k : Sl → Heap → Prop}
    (hk : ∀ (out : Sl) (cs : List SysC) (H' : Heap), VecN H' T_api_System 8 out (cs.flatMap sysC) → cs.length = (cutL L).length → (∀ i (h : i < cs.length) (h' : i < (cutL L).length), One H.size H' cs[i] (cutL L)[i]) → (∀ b, out.a = some (adr b) → H.size ≤ b) → Ext H H' → k out H') :
    CallT Pg f_hindcastlaw18_systems [.slice s.a s.len s.cap] (.one (.c .sl)) H k := by
  apply c_hindcastlaw18_systems
  unfold v_hindcastlaw18_systems
  have hsl := hs.1
  have hLl := hs.2.1
  have cl := cutL_len L
  refine LoopT.mk (fun σ H' => ∃ (i : Nat) (cs : List SysC), σ.2 = i ∧ i ≤ (cutL L).length ∧ Ext H H' ∧ VecN H' T_api_System 8 σ.1 (cs.flatMap sysC) ∧ cs.length = i ∧ (∀ j (h : j < cs.length) (h' : j < (cutL L).length), One H.size H' cs[j] (cutL L)[j]) ∧ (∀ b, σ.1.a = some (adr b) → H.size ≤ b)) (fun σ _ => (200 - σ.2).toNat)
    ⟨0, [], rfl, by omega, .refl _ _, .nil _ _ _, rfl, by simp, (fun b h => by cases h)⟩ ?_
  rintro next ⟨out, _⟩ H1 ⟨i, cs, rfl, hi, hE1, hv1, hcl, hone, hfo⟩ hnext
  dsimp only at hv1 hfo ⊢
  have z1 := hE1.size
  have hmin : (cutL L).length ≤ 200 ∧ (cutL L).length ≤ L.length := by rw [cl]; exact ⟨Nat.min_le_left _ _, Nat.min_le_right _ _⟩
  have hmin2 : i < 200 → i < L.length → i < (cutL L).length := fun h1 h2 => by rw [cl]; exact Nat.lt_min.2 ⟨h1, h2⟩
  refine Jn.mk (fun b H' => H1 = H' ∧ b = decide (i < (cutL L).length)) (fun kk hkk => ?_) ?_
  · refine Br_dec (fun h => hkk _ _ ⟨rfl, ?_⟩) fun h => hkk _ _ ⟨rfl, by rw [decide_eq_false (by omega)]⟩
    rw [Bool.eq_iff_iff, decide_eq_true_eq, decide_eq_true_eq]
    exact ⟨fun h' => hmin2 (by omega) (by omega), fun h' => by omega⟩
  rintro _ _ ⟨rfl, rfl⟩
  refine Br_dec (fun hlt => ?_) fun hge => ?_
  · have hi1 : i < L.length := by omega
    obtain ⟨a, ha, r, w, hc, hr, hw⟩ := hs.2.2 i hi1
    have ixs : ∀ {k : Addr → Prop}, k (a.add (i * 2)) → IxA 2 s (i : Int) k := fun {k} hk => by
      refine IxA.mk ha (by omega) (by omega) ?_
      rw [Int.toNat_natCast]; exact hk
    have lawc : ∀ {H' : Heap}, Ext H H' → hcell H' (a.add (i * 2)) = some (slV r) ∧ hcell H' ((a.add (i * 2)).add 1) = some (slV w) := fun hu =>
      have h := hcells_upd (hE.trans hu fun _ _ h => h) (fun h => h) hc
      ⟨h.1, h.2.1⟩
    refine Nw_row fun b1 H3 hb1 hE3 _ hr3 => ?_
    refine Nw_row fun b2 H4 hb2 hE4 _ hr4 => ?_
    have hE4' := (hE1.ext hE3).ext hE4
    have hv4 := (hv1.ext hE3).ext hE4
    have ho4 := fun j h h' => ((hone j h h').ext hE3).ext hE4
    refine Box8 (c := (⟨some (adr b1), 2, 2⟩, ⟨some (adr b2), 1, 1⟩, nilS, nilS, ByteArray.empty, 0, 0, nilS)) rfl fun b3 H13 hb3 hE13 _ hr13 => ?_
    have hE13' := hE4'.ext hE13
    have z3 := hE3.size
    have z4 := hE4.size
    have z13 := hE13.size
    simp only [adr_add]
    refine Ld_sl (s := nilS) ((hr13.cell 2).trans rfl) ?_
    refine ixs ?_
    refine Ld_sl (s := r) (lawc hE13').1 ?_
    refine ixs ?_
    refine Ld_sl (s := r) (lawc hE13').1 ?_
    have hrl := hr.len
    have hrc := hr.cap
    have hwl := hw.len
    have hwc := hw.cap
    have cutn : ∀ (n : Nat), (if (30 : Int) < (n : Int) then (30 : Int) else (n : Int)) = ((Nat.min 30 n : Nat) : Int) := fun n => by
      have h1 : Nat.min 30 n = if 30 ≤ n then 30 else n := Nat.min_def
      rw [h1]; split <;> split <;> omega
    have mle : ∀ n, Nat.min 30 n ≤ n ∧ Nat.min 30 n ≤ 30 := fun n => ⟨Nat.min_le_right _ _, Nat.min_le_left _ _⟩
    rw [cutn]
    have m1 := mle r.len
    have m2 := mle w.len
    refine SlA0 (by omega) (by omega) (by omega) ?_
    rw [Int.toNat_natCast]
    have tk : ∀ (xs : List Int), xs.take (Nat.min 30 xs.length) = xs.take 30 := fun xs => by
      rcases Nat.le_total 30 xs.length with h | h
      · rw [show Nat.min 30 xs.length = 30 from Nat.min_eq_left h]
      · rw [show Nat.min 30 xs.length = xs.length from Nat.min_eq_right h, List.take_of_length_le (Nat.le_refl _), List.take_of_length_le h]
    have hR : RI H0 ⟨r.a, Nat.min 30 r.len, (r.cap : Int).toNat⟩ (L[i].1.take 30) := by
      have := hr.pre (n := Nat.min 30 r.len) (c := (r.cap : Int).toNat) (by omega) (by omega)
      rwa [show L[i].1.take (Nat.min 30 r.len) = L[i].1.take 30 by rw [hrl, tk]] at this
    have hW : RI H0 ⟨w.a, Nat.min 30 w.len, (w.cap : Int).toNat⟩ (L[i].2.take 30) := by
      have := hw.pre (n := Nat.min 30 w.len) (c := (w.cap : Int).toNat) (by omega) (by omega)
      rwa [show L[i].2.take (Nat.min 30 w.len) = L[i].2.take 30 by rw [hwl, tk]] at this
    have hRl := hR.len
    have hWl := hW.len
    have ext0 : ∀ {H' : Heap}, Ext H H' → Ext H0 H' := fun hu => hE.trans hu fun _ _ h => h
    refine App_vec (Vec.nil H13 T_int) (hR.ext (ext0 hE13')).rd (by rw [List.length_map]; exact hRl.symm) (ints_one _) (by omega) (by simp; omega) fun l2 H14 hv14 hU14 hl14 hs14 => ?_
    rw [List.nil_append] at hv14
    have hE14 : Ext H13 H14 := hU14.mono fun b hb e => by cases e.1
    have hE14' := hE13'.ext hE14
    have f14 : ∀ b, l2.a = some (adr b) → H13.size ≤ b := fun b hb => by
      rcases hl14 with e | e
      · rw [e] at hb; cases hb
      · rw [e] at hb; cases hb; exact Nat.le_refl _
    refine Stab_2 (lawc hE14').1 (lawc hE14').1 ?_
    refine St_row (hE14.row hr13 fun h => h) (by simp [sysC]) fun H15 hU15 hs15 hr15 => ?_
    have z14 := hE14.size
    have lb3 := hr13.lt
    have hE15' : Ext H H15 := hE14'.trans hU15 fun b hb e => by omega
    have hv15 := hv14.upd hU15 fun b hb e => by have := f14 b hb; omega
    refine Ld_sl (s := nilS) ((hr15.cell 3).trans rfl) ?_
    refine ixs ?_
    refine Ld_sl (s := w) (lawc hE15').2 ?_
    refine ixs ?_
    refine Ld_sl (s := w) (lawc hE15').2 ?_
    rw [cutn]
    refine SlA0 (by omega) (by omega) (by omega) ?_
    rw [Int.toNat_natCast]
    refine App_vec (Vec.nil H15 T_int) (hW.ext (ext0 hE15')).rd (by rw [List.length_map]; exact hWl.symm) (ints_one _) (by omega) (by simp; omega) fun l4 H16 hv16 hU16 hl16 hs16 => ?_
    rw [List.nil_append] at hv16
    have hE16 : Ext H15 H16 := hU16.mono fun b hb e => by cases e.1
    have hE16' := hE15'.ext hE16
    have f16 : ∀ b, l4.a = some (adr b) → H15.size ≤ b := fun b hb => by
      rcases hl16 with e | e
      · rw [e] at hb; cases hb
      · rw [e] at hb; cases hb; exact Nat.le_refl _
    refine Stab_2 (lawc hE16').2 (lawc hE16').2 ?_
    refine St_row (hE16.row hr15 fun h => h) (by simp [sysC]) fun H17 hU17 hs17 hr17 => ?_
    have hE17' : Ext H H17 := hE16'.trans hU17 fun b hb e => by omega
    obtain ⟨c, hcdef⟩ : ∃ c : SysC, c = (⟨some (adr b1), 2, 2⟩, ⟨some (adr b2), 1, 1⟩, l2, l4, ByteArray.empty, 0, 0, nilS) := ⟨_, rfl⟩
    have hr17' : Row H17 b3 T_api_System (sysC c) := by rw [hcdef]; exact hr17
    have z16 := hE16.size
    have v17r := ((hv15.ext hE16).upd hU17 fun b hb e => by have := f14 b hb; omega)
    have v17w := hv16.upd hU17 fun b hb e => by have := f16 b hb; omega
    have one17 : One H.size H17 c ((cutL L)[i]'hlt) := by
      have hg := cutL_get L i (by omega) hi1
      rw [List.getElem?_eq_getElem hlt, Option.some.injEq] at hg
      rw [hg, hcdef]
      exact ⟨v17r, v17w, rfl, rfl, fun b hb => by have := f14 b hb; omega, fun b hb => by have := f16 b hb; omega⟩
    have up4_17 : Ext H4 H17 := (((hE13.ext hE14).trans hU15 fun b hb e => by omega).ext hE16).trans hU17 fun b hb e => by omega
    refine ⟨c, hr17'.rd_all, ?_⟩
    refine Nw_row (vs := sysC c) fun b4 H18 hb4 hE18 _ hr18 => ?_
    have hv18 := (hv4.ext up4_17).ext hE18
    have hol := hv1.len
    rw [flat_len sysC_len] at hol
    refine App_vecN rfl (by omega) hv18 (ws := sysC c) hr18.rd_all rfl (sysC_one c) (by omega) (by dsimp only; omega) fun l5 H19 hv19 hl19 hU19 hw19 => ?_
    rw [Lt_def, wrap_i64_id (by omega) (by omega)]
    have z17 := hE17'.size
    have z18 := hE18.size
    rw [show cs.flatMap sysC ++ sysC c = (cs ++ [c]).flatMap sysC by simp] at hv19
    have M19 : ∀ {x : Sl} {vs : List Value}, Vec H18 T_int x vs → ∀ b, x.a = some (adr b) → ¬ (out.a = some (adr b) ∧ out.len + 1 ≤ out.cap) := fun hx b hb e => by
      exact hv18.apV hx (by decide) e.1 hb
    have one19 : ∀ {c : SysC} {x : PSys}, One H.size H18 c x → One H.size H19 c x := fun h => ⟨h.r.upd hU19 (M19 h.r), h.w.upd hU19 (M19 h.w), h.wl, h.ol, h.fr, h.fw⟩
    refine hnext _ _ ⟨i + 1, cs ++ [c], by dsimp only; omega, by omega, (hE17'.ext hE18).trans hU19 fun b hb e => by have := hfo b e.1; omega, hv19, by simp; omega, fun j hj hj' => ?_, fun b hb => ?_⟩ (by dsimp only; omega)
    · simp only [List.length_append, List.length_singleton] at hj
      rcases Nat.lt_or_ge j cs.length with e | e
      · rw [List.getElem_append_left e]
        exact one19 (((ho4 j e hj').ext up4_17).ext hE18)
      · have : j = i := by omega
        subst this
        rw [List.getElem_append_right e]
        simp only [hcl, Nat.sub_self, List.getElem_singleton]
        exact one19 (one17.ext hE18)
    · dsimp only at hb
      rcases hw19 with ⟨e, _⟩ | e
      · rw [e] at hb; exact hfo b hb
      · rw [e] at hb; cases hb; omega
  · have : i = (cutL L).length := by omega
    exact hk out cs H1 hv1 (by omega) hone hfo hE1

/-- Numbers with eight behind them. -/
theorem s_listed {s : Sl} {xs : List Int} {H : Heap} (hs : RI H s xs) (hl : xs.length ≤ 2 ^ 30) {k : Sl → Heap → Prop}
    (hk : ∀ t c H', Vec H' T_int ⟨t.a, t.len + 8, c⟩ (ints (xs ++ List.replicate 8 77)) → t.len = xs.length → t.cap = c → (∀ b, t.a = some (adr b) → H.size ≤ b) → Ext H H' → k t H') :
    CallT Pg f_hindcastlaw18_listed [.slice s.a s.len s.cap] (.one (.c .sl)) H k := by
  apply c_hindcastlaw18_listed
  unfold v_hindcastlaw18_listed
  have hsl := hs.len
  refine App_vec (Vec.nil H T_int) hs.rd (by simp [hsl]) (ints_one _) (by omega) (by simp; omega) fun l1 H1 hv1 hU1 hl1 hs1 => ?_
  rw [List.nil_append] at hv1
  have hE1 : Ext H H1 := hU1.mono fun b hb e => by cases e.1
  refine LoopT.mk (fun σ H' => ∃ j : Nat, σ.2 = j ∧ j ≤ 8 ∧ Ext H H' ∧ Vec H' T_int σ.1 (ints (xs ++ List.replicate j 77)) ∧ (∀ b, σ.1.a = some (adr b) → H.size ≤ b)) (fun σ _ => (8 - σ.2).toNat)
    ⟨0, rfl, by omega, hE1, by simpa using hv1, fun b hb => ?_⟩ ?_
  · dsimp only at hb
    rcases hl1 with e | e
    · rw [e] at hb; cases hb
    · rw [e] at hb; cases hb; exact Nat.le_refl _
  rintro next ⟨out, _⟩ H2 ⟨j, rfl, hj, hE2, hv2, hf2⟩ hnext
  dsimp only at hv2 hf2 ⊢
  have hol := hv2.len
  simp only [List.length_map, List.length_append, List.length_replicate] at hol
  refine Br_dec (fun hlt => ?_) fun hge => ?_
  · refine Nw_row fun b1 H3 hb1 hE3 _ hr3 => ?_
    refine App_vec (hv2.ext hE3) (ws := ints [77]) hr3.rd_all rfl (ints_one _) (by omega) (by simp; omega) fun l2 H4 hv4 hU4 hl4 hs4 => ?_
    rw [Lt_def, wrap_i64_id (by omega) (by omega)]
    have z2 := hE2.size
    have z3 := hE3.size
    rw [ints, ints, ← List.map_append, List.append_assoc, ← List.replicate_succ'] at hv4
    refine hnext _ _ ⟨j + 1, by dsimp only; omega, by omega, (hE2.ext hE3).trans hU4 fun b hb e => by have := hf2 b e.1; omega, hv4, fun b hb => ?_⟩ (by dsimp only; omega)
    dsimp only at hb
    rcases hl4 with e | e
    · rw [e] at hb; exact hf2 b hb
    · rw [e] at hb; cases hb; omega
  · have : j = 8 := by omega
    subst this
    have hoc := hv2.lc
    refine SlA0 (by omega) (by omega) (by omega) ?_
    rw [Int.toNat_natCast, Int.toNat_natCast, hsl]
    refine hk ⟨out.a, xs.length, out.cap⟩ out.cap H2 ?_ rfl rfl hf2 hE2
    have e1 : (⟨out.a, xs.length + 8, out.cap⟩ : Sl) = out := by
      cases out; simp at hol ⊢; omega
    exact e1 ▸ hv2
end Go.Proofs.Ytpkpebgpiakbeaa
