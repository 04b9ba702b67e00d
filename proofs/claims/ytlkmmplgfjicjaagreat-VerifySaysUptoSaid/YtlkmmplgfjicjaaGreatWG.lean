/-
  checker.access.
-/
import Derived.Test.YtlkmmplgfjicjaaGreatVU
namespace Go.Proofs.YtlkmmplgfjicjaaGreat
set_option linter.unusedVariables false
set_option linter.unusedSimpArgs false
open Go.Proofs.YtlkmmplgfjicjaaGreat.Hc Go.Proofs.YtlkmmplgfjicjaaGreat.Hc.Vf
set_option maxRecDepth 100000
variable {H : Heap}

def accB (ks : List Ki) (nf : Nat) (sy : Option Sy) (r : Rou) (n : Nat) : Bool :=
  if sy.isNone && outerB (r.code[n]!).1 then false
  else if (r.code[n]!).1 = 2 ∨ (r.code[n]!).1 = 3 then decide (0 ≤ (r.code[n]!).2 ∧ (r.code[n]!).2 < r.locals)
  else if (r.code[n]!).1 = 4 then declB ks (r.code[n]!).2 (match sy with | some x => [x.l 2, x.l 3] | none => [])
  else if (r.code[n]!).1 = 5 then declB ks (r.code[n]!).2 (match sy with | some x => [x.l 3] | none => [])
  else if (r.code[n]!).1 = 21 then decide (0 ≤ (r.code[n]!).2 ∧ (r.code[n]!).2 < nf)
  else if (r.code[n]!).1 = 22 then sy.isNone
  else if (r.code[n]!).1 = 26 then wholeB ks (r.code[n]!).2 && rowB r.code n
  else if (r.code[n]!).1 = 28 then wholeB ks (r.code[n]!).2
  else if (r.code[n]!).1 = 29 ∨ (r.code[n]!).1 = 35 then decide (fieldsI ks (r.code[n]!).2 ≥ 0)
  else true
/-- What the routine's system says. -/
def SyOf (H : Heap) (x : Rt) (sy : Option Sy) : Prop := match sy with
  | none => x.ptr = none
  | some y => ∃ a, x.ptr = some a ∧ hcells H a 0 (sysV y) ∧ SyR H y
abbrev rtA (x : Rt) : Value := .agg #[.int .i64 (x.at' : Nat), .string x.rou.name, .int .i64 x.rou.params, .int .i64 x.rou.locals, .slice x.rou.sl.a x.rou.sl.len x.rou.sl.cap, .pointer x.ptr]
theorem s_access {c : Nat} {p : Sl × Sl} {ksl rsl : Sl} {ks : List Ki} {ss : List Sy} {fs : List Rou} {rts : List Rt} (h : CkAll H c p ksl rsl ks ss fs rts) {x : Rt} {sy : Option Sy} (hs : SyOf H x sy) (hr : CodeR H x.rou) {n : Nat} (hn : n < x.rou.code.length) (hl : x.rou.code.length ≤ 2000)
    {k : Bool → Heap → Prop} (hk : ∀ H', Ext H H' → k (accB ks fs.length sy x.rou n) H') : CallT Pg f_verify_checker_access [.pointer (some (adr c)), rtA x, .int .i64 (n : Nat)] (.one (.c .bool)) H k := by
  refine c_verify_checker_access _ ((x.at' : Int), x.rou.name, x.rou.params, x.rou.locals, x.rou.sl, x.ptr) _ ?_
  unfold v_verify_checker_access
  refine Nw_row (vs := rtV x) fun b1 H1 hb1 hE1 _ hr1 => ?_
  simp only [adr_add, mk_add, NilCk_some]
  refine Ld_sl (s := x.rou.sl) ((hr1.cell 4).trans rfl) (IxA_rn' insV_len (hr.ext hE1) (by omega) (j := n) rfl hn fun a ha => ?_)
  refine ⟨((x.rou.code[n]!).1, (x.rou.code[n]!).2), ha, Nw_row (vs := [.int .i64 0, .int .i64 0]) fun b2 H2 hb2 hE2 hz2 hr2 => ?_⟩
  simp only [adr_add]
  refine St_row hr2 (by simp) fun H3 hU3 _ hr3 => St_row hr3 (by simp) fun H4 hU4 _ hr4 => ?_
  have hE4 : Ext H1 H4 := extUpd hE2 (by omega) (hU3.trans hU4 fun _ _ h => h)
  have hE4' := hE1.trans hE4 fun _ _ h => h
  have hI : Row H4 b2 T_api_Instr (insV x.rou.code[n]!) := hr4
  have hR : Row H4 b1 T_verify_routine (rtV x) := hE4.row hr1 fun h => h
  have hP : ∀ {H'}, Ext H4 H' → hcell H' ⟨b1, 5, none⟩ = some (.pointer x.ptr) := fun hE => ((hE.row hR fun h => h).cell 5).trans rfl
  have hi1 : ∀ {H'}, Ext H4 H' → hcell H' (adr b2) = some (.int .i64 (x.rou.code[n]!).1) := fun hE => ((hE.row hI fun h => h).cell 0).trans rfl
  have hi2 : ∀ {H'}, Ext H4 H' → hcell H' ⟨b2, 1, none⟩ = some (.int .i64 (x.rou.code[n]!).2) := fun hE => ((hE.row hI fun h => h).cell 1).trans rfl
  have e0 : Ext H4 H4 := .refl _ _
  have hpn : x.ptr.isNone = sy.isNone := by
    unfold SyOf at hs
    cases sy with
    | none => dsimp only at hs; rw [hs]; rfl
    | some y => obtain ⟨a, h1, _⟩ := hs; rw [h1]; rfl
  refine Jn.mk (fun j H' => Ext H4 H' ∧ j = (sy.isNone && outerB (x.rou.code[n]!).1)) (fun kk hkk => ?_) ?_
  · refine Ld_ptr (hP e0) ?_
    rw [hpn]
    refine Br.mk (fun h => Ld_int (hi1 e0) (s_outer fun H6 hE6 => hkk _ _ ⟨hE6, by rw [h, Bool.true_and]⟩)) fun h => hkk _ _ ⟨e0, by rw [h, Bool.false_and]⟩
  rintro j H5 ⟨hE5, rfl⟩
  have hE5' := hE4'.trans hE5 fun _ _ h => h
  have fin : ∀ {b H'}, Ext H5 H' → accB ks fs.length sy x.rou n = b → k b H' := fun {b H'} hE e => by
    have := hk _ (hE5'.trans hE fun _ _ h => h); rwa [e] at this
  have z0 : Ext H5 H5 := .refl _ _
  have tr : ∀ {H'}, Ext H5 H' → Ext H4 H' := fun hE => hE5.trans hE fun _ _ h => h
  have hC : ∀ {H'}, Ext H5 H' → CkAll H' c p ksl rsl ks ss fs rts := fun hE => h.ext (hE5'.trans hE fun _ _ h => h)
  unfold accB at fin
  generalize hop : (x.rou.code[n]!).1 = op at *
  generalize harg : (x.rou.code[n]!).2 = arg at *
  refine Br.mk (fun h => fin z0 (if_pos h)) fun h0 => ?_
  rw [if_neg (by rw [h0]; decide)] at fin
  refine Ld_int (hi1 hE5) ?_
  refine Jn.mk (fun j H' => H5 = H' ∧ j = decide (op = 2 ∨ op = 3)) (fun kk hkk => ?_) ?_
  · refine Br.mk (fun h => hkk _ _ ⟨rfl, (decide_eq_true (.inl (beqI h))).symm⟩) fun h => hkk _ _ ⟨rfl, ?_⟩
    have h := bneI h
    rw [Bool.eq_iff_iff, beq_iff_eq, decide_eq_true_eq]; omega
  rintro j _ ⟨rfl, rfl⟩
  refine Br_dec (fun h => ?_) fun h23 => ?_
  · rw [if_pos h] at fin
    refine Jn.mk (fun j H' => H5 = H' ∧ j = decide (0 ≤ arg ∧ arg < x.rou.locals)) (fun kk hkk => ?_) (by rintro j _ ⟨rfl, rfl⟩; exact fin z0 rfl)
    refine Ld_int (hi2 hE5) (Br_dec (fun h => Ld_int (hi2 hE5) (Ld_int (n := x.rou.locals) (((hE5.row hR fun h => h).cell 3).trans rfl) (hkk _ _ ⟨rfl, decide_eq_decide.2 (by omega)⟩))) fun h => hkk _ _ ⟨rfl, (decide_eq_false (by omega)).symm⟩)
  rw [if_neg h23] at fin
  have some_sy : outerB op = true → ∃ y a, sy = some y ∧ x.ptr = some a ∧ SyR H y ∧ ∀ {H'}, Ext H5 H' → hcell H' (a.add 2) = some (slV (y.s 2)) ∧ hcell H' (a.add 3) = some (slV (y.s 3)) := fun ho => by
    rw [ho, Bool.and_true] at h0
    cases sy with
    | none => cases h0
    | some y =>
      obtain ⟨a, h1, h2, h3⟩ := hs
      refine ⟨y, a, rfl, h1, h3, fun {H'} hE => ?_⟩
      have := hcells_upd (hE5'.trans hE fun _ _ h => h) (fun h => h) h2
      exact ⟨this.2.2.1, this.2.2.2.1⟩
  refine Br.mk (fun h4 => ?_) fun h4 => ?_
  · have h4 := beqI h4
    rw [if_pos h4] at fin
    obtain ⟨y, a, rfl, hp, hy, hcs⟩ := some_sy (by rw [h4]; decide)
    refine Ld_int (hi2 hE5) (Ld_ptr (hP hE5) ?_)
    rw [hp]
    simp only [NilCk_some]
    refine Ld_sl (s := y.s 2) (hcs z0).1 (Ld_ptr (by rw [hP hE5, hp]) ?_)
    simp only [NilCk_some]
    refine Ld_sl (s := y.s 3) (hcs z0).2 (Nw_row (vs := [slV (y.s 2), slV (y.s 3)]) fun b3 H9 hb3 hE9 _ hr9 => Stab_all (fun w hw => ?_) ?_)
    · simp only [List.mem_cons, List.not_mem_nil, or_false] at hw
      rcases hw with rfl | rfl | rfl
      · rw [hP (tr hE9), hp]
      · rw [hP (tr hE9), hp]
      · exact hi2 (tr hE9)
    · have hy9 := hy.ext (hE5'.trans hE9 fun _ _ h => h)
      refine s_declared (s := ⟨some (adr b3), 2, 2⟩) (xs := [(y.s 2, y.l 2), (y.s 3, y.l 3)]) (hC hE9).ck (hC hE9).kds ⟨hr9.rd_all, rfl, Nat.le_refl _⟩ (by simp only [List.length_cons, List.length_nil]; omega) (fun w hw => ?_) fun H10 hE10 => Stab_all (fun w hw => ?_) (fin (hE9.trans hE10 fun _ _ h => h) rfl)
      · simp only [List.mem_cons, List.not_mem_nil, or_false] at hw
        rcases hw with rfl | rfl
        · exact ⟨hy9.sets 2 (by omega), hy.lens 2 (by omega)⟩
        · exact ⟨hy9.sets 3 (by omega), hy.lens 3 (by omega)⟩
      · have hE10' := hE9.trans hE10 fun _ _ h => h
        simp only [List.mem_cons, List.not_mem_nil, or_false] at hw
        rcases hw with rfl | rfl | rfl | rfl
        · exact (hcs hE10').2
        · rw [hP (tr hE10'), hp]
        · exact (hcs hE10').1
        · rw [hP (tr hE10'), hp]
  rw [if_neg (bneI h4)] at fin
  refine Br.mk (fun h5 => ?_) fun h5 => ?_
  · have h5 := beqI h5
    rw [if_pos h5] at fin
    obtain ⟨y, a, rfl, hp, hy, hcs⟩ := some_sy (by rw [h5]; decide)
    refine Ld_int (hi2 hE5) (Ld_ptr (hP hE5) ?_)
    rw [hp]
    simp only [NilCk_some]
    refine Ld_sl (s := y.s 3) (hcs z0).2 (Nw_row (vs := [slV (y.s 3)]) fun b3 H9 hb3 hE9 _ hr9 => Stab_all (fun w hw => ?_) ?_)
    · simp only [List.mem_cons, List.not_mem_nil, or_false] at hw
      rcases hw with rfl | rfl
      · rw [hP (tr hE9), hp]
      · exact hi2 (tr hE9)
    · have hy9 := hy.ext (hE5'.trans hE9 fun _ _ h => h)
      refine s_declared (s := ⟨some (adr b3), 1, 1⟩) (xs := [(y.s 3, y.l 3)]) (hC hE9).ck (hC hE9).kds ⟨hr9.rd_all, rfl, Nat.le_refl _⟩ (by simp only [List.length_cons, List.length_nil]; omega) (fun w hw => ?_) fun H10 hE10 => Stab_all (fun w hw => ?_) (fin (hE9.trans hE10 fun _ _ h => h) rfl)
      · rw [List.mem_singleton] at hw
        subst hw
        exact ⟨hy9.sets 3 (by omega), hy.lens 3 (by omega)⟩
      · have hE10' := hE9.trans hE10 fun _ _ h => h
        simp only [List.mem_cons, List.not_mem_nil, or_false] at hw
        rcases hw with rfl | rfl
        · exact (hcs hE10').2
        · rw [hP (tr hE10'), hp]
  rw [if_neg (bneI h5)] at fin
  have hfl : p.2.len = fs.length := h.prg.fun'.len
  refine Br.mk (fun h6 => ?_) fun h6 => ?_
  · rw [if_pos (beqI h6)] at fin
    refine Jn.mk (fun j H' => H5 = H' ∧ j = decide (0 ≤ arg ∧ arg < fs.length)) (fun kk hkk => ?_) (by rintro j _ ⟨rfl, rfl⟩; exact fin z0 rfl)
    refine Ld_int (hi2 hE5) (Br_dec (fun g => Ld_int (hi2 hE5) (Ld_sl (s := p.2) (((hC z0).ck.cell 1).trans rfl) (hkk _ _ ⟨rfl, decide_eq_decide.2 (by omega)⟩))) fun g => hkk _ _ ⟨rfl, (decide_eq_false (by omega)).symm⟩)
  rw [if_neg (bneI h6)] at fin
  refine Br.mk (fun h7 => ?_) fun h7 => ?_
  · rw [if_pos (beqI h7)] at fin
    refine Ld_ptr (hP hE5) (fin z0 hpn.symm)
  rw [if_neg (bneI h7)] at fin
  refine Br.mk (fun h8 => ?_) fun h8 => ?_
  · rw [if_pos (beqI h8)] at fin
    refine Jn.mk (fun j H' => Ext H5 H' ∧ j = (wholeB ks arg && rowB x.rou.code n)) (fun kk hkk => ?_) (by rintro j H' ⟨hE, rfl⟩; exact fin hE rfl)
    refine Ld_int (hi2 hE5) (s_wholeC (hC z0).ck (hC z0).kds (Br.mk (fun g => ?_) fun g => hkk _ _ ⟨z0, by rw [g]; rfl⟩))
    have hrd : hcells H5 ⟨b1, 1, none⟩ 0 (rouV x.rou) := by
      have h0 : hcells H5 (adr b1) 0 ([.int .i64 (x.at' : Nat)] ++ (rouV x.rou ++ [.pointer x.ptr])) := Row.rd_all (hE5.row hR fun h => h)
      have h1 := (hcells_app.1 (hcellsShift (n := 1) (i := 0) |>.1 (hcells_app.1 h0).2)).1
      rwa [adr_add] at h1
    exact ld_rou (r := x.rou) hrd (s_row (r := x.rou) (hr.ext hE5') (by omega) fun H16 hE16 => hkk _ _ ⟨hE16, by rw [g, Bool.true_and]⟩)
  rw [if_neg (bneI h8)] at fin
  refine Br.mk (fun h9 => ?_) fun h9 => ?_
  · rw [if_pos (beqI h9)] at fin
    exact Ld_int (hi2 hE5) (s_wholeC (hC z0).ck (hC z0).kds (fin z0 rfl))
  rw [if_neg (bneI h9)] at fin
  refine Jn.mk (fun j H' => H5 = H' ∧ j = decide (op = 29 ∨ op = 35)) (fun kk hkk => ?_) ?_
  · refine Br.mk (fun h => hkk _ _ ⟨rfl, (decide_eq_true (.inl (beqI h))).symm⟩) fun h => hkk _ _ ⟨rfl, ?_⟩
    have h := bneI h
    rw [Bool.eq_iff_iff, beq_iff_eq, decide_eq_true_eq]; omega
  rintro j _ ⟨rfl, rfl⟩
  refine Br_dec (fun g => ?_) fun g => ?_
  · rw [if_pos g] at fin
    exact Ld_int (hi2 hE5) (s_fields (hC z0).ck (hC z0).kds (fin z0 rfl))
  · rw [if_neg g] at fin
    exact fin z0 rfl
end Go.Proofs.YtlkmmplgfjicjaaGreat
/-
  checker.touches: the plain part.
-/
namespace Go.Proofs.YtlkmmplgfjicjaaGreat
set_option linter.unusedVariables false
set_option linter.unusedSimpArgs false
open Go.Proofs.YtlkmmplgfjicjaaGreat.Hc Go.Proofs.YtlkmmplgfjicjaaGreat.Hc.Vf
set_option maxRecDepth 100000
variable {H : Heap}

def hopBad (c : List Ins) (j : Nat) : Bool := decide (((c[j]!).1 = 19 ∨ (c[j]!).1 = 20) ∧ 1 ≤ (c[j]!).2 ∧ (c[j]!).2 < c.length ∧ opI c ((c[j]!).2 - 1) = 26)
def tAt (ks : List Ki) (nf : Nat) (sy : Option Sy) (r : Rou) (j : Nat) : Nat := if accB ks nf sy r j then (if hopBad r.code j then 150 else 0) else 152
def tR (ks : List Ki) (nf : Nat) (sy : Option Sy) (r : Rou) : Option (Nat × Nat) := ((List.range r.code.length).find? fun j => tAt ks nf sy r j != 0).map fun j => (j, tAt ks nf sy r j)
def syAt (ss : List Sy) (i : Nat) : Option Sy := if i < ss.length then some (ss[i]!) else none
def tI (ks : List Ki) (ss : List Sy) (fs : List Rou) (i : Nat) : Option (Nat × Nat) := (tR ks fs.length (syAt ss i) ((rousL ss fs)[i]!)).map fun x => (sumL ((rousL ss fs).take i) + x.1, x.2)
def touchO (ks : List Ki) (ss : List Sy) (fs : List Rou) : Option (Nat × Nat) := (List.range (ss.length + fs.length)).findSome? (tI ks ss fs)
theorem findSome_range {β : Type} {f : Nat → Option β} {n i : Nat} (hi : i < n) (h : ∀ j, j < i → f j = none) {b : β} (hb : f i = some b) : (List.range n).findSome? f = some b := by
  induction n with
  | zero => omega
  | succ n ih =>
    rw [List.range_succ, List.findSome?_append]
    rcases Nat.lt_or_ge i n with g | g
    · rw [ih g]; rfl
    · have : i = n := by omega
      subst this
      have : (List.range i).findSome? f = none := by
        rw [List.findSome?_eq_none_iff]
        exact fun j hj => h j (List.mem_range.1 hj)
      rw [this]; simp [hb]
theorem syOf_at {ss : List Sy} {fs : List Rou} {rts : List Rt} {j : Nat} (hR : ∀ x ∈ ss, SyR H x) (h : PRt H ss fs j (rts[j]!)) : SyOf H (rts[j]!) (syAt ss j) := by
  unfold syAt
  split
  · rename_i hj
    obtain ⟨a, h1, h2⟩ := h.sys hj
    exact ⟨a, h1, h2, hR _ (by rw [getElem!_pos ss j hj]; exact List.getElem_mem hj)⟩
  · exact h.non (by omega)
end Go.Proofs.YtlkmmplgfjicjaaGreat
/-
  checker.touches.
-/
namespace Go.Proofs.YtlkmmplgfjicjaaGreat
set_option linter.unusedVariables false
set_option linter.unusedSimpArgs false
open Go.Proofs.YtlkmmplgfjicjaaGreat.Hc Go.Proofs.YtlkmmplgfjicjaaGreat.Hc.Vf
set_option maxRecDepth 100000
variable {H : Heap}

theorem tR_some {ks : List Ki} {nf : Nat} {sy : Option Sy} {r : Rou} {j : Nat} (hj : j < r.code.length) (hno : ∀ e, e < j → tAt ks nf sy r e = 0) (h : tAt ks nf sy r j ≠ 0) : tR ks nf sy r = some (j, tAt ks nf sy r j) := by
  unfold tR
  have : (List.range r.code.length).find? (fun j => tAt ks nf sy r j != 0) = some j := by
    rw [List.find?_range_eq_some]
    exact ⟨bne_iff_ne.2 h, List.mem_range.2 hj, fun e he => by rw [hno e he]; rfl⟩
  rw [this]; rfl
theorem tR_none {ks : List Ki} {nf : Nat} {sy : Option Sy} {r : Rou} (hno : ∀ e, e < r.code.length → tAt ks nf sy r e = 0) : tR ks nf sy r = none := by
  unfold tR
  have : (List.range r.code.length).find? (fun j => tAt ks nf sy r j != 0) = none := by
    rw [List.find?_range_eq_none]
    intro e he; rw [hno e he]; rfl
  rw [this]; rfl
theorem rt_copy {x : Rt} {K : Nat → Heap → Prop} (hK : ∀ b H', b = H.size → Ext H H' → Row H' b T_verify_routine (rtV x) → K b H') :
    Nw #[.int .i64 0, .string ByteArray.empty, .int .i64 0, .int .i64 0, .slice none 0 0, .pointer none] T_verify_routine H fun b1 H2 =>
        St ((adr b1).add 0) (.int .i64 (x.at' : Nat)) H2 fun H3 => St ((adr b1).add 1) (.string x.rou.name) H3 fun H4 => St ((adr b1).add 2) (.int .i64 x.rou.params) H4 fun H5 =>
        St ((adr b1).add 3) (.int .i64 x.rou.locals) H5 fun H6 => St ((adr b1).add 4) (slV x.rou.sl) H6 fun H7 => St ((adr b1).add 5) (.pointer x.ptr) H7 fun H8 => K b1 H8 := by
  refine Nw_row (vs := [.int .i64 0, .string ByteArray.empty, .int .i64 0, .int .i64 0, .slice none 0 0, .pointer none]) fun b1 H1 hb1 hE1 _ hr1 => ?_
  simp only [adr_add]
  refine St_row hr1 (by simp) fun H2 hU2 _ hr2 => St_row hr2 (by simp) fun H3 hU3 _ hr3 => St_row hr3 (by simp) fun H4 hU4 _ hr4 => St_row hr4 (by simp) fun H5 hU5 _ hr5 =>
    St_row hr5 (by simp) fun H6 hU6 _ hr6 => St_row hr6 (by simp) fun H7 hU7 _ hr7 => ?_
  exact hK _ _ hb1 (extUpd hE1 (by omega) (((((hU2.trans hU3 fun _ _ h => h).trans hU4 fun _ _ h => h).trans hU5 fun _ _ h => h).trans hU6 fun _ _ h => h).trans hU7 fun _ _ h => h)) hr7
theorem ld_rt {a : Addr} {x : Rt} {k : Int × ByteArray × Int × Int × Sl × Option Addr → Prop} (h : hcells H a 0 (rtV x)) (hk : k ((x.at' : Nat), x.rou.name, x.rou.params, x.rou.locals, x.rou.sl, x.ptr)) : LdC [(.int .i64), .str, (.int .i64), (.int .i64), .sl, .ptr] a H k :=
  ⟨((x.at' : Nat), x.rou.name, x.rou.params, x.rou.locals, x.rou.sl, x.ptr), h, hk⟩
theorem rt_rou {b : Nat} {x : Rt} (hr : Row H b T_verify_routine (rtV x)) : hcells H ⟨b, 1, none⟩ 0 (rouV x.rou) := by
  have h0 : hcells H (adr b) 0 ([.int .i64 (x.at' : Nat)] ++ (rouV x.rou ++ [.pointer x.ptr])) := Row.rd_all hr
  have h1 := (hcells_app.1 (hcellsShift (n := 1) (i := 0) |>.1 (hcells_app.1 h0).2)).1
  rwa [adr_add] at h1
end Go.Proofs.YtlkmmplgfjicjaaGreat
/-
  checker.touches, walked.
-/
namespace Go.Proofs.YtlkmmplgfjicjaaGreat
set_option linter.unusedVariables false
set_option linter.unusedSimpArgs false
open Go.Proofs.YtlkmmplgfjicjaaGreat.Hc Go.Proofs.YtlkmmplgfjicjaaGreat.Hc.Vf
set_option maxRecDepth 100000
variable {H : Heap}

theorem SyOf.ext {H' : Heap} (hE : Ext H H') {x : Rt} {sy : Option Sy} (h : SyOf H x sy) : SyOf H' x sy := by
  cases sy with
  | none => exact h
  | some y =>
    obtain ⟨a, h1, h2, h3⟩ := h
    exact ⟨a, h1, hcells_upd hE (fun h => h) h2, h3.ext hE⟩
theorem CkAll.rouR {c : Nat} {p : Sl × Sl} {ksl rsl : Sl} {ks : List Ki} {ss : List Sy} {fs : List Rou} {rts : List Rt} (h : CkAll H c p ksl rsl ks ss fs rts) {n : Nat} (hn : n < rts.length) : CodeR H (rts[n]!).rou ∧ (rts[n]!).rou.code.length ≤ 2000 := by
  have hl : (rousL ss fs).length = ss.length + fs.length := by rw [List.length_append, List.length_map]
  have hn2 : n < (rousL ss fs).length := by rw [hl, ← h.rlen]; exact hn
  have hm := h.may.2.2.2.2
  have hmem : (rousL ss fs)[n]! ∈ rousL ss fs := by rw [getElem!_pos (rousL ss fs) n hn2]; exact List.getElem_mem hn2
  rw [(h.rts' n hn).rou]
  refine ⟨?_, ?_⟩
  · rcases List.mem_append.1 hmem with g | g
    · obtain ⟨x, hx, e⟩ := List.mem_map.1 g
      rw [← e]; exact (h.prg.sysR x hx).code
    · exact h.prg.funR _ g
  · have e := sumL_succ hn2
    have e2 := sumL_take (rs := rousL ss fs) (n := n + 1)
    have e3 : sumL (rousL ss fs) = sumL (ss.map (·.rou)) + sumL fs := by unfold sumL; rw [List.map_append, List.sum_append]
    rw [getElem!_pos (rousL ss fs) n hn2]
    omega
theorem s_touches {c : Nat} {p : Sl × Sl} {ksl rsl : Sl} {ks : List Ki} {ss : List Sy} {fs : List Rou} {rts : List Rt} (h : CkAll H c p ksl rsl ks ss fs rts) {k : Option Addr → Heap → Prop}
    (hk : ∀ q H', Ext H H' → FO H.size H' q (touchO ks ss fs) → k q H') : CallT Pg f_verify_checker_touches [.pointer (some (adr c))] (.one (.c .ptr)) H k := by
  refine c_verify_checker_touches _ ?_
  unfold v_verify_checker_touches
  simp only [NilCk_some, adr_add]
  have hck : ∀ {H'}, Ext H H' → CkAll H' c p ksl rsl ks ss fs rts := fun hE => h.ext hE
  have hrl := h.rt.len
  have hm := h.may
  have hr32 : rts.length ≤ 32 := by
    have := h.rlen; have := hm.1; have := hm.2.1; omega
  refine Ld_sl (s := rsl) ((h.ck.cell 3).trans rfl) ?_
  refine LoopT.mk (fun (i : Int) H' => ∃ n : Nat, i = n ∧ n ≤ rts.length ∧ Ext H H' ∧ ∀ j, j < n → tI ks ss fs j = none) (fun i _ => rts.length - i.toNat) ⟨0, rfl, Nat.zero_le _, .refl _ _, fun j hj => by omega⟩ ?_
  rintro next _ H1 ⟨n, rfl, hn, hE1, hno⟩ hnext
  refine Br_dec (fun hlt => ?_) fun hge => ?_
  · have hn3 : n < rts.length := by omega
    have hpr := h.rts' n hn3
    refine IxA_rn' rtV_len (hck hE1).rt (by omega) (j := n) rfl hn3 fun a ha => ?_
    obtain ⟨hcr, hcl⟩ := h.rouR hn3
    have hsy := syOf_at (fs := fs) h.prg.sysR hpr
    have htI : tI ks ss fs n = (tR ks fs.length (syAt ss n) (rts[n]!).rou).map fun y => ((rts[n]!).at' + y.1, y.2) := by unfold tI; rw [← hpr.rou, ← hpr.at_]
    have hat : (rts[n]!).at' ≤ 2000 := by
      rw [hpr.at_]
      have e3 : sumL (rousL ss fs) = sumL (ss.map (·.rou)) + sumL fs := by unfold sumL; rw [List.map_append, List.sum_append]
      have e2 := sumL_take (rs := rousL ss fs) (n := n)
      have := hm.2.2.2.2
      omega
    generalize rts[n]! = x at *
    refine ld_rt ha (rt_copy (x := x) fun b1 H8 hb1 hE8 hr8 => ?_)
    simp only [adr_add, mk_add]
    have hE8' := hE1.trans hE8 fun _ _ h => h
    refine Ld_sl (s := x.rou.sl) ((hr8.cell 4).trans rfl) ?_
    have hxl := hcr.len
    refine LoopT.mk (fun (i : Int) H' => ∃ j : Nat, i = j ∧ j ≤ x.rou.code.length ∧ Ext H8 H' ∧ ∀ e, e < j → tAt ks fs.length (syAt ss n) x.rou e = 0) (fun i _ => x.rou.code.length - i.toNat) ⟨0, rfl, Nat.zero_le _, .refl _ _, fun e he => by omega⟩ ?_
    rintro next2 _ H9 ⟨j, rfl, hj, hE9, hz⟩ hnext2
    have hE9' := hE8'.trans hE9 fun _ _ h => h
    refine Br_dec (fun hlt2 => ?_) fun hge2 => ?_
    · have hj3 : j < x.rou.code.length := by omega
      have hp9 := hE9.row hr8 fun h => h
      refine IxA_rn' insV_len (hcr.ext hE9') (by omega) (j := j) rfl hj3 fun a2 ha2 => ⟨((x.rou.code[j]!).1, (x.rou.code[j]!).2), ha2, ?_⟩
      refine Nw_row (vs := [.int .i64 0, .int .i64 0]) fun b2 H10 hb2 hE10 _ hr10 => ?_
      simp only [adr_add]
      refine St_row hr10 (by simp) fun H11 hU11 _ hr11 => St_row hr11 (by simp) fun H12 hU12 _ hr12 => ?_
      have hE12 : Ext H9 H12 := extUpd hE10 (by omega) (hU11.trans hU12 fun _ _ h => h)
      have hI : Row H12 b2 T_api_Instr (insV x.rou.code[j]!) := hr12
      have hp12 := hE12.row hp9 fun h => h
      have hE12' := hE9'.trans hE12 fun _ _ h => h
      refine ld_rt (x := x) (Row.rd_all hp12) (s_access (x := x) (hck hE12') (hsy.ext hE12') (hcr.ext hE12') hj3 hcl fun H13 hE13 => ?_)
      have hE13' := hE12'.trans hE13 fun _ _ h => h
      have hp13 := hE13.row hp12 fun h => h
      have hI13 := hE13.row hI fun h => h
      have flt : ∀ {e : Nat} {Hx : Heap}, tAt ks fs.length (syAt ss n) x.rou j = e → e ≠ 0 → Ext H Hx → Row Hx b1 T_verify_routine (rtV x) → Ld (.int .i64) (adr b1) Hx fun (x3 : Int) => Lt (IntKind.wrap .i64 (x3 + (j : Nat))) fun t1 => CallT Pg f_verify_fault [.int .i64 t1, .int .i64 (e : Nat)] (.one (.c .ptr)) Hx fun (r2 : Option Addr) H14 => k r2 H14 := fun {e Hx} he hne hE hp => by
        refine Ld_int (n := (x.at' : Nat)) ((hp.cell 0).trans rfl) (Lt.mk (u := ((x.at' + j : Nat) : Int)) (by rw [wrap_i64_id] <;> omega) (s_vfault fun H15 g hg hE15 hrow => hk _ _ (hE.trans hE15 fun _ _ h => h) ?_))
        have h1 : tI ks ss fs n = some (x.at' + j, e) := by rw [htI, tR_some hj3 hz (by rw [he]; exact hne), he]; rfl
        have h2 : touchO ks ss fs = some (x.at' + j, e) := findSome_range (by rw [← h.rlen]; exact hn3) hno h1
        rw [h2]
        have := hE.size
        exact ⟨g, rfl, by omega, hrow⟩
      refine Br_not (Br.mk (fun hacc => ?_) fun hacc => flt (e := 152) (by unfold tAt; rw [hacc]; rfl) (by omega) hE13' hp13)
      have htA : tAt ks fs.length (syAt ss n) x.rou j = if hopBad x.rou.code j then 150 else 0 := by unfold tAt; rw [if_pos hacc]
      refine Jn.mk (fun q H' => Ext H13 H' ∧ q = hopBad x.rou.code j) (fun kk hkk => ?_) ?_
      · refine ⟨((x.rou.code[j]!).1, (x.rou.code[j]!).2), Row.rd_all hI13, s_jumps (i := x.rou.code[j]!) fun H16 hE16 => ?_⟩
        have hE16' := hE13'.trans hE16 fun _ _ h => h
        have hp16 := hE16.row hp13 fun h => h
        have hI16 := hE16.row hI13 fun h => h
        have c1 : hcell H16 ⟨b2, 1, none⟩ = some (.int .i64 (x.rou.code[j]!).2) := (hI16.cell 1).trans rfl
        have no : ¬ (((x.rou.code[j]!).1 = 19 ∨ (x.rou.code[j]!).1 = 20) ∧ 1 ≤ (x.rou.code[j]!).2 ∧ (x.rou.code[j]!).2 < x.rou.code.length) → kk false H16 := fun g => hkk _ _ ⟨hE16, (decide_eq_false fun e => g ⟨e.1, e.2.1, e.2.2.1⟩).symm⟩
        refine Br_dec (fun g1 => Ld_int c1 (Br_dec (fun g2 => Ld_int c1 (Ld_sl (s := x.rou.sl) ((hp16.cell 4).trans rfl) (Br_dec (fun g3 => ?_) fun g => no fun e => g (by omega)))) fun g => no fun e => g (by omega))) fun g => no fun e => g e.1
        refine ld_rou (r := x.rou) (rt_rou hp16) (Ld_int c1 (Lt.mk (u := (x.rou.code[j]!).2 - 1) (by rw [wrap_i64_id] <;> omega) (s_op (r := x.rou) (hcr.ext hE16') fun H17 hE17 => hkk _ _ ⟨hE16.trans hE17 fun _ _ h => h, ?_⟩)))
        unfold hopBad
        rw [Bool.eq_iff_iff, beq_iff_eq, decide_eq_true_eq]
        exact ⟨fun e => ⟨g1, by omega, by omega, e⟩, fun e => e.2.2.2⟩
      rintro q H15 ⟨hE15, rfl⟩
      have hE15' := hE13'.trans hE15 fun _ _ h => h
      refine Br.mk (fun hb => flt (e := 150) (by rw [htA, if_pos hb]) (by omega) hE15' (hE15.row hp13 fun h => h)) fun hb => ?_
      refine Lt.mk (u := ((j + 1 : Nat) : Int)) (by rw [wrap_i64_id] <;> omega) (hnext2 _ _ ⟨j + 1, rfl, hj3, hE9.trans (hE12.trans (hE13.trans hE15 fun _ _ h => h) fun _ _ h => h) fun _ _ h => h, fun e he => ?_⟩ (by omega))
      rcases Nat.lt_or_ge e j with g | g
      · exact hz e g
      · have : e = j := by omega
        subst this; rw [htA, hb]; rfl
    · refine Lt.mk (u := ((n + 1 : Nat) : Int)) (by rw [wrap_i64_id] <;> omega) (hnext _ _ ⟨n + 1, rfl, hn3, hE9', fun e he => ?_⟩ (by omega))
      rcases Nat.lt_or_ge e n with g | g
      · exact hno e g
      · have : e = n := by omega
        subst this
        rw [htI, tR_none fun e he => hz e (by omega)]; rfl
  · refine hk _ _ hE1 ?_
    have : touchO ks ss fs = none := by
      unfold touchO
      rw [List.findSome?_eq_none_iff]
      intro j hj
      exact hno j (by have := List.mem_range.1 hj; have := h.rlen; omega)
    rw [this]; rfl
end Go.Proofs.YtlkmmplgfjicjaaGreat
/-
  checker.calls: which function calls itself.
-/
namespace Go.Proofs.YtlkmmplgfjicjaaGreat
set_option linter.unusedVariables false
set_option linter.unusedSimpArgs false
open Go.Proofs.YtlkmmplgfjicjaaGreat.Hc Go.Proofs.YtlkmmplgfjicjaaGreat.Hc.Vf
set_option maxRecDepth 100000
variable {H : Heap}

def CallsR (fs : List Rou) (x y : Nat) : Prop := ∃ n, n < (fs[x]!).code.length ∧ ((fs[x]!).code[n]!).1 = 21 ∧ ((fs[x]!).code[n]!).2 = (y : Int)
/-- All calls are of functions that there are. -/
def CallsIn (fs : List Rou) : Prop := ∀ x, x < fs.length → ∀ n, n < (fs[x]!).code.length → ((fs[x]!).code[n]!).1 = 21 → 0 ≤ ((fs[x]!).code[n]!).2 ∧ ((fs[x]!).code[n]!).2 < fs.length
abbrev Round (fs : List Rou) (x y : Nat) : Prop := Relation.TransGen (CallsR fs) x y
open Classical in
noncomputable def roundB (fs : List Rou) (f : Nat) : Bool := decide (Round fs f f)
noncomputable def callsO (ss : List Sy) (fs : List Rou) : Option (Nat × Nat) := ((List.range fs.length).find? (roundB fs)).map fun f => (sumL ((rousL ss fs).take (ss.length + f)), 115)
abbrev MapAt (H : Heap) (r : Nat) (ds : List Nat) : Prop := H[r]? = some (.map ⟨entsF 0 ds⟩ ds.length)
theorem MapAt.i {r : Nat} {ds : List Nat} (h : MapAt H r ds) : MapI H (.map (some r)) ds := .inr ⟨r, rfl, h⟩
theorem MapAt.ext {H' : Heap} {r : Nat} {ds : List Nat} (h : MapAt H r ds) (hE : Ext H H') : MapAt H' r ds := hE.keep h fun h => h

theorem s_calls1 {H0 : Heap} {c : Nat} {p : Sl × Sl} {ksl rsl : Sl} {ks : List Ki} {ss : List Sy} {fs : List Rou} {rts : List Rt} (h : CkAll H0 c p ksl rsl ks ss fs rts) (hin : CallsIn fs) {b1 b2 : Nat} {T1 T2 : TypeId} (hb1 : Row H0 b1 T1 [.pointer (some (adr c))])
    (hb2 : Row H0 b2 T2 [.func (.func 49) #[] #[.pointer (some (adr b1)), .pointer (some (adr b2))]]) {to : Nat} : ∀ (m : Nat) {H : Heap} {r fr : Nat} {ds : List Nat} {k : Bool → Heap → Prop}, Ext H0 H → H0.size ≤ r → fr < fs.length → fs.length + 1 ≤ ds.length + m → ds.Nodup → (∀ d ∈ ds, d < fs.length) → MapAt H r ds →
    (∀ b H' ds', Ext H0 H' → MapAt H' r ds' → ds'.Nodup → (∀ d ∈ ds', d < fs.length) → (∀ d ∈ ds, d ∈ ds') → (b = true → Round fs fr to) → (b = false → (∀ y, CallsR fs fr y → y ∈ ds') ∧ ∀ x ∈ ds', x ∉ ds → x ≠ to ∧ ∀ y, CallsR fs x y → y ∈ ds') → k b H') →
    CallT Pg f_verify_checker_calls_1 [.int .i64 (fr : Nat), .int .i64 (to : Nat), .map (some r), .pointer (some (adr b1)), .pointer (some (adr b2))] (.one (.c .bool)) H k := by
  intro m
  induction m with
  | zero =>
    intro H r fr ds k hE hr0 hfr hm hnd hlt hM hk
    have hsub : ds.length ≤ (List.range fs.length).length := hnd.length_le_of_subset fun d hd => List.mem_range.2 (hlt d hd)
    rw [List.length_range] at hsub
    omega
  | succ m ih =>
    intro H r fr ds k hE hr0 hfr hm hnd hlt hM hk
    refine c_verify_checker_calls_1 _ _ _ _ _ ?_
    unfold v_verify_checker_calls_1
    have c1 : ∀ {H'}, Ext H0 H' → hcell H' (adr b1) = some (.pointer (some (adr c))) := fun hE => ((hE.row hb1 fun h => h).cell 0).trans rfl
    have c2 : ∀ {H'}, Ext H0 H' → hcell H' (adr b2) = some (.func (.func 49) #[] #[.pointer (some (adr b1)), .pointer (some (adr b2))]) := fun hE => ((hE.row hb2 fun h => h).cell 0).trans rfl
    have hck : ∀ {H'}, Ext H0 H' → CkAll H' c p ksl rsl ks ss fs rts := fun hE => h.ext hE
    refine Ld_ptr (c1 hE) ?_
    simp only [NilCk_some, adr_add]
    refine Ld_sl (s := p.2) (((hck hE).ck.cell 1).trans rfl) (IxA_rn' rouV_len (hck hE).prg.fun' (by omega) (j := fr) rfl hfr fun a2 ha2 => ?_)
    have hmem : fs[fr]! ∈ fs := by rw [getElem!_pos fs fr hfr]; exact List.getElem_mem hfr
    have hcr : ∀ {H'}, Ext H0 H' → CodeR H' (fs[fr]!) := fun hE => (hck hE).prg.funR _ hmem
    have hcin := hin fr hfr
    have hcl := (h.rouR (n := ss.length + fr) (by rw [h.rlen]; omega)).2
    rw [(h.rts' (ss.length + fr) (by rw [h.rlen]; omega)).rou] at hcl
    have hrl : (rousL ss fs)[ss.length + fr]! = fs[fr]! := by
      rw [getElem!_pos _ _ (by simp [rousL]; omega), getElem!_pos fs fr hfr, List.getElem_append_right (by simp)]
      simp
    rw [hrl] at hcl
    have hCR : ∀ y, CallsR fs fr y ↔ ∃ n, n < (fs[fr]!).code.length ∧ ((fs[fr]!).code[n]!).1 = 21 ∧ ((fs[fr]!).code[n]!).2 = (y : Int) := fun y => Iff.rfl
    have hsl : hcell H (a2.add 3) = some (slV (fs[fr]!).sl) := by
      have := hcells_iff.1 ha2 3 (by simp)
      simpa using this
    generalize hfr' : fs[fr]! = fr' at *
    refine Ld_sl (s := fr'.sl) hsl ?_
    have hlen := (hcr hE).len
    refine LoopT.mk (fun (i : Int) H' => ∃ (n : Nat) (dn : List Nat), i = n ∧ n ≤ fr'.code.length ∧ Ext H0 H' ∧ MapAt H' r dn ∧ dn.Nodup ∧ (∀ d ∈ dn, d < fs.length) ∧ (∀ d ∈ ds, d ∈ dn) ∧ ds.length ≤ dn.length ∧
      (∀ e, e < n → (fr'.code[e]!).1 = 21 → ∃ y : Nat, (fr'.code[e]!).2 = y ∧ y ∈ dn) ∧ ∀ x ∈ dn, x ∉ ds → x ≠ to ∧ ∀ y, CallsR fs x y → y ∈ dn) (fun i _ => fr'.code.length - i.toNat)
      ⟨0, ds, rfl, Nat.zero_le _, hE, hM, hnd, hlt, fun d hd => hd, Nat.le_refl _, fun e he => by omega, fun x hx hn => absurd hx hn⟩ ?_
    rintro next _ H1 ⟨n, dn, rfl, hn, hE1, hM1, hnd1, hlt1, hsub, hlen1, hpre, hcl1⟩ hnext
    refine Br_dec (fun hlt2 => ?_) fun hge => ?_
    · have hn3 : n < fr'.code.length := by omega
      -- the step to the next
      have go : ∀ (dm : List Nat) (H2 : Heap), Ext H0 H2 → MapAt H2 r dm → dm.Nodup → (∀ d ∈ dm, d < fs.length) → (∀ d ∈ dn, d ∈ dm) → dn.length ≤ dm.length → ((fr'.code[n]!).1 = 21 → ∃ y : Nat, (fr'.code[n]!).2 = y ∧ y ∈ dm) → (∀ x ∈ dm, x ∉ dn → x ≠ to ∧ ∀ y, CallsR fs x y → y ∈ dm) →
          Lt (IntKind.wrap .i64 ((n : Int) + 1)) fun t1 => next t1 H2 := fun dm H2 g1 g2 g3 g4 g5 g6 g7 g8 =>
        Lt.mk (u := ((n + 1 : Nat) : Int)) (by rw [wrap_i64_id] <;> omega) (hnext _ _ ⟨n + 1, dm, rfl, hn3, g1, g2, g3, g4, fun d hd => g5 d (hsub d hd), by omega, fun e he h21 => by
          rcases Nat.lt_or_ge e n with g | g
          · obtain ⟨y, h1, h2⟩ := hpre e g h21
            exact ⟨y, h1, g5 y h2⟩
          · have : e = n := by omega
            subst this; exact g7 h21, fun x hx hxn => by
          by_cases hxd : x ∈ dn
          · obtain ⟨h1, h2⟩ := hcl1 x hxd hxn
            exact ⟨h1, fun y hy => g5 y (h2 y hy)⟩
          · exact g8 x hx hxd⟩ (by omega))
      refine Jn_in (IxA_rn' insV_len (hcr hE1) (by omega) (j := n) rfl hn3 fun a3 ha3 => ⟨((fr'.code[n]!).1, (fr'.code[n]!).2), ha3, ?_⟩)
      refine Nw_row (vs := [.int .i64 0, .int .i64 0]) fun b3 H3 hb3 hE3 _ hr3 => ?_
      simp only [adr_add]
      refine St_row hr3 (by simp) fun H4 hU4 _ hr4 => St_row hr4 (by simp) fun H5 hU5 _ hr5 => ?_
      have hE5 : Ext H1 H5 := extUpd hE3 (by omega) (hU4.trans hU5 fun _ _ h => h)
      have hI5 : Row H5 b3 T_api_Instr (insV fr'.code[n]!) := hr5
      have hE5' := hE1.trans hE5 fun _ _ h => h
      have hM5 := hM1.ext hE5
      have hcn := hcin n hn3
      generalize hop : (fr'.code[n]!).1 = op at *
      generalize harg : (fr'.code[n]!).2 = arg at *
      have i1 : hcell H5 (adr b3) = some (.int .i64 op) := by rw [← hop]; exact (hI5.cell 0).trans rfl
      have i2 : hcell H5 ⟨b3, 1, none⟩ = some (.int .i64 arg) := by rw [← harg]; exact (hI5.cell 1).trans rfl
      refine Jn.mk (fun j H' => H5 = H' ∧ (j = true → op = 21 → ∃ y : Nat, arg = y ∧ y ∈ dn) ∧ (j = false → op = 21 ∧ ∃ y : Nat, arg = y ∧ y ∉ dn)) (fun kk hkk => ?_) ?_
      · refine Ld_int i1 (Br.mk (fun h => hkk _ _ ⟨rfl, fun _ e => absurd e (bne_iff_ne.1 h), fun h => by cases h⟩) fun h => ?_)
        have h21 : op = 21 := by simpa using h
        obtain ⟨y, hy⟩ : ∃ y : Nat, arg = y := ⟨_, (Int.toNat_of_nonneg (hcn h21).1).symm⟩
        refine Ld_int i2 ?_
        subst hy
        exact MpL_i hM5.i (hkk _ _ ⟨rfl, fun h _ => ⟨y, rfl, of_decide_eq_true h⟩, fun h => ⟨h21, y, rfl, of_decide_eq_false h⟩⟩)
      rintro j _ ⟨rfl, hj1, hj2⟩
      refine Br.mk (fun h => go dn H5 hE5' hM5 hnd1 hlt1 (fun d hd => hd) (Nat.le_refl _) (hj1 h) fun x hx hxn => absurd hx hxn) fun h => ?_
      obtain ⟨h21, y, hy, hyn⟩ := hj2 h
      have hyl : y < fs.length := by have := (hcn h21).2; omega
      subst hy
      have hst : CallsR fs fr y := (hCR y).2 ⟨n, hn3, hop.trans h21, harg⟩
      refine Ld_int i2 (MpU_i hM5 hyn fun H7 hU7 _ hM7 => ?_)
      have hE7 : Ext H0 H7 := hE5'.trans hU7 fun b hb e => by omega
      have hI7 : Row H7 b3 T_api_Instr (insV fr'.code[n]!) := hU7.row hI5 (Row.neMap hI5 hM5)
      have i7 : hcell H7 ⟨b3, 1, none⟩ = some (.int .i64 (y : Nat)) := by rw [← harg]; exact (hI7.cell 1).trans rfl
      have hnd7 : (dn ++ [y]).Nodup := by
        rw [List.nodup_append]
        exact ⟨hnd1, by simp, fun a ha b hb => by rw [List.mem_singleton] at hb; subst hb; exact fun e => hyn (e ▸ ha)⟩
      have hlt7 : ∀ d ∈ dn ++ [y], d < fs.length := fun d hd => by
        rcases List.mem_append.1 hd with g | g
        · exact hlt1 d g
        · rw [List.mem_singleton] at g; subst g; exact hyl
      refine Jn.mk (fun j H' => ∃ dm, Ext H0 H' ∧ MapAt H' r dm ∧ dm.Nodup ∧ (∀ d ∈ dm, d < fs.length) ∧ (∀ d ∈ dn ++ [y], d ∈ dm) ∧ (dn ++ [y]).length ≤ dm.length ∧ (j = true → Round fs fr to) ∧ (j = false → y ≠ to ∧ (∀ z, CallsR fs y z → z ∈ dm) ∧ ∀ x ∈ dm, x ∉ dn ++ [y] → x ≠ to ∧ ∀ y, CallsR fs x y → y ∈ dm)) (fun kk hkk => ?_) ?_
      · refine Ld_int i7 (Br.mk (fun g => ?_) fun g => ?_)
        · have g := beqI g
          have : y = to := by omega
          subst this
          exact hkk _ _ ⟨dn ++ [y], hE7, hM7, hnd7, hlt7, fun d hd => hd, Nat.le_refl _, fun _ => .single hst, fun h => by cases h⟩
        · have g := bneI g
          refine ⟨_, c2 hE7, Ld_int i7 ⟨f_verify_checker_calls_1, #[], _, rfl, ?_⟩⟩
          refine ih (fr := y) (ds := dn ++ [y]) hE7 hr0 hyl (by rw [List.length_append, List.length_singleton]; omega) hnd7 hlt7 hM7 fun b H9 dm g1 g2 g3 g4 g5 g6 g7 => hkk _ _ ⟨dm, g1, g2, g3, g4, g5, hnd7.length_le_of_subset g5, fun h => .trans (.single hst) (g6 h), fun h => ⟨fun e => g (by omega), g7 h⟩⟩
      rintro j H8 ⟨dm, g1, g2, g3, g4, g5, g6, g7, g8⟩
      refine Br.mk (fun h => hk _ _ dm g1 g2 g3 g4 (fun d hd => g5 d (List.mem_append.2 (.inl (hsub d hd)))) (fun _ => g7 h) fun h => by cases h) fun h => ?_
      obtain ⟨q1, q2, q3⟩ := g8 h
      rw [List.length_append, List.length_singleton] at g6
      refine go dm H8 g1 g2 g3 g4 (fun d hd => g5 d (List.mem_append.2 (.inl hd))) (by omega) (fun _ => ⟨y, rfl, g5 y (by simp)⟩) fun x hx hxn => ?_
      by_cases hxy : x = y
      · subst hxy; exact ⟨q1, q2⟩
      · exact q3 x hx fun hm => (List.mem_append.1 hm).elim hxn fun e => hxy (List.mem_singleton.1 e)
    · refine hk _ _ dn hE1 hM1 hnd1 hlt1 hsub (fun h => by cases h) fun _ => ⟨fun y hy => ?_, hcl1⟩
      obtain ⟨e, he, h1, h2⟩ := (hCR y).1 hy
      obtain ⟨y', h3, h4⟩ := hpre e (by omega) h1
      have : y = y' := by omega
      subst this; exact h4
theorem closed_no {fs : List Rou} {f : Nat} {ds : List Nat} (h1 : ∀ y, CallsR fs f y → y ∈ ds) (h2 : ∀ x ∈ ds, x ≠ f ∧ ∀ y, CallsR fs x y → y ∈ ds) : ¬ Round fs f f := by
  have key : ∀ y, Round fs f y → y ∈ ds := by
    intro y hy
    induction hy with
    | single s => exact h1 _ s
    | tail _ s ih => exact (h2 _ ih).2 _ s
  intro h
  exact (h2 f (key f h)).1 rfl
open Classical in
theorem roundB_t {fs : List Rou} {f : Nat} (h : Round fs f f) : roundB fs f = true := decide_eq_true h
open Classical in
theorem roundB_f {fs : List Rou} {f : Nat} (h : ¬ Round fs f f) : roundB fs f = false := decide_eq_false h
theorem s_ccalls {c : Nat} {p : Sl × Sl} {ksl rsl : Sl} {ks : List Ki} {ss : List Sy} {fs : List Rou} {rts : List Rt} (h : CkAll H c p ksl rsl ks ss fs rts) (hin : CallsIn fs) {k : Option Addr → Heap → Prop}
    (hk : ∀ q H', Ext H H' → FO H.size H' q (callsO ss fs) → k q H') : CallT Pg f_verify_checker_calls [.pointer (some (adr c))] (.one (.c .ptr)) H k := by
  refine c_verify_checker_calls _ ?_
  unfold v_verify_checker_calls
  refine Nw_row (vs := [.pointer (some (adr c))]) fun b1 H1 hb1 hE1 _ hr1 => Nw_row (vs := [.nilFunc]) fun b2 H2 hb2 hE2 _ hr2 => ⟨rfl, St_row hr2 (by simp) fun H3 hU3 _ hr3 => ?_⟩
  have hE3 : Ext H1 H3 := extUpd hE2 (by omega) hU3
  have hE3' := hE1.trans hE3 fun _ _ h => h
  have hr13 : Row H3 b1 T_P_verify_checker [.pointer (some (adr c))] := hE3.row hr1 fun h => h
  have h3 := h.ext hE3'
  have c1 : ∀ {H'}, Ext H3 H' → hcell H' (adr b1) = some (.pointer (some (adr c))) := fun hE => ((hE.row hr13 fun h => h).cell 0).trans rfl
  have c2 : ∀ {H'}, Ext H3 H' → hcell H' (adr b2) = some (.func (.func 49) #[] #[.pointer (some (adr b1)), .pointer (some (adr b2))]) := fun hE => ((hE.row hr3 fun h => h).cell 0).trans rfl
  have e0 : Ext H3 H3 := .refl _ _
  refine Ld_ptr (c1 e0) ?_
  simp only [NilCk_some, adr_add]
  refine Ld_sl (s := p.2) ((h3.ck.cell 1).trans rfl) ?_
  have hfl := h3.prg.fun'.len
  have hm := h.may
  refine LoopT.mk (fun (i : Int) H' => ∃ n : Nat, i = n ∧ n ≤ fs.length ∧ Ext H3 H' ∧ ∀ j, j < n → roundB fs j = false) (fun i _ => fs.length - i.toNat) ⟨0, rfl, Nat.zero_le _, e0, fun j hj => by omega⟩ ?_
  rintro next _ H4 ⟨n, rfl, hn, hE4, hno⟩ hnext
  have hm2 := hm.2.1
  refine Br_dec (fun hlt => ?_) fun hge => ?_
  · have hn3 : n < fs.length := by omega
    refine ⟨_, c2 hE4, MkM_i fun r H5 hr hE5 hz5 hM5 => ⟨f_verify_checker_calls_1, #[], _, rfl, ?_⟩⟩
    have hE5' := hE4.trans hE5 fun _ _ h => h
    have z4 := hE4.size
    refine s_calls1 h3 hin hr13 hr3 (to := n) (fs.length + 1) (fr := n) (ds := []) hE5' (by omega) hn3 (by simp) List.nodup_nil (fun d hd => by cases hd) hM5 fun b H6 ds' hE6 _ _ _ _ ht hf => ?_
    have z6 := hE6.size
    have z3 := hE3'.size
    refine Br.mk (fun hb => ?_) fun hb => ?_
    · refine Ld_ptr (c1 hE6) ?_
      simp only [NilCk_some, adr_add]
      have hck6 := h3.ext hE6
      refine Ld_sl (s := rsl) ((hck6.ck.cell 3).trans rfl) (Ld_ptr (c1 hE6) ?_)
      simp only [NilCk_some]
      have hsl := hck6.prg.sys.len
      have hms := hm.1
      have hrl := h.rlen
      refine Ld_sl (s := p.1) ((hck6.ck.cell 0).trans rfl) (Lt.mk (u := ((ss.length + n : Nat) : Int)) (by rw [wrap_i64_id] <;> omega) ?_)
      refine IxA_rn' rtV_len hck6.rt (by omega) (j := ss.length + n) rfl (by omega) fun a4 ha4 => Ld_int (n := ((rts[ss.length + n]!).at' : Nat)) ha4.1 (s_vfault fun H7 g hg hE7 hrow => Stab_all (fun x hx => ?_) (hk _ _ ((hE3'.trans hE6 fun _ _ h => h).trans hE7 fun _ _ h => h) ?_))
      · have hck7 := hck6.ext hE7
        simp only [List.mem_cons, List.not_mem_nil, or_false] at hx
        have c17 := c1 (hE6.trans hE7 fun _ _ h => h)
        rcases hx with rfl | rfl | rfl | rfl
        · exact (hck7.ck.cell 0).trans rfl
        · exact c17
        · exact (hck7.ck.cell 3).trans rfl
        · exact c17
      · rw [(h.rts' (ss.length + n) (by omega)).at_] at hrow
        have : (List.range fs.length).find? (roundB fs) = some n := by
          rw [List.find?_range_eq_some]
          exact ⟨roundB_t (ht hb), List.mem_range.2 hn3, fun j hj => by rw [hno j hj]; rfl⟩
        unfold callsO
        rw [this]
        exact ⟨g, rfl, by omega, hrow⟩
    · obtain ⟨g1, g2⟩ := hf hb
      refine Lt.mk (u := ((n + 1 : Nat) : Int)) (by rw [wrap_i64_id] <;> omega) (hnext _ _ ⟨n + 1, rfl, hn3, hE6, fun j hj => ?_⟩ (by omega))
      rcases Nat.lt_or_ge j n with g | g
      · exact hno j g
      · have : j = n := by omega
        subst this
        exact roundB_f (closed_no g1 fun x hx => g2 x hx (by simp))
  · refine hk _ _ (hE3'.trans hE4 fun _ _ h => h) ?_
    have : (List.range fs.length).find? (roundB fs) = none := by
      rw [List.find?_range_eq_none]
      intro j hj
      rw [hno j (by omega)]; rfl
    unfold callsO
    rw [this]; rfl
end Go.Proofs.YtlkmmplgfjicjaaGreat
/-
  checker.ways.
-/
namespace Go.Proofs.YtlkmmplgfjicjaaGreat
set_option linter.unusedVariables false
set_option linter.unusedSimpArgs false
open Go.Proofs.YtlkmmplgfjicjaaGreat.Hc Go.Proofs.YtlkmmplgfjicjaaGreat.Hc.Vf
set_option maxRecDepth 100000
variable {H : Heap}

theorem FlowAt.lower {lo lo' f : Nat} {r : Rou} {fsl dl : Sl} {ms : List Value} {D : List (List Nat)} {ps : List Int} (h : FlowAt lo H f r fsl ps dl ms D) (hl : lo' ≤ lo) : FlowAt lo' H f r fsl ps dl ms D :=
  { flow := h.flow, dv := h.dv, ml := h.ml, dln := h.dln, mp := h.mp, nd := h.nd, rc := h.rc, f1 := by have := h.f1; omega, fd := fun b hb => by have := h.fd b hb; omega, fm := fun i q hi hq => by have := h.fm i q hi hq; omega }
theorem FlowAt.keepP {lo f : Nat} {r : Rou} {fsl dl : Sl} {ms : List Value} {D : List (List Nat)} {ps : List Int} {M : Nat → Prop} {H' : Heap} (hu : Upd M H H') (hM : ∀ b, M b → ∃ vs, Row H b T_P_verify_flow vs) (h : FlowAt lo H f r fsl ps dl ms D) : FlowAt lo H' f r fsl ps dl ms D :=
  { flow := hu.row h.flow fun e => by obtain ⟨vs, hv⟩ := hM _ e; exact h.flow.ne hv (by decide) rfl
    dv := h.dv.upd hu fun b hb e => by obtain ⟨vs, hv⟩ := hM _ e; exact h.dv.ne hb hv (by decide) rfl
    ml := h.ml, dln := h.dln
    mp := fun i hi => (h.mp i hi).upd hu fun q hq e => by
      obtain ⟨vs, hv⟩ := hM _ e
      rcases h.mp i hi with ⟨g, _⟩ | ⟨q', g, g2⟩
      · rw [hq] at g; cases g
      · rw [hq] at g; cases g; exact Row.neMap hv g2 rfl
    nd := h.nd, rc := h.rc, f1 := h.f1, fd := h.fd, fm := h.fm }
theorem wholeS_ok {c : List Ins} {ps : List Int} {u : Unit} (hW : wholeS c ps = .ok u) : 0 < c.length ∧ ∀ i, i < c.length → isReached c ps i → wr c ps i = 0 := by
  unfold wholeS at hW
  split at hW
  · cases hW
  · refine ⟨by omega, fun i hi hrd => ?_⟩
    split at hW
    · cases hW
    · rename_i hfd
      rw [List.find?_range_eq_none] at hfd
      have := hfd i hi
      exact Classical.byContradiction fun hne => by rw [badP_true ⟨hrd, hne⟩] at this; simp at this
theorem wholeS_bd {c : List Ins} {ps : List Int} {a e : Nat} (hW : wholeS c ps = .error (a, e)) : a ≤ c.length := by
  unfold wholeS at hW
  split at hW
  · simp only [Except.error.injEq, Prod.mk.injEq] at hW; omega
  · split at hW
    · rename_i i hfd
      have := List.mem_of_find?_eq_some hfd
      rw [List.mem_range] at this
      simp only [Except.error.injEq, Prod.mk.injEq] at hW; omega
    · cases hW
open Classical in
noncomputable def turnB (c : List Ins) (ps : List Int) (i : Nat) : Bool := decide (idleP c ps i ∧ WayI c ps i i)
open Classical in
theorem turnB_t {c : List Ins} {ps : List Int} {i : Nat} (h : idleP c ps i ∧ WayI c ps i i) : turnB c ps i = true := decide_eq_true h
open Classical in
theorem turnB_f {c : List Ins} {ps : List Int} {i : Nat} (h : ¬ (idleP c ps i ∧ WayI c ps i i)) : turnB c ps i = false := decide_eq_false h
noncomputable def wholeI (ss : List Sy) (fs : List Rou) (n : Nat) : Option (Nat × Nat) := match wholeS ((rousL ss fs)[n]!).code (parms fs) with
  | .error (a, e) => some (sumL ((rousL ss fs).take n) + a, e)
  | .ok _ => none
noncomputable def turnI (ss : List Sy) (fs : List Rou) (n : Nat) : Option (Nat × Nat) := ((List.range ((rousL ss fs)[n]!).code.length).find? (turnB ((rousL ss fs)[n]!).code (parms fs))).map fun i => (sumL ((rousL ss fs).take n) + i, 153)
noncomputable def waysO (ss : List Sy) (fs : List Rou) : Option (Nat × Nat) := match (List.range (ss.length + fs.length)).findSome? (wholeI ss fs) with
  | some x => some x
  | none => (List.range (ss.length + fs.length)).findSome? (turnI ss fs)
theorem findSome_none {β : Type} {f : Nat → Option β} {n : Nat} (h : ∀ j, j < n → f j = none) : (List.range n).findSome? f = none := by
  rw [List.findSome?_eq_none_iff]
  exact fun j hj => h j (List.mem_range.1 hj)
theorem CkAll.sum {c : Nat} {p : Sl × Sl} {ksl rsl : Sl} {ks : List Ki} {ss : List Sy} {fs : List Rou} {rts : List Rt} (h : CkAll H c p ksl rsl ks ss fs rts) (n : Nat) : sumL ((rousL ss fs).take n) ≤ 2000 := by
  have e3 : sumL (rousL ss fs) = sumL (ss.map (·.rou)) + sumL fs := by unfold sumL; rw [List.map_append, List.sum_append]
  have e2 := sumL_take (rs := rousL ss fs) (n := n)
  have := h.may.2.2.2.2
  omega
/-- The flows so far. -/
structure FlowsR (H : Heap) (s : Sl) (fps : List Nat) (rts : List Rt) (fsl : Sl) (ps : List Int) : Prop where
  vec : Vec H T_P_verify_flow s (fps.map fun f => .pointer (some (adr f)))
  fl : ∀ j, j < fps.length → ∃ dl ms D, FlowAt 0 H (fps[j]!) (rts[j]!).rou fsl ps dl ms D
theorem FlowsR.ext {H' : Heap} (hE : Ext H H') {s : Sl} {fps : List Nat} {rts : List Rt} {fsl : Sl} {ps : List Int} (h : FlowsR H s fps rts fsl ps) : FlowsR H' s fps rts fsl ps :=
  ⟨h.vec.ext hE, fun j hj => by obtain ⟨dl, ms, D, h⟩ := h.fl j hj; exact ⟨dl, ms, D, h.ext hE⟩⟩
theorem s_cways {c : Nat} {p : Sl × Sl} {ksl rsl : Sl} {ks : List Ki} {ss : List Sy} {fs : List Rou} {rts : List Rt} (h : CkAll H c p ksl rsl ks ss fs rts) (hI : ∀ x ∈ parms fs, I64 x) {k : Option Addr → Heap → Prop}
    (hk : ∀ q H', Ext H H' → FO H.size H' q (waysO ss fs) → k q H') : CallT Pg f_verify_checker_ways [.pointer (some (adr c))] (.one (.c .ptr)) H k := by
  refine c_verify_checker_ways _ ?_
  unfold v_verify_checker_ways
  simp only [NilCk_some, adr_add]
  have hck : ∀ {H'}, Ext H H' → CkAll H' c p ksl rsl ks ss fs rts := fun hE => h.ext hE
  have hrl := h.rt.len
  have hm := h.may
  have hrl2 := h.rlen
  have hr32 : rts.length ≤ 32 := by have := hm.1; have := hm.2.1; omega
  refine Ld_sl (s := rsl) ((h.ck.cell 3).trans rfl) ?_
  refine LoopT.mk (fun (s : Sl × Int) H' => ∃ (n : Nat) (fps : List Nat), s.2 = n ∧ n ≤ rts.length ∧ Ext H H' ∧ fps.length = n ∧ FlowsR H' s.1 fps rts p.2 (parms fs) ∧ (∀ b, s.1.a = some (adr b) → H.size ≤ b) ∧ ∀ j, j < n → wholeI ss fs j = none) (fun s _ => rts.length - s.2.toNat) ⟨0, [], rfl, Nat.zero_le _, .refl _ _, rfl, ⟨Vec.nil _ _, fun j hj => by cases hj⟩, (fun b hb => by cases hb), fun j hj => by omega⟩ ?_
  rintro next ⟨s1, _⟩ H1 ⟨n, fps, rfl, hn, hE1, hfl, hFs, hsb, hno⟩ hnext
  dsimp only at hFs hsb ⊢
  refine Br_dec (fun hlt => ?_) fun hge => ?_
  · have hn3 : n < rts.length := by omega
    have hpr := h.rts' n hn3
    refine IxA_rn' rtV_len (hck hE1).rt (by omega) (j := n) rfl hn3 fun a ha => ?_
    obtain ⟨hcr, hcl⟩ := h.rouR hn3
    have hat : (rts[n]!).at' ≤ 2000 := by rw [hpr.at_]; exact h.sum n
    have hwI : wholeI ss fs n = match wholeS (rts[n]!).rou.code (parms fs) with
        | .error (a, e) => some ((rts[n]!).at' + a, e)
        | .ok _ => none := by unfold wholeI; rw [← hpr.rou, ← hpr.at_]
    have hFl : ∀ (fps' : List Nat) (Hx : Heap) (sx : Sl), fps'.length = n + 1 → Vec Hx T_P_verify_flow sx (fps'.map fun f => .pointer (some (adr f))) → (∀ j, j < n → ∃ dl ms D, FlowAt 0 Hx (fps'[j]!) (rts[j]!).rou p.2 (parms fs) dl ms D) → (∃ dl ms D, FlowAt 0 Hx (fps'[n]!) (rts[n]!).rou p.2 (parms fs) dl ms D) → FlowsR Hx sx fps' rts p.2 (parms fs) := fun fps' Hx sx e1 e2 e3 e4 =>
      ⟨e2, fun j hj => by
        rcases Nat.lt_or_ge j n with g | g
        · exact e3 j g
        · have : j = n := by omega
          subst this; exact e4⟩
    generalize rts[n]! = x at *
    refine ld_rt ha (rt_copy (x := x) fun b1 H8 hb1 hE8 hr8 => ?_)
    have hE8' := hE1.trans hE8 fun _ _ h => h
    refine ld_rou (r := x.rou) (rt_rou hr8) (Ld_sl (s := p.2) (((hck hE8').ck.cell 1).trans rfl) (s_whole (r := x.rou) (hcr.ext hE8') (hck hE8').prg.fun' hI hcl fun q H9 hE9 hq => ?_))
    have hE9' := hE8'.trans hE9 fun _ _ h => h
    have z9 := hE9'.size
    cases hW : wholeS x.rou.code (parms fs) with
    | error ae =>
      obtain ⟨a', e⟩ := ae
      rw [hW] at hq hwI
      obtain ⟨h1, g, h2, h3, h4⟩ := hq
      rw [h2]
      show Ld (.int .i64) (adr b1) H9 _
      have hbd := wholeS_bd hW
      have f0 : hcell H9 (adr g) = some (.int .i64 (a' : Nat)) := (h4.cell 0).trans rfl
      have f1 : hcell H9 ⟨g, 1, none⟩ = some (.int .i64 (e : Nat)) := (h4.cell 1).trans rfl
      have c0 : hcell H9 (adr b1) = some (.int .i64 (x.at' : Nat)) := ((hE9.row hr8 fun h => h).cell 0).trans rfl
      refine Ld_int c0 ?_
      simp only [NilCk_some, adr_add]
      refine Ld_int f0 (Lt.mk (u := ((x.at' + a' : Nat) : Int)) (by rw [wrap_i64_id] <;> omega) (Ld_int f1 (s_vfault fun H10 g2 hg2 hE10 hrow => Stab_all (fun y hy => ?_) (hk _ _ (hE9'.trans hE10 fun _ _ h => h) ?_))))
      · simp only [List.mem_cons, List.not_mem_nil, or_false] at hy
        rcases hy with rfl | rfl
        · exact hE10.cell f0 fun h => h
        · exact hE10.cell c0 fun h => h
      · have : waysO ss fs = some (x.at' + a', e) := by
          unfold waysO
          rw [findSome_range (by rw [← hrl2]; exact hn3) hno hwI]
        rw [this]
        exact ⟨g2, rfl, by omega, hrow⟩
    | ok u =>
      rw [hW] at hq hwI
      obtain ⟨h1, f, dl, ms, D, h2, hF⟩ := hq
      rw [h1, h2]
      refine (Br_false _ _).2 ?_
      refine Nw_row (vs := [.pointer (some (adr f))]) fun b2 H11 hb2 hE11 _ hr11 => ?_
      have hv1 := hFs.vec.len
      rw [List.length_map] at hv1
      have hFs11 := hFs.ext ((hE8.trans hE9 fun _ _ h => h).trans hE11 fun _ _ h => h)
      have hE11' := hE9'.trans hE11 fun _ _ h => h
      have z11 := hE11'.size
      refine App_vec2 (ws := [.pointer (some (adr f))]) hFs11.vec (Row.rd_all hr11) rfl (by simp [Value.oneCell']) (by omega) (by simp only [List.length_map, List.length_singleton]; omega) fun l1 H12 hv12 hU12 ha12 hz12 => ?_
      have hM12 : ∀ b, (s1.a = some (adr b) ∧ s1.len + 1 ≤ s1.cap ∧ [Value.pointer (some (adr f))] ≠ []) → ∃ vs, Row H11 b T_P_verify_flow vs := fun b hb => by
        rcases hFs11.vec.own with ⟨g, _⟩ | ⟨b', sp, g1, g2, _⟩
        · rw [hb.1] at g; cases g
        · rw [hb.1] at g1; cases g1; exact ⟨_, g2⟩
      have hget : ∀ j, j < n → (fps ++ [f])[j]! = fps[j]! := fun j hj => by
        rw [getElem!_pos _ j (by simp; omega), List.getElem_append_left (by omega), getElem!_pos fps j (by omega)]
      have hgetn : (fps ++ [f])[n]! = f := by
        rw [getElem!_pos _ n (by simp; omega)]
        simp [← hfl]
      refine Lt.mk (u := ((n + 1 : Nat) : Int)) (by rw [wrap_i64_id] <;> omega) (hnext _ _ ⟨n + 1, fps ++ [f], rfl, hn3, hE11'.trans hU12 fun b hb e => by have := hsb b e.1; omega, by simp; omega, hFl _ _ _ (by simp; omega) (by simpa using hv12) (fun j hj => ?_) ?_, fun b hb => ?_, fun j hj => ?_⟩ (by dsimp only; omega))
      · obtain ⟨dl', ms', D', hF'⟩ := hFs11.fl j (by omega)
        rw [hget j hj]
        exact ⟨dl', ms', D', hF'.keepP hU12 hM12⟩
      · rw [hgetn]
        exact ⟨dl, ms, D, ((hF.ext hE11).keepP hU12 hM12).lower (Nat.zero_le _)⟩
      · rcases ha12 with ⟨g, _⟩ | g
        · rw [g] at hb; exact hsb b hb
        · rw [g] at hb; cases hb; omega
      · rcases Nat.lt_or_ge j n with g | g
        · exact hno j g
        · have : j = n := by omega
          subst this; exact hwI
  · have hne : n = rts.length := by omega
    subst hne
    have hW0 : (List.range (ss.length + fs.length)).findSome? (wholeI ss fs) = none := findSome_none fun j hj => hno j (by omega)
    have hways : waysO ss fs = (List.range (ss.length + fs.length)).findSome? (turnI ss fs) := by unfold waysO; rw [hW0]
    have hv1 := hFs.vec.len
    rw [List.length_map, hfl] at hv1
    refine LoopT.mk (fun (i : Int) H' => ∃ n : Nat, i = n ∧ n ≤ rts.length ∧ Ext H1 H' ∧ ∀ j, j < n → turnI ss fs j = none) (fun i _ => rts.length - i.toNat) ⟨0, rfl, Nat.zero_le _, .refl _ _, fun j hj => by omega⟩ ?_
    rintro next2 _ H13 ⟨n, rfl, hn, hE13, hno2⟩ hnext2
    have hE13' := hE1.trans hE13 fun _ _ h => h
    refine Br_dec (fun hlt => ?_) fun hge2 => ?_
    · have hn3 : n < rts.length := by omega
      have hFs13 := hFs.ext hE13
      refine IxA_vec hFs13.vec (by omega) (by rw [List.length_map]; omega) fun a6 ha6 _ => ?_
      have ha6' : hcell H13 a6 = some (.pointer (some (adr (fps[n]!)))) := by
        rw [ha6, Int.toNat_natCast, List.getElem?_map, List.getElem?_eq_getElem (by omega), getElem!_pos fps n (by omega)]; rfl
      refine Ld_ptr ha6' ?_
      obtain ⟨dl, ms, D, hF⟩ := hFs13.fl n (by omega)
      obtain ⟨hcr, hcl⟩ := h.rouR hn3
      have hpr := h.rts' n hn3
      have hat : (rts[n]!).at' ≤ 2000 := by rw [hpr.at_]; exact h.sum n
      have htI : turnI ss fs n = ((List.range (rts[n]!).rou.code.length).find? (turnB (rts[n]!).rou.code (parms fs))).map fun i => ((rts[n]!).at' + i, 153) := by unfold turnI; rw [← hpr.rou, ← hpr.at_]
      have hW : ∃ u, wholeS (rts[n]!).rou.code (parms fs) = .ok u := by
        have := hno n hn3
        unfold wholeI at this
        rw [← hpr.rou] at this
        cases hw : wholeS (rts[n]!).rou.code (parms fs) with
        | error ae => rw [hw] at this; cases this
        | ok u => exact ⟨u, rfl⟩
      obtain ⟨u, hW⟩ := hW
      obtain ⟨_, hgood⟩ := wholeS_ok hW
      have hrt : ∀ {H' : Heap}, Ext H H' → ∀ {k : Addr → Prop}, (∀ a, hcell H' a = some (.int .i64 ((rts[n]!).at' : Nat)) → k a) → IxA 6 rsl (n : Int) k := fun {H'} hE {k} hk => IxA_rn' rtV_len (hck hE).rt (by omega) (j := n) rfl hn3 fun a ha => hk a ha.1
      generalize rts[n]! = x at *
      generalize fps[n]! = f at *
      simp only [NilCk_some, adr_add]
      refine Ld_sl (s := x.rou.sl) ((hF.flow.cell 3).trans rfl) ?_
      have hxl := hcr.len
      refine LoopT.mk (fun (i : Int) H' => ∃ j : Nat, i = j ∧ j ≤ x.rou.code.length ∧ Ext H13 H' ∧ ∀ e, e < j → turnB x.rou.code (parms fs) e = false) (fun i _ => x.rou.code.length - i.toNat) ⟨0, rfl, Nat.zero_le _, .refl _ _, fun e he => by omega⟩ ?_
      rintro next3 _ H14 ⟨j, rfl, hj, hE14, hz⟩ hnext3
      have hE14' := hE13'.trans hE14 fun _ _ h => h
      refine Br_dec (fun hlt2 => ?_) fun hge3 => ?_
      · have hj3 : j < x.rou.code.length := by omega
        refine Jn.mk (fun q H' => Ext H14 H' ∧ (q = true ↔ idleP x.rou.code (parms fs) j ∧ WayI x.rou.code (parms fs) j j)) (fun kk hkk => ?_) ?_
        · refine s_idle (hF.ext hE14) (hcr.ext hE14') hj3 fun b H16 hE16 hb => ?_
          refine Br.mk (fun g => ?_) fun g => hkk _ _ ⟨hE16, fun h => (by cases h), fun h => by rw [hb.2 h.1] at g; cases g⟩
          have hE16' := hE14.trans hE16 fun _ _ h => h
          refine s_round (hF.ext hE16') (hcr.ext (hE13'.trans hE16' fun _ _ h => h)) hcl hgood hj3 fun b2 H17 hE17 hb2 => hkk _ _ ⟨hE16.trans hE17 fun _ _ h => h, fun h => ⟨hb.1 g, hb2.1 h⟩, fun h => hb2.2 h.2⟩
        rintro q H15 ⟨hE15, hq⟩
        have hE15' := hE14'.trans hE15 fun _ _ h => h
        refine Br.mk (fun hb => ?_) fun hb => ?_
        · refine Ld_sl (s := rsl) (((hck hE15').ck.cell 3).trans rfl) (hrt hE15' fun a9 ha9 => Ld_int ha9 (Lt.mk (u := ((x.at' + j : Nat) : Int)) (by rw [wrap_i64_id] <;> omega) (s_vfault fun H18 g hg hE18 hrow => hk _ _ (hE15'.trans hE18 fun _ _ h => h) ?_)))
          have hfd : (List.range x.rou.code.length).find? (turnB x.rou.code (parms fs)) = some j := by
            rw [List.find?_range_eq_some]
            exact ⟨turnB_t (hq.1 hb), List.mem_range.2 hj3, fun e he => by rw [hz e he]; rfl⟩
          rw [hfd] at htI
          rw [hways, findSome_range (by rw [← hrl2]; exact hn3) hno2 htI]
          have := hE15'.size
          exact ⟨g, rfl, by omega, hrow⟩
        · refine Lt.mk (u := ((j + 1 : Nat) : Int)) (by rw [wrap_i64_id] <;> omega) (hnext3 _ _ ⟨j + 1, rfl, hj3, hE14.trans hE15 fun _ _ h => h, fun e he => ?_⟩ (by omega))
          rcases Nat.lt_or_ge e j with g | g
          · exact hz e g
          · have : e = j := by omega
            subst this
            exact turnB_f fun g => by rw [hq.2 g] at hb; cases hb
      · refine Lt.mk (u := ((n + 1 : Nat) : Int)) (by rw [wrap_i64_id] <;> omega) (hnext2 _ _ ⟨n + 1, rfl, hn3, hE13.trans hE14 fun _ _ h => h, fun e he => ?_⟩ (by omega))
        rcases Nat.lt_or_ge e n with g | g
        · exact hno2 e g
        · have : e = n := by omega
          subst this
          have hfd : (List.range x.rou.code.length).find? (turnB x.rou.code (parms fs)) = none := by
            rw [List.find?_range_eq_none]
            intro q hq
            rw [hz q (by omega)]; rfl
          rw [htI, hfd]; rfl
    · refine hk _ _ hE13' ?_
      rw [hways, findSome_none fun j hj => hno2 j (by omega)]; rfl
end Go.Proofs.YtlkmmplgfjicjaaGreat
/-
  verify.Verify.
-/
namespace Go.Proofs.YtlkmmplgfjicjaaGreat
set_option linter.unusedVariables false
set_option linter.unusedSimpArgs false
open Go.Proofs.YtlkmmplgfjicjaaGreat.Hc Go.Proofs.YtlkmmplgfjicjaaGreat.Hc.Vf
set_option maxRecDepth 100000
variable {H : Heap}

noncomputable def lookO (ks : List Ki) (ss : List Sy) (fs : List Rou) : Nat → Option (Nat × Nat)
  | 0 => setsO ks ss fs
  | 1 => touchO ks ss fs
  | 2 => callsO ss fs
  | _ => waysO ss fs
noncomputable def verifyO (ks : List Ki) (ss : List Sy) (fs : List Rou) : Option (Nat × Nat) :=
  if mayK ks then (if MayP ss fs then (List.range 4).findSome? (lookO ks ss fs) else some (0, 130)) else some (0, 65)
/-- What Verify gives out. -/
def VerOut (lo : Nat) (H : Heap) (v : Value) : Option (Nat × Nat) → Prop
  | none => v = .nilIface
  | some (a, e) => ∃ g, v = .iface T_P_api_Fault (.pointer (some (adr g))) ∧ lo ≤ g ∧ Row H g T_api_Fault [.int .i64 (a : Nat), .int .i64 (e : Nat)]
theorem touch_none {ks : List Ki} {ss : List Sy} {fs : List Rou} (h : touchO ks ss fs = none) {n : Nat} (hn : n < ss.length + fs.length) {j : Nat} (hj : j < ((rousL ss fs)[n]!).code.length) : tAt ks fs.length (syAt ss n) ((rousL ss fs)[n]!) j = 0 := by
  unfold touchO at h
  rw [List.findSome?_eq_none_iff] at h
  have h1 := h n (List.mem_range.2 hn)
  unfold tI at h1
  rw [Option.map_eq_none_iff] at h1
  unfold tR at h1
  rw [Option.map_eq_none_iff, List.find?_range_eq_none] at h1
  simpa using h1 j hj
theorem rous_fun {ss : List Sy} {fs : List Rou} {x : Nat} (hx : x < fs.length) : (rousL ss fs)[ss.length + x]! = fs[x]! := by
  rw [getElem!_pos _ _ (by simp [rousL]; omega), getElem!_pos fs x hx, List.getElem_append_right (by simp)]
  simp
theorem rous_sys {ss : List Sy} {fs : List Rou} {x : Nat} (hx : x < ss.length) : (rousL ss fs)[x]! = (ss[x]!).rou := by
  rw [getElem!_pos _ _ (by simp [rousL]; omega), getElem!_pos ss x hx, List.getElem_append_left (by simpa using hx)]
  simp
theorem calls_in {ks : List Ki} {ss : List Sy} {fs : List Rou} (h : touchO ks ss fs = none) : CallsIn fs := by
  intro x hx n hn h21
  have h1 := touch_none h (n := ss.length + x) (by omega) (j := n) (by rw [rous_fun hx]; exact hn)
  rw [rous_fun hx] at h1
  have hs : syAt ss (ss.length + x) = none := by unfold syAt; rw [if_neg (by omega)]
  rw [hs] at h1
  by_cases ha : accB ks fs.length none (fs[x]!) n = true
  · unfold accB at ha
    generalize (fs[x]!).code[n]! = i at *
    have ho : outerB 21 = false := by decide
    rw [h21, ho] at ha
    simp at ha
    exact ha
  · unfold tAt at h1
    rw [if_neg ha] at h1; cases h1
theorem s_Verify {p : Sl × Sl} {ksl : Sl} {ks : List Ki} {ss : List Sy} {fs : List Rou} (hP : PrgR H p ss fs) (hK : KdsR H ksl ks) (hI : ∀ x ∈ parms fs, I64 x) {k : Value → Heap → Prop}
    (hk : ∀ v H', Ext H H' → VerOut H.size H' v (verifyO ks ss fs) → k v H') : CallT Pg f_verify_Verify [prgA p, .slice ksl.a ksl.len ksl.cap] (.one (.c .raw)) H k := by
  refine c_verify_Verify _ _ ?_
  unfold v_verify_Verify
  refine Nw_row (vs := [slV p.1, slV p.2]) fun b1 H1 hb1 hE1 _ hr1 => s_worldNew (hK.ext hE1) fun q H2 hE2 => ?_
  have hE2' := hE1.trans hE2 fun _ _ h => h
  have z2 := hE2'.size
  unfold verifyO at hk
  by_cases hm : mayK ks = true
  · rw [if_pos hm] at hk ⊢
    have hr2 := hE2.row hr1 fun h => h
    show LdC [.sl, .sl] (adr b1) H2 _
    refine ⟨p, hr2.rd_all, s_Encode (hP.ext hE2') fun s' H4 hE4 => ?_⟩
    have hE4' := hE2'.trans hE4 fun _ _ h => h
    have z4 := hE4'.size
    by_cases hM : MayP ss fs
    · rw [if_pos hM] at hk ⊢
      have hr4 := hE4.row hr2 fun h => h
      show LdC [.sl, .sl] (adr b1) H4 _
      refine ⟨p, hr4.rd_all, p, hr4.rd_all, s_routines (hP.ext hE4') hM fun rsl rts H6 hE6 hrn hrl hrt => ?_⟩
      have hE6' := hE4'.trans hE6 fun _ _ h => h
      have z6 := hE6'.size
      have hp : ∀ {Hx}, Ext H6 Hx → ∀ x ∈ [(⟨b1, 0, none⟩, Value.slice p.1.a p.1.len p.1.cap), (⟨b1, 1, none⟩, .slice p.2.a p.2.len p.2.cap), (⟨b1, 0, none⟩, .slice p.1.a p.1.len p.1.cap), (⟨b1, 1, none⟩, .slice p.2.a p.2.len p.2.cap)], hcell Hx x.1 = some x.2 := fun hE x hx => by
        have hr := (hE6.trans hE fun _ _ h => h).row hr4 fun h => h
        simp only [List.mem_cons, List.not_mem_nil, or_false] at hx
        rcases hx with rfl | rfl | rfl | rfl
        · exact (hr.cell 0).trans rfl
        · exact (hr.cell 1).trans rfl
        · exact (hr.cell 0).trans rfl
        · exact (hr.cell 1).trans rfl
      simp only [adr_add]
      refine Stab_all (fun x hx => hp (.refl _ _) x (by simp only [List.mem_cons, List.not_mem_nil, or_false] at hx ⊢; rcases hx with rfl | rfl <;> simp)) ?_
      refine Nw_row (vs := [slV p.1, slV p.2, slV ksl, slV rsl]) fun b2 H7 hb2 hE7 _ hr7 => Stab_all (hp hE7) ?_
      refine Nw_row (vs := [.func (.func 23) #[] #[], .func (.func 24) #[] #[], .func (.func 25) #[] #[], .func (.func 26) #[] #[]]) fun b3 H8 hb3 hE8 _ hr8 => ?_
      have hE8' := (hE6'.trans hE7 fun _ _ h => h).trans hE8 fun _ _ h => h
      have z8 := hE8'.size
      have hck : CkAll H8 b2 p ksl rsl ks ss fs rts :=
        { ck := hE8.row hr7 fun h => h, prg := hP.ext hE8', kds := hK.ext hE8', rt := (hrn.ext hE7).ext hE8, rlen := hrl, rts' := fun j hj => (((hrt j hj).ext hE6).ext hE7).ext hE8, may := hM }
      refine LoopT.mk (fun (i : Int) H' => ∃ n : Nat, i = n ∧ n ≤ 4 ∧ Ext H8 H' ∧ ∀ j, j < n → lookO ks ss fs j = none) (fun i _ => 4 - i.toNat) ⟨0, rfl, by omega, .refl _ _, fun j hj => by omega⟩ ?_
      rintro next _ H9 ⟨n, rfl, hn, hE9, hno⟩ hnext
      refine Br_dec (fun hlt => ?_) fun hge => ?_
      · have hn3 : n < 4 := by omega
        have hE9' := hE8'.trans hE9 fun _ _ h => h
        have z9 := hE9'.size
        have hc9 := hck.ext hE9
        have behind : ∀ (q : Option Addr) (H10 : Heap), Ext H9 H10 → FO H9.size H10 q (lookO ks ss fs n) → Br (!q.isNone) (k (.iface T_P_api_Fault (.pointer q)) H10) (Lt (IntKind.wrap .i64 ((n : Int) + 1)) fun t1 => next t1 H10) := fun q H10 hE10 hq => by
          cases hl : lookO ks ss fs n with
          | none =>
            rw [hl] at hq
            cases hq
            refine (Br_false _ _).2 ?_
            refine Lt.mk (u := ((n + 1 : Nat) : Int)) (by rw [wrap_i64_id] <;> omega) (hnext _ _ ⟨n + 1, rfl, hn3, hE9.trans hE10 fun _ _ h => h, fun e he => ?_⟩ (by omega))
            rcases Nat.lt_or_ge e n with g | g
            · exact hno e g
            · have : e = n := by omega
              subst this; exact hl
          | some ae =>
            obtain ⟨a, e⟩ := ae
            rw [hl] at hq
            obtain ⟨g, rfl, hg, hrow⟩ := hq
            refine (Br_true _ _).2 ?_
            refine hk _ _ (hE9'.trans hE10 fun _ _ h => h) ?_
            rw [findSome_range hn3 hno hl]
            exact ⟨g, rfl, by omega, hrow⟩
        refine IxA.mk rfl (by omega) (by simp only; omega) ?_
        rw [Int.toNat_natCast, adr_add, Nat.mul_one]
        have hr9 := hE9.row hr8 fun h => h
        match n, hn3 with
        | 0, _ => exact ⟨_, (hr9.cell 0).trans rfl, f_verify_checker_sets, #[], #[], rfl, s_csets hc9 behind⟩
        | 1, _ => exact ⟨_, (hr9.cell 1).trans rfl, f_verify_checker_touches, #[], #[], rfl, s_touches hc9 behind⟩
        | 2, _ => exact ⟨_, (hr9.cell 2).trans rfl, f_verify_checker_calls, #[], #[], rfl, s_ccalls hc9 (calls_in (hno 1 (by omega))) behind⟩
        | 3, _ => exact ⟨_, (hr9.cell 3).trans rfl, f_verify_checker_ways, #[], #[], rfl, s_cways hc9 hI behind⟩
      · have : n = 4 := by omega
        subst this
        refine hk _ _ (hE8'.trans hE9 fun _ _ h => h) ?_
        rw [findSome_none hno]; rfl
    · rw [if_neg hM] at hk ⊢
      show CallT Pg f_verify_fault [.int .i64 0, .int .i64 130] (.one (.c .ptr)) H4 _
      exact s_vfault fun H5 g hg hE5 hrow => hk _ _ (hE4'.trans hE5 fun _ _ h => h) ⟨g, rfl, by omega, hrow⟩
  · rw [if_neg hm] at hk ⊢
    show CallT Pg f_verify_fault [.int .i64 0, .int .i64 65] (.one (.c .ptr)) H2 _
    exact s_vfault fun H5 g hg hE5 hrow => hk _ _ (hE2'.trans hE5 fun _ _ h => h) ⟨g, rfl, by omega, hrow⟩
end Go.Proofs.YtlkmmplgfjicjaaGreat
/-
  What is reached, told by a list; the examples' answers.
-/
namespace Go.Proofs.YtlkmmplgfjicjaaGreat
set_option linter.unusedVariables false
set_option linter.unusedSimpArgs false
open Go.Proofs.YtlkmmplgfjicjaaGreat.Hc Go.Proofs.YtlkmmplgfjicjaaGreat.Hc.Vf
set_option maxRecDepth 100000
variable {H : Heap}

def succL (c : List Ins) (ps : List Int) (x : Nat × Nat) : List (Nat × Nat) := if x.1 < c.length ∧ fits ps c[x.1]! x.2 then pushes c.length (behind ps c[x.1]! x.2) (nexts c x.1) else []
theorem succL_iff {c : List Ins} {ps : List Int} {x y : Nat × Nat} : y ∈ succL c ps x ↔ Succ c ps x.1 x.2 y.1 y.2 := by
  unfold succL Succ
  split
  · rename_i h
    rw [pushes_mem]
    exact ⟨fun g => ⟨h.1, h.2, g.1, g.2.1, g.2.2⟩, fun g => ⟨g.2.2.1, g.2.2.2.1, g.2.2.2.2⟩⟩
  · rename_i h
    exact ⟨fun g => (by cases g), fun g => absurd ⟨g.1, g.2.1⟩ h⟩
def chainOk (c : List Ins) (ps : List Int) : List (Nat × Nat) → List (Nat × Nat) → Bool
  | _, [] => true
  | acc, x :: xs => (x == (0, 0) || acc.any fun y => (succL c ps y).contains x) && chainOk c ps (x :: acc) xs
def closedOk (c : List Ins) (ps : List Int) (L : List (Nat × Nat)) : Bool := L.contains (0, 0) && L.all fun x => (succL c ps x).all fun y => L.contains y
theorem chain_rch {c : List Ins} {ps : List Int} : ∀ {L acc : List (Nat × Nat)}, (∀ x ∈ acc, Rch c ps x.1 x.2) → chainOk c ps acc L = true → ∀ x ∈ L, Rch c ps x.1 x.2
  | [], _, _, _ => fun x hx => by cases hx
  | x :: xs, acc, hacc, h => by
    unfold chainOk at h
    rw [Bool.and_eq_true] at h
    have hx : Rch c ps x.1 x.2 := by
      rw [Bool.or_eq_true] at h
      rcases h.1 with g | g
      · have : x = (0, 0) := by simpa using g
        subst this; exact .zero
      · obtain ⟨y, hy, hc⟩ := List.any_eq_true.1 g
        have : x ∈ succL c ps y := by simpa using hc
        exact .step (hacc y hy) (succL_iff.1 this)
    have hacc' : ∀ y ∈ x :: acc, Rch c ps y.1 y.2 := fun y hy => by
      rcases List.mem_cons.1 hy with rfl | hy
      · exact hx
      · exact hacc y hy
    intro y hy
    rcases List.mem_cons.1 hy with rfl | hy
    · exact hx
    · exact chain_rch hacc' h.2 y hy
theorem cert {c : List Ins} {ps : List Int} {L : List (Nat × Nat)} (h1 : chainOk c ps [] L = true) (h2 : closedOk c ps L = true) (i d : Nat) : Rch c ps i d ↔ (i, d) ∈ L := by
  unfold closedOk at h2
  rw [Bool.and_eq_true] at h2
  have hI : Inv c ps (fun i d => (i, d) ∈ L) (fun _ _ => False) := by
    refine ⟨fun i d h => chain_rch (fun x hx => by cases hx) h1 (i, d) (h.resolve_right fun h => h), .inl (by simpa using h2.1), fun i d j e hv hs => .inl ?_⟩
    have := List.all_eq_true.1 h2.2 (i, d) hv
    have := List.all_eq_true.1 this (j, e) (succL_iff.2 hs)
    simpa using this
  exact hI.done (fun _ _ h => h) i d
def goodC (c : List Ins) (ps : List Int) (L : List (Nat × Nat)) : Bool :=
  L.all fun x => !(decide (((c[x.1]!).1 = 19 ∨ (c[x.1]!).1 = 20) ∧ ¬ (0 ≤ (c[x.1]!).2 ∧ (c[x.1]!).2 < c.length))) && decide (fits ps c[x.1]! x.2) && (L.all fun y => !(y.1 == x.1) || y.2 == x.2) && !(decide ((c.length : Int) ∈ nexts c x.1))
theorem wr_cert {c : List Ins} {ps : List Int} {L : List (Nat × Nat)} (h1 : chainOk c ps [] L = true) (h2 : closedOk c ps L = true) (h3 : goodC c ps L = true) {i : Nat} (hr : isReached c ps i) : wr c ps i = 0 := by
  obtain ⟨d, hd⟩ := hr
  have hm := (cert h1 h2 i d).1 hd
  have hg := fun x hx => List.all_eq_true.1 h3 x hx
  have h := hg _ hm
  simp only [Bool.and_eq_true, Bool.not_eq_true', decide_eq_false_iff_not, decide_eq_true_eq] at h
  obtain ⟨⟨⟨g1, g2⟩, g3⟩, g4⟩ := h
  have g1' : ¬ jumpBad c i := g1
  have g4' : ¬ endBad c i := g4
  unfold wr
  rw [if_neg g1', if_neg, if_neg g4']
  rintro (⟨e, he, hf⟩ | ⟨e, e', he, he', hne⟩)
  · have h := hg _ ((cert h1 h2 i e).1 he)
    simp only [Bool.and_eq_true, Bool.not_eq_true', decide_eq_false_iff_not, decide_eq_true_eq] at h
    exact hf h.1.1.2
  · have h := hg _ ((cert h1 h2 i e).1 he)
    rw [Bool.and_eq_true, Bool.and_eq_true] at h
    have := List.all_eq_true.1 h.1.2 _ ((cert h1 h2 i e').1 he')
    simp at this
    exact hne this.symm
theorem whole_cert {c : List Ins} {ps : List Int} (L : List (Nat × Nat)) (h0 : 0 < c.length) (h1 : chainOk c ps [] L = true) (h2 : closedOk c ps L = true) (h3 : goodC c ps L = true) : wholeS c ps = .ok () := by
  unfold wholeS
  rw [if_neg (by omega)]
  have : (List.range c.length).find? (badP c ps) = none := by
    rw [List.find?_range_eq_none]
    intro i _
    rw [badP_false fun h => h.2 (wr_cert h1 h2 h3 h.1)]; rfl
  rw [this]
theorem dep_cert {c : List Ins} {ps : List Int} (L : List (Nat × Nat)) (h1 : chainOk c ps [] L = true) (h2 : closedOk c ps L = true) (h3 : goodC c ps L = true) {i d : Nat} (hm : (i, d) ∈ L) : depI c ps i = d := by
  have hd := (cert h1 h2 i d).2 hm
  refine depI_of hd fun e he => ?_
  have h := List.all_eq_true.1 h3 _ hm
  rw [Bool.and_eq_true, Bool.and_eq_true] at h
  have := List.all_eq_true.1 h.1.2 _ ((cert h1 h2 i e).1 he)
  simpa using this

/-! ### the examples -/
def codeA (y : Int) : List Ins := [(24, 0), (4, 8), (4, 16), (6, 0), (5, y), (23, 0)]
def codeC : List Ins := [(19, 0)]
def sysX (s : Nat → Sl) (sl : Sl) (c : List Ins) : Sy := ⟨s, fun q => if q = 2 then [2] else if q = 3 then [1] else [], ⟨⟨#[115]⟩, 0, 0, sl, c⟩⟩
def kindsX (s1 s2 : Sl) : List Ki := [⟨⟨#[80, 111, 115]⟩, s1, [⟨#[120]⟩]⟩, ⟨⟨#[86, 101, 108]⟩, s2, [⟨#[120]⟩]⟩]
def listA : List (Nat × Nat) := [(0, 0), (1, 0), (2, 1), (3, 2), (4, 1), (5, 0)]
variable {s : Nat → Sl} {sl s1 s2 : Sl}
theorem mayK_X : mayK (kindsX s1 s2) = true := by kernel_rfl
theorem mayP_X {c : List Ins} (h : decide (MayP [sysX s sl c] []) = true) : MayP [sysX s sl c] [] := of_decide_eq_true h
theorem mayA (y : Int) (hy : y = 8 ∨ y = 16) : MayP [sysX s sl (codeA y)] [] := by
  rcases hy with rfl | rfl
  · exact of_decide_eq_true (by kernel_rfl)
  · exact of_decide_eq_true (by kernel_rfl)
theorem mayC : MayP [sysX s sl codeC] [] := of_decide_eq_true (by kernel_rfl)
theorem setsX {c : List Ins} : setsO (kindsX s1 s2) [sysX s sl c] [] = none := by kernel_rfl
theorem touchA : touchO (kindsX s1 s2) [sysX s sl (codeA 8)] [] = none := by kernel_rfl
theorem touchB : touchO (kindsX s1 s2) [sysX s sl (codeA 16)] [] = some (4, 152) := by kernel_rfl
theorem touchC : touchO (kindsX s1 s2) [sysX s sl codeC] [] = none := by kernel_rfl
theorem callsX {ss : List Sy} : callsO ss [] = none := rfl
theorem chainA : chainOk (codeA 8) [] [] listA = true := by kernel_rfl
theorem closedA : closedOk (codeA 8) [] listA = true := by kernel_rfl
theorem goodA : goodC (codeA 8) [] listA = true := by kernel_rfl
theorem wholeA : wholeS (codeA 8) [] = .ok () := whole_cert listA (by decide) chainA closedA goodA
theorem wholeC : wholeS codeC [] = .ok () := whole_cert [(0, 0)] (by decide) (by kernel_rfl) (by kernel_rfl) (by kernel_rfl)
theorem wayA {x y : Nat} (h : WayI (codeA 8) [] x y) : x < y := by
  have one : ∀ x y, StepI (codeA 8) [] x y → x < y := fun x y hs => by
    obtain ⟨⟨⟨d, hr⟩, _⟩, hn⟩ := hs
    have hx := (cert chainA closedA x d).1 hr
    have : ∀ z ∈ listA, ∀ y : Int, y ∈ nexts (codeA 8) z.1 → (z.1 : Int) < y := by decide
    have := this _ hx _ hn
    dsimp only at this
    omega
  induction h with
  | one s => exact one _ _ s
  | more _ s ih => exact Nat.lt_trans ih (one _ _ s)
theorem verA : verifyO (kindsX s1 s2) [sysX s sl (codeA 8)] [] = none := by
  unfold verifyO
  rw [if_pos mayK_X, if_pos (mayA 8 (.inl rfl))]
  refine findSome_none fun j hj => ?_
  match j, hj with
  | 0, _ => exact setsX
  | 1, _ => exact touchA
  | 2, _ => exact callsX
  | 3, _ =>
    show waysO _ _ = none
    unfold waysO
    have h1 : (List.range (([sysX s sl (codeA 8)] : List Sy).length + ([] : List Rou).length)).findSome? (wholeI [sysX s sl (codeA 8)] []) = none := findSome_none fun j hj => by
      have : j = 0 := by simp at hj; omega
      subst this
      unfold wholeI
      show (match wholeS (codeA 8) [] with
        | .error (a, e) => _
        | .ok _ => none) = none
      rw [wholeA]
    rw [h1]
    refine findSome_none fun j hj => ?_
    have : j = 0 := by simp at hj; omega
    subst this
    unfold turnI
    rw [Option.map_eq_none_iff, List.find?_range_eq_none]
    intro i _
    show (!turnB (codeA 8) [] i) = true
    rw [turnB_f fun h => Nat.lt_irrefl _ (wayA h.2)]; rfl
theorem verB : verifyO (kindsX s1 s2) [sysX s sl (codeA 16)] [] = some (4, 152) := by
  unfold verifyO
  rw [if_pos mayK_X, if_pos (mayA 16 (.inr rfl))]
  refine findSome_range (i := 1) (by omega) (fun j hj => ?_) touchB
  have : j = 0 := by omega
  subst this; exact setsX
theorem verC : verifyO (kindsX s1 s2) [sysX s sl codeC] [] = some (0, 153) := by
  unfold verifyO
  rw [if_pos mayK_X, if_pos mayC]
  refine findSome_range (i := 3) (by omega) (fun j hj => ?_) ?_
  · match j, hj with
    | 0, _ => exact setsX
    | 1, _ => exact touchC
    | 2, _ => exact callsX
  · show waysO _ _ = _
    unfold waysO
    have h1 : (List.range (([sysX s sl codeC] : List Sy).length + ([] : List Rou).length)).findSome? (wholeI [sysX s sl codeC] []) = none := findSome_none fun j hj => by
      have : j = 0 := by simp at hj; omega
      subst this
      unfold wholeI
      show (match wholeS codeC [] with
        | .error (a, e) => _
        | .ok _ => none) = none
      rw [wholeC]
    rw [h1]
    refine findSome_range (i := 0) (by simp) (fun j hj => by omega) ?_
    unfold turnI
    have : (List.range ((rousL [sysX s sl codeC] [])[0]!).code.length).find? (turnB ((rousL [sysX s sl codeC] [])[0]!).code (parms [])) = some 0 := by
      rw [List.find?_range_eq_some]
      refine ⟨?_, List.mem_range.2 (show 0 < codeC.length by decide), fun j hj => by omega⟩
      show turnB codeC [] 0 = true
      refine turnB_t ⟨⟨⟨0, .zero⟩, by decide, by decide⟩, .one ⟨⟨⟨0, .zero⟩, by decide, by decide⟩, by decide⟩⟩
    rw [this]; rfl
end Go.Proofs.YtlkmmplgfjicjaaGreat
/-
  The law's examples.
-/
namespace Go.Proofs.YtlkmmplgfjicjaaGreat
set_option linter.unusedVariables false
set_option linter.unusedSimpArgs false
open Go.Proofs.YtlkmmplgfjicjaaGreat.Hc Go.Proofs.YtlkmmplgfjicjaaGreat.Hc.Vf
set_option maxRecDepth 100000
variable {H : Heap}

def foI : Option (Nat × Nat) → Int × Int × Bool
  | none => (0, 0, true)
  | some (a, e) => ((a : Nat), (e : Nat), (e : Int) != 0)
theorem s_lfault {lo : Nat} {v : Value} {o : Option (Nat × Nat)} (h : VerOut lo H v o) {k : Int × Int × Bool → Heap → Prop} (hk : k (foI o) H) : CallT Pg f_hindcastlaw15_fault [v] (.tup [(.c (.int .i64)), (.c (.int .i64)), (.c .bool)]) H k := by
  refine c_hindcastlaw15_fault _ ?_
  unfold v_hindcastlaw15_fault
  cases o with
  | none => exact .inl ⟨h, hk⟩
  | some ae =>
    obtain ⟨a, e⟩ := ae
    obtain ⟨g, rfl, _, hr⟩ := h
    refine .inr ⟨⟨_, _, rfl⟩, ?_⟩
    refine .inl ⟨some (adr g), rfl, Jn_in ?_⟩
    simp only [NilCk_some, adr_add]
    have c0 : hcell H (adr g) = some (.int .i64 (a : Nat)) := (hr.cell 0).trans rfl
    have c1 : hcell H ⟨g, 1, none⟩ = some (.int .i64 (e : Nat)) := (hr.cell 1).trans rfl
    exact Ld_int c0 (Ld_int c1 (Ld_int c1 hk))
theorem prg_of {b : Nat} {s : Nat → Sl} {l : Sl} {c : List Ins} (hr : Row H b T_api_System (sysV (sysX s l c))) (hs : SyR H (sysX s l c)) : PrgR H (⟨some (adr b), 1, 1⟩, ⟨none, 0, 0⟩) [sysX s l c] [] := by
  refine ⟨⟨?_, rfl, Nat.le_refl _⟩, fun x hx => ?_, RN.nil _ _ _, fun r hr => (by cases hr), fun r hr => (by cases hr)⟩
  · show hcells H (adr b) 0 ([sysX s l c].flatMap sysV)
    have : [sysX s l c].flatMap sysV = sysV (sysX s l c) := by simp
    rw [this]
    exact hr.rd_all
  · rw [List.mem_singleton] at hx; subst hx; exact hs
theorem s_one {l : Sl} {c : List Ins} (hc : RN insV 2 H l c) (hl : c.length ≤ 100) {k : Sl × Sl → Heap → Prop} (hk : ∀ b s H', Ext H H' → H.size ≤ b → (∀ q a, (s q).a = some a → H.size ≤ a.block) → SyR H' (sysX s l c) → Row H' b T_api_System (sysV (sysX s l c)) → k (⟨some (adr b), 1, 1⟩, ⟨none, 0, 0⟩) H') :
    CallT Pg f_hindcastlaw15_one [.slice l.a l.len l.cap] (.one (.agg [.sl, .sl])) H k := by
  refine c_hindcastlaw15_one _ ?_
  unfold v_hindcastlaw15_one
  refine Nw_row (vs := [slV ⟨none, 0, 0⟩, slV ⟨none, 0, 0⟩]) fun b1 H1 hb1 hE1 _ hr1 => Nw_row (vs := [.int .i64 2]) fun b2 H2 hb2 hE2 _ hr2 => Nw_row (vs := [.int .i64 1]) fun b3 H3 hb3 hE3 _ hr3 => ?_
  let s : Nat → Sl := fun q => if q = 2 then ⟨some (adr b2), 1, 1⟩ else if q = 3 then ⟨some (adr b3), 1, 1⟩ else ⟨none, 0, 0⟩
  refine Nw_row (vs := sysV (sysX s l c)) fun b4 H4 hb4 hE4 _ hr4 => ?_
  simp only [adr_add]
  have hr14 : Row H4 b1 T_api_Program [slV ⟨none, 0, 0⟩, slV ⟨none, 0, 0⟩] := hE4.row (hE3.row (hE2.row hr1 fun h => h) fun h => h) fun h => h
  refine St_row hr14 (by simp) fun H5 hU5 _ hr5 => St_row hr5 (by simp) fun H6 hU6 _ hr6 => ?_
  have z1 := hE1.size
  have z2 := hE2.size
  have z3 := hE3.size
  have hE6a : Ext H H4 := ((hE1.trans hE2 fun _ _ h => h).trans hE3 fun _ _ h => h).trans hE4 fun _ _ h => h
  have hU6' : Upd (· = b1) H4 H6 := hU5.trans hU6 fun _ _ h => h
  have hE6 : Ext H H6 := extUpd hE6a (by omega) hU6'
  have l1 := hr1.lt
  have l2 := hr2.lt
  have l3 := hr3.lt
  have hr46 : Row H6 b4 T_api_System (sysV (sysX s l c)) := hU6'.row hr4 (by omega)
  have hr26 : Row H6 b2 T_int [.int .i64 2] := hU6'.row (hE4.row (hE3.row hr2 fun h => h) fun h => h) (by omega)
  have hr36 : Row H6 b3 T_int [.int .i64 1] := hU6'.row (hE4.row hr3 fun h => h) (by omega)
  have hsR : SyR H6 (sysX s l c) := by
    refine ⟨fun q hq => ?_, hc.ext hE6, fun q hq => ?_, by show c.length ≤ _; omega⟩
    · match q, hq with
      | 0, _ => exact RL.nil _ _
      | 1, _ => exact RL.nil _ _
      | 2, _ => exact ⟨Row.rd_all hr26, rfl, Nat.le_refl _⟩
      | 3, _ => exact ⟨Row.rd_all hr36, rfl, Nat.le_refl _⟩
    · match q, hq with
      | 0, _ => simp [sysX]
      | 1, _ => simp [sysX]
      | 2, _ => simp [sysX]
      | 3, _ => simp [sysX]
  refine ⟨(⟨some (adr b4), 1, 1⟩, ⟨none, 0, 0⟩), hr6.rd_all, hk b4 s H6 hE6 (by omega) (fun q a ha => ?_) hsR hr46⟩
  dsimp only [s] at ha
  split at ha
  · cases ha; show H.size ≤ b2; omega
  · split at ha
    · cases ha; show H.size ≤ b3; omega
    · cases ha
theorem s_small {k : Sl → Heap → Prop} (hk : ∀ sl s1 s2 H', Ext H H' → KdsR H' sl (kindsX s1 s2) → k sl H') : CallT Pg f_hindcastlaw15_small [] (.one (.c .sl)) H k := by
  refine c_hindcastlaw15_small ?_
  unfold v_hindcastlaw15_small
  refine Nw_row (vs := [.string ⟨#[120]⟩]) fun b1 H1 hb1 hE1 _ hr1 => Nw_row (vs := [.string ⟨#[120]⟩]) fun b2 H2 hb2 hE2 _ hr2 => ?_
  refine Nw_row (vs := (kindsX ⟨some (adr b1), 1, 1⟩ ⟨some (adr b2), 1, 1⟩).flatMap kiV) fun b3 H3 hb3 hE3 _ hr3 => ?_
  refine hk _ ⟨some (adr b1), 1, 1⟩ ⟨some (adr b2), 1, 1⟩ _ ((hE1.trans hE2 fun _ _ h => h).trans hE3 fun _ _ h => h) ?_
  have hr13 := hE3.row (hE2.row hr1 fun h => h) fun h => h
  have hr23 := hE3.row hr2 fun h => h
  refine ⟨⟨Row.rd_all hr3, rfl, Nat.le_refl _⟩, fun x hx => ?_, fun x hx => ?_, fun x hx => ?_, fun x hx => ?_, show 2 ≤ 2 ^ 42 by decide⟩
  · simp only [kindsX, List.mem_cons, List.not_mem_nil, or_false] at hx
    rcases hx with rfl | rfl
    · exact ⟨Row.rd_all hr13, rfl, Nat.le_refl _⟩
    · exact ⟨Row.rd_all hr23, rfl, Nat.le_refl _⟩
  · simp only [kindsX, List.mem_cons, List.not_mem_nil, or_false] at hx
    rcases hx with rfl | rfl <;> exact (show 1 ≤ 2 ^ 60 by decide)
  · simp only [kindsX, List.mem_cons, List.not_mem_nil, or_false] at hx
    rcases hx with rfl | rfl <;> intro y hy <;> (rw [List.mem_singleton] at hy; subst hy; exact (show 1 ≤ 2 ^ 60 by decide))
  · simp only [kindsX, List.mem_cons, List.not_mem_nil, or_false] at hx
    rcases hx with rfl | rfl <;> exact (show 3 ≤ 2 ^ 60 by decide)
theorem dep_okA : depthsS (codeA 8) [] = .ok [0, 0, 1, 2, 1, 0] := by
  rw [depthsS_eq, if_neg (by decide), wholeA]
  have : (List.range (codeA 8).length).map (depI (codeA 8) []) = [0, 0, 1, 2, 1, 0] := by
    show [depI (codeA 8) [] 0, depI (codeA 8) [] 1, depI (codeA 8) [] 2, depI (codeA 8) [] 3, depI (codeA 8) [] 4, depI (codeA 8) [] 5] = _
    rw [dep_cert listA chainA closedA goodA (i := 0) (d := 0) (by decide), dep_cert listA chainA closedA goodA (i := 1) (d := 0) (by decide), dep_cert listA chainA closedA goodA (i := 2) (d := 1) (by decide), dep_cert listA chainA closedA goodA (i := 3) (d := 2) (by decide), dep_cert listA chainA closedA goodA (i := 4) (d := 1) (by decide), dep_cert listA chainA closedA goodA (i := 5) (d := 0) (by decide)]
    rfl
  show Except.ok ((List.range (codeA 8).length).map (depI (codeA 8) [])) = _
  rw [this]
theorem progK {b : Nat} {p : Sl × Sl} {T : TypeId} (hr : Row H b T [slV p.1, slV p.2]) : ∀ x ∈ [(⟨b, 0, none⟩, Value.slice p.1.a p.1.len p.1.cap), (⟨b, 1, none⟩, .slice p.2.a p.2.len p.2.cap)], hcell H x.1 = some x.2 := fun x hx => by
  simp only [List.mem_cons, List.not_mem_nil, or_false] at hx
  rcases hx with rfl | rfl
  · exact (hr.cell 0).trans rfl
  · exact (hr.cell 1).trans rfl
theorem prog_copy {p : Sl × Sl} {K : Nat → Heap → Prop} (hK : ∀ b H', b = H.size → Ext H H' → Row H' b T_api_Program [slV p.1, slV p.2] → K b H') :
    Nw #[.slice none 0 0, .slice none 0 0] T_api_Program H fun b2 H3 => St ((adr b2).add 0) (.slice p.1.a p.1.len p.1.cap) H3 fun H4 => St ((adr b2).add 1) (.slice p.2.a p.2.len p.2.cap) H4 fun H5 => K b2 H5 := by
  refine Nw_row (vs := [slV ⟨none, 0, 0⟩, slV ⟨none, 0, 0⟩]) fun b1 H1 hb1 hE1 _ hr1 => ?_
  simp only [adr_add]
  refine St_row hr1 (by simp) fun H2 hU2 _ hr2 => St_row hr2 (by simp) fun H3 hU3 _ hr3 => ?_
  exact hK _ _ hb1 (extUpd hE1 (by omega) (hU2.trans hU3 fun _ _ h => h)) hr3
theorem s_shown {k : Bool → Heap → Prop} (hk : ∀ H', Ext H H' → k true H') : CallT Pg f_hindcastlaw15_shown [] (.one (.c .bool)) H k := by
  refine c_hindcastlaw15_shown ?_
  unfold v_hindcastlaw15_shown
  refine Nw_row (vs := (codeA 8).flatMap insV) fun b1 H1 hb1 hE1 _ hr1 => ?_
  have hcd : RN insV 2 H1 ⟨some (adr b1), 6, 6⟩ (codeA 8) := ⟨Row.rd_all hr1, rfl, Nat.le_refl _⟩
  refine s_one hcd (by decide) fun bs s H2 hE2 hbs hsb hS2 hrs2 => ?_
  let p : Sl × Sl := (⟨some (adr bs), 1, 1⟩, ⟨none, 0, 0⟩)
  refine prog_copy (p := p) fun b2 H5 hb2 hE5 hp5 => ?_
  simp only [adr_add, mk_add]
  refine ⟨p, hp5.rd_all, s_small fun kl k1 k2 H6 hE6 hK6 => Stab_all (progK (hE6.row hp5 fun h => h)) ?_⟩
  have hE6' : Ext H2 H6 := hE5.trans hE6 fun _ _ h => h
  refine s_Verify (p := p) (prg_of (hE6'.row hrs2 fun h => h) (hS2.ext hE6')) hK6 (fun x hx => (by cases hx)) fun v1 H7 hE7 hv1 => ?_
  rw [verA] at hv1
  have hE7' : Ext H2 H7 := hE6'.trans hE7 fun _ _ h => h
  have hp7 := (hE6.trans hE7 fun _ _ h => h).row hp5 fun h => h
  have hrs7 := hE7'.row hrs2 fun h => h
  refine s_lfault hv1 (Stab_all (progK hp7) ⟨p, hp7.rd_all, Ld_sl (s := p.1) ((hp7.cell 0).trans rfl) ?_⟩)
  have h8 : ∀ {kk : Addr → Prop}, kk ⟨bs, 0, none⟩ → IxA 8 p.1 0 kk := fun h => IxA.mk rfl (by omega) (by simp [p]) (by simpa using h)
  refine h8 ?_
  simp only [mk_add]
  refine ld_rou (r := (sysX s ⟨some (adr b1), 6, 6⟩ (codeA 8)).rou) (sys_rou hrs7) ?_
  refine s_Depths (p := p) (r := (sysX s ⟨some (adr b1), 6, 6⟩ (codeA 8)).rou) (fs := []) (hcd.ext (hE2.trans hE7' fun _ _ h => h)) (RN.nil _ _ _) (fun x hx => (by cases hx)) fun d H9 hE9 hd => ?_
  have hd' : d.2 = .nilIface ∧ Vec H9 T_int d.1 (ints [0, 0, 1, 2, 1, 0]) ∧ ∀ b, d.1.a = some (adr b) → H7.size ≤ b := by
    unfold DepOut at hd
    have e : depthsS (sysX s ⟨some (adr b1), 6, 6⟩ (codeA 8)).rou.code (parms []) = .ok [0, 0, 1, 2, 1, 0] := dep_okA
    rw [e] at hd
    exact hd
  obtain ⟨hd1, hd2, hd3⟩ := hd'
  have hE9' : Ext H2 H9 := hE7'.trans hE9 fun _ _ h => h
  have hp9 := hE9.row hp7 fun h => h
  have hrs9 := hE9.row hrs7 fun h => h
  have c9 : hcell H9 (adr b2) = some (slV p.1) := (hp9.cell 0).trans rfl
  refine Stab_1 c9 (Ld_sl (s := p.1) c9 (h8 ?_))
  simp only [mk_add]
  refine Ld_sl (s := ⟨some (adr b1), 6, 6⟩) ((hrs9.cell 7).trans rfl) (IxA_adr (by omega) (by omega) ?_)
  have hr19 : Row H9 b1 T_api_Instr ((codeA 8).flatMap insV) := (hE2.trans hE9' fun _ _ h => h).row hr1 fun h => h
  show St ⟨b1, 9, none⟩ _ _ _
  refine St_row hr19 (by decide) fun H10 hU10 hz10 hr110 => ?_
  have hr110 : Row H10 b1 T_api_Instr ((codeA 16).flatMap insV) := hr110
  have l1 : b1 < H1.size := hr1.lt
  have z2 := hE2.size
  have z5 := hE5.size
  have z6 := hE6.size
  have z7 := hE7.size
  have hp10 : Row H10 b2 T_api_Program [slV p.1, slV p.2] := hU10.row hp9 (by omega)
  have hrs10 : Row H10 bs T_api_System (sysV (sysX s ⟨some (adr b1), 6, 6⟩ (codeA 16))) := hU10.row hrs9 (by omega)
  have hS10 : SyR H10 (sysX s ⟨some (adr b1), 6, 6⟩ (codeA 16)) := by
    have hS9 := hS2.ext hE9'
    exact ⟨fun q hq => (hS9.sets q hq).upd hU10 fun a ha e => by have := hsb q a ha; omega, ⟨Row.rd_all hr110, rfl, Nat.le_refl _⟩, hS9.lens, (show 6 ≤ 2 ^ 60 by decide)⟩
  have hd10 : Vec H10 T_int d.1 (ints [0, 0, 1, 2, 1, 0]) := hd2.upd hU10 fun b hb e => by have := hd3 b hb; omega
  have hE10 : Ext H H10 := (hE1.trans (hE2.trans hE9' fun _ _ h => h) fun _ _ h => h).trans hU10 fun b hb e => by omega
  refine ⟨p, hp10.rd_all, s_small fun kl2 k3 k4 H11 hE11 hK11 => Stab_all (progK (hE11.row hp10 fun h => h)) ?_⟩
  refine s_Verify (p := p) (prg_of (hE11.row hrs10 fun h => h) (hS10.ext hE11)) hK11 (fun x hx => (by cases hx)) fun v2 H12 hE12 hv2 => ?_
  rw [verB] at hv2
  have hE12' := hE11.trans hE12 fun _ _ h => h
  refine s_lfault hv2 (Stab_all (progK (hE12'.row hp10 fun h => h)) ?_)
  refine Nw_row (vs := codeC.flatMap insV) fun b3 H14 hb3 hE14 _ hr14 => ?_
  have hcd3 : RN insV 2 H14 ⟨some (adr b3), 1, 1⟩ codeC := ⟨Row.rd_all hr14, rfl, Nat.le_refl _⟩
  refine s_one hcd3 (by decide) fun bs3 s3 H15 hE15 hbs3 hsb3 hS15 hrs15 => ?_
  let p3 : Sl × Sl := (⟨some (adr bs3), 1, 1⟩, ⟨none, 0, 0⟩)
  refine prog_copy (p := p3) fun b4 H18 hb4 hE18 hp18 => ?_
  refine ⟨p3, hp18.rd_all, s_small fun kl3 k5 k6 H19 hE19 hK19 => Stab_all (progK (hE19.row hp18 fun h => h)) ?_⟩
  have hE19' : Ext H15 H19 := hE18.trans hE19 fun _ _ h => h
  refine s_Verify (p := p3) (prg_of (hE19'.row hrs15 fun h => h) (hS15.ext hE19')) hK19 (fun x hx => (by cases hx)) fun v3 H20 hE20 hv3 => ?_
  rw [verC] at hv3
  refine s_lfault hv3 (Stab_all (progK ((hE19.trans hE20 fun _ _ h => h).row hp18 fun h => h)) (Jn_in ?_))
  have hE20' : Ext H10 H20 := (((hE12'.trans hE14 fun _ _ h => h).trans hE15 fun _ _ h => h).trans hE19' fun _ _ h => h).trans hE20 fun _ _ h => h
  have hd20 := hd10.ext hE20'
  have hl := hd20.len
  iterate 9 refine (Br_true _ _).2 ?_
  refine .inl ⟨hd1, (Br_true _ _).2 ?_⟩
  rw [show ((d.1.len : Int) == 6) = true by rw [hl]; rfl]
  refine (Br_true _ _).2 (IxA_vec hd20 (by omega) (by simp) fun a4 ha4 _ => Ld_int (n := 2) ?_ ((Br_true _ _).2 (IxA_vec hd20 (by omega) (by simp) fun a5 ha5 _ => Ld_int (n := 0) ?_ (hk _ (hE10.trans hE20' fun _ _ h => h)))))
  · rw [ha4]; rfl
  · rw [ha5]; rfl
end Go.Proofs.YtlkmmplgfjicjaaGreat
