/-
  Machine: instructions that reckon.
-/
import Derived.Test.YtfpmgpblhhcpgaaGreatMD
import Derived.Test.YtfpmgpblhhcpgaaGreatHcLawB
namespace Go.Proofs.YtfpmgpblhhcpgaaGreat
set_option linter.unusedVariables false
set_option linter.unusedSimpArgs false
open Go.Proofs.YtfpmgpblhhcpgaaGreat.Hc Go.Proofs.YtfpmgpblhhcpgaaGreat.Hc.Vf Go.Proofs.YtfpmgpblhhcpgaaGreat.Hc.Mc Go.Proofs.YtfpmgpblhhcpgaaGreat.Hc.Dice
set_option maxRecDepth 100000
variable {H : Heap}

abbrev fnV (n : Nat) : Value := .func (.func n) #[] #[]
abbrev IntR : RTy := .one (.c (.int .i64))
theorem trueq (w x : Int) : (w == x) = decide (w = x) := by rw [Bool.eq_iff_iff, decide_eq_true_eq, beq_iff_eq]
theorem truneq (w x : Int) : (w != x) = decide (w ≠ x) := by simp [bne, trueq]
/-- A function value of two numbers does what op does. -/
def Bin2 (f : Value) (op : Nat) : Prop := ∀ (H : Heap) (w x : Int) (K : Int → Heap → Prop), K (binI op w x) H → CallX Pg f [.int .i64 w, .int .i64 x] IntR H K
def Un1 (f : Value) (op : Nat) : Prop := ∀ (H : Heap) (x : Int) (K : Int → Heap → Prop), K (unI op x) H → CallX Pg f [.int .i64 x] IntR H K
theorem bin_6 : Bin2 (fnV 102) 6 := fun H w x K h => ⟨102, #[], #[], rfl, c_machine_deedOf_1 w x (by unfold v_machine_deedOf_1; exact h)⟩
theorem bin_7 : Bin2 (fnV 103) 7 := fun H w x K h => ⟨103, #[], #[], rfl, c_machine_deedOf_2 w x (by unfold v_machine_deedOf_2; exact h)⟩
theorem bin_8 : Bin2 (fnV 104) 8 := fun H w x K h => ⟨104, #[], #[], rfl, c_machine_deedOf_3 w x (by unfold v_machine_deedOf_3; exact h)⟩
theorem bin_9 : Bin2 (fnV 105) 9 := fun H w x K h => ⟨105, #[], #[], rfl, c_machine_div w x (by
  unfold v_machine_div
  have h : K (divI w x) H := h
  unfold divI at h
  refine Br.mk (fun e => ?_) fun e => Br.mk (fun e2 => ?_) fun e2 => ?_
  · rwa [if_pos (beqI e)] at h
  · rw [if_neg (bneI e), if_pos (beqI e2)] at h
    rw [Int.zero_sub]; exact h
  · rw [if_neg (bneI e), if_neg (bneI e2)] at h
    exact ⟨bneI e, h⟩)⟩
theorem bin_10 : Bin2 (fnV 106) 10 := fun H w x K h => ⟨106, #[], #[], rfl, c_machine_rem w x (by
  unfold v_machine_rem
  have h : K (remI w x) H := h
  unfold remI at h
  refine Jn.mk (fun j H' => H = H' ∧ j = decide (x = 0 ∨ x = -1)) (fun kk hkk => ?_) ?_
  · refine Br.mk (fun e => hkk _ _ ⟨rfl, (decide_eq_true (.inl (beqI e))).symm⟩) fun e => hkk _ _ ⟨rfl, ?_⟩
    have := bneI e
    rw [Bool.eq_iff_iff, decide_eq_true_eq, beq_iff_eq]; omega
  · rintro j _ ⟨rfl, rfl⟩
    refine Br_dec (fun e => ?_) fun e => ?_
    · rwa [if_pos e] at h
    · rw [if_neg e] at h
      exact ⟨fun e' => e (.inl e'), h⟩)⟩
theorem bin_36 : Bin2 (fnV 107) 36 := fun H w x K h => ⟨107, #[], #[], rfl, c_machine_deedOf_4 w x (by
  unfold v_machine_deedOf_4
  have h : K (if w < x then w else x) H := h
  have e : (if x < w then x else w) = (if w < x then w else x) := by split <;> split <;> omega
  rw [e]; exact h)⟩
theorem bin_37 : Bin2 (fnV 108) 37 := fun H w x K h => ⟨108, #[], #[], rfl, c_machine_deedOf_5 w x (by
  unfold v_machine_deedOf_5
  have h : K (if w > x then w else x) H := h
  have e : (if w < x then x else w) = (if w > x then w else x) := by split <;> split <;> omega
  rw [e]; exact h)⟩
theorem un_11 : Un1 (fnV 110) 11 := fun H x K h => ⟨110, #[], #[], rfl, c_machine_deedOf_6 x (by unfold v_machine_deedOf_6; rw [Int.zero_sub]; exact h)⟩
theorem un_18 : Un1 (fnV 111) 18 := fun H x K h => ⟨111, #[], #[], rfl, c_machine_deedOf_7 x (by unfold v_machine_deedOf_7; rw [trueq]; exact s_truth h)⟩
theorem un_38 : Un1 (fnV 113) 38 := fun H x K h => ⟨113, #[], #[], rfl, c_machine_deedOf_8 x (by
  unfold v_machine_deedOf_8
  have h : K (if x < 0 then w64 (-x) else x) H := h
  refine Br_dec (fun e => ?_) fun e => ?_
  · rw [if_pos e] at h; rw [Int.zero_sub]; exact h
  · rwa [if_neg e] at h)⟩
theorem bin_12 : Bin2 (fnV 154) 12 := fun H w x K h => ⟨154, #[], #[], rfl, c_machine_compared_1 w x (by unfold v_machine_compared_1; rw [trueq]; exact s_truth h)⟩
theorem bin_13 : Bin2 (fnV 155) 13 := fun H w x K h => ⟨155, #[], #[], rfl, c_machine_compared_2 w x (by unfold v_machine_compared_2; rw [truneq]; exact s_truth h)⟩
theorem bin_14 : Bin2 (fnV 156) 14 := fun H w x K h => ⟨156, #[], #[], rfl, c_machine_compared_3 w x (by unfold v_machine_compared_3; exact s_truth h)⟩
theorem bin_15 : Bin2 (fnV 157) 15 := fun H w x K h => ⟨157, #[], #[], rfl, c_machine_compared_4 w x (by unfold v_machine_compared_4; exact s_truth h)⟩
theorem bin_16 : Bin2 (fnV 158) 16 := fun H w x K h => ⟨158, #[], #[], rfl, c_machine_compared_5 w x (by unfold v_machine_compared_5; exact s_truth h)⟩
theorem bin_17 : Bin2 (fnV 159) 17 := fun H w x K h => ⟨159, #[], #[], rfl, c_machine_compared_6 w x (by unfold v_machine_compared_6; exact s_truth h)⟩
/-- A deed of two numbers, of one. -/
def DBin (H : Heap) (v : Value) (op : Nat) : Prop := ∃ b f, v = .func (.func 152) #[] #[.pointer (some (adr b))] ∧ Row H b T_func_int64_int64_int64 [fnV f] ∧ Bin2 (fnV f) op
def DUn (H : Heap) (v : Value) (op : Nat) : Prop := ∃ b f, v = .func (.func 153) #[] #[.pointer (some (adr b))] ∧ Row H b T_func_int64_int64 [fnV f] ∧ Un1 (fnV f) op
theorem DBin.call {v : Value} {op : Nat} (h : DBin H v op) {s : Sl} {w x : Int} (hv : Vec H T_int64 s (ints [w, x])) {K : Int → Heap → Prop} (hK : K (binI op w x) H) : CallX Pg v [.slice s.a s.len s.cap] IntR H K := by
  obtain ⟨b, f, rfl, hr, hf⟩ := h
  refine ⟨152, #[], #[.pointer (some (adr b))], rfl, ?_⟩
  show CallT Pg f_machine_of2_1 [.slice s.a s.len s.cap, .pointer (some (adr b))] _ _ _
  refine c_machine_of2_1 s (adr b) ?_
  unfold v_machine_of2_1
  exact ⟨fnV f, (hr.cell 0).trans rfl, IxA_vec hv (by decide) (by simp) fun a1 ha1 _ => Ld_int (n := w) (ha1.trans rfl) (IxA_vec hv (by decide) (by simp) fun a2 ha2 _ => Ld_int (n := x) (ha2.trans rfl) (hf _ _ _ _ hK))⟩
theorem DUn.call {v : Value} {op : Nat} (h : DUn H v op) {s : Sl} {x : Int} (hv : Vec H T_int64 s (ints [x])) {K : Int → Heap → Prop} (hK : K (unI op x) H) : CallX Pg v [.slice s.a s.len s.cap] IntR H K := by
  obtain ⟨b, f, rfl, hr, hf⟩ := h
  refine ⟨153, #[], #[.pointer (some (adr b))], rfl, ?_⟩
  show CallT Pg f_machine_of1_1 [.slice s.a s.len s.cap, .pointer (some (adr b))] _ _ _
  refine c_machine_of1_1 s (adr b) ?_
  unfold v_machine_of1_1
  exact ⟨fnV f, (hr.cell 0).trans rfl, IxA_vec hv (by decide) (by simp) fun a1 ha1 _ => Ld_int (n := x) (ha1.trans rfl) (hf _ _ _ hK)⟩
theorem DBin.upd {M : Nat → Prop} {H' : Heap} (hu : Upd M H H') {v : Value} {op : Nat} (h : DBin H v op) (hm : ∀ b vs, Row H b T_func_int64_int64_int64 vs → ¬ M b) : DBin H' v op := by
  obtain ⟨b, f, e, hr, hf⟩ := h
  exact ⟨b, f, e, hu.row hr (hm _ _ hr), hf⟩
theorem DUn.upd {M : Nat → Prop} {H' : Heap} (hu : Upd M H H') {v : Value} {op : Nat} (h : DUn H v op) (hm : ∀ b vs, Row H b T_func_int64_int64 vs → ¬ M b) : DUn H' v op := by
  obtain ⟨b, f, e, hr, hf⟩ := h
  exact ⟨b, f, e, hu.row hr (hm _ _ hr), hf⟩
theorem s_of2 {n op : Nat} (hf : Bin2 (fnV n) op) {k : Int × Value → Heap → Prop} (hk : ∀ H' v, Ext H H' → v.oneCell' = true → DBin H' v op → k (2, v) H') : CallT Pg f_machine_of2 [fnV n] (.one (.agg [(.int .i64), .raw])) H k := by
  refine c_machine_of2 _ ?_
  unfold v_machine_of2
  refine Nw_row (vs := [fnV n]) fun b1 H1 hb1 hE1 hz1 hr1 => ?_
  refine Nw_row (vs := [.int .i64 0, .nilFunc]) fun b2 H2 hb2 hE2 hz2 hr2 => ?_
  simp only [adr_add]
  refine St_row hr2 (by simp) fun H3 hU3 _ hr3 => ⟨rfl, St_row hr3 (by simp) fun H4 hU4 _ hr4 => ⟨(2, .func (.func 152) #[] #[.pointer (some (adr b1))]), hr4.rd_all, ?_⟩⟩
  have hE24 : Ext H1 H4 := extUpd hE2 (by omega) (hU3.trans hU4 fun _ _ e => e)
  exact hk H4 _ (hE1.trans hE24 fun _ _ h => h) rfl ⟨b1, n, rfl, hE24.row hr1 fun h => h, hf⟩
theorem s_of1 {n op : Nat} (hf : Un1 (fnV n) op) {k : Int × Value → Heap → Prop} (hk : ∀ H' v, Ext H H' → v.oneCell' = true → DUn H' v op → k (1, v) H') : CallT Pg f_machine_of1 [fnV n] (.one (.agg [(.int .i64), .raw])) H k := by
  refine c_machine_of1 _ ?_
  unfold v_machine_of1
  refine Nw_row (vs := [fnV n]) fun b1 H1 hb1 hE1 hz1 hr1 => ?_
  refine Nw_row (vs := [.int .i64 0, .nilFunc]) fun b2 H2 hb2 hE2 hz2 hr2 => ?_
  simp only [adr_add]
  refine St_row hr2 (by simp) fun H3 hU3 _ hr3 => ⟨rfl, St_row hr3 (by simp) fun H4 hU4 _ hr4 => ⟨(1, .func (.func 153) #[] #[.pointer (some (adr b1))]), hr4.rd_all, ?_⟩⟩
  have hE24 : Ext H1 H4 := extUpd hE2 (by omega) (hU3.trans hU4 fun _ _ e => e)
  exact hk H4 _ (hE1.trans hE24 fun _ _ h => h) rfl ⟨b1, n, rfl, hE24.row hr1 fun h => h, hf⟩
theorem deed_put {b : Nat} {u0 u1 : Value} (hr : Row H b T_machine_deed [u0, u1]) {n : Int} {v : Value} (hv : v.oneCell' = true) {t : Bool} {k : (Int × Value) × Bool → Heap → Prop} (hk : ∀ H', Upd (· = b) H H' → k ((n, v), t) H') :
    St ((adr b).add 0) (.int .i64 n) H fun H3 => StV ((adr b).add 1) v H3 fun H4 => LdC [(.int .i64), .raw] (adr b) H4 fun (c1 : Int × Value) => k (((c1.1, c1.2), t)) H4 := by
  simp only [adr_add]
  refine St_row hr (by simp) fun H3 hU3 _ hr3 => ⟨hv, St_row hr3 (by simp) fun H4 hU4 _ hr4 => ⟨(n, v), hr4.rd_all, hk H4 (hU3.trans hU4 fun _ _ e => e)⟩⟩
/-- What a deed is, if the op reckons. -/
def Deed (H : Heap) (op n : Int) (v : Value) : Prop := (isBin op = true → n = 2 ∧ DBin H v op.toNat) ∧ (isUn op = true → n = 1 ∧ DUn H v op.toNat)
theorem Deed.upd {M : Nat → Prop} {H' : Heap} (hu : Upd M H H') {op n : Int} {v : Value} (h : Deed H op n v) (hm : ∀ b T vs, Row H b T vs → T = T_func_int64_int64_int64 ∨ T = T_func_int64_int64 → ¬ M b) : Deed H' op n v :=
  ⟨fun e => ⟨(h.1 e).1, (h.1 e).2.upd hu fun b vs hr => hm b _ vs hr (.inl rfl)⟩, fun e => ⟨(h.2 e).1, (h.2 e).2.upd hu fun b vs hr => hm b _ vs hr (.inr rfl)⟩⟩
theorem deed_row {b : Nat} {vs : List Value} (hr : Row H b T_machine_deed vs) : ∀ b' T vs', Row H b' T vs' → T = T_func_int64_int64_int64 ∨ T = T_func_int64_int64 → ¬ b' = b := fun b' T vs' hr' hT e => by
  rcases hT with rfl | rfl <;> exact hr'.ne hr (by decide) e
theorem s_compared {op : Int} {k : (Int × Value) × Bool → Heap → Prop} (hno : isBin op = true → 12 ≤ op ∧ op ≤ 17) (hno1 : isUn op = false) (hk : ∀ H' n v, Ext H H' → v.oneCell' = true → Deed H' op n v → k ((n, v), isBin op || isUn op) H') : CallT Pg f_machine_compared [.int .i64 op] (.tup [(.agg [(.int .i64), .raw]), (.c .bool)]) H k := by
  refine c_machine_compared _ ?_
  unfold v_machine_compared
  refine Nw_row (vs := [.int .i64 0, .nilFunc]) fun b1 H1 hb1 hE1 hz1 hr1 => ?_
  refine Br.mk (fun h => ?_) fun h12 => ?_
  · have h := beqI h; subst h
    refine s_of2 bin_12 fun H2 v hE2 hv hD => deed_put (hE2.row hr1 fun h => h) hv fun H3 hU3 => ?_
    refine hk H3 _ _ (extUpd (hE1.trans hE2 fun _ _ h => h) (by omega) hU3) hv (Deed.upd hU3 (op := 12) ⟨fun _ => ⟨rfl, hD⟩, fun e => (by cases e)⟩ (deed_row (hE2.row hr1 fun h => h)))
  refine Br.mk (fun h => ?_) fun h13 => ?_
  · have h := beqI h; subst h
    refine s_of2 bin_13 fun H2 v hE2 hv hD => deed_put (hE2.row hr1 fun h => h) hv fun H3 hU3 => ?_
    refine hk H3 _ _ (extUpd (hE1.trans hE2 fun _ _ h => h) (by omega) hU3) hv (Deed.upd hU3 (op := 13) ⟨fun _ => ⟨rfl, hD⟩, fun e => (by cases e)⟩ (deed_row (hE2.row hr1 fun h => h)))
  refine Br.mk (fun h => ?_) fun h14 => ?_
  · have h := beqI h; subst h
    refine s_of2 bin_14 fun H2 v hE2 hv hD => deed_put (hE2.row hr1 fun h => h) hv fun H3 hU3 => ?_
    refine hk H3 _ _ (extUpd (hE1.trans hE2 fun _ _ h => h) (by omega) hU3) hv (Deed.upd hU3 (op := 14) ⟨fun _ => ⟨rfl, hD⟩, fun e => (by cases e)⟩ (deed_row (hE2.row hr1 fun h => h)))
  refine Br.mk (fun h => ?_) fun h15 => ?_
  · have h := beqI h; subst h
    refine s_of2 bin_15 fun H2 v hE2 hv hD => deed_put (hE2.row hr1 fun h => h) hv fun H3 hU3 => ?_
    refine hk H3 _ _ (extUpd (hE1.trans hE2 fun _ _ h => h) (by omega) hU3) hv (Deed.upd hU3 (op := 15) ⟨fun _ => ⟨rfl, hD⟩, fun e => (by cases e)⟩ (deed_row (hE2.row hr1 fun h => h)))
  refine Br.mk (fun h => ?_) fun h16 => ?_
  · have h := beqI h; subst h
    refine s_of2 bin_16 fun H2 v hE2 hv hD => deed_put (hE2.row hr1 fun h => h) hv fun H3 hU3 => ?_
    refine hk H3 _ _ (extUpd (hE1.trans hE2 fun _ _ h => h) (by omega) hU3) hv (Deed.upd hU3 (op := 16) ⟨fun _ => ⟨rfl, hD⟩, fun e => (by cases e)⟩ (deed_row (hE2.row hr1 fun h => h)))
  refine Br.mk (fun h => ?_) fun h17 => ?_
  · have h := beqI h; subst h
    refine s_of2 bin_17 fun H2 v hE2 hv hD => deed_put (hE2.row hr1 fun h => h) hv fun H3 hU3 => ?_
    refine hk H3 _ _ (extUpd (hE1.trans hE2 fun _ _ h => h) (by omega) hU3) hv (Deed.upd hU3 (op := 17) ⟨fun _ => ⟨rfl, hD⟩, fun e => (by cases e)⟩ (deed_row (hE2.row hr1 fun h => h)))
  have hb : isBin op = false := by
    cases e : isBin op with
    | false => rfl
    | true =>
      have := hno e
      have h12 := bneI h12; have h13 := bneI h13; have h14 := bneI h14; have h15 := bneI h15; have h16 := bneI h16; have h17 := bneI h17
      omega
  refine deed_put hr1 rfl fun H3 hU3 => ?_
  have := hk H3 0 .nilFunc (extUpd hE1 (by omega) hU3) rfl ⟨fun e => (by rw [hb] at e; cases e), fun e => (by rw [hno1] at e; cases e)⟩
  rwa [hb, hno1] at this
theorem s_deedOf {op : Int} {k : (Int × Value) × Bool → Heap → Prop} (hk : ∀ H' n v, Ext H H' → v.oneCell' = true → Deed H' op n v → k ((n, v), isBin op || isUn op) H') : CallT Pg f_machine_deedOf [.int .i64 op] (.tup [(.agg [(.int .i64), .raw]), (.c .bool)]) H k := by
  refine c_machine_deedOf _ ?_
  unfold v_machine_deedOf
  refine Nw_row (vs := [.int .i64 0, .nilFunc]) fun b1 H1 hb1 hE1 hz1 hr1 => ?_
  refine Br.mk (fun h => ?_) fun h6 => ?_
  · have h := beqI h; subst h
    refine s_of2 bin_6 fun H2 v hE2 hv hD => deed_put (hE2.row hr1 fun h => h) hv fun H3 hU3 => ?_
    refine hk H3 _ _ (extUpd (hE1.trans hE2 fun _ _ h => h) (by omega) hU3) hv (Deed.upd hU3 (op := 6) ⟨fun _ => ⟨rfl, hD⟩, fun e => (by cases e)⟩ (deed_row (hE2.row hr1 fun h => h)))
  refine Br.mk (fun h => ?_) fun h7 => ?_
  · have h := beqI h; subst h
    refine s_of2 bin_7 fun H2 v hE2 hv hD => deed_put (hE2.row hr1 fun h => h) hv fun H3 hU3 => ?_
    refine hk H3 _ _ (extUpd (hE1.trans hE2 fun _ _ h => h) (by omega) hU3) hv (Deed.upd hU3 (op := 7) ⟨fun _ => ⟨rfl, hD⟩, fun e => (by cases e)⟩ (deed_row (hE2.row hr1 fun h => h)))
  refine Br.mk (fun h => ?_) fun h8 => ?_
  · have h := beqI h; subst h
    refine s_of2 bin_8 fun H2 v hE2 hv hD => deed_put (hE2.row hr1 fun h => h) hv fun H3 hU3 => ?_
    refine hk H3 _ _ (extUpd (hE1.trans hE2 fun _ _ h => h) (by omega) hU3) hv (Deed.upd hU3 (op := 8) ⟨fun _ => ⟨rfl, hD⟩, fun e => (by cases e)⟩ (deed_row (hE2.row hr1 fun h => h)))
  refine Br.mk (fun h => ?_) fun h9 => ?_
  · have h := beqI h; subst h
    refine s_of2 bin_9 fun H2 v hE2 hv hD => deed_put (hE2.row hr1 fun h => h) hv fun H3 hU3 => ?_
    refine hk H3 _ _ (extUpd (hE1.trans hE2 fun _ _ h => h) (by omega) hU3) hv (Deed.upd hU3 (op := 9) ⟨fun _ => ⟨rfl, hD⟩, fun e => (by cases e)⟩ (deed_row (hE2.row hr1 fun h => h)))
  refine Br.mk (fun h => ?_) fun h10 => ?_
  · have h := beqI h; subst h
    refine s_of2 bin_10 fun H2 v hE2 hv hD => deed_put (hE2.row hr1 fun h => h) hv fun H3 hU3 => ?_
    refine hk H3 _ _ (extUpd (hE1.trans hE2 fun _ _ h => h) (by omega) hU3) hv (Deed.upd hU3 (op := 10) ⟨fun _ => ⟨rfl, hD⟩, fun e => (by cases e)⟩ (deed_row (hE2.row hr1 fun h => h)))
  refine Br.mk (fun h => ?_) fun h36 => ?_
  · have h := beqI h; subst h
    refine s_of2 bin_36 fun H2 v hE2 hv hD => deed_put (hE2.row hr1 fun h => h) hv fun H3 hU3 => ?_
    refine hk H3 _ _ (extUpd (hE1.trans hE2 fun _ _ h => h) (by omega) hU3) hv (Deed.upd hU3 (op := 36) ⟨fun _ => ⟨rfl, hD⟩, fun e => (by cases e)⟩ (deed_row (hE2.row hr1 fun h => h)))
  refine Br.mk (fun h => ?_) fun h37 => ?_
  · have h := beqI h; subst h
    refine s_of2 bin_37 fun H2 v hE2 hv hD => deed_put (hE2.row hr1 fun h => h) hv fun H3 hU3 => ?_
    refine hk H3 _ _ (extUpd (hE1.trans hE2 fun _ _ h => h) (by omega) hU3) hv (Deed.upd hU3 (op := 37) ⟨fun _ => ⟨rfl, hD⟩, fun e => (by cases e)⟩ (deed_row (hE2.row hr1 fun h => h)))
  refine Br.mk (fun h => ?_) fun h11 => ?_
  · have h := beqI h; subst h
    refine s_of1 un_11 fun H2 v hE2 hv hD => deed_put (hE2.row hr1 fun h => h) hv fun H3 hU3 => ?_
    refine hk H3 _ _ (extUpd (hE1.trans hE2 fun _ _ h => h) (by omega) hU3) hv (Deed.upd hU3 (op := 11) ⟨fun e => (by cases e), fun _ => ⟨rfl, hD⟩⟩ (deed_row (hE2.row hr1 fun h => h)))
  refine Br.mk (fun h => ?_) fun h18 => ?_
  · have h := beqI h; subst h
    refine s_of1 un_18 fun H2 v hE2 hv hD => deed_put (hE2.row hr1 fun h => h) hv fun H3 hU3 => ?_
    refine hk H3 _ _ (extUpd (hE1.trans hE2 fun _ _ h => h) (by omega) hU3) hv (Deed.upd hU3 (op := 18) ⟨fun e => (by cases e), fun _ => ⟨rfl, hD⟩⟩ (deed_row (hE2.row hr1 fun h => h)))
  refine Br.mk (fun h => ?_) fun h38 => ?_
  · have h := beqI h; subst h
    refine s_of1 un_38 fun H2 v hE2 hv hD => deed_put (hE2.row hr1 fun h => h) hv fun H3 hU3 => ?_
    refine hk H3 _ _ (extUpd (hE1.trans hE2 fun _ _ h => h) (by omega) hU3) hv (Deed.upd hU3 (op := 38) ⟨fun e => (by cases e), fun _ => ⟨rfl, hD⟩⟩ (deed_row (hE2.row hr1 fun h => h)))
  have h6 := bneI h6; have h7 := bneI h7; have h8 := bneI h8; have h9 := bneI h9; have h10 := bneI h10; have h36 := bneI h36; have h37 := bneI h37; have h11 := bneI h11; have h18 := bneI h18; have h38 := bneI h38
  refine s_compared (fun e => ?_) ?_ fun H2 n v hE2 hv hD => deed_put (hE2.row hr1 fun h => h) hv fun H3 hU3 => hk H3 n v (extUpd (hE1.trans hE2 fun _ _ h => h) (by omega) hU3) hv (Deed.upd hU3 hD (deed_row (hE2.row hr1 fun h => h)))
  · simp only [isBin, List.contains_cons, List.contains_nil, Bool.or_false, Bool.or_eq_true, beq_iff_eq] at e
    omega
  · simp only [isUn, List.contains_cons, List.contains_nil, Bool.or_false, Bool.or_eq_false_iff, beq_eq_false_iff_ne]
    omega
end Go.Proofs.YtfpmgpblhhcpgaaGreat
/-
  Machine: takes and pushes in the run; activations begin.
-/
namespace Go.Proofs.YtfpmgpblhhcpgaaGreat
set_option linter.unusedVariables false
set_option linter.unusedSimpArgs false
open Go.Proofs.YtfpmgpblhhcpgaaGreat.Hc Go.Proofs.YtfpmgpblhhcpgaaGreat.Hc.Vf Go.Proofs.YtfpmgpblhhcpgaaGreat.Hc.Mc Go.Proofs.YtfpmgpblhhcpgaaGreat.Hc.Dice
set_option maxRecDepth 100000
variable {H : Heap}

theorem m_take {H0 : Heap} {x : MG} (h : MacR H0 H x) {t : Int} {n : Nat} (ht : t = n) (hn : n ≤ x.top.stk.length) (hb : x.top.stk.length ≤ 2 ^ 40) {k : Sl → Heap → Prop}
    (hk : ∀ r H' c, Upd (· = x.top.p) H H' → MacR H0 H' { x with top := x.top.took n, c := c } → Vec H' T_int64 r (ints (x.top.stk.drop (x.top.stk.length - n))) → IsS c H0.size 999 r → k r H') :
    CallT Pg f_machine_activation_take [.pointer (some (adr x.top.p)), .int .i64 t] (.one (.c .sl)) H k := by
  refine s_take h.topR ht hn hb fun r H1 hU hr hv hf => hk r H1 _ hU (h.top (d := fun _ => 999) (tch_row hU (h.topI _ (.inl rfl)) rfl) hr rfl rfl fun b hb => .inl hb) hv fun b hb => ?_
  exact is_new h.base.size (hf b hb) rfl
theorem m_push {H0 : Heap} {x : MG} (h : MacR H0 H x) {v : Int} (hb : x.top.stk.length ≤ 2 ^ 40) {k : Unit → Heap → Prop}
    (hk : ∀ ss H' c, Upd (fun b => b = x.top.p ∨ x.top.ss.a = some (adr b)) H H' → MacR H0 H' { x with top := { x.top with ss := ss, stk := x.top.stk ++ [v] }, c := c } → k () H') :
    CallT Pg f_machine_activation_push [.pointer (some (adr x.top.p)), .int .i64 v] (.tup []) H k := by
  refine s_push h.topR hb fun s' H1 hU hr hs => hk s' H1 _ hU (h.top (d := fun _ => x.low.length) (Tch.of hU fun b _ e => ?_) hr rfl rfl fun b hb => ?_)
  · have := h.topI b (e.imp id fun e => .inr e)
    exact ⟨this.1, this.2⟩
  · rcases hb with rfl | hb | hb
    · exact .inl (.inl rfl)
    · exact .inl (.inr (.inl hb))
    · rcases hs with e | ⟨b', e, hlt⟩
      · dsimp only at hb
        rw [e] at hb; exact .inl (.inr (.inr hb))
      · dsimp only at hb
        rw [e] at hb; cases hb
        exact .inr ⟨hlt, rfl⟩
/-- One cell of the top's record. -/
theorem m_cell {H0 : Heap} {x : MG} (h : MacR H0 H x) {i : Nat} (hi : i < 7) {v : Value} {k : Heap → Prop} {t : AP} (ht : actV t = (actV x.top).set i v) (hp : t.p = x.top.p) (hr : t.r = x.top.r) (hl : t.ls = x.top.ls) (hs : t.ss = x.top.ss) (hloc : t.loc = x.top.loc) (hstk : t.stk = x.top.stk) (hnx : NxR t.r.code.length t.nx t.v)
    (hk : ∀ H' c, Upd (· = x.top.p) H H' → H'.size = H.size → MacR H0 H' { x with top := t, c := c } → k H') : St ⟨x.top.p, i, none⟩ v H k := by
  refine St_row h.topR.row hi fun H1 hU hz hr1 => hk H1 _ hU hz (h.top (d := fun _ => 999) (tch_row hU (h.topI _ (.inl rfl)) rfl) ⟨?_, ?_, ?_, ?_, hnx⟩ hp hr fun b hb => .inl ?_)
  · rw [hp, ht]; exact hr1
  · rw [hl, hloc]; exact h.topR.loc.upd hU fun b hb e => h.topR.neL hb e
  · rw [hs, hstk]; exact h.topR.stk.upd hU fun b hb e => h.topR.neS hb e
  · rw [hl, hs]; exact h.topR.ap
  · unfold ActB at hb ⊢
    rw [hp, hl, hs] at hb; exact hb
theorem locals_eq (L : Int) (n : Nat) : (if (if 32 < (n : Int) then (n : Int) else 32) < (if (if L < 0 then 0 else L) < (n : Int) then (n : Int) else (if L < 0 then 0 else L)) then (if 32 < (n : Int) then (n : Int) else 32) else (if (if L < 0 then 0 else L) < (n : Int) then (n : Int) else (if L < 0 then 0 else L))) = ((n + ((min (max L 0) 32).toNat - n) : Nat) : Int) := by
  repeat' split
  all_goals omega
theorem s_activate {r : Rou} {ps : Sl} {l : List Int} {lo : Int} (hlo : lo = (l.length : Nat)) (hv : rdL H ps.a (ints l)) (hpl : ps.len = l.length) (hl : l.length ≤ 2 ^ 40) {k : Option Addr → Heap → Prop}
    (hk : ∀ H' (t : AP), Ext H H' → ActR H' t → (∀ b, ActB t b → H.size ≤ b) → t.r = r → t.loc = locals (fnOf r) l → t.stk = [] → t.nx = 0 → k (some (adr t.p)) H') :
    CallT Pg f_machine_activate [.agg #[.string r.name, .int .i64 r.params, .int .i64 r.locals, .slice r.sl.a r.sl.len r.sl.cap], .slice ps.a ps.len ps.cap, .int .i64 lo] (.one (.c .ptr)) H k := by
  subst hlo
  refine c_machine_activate (r.name, r.params, r.locals, r.sl) _ _ ?_
  unfold v_machine_activate
  refine Nw_row (vs := rouV r) fun b1 H1 hb1 hE1 hz1 hr1 => ?_
  refine ⟨(r.name, r.params, r.locals, r.sl), hr1.rd_all, ?_⟩
  simp only [adr_add]
  refine Ld_int (n := r.locals) ((hr1.cell 2).trans rfl) ?_
  rw [locals_eq]
  refine Mks_row (by omega) (by omega) (by omega) fun b2 H2 hb2 hE2 hz2 hr2 => ?_
  have st : ∀ {H'}, Ext H1 H' → ∀ y ∈ [((⟨b1, 2, none⟩ : Addr), Value.int .i64 r.locals), (⟨b1, 0, none⟩, .string r.name), (⟨b1, 1, none⟩, .int .i64 r.params), (⟨b1, 2, none⟩, .int .i64 r.locals), (⟨b1, 3, none⟩, .slice r.sl.a r.sl.len r.sl.cap)], hcell H' y.1 = some y.2 := fun hE y hy => by
    have hr := hE.row hr1 fun h => h
    simp only [List.mem_cons, List.not_mem_nil, or_false] at hy
    rcases hy with rfl | rfl | rfl | rfl | rfl
    · exact (hr.cell 2).trans rfl
    · exact (hr.cell 0).trans rfl
    · exact (hr.cell 1).trans rfl
    · exact (hr.cell 2).trans rfl
    · exact (hr.cell 3).trans rfl
  refine Stab_all (st hE2) ?_
  rw [Int.toNat_natCast] at hr2 ⊢
  generalize hn : l.length + ((min (max r.locals 0) 32).toNat - l.length) = n at *
  refine Nw_row (vs := [.string r.name, .int .i64 r.params, .int .i64 r.locals, slV r.sl, .slice (some (adr b2)) n n, .slice none 0 0, .int .i64 0]) fun b3 H3 hb3 hE3 hz3 hr3 => ?_
  have hE13 := hE2.trans hE3 fun _ _ h => h
  refine Stab_all (st hE13) ?_
  simp only [NilCk_some, adr_add]
  refine Ld_sl (s := ⟨some (adr b2), n, n⟩) ((hr3.cell 4).trans rfl) ?_
  have hE03 := hE1.trans hE13 fun _ _ h => h
  have hv3 := rdL_ext hE03 hv
  have hr23 := hE3.row hr2 fun h => h
  refine ⟨ints l, hv3, fun _ => ?_, ?_⟩
  · simp only [List.length_map, Nat.mul_one]
    rw [hpl]
    exact (Nat.min_eq_left (by omega)).symm
  dsimp only
  refine StL_row hr23 (by simp; omega) (ints_one _) fun H4 hU4 hz4 hr4 => ?_
  have e0 : (List.replicate n (Value.int .i64 0)).take (0 + 0) ++ ints l ++ (List.replicate n (Value.int .i64 0)).drop (0 + 0 + (ints l).length) = ints (locals (fnOf r) l) := by
    unfold locals
    simp only [Nat.add_zero, List.take_zero, List.nil_append, List.length_map, Nat.zero_add, List.drop_replicate, ints, List.map_append, List.map_replicate]
    congr 2
    show n - l.length = (min (max r.locals 0) 32).toNat - l.length
    omega
  rw [e0] at hr4
  have hll : (locals (fnOf r) l).length = n := by
    unfold locals
    rw [List.length_append, List.length_replicate]
    exact hn
  have hU' : Upd (· = b2) H3 H4 := hU4.mono fun _ _ e => e.1
  refine hk H4 ⟨b3, r, ⟨some (adr b2), n, n⟩, ⟨none, 0, 0⟩, locals (fnOf r) l, [], 0, 0⟩ (extUpd (b := b2) hE03 (by have := hE1.size; omega) hU') ⟨?_, ?_, Vec.nil _ _, apart_nil _ rfl, .inl rfl⟩ (fun b hb => ?_) rfl rfl rfl rfl
  · exact hU'.row hr3 (show ¬ b3 = b2 by omega)
  · exact ⟨by simp [hll], .inr ⟨b2, [], rfl, by simpa using hr4, by simp [hll]⟩, Nat.le_refl _⟩
  · have := hE1.size; have := hE2.size
    rcases hb with hb | hb | hb
    · dsimp only at hb; omega
    · cases hb; omega
    · cases hb
end Go.Proofs.YtfpmgpblhhcpgaaGreat
/-
  Machine: instructions that go elsewhere.
-/
namespace Go.Proofs.YtfpmgpblhhcpgaaGreat
set_option linter.unusedVariables false
set_option linter.unusedSimpArgs false
open Go.Proofs.YtfpmgpblhhcpgaaGreat.Hc Go.Proofs.YtfpmgpblhhcpgaaGreat.Hc.Vf Go.Proofs.YtfpmgpblhhcpgaaGreat.Hc.Mc Go.Proofs.YtfpmgpblhhcpgaaGreat.Hc.Dice
set_option maxRecDepth 100000
variable {H : Heap}

/-- What of the record stays. -/
abbrev stat (g : RunG) : Sl × Sl × Sy × Int × Int × Int × Int × Sl × Int × Int × Sl × Nat × Nat := (g.pS, g.pF, g.s, g.n, g.fr, g.sd, g.en, g.inS, g.ix, g.gn, g.rp, g.mp, g.dp)
/-- What an instruction has done. -/
structure Post (H0 : Heap) (x : MG) (res : Int × Ms) (H' : Heap) (x' : MG) : Prop where
  mac : MacR H0 H' x'
  b : x'.b = x.b
  st : stat x'.g = stat x.g
  er : x'.g.er = res.1
  ms : res.1 = 0 → x'.ms = res.2
  steps : x'.g.st = res.2.steps
abbrev cutS (m : Ms) (t : Nat) : Ms := { m with top := { m.top with stk := m.top.stk.take (m.top.stk.length - t) } }
theorem goal_nx {r : Rou} {P : MP} (hP : P.lim = 2 ^ 40) (A : Int) : NxR r.code.length (goal P (fnOf r) A) (if 0 ≤ A ∧ A ≤ 2 ^ 40 then A else -1) := by
  unfold goal NxR
  rw [hP]
  dsimp only
  repeat' split
  all_goals omega
theorem vec_pre {H : Heap} {T : TypeId} {s : Sl} {vs : List Value} (h : Vec H T s vs) {n : Nat} (hn : n ≤ vs.length) : Vec H T ⟨s.a, n, s.cap⟩ (vs.take n) := by
  have hl := h.len
  refine ⟨by simp; omega, ?_, by have := h.lc; dsimp only; omega⟩
  rcases h.own with ⟨h1, h2, h3⟩ | ⟨b, sp, h1, h2, h3⟩
  · exact .inl ⟨h1, h2, by rw [h3]; simp⟩
  · refine .inr ⟨b, vs.drop n ++ sp, h1, by rw [← List.append_assoc, List.take_append_drop]; exact h2, ?_⟩
    simp only [List.length_append, List.length_drop, List.length_take]
    omega
theorem rou_get {fs : List Rou} {j : Nat} (hj : j < fs.length) : (fs.map fnOf)[j]! = fnOf fs[j]! := by
  rw [getElem!_pos (fs.map fnOf) j (by simpa using hj), getElem!_pos fs j hj]; simp
theorem s_jumps {H0 : Heap} {x : MG} {fs : List Rou} {ins : List (Int × Int × Int)} (h : MacR H0 H x) (hc : CtxR H0 x.g.pF x.g.s x.g.inS fs ins) (her : x.g.er = 0) (hst : 0 ≤ x.g.st ∧ x.g.st ≤ 2000) {op A : Int}
    (ht : takes (parms fs) (op, A) ≤ x.top.stk.length) (hsl : x.top.stk.length ≤ 64) (hcall : op = 21 → 0 ≤ A ∧ A < (fs.length : Int) ∧ x.low.length + 1 ≤ 16) (hret : op = 22 → x.low ≠ [] ∧ ∀ a ∈ x.low, a.stk.length ≤ 64) (E : En) {k : Bool → Heap → Prop}
    (hyes : ∀ H' x', (19 ≤ op ∧ op ≤ 24) → Post H0 x (act (mpOf x.g fs) E x.ms (cutS x.ms (takes (parms fs) (op, A)).toNat) (args x.ms (takes (parms fs) (op, A)).toNat) op.toNat A) H' x' → k true H')
    (hno : ∀ H', ¬ (19 ≤ op ∧ op ≤ 24) → Ext H H' → k false H') :
    CallT Pg f_machine_run_jumps [.pointer (some (adr x.b)), .agg #[.int .i64 op, .int .i64 A]] (.one (.c .bool)) H k := by
  refine c_machine_run_jumps _ (op, A) ?_
  unfold v_machine_run_jumps
  refine Nw_row (vs := [.int .i64 op, .int .i64 A]) fun b1 H1 hb1 hE1 hz1 hr1 => ?_
  have h1 := h.ext hE1
  have c0 : hcell H1 (adr b1) = some (.int .i64 op) := (hr1.cell 0).trans rfl
  have c1 : hcell H1 ⟨b1, 1, none⟩ = some (.int .i64 A) := (hr1.cell 1).trans rfl
  simp only [NilCk_some, adr_add, mk_add, Jn]
  refine s_last h1 (Ld_int c0 ?_)
  simp only [NilCk_some, adr_add, mk_add]
  refine Br.mk (fun h19 => ?_) fun h19 => ?_
  · have h19 := beqI h19; subst h19
    refine Ld_int c1 (s_goal (m_cell h1 (t := { x.top with nx := goal (mpOf x.g fs) (fnOf x.top.r) A, v := if 0 ≤ A ∧ A ≤ 2 ^ 40 then A else -1 }) (by decide) rfl rfl rfl rfl rfl rfl rfl (goal_nx rfl A) fun H2 c hU2 _ h2 => ?_))
    refine hyes H2 _ (by omega) ⟨h2, rfl, rfl, her, fun _ => ?_, rfl⟩
    have e : (takes (parms fs) (19, A)).toNat = 0 := by rw [takes_of (by decide) (by decide) (c := 0) (by decide)]; rfl
    rw [e]
    simp [act, cutS, MG.ms, AP.act]
  have h19 := bneI h19
  refine Br.mk (fun h20 => ?_) fun h20 => ?_
  · have h20 := beqI h20; subst h20
    have e : takes (parms fs) (20, A) = 1 := takes_of (by decide) (by decide) (by decide)
    rw [e] at ht hyes
    refine m_take h1 (n := 1) rfl (by omega) (by omega) fun r H2 c2 hU2 h2 hv2 _ => ?_
    have hx : (x.top.stk.drop (x.top.stk.length - 1)).length = 1 := by simp; omega
    have ha : args x.ms 1 = x.top.stk.drop (x.top.stk.length - 1) := rfl
    generalize hl : x.top.stk.drop (x.top.stk.length - 1) = l at *
    match l, hx with
    | [w], _ =>
      refine IxA_vec hv2 (by decide) (by simp) fun a2 ha2 _ => Ld_int (n := w) (ha2.trans rfl) ?_
      have c12 : hcell H2 ⟨b1, 1, none⟩ = some (.int .i64 A) := hU2.cell c1 (by have := h.topR.row.lt; dsimp only; omega)
      refine Br.mk (fun hw => ?_) fun hw => ?_
      · refine Ld_int c12 (s_goal (m_cell h2 (t := { x.top.took 1 with nx := goal (mpOf x.g fs) (fnOf x.top.r) A, v := if 0 ≤ A ∧ A ≤ 2 ^ 40 then A else -1 }) (by decide) rfl rfl rfl rfl rfl rfl rfl (goal_nx rfl A) fun H3 c hU3 _ h3 => ?_))
        refine hyes H3 _ (by omega) ⟨h3, rfl, rfl, her, fun _ => ?_, ?_⟩
        · rw [show (1 : Int).toNat = 1 from rfl, ha]
          have hw := beqI hw
          subst hw
          rfl
        · rw [show (1 : Int).toNat = 1 from rfl, ha]
          have hw := beqI hw
          subst hw
          rfl
      · refine hyes H2 _ (by omega) ⟨h2, rfl, rfl, her, fun _ => ?_, ?_⟩
        · rw [show (1 : Int).toNat = 1 from rfl, ha]
          have hw := bneI hw
          show _ = (if w = 0 then _ else cutS x.ms 1)
          rw [if_neg hw]
        · rw [show (1 : Int).toNat = 1 from rfl, ha]
          have hw := bneI hw
          show _ = (if w = 0 then _ else cutS x.ms 1).steps
          rw [if_neg hw]
  have h20 := bneI h20
  have bne : b1 ≠ x.top.p := by have := h.topR.row.lt; omega
  refine Br.mk (fun h21 => ?_) fun h21 => ?_
  · have h21 := beqI h21; subst h21
    obtain ⟨hA0, hA1, hA2⟩ := hcall rfl
    have hj : A.toNat < fs.length := by omega
    have e : takes (parms fs) (21, A) = max (fs[A.toNat]!).params 0 := by
      unfold takes isOpB
      rw [if_pos (show decide ((1 : Int) ≤ 21 ∧ (21 : Int) ≤ 39) = true by decide), if_pos (show (tbl[(21 : Int).toNat]!).2.2 = 1 by decide), if_pos ⟨hA0, by simpa [parms] using hA1⟩, parms_get hj]
    have hrou : (mpOf x.g fs).fns[A.toNat]! = fnOf fs[A.toNat]! := rou_get hj
    generalize hr : fs[A.toNat]! = r at *
    have hcr : CodeR H0 r := hc.fnC r (by rw [← hr, getElem!_pos fs _ hj]; exact List.getElem_mem _)
    rw [e] at ht hyes
    refine Ld_sl (s := x.g.pF) ((h1.run.1.cell 1).trans rfl) (Ld_int c1 (IxA_rn' rouV_len (hc.fn.ext h1.base) (by decide) (j := A.toNat) (by omega) hj fun a5 ha5 => ?_))
    rw [hr] at ha5
    refine ⟨(r.name, r.params, r.locals, r.sl), ha5, ?_⟩
    refine Nw_row (vs := [.string ByteArray.empty, .int .i64 0, .int .i64 0, .slice none 0 0]) fun b2 H2 hb2 hE2 hz2 hr2 => ?_
    have h2 := h1.ext hE2
    have ha52 := hcells_ext hE2 ha5
    refine Stab_all (fun y hy => ?_) ?_
    · simp only [List.mem_cons, List.not_mem_nil, or_false] at hy
      rcases hy with rfl | rfl | rfl | rfl | rfl | rfl
      · have := ha52.1; simpa using this
      · have := ha52.2.1; simpa using this
      · have := ha52.2.2.1; simpa using this
      · have := ha52.2.2.2.1; simpa using this
      · exact hE2.cell c1 fun h => h
      · exact (h2.run.1.cell 1).trans rfl
    refine St_row hr2 (by simp) fun H3 hU3 _ hr3 => St_row hr3 (by simp) fun H4 hU4 _ hr4 => St_row hr4 (by simp) fun H5 hU5 _ hr5 => St_row hr5 (by simp) fun H6 hU6 _ hr6 => ?_
    have hr6 : Row H6 b2 T_api_Routine (rouV r) := hr6
    have hE6 : Ext H1 H6 := extUpd hE2 (by omega) (((hU3.trans hU4 fun _ _ e => e).trans hU5 fun _ _ e => e).trans hU6 fun _ _ e => e)
    have h6 := h1.ext hE6
    refine Ld_int (n := r.params) ((hr6.cell 1).trans rfl) ?_
    have emax : (if r.params < 0 then 0 else r.params) = max r.params 0 := by split <;> omega
    rw [emax]
    have htn : max r.params 0 = ((max r.params 0).toNat : Int) := by omega
    refine m_take h6 (n := (max r.params 0).toNat) htn (by omega) (by omega) fun pr H7 c7 hU7 h7 hv7 _ => ?_
    have hpl := hv7.len
    have hlow : x.top.p < H1.size := h1.topR.row.lt
    have hbx : x.b < H1.size := h1.run.1.lt
    have hr7 : Row H7 b2 T_api_Routine (rouV r) := hU7.row hr6 (by omega)
    generalize hl : x.top.stk.drop (x.top.stk.length - (max r.params 0).toNat) = l at *
    have hll : l.length ≤ 64 := by rw [← hl]; simp; omega
    have harg : args x.ms (max r.params 0).toNat = l := hl
    refine s_mstep h7.run.1 ⟨hst.1, by dsimp only; omega⟩ fun H8 hU8 hr8 => ?_
    have h8 := h7.num (st := x.g.st + 1) (er := x.g.er) (si := 0) (ov := x.g.ov) hU8 hr8
    have hact : act (mpOf x.g fs) E x.ms (cutS x.ms (max r.params 0).toNat) l (21 : Int).toNat A = if x.g.st + 1 ≤ 2000 then
      (0, { cutS x.ms (max r.params 0).toNat with low := x.ms.low ++ [(cutS x.ms (max r.params 0).toNat).top], top := ⟨fnOf r, locals (fnOf r) l, [], 0⟩, steps := x.g.st + 1, since := 0 })
      else (120, { cutS x.ms (max r.params 0).toNat with steps := x.g.st + 1 }) := by
      rw [← hrou]; rfl
    rw [harg, hact] at hyes
    dsimp only
    refine Br.mk (fun hb => ?_) fun hb => ?_
    · have hst2 : ¬ x.g.st + 1 ≤ 2000 := by simpa using hb
      rw [if_neg hst2] at hyes
      refine St_row h8.run.1 (by simp) fun H9 hU9 _ hr9 => ?_
      have h9 := h8.num (st := x.g.st + 1) (er := 120) (si := 0) (ov := x.g.ov) hU9 hr9
      exact hyes H9 _ (by omega) ⟨h9, rfl, rfl, rfl, fun e => (by cases e), rfl⟩
    have hst2 : x.g.st + 1 ≤ 2000 := by simpa using hb
    rw [if_pos hst2] at hyes
    have hr28 : Row H8 b2 T_api_Routine (rouV r) := hU8.row hr7 (by dsimp only; omega)
    refine Ld_sl (s := x.g.ls) ((h8.run.1.cell 19).trans rfl) ⟨(r.name, r.params, r.locals, r.sl), hr28.rd_all, ?_⟩
    rw [List.length_map] at hpl
    have hv8 : rdL H8 pr.a (ints l) := by
      refine (hv7.upd hU8 fun b hb e => ?_).rd
      exact hv7.ne hb h7.run.1 (by decide) e
    refine s_activate (l := l) (by rw [hpl]) hv8 hpl (by omega) fun H9 t hE9 ht9 hf9 htr htl hts htn => ?_
    have h9 := h8.ext hE9
    refine Stab_1 ((h9.run.1.cell 19).trans rfl) ?_
    refine Nw_row (vs := [.pointer (some (adr t.p))]) fun b3 H10 hb3 hE10 hz10 hr10 => ?_
    have h10 := h9.ext hE10
    have hE810 := hE9.trans hE10 fun _ _ h => h
    have st : ∀ {H'}, Row H' b2 T_api_Routine (rouV r) → ∀ y ∈ [((⟨b2, 0, none⟩ : Addr), Value.string r.name), (⟨b2, 1, none⟩, .int .i64 r.params), (⟨b2, 2, none⟩, .int .i64 r.locals), (⟨b2, 3, none⟩, .slice r.sl.a r.sl.len r.sl.cap)], hcell H' y.1 = some y.2 := fun hr y hy => by
      simp only [List.mem_cons, List.not_mem_nil, or_false] at hy
      rcases hy with rfl | rfl | rfl | rfl
      · exact (hr.cell 0).trans rfl
      · exact (hr.cell 1).trans rfl
      · exact (hr.cell 2).trans rfl
      · exact (hr.cell 3).trans rfl
    refine Stab_all (fun y hy => ?_) ?_
    · have hr := hE810.row hr28 fun h => h
      simp only [List.mem_cons, List.not_mem_nil, or_false] at hy
      rcases hy with rfl | rfl | rfl | rfl | rfl
      · exact (hr.cell 0).trans rfl
      · exact (hr.cell 1).trans rfl
      · exact (hr.cell 2).trans rfl
      · exact (hr.cell 3).trans rfl
      · exact (h10.run.1.cell 19).trans rfl
    have hlv := h10.lv.1
    have hlvl := hlv.len
    simp only [List.length_map, List.length_append, List.length_singleton] at hlvl
    refine App_vec2 (ws := [.pointer (some (adr t.p))]) hlv hr10.rd_all rfl (fun w hw => by rw [List.mem_singleton.1 hw]; rfl) (by decide) (by simp; omega) fun ls' H11 hv11 hU11 ha11 hz11 => ?_
    have hls : ls'.a = x.g.ls.a ∨ ∃ b, ls'.a = some (adr b) ∧ H8.size ≤ b := ha11.imp (fun e => e.1) fun e => ⟨_, e, by have := hE810.size; omega⟩
    have hU11' : Upd (fun b => x.g.ls.a = some (adr b) ∨ b = x.b) H8 H11 := (hE810.mono fun _ _ h => h.elim).trans (hU11.mono fun b _ e => .inl e.1) fun _ _ e => e
    have hb2l : x.g.ls.a ≠ some (adr b2) := fun e => by have := h1.lv.1.lt e; omega
    refine Stab_all (st (hU11.row (hE810.row hr28 fun h => h) fun e => hb2l e.1)) ?_
    have hrow11 := hU11.row h10.run.1 fun e => (hlv.ne e.1 h10.run.1 (by decide)) rfl
    refine St_row hrow11 (by simp) fun H12 hU12 _ hr12 => ?_
    have hp10 := ht9.upd hE10 fun _ _ h => h
    have ht11 : ActR H11 t := hp10.upd hU11 fun b hb e => by
      have h1 := hf9 b hb
      have h2 := h8.lv.1.lt e.1
      omega
    have ht12 : ActR H12 t := ht11.upd hU12 fun b hb e => by
      have h1 := hf9 b hb
      have h2 := h8.run.1.lt
      dsimp only at e h2
      omega
    have hfin := h8.call (ls := ls') (t := t) (by simpa using hA2) (hU11'.trans hU12 fun _ _ e => .inr e) hr12 (by
      have := hv11.upd hU12 fun b hb e => hv11.ne hb hrow11 (by decide) e
      simpa [ptrs] using this) hls ht12 hf9 (by rw [htr]; exact hcr)
    refine hyes H12 _ (by omega) ⟨hfin, rfl, rfl, her, fun _ => ?_, rfl⟩
    simp only [MG.ms, AP.act, htr, htl, hts, htn, List.map_append, List.map_cons, List.map_nil]
  have h21 := bneI h21
  refine Br.mk (fun h22 => ?_) fun h22 => ?_
  · have h22 := beqI h22; subst h22
    have e : takes (parms fs) (22, A) = 1 := takes_of (by decide) (by decide) (by decide)
    rw [e] at ht hyes
    obtain ⟨hne, hlen⟩ := hret rfl
    refine m_take h1 (n := 1) rfl (by omega) (by omega) fun r H2 c2 hU2 h2 hv2 _ => ?_
    have hx : (x.top.stk.drop (x.top.stk.length - 1)).length = 1 := by simp; omega
    have ha : args x.ms 1 = x.top.stk.drop (x.top.stk.length - 1) := rfl
    generalize hl : x.top.stk.drop (x.top.stk.length - 1) = l at *
    match l, hx with
    | [w], _ =>
      obtain ⟨low, t, hlow⟩ : ∃ low t, x.low = low ++ [t] := ⟨x.low.dropLast, x.low.getLast hne, (List.dropLast_concat_getLast hne).symm⟩
      refine IxA_vec hv2 (by decide) (by simp) fun a2 ha2 _ => Ld_int (n := w) (ha2.trans rfl) ?_
      have hlv := h2.lv.1
      have hlvl := hlv.len
      dsimp only at hlv hlvl
      rw [hlow] at hlv hlvl
      simp only [List.length_map, List.length_append, List.length_singleton] at hlvl
      have hl16 := h.lowl
      rw [hlow] at hl16
      simp only [List.length_append, List.length_singleton] at hl16
      refine Ld_sl (s := x.g.ls) ((h2.run.1.cell 19).trans rfl) (Ld_sl (s := x.g.ls) ((h2.run.1.cell 19).trans rfl) (Lt.mk (u := ((low.length + 1 : Nat) : Int)) (by rw [wrap_i64_id (by omega) (by omega)]; omega) (SlA0 (by omega) (by have := hlv.lc; omega) (by omega) ?_)))
      simp only [Int.toNat_natCast]
      refine St_row h2.run.1 (by simp) fun H3 hU3 _ hr3 => ?_
      have hv3 := (vec_pre hlv (n := low.length + 1) (by simp)).upd hU3 fun b hb e => hlv.ne hb h2.run.1 (by decide) e
      have epre : (ptrs (low ++ [t] ++ [x.top.took 1])).take (low.length + 1) = ptrs (low ++ [t]) := by
        rw [ptrs, List.map_append, List.take_left' (by simp)]
      have hv3' : Vec H3 T_P_machine_activation ⟨x.g.ls.a, low.length + 1, x.g.ls.cap⟩ (ptrs (low ++ [t])) := by rw [← epre]; exact hv3
      have h3 := h2.ret (low := low) (t := t) hlow (ls := ⟨x.g.ls.a, low.length + 1, x.g.ls.cap⟩) hU3 hr3 hv3' rfl
      have htl := hlen t (by rw [hlow]; simp)
      refine s_last h3 (m_push h3 (by dsimp only; omega) fun ss H4 c4 hU4 h4 => ?_)
      have hml : x.ms.low = low.map AP.act ++ [t.act] := by
        show x.low.map AP.act = _
        rw [hlow]; simp
      refine hyes H4 _ (by omega) ⟨h4, rfl, rfl, her, fun _ => ?_, rfl⟩
      rw [show (1 : Int).toNat = 1 from rfl, ha]
      have eg : x.ms.low.getLast! = t.act := by rw [hml, List.getLast!_eq_getLast?_getD, List.getLast?_concat]; rfl
      show _ = { cutS x.ms 1 with low := x.ms.low.dropLast, top := { x.ms.low.getLast! with stk := x.ms.low.getLast!.stk ++ [w] } }
      rw [eg, hml, List.dropLast_concat]
  have h22 := bneI h22
  refine Br.mk (fun h23 => ?_) fun h23 => ?_
  · have h23 := beqI h23; subst h23
    have e : (takes (parms fs) (23, A)).toNat = 0 := by rw [takes_of (by decide) (by decide) (c := 0) (by decide)]; rfl
    rw [e] at hyes
    refine St_row h1.run.1 (by simp) fun H2 hU2 _ hr2 => ?_
    have h2 := h1.num (st := x.g.st) (er := x.g.er) (si := x.g.si) (ov := true) hU2 hr2
    refine hyes H2 _ (by omega) ⟨h2, rfl, rfl, her, fun _ => ?_, rfl⟩
    simp [act, cutS, MG.ms, AP.act]
  have h23 := bneI h23
  refine Br.mk (fun h24 => ?_) fun h24 => ?_
  · have h24 := beqI h24; subst h24
    have e : (takes (parms fs) (24, A)).toNat = 0 := by rw [takes_of (by decide) (by decide) (c := 0) (by decide)]; rfl
    rw [e] at hyes
    have hcut : cutS x.ms 0 = x.ms := by simp [cutS, MG.ms, AP.act]
    have hact : act (mpOf x.g fs) E x.ms (cutS x.ms 0) (args x.ms 0) (24 : Int).toNat A = if x.g.st + 1 ≤ 2000 then (0, { x.ms with steps := x.g.st + 1, since := 0 }) else (120, { x.ms with steps := x.g.st + 1 }) := by rw [hcut]; rfl
    rw [hact] at hyes
    refine s_mstep h1.run.1 ⟨hst.1, by omega⟩ fun H8 hU8 hr8 => ?_
    have h8 := h1.num (st := x.g.st + 1) (er := x.g.er) (si := 0) (ov := x.g.ov) hU8 hr8
    refine Br.mk (fun hb => ?_) fun hb => ?_
    · have hst2 : ¬ x.g.st + 1 ≤ 2000 := by simpa using hb
      rw [if_neg hst2] at hyes
      refine St_row h8.run.1 (by simp) fun H9 hU9 _ hr9 => ?_
      have h9 := h8.num (st := x.g.st + 1) (er := 120) (si := 0) (ov := x.g.ov) hU9 hr9
      exact hyes H9 _ (by omega) ⟨h9, rfl, rfl, rfl, fun e => (by cases e), rfl⟩
    · have hst2 : x.g.st + 1 ≤ 2000 := by simpa using hb
      rw [if_pos hst2] at hyes
      exact hyes H8 _ (by omega) ⟨h8, rfl, rfl, her, fun _ => rfl, rfl⟩
  have h24 := bneI h24
  exact hno H1 (by omega) hE1
end Go.Proofs.YtfpmgpblhhcpgaaGreat
/-
  Machine: instructions that ask.
-/
namespace Go.Proofs.YtfpmgpblhhcpgaaGreat
set_option linter.unusedVariables false
set_option linter.unusedSimpArgs false
open Go.Proofs.YtfpmgpblhhcpgaaGreat.Hc Go.Proofs.YtfpmgpblhhcpgaaGreat.Hc.Vf Go.Proofs.YtfpmgpblhhcpgaaGreat.Hc.Mc Go.Proofs.YtfpmgpblhhcpgaaGreat.Hc.Dice
set_option maxRecDepth 100000
variable {H : Heap}

/-- What is said of 'input'. -/
def InputOk : Prop := ∀ (H0 H : Heap) (x : MG) (fs : List Rou) (ins : List (Int × Int × Int)) (p q : Int) (k : Int → Heap → Prop), MacR H0 H x → CtxR H0 x.g.pF x.g.s x.g.inS fs ins →
  (∀ H', Ext H H' → k (inp ins p q) H') → CallT Pg f_machine_run_input [.pointer (some (adr x.b)), .int .i64 p, .int .i64 q] IntR H k
theorem cut0 (x : MG) : cutS x.ms 0 = x.ms := by simp [cutS, MG.ms, AP.act]
theorem post_push {H0 H' : Heap} {x x1 : MG} {ss : Sl} {c : Col} {n : Nat} {v : Int} {hd : Int} (h : MacR H0 H' { x with top := { (x.top.took n) with ss := ss, stk := (x.top.took n).stk ++ [v] }, c := c }) (her : x.g.er = 0) :
    Post H0 x (0, (cutS x.ms n).push v) H' { x with top := { (x.top.took n) with ss := ss, stk := (x.top.took n).stk ++ [v] }, c := c } := ⟨h, rfl, rfl, her, fun _ => rfl, rfl⟩
theorem post_push0 {H0 H' : Heap} {x : MG} {ss : Sl} {c : Col} {v : Int} (h : MacR H0 H' { x with top := { x.top with ss := ss, stk := x.top.stk ++ [v] }, c := c }) (her : x.g.er = 0) :
    Post H0 x (0, (cutS x.ms 0).push v) H' { x with top := { x.top with ss := ss, stk := x.top.stk ++ [v] }, c := c } := ⟨h, rfl, rfl, her, fun _ => by rw [cut0]; rfl, rfl⟩
/-- A slice that is nobody's stays where the top's activation alone is turned. -/
theorem MacR.freeTop {H0 H H' : Heap} {x : MG} (h : MacR H0 H x) {r : Sl} {vs : List Value} (hv : Vec H T_int64 r vs) (hr : IsS x.c H0.size 999 r) (hu : Upd (fun b => b = x.top.p ∨ x.top.ss.a = some (adr b)) H H') : Vec H' T_int64 r vs :=
  hv.upd hu fun b hb e => by
    have h1 := (h.topI b (e.imp id fun e => .inr e)).2
    have h2 := (hr b hb).2
    have := h.lowl
    omega
theorem s_asks (hin : InputOk) {H0 : Heap} {x : MG} {fs : List Rou} {ins : List (Int × Int × Int)} (h : MacR H0 H x) (hc : CtxR H0 x.g.pF x.g.s x.g.inS fs ins) (her : x.g.er = 0) {op A : Int} (hA : I64 A)
    (ht : takes (parms fs) (op, A) ≤ x.top.stk.length) (hsl : x.top.stk.length ≤ 64) (h64 : All64 x.top.stk) (hd : 0 ≤ x.d ∧ x.d < 18446744073709551616) (hload : op = 2 → 0 ≤ A ∧ A < (x.top.loc.length : Int))
    (hfield : op = 4 → 0 ≤ A ∧ ∃ v, lookV x.ms.vals (A / 8) = some v ∧ A % 8 < (v.length : Int)) {k : Bool → Heap → Prop}
    (hyes : ∀ H' x', (op = 1 ∨ op = 2 ∨ op = 4 ∨ (31 ≤ op ∧ op ≤ 35)) → Post H0 x (act (mpOf x.g fs) (enOf x.g ins) x.ms (cutS x.ms (takes (parms fs) (op, A)).toNat) (args x.ms (takes (parms fs) (op, A)).toNat) op.toNat A) H' x' → k true H')
    (hno : ∀ H', ¬ (op = 1 ∨ op = 2 ∨ op = 4 ∨ (31 ≤ op ∧ op ≤ 35)) → Ext H H' → k false H') :
    CallT Pg f_machine_run_asks [.pointer (some (adr x.b)), .agg #[.int .i64 op, .int .i64 A]] (.one (.c .bool)) H k := by
  refine c_machine_run_asks _ (op, A) ?_
  unfold v_machine_run_asks
  refine Nw_row (vs := [.int .i64 op, .int .i64 A]) fun b1 H1 hb1 hE1 hz1 hr1 => ?_
  have h1 := h.ext hE1
  have c0 : hcell H1 (adr b1) = some (.int .i64 op) := (hr1.cell 0).trans rfl
  have c1 : hcell H1 ⟨b1, 1, none⟩ = some (.int .i64 A) := (hr1.cell 1).trans rfl
  have bp : b1 ≠ x.top.p := by have := h.topR.row.lt; omega
  have bs : x.top.ss.a ≠ some (adr b1) := fun e => by have := h.topR.stk.lt e; omega
  have c1' : ∀ {H'}, Upd (fun b => b = x.top.p ∨ x.top.ss.a = some (adr b)) H1 H' → hcell H' ⟨b1, 1, none⟩ = some (.int .i64 A) := fun hU => hU.cell c1 fun e => e.elim bp bs
  have topc : ∀ n, hcell H1 ⟨x.top.p, n, none⟩ = (actV x.top)[n]? := h1.topR.row.cell
  simp only [NilCk_some, adr_add, mk_add, Jn]
  refine s_last h1 (Ld_int c0 ?_)
  simp only [NilCk_some, adr_add, mk_add]
  refine Br.mk (fun h_ => ?_) fun hn1 => ?_
  · have h_ := beqI h_; subst h_
    have e : (takes (parms fs) (1, A)).toNat = 0 := by rw [takes_of (by decide) (by decide) (c := 0) (by decide)]; rfl
    rw [e] at hyes
    exact Ld_int c1 (m_push h1 (by omega) fun ss H2 c hU2 h2 => hyes H2 _ (by omega) (post_push0 h2 her))
  have hn1 := bneI hn1
  refine Br.mk (fun h_ => ?_) fun hn2 => ?_
  · have h_ := beqI h_; subst h_
    have e : (takes (parms fs) (2, A)).toNat = 0 := by rw [takes_of (by decide) (by decide) (c := 0) (by decide)]; rfl
    rw [e] at hyes
    obtain ⟨hA0, hA1⟩ := hload rfl
    have hlt : A.toNat < x.top.loc.length := by omega
    refine Ld_sl (s := x.top.ls) ((topc 4).trans rfl) (Ld_int c1 (IxA_vec h1.topR.loc hA0 (by simpa using hA1) fun a2 ha2 _ => Ld_int (n := x.top.loc[A.toNat]!) (ha2.trans ?_) ?_))
    · rw [getElem!_pos x.top.loc _ hlt]; simp [List.getElem?_eq_getElem hlt]
    refine m_push h1 (by omega) fun ss H2 c hU2 h2 => Stab_2 (c1' hU2) ((h2.topR.row.cell 4).trans rfl) (hyes H2 _ (by omega) (post_push0 h2 her))
  have hn2 := bneI hn2
  refine Br.mk (fun h_ => ?_) fun hn4 => ?_
  · have h_ := beqI h_; subst h_
    have e : (takes (parms fs) (4, A)).toNat = 0 := by rw [takes_of (by decide) (by decide) (c := 0) (by decide)]; rfl
    rw [e] at hyes
    obtain ⟨hA0, v, hv, hvl⟩ := hfield rfl
    refine ⟨.map (some x.g.mp), (h1.run.1.cell 18).trans rfl, Ld_int c1 ⟨by omega, Ld_int c1 ⟨by omega, ?_⟩⟩⟩
    rw [tdiv8 hA0 hA, Int.tmod_eq_emod_of_nonneg hA0]
    refine MpL_es h1.map.1 (fun j hj hkd hl _ => ?_) fun hl => ?_
    · have ev : x.es[j].vals = v := by
        have : some x.es[j].vals = some v := hl.symm.trans hv
        exact Option.some.inj this
      have hlt : (A % 8).toNat < x.es[j].vals.length := by rw [ev]; omega
      refine Stab_2 c1 c1 (IxA_vec (h1.esR _ (List.getElem_mem hj)).1 (by omega) (by rw [List.length_map, ev]; exact hvl) fun a4 ha4 _ => Ld_int (n := x.es[j].vals[(A % 8).toNat]!) (ha4.trans ?_) ?_)
      · rw [getElem!_pos x.es[j].vals _ hlt]; simp [List.getElem?_eq_getElem hlt]
      refine m_push h1 (by omega) fun ss H2 c hU2 h2 => Stab_all (fun y hy => ?_) ?_
      · simp only [List.mem_cons, List.not_mem_nil, or_false] at hy
        rcases hy with rfl | rfl | rfl
        · exact c1' hU2
        · exact c1' hU2
        · exact (h2.run.1.cell 18).trans rfl
      have hact : act (mpOf x.g fs) (enOf x.g ins) x.ms (cutS x.ms 0) (args x.ms 0) (4 : Int).toNat A = (0, (cutS x.ms 0).push x.es[j].vals[(A % 8).toNat]!) := by
        show (0, (cutS x.ms 0).push ((lookV (x.es.map PtP.pt) (A / 8)).getD [])[(A % 8).toNat]!) = _
        rw [hl]; rfl
      rw [hact] at hyes
      exact hyes H2 _ (by omega) (post_push0 h2 her)
    · have : none = some v := hl.symm.trans hv
      cases this
  have hn4 := bneI hn4
  refine Br.mk (fun h_ => ?_) fun hn31 => ?_
  · have h_ := beqI h_; subst h_
    have e : takes (parms fs) (31, A) = 1 := takes_of (by decide) (by decide) (by decide)
    rw [e] at ht hyes
    refine Ld_ptr (n := some (adr x.g.dp)) ((h1.run.1.cell 26).trans rfl) (m_take h1 (n := 1) rfl (by omega) (by omega) fun r H2 c2 hU2 h2 hv2 hf2 => Stab_1 ((h2.run.1.cell 26).trans rfl) ?_)
    have hx : (x.top.stk.drop (x.top.stk.length - 1)).length = 1 := by simp; omega
    have ha : args x.ms 1 = x.top.stk.drop (x.top.stk.length - 1) := rfl
    have hl64 : All64 (x.top.stk.drop (x.top.stk.length - 1)) := all_drop h64 _
    generalize hl : x.top.stk.drop (x.top.stk.length - 1) = l at *
    match l, hx with
    | [w], _ =>
      refine IxA_vec hv2 (by decide) (by simp) fun a6 ha6 haa => Ld_int (n := w) (ha6.trans rfl) ?_
      refine s_dice_Below (s := x.d) h2.dice.1 hd.1 hd.2 (hl64 w (by simp)) fun H3 hU3 hr3 => ?_
      have h3 := h2.fell (d := (BelowF x.d w).2) hU3 hr3
      have hv3 : Vec H3 T_int64 r (ints [w]) := hv2.upd hU3 fun b hb e => hv2.ne hb h2.dice.1 (by decide) e
      refine m_push h3 (by simp; omega) fun ss H4 c4 hU4 h4 => ?_
      have hv4 := h3.freeTop hv3 hf2 hU4
      refine Stab_2 ?_ ((h4.run.1.cell 26).trans rfl) (hyes H4 _ (by omega) ⟨h4, rfl, rfl, her, fun _ => ?_, rfl⟩)
      · obtain ⟨b, hb, rfl⟩ := haa
        obtain ⟨b', hb', hcc⟩ := hv4.cell (i := 0) (by simp)
        rw [hb] at hb'; cases hb'
        exact hcc
      · rw [show (1 : Int).toNat = 1 from rfl, ha]; rfl
  have hn31 := bneI hn31
  refine Br.mk (fun h_ => ?_) fun hn32 => ?_
  · have h_ := beqI h_; subst h_
    have e : (takes (parms fs) (32, A)).toNat = 0 := by rw [takes_of (by decide) (by decide) (c := 0) (by decide)]; rfl
    rw [e] at hyes
    exact Ld_int (n := x.g.fr) ((h1.run.1.cell 11).trans rfl) (m_push h1 (by omega) fun ss H2 c hU2 h2 => hyes H2 _ (by omega) (post_push0 h2 her))
  have hn32 := bneI hn32
  refine Br.mk (fun h_ => ?_) fun hn33 => ?_
  · have h_ := beqI h_; subst h_
    have e : (takes (parms fs) (33, A)).toNat = 0 := by rw [takes_of (by decide) (by decide) (c := 0) (by decide)]; rfl
    rw [e] at hyes
    exact Ld_int (n := x.g.ix) ((h1.run.1.cell 15).trans rfl) (m_push h1 (by omega) fun ss H2 c hU2 h2 => hyes H2 _ (by omega) (post_push0 h2 her))
  have hn33 := bneI hn33
  refine Br.mk (fun h_ => ?_) fun hn34 => ?_
  · have h_ := beqI h_; subst h_
    have e : takes (parms fs) (34, A) = 2 := takes_of (by decide) (by decide) (by decide)
    rw [e] at ht hyes
    refine m_take h1 (n := 2) rfl (by omega) (by omega) fun r H2 c2 hU2 h2 hv2 hf2 => ?_
    have hx : (x.top.stk.drop (x.top.stk.length - 2)).length = 2 := by simp; omega
    have ha : args x.ms 2 = x.top.stk.drop (x.top.stk.length - 2) := rfl
    generalize hl : x.top.stk.drop (x.top.stk.length - 2) = l at *
    match l, hx with
    | [w, z], _ =>
      refine IxA_vec hv2 (by decide) (by simp) fun a6 ha6 haa => Ld_int (n := w) (ha6.trans rfl) (IxA_vec hv2 (by decide) (by simp) fun a7 ha7 haa7 => Ld_int (n := z) (ha7.trans rfl) ?_)
      refine hin H0 H2 { x with top := x.top.took 2, c := c2 } fs ins w z _ h2 hc fun H3 hE3 => ?_
      have h3 := h2.ext hE3
      refine m_push h3 (by simp; omega) fun ss H4 c4 hU4 h4 => ?_
      have hv4 := h3.freeTop (hv2.ext hE3) hf2 hU4
      refine Stab_2 ?_ ?_ (hyes H4 _ (by omega) ⟨h4, rfl, rfl, her, fun _ => ?_, rfl⟩)
      · obtain ⟨b, hb, rfl⟩ := haa7
        obtain ⟨b', hb', hcc⟩ := hv4.cell (i := 1) (by simp)
        rw [hb] at hb'; cases hb'
        exact hcc
      · obtain ⟨b, hb, rfl⟩ := haa
        obtain ⟨b', hb', hcc⟩ := hv4.cell (i := 0) (by simp)
        rw [hb] at hb'; cases hb'
        exact hcc
      · rw [show (2 : Int).toNat = 2 from rfl, ha]; rfl
  have hn34 := bneI hn34
  refine Br.mk (fun h_ => ?_) fun hn35 => ?_
  · have h_ := beqI h_; subst h_
    have e : (takes (parms fs) (35, A)).toNat = 0 := by rw [takes_of (by decide) (by decide) (c := 0) (by decide)]; rfl
    rw [e] at hyes
    refine ⟨.map (some x.g.mp), (h1.run.1.cell 18).trans rfl, Ld_int c1 (MpL_es h1.map.1 (fun j hj hkd hl _ => ?_) fun hl => ?_)⟩
    · have hact : act (mpOf x.g fs) (enOf x.g ins) x.ms (cutS x.ms 0) (args x.ms 0) (35 : Int).toNat A = (0, (cutS x.ms 0).push (truthI true)) := by
        show (0, (cutS x.ms 0).push (truthI (lookV (x.es.map PtP.pt) A).isSome)) = _
        rw [hl]; rfl
      rw [hact] at hyes
      exact s_truth (m_push h1 (by omega) fun ss H2 c hU2 h2 => hyes H2 _ (by omega) (post_push0 h2 her))
    · have hact : act (mpOf x.g fs) (enOf x.g ins) x.ms (cutS x.ms 0) (args x.ms 0) (35 : Int).toNat A = (0, (cutS x.ms 0).push (truthI false)) := by
        show (0, (cutS x.ms 0).push (truthI (lookV (x.es.map PtP.pt) A).isSome)) = _
        rw [hl]; rfl
      rw [hact] at hyes
      exact s_truth (m_push h1 (by omega) fun ss H2 c hU2 h2 => hyes H2 _ (by omega) (post_push0 h2 her))
  have hn35 := bneI hn35
  exact hno H1 (by omega) hE1
end Go.Proofs.YtfpmgpblhhcpgaaGreat
/-
  A stable order by small keys, and an insertion into it.
-/
namespace Go.Proofs.YtfpmgpblhhcpgaaGreat.Hc.Mc
set_option linter.unusedVariables false
set_option linter.unusedSimpArgs false
open Go Go.Proofs.YtfpmgpblhhcpgaaGreat.Hc

variable {α : Type}
def risN (key : α → Int) (n : Nat) (l : List α) : List α := (List.range n).flatMap fun (k : Nat) => l.filter fun x => key x == (k : Int)
abbrev risK (key : α → Int) (l : List α) : List α := risN key 13 l
theorem rise_eq (l : List Pt) : rise l = risK Pt.kind l := rfl
theorem risN_succ (key : α → Int) (n : Nat) (l : List α) : risN key (n + 1) l = risN key n l ++ l.filter fun x => key x == (n : Int) := by
  unfold risN
  rw [List.range_succ, List.flatMap_append]
  simp
theorem risN_map {β : Type} (f : α → β) {key : α → Int} {key' : β → Int} (h : ∀ x, key' (f x) = key x) (l : List α) : ∀ n, (risN key n l).map f = risN key' n (l.map f)
  | 0 => rfl
  | n + 1 => by
    rw [risN_succ, risN_succ, List.map_append, risN_map f h l n, List.filter_map]
    congr 2
    exact List.filter_congr fun x _ => by simp [h]
theorem risN_bd {key : α → Int} {l : List α} : ∀ {n : Nat}, ∀ x ∈ risN key n l, key x < n
  | 0, x, h => by simp [risN] at h
  | n + 1, x, h => by
    rw [risN_succ] at h
    rcases List.mem_append.1 h with h | h
    · have := risN_bd x h; omega
    · have := (List.mem_filter.1 h).2
      have : key x = n := by simpa using this
      omega
theorem risN_pw {key : α → Int} {l : List α} : ∀ {n : Nat}, (risN key n l).Pairwise fun x y => key x ≤ key y
  | 0 => by simp [risN]
  | n + 1 => by
    rw [risN_succ, List.pairwise_append]
    refine ⟨risN_pw, ?_, fun x hx y hy => ?_⟩
    · refine List.pairwise_iff_getElem.2 fun i j hi hj _ => ?_
      have h1 := (List.mem_filter.1 (List.getElem_mem hi)).2
      have h2 := (List.mem_filter.1 (List.getElem_mem hj)).2
      simp only [beq_iff_eq] at h1 h2
      omega
    · have h1 := risN_bd x hx
      have h2 := (List.mem_filter.1 hy).2
      simp only [beq_iff_eq] at h2
      omega
theorem risN_snoc {key : α → Int} {l : List α} {x : α} (hx : 0 ≤ key x) : ∀ n : Nat, risN key n (l ++ [x]) = if key x < n then (risN key n l).filter (fun y => decide (key y ≤ key x)) ++ [x] ++ (risN key n l).filter (fun y => decide (key x < key y)) else risN key n l
  | 0 => by rw [if_neg (by omega)]; rfl
  | n + 1 => by
    have ih := risN_snoc (l := l) hx n
    rw [risN_succ, ih, risN_succ, List.filter_append]
    have hb := risN_bd (key := key) (l := l) (n := n)
    rcases Int.lt_trichotomy (key x) n with h | h | h
    · rw [if_pos h, if_pos (by omega), List.filter_append, List.filter_append]
      have e1 : ([x].filter fun y => key y == (n : Int)) = [] := by
        rw [List.filter_cons, if_neg (by simp; omega)]; rfl
      have e2 : ((l.filter fun y => key y == (n : Int)).filter fun y => decide (key y ≤ key x)) = [] := by
        refine List.filter_eq_nil_iff.2 fun y hy => ?_
        have := (List.mem_filter.1 hy).2
        simp only [beq_iff_eq] at this
        simp; omega
      have e3 : ((l.filter fun y => key y == (n : Int)).filter fun y => decide (key x < key y)) = l.filter fun y => key y == (n : Int) := by
        refine List.filter_eq_self.2 fun y hy => ?_
        have := (List.mem_filter.1 hy).2
        simp only [beq_iff_eq] at this
        simp; omega
      rw [e1, e2, e3]; simp
    · rw [if_neg (by omega), if_pos (by omega), List.filter_append, List.filter_append]
      have e1 : ([x].filter fun y => key y == (n : Int)) = [x] := by rw [List.filter_cons, if_pos (by simp; omega)]; rfl
      have e2 : (risN key n l).filter (fun y => decide (key y ≤ key x)) = risN key n l := List.filter_eq_self.2 fun y hy => by have := hb y hy; simp; omega
      have e3 : (risN key n l).filter (fun y => decide (key x < key y)) = [] := List.filter_eq_nil_iff.2 fun y hy => by have := hb y hy; simp; omega
      have e4 : ((l.filter fun y => key y == (n : Int)).filter fun y => decide (key y ≤ key x)) = l.filter fun y => key y == (n : Int) := by
        refine List.filter_eq_self.2 fun y hy => ?_
        have := (List.mem_filter.1 hy).2
        simp only [beq_iff_eq] at this
        simp; omega
      have e5 : ((l.filter fun y => key y == (n : Int)).filter fun y => decide (key x < key y)) = [] := by
        refine List.filter_eq_nil_iff.2 fun y hy => ?_
        have := (List.mem_filter.1 hy).2
        simp only [beq_iff_eq] at this
        simp; omega
      rw [e1, e2, e3, e4, e5]; simp
    · rw [if_neg (by omega), if_neg (by omega)]
      have e1 : ([x].filter fun y => key y == (n : Int)) = [] := by
        rw [List.filter_cons, if_neg (by simp; omega)]; rfl
      rw [e1, List.append_nil]
/-- Where it comes to stand. -/
theorem ris_ins {key : α → Int} {l : List α} {x : α} (hx : 0 ≤ key x ∧ key x < 13) {A B : List α} (h : risK key l = A ++ B) (hB : ∀ y ∈ B, key x < key y) (hA : ∀ y ∈ A, key y ≤ key x) : risK key (l ++ [x]) = A ++ [x] ++ B := by
  rw [risK, risN_snoc hx.1, if_pos (by omega)]
  rw [risK] at h
  rw [h, List.filter_append, List.filter_append]
  have e1 : A.filter (fun y => decide (key y ≤ key x)) = A := List.filter_eq_self.2 fun y hy => by simpa using hA y hy
  have e2 : B.filter (fun y => decide (key y ≤ key x)) = [] := List.filter_eq_nil_iff.2 fun y hy => by have := hB y hy; simp; omega
  have e3 : A.filter (fun y => decide (key x < key y)) = [] := List.filter_eq_nil_iff.2 fun y hy => by have := hA y hy; simp; omega
  have e4 : B.filter (fun y => decide (key x < key y)) = B := List.filter_eq_self.2 fun y hy => by simpa using hB y hy
  rw [e1, e2, e3, e4]; simp
end Go.Proofs.YtfpmgpblhhcpgaaGreat.Hc.Mc
/-
  Machine: what is kept is put in order.
-/
namespace Go.Proofs.YtfpmgpblhhcpgaaGreat
set_option linter.unusedVariables false
set_option linter.unusedSimpArgs false
open Go.Proofs.YtfpmgpblhhcpgaaGreat.Hc Go.Proofs.YtfpmgpblhhcpgaaGreat.Hc.Vf Go.Proofs.YtfpmgpblhhcpgaaGreat.Hc.Mc Go.Proofs.YtfpmgpblhhcpgaaGreat.Hc.Dice
set_option maxRecDepth 100000
variable {H : Heap}

instance : Inhabited PtP := ⟨⟨0, default, []⟩⟩
theorem s_isNaN {x : Int} {k : Bool → Heap → Prop} (hk : k false H) : CallT Pg f_cmp_isNaN_int [.int .i64 x] (.one (.c .bool)) H k := by
  refine c_cmp_isNaN_int _ ?_
  unfold v_cmp_isNaN_int
  have : (x != x) = false := by simp
  rw [this]; exact hk
theorem s_cmp {x y : Int} {k : Int → Heap → Prop} (hk : ∀ r, (r < 0 ↔ x < y) → k r H) : CallT Pg f_cmp_Compare_int [.int .i64 x, .int .i64 y] IntR H k := by
  refine c_cmp_Compare_int _ _ ?_
  unfold v_cmp_Compare_int
  refine s_isNaN (s_isNaN ?_)
  rw [Br_false, Br_false]
  refine Br_dec (fun h => hk _ (by omega)) fun h => Br_dec (fun h' => hk _ (by omega)) fun h' => hk _ (by omega)
theorem x_cmp {a b : PtP} {k : Int → Heap → Prop} (hk : ∀ r H', Ext H H' → (r < 0 ↔ a.kind < b.kind) → k r H') :
    CallX Pg (fnV 121) [.agg #[.int .i64 a.kind, .slice a.sl.a a.sl.len a.sl.cap], .agg #[.int .i64 b.kind, .slice b.sl.a b.sl.len b.sl.cap]] IntR H k := by
  refine ⟨121, #[], #[], rfl, ?_⟩
  show CallT Pg f_machine_run_spawn_1 [.agg #[.int .i64 a.kind, .slice a.sl.a a.sl.len a.sl.cap], .agg #[.int .i64 b.kind, .slice b.sl.a b.sl.len b.sl.cap]] _ _ _
  refine c_machine_run_spawn_1 (a.kind, a.sl) (b.kind, b.sl) ?_
  unfold v_machine_run_spawn_1
  refine Nw_row (vs := ptV a) fun b1 H1 hb1 hE1 _ hr1 => Nw_row (vs := ptV b) fun b2 H2 hb2 hE2 _ hr2 => ?_
  exact Ld_int (n := a.kind) (((hE2.row hr1 fun h => h).cell 0).trans rfl) (Ld_int (n := b.kind) ((hr2.cell 0).trans rfl) (s_cmp fun r hr => hk r H2 (hE1.trans hE2 fun _ _ h => h) hr))
/-- Two neighbours change places. -/
theorem swap_elems {s : Sl} {xs : List PtP} (h : VecN H T_api_Part 2 s (xs.flatMap ptV)) {j : Nat} (hj : j + 1 < xs.length) {k : Heap → Prop}
    (hk : ∀ H', Upd (fun b => s.a = some (adr b)) H H' → VecN H' T_api_Part 2 s (((xs.set (j + 1) xs[j]).set j xs[j + 1]).flatMap ptV) → k H') :
    IxA 2 s (j : Nat) fun a3 => LdC [(.int .i64), .sl] a3 H fun (c3 : Int × Sl) => IxA 2 s ((j + 1 : Nat) : Int) fun a4 => LdC [(.int .i64), .sl] a4 H fun (c4 : Int × Sl) => IxA 2 s ((j + 1 : Nat) : Int) fun a5 =>
      St (a5.add 0) (.int .i64 c3.1) H fun H5 => St (a5.add 1) (.slice c3.2.a c3.2.len c3.2.cap) H5 fun H6 => IxA 2 s (j : Nat) fun a6 => St (a6.add 0) (.int .i64 c4.1) H6 fun H7 => St (a6.add 1) (.slice c4.2.a c4.2.len c4.2.cap) H7 k := by
  have hl := h.len
  rw [flat_len ptV_len] at hl
  refine IxA_vecN h (by decide) rfl (by omega) fun b hb hc => ?_
  refine ⟨(xs[j].kind, xs[j].sl), ?_, ?_⟩
  · rw [hcells_iff]
    intro o ho
    have ho : o < 2 := ho
    rw [mk_add, Nat.zero_add, hc o ho, flat_get ptV_len (by omega) ho]; rfl
  refine IxA_vecN h (by decide) rfl (by omega) fun b' hb' hc' => ?_
  rw [hb] at hb'; cases hb'
  refine ⟨(xs[j + 1].kind, xs[j + 1].sl), ?_, ?_⟩
  · rw [hcells_iff]
    intro o ho
    have ho : o < 2 := ho
    rw [mk_add, Nat.zero_add, hc' o ho, flat_get ptV_len (by omega) ho]; rfl
  refine IxA_vecN h (by decide) rfl (by omega) fun b' hb' _ => ?_
  rw [hb] at hb'; cases hb'
  simp only [mk_add]
  have hfl := flat_len ptV_len (es := xs)
  refine St_vecN h hb (by omega) fun H1 h1 hU1 _ => ?_
  rw [flat_set ptV_len (e' := ⟨xs[j].kind, xs[j + 1].sl, xs[j + 1].vals⟩) (by omega) (by decide) rfl] at h1
  have hfl1 := flat_len ptV_len (es := xs.set (j + 1) ⟨xs[j].kind, xs[j + 1].sl, xs[j + 1].vals⟩)
  rw [List.length_set] at hfl1
  refine St_vecN h1 hb (by omega) fun H2 h2 hU2 _ => ?_
  rw [flat_set ptV_len (e' := xs[j]) (by rw [List.length_set]; omega) (by decide) (by rw [List.getElem_set_self]; rfl), List.set_set] at h2
  have hfl2 := flat_len ptV_len (es := xs.set (j + 1) xs[j])
  rw [List.length_set] at hfl2
  have hl2 := h2.len
  refine IxA_vecN h2 (by decide) rfl (by omega) fun b' hb' _ => ?_
  rw [hb] at hb'; cases hb'
  have hg : (xs.set (j + 1) xs[j])[j]'(by rw [List.length_set]; omega) = xs[j] := List.getElem_set_ne (by omega) _
  simp only [mk_add]
  refine St_vecN h2 hb (by omega) fun H3 h3 hU3 _ => ?_
  rw [flat_set ptV_len (e' := ⟨xs[j + 1].kind, xs[j].sl, xs[j].vals⟩) (by rw [List.length_set]; omega) (by decide) (by rw [hg]; rfl)] at h3
  have hfl3 := flat_len ptV_len (es := (xs.set (j + 1) xs[j]).set j ⟨xs[j + 1].kind, xs[j].sl, xs[j].vals⟩)
  rw [List.length_set, List.length_set] at hfl3
  refine St_vecN h3 hb (by omega) fun H4 h4 hU4 _ => ?_
  rw [flat_set ptV_len (e' := xs[j + 1]) (by rw [List.length_set, List.length_set]; omega) (by decide) (by rw [List.getElem_set_self]; rfl), List.set_set] at h4
  refine hk H4 ?_ h4
  have e : ∀ x, x < H.size → x = b → s.a = some (adr x) := fun x _ e => e ▸ hb
  exact (((hU1.trans hU2 fun _ _ e => e).trans hU3 fun _ _ e => e).trans hU4 fun _ _ e => e).mono e
theorem elem_at {s : Sl} {xs : List PtP} (h : VecN H T_api_Part 2 s (xs.flatMap ptV)) {i : Int} {j : Nat} (hi : i = j) (hj : j < xs.length) {k : Int × Sl → Prop} (hk : k (xs[j].kind, xs[j].sl)) :
    IxA 2 s i fun a3 => LdC [(.int .i64), .sl] a3 H k := by
  have hl := h.len
  rw [flat_len ptV_len] at hl
  refine IxA_vecN h (by decide) hi (by omega) fun b hb hc => ⟨(xs[j].kind, xs[j].sl), ?_, hk⟩
  rw [hcells_iff]
  intro o ho
  have ho : o < 2 := ho
  rw [mk_add, Nat.zero_add, hc o ho, flat_get ptV_len (by omega) ho]; rfl
theorem s_insert {s : Sl} {kp : List PtP} {nb : Int} (hnb : nb = (kp.length : Nat)) (h : VecN H T_api_Part 2 s (kp.flatMap ptV)) (hl : kp.length ≤ 12) (hK : ∀ q ∈ kp, 1 ≤ q.kind ∧ q.kind ≤ 12) {k : Unit → Heap → Prop}
    (hk : ∀ H', Upd (fun b => s.a = some (adr b)) H H' → VecN H' T_api_Part 2 s ((risK PtP.kind kp).flatMap ptV) → k () H') :
    CallT Pg f_slices_insertionSortCmpFunc_api_Part [.slice s.a s.len s.cap, .int .i64 0, .int .i64 nb, fnV 121] (.tup []) H k := by
  subst hnb
  classical
  refine c_slices_insertionSortCmpFunc_api_Part _ _ _ _ ?_
  unfold v_slices_insertionSortCmpFunc_api_Part
  refine Lt.mk (u := 1) (by decide) ?_
  refine LoopT.mk (fun i H' => ∃ n : Nat, i = n ∧ 1 ≤ n ∧ (n ≤ kp.length ∨ n = 1) ∧ Upd (fun b => s.a = some (adr b)) H H' ∧ VecN H' T_api_Part 2 s ((risK PtP.kind (kp.take n) ++ kp.drop n).flatMap ptV)) (fun i _ => 13 - i.toNat) ⟨1, rfl, Nat.le_refl _, .inr rfl, .refl _ _, ?_⟩ ?_
  · have e : risK PtP.kind (kp.take 1) ++ kp.drop 1 = kp := by
      match kp, hK with
      | [], _ => rfl
      | x :: r, hK =>
        have := ris_ins (key := PtP.kind) (l := []) (x := x) (by have := hK x (by simp); omega) (A := []) (B := []) (by simp [risK, risN]) (fun y hy => by cases hy) fun y hy => by cases hy
        simp only [List.take_succ_cons, List.take_zero, List.drop_succ_cons, List.drop_zero]
        rw [List.nil_append] at this
        rw [this]; rfl
    rw [e]; exact h
  rintro next _ H1 ⟨i, rfl, hi1, hi2, hU1, hv1⟩ hnext
  refine Br_dec (fun hlt => ?_) fun hge => ?_
  · have hi : i < kp.length := by omega
    have htk : kp.take (i + 1) = kp.take i ++ [kp[i]] := by rw [List.take_add_one, List.getElem?_eq_getElem hi]; rfl
    have hdr : kp.drop i = kp[i] :: kp.drop (i + 1) := List.drop_eq_getElem_cons hi
    have hxk := hK _ (List.getElem_mem hi)
    have hRp : (risK PtP.kind (kp.take i)).Pairwise fun x y => x.kind ≤ y.kind := risN_pw
    have hRl : (risK PtP.kind (kp.take i)).length = i := by
      have hp := (rise_len (l := (kp.take i).map PtP.pt) fun p hp => by
        obtain ⟨q, hq, rfl⟩ := List.mem_map.1 hp
        exact hK q (List.mem_of_mem_take hq)).length_eq
      rw [rise_eq, risK, ← risN_map PtP.pt (key := PtP.kind) (fun _ => rfl), List.length_map, List.length_map, List.length_take] at hp
      rw [risK, hp]; omega
    rw [hdr] at hv1
    have hsnoc := @ris_ins PtP PtP.kind (kp.take i) kp[i] (by omega)
    rw [← htk] at hsnoc
    generalize kp[i] = x at *
    generalize hD : kp.drop (i + 1) = D at *
    generalize risK PtP.kind (kp.take i) = R at *
    refine LoopT.mk (fun (j : Int) H' => ∃ A B, R = A ++ B ∧ j = (A.length : Nat) ∧ (∀ y ∈ B, x.kind < y.kind) ∧ Upd (fun b => s.a = some (adr b)) H H' ∧ VecN H' T_api_Part 2 s ((A ++ x :: (B ++ D)).flatMap ptV)) (fun (j : Int) _ => j.toNat) ⟨R, [], by simp, by rw [hRl], (fun y hy => by cases hy), hU1, by simpa using hv1⟩ ?_
    rintro next2 _ H2 ⟨A, B, hR, rfl, hB, hU2, hv2⟩ hnext2
    have hAB := congrArg List.length hR
    rw [List.length_append, hRl] at hAB
    have hlen : (A ++ x :: (B ++ D)).length = A.length + (1 + (B ++ D).length) := by simp; omega
    have fin : (∀ y ∈ A, y.kind ≤ x.kind) → ∀ H3, Upd (fun b => s.a = some (adr b)) H H3 → VecN H3 T_api_Part 2 s ((A ++ x :: (B ++ D)).flatMap ptV) → Lt (IntKind.wrap .i64 ((i : Int) + 1)) fun t6 => next t6 H3 := fun hA H3 hU3 hv3 => by
      refine Lt.mk (u := ((i + 1 : Nat) : Int)) (by rw [wrap_i64_id (by omega) (by omega)]; omega) (hnext _ _ ⟨i + 1, rfl, by omega, .inl (by omega), hU3, ?_⟩ (by omega))
      rw [hsnoc hR hB hA, hD]
      simpa using hv3
    refine Jn.mk (fun b H' => Ext H2 H' ∧ b = decide (∃ A' y, A = A' ++ [y] ∧ x.kind < y.kind)) (fun kk hkk => ?_) ?_
    · refine Br_dec (fun hpos => ?_) fun hpos => hkk _ _ ⟨.refl _ _, ?_⟩
      · obtain ⟨A', y, rfl⟩ : ∃ A' y, A = A' ++ [y] := ⟨A.dropLast, A.getLast (by rintro rfl; simp at hpos), (List.dropLast_concat_getLast _).symm⟩
        have hl2 : (A' ++ [y]).length = A'.length + 1 := by simp
        have hg1 : (A' ++ [y] ++ x :: (B ++ D))[A'.length + 1]'(by omega) = x := by simp
        have hg2 : (A' ++ [y] ++ x :: (B ++ D))[A'.length]'(by omega) = y := by simp
        refine elem_at hv2 (j := A'.length + 1) (by rw [hl2]) (by omega) (Lt.mk (u := (A'.length : Nat)) (by rw [hl2, wrap_i64_id (by omega) (by omega)]; omega) (elem_at hv2 (j := A'.length) rfl (by omega) ?_))
        rw [hg1, hg2]
        refine x_cmp fun r H3 hE3 hr => hkk _ _ ⟨hE3, ?_⟩
        rw [decide_eq_decide]
        refine hr.trans ⟨fun e => ⟨A', y, rfl, e⟩, fun ⟨A2, y2, e, e2⟩ => ?_⟩
        have := List.append_inj' e rfl
        have : y = y2 := by simpa using this.2
        rw [this]; exact e2
      · refine (decide_eq_false ?_).symm
        rintro ⟨A', y, rfl, _⟩
        simp at hpos
    rintro _ H3 ⟨hE3, rfl⟩
    have hv3 := hv2.ext hE3
    have hU3 := hU2.ext hE3
    refine Br_dec (fun hc => ?_) fun hc => ?_
    · obtain ⟨A', y, rfl, hyx⟩ := hc
      have hl2 : (A' ++ [y]).length = A'.length + 1 := by simp
      have hg1 : (A' ++ [y] ++ x :: (B ++ D))[A'.length + 1]'(by omega) = x := by simp
      have hg2 : (A' ++ [y] ++ x :: (B ++ D))[A'.length]'(by omega) = y := by simp
      have ew : IntKind.wrap .i64 (((A' ++ [y]).length : Nat) - 1 : Int) = (A'.length : Nat) := by rw [hl2, wrap_i64_id (by omega) (by omega)]; omega
      refine Lt.mk ew (Lt.mk ew ?_)
      rw [hl2]
      refine swap_elems hv3 (j := A'.length) (by omega) fun H4 hU4 hv4 => ?_
      rw [← hl2]
      refine Lt.mk ew (hnext2 _ _ ⟨A', y :: B, by rw [hR]; simp, rfl, fun z hz => ?_, hU3.trans hU4 fun _ _ e => e, ?_⟩ (by omega))
      · rcases List.mem_cons.1 hz with rfl | hz
        · exact hyx
        · exact hB z hz
      · rw [hg1, hg2] at hv4
        have e : ((A' ++ [y] ++ x :: (B ++ D)).set (A'.length + 1) y).set A'.length x = A' ++ x :: (y :: B ++ D) := by
          simp [List.set_append]
        rwa [e] at hv4
    · refine fin (fun z hz => ?_) H3 hU3 hv3
      have hAne : A ≠ [] := by rintro rfl; cases hz
      have hA2 := (List.dropLast_concat_getLast hAne).symm
      have hnot : ¬ x.kind < (A.getLast hAne).kind := fun e => hc ⟨_, _, hA2, e⟩
      rw [hR] at hRp
      have hAp := (List.pairwise_append.1 hRp).1
      rw [hA2] at hAp hz
      rcases List.mem_append.1 hz with hz | hz
      · have := (List.pairwise_append.1 hAp).2.2 z hz _ (List.mem_singleton.2 rfl)
        omega
      · rw [List.mem_singleton.1 hz]; omega
  · have e : risK PtP.kind (kp.take i) ++ kp.drop i = risK PtP.kind kp := by
      rw [List.take_of_length_le (by omega), List.drop_eq_nil_of_le (by omega), List.append_nil]
    rw [e] at hv1
    exact hk H1 hU1 hv1
theorem s_sortParts {s : Sl} {kp : List PtP} (h : VecN H T_api_Part 2 s (kp.flatMap ptV)) (hl : kp.length ≤ 12) (hK : ∀ q ∈ kp, 1 ≤ q.kind ∧ q.kind ≤ 12) {k : Unit → Heap → Prop}
    (hk : ∀ H', Upd (fun b => s.a = some (adr b)) H H' → VecN H' T_api_Part 2 s ((risK PtP.kind kp).flatMap ptV) → k () H') :
    CallT Pg f_slices_SortStableFunc_Sl_api_Part_api_Part [.slice s.a s.len s.cap, fnV 121] (.tup []) H k := by
  have hlen := h.len
  rw [flat_len ptV_len] at hlen
  have hn : s.len = kp.length := by omega
  refine c_slices_SortStableFunc_Sl_api_Part_api_Part _ _ ?_
  unfold v_slices_SortStableFunc_Sl_api_Part_api_Part
  refine c_slices_stableCmpFunc_api_Part _ _ _ ?_
  unfold v_slices_stableCmpFunc_api_Part
  refine LoopT.mk (fun p H' => p = (0, 20) ∧ H = H') (fun _ _ => 0) ⟨rfl, rfl⟩ ?_
  rintro next _ _ ⟨rfl, rfl⟩ _
  refine Br_no (by dsimp only; omega) ?_
  refine s_insert (by rw [hn]) h hl hK fun H' hU hv => ?_
  refine LoopT.mk (fun p H2 => p = 20 ∧ H' = H2) (fun _ _ => 0) ⟨rfl, rfl⟩ ?_
  rintro next _ _ ⟨rfl, rfl⟩ _
  exact Br_no (by omega) (hk H' hU hv)
end Go.Proofs.YtfpmgpblhhcpgaaGreat
/-
  Machine: commands, parts, spawns.
-/
namespace Go.Proofs.YtfpmgpblhhcpgaaGreat
set_option linter.unusedVariables false
set_option linter.unusedSimpArgs false
open Go.Proofs.YtfpmgpblhhcpgaaGreat.Hc Go.Proofs.YtfpmgpblhhcpgaaGreat.Hc.Vf Go.Proofs.YtfpmgpblhhcpgaaGreat.Hc.Mc Go.Proofs.YtfpmgpblhhcpgaaGreat.Hc.Dice
set_option maxRecDepth 100000
variable {H : Heap}

theorem s_command {b : Nat} {g : RunG} {cl : List CmP} {q : CmP} (hr : Row H b T_machine_run (runV g)) (hv : VecN H T_api_Command 6 g.cs (cl.flatMap cmV)) (hl : cl.length ≤ 16) {k : Unit → Heap → Prop}
    (hk : ∀ H' cs, Upd (fun x => g.cs.a = some (adr x) ∨ x = b) H H' → Row H' b T_machine_run (runV { g with cs := cs }) → VecN H' T_api_Command 6 cs ((cl ++ [q]).flatMap cmV) → (cs.a = g.cs.a ∨ ∃ x, cs.a = some (adr x) ∧ H.size ≤ x) → k () H') :
    CallT Pg f_machine_run_command [.pointer (some (adr b)), .agg #[.int .i64 q.op, .int .i64 q.e.1, .int .i64 q.e.2, .int .i64 q.kind, .slice q.vsl.a q.vsl.len q.vsl.cap, .slice q.psl.a q.psl.len q.psl.cap]] (.tup []) H k := by
  refine c_machine_run_command _ (q.op, q.e.1, q.e.2, q.kind, q.vsl, q.psl) ?_
  unfold v_machine_run_command
  simp only [NilCk_some, adr_add, mk_add]
  refine Nw_row (vs := cmV q) fun b1 H1 hb1 hE1 hz1 hr1 => ?_
  have hrun1 := hE1.row hr fun h => h
  refine Ld_sl (s := g.cs) ((hrun1.cell 22).trans rfl) ⟨(q.op, q.e.1, q.e.2, q.kind, q.vsl, q.psl), hr1.rd_all, ?_⟩
  refine Nw_row (vs := cmV q) fun b2 H2 hb2 hE2 hz2 hr2 => ?_
  have hrun2 := hE2.row hrun1 fun h => h
  refine Stab_1 ((hrun2.cell 22).trans rfl) ?_
  have hE02 := hE1.trans hE2 fun _ _ h => h
  have hv2 := hv.ext hE02
  have hlen := hv2.len
  rw [flat_len cmV_len] at hlen
  refine App_vecN (ws := cmV q) rfl (by decide) hv2 hr2.rd_all rfl (fun w hw => ?_) (by decide) (by dsimp only; omega) fun cs H3 hv3 hl3 hU3 ha3 => ?_
  · simp only [cmV, List.mem_cons, List.not_mem_nil, or_false] at hw
    rcases hw with rfl | rfl | rfl | rfl | rfl | rfl <;> rfl
  have hb1l : g.cs.a ≠ some (adr b1) := fun e => by have := hv.lt e; omega
  have hr13 : Row H3 b1 T_api_Command (cmV q) := hU3.row (hE2.row hr1 fun h => h) fun e => hb1l e.1
  refine Stab_all (fun y hy => ?_) ?_
  · simp only [List.mem_cons, List.not_mem_nil, or_false] at hy
    rcases hy with rfl | rfl | rfl | rfl | rfl | rfl
    · exact (hr13.cell 0).trans rfl
    · exact (hr13.cell 1).trans rfl
    · exact (hr13.cell 2).trans rfl
    · exact (hr13.cell 3).trans rfl
    · exact (hr13.cell 4).trans rfl
    · exact (hr13.cell 5).trans rfl
  have hrun3 := hU3.row hrun2 fun e => hv2.ne e.1 hrun2 (by decide) rfl
  refine St_row hrun3 (by simp) fun H4 hU4 _ hr4 => ?_
  refine hk H4 cs ?_ hr4 ?_ (ha3.imp (fun e => e.1) fun e => ⟨_, e, hE02.size⟩)
  · exact ((hE02.mono fun _ _ h => h.elim).trans (hU3.mono fun _ _ e => .inl e.1) fun _ _ e => e).trans hU4 fun _ _ e => .inr e
  · have := hv3.upd hU4 fun b hb e => hv3.ne hb hrun3 (by decide) e
    simpa using this
theorem m_cmd {H0 : Heap} {x : MG} (h : MacR H0 H x) (hl : x.cl.length ≤ 16) {q : CmP} (hq : Vec H T_int64 q.vsl (ints q.vals)) (hqc : IsS x.c H0.size 999 q.vsl) (hp : q.parts = []) (hps : q.psl = ⟨none, 0, 0⟩) {k : Unit → Heap → Prop}
    (hk : ∀ H' cs c, MacR H0 H' { x with g := { x.g with cs := cs }, cl := x.cl ++ [q], c := c } → k () H') :
    CallT Pg f_machine_run_command [.pointer (some (adr x.b)), .agg #[.int .i64 q.op, .int .i64 q.e.1, .int .i64 q.e.2, .int .i64 q.kind, .slice q.vsl.a q.vsl.len q.vsl.cap, .slice q.psl.a q.psl.len q.psl.cap]] (.tup []) H k :=
  s_command h.run.1 h.cv.1 hl fun H' cs hU hr hv ha => hk H' cs _ (h.cmd hU hr hv ha hq hqc hp hps)
theorem s_spawn {H0 : Heap} {x : MG} (h : MacR H0 H x) (hl : x.cl.length ≤ 16) (hkl : x.kp.length ≤ 12) (hK : ∀ q ∈ x.kp, 1 ≤ q.kind ∧ q.kind ≤ 12) {k : Unit → Heap → Prop}
    (hk : ∀ H' cs c, MacR H0 H' { x with g := { x.g with cs := cs, ks := ⟨none, 0, 0⟩ }, cl := x.cl ++ [spawned x.g.ks (risK PtP.kind x.kp)], kp := [], c := c } → k () H') :
    CallT Pg f_machine_run_spawn [.pointer (some (adr x.b))] (.tup []) H k := by
  refine c_machine_run_spawn _ ?_
  unfold v_machine_run_spawn
  simp only [NilCk_some, adr_add, mk_add]
  refine Ld_sl (s := x.g.ks) ((h.run.1.cell 20).trans rfl) (s_sortParts h.kv.1 hkl hK fun H1 hU1 hv1 => ?_)
  have hrun1 := hU1.row h.run.1 fun e => h.kv.1.ne e h.run.1 (by decide) rfl
  have hcv1 := h.cv.1.upd hU1 fun b hb e => by
    have h1 := (h.cv.2 b hb).2; have h2 := (h.kv.2 b e).2; omega
  refine Ld_sl (s := x.g.ks) ((hrun1.cell 20).trans rfl) (s_command (q := spawned x.g.ks (risK PtP.kind x.kp)) hrun1 hcv1 hl fun H2 cs hU2 hr2 hv2 ha2 => ?_)
  refine St_row hr2 (by simp) fun H3 hU3 _ hr3 => ?_
  have hp : (risK PtP.kind x.kp).Perm x.kp := by
    have := rise_len (l := x.kp.map PtP.pt) fun p hp => by
      obtain ⟨q, hq, rfl⟩ := List.mem_map.1 hp
      exact hK q hq
    have key : ∀ (n : Nat) (l : List PtP), (∀ p ∈ l, 0 ≤ p.kind ∧ p.kind < n) → (risN PtP.kind n l).Perm l := by
      intro n
      induction n with
      | zero => intro l h; cases l with
        | nil => exact .refl _
        | cons p l => have := h p (by simp); omega
      | succ n ih =>
        intro l h
        rw [risN_succ]
        have h1 : risN PtP.kind n l = risN PtP.kind n (l.filter fun p => !(p.kind == (n : Int))) := by
          unfold risN
          have : ∀ k ∈ List.range n, (l.filter fun p => p.kind == (k : Int)) = (l.filter fun p => !(p.kind == (n : Int))).filter fun p => p.kind == (k : Int) := by
            intro k hk
            rw [List.filter_filter]
            refine List.filter_congr fun p _ => ?_
            by_cases e : p.kind = (k : Int)
            · have := List.mem_range.1 hk
              have h2 : (p.kind == (n : Int)) = false := beq_eq_false_iff_ne.2 (by omega)
              rw [h2]; simp
            · have : (p.kind == (k : Int)) = false := beq_eq_false_iff_ne.2 e
              rw [this]; simp
          rw [List.flatMap_def, List.flatMap_def, List.map_congr_left this]
        rw [h1]
        refine ((ih (l.filter fun p => !(p.kind == (n : Int))) fun p hp => ?_).append (.refl _)).trans ?_
        · obtain ⟨hp, hq⟩ := List.mem_filter.1 hp
          have := h p hp
          have hq : p.kind ≠ n := by simpa using hq
          omega
        · exact List.perm_append_comm.trans (List.filter_append_perm (fun p : PtP => p.kind == (n : Int)) l)
    exact key 13 x.kp fun p hp => by have := hK p hp; omega
  refine hk H3 cs _ (h.spawn hp ?_ hr3 ?_ ?_ ?_)
  · refine ((hU1.mono fun _ _ e => .inl e).trans (hU2.mono fun _ _ e => .inr e) fun _ _ e => e).trans hU3 fun _ _ e => .inr (.inr e)
  · refine (hv1.upd hU2 fun b hb e => ?_).upd hU3 fun b hb e => ?_
    · rcases e with e | e
      · have h1 := (h.cv.2 b e).2; have h2 := (h.kv.2 b hb).2; omega
      · exact h.kv.1.ne hb h.run.1 (by decide) e
    · exact h.kv.1.ne hb h.run.1 (by decide) e
  · exact hv2.upd hU3 fun b hb e => hv2.ne hb hr2 (by decide) e
  · exact ha2.imp_right fun ⟨y, e, hy⟩ => ⟨y, e, by have := hU1.size; omega⟩
end Go.Proofs.YtfpmgpblhhcpgaaGreat
