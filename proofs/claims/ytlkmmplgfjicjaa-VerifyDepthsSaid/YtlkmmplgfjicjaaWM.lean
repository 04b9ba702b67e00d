/-
  The law's helpers: picking, a routine, what an instruction touches.
-/
import Derived.Test.YtlkmmplgfjicjaaWG
import Derived.Test.YtlkmmplgfjicjaaHcLawB
namespace Go.Proofs.Ytlkmmplgfjicjaa
set_option linter.unusedVariables false
set_option linter.unusedSimpArgs false
open Go.Proofs.Ytlkmmplgfjicjaa.Hc Go.Proofs.Ytlkmmplgfjicjaa.Hc.Vf
set_option maxRecDepth 100000
variable {H : Heap}

theorem s_pick {c n : Int} (hc : I64 c) (hn : 0 < n) {k : Int → Heap → Prop} (hk : ∀ j : Nat, (j : Int) < n → k (j : Int) H) : CallT Pg f_hindcastlaw15_pick [.int .i64 c, .int .i64 n] (.one (.c (.int .i64))) H k := by
  refine c_hindcastlaw15_pick _ _ ?_
  unfold v_hindcastlaw15_pick
  unfold I64 at hc
  refine Jn.mk (fun j H' => H = H' ∧ 0 ≤ j) (fun kk hkk => ?_) ?_
  · refine Br_dec (fun h => ?_) fun h => hkk _ _ ⟨rfl, by omega⟩
    refine Lt.mk (u := c + 1) (wrap_i64_id (by omega) (by omega)) (hkk _ _ ⟨rfl, ?_⟩)
    rw [wrap_i64_id (by omega) (by omega)]; omega
  · rintro j _ ⟨rfl, hj⟩
    refine ⟨by omega, ?_⟩
    have h1 : 0 ≤ j.tmod n := Int.tmod_nonneg _ hj
    have h2 : j.tmod n < n := Int.tmod_lt_of_pos _ hn
    have := hk (j.tmod n).toNat (by omega)
    rwa [Int.toNat_of_nonneg h1] at this
theorem rou_at {r : Rou} {K : Heap → Prop} {b : Nat} {vs : List Value} (hr : Row H b T_api_Routine vs) (hv : vs.length = 4) (hK : ∀ H', Upd (· = b) H H' → H'.size = H.size → Row H' b T_api_Routine (rouV r) → K H') :
    St ((adr b).add 0) (.string r.name) H fun H3 => St ((adr b).add 1) (.int .i64 r.params) H3 fun H4 => St ((adr b).add 2) (.int .i64 r.locals) H4 fun H5 => St ((adr b).add 3) (slV r.sl) H5 fun H6 => K H6 := by
  simp only [adr_add]
  obtain ⟨v0, v1, v2, v3, rfl⟩ : ∃ v0 v1 v2 v3, vs = [v0, v1, v2, v3] := by
    match vs, hv with
    | [v0, v1, v2, v3], _ => exact ⟨v0, v1, v2, v3, rfl⟩
  refine St_row hr (by simp) fun H2 hU2 z2 hr2 => St_row hr2 (by simp) fun H3 hU3 z3 hr3 => St_row hr3 (by simp) fun H4 hU4 z4 hr4 => St_row hr4 (by simp) fun H5 hU5 z5 hr5 => ?_
  exact hK _ (((hU2.trans hU3 fun _ _ h => h).trans hU4 fun _ _ h => h).trans hU5 fun _ _ h => h) (by omega) hr5
theorem sys_rou' {a : Addr} {x : Sy} (h : hcells H a 0 (sysV x)) : hcells H (a.add 4) 0 (rouV x.rou) := by
  have : hcells H a 0 ([slV (x.s 0), slV (x.s 1), slV (x.s 2), slV (x.s 3)] ++ rouV x.rou) := h
  exact hcellsShift.1 (hcells_app.1 this).2
theorem s_routine {p : Sl × Sl} {ss : List Sy} {fs : List Rou} (hP : PrgR H p ss fs) {j : Nat} (hj : j < ss.length + fs.length) (hl : ss.length + fs.length ≤ 2 ^ 60) {k : (ByteArray × Int × Int × Sl) × Bool → Heap → Prop}
    (hk : ∀ H', Ext H H' → k ((((rousL ss fs)[j]!).name, ((rousL ss fs)[j]!).params, ((rousL ss fs)[j]!).locals, ((rousL ss fs)[j]!).sl), decide (j < ss.length)) H') : CallT Pg f_hindcastlaw15_routine [prgA p, .int .i64 (j : Nat)] (.tup [(.agg [.str, (.int .i64), (.int .i64), .sl]), (.c .bool)]) H k := by
  refine c_hindcastlaw15_routine p _ ?_
  unfold v_hindcastlaw15_routine
  refine Nw_row (vs := [slV p.1, slV p.2]) fun b1 H1 hb1 hE1 _ hr1 => Nw_row (vs := [.string ByteArray.empty, .int .i64 0, .int .i64 0, .slice none 0 0]) fun b2 H2 hb2 hE2 _ hr2 => ?_
  have hE2' := hE1.trans hE2 fun _ _ h => h
  have hp2 := hE2.row hr1 fun h => h
  have hsl := hP.sys.len
  have z1 := hE1.size
  have c0 : hcell H2 (adr b1) = some (slV p.1) := (hp2.cell 0).trans rfl
  have c1 : hcell H2 ⟨b1, 1, none⟩ = some (slV p.2) := (hp2.cell 1).trans rfl
  refine Ld_sl (s := p.1) c0 (Br_dec (fun hlt => ?_) fun hge => ?_)
  · have hj2 : j < ss.length := by omega
    refine Ld_sl (s := p.1) c0 (IxA_rn' sysV_len (hP.ext hE2').sys (by omega) (j := j) rfl hj2 fun a ha => ?_)
    rw [rous_sys hj2, decide_eq_true hj2] at hk
    refine ld_rou (sys_rou' ha) (rou_at (r := (ss[j]!).rou) hr2 rfl fun H6 hU6 _ hr6 => ld_rou (r := (ss[j]!).rou) (Row.rd_all hr6) (hk _ (extUpd hE2' (by omega) hU6)))
  · have hj2 : ss.length ≤ j := by omega
    have e : (rousL ss fs)[j]! = fs[j - ss.length]! := by
      have := rous_fun (ss := ss) (fs := fs) (x := j - ss.length) (by omega)
      rwa [show ss.length + (j - ss.length) = j by omega] at this
    rw [e, decide_eq_false (by omega)] at hk
    simp only [adr_add]
    refine Ld_sl (s := p.2) c1 (Ld_sl (s := p.1) c0 (Lt.mk (u := ((j - ss.length : Nat) : Int)) (by rw [wrap_i64_id] <;> omega) (IxA_rn' rouV_len (hP.ext hE2').fun' (by omega) (j := j - ss.length) rfl (by omega) fun a ha => ?_)))
    have := rou_at (r := fs[j - ss.length]!) (K := fun H6 => LdC [.str, (.int .i64), (.int .i64), .sl] (adr b2) H6 fun (c4 : ByteArray × Int × Int × Sl) => k (((c4.1, c4.2.1, c4.2.2.1, c4.2.2.2), false)) H6) hr2 rfl fun H6 hU6 _ hr6 => ld_rou (r := fs[j - ss.length]!) (Row.rd_all hr6) (hk _ (extUpd hE2' (by omega) hU6))
    simp only [adr_add] at this
    exact ld_rou ha this

def rwL : Option Sy → List (List Int)
  | some x => [x.l 2, x.l 3]
  | none => []
def wrL : Option Sy → List (List Int)
  | some x => [x.l 3]
  | none => []
/-- What an instruction that may be touches. -/
structure AccOk (ks : List Ki) (nf : Nat) (sy : Option Sy) (locals : Int) (op arg : Int) : Prop where
  outer : outerB op = true → sy.isSome = true
  var : op = 2 ∨ op = 3 → 0 ≤ arg ∧ arg < locals
  field : op = 4 → declB ks arg (rwL sy) = true
  put : op = 5 → declB ks arg (wrL sy) = true
  call : op = 21 → 0 ≤ arg ∧ arg < nf
  ret : op = 22 → sy = none
  part : op = 26 ∨ op = 28 → wholeB ks arg = true
  kind : op = 29 ∨ op = 35 → fieldsI ks arg ≥ 0
theorem acc_ok {ks : List Ki} {nf : Nat} {sy : Option Sy} {r : Rou} {n : Nat} (h : accB ks nf sy r n = true) : AccOk ks nf sy r.locals (r.code[n]!).1 (r.code[n]!).2 := by
  unfold accB at h
  generalize (r.code[n]!).1 = op at *
  generalize (r.code[n]!).2 = arg at *
  have h0 : (sy.isNone && outerB op) = false := by
    cases g : (sy.isNone && outerB op) with
    | false => rfl
    | true => rw [if_pos g] at h; cases h
  rw [if_neg (by rw [h0]; simp)] at h
  refine ⟨fun ho => ?_, fun e => ?_, fun e => ?_, fun e => ?_, fun e => ?_, fun e => ?_, fun e => ?_, fun e => ?_⟩
  · rw [ho, Bool.and_true] at h0
    cases sy with
    | none => cases h0
    | some y => rfl
  · rw [if_pos e] at h; simpa using h
  · subst e; cases sy <;> simpa [rwL, wrL] using h
  · subst e; cases sy <;> simpa [rwL, wrL] using h
  · subst e; simpa using h
  · subst e
    have : sy.isNone = true := by simpa using h
    simpa using this
  · rcases e with e | e
    · subst e
      simp at h; exact h.1
    · subst e; simpa using h
  · rcases e with e | e <;> subst e <;> simpa using h
theorem fieldsI_in {ks : List Ki} {n : Int} (h : 0 ≤ fieldsI ks n) : 1 ≤ n ∧ n ≤ ks.length ∧ fieldsI ks n = ((ks[(n - 1).toNat]!).l.length : Nat) := by
  unfold fieldsI at h ⊢
  split at h
  · rename_i g
    rw [if_pos g]
    exact ⟨g.1, g.2, rfl⟩
  · omega
/-- The fields' list of a kind. -/
theorem ld_fields {ksl : Sl} {ks : List Ki} (hK : KdsR H ksl ks) {t : Int} (h : 1 ≤ t ∧ t ≤ ks.length) {k : Nat → Prop} {kk : Sl → Prop} (hkk : ∀ s : Sl, s.len = (ks[(t - 1).toNat]!).l.length → kk s) :
    Lt (IntKind.wrap .i64 (t - 1)) fun t3 => IxA 2 ksl t3 fun a1 => Ld .sl (a1.add 1) H fun (x14 : Sl) => kk x14 := by
  have hlen := hK.len
  refine Lt.mk (u := (((t - 1).toNat : Nat) : Int)) (by rw [wrap_i64_id] <;> omega) (IxA_rn' kiV_len hK.rn (by omega) (j := (t - 1).toNat) rfl (by omega) fun a ha => ?_)
  have hm : ks[(t - 1).toNat]! ∈ ks := by rw [getElem!_pos ks _ (by omega)]; exact List.getElem_mem _
  refine Ld_sl (s := (ks[(t - 1).toNat]!).s) ?_ (hkk _ (hK.el _ hm).len)
  have := hcells_iff.1 ha 1 (by simp)
  simpa using this
/-- The law's own look at what an instruction touches. -/
theorem s_ltouches {p : Sl × Sl} {ksl : Sl} {ks : List Ki} {ss : List Sy} {fs : List Rou} (hP : PrgR H p ss fs) (hK : KdsR H ksl ks) {n : Nat} {r : Rou} (hr : CodeR H r) (hns : ss.length + fs.length ≤ 2 ^ 60) {j : Nat}
    (ha : accB ks fs.length (syAt ss n) r j = true) (hjb : ¬ jumpBad r.code j) {k : Bool → Heap → Prop} (hk : ∀ H', Ext H H' → k true H') :
    CallT Pg f_hindcastlaw15_touches [prgA p, .slice ksl.a ksl.len ksl.cap, rouA r, .bool (decide (n < ss.length)), .int .i64 (n : Nat), .agg #[.int .i64 (r.code[j]!).1, .int .i64 (r.code[j]!).2]] (.one (.c .bool)) H k := by
  refine c_hindcastlaw15_touches p _ (r.name, r.params, r.locals, r.sl) _ _ ((r.code[j]!).1, (r.code[j]!).2) ?_
  unfold v_hindcastlaw15_touches
  have hA := acc_ok ha
  have hjb' : (r.code[j]!).1 = 19 ∨ (r.code[j]!).1 = 20 → 0 ≤ (r.code[j]!).2 ∧ (r.code[j]!).2 < r.code.length := fun h => Classical.byContradiction fun g => hjb ⟨h, g⟩
  generalize (r.code[j]!).1 = op at *
  generalize (r.code[j]!).2 = arg at *
  refine Nw_row (vs := [slV p.1, slV p.2]) fun b1 H1 hb1 hE1 _ hr1 => Nw_row (vs := rouV r) fun b2 H2 hb2 hE2 _ hr2 => Nw_row (vs := [.int .i64 op, .int .i64 arg]) fun b3 H3 hb3 hE3 _ hr3 => ?_
  simp only [adr_add]
  have hE3' := (hE1.trans hE2 fun _ _ h => h).trans hE3 fun _ _ h => h
  have hp3 := hE3.row (hE2.row hr1 fun h => h) fun h => h
  have hq3 := hE3.row hr2 fun h => h
  have i0 : hcell H3 (adr b3) = some (.int .i64 op) := (hr3.cell 0).trans rfl
  have i1 : hcell H3 ⟨b3, 1, none⟩ = some (.int .i64 arg) := (hr3.cell 1).trans rfl
  have hk3 := hk _ hE3'
  have hK3 := hK.ext hE3'
  have hP3 := hP.ext hE3'
  have ysome : syAt ss n ≠ none → n < ss.length := fun h => Classical.byContradiction fun g => h (by unfold syAt; rw [if_neg g])
  have t3 : outerB op = true → decide (n < ss.length) = true := fun h => decide_eq_true (ysome fun e => by have := hA.outer h; rw [e] at this; cases this)
  refine Ld_int i1 ⟨by omega, Ld_int i1 ⟨by omega, Ld_int i0 ?_⟩⟩
  have orJ : ∀ {a b : Int} {kk : Bool → Heap → Prop}, kk (decide (op = a ∨ op = b)) H3 → Br (op == a) (kk true H3) (kk (op == b) H3) := fun {a b kk} h => Br.mk (fun g => by rw [decide_eq_true (.inl (beqI g))] at h; exact h) fun g => by
    have g := bneI g
    have : (op == b) = decide (op = a ∨ op = b) := by rw [Bool.eq_iff_iff, beq_iff_eq, decide_eq_true_eq]; omega
    rw [this]; exact h
  refine Jn.mk (fun j H' => H3 = H' ∧ j = decide (op = 2 ∨ op = 3)) (fun kk hkk => orJ (kk := kk) (hkk _ _ ⟨rfl, rfl⟩)) ?_
  rintro j' _ ⟨rfl, rfl⟩
  refine Br_dec (fun h => ?_) fun h23 => ?_
  · have g := hA.var h
    exact Jn_in (Ld_int i1 (Br_yes (by omega) (Ld_int i1 (Ld_int (n := r.locals) ((hq3.cell 2).trans rfl) (by rw [decide_eq_true g.2]; exact hk3)))))
  refine Br.mk (fun h => ?_) fun h21 => ?_
  · have g := hA.call (beqI h)
    exact Jn_in (Ld_int i1 (Br_yes (by omega) (Ld_int i1 (Ld_sl (s := p.2) ((hp3.cell 1).trans rfl) (by rw [hP.fun'.len, decide_eq_true g.2]; exact hk3)))))
  refine Jn.mk (fun j H' => H3 = H' ∧ j = decide (op = 19 ∨ op = 20)) (fun kk hkk => orJ (kk := kk) (hkk _ _ ⟨rfl, rfl⟩)) ?_
  rintro j' _ ⟨rfl, rfl⟩
  refine Br_dec (fun h => ?_) fun h1920 => ?_
  · have g := hjb' h
    exact Jn_in (Ld_int i1 (Br_yes (by omega) (Ld_int i1 (Ld_sl (s := r.sl) ((hq3.cell 3).trans rfl) (by rw [hr.len, decide_eq_true g.2]; exact hk3)))))
  refine Jn.mk (fun j H' => H3 = H' ∧ j = decide (op = 4 ∨ op = 5)) (fun kk hkk => orJ (kk := kk) (hkk _ _ ⟨rfl, rfl⟩)) ?_
  rintro j' _ ⟨rfl, rfl⟩
  refine Br_dec (fun h => ?_) fun h45 => ?_
  · -- Field, Put
    have ho : outerB op = true := by rcases h with e | e <;> subst e <;> decide
    have hn : n < ss.length := of_decide_eq_true (t3 ho)
    have hy : syAt ss n = some (ss[n]!) := by unfold syAt; rw [if_pos hn]
    have hd : (0 ≤ arg ∧ arg.tmod 8 < fieldsI ks (IntKind.wrap .i64 (arg.tdiv 8))) ∧ ((IntKind.wrap .i64 (arg.tdiv 8)) ∈ (ss[n]!).l 3 ∨ op = 4 ∧ (IntKind.wrap .i64 (arg.tdiv 8)) ∈ (ss[n]!).l 2) := by
      rcases h with e | e
      · have := hA.field e
        rw [hy] at this
        unfold declB rwL at this
        simp only [Bool.and_eq_true, decide_eq_true_eq, List.any_cons, List.any_nil, Bool.or_false, Bool.or_eq_true] at this
        exact ⟨this.1, this.2.symm.imp id fun g => ⟨e, g⟩⟩
      · have := hA.put e
        rw [hy] at this
        unfold declB wrL at this
        simp only [Bool.and_eq_true, decide_eq_true_eq, List.any_cons, List.any_nil, Bool.or_false] at this
        exact ⟨this.1, .inl this.2⟩
    obtain ⟨⟨hd1, hd2⟩, hd3⟩ := hd
    generalize IntKind.wrap .i64 (arg.tdiv 8) = t1 at *
    have hm0 : 0 ≤ arg.tmod 8 := Int.tmod_nonneg _ hd1
    have hfi := fieldsI_in (ks := ks) (n := t1) (by omega)
    rw [t3 ho]
    refine Jn_in ((Br_false _ _).2 (Ld_int i1 (Br_no (by omega) (Br_no (by omega) (Br_no (by rw [hK.rn.len]; omega) (ld_fields hK3 ⟨hfi.1, hfi.2.1⟩ (k := fun _ => True) fun s hs => ?_))))))
    rw [decide_eq_false (by rw [hs]; omega)]
    refine (Br_false _ _).2 (Ld_sl (s := p.1) ((hp3.cell 0).trans rfl) (IxA_rn' sysV_len hP3.sys (by omega) (j := n) rfl hn fun a ha => ld_sys ha (sys_copy (x := ss[n]!) fun b4 H19 hb4 hE4 hr4 => ?_)))
    have hmem : ss[n]! ∈ ss := by rw [getElem!_pos ss n hn]; exact List.getElem_mem hn
    have hS4 := (hP3.sysR _ hmem).ext hE4
    generalize ss[n]! = x at *
    have l3 := hS4.lens 3 (by omega)
    have l2 := hS4.lens 2 (by omega)
    have hs3 := hS4.sets 3 (by omega)
    have hs2 := hS4.sets 2 (by omega)
    have w3 : hcell H19 ⟨b4, 3, none⟩ = some (slV (x.s 3)) := (hr4.cell 3).trans rfl
    have w2 : hcell H19 ⟨b4, 2, none⟩ = some (slV (x.s 2)) := (hr4.cell 2).trans rfl
    have e3 := hs3.len
    have e2 := hs2.len
    refine LoopT.mk (fun (s : Bool × Int) H' => H19 = H' ∧ ∃ q : Nat, s.2 = q ∧ q ≤ (x.l 3).length ∧ s.1 = decide (t1 ∈ (x.l 3).take q)) (fun s _ => (x.l 3).length - s.2.toNat) ⟨rfl, 0, rfl, Nat.zero_le _, by simp⟩ ?_
    rintro next ⟨d, _⟩ _ ⟨rfl, q, rfl, hq, rfl⟩ hnext
    refine Ld_sl (s := x.s 3) w3 (Br_dec (fun hlt => ?_) fun hge => ?_)
    · have hq3 : q < (x.l 3).length := by omega
      have fin : ∀ b : Bool, b = decide (t1 ∈ (x.l 3).take (q + 1)) → Lt (IntKind.wrap .i64 ((q : Int) + 1)) fun t4 => next (b, t4) H19 := fun b hb => Lt.mk (u := ((q + 1 : Nat) : Int)) (by rw [wrap_i64_id] <;> omega) (hnext _ _ ⟨rfl, q + 1, rfl, hq3, hb⟩ (by dsimp only; omega))
      have ht : (x.l 3).take (q + 1) = (x.l 3).take q ++ [(x.l 3)[q]] := by rw [List.take_add_one, List.getElem?_eq_getElem hq3]; rfl
      refine Jn_in (Br_dec (fun g => fin true ?_) fun g => ?_)
      · rw [ht, decide_eq_true (List.mem_append.2 (.inl g))]
      · refine Ld_sl (s := x.s 3) w3 (IxA_rl hs3 rfl hq3 fun a3 ha3 => Ld_int ha3 (fin _ ?_))
        rw [ht, Bool.eq_iff_iff, beq_iff_eq, decide_eq_true_eq, List.mem_append, List.mem_singleton]
        exact ⟨fun e => .inr e.symm, fun e => (e.resolve_left g).symm⟩
    · have hqe : (x.l 3).take q = x.l 3 := List.take_of_length_le (by omega)
      rw [hqe]
      refine LoopT.mk (fun (s : Bool × Int) H' => H19 = H' ∧ ∃ q : Nat, s.2 = q ∧ q ≤ (x.l 2).length ∧ s.1 = decide (t1 ∈ x.l 3 ∨ op = 4 ∧ t1 ∈ (x.l 2).take q)) (fun s _ => (x.l 2).length - s.2.toNat) ⟨rfl, 0, rfl, Nat.zero_le _, by simp⟩ ?_
      rintro next2 ⟨d, _⟩ _ ⟨rfl, q2, rfl, hq2, rfl⟩ hnext2
      refine Ld_sl (s := x.s 2) w2 (Br_dec (fun hlt => ?_) fun hge2 => ?_)
      · have hq3 : q2 < (x.l 2).length := by omega
        have fin : ∀ b : Bool, b = decide (t1 ∈ x.l 3 ∨ op = 4 ∧ t1 ∈ (x.l 2).take (q2 + 1)) → Lt (IntKind.wrap .i64 ((q2 : Int) + 1)) fun t4 => next2 (b, t4) H19 := fun b hb => Lt.mk (u := ((q2 + 1 : Nat) : Int)) (by rw [wrap_i64_id] <;> omega) (hnext2 _ _ ⟨rfl, q2 + 1, rfl, hq3, hb⟩ (by dsimp only; omega))
        have ht : (x.l 2).take (q2 + 1) = (x.l 2).take q2 ++ [(x.l 2)[q2]] := by rw [List.take_add_one, List.getElem?_eq_getElem hq3]; rfl
        refine Jn_in (Br_dec (fun g => fin true ?_) fun g => ?_)
        · rw [ht, decide_eq_true (g.imp id fun g => ⟨g.1, List.mem_append.2 (.inl g.2)⟩)]
        · refine Ld_int (hE4.cell i0 fun h => h) (Br.mk (fun h4 => ?_) fun h4 => fin false ?_)
          · have h4 := beqI h4
            refine Ld_sl (s := x.s 2) w2 (IxA_rl hs2 rfl hq3 fun a3 ha3 => Ld_int ha3 (fin _ ?_))
            rw [ht, Bool.eq_iff_iff, beq_iff_eq, decide_eq_true_eq, List.mem_append, List.mem_singleton]
            exact ⟨fun e => .inr ⟨h4, .inr e.symm⟩, fun e => by
              rcases e with e | ⟨_, e | e⟩
              · exact absurd (.inl e) g
              · exact absurd (.inr ⟨h4, e⟩) g
              · exact e.symm⟩
          · have h4 := bneI h4
            rw [eq_comm, decide_eq_false_iff_not]
            exact fun e => e.elim (fun e => g (.inl e)) fun e => h4 e.1
      · have hqe : (x.l 2).take q2 = x.l 2 := List.take_of_length_le (by omega)
        rw [hqe, decide_eq_true hd3]
        exact hk _ (hE3'.trans hE4 fun _ _ h => h)
  refine Jn.mk (fun j H' => H3 = H' ∧ j = decide (op = 26 ∨ op = 28)) (fun kk hkk => orJ (kk := kk) (hkk _ _ ⟨rfl, rfl⟩)) ?_
  rintro j' _ ⟨rfl, rfl⟩
  refine Br_dec (fun h => ?_) fun h2628 => ?_
  · have ho : outerB op = true := by rcases h with e | e <;> subst e <;> decide
    have g := of_decide_eq_true (hA.part h)
    obtain ⟨hd1, hd2⟩ := g
    generalize IntKind.wrap .i64 (arg.tdiv 8) = t1 at *
    have hm0 : 0 ≤ arg.tmod 8 := Int.tmod_nonneg _ hd1
    have hfi := fieldsI_in (ks := ks) (n := t1) (by omega)
    rw [t3 ho]
    refine Jn_in ((Br_true _ _).2 (Ld_int i1 (Br_yes (by omega) (Br_yes (by omega) (Br_yes (by rw [hK.rn.len]; omega) (ld_fields hK3 ⟨hfi.1, hfi.2.1⟩ (k := fun _ => True) fun s hs => ?_))))))
    have : (arg.tmod 8 == (s.len : Int)) = true := by rw [beq_iff_eq, hs]; omega
    rw [this]; exact hk3
  refine Jn.mk (fun j H' => H3 = H' ∧ j = decide (op = 29 ∨ op = 35)) (fun kk hkk => orJ (kk := kk) (hkk _ _ ⟨rfl, rfl⟩)) ?_
  rintro j' _ ⟨rfl, rfl⟩
  refine Br_dec (fun h => ?_) fun h2935 => ?_
  · have ho : outerB op = true := by rcases h with e | e <;> subst e <;> decide
    have hfi := fieldsI_in (ks := ks) (n := arg) (hA.kind h)
    rw [t3 ho]
    refine Jn_in ((Br_true _ _).2 (Ld_int i1 (Br_yes (by omega) (Ld_int i1 ?_))))
    rw [decide_eq_true (by rw [hK.rn.len]; omega)]; exact hk3
  refine Jn.mk (fun j H' => H3 = H' ∧ (j = true → outerB op = true)) (fun kk hkk => ?_) ?_
  · refine Br.mk (fun g => hkk _ _ ⟨rfl, fun _ => by rw [beqI g]; decide⟩) fun _ => Jn_in (Br.mk (fun g => hkk _ _ ⟨rfl, fun _ => by rw [beqI g]; decide⟩) fun _ => hkk _ _ ⟨rfl, fun g => by rw [beqI g]; decide⟩)
  · rintro q _ ⟨rfl, hq⟩
    refine Br.mk (fun g => ?_) fun _ => hk3
    rw [t3 (hq g)]; exact hk3
end Go.Proofs.Ytlkmmplgfjicjaa
/-
  What Verify takes: the plain part.
-/
namespace Go.Proofs.Ytlkmmplgfjicjaa
set_option linter.unusedVariables false
set_option linter.unusedSimpArgs false
open Go.Proofs.Ytlkmmplgfjicjaa.Hc Go.Proofs.Ytlkmmplgfjicjaa.Hc.Vf
set_option maxRecDepth 100000
variable {H : Heap}

theorem may_len {ss : List Sy} {fs : List Rou} (h : MayP ss fs) {n : Nat} (hn : n < ss.length + fs.length) : ((rousL ss fs)[n]!).code.length ≤ 2000 := by
  have hl : (rousL ss fs).length = ss.length + fs.length := by rw [List.length_append, List.length_map]
  have hn2 : n < (rousL ss fs).length := by omega
  have e := sumL_succ hn2
  have e2 := sumL_take (rs := rousL ss fs) (n := n + 1)
  have e3 : sumL (rousL ss fs) = sumL (ss.map (·.rou)) + sumL fs := by unfold sumL; rw [List.map_append, List.sum_append]
  rw [getElem!_pos (rousL ss fs) n hn2]
  have := h.2.2.2.2
  omega
structure TakenI (ks : List Ki) (ss : List Sy) (fs : List Rou) (n : Nat) (r : Rou) : Prop where
  len : r.code.length ≤ 2000
  pos : 0 < r.code.length
  whole : wholeS r.code (parms fs) = .ok ()
  good : ∀ i, i < r.code.length → isReached r.code (parms fs) i → wr r.code (parms fs) i = 0
  calm : ∀ i, i < r.code.length → idleP r.code (parms fs) i → ¬ WayI r.code (parms fs) i i
  acc : ∀ j, j < r.code.length → accB ks fs.length (syAt ss n) r j = true
theorem taken_may {ks : List Ki} {ss : List Sy} {fs : List Rou} (h : verifyO ks ss fs = none) : MayP ss fs ∧ ∀ q, q < 4 → lookO ks ss fs q = none := by
  unfold verifyO at h
  split at h
  · split at h
    · rename_i hm
      refine ⟨hm, fun q hq => ?_⟩
      rw [List.findSome?_eq_none_iff] at h
      exact h q (List.mem_range.2 hq)
    · cases h
  · cases h
theorem taken_at {ks : List Ki} {ss : List Sy} {fs : List Rou} (h : verifyO ks ss fs = none) {n : Nat} (hn : n < ss.length + fs.length) : TakenI ks ss fs n ((rousL ss fs)[n]!) := by
  obtain ⟨hm, hl⟩ := taken_may h
  have h1 : touchO ks ss fs = none := hl 1 (by omega)
  have h3 : waysO ss fs = none := hl 3 (by omega)
  unfold waysO at h3
  have hw : (List.range (ss.length + fs.length)).findSome? (wholeI ss fs) = none := by
    cases g : (List.range (ss.length + fs.length)).findSome? (wholeI ss fs) with
    | none => rfl
    | some x => rw [g] at h3; cases h3
  rw [hw] at h3
  rw [List.findSome?_eq_none_iff] at hw h3
  have hwn := hw n (List.mem_range.2 hn)
  have htn : turnI ss fs n = none := h3 n (List.mem_range.2 hn)
  have hW : wholeS ((rousL ss fs)[n]!).code (parms fs) = .ok () := by
    unfold wholeI at hwn
    cases g : wholeS ((rousL ss fs)[n]!).code (parms fs) with
    | error ae => rw [g] at hwn; cases hwn
    | ok u => rfl
  obtain ⟨hpos, hgood⟩ := wholeS_ok hW
  refine ⟨may_len hm hn, hpos, hW, hgood, fun i hi hid hway => ?_, fun j hj => ?_⟩
  · unfold turnI at htn
    rw [Option.map_eq_none_iff, List.find?_range_eq_none] at htn
    have := htn i hi
    rw [turnB_t ⟨hid, hway⟩] at this
    cases this
  · have := touch_none h1 hn hj
    unfold tAt at this
    cases g : accB ks fs.length (syAt ss n) ((rousL ss fs)[n]!) j with
    | true => rfl
    | false => rw [g] at this; cases this
variable {c : List Ins} {ps : List Int}
theorem wr_fits {i d : Nat} (hw : wr c ps i = 0) (hr : Rch c ps i d) : fits ps c[i]! d ∧ (∀ e, Rch c ps i e → e = d) ∧ ¬ jumpBad c i := by
  have hj : ¬ jumpBad c i := fun h => by rw [wr_150 h] at hw; cases hw
  have hs : ¬ stackBad c ps i := fun h => by rw [wr_151 hj h] at hw; cases hw
  refine ⟨Classical.byContradiction fun g => hs (.inl ⟨d, hr, g⟩), fun e he => Classical.byContradiction fun g => hs (.inr ⟨e, d, he, hr, g⟩), hj⟩
/-- The instructions since a step. -/
structure Calm (c : List Ins) (ps : List Int) (at' : Nat) (L : List Nat) : Prop where
  nd : L.Nodup
  lt : ∀ x ∈ L, x < c.length
  way : ∀ x ∈ L, WayI c ps x at'
theorem Calm.nil (at' : Nat) : Calm c ps at' [] := ⟨List.nodup_nil, fun x hx => (by cases hx), fun x hx => (by cases hx)⟩
theorem Calm.add {i y : Nat} {L : List Nat} (h : Calm c ps i L) (hi : i < c.length) (hid : idleP c ps i) (hno : ¬ WayI c ps i i) (hy : (y : Int) ∈ nexts c i) : Calm c ps y (i :: L) := by
  refine ⟨List.nodup_cons.2 ⟨fun hm => hno (h.way i hm), h.nd⟩, fun x hx => ?_, fun x hx => ?_⟩
  · rcases List.mem_cons.1 hx with rfl | hx
    · exact hi
    · exact h.lt x hx
  · rcases List.mem_cons.1 hx with rfl | hx
    · exact .one ⟨hid, hy⟩
    · exact .more (h.way x hx) ⟨hid, hy⟩
theorem Calm.len {i : Nat} {L : List Nat} (h : Calm c ps i L) : L.length ≤ c.length := by
  have hsub : L.length ≤ (List.range c.length).length := h.nd.length_le_of_subset fun d hd => List.mem_range.2 (h.lt d hd)
  rwa [List.length_range] at hsub
theorem Calm.len' {i : Nat} {L : List Nat} (h : Calm c ps i L) (hi : i < c.length) (hno : ¬ WayI c ps i i) : (i :: L).length ≤ c.length := by
  have hsub : (i :: L).length ≤ (List.range c.length).length := (List.nodup_cons.2 ⟨fun hm => hno (h.way i hm), h.nd⟩).length_le_of_subset fun d hd => by
    rcases List.mem_cons.1 hd with rfl | hd
    · exact List.mem_range.2 hi
    · exact List.mem_range.2 (h.lt d hd)
  rwa [List.length_range] at hsub
end Go.Proofs.Ytlkmmplgfjicjaa
/-
  VerifyWalks, walked.
-/
namespace Go.Proofs.Ytlkmmplgfjicjaa
set_option linter.unusedVariables false
set_option linter.unusedSimpArgs false
open Go.Proofs.Ytlkmmplgfjicjaa.Hc Go.Proofs.Ytlkmmplgfjicjaa.Hc.Vf
set_option maxRecDepth 100000
variable {H : Heap}

theorem IfNil_ver {lo : Nat} {v : Value} {o : Option (Nat × Nat)} (h : VerOut lo H v o) {k : Bool → Prop} (hk : k o.isNone) : IfNil v k := by
  cases o with
  | none => exact .inl ⟨h, hk⟩
  | some ae => obtain ⟨g, rfl, _⟩ := h; exact .inr ⟨⟨_, _, rfl⟩, hk⟩
theorem s_VerifyWalks {p : Sl × Sl} {ksl : Sl} {ks : List Ki} {ss : List Sy} {fs : List Rou} (hP : PrgR H p ss fs) (hK : KdsR H ksl ks) (hI : ∀ x ∈ parms fs, I64 x) (hns : ss.length + fs.length ≤ 2 ^ 60) {which : Int} (hwh : I64 which) {ch : Sl} {cs : List Bool} (hch : RL Value.bool H ch cs)
    {k : Bool → Heap → Prop} (hk : ∀ H', Ext H H' → k true H') : CallT Pg f_hindcastlaw15_VerifyWalks [prgA p, .slice ksl.a ksl.len ksl.cap, .int .i64 which, .slice ch.a ch.len ch.cap] (.one (.c .bool)) H k := by
  refine c_hindcastlaw15_VerifyWalks p _ _ _ ?_
  unfold v_hindcastlaw15_VerifyWalks
  refine Nw_row (vs := [slV p.1, slV p.2]) fun b1 H1 hb1 hE1 _ hr1 => s_shown fun H2 hE2 => ?_
  have hE2' := hE1.trans hE2 fun _ _ h => h
  have hp2 := hE2.row hr1 fun h => h
  simp only [adr_add]
  refine ⟨p, hp2.rd_all, s_Verify (hP.ext hE2') (hK.ext hE2') hI fun v H3 hE3 hv => ?_⟩
  have hE3' := hE2'.trans hE3 fun _ _ h => h
  have hp3 := hE3.row hp2 fun h => h
  refine Jn.mk (fun j H' => H3 = H' ∧ j = !(verifyO ks ss fs).isNone) (fun kk hkk => (Br_false _ _).2 (IfNil_ver hv (hkk _ _ ⟨rfl, rfl⟩))) ?_
  rintro _ _ ⟨rfl, rfl⟩
  refine Br_not (Br.mk (fun hnone => ?_) fun _ => hk _ hE3')
  have hver : verifyO ks ss fs = none := by simpa using hnone
  have hsl := hP.sys.len
  have hfl := hP.fun'.len
  have q0 : ∀ {Hx}, Ext H3 Hx → hcell Hx (adr b1) = some (slV p.1) := fun hE => ((hE.row hp3 fun h => h).cell 0).trans rfl
  have q1 : ∀ {Hx}, Ext H3 Hx → hcell Hx ⟨b1, 1, none⟩ = some (slV p.2) := fun hE => ((hE.row hp3 fun h => h).cell 1).trans rfl
  have qr : ∀ {Hx}, Ext H3 Hx → hcells Hx (adr b1) 0 [slV p.1, slV p.2] := fun hE => (hE.row hp3 fun h => h).rd_all
  have e0 : Ext H3 H3 := .refl _ _
  refine Ld_sl (s := p.1) (q0 e0) (Ld_sl (s := p.2) (q1 e0) (Lt.mk (u := ((ss.length + fs.length : Nat) : Int)) (by rw [wrap_i64_id] <;> omega) (Br.mk (fun _ => hk _ hE3') fun hn0 => ?_)))
  have hn0 := bneI hn0
  refine s_pick hwh (by omega) fun n hn => ⟨p, qr e0, ?_⟩
  have hn2 : n < ss.length + fs.length := by omega
  have hPx : ∀ {Hx}, Ext H3 Hx → PrgR Hx p ss fs := fun hE => hP.ext (hE3'.trans hE fun _ _ h => h)
  have hKx : ∀ {Hx}, Ext H3 Hx → KdsR Hx ksl ks := fun hE => hK.ext (hE3'.trans hE fun _ _ h => h)
  refine s_routine (hPx e0) hn2 hns fun H6 hE6 => ?_
  have hT := taken_at hver hn2
  have hcr : CodeR H ((rousL ss fs)[n]!) := by
    have hn3 : n < (rousL ss fs).length := by rw [List.length_append, List.length_map]; exact hn2
    have hmem : (rousL ss fs)[n]! ∈ rousL ss fs := by rw [getElem!_pos (rousL ss fs) n hn3]; exact List.getElem_mem hn3
    rcases List.mem_append.1 hmem with g | g
    · obtain ⟨x, hx, e⟩ := List.mem_map.1 g
      rw [← e]; exact (hP.sysR x hx).code
    · exact hP.funR _ g
  generalize (rousL ss fs)[n]! = r at *
  refine rou_copy (x := r) fun b2 H11 hb2 hE11 hr11 => ?_
  have hE11' := hE6.trans hE11 fun _ _ h => h
  have hcx : ∀ {Hx}, Ext H3 Hx → CodeR Hx r := fun hE => hcr.ext (hE3'.trans hE fun _ _ h => h)
  refine ⟨p, qr hE11', ld_rou (r := r) hr11.rd_all (s_Depths (p := p) (r := r) (hcx hE11') (hPx hE11').fun' hI fun d H12 hE12 hd => ?_)⟩
  have hE12' := hE11'.trans hE12 fun _ _ h => h
  have hr12 := hE12.row hr11 fun h => h
  have hdl : depthsS r.code (parms fs) = .ok ((List.range r.code.length).map (depI r.code (parms fs))) := by rw [depthsS_eq, if_neg (by have := hT.len; omega), hT.whole]
  unfold DepOut at hd
  rw [hdl] at hd
  obtain ⟨hd1, hd2, _⟩ := hd
  have hd2l := hd2.len
  simp only [List.length_map, List.length_range] at hd2l
  have hrlen := (hcx hE12').len
  have hpos := hT.pos
  have hlen := hT.len
  have rs : ∀ {Hx}, Ext H12 Hx → hcell Hx ⟨b2, 3, none⟩ = some (slV r.sl) := fun hE => ((hE.row hr12 fun h => h).cell 3).trans rfl
  refine Jn.mk (fun j H' => H12 = H' ∧ j = false) (fun kk hkk => .inl ⟨hd1, (Br_false _ _).2 (Ld_sl (s := r.sl) (rs (.refl _ _)) ?_)⟩) ?_
  · rw [show ((d.1.len : Int) != (r.sl.len : Int)) = false by simp; omega]
    refine (Br_false _ _).2 (hkk _ _ ⟨rfl, ?_⟩)
    rw [beq_eq_false_iff_ne]; omega
  rintro _ _ ⟨rfl, rfl⟩
  refine (Br_false _ _).2 ?_
  refine LoopT.mk (fun (s : Int × Int × Int × Int × Int) H' => ∃ (at' deep turn i : Nat) (L : List Nat), s = ((at' : Int), (deep : Int), (L.length : Int), (turn : Int), (i : Int)) ∧ i ≤ 5000 ∧ turn ≤ i ∧ at' < r.code.length ∧ Ext H12 H' ∧ Rch r.code (parms fs) at' deep ∧ Calm r.code (parms fs) at' L) (fun s _ => 5000 - s.2.2.2.2.toNat)
    ⟨0, 0, 0, 0, [], rfl, by omega, by omega, hpos, .refl _ _, .zero, .nil 0⟩ ?_
  rintro next _ H14 ⟨at', deep, turn, i, L, rfl, hi, hti, hat, hE14, hR, hC⟩ hnext
  dsimp only
  refine Br_dec (fun hlt => ?_) fun hge => hk _ (hE3'.trans (hE12'.trans hE14 fun _ _ h => h) fun _ _ h => h)
  have hE14' := hE12'.trans hE14 fun _ _ h => h
  have hwr := hT.good at' hat ⟨deep, hR⟩
  obtain ⟨hfit, huni, hjb⟩ := wr_fits hwr hR
  have hdep := depI_of hR huni
  refine Jn_in ?_
  refine Jn.mk (fun j H' => H14 = H' ∧ j = false) (fun kk hkk => ?_) ?_
  · refine Br_no (by omega) (Ld_sl (s := r.sl) (rs hE14) (Br_no (by omega) ?_))
    refine IxA_vec (hd2.ext hE14) (by omega) (by simp; omega) fun a1 ha1 _ => Ld_int (n := depI r.code (parms fs) at') ?_ (hkk _ _ ⟨rfl, by rw [hdep]; simp⟩)
    rw [ha1, Int.toNat_natCast, ints_get (by simpa using hat)]
    simp [hat]
  rintro _ _ ⟨rfl, rfl⟩
  refine (Br_false _ _).2 (Ld_sl (s := r.sl) (rs hE14) (IxA_rn' insV_len (hcx hE14') (by omega) (j := at') rfl hat fun a2 ha2 => ⟨((r.code[at']!).1, (r.code[at']!).2), ha2, ?_⟩))
  have hacc := hT.acc at' hat
  have hA := acc_ok hacc
  have hid : (r.code[at']!).1 ≠ 24 → (r.code[at']!).1 ≠ 21 → idleP r.code (parms fs) at' := fun h1 h2 => ⟨⟨deep, hR⟩, h1, h2⟩
  have hcalm := hT.calm at' hat
  have hnin := nexts_in hat hwr
  have hbeh := behind_le hfit
  have htk := takes_bd (parms fs) (r.code[at']!)
  have hpt := puts_bd (r.code[at']!)
  have hfit' := hfit
  unfold fits at hfit'
  have hdp := (hR.bd hpos).2
  have hnx : nexts r.code at' = if (r.code[at']!).1 = 22 ∨ (r.code[at']!).1 = 23 then [] else if (r.code[at']!).1 = 19 then [(r.code[at']!).2] else if (r.code[at']!).1 = 20 then [(r.code[at']!).2, (at' : Int) + 1] else [(at' : Int) + 1] := rfl
  have hstep : ∀ y : Nat, (y : Int) ∈ nexts r.code at' → Rch r.code (parms fs) y (behind (parms fs) (r.code[at']!) deep) := fun y hy => .step hR ⟨hat, hfit, hy, by have := (hnin _ hy).2; omega, rfl⟩
  have htc : ∀ (Hx : Heap) (k' : Bool → Heap → Prop), Ext H3 Hx → (∀ H', Ext Hx H' → k' true H') → CallT Pg f_hindcastlaw15_touches [prgA p, .slice ksl.a ksl.len ksl.cap, rouA r, .bool (decide (n < ss.length)), .int .i64 (n : Nat), .agg #[.int .i64 (r.code[at']!).1, .int .i64 (r.code[at']!).2]] (.one (.c .bool)) Hx k' :=
    fun Hx k' hE hk' => s_ltouches (hPx hE) (hKx hE) (hcx hE) hns hacc hjb hk'
  generalize hins : r.code[at']! = x at *
  obtain ⟨op, arg⟩ := x
  dsimp only at hA hid hnx ⊢
  refine Nw_row (vs := [.int .i64 0, .int .i64 0]) fun b3 H17 hb3 hE17 _ hr17 => ?_
  refine St_row hr17 (by simp) fun H18 hU18 _ hr18 => St_row hr18 (by simp) fun H19 hU19 _ hr19 => ?_
  have hE19 : Ext H14 H19 := extUpd hE17 (by omega) (hU18.trans hU19 fun _ _ h => h)
  have hI19 : Row H19 b3 T_api_Instr [.int .i64 op, .int .i64 arg] := hr19
  have hE19' := hE14'.trans hE19 fun _ _ h => h
  refine ⟨(op, arg), hI19.rd_all, Ld_sl (s := p.2) (q1 hE19') (s_Effect (i := (op, arg)) (hPx hE19').fun' fun H20 hE20 => ?_)⟩
  have hE20' := hE19'.trans hE20 fun _ _ h => h
  have hI20 := hE20.row hI19 fun h => h
  refine Jn.mk (fun j H' => H20 = H' ∧ j = false) (fun kk hkk => Br_no (by omega) (Lt.mk (u := (deep : Int) - takes (parms fs) (op, arg)) (by rw [wrap_i64_id] <;> omega) (Lt.mk (u := ((behind (parms fs) (op, arg) deep : Nat) : Int)) (by rw [wrap_i64_id] <;> omega) (hkk _ _ ⟨rfl, ?_⟩)))) ?_
  · exact decide_eq_false (by omega)
  rintro _ _ ⟨rfl, rfl⟩
  have hrx : ∀ {Hx}, Ext H20 Hx → Row Hx b2 T_api_Routine (rouV r) := fun hE => ((hE14.trans (hE19.trans hE20 fun _ _ h => h) fun _ _ h => h).trans hE fun _ _ h => h).row hr12 fun h => h
  refine (Br_false _ _).2 ⟨p, qr hE20', ld_rou (r := r) (hrx (.refl _ _)).rd_all ⟨(op, arg), hI20.rd_all, ?_⟩⟩
  refine htc _ _ hE20' fun H22 hE22 => ?_
  have hE22' := hE20'.trans hE22 fun _ _ h => h
  have hE22a : Ext H12 H22 := hE14.trans ((hE19.trans hE20 fun _ _ h => h).trans hE22 fun _ _ h => h) fun _ _ h => h
  have hI22 := hE22.row hI20 fun h => h
  have i0 : hcell H22 (adr b3) = some (.int .i64 op) := (hI22.cell 0).trans rfl
  have i1 : hcell H22 ⟨b3, 1, none⟩ = some (.int .i64 arg) := (hI22.cell 1).trans rfl
  have hLl := hC.len
  refine (Br_false _ _).2 (Lt.mk (u := (deep : Int) - takes (parms fs) (op, arg)) (by rw [wrap_i64_id] <;> omega) (Lt.mk (u := ((behind (parms fs) (op, arg) deep : Nat) : Int)) (by rw [wrap_i64_id] <;> omega) (Lt.mk (u := ((L.length + 1 : Nat) : Int)) (by rw [wrap_i64_id] <;> omega) ?_)))
  refine Jn.mk (fun j H' => H22 = H' ∧ j = decide (op = 24 ∨ op = 21)) (fun kk hkk => Ld_int i0 (Br.mk (fun g => hkk _ _ ⟨rfl, by rw [decide_eq_true (.inl (beqI g))]⟩) fun g => Ld_int i0 (hkk _ _ ⟨rfl, ?_⟩))) ?_
  · have g := bneI g
    rw [Bool.eq_iff_iff, beq_iff_eq, decide_eq_true_eq]; omega
  rintro _ _ ⟨rfl, rfl⟩
  -- calm
  refine Jn.mk (fun (j : Int) H' => H22 = H' ∧ ∃ L' : List Nat, j = L'.length ∧ L'.length ≤ r.code.length ∧ ∀ y : Nat, (y : Int) ∈ nexts r.code at' → Calm r.code (parms fs) y L') (fun kk hkk => Br_dec (fun g => hkk _ _ ⟨rfl, [], rfl, by simp, fun y _ => .nil y⟩) fun g => ?_) ?_
  · have hidl := hid (fun e => g (.inl e)) (fun e => g (.inr e))
    exact hkk _ _ ⟨rfl, at' :: L, by simp, hC.len' hat (hcalm hidl), fun y hy => hC.add hat hidl (hcalm hidl) hy⟩
  rintro _ _ ⟨rfl, L', rfl, hL', hCn⟩
  refine Ld_sl (s := r.sl) (rs hE22a) (Br_no (by omega) (Lt.mk (u := ((at' + 1 : Nat) : Int)) (by rw [wrap_i64_id] <;> omega) (Ld_int i0 ?_)))
  -- going on
  have fin : ∀ (y turn' : Nat), (y : Int) ∈ nexts r.code at' → turn' ≤ i + 1 → Lt (IntKind.wrap .i64 ((i : Int) + 1)) fun t9 => next ((y : Int), ((behind (parms fs) (op, arg) deep : Nat) : Int), (L'.length : Int), (turn' : Int), t9) H22 := fun y turn' hy ht =>
    Lt.mk (u := ((i + 1 : Nat) : Int)) (by rw [wrap_i64_id] <;> omega) (hnext _ _ ⟨y, _, turn', i + 1, L', rfl, by omega, ht, by have := (hnin _ hy).2; omega, hE22a, hstep y hy, hCn y hy⟩ (by dsimp only; omega))
  refine Jn_in ?_
  refine Jn.mk (fun j H' => H22 = H' ∧ j = decide (op = 22 ∨ op = 23)) (fun kk hkk => Br.mk (fun g => hkk _ _ ⟨rfl, by rw [decide_eq_true (.inl (beqI g))]⟩) fun g => hkk _ _ ⟨rfl, ?_⟩) ?_
  · have g := bneI g
    rw [Bool.eq_iff_iff, beq_iff_eq, decide_eq_true_eq]; omega
  rintro _ _ ⟨rfl, rfl⟩
  refine Br_dec (fun g => ?_) fun g => ?_
  · refine Ld_int i0 ?_
    have hsy : syAt ss n = none ↔ ¬ n < ss.length := by
      unfold syAt; split <;> simp_all
    have : ((op == 23) == decide (n < ss.length)) = true := by
      rcases g with e | e
      · have := hsy.1 (hA.ret e)
        rw [decide_eq_false this, e]; rfl
      · have ho := hA.outer (by rw [e]; decide)
        have : n < ss.length := Classical.byContradiction fun g => by rw [hsy.2 g] at ho; cases ho
        rw [decide_eq_true this, e]; rfl
    rw [this]
    exact hk _ (hE3'.trans hE22' fun _ _ h => h)
  · rw [if_neg g] at hnx
    refine Jn_in (Br.mk (fun h19 => ?_) fun h19 => ?_)
    · have h19 := beqI h19
      rw [if_pos h19] at hnx
      obtain ⟨y, hy⟩ : ∃ y : Nat, arg = y := ⟨_, (Int.toNat_of_nonneg (hnin arg (by rw [hnx]; simp)).1).symm⟩
      subst hy
      exact Ld_int i1 (fin y turn (by rw [hnx]; simp) (by omega))
    · have h19 := bneI h19
      rw [if_neg h19] at hnx
      refine Jn_in (Br.mk (fun h20 => ?_) fun h20 => ?_)
      · have h20 := beqI h20
        rw [if_pos h20] at hnx
        obtain ⟨y, hy⟩ : ∃ y : Nat, arg = y := ⟨_, (Int.toNat_of_nonneg (hnin arg (by rw [hnx]; simp)).1).symm⟩
        subst hy
        refine Jn.mk (fun (_ : Bool) H' => H22 = H') (fun kk hkk => Br_dec (fun hl => ?_) fun _ => hkk _ _ rfl) ?_
        · have hch' := hch.ext (hE3'.trans hE22' fun _ _ h => h)
          have hcl := hch.len
          refine IxA_rl hch' (j := turn) rfl (by omega) fun a3 ha3 => Ld_bool ha3 (hkk _ _ rfl)
        rintro q _ rfl
        refine Jn.mk (fun (j : Int) H' => H22 = H' ∧ ∃ z : Nat, j = z ∧ (z : Int) ∈ nexts r.code at') (fun kk hkk => Br.mk (fun _ => Ld_int i1 (hkk _ _ ⟨rfl, y, rfl, by rw [hnx]; simp⟩)) fun _ => hkk _ _ ⟨rfl, at' + 1, rfl, by rw [hnx]; simp⟩) ?_
        rintro _ _ ⟨rfl, z, rfl, hz⟩
        exact Lt.mk (u := ((turn + 1 : Nat) : Int)) (by rw [wrap_i64_id] <;> omega) (fin z (turn + 1) hz (by omega))
      · have h20 := bneI h20
        rw [if_neg h20] at hnx
        exact fin (at' + 1) turn (by rw [hnx]; simp) (by omega)
end Go.Proofs.Ytlkmmplgfjicjaa
/-
  The arguments of Verify's laws; VerifyWalks over any that can be read.
-/
namespace Go.Proofs.Ytlkmmplgfjicjaa
set_option linter.unusedVariables false
set_option linter.unusedSimpArgs false
open Go.Proofs.Ytlkmmplgfjicjaa.Hc Go.Proofs.Ytlkmmplgfjicjaa.Hc.Vf
set_option maxRecDepth 100000

theorem rdC_string {P : Program} {t : TypeId} (hu : P.underlying t = some .string) {H : Heap} {f : Nat} {cs : List Value} (h : RdC P H f t cs) : ∃ s : ByteArray, cs = [.string s] ∧ s.size ≤ reachBytes := by
  cases f with
  | zero => exact h.elim
  | succ f => simp only [RdC, hu] at h; exact h
theorem rdC_bool {P : Program} {t : TypeId} (hu : P.underlying t = some .bool) {H : Heap} {f : Nat} {cs : List Value} (h : RdC P H f t cs) : ∃ b : Bool, cs = [.bool b] := by
  cases f with
  | zero => exact h.elim
  | succ f => simp only [RdC, hu] at h; exact h
/-- A slice argument of elements of n cells each. -/
theorem rdC_rows {P : Program} {t e : TypeId} (hu : P.underlying t = some (.slice e)) {n : Nat} (hce : P.cellsOf e = n) {α : Type} {g : α → List Value} (hg : ∀ x, (g x).length = n) {Q : α → Prop} {H : Heap} (hR : ∀ f cs, RdC P H f e cs → ∃ x, cs = g x ∧ Q x) {f : Nat} {v : Value} (h : RdC P H f t [v]) :
    ∃ (s : Sl) (xs : List α), v = .slice s.a s.len s.cap ∧ RN g n H s xs ∧ (∀ x ∈ xs, Q x) ∧ s.cap * P.bytesOf e ≤ reachBytes := by
  obtain ⟨s, xs, h1, h2, h3, h4, h5, h6⟩ := rdC_elems hu hce (R := fun cs x => cs = g x ∧ Q x) hR h
  refine ⟨s, xs, h1, RN.of_elems hg h2 h3 fun i hi => ?_, fun x hx => ?_, h4⟩
  · obtain ⟨a, ha, cs, _, k2, k3, _⟩ := h6 i hi
    subst k3; exact ⟨a, ha, k2⟩
  · obtain ⟨i, hi, rfl⟩ := List.getElem_of_mem hx
    obtain ⟨_, _, _, _, _, _, k⟩ := h6 i hi
    exact k
theorem list2_api_Program {cs : List Value} (h : cs.length = 2) : ∃ x0 x1, cs = [x0, x1] := by
  match cs, h with
  | [x0, x1], _ => exact ⟨x0, x1, rfl⟩
theorem rdS_api_Program {H : Heap} {f : Nat} {cs : List Value} (h : RdC Try.prog H f 25 cs) : ∃ x0 x1, cs = [x0, x1] ∧ ∃ f', RdC Try.prog H f' 22 [x0] ∧ RdC Try.prog H f' 23 [x1] := by
  obtain ⟨f', hl, hall⟩ := rdC_struct Try.underlying25 h
  obtain ⟨x0, x1, rfl⟩ := list2_api_Program (hl.trans (by kernel_rfl))
  simp only [List.mem_cons, List.not_mem_nil, or_false, forall_eq_or_imp, forall_eq] at hall
  have c22 : Try.prog.cellsOf 22 = 1 := by kernel_rfl
  have c23 : Try.prog.cellsOf 23 = 1 := by kernel_rfl
  obtain ⟨h0, h1⟩ := hall
  exact ⟨x0, x1, rfl, f', by simpa [c22] using h0, by simpa [c23] using h1⟩
theorem list4_api_Routine {cs : List Value} (h : cs.length = 4) : ∃ x0 x1 x2 x3, cs = [x0, x1, x2, x3] := by
  match cs, h with
  | [x0, x1, x2, x3], _ => exact ⟨x0, x1, x2, x3, rfl⟩
theorem rdS_api_Routine {H : Heap} {f : Nat} {cs : List Value} (h : RdC Try.prog H f 28 cs) : ∃ x0 x1 x2 x3, cs = [x0, x1, x2, x3] ∧ ∃ f', RdC Try.prog H f' 9 [x0] ∧ RdC Try.prog H f' 3 [x1] ∧ RdC Try.prog H f' 3 [x2] ∧ RdC Try.prog H f' 26 [x3] := by
  obtain ⟨f', hl, hall⟩ := rdC_struct Try.underlying28 h
  obtain ⟨x0, x1, x2, x3, rfl⟩ := list4_api_Routine (hl.trans (by kernel_rfl))
  simp only [List.mem_cons, List.not_mem_nil, or_false, forall_eq_or_imp, forall_eq] at hall
  have c3 : Try.prog.cellsOf 3 = 1 := by kernel_rfl
  have c9 : Try.prog.cellsOf 9 = 1 := by kernel_rfl
  have c26 : Try.prog.cellsOf 26 = 1 := by kernel_rfl
  obtain ⟨h0, h1, h2, h3⟩ := hall
  exact ⟨x0, x1, x2, x3, rfl, f', by simpa [c9] using h0, by simpa [c3] using h1, by simpa [c3] using h2, by simpa [c26] using h3⟩
theorem list2_api_Instr {cs : List Value} (h : cs.length = 2) : ∃ x0 x1, cs = [x0, x1] := by
  match cs, h with
  | [x0, x1], _ => exact ⟨x0, x1, rfl⟩
theorem rdS_api_Instr {H : Heap} {f : Nat} {cs : List Value} (h : RdC Try.prog H f 47 cs) : ∃ x0 x1, cs = [x0, x1] ∧ ∃ f', RdC Try.prog H f' 3 [x0] ∧ RdC Try.prog H f' 2 [x1] := by
  obtain ⟨f', hl, hall⟩ := rdC_struct Try.underlying47 h
  obtain ⟨x0, x1, rfl⟩ := list2_api_Instr (hl.trans (by kernel_rfl))
  simp only [List.mem_cons, List.not_mem_nil, or_false, forall_eq_or_imp, forall_eq] at hall
  have c2 : Try.prog.cellsOf 2 = 1 := by kernel_rfl
  have c3 : Try.prog.cellsOf 3 = 1 := by kernel_rfl
  obtain ⟨h0, h1⟩ := hall
  exact ⟨x0, x1, rfl, f', by simpa [c3] using h0, by simpa [c2] using h1⟩
theorem list8_api_System {cs : List Value} (h : cs.length = 8) : ∃ x0 x1 x2 x3 x4 x5 x6 x7, cs = [x0, x1, x2, x3, x4, x5, x6, x7] := by
  match cs, h with
  | [x0, x1, x2, x3, x4, x5, x6, x7], _ => exact ⟨x0, x1, x2, x3, x4, x5, x6, x7, rfl⟩
theorem rdS_api_System {H : Heap} {f : Nat} {cs : List Value} (h : RdC Try.prog H f 60 cs) : ∃ x0 x1 x2 x3 x4 x5 x6 x7, cs = [x0, x1, x2, x3, x4, x5, x6, x7] ∧ ∃ f', RdC Try.prog H f' 32 [x0] ∧ RdC Try.prog H f' 32 [x1] ∧ RdC Try.prog H f' 32 [x2] ∧ RdC Try.prog H f' 32 [x3] ∧ RdC Try.prog H f' 28 [x4, x5, x6, x7] := by
  obtain ⟨f', hl, hall⟩ := rdC_struct Try.underlying60 h
  obtain ⟨x0, x1, x2, x3, x4, x5, x6, x7, rfl⟩ := list8_api_System (hl.trans (by kernel_rfl))
  simp only [List.mem_cons, List.not_mem_nil, or_false, forall_eq_or_imp, forall_eq] at hall
  have c28 : Try.prog.cellsOf 28 = 4 := by kernel_rfl
  have c32 : Try.prog.cellsOf 32 = 1 := by kernel_rfl
  obtain ⟨h0, h1, h2, h3, h4⟩ := hall
  exact ⟨x0, x1, x2, x3, x4, x5, x6, x7, rfl, f', by simpa [c32] using h0, by simpa [c32] using h1, by simpa [c32] using h2, by simpa [c32] using h3, by simpa [c28] using h4⟩
theorem list2_api_Kind {cs : List Value} (h : cs.length = 2) : ∃ x0 x1, cs = [x0, x1] := by
  match cs, h with
  | [x0, x1], _ => exact ⟨x0, x1, rfl⟩
theorem rdS_api_Kind {H : Heap} {f : Nat} {cs : List Value} (h : RdC Try.prog H f 101 cs) : ∃ x0 x1, cs = [x0, x1] ∧ ∃ f', RdC Try.prog H f' 9 [x0] ∧ RdC Try.prog H f' 99 [x1] := by
  obtain ⟨f', hl, hall⟩ := rdC_struct Try.underlying101 h
  obtain ⟨x0, x1, rfl⟩ := list2_api_Kind (hl.trans (by kernel_rfl))
  simp only [List.mem_cons, List.not_mem_nil, or_false, forall_eq_or_imp, forall_eq] at hall
  have c9 : Try.prog.cellsOf 9 = 1 := by kernel_rfl
  have c99 : Try.prog.cellsOf 99 = 1 := by kernel_rfl
  obtain ⟨h0, h1⟩ := hall
  exact ⟨x0, x1, rfl, f', by simpa [c9] using h0, by simpa [c99] using h1⟩
/-- What a program that was handed in is. -/
structure RouI (H : Heap) (r : Rou) : Prop where
  code : CodeR H r
  len : r.code.length ≤ 2 ^ 43
  par : I64 r.params
  loc : I64 r.locals
  ins : ∀ i ∈ r.code, I64 i.1 ∧ I64 i.2
  name : r.name.size ≤ 2 ^ 47
structure SyI (H : Heap) (x : Sy) : Prop where
  sets : ∀ q, q < 4 → RL (Value.int .i64) H (x.s q) (x.l q)
  lens : ∀ q, q < 4 → (x.l q).length ≤ 2 ^ 44
  ints : ∀ q, q < 4 → ∀ y ∈ x.l q, I64 y
  rou : RouI H x.rou
structure PrgI (H : Heap) (p : Sl × Sl) (ss : List Sy) (fs : List Rou) : Prop where
  sys : RN sysV 8 H p.1 ss
  sysR : ∀ x ∈ ss, SyI H x
  fun' : RN rouV 4 H p.2 fs
  funR : ∀ r ∈ fs, RouI H r
  sl : ss.length * 152 ≤ 2 ^ 47
  fl : fs.length * 56 ≤ 2 ^ 47
theorem PrgI.prg {H : Heap} {p : Sl × Sl} {ss : List Sy} {fs : List Rou} (h : PrgI H p ss fs) : PrgR H p ss fs :=
  ⟨h.sys, fun x hx => ⟨(h.sysR x hx).sets, (h.sysR x hx).rou.code, fun q hq => by have := (h.sysR x hx).lens q hq; omega, by have := (h.sysR x hx).rou.len; omega⟩, h.fun', fun r hr => (h.funR r hr).code, fun r hr => by have := (h.funR r hr).len; omega⟩
theorem PrgI.par {H : Heap} {p : Sl × Sl} {ss : List Sy} {fs : List Rou} (h : PrgI H p ss fs) : ∀ x ∈ parms fs, I64 x := fun x hx => by
  obtain ⟨r, hr, rfl⟩ := List.mem_map.1 hx
  exact (h.funR r hr).par
theorem b47 : Try.prog.bytesOf 47 = 16 := by kernel_rfl
theorem rdC_rou {H : Heap} {f : Nat} {cs : List Value} (h : RdC Try.prog H f 28 cs) : ∃ r : Rou, cs = rouV r ∧ RouI H r := by
  have c47 : Try.prog.cellsOf 47 = 2 := by kernel_rfl
  obtain ⟨x0, x1, x2, x3, rfl, f', h0, h1, h2, h3⟩ := rdS_api_Routine h
  obtain ⟨n, e0, hn⟩ := rdC_string Try.underlying9 h0
  obtain ⟨a, e1, ha⟩ := rdC_i64 Try.underlying3 h1
  obtain ⟨b, e2, hb⟩ := rdC_i64 Try.underlying3 h2
  obtain ⟨s, xs, e3, hs, hx, hc⟩ := rdC_rows Try.underlying26 c47 insV_len (Q := fun i => I64 i.1 ∧ I64 i.2) (fun f cs hh => by
    obtain ⟨y0, y1, rfl, f', g0, g1⟩ := rdS_api_Instr hh
    obtain ⟨a, e0, ha⟩ := rdC_i64 Try.underlying3 g0
    obtain ⟨b, e1, hb⟩ := rdC_i64 Try.underlying2 g1
    simp only [List.cons.injEq, and_true] at e0 e1
    subst e0 e1
    exact ⟨(a, b), rfl, ha, hb⟩) h3
  simp only [List.cons.injEq, and_true] at e0 e1 e2
  subst e0 e1 e2 e3
  refine ⟨⟨n, a, b, s, xs⟩, rfl, hs, ?_, ha, hb, hx, by have := reach47; show n.size ≤ _; omega⟩
  rw [b47] at hc
  have h1 := hs.len
  have h2 := hs.cap
  have := reach47
  show xs.length ≤ _
  omega
theorem rdC_set {H : Heap} {f : Nat} {v : Value} (h : RdC Try.prog H f 32 [v]) : ∃ (s : Sl) (xs : List Int), v = slV s ∧ RL (Value.int .i64) H s xs ∧ (∀ x ∈ xs, I64 x) ∧ xs.length ≤ 2 ^ 44 := by
  have c3 : Try.prog.cellsOf 3 = 1 := by kernel_rfl
  have b3 : Try.prog.bytesOf 3 = 8 := by kernel_rfl
  obtain ⟨s, xs, e, h1, h2, h3, h4⟩ := rdC_ints Try.underlying32 Try.underlying3 c3 h
  rw [b3] at h3
  refine ⟨s, xs, e, h1, h2, ?_⟩
  have := h1.len; have := h1.cap; have := reach47; omega
def pick4 {α : Type} (a b c d : α) (q : Nat) : α := if q = 0 then a else if q = 1 then b else if q = 2 then c else d
theorem rdC_sys {H : Heap} {f : Nat} {cs : List Value} (h : RdC Try.prog H f 60 cs) : ∃ x : Sy, cs = sysV x ∧ SyI H x := by
  obtain ⟨x0, x1, x2, x3, x4, x5, x6, x7, rfl, f', h0, h1, h2, h3, h4⟩ := rdS_api_System h
  obtain ⟨s0, l0, rfl, r0, i0, n0⟩ := rdC_set h0
  obtain ⟨s1, l1, rfl, r1, i1, n1⟩ := rdC_set h1
  obtain ⟨s2, l2, rfl, r2, i2, n2⟩ := rdC_set h2
  obtain ⟨s3, l3, rfl, r3, i3, n3⟩ := rdC_set h3
  obtain ⟨r, e, hr⟩ := rdC_rou h4
  simp only [List.cons.injEq, and_true] at e
  obtain ⟨rfl, rfl, rfl, rfl⟩ := e
  refine ⟨⟨pick4 s0 s1 s2 s3, pick4 l0 l1 l2 l3, r⟩, rfl, fun q hq => ?_, fun q hq => ?_, fun q hq => ?_, hr⟩
  all_goals
    match q, hq with
    | 0, _ => assumption
    | 1, _ => assumption
    | 2, _ => assumption
    | 3, _ => assumption
theorem rd_prog {H : Heap} {v : Value} (h : RdV Try.prog H 25 v) : ∃ (p : Sl × Sl) (ss : List Sy) (fs : List Rou), v = prgA p ∧ PrgI H p ss fs := by
  have c60 : Try.prog.cellsOf 60 = 8 := by kernel_rfl
  have c28 : Try.prog.cellsOf 28 = 4 := by kernel_rfl
  have b60 : Try.prog.bytesOf 60 = 152 := by kernel_rfl
  have b28 : Try.prog.bytesOf 28 = 56 := by kernel_rfl
  obtain ⟨f, cs, rfl, hr⟩ := rd_struct Try.underlying25 h
  obtain ⟨x0, x1, e, f', h0, h1⟩ := rdS_api_Program hr
  obtain ⟨s, ss, rfl, hs, hx, hc⟩ := rdC_rows Try.underlying22 c60 sysV_len (fun f cs hh => rdC_sys hh) h0
  obtain ⟨t, fs, rfl, ht, hy, hd⟩ := rdC_rows Try.underlying23 c28 rouV_len (fun f cs hh => rdC_rou hh) h1
  rw [b60] at hc
  rw [b28] at hd
  have := reach47
  have g1 := hs.len
  have g2 := hs.cap
  have g3 := ht.len
  have g4 := ht.cap
  subst e
  exact ⟨(s, t), ss, fs, rfl, hs, hx, ht, hy, by omega, by omega⟩
theorem rd_kinds {H : Heap} {v : Value} (h : RdV Try.prog H 49 v) : ∃ (s : Sl) (ks : List Ki), v = slV s ∧ KdsR H s ks := by
  have c101 : Try.prog.cellsOf 101 = 2 := by kernel_rfl
  have b101 : Try.prog.bytesOf 101 = 40 := by kernel_rfl
  have c9 : Try.prog.cellsOf 9 = 1 := by kernel_rfl
  have b9 : Try.prog.bytesOf 9 = 16 := by kernel_rfl
  obtain ⟨f, hc⟩ := rd_cell Try.underlying49 rfl h
  have := reach47
  obtain ⟨s, ks, e, h1, h2, h3⟩ := rdC_rows Try.underlying49 c101 kiV_len (Q := fun x : Ki => RL Value.string H x.s x.l ∧ x.l.length ≤ 2 ^ 60 ∧ (∀ y ∈ x.l, y.size ≤ 2 ^ 60) ∧ x.name.size ≤ 2 ^ 60) (fun f cs hh => by
    obtain ⟨y0, y1, rfl, f', g0, g1⟩ := rdS_api_Kind hh
    obtain ⟨n, e0, hn⟩ := rdC_string Try.underlying9 g0
    obtain ⟨t, xs, e1, ht, hq, hcap, _⟩ := rdC_list Try.underlying99 c9 (g := Value.string) (Q := fun y : ByteArray => y.size ≤ 2 ^ 60) (fun f cs hh => by
      obtain ⟨n, e0, hn⟩ := rdC_string Try.underlying9 hh
      exact ⟨n, e0, by omega⟩) g1
    simp only [List.cons.injEq, and_true] at e0
    subst e0 e1
    rw [b9] at hcap
    have g1 := ht.len
    have g2 := ht.cap
    exact ⟨⟨n, t, xs⟩, rfl, ht, by show xs.length ≤ _; omega, hq, by show n.size ≤ _; omega⟩) hc
  rw [b101] at h3
  have g1 := h1.len
  have g2 := h1.cap
  exact ⟨s, ks, e, h1, fun x hx => (h2 x hx).1, fun x hx => (h2 x hx).2.1, fun x hx => (h2 x hx).2.2.1, fun x hx => (h2 x hx).2.2.2, by omega⟩
theorem rd_bools {H : Heap} {v : Value} (h : RdV Try.prog H 50 v) : ∃ (s : Sl) (bs : List Bool), v = slV s ∧ RL Value.bool H s bs := by
  have c4 : Try.prog.cellsOf 4 = 1 := by kernel_rfl
  obtain ⟨f, hc⟩ := rd_cell Try.underlying50 rfl h
  obtain ⟨s, xs, e, h1, _⟩ := rdC_list Try.underlying50 c4 (g := Value.bool) (Q := fun _ => True) (fun f cs hh => by
    obtain ⟨b, e⟩ := rdC_bool Try.underlying4 hh
    exact ⟨b, e, trivial⟩) hc
  exact ⟨s, xs, e, h1⟩
theorem w_VerifyWalks {H : Heap} (v0 v1 v2 v3 : Value) (r0 : RdV Try.prog H 25 v0) (r1 : RdV Try.prog H 49 v1) (r2 : RdV Try.prog H 3 v2) (r3 : RdV Try.prog H 50 v3) :
    CallT Try.prog 4 [v0, v1, v2, v3] (.one (.c .bool)) H (fun b H' => b = true ∧ Ext H H') := by
  obtain ⟨p, ss, fs, rfl, hP⟩ := rd_prog r0
  obtain ⟨ksl, ks, rfl, hK⟩ := rd_kinds r1
  obtain ⟨n, rfl, hn⟩ := rd_i64 Try.underlying3 r2
  obtain ⟨s, bs, rfl, hb⟩ := rd_bools r3
  have := hP.sl
  have := hP.fl
  exact s_VerifyWalks hP.prg hK hP.par (by omega) hn hb fun H' h => ⟨rfl, h⟩
end Go.Proofs.Ytlkmmplgfjicjaa
/-
  A program that is lent: copies with something behind each list.
-/
namespace Go.Proofs.Ytlkmmplgfjicjaa
set_option linter.unusedVariables false
set_option linter.unusedSimpArgs false
open Go.Proofs.Ytlkmmplgfjicjaa.Hc Go.Proofs.Ytlkmmplgfjicjaa.Hc.Vf
set_option maxRecDepth 100000
variable {H : Heap}

theorem Vec.updT {M : Nat → Prop} {H' : Heap} (hu : Upd M H H') {T : TypeId} {s : Sl} {vs : List Value} (h : Vec H T s vs) (hn : ∀ b ws, Row H b T ws → ¬ M b) : Vec H' T s vs := h.upd hu fun b hb => by
  rcases h.own with ⟨g, _⟩ | ⟨c, sp, g1, g2, _⟩
  · rw [g] at hb; cases hb
  · rw [g1] at hb; cases hb; exact hn _ _ g2
theorem VecN.updT {M : Nat → Prop} {H' : Heap} (hu : Upd M H H') {T : TypeId} {n : Nat} {s : Sl} {vs : List Value} (h : VecN H T n s vs) (hn : ∀ b ws, Row H b T ws → ¬ M b) : VecN H' T n s vs := h.upd hu fun b hb => by
  rcases h.own with ⟨g, _⟩ | ⟨c, sp, g1, g2, _⟩
  · rw [g] at hb; cases hb
  · rw [g1] at hb; cases hb; exact hn _ _ g2
theorem VecN.row {T : TypeId} {n : Nat} {s : Sl} {vs : List Value} (h : VecN H T n s vs) {b : Nat} (hb : s.a = some (adr b)) : ∃ ws, Row H b T ws := by
  rcases h.own with ⟨g, _⟩ | ⟨c, sp, g1, g2, _⟩
  · rw [g] at hb; cases hb
  · rw [g1] at hb; cases hb; exact ⟨_, g2⟩
/-- A lent set: two more numbers behind it. -/
structure LSet (H : Heap) (s : Sl) (xs : List Int) : Prop where
  vec : Vec H T_int ⟨s.a, xs.length + 2, s.cap⟩ (ints (xs ++ [77, 77]))
  len : s.len = xs.length
/-- A lent row: eight more instructions behind it. -/
structure LRow (H : Heap) (s : Sl) (c : List Ins) : Prop where
  vec : VecN H T_api_Instr 2 ⟨s.a, c.length + 8, s.cap⟩ ((c ++ List.replicate 8 ((77, 0) : Ins)).flatMap insV)
  len : s.len = c.length
theorem LSet.rl {s : Sl} {xs : List Int} (h : LSet H s xs) : RL (Value.int .i64) H s xs := by
  have hl := h.vec.lc
  dsimp only at hl
  have := h.vec.pre (n := xs.length) (c := s.cap) (by simp) (Nat.le_refl _) (by omega)
  have e : (ints (xs ++ [77, 77])).take xs.length = ints xs := by unfold ints; rw [List.map_append, List.take_left' (by simp)]
  rw [e] at this
  have hr := Vec.rl (f := Value.int .i64) this
  rw [← h.len] at hr
  exact hr
theorem LRow.rn {s : Sl} {c : List Ins} (h : LRow H s c) : RN insV 2 H s c := by
  have hl := h.vec.lc
  dsimp only at hl
  have := vecN_pre h.vec (j := c.length) (c := s.cap) (by dsimp only; omega) (by omega) (Nat.le_refl _)
  have e : ((c ++ List.replicate 8 ((77, 0) : Ins)).flatMap insV).take (c.length * 2) = c.flatMap insV := by
    rw [List.flatMap_append, List.take_left' (flat_len insV_len)]
  rw [e] at this
  have hr := VecN.rn insV_len (by omega) this
  rw [← h.len] at hr
  exact hr
theorem LSet.updT {M : Nat → Prop} {H' : Heap} (hu : Upd M H H') {s : Sl} {xs : List Int} (h : LSet H s xs) (hn : ∀ b ws, Row H b T_int ws → ¬ M b) : LSet H' s xs := ⟨Vec.updT hu h.vec hn, h.len⟩
theorem LRow.updT {M : Nat → Prop} {H' : Heap} (hu : Upd M H H') {s : Sl} {c : List Ins} (h : LRow H s c) (hn : ∀ b ws, Row H b T_api_Instr ws → ¬ M b) : LRow H' s c := ⟨VecN.updT hu h.vec hn, h.len⟩
theorem s_set {s : Sl} {xs : List Int} (hs : RL (Value.int .i64) H s xs) (hl : xs.length ≤ 2 ^ 44) {k : Sl → Heap → Prop} (hk : ∀ s' H', Ext H H' → LSet H' s' xs → k s' H') : CallT Pg f_hindcastlaw15_set [.slice s.a s.len s.cap] (.one (.c .sl)) H k := by
  refine c_hindcastlaw15_set _ ?_
  unfold v_hindcastlaw15_set
  have hlen := hs.len
  refine App_vec2 (ws := ints xs) (Vec.nil H T_int) hs.rd (by simp [hlen]) (fun w hw => by obtain ⟨x, _, rfl⟩ := List.mem_map.1 hw; rfl) (by omega) (by simp only [List.length_nil, List.length_map]; omega) fun l1 H1 hv1 hU1 ha1 hz1 => ?_
  have hE1 : Ext H H1 := hU1.mono fun b _ e => by cases e.1
  refine Nw_row (vs := ints [77, 77]) fun b1 H2 hb1 hE2 _ hr2 => ?_
  have hv2 := hv1.ext hE2
  have hl1 := hv1.len
  simp only [List.nil_append, List.length_map] at hl1
  refine App_vec2 (ws := ints [77, 77]) hv2 (Row.rd_all hr2) rfl (fun w hw => by obtain ⟨x, _, rfl⟩ := List.mem_map.1 hw; rfl) (by omega) (by simp only [List.nil_append, List.length_map, List.length_cons, List.length_nil]; omega) fun l2 H3 hv3 hU3 _ hz3 => ?_
  have hl2 := hv3.len
  have hc2 := hv3.lc
  simp only [List.nil_append, List.length_append, List.length_map, List.length_cons, List.length_nil] at hl2
  refine SlA0 (by omega) (by omega) (Int.le_refl _) ?_
  rw [Int.toNat_natCast, Int.toNat_natCast]
  have z1 := hE1.size
  refine hk _ _ ((hE1.trans hE2 fun _ _ h => h).trans hU3 fun b hb e => ?_) ⟨?_, by show s.len = _; omega⟩
  · rcases ha1 with ⟨g, _⟩ | g
    · rw [g] at e; cases e.1
    · rw [g] at e; cases e.1; omega
  · have : (⟨l2.a, xs.length + 2, l2.cap⟩ : Sl) = l2 := by rw [show xs.length + 2 = l2.len by omega]
    rw [this]
    simpa [ints] using hv3
theorem s_lrow {s : Sl} {c : List Ins} (hs : RN insV 2 H s c) (hl : c.length ≤ 2 ^ 43) {k : Sl → Heap → Prop} (hk : ∀ s' H', Ext H H' → LRow H' s' c → (∀ b, s'.a = some (adr b) → H.size ≤ b) → k s' H') : CallT Pg f_hindcastlaw15_row [.slice s.a s.len s.cap] (.one (.c .sl)) H k := by
  refine c_hindcastlaw15_row _ ?_
  unfold v_hindcastlaw15_row
  have hlen := hs.len
  have hone : ∀ (c : List Ins), ∀ w ∈ c.flatMap insV, w.oneCell' = true := fun c w hw => by
    obtain ⟨i, _, hi⟩ := List.mem_flatMap.1 hw
    simp only [List.mem_cons, List.not_mem_nil, or_false] at hi
    rcases hi with rfl | rfl <;> rfl
  refine App_vecN (n := 2) rfl (by omega) (VecN.nil H T_api_Instr 2) (ws := c.flatMap insV) hs.rd (by rw [flat_len insV_len, hlen]) (hone c) (by omega) (by simp only; omega) fun l1 H1 hv1 hl1 hU1 ha1 => ?_
  have hE1 : Ext H H1 := hU1.mono fun b _ e => by cases e.1
  simp only [Nat.zero_add] at hl1
  refine LoopT.mk (fun (s1 : Sl × Int) H' => ∃ n : Nat, s1.2 = n ∧ n ≤ 8 ∧ Ext H H' ∧ VecN H' T_api_Instr 2 s1.1 ((c ++ List.replicate n ((77, 0) : Ins)).flatMap insV) ∧ (∀ b, s1.1.a = some (adr b) → H.size ≤ b)) (fun s1 _ => 8 - s1.2.toNat)
    ⟨0, rfl, by omega, hE1, by simpa using hv1, fun b hb => ?_⟩ ?_
  · rcases ha1 with ⟨g, _⟩ | g
    · rw [g] at hb; cases hb
    · rw [g] at hb; cases hb; omega
  rintro next ⟨s1, _⟩ H2 ⟨n, rfl, hn, hE2, hv2, hb2⟩ hnext
  dsimp only at hv2 hb2 ⊢
  have hl2 := hv2.len
  rw [flat_len insV_len, List.length_append, List.length_replicate] at hl2
  refine Br_dec (fun hlt => ?_) fun hge => ?_
  · refine Nw_row (vs := insV (77, 0)) fun b1 H3 hb1 hE3 _ hr3 => ?_
    refine App_vecN (n := 2) rfl (by omega) (hv2.ext hE3) (ws := insV (77, 0)) (Row.rd_all hr3) rfl (by simp [Value.oneCell']) (by omega) (by simp only; omega) fun l2 H4 hv4 hl4 hU4 ha4 => ?_
    have z3 := (hE2.trans hE3 fun _ _ h => h).size
    refine Lt.mk (u := ((n + 1 : Nat) : Int)) (by rw [wrap_i64_id] <;> omega) (hnext _ _ ⟨n + 1, rfl, by omega, (hE2.trans hE3 fun _ _ h => h).trans hU4 fun b hb e => by have := hb2 b e.1; omega, ?_, fun b hb => ?_⟩ (by dsimp only; omega))
    · have : (c ++ List.replicate (n + 1) ((77, 0) : Ins)).flatMap insV = (c ++ List.replicate n ((77, 0) : Ins)).flatMap insV ++ insV (77, 0) := by
        rw [List.replicate_succ', ← List.append_assoc, List.flatMap_append]; simp
      rw [this]; exact hv4
    · rcases ha4 with ⟨g, _⟩ | g
      · rw [g] at hb; exact hb2 b hb
      · rw [g] at hb; cases hb; omega
  · have hn8 : n = 8 := by omega
    subst hn8
    have hc2 := hv2.lc
    refine SlA0 (by omega) (by omega) (Int.le_refl _) ?_
    rw [Int.toNat_natCast, Int.toNat_natCast]
    refine hk _ _ hE2 ⟨?_, by show s.len = _; omega⟩ hb2
    have : (⟨s1.a, c.length + 8, s1.cap⟩ : Sl) = s1 := by rw [show c.length + 8 = s1.len by omega]
    rw [this]; exact hv2

/-- A lent system. -/
structure LSy (H : Heap) (x : Sy) : Prop where
  set : ∀ q, q < 4 → LSet H (x.s q) (x.l q)
  row : LRow H x.rou.sl x.rou.code
theorem LSy.updT {M : Nat → Prop} {H' : Heap} (hu : Upd M H H') {x : Sy} (h : LSy H x) (h1 : ∀ b ws, Row H b T_int ws → ¬ M b) (h2 : ∀ b ws, Row H b T_api_Instr ws → ¬ M b) : LSy H' x := ⟨fun q hq => (h.set q hq).updT hu h1, h.row.updT hu h2⟩
theorem LSy.ext {H' : Heap} (hE : Ext H H') {x : Sy} (h : LSy H x) : LSy H' x := h.updT hE (fun _ _ _ h => h) fun _ _ _ h => h
theorem LRow.ext {H' : Heap} (hE : Ext H H') {s : Sl} {c : List Ins} (h : LRow H s c) : LRow H' s c := h.updT hE fun _ _ _ h => h
/-- What of a routine is its own: all but the place of its code. -/
abbrev eraR (r : Rou) : ByteArray × Int × Int × List Ins := (r.name, r.params, r.locals, r.code)
abbrev eraS (x : Sy) : (Nat → List Int) × ByteArray × Int × Int × List Ins := (x.l, eraR x.rou)
def nmBehind : ByteArray := ⟨#[98, 101, 104, 105, 110, 100]⟩
structure LentP (H : Heap) (q : Sl × Sl) (ss : List Sy) (fs : List Rou) (yb : Sy) (fb : Rou) : Prop where
  sv : VecN H T_api_System 8 ⟨q.1.a, ss.length + 1, q.1.cap⟩ ((ss ++ [yb]).flatMap sysV)
  sl : q.1.len = ss.length
  fv : VecN H T_api_Routine 4 ⟨q.2.a, fs.length + 1, q.2.cap⟩ ((fs ++ [fb]).flatMap rouV)
  fl : q.2.len = fs.length
  sy : ∀ x ∈ ss, LSy H x
  fn : ∀ r ∈ fs, LRow H r.sl r.code
  yb : Vec H T_int (yb.s 0) (ints [77])
  fb : fb.name = nmBehind
theorem LentP.ext {H' : Heap} (hE : Ext H H') {q : Sl × Sl} {ss : List Sy} {fs : List Rou} {yb : Sy} {fb : Rou} (h : LentP H q ss fs yb fb) : LentP H' q ss fs yb fb :=
  ⟨h.sv.ext hE, h.sl, h.fv.ext hE, h.fl, fun x hx => (h.sy x hx).ext hE, fun r hr => (h.fn r hr).ext hE, h.yb.ext hE, h.fb⟩
theorem rn_pre {α : Type} {f : α → List Value} {n : Nat} (hf : ∀ e, (f e).length = n) (hn : 0 < n) {T : TypeId} {s : Sl} {xs : List α} {y : α} (h : VecN H T n ⟨s.a, xs.length + 1, s.cap⟩ ((xs ++ [y]).flatMap f)) (hl : s.len = xs.length) : RN f n H s xs := by
  have hc := h.lc
  dsimp only at hc
  have := vecN_pre h (j := xs.length) (c := s.cap) (by dsimp only; omega) (by omega) (Nat.le_refl _)
  have e : ((xs ++ [y]).flatMap f).take (xs.length * n) = xs.flatMap f := by
    rw [List.flatMap_append, List.take_left' (flat_len hf)]
  rw [e] at this
  have hr := VecN.rn hf hn this
  rw [← hl] at hr
  exact hr
theorem LentP.prg {q : Sl × Sl} {ss : List Sy} {fs : List Rou} {yb : Sy} {fb : Rou} (h : LentP H q ss fs yb fb) (h1 : ∀ x ∈ ss, (∀ q, q < 4 → (x.l q).length ≤ 2 ^ 60) ∧ x.rou.code.length ≤ 2 ^ 60) (h2 : ∀ r ∈ fs, r.code.length ≤ 2 ^ 60) : PrgR H q ss fs :=
  ⟨rn_pre sysV_len (by omega) h.sv h.sl, fun x hx => ⟨fun q hq => ((h.sy x hx).set q hq).rl, (h.sy x hx).row.rn, (h1 x hx).1, (h1 x hx).2⟩, rn_pre rouV_len (by omega) h.fv h.fl, fun r hr => (h.fn r hr).rn, h2⟩
end Go.Proofs.Ytlkmmplgfjicjaa
/-
  Lending a program.
-/
namespace Go.Proofs.Ytlkmmplgfjicjaa
set_option linter.unusedVariables false
set_option linter.unusedSimpArgs false
open Go.Proofs.Ytlkmmplgfjicjaa.Hc Go.Proofs.Ytlkmmplgfjicjaa.Hc.Vf
set_option maxRecDepth 100000
variable {H : Heap}

theorem sysV_one (x : Sy) : ∀ w ∈ sysV x, w.oneCell' = true := by simp [Value.oneCell']
theorem rouV_one (x : Rou) : ∀ w ∈ rouV x, w.oneCell' = true := by simp [Value.oneCell']
theorem snocF {α : Type} (f : α → List Value) (xs : List α) (y : α) : (xs ++ [y]).flatMap f = xs.flatMap f ++ f y := by rw [List.flatMap_append]; simp
theorem s_lent {p : Sl × Sl} {ss : List Sy} {fs : List Rou} (hP : PrgI H p ss fs) {k : Sl × Sl → Heap → Prop}
    (hk : ∀ q ss' fs' yb fb H', Ext H H' → LentP H' q ss' fs' yb fb → (∀ b, q.1.a = some (adr b) ∨ q.2.a = some (adr b) → H.size ≤ b) → ss'.map eraS = ss.map eraS → fs'.map eraR = fs.map eraR → k q H') : CallT Pg f_hindcastlaw15_lent [prgA p] (.one (.agg [.sl, .sl])) H k := by
  refine c_hindcastlaw15_lent p ?_
  unfold v_hindcastlaw15_lent
  refine Nw_row (vs := [slV p.1, slV p.2]) fun b1 H1 hb1 hE1 _ hr1 => Nw_row (vs := [slV ⟨none, 0, 0⟩, slV ⟨none, 0, 0⟩]) fun b2 H2 hb2 hE2 _ hr2 => Nw_row (vs := [slV ⟨none, 0, 0⟩, slV ⟨none, 0, 0⟩]) fun b3 H3 hb3 hE3 _ hr3 => ?_
  simp only [adr_add, mk_add]
  have z1 := hE1.size
  have z2 := hE2.size
  have l2 := hr2.lt
  have hE2' := hE1.trans hE2 fun _ _ h => h
  have hp : ∀ {Hx}, Ext H2 Hx → Row Hx b1 T_api_Program [slV p.1, slV p.2] := fun hE => hE.row (hE2.row hr1 fun h => h) fun h => h
  have hPx : ∀ {Hx}, Ext H2 Hx → PrgR Hx p ss fs := fun hE => hP.prg.ext (hE2'.trans hE fun _ _ h => h)
  have hq2 : ∀ {Hx}, Ext H2 Hx → Row Hx b2 T_api_Program [slV ⟨none, 0, 0⟩, slV ⟨none, 0, 0⟩] := fun hE => hE.row hr2 fun h => h
  have hsl := hP.sys.len
  have hfl := hP.fun'.len
  have hsn := hP.sl
  have hfn := hP.fl
  refine LoopT.mk (fun (i : Int) H' => ∃ (n : Nat) (ss' : List Sy) (s : Sl), i = n ∧ n ≤ ss.length ∧ ss'.map eraS = (ss.take n).map eraS ∧ Ext H2 H' ∧ Row H' b3 T_api_Program [slV s, slV ⟨none, 0, 0⟩] ∧ VecN H' T_api_System 8 s (ss'.flatMap sysV) ∧ (∀ b, s.a = some (adr b) → H2.size ≤ b) ∧ ∀ x ∈ ss', LSy H' x) (fun i _ => ss.length - i.toNat)
    ⟨0, [], ⟨none, 0, 0⟩, rfl, Nat.zero_le _, rfl, hE3, hr3, VecN.nil _ _ _, fun b hb => (by cases hb), fun x hx => (by cases hx)⟩ ?_
  rintro next _ H4 ⟨n, ss', s, rfl, hn, hera, hE4, hr34, hv4, hsb, hls⟩ hnext
  have hss'l : ss'.length = n := by
    have := congrArg List.length hera
    simp only [List.length_map, List.length_take] at this; omega
  have hslen := hv4.len
  rw [flat_len sysV_len, hss'l] at hslen
  refine Ld_sl (s := p.1) (((hp hE4).cell 0).trans rfl) (Br_dec (fun hlt => ?_) fun hge => ?_)
  · have hn3 : n < ss.length := by omega
    refine Ld_sl (s := p.1) (((hp hE4).cell 0).trans rfl) (IxA_rn' sysV_len (hPx hE4).sys (by omega) (j := n) rfl hn3 fun a ha => ?_)
    have hmem : ss[n]! ∈ ss := by rw [getElem!_pos ss n hn3]; exact List.getElem_mem hn3
    have hxR : ∀ {Hx}, Ext H2 Hx → SyR Hx (ss[n]!) := fun hE => (hPx hE).sysR _ hmem
    have hxI := hP.sysR _ hmem
    have htk : ss.take (n + 1) = ss.take n ++ [ss[n]!] := by rw [List.take_add_one, List.getElem?_eq_getElem hn3, getElem!_pos ss n hn3]; rfl
    generalize ss[n]! = x at *
    refine ld_sys ha (sys_copy (x := x) fun b4 H13 hb4 hE13 hr13 => ?_)
    have hE13' := hE4.trans hE13 fun _ _ h => h
    refine Ld_sl (s := x.s 0) ((hr13.cell 0).trans rfl) (s_set ((hxR hE13').sets 0 (by omega)) (hxI.lens 0 (by omega)) fun r0 H14 hE14 hR0 => ?_)
    have hE14' := hE13'.trans hE14 fun _ _ h => h
    have nI : ∀ {Hx : Heap} {vs : List Value}, Row Hx b4 T_api_System vs → ∀ b ws, Row Hx b T_int ws → ¬ b = b4 := fun h b ws hw => hw.ne h (by decide)
    refine St_row (hE14.row hr13 fun h => h) (by simp) fun H15 hU15 z15 hr15 => ?_
    have hx4 : H4.size ≤ b4 := by omega
    have hu15 : Ext H4 H15 := (hE13.trans hE14 fun _ _ h => h).trans hU15 fun b hb e => by omega
    have hE15' := hE4.trans hu15 fun _ _ h => h
    refine Ld_sl (s := x.s 1) ((hr15.cell 1).trans rfl) (s_set ((hxR hE15').sets 1 (by omega)) (hxI.lens 1 (by omega)) fun r1 H16 hE16 hR1 => ?_)
    refine St_row (hE16.row hr15 fun h => h) (by simp) fun H17 hU17 z17 hr17 => ?_
    have hu17 : Ext H4 H17 := (hu15.trans hE16 fun _ _ h => h).trans hU17 fun b hb e => by omega
    have hE17' := hE4.trans hu17 fun _ _ h => h
    refine Ld_sl (s := x.s 2) ((hr17.cell 2).trans rfl) (s_set ((hxR hE17').sets 2 (by omega)) (hxI.lens 2 (by omega)) fun r2 H18 hE18 hR2 => ?_)
    refine St_row (hE18.row hr17 fun h => h) (by simp) fun H19 hU19 z19 hr19 => ?_
    have hu19 : Ext H4 H19 := (hu17.trans hE18 fun _ _ h => h).trans hU19 fun b hb e => by omega
    have hE19' := hE4.trans hu19 fun _ _ h => h
    refine Ld_sl (s := x.s 3) ((hr19.cell 3).trans rfl) (s_set ((hxR hE19').sets 3 (by omega)) (hxI.lens 3 (by omega)) fun r3 H20 hE20 hR3 => ?_)
    refine St_row (hE20.row hr19 fun h => h) (by simp) fun H21 hU21 z21 hr21 => ?_
    have hu21 : Ext H4 H21 := (hu19.trans hE20 fun _ _ h => h).trans hU21 fun b hb e => by omega
    have hE21' := hE4.trans hu21 fun _ _ h => h
    refine Ld_sl (s := x.rou.sl) ((hr21.cell 7).trans rfl) (s_lrow (hxR hE21').code hxI.rou.len fun r5 H22 hE22 hR5 _ => ?_)
    refine St_row (hE22.row hr21 fun h => h) (by simp) fun H23 hU23 z23 hr23 => ?_
    have hu23 : Ext H4 H23 := (hu21.trans hE22 fun _ _ h => h).trans hU23 fun b hb e => by omega
    have hE23' := hE4.trans hu23 fun _ _ h => h
    let x' : Sy := ⟨pick4 r0 r1 r2 r3, x.l, ⟨x.rou.name, x.rou.params, x.rou.locals, r5, x.rou.code⟩⟩
    have hr23 : Row H23 b4 T_api_System (sysV x') := hr23
    have nR : ∀ {Hx : Heap} {vs : List Value}, Row Hx b4 T_api_System vs → ∀ b ws, Row Hx b T_api_Instr ws → ¬ b = b4 := fun h b ws hw => hw.ne h (by decide)
    have k0 : LSet H15 r0 (x.l 0) := hR0.updT hU15 (nI (hE14.row hr13 fun h => h))
    have g16 := hE16.row hr15 fun h => h
    have g18 := hE18.row hr17 fun h => h
    have g20 := hE20.row hr19 fun h => h
    have g22 := hE22.row hr21 fun h => h
    have e0 : ∀ {Ha Hb : Heap} {s : Sl} {xs : List Int}, Ext Ha Hb → LSet Ha s xs → LSet Hb s xs := fun hE h => h.updT hE fun _ _ _ h => h
    have k1 : LSet H17 r0 (x.l 0) ∧ LSet H17 r1 (x.l 1) := ⟨(e0 hE16 k0).updT hU17 (nI g16), hR1.updT hU17 (nI g16)⟩
    have k2 : LSet H19 r0 (x.l 0) ∧ LSet H19 r1 (x.l 1) ∧ LSet H19 r2 (x.l 2) := ⟨(e0 hE18 k1.1).updT hU19 (nI g18), (e0 hE18 k1.2).updT hU19 (nI g18), hR2.updT hU19 (nI g18)⟩
    have k3 : LSet H21 r0 (x.l 0) ∧ LSet H21 r1 (x.l 1) ∧ LSet H21 r2 (x.l 2) ∧ LSet H21 r3 (x.l 3) := ⟨(e0 hE20 k2.1).updT hU21 (nI g20), (e0 hE20 k2.2.1).updT hU21 (nI g20), (e0 hE20 k2.2.2).updT hU21 (nI g20), hR3.updT hU21 (nI g20)⟩
    have hlx : LSy H23 x' := by
      refine ⟨fun q hq => ?_, hR5.updT hU23 (nR g22)⟩
      match q, hq with
      | 0, _ => exact (e0 hE22 k3.1).updT hU23 (nI g22)
      | 1, _ => exact (e0 hE22 k3.2.1).updT hU23 (nI g22)
      | 2, _ => exact (e0 hE22 k3.2.2.1).updT hU23 (nI g22)
      | 3, _ => exact (e0 hE22 k3.2.2.2).updT hU23 (nI g22)
    have hr323 := hu23.row hr34 fun h => h
    refine Ld_sl (s := s) ((hr323.cell 0).trans rfl) (ld_sys (x := x') (Row.rd_all hr23) ?_)
    refine Nw_row (vs := sysV x') fun b5 H24 hb5 hE24 _ hr24 => ?_
    have hu24 := hu23.trans hE24 fun _ _ h => h
    have hv24 := hv4.ext hu24
    have hr324 := hE24.row hr323 fun h => h
    refine App_vecN (n := 8) rfl (by omega) hv24 (ws := sysV x') (Row.rd_all hr24) rfl (sysV_one x') (by omega) (by simp only; omega) fun l1 H25 hv25 hl25 hU25 ha25 => ?_
    have M25 : ∀ b T ws, Row H24 b T ws → T ≠ T_api_System → ¬ (s.a = some (adr b) ∧ s.len + 1 ≤ s.cap) := fun b T ws hw hT e => hv24.ne e.1 hw hT.symm rfl
    have hr325 : Row H25 b3 T_api_Program [slV s, slV ⟨none, 0, 0⟩] := hU25.row hr324 (M25 _ _ _ hr324 (by decide))
    have hE25 : Ext H2 H25 := (hE4.trans hu24 fun _ _ h => h).trans hU25 fun b hb e => by have := hsb b e.1; omega
    refine St_row hr325 (by simp) fun H26 hU26 z26 hr326 => ?_
    have z4 := hE4.size
    have n26 : ∀ b T ws, Row H25 b T ws → T ≠ T_api_Program → ¬ b = b3 := fun b T ws hw hT => hw.ne hr325 hT
    refine Lt.mk (u := ((n + 1 : Nat) : Int)) (by rw [wrap_i64_id] <;> omega) (hnext _ _ ⟨n + 1, ss' ++ [x'], l1, rfl, hn3, ?_, hE25.trans hU26 fun b hb e => by omega, hr326, ?_, fun b hb => ?_, fun y hy => ?_⟩ (by omega))
    · rw [htk, List.map_append, List.map_append, hera]; rfl
    · rw [snocF]
      exact VecN.updT hU26 hv25 fun b ws hw => n26 b _ ws hw (by decide)
    · have z24 := (hE4.trans hu24 fun _ _ h => h).size
      rcases ha25 with ⟨g, _⟩ | g
      · rw [g] at hb; exact hsb b hb
      · rw [g] at hb; cases hb; omega
    · have h24 : LSy H24 y := by
        rcases List.mem_append.1 hy with g | g
        · exact (hls y g).ext hu24
        · rw [List.mem_singleton] at g; subst g; exact hlx.ext hE24
      have h25 : LSy H25 y := h24.updT hU25 (fun b ws hw => M25 b _ ws hw (by decide)) fun b ws hw => M25 b _ ws hw (by decide)
      exact h25.updT hU26 (fun b ws hw => n26 b _ ws hw (by decide)) fun b ws hw => n26 b _ ws hw (by decide)
  · have hne : n = ss.length := by omega
    subst hne
    rw [List.take_length] at hera
    refine LoopT.mk (fun (i : Int) H' => ∃ (n : Nat) (fs' : List Rou) (t : Sl), i = n ∧ n ≤ fs.length ∧ fs'.map eraR = (fs.take n).map eraR ∧ Ext H2 H' ∧ Row H' b3 T_api_Program [slV s, slV t] ∧ VecN H' T_api_System 8 s (ss'.flatMap sysV) ∧ VecN H' T_api_Routine 4 t (fs'.flatMap rouV) ∧ (∀ b, t.a = some (adr b) → H2.size ≤ b) ∧ (∀ x ∈ ss', LSy H' x) ∧ ∀ r ∈ fs', LRow H' r.sl r.code) (fun i _ => fs.length - i.toNat)
      ⟨0, [], ⟨none, 0, 0⟩, rfl, Nat.zero_le _, rfl, hE4, hr34, hv4, VecN.nil _ _ _, (fun b hb => by cases hb), hls, fun x hx => (by cases hx)⟩ ?_
    rintro next2 _ H5 ⟨n, fs', t, rfl, hn2, hera2, hE5, hr35, hv5, ht5, htb, hls5, hlf5⟩ hnext2
    have hfs'l : fs'.length = n := by
      have := congrArg List.length hera2
      simp only [List.length_map, List.length_take] at this; omega
    have htlen := ht5.len
    rw [flat_len rouV_len, hfs'l] at htlen
    refine Ld_sl (s := p.2) (((hp hE5).cell 1).trans rfl) (Br_dec (fun hlt2 => ?_) fun hge2 => ?_)
    · have hn3 : n < fs.length := by omega
      refine Ld_sl (s := p.2) (((hp hE5).cell 1).trans rfl) (IxA_rn' rouV_len (hPx hE5).fun' (by omega) (j := n) rfl hn3 fun a ha => ?_)
      have hmem : fs[n]! ∈ fs := by rw [getElem!_pos fs n hn3]; exact List.getElem_mem hn3
      have hxR : ∀ {Hx}, Ext H2 Hx → CodeR Hx (fs[n]!) := fun hE => (hPx hE).funR _ hmem
      have hxI := hP.funR _ hmem
      have htk : fs.take (n + 1) = fs.take n ++ [fs[n]!] := by rw [List.take_add_one, List.getElem?_eq_getElem hn3, getElem!_pos fs n hn3]; rfl
      generalize fs[n]! = x at *
      refine ld_rou (r := x) ha ?_
      have hcp := rou_copy (H := H5) (x := x) (K := fun b6 H32 => Ld .sl ⟨b6, 3, none⟩ H32 fun (x11 : Sl) =>
            CallT Pg f_hindcastlaw15_row [.slice x11.a x11.len x11.cap] (.one (.c .sl)) H32 fun (r6 : Sl) H33 =>
            St ⟨b6, 3, none⟩ (.slice r6.a r6.len r6.cap) H33 fun H34 =>
            Ld .sl ⟨b3, 1, none⟩ H34 fun (x12 : Sl) =>
            LdC [.str, (.int .i64), (.int .i64), .sl] (adr b6) H34 fun (c4 : ByteArray × Int × Int × Sl) =>
            Nw #[.string c4.1, .int .i64 c4.2.1, .int .i64 c4.2.2.1, .slice c4.2.2.2.a c4.2.2.2.len c4.2.2.2.cap] T_api_Routine H34 fun b7 H35 =>
            App T_api_Routine 4 56 #[.string ByteArray.empty, .int .i64 0, .int .i64 0, .slice none 0 0] x12 ⟨some (adr b7), 1, 1⟩ H35 fun l2 H36 =>
            St ⟨b3, 1, none⟩ (.slice l2.a l2.len l2.cap) H36 fun H37 =>
            Lt (IntKind.wrap .i64 ((n : Int) + 1)) fun t2 =>
            next2 t2 H37) fun b6 H32 hb6 hE32 hr32 => ?_
      · simpa only [adr_add] using hcp
      have hE32' := hE5.trans hE32 fun _ _ h => h
      refine Ld_sl (s := x.sl) ((hr32.cell 3).trans rfl) (s_lrow (hxR hE32') hxI.len fun r6 H33 hE33 hR6 _ => ?_)
      have g33 := hE33.row hr32 fun h => h
      refine St_row g33 (by simp) fun H34 hU34 z34 hr34' => ?_
      have hu34 : Ext H5 H34 := (hE32.trans hE33 fun _ _ h => h).trans hU34 fun b hb e => by omega
      let x' : Rou := ⟨x.name, x.params, x.locals, r6, x.code⟩
      have hr34'' : Row H34 b6 T_api_Routine (rouV x') := hr34'
      have hlx : LRow H34 x'.sl x'.code := hR6.updT hU34 fun b ws hw => hw.ne g33 (by decide)
      have hr334 := hu34.row hr35 fun h => h
      refine Ld_sl (s := t) ((hr334.cell 1).trans rfl) (ld_rou (r := x') (Row.rd_all hr34'') ?_)
      refine Nw_row (vs := rouV x') fun b7 H35 hb7 hE35 _ hr735 => ?_
      have hu35 := hu34.trans hE35 fun _ _ h => h
      have ht35 := ht5.ext hu35
      have hr335 := hE35.row hr334 fun h => h
      refine App_vecN (n := 4) rfl (by omega) ht35 (ws := rouV x') (Row.rd_all hr735) rfl (rouV_one x') (by omega) (by simp only; omega) fun l2 H36 ht36 hl36 hU36 ha36 => ?_
      have M36 : ∀ b T ws, Row H35 b T ws → T ≠ T_api_Routine → ¬ (t.a = some (adr b) ∧ t.len + 1 ≤ t.cap) := fun b T ws hw hT e => ht35.ne e.1 hw hT.symm rfl
      have hr336 : Row H36 b3 T_api_Program [slV s, slV t] := hU36.row hr335 (M36 _ _ _ hr335 (by decide))
      have hE36 : Ext H2 H36 := (hE5.trans hu35 fun _ _ h => h).trans hU36 fun b hb e => by have := htb b e.1; omega
      refine St_row hr336 (by simp) fun H37 hU37 z37 hr337 => ?_
      have n37 : ∀ b T ws, Row H36 b T ws → T ≠ T_api_Program → ¬ b = b3 := fun b T ws hw hT => hw.ne hr336 hT
      refine Lt.mk (u := ((n + 1 : Nat) : Int)) (by rw [wrap_i64_id] <;> omega) (hnext2 _ _ ⟨n + 1, fs' ++ [x'], l2, rfl, hn3, ?_, hE36.trans hU37 fun b hb e => by omega, hr337, ?_, ?_, fun b hb => ?_, fun y hy => ?_, fun y hy => ?_⟩ (by omega))
      · rw [htk, List.map_append, List.map_append, hera2]; rfl
      · exact VecN.updT hU37 (VecN.updT hU36 (hv5.ext hu35) fun b ws hw => M36 b _ ws hw (by decide)) fun b ws hw => n37 b _ ws hw (by decide)
      · rw [snocF]
        exact VecN.updT hU37 ht36 fun b ws hw => n37 b _ ws hw (by decide)
      · have z35 := (hE5.trans hu35 fun _ _ h => h).size
        rcases ha36 with ⟨g, _⟩ | g
        · rw [g] at hb; exact htb b hb
        · rw [g] at hb; cases hb; omega
      · have h36 : LSy H36 y := ((hls5 y hy).ext hu35).updT hU36 (fun b ws hw => M36 b _ ws hw (by decide)) fun b ws hw => M36 b _ ws hw (by decide)
        exact h36.updT hU37 (fun b ws hw => n37 b _ ws hw (by decide)) fun b ws hw => n37 b _ ws hw (by decide)
      · have h35 : LRow H35 y.sl y.code := by
          rcases List.mem_append.1 hy with g | g
          · exact (hlf5 y g).ext hu35
          · rw [List.mem_singleton] at g; subst g; exact hlx.ext hE35
        have h36 : LRow H36 y.sl y.code := h35.updT hU36 fun b ws hw => M36 b _ ws hw (by decide)
        exact h36.updT hU37 fun b ws hw => n37 b _ ws hw (by decide)
    · have hne : n = fs.length := by omega
      subst hne
      rw [List.take_length] at hera2
      refine Ld_sl (s := s) ((hr35.cell 0).trans rfl) (Ld_sl (s := t) ((hr35.cell 1).trans rfl) (Ld_sl (s := s) ((hr35.cell 0).trans rfl) ?_))
      refine Nw_row (vs := ints [77]) fun b8 H38 hb8 hE38 _ hr838 => ?_
      let yb : Sy := ⟨pick4 ⟨some (adr b8), 1, 1⟩ ⟨none, 0, 0⟩ ⟨none, 0, 0⟩ ⟨none, 0, 0⟩, fun _ => [], ⟨ByteArray.empty, 0, 0, ⟨none, 0, 0⟩, []⟩⟩
      refine Nw_row (vs := sysV yb) fun b9 H39 hb9 hE39 _ hr939 => ?_
      have hu39 := hE38.trans hE39 fun _ _ h => h
      have hv39 := hv5.ext hu39
      have hr339 := hu39.row hr35 fun h => h
      have hyb39 : Vec H39 T_int ⟨some (adr b8), 1, 1⟩ (ints [77]) := ⟨rfl, .inr ⟨b8, [], rfl, by simpa using hE39.row hr838 fun h => h, by simp⟩, Nat.le_refl _⟩
      refine App_vecN (n := 8) rfl (by omega) hv39 (ws := sysV yb) (Row.rd_all hr939) rfl (sysV_one yb) (by omega) (by simp only; omega) fun l3 H40 hv40 hl40 hU40 ha40 => ?_
      have M40 : ∀ b T ws, Row H39 b T ws → T ≠ T_api_System → ¬ (s.a = some (adr b) ∧ s.len + 1 ≤ s.cap) := fun b T ws hw hT e => hv39.ne e.1 hw hT.symm rfl
      have hc40 := hv40.lc
      simp only at hl40
      refine SlA0 (by omega) (by omega) (Int.le_refl _) ?_
      rw [Int.toNat_natCast, Int.toNat_natCast]
      have hr340 : Row H40 b3 T_api_Program [slV s, slV t] := hU40.row hr339 (M40 _ _ _ hr339 (by decide))
      have hE40 : Ext H2 H40 := (hE5.trans hu39 fun _ _ h => h).trans hU40 fun b hb e => by have := hsb b e.1; omega
      refine St_row hr340 (by simp) fun H41 hU41 z41 hr341 => ?_
      have n41 : ∀ b T ws, Row H40 b T ws → T ≠ T_api_Program → ¬ b = b3 := fun b T ws hw hT => hw.ne hr340 hT
      refine Ld_sl (s := t) ((hr341.cell 1).trans rfl) ?_
      let fb : Rou := ⟨nmBehind, 0, 0, ⟨none, 0, 0⟩, []⟩
      refine Nw_row (vs := rouV fb) fun b10 H42 hb10 hE42 _ hr1042 => ?_
      have up : ∀ {T : TypeId} {m : Nat} {sx : Sl} {vs : List Value}, T ≠ T_api_System → T ≠ T_api_Program → VecN H5 T m sx vs → VecN H42 T m sx vs := fun h1 h2 hv =>
        (VecN.updT hU41 (VecN.updT hU40 (hv.ext hu39) fun b ws hw => M40 b _ ws hw h1) fun b ws hw => n41 b _ ws hw h2).ext hE42
      have ht42 := up (by decide) (by decide) ht5
      have hv42 : VecN H42 T_api_System 8 l3 (ss'.flatMap sysV ++ sysV yb) := (VecN.updT hU41 hv40 fun b ws hw => n41 b _ ws hw (by decide)).ext hE42
      have hls42 : ∀ y ∈ ss', LSy H42 y := fun y hy => (((((hls5 y hy).ext hu39).updT hU40 (fun b ws hw => M40 b _ ws hw (by decide)) fun b ws hw => M40 b _ ws hw (by decide))).updT hU41 (fun b ws hw => n41 b _ ws hw (by decide)) fun b ws hw => n41 b _ ws hw (by decide)).ext hE42
      have hlf42 : ∀ y ∈ fs', LRow H42 y.sl y.code := fun y hy => ((((hlf5 y hy).ext hu39).updT hU40 (fun b ws hw => M40 b _ ws hw (by decide))).updT hU41 (fun b ws hw => n41 b _ ws hw (by decide))).ext hE42
      have hyb42 : Vec H42 T_int ⟨some (adr b8), 1, 1⟩ (ints [77]) := (Vec.updT hU41 (Vec.updT hU40 hyb39 fun b ws hw => M40 b _ ws hw (by decide)) fun b ws hw => n41 b _ ws hw (by decide)).ext hE42
      have hr342 := hE42.row hr341 fun h => h
      refine App_vecN (n := 4) rfl (by omega) ht42 (ws := rouV fb) (Row.rd_all hr1042) rfl (rouV_one fb) (by omega) (by simp only; omega) fun l5 H43 ht43 hl43 hU43 ha43 => ?_
      have M43 : ∀ b T ws, Row H42 b T ws → T ≠ T_api_Routine → ¬ (t.a = some (adr b) ∧ t.len + 1 ≤ t.cap) := fun b T ws hw hT e => ht42.ne e.1 hw hT.symm rfl
      have hc43 := ht43.lc
      simp only at hl43
      refine SlA0 (by omega) (by omega) (Int.le_refl _) ?_
      rw [Int.toNat_natCast, Int.toNat_natCast]
      have hr343 := hU43.row hr342 (M43 _ _ _ hr342 (by decide))
      have hE42' : Ext H2 H42 := (hE40.trans hU41 fun b hb e => by omega).trans hE42 fun _ _ h => h
      have hE43 : Ext H2 H43 := hE42'.trans hU43 fun b hb e => by have := htb b e.1; omega
      refine St_row hr343 (by simp) fun H44 hU44 z44 hr344 => ?_
      have n44 : ∀ b T ws, Row H43 b T ws → T ≠ T_api_Program → ¬ b = b3 := fun b T ws hw hT => hw.ne hr343 hT
      have hE44 : Ext H2 H44 := hE43.trans hU44 fun b hb e => by omega
      let q : Sl × Sl := (⟨l3.a, s.len, l3.cap⟩, ⟨l5.a, t.len, l5.cap⟩)
      have hr344' : Row H44 b3 T_api_Program [slV q.1, slV q.2] := hr344
      refine ⟨q, Row.rd_all hr344', ?_⟩
      have hq244 := hq2 hE44
      refine St_row hq244 (by simp) fun H45 hU45 z45 hr245 => St_row hr245 (by simp) fun H46 hU46 z46 hr246 => ?_
      have hr246' : Row H46 b2 T_api_Program [slV q.1, slV q.2] := hr246
      have hU46' : Upd (· = b2) H44 H46 := hU45.trans hU46 fun _ _ h => h
      have n46 : ∀ b T ws, Row H44 b T ws → T ≠ T_api_Program → ¬ b = b2 := fun b T ws hw hT => hw.ne hq244 hT
      refine ⟨q, Row.rd_all hr246', hk q ss' fs' yb fb H46 ?_ ?_ (fun b hb => ?_) hera hera2⟩
      · refine (hE2'.trans hE44 fun _ _ h => h).trans hU46' fun b hb e => by omega
      · refine ⟨?_, ?_, ?_, ?_, fun y hy => ?_, fun y hy => ?_, ?_, rfl⟩
        · have e : (⟨l3.a, ss'.length + 1, l3.cap⟩ : Sl) = l3 := by rw [show ss'.length + 1 = l3.len by omega]
          show VecN H46 T_api_System 8 ⟨l3.a, ss'.length + 1, l3.cap⟩ _
          rw [e, snocF]
          exact VecN.updT hU46' (VecN.updT hU44 (VecN.updT hU43 hv42 fun b ws hw => M43 b _ ws hw (by decide)) fun b ws hw => n44 b _ ws hw (by decide)) fun b ws hw => n46 b _ ws hw (by decide)
        · show s.len = ss'.length; omega
        · have e : (⟨l5.a, fs'.length + 1, l5.cap⟩ : Sl) = l5 := by rw [show fs'.length + 1 = l5.len by omega]
          show VecN H46 T_api_Routine 4 ⟨l5.a, fs'.length + 1, l5.cap⟩ _
          rw [e, snocF]
          exact VecN.updT hU46' (VecN.updT hU44 ht43 fun b ws hw => n44 b _ ws hw (by decide)) fun b ws hw => n46 b _ ws hw (by decide)
        · show t.len = fs'.length; omega
        · exact (((hls42 y hy).updT hU43 (fun b ws hw => M43 b _ ws hw (by decide)) fun b ws hw => M43 b _ ws hw (by decide)).updT hU44 (fun b ws hw => n44 b _ ws hw (by decide)) fun b ws hw => n44 b _ ws hw (by decide)).updT hU46' (fun b ws hw => n46 b _ ws hw (by decide)) fun b ws hw => n46 b _ ws hw (by decide)
        · exact (((hlf42 y hy).updT hU43 (fun b ws hw => M43 b _ ws hw (by decide))).updT hU44 (fun b ws hw => n44 b _ ws hw (by decide))).updT hU46' (fun b ws hw => n46 b _ ws hw (by decide))
        · exact Vec.updT hU46' (Vec.updT hU44 (Vec.updT hU43 hyb42 fun b ws hw => M43 b _ ws hw (by decide)) fun b ws hw => n44 b _ ws hw (by decide)) fun b ws hw => n46 b _ ws hw (by decide)
      · have z39 := (hE5.trans hu39 fun _ _ h => h).size
        have z42 := hE42'.size
        rcases hb with hb | hb
        · have hb : l3.a = some (adr b) := hb
          rcases ha40 with ⟨g, _⟩ | g
          · rw [g] at hb; have := hsb b hb; omega
          · rw [g] at hb; cases hb; omega
        · have hb : l5.a = some (adr b) := hb
          rcases ha43 with ⟨g, _⟩ | g
          · rw [g] at hb; have := htb b hb; omega
          · rw [g] at hb; cases hb; omega
end Go.Proofs.Ytlkmmplgfjicjaa
