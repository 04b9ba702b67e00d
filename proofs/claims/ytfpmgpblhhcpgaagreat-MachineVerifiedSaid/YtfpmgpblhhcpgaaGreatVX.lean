/-
  May the program be written down?
-/
import Derived.Test.YtfpmgpblhhcpgaaGreatWB
namespace Go.Proofs.YtfpmgpblhhcpgaaGreat
set_option linter.unusedVariables false
set_option linter.unusedSimpArgs false
set_option maxRecDepth 100000
section
open Hc Hc.Vf
variable {H : Heap}
def rises4 (x : Sy) : Bool := (List.range 4).all fun q => risesOk 0 (x.l q)
def sumL (rs : List Rou) : Nat := (rs.map (·.code.length)).sum
theorem sumL_succ {rs : List Rou} {n : Nat} (h : n < rs.length) : sumL (rs.take (n + 1)) = sumL (rs.take n) + (rs[n]).code.length := by
  unfold sumL
  rw [List.take_add_one, List.getElem?_eq_getElem h, Option.toList_some, List.map_append, List.sum_append]
  simp
theorem sumL_take {rs : List Rou} {n : Nat} : sumL (rs.take n) ≤ sumL rs := by
  unfold sumL
  conv => rhs; rw [← List.take_append_drop n rs, List.map_append, List.sum_append]
  exact Nat.le_add_right _ _
def MayP (ss : List Sy) (fs : List Rou) : Prop := ss.length ≤ 16 ∧ fs.length ≤ 16 ∧ (∀ x ∈ ss, rises4 x = true ∧ rouOk x.rou = true) ∧ (∀ r ∈ fs, rouOk r = true) ∧ sumL (ss.map (·.rou)) + sumL fs ≤ 2000
instance (ss : List Sy) (fs : List Rou) : Decidable (MayP ss fs) := by unfold MayP; infer_instance
theorem ws_sets {b : Nat} {k : Option Addr × Option Addr × Option Addr × Option Addr → Heap → Prop} (hk : ∀ H', Ext H H' → k (some ⟨b, 0, none⟩, some ⟨b, 1, none⟩, some ⟨b, 2, none⟩, some ⟨b, 3, none⟩) H') :
    CallT Pg fQdg [.pointer (some (adr b))] (.one (.agg [.ptr, .ptr, .ptr, .ptr])) H k := by
  refine cQda _ ?_
  unfold vQda
  simp only [NilCk_some, adr_add]
  refine Nw_row (vs := [.pointer none, .pointer none, .pointer none, .pointer none]) fun b1 H1 hb1 hE1 _ hr1 => ?_
  refine St_row hr1 (by simp) fun H2 hU2 _ hr2 => St_row hr2 (by simp) fun H3 hU3 _ hr3 => St_row hr3 (by simp) fun H4 hU4 _ hr4 => St_row hr4 (by simp) fun H5 hU5 _ hr5 => ?_
  refine ⟨(some ⟨b, 0, none⟩, some ⟨b, 1, none⟩, some ⟨b, 2, none⟩, some ⟨b, 3, none⟩), Row.rd_all hr5, hk _ (extUpd hE1 (by omega) (((hU2.trans hU3 fun _ _ h => h).trans hU4 fun _ _ h => h).trans hU5 fun _ _ h => h))⟩
theorem ArI_sets {b q : Nat} (hq : q < 4) {k : Option Addr → Prop} (hk : k (some ⟨b, q, none⟩)) : ArI .ptr 4 #[.pointer (some ⟨b, 0, none⟩), .pointer (some ⟨b, 1, none⟩), .pointer (some ⟨b, 2, none⟩), .pointer (some ⟨b, 3, none⟩)] (q : Nat) k := by
  refine ⟨some ⟨b, q, none⟩, by omega, by omega, ?_, hk⟩
  rw [Int.toNat_natCast]
  match q, hq with
  | 0, _ => rfl
  | 1, _ => rfl
  | 2, _ => rfl
  | 3, _ => rfl
theorem sys_cell {b : Nat} {x : Sy} (hr : Row H b TQaw (sysV x)) {q : Nat} (hq : q < 4) : hcell H ⟨b, q, none⟩ = some (slV (x.s q)) := by
  rw [hr.cell]
  match q, hq with
  | 0, _ => rfl
  | 1, _ => rfl
  | 2, _ => rfl
  | 3, _ => rfl
theorem wsys_rou {b : Nat} {x : Sy} (hr : Row H b TQaw (sysV x)) : hcells H ⟨b, 4, none⟩ 0 (rouV x.rou) := by
  have h0 : hcells H (adr b) 0 ([slV (x.s 0), slV (x.s 1), slV (x.s 2), slV (x.s 3)] ++ rouV x.rou) := Row.rd_all hr
  have h := hcellsShift (n := 4) (i := 0) |>.1 (hcells_app.1 h0).2
  rwa [adr_add] at h
theorem sys_copy {x : Sy} {K : Nat → Heap → Prop} (hK : ∀ b H', b = H.size → Ext H H' → Row H' b TQaw (sysV x) → K b H') :
    Nw #[.slice none 0 0, .slice none 0 0, .slice none 0 0, .slice none 0 0, .string ByteArray.empty, .int .i64 0, .int .i64 0, .slice none 0 0] TQaw H fun b3 H6 =>
      St ((adr b3).add 0) (slV (x.s 0)) H6 fun H7 => St ((adr b3).add 1) (slV (x.s 1)) H7 fun H8 => St ((adr b3).add 2) (slV (x.s 2)) H8 fun H9 => St ((adr b3).add 3) (slV (x.s 3)) H9 fun H10 =>
      St ((adr b3).add 4) (.string x.rou.name) H10 fun H11 => St ((adr b3).add 5) (.int .i64 x.rou.params) H11 fun H12 => St ((adr b3).add 6) (.int .i64 x.rou.locals) H12 fun H13 => St ((adr b3).add 7) (slV x.rou.sl) H13 fun H14 => K b3 H14 := by
  refine Nw_row (vs := [.slice none 0 0, .slice none 0 0, .slice none 0 0, .slice none 0 0, .string ByteArray.empty, .int .i64 0, .int .i64 0, .slice none 0 0]) fun b1 H1 hb1 hE1 _ hr1 => ?_
  simp only [adr_add]
  refine St_row hr1 (by simp) fun H2 hU2 _ hr2 => St_row hr2 (by simp) fun H3 hU3 _ hr3 => St_row hr3 (by simp) fun H4 hU4 _ hr4 => St_row hr4 (by simp) fun H5 hU5 _ hr5 =>
    St_row hr5 (by simp) fun H6 hU6 _ hr6 => St_row hr6 (by simp) fun H7 hU7 _ hr7 => St_row hr7 (by simp) fun H8 hU8 _ hr8 => St_row hr8 (by simp) fun H9 hU9 _ hr9 => ?_
  exact hK _ _ hb1 (extUpd hE1 (by omega) (((((((hU2.trans hU3 fun _ _ h => h).trans hU4 fun _ _ h => h).trans hU5 fun _ _ h => h).trans hU6 fun _ _ h => h).trans hU7 fun _ _ h => h).trans hU8 fun _ _ h => h).trans hU9 fun _ _ h => h)) hr9
theorem rou_copy {x : Rou} {K : Nat → Heap → Prop} (hK : ∀ b H', b = H.size → Ext H H' → Row H' b TQak (rouV x) → K b H') :
    Nw #[.string ByteArray.empty, .int .i64 0, .int .i64 0, .slice none 0 0] TQak H fun b3 H6 =>
      St ((adr b3).add 0) (.string x.name) H6 fun H7 => St ((adr b3).add 1) (.int .i64 x.params) H7 fun H8 => St ((adr b3).add 2) (.int .i64 x.locals) H8 fun H9 => St ((adr b3).add 3) (slV x.sl) H9 fun H10 => K b3 H10 := by
  refine Nw_row (vs := [.string ByteArray.empty, .int .i64 0, .int .i64 0, .slice none 0 0]) fun b1 H1 hb1 hE1 _ hr1 => ?_
  simp only [adr_add]
  refine St_row hr1 (by simp) fun H2 hU2 _ hr2 => St_row hr2 (by simp) fun H3 hU3 _ hr3 => St_row hr3 (by simp) fun H4 hU4 _ hr4 => St_row hr4 (by simp) fun H5 hU5 _ hr5 => ?_
  exact hK _ _ hb1 (extUpd hE1 (by omega) (((hU2.trans hU3 fun _ _ h => h).trans hU4 fun _ _ h => h).trans hU5 fun _ _ h => h)) hr5
theorem ld_sys {a : Addr} {x : Sy} {k : Sl × Sl × Sl × Sl × ByteArray × Int × Int × Sl → Prop} (h : hcells H a 0 (sysV x)) (hk : k (x.s 0, x.s 1, x.s 2, x.s 3, x.rou.name, x.rou.params, x.rou.locals, x.rou.sl)) : LdC [.sl, .sl, .sl, .sl, .str, (.int .i64), (.int .i64), .sl] a H k :=
  ⟨(x.s 0, x.s 1, x.s 2, x.s 3, x.rou.name, x.rou.params, x.rou.locals, x.rou.sl), h, hk⟩
theorem code_far {r : Rou} (hr : CodeR H r) {bl : Nat} (hb : H.size ≤ bl) : r.code ≠ [] → ∀ a, r.sl.a = some a → a.block ≠ bl := fun hne a ha e => by
  have := RN.lt insV_len (by omega) hr hne ha
  omega
end
section
open Hc Hc.Vf
variable {H : Heap}
theorem no_sys {ss : List Sy} {fs : List Rou} {n : Nat} (hn : n < ss.length) (h : ¬ (rises4 ss[n] = true ∧ rouOk (ss[n]).rou = true ∧ sumL ((ss.map (·.rou)).take n) + (ss[n]).rou.code.length ≤ 2000)) : ¬ MayP ss fs := by
  rintro ⟨_, _, g1, _, g2⟩
  have g3 := g1 _ (List.getElem_mem hn)
  refine h ⟨g3.1, g3.2, ?_⟩
  have e := sumL_succ (rs := ss.map (·.rou)) (n := n) (by simpa using hn)
  rw [List.getElem_map] at e
  have e2 := sumL_take (rs := ss.map (·.rou)) (n := n + 1)
  omega
theorem no_fun {ss : List Sy} {fs : List Rou} {n : Nat} (hn : n < fs.length) (h : ¬ (rouOk fs[n] = true ∧ sumL (ss.map (·.rou)) + sumL (fs.take n) + (fs[n]).code.length ≤ 2000)) : ¬ MayP ss fs := by
  rintro ⟨_, _, _, g1, g2⟩
  refine h ⟨g1 _ (List.getElem_mem hn), ?_⟩
  have e := sumL_succ (rs := fs) (n := n) hn
  have e2 := sumL_take (rs := fs) (n := n + 1)
  omega
theorem rises4_at {x : Sy} : rises4 x = true ↔ ∀ q, q < 4 → risesOk 0 (x.l q) = true := by
  unfold rises4
  rw [List.all_eq_true]
  exact ⟨fun h q hq => h q (List.mem_range.2 hq), fun h q hq => h q (List.mem_range.1 hq)⟩
theorem s_may {p : Sl × Sl} {ss : List Sy} {fs : List Rou} (hP : PrgR H p ss fs) {k : Bool → Heap → Prop} (hk : ∀ H', Ext H H' → k (decide (MayP ss fs)) H') : CallT Pg fQde [wprgA p] (.one (.c .bool)) H k := by
  refine cQc8 p ?_
  unfold vQc8
  refine Nw_row (vs := [slV p.1, slV p.2]) fun b1 H1 hb1 hE1 hz1 hr1 => Nw_row (vs := [.int .i64 0]) fun b2 H2 hb2 hE2 hz2 hr2 => ?_
  have z1 := hE1.size
  have z2 := hE2.size
  refine St_row hr2 (by simp) fun H3 hU3 hz3 hr3 => ?_
  have hr3 : Row H3 b2 TQap [.int .i64 ((2000 : Nat) : Int)] := hr3
  have hE13 : Ext H1 H3 := extUpd hE2 (by omega) hU3
  have hE3 := hE1.trans hE13 fun _ _ h => h
  have hp3 : Row H3 b1 TQaj [slV p.1, slV p.2] := hE13.row hr1 fun h => h
  have hbl : H.size ≤ b2 := by omega
  have hb12 : b1 ≠ b2 := by omega
  have hsl := hP.sys.len
  have hfl := hP.fun'.len
  simp only [adr_add]
  have fl : ∀ {H'}, Ext H H' → ¬ MayP ss fs → k false H' := fun {H'} hE h => by
    have := hk _ hE; rwa [decide_eq_false h] at this
  refine Jn.mk (fun j H' => H3 = H' ∧ j = decide (16 < ss.length ∨ 16 < fs.length)) (fun kk hkk => ?_) ?_
  · refine Ld_sl (s := p.1) ((hp3.cell 0).trans rfl) (Br_dec (fun h => hkk _ _ ⟨rfl, (decide_eq_true (by omega)).symm⟩) fun h => Ld_sl (s := p.2) ((hp3.cell 1).trans rfl) (hkk _ _ ⟨rfl, decide_eq_decide.2 (by omega)⟩))
  rintro j _ ⟨rfl, rfl⟩
  refine Br_dec (fun h => fl hE3 fun g => by have := g.1; have := g.2.1; omega) fun h => ?_
  refine Ld_sl (s := p.1) ((hp3.cell 0).trans rfl) ?_
  refine LoopT.mk (fun (i : Int) H' => ∃ n : Nat, i = n ∧ n ≤ ss.length ∧ Upd (· = b2) H3 H' ∧ (∀ j (hj : j < ss.length), j < n → rises4 ss[j] = true ∧ rouOk (ss[j]).rou = true) ∧ sumL ((ss.map (·.rou)).take n) ≤ 2000 ∧ Row H' b2 TQap [.int .i64 ((2000 - sumL ((ss.map (·.rou)).take n) : Nat) : Int)])
    (fun i _ => ss.length - i.toNat) ⟨0, rfl, Nat.zero_le _, .refl _ _, fun j hj h => by omega, by simp [sumL], hr3⟩ ?_
  rintro next _ H5 ⟨n, rfl, hn, hU5, hall, hsum, hr5⟩ hnext
  have hE35 : ∀ {H'}, Upd (· = b2) H3 H' → Ext H H' := fun hu => hE3.trans hu fun b hb e => by omega
  refine Br_dec (fun hlt => ?_) fun hge => ?_
  · have hn3 : n < ss.length := by omega
    have hx := hP.sysR _ (List.getElem_mem hn3)
    have hsucc := sumL_succ (rs := ss.map (·.rou)) (n := n) (by simpa using hn3)
    rw [List.getElem_map] at hsucc
    have hno := fun h => no_sys (fs := fs) hn3 h
    have hget : ss[n]! = ss[n] := getElem!_pos ss n hn3
    refine IxA_rn' sysV_len (hP.sys.ext (hE35 hU5)) (by omega) (j := n) rfl hn3 fun a ha => ?_
    rw [hget] at ha
    generalize hxe : ss[n] = x at *
    refine ld_sys ha (sys_copy (x := x) fun b3 H14 hb3 hE14 hr14 => ws_sets fun H15 hE15 => ?_)
    have hE15' : Ext H5 H15 := hE14.trans hE15 fun _ _ h => h
    have hU15 : Upd (· = b2) H3 H15 := hU5.trans hE15' fun _ _ h => h.elim
    have hr15 := hE15.row hr14 fun h => h
    refine LoopT.mk (fun (i : Int) H' => H15 = H' ∧ ∃ q : Nat, i = q ∧ q ≤ 4 ∧ ∀ e, e < q → risesOk 0 (x.l e) = true) (fun i _ => 4 - i.toNat) ⟨rfl, 0, rfl, by omega, fun e he => by omega⟩ ?_
    rintro next2 _ _ ⟨rfl, q, rfl, hq, hri⟩ hnext2
    refine Br_dec (fun hlt2 => ?_) fun hge2 => ?_
    · have hq3 : q < 4 := by omega
      refine ArI_sets hq3 ?_
      simp only [NilCk_some]
      refine Ld_sl (s := x.s q) (sys_cell hr15 hq3) (s_rises ((hx.sets q hq3).ext (hE35 hU15)) (hx.lens q hq3) (Br_not (Br.mk (fun h => ?_) fun h => ?_)))
      · refine Lt.mk (u := ((q + 1 : Nat) : Int)) (by rw [wrap_i64_id] <;> omega) (hnext2 _ _ ⟨rfl, q + 1, rfl, hq3, fun e he => ?_⟩ (by omega))
        rcases Nat.lt_or_ge e q with g | g
        · exact hri e g
        · have : e = q := by omega
          subst this; exact h
      · refine fl (hE35 hU15) (hno fun g => ?_)
        rw [rises4_at.1 g.1 q hq3] at h; cases h
    · have hq4 : q = 4 := by omega
      subst hq4
      have hr4 : rises4 x = true := rises4_at.2 hri
      refine ld_rou (r := x.rou) (wsys_rou hr15) (ws_written (r := x.rou) (hx.code.ext (hE35 hU15)) (hE15'.row hr5 fun h => h) (by omega) hx.clen (code_far hx.code hbl) fun H18 hU18 hr18 => ?_)
      have hU18' : Upd (· = b2) H3 H18 := hU15.trans hU18 fun _ _ h => h
      refine Br_not (Br.mk (fun h => ?_) fun h => ?_)
      · simp only [Bool.and_eq_true, decide_eq_true_eq] at h
        refine Lt.mk (u := ((n + 1 : Nat) : Int)) (by rw [wrap_i64_id] <;> omega) (hnext _ _ ⟨n + 1, rfl, hn3, hU18', fun j hj hjn => ?_, by omega, ?_⟩ (by omega))
        · rcases Nat.lt_or_ge j n with g | g
          · exact hall j hj g
          · have : j = n := by omega
            subst this
            rw [hxe]; exact ⟨hr4, h.1⟩
        · rw [show ((2000 - sumL ((ss.map (·.rou)).take (n + 1)) : Nat) : Int) = ((2000 - sumL ((ss.map (·.rou)).take n) : Nat) : Int) - x.rou.code.length by omega]
          exact hr18
      · refine fl (hE35 hU18') (hno fun g => ?_)
        rw [g.2.1, decide_eq_true (by omega)] at h; cases h
  · have hne : n = ss.length := by omega
    subst hne
    rw [List.take_of_length_le (by simp)] at hsum hr5
    have hss : ∀ x ∈ ss, rises4 x = true ∧ rouOk x.rou = true := fun x hx => by
      obtain ⟨j, hj, rfl⟩ := List.getElem_of_mem hx
      exact hall j hj hj
    have hp5 : Row H5 b1 TQaj [slV p.1, slV p.2] := hU5.row hp3 hb12
    refine Ld_sl (s := p.2) ((hp5.cell 1).trans rfl) ?_
    refine LoopT.mk (fun (i : Int) H' => ∃ n : Nat, i = n ∧ n ≤ fs.length ∧ Upd (· = b2) H3 H' ∧ (∀ j (hj : j < fs.length), j < n → rouOk fs[j] = true) ∧ sumL (ss.map (·.rou)) + sumL (fs.take n) ≤ 2000 ∧ Row H' b2 TQap [.int .i64 ((2000 - (sumL (ss.map (·.rou)) + sumL (fs.take n)) : Nat) : Int)])
      (fun i _ => fs.length - i.toNat) ⟨0, rfl, Nat.zero_le _, hU5, fun j hj h => by omega, by simpa [sumL] using hsum, by simpa [sumL] using hr5⟩ ?_
    rintro next3 _ H19 ⟨n, rfl, hn, hU19, hall3, hsum3, hr19⟩ hnext3
    refine Br_dec (fun hlt => ?_) fun hge3 => ?_
    · have hn3 : n < fs.length := by omega
      have hx := hP.funR _ (List.getElem_mem hn3)
      have hxl := hP.funL _ (List.getElem_mem hn3)
      have hsucc := sumL_succ (rs := fs) (n := n) hn3
      have hno := fun h => no_fun (ss := ss) hn3 h
      have hget : fs[n]! = fs[n] := getElem!_pos fs n hn3
      refine IxA_rn' rouV_len (hP.fun'.ext (hE35 hU19)) (by omega) (j := n) rfl hn3 fun a ha => ?_
      rw [hget] at ha
      refine ld_rou ha (rou_copy (x := fs[n]) fun b3 H24 hb3 hE24 hr24 => ?_)
      have hU24 : Upd (· = b2) H3 H24 := hU19.trans hE24 fun _ _ h => h.elim
      refine ld_rou (r := fs[n]) hr24.rd_all (ws_written (r := fs[n]) (hx.ext (hE35 hU24)) (hE24.row hr19 fun h => h) (by omega) hxl (code_far hx hbl) fun H25 hU25 hr25 => ?_)
      have hU25' : Upd (· = b2) H3 H25 := hU24.trans hU25 fun _ _ h => h
      refine Br_not (Br.mk (fun h => ?_) fun h => ?_)
      · simp only [Bool.and_eq_true, decide_eq_true_eq] at h
        refine Lt.mk (u := ((n + 1 : Nat) : Int)) (by rw [wrap_i64_id] <;> omega) (hnext3 _ _ ⟨n + 1, rfl, hn3, hU25', fun j hj hjn => ?_, by omega, ?_⟩ (by omega))
        · rcases Nat.lt_or_ge j n with g | g
          · exact hall3 j hj g
          · have : j = n := by omega
            subst this; exact h.1
        · rw [show ((2000 - (sumL (ss.map (·.rou)) + sumL (fs.take (n + 1))) : Nat) : Int) = ((2000 - (sumL (ss.map (·.rou)) + sumL (fs.take n)) : Nat) : Int) - (fs[n]).code.length by omega]
          exact hr25
      · refine fl (hE35 hU25') (hno fun g => ?_)
        rw [g.1, decide_eq_true (by omega)] at h; cases h
    · have hne : n = fs.length := by omega
      subst hne
      rw [List.take_length] at hsum3
      have := hk _ (hE35 hU19)
      rwa [decide_eq_true ⟨by omega, by omega, hss, fun r hr => by
        obtain ⟨j, hj, rfl⟩ := List.getElem_of_mem hr
        exact hall3 j hj hj, hsum3⟩] at this
end
section
open Hc Hc.Vf
variable {H : Heap}
theorem By.mono {s : Sl} {n m : Nat} (h : By H s n) (hm : n ≤ m) : By H s m := by
  obtain ⟨vs, h1, h2, h3⟩ := h
  exact ⟨vs, h1, by omega, h3⟩
theorem s_putRoutine {r : Rou} {s : Sl} {n : Nat} (hr : CodeR H r) (hb : By H s n) (hn : n ≤ 2 ^ 30) (hnm : r.name.size ≤ 16) (hc : r.code.length ≤ 2000) {k : Sl → Heap → Prop} (hk : ∀ s' H', Ext H H' → By H' s' (n + 50000) → k s' H') :
    CallT Pg fQdh [.slice s.a s.len s.cap, rouA r] (.one (.c .sl)) H k := by
  refine cQdb _ (r.name, r.params, r.locals, r.sl) ?_
  unfold vQdb
  refine Nw_row (vs := rouV r) fun b1 H1 hb1 hE1 _ hr1 => ?_
  simp only [adr_add]
  have hrl := hr.len
  have ce : ∀ {H'}, Ext H1 H' → Row H' b1 TQak (rouV r) := fun hE => hE.row hr1 fun h => h
  have c0 : ∀ {H'}, Ext H1 H' → hcell H' (adr b1) = some (.string r.name) := fun hE => ((ce hE).cell 0).trans rfl
  have c1 : ∀ {H'}, Ext H1 H' → hcell H' ⟨b1, 1, none⟩ = some (.int .i64 r.params) := fun hE => ((ce hE).cell 1).trans rfl
  have c2 : ∀ {H'}, Ext H1 H' → hcell H' ⟨b1, 2, none⟩ = some (.int .i64 r.locals) := fun hE => ((ce hE).cell 2).trans rfl
  have c3 : ∀ {H'}, Ext H1 H' → hcell H' ⟨b1, 3, none⟩ = some (slV r.sl) := fun hE => ((ce hE).cell 3).trans rfl
  have e0 : Ext H1 H1 := .refl _ _
  refine Ld_str (c0 e0) (Ld_int (c1 e0) (Ld_int (c2 e0) (Ld_sl (s := r.sl) (c3 e0) ?_)))
  refine s_PutText (hb.ext hE1) (by omega) (by omega) fun s2 H2 hE2 hb2 => ?_
  refine Stab_all (fun x hx => ?_) ?_
  · simp only [List.mem_cons, List.not_mem_nil, or_false] at hx
    rcases hx with rfl | rfl | rfl
    · exact c3 hE2
    · exact c2 hE2
    · exact c1 hE2
  refine s_put hb2 (by omega) fun s3 H3 hE3 hb3 => ?_
  have hE3' := hE2.trans hE3 fun _ _ h => h
  refine Stab_all (fun x hx => ?_) ?_
  · simp only [List.mem_cons, List.not_mem_nil, or_false] at hx
    rcases hx with rfl | rfl | rfl
    · exact c3 hE3'
    · exact c2 hE3'
    · exact c0 hE3'
  refine s_put hb3 (by omega) fun s4 H4 hE4 hb4 => ?_
  have hE4' := hE3'.trans hE4 fun _ _ h => h
  refine Stab_all (fun x hx => ?_) ?_
  · simp only [List.mem_cons, List.not_mem_nil, or_false] at hx
    rcases hx with rfl | rfl | rfl
    · exact c3 hE4'
    · exact c1 hE4'
    · exact c0 hE4'
  refine s_put hb4 (by omega) fun s5 H5 hE5 hb5 => ?_
  have hE5' := hE4'.trans hE5 fun _ _ h => h
  refine Stab_all (fun x hx => ?_) ?_
  · simp only [List.mem_cons, List.not_mem_nil, or_false] at hx
    rcases hx with rfl | rfl | rfl | rfl
    · exact c3 hE5'
    · exact c2 hE5'
    · exact c1 hE5'
    · exact c0 hE5'
  refine Ld_sl (s := r.sl) (c3 hE5') ?_
  have hE05 := hE1.trans hE5' fun _ _ h => h
  refine LoopT.mk (fun (st : Sl × Int) H' => ∃ j : Nat, st.2 = j ∧ j ≤ r.code.length ∧ Ext H H' ∧ By H' st.1 (n + 100 + 20 * j)) (fun st _ => r.code.length - st.2.toNat) ⟨0, rfl, Nat.zero_le _, hE05, hb5.mono (by omega)⟩ ?_
  rintro next ⟨s6, _⟩ H6 ⟨j, rfl, hj, hE6, hb6⟩ hnext
  dsimp only at hb6 ⊢
  refine Br_dec (fun hlt => Jn_in ?_) fun hge => ?_
  · have hj3 : j < r.code.length := by omega
    refine IxA_rn' insV_len (hr.ext hE6) (by omega) (j := j) rfl hj3 fun a ha => ⟨((r.code[j]!).1, (r.code[j]!).2), ha, ?_⟩
    refine Nw_row (vs := [.int .i64 0, .int .i64 0]) fun b2 H7 hb2 hE7 _ hr7 => ?_
    simp only [adr_add]
    refine St_row hr7 (by simp) fun H8 hU8 _ hr8 => St_row hr8 (by simp) fun H9 hU9 _ hr9 => ?_
    have hE9 : Ext H6 H9 := (extUpd hE7 (by omega) (hU8.trans hU9 fun _ _ h => h))
    have hr9 : Row H9 b2 TQag (insV r.code[j]!) := hr9
    refine Ld_int (n := (r.code[j]!).1) ((hr9.cell 0).trans rfl) (s_put (hb6.ext hE9) (by omega) fun s10 H10 hE10 hb10 => ?_)
    have hr10 := hE10.row hr9 fun h => h
    refine Ld_int (n := (r.code[j]!).1) ((hr10.cell 0).trans rfl) (s_shapeOf fun H11 w hE11 _ => ?_)
    have hr11 := hE11.row hr10 fun h => h
    have hE11' : Ext H H11 := hE6.trans (hE9.trans (hE10.trans hE11 fun _ _ h => h) fun _ _ h => h) fun _ _ h => h
    have nx : ∀ {s' H'}, Ext H H' → By H' s' (n + 100 + 20 * (j + 1)) → Lt (IntKind.wrap .i64 ((j : Int) + 1)) fun t1 => next (s', t1) H' := fun hE hb =>
      Lt.mk (u := ((j + 1 : Nat) : Int)) (by rw [wrap_i64_id] <;> omega) (hnext _ _ ⟨j + 1, rfl, hj3, hE, hb⟩ (by dsimp only; omega))
    refine Jn_in (Br.mk (fun h => ?_) fun h => nx hE11' ((hb10.ext hE11).mono (by omega)))
    refine Ld_int (n := (r.code[j]!).2) ((hr11.cell 1).trans rfl) (s_PutInt (hb10.ext hE11) (by omega) fun s12 H12 hE12 hb12 => nx (hE11'.trans hE12 fun _ _ h => h) (hb12.mono (by omega)))
  · exact hk _ _ hE6 (hb6.mono (by omega))
theorem rises_len : ∀ {xs : List Int} {l : Int}, risesOk l xs = true → 0 ≤ l → l ≤ 12 → xs.length ≤ 12 - l.toNat
  | [], _, _, _, _ => Nat.zero_le _
  | x :: t, l, h, h0, h1 => by
    unfold risesOk at h
    simp only [Bool.and_eq_true, decide_eq_true_eq] at h
    have := rises_len h.2 (by omega) (by omega)
    simp only [List.length_cons]; omega
theorem rou_size {r : Rou} (h : rouOk r = true) : r.name.size ≤ 16 := by
  unfold rouOk at h
  simp only [Bool.and_eq_true, decide_eq_true_eq] at h
  exact h.1.1.2
theorem s_Encode {p : Sl × Sl} {ss : List Sy} {fs : List Rou} (hP : PrgR H p ss fs) {k : Sl × Int → Heap → Prop} (hk : ∀ s' H', Ext H H' → k (s', if MayP ss fs then 0 else 130) H') : CallT Pg fQc5 [wprgA p] (.tup [(.c .sl), (.c (.int .i64))]) H k := by
  refine cQcz p ?_
  unfold vQcz
  refine Nw_row (vs := [slV p.1, slV p.2]) fun b1 H1 hb1 hE1 _ hr1 => ?_
  simp only [adr_add]
  refine ⟨p, hr1.rd_all, s_may (hP.ext hE1) fun H2 hE2 => ?_⟩
  have hE2' := hE1.trans hE2 fun _ _ h => h
  refine Br_not (Br_dec (fun hM => ?_) fun hM => ?_)
  rotate_left
  · have := hk ⟨none, 0, 0⟩ _ hE2'
    rwa [if_neg hM] at this
  simp only [if_pos hM] at hk
  have hM' := hM
  obtain ⟨m1, m2, m3, m4, m5⟩ := hM
  have hp : ∀ {H'}, Ext H2 H' → Row H' b1 TQaj [slV p.1, slV p.2] := fun hE => hE.row (hE2.row hr1 fun h => h) fun h => h
  have hsl := hP.sys.len
  have hfl := hP.fun'.len
  have rc : ∀ {rs : List Rou} {j : Nat} (hj : j < rs.length), sumL rs ≤ 2000 → (rs[j]).code.length ≤ 2000 := fun {rs j} hj hs => by
    have e := sumL_succ (rs := rs) (n := j) hj
    have e2 := sumL_take (rs := rs) (n := j + 1)
    omega
  have e0 : Ext H2 H2 := .refl _ _
  refine Ld_sl (s := p.1) (((hp e0).cell 0).trans rfl) (s_put (By.nil _) (by omega) fun s3 H3 hE3 hb3 => ?_)
  refine Ld_sl (s := p.1) (((hp hE3).cell 0).trans rfl) ?_
  refine LoopT.mk (fun (st : Sl × Int) H' => ∃ j : Nat, st.2 = j ∧ j ≤ ss.length ∧ Ext H2 H' ∧ By H' st.1 (10 + 60000 * j)) (fun st _ => ss.length - st.2.toNat) ⟨0, rfl, Nat.zero_le _, hE3, hb3.mono (by omega)⟩ ?_
  rintro next ⟨s4, _⟩ H4 ⟨j, rfl, hj, hE4, hb4⟩ hnext
  dsimp only at hb4 ⊢
  have hEE : ∀ {H'}, Ext H2 H' → Ext H H' := fun hE => hE2'.trans hE fun _ _ h => h
  refine Br_dec (fun hlt => ?_) fun hge => ?_
  · have hj3 : j < ss.length := by omega
    have hx := hP.sysR _ (List.getElem_mem hj3)
    have hxm := m3 _ (List.getElem_mem hj3)
    have hget : ss[j]! = ss[j] := getElem!_pos ss j hj3
    have hcl := rc (rs := ss.map (·.rou)) (j := j) (by simpa using hj3) (by omega)
    rw [List.getElem_map] at hcl
    refine IxA_rn' sysV_len (hP.sys.ext (hEE hE4)) (by omega) (j := j) rfl hj3 fun a ha => ?_
    rw [hget] at ha
    generalize ss[j] = x at *
    refine ld_sys ha (sys_copy (x := x) fun b3 H14 hb3 hE14 hr14 => ws_sets fun H15 hE15 => ?_)
    have hE15' : Ext H4 H15 := hE14.trans hE15 fun _ _ h => h
    have hr15 := hE15.row hr14 fun h => h
    refine LoopT.mk (fun (st : Sl × Int) H' => ∃ q : Nat, st.2 = q ∧ q ≤ 4 ∧ Ext H15 H' ∧ By H' st.1 (10 + 60000 * j + 200 * q)) (fun st _ => 4 - st.2.toNat) ⟨0, rfl, by omega, .refl _ _, (hb4.ext hE15').mono (by omega)⟩ ?_
    rintro next2 ⟨s16, _⟩ H16 ⟨q, rfl, hq, hE16, hb16⟩ hnext2
    dsimp only at hb16 ⊢
    have hE16' := hE4.trans (hE15'.trans hE16 fun _ _ h => h) fun _ _ h => h
    have hr16 := hE16.row hr15 fun h => h
    refine Br_dec (fun hlt2 => ?_) fun hge2 => ?_
    · have hq3 : q < 4 := by omega
      have hset := hx.sets q hq3
      have hlq := hset.len
      have hl12 := rises_len (rises4_at.1 hxm.1 q hq3) (by omega) (by omega)
      refine ArI_sets hq3 ?_
      simp only [NilCk_some]
      refine Ld_sl (s := x.s q) (sys_cell hr16 hq3) (s_put hb16 (by omega) fun s17 H17 hE17 hb17 => ?_)
      refine Ld_sl (s := x.s q) (sys_cell (hE17.row hr16 fun h => h) hq3) ?_
      refine LoopT.mk (fun (st : Sl × Int) H' => ∃ e : Nat, st.2 = e ∧ e ≤ (x.l q).length ∧ Ext H17 H' ∧ By H' st.1 (10 + 60000 * j + 200 * q + 10 + 10 * e)) (fun st _ => (x.l q).length - st.2.toNat) ⟨0, rfl, Nat.zero_le _, .refl _ _, hb17.mono (by omega)⟩ ?_
      rintro next3 ⟨s18, _⟩ H18 ⟨e, rfl, he, hE18, hb18⟩ hnext3
      dsimp only at hb18 ⊢
      have hE18' := hE17.trans hE18 fun _ _ h => h
      refine Br_dec (fun hlt3 => ?_) fun hge3 => ?_
      · have he3 : e < (x.l q).length := by omega
        refine IxA_rl (hset.ext (hEE (hE16'.trans hE18' fun _ _ h => h))) rfl he3 fun a ha => Ld_int (n := (x.l q)[e]) (by rw [ha]) (s_put hb18 (by omega) fun s19 H19 hE19 hb19 => ?_)
        exact Lt.mk (u := ((e + 1 : Nat) : Int)) (by rw [wrap_i64_id] <;> omega) (hnext3 _ _ ⟨e + 1, rfl, he3, hE18.trans hE19 fun _ _ h => h, hb19.mono (by omega)⟩ (by dsimp only; omega))
      · exact Lt.mk (u := ((q + 1 : Nat) : Int)) (by rw [wrap_i64_id] <;> omega) (hnext2 _ _ ⟨q + 1, rfl, hq3, hE16.trans hE18' fun _ _ h => h, hb18.mono (by omega)⟩ (by dsimp only; omega))
    · have hq4 : q = 4 := by omega
      subst hq4
      refine ld_rou (r := x.rou) (wsys_rou hr16) (s_putRoutine (hx.code.ext (hEE hE16')) hb16 (by omega) (rou_size hxm.2) hcl fun s20 H20 hE20 hb20 => ?_)
      exact Lt.mk (u := ((j + 1 : Nat) : Int)) (by rw [wrap_i64_id] <;> omega) (hnext _ _ ⟨j + 1, rfl, hj3, hE16'.trans hE20 fun _ _ h => h, hb20.mono (by omega)⟩ (by dsimp only; omega))
  · refine Ld_sl (s := p.2) (((hp hE4).cell 1).trans rfl) (s_put hb4 (by omega) fun s5 H5 hE5 hb5 => ?_)
    have hE5' := hE4.trans hE5 fun _ _ h => h
    refine Ld_sl (s := p.2) (((hp hE5').cell 1).trans rfl) ?_
    refine LoopT.mk (fun (st : Sl × Int) H' => ∃ e : Nat, st.2 = e ∧ e ≤ fs.length ∧ Ext H2 H' ∧ By H' st.1 (10 + 60000 * 16 + 10 + 60000 * e)) (fun st _ => fs.length - st.2.toNat) ⟨0, rfl, Nat.zero_le _, hE5', hb5.mono (by omega)⟩ ?_
    rintro next4 ⟨s21, _⟩ H21 ⟨e, rfl, he, hE21, hb21⟩ hnext4
    dsimp only at hb21 ⊢
    refine Br_dec (fun hlt4 => ?_) fun hge4 => hk _ _ (hEE hE21)
    have he3 : e < fs.length := by omega
    have hx := hP.funR _ (List.getElem_mem he3)
    have hxm := m4 _ (List.getElem_mem he3)
    have hget : fs[e]! = fs[e] := getElem!_pos fs e he3
    have hcl := rc (rs := fs) (j := e) he3 (by omega)
    refine IxA_rn' rouV_len (hP.fun'.ext (hEE hE21)) (by omega) (j := e) rfl he3 fun a ha => ?_
    rw [hget] at ha
    refine ld_rou ha (rou_copy (x := fs[e]) fun b3 H24 hb3 hE24 hr24 => ?_)
    have hE24' := hE21.trans hE24 fun _ _ h => h
    refine ld_rou (r := fs[e]) hr24.rd_all (s_putRoutine (r := fs[e]) (hx.ext (hEE hE24')) (hb21.ext hE24) (by omega) (rou_size hxm) hcl fun s25 H25 hE25 hb25 => ?_)
    exact Lt.mk (u := ((e + 1 : Nat) : Int)) (by rw [wrap_i64_id] <;> omega) (hnext4 _ _ ⟨e + 1, rfl, he3, hE24'.trans hE25 fun _ _ h => h, hb25.mono (by omega)⟩ (by dsimp only; omega))
end
section
open Hc Hc.Vf
variable {H : Heap}
structure Rt where
  at' : Nat
  rou : Rou
  ptr : Option Addr
instance : Inhabited Rt := ⟨⟨0, default, none⟩⟩
abbrev rtV (x : Rt) : List Value := [.int .i64 (x.at' : Nat), .string x.rou.name, .int .i64 x.rou.params, .int .i64 x.rou.locals, slV x.rou.sl, .pointer x.ptr]
theorem rtV_len (x : Rt) : (rtV x).length = 6 := rfl
abbrev rousL (ss : List Sy) (fs : List Rou) : List Rou := ss.map (·.rou) ++ fs
structure PRt (H : Heap) (ss : List Sy) (fs : List Rou) (j : Nat) (x : Rt) : Prop where
  at_ : x.at' = sumL ((rousL ss fs).take j)
  rou : x.rou = (rousL ss fs)[j]!
  sys : j < ss.length → ∃ a, x.ptr = some a ∧ hcells H a 0 (sysV (ss[j]!))
  non : ss.length ≤ j → x.ptr = none
theorem snoc_at {α : Type} [Inhabited α] {l : List α} {x : α} {P : Nat → α → Prop} (h : ∀ j, j < l.length → P j (l[j]!)) (hx : P l.length x) : ∀ j, j < (l ++ [x]).length → P j ((l ++ [x])[j]!) := by
  intro j hj
  rw [List.length_append, List.length_singleton] at hj
  rcases Nat.lt_or_ge j l.length with g | g
  · rw [getElem!_pos _ _ (by rw [List.length_append, List.length_singleton]; omega), List.getElem_append_left g, ← getElem!_pos l j g]
    exact h j g
  · have : j = l.length := by omega
    subst this
    rw [getElem!_pos _ _ (by rw [List.length_append, List.length_singleton]; omega)]
    simpa using hx
theorem ws_routines {p : Sl × Sl} {ss : List Sy} {fs : List Rou} (hP : PrgR H p ss fs) (hM : MayP ss fs) {k : Sl → Heap → Prop}
    (hk : ∀ s rts H', Ext H H' → RN rtV 6 H' s rts → rts.length = ss.length + fs.length → (∀ j, j < rts.length → PRt H ss fs j (rts[j]!)) → k s H') : CallT Pg fQc6 [wprgA p] (.one (.c .sl)) H k := by
  refine cQc0 p ?_
  unfold vQc0
  obtain ⟨m1, m2, _, _, m5⟩ := hM
  refine Nw_row (vs := [slV p.1, slV p.2]) fun b1 H1 hb1 hE1 _ hr1 => ?_
  simp only [adr_add, NilCk_some]
  have hp : ∀ {H'}, Ext H1 H' → Row H' b1 TQaj [slV p.1, slV p.2] := fun hE => hE.row hr1 fun h => h
  have hsl := hP.sys.len
  have hfl := hP.fun'.len
  have hrl : (rousL ss fs).length = ss.length + fs.length := by rw [List.length_append, List.length_map]
  have hsum : sumL (rousL ss fs) ≤ 2000 := by
    unfold sumL at m5 ⊢
    rw [List.map_append, List.sum_append]; exact m5
  have hst : ∀ j, sumL ((rousL ss fs).take j) ≤ 2000 := fun j => Nat.le_trans sumL_take hsum
  have hsucc : ∀ j, j < (rousL ss fs).length → sumL ((rousL ss fs).take (j + 1)) = sumL ((rousL ss fs).take j) + ((rousL ss fs)[j]!).code.length := fun j hj => by rw [sumL_succ hj, getElem!_pos (rousL ss fs) j hj]
  have hrs : ∀ j, j < ss.length → (rousL ss fs)[j]! = (ss[j]!).rou := fun j hj => by
    rw [getElem!_pos _ _ (by rw [hrl]; omega), List.getElem_append_left (by simpa using hj), List.getElem_map, getElem!_pos ss j hj]
  have hrf : ∀ j, j < fs.length → (rousL ss fs)[ss.length + j]! = fs[j]! := fun j hj => by
    rw [getElem!_pos _ _ (by rw [hrl]; omega), List.getElem_append_right (by simp), getElem!_pos fs j hj]
    simp
  refine Ld_sl (s := p.1) ((hr1.cell 0).trans rfl) ?_
  have app : ∀ {s : Sl} {rts : List Rt} {x : Rt} {H2 : Heap} {K : Sl → Heap → Prop}, Ext H1 H2 → VecN H2 TQbg 6 s (rts.flatMap rtV) → rts.length ≤ 40 → s.len = rts.length → (∀ b, s.a = some (adr b) → H1.size ≤ b) →
      (∀ l1 H4, Ext H1 H4 → VecN H4 TQbg 6 l1 ((rts ++ [x]).flatMap rtV) → l1.len = (rts ++ [x]).length → (∀ b, l1.a = some (adr b) → H1.size ≤ b) → Upd (fun b => s.a = some (adr b)) H2 H4 → K l1 H4) →
      Nw #[.int .i64 (x.at' : Nat), .string x.rou.name, .int .i64 x.rou.params, .int .i64 x.rou.locals, slV x.rou.sl, .pointer x.ptr] TQbg H2 fun b2 H3 =>
        App TQbg 6 72 #[.int .i64 0, .string ByteArray.empty, .int .i64 0, .int .i64 0, .slice none 0 0, .pointer none] s ⟨some (adr b2), 1, 1⟩ H3 K := fun {s rts x H2 K} hE hv hl hlen hs hK => by
    have z2 := hE.size
    refine Nw_row (vs := rtV x) fun b2 H3 hb2 hE3 hz3 hr3 => ?_
    refine App_vecN (n := 6) rfl (by omega) (hv.ext hE3) (ws := rtV x) hr3.rd_all rfl (by simp [Value.oneCell']) (by omega) (by simp only; omega) fun l1 H4 hv4 hl4 hU4 ha4 => hK l1 H4 ((hE.trans hE3 fun _ _ h => h).trans hU4 fun b hb e => ?_) ?_ ?_ (fun b hb => ?_) ((hE3.mono fun _ _ h => h.elim).trans hU4 fun _ _ e => e.1)
    · have := hs b e.1; omega
    · rw [List.flatMap_append]; simpa using hv4
    · rw [hl4, hlen, List.length_append]; rfl
    · rcases ha4 with ⟨e, _⟩ | e
      · rw [e] at hb; exact hs b hb
      · rw [e] at hb; cases hb; omega
  refine LoopT.mk (fun (st : Sl × Int × Int) H' => ∃ (n : Nat) (rts : List Rt), st.2.2 = n ∧ n ≤ ss.length ∧ Ext H1 H' ∧ VecN H' TQbg 6 st.1 (rts.flatMap rtV) ∧ rts.length = n ∧ st.1.len = rts.length ∧ (∀ b, st.1.a = some (adr b) → H1.size ≤ b) ∧ st.2.1 = (sumL ((rousL ss fs).take n) : Nat) ∧ ∀ j, j < rts.length → PRt H ss fs j (rts[j]!))
    (fun st _ => ss.length - st.2.2.toNat) ⟨0, [], rfl, Nat.zero_le _, .refl _ _, ⟨rfl, .inl ⟨rfl, rfl, rfl⟩, Nat.le_refl _⟩, rfl, rfl, (fun b hb => by cases hb), by simp [sumL], fun j hj => by simp at hj⟩ ?_
  rintro next ⟨s, _, _⟩ H2 ⟨n, rts, rfl, hn, hE2, hv, hlr, hls, hsb, rfl, hall⟩ hnext
  dsimp only at hv hsb hls ⊢
  refine Br_dec (fun hlt => ?_) fun hge => ?_
  · have hn3 : n < ss.length := by omega
    have hcl := hsucc n (by omega)
    have hs1 := hst (n + 1)
    rw [hrs n hn3] at hcl
    refine Ld_sl (s := p.1) (((hp hE2).cell 0).trans rfl) ?_
    -- where the system lies, at the beginning
    obtain ⟨a0, ha0, hc0⟩ : ∃ a0, p.1.a = some a0 ∧ hcells H (a0.add (n * 8)) 0 (sysV ss[n]!) := by
      have : IxA 8 p.1 (n : Nat) fun a => ∃ a0, p.1.a = some a0 ∧ a = a0.add (n * 8) ∧ hcells H a 0 (sysV ss[n]!) := by
        obtain ⟨a0, h1, h2, h3, h4⟩ := IxA_rn' sysV_len hP.sys (by omega) (j := n) rfl hn3 (k := fun a => hcells H a 0 (sysV ss[n]!)) fun a ha => ha
        rw [Int.toNat_natCast] at h4
        exact ⟨a0, h1, h2, h3, a0, h1, by rw [Int.toNat_natCast], by rw [Int.toNat_natCast]; exact h4⟩
      obtain ⟨a1, h1, _, _, a0, h2, h3, h4⟩ := this
      exact ⟨a0, h2, h3 ▸ h4⟩
    refine IxA.mk ha0 (by omega) (by omega) ?_
    rw [Int.toNat_natCast]
    generalize hae : a0.add (n * 8) = a at hc0
    have hcE : ∀ {H'}, Ext H H' → hcells H' a 0 (sysV ss[n]!) := fun hE => hcells_upd hE (fun h => h) hc0
    have hE2' := hE1.trans hE2 fun _ _ h => h
    have r4 : ∀ {H'}, Ext H H' → hcells H' (a.add 4) 0 (rouV (ss[n]!).rou) := fun {H'} hE => by
      have h0 : hcells H' a 0 ([slV ((ss[n]!).s 0), slV ((ss[n]!).s 1), slV ((ss[n]!).s 2), slV ((ss[n]!).s 3)] ++ rouV (ss[n]!).rou) := hcE hE
      exact hcellsShift (n := 4) (i := 0) |>.1 (hcells_app.1 h0).2
    have hcode := (hP.sysR _ (List.getElem_mem hn3)).code.len
    rw [← getElem!_pos ss n hn3] at hcode
    refine ld_rou (r := (ss[n]!).rou) (r4 hE2') (app (x := ⟨sumL ((rousL ss fs).take n), (ss[n]!).rou, some a⟩) hE2 hv (by omega) hls hsb fun l1 H4 hE4 hv4 hl4 hs4 _ => ?_)
    have hE4' := hE1.trans hE4 fun _ _ h => h
    refine Ld_sl (s := (ss[n]!).rou.sl) ?_ ?_
    · have := r4 hE4'
      obtain ⟨_, _, _, h, _⟩ := this
      exact h
    rw [hcode]
    refine Lt.mk (u := ((sumL ((rousL ss fs).take (n + 1)) : Nat) : Int)) (by rw [wrap_i64_id] <;> omega) (Lt.mk (u := ((n + 1 : Nat) : Int)) (by rw [wrap_i64_id] <;> omega) (hnext _ _ ⟨n + 1, rts ++ [⟨sumL ((rousL ss fs).take n), (ss[n]!).rou, some a⟩], rfl, hn3, hE4, hv4, by rw [List.length_append, List.length_singleton, hlr], hl4, hs4, rfl, snoc_at hall ?_⟩ (by dsimp only; omega)))
    rw [hlr]
    exact ⟨rfl, (hrs n hn3).symm, fun _ => ⟨a, rfl, hc0⟩, fun h => by omega⟩
  · have hne : n = ss.length := by omega
    subst hne
    refine Ld_sl (s := p.2) (((hp hE2).cell 1).trans rfl) ?_
    refine LoopT.mk (fun (st : Sl × Int × Int) H' => ∃ (n : Nat) (rts : List Rt), st.2.2 = n ∧ n ≤ fs.length ∧ Ext H1 H' ∧ VecN H' TQbg 6 st.1 (rts.flatMap rtV) ∧ rts.length = ss.length + n ∧ st.1.len = rts.length ∧ (∀ b, st.1.a = some (adr b) → H1.size ≤ b) ∧ st.2.1 = (sumL ((rousL ss fs).take (ss.length + n)) : Nat) ∧ ∀ j, j < rts.length → PRt H ss fs j (rts[j]!))
      (fun st _ => fs.length - st.2.2.toNat) ⟨0, rts, rfl, Nat.zero_le _, hE2, hv, hlr, hls, hsb, rfl, hall⟩ ?_
    clear hv hls hsb hall hlr
    clear rts
    rintro next2 ⟨s3, _, _⟩ H3 ⟨n, rts, rfl, hn, hE3, hv, hlr, hls, hsb, rfl, hall⟩ hnext2
    dsimp only at hv hsb hls ⊢
    refine Br_dec (fun hlt => ?_) fun hge3 => ?_
    · have hn3 : n < fs.length := by omega
      have hcl := hsucc (ss.length + n) (by omega)
      have hs1 := hst (ss.length + n + 1)
      rw [hrf n hn3] at hcl
      rw [Nat.add_assoc] at hcl hs1
      have hcode := (hP.funR _ (List.getElem_mem hn3)).len
      rw [← getElem!_pos fs n hn3] at hcode
      have hE3' := hE1.trans hE3 fun _ _ h => h
      refine IxA_rn' rouV_len (hP.fun'.ext hE3') (by omega) (j := n) rfl hn3 fun a ha => ?_
      refine ld_rou ha (rou_copy (x := fs[n]!) fun b3 H4 hb3 hE4 hr4 => ld_rou (r := fs[n]!) hr4.rd_all (app (x := ⟨sumL ((rousL ss fs).take (ss.length + n)), fs[n]!, none⟩) (hE3.trans hE4 fun _ _ h => h) (hv.ext hE4) (by omega) hls hsb fun l1 H5 hE5 hv5 hl5 hs5 hU5 => ?_))
      have hr5 : Row H5 b3 TQak (rouV fs[n]!) := hU5.row hr4 fun e => (hv.ext hE4).ne e hr4 (by decide) rfl
      refine Ld_sl (s := (fs[n]!).sl) ((hr5.cell 3).trans rfl) ?_
      rw [hcode]
      refine Lt.mk (u := ((sumL ((rousL ss fs).take (ss.length + (n + 1))) : Nat) : Int)) (by rw [wrap_i64_id] <;> omega) (Lt.mk (u := ((n + 1 : Nat) : Int)) (by rw [wrap_i64_id] <;> omega) (hnext2 _ _ ⟨n + 1, rts ++ [⟨sumL ((rousL ss fs).take (ss.length + n)), fs[n]!, none⟩], rfl, hn3, hE5, hv5, by rw [List.length_append, List.length_singleton, hlr]; omega, hl5, hs5, rfl, snoc_at hall ?_⟩ (by dsimp only; omega)))
      rw [hlr]
      exact ⟨rfl, (hrf n hn3).symm, fun h => by omega, fun _ => rfl⟩
    · have hne : n = fs.length := by omega
      subst hne
      refine hk s3 rts H3 (hE1.trans hE3 fun _ _ h => h) ⟨hv.rd, by rw [hls], hv.lc⟩ hlr hall
end
section
open Hc Hc.Vf
variable {H : Heap}
instance decMemB (v : ByteArray) (xs : List ByteArray) : Decidable (v ∈ xs) := @List.instDecidableMemOfLawfulBEq _ instBEqOfDecidableEq inferInstance v xs
theorem bytes_beq (a b : ByteArray) : (a.toList == b.toList) = decide (a = b) := by
  rw [ByteArray.toList_eq, ByteArray.toList_eq]
  rw [Bool.eq_iff_iff, beq_iff_eq, decide_eq_true_eq]
  constructor
  · intro h
    apply ByteArray.ext
    exact Array.toList_inj.1 h
  · rintro rfl; rfl
def letB (x : Nat) : Bool := decide ((97 ≤ x ∧ x ≤ 122) ∨ (65 ≤ x ∧ x ≤ 90))
def chB (i x : Nat) : Bool := letB x || (decide (i ≠ 0) && decide (x = 95 ∨ (48 ≤ x ∧ x ≤ 57)))
def chsB : Nat → List UInt8 → Bool
  | _, [] => true
  | i, x :: t => chB i x.toNat && chsB (i + 1) t
def wordB (w : List UInt8) : Bool := chsB 0 w && decide (w ≠ [] ∧ w.length ≤ 16)
def wordsB (xs : List ByteArray) : Bool := (List.range xs.length).all fun i => wordB (xs[i]!).data.toList && !decide (xs[i]! ∈ xs.take i)
theorem s_word {x : ByteArray} (hl : x.size ≤ 2 ^ 60) {k : Bool → Heap → Prop} (hk : ∀ H', Ext H H' → k (wordB x.data.toList) H') : CallT Pg fQd8 [.string x] (.one (.c .bool)) H k := by
  refine cQd2 _ ?_
  unfold vQd2
  have hsz : x.data.toList.length = x.size := by rw [Array.length_toList]; rfl
  have hnil : x = (⟨#[]⟩ : ByteArray) ↔ x.data.toList = [] := by
    constructor
    · rintro rfl; rfl
    · intro h; apply ByteArray.ext; exact Array.toList_inj.1 (by rw [h])
  generalize hw : x.data.toList = w at *
  refine S2B_rb fun s H1 hs hE1 _ => ?_
  rw [hw] at hs
  have hsl := hs.len
  refine LoopT.mk (fun (i : Int) H' => H1 = H' ∧ ∃ n : Nat, i = n ∧ n ≤ w.length ∧ chsB 0 w = chsB n (w.drop n)) (fun i _ => w.length - i.toNat) ⟨rfl, 0, rfl, Nat.zero_le _, rfl⟩ ?_
  rintro next _ _ ⟨rfl, n, rfl, hn, he⟩ hnext
  refine Br_dec (fun hlt => ?_) fun hge => ?_
  · have hn3 : n < w.length := by omega
    rw [List.drop_eq_getElem_cons hn3, chsB] at he
    refine IxA_rb hs rfl hn3 fun a ha _ => Ld_int ha ?_
    generalize w[n].toNat = y at *
    refine Jn.mk (fun j H' => H1 = H' ∧ j = letB y) (fun kk hkk => ?_) ?_
    · refine Br_dec (fun h1 => Br_dec (fun h2 => hkk _ _ ⟨rfl, (decide_eq_true (by omega)).symm⟩) fun h2 => Br_dec (fun h3 => hkk _ _ ⟨rfl, decide_eq_decide.2 (by omega)⟩) fun h3 => hkk _ _ ⟨rfl, (decide_eq_false (by omega)).symm⟩)
        fun h1 => Br_dec (fun h3 => hkk _ _ ⟨rfl, decide_eq_decide.2 (by omega)⟩) fun h3 => hkk _ _ ⟨rfl, (decide_eq_false (by omega)).symm⟩
    rintro j1 _ ⟨rfl, rfl⟩
    refine Jn.mk (fun j H' => H1 = H' ∧ j = !chB n y) (fun kk hkk => ?_) ?_
    · refine Br_not (Br.mk (fun h => hkk _ _ ⟨rfl, by unfold chB; rw [h]; rfl⟩) fun h => Br.mk (fun h0 => hkk _ _ ⟨rfl, ?_⟩) fun h0 => Br.mk (fun h1 => Br_dec (fun h2 => hkk _ _ ⟨rfl, ?_⟩) fun h2 => hkk _ _ ⟨rfl, ?_⟩) fun h1 => hkk _ _ ⟨rfl, ?_⟩)
      · have h0 := beqI h0
        unfold chB; rw [h, decide_eq_false (show ¬ n ≠ 0 by omega)]; rfl
      · have h0 := bneI h0
        have h1 := (bne_iff_ne).1 h1
        unfold chB; rw [h, decide_eq_true (show n ≠ 0 by omega), decide_eq_false (show ¬ (y = 95 ∨ (48 ≤ y ∧ y ≤ 57)) by omega)]; rfl
      · have h0 := bneI h0
        have h1 := (bne_iff_ne).1 h1
        unfold chB; rw [h, decide_eq_true (show n ≠ 0 by omega), Bool.false_or, Bool.true_and, ← decide_not]
        exact decide_eq_decide.2 (by omega)
      · have h0 := bneI h0
        have h1 : (y : Int) = 95 := Classical.byContradiction fun e => by rw [bne_iff_ne.2 e] at h1; cases h1
        unfold chB; rw [h, decide_eq_true (show n ≠ 0 by omega), decide_eq_true (show y = 95 ∨ (48 ≤ y ∧ y ≤ 57) by omega)]; rfl
    rintro j2 _ ⟨rfl, rfl⟩
    refine Br_not (Br.mk (fun h => ?_) fun h => ?_)
    · rw [h, Bool.true_and] at he
      exact Lt.mk (u := ((n + 1 : Nat) : Int)) (by rw [wrap_i64_id] <;> omega) (hnext _ _ ⟨rfl, n + 1, rfl, hn3, he⟩ (by omega))
    · rw [h, Bool.false_and] at he
      have := hk _ hE1
      unfold wordB at this
      rwa [he, Bool.false_and] at this
  · rw [List.drop_eq_nil_of_le (by omega)] at he
    have hkk := hk _ hE1
    unfold wordB at hkk
    rw [he, chsB, Bool.true_and] at hkk
    refine Jn.mk (fun j H' => H1 = H' ∧ j = decide (w ≠ [] ∧ w.length ≤ 16)) (fun kk hkk => ?_) (by rintro j _ ⟨rfl, rfl⟩; exact hkk)
    rw [bytes_beq]
    refine Br_not (Br_dec (fun h => hkk _ _ ⟨rfl, (decide_eq_false fun g => g.1 (hnil.1 h)).symm⟩) fun h => hkk _ _ ⟨rfl, decide_eq_decide.2 ?_⟩)
    rw [← hsz]
    exact ⟨fun g => ⟨fun e => h (hnil.2 e), by omega⟩, fun g => by omega⟩
theorem s_IndexS {s : Sl} {xs : List ByteArray} {v : ByteArray} (hs : RL Value.string H s xs) (hl : xs.length ≤ 2 ^ 60) {k : Int → Heap → Prop} (hk : ∀ x, (0 ≤ x ↔ v ∈ xs) → k x H) : CallT Pg fQej [.slice s.a s.len s.cap, .string v] (.one (.c (.int .i64))) H k := by
  refine cQed _ _ ?_
  unfold vQed
  have hlen := hs.len
  refine LoopT.mk (fun i H' => H = H' ∧ ∃ n : Nat, i = n ∧ n ≤ xs.length ∧ ∀ j (h : j < xs.length), j < n → xs[j] ≠ v) (fun i _ => xs.length - i.toNat) ⟨rfl, 0, rfl, Nat.zero_le _, fun j _ hj => by omega⟩ ?_
  rintro next _ _ ⟨rfl, n, rfl, hn, hno⟩ hnext
  refine Br_dec (fun hlt => ?_) fun hge => hk _ ⟨fun h => by omega, fun h => ?_⟩
  · have hn2 : n < xs.length := by omega
    refine IxA_rl hs rfl hn2 fun a ha => Ld_str ha ?_
    rw [bytes_beq]
    refine Br_dec (fun h => hk _ ⟨fun _ => ?_, fun _ => by omega⟩) fun h => ?_
    · rw [h]; exact List.getElem_mem hn2
    · refine Lt.mk (u := ((n + 1 : Nat) : Int)) (by rw [wrap_i64_id] <;> omega) (hnext _ _ ⟨rfl, n + 1, rfl, hn2, fun j hj hjn => ?_⟩ (by omega))
      rcases Nat.lt_or_ge j n with e | e
      · exact hno j hj e
      · have : j = n := by omega
        subst this; exact fun e => h e.symm
  · obtain ⟨j, hj, e⟩ := List.getElem_of_mem h
    exact absurd e (hno j hj (by omega))
theorem s_ContainsS {s : Sl} {xs : List ByteArray} {v : ByteArray} (hs : RL Value.string H s xs) (hl : xs.length ≤ 2 ^ 60) {k : Bool → Heap → Prop} (hk : k (decide (v ∈ xs)) H) : CallT Pg fQd9 [.slice s.a s.len s.cap, .string v] (.one (.c .bool)) H k := by
  refine cQd3 _ _ ?_
  unfold vQd3
  refine s_IndexS hs hl fun x hx => ?_
  have : decide (x ≥ 0) = decide (v ∈ xs) := decide_eq_decide.2 hx
  rw [this]; exact hk
theorem s_words {s : Sl} {xs : List ByteArray} (hs : RL Value.string H s xs) (hl : xs.length ≤ 2 ^ 60) (hx : ∀ x ∈ xs, x.size ≤ 2 ^ 60) {k : Bool → Heap → Prop} (hk : ∀ H', Ext H H' → k (wordsB xs) H') : CallT Pg fQdr [.slice s.a s.len s.cap] (.one (.c .bool)) H k := by
  refine cQdl _ ?_
  unfold vQdl
  have hlen := hs.len
  have hcap := hs.cap
  refine LoopT.mk (fun i H' => Ext H H' ∧ ∃ n : Nat, i = n ∧ n ≤ xs.length ∧ ∀ j, j < n → (wordB (xs[j]!).data.toList && !decide (xs[j]! ∈ xs.take j)) = true) (fun i _ => xs.length - i.toNat) ⟨.refl _ _, 0, rfl, Nat.zero_le _, fun j hj => by omega⟩ ?_
  rintro next _ H1 ⟨hE1, n, rfl, hn, hall⟩ hnext
  refine Br_dec (fun hlt => ?_) fun hge => ?_
  · have hn2 : n < xs.length := by omega
    have hget : xs[n]! = xs[n] := getElem!_pos xs n hn2
    have no : ∀ H', Ext H H' → (wordB (xs[n]).data.toList && !decide (xs[n] ∈ xs.take n)) = false → k false H' := fun H' hE h => by
      have hkk := hk _ hE
      have : wordsB xs = false := by
        rw [Bool.eq_false_iff]
        intro e
        unfold wordsB at e
        have := List.all_eq_true.1 e n (List.mem_range.2 hn2)
        rw [hget, h] at this; cases this
      rwa [this] at hkk
    refine IxA_rl (hs.ext hE1) rfl hn2 fun a ha => Ld_str ha ?_
    refine Jn.mk (fun j H' => Ext H H' ∧ j = !(wordB (xs[n]).data.toList && !decide (xs[n] ∈ xs.take n))) (fun kk hkk => ?_) ?_
    · refine s_word (hx _ (List.getElem_mem hn2)) fun H3 hE3 => ?_
      have hE3' := hE1.trans hE3 fun _ _ h => h
      refine Br_not (Br.mk (fun h => ?_) fun h => hkk _ _ ⟨hE3', by rw [h]; rfl⟩)
      refine SlA0 (by omega) (by omega) (by omega) ?_
      rw [Int.toNat_natCast, Int.toNat_natCast]
      refine s_ContainsS ((hs.ext hE3').pre (n := n) (by omega) (by omega)) (by rw [List.length_take]; omega) (hkk _ _ ⟨hE3', ?_⟩)
      rw [h, Bool.true_and, Bool.not_not]
    rintro j H2 ⟨hE2, rfl⟩
    refine Br_not (Br.mk (fun h => ?_) fun h => no _ hE2 h)
    refine Lt.mk (u := ((n + 1 : Nat) : Int)) (by rw [wrap_i64_id] <;> omega) (hnext _ _ ⟨hE2, n + 1, rfl, hn2, fun j hj => ?_⟩ (by omega))
    rcases Nat.lt_or_ge j n with e | e
    · exact hall j e
    · have : j = n := by omega
      subst this; rw [hget]; exact h
  · have hne : n = xs.length := by omega
    subst hne
    have hkk := hk _ hE1
    rwa [show wordsB xs = true from List.all_eq_true.2 fun i hi => hall i (List.mem_range.1 hi)] at hkk
end
section
open Hc Hc.Vf
variable {H : Heap}
structure Ki where
  name : ByteArray
  s : Sl
  l : List ByteArray
instance : Inhabited Ki := ⟨⟨ByteArray.empty, default, []⟩⟩
abbrev kiV (x : Ki) : List Value := [.string x.name, slV x.s]
theorem kiV_len (x : Ki) : (kiV x).length = 2 := rfl
structure KdsR (H : Heap) (sl : Sl) (ks : List Ki) : Prop where
  rn : RN kiV 2 H sl ks
  el : ∀ x ∈ ks, RL Value.string H x.s x.l
  ll : ∀ x ∈ ks, x.l.length ≤ 2 ^ 60
  lw : ∀ x ∈ ks, ∀ y ∈ x.l, y.size ≤ 2 ^ 60
  ln : ∀ x ∈ ks, x.name.size ≤ 2 ^ 60
  len : ks.length ≤ 2 ^ 42
theorem KdsR.ext {H' : Heap} (hE : Ext H H') {sl : Sl} {ks : List Ki} (h : KdsR H sl ks) : KdsR H' sl ks := ⟨h.rn.ext hE, fun x hx => (h.el x hx).ext hE, h.ll, h.lw, h.ln, h.len⟩
def kiOk (x : Ki) : Bool := decide (x.l.length ≤ 4) && wordsB x.l
def mayK (ks : List Ki) : Bool := ks.all kiOk && decide (1 ≤ ks.length ∧ ks.length ≤ 12) && wordsB (ks.map (·.name))
theorem s_wmay {sl : Sl} {ks : List Ki} (hK : KdsR H sl ks) {k : Bool → Heap → Prop} (hk : ∀ H', Ext H H' → k (mayK ks) H') : CallT Pg fQdb [.slice sl.a sl.len sl.cap] (.one (.c .bool)) H k := by
  refine cQc5 _ ?_
  unfold vQc5
  have hsl := hK.rn.len
  have hlen := hK.len
  refine LoopT.mk (fun (st : Sl × Int) H' => ∃ n : Nat, st.2 = n ∧ n ≤ ks.length ∧ Ext H H' ∧ Vec H' TQbc st.1 (((ks.take n).map (·.name)).map Value.string) ∧ (∀ b, st.1.a = some (adr b) → H.size ≤ b) ∧ ks.all kiOk = (ks.drop n).all kiOk) (fun st _ => ks.length - st.2.toNat)
    ⟨0, rfl, Nat.zero_le _, .refl _ _, Vec.nil _ _, (fun b hb => by cases hb), rfl⟩ ?_
  rintro next ⟨s, _⟩ H1 ⟨n, rfl, hn, hE1, hv, hsb, he⟩ hnext
  dsimp only at hv hsb ⊢
  have z1 := hE1.size
  refine Br_dec (fun hlt => ?_) fun hge => ?_
  · have hn3 : n < ks.length := by omega
    have hx : ks[n] ∈ ks := List.getElem_mem hn3
    have hget : ks[n]! = ks[n] := getElem!_pos ks n hn3
    rw [List.drop_eq_getElem_cons hn3, List.all_cons] at he
    have htk : ks.take (n + 1) = ks.take n ++ [ks[n]] := by rw [List.take_add_one, List.getElem?_eq_getElem hn3]; rfl
    have no : kiOk ks[n] = false → ∀ H', Ext H H' → k false H' := fun h H' hE => by
      have := hk _ hE
      unfold mayK at this
      rwa [he, h, Bool.false_and, Bool.false_and, Bool.false_and] at this
    refine IxA_rn' kiV_len (hK.rn.ext hE1) (by omega) (j := n) rfl hn3 fun a ha => ?_
    rw [hget] at ha
    refine ⟨((ks[n]).name, (ks[n]).s), ha, ?_⟩
    refine Nw_row (vs := [.string ByteArray.empty, .slice none 0 0]) fun b1 H2 hb1 hE2 _ hr2 => ?_
    simp only [adr_add]
    refine St_row hr2 (by simp) fun H3 hU3 _ hr3 => St_row hr3 (by simp) fun H4 hU4 _ hr4 => ?_
    have hr4 : Row H4 b1 TQa7 (kiV ks[n]) := hr4
    have hE4 : Ext H1 H4 := extUpd hE2 (by omega) (hU3.trans hU4 fun _ _ h => h)
    have hE4' := hE1.trans hE4 fun _ _ h => h
    refine Jn.mk (fun j H' => Ext H4 H' ∧ j = !kiOk ks[n]) (fun kk hkk => ?_) ?_
    · refine Ld_sl (s := (ks[n]).s) ((hr4.cell 1).trans rfl) ?_
      have hll := (hK.el _ hx).len
      refine Br_dec (fun h => hkk _ _ ⟨.refl _ _, by unfold kiOk; rw [decide_eq_false (by omega)]; rfl⟩) fun h => Ld_sl (s := (ks[n]).s) ((hr4.cell 1).trans rfl) (s_words ((hK.el _ hx).ext hE4') (hK.ll _ hx) (hK.lw _ hx) fun H6 hE6 => hkk _ _ ⟨hE6, ?_⟩)
      unfold kiOk; rw [decide_eq_true (by omega), Bool.true_and]
    rintro j H5 ⟨hE5, rfl⟩
    have hE5' := hE4'.trans hE5 fun _ _ h => h
    have z5 := hE5'.size
    refine Br_not (Br.mk (fun h => ?_) fun h => no h _ hE5')
    rw [h, Bool.true_and] at he
    have hr5 := hE5.row hr4 fun h => h
    refine Ld_str ((hr5.cell 0).trans rfl) ?_
    refine Nw_row (vs := [.string (ks[n]).name]) fun b2 H7 hb2 hE7 _ hr7 => ?_
    refine App_vec (((hv.ext hE4).ext hE5).ext hE7) (ws := [.string (ks[n]).name]) hr7.rd_all rfl (by simp [Value.oneCell']) (by omega) (by simp only [List.length_map, List.length_take, List.length_singleton]; omega) fun l1 H8 hv8 hU8 ha8 _ => ?_
    refine Lt.mk (u := ((n + 1 : Nat) : Int)) (by rw [wrap_i64_id] <;> omega) (hnext _ _ ⟨n + 1, rfl, hn3, (hE5'.trans hE7 fun _ _ h => h).trans hU8 fun b hb e => ?_, ?_, fun b hb => ?_, he⟩ (by dsimp only; omega))
    · have := hsb b e.1; omega
    · rw [htk, List.map_append, List.map_append]; exact hv8
    · rcases ha8 with e | e
      · rw [e] at hb; exact hsb b hb
      · rw [e] at hb; cases hb
        have := hE7.size; omega
  · have hne : n = ks.length := by omega
    subst hne
    rw [List.take_length] at hv
    rw [List.drop_length] at he
    refine Jn.mk (fun j H' => Ext H H' ∧ j = mayK ks) (fun kk hkk => ?_) (by rintro j H' ⟨h, rfl⟩; exact hk _ h)
    have em : mayK ks = (decide (1 ≤ ks.length ∧ ks.length ≤ 12) && wordsB (ks.map (·.name))) := by unfold mayK; rw [he]; rfl
    refine Br_dec (fun h1 => Br_dec (fun h2 => ?_) fun h2 => hkk _ _ ⟨hE1, ?_⟩) fun h1 => hkk _ _ ⟨hE1, ?_⟩
    · refine s_words (xs := ks.map (·.name)) ⟨hv.rd, by rw [hv.len, List.length_map], hv.lc⟩ (by rw [List.length_map]; omega) (fun x hx => ?_) fun H10 hE10 => hkk _ _ ⟨hE1.trans hE10 fun _ _ h => h, ?_⟩
      · obtain ⟨y, hy, rfl⟩ := List.mem_map.1 hx
        exact hK.ln y hy
      · rw [em, decide_eq_true (by omega), Bool.true_and]
    · rw [em, decide_eq_false (by omega)]; rfl
    · rw [em, decide_eq_false (by omega)]; rfl
theorem s_idsNew {k : Option Addr × Int → Heap → Prop} (hk : ∀ q H', Ext H H' → k (q, 0) H') : CallT Pg fQdc [.int .i64 200] (.tup [(.c .ptr), (.c (.int .i64))]) H k := by
  refine cQc6 _ ?_
  unfold vQc6
  refine Jn.mk (fun j H' => H = H' ∧ j = false) (fun kk hkk => ?_) ?_
  · exact Br_dec (fun h => by omega) fun h => hkk _ _ ⟨rfl, rfl⟩
  rintro j _ ⟨rfl, rfl⟩
  rw [Br_false]
  exact Nw_row (vs := [.int .i64 200, .slice none 0 0, .slice none 0 0, .slice none 0 0]) fun b1 H1 _ hE1 _ _ => hk _ _ hE1
theorem s_CloneS {s : Sl} {xs : List ByteArray} (hs : RL Value.string H s xs) (hl : xs.length ≤ 100) {k : Sl → Heap → Prop} (hk : ∀ s' H', Ext H H' → k s' H') : CallT Pg fQdt [.slice s.a s.len s.cap] (.one (.c .sl)) H k := by
  refine cQdn _ ?_
  unfold vQdn
  refine Br.mk (fun _ => hk _ _ (.refl _ _)) fun _ => Nw_row (vs := []) fun b1 H1 hb1 hE1 _ hr1 => ?_
  have hv : Vec H1 TQbc ⟨some (adr b1), 0, 0⟩ [] := ⟨rfl, .inr ⟨b1, [], rfl, hr1, Nat.le_refl _⟩, Nat.le_refl _⟩
  refine App_vec hv (hs.ext hE1).rd (by rw [List.length_map, hs.len]) (fun w hw => ?_) (by omega) (by simp only [List.length_nil, List.length_map]; omega) fun s' H' _ hU _ _ => hk _ _ (hE1.trans hU fun b hb e => ?_)
  · obtain ⟨y, _, rfl⟩ := List.mem_map.1 hw; rfl
  · obtain ⟨e, _⟩ := e
    cases e; omega
theorem flat2_get {ks : List Ki} : ∀ {i : Nat} (h : i < ks.length), (ks.flatMap kiV)[i * 2 + 1]? = some (slV (ks[i]).s) := by
  induction ks with
  | nil => intro i h; simp at h
  | cons x t ih =>
    intro i h
    match i with
    | 0 => rfl
    | i + 1 =>
      rw [List.flatMap_cons, show (i + 1) * 2 + 1 = (kiV x).length + (i * 2 + 1) by rw [kiV_len]; omega, List.getElem?_append_right (by omega), Nat.add_sub_cancel_left]
      exact ih (by simpa using h)
theorem ws_copied {sl : Sl} {ks : List Ki} (hK : KdsR H sl ks) (hm : mayK ks = true) {k : Sl → Heap → Prop} (hk : ∀ s' H', Ext H H' → k s' H') : CallT Pg fQdd [.slice sl.a sl.len sl.cap] (.one (.c .sl)) H k := by
  refine cQc7 _ ?_
  unfold vQc7
  unfold mayK at hm
  simp only [Bool.and_eq_true, decide_eq_true_eq] at hm
  obtain ⟨⟨hall, hk1, hk2⟩, _⟩ := hm
  have hsl := hK.rn.len
  refine cQdm _ ?_
  unfold vQdm
  have loop : ∀ {r1 : Sl} {b : Nat} {H2 : Heap} {vs : List Value}, r1.a = some (adr b) → r1.len = ks.length → H.size ≤ b → Ext H H2 → Row H2 b TQa7 vs → (∀ i (h : i < ks.length), vs[i * 2 + 1]? = some (slV (ks[i]).s)) →
      LoopT (σ := Int) (fun next1 s1 H2 =>
      Br (decide (s1 < (r1.len : Int))) (
        IxA 2 r1 s1 fun a1 =>
        Ld .sl (a1.add 1) H2 fun (x1 : Sl) =>
        CallT Pg fQdt [.slice x1.a x1.len x1.cap] (.one (.c .sl)) H2 fun (r2 : Sl) H3 =>
        IxA 2 r1 s1 fun a2 =>
        St (a2.add 1) (.slice r2.a r2.len r2.cap) H3 fun H4 =>
        Lt (IntKind.wrap .i64 (s1 + 1)) fun t1 =>
        next1 t1 H4) (
        k r1 H2)) 0 H2 := fun {r1 b H2 vs} ha hl hb hE2 hr hv => by
    refine LoopT.mk (fun (i : Int) H' => ∃ (n : Nat) (vs : List Value), i = n ∧ n ≤ ks.length ∧ Ext H H' ∧ Row H' b TQa7 vs ∧ ∀ i (h : i < ks.length), n ≤ i → vs[i * 2 + 1]? = some (slV (ks[i]).s)) (fun i _ => ks.length - i.toNat) ⟨0, vs, rfl, Nat.zero_le _, hE2, hr, fun i h _ => hv i h⟩ ?_
    rintro next _ H3 ⟨n, vs, rfl, hn, hE3, hr3, hv3⟩ hnext
    refine Br_dec (fun hlt => ?_) fun hge => hk _ _ hE3
    have hn3 : n < ks.length := by omega
    have hx : ks[n] ∈ ks := List.getElem_mem hn3
    have hko := List.all_eq_true.1 hall _ hx
    unfold kiOk at hko
    simp only [Bool.and_eq_true, decide_eq_true_eq] at hko
    have hvn := hv3 n hn3 (Nat.le_refl _)
    have hlt2 : n * 2 + 1 < vs.length := by
      rcases Nat.lt_or_ge (n * 2 + 1) vs.length with g | g
      · exact g
      · rw [List.getElem?_eq_none g] at hvn; cases hvn
    refine IxA.mk ha (by omega) (by omega) ?_
    rw [Int.toNat_natCast, adr_add, mk_add]
    refine Ld_sl (s := (ks[n]).s) (by rw [hr3.cell]; exact hvn) (s_CloneS ((hK.el _ hx).ext hE3) (by omega) fun r2 H5 hE5 => ?_)
    refine IxA.mk ha (by omega) (by omega) ?_
    rw [Int.toNat_natCast, adr_add, mk_add]
    refine St_row (hE5.row hr3 fun h => h) hlt2 fun H6 hU6 _ hr6 => ?_
    refine Lt.mk (u := ((n + 1 : Nat) : Int)) (by rw [wrap_i64_id] <;> omega) (hnext _ _ ⟨n + 1, _, rfl, hn3, extUpd (hE3.trans hE5 fun _ _ h => h) hb hU6, hr6, fun i h hi => ?_⟩ (by omega))
    rw [List.getElem?_set_ne (by omega)]
    exact hv3 i h (by omega)
  refine Br.mk (fun hnil => ?_) fun hnil => Nw_row (vs := []) fun b1 H1 hb1 hE1 _ hr1 => ?_
  · have hrd := hK.rn.rd
    unfold rdL at hrd
    cases hsa : sl.a with
    | none =>
      rw [hsa] at hrd
      have : ks = [] := by
        match ks, hrd with
        | [], _ => rfl
        | x :: t, h => simp at h
      subst this; simp at hk1
    | some a => rw [hsa] at hnil; cases hnil
  have hv : VecN H1 TQa7 2 ⟨some (adr b1), 0, 0⟩ [] := ⟨rfl, .inr ⟨b1, [], rfl, hr1, Nat.le_refl _⟩, Nat.le_refl _⟩
  refine App_vecN (n := 2) rfl (by omega) hv (hK.rn.ext hE1).rd (by rw [flat_len kiV_len, hsl]) (fun w hw => ?_) (by omega) (by simp only; omega) fun s' H' hv' hl' hU ha' => ?_
  · obtain ⟨y, _, hy⟩ := List.mem_flatMap.1 hw
    simp only [List.mem_cons, List.not_mem_nil, or_false] at hy
    rcases hy with rfl | rfl <;> rfl
  · rcases hv'.own with ⟨h1, _, h3⟩ | ⟨b, sp, h1, h2, _⟩
    · rcases ha' with ⟨e, _⟩ | e
      · rw [h1] at e; cases e
      · rw [h1] at e; cases e
    · refine loop h1 (by rw [hl', hsl]; simp) ?_ (hE1.trans hU fun b hb e => by obtain ⟨e, _⟩ := e; cases e; omega) h2 fun i h => ?_
      · rcases ha' with ⟨e, _⟩ | e
        · rw [h1] at e; cases e; omega
        · rw [h1] at e; cases e; exact hE1.size
      · rw [List.nil_append, List.getElem?_append_left (by rw [flat_len kiV_len]; omega)]
        exact flat2_get h
theorem s_worldNew {sl : Sl} {ks : List Ki} (hK : KdsR H sl ks) {k : Option Addr × Int → Heap → Prop} (hk : ∀ q H', Ext H H' → k (q, if mayK ks then 0 else 65) H') : CallT Pg fQc3 [.slice sl.a sl.len sl.cap] (.tup [(.c .ptr), (.c (.int .i64))]) H k := by
  refine cQcx _ ?_
  unfold vQcx
  refine s_wmay hK fun H1 hE1 => Br_not (Br.mk (fun hm => ?_) fun hm => ?_)
  · refine s_idsNew fun q H2 hE2 => ?_
    have hE2' := hE1.trans hE2 fun _ _ h => h
    dsimp only
    rw [show ((0 : Int) != 0) = false by rfl, Br_false]
    refine ws_copied (hK.ext hE2') hm fun s3 H3 hE3 => MkM_i fun m1 H4 _ hE4 _ _ => MkM_i fun m2 H5 _ hE5 _ _ => Nw_row (vs := [.slice s3.a s3.len s3.cap, .pointer q, .map (some m1), .map (some m2)]) fun b1 H6 _ hE6 _ _ => ?_
    have := hk (some (adr b1)) H6 ((((hE2'.trans hE3 fun _ _ h => h).trans hE4 fun _ _ h => h).trans hE5 fun _ _ h => h).trans hE6 fun _ _ h => h)
    rwa [if_pos hm] at this
  · have := hk none H1 hE1
    rwa [hm] at this
end
section
open Hc Hc.Vf
variable {H : Heap}
abbrev CkR (H : Heap) (c : Nat) (p : Sl × Sl) (ksl rsl : Sl) : Prop := Row H c TQbe [slV p.1, slV p.2, slV ksl, slV rsl]
def opI (c : List Ins) (n : Int) : Int := if 0 ≤ n ∧ n < c.length then (c[n.toNat]!).1 else 0
def fieldsI (ks : List Ki) (n : Int) : Int := if 1 ≤ n ∧ n ≤ ks.length then ((ks[(n - 1).toNat]!).l.length : Nat) else -1
def wholeB (ks : List Ki) (a : Int) : Bool := decide (0 ≤ a ∧ a.tmod 8 = fieldsI ks (IntKind.wrap .i64 (a.tdiv 8)))
theorem s_op {r : Rou} (hr : CodeR H r) {n : Int} {k : Int → Heap → Prop} (hk : ∀ H', Ext H H' → k (opI r.code n) H') : CallT Pg fQdm [rouA r, .int .i64 n] (.one (.c (.int .i64))) H k := by
  refine cQdg (r.name, r.params, r.locals, r.sl) _ ?_
  unfold vQdg
  refine Nw_row (vs := rouV r) fun b1 H1 hb1 hE1 _ hr1 => ?_
  simp only [adr_add]
  have hl := hr.len
  have hkk := hk _ hE1
  refine Jn.mk (fun j H' => H1 = H' ∧ j = decide (¬ (0 ≤ n ∧ n < r.code.length))) (fun kk hkk => ?_) ?_
  · exact Br_dec (fun h => hkk _ _ ⟨rfl, (decide_eq_true (by omega)).symm⟩) fun h => Ld_sl (s := r.sl) ((hr1.cell 3).trans rfl) (hkk _ _ ⟨rfl, decide_eq_decide.2 (by omega)⟩)
  rintro j _ ⟨rfl, rfl⟩
  refine Br_dec (fun h => ?_) fun h => ?_
  · unfold opI at hkk; rwa [if_neg h] at hkk
  · have h := Classical.not_not.1 h
    refine Ld_sl (s := r.sl) ((hr1.cell 3).trans rfl) (IxA_rn' insV_len (hr.ext hE1) (by omega) (j := n.toNat) (by omega) (by omega) fun a ha => Ld_int (n := (r.code[n.toNat]!).1) ha.1 ?_)
    unfold opI at hkk; rwa [if_pos h] at hkk
theorem s_fields {c : Nat} {p : Sl × Sl} {ksl rsl : Sl} {ks : List Ki} (hc : CkR H c p ksl rsl) (hK : KdsR H ksl ks) {n : Int} {k : Int → Heap → Prop} (hk : k (fieldsI ks n) H) : CallT Pg fQd4 [.pointer (some (adr c)), .int .i64 n] (.one (.c (.int .i64))) H k := by
  refine cQdy _ _ ?_
  unfold vQdy
  simp only [adr_add, NilCk_some]
  have hl := hK.rn.len
  have hlen := hK.len
  have c2 : hcell H ⟨c, 2, none⟩ = some (slV ksl) := (hc.cell 2).trans rfl
  refine Jn.mk (fun j H' => H = H' ∧ j = decide (¬ (1 ≤ n ∧ n ≤ ks.length))) (fun kk hkk => ?_) ?_
  · exact Br_dec (fun h => hkk _ _ ⟨rfl, (decide_eq_true (by omega)).symm⟩) fun h => Ld_sl (s := ksl) c2 (hkk _ _ ⟨rfl, decide_eq_decide.2 (by omega)⟩)
  rintro j _ ⟨rfl, rfl⟩
  refine Br_dec (fun h => ?_) fun h => ?_
  · unfold fieldsI at hk; rwa [if_neg h] at hk
  · have h := Classical.not_not.1 h
    have hlt : (n - 1).toNat < ks.length := by omega
    refine Ld_sl (s := ksl) c2 (Lt.mk (u := n - 1) (by rw [wrap_i64_id] <;> omega) (IxA_rn' kiV_len hK.rn (by omega) (j := (n - 1).toNat) (by omega) hlt fun a ha => Ld_sl (s := (ks[(n - 1).toNat]!).s) ha.2.1 ?_))
    have he := (hK.el (ks[(n - 1).toNat]!) (by rw [getElem!_pos ks _ hlt]; exact List.getElem_mem hlt)).len
    unfold fieldsI at hk
    rw [if_pos h, ← he] at hk
    exact hk
theorem s_wholeC {c : Nat} {p : Sl × Sl} {ksl rsl : Sl} {ks : List Ki} (hc : CkR H c p ksl rsl) (hK : KdsR H ksl ks) {a : Int} {k : Bool → Heap → Prop} (hk : k (wholeB ks a) H) : CallT Pg fQd2 [.pointer (some (adr c)), .int .i64 a] (.one (.c .bool)) H k := by
  refine cQdw _ _ ?_
  unfold vQdw
  refine Jn.mk (fun j H' => H = H' ∧ j = wholeB ks a) (fun kk hkk => ?_) (by rintro j _ ⟨rfl, rfl⟩; exact hk)
  refine Br_dec (fun h => ⟨by omega, by omega, s_fields hc hK (hkk _ _ ⟨rfl, ?_⟩)⟩) fun h => hkk _ _ ⟨rfl, (decide_eq_false (by omega)).symm⟩
  unfold wholeB
  rw [Bool.eq_iff_iff, beq_iff_eq, decide_eq_true_eq]
  exact ⟨fun e => ⟨h, e⟩, fun e => e.2⟩
def rowB (c : List Ins) (n : Nat) : Bool := decide (opI c ((n : Int) + 1) = 26 ∨ opI c ((n : Int) + 1) = 27) && (List.range 12).any fun j => decide (opI c ((n : Int) - ((j + 1 : Nat) : Int)) ≠ 26)
theorem s_row {r : Rou} (hr : CodeR H r) {n : Nat} (hn : n ≤ 100000) {k : Bool → Heap → Prop} (hk : ∀ H', Ext H H' → k (rowB r.code n) H') : CallT Pg fQd3 [rouA r, .int .i64 (n : Nat)] (.one (.c .bool)) H k := by
  refine cQdx (r.name, r.params, r.locals, r.sl) _ ?_
  unfold vQdx
  refine Nw_row (vs := rouV r) fun b1 H1 hb1 hE1 _ hr1 => ?_
  refine ld_rou (r := r) hr1.rd_all (Lt.mk (u := (n : Int) + 1) (by rw [wrap_i64_id] <;> omega) (s_op (r := r) (hr.ext hE1) fun H2 hE2 => ?_))
  have hE2' := hE1.trans hE2 fun _ _ h => h
  have hr2 := hE2.row hr1 fun h => h
  generalize hx : opI r.code ((n : Int) + 1) = x
  refine Jn.mk (fun j H' => H2 = H' ∧ j = decide (¬ (x = 26 ∨ x = 27))) (fun kk hkk => ?_) ?_
  · refine Br.mk (fun h => hkk _ _ ⟨rfl, ?_⟩) fun h => hkk _ _ ⟨rfl, ?_⟩
    · have h := bne_iff_ne.1 h
      rw [Bool.eq_iff_iff, bne_iff_ne, decide_eq_true_eq]; omega
    · have h : x = 26 := Classical.byContradiction fun e => by rw [bne_iff_ne.2 e] at h; cases h
      exact (decide_eq_false (by omega)).symm
  rintro j _ ⟨rfl, rfl⟩
  refine Br_dec (fun h => ?_) fun h => ?_
  · have := hk _ hE2'
    unfold rowB at this
    rwa [hx, decide_eq_false h, Bool.false_and] at this
  have h := Classical.not_not.1 h
  have hrow : ∀ b, ((List.range 12).any fun j => decide (opI r.code ((n : Int) - ((j + 1 : Nat) : Int)) ≠ 26)) = b → rowB r.code n = b := fun b e => by
    unfold rowB; rw [hx, decide_eq_true h, Bool.true_and, e]
  refine LoopT.mk (fun (i : Int) H' => ∃ j : Nat, i = ((j + 1 : Nat) : Int) ∧ j ≤ 12 ∧ Ext H2 H' ∧ ∀ e, e < j → opI r.code ((n : Int) - ((e + 1 : Nat) : Int)) = 26) (fun i _ => 13 - i.toNat) ⟨0, rfl, by omega, .refl _ _, fun e he => by omega⟩ ?_
  rintro next _ H4 ⟨j, rfl, hj, hE4, hall⟩ hnext
  have hE4' := hE2'.trans hE4 fun _ _ h => h
  refine Br_dec (fun hlt => ?_) fun hge => ?_
  · refine ld_rou (r := r) (Row.rd_all (hE4.row hr2 fun h => h)) (Lt.mk (u := (n : Int) - ((j + 1 : Nat) : Int)) (by rw [wrap_i64_id] <;> omega) (s_op (r := r) (hr.ext hE4') fun H5 hE5 => ?_))
    refine Br.mk (fun h2 => ?_) fun h2 => ?_
    · have := hk _ (hE4'.trans hE5 fun _ _ h => h)
      rwa [hrow true (List.any_eq_true.2 ⟨j, List.mem_range.2 (by omega), decide_eq_true (bne_iff_ne.1 h2)⟩)] at this
    · have h2 : opI r.code ((n : Int) - ((j + 1 : Nat) : Int)) = 26 := Classical.byContradiction fun e => by rw [bne_iff_ne.2 e] at h2; cases h2
      refine Lt.mk (u := ((j + 1 + 1 : Nat) : Int)) (by rw [wrap_i64_id] <;> omega) (hnext _ _ ⟨j + 1, rfl, by omega, hE4.trans hE5 fun _ _ h => h, fun e he => ?_⟩ (by omega))
      rcases Nat.lt_or_ge e j with g | g
      · exact hall e g
      · have : e = j := by omega
        subst this; exact h2
  · have hj12 : j = 12 := by omega
    subst hj12
    have := hk _ hE4'
    rwa [hrow false (List.any_eq_false.2 fun e he => by rw [decide_eq_true_eq]; exact fun g => g (hall e (List.mem_range.1 he)))] at this
end
section
open Hc Hc.Vf
variable {H : Heap}
def wouterB (op : Int) : Bool := decide (op ∈ [(4 : Int), 5, 25, 26, 27, 28, 29, 30, 35, 23])
theorem ws_outer {op : Int} {k : Bool → Heap → Prop} (hk : ∀ H', Ext H H' → k (wouterB op) H') : CallT Pg fQd0 [.int .i64 op] (.one (.c .bool)) H k := by
  refine cQdu _ ?_
  unfold vQdu
  refine Nw_row (vs := [(4 : Int), 5, 25, 26, 27, 28, 29, 30, 35, 23].map (Value.int .i64)) fun b1 H1 hb1 hE1 _ hr1 => ?_
  exact s_ContainsI (s := ⟨some (adr b1), 10, 10⟩) (xs := [(4 : Int), 5, 25, 26, 27, 28, 29, 30, 35, 23]) ⟨hr1.rd_all, rfl, Nat.le_refl _⟩ (by decide) (hk _ hE1)
theorem s_anyI {s : Sl} {xs : List Int} {f : Value} (hs : RL (Value.int .i64) H s xs) (hl : xs.length ≤ 2 ^ 60) (P : Int → Bool)
    (hf : ∀ x H' (K : Bool → Heap → Prop), Ext H H' → (∀ H'', Ext H' H'' → K (P x) H'') → CallX Pg f [.int .i64 x] (.one (.c .bool)) H' K) {k : Bool → Heap → Prop} (hk : ∀ H', Ext H H' → k (xs.any P) H') :
    CallT Pg fQdi [.slice s.a s.len s.cap, f] (.one (.c .bool)) H k := by
  refine cQdc _ _ ?_
  unfold vQdc
  refine cQdt _ _ ?_
  unfold vQdt
  have hlen := hs.len
  refine LoopT.mk (fun i H' => ∃ n : Nat, i = n ∧ n ≤ xs.length ∧ Ext H H' ∧ xs.any P = (xs.drop n).any P) (fun i _ => xs.length - i.toNat) ⟨0, rfl, Nat.zero_le _, .refl _ _, rfl⟩ ?_
  rintro next _ H1 ⟨n, rfl, hn, hE1, he⟩ hnext
  refine Br_dec (fun hlt => ?_) fun hge => ?_
  · have hn2 : n < xs.length := by omega
    rw [List.drop_eq_getElem_cons hn2, List.any_cons] at he
    refine IxA_rl (hs.ext hE1) rfl hn2 fun a ha => Ld_int ha (hf _ _ _ hE1 fun H2 hE2 => ?_)
    have hE2' := hE1.trans hE2 fun _ _ h => h
    refine Br.mk (fun h => ?_) fun h => ?_
    · have := hk _ hE2'
      rw [he, h, Bool.true_or] at this
      show k (decide ((n : Int) ≥ 0)) H2
      rwa [decide_eq_true (show (n : Int) ≥ 0 by omega)]
    · rw [h, Bool.false_or] at he
      exact Lt.mk (u := ((n + 1 : Nat) : Int)) (by rw [wrap_i64_id] <;> omega) (hnext _ _ ⟨n + 1, rfl, hn2, hE2', he⟩ (by omega))
  · rw [List.drop_eq_nil_of_le (by omega)] at he
    have := hk _ hE1
    rwa [he] at this
def declB (ks : List Ki) (a : Int) (ls : List (List Int)) : Bool := decide (0 ≤ a ∧ a.tmod 8 < fieldsI ks (IntKind.wrap .i64 (a.tdiv 8))) && ls.any fun l => decide (IntKind.wrap .i64 (a.tdiv 8) ∈ l)
theorem s_declared {c : Nat} {p : Sl × Sl} {ksl rsl s : Sl} {ks : List Ki} {xs : List (Sl × List Int)} (hc : CkR H c p ksl rsl) (hK : KdsR H ksl ks) (hs : RL (fun x : Sl × List Int => slV x.1) H s xs) (hl : xs.length ≤ 2 ^ 60)
    (hx : ∀ x ∈ xs, RL (Value.int .i64) H x.1 x.2 ∧ x.2.length ≤ 2 ^ 60) {a : Int} {k : Bool → Heap → Prop} (hk : ∀ H', Ext H H' → k (declB ks a (xs.map (·.2))) H') :
    CallT Pg fQd1 [.pointer (some (adr c)), .int .i64 a, .slice s.a s.len s.cap] (.one (.c .bool)) H k := by
  refine cQdv _ _ _ ?_
  unfold vQdv
  refine Nw_row (vs := [.int .i64 a]) fun b1 H1 hb1 hE1 _ hr1 => ?_
  have ca : hcell H1 (adr b1) = some (.int .i64 a) := (hr1.cell 0).trans rfl
  refine Jn.mk (fun j H' => H1 = H' ∧ j = decide (¬ (0 ≤ a ∧ a.tmod 8 < fieldsI ks (IntKind.wrap .i64 (a.tdiv 8))))) (fun kk hkk => ?_) ?_
  · refine Ld_int ca (Br_dec (fun h => hkk _ _ ⟨rfl, (decide_eq_true (by omega)).symm⟩) fun h => Ld_int ca ⟨by omega, Ld_int ca ⟨by omega, s_fields (hE1.row hc fun h => h) (hK.ext hE1) (Stab_all (fun x hx => ?_) (hkk _ _ ⟨rfl, decide_eq_decide.2 (by omega)⟩))⟩⟩)
    simp only [List.mem_cons, List.not_mem_nil, or_false] at hx
    rcases hx with rfl | rfl | rfl <;> exact ca
  rintro j _ ⟨rfl, rfl⟩
  refine Br_dec (fun h => ?_) fun h => ?_
  · have := hk _ hE1
    unfold declB at this
    rwa [decide_eq_false h, Bool.false_and] at this
  · have h := Classical.not_not.1 h
    refine s_anyL (hs.ext hE1) hl (fun x => decide (IntKind.wrap .i64 (a.tdiv 8) ∈ x.2)) (fun x hxm H' K hE hK' => ⟨fQef, #[], #[.pointer (some (adr b1))], rfl, ?_⟩) fun H' hE => ?_
    · show CallT Pg fQef [.slice x.1.a x.1.len x.1.cap, .pointer (some (adr b1))] _ _ _
      refine cQd9 x.1 (adr b1) ?_
      unfold vQd9
      refine Ld_int (n := a) (hE.cell ca fun h => h) ⟨by omega, s_ContainsI ((hx x hxm).1.ext (hE1.trans hE fun _ _ h => h)) (hx x hxm).2 (hK' _ (.refl _ _))⟩
    · have := hk _ (hE1.trans hE fun _ _ h => h)
      unfold declB at this
      rw [decide_eq_true h, Bool.true_and, List.any_map] at this
      exact this
end
section
open Hc Hc.Vf
variable {H : Heap}
def FO (lo : Nat) (H : Heap) (q : Option Addr) : Option (Nat × Nat) → Prop
  | none => q = none
  | some (a, e) => ∃ g, q = some (adr g) ∧ lo ≤ g ∧ Row H g TQa6 [.int .i64 (a : Nat), .int .i64 (e : Nat)]
def setsBad (ks : List Ki) (x : Sy) : Bool := (List.range 4).any fun q => (x.l q).any fun y => decide (y > (ks.length : Int))
def setsO (ks : List Ki) (ss : List Sy) (fs : List Rou) : Option (Nat × Nat) := ((List.range ss.length).find? fun i => setsBad ks (ss[i]!)).map fun i => (sumL ((rousL ss fs).take i), 60)
structure CkAll (H : Heap) (c : Nat) (p : Sl × Sl) (ksl rsl : Sl) (ks : List Ki) (ss : List Sy) (fs : List Rou) (rts : List Rt) : Prop where
  ck : CkR H c p ksl rsl
  prg : PrgR H p ss fs
  kds : KdsR H ksl ks
  rt : RN rtV 6 H rsl rts
  rlen : rts.length = ss.length + fs.length
  rts' : ∀ j, j < rts.length → PRt H ss fs j (rts[j]!)
  may : MayP ss fs
theorem PRt.ext {H' : Heap} (hE : Ext H H') {ss : List Sy} {fs : List Rou} {j : Nat} {x : Rt} (h : PRt H ss fs j x) : PRt H' ss fs j x :=
  ⟨h.at_, h.rou, fun hj => by obtain ⟨a, h1, h2⟩ := h.sys hj; exact ⟨a, h1, hcells_upd hE (fun h => h) h2⟩, h.non⟩
theorem CkAll.ext {H' : Heap} (hE : Ext H H') {c : Nat} {p : Sl × Sl} {ksl rsl : Sl} {ks : List Ki} {ss : List Sy} {fs : List Rou} {rts : List Rt} (h : CkAll H c p ksl rsl ks ss fs rts) : CkAll H' c p ksl rsl ks ss fs rts :=
  ⟨hE.row h.ck fun h => h, h.prg.ext hE, h.kds.ext hE, h.rt.ext hE, h.rlen, fun j hj => (h.rts' j hj).ext hE, h.may⟩
theorem s_csets {c : Nat} {p : Sl × Sl} {ksl rsl : Sl} {ks : List Ki} {ss : List Sy} {fs : List Rou} {rts : List Rt} (h : CkAll H c p ksl rsl ks ss fs rts) {k : Option Addr → Heap → Prop}
    (hk : ∀ q H', Ext H H' → FO H.size H' q (setsO ks ss fs) → k q H') : CallT Pg fQc7 [.pointer (some (adr c))] (.one (.c .ptr)) H k := by
  refine cQc1 _ ?_
  unfold vQc1
  refine Nw_row (vs := [.pointer (some (adr c))]) fun b1 H1 hb1 hE1 _ hr1 => ?_
  have cb : ∀ {H'}, Ext H1 H' → hcell H' (adr b1) = some (.pointer (some (adr c))) := fun hE => ((hE.row hr1 fun h => h).cell 0).trans rfl
  have hck : ∀ {H'}, Ext H1 H' → CkAll H' c p ksl rsl ks ss fs rts := fun hE => h.ext (hE1.trans hE fun _ _ h => h)
  have e0 : Ext H1 H1 := .refl _ _
  have hsl := h.prg.sys.len
  have hm1 := h.may.1
  refine Ld_ptr (cb e0) ?_
  simp only [NilCk_some, adr_add]
  refine Ld_sl (s := p.1) (((hck e0).ck.cell 0).trans rfl) ?_
  refine LoopT.mk (fun (i : Int) H' => ∃ n : Nat, i = n ∧ n ≤ ss.length ∧ Ext H1 H' ∧ ∀ j, j < n → setsBad ks (ss[j]!) = false) (fun i _ => ss.length - i.toNat) ⟨0, rfl, Nat.zero_le _, e0, fun j hj => by omega⟩ ?_
  rintro next _ H2 ⟨n, rfl, hn, hE2, hno⟩ hnext
  refine Br_dec (fun hlt => ?_) fun hge => ?_
  · have hn3 : n < ss.length := by omega
    have hx : SyR H (ss[n]!) := h.prg.sysR _ (by rw [getElem!_pos ss n hn3]; exact List.getElem_mem hn3)
    refine IxA_rn' sysV_len (hck hE2).prg.sys (by omega) (j := n) rfl hn3 fun a ha => ?_
    generalize hxe : ss[n]! = x at *
    refine ld_sys ha (sys_copy (x := x) fun b2 H11 hb2 hE11 hr11 => ?_)
    refine Ld_sl (s := x.s 0) ((hr11.cell 0).trans rfl) (Ld_sl (s := x.s 1) ((hr11.cell 1).trans rfl) (Ld_sl (s := x.s 2) ((hr11.cell 2).trans rfl) (Ld_sl (s := x.s 3) ((hr11.cell 3).trans rfl) ?_)))
    refine Nw_row (vs := [slV (x.s 0), slV (x.s 1), slV (x.s 2), slV (x.s 3)]) fun b3 H12 hb3 hE12 _ hr12 => ?_
    have hE12' := hE2.trans (hE11.trans hE12 fun _ _ h => h) fun _ _ h => h
    refine LoopT.mk (fun (i : Int) H' => ∃ q : Nat, i = q ∧ q ≤ 4 ∧ Ext H12 H' ∧ ∀ e, e < q → ((x.l e).any fun y => decide (y > (ks.length : Int))) = false) (fun i _ => 4 - i.toNat) ⟨0, rfl, by omega, .refl _ _, fun e he => by omega⟩ ?_
    rintro next2 _ H13 ⟨q, rfl, hq, hE13, hq2⟩ hnext2
    have hE13' := hE12'.trans hE13 fun _ _ h => h
    refine Br_dec (fun hlt2 => ?_) fun hge2 => ?_
    · have hq3 : q < 4 := by omega
      refine IxA.mk rfl (by omega) (by simp only; omega) ?_
      rw [Int.toNat_natCast, adr_add, Nat.mul_one]
      have hcq : hcell H13 ⟨b3, q, none⟩ = some (slV (x.s q)) := by
        rw [(hE13.row hr12 fun h => h).cell]
        match q, hq3 with
        | 0, _ => rfl
        | 1, _ => rfl
        | 2, _ => rfl
        | 3, _ => rfl
      have hsq := (hx.ext (hE1.trans hE13' fun _ _ h => h)).sets q hq3
      refine Ld_sl (s := x.s q) hcq (s_anyI hsq (hx.lens q hq3) (fun y => decide (y > (ks.length : Int))) (fun y H' K hE hK' => ⟨fQdj, #[], #[.pointer (some (adr b1))], rfl, ?_⟩) fun H14 hE14 => ?_)
      · show CallT Pg fQdj [.int .i64 y, .pointer (some (adr b1))] _ _ _
        refine cQdd y (adr b1) ?_
        unfold vQdd
        have hE' := hE13'.trans hE fun _ _ h => h
        refine Ld_ptr (cb hE') ?_
        simp only [NilCk_some, adr_add]
        refine Ld_sl (s := ksl) (((hck hE').ck.cell 2).trans rfl) ?_
        rw [(hck hE').kds.rn.len]
        exact hK' _ (.refl _ _)
      · have hE14' := hE13'.trans hE14 fun _ _ h => h
        refine Br.mk (fun hb => ?_) fun hb => ?_
        · refine Ld_ptr (cb hE14') ?_
          simp only [NilCk_some, adr_add]
          have hall := hck hE14'
          have hnr : n < rts.length := by rw [h.rlen]; omega
          refine Ld_sl (s := rsl) ((hall.ck.cell 3).trans rfl) (IxA_rn' rtV_len hall.rt (by omega) (j := n) rfl hnr fun a ha => Ld_int (n := ((rts[n]!).at' : Nat)) ha.1 ?_)
          rw [(h.rts' n hnr).at_]
          refine s_vfault fun H15 g hg hE15 hrow => hk _ _ ((hE1.trans hE14' fun _ _ h => h).trans hE15 fun _ _ h => h) ?_
          have hbad : setsBad ks (ss[n]!) = true := by
            rw [hxe]; exact List.any_eq_true.2 ⟨q, List.mem_range.2 hq3, hb⟩
          have : (List.range ss.length).find? (fun i => setsBad ks (ss[i]!)) = some n := by
            rw [List.find?_range_eq_some]
            exact ⟨hbad, List.mem_range.2 hn3, fun j hj => by rw [hno j hj]; rfl⟩
          unfold setsO
          rw [this]
          have z1 := hE1.size
          have z14 := hE14'.size
          exact ⟨g, rfl, by omega, hrow⟩
        · refine Lt.mk (u := ((q + 1 : Nat) : Int)) (by rw [wrap_i64_id] <;> omega) (hnext2 _ _ ⟨q + 1, rfl, hq3, hE13.trans hE14 fun _ _ h => h, fun e he => ?_⟩ (by omega))
          rcases Nat.lt_or_ge e q with g | g
          · exact hq2 e g
          · have : e = q := by omega
            subst this; exact hb
    · refine Lt.mk (u := ((n + 1 : Nat) : Int)) (by rw [wrap_i64_id] <;> omega) (hnext _ _ ⟨n + 1, rfl, hn3, hE13', fun j hj => ?_⟩ (by omega))
      rcases Nat.lt_or_ge j n with g | g
      · exact hno j g
      · have : j = n := by omega
        subst this
        rw [hxe]
        exact List.any_eq_false.2 fun e he => by rw [hq2 e (by have := List.mem_range.1 he; omega)]; simp
  · have hne : n = ss.length := by omega
    subst hne
    refine hk _ _ (hE1.trans hE2 fun _ _ h => h) ?_
    have : (List.range ss.length).find? (fun i => setsBad ks (ss[i]!)) = none := by
      rw [List.find?_range_eq_none]
      intro j hj
      rw [hno j hj]; rfl
    unfold setsO
    rw [this]; rfl
end
section
open Hc Hc.Vf
variable {H : Heap}
def accB (ks : List Ki) (nf : Nat) (sy : Option Sy) (r : Rou) (n : Nat) : Bool :=
  if sy.isNone && wouterB (r.code[n]!).1 then false
  else if (r.code[n]!).1 = 2 ∨ (r.code[n]!).1 = 3 then decide (0 ≤ (r.code[n]!).2 ∧ (r.code[n]!).2 < r.locals)
  else if (r.code[n]!).1 = 4 then declB ks (r.code[n]!).2 (match sy with | some x => [x.l 2, x.l 3] | none => [])
  else if (r.code[n]!).1 = 5 then declB ks (r.code[n]!).2 (match sy with | some x => [x.l 3] | none => [])
  else if (r.code[n]!).1 = 21 then decide (0 ≤ (r.code[n]!).2 ∧ (r.code[n]!).2 < nf)
  else if (r.code[n]!).1 = 22 then sy.isNone
  else if (r.code[n]!).1 = 26 then wholeB ks (r.code[n]!).2 && rowB r.code n
  else if (r.code[n]!).1 = 28 then wholeB ks (r.code[n]!).2
  else if (r.code[n]!).1 = 29 ∨ (r.code[n]!).1 = 35 then decide (fieldsI ks (r.code[n]!).2 ≥ 0)
  else true
def SyOf (H : Heap) (x : Rt) (sy : Option Sy) : Prop := match sy with
  | none => x.ptr = none
  | some y => ∃ a, x.ptr = some a ∧ hcells H a 0 (sysV y) ∧ SyR H y
abbrev rtA (x : Rt) : Value := .agg #[.int .i64 (x.at' : Nat), .string x.rou.name, .int .i64 x.rou.params, .int .i64 x.rou.locals, .slice x.rou.sl.a x.rou.sl.len x.rou.sl.cap, .pointer x.ptr]
theorem ws_access {c : Nat} {p : Sl × Sl} {ksl rsl : Sl} {ks : List Ki} {ss : List Sy} {fs : List Rou} {rts : List Rt} (h : CkAll H c p ksl rsl ks ss fs rts) {x : Rt} {sy : Option Sy} (hs : SyOf H x sy) (hr : CodeR H x.rou) {n : Nat} (hn : n < x.rou.code.length) (hl : x.rou.code.length ≤ 2000)
    {k : Bool → Heap → Prop} (hk : ∀ H', Ext H H' → k (accB ks fs.length sy x.rou n) H') : CallT Pg fQdk [.pointer (some (adr c)), rtA x, .int .i64 (n : Nat)] (.one (.c .bool)) H k := by
  refine cQde _ ((x.at' : Int), x.rou.name, x.rou.params, x.rou.locals, x.rou.sl, x.ptr) _ ?_
  unfold vQde
  refine Nw_row (vs := rtV x) fun b1 H1 hb1 hE1 _ hr1 => ?_
  simp only [adr_add, mk_add, NilCk_some]
  refine Ld_sl (s := x.rou.sl) ((hr1.cell 4).trans rfl) (IxA_rn' insV_len (hr.ext hE1) (by omega) (j := n) rfl hn fun a ha => ?_)
  refine ⟨((x.rou.code[n]!).1, (x.rou.code[n]!).2), ha, Nw_row (vs := [.int .i64 0, .int .i64 0]) fun b2 H2 hb2 hE2 hz2 hr2 => ?_⟩
  simp only [adr_add]
  refine St_row hr2 (by simp) fun H3 hU3 _ hr3 => St_row hr3 (by simp) fun H4 hU4 _ hr4 => ?_
  have hE4 : Ext H1 H4 := extUpd hE2 (by omega) (hU3.trans hU4 fun _ _ h => h)
  have hE4' := hE1.trans hE4 fun _ _ h => h
  have hI : Row H4 b2 TQag (insV x.rou.code[n]!) := hr4
  have hR : Row H4 b1 TQbg (rtV x) := hE4.row hr1 fun h => h
  have hP : ∀ {H'}, Ext H4 H' → hcell H' ⟨b1, 5, none⟩ = some (.pointer x.ptr) := fun hE => ((hE.row hR fun h => h).cell 5).trans rfl
  have hi1 : ∀ {H'}, Ext H4 H' → hcell H' (adr b2) = some (.int .i64 (x.rou.code[n]!).1) := fun hE => ((hE.row hI fun h => h).cell 0).trans rfl
  have hi2 : ∀ {H'}, Ext H4 H' → hcell H' ⟨b2, 1, none⟩ = some (.int .i64 (x.rou.code[n]!).2) := fun hE => ((hE.row hI fun h => h).cell 1).trans rfl
  have e0 : Ext H4 H4 := .refl _ _
  have hpn : x.ptr.isNone = sy.isNone := by
    unfold SyOf at hs
    cases sy with
    | none => dsimp only at hs; rw [hs]; rfl
    | some y => obtain ⟨a, h1, _⟩ := hs; rw [h1]; rfl
  refine Jn.mk (fun j H' => Ext H4 H' ∧ j = (sy.isNone && wouterB (x.rou.code[n]!).1)) (fun kk hkk => ?_) ?_
  · refine Ld_ptr (hP e0) ?_
    rw [hpn]
    refine Br.mk (fun h => Ld_int (hi1 e0) (ws_outer fun H6 hE6 => hkk _ _ ⟨hE6, by rw [h, Bool.true_and]⟩)) fun h => hkk _ _ ⟨e0, by rw [h, Bool.false_and]⟩
  rintro j H5 ⟨hE5, rfl⟩
  have hE5' := hE4'.trans hE5 fun _ _ h => h
  have fin : ∀ {b H'}, Ext H5 H' → accB ks fs.length sy x.rou n = b → k b H' := fun {b H'} hE e => by
    have := hk _ (hE5'.trans hE fun _ _ h => h); rwa [e] at this
  have z0 : Ext H5 H5 := .refl _ _
  have tr : ∀ {H'}, Ext H5 H' → Ext H4 H' := fun hE => hE5.trans hE fun _ _ h => h
  have hC : ∀ {H'}, Ext H5 H' → CkAll H' c p ksl rsl ks ss fs rts := fun hE => h.ext (hE5'.trans hE fun _ _ h => h)
  unfold accB at fin
  generalize hop : (x.rou.code[n]!).1 = op at *
  generalize harg : (x.rou.code[n]!).2 = arg at *
  refine Br.mk (fun h => fin z0 (if_pos h)) fun h0 => ?_
  rw [if_neg (by rw [h0]; decide)] at fin
  refine Ld_int (hi1 hE5) ?_
  refine Jn.mk (fun j H' => H5 = H' ∧ j = decide (op = 2 ∨ op = 3)) (fun kk hkk => ?_) ?_
  · refine Br.mk (fun h => hkk _ _ ⟨rfl, (decide_eq_true (.inl (beqI h))).symm⟩) fun h => hkk _ _ ⟨rfl, ?_⟩
    have h := bneI h
    rw [Bool.eq_iff_iff, beq_iff_eq, decide_eq_true_eq]; omega
  rintro j _ ⟨rfl, rfl⟩
  refine Br_dec (fun h => ?_) fun h23 => ?_
  · rw [if_pos h] at fin
    refine Jn.mk (fun j H' => H5 = H' ∧ j = decide (0 ≤ arg ∧ arg < x.rou.locals)) (fun kk hkk => ?_) (by rintro j _ ⟨rfl, rfl⟩; exact fin z0 rfl)
    refine Ld_int (hi2 hE5) (Br_dec (fun h => Ld_int (hi2 hE5) (Ld_int (n := x.rou.locals) (((hE5.row hR fun h => h).cell 3).trans rfl) (hkk _ _ ⟨rfl, decide_eq_decide.2 (by omega)⟩))) fun h => hkk _ _ ⟨rfl, (decide_eq_false (by omega)).symm⟩)
  rw [if_neg h23] at fin
  have some_sy : wouterB op = true → ∃ y a, sy = some y ∧ x.ptr = some a ∧ SyR H y ∧ ∀ {H'}, Ext H5 H' → hcell H' (a.add 2) = some (slV (y.s 2)) ∧ hcell H' (a.add 3) = some (slV (y.s 3)) := fun ho => by
    rw [ho, Bool.and_true] at h0
    cases sy with
    | none => cases h0
    | some y =>
      obtain ⟨a, h1, h2, h3⟩ := hs
      refine ⟨y, a, rfl, h1, h3, fun {H'} hE => ?_⟩
      have := hcells_upd (hE5'.trans hE fun _ _ h => h) (fun h => h) h2
      exact ⟨this.2.2.1, this.2.2.2.1⟩
  refine Br.mk (fun h4 => ?_) fun h4 => ?_
  · have h4 := beqI h4
    rw [if_pos h4] at fin
    obtain ⟨y, a, rfl, hp, hy, hcs⟩ := some_sy (by rw [h4]; decide)
    refine Ld_int (hi2 hE5) (Ld_ptr (hP hE5) ?_)
    rw [hp]
    simp only [NilCk_some]
    refine Ld_sl (s := y.s 2) (hcs z0).1 (Ld_ptr (by rw [hP hE5, hp]) ?_)
    simp only [NilCk_some]
    refine Ld_sl (s := y.s 3) (hcs z0).2 (Nw_row (vs := [slV (y.s 2), slV (y.s 3)]) fun b3 H9 hb3 hE9 _ hr9 => Stab_all (fun w hw => ?_) ?_)
    · simp only [List.mem_cons, List.not_mem_nil, or_false] at hw
      rcases hw with rfl | rfl | rfl
      · rw [hP (tr hE9), hp]
      · rw [hP (tr hE9), hp]
      · exact hi2 (tr hE9)
    · have hy9 := hy.ext (hE5'.trans hE9 fun _ _ h => h)
      refine s_declared (s := ⟨some (adr b3), 2, 2⟩) (xs := [(y.s 2, y.l 2), (y.s 3, y.l 3)]) (hC hE9).ck (hC hE9).kds ⟨hr9.rd_all, rfl, Nat.le_refl _⟩ (by simp only [List.length_cons, List.length_nil]; omega) (fun w hw => ?_) fun H10 hE10 => Stab_all (fun w hw => ?_) (fin (hE9.trans hE10 fun _ _ h => h) rfl)
      · simp only [List.mem_cons, List.not_mem_nil, or_false] at hw
        rcases hw with rfl | rfl
        · exact ⟨hy9.sets 2 (by omega), hy.lens 2 (by omega)⟩
        · exact ⟨hy9.sets 3 (by omega), hy.lens 3 (by omega)⟩
      · have hE10' := hE9.trans hE10 fun _ _ h => h
        simp only [List.mem_cons, List.not_mem_nil, or_false] at hw
        rcases hw with rfl | rfl | rfl | rfl
        · exact (hcs hE10').2
        · rw [hP (tr hE10'), hp]
        · exact (hcs hE10').1
        · rw [hP (tr hE10'), hp]
  rw [if_neg (bneI h4)] at fin
  refine Br.mk (fun h5 => ?_) fun h5 => ?_
  · have h5 := beqI h5
    rw [if_pos h5] at fin
    obtain ⟨y, a, rfl, hp, hy, hcs⟩ := some_sy (by rw [h5]; decide)
    refine Ld_int (hi2 hE5) (Ld_ptr (hP hE5) ?_)
    rw [hp]
    simp only [NilCk_some]
    refine Ld_sl (s := y.s 3) (hcs z0).2 (Nw_row (vs := [slV (y.s 3)]) fun b3 H9 hb3 hE9 _ hr9 => Stab_all (fun w hw => ?_) ?_)
    · simp only [List.mem_cons, List.not_mem_nil, or_false] at hw
      rcases hw with rfl | rfl
      · rw [hP (tr hE9), hp]
      · exact hi2 (tr hE9)
    · have hy9 := hy.ext (hE5'.trans hE9 fun _ _ h => h)
      refine s_declared (s := ⟨some (adr b3), 1, 1⟩) (xs := [(y.s 3, y.l 3)]) (hC hE9).ck (hC hE9).kds ⟨hr9.rd_all, rfl, Nat.le_refl _⟩ (by simp only [List.length_cons, List.length_nil]; omega) (fun w hw => ?_) fun H10 hE10 => Stab_all (fun w hw => ?_) (fin (hE9.trans hE10 fun _ _ h => h) rfl)
      · rw [List.mem_singleton] at hw
        subst hw
        exact ⟨hy9.sets 3 (by omega), hy.lens 3 (by omega)⟩
      · have hE10' := hE9.trans hE10 fun _ _ h => h
        simp only [List.mem_cons, List.not_mem_nil, or_false] at hw
        rcases hw with rfl | rfl
        · exact (hcs hE10').2
        · rw [hP (tr hE10'), hp]
  rw [if_neg (bneI h5)] at fin
  have hfl : p.2.len = fs.length := h.prg.fun'.len
  refine Br.mk (fun h6 => ?_) fun h6 => ?_
  · rw [if_pos (beqI h6)] at fin
    refine Jn.mk (fun j H' => H5 = H' ∧ j = decide (0 ≤ arg ∧ arg < fs.length)) (fun kk hkk => ?_) (by rintro j _ ⟨rfl, rfl⟩; exact fin z0 rfl)
    refine Ld_int (hi2 hE5) (Br_dec (fun g => Ld_int (hi2 hE5) (Ld_sl (s := p.2) (((hC z0).ck.cell 1).trans rfl) (hkk _ _ ⟨rfl, decide_eq_decide.2 (by omega)⟩))) fun g => hkk _ _ ⟨rfl, (decide_eq_false (by omega)).symm⟩)
  rw [if_neg (bneI h6)] at fin
  refine Br.mk (fun h7 => ?_) fun h7 => ?_
  · rw [if_pos (beqI h7)] at fin
    refine Ld_ptr (hP hE5) (fin z0 hpn.symm)
  rw [if_neg (bneI h7)] at fin
  refine Br.mk (fun h8 => ?_) fun h8 => ?_
  · rw [if_pos (beqI h8)] at fin
    refine Jn.mk (fun j H' => Ext H5 H' ∧ j = (wholeB ks arg && rowB x.rou.code n)) (fun kk hkk => ?_) (by rintro j H' ⟨hE, rfl⟩; exact fin hE rfl)
    refine Ld_int (hi2 hE5) (s_wholeC (hC z0).ck (hC z0).kds (Br.mk (fun g => ?_) fun g => hkk _ _ ⟨z0, by rw [g]; rfl⟩))
    have hrd : hcells H5 ⟨b1, 1, none⟩ 0 (rouV x.rou) := by
      have h0 : hcells H5 (adr b1) 0 ([.int .i64 (x.at' : Nat)] ++ (rouV x.rou ++ [.pointer x.ptr])) := Row.rd_all (hE5.row hR fun h => h)
      have h1 := (hcells_app.1 (hcellsShift (n := 1) (i := 0) |>.1 (hcells_app.1 h0).2)).1
      rwa [adr_add] at h1
    exact ld_rou (r := x.rou) hrd (s_row (r := x.rou) (hr.ext hE5') (by omega) fun H16 hE16 => hkk _ _ ⟨hE16, by rw [g, Bool.true_and]⟩)
  rw [if_neg (bneI h8)] at fin
  refine Br.mk (fun h9 => ?_) fun h9 => ?_
  · rw [if_pos (beqI h9)] at fin
    exact Ld_int (hi2 hE5) (s_wholeC (hC z0).ck (hC z0).kds (fin z0 rfl))
  rw [if_neg (bneI h9)] at fin
  refine Jn.mk (fun j H' => H5 = H' ∧ j = decide (op = 29 ∨ op = 35)) (fun kk hkk => ?_) ?_
  · refine Br.mk (fun h => hkk _ _ ⟨rfl, (decide_eq_true (.inl (beqI h))).symm⟩) fun h => hkk _ _ ⟨rfl, ?_⟩
    have h := bneI h
    rw [Bool.eq_iff_iff, beq_iff_eq, decide_eq_true_eq]; omega
  rintro j _ ⟨rfl, rfl⟩
  refine Br_dec (fun g => ?_) fun g => ?_
  · rw [if_pos g] at fin
    exact Ld_int (hi2 hE5) (s_fields (hC z0).ck (hC z0).kds (fin z0 rfl))
  · rw [if_neg g] at fin
    exact fin z0 rfl
end
end Go.Proofs.YtfpmgpblhhcpgaaGreat
