/-
  The law's helpers: picking, a routine, what an instruction touches.
-/
import Derived.Test.YtlkmmplgfjicjaaGreatWG
import Derived.Test.YtlkmmplgfjicjaaGreatVU
import Derived.Test.YtlkmmplgfjicjaaGreatVP
import Derived.Test.YtlkmmplgfjicjaaGreatVN
namespace Go.Proofs.YtlkmmplgfjicjaaGreat
set_option linter.unusedVariables false
set_option linter.unusedSimpArgs false
open Go.Proofs.YtlkmmplgfjicjaaGreat.Hc Go.Proofs.YtlkmmplgfjicjaaGreat.Hc.Vf
set_option maxRecDepth 100000
variable {H : Heap}

theorem s_pick {c n : Int} (hc : I64 c) (hn : 0 < n) {k : Int → Heap → Prop} (hk : ∀ j : Nat, (j : Int) < n → k (j : Int) H) : CallT Pg f_hindcastlaw15_pick [.int .i64 c, .int .i64 n] (.one (.c (.int .i64))) H k := by
  refine c_hindcastlaw15_pick _ _ ?_
  unfold v_hindcastlaw15_pick
  unfold I64 at hc
  refine Jn.mk (fun j H' => H = H' ∧ 0 ≤ j) (fun kk hkk => ?_) ?_
  · refine Br_dec (fun h => ?_) fun h => hkk _ _ ⟨rfl, by omega⟩
    refine Lt.mk (u := c + 1) (wrap_i64_id (by omega) (by omega)) (hkk _ _ ⟨rfl, ?_⟩)
    rw [wrap_i64_id (by omega) (by omega)]; omega
  · rintro j _ ⟨rfl, hj⟩
    refine ⟨by omega, ?_⟩
    have h1 : 0 ≤ j.tmod n := Int.tmod_nonneg _ hj
    have h2 : j.tmod n < n := Int.tmod_lt_of_pos _ hn
    have := hk (j.tmod n).toNat (by omega)
    rwa [Int.toNat_of_nonneg h1] at this
theorem rou_at {r : Rou} {K : Heap → Prop} {b : Nat} {vs : List Value} (hr : Row H b T_api_Routine vs) (hv : vs.length = 4) (hK : ∀ H', Upd (· = b) H H' → H'.size = H.size → Row H' b T_api_Routine (rouV r) → K H') :
    St ((adr b).add 0) (.string r.name) H fun H3 => St ((adr b).add 1) (.int .i64 r.params) H3 fun H4 => St ((adr b).add 2) (.int .i64 r.locals) H4 fun H5 => St ((adr b).add 3) (slV r.sl) H5 fun H6 => K H6 := by
  simp only [adr_add]
  obtain ⟨v0, v1, v2, v3, rfl⟩ : ∃ v0 v1 v2 v3, vs = [v0, v1, v2, v3] := by
    match vs, hv with
    | [v0, v1, v2, v3], _ => exact ⟨v0, v1, v2, v3, rfl⟩
  refine St_row hr (by simp) fun H2 hU2 z2 hr2 => St_row hr2 (by simp) fun H3 hU3 z3 hr3 => St_row hr3 (by simp) fun H4 hU4 z4 hr4 => St_row hr4 (by simp) fun H5 hU5 z5 hr5 => ?_
  exact hK _ (((hU2.trans hU3 fun _ _ h => h).trans hU4 fun _ _ h => h).trans hU5 fun _ _ h => h) (by omega) hr5
theorem sys_rou' {a : Addr} {x : Sy} (h : hcells H a 0 (sysV x)) : hcells H (a.add 4) 0 (rouV x.rou) := by
  have : hcells H a 0 ([slV (x.s 0), slV (x.s 1), slV (x.s 2), slV (x.s 3)] ++ rouV x.rou) := h
  exact hcellsShift.1 (hcells_app.1 this).2
def rwL : Option Sy → List (List Int)
  | some x => [x.l 2, x.l 3]
  | none => []
def wrL : Option Sy → List (List Int)
  | some x => [x.l 3]
  | none => []
/-- What an instruction that may be touches. -/
structure AccOk (ks : List Ki) (nf : Nat) (sy : Option Sy) (locals : Int) (op arg : Int) : Prop where
  outer : outerB op = true → sy.isSome = true
  var : op = 2 ∨ op = 3 → 0 ≤ arg ∧ arg < locals
  field : op = 4 → declB ks arg (rwL sy) = true
  put : op = 5 → declB ks arg (wrL sy) = true
  call : op = 21 → 0 ≤ arg ∧ arg < nf
  ret : op = 22 → sy = none
  part : op = 26 ∨ op = 28 → wholeB ks arg = true
  kind : op = 29 ∨ op = 35 → fieldsI ks arg ≥ 0
theorem acc_ok {ks : List Ki} {nf : Nat} {sy : Option Sy} {r : Rou} {n : Nat} (h : accB ks nf sy r n = true) : AccOk ks nf sy r.locals (r.code[n]!).1 (r.code[n]!).2 := by
  unfold accB at h
  generalize (r.code[n]!).1 = op at *
  generalize (r.code[n]!).2 = arg at *
  have h0 : (sy.isNone && outerB op) = false := by
    cases g : (sy.isNone && outerB op) with
    | false => rfl
    | true => rw [if_pos g] at h; cases h
  rw [if_neg (by rw [h0]; simp)] at h
  refine ⟨fun ho => ?_, fun e => ?_, fun e => ?_, fun e => ?_, fun e => ?_, fun e => ?_, fun e => ?_, fun e => ?_⟩
  · rw [ho, Bool.and_true] at h0
    cases sy with
    | none => cases h0
    | some y => rfl
  · rw [if_pos e] at h; simpa using h
  · subst e; cases sy <;> simpa [rwL, wrL] using h
  · subst e; cases sy <;> simpa [rwL, wrL] using h
  · subst e; simpa using h
  · subst e
    have : sy.isNone = true := by simpa using h
    simpa using this
  · rcases e with e | e
    · subst e
      simp at h; exact h.1
    · subst e; simpa using h
  · rcases e with e | e <;> subst e <;> simpa using h
theorem fieldsI_in {ks : List Ki} {n : Int} (h : 0 ≤ fieldsI ks n) : 1 ≤ n ∧ n ≤ ks.length ∧ fieldsI ks n = ((ks[(n - 1).toNat]!).l.length : Nat) := by
  unfold fieldsI at h ⊢
  split at h
  · rename_i g
    rw [if_pos g]
    exact ⟨g.1, g.2, rfl⟩
  · omega
end Go.Proofs.YtlkmmplgfjicjaaGreat
/-
  The document's May; its list of routines.
-/
namespace Go.Proofs.YtlkmmplgfjicjaaGreat
set_option linter.unusedVariables false
set_option linter.unusedSimpArgs false
open Go.Proofs.YtlkmmplgfjicjaaGreat.Hc Go.Proofs.YtlkmmplgfjicjaaGreat.Hc.Vf
set_option maxRecDepth 100000
variable {H : Heap}

theorem sum_bd {rs : List Rou} (h : ∀ r ∈ rs, r.code.length ≤ 2 ^ 43) : ∀ n, n ≤ rs.length → sumL (rs.take n) ≤ n * 2 ^ 43 := fun n hn => by
  induction n with
  | zero => simp [sumL]
  | succ n ih =>
    have := sumL_succ (rs := rs) (n := n) (by omega)
    have h1 := ih (by omega)
    have h2 := h rs[n] (List.getElem_mem (by omega))
    rw [this, Nat.add_mul]; omega
theorem s_rMay {p : Sl × Sl} {ss : List Sy} {fs : List Rou} (hP : PrgR H p ss fs) (hb1 : ∀ x ∈ ss, x.rou.code.length ≤ 2 ^ 43) (hb2 : ∀ r ∈ fs, r.code.length ≤ 2 ^ 43) {k : Bool → Heap → Prop} (hk : ∀ H', Ext H H' → k (decide (MayP ss fs)) H') : CallT Pg f_hindcastref13_May [prgA p] (.one (.c .bool)) H k := by
  refine c_hindcastref13_May p ?_
  unfold v_hindcastref13_May
  refine Nw_row (vs := [slV p.1, slV p.2]) fun b1 H1 hb1' hE1 hz1 hr1 => ?_
  simp only [adr_add, mk_add]
  have hp : ∀ {Hx}, Ext H1 Hx → Row Hx b1 T_api_Program [slV p.1, slV p.2] := fun hE => hE.row hr1 fun h => h
  have hsl := hP.sys.len
  have hfl := hP.fun'.len
  have hPx : ∀ {Hx}, Ext H1 Hx → PrgR Hx p ss fs := fun hE => hP.ext (hE1.trans hE fun _ _ h => h)
  have e0 : Ext H1 H1 := .refl _ _
  have fl : ∀ {H'}, Ext H1 H' → ¬ MayP ss fs → k false H' := fun {H'} hE h => by
    have := hk _ (hE1.trans hE fun _ _ h => h); rwa [decide_eq_false h] at this
  refine Jn.mk (fun j H' => H1 = H' ∧ j = decide (16 < ss.length ∨ 16 < fs.length)) (fun kk hkk => ?_) ?_
  · refine Ld_sl (s := p.1) (((hp e0).cell 0).trans rfl) (Br_dec (fun h => hkk _ _ ⟨rfl, (decide_eq_true (by omega)).symm⟩) fun h => Ld_sl (s := p.2) (((hp e0).cell 1).trans rfl) (hkk _ _ ⟨rfl, decide_eq_decide.2 (by omega)⟩))
  rintro j _ ⟨rfl, rfl⟩
  refine Br_dec (fun h => fl e0 fun g => by have := g.1; have := g.2.1; omega) fun hsm => ?_
  have hs1 : ∀ n, n ≤ ss.length → sumL ((ss.map (·.rou)).take n) ≤ n * 2 ^ 43 := fun n hn => sum_bd (fun r hr => by obtain ⟨x, hx, rfl⟩ := List.mem_map.1 hr; exact hb1 x hx) n (by simpa using hn)
  have hs2 : ∀ n, n ≤ fs.length → sumL (fs.take n) ≤ n * 2 ^ 43 := sum_bd hb2
  have htot1 := hs1 ss.length (Nat.le_refl _)
  rw [List.take_of_length_le (by simp)] at htot1
  refine LoopT.mk (fun (st : Int × Int) H' => ∃ n : Nat, st = (((sumL ((ss.map (·.rou)).take n) : Nat) : Int), ((n : Nat) : Int)) ∧ n ≤ ss.length ∧ Ext H1 H' ∧ ∀ j (hj : j < ss.length), j < n → rises4 ss[j] = true ∧ rouOk (ss[j]).rou = true)
    (fun st _ => ss.length - st.2.toNat) ⟨0, rfl, Nat.zero_le _, e0, fun j hj h => by omega⟩ ?_
  rintro next _ H3 ⟨n, rfl, hn, hE3, hall⟩ hnext
  refine Ld_sl (s := p.1) (((hp hE3).cell 0).trans rfl) (Br_dec (fun hlt => ?_) fun hge => ?_)
  · have hn3 : n < ss.length := by omega
    have hmem : ss[n] ∈ ss := List.getElem_mem hn3
    have hxR : ∀ {Hx}, Ext H1 Hx → SyR Hx (ss[n]) := fun hE => (hPx hE).sysR _ hmem
    have hsucc := sumL_succ (rs := ss.map (·.rou)) (n := n) (by simpa using hn3)
    rw [List.getElem_map] at hsucc
    have hbn := hs1 (n + 1) hn3
    have hno : ¬ (rises4 ss[n] = true ∧ rouOk (ss[n]).rou = true) → ¬ MayP ss fs := fun h => no_sys hn3 fun g => h ⟨g.1, g.2.1⟩
    have hget : ss[n]! = ss[n] := getElem!_pos ss n hn3
    refine Ld_sl (s := p.1) (((hp hE3).cell 0).trans rfl) (IxA_rn' sysV_len (hPx hE3).sys (by omega) (j := n) rfl hn3 fun a ha => ?_)
    rw [hget] at ha
    generalize hxe : ss[n] = x at *
    refine ld_sys ha (sys_copy (x := x) fun b2 H12 hb2' hE12 hr12 => ?_)
    have hE12' := hE3.trans hE12 fun _ _ h => h
    have hx := hxR hE12'
    refine Jn.mk (fun j H' => H12 = H' ∧ j = rises4 x) (fun kk hkk => ?_) ?_
    · have no : ∀ q, q < 4 → risesOk 0 (x.l q) = false → kk false H12 := fun q hq h => hkk _ _ ⟨rfl, by
        rw [eq_comm, Bool.eq_false_iff]
        intro g
        rw [rises4_at.1 g q hq] at h; cases h⟩
      refine Ld_sl (s := x.s 0) ((hr12.cell 0).trans rfl) (s_rset (hx.sets 0 (by omega)) (hx.lens 0 (by omega)) (Br.mk (fun h0 => ?_) fun h => no 0 (by omega) h))
      refine Ld_sl (s := x.s 1) ((hr12.cell 1).trans rfl) (s_rset (hx.sets 1 (by omega)) (hx.lens 1 (by omega)) (Br.mk (fun h1 => ?_) fun h => no 1 (by omega) h))
      refine Ld_sl (s := x.s 2) ((hr12.cell 2).trans rfl) (s_rset (hx.sets 2 (by omega)) (hx.lens 2 (by omega)) (Br.mk (fun h2 => ?_) fun h => no 2 (by omega) h))
      refine Ld_sl (s := x.s 3) ((hr12.cell 3).trans rfl) (s_rset (hx.sets 3 (by omega)) (hx.lens 3 (by omega)) (hkk _ _ ⟨rfl, ?_⟩))
      rw [Bool.eq_iff_iff, rises4_at]
      refine ⟨fun h3 q hq => ?_, fun h => h 3 (by omega)⟩
      match q, hq with
      | 0, _ => exact h0
      | 1, _ => exact h1
      | 2, _ => exact h2
      | 3, _ => exact h3
    rintro _ _ ⟨rfl, rfl⟩
    refine ld_rou (r := x.rou) (sys_rou hr12) (s_rroutine hx.code hx.clen fun H18 hE18 => ?_)
    have hE18' := hE12'.trans hE18 fun _ _ h => h
    refine Jn.mk (fun j H' => H18 = H' ∧ j = !(rises4 x && rouOk x.rou)) (fun kk hkk => Br_not (Br.mk (fun h => hkk _ _ ⟨rfl, by rw [h, Bool.true_and]⟩) fun h => hkk _ _ ⟨rfl, by rw [h]; rfl⟩)) ?_
    rintro _ _ ⟨rfl, rfl⟩
    refine Br_not (Br.mk (fun h => ?_) fun h => fl hE18' (hno fun g => by rw [g.1, g.2] at h; cases h))
    rw [Bool.and_eq_true] at h
    have hr18 := hE18.row hr12 fun h => h
    have hxl := hx.code.len
    refine Ld_sl (s := x.rou.sl) ((hr18.cell 7).trans rfl) (Lt.mk (u := ((sumL ((ss.map (·.rou)).take (n + 1)) : Nat) : Int)) (by rw [wrap_i64_id] <;> omega) (Lt.mk (u := ((n + 1 : Nat) : Int)) (by rw [wrap_i64_id] <;> omega) (hnext _ _ ⟨n + 1, rfl, hn3, hE18', fun j hj hjn => ?_⟩ (by dsimp only; omega))))
    rcases Nat.lt_or_ge j n with g | g
    · exact hall j hj g
    · have : j = n := by omega
      subst this; rw [hxe]; exact h
  · have hne : n = ss.length := by omega
    subst hne
    rw [List.take_of_length_le (by simp)]
    have hss : ∀ x ∈ ss, rises4 x = true ∧ rouOk x.rou = true := fun x hx => by
      obtain ⟨j, hj, rfl⟩ := List.getElem_of_mem hx
      exact hall j hj hj
    refine LoopT.mk (fun (st : Int × Int) H' => ∃ n : Nat, st = (((sumL (ss.map (·.rou)) + sumL (fs.take n) : Nat) : Int), ((n : Nat) : Int)) ∧ n ≤ fs.length ∧ Ext H1 H' ∧ ∀ j (hj : j < fs.length), j < n → rouOk fs[j] = true)
      (fun st _ => fs.length - st.2.toNat) ⟨0, by simp [sumL], Nat.zero_le _, hE3, fun j hj h => by omega⟩ ?_
    rintro next2 _ H20 ⟨n, rfl, hn2, hE20, hall2⟩ hnext2
    refine Ld_sl (s := p.2) (((hp hE20).cell 1).trans rfl) (Br_dec (fun hlt2 => ?_) fun hge2 => ?_)
    · have hn3 : n < fs.length := by omega
      have hmem : fs[n] ∈ fs := List.getElem_mem hn3
      have hxR : ∀ {Hx}, Ext H1 Hx → CodeR Hx (fs[n]) := fun hE => (hPx hE).funR _ hmem
      have hxl2 := (hPx e0).funL _ hmem
      have hsucc := sumL_succ (rs := fs) (n := n) hn3
      have hbn := hs2 (n + 1) hn3
      have hno : ¬ (rouOk fs[n] = true) → ¬ MayP ss fs := fun h => no_fun hn3 fun g => h g.1
      have hget : fs[n]! = fs[n] := getElem!_pos fs n hn3
      have hat : ∀ {Hx : Heap} {kk : Addr → Prop}, Ext H1 Hx → (∀ a, hcells Hx a 0 (rouV fs[n]) → kk a) → IxA 4 p.2 (n : Int) kk := fun hE hkk => IxA_rn' rouV_len (hPx hE).fun' (by omega) (j := n) rfl hn3 fun a ha => hkk a (by rwa [hget] at ha)
      generalize hxe : fs[n] = x at *
      refine Ld_sl (s := p.2) (((hp hE20).cell 1).trans rfl) (hat hE20 fun a ha => ld_rou (r := x) ha (s_rroutine (hxR hE20) hxl2 fun H21 hE21 => ?_))
      have hE21' := hE20.trans hE21 fun _ _ h => h
      refine Br_not (Br.mk (fun h => ?_) fun h => fl hE21' (hno fun g => by rw [g] at h; cases h))
      have hxl := (hxR hE21').len
      refine Ld_sl (s := p.2) (((hp hE21').cell 1).trans rfl) (hat hE21' fun a ha => Ld_sl (s := x.sl) ?_ (Lt.mk (u := ((sumL (ss.map (·.rou)) + sumL (fs.take (n + 1)) : Nat) : Int)) (by rw [wrap_i64_id] <;> omega) (Lt.mk (u := ((n + 1 : Nat) : Int)) (by rw [wrap_i64_id] <;> omega) (hnext2 _ _ ⟨n + 1, rfl, hn3, hE21', fun j hj hjn => ?_⟩ (by dsimp only; omega)))))
      · have := hcells_iff.1 ha 3 (by simp)
        simpa using this
      · rcases Nat.lt_or_ge j n with g | g
        · exact hall2 j hj g
        · have : j = n := by omega
          subst this; rw [hxe]; exact h
    · have hne : n = fs.length := by omega
      subst hne
      rw [List.take_length]
      have := hk _ (hE1.trans hE20 fun _ _ h => h)
      have e : decide (((sumL (ss.map (·.rou)) + sumL fs : Nat) : Int) ≤ 2000) = decide (MayP ss fs) := decide_eq_decide.2 ⟨fun h => ⟨by omega, by omega, hss, fun r hr => by
        obtain ⟨j, hj, rfl⟩ := List.getElem_of_mem hr
        exact hall2 j hj hj, by omega⟩, fun h => by have := h.2.2.2.2; omega⟩
      rw [e]; exact this
theorem s_rfields {ksl : Sl} {ks : List Ki} (hK : KdsR H ksl ks) {n : Int} {k : Int → Heap → Prop} (hk : k (fieldsI ks n) H) : CallT Pg f_hindcastref15_fields [.slice ksl.a ksl.len ksl.cap, .int .i64 n] (.one (.c (.int .i64))) H k := by
  refine c_hindcastref15_fields _ _ ?_
  unfold v_hindcastref15_fields
  have hlen := hK.rn.len
  have hkl := hK.len
  unfold fieldsI at hk
  refine Jn.mk (fun j H' => H = H' ∧ j = decide (¬ (1 ≤ n ∧ n ≤ ks.length))) (fun kk hkk => ?_) ?_
  · exact Br_dec (fun h => hkk _ _ ⟨rfl, (decide_eq_true (by omega)).symm⟩) fun h => hkk _ _ ⟨rfl, decide_eq_decide.2 (by omega)⟩
  rintro _ _ ⟨rfl, rfl⟩
  refine Br_dec (fun h => by rwa [if_neg h] at hk) fun h => ?_
  have h := Classical.not_not.1 h
  rw [if_pos h] at hk
  refine Lt.mk (u := (((n - 1).toNat : Nat) : Int)) (by rw [wrap_i64_id] <;> omega) (IxA_rn' kiV_len hK.rn (by omega) (j := (n - 1).toNat) rfl (by omega) fun a ha => ?_)
  have hm : ks[(n - 1).toNat]! ∈ ks := by rw [getElem!_pos ks _ (by omega)]; exact List.getElem_mem _
  refine Ld_sl (s := (ks[(n - 1).toNat]!).s) ?_ ?_
  · have := hcells_iff.1 ha 1 (by simp)
    simpa using this
  · rw [(hK.el _ hm).len]; exact hk
theorem s_rin {s : Sl} {xs : List Int} {v : Int} (hs : RL (Value.int .i64) H s xs) (hl : xs.length ≤ 2 ^ 60) {k : Bool → Heap → Prop} (hk : k (decide (v ∈ xs)) H) : CallT Pg f_hindcastref15_in [.slice s.a s.len s.cap, .int .i64 v] (.one (.c .bool)) H k := by
  refine c_hindcastref15_in _ _ ?_
  unfold v_hindcastref15_in
  have hlen := hs.len
  refine LoopT.mk (fun i H' => H = H' ∧ ∃ n : Nat, i = n ∧ n ≤ xs.length ∧ ∀ j (h : j < xs.length), j < n → xs[j] ≠ v) (fun i _ => xs.length - i.toNat) ⟨rfl, 0, rfl, Nat.zero_le _, fun j _ hj => by omega⟩ ?_
  rintro next _ _ ⟨rfl, n, rfl, hn, hno⟩ hnext
  refine Br_dec (fun hlt => ?_) fun hge => ?_
  · have hn2 : n < xs.length := by omega
    refine IxA_rl hs rfl hn2 fun a ha => Ld_int ha (Br.mk (fun h => ?_) fun h => ?_)
    · have : v ∈ xs := by rw [← beqI h]; exact List.getElem_mem hn2
      rwa [decide_eq_true this] at hk
    · have h := bneI h
      refine Lt.mk (u := ((n + 1 : Nat) : Int)) (by rw [wrap_i64_id] <;> omega) (hnext _ _ ⟨rfl, n + 1, rfl, hn2, fun j hj hjn => ?_⟩ (by omega))
      rcases Nat.lt_or_ge j n with e | e
      · exact hno j hj e
      · have : j = n := by omega
        subst this; exact h
  · have : v ∉ xs := fun h => by
      obtain ⟨j, hj, e⟩ := List.getElem_of_mem h
      exact hno j hj (by omega) e
    rwa [decide_eq_false this] at hk
end Go.Proofs.YtlkmmplgfjicjaaGreat
/-
  The document's routines and what they may touch.
-/
namespace Go.Proofs.YtlkmmplgfjicjaaGreat
set_option linter.unusedVariables false
set_option linter.unusedSimpArgs false
open Go.Proofs.YtlkmmplgfjicjaaGreat.Hc Go.Proofs.YtlkmmplgfjicjaaGreat.Hc.Vf
set_option maxRecDepth 100000
variable {H : Heap}

def zeroSy : Sy := ⟨fun _ => ⟨none, 0, 0⟩, fun _ => [], ⟨ByteArray.empty, 0, 0, ⟨none, 0, 0⟩, []⟩⟩
/-- One of the document's routines. -/
structure Rr where
  rou : Rou
  sy : Option Sy
  place : Nat
instance : Inhabited Rr := ⟨⟨default, none, 0⟩⟩
abbrev rrV (x : Rr) : List Value := rouV x.rou ++ sysV (x.sy.getD zeroSy) ++ [.bool x.sy.isSome, .int .i64 (x.place : Nat)]
theorem rrV_len (x : Rr) : (rrV x).length = 14 := rfl
def rrAt (ss : List Sy) (fs : List Rou) (i : Nat) : Rr := ⟨(rousL ss fs)[i]!, syAt ss i, sumL ((rousL ss fs).take i)⟩
def rrs (ss : List Sy) (fs : List Rou) : List Rr := (List.range (ss.length + fs.length)).map (rrAt ss fs)
theorem rrs_at {ss : List Sy} {fs : List Rou} {n : Nat} (hn : n < ss.length + fs.length) : (rrs ss fs)[n]! = rrAt ss fs n := by
  unfold rrs
  rw [getElem!_pos _ n (by simpa using hn)]
  simp
theorem rrV_one (x : Rr) : ∀ w ∈ rrV x, w.oneCell' = true := by simp [Value.oneCell']
theorem rr_snoc {ss : List Sy} {fs : List Rou} {n : Nat} : ((List.range (n + 1)).map (rrAt ss fs)).flatMap rrV = ((List.range n).map (rrAt ss fs)).flatMap rrV ++ rrV (rrAt ss fs n) := by
  rw [List.range_succ, List.map_append, List.flatMap_append]; simp
theorem sum_le {ss : List Sy} {fs : List Rou} (hM : MayP ss fs) (n : Nat) : sumL ((rousL ss fs).take n) ≤ 2000 := by
  have e3 : sumL (rousL ss fs) = sumL (ss.map (·.rou)) + sumL fs := by unfold sumL; rw [List.map_append, List.sum_append]
  have e2 := sumL_take (rs := rousL ss fs) (n := n)
  have := hM.2.2.2.2
  omega
theorem sum_next {ss : List Sy} {fs : List Rou} {n : Nat} (hn : n < ss.length + fs.length) : sumL ((rousL ss fs).take (n + 1)) = sumL ((rousL ss fs).take n) + ((rousL ss fs)[n]!).code.length := by
  have hl : (rousL ss fs).length = ss.length + fs.length := by rw [List.length_append, List.length_map]
  rw [sumL_succ (by omega), getElem!_pos (rousL ss fs) n (by omega)]
theorem sysCells {a : Addr} {x : Sy} (h : hcells H a 0 (sysV x)) (i : Nat) (hi : i < 8) : hcell H (a.add i) = (sysV x)[i]? := by
  have := hcells_iff.1 h i (by rw [sysV_len]; exact hi)
  rwa [Nat.zero_add] at this
theorem RN.elt {α : Type} [Inhabited α] {f : α → List Value} {n : Nat} (hf : ∀ e, (f e).length = n) {s : Sl} {xs : List α} (h : RN f n H s xs) {a0 : Addr} (ha : s.a = some a0) {j : Nat} (hl : j < xs.length) : hcells H (a0.add (j * n)) 0 (f xs[j]!) := by
  have hr := h.rd
  unfold rdL at hr
  rw [ha] at hr
  obtain ⟨r, hrest⟩ := flat_drop hf hl
  have h1 := hcells_drop (m := j * n) hr
  rw [hrest, Nat.zero_add] at h1
  exact hcellsShift.1 (hcells_app.1 h1).1
theorem IxA_rnb {α : Type} [Inhabited α] {f : α → List Value} {n : Nat} (hf : ∀ e, (f e).length = n) {s : Sl} {xs : List α} (h : RN f n H s xs) (hn : 0 < n) {i : Int} {k : Addr → Prop} {j : Nat} (hj : i = j) (hl : j < xs.length)
    (hk : ∀ a0, s.a = some a0 → k (a0.add (j * n))) : IxA n s i k := by
  have hr := h.rd
  unfold rdL at hr
  cases ha : s.a with
  | none =>
    rw [ha] at hr
    have := flat_len hf (es := xs)
    rw [hr] at this
    simp only [List.length_nil] at this
    have : 0 < xs.length * n := Nat.mul_pos (by omega) hn
    omega
  | some a =>
    subst hj
    refine IxA.mk ha (by omega) (by rw [h.len]; omega) ?_
    rw [Int.toNat_natCast]
    exact hk a ha
theorem stab_rr {a : Addr} {b1 : Nat} {l : Sl} {x : Sy} (cb : hcell H (adr b1) = some (slV l)) (h2 : hcells H a 0 (sysV x)) : ∀ y ∈ [(a.add 0, Value.slice (x.s 0).a (x.s 0).len (x.s 0).cap), (a.add 1, .slice (x.s 1).a (x.s 1).len (x.s 1).cap), (a.add 2, .slice (x.s 2).a (x.s 2).len (x.s 2).cap), (a.add 3, .slice (x.s 3).a (x.s 3).len (x.s 3).cap), (a.add 4, .string x.rou.name), (a.add 5, .int .i64 x.rou.params), (a.add 6, .int .i64 x.rou.locals), (a.add 7, .slice x.rou.sl.a x.rou.sl.len x.rou.sl.cap), (adr b1, .slice l.a l.len l.cap), ((a.add 4).add 0, .string x.rou.name), ((a.add 4).add 1, .int .i64 x.rou.params), ((a.add 4).add 2, .int .i64 x.rou.locals), ((a.add 4).add 3, .slice x.rou.sl.a x.rou.sl.len x.rou.sl.cap), (adr b1, .slice l.a l.len l.cap)], hcell H y.1 = some y.2 := by
  intro y hy
  simp only [List.mem_cons, List.not_mem_nil, or_false] at hy
  rcases hy with rfl | rfl | rfl | rfl | rfl | rfl | rfl | rfl | rfl | rfl | rfl | rfl | rfl | rfl
  · exact sysCells h2 0 (by omega)
  · exact sysCells h2 1 (by omega)
  · exact sysCells h2 2 (by omega)
  · exact sysCells h2 3 (by omega)
  · exact sysCells h2 4 (by omega)
  · exact sysCells h2 5 (by omega)
  · exact sysCells h2 6 (by omega)
  · exact sysCells h2 7 (by omega)
  · exact cb
  · rw [addAdd]; exact sysCells h2 4 (by omega)
  · rw [addAdd]; exact sysCells h2 5 (by omega)
  · rw [addAdd]; exact sysCells h2 6 (by omega)
  · rw [addAdd]; exact sysCells h2 7 (by omega)
  · exact cb
theorem s_rroutines {p : Sl × Sl} {ss : List Sy} {fs : List Rou} (hP : PrgR H p ss fs) (hM : MayP ss fs) {k : Sl → Heap → Prop}
    (hk : ∀ s H', Ext H H' → RN rrV 14 H' s (rrs ss fs) → k s H') : CallT Pg f_hindcastref15_routines [prgA p] (.one (.c .sl)) H k := by
  refine c_hindcastref15_routines p ?_
  unfold v_hindcastref15_routines
  refine Nw_row (vs := [slV p.1, slV p.2]) fun b1 H1 hb1' hE1 hz1 hr1 => ?_
  simp only [adr_add]
  have hp : ∀ {Hx}, Ext H1 Hx → Row Hx b1 T_api_Program [slV p.1, slV p.2] := fun hE => hE.row hr1 fun h => h
  have hsl := hP.sys.len
  have hfl := hP.fun'.len
  have hPx : ∀ {Hx}, Ext H1 Hx → PrgR Hx p ss fs := fun hE => hP.ext (hE1.trans hE fun _ _ h => h)
  have e0 : Ext H1 H1 := .refl _ _
  obtain ⟨m1, m2, _⟩ := id hM
  refine LoopT.mk (fun (st : Sl × Int × Int) H' => ∃ n : Nat, st.2 = (((sumL ((rousL ss fs).take n) : Nat) : Int), ((n : Nat) : Int)) ∧ n ≤ ss.length ∧ Ext H1 H' ∧ VecN H' T_hindcastref15_routine 14 st.1 (((List.range n).map (rrAt ss fs)).flatMap rrV) ∧ ∀ b, st.1.a = some (adr b) → H1.size ≤ b)
    (fun st _ => ss.length - st.2.2.toNat) ⟨0, by simp [sumL], Nat.zero_le _, e0, VecN.nil _ _ _, fun b hb => by cases hb⟩ ?_
  rintro next ⟨s, _, _⟩ H2 ⟨n, hst, hn, hE2, hv, hsb⟩ hnext
  simp only [Prod.mk.injEq] at hst
  obtain ⟨rfl, rfl⟩ := hst
  dsimp only at hv hsb ⊢
  have hvl := hv.len
  rw [flat_len rrV_len, List.length_map, List.length_range] at hvl
  have hsn := sum_le hM n
  refine Ld_sl (s := p.1) (((hp hE2).cell 0).trans rfl) (Br_dec (fun hlt => ?_) fun hge => ?_)
  · have hn3 : n < ss.length := by omega
    have hnx := sum_next (ss := ss) (fs := fs) (n := n) (by omega)
    have hsn1 := sum_le hM (n + 1)
    have hrr : rrAt ss fs n = ⟨(ss[n]!).rou, some (ss[n]!), sumL ((rousL ss fs).take n)⟩ := by unfold rrAt syAt; rw [rous_sys hn3, if_pos hn3]
    rw [rous_sys hn3] at hnx
    have hmem : ss[n]! ∈ ss := by rw [getElem!_pos ss n hn3]; exact List.getElem_mem hn3
    have hxl : (ss[n]!).rou.sl.len = (ss[n]!).rou.code.length := ((hPx hE2).sysR _ hmem).code.len
    have hel : ∀ {Hx : Heap} {a0 : Addr}, Ext H1 Hx → p.1.a = some a0 → hcells Hx (a0.add (n * 8)) 0 (sysV ss[n]!) := fun hE ha => RN.elt sysV_len (hPx hE).sys ha hn3
    have hat : ∀ {kk : Addr → Prop}, (∀ a0, p.1.a = some a0 → kk (a0.add (n * 8))) → IxA 8 p.1 (n : Int) kk := fun hkk => IxA_rnb sysV_len (hPx e0).sys (by omega) (j := n) rfl hn3 hkk
    generalize hxe : ss[n]! = x at *
    refine Ld_sl (s := p.1) (((hp hE2).cell 0).trans rfl) (hat fun a0 ha0 => ld_rou (r := x.rou) (sys_rou' (hel hE2 ha0)) ?_)
    refine Ld_sl (s := p.1) (((hp hE2).cell 0).trans rfl) (hat fun a0' ha0' => ?_)
    rw [ha0] at ha0'
    cases ha0'
    refine ld_sys (x := x) (hel hE2 ha0) ?_
    refine Nw_row (vs := rrV ⟨x.rou, some x, sumL ((rousL ss fs).take n)⟩) fun b2 H3 hb2 hE3 _ hr3 => ?_
    have hE3' := hE2.trans hE3 fun _ _ h => h
    refine Stab_all (stab_rr (((hp hE3').cell 0).trans rfl) (hel hE3' ha0)) ?_
    refine App_vecN (n := 14) rfl (by omega) (hv.ext hE3) (ws := rrV ⟨x.rou, some x, sumL ((rousL ss fs).take n)⟩) (Row.rd_all hr3) rfl (rrV_one _) (by omega) (by simp only; omega) fun l1 H4 hv4 hl4 hU4 ha4 => ?_
    have z3 := hE3'.size
    have hE4 : Ext H1 H4 := hE3'.trans hU4 fun b hb e => by have := hsb b e.1; omega
    refine Stab_all (stab_rr (((hp hE4).cell 0).trans rfl) (hel hE4 ha0)) ?_
    refine Ld_sl (s := p.1) (((hp hE4).cell 0).trans rfl) (hat fun a0' ha0' => ?_)
    rw [ha0] at ha0'
    cases ha0'
    refine Ld_sl (s := x.rou.sl) ?_ (Lt.mk (u := ((sumL ((rousL ss fs).take (n + 1)) : Nat) : Int)) (by rw [wrap_i64_id] <;> omega) (Lt.mk (u := ((n + 1 : Nat) : Int)) (by rw [wrap_i64_id] <;> omega) (hnext _ _ ⟨n + 1, rfl, hn3, hE4, ?_, fun b hb => ?_⟩ (by dsimp only; omega))))
    · rw [addAdd]; exact sysCells (hel hE4 ha0) 7 (by omega)
    · rw [rr_snoc, hrr]; exact hv4
    · rcases ha4 with ⟨g, _⟩ | g
      · rw [g] at hb; exact hsb b hb
      · rw [g] at hb; cases hb; omega
  · have hne : n = ss.length := by omega
    subst hne
    refine LoopT.mk (fun (st : Sl × Int × Int) H' => ∃ m : Nat, st.2 = (((sumL ((rousL ss fs).take (ss.length + m)) : Nat) : Int), ((m : Nat) : Int)) ∧ m ≤ fs.length ∧ Ext H1 H' ∧ VecN H' T_hindcastref15_routine 14 st.1 (((List.range (ss.length + m)).map (rrAt ss fs)).flatMap rrV) ∧ ∀ b, st.1.a = some (adr b) → H1.size ≤ b)
      (fun st _ => fs.length - st.2.2.toNat) ⟨0, rfl, Nat.zero_le _, hE2, hv, hsb⟩ ?_
    rintro next2 ⟨s, _, _⟩ H5 ⟨m, hst, hm, hE5, hv5, hsb5⟩ hnext2
    simp only [Prod.mk.injEq] at hst
    obtain ⟨rfl, rfl⟩ := hst
    dsimp only at hv5 hsb5 ⊢
    have hvl5 := hv5.len
    rw [flat_len rrV_len, List.length_map, List.length_range] at hvl5
    have hsm := sum_le hM (ss.length + m)
    refine Ld_sl (s := p.2) (((hp hE5).cell 1).trans rfl) (Br_dec (fun hlt2 => ?_) fun hge2 => ?_)
    · have hm3 : m < fs.length := by omega
      have hnx := sum_next (ss := ss) (fs := fs) (n := ss.length + m) (by omega)
      have hsn1 := sum_le hM (ss.length + m + 1)
      have hrr : rrAt ss fs (ss.length + m) = ⟨fs[m]!, none, sumL ((rousL ss fs).take (ss.length + m))⟩ := by unfold rrAt syAt; rw [rous_fun hm3, if_neg (by omega)]
      rw [rous_fun hm3] at hnx
      have hmem : fs[m]! ∈ fs := by rw [getElem!_pos fs m hm3]; exact List.getElem_mem hm3
      have hxl : (fs[m]!).sl.len = (fs[m]!).code.length := ((hPx hE5).funR _ hmem).len
      have hat : ∀ {Hx : Heap} {kk : Addr → Prop}, Ext H1 Hx → (∀ a, hcells Hx a 0 (rouV fs[m]!) → kk a) → IxA 4 p.2 (m : Int) kk := fun hE hkk => IxA_rn' rouV_len (hPx hE).fun' (by omega) (j := m) rfl hm3 hkk
      generalize hxe : fs[m]! = x at *
      refine Ld_sl (s := p.2) (((hp hE5).cell 1).trans rfl) (hat hE5 fun a ha => ld_rou (r := x) ha ?_)
      refine Nw_row (vs := rrV ⟨x, none, sumL ((rousL ss fs).take (ss.length + m))⟩) fun b2 H6 hb2 hE6 _ hr6 => ?_
      have hE6' := hE5.trans hE6 fun _ _ h => h
      refine App_vecN (n := 14) rfl (by omega) (hv5.ext hE6) (ws := rrV ⟨x, none, sumL ((rousL ss fs).take (ss.length + m))⟩) (Row.rd_all hr6) rfl (rrV_one _) (by omega) (by simp only; omega) fun l1 H7 hv7 hl7 hU7 ha7 => ?_
      have z6 := hE6'.size
      have hE7 : Ext H1 H7 := hE6'.trans hU7 fun b hb e => by have := hsb5 b e.1; omega
      refine Ld_sl (s := p.2) (((hp hE7).cell 1).trans rfl) (hat hE7 fun a ha => Ld_sl (s := x.sl) ?_ (Lt.mk (u := ((sumL ((rousL ss fs).take (ss.length + m + 1)) : Nat) : Int)) (by rw [wrap_i64_id] <;> omega) (Lt.mk (u := ((m + 1 : Nat) : Int)) (by rw [wrap_i64_id] <;> omega) (hnext2 _ _ ⟨m + 1, rfl, hm3, hE7, ?_, fun b hb => ?_⟩ (by dsimp only; omega)))))
      · have := hcells_iff.1 ha 3 (by simp)
        simpa using this
      · rw [← Nat.add_assoc, rr_snoc, hrr]; exact hv7
      · rcases ha7 with ⟨g, _⟩ | g
        · rw [g] at hb; exact hsb5 b hb
        · rw [g] at hb; cases hb; omega
    · have hne : m = fs.length := by omega
      subst hne
      exact hk _ _ (hE1.trans hE5 fun _ _ h => h) (VecN.rn rrV_len (by omega) hv5)
end Go.Proofs.YtlkmmplgfjicjaaGreat
/-
  The document's access.
-/
namespace Go.Proofs.YtlkmmplgfjicjaaGreat
set_option linter.unusedVariables false
set_option linter.unusedSimpArgs false
open Go.Proofs.YtlkmmplgfjicjaaGreat.Hc Go.Proofs.YtlkmmplgfjicjaaGreat.Hc.Vf
set_option maxRecDepth 100000
variable {H : Heap}

/-- Access, but for what stands about a Part. -/
def accQ (ks : List Ki) (nf : Nat) (sy : Option Sy) (locals op arg : Int) : Bool :=
  if sy.isNone && outerB op then false
  else if op = 2 ∨ op = 3 then decide (0 ≤ arg ∧ arg < locals)
  else if op = 4 then declB ks arg (rwL sy)
  else if op = 5 then declB ks arg (wrL sy)
  else if op = 21 then decide (0 ≤ arg ∧ arg < nf)
  else if op = 22 then sy.isNone
  else if op = 26 ∨ op = 28 then wholeB ks arg
  else if op = 29 ∨ op = 35 then decide (fieldsI ks arg ≥ 0)
  else true
theorem acc_split {ks : List Ki} {nf : Nat} {sy : Option Sy} {r : Rou} {n : Nat} : accB ks nf sy r n = (accQ ks nf sy r.locals (r.code[n]!).1 (r.code[n]!).2 && (!decide ((r.code[n]!).1 = 26) || rowB r.code n)) := by
  unfold accB accQ
  generalize (r.code[n]!).1 = op
  generalize (r.code[n]!).2 = arg
  by_cases h0 : (sy.isNone && outerB op) = true
  · rw [if_pos h0, if_pos h0]; rfl
  rw [if_neg h0, if_neg h0]
  by_cases h26 : op = 26
  · subst h26; simp
  · rw [decide_eq_false h26, Bool.not_false, Bool.true_or, Bool.and_true]
    cases sy <;> simp [h26, rwL, wrL]
theorem accQ_none {ks : List Ki} {nf : Nat} {locals op arg : Int} (h : outerB op = true) : accQ ks nf none locals op arg = false := by unfold accQ; rw [h]; rfl
theorem s_raccess {p : Sl × Sl} {ksl : Sl} {ks : List Ki} {nf : Nat} (hp : p.2.len = nf) (hK : KdsR H ksl ks) {x : Rr} (hr : CodeR H x.rou) (hl : x.rou.code.length ≤ 2000) (hs : ∀ y, x.sy = some y → SyR H y) {n : Nat} (hn : n < x.rou.code.length)
    {k : Int → Heap → Prop} (hk : ∀ H', Ext H H' → k ((tAt ks nf x.sy x.rou n : Nat) : Int) H') :
    CallT Pg f_hindcastref15_access [prgA p, .slice ksl.a ksl.len ksl.cap, .agg ⟨rrV x⟩, .int .i64 (n : Nat)] (.one (.c (.int .i64))) H k := by
  let z : Sy := x.sy.getD zeroSy
  have hz : ∀ q, q < 4 → RL (Value.int .i64) H (z.s q) (z.l q) ∧ (z.l q).length ≤ 2 ^ 60 := fun q hq => by
    show RL _ H ((x.sy.getD zeroSy).s q) ((x.sy.getD zeroSy).l q) ∧ ((x.sy.getD zeroSy).l q).length ≤ 2 ^ 60
    cases hx : x.sy with
    | none => exact ⟨RL.nil _ _, by simp [zeroSy]⟩
    | some y => exact ⟨(hs y hx).sets q hq, (hs y hx).lens q hq⟩
  refine c_hindcastref15_access p _ (x.rou.name, x.rou.params, x.rou.locals, x.rou.sl, z.s 0, z.s 1, z.s 2, z.s 3, z.rou.name, z.rou.params, z.rou.locals, z.rou.sl, x.sy.isSome, (x.place : Int)) _ ?_
  unfold v_hindcastref15_access
  have hzl : ∀ {q : Nat} {ls : List (List Int)}, (∀ y, x.sy = some y → z = y) := fun y h => by show x.sy.getD zeroSy = y; rw [h]; rfl
  have hzs : ∀ y, x.sy = some y → z = y := fun y h => by show x.sy.getD zeroSy = y; rw [h]; rfl
  refine Nw_row (vs := [slV p.1, slV p.2]) fun b1 H1 hb1 hE1 _ hr1 => Nw_row (vs := rrV x) fun b2 H2 hb2 hE2 _ hr2 => ?_
  simp only [adr_add, mk_add]
  have hE2' := hE1.trans hE2 fun _ _ h => h
  refine Ld_sl (s := x.rou.sl) ((hr2.cell 3).trans rfl) (IxA_rn' insV_len (hr.ext hE2') (by omega) (j := n) rfl hn fun a ha => ⟨((x.rou.code[n]!).1, (x.rou.code[n]!).2), ha, ?_⟩)
  refine Nw_row (vs := [.int .i64 0, .int .i64 0]) fun b3 H3 hb3 hE3 _ hr3 => St_row hr3 (by simp) fun H4 hU4 _ hr4 => St_row hr4 (by simp) fun H5 hU5 _ hr5 => ?_
  have hE5 : Ext H2 H5 := extUpd hE3 (by omega) (hU4.trans hU5 fun _ _ h => h)
  have hE5' := hE2'.trans hE5 fun _ _ h => h
  have hI5 : Row H5 b3 T_api_Instr (insV x.rou.code[n]!) := hr5
  have hR5 := hE5.row hr2 fun h => h
  have hp5 : Row H5 b1 T_api_Program [slV p.1, slV p.2] := (hE2.trans hE5 fun _ _ h => h).row hr1 fun h => h
  have i0 : hcell H5 (adr b3) = some (.int .i64 (x.rou.code[n]!).1) := (hI5.cell 0).trans rfl
  have i1 : hcell H5 ⟨b3, 1, none⟩ = some (.int .i64 (x.rou.code[n]!).2) := (hI5.cell 1).trans rfl
  have hsp := acc_split (ks := ks) (nf := nf) (sy := x.sy) (r := x.rou) (n := n)
  have hkx := hk _ hE5'
  unfold tAt at hkx
  rw [hsp] at hkx
  have hhop : hopBad x.rou.code n = decide (((x.rou.code[n]!).1 = 19 ∨ (x.rou.code[n]!).1 = 20) ∧ 1 ≤ (x.rou.code[n]!).2 ∧ (x.rou.code[n]!).2 < x.rou.code.length ∧ opI x.rou.code ((x.rou.code[n]!).2 - 1) = 26) := rfl
  generalize (x.rou.code[n]!).1 = op at *
  generalize (x.rou.code[n]!).2 = arg at *
  have isS : hcell H5 ⟨b2, 12, none⟩ = some (.bool x.sy.isSome) := (hR5.cell 12).trans rfl
  have hKx := hK.ext hE5'
  have hcx := hr.ext hE5'
  have hcl := hcx.len
  refine Ld_int i1 ⟨by omega, Ld_int i1 ⟨by omega, Ld_int i0 ?_⟩⟩
  have orJ : ∀ {a b : Int} {kk : Bool → Heap → Prop}, kk (decide (op = a ∨ op = b)) H5 → Br (op == a) (kk true H5) (kk (op == b) H5) := fun {a b kk} h => Br.mk (fun g => by rw [decide_eq_true (.inl (beqI g))] at h; exact h) fun g => by
    have g := bneI g
    have : (op == b) = decide (op = a ∨ op = b) := by rw [Bool.eq_iff_iff, beq_iff_eq, decide_eq_true_eq]; omega
    rw [this]; exact h
  refine Jn.mk (fun j H' => H5 = H' ∧ j = !accQ ks nf x.sy x.rou.locals op arg) (fun kk hkk => ?_) ?_
  · have fin : ∀ {b : Bool}, accQ ks nf x.sy x.rou.locals op arg = !b → kk b H5 := fun {b} h => hkk _ _ ⟨rfl, by rw [h, Bool.not_not]⟩
    have finN : x.sy.isSome = false → outerB op = true → kk true H5 := fun h ho => fin (by
      have : x.sy = none := by cases hx : x.sy with
        | none => rfl
        | some y => rw [hx] at h; cases h
      rw [this, accQ_none ho]; rfl)
    have notout : x.sy.isSome = true → (x.sy.isNone && outerB op) = false := fun h => by
      cases hx : x.sy with
      | none => rw [hx] at h; cases h
      | some y => rfl
    have no0 : ¬ (x.sy.isNone && outerB op) = true ∨ accQ ks nf x.sy x.rou.locals op arg = false := by
      by_cases h : (x.sy.isNone && outerB op) = true
      · exact .inr (by unfold accQ; rw [if_pos h])
      · exact .inl h
    refine Jn.mk (fun j H' => H5 = H' ∧ j = decide (op = 2 ∨ op = 3)) (fun kk2 hkk2 => orJ (kk := kk2) (hkk2 _ _ ⟨rfl, rfl⟩)) ?_
    rintro _ _ ⟨rfl, rfl⟩
    refine Jn_in (Br_dec (fun h => ?_) fun h23 => ?_)
    · have hq : accQ ks nf x.sy x.rou.locals op arg = decide (0 ≤ arg ∧ arg < x.rou.locals) := by
        have ho : outerB op = false := by rcases h with e | e <;> subst e <;> decide
        unfold accQ; rw [ho, Bool.and_false, if_neg (by simp), if_pos h]
      rw [hq] at fin
      refine Jn_in (Ld_int i1 (Br_dec (fun g => fin (decide_eq_false (by omega))) fun g => Ld_int i1 (Ld_int (n := x.rou.locals) ((hR5.cell 2).trans rfl) (fin ?_))))
      rw [← decide_not]; exact decide_eq_decide.2 (by omega)
    refine Jn.mk (fun j H' => H5 = H' ∧ j = decide (op = 4 ∨ op = 5)) (fun kk2 hkk2 => orJ (kk := kk2) (hkk2 _ _ ⟨rfl, rfl⟩)) ?_
    rintro _ _ ⟨rfl, rfl⟩
    refine Jn_in (Br_dec (fun h => ?_) fun h45 => ?_)
    · have ho : outerB op = true := by rcases h with e | e <;> subst e <;> decide
      have hz3 := hz 3 (by omega)
      have hz2 := hz 2 (by omega)
      refine s_rfields hKx (Ld_sl (s := z.s 3) ((hR5.cell 7).trans rfl) (s_rin (hz3.1.ext hE5') hz3.2 (Ld_sl (s := z.s 2) ((hR5.cell 6).trans rfl) (s_rin (hz2.1.ext hE5') hz2.2 (Jn_in (Ld_bool isS (Br_not (Br.mk (fun hS => ?_) fun hS => finN hS ho))))))))
      obtain ⟨y, hy⟩ : ∃ y, x.sy = some y := Option.isSome_iff_exists.1 hS
      rw [hzs y hy] at *
      have hq : accQ ks nf x.sy x.rou.locals op arg = (decide (0 ≤ arg ∧ arg.tmod 8 < fieldsI ks (IntKind.wrap .i64 (arg.tdiv 8))) && (decide (IntKind.wrap .i64 (arg.tdiv 8) ∈ y.l 3) || (decide (IntKind.wrap .i64 (arg.tdiv 8) ∈ y.l 2) && decide (op = 4)))) := by
        unfold accQ
        rw [if_neg (by rw [notout hS]; simp), if_neg h23, hy]
        rcases h with e | e
        · subst e
          rw [if_pos rfl]
          unfold declB rwL
          simp [Bool.or_comm]
        · subst e
          rw [if_neg (by omega), if_pos rfl]
          unfold declB wrL
          simp
      rw [hq] at fin
      refine Ld_int i1 (Br_dec (fun g => fin (by rw [decide_eq_false (by omega)]; rfl)) fun g1 => Br_dec (fun g => fin (by rw [decide_eq_false (by omega)]; rfl)) fun g2 => ?_)
      rw [decide_eq_true (show 0 ≤ arg ∧ arg.tmod 8 < fieldsI ks (IntKind.wrap .i64 (arg.tdiv 8)) by omega), Bool.true_and] at fin
      refine Br.mk (fun g => fin (by rw [g]; rfl)) fun g3 => ?_
      rw [g3, Bool.false_or] at fin
      refine Br.mk (fun g => Ld_int i0 (fin ?_)) fun g => fin (by rw [g]; rfl)
      rw [g, Bool.true_and, Bool.not_not]
      rw [Bool.eq_iff_iff, beq_iff_eq, decide_eq_true_eq]
    refine Jn_in (Br.mk (fun h => ?_) fun h21 => ?_)
    · have h := beqI h
      have hq : accQ ks nf x.sy x.rou.locals op arg = decide (0 ≤ arg ∧ arg < nf) := by
        subst h
        unfold accQ
        rw [show outerB 21 = false by decide, Bool.and_false]; rfl
      rw [hq] at fin
      refine Jn_in (Ld_int i1 (Br_dec (fun g => fin (decide_eq_false (by omega))) fun g => Ld_int i1 (Ld_sl (s := p.2) ((hp5.cell 1).trans rfl) (fin ?_))))
      rw [hp, ← decide_not]; exact decide_eq_decide.2 (by omega)
    have h21 := bneI h21
    refine Jn_in (Br.mk (fun h => ?_) fun h22 => ?_)
    · have h := beqI h
      have hq : accQ ks nf x.sy x.rou.locals op arg = x.sy.isNone := by
        subst h
        unfold accQ
        rw [show outerB 22 = false by decide, Bool.and_false]; rfl
      rw [hq] at fin
      refine Ld_bool isS (fin ?_)
      cases x.sy <;> rfl
    have h22 := bneI h22
    refine Jn.mk (fun j H' => H5 = H' ∧ j = decide (op = 25 ∨ op = 27 ∨ op = 30 ∨ op = 23)) (fun kk2 hkk2 => ?_) ?_
    · refine Br.mk (fun g => hkk2 _ _ ⟨rfl, (decide_eq_true (.inl (beqI g))).symm⟩) fun g1 => Jn_in (Br.mk (fun g => hkk2 _ _ ⟨rfl, (decide_eq_true (.inr (.inl (beqI g)))).symm⟩) fun g2 => Jn_in (Br.mk (fun g => hkk2 _ _ ⟨rfl, (decide_eq_true (.inr (.inr (.inl (beqI g))))).symm⟩) fun g3 => hkk2 _ _ ⟨rfl, ?_⟩))
      have g1 := bneI g1
      have g2 := bneI g2
      have g3 := bneI g3
      rw [Bool.eq_iff_iff, beq_iff_eq, decide_eq_true_eq]; omega
    rintro _ _ ⟨rfl, rfl⟩
    refine Jn_in (Br_dec (fun h => ?_) fun hD => ?_)
    · have ho : outerB op = true := by rcases h with e | e | e | e <;> subst e <;> decide
      refine Ld_bool isS ?_
      cases hS : x.sy.isSome with
      | false => exact finN hS ho
      | true =>
        refine fin ?_
        unfold accQ
        rw [if_neg (by rw [notout hS]; simp), if_neg (by omega), if_neg (by omega), if_neg (by omega), if_neg (by omega), if_neg (by omega), if_neg (by omega), if_neg (by omega)]; rfl
    refine Jn.mk (fun j H' => H5 = H' ∧ j = decide (op = 26 ∨ op = 28)) (fun kk2 hkk2 => orJ (kk := kk2) (hkk2 _ _ ⟨rfl, rfl⟩)) ?_
    rintro _ _ ⟨rfl, rfl⟩
    refine Jn_in (Br_dec (fun h => ?_) fun h2628 => ?_)
    · have ho : outerB op = true := by rcases h with e | e <;> subst e <;> decide
      refine s_rfields hKx (Jn_in (Ld_bool isS (Br_not (Br.mk (fun hS => ?_) fun hS => finN hS ho))))
      have hq : accQ ks nf x.sy x.rou.locals op arg = decide (0 ≤ arg ∧ arg.tmod 8 = fieldsI ks (IntKind.wrap .i64 (arg.tdiv 8))) := by
        unfold accQ
        rw [if_neg (by rw [notout hS]; simp), if_neg (by omega), if_neg (by omega), if_neg (by omega), if_neg (by omega), if_neg (by omega), if_pos h]; rfl
      rw [hq] at fin
      refine Ld_int i1 (Br_dec (fun g => fin (decide_eq_false (by omega))) fun g => fin ?_)
      rw [Bool.eq_iff_iff, decide_eq_true_eq, Bool.not_eq_true', bne_eq_false_iff_eq]; omega
    refine Jn.mk (fun j H' => H5 = H' ∧ j = decide (op = 29 ∨ op = 35)) (fun kk2 hkk2 => orJ (kk := kk2) (hkk2 _ _ ⟨rfl, rfl⟩)) ?_
    rintro _ _ ⟨rfl, rfl⟩
    refine Jn_in (Br_dec (fun h => ?_) fun h2935 => ?_)
    · have ho : outerB op = true := by rcases h with e | e <;> subst e <;> decide
      refine Jn_in (Ld_bool isS (Br_not (Br.mk (fun hS => ?_) fun hS => finN hS ho)))
      have hq : accQ ks nf x.sy x.rou.locals op arg = decide (fieldsI ks arg ≥ 0) := by
        unfold accQ
        rw [if_neg (by rw [notout hS]; simp), if_neg (by omega), if_neg (by omega), if_neg (by omega), if_neg (by omega), if_neg (by omega), if_neg (by omega), if_pos h]
      rw [hq] at fin
      refine Ld_int i1 (s_rfields hKx (fin ?_))
      rw [← decide_not]; exact decide_eq_decide.2 (by omega)
    refine fin ?_
    have ho : outerB op = false := by
      unfold outerB
      rw [decide_eq_false_iff_not]
      simp only [List.mem_cons, List.not_mem_nil, or_false]
      omega
    unfold accQ
    rw [ho, Bool.and_false, if_neg (by simp), if_neg (by omega), if_neg (by omega), if_neg (by omega), if_neg (by omega), if_neg (by omega), if_neg (by omega), if_neg (by omega)]; rfl
  rintro _ _ ⟨rfl, rfl⟩
  generalize accQ ks nf x.sy x.rou.locals op arg = q at *
  have hgo : ∀ {j : Nat} {kk : Addr → Prop}, j < x.rou.code.length → (∀ a, hcell H5 a = some (.int .i64 (x.rou.code[j]!).1) → kk a) → IxA 2 x.rou.sl (j : Int) kk := fun hj hkk => IxA_rn' insV_len hcx (by omega) rfl hj fun a ha => hkk a (by
    have h0 := hcells_iff.1 ha 0 (by simp)
    rw [Nat.zero_add, add_zero] at h0
    simpa using h0)
  have opAt : ∀ j : Nat, j < x.rou.code.length → opI x.rou.code (j : Int) = (x.rou.code[j]!).1 := fun j hj => by unfold opI; rw [if_pos (by omega), Int.toNat_natCast]
  refine Jn.mk (fun j H' => H5 = H' ∧ j = (decide (op = 26) && q)) (fun kk hkk => Ld_int i0 (Br.mk (fun g => hkk _ _ ⟨rfl, by rw [decide_eq_true (beqI g), Bool.not_not]; rfl⟩) fun g => hkk _ _ ⟨rfl, by rw [decide_eq_false (bneI g)]; rfl⟩)) ?_
  rintro _ _ ⟨rfl, rfl⟩
  refine Jn.mk (fun j H' => H5 = H' ∧ j = !(q && (!decide (op = 26) || rowB x.rou.code n))) (fun kk hkk => Br.mk (fun h => ?_) fun h => hkk _ _ ⟨rfl, ?_⟩) ?_
  · rw [Bool.and_eq_true] at h
    rw [h.1, h.2, Bool.not_true, Bool.false_or, Bool.true_and] at hkk
    refine LoopT.mk (fun (i : Int) H' => H5 = H' ∧ ∃ m : Nat, i = m ∧ m ≤ n ∧ ∀ j, j < m → opI x.rou.code ((n : Int) - ((j + 1 : Nat) : Int)) = 26) (fun i _ => n - i.toNat) ⟨rfl, 0, rfl, Nat.zero_le _, fun j hj => by omega⟩ ?_
    rintro next _ _ ⟨rfl, m, rfl, hm, hall⟩ hnext
    refine Jn.mk (fun j H' => H5 = H' ∧ (j = true → m < n ∧ opI x.rou.code ((n : Int) - ((m + 1 : Nat) : Int)) = 26) ∧ (j = false → opI x.rou.code ((n : Int) - ((m + 1 : Nat) : Int)) ≠ 26)) (fun kk2 hkk2 => Br_dec (fun g => ?_) fun g => hkk2 _ _ ⟨rfl, fun e => (by cases e), fun _ => ?_⟩) ?_
    · have hm2 : m < n := by omega
      have e1 : ((n : Int) - ((m + 1 : Nat) : Int)) = ((n - m - 1 : Nat) : Int) := by omega
      refine Lt.mk (u := ((n - m : Nat) : Int)) (by rw [wrap_i64_id] <;> omega) (Lt.mk (u := ((n - m - 1 : Nat) : Int)) (by rw [wrap_i64_id] <;> omega) (hgo (by omega) fun a2 ha2 => Ld_int ha2 (hkk2 _ _ ⟨rfl, fun e => ⟨hm2, ?_⟩, fun e => ?_⟩)))
      · rw [e1, opAt _ (by omega)]; exact beqI e
      · rw [e1, opAt _ (by omega)]; exact bneI e
    · unfold opI
      rw [if_neg (by omega)]; decide
    rintro j _ ⟨rfl, hj1, hj2⟩
    refine Br.mk (fun g => ?_) fun g => ?_
    · obtain ⟨g1, g2⟩ := hj1 g
      refine Lt.mk (u := ((m + 1 : Nat) : Int)) (by rw [wrap_i64_id] <;> omega) (hnext _ _ ⟨rfl, m + 1, rfl, g1, fun e he => ?_⟩ (by omega))
      rcases Nat.lt_or_ge e m with g | g
      · exact hall e g
      · have : e = m := by omega
        subst this; exact g2
    · have hne := hj2 g
      have hrow : ((List.range 12).any fun j => decide (opI x.rou.code ((n : Int) - ((j + 1 : Nat) : Int)) ≠ 26)) = decide (m < 12) := by
        rw [Bool.eq_iff_iff, decide_eq_true_eq]
        constructor
        · intro g
          obtain ⟨j, hj, hj2⟩ := List.any_eq_true.1 g
          have := List.mem_range.1 hj
          have hj2 := of_decide_eq_true hj2
          exact Classical.byContradiction fun g => hj2 (hall j (by omega))
        · intro g
          exact List.any_eq_true.2 ⟨m, List.mem_range.2 g, decide_eq_true hne⟩
      unfold rowB at hkk
      rw [hrow] at hkk
      have e2 : ((n : Int) + 1) = ((n + 1 : Nat) : Int) := by omega
      refine Jn_in (Lt.mk (u := ((n + 1 : Nat) : Int)) (by rw [wrap_i64_id] <;> omega) (Br_dec (fun g => hkk _ _ ⟨rfl, ?_⟩) fun g => ?_))
      · have : opI x.rou.code ((n : Int) + 1) = 0 := by unfold opI; rw [if_neg (by omega)]
        rw [this]; rfl
      · have hn1 : n + 1 < x.rou.code.length := by omega
        rw [e2, opAt _ hn1] at hkk
        have e12 : (decide ((m : Int) ≥ 12)) = !decide (m < 12) := by rw [← decide_not]; exact decide_eq_decide.2 (by omega)
        refine Lt.mk (u := ((n + 1 : Nat) : Int)) (by rw [wrap_i64_id] <;> omega) (hgo hn1 fun a3 ha3 => Ld_int ha3 (Br.mk (fun g26 => Lt.mk (u := ((n + 1 : Nat) : Int)) (by rw [wrap_i64_id] <;> omega) (hgo hn1 fun a4 ha4 => Ld_int ha4 (Br.mk (fun g27 => hkk _ _ ⟨rfl, ?_⟩) fun g27 => hkk _ _ ⟨rfl, ?_⟩))) fun g26 => hkk _ _ ⟨rfl, ?_⟩))
        · have g26 := bne_iff_ne.1 g26
          have g27 := bne_iff_ne.1 g27
          rw [decide_eq_false (show ¬ ((x.rou.code[n + 1]!).1 = 26 ∨ (x.rou.code[n + 1]!).1 = 27) from fun h => h.elim g26 g27)]; rfl
        · have g27 : (x.rou.code[n + 1]!).1 = 27 := by simpa using g27
          rw [decide_eq_true (show ((x.rou.code[n + 1]!).1 = 26 ∨ (x.rou.code[n + 1]!).1 = 27) from .inr g27), Bool.true_and]; exact e12
        · have g26 : (x.rou.code[n + 1]!).1 = 26 := by simpa using g26
          rw [decide_eq_true (show ((x.rou.code[n + 1]!).1 = 26 ∨ (x.rou.code[n + 1]!).1 = 27) from .inl g26), Bool.true_and]; exact e12
  · cases hq : q with
    | false => rfl
    | true =>
      rw [hq, Bool.and_true] at h
      rw [h]; rfl
  rintro _ _ ⟨rfl, rfl⟩
  refine Br_not (Br.mk (fun h => ?_) fun h => by rw [h] at hkx; exact hkx)
  rw [if_pos h, hhop] at hkx
  have dn : ∀ {b : Bool} {kk : Bool → Heap → Prop}, True := fun {_ _} => trivial
  refine Jn.mk (fun j H' => H5 = H' ∧ j = decide ((op = 19 ∨ op = 20) ∧ 1 ≤ arg ∧ arg < x.rou.code.length ∧ opI x.rou.code (arg - 1) = 26)) (fun kk hkk => ?_) ?_
  · have go : (op = 19 ∨ op = 20) → Ld (.int .i64) ⟨b3, 1, none⟩ H5 fun (x27 : Int) => Br (decide (x27 ≥ 1)) (Ld (.int .i64) ⟨b3, 1, none⟩ H5 fun (x28 : Int) => Br (decide (x28 < (x.rou.sl.len : Int))) (Ld (.int .i64) ⟨b3, 1, none⟩ H5 fun (x29 : Int) => Lt (IntKind.wrap .i64 (x29 - 1)) fun t9 => IxA 2 x.rou.sl t9 fun a5 => Ld (.int .i64) a5 H5 fun (x30 : Int) => kk (x30 == 26) H5) (kk false H5)) (kk false H5) := fun hop => by
      have no : ¬ (1 ≤ arg ∧ arg < x.rou.code.length) → kk false H5 := fun g => hkk _ _ ⟨rfl, (decide_eq_false fun e => g ⟨e.2.1, e.2.2.1⟩).symm⟩
      refine Ld_int i1 (Br_dec (fun g1 => Ld_int i1 (Br_dec (fun g2 => Ld_int i1 ?_) fun g => no (by omega))) fun g => no (by omega))
      have e1 : arg - 1 = (((arg - 1).toNat : Nat) : Int) := by omega
      refine Lt.mk (u := (((arg - 1).toNat : Nat) : Int)) (by rw [wrap_i64_id] <;> omega) (hgo (by omega) fun a5 ha5 => Ld_int ha5 (hkk _ _ ⟨rfl, ?_⟩))
      rw [e1, opAt _ (by omega), Bool.eq_iff_iff, beq_iff_eq, decide_eq_true_eq]
      exact ⟨fun e => ⟨hop, by omega, by omega, e⟩, fun e => e.2.2.2⟩
    refine Ld_int i0 (Br.mk (fun g => go (.inl (beqI g))) fun g1 => Ld_int i0 (Br.mk (fun g => go (.inr (beqI g))) fun g2 => hkk _ _ ⟨rfl, ?_⟩))
    exact (decide_eq_false fun e => e.1.elim (bneI g1) (bneI g2)).symm
  rintro _ _ ⟨rfl, rfl⟩
  refine Br.mk (fun g => ?_) fun g => ?_
  · rw [if_pos g] at hkx; exact hkx
  · rw [if_neg (by rw [g]; simp)] at hkx; exact hkx
end Go.Proofs.YtlkmmplgfjicjaaGreat
/-
  Vectors that are consumed from the front.
-/
namespace Go.Proofs.YtlkmmplgfjicjaaGreat.Hc
set_option linter.unusedVariables false
set_option linter.unusedSimpArgs false

structure VecO (H : Heap) (T : TypeId) (n : Nat) (s : Sl) (vs : List Value) : Prop where
  len : vs.length = s.len * n
  own : (s.a = none ∧ s.cap = 0 ∧ vs = []) ∨ ∃ (b : Nat) (pre sp : List Value), s.a = some ⟨b, pre.length, none⟩ ∧ Row H b T (pre ++ vs ++ sp) ∧ s.cap * n ≤ vs.length + sp.length
  lc : s.len ≤ s.cap
theorem VecO.upd {M : Nat → Prop} {H H' : Heap} (hu : Upd M H H') {T : TypeId} {n : Nat} {s : Sl} {vs : List Value} (h : VecO H T n s vs) (hn : ∀ a, s.a = some a → ¬ M a.block) : VecO H' T n s vs := by
  refine ⟨h.len, ?_, h.lc⟩
  rcases h.own with h1 | ⟨b, pre, sp, h1, h2, h3⟩
  · exact .inl h1
  · exact .inr ⟨b, pre, sp, h1, hu.row h2 (hn _ h1), h3⟩
theorem VecO.ext {H H' : Heap} (hu : Ext H H') {T : TypeId} {n : Nat} {s : Sl} {vs : List Value} (h : VecO H T n s vs) : VecO H' T n s vs := h.upd hu fun _ _ h => h
theorem VecO.ne {H : Heap} {T T' : TypeId} {n : Nat} {s : Sl} {vs ws : List Value} (h : VecO H T n s vs) {a : Addr} (ha : s.a = some a) {b : Nat} (h' : Row H b T' ws) (ht : T ≠ T') : a.block ≠ b := by
  rcases h.own with ⟨g1, _⟩ | ⟨c, pre, sp, g1, g2, _⟩
  · rw [g1] at ha; cases ha
  · rw [g1] at ha; cases ha; exact g2.ne h' ht
theorem VecO.cell {H : Heap} {T : TypeId} {n : Nat} {s : Sl} {vs : List Value} (h : VecO H T n s vs) {j : Nat} (hj : j < vs.length) : ∃ a, s.a = some a ∧ hcell H (a.add j) = vs[j]? := by
  rcases h.own with ⟨_, _, g⟩ | ⟨b, pre, sp, g1, g2, _⟩
  · subst g; simp at hj
  · refine ⟨_, g1, ?_⟩
    rw [mk_add, g2.cell, List.append_assoc, List.getElem?_append_right (by omega), show pre.length + j - pre.length = j by omega, List.getElem?_append_left hj]
/-- The first is taken off. -/
theorem SlA_pop {H : Heap} {T : TypeId} {n : Nat} {s : Sl} {v ws : List Value} {k : Sl → Prop} (h : VecO H T n s (v ++ ws)) (hv : v.length = n) (hn : 0 < n) (hk : ∀ s', VecO H T n s' ws → (∀ a, s'.a = some a → ∃ a0, s.a = some a0 ∧ a0.block = a.block) → s'.len + 1 = s.len → k s') :
    SlA n s 1 (s.len : Nat) (s.cap : Nat) k := by
  have hl := h.len
  have hlc := h.lc
  have hpos : 0 < s.len := by
    rcases Nat.eq_zero_or_pos s.len with e | e
    · rw [e, List.length_append, hv] at hl; simp at hl; omega
    · exact e
  refine ⟨by omega, by omega, by omega, by omega, ?_⟩
  rw [show (Int.toNat 1) = 1 from rfl, Int.toNat_natCast, Int.toNat_natCast]
  obtain ⟨m, hm⟩ : ∃ m, s.len = m + 1 := ⟨s.len - 1, by omega⟩
  have hws : ws.length = m * n := by
    rw [List.length_append, hv, hm, Nat.add_mul] at hl; omega
  refine hk _ ⟨?_, ?_, ?_⟩ (fun a ha => ?_) (by dsimp only; omega)
  · dsimp only; rw [hm, show m + 1 - 1 = m by omega]; exact hws
  · rcases h.own with ⟨_, _, g⟩ | ⟨b, pre, sp, g1, g2, g3⟩
    · have := congrArg List.length g
      rw [List.length_append, hv] at this; simp at this; omega
    · right
      by_cases e : s.cap = 1
      · have hm0 : m = 0 := by omega
        have hw0 : ws = [] := List.eq_nil_of_length_eq_zero (by rw [hws, hm0]; simp)
        subst hw0
        refine ⟨b, pre, v ++ sp, ?_, ?_, ?_⟩
        · dsimp only; rw [if_pos e]; exact g1
        · simpa using g2
        · dsimp only; rw [e]; simp
      · refine ⟨b, pre ++ v, sp, ?_, ?_, ?_⟩
        · dsimp only
          rw [if_neg e, g1]
          simp [hv]
        · simpa using g2
        · dsimp only
          have : (s.cap - 1) * n = s.cap * n - n := by rw [Nat.sub_mul, Nat.one_mul]
          rw [this]
          rw [List.length_append, hv] at g3
          omega
  · dsimp only; omega
  · dsimp only at ha
    split at ha
    · exact ⟨a, ha, rfl⟩
    · cases hs : s.a with
      | none => rw [hs] at ha; cases ha
      | some a0 =>
        rw [hs] at ha
        simp only [Option.map_some, Option.some.injEq] at ha
        subst ha
        exact ⟨a0, rfl, (add_block _ _).symm⟩
/-- append of one element. -/
theorem App_vecO {T : TypeId} {n bytes : Nat} {z : Array Value} {s x : Sl} {H : Heap} {k : Sl → Heap → Prop} {vs ws : List Value} (hz : z.size = n) (hn : 0 < n) (hv : VecO H T n s vs) (hx : rdL H x.a ws) (hxl : ws.length = x.len * n)
    (hone : ∀ w ∈ ws, w.oneCell' = true) (hb : bytes ≠ 0) (hcap : (s.len + x.len + (s.len + x.len) / 4 + 1000) * bytes ≤ 2 ^ 48)
    (hk : ∀ s' H', VecO H' T n s' (vs ++ ws) → s'.len = s.len + x.len → Upd (fun b => ∃ a, s.a = some a ∧ a.block = b) H H' → (s'.a = s.a ∨ s'.a = some (adr H.size)) → k s' H') :
    App T n bytes z s x H k := by
  have hlen := hv.len
  have hrd : rdL H s.a vs := by
    unfold rdL
    rcases hv.own with ⟨h1, _, h3⟩ | ⟨b, pre, sp, h1, h2, h3⟩
    · rw [h1]; exact h3
    · rw [h1]
      dsimp only
      refine hcells_iff.2 fun j hj => ?_
      rw [Nat.zero_add, mk_add, h2.cell, List.append_assoc, List.getElem?_append_right (by omega), show pre.length + j - pre.length = j by omega, List.getElem?_append_left hj]
  refine ⟨ws, hx, fun _ => by omega, fun hfit => ?_, fun hgrow => ?_⟩
  · rcases hv.own with ⟨h1, h2, h3⟩ | ⟨b, pre, sp, h1, h2, h3⟩
    · rw [h1]
      have hx0 : x.len = 0 := by omega
      have hw : ws = [] := List.eq_nil_of_length_eq_zero (by rw [hxl, hx0]; simp)
      subst hw h3
      refine hk _ H ⟨by simp only [List.append_nil, List.length_nil]; simp at hlen; rw [hx0]; simp; omega, .inl ⟨rfl, by simpa using h2, rfl⟩, hfit⟩ rfl (.refl _ _) (.inl h1.symm)
    · rw [h1]
      dsimp only
      rw [mk_add]
      have hm : (s.len + x.len) * n ≤ s.cap * n := Nat.mul_le_mul_right n hfit
      rw [Nat.add_mul] at hm
      refine StL_row h2 (by simp; omega) hone fun H' hU hs hr => ?_
      refine hk _ H' ⟨by simp only [List.length_append, Nat.add_mul]; omega, .inr ⟨b, pre, sp.drop ws.length, rfl, ?_, by simp; omega⟩, hfit⟩ rfl (hU.mono fun b' _ e => ⟨_, h1, e.1.symm⟩) (.inl h1.symm)
      rw [Nat.add_zero, ← hlen] at hr
      have e1 : (pre ++ vs ++ sp).take (pre.length + vs.length) = pre ++ vs := by rw [← List.length_append, List.take_left]
      have e2 : (pre ++ vs ++ sp).drop (pre.length + vs.length + ws.length) = sp.drop ws.length := by
        rw [← List.length_append, ← List.drop_drop, List.drop_left]
      rw [e1, e2] at hr
      simpa using hr
  · refine ⟨hb, ?_, vs, hrd, fun _ => by omega, fun c hc => ?_⟩
    · have := nextcap_le (s.len + x.len) s.cap hgrow
      exact Nat.le_trans (Nat.mul_le_mul_right bytes this) hcap
    · refine hk _ _ ⟨?_, .inr ⟨H.size, [], (zcells z ((c - (s.len + x.len)) * z.size)).toList, rfl, ?_, ?_⟩, hc⟩ rfl (Upd.push _ _ _) (.inr rfl)
      · simp only [List.length_append, Nat.add_mul]; omega
      · unfold Row
        rw [get_push_new]
        congr 2
        apply Array.ext'; simp
      · simp only [List.length_append, Array.length_toList, zcells_size, hz]
        rw [hlen, hxl, ← Nat.add_mul, ← Nat.add_mul]
        exact Nat.mul_le_mul_right n (by omega)
/-- Memory for so many elements of n cells. -/
theorem Mks_all {T : TypeId} {bytes n : Nat} {z : Array Value} {v : Value} {m : Nat} {H : Heap} {k : Sl → Heap → Prop} (hz : z = Array.replicate n v) (hn : 0 < n) (h1 : m < 9223372036854775808) (hb : (bytes : Int) * m ≤ 2 ^ 48)
    (hk : ∀ b H', b = H.size → Ext H H' → H'.size = H.size + 1 → Row H' b T (List.replicate (m * n) v) → k ⟨some (adr b), m, m⟩ H') : Mks T n bytes z (m : Nat) (m : Nat) H k := by
  unfold Mks
  rw [wrap_i64_id (by omega) (by omega)]
  refine ⟨by omega, by omega, hb, ?_⟩
  rw [Int.toNat_natCast]
  have e : zcells z (m * n) = ⟨List.replicate (m * n) v⟩ := by
    apply Array.ext'
    unfold zcells
    simp only [Array.toList_map, Array.toList_range]
    apply List.ext_getElem
    · simp
    · intro i g1 g2
      simp only [List.getElem_map, List.getElem_range, List.getElem_replicate]
      subst hz
      have hlt : i % (Array.replicate n v).size < (Array.replicate n v).size := Nat.mod_lt _ (by simpa using hn)
      rw [getElem!_pos (Array.replicate n v) (i % (Array.replicate n v).size) hlt]; simp
  rw [e]
  exact hk _ _ rfl (Upd.push _ _ _) (by simp) (get_push_new _ _)
end Go.Proofs.YtlkmmplgfjicjaaGreat.Hc
/-
  The document's table of what is reached.
-/
namespace Go.Proofs.YtlkmmplgfjicjaaGreat
set_option linter.unusedVariables false
set_option linter.unusedSimpArgs false
open Go.Proofs.YtlkmmplgfjicjaaGreat.Hc Go.Proofs.YtlkmmplgfjicjaaGreat.Hc.Vf
set_option maxRecDepth 100000
variable {H : Heap}

/-- The document's next ones. -/
def nextsR (c : List Ins) (at' : Nat) : List Int :=
  let i := c[at']!
  if i.1 = 22 ∨ i.1 = 23 then [] else if i.1 = 19 then (if 0 ≤ i.2 ∧ i.2 < c.length then [i.2] else []) else if i.1 = 20 then (if 0 ≤ i.2 ∧ i.2 < c.length then [i.2, (at' : Int) + 1] else [(at' : Int) + 1]) else [(at' : Int) + 1]
theorem nextsR_mem {c : List Ins} {i j : Nat} (hj : j < c.length) : (j : Int) ∈ nextsR c i ↔ (j : Int) ∈ nexts c i := by
  unfold nextsR nexts
  dsimp only
  repeat' split
  all_goals first
    | exact Iff.rfl
    | (simp only [List.mem_cons, List.not_mem_nil, or_false, List.mem_singleton, false_iff]; omega)
    | (simp only [List.mem_cons, List.not_mem_nil, or_false, List.mem_singleton]; omega)
theorem nextsR_len (c : List Ins) (i : Nat) : (nextsR c i).length ≤ 2 := by
  unfold nextsR
  dsimp only
  repeat' split
  all_goals simp
theorem nextsR_nn (c : List Ins) (i : Nat) : ∀ x ∈ nextsR c i, 0 ≤ x := by
  intro x hx
  unfold nextsR at hx
  dsimp only at hx
  repeat' split at hx
  all_goals simp only [List.mem_cons, List.not_mem_nil, or_false, List.mem_singleton] at hx
  all_goals omega
theorem nextsR_end {c : List Ins} {i : Nat} (hi : i < c.length) (h : ¬ jumpBad c i) : (∃ x ∈ nextsR c i, (c.length : Int) ≤ x) ↔ endBad c i := by
  unfold jumpBad at h
  unfold endBad nextsR nexts
  dsimp only
  generalize c[i]! = x at *
  by_cases h1 : x.1 = 22 ∨ x.1 = 23
  · rw [if_pos h1, if_pos h1]; simp
  · rw [if_neg h1, if_neg h1]
    by_cases h2 : x.1 = 19
    · have h3 : 0 ≤ x.2 ∧ x.2 < c.length := Classical.byContradiction fun g => h ⟨.inl h2, g⟩
      rw [if_pos h2, if_pos h2, if_pos h3]
      simp only [List.mem_singleton, exists_eq_left]
      omega
    · rw [if_neg h2, if_neg h2]
      by_cases h4 : x.1 = 20
      · have h3 : 0 ≤ x.2 ∧ x.2 < c.length := Classical.byContradiction fun g => h ⟨.inr h4, g⟩
        rw [if_pos h4, if_pos h4, if_pos h3]
        simp only [List.mem_cons, List.not_mem_nil, or_false, exists_eq_or_imp, exists_eq_left]
        omega
      · rw [if_neg h4, if_neg h4]
        simp only [List.mem_singleton, exists_eq_left]
        omega
theorem s_rnext {csl : Sl} {c : List Ins} {i m : Nat} (hm : csl.len = m) (hr : RN insV 2 H csl c) (hi : i < c.length) (hl : c.length ≤ 100000) {k : Sl → Heap → Prop} (hk : ∀ s H', Ext H H' → Vec H' T_int s (ints (nextsR c i)) → k s H') :
    CallT Pg f_hindcastref15_next [.slice csl.a m csl.cap, .int .i64 (i : Nat)] (.one (.c .sl)) H k := by
  subst hm
  refine c_hindcastref15_next _ _ ?_
  unfold v_hindcastref15_next
  have at1 : ∀ {Hx : Heap}, Ext H Hx → ∀ {K : Int → Prop}, K (c[i]!).2 → IxA 2 csl (i : Nat) fun a => Ld (.int .i64) (a.add 1) Hx K := by
    intro Hx hE K hK
    exact IxA_rn' insV_len (hr.ext hE) (by omega) (j := i) rfl hi fun a ha => Ld_int ha.2.1 hK
  have at0 : ∀ {Hx : Heap}, Ext H Hx → ∀ {K : Int → Prop}, K (c[i]!).1 → IxA 2 csl (i : Nat) fun a => Ld (.int .i64) a Hx K := by
    intro Hx hE K hK
    exact IxA_rn' insV_len (hr.ext hE) (by omega) (j := i) rfl hi fun a ha => Ld_int ha.1 hK
  have hn : nextsR c i = (if (c[i]!).1 = 22 ∨ (c[i]!).1 = 23 then [] else if (c[i]!).1 = 19 then (if 0 ≤ (c[i]!).2 ∧ (c[i]!).2 < c.length then [(c[i]!).2] else []) else if (c[i]!).1 = 20 then (if 0 ≤ (c[i]!).2 ∧ (c[i]!).2 < c.length then [(c[i]!).2, (i : Int) + 1] else [(i : Int) + 1]) else [(i : Int) + 1]) := rfl
  generalize c[i]! = x at *
  refine at1 (.refl _ _) ?_
  refine Jn.mk (fun j H' => H = H' ∧ j = decide (0 ≤ x.2 ∧ x.2 < c.length)) (fun kk hkk => ?_) ?_
  · refine at1 (.refl _ _) (Br_dec (fun h => at1 (.refl _ _) (hkk _ _ ⟨rfl, ?_⟩)) fun h => hkk _ _ ⟨rfl, (decide_eq_false (by omega)).symm⟩)
    rw [hr.len]; exact decide_eq_decide.2 (by omega)
  rintro j _ ⟨rfl, rfl⟩
  refine at0 (.refl _ _) ?_
  refine Jn.mk (fun j H' => H = H' ∧ j = decide (x.1 = 22 ∨ x.1 = 23)) (fun kk hkk => ?_) ?_
  · refine Br.mk (fun h => hkk _ _ ⟨rfl, (decide_eq_true (.inl (beqI h))).symm⟩) fun h => hkk _ _ ⟨rfl, ?_⟩
    have h := bneI h
    by_cases e : x.1 = 23
    · rw [e]; rfl
    · rw [decide_eq_false (by omega)]; exact beq_eq_false_iff_ne.2 e
  rintro j _ ⟨rfl, rfl⟩
  have one : ∀ y, nextsR c i = [y] → Nw #[.int .i64 y] T_int H fun b1 H3 => k ⟨some (adr b1), 1, 1⟩ H3 := fun y e => Nw_row (vs := [.int .i64 y]) fun b H3 _ hE _ hrw => hk _ _ hE (by rw [e]; exact ⟨rfl, .inr ⟨b, [], rfl, by simpa using hrw, by simp⟩, Nat.le_refl _⟩)
  refine Br_dec (fun h => hk _ _ (.refl _ _) ?_) fun h => Br.mk (fun h19 => ?_) fun h19 => Br.mk (fun h20 => ?_) fun h20 => ?_
  · rw [hn, if_pos h]; exact Vec.nil _ _
  · have h19 := beqI h19
    refine Br_dec (fun ht => one _ (by rw [hn, if_neg h, if_pos h19, if_pos ht])) fun ht => hk _ _ (.refl _ _) ?_
    rw [hn, if_neg h, if_pos h19, if_neg ht]; exact Vec.nil _ _
  · have h19 := bneI h19
    have h20 := beqI h20
    refine Br_dec (fun ht => Lt.mk (u := (i : Int) + 1) (by rw [wrap_i64_id] <;> omega) (Nw_row (vs := [.int .i64 x.2, .int .i64 ((i : Int) + 1)]) fun b H3 _ hE _ hrw => hk _ _ hE ?_)) fun ht => Lt.mk (u := (i : Int) + 1) (by rw [wrap_i64_id] <;> omega) (one _ (by rw [hn, if_neg h, if_neg h19, if_pos h20, if_neg ht]))
    rw [hn, if_neg h, if_neg h19, if_pos h20, if_pos ht]
    exact ⟨rfl, .inr ⟨b, [], rfl, by simpa using hrw, by simp⟩, Nat.le_refl _⟩
  · have h19 := bneI h19
    have h20 := bneI h20
    exact Lt.mk (u := (i : Int) + 1) (by rw [wrap_i64_id] <;> omega) (one _ (by rw [hn, if_neg h, if_neg h19, if_neg h20]))
/-! ### the table -/
def cf (B : List Bool) : Nat := B.count false
theorem cf_set {B : List Bool} {i : Nat} (hi : i < B.length) (h : B[i] = false) : cf (B.set i true) + 1 = cf B := by
  unfold cf
  rw [List.count_set hi]
  have hpos : 0 < B.count false := List.count_pos_iff.2 (h ▸ List.getElem_mem hi)
  rw [h]
  simp
  omega
/-- Is a depth marked? -/
def mk' (B : List Bool) (i d : Nat) : Prop := d ≤ 64 ∧ B[i * 65 + d]? = some true
theorem mk_set {B : List Bool} {i d j e : Nat} (hi : i * 65 + d < B.length) (hd : d ≤ 64) : mk' (B.set (i * 65 + d) true) j e ↔ mk' B j e ∨ (j = i ∧ e = d) := by
  unfold mk'
  rw [List.getElem?_set]
  constructor
  · rintro ⟨h1, h2⟩
    split at h2
    · rename_i h
      right; omega
    · exact .inl ⟨h1, h2⟩
  · rintro (⟨h1, h2⟩ | ⟨rfl, rfl⟩)
    · refine ⟨h1, ?_⟩
      split
      · first | rfl | (rw [if_pos hi])
      · exact h2
    · exact ⟨hd, by rw [if_pos rfl, if_pos hi]⟩
abbrev boolsV (B : List Bool) : List Value := B.map Value.bool
theorem tab_adr {bt m j e : Nat} {k : Addr → Prop} (hj : j < m) (he : e ≤ 64) (hk : k ⟨bt, j * 65 + e, none⟩) : IxA 65 ⟨some (adr bt), m, m⟩ (j : Nat) fun a => IxR 1 65 a (e : Nat) k := by
  refine IxA_adr (by omega) (by omega) ⟨by omega, by omega, ?_⟩
  rw [Int.toNat_natCast, Int.toNat_natCast, Nat.mul_one, mk_add]
  exact hk
theorem s_rline {n0 : Nat} {c : List Ins} {bt i e : Nat} {rest : List (Nat × Nat)} {B : List Bool} {l1 r2 l2 : Sl} {H8 : Heap} {k : Sl → Heap → Prop} (hl1 : l1 = ⟨some (adr bt), c.length, c.length⟩) (hcl : n0 = c.length) (hn2 : c.length ≤ 2000) (hbtH : H.size ≤ bt) (hib : i < c.length) (hbl : e ≤ 64)
    (hrest : rest.length + cf B ≤ 65 * c.length) (hTm : ∀ x ∈ rest, mk' B x.1 x.2) (hnd : rest.Nodup) (hv2 : VecO H8 T_2_int 2 l2 (rest.flatMap stV)) (hb2' : ∀ a, l2.a = some a → H.size ≤ a.block) (hrB : Row H8 bt T_65_bool (boolsV B)) (hBl : B.length = c.length * 65) (hE8' : Ext H H8) (hr2 : Vec H8 T_int r2 (ints (nextsR c i)))
    (hk : ∀ (s2 : Sl) (H9 : Heap) (T' : List (Nat × Nat)) (B' : List Bool), VecO H9 T_2_int 2 s2 (T'.flatMap stV) → (∀ a, s2.a = some a → H.size ≤ a.block) → Row H9 bt T_65_bool (boolsV B') → B'.length = c.length * 65 → Ext H H9 → T'.Nodup → (∀ j f, mk' B' j f ↔ mk' B j f ∨ (f = e ∧ j < c.length ∧ (j : Int) ∈ nextsR c i)) →
      (∀ x, x ∈ T' ↔ x ∈ rest ∨ (mk' B' x.1 x.2 ∧ ¬ mk' B x.1 x.2)) → 2 * cf B' + T'.length ≤ 2 * cf B + rest.length → T'.length + cf B' ≤ rest.length + cf B → k s2 H9) :
    LoopT (σ := Sl × Int) (fun next2 s2 H9 =>
              Br (decide (s2.2 < (r2.len : Int))) (
                Jn (σ := Sl) (fun kk3 =>
                  Jn (σ := Bool) (fun kk4 =>
                    IxA 1 r2 s2.2 fun a8 =>
                    Ld (.int .i64) a8 H9 fun (x3 : Int) =>
                    Br (decide (x3 < (n0 : Nat))) (
                      IxA 1 r2 s2.2 fun a9 =>
                      Ld (.int .i64) a9 H9 fun (x4 : Int) =>
                      IxA 65 l1 x4 fun a10 =>
                      IxR 1 65 a10 (e : Nat) fun a11 =>
                      Ld .bool a11 H9 fun (x5 : Bool) =>
                      kk4 (!x5) H9) (
                      kk4 false H9)) fun j4 H11 =>
                  Jn (σ := Sl) (fun kk5 =>
                    Br j4 (
                      IxA 1 r2 s2.2 fun a12 =>
                      Ld (.int .i64) a12 H11 fun (x6 : Int) =>
                      IxA 65 l1 x6 fun a13 =>
                      IxR 1 65 a13 (e : Nat) fun a14 =>
                      St a14 (.bool true) H11 fun H13 =>
                      IxA 1 r2 s2.2 fun a15 =>
                      Ld (.int .i64) a15 H13 fun (x7 : Int) =>
                      Nw #[.int .i64 x7, .int .i64 (e : Nat)] T_2_int H13 fun b2 H14 =>
                      App T_2_int 2 16 #[.int .i64 0, .int .i64 0] s2.1 ⟨some (adr b2), 1, 1⟩ H14 fun l3 H15 =>
                      kk5 l3 H15) (
                      kk5 s2.1 H11)) fun j5 H12 =>
                  kk3 j5 H12) fun j3 H10 =>
                Lt (IntKind.wrap .i64 (s2.2 + 1)) fun t3 =>
                next2 (j3, t3) H10) (
                k s2.1 H9)) (l2, 0) H8 := by
  subst hl1 hcl
  have hxl := nextsR_len c i
  have hr2l := hr2.len
  rw [List.length_map] at hr2l
  refine LoopT.mk (fun (st : Sl × Int) H9 => ∃ (q : Nat) (T' : List (Nat × Nat)) (B' : List Bool), st.2 = q ∧ q ≤ (nextsR c i).length ∧ VecO H9 T_2_int 2 st.1 (T'.flatMap stV) ∧ (∀ a, st.1.a = some a → H.size ≤ a.block) ∧ Row H9 bt T_65_bool (boolsV B') ∧ B'.length = c.length * 65 ∧ Ext H H9 ∧
      T'.Nodup ∧ (∀ j f, mk' B' j f ↔ mk' B j f ∨ (f = e ∧ j < c.length ∧ (j : Int) ∈ (nextsR c i).take q)) ∧ (∀ x, x ∈ T' ↔ x ∈ rest ∨ (mk' B' x.1 x.2 ∧ ¬ mk' B x.1 x.2)) ∧ 2 * cf B' + T'.length ≤ 2 * cf B + rest.length ∧ T'.length + cf B' ≤ rest.length + cf B ∧ Vec H9 T_int r2 (ints (nextsR c i)))
    (fun st _ => (nextsR c i).length - st.2.toNat)
    ⟨0, rest, B, rfl, Nat.zero_le _, hv2, hb2', hrB, hBl, hE8', hnd, fun j f => by simp, fun x => ⟨fun h => .inl h, fun h => h.elim id fun h => absurd h.1 h.2⟩, Nat.le_refl _, Nat.le_refl _, hr2⟩ ?_
  rintro next2 ⟨s2, _⟩ H9 ⟨q, T', B', rfl, hq, hv9, hsb9, hr9, hBl9, hE9, hnd9, hM9, hT9, hm9, hm9', hrr9⟩ hnext2
  dsimp only at hv9 hsb9 ⊢
  have hv9l := hv9.len
  rw [flat_len stV_len] at hv9l
  refine Br_dec (fun hlt => Jn_in ?_) fun hge => ?_
  · have hq3 : q < (nextsR c i).length := by omega
    have hq4 : q < (nextsR c i).length := hq3
    obtain ⟨y, hy⟩ : ∃ y : Nat, (nextsR c i)[q] = y := ⟨((nextsR c i)[q]).toNat, by have := nextsR_nn c i _ (List.getElem_mem hq3); omega⟩
    have rdn : ∀ {Hx : Heap} {K : Int → Prop}, Vec Hx T_int r2 (ints (nextsR c i)) → K (y : Nat) → IxA 1 r2 (q : Nat) fun a => Ld (.int .i64) a Hx K := fun hv hK => IxA_rl hv.rl rfl hq3 fun a ha => Ld_int (n := (y : Nat)) (by rw [ha, hy]) hK
    have htk : (nextsR c i).take (q + 1) = (nextsR c i).take q ++ [(y : Int)] := by rw [List.take_add_one, List.getElem?_eq_getElem hq3, hy]; rfl
    have hlen9 : y < c.length → y * 65 + e < B'.length := fun h => by rw [hBl9]; omega
    refine Jn.mk (fun j H' => H9 = H' ∧ j = decide (y < c.length ∧ B'[y * 65 + e]? = some false)) (fun kk hkk => ?_) ?_
    · refine rdn hrr9 (Br_dec (fun h => rdn hrr9 (tab_adr (by omega) hbl ?_)) fun h => hkk _ _ ⟨rfl, (decide_eq_false (by omega)).symm⟩)
      have hlt2 := hlen9 (by omega)
      refine Ld_bool (n := B'[y * 65 + e]) ?_ (hkk _ _ ⟨rfl, ?_⟩)
      · rw [hr9.cell, List.getElem?_map, List.getElem?_eq_getElem hlt2]; rfl
      · rw [List.getElem?_eq_getElem hlt2]
        cases B'[y * 65 + e] <;> simp <;> omega
    rintro j _ ⟨rfl, rfl⟩
    have nx : ∀ (s3 : Sl) (H12 : Heap) (T3 : List (Nat × Nat)) (B3 : List Bool), VecO H12 T_2_int 2 s3 (T3.flatMap stV) → (∀ a, s3.a = some a → H.size ≤ a.block) → Row H12 bt T_65_bool (boolsV B3) → B3.length = c.length * 65 → Ext H H12 → T3.Nodup →
        (∀ j f, mk' B3 j f ↔ mk' B j f ∨ (f = e ∧ j < c.length ∧ (j : Int) ∈ (nextsR c i).take (q + 1))) → (∀ x, x ∈ T3 ↔ x ∈ rest ∨ (mk' B3 x.1 x.2 ∧ ¬ mk' B x.1 x.2)) → 2 * cf B3 + T3.length ≤ 2 * cf B + rest.length → T3.length + cf B3 ≤ rest.length + cf B → Vec H12 T_int r2 (ints (nextsR c i)) →
        Lt (IntKind.wrap .i64 ((q : Int) + 1)) fun t3 => next2 (s3, t3) H12 := fun s3 H12 T3 B3 g1 g2 g3 g4 g5 g6 g7 g8 g9 g10 g11 =>
      Lt.mk (u := ((q + 1 : Nat) : Int)) (by rw [wrap_i64_id] <;> omega) (hnext2 _ _ ⟨q + 1, T3, B3, rfl, hq3, g1, g2, g3, g4, g5, g6, g7, g8, g9, g10, g11⟩ (by dsimp only; omega))
    refine Jn_in (Br_dec (fun hnew => ?_) fun hold => ?_)
    · obtain ⟨hyl, hyf⟩ := hnew
      have hlt2 := hlen9 hyl
      have hyf2 : B'[y * 65 + e] = false := by rw [List.getElem?_eq_getElem hlt2] at hyf; exact Option.some.inj hyf
      refine rdn hrr9 (tab_adr hyl hbl (St_row hr9 (by simpa using hlt2) fun H13 hU13 hz13 hr13 => ?_))
      have hset : (boolsV B').set (y * 65 + e) (.bool true) = boolsV (B'.set (y * 65 + e) true) := by simp [List.map_set]
      rw [hset] at hr13
      have hrr13 : Vec H13 T_int r2 (ints (nextsR c i)) := hrr9.upd hU13 fun b hb => hrr9.ne hb hr9 (by decide)
      have hv13 : VecO H13 T_2_int 2 s2 (T'.flatMap stV) := hv9.upd hU13 fun a ha e2 => hv9.ne ha hr9 (by decide) e2
      have hbtH : H.size ≤ bt := by omega
      have hE13 : Ext H H13 := extUpd hE9 hbtH hU13
      refine rdn hrr13 (Nw_row (vs := stV (y, e)) fun b2 H14 hb2' hE14 hz14 hr14 => ?_)
      have hcfs := cf_set hlt2 hyf2
      have hcfb : cf B' ≤ B'.length := List.count_le_length
      have hcfB : cf B ≤ B.length := List.count_le_length
      have hTl9 : T'.length ≤ 200000 := by omega
      refine App_vecO (n := 2) rfl (by omega) (hv13.ext hE14) (ws := stV (y, e)) hr14.rd_all rfl (by simp [Value.oneCell']) (by omega) (by simp only; omega) fun l3 H15 hv15 hl15 hU15 ha15 => ?_
      have hv14 := hv13.ext hE14
      have hMs : ∀ j f, mk' (B'.set (y * 65 + e) true) j f ↔ mk' B' j f ∨ (j = y ∧ f = e) := fun j f => mk_set hlt2 hbl
      have hny : ¬ mk' B' y e := fun h => by have h2 := h.2; rw [hyf] at h2; cases h2
      refine nx l3 H15 (T' ++ [(y, e)]) (B'.set (y * 65 + e) true) ?_ (fun a ha => ?_) (hU15.row (hE14.row hr13 fun h => h) fun ⟨a, h1, h2⟩ => ?_) (by rw [List.length_set]; exact hBl9) ((hE13.trans hE14 fun _ _ h => h).trans hU15 fun b hb ⟨a, h1, h2⟩ => ?_) ?_ (fun j f => ?_) (fun x => ?_) ?_ ?_ ?_
      · rw [List.flatMap_append]; simpa using hv15
      · rcases ha15 with e2 | e2
        · rw [e2] at ha; exact hsb9 a ha
        · rw [e2] at ha; cases ha
          have := hE13.size; show H.size ≤ H14.size; have := hE14.size; omega
      · exact hv14.ne h1 (hE14.row hr13 fun h => h) (by decide) h2
      · have := hsb9 a h1; omega
      · rw [List.nodup_append]
        refine ⟨hnd9, by simp, fun x hx z hz => ?_⟩
        rw [List.mem_singleton] at hz
        subst hz
        rintro rfl
        rcases (hT9 (y, e)).1 hx with h | h
        · exact hny ((hM9 y e).2 (.inl (hTm _ h)))
        · exact hny h.1
      · rw [hMs, hM9, htk]
        simp only [List.mem_append, List.mem_singleton]
        constructor
        · rintro ((h | ⟨h1, h2, h3⟩) | ⟨rfl, rfl⟩)
          · exact .inl h
          · exact .inr ⟨h1, h2, .inl h3⟩
          · exact .inr ⟨rfl, hyl, .inr rfl⟩
        · rintro (h | ⟨h1, h2, h3 | h3⟩)
          · exact .inl (.inl h)
          · exact .inl (.inr ⟨h1, h2, h3⟩)
          · exact .inr ⟨by omega, h1⟩
      · rw [List.mem_append, List.mem_singleton, hT9, hMs]
        constructor
        · rintro ((h | ⟨h1, h2⟩) | rfl)
          · exact .inl h
          · exact .inr ⟨.inl h1, h2⟩
          · exact .inr ⟨.inr ⟨rfl, rfl⟩, fun h => hny ((hM9 y e).2 (.inl h))⟩
        · rintro (h | ⟨h1 | ⟨h1, h2⟩, h3⟩)
          · exact .inl (.inl h)
          · exact .inl (.inr ⟨h1, h3⟩)
          · exact .inr (by obtain ⟨x1, x2⟩ := x; dsimp only at h1 h2; rw [h1, h2])
      · rw [List.length_append, List.length_singleton]; omega
      · rw [List.length_append, List.length_singleton]; omega
      · refine (hrr13.upd hE14 fun _ _ h => h).upd hU15 fun b hb ⟨a, h1, h2⟩ => ?_
        rcases hrr13.own with ⟨g1, _⟩ | ⟨c', sp, g1, g2, _⟩
        · rw [g1] at hb; cases hb
        · rw [g1] at hb; cases hb
          exact hv14.ne h1 (hE14.row g2 fun h => h) (by decide) h2
    · refine nx s2 H9 T' B' hv9 hsb9 hr9 hBl9 hE9 hnd9 (fun j f => ?_) hT9 hm9 hm9' hrr9
      rw [hM9, htk]
      simp only [List.mem_append, List.mem_singleton]
      constructor
      · rintro (h | ⟨h1, h2, h3⟩)
        · exact .inl h
        · exact .inr ⟨h1, h2, .inl h3⟩
      · rintro (h | ⟨h1, h2, h3 | h3⟩)
        · exact .inl h
        · exact .inr ⟨h1, h2, h3⟩
        · have hjy : j = y := by omega
          subst hjy
          subst h1
          have hlt2 := hlen9 h2
          have hne : B'[j * 65 + f]? ≠ some false := fun h => hold ⟨h2, h⟩
          rw [List.getElem?_eq_getElem hlt2] at hne
          have ht : B'[j * 65 + f] = true := by
            cases hb : B'[j * 65 + f]
            · rw [hb] at hne; exact absurd rfl hne
            · rfl
          exact (hM9 j f).1 ⟨hbl, by rw [List.getElem?_eq_getElem hlt2, ht]⟩
  · have hqe : q = (nextsR c i).length := by omega
    subst hqe
    rw [List.take_length] at hM9
    exact hk s2 H9 T' B' hv9 hsb9 hr9 hBl9 hE9 hnd9 hM9 hT9 hm9 hm9'
theorem s_reached {csl fsl : Sl} {c : List Ins} {fs : List Rou} (hr : RN insV 2 H csl c) (hf : RN rouV 4 H fsl fs) (hI : ∀ x ∈ parms fs, I64 x) (hn : 0 < c.length) (hn2 : c.length ≤ 2000) {k : Sl → Heap → Prop}
    (hk : ∀ bt B H', Ext H H' → H.size ≤ bt → Row H' bt T_65_bool (boolsV B) → B.length = c.length * 65 → (∀ i d, mk' B i d ↔ Rch c (parms fs) i d) → k ⟨some (adr bt), c.length, c.length⟩ H') :
    CallT Pg f_hindcastref15_reached [.slice csl.a csl.len csl.cap, .slice fsl.a fsl.len fsl.cap] (.one (.c .sl)) H k := by
  refine c_hindcastref15_reached _ _ ?_
  unfold v_hindcastref15_reached
  have hcl := hr.len
  rw [hcl]
  refine Mks_all (v := .bool false) (n := 65) rfl (by omega) (by omega) (by omega) fun bt H1 hbt hE1 hz1 hrt => ?_
  refine tab_adr (j := 0) (e := 0) hn (by omega) ?_
  have hB0 : List.replicate (c.length * 65) (Value.bool false) = boolsV (List.replicate (c.length * 65) false) := by simp
  rw [hB0] at hrt
  refine St_row hrt (by simp; omega) fun H2 hU2 hz2 hr2 => ?_
  have hset0 : (boolsV (List.replicate (c.length * 65) false)).set (0 * 65 + 0) (.bool true) = boolsV ((List.replicate (c.length * 65) false).set (0 * 65 + 0) true) := by simp [List.map_set]
  rw [hset0] at hr2
  generalize hB : (List.replicate (c.length * 65) false).set (0 * 65 + 0) true = B at hr2
  have hBl : B.length = c.length * 65 := by rw [← hB]; simp
  have hBc : cf B + 1 = c.length * 65 := by
    rw [← hB, cf_set (by simp; omega) (by simp)]
    unfold cf; simp
  have hBm : ∀ i d, mk' B i d ↔ i = 0 ∧ d = 0 := fun i d => by
    rw [← hB, mk_set (by simp; omega) (by omega)]
    constructor
    · rintro (⟨_, h⟩ | h)
      · rw [List.getElem?_replicate] at h; split at h <;> cases h
      · exact h
    · exact .inr
  have hE2 : Ext H H2 := extUpd hE1 (by omega) hU2
  refine Nw_row (vs := stV (0, 0)) fun b1 H3 hb1 hE3 hz3 hr1 => ?_
  have z1 := hE1.size
  refine LoopT.ghost (fun m (s : Sl) H4 => ∃ (T : List (Nat × Nat)) (B : List Bool), m = 2 * cf B + T.length ∧ VecO H4 T_2_int 2 s (T.flatMap stV) ∧ (∀ a, s.a = some a → H.size ≤ a.block) ∧ Row H4 bt T_65_bool (boolsV B) ∧ B.length = c.length * 65 ∧ Ext H H4 ∧ T.Nodup ∧
      (∀ x ∈ T, mk' B x.1 x.2) ∧ T.length + cf B ≤ 65 * c.length ∧ Inv c (parms fs) (fun i d => mk' B i d ∧ (i, d) ∉ T) (fun i d => (i, d) ∈ T)) (2 * cf B + 1)
    ⟨[(0, 0)], B, rfl, ⟨rfl, .inr ⟨b1, [], [], rfl, by simpa using hr1, by simp⟩, Nat.le_refl _⟩, (fun a ha => by cases ha; show H.size ≤ b1; omega), hE3.row hr2 fun h => h, hBl, hE2.trans hE3 fun _ _ h => h, by simp, (fun x hx => by rw [List.mem_singleton] at hx; subst hx; exact (hBm 0 0).2 ⟨rfl, rfl⟩), by rw [List.length_singleton]; omega, ⟨fun i d h => ?_, .inr (by simp), fun i d j e hv _ => ?_⟩⟩ ?_
  · rcases h with ⟨h, _⟩ | h
    · obtain ⟨rfl, rfl⟩ := (hBm i d).1 h; exact .zero
    · simp only [List.mem_singleton, Prod.mk.injEq] at h
      obtain ⟨rfl, rfl⟩ := h; exact .zero
  · obtain ⟨rfl, rfl⟩ := (hBm i d).1 hv.1
    exact absurd (List.mem_singleton.2 rfl) hv.2
  clear hset0 hr2 hBm hBl hBc hB
  clear B
  rintro next m s H4 ⟨T, B, rfl, hvT, hsb, hrB, hBl, hE4, hnd, hTm, hTl, hInv⟩ hnext
  have hTlen := hvT.len
  rw [flat_len stV_len] at hTlen
  have hsl : s.len = T.length := by omega
  refine Br_dec (fun hgo => Jn_in ?_) fun hend => ?_
  · match T, hsl, hgo, hTlen, hvT, hnd, hTm, hTl, hInv, hnext with
    | [], hsl, hgo, _, _, _, _, _, _, _ => rw [hsl] at hgo; simp at hgo
    | (i, d) :: rest, hsl, hgo, hTlen, hvT, hnd, hTm, hTl, hInv, hnext =>
    have hxR := hInv.all i d (.inr (List.mem_cons_self ..))
    obtain ⟨hib, hdb⟩ := hxR.bd hn
    have hx0 : ∃ a, s.a = some a ∧ hcell H4 (a.add 0) = some (.int .i64 (i : Nat)) := by
      obtain ⟨a, h1, h2⟩ := hvT.cell (j := 0) (by simp)
      exact ⟨a, h1, h2⟩
    have hx1 : ∃ a, s.a = some a ∧ hcell H4 (a.add 1) = some (.int .i64 (d : Nat)) := by
      obtain ⟨a, h1, h2⟩ := hvT.cell (j := 1) (by simp)
      exact ⟨a, h1, h2⟩
    obtain ⟨a0, ha0, hc0⟩ := hx0
    obtain ⟨a0', ha0', hc1⟩ := hx1
    have ea : a0' = a0 := by rw [ha0] at ha0'; cases ha0'; rfl
    subst ea
    simp only [List.length_cons] at hsl hTl
    refine IxA.mk ha0 (by omega) (by omega) ⟨by omega, by omega, Ld_int (n := (i : Nat)) ?_ (IxA.mk ha0 (by omega) (by omega) ⟨by omega, by omega, Ld_int (n := (d : Nat)) ?_ ?_⟩)⟩
    · show hcell H4 ((a0'.add 0).add 0) = _; rw [addAdd]; exact hc0
    · show hcell H4 ((a0'.add 0).add 1) = _; rw [addAdd, Nat.zero_add]; exact hc1
    rw [List.flatMap_cons] at hvT
    refine SlA_pop (v := stV (i, d)) hvT rfl (by omega) fun l2 hv2 hb2 hl2 => ?_
    have hb2' : ∀ a, l2.a = some a → H.size ≤ a.block := fun a ha => by
      obtain ⟨a1, e1, e2⟩ := hb2 a ha
      rw [← e2]; exact hsb a1 e1
    have hnd2 := List.nodup_cons.1 hnd
    refine IxA_rn' insV_len (hr.ext hE4) (by omega) (j := i) rfl hib fun a7 ha7 => ?_
    refine ⟨((c[i]!).1, (c[i]!).2), ha7, s_rEffect (i := c[i]!) (hf.ext hE4) fun H6 hE6 => ?_⟩
    have hE6' := hE4.trans hE6 fun _ _ h => h
    have t0 := takes_bd (parms fs) c[i]!
    have t1 := takes_i64 hI c[i]!
    have p0 := puts_bd c[i]!
    refine Lt.mk (u := (d : Int) - takes (parms fs) c[i]!) (by rw [wrap_i64_id] <;> omega) (Lt.mk (u := (d : Int) - takes (parms fs) c[i]! + puts c[i]!) (by rw [wrap_i64_id] <;> omega) ?_)
    refine Jn.mk (fun j H' => H6 = H' ∧ (j = true ↔ ¬ fits (parms fs) c[i]! d)) (fun kk hkk => ?_) ?_
    · refine Br_dec (fun h => hkk _ _ ⟨rfl, fun _ g => by have := g.1; omega, fun _ => rfl⟩) fun h => hkk _ _ ⟨rfl, ?_⟩
      rw [decide_eq_true_eq]
      exact ⟨fun g g2 => by have := g2.2; omega, fun g => Classical.byContradiction fun g2 => g ⟨by omega, by omega⟩⟩
    rintro j _ ⟨rfl, hj⟩
    have hV0 : ∀ j e, mk' B j e ∧ (j, e) ∉ rest ↔ (mk' B j e ∧ (j, e) ∉ (i, d) :: rest) ∨ (j = i ∧ e = d) := by
      intro j e
      constructor
      · rintro ⟨h1, h2⟩
        by_cases h3 : j = i ∧ e = d
        · exact .inr h3
        · refine .inl ⟨h1, fun h4 => ?_⟩
          rcases List.mem_cons.1 h4 with h4 | h4
          · simp only [Prod.mk.injEq] at h4; exact h3 h4
          · exact h2 h4
      · rintro (⟨h1, h2⟩ | ⟨rfl, rfl⟩)
        · exact ⟨h1, fun h3 => h2 (List.mem_cons_of_mem _ h3)⟩
        · exact ⟨hTm (j, e) (List.mem_cons_self ..), hnd2.1⟩
    have hxin : (mk' B i d ∧ (i, d) ∉ (i, d) :: rest) ∨ (i, d) ∈ (i, d) :: rest := .inr (List.mem_cons_self ..)
    refine Br.mk (fun hnofit => ?_) fun hfit => ?_
    · have hnofit := hj.1 hnofit
      refine hnext (2 * cf B + rest.length) l2 H6 (by simp) ⟨rest, B, rfl, hv2.ext hE6, hb2', hE6.row hrB fun h => h, hBl, hE6', hnd2.2, fun x hx => hTm x (List.mem_cons_of_mem _ hx), by omega,
        hInv.go hxin hV0 (fun j e h => .inl (List.mem_cons_of_mem _ h)) (fun j e hs => ?_) fun j e h => ?_⟩
      · obtain ⟨_, g, _⟩ := hs; exact absurd g hnofit
      · by_cases h2 : (j, e) ∈ rest
        · exact .inr h2
        · exact .inl ⟨hTm _ h, h2⟩
    · have hfit : fits (parms fs) c[i]! d := Classical.byContradiction fun g => by rw [hj.2 g] at hfit; cases hfit
      obtain ⟨hbl, hbe⟩ := behind_le hfit
      rw [← hbe]
      generalize hee : behind (parms fs) c[i]! d = e at hbl
      refine s_rnext hcl (hr.ext hE6') hib (by omega) fun r2 H8 hE8 hr2 => ?_
      have hE8' := hE6'.trans hE8 fun _ _ h => h
      refine s_rline rfl rfl hn2 (by omega) hib hbl (by omega) (fun x hx => hTm x (List.mem_cons_of_mem _ hx)) hnd2.2 ((hv2.ext hE6).ext hE8) hb2' (hE8.row (hE6.row hrB fun h => h) fun h => h) hBl hE8' hr2 fun s2 H9 T' B' hv9 hsb9 hr9 hBl9 hE9 hnd9 hM9 hT9 hm9 hm9' => ?_
      have hcfB : cf B ≤ B.length := List.count_le_length
      refine hnext (2 * cf B' + T'.length) s2 H9 (by simp only [List.length_cons]; omega) ⟨T', B', rfl, hv9, hsb9, hr9, hBl9, hE9, hnd9, fun x hx => ?_, ?_, hInv.go hxin (fun j f => ?_) (fun j f h => ?_) (fun j f hs => ?_) fun j f h => ?_⟩
      · rcases (hT9 x).1 hx with h | h
        · exact (hM9 _ _).2 (.inl (hTm x (List.mem_cons_of_mem _ h)))
        · exact h.1
      · omega
      · rw [← hV0]
        constructor
        · rintro ⟨h1, h2⟩
          have h3 : ¬ (mk' B' j f ∧ ¬ mk' B j f) := fun h => h2 ((hT9 (j, f)).2 (.inr h))
          exact ⟨Classical.byContradiction fun h => h3 ⟨h1, h⟩, fun h => h2 ((hT9 (j, f)).2 (.inl h))⟩
        · rintro ⟨h1, h2⟩
          refine ⟨(hM9 j f).2 (.inl h1), fun h => ?_⟩
          rcases (hT9 (j, f)).1 h with h | h
          · exact h2 h
          · exact h.2 h1
      · rcases (hT9 (j, f)).1 h with h | ⟨h1, h2⟩
        · exact .inl (List.mem_cons_of_mem _ h)
        · rcases (hM9 j f).1 h1 with h3 | ⟨h3, h4, h5⟩
          · exact absurd h3 h2
          · exact .inr ⟨hib, hfit, (nextsR_mem h4).1 h5, h4, by rw [hee]; exact h3⟩
      · obtain ⟨_, _, g1, g2, g3⟩ := hs
        have hmk : mk' B' j f := (hM9 j f).2 (.inr ⟨by rw [← hee]; exact g3, g2, (nextsR_mem g2).2 g1⟩)
        by_cases h : (j, f) ∈ T'
        · exact .inr h
        · exact .inl ⟨hmk, h⟩
      · have hmk : mk' B' j f := (hM9 j f).2 (.inl (hTm _ h))
        by_cases h : (j, f) ∈ T'
        · exact .inr h
        · exact .inl ⟨hmk, h⟩
  · have hT0 : T = [] := List.eq_nil_of_length_eq_zero (by omega)
    subst hT0
    refine hk bt B H4 hE4 (by omega) hrB hBl fun i d => ?_
    have := hInv.done (fun i d h => by cases h) i d
    rw [this]
    exact ⟨fun h => ⟨h, fun h2 => by cases h2⟩, fun h => h.1⟩
end Go.Proofs.YtlkmmplgfjicjaaGreat
/-
  The document: what is wrong with a reached instruction.
-/
namespace Go.Proofs.YtlkmmplgfjicjaaGreat
set_option linter.unusedVariables false
set_option linter.unusedSimpArgs false
open Go.Proofs.YtlkmmplgfjicjaaGreat.Hc Go.Proofs.YtlkmmplgfjicjaaGreat.Hc.Vf
set_option maxRecDepth 100000
variable {H : Heap}

theorem s_rwrong {csl fsl : Sl} {c : List Ins} {fs : List Rou} {i : Nat} {v : Value} {w : List Bool} (hv : Value.cells v = ⟨boolsV w⟩) (hwl : w.length = 65) (hw : ∀ d, w[d]? = some true ↔ Rch c (parms fs) i d)
    (hr : RN insV 2 H csl c) (hf : RN rouV 4 H fsl fs) (hI : ∀ x ∈ parms fs, I64 x) (hi : i < c.length) (hn2 : c.length ≤ 2000) {k : Int → Heap → Prop} (hk : ∀ H', Ext H H' → k (wr c (parms fs) i : Nat) H') :
    CallT Pg f_hindcastref15_wrong [.slice csl.a csl.len csl.cap, .int .i64 (i : Nat), v, .slice fsl.a fsl.len fsl.cap] (.one (.c (.int .i64))) H k := by
  refine c_hindcastref15_wrong _ _ _ _ ?_
  unfold v_hindcastref15_wrong
  rw [hv]
  have hcl := hr.len
  have at1 : ∀ {Hx : Heap}, Ext H Hx → ∀ {K : Int → Prop}, K (c[i]!).2 → IxA 2 csl (i : Nat) fun a => Ld (.int .i64) (a.add 1) Hx K := by
    intro Hx hE K hK
    exact IxA_rn' insV_len (hr.ext hE) (by omega) (j := i) rfl hi fun a ha => Ld_int ha.2.1 hK
  have at0 : ∀ {Hx : Heap}, Ext H Hx → ∀ {K : Int → Prop}, K (c[i]!).1 → IxA 2 csl (i : Nat) fun a => Ld (.int .i64) a Hx K := by
    intro Hx hE K hK
    exact IxA_rn' insV_len (hr.ext hE) (by omega) (j := i) rfl hi fun a ha => Ld_int ha.1 hK
  refine Nw_row (vs := boolsV w) fun b1 H1 hb1 hE1 hz1 hr1 => ?_
  refine IxA_rn' insV_len (hr.ext hE1) (by omega) (j := i) rfl hi fun a ha => ⟨((c[i]!).1, (c[i]!).2), ha, s_rEffect (i := c[i]!) (hf.ext hE1) fun H2 hE2 => ?_⟩
  have hE2' := hE1.trans hE2 fun _ _ h => h
  have hr2 := hE2.row hr1 fun h => h
  have t0 := takes_bd (parms fs) c[i]!
  have t1 := takes_i64 hI c[i]!
  have p0 := puts_bd c[i]!
  refine Jn.mk (fun j H' => H2 = H' ∧ j = decide ((c[i]!).1 = 19 ∨ (c[i]!).1 = 20)) (fun kk hkk => ?_) ?_
  · refine at0 hE2' (Br.mk (fun h => hkk _ _ ⟨rfl, (decide_eq_true (.inl (beqI h))).symm⟩) fun h => at0 hE2' (hkk _ _ ⟨rfl, ?_⟩))
    have h := bneI h
    by_cases e : (c[i]!).1 = 20
    · rw [e]; rfl
    · rw [decide_eq_false (by omega)]; exact beq_eq_false_iff_ne.2 e
  rintro j _ ⟨rfl, rfl⟩
  refine Jn.mk (fun j H' => H2 = H' ∧ (j = true ↔ jumpBad c i)) (fun kk hkk => ?_) ?_
  · refine Br_dec (fun h => at1 hE2' (Br_dec (fun h2 => hkk _ _ ⟨rfl, fun _ => ⟨h, by omega⟩, fun _ => rfl⟩) fun h2 => at1 hE2' (hkk _ _ ⟨rfl, ?_⟩))) fun h => hkk _ _ ⟨rfl, fun e => (by cases e), fun e => absurd e.1 h⟩
    rw [decide_eq_true_eq]
    exact ⟨fun g => ⟨h, by omega⟩, fun g => by have := g.2; omega⟩
  rintro j _ ⟨rfl, hj⟩
  refine Br.mk (fun h => ?_) fun h => ?_
  · have := hk H2 hE2'
    rwa [wr_150 (hj.1 h)] at this
  have hnj : ¬ jumpBad c i := fun e => by rw [hj.2 e] at h; cases h
  have sb : stackBad c (parms fs) i → k 151 H2 := fun hs => by
    have := hk H2 hE2'
    rwa [wr_151 hnj hs] at this
  refine LoopT.mk (fun (st : Int × Int) H' => H2 = H' ∧ ∃ m n : Nat, st = ((m : Int), (n : Int)) ∧ n ≤ 65 ∧ m ≤ n ∧ (m = 0 → ∀ d, d < n → ¬ Rch c (parms fs) i d) ∧ (m = 1 → ∃ d, d < n ∧ Rch c (parms fs) i d ∧ ∀ e, e < n → Rch c (parms fs) i e → e = d) ∧
      (1 < m → ∃ d e, Rch c (parms fs) i d ∧ Rch c (parms fs) i e ∧ d ≠ e) ∧ ∀ d, d < n → Rch c (parms fs) i d → fits (parms fs) c[i]! d)
    (fun st _ => 65 - st.2.toNat) ⟨rfl, 0, 0, rfl, by omega, by omega, fun _ d hd => by omega, fun h => by omega, fun h => by omega, fun d hd => by omega⟩ ?_
  rintro next _ _ ⟨rfl, m, n, rfl, hn, hmn, h0, h1, h2, hfit⟩ hnext
  dsimp only
  refine Br_dec (fun hlt => Jn_in ?_) fun hge => ?_
  · have hn3 : n < w.length := by omega
    refine ⟨by omega, by omega, ?_⟩
    rw [Int.toNat_natCast, Nat.mul_one]
    refine Ld_bool (n := w[n]) ?_ ?_
    · rw [adr_add, hr2.cell, List.getElem?_map, List.getElem?_eq_getElem hn3]; rfl
    have hwn : w[n] = true ↔ Rch c (parms fs) i n := by rw [← hw, List.getElem?_eq_getElem hn3]; simp
    generalize w[n] = x at hwn
    refine Jn_in (Br.mk (fun hx => ?_) fun hx => ?_)
    · have hR := hwn.1 hx
      refine Lt.mk (u := ((m + 1 : Nat) : Int)) (by rw [wrap_i64_id] <;> omega) ?_
      refine Jn.mk (fun j H' => H2 = H' ∧ (j = true ↔ ¬ fits (parms fs) c[i]! n)) (fun kk hkk => ?_) ?_
      · refine Br_dec (fun h => hkk _ _ ⟨rfl, fun _ g => by have := g.1; omega, fun _ => rfl⟩) fun h => Lt.mk (u := (n : Int) - takes (parms fs) c[i]!) (by rw [wrap_i64_id] <;> omega) (Lt.mk (u := (n : Int) - takes (parms fs) c[i]! + puts c[i]!) (by rw [wrap_i64_id] <;> omega) (hkk _ _ ⟨rfl, ?_⟩))
        rw [decide_eq_true_eq]
        exact ⟨fun g g2 => by have := g2.2; omega, fun g => Classical.byContradiction fun g2 => g ⟨by omega, by omega⟩⟩
      rintro j5 _ ⟨rfl, hj5⟩
      refine Br.mk (fun hb => sb (.inl ⟨n, hR, hj5.1 hb⟩)) fun hb => ?_
      have hft : fits (parms fs) c[i]! n := Classical.byContradiction fun g => by rw [hj5.2 g] at hb; cases hb
      refine Lt.mk (u := ((n + 1 : Nat) : Int)) (by rw [wrap_i64_id] <;> omega) (hnext _ _ ⟨rfl, m + 1, n + 1, rfl, by omega, by omega, fun h => by omega, fun h => ⟨n, by omega, hR, fun e he hRe => ?_⟩, fun h => ?_, fun d hd hRd => ?_⟩ (by dsimp only; omega))
      · rcases Nat.lt_or_ge e n with g | g
        · exact absurd hRe (h0 (by omega) e g)
        · omega
      · rcases Nat.lt_or_ge 1 m with g | g
        · exact h2 g
        · obtain ⟨d, g1, g2, _⟩ := h1 (by omega)
          exact ⟨d, n, g2, hR, by omega⟩
      · rcases Nat.lt_or_ge d n with g | g
        · exact hfit d g hRd
        · have : d = n := by omega
          subst this; exact hft
    · have hR : ¬ Rch c (parms fs) i n := fun h => by rw [hwn.2 h] at hx; cases hx
      have hlt2 : ∀ {e}, e < n + 1 → Rch c (parms fs) i e → e < n := fun {e} he hRe => by
        rcases Nat.lt_or_ge e n with g | g
        · exact g
        · have : e = n := by omega
          subst this; exact absurd hRe hR
      refine Lt.mk (u := ((n + 1 : Nat) : Int)) (by rw [wrap_i64_id] <;> omega) (hnext _ _ ⟨rfl, m, n + 1, rfl, by omega, by omega, fun h d hd hRd => h0 h d (hlt2 hd hRd) hRd, fun h => ?_, h2, fun d hd hRd => hfit d (hlt2 hd hRd) hRd⟩ (by dsimp only; omega))
      obtain ⟨d, g1, g2, g3⟩ := h1 h
      exact ⟨d, by omega, g2, fun e he hRe => g3 e (hlt2 he hRe) hRe⟩
  · have hn65 : n = 65 := by omega
    subst hn65
    have hbd : ∀ {d}, Rch c (parms fs) i d → d < 65 := fun hd => by have := (hd.bd (by omega)).2; omega
    refine Br_dec (fun h => sb (.inr (h2 (by omega)))) fun h => ?_
    have hns : ¬ stackBad c (parms fs) i := by
      rintro (⟨d, g1, g2⟩ | ⟨d, e, g1, g2, g3⟩)
      · exact g2 (hfit d (hbd g1) g1)
      · rcases Nat.lt_or_ge m 1 with g | g
        · exact h0 (by omega) d (hbd g1) g1
        · obtain ⟨x, _, _, hx⟩ := h1 (by omega)
          exact g3 ((hx d (hbd g1) g1).trans (hx e (hbd g2) g2).symm)
    refine s_rnext rfl (hr.ext hE2') hi (by omega) fun r2 H9 hE9 hr9 => ?_
    have hE9' := hE2'.trans hE9 fun _ _ h => h
    have hxl := nextsR_len c i
    have hr2l := hr9.len
    rw [List.length_map] at hr2l
    have hend := nextsR_end hi hnj
    have hkk := hk H9 hE9'
    refine LoopT.mk (fun (s : Int) H' => H9 = H' ∧ ∃ q : Nat, s = q ∧ q ≤ (nextsR c i).length ∧ ∀ x ∈ (nextsR c i).take q, ¬ (c.length : Int) ≤ x) (fun s _ => (nextsR c i).length - s.toNat) ⟨rfl, 0, rfl, Nat.zero_le _, fun x hx => by simp at hx⟩ ?_
    rintro next2 _ _ ⟨rfl, q, rfl, hq, hqx⟩ hnext2
    refine Br_dec (fun hlt => ?_) fun hge2 => ?_
    · have hq3 : q < (nextsR c i).length := by omega
      refine IxA_rl hr9.rl rfl hq3 fun a ha => Ld_int (n := (nextsR c i)[q]) (by rw [ha]) (Br_dec (fun hx => ?_) fun hx => Lt.mk (u := ((q + 1 : Nat) : Int)) (by rw [wrap_i64_id] <;> omega) (hnext2 _ _ ⟨rfl, q + 1, rfl, hq3, fun x hx2 => ?_⟩ (by omega)))
      · rwa [wr_153 hnj hns (hend.1 ⟨_, List.getElem_mem hq3, by omega⟩)] at hkk
      · rw [List.take_add_one, List.getElem?_eq_getElem hq3, List.mem_append] at hx2
        rcases hx2 with hx2 | hx2
        · exact hqx x hx2
        · simp only [Option.toList_some, List.mem_singleton] at hx2
          subst hx2; omega
    · have hqe : q = (nextsR c i).length := by omega
      subst hqe
      rw [List.take_length] at hqx
      rwa [wr_0 hnj hns fun he => by obtain ⟨x, g1, g2⟩ := hend.2 he; exact hqx x g1 g2] at hkk
end Go.Proofs.YtlkmmplgfjicjaaGreat
