/-
  What was lent is as it was.
-/
import Derived.Test.YtlkmmplgfjicjaaVJ
namespace Go.Proofs.Ytlkmmplgfjicjaa
set_option linter.unusedVariables false
set_option linter.unusedSimpArgs false
open Go.Proofs.Ytlkmmplgfjicjaa.Hc Go.Proofs.Ytlkmmplgfjicjaa.Hc.Vf
set_option maxRecDepth 100000
variable {H : Heap}

theorem s_same {a b : Sl} {xs : List Int} (ha : RL (Value.int .i64) H a xs) (hb : RL (Value.int .i64) H b xs) (hl : xs.length ≤ 2 ^ 60) {k : Bool → Heap → Prop} (hk : k true H) : CallT Pg f_hindcastlaw15_same [.slice a.a a.len a.cap, .slice b.a b.len b.cap] (.one (.c .bool)) H k := by
  refine c_hindcastlaw15_same _ _ ?_
  unfold v_hindcastlaw15_same
  have h1 := ha.len
  have h2 := hb.len
  rw [show ((a.len : Int) != (b.len : Int)) = false by rw [bne_eq_false_iff_eq]; omega]
  refine (Br_false _ _).2 (LoopT.mk (fun (i : Int) H' => H = H' ∧ ∃ n : Nat, i = n ∧ n ≤ xs.length) (fun i _ => xs.length - i.toNat) ⟨rfl, 0, rfl, Nat.zero_le _⟩ ?_)
  rintro next _ _ ⟨rfl, n, rfl, hn⟩ hnext
  refine Br_dec (fun hlt => ?_) fun _ => hk
  have hn3 : n < xs.length := by omega
  refine IxA_rl ha rfl hn3 fun a1 ha1 => Ld_int ha1 (IxA_rl hb rfl hn3 fun a2 ha2 => Ld_int ha2 ?_)
  rw [show (xs[n] != xs[n]) = false by simp]
  exact (Br_false _ _).2 (Lt.mk (u := ((n + 1 : Nat) : Int)) (by rw [wrap_i64_id] <;> omega) (hnext _ _ ⟨rfl, n + 1, rfl, hn3⟩ (by omega)))
theorem s_sameSet {l was : Sl} {xs : List Int} (hL : LSet H l xs) (hw : RL (Value.int .i64) H was xs) (hl : xs.length ≤ 2 ^ 60) {k : Bool → Heap → Prop} (hk : k true H) : CallT Pg f_hindcastlaw15_sameSet [.slice l.a l.len l.cap, .slice was.a was.len was.cap] (.one (.c .bool)) H k := by
  refine c_hindcastlaw15_sameSet _ _ ?_
  unfold v_hindcastlaw15_sameSet
  have h1 := hL.len
  have h2 := hw.len
  have hc := hL.vec.lc
  dsimp only at hc
  refine Jn.mk (fun j H' => H = H' ∧ j = false) (fun kk hkk => ?_) ?_
  · rw [show ((l.len : Int) != (was.len : Int)) = false by rw [bne_eq_false_iff_eq]; omega]
    refine (Br_false _ _).2 (Lt.mk (u := ((xs.length + 2 : Nat) : Int)) (by rw [wrap_i64_id] <;> omega) (hkk _ _ ⟨rfl, decide_eq_false (by omega)⟩))
  rintro _ _ ⟨rfl, rfl⟩
  refine (Br_false _ _).2 (Lt.mk (u := ((xs.length + 2 : Nat) : Int)) (by rw [wrap_i64_id] <;> omega) (SlA0 (by omega) (by omega) (Int.le_refl _) ?_))
  rw [Int.toNat_natCast, Int.toNat_natCast]
  refine LoopT.mk (fun (i : Int) H' => H = H' ∧ ∃ n : Nat, i = n ∧ n ≤ xs.length + 2) (fun i _ => xs.length + 2 - i.toNat) ⟨rfl, 0, rfl, Nat.zero_le _⟩ ?_
  rintro next _ _ ⟨rfl, n, rfl, hn⟩ hnext
  refine Br_dec (fun hlt => ?_) fun _ => hk
  have hlt : (n : Int) < ((xs.length + 2 : Nat) : Int) := hlt
  have hn3 : n < (xs ++ [77, 77]).length := by rw [List.length_append]; simp; omega
  have rd : ∀ {kk : Int → Prop}, kk ((xs ++ [77, 77])[n]) → IxA 1 ⟨l.a, xs.length + 2, l.cap⟩ (n : Int) fun a1 => Ld (.int .i64) a1 H fun (x1 : Int) => kk x1 := fun h =>
    IxA_vec hL.vec (by omega) (by rw [List.length_map]; omega) fun a1 ha1 _ => Ld_int (n := (xs ++ [77, 77])[n]) (by rw [ha1, Int.toNat_natCast, List.getElem?_map, List.getElem?_eq_getElem hn3]; rfl) h
  refine Jn.mk (fun j H' => H = H' ∧ j = false) (fun kk hkk => Br_dec (fun h => ?_) fun h => ?_) ?_
  · have hn4 : n < xs.length := by omega
    refine rd (IxA_rl hw rfl hn4 fun a2 ha2 => Ld_int ha2 ?_)
    rw [show ((xs ++ [77, 77])[n] != xs[n]) = false by rw [List.getElem_append_left hn4]; simp]
    exact (Br_false _ _).2 (Br_no (by omega) (hkk _ _ ⟨rfl, rfl⟩))
  · refine Br_yes (by omega) (rd (hkk _ _ ⟨rfl, ?_⟩))
    rw [List.getElem_append_right (by omega)]
    have : n - xs.length = 0 ∨ n - xs.length = 1 := by omega
    rcases this with e | e <;> simp [e]
  rintro _ _ ⟨rfl, rfl⟩
  exact (Br_false _ _).2 (Lt.mk (u := ((n + 1 : Nat) : Int)) (by rw [wrap_i64_id] <;> omega) (hnext _ _ ⟨rfl, n + 1, rfl, by omega⟩ (by omega)))
theorem eqL_ins (a b : Int) : eqL [(.int .i64), (.int .i64)] (a, b) (a, b) = true := by simp [eqL, eqT]
theorem s_sameRow {l was : Sl} {c : List Ins} (hL : LRow H l c) (hw : RN insV 2 H was c) (hl : c.length ≤ 2 ^ 60) {k : Bool → Heap → Prop} (hk : ∀ H', Ext H H' → k true H') : CallT Pg f_hindcastlaw15_sameRow [.slice l.a l.len l.cap, .slice was.a was.len was.cap] (.one (.c .bool)) H k := by
  refine c_hindcastlaw15_sameRow _ _ ?_
  unfold v_hindcastlaw15_sameRow
  have h1 := hL.len
  have h2 := hw.len
  have hc := hL.vec.lc
  dsimp only at hc
  refine Jn.mk (fun j H' => H = H' ∧ j = false) (fun kk hkk => ?_) ?_
  · rw [show ((l.len : Int) != (was.len : Int)) = false by rw [bne_eq_false_iff_eq]; omega]
    refine (Br_false _ _).2 (Lt.mk (u := ((c.length + 8 : Nat) : Int)) (by rw [wrap_i64_id] <;> omega) (hkk _ _ ⟨rfl, decide_eq_false (by omega)⟩))
  rintro _ _ ⟨rfl, rfl⟩
  refine (Br_false _ _).2 (Lt.mk (u := ((c.length + 8 : Nat) : Int)) (by rw [wrap_i64_id] <;> omega) (SlA0 (by omega) (by omega) (Int.le_refl _) ?_))
  rw [Int.toNat_natCast, Int.toNat_natCast]
  have hll : (c ++ List.replicate 8 ((77, 0) : Ins)).length = c.length + 8 := by simp
  refine LoopT.mk (fun (i : Int) H' => ∃ n : Nat, i = n ∧ n ≤ c.length + 8 ∧ Ext H H') (fun i _ => c.length + 8 - i.toNat) ⟨0, rfl, Nat.zero_le _, .refl _ _⟩ ?_
  rintro next _ H2 ⟨n, rfl, hn, hE2⟩ hnext
  refine Br_dec (fun hlt => ?_) fun _ => hk _ hE2
  have hlt : (n : Int) < ((c.length + 8 : Nat) : Int) := hlt
  have hn3 : n < (c ++ List.replicate 8 ((77, 0) : Ins)).length := by omega
  refine Nw_row (vs := [.int .i64 0, .int .i64 0]) fun b1 H3 hb1 hE3 _ hr3 => ?_
  simp only [adr_add]
  refine St_row hr3 (by simp) fun H4 hU4 _ hr4 => St_row hr4 (by simp) fun H5 hU5 _ hr5 => ?_
  have hE5 : Ext H2 H5 := extUpd hE3 (by omega) (hU4.trans hU5 fun _ _ h => h)
  refine Jn.mk (fun _ H' => Ext H2 H' ∧ Row H' b1 T_api_Instr (insV ((c ++ List.replicate 8 ((77, 0) : Ins))[n]))) (fun kk hkk => Br_dec (fun h => ?_) fun h => hkk _ _ ⟨hE5, ?_⟩) ?_
  · have hn4 : n < c.length := by omega
    have hE5' := hE2.trans hE5 fun _ _ h => h
    refine IxA_rn' insV_len (hw.ext hE5') (by omega) (j := n) rfl hn4 fun a1 ha1 => ⟨((c[n]!).1, (c[n]!).2), ha1, ?_⟩
    refine St_row hr5 (by simp) fun H7 hU7 _ hr7 => St_row hr7 (by simp) fun H8 hU8 _ hr8 => hkk _ _ ⟨hE5.trans (hU7.trans hU8 fun _ _ h => h) fun b hb e => by omega, ?_⟩
    rw [List.getElem_append_left hn4, ← getElem!_pos c n hn4]; exact hr8
  · rw [List.getElem_append_right (by omega), List.getElem_replicate]; exact hr5
  rintro _ H6 ⟨hE6, hr6⟩
  have hE6' := hE2.trans hE6 fun _ _ h => h
  have hrn : RN insV 2 H6 ⟨l.a, c.length + 8, l.cap⟩ (c ++ List.replicate 8 ((77, 0) : Ins)) := VecN.rn insV_len (by omega) (hL.vec.ext hE6')
  refine IxA_rn' insV_len hrn (by omega) (j := n) rfl hn3 fun a2 ha2 => ?_
  rw [getElem!_pos _ n hn3] at ha2
  generalize (c ++ List.replicate 8 ((77, 0) : Ins))[n] = i at *
  refine ⟨(i.1, i.2), ha2, (i.1, i.2), hr6.rd_all, ?_⟩
  show Br (!eqL [(.int .i64), (.int .i64)] (i.1, i.2) (i.1, i.2)) _ _
  rw [eqL_ins]
  exact (Br_false _ _).2 (Lt.mk (u := ((n + 1 : Nat) : Int)) (by rw [wrap_i64_id] <;> omega) (hnext _ _ ⟨n + 1, rfl, by omega, hE6'⟩ (by omega)))
theorem s_still {q p : Sl × Sl} {ss ss' : List Sy} {fs fs' : List Rou} {yb : Sy} {fb : Rou} (hL : LentP H q ss' fs' yb fb) (hP : PrgI H p ss fs) (he1 : ss'.map eraS = ss.map eraS) (he2 : fs'.map eraR = fs.map eraR) {k : Bool → Heap → Prop} (hk : ∀ H', Ext H H' → k true H') :
    CallT Pg f_hindcastlaw15_still [prgA q, prgA p] (.one (.c .bool)) H k := by
  refine c_hindcastlaw15_still q p ?_
  unfold v_hindcastlaw15_still
  refine Nw_row (vs := [slV q.1, slV q.2]) fun b1 H1 hb1 hE1 _ hr1 => Nw_row (vs := [slV p.1, slV p.2]) fun b2 H2 hb2 hE2 _ hr2 => ?_
  simp only [adr_add, mk_add]
  have hE2' := hE1.trans hE2 fun _ _ h => h
  have hq2 := hE2.row hr1 fun h => h
  have cq0 : ∀ {Hx}, Ext H2 Hx → hcell Hx (adr b1) = some (slV q.1) := fun hE => ((hE.row hq2 fun h => h).cell 0).trans rfl
  have cq1 : ∀ {Hx}, Ext H2 Hx → hcell Hx ⟨b1, 1, none⟩ = some (slV q.2) := fun hE => ((hE.row hq2 fun h => h).cell 1).trans rfl
  have cp0 : ∀ {Hx}, Ext H2 Hx → hcell Hx (adr b2) = some (slV p.1) := fun hE => ((hE.row hr2 fun h => h).cell 0).trans rfl
  have cp1 : ∀ {Hx}, Ext H2 Hx → hcell Hx ⟨b2, 1, none⟩ = some (slV p.2) := fun hE => ((hE.row hr2 fun h => h).cell 1).trans rfl
  have e0 : Ext H2 H2 := .refl _ _
  have hlx : ∀ {Hx}, Ext H2 Hx → LentP Hx q ss' fs' yb fb := fun hE => hL.ext (hE2'.trans hE fun _ _ h => h)
  have hpx : ∀ {Hx}, Ext H2 Hx → PrgR Hx p ss fs := fun hE => hP.prg.ext (hE2'.trans hE fun _ _ h => h)
  have l1 := map_len he1
  have l2 := map_len he2
  have a1 := hL.sl
  have a2 := hL.fl
  have a3 := hP.sys.len
  have a4 := hP.fun'.len
  have hsn := hP.sl
  have hfn := hP.fl
  refine Jn.mk (fun j H' => H2 = H' ∧ j = false) (fun kk hkk => ?_) ?_
  · refine Ld_sl (s := q.1) (cq0 e0) (Ld_sl (s := p.1) (cp0 e0) ?_)
    rw [show ((q.1.len : Int) != (p.1.len : Int)) = false by rw [bne_eq_false_iff_eq]; omega]
    refine (Br_false _ _).2 (Ld_sl (s := q.2) (cq1 e0) (Ld_sl (s := p.2) (cp1 e0) (hkk _ _ ⟨rfl, by rw [bne_eq_false_iff_eq]; omega⟩)))
  rintro _ _ ⟨rfl, rfl⟩
  refine (Br_false _ _).2 (LoopT.mk (fun (i : Int) H' => ∃ n : Nat, i = n ∧ n ≤ ss.length ∧ Ext H2 H') (fun i _ => ss.length - i.toNat) ⟨0, rfl, Nat.zero_le _, e0⟩ ?_)
  rintro next _ H4 ⟨n, rfl, hn, hE4⟩ hnext
  refine Ld_sl (s := p.1) (cp0 hE4) (Br_dec (fun hlt => ?_) fun hge => ?_)
  · have hn3 : n < ss.length := by omega
    have hn4 : n < ss'.length := by omega
    have hqs := rn_pre sysV_len (by omega) (hlx hE4).sv (hlx hE4).sl
    refine Ld_sl (s := q.1) (cq0 hE4) (IxA_rn' sysV_len hqs (by omega) (j := n) rfl hn4 fun a ha => ?_)
    have hm' : ss'[n]! ∈ ss' := by rw [getElem!_pos ss' n hn4]; exact List.getElem_mem hn4
    have hm : ss[n]! ∈ ss := by rw [getElem!_pos ss n hn3]; exact List.getElem_mem hn3
    have hx' : ∀ {Hx}, Ext H2 Hx → LSy Hx (ss'[n]!) := fun hE => (hlx hE).sy _ hm'
    have hx : ∀ {Hx}, Ext H2 Hx → SyR Hx (ss[n]!) := fun hE => (hpx hE).sysR _ hm
    have hxI := hP.sysR _ hm
    have hera := map_at he1 hn4
    have hget : ∀ {Hx : Heap} {kk : Addr → Prop}, Ext H2 Hx → (∀ a, hcells Hx a 0 (sysV ss[n]!) → kk a) → IxA 8 p.1 (n : Int) kk := fun hE hkk => IxA_rn' sysV_len (hpx hE).sys (by omega) (j := n) rfl hn3 hkk
    generalize ss[n]! = x at *
    generalize ss'[n]! = x' at *
    simp only [eraS, eraR, Prod.mk.injEq] at hera
    obtain ⟨r1, r2, r3, r4, r5⟩ := hera
    refine ld_sys ha (sys_copy (x := x') fun b3 H13 hb3 hE13 hr13 => ?_)
    have hE13' := hE4.trans hE13 fun _ _ h => h
    refine Ld_sl (s := p.1) (cp0 hE13') (hget hE13' fun a ha => ld_sys ha (sys_copy (x := x) fun b4 H22 hb4 hE22 hr22 => ?_))
    have hE22' := hE13'.trans hE22 fun _ _ h => h
    have hr322 := hE22.row hr13 fun h => h
    have ws : ∀ q (hq : q < 4), LSet H22 (x'.s q) (x.l q) := fun q hq => r1 ▸ (hx' hE22').set q hq
    have wl : ∀ q (hq : q < 4), (x.l q).length ≤ 2 ^ 60 := fun q hq => by have := hxI.lens q hq; omega
    refine Ld_sl (s := x'.s 0) ((hr322.cell 0).trans rfl) (Ld_sl (s := x.s 0) ((hr22.cell 0).trans rfl) (s_sameSet (ws 0 (by omega)) ((hx hE22').sets 0 (by omega)) (wl 0 (by omega)) ?_))
    refine Ld_sl (s := x'.s 1) ((hr322.cell 1).trans rfl) (Ld_sl (s := x.s 1) ((hr22.cell 1).trans rfl) (s_sameSet (ws 1 (by omega)) ((hx hE22').sets 1 (by omega)) (wl 1 (by omega)) ?_))
    refine Ld_sl (s := x'.s 2) ((hr322.cell 2).trans rfl) (Ld_sl (s := x.s 2) ((hr22.cell 2).trans rfl) (s_sameSet (ws 2 (by omega)) ((hx hE22').sets 2 (by omega)) (wl 2 (by omega)) ?_))
    refine Ld_sl (s := x'.s 3) ((hr322.cell 3).trans rfl) (Ld_sl (s := x.s 3) ((hr22.cell 3).trans rfl) (s_sameSet (ws 3 (by omega)) ((hx hE22').sets 3 (by omega)) (wl 3 (by omega)) ?_))
    refine Ld_sl (s := x'.rou.sl) ((hr322.cell 7).trans rfl) (Ld_sl (s := x.rou.sl) ((hr22.cell 7).trans rfl) (s_sameRow (c := x.rou.code) (r5 ▸ (hx' hE22').row) (hx hE22').code (by have := hxI.rou.len; omega) fun H27 hE27 => ?_))
    have hE27' := hE22'.trans hE27 fun _ _ h => h
    have g3 := hE27.row hr322 fun h => h
    have g4 := hE27.row hr22 fun h => h
    refine Jn.mk (fun j H' => H27 = H' ∧ j = false) (fun kk hkk => ?_) ?_
    · iterate 5 refine (Br_false _ _).2 ?_
      refine Ld_str (n := x'.rou.name) ((g3.cell 4).trans rfl) (Ld_str (n := x.rou.name) ((g4.cell 4).trans rfl) ?_)
      rw [r2, show (!(x.rou.name.toList == x.rou.name.toList)) = false by simp]
      refine (Br_false _ _).2 (Ld_int (n := x'.rou.params) ((g3.cell 5).trans rfl) (Ld_int (n := x.rou.params) ((g4.cell 5).trans rfl) ?_))
      rw [r3, show (x.rou.params != x.rou.params) = false by simp]
      refine (Br_false _ _).2 (Ld_int (n := x'.rou.locals) ((g3.cell 6).trans rfl) (Ld_int (n := x.rou.locals) ((g4.cell 6).trans rfl) (hkk _ _ ⟨rfl, by rw [r4]; simp⟩)))
    rintro _ _ ⟨rfl, rfl⟩
    exact (Br_false _ _).2 (Lt.mk (u := ((n + 1 : Nat) : Int)) (by rw [wrap_i64_id] <;> omega) (hnext _ _ ⟨n + 1, rfl, hn3, hE27'⟩ (by omega)))
  · refine LoopT.mk (fun (i : Int) H' => ∃ n : Nat, i = n ∧ n ≤ fs.length ∧ Ext H2 H') (fun i _ => fs.length - i.toNat) ⟨0, rfl, Nat.zero_le _, hE4⟩ ?_
    rintro next2 _ H5 ⟨n, rfl, hn2, hE5⟩ hnext2
    refine Ld_sl (s := p.2) (cp1 hE5) (Br_dec (fun hlt2 => ?_) fun hge2 => ?_)
    · have hn3 : n < fs.length := by omega
      have hn4 : n < fs'.length := by omega
      have hqs := rn_pre rouV_len (by omega) (hlx hE5).fv (hlx hE5).fl
      refine Ld_sl (s := q.2) (cq1 hE5) (IxA_rn' rouV_len hqs (by omega) (j := n) rfl hn4 fun a ha => ?_)
      have hm' : fs'[n]! ∈ fs' := by rw [getElem!_pos fs' n hn4]; exact List.getElem_mem hn4
      have hm : fs[n]! ∈ fs := by rw [getElem!_pos fs n hn3]; exact List.getElem_mem hn3
      have hx' : ∀ {Hx}, Ext H2 Hx → LRow Hx (fs'[n]!).sl (fs'[n]!).code := fun hE => (hlx hE).fn _ hm'
      have hx : ∀ {Hx}, Ext H2 Hx → CodeR Hx (fs[n]!) := fun hE => (hpx hE).funR _ hm
      have hxI := hP.funR _ hm
      have hera := map_at he2 hn4
      have hget : ∀ {Hx : Heap} {kk : Addr → Prop}, Ext H2 Hx → (∀ a, hcells Hx a 0 (rouV fs[n]!) → kk a) → IxA 4 p.2 (n : Int) kk := fun hE hkk => IxA_rn' rouV_len (hpx hE).fun' (by omega) (j := n) rfl hn3 hkk
      generalize fs[n]! = x at *
      generalize fs'[n]! = x' at *
      simp only [eraR, Prod.mk.injEq] at hera
      obtain ⟨r2, r3, r4, r5⟩ := hera
      refine ld_rou (r := x') ha (rou_copy (x := x') fun b3 H13 hb3 hE13 hr13 => ?_)
      have hE13' := hE5.trans hE13 fun _ _ h => h
      refine Ld_sl (s := p.2) (cp1 hE13') (hget hE13' fun a ha => ld_rou (r := x) ha (rou_copy (x := x) fun b4 H22 hb4 hE22 hr22 => ?_))
      have hE22' := hE13'.trans hE22 fun _ _ h => h
      have hr322 := hE22.row hr13 fun h => h
      refine Ld_sl (s := x'.sl) ((hr322.cell 3).trans rfl) (Ld_sl (s := x.sl) ((hr22.cell 3).trans rfl) (s_sameRow (c := x.code) (r5 ▸ hx' hE22') (hx hE22') (by have := hxI.len; omega) fun H27 hE27 => ?_))
      have hE27' := hE22'.trans hE27 fun _ _ h => h
      have g3 := hE27.row hr322 fun h => h
      have g4 := hE27.row hr22 fun h => h
      refine Jn.mk (fun j H' => H27 = H' ∧ j = false) (fun kk hkk => ?_) ?_
      · refine (Br_false _ _).2 ?_
        refine Ld_str (n := x'.name) ((g3.cell 0).trans rfl) (Ld_str (n := x.name) ((g4.cell 0).trans rfl) ?_)
        rw [r2, show (!(x.name.toList == x.name.toList)) = false by simp]
        refine (Br_false _ _).2 (Ld_int (n := x'.params) ((g3.cell 1).trans rfl) (Ld_int (n := x.params) ((g4.cell 1).trans rfl) ?_))
        rw [r3, show (x.params != x.params) = false by simp]
        refine (Br_false _ _).2 (Ld_int (n := x'.locals) ((g3.cell 2).trans rfl) (Ld_int (n := x.locals) ((g4.cell 2).trans rfl) (hkk _ _ ⟨rfl, by rw [r4]; simp⟩)))
      rintro _ _ ⟨rfl, rfl⟩
      exact (Br_false _ _).2 (Lt.mk (u := ((n + 1 : Nat) : Int)) (by rw [wrap_i64_id] <;> omega) (hnext2 _ _ ⟨n + 1, rfl, hn3, hE27'⟩ (by omega)))
    · have hL5 := hlx hE5
      have c1 := hL5.sv.lc
      have c2 := hL5.fv.lc
      dsimp only at c1 c2
      refine Ld_sl (s := q.1) (cq0 hE5) (Ld_sl (s := p.1) (cp0 hE5) (Lt.mk (u := ((ss'.length + 1 : Nat) : Int)) (by rw [wrap_i64_id] <;> omega) (SlA0 (by omega) (by omega) (Int.le_refl _) ?_)))
      refine Ld_sl (s := q.2) (cq1 hE5) (Ld_sl (s := p.2) (cp1 hE5) (Lt.mk (u := ((fs'.length + 1 : Nat) : Int)) (by rw [wrap_i64_id] <;> omega) (SlA0 (by omega) (by omega) (Int.le_refl _) ?_)))
      simp only [Int.toNat_natCast]
      refine Ld_sl (s := p.1) (cp0 hE5) ?_
      have hsy : RN sysV 8 H5 ⟨q.1.a, ss'.length + 1, q.1.cap⟩ (ss' ++ [yb]) := VecN.rn sysV_len (by omega) hL5.sv
      have hyb : (ss' ++ [yb])[ss'.length]! = yb := by rw [getElem!_pos _ _ (by simp)]; simp
      refine IxA_rn' sysV_len hsy (by omega) (j := ss'.length) (by omega) (by simp) fun a ha => ?_
      rw [hyb] at ha
      refine ld_sys ha (sys_copy (x := yb) fun b7 H50 hb7 hE50 hr50 => ?_)
      have hE50' := hE5.trans hE50 fun _ _ h => h
      have hyv := (hlx hE50').yb
      have hyl := hyv.len
      refine Jn.mk (fun j H' => H50 = H' ∧ j = true) (fun kk hkk => ?_) (by rintro _ _ ⟨rfl, rfl⟩; exact hk _ (hE2'.trans hE50' fun _ _ h => h))
      refine Ld_sl (s := yb.s 0) ((hr50.cell 0).trans rfl) ?_
      rw [hyl]
      refine (Br_true _ _).2 (Ld_sl (s := yb.s 0) ((hr50.cell 0).trans rfl) (IxA_vec hyv (by omega) (by simp) fun a6 ha6 _ => Ld_int (n := 77) (by rw [ha6]; rfl) ((Br_true _ _).2 (Ld_sl (s := p.2) (cp1 hE50') ?_))))
      have hfy : RN rouV 4 H50 ⟨q.2.a, fs'.length + 1, q.2.cap⟩ (fs' ++ [fb]) := VecN.rn rouV_len (by omega) (hlx hE50').fv
      have hfb : (fs' ++ [fb])[fs'.length]! = fb := by rw [getElem!_pos _ _ (by simp)]; simp
      refine IxA_rn' rouV_len hfy (by omega) (j := fs'.length) (by omega) (by simp) fun a7 ha7 => ?_
      rw [hfb] at ha7
      refine Ld_str (n := fb.name) ha7.1 (hkk _ _ ⟨rfl, ?_⟩)
      rw [hL.fb]
      simp [nmBehind]
end Go.Proofs.Ytlkmmplgfjicjaa
/-
  VerifyDepths: what came out is its owner's.
-/
namespace Go.Proofs.Ytlkmmplgfjicjaa
set_option linter.unusedVariables false
set_option linter.unusedSimpArgs false
open Go.Proofs.Ytlkmmplgfjicjaa.Hc Go.Proofs.Ytlkmmplgfjicjaa.Hc.Vf
set_option maxRecDepth 100000
variable {H : Heap}

noncomputable def depO (c : List Ins) (ps : List Int) : Option (Nat × Nat) := match depthsS c ps with
  | .ok _ => none
  | .error ae => some ae
noncomputable def depX (c : List Ins) (ps : List Int) : List Int := match depthsS c ps with
  | .ok xs => xs
  | .error _ => []
theorem depX_len (c : List Ins) (ps : List Int) : (depX c ps).length ≤ 2000 := by
  unfold depX
  rw [depthsS_eq]
  split
  · rename_i xs h
    split at h
    · cases h
    · split at h
      · cases h
      · cases h; simp; omega
  · simp
theorem wholeS_ne {c : List Ins} {ps : List Int} {a e : Nat} (hw : wholeS c ps = .error (a, e)) : e ≠ 0 := by
  unfold wholeS at hw
  split at hw
  · simp only [Except.error.injEq, Prod.mk.injEq] at hw; omega
  · split at hw
    · rename_i i' hf
      have this := List.find?_some hf
      have this : wr c ps i' ≠ 0 := Classical.byContradiction fun g => by rw [badP_false fun h => g h.2] at this; cases this
      simp only [Except.error.injEq, Prod.mk.injEq] at hw; omega
    · cases hw
theorem depO_ne {c : List Ins} {ps : List Int} {a e : Nat} (h : depO c ps = some (a, e)) : e ≠ 0 := by
  unfold depO at h
  cases hd : depthsS c ps with
  | ok xs => rw [hd] at h; cases h
  | error ae =>
    rw [hd] at h
    simp only [Option.some.injEq] at h
    subst h
    rw [depthsS_eq] at hd
    split at hd
    · simp only [Except.error.injEq, Prod.mk.injEq] at hd; omega
    · cases hw : wholeS c ps with
      | error ae =>
        obtain ⟨a', e'⟩ := ae
        rw [hw] at hd
        simp only [Except.error.injEq, Prod.mk.injEq] at hd
        have := wholeS_ne hw
        omega
      | ok u => rw [hw] at hd; cases hd
theorem dep_out {lo : Nat} {c : List Ins} {ps : List Int} {l : Sl} {v : Value} (h : DepOut lo H c ps l v) : VerOut lo H v (depO c ps) ∧ Vec H T_int l (ints (depX c ps)) ∧ ∀ b, l.a = some (adr b) → lo ≤ b := by
  unfold DepOut at h
  unfold depO depX
  cases hd : depthsS c ps with
  | ok xs => rw [hd] at h; exact ⟨h.1, h.2⟩
  | error ae =>
    obtain ⟨a, e⟩ := ae
    rw [hd] at h
    obtain ⟨rfl, g, h1, h2, h3⟩ := h
    exact ⟨⟨g, h1, h2, h3⟩, Vec.nil _ _, fun b hb => by cases hb⟩
theorem dep_ref {c : List Ins} {ps : List Int} {q : Sl × Int × Int} (h : DepRef H c ps q) : q.2 = ((foI (depO c ps)).1, (foI (depO c ps)).2.1) ∧ Vec H T_int q.1 (ints (depX c ps)) := by
  unfold DepRef at h
  unfold depO depX
  cases hd : depthsS c ps with
  | ok xs => rw [hd] at h; exact h
  | error ae =>
    obtain ⟨a, e⟩ := ae
    rw [hd] at h
    subst h
    exact ⟨rfl, Vec.nil _ _⟩
theorem VerOut.ext {H' : Heap} (hE : Ext H H') {lo : Nat} {v : Value} {o : Option (Nat × Nat)} (h : VerOut lo H v o) : VerOut lo H' v o := by
  cases o with
  | none => exact h
  | some ae => obtain ⟨g, h1, h2, h3⟩ := h; exact ⟨g, h1, h2, hE.row h3 fun h => h⟩
theorem VerOut.ext' {M : Nat → Prop} {H' : Heap} (hu : Upd M H H') (hM : ∀ b ws, Row H b T_api_Fault ws → ¬ M b) {lo : Nat} {v : Value} {o : Option (Nat × Nat)} (h : VerOut lo H v o) : VerOut lo H' v o := by
  cases o with
  | none => exact h
  | some ae => obtain ⟨g, h1, h2, h3⟩ := h; exact ⟨g, h1, h2, hu.row h3 (hM _ _ h3)⟩
/-- All of a list are written over. -/
theorem fill {x : Sl} {xs : List Int} {v : Int} (hv : Vec H T_int x (ints xs)) (hl : xs.length ≤ 100000) {q : Int} (hq : IntKind.wrap .i64 (1000 + q) = v) {K : Heap → Prop} (hK : ∀ H', Vec H' T_int x (ints (List.replicate xs.length v)) → Upd (fun b => x.a = some (adr b)) H H' → H'.size = H.size → K H') :
    LoopT (σ := Int) (fun next3 s3 H32 => Br (decide (s3 < (x.len : Int))) (Lt (IntKind.wrap .i64 (1000 + q)) fun t2 => IxA 1 x s3 fun a4 => St a4 (.int .i64 t2) H32 fun H33 => Lt (IntKind.wrap .i64 (s3 + 1)) fun t3 => next3 t3 H33) (K H32)) 0 H := by
  have hlen := hv.len
  rw [List.length_map] at hlen
  refine LoopT.mk (fun (i : Int) H' => ∃ n : Nat, i = n ∧ n ≤ xs.length ∧ Vec H' T_int x (ints (List.replicate n v ++ xs.drop n)) ∧ Upd (fun b => x.a = some (adr b)) H H' ∧ H'.size = H.size) (fun i _ => xs.length - i.toNat) ⟨0, rfl, Nat.zero_le _, by simpa using hv, .refl _ _, rfl⟩ ?_
  rintro next _ H1 ⟨n, rfl, hn, hv1, hU1, hz1⟩ hnext
  refine Br_dec (fun hlt => ?_) fun hge => ?_
  · have hn3 : n < xs.length := by omega
    refine Lt.mk hq (IxA_St_vec' hv1 rfl (by simp; omega) fun H2 hv2 hU2 hz2 => ?_)
    refine Lt.mk (u := ((n + 1 : Nat) : Int)) (by rw [wrap_i64_id] <;> omega) (hnext _ _ ⟨n + 1, rfl, hn3, ?_, hU1.trans hU2 fun _ _ h => h, by omega⟩ (by omega))
    rw [ints_set] at hv2
    have : (List.replicate n v ++ xs.drop n).set n v = List.replicate (n + 1) v ++ xs.drop (n + 1) := by
      rw [List.set_append_right _ _ (by simp), List.length_replicate, Nat.sub_self, List.drop_eq_getElem_cons hn3, List.set_cons_zero, List.replicate_succ', List.append_assoc]
      rfl
    rw [this] at hv2; exact hv2
  · have : n = xs.length := by omega
    subst this
    refine hK _ ?_ hU1 hz1
    simpa using hv1
theorem rl_pre {a : Option Addr} {s : Sl} {n m : Nat} {v : Int} {c : Sl} (hv : Vec H T_int s (ints (List.replicate (n + m) v))) (ha : s.a = c.a) (hc : c.len = n) (hcc : c.len ≤ c.cap) : RL (Value.int .i64) H c (List.replicate n v) := by
  refine ⟨?_, by rw [List.length_replicate]; exact hc, hcc⟩
  have := hv.rd
  rw [ha] at this
  have e : ints (List.replicate (n + m) v) = (List.replicate n v).map (Value.int .i64) ++ ints (List.replicate m v) := by unfold ints; rw [← List.map_append, List.replicate_append_replicate]
  rw [e] at this
  unfold rdL at this ⊢
  cases hca : c.a with
  | none =>
    rw [hca] at this
    exact (List.append_eq_nil_iff.1 this).1
  | some a =>
    rw [hca] at this
    exact (hcells_app.1 this).1
/-- Seventy more are appended. -/
theorem more {x : Sl} {n : Nat} {v q : Int} (hq : IntKind.wrap .i64 (1000 + q) = v) (hv : Vec H T_int x (ints (List.replicate n v))) (hl : n ≤ 100000) {K : Sl → Heap → Prop}
    (hK : ∀ s H', Vec H' T_int s (ints (List.replicate (n + 70) v)) → RL (Value.int .i64) H' x (List.replicate n v) → Upd (fun b => x.a = some (adr b)) H H' → (s.a = x.a ∨ ∀ b, s.a = some (adr b) → H.size ≤ b) → K s H') :
    LoopT (σ := Sl × Int) (fun next4 s4 H34 => Br (decide (s4.2 < 70)) (Lt (IntKind.wrap .i64 (1000 + q)) fun t4 => Nw #[.int .i64 t4] T_int H34 fun b8 H35 => App T_int 1 8 #[.int .i64 0] s4.1 ⟨some (adr b8), 1, 1⟩ H35 fun l1 H36 => Lt (IntKind.wrap .i64 (s4.2 + 1)) fun t5 => next4 (l1, t5) H36) (K s4.1 H34)) (x, 0) H := by
  have hlen := hv.len
  simp only [List.length_map, List.length_replicate] at hlen
  refine LoopT.mk (fun (st : Sl × Int) H' => ∃ m : Nat, st.2 = m ∧ m ≤ 70 ∧ Vec H' T_int st.1 (ints (List.replicate (n + m) v)) ∧ RL (Value.int .i64) H' x (List.replicate n v) ∧ Upd (fun b => x.a = some (adr b)) H H' ∧ (st.1.a = x.a ∨ ∀ b, st.1.a = some (adr b) → H.size ≤ b)) (fun st _ => 70 - st.2.toNat)
    ⟨0, rfl, by omega, hv, rl_pre (a := none) (m := 0) hv rfl hlen hv.lc, .refl _ _, .inl rfl⟩ ?_
  rintro next ⟨s, _⟩ H1 ⟨m, rfl, hm, hv1, hr1, hU1, ha1⟩ hnext
  dsimp only at hv1 ha1 ⊢
  refine Br_dec (fun hlt => ?_) fun hge => ?_
  · refine Lt.mk hq (Nw_row (vs := [.int .i64 v]) fun b8 H2 hb8 hE2 z2 hr2 => ?_)
    have z1 := hU1.size
    refine App_one (hv1.ext hE2) (Row.rd_all hr2) rfl rfl (by omega) (by simp only [List.length_map, List.length_replicate]; omega) fun s' H3 hv3 hl3 hc => ?_
    have hv3' : Vec H3 T_int s' (ints (List.replicate (n + (m + 1)) v)) := by
      have e : ints (List.replicate (n + (m + 1)) v) = ints (List.replicate (n + m) v) ++ [.int .i64 v] := by unfold ints; rw [show n + (m + 1) = n + m + 1 by omega, List.replicate_succ']; simp
      rw [e]; exact hv3
    have hr2x := hr1.ext hE2
    refine Lt.mk (u := ((m + 1 : Nat) : Int)) (by rw [wrap_i64_id] <;> omega) (hnext _ _ ⟨m + 1, rfl, by omega, hv3', ?_, ?_, ?_⟩ (by dsimp only; omega))
    · rcases hc with ⟨b, cs, h1, h2, _, _, h5, _⟩ | ⟨_, h2, _⟩
      · rcases ha1 with g | g
        · exact rl_pre (a := none) hv3' (by rw [h2, ← g, h1]) hlen hv.lc
        · refine hr2x.upd' h5 fun hne a hxa e => ?_
          have hlo := g b h1
          have hx : ∃ c, x.a = some (adr c) ∧ c < H.size := by
            rcases hv.own with ⟨k1, _⟩ | ⟨c, sp, k1, k2, _⟩
            · rw [k1] at hxa; cases hxa
            · exact ⟨c, k1, k2.lt⟩
          obtain ⟨c, k1, k2⟩ := hx
          rw [k1] at hxa; cases hxa
          have : (adr c).block = b := e
          have : c = b := this
          omega
      · exact hr2x.ext h2
    · have hE2u := hU1.trans hE2 fun _ _ h => h.elim
      rcases hc with ⟨b, cs, h1, h2, _, _, h5, _⟩ | ⟨_, h2, _⟩
      · refine hE2u.trans h5 fun c hc e => ?_
        subst e
        rcases ha1 with g | g
        · rw [← g]; exact h1
        · have := g _ h1; omega
      · exact hE2u.trans h2 fun _ _ h => h.elim
    · rcases hc with ⟨b, cs, h1, h2, _⟩ | ⟨h1, _⟩
      · rw [h2, ← h1]; exact ha1
      · refine .inr fun b hb => ?_
        rw [h1] at hb; cases hb; have := hE2.size; omega
  · have : m = 70 := by omega
    subst this
    exact hK _ _ hv1 hr1 hU1 ha1
end Go.Proofs.Ytlkmmplgfjicjaa
/-
  VerifyDepths: three lists, each its owner's.
-/
namespace Go.Proofs.Ytlkmmplgfjicjaa
set_option linter.unusedVariables false
set_option linter.unusedSimpArgs false
open Go.Proofs.Ytlkmmplgfjicjaa.Hc Go.Proofs.Ytlkmmplgfjicjaa.Hc.Vf
set_option maxRecDepth 100000
variable {H : Heap}

theorem row3 {b : Nat} {T : TypeId} {c : Nat → Sl} (h : Row H b T [slV (c 0), slV (c 1), slV (c 2)]) {j : Nat} (hj : j < 3) : hcell H ⟨b, j, none⟩ = some (slV (c j)) := by
  rw [h.cell]
  match j, hj with
  | 0, _ => rfl
  | 1, _ => rfl
  | 2, _ => rfl
theorem IxA_3 {b j : Nat} {k : Addr → Prop} (hj : j < 3) (hk : k ⟨b, j, none⟩) : IxA 1 ⟨some (adr b), 3, 3⟩ (j : Nat) k :=
  IxA_adr (by omega) (by omega) (by rw [Int.toNat_natCast, Nat.mul_one]; exact hk)
theorem Vec.updR {M : Nat → Prop} {H' : Heap} (hu : Upd M H H') {T : TypeId} {s : Sl} {vs : List Value} (h : Vec H T s vs) (hn : ∀ b, s.a = some (adr b) → ¬ M b) : Vec H' T s vs := h.upd hu hn
theorem owners {b6 b7 : Nat} {c w : Nat → Sl} {xs : Nat → List Int} (hb6 : Row H b6 T_Sl_int [slV (c 0), slV (c 1), slV (c 2)]) (hb7 : Row H b7 T_Sl_int [slV (w 0), slV (w 1), slV (w 2)])
    (hc : ∀ j, j < 3 → Vec H T_int (c j) (ints (xs j))) (hw : ∀ j, j < 3 → Vec H T_int (w j) (ints (xs j))) (hcc : ∀ i j, i < 3 → j < 3 → i ≠ j → ∀ b, (c i).a = some (adr b) → (c j).a ≠ some (adr b)) (hcw : ∀ i j, i < 3 → j < 3 → ∀ b, (c i).a = some (adr b) → (w j).a ≠ some (adr b))
    (hxl : ∀ j, (xs j).length ≤ 2000) {k : Bool → Heap → Prop} {K : Heap → Prop} (hK : ∀ H', Upd (fun b => ∃ j, j < 3 ∧ (c j).a = some (adr b)) H H' → K H') :
      LoopT (σ := Sl × Int) /- t35, t36 -/ (fun next1 s1 H29 =>
        Br (decide (s1.2 < 3)) (
          LoopT (σ := Int) /- t37 -/ (fun next2 s2 H30 =>
            Br (decide (s2 < 3)) (
              IxA 1 ⟨some (adr b6), 3, 3⟩ s2 fun a1 =>
              Ld .sl a1 H30 fun (x4 : Sl) =>
              IxA 1 ⟨some (adr b7), 3, 3⟩ s2 fun a2 =>
              Ld .sl a2 H30 fun (x5 : Sl) =>
              CallT Pg f_hindcastlaw15_same [.slice x4.a x4.len x4.cap, .slice x5.a x5.len x5.cap] (.one (.c .bool)) H30 fun (r14 : Bool) H31 =>
              Br (!r14) (
                k false H31) (
                Lt (IntKind.wrap .i64 (s2 + 1)) fun t1 =>
                next2 t1 H31)) (
              IxA 1 ⟨some (adr b6), 3, 3⟩ s1.2 fun a3 =>
              Ld .sl a3 H30 fun (x6 : Sl) =>
              LoopT (σ := Int) /- t40 -/ (fun next3 s3 H32 =>
                Br (decide (s3 < (x6.len : Int))) (
                  Lt (IntKind.wrap .i64 (1000 + s1.2)) fun t2 =>
                  IxA 1 x6 s3 fun a4 =>
                  St a4 (.int .i64 t2) H32 fun H33 =>
                  Lt (IntKind.wrap .i64 (s3 + 1)) fun t3 =>
                  next3 t3 H33) (
                  LoopT (σ := Sl × Int) /- t39, t41 -/ (fun next4 s4 H34 =>
                    Br (decide (s4.2 < 70)) (
                      Lt (IntKind.wrap .i64 (1000 + s1.2)) fun t4 =>
                      Nw #[.int .i64 t4] T_int H34 fun b8 H35 =>
                      App T_int 1 8 #[.int .i64 0] s4.1 ⟨some (adr b8), 1, 1⟩ H35 fun l1 H36 =>
                      Lt (IntKind.wrap .i64 (s4.2 + 1)) fun t5 =>
                      next4 (l1, t5) H36) (
                      Nw #[.slice s4.1.a s4.1.len s4.1.cap] T_Sl_int H34 fun b9 H37 =>
                      App T_Sl_int 1 24 #[.slice none 0 0] s1.1 ⟨some (adr b9), 1, 1⟩ H37 fun l2 H38 =>
                      Lt (IntKind.wrap .i64 (s1.2 + 1)) fun t6 =>
                      next1 (l2, t6) H38)) (x6, 0) H32)) 0 H30)) s1.2 H29) (
          LoopT (σ := Int) /- t42 -/ (fun next5 s5 H39 =>
            Br (decide (s5 < 3)) (
              LoopT (σ := Int) /- t43 -/ (fun next6 s6 H40 =>
                IxA 1 s1.1 s5 fun a5 =>
                Ld .sl a5 H40 fun (x7 : Sl) =>
                Br (decide (s6 < (x7.len : Int))) (
                  Jn (σ := Bool) /- t266 -/ (fun kk2 =>
                    IxA 1 s1.1 s5 fun a6 =>
                    Ld .sl a6 H40 fun (x8 : Sl) =>
                    IxA 1 x8 s6 fun a7 =>
                    Ld (.int .i64) a7 H40 fun (x9 : Int) =>
                    Lt (IntKind.wrap .i64 (1000 + s5)) fun t7 =>
                    Br (x9 != t7) (
                      kk2 true H40) (
                      IxA 1 ⟨some (adr b6), 3, 3⟩ s5 fun a8 =>
                      Ld .sl a8 H40 fun (x10 : Sl) =>
                      Br (decide (s6 < (x10.len : Int))) (
                        IxA 1 ⟨some (adr b6), 3, 3⟩ s5 fun a9 =>
                        Ld .sl a9 H40 fun (x11 : Sl) =>
                        IxA 1 x11 s6 fun a10 =>
                        Ld (.int .i64) a10 H40 fun (x12 : Int) =>
                        Lt (IntKind.wrap .i64 (1000 + s5)) fun t8 =>
                        kk2 (x12 != t8) H40) (
                        kk2 false H40))) fun j2 H41 =>
                  Br j2 (
                    k false H41) (
                    Lt (IntKind.wrap .i64 (s6 + 1)) fun t9 =>
                    next6 t9 H41)) (
                  Lt (IntKind.wrap .i64 (s5 + 1)) fun t10 =>
                  next5 t10 H40)) 0 H39) (K H39)) 0 H29)) (⟨none, 0, 0⟩, 0) H := by
  have hcH : ∀ j, j < 3 → ∀ b, (c j).a = some (adr b) → b < H.size := fun j hj b hb => (hc j hj).lt hb
  refine LoopT.mk (fun (st : Sl × Int) G => ∃ (n : Nat) (Ls : List Sl), st.2 = n ∧ n ≤ 3 ∧ Ls.length = n ∧ Upd (fun b => ∃ j, j < n ∧ (c j).a = some (adr b)) H G ∧ Vec G T_Sl_int st.1 (Ls.map slV) ∧ (∀ b, st.1.a = some (adr b) → H.size ≤ b) ∧
      ∀ j, j < n → Vec G T_int (Ls[j]!) (ints (List.replicate ((xs j).length + 70) (1000 + (j : Int)))) ∧ RL (Value.int .i64) G (c j) (List.replicate (xs j).length (1000 + (j : Int))) ∧ ∀ b, (Ls[j]!).a = some (adr b) → (c j).a = some (adr b) ∨ H.size ≤ b) (fun st _ => 3 - st.2.toNat)
    ⟨0, [], rfl, by omega, rfl, .refl _ _, Vec.nil _ _, (fun b hb => by cases hb), fun j hj => by omega⟩ ?_
  rintro next1 ⟨s1, _⟩ G ⟨n, Ls, rfl, hn, hLl, hU, hV, hVb, hL⟩ hnext1
  dsimp only at hV hVb ⊢
  have hMc : ∀ {n : Nat} {b : Nat} {T : TypeId} {ws : List Value}, n ≤ 3 → Row H b T ws → T ≠ T_int → ¬ ∃ j, j < n ∧ (c j).a = some (adr b) := fun hn hr hT ⟨j, hj, e⟩ => (hc j (by omega)).ne e hr hT.symm rfl
  have r6 : Row G b6 T_Sl_int [slV (c 0), slV (c 1), slV (c 2)] := hU.row hb6 (hMc hn hb6 (by decide))
  have r7 : Row G b7 T_Sl_int [slV (w 0), slV (w 1), slV (w 2)] := hU.row hb7 (hMc hn hb7 (by decide))
  have hzG := hU.size
  refine Br_dec (fun hlt => ?_) fun hge => ?_
  · have hn3 : n < 3 := by omega
    have hcG : ∀ j, n ≤ j → j < 3 → Vec G T_int (c j) (ints (xs j)) := fun j h1 h2 => (hc j h2).upd hU fun b hb ⟨i, hi, e⟩ => hcc i j (by omega) h2 (by omega) b e hb
    have hwG : ∀ j, j < 3 → Vec G T_int (w j) (ints (xs j)) := fun j h2 => (hw j h2).upd hU fun b hb ⟨i, hi, e⟩ => hcw i j (by omega) h2 b e hb
    refine LoopT.mk (fun (i : Int) G' => G = G' ∧ ∃ m : Nat, i = m ∧ n ≤ m ∧ m ≤ 3) (fun i _ => 3 - i.toNat) ⟨rfl, n, rfl, Nat.le_refl _, hn⟩ ?_
    rintro next2 _ _ ⟨rfl, m, rfl, hnm, hm⟩ hnext2
    refine Br_dec (fun hlt2 => ?_) fun hge2 => ?_
    · have hm3 : m < 3 := by omega
      refine IxA_3 hm3 (Ld_sl (s := c m) (row3 r6 hm3) (IxA_3 hm3 (Ld_sl (s := w m) (row3 r7 hm3) (s_same (hcG m hnm hm3).rl (hwG m hm3).rl (by have := hxl m; omega) ?_))))
      exact (Br_false _ _).2 (Lt.mk (u := ((m + 1 : Nat) : Int)) (by rw [wrap_i64_id] <;> omega) (hnext2 _ _ ⟨rfl, m + 1, rfl, by omega, hm3⟩ (by omega)))
    · refine IxA_3 hn3 (Ld_sl (s := c n) (row3 r6 hn3) ?_)
      have hxn := hxl n
      have hwq : IntKind.wrap .i64 (1000 + (n : Int)) = 1000 + (n : Int) := by rw [wrap_i64_id] <;> omega
      refine fill (hcG n (Nat.le_refl _) hn3) (by omega) hwq fun G1 hv1 hU1 hz1 => ?_
      refine more (K := fun s G2 => Nw #[.slice s.a s.len s.cap] T_Sl_int G2 fun b9 H37 =>
                      App T_Sl_int 1 24 #[.slice none 0 0] s1 ⟨some (adr b9), 1, 1⟩ H37 fun l2 H38 =>
                      Lt (IntKind.wrap .i64 ((n : Int) + 1)) fun t6 =>
                      next1 (l2, t6) H38) hwq hv1 (by omega) fun s G2 hv2 hr2 hU2 ha2 => ?_
      have hUG2 : Upd (fun b => (c n).a = some (adr b)) G G2 := hU1.trans hU2 fun _ _ h => h
      refine Nw_row (vs := [slV s]) fun b9 G3 hb9 hE3 z3 hr3 => ?_
      have hUG3 : Upd (fun b => (c n).a = some (adr b)) G G3 := hUG2.ext hE3
      have z2 := hUG2.size
      have hV3 : Vec G3 T_Sl_int s1 (Ls.map slV) := hV.upd hUG3 fun b hb e => by have := hVb b hb; have := hcH n hn3 b e; omega
      have hsl := hV3.len
      rw [List.length_map, hLl] at hsl
      refine App_vec2 (ws := [slV s]) hV3 (Row.rd_all hr3) rfl (by simp [Value.oneCell']) (by omega) (by simp only [List.length_map, List.length_singleton]; omega) fun l2 G4 hv4 hU4 ha4 hz4 => ?_
      have hM4 : ∀ b T ws, Row G3 b T ws → T ≠ T_Sl_int → ¬ (s1.a = some (adr b) ∧ s1.len + 1 ≤ s1.cap ∧ [slV s] ≠ []) := fun b T ws hr hT e => hV3.ne e.1 hr hT.symm rfl
      have keep : ∀ {x : Sl} {ys : List Int}, Vec G T_int x (ints ys) → (∀ b, x.a = some (adr b) → (c n).a ≠ some (adr b)) → Vec G4 T_int x (ints ys) := fun h h1 => Vec.updT hU4 (h.upd hUG3 fun b hb e => h1 b hb e) fun b ws hr => hM4 b _ ws hr (by decide)
      have hUn : Upd (fun b => ∃ j, j < n + 1 ∧ (c j).a = some (adr b)) H G4 := by
        refine ((hU.mono fun b _ ⟨j, hj, e⟩ => ⟨j, by omega, e⟩).trans hUG3 fun b _ e => ⟨n, by omega, e⟩).trans hU4 fun b hb e => ?_
        have := hVb b e.1; omega
      have hcn : ∀ j, j < 3 → ∀ {ys : List Int}, RL (Value.int .i64) G3 (c j) ys → RL (Value.int .i64) G4 (c j) ys := fun j hj ys h => h.upd' hU4 fun _ a ha e => by
        have hv := hc j hj
        rcases hv.own with ⟨g, _⟩ | ⟨b, sp, g1, g2, _⟩
        · rw [g] at ha; cases ha
        · rw [g1] at ha; cases ha
          have h1 : s1.a = some (adr b) := e.1
          have := hVb b h1
          have := g2.lt; omega
      have hget : ∀ j, j < n → (Ls ++ [s])[j]! = Ls[j]! := fun j hj => by
        rw [getElem!_pos _ j (by simp; omega), List.getElem_append_left (by omega), getElem!_pos Ls j (by omega)]
      have hgetn : (Ls ++ [s])[n]! = s := by
        rw [getElem!_pos _ n (by simp; omega)]
        simp [← hLl]
      refine Lt.mk (u := ((n + 1 : Nat) : Int)) (by rw [wrap_i64_id] <;> omega) (hnext1 _ _ ⟨n + 1, Ls ++ [s], rfl, hn3, by simp; omega, hUn, by simpa using hv4, fun b hb => ?_, fun j hj => ?_⟩ (by dsimp only; omega))
      · rcases ha4 with ⟨g, _⟩ | g
        · rw [g] at hb; exact hVb b hb
        · rw [g] at hb; cases hb; omega
      · rcases Nat.lt_or_ge j n with g | g
        · rw [hget j g]
          obtain ⟨k1, k2, k3⟩ := hL j g
          refine ⟨keep k1 fun b hb e => ?_, hcn j (by omega) (k2.upd' hUG3 fun _ a ha e => ?_), k3⟩
          · rcases k3 b hb with h | h
            · exact hcc j n (by omega) hn3 (by omega) b h e
            · have := hcH n hn3 b e; omega
          · have hv := hc j (by omega)
            rcases hv.own with ⟨g', _⟩ | ⟨b, sp, g1, g2, _⟩
            · rw [g'] at ha; cases ha
            · rw [g1] at ha; cases ha
              exact hcc j n (by omega) hn3 (by omega) b g1 e
        · have : j = n := by omega
          subst this
          rw [hgetn]
          refine ⟨Vec.updT hU4 (hv2.ext hE3) fun b ws hr => hM4 b _ ws hr (by decide), hcn j hn3 (hr2.ext hE3), fun b hb => ?_⟩
          rcases ha2 with h | h
          · rw [h] at hb; exact .inl hb
          · have := h b hb; exact .inr (by omega)
  · have hn3 : n = 3 := by omega
    subst hn3
    have hsl := hV.len
    rw [List.length_map, hLl] at hsl
    have hel : ∀ {j : Nat} {kk : Sl → Prop}, j < 3 → kk (Ls[j]!) → IxA 1 s1 (j : Int) fun a => Ld .sl a G fun x => kk x := fun {j kk} hj hk =>
      IxA_vec hV (by omega) (by rw [List.length_map]; omega) fun a ha _ => Ld_sl (s := Ls[j]!) (by rw [ha, Int.toNat_natCast, List.getElem?_map, List.getElem?_eq_getElem (by omega), getElem!_pos Ls j (by omega)]; rfl) hk
    refine LoopT.mk (fun (i : Int) G' => G = G' ∧ ∃ m : Nat, i = m ∧ m ≤ 3) (fun i _ => 3 - i.toNat) ⟨rfl, 0, rfl, by omega⟩ ?_
    rintro next5 _ _ ⟨rfl, m, rfl, hm⟩ hnext5
    refine Br_dec (fun hlt2 => ?_) fun hge2 => hK _ hU
    have hm3 : m < 3 := by omega
    obtain ⟨k1, k2, _⟩ := hL m hm3
    have k1l := k1.len
    have k2l := k2.len
    simp only [List.length_map, List.length_replicate] at k1l k2l
    have hxm := hxl m
    have hwq : IntKind.wrap .i64 (1000 + (m : Int)) = 1000 + (m : Int) := by rw [wrap_i64_id] <;> omega
    refine LoopT.mk (fun (i : Int) G' => G = G' ∧ ∃ q : Nat, i = q ∧ q ≤ (xs m).length + 70) (fun i _ => (xs m).length + 70 - i.toNat) ⟨rfl, 0, rfl, by omega⟩ ?_
    rintro next6 _ _ ⟨rfl, q, rfl, hq⟩ hnext6
    refine hel hm3 (Br_dec (fun hlt3 => ?_) fun hge3 => ?_)
    · have hq3 : q < (xs m).length + 70 := by omega
      refine Jn.mk (fun j G' => G = G' ∧ j = false) (fun kk hkk => hel hm3 (IxA_vec k1 (by omega) (by simp; omega) fun a7 ha7 _ => Ld_int (n := 1000 + (m : Int)) ?_ (Lt.mk hwq ?_))) ?_
      · rw [ha7, Int.toNat_natCast, List.getElem?_map, List.getElem?_replicate, if_pos hq3]; rfl
      · rw [show (1000 + (m : Int) != 1000 + (m : Int)) = false by simp]
        refine (Br_false _ _).2 (IxA_3 hm3 (Ld_sl (s := c m) (row3 r6 hm3) (Br_dec (fun h => ?_) fun _ => hkk _ _ ⟨rfl, rfl⟩)))
        refine IxA_3 hm3 (Ld_sl (s := c m) (row3 r6 hm3) (IxA_rl k2 rfl (by rw [List.length_replicate]; omega) fun a10 ha10 => Ld_int (n := 1000 + (m : Int)) (by rw [ha10, List.getElem_replicate]) (Lt.mk hwq (hkk _ _ ⟨rfl, by simp⟩))))
      rintro _ _ ⟨rfl, rfl⟩
      exact (Br_false _ _).2 (Lt.mk (u := ((q + 1 : Nat) : Int)) (by rw [wrap_i64_id] <;> omega) (hnext6 _ _ ⟨rfl, q + 1, rfl, hq3⟩ (by omega)))
    · exact Lt.mk (u := ((m + 1 : Nat) : Int)) (by rw [wrap_i64_id] <;> omega) (hnext5 _ _ ⟨rfl, m + 1, rfl, hm3⟩ (by omega))
end Go.Proofs.Ytlkmmplgfjicjaa
/-
  VerifyDepths, walked.
-/
namespace Go.Proofs.Ytlkmmplgfjicjaa
set_option linter.unusedVariables false
set_option linter.unusedSimpArgs false
open Go.Proofs.Ytlkmmplgfjicjaa.Hc Go.Proofs.Ytlkmmplgfjicjaa.Hc.Vf
set_option maxRecDepth 100000
variable {H : Heap}

theorem PrgI.ext {H' : Heap} (hE : Ext H H') {p : Sl × Sl} {ss : List Sy} {fs : List Rou} (h : PrgI H p ss fs) : PrgI H' p ss fs := by
  refine ⟨h.sys.ext hE, fun x hx => ?_, h.fun'.ext hE, fun r hr => ?_, h.sl, h.fl⟩
  · have h := h.sysR x hx
    exact ⟨fun q hq => (h.sets q hq).ext hE, h.lens, h.ints, ⟨h.rou.code.ext hE, h.rou.len, h.rou.par, h.rou.loc, h.rou.ins, h.rou.name⟩⟩
  · have h := h.funR r hr
    exact ⟨h.code.ext hE, h.len, h.par, h.loc, h.ins, h.name⟩
def pick3 {α : Type} (a b c : α) (q : Nat) : α := if q = 0 then a else if q = 1 then b else c
abbrev lcode (r : Rou) (s : Sl) : Rou := ⟨r.name, r.params, r.locals, s, r.code⟩
theorem s_VerifyDepths {p : Sl × Sl} {ss : List Sy} {fs : List Rou} (hP : PrgI H p ss fs) {r s : Rou} (hr : RouI H r) (hs : RouI H s) {k : Bool → Heap → Prop} (hk : ∀ H', Ext H H' → k true H') :
    CallT Pg f_hindcastlaw15_VerifyDepths [prgA p, rouA r, rouA s] (.one (.c .bool)) H k := by
  refine c_hindcastlaw15_VerifyDepths p (r.name, r.params, r.locals, r.sl) (s.name, s.params, s.locals, s.sl) ?_
  unfold v_hindcastlaw15_VerifyDepths
  refine Nw_row (vs := [slV p.1, slV p.2]) fun b1 H1 hb1 hE1 _ hr1 => Nw_row (vs := rouV r) fun b2 H2 hb2 hE2 _ hr2 => Nw_row (vs := rouV s) fun b3 H3 hb3 hE3 _ hr3 => s_shown fun H4 hE4 => ?_
  have hE4' := ((hE1.trans hE2 fun _ _ h => h).trans hE3 fun _ _ h => h).trans hE4 fun _ _ h => h
  have g1 : Row H4 b1 T_api_Program [slV p.1, slV p.2] := hE4.row (hE3.row (hE2.row hr1 fun h => h) fun h => h) fun h => h
  have g2 : Row H4 b2 T_api_Routine (rouV r) := hE4.row (hE3.row hr2 fun h => h) fun h => h
  have g3 : Row H4 b3 T_api_Routine (rouV s) := hE4.row hr3 fun h => h
  refine ⟨p, g1.rd_all, s_lent (hP.ext hE4') fun q ss' fs' yb fb H5 hE5 hL5 hlo5 he1 he2 => prog_copy (p := q) fun b4 H8 hb4 hE8 g4 => ?_⟩
  have hE8a : Ext H4 H8 := hE5.trans hE8 fun _ _ h => h
  have hsim : SimP ss ss' fs fs' := ⟨(map_via (f := eraS) (fun e => (e.1, e.2.2)) he1).symm, (map_via (f := eraR) (fun e => e.2) he2).symm⟩
  obtain ⟨hle1, hle2⟩ := lens_of hsim hP
  have hpar := hsim.par
  have hI : ∀ x ∈ parms fs', I64 x := hpar ▸ hP.par
  have g28 := hE8a.row g2 fun h => h
  simp only [adr_add]
  refine ld_rou (r := r) g28.rd_all (rou_copy (x := r) fun b5 H13 hb5 hE13 g5 => ?_)
  have hE13a : Ext H4 H13 := hE8a.trans hE13 fun _ _ h => h
  have hrx : ∀ {Hx}, Ext H4 Hx → CodeR Hx r := fun hE => hr.code.ext (hE4'.trans hE fun _ _ h => h)
  have hsx : ∀ {Hx}, Ext H4 Hx → CodeR Hx s := fun hE => hs.code.ext (hE4'.trans hE fun _ _ h => h)
  refine Ld_sl (s := r.sl) ((hE13a.row g2 fun h => h).cell 3 |>.trans rfl) (s_lrow (hrx hE13a) hr.len fun xs H14 hE14 hX14 hXlo => ?_)
  have g514 := hE14.row g5 fun h => h
  refine St_row g514 (by simp) fun H15 hU15 z15 g515 => ?_
  let x : Rou := lcode r xs
  have g515 : Row H15 b5 T_api_Routine (rouV x) := g515
  have z4 := hE4'.size
  have z8 := hE8a.size
  have z13 := hE13.size
  have z14 := hE14.size
  have hE15a : Ext H4 H15 := (hE13a.trans hE14 fun _ _ h => h).trans hU15 fun b hb e => by omega
  have hE15q : Ext H8 H15 := (hE13.trans hE14 fun _ _ h => h).trans hU15 fun b hb e => by omega
  have hX15 : LRow H15 xs r.code := hX14.updT hU15 fun b ws hw => hw.ne g514 (by decide)
  have hLx : ∀ {Hx}, Ext H15 Hx → LentP Hx q ss' fs' yb fb := fun hE => hL5.ext ((hE8.trans hE15q fun _ _ h => h).trans hE fun _ _ h => h)
  have hqR : ∀ {Hx}, Ext H15 Hx → PrgR Hx q ss' fs' := fun hE => (hLx hE).prg hle1 hle2
  have k4 : ∀ {Hx}, Ext H15 Hx → hcells Hx (adr b4) 0 [slV q.1, slV q.2] := fun hE => ((hE15q.trans hE fun _ _ h => h).row g4 fun h => h).rd_all
  have k1 : ∀ {Hx}, Ext H15 Hx → hcells Hx (adr b1) 0 [slV p.1, slV p.2] := fun hE => ((hE15a.trans hE fun _ _ h => h).row g1 fun h => h).rd_all
  have k2 : ∀ {Hx}, Ext H15 Hx → Row Hx b2 T_api_Routine (rouV r) := fun hE => (hE15a.trans hE fun _ _ h => h).row g2 fun h => h
  have k3 : ∀ {Hx}, Ext H15 Hx → hcells Hx (adr b3) 0 (rouV s) := fun hE => ((hE15a.trans hE fun _ _ h => h).row g3 fun h => h).rd_all
  have k5 : ∀ {Hx}, Ext H15 Hx → Row Hx b5 T_api_Routine (rouV x) := fun hE => hE.row g515 fun h => h
  have kP : ∀ {Hx}, Ext H15 Hx → PrgR Hx p ss fs := fun hE => hP.prg.ext ((hE4'.trans hE15a fun _ _ h => h).trans hE fun _ _ h => h)
  have e0 : Ext H15 H15 := .refl _ _
  have hxR : ∀ {Hx}, Ext H15 Hx → CodeR Hx x := fun hE => (hX15.ext hE).rn
  refine ⟨q, k4 e0, ld_rou (r := x) (k5 e0).rd_all (s_Depths (r := x) (hxR e0) (hqR e0).fun' hI fun A H16 hE16 hA => ?_)⟩
  refine ⟨q, k4 hE16, ld_rou (r := s) (k3 hE16) (s_Depths (r := s) (hsx (hE15a.trans hE16 fun _ _ h => h)) (hqR hE16).fun' hI fun B H17 hE17 hB => ?_)⟩
  have hE17' := hE16.trans hE17 fun _ _ h => h
  refine ⟨q, k4 hE17', ld_rou (r := x) (k5 hE17').rd_all (s_Depths (r := x) (hxR hE17') (hqR hE17').fun' hI fun C H18 hE18 hC => ?_)⟩
  have hE18' := hE17'.trans hE18 fun _ _ h => h
  refine ⟨q, k4 hE18', p, k1 hE18', s_still (hLx hE18') (hP.ext ((hE4'.trans hE15a fun _ _ h => h).trans hE18' fun _ _ h => h)) he1 he2 fun H19 hE19 => ?_⟩
  have hE19' := hE18'.trans hE19 fun _ _ h => h
  refine Ld_sl (s := xs) (((k5 hE19').cell 3).trans rfl) (Ld_sl (s := r.sl) (((k2 hE19').cell 3).trans rfl) (s_sameRow (hX15.ext hE19') (hrx (hE15a.trans hE19' fun _ _ h => h)) (by have := hr.len; omega) fun H20 hE20 => ?_))
  have hE20' := hE19'.trans hE20 fun _ _ h => h
  refine ⟨p, k1 hE20', ld_rou (r := r) (k2 hE20').rd_all (s_rDepths (p := p) (r := r) (hrx (hE15a.trans hE20' fun _ _ h => h)) (kP hE20').fun' hP.par fun U H21 hE21 hUr hUlo => ?_)⟩
  have hE21' := hE20'.trans hE21 fun _ _ h => h
  refine ⟨p, k1 hE21', ld_rou (r := s) (k3 hE21') (s_rDepths (p := p) (r := s) (hsx (hE15a.trans hE21' fun _ _ h => h)) (kP hE21').fun' hP.par fun V H22 hE22 hVr hVlo => ?_)⟩
  have hE22' := hE21'.trans hE22 fun _ _ h => h
  rw [← hpar] at hA hB hC
  obtain ⟨a1, a2, a3⟩ := dep_out hA
  obtain ⟨c1, c2, c3⟩ := dep_out hB
  obtain ⟨d1, d2, d3⟩ := dep_out hC
  obtain ⟨u1, u2⟩ := dep_ref hUr
  obtain ⟨v1, v2⟩ := dep_ref hVr
  have x16 : Ext H16 H22 := (((((hE17.trans hE18 fun _ _ h => h).trans hE19 fun _ _ h => h).trans hE20 fun _ _ h => h).trans hE21 fun _ _ h => h).trans hE22 fun _ _ h => h)
  have x17 : Ext H17 H22 := ((((hE18.trans hE19 fun _ _ h => h).trans hE20 fun _ _ h => h).trans hE21 fun _ _ h => h).trans hE22 fun _ _ h => h)
  have x18 : Ext H18 H22 := (((hE19.trans hE20 fun _ _ h => h).trans hE21 fun _ _ h => h).trans hE22 fun _ _ h => h)
  refine s_lfault (a1.ext x16) (s_lfault (c1.ext x17) (s_lfault (d1.ext x18) ?_))
  have tr : (foI (depO r.code (parms fs))).2.2 = true := foI_true fun a e h => depO_ne h
  have ts : (foI (depO s.code (parms fs))).2.2 = true := foI_true fun a e h => depO_ne h
  have U1 : U.2.1 = (foI (depO r.code (parms fs))).1 := by rw [u1]
  have U2 : U.2.2 = (foI (depO r.code (parms fs))).2.1 := by rw [u1]
  have V1 : V.2.1 = (foI (depO s.code (parms fs))).1 := by rw [v1]
  have V2 : V.2.2 = (foI (depO s.code (parms fs))).2.1 := by rw [v1]
  have bs : ∀ z : Int, (z != z) = false := fun z => by simp
  refine Jn.mk (fun j H' => H22 = H' ∧ j = false) (fun kk hkk => ?_) ?_
  · iterate 3 refine (Br_false _ _).2 ?_
    show Br (!(foI (depO r.code (parms fs))).2.2) _ _
    rw [tr, ts, U1, U2, V1, V2]
    have bx : (foI (depO x.code (parms fs))) = foI (depO r.code (parms fs)) := rfl
    rw [bx]
    simp only [bs]
    iterate 3 refine (Br_false _ _).2 ?_
    iterate 5 refine (Br_false _ _).2 ?_
    exact hkk _ _ ⟨rfl, rfl⟩
  rintro _ _ ⟨rfl, rfl⟩
  refine (Br_false _ _).2 ?_
  let cS : Nat → Sl := pick3 A.1 B.1 C.1
  let wS : Nat → Sl := pick3 U.1 V.1 U.1
  let xS : Nat → List Int := pick3 (depX r.code (parms fs)) (depX s.code (parms fs)) (depX r.code (parms fs))
  refine Nw_row (vs := [slV (cS 0), slV (cS 1), slV (cS 2)]) fun b6 H27 hb6 hE27 _ hr6 => Nw_row (vs := [slV (wS 0), slV (wS 1), slV (wS 2)]) fun b7 H28 hb7 hE28 _ hr7 => ?_
  have hE28' : Ext H22 H28 := hE27.trans hE28 fun _ _ h => h
  have t0 : ∀ {P : Nat → Prop}, P 0 → P 1 → P 2 → ∀ j, j < 3 → P j := fun h0 h1 h2 j hj => by
    match j, hj with
    | 0, _ => exact h0
    | 1, _ => exact h1
    | 2, _ => exact h2
  have va : Vec H28 T_int A.1 (ints (depX r.code (parms fs))) := (a2.ext x16).ext hE28'
  have vc : Vec H28 T_int B.1 (ints (depX s.code (parms fs))) := (c2.ext x17).ext hE28'
  have vd : Vec H28 T_int C.1 (ints (depX r.code (parms fs))) := (d2.ext x18).ext hE28'
  have vu : Vec H28 T_int U.1 (ints (depX r.code (parms fs))) := (u2.ext hE22).ext hE28'
  have vv : Vec H28 T_int V.1 (ints (depX s.code (parms fs))) := v2.ext hE28'
  have la : ∀ b, A.1.a = some (adr b) → H15.size ≤ b ∧ b < H16.size := fun b hb => ⟨a3 b hb, a2.lt hb⟩
  have lc : ∀ b, B.1.a = some (adr b) → H16.size ≤ b ∧ b < H17.size := fun b hb => ⟨c3 b hb, c2.lt hb⟩
  have ld : ∀ b, C.1.a = some (adr b) → H17.size ≤ b ∧ b < H18.size := fun b hb => ⟨d3 b hb, d2.lt hb⟩
  have z16 := hE16.size
  have z17 := hE17.size
  have z18 := hE18.size
  have z19 := hE19.size
  have z20 := hE20.size
  have z21 := hE21.size
  have z22 := hE22.size
  have lcs : ∀ j, j < 3 → ∀ b, (cS j).a = some (adr b) → H15.size ≤ b ∧ b < H18.size := t0 (fun b hb => by have := la b hb; omega) (fun b hb => by have := lc b hb; omega) fun b hb => by have := ld b hb; omega
  have lws : ∀ j, j < 3 → ∀ b, (wS j).a = some (adr b) → H20.size ≤ b := t0 (fun b hb => hUlo b hb) (fun b hb => by have := hVlo b hb; omega) fun b hb => hUlo b hb
  refine owners (c := cS) (w := wS) (xs := xS) (hE28.row hr6 fun h => h) hr7 (t0 va vc vd) (t0 vu vv vu) ?_ ?_ (fun j => ?_) fun H39 hU39 => ?_
  · intro i j hi hj hne b h1 h2
    have hh : ∀ i, i < 3 → ∀ b, (cS i).a = some (adr b) → (i = 0 ∧ H15.size ≤ b ∧ b < H16.size) ∨ (i = 1 ∧ H16.size ≤ b ∧ b < H17.size) ∨ (i = 2 ∧ H17.size ≤ b ∧ b < H18.size) :=
      t0 (fun b hb => .inl ⟨rfl, la b hb⟩) (fun b hb => .inr (.inl ⟨rfl, lc b hb⟩)) fun b hb => .inr (.inr ⟨rfl, ld b hb⟩)
    have e1 := hh i hi b h1
    have e2 := hh j hj b h2
    omega
  · intro i j hi hj b h1 h2
    have e1 := lcs i hi b h1
    have e2 := lws j hj b h2
    omega
  · show (pick3 (α := List Int) _ _ _ j).length ≤ 2000
    unfold pick3
    split
    · exact depX_len _ _
    · split <;> exact depX_len _ _
  have hE39 : Ext H15 H39 := ((hE22'.trans hE28' fun _ _ h => h)).trans hU39 fun b hb ⟨j, hj, e⟩ => by have := lcs j hj b e; omega
  have hE39h : Ext H H39 := (hE4'.trans hE15a fun _ _ h => h).trans hE39 fun _ _ h => h
  refine ⟨q, k4 hE39, ld_rou (r := x) (k5 hE39).rd_all (s_Depths (r := x) (hxR hE39) (hqR hE39).fun' hI fun D H42 hE42 hD => ?_)⟩
  rw [← hpar] at hD
  obtain ⟨_, f2, _⟩ := dep_out hD
  have hE42' := hE39.trans hE42 fun _ _ h => h
  have hE42h := hE39h.trans hE42 fun _ _ h => h
  have vu42 : Vec H42 T_int U.1 (ints (depX r.code (parms fs))) := (vu.upd hU39 fun b hb ⟨j, hj, e⟩ => by have := lcs j hj b e; have := hUlo b hb; omega).ext hE42
  have hxl := (hX15.ext hE42').rn.len
  have c5 : ∀ {Hx}, Row Hx b5 T_api_Routine (rouV x) → hcell Hx ⟨b5, 3, none⟩ = some (slV xs) := fun h => (h.cell 3).trans rfl
  have hdl := depX_len r.code (parms fs)
  refine Jn.mk (fun j H' => H42 = H' ∧ (j = false → 0 < r.code.length)) (fun kk hkk => ?_) ?_
  · refine Ld_sl (s := xs) (c5 (k5 hE42')) (Br.mk (fun h => hkk _ _ ⟨rfl, fun h => by cases h⟩) fun h => ?_)
    have h := bneI h
    exact s_same f2.rl vu42.rl (Nat.le_trans hdl (by decide)) (hkk _ _ ⟨rfl, fun _ => by omega⟩)
  rintro j _ ⟨rfl, hj⟩
  refine Br.mk (fun _ => s_same f2.rl vu42.rl (Nat.le_trans hdl (by decide)) (hk _ hE42h)) fun hjf => ?_
  have hpos := hj hjf
  have hrl := hr.len
  have g542 := k5 hE42'
  refine Ld_sl (s := xs) (c5 g542) (Ld_sl (s := xs) (c5 g542) (Lt.mk (u := ((r.code.length - 1 : Nat) : Int)) (by rw [wrap_i64_id] <;> omega) (Ld_sl (s := xs) (c5 g542) ⟨by omega, ?_⟩)))
  have hq2 : IntKind.wrap .i64 ((xs.len : Int).tdiv 2) = ((r.code.length / 2 : Nat) : Int) := by
    rw [hxl, show ((r.code.length : Int)).tdiv 2 = ((r.code.length / 2 : Nat) : Int) by rw [Int.tdiv_eq_ediv_of_nonneg (by omega)]; omega, wrap_i64_id] <;> omega
  rw [hq2]
  have hX42 := hX15.ext hE42'
  let c' : List Ins := r.code.set (r.code.length - 1) ((19 : Int), ((r.code.length / 2 : Nat) : Int))
  obtain ⟨bx, hbx⟩ : ∃ b, xs.a = some (adr b) := by
    rcases hX42.vec.own with ⟨g1, g2, g3⟩ | ⟨b, sp, g1, g2, g3⟩
    · have := congrArg List.length g3
      rw [flat_len insV_len] at this; simp at this
    · exact ⟨b, g1⟩
  have hbxlo := hXlo bx hbx
  refine IxA.mk hbx (by omega) (by omega) ?_
  rw [Int.toNat_natCast, adr_add]
  simp only [mk_add, Nat.add_zero]
  have hm0 : (r.code.length - 1) * 2 < ((r.code ++ List.replicate 8 ((77, 0) : Ins)).flatMap insV).length := by rw [flat_len insV_len]; simp; omega
  refine St_vecN hX42.vec hbx hm0 fun H46 hv46 hU46 z46 => ?_
  refine St_vecN (m := (r.code.length - 1) * 2 + 1) hv46 hbx (by rw [List.length_set, flat_len insV_len]; simp; omega) fun H47 hv47 hU47 z47 => ?_
  have hUx : Upd (· = bx) H42 H47 := hU46.trans hU47 fun _ _ h => h
  have hE8x : Ext H8 H47 := (hE15q.trans hE42' fun b hb h => h).trans hUx fun b hb e => by omega
  have hE4x : Ext H4 H47 := hE8a.trans hE8x fun _ _ h => h
  have hEHx : Ext H H47 := hE4'.trans hE4x fun _ _ h => h
  have hcd : (((r.code ++ List.replicate 8 ((77, 0) : Ins)).flatMap insV).set ((r.code.length - 1) * 2) (.int .i64 19)).set ((r.code.length - 1) * 2 + 1) (.int .i64 ((r.code.length / 2 : Nat) : Int)) = (c' ++ List.replicate 8 ((77, 0) : Ins)).flatMap insV := by
    have h1 := flat_set insV_len (e' := ((19 : Int), ((r.code ++ List.replicate 8 ((77, 0) : Ins))[r.code.length - 1]'(by simp; omega)).2)) (o := 0) (v := .int .i64 19) (es := r.code ++ List.replicate 8 ((77, 0) : Ins)) (i := r.code.length - 1) (by simp; omega) (by omega) rfl
    rw [Nat.add_zero] at h1
    rw [h1]
    have h2 := flat_set insV_len (e' := ((19 : Int), ((r.code.length / 2 : Nat) : Int))) (o := 1) (v := .int .i64 ((r.code.length / 2 : Nat) : Int)) (es := (r.code ++ List.replicate 8 ((77, 0) : Ins)).set (r.code.length - 1) ((19 : Int), ((r.code ++ List.replicate 8 ((77, 0) : Ins))[r.code.length - 1]'(by simp; omega)).2)) (i := r.code.length - 1) (by simp; omega) (by omega) (by rw [List.getElem_set_self]; rfl)
    rw [h2, List.set_set, List.set_append_left _ _ (by omega)]
  rw [hcd] at hv47
  have hcl : c'.length = r.code.length := List.length_set
  have hX47 : LRow H47 xs c' := ⟨by rw [hcl]; exact hv47, by rw [hcl]; exact hX42.len⟩
  have g547 : Row H47 b5 T_api_Routine (rouV x) := hUx.row g542 fun e => by
    obtain ⟨ws, hw⟩ := VecN.row hX42.vec hbx
    exact g542.ne hw (by decide) e
  refine Ld_sl (s := xs) (c5 g547) ?_
  have hone : ∀ (c : List Ins), ∀ w ∈ c.flatMap insV, w.oneCell' = true := fun c w hw => by
    obtain ⟨i, _, hi⟩ := List.mem_flatMap.1 hw
    simp only [List.mem_cons, List.not_mem_nil, or_false] at hi
    rcases hi with rfl | rfl <;> rfl
  refine App_vecN (n := 2) rfl (by omega) (VecN.nil H47 T_api_Instr 2) (ws := c'.flatMap insV) hX47.rn.rd (by rw [flat_len insV_len, hX47.len]) (hone c') (by omega) (by have := hX47.len; simp only; omega) fun l3 H48 hv48 hl48 hU48 ha48 => ?_
  have hE48 : Ext H47 H48 := hU48.mono fun b _ e => by cases e.1
  have hE48x := hE8x.trans hE48 fun _ _ h => h
  have hL48 : LentP H48 q ss' fs' yb fb := hL5.ext (hE8.trans hE48x fun _ _ h => h)
  let x' : Rou := ⟨r.name, r.params, r.locals, xs, c'⟩
  have g548 : Row H48 b5 T_api_Routine (rouV x') := hE48.row g547 fun h => h
  refine ⟨q, (hE48x.row g4 fun h => h).rd_all, ld_rou (r := x') g548.rd_all (s_Depths (r := x') (hX47.rn.ext hE48) (hL48.prg hle1 hle2).fun' hI fun Y H49 hE49 hY => ?_)⟩
  rw [← hpar] at hY
  obtain ⟨y1, y2, _⟩ := dep_out hY
  have hE49x := hE48x.trans hE49 fun _ _ h => h
  refine ld_rou (r := r) (hE49x.row g28 fun h => h).rd_all (rou_copy (x := r) fun b10 H54 hb10 hE54 g10 => ?_)
  refine St_row g10 (by simp) fun H55 hU55 z55 g1055 => ?_
  let zr : Rou := ⟨r.name, r.params, r.locals, l3, c'⟩
  have g1055 : Row H55 b10 T_api_Routine (rouV zr) := g1055
  have hE55 : Ext H49 H55 := extUpd hE54 (by omega) hU55
  have hE55x := hE49x.trans hE55 fun _ _ h => h
  have hE55h : Ext H H55 := (hE4'.trans hE8a fun _ _ h => h).trans hE55x fun _ _ h => h
  have hz : CodeR H55 zr := by
    have h1 : RN insV 2 H48 l3 c' := VecN.rn insV_len (by omega) (by simpa using hv48)
    exact (h1.ext hE49).ext hE55
  have hp55 : hcells H55 (adr b1) 0 [slV p.1, slV p.2] := ((hE8a.trans hE55x fun _ _ h => h).row g1 fun h => h).rd_all
  refine ⟨p, hp55, ld_rou (r := zr) g1055.rd_all (s_rDepths (p := p) (r := zr) hz (hP.prg.ext hE55h).fun' hP.par fun W H56 hE56 hWr _ => ?_)⟩
  obtain ⟨w1, w2⟩ := dep_ref hWr
  have hE56' := hE55.trans hE56 fun _ _ h => h
  refine s_lfault (y1.ext hE56') (Jn_in ?_)
  have hdl' := depX_len c' (parms fs)
  have W1 : W.2.1 = (foI (depO x'.code (parms fs))).1 := by rw [w1]
  have W2 : W.2.2 = (foI (depO x'.code (parms fs))).2.1 := by rw [w1]
  rw [foI_true fun a e h => depO_ne h, W1, W2]
  refine (Br_true _ _).2 ?_
  rw [show ((foI (depO x'.code (parms fs))).1 == (foI (depO x'.code (parms fs))).1) = true by simp, show ((foI (depO x'.code (parms fs))).2.1 == (foI (depO x'.code (parms fs))).2.1) = true by simp]
  refine (Br_true _ _).2 ((Br_true _ _).2 (s_same (y2.ext hE56').rl w2.rl (Nat.le_trans hdl' (by decide)) (hk _ (hE55h.trans hE56 fun _ _ h => h))))
end Go.Proofs.Ytlkmmplgfjicjaa
/-
  VerifyDepths over any arguments that can be read.
-/
namespace Go.Proofs.Ytlkmmplgfjicjaa
set_option linter.unusedVariables false
set_option linter.unusedSimpArgs false
open Go.Proofs.Ytlkmmplgfjicjaa.Hc Go.Proofs.Ytlkmmplgfjicjaa.Hc.Vf
set_option maxRecDepth 100000

theorem rd_rou {H : Heap} {v : Value} (h : RdV Try.prog H 28 v) : ∃ r : Rou, v = rouA r ∧ RouI H r := by
  obtain ⟨f, cs, rfl, hr⟩ := rd_struct Try.underlying28 h
  obtain ⟨r, rfl, hi⟩ := rdC_rou hr
  exact ⟨r, rfl, hi⟩
theorem w_VerifyDepths {H : Heap} (v0 v1 v2 : Value) (r0 : RdV Try.prog H 25 v0) (r1 : RdV Try.prog H 28 v1) (r2 : RdV Try.prog H 28 v2) :
    CallT Try.prog 3 [v0, v1, v2] (.one (.c .bool)) H (fun b H' => b = true ∧ Ext H H') := by
  obtain ⟨p, ss, fs, rfl, hP⟩ := rd_prog r0
  obtain ⟨r, rfl, hr⟩ := rd_rou r1
  obtain ⟨s, rfl, hs⟩ := rd_rou r2
  exact s_VerifyDepths hP hr hs fun H' h => ⟨rfl, h⟩
end Go.Proofs.Ytlkmmplgfjicjaa
