/-
  Machine: the values that were written.
-/
import Derived.Test.YtfpmgpblhhcpgaaGreatHcCompact
import Derived.Test.YtfpmgpblhhcpgaaGreatHcLawB
import Derived.Sort.EveryDepth
import Derived.Test.YtfpmgpblhhcpgaaGreatVRef
namespace Go.Proofs.YtfpmgpblhhcpgaaGreat
set_option linter.unusedVariables false
set_option linter.unusedSimpArgs false
open Go.Proofs.YtfpmgpblhhcpgaaGreat.Hc Go.Proofs.YtfpmgpblhhcpgaaGreat.Hc.Vf Go.Proofs.YtfpmgpblhhcpgaaGreat.Hc.Mc Go.Proofs.YtfpmgpblhhcpgaaGreat.Hc.Dice
set_option maxRecDepth 100000
variable {H : Heap}

theorem s_cloneI {s : Sl} {xs : List Int} (hr : RL (Value.int .i64) H s xs) (hb : xs.length ≤ 2 ^ 44) {k : Sl → Heap → Prop}
    (hk : ∀ r H', Ext H H' → Vec H' T_int r (ints xs) → (∀ b, r.a = some (adr b) → H.size ≤ b) → k r H') : CallT Pg f_slices_Clone_Sl_int_int [.slice s.a s.len s.cap] (.one (.c .sl)) H k := by
  refine c_slices_Clone_Sl_int_int _ ?_
  unfold v_slices_Clone_Sl_int_int
  have hl := hr.len
  have hrd := hr.rd
  cases ha : s.a with
  | none =>
    rw [ha] at hrd
    have e : xs = [] := List.map_eq_nil_iff.1 hrd
    subst e
    exact hk ⟨none, 0, 0⟩ H (.refl _ _) (Vec.nil _ _) fun b hb => by cases hb
  | some a =>
    simp only [Option.isNone_some, Br_false]
    refine Nw_row (vs := []) fun b1 H1 hb1 hE1 hz1 hr1 => ?_
    have hv : Vec H1 T_int ⟨some (adr b1), 0, 0⟩ [] := ⟨rfl, .inr ⟨b1, [], rfl, hr1, Nat.le_refl _⟩, Nat.le_refl _⟩
    refine App_vec2 (ws := ints xs) hv (rdL_ext hE1 hrd) (by simp [hl]) (fun w hw => by obtain ⟨x, _, rfl⟩ := List.mem_map.1 hw; rfl) (by decide) (by simp; omega) fun s' H2 hv2 hU2 ha2 hz2 => ?_
    refine hk _ _ (extUpd (b := b1) hE1 (by omega) (hU2.mono fun b _ e => ?_)) (by simpa using hv2) fun b hb => ?_
    · have := e.1; cases this; rfl
    · rcases ha2 with ⟨e, _⟩ | e
      · rw [e] at hb; cases hb; omega
      · rw [e] at hb; cases hb; have := hE1.size; omega
/-- The parts of these kinds. -/
def partsOf (es : List PtP) (ks : List Int) : List PtP := ks.filterMap fun k => es.find? fun q => q.kind == k
theorem find_nodup : ∀ {es : List PtP}, (es.map PtP.kind).Nodup → ∀ {j : Nat} (h : j < es.length), es.find? (fun q => q.kind == es[j].kind) = some es[j]
  | x :: r, _, 0, _ => by simp
  | x :: r, hn, j + 1, h => by
    simp only [List.map_cons, List.nodup_cons] at hn
    have hj : j < r.length := by simpa using h
    have hne : (x.kind == r[j].kind) = false := beq_eq_false_iff_ne.2 fun e => hn.1 (List.mem_map.2 ⟨r[j], List.getElem_mem hj, e.symm⟩)
    simp only [List.getElem_cons_succ, List.find?_cons, hne]
    exact find_nodup hn.2 hj
theorem find_none {es : List PtP} {k : Int} (h : lookV (es.map PtP.pt) k = none) : es.find? (fun q => q.kind == k) = none := by
  unfold lookV at h
  rw [Option.map_eq_none_iff, List.find?_map, Option.map_eq_none_iff] at h
  exact h
theorem partsOf_len (es : List PtP) (ks : List Int) : (partsOf es ks).length ≤ ks.length := List.length_filterMap_le _ _
theorem partsOf_le {es : List PtP} {ks : List Int} (hk : ks.Nodup) : (partsOf es ks).length ≤ es.length := by
  have h1 : ∀ ks : List Int, ((partsOf es ks).map PtP.kind).Sublist ks := by
    intro ks
    induction ks with
    | nil => exact .slnil
    | cons k ks ih =>
      unfold partsOf
      rw [List.filterMap_cons]
      cases hf : es.find? fun q => q.kind == k with
      | none => exact .cons _ ih
      | some q =>
        have : q.kind = k := by have := List.find?_some hf; simpa using this
        simp only [List.map_cons, this]
        exact .cons_cons _ ih
  have h2 := ((h1 ks).nodup hk).length_le_of_subset (l₂ := es.map PtP.kind) fun u hu => by
    obtain ⟨q, hq, rfl⟩ := List.mem_map.1 hu
    obtain ⟨k, _, hk⟩ := List.mem_filterMap.1 hq
    exact List.mem_map.2 ⟨q, List.mem_of_find?_eq_some hk, rfl⟩
  simpa using h2
theorem s_written {H0 : Heap} {x : MG} {fs : List Rou} {ins : List (Int × Int × Int)} (h : MacR H0 H x) (hc : CtxR H0 x.g.pF x.g.s x.g.inS fs ins) (hwl : (x.g.s.l 3).length ≤ 2 ^ 44) (hel : x.es.length ≤ 2 ^ 42) {k : Sl → Heap → Prop}
    (hk : ∀ r H', Ext H H' → VecN H' T_api_Part 2 r ((partsOf x.es (Lib.compact ((x.g.s.l 3).mergeSort fun a b => decide (a ≤ b)))).flatMap ptV) → (∀ b, r.a = some (adr b) → H.size ≤ b) → k r H') :
    CallT Pg f_machine_run_written [.pointer (some (adr x.b))] (.one (.c .sl)) H k := by
  refine c_machine_run_written _ ?_
  unfold v_machine_run_written
  simp only [NilCk_some, adr_add, mk_add]
  refine Ld_sl (s := x.g.s.s 3) ((h.run.1.cell 5).trans rfl) (s_cloneI ((hc.sets 3 (by decide)).ext h.base) (by omega) fun r1 H1 hE1 hv1 hf1 => ?_)
  obtain ⟨hu1, _⟩ := sortU_ok (x.g.s.l 3)
  have hun : ∀ n, ((Lib.compact ((x.g.s.l 3).mergeSort fun a b => decide (a ≤ b))).take n).Nodup := fun n => (hu1.imp fun {a b} h => (show a ≠ b by omega) : List.Nodup _).sublist (List.take_sublist n _)
  clear hu1
  generalize hws : x.g.s.l 3 = ws at *
  have hml := (List.mergeSort_perm ws fun a b => decide (a ≤ b)).length_eq
  refine s_sortI hv1 (by omega) fun H2 hU2 hv2 => ?_
  generalize ws.mergeSort (fun a b => decide (a ≤ b)) = ms at *
  have hE2 : Ext H H2 := hE1.trans hU2 fun b hb e => by have := hf1 b e; omega
  refine s_compactI hv2 (by omega) fun H3 hU3 hv3 => ?_
  have hcl := Lib.compact_length_le ms
  generalize Lib.compact ms = cs at *
  have hE3 : Ext H H3 := hE2.trans hU3 fun b hb e => by have := hf1 b e; omega
  refine LoopT.mk (fun s H' => ∃ n : Nat, s.2 = n ∧ n ≤ cs.length ∧ Ext H H' ∧ Vec H' T_int ⟨r1.a, cs.length, r1.cap⟩ (ints cs) ∧ VecN H' T_api_Part 2 s.1 ((partsOf x.es (cs.take n)).flatMap ptV) ∧ ∀ b, s.1.a = some (adr b) → H.size ≤ b)
    (fun s _ => cs.length - s.2.toNat) ⟨0, rfl, Nat.zero_le _, hE3, hv3, VecN.nil _ _ _, fun b hb => by cases hb⟩ ?_
  rintro next ⟨out, i⟩ H4 ⟨n, hi, hn, hE4, hv4, ho4, hf4⟩ hnext
  dsimp only at hi ho4 hf4 hnext ⊢
  subst hi
  have h4 := h.ext hE4
  refine Br_dec (fun hlt => ?_) fun hge => ?_
  · have hn2 : n < cs.length := by omega
    have htk : cs.take (n + 1) = cs.take n ++ [cs[n]] := by rw [List.take_add_one, List.getElem?_eq_getElem hn2]; rfl
    have hpl := partsOf_le (es := x.es) (hun n)
    simp only [Jn]
    refine IxA_vec hv4 (by omega) (by simp; omega) fun a2 ha2 _ => Ld_int (n := cs[n]) (ha2.trans (by rw [Int.toNat_natCast, ints, List.getElem?_map, List.getElem?_eq_getElem hn2]; rfl)) ?_
    refine ⟨.map (some x.g.mp), (h4.run.1.cell 18).trans rfl, MpL_es h4.map.1 (fun j hj hkd hl _ => ?_) fun hl => ?_⟩
    · have hfd := find_nodup h.esK hj
      rw [hkd] at hfd
      have hpo : partsOf x.es (cs.take (n + 1)) = partsOf x.es (cs.take n) ++ [x.es[j]] := by
        rw [htk]; unfold partsOf; rw [List.filterMap_append]; simp [hfd]
      rw [Br_true]
      have ept : ptV x.es[j] = [.int .i64 cs[n], slV x.es[j].sl] := by rw [← hkd]
      refine Nw_row (vs := [.int .i64 cs[n], slV x.es[j].sl]) fun b1 H5 hb1 hE5 hz5 hr5 => ?_
      rw [← ept] at hr5
      have hov := ho4.ext hE5
      have hol := hov.len
      rw [flat_len ptV_len] at hol
      refine App_vecN (ws := ptV x.es[j]) rfl (by decide) hov hr5.rd_all rfl (fun w hw => ?_) (by decide) (by dsimp only; omega) fun l1 H6 hv6 hl6 hU6 ha6 => ?_
      · simp only [ptV, List.mem_cons, List.not_mem_nil, or_false] at hw
        rcases hw with rfl | rfl <;> rfl
      have hE6 : Ext H H6 := (hE4.trans hE5 fun _ _ h => h).trans hU6 fun b hb e => by have := hf4 b e.1; omega
      have hv46 := (hv4.ext hE5).upd hU6 fun b hb e => hov.apV (hv4.ext hE5) (by decide) e.1 hb
      refine Lt.mk (u := ((n + 1 : Nat) : Int)) (by rw [wrap_i64_id (by omega) (by omega)]; omega) (hnext _ _ ⟨n + 1, rfl, hn2, hE6, hv46, ?_, fun b hb => ?_⟩ (by dsimp only; omega))
      · rw [hpo, List.flatMap_append]; simpa using hv6
      · dsimp only at hb
        rcases ha6 with ⟨e, _⟩ | e
        · rw [e] at hb; exact hf4 b hb
        · rw [e] at hb; cases hb; have := hE4.size; have := hE5.size; omega
    · rw [Br_false]
      refine Lt.mk (u := ((n + 1 : Nat) : Int)) (by rw [wrap_i64_id (by omega) (by omega)]; omega) (hnext _ _ ⟨n + 1, rfl, hn2, hE4, hv4, ?_, hf4⟩ (by dsimp only; omega))
      have hpo : partsOf x.es (cs.take (n + 1)) = partsOf x.es (cs.take n) := by
        rw [htk]; unfold partsOf; rw [List.filterMap_append]; simp [find_none hl]
      rw [hpo]; exact ho4
  · have : n = cs.length := by omega
    subst this
    rw [List.take_length] at ho4
    exact hk out H4 hE4 ho4 hf4
end Go.Proofs.YtfpmgpblhhcpgaaGreat
/-
  Machine: the map of the kinds' values.
-/
namespace Go.Proofs.YtfpmgpblhhcpgaaGreat
set_option linter.unusedVariables false
set_option linter.unusedSimpArgs false
open Go.Proofs.YtfpmgpblhhcpgaaGreat.Hc Go.Proofs.YtfpmgpblhhcpgaaGreat.Hc.Vf Go.Proofs.YtfpmgpblhhcpgaaGreat.Hc.Mc Go.Proofs.YtfpmgpblhhcpgaaGreat.Hc.Dice
set_option maxRecDepth 100000
variable {H : Heap}

/-- The first of each kind. -/
def addF (l : List Pt) (p : Pt) : List Pt := if lookV l p.kind = none then l ++ [p] else l
def firsts (l : List Pt) : List Pt := l.foldl addF []
theorem firsts_snoc (l : List Pt) (p : Pt) : firsts (l ++ [p]) = addF (firsts l) p := by unfold firsts; rw [List.foldl_append]; rfl
theorem lookV_app (l r : List Pt) (k : Int) : lookV (l ++ r) k = (lookV l k).or (lookV r k) := by
  unfold lookV
  rw [List.find?_append]
  cases l.find? fun p => p.kind == k <;> simp
theorem look_addF (l : List Pt) (p : Pt) (k : Int) : lookV (addF l p) k = (lookV l k).or (lookV [p] k) := by
  unfold addF
  split
  · rw [lookV_app]
  · rename_i h
    by_cases e : p.kind = k
    · rw [e] at h
      cases hl : lookV l k with
      | none => exact absurd hl h
      | some v => rfl
    · have e0 : lookV [p] k = none := by unfold lookV; simp [e]
      rw [e0]; cases lookV l k <;> rfl
theorem look_fold (k : Int) : ∀ (l acc : List Pt), lookV (l.foldl addF acc) k = (lookV acc k).or (lookV l k)
  | [], acc => by have : lookV [] k = none := rfl
                  rw [this, List.foldl_nil]; cases lookV acc k <;> rfl
  | p :: l, acc => by
    rw [List.foldl_cons, look_fold k l, look_addF, Option.or_assoc, ← lookV_app]; rfl
theorem look_firsts (l : List Pt) (k : Int) : lookV (firsts l) k = lookV l k := by
  unfold firsts
  rw [look_fold]; rfl
/-- The map, as far as it is filled. -/
structure EsR (lo : Nat) (H : Heap) (mp : Nat) (es : List PtP) : Prop where
  map : H[mp]? = some (.map ⟨mapEnts 0 es⟩ es.length)
  mlo : lo ≤ mp
  esR : ∀ q ∈ es, Vec H T_int64 q.sl (ints q.vals)
  eslo : ∀ q ∈ es, ∀ b, q.sl.a = some (adr b) → lo ≤ b
  esA : es.Pairwise fun p q => Apart p.sl q.sl
  esK : (es.map PtP.kind).Nodup
theorem mapEnts_snoc : ∀ (n : Nat) (es : List PtP) (q : PtP), mapEnts n (es ++ [q]) = mapEnts n es ++ [{ key := .int .i64 q.kind, val := slV q.sl, born := n + es.length }]
  | n, [], q => by simp [mapEnts]
  | n, x :: r, q => by
    simp only [List.cons_append, mapEnts, mapEnts_snoc (n + 1) r q, List.length_cons]
    congr 4
    omega
theorem mapEnts_len : ∀ (n : Nat) (es : List PtP), (mapEnts n es).length = es.length
  | _, [] => rfl
  | n, x :: r => by simp [mapEnts, mapEnts_len (n + 1) r]
/-- A kind that is not there yet comes in. -/
theorem MpU_es {lo : Nat} {mp : Nat} {es : List PtP} (h : EsR lo H mp es) {q : PtP} (hno : lookV (es.map PtP.pt) q.kind = none) (hq : Vec H T_int64 q.sl (ints q.vals)) (hql : ∀ b, q.sl.a = some (adr b) → lo ≤ b) (hqa : ∀ p ∈ es, Apart p.sl q.sl) {k : Heap → Prop}
    (hk : ∀ H', Upd (· = mp) H H' → EsR lo H' mp (es ++ [q]) → k H') : MpU (.int .i64) (.map (some mp)) (.int .i64 q.kind) (.slice q.sl.a q.sl.len q.sl.cap) H k := by
  have hnone : Instr.findNow (.int .i64) (.int .i64 q.kind) (mapEnts 0 es) 0 = some none ∧ ∀ p ∈ es, p.kind ≠ q.kind := by
    rcases mapEnts_find (key := q.kind) (es := es) (n := 0) (i := 0) with ⟨j, hj, _, _, g3, _⟩ | ⟨g1, _, g3⟩
    · rw [hno] at g3; cases g3
    · exact ⟨g1, g3⟩
  have hU : Upd (· = mp) H (H.setIfInBounds mp (.map ((⟨mapEnts 0 es⟩ : Array MapEntry).push { key := .int .i64 q.kind, val := .slice q.sl.a q.sl.len q.sl.cap, born := es.length }) (es.length + 1))) := by
    refine ⟨by simp, fun b hb hn => ?_⟩
    simp only [Array.getElem?_setIfInBounds]; rw [if_neg (fun e => hn e.symm)]
  have hvne : ∀ {s : Sl} {vs : List Value}, Vec H T_int64 s vs → ∀ b, s.a = some (adr b) → ¬ b = mp := fun {s vs} hv b hb e => by
    rcases hv.own with ⟨h1, _⟩ | ⟨c, sp, h1, h2, _⟩
    · rw [h1] at hb; cases hb
    · rw [h1] at hb; cases hb
      have := h.map
      rw [← e] at this
      unfold Row at h2
      rw [h2] at this; cases this
  refine ⟨mp, _, _, rfl, h.map, .inr ⟨hnone.1, hk _ hU ⟨?_, h.mlo, fun p hp => ?_, fun p hp => ?_, ?_, ?_⟩⟩⟩
  · have := lt_of_get h.map
    simp only [Array.getElem?_setIfInBounds, this, if_true]
    rw [mapEnts_snoc]
    simp
  · rcases List.mem_append.1 hp with hp | hp
    · exact (h.esR p hp).upd hU (hvne (h.esR p hp))
    · rw [List.mem_singleton.1 hp]; exact hq.upd hU (hvne hq)
  · rcases List.mem_append.1 hp with hp | hp
    · exact h.eslo p hp
    · rw [List.mem_singleton.1 hp]; exact hql
  · rw [List.pairwise_append]
    exact ⟨h.esA, List.pairwise_singleton _ _, fun p hp r hr => by rw [List.mem_singleton.1 hr]; exact hqa p hp⟩
  · rw [List.map_append, List.map_cons, List.map_nil, List.nodup_append]
    refine ⟨h.esK, by simp, fun a ha b hb => ?_⟩
    obtain ⟨p, hp, rfl⟩ := List.mem_map.1 ha
    rw [List.mem_singleton.1 hb]
    exact hnone.2 p hp
end Go.Proofs.YtfpmgpblhhcpgaaGreat
/-
  Machine: Run, up to its loop.
-/
namespace Go.Proofs.YtfpmgpblhhcpgaaGreat
set_option linter.unusedVariables false
set_option linter.unusedSimpArgs false
open Go.Proofs.YtfpmgpblhhcpgaaGreat.Hc Go.Proofs.YtfpmgpblhhcpgaaGreat.Hc.Vf Go.Proofs.YtfpmgpblhhcpgaaGreat.Hc.Mc Go.Proofs.YtfpmgpblhhcpgaaGreat.Hc.Dice
set_option maxRecDepth 100000
variable {H : Heap}

/-- The map is filled: one part more. -/
theorem fill_step {H3 : Heap} {b mp : Nat} {g : RunG} {es : List PtP} (hmp : g.mp = mp) (hE : Ext H3 H) (he : EsR H3.size H mp es) (hr : Row H b T_machine_run (runV g)) (hb : H3.size ≤ b) {q : PtP} (hq : RL (Value.int .i64) H3 q.sl q.vals) (hql : q.vals.length ≤ 2 ^ 44) {b5 : Nat} (h5 : Row H b5 T_api_Part (ptV q)) (hb5 : H3.size ≤ b5) {k : Heap → Prop}
    (hk : ∀ H' es', Upd (· = mp) H H' → EsR H3.size H' mp es' → es'.map PtP.pt = addF (es.map PtP.pt) q.pt → k H') :
    Ld .raw ⟨b, 18, none⟩ H fun (x7 : Value) => Ld (.int .i64) (adr b5) H fun (x8 : Int) => MpL (.int .i64) (.c .sl) ⟨none, 0, 0⟩ x7 (.int .i64 x8) H fun (x9 : Sl) e1 =>
      Br (!e1) (Ld .raw ⟨b, 18, none⟩ H fun (x10 : Value) => Ld (.int .i64) (adr b5) H fun (x11 : Int) => Ld .sl ⟨b5, 1, none⟩ H fun (x12 : Sl) => Nw #[] T_int64 H fun b6 H20 =>
        Stab [(⟨b5, 1, none⟩, .slice x12.a x12.len x12.cap), (adr b5, .int .i64 x11), (⟨b, 18, none⟩, x10)] H20 <|
        App T_int64 1 8 #[.int .i64 0] ⟨some (adr b6), 0, 0⟩ x12 H20 fun l1 H21 => Stab [(adr b5, .int .i64 x11), (⟨b, 18, none⟩, x10)] H21 <| MpU (.int .i64) x10 (.int .i64 x11) (.slice l1.a l1.len l1.cap) H21 fun H22 => k H22) (k H) := by
  have c18 : ∀ {H'}, Row H' b T_machine_run (runV g) → hcell H' ⟨b, 18, none⟩ = some (.map (some mp)) := fun h => (h.cell 18).trans (by rw [← hmp]; rfl)
  refine ⟨.map (some mp), c18 hr, Ld_int (n := q.kind) ((h5.cell 0).trans rfl) (MpL_es he.map (fun j hj hkd hl _ => ?_) fun hl => ?_)⟩
  · refine hk H es (.refl _ _) he ?_
    unfold addF
    rw [if_neg (fun e => by rw [e] at hl; cases hl)]
  · refine ⟨.map (some mp), c18 hr, Ld_int (n := q.kind) ((h5.cell 0).trans rfl) (Ld_sl (s := q.sl) ((h5.cell 1).trans rfl) ?_)⟩
    refine Nw_row (vs := []) fun b6 H1 hb6 hE1 hz1 hr6 => ?_
    have hv6 : Vec H1 T_int64 ⟨some (adr b6), 0, 0⟩ [] := ⟨rfl, .inr ⟨b6, [], rfl, hr6, Nat.le_refl _⟩, Nat.le_refl _⟩
    have h51 := hE1.row h5 fun h => h
    have hr1 := hE1.row hr fun h => h
    refine Stab_all (fun y hy => ?_) ?_
    · simp only [List.mem_cons, List.not_mem_nil, or_false] at hy
      rcases hy with rfl | rfl | rfl
      · exact (h51.cell 1).trans rfl
      · exact (h51.cell 0).trans rfl
      · exact c18 hr1
    refine App_vec2 (ws := ints q.vals) hv6 (rdL_ext (hE.trans hE1 fun _ _ h => h) hq.rd) (by rw [hq.len]; simp) (ints_one _) (by decide) (by simp; omega) fun l1 H2 hv2 hU2 ha2 hz2 => ?_
    have hlt5 := h5.lt
    have hltr := hr.lt
    have n5 : ¬ (∃ _ : Unit, b5 = b6) := fun ⟨_, e⟩ => by omega
    have h52 : Row H2 b5 T_api_Part (ptV q) := hU2.row h51 fun e => by have := e.1; cases this; omega
    have hr2 : Row H2 b T_machine_run (runV g) := hU2.row hr1 fun e => by have := e.1; cases this; omega
    refine Stab_2 ((h52.cell 0).trans rfl) (c18 hr2) ?_
    have hE02 : Ext H H2 := extUpd (b := b6) hE1 (by omega) (hU2.mono fun c _ e => by have := e.1; cases this; rfl)
    have hfr : ∀ c, l1.a = some (adr c) → H.size ≤ c := fun c hc => by
      rcases ha2 with ⟨e, _⟩ | e
      · rw [e] at hc; cases hc; omega
      · rw [e] at hc; cases hc; have := hE1.size; omega
    have he2 : EsR H3.size H2 mp es := ⟨hE02.keep he.map fun h => h, he.mlo, fun p hp => (he.esR p hp).ext hE02, he.eslo, he.esA, he.esK⟩
    refine MpU_es he2 (q := ⟨q.kind, l1, q.vals⟩) hl (by simpa using hv2) (fun c hc => by have := hfr c hc; have := hE.size; omega) (fun p hp c hc hc' => by have h1 := (he.esR p hp).lt hc; have h2 := hfr c hc'; omega) fun H' hU hes => ?_
    refine hk H' _ ((hE02.mono fun _ _ h => h.elim).trans hU fun _ _ e => e) hes ?_
    unfold addF
    rw [if_pos hl]
    simp
end Go.Proofs.YtfpmgpblhhcpgaaGreat
/-
  Machine: the run's loop.
-/
namespace Go.Proofs.YtfpmgpblhhcpgaaGreat
set_option linter.unusedVariables false
set_option linter.unusedSimpArgs false
open Go.Proofs.YtfpmgpblhhcpgaaGreat.Hc Go.Proofs.YtfpmgpblhhcpgaaGreat.Hc.Vf Go.Proofs.YtfpmgpblhhcpgaaGreat.Hc.Mc Go.Proofs.YtfpmgpblhhcpgaaGreat.Hc.Dice
set_option maxRecDepth 100000
variable {H : Heap}

theorem stat_ctx {g g' : RunG} (h : stat g' = stat g) : g'.pF = g.pF ∧ g'.s = g.s ∧ g'.inS = g.inS ∧ g'.n = g.n ∧ g'.fr = g.fr ∧ g'.sd = g.sd ∧ g'.ix = g.ix ∧ g'.gn = g.gn ∧ g'.mp = g.mp := by
  simp only [stat, Prod.mk.injEq] at h
  obtain ⟨_, h2, h3, h4, h5, h6, _, h8, h9, h10, _, h12, _⟩ := h
  exact ⟨h2, h3, h8, h4, h5, h6, h9, h10, h12⟩
theorem stat_mp {g g' : RunG} (h : stat g' = stat g) (fs : List Rou) : mpOf g' fs = mpOf g fs := by
  obtain ⟨_, h3, _, h4, _⟩ := stat_ctx h
  unfold mpOf; rw [h3, h4]
theorem stat_en {g g' : RunG} (h : stat g' = stat g) (ins : List (Int × Int × Int)) : enOf g' ins = enOf g ins := by
  obtain ⟨_, _, _, _, h5, h6, h9, h10, _⟩ := stat_ctx h
  unfold enOf; rw [h5, h6, h9, h10]
theorem act_meas {P : MP} {E : En} {m m1 : Ms} {l : List Int} {op : Nat} {A : Int} (e1 : m1.steps = m.steps) (e2 : m1.since = m.since + 1) (h : (act P E m m1 l op A).1 = 0) :
    ((act P E m m1 l op A).2.steps = m.steps ∧ (act P E m m1 l op A).2.since = m.since + 1) ∨ ((act P E m m1 l op A).2.steps = m.steps + 1 ∧ (act P E m m1 l op A).2.since = 0) := by
  unfold act at h ⊢
  split
  case h_7 => dsimp only; split <;> exact .inl ⟨e1, e2⟩
  case h_8 =>
    split
    · exact .inr ⟨rfl, rfl⟩
    · rename_i hn; dsimp only at h; rw [if_neg hn] at h; cases h
  case h_11 =>
    split
    · exact .inr ⟨rfl, rfl⟩
    · rename_i hn
      revert h
      show ((if m.steps + 1 ≤ 2000 then ((0 : Int), ({ m1 with steps := m.steps + 1, since := 0 } : Ms)) else (120, { m1 with steps := m.steps + 1 })).1 = 0) → _
      rw [if_neg hn]
      intro h; cases h
  all_goals exact .inl ⟨e1, e2⟩
theorem does_meas {P : MP} {E : En} {m : Ms} {i : Ins} (h : (does P E m i).1 = 0) : ((does P E m i).2.steps = m.steps ∧ (does P E m i).2.since = m.since + 1) ∨ ((does P E m i).2.steps = m.steps + 1 ∧ (does P E m i).2.since = 0) := by
  unfold does at h ⊢
  dsimp only at h ⊢
  split
  · exact .inl ⟨rfl, rfl⟩
  split
  · exact .inl ⟨rfl, rfl⟩
  rename_i h1 h2
  rw [if_neg h1, if_neg h2] at h
  exact act_meas rfl rfl h
/-- What comes out. -/
structure OutR (lo : Nat) (H : Heap) (vs cs es : Sl) (ps : List PtP) (cl : List CmP) (evs : List Ev) : Prop where
  vv : VecN H T_api_Part 2 vs (ps.flatMap ptV)
  vR : ∀ q ∈ ps, Vec H T_int64 q.sl (ints q.vals)
  cv : VecN H T_api_Command 6 cs (cl.flatMap cmV)
  cR : ∀ q ∈ cl, Vec H T_int64 q.vsl (ints q.vals) ∧ VecN H T_api_Part 2 q.psl (q.parts.flatMap ptV) ∧ ∀ p ∈ q.parts, Vec H T_int64 p.sl (ints p.vals)
  ev : VecN H T_api_Event 5 es (evs.flatMap evV)
  ap : (ps.map PtP.sl ++ cl.flatMap cmSl).Pairwise Apart
  pa : (vs :: cl.map CmP.psl).Pairwise Apart
  new : ∀ s ∈ vs :: cs :: es :: (ps.map PtP.sl ++ cl.flatMap cmSl ++ cl.map CmP.psl), ∀ b, s.a = some (adr b) → lo ≤ b
/-- One turn of the loop. -/
theorem run_turn (hin : InputOk) {B : Heap} {x : MG} {fs : List Rou} {ins : List (Int × Int × Int)} (h : MacR B H x) (hc : CtxR B x.g.pF x.g.s x.g.inS fs ins) (her : x.g.er = 0) (hP : POk (mpOf x.g fs)) (hE : EOk (enOf x.g ins)) (hM : MOk (mpOf x.g fs) x.ms) (hov : x.g.ov = false) {k : Int → Heap → Prop}
    (hbad : ∀ H' x' e n m', MacR B H' x' → x'.b = x.b → Runs (mpOf x.g fs) (enOf x.g ins) x.ms n e m' → e ≠ 0 → x'.g.st = m'.steps → k e H')
    (hgo : ∀ H' x', MacR B H' x' → x'.b = x.b → stat x'.g = stat x.g → x'.g.er = 0 → MOk (mpOf x.g fs) x'.ms → (∀ n e m', Runs (mpOf x.g fs) (enOf x.g ins) x'.ms n e m' → Runs (mpOf x.g fs) (enOf x.g ins) x.ms (n + 1) e m') →
      ((2001 - x'.g.st) * 40001 + (40000 - x'.g.si)).toNat < ((2001 - x.g.st) * 40001 + (40000 - x.g.si)).toNat → k 0 H') :
    CallT Pg f_machine_run_ready [.pointer (some (adr x.b))] (.tup [(.agg [(.int .i64), (.int .i64)]), (.c (.int .i64))]) H fun (r3 : (Int × Int) × Int) H27 =>
      Nw #[.int .i64 0, .int .i64 0] T_api_Instr H27 fun b8 H28 => St ⟨b8, 0, none⟩ (.int .i64 r3.1.1) H28 fun H29 => St ⟨b8, 1, none⟩ (.int .i64 r3.1.2) H29 fun H30 =>
      Br (r3.2 == 0) (LdC [(.int .i64), (.int .i64)] (adr b8) H30 fun (c7 : Int × Int) => CallT Pg f_machine_run_does [.pointer (some (adr x.b)), .agg #[.int .i64 c7.1, .int .i64 c7.2]] (.tup []) H30 fun (r4 : Unit) H32 =>
        Ld (.int .i64) ⟨x.b, 25, none⟩ H32 fun (x14 : Int) => k x14 H32) (k r3.2 H30) := by
  have hcode : ∀ i ∈ x.top.r.code, I64 i.2 := fun i hi => ((hM.top.fnOk hP).code i hi).2
  have hstk : x.top.stk.length ≤ 64 := hM.top.stk
  refine s_ready h hc hcode (by omega) fun H1 i hE1 hi => ?_
  have h1 := h.ext hE1
  refine Nw_row (vs := [.int .i64 0, .int .i64 0]) fun b8 H2 hb8 hE2 hz2 hr2 => ?_
  refine St_row hr2 (by simp) fun H3 hU3 _ hr3 => St_row hr3 (by simp) fun H4 hU4 _ hr4 => ?_
  have hE4 : Ext H1 H4 := extUpd hE2 (by omega) (hU3.trans hU4 fun _ _ e => e)
  have h4 := h1.ext hE4
  dsimp only
  refine Br.mk (fun hz => ?_) fun hz => ?_
  · have hz := beqI hz
    have hi := hi hz
    have hrdy := ready_iff hz
    have hi' : x.ms.top.fn.code[x.ms.top.nx.toNat]! = i := hi.symm
    rw [hi'] at hrdy
    refine ⟨(i.1, i.2), hr4.rd_all, s_does (i := i) hin h4 hc her hP hM hrdy fun H5 x' hp => ?_⟩
    have hd := hM.does hP hE hrdy
    have hstep : stepM (mpOf x.g fs) (enOf x.g ins) x.ms = does (mpOf x.g fs) (enOf x.g ins) x.ms i := by
      unfold stepM
      rw [if_pos hz, hi']
    have hov' : x.ms.over = false := hov
    refine Ld_int (n := x'.g.er) ((by have := hp.mac.run.1; rw [hp.b] at this; exact (this.cell 25).trans rfl)) ?_
    rw [hp.er]
    rcases hd with ⟨h0, hmo⟩ | ⟨h120, hst⟩
    · rw [h0]
      have hms := hp.ms h0
      rw [← hms] at hmo
      refine hgo H5 x' hp.mac hp.b hp.st (hp.er.trans h0) hmo (fun n e m' hr => ?_) ?_
      · refine .step hov' (by rw [hstep]; exact h0) ?_
        rw [hstep, ← hms]; exact hr
      · have hme := does_meas h0
        rw [← hms] at hme
        have hme : (x'.g.st = x.g.st ∧ x'.g.si = x.g.si + 1) ∨ (x'.g.st = x.g.st + 1 ∧ x'.g.si = 0) := hme
        have h1 : 0 ≤ x.g.st ∧ x.g.st ≤ 2000 := hM.steps
        have h2 : 0 ≤ x'.g.st ∧ x'.g.st ≤ 2000 := hmo.steps
        have h3 : 0 ≤ x.g.si ∧ x.g.si ≤ 40000 := hM.since
        have h4 : 0 ≤ x'.g.si ∧ x'.g.si ≤ 40000 := hmo.since
        omega
    · rw [h120]
      refine hbad H5 x' 120 1 _ hp.mac hp.b (?_ : Runs _ _ x.ms 1 120 (does (mpOf x.g fs) (enOf x.g ins) x.ms i).2) (by decide) (hp.steps)
      have := Runs.bad (P := mpOf x.g fs) (E := enOf x.g ins) hov' (by rw [hstep, h120]; decide)
      rwa [hstep, h120] at this
  · have hz := bneI hz
    refine hbad H4 x _ 1 x.ms h4 rfl ?_ hz rfl
    have hstep : stepM (mpOf x.g fs) (enOf x.g ins) x.ms = (ready (mpOf x.g fs) x.ms, x.ms) := by
      unfold stepM
      rw [if_neg hz]
    have := Runs.bad (P := mpOf x.g fs) (E := enOf x.g ins) (m := x.ms) hov (by rw [hstep]; exact hz)
    rwa [hstep] at this
end Go.Proofs.YtfpmgpblhhcpgaaGreat
/-
  Machine: Run.
-/
namespace Go.Proofs.YtfpmgpblhhcpgaaGreat
set_option linter.unusedVariables false
set_option linter.unusedSimpArgs false
open Go.Proofs.YtfpmgpblhhcpgaaGreat.Hc Go.Proofs.YtfpmgpblhhcpgaaGreat.Hc.Vf Go.Proofs.YtfpmgpblhhcpgaaGreat.Hc.Mc Go.Proofs.YtfpmgpblhhcpgaaGreat.Hc.Dice
set_option maxRecDepth 100000
variable {H : Heap}

/-- An Env as it is handed in. -/
structure EnV where
  fr : Int
  sd : Int
  en : Int
  inS : Sl
  ix : Int
  gn : Int
  rp : Sl
abbrev envA (e : EnV) : Value := .agg #[.int .i64 e.fr, .int .i64 e.sd, .int .i64 e.en, .slice e.inS.a e.inS.len e.inS.cap, .int .i64 e.ix, .int .i64 e.gn, .slice e.rp.a e.rp.len e.rp.cap]
abbrev envL (e : EnV) : List Value := [.int .i64 e.fr, .int .i64 e.sd, .int .i64 e.en, slV e.inS, .int .i64 e.ix, .int .i64 e.gn, slV e.rp]
abbrev mpS (s : Sy) (n : Int) (fs : List Rou) : MP := ⟨fs.map fnOf, fnOf s.rou, s.l 2, s.l 3, n, 2 ^ 40⟩
abbrev enS (e : EnV) (ins : List (Int × Int × Int)) : En := ⟨e.fr, e.sd, e.ix, e.gn, ins⟩
abbrev g0 (p : Sl × Sl) (s : Sy) (n : Int) (e : EnV) (mp dp : Nat) : RunG := ⟨p.1, p.2, s, n, e.fr, e.sd, e.en, e.inS, e.ix, e.gn, e.rp, mp, ⟨none, 0, 0⟩, ⟨none, 0, 0⟩, ⟨none, 0, 0⟩, ⟨none, 0, 0⟩, 0, 0, dp, 0, false⟩
open Classical in
/-- The run begins. -/
theorem mac_init {B : Heap} {p : Sl × Sl} {s : Sy} {n : Int} {e : EnV} {mp dp b b7 : Nat} {es : List PtP} {t : AP} (hB : Ext B H) (he : EsR B.size H mp es) (hr : Row H b T_machine_run (runV { g0 p s n e mp dp with ls := ⟨some (adr b7), 1, 1⟩ })) (hb : B.size ≤ b)
    (hdp : Row H dp T_dice_Dice [.int .u64 (newS e.sd e.fr n e.ix)]) (hdl : B.size ≤ dp) (ht : ActR H t) (htb : ∀ x, ActB t x → B.size ≤ x ∧ ∀ q ∈ es, q.sl.a ≠ some (adr x)) (h7 : Row H b7 T_P_machine_activation [.pointer (some (adr t.p))]) (h7l : B.size ≤ b7) (hc : CodeR B t.r) :
    ∃ c, MacR B H ⟨c, b, { g0 p s n e mp dp with ls := ⟨some (adr b7), 1, 1⟩ }, [], t, es, newS e.sd e.fr n e.ix, [], [], []⟩ := by
  have mpne : ∀ {x : Nat} {T : TypeId} {vs : List Value}, Row H x T vs → x ≠ mp := fun {x T vs} h e => by
    have := he.map
    rw [← e] at this
    unfold Row at h
    rw [h] at this; cases this
  have vne : ∀ {sl : Sl} {vs : List Value} {x : Nat} {T : TypeId} {ws : List Value}, Vec H T_int64 sl vs → sl.a = some (adr x) → Row H x T ws → T_int64 ≠ T → False := fun hv ha hr hT => hv.ne ha hr hT rfl
  have vmp : ∀ {sl : Sl} {vs : List Value} {x : Nat}, Vec H T_int64 sl vs → sl.a = some (adr x) → x ≠ mp := fun {sl vs x} hv ha => by
    rcases hv.own with ⟨h1, _⟩ | ⟨c, sp, h1, h2, _⟩
    · rw [h1] at ha; cases ha
    · rw [h1] at ha; cases ha; exact mpne h2
  refine ⟨fun x => if x = b then 200 else if x = b7 then 201 else if x = dp then 205 else if x = mp then 206 else if ∃ q ∈ es, q.sl.a = some (adr x) then 100 else 0, ?_⟩
  have b7b : b7 ≠ b := h7.ne hr (by decide)
  have dpb : dp ≠ b := hdp.ne hr (by decide)
  have dp7 : dp ≠ b7 := hdp.ne h7 (by decide)
  have esne : ∀ q ∈ es, ∀ x, q.sl.a = some (adr x) → x ≠ b ∧ x ≠ b7 ∧ x ≠ dp ∧ x ≠ mp := fun q hq x hx =>
    ⟨fun e => vne (he.esR q hq) hx (e ▸ hr) (by decide), fun e => vne (he.esR q hq) hx (e ▸ h7) (by decide), fun e => vne (he.esR q hq) hx (e ▸ hdp) (by decide), vmp (he.esR q hq) hx⟩
  have tne : ∀ x, ActB t x → x ≠ b ∧ x ≠ b7 ∧ x ≠ dp ∧ x ≠ mp := fun x hx => by
    rcases hx with rfl | hx | hx
    · exact ⟨ht.row.ne hr (by decide), ht.row.ne h7 (by decide), ht.row.ne hdp (by decide), mpne ht.row⟩
    · exact ⟨fun e => vne ht.loc hx (e ▸ hr) (by decide), fun e => vne ht.loc hx (e ▸ h7) (by decide), fun e => vne ht.loc hx (e ▸ hdp) (by decide), vmp ht.loc hx⟩
    · exact ⟨fun e => vne ht.stk hx (e ▸ hr) (by decide), fun e => vne ht.stk hx (e ▸ h7) (by decide), fun e => vne ht.stk hx (e ▸ hdp) (by decide), vmp ht.stk hx⟩
  exact {
    base := hB
    run := ⟨hr, hb, if_pos rfl⟩
    lv := ⟨⟨rfl, .inr ⟨b7, [], rfl, by simpa [ptrs] using h7, by simp⟩, Nat.le_refl _⟩, fun x hx => by cases hx; exact ⟨h7l, by dsimp only; rw [if_neg b7b, if_pos rfl]⟩⟩
    lowR := fun i hi => by cases hi
    topR := ht
    topI := fun x hx => ⟨(htb x hx).1, by
      obtain ⟨h1, h2, h3, h4⟩ := tne x hx
      dsimp only
      rw [if_neg h1, if_neg h2, if_neg h3, if_neg h4, if_neg]
      · rfl
      · rintro ⟨q, hq, e⟩; exact (htb x hx).2 q hq e⟩
    codes := fun a ha => by rw [List.mem_singleton.1 ha]; exact hc
    lowl := Nat.zero_le _
    dice := ⟨hdp, hdl, by dsimp only; rw [if_neg dpb, if_neg dp7, if_pos rfl]⟩
    map := ⟨he.map, he.mlo, by dsimp only; rw [if_neg (fun e => mpne hr e.symm), if_neg (fun e => mpne h7 e.symm), if_neg (fun e => mpne hdp e.symm), if_pos rfl]⟩
    esR := fun q hq => ⟨he.esR q hq, fun x hx => ⟨he.eslo q hq x hx, by
      obtain ⟨h1, h2, h3, h4⟩ := esne q hq x hx
      dsimp only
      rw [if_neg h1, if_neg h2, if_neg h3, if_neg h4, if_pos ⟨q, hq, hx⟩]⟩⟩
    esA := he.esA
    esK := he.esK
    kv := VecNC.nil _ _ _ _ _ _
    kR := fun q hq => by cases hq
    cv := VecNC.nil _ _ _ _ _ _
    cR := fun q hq => by cases hq
    outA := List.Pairwise.nil
    parA := List.Pairwise.nil
    ev := VecNC.nil _ _ _ _ _ _ }
end Go.Proofs.YtfpmgpblhhcpgaaGreat
/-
  Machine: Run, whole.
-/
namespace Go.Proofs.YtfpmgpblhhcpgaaGreat
set_option linter.unusedVariables false
set_option linter.unusedSimpArgs false
open Go.Proofs.YtfpmgpblhhcpgaaGreat.Hc Go.Proofs.YtfpmgpblhhcpgaaGreat.Hc.Vf Go.Proofs.YtfpmgpblhhcpgaaGreat.Hc.Mc Go.Proofs.YtfpmgpblhhcpgaaGreat.Hc.Dice
set_option maxRecDepth 100000
variable {H : Heap}

theorem put_len (l : List Pt) (k : Int) (f : Nat) (x : Int) : (putV l k f x).length = l.length := by
  induction l with
  | nil => rfl
  | cons p r ih => unfold putV; split <;> simp [ih]
theorem act_vals {P : MP} {E : En} {m m1 : Ms} {l : List Int} {op : Nat} {A : Int} (h : m1.vals.length = m.vals.length) : (act P E m m1 l op A).2.vals.length = m.vals.length := by
  unfold act
  split
  case h_5 => exact put_len _ _ _ _
  case h_7 => dsimp only; split <;> exact h
  case h_8 => split <;> exact h
  case h_11 => split <;> exact h
  all_goals exact h
theorem step_vals {P : MP} {E : En} {m : Ms} : (stepM P E m).2.vals.length = m.vals.length := by
  unfold stepM
  split
  · unfold does
    dsimp only
    split
    · rfl
    split
    · rfl
    exact act_vals rfl
  · rfl
theorem runs_vals {P : MP} {E : En} {m m' : Ms} {N : Nat} {er : Int} (h : Runs P E m N er m') : m'.vals.length = m.vals.length := by
  induction h with
  | over _ => rfl
  | bad _ _ => exact step_vals
  | step _ _ _ ih => exact ih.trans step_vals
theorem firsts_len : ∀ (l acc : List Pt), (l.foldl addF acc).length ≤ acc.length + l.length
  | [], acc => by simp
  | p :: l, acc => by
    have := firsts_len l (addF acc p)
    have h2 : (addF acc p).length ≤ acc.length + 1 := by unfold addF; split <;> simp
    simp only [List.foldl_cons, List.length_cons]
    omega
theorem ActR.ext' {H' : Heap} (h : Ext H H') {x : AP} (hx : ActR H x) : ActR H' x := hx.upd h fun _ _ h => h
theorem firsts_sub : ∀ (l acc : List Pt) (P : Pt → Prop), (∀ p ∈ acc, P p) → (∀ p ∈ l, P p) → ∀ p ∈ l.foldl addF acc, P p
  | [], _, _, ha, _ => ha
  | q :: l, acc, P, ha, hl => by
    refine firsts_sub l _ P (fun p hp => ?_) fun p hp => hl p (by simp [hp])
    unfold addF at hp
    split at hp
    · rcases List.mem_append.1 hp with hp | hp
      · exact ha p hp
      · rw [List.mem_singleton.1 hp]; exact hl q (by simp)
    · exact ha p hp
theorem init_ok {P : MP} {E : En} {ps : List Pt} (hP : POk P) (h : ∀ p ∈ ps, All64 p.vals) : MOk P (initM P E (firsts ps)) where
  low := fun a ha => by cases ha
  top := ⟨.inl rfl, by simp [initM], (fun x hx => by cases hx), locals_len _ _ (by simp), locals_64 (fun x hx => by cases hx), by dsimp only [initM]; omega⟩
  lowl := Nat.zero_le _
  vals := firsts_sub ps [] (fun p => All64 p.vals) (fun p hp => by cases hp) h
  dice := newS_bd _ _ _ _
  since := by dsimp only [initM]; omega
  steps := by dsimp only [initM]; omega
  kept := Nat.zero_le _
  keptK := fun p hp => by cases hp
  cmds := Nat.zero_le _
  evs := Nat.zero_le _
theorem parts_apart {es : List PtP} (hA : es.Pairwise fun p q => Apart p.sl q.sl) {ks : List Int} (hk : ks.Nodup) : ((partsOf es ks).map PtP.sl).Pairwise Apart := by
  rw [List.pairwise_map]
  unfold partsOf
  rw [List.pairwise_filterMap]
  refine hk.imp fun {a a'} hne q hq q' hq' => ?_
  have h1 := List.mem_of_find?_eq_some hq
  have h2 := List.mem_of_find?_eq_some hq'
  have e1 : q.kind = a := by have := List.find?_some hq; simpa using this
  have e2 : q'.kind = a' := by have := List.find?_some hq'; simpa using this
  obtain ⟨i, hi, ei⟩ := List.getElem_of_mem h1
  obtain ⟨j, hj, ej⟩ := List.getElem_of_mem h2
  have hij : i ≠ j := fun e => by subst e; exact hne (by rw [← e1, ← e2, ← ei, ← ej])
  rcases Nat.lt_or_ge i j with h | h
  · have := List.pairwise_iff_getElem.1 hA i j hi hj h
    rw [ei, ej] at this; exact this
  · have := List.pairwise_iff_getElem.1 hA j i hj hi (by omega)
    rw [ei, ej] at this; exact this.symm
theorem parts_mem {es : List PtP} {ks : List Int} {q : PtP} (h : q ∈ partsOf es ks) : q ∈ es := by
  obtain ⟨k, _, hk⟩ := List.mem_filterMap.1 h
  exact List.mem_of_find?_eq_some hk
abbrev RunT : RTy := .one (.agg [.sl, .sl, .sl, (.int .i64), (.int .i64)])
theorem s_Run (hin : InputOk) {p : Sl × Sl} {ss : List Sy} {fs : List Rou} {n : Int} {e : EnV} {ps0 : List PtP} {ins : List (Int × Int × Int)} (hss : RN sysV 8 H p.1 ss) (hn : 0 ≤ n ∧ n < (ss.length : Int)) (hc : CtxR H p.2 (ss[n.toNat]!) e.inS fs ins) (hsc : CodeR H (ss[n.toNat]!).rou)
    (hps : RN ptV 2 H e.rp ps0) (hpr : ∀ q ∈ ps0, RL (Value.int .i64) H q.sl q.vals ∧ q.vals.length ≤ 2 ^ 44 ∧ All64 q.vals) (hpl : ps0.length ≤ 2 ^ 42) (hwl : ((ss[n.toNat]!).l 3).length ≤ 2 ^ 44) (hP : POk (mpS (ss[n.toNat]!) n fs)) (hE : EOk (enS e ins)) {k : Sl × Sl × Sl × Int × Int → Heap → Prop}
    (hbad : ∀ H' N er m', Ext H H' → Runs (mpS (ss[n.toNat]!) n fs) (enS e ins) (initM (mpS (ss[n.toNat]!) n fs) (enS e ins) (firsts (ps0.map PtP.pt))) N er m' → er ≠ 0 → k (⟨none, 0, 0⟩, ⟨none, 0, 0⟩, ⟨none, 0, 0⟩, m'.steps, er) H')
    (hok : ∀ H' N m' vs cs es (ps : List PtP) (cl : List CmP) (q : List PtP), Ext H H' → Runs (mpS (ss[n.toNat]!) n fs) (enS e ins) (initM (mpS (ss[n.toNat]!) n fs) (enS e ins) (firsts (ps0.map PtP.pt))) N 0 m' → OutR H.size H' vs cs es ps cl m'.evs → m'.cmds = cl.map CmP.cm → m'.vals = q.map PtP.pt →
      (q.map PtP.kind).Nodup → ps = partsOf q (Lib.compact (((ss[n.toNat]!).l 3).mergeSort fun a b => decide (a ≤ b))) → k (vs, cs, es, m'.steps, 0) H') :
    CallT Pg f_machine_Run [.agg #[.slice p.1.a p.1.len p.1.cap, .slice p.2.a p.2.len p.2.cap], .int .i64 n, envA e] RunT H k := by
  refine c_machine_Run p n (e.fr, e.sd, e.en, e.inS, e.ix, e.gn, e.rp) ?_
  unfold v_machine_Run
  have hsl := hss.len
  have hlt : n.toNat < ss.length := by omega
  generalize hs : ss[n.toNat]! = s at *
  have hku : (Lib.compact ((s.l 3).mergeSort fun a b => decide (a ≤ b))).Nodup := (sortU_ok (s.l 3)).1.imp fun {a b} h => (show a ≠ b by omega)
  refine Nw_row (vs := [slV p.1, slV p.2]) fun b1 H1 hb1 hE1 hz1 hr1 => ?_
  refine Nw_row (vs := envL e) fun b2 H2 hb2 hE2 hz2 hr2 => ?_
  refine Nw_row (vs := [.slice none 0 0, .slice none 0 0, .slice none 0 0, .int .i64 0, .int .i64 0]) fun b3 H3 hb3 hE3 hz3 hr3 => ?_
  have hE03 : Ext H H3 := (hE1.trans hE2 fun _ _ h => h).trans hE3 fun _ _ h => h
  have hE13 : Ext H1 H3 := hE2.trans hE3 fun _ _ h => h
  have rp : ∀ {H'}, Ext H3 H' → Row H' b1 T_api_Program [slV p.1, slV p.2] := fun h => h.row (hE13.row hr1 fun h => h) fun h => h
  have re : ∀ {H'}, Ext H3 H' → Row H' b2 T_api_Env (envL e) := fun h => h.row (hE3.row hr2 fun h => h) fun h => h
  have ro : ∀ {H'}, Ext H3 H' → Row H' b3 T_api_Outcome [.slice none 0 0, .slice none 0 0, .slice none 0 0, .int .i64 0, .int .i64 0] := fun h => h.row hr3 fun h => h
  simp only [adr_add, mk_add, NilCk_some]
  refine Jn.mk (fun j H' => H3 = H' ∧ j = false) (fun kk hkk => ?_) ?_
  · exact Br_dec (fun h => by omega) fun h => Ld_sl (s := p.1) (((rp (.refl _ _)).cell 0).trans rfl) (hkk _ _ ⟨rfl, decide_eq_false (by omega)⟩)
  rintro j _ ⟨rfl, rfl⟩
  rw [Br_false]
  refine ⟨p, (rp (.refl _ _)).rd_all, Ld_sl (s := p.1) (((rp (.refl _ _)).cell 0).trans rfl) ?_⟩
  refine IxA_rn' sysV_len (hss.ext hE03) (by decide) (j := n.toNat) (by omega) hlt fun a1 ha1 => ?_
  rw [hs] at ha1
  refine ⟨(s.s 0, s.s 1, s.s 2, s.s 3, s.rou.name, s.rou.params, s.rou.locals, s.rou.sl), ha1, ⟨(e.fr, e.sd, e.en, e.inS, e.ix, e.gn, e.rp), (re (.refl _ _)).rd_all, ?_⟩⟩
  refine MkM_i fun mp H4 hmp hE4 hz4 hm4 => ?_
  have hmp' : H3.size ≤ mp := by omega
  have tac : ∀ {H'}, Ext H3 H' → (hcells H' a1 0 (sysV s) ∧ Row H' b1 T_api_Program [slV p.1, slV p.2] ∧ Row H' b2 T_api_Env (envL e)) := fun h => ⟨hcells_ext h ha1, rp h, re h⟩
  refine Stab_all (fun y hy => ?_) ?_
  · obtain ⟨g1, g2, g3⟩ := tac hE4
    simp only [hcells, sysV, Nat.zero_add] at g1
    simp only [List.mem_cons, List.not_mem_nil, or_false] at hy
    rcases hy with rfl | rfl | rfl | rfl | rfl | rfl | rfl | rfl | rfl | rfl | rfl | rfl | rfl | rfl | rfl | rfl | rfl | rfl
    all_goals first | exact (g3.cell 0).trans rfl | exact (g3.cell 1).trans rfl | exact (g3.cell 2).trans rfl | exact (g3.cell 3).trans rfl | exact (g3.cell 4).trans rfl | exact (g3.cell 5).trans rfl | exact (g3.cell 6).trans rfl | exact g1.1 | exact g1.2.1 | exact g1.2.2.1 | exact g1.2.2.2.1 | exact g1.2.2.2.2.1 | exact g1.2.2.2.2.2.1 | exact g1.2.2.2.2.2.2.1 | exact g1.2.2.2.2.2.2.2.1 | exact (g2.cell 0).trans rfl | exact (g2.cell 1).trans rfl
  refine Nw_row (vs := (runV (g0 p s n e mp 0)).set 26 (.pointer none)) fun b H5 hb hE5 hz5 hr5 => ?_
  have hE35 : Ext H3 H5 := hE4.trans hE5 fun _ _ h => h
  refine Stab_all (fun y hy => ?_) ?_
  · obtain ⟨g1, g2, g3⟩ := tac hE35
    simp only [hcells, sysV, Nat.zero_add] at g1
    simp only [List.mem_cons, List.not_mem_nil, or_false] at hy
    rcases hy with rfl | rfl | rfl | rfl | rfl | rfl | rfl | rfl | rfl | rfl | rfl | rfl | rfl | rfl | rfl | rfl | rfl | rfl
    all_goals first | exact (g3.cell 0).trans rfl | exact (g3.cell 1).trans rfl | exact (g3.cell 2).trans rfl | exact (g3.cell 3).trans rfl | exact (g3.cell 4).trans rfl | exact (g3.cell 5).trans rfl | exact (g3.cell 6).trans rfl | exact g1.1 | exact g1.2.1 | exact g1.2.2.1 | exact g1.2.2.2.1 | exact g1.2.2.2.2.1 | exact g1.2.2.2.2.2.1 | exact g1.2.2.2.2.2.2.1 | exact g1.2.2.2.2.2.2.2.1 | exact (g2.cell 0).trans rfl | exact (g2.cell 1).trans rfl
  have re5 := re hE35
  refine Ld_int (n := e.sd) ((re5.cell 1).trans rfl) (Ld_int (n := e.fr) ((re5.cell 0).trans rfl) (Ld_int (n := e.ix) ((re5.cell 4).trans rfl) ?_))
  refine s_dice_New _ _ _ _ fun H6 hE6 hd6 => ?_
  have hE36 := hE35.trans hE6 fun _ _ h => h
  have hr6 := hE6.row hr5 fun h => h
  generalize hdp : H5.size = dp at *
  refine St_row hr6 (by simp) fun H7 hU7 hz7 hr7 => ?_
  have hr7 : Row H7 b T_machine_run (runV (g0 p s n e mp dp)) := hr7
  have hE37 : Ext H3 H7 := extUpd hE36 (by omega) hU7
  have hd7 : Row H7 dp T_dice_Dice [.int .u64 (newS e.sd e.fr n e.ix)] := hU7.row (show Row H6 dp T_dice_Dice _ from hd6) (by omega)
  have hm7 : H7[mp]? = some (.map ⟨mapEnts 0 []⟩ ([] : List PtP).length) := hU7.keep (hE6.keep (hE5.keep hm4 fun h => h) fun h => h) (by omega)
  refine Ld_sl (s := e.rp) (((re hE37).cell 6).trans rfl) ?_
  have hpl' := hps.len
  refine LoopT.mk (fun i H' => ∃ m : Nat, ∃ es, i = m ∧ m ≤ ps0.length ∧ Ext H3 H' ∧ EsR H3.size H' mp es ∧ es.map PtP.pt = firsts ((ps0.take m).map PtP.pt) ∧ Row H' b T_machine_run (runV (g0 p s n e mp dp)) ∧ Row H' dp T_dice_Dice [.int .u64 (newS e.sd e.fr n e.ix)])
    (fun i _ => ps0.length - i.toNat) ⟨0, [], rfl, Nat.zero_le _, hE37, ⟨hm7, hmp', fun q hq => (by cases hq), fun q hq => (by cases hq), List.Pairwise.nil, List.Pairwise.nil⟩, rfl, hr7, hd7⟩ ?_
  rintro next _ H8 ⟨m, es, rfl, hm, hE8, he8, hf8, hr8, hd8⟩ hnext
  refine Br_dec (fun hlt => ?_) fun hge => ?_
  · have hm2 : m < ps0.length := by omega
    simp only [Jn]
    have hg : ps0[m]! = ps0[m] := getElem!_pos ps0 m hm2
    refine IxA_rn' ptV_len (hps.ext (hE03.trans hE8 fun _ _ h => h)) (by decide) rfl hm2 fun a3 ha3 => ?_
    rw [hg] at ha3
    refine ⟨(ps0[m].kind, ps0[m].sl), ha3, ?_⟩
    refine Nw_row (vs := [.int .i64 0, .slice none 0 0]) fun b5 H9 hb5 hE9 hz9 hr9 => ?_
    refine St_row hr9 (by simp) fun H10 hU10 _ hr10 => St_row hr10 (by simp) fun H11 hU11 _ hr11 => ?_
    have hE811 : Ext H8 H11 := extUpd hE9 (by omega) (hU10.trans hU11 fun _ _ e => e)
    have hE11 := hE8.trans hE811 fun _ _ h => h
    have he11 : EsR H3.size H11 mp es := ⟨hE811.keep he8.map fun h => h, he8.mlo, fun q hq => (he8.esR q hq).ext hE811, he8.eslo, he8.esA, he8.esK⟩
    have hrm := hpr _ (List.getElem_mem hm2)
    refine fill_step (g := g0 p s n e mp dp) (q := ps0[m]) (b5 := b5) rfl hE11 he11 (hE811.row hr8 fun h => h) (by omega) (hrm.1.ext hE03) hrm.2.1 hr11 (by have := hE8.size; omega) fun H12 es' hU12 he12 hf12 => ?_
    have hE12 : Ext H3 H12 := hE11.trans hU12 fun x hx e => by have e : x = mp := e; omega
    refine Lt.mk (u := ((m + 1 : Nat) : Int)) (by rw [wrap_i64_id (by omega) (by omega)]; omega) (hnext _ _ ⟨m + 1, es', rfl, hm2, hE12, he12, ?_, ?_, ?_⟩ (by omega))
    · rw [hf12, hf8, List.take_add_one, List.getElem?_eq_getElem hm2, Option.toList_some, List.map_append, List.map_cons, List.map_nil, firsts_snoc]
    · exact hU12.row (hE811.row hr8 fun h => h) (show ¬ b = mp by omega)
    · have := hE5.size; have := hE6.size
      exact hU12.row (hE811.row hd8 fun h => h) (show ¬ dp = mp by omega)
  have hm3 : m = ps0.length := by omega
  rw [hm3, List.take_length] at hf8
  refine ⟨(s.rou.name, s.rou.params, s.rou.locals, s.rou.sl), ?_, ?_⟩
  · rw [hcells_iff]
    intro o ho
    have ho : o < 4 := ho
    rw [mk_add, hr8.cell]
    match o, ho with
    | 0, _ => rfl
    | 1, _ => rfl
    | 2, _ => rfl
    | 3, _ => rfl
  refine s_activate (r := s.rou) (ps := ⟨none, 0, 0⟩) (l := []) rfl rfl rfl (by simp) fun H9 t hE9 ht9 hf9 htr htl hts htn => ?_
  refine Nw_row (vs := [.pointer (some (adr t.p))]) fun b7 H10 hb7 hE10 hz10 hr10 => ?_
  have hE810 := hE9.trans hE10 fun _ _ h => h
  have hrun10 := hE810.row hr8 fun h => h
  refine St_row hrun10 (by simp) fun H11 hU11 hz11 hr11 => ?_
  have hb8 := hr8.lt
  have hE11 : Ext H3 H11 := extUpd (hE8.trans hE810 fun _ _ h => h) (by omega) hU11
  have ne8 : ∀ {x : Nat}, H8.size ≤ x → ¬ x = b := fun h e => by omega
  have he11 : EsR H3.size H11 mp es := ⟨hU11.keep (hE810.keep he8.map fun h => h) (show ¬ mp = b by omega), he8.mlo, fun q hq => ((he8.esR q hq).ext hE810).upd hU11 fun x hx e => (he8.esR q hq).ne hx hr8 (by decide) e, he8.eslo, he8.esA, he8.esK⟩
  obtain ⟨c, hmac⟩ := mac_init (n := n) (p := p) (s := s) (e := e) (t := t) hE11 he11 hr11 (by omega) (hU11.row (hE810.row hd8 fun h => h) (show ¬ dp = b by omega)) (by have := hE5.size; have := hE35.size; omega) ((ActR.ext' hE10 ht9).upd hU11 fun x hx => ne8 (hf9 x hx)) (fun x hx => ⟨by have := hf9 x hx; have := hE8.size; omega, fun q hq e' => by have := (he8.esR q hq).lt e'; have := hf9 x hx; omega⟩) (hU11.row hr10 (ne8 (by have := hE9.size; omega))) (by have := hE8.size; have := hE9.size; omega) (by rw [htr]; exact hsc.ext hE03)
  generalize hx0 : (⟨c, b, { g0 p s n e mp dp with ls := ⟨some (adr b7), 1, 1⟩ }, [], t, es, newS e.sd e.fr n e.ix, [], [], []⟩ : MG) = x0 at hmac
  have hm0 : x0.ms = initM (mpS s n fs) (enS e ins) (firsts (ps0.map PtP.pt)) := by
    rw [← hx0]
    simp only [MG.ms, initM, AP.act, htr, htl, hts, htn, hf8, List.map_nil]
  have hst0 : stat x0.g = stat (g0 p s n e mp dp) := by rw [← hx0]
  have hb0 : x0.b = b := by rw [← hx0]
  have her0 : x0.g.er = 0 := by rw [← hx0]
  have hmo := init_ok (E := enS e ins) hP (ps := ps0.map PtP.pt) fun p hp => by
    obtain ⟨q, hq, rfl⟩ := List.mem_map.1 hp
    exact (hpr q hq).2.2
  rw [← hm0] at hmo hbad hok
  have hctx := hc.ext hE03
  refine LoopT.ghost (fun m _ H' => ∃ x, m = ((2001 - x.g.st) * 40001 + (40000 - x.g.si)).toNat ∧ MacR H3 H' x ∧ x.b = b ∧ stat x.g = stat (g0 p s n e mp dp) ∧ x.g.er = 0 ∧ MOk (mpS s n fs) x.ms ∧ (∀ N er m', Runs (mpS s n fs) (enS e ins) x.ms N er m' → ∃ N', Runs (mpS s n fs) (enS e ins) x0.ms N' er m')) _
    ⟨x0, rfl, hmac, hb0, hst0, her0, hmo, fun N er m' h => ⟨N, h⟩⟩ ?_
  rintro next2 m _ H12 ⟨x, rfl, hx, hxb, hxs, hxe, hxm, hxr⟩ hnext2
  have emp : mpOf x.g fs = mpS s n fs := stat_mp hxs fs
  have een : enOf x.g ins = enS e ins := stat_en hxs ins
  obtain ⟨q1, q2, q3, _⟩ := stat_ctx hxs
  have hcx : CtxR H3 x.g.pF x.g.s x.g.inS fs ins := by rw [q1, q2, q3]; exact hctx
  subst hxb
  refine Ld_bool (n := x.g.ov) ((hx.run.1.cell 28).trans rfl) (Br.mk (fun hov => ?_) fun hov => ?_)
  · have hov : x.g.ov = false := by simpa using hov
    simp only [Jn]
    refine run_turn hin hx hcx hxe (by rw [emp]; exact hP) (by rw [een]; exact hE) (by rw [emp]; exact hxm) hov (fun H13 x' er N m' hx' hb' hrn hne hst => ?_) fun H13 x' hx' hb' hs' he' hm' hr' hlt' => ?_
    · have hbn : (er != 0) = true := by simp [hne]
      rw [hbn, Br_true]
      rw [emp, een] at hrn
      obtain ⟨N', hN'⟩ := hxr N er m' hrn
      refine Ld_int (n := x'.g.st) (by have := hx'.run.1; rw [hb'] at this; exact (this.cell 24).trans rfl) ?_
      have hr13 := ro hx'.base
      refine St_row hr13 (by simp) fun G1 hU1 _ hg1 => St_row hg1 (by simp) fun G2 hU2 _ hg2 => St_row hg2 (by simp) fun G3 hU3 _ hg3 => St_row hg3 (by simp) fun G4 hU4 _ hg4 => St_row hg4 (by simp) fun G5 hU5 _ hg5 => ?_
      refine ⟨(⟨none, 0, 0⟩, ⟨none, 0, 0⟩, ⟨none, 0, 0⟩, x'.g.st, er), hg5.rd_all, ?_⟩
      rw [hst]
      have hUU := (((hU1.trans hU2 fun _ _ e => e).trans hU3 fun _ _ e => e).trans hU4 fun _ _ e => e).trans hU5 fun _ _ e => e
      exact hbad G5 N' er m' (extUpd (b := b3) (hE03.trans hx'.base fun _ _ h => h) (by have := hE1.size; have := hE2.size; omega) hUU) hN' hne
    · have hbn : ((0 : Int) != 0) = false := by decide
      rw [hbn, Br_false]
      exact hnext2 _ _ _ hlt' ⟨x', rfl, hx', hb', hs'.trans hxs, he', by rw [← emp]; exact hm', fun N er m' hrn => hxr _ _ _ (by rw [← emp, ← een]; exact hr' N er m' (by rw [emp, een]; exact hrn))⟩
  · have hov : x.g.ov = true := by simpa using hov
    obtain ⟨N, hN⟩ := hxr 0 0 x.ms (.over hov)
    have hlo := hx.base.size
    have hxe2 : x.es.length ≤ 2 ^ 42 := by
      have h4 : x.es.length = (firsts (ps0.map PtP.pt)).length := by
        have h5 : x.ms.vals.length = x0.ms.vals.length := runs_vals hN
        rw [hm0] at h5
        simpa [initM] using h5
      have h3 := firsts_len (ps0.map PtP.pt) []
      rw [List.length_map] at h3
      unfold firsts at h4
      simp only [List.length_nil] at h3
      omega
    refine s_written hx hcx (by rw [q2]; exact hwl) hxe2 fun r H13 hE13' hv13 hf13 => ?_
    rw [q2] at hv13
    have h13 := hx.ext hE13'
    refine St_row h13.run.1 (by simp) fun G0 hU0 _ hg0 => ?_
    have cells : hcells G0 ⟨x.b, 21, none⟩ 0 [slV r, slV x.g.cs, slV x.g.es, .int .i64 x.g.st, .int .i64 x.g.er] := by
      rw [hcells_iff]
      intro o ho
      have ho : o < 5 := ho
      rw [mk_add, hg0.cell]
      match o, ho with
      | 0, _ => rfl
      | 1, _ => rfl
      | 2, _ => rfl
      | 3, _ => rfl
      | 4, _ => rfl
    refine ⟨(r, x.g.cs, x.g.es, x.g.st, x.g.er), cells, ?_⟩
    have b3b : ¬ b3 = x.b := by omega
    have hr13 : Row G0 b3 T_api_Outcome _ := hU0.row (ro h13.base) b3b
    refine St_row hr13 (by simp) fun G1 hU1 _ hg1 => St_row hg1 (by simp) fun G2 hU2 _ hg2 => St_row hg2 (by simp) fun G3 hU3 _ hg3 => St_row hg3 (by simp) fun G4 hU4 _ hg4 => St_row hg4 (by simp) fun G5 hU5 _ hg5 => ?_
    refine ⟨(r, x.g.cs, x.g.es, x.g.st, x.g.er), hg5.rd_all, ?_⟩
    have hUU : Upd (· = b3) G0 G5 := (((hU1.trans hU2 fun _ _ e => e).trans hU3 fun _ _ e => e).trans hU4 fun _ _ e => e).trans hU5 fun _ _ e => e
    have hU : Upd (fun y => y = x.b ∨ y = b3) H13 G5 := (hU0.mono fun _ _ e => .inl e).trans hUU fun _ _ e => .inr e
    have hrb := h13.run.1
    have hrb3 := ro h13.base
    have vu : ∀ {sl : Sl} {vs : List Value}, Vec H13 T_int64 sl vs → Vec G5 T_int64 sl vs := fun hv => hv.upd hU fun c hc e => e.elim (hv.ne hc hrb (by decide)) (hv.ne hc hrb3 (by decide))
    have vn : ∀ {sl : Sl} {T : TypeId} {m : Nat} {vs : List Value}, T ≠ T_machine_run → T ≠ T_api_Outcome → VecN H13 T m sl vs → VecN G5 T m sl vs := fun hT hT2 hv => hv.upd hU fun c hc e => e.elim (hv.ne hc hrb hT) (hv.ne hc hrb3 hT2)
    rw [hxe]
    have hE5 : Ext H G5 := (hE03.trans h13.base fun _ _ h => h).trans hU fun y hy e => by
      have := hx.run.2.1; have := hE03.size; have := hE1.size; have := hE2.size
      rcases e with e | e <;> omega
    have hesr : ∀ {y : PtP}, y ∈ partsOf x.es (Lib.compact ((s.l 3).mergeSort fun a b => decide (a ≤ b))) → y ∈ x.es := parts_mem
    refine hok G5 N x.ms r x.g.cs x.g.es _ x.cl x.es hE5 hN ⟨vn (by decide) (by decide) hv13, fun q hq => vu (h13.esR q (hesr hq)).1, vn (by decide) (by decide) h13.cv.1, fun q hq => ⟨vu (h13.cR q hq).vs.1, vn (by decide) (by decide) (h13.cR q hq).ps.1, fun p hp => vu ((h13.cR q hq).pt p hp).1⟩, vn (by decide) (by decide) h13.ev.1, ?_, ?_, ?_⟩ rfl rfl hx.esK rfl
    · rw [List.pairwise_append]
      refine ⟨parts_apart hx.esA hku, ?_, fun a ha c hc => ?_⟩
      · exact (List.pairwise_append.1 hx.outA).1
      · obtain ⟨q, hq, rfl⟩ := List.mem_map.1 ha
        exact apart_col (hx.esR q (hesr hq)).2 (hx.outCol c (List.mem_append_left _ hc)) (by decide)
    · rw [List.pairwise_cons]
      refine ⟨fun a ha c hc hc' => ?_, hx.parA⟩
      obtain ⟨q, hq, rfl⟩ := List.mem_map.1 ha
      have h1 := hf13 c hc
      have h2 := (hx.cR q hq).ps.1.lt hc'
      omega
    · have l03 := hE03.size
      intro sl hsl' c hcc
      simp only [List.mem_cons, List.mem_append] at hsl'
      rcases hsl' with rfl | rfl | rfl | (h | h) | h
      · have := hf13 c hcc; omega
      · have := (hx.cv.2 c hcc).1; omega
      · have := (hx.ev.2 c hcc).1; omega
      · obtain ⟨q, hq, rfl⟩ := List.mem_map.1 h
        have := ((hx.esR q (hesr hq)).2 c hcc).1; omega
      · have := (hx.outCol sl (List.mem_append_left _ h) c hcc).1; omega
      · obtain ⟨q, hq, rfl⟩ := List.mem_map.1 h
        have := ((hx.cR q hq).ps.2 c hcc).1; omega
end Go.Proofs.YtfpmgpblhhcpgaaGreat
/-
  Machine: a system that is not.
-/
namespace Go.Proofs.YtfpmgpblhhcpgaaGreat
set_option linter.unusedVariables false
set_option linter.unusedSimpArgs false
open Go.Proofs.YtfpmgpblhhcpgaaGreat.Hc Go.Proofs.YtfpmgpblhhcpgaaGreat.Hc.Vf Go.Proofs.YtfpmgpblhhcpgaaGreat.Hc.Mc Go.Proofs.YtfpmgpblhhcpgaaGreat.Hc.Dice
set_option maxRecDepth 100000
variable {H : Heap}

theorem s_Run_no {p : Sl × Sl} {ss : List Sy} {n : Int} {e : EnV} (hss : RN sysV 8 H p.1 ss) (hn : ¬ (0 ≤ n ∧ n < (ss.length : Int))) {k : Sl × Sl × Sl × Int × Int → Heap → Prop} (hk : ∀ H', Ext H H' → k (⟨none, 0, 0⟩, ⟨none, 0, 0⟩, ⟨none, 0, 0⟩, 0, 190) H') :
    CallT Pg f_machine_Run [.agg #[.slice p.1.a p.1.len p.1.cap, .slice p.2.a p.2.len p.2.cap], .int .i64 n, envA e] RunT H k := by
  refine c_machine_Run p n (e.fr, e.sd, e.en, e.inS, e.ix, e.gn, e.rp) ?_
  unfold v_machine_Run
  have hsl := hss.len
  refine Nw_row (vs := [slV p.1, slV p.2]) fun b1 H1 hb1 hE1 hz1 hr1 => ?_
  refine Nw_row (vs := envL e) fun b2 H2 hb2 hE2 hz2 hr2 => ?_
  refine Nw_row (vs := [.slice none 0 0, .slice none 0 0, .slice none 0 0, .int .i64 0, .int .i64 0]) fun b3 H3 hb3 hE3 hz3 hr3 => ?_
  have hE03 : Ext H H3 := (hE1.trans hE2 fun _ _ h => h).trans hE3 fun _ _ h => h
  have hE13 : Ext H1 H3 := hE2.trans hE3 fun _ _ h => h
  have rp := hE13.row hr1 fun h => h
  simp only [adr_add, mk_add, NilCk_some]
  refine Jn.mk (fun j H' => H3 = H' ∧ j = true) (fun kk hkk => ?_) ?_
  · exact Br_dec (fun h => hkk _ _ ⟨rfl, rfl⟩) fun h => Ld_sl (s := p.1) ((rp.cell 0).trans rfl) (hkk _ _ ⟨rfl, decide_eq_true (by omega)⟩)
  rintro j _ ⟨rfl, rfl⟩
  rw [Br_true]
  refine St_row hr3 (by simp) fun G1 hU1 _ hg1 => St_row hg1 (by simp) fun G2 hU2 _ hg2 => St_row hg2 (by simp) fun G3 hU3 _ hg3 => St_row hg3 (by simp) fun G4 hU4 _ hg4 => St_row hg4 (by simp) fun G5 hU5 _ hg5 => ?_
  refine ⟨(⟨none, 0, 0⟩, ⟨none, 0, 0⟩, ⟨none, 0, 0⟩, 0, 190), hg5.rd_all, hk G5 (extUpd (b := b3) hE03 (by have := hE1.size; have := hE2.size; omega) ((((hU1.trans hU2 fun _ _ e => e).trans hU3 fun _ _ e => e).trans hU4 fun _ _ e => e).trans hU5 fun _ _ e => e))⟩
end Go.Proofs.YtfpmgpblhhcpgaaGreat
/-
  Machine: InputOk.
-/
namespace Go.Proofs.YtfpmgpblhhcpgaaGreat
set_option linter.unusedVariables false
set_option linter.unusedSimpArgs false
open Go.RowKit Go.Shelf Go.Proofs.YtfpmgpblhhcpgaaGreat.Hc Go.Proofs.YtfpmgpblhhcpgaaGreat.Hc.Vf Go.Proofs.YtfpmgpblhhcpgaaGreat.Hc.Mc Go.Proofs.YtfpmgpblhhcpgaaGreat.Hc.Dice
set_option maxRecDepth 100000

theorem input_calls (b : Nat) (sv : Value) (p q : Int) (zs : List InX) (hreach : zs.length * 24 ≤ 140737488351232) (w : World) (hbw : b < w.heap.size) (hsl : ∃ a l c, sv = .slice a l c) (hc : w.cell? ⟨b, 14, none⟩ = some sv) (hI : InsAt w.heap.size w sv zs) :
    Calls Tryz.prog 119 #[.pointer (some ⟨b, 0, none⟩), .int .i64 p, .int .i64 q] w fun e W' => Below w.heap.size w W' ∧ e = .returned (.int .i64 (inp zs p q)) :=
  calls_of_every_depth (L := [119, 162, 191]) (n := 5) fun D => (input_in (Fence.list [119, 162, 191] (some D)) 5 (Nat.le_refl _) (by simp [Fence.list]) (by simp [Fence.list]) (by simp [Fence.list]) rfl b sv p q zs hreach w hbw hsl hc hI).mono fun e W' ⟨h1, h2⟩ => ⟨h1, by
    rcases h2 with ⟨rfl, h⟩ | ⟨pre, x, k, hk, e1, hno, hx, rfl⟩
    · rw [inp_done h]
    · rw [inp_stop hk e1 hno hx]⟩
theorem cb_input : Cb Pg f_machine_run_input := ⟨_, Tryz.func119, by kernel_rfl, by kernel_rfl⟩
theorem inputOk : InputOk := fun H0 H x fs ins p q k hm hc hk => by
  have hc := hc.ext hm.base
  refine lib_call cb_input (fun w hw => input_calls x.b (.slice x.g.inS.a x.g.inS.len x.g.inS.cap) p q ins hc.inL w (by rw [hw]; exact hm.run.1.lt) ⟨_, _, _, rfl⟩ ?_ ?_) fun w e w' hw ⟨h1, h2⟩ => ⟨⟨h1.tape, h1.os, h1.output⟩, _, h2, hk w'.heap ⟨by rw [← hw]; exact h1.size, fun b hb _ => by rw [← hw] at hb ⊢; exact h1.block b hb⟩⟩
  · have hr : w.heap[x.b]? = some (.cells ⟨runV x.g⟩ T_machine_run (0, 0)) := by rw [hw]; exact hm.run.1
    simp [World.cell?, hr]
  · have hl := hc.inp.len
    have hr := hc.inp.rd
    cases ha : x.g.inS.a with
    | none =>
      rw [ha] at hr
      have hz : ins.flatMap inV = [] := hr
      have hz2 : ins.length = 0 := by
        have := congrArg List.length hz
        rw [flat_len inV_len] at this
        simp at this; omega
      refine .inl ⟨?_, List.eq_nil_of_length_eq_zero hz2⟩
      rw [hc.inN ha, hl, hz2]
    | some a =>
      obtain ⟨hsp, hlt⟩ := hc.inB a ha
      obtain ⟨ab, ao, asp⟩ := a
      dsimp only at hsp hlt
      subst hsp
      rw [ha] at hr
      have hr : hcells H ⟨ab, ao, none⟩ 0 (ins.flatMap inV) := hr
      refine .inr ⟨ab, ao, x.g.inS.cap, by rw [hl], by rw [hw]; exact hlt, fun j hj => ?_⟩
      rw [hcells_iff] at hr
      have g : ∀ o, o < 3 → w.cell? ⟨ab, ao + j * 3 + o, none⟩ = (inV ins[j])[o]? := fun o ho => by
        have := hr (j * 3 + o) (by rw [flat_len inV_len]; omega)
        rw [mk_add, flat_get inV_len hj ho, Nat.zero_add, ← Nat.add_assoc] at this
        rw [cell?_eq, hw, this]
      have e : elX ins j = ins[j] := by unfold elX; rw [List.getElem?_eq_getElem hj]; rfl
      rw [e]
      exact ⟨g 0 (by omega), g 1 (by omega), g 2 (by omega)⟩
end Go.Proofs.YtfpmgpblhhcpgaaGreat
/-
  Machine: the document's run as it lies in memory.
-/
namespace Go.Proofs.YtfpmgpblhhcpgaaGreat
set_option linter.unusedVariables false
set_option linter.unusedSimpArgs false
open Go.Proofs.YtfpmgpblhhcpgaaGreat.Hc Go.Proofs.YtfpmgpblhhcpgaaGreat.Hc.Vf Go.Proofs.YtfpmgpblhhcpgaaGreat.Hc.Mc Go.Proofs.YtfpmgpblhhcpgaaGreat.Hc.Dice
set_option maxRecDepth 100000
variable {H : Heap}

/-- An activation of the document's as it lies in memory. -/
structure DP where
  p : Nat
  f : Int
  r : Rou
  ls : Sl
  ss : Sl
  loc : List Int
  stk : List Int
  nx : Int
instance : Inhabited DP := ⟨⟨0, 0, default, default, default, [], [], 0⟩⟩
abbrev DP.act (x : DP) : Actn := ⟨fnOf x.r, x.loc, x.stk, x.nx⟩
abbrev dactV (x : DP) : List Value := [.int .i64 x.f, slV x.r.sl, slV x.ls, slV x.ss, .int .i64 x.nx]
structure DActR (H : Heap) (x : DP) : Prop where
  row : Row H x.p T_hindcastref16_activation (dactV x)
  loc : Vec H T_int64 x.ls (ints x.loc)
  stk : Vec H T_int64 x.ss (ints x.stk)
  ap : Apart x.ls x.ss
def DActB (x : DP) (b : Nat) : Prop := b = x.p ∨ x.ls.a = some (adr b) ∨ x.ss.a = some (adr b)
theorem DActR.upd {M : Nat → Prop} {H H' : Heap} (h : Upd M H H') {x : DP} (hx : DActR H x) (hm : ∀ b, DActB x b → ¬ M b) : DActR H' x :=
  ⟨h.row hx.row (hm _ (.inl rfl)), hx.loc.upd h fun b hb => hm b (.inr (.inl hb)), hx.stk.upd h fun b hb => hm b (.inr (.inr hb)), hx.ap⟩
theorem DActR.lt {H : Heap} {x : DP} (hx : DActR H x) {b : Nat} (hb : DActB x b) : b < H.size := by
  rcases hb with rfl | hb | hb
  · exact hx.row.lt
  · exact hx.loc.lt hb
  · exact hx.stk.lt hb
theorem DActR.neS {H : Heap} {x : DP} (hx : DActR H x) {b : Nat} (hb : x.ss.a = some (adr b)) : b ≠ x.p := hx.stk.ne hb hx.row (by decide)
theorem DActR.neL {H : Heap} {x : DP} (hx : DActR H x) {b : Nat} (hb : x.ls.a = some (adr b)) : b ≠ x.p := hx.loc.ne hb hx.row (by decide)
/-- The record of a run. -/
structure DunG where
  pS : Sl
  pF : Sl
  s : Sy
  n : Int
  fr : Int
  sd : Int
  en : Int
  inS : Sl
  ix : Int
  gn : Int
  rp : Sl
  ps : Sl
  ls : Sl
  ks : Sl
  cs : Sl
  es : Sl
  st : Int
  dp : Nat
  si : Int
  ov : Bool
abbrev drunV (g : DunG) : List Value :=
  [slV g.pS, slV g.pF, slV (g.s.s 0), slV (g.s.s 1), slV (g.s.s 2), slV (g.s.s 3), .string g.s.rou.name, .int .i64 g.s.rou.params, .int .i64 g.s.rou.locals, slV g.s.rou.sl, .int .i64 g.n, .int .i64 g.fr, .int .i64 g.sd, .int .i64 g.en,
   slV g.inS, .int .i64 g.ix, .int .i64 g.gn, slV g.rp, slV g.ps, slV g.ls, .pointer (some (adr g.dp)), .int .i64 g.si, slV g.ks, .slice none 0 0, slV g.cs, slV g.es, .int .i64 g.st, .int .i64 0, .bool g.ov]
structure DG where
  c : Col
  b : Nat
  g : DunG
  low : List DP
  top : DP
  es : List PtP
  d : Int
  kp : List PtP
  cl : List CmP
  evs : List Ev
abbrev DG.ms (x : DG) : Ms := ⟨x.low.map DP.act, x.top.act, x.es.map PtP.pt, x.d, x.g.si, x.g.st, x.kp.map PtP.pt, x.cl.map CmP.cm, x.evs, x.g.ov⟩
abbrev dptrs (l : List DP) : List Value := l.map fun x => .pointer (some (adr x.p))
def DActI (c : Col) (lo j : Nat) (x : DP) : Prop := ∀ b, DActB x b → Is c lo j b
theorem flatV_congr : ∀ {l l' : List PtP}, l.map (fun q => (q.kind, q.sl)) = l'.map (fun q => (q.kind, q.sl)) → l.flatMap ptV = l'.flatMap ptV
  | [], [], _ => rfl
  | [], _ :: _, h => by cases h
  | _ :: _, [], h => by cases h
  | x :: r, y :: r', h => by
    simp only [List.map_cons, List.cons.injEq, Prod.mk.injEq] at h
    simp only [List.flatMap_cons, flatV_congr h.2]
    have e : ptV x = ptV y := by show [Value.int .i64 x.kind, slV x.sl] = _; rw [h.1.1, h.1.2]
    rw [e]
structure DocR (H0 H : Heap) (x : DG) : Prop where
  base : Ext H0 H
  run : RowC x.c H0.size 200 H x.b T_hindcastref16_run (drunV x.g)
  lv : VecC x.c H0.size 201 H T_P_hindcastref16_activation x.g.ls (dptrs (x.low ++ [x.top]))
  lowR : ∀ i (h : i < x.low.length), DActR H x.low[i] ∧ DActI x.c H0.size i x.low[i]
  topR : DActR H x.top
  topI : DActI x.c H0.size x.low.length x.top
  codes : ∀ a ∈ x.low ++ [x.top], CodeR H0 a.r
  lowl : x.low.length ≤ 16
  dice : RowC x.c H0.size 205 H x.g.dp T_hindcastref08_Dice [.int .u64 x.d]
  pv : VecNC x.c H0.size 206 H T_api_Part 2 x.g.ps (x.es.flatMap ptV)
  esR : ∀ q ∈ x.es, PtR x.c H0.size 100 H q
  esA : x.es.Pairwise fun p q => Apart p.sl q.sl
  fsg : (x.low ++ [x.top]).map (fun a => decide (0 ≤ a.f)) = false :: List.replicate x.low.length true
  kv : VecNC x.c H0.size 202 H T_api_Part 2 x.g.ks (x.kp.flatMap ptV)
  kR : ∀ q ∈ x.kp, PtR x.c H0.size 101 H q
  cv : VecNC x.c H0.size 203 H T_api_Command 6 x.g.cs (x.cl.flatMap cmV)
  cR : ∀ q ∈ x.cl, CmR x.c H0.size H q
  outA : (outL x.cl x.kp).Pairwise Apart
  parA : (x.cl.map CmP.psl).Pairwise Apart
  ev : VecNC x.c H0.size 204 H T_api_Event 5 x.g.es (x.evs.flatMap evV)
theorem DActI.agr {c c' : Col} {lo j : Nat} {H : Heap} (h : Agr j H.size c c') {x : DP} (hx : DActR H x) (hi : DActI c lo j x) : DActI c' lo j x := fun b hb => ⟨(hi b hb).1, h b (hx.lt hb) (hi b hb).2⟩
theorem DActR.tch {c : Col} {lo j : Nat} {S : Nat → Prop} {H H' : Heap} (h : Tch c lo S H H') (hj : ¬ S j) {x : DP} (hx : DActR H x) (hi : DActI c lo j x) : DActR H' x :=
  hx.upd h fun b hb e => hj ((hi b hb).2 ▸ e.2)
/-- What a touch of colours S leaves, with new colours c'. -/
structure DFr (H0 H' : Heap) (x : DG) (c' : Col) (S : Nat → Prop) : Prop where
  base : Ext H0 H'
  run : ¬ S 200 → RowC c' H0.size 200 H' x.b T_hindcastref16_run (drunV x.g)
  lv : ¬ S 201 → VecC c' H0.size 201 H' T_P_hindcastref16_activation x.g.ls (dptrs (x.low ++ [x.top]))
  lowR : ∀ i (h : i < x.low.length), ¬ S i → DActR H' x.low[i] ∧ DActI c' H0.size i x.low[i]
  topR : ¬ S x.low.length → DActR H' x.top ∧ DActI c' H0.size x.low.length x.top
  dice : ¬ S 205 → RowC c' H0.size 205 H' x.g.dp T_hindcastref08_Dice [.int .u64 x.d]
  pv : ¬ S 206 → VecNC c' H0.size 206 H' T_api_Part 2 x.g.ps (x.es.flatMap ptV)
  esR : ¬ S 100 → ∀ q ∈ x.es, PtR c' H0.size 100 H' q
  kv : ¬ S 202 → VecNC c' H0.size 202 H' T_api_Part 2 x.g.ks (x.kp.flatMap ptV)
  kR : ¬ S 101 → ∀ q ∈ x.kp, PtR c' H0.size 101 H' q
  cv : ¬ S 203 → VecNC c' H0.size 203 H' T_api_Command 6 x.g.cs (x.cl.flatMap cmV)
  cR : ¬ S 101 → ¬ S 207 → ∀ q ∈ x.cl, CmR c' H0.size H' q
  ev : ¬ S 204 → VecNC c' H0.size 204 H' T_api_Event 5 x.g.es (x.evs.flatMap evV)
theorem DocR.fr {H0 H H' : Heap} {x : DG} (h : DocR H0 H x) {S : Nat → Prop} (ht : Tch x.c H0.size S H H') {c' : Col} (hA : ∀ j, ¬ S j → Agr j H.size x.c c') : DFr H0 H' x c' S where
  base := ht.ext h.base
  run := fun hj => h.run.mv ht hj (hA _ hj)
  lv := fun hj => h.lv.mv ht hj (hA _ hj)
  lowR := fun i hi hj => ⟨DActR.tch ht hj (h.lowR i hi).1 (h.lowR i hi).2, (h.lowR i hi).2.agr (hA _ hj) (h.lowR i hi).1⟩
  topR := fun hj => ⟨DActR.tch ht hj h.topR h.topI, h.topI.agr (hA _ hj) h.topR⟩
  dice := fun hj => h.dice.mv ht hj (hA _ hj)
  pv := fun hj => h.pv.mv ht hj (hA _ hj)
  esR := fun hj q hq => (h.esR q hq).mv ht hj (hA _ hj)
  kv := fun hj => h.kv.mv ht hj (hA _ hj)
  kR := fun hj q hq => (h.kR q hq).mv ht hj (hA _ hj)
  cv := fun hj => h.cv.mv ht hj (hA _ hj)
  cR := fun hj hj2 q hq => ⟨(h.cR q hq).vs.mv ht hj (hA _ hj), (h.cR q hq).ps.mv ht hj2 (hA _ hj2), fun p hp => ((h.cR q hq).pt p hp).mv ht hj (hA _ hj)⟩
  ev := fun hj => h.ev.mv ht hj (hA _ hj)
/-- The top's activation was turned, and nothing else. -/
theorem DocR.top {H0 H H' : Heap} {x : DG} (h : DocR H0 H x) {t : DP} (ht : Tch x.c H0.size (· = x.low.length) H H') (hr : DActR H' t) (hp : t.p = x.top.p) (hrou : t.r = x.top.r) (hff : t.f = x.top.f)
    {d : Col} (hb : ∀ b, DActB t b → DActB x.top b ∨ (H.size ≤ b ∧ d b = x.low.length)) : DocR H0 H' { x with top := t, c := dye H.size x.c d } := by
  have hl := h.lowl
  have f := h.fr ht (dyeA _ H.size x.c d)
  exact { h with
    base := f.base
    run := f.run (by omega)
    lv := by
      have := f.lv (by omega)
      simpa [dptrs, hp] using this
    lowR := fun i (hi : i < x.low.length) => f.lowR i hi (by omega)
    topR := hr
    topI := fun b hbb => by
      rcases hb b hbb with e | e
      · exact is_dye (h.topI b e) (h.topR.lt e)
      · exact is_new h.base.size e.1 e.2
    codes := fun a ha => by
      rcases List.mem_append.1 ha with ha | ha
      · exact h.codes a (List.mem_append_left _ ha)
      · rw [List.mem_singleton.1 ha, hrou]; exact h.codes _ (by simp)
    fsg := by have := h.fsg; simpa [hff] using this
    dice := f.dice (by omega)
    pv := f.pv (by omega)
    esR := f.esR (by omega)
    kv := f.kv (by omega)
    kR := f.kR (by omega)
    cv := f.cv (by omega)
    cR := f.cR (by omega) (by omega)
    ev := f.ev (by omega) }
/-- Blocks that are new, and nothing else. -/
theorem DocR.ext {H0 H H' : Heap} {x : DG} (h : DocR H0 H x) (he : Ext H H') : DocR H0 H' x := by
  have f := h.fr (S := fun _ => False) (Tch.ofExt he) (c' := x.c) fun j _ y _ e => e
  exact { h with
    base := f.base, run := f.run id, lv := f.lv id, lowR := fun i hi => f.lowR i hi id, topR := (f.topR id).1, dice := f.dice id, pv := f.pv id, esR := f.esR id, kv := f.kv id, kR := f.kR id, cv := f.cv id, cR := f.cR id id, ev := f.ev id }
/-- A number of the record was turned. -/
theorem DocR.num {H0 H H' : Heap} {x : DG} (h : DocR H0 H x) (hu : Upd (· = x.b) H H') {st si : Int} {ov : Bool} (hr : Row H' x.b T_hindcastref16_run (drunV { x.g with st := st, si := si, ov := ov })) :
    DocR H0 H' { x with g := { x.g with st := st, si := si, ov := ov } } := by
  have hl := h.lowl
  have f := h.fr (S := (· = 200)) (tch_row hu h.run.2 rfl) (c' := x.c) fun j _ y _ e => e
  exact { h with
    base := f.base, run := ⟨hr, h.run.2⟩, lv := f.lv (by omega), lowR := fun i (hi : i < x.low.length) => f.lowR i hi (by omega), topR := (f.topR (by omega)).1, dice := f.dice (by omega), pv := f.pv (by omega), esR := f.esR (by omega)
    kv := f.kv (by omega), kR := f.kR (by omega), cv := f.cv (by omega), cR := f.cR (by omega) (by omega), ev := f.ev (by omega) }
/-- The dice fell. -/
theorem DocR.fell {H0 H H' : Heap} {x : DG} (h : DocR H0 H x) (hu : Upd (· = x.g.dp) H H') {d : Int} (hr : Row H' x.g.dp T_hindcastref08_Dice [.int .u64 d]) : DocR H0 H' { x with d := d } := by
  have hl := h.lowl
  have f := h.fr (S := (· = 205)) (tch_row hu h.dice.2 rfl) (c' := x.c) fun j _ y _ e => e
  exact { h with
    base := f.base, run := f.run (by omega), lv := f.lv (by omega), lowR := fun i (hi : i < x.low.length) => f.lowR i hi (by omega), topR := (f.topR (by omega)).1, dice := ⟨hr, h.dice.2⟩, pv := f.pv (by omega), esR := f.esR (by omega)
    kv := f.kv (by omega), kR := f.kR (by omega), cv := f.cv (by omega), cR := f.cR (by omega) (by omega), ev := f.ev (by omega) }
theorem DocR.outCol {H0 H : Heap} {x : DG} (h : DocR H0 H x) : ∀ s ∈ outL x.cl x.kp, IsS x.c H0.size 101 s := fun s hs => by
  rcases List.mem_append.1 hs with hs | hs
  · obtain ⟨q, hq, hs⟩ := List.mem_flatMap.1 hs
    rcases List.mem_cons.1 hs with rfl | hs
    · exact (h.cR q hq).vs.2
    · obtain ⟨p, hp, rfl⟩ := List.mem_map.1 hs
      exact ((h.cR q hq).pt p hp).2
  · obtain ⟨p, hp, rfl⟩ := List.mem_map.1 hs
    exact (h.kR p hp).2
theorem DocR.free {H0 H : Heap} {x : DG} (h : DocR H0 H x) {b : Nat} (hb : x.c b = 999) (e : x.g.ks.a = some (adr b) ∨ b = x.b) : False := by
  rcases e with e | rfl
  · have := (h.kv.2 b e).2; omega
  · have := h.run.2.2; omega
/-- A part was kept. -/
theorem DocR.keep {H0 H H' : Heap} {x : DG} (h : DocR H0 H x) {ks : Sl} {q : PtP} (hu : Upd (fun b => x.g.ks.a = some (adr b) ∨ b = x.b) H H') (hr : Row H' x.b T_hindcastref16_run (drunV { x.g with ks := ks }))
    (hv : VecN H' T_api_Part 2 ks ((x.kp ++ [q]).flatMap ptV)) (hks : ks.a = x.g.ks.a ∨ ∃ b, ks.a = some (adr b) ∧ H.size ≤ b) (hq : Vec H T_int64 q.sl (ints q.vals)) (hqc : IsS x.c H0.size 999 q.sl) :
    DocR H0 H' { x with g := { x.g with ks := ks }, kp := x.kp ++ [q], c := dye H.size (recol x.c 999 101) fun _ => 202 } := by
  have hl := h.lowl
  have ht : Tch x.c H0.size (fun j => j = 202 ∨ j = 200 ∨ j = 999) H H' := Tch.of hu fun b _ e => by
    rcases e with e | rfl
    · exact ⟨(h.kv.2 b e).1, .inl (h.kv.2 b e).2⟩
    · exact ⟨h.run.2.1, .inr (.inl h.run.2.2)⟩
  have f := h.fr ht (agr_recol (n := H.size) (k := 101) (d := fun _ => 202) (.inr (.inr rfl)))
  exact { h with
    base := f.base, run := ⟨hr, is_dye (c := recol x.c 999 101) ⟨h.run.2.1, by unfold recol; rw [h.run.2.2, if_neg (by decide)]⟩ h.run.1.lt⟩
    lv := f.lv (by omega), lowR := fun i (hi : i < x.low.length) => f.lowR i hi (by omega), topR := (f.topR (by omega)).1, topI := (f.topR (by omega)).2, dice := f.dice (by omega), pv := f.pv (by omega), esR := f.esR (by omega)
    kv := ⟨hv, sl_dye h.kv.2 h.base.size hks (fun b hb => h.kv.1.lt hb) (by decide) fun _ _ => rfl⟩
    kR := fun p hp => by
      rcases List.mem_append.1 hp with hp | hp
      · exact f.kR (by omega) p hp
      · rw [List.mem_singleton.1 hp]
        exact ⟨hq.upd hu fun b hb e => h.free (hqc b hb).2 e, fun b hb => is_recol (hqc b hb) (hq.lt hb)⟩
    cv := f.cv (by omega), cR := f.cR (by omega) (by omega), ev := f.ev (by omega)
    outA := by
      have e : outL x.cl (x.kp ++ [q]) = outL x.cl x.kp ++ [q.sl] := by simp [outL]
      rw [e, List.pairwise_append]
      refine ⟨h.outA, List.pairwise_singleton _ _, fun s hs t ht => ?_⟩
      rw [List.mem_singleton.1 ht]
      exact apart_col (h.outCol s hs) hqc (by decide) }
/-- A command went out. -/
theorem DocR.cmd {H0 H H' : Heap} {x : DG} (h : DocR H0 H x) {cs : Sl} {q : CmP} (hu : Upd (fun b => x.g.cs.a = some (adr b) ∨ b = x.b) H H') (hr : Row H' x.b T_hindcastref16_run (drunV { x.g with cs := cs }))
    (hv : VecN H' T_api_Command 6 cs ((x.cl ++ [q]).flatMap cmV)) (hcs : cs.a = x.g.cs.a ∨ ∃ b, cs.a = some (adr b) ∧ H.size ≤ b) (hq : Vec H T_int64 q.vsl (ints q.vals)) (hqc : IsS x.c H0.size 999 q.vsl) (hp : q.parts = []) (hps : q.psl = ⟨none, 0, 0⟩) :
    DocR H0 H' { x with g := { x.g with cs := cs }, cl := x.cl ++ [q], c := dye H.size (recol x.c 999 101) fun _ => 203 } := by
  have hl := h.lowl
  have ht : Tch x.c H0.size (fun j => j = 203 ∨ j = 200 ∨ j = 999) H H' := Tch.of hu fun b _ e => by
    rcases e with e | rfl
    · exact ⟨(h.cv.2 b e).1, .inl (h.cv.2 b e).2⟩
    · exact ⟨h.run.2.1, .inr (.inl h.run.2.2)⟩
  have f := h.fr ht (agr_recol (n := H.size) (k := 101) (d := fun _ => 203) (.inr (.inr rfl)))
  exact { h with
    base := f.base, run := ⟨hr, is_dye (c := recol x.c 999 101) ⟨h.run.2.1, by unfold recol; rw [h.run.2.2, if_neg (by decide)]⟩ h.run.1.lt⟩
    lv := f.lv (by omega), lowR := fun i (hi : i < x.low.length) => f.lowR i hi (by omega), topR := (f.topR (by omega)).1, topI := (f.topR (by omega)).2, dice := f.dice (by omega), pv := f.pv (by omega), esR := f.esR (by omega)
    kv := f.kv (by omega), kR := f.kR (by omega)
    cv := ⟨hv, sl_dye h.cv.2 h.base.size hcs (fun b hb => h.cv.1.lt hb) (by decide) fun _ _ => rfl⟩
    cR := fun p hp' => by
      rcases List.mem_append.1 hp' with hp' | hp'
      · exact f.cR (by omega) (by omega) p hp'
      · rw [List.mem_singleton.1 hp']
        refine ⟨⟨hq.upd hu fun b hb e => ?_, fun b hb => is_recol (hqc b hb) (hq.lt hb)⟩, ?_, fun p hpp => by rw [hp] at hpp; cases hpp⟩
        · rcases e with e | rfl
          · have := (h.cv.2 b e).2; have := (hqc b hb).2; omega
          · have := h.run.2.2; have := (hqc _ hb).2; omega
        · rw [hp, hps]; exact VecNC.nil _ _ _ _ _ _
    ev := f.ev (by omega)
    outA := by
      have e : (outL x.cl x.kp ++ [q.vsl]).Perm (outL (x.cl ++ [q]) x.kp) := by
        simp only [outL, List.flatMap_append, List.flatMap_cons, List.flatMap_nil, List.append_nil, cmSl, hp, List.map_nil, List.append_assoc]
        exact List.perm_append_left_iff _ |>.2 List.perm_append_comm
      refine (e.pairwise_iff fun {a b} h => h.symm).1 ?_
      rw [List.pairwise_append]
      refine ⟨h.outA, List.pairwise_singleton _ _, fun s hs t ht => ?_⟩
      rw [List.mem_singleton.1 ht]
      exact apart_col (h.outCol s hs) hqc (by decide)
    parA := by
      rw [List.map_append, List.pairwise_append]
      refine ⟨h.parA, List.pairwise_singleton _ _, fun s hs t ht => ?_⟩
      rw [List.mem_singleton.1 ht, hps]
      exact apart_nil _ rfl }
/-- An event went out. -/
theorem DocR.event {H0 H H' : Heap} {x : DG} (h : DocR H0 H x) {es : Sl} {q : Ev} (hu : Upd (fun b => x.g.es.a = some (adr b) ∨ b = x.b) H H') (hr : Row H' x.b T_hindcastref16_run (drunV { x.g with es := es }))
    (hv : VecN H' T_api_Event 5 es ((x.evs ++ [q]).flatMap evV)) (hes : es.a = x.g.es.a ∨ ∃ b, es.a = some (adr b) ∧ H.size ≤ b) :
    DocR H0 H' { x with g := { x.g with es := es }, evs := x.evs ++ [q], c := dye H.size (recol x.c 999 101) fun _ => 204 } := by
  have hl := h.lowl
  have ht : Tch x.c H0.size (fun j => j = 204 ∨ j = 200 ∨ j = 999) H H' := Tch.of hu fun b _ e => by
    rcases e with e | rfl
    · exact ⟨(h.ev.2 b e).1, .inl (h.ev.2 b e).2⟩
    · exact ⟨h.run.2.1, .inr (.inl h.run.2.2)⟩
  have f := h.fr ht (agr_recol (n := H.size) (k := 101) (d := fun _ => 204) (.inr (.inr rfl)))
  exact { h with
    base := f.base, run := ⟨hr, is_dye (c := recol x.c 999 101) ⟨h.run.2.1, by unfold recol; rw [h.run.2.2, if_neg (by decide)]⟩ h.run.1.lt⟩
    lv := f.lv (by omega), lowR := fun i (hi : i < x.low.length) => f.lowR i hi (by omega), topR := (f.topR (by omega)).1, topI := (f.topR (by omega)).2, dice := f.dice (by omega), pv := f.pv (by omega), esR := f.esR (by omega)
    kv := f.kv (by omega), kR := f.kR (by omega), cv := f.cv (by omega), cR := f.cR (by omega) (by omega)
    ev := ⟨hv, sl_dye h.ev.2 h.base.size hes (fun b hb => h.ev.1.lt hb) (by decide) fun _ _ => rfl⟩ }
/-- A function was called: another activation. -/
theorem DocR.call {H0 H H' : Heap} {x : DG} (h : DocR H0 H x) (hlt : x.low.length + 1 ≤ 16) {ls : Sl} {t : DP} (hu : Upd (fun b => x.g.ls.a = some (adr b) ∨ b = x.b) H H') (hr : Row H' x.b T_hindcastref16_run (drunV { x.g with ls := ls }))
    (hv : Vec H' T_P_hindcastref16_activation ls (dptrs (x.low ++ [x.top] ++ [t]))) (hls : ls.a = x.g.ls.a ∨ ∃ b, ls.a = some (adr b) ∧ H.size ≤ b) (ht' : DActR H' t) (htb : ∀ b, DActB t b → H.size ≤ b) (hc : CodeR H0 t.r) (hf : 0 ≤ t.f) :
    DocR H0 H' { x with g := { x.g with ls := ls }, low := x.low ++ [x.top], top := t, c := dye H.size (recol x.c 999 101) fun b => if ls.a = some (adr b) then 201 else x.low.length + 1 } := by
  have hl := h.lowl
  have ht : Tch x.c H0.size (fun j => j = 201 ∨ j = 200 ∨ j = 999) H H' := Tch.of hu fun b _ e => by
    rcases e with e | rfl
    · exact ⟨(h.lv.2 b e).1, .inl (h.lv.2 b e).2⟩
    · exact ⟨h.run.2.1, .inr (.inl h.run.2.2)⟩
  have f := h.fr ht (agr_recol (n := H.size) (k := 101) (d := fun b => if ls.a = some (adr b) then 201 else x.low.length + 1) (.inr (.inr rfl)))
  have hne : ∀ b, DActB t b → ls.a ≠ some (adr b) := fun b hb e => by
    rcases hb with rfl | hb | hb
    · exact hv.ne e ht'.row (by decide) rfl
    · rcases ht'.loc.own with ⟨h1, _⟩ | ⟨c, sp, h1, h2, _⟩
      · rw [h1] at hb; cases hb
      · rw [h1] at hb; cases hb; exact hv.ne e h2 (by decide) rfl
    · rcases ht'.stk.own with ⟨h1, _⟩ | ⟨c, sp, h1, h2, _⟩
      · rw [h1] at hb; cases hb
      · rw [h1] at hb; cases hb; exact hv.ne e h2 (by decide) rfl
  exact { h with
    base := f.base, run := ⟨hr, is_dye (c := recol x.c 999 101) ⟨h.run.2.1, by unfold recol; rw [h.run.2.2, if_neg (by decide)]⟩ h.run.1.lt⟩
    lv := ⟨hv, sl_dye h.lv.2 h.base.size hls (fun b hb => h.lv.1.lt hb) (by decide) fun b hb => if_pos hb⟩
    lowR := fun i hi => by
      have hi' : i < x.low.length + 1 := by simpa using hi
      by_cases e : i < x.low.length
      · have := f.lowR i e (by omega)
        simp only [List.getElem_append_left e]; exact this
      · have e : i = x.low.length := by omega
        subst e
        simp only [List.getElem_concat_length]
        exact f.topR (by omega)
    topR := ht'
    topI := fun b hb => by
      refine is_new h.base.size (htb b hb) ?_
      dsimp only
      rw [if_neg (hne b hb)]; simp
    codes := fun a ha => by
      rcases List.mem_append.1 ha with ha | ha
      · exact h.codes a ha
      · rw [List.mem_singleton.1 ha]; exact hc
    lowl := by simpa using hlt
    fsg := by
      have := h.fsg
      rw [List.map_append, this, List.length_append, List.length_singleton, List.replicate_succ']
      simp [hf]
    dice := f.dice (by omega), pv := f.pv (by omega), esR := f.esR (by omega)
    kv := f.kv (by omega), kR := f.kR (by omega), cv := f.cv (by omega), cR := f.cR (by omega) (by omega), ev := f.ev (by omega) }
/-- A function came back: the activation below is the last. -/
theorem DocR.ret {H0 H H' : Heap} {x : DG} (h : DocR H0 H x) {low : List DP} {t : DP} (hlow : x.low = low ++ [t]) {ls : Sl} (hu : Upd (· = x.b) H H') (hr : Row H' x.b T_hindcastref16_run (drunV { x.g with ls := ls }))
    (hv : Vec H' T_P_hindcastref16_activation ls (dptrs (low ++ [t]))) (hls : ls.a = x.g.ls.a) : DocR H0 H' { x with g := { x.g with ls := ls }, low := low, top := t } := by
  have hl := h.lowl
  have hll : x.low.length = low.length + 1 := by rw [hlow]; simp
  have f := h.fr (S := (· = 200)) (tch_row hu h.run.2 rfl) (c' := x.c) fun j _ y _ e => e
  have hlast : x.low[low.length]'(by omega) = t := by simp [hlow]
  exact { h with
    base := f.base, run := ⟨hr, h.run.2⟩, lv := ⟨hv, fun b hb => h.lv.2 b (by rw [← hls]; exact hb)⟩
    lowR := fun i (hi : i < low.length) => by
      have := f.lowR i (by omega) (by omega)
      have e : x.low[i]'(by omega) = low[i] := by simp [hlow, List.getElem_append_left hi]
      rw [e] at this; exact this
    topR := by have := (f.lowR low.length (by omega) (by omega)).1; rw [hlast] at this; exact this
    topI := by have := (f.lowR low.length (by omega) (by omega)).2; rw [hlast] at this; exact this
    codes := fun a ha => h.codes a (by rw [hlow]; exact List.mem_append_left _ ha)
    lowl := by show low.length ≤ 16; omega
    fsg := by
      have := h.fsg
      rw [hlow, List.map_append, List.length_append, List.length_singleton, List.replicate_succ', ← List.cons_append] at this
      exact (List.append_inj' this rfl).1
    dice := f.dice (by omega), pv := f.pv (by omega), esR := f.esR (by omega)
    kv := f.kv (by omega), kR := f.kR (by omega), cv := f.cv (by omega), cR := f.cR (by omega) (by omega), ev := f.ev (by omega) }
/-- A field was put. -/
theorem DocR.put {H0 H H' : Heap} {x : DG} (h : DocR H0 H x) {j : Nat} (hj : j < x.es.length) {b : Nat} (hb : x.es[j].sl.a = some (adr b)) (hu : Upd (· = b) H H') {vs : List Int} (hv : Vec H' T_int64 x.es[j].sl (ints vs)) :
    DocR H0 H' { x with es := x.es.set j { x.es[j] with vals := vs } } := by
  have hl := h.lowl
  have hmem := List.getElem_mem hj
  have hbc := (h.esR _ hmem).2 b hb
  have f := h.fr (S := (· = 100)) (tch_row hu hbc rfl) (c' := x.c) fun j _ y _ e => e
  have hk : ∀ {α : Type} (g : PtP → α), (g { x.es[j] with vals := vs } = g x.es[j]) → (x.es.set j { x.es[j] with vals := vs }).map g = x.es.map g := fun g hg => by
    rw [List.map_set, hg]
    apply List.ext_getElem
    · simp
    · intro i h1 h2
      rw [List.getElem_set]
      split
      · rename_i e; subst e; simp
      · rfl
  exact { h with
    base := f.base, run := f.run (by omega), lv := f.lv (by omega), lowR := fun i (hi : i < x.low.length) => f.lowR i hi (by omega), topR := (f.topR (by omega)).1, dice := f.dice (by omega)
    pv := by
      have := f.pv (by omega)
      dsimp only
      rw [flatV_congr (hk (fun q => (q.kind, q.sl)) rfl)]; exact this
    esR := fun q hq => by
      obtain ⟨i, hi, e⟩ := List.getElem_of_mem hq
      rw [List.length_set] at hi
      rw [List.getElem_set] at e
      split at e
      · subst e; exact ⟨hv, (h.esR _ hmem).2⟩
      · rename_i hne
        subst e
        have hr := h.esR _ (List.getElem_mem hi)
        refine ⟨hr.1.upd hu fun b' hb' e => ?_, hr.2⟩
        subst e
        rcases Nat.lt_or_ge i j with hlt | hge
        · exact List.pairwise_iff_getElem.1 h.esA i j hi hj hlt b' hb' hb
        · exact List.pairwise_iff_getElem.1 h.esA j i hj hi (by omega) b' hb hb'
    esA := by
      have e := hk PtP.sl rfl
      have := h.esA
      rw [← List.pairwise_map (f := PtP.sl) (R := Apart)] at this ⊢
      rw [e]; exact this
    kv := f.kv (by omega), kR := f.kR (by omega), cv := f.cv (by omega), cR := f.cR (by omega) (by omega), ev := f.ev (by omega) }
/-- What was kept went out, in a list of its own. -/
theorem DocR.spawn {H0 H H' : Heap} {x : DG} (h : DocR H0 H x) {cs ps : Sl} {kp : List PtP} (hp : kp.Perm x.kp) (hu : Upd (fun b => x.g.cs.a = some (adr b) ∨ b = x.b) H H')
    (hr : Row H' x.b T_hindcastref16_run (drunV { x.g with cs := cs, ks := ⟨none, 0, 0⟩ })) (hk : VecN H' T_api_Part 2 ps (kp.flatMap ptV)) (hkn : ∀ b, ps.a = some (adr b) → H.size ≤ b)
    (hv : VecN H' T_api_Command 6 cs ((x.cl ++ [spawned ps kp]).flatMap cmV)) (hcs : cs.a = x.g.cs.a ∨ ∃ b, cs.a = some (adr b) ∧ H.size ≤ b) :
    DocR H0 H' { x with g := { x.g with cs := cs, ks := ⟨none, 0, 0⟩ }, cl := x.cl ++ [spawned ps kp], kp := [], c := dye H.size (recol x.c 999 101) fun b => if ps.a = some (adr b) then 207 else 203 } := by
  have hl := h.lowl
  have ht : Tch x.c H0.size (fun j => j = 203 ∨ j = 200 ∨ j = 999) H H' := Tch.of hu fun b _ e => by
    rcases e with e | rfl
    · exact ⟨(h.cv.2 b e).1, .inl (h.cv.2 b e).2⟩
    · exact ⟨h.run.2.1, .inr (.inl h.run.2.2)⟩
  have f := h.fr ht (agr_recol (n := H.size) (k := 101) (d := fun b => if ps.a = some (adr b) then 207 else 203) (.inr (.inr rfl)))
  have hne : ∀ b, cs.a = some (adr b) → ps.a ≠ some (adr b) := fun b hb e => by
    rcases hv.own with ⟨g1, _⟩ | ⟨b1, _, g1, g2, _⟩
    · rw [g1] at hb; cases hb
    · rcases hk.own with ⟨k1, _⟩ | ⟨b2, _, k1, k2, _⟩
      · rw [k1] at e; cases e
      · rw [g1] at hb; rw [k1] at e; cases hb; cases e
        exact g2.ne k2 (by decide) rfl
  exact { h with
    base := f.base, run := ⟨hr, is_dye (c := recol x.c 999 101) ⟨h.run.2.1, by unfold recol; rw [h.run.2.2, if_neg (by decide)]⟩ h.run.1.lt⟩
    lv := f.lv (by omega), lowR := fun i (hi : i < x.low.length) => f.lowR i hi (by omega), topR := (f.topR (by omega)).1, topI := (f.topR (by omega)).2, dice := f.dice (by omega), pv := f.pv (by omega), esR := f.esR (by omega)
    kv := VecNC.nil _ _ _ _ _ _, kR := fun p hp => by cases hp
    cv := ⟨hv, sl_dye h.cv.2 h.base.size hcs (fun b hb => h.cv.1.lt hb) (by decide) fun b hb => if_neg (hne b hb)⟩
    cR := fun p hp' => by
      rcases List.mem_append.1 hp' with hp' | hp'
      · exact f.cR (by omega) (by omega) p hp'
      · rw [List.mem_singleton.1 hp']
        exact ⟨VecC.nil _ _ _ _ _, ⟨hk, fun b hb => is_new h.base.size (hkn b hb) (if_pos hb)⟩, fun p hpp => f.kR (by omega) p (hp.subset hpp)⟩
    ev := f.ev (by omega)
    outA := by
      have e : (outL x.cl x.kp ++ [(⟨none, 0, 0⟩ : Sl)]).Perm (outL (x.cl ++ [spawned ps kp]) []) := by
        simp only [outL, List.flatMap_append, List.flatMap_cons, List.flatMap_nil, List.append_nil, cmSl, List.map_nil, List.append_assoc]
        refine List.perm_append_left_iff _ |>.2 (List.perm_append_comm.trans ?_)
        exact (hp.symm.map _).cons _
      refine (e.pairwise_iff fun {a b} h => h.symm).1 ?_
      rw [List.pairwise_append]
      refine ⟨h.outA, List.pairwise_singleton _ _, fun s hs t ht => ?_⟩
      rw [List.mem_singleton.1 ht]
      exact apart_nil _ rfl
    parA := by
      rw [List.map_append, List.pairwise_append]
      refine ⟨h.parA, List.pairwise_singleton _ _, fun s hs t ht => ?_⟩
      rw [List.mem_singleton.1 ht]
      obtain ⟨q, hq, rfl⟩ := List.mem_map.1 hs
      intro b hb hb'
      have := (h.cR q hq).ps.1.lt hb
      have := hkn b hb'
      omega }
end Go.Proofs.YtfpmgpblhhcpgaaGreat
