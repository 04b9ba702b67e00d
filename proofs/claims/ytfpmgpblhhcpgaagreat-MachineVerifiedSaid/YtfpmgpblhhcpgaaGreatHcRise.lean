/-
  Machine: is the next instruction ready?
-/
import Derived.Test.YtfpmgpblhhcpgaaGreatMB
import Derived.Test.YtfpmgpblhhcpgaaGreatVC
namespace Go.Proofs.YtfpmgpblhhcpgaaGreat
set_option linter.unusedVariables false
set_option linter.unusedSimpArgs false
set_option maxRecDepth 100000
section
open Hc Hc.Vf Hc.Mc Hc.Dice
variable {H : Heap}
abbrev inV (x : Int × Int × Int) : List Value := [.int .i64 x.1, .int .i64 x.2.1, .int .i64 x.2.2]
theorem inV_len (x : Int × Int × Int) : (inV x).length = 3 := rfl
structure CtxR (H : Heap) (pF : Sl) (s : Sy) (inS : Sl) (fs : List Rou) (ins : List (Int × Int × Int)) : Prop where
  fn : RN rouV 4 H pF fs
  fnC : ∀ r ∈ fs, CodeR H r
  sets : ∀ q, q < 4 → RL (Value.int .i64) H (s.s q) (s.l q)
  setL : ∀ q, q < 4 → (s.l q).length ≤ 2 ^ 60
  inp : RN inV 3 H inS ins
  inL : ins.length * 24 ≤ 140737488351232
  inB : ∀ a, inS.a = some a → a.spot = none ∧ a.block < H.size
  inN : inS.a = none → inS.cap = 0
abbrev mpOf (g : RunG) (fs : List Rou) : MP := ⟨fs.map fnOf, fnOf g.s.rou, g.s.l 2, g.s.l 3, g.n, 2 ^ 40⟩
abbrev enOf (g : RunG) (ins : List (Int × Int × Int)) : En := ⟨g.fr, g.sd, g.ix, g.gn, ins⟩
theorem CtxR.ext {H' : Heap} (hE : Ext H H') {pF : Sl} {s : Sy} {inS : Sl} {fs : List Rou} {ins : List (Int × Int × Int)} (h : CtxR H pF s inS fs ins) : CtxR H' pF s inS fs ins :=
  ⟨h.fn.ext hE, fun r hr => (h.fnC r hr).ext hE, fun q hq => (h.sets q hq).ext hE, h.setL, h.inp.ext hE, h.inL, fun a ha => ⟨(h.inB a ha).1, Nat.lt_of_lt_of_le (h.inB a ha).2 hE.size⟩, h.inN⟩
theorem s_last {H0 : Heap} {x : MG} (h : MacR H0 H x) {k : Option Addr → Heap → Prop} (hk : k (some (adr x.top.p)) H) : CallT Pg fQah [.pointer (some (adr x.b))] (.one (.c .ptr)) H k := by
  refine cQah _ ?_
  unfold vQah
  simp only [NilCk_some, adr_add]
  have hl := h.lv.1.len
  have hl2 := h.lowl
  simp only [List.length_map, List.length_append, List.length_singleton] at hl
  refine Ld_sl ((h.run.1.cell 19).trans rfl) (Ld_sl ((h.run.1.cell 19).trans rfl) (Lt.mk (u := (x.low.length : Int)) (by rw [wrap_i64_id (by omega) (by omega)]; omega) ?_))
  refine IxA_vec h.lv.1 (by omega) (by simp; omega) fun a ha _ => Ld_ptr (ha.trans ?_) hk
  rw [Int.toNat_natCast, ptrs, List.map_append, List.getElem?_append_right (by simp)]
  simp
theorem s_outer {op : Int} {k : Bool → Heap → Prop} (hk : k (outerB op) H) : CallT Pg fQaz [.int .i64 op] (.one (.c .bool)) H k := by
  refine cQax _ ?_
  unfold vQax
  refine Jn.mk (fun j H' => H = H' ∧ j = outerB op) (fun kk hkk => ?_) ?_
  · have e : ∀ b, b = outerB op → kk b H := fun b hb => hkk _ _ ⟨rfl, hb⟩
    have hx : outerB op = ((op == 4) || ((op == 5) || ((op == 25) || ((op == 26) || ((op == 27) || ((op == 28) || ((op == 29) || ((op == 30) || ((op == 35) || (op == 23)))))))))) := by simp only [outerB, List.contains_cons, List.contains_nil, Bool.or_false]
    simp only [Jn]
    refine Br.mk (fun h => e _ (by rw [hx, h]; simp)) fun h1 => ?_
    refine Br.mk (fun h => e _ (by rw [hx, h]; simp)) fun h2 => ?_
    refine Br.mk (fun h => e _ (by rw [hx, h]; simp)) fun h3 => ?_
    refine Br.mk (fun h => e _ (by rw [hx, h]; simp)) fun h4 => ?_
    refine Br.mk (fun h => e _ (by rw [hx, h]; simp)) fun h5 => ?_
    refine Br.mk (fun h => e _ (by rw [hx, h]; simp)) fun h6 => ?_
    refine Br.mk (fun h => e _ (by rw [hx, h]; simp)) fun h7 => ?_
    refine Br.mk (fun h => e _ (by rw [hx, h]; simp)) fun h8 => ?_
    refine Br.mk (fun h => e _ (by rw [hx, h]; simp)) fun h9 => ?_
    exact e _ (by rw [hx, h1, h2, h3, h4, h5, h6, h7, h8, h9]; simp)
  · rintro j _ ⟨rfl, rfl⟩
    cases hb : outerB op <;> rw [hb] at hk <;> exact hk
theorem s_truth {b : Bool} {k : Int → Heap → Prop} (hk : k (truthI b) H) : CallT Pg fQa4 [.bool b] (.one (.c (.int .i64))) H k := by
  refine cQa2 _ ?_
  unfold vQa2
  cases b <;> exact hk
theorem s_isKind {n : Int} {k : Bool → Heap → Prop} (hk : k (isKindB n) H) : CallT Pg fQa1 [.int .i64 n] (.one (.c .bool)) H k := by
  refine cQaz _ ?_
  unfold vQaz
  refine Jn.mk (fun j H' => H = H' ∧ j = isKindB n) (fun kk hkk => ?_) (by rintro j _ ⟨rfl, rfl⟩; exact hk)
  unfold isKindB at hkk
  refine Br_dec (fun h => hkk _ _ ⟨rfl, decide_eq_decide.2 (by omega)⟩) fun h => hkk _ _ ⟨rfl, (decide_eq_false (by omega)).symm⟩
theorem s_goal {a : Int} {k : Int → Heap → Prop} (hk : k (if 0 ≤ a ∧ a ≤ 2 ^ 40 then a else -1) H) : CallT Pg fQa7 [.int .i64 a] (.one (.c (.int .i64))) H k := by
  refine cQa5 _ ?_
  unfold vQa5
  refine Jn.mk (fun j H' => H = H' ∧ j = decide (¬ (0 ≤ a ∧ a ≤ 2 ^ 40))) (fun kk hkk => ?_) ?_
  · refine Br_dec (fun h => hkk _ _ ⟨rfl, (decide_eq_true (by omega)).symm⟩) fun h => hkk _ _ ⟨rfl, decide_eq_decide.2 (by omega)⟩
  · rintro j _ ⟨rfl, rfl⟩
    refine Br_dec (fun h => ?_) fun h => ?_
    · rw [if_neg h] at hk; exact hk
    · rw [if_pos (Classical.not_not.1 h)] at hk; exact hk
theorem s_mstep {b : Nat} {g : RunG} (hr : Row H b TQat (runV g)) (hs : 0 ≤ g.st ∧ g.st < 2 ^ 40) {k : Bool → Heap → Prop}
    (hk : ∀ H', Upd (· = b) H H' → Row H' b TQat (runV { g with st := g.st + 1, si := 0 }) → k (decide (g.st + 1 ≤ 2000)) H') : CallT Pg fQa8 [.pointer (some (adr b))] (.one (.c .bool)) H k := by
  refine cQa6 _ ?_
  unfold vQa6
  simp only [NilCk_some, adr_add, mk_add]
  refine Ld_int ((hr.cell 24).trans rfl) (Lt.mk (u := g.st + 1) (by rw [wrap_i64_id] <;> omega) ?_)
  refine St_row hr (by simp) fun H1 hU1 _ hr1 => St_row hr1 (by simp) fun H2 hU2 _ hr2 => ?_
  exact Ld_int (n := g.st + 1) ((hr2.cell 24).trans rfl) (hk H2 (hU1.trans hU2 fun _ _ e => e) hr2)
theorem sameNow_int (a b : Int) : Instr.sameNow (.int .i64) (.int .i64 a) (.int .i64 b) = some (a == b) := by simp [Instr.sameNow]
theorem mapEnts_find {key : Int} : ∀ {es : List PtP} {n i : Nat}, (∃ j, ∃ h : j < es.length, es[j].kind = key ∧ Instr.findNow (.int .i64) (.int .i64 key) (mapEnts n es) i = some (some (i + j, slV es[j].sl)) ∧ lookV (es.map PtP.pt) key = some es[j].vals ∧
      ∀ f v, putV (es.map PtP.pt) key f v = (es.set j { es[j] with vals := es[j].vals.set f v }).map PtP.pt) ∨
    (Instr.findNow (.int .i64) (.int .i64 key) (mapEnts n es) i = some none ∧ lookV (es.map PtP.pt) key = none ∧ ∀ q ∈ es, q.kind ≠ key)
  | [], n, i => .inr ⟨by simp [mapEnts, Instr.findNow], rfl, fun q h => by cases h⟩
  | x :: r, n, i => by
    by_cases e : x.kind = key
    · refine .inl ⟨0, by simp, e, ?_, ?_, fun f v => ?_⟩
      · unfold mapEnts Instr.findNow
        rw [sameNow_int, e, beq_self_eq_true]; rfl
      · unfold lookV
        simp only [List.map_cons, List.find?_cons]
        have : (x.pt.kind == key) = true := by simpa using e
        rw [this]; rfl
      · simp only [List.map_cons, putV, List.getElem_cons_zero, List.set_cons_zero]
        rw [if_pos e]
    · have hb : (key == x.kind) = false := beq_eq_false_iff_ne.2 fun h => e h.symm
      have hf : Instr.findNow (.int .i64) (.int .i64 key) (mapEnts n (x :: r)) i = Instr.findNow (.int .i64) (.int .i64 key) (mapEnts (n + 1) r) (i + 1) := by
        conv => lhs; unfold mapEnts Instr.findNow
        rw [sameNow_int, hb]
      have hl : lookV ((x :: r).map PtP.pt) key = lookV (r.map PtP.pt) key := by
        unfold lookV
        simp only [List.map_cons, List.find?_cons]
        have : (x.pt.kind == key) = false := by simpa using e
        rw [this]
      rcases mapEnts_find (key := key) (es := r) (n := n + 1) (i := i + 1) with ⟨j, hj, h1, h2, h3, h4⟩ | ⟨h1, h2, h3⟩
      · refine .inl ⟨j + 1, by simpa using hj, h1, ?_, ?_, fun f v => ?_⟩
        · rw [hf, h2]; simp only [List.getElem_cons_succ]; congr 3; omega
        · rw [hl, h3]; rfl
        · simp only [List.map_cons, putV, List.getElem_cons_succ, List.set_cons_succ]
          rw [if_neg e, h4]
      · exact .inr ⟨hf.trans h1, hl.trans h2, fun q hq => (List.mem_cons.1 hq).elim (fun h => h ▸ e) (h3 q)⟩
theorem MpL_es {r : Nat} {es : List PtP} (hm : H[r]? = some (.map ⟨mapEnts 0 es⟩ es.length)) {key : Int} {k : Sl → Bool → Prop}
    (h1 : ∀ j (hj : j < es.length), es[j].kind = key → lookV (es.map PtP.pt) key = some es[j].vals → (∀ f v, putV (es.map PtP.pt) key f v = (es.set j { es[j] with vals := es[j].vals.set f v }).map PtP.pt) → k es[j].sl true)
    (h2 : lookV (es.map PtP.pt) key = none → k ⟨none, 0, 0⟩ false) : MpL (.int .i64) (.c .sl) ⟨none, 0, 0⟩ (.map (some r)) (.int .i64 key) H k := by
  refine ⟨_, .inr ⟨r, _, rfl, hm⟩, ?_⟩
  rcases mapEnts_find (key := key) (es := es) (n := 0) (i := 0) with ⟨j, hj, g1, g2, g3, g4⟩ | ⟨g1, g2, _⟩
  · exact .inl ⟨0 + j, es[j].sl, g2, h1 j hj g1 g3 g4⟩
  · exact .inr ⟨g1, h2 g2⟩
theorem s_holds {H0 : Heap} {x : MG} (h : MacR H0 H x) {a : Int} (ha : I64 a) {dl : Sl} {xs : List (Sl × List Int)} (hs : RL (fun x : Sl × List Int => slV x.1) H dl xs) (hxl : xs.length ≤ 2 ^ 60)
    (hx : ∀ y ∈ xs, RL (Value.int .i64) H y.1 y.2 ∧ y.2.length ≤ 2 ^ 60) {k : Bool → Heap → Prop} (hk : ∀ H', Ext H H' → k (fieldOk x.ms.vals a (xs.flatMap (·.2))) H') :
    CallT Pg fQa0 [.pointer (some (adr x.b)), .int .i64 a, .slice dl.a dl.len dl.cap] (.one (.c .bool)) H k := by
  refine cQay _ _ _ ?_
  unfold vQay
  unfold I64 at ha
  refine Br_dec (fun h => ?_) fun hge => ⟨by omega, ?_⟩
  · have := hk H (.refl _ _)
    unfold fieldOk at this
    rw [decide_eq_false (by omega), Bool.false_and, Bool.false_and] at this
    exact this
  have hd : a.tdiv 8 = a / 8 := Int.tdiv_eq_ediv_of_nonneg (by omega)
  have hmd : a.tmod 8 = a % 8 := Int.tmod_eq_emod_of_nonneg (by omega)
  rw [hd, wrap_i64_id (by omega) (by omega)]
  refine Nw_row (vs := [.int .i64 0]) fun b1 H1 hb1 hE1 hz1 hr1 => ?_
  refine St_row hr1 (by simp) fun H2 hU2 hz2 hr2 => ?_
  have hE2 : Ext H H2 := extUpd hE1 (by omega) hU2
  have h2 := h.ext hE2
  have cb : hcell H2 (adr b1) = some (.int .i64 (a / 8)) := (hr2.cell 0).trans rfl
  simp only [NilCk_some, adr_add]
  refine ⟨.map (some x.g.mp), (h2.run.1.cell 18).trans rfl, Ld_int cb (MpL_es h2.map.1 (fun j hj hkd hl _ => ?_) fun hl => ?_)⟩
  · have hv := (h.esR _ (List.getElem_mem hj)).1.len
    rw [List.length_map] at hv
    have hfo : fieldOk x.ms.vals a (xs.flatMap (·.2)) = (decide (a % 8 < (x.es[j].vals.length : Int)) && (xs.flatMap (·.2)).contains (a / 8)) := by
      unfold fieldOk
      rw [decide_eq_true (by omega), Bool.true_and]
      dsimp only
      rw [hl]
    rw [hfo] at hk
    refine Jn.mk (fun j' H' => Ext H H' ∧ j' = (decide (a % 8 < (x.es[j].vals.length : Int)) && (xs.flatMap (·.2)).contains (a / 8))) (fun kk hkk => ?_) (by rintro j' H' ⟨h1, rfl⟩; exact hk H' h1)
    refine ⟨by omega, ?_⟩
    rw [hmd]
    refine Br_dec (fun hlt => ?_) fun hge => hkk _ _ ⟨hE2, ?_⟩
    · have eb : (decide (a % 8 < (x.es[j].vals.length : Int)) && (xs.flatMap (·.2)).contains (a / 8)) = xs.any fun y => decide (a / 8 ∈ y.2) := by
        rw [decide_eq_true (by omega), Bool.true_and, Bool.eq_iff_iff]
        simp [List.mem_flatMap]
      rw [eb] at hkk
      refine s_anyL (hs.ext hE2) hxl (fun y => decide (a / 8 ∈ y.2)) (fun y hy H' K hE hK' => ⟨fQcq, #[], #[.pointer (some (adr b1))], rfl, ?_⟩) fun H' hE => hkk _ _ ⟨hE2.trans hE fun _ _ h => h, rfl⟩
      show CallT Pg fQcq [.slice y.1.a y.1.len y.1.cap, .pointer (some (adr b1))] _ _ _
      refine cQb8 y.1 (adr b1) ?_
      unfold vQb8
      exact Ld_int (n := a / 8) (hE.cell cb fun h => h) (s_ContainsI ((hx y hy).1.ext (hE2.trans hE fun _ _ h => h)) (hx y hy).2 (hK' _ (.refl _ _)))
    · rw [decide_eq_false (by omega), Bool.false_and]
  · refine Jn.mk (fun j' H' => H2 = H' ∧ j' = false) (fun kk hkk => hkk _ _ ⟨rfl, rfl⟩) ?_
    rintro j' _ ⟨rfl, rfl⟩
    have := hk H2 hE2
    have hfo : fieldOk x.ms.vals a (xs.flatMap (·.2)) = false := by
      unfold fieldOk
      dsimp only
      rw [hl]; simp
    rwa [hfo] at this
end
section
open Hc Hc.Vf Hc.Mc Hc.Dice
variable {H : Heap}
theorem tdiv8 {a : Int} (h0 : 0 ≤ a) (h : I64 a) : IntKind.wrap .i64 (a.tdiv 8) = a / 8 := by
  unfold I64 at h
  rw [Int.tdiv_eq_ediv_of_nonneg h0, wrap_i64_id (by omega) (by omega)]
theorem s_access {H0 : Heap} {x : MG} {fs : List Rou} {ins : List (Int × Int × Int)} (h : MacR H0 H x) (hc : CtxR H0 x.g.pF x.g.s x.g.inS fs ins) {i : Ins} (hA : I64 i.2) {k : Bool → Heap → Prop} (hk : ∀ H', Ext H H' → k (access (mpOf x.g fs) x.ms i) H') :
    CallT Pg fQak [.pointer (some (adr x.b)), .agg #[.int .i64 i.1, .int .i64 i.2]] (.one (.c .bool)) H k := by
  obtain ⟨op, A⟩ := i
  dsimp only at hA
  have hA2 := hA
  unfold I64 at hA2
  refine cQak _ (op, A) ?_
  unfold vQak
  refine Nw_row (vs := [.int .i64 op, .int .i64 A]) fun b1 H1 hb1 hE1 hz1 hr1 => ?_
  have h1 := h.ext hE1
  have hll := h1.lv.1.len
  have hlow := h1.lowl
  simp only [List.length_map, List.length_append, List.length_singleton] at hll
  have c0 : hcell H1 (adr b1) = some (.int .i64 op) := (hr1.cell 0).trans rfl
  have c1 : hcell H1 ⟨b1, 1, none⟩ = some (.int .i64 A) := (hr1.cell 1).trans rfl
  have hln : (x.ms.low ≠ []) ↔ x.g.ls.len > 1 := by
    show x.low.map AP.act ≠ [] ↔ _
    rw [hll]
    cases hx : x.low <;> simp
  simp only [NilCk_some, adr_add, mk_add]
  refine s_last h1 (Ld_sl ((h1.run.1.cell 19).trans rfl) ?_)
  refine Jn.mk (fun j H' => H1 = H' ∧ j = decide (x.ms.low ≠ [] ∧ outerB op = true)) (fun kk hkk => ?_) ?_
  · refine Br_dec (fun h => Ld_int c0 (s_outer (hkk _ _ ⟨rfl, ?_⟩))) fun h => hkk _ _ ⟨rfl, (decide_eq_false fun e => h (by have := hln.1 e.1; omega)).symm⟩
    have := hln.2 (by omega)
    rw [Bool.eq_iff_iff, decide_eq_true_eq]
    exact ⟨fun e => ⟨this, e⟩, fun e => e.2⟩
  rintro j _ ⟨rfl, rfl⟩
  refine Br_dec (fun hb => ?_) fun hb => ?_
  · have := hk H1 hE1
    unfold access at this
    rwa [if_pos hb] at this
  have hk : ∀ H', Ext H H' → k (accessM (mpOf x.g fs) x.ms op.toNat A) H' := fun H' hE => by
    have := hk H' hE
    unfold access at this
    rwa [if_neg hb] at this
  have topc : ∀ n, hcell H1 ⟨x.top.p, n, none⟩ = (actV x.top)[n]? := h1.topR.row.cell
  have hlc := h1.topR.loc.len
  rw [List.length_map] at hlc
  refine Ld_int c0 (Jn.mk (fun j H' => H1 = H' ∧ j = decide (op = 2 ∨ op = 3)) (fun kk hkk => ?_) ?_)
  · refine Br.mk (fun h => hkk _ _ ⟨rfl, (decide_eq_true (.inl (beqI h))).symm⟩) fun h => hkk _ _ ⟨rfl, ?_⟩
    have := bneI h
    rw [Bool.eq_iff_iff, decide_eq_true_eq, beq_iff_eq]; omega
  rintro j _ ⟨rfl, rfl⟩
  refine Br_dec (fun h23 => ?_) fun h23 => ?_
  · have e : accessM (mpOf x.g fs) x.ms op.toNat A = decide (0 ≤ A ∧ A < (x.top.loc.length : Int)) := by rcases h23 with rfl | rfl <;> rfl
    rw [e] at hk
    refine Jn.mk (fun j H' => H1 = H' ∧ j = decide (0 ≤ A ∧ A < (x.top.loc.length : Int))) (fun kk hkk => ?_) (by rintro j _ ⟨rfl, rfl⟩; exact hk _ hE1)
    refine Ld_int c1 (Br_dec (fun h => Ld_int c1 (by simp only [NilCk_some, adr_add]; exact Ld_sl (s := x.top.ls) ((topc 4).trans rfl) (hkk _ _ ⟨rfl, decide_eq_decide.2 (by omega)⟩))) fun h => hkk _ _ ⟨rfl, (decide_eq_false (by omega)).symm⟩)
  have hE1' := h1.base
  refine Br.mk (fun h4 => ?_) fun h4 => ?_
  · have h4 := beqI h4; subst h4
    refine Ld_int c1 (Ld_sl (s := x.g.s.s 2) ((h1.run.1.cell 4).trans rfl) (Ld_sl (s := x.g.s.s 3) ((h1.run.1.cell 5).trans rfl) ?_))
    refine Nw_row (vs := [slV (x.g.s.s 2), slV (x.g.s.s 3)]) fun b2 H2 hb2 hE2 hz2 hr2 => Stab_1 (hE2.cell c1 fun h => h) ?_
    have h2 := h1.ext hE2
    have hs := h2.base
    refine s_holds (dl := ⟨some (adr b2), 2, 2⟩) (xs := [(x.g.s.s 2, x.g.s.l 2), (x.g.s.s 3, x.g.s.l 3)]) h2 hA ⟨hr2.rd_all, rfl, Nat.le_refl _⟩ (by simp) (fun y hy => ?_) fun H3 hE3 => ?_
    · simp only [List.mem_cons, List.not_mem_nil, or_false] at hy
      rcases hy with rfl | rfl
      · exact ⟨(hc.sets 2 (by decide)).ext hs, hc.setL 2 (by decide)⟩
      · exact ⟨(hc.sets 3 (by decide)).ext hs, hc.setL 3 (by decide)⟩
    · have h3 := h2.ext hE3
      refine Stab_2 ((h3.run.1.cell 5).trans rfl) ((h3.run.1.cell 4).trans rfl) ?_
      have := hk H3 ((hE1.trans hE2 fun _ _ h => h).trans hE3 fun _ _ h => h)
      have e : accessM (mpOf x.g fs) x.ms (4 : Int).toNat A = fieldOk x.ms.vals A (List.flatMap (fun y : Sl × List Int => y.2) [(x.g.s.s 2, x.g.s.l 2), (x.g.s.s 3, x.g.s.l 3)]) := by simp [accessM]
      rwa [e] at this
  have h4 := bneI h4
  refine Br.mk (fun h5 => ?_) fun h5 => ?_
  · have h5 := beqI h5; subst h5
    refine Ld_int c1 (Ld_sl (s := x.g.s.s 3) ((h1.run.1.cell 5).trans rfl) ?_)
    refine Nw_row (vs := [slV (x.g.s.s 3)]) fun b2 H2 hb2 hE2 hz2 hr2 => Stab_1 (hE2.cell c1 fun h => h) ?_
    have h2 := h1.ext hE2
    have hs := h2.base
    refine s_holds (dl := ⟨some (adr b2), 1, 1⟩) (xs := [(x.g.s.s 3, x.g.s.l 3)]) h2 hA ⟨hr2.rd_all, rfl, Nat.le_refl _⟩ (by simp) (fun y hy => ?_) fun H3 hE3 => ?_
    · rw [List.mem_singleton.1 hy]
      exact ⟨(hc.sets 3 (by decide)).ext hs, hc.setL 3 (by decide)⟩
    · have h3 := h2.ext hE3
      refine Stab_1 ((h3.run.1.cell 5).trans rfl) ?_
      have := hk H3 ((hE1.trans hE2 fun _ _ h => h).trans hE3 fun _ _ h => h)
      have e : accessM (mpOf x.g fs) x.ms (5 : Int).toNat A = fieldOk x.ms.vals A (List.flatMap (fun y : Sl × List Int => y.2) [(x.g.s.s 3, x.g.s.l 3)]) := by simp [accessM]
      rwa [e] at this
  have h5 := bneI h5
  have hfl := hc.fn.len
  refine Br.mk (fun h21 => ?_) fun h21 => ?_
  · have h21 := beqI h21; subst h21
    have e : accessM (mpOf x.g fs) x.ms (21 : Int).toNat A = decide (0 ≤ A ∧ A < (x.g.pF.len : Int) ∧ x.g.ls.len ≤ 16) := by
      show decide _ = _
      rw [hll, hfl]
      simp
    rw [e] at hk
    refine Jn.mk (fun j H' => H1 = H' ∧ j = decide (0 ≤ A ∧ A < (x.g.pF.len : Int) ∧ x.g.ls.len ≤ 16)) (fun kk hkk => ?_) (by rintro j _ ⟨rfl, rfl⟩; exact hk _ hE1)
    refine Ld_int c1 (Br_dec (fun h => Ld_int c1 (Ld_sl (s := x.g.pF) ((h1.run.1.cell 1).trans rfl) (Br_dec (fun h' => Ld_sl ((h1.run.1.cell 19).trans rfl) (hkk _ _ ⟨rfl, decide_eq_decide.2 (by omega)⟩)) fun h' => hkk _ _ ⟨rfl, (decide_eq_false (by omega)).symm⟩))) fun h => hkk _ _ ⟨rfl, (decide_eq_false (by omega)).symm⟩)
  have h21 := bneI h21
  refine Br.mk (fun h22 => ?_) fun h22 => ?_
  · have h22 := beqI h22; subst h22
    have := hk H1 hE1
    have e : accessM (mpOf x.g fs) x.ms (22 : Int).toNat A = decide ((x.g.ls.len : Int) > 1) := decide_eq_decide.2 (hln.trans (by omega))
    rwa [e] at this
  have h22 := bneI h22
  have hkl := h1.kv.1.len
  rw [flat_len ptV_len] at hkl
  refine Br.mk (fun h26 => ?_) fun h26 => ?_
  · have h26 := beqI h26; subst h26
    have e : accessM (mpOf x.g fs) x.ms (26 : Int).toNat A = (decide (0 ≤ A) && isKindB (A / 8) && decide (x.kp.length < 12)) := by
      show (_ && _ && decide ((x.kp.map PtP.pt).length < 12)) = _
      rw [List.length_map]
    rw [e] at hk
    refine Jn.mk (fun j H' => H1 = H' ∧ j = (decide (0 ≤ A) && isKindB (A / 8) && decide (x.kp.length < 12))) (fun kk hkk => ?_) (by rintro j _ ⟨rfl, rfl⟩; exact hk _ hE1)
    refine Ld_int c1 (Br_dec (fun h => Ld_int c1 ⟨by omega, ?_⟩) fun h => hkk _ _ ⟨rfl, ?_⟩)
    · rw [tdiv8 (by omega) hA]
      refine s_isKind (Br.mk (fun hi => Ld_sl (s := x.g.ks) ((h1.run.1.cell 20).trans rfl) (hkk _ _ ⟨rfl, ?_⟩)) fun hi => hkk _ _ ⟨rfl, ?_⟩)
      · rw [hi, decide_eq_true (by omega : 0 ≤ A), Bool.true_and, Bool.true_and]; exact decide_eq_decide.2 (by omega)
      · rw [hi, Bool.and_false, Bool.false_and]
    · rw [decide_eq_false (by omega), Bool.false_and, Bool.false_and]
  have h26 := bneI h26
  refine Br.mk (fun h28 => ?_) fun h28 => ?_
  · have h28 := beqI h28; subst h28
    have e : accessM (mpOf x.g fs) x.ms (28 : Int).toNat A = (decide (0 ≤ A) && isKindB (A / 8)) := rfl
    rw [e] at hk
    refine Jn.mk (fun j H' => H1 = H' ∧ j = (decide (0 ≤ A) && isKindB (A / 8))) (fun kk hkk => ?_) (by rintro j _ ⟨rfl, rfl⟩; exact hk _ hE1)
    refine Ld_int c1 (Br_dec (fun h => Ld_int c1 ⟨by omega, ?_⟩) fun h => hkk _ _ ⟨rfl, ?_⟩)
    · rw [tdiv8 (by omega) hA]
      refine s_isKind (hkk _ _ ⟨rfl, ?_⟩)
      rw [decide_eq_true (by omega : 0 ≤ A), Bool.true_and]
    · rw [decide_eq_false (by omega), Bool.false_and]
  have h28 := bneI h28
  refine Jn.mk (fun j H' => H1 = H' ∧ j = decide (op = 29 ∨ op = 35)) (fun kk hkk => ?_) ?_
  · refine Br.mk (fun h => hkk _ _ ⟨rfl, (decide_eq_true (.inl (beqI h))).symm⟩) fun h => hkk _ _ ⟨rfl, ?_⟩
    have := bneI h
    rw [Bool.eq_iff_iff, decide_eq_true_eq, beq_iff_eq]; omega
  rintro j _ ⟨rfl, rfl⟩
  refine Br_dec (fun h29 => ?_) fun h29 => ?_
  · have e : accessM (mpOf x.g fs) x.ms op.toNat A = isKindB A := by rcases h29 with rfl | rfl <;> rfl
    rw [e] at hk
    exact Ld_int c1 (s_isKind (hk _ hE1))
  · have e : accessM (mpOf x.g fs) x.ms op.toNat A = true := accessM_other (by omega)
    rw [e] at hk
    exact hk _ hE1
theorem bytesBeq (a b : ByteArray) : (a.toList == b.toList) = decide (a = b) := by
  rw [ByteArray.toList_eq, ByteArray.toList_eq]
  rw [Bool.eq_iff_iff, beq_iff_eq, decide_eq_true_eq]
  exact ⟨fun h => ByteArray.ext (Array.toList_inj.1 h), fun h => by rw [h]⟩
theorem s_Name {op : Int} {k : ByteArray → Heap → Prop} (hk : ∀ H' w, Ext H H' → (w = (⟨#[]⟩ : ByteArray) ↔ isOpB op = false) → k w H') : CallT Pg fQai [.int .i64 op] (.one (.c .str)) H k := by
  refine cQai _ ?_
  unfold vQai
  refine s_isOp (Br.mk (fun h => ?_) fun h => ?_)
  · exact hk _ _ (.refl _ _) ⟨fun _ => by simpa using h, fun _ => rfl⟩
  · refine s_shapeOf fun H2 w hE2 hw => hk _ _ hE2 ⟨fun e => ?_, fun e => ?_⟩
    · have h : isOpB op = true := by simpa using h
      exact absurd (by have e' : w = (⟨#[]⟩ : ByteArray) := e; rw [e']; rfl) (hw h)
    · rw [e] at h; cases h
theorem s_room {H0 : Heap} {x : MG} (h : MacR H0 H x) {op : Int} {k : Bool → Heap → Prop} (hk : k (room x.ms op) H) : CallT Pg fQal [.pointer (some (adr x.b)), .int .i64 op] (.one (.c .bool)) H k := by
  refine cQal _ _ ?_
  unfold vQal
  have hcl := h.cv.1.len
  have hel := h.ev.1.len
  rw [flat_len cmV_len] at hcl
  rw [flat_len evV_len] at hel
  simp only [NilCk_some, adr_add, mk_add]
  refine Jn.mk (fun j H' => H = H' ∧ j = decide (op = 27 ∨ op = 28 ∨ op = 29 ∨ op = 30)) (fun kk hkk => ?_) ?_
  · have e : ∀ b, b = decide (op = 27 ∨ op = 28 ∨ op = 29 ∨ op = 30) → kk b H := fun b hb => hkk _ _ ⟨rfl, hb⟩
    simp only [Jn]
    refine Br.mk (fun h => e _ (decide_eq_true (.inl (beqI h))).symm) fun h1 => ?_
    refine Br.mk (fun h => e _ (decide_eq_true (.inr (.inl (beqI h)))).symm) fun h2 => ?_
    refine Br.mk (fun h => e _ (decide_eq_true (.inr (.inr (.inl (beqI h))))).symm) fun h3 => ?_
    refine e _ ?_
    have h1 := bneI h1; have h2 := bneI h2; have h3 := bneI h3
    rw [Bool.eq_iff_iff, decide_eq_true_eq, beq_iff_eq]; omega
  rintro j _ ⟨rfl, rfl⟩
  unfold room at hk
  refine Br_dec (fun h1 => ?_) fun h1 => ?_
  · rw [if_pos h1] at hk
    refine Ld_sl (s := x.g.cs) ((h.run.1.cell 22).trans rfl) ?_
    have e : decide (x.ms.cmds.length < 16) = decide ((x.g.cs.len : Int) < 16) := decide_eq_decide.2 (by show (x.cl.map CmP.cm).length < 16 ↔ _; rw [List.length_map]; omega)
    rwa [e] at hk
  · rw [if_neg h1] at hk
    refine Br.mk (fun h2 => ?_) fun h2 => ?_
    · rw [if_pos (beqI h2)] at hk
      refine Ld_sl (s := x.g.es) ((h.run.1.cell 23).trans rfl) ?_
      have e : decide (x.ms.evs.length < 16) = decide ((x.g.es.len : Int) < 16) := decide_eq_decide.2 (by show x.evs.length < 16 ↔ _; omega)
      rwa [e] at hk
    · rw [if_neg (bneI h2)] at hk
      exact hk
theorem s_ready {H0 : Heap} {x : MG} {fs : List Rou} {ins : List (Int × Int × Int)} (h : MacR H0 H x) (hc : CtxR H0 x.g.pF x.g.s x.g.inS fs ins) (hcode : ∀ i ∈ x.top.r.code, I64 i.2) (hsl : x.top.stk.length ≤ 2 ^ 40) {k : (Int × Int) × Int → Heap → Prop}
    (hk : ∀ H' i, Ext H H' → (ready (mpOf x.g fs) x.ms = 0 → i = x.top.r.code[x.top.nx.toNat]!) → k (i, ready (mpOf x.g fs) x.ms) H') :
    CallT Pg fQad [.pointer (some (adr x.b))] (.tup [(.agg [(.int .i64), (.int .i64)]), (.c (.int .i64))]) H k := by
  refine cQad _ ?_
  unfold vQad
  refine Nw_row (vs := [.int .i64 0, .int .i64 0]) fun b1 H1 hb1 hE1 hz1 hr1 => ?_
  have h1 := h.ext hE1
  have topc : ∀ n, hcell H1 ⟨x.top.p, n, none⟩ = (actV x.top)[n]? := h1.topR.row.cell
  have hcd : CodeR H1 x.top.r := (h.codes x.top (by simp)).ext h1.base
  have hcl := hcd.len
  have hnx := h.topR.nxr
  have hP : (mpOf x.g fs).ps = parms fs := by simp [MP.ps, parms]
  have hko : ∀ (i : Ins) (e : Int), ready (mpOf x.g fs) x.ms = e → (e = 0 → i = x.top.r.code[x.top.nx.toNat]!) → ∀ Hx, Ext H Hx → Row Hx b1 TQag [.int .i64 0, .int .i64 0] →
      St ((adr b1).add 0) (.int .i64 i.1) Hx (fun H4 => St ((adr b1).add 1) (.int .i64 i.2) H4 fun H5 => LdC [(.int .i64), (.int .i64)] (adr b1) H5 fun (c1 : Int × Int) => k (((c1.1, c1.2), e)) H5) := fun i e he hi Hx hEx hrx => by
    simp only [adr_add]
    refine St_row hrx (by simp) fun H4 hU4 _ hr4 => St_row hr4 (by simp) fun H5 hU5 _ hr5 => ⟨(i.1, i.2), hr5.rd_all, ?_⟩
    have := hk H5 i (extUpd hEx (by omega) (hU4.trans hU5 fun _ _ e => e)) fun e' => hi (he.symm.trans e')
    rwa [he] at this
  have rb1 : ∀ {H'}, Ext H1 H' → Row H' b1 TQag [.int .i64 0, .int .i64 0] := fun hE => hE.row hr1 fun h => h
  refine s_last h1 ?_
  simp only [NilCk_some, adr_add, mk_add] at hko ⊢
  refine Jn.mk (fun j H' => H1 = H' ∧ j = decide (¬ (0 ≤ x.top.nx ∧ x.top.nx < (x.top.r.code.length : Int)))) (fun kk hkk => ?_) ?_
  · refine Ld_int (n := x.top.v) ((topc 6).trans rfl) (Br_dec (fun h => hkk _ _ ⟨rfl, (decide_eq_true (by rcases hnx with e | e <;> omega)).symm⟩) fun h => ?_)
    refine Ld_int (n := x.top.v) ((topc 6).trans rfl) (Ld_sl (s := x.top.r.sl) ((topc 3).trans rfl) (hkk _ _ ⟨rfl, decide_eq_decide.2 (by rcases hnx with e | e <;> omega)⟩))
  rintro j _ ⟨rfl, rfl⟩
  refine Br_dec (fun hj => hko (0, 0) 150 (by unfold ready; exact if_pos hj) (fun e => by cases e) _ hE1 hr1) fun hj => ?_
  have hnx2 := Decidable.not_not.1 hj
  have hv : x.top.v = x.top.nx := by rcases hnx with e | e <;> omega
  refine Ld_int (n := x.g.si) ((h1.run.1.cell 27).trans rfl) ?_
  refine Br_dec (fun hs => hko (0, 0) 153 (by unfold ready; rw [if_neg hj]; exact if_pos hs) (fun e => by cases e) _ hE1 hr1) fun hs => ?_
  refine Ld_sl (s := x.top.r.sl) ((topc 3).trans rfl) (Ld_int (n := x.top.v) ((topc 6).trans rfl) ?_)
  rw [hv]
  have hin : x.top.nx.toNat < x.top.r.code.length := by omega
  refine IxA_rn' insV_len hcd (by decide) (j := x.top.nx.toNat) (by omega) hin fun a7 ha7 => ?_
  generalize hi : x.top.r.code[x.top.nx.toNat]! = i at *
  have hi64 : I64 i.2 := hcode i (by rw [← hi, getElem!_pos x.top.r.code _ hin]; exact List.getElem_mem _)
  refine ⟨(i.1, i.2), ha7, ?_⟩
  refine Nw_row (vs := [.int .i64 0, .int .i64 0]) fun b2 H2 hb2 hE2 hz2 hr2 => ?_
  have h2 := h1.ext hE2
  have topc2 : ∀ n, hcell H2 ⟨x.top.p, n, none⟩ = (actV x.top)[n]? := h2.topR.row.cell
  have ha72 := hcells_ext hE2 ha7
  refine Stab_all (fun y hy => ?_) ?_
  · simp only [List.mem_cons, List.not_mem_nil, or_false] at hy
    rcases hy with rfl | rfl | rfl | rfl
    · have := ha72.1; simpa using this
    · have := ha72.2.1; simpa using this
    · dsimp only; rw [← hv]; exact (topc2 6).trans rfl
    · exact (topc2 3).trans rfl
  refine St_row hr2 (by simp) fun H3 hU3 _ hr3 => St_row hr3 (by simp) fun H4 hU4 _ hr4 => ?_
  have hE4 : Ext H1 H4 := extUpd hE2 (by omega) (hU3.trans hU4 fun _ _ e => e)
  have c0 : ∀ {H'}, Ext H4 H' → hcell H' (adr b2) = some (.int .i64 i.1) := fun hE => ((hE.row hr4 fun h => h).cell 0).trans rfl
  have cc : ∀ {H'}, Ext H4 H' → hcells H' (adr b2) 0 [.int .i64 i.1, .int .i64 i.2] := fun hE => (hE.row hr4 fun h => h).rd_all
  refine Ld_int (c0 (.refl _ _)) (s_Name fun H5 w hE5 hw => ?_)
  have hE15 := hE4.trans hE5 fun _ _ h => h
  rw [bytesBeq]
  have fin : ∀ (e : Int), ready (mpOf x.g fs) x.ms = e → ∀ Hx, Ext H4 Hx → LdC [(.int .i64), (.int .i64)] (adr b2) Hx fun (c4 : Int × Int) => St ⟨b1, 0, none⟩ (.int .i64 c4.1) Hx (fun H4 => St ⟨b1, 1, none⟩ (.int .i64 c4.2) H4 fun H5 => LdC [(.int .i64), (.int .i64)] (adr b1) H5 fun (c1 : Int × Int) => k (((c1.1, c1.2), e)) H5) := fun e he Hx hEx =>
    ⟨(i.1, i.2), cc hEx, hko i e he (fun _ => rfl) Hx (hE1.trans (hE4.trans hEx fun _ _ h => h) fun _ _ h => h) (rb1 (hE4.trans hEx fun _ _ h => h))⟩
  refine Br_dec (fun hwe => fin 152 ?_ _ hE5) fun hwe => ?_
  · unfold ready
    rw [if_neg hj, if_neg hs, if_pos]
    show isOpB (x.top.r.code[x.top.nx.toNat]!).1 = false
    rw [hi]; exact hw.1 hwe
  have hop : ¬ isOpB i.1 = false := fun e => hwe (hw.2 e)
  refine ⟨(i.1, i.2), cc hE5, ?_⟩
  have h5 := h1.ext hE15
  refine Ld_sl (s := x.g.pF) ((h5.run.1.cell 1).trans rfl) (s_Effect (i := i) (hc.fn.ext h5.base) fun H6 hE6 => ?_)
  have hE46 := hE5.trans hE6 fun _ _ h => h
  have hE16 := hE15.trans hE6 fun _ _ h => h
  have h6 := h5.ext hE6
  have hsk := h6.topR.stk.len
  rw [List.length_map] at hsk
  have topc6 : ∀ n, hcell H6 ⟨x.top.p, n, none⟩ = (actV x.top)[n]? := h6.topR.row.cell
  have hpb := puts_bd i
  have htb := takes_bd (parms fs) i
  dsimp only
  refine Jn.mk (fun j H' => H6 = H' ∧ j = decide ((x.top.stk.length : Int) < takes (parms fs) i ∨ (x.top.stk.length : Int) - takes (parms fs) i + puts i > 64)) (fun kk hkk => ?_) ?_
  · refine Ld_sl (s := x.top.ss) ((topc6 5).trans rfl) (Br_dec (fun h => hkk _ _ ⟨rfl, (decide_eq_true (by omega)).symm⟩) fun h => Ld_sl (s := x.top.ss) ((topc6 5).trans rfl) ?_)
    refine Lt.mk (u := (x.top.stk.length : Int) - takes (parms fs) i) (by rw [wrap_i64_id (by omega) (by omega)]; omega) (Lt.mk (u := (x.top.stk.length : Int) - takes (parms fs) i + puts i) (by rw [wrap_i64_id (by omega) (by omega)]) (hkk _ _ ⟨rfl, decide_eq_decide.2 (by omega)⟩))
  rintro j _ ⟨rfl, rfl⟩
  have hop' : ¬ isOpB (x.ms.top.fn.code[x.ms.top.nx.toNat]!).1 = false := by
    show ¬ isOpB (x.top.r.code[x.top.nx.toNat]!).1 = false
    rw [hi]; exact hop
  refine Br_dec (fun hst => fin 151 ?_ _ hE46) fun hst => ?_
  · unfold ready
    rw [if_neg hj, if_neg hs, if_neg hop', if_pos]
    show (x.top.stk.length : Int) < takes (mpOf x.g fs).ps x.top.r.code[x.top.nx.toNat]! ∨ _
    rw [hi, hP]; exact hst
  have hst' : ¬ ((x.ms.top.stk.length : Int) < takes (mpOf x.g fs).ps x.ms.top.fn.code[x.ms.top.nx.toNat]! ∨ (x.ms.top.stk.length : Int) - takes (mpOf x.g fs).ps x.ms.top.fn.code[x.ms.top.nx.toNat]! + puts x.ms.top.fn.code[x.ms.top.nx.toNat]! > 64) := by
    show ¬ ((x.top.stk.length : Int) < takes (mpOf x.g fs).ps x.top.r.code[x.top.nx.toNat]! ∨ _)
    rw [hi, hP]; exact hst
  refine ⟨(i.1, i.2), cc hE46, s_access h6 hc hi64 fun H7 hE7 => ?_⟩
  have hE47 := hE46.trans hE7 fun _ _ h => h
  have h7 := h6.ext hE7
  have hac : access (mpOf x.g fs) x.ms x.ms.top.fn.code[x.ms.top.nx.toNat]! = access (mpOf x.g fs) x.ms i := by
    show access _ _ x.top.r.code[x.top.nx.toNat]! = _
    rw [hi]
  refine Br.mk (fun ha => fin 152 ?_ _ hE47) fun ha => ?_
  · unfold ready
    rw [if_neg hj, if_neg hs, if_neg hop', if_neg hst', if_pos]
    rw [hac]; simpa using ha
  have ha' : ¬ access (mpOf x.g fs) x.ms x.ms.top.fn.code[x.ms.top.nx.toNat]! = false := by
    rw [hac]; simpa using ha
  have hro : room x.ms (x.ms.top.fn.code[x.ms.top.nx.toNat]!).1 = room x.ms i.1 := by
    show room _ (x.top.r.code[x.top.nx.toNat]!).1 = _
    rw [hi]
  refine Ld_int (c0 hE47) (s_room h7 (Br.mk (fun hr => fin 102 ?_ _ hE47) fun hr => fin 0 ?_ _ hE47))
  · unfold ready
    rw [if_neg hj, if_neg hs, if_neg hop', if_neg hst', if_neg ha', if_pos]
    rw [hro]; simpa using hr
  · unfold ready
    rw [if_neg hj, if_neg hs, if_neg hop', if_neg hst', if_neg ha', if_neg]
    rw [hro]; simpa using hr
end
section
open Hc Hc.Vf Hc.Mc Hc.Dice
variable {H : Heap}
abbrev fnV (n : Nat) : Value := .func (.func n) #[] #[]
abbrev IntR : RTy := .one (.c (.int .i64))
theorem trueq (w x : Int) : (w == x) = decide (w = x) := by rw [Bool.eq_iff_iff, decide_eq_true_eq, beq_iff_eq]
theorem truneq (w x : Int) : (w != x) = decide (w ≠ x) := by simp [bne, trueq]
def Bin2 (f : Value) (op : Nat) : Prop := ∀ (H : Heap) (w x : Int) (K : Int → Heap → Prop), K (binI op w x) H → CallX Pg f [.int .i64 w, .int .i64 x] IntR H K
def Un1 (f : Value) (op : Nat) : Prop := ∀ (H : Heap) (x : Int) (K : Int → Heap → Prop), K (unI op x) H → CallX Pg f [.int .i64 x] IntR H K
theorem bin_6 : Bin2 (fnV 102) 6 := fun H w x K h => ⟨102, #[], #[], rfl, cQcd w x (by unfold vQcd; exact h)⟩
theorem bin_7 : Bin2 (fnV 103) 7 := fun H w x K h => ⟨103, #[], #[], rfl, cQce w x (by unfold vQce; exact h)⟩
theorem bin_8 : Bin2 (fnV 104) 8 := fun H w x K h => ⟨104, #[], #[], rfl, cQcf w x (by unfold vQcf; exact h)⟩
theorem bin_9 : Bin2 (fnV 105) 9 := fun H w x K h => ⟨105, #[], #[], rfl, cQcg w x (by
  unfold vQcg
  have h : K (divI w x) H := h
  unfold divI at h
  refine Br.mk (fun e => ?_) fun e => Br.mk (fun e2 => ?_) fun e2 => ?_
  · rwa [if_pos (beqI e)] at h
  · rw [if_neg (bneI e), if_pos (beqI e2)] at h
    rw [Int.zero_sub]; exact h
  · rw [if_neg (bneI e), if_neg (bneI e2)] at h
    exact ⟨bneI e, h⟩)⟩
theorem bin_10 : Bin2 (fnV 106) 10 := fun H w x K h => ⟨106, #[], #[], rfl, cQch w x (by
  unfold vQch
  have h : K (remI w x) H := h
  unfold remI at h
  refine Jn.mk (fun j H' => H = H' ∧ j = decide (x = 0 ∨ x = -1)) (fun kk hkk => ?_) ?_
  · refine Br.mk (fun e => hkk _ _ ⟨rfl, (decide_eq_true (.inl (beqI e))).symm⟩) fun e => hkk _ _ ⟨rfl, ?_⟩
    have := bneI e
    rw [Bool.eq_iff_iff, decide_eq_true_eq, beq_iff_eq]; omega
  · rintro j _ ⟨rfl, rfl⟩
    refine Br_dec (fun e => ?_) fun e => ?_
    · rwa [if_pos e] at h
    · rw [if_neg e] at h
      exact ⟨fun e' => e (.inl e'), h⟩)⟩
theorem bin_36 : Bin2 (fnV 107) 36 := fun H w x K h => ⟨107, #[], #[], rfl, cQci w x (by
  unfold vQci
  have h : K (if w < x then w else x) H := h
  have e : (if x < w then x else w) = (if w < x then w else x) := by split <;> split <;> omega
  rw [e]; exact h)⟩
theorem bin_37 : Bin2 (fnV 108) 37 := fun H w x K h => ⟨108, #[], #[], rfl, cQcj w x (by
  unfold vQcj
  have h : K (if w > x then w else x) H := h
  have e : (if w < x then x else w) = (if w > x then w else x) := by split <;> split <;> omega
  rw [e]; exact h)⟩
theorem un_11 : Un1 (fnV 110) 11 := fun H x K h => ⟨110, #[], #[], rfl, cQck x (by unfold vQck; rw [Int.zero_sub]; exact h)⟩
theorem un_18 : Un1 (fnV 111) 18 := fun H x K h => ⟨111, #[], #[], rfl, cQcl x (by unfold vQcl; rw [trueq]; exact s_truth h)⟩
theorem un_38 : Un1 (fnV 113) 38 := fun H x K h => ⟨113, #[], #[], rfl, cQcm x (by
  unfold vQcm
  have h : K (if x < 0 then w64 (-x) else x) H := h
  refine Br_dec (fun e => ?_) fun e => ?_
  · rw [if_pos e] at h; rw [Int.zero_sub]; exact h
  · rwa [if_neg e] at h)⟩
theorem bin_12 : Bin2 (fnV 154) 12 := fun H w x K h => ⟨154, #[], #[], rfl, cQcn w x (by unfold vQcn; rw [trueq]; exact s_truth h)⟩
theorem bin_13 : Bin2 (fnV 155) 13 := fun H w x K h => ⟨155, #[], #[], rfl, cQco w x (by unfold vQco; rw [truneq]; exact s_truth h)⟩
theorem bin_14 : Bin2 (fnV 156) 14 := fun H w x K h => ⟨156, #[], #[], rfl, cQcp w x (by unfold vQcp; exact s_truth h)⟩
theorem bin_15 : Bin2 (fnV 157) 15 := fun H w x K h => ⟨157, #[], #[], rfl, cQcq w x (by unfold vQcq; exact s_truth h)⟩
theorem bin_16 : Bin2 (fnV 158) 16 := fun H w x K h => ⟨158, #[], #[], rfl, cQcr w x (by unfold vQcr; exact s_truth h)⟩
theorem bin_17 : Bin2 (fnV 159) 17 := fun H w x K h => ⟨159, #[], #[], rfl, cQcs w x (by unfold vQcs; exact s_truth h)⟩
def DBin (H : Heap) (v : Value) (op : Nat) : Prop := ∃ b f, v = .func (.func 152) #[] #[.pointer (some (adr b))] ∧ Row H b TQao [fnV f] ∧ Bin2 (fnV f) op
def DUn (H : Heap) (v : Value) (op : Nat) : Prop := ∃ b f, v = .func (.func 153) #[] #[.pointer (some (adr b))] ∧ Row H b TQan [fnV f] ∧ Un1 (fnV f) op
theorem DBin.call {v : Value} {op : Nat} (h : DBin H v op) {s : Sl} {w x : Int} (hv : Vec H TQaq s (ints [w, x])) {K : Int → Heap → Prop} (hK : K (binI op w x) H) : CallX Pg v [.slice s.a s.len s.cap] IntR H K := by
  obtain ⟨b, f, rfl, hr, hf⟩ := h
  refine ⟨152, #[], #[.pointer (some (adr b))], rfl, ?_⟩
  show CallT Pg fQcs [.slice s.a s.len s.cap, .pointer (some (adr b))] _ _ _
  refine cQcb s (adr b) ?_
  unfold vQcb
  exact ⟨fnV f, (hr.cell 0).trans rfl, IxA_vec hv (by decide) (by simp) fun a1 ha1 _ => Ld_int (n := w) (ha1.trans rfl) (IxA_vec hv (by decide) (by simp) fun a2 ha2 _ => Ld_int (n := x) (ha2.trans rfl) (hf _ _ _ _ hK))⟩
theorem DUn.call {v : Value} {op : Nat} (h : DUn H v op) {s : Sl} {x : Int} (hv : Vec H TQaq s (ints [x])) {K : Int → Heap → Prop} (hK : K (unI op x) H) : CallX Pg v [.slice s.a s.len s.cap] IntR H K := by
  obtain ⟨b, f, rfl, hr, hf⟩ := h
  refine ⟨153, #[], #[.pointer (some (adr b))], rfl, ?_⟩
  show CallT Pg fQct [.slice s.a s.len s.cap, .pointer (some (adr b))] _ _ _
  refine cQcc s (adr b) ?_
  unfold vQcc
  exact ⟨fnV f, (hr.cell 0).trans rfl, IxA_vec hv (by decide) (by simp) fun a1 ha1 _ => Ld_int (n := x) (ha1.trans rfl) (hf _ _ _ hK)⟩
theorem DBin.upd {M : Nat → Prop} {H' : Heap} (hu : Upd M H H') {v : Value} {op : Nat} (h : DBin H v op) (hm : ∀ b vs, Row H b TQao vs → ¬ M b) : DBin H' v op := by
  obtain ⟨b, f, e, hr, hf⟩ := h
  exact ⟨b, f, e, hu.row hr (hm _ _ hr), hf⟩
theorem DUn.upd {M : Nat → Prop} {H' : Heap} (hu : Upd M H H') {v : Value} {op : Nat} (h : DUn H v op) (hm : ∀ b vs, Row H b TQan vs → ¬ M b) : DUn H' v op := by
  obtain ⟨b, f, e, hr, hf⟩ := h
  exact ⟨b, f, e, hu.row hr (hm _ _ hr), hf⟩
theorem s_of2 {n op : Nat} (hf : Bin2 (fnV n) op) {k : Int × Value → Heap → Prop} (hk : ∀ H' v, Ext H H' → v.oneCell' = true → DBin H' v op → k (2, v) H') : CallT Pg fQa2 [fnV n] (.one (.agg [(.int .i64), .raw])) H k := by
  refine cQa0 _ ?_
  unfold vQa0
  refine Nw_row (vs := [fnV n]) fun b1 H1 hb1 hE1 hz1 hr1 => ?_
  refine Nw_row (vs := [.int .i64 0, .nilFunc]) fun b2 H2 hb2 hE2 hz2 hr2 => ?_
  simp only [adr_add]
  refine St_row hr2 (by simp) fun H3 hU3 _ hr3 => ⟨rfl, St_row hr3 (by simp) fun H4 hU4 _ hr4 => ⟨(2, .func (.func 152) #[] #[.pointer (some (adr b1))]), hr4.rd_all, ?_⟩⟩
  have hE24 : Ext H1 H4 := extUpd hE2 (by omega) (hU3.trans hU4 fun _ _ e => e)
  exact hk H4 _ (hE1.trans hE24 fun _ _ h => h) rfl ⟨b1, n, rfl, hE24.row hr1 fun h => h, hf⟩
theorem s_of1 {n op : Nat} (hf : Un1 (fnV n) op) {k : Int × Value → Heap → Prop} (hk : ∀ H' v, Ext H H' → v.oneCell' = true → DUn H' v op → k (1, v) H') : CallT Pg fQa3 [fnV n] (.one (.agg [(.int .i64), .raw])) H k := by
  refine cQa1 _ ?_
  unfold vQa1
  refine Nw_row (vs := [fnV n]) fun b1 H1 hb1 hE1 hz1 hr1 => ?_
  refine Nw_row (vs := [.int .i64 0, .nilFunc]) fun b2 H2 hb2 hE2 hz2 hr2 => ?_
  simp only [adr_add]
  refine St_row hr2 (by simp) fun H3 hU3 _ hr3 => ⟨rfl, St_row hr3 (by simp) fun H4 hU4 _ hr4 => ⟨(1, .func (.func 153) #[] #[.pointer (some (adr b1))]), hr4.rd_all, ?_⟩⟩
  have hE24 : Ext H1 H4 := extUpd hE2 (by omega) (hU3.trans hU4 fun _ _ e => e)
  exact hk H4 _ (hE1.trans hE24 fun _ _ h => h) rfl ⟨b1, n, rfl, hE24.row hr1 fun h => h, hf⟩
theorem deed_put {b : Nat} {u0 u1 : Value} (hr : Row H b TQas [u0, u1]) {n : Int} {v : Value} (hv : v.oneCell' = true) {t : Bool} {k : (Int × Value) × Bool → Heap → Prop} (hk : ∀ H', Upd (· = b) H H' → k ((n, v), t) H') :
    St ((adr b).add 0) (.int .i64 n) H fun H3 => StV ((adr b).add 1) v H3 fun H4 => LdC [(.int .i64), .raw] (adr b) H4 fun (c1 : Int × Value) => k (((c1.1, c1.2), t)) H4 := by
  simp only [adr_add]
  refine St_row hr (by simp) fun H3 hU3 _ hr3 => ⟨hv, St_row hr3 (by simp) fun H4 hU4 _ hr4 => ⟨(n, v), hr4.rd_all, hk H4 (hU3.trans hU4 fun _ _ e => e)⟩⟩
def Deed (H : Heap) (op n : Int) (v : Value) : Prop := (isBin op = true → n = 2 ∧ DBin H v op.toNat) ∧ (isUn op = true → n = 1 ∧ DUn H v op.toNat)
theorem Deed.upd {M : Nat → Prop} {H' : Heap} (hu : Upd M H H') {op n : Int} {v : Value} (h : Deed H op n v) (hm : ∀ b T vs, Row H b T vs → T = TQao ∨ T = TQan → ¬ M b) : Deed H' op n v :=
  ⟨fun e => ⟨(h.1 e).1, (h.1 e).2.upd hu fun b vs hr => hm b _ vs hr (.inl rfl)⟩, fun e => ⟨(h.2 e).1, (h.2 e).2.upd hu fun b vs hr => hm b _ vs hr (.inr rfl)⟩⟩
theorem deed_row {b : Nat} {vs : List Value} (hr : Row H b TQas vs) : ∀ b' T vs', Row H b' T vs' → T = TQao ∨ T = TQan → ¬ b' = b := fun b' T vs' hr' hT e => by
  rcases hT with rfl | rfl <;> exact hr'.ne hr (by decide) e
theorem s_compared {op : Int} {k : (Int × Value) × Bool → Heap → Prop} (hno : isBin op = true → 12 ≤ op ∧ op ≤ 17) (hno1 : isUn op = false) (hk : ∀ H' n v, Ext H H' → v.oneCell' = true → Deed H' op n v → k ((n, v), isBin op || isUn op) H') : CallT Pg fQa5 [.int .i64 op] (.tup [(.agg [(.int .i64), .raw]), (.c .bool)]) H k := by
  refine cQa3 _ ?_
  unfold vQa3
  refine Nw_row (vs := [.int .i64 0, .nilFunc]) fun b1 H1 hb1 hE1 hz1 hr1 => ?_
  refine Br.mk (fun h => ?_) fun h12 => ?_
  · have h := beqI h; subst h
    refine s_of2 bin_12 fun H2 v hE2 hv hD => deed_put (hE2.row hr1 fun h => h) hv fun H3 hU3 => ?_
    refine hk H3 _ _ (extUpd (hE1.trans hE2 fun _ _ h => h) (by omega) hU3) hv (Deed.upd hU3 (op := 12) ⟨fun _ => ⟨rfl, hD⟩, fun e => (by cases e)⟩ (deed_row (hE2.row hr1 fun h => h)))
  refine Br.mk (fun h => ?_) fun h13 => ?_
  · have h := beqI h; subst h
    refine s_of2 bin_13 fun H2 v hE2 hv hD => deed_put (hE2.row hr1 fun h => h) hv fun H3 hU3 => ?_
    refine hk H3 _ _ (extUpd (hE1.trans hE2 fun _ _ h => h) (by omega) hU3) hv (Deed.upd hU3 (op := 13) ⟨fun _ => ⟨rfl, hD⟩, fun e => (by cases e)⟩ (deed_row (hE2.row hr1 fun h => h)))
  refine Br.mk (fun h => ?_) fun h14 => ?_
  · have h := beqI h; subst h
    refine s_of2 bin_14 fun H2 v hE2 hv hD => deed_put (hE2.row hr1 fun h => h) hv fun H3 hU3 => ?_
    refine hk H3 _ _ (extUpd (hE1.trans hE2 fun _ _ h => h) (by omega) hU3) hv (Deed.upd hU3 (op := 14) ⟨fun _ => ⟨rfl, hD⟩, fun e => (by cases e)⟩ (deed_row (hE2.row hr1 fun h => h)))
  refine Br.mk (fun h => ?_) fun h15 => ?_
  · have h := beqI h; subst h
    refine s_of2 bin_15 fun H2 v hE2 hv hD => deed_put (hE2.row hr1 fun h => h) hv fun H3 hU3 => ?_
    refine hk H3 _ _ (extUpd (hE1.trans hE2 fun _ _ h => h) (by omega) hU3) hv (Deed.upd hU3 (op := 15) ⟨fun _ => ⟨rfl, hD⟩, fun e => (by cases e)⟩ (deed_row (hE2.row hr1 fun h => h)))
  refine Br.mk (fun h => ?_) fun h16 => ?_
  · have h := beqI h; subst h
    refine s_of2 bin_16 fun H2 v hE2 hv hD => deed_put (hE2.row hr1 fun h => h) hv fun H3 hU3 => ?_
    refine hk H3 _ _ (extUpd (hE1.trans hE2 fun _ _ h => h) (by omega) hU3) hv (Deed.upd hU3 (op := 16) ⟨fun _ => ⟨rfl, hD⟩, fun e => (by cases e)⟩ (deed_row (hE2.row hr1 fun h => h)))
  refine Br.mk (fun h => ?_) fun h17 => ?_
  · have h := beqI h; subst h
    refine s_of2 bin_17 fun H2 v hE2 hv hD => deed_put (hE2.row hr1 fun h => h) hv fun H3 hU3 => ?_
    refine hk H3 _ _ (extUpd (hE1.trans hE2 fun _ _ h => h) (by omega) hU3) hv (Deed.upd hU3 (op := 17) ⟨fun _ => ⟨rfl, hD⟩, fun e => (by cases e)⟩ (deed_row (hE2.row hr1 fun h => h)))
  have hb : isBin op = false := by
    cases e : isBin op with
    | false => rfl
    | true =>
      have := hno e
      have h12 := bneI h12; have h13 := bneI h13; have h14 := bneI h14; have h15 := bneI h15; have h16 := bneI h16; have h17 := bneI h17
      omega
  refine deed_put hr1 rfl fun H3 hU3 => ?_
  have := hk H3 0 .nilFunc (extUpd hE1 (by omega) hU3) rfl ⟨fun e => (by rw [hb] at e; cases e), fun e => (by rw [hno1] at e; cases e)⟩
  rwa [hb, hno1] at this
theorem s_deedOf {op : Int} {k : (Int × Value) × Bool → Heap → Prop} (hk : ∀ H' n v, Ext H H' → v.oneCell' = true → Deed H' op n v → k ((n, v), isBin op || isUn op) H') : CallT Pg fQam [.int .i64 op] (.tup [(.agg [(.int .i64), .raw]), (.c .bool)]) H k := by
  refine cQam _ ?_
  unfold vQam
  refine Nw_row (vs := [.int .i64 0, .nilFunc]) fun b1 H1 hb1 hE1 hz1 hr1 => ?_
  refine Br.mk (fun h => ?_) fun h6 => ?_
  · have h := beqI h; subst h
    refine s_of2 bin_6 fun H2 v hE2 hv hD => deed_put (hE2.row hr1 fun h => h) hv fun H3 hU3 => ?_
    refine hk H3 _ _ (extUpd (hE1.trans hE2 fun _ _ h => h) (by omega) hU3) hv (Deed.upd hU3 (op := 6) ⟨fun _ => ⟨rfl, hD⟩, fun e => (by cases e)⟩ (deed_row (hE2.row hr1 fun h => h)))
  refine Br.mk (fun h => ?_) fun h7 => ?_
  · have h := beqI h; subst h
    refine s_of2 bin_7 fun H2 v hE2 hv hD => deed_put (hE2.row hr1 fun h => h) hv fun H3 hU3 => ?_
    refine hk H3 _ _ (extUpd (hE1.trans hE2 fun _ _ h => h) (by omega) hU3) hv (Deed.upd hU3 (op := 7) ⟨fun _ => ⟨rfl, hD⟩, fun e => (by cases e)⟩ (deed_row (hE2.row hr1 fun h => h)))
  refine Br.mk (fun h => ?_) fun h8 => ?_
  · have h := beqI h; subst h
    refine s_of2 bin_8 fun H2 v hE2 hv hD => deed_put (hE2.row hr1 fun h => h) hv fun H3 hU3 => ?_
    refine hk H3 _ _ (extUpd (hE1.trans hE2 fun _ _ h => h) (by omega) hU3) hv (Deed.upd hU3 (op := 8) ⟨fun _ => ⟨rfl, hD⟩, fun e => (by cases e)⟩ (deed_row (hE2.row hr1 fun h => h)))
  refine Br.mk (fun h => ?_) fun h9 => ?_
  · have h := beqI h; subst h
    refine s_of2 bin_9 fun H2 v hE2 hv hD => deed_put (hE2.row hr1 fun h => h) hv fun H3 hU3 => ?_
    refine hk H3 _ _ (extUpd (hE1.trans hE2 fun _ _ h => h) (by omega) hU3) hv (Deed.upd hU3 (op := 9) ⟨fun _ => ⟨rfl, hD⟩, fun e => (by cases e)⟩ (deed_row (hE2.row hr1 fun h => h)))
  refine Br.mk (fun h => ?_) fun h10 => ?_
  · have h := beqI h; subst h
    refine s_of2 bin_10 fun H2 v hE2 hv hD => deed_put (hE2.row hr1 fun h => h) hv fun H3 hU3 => ?_
    refine hk H3 _ _ (extUpd (hE1.trans hE2 fun _ _ h => h) (by omega) hU3) hv (Deed.upd hU3 (op := 10) ⟨fun _ => ⟨rfl, hD⟩, fun e => (by cases e)⟩ (deed_row (hE2.row hr1 fun h => h)))
  refine Br.mk (fun h => ?_) fun h36 => ?_
  · have h := beqI h; subst h
    refine s_of2 bin_36 fun H2 v hE2 hv hD => deed_put (hE2.row hr1 fun h => h) hv fun H3 hU3 => ?_
    refine hk H3 _ _ (extUpd (hE1.trans hE2 fun _ _ h => h) (by omega) hU3) hv (Deed.upd hU3 (op := 36) ⟨fun _ => ⟨rfl, hD⟩, fun e => (by cases e)⟩ (deed_row (hE2.row hr1 fun h => h)))
  refine Br.mk (fun h => ?_) fun h37 => ?_
  · have h := beqI h; subst h
    refine s_of2 bin_37 fun H2 v hE2 hv hD => deed_put (hE2.row hr1 fun h => h) hv fun H3 hU3 => ?_
    refine hk H3 _ _ (extUpd (hE1.trans hE2 fun _ _ h => h) (by omega) hU3) hv (Deed.upd hU3 (op := 37) ⟨fun _ => ⟨rfl, hD⟩, fun e => (by cases e)⟩ (deed_row (hE2.row hr1 fun h => h)))
  refine Br.mk (fun h => ?_) fun h11 => ?_
  · have h := beqI h; subst h
    refine s_of1 un_11 fun H2 v hE2 hv hD => deed_put (hE2.row hr1 fun h => h) hv fun H3 hU3 => ?_
    refine hk H3 _ _ (extUpd (hE1.trans hE2 fun _ _ h => h) (by omega) hU3) hv (Deed.upd hU3 (op := 11) ⟨fun e => (by cases e), fun _ => ⟨rfl, hD⟩⟩ (deed_row (hE2.row hr1 fun h => h)))
  refine Br.mk (fun h => ?_) fun h18 => ?_
  · have h := beqI h; subst h
    refine s_of1 un_18 fun H2 v hE2 hv hD => deed_put (hE2.row hr1 fun h => h) hv fun H3 hU3 => ?_
    refine hk H3 _ _ (extUpd (hE1.trans hE2 fun _ _ h => h) (by omega) hU3) hv (Deed.upd hU3 (op := 18) ⟨fun e => (by cases e), fun _ => ⟨rfl, hD⟩⟩ (deed_row (hE2.row hr1 fun h => h)))
  refine Br.mk (fun h => ?_) fun h38 => ?_
  · have h := beqI h; subst h
    refine s_of1 un_38 fun H2 v hE2 hv hD => deed_put (hE2.row hr1 fun h => h) hv fun H3 hU3 => ?_
    refine hk H3 _ _ (extUpd (hE1.trans hE2 fun _ _ h => h) (by omega) hU3) hv (Deed.upd hU3 (op := 38) ⟨fun e => (by cases e), fun _ => ⟨rfl, hD⟩⟩ (deed_row (hE2.row hr1 fun h => h)))
  have h6 := bneI h6; have h7 := bneI h7; have h8 := bneI h8; have h9 := bneI h9; have h10 := bneI h10; have h36 := bneI h36; have h37 := bneI h37; have h11 := bneI h11; have h18 := bneI h18; have h38 := bneI h38
  refine s_compared (fun e => ?_) ?_ fun H2 n v hE2 hv hD => deed_put (hE2.row hr1 fun h => h) hv fun H3 hU3 => hk H3 n v (extUpd (hE1.trans hE2 fun _ _ h => h) (by omega) hU3) hv (Deed.upd hU3 hD (deed_row (hE2.row hr1 fun h => h)))
  · simp only [isBin, List.contains_cons, List.contains_nil, Bool.or_false, Bool.or_eq_true, beq_iff_eq] at e
    omega
  · simp only [isUn, List.contains_cons, List.contains_nil, Bool.or_false, Bool.or_eq_false_iff, beq_eq_false_iff_ne]
    omega
end
section
open Hc Hc.Vf Hc.Mc Hc.Dice
variable {H : Heap}
theorem m_take {H0 : Heap} {x : MG} (h : MacR H0 H x) {t : Int} {n : Nat} (ht : t = n) (hn : n ≤ x.top.stk.length) (hb : x.top.stk.length ≤ 2 ^ 40) {k : Sl → Heap → Prop}
    (hk : ∀ r H' c, Upd (· = x.top.p) H H' → MacR H0 H' { x with top := x.top.took n, c := c } → Vec H' TQaq r (ints (x.top.stk.drop (x.top.stk.length - n))) → IsS c H0.size 999 r → k r H') :
    CallT Pg fQao [.pointer (some (adr x.top.p)), .int .i64 t] (.one (.c .sl)) H k := by
  refine s_take h.topR ht hn hb fun r H1 hU hr hv hf => hk r H1 _ hU (h.top (d := fun _ => 999) (tch_row hU (h.topI _ (.inl rfl)) rfl) hr rfl rfl fun b hb => .inl hb) hv fun b hb => ?_
  exact is_new h.base.size (hf b hb) rfl
theorem m_push {H0 : Heap} {x : MG} (h : MacR H0 H x) {v : Int} (hb : x.top.stk.length ≤ 2 ^ 40) {k : Unit → Heap → Prop}
    (hk : ∀ ss H' c, Upd (fun b => b = x.top.p ∨ x.top.ss.a = some (adr b)) H H' → MacR H0 H' { x with top := { x.top with ss := ss, stk := x.top.stk ++ [v] }, c := c } → k () H') :
    CallT Pg fQan [.pointer (some (adr x.top.p)), .int .i64 v] (.tup []) H k := by
  refine s_push h.topR hb fun s' H1 hU hr hs => hk s' H1 _ hU (h.top (d := fun _ => x.low.length) (Tch.of hU fun b _ e => ?_) hr rfl rfl fun b hb => ?_)
  · have := h.topI b (e.imp id fun e => .inr e)
    exact ⟨this.1, this.2⟩
  · rcases hb with rfl | hb | hb
    · exact .inl (.inl rfl)
    · exact .inl (.inr (.inl hb))
    · rcases hs with e | ⟨b', e, hlt⟩
      · dsimp only at hb
        rw [e] at hb; exact .inl (.inr (.inr hb))
      · dsimp only at hb
        rw [e] at hb; cases hb
        exact .inr ⟨hlt, rfl⟩
theorem m_cell {H0 : Heap} {x : MG} (h : MacR H0 H x) {i : Nat} (hi : i < 7) {v : Value} {k : Heap → Prop} {t : AP} (ht : actV t = (actV x.top).set i v) (hp : t.p = x.top.p) (hr : t.r = x.top.r) (hl : t.ls = x.top.ls) (hs : t.ss = x.top.ss) (hloc : t.loc = x.top.loc) (hstk : t.stk = x.top.stk) (hnx : NxR t.r.code.length t.nx t.v)
    (hk : ∀ H' c, Upd (· = x.top.p) H H' → H'.size = H.size → MacR H0 H' { x with top := t, c := c } → k H') : St ⟨x.top.p, i, none⟩ v H k := by
  refine St_row h.topR.row hi fun H1 hU hz hr1 => hk H1 _ hU hz (h.top (d := fun _ => 999) (tch_row hU (h.topI _ (.inl rfl)) rfl) ⟨?_, ?_, ?_, ?_, hnx⟩ hp hr fun b hb => .inl ?_)
  · rw [hp, ht]; exact hr1
  · rw [hl, hloc]; exact h.topR.loc.upd hU fun b hb e => h.topR.neL hb e
  · rw [hs, hstk]; exact h.topR.stk.upd hU fun b hb e => h.topR.neS hb e
  · rw [hl, hs]; exact h.topR.ap
  · unfold ActB at hb ⊢
    rw [hp, hl, hs] at hb; exact hb
theorem locals_eq (L : Int) (n : Nat) : (if (if 32 < (n : Int) then (n : Int) else 32) < (if (if L < 0 then 0 else L) < (n : Int) then (n : Int) else (if L < 0 then 0 else L)) then (if 32 < (n : Int) then (n : Int) else 32) else (if (if L < 0 then 0 else L) < (n : Int) then (n : Int) else (if L < 0 then 0 else L))) = ((n + ((min (max L 0) 32).toNat - n) : Nat) : Int) := by
  repeat' split
  all_goals omega
theorem s_activate {r : Rou} {ps : Sl} {l : List Int} {lo : Int} (hlo : lo = (l.length : Nat)) (hv : rdL H ps.a (ints l)) (hpl : ps.len = l.length) (hl : l.length ≤ 2 ^ 40) {k : Option Addr → Heap → Prop}
    (hk : ∀ H' (t : AP), Ext H H' → ActR H' t → (∀ b, ActB t b → H.size ≤ b) → t.r = r → t.loc = locals (fnOf r) l → t.stk = [] → t.nx = 0 → k (some (adr t.p)) H') :
    CallT Pg fQac [.agg #[.string r.name, .int .i64 r.params, .int .i64 r.locals, .slice r.sl.a r.sl.len r.sl.cap], .slice ps.a ps.len ps.cap, .int .i64 lo] (.one (.c .ptr)) H k := by
  subst hlo
  refine cQac (r.name, r.params, r.locals, r.sl) _ _ ?_
  unfold vQac
  refine Nw_row (vs := rouV r) fun b1 H1 hb1 hE1 hz1 hr1 => ?_
  refine ⟨(r.name, r.params, r.locals, r.sl), hr1.rd_all, ?_⟩
  simp only [adr_add]
  refine Ld_int (n := r.locals) ((hr1.cell 2).trans rfl) ?_
  rw [locals_eq]
  refine Mks_row (by omega) (by omega) (by omega) fun b2 H2 hb2 hE2 hz2 hr2 => ?_
  have st : ∀ {H'}, Ext H1 H' → ∀ y ∈ [((⟨b1, 2, none⟩ : Addr), Value.int .i64 r.locals), (⟨b1, 0, none⟩, .string r.name), (⟨b1, 1, none⟩, .int .i64 r.params), (⟨b1, 2, none⟩, .int .i64 r.locals), (⟨b1, 3, none⟩, .slice r.sl.a r.sl.len r.sl.cap)], hcell H' y.1 = some y.2 := fun hE y hy => by
    have hr := hE.row hr1 fun h => h
    simp only [List.mem_cons, List.not_mem_nil, or_false] at hy
    rcases hy with rfl | rfl | rfl | rfl | rfl
    · exact (hr.cell 2).trans rfl
    · exact (hr.cell 0).trans rfl
    · exact (hr.cell 1).trans rfl
    · exact (hr.cell 2).trans rfl
    · exact (hr.cell 3).trans rfl
  refine Stab_all (st hE2) ?_
  rw [Int.toNat_natCast] at hr2 ⊢
  generalize hn : l.length + ((min (max r.locals 0) 32).toNat - l.length) = n at *
  refine Nw_row (vs := [.string r.name, .int .i64 r.params, .int .i64 r.locals, slV r.sl, .slice (some (adr b2)) n n, .slice none 0 0, .int .i64 0]) fun b3 H3 hb3 hE3 hz3 hr3 => ?_
  have hE13 := hE2.trans hE3 fun _ _ h => h
  refine Stab_all (st hE13) ?_
  simp only [NilCk_some, adr_add]
  refine Ld_sl (s := ⟨some (adr b2), n, n⟩) ((hr3.cell 4).trans rfl) ?_
  have hE03 := hE1.trans hE13 fun _ _ h => h
  have hv3 := rdL_ext hE03 hv
  have hr23 := hE3.row hr2 fun h => h
  refine ⟨ints l, hv3, fun _ => ?_, ?_⟩
  · simp only [List.length_map, Nat.mul_one]
    rw [hpl]
    exact (Nat.min_eq_left (by omega)).symm
  dsimp only
  refine StL_row hr23 (by simp; omega) (ints_one _) fun H4 hU4 hz4 hr4 => ?_
  have e0 : (List.replicate n (Value.int .i64 0)).take (0 + 0) ++ ints l ++ (List.replicate n (Value.int .i64 0)).drop (0 + 0 + (ints l).length) = ints (locals (fnOf r) l) := by
    unfold locals
    simp only [Nat.add_zero, List.take_zero, List.nil_append, List.length_map, Nat.zero_add, List.drop_replicate, ints, List.map_append, List.map_replicate]
    congr 2
    show n - l.length = (min (max r.locals 0) 32).toNat - l.length
    omega
  rw [e0] at hr4
  have hll : (locals (fnOf r) l).length = n := by
    unfold locals
    rw [List.length_append, List.length_replicate]
    exact hn
  have hU' : Upd (· = b2) H3 H4 := hU4.mono fun _ _ e => e.1
  refine hk H4 ⟨b3, r, ⟨some (adr b2), n, n⟩, ⟨none, 0, 0⟩, locals (fnOf r) l, [], 0, 0⟩ (extUpd (b := b2) hE03 (by have := hE1.size; omega) hU') ⟨?_, ?_, Vec.nil _ _, apart_nil _ rfl, .inl rfl⟩ (fun b hb => ?_) rfl rfl rfl rfl
  · exact hU'.row hr3 (show ¬ b3 = b2 by omega)
  · exact ⟨by simp [hll], .inr ⟨b2, [], rfl, by simpa using hr4, by simp [hll]⟩, Nat.le_refl _⟩
  · have := hE1.size; have := hE2.size
    rcases hb with hb | hb | hb
    · dsimp only at hb; omega
    · cases hb; omega
    · cases hb
end
section
open Hc Hc.Vf Hc.Mc Hc.Dice
variable {H : Heap}
abbrev stat (g : RunG) : Sl × Sl × Sy × Int × Int × Int × Int × Sl × Int × Int × Sl × Nat × Nat := (g.pS, g.pF, g.s, g.n, g.fr, g.sd, g.en, g.inS, g.ix, g.gn, g.rp, g.mp, g.dp)
structure Post (H0 : Heap) (x : MG) (res : Int × Ms) (H' : Heap) (x' : MG) : Prop where
  mac : MacR H0 H' x'
  b : x'.b = x.b
  st : stat x'.g = stat x.g
  er : x'.g.er = res.1
  ms : res.1 = 0 → x'.ms = res.2
  steps : x'.g.st = res.2.steps
abbrev cutS (m : Ms) (t : Nat) : Ms := { m with top := { m.top with stk := m.top.stk.take (m.top.stk.length - t) } }
theorem goal_nx {r : Rou} {P : MP} (hP : P.lim = 2 ^ 40) (A : Int) : NxR r.code.length (goal P (fnOf r) A) (if 0 ≤ A ∧ A ≤ 2 ^ 40 then A else -1) := by
  unfold goal NxR
  rw [hP]
  dsimp only
  repeat' split
  all_goals omega
theorem vec_pre {H : Heap} {T : TypeId} {s : Sl} {vs : List Value} (h : Vec H T s vs) {n : Nat} (hn : n ≤ vs.length) : Vec H T ⟨s.a, n, s.cap⟩ (vs.take n) := by
  have hl := h.len
  refine ⟨by simp; omega, ?_, by have := h.lc; dsimp only; omega⟩
  rcases h.own with ⟨h1, h2, h3⟩ | ⟨b, sp, h1, h2, h3⟩
  · exact .inl ⟨h1, h2, by rw [h3]; simp⟩
  · refine .inr ⟨b, vs.drop n ++ sp, h1, by rw [← List.append_assoc, List.take_append_drop]; exact h2, ?_⟩
    simp only [List.length_append, List.length_drop, List.length_take]
    omega
theorem rou_get {fs : List Rou} {j : Nat} (hj : j < fs.length) : (fs.map fnOf)[j]! = fnOf fs[j]! := by
  rw [getElem!_pos (fs.map fnOf) j (by simpa using hj), getElem!_pos fs j hj]; simp
theorem s_jumps {H0 : Heap} {x : MG} {fs : List Rou} {ins : List (Int × Int × Int)} (h : MacR H0 H x) (hc : CtxR H0 x.g.pF x.g.s x.g.inS fs ins) (her : x.g.er = 0) (hst : 0 ≤ x.g.st ∧ x.g.st ≤ 2000) {op A : Int}
    (ht : takes (parms fs) (op, A) ≤ x.top.stk.length) (hsl : x.top.stk.length ≤ 64) (hcall : op = 21 → 0 ≤ A ∧ A < (fs.length : Int) ∧ x.low.length + 1 ≤ 16) (hret : op = 22 → x.low ≠ [] ∧ ∀ a ∈ x.low, a.stk.length ≤ 64) (E : En) {k : Bool → Heap → Prop}
    (hyes : ∀ H' x', (19 ≤ op ∧ op ≤ 24) → Post H0 x (act (mpOf x.g fs) E x.ms (cutS x.ms (takes (parms fs) (op, A)).toNat) (args x.ms (takes (parms fs) (op, A)).toNat) op.toNat A) H' x' → k true H')
    (hno : ∀ H', ¬ (19 ≤ op ∧ op ≤ 24) → Ext H H' → k false H') :
    CallT Pg fQap [.pointer (some (adr x.b)), .agg #[.int .i64 op, .int .i64 A]] (.one (.c .bool)) H k := by
  refine cQap _ (op, A) ?_
  unfold vQap
  refine Nw_row (vs := [.int .i64 op, .int .i64 A]) fun b1 H1 hb1 hE1 hz1 hr1 => ?_
  have h1 := h.ext hE1
  have c0 : hcell H1 (adr b1) = some (.int .i64 op) := (hr1.cell 0).trans rfl
  have c1 : hcell H1 ⟨b1, 1, none⟩ = some (.int .i64 A) := (hr1.cell 1).trans rfl
  simp only [NilCk_some, adr_add, mk_add, Jn]
  refine s_last h1 (Ld_int c0 ?_)
  simp only [NilCk_some, adr_add, mk_add]
  refine Br.mk (fun h19 => ?_) fun h19 => ?_
  · have h19 := beqI h19; subst h19
    refine Ld_int c1 (s_goal (m_cell h1 (t := { x.top with nx := goal (mpOf x.g fs) (fnOf x.top.r) A, v := if 0 ≤ A ∧ A ≤ 2 ^ 40 then A else -1 }) (by decide) rfl rfl rfl rfl rfl rfl rfl (goal_nx rfl A) fun H2 c hU2 _ h2 => ?_))
    refine hyes H2 _ (by omega) ⟨h2, rfl, rfl, her, fun _ => ?_, rfl⟩
    have e : (takes (parms fs) (19, A)).toNat = 0 := by rw [takes_of (by decide) (by decide) (c := 0) (by decide)]; rfl
    rw [e]
    simp [act, cutS, MG.ms, AP.act]
  have h19 := bneI h19
  refine Br.mk (fun h20 => ?_) fun h20 => ?_
  · have h20 := beqI h20; subst h20
    have e : takes (parms fs) (20, A) = 1 := takes_of (by decide) (by decide) (by decide)
    rw [e] at ht hyes
    refine m_take h1 (n := 1) rfl (by omega) (by omega) fun r H2 c2 hU2 h2 hv2 _ => ?_
    have hx : (x.top.stk.drop (x.top.stk.length - 1)).length = 1 := by simp; omega
    have ha : args x.ms 1 = x.top.stk.drop (x.top.stk.length - 1) := rfl
    generalize hl : x.top.stk.drop (x.top.stk.length - 1) = l at *
    match l, hx with
    | [w], _ =>
      refine IxA_vec hv2 (by decide) (by simp) fun a2 ha2 _ => Ld_int (n := w) (ha2.trans rfl) ?_
      have c12 : hcell H2 ⟨b1, 1, none⟩ = some (.int .i64 A) := hU2.cell c1 (by have := h.topR.row.lt; dsimp only; omega)
      refine Br.mk (fun hw => ?_) fun hw => ?_
      · refine Ld_int c12 (s_goal (m_cell h2 (t := { x.top.took 1 with nx := goal (mpOf x.g fs) (fnOf x.top.r) A, v := if 0 ≤ A ∧ A ≤ 2 ^ 40 then A else -1 }) (by decide) rfl rfl rfl rfl rfl rfl rfl (goal_nx rfl A) fun H3 c hU3 _ h3 => ?_))
        refine hyes H3 _ (by omega) ⟨h3, rfl, rfl, her, fun _ => ?_, ?_⟩
        · rw [show (1 : Int).toNat = 1 from rfl, ha]
          have hw := beqI hw
          subst hw
          rfl
        · rw [show (1 : Int).toNat = 1 from rfl, ha]
          have hw := beqI hw
          subst hw
          rfl
      · refine hyes H2 _ (by omega) ⟨h2, rfl, rfl, her, fun _ => ?_, ?_⟩
        · rw [show (1 : Int).toNat = 1 from rfl, ha]
          have hw := bneI hw
          show _ = (if w = 0 then _ else cutS x.ms 1)
          rw [if_neg hw]
        · rw [show (1 : Int).toNat = 1 from rfl, ha]
          have hw := bneI hw
          show _ = (if w = 0 then _ else cutS x.ms 1).steps
          rw [if_neg hw]
  have h20 := bneI h20
  have bne : b1 ≠ x.top.p := by have := h.topR.row.lt; omega
  refine Br.mk (fun h21 => ?_) fun h21 => ?_
  · have h21 := beqI h21; subst h21
    obtain ⟨hA0, hA1, hA2⟩ := hcall rfl
    have hj : A.toNat < fs.length := by omega
    have e : takes (parms fs) (21, A) = max (fs[A.toNat]!).params 0 := by
      unfold takes isOpB
      rw [if_pos (show decide ((1 : Int) ≤ 21 ∧ (21 : Int) ≤ 39) = true by decide), if_pos (show (tbl[(21 : Int).toNat]!).2.2 = 1 by decide), if_pos ⟨hA0, by simpa [parms] using hA1⟩, parms_get hj]
    have hrou : (mpOf x.g fs).fns[A.toNat]! = fnOf fs[A.toNat]! := rou_get hj
    generalize hr : fs[A.toNat]! = r at *
    have hcr : CodeR H0 r := hc.fnC r (by rw [← hr, getElem!_pos fs _ hj]; exact List.getElem_mem _)
    rw [e] at ht hyes
    refine Ld_sl (s := x.g.pF) ((h1.run.1.cell 1).trans rfl) (Ld_int c1 (IxA_rn' rouV_len (hc.fn.ext h1.base) (by decide) (j := A.toNat) (by omega) hj fun a5 ha5 => ?_))
    rw [hr] at ha5
    refine ⟨(r.name, r.params, r.locals, r.sl), ha5, ?_⟩
    refine Nw_row (vs := [.string ByteArray.empty, .int .i64 0, .int .i64 0, .slice none 0 0]) fun b2 H2 hb2 hE2 hz2 hr2 => ?_
    have h2 := h1.ext hE2
    have ha52 := hcells_ext hE2 ha5
    refine Stab_all (fun y hy => ?_) ?_
    · simp only [List.mem_cons, List.not_mem_nil, or_false] at hy
      rcases hy with rfl | rfl | rfl | rfl | rfl | rfl
      · have := ha52.1; simpa using this
      · have := ha52.2.1; simpa using this
      · have := ha52.2.2.1; simpa using this
      · have := ha52.2.2.2.1; simpa using this
      · exact hE2.cell c1 fun h => h
      · exact (h2.run.1.cell 1).trans rfl
    refine St_row hr2 (by simp) fun H3 hU3 _ hr3 => St_row hr3 (by simp) fun H4 hU4 _ hr4 => St_row hr4 (by simp) fun H5 hU5 _ hr5 => St_row hr5 (by simp) fun H6 hU6 _ hr6 => ?_
    have hr6 : Row H6 b2 TQak (rouV r) := hr6
    have hE6 : Ext H1 H6 := extUpd hE2 (by omega) (((hU3.trans hU4 fun _ _ e => e).trans hU5 fun _ _ e => e).trans hU6 fun _ _ e => e)
    have h6 := h1.ext hE6
    refine Ld_int (n := r.params) ((hr6.cell 1).trans rfl) ?_
    have emax : (if r.params < 0 then 0 else r.params) = max r.params 0 := by split <;> omega
    rw [emax]
    have htn : max r.params 0 = ((max r.params 0).toNat : Int) := by omega
    refine m_take h6 (n := (max r.params 0).toNat) htn (by omega) (by omega) fun pr H7 c7 hU7 h7 hv7 _ => ?_
    have hpl := hv7.len
    have hlow : x.top.p < H1.size := h1.topR.row.lt
    have hbx : x.b < H1.size := h1.run.1.lt
    have hr7 : Row H7 b2 TQak (rouV r) := hU7.row hr6 (by omega)
    generalize hl : x.top.stk.drop (x.top.stk.length - (max r.params 0).toNat) = l at *
    have hll : l.length ≤ 64 := by rw [← hl]; simp; omega
    have harg : args x.ms (max r.params 0).toNat = l := hl
    refine s_mstep h7.run.1 ⟨hst.1, by dsimp only; omega⟩ fun H8 hU8 hr8 => ?_
    have h8 := h7.num (st := x.g.st + 1) (er := x.g.er) (si := 0) (ov := x.g.ov) hU8 hr8
    have hact : act (mpOf x.g fs) E x.ms (cutS x.ms (max r.params 0).toNat) l (21 : Int).toNat A = if x.g.st + 1 ≤ 2000 then
      (0, { cutS x.ms (max r.params 0).toNat with low := x.ms.low ++ [(cutS x.ms (max r.params 0).toNat).top], top := ⟨fnOf r, locals (fnOf r) l, [], 0⟩, steps := x.g.st + 1, since := 0 })
      else (120, { cutS x.ms (max r.params 0).toNat with steps := x.g.st + 1 }) := by
      rw [← hrou]; rfl
    rw [harg, hact] at hyes
    dsimp only
    refine Br.mk (fun hb => ?_) fun hb => ?_
    · have hst2 : ¬ x.g.st + 1 ≤ 2000 := by simpa using hb
      rw [if_neg hst2] at hyes
      refine St_row h8.run.1 (by simp) fun H9 hU9 _ hr9 => ?_
      have h9 := h8.num (st := x.g.st + 1) (er := 120) (si := 0) (ov := x.g.ov) hU9 hr9
      exact hyes H9 _ (by omega) ⟨h9, rfl, rfl, rfl, fun e => (by cases e), rfl⟩
    have hst2 : x.g.st + 1 ≤ 2000 := by simpa using hb
    rw [if_pos hst2] at hyes
    have hr28 : Row H8 b2 TQak (rouV r) := hU8.row hr7 (by dsimp only; omega)
    refine Ld_sl (s := x.g.ls) ((h8.run.1.cell 19).trans rfl) ⟨(r.name, r.params, r.locals, r.sl), hr28.rd_all, ?_⟩
    rw [List.length_map] at hpl
    have hv8 : rdL H8 pr.a (ints l) := by
      refine (hv7.upd hU8 fun b hb e => ?_).rd
      exact hv7.ne hb h7.run.1 (by decide) e
    refine s_activate (l := l) (by rw [hpl]) hv8 hpl (by omega) fun H9 t hE9 ht9 hf9 htr htl hts htn => ?_
    have h9 := h8.ext hE9
    refine Stab_1 ((h9.run.1.cell 19).trans rfl) ?_
    refine Nw_row (vs := [.pointer (some (adr t.p))]) fun b3 H10 hb3 hE10 hz10 hr10 => ?_
    have h10 := h9.ext hE10
    have hE810 := hE9.trans hE10 fun _ _ h => h
    have st : ∀ {H'}, Row H' b2 TQak (rouV r) → ∀ y ∈ [((⟨b2, 0, none⟩ : Addr), Value.string r.name), (⟨b2, 1, none⟩, .int .i64 r.params), (⟨b2, 2, none⟩, .int .i64 r.locals), (⟨b2, 3, none⟩, .slice r.sl.a r.sl.len r.sl.cap)], hcell H' y.1 = some y.2 := fun hr y hy => by
      simp only [List.mem_cons, List.not_mem_nil, or_false] at hy
      rcases hy with rfl | rfl | rfl | rfl
      · exact (hr.cell 0).trans rfl
      · exact (hr.cell 1).trans rfl
      · exact (hr.cell 2).trans rfl
      · exact (hr.cell 3).trans rfl
    refine Stab_all (fun y hy => ?_) ?_
    · have hr := hE810.row hr28 fun h => h
      simp only [List.mem_cons, List.not_mem_nil, or_false] at hy
      rcases hy with rfl | rfl | rfl | rfl | rfl
      · exact (hr.cell 0).trans rfl
      · exact (hr.cell 1).trans rfl
      · exact (hr.cell 2).trans rfl
      · exact (hr.cell 3).trans rfl
      · exact (h10.run.1.cell 19).trans rfl
    have hlv := h10.lv.1
    have hlvl := hlv.len
    simp only [List.length_map, List.length_append, List.length_singleton] at hlvl
    refine App_vec2 (ws := [.pointer (some (adr t.p))]) hlv hr10.rd_all rfl (fun w hw => by rw [List.mem_singleton.1 hw]; rfl) (by decide) (by simp; omega) fun ls' H11 hv11 hU11 ha11 hz11 => ?_
    have hls : ls'.a = x.g.ls.a ∨ ∃ b, ls'.a = some (adr b) ∧ H8.size ≤ b := ha11.imp (fun e => e.1) fun e => ⟨_, e, by have := hE810.size; omega⟩
    have hU11' : Upd (fun b => x.g.ls.a = some (adr b) ∨ b = x.b) H8 H11 := (hE810.mono fun _ _ h => h.elim).trans (hU11.mono fun b _ e => .inl e.1) fun _ _ e => e
    have hb2l : x.g.ls.a ≠ some (adr b2) := fun e => by have := h1.lv.1.lt e; omega
    refine Stab_all (st (hU11.row (hE810.row hr28 fun h => h) fun e => hb2l e.1)) ?_
    have hrow11 := hU11.row h10.run.1 fun e => (hlv.ne e.1 h10.run.1 (by decide)) rfl
    refine St_row hrow11 (by simp) fun H12 hU12 _ hr12 => ?_
    have hp10 := ht9.upd hE10 fun _ _ h => h
    have ht11 : ActR H11 t := hp10.upd hU11 fun b hb e => by
      have h1 := hf9 b hb
      have h2 := h8.lv.1.lt e.1
      omega
    have ht12 : ActR H12 t := ht11.upd hU12 fun b hb e => by
      have h1 := hf9 b hb
      have h2 := h8.run.1.lt
      dsimp only at e h2
      omega
    have hfin := h8.call (ls := ls') (t := t) (by simpa using hA2) (hU11'.trans hU12 fun _ _ e => .inr e) hr12 (by
      have := hv11.upd hU12 fun b hb e => hv11.ne hb hrow11 (by decide) e
      simpa [ptrs] using this) hls ht12 hf9 (by rw [htr]; exact hcr)
    refine hyes H12 _ (by omega) ⟨hfin, rfl, rfl, her, fun _ => ?_, rfl⟩
    simp only [MG.ms, AP.act, htr, htl, hts, htn, List.map_append, List.map_cons, List.map_nil]
  have h21 := bneI h21
  refine Br.mk (fun h22 => ?_) fun h22 => ?_
  · have h22 := beqI h22; subst h22
    have e : takes (parms fs) (22, A) = 1 := takes_of (by decide) (by decide) (by decide)
    rw [e] at ht hyes
    obtain ⟨hne, hlen⟩ := hret rfl
    refine m_take h1 (n := 1) rfl (by omega) (by omega) fun r H2 c2 hU2 h2 hv2 _ => ?_
    have hx : (x.top.stk.drop (x.top.stk.length - 1)).length = 1 := by simp; omega
    have ha : args x.ms 1 = x.top.stk.drop (x.top.stk.length - 1) := rfl
    generalize hl : x.top.stk.drop (x.top.stk.length - 1) = l at *
    match l, hx with
    | [w], _ =>
      obtain ⟨low, t, hlow⟩ : ∃ low t, x.low = low ++ [t] := ⟨x.low.dropLast, x.low.getLast hne, (List.dropLast_concat_getLast hne).symm⟩
      refine IxA_vec hv2 (by decide) (by simp) fun a2 ha2 _ => Ld_int (n := w) (ha2.trans rfl) ?_
      have hlv := h2.lv.1
      have hlvl := hlv.len
      dsimp only at hlv hlvl
      rw [hlow] at hlv hlvl
      simp only [List.length_map, List.length_append, List.length_singleton] at hlvl
      have hl16 := h.lowl
      rw [hlow] at hl16
      simp only [List.length_append, List.length_singleton] at hl16
      refine Ld_sl (s := x.g.ls) ((h2.run.1.cell 19).trans rfl) (Ld_sl (s := x.g.ls) ((h2.run.1.cell 19).trans rfl) (Lt.mk (u := ((low.length + 1 : Nat) : Int)) (by rw [wrap_i64_id (by omega) (by omega)]; omega) (SlA0 (by omega) (by have := hlv.lc; omega) (by omega) ?_)))
      simp only [Int.toNat_natCast]
      refine St_row h2.run.1 (by simp) fun H3 hU3 _ hr3 => ?_
      have hv3 := (vec_pre hlv (n := low.length + 1) (by simp)).upd hU3 fun b hb e => hlv.ne hb h2.run.1 (by decide) e
      have epre : (ptrs (low ++ [t] ++ [x.top.took 1])).take (low.length + 1) = ptrs (low ++ [t]) := by
        rw [ptrs, List.map_append, List.take_left' (by simp)]
      have hv3' : Vec H3 TQaa ⟨x.g.ls.a, low.length + 1, x.g.ls.cap⟩ (ptrs (low ++ [t])) := by rw [← epre]; exact hv3
      have h3 := h2.ret (low := low) (t := t) hlow (ls := ⟨x.g.ls.a, low.length + 1, x.g.ls.cap⟩) hU3 hr3 hv3' rfl
      have htl := hlen t (by rw [hlow]; simp)
      refine s_last h3 (m_push h3 (by dsimp only; omega) fun ss H4 c4 hU4 h4 => ?_)
      have hml : x.ms.low = low.map AP.act ++ [t.act] := by
        show x.low.map AP.act = _
        rw [hlow]; simp
      refine hyes H4 _ (by omega) ⟨h4, rfl, rfl, her, fun _ => ?_, rfl⟩
      rw [show (1 : Int).toNat = 1 from rfl, ha]
      have eg : x.ms.low.getLast! = t.act := by rw [hml, List.getLast!_eq_getLast?_getD, List.getLast?_concat]; rfl
      show _ = { cutS x.ms 1 with low := x.ms.low.dropLast, top := { x.ms.low.getLast! with stk := x.ms.low.getLast!.stk ++ [w] } }
      rw [eg, hml, List.dropLast_concat]
  have h22 := bneI h22
  refine Br.mk (fun h23 => ?_) fun h23 => ?_
  · have h23 := beqI h23; subst h23
    have e : (takes (parms fs) (23, A)).toNat = 0 := by rw [takes_of (by decide) (by decide) (c := 0) (by decide)]; rfl
    rw [e] at hyes
    refine St_row h1.run.1 (by simp) fun H2 hU2 _ hr2 => ?_
    have h2 := h1.num (st := x.g.st) (er := x.g.er) (si := x.g.si) (ov := true) hU2 hr2
    refine hyes H2 _ (by omega) ⟨h2, rfl, rfl, her, fun _ => ?_, rfl⟩
    simp [act, cutS, MG.ms, AP.act]
  have h23 := bneI h23
  refine Br.mk (fun h24 => ?_) fun h24 => ?_
  · have h24 := beqI h24; subst h24
    have e : (takes (parms fs) (24, A)).toNat = 0 := by rw [takes_of (by decide) (by decide) (c := 0) (by decide)]; rfl
    rw [e] at hyes
    have hcut : cutS x.ms 0 = x.ms := by simp [cutS, MG.ms, AP.act]
    have hact : act (mpOf x.g fs) E x.ms (cutS x.ms 0) (args x.ms 0) (24 : Int).toNat A = if x.g.st + 1 ≤ 2000 then (0, { x.ms with steps := x.g.st + 1, since := 0 }) else (120, { x.ms with steps := x.g.st + 1 }) := by rw [hcut]; rfl
    rw [hact] at hyes
    refine s_mstep h1.run.1 ⟨hst.1, by omega⟩ fun H8 hU8 hr8 => ?_
    have h8 := h1.num (st := x.g.st + 1) (er := x.g.er) (si := 0) (ov := x.g.ov) hU8 hr8
    refine Br.mk (fun hb => ?_) fun hb => ?_
    · have hst2 : ¬ x.g.st + 1 ≤ 2000 := by simpa using hb
      rw [if_neg hst2] at hyes
      refine St_row h8.run.1 (by simp) fun H9 hU9 _ hr9 => ?_
      have h9 := h8.num (st := x.g.st + 1) (er := 120) (si := 0) (ov := x.g.ov) hU9 hr9
      exact hyes H9 _ (by omega) ⟨h9, rfl, rfl, rfl, fun e => (by cases e), rfl⟩
    · have hst2 : x.g.st + 1 ≤ 2000 := by simpa using hb
      rw [if_pos hst2] at hyes
      exact hyes H8 _ (by omega) ⟨h8, rfl, rfl, her, fun _ => rfl, rfl⟩
  have h24 := bneI h24
  exact hno H1 (by omega) hE1
end
section
open Hc Hc.Vf Hc.Mc Hc.Dice
variable {H : Heap}
def InputOk : Prop := ∀ (H0 H : Heap) (x : MG) (fs : List Rou) (ins : List (Int × Int × Int)) (p q : Int) (k : Int → Heap → Prop), MacR H0 H x → CtxR H0 x.g.pF x.g.s x.g.inS fs ins →
  (∀ H', Ext H H' → k (inp ins p q) H') → CallT Pg fQba [.pointer (some (adr x.b)), .int .i64 p, .int .i64 q] IntR H k
theorem cut0 (x : MG) : cutS x.ms 0 = x.ms := by simp [cutS, MG.ms, AP.act]
theorem post_push0 {H0 H' : Heap} {x : MG} {ss : Sl} {c : Col} {v : Int} (h : MacR H0 H' { x with top := { x.top with ss := ss, stk := x.top.stk ++ [v] }, c := c }) (her : x.g.er = 0) :
    Post H0 x (0, (cutS x.ms 0).push v) H' { x with top := { x.top with ss := ss, stk := x.top.stk ++ [v] }, c := c } := ⟨h, rfl, rfl, her, fun _ => by rw [cut0]; rfl, rfl⟩
theorem MacR.freeTop {H0 H H' : Heap} {x : MG} (h : MacR H0 H x) {r : Sl} {vs : List Value} (hv : Vec H TQaq r vs) (hr : IsS x.c H0.size 999 r) (hu : Upd (fun b => b = x.top.p ∨ x.top.ss.a = some (adr b)) H H') : Vec H' TQaq r vs :=
  hv.upd hu fun b hb e => by
    have h1 := (h.topI b (e.imp id fun e => .inr e)).2
    have h2 := (hr b hb).2
    have := h.lowl
    omega
theorem s_asks (hin : InputOk) {H0 : Heap} {x : MG} {fs : List Rou} {ins : List (Int × Int × Int)} (h : MacR H0 H x) (hc : CtxR H0 x.g.pF x.g.s x.g.inS fs ins) (her : x.g.er = 0) {op A : Int} (hA : I64 A)
    (ht : takes (parms fs) (op, A) ≤ x.top.stk.length) (hsl : x.top.stk.length ≤ 64) (h64 : All64 x.top.stk) (hd : 0 ≤ x.d ∧ x.d < 18446744073709551616) (hload : op = 2 → 0 ≤ A ∧ A < (x.top.loc.length : Int))
    (hfield : op = 4 → 0 ≤ A ∧ ∃ v, lookV x.ms.vals (A / 8) = some v ∧ A % 8 < (v.length : Int)) {k : Bool → Heap → Prop}
    (hyes : ∀ H' x', (op = 1 ∨ op = 2 ∨ op = 4 ∨ (31 ≤ op ∧ op ≤ 35)) → Post H0 x (act (mpOf x.g fs) (enOf x.g ins) x.ms (cutS x.ms (takes (parms fs) (op, A)).toNat) (args x.ms (takes (parms fs) (op, A)).toNat) op.toNat A) H' x' → k true H')
    (hno : ∀ H', ¬ (op = 1 ∨ op = 2 ∨ op = 4 ∨ (31 ≤ op ∧ op ≤ 35)) → Ext H H' → k false H') :
    CallT Pg fQaq [.pointer (some (adr x.b)), .agg #[.int .i64 op, .int .i64 A]] (.one (.c .bool)) H k := by
  refine cQaq _ (op, A) ?_
  unfold vQaq
  refine Nw_row (vs := [.int .i64 op, .int .i64 A]) fun b1 H1 hb1 hE1 hz1 hr1 => ?_
  have h1 := h.ext hE1
  have c0 : hcell H1 (adr b1) = some (.int .i64 op) := (hr1.cell 0).trans rfl
  have c1 : hcell H1 ⟨b1, 1, none⟩ = some (.int .i64 A) := (hr1.cell 1).trans rfl
  have bp : b1 ≠ x.top.p := by have := h.topR.row.lt; omega
  have bs : x.top.ss.a ≠ some (adr b1) := fun e => by have := h.topR.stk.lt e; omega
  have c1' : ∀ {H'}, Upd (fun b => b = x.top.p ∨ x.top.ss.a = some (adr b)) H1 H' → hcell H' ⟨b1, 1, none⟩ = some (.int .i64 A) := fun hU => hU.cell c1 fun e => e.elim bp bs
  have topc : ∀ n, hcell H1 ⟨x.top.p, n, none⟩ = (actV x.top)[n]? := h1.topR.row.cell
  simp only [NilCk_some, adr_add, mk_add, Jn]
  refine s_last h1 (Ld_int c0 ?_)
  simp only [NilCk_some, adr_add, mk_add]
  refine Br.mk (fun h_ => ?_) fun hn1 => ?_
  · have h_ := beqI h_; subst h_
    have e : (takes (parms fs) (1, A)).toNat = 0 := by rw [takes_of (by decide) (by decide) (c := 0) (by decide)]; rfl
    rw [e] at hyes
    exact Ld_int c1 (m_push h1 (by omega) fun ss H2 c hU2 h2 => hyes H2 _ (by omega) (post_push0 h2 her))
  have hn1 := bneI hn1
  refine Br.mk (fun h_ => ?_) fun hn2 => ?_
  · have h_ := beqI h_; subst h_
    have e : (takes (parms fs) (2, A)).toNat = 0 := by rw [takes_of (by decide) (by decide) (c := 0) (by decide)]; rfl
    rw [e] at hyes
    obtain ⟨hA0, hA1⟩ := hload rfl
    have hlt : A.toNat < x.top.loc.length := by omega
    refine Ld_sl (s := x.top.ls) ((topc 4).trans rfl) (Ld_int c1 (IxA_vec h1.topR.loc hA0 (by simpa using hA1) fun a2 ha2 _ => Ld_int (n := x.top.loc[A.toNat]!) (ha2.trans ?_) ?_))
    · rw [getElem!_pos x.top.loc _ hlt]; simp [List.getElem?_eq_getElem hlt]
    refine m_push h1 (by omega) fun ss H2 c hU2 h2 => Stab_2 (c1' hU2) ((h2.topR.row.cell 4).trans rfl) (hyes H2 _ (by omega) (post_push0 h2 her))
  have hn2 := bneI hn2
  refine Br.mk (fun h_ => ?_) fun hn4 => ?_
  · have h_ := beqI h_; subst h_
    have e : (takes (parms fs) (4, A)).toNat = 0 := by rw [takes_of (by decide) (by decide) (c := 0) (by decide)]; rfl
    rw [e] at hyes
    obtain ⟨hA0, v, hv, hvl⟩ := hfield rfl
    refine ⟨.map (some x.g.mp), (h1.run.1.cell 18).trans rfl, Ld_int c1 ⟨by omega, Ld_int c1 ⟨by omega, ?_⟩⟩⟩
    rw [tdiv8 hA0 hA, Int.tmod_eq_emod_of_nonneg hA0]
    refine MpL_es h1.map.1 (fun j hj hkd hl _ => ?_) fun hl => ?_
    · have ev : x.es[j].vals = v := by
        have : some x.es[j].vals = some v := hl.symm.trans hv
        exact Option.some.inj this
      have hlt : (A % 8).toNat < x.es[j].vals.length := by rw [ev]; omega
      refine Stab_2 c1 c1 (IxA_vec (h1.esR _ (List.getElem_mem hj)).1 (by omega) (by rw [List.length_map, ev]; exact hvl) fun a4 ha4 _ => Ld_int (n := x.es[j].vals[(A % 8).toNat]!) (ha4.trans ?_) ?_)
      · rw [getElem!_pos x.es[j].vals _ hlt]; simp [List.getElem?_eq_getElem hlt]
      refine m_push h1 (by omega) fun ss H2 c hU2 h2 => Stab_all (fun y hy => ?_) ?_
      · simp only [List.mem_cons, List.not_mem_nil, or_false] at hy
        rcases hy with rfl | rfl | rfl
        · exact c1' hU2
        · exact c1' hU2
        · exact (h2.run.1.cell 18).trans rfl
      have hact : act (mpOf x.g fs) (enOf x.g ins) x.ms (cutS x.ms 0) (args x.ms 0) (4 : Int).toNat A = (0, (cutS x.ms 0).push x.es[j].vals[(A % 8).toNat]!) := by
        show (0, (cutS x.ms 0).push ((lookV (x.es.map PtP.pt) (A / 8)).getD [])[(A % 8).toNat]!) = _
        rw [hl]; rfl
      rw [hact] at hyes
      exact hyes H2 _ (by omega) (post_push0 h2 her)
    · have : none = some v := hl.symm.trans hv
      cases this
  have hn4 := bneI hn4
  refine Br.mk (fun h_ => ?_) fun hn31 => ?_
  · have h_ := beqI h_; subst h_
    have e : takes (parms fs) (31, A) = 1 := takes_of (by decide) (by decide) (by decide)
    rw [e] at ht hyes
    refine Ld_ptr (n := some (adr x.g.dp)) ((h1.run.1.cell 26).trans rfl) (m_take h1 (n := 1) rfl (by omega) (by omega) fun r H2 c2 hU2 h2 hv2 hf2 => Stab_1 ((h2.run.1.cell 26).trans rfl) ?_)
    have hx : (x.top.stk.drop (x.top.stk.length - 1)).length = 1 := by simp; omega
    have ha : args x.ms 1 = x.top.stk.drop (x.top.stk.length - 1) := rfl
    have hl64 : All64 (x.top.stk.drop (x.top.stk.length - 1)) := all_drop h64 _
    generalize hl : x.top.stk.drop (x.top.stk.length - 1) = l at *
    match l, hx with
    | [w], _ =>
      refine IxA_vec hv2 (by decide) (by simp) fun a6 ha6 haa => Ld_int (n := w) (ha6.trans rfl) ?_
      refine s_dice_Below (s := x.d) h2.dice.1 hd.1 hd.2 (hl64 w (by simp)) fun H3 hU3 hr3 => ?_
      have h3 := h2.fell (d := (BelowF x.d w).2) hU3 hr3
      have hv3 : Vec H3 TQaq r (ints [w]) := hv2.upd hU3 fun b hb e => hv2.ne hb h2.dice.1 (by decide) e
      refine m_push h3 (by simp; omega) fun ss H4 c4 hU4 h4 => ?_
      have hv4 := h3.freeTop hv3 hf2 hU4
      refine Stab_2 ?_ ((h4.run.1.cell 26).trans rfl) (hyes H4 _ (by omega) ⟨h4, rfl, rfl, her, fun _ => ?_, rfl⟩)
      · obtain ⟨b, hb, rfl⟩ := haa
        obtain ⟨b', hb', hcc⟩ := hv4.cell (i := 0) (by simp)
        rw [hb] at hb'; cases hb'
        exact hcc
      · rw [show (1 : Int).toNat = 1 from rfl, ha]; rfl
  have hn31 := bneI hn31
  refine Br.mk (fun h_ => ?_) fun hn32 => ?_
  · have h_ := beqI h_; subst h_
    have e : (takes (parms fs) (32, A)).toNat = 0 := by rw [takes_of (by decide) (by decide) (c := 0) (by decide)]; rfl
    rw [e] at hyes
    exact Ld_int (n := x.g.fr) ((h1.run.1.cell 11).trans rfl) (m_push h1 (by omega) fun ss H2 c hU2 h2 => hyes H2 _ (by omega) (post_push0 h2 her))
  have hn32 := bneI hn32
  refine Br.mk (fun h_ => ?_) fun hn33 => ?_
  · have h_ := beqI h_; subst h_
    have e : (takes (parms fs) (33, A)).toNat = 0 := by rw [takes_of (by decide) (by decide) (c := 0) (by decide)]; rfl
    rw [e] at hyes
    exact Ld_int (n := x.g.ix) ((h1.run.1.cell 15).trans rfl) (m_push h1 (by omega) fun ss H2 c hU2 h2 => hyes H2 _ (by omega) (post_push0 h2 her))
  have hn33 := bneI hn33
  refine Br.mk (fun h_ => ?_) fun hn34 => ?_
  · have h_ := beqI h_; subst h_
    have e : takes (parms fs) (34, A) = 2 := takes_of (by decide) (by decide) (by decide)
    rw [e] at ht hyes
    refine m_take h1 (n := 2) rfl (by omega) (by omega) fun r H2 c2 hU2 h2 hv2 hf2 => ?_
    have hx : (x.top.stk.drop (x.top.stk.length - 2)).length = 2 := by simp; omega
    have ha : args x.ms 2 = x.top.stk.drop (x.top.stk.length - 2) := rfl
    generalize hl : x.top.stk.drop (x.top.stk.length - 2) = l at *
    match l, hx with
    | [w, z], _ =>
      refine IxA_vec hv2 (by decide) (by simp) fun a6 ha6 haa => Ld_int (n := w) (ha6.trans rfl) (IxA_vec hv2 (by decide) (by simp) fun a7 ha7 haa7 => Ld_int (n := z) (ha7.trans rfl) ?_)
      refine hin H0 H2 { x with top := x.top.took 2, c := c2 } fs ins w z _ h2 hc fun H3 hE3 => ?_
      have h3 := h2.ext hE3
      refine m_push h3 (by simp; omega) fun ss H4 c4 hU4 h4 => ?_
      have hv4 := h3.freeTop (hv2.ext hE3) hf2 hU4
      refine Stab_2 ?_ ?_ (hyes H4 _ (by omega) ⟨h4, rfl, rfl, her, fun _ => ?_, rfl⟩)
      · obtain ⟨b, hb, rfl⟩ := haa7
        obtain ⟨b', hb', hcc⟩ := hv4.cell (i := 1) (by simp)
        rw [hb] at hb'; cases hb'
        exact hcc
      · obtain ⟨b, hb, rfl⟩ := haa
        obtain ⟨b', hb', hcc⟩ := hv4.cell (i := 0) (by simp)
        rw [hb] at hb'; cases hb'
        exact hcc
      · rw [show (2 : Int).toNat = 2 from rfl, ha]; rfl
  have hn34 := bneI hn34
  refine Br.mk (fun h_ => ?_) fun hn35 => ?_
  · have h_ := beqI h_; subst h_
    have e : (takes (parms fs) (35, A)).toNat = 0 := by rw [takes_of (by decide) (by decide) (c := 0) (by decide)]; rfl
    rw [e] at hyes
    refine ⟨.map (some x.g.mp), (h1.run.1.cell 18).trans rfl, Ld_int c1 (MpL_es h1.map.1 (fun j hj hkd hl _ => ?_) fun hl => ?_)⟩
    · have hact : act (mpOf x.g fs) (enOf x.g ins) x.ms (cutS x.ms 0) (args x.ms 0) (35 : Int).toNat A = (0, (cutS x.ms 0).push (truthI true)) := by
        show (0, (cutS x.ms 0).push (truthI (lookV (x.es.map PtP.pt) A).isSome)) = _
        rw [hl]; rfl
      rw [hact] at hyes
      exact s_truth (m_push h1 (by omega) fun ss H2 c hU2 h2 => hyes H2 _ (by omega) (post_push0 h2 her))
    · have hact : act (mpOf x.g fs) (enOf x.g ins) x.ms (cutS x.ms 0) (args x.ms 0) (35 : Int).toNat A = (0, (cutS x.ms 0).push (truthI false)) := by
        show (0, (cutS x.ms 0).push (truthI (lookV (x.es.map PtP.pt) A).isSome)) = _
        rw [hl]; rfl
      rw [hact] at hyes
      exact s_truth (m_push h1 (by omega) fun ss H2 c hU2 h2 => hyes H2 _ (by omega) (post_push0 h2 her))
  have hn35 := bneI hn35
  exact hno H1 (by omega) hE1
end
end Go.Proofs.YtfpmgpblhhcpgaaGreat
namespace Go.Proofs.YtfpmgpblhhcpgaaGreat.Hc.Mc
set_option linter.unusedVariables false
set_option linter.unusedSimpArgs false
set_option maxRecDepth 100000
section
open Go Hc
variable {α : Type}
def risN (key : α → Int) (n : Nat) (l : List α) : List α := (List.range n).flatMap fun (k : Nat) => l.filter fun x => key x == (k : Int)
abbrev risK (key : α → Int) (l : List α) : List α := risN key 13 l
theorem rise_eq (l : List Pt) : rise l = risK Pt.kind l := rfl
theorem risN_succ (key : α → Int) (n : Nat) (l : List α) : risN key (n + 1) l = risN key n l ++ l.filter fun x => key x == (n : Int) := by
  unfold risN
  rw [List.range_succ, List.flatMap_append]
  simp
theorem risN_map {β : Type} (f : α → β) {key : α → Int} {key' : β → Int} (h : ∀ x, key' (f x) = key x) (l : List α) : ∀ n, (risN key n l).map f = risN key' n (l.map f)
  | 0 => rfl
  | n + 1 => by
    rw [risN_succ, risN_succ, List.map_append, risN_map f h l n, List.filter_map]
    congr 2
    exact List.filter_congr fun x _ => by simp [h]
theorem risN_bd {key : α → Int} {l : List α} : ∀ {n : Nat}, ∀ x ∈ risN key n l, key x < n
  | 0, x, h => by simp [risN] at h
  | n + 1, x, h => by
    rw [risN_succ] at h
    rcases List.mem_append.1 h with h | h
    · have := risN_bd x h; omega
    · have := (List.mem_filter.1 h).2
      have : key x = n := by simpa using this
      omega
theorem risN_pw {key : α → Int} {l : List α} : ∀ {n : Nat}, (risN key n l).Pairwise fun x y => key x ≤ key y
  | 0 => by simp [risN]
  | n + 1 => by
    rw [risN_succ, List.pairwise_append]
    refine ⟨risN_pw, ?_, fun x hx y hy => ?_⟩
    · refine List.pairwise_iff_getElem.2 fun i j hi hj _ => ?_
      have h1 := (List.mem_filter.1 (List.getElem_mem hi)).2
      have h2 := (List.mem_filter.1 (List.getElem_mem hj)).2
      simp only [beq_iff_eq] at h1 h2
      omega
    · have h1 := risN_bd x hx
      have h2 := (List.mem_filter.1 hy).2
      simp only [beq_iff_eq] at h2
      omega
theorem risN_snoc {key : α → Int} {l : List α} {x : α} (hx : 0 ≤ key x) : ∀ n : Nat, risN key n (l ++ [x]) = if key x < n then (risN key n l).filter (fun y => decide (key y ≤ key x)) ++ [x] ++ (risN key n l).filter (fun y => decide (key x < key y)) else risN key n l
  | 0 => by rw [if_neg (by omega)]; rfl
  | n + 1 => by
    have ih := risN_snoc (l := l) hx n
    rw [risN_succ, ih, risN_succ, List.filter_append]
    have hb := risN_bd (key := key) (l := l) (n := n)
    rcases Int.lt_trichotomy (key x) n with h | h | h
    · rw [if_pos h, if_pos (by omega), List.filter_append, List.filter_append]
      have e1 : ([x].filter fun y => key y == (n : Int)) = [] := by
        rw [List.filter_cons, if_neg (by simp; omega)]; rfl
      have e2 : ((l.filter fun y => key y == (n : Int)).filter fun y => decide (key y ≤ key x)) = [] := by
        refine List.filter_eq_nil_iff.2 fun y hy => ?_
        have := (List.mem_filter.1 hy).2
        simp only [beq_iff_eq] at this
        simp; omega
      have e3 : ((l.filter fun y => key y == (n : Int)).filter fun y => decide (key x < key y)) = l.filter fun y => key y == (n : Int) := by
        refine List.filter_eq_self.2 fun y hy => ?_
        have := (List.mem_filter.1 hy).2
        simp only [beq_iff_eq] at this
        simp; omega
      rw [e1, e2, e3]; simp
    · rw [if_neg (by omega), if_pos (by omega), List.filter_append, List.filter_append]
      have e1 : ([x].filter fun y => key y == (n : Int)) = [x] := by rw [List.filter_cons, if_pos (by simp; omega)]; rfl
      have e2 : (risN key n l).filter (fun y => decide (key y ≤ key x)) = risN key n l := List.filter_eq_self.2 fun y hy => by have := hb y hy; simp; omega
      have e3 : (risN key n l).filter (fun y => decide (key x < key y)) = [] := List.filter_eq_nil_iff.2 fun y hy => by have := hb y hy; simp; omega
      have e4 : ((l.filter fun y => key y == (n : Int)).filter fun y => decide (key y ≤ key x)) = l.filter fun y => key y == (n : Int) := by
        refine List.filter_eq_self.2 fun y hy => ?_
        have := (List.mem_filter.1 hy).2
        simp only [beq_iff_eq] at this
        simp; omega
      have e5 : ((l.filter fun y => key y == (n : Int)).filter fun y => decide (key x < key y)) = [] := by
        refine List.filter_eq_nil_iff.2 fun y hy => ?_
        have := (List.mem_filter.1 hy).2
        simp only [beq_iff_eq] at this
        simp; omega
      rw [e1, e2, e3, e4, e5]; simp
    · rw [if_neg (by omega), if_neg (by omega)]
      have e1 : ([x].filter fun y => key y == (n : Int)) = [] := by
        rw [List.filter_cons, if_neg (by simp; omega)]; rfl
      rw [e1, List.append_nil]
theorem ris_ins {key : α → Int} {l : List α} {x : α} (hx : 0 ≤ key x ∧ key x < 13) {A B : List α} (h : risK key l = A ++ B) (hB : ∀ y ∈ B, key x < key y) (hA : ∀ y ∈ A, key y ≤ key x) : risK key (l ++ [x]) = A ++ [x] ++ B := by
  rw [risK, risN_snoc hx.1, if_pos (by omega)]
  rw [risK] at h
  rw [h, List.filter_append, List.filter_append]
  have e1 : A.filter (fun y => decide (key y ≤ key x)) = A := List.filter_eq_self.2 fun y hy => by simpa using hA y hy
  have e2 : B.filter (fun y => decide (key y ≤ key x)) = [] := List.filter_eq_nil_iff.2 fun y hy => by have := hB y hy; simp; omega
  have e3 : A.filter (fun y => decide (key x < key y)) = [] := List.filter_eq_nil_iff.2 fun y hy => by have := hA y hy; simp; omega
  have e4 : B.filter (fun y => decide (key x < key y)) = B := List.filter_eq_self.2 fun y hy => by simpa using hB y hy
  rw [e1, e2, e3, e4]; simp
end
end Go.Proofs.YtfpmgpblhhcpgaaGreat.Hc.Mc
