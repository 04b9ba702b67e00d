/-
  Machine: the document's looks: has, field, access.
-/
import Derived.Test.YtfpmgpblhhcpgaaGreatNB
namespace Go.Proofs.YtfpmgpblhhcpgaaGreat
set_option linter.unusedVariables false
set_option linter.unusedSimpArgs false
set_option maxRecDepth 100000
section
open Hc Hc.Vf Hc.Mc Hc.Dice
variable {H : Heap}
theorem es_first {key : Int} : ∀ {es : List PtP}, (∃ j, ∃ h : j < es.length, es[j].kind = key ∧ (∀ i (hi : i < es.length), i < j → es[i].kind ≠ key) ∧ lookV (es.map PtP.pt) key = some es[j].vals ∧
      ∀ f v, putV (es.map PtP.pt) key f v = (es.set j { es[j] with vals := es[j].vals.set f v }).map PtP.pt) ∨
    (lookV (es.map PtP.pt) key = none ∧ ∀ q ∈ es, q.kind ≠ key)
  | [] => .inr ⟨rfl, fun q h => by cases h⟩
  | x :: r => by
    by_cases e : x.kind = key
    · refine .inl ⟨0, by simp, e, fun i _ h => by omega, ?_, fun f v => ?_⟩
      · unfold lookV
        simp only [List.map_cons, List.find?_cons]
        have : (x.pt.kind == key) = true := by simpa using e
        rw [this]; rfl
      · simp only [List.map_cons, putV, List.getElem_cons_zero, List.set_cons_zero]
        rw [if_pos e]
    · have hl : lookV ((x :: r).map PtP.pt) key = lookV (r.map PtP.pt) key := by
        unfold lookV
        simp only [List.map_cons, List.find?_cons]
        have : (x.pt.kind == key) = false := by simpa using e
        rw [this]
      rcases es_first (key := key) (es := r) with ⟨j, hj, h1, h2, h3, h4⟩ | ⟨h2, h3⟩
      · refine .inl ⟨j + 1, by simpa using hj, h1, fun i hi hij => ?_, ?_, fun f v => ?_⟩
        · cases i with
          | zero => exact e
          | succ i => exact h2 i (by simpa using hi) (by omega)
        · rw [hl, h3]; rfl
        · simp only [List.map_cons, putV, List.getElem_cons_succ, List.set_cons_succ]
          rw [if_neg e, h4]
      · exact .inr ⟨hl.trans h2, fun q hq => (List.mem_cons.1 hq).elim (fun h => h ▸ e) (h3 q)⟩
theorem d_part {H0 : Heap} {x : DG} (h : DocR H0 H x) {i : Int} {j : Nat} (hi : i = j) (hj : j < x.es.length) {k : Addr → Prop} (hk : ∀ a, hcell H a = some (.int .i64 x.es[j].kind) → hcell H (a.add 1) = some (slV x.es[j].sl) → k a) : IxA 2 x.g.ps i k :=
  IxA_rn' ptV_len (VecN.rn ptV_len (by decide) h.pv.1) (by decide) hi hj fun a ha => by
    rw [getElem!_pos x.es j hj] at ha
    exact hk a ha.1 ha.2.1
theorem s_has0 {H0 : Heap} {x : DG} (h : DocR H0 H x) (hl : x.es.length ≤ 2 ^ 60) {key : Int} {k : Int → Heap → Prop}
    (h1 : ∀ j (hj : j < x.es.length), x.es[j].kind = key → (∀ i (hi : i < x.es.length), i < j → x.es[i].kind ≠ key) → lookV (x.es.map PtP.pt) key = some x.es[j].vals → (∀ f v, putV (x.es.map PtP.pt) key f v = (x.es.set j { x.es[j] with vals := x.es[j].vals.set f v }).map PtP.pt) → k j H)
    (h2 : lookV (x.es.map PtP.pt) key = none → (∀ q ∈ x.es, q.kind ≠ key) → k (-1) H) : CallT Pg fQby [.pointer (some (adr x.b)), .int .i64 key] IntR H k := by
  refine cQbs _ _ ?_
  unfold vQbs
  simp only [NilCk_some, adr_add]
  have hlen := h.pv.1.len
  rw [flat_len ptV_len] at hlen
  refine LoopT.mk (fun i H' => H = H' ∧ ∃ n : Nat, i = n ∧ n ≤ x.es.length ∧ ∀ j (h : j < x.es.length), j < n → x.es[j].kind ≠ key) (fun i _ => x.es.length - i.toNat) ⟨rfl, 0, rfl, Nat.zero_le _, fun j _ hj => by omega⟩ ?_
  rintro next _ _ ⟨rfl, n, rfl, hn, hno⟩ hnext
  refine Ld_sl (s := x.g.ps) ((h.run.1.cell 18).trans rfl) (Br_dec (fun hlt => ?_) fun hge => ?_)
  · have hn2 : n < x.es.length := by omega
    refine Ld_sl (s := x.g.ps) ((h.run.1.cell 18).trans rfl) (d_part h rfl hn2 fun a ha _ => Ld_int ha (Br.mk (fun e => ?_) fun e => ?_))
    · have e := beqI e
      rcases es_first (key := key) (es := x.es) with ⟨j, hj, g1, g2, g3, g4⟩ | ⟨g1, g2⟩
      · have : j = n := by
          rcases Nat.lt_trichotomy j n with c | c | c
          · exact absurd g1 (hno j hj c)
          · exact c
          · exact absurd e (g2 n hn2 c)
        subst this
        exact h1 j hj g1 g2 g3 g4
      · exact absurd e (g2 _ (List.getElem_mem hn2))
    · have e := bneI e
      refine Lt.mk (u := ((n + 1 : Nat) : Int)) (by rw [wrap_i64_id] <;> omega) (hnext _ _ ⟨rfl, n + 1, rfl, hn2, fun j hj hjn => ?_⟩ (by omega))
      rcases Nat.lt_or_ge j n with c | c
      · exact hno j hj c
      · have : j = n := by omega
        subst this; exact e
  · rcases es_first (key := key) (es := x.es) with ⟨j, hj, g1, g2, g3, g4⟩ | ⟨g1, g2⟩
    · exact absurd g1 (hno j hj (by omega))
    · exact h2 g1 g2
theorem s_has {H0 : Heap} {x : DG} (h : DocR H0 H x) (hl : x.es.length ≤ 2 ^ 60) {key : Int} {k : Int → Heap → Prop}
    (h1 : ∀ j (hj : j < x.es.length), x.es[j].kind = key → lookV (x.es.map PtP.pt) key = some x.es[j].vals → (∀ f v, putV (x.es.map PtP.pt) key f v = (x.es.set j { x.es[j] with vals := x.es[j].vals.set f v }).map PtP.pt) → k j H)
    (h2 : lookV (x.es.map PtP.pt) key = none → (∀ q ∈ x.es, q.kind ≠ key) → k (-1) H) : CallT Pg fQby [.pointer (some (adr x.b)), .int .i64 key] IntR H k :=
  s_has0 h hl (fun j hj a _ b c => h1 j hj a b c) h2
abbrev dmpOf (g : DunG) (fs : List Rou) : MP := ⟨fs.map fnOf, fnOf g.s.rou, g.s.l 2, g.s.l 3, g.n, 2 ^ 63⟩
abbrev denOf (g : DunG) (ins : List (Int × Int × Int)) : En := ⟨g.fr, g.sd, g.ix, g.gn, ins⟩
abbrev FieldR : RTy := .tup [(.c (.int .i64)), (.c (.int .i64)), (.c .bool)]
theorem s_field {H0 : Heap} {x : DG} {fs : List Rou} {ins : List (Int × Int × Int)} (h : DocR H0 H x) (hc : CtxR H0 x.g.pF x.g.s x.g.inS fs ins) (hl : x.es.length ≤ 2 ^ 60) {a : Int} (ha : I64 a) {put : Bool} {k : Int × Int × Bool → Heap → Prop}
    (h0 : fieldOk x.ms.vals a (if put = true then x.g.s.l 3 else x.g.s.l 2 ++ x.g.s.l 3) = false → k (0, 0, false) H)
    (h1 : ∀ j (hj : j < x.es.length), fieldOk x.ms.vals a (if put = true then x.g.s.l 3 else x.g.s.l 2 ++ x.g.s.l 3) = true → 0 ≤ a → x.es[j].kind = a / 8 → a % 8 < (x.es[j].vals.length : Int) → lookV (x.es.map PtP.pt) (a / 8) = some x.es[j].vals →
      (∀ f v, putV (x.es.map PtP.pt) (a / 8) f v = (x.es.set j { x.es[j] with vals := x.es[j].vals.set f v }).map PtP.pt) → k ((j : Nat), a % 8, true) H) :
    CallT Pg fQb2 [.pointer (some (adr x.b)), .int .i64 a, .bool put] FieldR H k := by
  refine cQbw _ _ _ ?_
  unfold vQbw
  have ha' := ha
  unfold I64 at ha'
  simp only [NilCk_some, adr_add, mk_add]
  refine Br_dec (fun hlt => h0 (by unfold fieldOk; rw [decide_eq_false (by omega), Bool.false_and, Bool.false_and])) fun hge => ⟨by omega, ?_⟩
  have hd : a.tdiv 8 = a / 8 := Int.tdiv_eq_ediv_of_nonneg (by omega)
  have hmd : a.tmod 8 = a % 8 := Int.tmod_eq_emod_of_nonneg (by omega)
  rw [hd, wrap_i64_id (by omega) (by omega)]
  refine Ld_sl (s := x.g.s.s 3) ((h.run.1.cell 5).trans rfl) (s_in ((hc.sets 3 (by decide)).ext h.base) (hc.setL 3 (by decide)) ?_)
  refine Ld_sl (s := x.g.s.s 2) ((h.run.1.cell 4).trans rfl) (s_in ((hc.sets 2 (by decide)).ext h.base) (hc.setL 2 (by decide)) ?_)
  have hin : ∀ v : List Int, lookV (x.es.map PtP.pt) (a / 8) = some v → fieldOk x.ms.vals a (if put = true then x.g.s.l 3 else x.g.s.l 2 ++ x.g.s.l 3) = (decide (a % 8 < (v.length : Int)) && (decide (a / 8 ∈ x.g.s.l 3) || (!put && decide (a / 8 ∈ x.g.s.l 2)))) := fun v hv => by
    unfold fieldOk
    rw [decide_eq_true (show 0 ≤ a by omega), Bool.true_and]
    dsimp only
    rw [hv]
    cases put <;> simp [Bool.or_comm]
  refine s_has h hl (fun j hj hkd hlo hput => ?_) fun hlo _ => ?_
  · have hin := hin _ hlo
    have hv := (h.esR _ (List.getElem_mem hj)).1.len
    rw [List.length_map] at hv
    refine ⟨by omega, ?_⟩
    rw [hmd]
    refine Jn.mk (fun j' H' => H = H' ∧ j' = !(decide (a % 8 < (x.es[j].vals.length : Int)) && (decide (a / 8 ∈ x.g.s.l 3) || (!put && decide (a / 8 ∈ x.g.s.l 2))))) (fun kk hkk => ?_) ?_
    · have hlast : ∀ b, b = !(decide (a % 8 < (x.es[j].vals.length : Int)) && (decide (a / 8 ∈ x.g.s.l 3) || (!put && decide (a / 8 ∈ x.g.s.l 2)))) → kk b H := fun b hb => hkk _ _ ⟨rfl, hb⟩
      cases hw : decide (a / 8 ∈ x.g.s.l 3) with
      | true =>
        rw [hw] at hlast
        simp only [Bool.not_true, Br_false]
        refine Br_dec (fun h => by omega) fun _ => Ld_sl (s := x.g.ps) ((h.run.1.cell 18).trans rfl) (d_part h rfl hj fun a' _ ha2 => Ld_sl (s := x.es[j].sl) ha2 (hlast _ ?_))
        rw [Bool.true_or, Bool.and_true, ← decide_not]
        exact decide_eq_decide.2 (by omega)
      | false =>
        rw [hw] at hlast
        simp only [Bool.not_false, Br_true]
        cases put with
        | true => exact hlast _ (by simp)
        | false =>
          cases hr : decide (a / 8 ∈ x.g.s.l 2) with
          | false =>
            rw [hr] at hlast
            exact hlast _ (by simp)
          | true =>
            rw [hr] at hlast
            simp only [Bool.not_true, Br_false]
            refine Br_dec (fun h => by omega) fun _ => Ld_sl (s := x.g.ps) ((h.run.1.cell 18).trans rfl) (d_part h rfl hj fun a' _ ha2 => Ld_sl (s := x.es[j].sl) ha2 (hlast _ ?_))
            rw [Bool.not_false, Bool.true_and, Bool.or_true, Bool.and_true, ← decide_not]
            exact decide_eq_decide.2 (by omega)
    · rintro j' _ ⟨rfl, rfl⟩
      rw [← hin]
      cases hf : fieldOk x.ms.vals a (if put = true then x.g.s.l 3 else x.g.s.l 2 ++ x.g.s.l 3) with
      | true =>
        have := hin
        rw [hf] at this
        have hlt : decide (a % 8 < (x.es[j].vals.length : Int)) = true := by
          cases hh : decide (a % 8 < (x.es[j].vals.length : Int)) with
          | true => rfl
          | false => rw [hh] at this; simp at this
        exact h1 j hj hf (by omega) hkd (of_decide_eq_true hlt) hlo hput
      | false => exact h0 hf
  · have hf : fieldOk x.ms.vals a (if put = true then x.g.s.l 3 else x.g.s.l 2 ++ x.g.s.l 3) = false := by
      unfold fieldOk
      dsimp only
      rw [hlo]; simp
    refine ⟨by omega, ?_⟩
    refine Jn.mk (fun j' H' => H = H' ∧ j' = true) (fun kk hkk => ?_) (by rintro j' _ ⟨rfl, rfl⟩; exact h0 hf)
    have e := hkk true H ⟨rfl, rfl⟩
    refine Br.mk (fun _ => Br.mk (fun _ => e) fun _ => Br.mk (fun _ => e) fun _ => Br_dec (fun _ => e) fun h => by omega) fun _ => Br_dec (fun _ => e) fun h => by omega
theorem DocR.sgn {H0 : Heap} {x : DG} (h : DocR H0 H x) : decide (0 ≤ x.top.f) = decide (x.low ≠ []) := by
  have hs := h.fsg
  rw [List.map_append, List.map_singleton] at hs
  cases hl : x.low with
  | nil => rw [hl] at hs; simpa using hs
  | cons a r =>
    rw [hl, List.length_cons, List.replicate_succ', ← List.cons_append] at hs
    have := (List.append_inj' hs rfl).2
    simp only [List.cons.injEq, and_true] at this
    rw [this]; rfl
theorem s_raccess {H0 : Heap} {x : DG} {fs : List Rou} {ins : List (Int × Int × Int)} (h : DocR H0 H x) (hc : CtxR H0 x.g.pF x.g.s x.g.inS fs ins) (hl : x.es.length ≤ 2 ^ 60) {i : Ins} (hA : I64 i.2) {k : Bool → Heap → Prop} (hk : ∀ H', Ext H H' → k (access (dmpOf x.g fs) x.ms i) H') :
    CallT Pg fQbw [.pointer (some (adr x.b)), .pointer (some (adr x.top.p)), .agg #[.int .i64 i.1, .int .i64 i.2]] (.one (.c .bool)) H k := by
  obtain ⟨op, A⟩ := i
  dsimp only at hA ⊢
  have hA' := hA
  unfold I64 at hA'
  refine cQbq _ _ (op, A) ?_
  unfold vQbq
  refine Nw_row (vs := [.int .i64 op, .int .i64 A]) fun b1 H1 hb1 hE1 hz1 hr1 => ?_
  have h1 := h.ext hE1
  have hk := hk H1 hE1
  have co : hcell H1 (adr b1) = some (.int .i64 op) := (hr1.cell 0).trans rfl
  have cA : hcell H1 ⟨b1, 1, none⟩ = some (.int .i64 A) := (hr1.cell 1).trans rfl
  simp only [NilCk_some, adr_add]
  unfold access at hk
  dsimp only at hk
  have hsg := h1.sgn
  have cf : hcell H1 (adr x.top.p) = some (.int .i64 x.top.f) := (h1.topR.row.cell 0).trans rfl
  have hlow : x.ms.low ≠ [] ↔ x.low ≠ [] := by simp
  refine Jn.mk (fun j H' => H1 = H' ∧ j = decide (x.ms.low ≠ [] ∧ outerB op = true)) (fun kk hkk => ?_) ?_
  · refine Ld_int (n := x.top.f) cf (Br_dec (fun hf => Ld_int co (s_inside (hkk _ _ ⟨rfl, ?_⟩))) fun hf => hkk _ _ ⟨rfl, ?_⟩)
    · have : x.low ≠ [] := of_decide_eq_true (hsg.symm.trans (decide_eq_true hf))
      cases ho : outerB op
      · exact (decide_eq_false fun h => by simp at h).symm
      · exact (decide_eq_true ⟨hlow.2 this, rfl⟩).symm
    · have : ¬ x.low ≠ [] := of_decide_eq_false (hsg.symm.trans (decide_eq_false hf))
      exact (decide_eq_false fun h => this (hlow.1 h.1)).symm
  rintro j _ ⟨rfl, rfl⟩
  refine Br_dec (fun h => by rwa [if_pos h] at hk) fun hno => ?_
  rw [if_neg hno] at hk
  refine Ld_int co ?_
  have j2 : ∀ (a b : Int) {kk : Bool → Heap → Prop}, kk (decide (op = a ∨ op = b)) H1 → Jn (σ := Bool) (fun kk1 => Br (op == a) (kk1 true H1) (kk1 (op == b) H1)) kk := fun a b kk hkk => by
    refine Jn_in ?_
    refine Br.mk (fun h => ?_) fun h => ?_
    · rwa [decide_eq_true (.inl (beqI h))] at hkk
    · have h := bneI h
      have e : (op == b) = decide (op = a ∨ op = b) := by rw [trueq]; exact decide_eq_decide.2 (by omega)
      rw [e]; exact hkk
  refine (j2 2 3 (Br_dec (fun ho => ?_) fun h23 => ?_))
  · have hk : k (decide (0 ≤ A ∧ A < (x.top.loc.length : Int))) H1 := by rcases ho with rfl | rfl <;> exact hk
    have hll := h1.topR.loc.len
    rw [List.length_map] at hll
    refine Jn.mk (fun j H' => H1 = H' ∧ j = decide (0 ≤ A ∧ A < (x.top.loc.length : Int))) (fun kk hkk => Ld_int cA (Br_dec (fun h0 => Ld_int cA (Ld_sl (s := x.top.ls) ((h1.topR.row.cell 2).trans rfl) (hkk _ _ ⟨rfl, decide_eq_decide.2 (by omega)⟩))) fun h0 => hkk _ _ ⟨rfl, (decide_eq_false (by omega)).symm⟩)) (by rintro j _ ⟨rfl, rfl⟩; exact hk)
  refine (j2 4 5 (Br_dec (fun ho => ?_) fun h45 => ?_))
  · refine Ld_int cA (Ld_int co ?_)
    rcases ho with rfl | rfl
    · have hk : k (fieldOk x.ms.vals A (x.g.s.l 2 ++ x.g.s.l 3)) H1 := hk
      refine s_field (put := false) h1 hc hl hA (fun hf => ?_) fun j hj hf _ _ _ _ _ => ?_
      · rw [show (if false = true then x.g.s.l 3 else x.g.s.l 2 ++ x.g.s.l 3) = x.g.s.l 2 ++ x.g.s.l 3 from rfl] at hf
        rwa [hf] at hk
      · rw [show (if false = true then x.g.s.l 3 else x.g.s.l 2 ++ x.g.s.l 3) = x.g.s.l 2 ++ x.g.s.l 3 from rfl] at hf
        rwa [hf] at hk
    · have hk : k (fieldOk x.ms.vals A (x.g.s.l 3)) H1 := hk
      refine s_field (put := true) h1 hc hl hA (fun hf => ?_) fun j hj hf _ _ _ _ _ => ?_
      · rw [if_pos rfl] at hf
        rwa [hf] at hk
      · rw [if_pos rfl] at hf
        rwa [hf] at hk
  refine Br.mk (fun ho => ?_) fun h21 => ?_
  · rw [beqI ho] at hk
    have hk : k (decide (0 ≤ A ∧ A < ((fs.map fnOf).length : Int) ∧ (x.low.map DP.act).length + 1 ≤ 16)) H1 := hk
    rw [List.length_map, List.length_map] at hk
    have hll := h1.lv.1.len
    have hfl := hc.fn.len
    simp only [List.length_map, List.length_append, List.length_singleton] at hll
    refine Jn.mk (fun j H' => H1 = H' ∧ j = decide (0 ≤ A ∧ A < (fs.length : Int) ∧ x.low.length + 1 ≤ 16)) (fun kk hkk => Ld_int cA (Br_dec (fun h0 => Ld_int cA (Ld_sl (s := x.g.pF) ((h1.run.1.cell 1).trans rfl) (Br_dec (fun hlt => Ld_sl (s := x.g.ls) ((h1.run.1.cell 19).trans rfl) (hkk _ _ ⟨rfl, decide_eq_decide.2 (by omega)⟩)) fun hlt => hkk _ _ ⟨rfl, (decide_eq_false (by omega)).symm⟩))) fun h0 => hkk _ _ ⟨rfl, (decide_eq_false (by omega)).symm⟩)) (by rintro j _ ⟨rfl, rfl⟩; exact hk)
  have h21 := bneI h21
  refine Br.mk (fun ho => ?_) fun h22 => ?_
  · rw [beqI ho] at hk
    have hk : k (decide (x.ms.low ≠ [])) H1 := hk
    have e : decide (x.ms.low ≠ []) = decide (0 ≤ x.top.f) := by rw [hsg]; exact decide_eq_decide.2 hlow
    rw [e] at hk
    exact Ld_int (n := x.top.f) cf hk
  have h22 := bneI h22
  refine (j2 26 28 (Br_dec (fun ho => ?_) fun h26 => ?_))
  · have hkl := h1.kv.1.len
    rw [flat_len ptV_len] at hkl
    have hd : 0 ≤ A → IntKind.wrap .i64 (A.tdiv 8) = A / 8 := fun h0 => tdiv8 h0 hA
    have key : k (decide (8 ≤ A ∧ A / 8 ≤ 12 ∧ (op = 28 ∨ x.kp.length < 12))) H1 := by
      rcases ho with rfl | rfl
      · have hk : k (decide (0 ≤ A) && isKindB (A / 8) && decide ((x.kp.map PtP.pt).length < 12)) H1 := hk
        have e : (decide (0 ≤ A) && isKindB (A / 8) && decide ((x.kp.map PtP.pt).length < 12)) = decide (8 ≤ A ∧ A / 8 ≤ 12 ∧ ((26 : Int) = 28 ∨ x.kp.length < 12)) := by
          unfold isKindB
          rw [Bool.eq_iff_iff, List.length_map]
          simp only [Bool.and_eq_true, decide_eq_true_eq]
          omega
        rwa [e] at hk
      · have hk : k (decide (0 ≤ A) && isKindB (A / 8)) H1 := hk
        have e : (decide (0 ≤ A) && isKindB (A / 8)) = decide (8 ≤ A ∧ A / 8 ≤ 12 ∧ ((28 : Int) = 28 ∨ x.kp.length < 12)) := by
          unfold isKindB
          rw [Bool.eq_iff_iff]
          simp only [Bool.and_eq_true, decide_eq_true_eq, true_or, and_true]
          omega
        rwa [e] at hk
    refine Jn.mk (fun j H' => H1 = H' ∧ j = decide (8 ≤ A ∧ A / 8 ≤ 12 ∧ (op = 28 ∨ x.kp.length < 12))) (fun kk hkk => Ld_int cA (Br_dec (fun h0 => Ld_int cA ⟨by omega, ?_⟩) fun h0 => hkk _ _ ⟨rfl, (decide_eq_false (by omega)).symm⟩)) (by rintro j _ ⟨rfl, rfl⟩; exact key)
    rw [hd (by omega)]
    refine Br_dec (fun h12 => Ld_int co (Br.mk (fun h28 => hkk _ _ ⟨rfl, (decide_eq_true ⟨by omega, by omega, .inl (beqI h28)⟩).symm⟩) fun h28 => ?_)) fun h12 => hkk _ _ ⟨rfl, (decide_eq_false (by omega)).symm⟩
    have h28 := bneI h28
    exact Ld_sl (s := x.g.ks) ((h1.run.1.cell 22).trans rfl) (hkk _ _ ⟨rfl, decide_eq_decide.2 (by omega)⟩)
  refine (j2 29 35 (Br_dec (fun ho => ?_) fun h29 => ?_))
  · have hk : k (isKindB A) H1 := by rcases ho with rfl | rfl <;> exact hk
    unfold isKindB at hk
    exact Jn.mk (fun j H' => H1 = H' ∧ j = decide (1 ≤ A ∧ A ≤ 12)) (fun kk hkk => Ld_int cA (Br_dec (fun h0 => Ld_int cA (hkk _ _ ⟨rfl, decide_eq_decide.2 (by omega)⟩)) fun h0 => hkk _ _ ⟨rfl, (decide_eq_false (by omega)).symm⟩)) (by rintro j _ ⟨rfl, rfl⟩; exact hk)
  rwa [accessM_other (by omega)] at hk
end
section
open Hc Hc.Vf Hc.Mc Hc.Dice
variable {H : Heap}
noncomputable def doesD (P : MP) (E : En) (m : Ms) (l : List Int) (i : Ins) : Int × Ms :=
  if isBin i.1 then (0, m.push (binI i.1.toNat l[0]! l[1]!)) else if isUn i.1 then (0, m.push (unI i.1.toNat l[0]!)) else act P E m m l i.1.toNat i.2
theorem act_cut {P : MP} {E : En} {m : Ms} {t : Nat} {l : List Int} {op : Nat} {A : Int} : act P E (cut m t) (cut m t) l op A = act P E m (cut m t) l op A := by
  unfold act
  split <;> rfl
theorem does_doesD {P : MP} {E : En} {m : Ms} {i : Ins} : does P E m i = doesD P E (cut m (takes P.ps i).toNat) (args m (takes P.ps i).toNat) i := by
  unfold does doesD
  dsimp only
  rw [act_cut]
theorem doesD_act {P : MP} {E : En} {m : Ms} {l : List Int} {op A : Int} (hb : isBin op = false) (hu : isUn op = false) : doesD P E m l (op, A) = act P E m m l op.toNat A := by
  unfold doesD
  dsimp only
  rw [if_neg (by rw [hb]; decide), if_neg (by rw [hu]; decide)]
theorem inp_snoc (l : List (Int × Int × Int)) (x : Int × Int × Int) (p q : Int) : inp (l ++ [x]) p q = if (x.1 == p && x.2.1 == q) = true then x.2.2 else inp l p q := by
  unfold inp
  rw [List.reverse_append, List.reverse_singleton, List.singleton_append, List.find?_cons]
  cases hh : (x.1 == p && x.2.1 == q) <;> simp
theorem vec_rdi {s : Sl} {vs : List Int} (h : Vec H TQaq s (ints vs)) {i : Int} {j : Nat} (hi : i = j) (hj : j < vs.length) {k : Int → Prop} (hk : k vs[j]!) : IxA 1 s i fun a => Ld (.int .i64) a H k := by
  subst hi
  refine IxA_vec h (by omega) (by rw [List.length_map]; omega) fun a ha _ => Ld_int (n := vs[j]!) (ha.trans ?_) hk
  rw [Int.toNat_natCast, List.getElem?_map, List.getElem?_eq_getElem hj, getElem!_pos vs j hj]; rfl
theorem s_dinput {H0 : Heap} {x : DG} {fs : List Rou} {ins : List (Int × Int × Int)} (h : DocR H0 H x) (hc : CtxR H0 x.g.pF x.g.s x.g.inS fs ins) {l : Sl} {vs : List Int} (hl : Vec H TQaq l (ints vs)) (hvl : vs.length = 2) {k : Int → Heap → Prop}
    (hk : ∀ H', Ext H H' → k (inp ins vs[0]! vs[1]!) H') :
    LoopT (σ := Int × Int) (fun next1 s1 H4 =>
      Ld .sl ⟨x.b, 14, none⟩ H4 fun (x14 : Sl) =>
      Br (decide (s1.2 < (x14.len : Int))) (
        Jn (σ := Int) (fun kk1 =>
          Ld .sl ⟨x.b, 14, none⟩ H4 fun (x15 : Sl) =>
          IxA 3 x15 s1.2 fun a12 =>
          LdC [(.int .i64), (.int .i64), (.int .i64)] a12 H4 fun (c1 : Int × Int × Int) =>
          Nw #[.int .i64 0, .int .i64 0, .int .i64 0] TQav H4 fun b2 H6 =>
          St ((adr b2).add 0) (.int .i64 c1.1) H6 fun H7 =>
          St ((adr b2).add 1) (.int .i64 c1.2.1) H7 fun H8 =>
          St ((adr b2).add 2) (.int .i64 c1.2.2) H8 fun H9 =>
          Jn (σ := Bool) (fun kk2 =>
            Ld (.int .i64) (adr b2) H9 fun (x16 : Int) =>
            IxA 1 l 0 fun a13 =>
            Ld (.int .i64) a13 H9 fun (x17 : Int) =>
            Br (x16 == x17) (
              Ld (.int .i64) ((adr b2).add 1) H9 fun (x18 : Int) =>
              IxA 1 l 1 fun a14 =>
              Ld (.int .i64) a14 H9 fun (x19 : Int) =>
              kk2 (x18 == x19) H9) (
              kk2 false H9)) fun j2 H10 =>
          Jn (σ := Int) (fun kk3 =>
            Br j2 (
              Ld (.int .i64) ((adr b2).add 2) H10 fun (x20 : Int) =>
              kk3 x20 H10) (
              kk3 s1.1 H10)) fun j3 H11 =>
          kk1 j3 H11) fun j1 H5 =>
        Lt (IntKind.wrap .i64 (s1.2 + 1)) fun t1 =>
        next1 (j1, t1) H5) (
        k s1.1 H4)) (0, 0) H := by
  have hil := hc.inL
  have hlen := hc.inp.len
  refine LoopT.mk (fun s H' => Ext H H' ∧ ∃ n : Nat, s.2 = n ∧ n ≤ ins.length ∧ s.1 = inp (ins.take n) vs[0]! vs[1]!) (fun s _ => ins.length - s.2.toNat) ⟨.refl _ _, 0, rfl, Nat.zero_le _, rfl⟩ ?_
  rintro next ⟨v, i⟩ H1 ⟨hE1, n, hi, hn, hv⟩ hnext
  dsimp only at hi hv ⊢
  subst hi hv
  have h1 := h.ext hE1
  have ci : hcell H1 ⟨x.b, 14, none⟩ = some (.slice x.g.inS.a x.g.inS.len x.g.inS.cap) := (h1.run.1.cell 14).trans rfl
  refine Ld_sl (s := x.g.inS) ci (Br_dec (fun hlt => ?_) fun hge => ?_)
  · have hn2 : n < ins.length := by omega
    refine Jn.mk (fun j H' => Ext H H' ∧ j = inp (ins.take (n + 1)) vs[0]! vs[1]!) (fun kk hkk => ?_) ?_
    · refine Ld_sl (s := x.g.inS) ci (IxA_rn' inV_len (hc.inp.ext h1.base) (by decide) rfl hn2 fun a ha => ?_)
      rw [getElem!_pos ins n hn2] at ha
      refine ⟨(ins[n].1, ins[n].2.1, ins[n].2.2), ha, ?_⟩
      refine Nw_row (vs := [.int .i64 0, .int .i64 0, .int .i64 0]) fun b2 H2 hb2 hE2 _ hr2 => ?_
      simp only [adr_add, mk_add]
      refine St_row hr2 (by simp) fun H3 hU3 _ hr3 => St_row hr3 (by simp) fun H4 hU4 _ hr4 => St_row hr4 (by simp) fun H5 hU5 _ hr5 => ?_
      have hE5 : Ext H H5 := extUpd (extUpd (extUpd (hE1.trans hE2 fun _ _ h => h) (by have := hE1.size; omega) hU3) (by have := hE1.size; omega) hU4) (by have := hE1.size; omega) hU5
      have hl5 := hl.ext hE5
      have e1 : inp (ins.take (n + 1)) vs[0]! vs[1]! = if (ins[n].1 == vs[0]! && ins[n].2.1 == vs[1]!) = true then ins[n].2.2 else inp (ins.take n) vs[0]! vs[1]! := by
        rw [List.take_add_one, List.getElem?_eq_getElem hn2]
        exact inp_snoc _ _ _ _
      refine Jn.mk (fun j H' => H5 = H' ∧ j = (ins[n].1 == vs[0]! && ins[n].2.1 == vs[1]!)) (fun kk2 hkk2 => ?_) ?_
      · refine Ld_int (n := ins[n].1) ((hr5.cell 0).trans rfl) (vec_rdi hl5 (j := 0) rfl (by omega) ?_)
        refine Br.mk (fun e => ?_) fun e => hkk2 _ _ ⟨rfl, by rw [e, Bool.false_and]⟩
        refine Ld_int (n := ins[n].2.1) ((hr5.cell 1).trans rfl) (vec_rdi hl5 (j := 1) rfl (by omega) (hkk2 _ _ ⟨rfl, by rw [e, Bool.true_and]⟩))
      · rintro j2 _ ⟨rfl, rfl⟩
        refine Jn_in (Br.mk (fun e => ?_) fun e => ?_)
        · refine Ld_int (n := ins[n].2.2) ((hr5.cell 2).trans rfl) (hkk _ _ ⟨hE5, ?_⟩)
          rw [e1, if_pos e]
        · refine hkk _ _ ⟨hE5, ?_⟩
          rw [e1, if_neg (by rw [e]; decide)]
    · rintro j H2 ⟨hE2, rfl⟩
      exact Lt.mk (u := ((n + 1 : Nat) : Int)) (by rw [wrap_i64_id] <;> omega) (hnext _ _ ⟨hE2, n + 1, rfl, hn2, rfl⟩ (by dsimp only; omega))
  · have hk := hk H1 hE1
    rwa [List.take_of_length_le (by omega)]
theorem s_answer {H0 : Heap} {x : DG} {fs : List Rou} {ins : List (Int × Int × Int)} (h : DocR H0 H x) (hc : CtxR H0 x.g.pF x.g.s x.g.inS fs ins) (hel : x.es.length ≤ 2 ^ 60) {op A : Int} (hop : 1 ≤ op ∧ op ≤ 39) (hA : I64 A)
    (hin : isBin op = true ∨ isUn op = true ∨ op = 1 ∨ op = 2 ∨ op = 4 ∨ (31 ≤ op ∧ op ≤ 35)) {l : Sl} {vs : List Int} (hl : Vec H TQaq l (ints vs)) (hvl : (vs.length : Int) = takes (parms fs) (op, A)) (hv64 : All64 vs)
    (hacc : accessM (dmpOf x.g fs) x.ms op.toNat A = true) (hd : 0 ≤ x.d ∧ x.d < 18446744073709551616) {k : Int → Heap → Prop}
    (hk : ∀ H' v d, Upd (· = x.g.dp) H H' → DocR H0 H' { x with d := d } → doesD (dmpOf x.g fs) (denOf x.g ins) x.ms vs (op, A) = (0, { x.ms.push v with dice := d }) → k v H') :
    CallT Pg fQb6 [.pointer (some (adr x.b)), .pointer (some (adr x.top.p)), .agg #[.int .i64 op, .int .i64 A], .slice l.a l.len l.cap] IntR H k := by
  refine cQb0 _ _ (op, A) l ?_
  unfold vQb0
  refine Nw_row (vs := [.int .i64 op, .int .i64 A]) fun b1 H1 hb1 hE1 hz1 hr1 => ?_
  have h1 := h.ext hE1
  have hl1 := hl.ext hE1
  have hk0 : ∀ H' v, Ext H H' → doesD (dmpOf x.g fs) (denOf x.g ins) x.ms vs (op, A) = (0, x.ms.push v) → k v H' := fun H' v hE he => hk H' v x.d (hE.mono fun _ _ h => h.elim) (h.ext hE) he
  have co : hcell H1 (adr b1) = some (.int .i64 op) := (hr1.cell 0).trans rfl
  have cA : hcell H1 ⟨b1, 1, none⟩ = some (.int .i64 A) := (hr1.cell 1).trans rfl
  simp only [NilCk_some, adr_add, mk_add]
  have tk : ∀ n : Nat, op = n → (tbl[n]!).2.2 = 0 → (vs.length : Int) = (tbl[n]!).1 := fun n hn h0 => hvl.trans (takes_k hop (by dsimp only; omega) h0)
  refine Ld_int co (Br.mk (fun ho => ?_) fun n1 => ?_)
  · have ho := beqI ho
    subst ho
    exact Ld_int cA (hk0 _ _ hE1 (doesD_act rfl rfl))
  refine Br.mk (fun ho => ?_) fun n2 => ?_
  · have ho := beqI ho
    subst ho
    have hacc : decide (0 ≤ A ∧ A < (x.top.loc.length : Int)) = true := hacc
    have hacc := of_decide_eq_true hacc
    refine Ld_sl (s := x.top.ls) ((h1.topR.row.cell 2).trans rfl) (Ld_int cA (vec_rdi h1.topR.loc (j := A.toNat) (by omega) (by omega) (hk0 _ _ hE1 (doesD_act rfl rfl))))
  refine Br.mk (fun ho => ?_) fun n4 => ?_
  · have ho := beqI ho
    subst ho
    have hacc : fieldOk x.ms.vals A (x.g.s.l 2 ++ x.g.s.l 3) = true := hacc
    refine Ld_int cA (s_field (put := false) h1 hc hel hA (fun hf => ?_) fun j hj hf hA0 hkd hlt hlo _ => ?_)
    · rw [show (if false = true then x.g.s.l 3 else x.g.s.l 2 ++ x.g.s.l 3) = x.g.s.l 2 ++ x.g.s.l 3 from rfl, hacc] at hf
      cases hf
    · refine Ld_sl (s := x.g.ps) ((h1.run.1.cell 18).trans rfl) (d_part h1 rfl hj fun a' _ ha2 => Ld_sl (s := x.es[j].sl) ha2 ?_)
      refine vec_rdi (h1.esR _ (List.getElem_mem hj)).1 (j := (A % 8).toNat) (by dsimp only; omega) (by omega) (hk0 _ _ hE1 ?_)
      rw [doesD_act rfl rfl]
      show (0, x.ms.push ((lookV x.ms.vals (A / 8)).getD [])[(A % 8).toNat]!) = _
      have hlo : lookV x.ms.vals (A / 8) = some x.es[j].vals := hlo
      rw [hlo]; rfl
  refine Br.mk (fun ho => ?_) fun n31 => ?_
  · have ho := beqI ho
    subst ho
    have hvl := tk 31 rfl rfl
    have hvl : vs.length = 1 := by have : (vs.length : Int) = 1 := hvl; omega
    refine Ld_ptr (n := some (adr x.g.dp)) ((h1.run.1.cell 20).trans rfl) (vec_rdi hl1 (j := 0) rfl (by omega) ?_)
    have hdie : DieR H1 x.g.dp x.d := h1.dice.1
    refine s_ref_Below hdie hd.1 hd.2 (all_get hv64 0) fun H2 hU2 hd2 => ?_
    have hd2 : Row H2 x.g.dp TQax [.int .u64 (BelowF x.d vs[0]!).2] := hd2
    refine hk H2 _ _ ((hE1.mono fun _ _ h => h.elim).trans hU2 fun _ _ e => e) (h1.fell hU2 hd2) ?_
    exact doesD_act rfl rfl
  refine Br.mk (fun ho => ?_) fun n32 => ?_
  · have ho := beqI ho
    subst ho
    exact Ld_int (n := x.g.fr) ((h1.run.1.cell 11).trans rfl) (hk0 _ _ hE1 (doesD_act rfl rfl))
  refine Br.mk (fun ho => ?_) fun n33 => ?_
  · have ho := beqI ho
    subst ho
    exact Ld_int (n := x.g.ix) ((h1.run.1.cell 15).trans rfl) (hk0 _ _ hE1 (doesD_act rfl rfl))
  refine Br.mk (fun ho => ?_) fun n34 => ?_
  · have ho := beqI ho
    subst ho
    have hvl := tk 34 rfl rfl
    have hvl : vs.length = 2 := by have : (vs.length : Int) = 2 := hvl; omega
    exact s_dinput h1 hc hl1 hvl fun H2 hE2 => hk0 _ _ (hE1.trans hE2 fun _ _ h => h) (doesD_act rfl rfl)
  refine Br.mk (fun ho => ?_) fun n35 => ?_
  · have ho := beqI ho
    subst ho
    refine Ld_int cA (s_has h1 hel (fun j hj _ hlo _ => ?_) fun hlo _ => ?_)
    · refine s_rTruth (hk0 _ _ hE1 ?_)
      rw [doesD_act rfl rfl]
      show (0, x.ms.push (truthI (lookV x.ms.vals A).isSome)) = _
      have hlo : lookV x.ms.vals A = some x.es[j].vals := hlo
      rw [hlo, decide_eq_true (show (j : Int) ≥ 0 by omega)]; rfl
    · refine s_rTruth (hk0 _ _ hE1 ?_)
      rw [doesD_act rfl rfl]
      show (0, x.ms.push (truthI (lookV x.ms.vals A).isSome)) = _
      have hlo : lookV x.ms.vals A = none := hlo
      rw [hlo]; rfl
  have n1 := bneI n1; have n2 := bneI n2; have n4 := bneI n4; have n31 := bneI n31; have n32 := bneI n32; have n33 := bneI n33; have n34 := bneI n34; have n35 := bneI n35
  have hll := hl1.len
  rw [List.length_map] at hll
  rcases hin with hb | hu | ho
  · have ht := (takes_bin (ps := parms fs) (i := (op, A)) hop hb).1
    refine Br.mk (fun e => absurd (beqI e) (by omega)) fun _ => ?_
    refine Ld_int co (vec_rdi hl1 (j := 0) rfl (by omega) (vec_rdi hl1 (j := 1) rfl (by omega) (s_rTwo hb (all_get hv64 0) (all_get hv64 1) (hk0 _ _ hE1 ?_))))
    unfold doesD
    dsimp only
    rw [if_pos hb]
  · have ht := (takes_un (ps := parms fs) (i := (op, A)) hop hu).1
    refine Br.mk (fun _ => ?_) fun e => absurd (bneI e) (by omega)
    refine Ld_int co (vec_rdi hl1 (j := 0) rfl (by omega) (s_rOne hu (hk0 _ _ hE1 ?_)))
    unfold doesD
    dsimp only
    rw [if_neg ?_, if_pos hu]
    unfold isUn at hu
    simp only [List.contains_cons, List.contains_nil, Bool.or_false, Bool.or_eq_true, beq_iff_eq] at hu
    unfold isBin
    simp only [List.contains_cons, List.contains_nil, Bool.or_false, Bool.or_eq_true, beq_iff_eq]
    omega
  · omega
end
section
open Hc Hc.Vf Hc.Mc Hc.Dice
variable {H : Heap}
theorem s_locals {r : Rou} {ps : Sl} {l : List Int} (hv : rdL H ps.a (ints l)) (hpl : ps.len = l.length) (hl : l.length ≤ 2 ^ 40) {k : Sl → Heap → Prop}
    (hk : ∀ H' s, Ext H H' → Vec H' TQaq s (ints (locals (fnOf r) l)) → (∀ b, s.a = some (adr b) → H.size ≤ b) → k s H') :
    CallT Pg fQbt [.agg #[.string r.name, .int .i64 r.params, .int .i64 r.locals, .slice r.sl.a r.sl.len r.sl.cap], .slice ps.a ps.len ps.cap] (.one (.c .sl)) H k := by
  refine cQbn (r.name, r.params, r.locals, r.sl) _ ?_
  unfold vQbn
  refine Nw_row (vs := rouV r) fun b1 H1 hb1 hE1 hz1 hr1 => ?_
  simp only [adr_add]
  refine Ld_int (n := r.locals) ((hr1.cell 2).trans rfl) ?_
  refine Jn.mk (fun j H' => H1 = H' ∧ j = max r.locals 0) (fun kk hkk => Br_dec (fun h => hkk _ _ ⟨rfl, by omega⟩) fun h => hkk _ _ ⟨rfl, by omega⟩) ?_
  rintro j1 _ ⟨rfl, rfl⟩
  refine Jn.mk (fun j H' => H1 = H' ∧ j = ((min (max r.locals 0) 32).toNat : Nat)) (fun kk hkk => Br_dec (fun h => hkk _ _ ⟨rfl, by omega⟩) fun h => hkk _ _ ⟨rfl, by omega⟩) ?_
  rintro j2 _ ⟨rfl, rfl⟩
  refine App_vec2 (ws := ints l) (Vec.nil _ _) (rdL_ext hE1 hv) (by simp [hpl]) (ints_one _) (by decide) (by simp; omega) fun s2 H2 hv2 hU2 ha2 hz2 => ?_
  have hE2 : Ext H H2 := hE1.trans hU2 fun b _ e => by cases e.1
  have hs2 : ∀ b, s2.a = some (adr b) → H.size ≤ b := fun b hb => by
    rcases ha2 with e | e
    · rw [e.1] at hb; cases hb
    · rw [e] at hb; cases hb; exact hE1.size
  generalize hN : (min (max r.locals 0) 32).toNat = N at *
  refine LoopT.mk (fun s H' => Ext H H' ∧ (∀ b, s.a = some (adr b) → H.size ≤ b) ∧ ∃ n : Nat, Vec H' TQaq s (ints (l ++ List.replicate n 0)) ∧ (n = 0 ∨ l.length + n ≤ N)) (fun s _ => N - s.len) ⟨hE2, hs2, 0, by simpa using hv2, .inl rfl⟩ ?_
  rintro next s H3 ⟨hE3, hs3, n, hv3, hn⟩ hnext
  have hlen := hv3.len
  simp only [List.length_map, List.length_append, List.length_replicate] at hlen
  refine Br_dec (fun hlt => ?_) fun hge => ?_
  · refine Nw_row (vs := [.int .i64 0]) fun b4 H4 hb4 hE4 _ hr4 => ?_
    have hE04 := hE3.trans hE4 fun _ _ h => h
    refine App_vec2 (ws := ints [0]) (hv3.ext hE4) hr4.rd_all rfl (ints_one _) (by decide) (by simp; omega) fun s5 H5 hv5 hU5 ha5 hz5 => ?_
    refine hnext s5 H5 ⟨hE04.trans hU5 fun b hb e => by have := hs3 b e.1; omega, fun b hb => ?_, n + 1, ?_, .inr (by omega)⟩ (by
      have := hv5.len
      simp only [List.length_map, List.length_append, List.length_replicate, List.length_singleton] at this
      omega)
    · rcases ha5 with e | e
      · rw [e.1] at hb; exact hs3 b hb
      · rw [e] at hb; cases hb; exact hE04.size
    · rw [List.replicate_succ', ← List.append_assoc]
      simpa [ints] using hv5
  · have e : locals (fnOf r) l = l ++ List.replicate n 0 := by
      unfold locals
      dsimp only
      rw [hN]
      congr 2
      omega
    exact hk H3 s hE3 (by rw [e]; exact hv3) hs3
theorem risN_perm : ∀ (n : Nat) (l : List PtP), (∀ p ∈ l, 0 ≤ p.kind ∧ p.kind < n) → (risN PtP.kind n l).Perm l := by
  intro n
  induction n with
  | zero => intro l h; cases l with
    | nil => exact .refl _
    | cons p l => have := h p (by simp); omega
  | succ n ih =>
    intro l h
    rw [risN_succ]
    have h1 : risN PtP.kind n l = risN PtP.kind n (l.filter fun p => !(p.kind == (n : Int))) := by
      unfold risN
      have : ∀ k ∈ List.range n, (l.filter fun p => p.kind == (k : Int)) = (l.filter fun p => !(p.kind == (n : Int))).filter fun p => p.kind == (k : Int) := by
        intro k hk
        rw [List.filter_filter]
        refine List.filter_congr fun p _ => ?_
        by_cases e : p.kind = (k : Int)
        · have := List.mem_range.1 hk
          have h2 : (p.kind == (n : Int)) = false := beq_eq_false_iff_ne.2 (by omega)
          rw [h2]; simp
        · have : (p.kind == (k : Int)) = false := beq_eq_false_iff_ne.2 e
          rw [this]; simp
      rw [List.flatMap_def, List.flatMap_def, List.map_congr_left this]
    rw [h1]
    refine ((ih (l.filter fun p => !(p.kind == (n : Int))) fun p hp => ?_).append (.refl _)).trans ?_
    · obtain ⟨hp, hq⟩ := List.mem_filter.1 hp
      have := h p hp
      have hq : p.kind ≠ n := by simpa using hq
      omega
    · exact List.perm_append_comm.trans (List.filter_append_perm (fun p : PtP => p.kind == (n : Int)) l)
theorem ptV_one (p : PtP) : ∀ w ∈ ptV p, w.oneCell' = true := fun w hw => by
  simp only [ptV, List.mem_cons, List.not_mem_nil, or_false] at hw
  rcases hw with rfl | rfl <;> rfl
theorem s_rising {s : Sl} {kp : List PtP} (h : VecN H TQai 2 s (kp.flatMap ptV)) (hl : kp.length ≤ 12) (hK : ∀ q ∈ kp, 1 ≤ q.kind ∧ q.kind ≤ 12) {k : Sl → Heap → Prop}
    (hk : ∀ H' r, Ext H H' → VecN H' TQai 2 r ((risK PtP.kind kp).flatMap ptV) → (∀ b, r.a = some (adr b) → H.size ≤ b) → k r H') :
    CallT Pg fQb5 [.slice s.a s.len s.cap] (.one (.c .sl)) H k := by
  refine cQbz _ ?_
  unfold vQbz
  have hlen := h.len
  rw [flat_len ptV_len] at hlen
  have hpl : ∀ n : Nat, (risN PtP.kind n kp).length ≤ 13 * 12 := fun n => by
    have key : ∀ n : Nat, n ≤ 13 → (risN PtP.kind n kp).length ≤ n * 12 := by
      intro n
      induction n with
      | zero => intro _; simp [risN]
      | succ n ih =>
        intro hn
        rw [risN_succ, List.length_append]
        have := ih (by omega)
        have := List.length_filter_le (fun x : PtP => x.kind == (n : Int)) kp
        omega
    by_cases hn : n ≤ 13
    · have := key n hn; omega
    · have e : ∀ m : Nat, risN PtP.kind (13 + m) kp = risN PtP.kind 13 kp := by
        intro m
        induction m with
        | zero => rfl
        | succ m ih =>
          rw [← Nat.add_assoc, risN_succ, ih, List.filter_eq_nil_iff.2, List.append_nil]
          intro q hq
          have := hK q hq
          simp only [beq_iff_eq]
          omega
      obtain ⟨m, rfl⟩ : ∃ m, n = 13 + m := ⟨n - 13, by omega⟩
      rw [e]; exact key 13 (by omega)
  refine LoopT.mk (fun t H' => Ext H H' ∧ (∀ b, t.1.a = some (adr b) → H.size ≤ b) ∧ ∃ n : Nat, t.2 = n ∧ n ≤ 13 ∧ VecN H' TQai 2 t.1 ((risN PtP.kind n kp).flatMap ptV)) (fun t _ => 13 - t.2.toNat)
    ⟨.refl _ _, (fun b hb => by cases hb), 1, rfl, by omega, ?_⟩ ?_
  · have : risN PtP.kind 1 kp = [] := by
      rw [show (1 : Nat) = 0 + 1 from rfl, risN_succ, List.filter_eq_nil_iff.2]
      · rfl
      · intro q hq
        have := hK q hq
        simp only [beq_iff_eq]
        omega
    rw [this]; exact VecN.nil _ _ _
  rintro next ⟨t, i⟩ H1 ⟨hE1, ht1, n, hi, hn, hv1⟩ hnext
  dsimp only at hi hv1 ht1 ⊢
  subst hi
  refine Br_dec (fun hle => ?_) fun hgt => ?_
  · refine LoopT.mk (fun u H' => Ext H H' ∧ (∀ b, u.1.a = some (adr b) → H.size ≤ b) ∧ ∃ m : Nat, u.2 = m ∧ m ≤ kp.length ∧ VecN H' TQai 2 u.1 ((risN PtP.kind n kp ++ (kp.take m).filter fun x => x.kind == (n : Int)).flatMap ptV)) (fun u _ => kp.length - u.2.toNat)
      ⟨hE1, ht1, 0, rfl, by omega, by simpa using hv1⟩ ?_
    rintro next2 ⟨u, j⟩ H2 ⟨hE2, hu2, m, hj, hm, hv2⟩ hnext2
    dsimp only at hj hv2 hu2 ⊢
    subst hj
    refine Br_dec (fun hlt => ?_) fun hge => ?_
    · have hm2 : m < kp.length := by omega
      have hs2 := VecN.rn ptV_len (by decide) (h.ext hE2)
      have e1 : (kp.take (m + 1)).filter (fun x => x.kind == (n : Int)) = (kp.take m).filter (fun x => x.kind == (n : Int)) ++ if kp[m].kind = (n : Int) then [kp[m]] else [] := by
        rw [List.take_add_one, List.getElem?_eq_getElem hm2, List.filter_append]
        congr 1
        simp only [Option.toList_some, List.filter_cons, List.filter_nil]
        by_cases e : kp[m].kind = (n : Int)
        · rw [if_pos e, if_pos (by simpa using e)]
        · rw [if_neg e, if_neg (by simpa using e)]
      refine Jn.mk (fun w H' => Ext H H' ∧ (∀ b, w.a = some (adr b) → H.size ≤ b) ∧ VecN H' TQai 2 w ((risN PtP.kind n kp ++ (kp.take (m + 1)).filter fun x => x.kind == (n : Int)).flatMap ptV)) (fun kk hkk => ?_) ?_
      · refine IxA_rn' ptV_len hs2 (by decide) rfl hm2 fun a ha => ?_
        rw [getElem!_pos kp m hm2] at ha
        refine Ld_int (n := kp[m].kind) ha.1 (Jn_in (Br.mk (fun e => ?_) fun e => ?_))
        · have e := beqI e
          refine IxA_rn' ptV_len hs2 (by decide) rfl hm2 fun a' ha' => ?_
          rw [getElem!_pos kp m hm2] at ha'
          refine ⟨(kp[m].kind, kp[m].sl), ha', ?_⟩
          refine Nw_row (vs := ptV kp[m]) fun b3 H3 hb3 hE3 _ hr3 => ?_
          have hE03 := hE2.trans hE3 fun _ _ h => h
          have hul := hv2.len
          rw [flat_len ptV_len, List.length_append] at hul
          have := hpl n
          have := List.length_filter_le (fun x : PtP => x.kind == (n : Int)) (kp.take m)
          have := List.length_take_le m kp
          refine App_vecN (ws := ptV kp[m]) rfl (by decide) (hv2.ext hE3) hr3.rd_all rfl (ptV_one _) (by decide) (by dsimp only; omega) fun w H4 hv4 hl4 hU4 ha4 => hkk _ _ ⟨hE03.trans hU4 fun b hb e => by have := hu2 b e.1; omega, fun b hb => ?_, ?_⟩
          · rcases ha4 with e | e
            · rw [e.1] at hb; exact hu2 b hb
            · rw [e] at hb; cases hb; exact hE03.size
          · rw [e1, if_pos e, ← List.append_assoc, List.flatMap_append]
            simpa using hv4
        · have e := bneI e
          refine hkk _ _ ⟨hE2, hu2, ?_⟩
          rw [e1, if_neg e, List.append_nil]; exact hv2
      · rintro w H3 ⟨hE3, hw3, hv3⟩
        exact Lt.mk (u := ((m + 1 : Nat) : Int)) (by rw [wrap_i64_id] <;> omega) (hnext2 _ _ ⟨hE3, hw3, m + 1, rfl, hm2, hv3⟩ (by dsimp only; omega))
    · have hm2 : m = kp.length := by omega
      subst hm2
      rw [List.take_length, ← risN_succ] at hv2
      exact Lt.mk (u := ((n + 1 : Nat) : Int)) (by rw [wrap_i64_id] <;> omega) (hnext _ _ ⟨hE2, hu2, n + 1, rfl, by omega, hv2⟩ (by dsimp only; omega))
  · have : n = 13 := by omega
    subst this
    exact hk H1 t hE1 hv1 ht1
theorem d_cell {H0 : Heap} {x : DG} (h : DocR H0 H x) {i : Nat} (hi : i < 5) {v : Value} {k : Heap → Prop} {t : DP} (ht : dactV t = (dactV x.top).set i v) (hp : t.p = x.top.p) (hr : t.r = x.top.r) (hf : t.f = x.top.f) (hl : t.ls = x.top.ls) (hs : t.ss = x.top.ss) (hloc : t.loc = x.top.loc) (hstk : t.stk = x.top.stk)
    (hk : ∀ H' c, Upd (· = x.top.p) H H' → H'.size = H.size → DocR H0 H' { x with top := t, c := c } → k H') : St ⟨x.top.p, i, none⟩ v H k := by
  refine St_row h.topR.row hi fun H1 hU hz hr1 => hk H1 _ hU hz (h.top (d := fun _ => 999) (tch_row hU (h.topI _ (.inl rfl)) rfl) ⟨?_, ?_, ?_, ?_⟩ hp hr hf fun b hb => .inl ?_)
  · rw [hp, ht]; exact hr1
  · rw [hl, hloc]; exact h.topR.loc.upd hU fun b hb e => h.topR.neL hb e
  · rw [hs, hstk]; exact h.topR.stk.upd hU fun b hb e => h.topR.neS hb e
  · rw [hl, hs]; exact h.topR.ap
  · unfold DActB at hb ⊢
    rw [hp, hl, hs] at hb; exact hb
theorem d_store {H0 : Heap} {x : DG} (h : DocR H0 H x) {A w : Int} (hA : 0 ≤ A ∧ A < (x.top.loc.length : Int)) {k : Heap → Prop} (hk : ∀ H' c, DocR H0 H' { x with top := { x.top with loc := x.top.loc.set A.toNat w }, c := c } → k H') :
    IxA 1 x.top.ls A fun a => St a (.int .i64 w) H k := by
  refine vec_st h.topR.loc (j := A.toNat) (by omega) (by rw [List.length_map]; omega) fun H' b hb hU hv => hk H' _ (h.top (t := { x.top with loc := x.top.loc.set A.toNat w }) (d := fun _ => 999) (tch_row hU (h.topI _ (.inr (.inl hb))) rfl) ⟨?_, ?_, ?_, h.topR.ap⟩ rfl rfl rfl fun b hb => .inl hb)
  · exact hU.row h.topR.row fun e => h.topR.neL hb e.symm
  · rw [ints_setI] at hv; exact hv
  · exact h.topR.stk.upd hU fun b' hb' e => h.topR.ap b hb (e ▸ hb')
theorem d_putf {H0 : Heap} {x : DG} (h : DocR H0 H x) {j : Nat} (hj : j < x.es.length) {i w : Int} (hi : 0 ≤ i ∧ i < (x.es[j].vals.length : Int)) {k : Heap → Prop} (hk : ∀ H', DocR H0 H' { x with es := x.es.set j { x.es[j] with vals := x.es[j].vals.set i.toNat w } } → k H') :
    IxA 1 x.es[j].sl i fun a => St a (.int .i64 w) H k := by
  refine vec_st (h.esR _ (List.getElem_mem hj)).1 (j := i.toNat) (by omega) (by rw [List.length_map]; omega) fun H' b hb hU hv => hk H' (h.put hj hb hU ?_)
  rw [ints_setI] at hv; exact hv
theorem d_push {H0 : Heap} {x : DG} (h : DocR H0 H x) (hb : x.top.stk.length ≤ 64) {v : Int} {S1 S2 : List (Addr × Value)} (hS1 : ∀ y ∈ S1, hcell H y.1 = some y.2) (hS2 : ∀ y ∈ S2, hcell H y.1 = some y.2 ∧ x.top.ss.a ≠ some (adr y.1.block)) {k : Heap → Prop}
    (hk : ∀ H' ss c, DocR H0 H' { x with top := { x.top with ss := ss, stk := x.top.stk ++ [v] }, c := c } → k H') :
    Nw #[.int .i64 v] TQaq H fun b H1 => Stab S1 H1 <| App TQaq 1 8 #[.int .i64 0] x.top.ss ⟨some (adr b), 1, 1⟩ H1 fun l H2 => Stab S2 H2 <| St ⟨x.top.p, 3, none⟩ (.slice l.a l.len l.cap) H2 k := by
  refine Nw_row (vs := [.int .i64 v]) fun b1 H1 hb1 hE1 hz1 hr1 => Stab_all (fun y hy => hE1.cell (hS1 y hy) fun h => h) ?_
  have h1 := h.ext hE1
  have hx1 := h1.topR
  refine App_vec2 (ws := ints [v]) hx1.stk hr1.rd_all rfl (ints_one _) (by decide) (by simp; omega) fun s' H2 hv2 hU2 ha2 hz2 => Stab_all (fun y hy => hU2.cell (hE1.cell (hS2 y hy).1 fun h => h) fun e => (hS2 y hy).2 e.1) ?_
  have hfr : s'.a = x.top.ss.a ∨ ∃ b, s'.a = some (adr b) ∧ H1.size ≤ b := ha2.imp (fun e => e.1) fun e => ⟨_, e, Nat.le_refl _⟩
  have hrow2 := hU2.row hx1.row fun e => hx1.neS e.1 rfl
  refine St_row hrow2 (by simp) fun H3 hU3 hz3 hr3 => ?_
  have hlt := hx1.row.lt
  have hne : ∀ b, s'.a = some (adr b) → b ≠ x.top.p := fun b hb e => by
    rcases hfr with h | ⟨b', h, hlt'⟩
    · rw [h] at hb; exact hx1.neS hb e
    · rw [h] at hb; cases hb; omega
  refine hk H3 s' _ (h1.top (t := { x.top with ss := s', stk := x.top.stk ++ [v] }) (d := fun _ => x.low.length) (Tch.of ((hU2.mono fun b _ e => .inr e.1).trans hU3 fun _ _ e => .inl e : Upd (fun b => b = x.top.p ∨ x.top.ss.a = some (adr b)) H1 H3) fun b _ e => ?_) ⟨hr3, (hx1.loc.upd hU2 fun b hb e => hx1.ap b hb e.1).upd hU3 fun b hb e => hx1.neL hb e, ?_, fun b hb hb' => ?_⟩ rfl rfl rfl fun b hb => ?_)
  · have := h1.topI b (e.imp id fun e => .inr e)
    exact ⟨this.1, this.2⟩
  · have := hv2.upd hU3 fun b hb e => hne b hb e
    simpa [ints] using this
  · rcases hfr with h | ⟨b', h, hlt'⟩
    · rw [h] at hb'; exact hx1.ap b hb hb'
    · rw [h] at hb'; cases hb'; have := hx1.loc.lt hb; omega
  · rcases hb with rfl | hb | hb
    · exact .inl (.inl rfl)
    · exact .inl (.inr (.inl hb))
    · rcases hfr with e | ⟨b', e, hlt⟩
      · dsimp only at hb
        rw [e] at hb; exact .inl (.inr (.inr hb))
      · dsimp only at hb
        rw [e] at hb; cases hb
        exact .inr ⟨hlt, rfl⟩
theorem s_rstep {H0 : Heap} {x : DG} (h : DocR H0 H x) (hs : 0 ≤ x.g.st ∧ x.g.st ≤ 2000) {k : Int → Heap → Prop}
    (hk : ∀ H', Upd (· = x.b) H H' → DocR H0 H' { x with g := { x.g with st := x.g.st + 1, si := 0 } } → k (if x.g.st + 1 ≤ 2000 then 0 else 120) H') : CallT Pg fQb4 [.pointer (some (adr x.b))] IntR H k := by
  refine cQby _ ?_
  unfold vQby
  simp only [NilCk_some, adr_add, mk_add]
  refine Ld_int (n := x.g.st) ((h.run.1.cell 26).trans rfl) (Lt.mk (u := x.g.st + 1) (by rw [wrap_i64_id] <;> omega) ?_)
  refine St_row h.run.1 (by simp) fun H1 hU1 _ hr1 => St_row hr1 (by simp) fun H2 hU2 _ hr2 => ?_
  have hU : Upd (· = x.b) H H2 := hU1.trans hU2 fun _ _ e => e
  have h2 := hk H2 hU (h.num hU hr2)
  refine Ld_int (n := x.g.st + 1) ((hr2.cell 26).trans rfl) (Br_dec (fun hgt => ?_) fun hle => ?_)
  · rwa [if_neg (by omega)] at h2
  · rwa [if_pos (by omega)] at h2
end
section
open Hc Hc.Vf Hc.Mc Hc.Dice
variable {H : Heap}
abbrev dstat (g : DunG) : Sl × Sl × Sy × Int × Int × Int × Int × Sl × Int × Int × Sl × Sl × Nat := (g.pS, g.pF, g.s, g.n, g.fr, g.sd, g.en, g.inS, g.ix, g.gn, g.rp, g.ps, g.dp)
structure DPost (H0 : Heap) (x : DG) (res : Int × Ms) (H' : Heap) (x' : DG) : Prop where
  doc : DocR H0 H' x'
  b : x'.b = x.b
  st : dstat x'.g = dstat x.g
  ms : res.1 = 0 → x'.ms = res.2
  steps : x'.g.st = res.2.steps
  el : x'.es.length = x.es.length
theorem cmV_one (q : CmP) : ∀ w ∈ cmV q, w.oneCell' = true := fun w hw => by
  simp only [cmV, List.mem_cons, List.not_mem_nil, or_false] at hw
  rcases hw with rfl | rfl | rfl | rfl | rfl | rfl <;> rfl
theorem evV_one (q : Ev) : ∀ w ∈ evV q, w.oneCell' = true := fun w hw => by
  simp only [evV, List.mem_cons, List.not_mem_nil, or_false] at hw
  rcases hw with rfl | rfl | rfl | rfl | rfl <;> rfl
theorem d_cmd {H0 : Heap} {x : DG} (h : DocR H0 H x) (hl : x.cl.length ≤ 16) {q : CmP} (hq : Vec H TQaq q.vsl (ints q.vals)) (hqc : IsS x.c H0.size 999 q.vsl) (hp : q.parts = []) (hps : q.psl = ⟨none, 0, 0⟩) {S1 S2 : List (Addr × Value)} (hS1 : ∀ y ∈ S1, hcell H y.1 = some y.2) (hS2 : ∀ y ∈ S2, hcell H y.1 = some y.2 ∧ x.g.cs.a ≠ some (adr y.1.block)) {k : Heap → Prop}
    (hk : ∀ H' cs c, DocR H0 H' { x with g := { x.g with cs := cs }, cl := x.cl ++ [q], c := c } → k H') :
    Nw ⟨cmV q⟩ TQac H fun b H1 => Stab S1 H1 <| App TQac 6 80 #[.int .i64 0, .int .i64 0, .int .i64 0, .int .i64 0, .slice none 0 0, .slice none 0 0] x.g.cs ⟨some (adr b), 1, 1⟩ H1 fun l H2 => Stab S2 H2 <| St ⟨x.b, 24, none⟩ (.slice l.a l.len l.cap) H2 k := by
  refine Nw_row fun b1 H1 hb1 hE1 hz1 hr1 => Stab_all (fun y hy => hE1.cell (hS1 y hy) fun h => h) ?_
  have h1 := h.ext hE1
  have hlen := h1.cv.1.len
  rw [flat_len cmV_len] at hlen
  refine App_vecN (ws := cmV q) rfl (by decide) h1.cv.1 hr1.rd_all rfl (cmV_one q) (by decide) (by dsimp only; omega) fun cs H2 hv2 hl2 hU2 ha2 => Stab_all (fun y hy => hU2.cell (hE1.cell (hS2 y hy).1 fun h => h) fun e => (hS2 y hy).2 e.1) ?_
  have hrun2 := hU2.row h1.run.1 fun e => h1.cv.1.ne e.1 h1.run.1 (by decide) rfl
  refine St_row hrun2 (by simp) fun H3 hU3 _ hr3 => hk H3 cs _ (h1.cmd (cs := cs) ((hU2.mono fun b _ e => .inl e.1).trans hU3 fun _ _ e => .inr e) hr3 ?_ (ha2.imp (fun e => e.1) fun e => ⟨_, e, Nat.le_refl _⟩) (hq.ext hE1) hqc hp hps)
  have := hv2.upd hU3 fun b hb e => hv2.ne hb hrun2 (by decide) e
  simpa using this
theorem d_event {H0 : Heap} {x : DG} (h : DocR H0 H x) (hl : x.evs.length ≤ 16) {q : Ev} {S1 S2 : List (Addr × Value)} (hS1 : ∀ y ∈ S1, hcell H y.1 = some y.2) (hS2 : ∀ y ∈ S2, hcell H y.1 = some y.2 ∧ x.g.es.a ≠ some (adr y.1.block)) {k : Heap → Prop}
    (hk : ∀ H' es c, DocR H0 H' { x with g := { x.g with es := es }, evs := x.evs ++ [q], c := c } → k H') :
    Nw ⟨evV q⟩ TQaf H fun b H1 => Stab S1 H1 <| App TQaf 5 40 #[.int .i64 0, .int .i64 0, .int .i64 0, .int .i64 0, .int .i64 0] x.g.es ⟨some (adr b), 1, 1⟩ H1 fun l H2 => Stab S2 H2 <| St ⟨x.b, 25, none⟩ (.slice l.a l.len l.cap) H2 k := by
  refine Nw_row fun b1 H1 hb1 hE1 hz1 hr1 => Stab_all (fun y hy => hE1.cell (hS1 y hy) fun h => h) ?_
  have h1 := h.ext hE1
  have hlen := h1.ev.1.len
  rw [flat_len evV_len] at hlen
  refine App_vecN (ws := evV q) rfl (by decide) h1.ev.1 hr1.rd_all rfl (evV_one q) (by decide) (by dsimp only; omega) fun es H2 hv2 hl2 hU2 ha2 => Stab_all (fun y hy => hU2.cell (hE1.cell (hS2 y hy).1 fun h => h) fun e => (hS2 y hy).2 e.1) ?_
  have hrun2 := hU2.row h1.run.1 fun e => h1.ev.1.ne e.1 h1.run.1 (by decide) rfl
  refine St_row hrun2 (by simp) fun H3 hU3 _ hr3 => hk H3 es _ (h1.event (es := es) (q := q) ((hU2.mono fun b _ e => .inl e.1).trans hU3 fun _ _ e => .inr e) hr3 ?_ (ha2.imp (fun e => e.1) fun e => ⟨_, e, Nat.le_refl _⟩))
  have := hv2.upd hU3 fun b hb e => hv2.ne hb hrun2 (by decide) e
  simpa using this
theorem d_keep {H0 : Heap} {x : DG} (h : DocR H0 H x) (hl : x.kp.length ≤ 12) {q : PtP} (hq : Vec H TQaq q.sl (ints q.vals)) (hqc : IsS x.c H0.size 999 q.sl) {S1 S2 : List (Addr × Value)} (hS1 : ∀ y ∈ S1, hcell H y.1 = some y.2) (hS2 : ∀ y ∈ S2, hcell H y.1 = some y.2 ∧ x.g.ks.a ≠ some (adr y.1.block)) {k : Heap → Prop}
    (hk : ∀ H' ks c, DocR H0 H' { x with g := { x.g with ks := ks }, kp := x.kp ++ [q], c := c } → k H') :
    Nw ⟨ptV q⟩ TQai H fun b H1 => Stab S1 H1 <| App TQai 2 32 #[.int .i64 0, .slice none 0 0] x.g.ks ⟨some (adr b), 1, 1⟩ H1 fun l H2 => Stab S2 H2 <| St ⟨x.b, 22, none⟩ (.slice l.a l.len l.cap) H2 k := by
  refine Nw_row fun b1 H1 hb1 hE1 hz1 hr1 => Stab_all (fun y hy => hE1.cell (hS1 y hy) fun h => h) ?_
  have h1 := h.ext hE1
  have hlen := h1.kv.1.len
  rw [flat_len ptV_len] at hlen
  refine App_vecN (ws := ptV q) rfl (by decide) h1.kv.1 hr1.rd_all rfl (ptV_one q) (by decide) (by dsimp only; omega) fun ks H2 hv2 hl2 hU2 ha2 => Stab_all (fun y hy => hU2.cell (hE1.cell (hS2 y hy).1 fun h => h) fun e => (hS2 y hy).2 e.1) ?_
  have hrun2 := hU2.row h1.run.1 fun e => h1.kv.1.ne e.1 h1.run.1 (by decide) rfl
  refine St_row hrun2 (by simp) fun H3 hU3 _ hr3 => hk H3 ks _ (h1.keep (ks := ks) (q := q) ((hU2.mono fun b _ e => .inl e.1).trans hU3 fun _ _ e => .inr e) hr3 ?_ (ha2.imp (fun e => e.1) fun e => ⟨_, e, Nat.le_refl _⟩) (hq.ext hE1) hqc)
  have := hv2.upd hU3 fun b hb e => hv2.ne hb hrun2 (by decide) e
  simpa using this
theorem d_call {H0 : Heap} {x : DG} {fs : List Rou} {ins : List (Int × Int × Int)} (h : DocR H0 H x) (hc : CtxR H0 x.g.pF x.g.s x.g.inS fs ins) {A : Int} (hA : 0 ≤ A ∧ A < (fs.length : Int)) (hlow : x.low.length + 1 ≤ 16) {b1 : Nat} {op : Int} (hb1 : Row H b1 TQag [.int .i64 op, .int .i64 A]) (hb1l : x.g.ls.a ≠ some (adr b1))
    {l : Sl} {vs : List Int} (hl : Vec H TQaq l (ints vs)) (hvl : vs.length ≤ 2 ^ 40) {k : Heap → Prop}
    (hk : ∀ H' ls t c, DocR H0 H' { x with g := { x.g with ls := ls }, low := x.low ++ [x.top], top := t, c := c } → t.act = ⟨fnOf fs[A.toNat]!, locals (fnOf fs[A.toNat]!) vs, [], 0⟩ → k H') :
    Ld .sl ⟨x.b, 1, none⟩ H fun (x14 : Sl) =>
    Ld (.int .i64) ⟨b1, 1, none⟩ H fun (x15 : Int) =>
    IxA 4 x14 x15 fun a15 =>
    LdC [.str, (.int .i64), (.int .i64), .sl] a15 H fun (c2 : ByteArray × Int × Int × Sl) =>
    Nw #[.string ByteArray.empty, .int .i64 0, .int .i64 0, .slice none 0 0] TQak H fun b3 H19 =>
    Stab [(a15.add 0, .string c2.1), (a15.add 1, .int .i64 c2.2.1), (a15.add 2, .int .i64 c2.2.2.1), (a15.add 3, .slice c2.2.2.2.a c2.2.2.2.len c2.2.2.2.cap), (⟨b1, 1, none⟩, .int .i64 x15), (⟨x.b, 1, none⟩, .slice x14.a x14.len x14.cap)] H19 <|
    St ⟨b3, 0, none⟩ (.string c2.1) H19 fun H20 =>
    St ⟨b3, 1, none⟩ (.int .i64 c2.2.1) H20 fun H21 =>
    St ⟨b3, 2, none⟩ (.int .i64 c2.2.2.1) H21 fun H22 =>
    St ⟨b3, 3, none⟩ (.slice c2.2.2.2.a c2.2.2.2.len c2.2.2.2.cap) H22 fun H23 =>
    Ld .sl ⟨x.b, 19, none⟩ H23 fun (x16 : Sl) =>
    Ld (.int .i64) ⟨b1, 1, none⟩ H23 fun (x17 : Int) =>
    Ld .sl ⟨b3, 3, none⟩ H23 fun (x18 : Sl) =>
    LdC [.str, (.int .i64), (.int .i64), .sl] (adr b3) H23 fun (c3 : ByteArray × Int × Int × Sl) =>
    CallT Pg fQbt [.agg #[.string c3.1, .int .i64 c3.2.1, .int .i64 c3.2.2.1, .slice c3.2.2.2.a c3.2.2.2.len c3.2.2.2.cap], .slice l.a l.len l.cap] (.one (.c .sl)) H23 fun (r5 : Sl) H24 =>
    Stab [(⟨b3, 3, none⟩, .slice x18.a x18.len x18.cap), (⟨b1, 1, none⟩, .int .i64 x17), (⟨x.b, 19, none⟩, .slice x16.a x16.len x16.cap)] H24 <|
    Nw #[.int .i64 x17, .slice x18.a x18.len x18.cap, .slice r5.a r5.len r5.cap, .slice none 0 0, .int .i64 0] TQaz H24 fun b4 H25 =>
    Stab [(⟨b3, 0, none⟩, .string c3.1), (⟨b3, 1, none⟩, .int .i64 c3.2.1), (⟨b3, 2, none⟩, .int .i64 c3.2.2.1), (⟨b3, 3, none⟩, .slice c3.2.2.2.a c3.2.2.2.len c3.2.2.2.cap), (⟨b3, 3, none⟩, .slice x18.a x18.len x18.cap), (⟨b1, 1, none⟩, .int .i64 x17), (⟨x.b, 19, none⟩, .slice x16.a x16.len x16.cap)] H25 <|
    Nw #[.pointer (some (adr b4))] TQau H25 fun b5 H26 =>
    Stab [(⟨b3, 0, none⟩, .string c3.1), (⟨b3, 1, none⟩, .int .i64 c3.2.1), (⟨b3, 2, none⟩, .int .i64 c3.2.2.1), (⟨b3, 3, none⟩, .slice c3.2.2.2.a c3.2.2.2.len c3.2.2.2.cap), (⟨b3, 3, none⟩, .slice x18.a x18.len x18.cap), (⟨b1, 1, none⟩, .int .i64 x17), (⟨x.b, 19, none⟩, .slice x16.a x16.len x16.cap)] H26 <|
    App TQau 1 8 #[.pointer none] x16 ⟨some (adr b5), 1, 1⟩ H26 fun l1 H27 =>
    Stab [(⟨b3, 0, none⟩, .string c3.1), (⟨b3, 1, none⟩, .int .i64 c3.2.1), (⟨b3, 2, none⟩, .int .i64 c3.2.2.1), (⟨b3, 3, none⟩, .slice c3.2.2.2.a c3.2.2.2.len c3.2.2.2.cap), (⟨b3, 3, none⟩, .slice x18.a x18.len x18.cap), (⟨b1, 1, none⟩, .int .i64 x17)] H27 <|
    St ⟨x.b, 19, none⟩ (.slice l1.a l1.len l1.cap) H27 k := by
  have hj : A.toNat < fs.length := by omega
  refine Ld_sl (s := x.g.pF) ((h.run.1.cell 1).trans rfl) (Ld_int (n := A) ((hb1.cell 1).trans rfl) ?_)
  refine IxA_rn' rouV_len (hc.fn.ext h.base) (by decide) (show A = (A.toNat : Nat) by omega) hj fun a15 ha => ?_
  generalize hr : fs[A.toNat]! = r at *
  have hrm : r ∈ fs := by rw [← hr, getElem!_pos fs _ hj]; exact List.getElem_mem hj
  refine ⟨(r.name, r.params, r.locals, r.sl), ha, ?_⟩
  refine Nw_row (vs := [.string ByteArray.empty, .int .i64 0, .int .i64 0, .slice none 0 0]) fun b3 H19 hb3 hE19 _ hr19 => ?_
  refine Stab_all (fun y hy => ?_) ?_
  · have ha' : hcells H19 a15 0 (rouV r) := hcells_ext hE19 ha
    simp only [List.mem_cons, List.not_mem_nil, or_false] at hy
    rcases hy with rfl | rfl | rfl | rfl | rfl | rfl
    · exact ha'.1
    · exact ha'.2.1
    · exact ha'.2.2.1
    · exact ha'.2.2.2.1
    · exact ((hE19.row hb1 fun h => h).cell 1).trans rfl
    · exact ((hE19.row h.run.1 fun h => h).cell 1).trans rfl
  refine St_row hr19 (by simp) fun H20 hU20 _ hr20 => St_row hr20 (by simp) fun H21 hU21 _ hr21 => St_row hr21 (by simp) fun H22 hU22 _ hr22 => St_row hr22 (by simp) fun H23 hU23 _ hr23 => ?_
  have hE23 : Ext H H23 := extUpd (extUpd (extUpd (extUpd hE19 (by omega) hU20) (by omega) hU21) (by omega) hU22) (by omega) hU23
  have h23 := h.ext hE23
  have hb23 := hE23.row hb1 fun h => h
  have hr23 : Row H23 b3 TQak (rouV r) := hr23
  refine Ld_sl (s := x.g.ls) ((h23.run.1.cell 19).trans rfl) (Ld_int (n := A) ((hb23.cell 1).trans rfl) (Ld_sl (s := r.sl) ((hr23.cell 3).trans rfl) ?_))
  refine ⟨(r.name, r.params, r.locals, r.sl), hr23.rd_all, ?_⟩
  refine s_locals ((hl.ext hE23).rd) (by have := hl.len; simpa using this) hvl fun H24 r5 hE24 hv24 hn24 => ?_
  have st : ∀ {H'}, Ext H23 H' → ∀ y ∈ [((⟨b3, 0, none⟩ : Addr), Value.string r.name), (⟨b3, 1, none⟩, .int .i64 r.params), (⟨b3, 2, none⟩, .int .i64 r.locals), (⟨b3, 3, none⟩, .slice r.sl.a r.sl.len r.sl.cap), (⟨b3, 3, none⟩, .slice r.sl.a r.sl.len r.sl.cap), (⟨b1, 1, none⟩, .int .i64 A), (⟨x.b, 19, none⟩, .slice x.g.ls.a x.g.ls.len x.g.ls.cap)], hcell H' y.1 = some y.2 := fun hE y hy => by
    have hr := hE.row hr23 fun h => h
    simp only [List.mem_cons, List.not_mem_nil, or_false] at hy
    rcases hy with rfl | rfl | rfl | rfl | rfl | rfl | rfl
    · exact (hr.cell 0).trans rfl
    · exact (hr.cell 1).trans rfl
    · exact (hr.cell 2).trans rfl
    · exact (hr.cell 3).trans rfl
    · exact (hr.cell 3).trans rfl
    · exact ((hE.row hb23 fun h => h).cell 1).trans rfl
    · exact ((hE.row h23.run.1 fun h => h).cell 19).trans rfl
  refine Stab_all (fun y hy => st hE24 y (by
    simp only [List.mem_cons, List.not_mem_nil, or_false] at hy ⊢
    rcases hy with rfl | rfl | rfl <;> simp)) ?_
  refine Nw_row (vs := [.int .i64 A, slV r.sl, slV r5, .slice none 0 0, .int .i64 0]) fun b4 H25 hb4 hE25 _ hr25 => ?_
  have hE25' := hE24.trans hE25 fun _ _ h => h
  refine Stab_all (st hE25') ?_
  refine Nw_row (vs := [.pointer (some (adr b4))]) fun b5 H26 hb5 hE26 _ hr26 => ?_
  have hE26' := hE25'.trans hE26 fun _ _ h => h
  refine Stab_all (st hE26') ?_
  have hE := hE23.trans hE26' fun _ _ h => h
  have h26 := h.ext hE
  have hsz := hE23.size
  have hsz2 := hE24.size
  have hll := h26.lv.1.len
  simp only [List.length_map, List.length_append, List.length_singleton] at hll
  refine App_vec2 (ws := [.pointer (some (adr b4))]) h26.lv.1 hr26.rd_all rfl (fun w hw => by rw [List.mem_singleton.1 hw]; rfl) (by decide) (by simp; omega) fun ls H27 hv27 hU27 ha27 _ => ?_
  refine Stab_all (fun y hy => ?_) ?_
  · have h0 := st hE26' y (by
      simp only [List.mem_cons, List.not_mem_nil, or_false] at hy ⊢
      rcases hy with rfl | rfl | rfl | rfl | rfl | rfl <;> simp)
    refine hU27.cell h0 fun e => ?_
    have e := e.1
    simp only [List.mem_cons, List.not_mem_nil, or_false] at hy
    have hlt := h.lv.1.lt (b := y.1.block) e
    rcases hy with rfl | rfl | rfl | rfl | rfl | rfl
    all_goals first | exact hb1l e | (dsimp only at hlt; omega)
  have hrun27 := hU27.row h26.run.1 fun e => h26.lv.1.ne e.1 h26.run.1 (by decide) rfl
  refine St_row hrun27 (by simp) fun H28 hU28 _ hr28 => ?_
  have hb4n : H.size ≤ b4 := by omega
  have hU2628 : Upd (fun b => x.g.ls.a = some (adr b) ∨ b = x.b) H26 H28 := (hU27.mono fun b _ e => .inl e.1).trans hU28 fun _ _ e => .inr e
  refine hk H28 ls ⟨b4, A, r, r5, ⟨none, 0, 0⟩, locals (fnOf r) vs, [], 0⟩ _ (h.call hlow (ls := ls) ((hE.mono fun _ _ h => h.elim).trans hU2628 fun _ _ e => e) hr28 ?_ ?_ ⟨?_, ?_, Vec.nil _ _, apart_nil _ rfl⟩ (fun b hb => ?_) (hc.fnC r hrm) hA.1) rfl
  · have := hv27.upd hU28 fun b hb e => hv27.ne hb hrun27 (by decide) e
    simpa [dptrs] using this
  · exact ha27.imp (fun e => e.1) fun e => ⟨_, e, hE.size⟩
  · exact hU2628.row (hE26.row hr25 fun h => h) fun e => by
      rcases e with e | e
      · have : b4 < H.size := h.lv.1.lt e
        omega
      · have := h.run.1.lt
        have e : b4 = x.b := e
        omega
  · exact (hv24.ext (hE25.trans hE26 fun _ _ h => h)).upd hU2628 fun b hb e => by
      have := hn24 b hb
      rcases e with e | e
      · have := h.lv.1.lt e; omega
      · have := h.run.1.lt; omega
  · rcases hb with rfl | hb | hb
    · exact hb4n
    · exact Nat.le_trans hsz (hn24 b hb)
    · cases hb
end
section
open Hc Hc.Vf Hc.Mc Hc.Dice
variable {H : Heap}
structure DRdy (x : DG) (fs : List Rou) (op A : Int) (vs : List Int) : Prop where
  hop : 1 ≤ op ∧ op ≤ 39
  hA : I64 A
  hvl : (vs.length : Int) = takes (parms fs) (op, A)
  v64 : All64 vs
  acc : access (dmpOf x.g fs) x.ms (op, A) = true
  dice : 0 ≤ x.d ∧ x.d < 18446744073709551616
  st : 0 ≤ x.g.st ∧ x.g.st ≤ 2000
  stk : x.top.stk.length ≤ 64
  low : ∀ a ∈ x.low, a.stk.length ≤ 64
  kp : x.kp.length ≤ 12
  kpK : ∀ q ∈ x.kp, 1 ≤ q.kind ∧ q.kind ≤ 12
  cl : x.cl.length ≤ 16
  ev : x.evs.length ≤ 16
  es : x.es.length ≤ 2 ^ 60
  vl : vs.length ≤ 64
theorem ints_at {vs : List Int} {i : Nat} (h : i < vs.length) : (ints vs)[i]? = some (.int .i64 vs[i]!) := by
  rw [List.getElem?_map, List.getElem?_eq_getElem h, getElem!_pos vs i h]; rfl
theorem DRdy.m {x : DG} {fs : List Rou} {op A : Int} {vs : List Int} (r : DRdy x fs op A vs) : accessM (dmpOf x.g fs) x.ms op.toNat A = true := by
  have := r.acc
  unfold access at this
  split at this
  · cases this
  · exact this
theorem DRdy.len {x : DG} {fs : List Rou} {op A : Int} {vs : List Int} (r : DRdy x fs op A vs) {n : Nat} (hn : op = n) (h0 : (tbl[n]!).2.2 = 0) {m : Nat} (hm : (tbl[n]!).1 = m) : vs.length = m := by
  have := r.hvl.trans (takes_k r.hop (by dsimp only; omega) h0)
  omega
theorem s_rdoes {H0 : Heap} {x : DG} {fs : List Rou} {ins : List (Int × Int × Int)} (h : DocR H0 H x) (hc : CtxR H0 x.g.pF x.g.s x.g.inS fs ins) {op A : Int} {vs : List Int} (r : DRdy x fs op A vs)
    {l : Sl} (hl : Vec H TQaq l (ints vs)) (hlc : IsS x.c H0.size 999 l) {k : Int → Heap → Prop}
    (hk : ∀ H' x', DPost H0 x (doesD (dmpOf x.g fs) (denOf x.g ins) x.ms vs (op, A)) H' x' → k (doesD (dmpOf x.g fs) (denOf x.g ins) x.ms vs (op, A)).1 H') :
    CallT Pg fQbx [.pointer (some (adr x.b)), .pointer (some (adr x.top.p)), .agg #[.int .i64 op, .int .i64 A], .slice l.a l.len l.cap] IntR H k := by
  refine cQbr _ _ (op, A) l ?_
  unfold vQbr
  refine Nw_row (vs := [.int .i64 op, .int .i64 A]) fun b1 H1 hb1 hE1 hz1 hr1 => ?_
  have h1 := h.ext hE1
  simp only [NilCk_some, adr_add, mk_add]
  refine ⟨(x.g.ix, x.g.gn), ⟨(h1.run.1.cell 15).trans rfl, (h1.run.1.cell 16).trans rfl, trivial⟩, ?_⟩
  refine Nw_row (vs := [.int .i64 0, .int .i64 0]) fun b2 H2 hb2 hE2 hz2 hr2 => ?_
  have hs1 := hE1.size
  refine St_row hr2 (by simp) fun H3 hU3 _ hr3 => St_row hr3 (by simp) fun H4 hU4 _ hr4 => ?_
  have hr4 : Row H4 b2 TQad [.int .i64 x.g.ix, .int .i64 x.g.gn] := hr4
  have hE14 : Ext H1 H4 := extUpd (extUpd hE2 (by omega) hU3) (by omega) hU4
  have hE4 : Ext H H4 := hE1.trans hE14 fun _ _ h => h
  have hr1 := hE14.row hr1 fun h => h
  have h4 := h.ext hE4
  have hl4 := hl.ext hE4
  have co : hcell H4 (adr b1) = some (.int .i64 op) := (hr1.cell 0).trans rfl
  have cA : hcell H4 ⟨b1, 1, none⟩ = some (.int .i64 A) := (hr1.cell 1).trans rfl
  have c20 : hcell H4 ⟨b2, 0, none⟩ = some (.int .i64 x.g.ix) := (hr4.cell 0).trans rfl
  have c21 : hcell H4 ⟨b2, 1, none⟩ = some (.int .i64 x.g.gn) := (hr4.cell 1).trans rfl
  have cE : hcells H4 (adr b2) 0 [.int .i64 x.g.ix, .int .i64 x.g.gn] := ⟨c20, c21, trivial⟩
  have nb1 : ∀ {s : Sl} {b : Nat}, s.a = some (adr b) → b < H.size → s.a ≠ some (adr b1) := fun h1 h2 e => by rw [h1] at e; cases e; omega
  have hP : ∀ {H' x'} {res : Int × Ms}, DPost H0 x res H' x' → doesD (dmpOf x.g fs) (denOf x.g ins) x.ms vs (op, A) = res → k res.1 H' := fun hp he => by subst he; exact hk _ _ hp
  have acc := r.m
  -- what lies apart
  have hnl : ∀ {s : Sl} {j : Nat}, IsS x.c H0.size j s → j ≠ 999 → ∀ {b : Nat}, l.a = some (adr b) → s.a ≠ some (adr b) := fun hs hj b hb e => by
    have := (hs b e).2; have := (hlc b hb).2; omega
  refine Ld_int co (Jn_in (Jn_in (Br.mk (fun ho => ?_) fun n3 => ?_)))
  · have ho := beqI ho
    subst ho
    have hv1 := r.len (n := 3) rfl rfl (m := 1) rfl
    have acc : decide (0 ≤ A ∧ A < (x.top.loc.length : Int)) = true := acc
    refine Ld_sl (s := x.top.ls) ((h4.topR.row.cell 2).trans rfl) (Ld_int cA (vec_rdi hl4 (j := 0) rfl (by omega) (d_store h4 (of_decide_eq_true acc) fun H' c h' => ?_)))
    exact hP (res := (0, _)) ⟨h', rfl, rfl, fun _ => rfl, rfl, rfl⟩ (doesD_act rfl rfl)
  refine Jn_in (Br.mk (fun ho => ?_) fun n5 => ?_)
  · have ho := beqI ho
    subst ho
    have hv1 := r.len (n := 5) rfl rfl (m := 1) rfl
    have acc : fieldOk x.ms.vals A (x.g.s.l 3) = true := acc
    refine Ld_int cA (s_field (put := true) h4 hc r.es r.hA (fun hf => by rw [if_pos rfl, acc] at hf; cases hf) fun j hj hf hA0 hkd hlt hlo hput => ?_)
    refine Ld_sl (s := x.g.ps) ((h4.run.1.cell 18).trans rfl) (d_part h4 rfl hj fun a' _ ha2 => Ld_sl (s := x.es[j].sl) ha2 (vec_rdi hl4 (j := 0) rfl (by omega) (d_putf h4 hj ⟨by omega, hlt⟩ fun H' h' => ?_)))
    refine hP (res := (0, _)) ⟨h', rfl, rfl, fun _ => ?_, rfl, by simp⟩ (doesD_act rfl rfl)
    show Ms.mk _ _ _ _ _ _ _ _ _ _ = Ms.mk _ _ _ _ _ _ _ _ _ _
    have := hput (A % 8).toNat vs[0]!
    congr 1
    exact this.symm
  have hcl : x.top.r.sl.len = x.top.r.code.length := (h4.codes x.top (by simp)).len
  have hgoal : (if 0 ≤ A ∧ A < (x.top.r.sl.len : Int) then A else -1) = goal (dmpOf x.g fs) (fnOf x.top.r) A := by
    have := r.hA
    unfold I64 at this
    unfold goal
    dsimp only
    rw [hcl]
    by_cases e : 0 ≤ A ∧ A < (x.top.r.code.length : Int)
    · rw [if_pos e, if_pos ⟨e.1, e.2, by omega⟩]
    · rw [if_neg e, if_neg (fun g => e ⟨g.1, g.2.1⟩)]
  refine Jn_in (Br.mk (fun ho => ?_) fun n19 => ?_)
  · have ho := beqI ho
    subst ho
    have ccl : hcell H4 ⟨x.top.p, 1, none⟩ = some (.slice x.top.r.sl.a x.top.r.sl.len x.top.r.sl.cap) := (h4.topR.row.cell 1).trans rfl
    refine Ld_int cA (Ld_sl (s := x.top.r.sl) ccl (s_jump ?_))
    rw [hgoal]
    refine Stab_1 ccl (d_cell h4 (t := { x.top with nx := goal (dmpOf x.g fs) (fnOf x.top.r) A }) (by decide) rfl rfl rfl rfl rfl rfl rfl rfl fun H' c _ _ h' => ?_)
    exact hP (res := (0, _)) ⟨h', rfl, rfl, fun _ => rfl, rfl, rfl⟩ (doesD_act rfl rfl)
  refine Jn_in (Br.mk (fun ho => ?_) fun n20 => ?_)
  · have ho := beqI ho
    subst ho
    have hv1 := r.len (n := 20) rfl rfl (m := 1) rfl
    have ccl : hcell H4 ⟨x.top.p, 1, none⟩ = some (.slice x.top.r.sl.a x.top.r.sl.len x.top.r.sl.cap) := (h4.topR.row.cell 1).trans rfl
    refine vec_rdi hl4 (j := 0) rfl (by omega) (Jn_in (Br.mk (fun hz => ?_) fun hz => ?_))
    · refine Ld_int cA (Ld_sl (s := x.top.r.sl) ccl (s_jump ?_))
      rw [hgoal]
      refine Stab_1 ccl (d_cell h4 (t := { x.top with nx := goal (dmpOf x.g fs) (fnOf x.top.r) A }) (by decide) rfl rfl rfl rfl rfl rfl rfl rfl fun H' c _ _ h' => ?_)
      refine hP (res := (0, { x.ms with top := { x.ms.top with nx := goal (dmpOf x.g fs) (fnOf x.top.r) A } })) ⟨h', rfl, rfl, fun _ => rfl, rfl, rfl⟩ ?_
      rw [doesD_act rfl rfl]
      show (0, if vs[0]! = 0 then _ else _) = _
      rw [if_pos (beqI hz)]
    · refine hP (res := (0, x.ms)) ⟨h4, rfl, rfl, fun _ => rfl, rfl, rfl⟩ ?_
      rw [doesD_act rfl rfl]
      show (0, if vs[0]! = 0 then _ else _) = _
      rw [if_neg (bneI hz)]
  refine Br.mk (fun ho => ?_) fun n21 => ?_
  · have ho := beqI ho
    subst ho
    have acc : decide (0 ≤ A ∧ A < ((fs.map fnOf).length : Int) ∧ (x.low.map DP.act).length + 1 ≤ 16) = true := acc
    have acc := of_decide_eq_true acc
    rw [List.length_map, List.length_map] at acc
    refine s_rstep h4 r.st fun H5 hU5 h5 => ?_
    have hb5 := hU5.row hr1 fun e => hr1.ne h4.run.1 (by decide) e
    refine d_call h5 hc ⟨acc.1, acc.2.1⟩ acc.2.2 hb5 (fun e => h4.lv.1.ne e hr1 (by decide) rfl) (hl4.upd hU5 fun b hb e => ?_) (by have := r.vl; omega) fun H6 ls t c h6 ht => ?_
    · have h8 := (hlc b hb).2
      have h9 := h.run.2.2
      rw [e] at h8
      omega
    · by_cases hle : x.g.st + 1 ≤ 2000
      · rw [if_pos hle]
        refine hP (res := (0, { x.ms with low := x.ms.low ++ [x.ms.top], top := ⟨(fs.map fnOf)[A.toNat]!, locals ((fs.map fnOf)[A.toNat]!) vs, [], 0⟩, steps := x.g.st + 1, since := 0 })) ⟨h6, rfl, rfl, fun _ => ?_, rfl, rfl⟩ ?_
        · show Ms.mk _ _ _ _ _ _ _ _ _ _ = Ms.mk _ _ _ _ _ _ _ _ _ _
          dsimp only
          rw [ht, List.map_append, rou_get (by omega)]; rfl
        · rw [doesD_act rfl rfl]
          show (if x.g.st + 1 ≤ 2000 then _ else _) = _
          rw [if_pos hle]
      · rw [if_neg hle]
        refine hP (res := (120, { x.ms with steps := x.g.st + 1 })) ⟨h6, rfl, rfl, fun h => (by cases h), rfl, rfl⟩ ?_
        rw [doesD_act rfl rfl]
        show (if x.g.st + 1 ≤ 2000 then _ else _) = _
        rw [if_neg hle]
  have hll := h4.lv.1.len
  simp only [List.length_map, List.length_append, List.length_singleton] at hll
  have hlow := h4.lowl
  refine Jn_in (Br.mk (fun ho => ?_) fun n22 => ?_)
  · have ho := beqI ho
    subst ho
    have hv1 := r.len (n := 22) rfl rfl (m := 1) rfl
    have acc : decide (x.ms.low ≠ []) = true := acc
    have acc : x.low ≠ [] := fun e => of_decide_eq_true acc (by simp [e])
    obtain ⟨low, t, hlt⟩ := (List.eq_nil_or_concat x.low).resolve_left acc
    rw [List.concat_eq_append] at hlt
    have hlen : x.low.length = low.length + 1 := by rw [hlt]; simp
    refine Ld_sl (s := x.g.ls) ((h4.run.1.cell 19).trans rfl) (Ld_sl (s := x.g.ls) ((h4.run.1.cell 19).trans rfl) (Lt.mk (u := ((low.length + 1 : Nat) : Int)) (by rw [wrap_i64_id] <;> omega) ?_))
    refine SlA0 (by omega) (by have := h4.lv.1.lc; omega) (by omega) ?_
    simp only [Int.toNat_natCast]
    refine St_row h4.run.1 (by simp) fun H5 hU5 _ hr5 => ?_
    have hv5 : Vec H5 TQau ⟨x.g.ls.a, low.length + 1, x.g.ls.cap⟩ (dptrs (low ++ [t])) := by
      have hv := vec_pre h4.lv.1 (n := low.length + 1) (by simp [dptrs]; omega)
      have e : (dptrs (x.low ++ [x.top])).take (low.length + 1) = dptrs (low ++ [t]) := by
        rw [hlt, dptrs, List.map_append]; exact List.take_left' (by simp)
      rw [e] at hv
      exact hv.upd hU5 fun b hb e => h4.lv.1.ne hb h4.run.1 (by decide) e
    have hr5 : Row H5 x.b TQa0 (drunV { x.g with ls := ⟨x.g.ls.a, low.length + 1, x.g.ls.cap⟩ }) := hr5
    have h5 := h4.ret hlt hU5 hr5 hv5 rfl
    have hl5 := hl4.upd hU5 fun b hb e => by
      have h8 := (hlc b hb).2
      have h9 := h.run.2.2
      rw [e] at h8
      omega
    have hr5 := h5.run.1
    refine Ld_sl (s := ⟨x.g.ls.a, low.length + 1, x.g.ls.cap⟩) ((hr5.cell 19).trans rfl) (Ld_sl (s := ⟨x.g.ls.a, low.length + 1, x.g.ls.cap⟩) ((hr5.cell 19).trans rfl) (Lt.mk (u := ((low.length : Nat) : Int)) (by dsimp only; rw [wrap_i64_id] <;> omega) ?_))
    refine IxA_vec hv5 (by omega) (by simp [dptrs]; omega) fun a ha _ => Ld_ptr (n := some (adr t.p)) (ha.trans ?_) ?_
    · rw [Int.toNat_natCast, dptrs, List.map_append, List.getElem?_append_right (by simp)]
      simp
    simp only [NilCk_some, adr_add]
    have cst : hcell H5 ⟨t.p, 3, none⟩ = some (.slice t.ss.a t.ss.len t.ss.cap) := (h5.topR.row.cell 3).trans rfl
    refine Ld_sl (s := t.ss) cst (IxA_vec hl5 (by omega) (by rw [List.length_map]; omega) fun a ha hab => Ld_int (n := vs[0]!) (ha.trans (ints_at (i := 0) (by omega))) ?_)
    have ca : hcell H5 a = some (.int .i64 vs[0]!) := ha.trans (ints_at (i := 0) (by omega))
    have htm : t ∈ x.low := by rw [hlt]; simp
    refine d_push h5 (r.low t htm) (fun y hy => ?_) (fun y hy => ?_) fun H6 ss c h6 => ?_
    · rw [List.mem_singleton.1 hy]; exact cst
    · rw [List.mem_singleton.1 hy]
      refine ⟨ca, fun e => ?_⟩
      obtain ⟨b, hb, rfl⟩ := hab
      have := h5.topI b (.inr (.inr e))
      have h9 := (hlc b hb).2
      have := this.2
      dsimp only at this
      omega
    · refine hP (res := (0, _)) ⟨h6, rfl, rfl, fun _ => ?_, rfl, rfl⟩ (doesD_act rfl rfl)
      show Ms.mk _ _ _ _ _ _ _ _ _ _ = Ms.mk _ _ _ _ _ _ _ _ _ _
      have e : x.ms.low = low.map DP.act ++ [t.act] := by show x.low.map DP.act = _; rw [hlt]; simp
      dsimp only
      rw [show List.map DP.act x.low = low.map DP.act ++ [t.act] from e, List.dropLast_concat, List.getLast!_eq_getLast?_getD, List.getLast?_concat]
      rfl
  refine Jn_in (Br.mk (fun ho => ?_) fun n23 => ?_)
  · have ho := beqI ho
    subst ho
    refine St_row h4.run.1 (by simp) fun H5 hU5 _ hr5 => ?_
    have hr5 : Row H5 x.b TQa0 (drunV { x.g with ov := true }) := hr5
    exact hP (res := (0, _)) ⟨h4.num (ov := true) hU5 hr5, rfl, rfl, fun _ => rfl, rfl, rfl⟩ (doesD_act rfl rfl)
  refine Br.mk (fun ho => ?_) fun n24 => ?_
  · have ho := beqI ho
    subst ho
    refine s_rstep h4 r.st fun H5 hU5 h5 => ?_
    by_cases hle : x.g.st + 1 ≤ 2000
    · rw [if_pos hle]
      refine hP (res := (0, { x.ms with steps := x.g.st + 1, since := 0 })) ⟨h5, rfl, rfl, fun _ => rfl, rfl, rfl⟩ ?_
      rw [doesD_act rfl rfl]
      show (if x.g.st + 1 ≤ 2000 then _ else _) = _
      rw [if_pos hle]
    · rw [if_neg hle]
      refine hP (res := (120, { x.ms with steps := x.g.st + 1 })) ⟨h5, rfl, rfl, fun h => (by cases h), rfl, rfl⟩ ?_
      rw [doesD_act rfl rfl]
      show (if x.g.st + 1 ≤ 2000 then _ else _) = _
      rw [if_neg hle]
  have nb : ∀ {s : Sl} {b0 : Nat}, (∀ b, s.a = some (adr b) → b < H.size) → H.size ≤ b0 → s.a ≠ some (adr b0) := fun hs hb e => by have := hs _ e; omega
  refine Jn_in (Br.mk (fun ho => ?_) fun n25 => ?_)
  · have ho := beqI ho
    subst ho
    have hv1 := r.len (n := 25) rfl rfl (m := 2) rfl
    have ce : hcell H4 ⟨x.b, 25, none⟩ = some (.slice x.g.es.a x.g.es.len x.g.es.cap) := (h4.run.1.cell 25).trans rfl
    have cn : hcell H4 ⟨x.b, 10, none⟩ = some (.int .i64 x.g.n) := (h4.run.1.cell 10).trans rfl
    refine Ld_sl (s := x.g.es) ce (Ld_int (n := x.g.n) cn ⟨(x.g.ix, x.g.gn), cE, ?_⟩)
    refine IxA_vec hl4 (by omega) (by rw [List.length_map]; omega) fun a ha hab => ?_
    have ca : hcell H4 a = some (.int .i64 vs[0]!) := ha.trans (ints_at (i := 0) (by omega))
    refine Ld_int (n := vs[0]!) ca (IxA_vec hl4 (by omega) (by rw [List.length_map]; omega) fun a' ha' hab' => ?_)
    have ca' : hcell H4 a' = some (.int .i64 vs[1]!) := ha'.trans (ints_at (i := 1) (by omega))
    refine Ld_int (n := vs[1]!) ca' ?_
    refine d_event h4 r.ev (q := ⟨x.g.n, (x.g.ix, x.g.gn), vs[0]!, vs[1]!⟩) (fun y hy => ?_) (fun y hy => ?_) fun H5 es c h5 => ?_
    · simp only [List.mem_cons, List.not_mem_nil, or_false] at hy
      rcases hy with rfl | rfl | rfl | rfl | rfl | rfl
      · exact ca'
      · exact ca
      · exact c20
      · exact c21
      · exact cn
      · exact ce
    · obtain ⟨b, hb, rfl⟩ := hab
      obtain ⟨b', hb', rfl⟩ := hab'
      simp only [List.mem_cons, List.not_mem_nil, or_false] at hy
      rcases hy with rfl | rfl | rfl | rfl | rfl
      · exact ⟨ca', hnl h.ev.2 (by decide) hb'⟩
      · exact ⟨ca, hnl h.ev.2 (by decide) hb⟩
      · exact ⟨c20, nb (fun b hb => h.ev.1.lt hb) (by dsimp only; omega)⟩
      · exact ⟨c21, nb (fun b hb => h.ev.1.lt hb) (by dsimp only; omega)⟩
      · exact ⟨cn, fun e => h4.ev.1.ne e h4.run.1 (by decide) rfl⟩
    · exact hP (res := (0, _)) ⟨h5, rfl, rfl, fun _ => rfl, rfl, rfl⟩ (doesD_act rfl rfl)
  refine Jn_in (Br.mk (fun ho => ?_) fun n26 => ?_)
  · have ho := beqI ho
    subst ho
    have acc : (decide (0 ≤ A) && isKindB (A / 8) && decide ((x.kp.map PtP.pt).length < 12)) = true := acc
    simp only [Bool.and_eq_true, decide_eq_true_eq] at acc
    have ck : hcell H4 ⟨x.b, 22, none⟩ = some (.slice x.g.ks.a x.g.ks.len x.g.ks.cap) := (h4.run.1.cell 22).trans rfl
    refine Ld_sl (s := x.g.ks) ck (Ld_int cA ⟨by decide, ?_⟩)
    rw [tdiv8 acc.1.1 r.hA]
    refine d_keep h4 r.kp (q := ⟨A / 8, l, vs⟩) hl4 hlc (fun y hy => ?_) (fun y hy => ?_) fun H5 ks c h5 => ?_
    · simp only [List.mem_cons, List.not_mem_nil, or_false] at hy
      rcases hy with rfl | rfl
      · exact cA
      · exact ck
    · rw [List.mem_singleton.1 hy]
      exact ⟨cA, nb (fun b hb => h.kv.1.lt hb) (by dsimp only; omega)⟩
    · refine hP (res := (0, _)) ⟨h5, rfl, rfl, fun _ => ?_, rfl, rfl⟩ (doesD_act rfl rfl)
      show Ms.mk _ _ _ _ _ _ _ _ _ _ = Ms.mk _ _ _ _ _ _ _ _ _ _
      simp
  have ccs : hcell H4 ⟨x.b, 24, none⟩ = some (.slice x.g.cs.a x.g.cs.len x.g.cs.cap) := (h4.run.1.cell 24).trans rfl
  refine Jn_in (Br.mk (fun ho => ?_) fun n27 => ?_)
  · have ho := beqI ho
    subst ho
    have ck : hcell H4 ⟨x.b, 22, none⟩ = some (.slice x.g.ks.a x.g.ks.len x.g.ks.cap) := (h4.run.1.cell 22).trans rfl
    refine Ld_sl (s := x.g.cs) ccs (Ld_sl (s := x.g.ks) ck (s_rising h4.kv.1 r.kp r.kpK fun H5 ps hE5 hv5 hn5 => Stab_1 (hE5.cell ccs fun h => h) ?_))
    have hp : (risK PtP.kind x.kp).Perm x.kp := risN_perm 13 x.kp fun p hp => by have := r.kpK p hp; omega
    refine Nw_row (vs := cmV (spawned ps (risK PtP.kind x.kp))) fun b6 H6 hb6 hE6 _ hr6 => ?_
    have hE46 := hE5.trans hE6 fun _ _ h => h
    refine Stab_2 (hE46.cell ck fun h => h) (hE46.cell ccs fun h => h) ?_
    have h6 := h4.ext hE46
    have hlen := h6.cv.1.len
    rw [flat_len cmV_len] at hlen
    have hcll := r.cl
    refine App_vecN (ws := cmV (spawned ps (risK PtP.kind x.kp))) rfl (by decide) h6.cv.1 hr6.rd_all rfl (cmV_one _) (by decide) (by dsimp only; omega) fun cs H7 hv7 hl7 hU7 ha7 => ?_
    have hrun7 := hU7.row h6.run.1 fun e => h6.cv.1.ne e.1 h6.run.1 (by decide) rfl
    refine Stab_1 ((hrun7.cell 22).trans rfl) ?_
    refine St_row hrun7 (by simp) fun H8 hU8 _ hr8 => St_row hr8 (by simp) fun H9 hU9 _ hr9 => ?_
    have hU69 : Upd (fun b => x.g.cs.a = some (adr b) ∨ b = x.b) H6 H9 := ((hU7.mono fun b _ e => .inl e.1).trans hU8 fun _ _ e => .inr e).trans hU9 fun _ _ e => .inr e
    have hr9 : Row H9 x.b TQa0 (drunV { x.g with cs := cs, ks := ⟨none, 0, 0⟩ }) := hr9
    have h9 := h4.spawn (cs := cs) (ps := ps) hp ((hE46.mono fun _ _ h => h.elim).trans hU69 fun _ _ e => e) hr9 ((hv5.ext hE6).upd hU69 fun b hb e => by
        have := hn5 b hb
        rcases e with e | e
        · have := h4.cv.1.lt e; omega
        · have := h4.run.1.lt; omega) hn5 (by
      have := (hv7.upd hU8 fun b hb e => hv7.ne hb hrun7 (by decide) e).upd hU9 fun b hb e => hv7.ne hb hrun7 (by decide) e
      simpa using this) (ha7.imp (fun e => e.1) fun e => ⟨_, e, hE46.size⟩)
    refine hP (res := (0, _)) ⟨h9, rfl, rfl, fun _ => ?_, rfl, rfl⟩ (doesD_act rfl rfl)
    show Ms.mk _ _ _ _ _ _ _ _ _ _ = Ms.mk _ _ _ _ _ _ _ _ _ _
    have e : rise (x.kp.map PtP.pt) = (risK PtP.kind x.kp).map PtP.pt := by
      rw [rise_eq]; exact (risN_map PtP.pt (fun _ => rfl) x.kp 13).symm
    dsimp only
    rw [e]; simp
  refine Jn_in (Br.mk (fun ho => ?_) fun n28 => ?_)
  · have ho := beqI ho
    subst ho
    have acc : (decide (0 ≤ A) && isKindB (A / 8)) = true := acc
    simp only [Bool.and_eq_true, decide_eq_true_eq] at acc
    refine Ld_sl (s := x.g.cs) ccs ⟨(x.g.ix, x.g.gn), cE, Ld_int cA ⟨by decide, ?_⟩⟩
    rw [tdiv8 acc.1 r.hA]
    refine d_cmd h4 r.cl (q := ⟨3, (x.g.ix, x.g.gn), A / 8, l, vs, ⟨none, 0, 0⟩, []⟩) hl4 hlc rfl rfl (fun y hy => ?_) (fun y hy => ?_) fun H5 cs c h5 => ?_
    · simp only [List.mem_cons, List.not_mem_nil, or_false] at hy
      rcases hy with rfl | rfl | rfl | rfl
      · exact cA
      · exact c20
      · exact c21
      · exact ccs
    · simp only [List.mem_cons, List.not_mem_nil, or_false] at hy
      rcases hy with rfl | rfl | rfl
      · exact ⟨cA, nb (fun b hb => h.cv.1.lt hb) (by dsimp only; omega)⟩
      · exact ⟨c20, nb (fun b hb => h.cv.1.lt hb) (by dsimp only; omega)⟩
      · exact ⟨c21, nb (fun b hb => h.cv.1.lt hb) (by dsimp only; omega)⟩
    · refine hP (res := (0, _)) ⟨h5, rfl, rfl, fun _ => ?_, rfl, rfl⟩ (doesD_act rfl rfl)
      show Ms.mk _ _ _ _ _ _ _ _ _ _ = Ms.mk _ _ _ _ _ _ _ _ _ _
      simp
  have hnilc : ∀ {H' : Heap}, Vec H' TQaq ⟨none, 0, 0⟩ (ints []) := Vec.nil _ _
  have hnils : IsS x.c H0.size 999 ⟨none, 0, 0⟩ := fun b hb => by cases hb
  refine Jn_in (Br.mk (fun ho => ?_) fun n29 => ?_)
  · have ho := beqI ho
    subst ho
    refine Ld_sl (s := x.g.cs) ccs ⟨(x.g.ix, x.g.gn), cE, Ld_int cA ?_⟩
    refine d_cmd h4 r.cl (q := ⟨4, (x.g.ix, x.g.gn), A, ⟨none, 0, 0⟩, [], ⟨none, 0, 0⟩, []⟩) hnilc hnils rfl rfl (fun y hy => ?_) (fun y hy => ?_) fun H5 cs c h5 => ?_
    · simp only [List.mem_cons, List.not_mem_nil, or_false] at hy
      rcases hy with rfl | rfl | rfl | rfl
      · exact cA
      · exact c20
      · exact c21
      · exact ccs
    · simp only [List.mem_cons, List.not_mem_nil, or_false] at hy
      rcases hy with rfl | rfl | rfl
      · exact ⟨cA, nb (fun b hb => h.cv.1.lt hb) (by dsimp only; omega)⟩
      · exact ⟨c20, nb (fun b hb => h.cv.1.lt hb) (by dsimp only; omega)⟩
      · exact ⟨c21, nb (fun b hb => h.cv.1.lt hb) (by dsimp only; omega)⟩
    · refine hP (res := (0, _)) ⟨h5, rfl, rfl, fun _ => ?_, rfl, rfl⟩ (doesD_act rfl rfl)
      show Ms.mk _ _ _ _ _ _ _ _ _ _ = Ms.mk _ _ _ _ _ _ _ _ _ _
      simp
  refine Jn_in (Br.mk (fun ho => ?_) fun n30 => ?_)
  · have ho := beqI ho
    subst ho
    refine Ld_sl (s := x.g.cs) ccs ⟨(x.g.ix, x.g.gn), cE, ?_⟩
    refine d_cmd h4 r.cl (q := ⟨2, (x.g.ix, x.g.gn), 0, ⟨none, 0, 0⟩, [], ⟨none, 0, 0⟩, []⟩) hnilc hnils rfl rfl (fun y hy => ?_) (fun y hy => ?_) fun H5 cs c h5 => ?_
    · simp only [List.mem_cons, List.not_mem_nil, or_false] at hy
      rcases hy with rfl | rfl | rfl
      · exact c20
      · exact c21
      · exact ccs
    · simp only [List.mem_cons, List.not_mem_nil, or_false] at hy
      rcases hy with rfl | rfl
      · exact ⟨c20, nb (fun b hb => h.cv.1.lt hb) (by dsimp only; omega)⟩
      · exact ⟨c21, nb (fun b hb => h.cv.1.lt hb) (by dsimp only; omega)⟩
    · refine hP (res := (0, _)) ⟨h5, rfl, rfl, fun _ => ?_, rfl, rfl⟩ (doesD_act rfl rfl)
      show Ms.mk _ _ _ _ _ _ _ _ _ _ = Ms.mk _ _ _ _ _ _ _ _ _ _
      simp
  refine Jn_in (Br.mk (fun ho => ?_) fun n39 => ?_)
  · have ho := beqI ho
    subst ho
    exact hP (res := (0, _)) ⟨h4, rfl, rfl, fun _ => rfl, rfl, rfl⟩ (doesD_act rfl rfl)
  have n3 := bneI n3; have n5 := bneI n5; have n19 := bneI n19; have n20 := bneI n20; have n21 := bneI n21; have n22 := bneI n22; have n23 := bneI n23; have n24 := bneI n24
  have n25 := bneI n25; have n26 := bneI n26; have n27 := bneI n27; have n28 := bneI n28; have n29 := bneI n29; have n30 := bneI n30; have n39 := bneI n39
  have hop := r.hop
  have hin : isBin op = true ∨ isUn op = true ∨ op = 1 ∨ op = 2 ∨ op = 4 ∨ (31 ≤ op ∧ op ≤ 35) := by
    unfold isBin isUn
    simp only [List.contains_cons, List.contains_nil, Bool.or_false, Bool.or_eq_true, beq_iff_eq]
    omega
  have cst : hcell H4 ⟨x.top.p, 3, none⟩ = some (.slice x.top.ss.a x.top.ss.len x.top.ss.cap) := (h4.topR.row.cell 3).trans rfl
  refine Ld_sl (s := x.top.ss) cst ⟨(op, A), ⟨co, cA, trivial⟩, ?_⟩
  refine s_answer h4 hc r.es r.hop r.hA hin hl4 r.hvl r.v64 r.m r.dice fun H5 v d hU5 h5 hd5 => ?_
  have cst5 : hcell H5 ⟨x.top.p, 3, none⟩ = some (.slice x.top.ss.a x.top.ss.len x.top.ss.cap) := (h5.topR.row.cell 3).trans rfl
  have hb5 := hU5.row hr1 fun e => hr1.ne h4.dice.1 (by decide) e
  have hnb : x.top.ss.a ≠ some (adr b1) := fun e => h4.topR.stk.ne e hr1 (by decide) rfl
  refine Stab_1 cst5 (d_push h5 r.stk (fun y hy => ?_) (fun y hy => ?_) fun H6 ss c h6 => ?_)
  · simp only [List.mem_cons, List.not_mem_nil, or_false] at hy
    rcases hy with rfl | rfl | rfl
    · exact (hb5.cell 0).trans rfl
    · exact (hb5.cell 1).trans rfl
    · exact cst5
  · simp only [List.mem_cons, List.not_mem_nil, or_false] at hy
    rcases hy with rfl | rfl
    · exact ⟨(hb5.cell 0).trans rfl, hnb⟩
    · exact ⟨(hb5.cell 1).trans rfl, hnb⟩
  · exact hP (res := (0, _)) ⟨h6, rfl, rfl, fun _ => rfl, rfl, rfl⟩ hd5
end
end Go.Proofs.YtfpmgpblhhcpgaaGreat
