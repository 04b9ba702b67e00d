/-
  The document's depths.
-/
import Derived.Test.YtlkmmplgfjicjaaGreatVI
import Derived.Test.YtlkmmplgfjicjaaGreatVN
import Derived.Test.YtlkmmplgfjicjaaGreatWG
import Derived.Test.YtlkmmplgfjicjaaGreatHcLawB
namespace Go.Proofs.YtlkmmplgfjicjaaGreat
set_option linter.unusedVariables false
set_option linter.unusedSimpArgs false
open Go.Proofs.YtlkmmplgfjicjaaGreat.Hc Go.Proofs.YtlkmmplgfjicjaaGreat.Hc.Vf
set_option maxRecDepth 100000
variable {H : Heap}

theorem ints_sn {xs : List Int} {x : Int} : ints xs ++ [.int .i64 x] = ints (xs ++ [x]) := by simp [ints]
/-- What the document's Depths gives out. -/
def DepRef (H : Heap) (c : List Ins) (ps : List Int) (q : Sl × Int × Int) : Prop :=
  match depthsS c ps with
  | .ok xs => q.2 = (0, 0) ∧ Vec H T_int q.1 (ints xs)
  | .error (a, e) => q = (⟨none, 0, 0⟩, ((a : Nat) : Int), ((e : Nat) : Int))
theorem mk_line {B : List Bool} {n m : Nat} (hB : B.length = m * 65) (hn : n < m) (d : Nat) : ((B.drop (n * 65)).take 65)[d]? = some true ↔ mk' B n d := by
  unfold mk'
  rw [List.getElem?_take, List.getElem?_drop]
  by_cases h : d < 65
  · rw [if_pos h]; exact ⟨fun g => ⟨by omega, g⟩, fun g => g.2⟩
  · rw [if_neg h]; exact ⟨fun g => (by cases g), fun g => (by omega)⟩
theorem s_rline2 {bt n m : Nat} {B : List Bool} {r1 : Sl} {H5 : Heap} {c : List Ins} {ps : List Int} {k : Int × Int → Heap → Prop} (hr1 : r1 = ⟨some (adr bt), m, m⟩) (hn : n < m) (hm2 : m ≤ 2000) (hrow : Row H5 bt T_65_bool (boolsV B)) (hBl : B.length = m * 65) (hB : ∀ i d, mk' B i d ↔ Rch c ps i d)
    (hk : ∀ x y : Int, ((∀ d, ¬ Rch c ps n d) ∧ x = -1 ∨ ∃ d : Nat, x = d ∧ Rch c ps n d) → k (x, y) H5) :
    LoopT (σ := Int × Int) (fun next2 s2 H5 =>
              Br (decide (s2.2 ≥ 0)) (
                Jn (σ := Int) (fun kk1 =>
                  IxA 65 r1 (n : Nat) fun a1 =>
                  IxR 1 65 a1 s2.2 fun a2 =>
                  Ld .bool a2 H5 fun (x3 : Bool) =>
                  Jn (σ := Int) (fun kk2 =>
                    Br x3 (
                      kk2 s2.2 H5) (
                      kk2 s2.1 H5)) fun j2 H7 =>
                  kk1 j2 H7) fun j1 H6 =>
                Lt (IntKind.wrap .i64 (s2.2 - 1)) fun t1 =>
                next2 (j1, t1) H6) (
                k s2 H5)) (-1, 64) H5 := by
  subst hr1
  refine LoopT.mk (fun (st : Int × Int) H' => H5 = H' ∧ ∃ q : Nat, st.2 = (q : Int) - 1 ∧ q ≤ 65 ∧ ((∀ d, q ≤ d → ¬ Rch c ps n d) ∧ st.1 = -1 ∨ ∃ d : Nat, st.1 = d ∧ Rch c ps n d)) (fun st _ => (st.2 + 1).toNat) ⟨rfl, 65, rfl, by omega, .inl ⟨fun d hd hR => by have := ((hB n d).2 hR).1; omega, rfl⟩⟩ ?_
  rintro next ⟨a, _⟩ _ ⟨rfl, q, rfl, hq, hI⟩ hnext
  dsimp only at hI ⊢
  refine Br_dec (fun hge => Jn_in ?_) fun hlt => ?_
  · obtain ⟨p, rfl⟩ : ∃ p, q = p + 1 := ⟨q - 1, by omega⟩
    have e1 : (((p + 1 : Nat) : Int) - 1) = (p : Nat) := by omega
    rw [e1]
    have hlt2 : n * 65 + p < B.length := by rw [hBl]; omega
    refine tab_adr hn (by omega) (Ld_bool (n := B[n * 65 + p]) (by rw [hrow.cell, List.getElem?_map, List.getElem?_eq_getElem hlt2]; rfl) ?_)
    have hx : B[n * 65 + p] = true ↔ Rch c ps n p := by
      rw [← hB]
      unfold mk'
      rw [List.getElem?_eq_getElem hlt2]
      simp; omega
    generalize B[n * 65 + p] = x at hx
    refine Jn_in (Br.mk (fun h => ?_) fun h => ?_)
    · exact Lt.mk (u := (p : Int) - 1) (by rw [wrap_i64_id] <;> omega) (hnext _ _ ⟨rfl, p, rfl, by omega, .inr ⟨p, rfl, hx.1 h⟩⟩ (by dsimp only; omega))
    · refine Lt.mk (u := (p : Int) - 1) (by rw [wrap_i64_id] <;> omega) (hnext _ _ ⟨rfl, p, rfl, by omega, hI.imp (fun g => ⟨fun d hd hR => ?_, g.2⟩) id⟩ (by dsimp only; omega))
      rcases Nat.lt_or_ge p d with g2 | g2
      · exact g.1 d g2 hR
      · have : d = p := by omega
        subst this
        rw [hx.2 hR] at h; cases h
  · have hq0 : q = 0 := by omega
    subst hq0
    exact hk a _ (hI.imp (fun g => ⟨fun d => g.1 d (Nat.zero_le _), g.2⟩) id)
theorem s_rDepths {p : Sl × Sl} {r : Rou} {fs : List Rou} (hr : CodeR H r) (hf : RN rouV 4 H p.2 fs) (hI : ∀ x ∈ parms fs, I64 x) {k : Sl × Int × Int → Heap → Prop}
    (hk : ∀ q H', Ext H H' → DepRef H' r.code (parms fs) q → (∀ b, q.1.a = some (adr b) → H.size ≤ b) → k q H') : CallT Pg f_hindcastref15_Depths [prgA p, rouA r] (.tup [(.c .sl), (.c (.int .i64)), (.c (.int .i64))]) H k := by
  refine c_hindcastref15_Depths p (r.name, r.params, r.locals, r.sl) ?_
  unfold v_hindcastref15_Depths
  refine Nw_row (vs := [slV p.1, slV p.2]) fun b1 H1 hb1 hE1 hz1 hrow1 => Nw_row (vs := rouV r) fun b2 H2 hb2 hE2 hz2 hrow2 => ?_
  simp only [adr_add]
  have hE2' := hE1.trans hE2 fun _ _ h => h
  have hrow12 := hE2.row hrow1 fun h => h
  have hcl := hr.len
  have z2 := hE2'.size
  refine Ld_sl (s := r.sl) ((hrow2.cell 3).trans rfl) ?_
  refine Br_dec (fun hbig => hk _ _ hE2' ?_ fun b hb => by cases hb) fun hsm => Br.mk (fun h0 => hk _ _ hE2' ?_ fun b hb => by cases hb) fun h0 => ?_
  · unfold DepRef depthsS; rw [if_pos (by omega)]; rfl
  · have h0 := beqI h0
    unfold DepRef depthsS; rw [if_neg (by omega), if_pos (by omega)]; rfl
  have h0 := bneI h0
  have hn2 : r.code.length ≤ 2000 := by omega
  refine Ld_sl (s := p.2) ((hrow12.cell 1).trans rfl) (s_reached (hr.ext hE2') (hf.ext hE2') hI (by omega) hn2 fun bt B H3 hE3 hbt hrt hBl hBR => ?_)
  have hE3' := hE2'.trans hE3 fun _ _ h => h
  have z3 := hE3'.size
  refine LoopT.mk (fun (st : Sl × Int) H' => ∃ n : Nat, st.2 = n ∧ n ≤ r.code.length ∧ Vec H' T_int st.1 (ints ((List.range n).map (depI r.code (parms fs)))) ∧ (∀ b, st.1.a = some (adr b) → H3.size ≤ b) ∧ Ext H3 H' ∧ ∀ j, j < n → badP r.code (parms fs) j = false) (fun st _ => r.code.length - st.2.toNat)
    ⟨0, rfl, Nat.zero_le _, Vec.nil _ _, (fun b hb => by cases hb), .refl _ _, fun j hj => by omega⟩ ?_
  rintro next ⟨s, _⟩ H4 ⟨n, rfl, hn, hv, hsb, hE4, hno⟩ hnext
  dsimp only at hv hsb ⊢
  refine Br_dec (fun hlt => ?_) fun hge => ?_
  · have hn3 : n < r.code.length := by omega
    have hE4' := hE3'.trans hE4 fun _ _ h => h
    have hrt4 := hE4.row hrt fun h => h
    refine s_rline2 rfl hn3 hn2 hrt4 hBl hBR fun x _ hx => ?_
    dsimp only
    refine Jn.mk (fun _ H' => Ext H4 H' ∧ x = depI r.code (parms fs) n ∧ badP r.code (parms fs) n = false) (fun kk hkk => ?_) ?_
    · refine Br_dec (fun hx0 => ?_) fun hx0 => ?_
      · rcases hx with ⟨_, rfl⟩ | ⟨d, rfl, hR⟩
        · omega
        have hw65 : ((B.drop (n * 65)).take 65).length = 65 := by rw [List.length_take, List.length_drop]; omega
        refine IxA_adr (by omega) (by omega) ⟨boolsV ((B.drop (n * 65)).take 65), by simpa using hw65, hcells_iff.2 fun j hj => ?_, ?_⟩
        · rw [List.length_map, hw65] at hj
          rw [Int.toNat_natCast, mk_add, hrt4.cell, List.getElem?_map, List.getElem?_map, List.getElem?_take, if_pos hj, List.getElem?_drop, Nat.zero_add]
        have hp5 : hcell H4 ⟨b1, 1, none⟩ = some (slV p.2) := ((hE4.row (hE3.row hrow12 fun h => h) fun h => h).cell 1).trans rfl
        refine Ld_sl (s := p.2) hp5 (s_rwrong (w := (B.drop (n * 65)).take 65) rfl hw65 (fun d => (mk_line hBl hn3 d).trans (hBR n d)) (hr.ext hE4') (hf.ext hE4') hI hn3 hn2 fun H9 hE9 => ?_)
        by_cases hw : wr r.code (parms fs) n = 0
        · rw [hw]
          refine hkk _ _ ⟨hE9, (depI_of hR fun e he => ?_).symm, badP_false fun h => h.2 hw⟩
          refine Classical.byContradiction fun hne => ?_
          unfold wr at hw
          split at hw
          · cases hw
          · split at hw
            · cases hw
            · rename_i h2
              exact h2 (.inr ⟨e, d, he, hR, hne⟩)
        · rw [show ((((wr r.code (parms fs) n : Nat)) : Int) != 0) = true by rw [bne_iff_ne]; omega, Br_true]
          refine hk _ _ (hE4'.trans hE9 fun _ _ h => h) ?_ fun b hb => by cases hb
          have : (List.range r.code.length).find? (badP r.code (parms fs)) = some n := by
            rw [List.find?_range_eq_some]
            exact ⟨badP_true ⟨⟨d, hR⟩, hw⟩, List.mem_range.2 hn3, fun j hj => by rw [hno j hj]; rfl⟩
          unfold DepRef depthsS
          rw [if_neg (by omega), if_neg (by omega), this]
      · rcases hx with ⟨hx1, rfl⟩ | ⟨d, rfl, _⟩
        · exact hkk _ _ ⟨.refl _ _, (depI_none hx1).symm, badP_false fun ⟨⟨d, hd⟩, _⟩ => hx1 d hd⟩
        · omega
    rintro _ H8 ⟨hE8, hxd, hbf⟩
    refine Nw_row (vs := [.int .i64 x]) fun b3 H10 hb3 hE10 hz10 hr3 => ?_
    refine App_vec ((hv.ext hE8).ext hE10) (ws := [.int .i64 x]) hr3.rd_all rfl (by simp [Value.oneCell']) (by omega) (by simp [ints]; omega) fun l1 H11 hv11 hU11 ha11 _ => ?_
    refine Lt.mk (u := ((n + 1 : Nat) : Int)) (by rw [wrap_i64_id] <;> omega) (hnext _ _ ⟨n + 1, rfl, hn3, ?_, fun b hb => ?_, ?_, fun j hj => ?_⟩ (by dsimp only; omega))
    · rw [List.range_succ, List.map_append, List.map_singleton, ← hxd, ← ints_sn]; exact hv11
    · rcases ha11 with e | e
      · rw [e] at hb; exact hsb b hb
      · rw [e] at hb; cases hb
        have := hE4.size; have := hE8.size; have := hE10.size; omega
    · refine ((hE4.trans hE8 fun _ _ h => h).trans hE10 fun _ _ h => h).trans hU11 fun b hb ⟨h1, _⟩ => ?_
      have := hsb b h1; omega
    · rcases Nat.lt_or_ge j n with e | e
      · exact hno j e
      · have : j = n := by omega
        subst this; exact hbf
  · have hne : n = r.code.length := by omega
    subst hne
    refine hk _ _ (hE3'.trans hE4 fun _ _ h => h) ?_ fun b hb => by have := hsb b hb; omega
    have : (List.range r.code.length).find? (badP r.code (parms fs)) = none := by
      rw [List.find?_range_eq_none]
      intro j hj
      rw [hno j hj]; rfl
    unfold DepRef depthsS
    rw [if_neg (by omega), if_neg (by omega), this]
    exact ⟨rfl, hv⟩
end Go.Proofs.YtlkmmplgfjicjaaGreat
/-
  The document's search: loops and rounds.
-/
namespace Go.Proofs.YtlkmmplgfjicjaaGreat
set_option linter.unusedVariables false
set_option linter.unusedSimpArgs false
open Go.Proofs.YtlkmmplgfjicjaaGreat.Hc Go.Proofs.YtlkmmplgfjicjaaGreat.Hc.Vf
set_option maxRecDepth 100000
variable {H : Heap}

/-- What a search for a way back to a keeps. -/
structure QInv (R : Nat → Nat → Prop) (a : Nat) (seen todo : Nat → Prop) : Prop where
  way : ∀ y, seen y → Relation.TransGen R a y
  here : ∀ y, todo y → y = a ∨ seen y
  done : ∀ x, (x = a ∨ seen x) → todo x ∨ ∀ y, R x y → y ≠ a ∧ seen y
structure QMid (R : Nat → Nat → Prop) (a k : Nat) (seen todo : Nat → Prop) : Prop where
  way : ∀ y, seen y → Relation.TransGen R a y
  here : ∀ y, todo y → y = a ∨ seen y
  from' : k = a ∨ Relation.TransGen R a k
  done : ∀ x, (x = a ∨ seen x) → todo x ∨ x = k ∨ ∀ y, R x y → y ≠ a ∧ seen y
variable {R : Nat → Nat → Prop} {a k : Nat} {seen todo seen' todo' : Nat → Prop}
theorem QInv.no (h : QInv R a seen todo) (h0 : ∀ x, ¬ todo x) : ¬ Relation.TransGen R a a := by
  have key : ∀ y, Relation.TransGen R a y → y ≠ a ∧ seen y := by
    intro y hw
    induction hw with
    | single s => exact ((h.done _ (.inl rfl)).resolve_left (h0 _)) _ s
    | tail w s ih => exact ((h.done _ (.inr ih.2)).resolve_left (h0 _)) _ s
  exact fun hw => (key a hw).1 rfl
theorem QInv.mid (h : QInv R a seen todo) (hk : todo k) (ht : ∀ x, todo x ↔ todo' x ∨ x = k) : QMid R a k seen todo' := by
  refine ⟨h.way, fun y hy => h.here y ((ht y).2 (.inl hy)), (h.here k hk).imp id (h.way k), fun x hx => ?_⟩
  rcases h.done x hx with g | g
  · rcases (ht x).1 g with g | g
    · exact .inl g
    · exact .inr (.inl g)
  · exact .inr (.inr g)
theorem QMid.end' (h : QMid R a k seen todo) (hk : ∀ y, R k y → y ≠ a ∧ seen y) : QInv R a seen todo := by
  refine ⟨h.way, h.here, fun x hx => ?_⟩
  rcases h.done x hx with g | rfl | g
  · exact .inl g
  · exact .inr hk
  · exact .inr g
theorem QMid.one (h : QMid R a k seen todo) {y : Nat} (hs : R k y) : Relation.TransGen R a y := by
  rcases h.from' with rfl | g
  · exact .single hs
  · exact .tail g hs
theorem QMid.add (h : QMid R a k seen todo) {n : Nat} (hs : R k n) (h1 : ∀ y, seen' y ↔ seen y ∨ y = n) (h2 : ∀ y, todo' y ↔ todo y ∨ y = n) : QMid R a k seen' todo' := by
  refine ⟨fun y hy => ?_, fun y hy => ?_, h.from', fun x hx => ?_⟩
  · rcases (h1 y).1 hy with g | rfl
    · exact h.way y g
    · exact h.one hs
  · rcases (h2 y).1 hy with g | rfl
    · exact (h.here y g).imp id fun g => (h1 y).2 (.inl g)
    · exact .inr ((h1 _).2 (.inr rfl))
  · have key : (x = a ∨ seen x) → todo' x ∨ x = k ∨ ∀ y, R x y → y ≠ a ∧ seen' y := fun hx => by
      rcases h.done x hx with g | g | g
      · exact .inl ((h2 x).2 (.inl g))
      · exact .inr (.inl g)
      · exact .inr (.inr fun y hy => ⟨(g y hy).1, (h1 y).2 (.inl (g y hy).2)⟩)
    rcases hx with g | g
    · exact key (.inl g)
    · rcases (h1 x).1 g with g | rfl
      · exact key (.inr g)
      · exact .inl ((h2 _).2 (.inr rfl))
theorem way_trans {c : List Ins} {ps : List Int} {x y : Nat} : WayI c ps x y ↔ Relation.TransGen (StepI c ps) x y := by
  constructor
  · intro h
    induction h with
    | one s => exact .single s
    | more _ s ih => exact .tail ih s
  · intro h
    induction h with
    | single s => exact .one s
    | tail _ s ih => exact .more ih s
theorem vo_len1 {T : TypeId} {s : Sl} {vs : List Value} (h : VecO H T 1 s vs) : s.len = vs.length := by have := h.len; omega
theorem IxA_front {T : TypeId} {s : Sl} {v : Value} {vs : List Value} (h : VecO H T 1 s (v :: vs)) {k : Addr → Prop} (hk : ∀ a, hcell H a = some v → k a) : IxA 1 s 0 k := by
  obtain ⟨a, ha, hc⟩ := h.cell (j := 0) (by simp)
  have hl := vo_len1 h
  rw [List.length_cons] at hl
  refine IxA.mk ha (by omega) (by omega) ?_
  rw [add_zero] at hc
  show k (a.add (Int.toNat 0 * 1))
  rw [show Int.toNat 0 * 1 = 0 from rfl, add_zero]
  exact hk a (by simpa using hc)
theorem vo_one {b : Nat} {T : TypeId} {v : Value} (h : Row H b T [v]) : VecO H T 1 ⟨some (adr b), 1, 1⟩ [v] := ⟨rfl, .inr ⟨b, [], [], rfl, by simpa using h, by simp⟩, Nat.le_refl _⟩
abbrev natV (n : Nat) : Value := .int .i64 (n : Nat)
theorem s_loops {p : Sl × Sl} {fs : List Rou} (hf : RN rouV 4 H p.2 fs) (hcR : ∀ r ∈ fs, CodeR H r) (hcl : ∀ r ∈ fs, r.code.length ≤ 2000) (hfl : fs.length ≤ 16) (hin : CallsIn fs) {f : Nat} (hf0 : f < fs.length) {k : Bool → Heap → Prop} (hk : ∀ H', Ext H H' → k (roundB fs f) H') :
    CallT Pg f_hindcastref15_loops [prgA p, .int .i64 (f : Nat)] (.one (.c .bool)) H k := by
  refine c_hindcastref15_loops p _ ?_
  unfold v_hindcastref15_loops
  refine Nw_row (vs := [slV p.1, slV p.2]) fun b1 H1 hb1 hE1 _ hr1 => ?_
  simp only [adr_add]
  refine Ld_sl (s := p.2) ((hr1.cell 1).trans rfl) ?_
  rw [hf.len]
  refine Mks_row (by omega) (by omega) (by omega) fun lb H2 hlb hE2 _ hl2 => ?_
  rw [Int.toNat_natCast] at hl2 ⊢
  refine Nw_row (vs := [natV f]) fun b2 H3 hb2 hE3 _ hr3 => ?_
  have hE3' := (hE1.trans hE2 fun _ _ h => h).trans hE3 fun _ _ h => h
  have z1 := hE1.size
  have z2 := hE2.size
  refine LoopT.ghost (fun m (s : Sl) H4 => ∃ (T : List Nat) (bs : List Bool), m = bs.count false + T.length ∧ bs.length = fs.length ∧ (∀ t ∈ T, t < fs.length) ∧ T.length ≤ 100 - bs.count false ∧ VecO H4 T_int 1 s (natsV T) ∧ (∀ a, s.a = some a → H.size ≤ a.block) ∧ Row H4 lb T_bool (bolsV bs) ∧ Ext H H4 ∧ Row H4 b1 T_api_Program [slV p.1, slV p.2] ∧ QInv (CallsR fs) f (fun y => bs[y]? = some true) (fun y => y ∈ T)) (fs.length + 1)
    ⟨[f], List.replicate fs.length false, ?_, by simp, by simpa using hf0, ?_, vo_one hr3, (fun a ha => by cases ha; show H.size ≤ b2; omega), by have := hE3.row hl2 fun h => h; simpa [bolsV] using this, hE3', (hE2.trans hE3 fun _ _ h => h).row hr1 fun h => h, ⟨fun y hy => ?_, fun y hy => ?_, fun x hx => ?_⟩⟩ ?_
  · rw [List.count_replicate_self]; rfl
  · rw [List.count_replicate_self]; simp; omega
  · rw [List.getElem?_replicate] at hy
    split at hy <;> cases hy
  · exact .inl (by simpa using hy)
  · left
    rcases hx with rfl | hx
    · simp
    · rw [List.getElem?_replicate] at hx
      split at hx <;> cases hx
  rintro next m s H4 ⟨T, bs, rfl, hbl, hTb, hTl, hvT, hsb, hlb4, hE4, hp4, hInv⟩ hnext
  have hTlen := vo_len1 hvT
  rw [List.length_map] at hTlen
  refine Br_dec (fun hgo => ?_) fun hend => ?_
  · obtain ⟨i, L, rfl⟩ : ∃ i L, T = i :: L := by
      cases T with
      | nil => simp at hTlen; omega
      | cons i L => exact ⟨i, L, rfl⟩
    have hib : i < fs.length := hTb i (by simp)
    have hmem : fs[i]! ∈ fs := by rw [getElem!_pos fs i hib]; exact List.getElem_mem hib
    have hcr : ∀ {Hx}, Ext H Hx → CodeR Hx (fs[i]!) := fun hE => (hcR _ hmem).ext hE
    have hcl1 := hcl _ hmem
    have hcin := hin i hib
    have hCR : ∀ y, CallsR fs i y ↔ ∃ n, n < (fs[i]!).code.length ∧ ((fs[i]!).code[n]!).1 = 21 ∧ ((fs[i]!).code[n]!).2 = (y : Int) := fun y => Iff.rfl
    refine Ld_sl (s := p.2) ((hp4.cell 1).trans rfl) (IxA_front hvT fun a1 ha1 => Ld_int ha1 (IxA_rn' rouV_len (hf.ext hE4) (by omega) (j := i) rfl hib fun a2 ha2 => Ld_sl (s := (fs[i]!).sl) (by have := hcells_iff.1 ha2 3 (by simp); simpa using this) ?_))
    generalize fs[i]! = r at *
    rw [List.length_cons] at hTl
    refine SlA_pop (v := [natV i]) (ws := natsV L) hvT rfl (by omega) fun l2 hvL hlb2 hl2 => ?_
    have hMid := hInv.mid (k := i) (todo' := fun y => y ∈ L) (by simp) (by intro x; simp [or_comm])
    have hrl := (hcr hE4).len
    refine LoopT.mk (fun (s2 : Sl × Int) H5 => ∃ (q : Nat) (T2 : List Nat) (bs2 : List Bool), s2.2 = q ∧ q ≤ r.code.length ∧ bs2.length = fs.length ∧ (∀ t ∈ T2, t < fs.length) ∧ bs2.count false + T2.length ≤ bs.count false + L.length ∧
        VecO H5 T_int 1 s2.1 (natsV T2) ∧ (∀ a, s2.1.a = some a → H.size ≤ a.block) ∧ Row H5 lb T_bool (bolsV bs2) ∧ Ext H H5 ∧ Row H5 b1 T_api_Program [slV p.1, slV p.2] ∧ QMid (CallsR fs) f i (fun y => bs2[y]? = some true) (fun y => y ∈ T2) ∧
        ∀ e, e < q → (r.code[e]!).1 = 21 → ∃ y : Nat, (r.code[e]!).2 = y ∧ y ≠ f ∧ bs2[y]? = some true) (fun s2 _ => r.code.length - s2.2.toNat)
      ⟨0, L, bs, rfl, Nat.zero_le _, hbl, fun t ht => hTb t (by simp [ht]), Nat.le_refl _, hvL, fun a ha => by obtain ⟨a0, h1, h2⟩ := hlb2 a ha; rw [← h2]; exact hsb a0 h1, hlb4, hE4, hp4, hMid, fun e he => by omega⟩ ?_
    rintro next2 ⟨s2, _⟩ H5 ⟨q, T2, bs2, rfl, hq, hbl2, hTb2, hm2, hv2, hsb2, hlb5, hE5, hp5, hMid2, hdone⟩ hnext2
    dsimp only at hv2 hsb2 ⊢
    refine Br_dec (fun hlt => ?_) fun hge => ?_
    · have hq3 : q < r.code.length := by omega
      have hat : ∀ {Hx : Heap} {kk : Addr → Prop}, Ext H Hx → (∀ a, hcell Hx a = some (.int .i64 (r.code[q]!).1) → hcell Hx (a.add 1) = some (.int .i64 (r.code[q]!).2) → kk a) → IxA 2 r.sl (q : Int) kk := fun hE hkk => IxA_rn' insV_len (hcr hE) (by omega) (j := q) rfl hq3 fun a ha => by
        have h0 := hcells_iff.1 ha 0 (by simp)
        have h1 := hcells_iff.1 ha 1 (by simp)
        rw [Nat.zero_add, add_zero] at h0
        exact hkk a (by simpa using h0) (by simpa using h1)
      have hcq := hcin q hq3
      have hst : ∀ y : Nat, (r.code[q]!).1 = 21 → (r.code[q]!).2 = (y : Int) → CallsR fs i y := fun y h1 h2 => (hCR y).2 ⟨q, hq3, h1, h2⟩
      have step : ∀ {T3 : List Nat} {bs3 : List Bool} {s3 : Sl} {H6 : Heap}, bs3.length = fs.length → (∀ t ∈ T3, t < fs.length) → bs3.count false + T3.length ≤ bs.count false + L.length → VecO H6 T_int 1 s3 (natsV T3) → (∀ a, s3.a = some a → H.size ≤ a.block) → Row H6 lb T_bool (bolsV bs3) → Ext H H6 → Row H6 b1 T_api_Program [slV p.1, slV p.2] → QMid (CallsR fs) f i (fun y => bs3[y]? = some true) (fun y => y ∈ T3) →
          (∀ y, bs2[y]? = some true → bs3[y]? = some true) → ((r.code[q]!).1 = 21 → ∃ y : Nat, (r.code[q]!).2 = y ∧ y ≠ f ∧ bs3[y]? = some true) → Lt (IntKind.wrap .i64 ((q : Int) + 1)) fun t1 => next2 (s3, t1) H6 := fun g1 g2 g3 g4 g5 g6 g7 g8 g9 g10 g11 =>
        Lt.mk (u := ((q + 1 : Nat) : Int)) (by rw [wrap_i64_id] <;> omega) (hnext2 _ _ ⟨q + 1, _, _, rfl, hq3, g1, g2, g3, g4, g5, g6, g7, g8, g9, fun e he h21 => by
          rcases Nat.lt_or_ge e q with g | g
          · obtain ⟨y, h1, h2, h3⟩ := hdone e g h21
            exact ⟨y, h1, h2, g10 y h3⟩
          · have : e = q := by omega
            subst this; exact g11 h21⟩ (by dsimp only; omega))
      generalize (r.code[q]!).1 = op at *
      generalize (r.code[q]!).2 = arg at *
      refine Jn_in (hat hE5 fun a3 h3 _ => Ld_int h3 (Br.mk (fun h => step hbl2 hTb2 hm2 hv2 hsb2 hlb5 hE5 hp5 hMid2 (fun _ h => h) fun h21 => absurd h21 (bne_iff_ne.1 h)) fun h => ?_))
      have h21 : op = 21 := by simpa using h
      obtain ⟨y, hy⟩ : ∃ y : Nat, arg = y := ⟨_, (Int.toNat_of_nonneg (hcq h21).1).symm⟩
      have hyl : y < fs.length := by have := (hcq h21).2; omega
      subst hy
      have hs := hst y h21 rfl
      refine hat hE5 fun a4 _ h4 => Ld_int h4 (Br.mk (fun hb => ?_) fun hb => ?_)
      · have hb := beqI hb
        have : y = f := by omega
        subst this
        have := hk _ hE5
        rwa [roundB_t (hMid2.one hs)] at this
      · have hb := bneI hb
        have hyl2 : y < bs2.length := by omega
        have hyb : (bolsV bs2)[y]? = some (.bool (bs2[y]!)) := by rw [List.getElem?_map, List.getElem?_eq_getElem hyl2, getElem!_pos bs2 y hyl2]; rfl
        refine IxA_adr (by omega) (by omega) ?_
        rw [Int.toNat_natCast, Nat.mul_one]
        refine Ld_bool (n := bs2[y]!) ((hlb5.cell y).trans hyb) (Jn_in (Br_not (Br.mk (fun hsn => ?_) fun hsn => ?_)))
        · exact step hbl2 hTb2 hm2 hv2 hsb2 hlb5 hE5 hp5 hMid2 (fun _ h => h) fun _ => ⟨y, rfl, by omega, by rw [List.getElem?_eq_getElem hyl2, ← getElem!_pos bs2 y hyl2, hsn]⟩
        · refine IxA_adr (by omega) (by omega) ?_
          rw [Int.toNat_natCast, Nat.mul_one]
          refine St_row hlb5 (by simpa using hyl2) fun H8 hU8 hz8 hlb8 => Nw_row (vs := [natV y]) fun b3 H9 hb3 hE9 _ hr9 => ?_
          have hlb8' : Row H8 lb T_bool (bolsV (bs2.set y true)) := by unfold bolsV; rw [List.map_set]; exact hlb8
          have hlo : H.size ≤ lb := by omega
          have hv9 : VecO H9 T_int 1 s2 (natsV T2) := (hv2.upd hU8 fun a ha => hv2.ne ha hlb5 (by decide)).ext hE9
          have hlb9 := hE9.row hlb8' fun h => h
          have hp9 : Row H9 b1 T_api_Program [slV p.1, slV p.2] := hE9.row (hU8.row hp5 (hp5.ne hlb5 (by decide))) fun h => h
          have hE9' : Ext H H9 := (hE5.trans hU8 fun b hb e => by omega).trans hE9 fun _ _ h => h
          have hcnt := set_count hyl2 hsn
          have hT2l := vo_len1 hv2
          rw [List.length_map] at hT2l
          refine App_vecO (n := 1) (ws := [natV y]) rfl (by omega) hv9 (Row.rd_all hr9) rfl (by simp [Value.oneCell']) (by omega) (by simp only; omega) fun l3 H10 hv10 hl10 hU10 ha10 => ?_
          refine step (T3 := T2 ++ [y]) (bs3 := bs2.set y true) (by simpa using hbl2) (fun t ht => ?_) ?_ (by simpa [natsV] using hv10) (fun a ha => ?_) ?_ ?_ ?_ (hMid2.add hs (fun z => set_some hyl2) (fun z => by simp)) (fun z hz => (set_some hyl2).2 (.inl hz)) fun _ => ⟨y, rfl, by omega, (set_some hyl2).2 (.inr rfl)⟩
          · rcases List.mem_append.1 ht with g | g
            · exact hTb2 t g
            · rw [List.mem_singleton] at g; omega
          · rw [List.length_append, List.length_singleton]; omega
          · rcases ha10 with g | g
            · rw [g] at ha; exact hsb2 a ha
            · rw [g] at ha; cases ha; exact hE9'.size
          · exact hU10.row hlb9 fun ⟨a, ha, e⟩ => hv9.ne ha hlb9 (by decide) e
          · exact hE9'.trans hU10 fun b hb ⟨a, ha, e⟩ => by have := hsb2 a ha; omega
          · exact hU10.row hp9 fun ⟨a, ha, e⟩ => hv9.ne ha hp9 (by decide) e
    · have hqe : q = r.code.length := by omega
      subst hqe
      refine hnext (bs2.count false + T2.length) _ _ ?_ ⟨T2, bs2, rfl, hbl2, hTb2, by omega, hv2, hsb2, hlb5, hE5, hp5, hMid2.end' fun y hy => ?_⟩
      · rw [List.length_cons]; omega
      · obtain ⟨e, he, h1, h2⟩ := (hCR y).1 hy
        obtain ⟨y', h3, h4, h5⟩ := hdone e he h1
        have : y = y' := by omega
        subst this; exact ⟨h4, h5⟩
  · have hT0 : T = [] := List.eq_nil_of_length_eq_zero (by omega)
    subst hT0
    have := hk _ hE4
    rwa [roundB_f (hInv.no fun x hx => by cases hx)] at this
theorem s_rnextF {csl : Sl} {c : List Ins} {i m : Nat} (hm : csl.len = m) (hr : RN insV 2 H csl c) (hi : i < c.length) (hl : c.length ≤ 100000) {k : Sl → Heap → Prop} (hk : ∀ s H', Ext H H' → Vec H' T_int s (ints (nextsR c i)) → (∀ b, s.a = some (adr b) → H.size ≤ b) → k s H') :
    CallT Pg f_hindcastref15_next [.slice csl.a m csl.cap, .int .i64 (i : Nat)] (.one (.c .sl)) H k := by
  subst hm
  refine c_hindcastref15_next _ _ ?_
  unfold v_hindcastref15_next
  have at1 : ∀ {Hx : Heap}, Ext H Hx → ∀ {K : Int → Prop}, K (c[i]!).2 → IxA 2 csl (i : Nat) fun a => Ld (.int .i64) (a.add 1) Hx K := by
    intro Hx hE K hK
    exact IxA_rn' insV_len (hr.ext hE) (by omega) (j := i) rfl hi fun a ha => Ld_int ha.2.1 hK
  have at0 : ∀ {Hx : Heap}, Ext H Hx → ∀ {K : Int → Prop}, K (c[i]!).1 → IxA 2 csl (i : Nat) fun a => Ld (.int .i64) a Hx K := by
    intro Hx hE K hK
    exact IxA_rn' insV_len (hr.ext hE) (by omega) (j := i) rfl hi fun a ha => Ld_int ha.1 hK
  have hn : nextsR c i = (if (c[i]!).1 = 22 ∨ (c[i]!).1 = 23 then [] else if (c[i]!).1 = 19 then (if 0 ≤ (c[i]!).2 ∧ (c[i]!).2 < c.length then [(c[i]!).2] else []) else if (c[i]!).1 = 20 then (if 0 ≤ (c[i]!).2 ∧ (c[i]!).2 < c.length then [(c[i]!).2, (i : Int) + 1] else [(i : Int) + 1]) else [(i : Int) + 1]) := rfl
  generalize c[i]! = x at *
  refine at1 (.refl _ _) ?_
  refine Jn.mk (fun j H' => H = H' ∧ j = decide (0 ≤ x.2 ∧ x.2 < c.length)) (fun kk hkk => ?_) ?_
  · refine at1 (.refl _ _) (Br_dec (fun h => at1 (.refl _ _) (hkk _ _ ⟨rfl, ?_⟩)) fun h => hkk _ _ ⟨rfl, (decide_eq_false (by omega)).symm⟩)
    rw [hr.len]; exact decide_eq_decide.2 (by omega)
  rintro j _ ⟨rfl, rfl⟩
  refine at0 (.refl _ _) ?_
  refine Jn.mk (fun j H' => H = H' ∧ j = decide (x.1 = 22 ∨ x.1 = 23)) (fun kk hkk => ?_) ?_
  · refine Br.mk (fun h => hkk _ _ ⟨rfl, (decide_eq_true (.inl (beqI h))).symm⟩) fun h => hkk _ _ ⟨rfl, ?_⟩
    have h := bneI h
    by_cases e : x.1 = 23
    · rw [e]; rfl
    · rw [decide_eq_false (by omega)]; exact beq_eq_false_iff_ne.2 e
  rintro j _ ⟨rfl, rfl⟩
  have one : ∀ y, nextsR c i = [y] → Nw #[.int .i64 y] T_int H fun b1 H3 => k ⟨some (adr b1), 1, 1⟩ H3 := fun y e => Nw_row (vs := [.int .i64 y]) fun b H3 hbb hE _ hrw => hk _ _ hE (by rw [e]; exact ⟨rfl, .inr ⟨b, [], rfl, by simpa using hrw, by simp⟩, Nat.le_refl _⟩) fun b' hb' => by cases hb'; omega
  refine Br_dec (fun h => hk _ _ (.refl _ _) ?_ fun b hb => by cases hb) fun h => Br.mk (fun h19 => ?_) fun h19 => Br.mk (fun h20 => ?_) fun h20 => ?_
  · rw [hn, if_pos h]; exact Vec.nil _ _
  · have h19 := beqI h19
    refine Br_dec (fun ht => one _ (by rw [hn, if_neg h, if_pos h19, if_pos ht])) fun ht => hk _ _ (.refl _ _) ?_ fun b hb => by cases hb
    rw [hn, if_neg h, if_pos h19, if_neg ht]; exact Vec.nil _ _
  · have h19 := bneI h19
    have h20 := beqI h20
    refine Br_dec (fun ht => Lt.mk (u := (i : Int) + 1) (by rw [wrap_i64_id] <;> omega) (Nw_row (vs := [.int .i64 x.2, .int .i64 ((i : Int) + 1)]) fun b H3 hbb hE _ hrw => hk _ _ hE ?_ fun b' hb' => by cases hb'; omega)) fun ht => Lt.mk (u := (i : Int) + 1) (by rw [wrap_i64_id] <;> omega) (one _ (by rw [hn, if_neg h, if_neg h19, if_pos h20, if_neg ht]))
    rw [hn, if_neg h, if_neg h19, if_pos h20, if_pos ht]
    exact ⟨rfl, .inr ⟨b, [], rfl, by simpa using hrw, by simp⟩, Nat.le_refl _⟩
  · have h19 := bneI h19
    have h20 := bneI h20
    exact Lt.mk (u := (i : Int) + 1) (by rw [wrap_i64_id] <;> omega) (one _ (by rw [hn, if_neg h, if_neg h19, if_neg h20]))
theorem nextsR_eq {c : List Ins} {i : Nat} (hj : ¬ jumpBad c i) : nextsR c i = nexts c i := by
  have hn : nextsR c i = (if (c[i]!).1 = 22 ∨ (c[i]!).1 = 23 then [] else if (c[i]!).1 = 19 then (if 0 ≤ (c[i]!).2 ∧ (c[i]!).2 < c.length then [(c[i]!).2] else []) else if (c[i]!).1 = 20 then (if 0 ≤ (c[i]!).2 ∧ (c[i]!).2 < c.length then [(c[i]!).2, (i : Int) + 1] else [(i : Int) + 1]) else [(i : Int) + 1]) := rfl
  have hn2 : nexts c i = (if (c[i]!).1 = 22 ∨ (c[i]!).1 = 23 then [] else if (c[i]!).1 = 19 then [(c[i]!).2] else if (c[i]!).1 = 20 then [(c[i]!).2, (i : Int) + 1] else [(i : Int) + 1]) := rfl
  rw [hn, hn2]
  unfold jumpBad at hj
  split
  · rfl
  · split
    · rename_i h19
      rw [if_pos (Classical.byContradiction fun g => hj ⟨.inl h19, g⟩)]
    · split
      · rename_i h20
        rw [if_pos (Classical.byContradiction fun g => hj ⟨.inr h20, g⟩)]
      · rfl
theorem depI_neg {c : List Ins} {ps : List Int} {i : Nat} : depI c ps i < 0 ↔ ¬ isReached c ps i := by
  unfold depI isReached
  split
  · rename_i h
    exact ⟨fun g => by omega, fun g => absurd h g⟩
  · rename_i h
    exact ⟨fun _ => h, fun _ => by omega⟩
theorem s_rround {sl dl : Sl} {c : List Ins} {ps : List Int} (hc : RN insV 2 H sl c) (hd : RL (Value.int .i64) H dl ((List.range c.length).map (depI c ps))) (hcl : c.length ≤ 2000) (hgood : ∀ i, i < c.length → isReached c ps i → wr c ps i = 0) {f : Nat} (hf0 : f < c.length) {k : Bool → Heap → Prop} (hk : ∀ H', Ext H H' → k (turnB c ps f) H') :
    CallT Pg f_hindcastref15_round [.slice sl.a sl.len sl.cap, .slice dl.a dl.len dl.cap, .int .i64 (f : Nat)] (.one (.c .bool)) H k := by
  refine c_hindcastref15_round _ _ _ ?_
  unfold v_hindcastref15_round
  have hsl := hc.len
  have hres : ∀ {b : Bool} {Hx : Heap}, Ext H Hx → (b = true ↔ Relation.TransGen (StepI c ps) f f) → k b Hx := fun {b Hx} hE h => by
    have := hk _ hE
    have e : turnB c ps f = b := by
      cases b with
      | true =>
        have hw := h.1 rfl
        refine turnB_t ⟨?_, way_trans.2 hw⟩
        have : ∀ x y, Relation.TransGen (StepI c ps) x y → idleP c ps x := fun x y hxy => by
          induction hxy with
          | single s => exact s.1
          | tail _ _ ih => exact ih
        exact this f f hw
      | false => exact turnB_f fun g => by have := h.2 (way_trans.1 g.2); cases this
    rwa [e] at this
  refine Mks_row (by omega) (by omega) (by omega) fun lb H1 hlb hE1 _ hl1 => ?_
  have elen : (Int.toNat ((sl.len : Nat) : Int)) = c.length := by rw [Int.toNat_natCast]; exact hsl
  rw [elen] at hl1 ⊢
  refine Nw_row (vs := [natV f]) fun b1 H2 hb1 hE2 _ hr2 => ?_
  have hE2' := hE1.trans hE2 fun _ _ h => h
  have z1 := hE1.size
  refine LoopT.ghost (fun m (s : Sl) H3 => ∃ (T : List Nat) (bs : List Bool), m = bs.count false + T.length ∧ bs.length = c.length ∧ (∀ t ∈ T, t < c.length) ∧ T.length ≤ 3000 - bs.count false ∧ VecO H3 T_int 1 s (natsV T) ∧ (∀ a, s.a = some a → H.size ≤ a.block) ∧ Row H3 lb T_bool (bolsV bs) ∧ Ext H H3 ∧ QInv (StepI c ps) f (fun y => bs[y]? = some true) (fun y => y ∈ T)) (c.length + 1)
    ⟨[f], List.replicate c.length false, ?_, by simp, by simpa using hf0, ?_, vo_one hr2, (fun a ha => by cases ha; show H.size ≤ b1; omega), by have := hE2.row hl1 fun h => h; simpa [bolsV] using this, hE2', ⟨fun y hy => ?_, fun y hy => ?_, fun x hx => ?_⟩⟩ ?_
  · rw [List.count_replicate_self]; rfl
  · rw [List.count_replicate_self]; simp; omega
  · rw [List.getElem?_replicate] at hy
    split at hy <;> cases hy
  · exact .inl (by simpa using hy)
  · left
    rcases hx with rfl | hx
    · simp
    · rw [List.getElem?_replicate] at hx
      split at hx <;> cases hx
  rintro next m s H3 ⟨T, bs, rfl, hbl, hTb, hTl, hvT, hsb, hlb3, hE3, hInv⟩ hnext
  have hTlen := vo_len1 hvT
  rw [List.length_map] at hTlen
  refine Br_dec (fun hgo => ?_) fun hend => ?_
  · obtain ⟨i, L, rfl⟩ : ∃ i L, T = i :: L := by
      cases T with
      | nil => simp at hTlen; omega
      | cons i L => exact ⟨i, L, rfl⟩
    have hib : i < c.length := hTb i (by simp)
    rw [List.length_cons] at hTl
    have hMid := hInv.mid (k := i) (todo' := fun y => y ∈ L) (by simp) (by intro x; simp [or_comm])
    refine Jn_in (IxA_front hvT fun a1 ha1 => Ld_int ha1 (SlA_pop (v := [natV i]) (ws := natsV L) hvT rfl (by omega) fun l2 hvL hlb2 hl2 => ?_))
    have hsbL : ∀ a, l2.a = some a → H.size ≤ a.block := fun a ha => by obtain ⟨a0, h1, h2⟩ := hlb2 a ha; rw [← h2]; exact hsb a0 h1
    have hat : ∀ {kk : Addr → Prop}, (∀ a, hcell H3 a = some (.int .i64 (c[i]!).1) → kk a) → IxA 2 sl (i : Int) kk := fun hkk => IxA_rn' insV_len (hc.ext hE3) (by omega) (j := i) rfl hib fun a ha => hkk a (by
      have h0 := hcells_iff.1 ha 0 (by simp)
      rw [Nat.zero_add, add_zero] at h0
      simpa using h0)
    refine Jn.mk (fun j H' => H3 = H' ∧ (j = false ↔ idleP c ps i)) (fun kk hkk => ?_) ?_
    · refine IxA_rl (hd.ext hE3) rfl (by simpa using hib) fun a2 ha2 => Ld_int (n := depI c ps i) (by rw [ha2]; simp) (Br_dec (fun h => hkk _ _ ⟨rfl, fun e => (by cases e), fun e => absurd e.1 (depI_neg.1 h)⟩) fun h => ?_)
      have hrd : isReached c ps i := Classical.byContradiction fun g => h (depI_neg.2 g)
      refine hat fun a3 ha3 => Ld_int ha3 (Br.mk (fun h24 => hkk _ _ ⟨rfl, fun e => (by cases e), fun e => absurd (beqI h24) e.2.1⟩) fun h24 => hat fun a4 ha4 => Ld_int ha4 (hkk _ _ ⟨rfl, fun e => ⟨hrd, bneI h24, bneI e⟩, fun e => beq_eq_false_iff_ne.2 e.2.2⟩))
    rintro j _ ⟨rfl, hj⟩
    refine Br.mk (fun h => ?_) fun h => ?_
    · have hid : ¬ idleP c ps i := fun g => by rw [hj.2 g] at h; cases h
      refine hnext (bs.count false + L.length) _ _ ?_ ⟨L, bs, rfl, hbl, fun t ht => hTb t (by simp [ht]), by omega, hvL, hsbL, hlb3, hE3, hMid.end' fun y hy => absurd hy.1 hid⟩
      rw [List.length_cons]; omega
    · have hid := hj.1 h
      have hwr := hgood i hib hid.1
      have hjb : ¬ jumpBad c i := fun h => by rw [wr_150 h] at hwr; cases hwr
      refine s_rnextF rfl (hc.ext hE3) hib (by omega) fun ns H6 hE6 hns hnlo => ?_
      rw [nextsR_eq hjb] at hns
      have hE6' := hE3.trans hE6 fun _ _ h => h
      have hnin := nexts_in hib hwr
      have hnl := nexts_len c i
      have hnsl := hns.len
      rw [List.length_map] at hnsl
      refine LoopT.mk (fun (s2 : Sl × Int) H7 => ∃ (q : Nat) (T2 : List Nat) (bs2 : List Bool), s2.2 = q ∧ q ≤ (nexts c i).length ∧ bs2.length = c.length ∧ (∀ t ∈ T2, t < c.length) ∧ bs2.count false + T2.length ≤ bs.count false + L.length ∧
          VecO H7 T_int 1 s2.1 (natsV T2) ∧ (∀ a, s2.1.a = some a → H.size ≤ a.block ∧ ns.a ≠ some (adr a.block)) ∧ Row H7 lb T_bool (bolsV bs2) ∧ Ext H H7 ∧ Vec H7 T_int ns (ints (nexts c i)) ∧ QMid (StepI c ps) f i (fun y => bs2[y]? = some true) (fun y => y ∈ T2) ∧
          ∀ e, e < q → ∃ y : Nat, (nexts c i)[e]! = y ∧ y ≠ f ∧ bs2[y]? = some true) (fun s2 _ => (nexts c i).length - s2.2.toNat)
        ⟨0, L, bs, rfl, Nat.zero_le _, hbl, fun t ht => hTb t (by simp [ht]), Nat.le_refl _, hvL.ext hE6, fun a ha => ⟨hsbL a ha, fun e => ?_⟩, hE6.row hlb3 fun h => h, hE6', hns, hMid, fun e he => by omega⟩ ?_
      · have h1 := hnlo _ e
        rcases hvL.own with ⟨g, _⟩ | ⟨b, pre, sp, g1, g2, _⟩
        · rw [g] at ha; cases ha
        · rw [g1] at ha; cases ha
          have := g2.lt
          have h1 : H3.size ≤ b := h1
          omega
      rintro next2 ⟨s2, _⟩ H7 ⟨q, T2, bs2, rfl, hq, hbl2, hTb2, hm2, hv2, hsb2, hlb7, hE7, hns7, hMid2, hdone⟩ hnext2
      dsimp only at hv2 hsb2 ⊢
      refine Br_dec (fun hlt => ?_) fun hge => ?_
      · have hq3 : q < (nexts c i).length := by omega
        have hmem : (nexts c i)[q]! ∈ nexts c i := by rw [getElem!_pos _ q hq3]; exact List.getElem_mem hq3
        obtain ⟨y, hy⟩ : ∃ y : Nat, (nexts c i)[q]! = y := ⟨_, (Int.toNat_of_nonneg (hnin _ hmem).1).symm⟩
        have hyl := (hnin _ hmem).2
        have hrd : ∀ {Hx : Heap} {kk : Int → Prop}, Vec Hx T_int ns (ints (nexts c i)) → kk (y : Int) → IxA 1 ns (q : Int) fun a => Ld (.int .i64) a Hx kk := fun hv hkk => IxA_rl hv.rl rfl hq3 fun a4 ha4 => Ld_int (n := (y : Int)) (by rw [ha4, ← hy, getElem!_pos _ q hq3]) hkk
        rw [hy] at hmem hyl
        have hst : StepI c ps i y := ⟨hid, hmem⟩
        refine Jn_in (hrd hns7 (Br.mk (fun hb => ?_) fun hb => ?_))
        · have hb := beqI hb
          have : y = f := by omega
          subst this
          exact hres hE7 ⟨fun _ => hMid2.one hst, fun _ => rfl⟩
        · have hb := bneI hb
          have hyl2 : y < bs2.length := by omega
          have hyb : (bolsV bs2)[y]? = some (.bool (bs2[y]!)) := by rw [List.getElem?_map, List.getElem?_eq_getElem hyl2, getElem!_pos bs2 y hyl2]; rfl
          refine hrd hns7 (IxA_adr (by omega) (by omega) ?_)
          rw [Int.toNat_natCast, Nat.mul_one]
          refine Ld_bool (n := bs2[y]!) ((hlb7.cell y).trans hyb) (Jn_in (Br_not (Br.mk (fun hs => ?_) fun hs => ?_)))
          · refine Lt.mk (u := ((q + 1 : Nat) : Int)) (by rw [wrap_i64_id] <;> omega) (hnext2 _ _ ⟨q + 1, T2, bs2, rfl, hq3, hbl2, hTb2, hm2, hv2, hsb2, hlb7, hE7, hns7, hMid2, fun e he => ?_⟩ (by dsimp only; omega))
            rcases Nat.lt_or_ge e q with g | g
            · exact hdone e g
            · have : e = q := by omega
              subst this
              exact ⟨y, hy, by omega, by rw [List.getElem?_eq_getElem hyl2, ← getElem!_pos bs2 y hyl2, hs]⟩
          · refine hrd hns7 (IxA_adr (by omega) (by omega) ?_)
            rw [Int.toNat_natCast, Nat.mul_one]
            refine St_row hlb7 (by simpa using hyl2) fun H10 hU10 hz10 hlb10 => ?_
            have hns10 : Vec H10 T_int ns (ints (nexts c i)) := hns7.upd hU10 fun b hb => hns7.ne hb hlb7 (by decide)
            refine hrd hns10 (Nw_row (vs := [natV y]) fun b2 H11 hb2 hE11 _ hr11 => ?_)
            have hlb10' : Row H10 lb T_bool (bolsV (bs2.set y true)) := by unfold bolsV; rw [List.map_set]; exact hlb10
            have hlo : H.size ≤ lb := by omega
            have hv11 : VecO H11 T_int 1 s2 (natsV T2) := (hv2.upd hU10 fun a ha => hv2.ne ha hlb7 (by decide)).ext hE11
            have hns11 := hns10.ext hE11
            have hlb11 := hE11.row hlb10' fun h => h
            have hE11' : Ext H H11 := (hE7.trans hU10 fun b hb e => by omega).trans hE11 fun _ _ h => h
            have hcnt := set_count hyl2 hs
            have hT2l := vo_len1 hv2
            rw [List.length_map] at hT2l
            refine App_vecO (n := 1) (ws := [natV y]) rfl (by omega) hv11 (Row.rd_all hr11) rfl (by simp [Value.oneCell']) (by omega) (by simp only; omega) fun l3 H12 hv12 hl12 hU12 ha12 => ?_
            refine Lt.mk (u := ((q + 1 : Nat) : Int)) (by rw [wrap_i64_id] <;> omega) (hnext2 _ _ ⟨q + 1, T2 ++ [y], bs2.set y true, rfl, hq3, by simpa using hbl2, fun t ht => ?_, ?_, by simpa [natsV] using hv12, fun a ha => ?_, ?_, ?_, ?_, hMid2.add hst (fun z => set_some hyl2) (fun z => by simp), fun e he => ?_⟩ (by dsimp only; omega))
            · rcases List.mem_append.1 ht with g | g
              · exact hTb2 t g
              · rw [List.mem_singleton] at g; omega
            · rw [List.length_append, List.length_singleton]; omega
            · rcases ha12 with g | g
              · rw [g] at ha; exact hsb2 a ha
              · rw [g] at ha; cases ha
                refine ⟨hE11'.size, fun e => ?_⟩
                have := hns11.lt e
                have : H11.size < H11.size := this
                omega
            · exact hU12.row hlb11 fun ⟨a, ha, e⟩ => hv11.ne ha hlb11 (by decide) e
            · exact hE11'.trans hU12 fun b hb ⟨a, ha, e⟩ => by have := (hsb2 a ha).1; omega
            · exact hns11.upd hU12 fun b hb ⟨a, ha, e⟩ => (hsb2 a ha).2 (by rw [e]; exact hb)
            · rcases Nat.lt_or_ge e q with g | g
              · obtain ⟨y', h1, h2, h3⟩ := hdone e g
                exact ⟨y', h1, h2, (set_some hyl2).2 (.inl h3)⟩
              · have : e = q := by omega
                subst this
                exact ⟨y, hy, by omega, (set_some hyl2).2 (.inr rfl)⟩
      · have hqe : q = (nexts c i).length := by omega
        subst hqe
        refine hnext (bs2.count false + T2.length) _ _ ?_ ⟨T2, bs2, rfl, hbl2, hTb2, by omega, hv2, fun a ha => (hsb2 a ha).1, hlb7, hE7, hMid2.end' fun y hy => ?_⟩
        · rw [List.length_cons]; omega
        · obtain ⟨e, he, hee⟩ := List.getElem_of_mem hy.2
          obtain ⟨y', h1, h2, h3⟩ := hdone e he
          rw [getElem!_pos _ e he, hee] at h1
          have : y = y' := by omega
          subst this; exact ⟨h2, h3⟩
  · have hT0 : T = [] := List.eq_nil_of_length_eq_zero (by omega)
    subst hT0
    exact hres hE3 ⟨fun h => (by cases h), fun h => absurd h (hInv.no fun x hx => (by cases hx))⟩
end Go.Proofs.YtlkmmplgfjicjaaGreat
/-
  The arguments of Verify's laws; VerifyWalks over any that can be read.
-/
namespace Go.Proofs.YtlkmmplgfjicjaaGreat
set_option linter.unusedVariables false
set_option linter.unusedSimpArgs false
open Go.Proofs.YtlkmmplgfjicjaaGreat.Hc Go.Proofs.YtlkmmplgfjicjaaGreat.Hc.Vf
set_option maxRecDepth 100000

theorem rdC_string {P : Program} {t : TypeId} (hu : P.underlying t = some .string) {H : Heap} {f : Nat} {cs : List Value} (h : RdC P H f t cs) : ∃ s : ByteArray, cs = [.string s] ∧ s.size ≤ reachBytes := by
  cases f with
  | zero => exact h.elim
  | succ f => simp only [RdC, hu] at h; exact h
theorem rdC_bool {P : Program} {t : TypeId} (hu : P.underlying t = some .bool) {H : Heap} {f : Nat} {cs : List Value} (h : RdC P H f t cs) : ∃ b : Bool, cs = [.bool b] := by
  cases f with
  | zero => exact h.elim
  | succ f => simp only [RdC, hu] at h; exact h
/-- A slice argument of elements of n cells each. -/
theorem rdC_rows {P : Program} {t e : TypeId} (hu : P.underlying t = some (.slice e)) {n : Nat} (hce : P.cellsOf e = n) {α : Type} {g : α → List Value} (hg : ∀ x, (g x).length = n) {Q : α → Prop} {H : Heap} (hR : ∀ f cs, RdC P H f e cs → ∃ x, cs = g x ∧ Q x) {f : Nat} {v : Value} (h : RdC P H f t [v]) :
    ∃ (s : Sl) (xs : List α), v = .slice s.a s.len s.cap ∧ RN g n H s xs ∧ (∀ x ∈ xs, Q x) ∧ s.cap * P.bytesOf e ≤ reachBytes := by
  obtain ⟨s, xs, h1, h2, h3, h4, h5, h6⟩ := rdC_elems hu hce (R := fun cs x => cs = g x ∧ Q x) hR h
  refine ⟨s, xs, h1, RN.of_elems hg h2 h3 fun i hi => ?_, fun x hx => ?_, h4⟩
  · obtain ⟨a, ha, cs, _, k2, k3, _⟩ := h6 i hi
    subst k3; exact ⟨a, ha, k2⟩
  · obtain ⟨i, hi, rfl⟩ := List.getElem_of_mem hx
    obtain ⟨_, _, _, _, _, _, k⟩ := h6 i hi
    exact k
theorem list2_api_Program {cs : List Value} (h : cs.length = 2) : ∃ x0 x1, cs = [x0, x1] := by
  match cs, h with
  | [x0, x1], _ => exact ⟨x0, x1, rfl⟩
theorem rdS_api_Program {H : Heap} {f : Nat} {cs : List Value} (h : RdC Tryz.prog H f 25 cs) : ∃ x0 x1, cs = [x0, x1] ∧ ∃ f', RdC Tryz.prog H f' 22 [x0] ∧ RdC Tryz.prog H f' 23 [x1] := by
  obtain ⟨f', hl, hall⟩ := rdC_struct Tryz.underlying25 h
  obtain ⟨x0, x1, rfl⟩ := list2_api_Program (hl.trans (by kernel_rfl))
  simp only [List.mem_cons, List.not_mem_nil, or_false, forall_eq_or_imp, forall_eq] at hall
  have c22 : Tryz.prog.cellsOf 22 = 1 := by kernel_rfl
  have c23 : Tryz.prog.cellsOf 23 = 1 := by kernel_rfl
  obtain ⟨h0, h1⟩ := hall
  exact ⟨x0, x1, rfl, f', by simpa [c22] using h0, by simpa [c23] using h1⟩
theorem list4_api_Routine {cs : List Value} (h : cs.length = 4) : ∃ x0 x1 x2 x3, cs = [x0, x1, x2, x3] := by
  match cs, h with
  | [x0, x1, x2, x3], _ => exact ⟨x0, x1, x2, x3, rfl⟩
theorem rdS_api_Routine {H : Heap} {f : Nat} {cs : List Value} (h : RdC Tryz.prog H f 35 cs) : ∃ x0 x1 x2 x3, cs = [x0, x1, x2, x3] ∧ ∃ f', RdC Tryz.prog H f' 9 [x0] ∧ RdC Tryz.prog H f' 3 [x1] ∧ RdC Tryz.prog H f' 3 [x2] ∧ RdC Tryz.prog H f' 33 [x3] := by
  obtain ⟨f', hl, hall⟩ := rdC_struct Tryz.underlying35 h
  obtain ⟨x0, x1, x2, x3, rfl⟩ := list4_api_Routine (hl.trans (by kernel_rfl))
  simp only [List.mem_cons, List.not_mem_nil, or_false, forall_eq_or_imp, forall_eq] at hall
  have c3 : Tryz.prog.cellsOf 3 = 1 := by kernel_rfl
  have c9 : Tryz.prog.cellsOf 9 = 1 := by kernel_rfl
  have c26 : Tryz.prog.cellsOf 33 = 1 := by kernel_rfl
  obtain ⟨h0, h1, h2, h3⟩ := hall
  exact ⟨x0, x1, x2, x3, rfl, f', by simpa [c9] using h0, by simpa [c3] using h1, by simpa [c3] using h2, by simpa [c26] using h3⟩
theorem list2_api_Instr {cs : List Value} (h : cs.length = 2) : ∃ x0 x1, cs = [x0, x1] := by
  match cs, h with
  | [x0, x1], _ => exact ⟨x0, x1, rfl⟩
theorem rdS_api_Instr {H : Heap} {f : Nat} {cs : List Value} (h : RdC Tryz.prog H f 28 cs) : ∃ x0 x1, cs = [x0, x1] ∧ ∃ f', RdC Tryz.prog H f' 3 [x0] ∧ RdC Tryz.prog H f' 2 [x1] := by
  obtain ⟨f', hl, hall⟩ := rdC_struct Tryz.underlying28 h
  obtain ⟨x0, x1, rfl⟩ := list2_api_Instr (hl.trans (by kernel_rfl))
  simp only [List.mem_cons, List.not_mem_nil, or_false, forall_eq_or_imp, forall_eq] at hall
  have c2 : Tryz.prog.cellsOf 2 = 1 := by kernel_rfl
  have c3 : Tryz.prog.cellsOf 3 = 1 := by kernel_rfl
  obtain ⟨h0, h1⟩ := hall
  exact ⟨x0, x1, rfl, f', by simpa [c3] using h0, by simpa [c2] using h1⟩
theorem list8_api_System {cs : List Value} (h : cs.length = 8) : ∃ x0 x1 x2 x3 x4 x5 x6 x7, cs = [x0, x1, x2, x3, x4, x5, x6, x7] := by
  match cs, h with
  | [x0, x1, x2, x3, x4, x5, x6, x7], _ => exact ⟨x0, x1, x2, x3, x4, x5, x6, x7, rfl⟩
theorem rdS_api_System {H : Heap} {f : Nat} {cs : List Value} (h : RdC Tryz.prog H f 38 cs) : ∃ x0 x1 x2 x3 x4 x5 x6 x7, cs = [x0, x1, x2, x3, x4, x5, x6, x7] ∧ ∃ f', RdC Tryz.prog H f' 36 [x0] ∧ RdC Tryz.prog H f' 36 [x1] ∧ RdC Tryz.prog H f' 36 [x2] ∧ RdC Tryz.prog H f' 36 [x3] ∧ RdC Tryz.prog H f' 35 [x4, x5, x6, x7] := by
  obtain ⟨f', hl, hall⟩ := rdC_struct Tryz.underlying38 h
  obtain ⟨x0, x1, x2, x3, x4, x5, x6, x7, rfl⟩ := list8_api_System (hl.trans (by kernel_rfl))
  simp only [List.mem_cons, List.not_mem_nil, or_false, forall_eq_or_imp, forall_eq] at hall
  have c28 : Tryz.prog.cellsOf 35 = 4 := by kernel_rfl
  have c32 : Tryz.prog.cellsOf 36 = 1 := by kernel_rfl
  obtain ⟨h0, h1, h2, h3, h4⟩ := hall
  exact ⟨x0, x1, x2, x3, x4, x5, x6, x7, rfl, f', by simpa [c32] using h0, by simpa [c32] using h1, by simpa [c32] using h2, by simpa [c32] using h3, by simpa [c28] using h4⟩
theorem list2_api_Kind {cs : List Value} (h : cs.length = 2) : ∃ x0 x1, cs = [x0, x1] := by
  match cs, h with
  | [x0, x1], _ => exact ⟨x0, x1, rfl⟩
theorem rdS_api_Kind {H : Heap} {f : Nat} {cs : List Value} (h : RdC Tryz.prog H f 63 cs) : ∃ x0 x1, cs = [x0, x1] ∧ ∃ f', RdC Tryz.prog H f' 9 [x0] ∧ RdC Tryz.prog H f' 61 [x1] := by
  obtain ⟨f', hl, hall⟩ := rdC_struct Tryz.underlying63 h
  obtain ⟨x0, x1, rfl⟩ := list2_api_Kind (hl.trans (by kernel_rfl))
  simp only [List.mem_cons, List.not_mem_nil, or_false, forall_eq_or_imp, forall_eq] at hall
  have c9 : Tryz.prog.cellsOf 9 = 1 := by kernel_rfl
  have c99 : Tryz.prog.cellsOf 61 = 1 := by kernel_rfl
  obtain ⟨h0, h1⟩ := hall
  exact ⟨x0, x1, rfl, f', by simpa [c9] using h0, by simpa [c99] using h1⟩
/-- What a program that was handed in is. -/
structure RouI (H : Heap) (r : Rou) : Prop where
  code : CodeR H r
  len : r.code.length ≤ 2 ^ 43
  par : I64 r.params
  loc : I64 r.locals
  ins : ∀ i ∈ r.code, I64 i.1 ∧ I64 i.2
  name : r.name.size ≤ 2 ^ 47
structure SyI (H : Heap) (x : Sy) : Prop where
  sets : ∀ q, q < 4 → RL (Value.int .i64) H (x.s q) (x.l q)
  lens : ∀ q, q < 4 → (x.l q).length ≤ 2 ^ 44
  ints : ∀ q, q < 4 → ∀ y ∈ x.l q, I64 y
  rou : RouI H x.rou
structure PrgI (H : Heap) (p : Sl × Sl) (ss : List Sy) (fs : List Rou) : Prop where
  sys : RN sysV 8 H p.1 ss
  sysR : ∀ x ∈ ss, SyI H x
  fun' : RN rouV 4 H p.2 fs
  funR : ∀ r ∈ fs, RouI H r
  sl : ss.length * 152 ≤ 2 ^ 47
  fl : fs.length * 56 ≤ 2 ^ 47
theorem PrgI.prg {H : Heap} {p : Sl × Sl} {ss : List Sy} {fs : List Rou} (h : PrgI H p ss fs) : PrgR H p ss fs :=
  ⟨h.sys, fun x hx => ⟨(h.sysR x hx).sets, (h.sysR x hx).rou.code, fun q hq => by have := (h.sysR x hx).lens q hq; omega, by have := (h.sysR x hx).rou.len; omega⟩, h.fun', fun r hr => (h.funR r hr).code, fun r hr => by have := (h.funR r hr).len; omega⟩
theorem PrgI.par {H : Heap} {p : Sl × Sl} {ss : List Sy} {fs : List Rou} (h : PrgI H p ss fs) : ∀ x ∈ parms fs, I64 x := fun x hx => by
  obtain ⟨r, hr, rfl⟩ := List.mem_map.1 hx
  exact (h.funR r hr).par
theorem b47 : Tryz.prog.bytesOf 28 = 16 := by kernel_rfl
theorem rdC_rou {H : Heap} {f : Nat} {cs : List Value} (h : RdC Tryz.prog H f 35 cs) : ∃ r : Rou, cs = rouV r ∧ RouI H r := by
  have c47 : Tryz.prog.cellsOf 28 = 2 := by kernel_rfl
  obtain ⟨x0, x1, x2, x3, rfl, f', h0, h1, h2, h3⟩ := rdS_api_Routine h
  obtain ⟨n, e0, hn⟩ := rdC_string Tryz.underlying9 h0
  obtain ⟨a, e1, ha⟩ := rdC_i64 Tryz.underlying3 h1
  obtain ⟨b, e2, hb⟩ := rdC_i64 Tryz.underlying3 h2
  obtain ⟨s, xs, e3, hs, hx, hc⟩ := rdC_rows Tryz.underlying33 c47 insV_len (Q := fun i => I64 i.1 ∧ I64 i.2) (fun f cs hh => by
    obtain ⟨y0, y1, rfl, f', g0, g1⟩ := rdS_api_Instr hh
    obtain ⟨a, e0, ha⟩ := rdC_i64 Tryz.underlying3 g0
    obtain ⟨b, e1, hb⟩ := rdC_i64 Tryz.underlying2 g1
    simp only [List.cons.injEq, and_true] at e0 e1
    subst e0 e1
    exact ⟨(a, b), rfl, ha, hb⟩) h3
  simp only [List.cons.injEq, and_true] at e0 e1 e2
  subst e0 e1 e2 e3
  refine ⟨⟨n, a, b, s, xs⟩, rfl, hs, ?_, ha, hb, hx, by have := reach47; show n.size ≤ _; omega⟩
  rw [b47] at hc
  have h1 := hs.len
  have h2 := hs.cap
  have := reach47
  show xs.length ≤ _
  omega
theorem rdC_set {H : Heap} {f : Nat} {v : Value} (h : RdC Tryz.prog H f 36 [v]) : ∃ (s : Sl) (xs : List Int), v = slV s ∧ RL (Value.int .i64) H s xs ∧ (∀ x ∈ xs, I64 x) ∧ xs.length ≤ 2 ^ 44 := by
  have c3 : Tryz.prog.cellsOf 3 = 1 := by kernel_rfl
  have b3 : Tryz.prog.bytesOf 3 = 8 := by kernel_rfl
  obtain ⟨s, xs, e, h1, h2, h3, h4⟩ := rdC_ints Tryz.underlying36 Tryz.underlying3 c3 h
  rw [b3] at h3
  refine ⟨s, xs, e, h1, h2, ?_⟩
  have := h1.len; have := h1.cap; have := reach47; omega
def pick4 {α : Type} (a b c d : α) (q : Nat) : α := if q = 0 then a else if q = 1 then b else if q = 2 then c else d
theorem rdC_sys {H : Heap} {f : Nat} {cs : List Value} (h : RdC Tryz.prog H f 38 cs) : ∃ x : Sy, cs = sysV x ∧ SyI H x := by
  obtain ⟨x0, x1, x2, x3, x4, x5, x6, x7, rfl, f', h0, h1, h2, h3, h4⟩ := rdS_api_System h
  obtain ⟨s0, l0, rfl, r0, i0, n0⟩ := rdC_set h0
  obtain ⟨s1, l1, rfl, r1, i1, n1⟩ := rdC_set h1
  obtain ⟨s2, l2, rfl, r2, i2, n2⟩ := rdC_set h2
  obtain ⟨s3, l3, rfl, r3, i3, n3⟩ := rdC_set h3
  obtain ⟨r, e, hr⟩ := rdC_rou h4
  simp only [List.cons.injEq, and_true] at e
  obtain ⟨rfl, rfl, rfl, rfl⟩ := e
  refine ⟨⟨pick4 s0 s1 s2 s3, pick4 l0 l1 l2 l3, r⟩, rfl, fun q hq => ?_, fun q hq => ?_, fun q hq => ?_, hr⟩
  all_goals
    match q, hq with
    | 0, _ => assumption
    | 1, _ => assumption
    | 2, _ => assumption
    | 3, _ => assumption
theorem rd_prog {H : Heap} {v : Value} (h : RdV Tryz.prog H 25 v) : ∃ (p : Sl × Sl) (ss : List Sy) (fs : List Rou), v = prgA p ∧ PrgI H p ss fs := by
  have c60 : Tryz.prog.cellsOf 38 = 8 := by kernel_rfl
  have c28 : Tryz.prog.cellsOf 35 = 4 := by kernel_rfl
  have b60 : Tryz.prog.bytesOf 38 = 152 := by kernel_rfl
  have b28 : Tryz.prog.bytesOf 35 = 56 := by kernel_rfl
  obtain ⟨f, cs, rfl, hr⟩ := rd_struct Tryz.underlying25 h
  obtain ⟨x0, x1, e, f', h0, h1⟩ := rdS_api_Program hr
  obtain ⟨s, ss, rfl, hs, hx, hc⟩ := rdC_rows Tryz.underlying22 c60 sysV_len (fun f cs hh => rdC_sys hh) h0
  obtain ⟨t, fs, rfl, ht, hy, hd⟩ := rdC_rows Tryz.underlying23 c28 rouV_len (fun f cs hh => rdC_rou hh) h1
  rw [b60] at hc
  rw [b28] at hd
  have := reach47
  have g1 := hs.len
  have g2 := hs.cap
  have g3 := ht.len
  have g4 := ht.cap
  subst e
  exact ⟨(s, t), ss, fs, rfl, hs, hx, ht, hy, by omega, by omega⟩
theorem rd_kinds {H : Heap} {v : Value} (h : RdV Tryz.prog H 26 v) : ∃ (s : Sl) (ks : List Ki), v = slV s ∧ KdsR H s ks := by
  have c101 : Tryz.prog.cellsOf 63 = 2 := by kernel_rfl
  have b101 : Tryz.prog.bytesOf 63 = 40 := by kernel_rfl
  have c9 : Tryz.prog.cellsOf 9 = 1 := by kernel_rfl
  have b9 : Tryz.prog.bytesOf 9 = 16 := by kernel_rfl
  obtain ⟨f, hc⟩ := rd_cell Tryz.underlying26 rfl h
  have := reach47
  obtain ⟨s, ks, e, h1, h2, h3⟩ := rdC_rows Tryz.underlying26 c101 kiV_len (Q := fun x : Ki => RL Value.string H x.s x.l ∧ x.l.length ≤ 2 ^ 60 ∧ (∀ y ∈ x.l, y.size ≤ 2 ^ 60) ∧ x.name.size ≤ 2 ^ 60) (fun f cs hh => by
    obtain ⟨y0, y1, rfl, f', g0, g1⟩ := rdS_api_Kind hh
    obtain ⟨n, e0, hn⟩ := rdC_string Tryz.underlying9 g0
    obtain ⟨t, xs, e1, ht, hq, hcap, _⟩ := rdC_list Tryz.underlying61 c9 (g := Value.string) (Q := fun y : ByteArray => y.size ≤ 2 ^ 60) (fun f cs hh => by
      obtain ⟨n, e0, hn⟩ := rdC_string Tryz.underlying9 hh
      exact ⟨n, e0, by omega⟩) g1
    simp only [List.cons.injEq, and_true] at e0
    subst e0 e1
    rw [b9] at hcap
    have g1 := ht.len
    have g2 := ht.cap
    exact ⟨⟨n, t, xs⟩, rfl, ht, by show xs.length ≤ _; omega, hq, by show n.size ≤ _; omega⟩) hc
  rw [b101] at h3
  have g1 := h1.len
  have g2 := h1.cap
  exact ⟨s, ks, e, h1, fun x hx => (h2 x hx).1, fun x hx => (h2 x hx).2.1, fun x hx => (h2 x hx).2.2.1, fun x hx => (h2 x hx).2.2.2, by omega⟩
theorem rd_bools {H : Heap} {v : Value} (h : RdV Tryz.prog H 128 v) : ∃ (s : Sl) (bs : List Bool), v = slV s ∧ RL Value.bool H s bs := by
  have c4 : Tryz.prog.cellsOf 4 = 1 := by kernel_rfl
  obtain ⟨f, hc⟩ := rd_cell Tryz.underlying128 rfl h
  obtain ⟨s, xs, e, h1, _⟩ := rdC_list Tryz.underlying128 c4 (g := Value.bool) (Q := fun _ => True) (fun f cs hh => by
    obtain ⟨b, e⟩ := rdC_bool Tryz.underlying4 hh
    exact ⟨b, e, trivial⟩) hc
  exact ⟨s, xs, e, h1⟩
end Go.Proofs.YtlkmmplgfjicjaaGreat
/-
  A program that is lent: copies with something behind each list.
-/
namespace Go.Proofs.YtlkmmplgfjicjaaGreat
set_option linter.unusedVariables false
set_option linter.unusedSimpArgs false
open Go.Proofs.YtlkmmplgfjicjaaGreat.Hc Go.Proofs.YtlkmmplgfjicjaaGreat.Hc.Vf
set_option maxRecDepth 100000
variable {H : Heap}

theorem Vec.updT {M : Nat → Prop} {H' : Heap} (hu : Upd M H H') {T : TypeId} {s : Sl} {vs : List Value} (h : Vec H T s vs) (hn : ∀ b ws, Row H b T ws → ¬ M b) : Vec H' T s vs := h.upd hu fun b hb => by
  rcases h.own with ⟨g, _⟩ | ⟨c, sp, g1, g2, _⟩
  · rw [g] at hb; cases hb
  · rw [g1] at hb; cases hb; exact hn _ _ g2
theorem VecN.updT {M : Nat → Prop} {H' : Heap} (hu : Upd M H H') {T : TypeId} {n : Nat} {s : Sl} {vs : List Value} (h : VecN H T n s vs) (hn : ∀ b ws, Row H b T ws → ¬ M b) : VecN H' T n s vs := h.upd hu fun b hb => by
  rcases h.own with ⟨g, _⟩ | ⟨c, sp, g1, g2, _⟩
  · rw [g] at hb; cases hb
  · rw [g1] at hb; cases hb; exact hn _ _ g2
theorem VecN.row {T : TypeId} {n : Nat} {s : Sl} {vs : List Value} (h : VecN H T n s vs) {b : Nat} (hb : s.a = some (adr b)) : ∃ ws, Row H b T ws := by
  rcases h.own with ⟨g, _⟩ | ⟨c, sp, g1, g2, _⟩
  · rw [g] at hb; cases hb
  · rw [g1] at hb; cases hb; exact ⟨_, g2⟩
/-- A lent set: two more numbers behind it. -/
structure LSet (H : Heap) (s : Sl) (xs : List Int) : Prop where
  vec : Vec H T_int ⟨s.a, xs.length + 2, s.cap⟩ (ints (xs ++ [77, 77]))
  len : s.len = xs.length
/-- A lent row: eight more instructions behind it. -/
structure LRow (H : Heap) (s : Sl) (c : List Ins) : Prop where
  vec : VecN H T_api_Instr 2 ⟨s.a, c.length + 8, s.cap⟩ ((c ++ List.replicate 8 ((77, 0) : Ins)).flatMap insV)
  len : s.len = c.length
theorem LSet.rl {s : Sl} {xs : List Int} (h : LSet H s xs) : RL (Value.int .i64) H s xs := by
  have hl := h.vec.lc
  dsimp only at hl
  have := h.vec.pre (n := xs.length) (c := s.cap) (by simp) (Nat.le_refl _) (by omega)
  have e : (ints (xs ++ [77, 77])).take xs.length = ints xs := by unfold ints; rw [List.map_append, List.take_left' (by simp)]
  rw [e] at this
  have hr := Vec.rl (f := Value.int .i64) this
  rw [← h.len] at hr
  exact hr
theorem LRow.rn {s : Sl} {c : List Ins} (h : LRow H s c) : RN insV 2 H s c := by
  have hl := h.vec.lc
  dsimp only at hl
  have := vecN_pre h.vec (j := c.length) (c := s.cap) (by dsimp only; omega) (by omega) (Nat.le_refl _)
  have e : ((c ++ List.replicate 8 ((77, 0) : Ins)).flatMap insV).take (c.length * 2) = c.flatMap insV := by
    rw [List.flatMap_append, List.take_left' (flat_len insV_len)]
  rw [e] at this
  have hr := VecN.rn insV_len (by omega) this
  rw [← h.len] at hr
  exact hr
theorem LSet.updT {M : Nat → Prop} {H' : Heap} (hu : Upd M H H') {s : Sl} {xs : List Int} (h : LSet H s xs) (hn : ∀ b ws, Row H b T_int ws → ¬ M b) : LSet H' s xs := ⟨Vec.updT hu h.vec hn, h.len⟩
theorem LRow.updT {M : Nat → Prop} {H' : Heap} (hu : Upd M H H') {s : Sl} {c : List Ins} (h : LRow H s c) (hn : ∀ b ws, Row H b T_api_Instr ws → ¬ M b) : LRow H' s c := ⟨VecN.updT hu h.vec hn, h.len⟩
theorem s_set {s : Sl} {xs : List Int} (hs : RL (Value.int .i64) H s xs) (hl : xs.length ≤ 2 ^ 44) {k : Sl → Heap → Prop} (hk : ∀ s' H', Ext H H' → LSet H' s' xs → k s' H') : CallT Pg f_hindcastlaw15_set [.slice s.a s.len s.cap] (.one (.c .sl)) H k := by
  refine c_hindcastlaw15_set _ ?_
  unfold v_hindcastlaw15_set
  have hlen := hs.len
  refine App_vec2 (ws := ints xs) (Vec.nil H T_int) hs.rd (by simp [hlen]) (fun w hw => by obtain ⟨x, _, rfl⟩ := List.mem_map.1 hw; rfl) (by omega) (by simp only [List.length_nil, List.length_map]; omega) fun l1 H1 hv1 hU1 ha1 hz1 => ?_
  have hE1 : Ext H H1 := hU1.mono fun b _ e => by cases e.1
  refine Nw_row (vs := ints [77, 77]) fun b1 H2 hb1 hE2 _ hr2 => ?_
  have hv2 := hv1.ext hE2
  have hl1 := hv1.len
  simp only [List.nil_append, List.length_map] at hl1
  refine App_vec2 (ws := ints [77, 77]) hv2 (Row.rd_all hr2) rfl (fun w hw => by obtain ⟨x, _, rfl⟩ := List.mem_map.1 hw; rfl) (by omega) (by simp only [List.nil_append, List.length_map, List.length_cons, List.length_nil]; omega) fun l2 H3 hv3 hU3 _ hz3 => ?_
  have hl2 := hv3.len
  have hc2 := hv3.lc
  simp only [List.nil_append, List.length_append, List.length_map, List.length_cons, List.length_nil] at hl2
  refine SlA0 (by omega) (by omega) (Int.le_refl _) ?_
  rw [Int.toNat_natCast, Int.toNat_natCast]
  have z1 := hE1.size
  refine hk _ _ ((hE1.trans hE2 fun _ _ h => h).trans hU3 fun b hb e => ?_) ⟨?_, by show s.len = _; omega⟩
  · rcases ha1 with ⟨g, _⟩ | g
    · rw [g] at e; cases e.1
    · rw [g] at e; cases e.1; omega
  · have : (⟨l2.a, xs.length + 2, l2.cap⟩ : Sl) = l2 := by rw [show xs.length + 2 = l2.len by omega]
    rw [this]
    simpa [ints] using hv3
theorem s_lrow {s : Sl} {c : List Ins} (hs : RN insV 2 H s c) (hl : c.length ≤ 2 ^ 43) {k : Sl → Heap → Prop} (hk : ∀ s' H', Ext H H' → LRow H' s' c → (∀ b, s'.a = some (adr b) → H.size ≤ b) → k s' H') : CallT Pg f_hindcastlaw15_row [.slice s.a s.len s.cap] (.one (.c .sl)) H k := by
  refine c_hindcastlaw15_row _ ?_
  unfold v_hindcastlaw15_row
  have hlen := hs.len
  have hone : ∀ (c : List Ins), ∀ w ∈ c.flatMap insV, w.oneCell' = true := fun c w hw => by
    obtain ⟨i, _, hi⟩ := List.mem_flatMap.1 hw
    simp only [List.mem_cons, List.not_mem_nil, or_false] at hi
    rcases hi with rfl | rfl <;> rfl
  refine App_vecN (n := 2) rfl (by omega) (VecN.nil H T_api_Instr 2) (ws := c.flatMap insV) hs.rd (by rw [flat_len insV_len, hlen]) (hone c) (by omega) (by simp only; omega) fun l1 H1 hv1 hl1 hU1 ha1 => ?_
  have hE1 : Ext H H1 := hU1.mono fun b _ e => by cases e.1
  simp only [Nat.zero_add] at hl1
  refine LoopT.mk (fun (s1 : Sl × Int) H' => ∃ n : Nat, s1.2 = n ∧ n ≤ 8 ∧ Ext H H' ∧ VecN H' T_api_Instr 2 s1.1 ((c ++ List.replicate n ((77, 0) : Ins)).flatMap insV) ∧ (∀ b, s1.1.a = some (adr b) → H.size ≤ b)) (fun s1 _ => 8 - s1.2.toNat)
    ⟨0, rfl, by omega, hE1, by simpa using hv1, fun b hb => ?_⟩ ?_
  · rcases ha1 with ⟨g, _⟩ | g
    · rw [g] at hb; cases hb
    · rw [g] at hb; cases hb; omega
  rintro next ⟨s1, _⟩ H2 ⟨n, rfl, hn, hE2, hv2, hb2⟩ hnext
  dsimp only at hv2 hb2 ⊢
  have hl2 := hv2.len
  rw [flat_len insV_len, List.length_append, List.length_replicate] at hl2
  refine Br_dec (fun hlt => ?_) fun hge => ?_
  · refine Nw_row (vs := insV (77, 0)) fun b1 H3 hb1 hE3 _ hr3 => ?_
    refine App_vecN (n := 2) rfl (by omega) (hv2.ext hE3) (ws := insV (77, 0)) (Row.rd_all hr3) rfl (by simp [Value.oneCell']) (by omega) (by simp only; omega) fun l2 H4 hv4 hl4 hU4 ha4 => ?_
    have z3 := (hE2.trans hE3 fun _ _ h => h).size
    refine Lt.mk (u := ((n + 1 : Nat) : Int)) (by rw [wrap_i64_id] <;> omega) (hnext _ _ ⟨n + 1, rfl, by omega, (hE2.trans hE3 fun _ _ h => h).trans hU4 fun b hb e => by have := hb2 b e.1; omega, ?_, fun b hb => ?_⟩ (by dsimp only; omega))
    · have : (c ++ List.replicate (n + 1) ((77, 0) : Ins)).flatMap insV = (c ++ List.replicate n ((77, 0) : Ins)).flatMap insV ++ insV (77, 0) := by
        rw [List.replicate_succ', ← List.append_assoc, List.flatMap_append]; simp
      rw [this]; exact hv4
    · rcases ha4 with ⟨g, _⟩ | g
      · rw [g] at hb; exact hb2 b hb
      · rw [g] at hb; cases hb; omega
  · have hn8 : n = 8 := by omega
    subst hn8
    have hc2 := hv2.lc
    refine SlA0 (by omega) (by omega) (Int.le_refl _) ?_
    rw [Int.toNat_natCast, Int.toNat_natCast]
    refine hk _ _ hE2 ⟨?_, by show s.len = _; omega⟩ hb2
    have : (⟨s1.a, c.length + 8, s1.cap⟩ : Sl) = s1 := by rw [show c.length + 8 = s1.len by omega]
    rw [this]; exact hv2

/-- A lent system. -/
structure LSy (H : Heap) (x : Sy) : Prop where
  set : ∀ q, q < 4 → LSet H (x.s q) (x.l q)
  row : LRow H x.rou.sl x.rou.code
theorem LSy.updT {M : Nat → Prop} {H' : Heap} (hu : Upd M H H') {x : Sy} (h : LSy H x) (h1 : ∀ b ws, Row H b T_int ws → ¬ M b) (h2 : ∀ b ws, Row H b T_api_Instr ws → ¬ M b) : LSy H' x := ⟨fun q hq => (h.set q hq).updT hu h1, h.row.updT hu h2⟩
theorem LSy.ext {H' : Heap} (hE : Ext H H') {x : Sy} (h : LSy H x) : LSy H' x := h.updT hE (fun _ _ _ h => h) fun _ _ _ h => h
theorem LRow.ext {H' : Heap} (hE : Ext H H') {s : Sl} {c : List Ins} (h : LRow H s c) : LRow H' s c := h.updT hE fun _ _ _ h => h
/-- What of a routine is its own: all but the place of its code. -/
abbrev eraR (r : Rou) : ByteArray × Int × Int × List Ins := (r.name, r.params, r.locals, r.code)
abbrev eraS (x : Sy) : (Nat → List Int) × ByteArray × Int × Int × List Ins := (x.l, eraR x.rou)
def nmBehind : ByteArray := ⟨#[98, 101, 104, 105, 110, 100]⟩
structure LentP (H : Heap) (q : Sl × Sl) (ss : List Sy) (fs : List Rou) (yb : Sy) (fb : Rou) : Prop where
  sv : VecN H T_api_System 8 ⟨q.1.a, ss.length + 1, q.1.cap⟩ ((ss ++ [yb]).flatMap sysV)
  sl : q.1.len = ss.length
  fv : VecN H T_api_Routine 4 ⟨q.2.a, fs.length + 1, q.2.cap⟩ ((fs ++ [fb]).flatMap rouV)
  fl : q.2.len = fs.length
  sy : ∀ x ∈ ss, LSy H x
  fn : ∀ r ∈ fs, LRow H r.sl r.code
  yb : Vec H T_int (yb.s 0) (ints [77])
  fb : fb.name = nmBehind
theorem LentP.ext {H' : Heap} (hE : Ext H H') {q : Sl × Sl} {ss : List Sy} {fs : List Rou} {yb : Sy} {fb : Rou} (h : LentP H q ss fs yb fb) : LentP H' q ss fs yb fb :=
  ⟨h.sv.ext hE, h.sl, h.fv.ext hE, h.fl, fun x hx => (h.sy x hx).ext hE, fun r hr => (h.fn r hr).ext hE, h.yb.ext hE, h.fb⟩
theorem rn_pre {α : Type} {f : α → List Value} {n : Nat} (hf : ∀ e, (f e).length = n) (hn : 0 < n) {T : TypeId} {s : Sl} {xs : List α} {y : α} (h : VecN H T n ⟨s.a, xs.length + 1, s.cap⟩ ((xs ++ [y]).flatMap f)) (hl : s.len = xs.length) : RN f n H s xs := by
  have hc := h.lc
  dsimp only at hc
  have := vecN_pre h (j := xs.length) (c := s.cap) (by dsimp only; omega) (by omega) (Nat.le_refl _)
  have e : ((xs ++ [y]).flatMap f).take (xs.length * n) = xs.flatMap f := by
    rw [List.flatMap_append, List.take_left' (flat_len hf)]
  rw [e] at this
  have hr := VecN.rn hf hn this
  rw [← hl] at hr
  exact hr
theorem LentP.prg {q : Sl × Sl} {ss : List Sy} {fs : List Rou} {yb : Sy} {fb : Rou} (h : LentP H q ss fs yb fb) (h1 : ∀ x ∈ ss, (∀ q, q < 4 → (x.l q).length ≤ 2 ^ 60) ∧ x.rou.code.length ≤ 2 ^ 60) (h2 : ∀ r ∈ fs, r.code.length ≤ 2 ^ 60) : PrgR H q ss fs :=
  ⟨rn_pre sysV_len (by omega) h.sv h.sl, fun x hx => ⟨fun q hq => ((h.sy x hx).set q hq).rl, (h.sy x hx).row.rn, (h1 x hx).1, (h1 x hx).2⟩, rn_pre rouV_len (by omega) h.fv h.fl, fun r hr => (h.fn r hr).rn, h2⟩
end Go.Proofs.YtlkmmplgfjicjaaGreat
/-
  Lending a program.
-/
namespace Go.Proofs.YtlkmmplgfjicjaaGreat
set_option linter.unusedVariables false
set_option linter.unusedSimpArgs false
open Go.Proofs.YtlkmmplgfjicjaaGreat.Hc Go.Proofs.YtlkmmplgfjicjaaGreat.Hc.Vf
set_option maxRecDepth 100000
variable {H : Heap}

theorem sysV_one (x : Sy) : ∀ w ∈ sysV x, w.oneCell' = true := by simp [Value.oneCell']
theorem rouV_one (x : Rou) : ∀ w ∈ rouV x, w.oneCell' = true := by simp [Value.oneCell']
theorem snocF {α : Type} (f : α → List Value) (xs : List α) (y : α) : (xs ++ [y]).flatMap f = xs.flatMap f ++ f y := by rw [List.flatMap_append]; simp
theorem s_lent {p : Sl × Sl} {ss : List Sy} {fs : List Rou} (hP : PrgI H p ss fs) {k : Sl × Sl → Heap → Prop}
    (hk : ∀ q ss' fs' yb fb H', Ext H H' → LentP H' q ss' fs' yb fb → (∀ b, q.1.a = some (adr b) ∨ q.2.a = some (adr b) → H.size ≤ b) → (ss'.map (·.rou.sl) ++ fs'.map (·.sl)).Pairwise Apart → (∀ sl ∈ ss'.map (·.rou.sl) ++ fs'.map (·.sl), ∀ b, sl.a = some (adr b) → H.size ≤ b) → ss'.map eraS = ss.map eraS → fs'.map eraR = fs.map eraR → k q H') : CallT Pg f_hindcastlaw15_lent [prgA p] (.one (.agg [.sl, .sl])) H k := by
  refine c_hindcastlaw15_lent p ?_
  unfold v_hindcastlaw15_lent
  refine Nw_row (vs := [slV p.1, slV p.2]) fun b1 H1 hb1 hE1 _ hr1 => Nw_row (vs := [slV ⟨none, 0, 0⟩, slV ⟨none, 0, 0⟩]) fun b2 H2 hb2 hE2 _ hr2 => Nw_row (vs := [slV ⟨none, 0, 0⟩, slV ⟨none, 0, 0⟩]) fun b3 H3 hb3 hE3 _ hr3 => ?_
  simp only [adr_add, mk_add]
  have z1 := hE1.size
  have z2 := hE2.size
  have l2 := hr2.lt
  have hE2' := hE1.trans hE2 fun _ _ h => h
  have hp : ∀ {Hx}, Ext H2 Hx → Row Hx b1 T_api_Program [slV p.1, slV p.2] := fun hE => hE.row (hE2.row hr1 fun h => h) fun h => h
  have hPx : ∀ {Hx}, Ext H2 Hx → PrgR Hx p ss fs := fun hE => hP.prg.ext (hE2'.trans hE fun _ _ h => h)
  have hq2 : ∀ {Hx}, Ext H2 Hx → Row Hx b2 T_api_Program [slV ⟨none, 0, 0⟩, slV ⟨none, 0, 0⟩] := fun hE => hE.row hr2 fun h => h
  have hsl := hP.sys.len
  have hfl := hP.fun'.len
  have hsn := hP.sl
  have hfn := hP.fl
  refine LoopT.mk (fun (i : Int) H' => ∃ (n : Nat) (ss' : List Sy) (s : Sl), i = n ∧ n ≤ ss.length ∧ ss'.map eraS = (ss.take n).map eraS ∧ Ext H2 H' ∧ Row H' b3 T_api_Program [slV s, slV ⟨none, 0, 0⟩] ∧ VecN H' T_api_System 8 s (ss'.flatMap sysV) ∧ (∀ b, s.a = some (adr b) → H2.size ≤ b) ∧ (∀ x ∈ ss', LSy H' x) ∧ (ss'.map (·.rou.sl)).Pairwise Apart ∧ ∀ x ∈ ss', ∀ b, x.rou.sl.a = some (adr b) → H2.size ≤ b) (fun i _ => ss.length - i.toNat)
    ⟨0, [], ⟨none, 0, 0⟩, rfl, Nat.zero_le _, rfl, hE3, hr3, VecN.nil _ _ _, fun b hb => (by cases hb), fun x hx => (by cases hx), List.Pairwise.nil, fun x hx => (by cases hx)⟩ ?_
  rintro next _ H4 ⟨n, ss', s, rfl, hn, hera, hE4, hr34, hv4, hsb, hls, hap, hrlo⟩ hnext
  have hss'l : ss'.length = n := by
    have := congrArg List.length hera
    simp only [List.length_map, List.length_take] at this; omega
  have hslen := hv4.len
  rw [flat_len sysV_len, hss'l] at hslen
  refine Ld_sl (s := p.1) (((hp hE4).cell 0).trans rfl) (Br_dec (fun hlt => ?_) fun hge => ?_)
  · have hn3 : n < ss.length := by omega
    refine Ld_sl (s := p.1) (((hp hE4).cell 0).trans rfl) (IxA_rn' sysV_len (hPx hE4).sys (by omega) (j := n) rfl hn3 fun a ha => ?_)
    have hmem : ss[n]! ∈ ss := by rw [getElem!_pos ss n hn3]; exact List.getElem_mem hn3
    have hxR : ∀ {Hx}, Ext H2 Hx → SyR Hx (ss[n]!) := fun hE => (hPx hE).sysR _ hmem
    have hxI := hP.sysR _ hmem
    have htk : ss.take (n + 1) = ss.take n ++ [ss[n]!] := by rw [List.take_add_one, List.getElem?_eq_getElem hn3, getElem!_pos ss n hn3]; rfl
    generalize ss[n]! = x at *
    refine ld_sys ha (sys_copy (x := x) fun b4 H13 hb4 hE13 hr13 => ?_)
    have hE13' := hE4.trans hE13 fun _ _ h => h
    refine Ld_sl (s := x.s 0) ((hr13.cell 0).trans rfl) (s_set ((hxR hE13').sets 0 (by omega)) (hxI.lens 0 (by omega)) fun r0 H14 hE14 hR0 => ?_)
    have hE14' := hE13'.trans hE14 fun _ _ h => h
    have nI : ∀ {Hx : Heap} {vs : List Value}, Row Hx b4 T_api_System vs → ∀ b ws, Row Hx b T_int ws → ¬ b = b4 := fun h b ws hw => hw.ne h (by decide)
    refine St_row (hE14.row hr13 fun h => h) (by simp) fun H15 hU15 z15 hr15 => ?_
    have hx4 : H4.size ≤ b4 := by omega
    have hu15 : Ext H4 H15 := (hE13.trans hE14 fun _ _ h => h).trans hU15 fun b hb e => by omega
    have hE15' := hE4.trans hu15 fun _ _ h => h
    refine Ld_sl (s := x.s 1) ((hr15.cell 1).trans rfl) (s_set ((hxR hE15').sets 1 (by omega)) (hxI.lens 1 (by omega)) fun r1 H16 hE16 hR1 => ?_)
    refine St_row (hE16.row hr15 fun h => h) (by simp) fun H17 hU17 z17 hr17 => ?_
    have hu17 : Ext H4 H17 := (hu15.trans hE16 fun _ _ h => h).trans hU17 fun b hb e => by omega
    have hE17' := hE4.trans hu17 fun _ _ h => h
    refine Ld_sl (s := x.s 2) ((hr17.cell 2).trans rfl) (s_set ((hxR hE17').sets 2 (by omega)) (hxI.lens 2 (by omega)) fun r2 H18 hE18 hR2 => ?_)
    refine St_row (hE18.row hr17 fun h => h) (by simp) fun H19 hU19 z19 hr19 => ?_
    have hu19 : Ext H4 H19 := (hu17.trans hE18 fun _ _ h => h).trans hU19 fun b hb e => by omega
    have hE19' := hE4.trans hu19 fun _ _ h => h
    refine Ld_sl (s := x.s 3) ((hr19.cell 3).trans rfl) (s_set ((hxR hE19').sets 3 (by omega)) (hxI.lens 3 (by omega)) fun r3 H20 hE20 hR3 => ?_)
    refine St_row (hE20.row hr19 fun h => h) (by simp) fun H21 hU21 z21 hr21 => ?_
    have hu21 : Ext H4 H21 := (hu19.trans hE20 fun _ _ h => h).trans hU21 fun b hb e => by omega
    have hE21' := hE4.trans hu21 fun _ _ h => h
    refine Ld_sl (s := x.rou.sl) ((hr21.cell 7).trans rfl) (s_lrow (hxR hE21').code hxI.rou.len fun r5 H22 hE22 hR5 hR5lo => ?_)
    refine St_row (hE22.row hr21 fun h => h) (by simp) fun H23 hU23 z23 hr23 => ?_
    have hu23 : Ext H4 H23 := (hu21.trans hE22 fun _ _ h => h).trans hU23 fun b hb e => by omega
    have hE23' := hE4.trans hu23 fun _ _ h => h
    let x' : Sy := ⟨pick4 r0 r1 r2 r3, x.l, ⟨x.rou.name, x.rou.params, x.rou.locals, r5, x.rou.code⟩⟩
    have hr23 : Row H23 b4 T_api_System (sysV x') := hr23
    have nR : ∀ {Hx : Heap} {vs : List Value}, Row Hx b4 T_api_System vs → ∀ b ws, Row Hx b T_api_Instr ws → ¬ b = b4 := fun h b ws hw => hw.ne h (by decide)
    have k0 : LSet H15 r0 (x.l 0) := hR0.updT hU15 (nI (hE14.row hr13 fun h => h))
    have g16 := hE16.row hr15 fun h => h
    have g18 := hE18.row hr17 fun h => h
    have g20 := hE20.row hr19 fun h => h
    have g22 := hE22.row hr21 fun h => h
    have e0 : ∀ {Ha Hb : Heap} {s : Sl} {xs : List Int}, Ext Ha Hb → LSet Ha s xs → LSet Hb s xs := fun hE h => h.updT hE fun _ _ _ h => h
    have k1 : LSet H17 r0 (x.l 0) ∧ LSet H17 r1 (x.l 1) := ⟨(e0 hE16 k0).updT hU17 (nI g16), hR1.updT hU17 (nI g16)⟩
    have k2 : LSet H19 r0 (x.l 0) ∧ LSet H19 r1 (x.l 1) ∧ LSet H19 r2 (x.l 2) := ⟨(e0 hE18 k1.1).updT hU19 (nI g18), (e0 hE18 k1.2).updT hU19 (nI g18), hR2.updT hU19 (nI g18)⟩
    have k3 : LSet H21 r0 (x.l 0) ∧ LSet H21 r1 (x.l 1) ∧ LSet H21 r2 (x.l 2) ∧ LSet H21 r3 (x.l 3) := ⟨(e0 hE20 k2.1).updT hU21 (nI g20), (e0 hE20 k2.2.1).updT hU21 (nI g20), (e0 hE20 k2.2.2).updT hU21 (nI g20), hR3.updT hU21 (nI g20)⟩
    have hlx : LSy H23 x' := by
      refine ⟨fun q hq => ?_, hR5.updT hU23 (nR g22)⟩
      match q, hq with
      | 0, _ => exact (e0 hE22 k3.1).updT hU23 (nI g22)
      | 1, _ => exact (e0 hE22 k3.2.1).updT hU23 (nI g22)
      | 2, _ => exact (e0 hE22 k3.2.2.1).updT hU23 (nI g22)
      | 3, _ => exact (e0 hE22 k3.2.2.2).updT hU23 (nI g22)
    have hr323 := hu23.row hr34 fun h => h
    refine Ld_sl (s := s) ((hr323.cell 0).trans rfl) (ld_sys (x := x') (Row.rd_all hr23) ?_)
    refine Nw_row (vs := sysV x') fun b5 H24 hb5 hE24 _ hr24 => ?_
    have hu24 := hu23.trans hE24 fun _ _ h => h
    have hv24 := hv4.ext hu24
    have hr324 := hE24.row hr323 fun h => h
    refine App_vecN (n := 8) rfl (by omega) hv24 (ws := sysV x') (Row.rd_all hr24) rfl (sysV_one x') (by omega) (by simp only; omega) fun l1 H25 hv25 hl25 hU25 ha25 => ?_
    have M25 : ∀ b T ws, Row H24 b T ws → T ≠ T_api_System → ¬ (s.a = some (adr b) ∧ s.len + 1 ≤ s.cap) := fun b T ws hw hT e => hv24.ne e.1 hw hT.symm rfl
    have hr325 : Row H25 b3 T_api_Program [slV s, slV ⟨none, 0, 0⟩] := hU25.row hr324 (M25 _ _ _ hr324 (by decide))
    have hE25 : Ext H2 H25 := (hE4.trans hu24 fun _ _ h => h).trans hU25 fun b hb e => by have := hsb b e.1; omega
    refine St_row hr325 (by simp) fun H26 hU26 z26 hr326 => ?_
    have z4 := hE4.size
    have n26 : ∀ b T ws, Row H25 b T ws → T ≠ T_api_Program → ¬ b = b3 := fun b T ws hw hT => hw.ne hr325 hT
    refine Lt.mk (u := ((n + 1 : Nat) : Int)) (by rw [wrap_i64_id] <;> omega) (hnext _ _ ⟨n + 1, ss' ++ [x'], l1, rfl, hn3, ?_, hE25.trans hU26 fun b hb e => by omega, hr326, ?_, fun b hb => ?_, fun y hy => ?_, ?_, fun y hy b hb => ?_⟩ (by omega))
    · rw [htk, List.map_append, List.map_append, hera]; rfl
    · rw [snocF]
      exact VecN.updT hU26 hv25 fun b ws hw => n26 b _ ws hw (by decide)
    · have z24 := (hE4.trans hu24 fun _ _ h => h).size
      rcases ha25 with ⟨g, _⟩ | g
      · rw [g] at hb; exact hsb b hb
      · rw [g] at hb; cases hb; omega
    · have h24 : LSy H24 y := by
        rcases List.mem_append.1 hy with g | g
        · exact (hls y g).ext hu24
        · rw [List.mem_singleton] at g; subst g; exact hlx.ext hE24
      have h25 : LSy H25 y := h24.updT hU25 (fun b ws hw => M25 b _ ws hw (by decide)) fun b ws hw => M25 b _ ws hw (by decide)
      exact h25.updT hU26 (fun b ws hw => n26 b _ ws hw (by decide)) fun b ws hw => n26 b _ ws hw (by decide)
    · have z21 := hu21.size
      rw [List.map_append, List.pairwise_append]
      refine ⟨hap, List.pairwise_singleton _ _, fun a ha c hc => ?_⟩
      rw [List.map_singleton, List.mem_singleton] at hc
      subst hc
      obtain ⟨y, hy, rfl⟩ := List.mem_map.1 ha
      intro b hb hb'
      have h1 : b < H4.size := (hls y hy).row.vec.lt (b := b) hb
      have h2 := hR5lo b hb'
      omega
    · rcases List.mem_append.1 hy with g | g
      · exact hrlo y g b hb
      · rw [List.mem_singleton] at g; subst g
        have := hR5lo b hb
        have := hE21'.size
        omega
  · have hne : n = ss.length := by omega
    subst hne
    rw [List.take_length] at hera
    refine LoopT.mk (fun (i : Int) H' => ∃ (n : Nat) (fs' : List Rou) (t : Sl), i = n ∧ n ≤ fs.length ∧ fs'.map eraR = (fs.take n).map eraR ∧ Ext H2 H' ∧ Row H' b3 T_api_Program [slV s, slV t] ∧ VecN H' T_api_System 8 s (ss'.flatMap sysV) ∧ VecN H' T_api_Routine 4 t (fs'.flatMap rouV) ∧ (∀ b, t.a = some (adr b) → H2.size ≤ b) ∧ (∀ x ∈ ss', LSy H' x) ∧ (∀ r ∈ fs', LRow H' r.sl r.code) ∧ (ss'.map (·.rou.sl) ++ fs'.map (·.sl)).Pairwise Apart ∧ ∀ r ∈ fs', ∀ b, r.sl.a = some (adr b) → H2.size ≤ b) (fun i _ => fs.length - i.toNat)
      ⟨0, [], ⟨none, 0, 0⟩, rfl, Nat.zero_le _, rfl, hE4, hr34, hv4, VecN.nil _ _ _, (fun b hb => by cases hb), hls, (fun x hx => by cases hx), by simpa using hap, fun x hx => (by cases hx)⟩ ?_
    rintro next2 _ H5 ⟨n, fs', t, rfl, hn2, hera2, hE5, hr35, hv5, ht5, htb, hls5, hlf5, hap5, hflo⟩ hnext2
    have hfs'l : fs'.length = n := by
      have := congrArg List.length hera2
      simp only [List.length_map, List.length_take] at this; omega
    have htlen := ht5.len
    rw [flat_len rouV_len, hfs'l] at htlen
    refine Ld_sl (s := p.2) (((hp hE5).cell 1).trans rfl) (Br_dec (fun hlt2 => ?_) fun hge2 => ?_)
    · have hn3 : n < fs.length := by omega
      refine Ld_sl (s := p.2) (((hp hE5).cell 1).trans rfl) (IxA_rn' rouV_len (hPx hE5).fun' (by omega) (j := n) rfl hn3 fun a ha => ?_)
      have hmem : fs[n]! ∈ fs := by rw [getElem!_pos fs n hn3]; exact List.getElem_mem hn3
      have hxR : ∀ {Hx}, Ext H2 Hx → CodeR Hx (fs[n]!) := fun hE => (hPx hE).funR _ hmem
      have hxI := hP.funR _ hmem
      have htk : fs.take (n + 1) = fs.take n ++ [fs[n]!] := by rw [List.take_add_one, List.getElem?_eq_getElem hn3, getElem!_pos fs n hn3]; rfl
      generalize fs[n]! = x at *
      refine ld_rou (r := x) ha ?_
      have hcp := rou_copy (H := H5) (x := x) (K := fun b6 H32 => Ld .sl ⟨b6, 3, none⟩ H32 fun (x11 : Sl) =>
            CallT Pg f_hindcastlaw15_row [.slice x11.a x11.len x11.cap] (.one (.c .sl)) H32 fun (r6 : Sl) H33 =>
            St ⟨b6, 3, none⟩ (.slice r6.a r6.len r6.cap) H33 fun H34 =>
            Ld .sl ⟨b3, 1, none⟩ H34 fun (x12 : Sl) =>
            LdC [.str, (.int .i64), (.int .i64), .sl] (adr b6) H34 fun (c4 : ByteArray × Int × Int × Sl) =>
            Nw #[.string c4.1, .int .i64 c4.2.1, .int .i64 c4.2.2.1, .slice c4.2.2.2.a c4.2.2.2.len c4.2.2.2.cap] T_api_Routine H34 fun b7 H35 =>
            App T_api_Routine 4 56 #[.string ByteArray.empty, .int .i64 0, .int .i64 0, .slice none 0 0] x12 ⟨some (adr b7), 1, 1⟩ H35 fun l2 H36 =>
            St ⟨b3, 1, none⟩ (.slice l2.a l2.len l2.cap) H36 fun H37 =>
            Lt (IntKind.wrap .i64 ((n : Int) + 1)) fun t2 =>
            next2 t2 H37) fun b6 H32 hb6 hE32 hr32 => ?_
      · simpa only [adr_add] using hcp
      have hE32' := hE5.trans hE32 fun _ _ h => h
      refine Ld_sl (s := x.sl) ((hr32.cell 3).trans rfl) (s_lrow (hxR hE32') hxI.len fun r6 H33 hE33 hR6 hR6lo => ?_)
      have g33 := hE33.row hr32 fun h => h
      refine St_row g33 (by simp) fun H34 hU34 z34 hr34' => ?_
      have hu34 : Ext H5 H34 := (hE32.trans hE33 fun _ _ h => h).trans hU34 fun b hb e => by omega
      let x' : Rou := ⟨x.name, x.params, x.locals, r6, x.code⟩
      have hr34'' : Row H34 b6 T_api_Routine (rouV x') := hr34'
      have hlx : LRow H34 x'.sl x'.code := hR6.updT hU34 fun b ws hw => hw.ne g33 (by decide)
      have hr334 := hu34.row hr35 fun h => h
      refine Ld_sl (s := t) ((hr334.cell 1).trans rfl) (ld_rou (r := x') (Row.rd_all hr34'') ?_)
      refine Nw_row (vs := rouV x') fun b7 H35 hb7 hE35 _ hr735 => ?_
      have hu35 := hu34.trans hE35 fun _ _ h => h
      have ht35 := ht5.ext hu35
      have hr335 := hE35.row hr334 fun h => h
      refine App_vecN (n := 4) rfl (by omega) ht35 (ws := rouV x') (Row.rd_all hr735) rfl (rouV_one x') (by omega) (by simp only; omega) fun l2 H36 ht36 hl36 hU36 ha36 => ?_
      have M36 : ∀ b T ws, Row H35 b T ws → T ≠ T_api_Routine → ¬ (t.a = some (adr b) ∧ t.len + 1 ≤ t.cap) := fun b T ws hw hT e => ht35.ne e.1 hw hT.symm rfl
      have hr336 : Row H36 b3 T_api_Program [slV s, slV t] := hU36.row hr335 (M36 _ _ _ hr335 (by decide))
      have hE36 : Ext H2 H36 := (hE5.trans hu35 fun _ _ h => h).trans hU36 fun b hb e => by have := htb b e.1; omega
      refine St_row hr336 (by simp) fun H37 hU37 z37 hr337 => ?_
      have n37 : ∀ b T ws, Row H36 b T ws → T ≠ T_api_Program → ¬ b = b3 := fun b T ws hw hT => hw.ne hr336 hT
      refine Lt.mk (u := ((n + 1 : Nat) : Int)) (by rw [wrap_i64_id] <;> omega) (hnext2 _ _ ⟨n + 1, fs' ++ [x'], l2, rfl, hn3, ?_, hE36.trans hU37 fun b hb e => by omega, hr337, ?_, ?_, fun b hb => ?_, fun y hy => ?_, fun y hy => ?_, ?_, fun y hy b hb => ?_⟩ (by omega))
      · rw [htk, List.map_append, List.map_append, hera2]; rfl
      · exact VecN.updT hU37 (VecN.updT hU36 (hv5.ext hu35) fun b ws hw => M36 b _ ws hw (by decide)) fun b ws hw => n37 b _ ws hw (by decide)
      · rw [snocF]
        exact VecN.updT hU37 ht36 fun b ws hw => n37 b _ ws hw (by decide)
      · have z35 := (hE5.trans hu35 fun _ _ h => h).size
        rcases ha36 with ⟨g, _⟩ | g
        · rw [g] at hb; exact htb b hb
        · rw [g] at hb; cases hb; omega
      · have h36 : LSy H36 y := ((hls5 y hy).ext hu35).updT hU36 (fun b ws hw => M36 b _ ws hw (by decide)) fun b ws hw => M36 b _ ws hw (by decide)
        exact h36.updT hU37 (fun b ws hw => n37 b _ ws hw (by decide)) fun b ws hw => n37 b _ ws hw (by decide)
      · have h35 : LRow H35 y.sl y.code := by
          rcases List.mem_append.1 hy with g | g
          · exact (hlf5 y g).ext hu35
          · rw [List.mem_singleton] at g; subst g; exact hlx.ext hE35
        have h36 : LRow H36 y.sl y.code := h35.updT hU36 fun b ws hw => M36 b _ ws hw (by decide)
        exact h36.updT hU37 fun b ws hw => n37 b _ ws hw (by decide)
      · have z32 := hE32.size
        rw [List.map_append, ← List.append_assoc, List.pairwise_append]
        refine ⟨hap5, List.pairwise_singleton _ _, fun a ha c hc => ?_⟩
        rw [List.map_singleton, List.mem_singleton] at hc
        subst hc
        intro b hb hb'
        have h2 := hR6lo b hb'
        have h1 : b < H5.size := by
          rcases List.mem_append.1 ha with g | g
          · obtain ⟨y, hy, rfl⟩ := List.mem_map.1 g
            exact (hls5 y hy).row.vec.lt (b := b) hb
          · obtain ⟨y, hy, rfl⟩ := List.mem_map.1 g
            exact (hlf5 y hy).vec.lt (b := b) hb
        omega
      · rcases List.mem_append.1 hy with g | g
        · exact hflo y g b hb
        · rw [List.mem_singleton] at g; subst g
          have := hR6lo b hb
          have := hE32'.size
          omega
    · have hne : n = fs.length := by omega
      subst hne
      rw [List.take_length] at hera2
      refine Ld_sl (s := s) ((hr35.cell 0).trans rfl) (Ld_sl (s := t) ((hr35.cell 1).trans rfl) (Ld_sl (s := s) ((hr35.cell 0).trans rfl) ?_))
      refine Nw_row (vs := ints [77]) fun b8 H38 hb8 hE38 _ hr838 => ?_
      let yb : Sy := ⟨pick4 ⟨some (adr b8), 1, 1⟩ ⟨none, 0, 0⟩ ⟨none, 0, 0⟩ ⟨none, 0, 0⟩, fun _ => [], ⟨ByteArray.empty, 0, 0, ⟨none, 0, 0⟩, []⟩⟩
      refine Nw_row (vs := sysV yb) fun b9 H39 hb9 hE39 _ hr939 => ?_
      have hu39 := hE38.trans hE39 fun _ _ h => h
      have hv39 := hv5.ext hu39
      have hr339 := hu39.row hr35 fun h => h
      have hyb39 : Vec H39 T_int ⟨some (adr b8), 1, 1⟩ (ints [77]) := ⟨rfl, .inr ⟨b8, [], rfl, by simpa using hE39.row hr838 fun h => h, by simp⟩, Nat.le_refl _⟩
      refine App_vecN (n := 8) rfl (by omega) hv39 (ws := sysV yb) (Row.rd_all hr939) rfl (sysV_one yb) (by omega) (by simp only; omega) fun l3 H40 hv40 hl40 hU40 ha40 => ?_
      have M40 : ∀ b T ws, Row H39 b T ws → T ≠ T_api_System → ¬ (s.a = some (adr b) ∧ s.len + 1 ≤ s.cap) := fun b T ws hw hT e => hv39.ne e.1 hw hT.symm rfl
      have hc40 := hv40.lc
      simp only at hl40
      refine SlA0 (by omega) (by omega) (Int.le_refl _) ?_
      rw [Int.toNat_natCast, Int.toNat_natCast]
      have hr340 : Row H40 b3 T_api_Program [slV s, slV t] := hU40.row hr339 (M40 _ _ _ hr339 (by decide))
      have hE40 : Ext H2 H40 := (hE5.trans hu39 fun _ _ h => h).trans hU40 fun b hb e => by have := hsb b e.1; omega
      refine St_row hr340 (by simp) fun H41 hU41 z41 hr341 => ?_
      have n41 : ∀ b T ws, Row H40 b T ws → T ≠ T_api_Program → ¬ b = b3 := fun b T ws hw hT => hw.ne hr340 hT
      refine Ld_sl (s := t) ((hr341.cell 1).trans rfl) ?_
      let fb : Rou := ⟨nmBehind, 0, 0, ⟨none, 0, 0⟩, []⟩
      refine Nw_row (vs := rouV fb) fun b10 H42 hb10 hE42 _ hr1042 => ?_
      have up : ∀ {T : TypeId} {m : Nat} {sx : Sl} {vs : List Value}, T ≠ T_api_System → T ≠ T_api_Program → VecN H5 T m sx vs → VecN H42 T m sx vs := fun h1 h2 hv =>
        (VecN.updT hU41 (VecN.updT hU40 (hv.ext hu39) fun b ws hw => M40 b _ ws hw h1) fun b ws hw => n41 b _ ws hw h2).ext hE42
      have ht42 := up (by decide) (by decide) ht5
      have hv42 : VecN H42 T_api_System 8 l3 (ss'.flatMap sysV ++ sysV yb) := (VecN.updT hU41 hv40 fun b ws hw => n41 b _ ws hw (by decide)).ext hE42
      have hls42 : ∀ y ∈ ss', LSy H42 y := fun y hy => (((((hls5 y hy).ext hu39).updT hU40 (fun b ws hw => M40 b _ ws hw (by decide)) fun b ws hw => M40 b _ ws hw (by decide))).updT hU41 (fun b ws hw => n41 b _ ws hw (by decide)) fun b ws hw => n41 b _ ws hw (by decide)).ext hE42
      have hlf42 : ∀ y ∈ fs', LRow H42 y.sl y.code := fun y hy => ((((hlf5 y hy).ext hu39).updT hU40 (fun b ws hw => M40 b _ ws hw (by decide))).updT hU41 (fun b ws hw => n41 b _ ws hw (by decide))).ext hE42
      have hyb42 : Vec H42 T_int ⟨some (adr b8), 1, 1⟩ (ints [77]) := (Vec.updT hU41 (Vec.updT hU40 hyb39 fun b ws hw => M40 b _ ws hw (by decide)) fun b ws hw => n41 b _ ws hw (by decide)).ext hE42
      have hr342 := hE42.row hr341 fun h => h
      refine App_vecN (n := 4) rfl (by omega) ht42 (ws := rouV fb) (Row.rd_all hr1042) rfl (rouV_one fb) (by omega) (by simp only; omega) fun l5 H43 ht43 hl43 hU43 ha43 => ?_
      have M43 : ∀ b T ws, Row H42 b T ws → T ≠ T_api_Routine → ¬ (t.a = some (adr b) ∧ t.len + 1 ≤ t.cap) := fun b T ws hw hT e => ht42.ne e.1 hw hT.symm rfl
      have hc43 := ht43.lc
      simp only at hl43
      refine SlA0 (by omega) (by omega) (Int.le_refl _) ?_
      rw [Int.toNat_natCast, Int.toNat_natCast]
      have hr343 := hU43.row hr342 (M43 _ _ _ hr342 (by decide))
      have hE42' : Ext H2 H42 := (hE40.trans hU41 fun b hb e => by omega).trans hE42 fun _ _ h => h
      have hE43 : Ext H2 H43 := hE42'.trans hU43 fun b hb e => by have := htb b e.1; omega
      refine St_row hr343 (by simp) fun H44 hU44 z44 hr344 => ?_
      have n44 : ∀ b T ws, Row H43 b T ws → T ≠ T_api_Program → ¬ b = b3 := fun b T ws hw hT => hw.ne hr343 hT
      have hE44 : Ext H2 H44 := hE43.trans hU44 fun b hb e => by omega
      let q : Sl × Sl := (⟨l3.a, s.len, l3.cap⟩, ⟨l5.a, t.len, l5.cap⟩)
      have hr344' : Row H44 b3 T_api_Program [slV q.1, slV q.2] := hr344
      refine ⟨q, Row.rd_all hr344', ?_⟩
      have hq244 := hq2 hE44
      refine St_row hq244 (by simp) fun H45 hU45 z45 hr245 => St_row hr245 (by simp) fun H46 hU46 z46 hr246 => ?_
      have hr246' : Row H46 b2 T_api_Program [slV q.1, slV q.2] := hr246
      have hU46' : Upd (· = b2) H44 H46 := hU45.trans hU46 fun _ _ h => h
      have n46 : ∀ b T ws, Row H44 b T ws → T ≠ T_api_Program → ¬ b = b2 := fun b T ws hw hT => hw.ne hq244 hT
      refine ⟨q, Row.rd_all hr246', hk q ss' fs' yb fb H46 ?_ ?_ (fun b hb => ?_) hap5 (fun sl hsl b hb => ?_) hera hera2⟩
      · refine (hE2'.trans hE44 fun _ _ h => h).trans hU46' fun b hb e => by omega
      · refine ⟨?_, ?_, ?_, ?_, fun y hy => ?_, fun y hy => ?_, ?_, rfl⟩
        · have e : (⟨l3.a, ss'.length + 1, l3.cap⟩ : Sl) = l3 := by rw [show ss'.length + 1 = l3.len by omega]
          show VecN H46 T_api_System 8 ⟨l3.a, ss'.length + 1, l3.cap⟩ _
          rw [e, snocF]
          exact VecN.updT hU46' (VecN.updT hU44 (VecN.updT hU43 hv42 fun b ws hw => M43 b _ ws hw (by decide)) fun b ws hw => n44 b _ ws hw (by decide)) fun b ws hw => n46 b _ ws hw (by decide)
        · show s.len = ss'.length; omega
        · have e : (⟨l5.a, fs'.length + 1, l5.cap⟩ : Sl) = l5 := by rw [show fs'.length + 1 = l5.len by omega]
          show VecN H46 T_api_Routine 4 ⟨l5.a, fs'.length + 1, l5.cap⟩ _
          rw [e, snocF]
          exact VecN.updT hU46' (VecN.updT hU44 ht43 fun b ws hw => n44 b _ ws hw (by decide)) fun b ws hw => n46 b _ ws hw (by decide)
        · show t.len = fs'.length; omega
        · exact (((hls42 y hy).updT hU43 (fun b ws hw => M43 b _ ws hw (by decide)) fun b ws hw => M43 b _ ws hw (by decide)).updT hU44 (fun b ws hw => n44 b _ ws hw (by decide)) fun b ws hw => n44 b _ ws hw (by decide)).updT hU46' (fun b ws hw => n46 b _ ws hw (by decide)) fun b ws hw => n46 b _ ws hw (by decide)
        · exact (((hlf42 y hy).updT hU43 (fun b ws hw => M43 b _ ws hw (by decide))).updT hU44 (fun b ws hw => n44 b _ ws hw (by decide))).updT hU46' (fun b ws hw => n46 b _ ws hw (by decide))
        · exact Vec.updT hU46' (Vec.updT hU44 (Vec.updT hU43 hyb42 fun b ws hw => M43 b _ ws hw (by decide)) fun b ws hw => n44 b _ ws hw (by decide)) fun b ws hw => n46 b _ ws hw (by decide)
      · have z39 := (hE5.trans hu39 fun _ _ h => h).size
        have z42 := hE42'.size
        rcases hb with hb | hb
        · have hb : l3.a = some (adr b) := hb
          rcases ha40 with ⟨g, _⟩ | g
          · rw [g] at hb; have := hsb b hb; omega
          · rw [g] at hb; cases hb; omega
        · have hb : l5.a = some (adr b) := hb
          rcases ha43 with ⟨g, _⟩ | g
          · rw [g] at hb; have := htb b hb; omega
          · rw [g] at hb; cases hb; omega
      · have z2' := hE2'.size
        rcases List.mem_append.1 hsl with g | g
        · obtain ⟨y, hy, rfl⟩ := List.mem_map.1 g
          have := hrlo y hy b hb; omega
        · obtain ⟨y, hy, rfl⟩ := List.mem_map.1 g
          have := hflo y hy b hb; omega
end Go.Proofs.YtlkmmplgfjicjaaGreat
