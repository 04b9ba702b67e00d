/-
  All ways are gone.
-/
import Derived.Test.YtfpmgpblhhcpgaaGreatVC
import Derived.Test.YtfpmgpblhhcpgaaGreatVVer
namespace Go.Proofs.YtfpmgpblhhcpgaaGreat
set_option linter.unusedVariables false
set_option linter.unusedSimpArgs false
set_option maxRecDepth 100000
section
open Hc Hc.Vf
variable {H : Heap}
abbrev stV (x : Nat × Nat) : List Value := [.int .i64 (x.1 : Nat), .int .i64 (x.2 : Nat)]
theorem stV_len (x : Nat × Nat) : (stV x).length = 2 := rfl
theorem Row.neMap {b r : Nat} {T : TypeId} {vs : List Value} {es : Array MapEntry} {cl : Nat} (h : Row H b T vs) (hr : H[r]? = some (.map es cl)) : b ≠ r := by
  rintro rfl
  unfold Row at h
  rw [h] at hr; cases hr
theorem IxA_StV_vec {T : TypeId} {t : Sl} {vs : List Value} (h : Vec H T t vs) {i : Int} {j : Nat} {v : Value} {k : Heap → Prop} (hone : v.oneCell' = true) (hj : i = j) (hl : j < vs.length)
    (hk : ∀ H', Vec H' T t (vs.set j v) → Upd (fun b => t.a = some (adr b)) H H' → H'.size = H.size → k H') : IxA 1 t i fun a => StV a v H k := by
  obtain ⟨a, h1, h2, h3, h4⟩ := IxA_St_vec' h hj hl hk
  exact ⟨a, h1, h2, h3, hone, h4⟩
theorem IxA_raw {T : TypeId} {t : Sl} {vs : List Value} (h : Vec H T t vs) {i : Int} {j : Nat} {k : Value → Prop} (hj : i = j) (hl : j < vs.length) (hk : k vs[j]!) : IxA 1 t i fun a => Ld .raw a H k := by
  refine IxA_vec h (by omega) (by omega) fun a ha _ => ⟨vs[j]!, ?_, hk⟩
  rw [ha, hj, Int.toNat_natCast, List.getElem?_eq_getElem hl, getElem!_pos vs j hl]; rfl
def tot (D : List (List Nat)) : Nat := (D.map List.length).sum
theorem tot_set : ∀ {D : List (List Nat)} {i : Nat} {d : Nat}, i < D.length → tot (D.set i (D[i]! ++ [d])) = tot D + 1
  | x :: D, 0, d, _ => by simp [tot]; omega
  | x :: D, i + 1, d, h => by
    have := tot_set (D := D) (i := i) (d := d) (by simpa using h)
    unfold tot at this ⊢
    simp only [List.set_cons_succ, List.map_cons, List.sum_cons, List.getElem!_cons_succ] at this ⊢
    omega
theorem tot_le : ∀ {D : List (List Nat)}, (∀ x ∈ D, x.Nodup ∧ ∀ d ∈ x, d ≤ 64) → tot D ≤ 65 * D.length
  | [], _ => by simp [tot]
  | x :: D, h => by
    obtain ⟨h1, h2⟩ := h x (List.mem_cons_self ..)
    have h3 : x.length ≤ (List.range 65).length := h1.length_le_of_subset fun d hd => List.mem_range.2 (by have := h2 d hd; omega)
    rw [List.length_range] at h3
    have := tot_le fun y hy => h y (List.mem_cons_of_mem _ hy)
    unfold tot at this ⊢
    simp only [List.map_cons, List.sum_cons, List.length_cons]
    omega
structure RSt (lo : Nat) (H : Heap) (b1 b2 : Nat) (r : Rou) (fsl dl : Sl) (ms : List Value) (D : List (List Nat)) : Prop where
  row : Row H b1 TQak (rouV r)
  flow : FlowR H b2 r fsl dl
  dv : Vec H TQa2 dl ms
  ml : ms.length = r.code.length
  dl' : D.length = r.code.length
  mp : ∀ i, i < ms.length → MapI H ms[i]! D[i]!
  inj : ∀ i j q, i < ms.length → j < ms.length → ms[i]! = .map (some q) → ms[j]! = .map (some q) → i = j
  nd : ∀ i, i < D.length → (D[i]!).Nodup
  f1 : lo ≤ b1 ∧ lo ≤ b2
  fd : ∀ b, dl.a = some (adr b) → lo ≤ b
  fm : ∀ i q, i < ms.length → ms[i]! = .map (some q) → lo ≤ q
variable {lo : Nat} {b1 b2 : Nat} {r : Rou} {fsl dl : Sl} {ms : List Value} {D : List (List Nat)}
theorem RSt.upd {M : Nat → Prop} {H' : Heap} (hu : Upd M H H') (h : RSt lo H b1 b2 r fsl dl ms D) (h1 : ∀ b T vs, Row H b T vs → T ≠ TQbh → ¬ M b) (h2 : ∀ q es cl, H[q]? = some (.map es cl) → ¬ M q) : RSt lo H' b1 b2 r fsl dl ms D :=
  { row := hu.row h.row (h1 _ _ _ h.row (by decide)), flow := hu.row h.flow (h1 _ _ _ h.flow (by decide))
    dv := h.dv.upd hu fun b hb => by
      rcases h.dv.own with ⟨g1, _⟩ | ⟨c, sp, g1, g2, _⟩
      · rw [g1] at hb; cases hb
      · rw [g1] at hb; cases hb; exact h1 _ _ _ g2 (by decide)
    ml := h.ml, dl' := h.dl'
    mp := fun i hi => (h.mp i hi).upd hu fun q hq => by
      rcases h.mp i hi with ⟨g1, _⟩ | ⟨q', g1, g2⟩
      · rw [g1] at hq; cases hq
      · rw [g1] at hq; cases hq; exact h2 _ _ _ g2
    inj := h.inj, nd := h.nd, f1 := h.f1, fd := h.fd, fm := h.fm }
theorem RSt.ext {H' : Heap} (hu : Ext H H') (h : RSt lo H b1 b2 r fsl dl ms D) : RSt lo H' b1 b2 r fsl dl ms D := h.upd hu (fun _ _ _ _ _ h => h) fun _ _ _ _ h => h
theorem RSt.d5 (h : RSt lo H b1 b2 r fsl dl ms D) : hcell H ⟨b2, 5, none⟩ = some (slV dl) := (h.flow.cell 5).trans rfl
theorem vecN_upd_state {M : Nat → Prop} {H' : Heap} (hu : Upd M H H') {s : Sl} {vs : List Value} (h : VecN H TQbh 2 s vs) (h1 : ∀ b vs, Row H b TQbh vs → ¬ M b) : VecN H' TQbh 2 s vs := h.upd hu fun b hb => by
  rcases h.own with ⟨g1, _⟩ | ⟨c, sp, g1, g2, _⟩
  · rw [g1] at hb; cases hb
  · rw [g1] at hb; cases hb; exact h1 _ _ g2
theorem RSt.fill {H' : Heap} {i q : Nat} (h : RSt lo H b1 b2 r fsl dl ms D) (hi : i < ms.length) (hnil : ms[i]! = .map none) (hq : H[q]? = some (.map ⟨entsF 0 []⟩ ([] : List Nat).length)) (hqf : lo ≤ q) (hqn : ∀ j, j < ms.length → ms[j]! ≠ .map (some q))
    (hU : Upd (fun b => dl.a = some (adr b)) H H') (hv : Vec H' TQa2 dl (ms.set i (.map (some q)))) : RSt lo H' b1 b2 r fsl dl (ms.set i (.map (some q))) D := by
  have hnr : ∀ b T vs, Row H b T vs → T ≠ TQa2 → ¬ dl.a = some (adr b) := fun b T vs hr hT e => by
    rcases h.dv.own with ⟨g1, _⟩ | ⟨c, sp, g1, g2, _⟩
    · rw [g1] at e; cases e
    · rw [g1] at e; cases e; exact g2.ne hr hT.symm rfl
  have hnm : ∀ q es cl, H[q]? = some (.map es cl) → ¬ dl.a = some (adr q) := fun q es cl hq e => by
    rcases h.dv.own with ⟨g1, _⟩ | ⟨c, sp, g1, g2, _⟩
    · rw [g1] at e; cases e
    · rw [g1] at e; cases e; exact Row.neMap g2 hq rfl
  have hget : ∀ j, j < ms.length → (ms.set i (.map (some q)))[j]! = if j = i then .map (some q) else ms[j]! := fun j hj => by
    rw [getElem!_pos _ j (by simpa using hj), List.getElem_set, getElem!_pos ms j hj]
    by_cases e : i = j
    · rw [if_pos e, if_pos e.symm]
    · rw [if_neg e, if_neg (fun h => e h.symm)]
  refine { row := hU.row h.row (hnr _ _ _ h.row (by decide)), flow := hU.row h.flow (hnr _ _ _ h.flow (by decide)), dv := hv, ml := by rw [List.length_set]; exact h.ml, dl' := h.dl', mp := fun j hj => ?_, inj := fun j k p hj hk e1 e2 => ?_, nd := h.nd, f1 := h.f1, fd := h.fd, fm := fun j p hj e => ?_ }
  · rw [List.length_set] at hj
    rw [hget j hj]
    split
    · rename_i e
      subst e
      have hD : D[j]! = [] := by
        rcases h.mp j hj with ⟨_, g⟩ | ⟨q', g, _⟩
        · exact g
        · rw [hnil] at g; cases g
      rw [hD]
      exact .inr ⟨q, rfl, hU.keep hq (hnm _ _ _ hq)⟩
    · exact (h.mp j hj).upd hU fun p hp => by
        rcases h.mp j hj with ⟨g1, _⟩ | ⟨q', g1, g2⟩
        · rw [g1] at hp; cases hp
        · rw [g1] at hp; cases hp; exact hnm _ _ _ g2
  · rw [List.length_set] at hj hk
    rw [hget j hj] at e1
    rw [hget k hk] at e2
    split at e1 <;> split at e2
    · omega
    · cases e1; exact absurd e2 (hqn k hk)
    · cases e2; exact absurd e1 (hqn j hj)
    · exact h.inj j k p hj hk e1 e2
  · rw [List.length_set] at hj
    rw [hget j hj] at e
    split at e
    · cases e; exact hqf
    · exact h.fm j p hj e
theorem RSt.add {H' : Heap} {i q d : Nat} (h : RSt lo H b1 b2 r fsl dl ms D) (hi : i < ms.length) (hq : ms[i]! = .map (some q)) (hd : d ∉ D[i]!) (hU : Upd (· = q) H H') (hm : H'[q]? = some (.map ⟨entsF 0 (D[i]! ++ [d])⟩ (D[i]! ++ [d]).length)) : RSt lo H' b1 b2 r fsl dl ms (D.set i (D[i]! ++ [d])) := by
  have hqm : ∃ es cl, H[q]? = some (.map es cl) := by
    rcases h.mp i hi with ⟨g, _⟩ | ⟨q', g, g2⟩
    · rw [hq] at g; cases g
    · rw [hq] at g; cases g; exact ⟨_, _, g2⟩
  obtain ⟨es, cl, hqm⟩ := hqm
  have hDl : D.length = ms.length := h.dl'.trans h.ml.symm
  have hget : ∀ j, j < ms.length → (D.set i (D[i]! ++ [d]))[j]! = if j = i then D[i]! ++ [d] else D[j]! := fun j hj => by
    rw [getElem!_pos _ j (by rw [List.length_set]; omega), List.getElem_set, getElem!_pos D j (by omega)]
    by_cases e : i = j
    · rw [if_pos e, if_pos e.symm]
    · rw [if_neg e, if_neg (fun h => e h.symm)]
  refine { row := hU.row h.row (Row.neMap h.row hqm), flow := hU.row h.flow (Row.neMap h.flow hqm), dv := h.dv.upd hU fun b hb => ?_, ml := h.ml, dl' := by rw [List.length_set]; exact h.dl', mp := fun j hj => ?_, inj := h.inj, nd := fun j hj => ?_, f1 := h.f1, fd := h.fd, fm := h.fm }
  · rcases h.dv.own with ⟨g1, _⟩ | ⟨c, sp, g1, g2, _⟩
    · rw [g1] at hb; cases hb
    · rw [g1] at hb; cases hb; exact Row.neMap g2 hqm
  · rw [hget j hj]
    split
    · rename_i e
      subst e
      rw [hq]
      exact .inr ⟨q, rfl, hm⟩
    · rename_i e
      exact (h.mp j hj).upd hU fun p hp e2 => e (h.inj j i q hj hi (e2 ▸ hp) hq)
  · rw [List.length_set] at hj
    rw [hget j (by omega)]
    split
    · rw [List.nodup_append]
      refine ⟨h.nd i (by omega), by simp, fun a ha b hb => ?_⟩
      rw [List.mem_singleton] at hb
      subst hb
      exact fun e => hd (e ▸ ha)
    · exact h.nd j hj
def pushes (n e : Nat) : List Int → List (Nat × Nat)
  | [] => []
  | x :: xs => (if 0 ≤ x ∧ x < (n : Int) then [(x.toNat, e)] else []) ++ pushes n e xs
theorem pushes_mem {n e : Nat} : ∀ {xs : List Int} {y : Nat × Nat}, y ∈ pushes n e xs ↔ ((y.1 : Int) ∈ xs ∧ y.1 < n ∧ y.2 = e)
  | [], y => by simp [pushes]
  | x :: xs, y => by
    unfold pushes
    rw [List.mem_append, pushes_mem (xs := xs), List.mem_cons]
    constructor
    · rintro (h | ⟨h1, h2, h3⟩)
      · split at h
        · rw [List.mem_singleton] at h
          subst h
          exact ⟨.inl (by dsimp only; omega), by dsimp only; omega, rfl⟩
        · cases h
      · exact ⟨.inr h1, h2, h3⟩
    · rintro ⟨h1 | h1, h2, h3⟩
      · left
        rw [if_pos (by omega), List.mem_singleton]
        obtain ⟨y1, y2⟩ := y
        dsimp only at h1 h2 h3
        subst h3
        rw [Prod.mk.injEq]
        exact ⟨by omega, rfl⟩
      · exact .inr ⟨h1, h2, h3⟩
theorem pushes_len {n e : Nat} : ∀ {xs : List Int}, (pushes n e xs).length ≤ xs.length
  | [] => Nat.le_refl _
  | x :: xs => by
    have := pushes_len (n := n) (e := e) (xs := xs)
    unfold pushes
    split <;> simp <;> omega
theorem pushes_snoc {n e : Nat} : ∀ {xs : List Int} {x : Int}, pushes n e (xs ++ [x]) = pushes n e xs ++ (if 0 ≤ x ∧ x < (n : Int) then [(x.toNat, e)] else [])
  | [], x => by simp [pushes]
  | y :: xs, x => by
    rw [List.cons_append]
    unfold pushes
    rw [pushes_snoc (xs := xs)]
    simp
theorem nexts_len (c : List Ins) (i : Nat) : (nexts c i).length ≤ 2 := by
  unfold nexts
  dsimp only
  repeat' split
  all_goals simp
theorem app_state {s : Sl} {T : List (Nat × Nat)} {x : Nat × Nat} (hv : VecN H TQbh 2 s (T.flatMap stV)) (hT : T.length ≤ 1000000) {k : Sl → Heap → Prop}
    (hk : ∀ s' H', VecN H' TQbh 2 s' ((T ++ [x]).flatMap stV) → Upd (fun b => s.a = some (adr b)) H H' → (s'.a = s.a ∨ ∀ b, s'.a = some (adr b) → H.size ≤ b) → k s' H') :
    Nw #[.int .i64 (x.1 : Nat), .int .i64 (x.2 : Nat)] TQbh H fun b5 H20 =>
      App TQbh 2 16 #[.int .i64 0, .int .i64 0] s ⟨some (adr b5), 1, 1⟩ H20 fun l3 H21 => k l3 H21 := by
  refine Nw_row (vs := stV x) fun b H1 hb hE hz hr => ?_
  have hl := hv.len
  rw [flat_len stV_len] at hl
  refine App_vecN (n := 2) rfl (by omega) (hv.ext hE) (ws := stV x) hr.rd_all rfl (by simp [Value.oneCell']) (by omega) (by simp only; omega) fun s' H' hv' _ hU ha => hk s' H' ?_ ?_ ?_
  · rw [List.flatMap_append]; simpa using hv'
  · exact (hE.mono fun _ _ h => h.elim).trans hU fun _ _ h => h.1
  · rcases ha with ⟨e, _⟩ | e
    · exact .inl e
    · refine .inr fun c hc => ?_
      rw [e] at hc; cases hc
      have := hE.size; omega
end
section
open Hc Hc.Vf
variable {H : Heap}
structure FlowAt (lo : Nat) (H : Heap) (f : Nat) (r : Rou) (fsl : Sl) (ps : List Int) (dl : Sl) (ms : List Value) (D : List (List Nat)) : Prop where
  flow : FlowR H f r fsl dl
  dv : Vec H TQa2 dl ms
  ml : ms.length = r.code.length
  dln : D.length = r.code.length
  mp : ∀ i, i < ms.length → MapI H ms[i]! D[i]!
  nd : ∀ i, i < D.length → (D[i]!).Nodup
  rc : ∀ i d, i < r.code.length → (d ∈ D[i]! ↔ Rch r.code ps i d)
  f1 : lo ≤ f
  fd : ∀ b, dl.a = some (adr b) → lo ≤ b
  fm : ∀ i q, i < ms.length → ms[i]! = .map (some q) → lo ≤ q
theorem s_reach {r : Rou} {fsl : Sl} {fs : List Rou} (hr : CodeR H r) (hf : RN rouV 4 H fsl fs) (hI : ∀ x ∈ parms fs, I64 x) (hn : 0 < r.code.length) (hn2 : r.code.length ≤ 2000) {k : Option Addr → Heap → Prop}
    (hk : ∀ f dl ms D H', Ext H H' → FlowAt H.size H' f r fsl (parms fs) dl ms D → k (some (adr f)) H') : CallT Pg fQd5 [rouA r, .slice fsl.a fsl.len fsl.cap] (.one (.c .ptr)) H k := by
  refine cQdz (r.name, r.params, r.locals, r.sl) _ ?_
  unfold vQdz
  refine Nw_row (vs := rouV r) fun b1 H1 hb1 hE1 hz1 hrow1 => ?_
  simp only [adr_add, NilCk_some]
  refine ld_rou hrow1.rd_all (Ld_sl (s := r.sl) ((hrow1.cell 3).trans rfl) ?_)
  have hsl := hr.len
  refine Mks_row (by omega) (by omega) (by omega) fun bd H2 hbd hE2 hz2 hrd => ?_
  have hrow2 := hE2.row hrow1 fun h => h
  have st : ∀ {Hx : Heap}, Row Hx b1 TQak (rouV r) → ∀ x ∈ [(⟨b1, 3, none⟩, Value.slice r.sl.a r.sl.len r.sl.cap), (⟨b1, 0, none⟩, .string r.name), (⟨b1, 1, none⟩, .int .i64 r.params), (⟨b1, 2, none⟩, .int .i64 r.locals), (⟨b1, 3, none⟩, .slice r.sl.a r.sl.len r.sl.cap)], hcell Hx x.1 = some x.2 := by
    intro Hx h x hx
    simp only [List.mem_cons, List.not_mem_nil, or_false] at hx
    rcases hx with rfl | rfl | rfl | rfl | rfl
    · exact (h.cell 3).trans rfl
    · exact (h.cell 0).trans rfl
    · exact (h.cell 1).trans rfl
    · exact (h.cell 2).trans rfl
    · exact (h.cell 3).trans rfl
  refine Stab_all (st hrow2) ?_
  have edl : (Int.toNat ((r.sl.len : Nat) : Int)) = r.code.length := by rw [Int.toNat_natCast]; exact hsl
  rw [edl] at hrd ⊢
  generalize hdl : (⟨some (adr bd), r.code.length, r.code.length⟩ : Sl) = dl
  refine Nw_row (vs := flowV r fsl dl) fun b2 H3 hb2 hE3 hz3 hflow => ?_
  have hrow3 := hE3.row hrow2 fun h => h
  refine Stab_all (st hrow3) (Nw_row (vs := stV (0, 0)) fun b3 H4 hb3 hE4 hz4 hst => ?_)
  have hvd : Vec H4 TQa2 dl (List.replicate r.code.length (.map none)) := by
    subst hdl
    exact ⟨by simp, .inr ⟨bd, [], rfl, by simpa using hE4.row (hE3.row hrd fun h => h) fun h => h, by simp⟩, Nat.le_refl _⟩
  have hE4' : Ext H H4 := ((hE1.trans hE2 fun _ _ h => h).trans hE3 fun _ _ h => h).trans hE4 fun _ _ h => h
  have gm : ∀ i, i < r.code.length → (List.replicate r.code.length (Value.map none))[i]! = .map none := fun i hi => by rw [getElem!_pos _ i (by simpa using hi), List.getElem_replicate]
  have gd : ∀ i, i < r.code.length → (List.replicate r.code.length ([] : List Nat))[i]! = [] := fun i hi => by rw [getElem!_pos _ i (by simpa using hi), List.getElem_replicate]
  have h0 : RSt H.size H4 b1 b2 r fsl dl (List.replicate r.code.length (.map none)) (List.replicate r.code.length []) :=
    { row := hE4.row hrow3 fun h => h, flow := hE4.row hflow fun h => h, dv := hvd, ml := by simp, dl' := by simp
      mp := fun i hi => by
        rw [List.length_replicate] at hi
        rw [gm i hi, gd i hi]; exact .inl ⟨rfl, rfl⟩
      inj := fun i j q hi _ e _ => by
        rw [List.length_replicate] at hi
        rw [gm i hi] at e; cases e
      nd := fun i hi => by
        rw [List.length_replicate] at hi
        rw [gd i hi]; exact List.nodup_nil
      f1 := ⟨by omega, by have := hE1.size; have := hE2.size; omega⟩
      fd := fun b hb => by subst hdl; cases hb; have := hE1.size; omega
      fm := fun i q hi e => by
        rw [List.length_replicate] at hi
        rw [gm i hi] at e; cases e }
  have htot0 : tot (List.replicate r.code.length ([] : List Nat)) = 0 := by
    unfold tot; simp
  have hlo : H.size ≤ b3 := by have := hE1.size; have := hE2.size; have := hE3.size; omega
  refine LoopT.ghost (fun m (s : Sl) H5 => ∃ (T : List (Nat × Nat)) (ms : List Value) (D : List (List Nat)), m = 3 * (65 * r.code.length - tot D) + T.length ∧ VecN H5 TQbh 2 s (T.flatMap stV) ∧ (∀ b, s.a = some (adr b) → H.size ≤ b) ∧
      RSt H.size H5 b1 b2 r fsl dl ms D ∧ Ext H H5 ∧ T.length ≤ 1 + 2 * tot D ∧ Inv r.code (parms fs) (fun i d => i < r.code.length ∧ d ∈ D[i]!) (fun i d => (i, d) ∈ T)) (3 * (65 * r.code.length - tot (List.replicate r.code.length ([] : List Nat))) + 1)
    ⟨[(0, 0)], _, _, rfl, ⟨rfl, .inr ⟨b3, [], rfl, by simpa using hst, by simp⟩, Nat.le_refl _⟩, (fun b hb => by cases hb; exact hlo), h0, hE4', by simp, ⟨fun i d h => ?_, .inr (by simp), fun i d j e hv _ => ?_⟩⟩ ?_
  · rcases h with ⟨h1, h2⟩ | h
    · rw [gd i h1] at h2; cases h2
    · simp only [List.mem_singleton, Prod.mk.injEq] at h
      obtain ⟨rfl, rfl⟩ := h
      exact .zero
  · rw [gd i hv.1] at hv; cases hv.2
  rintro next m s H5 ⟨T, ms, D, rfl, hvT, hsb, hS, hE5, hTl, hInv⟩ hnext
  have hTlen := hvT.len
  rw [flat_len stV_len] at hTlen
  have hbdD : ∀ x ∈ D, x.Nodup ∧ ∀ d ∈ x, d ≤ 64 := fun x hx => by
    obtain ⟨i, hi, rfl⟩ := List.getElem_of_mem hx
    have h1 := hS.nd i hi
    rw [getElem!_pos D i hi] at h1
    refine ⟨h1, fun d hd => ?_⟩
    have hi2 : i < r.code.length := by rw [← hS.dl']; exact hi
    exact ((hInv.all i d (.inl ⟨hi2, by rw [getElem!_pos D i hi]; exact hd⟩)).bd hn).2
  have htot := tot_le hbdD
  rw [hS.dl'] at htot
  refine Br_dec (fun hgo => ?_) fun hend => ?_
  · have hTpos : 0 < T.length := by omega
    have hTne : T ≠ [] := fun e => by rw [e] at hTpos; simp at hTpos
    obtain ⟨i, d, hlast⟩ : ∃ i d, T.getLast hTne = (i, d) := ⟨_, _, rfl⟩
    have hTsplit : T.dropLast ++ [(i, d)] = T := by rw [← hlast]; exact List.dropLast_concat_getLast hTne
    have hxin : (i, d) ∈ T := by rw [← hTsplit]; simp
    have hxR := hInv.all i d (.inr hxin)
    obtain ⟨hib, hdb⟩ := hxR.bd hn
    have hdl1 : T.dropLast.length = T.length - 1 := List.length_dropLast
    refine Jn_in (Lt.mk (u := ((T.length - 1 : Nat) : Int)) (by rw [wrap_i64_id] <;> omega) ?_)
    have hrnT : RN stV 2 H5 s T := hvT.rn stV_len (by omega)
    refine IxA_rn' stV_len hrnT (by omega) (j := T.length - 1) rfl (by omega) fun a1 ha1 => ?_
    have hgl : T[T.length - 1]! = (i, d) := by
      rw [getElem!_pos T _ (by omega), ← hlast, List.getLast_eq_getElem]
    rw [hgl] at ha1
    refine ⟨(((i : Nat) : Int), ((d : Nat) : Int)), ha1, Nw_row (vs := [.int .i64 0, .int .i64 0]) fun b4 H7 hb4 hE7 hz7 hr7 => St_row hr7 (by simp) fun H8 hU8 _ hr8 => St_row hr8 (by simp) fun H9 hU9 _ hr9 => ?_⟩
    have hE9 : Ext H5 H9 := extUpd hE7 (by omega) (hU8.trans hU9 fun _ _ h => h)
    have z5 := hE5.size
    have z9 := hE9.size
    have hS9 := hS.ext hE9
    have c0 : hcell H9 ⟨b4, 0, none⟩ = some (.int .i64 (i : Nat)) := (hr9.cell 0).trans rfl
    have c1 : hcell H9 ⟨b4, 1, none⟩ = some (.int .i64 (d : Nat)) := (hr9.cell 1).trans rfl
    have hvT9 : VecN H9 TQbh 2 s (T.flatMap stV) := hvT.ext hE9
    refine Lt.mk (u := ((T.length - 1 : Nat) : Int)) (by rw [wrap_i64_id] <;> omega) (SlA0 (by omega) (by have := hvT.lc; omega) (Int.le_refl _) ?_)
    rw [Int.toNat_natCast, Int.toNat_natCast]
    -- what is left to do
    have hvL : VecN H9 TQbh 2 ⟨s.a, T.length - 1, s.cap⟩ (T.dropLast.flatMap stV) := by
      have := vecN_pre hvT9 (j := T.length - 1) (c := s.cap) (by omega) (by have := hvT.lc; omega) (Nat.le_refl _)
      have e : (T.flatMap stV).take ((T.length - 1) * 2) = T.dropLast.flatMap stV := by
        conv => lhs; rw [← hTsplit, List.flatMap_append]
        have hl : (T.dropLast.flatMap stV).length = (T.length - 1) * 2 := by rw [flat_len stV_len, hdl1]
        rw [hTsplit, ← hl, List.take_left]
      rw [e] at this; exact this
    have hi2 : i < ms.length := by rw [hS.ml]; exact hib
    refine Ld_sl (s := dl) hS9.d5 (Ld_int c0 (IxA_raw hS9.dv rfl hi2 (Ld_int c1 (MpL_i (hS9.mp i hi2) (Stab_2 c0 hS9.d5 ?_)))))
    have hDi : i < D.length := by rw [hS.dl']; exact hib
    refine Br_dec (fun hold => ?_) fun hnew => ?_
    · -- there already
      refine hnext _ _ _ (by rw [hdl1]; omega) ⟨T.dropLast, ms, D, rfl, hvL, hsb, hS9, hE5.trans hE9 fun _ _ h => h, by omega, hInv.swap (fun _ _ h => h) fun j e => ?_⟩
      constructor
      · rintro (h | h)
        · exact .inl h
        · rw [← hTsplit, List.mem_append, List.mem_singleton] at h
          rcases h with h | h
          · exact .inr h
          · simp only [Prod.mk.injEq] at h
            obtain ⟨rfl, rfl⟩ := h
            exact .inl ⟨hib, hold⟩
      · rintro (h | h)
        · exact .inl h
        · exact .inr (List.dropLast_subset _ h)
    · -- behind the map's place
      have behind : ∀ (ms' : List Value) (q : Nat) (H10 : Heap), RSt H.size H10 b1 b2 r fsl dl ms' D → ms'[i]! = .map (some q) → Row H10 b4 TQbh (stV (i, d)) → VecN H10 TQbh 2 ⟨s.a, T.length - 1, s.cap⟩ (T.dropLast.flatMap stV) → Ext H H10 →
          Ld .sl ⟨b2, 5, none⟩ H10 fun (x12 : Sl) =>
            Ld (.int .i64) (adr b4) H10 fun (x13 : Int) =>
            IxA 1 x12 x13 fun a9 =>
            Ld .raw a9 H10 fun (x14 : Value) =>
            Ld (.int .i64) ⟨b4, 1, none⟩ H10 fun (x15 : Int) =>
            MpU (.int .i64) x14 (.int .i64 x15) (.bool true) H10 fun H13 =>
            Ld (.int .i64) (adr b4) H13 fun (x16 : Int) =>
            Ld (.int .i64) ⟨b4, 1, none⟩ H13 fun (x17 : Int) =>
            CallT Pg fQeg [.pointer (some (adr b2)), .int .i64 x16, .int .i64 x17] (.tup [(.c (.int .i64)), (.c .bool)]) H13 fun (r1 : Int × Bool) H14 =>
            Br (!r1.2) (
              next ⟨s.a, T.length - 1, s.cap⟩ H14) (
              LdC [.str, (.int .i64), (.int .i64), .sl] (adr b1) H14 fun (c3 : ByteArray × Int × Int × Sl) =>
              Ld (.int .i64) (adr b4) H14 fun (x18 : Int) =>
              CallT Pg fQd7 [.agg #[.string c3.1, .int .i64 c3.2.1, .int .i64 c3.2.2.1, .slice c3.2.2.2.a c3.2.2.2.len c3.2.2.2.cap], .int .i64 x18] (.one (.c .sl)) H14 fun (r2 : Sl) H15 =>
              LoopT (σ := Sl × Int) (fun next2 s2 H16 =>
                Br (decide (s2.2 < (r2.len : Int))) (
                  Jn (σ := Sl) (fun kk3 =>
                    IxA 1 r2 s2.2 fun a10 =>
                    Ld (.int .i64) a10 H16 fun (x19 : Int) =>
                    LdC [.str, (.int .i64), (.int .i64), .sl] (adr b1) H16 fun (c4 : ByteArray × Int × Int × Sl) =>
                    CallT Pg fQeh [.agg #[.string c4.1, .int .i64 c4.2.1, .int .i64 c4.2.2.1, .slice c4.2.2.2.a c4.2.2.2.len c4.2.2.2.cap], .int .i64 x19] (.one (.c .bool)) H16 fun (r3 : Bool) H18 =>
                    Jn (σ := Sl) (fun kk4 =>
                      Br r3 (
                        Nw #[.int .i64 x19, .int .i64 r1.1] TQbh H18 fun b5 H20 =>
                        App TQbh 2 16 #[.int .i64 0, .int .i64 0] s2.1 ⟨some (adr b5), 1, 1⟩ H20 fun l3 H21 =>
                        kk4 l3 H21) (
                        kk4 s2.1 H18)) fun j4 H19 =>
                    kk3 j4 H19) fun j3 H17 =>
                  Lt (IntKind.wrap .i64 (s2.2 + 1)) fun t3 =>
                  next2 (j3, t3) H17) (
                  next s2.1 H16)) (⟨s.a, T.length - 1, s.cap⟩, 0) H15) := by
        intro ms' q H10 hS10 hq hr10 hvL10 hE10'
        have hi10 : i < ms'.length := by rw [hS10.ml]; exact hib
        have d0 : hcell H10 ⟨b4, 0, none⟩ = some (.int .i64 (i : Nat)) := (hr10.cell 0).trans rfl
        have d1 : hcell H10 ⟨b4, 1, none⟩ = some (.int .i64 (d : Nat)) := (hr10.cell 1).trans rfl
        refine Ld_sl (s := dl) hS10.d5 (Ld_int d0 (IxA_raw hS10.dv rfl hi10 (Ld_int d1 ?_)))
        rw [hq]
        have hm10 : H10[q]? = some (.map ⟨entsF 0 D[i]!⟩ (D[i]!).length) := by
          rcases hS10.mp i hi10 with ⟨g, _⟩ | ⟨q', g, g2⟩
          · rw [hq] at g; cases g
          · rw [hq] at g; cases g; exact g2
        have hqlo := hS10.fm i q hi10 hq
        refine MpU_i hm10 hnew fun H13 hU13 _ hm13 => ?_
        have hS13 := hS10.add hi10 hq hnew hU13 hm13
        have hr13 : Row H13 b4 TQbh (stV (i, d)) := hU13.row hr10 (Row.neMap hr10 hm10)
        have hvL13 : VecN H13 TQbh 2 ⟨s.a, T.length - 1, s.cap⟩ (T.dropLast.flatMap stV) := vecN_upd_state hU13 hvL10 fun b vs hb => Row.neMap hb hm10
        have hE13 : Ext H H13 := hE10'.trans hU13 fun b hb e => by omega
        have e0 : hcell H13 ⟨b4, 0, none⟩ = some (.int .i64 (i : Nat)) := (hr13.cell 0).trans rfl
        have e1 : hcell H13 ⟨b4, 1, none⟩ = some (.int .i64 (d : Nat)) := (hr13.cell 1).trans rfl
        refine Ld_int e0 (Ld_int e1 (s_fits hS13.flow (hr.ext hE13) (hf.ext hE13) hI hib hdb fun H14 hE14 => ?_))
        have hE14' := hE13.trans hE14 fun _ _ h => h
        have hS14 := hS13.ext hE14
        have hvL14 : VecN H14 TQbh 2 ⟨s.a, T.length - 1, s.cap⟩ (T.dropLast.flatMap stV) := hvL13.ext hE14
        have htn := tot_set (d := d) hDi
        have hset : ∀ j, j < r.code.length → (D.set i (D[i]! ++ [d]))[j]! = if j = i then D[i]! ++ [d] else D[j]! := fun j hj => by
          rw [getElem!_pos _ j (by rw [List.length_set, hS.dl']; exact hj), List.getElem_set, getElem!_pos D j (by rw [hS.dl']; exact hj)]
          by_cases e : i = j
          · rw [if_pos e, if_pos e.symm]
          · rw [if_neg e, if_neg (fun h => e h.symm)]
        have hV : ∀ j e, (j < r.code.length ∧ e ∈ (D.set i (D[i]! ++ [d]))[j]!) ↔ (j < r.code.length ∧ e ∈ D[j]!) ∨ (j = i ∧ e = d) := by
          intro j e
          constructor
          · rintro ⟨h1, h2⟩
            rw [hset j h1] at h2
            split at h2
            · rename_i e2
              subst e2
              rw [List.mem_append, List.mem_singleton] at h2
              rcases h2 with h2 | h2
              · exact .inl ⟨h1, h2⟩
              · exact .inr ⟨rfl, h2⟩
            · exact .inl ⟨h1, h2⟩
          · rintro (⟨h1, h2⟩ | ⟨rfl, rfl⟩)
            · refine ⟨h1, ?_⟩
              rw [hset j h1]
              split
              · rename_i e2
                subst e2
                exact List.mem_append.2 (.inl h2)
              · exact h2
            · refine ⟨hib, ?_⟩
              rw [hset _ hib, if_pos rfl]
              simp
        have htot2 : tot (D.set i (D[i]! ++ [d])) ≤ 65 * r.code.length := by
          have := tot_le (D := D.set i (D[i]! ++ [d])) fun x hx => by
            obtain ⟨j, hj, rfl⟩ := List.getElem_of_mem hx
            have hj2 : j < r.code.length := by rw [List.length_set, hS.dl'] at hj; exact hj
            have h1 := hS13.nd j hj
            rw [getElem!_pos _ j hj] at h1
            refine ⟨h1, fun e he => ?_⟩
            rcases (hV j e).1 ⟨hj2, by rw [getElem!_pos _ j hj]; exact he⟩ with ⟨g1, g2⟩ | ⟨rfl, rfl⟩
            · exact ((hInv.all j e (.inl ⟨g1, g2⟩)).bd hn).2
            · exact hdb
          rw [List.length_set, hS.dl'] at this
          exact this
        have hTcase : ∀ j e, (j, e) ∈ T → ((j < r.code.length ∧ e ∈ (D.set i (D[i]! ++ [d]))[j]!) ∨ (j, e) ∈ T.dropLast) := by
          intro j e h
          rw [← hTsplit, List.mem_append, List.mem_singleton] at h
          rcases h with h | h
          · exact .inr h
          · simp only [Prod.mk.injEq] at h
            exact .inl ((hV j e).2 (.inr h))
        refine Br_not (Br_dec (fun hfit => ?_) fun hnofit => ?_)
        · -- it fits
          obtain ⟨hbl, hbe⟩ := behind_le hfit
          rw [← hbe]
          generalize hee : behind (parms fs) r.code[i]! d = e at hbl
          refine ld_rou (r := r) hS14.row.rd_all (Ld_int ((hE14.cell e0 fun h => h)) (s_next (r := r) (hr.ext hE14') hib (by omega) fun r2 H15 hE15 hr2 => ?_))
          have hS15 := hS14.ext hE15
          have hE15' := hE14'.trans hE15 fun _ _ h => h
          have hxl := nexts_len r.code i
          have hr2l := hr2.len
          refine LoopT.mk (fun (st : Sl × Int) H16 => ∃ q : Nat, st.2 = q ∧ q ≤ (nexts r.code i).length ∧ VecN H16 TQbh 2 st.1 ((T.dropLast ++ pushes r.code.length e ((nexts r.code i).take q)).flatMap stV) ∧ (∀ b, st.1.a = some (adr b) → H.size ≤ b) ∧
              RSt H.size H16 b1 b2 r fsl dl ms' (D.set i (D[i]! ++ [d])) ∧ Ext H H16 ∧ Vec H16 TQaq r2 ((nexts r.code i).map (Value.int .i64))) (fun st _ => (nexts r.code i).length - st.2.toNat)
            ⟨0, rfl, Nat.zero_le _, by simpa [pushes] using hvL14.ext hE15, hsb, hS15, hE15', hr2⟩ ?_
          rintro next2 ⟨s2, _⟩ H16 ⟨q2, rfl, hq2, hv16, hsb16, hS16, hE16, hr16⟩ hnext2
          dsimp only at hv16 hsb16 ⊢
          rw [List.length_map] at hr2l
          refine Br_dec (fun hlt => ?_) fun hge => ?_
          · have hq3 : q2 < (nexts r.code i).length := by omega
            refine Jn_in (IxA_rl hr16.rl rfl hq3 fun a10 ha10 => Ld_int ha10 (ld_rou (r := r) hS16.row.rd_all (s_there (r := r) (hr.ext hE16) fun H18 hE18 => ?_)))
            have hE18' := hE16.trans hE18 fun _ _ h => h
            have hS18 := hS16.ext hE18
            have hv18 := hv16.ext hE18
            have hr18 : Vec H18 TQaq r2 ((nexts r.code i).map (Value.int .i64)) := hr16.upd hE18 fun _ _ h => h
            have htk : (nexts r.code i).take (q2 + 1) = (nexts r.code i).take q2 ++ [(nexts r.code i)[q2]] := by rw [List.take_add_one, List.getElem?_eq_getElem hq3]; rfl
            have hpl := pushes_len (n := r.code.length) (e := e) (xs := (nexts r.code i).take q2)
            have hpl2 : ((nexts r.code i).take q2).length ≤ 2 := by rw [List.length_take]; omega
            refine Jn_in (Br_dec (fun hth => ?_) fun hth => ?_)
            · obtain ⟨y, hy⟩ : ∃ y : Nat, (nexts r.code i)[q2] = y := ⟨((nexts r.code i)[q2]).toNat, by omega⟩
              rw [hy] at hth ⊢
              refine app_state (x := (y, e)) hv18 (by rw [List.length_append]; omega) fun s' H21 hv21 hU21 ha21 => ?_
              have hrow : ∀ b T vs, Row H18 b T vs → T ≠ TQbh → ¬ s2.a = some (adr b) := fun b T vs hrw hT e2 => by
                rcases hv18.own with ⟨g1, _⟩ | ⟨c, sp, g1, g2, _⟩
                · rw [g1] at e2; cases e2
                · rw [g1] at e2; cases e2; exact g2.ne hrw hT.symm rfl
              have hmap : ∀ q es cl, H18[q]? = some (.map es cl) → ¬ s2.a = some (adr q) := fun q es cl hqq e2 => by
                rcases hv18.own with ⟨g1, _⟩ | ⟨c, sp, g1, g2, _⟩
                · rw [g1] at e2; cases e2
                · rw [g1] at e2; cases e2; exact Row.neMap g2 hqq rfl
              refine Lt.mk (u := ((q2 + 1 : Nat) : Int)) (by rw [wrap_i64_id] <;> omega) (hnext2 _ _ ⟨q2 + 1, rfl, hq3, ?_, fun b hb => ?_, hS18.upd hU21 hrow hmap, hE18'.trans hU21 fun b hb e2 => ?_, hr18.upd hU21 fun b hb => ?_⟩ (by dsimp only; omega))
              · rw [htk, pushes_snoc, hy, if_pos hth, ← List.append_assoc]
                exact hv21
              · dsimp only at hb
                rcases ha21 with e2 | e2
                · rw [e2] at hb; exact hsb16 b hb
                · have := e2 b hb; have := hE18'.size; omega
              · have := hsb16 b e2; omega
              · rcases hr18.own with ⟨g1, _⟩ | ⟨c, sp, g1, g2, _⟩
                · rw [g1] at hb; cases hb
                · rw [g1] at hb; cases hb; exact hrow _ _ _ g2 (by decide)
            · refine Lt.mk (u := ((q2 + 1 : Nat) : Int)) (by rw [wrap_i64_id] <;> omega) (hnext2 _ _ ⟨q2 + 1, rfl, hq3, ?_, hsb16, hS18, hE18', hr18⟩ (by dsimp only; omega))
              rw [htk, pushes_snoc, if_neg hth, List.append_nil]
              exact hv18
          · have hq3 : q2 = (nexts r.code i).length := by omega
            subst hq3
            rw [List.take_length] at hv16
            have hpl := pushes_len (n := r.code.length) (e := e) (xs := nexts r.code i)
            refine hnext _ _ _ ?_ ⟨T.dropLast ++ pushes r.code.length e (nexts r.code i), ms', D.set i (D[i]! ++ [d]), rfl, hv16, hsb16, hS16, hE16, by rw [List.length_append]; omega, hInv.go (.inr hxin) hV (fun j f h => ?_) (fun j f hs => .inr ?_) (fun j f h => (hTcase j f h).imp id fun h => List.mem_append.2 (.inl h))⟩
            · rw [List.length_append, hdl1]; omega
            · rcases List.mem_append.1 h with h | h
              · exact .inl (List.dropLast_subset _ h)
              · obtain ⟨g1, g2, g3⟩ := pushes_mem.1 h
                dsimp only at g1 g2 g3
                exact .inr ⟨hib, hfit, g1, g2, by rw [hee]; exact g3⟩
            · obtain ⟨_, _, g1, g2, g3⟩ := hs
              exact List.mem_append.2 (.inr (pushes_mem.2 ⟨g1, g2, by rw [← hee]; exact g3⟩))
        · refine hnext _ _ _ ?_ ⟨T.dropLast, ms', D.set i (D[i]! ++ [d]), rfl, hvL14, hsb, hS14, hE14', by omega, hInv.go (.inr hxin) hV (fun j e h => .inl (List.dropLast_subset _ h)) (fun j e hs => ?_) hTcase⟩
          · omega
          · obtain ⟨_, g, _⟩ := hs
            exact absurd g hnofit
      refine Ld_sl (s := dl) hS9.d5 (Ld_int c0 (IxA_raw hS9.dv rfl hi2 ?_))
      -- is there a map?
      have hr9' : Row H9 b4 TQbh (stV (i, d)) := hr9
      have hE9' := hE5.trans hE9 fun _ _ h => h
      rcases hS9.mp i hi2 with ⟨g1, g2⟩ | ⟨q, g1, g2⟩
      · rw [g1]
        refine ⟨none, rfl, ?_⟩
        refine Jn.mk (fun _ H10 => ∃ ms' q, RSt H.size H10 b1 b2 r fsl dl ms' D ∧ ms'[i]! = .map (some q) ∧ Row H10 b4 TQbh (stV (i, d)) ∧ VecN H10 TQbh 2 ⟨s.a, T.length - 1, s.cap⟩ (T.dropLast.flatMap stV) ∧ Ext H H10) (fun kk hkk => ?_) (by rintro _ H10 ⟨ms', q, h2, h3, h4, h5, h6⟩; exact behind ms' q H10 h2 h3 h4 h5 h6)
        refine Ld_sl (s := dl) hS9.d5 (Ld_int c0 (MkM_i fun q H11 hq hE11 hz11 hm11 => ?_))
        have hS11 := hS9.ext hE11
        have hvL11 : VecN H11 TQbh 2 ⟨s.a, T.length - 1, s.cap⟩ (T.dropLast.flatMap stV) := hvL.ext hE11
        have hr11 := hE11.row hr9' fun h => h
        refine Stab_2 (hE11.cell c0 fun h => h) hS11.d5 (IxA_StV_vec hS11.dv (by simp [Value.oneCell']) rfl hi2 fun H12 hv12 hU12 _ => hkk _ _ ?_)
        have hdlo := hS11.fd
        have hne : ∀ b T vs, Row H11 b T vs → T ≠ TQa2 → ¬ dl.a = some (adr b) := fun b T vs hrw hT e2 => by
          rcases hS11.dv.own with ⟨g1, _⟩ | ⟨c, sp, g1, g2, _⟩
          · rw [g1] at e2; cases e2
          · rw [g1] at e2; cases e2; exact g2.ne hrw hT.symm rfl
        refine ⟨ms.set i (.map (some q)), q, ?_, ?_, hU12.row hr11 (hne _ _ _ hr11 (by decide)), vecN_upd_state hU12 hvL11 fun b vs hb => hne _ _ _ hb (by decide), ?_⟩
        · refine hS11.fill hi2 g1 hm11 (by omega) (fun j hj e => ?_) hU12 hv12
          rcases hS9.mp j hj with ⟨h1, _⟩ | ⟨q', h1, h2⟩
          · rw [h1] at e; cases e
          · rw [h1] at e; cases e
            have := lt_of_get h2; omega
        · rw [getElem!_pos _ i (by rw [List.length_set]; exact hi2), List.getElem_set_self]
        · refine (hE9'.trans hE11 fun _ _ h => h).trans hU12 fun b hb e => ?_
          have := hdlo b e; omega
      · rw [g1]
        refine ⟨some q, rfl, ?_⟩
        refine Jn_in ?_
        exact behind ms q H9 hS9 g1 hr9' hvL hE9'
  · have hT0 : T = [] := List.eq_nil_of_length_eq_zero (by omega)
    subst hT0
    refine hk b2 dl ms D H5 hE5 { flow := hS.flow, dv := hS.dv, ml := hS.ml, dln := hS.dl', mp := hS.mp, nd := hS.nd, rc := fun i d hi => ?_, f1 := hS.f1.2, fd := hS.fd, fm := hS.fm }
    have := hInv.done (fun i d h => by cases h) i d
    rw [this]
    exact ⟨fun h => ⟨hi, h⟩, fun h => h.2⟩
end
section
open Hc Hc.Vf
variable {H : Heap}
variable {lo f : Nat} {r : Rou} {fsl dl : Sl} {fs : List Rou} {ms : List Value} {D : List (List Nat)}
theorem FlowAt.upd {ps : List Int} {M : Nat → Prop} {H' : Heap} (hu : Upd M H H') (h : FlowAt lo H f r fsl ps dl ms D) (hM : ∀ b, lo ≤ b → b < H.size → ¬ M b) : FlowAt lo H' f r fsl ps dl ms D :=
  { flow := hu.row h.flow (hM _ h.f1 h.flow.lt), dv := h.dv.upd hu fun b hb => hM b (h.fd b hb) (h.dv.lt hb), ml := h.ml, dln := h.dln
    mp := fun i hi => (h.mp i hi).upd hu fun q hq => hM q (h.fm i q hi hq) (by
      rcases h.mp i hi with ⟨g, _⟩ | ⟨q', g, g2⟩
      · rw [hq] at g; cases g
      · rw [hq] at g; cases g; exact lt_of_get g2)
    nd := h.nd, rc := h.rc, f1 := h.f1, fd := h.fd, fm := h.fm }
theorem FlowAt.ext {ps : List Int} {H' : Heap} (hu : Ext H H') (h : FlowAt lo H f r fsl ps dl ms D) : FlowAt lo H' f r fsl ps dl ms D := h.upd hu fun _ _ _ h => h
theorem FlowAt.d5 {ps : List Int} (h : FlowAt lo H f r fsl ps dl ms D) : hcell H ⟨f, 5, none⟩ = some (slV dl) := (h.flow.cell 5).trans rfl
theorem wr_150 {c : List Ins} {ps : List Int} {i : Nat} (h : jumpBad c i) : wr c ps i = 150 := by unfold wr; rw [if_pos h]
theorem wr_151 {c : List Ins} {ps : List Int} {i : Nat} (h : ¬ jumpBad c i) (h2 : stackBad c ps i) : wr c ps i = 151 := by unfold wr; rw [if_neg h, if_pos h2]
theorem wr_153 {c : List Ins} {ps : List Int} {i : Nat} (h : ¬ jumpBad c i) (h2 : ¬ stackBad c ps i) (h3 : endBad c i) : wr c ps i = 153 := by unfold wr; rw [if_neg h, if_neg h2, if_pos h3]
theorem wr_0 {c : List Ins} {ps : List Int} {i : Nat} (h : ¬ jumpBad c i) (h2 : ¬ stackBad c ps i) (h3 : ¬ endBad c i) : wr c ps i = 0 := by unfold wr; rw [if_neg h, if_neg h2, if_neg h3]
theorem s_wrong (hF : FlowAt lo H f r fsl (parms fs) dl ms D) (hr : CodeR H r) (hf : RN rouV 4 H fsl fs) (hI : ∀ x ∈ parms fs, I64 x) (hn2 : r.code.length ≤ 2000) {i : Nat} (hi : i < r.code.length) {k : Int → Heap → Prop}
    (hk : ∀ H', Ext H H' → k (wr r.code (parms fs) i : Nat) H') : CallT Pg fQei [.pointer (some (adr f)), .int .i64 (i : Nat)] (.one (.c (.int .i64))) H k := by
  refine cQec _ _ ?_
  unfold vQec
  simp only [adr_add, NilCk_some]
  have hsl : hcell H ⟨f, 3, none⟩ = some (slV r.sl) := (hF.flow.cell 3).trans rfl
  refine Ld_sl (s := r.sl) hsl (IxA_rn' insV_len hr (by omega) (j := i) rfl hi fun a ha => ?_)
  refine ⟨((r.code[i]!).1, (r.code[i]!).2), ha, Nw_row (vs := [.int .i64 0, .int .i64 0]) fun b1 H1 hb1 hE1 hz1 hr1 => St_row hr1 (by simp) fun H2 hU2 _ hr2 => St_row hr2 (by simp) fun H3 hU3 _ hr3 => ?_⟩
  have hE3 : Ext H H3 := extUpd hE1 (by omega) (hU2.trans hU3 fun _ _ h => h)
  have hI3 : Row H3 b1 TQag (insV r.code[i]!) := hr3
  refine Jn.mk (fun j H' => Ext H H' ∧ (j = true ↔ jumpBad r.code i)) (fun kk hkk => ?_) ?_
  · refine ⟨((r.code[i]!).1, (r.code[i]!).2), hI3.rd_all, ws_jumps (i := r.code[i]!) fun H5 hE5 => ?_⟩
    have hE5' := hE3.trans hE5 fun _ _ h => h
    have hI5 := hE5.row hI3 fun h => h
    refine Br_dec (fun h => ?_) fun h => hkk _ _ ⟨hE5', ?_⟩
    · refine ld_rou (r := r) (hF.ext hE5').flow.rou (Ld_int ((hI5.cell 1).trans rfl) (s_there (r := r) (hr.ext hE5') fun H6 hE6 => ?_))
      have hI6 := hE6.row hI5 fun h => h
      refine Stab_2 ((hI6.cell 0).trans rfl) ((hI6.cell 1).trans rfl) (hkk _ _ ⟨hE5'.trans hE6 fun _ _ h => h, ?_⟩)
      unfold jumpBad
      rw [Bool.not_eq_true', decide_eq_false_iff_not]
      exact ⟨fun h2 => ⟨h, h2⟩, fun h2 => h2.2⟩
    · unfold jumpBad
      exact ⟨fun e => (by cases e), fun e => absurd e.1 h⟩
  rintro j H4 ⟨hE4, hj⟩
  refine Br.mk (fun h => ?_) fun h => ?_
  · have := hk H4 hE4
    rwa [wr_150 (hj.1 h)] at this
  have hnj : ¬ jumpBad r.code i := fun e => by rw [hj.2 e] at h; cases h
  have hF4 := hF.ext hE4
  have hi2 : i < ms.length := by rw [hF.ml]; exact hi
  have hDi : i < D.length := by rw [hF.dln]; exact hi
  have hn0 : 0 < r.code.length := by omega
  refine Ld_sl (s := dl) hF4.d5 (IxA_raw hF4.dv rfl hi2 ?_)
  refine MpRange_i (hF4.mp i hi2) (M0 := fun _ => False) (fun _ _ h => h) (fun seen H' => (∀ d ∈ seen, fits (parms fs) r.code[i]! d) ∧ (seen ≠ [] → (D[i]!).length ≤ 1))
    (BODY := fun n1 H10 nx => CallT Pg fQeg [.pointer (some (adr f)), .int .i64 (i : Nat), .int .i64 n1] (.tup [(.c (.int .i64)), (.c .bool)]) H10 fun (r5 : Int × Bool) H13 =>
        Jn (σ := Bool) (fun kk2 =>
          Br (!r5.2) (
            kk2 true H13) (
            Ld .sl ⟨f, 5, none⟩ H13 fun (x8 : Sl) =>
            IxA 1 x8 (i : Nat) fun a10 =>
            Ld .raw a10 H13 fun (x9 : Value) =>
            MpN x9 H13 fun n2 =>
            kk2 (decide (n2 > 1)) H13)) fun j2 H14 =>
        Br j2 (
          k 151 H14) (
          nx H14)) (fun H' _ => ⟨(fun d hd => by cases hd), fun h => absurd rfl h⟩) ?_ (fun _ _ _ _ _ _ h => h) ?_ (hF.nd i hDi)
  · intro H9 seen hU9 ⟨hs1, hs2⟩ hall
    have hE9 := hE4.trans hU9 fun _ _ h => h
    have hF9 := hF.ext hE9
    have hc3 : hcell H9 ⟨f, 3, none⟩ = some (slV r.sl) := (hF9.flow.cell 3).trans rfl
    have hns : ¬ stackBad r.code (parms fs) i := by
      rintro (⟨d, h1, h2⟩ | ⟨d, e, h1, h2, h3⟩)
      · exact h2 (hs1 d (hall d ((hF.rc i d hi).2 h1)))
      · have g1 := (hF.rc i d hi).2 h1
        have g2 := (hF.rc i e hi).2 h2
        have hl := hs2 (fun e2 => by have := hall d g1; rw [e2] at this; cases this)
        match hDD : D[i]!, g1, g2, hl with
        | [x], g1, g2, _ =>
          rw [List.mem_singleton] at g1 g2
          exact h3 (g1.trans g2.symm)
        | [], g1, _, _ => cases g1
        | _ :: _ :: _, _, _, hl => simp at hl
    refine ld_rou (r := r) hF9.flow.rou (Ld_sl (s := r.sl) hc3 (s_next (r := r) (hr.ext hE9) hi (by omega) fun r3 H11 hE11 hr3' => ?_))
    refine Stab_1 (hE11.cell hc3 fun h => h) ?_
    rw [hr.len]
    refine s_Contains64 hr3'.rl (by have := nexts_len r.code i; omega) ?_
    have hE11' := hE9.trans hE11 fun _ _ h => h
    have hF11 := hF.ext hE11'
    refine Stab_all (fun x hx => ?_) ?_
    · have := hF11.flow
      simp only [List.mem_cons, List.not_mem_nil, or_false] at hx
      rcases hx with rfl | rfl | rfl | rfl | rfl
      · exact (this.cell 3).trans (by first | rfl | (rw [← hr.len]; rfl))
      · exact (this.cell 0).trans rfl
      · exact (this.cell 1).trans rfl
      · exact (this.cell 2).trans rfl
      · exact (this.cell 3).trans (by first | rfl | (rw [← hr.len]; rfl))
    have hkk := hk H11 hE11'
    refine Br_dec (fun he => ?_) fun he => ?_
    · rwa [wr_153 hnj hns he] at hkk
    · rwa [wr_0 hnj hns he] at hkk
  · intro H10 seen d nx hU10 hsz ⟨hs1, hs2⟩ hd hns hnx
    have hE10 := hE4.trans hU10 fun _ _ h => h
    have hF10 := hF.ext hE10
    have hR := (hF.rc i d hi).1 hd
    have hdb := (hR.bd hn0).2
    refine s_fits hF10.flow (hr.ext hE10) (hf.ext hE10) hI hi hdb fun H13 hE13 => ?_
    have hE13' := hE10.trans hE13 fun _ _ h => h
    have hF13 := hF.ext hE13'
    refine Jn.mk (fun j H' => H13 = H' ∧ j = decide (¬ fits (parms fs) r.code[i]! d ∨ (D[i]!).length > 1)) (fun kk hkk => ?_) ?_
    · refine Br_not (Br_dec (fun hfit => ?_) fun hfit => hkk _ _ ⟨rfl, (decide_eq_true (.inl hfit)).symm⟩)
      refine Ld_sl (s := dl) hF13.d5 (IxA_raw hF13.dv rfl hi2 (MpN_i (hF13.mp i hi2) (hkk _ _ ⟨rfl, ?_⟩)))
      exact decide_eq_decide.2 ⟨fun h => .inr (by omega), fun h => by rcases h with h | h; exact absurd hfit h; omega⟩
    rintro j _ ⟨rfl, rfl⟩
    refine Br_dec (fun hbad => ?_) fun hok => hnx _ (hU10.trans hE13 fun _ _ h => h) hE13.size (hE13.get _ hsz fun h => h) ⟨fun e he => ?_, fun _ => ?_⟩
    · have hsb : stackBad r.code (parms fs) i := by
        rcases hbad with hb | hb
        · exact .inl ⟨d, hR, hb⟩
        · match hDD : D[i]!, hb, hF.nd i hDi with
          | x :: y :: t, _, hnd =>
            have hx := (hF.rc i x hi).1 (by rw [hDD]; simp)
            have hy := (hF.rc i y hi).1 (by rw [hDD]; simp)
            refine .inr ⟨x, y, hx, hy, fun e => ?_⟩
            subst e
            simp at hnd
          | [_], hb, _ => simp at hb
          | [], hb, _ => simp at hb
      have := hk H13 hE13'
      rwa [wr_151 hnj hsb] at this
    · rcases List.mem_cons.1 he with rfl | he
      · exact Classical.byContradiction fun h => hok (.inl h)
      · exact hs1 e he
    · exact Nat.le_of_not_lt fun h => hok (.inr h)
open Classical in
noncomputable abbrev badP (c : List Ins) (ps : List Int) : Nat → Bool := fun i => decide (isReached c ps i ∧ wr c ps i ≠ 0)
open Classical in
theorem badP_false {c : List Ins} {ps : List Int} {n : Nat} (h : ¬ (isReached c ps n ∧ wr c ps n ≠ 0)) : badP c ps n = false := decide_eq_false h
open Classical in
theorem badP_true {c : List Ins} {ps : List Int} {n : Nat} (h : isReached c ps n ∧ wr c ps n ≠ 0) : badP c ps n = true := decide_eq_true h
theorem s_first (hF : FlowAt lo H f r fsl (parms fs) dl ms D) (hr : CodeR H r) (hf : RN rouV 4 H fsl fs) (hI : ∀ x ∈ parms fs, I64 x) (hn2 : r.code.length ≤ 2000) {k : Option Addr → Heap → Prop}
    (hk : ∀ q H', Ext H H' → (match (List.range r.code.length).find? (badP r.code (parms fs)) with | some i => ∃ g, q = some (adr g) ∧ H.size ≤ g ∧ Row H' g TQa6 [.int .i64 (i : Nat), .int .i64 (wr r.code (parms fs) i : Nat)] | none => q = none) → k q H') :
    CallT Pg fQd6 [.pointer (some (adr f))] (.one (.c .ptr)) H k := by
  refine cQd0 _ ?_
  unfold vQd0
  simp only [adr_add, NilCk_some]
  have hsl : hcell H ⟨f, 3, none⟩ = some (slV r.sl) := (hF.flow.cell 3).trans rfl
  refine Ld_sl (s := r.sl) hsl ?_
  rw [hr.len]
  refine LoopT.mk (fun i H' => ∃ n : Nat, i = n ∧ n ≤ r.code.length ∧ Ext H H' ∧ ∀ j, j < n → badP r.code (parms fs) j = false) (fun i _ => r.code.length - i.toNat) ⟨0, rfl, Nat.zero_le _, .refl _ _, fun j hj => by omega⟩ ?_
  rintro next _ H1 ⟨n, rfl, hn, hE1, hno⟩ hnext
  refine Br_dec (fun hlt => Jn_in ?_) fun hge => ?_
  · have hn3 : n < r.code.length := by omega
    have hi2 : n < ms.length := by rw [hF.ml]; exact hn3
    have hF1 := hF.ext hE1
    have go : ∀ H2, Ext H H2 → badP r.code (parms fs) n = false → Lt (IntKind.wrap .i64 ((n : Int) + 1)) fun t1 => next t1 H2 := fun H2 hE2 hb =>
      Lt.mk (u := ((n + 1 : Nat) : Int)) (by rw [wrap_i64_id] <;> omega) (hnext _ _ ⟨n + 1, rfl, hn3, hE2, fun j hj => by
        rcases Nat.lt_or_ge j n with e | e
        · exact hno j e
        · have : j = n := by omega
          subst this; exact hb⟩ (by omega))
    refine Ld_sl (s := dl) hF1.d5 (IxA_raw hF1.dv rfl hi2 (MpN_i (hF1.mp n hi2) (Br.mk (fun h0 => ?_) fun h0 => ?_)))
    · refine go H1 hE1 (badP_false ?_)
      rintro ⟨⟨d, hd⟩, _⟩
      have := (hF.rc n d hn3).2 hd
      have h0 := beqI h0
      have h2 : D[n]! = [] := List.eq_nil_of_length_eq_zero (by omega)
      rw [h2] at this
      cases this
    · have h0 := bneI h0
      have hrd : isReached r.code (parms fs) n := by
        match hDD : D[n]!, h0 with
        | x :: t, _ => exact ⟨x, (hF.rc n x hn3).1 (by rw [hDD]; simp)⟩
        | [], h0 => simp at h0
      refine s_wrong hF1 (hr.ext hE1) (hf.ext hE1) hI hn2 hn3 fun H3 hE3 => ?_
      have hE3' := hE1.trans hE3 fun _ _ h => h
      by_cases hw : wr r.code (parms fs) n = 0
      · rw [hw]
        refine go H3 hE3' (badP_false fun h => h.2 hw)
      · rw [show ((((wr r.code (parms fs) n : Nat)) : Int) != 0) = true by rw [bne_iff_ne]; omega, Br_true]
        refine s_vfault fun H4 g hg hE4 hrow => hk _ _ (hE3'.trans hE4 fun _ _ h => h) ?_
        have : (List.range r.code.length).find? (badP r.code (parms fs)) = some n := by
          rw [List.find?_range_eq_some]
          exact ⟨badP_true ⟨hrd, hw⟩, List.mem_range.2 hn3, fun j hj => by rw [hno j hj]; rfl⟩
        rw [this]
        exact ⟨g, rfl, by have := hE3'.size; omega, hrow⟩
  · refine hk _ _ hE1 ?_
    have : (List.range r.code.length).find? (badP r.code (parms fs)) = none := by
      rw [List.find?_range_eq_none]
      intro j hj
      rw [hno j (by omega)]; rfl
    rw [this]
end
section
open Hc Hc.Vf
variable {H : Heap}
open Classical in
noncomputable def wholeS (c : List Ins) (ps : List Int) : Except (Nat × Nat) Unit :=
  if c.length = 0 then .error (0, 153) else match (List.range c.length).find? (badP c ps) with
  | some i => .error (i, wr c ps i)
  | none => .ok ()
def FaultP (lo : Nat) (H : Heap) (q : Option Addr) (a e : Nat) : Prop := ∃ g, q = some (adr g) ∧ lo ≤ g ∧ Row H g TQa6 [.int .i64 (a : Nat), .int .i64 (e : Nat)]
theorem s_whole {r : Rou} {fsl : Sl} {fs : List Rou} (hr : CodeR H r) (hf : RN rouV 4 H fsl fs) (hI : ∀ x ∈ parms fs, I64 x) (hn2 : r.code.length ≤ 2000) {k : Option Addr × Option Addr → Heap → Prop}
    (hk : ∀ q H', Ext H H' → (match wholeS r.code (parms fs) with | .ok _ => q.2 = none ∧ ∃ f dl ms D, q.1 = some (adr f) ∧ FlowAt H.size H' f r fsl (parms fs) dl ms D | .error (a, e) => q.1 = none ∧ FaultP H.size H' q.2 a e) → k q H') :
    CallT Pg fQdo [rouA r, .slice fsl.a fsl.len fsl.cap] (.tup [(.c .ptr), (.c .ptr)]) H k := by
  refine cQdi (r.name, r.params, r.locals, r.sl) _ ?_
  unfold vQdi
  refine Nw_row (vs := rouV r) fun b1 H1 hb1 hE1 hz1 hrow => ?_
  simp only [adr_add]
  refine Ld_sl (s := r.sl) ((hrow.cell 3).trans rfl) ?_
  rw [hr.len]
  refine Br.mk (fun h0 => ?_) fun h0 => ?_
  · have h0 := beqI h0
    refine s_vfault fun H2 g hg hE2 hrow2 => hk _ _ (hE1.trans hE2 fun _ _ h => h) ?_
    unfold wholeS
    rw [if_pos (by omega)]
    exact ⟨rfl, g, rfl, by have := hE1.size; omega, hrow2⟩
  · have h0 := bneI h0
    refine ld_rou (r := r) hrow.rd_all (s_reach (r := r) (hr.ext hE1) (hf.ext hE1) hI (by omega) hn2 fun f dl ms D H3 hE3 hF => ?_)
    have hE3' := hE1.trans hE3 fun _ _ h => h
    refine s_first hF (hr.ext hE3') (hf.ext hE3') hI hn2 fun q H4 hE4 hq => ?_
    have hE4' := hE3'.trans hE4 fun _ _ h => h
    have z1 := hE1.size
    have z3 := hE3'.size
    have hW : wholeS r.code (parms fs) = match (List.range r.code.length).find? (badP r.code (parms fs)) with
        | some i => .error (i, wr r.code (parms fs) i)
        | none => .ok () := by unfold wholeS; rw [if_neg (by omega)]
    cases hfd : (List.range r.code.length).find? (badP r.code (parms fs)) with
    | some i =>
      rw [hfd] at hq hW
      obtain ⟨g, rfl, hg, hrow4⟩ := hq
      show k (none, some (adr g)) H4
      refine hk _ _ hE4' ?_
      rw [hW]
      exact ⟨rfl, g, rfl, by omega, hrow4⟩
    | none =>
      rw [hfd] at hq hW
      subst hq
      show k (some (adr f), none) H4
      refine hk _ _ hE4' ?_
      rw [hW]
      have hF4 := hF.ext hE4
      exact ⟨rfl, f, dl, ms, D, rfl, { flow := hF4.flow, dv := hF4.dv, ml := hF4.ml, dln := hF4.dln, mp := hF4.mp, nd := hF4.nd, rc := hF4.rc, f1 := by have := hF4.f1; omega, fd := fun b hb => by have := hF4.fd b hb; omega, fm := fun i q hi hq => by have := hF4.fm i q hi hq; omega }⟩
theorem FlowAt.keep {lo f : Nat} {r : Rou} {fsl dl : Sl} {ms : List Value} {D : List (List Nat)} {ps : List Int} {bo : Nat} {vs : List Value} {H' : Heap} (hu : Upd (· = bo) H H') (h : FlowAt lo H f r fsl ps dl ms D) (ho : Row H bo TQap vs) : FlowAt lo H' f r fsl ps dl ms D :=
  { flow := hu.row h.flow (h.flow.ne ho (by decide)), dv := h.dv.upd hu fun b hb => h.dv.ne hb ho (by decide), ml := h.ml, dln := h.dln
    mp := fun i hi => (h.mp i hi).upd hu fun q hq e => by
      subst e
      rcases h.mp i hi with ⟨g, _⟩ | ⟨q', g, g2⟩
      · rw [hq] at g; cases g
      · rw [hq] at g; cases g; exact Row.neMap ho g2 rfl
    nd := h.nd, rc := h.rc, f1 := h.f1, fd := h.fd, fm := h.fm }
def DepOut (lo : Nat) (H : Heap) (c : List Ins) (ps : List Int) (l : Sl) (v : Value) : Prop :=
  match depthsS c ps with
  | .ok xs => v = .nilIface ∧ Vec H TQap l (ints xs) ∧ ∀ b, l.a = some (adr b) → lo ≤ b
  | .error (a, e) => l = ⟨none, 0, 0⟩ ∧ ∃ g, v = .iface TQa3 (.pointer (some (adr g))) ∧ lo ≤ g ∧ Row H g TQa6 [.int .i64 (a : Nat), .int .i64 (e : Nat)]
abbrev wprgA (p : Sl × Sl) : Value := .agg #[.slice p.1.a p.1.len p.1.cap, .slice p.2.a p.2.len p.2.cap]
end
section
open Hc Hc.Vf
variable {H : Heap}
theorem AppStr_vec {T : TypeId} {bytes : Nat} {z : Value} {s : Sl} {x : ByteArray} {H : Heap} {k : Sl → Heap → Prop} {vs : List Value} (hv : Vec H T s vs)
    (hb : bytes ≠ 0) (hcap : (vs.length + x.size + (vs.length + x.size) / 4 + 1000) * bytes ≤ 2 ^ 48) (hxl : (bytesV x).toList.length = x.size) (hone : ∀ w ∈ (bytesV x).toList, w.oneCell' = true)
    (hk : ∀ s' H', Vec H' T s' (vs ++ (bytesV x).toList) → Upd (fun b => s.a = some (adr b)) H H' → (s'.a = s.a ∨ s'.a = some (adr H.size)) → k s' H') : AppStr T bytes #[z] s x H k := by
  have hlen := hv.len
  have hbV : bytesV x = ⟨(bytesV x).toList⟩ := rfl
  unfold AppStr
  rw [hbV]
  generalize (bytesV x).toList = ws at *
  clear hbV
  refine ⟨fun hfit => ?_, fun hgrow => ?_⟩
  · rcases hv.own with ⟨h1, h2, h3⟩ | ⟨b, sp, h1, h2, h3⟩
    · rw [h1]
      have hw : ws = [] := List.eq_nil_of_length_eq_zero (by omega)
      subst h3
      rw [hw] at hk
      simp only [List.length_nil] at hlen
      refine hk _ H ⟨by simp only [List.append_nil, List.length_nil]; omega, .inl ⟨rfl, by simpa using h2, rfl⟩, hfit⟩ (.refl _ _) (.inl h1.symm)
    · rw [h1]
      dsimp only
      rw [adr_add]
      have hl : vs.length ≤ s.len := by omega
      refine StL_row h2 (by simp; omega) hone fun H' hU hs hr => ?_
      refine hk _ H' ⟨by simp; omega, .inr ⟨b, sp.drop ws.length, rfl, ?_, by simp only [List.length_append, List.length_drop]; omega⟩, hfit⟩ (hU.mono fun b' _ e => by rw [e.1]; exact h1) (.inl h1.symm)
      rw [hlen, Nat.add_zero, List.take_left, List.drop_append, List.drop_eq_nil_of_le (by omega), List.nil_append] at hr
      rw [show vs.length + ws.length - vs.length = ws.length by omega] at hr
      exact hr
  · refine ⟨hb, ?_, vs, hv.rd, fun _ => by omega, fun c hc => ?_⟩
    · have := nextcap_le (s.len + x.size) s.cap hgrow
      refine Nat.le_trans (Nat.mul_le_mul_right bytes this) ?_
      rw [hlen]; exact hcap
    · have e : (⟨vs⟩ ++ ⟨ws⟩ ++ zcells #[z] ((c - (s.len + x.size)) * (#[z] : Array Value).size) : Array Value) = ⟨vs ++ ws ++ List.replicate (c - (s.len + x.size)) z⟩ := by
        rw [zcells_one]; apply Array.ext'; simp
      rw [e]
      refine hk _ _ ⟨by simp only [List.length_append]; omega, .inr ⟨H.size, List.replicate (c - (s.len + x.size)) z, rfl, get_push_new _ _, by simp only [List.length_append, List.length_replicate]; omega⟩, hc⟩ (Upd.push _ _ _) (.inr rfl)
def By (H : Heap) (s : Sl) (n : Nat) : Prop := ∃ vs, Vec H TQbd s vs ∧ vs.length ≤ n ∧ ∀ w ∈ vs, w.oneCell' = true
theorem By.nil (H : Heap) : By H ⟨none, 0, 0⟩ 0 := ⟨[], Vec.nil _ _, Nat.le_refl _, fun w hw => (by cases hw)⟩
theorem By.ext {H' : Heap} {s : Sl} {n : Nat} (hE : Ext H H') (h : By H s n) : By H' s n := by
  obtain ⟨vs, h1, h2, h3⟩ := h
  exact ⟨vs, h1.upd hE fun _ _ h => h, h2, h3⟩
theorem s_fresh {s : Sl} {n : Nat} (h : By H s n) (hn : n ≤ 2 ^ 40) {k : Sl → Heap → Prop} (hk : ∀ s' H', Ext H H' → By H' s' n → (∀ b, s'.a = some (adr b) → H.size ≤ b) → k s' H') : CallT Pg fQed [.slice s.a s.len s.cap] (.one (.c .sl)) H k := by
  obtain ⟨vs, hv, hl, h1c⟩ := h
  refine cQd7 _ ?_
  unfold vQd7
  refine App_vec (Vec.nil _ _) hv.rd hv.len.symm h1c (by omega) (by simp only [List.length_nil]; omega) fun s' H' h1 h2 h3 _ => hk _ _ (h2.mono fun b _ e => by cases e.1) ⟨vs, by simpa using h1, hl, h1c⟩ fun b hb => ?_
  rcases h3 with e | e
  · rw [e] at hb; cases hb
  · rw [e] at hb; cases hb; exact Nat.le_refl _
theorem s_add {lo : Nat} {s : Sl} {n q : Nat} (h : By H s n) (hs : ∀ b, s.a = some (adr b) → lo ≤ b) (hlo : lo ≤ H.size) (hn : n ≤ 2 ^ 40) (hq : q < 18446744073709551616) {k : Sl → Heap → Prop} (hk : ∀ s' H', Upd (fun b => lo ≤ b) H H' → By H' s' (n + 10) → (∀ b, s'.a = some (adr b) → lo ≤ b) → k s' H') :
    CallT Pg fQec [.slice s.a s.len s.cap, .int .u64 (q : Nat)] (.one (.c .sl)) H k := by
  refine cQd6 _ _ ?_
  unfold vQd6
  refine LoopT.mk (fun (st : Sl × Int) H' => ∃ j m q : Nat, st.2 = q ∧ j + m = 10 ∧ q < 128 ^ m ∧ 0 < m ∧ By H' st.1 (n + j) ∧ (∀ b, st.1.a = some (adr b) → lo ≤ b) ∧ Upd (fun b => lo ≤ b) H H') (fun st _ => st.2.toNat) ⟨0, 10, q, rfl, rfl, by omega, by omega, h, hs, .refl _ _⟩ ?_
  rintro next ⟨s1, _⟩ H1 ⟨j, m, p, rfl, hjm, hp, hm, hb, hs1, hU⟩ hnext
  dsimp only at hb hs1 ⊢
  have z1 := hU.size
  have ap : ∀ {x : Int} {K : Sl → Heap → Prop}, (∀ s' H', Upd (fun b => lo ≤ b) H H' → By H' s' (n + j + 1) → (∀ b, s'.a = some (adr b) → lo ≤ b) → K s' H') →
      Nw #[.int .u8 x] TQbd H1 fun b1 H2 => App TQbd 1 1 #[.int .u8 0] s1 ⟨some (adr b1), 1, 1⟩ H2 K := fun {x K} hK => by
    obtain ⟨vs, hv, hl, h1c⟩ := hb
    refine Nw_row (vs := [.int .u8 x]) fun b1 H2 hb1 hE2 hz2 hr2 => ?_
    refine App_vec (hv.ext hE2) (ws := [.int .u8 x]) hr2.rd_all rfl (by simp [Value.oneCell']) (by omega) (by simp only [List.length_singleton]; omega) fun s' H' h1 h2 h3 _ => hK _ _ ((hU.trans hE2 fun _ _ h => h.elim).trans h2 fun b hb e => hs1 b e.1) ⟨_, h1, by simp; omega, fun w hw => by rcases List.mem_append.1 hw with g | g; exact h1c w g; rw [List.mem_singleton] at g; rw [g]; rfl⟩ fun b hb => ?_
    rcases h3 with e | e
    · rw [e] at hb; exact hs1 b hb
    · rw [e] at hb; cases hb; omega
  refine Br_dec (fun hge => ?_) fun hlt => ?_
  · obtain ⟨m', rfl⟩ : ∃ m', m = m' + 1 := ⟨m - 1, by omega⟩
    have hm' : 0 < m' := by
      rcases Nat.eq_zero_or_pos m' with e | e
      · subst e; omega
      · exact e
    refine Lt.mk rfl (ap fun s' H' h1 h2 h3 => ⟨by omega, ?_⟩)
    have e : ((p : Int)).fdiv (2 ^ (min (7 : Int).toNat IntKind.u64.bits)) = ((p / 128 : Nat) : Int) := by
      rw [show ((2 : Int) ^ (min (7 : Int).toNat IntKind.u64.bits)) = ((128 : Nat) : Int) by rfl, Int.fdiv_eq_ediv_of_nonneg _ (by omega)]
      rfl
    rw [e]
    refine hnext _ _ ⟨j + 1, m', p / 128, rfl, by omega, ?_, hm', h2, h3, h1⟩ (by dsimp only; omega)
    rw [Nat.pow_succ] at hp
    exact Nat.div_lt_of_lt_mul (by rw [Nat.mul_comm]; exact hp)
  · refine ap fun s' H' h1 h2 h3 => hk _ _ h1 ?_ h3
    obtain ⟨vs, g1, g2, g3⟩ := h2
    exact ⟨vs, g1, by omega, g3⟩
theorem s_Put {s : Sl} {n q : Nat} (h : By H s n) (hn : n ≤ 2 ^ 40) (hq : q < 18446744073709551616) {k : Sl → Heap → Prop} (hk : ∀ s' H', Ext H H' → By H' s' (n + 10) → (∀ b, s'.a = some (adr b) → H.size ≤ b) → k s' H') :
    CallT Pg fQdw [.slice s.a s.len s.cap, .int .u64 (q : Nat)] (.one (.c .sl)) H k := by
  refine cQdq _ _ ?_
  unfold vQdq
  refine s_fresh h hn fun s1 H1 hE1 h1 hf1 => s_add h1 hf1 hE1.size hn hq fun s2 H2 hU2 h2 hf2 => hk _ _ (hE1.trans hU2 fun b hb e => ?_) h2 hf2
  omega
theorem wrap_u64_nat (x : Int) : ∃ q : Nat, IntKind.wrap .u64 x = q ∧ q < 18446744073709551616 := by
  refine ⟨(x % 18446744073709551616).toNat, ?_, by omega⟩
  show x % 18446744073709551616 = _
  omega
theorem s_put {s : Sl} {n : Nat} {x : Int} (h : By H s n) (hn : n ≤ 2 ^ 40) {k : Sl → Heap → Prop} (hk : ∀ s' H', Ext H H' → By H' s' (n + 10) → k s' H') :
    CallT Pg fQdf [.slice s.a s.len s.cap, .int .i64 x] (.one (.c .sl)) H k := by
  refine cQc9 _ _ ?_
  unfold vQc9
  obtain ⟨q, hq, hq2⟩ := wrap_u64_nat x
  rw [hq]
  exact s_Put h hn hq2 fun s' H' h1 h2 _ => hk s' H' h1 h2
theorem s_PutText {s : Sl} {n : Nat} {x : ByteArray} (h : By H s n) (hn : n ≤ 2 ^ 40) (hx : x.size ≤ 2 ^ 40) {k : Sl → Heap → Prop} (hk : ∀ s' H', Ext H H' → By H' s' (n + 10 + x.size) → k s' H') :
    CallT Pg fQdx [.slice s.a s.len s.cap, .string x] (.one (.c .sl)) H k := by
  refine cQdr _ _ ?_
  unfold vQdr
  obtain ⟨q, hq, hq2⟩ := wrap_u64_nat x.size
  rw [hq]
  refine s_Put h hn hq2 fun s1 H1 hE1 ⟨vs, h1, h2, h1c⟩ hf1 => ?_
  have hbl : (bytesV x).toList.length = x.size := by simp [bytesV]
  have hbc : ∀ w ∈ (bytesV x).toList, w.oneCell' = true := fun w hw => by simp [bytesV] at hw; obtain ⟨_, _, rfl⟩ := hw; rfl
  refine AppStr_vec h1 (by omega) (by omega) hbl hbc fun s2 H2 hv2 hU2 _ => hk _ _ (hE1.trans hU2 fun b hb e => ?_) ⟨_, hv2, by rw [List.length_append, hbl]; omega, fun w hw => (List.mem_append.1 hw).elim (h1c w) (hbc w)⟩
  have := hf1 b e; omega
theorem bits_u64_bd' (op : BinOp) (x y : Int) : 0 ≤ bits op .u64 x y ∧ bits op .u64 x y < 18446744073709551616 := by
  unfold bits; dsimp only; rw [wrap_u64]; omega
theorem s_PutInt {s : Sl} {n : Nat} {x : Int} (h : By H s n) (hn : n ≤ 2 ^ 40) {k : Sl → Heap → Prop} (hk : ∀ s' H', Ext H H' → By H' s' (n + 10) → k s' H') :
    CallT Pg fQdy [.slice s.a s.len s.cap, .int .i64 x] (.one (.c .sl)) H k := by
  refine cQds _ _ ?_
  unfold vQds
  refine cQd8 _ ?_
  unfold vQd8
  refine ⟨by omega, by omega, ?_⟩
  refine Lt.mk rfl ?_
  have hb : 0 ≤ bits .xor .u64 (IntKind.wrap .u64 (IntKind.wrap .i64 (x * 2 ^ (min (1 : Int).toNat IntKind.i64.bits)))) (IntKind.wrap .u64 (x.fdiv (2 ^ (min (63 : Int).toNat IntKind.i64.bits)))) ∧ bits .xor .u64 (IntKind.wrap .u64 (IntKind.wrap .i64 (x * 2 ^ (min (1 : Int).toNat IntKind.i64.bits)))) (IntKind.wrap .u64 (x.fdiv (2 ^ (min (63 : Int).toNat IntKind.i64.bits)))) < 18446744073709551616 := bits_u64_bd' _ _ _
  generalize bits .xor .u64 (IntKind.wrap .u64 (IntKind.wrap .i64 (x * 2 ^ (min (1 : Int).toNat IntKind.i64.bits)))) (IntKind.wrap .u64 (x.fdiv (2 ^ (min (63 : Int).toNat IntKind.i64.bits)))) = y at *
  obtain ⟨q, rfl⟩ : ∃ q : Nat, y = q := ⟨y.toNat, by omega⟩
  exact s_Put h hn (by omega) fun s' H' h1 h2 _ => hk s' H' h1 h2
end
section
open Hc Hc.Vf
variable {H : Heap}
def instrOk (i : Ins) : Bool := isOpB i.1 && (numB i.1 || decide (i.2 = 0))
def sizedOk (r : Rou) : Bool := decide (0 ≤ r.params ∧ r.params ≤ 4 ∧ r.params ≤ r.locals ∧ r.locals ≤ 32)
def rouOk (r : Rou) : Bool := decide (1 ≤ r.name.size ∧ r.name.size ≤ 16) && sizedOk r && r.code.all instrOk
def risesOk : Int → List Int → Bool
  | _, [] => true
  | l, x :: t => decide (l < x ∧ x ≤ 12) && risesOk x t
theorem s_instr {i : Ins} {k : Bool → Heap → Prop} (hk : ∀ H', Ext H H' → k (instrOk i) H') : CallT Pg fQeb [.agg #[.int .i64 i.1, .int .i64 i.2]] (.one (.c .bool)) H k := by
  refine cQd5 i ?_
  unfold vQd5
  refine Nw_row (vs := [.int .i64 i.1, .int .i64 i.2]) fun b1 H1 hb1 hE1 _ hr1 => ?_
  refine Jn.mk (fun j H' => Ext H H' ∧ j = instrOk i) (fun kk hkk => ?_) (by rintro j H' ⟨h, rfl⟩; exact hk _ h)
  refine Ld_int ((hr1.cell 0).trans rfl) (s_isOp (Br.mk (fun hop => ?_) fun hop => ?_))
  · refine Ld_int ((hr1.cell 0).trans rfl) (s_shapeOf fun H3 w hE3 _ => ?_)
    have hE3' := hE1.trans hE3 fun _ _ h => h
    have hr3 := hE3.row hr1 fun h => h
    have hs : (shp i.1).1 = numB i.1 := by unfold shp; rw [if_pos hop]
    dsimp only
    rw [hs]
    refine Br.mk (fun hn => hkk _ _ ⟨hE3', ?_⟩) fun hn => ?_
    · unfold instrOk; rw [hop, hn]; rfl
    · rw [adr_add]
      refine Ld_int ((hr3.cell 1).trans rfl) (hkk _ _ ⟨hE3', ?_⟩)
      unfold instrOk; rw [hop, hn]
      exact Bool.eq_iff_iff.2 (by simp)
  · refine hkk _ _ ⟨hE1, ?_⟩
    unfold instrOk; rw [hop]; rfl
theorem s_sized {r : Rou} {k : Bool → Heap → Prop} (hk : ∀ H', Ext H H' → k (sizedOk r) H') : CallT Pg fQea [rouA r] (.one (.c .bool)) H k := by
  refine cQd4 (r.name, r.params, r.locals, r.sl) ?_
  unfold vQd4
  refine Nw_row (vs := rouV r) fun b1 H1 hb1 hE1 _ hr1 => ?_
  simp only [adr_add]
  have c1 : hcell H1 ⟨b1, 1, none⟩ = some (.int .i64 r.params) := (hr1.cell 1).trans rfl
  have c2 : hcell H1 ⟨b1, 2, none⟩ = some (.int .i64 r.locals) := (hr1.cell 2).trans rfl
  refine Jn.mk (fun j H' => H1 = H' ∧ j = sizedOk r) (fun kk hkk => ?_) (by rintro j _ ⟨rfl, rfl⟩; exact hk _ hE1)
  refine Ld_int c1 (Br_dec (fun h1 => Ld_int c1 (Br_dec (fun h2 => Ld_int c2 (Ld_int c1 (Br_dec (fun h3 => Ld_int c2 (hkk _ _ ⟨rfl, decide_eq_decide.2 ?_⟩)) fun h => hkk _ _ ⟨rfl, ?_⟩))) fun h => hkk _ _ ⟨rfl, ?_⟩)) fun h => hkk _ _ ⟨rfl, ?_⟩)
  · exact ⟨fun h => ⟨h1, h2, h3, h⟩, fun h => h.2.2.2⟩
  all_goals exact (decide_eq_false (by omega)).symm
theorem s_rises {s : Sl} {xs : List Int} (hs : RL (Value.int .i64) H s xs) (hl : xs.length ≤ 2 ^ 60) {k : Bool → Heap → Prop} (hk : k (risesOk 0 xs) H) : CallT Pg fQdu [.slice s.a s.len s.cap] (.one (.c .bool)) H k := by
  refine cQdo _ ?_
  unfold vQdo
  have hlen := hs.len
  refine LoopT.mk (fun (st : Int × Int) H' => H = H' ∧ ∃ n : Nat, st.2 = n ∧ n ≤ xs.length ∧ risesOk 0 xs = risesOk st.1 (xs.drop n)) (fun st _ => xs.length - st.2.toNat) ⟨rfl, 0, rfl, Nat.zero_le _, rfl⟩ ?_
  rintro next ⟨l, _⟩ _ ⟨rfl, n, rfl, hn, he⟩ hnext
  dsimp only at he ⊢
  refine Br_dec (fun hlt => ?_) fun hge => ?_
  · have hn3 : n < xs.length := by omega
    rw [List.drop_eq_getElem_cons hn3, risesOk] at he
    refine IxA_rl hs rfl hn3 fun a ha => Ld_int (n := xs[n]) (by rw [ha]) ?_
    generalize xs[n] = x at *
    refine Jn.mk (fun j H' => H = H' ∧ j = decide (¬ (l < x ∧ x ≤ 12))) (fun kk hkk => ?_) ?_
    · exact Br_dec (fun h => hkk _ _ ⟨rfl, (decide_eq_true (by omega)).symm⟩) fun h => hkk _ _ ⟨rfl, decide_eq_decide.2 (by omega)⟩
    rintro j _ ⟨rfl, rfl⟩
    refine Br_dec (fun h => ?_) fun h => ?_
    · rw [decide_eq_false h, Bool.false_and] at he
      rwa [he] at hk
    · rw [decide_eq_true (Classical.not_not.1 h), Bool.true_and] at he
      exact Lt.mk (u := ((n + 1 : Nat) : Int)) (by rw [wrap_i64_id] <;> omega) (hnext _ _ ⟨rfl, n + 1, rfl, hn3, he⟩ (by dsimp only; omega))
  · rw [List.drop_eq_nil_of_le (by omega)] at he
    rwa [he] at hk
theorem ws_written {r : Rou} {bl m : Nat} (hr : CodeR H r) (hl : Row H bl TQap [.int .i64 (m : Nat)]) (hm : m ≤ 2000) (hlen : r.code.length ≤ 2 ^ 60) (hne : r.code ≠ [] → ∀ a, r.sl.a = some a → a.block ≠ bl) {k : Bool → Heap → Prop}
    (hk : ∀ H', Upd (· = bl) H H' → Row H' bl TQap [.int .i64 ((m : Int) - r.code.length)] → k (rouOk r && decide (r.code.length ≤ m)) H') : CallT Pg fQdv [rouA r, .pointer (some (adr bl))] (.one (.c .bool)) H k := by
  refine cQdp (r.name, r.params, r.locals, r.sl) _ ?_
  unfold vQdp
  refine Nw_row (vs := rouV r) fun b1 H1 hb1 hE1 _ hr1 => ?_
  simp only [adr_add, NilCk_some]
  have hrl := hr.len
  have hl1 := hE1.row hl fun h => h
  have hblt := hl.lt
  refine Ld_int (n := (m : Nat)) ((hl1.cell 0).trans rfl) (Ld_sl (s := r.sl) ((hr1.cell 3).trans rfl) (Lt.mk (u := (m : Int) - r.code.length) (by rw [wrap_i64_id] <;> omega) (St_row hl1 (by simp) fun H2 hU2 _ hl2 => ?_)))
  have hr2 : Row H2 b1 TQak (rouV r) := hU2.row hr1 (by omega)
  have hU2' : Upd (· = bl) H H2 := (hE1.mono fun _ _ h => h.elim).trans hU2 fun _ _ h => h
  have hl2 : Row H2 bl TQap [.int .i64 ((m : Int) - r.code.length)] := hl2
  have hc2 : CodeR H2 r := hr.upd' hU2' hne
  refine Jn.mk (fun j H' => Ext H2 H' ∧ (j = false ↔ (1 ≤ r.name.size ∧ r.name.size ≤ 16) ∧ sizedOk r = true ∧ r.code.length ≤ m)) (fun kk hkk => ?_) ?_
  · refine Ld_str ((hr2.cell 0).trans rfl) (Br_dec (fun h => hkk _ _ ⟨.refl _ _, ?_⟩) fun h1 => Ld_str ((hr2.cell 0).trans rfl) (Br_dec (fun h => hkk _ _ ⟨.refl _ _, ?_⟩) fun h2 => ld_rou (r := r) hr2.rd_all (s_sized fun H4 hE4 => ?_)))
    · exact ⟨fun e => (by cases e), fun e => by omega⟩
    · exact ⟨fun e => (by cases e), fun e => by omega⟩
    · have hl4 := hE4.row hl2 fun h => h
      refine Br_not (Br.mk (fun h => ?_) fun h => hkk _ _ ⟨hE4, fun e => (by cases e), fun e => by rw [h] at e; cases e.2.1⟩)
      refine Ld_int ((hl4.cell 0).trans rfl) (hkk _ _ ⟨hE4, ?_⟩)
      rw [decide_eq_false_iff_not]
      exact ⟨fun e => ⟨by omega, h, by omega⟩, fun e => by omega⟩
  rintro j H3 ⟨hE3, hj⟩
  have hU3 : Upd (· = bl) H H3 := hU2'.trans hE3 fun _ _ h => h.elim
  refine Br.mk (fun h => ?_) fun h => ?_
  · have := hk _ hU3 (hE3.row hl2 fun h => h)
    have e : (rouOk r && decide (r.code.length ≤ m)) = false := by
      rw [Bool.eq_false_iff]
      intro e
      unfold rouOk at e
      simp only [Bool.and_eq_true, decide_eq_true_eq] at e
      have := hj.2 ⟨e.1.1.1, e.1.1.2, e.2⟩
      rw [h] at this; cases this
    rwa [e] at this
  · obtain ⟨hA, hB, hC⟩ := hj.1 h
    have hr3 := hE3.row hr2 fun h => h
    have hc3 := hc2.ext hE3
    refine Ld_sl (s := r.sl) ((hr3.cell 3).trans rfl) ?_
    have hcl := hc3.len
    refine LoopT.mk (fun (i : Int) H' => ∃ n : Nat, i = n ∧ n ≤ r.code.length ∧ Ext H3 H' ∧ r.code.all instrOk = (r.code.drop n).all instrOk) (fun i _ => r.code.length - i.toNat) ⟨0, rfl, Nat.zero_le _, .refl _ _, rfl⟩ ?_
    rintro next _ H5 ⟨n, rfl, hn, hE5, he⟩ hnext
    have fin : ∀ {b : Bool} {H' : Heap}, Ext H3 H' → r.code.all instrOk = b → k b H' := fun {b H'} hE h => by
      have := hk _ (hU3.trans hE fun _ _ h => h.elim) ((hE3.trans hE fun _ _ h => h).row hl2 fun h => h)
      unfold rouOk at this
      rwa [decide_eq_true hA, hB, h, decide_eq_true hC, Bool.and_true, Bool.true_and, Bool.true_and] at this
    refine Br_dec (fun hlt => ?_) fun hge => ?_
    · have hn3 : n < r.code.length := by omega
      rw [List.drop_eq_getElem_cons hn3, List.all_cons] at he
      refine IxA_rn' insV_len (hc3.ext hE5) (by omega) (j := n) rfl hn3 fun a ha => ⟨((r.code[n]!).1, (r.code[n]!).2), ha, ?_⟩
      have hget : r.code[n]! = r.code[n] := getElem!_pos r.code n hn3
      refine Nw_row (vs := [.int .i64 0, .int .i64 0]) fun b2 H6 hb2 hE6 _ hr6 => ?_
      simp only [adr_add]
      refine St_row hr6 (by simp) fun H7 hU7 _ hr7 => St_row hr7 (by simp) fun H8 hU8 _ hr8 => ?_
      have hE8 : Ext H5 H8 := (extUpd hE6 (by omega) (hU7.trans hU8 fun _ _ h => h))
      refine ⟨((r.code[n]!).1, (r.code[n]!).2), Row.rd_all hr8, s_instr (i := r.code[n]!) fun H9 hE9 => ?_⟩
      have hE9' := hE5.trans (hE8.trans hE9 fun _ _ h => h) fun _ _ h => h
      refine Br_not (Br.mk (fun h => ?_) fun h => ?_)
      · rw [← hget, h, Bool.true_and] at he
        exact Lt.mk (u := ((n + 1 : Nat) : Int)) (by rw [wrap_i64_id] <;> omega) (hnext _ _ ⟨n + 1, rfl, hn3, hE9', he⟩ (by omega))
      · rw [← hget, h, Bool.false_and] at he
        exact fin hE9' he
    · rw [List.drop_eq_nil_of_le (by omega)] at he
      exact fin hE5 he
end
section
open Hc Hc.Vf
variable {H : Heap}
def idleP (c : List Ins) (ps : List Int) (i : Nat) : Prop := isReached c ps i ∧ (c[i]!).1 ≠ 24 ∧ (c[i]!).1 ≠ 21
variable {lo f : Nat} {r : Rou} {fsl dl : Sl} {ms : List Value} {D : List (List Nat)} {ps : List Int}
theorem s_idle (hF : FlowAt lo H f r fsl ps dl ms D) (hr : CodeR H r) {i : Nat} (hi : i < r.code.length) {k : Bool → Heap → Prop} (hk : ∀ b H', Ext H H' → (b = true ↔ idleP r.code ps i) → k b H') :
    CallT Pg fQdp [.pointer (some (adr f)), .int .i64 (i : Nat)] (.one (.c .bool)) H k := by
  refine cQdj _ _ ?_
  unfold vQdj
  simp only [adr_add, NilCk_some]
  have hsl : hcell H ⟨f, 3, none⟩ = some (slV r.sl) := (hF.flow.cell 3).trans rfl
  refine Ld_sl (s := r.sl) hsl (IxA_rn' insV_len hr (by omega) (j := i) rfl hi fun a ha => ?_)
  refine ⟨((r.code[i]!).1, (r.code[i]!).2), ha, Nw_row (vs := [.int .i64 0, .int .i64 0]) fun b1 H1 hb1 hE1 hz1 hr1 => St_row hr1 (by simp) fun H2 hU2 _ hr2 => St_row hr2 (by simp) fun H3 hU3 _ hr3 => ?_⟩
  have hE3 : Ext H H3 := extUpd hE1 (by omega) (hU2.trans hU3 fun _ _ h => h)
  have hI3 : Row H3 b1 TQag (insV r.code[i]!) := hr3
  have hF3 := hF.ext hE3
  have hi2 : i < ms.length := by rw [hF.ml]; exact hi
  refine Jn.mk (fun j H' => H3 = H' ∧ (j = true ↔ idleP r.code ps i)) (fun kk hkk => ?_) (by rintro j _ ⟨rfl, h⟩; exact hk _ _ hE3 h)
  refine Ld_sl (s := dl) hF3.d5 (IxA_raw hF3.dv rfl hi2 (MpN_i (hF3.mp i hi2) (Br_dec (fun h0 => ?_) fun h0 => ?_)))
  · have hrd : isReached r.code ps i := by
      match hDD : D[i]!, h0 with
      | x :: t, _ => exact ⟨x, (hF.rc i x hi).1 (by rw [hDD]; simp)⟩
      | [], h0 => simp at h0
    refine Ld_int ((hI3.cell 0).trans rfl) (Br.mk (fun h1 => Ld_int ((hI3.cell 0).trans rfl) (hkk _ _ ⟨rfl, ?_⟩)) fun h1 => hkk _ _ ⟨rfl, ?_⟩)
    · rw [bne_iff_ne]
      exact ⟨fun e => ⟨hrd, bne_iff_ne.1 h1, e⟩, fun e => e.2.2⟩
    · exact ⟨fun e => (by cases e), fun e => by rw [bne_iff_ne.2 e.2.1] at h1; cases h1⟩
  · refine hkk _ _ ⟨rfl, fun e => (by cases e), fun e => ?_⟩
    obtain ⟨d, hd⟩ := e.1
    have := (hF.rc i d hi).2 hd
    have h2 : D[i]! = [] := List.eq_nil_of_length_eq_zero (by omega)
    rw [h2] at this; cases this
end
section
open Hc Hc.Vf
def StepI (c : List Ins) (ps : List Int) (x y : Nat) : Prop := idleP c ps x ∧ (y : Int) ∈ nexts c x
inductive WayI (c : List Ins) (ps : List Int) : Nat → Nat → Prop
  | one {x y : Nat} : StepI c ps x y → WayI c ps x y
  | more {x y z : Nat} : WayI c ps x y → StepI c ps y z → WayI c ps x z
structure RInv (c : List Ins) (ps : List Int) (a : Nat) (seen : Nat → Prop) (todo : Nat → Prop) : Prop where
  way : ∀ y, seen y → WayI c ps a y
  here : ∀ y, todo y → y = a ∨ seen y
  done : ∀ x, (x = a ∨ seen x) → todo x ∨ ∀ y, StepI c ps x y → y ≠ a ∧ seen y
theorem RInv.no {c : List Ins} {ps : List Int} {a : Nat} {seen todo : Nat → Prop} (h : RInv c ps a seen todo) (h0 : ∀ x, ¬ todo x) : ¬ WayI c ps a a := by
  have key : ∀ x y, WayI c ps x y → x = a → y ≠ a ∧ seen y := by
    intro x y hw
    induction hw with
    | one s =>
      rintro rfl
      exact ((h.done _ (.inl rfl)).resolve_left (h0 _)) _ s
    | more w s ih =>
      intro e
      exact ((h.done _ (.inr (ih e).2)).resolve_left (h0 _)) _ s
  intro hw
  exact (key a a hw rfl).1 rfl
structure RMid (c : List Ins) (ps : List Int) (a k : Nat) (seen todo : Nat → Prop) : Prop where
  way : ∀ y, seen y → WayI c ps a y
  here : ∀ y, todo y → y = a ∨ seen y
  from' : k = a ∨ WayI c ps a k
  done : ∀ x, (x = a ∨ seen x) → todo x ∨ x = k ∨ ∀ y, StepI c ps x y → y ≠ a ∧ seen y
theorem RInv.mid {c : List Ins} {ps : List Int} {a k : Nat} {seen todo todo' : Nat → Prop} (h : RInv c ps a seen todo) (hk : todo k) (ht : ∀ x, todo x ↔ todo' x ∨ x = k) : RMid c ps a k seen todo' := by
  refine ⟨h.way, fun y hy => h.here y ((ht y).2 (.inl hy)), (h.here k hk).imp id (h.way k), fun x hx => ?_⟩
  rcases h.done x hx with g | g
  · rcases (ht x).1 g with g | g
    · exact .inl g
    · exact .inr (.inl g)
  · exact .inr (.inr g)
theorem RMid.end' {c : List Ins} {ps : List Int} {a k : Nat} {seen todo : Nat → Prop} (h : RMid c ps a k seen todo) (hk : ∀ y, StepI c ps k y → y ≠ a ∧ seen y) : RInv c ps a seen todo := by
  refine ⟨h.way, h.here, fun x hx => ?_⟩
  rcases h.done x hx with g | rfl | g
  · exact .inl g
  · exact .inr hk
  · exact .inr g
theorem RMid.one {c : List Ins} {ps : List Int} {a k : Nat} {seen todo : Nat → Prop} (h : RMid c ps a k seen todo) {y : Nat} (hs : StepI c ps k y) : WayI c ps a y := by
  rcases h.from' with rfl | g
  · exact .one hs
  · exact .more g hs
theorem RMid.add {c : List Ins} {ps : List Int} {a k : Nat} {seen todo seen' todo' : Nat → Prop} (h : RMid c ps a k seen todo) {n : Nat} (hs : StepI c ps k n) (h1 : ∀ y, seen' y ↔ seen y ∨ y = n) (h2 : ∀ y, todo' y ↔ todo y ∨ y = n) : RMid c ps a k seen' todo' := by
  refine ⟨fun y hy => ?_, fun y hy => ?_, h.from', fun x hx => ?_⟩
  · rcases (h1 y).1 hy with g | rfl
    · exact h.way y g
    · exact h.one hs
  · rcases (h2 y).1 hy with g | rfl
    · exact (h.here y g).imp id fun g => (h1 y).2 (.inl g)
    · exact .inr ((h1 _).2 (.inr rfl))
  · have key : (x = a ∨ seen x) → todo' x ∨ x = k ∨ ∀ y, StepI c ps x y → y ≠ a ∧ seen' y := fun hx => by
      rcases h.done x hx with g | g | g
      · exact .inl ((h2 x).2 (.inl g))
      · exact .inr (.inl g)
      · exact .inr (.inr fun y hy => ⟨(g y hy).1, (h1 y).2 (.inl (g y hy).2)⟩)
    rcases hx with g | g
    · exact key (.inl g)
    · rcases (h1 x).1 g with g | rfl
      · exact key (.inr g)
      · exact .inl ((h2 _).2 (.inr rfl))
theorem nexts_in {c : List Ins} {ps : List Int} {i : Nat} (hi : i < c.length) (hw : wr c ps i = 0) : ∀ x ∈ nexts c i, 0 ≤ x ∧ x < c.length := by
  have hj : ¬ jumpBad c i := fun h => by unfold wr at hw; rw [if_pos h] at hw; cases hw
  have he : ¬ endBad c i := fun h => by
    unfold wr at hw
    rw [if_neg hj] at hw
    by_cases hs : stackBad c ps i
    · rw [if_pos hs] at hw; cases hw
    · rw [if_neg hs, if_pos h] at hw; cases hw
  unfold jumpBad at hj
  unfold endBad at he
  intro x hx
  unfold nexts at he hx
  dsimp only at he hx
  split at hx
  · cases hx
  · rename_i h1
    rw [if_neg h1] at he
    split at hx
    · rename_i h2
      rw [List.mem_singleton] at hx; subst hx
      exact Classical.byContradiction fun g => hj ⟨.inl h2, g⟩
    · rename_i h2
      rw [if_neg h2] at he
      split at hx
      · rename_i h3
        rw [if_pos h3] at he
        simp only [List.mem_cons, List.not_mem_nil, or_false] at hx he
        rcases hx with rfl | rfl
        · exact Classical.byContradiction fun g => hj ⟨.inr h3, g⟩
        · refine ⟨by omega, ?_⟩
          have : ¬ ((c.length : Int) = (i : Int) + 1) := fun e => he (.inr e)
          omega
      · rename_i h3
        rw [if_neg h3] at he
        simp only [List.mem_singleton] at hx he
        omega
theorem set_some {bs : List Bool} {n y : Nat} (hn : n < bs.length) : (bs.set n true)[y]? = some true ↔ bs[y]? = some true ∨ y = n := by
  rw [List.getElem?_set]
  by_cases e : n = y
  · subst e; simp [hn]
  · rw [if_neg e]
    constructor
    · exact .inl
    · rintro (h | h)
      · exact h
      · exact absurd h.symm e
theorem set_count {bs : List Bool} {n : Nat} (hn : n < bs.length) (hf : bs[n]! = false) : (bs.set n true).count false + 1 = bs.count false := by
  rw [getElem!_pos bs n hn] at hf
  have h := List.count_set (a := true) (b := false) (l := bs) (i := n) hn
  rw [hf] at h
  simp at h
  have hp : 0 < bs.count false := List.count_pos_iff.2 (hf ▸ List.getElem_mem hn)
  omega
end
section
open Hc Hc.Vf
variable {H : Heap}
theorem Vec.pop {T : TypeId} {s : Sl} {vs : List Value} {x : Value} (h : Vec H T s (vs ++ [x])) : Vec H T ⟨s.a, vs.length, s.cap⟩ vs := by
  have hl := h.len
  have hc := h.lc
  rw [List.length_append, List.length_singleton] at hl
  refine ⟨rfl, ?_, by dsimp only; omega⟩
  rcases h.own with ⟨_, _, h3⟩ | ⟨b, sp, h1, h2, h3⟩
  · simp at h3
  · refine .inr ⟨b, x :: sp, h1, by simpa using h2, ?_⟩
    simp only [List.length_append, List.length_cons, List.length_nil] at h3 ⊢
    omega
abbrev natsV (T : List Nat) : List Value := T.map fun n => .int .i64 (n : Nat)
abbrev bolsV (bs : List Bool) : List Value := bs.map .bool
variable {lo f : Nat} {r : Rou} {fsl dl : Sl} {ms : List Value} {D : List (List Nat)} {ps : List Int}
theorem s_round (hF : FlowAt lo H f r fsl ps dl ms D) (hr : CodeR H r) (hn2 : r.code.length ≤ 2000) (hgood : ∀ i, i < r.code.length → isReached r.code ps i → wr r.code ps i = 0) {a0 : Nat} (ha0 : a0 < r.code.length) {k : Bool → Heap → Prop}
    (hk : ∀ b H', Ext H H' → (b = true ↔ WayI r.code ps a0 a0) → k b H') :
    CallT Pg fQdq [.pointer (some (adr f)), .int .i64 (a0 : Nat)] (.one (.c .bool)) H k := by
  refine cQdk _ _ ?_
  unfold vQdk
  simp only [adr_add, NilCk_some]
  have hsl : hcell H ⟨f, 3, none⟩ = some (slV r.sl) := (hF.flow.cell 3).trans rfl
  refine Ld_sl (s := r.sl) hsl ?_
  rw [hr.len]
  refine Mks_row (by omega) (by omega) (by omega) fun lb H1 hlb hE1 _ hl1 => ?_
  rw [Int.toNat_natCast] at hl1 ⊢
  refine Nw_row (vs := [.int .i64 (a0 : Nat)]) fun b1 H2 hb1 hE2 _ hr2 => ?_
  have hE2' := hE1.trans hE2 fun _ _ h => h
  have z1 := hE1.size
  have z2 := hE2.size
  refine LoopT.ghost (fun m (s : Sl) H3 => ∃ (T : List Nat) (bs : List Bool), m = bs.count false + T.length ∧ bs.length = r.code.length ∧ (∀ t ∈ T, t < r.code.length) ∧ T.length ≤ 3000 - bs.count false ∧ Vec H3 TQap s (natsV T) ∧ (∀ b, s.a = some (adr b) → H.size ≤ b) ∧ Row H3 lb TQa8 (bolsV bs) ∧ Ext H H3 ∧ RInv r.code ps a0 (fun y => bs[y]? = some true) (fun y => y ∈ T)) (r.code.length + 1)
    ⟨[a0], List.replicate r.code.length false, ?_, by simp, by simpa using ha0, ?_, ⟨rfl, .inr ⟨b1, [], rfl, by simpa using hr2, by simp⟩, Nat.le_refl _⟩, (fun b hb => by cases hb; omega), by have := hE2.row hl1 fun h => h; simpa [bolsV] using this, hE2', ⟨fun y hy => ?_, fun y hy => ?_, fun x hx => ?_⟩⟩ ?_
  · rw [List.count_replicate_self]; rfl
  · rw [List.count_replicate_self]; simp; omega
  · rw [List.getElem?_replicate] at hy
    split at hy <;> cases hy
  · exact .inl (by simpa using hy)
  · left
    rcases hx with rfl | hx
    · simp
    · rw [List.getElem?_replicate] at hx
      split at hx <;> cases hx
  rintro next m s H3 ⟨T, bs, rfl, hbl, hTb, hTl, hvT, hsb, hlb3, hE3, hInv⟩ hnext
  have hTlen := hvT.len
  rw [List.length_map] at hTlen
  refine Br_dec (fun hgo => ?_) fun hend => ?_
  · have hTne : T ≠ [] := fun e => by rw [e] at hTlen; simp at hTlen; omega
    obtain ⟨L, i, rfl⟩ : ∃ L i, T = L ++ [i] := ⟨_, _, (List.dropLast_concat_getLast hTne).symm⟩
    rw [List.length_append, List.length_singleton] at hTlen hTl
    have hib : i < r.code.length := hTb i (by simp)
    refine Jn_in (Lt.mk (u := ((L.length : Nat) : Int)) (by rw [wrap_i64_id] <;> omega) ?_)
    have hlc := hvT.lc
    have hi2 : L.length < (natsV (L ++ [i])).length := by simp
    refine IxA_vec hvT (by omega) (by omega) fun a2 ha2 _ => ?_
    have hcell : hcell H3 a2 = some (.int .i64 (i : Nat)) := by
      rw [ha2, Int.toNat_natCast]
      simp [natsV]
    refine Ld_int hcell (Lt.mk (u := ((L.length : Nat) : Int)) (by rw [wrap_i64_id] <;> omega) (SlA0 (by omega) (by omega) (Int.le_refl _) ?_))
    rw [Int.toNat_natCast, Int.toNat_natCast]
    have hvL : Vec H3 TQap ⟨s.a, L.length, s.cap⟩ (natsV L) := by
      have : Vec H3 TQap s (natsV L ++ [.int .i64 (i : Nat)]) := by simpa [natsV] using hvT
      have := Vec.pop this
      simpa using this
    have hMid := hInv.mid (k := i) (todo' := fun y => y ∈ L) (by simp) (by intro x; simp)
    have hidle : ∀ {Hx}, Ext H Hx → FlowAt lo Hx f r fsl ps dl ms D := fun hE => hF.ext hE
    refine s_idle (hidle hE3) (hr.ext hE3) hib fun bb H5 hE5 hbb => ?_
    have hE5' := hE3.trans hE5 fun _ _ h => h
    refine Br_not (Br.mk (fun hy => ?_) fun hy => ?_)
    · have hid := hbb.1 hy
      refine ld_rou (r := r) (hidle hE5').flow.rou (s_next (r := r) (hr.ext hE5') hib (by omega) fun ns H6 hE6 hns => ?_)
      have hE6' := hE5'.trans hE6 fun _ _ h => h
      have hnin := nexts_in hib (hgood i hib hid.1)
      have hnl := nexts_len r.code i
      have hnsl := hns.len
      rw [List.length_map] at hnsl
      have hnsR : RL (Value.int .i64) H6 ns (nexts r.code i) := hns.rl
      refine LoopT.mk (fun (s2 : Sl × Int) H7 => ∃ (q : Nat) (T2 : List Nat) (bs2 : List Bool), s2.2 = q ∧ q ≤ (nexts r.code i).length ∧ bs2.length = r.code.length ∧ (∀ t ∈ T2, t < r.code.length) ∧ bs2.count false + T2.length ≤ bs.count false + L.length ∧
          Vec H7 TQap s2.1 (natsV T2) ∧ (∀ b, s2.1.a = some (adr b) → H.size ≤ b) ∧ Row H7 lb TQa8 (bolsV bs2) ∧ Ext H H7 ∧ Vec H7 TQaq ns ((nexts r.code i).map (Value.int .i64)) ∧ RMid r.code ps a0 i (fun y => bs2[y]? = some true) (fun y => y ∈ T2) ∧
          ∀ e, e < q → ∃ y : Nat, (nexts r.code i)[e]! = y ∧ y ≠ a0 ∧ bs2[y]? = some true) (fun s2 _ => (nexts r.code i).length - s2.2.toNat)
        ⟨0, L, bs, rfl, Nat.zero_le _, hbl, fun t ht => hTb t (by simp [ht]), Nat.le_refl _, (hvL.ext hE5).ext hE6, hsb, (hE5.trans hE6 fun _ _ h => h).row hlb3 fun h => h, hE6', hns, hMid, fun e he => by omega⟩ ?_
      rintro next2 ⟨s2, _⟩ H7 ⟨q, T2, bs2, rfl, hq, hbl2, hTb2, hm2, hv2, hsb2, hlb7, hE7, hns7, hMid2, hdone⟩ hnext2
      dsimp only at hv2 hsb2 ⊢
      refine Br_dec (fun hlt => ?_) fun hge => ?_
      · have hq3 : q < (nexts r.code i).length := by omega
        refine Jn_in (IxA_rl hns7.rl rfl hq3 fun a4 ha4 => Ld_int (n := (nexts r.code i)[q]!) ?_ ?_)
        · rw [ha4, getElem!_pos _ q hq3]
        have hmem : (nexts r.code i)[q]! ∈ nexts r.code i := by rw [getElem!_pos _ q hq3]; exact List.getElem_mem hq3
        obtain ⟨y, hy⟩ : ∃ y : Nat, (nexts r.code i)[q]! = y := ⟨_, (Int.toNat_of_nonneg (hnin _ hmem).1).symm⟩
        have hyl := (hnin _ hmem).2
        rw [hy] at hmem hyl ⊢
        have hst : StepI r.code ps i y := ⟨hid, hmem⟩
        refine Br.mk (fun hb => ?_) fun hb => ?_
        · have hb := beqI hb
          have : y = a0 := by omega
          subst this
          exact hk _ _ hE7 ⟨fun _ => hMid2.one hst, fun _ => rfl⟩
        · have hb := bneI hb
          have hyl2 : y < bs2.length := by omega
          have hyb : (bolsV bs2)[y]? = some (.bool (bs2[y]!)) := by rw [List.getElem?_map, List.getElem?_eq_getElem hyl2, getElem!_pos bs2 y hyl2]; rfl
          refine IxA_adr (by omega) (by omega) ?_
          rw [Int.toNat_natCast, Nat.mul_one]
          refine Ld_bool (n := bs2[y]!) ((hlb7.cell y).trans hyb) (Jn_in (Br_not (Br.mk (fun hs => ?_) fun hs => ?_)))
          · -- seen
            refine Lt.mk (u := ((q + 1 : Nat) : Int)) (by rw [wrap_i64_id] <;> omega) (hnext2 _ _ ⟨q + 1, T2, bs2, rfl, hq3, hbl2, hTb2, hm2, hv2, hsb2, hlb7, hE7, hns7, hMid2, fun e he => ?_⟩ (by dsimp only; omega))
            rcases Nat.lt_or_ge e q with g | g
            · exact hdone e g
            · have : e = q := by omega
              subst this
              exact ⟨y, hy, by omega, by rw [List.getElem?_eq_getElem hyl2, ← getElem!_pos bs2 y hyl2, hs]⟩
          · refine IxA_adr (by omega) (by omega) ?_
            rw [Int.toNat_natCast, Nat.mul_one]
            refine St_row hlb7 (by simpa using hyl2) fun H10 hU10 hz10 hlb10 => Nw_row (vs := [.int .i64 (y : Nat)]) fun b2 H11 hb2 hE11 _ hr11 => ?_
            have hlb10' : Row H10 lb TQa8 (bolsV (bs2.set y true)) := by unfold bolsV; rw [List.map_set]; exact hlb10
            have hlo : H.size ≤ lb := by omega
            have hv11 : Vec H11 TQap s2 (natsV T2) := (hv2.upd hU10 fun b hb => hv2.ne hb hlb7 (by decide)).ext hE11
            have hns11 : Vec H11 TQaq ns ((nexts r.code i).map (Value.int .i64)) := (hns7.upd hU10 fun b hb => hns7.ne hb hlb7 (by decide)).ext hE11
            have hlb11 := hE11.row hlb10' fun h => h
            have hE11' : Ext H H11 := (hE7.trans hU10 fun b hb e => by omega).trans hE11 fun _ _ h => h
            have hcnt := set_count hyl2 hs
            have hT2l := hv2.len
            rw [List.length_map] at hT2l
            refine App_vec2 (ws := [.int .i64 (y : Nat)]) hv11 (Row.rd_all hr11) rfl (by simp [Value.oneCell']) (by omega) (by simp only [List.length_map, List.length_singleton]; omega) fun l3 H12 hv12 hU12 ha12 hz12 => ?_
            refine Lt.mk (u := ((q + 1 : Nat) : Int)) (by rw [wrap_i64_id] <;> omega) (hnext2 _ _ ⟨q + 1, T2 ++ [y], bs2.set y true, rfl, hq3, by simpa using hbl2, fun t ht => ?_, ?_, by simpa [natsV] using hv12, fun b hb => ?_, ?_, ?_, ?_, hMid2.add hst (fun z => set_some hyl2) (fun z => by simp), fun e he => ?_⟩ (by dsimp only; omega))
            · rcases List.mem_append.1 ht with g | g
              · exact hTb2 t g
              · rw [List.mem_singleton] at g; omega
            · rw [List.length_append, List.length_singleton]; omega
            · rcases ha12 with ⟨g, _⟩ | g
              · rw [g] at hb; exact hsb2 b hb
              · rw [g] at hb; cases hb; have := hE11'.size; omega
            · exact hU12.row hlb11 fun e => hv11.ne e.1 hlb11 (by decide) rfl
            · exact hE11'.trans hU12 fun b hb e => by have := hsb2 b e.1; omega
            · exact hns11.upd hU12 fun b hb e => (hns11.apV hv11 (by decide) hb e.1)
            · rcases Nat.lt_or_ge e q with g | g
              · obtain ⟨y', h1, h2, h3⟩ := hdone e g
                exact ⟨y', h1, h2, (set_some hyl2).2 (.inl h3)⟩
              · have : e = q := by omega
                subst this
                exact ⟨y, hy, by omega, (set_some hyl2).2 (.inr rfl)⟩
      · have hqe : q = (nexts r.code i).length := by omega
        subst hqe
        refine hnext (bs2.count false + T2.length) _ _ ?_ ⟨T2, bs2, rfl, hbl2, hTb2, by omega, hv2, hsb2, hlb7, hE7, hMid2.end' fun y hy => ?_⟩
        · rw [List.length_append, List.length_singleton]; omega
        · obtain ⟨e, he, hee⟩ := List.getElem_of_mem hy.2
          obtain ⟨y', h1, h2, h3⟩ := hdone e he
          rw [getElem!_pos _ e he, hee] at h1
          have : y = y' := by omega
          subst this; exact ⟨h2, h3⟩
    · have hid : ¬ idleP r.code ps i := fun h => by rw [hbb.2 h] at hy; cases hy
      refine hnext (bs.count false + L.length) _ _ ?_ ⟨L, bs, rfl, hbl, fun t ht => hTb t (by simp [ht]), by omega, hvL.ext hE5, hsb, hE5.row hlb3 fun h => h, hE5', hMid.end' fun y hy => absurd hy.1 hid⟩
      rw [List.length_append, List.length_singleton]; omega
  · have hT0 : T = [] := List.eq_nil_of_length_eq_zero (by omega)
    subst hT0
    exact hk _ _ hE3 ⟨fun h => (by cases h), fun h => absurd h (hInv.no fun x hx => (by cases hx))⟩
end
end Go.Proofs.YtfpmgpblhhcpgaaGreat
