/-
  Machine: what is kept is put in order.
-/
import Derived.Test.YtfpmgpblhhcpgaaGreatHcRise
import Derived.Shelf.Small.Bits
import Derived.Shelf.Small.Wraps
import Derived.Shelf.Strconv.Itoa0
import Derived.Shelf.Sort.Plain
import Derived.Shelf.Slices.Turned
import Derived.Ground.Names2Prog
import Derived.Shelf.Slices.Clone
import Derived.Shelf.Slices.CompactI
import Derived.Shelf.Slices.SearchI
import Derived.Shelf.Slices.Cells
import Derived.Shelf.Slices.In.SortNone
import Derived.Ground.SlgnProg
import Derived.Shelf.SlicesG.Turned
import Derived.Shelf.SlicesG.Clone
import Derived.Shelf.SlicesE.Clone
import Derived.Test.YtfpmgpblhhcpgaaGreatProg
import Derived.Test.YtfpmgpblhhcpgaaGreatMB
import Derived.Lib.SlicesCompact
namespace Go.Proofs.YtfpmgpblhhcpgaaGreat
set_option linter.unusedVariables false
set_option linter.unusedSimpArgs false
set_option maxRecDepth 100000
section
open Hc Hc.Vf Hc.Mc Hc.Dice
variable {H : Heap}
instance : Inhabited PtP := ⟨⟨0, default, []⟩⟩
theorem s_isNaN {x : Int} {k : Bool → Heap → Prop} (hk : k false H) : CallT Pg fQc0 [.int .i64 x] (.one (.c .bool)) H k := by
  refine cQcv _ ?_
  unfold vQcv
  have : (x != x) = false := by simp
  rw [this]; exact hk
theorem s_cmp {x y : Int} {k : Int → Heap → Prop} (hk : ∀ r, (r < 0 ↔ x < y) → k r H) : CallT Pg fQcp [.int .i64 x, .int .i64 y] IntR H k := by
  refine cQcu _ _ ?_
  unfold vQcu
  refine s_isNaN (s_isNaN ?_)
  rw [Br_false, Br_false]
  refine Br_dec (fun h => hk _ (by omega)) fun h => Br_dec (fun h' => hk _ (by omega)) fun h' => hk _ (by omega)
theorem x_cmp {a b : PtP} {k : Int → Heap → Prop} (hk : ∀ r H', Ext H H' → (r < 0 ↔ a.kind < b.kind) → k r H') :
    CallX Pg (fnV 121) [.agg #[.int .i64 a.kind, .slice a.sl.a a.sl.len a.sl.cap], .agg #[.int .i64 b.kind, .slice b.sl.a b.sl.len b.sl.cap]] IntR H k := by
  refine ⟨121, #[], #[], rfl, ?_⟩
  show CallT Pg fQco [.agg #[.int .i64 a.kind, .slice a.sl.a a.sl.len a.sl.cap], .agg #[.int .i64 b.kind, .slice b.sl.a b.sl.len b.sl.cap]] _ _ _
  refine cQct (a.kind, a.sl) (b.kind, b.sl) ?_
  unfold vQct
  refine Nw_row (vs := ptV a) fun b1 H1 hb1 hE1 _ hr1 => Nw_row (vs := ptV b) fun b2 H2 hb2 hE2 _ hr2 => ?_
  exact Ld_int (n := a.kind) (((hE2.row hr1 fun h => h).cell 0).trans rfl) (Ld_int (n := b.kind) ((hr2.cell 0).trans rfl) (s_cmp fun r hr => hk r H2 (hE1.trans hE2 fun _ _ h => h) hr))
theorem swap_elems {s : Sl} {xs : List PtP} (h : VecN H TQai 2 s (xs.flatMap ptV)) {j : Nat} (hj : j + 1 < xs.length) {k : Heap → Prop}
    (hk : ∀ H', Upd (fun b => s.a = some (adr b)) H H' → VecN H' TQai 2 s (((xs.set (j + 1) xs[j]).set j xs[j + 1]).flatMap ptV) → k H') :
    IxA 2 s (j : Nat) fun a3 => LdC [(.int .i64), .sl] a3 H fun (c3 : Int × Sl) => IxA 2 s ((j + 1 : Nat) : Int) fun a4 => LdC [(.int .i64), .sl] a4 H fun (c4 : Int × Sl) => IxA 2 s ((j + 1 : Nat) : Int) fun a5 =>
      St (a5.add 0) (.int .i64 c3.1) H fun H5 => St (a5.add 1) (.slice c3.2.a c3.2.len c3.2.cap) H5 fun H6 => IxA 2 s (j : Nat) fun a6 => St (a6.add 0) (.int .i64 c4.1) H6 fun H7 => St (a6.add 1) (.slice c4.2.a c4.2.len c4.2.cap) H7 k := by
  have hl := h.len
  rw [flat_len ptV_len] at hl
  refine IxA_vecN h (by decide) rfl (by omega) fun b hb hc => ?_
  refine ⟨(xs[j].kind, xs[j].sl), ?_, ?_⟩
  · rw [hcells_iff]
    intro o ho
    have ho : o < 2 := ho
    rw [mk_add, Nat.zero_add, hc o ho, flat_get ptV_len (by omega) ho]; rfl
  refine IxA_vecN h (by decide) rfl (by omega) fun b' hb' hc' => ?_
  rw [hb] at hb'; cases hb'
  refine ⟨(xs[j + 1].kind, xs[j + 1].sl), ?_, ?_⟩
  · rw [hcells_iff]
    intro o ho
    have ho : o < 2 := ho
    rw [mk_add, Nat.zero_add, hc' o ho, flat_get ptV_len (by omega) ho]; rfl
  refine IxA_vecN h (by decide) rfl (by omega) fun b' hb' _ => ?_
  rw [hb] at hb'; cases hb'
  simp only [mk_add]
  have hfl := flat_len ptV_len (es := xs)
  refine St_vecN h hb (by omega) fun H1 h1 hU1 _ => ?_
  rw [flat_set ptV_len (e' := ⟨xs[j].kind, xs[j + 1].sl, xs[j + 1].vals⟩) (by omega) (by decide) rfl] at h1
  have hfl1 := flat_len ptV_len (es := xs.set (j + 1) ⟨xs[j].kind, xs[j + 1].sl, xs[j + 1].vals⟩)
  rw [List.length_set] at hfl1
  refine St_vecN h1 hb (by omega) fun H2 h2 hU2 _ => ?_
  rw [flat_set ptV_len (e' := xs[j]) (by rw [List.length_set]; omega) (by decide) (by rw [List.getElem_set_self]; rfl), List.set_set] at h2
  have hfl2 := flat_len ptV_len (es := xs.set (j + 1) xs[j])
  rw [List.length_set] at hfl2
  have hl2 := h2.len
  refine IxA_vecN h2 (by decide) rfl (by omega) fun b' hb' _ => ?_
  rw [hb] at hb'; cases hb'
  have hg : (xs.set (j + 1) xs[j])[j]'(by rw [List.length_set]; omega) = xs[j] := List.getElem_set_ne (by omega) _
  simp only [mk_add]
  refine St_vecN h2 hb (by omega) fun H3 h3 hU3 _ => ?_
  rw [flat_set ptV_len (e' := ⟨xs[j + 1].kind, xs[j].sl, xs[j].vals⟩) (by rw [List.length_set]; omega) (by decide) (by rw [hg]; rfl)] at h3
  have hfl3 := flat_len ptV_len (es := (xs.set (j + 1) xs[j]).set j ⟨xs[j + 1].kind, xs[j].sl, xs[j].vals⟩)
  rw [List.length_set, List.length_set] at hfl3
  refine St_vecN h3 hb (by omega) fun H4 h4 hU4 _ => ?_
  rw [flat_set ptV_len (e' := xs[j + 1]) (by rw [List.length_set, List.length_set]; omega) (by decide) (by rw [List.getElem_set_self]; rfl), List.set_set] at h4
  refine hk H4 ?_ h4
  have e : ∀ x, x < H.size → x = b → s.a = some (adr x) := fun x _ e => e ▸ hb
  exact (((hU1.trans hU2 fun _ _ e => e).trans hU3 fun _ _ e => e).trans hU4 fun _ _ e => e).mono e
theorem elem_at {s : Sl} {xs : List PtP} (h : VecN H TQai 2 s (xs.flatMap ptV)) {i : Int} {j : Nat} (hi : i = j) (hj : j < xs.length) {k : Int × Sl → Prop} (hk : k (xs[j].kind, xs[j].sl)) :
    IxA 2 s i fun a3 => LdC [(.int .i64), .sl] a3 H k := by
  have hl := h.len
  rw [flat_len ptV_len] at hl
  refine IxA_vecN h (by decide) hi (by omega) fun b hb hc => ⟨(xs[j].kind, xs[j].sl), ?_, hk⟩
  rw [hcells_iff]
  intro o ho
  have ho : o < 2 := ho
  rw [mk_add, Nat.zero_add, hc o ho, flat_get ptV_len (by omega) ho]; rfl
theorem s_insert {s : Sl} {kp : List PtP} {nb : Int} (hnb : nb = (kp.length : Nat)) (h : VecN H TQai 2 s (kp.flatMap ptV)) (hl : kp.length ≤ 12) (hK : ∀ q ∈ kp, 1 ≤ q.kind ∧ q.kind ≤ 12) {k : Unit → Heap → Prop}
    (hk : ∀ H', Upd (fun b => s.a = some (adr b)) H H' → VecN H' TQai 2 s ((risK PtP.kind kp).flatMap ptV) → k () H') :
    CallT Pg fQbj [.slice s.a s.len s.cap, .int .i64 0, .int .i64 nb, fnV 121] (.tup []) H k := by
  subst hnb
  classical
  refine cQbg _ _ _ _ ?_
  unfold vQbg
  refine Lt.mk (u := 1) (by decide) ?_
  refine LoopT.mk (fun i H' => ∃ n : Nat, i = n ∧ 1 ≤ n ∧ (n ≤ kp.length ∨ n = 1) ∧ Upd (fun b => s.a = some (adr b)) H H' ∧ VecN H' TQai 2 s ((risK PtP.kind (kp.take n) ++ kp.drop n).flatMap ptV)) (fun i _ => 13 - i.toNat) ⟨1, rfl, Nat.le_refl _, .inr rfl, .refl _ _, ?_⟩ ?_
  · have e : risK PtP.kind (kp.take 1) ++ kp.drop 1 = kp := by
      match kp, hK with
      | [], _ => rfl
      | x :: r, hK =>
        have := ris_ins (key := PtP.kind) (l := []) (x := x) (by have := hK x (by simp); omega) (A := []) (B := []) (by simp [risK, risN]) (fun y hy => by cases hy) fun y hy => by cases hy
        simp only [List.take_succ_cons, List.take_zero, List.drop_succ_cons, List.drop_zero]
        rw [List.nil_append] at this
        rw [this]; rfl
    rw [e]; exact h
  rintro next _ H1 ⟨i, rfl, hi1, hi2, hU1, hv1⟩ hnext
  refine Br_dec (fun hlt => ?_) fun hge => ?_
  · have hi : i < kp.length := by omega
    have htk : kp.take (i + 1) = kp.take i ++ [kp[i]] := by rw [List.take_add_one, List.getElem?_eq_getElem hi]; rfl
    have hdr : kp.drop i = kp[i] :: kp.drop (i + 1) := List.drop_eq_getElem_cons hi
    have hxk := hK _ (List.getElem_mem hi)
    have hRp : (risK PtP.kind (kp.take i)).Pairwise fun x y => x.kind ≤ y.kind := risN_pw
    have hRl : (risK PtP.kind (kp.take i)).length = i := by
      have hp := (rise_len (l := (kp.take i).map PtP.pt) fun p hp => by
        obtain ⟨q, hq, rfl⟩ := List.mem_map.1 hp
        exact hK q (List.mem_of_mem_take hq)).length_eq
      rw [rise_eq, risK, ← risN_map PtP.pt (key := PtP.kind) (fun _ => rfl), List.length_map, List.length_map, List.length_take] at hp
      rw [risK, hp]; omega
    rw [hdr] at hv1
    have hsnoc := @ris_ins PtP PtP.kind (kp.take i) kp[i] (by omega)
    rw [← htk] at hsnoc
    generalize kp[i] = x at *
    generalize hD : kp.drop (i + 1) = D at *
    generalize risK PtP.kind (kp.take i) = R at *
    refine LoopT.mk (fun (j : Int) H' => ∃ A B, R = A ++ B ∧ j = (A.length : Nat) ∧ (∀ y ∈ B, x.kind < y.kind) ∧ Upd (fun b => s.a = some (adr b)) H H' ∧ VecN H' TQai 2 s ((A ++ x :: (B ++ D)).flatMap ptV)) (fun (j : Int) _ => j.toNat) ⟨R, [], by simp, by rw [hRl], (fun y hy => by cases hy), hU1, by simpa using hv1⟩ ?_
    rintro next2 _ H2 ⟨A, B, hR, rfl, hB, hU2, hv2⟩ hnext2
    have hAB := congrArg List.length hR
    rw [List.length_append, hRl] at hAB
    have hlen : (A ++ x :: (B ++ D)).length = A.length + (1 + (B ++ D).length) := by simp; omega
    have fin : (∀ y ∈ A, y.kind ≤ x.kind) → ∀ H3, Upd (fun b => s.a = some (adr b)) H H3 → VecN H3 TQai 2 s ((A ++ x :: (B ++ D)).flatMap ptV) → Lt (IntKind.wrap .i64 ((i : Int) + 1)) fun t6 => next t6 H3 := fun hA H3 hU3 hv3 => by
      refine Lt.mk (u := ((i + 1 : Nat) : Int)) (by rw [wrap_i64_id (by omega) (by omega)]; omega) (hnext _ _ ⟨i + 1, rfl, by omega, .inl (by omega), hU3, ?_⟩ (by omega))
      rw [hsnoc hR hB hA, hD]
      simpa using hv3
    refine Jn.mk (fun b H' => Ext H2 H' ∧ b = decide (∃ A' y, A = A' ++ [y] ∧ x.kind < y.kind)) (fun kk hkk => ?_) ?_
    · refine Br_dec (fun hpos => ?_) fun hpos => hkk _ _ ⟨.refl _ _, ?_⟩
      · obtain ⟨A', y, rfl⟩ : ∃ A' y, A = A' ++ [y] := ⟨A.dropLast, A.getLast (by rintro rfl; simp at hpos), (List.dropLast_concat_getLast _).symm⟩
        have hl2 : (A' ++ [y]).length = A'.length + 1 := by simp
        have hg1 : (A' ++ [y] ++ x :: (B ++ D))[A'.length + 1]'(by omega) = x := by simp
        have hg2 : (A' ++ [y] ++ x :: (B ++ D))[A'.length]'(by omega) = y := by simp
        refine elem_at hv2 (j := A'.length + 1) (by rw [hl2]) (by omega) (Lt.mk (u := (A'.length : Nat)) (by rw [hl2, wrap_i64_id (by omega) (by omega)]; omega) (elem_at hv2 (j := A'.length) rfl (by omega) ?_))
        rw [hg1, hg2]
        refine x_cmp fun r H3 hE3 hr => hkk _ _ ⟨hE3, ?_⟩
        rw [decide_eq_decide]
        refine hr.trans ⟨fun e => ⟨A', y, rfl, e⟩, fun ⟨A2, y2, e, e2⟩ => ?_⟩
        have := List.append_inj' e rfl
        have : y = y2 := by simpa using this.2
        rw [this]; exact e2
      · refine (decide_eq_false ?_).symm
        rintro ⟨A', y, rfl, _⟩
        simp at hpos
    rintro _ H3 ⟨hE3, rfl⟩
    have hv3 := hv2.ext hE3
    have hU3 := hU2.ext hE3
    refine Br_dec (fun hc => ?_) fun hc => ?_
    · obtain ⟨A', y, rfl, hyx⟩ := hc
      have hl2 : (A' ++ [y]).length = A'.length + 1 := by simp
      have hg1 : (A' ++ [y] ++ x :: (B ++ D))[A'.length + 1]'(by omega) = x := by simp
      have hg2 : (A' ++ [y] ++ x :: (B ++ D))[A'.length]'(by omega) = y := by simp
      have ew : IntKind.wrap .i64 (((A' ++ [y]).length : Nat) - 1 : Int) = (A'.length : Nat) := by rw [hl2, wrap_i64_id (by omega) (by omega)]; omega
      refine Lt.mk ew (Lt.mk ew ?_)
      rw [hl2]
      refine swap_elems hv3 (j := A'.length) (by omega) fun H4 hU4 hv4 => ?_
      rw [← hl2]
      refine Lt.mk ew (hnext2 _ _ ⟨A', y :: B, by rw [hR]; simp, rfl, fun z hz => ?_, hU3.trans hU4 fun _ _ e => e, ?_⟩ (by omega))
      · rcases List.mem_cons.1 hz with rfl | hz
        · exact hyx
        · exact hB z hz
      · rw [hg1, hg2] at hv4
        have e : ((A' ++ [y] ++ x :: (B ++ D)).set (A'.length + 1) y).set A'.length x = A' ++ x :: (y :: B ++ D) := by
          simp [List.set_append]
        rwa [e] at hv4
    · refine fin (fun z hz => ?_) H3 hU3 hv3
      have hAne : A ≠ [] := by rintro rfl; cases hz
      have hA2 := (List.dropLast_concat_getLast hAne).symm
      have hnot : ¬ x.kind < (A.getLast hAne).kind := fun e => hc ⟨_, _, hA2, e⟩
      rw [hR] at hRp
      have hAp := (List.pairwise_append.1 hRp).1
      rw [hA2] at hAp hz
      rcases List.mem_append.1 hz with hz | hz
      · have := (List.pairwise_append.1 hAp).2.2 z hz _ (List.mem_singleton.2 rfl)
        omega
      · rw [List.mem_singleton.1 hz]; omega
  · have e : risK PtP.kind (kp.take i) ++ kp.drop i = risK PtP.kind kp := by
      rw [List.take_of_length_le (by omega), List.drop_eq_nil_of_le (by omega), List.append_nil]
    rw [e] at hv1
    exact hk H1 hU1 hv1
theorem s_sortParts {s : Sl} {kp : List PtP} (h : VecN H TQai 2 s (kp.flatMap ptV)) (hl : kp.length ≤ 12) (hK : ∀ q ∈ kp, 1 ≤ q.kind ∧ q.kind ≤ 12) {k : Unit → Heap → Prop}
    (hk : ∀ H', Upd (fun b => s.a = some (adr b)) H H' → VecN H' TQai 2 s ((risK PtP.kind kp).flatMap ptV) → k () H') :
    CallT Pg fQbb [.slice s.a s.len s.cap, fnV 121] (.tup []) H k := by
  have hlen := h.len
  rw [flat_len ptV_len] at hlen
  have hn : s.len = kp.length := by omega
  refine cQa8 _ _ ?_
  unfold vQa8
  refine cQbe _ _ _ ?_
  unfold vQbe
  refine LoopT.mk (fun p H' => p = (0, 20) ∧ H = H') (fun _ _ => 0) ⟨rfl, rfl⟩ ?_
  rintro next _ _ ⟨rfl, rfl⟩ _
  refine Br_no (by dsimp only; omega) ?_
  refine s_insert (by rw [hn]) h hl hK fun H' hU hv => ?_
  refine LoopT.mk (fun p H2 => p = 20 ∧ H' = H2) (fun _ _ => 0) ⟨rfl, rfl⟩ ?_
  rintro next _ _ ⟨rfl, rfl⟩ _
  exact Br_no (by omega) (hk H' hU hv)
end
section
open Hc Hc.Vf Hc.Mc Hc.Dice
variable {H : Heap}
theorem s_command {b : Nat} {g : RunG} {cl : List CmP} {q : CmP} (hr : Row H b TQat (runV g)) (hv : VecN H TQac 6 g.cs (cl.flatMap cmV)) (hl : cl.length ≤ 16) {k : Unit → Heap → Prop}
    (hk : ∀ H' cs, Upd (fun x => g.cs.a = some (adr x) ∨ x = b) H H' → Row H' b TQat (runV { g with cs := cs }) → VecN H' TQac 6 cs ((cl ++ [q]).flatMap cmV) → (cs.a = g.cs.a ∨ ∃ x, cs.a = some (adr x) ∧ H.size ≤ x) → k () H') :
    CallT Pg fQat [.pointer (some (adr b)), .agg #[.int .i64 q.op, .int .i64 q.e.1, .int .i64 q.e.2, .int .i64 q.kind, .slice q.vsl.a q.vsl.len q.vsl.cap, .slice q.psl.a q.psl.len q.psl.cap]] (.tup []) H k := by
  refine cQat _ (q.op, q.e.1, q.e.2, q.kind, q.vsl, q.psl) ?_
  unfold vQat
  simp only [NilCk_some, adr_add, mk_add]
  refine Nw_row (vs := cmV q) fun b1 H1 hb1 hE1 hz1 hr1 => ?_
  have hrun1 := hE1.row hr fun h => h
  refine Ld_sl (s := g.cs) ((hrun1.cell 22).trans rfl) ⟨(q.op, q.e.1, q.e.2, q.kind, q.vsl, q.psl), hr1.rd_all, ?_⟩
  refine Nw_row (vs := cmV q) fun b2 H2 hb2 hE2 hz2 hr2 => ?_
  have hrun2 := hE2.row hrun1 fun h => h
  refine Stab_1 ((hrun2.cell 22).trans rfl) ?_
  have hE02 := hE1.trans hE2 fun _ _ h => h
  have hv2 := hv.ext hE02
  have hlen := hv2.len
  rw [flat_len cmV_len] at hlen
  refine App_vecN (ws := cmV q) rfl (by decide) hv2 hr2.rd_all rfl (fun w hw => ?_) (by decide) (by dsimp only; omega) fun cs H3 hv3 hl3 hU3 ha3 => ?_
  · simp only [cmV, List.mem_cons, List.not_mem_nil, or_false] at hw
    rcases hw with rfl | rfl | rfl | rfl | rfl | rfl <;> rfl
  have hb1l : g.cs.a ≠ some (adr b1) := fun e => by have := hv.lt e; omega
  have hr13 : Row H3 b1 TQac (cmV q) := hU3.row (hE2.row hr1 fun h => h) fun e => hb1l e.1
  refine Stab_all (fun y hy => ?_) ?_
  · simp only [List.mem_cons, List.not_mem_nil, or_false] at hy
    rcases hy with rfl | rfl | rfl | rfl | rfl | rfl
    · exact (hr13.cell 0).trans rfl
    · exact (hr13.cell 1).trans rfl
    · exact (hr13.cell 2).trans rfl
    · exact (hr13.cell 3).trans rfl
    · exact (hr13.cell 4).trans rfl
    · exact (hr13.cell 5).trans rfl
  have hrun3 := hU3.row hrun2 fun e => hv2.ne e.1 hrun2 (by decide) rfl
  refine St_row hrun3 (by simp) fun H4 hU4 _ hr4 => ?_
  refine hk H4 cs ?_ hr4 ?_ (ha3.imp (fun e => e.1) fun e => ⟨_, e, hE02.size⟩)
  · exact ((hE02.mono fun _ _ h => h.elim).trans (hU3.mono fun _ _ e => .inl e.1) fun _ _ e => e).trans hU4 fun _ _ e => .inr e
  · have := hv3.upd hU4 fun b hb e => hv3.ne hb hrun3 (by decide) e
    simpa using this
theorem m_cmd {H0 : Heap} {x : MG} (h : MacR H0 H x) (hl : x.cl.length ≤ 16) {q : CmP} (hq : Vec H TQaq q.vsl (ints q.vals)) (hqc : IsS x.c H0.size 999 q.vsl) (hp : q.parts = []) (hps : q.psl = ⟨none, 0, 0⟩) {k : Unit → Heap → Prop}
    (hk : ∀ H' cs c, MacR H0 H' { x with g := { x.g with cs := cs }, cl := x.cl ++ [q], c := c } → k () H') :
    CallT Pg fQat [.pointer (some (adr x.b)), .agg #[.int .i64 q.op, .int .i64 q.e.1, .int .i64 q.e.2, .int .i64 q.kind, .slice q.vsl.a q.vsl.len q.vsl.cap, .slice q.psl.a q.psl.len q.psl.cap]] (.tup []) H k :=
  s_command h.run.1 h.cv.1 hl fun H' cs hU hr hv ha => hk H' cs _ (h.cmd hU hr hv ha hq hqc hp hps)
theorem s_spawn {H0 : Heap} {x : MG} (h : MacR H0 H x) (hl : x.cl.length ≤ 16) (hkl : x.kp.length ≤ 12) (hK : ∀ q ∈ x.kp, 1 ≤ q.kind ∧ q.kind ≤ 12) {k : Unit → Heap → Prop}
    (hk : ∀ H' cs c, MacR H0 H' { x with g := { x.g with cs := cs, ks := ⟨none, 0, 0⟩ }, cl := x.cl ++ [spawned x.g.ks (risK PtP.kind x.kp)], kp := [], c := c } → k () H') :
    CallT Pg fQas [.pointer (some (adr x.b))] (.tup []) H k := by
  refine cQas _ ?_
  unfold vQas
  simp only [NilCk_some, adr_add, mk_add]
  refine Ld_sl (s := x.g.ks) ((h.run.1.cell 20).trans rfl) (s_sortParts h.kv.1 hkl hK fun H1 hU1 hv1 => ?_)
  have hrun1 := hU1.row h.run.1 fun e => h.kv.1.ne e h.run.1 (by decide) rfl
  have hcv1 := h.cv.1.upd hU1 fun b hb e => by
    have h1 := (h.cv.2 b hb).2; have h2 := (h.kv.2 b e).2; omega
  refine Ld_sl (s := x.g.ks) ((hrun1.cell 20).trans rfl) (s_command (q := spawned x.g.ks (risK PtP.kind x.kp)) hrun1 hcv1 hl fun H2 cs hU2 hr2 hv2 ha2 => ?_)
  refine St_row hr2 (by simp) fun H3 hU3 _ hr3 => ?_
  have hp : (risK PtP.kind x.kp).Perm x.kp := by
    have := rise_len (l := x.kp.map PtP.pt) fun p hp => by
      obtain ⟨q, hq, rfl⟩ := List.mem_map.1 hp
      exact hK q hq
    have key : ∀ (n : Nat) (l : List PtP), (∀ p ∈ l, 0 ≤ p.kind ∧ p.kind < n) → (risN PtP.kind n l).Perm l := by
      intro n
      induction n with
      | zero => intro l h; cases l with
        | nil => exact .refl _
        | cons p l => have := h p (by simp); omega
      | succ n ih =>
        intro l h
        rw [risN_succ]
        have h1 : risN PtP.kind n l = risN PtP.kind n (l.filter fun p => !(p.kind == (n : Int))) := by
          unfold risN
          have : ∀ k ∈ List.range n, (l.filter fun p => p.kind == (k : Int)) = (l.filter fun p => !(p.kind == (n : Int))).filter fun p => p.kind == (k : Int) := by
            intro k hk
            rw [List.filter_filter]
            refine List.filter_congr fun p _ => ?_
            by_cases e : p.kind = (k : Int)
            · have := List.mem_range.1 hk
              have h2 : (p.kind == (n : Int)) = false := beq_eq_false_iff_ne.2 (by omega)
              rw [h2]; simp
            · have : (p.kind == (k : Int)) = false := beq_eq_false_iff_ne.2 e
              rw [this]; simp
          rw [List.flatMap_def, List.flatMap_def, List.map_congr_left this]
        rw [h1]
        refine ((ih (l.filter fun p => !(p.kind == (n : Int))) fun p hp => ?_).append (.refl _)).trans ?_
        · obtain ⟨hp, hq⟩ := List.mem_filter.1 hp
          have := h p hp
          have hq : p.kind ≠ n := by simpa using hq
          omega
        · exact List.perm_append_comm.trans (List.filter_append_perm (fun p : PtP => p.kind == (n : Int)) l)
    exact key 13 x.kp fun p hp => by have := hK p hp; omega
  refine hk H3 cs _ (h.spawn hp ?_ hr3 ?_ ?_ ?_)
  · refine ((hU1.mono fun _ _ e => .inl e).trans (hU2.mono fun _ _ e => .inr e) fun _ _ e => e).trans hU3 fun _ _ e => .inr (.inr e)
  · refine (hv1.upd hU2 fun b hb e => ?_).upd hU3 fun b hb e => ?_
    · rcases e with e | e
      · have h1 := (h.cv.2 b e).2; have h2 := (h.kv.2 b hb).2; omega
      · exact h.kv.1.ne hb h.run.1 (by decide) e
    · exact h.kv.1.ne hb h.run.1 (by decide) e
  · exact hv2.upd hU3 fun b hb e => hv2.ne hb hr2 (by decide) e
  · exact ha2.imp_right fun ⟨y, e, hy⟩ => ⟨y, e, by have := hU1.size; omega⟩
end
section
open Hc Hc.Vf Hc.Mc Hc.Dice
variable {H : Heap}
theorem act_congr {P : MP} {E : En} {m m1 : Ms} {l : List Int} {op : Nat} {A nx si : Int} : act P E { m with top := { m.top with nx := nx }, since := si } m1 l op A = act P E m m1 l op A := by
  unfold act
  split <;> rfl
theorem vec_st {T : TypeId} {s : Sl} {vs : List Value} (h : Vec H T s vs) {i : Int} {j : Nat} (hi : i = j) (hj : j < vs.length) {v : Value} {k : Heap → Prop} (hk : ∀ H' b, s.a = some (adr b) → Upd (· = b) H H' → Vec H' T s (vs.set j v) → k H') :
    IxA 1 s i fun a => St a v H k := by
  subst hi
  have hl := h.len
  rcases h.own with ⟨_, _, h3⟩ | ⟨b, sp, h1, h2, h3⟩
  · rw [h3] at hj; simp at hj
  · refine IxA.mk h1 (by omega) (by omega) ?_
    rw [Int.toNat_natCast, adr_add, Nat.mul_one]
    refine St_row h2 (by rw [List.length_append]; omega) fun H' hU _ hr => hk H' b h1 hU ⟨by rw [List.length_set]; exact hl, .inr ⟨b, sp, h1, ?_, by rw [List.length_set]; exact h3⟩, h.lc⟩
    rwa [List.set_append_left _ _ hj] at hr
theorem ints_setI (xs : List Int) (i : Nat) (x : Int) : (ints xs).set i (.int .i64 x) = ints (xs.set i x) := by simp [ints, List.map_set]
theorem s_kept {H0 : Heap} {x : MG} (h : MacR H0 H x) (her : x.g.er = 0) {op A : Int} (hop : op = 26 ∨ op = 28) (hA : I64 A) (hA0 : 0 ≤ A) (ht : A % 8 ≤ x.top.stk.length) (hsl : x.top.stk.length ≤ 64) (hkl : x.kp.length ≤ 12) (hcl : x.cl.length ≤ 16) (P : MP) (E : En) (hE : E.idx = x.g.ix ∧ E.gen = x.g.gn) {k : Unit → Heap → Prop}
    (hk : ∀ H' x', Post H0 x (act P E x.ms (cutS x.ms (A % 8).toNat) (args x.ms (A % 8).toNat) op.toNat A) H' x' → k () H') :
    CallT Pg fQar [.pointer (some (adr x.b)), .agg #[.int .i64 op, .int .i64 A]] (.tup []) H k := by
  refine cQar _ (op, A) ?_
  unfold vQar
  refine Nw_row (vs := [.int .i64 op, .int .i64 A]) fun b1 H1 hb1 hE1 hz1 hr1 => ?_
  have h1 := h.ext hE1
  have bp : b1 ≠ x.top.p := by have := h.topR.row.lt; omega
  have c1 : hcell H1 ⟨b1, 1, none⟩ = some (.int .i64 A) := (hr1.cell 1).trans rfl
  simp only [NilCk_some, adr_add, mk_add]
  refine Ld_int c1 ⟨by omega, ?_⟩
  rw [Int.tmod_eq_emod_of_nonneg hA0]
  refine s_last h1 (Stab_1 c1 (m_take h1 (n := (A % 8).toNat) (by omega) (by omega) (by omega) fun r H2 c2 hU2 h2 hv2 hf2 => ?_))
  have hr2 : Row H2 b1 TQag [.int .i64 op, .int .i64 A] := hU2.row hr1 bp
  have c12 : hcell H2 ⟨b1, 1, none⟩ = some (.int .i64 A) := (hr2.cell 1).trans rfl
  refine Stab_1 c12 (Ld_int c12 ⟨by omega, ?_⟩)
  rw [tdiv8 hA0 hA]
  refine Ld_int (n := op) ((hr2.cell 0).trans rfl) (Br.mk (fun ho => ?_) fun ho => ?_)
  · have ho := beqI ho; subst ho
    refine Ld_sl (s := x.g.ks) ((h2.run.1.cell 20).trans rfl) ?_
    refine Nw_row (vs := [.int .i64 (A / 8), slV r]) fun b2 H3 hb2 hE3 hz3 hr3 => ?_
    have h3 := h2.ext hE3
    have hkv := h3.kv.1
    have hkvl := hkv.len
    rw [flat_len ptV_len] at hkvl
    dsimp only at hkv hkvl
    refine App_vecN (ws := ptV ⟨A / 8, r, x.top.stk.drop (x.top.stk.length - (A % 8).toNat)⟩) rfl (by decide) hkv hr3.rd_all rfl (fun w hw => ?_) (by decide) (by dsimp only; omega) fun ks H4 hv4 hl4 hU4 ha4 => ?_
    · simp only [ptV, List.mem_cons, List.not_mem_nil, or_false] at hw
      rcases hw with rfl | rfl <;> rfl
    have hrun4 := hU4.row h3.run.1 fun e => hkv.ne e.1 h3.run.1 (by decide) rfl
    refine St_row hrun4 (by simp) fun H5 hU5 _ hr5 => ?_
    have hfin := h2.keep (ks := ks) (q := ⟨A / 8, r, x.top.stk.drop (x.top.stk.length - (A % 8).toNat)⟩) (((hE3.mono fun _ _ h => h.elim).trans (hU4.mono fun _ _ e => .inl e.1) fun _ _ e => e).trans hU5 fun _ _ e => .inr e) hr5 (by
      have := hv4.upd hU5 fun b hb e => hv4.ne hb hrun4 (by decide) e
      simpa using this) (ha4.imp (fun e => e.1) fun e => ⟨_, e, hE3.size⟩) hv2 hf2
    refine hk H5 _ ⟨hfin, rfl, rfl, her, fun _ => ?_, rfl⟩
    show _ = { cutS x.ms (A % 8).toNat with kept := x.ms.kept ++ [(⟨A / 8, args x.ms (A % 8).toNat⟩ : Pt)] }
    simp only [MG.ms, List.map_append, List.map_cons, List.map_nil]
    rfl
  · have ho2 : op = 28 := by have := bneI ho; omega
    subst ho2
    refine ⟨(x.g.ix, x.g.gn), ?_, ?_⟩
    · rw [hcells_iff]
      intro o ho
      have ho : o < 2 := ho
      rw [mk_add, h2.run.1.cell]
      match o, ho with
      | 0, _ => rfl
      | 1, _ => rfl
    refine m_cmd h2 (q := ⟨3, (x.g.ix, x.g.gn), A / 8, r, x.top.stk.drop (x.top.stk.length - (A % 8).toNat), ⟨none, 0, 0⟩, []⟩) hcl hv2 hf2 rfl rfl fun H4 cs c4 h4 => ?_
    refine hk H4 _ ⟨h4, rfl, rfl, her, fun _ => ?_, rfl⟩
    show _ = { cutS x.ms (A % 8).toNat with cmds := x.ms.cmds ++ [(⟨3, (E.idx, E.gen), A / 8, args x.ms (A % 8).toNat, []⟩ : Cm)] }
    rw [hE.1, hE.2]
    simp only [MG.ms, List.map_append, List.map_cons, List.map_nil]
    rfl
abbrev MG.bump (x : MG) (c : Col) : MG := { x with top := { x.top with nx := x.top.nx + 1, v := x.top.v + 1 }, g := { x.g with si := x.g.si + 1 }, c := c }
theorem bump_post {H0 H' : Heap} {x x' : MG} {c : Col} {res : Int × Ms} (h : Post H0 (x.bump c) res H' x') : Post H0 x res H' x' := ⟨h.mac, h.b, h.st, h.er, h.ms, h.steps⟩
theorem does_act {P : MP} {E : En} {x : MG} {c : Col} {i : Ins} (hb : isBin i.1 = false) (hu : isUn i.1 = false) :
    does P E x.ms i = act P E (x.bump c).ms (cutS (x.bump c).ms (takes P.ps i).toNat) (args (x.bump c).ms (takes P.ps i).toNat) i.1.toNat i.2 := by
  unfold does
  dsimp only
  rw [if_neg (by rw [hb]; decide), if_neg (by rw [hu]; decide)]
  exact (act_congr (m := x.ms) (nx := x.top.nx + 1) (si := x.g.si + 1)).symm
theorem s_store {H0 : Heap} {x : MG} (h : MacR H0 H x) {A w : Int} (hA : 0 ≤ A ∧ A < (x.top.loc.length : Int)) {k : Heap → Prop} (hk : ∀ H' c, MacR H0 H' { x with top := { x.top with loc := x.top.loc.set A.toNat w }, c := c } → k H') :
    IxA 1 x.top.ls A fun a => St a (.int .i64 w) H k := by
  refine vec_st h.topR.loc (j := A.toNat) (by omega) (by rw [List.length_map]; omega) fun H' b hb hU hv => hk H' _ (h.top (t := { x.top with loc := x.top.loc.set A.toNat w }) (d := fun _ => 999) (tch_row hU (h.topI _ (.inr (.inl hb))) rfl) ⟨?_, ?_, ?_, h.topR.ap, h.topR.nxr⟩ rfl rfl fun b hb => .inl hb)
  · exact hU.row h.topR.row fun e => h.topR.neL hb e.symm
  · rw [ints_setI] at hv; exact hv
  · exact h.topR.stk.upd hU fun b' hb' e => h.topR.ap b hb (e ▸ hb')
theorem s_putf {H0 : Heap} {x : MG} (h : MacR H0 H x) {j : Nat} (hj : j < x.es.length) {i w : Int} (hi : 0 ≤ i ∧ i < (x.es[j].vals.length : Int)) {k : Heap → Prop} (hk : ∀ H', MacR H0 H' { x with es := x.es.set j { x.es[j] with vals := x.es[j].vals.set i.toNat w } } → k H') :
    IxA 1 x.es[j].sl i fun a => St a (.int .i64 w) H k := by
  refine vec_st (h.esR _ (List.getElem_mem hj)).1 (j := i.toNat) (by omega) (by rw [List.length_map]; omega) fun H' b hb hU hv => hk H' (h.put hj hb hU ?_)
  rw [ints_setI] at hv; exact hv
theorem s_does (hin : InputOk) {H0 : Heap} {x : MG} {fs : List Rou} {ins : List (Int × Int × Int)} (h : MacR H0 H x) (hc : CtxR H0 x.g.pF x.g.s x.g.inS fs ins) (her : x.g.er = 0) (hP : POk (mpOf x.g fs)) (hM : MOk (mpOf x.g fs) x.ms) {i : Ins} (hr : Rdy (mpOf x.g fs) x.ms i) {k : Unit → Heap → Prop}
    (hk : ∀ H' x', Post H0 x (does (mpOf x.g fs) (enOf x.g ins) x.ms i) H' x' → k () H') :
    CallT Pg fQae [.pointer (some (adr x.b)), .agg #[.int .i64 i.1, .int .i64 i.2]] (.tup []) H k := by
  have hps : (mpOf x.g fs).ps = parms fs := by simp [MP.ps, parms]
  have hi64 := (hM.top.fnOk hP).code i hr.get
  have hop := hr.op
  have hstk := hr.stk
  have hnx := hr.nx
  have hsince := hr.since
  have hsl : x.top.stk.length ≤ 64 := hM.top.stk
  have hsi := hM.since
  have hcode : (x.top.r.code.length : Int) ≤ 2 ^ 62 := by
    have := (hM.top.fnOk hP).len
    have e : x.ms.top.fn.code.length = x.top.r.code.length := rfl
    omega
  have hv : x.top.v = x.top.nx := by
    rcases h.topR.nxr with e | ⟨e, _⟩
    · exact e
    · exact absurd hnx e
  rw [hps] at hstk
  have hstk : takes (parms fs) i ≤ (x.top.stk.length : Int) ∧ (x.top.stk.length : Int) - takes (parms fs) i + puts i ≤ 64 := hstk
  refine cQae _ i ?_
  unfold vQae
  refine Nw_row (vs := insV i) fun b1 H1 hb1 hE1 hz1 hr1 => ?_
  have h1 := h.ext hE1
  refine s_last h1 ?_
  simp only [NilCk_some, adr_add, mk_add]
  have hnx' : 0 ≤ x.top.nx ∧ x.top.nx < (x.top.r.code.length : Int) := hnx
  refine Ld_int (n := x.top.v) ((h1.topR.row.cell 6).trans rfl) (Lt.mk (u := x.top.v + 1) (by rw [wrap_i64_id (by omega) (by omega)]) ?_)
  refine m_cell h1 (t := { x.top with nx := x.top.nx + 1, v := x.top.v + 1 }) (by decide) rfl rfl rfl rfl rfl rfl rfl (.inl (by dsimp only; omega)) fun H2 c2 hU2 _ h2 => ?_
  have hsi' : 0 ≤ x.g.si ∧ x.g.si < 40000 := ⟨hsi.1, hsince⟩
  refine Ld_int (n := x.g.si) ((h2.run.1.cell 27).trans rfl) (Lt.mk (u := x.g.si + 1) (by rw [wrap_i64_id (by omega) (by omega)]) ?_)
  refine St_row h2.run.1 (by simp) fun H3 hU3 _ hr3 => ?_
  have h3 : MacR H0 H3 (x.bump c2) := h2.num (st := x.g.st) (er := x.g.er) (si := x.g.si + 1) (ov := x.g.ov) hU3 hr3
  have hlo : x.top.p < H1.size := h1.topR.row.lt
  have hlb : x.b < H1.size := h1.run.1.lt
  have rb : Row H3 b1 TQag (insV i) := hU3.row (hU2.row hr1 (by have := h.topR.row.lt; omega)) (by have := h.run.1.lt; omega)
  refine Ld_int (n := i.1) ((rb.cell 0).trans rfl) (s_deedOf fun H4 n v hE4 hv1 hD => ?_)
  have h4 := h3.ext hE4
  have rb4 := hE4.row rb fun h => h
  refine Nw_row (vs := [.int .i64 0, .nilFunc]) fun b2 H5 hb2 hE5 hz5 hr5 => ?_
  refine St_row hr5 (by simp) fun H6 hU6 _ hr6 => ⟨hv1, St_row hr6 (by simp) fun H7 hU7 _ hr7 => ?_⟩
  have hE47 : Ext H4 H7 := extUpd hE5 (by omega) (hU6.trans hU7 fun _ _ e => e)
  have h7 := h4.ext hE47
  have rb7 := hE47.row rb4 fun h => h
  have hD7 := hD.upd hE47 fun _ _ _ _ _ h => h
  have hyp : (x.bump c2).top.p = x.top.p := rfl
  refine Br.mk (fun hre => ?_) fun hre => ?_
  · -- it reckons
    refine ⟨v, (hr7.cell 1).trans rfl, Ld_int (n := n) ((hr7.cell 0).trans rfl) ?_⟩
    have hm : isBin i.1 = true ∨ isUn i.1 = true := by simpa using hre
    have hb2x : b2 ≠ x.top.p := by have := hE4.size; have := hU3.size; have := hU2.size; omega
    rcases hm with hb | hu
    · obtain ⟨hn, hDB⟩ := hD7.1 hb
      subst hn
      have ht := (takes_bin (ps := parms fs) hop hb).1
      rw [ht] at hstk
      refine m_take h7 (n := 2) rfl (by dsimp only; omega) (by dsimp only; omega) fun r H8 c8 hU8 h8 hv8 hf8 => ?_
      have hb28 : Row H8 b2 TQas _ := hU8.row hr7 hb2x
      refine Stab_1 ((hb28.cell 1).trans rfl) ?_
      have hx : (x.top.stk.drop (x.top.stk.length - 2)).length = 2 := by simp; omega
      have ha : args x.ms 2 = x.top.stk.drop (x.top.stk.length - 2) := rfl
      dsimp only at hv8
      have hdo : does (mpOf x.g fs) (enOf x.g ins) x.ms i = ((0 : Int), (cut x.ms 2).push (binI i.1.toNat (args x.ms 2)[0]! (args x.ms 2)[1]!)) := by
        unfold does
        rw [hps, ht, if_pos hb]; rfl
      rw [hdo, ha] at hk
      generalize hl : x.top.stk.drop (x.top.stk.length - 2) = l at *
      match l, hx with
      | [w, z], _ =>
        refine (hDB.upd hU8 fun b vs hr e => hr.ne h7.topR.row (by decide) e).call hv8 ?_
        refine Stab_1 ((hb28.cell 0).trans rfl) (m_push h8 (by simp; omega) fun ss H9 c9 hU9 h9 => ?_)
        have hb29 : Row H9 b2 TQas _ := hU9.row hb28 fun e => e.elim hb2x fun e => by have := h.topR.stk.lt e; have := hE4.size; have := hU3.size; have := hU2.size; omega
        exact Stab_2 ((hb29.cell 0).trans rfl) ((hb29.cell 1).trans rfl) (hk H9 _ ⟨h9, rfl, rfl, her, fun _ => rfl, rfl⟩)
    · obtain ⟨hn, hDB⟩ := hD7.2 hu
      subst hn
      have ht := (takes_un (ps := parms fs) hop hu).1
      rw [ht] at hstk
      refine m_take h7 (n := 1) rfl (by dsimp only; omega) (by dsimp only; omega) fun r H8 c8 hU8 h8 hv8 hf8 => ?_
      have hb28 : Row H8 b2 TQas _ := hU8.row hr7 hb2x
      refine Stab_1 ((hb28.cell 1).trans rfl) ?_
      have hx : (x.top.stk.drop (x.top.stk.length - 1)).length = 1 := by simp; omega
      have ha : args x.ms 1 = x.top.stk.drop (x.top.stk.length - 1) := rfl
      dsimp only at hv8
      have hnb : isBin i.1 = false := by
        cases e : isBin i.1 with
        | false => rfl
        | true => have := (takes_bin (ps := parms fs) hop e).1; omega
      have hdo : does (mpOf x.g fs) (enOf x.g ins) x.ms i = ((0 : Int), (cut x.ms 1).push (unI i.1.toNat (args x.ms 1)[0]!)) := by
        unfold does
        dsimp only
        rw [hps, ht, if_neg (by rw [hnb]; decide), if_pos hu]; rfl
      rw [hdo, ha] at hk
      generalize hl : x.top.stk.drop (x.top.stk.length - 1) = l at *
      match l, hx with
      | [w], _ =>
        refine (hDB.upd hU8 fun b vs hr e => hr.ne h7.topR.row (by decide) e).call hv8 ?_
        refine Stab_1 ((hb28.cell 0).trans rfl) (m_push h8 (by simp; omega) fun ss H9 c9 hU9 h9 => ?_)
        have hb29 : Row H9 b2 TQas _ := hU9.row hb28 fun e => e.elim hb2x fun e => by have := h.topR.stk.lt e; have := hE4.size; have := hU3.size; have := hU2.size; omega
        exact Stab_2 ((hb29.cell 0).trans rfl) ((hb29.cell 1).trans rfl) (hk H9 _ ⟨h9, rfl, rfl, her, fun _ => rfl, rfl⟩)
  have hnb : isBin i.1 = false := by revert hre; cases isBin i.1 <;> simp
  have hnu : isUn i.1 = false := by revert hre; cases isUn i.1 <;> simp
  rw [does_act (c := c2) hnb hnu, hps] at hk
  have hk : ∀ H' x', Post H0 (x.bump c2) (act (mpOf x.g fs) (enOf x.g ins) (x.bump c2).ms (cutS (x.bump c2).ms (takes (parms fs) i).toNat) (args (x.bump c2).ms (takes (parms fs) i).toNat) i.1.toNat i.2) H' x' → k () H' := fun H' x' hp => hk H' x' (bump_post hp)
  obtain ⟨op, A⟩ := i
  dsimp only at hop hi64 hstk hnb hnu hk rb7
  have hA := hi64.2
  have hA2 := hA
  unfold I64 at hA2
  have hacc := hr.acc
  have hroom := hr.room
  unfold access at hacc
  dsimp only at hacc hroom
  have hacc : accessM (mpOf x.g fs) x.ms op.toNat A = true := by
    split at hacc
    · cases hacc
    · exact hacc
  have hlowl := h.lowl
  have hx1 : op = 2 ∨ op = 3 → 0 ≤ A ∧ A < (x.top.loc.length : Int) := fun e => by
    rcases e with rfl | rfl <;> exact of_decide_eq_true hacc
  have hfo : ∀ set, fieldOk x.ms.vals A set = true → 0 ≤ A ∧ ∃ v, lookV x.ms.vals (A / 8) = some v ∧ A % 8 < (v.length : Int) := fun set e => by
    unfold fieldOk at e
    simp only [Bool.and_eq_true, decide_eq_true_eq] at e
    refine ⟨e.1.1, ?_⟩
    have e2 := e.1.2
    cases hl : lookV x.ms.vals (A / 8) with
    | none => rw [hl] at e2; cases e2
    | some v => rw [hl] at e2; exact ⟨v, rfl, of_decide_eq_true e2⟩
  have hx4 : op = 4 ∨ op = 5 → 0 ≤ A ∧ ∃ v, lookV x.ms.vals (A / 8) = some v ∧ A % 8 < (v.length : Int) := fun e => by
    rcases e with rfl | rfl <;> exact hfo _ hacc
  have hx21 : op = 21 → 0 ≤ A ∧ A < (fs.length : Int) ∧ x.low.length + 1 ≤ 16 := fun e => by
    subst e
    have := of_decide_eq_true (show decide (0 ≤ A ∧ A < ((fs.map fnOf).length : Int) ∧ (x.low.map AP.act).length + 1 ≤ 16) = true from hacc)
    rw [List.length_map, List.length_map] at this
    exact this
  have hx22 : op = 22 → x.low ≠ [] ∧ ∀ a ∈ x.low, a.stk.length ≤ 64 := fun e => by
    subst e
    have := of_decide_eq_true (show decide (x.low.map AP.act ≠ []) = true from hacc)
    refine ⟨fun e => this (by rw [e]; rfl), fun a ha => ?_⟩
    exact (hM.low a.act (List.mem_map.2 ⟨a, ha, rfl⟩)).1.stk
  have hx26 : op = 26 ∨ op = 28 → 0 ≤ A := fun e => by
    rcases e with rfl | rfl
    · have : (decide (0 ≤ A) && isKindB (A / 8) && decide (x.ms.kept.length < 12)) = true := hacc
      simp only [Bool.and_eq_true, decide_eq_true_eq] at this
      exact this.1.1
    · have : (decide (0 ≤ A) && isKindB (A / 8)) = true := hacc
      simp only [Bool.and_eq_true, decide_eq_true_eq] at this
      exact this.1
  have hkl : x.kp.length ≤ 12 := by have := hM.kept; rwa [List.length_map] at this
  have hcl : x.cl.length ≤ 16 := by have := hM.cmds; rwa [List.length_map] at this
  have hel : x.evs.length ≤ 16 := hM.evs
  have hKK : ∀ q ∈ x.kp, 1 ≤ q.kind ∧ q.kind ≤ 12 := fun q hq => hM.keptK q.pt (List.mem_map.2 ⟨q, hq, rfl⟩)
  have hdd := hM.dice
  have hst : 0 ≤ x.g.st ∧ x.g.st ≤ 2000 := hM.steps
  refine Jn.mk (fun j H' => (j = true ∧ ∃ x', Post H0 (x.bump c2) (act (mpOf x.g fs) (enOf x.g ins) (x.bump c2).ms (cutS (x.bump c2).ms (takes (parms fs) (op, A)).toNat) (args (x.bump c2).ms (takes (parms fs) (op, A)).toNat) op.toNat A) H' x') ∨
    (j = false ∧ Ext H7 H' ∧ ¬ (19 ≤ op ∧ op ≤ 24) ∧ ¬ (op = 1 ∨ op = 2 ∨ op = 4 ∨ (31 ≤ op ∧ op ≤ 35)))) (fun kk hkk => ?_) ?_
  · refine ⟨(op, A), rb7.rd_all, ?_⟩
    refine s_jumps (x := x.bump c2) (fs := fs) (ins := ins) h7 hc her hst hstk.1 hsl hx21 hx22 (enOf x.g ins) (fun H' x' hop' hp => ?_) fun H' hno hE8 => ?_
    · exact hkk _ _ (.inl ⟨rfl, x', hp⟩)
    · refine ⟨(op, A), (hE8.row rb7 fun h => h).rd_all, ?_⟩
      refine s_asks (x := x.bump c2) (fs := fs) (ins := ins) hin (h7.ext hE8) hc her hA hstk.1 hsl hM.top.stk64 hdd (fun e => hx1 (.inl e)) (fun e => hx4 (.inl e)) (fun H' x' hop' hp => ?_) fun H' hno2 hE9 => ?_
      · exact hkk _ _ (.inl ⟨rfl, x', hp⟩)
      · exact hkk _ _ (.inr ⟨rfl, hE8.trans hE9 fun _ _ h => h, hno, hno2⟩)
  rintro j H8 (⟨rfl, x', hp⟩ | ⟨rfl, hE8, hn1, hn2⟩)
  · exact hk H8 x' hp
  rw [Br_false]
  have h8 := h7.ext hE8
  have rb8 := hE8.row rb7 fun h => h
  refine ⟨(x.g.ix, x.g.gn), ?_, ?_⟩
  · rw [hcells_iff]
    intro o ho
    have ho : o < 2 := ho
    rw [mk_add, h8.run.1.cell]
    match o, ho with
    | 0, _ => rfl
    | 1, _ => rfl
  refine Nw_row (vs := [.int .i64 0, .int .i64 0]) fun b3 H9 hb3 hE9 hz9 hr9 => ?_
  refine St_row hr9 (by simp) fun H10 hU10 _ hr10 => St_row hr10 (by simp) fun H11 hU11 _ hr11 => ?_
  have hE811 : Ext H8 H11 := extUpd hE9 (by omega) (hU10.trans hU11 fun _ _ e => e)
  have h11 := h8.ext hE811
  have rb11 := hE811.row rb8 fun h => h
  have re : Row H11 b3 TQad [.int .i64 x.g.ix, .int .i64 x.g.gn] := hr11
  have lp : x.top.p < H8.size := h8.topR.row.lt
  have b1p : b1 ≠ x.top.p := by have := h.topR.row.lt; omega
  have b3p : b3 ≠ x.top.p := by omega
  have topc : ∀ n, hcell H11 ⟨x.top.p, n, none⟩ = (actV (x.bump c2).top)[n]? := h11.topR.row.cell
  refine Ld_int (n := op) ((rb11.cell 0).trans rfl) ?_
  have c1 : hcell H11 ⟨b1, 1, none⟩ = some (.int .i64 A) := (rb11.cell 1).trans rfl
  simp only [Jn]
  refine Br.mk (fun e3 => ?_) fun e3 => ?_
  · have e3 := beqI e3; subst e3
    have et : takes (parms fs) (3, A) = 1 := takes_of (by decide) (by decide) (by decide)
    rw [et] at hstk hk
    refine Ld_sl (s := x.top.ls) ((topc 4).trans rfl) (Ld_int c1 (m_take h11 (n := 1) rfl (by dsimp only; omega) (by dsimp only; omega) fun r H12 c12 hU12 h12 hv12 hf12 => ?_))
    refine Stab_2 ((hU12.row rb11 b1p |>.cell 1).trans rfl) ((h12.topR.row.cell 4).trans rfl) ?_
    have hx : (x.top.stk.drop (x.top.stk.length - 1)).length = 1 := by simp; omega
    have ha : args (x.bump c2).ms 1 = x.top.stk.drop (x.top.stk.length - 1) := rfl
    dsimp only at hv12
    generalize hl : x.top.stk.drop (x.top.stk.length - 1) = l at *
    match l, hx with
    | [w], _ =>
      refine IxA_vec hv12 (by decide) (by simp) fun a7 ha7 _ => Ld_int (n := w) (ha7.trans rfl) ?_
      refine s_store h12 (hx1 (.inr rfl)) fun H13 c13 h13 => hk H13 _ ⟨h13, rfl, rfl, her, fun _ => ?_, rfl⟩
      rw [show (1 : Int).toNat = 1 from rfl, ha]; rfl
  have e3 := bneI e3
  refine Br.mk (fun e5 => ?_) fun e5 => ?_
  · have e5 := beqI e5; subst e5
    have et : takes (parms fs) (5, A) = 1 := takes_of (by decide) (by decide) (by decide)
    rw [et] at hstk hk
    obtain ⟨hA0, vv, hvv, hvl⟩ := hx4 (.inr rfl)
    refine ⟨.map (some x.g.mp), (h11.run.1.cell 18).trans rfl, Ld_int c1 ⟨by omega, Ld_int c1 ⟨by omega, ?_⟩⟩⟩
    rw [tdiv8 hA0 hA, Int.tmod_eq_emod_of_nonneg hA0]
    have hx : (x.top.stk.drop (x.top.stk.length - 1)).length = 1 := by simp; omega
    have ha : args (x.bump c2).ms 1 = x.top.stk.drop (x.top.stk.length - 1) := rfl
    rw [show (1 : Int).toNat = 1 from rfl, ha] at hk
    generalize hl : x.top.stk.drop (x.top.stk.length - 1) = l at *
    match l, hx with
    | [w], _ =>
      have fin : ∀ {Hx : Heap} {c : Col} (hx : MacR H0 Hx { (x.bump c2) with top := (x.bump c2).top.took 1, c := c }) {j : Nat} (hj : j < x.es.length), x.es[j].kind = A / 8 → lookV (x.es.map PtP.pt) (A / 8) = some x.es[j].vals → (∀ f v, putV (x.es.map PtP.pt) (A / 8) f v = (x.es.set j { x.es[j] with vals := x.es[j].vals.set f v }).map PtP.pt) →
          IxA 1 x.es[j].sl (A % 8) fun a11 => St a11 (.int .i64 w) Hx fun H24 => k () H24 := fun {Hx c} hx {j} hj hkd hlk hpv => by
        have ev : x.es[j].vals = vv := by
          have : some x.es[j].vals = some vv := hlk.symm.trans hvv
          exact Option.some.inj this
        refine s_putf hx (j := j) hj (i := A % 8) (w := w) ⟨by omega, by dsimp only; rw [ev]; exact hvl⟩ fun H13 h13 => hk H13 _ ⟨h13, rfl, rfl, her, fun _ => ?_, rfl⟩
        show _ = { cutS (x.bump c2).ms 1 with vals := putV (x.es.map PtP.pt) (A / 8) (A % 8).toNat w }
        rw [hpv]
      have absurd' : ∀ {X : Prop}, lookV (x.es.map PtP.pt) (A / 8) = none → X := fun {X} hlk => by
        have : none = some vv := hlk.symm.trans hvv
        cases this
      refine ⟨MpL_es h11.map.1 (fun j hj hkd hlk hpv => Stab_2 c1 c1 (m_take h11 (n := 1) rfl (by dsimp only; omega) (by dsimp only; omega) fun r H12 c12 hU12 h12 hv12 hf12 => ?_)) fun hlk => absurd' hlk, m_take h11 (n := 1) rfl (by dsimp only; omega) (by dsimp only; omega) fun r H12 c12 hU12 h12 hv12 hf12 => ?_, trivial⟩
      · have c112 : hcell H12 ⟨b1, 1, none⟩ = some (.int .i64 A) := (hU12.row rb11 b1p |>.cell 1).trans rfl
        dsimp only at hv12
        rw [hl] at hv12
        refine Stab_all (fun y hy => ?_) (IxA_vec hv12 (by decide) (by simp) fun a7 ha7 _ => Ld_int (n := w) (ha7.trans rfl) (fin h12 hj hkd hlk hpv))
        simp only [List.mem_cons, List.not_mem_nil, or_false] at hy
        rcases hy with rfl | rfl | rfl
        · exact c112
        · exact c112
        · exact (h12.run.1.cell 18).trans rfl
      · have c112 : hcell H12 ⟨b1, 1, none⟩ = some (.int .i64 A) := (hU12.row rb11 b1p |>.cell 1).trans rfl
        dsimp only at hv12
        rw [hl] at hv12
        refine Stab_all (fun y hy => ?_) (IxA_vec hv12 (by decide) (by simp) fun a7 ha7 _ => Ld_int (n := w) (ha7.trans rfl) (MpL_es h12.map.1 (fun j hj hkd hlk hpv => Stab_all (fun y hy => ?_) (fin h12 hj hkd hlk hpv)) fun hlk => absurd' hlk))
        · simp only [List.mem_cons, List.not_mem_nil, or_false] at hy
          rcases hy with rfl | rfl | rfl
          · exact c112
          · exact c112
          · exact (h12.run.1.cell 18).trans rfl
        · simp only [List.mem_cons, List.not_mem_nil, or_false] at hy
          rcases hy with rfl | rfl | rfl
          · exact ha7.trans rfl
          · exact c112
          · exact c112
  have e5 := bneI e5
  refine Br.mk (fun e25 => ?_) fun e25 => ?_
  · have e25 := beqI e25; subst e25
    have et : takes (parms fs) (25, A) = 2 := takes_of (by decide) (by decide) (by decide)
    rw [et] at hstk hk
    refine m_take h11 (n := 2) rfl (by dsimp only; omega) (by dsimp only; omega) fun r H12 c12 hU12 h12 hv12 hf12 => ?_
    have hx : (x.top.stk.drop (x.top.stk.length - 2)).length = 2 := by simp; omega
    have ha : args (x.bump c2).ms 2 = x.top.stk.drop (x.top.stk.length - 2) := rfl
    dsimp only at hv12
    generalize hl : x.top.stk.drop (x.top.stk.length - 2) = l at *
    match l, hx with
    | [w, z], _ =>
      have re12 := hU12.row re b3p
      refine Ld_sl (s := x.g.es) ((h12.run.1.cell 23).trans rfl) (Ld_int (n := x.g.n) ((h12.run.1.cell 10).trans rfl) ⟨(x.g.ix, x.g.gn), re12.rd_all, ?_⟩)
      refine IxA_vec hv12 (by decide) (by simp) fun a6 ha6 haa6 => Ld_int (n := w) (ha6.trans rfl) (IxA_vec hv12 (by decide) (by simp) fun a7 ha7 haa7 => Ld_int (n := z) (ha7.trans rfl) ?_)
      refine Nw_row (vs := evV ⟨x.g.n, (x.g.ix, x.g.gn), w, z⟩) fun b4 H13 hb4 hE13 hz13 hr13 => ?_
      have h13 := h12.ext hE13
      have hv13 := hv12.ext hE13
      have re13 := hE13.row re12 fun h => h
      obtain ⟨rb, hrb, rfl⟩ := haa6
      obtain ⟨rb', hrb', rfl⟩ := haa7
      rw [hrb] at hrb'; cases hrb'
      have cr : ∀ {H'}, Vec H' TQaq r (ints [w, z]) → hcell H' ⟨rb, 0, none⟩ = some (.int .i64 w) ∧ hcell H' ⟨rb, 1, none⟩ = some (.int .i64 z) := fun hv => by
        obtain ⟨c, hc, e⟩ := hv.cell (i := 0) (by simp)
        obtain ⟨c', hc', e'⟩ := hv.cell (i := 1) (by simp)
        rw [hrb] at hc hc'; cases hc; cases hc'
        exact ⟨e, e'⟩
      have st : ∀ {H'}, Vec H' TQaq r (ints [w, z]) → Row H' b3 TQad [.int .i64 x.g.ix, .int .i64 x.g.gn] → hcell H' ⟨x.b, 10, none⟩ = some (.int .i64 x.g.n) → ∀ y ∈ [((⟨rb, 1, none⟩ : Addr), Value.int .i64 z), (⟨rb, 0, none⟩, .int .i64 w), (⟨b3, 0, none⟩, .int .i64 x.g.ix), (⟨b3, 1, none⟩, .int .i64 x.g.gn), (⟨x.b, 10, none⟩, .int .i64 x.g.n)], hcell H' y.1 = some y.2 := fun hv hr hn y hy => by
        simp only [List.mem_cons, List.not_mem_nil, or_false] at hy
        rcases hy with rfl | rfl | rfl | rfl | rfl
        · exact (cr hv).2
        · exact (cr hv).1
        · exact (hr.cell 0).trans rfl
        · exact (hr.cell 1).trans rfl
        · exact hn
      refine Stab_all (fun y hy => ?_) ?_
      · have hs := st hv13 re13 ((h13.run.1.cell 10).trans rfl)
        simp only [List.mem_cons, List.not_mem_nil, or_false] at hy hs
        rcases hy with rfl | rfl | rfl | rfl | rfl | rfl
        · exact hs _ (.inl rfl)
        · exact hs _ (.inr (.inl rfl))
        · exact hs _ (.inr (.inr (.inl rfl)))
        · exact hs _ (.inr (.inr (.inr (.inl rfl))))
        · exact hs _ (.inr (.inr (.inr (.inr rfl))))
        · exact (h13.run.1.cell 23).trans rfl
      have hev := h13.ev.1
      have hevl := hev.len
      rw [flat_len evV_len] at hevl
      dsimp only at hev hevl
      refine App_vecN (ws := evV ⟨x.g.n, (x.g.ix, x.g.gn), w, z⟩) rfl (by decide) hev hr13.rd_all rfl (fun w hw => ?_) (by decide) (by dsimp only; omega) fun es H14 hv14 hl14 hU14 ha14 => ?_
      · simp only [evV, List.mem_cons, List.not_mem_nil, or_false] at hw
        rcases hw with rfl | rfl | rfl | rfl | rfl <;> rfl
      have hrun14 := hU14.row h13.run.1 fun e => hev.ne e.1 h13.run.1 (by decide) rfl
      refine Stab_all (st (hv13.upd hU14 fun b hb e => ?_) (hU14.row re13 fun e => hev.ne e.1 re13 (by decide) rfl) ((hrun14.cell 10).trans rfl)) ?_
      · exact (hev.apV hv13 (by decide) e.1 hb)
      refine St_row hrun14 (by simp) fun H15 hU15 _ hr15 => ?_
      have hfin := h12.event (es := es) (q := ⟨x.g.n, (x.g.ix, x.g.gn), w, z⟩) (((hE13.mono fun _ _ h => h.elim).trans (hU14.mono fun _ _ e => .inl e.1) fun _ _ e => e).trans hU15 fun _ _ e => .inr e) hr15 (by
        have := hv14.upd hU15 fun b hb e => hv14.ne hb hrun14 (by decide) e
        simpa using this) (ha14.imp (fun e => e.1) fun e => ⟨_, e, hE13.size⟩)
      refine hk H15 _ ⟨hfin, rfl, rfl, her, fun _ => ?_, rfl⟩
      rw [show (2 : Int).toNat = 2 from rfl, ha]; rfl
  have e25 := bneI e25
  have kept : op = 26 ∨ op = 28 → (LdC [(.int .i64), (.int .i64)] (adr b1) H11 fun (c5 : Int × Int) => CallT Pg fQar [.pointer (some (adr x.b)), .agg #[.int .i64 c5.1, .int .i64 c5.2]] (.tup []) H11 fun (r12 : Unit) H34 => k () H34) := fun ho => by
    have hA0 := hx26 ho
    have et : takes (parms fs) (op, A) = A % 8 := by
      unfold takes isOpB
      rcases ho with rfl | rfl
      · rw [if_pos (show decide ((1 : Int) ≤ 26 ∧ (26 : Int) ≤ 39) = true by decide), if_neg (show ¬ (tbl[(26 : Int).toNat]!).2.2 = 1 by decide), if_pos (show (tbl[(26 : Int).toNat]!).2.2 = 2 by decide), if_pos hA0]
      · rw [if_pos (show decide ((1 : Int) ≤ 28 ∧ (28 : Int) ≤ 39) = true by decide), if_neg (show ¬ (tbl[(28 : Int).toNat]!).2.2 = 1 by decide), if_pos (show (tbl[(28 : Int).toNat]!).2.2 = 2 by decide), if_pos hA0]
    rw [et] at hstk hk
    exact ⟨(op, A), rb11.rd_all, s_kept h11 her ho hA hA0 hstk.1 hsl hkl hcl _ _ ⟨rfl, rfl⟩ hk⟩
  have rest : op ≠ 26 → op ≠ 28 → (Br (op == 27) (CallT Pg fQas [.pointer (some (adr x.b))] (.tup []) H11 fun (r13 : Unit) H36 => k () H36) (Br (op == 29) (LdC [(.int .i64), (.int .i64)] (adr b3) H11 fun (c6 : Int × Int) => Ld (.int .i64) ⟨b1, 1, none⟩ H11 fun (x21 : Int) => CallT Pg fQat [.pointer (some (adr x.b)), .agg #[.int .i64 4, .int .i64 c6.1, .int .i64 c6.2, .int .i64 x21, .slice none 0 0, .slice none 0 0]] (.tup []) H11 fun (r14 : Unit) H38 => k () H38)
      (Br (op == 30) (LdC [(.int .i64), (.int .i64)] (adr b3) H11 fun (c7 : Int × Int) => CallT Pg fQat [.pointer (some (adr x.b)), .agg #[.int .i64 2, .int .i64 c7.1, .int .i64 c7.2, .int .i64 0, .slice none 0 0, .slice none 0 0]] (.tup []) H11 fun (r15 : Unit) H40 => k () H40)
        (Br (op == 39) (CallT Pg fQao [.pointer (some (adr x.top.p)), .int .i64 1] (.one (.c .sl)) H11 fun (r16 : Sl) H42 => k () H42) (k () H11))))) := fun e26 e28 => by
    refine Br.mk (fun e27 => ?_) fun e27 => ?_
    · have e27 := beqI e27; subst e27
      have et : (takes (parms fs) (27, A)).toNat = 0 := by rw [takes_of (by decide) (by decide) (c := 0) (by decide)]; rfl
      rw [et] at hk
      refine s_spawn h11 hcl hkl hKK fun H12 cs c12 h12 => hk H12 _ ⟨h12, rfl, rfl, her, fun _ => ?_, rfl⟩
      rw [cut0]
      show _ = { (x.bump c2).ms with cmds := (x.bump c2).ms.cmds ++ [(⟨1, (0, 0), 0, [], rise (x.kp.map PtP.pt)⟩ : Cm)], kept := [] }
      have er : rise (x.kp.map PtP.pt) = (risK PtP.kind x.kp).map PtP.pt := (risN_map PtP.pt (key := PtP.kind) (key' := Pt.kind) (fun _ => rfl) x.kp 13).symm
      rw [er]
      simp only [MG.ms, List.map_append, List.map_cons, List.map_nil]
    have e27 := bneI e27
    refine Br.mk (fun e29 => ?_) fun e29 => ?_
    · have e29 := beqI e29; subst e29
      have et : (takes (parms fs) (29, A)).toNat = 0 := by rw [takes_of (by decide) (by decide) (c := 0) (by decide)]; rfl
      rw [et] at hk
      refine ⟨(x.g.ix, x.g.gn), re.rd_all, Ld_int c1 ?_⟩
      refine m_cmd h11 (q := ⟨4, (x.g.ix, x.g.gn), A, ⟨none, 0, 0⟩, [], ⟨none, 0, 0⟩, []⟩) hcl (Vec.nil _ _) (fun b hb => by cases hb) rfl rfl fun H12 cs c12 h12 => hk H12 _ ⟨h12, rfl, rfl, her, fun _ => ?_, rfl⟩
      rw [cut0]
      show _ = { (x.bump c2).ms with cmds := (x.bump c2).ms.cmds ++ [(⟨4, (x.g.ix, x.g.gn), A, [], []⟩ : Cm)] }
      simp only [MG.ms, List.map_append, List.map_cons, List.map_nil]
      rfl
    have e29 := bneI e29
    refine Br.mk (fun e30 => ?_) fun e30 => ?_
    · have e30 := beqI e30; subst e30
      have et : (takes (parms fs) (30, A)).toNat = 0 := by rw [takes_of (by decide) (by decide) (c := 0) (by decide)]; rfl
      rw [et] at hk
      refine ⟨(x.g.ix, x.g.gn), re.rd_all, ?_⟩
      refine m_cmd h11 (q := ⟨2, (x.g.ix, x.g.gn), 0, ⟨none, 0, 0⟩, [], ⟨none, 0, 0⟩, []⟩) hcl (Vec.nil _ _) (fun b hb => by cases hb) rfl rfl fun H12 cs c12 h12 => hk H12 _ ⟨h12, rfl, rfl, her, fun _ => ?_, rfl⟩
      rw [cut0]
      show _ = { (x.bump c2).ms with cmds := (x.bump c2).ms.cmds ++ [(⟨2, (x.g.ix, x.g.gn), 0, [], []⟩ : Cm)] }
      simp only [MG.ms, List.map_append, List.map_cons, List.map_nil]
      rfl
    have e30 := bneI e30
    refine Br.mk (fun e39 => ?_) fun e39 => ?_
    · have e39 := beqI e39; subst e39
      have et : takes (parms fs) (39, A) = 1 := takes_of (by decide) (by decide) (by decide)
      rw [et] at hstk hk
      exact m_take h11 (n := 1) rfl (by dsimp only; omega) (by dsimp only; omega) fun r H12 c12 hU12 h12 hv12 hf12 => hk H12 _ ⟨h12, rfl, rfl, her, fun _ => rfl, rfl⟩
    have e39 := bneI e39
    exfalso
    simp only [isBin, List.contains_cons, List.contains_nil, Bool.or_false, Bool.or_eq_false_iff, beq_eq_false_iff_ne] at hnb
    simp only [isUn, List.contains_cons, List.contains_nil, Bool.or_false, Bool.or_eq_false_iff, beq_eq_false_iff_ne] at hnu
    omega
  refine Br.mk (fun e26 => ?_) fun e26 => ?_
  · rw [Br_true]; exact kept (.inl (beqI e26))
  · have e26 := bneI e26
    refine Br.mk (fun e28 => kept (.inr (beqI e28))) fun e28 => ?_
    exact rest e26 (bneI e28)
end
end Go.Proofs.YtfpmgpblhhcpgaaGreat
namespace Go.Proofs
set_option linter.unusedVariables false
set_option linter.unusedSimpArgs false
set_option maxRecDepth 100000
section
open Go.Shelf
def Tryz.lays128_ren : Go.Shelf.Ren := ⟨fun | 128 => 174 | n => n, fun | 51 => 251 | 3 => 3 | 4 => 4 | 46 => 199 | 5 => 5 | 9 => 9 | n => n, fun | n => n⟩
def Tryz.lays125_ren : Go.Shelf.Ren := ⟨fun | 125 => 124 | 128 => 174 | 129 => 175 | n => n, fun | 46 => 199 | 3 => 3 | 51 => 251 | 53 => 137 | 4 => 4 | 5 => 5 | 9 => 9 | n => n, fun | n => n⟩
def Tryz.lays215_ren : Go.Shelf.Ren := ⟨fun | 215 => 164 | n => n, fun | 3 => 3 | 4 => 4 | n => n, fun | n => n⟩
def Tryz.lays122_ren : Go.Shelf.Ren := ⟨fun | 122 => 122 | 215 => 164 | n => n, fun | 3 => 3 | 4 => 4 | n => n, fun | n => n⟩
def Tryz.lays129_ren : Go.Shelf.Ren := ⟨fun | 129 => 175 | n => n, fun | 53 => 137 | 3 => 3 | 4 => 4 | 46 => 199 | 5 => 5 | 9 => 9 | n => n, fun | n => n⟩
def Tryz.lays189_ren : Go.Shelf.Ren := ⟨fun | 189 => 70 | 125 => 124 | 257 => 123 | 128 => 174 | 129 => 175 | 294 => 165 | 295 => 166 | 296 => 167 | 297 => 168 | 298 => 169 | 299 => 170 | 216 => 171 | 300 => 172 | 301 => 173 | 328 => 194 | 329 => 195 | 330 => 196 | 331 => 197 | 332 => 198 | 215 => 164 | 343 => 202 | n => n, fun | 28 => 53 | 3 => 3 | 46 => 199 | 0 => 0 | 51 => 251 | 53 => 137 | 4 => 4 | 183 => 243 | 182 => 242 | 131 => 248 | 5 => 5 | 9 => 9 | 218 => 269 | 222 => 223 | 228 => 275 | 229 => 132 | n => n, fun | n => n⟩
theorem Tryz.lays189 : Go.Proofs.Lays.n189 Tryz.prog Tryz.lays189_ren := {
  mixed := by kernel_rfl
  f125 := Tryz.func124.trans (congrArg some (by kernel_rfl))
  f128 := Tryz.func174.trans (congrArg some (by kernel_rfl))
  f129 := Tryz.func175.trans (congrArg some (by kernel_rfl))
  f189 := Tryz.func70.trans (congrArg some (by kernel_rfl))
  f215 := Tryz.func164.trans (congrArg some (by kernel_rfl))
  f216 := Tryz.func171.trans (congrArg some (by kernel_rfl))
  f257 := Tryz.func123.trans (congrArg some (by kernel_rfl))
  f294 := Tryz.func165.trans (congrArg some (by kernel_rfl))
  f295 := Tryz.func166.trans (congrArg some (by kernel_rfl))
  f296 := Tryz.func167.trans (congrArg some (by kernel_rfl))
  f297 := Tryz.func168.trans (congrArg some (by kernel_rfl))
  f298 := Tryz.func169.trans (congrArg some (by kernel_rfl))
  f299 := Tryz.func170.trans (congrArg some (by kernel_rfl))
  f300 := Tryz.func172.trans (congrArg some (by kernel_rfl))
  f301 := Tryz.func173.trans (congrArg some (by kernel_rfl))
  f328 := Tryz.func194.trans (congrArg some (by kernel_rfl))
  f329 := Tryz.func195.trans (congrArg some (by kernel_rfl))
  f330 := Tryz.func196.trans (congrArg some (by kernel_rfl))
  f331 := Tryz.func197.trans (congrArg some (by kernel_rfl))
  f332 := Tryz.func198.trans (congrArg some (by kernel_rfl))
  f343 := Tryz.func202.trans (congrArg some (by kernel_rfl))
  t0 := Tryz.underlying0
  a0 := Tryz.isAgg0
  z0 := Tryz.sizeOf0
  v0 := Tryz.zeroValue0
  t3 := Tryz.underlying3
  a3 := Tryz.isAgg3
  z3 := Tryz.sizeOf3
  v3 := Tryz.zeroValue3
  t4 := Tryz.underlying4
  a4 := Tryz.isAgg4
  z4 := Tryz.sizeOf4
  v4 := Tryz.zeroValue4
  t5 := Tryz.underlying5
  a5 := Tryz.isAgg5
  z5 := Tryz.sizeOf5
  v5 := Tryz.zeroValue5
  t9 := Tryz.underlying9
  a9 := Tryz.isAgg9
  z9 := Tryz.sizeOf9
  v9 := Tryz.zeroValue9
  t28 := Tryz.underlying53
  a28 := Tryz.isAgg53
  z28 := Tryz.sizeOf53
  v28 := Tryz.zeroValue53
  t46 := Tryz.underlying199
  a46 := Tryz.isAgg199
  z46 := Tryz.sizeOf199
  v46 := Tryz.zeroValue199
  t51 := Tryz.underlying251
  a51 := Tryz.isAgg251
  z51 := Tryz.sizeOf251
  v51 := Tryz.zeroValue251
  t53 := Tryz.underlying137
  a53 := Tryz.isAgg137
  z53 := Tryz.sizeOf137
  v53 := Tryz.zeroValue137
  t131 := Tryz.underlying248
  a131 := Tryz.isAgg248
  z131 := Tryz.sizeOf248
  v131 := Tryz.zeroValue248
  t182 := Tryz.underlying242
  a182 := Tryz.isAgg242
  z182 := Tryz.sizeOf242
  v182 := Tryz.zeroValue242
  t183 := Tryz.underlying243
  a183 := Tryz.isAgg243
  z183 := Tryz.sizeOf243
  v183 := Tryz.zeroValue243
  t218 := Tryz.underlying269
  a218 := Tryz.isAgg269
  z218 := Tryz.sizeOf269
  v218 := Tryz.zeroValue269
  t222 := Tryz.underlying223
  a222 := Tryz.isAgg223
  z222 := Tryz.sizeOf223
  v222 := Tryz.zeroValue223
  t228 := Tryz.underlying275
  a228 := Tryz.isAgg275
  z228 := Tryz.sizeOf275
  v228 := Tryz.zeroValue275
  t229 := Tryz.underlying132
  a229 := Tryz.isAgg132
  z229 := Tryz.sizeOf132
  v229 := Tryz.zeroValue132 }
open Go.Sort Go.RowKit in
theorem Tryz.slices_Sort_int (blk off cap : Nat) (zs : List Int) (w : World) (hH : Holds (Value.int .i64) w blk off zs.toArray) (hblk : blk < w.heap.size) (hsz : zs.length < 4611686018427387904) :
    Calls Tryz.prog 70 #[.slice (some ⟨blk, off, none⟩) zs.length cap] w fun e w' =>
      e = .returned (.tuple #[]) ∧ ∃ n os, w' = grow (putRow (Value.int .i64) (Sort.ahead w n) blk off (zs.mergeSort fun x y => decide (x ≤ y)).toArray) os := Any.slices_Sort_int Tryz.lays189 blk off cap zs w hH hblk hsz
def Tryz.lays108_ren : Go.Shelf.Ren := ⟨fun | 108 => 190 | n => n, fun | 28 => 53 | 3 => 3 | 0 => 0 | 4 => 4 | n => n, fun | n => n⟩
def Tryz.lays107_ren : Go.Shelf.Ren := ⟨fun | 107 => 151 | 108 => 190 | n => n, fun | 28 => 53 | 3 => 3 | 4 => 4 | 0 => 0 | n => n, fun | n => n⟩
def Tryz.lays109_ren : Go.Shelf.Ren := ⟨fun | 109 => 199 | n => n, fun | 31 => 68 | 9 => 9 | 3 => 3 | 0 => 0 | 4 => 4 | n => n, fun | n => n⟩
def Tryz.lays110_ren : Go.Shelf.Ren := ⟨fun | 110 => 177 | 109 => 199 | n => n, fun | 31 => 68 | 9 => 9 | 4 => 4 | 3 => 3 | 0 => 0 | n => n, fun | n => n⟩
def Tryz.laysNm215_ren : Go.Shelf.Ren := ⟨fun | 15 => 69 | n => n, fun | 22 => 53 | 3 => 3 | 4 => 4 | n => n, fun | n => n⟩
def Tryz.laysNm216_ren : Go.Shelf.Ren := ⟨fun | 16 => 127 | n => n, fun | 24 => 68 | 9 => 9 | 4 => 4 | n => n, fun | n => n⟩
def Tryz.laysNm220_ren : Go.Shelf.Ren := ⟨fun | 20 => 71 | n => n, fun | 22 => 53 | 3 => 3 | 4 => 4 | 0 => 0 | n => n, fun | n => n⟩
theorem Tryz.laysNm220 : Go.Proofs.Lays2.n20 Tryz.prog Tryz.laysNm220_ren := {
  mixed := by kernel_rfl
  f20 := Tryz.func71.trans (congrArg some (by kernel_rfl))
  t0 := Tryz.underlying0
  a0 := Tryz.isAgg0
  z0 := Tryz.sizeOf0
  v0 := Tryz.zeroValue0
  t3 := Tryz.underlying3
  a3 := Tryz.isAgg3
  z3 := Tryz.sizeOf3
  v3 := Tryz.zeroValue3
  t4 := Tryz.underlying4
  a4 := Tryz.isAgg4
  z4 := Tryz.sizeOf4
  v4 := Tryz.zeroValue4
  t22 := Tryz.underlying53
  a22 := Tryz.isAgg53
  z22 := Tryz.sizeOf53
  v22 := Tryz.zeroValue53
  i3 := by kernel_rfl }
open Go.RowKit Go.Lib Go.Sort in
theorem Tryz.slices_Compact_int (blk off cap : Nat) (zs : List Int) (w : World) (hH : Holds (Value.int .i64) w blk off zs.toArray) (hsz : zs.length ≤ 9223372036854775807) (hcap : zs.length ≤ cap) :
    Calls Tryz.prog 71 #[.slice (some ⟨blk, off, none⟩) zs.length cap] w fun e w' => e = .returned (.slice (some ⟨blk, off, none⟩) (Lib.compact zs).length cap) ∧ ∃ q, w' = putRow (Value.int .i64) (Sort.ahead w q) blk off (Lib.compact zs ++ List.replicate (zs.length - (Lib.compact zs).length) 0).toArray := Any.slices_Compact_int Tryz.laysNm220 blk off cap zs w hH hsz hcap
open Go.RowKit Go.Lib Go.Sort in
theorem Tryz.slices_Compact_int_empty (a : Option Addr) (cap : Nat) (w : World) :
    Calls Tryz.prog 71 #[.slice a 0 cap] w fun e w' => e = .returned (.slice a 0 cap) ∧ w' = w := Any.slices_Compact_int_empty Tryz.laysNm220 a cap w
def Tryz.laysNm237_ren : Go.Shelf.Ren := ⟨fun | 37 => 164 | n => n, fun | 3 => 3 | 4 => 4 | n => n, fun | n => n⟩
def Tryz.laysNm231_ren : Go.Shelf.Ren := ⟨fun | 31 => 171 | 37 => 164 | n => n, fun | 3 => 3 | 4 => 4 | n => n, fun | n => n⟩
open Go.RowKit Go.Sort in
theorem Tryz.slices_Sort_int_none (p : Option Addr) (cap : Nat) (w : World) :
    Calls Tryz.prog 70 #[.slice p 0 cap] w fun e w' => e = .returned (.tuple #[]) ∧ w' = w := Any.slices_Sort_int_none Tryz.lays189 p cap w
def Tryz.laysSlN29_f203_ren : Go.Shelf.Ren := ⟨fun | 29 => 203 | n => n, fun | 22 => 58 | 23 => 2 | 3 => 3 | 0 => 0 | 4 => 4 | n => n, fun | n => n⟩
def Tryz.laysSlN31_f200_ren : Go.Shelf.Ren := ⟨fun | 31 => 200 | 29 => 203 | n => n, fun | 22 => 58 | 23 => 2 | 4 => 4 | 3 => 3 | 0 => 0 | n => n, fun | n => n⟩
def Tryz.laysSlN41_f115_ren : Go.Shelf.Ren := ⟨fun | 41 => 115 | n => n, fun | 22 => 58 | 23 => 2 | 4 => 4 | n => n, fun | n => n⟩
def Tryz.laysSlE041_f69_ren : Go.Shelf.Ren := ⟨fun | 41 => 69 | n => n, fun | 22 => 53 | 23 => 3 | 4 => 4 | n => n, fun | n => n⟩
def Tryz.laysSlE041_f115_ren : Go.Shelf.Ren := ⟨fun | 41 => 115 | n => n, fun | 22 => 58 | 23 => 2 | 4 => 4 | n => n, fun | n => n⟩
def Tryz.laysSlE041_f127_ren : Go.Shelf.Ren := ⟨fun | 41 => 127 | n => n, fun | 22 => 68 | 23 => 9 | 4 => 4 | n => n, fun | n => n⟩
end
end Go.Proofs
namespace Go.Proofs.YtfpmgpblhhcpgaaGreat
set_option linter.unusedVariables false
set_option linter.unusedSimpArgs false
set_option maxRecDepth 100000
section
open Hc Go.RowKit Go.Lib Go.Sort
variable {H : Heap}
theorem lib_call {f : FuncId} {args : List Value} {r : RTy} {k : r.den → Heap → Prop} {post : World → Ending → World → Prop} (hcb : Cb Pg f) (h : ∀ w, w.heap = H → Calls Pg f ⟨args⟩ w (post w))
    (hp : ∀ w e w', w.heap = H → post w e w' → SameEnv w w' ∧ ∃ d, e = .returned (r.emb d) ∧ k d w'.heap) : CallT Pg f args r H k :=
  ⟨hcb, fun w hw => (h w hw).mono fun e w' h => hp w e w' hw h⟩
theorem cb_Sort : Cb Pg fQav := ⟨_, Tryz.func70, by kernel_rfl, by kernel_rfl⟩
theorem cb_Compact : Cb Pg fQaw := ⟨_, Tryz.func71, by kernel_rfl, by kernel_rfl⟩
theorem holds_row {w : World} (hw : w.heap = H) {b : Nat} {T : TypeId} {zs : List Int} {sp : List Value} (hr : Row H b T (ints zs ++ sp)) : Holds (Value.int .i64) w b 0 zs.toArray := fun j hj => by
  have hj' : j < zs.length := by simpa using hj
  have hb : w.heap[b]? = some (.cells ⟨ints zs ++ sp⟩ T (0, 0)) := by rw [hw]; exact hr
  constructor
  · simp only [World.cell?, hb]
    simp [List.getElem?_append_left, hj']
  · simp only [World.frozen?, hb]
    simp
theorem putRow_heap {w : World} (hw : w.heap = H) {b : Nat} {T : TypeId} {zs ys : List Int} {sp : List Value} (hr : Row H b T (ints zs ++ sp)) (hl : ys.length = zs.length) {n : Nat} {os : Array Obj} :
    Upd (· = b) H (grow (putRow (Value.int .i64) (Sort.ahead w n) b 0 ys.toArray) os).heap ∧ Row (grow (putRow (Value.int .i64) (Sort.ahead w n) b 0 ys.toArray) os).heap b T (ints ys ++ sp) := by
  have hb : w.heap[b]? = some (.cells ⟨ints zs ++ sp⟩ T (0, 0)) := by rw [hw]; exact hr
  have hlt : b < w.heap.size := lt_of_get hb
  constructor
  · refine ⟨?_, fun c hc hn => ?_⟩
    · simp [grow, putRow, mapBlock, Sort.ahead, ← hw]
    · simp only [grow, putRow, mapBlock, Sort.ahead]
      rw [← hw] at hc ⊢
      rw [Array.getElem?_append_left (by simpa using hc), Array.getElem?_modify, if_neg (fun e => hn e.symm)]
  · unfold Row
    simp only [grow, putRow, mapBlock, Sort.ahead]
    rw [Array.getElem?_append_left (by simpa using hlt), Array.getElem?_modify, if_pos rfl, hb]
    simp only [Option.map_some, onCells]
    congr 2
    apply Array.ext_getElem?
    intro j
    simp only [putCells, Array.getElem?_mapIdx]
    rcases Nat.lt_or_ge j ys.length with hj | hj
    · have e1 : (⟨ints zs ++ sp⟩ : Array Value)[j]? = some (.int .i64 zs[j]!) := by
        simp [List.getElem?_append_left, show j < zs.length by omega]
      have e2 : (⟨ints ys ++ sp⟩ : Array Value)[j]? = some (.int .i64 ys[j]!) := by
        simp [List.getElem?_append_left, hj]
      rw [e1, e2]
      simp [hj]
    · have e1 : (⟨ints zs ++ sp⟩ : Array Value)[j]? = (⟨ints ys ++ sp⟩ : Array Value)[j]? := by
        simp [List.getElem?_append_right, hl, show zs.length ≤ j by omega]
      rw [e1]
      cases (⟨ints ys ++ sp⟩ : Array Value)[j]? with
      | none => rfl
      | some v => simp; omega
theorem s_sortI {s : Sl} {zs : List Int} (hv : Vec H TQap s (ints zs)) (hl : zs.length < 2 ^ 60) {k : Unit → Heap → Prop} (hk : ∀ H', Upd (fun b => s.a = some (adr b)) H H' → Vec H' TQap s (ints (zs.mergeSort fun x y => decide (x ≤ y))) → k () H') :
    CallT Pg fQav [.slice s.a s.len s.cap] (.tup []) H k := by
  have hlen := hv.len
  rw [List.length_map] at hlen
  have hp := (List.mergeSort_perm zs fun x y => decide (x ≤ y)).length_eq
  rcases hv.own with ⟨h1, h2, h3⟩ | ⟨b, sp, h1, h2, h3⟩
  · have e : zs = [] := List.map_eq_nil_iff.1 h3
    subst e
    rw [h1, hlen]
    refine lib_call cb_Sort (fun w hw => Tryz.slices_Sort_int_none none s.cap w) fun w e w' hw ⟨he, hw'⟩ => ?_
    subst hw'
    exact ⟨⟨rfl, rfl, rfl⟩, (), he, by rw [hw]; exact hk _ (.refl _ _) (by simpa using hv)⟩
  · rw [h1, hlen]
    refine lib_call cb_Sort (fun w hw => Tryz.slices_Sort_int b 0 s.cap zs w (holds_row hw h2) (by rw [hw]; exact h2.lt) (by omega)) fun w e w' hw ⟨he, n, os, hw'⟩ => ?_
    have := putRow_heap hw h2 hp (n := n) (os := os)
    subst hw'
    refine ⟨⟨rfl, rfl, rfl⟩, (), he, hk _ (this.1.mono fun _ _ e => e ▸ h1) ⟨by simp [hlen, hp], .inr ⟨b, sp, h1, this.2, by simp only [List.length_map] at h3 ⊢; omega⟩, hv.lc⟩⟩
theorem compact_le (zs : List Int) : (Lib.compact zs).length ≤ zs.length := Lib.compact_length_le zs
theorem s_compactI {s : Sl} {zs : List Int} (hv : Vec H TQap s (ints zs)) (hl : zs.length < 2 ^ 60) {k : Sl → Heap → Prop} (hk : ∀ H', Upd (fun b => s.a = some (adr b)) H H' → Vec H' TQap ⟨s.a, (Lib.compact zs).length, s.cap⟩ (ints (Lib.compact zs)) → k ⟨s.a, (Lib.compact zs).length, s.cap⟩ H') :
    CallT Pg fQaw [.slice s.a s.len s.cap] (.one (.c .sl)) H k := by
  have hlen := hv.len
  rw [List.length_map] at hlen
  have hlc := hv.lc
  rcases hv.own with ⟨h1, h2, h3⟩ | ⟨b, sp, h1, h2, h3⟩
  · have e : zs = [] := List.map_eq_nil_iff.1 h3
    subst e
    rw [h1, hlen]
    refine lib_call cb_Compact (fun w hw => Tryz.slices_Compact_int_empty none s.cap w) fun w e w' hw ⟨he, hw'⟩ => ?_
    subst hw'
    have e0 : Lib.compact ([] : List Int) = [] := rfl
    rw [e0] at hk
    have := hk H (.refl _ _) ⟨rfl, .inl ⟨h1, h2, rfl⟩, Nat.zero_le _⟩
    rw [h1] at this
    exact ⟨⟨rfl, rfl, rfl⟩, ⟨none, 0, s.cap⟩, he, by rw [hw]; exact this⟩
  · rw [h1, hlen]
    have hc := compact_le zs
    refine lib_call cb_Compact (fun w hw => Tryz.slices_Compact_int b 0 s.cap zs w (holds_row hw h2) (by omega) (by omega)) fun w e w' hw ⟨he, n, hw'⟩ => ?_
    have hll : (Lib.compact zs ++ List.replicate (zs.length - (Lib.compact zs).length) 0).length = zs.length := by simp; omega
    have := putRow_heap hw h2 hll (n := n) (os := #[])
    have eg : ∀ w : World, grow w #[] = w := fun w => by simp [grow]
    rw [eg] at this
    subst hw'
    have hk := hk _ (this.1.mono fun _ _ e => e ▸ h1) ⟨by simp, .inr ⟨b, ints (List.replicate (zs.length - (Lib.compact zs).length) 0) ++ sp, h1, by simpa [ints] using this.2, ?_⟩, by dsimp only; omega⟩
    · rw [h1] at hk
      exact ⟨⟨rfl, rfl, rfl⟩, ⟨some (adr b), (Lib.compact zs).length, s.cap⟩, he, hk⟩
    · simp only [List.length_map, List.length_append, List.length_replicate] at h3 ⊢
      omega
end
end Go.Proofs.YtfpmgpblhhcpgaaGreat
namespace Go.Proofs.YtfpmgpblhhcpgaaGreat.Hc
set_option linter.unusedVariables false
set_option linter.unusedSimpArgs false
set_option maxRecDepth 100000
section
open Go Go.Lib
theorem compactUp_ok {zs : List Int} (hs : zs.Pairwise (· ≤ ·)) : ∀ {m : Nat}, m ≤ zs.length → (compactUpTo zs.toArray m).Pairwise (· < ·) ∧ (∀ x ∈ compactUpTo zs.toArray m, ∃ j, j < m ∧ x = zs[j]!) ∧ ∀ j, j < m → zs[j]! ∈ compactUpTo zs.toArray m
  | 0, _ => ⟨by simp [compactUpTo], fun x hx => by simp [compactUpTo] at hx, fun j hj => by omega⟩
  | m + 1, hm => by
    obtain ⟨h1, h2, h3⟩ := compactUp_ok hs (m := m) (by omega)
    have hg : zs.toArray[m]! = zs[m]! := by simp
    rw [compactUpTo_succ, hg]
    have mono : ∀ i j, i ≤ j → j < zs.length → zs[i]! ≤ zs[j]! := fun i j hij hj => by
      rw [getElem!_pos zs i (by omega), getElem!_pos zs j hj]
      rcases Nat.lt_or_ge i j with h | h
      · exact List.pairwise_iff_getElem.1 hs i j (by omega) hj h
      · have : i = j := by omega
        subst this; exact Int.le_refl _
    by_cases hk : keeps zs.toArray m = true
    · rw [if_pos hk]
      refine ⟨?_, fun x hx => ?_, fun j hj => ?_⟩
      · rw [List.pairwise_append]
        refine ⟨h1, List.pairwise_singleton _ _, fun x hx y hy => ?_⟩
        rw [List.mem_singleton.1 hy]
        obtain ⟨j, hj, rfl⟩ := h2 x hx
        have a := mono j (m - 1) (by omega) (by omega)
        have b := mono (m - 1) m (by omega) (by omega)
        unfold keeps at hk
        have hne : zs[m]! ≠ zs[m - 1]! := by
          simp at hk
          rcases hk with e | e
          · omega
          · simpa using e
        omega
      · rcases List.mem_append.1 hx with hx | hx
        · obtain ⟨j, hj, e⟩ := h2 x hx; exact ⟨j, by omega, e⟩
        · exact ⟨m, by omega, List.mem_singleton.1 hx⟩
      · rcases Nat.lt_or_ge j m with h | h
        · exact List.mem_append_left _ (h3 j h)
        · have : j = m := by omega
          subst this; exact List.mem_append_right _ (by simp)
    · rw [if_neg hk, List.append_nil]
      refine ⟨h1, fun x hx => ?_, fun j hj => ?_⟩
      · obtain ⟨j, hj, e⟩ := h2 x hx; exact ⟨j, by omega, e⟩
      · rcases Nat.lt_or_ge j m with h | h
        · exact h3 j h
        · have : j = m := by omega
          subst this
          unfold keeps at hk
          simp at hk
          have := h3 (j - 1) (by omega)
          have e : zs[j]! = zs[j - 1]! := by simpa using hk.2
          rw [e]; exact this
theorem sortU_ok (ws : List Int) : (compact (ws.mergeSort fun a b => decide (a ≤ b))).Pairwise (· < ·) ∧ ∀ x, x ∈ compact (ws.mergeSort fun a b => decide (a ≤ b)) ↔ x ∈ ws := by
  have hs : (ws.mergeSort fun a b => decide (a ≤ b)).Pairwise (· ≤ ·) := by
    have := List.pairwise_mergeSort (le := fun a b : Int => decide (a ≤ b)) (fun a b c h1 h2 => by simp at *; omega) (fun a b => by simp; omega) ws
    exact this.imp fun h => by simpa using h
  have hp := List.mergeSort_perm ws fun a b => decide (a ≤ b)
  obtain ⟨h1, h2, h3⟩ := compactUp_ok hs (Nat.le_refl _)
  refine ⟨h1, fun x => ⟨fun hx => ?_, fun hx => ?_⟩⟩
  · obtain ⟨j, hj, e⟩ := h2 x hx
    rw [e, getElem!_pos _ j hj]
    exact hp.subset (List.getElem_mem hj)
  · obtain ⟨j, hj, e⟩ := List.getElem_of_mem (hp.symm.subset hx)
    have := h3 j hj
    rw [getElem!_pos _ j hj, e] at this
    exact this
end
end Go.Proofs.YtfpmgpblhhcpgaaGreat.Hc
namespace Go.Proofs.YtfpmgpblhhcpgaaGreat
set_option linter.unusedVariables false
set_option linter.unusedSimpArgs false
set_option maxRecDepth 100000
section
open Hc Hc.Vf Hc.Mc Hc.Dice
variable {H : Heap}
theorem s_cloneI {s : Sl} {xs : List Int} (hr : RL (Value.int .i64) H s xs) (hb : xs.length ≤ 2 ^ 44) {k : Sl → Heap → Prop}
    (hk : ∀ r H', Ext H H' → Vec H' TQap r (ints xs) → (∀ b, r.a = some (adr b) → H.size ≤ b) → k r H') : CallT Pg fQau [.slice s.a s.len s.cap] (.one (.c .sl)) H k := by
  refine cQau _ ?_
  unfold vQau
  have hl := hr.len
  have hrd := hr.rd
  cases ha : s.a with
  | none =>
    rw [ha] at hrd
    have e : xs = [] := List.map_eq_nil_iff.1 hrd
    subst e
    exact hk ⟨none, 0, 0⟩ H (.refl _ _) (Vec.nil _ _) fun b hb => by cases hb
  | some a =>
    simp only [Option.isNone_some, Br_false]
    refine Nw_row (vs := []) fun b1 H1 hb1 hE1 hz1 hr1 => ?_
    have hv : Vec H1 TQap ⟨some (adr b1), 0, 0⟩ [] := ⟨rfl, .inr ⟨b1, [], rfl, hr1, Nat.le_refl _⟩, Nat.le_refl _⟩
    refine App_vec2 (ws := ints xs) hv (rdL_ext hE1 hrd) (by simp [hl]) (fun w hw => by obtain ⟨x, _, rfl⟩ := List.mem_map.1 hw; rfl) (by decide) (by simp; omega) fun s' H2 hv2 hU2 ha2 hz2 => ?_
    refine hk _ _ (extUpd (b := b1) hE1 (by omega) (hU2.mono fun b _ e => ?_)) (by simpa using hv2) fun b hb => ?_
    · have := e.1; cases this; rfl
    · rcases ha2 with ⟨e, _⟩ | e
      · rw [e] at hb; cases hb; omega
      · rw [e] at hb; cases hb; have := hE1.size; omega
def partsOf (es : List PtP) (ks : List Int) : List PtP := ks.filterMap fun k => es.find? fun q => q.kind == k
theorem find_nodup : ∀ {es : List PtP}, (es.map PtP.kind).Nodup → ∀ {j : Nat} (h : j < es.length), es.find? (fun q => q.kind == es[j].kind) = some es[j]
  | x :: r, _, 0, _ => by simp
  | x :: r, hn, j + 1, h => by
    simp only [List.map_cons, List.nodup_cons] at hn
    have hj : j < r.length := by simpa using h
    have hne : (x.kind == r[j].kind) = false := beq_eq_false_iff_ne.2 fun e => hn.1 (List.mem_map.2 ⟨r[j], List.getElem_mem hj, e.symm⟩)
    simp only [List.getElem_cons_succ, List.find?_cons, hne]
    exact find_nodup hn.2 hj
theorem find_none {es : List PtP} {k : Int} (h : lookV (es.map PtP.pt) k = none) : es.find? (fun q => q.kind == k) = none := by
  unfold lookV at h
  rw [Option.map_eq_none_iff, List.find?_map, Option.map_eq_none_iff] at h
  exact h
theorem partsOf_le {es : List PtP} {ks : List Int} (hk : ks.Nodup) : (partsOf es ks).length ≤ es.length := by
  have h1 : ∀ ks : List Int, ((partsOf es ks).map PtP.kind).Sublist ks := by
    intro ks
    induction ks with
    | nil => exact .slnil
    | cons k ks ih =>
      unfold partsOf
      rw [List.filterMap_cons]
      cases hf : es.find? fun q => q.kind == k with
      | none => exact .cons _ ih
      | some q =>
        have : q.kind = k := by have := List.find?_some hf; simpa using this
        simp only [List.map_cons, this]
        exact .cons_cons _ ih
  have h2 := ((h1 ks).nodup hk).length_le_of_subset (l₂ := es.map PtP.kind) fun u hu => by
    obtain ⟨q, hq, rfl⟩ := List.mem_map.1 hu
    obtain ⟨k, _, hk⟩ := List.mem_filterMap.1 hq
    exact List.mem_map.2 ⟨q, List.mem_of_find?_eq_some hk, rfl⟩
  simpa using h2
theorem s_written {H0 : Heap} {x : MG} {fs : List Rou} {ins : List (Int × Int × Int)} (h : MacR H0 H x) (hc : CtxR H0 x.g.pF x.g.s x.g.inS fs ins) (hwl : (x.g.s.l 3).length ≤ 2 ^ 44) (hel : x.es.length ≤ 2 ^ 42) {k : Sl → Heap → Prop}
    (hk : ∀ r H', Ext H H' → VecN H' TQai 2 r ((partsOf x.es (Lib.compact ((x.g.s.l 3).mergeSort fun a b => decide (a ≤ b)))).flatMap ptV) → (∀ b, r.a = some (adr b) → H.size ≤ b) → k r H') :
    CallT Pg fQaf [.pointer (some (adr x.b))] (.one (.c .sl)) H k := by
  refine cQaf _ ?_
  unfold vQaf
  simp only [NilCk_some, adr_add, mk_add]
  refine Ld_sl (s := x.g.s.s 3) ((h.run.1.cell 5).trans rfl) (s_cloneI ((hc.sets 3 (by decide)).ext h.base) (by omega) fun r1 H1 hE1 hv1 hf1 => ?_)
  obtain ⟨hu1, _⟩ := sortU_ok (x.g.s.l 3)
  have hun : ∀ n, ((Lib.compact ((x.g.s.l 3).mergeSort fun a b => decide (a ≤ b))).take n).Nodup := fun n => (hu1.imp fun {a b} h => (show a ≠ b by omega) : List.Nodup _).sublist (List.take_sublist n _)
  clear hu1
  generalize hws : x.g.s.l 3 = ws at *
  have hml := (List.mergeSort_perm ws fun a b => decide (a ≤ b)).length_eq
  refine s_sortI hv1 (by omega) fun H2 hU2 hv2 => ?_
  generalize ws.mergeSort (fun a b => decide (a ≤ b)) = ms at *
  have hE2 : Ext H H2 := hE1.trans hU2 fun b hb e => by have := hf1 b e; omega
  refine s_compactI hv2 (by omega) fun H3 hU3 hv3 => ?_
  have hcl := Lib.compact_length_le ms
  generalize Lib.compact ms = cs at *
  have hE3 : Ext H H3 := hE2.trans hU3 fun b hb e => by have := hf1 b e; omega
  refine LoopT.mk (fun s H' => ∃ n : Nat, s.2 = n ∧ n ≤ cs.length ∧ Ext H H' ∧ Vec H' TQap ⟨r1.a, cs.length, r1.cap⟩ (ints cs) ∧ VecN H' TQai 2 s.1 ((partsOf x.es (cs.take n)).flatMap ptV) ∧ ∀ b, s.1.a = some (adr b) → H.size ≤ b)
    (fun s _ => cs.length - s.2.toNat) ⟨0, rfl, Nat.zero_le _, hE3, hv3, VecN.nil _ _ _, fun b hb => by cases hb⟩ ?_
  rintro next ⟨out, i⟩ H4 ⟨n, hi, hn, hE4, hv4, ho4, hf4⟩ hnext
  dsimp only at hi ho4 hf4 hnext ⊢
  subst hi
  have h4 := h.ext hE4
  refine Br_dec (fun hlt => ?_) fun hge => ?_
  · have hn2 : n < cs.length := by omega
    have htk : cs.take (n + 1) = cs.take n ++ [cs[n]] := by rw [List.take_add_one, List.getElem?_eq_getElem hn2]; rfl
    have hpl := partsOf_le (es := x.es) (hun n)
    simp only [Jn]
    refine IxA_vec hv4 (by omega) (by simp; omega) fun a2 ha2 _ => Ld_int (n := cs[n]) (ha2.trans (by rw [Int.toNat_natCast, ints, List.getElem?_map, List.getElem?_eq_getElem hn2]; rfl)) ?_
    refine ⟨.map (some x.g.mp), (h4.run.1.cell 18).trans rfl, MpL_es h4.map.1 (fun j hj hkd hl _ => ?_) fun hl => ?_⟩
    · have hfd := find_nodup h.esK hj
      rw [hkd] at hfd
      have hpo : partsOf x.es (cs.take (n + 1)) = partsOf x.es (cs.take n) ++ [x.es[j]] := by
        rw [htk]; unfold partsOf; rw [List.filterMap_append]; simp [hfd]
      rw [Br_true]
      have ept : ptV x.es[j] = [.int .i64 cs[n], slV x.es[j].sl] := by rw [← hkd]
      refine Nw_row (vs := [.int .i64 cs[n], slV x.es[j].sl]) fun b1 H5 hb1 hE5 hz5 hr5 => ?_
      rw [← ept] at hr5
      have hov := ho4.ext hE5
      have hol := hov.len
      rw [flat_len ptV_len] at hol
      refine App_vecN (ws := ptV x.es[j]) rfl (by decide) hov hr5.rd_all rfl (fun w hw => ?_) (by decide) (by dsimp only; omega) fun l1 H6 hv6 hl6 hU6 ha6 => ?_
      · simp only [ptV, List.mem_cons, List.not_mem_nil, or_false] at hw
        rcases hw with rfl | rfl <;> rfl
      have hE6 : Ext H H6 := (hE4.trans hE5 fun _ _ h => h).trans hU6 fun b hb e => by have := hf4 b e.1; omega
      have hv46 := (hv4.ext hE5).upd hU6 fun b hb e => hov.apV (hv4.ext hE5) (by decide) e.1 hb
      refine Lt.mk (u := ((n + 1 : Nat) : Int)) (by rw [wrap_i64_id (by omega) (by omega)]; omega) (hnext _ _ ⟨n + 1, rfl, hn2, hE6, hv46, ?_, fun b hb => ?_⟩ (by dsimp only; omega))
      · rw [hpo, List.flatMap_append]; simpa using hv6
      · dsimp only at hb
        rcases ha6 with ⟨e, _⟩ | e
        · rw [e] at hb; exact hf4 b hb
        · rw [e] at hb; cases hb; have := hE4.size; have := hE5.size; omega
    · rw [Br_false]
      refine Lt.mk (u := ((n + 1 : Nat) : Int)) (by rw [wrap_i64_id (by omega) (by omega)]; omega) (hnext _ _ ⟨n + 1, rfl, hn2, hE4, hv4, ?_, hf4⟩ (by dsimp only; omega))
      have hpo : partsOf x.es (cs.take (n + 1)) = partsOf x.es (cs.take n) := by
        rw [htk]; unfold partsOf; rw [List.filterMap_append]; simp [find_none hl]
      rw [hpo]; exact ho4
  · have : n = cs.length := by omega
    subst this
    rw [List.take_length] at ho4
    exact hk out H4 hE4 ho4 hf4
end
section
open Hc Hc.Vf Hc.Mc Hc.Dice
variable {H : Heap}
def addF (l : List Pt) (p : Pt) : List Pt := if lookV l p.kind = none then l ++ [p] else l
def firsts (l : List Pt) : List Pt := l.foldl addF []
theorem firsts_snoc (l : List Pt) (p : Pt) : firsts (l ++ [p]) = addF (firsts l) p := by unfold firsts; rw [List.foldl_append]; rfl
theorem lookV_app (l r : List Pt) (k : Int) : lookV (l ++ r) k = (lookV l k).or (lookV r k) := by
  unfold lookV
  rw [List.find?_append]
  cases l.find? fun p => p.kind == k <;> simp
theorem look_addF (l : List Pt) (p : Pt) (k : Int) : lookV (addF l p) k = (lookV l k).or (lookV [p] k) := by
  unfold addF
  split
  · rw [lookV_app]
  · rename_i h
    by_cases e : p.kind = k
    · rw [e] at h
      cases hl : lookV l k with
      | none => exact absurd hl h
      | some v => rfl
    · have e0 : lookV [p] k = none := by unfold lookV; simp [e]
      rw [e0]; cases lookV l k <;> rfl
theorem look_fold (k : Int) : ∀ (l acc : List Pt), lookV (l.foldl addF acc) k = (lookV acc k).or (lookV l k)
  | [], acc => by have : lookV [] k = none := rfl
                  rw [this, List.foldl_nil]; cases lookV acc k <;> rfl
  | p :: l, acc => by
    rw [List.foldl_cons, look_fold k l, look_addF, Option.or_assoc, ← lookV_app]; rfl
theorem look_firsts (l : List Pt) (k : Int) : lookV (firsts l) k = lookV l k := by
  unfold firsts
  rw [look_fold]; rfl
structure EsR (lo : Nat) (H : Heap) (mp : Nat) (es : List PtP) : Prop where
  map : H[mp]? = some (.map ⟨mapEnts 0 es⟩ es.length)
  mlo : lo ≤ mp
  esR : ∀ q ∈ es, Vec H TQaq q.sl (ints q.vals)
  eslo : ∀ q ∈ es, ∀ b, q.sl.a = some (adr b) → lo ≤ b
  esA : es.Pairwise fun p q => Apart p.sl q.sl
  esK : (es.map PtP.kind).Nodup
theorem mapEnts_snoc : ∀ (n : Nat) (es : List PtP) (q : PtP), mapEnts n (es ++ [q]) = mapEnts n es ++ [{ key := .int .i64 q.kind, val := slV q.sl, born := n + es.length }]
  | n, [], q => by simp [mapEnts]
  | n, x :: r, q => by
    simp only [List.cons_append, mapEnts, mapEnts_snoc (n + 1) r q, List.length_cons]
    congr 4
    omega
theorem MpU_es {lo : Nat} {mp : Nat} {es : List PtP} (h : EsR lo H mp es) {q : PtP} (hno : lookV (es.map PtP.pt) q.kind = none) (hq : Vec H TQaq q.sl (ints q.vals)) (hql : ∀ b, q.sl.a = some (adr b) → lo ≤ b) (hqa : ∀ p ∈ es, Apart p.sl q.sl) {k : Heap → Prop}
    (hk : ∀ H', Upd (· = mp) H H' → EsR lo H' mp (es ++ [q]) → k H') : MpU (.int .i64) (.map (some mp)) (.int .i64 q.kind) (.slice q.sl.a q.sl.len q.sl.cap) H k := by
  have hnone : Instr.findNow (.int .i64) (.int .i64 q.kind) (mapEnts 0 es) 0 = some none ∧ ∀ p ∈ es, p.kind ≠ q.kind := by
    rcases mapEnts_find (key := q.kind) (es := es) (n := 0) (i := 0) with ⟨j, hj, _, _, g3, _⟩ | ⟨g1, _, g3⟩
    · rw [hno] at g3; cases g3
    · exact ⟨g1, g3⟩
  have hU : Upd (· = mp) H (H.setIfInBounds mp (.map ((⟨mapEnts 0 es⟩ : Array MapEntry).push { key := .int .i64 q.kind, val := .slice q.sl.a q.sl.len q.sl.cap, born := es.length }) (es.length + 1))) := by
    refine ⟨by simp, fun b hb hn => ?_⟩
    simp only [Array.getElem?_setIfInBounds]; rw [if_neg (fun e => hn e.symm)]
  have hvne : ∀ {s : Sl} {vs : List Value}, Vec H TQaq s vs → ∀ b, s.a = some (adr b) → ¬ b = mp := fun {s vs} hv b hb e => by
    rcases hv.own with ⟨h1, _⟩ | ⟨c, sp, h1, h2, _⟩
    · rw [h1] at hb; cases hb
    · rw [h1] at hb; cases hb
      have := h.map
      rw [← e] at this
      unfold Row at h2
      rw [h2] at this; cases this
  refine ⟨mp, _, _, rfl, h.map, .inr ⟨hnone.1, hk _ hU ⟨?_, h.mlo, fun p hp => ?_, fun p hp => ?_, ?_, ?_⟩⟩⟩
  · have := lt_of_get h.map
    simp only [Array.getElem?_setIfInBounds, this, if_true]
    rw [mapEnts_snoc]
    simp
  · rcases List.mem_append.1 hp with hp | hp
    · exact (h.esR p hp).upd hU (hvne (h.esR p hp))
    · rw [List.mem_singleton.1 hp]; exact hq.upd hU (hvne hq)
  · rcases List.mem_append.1 hp with hp | hp
    · exact h.eslo p hp
    · rw [List.mem_singleton.1 hp]; exact hql
  · rw [List.pairwise_append]
    exact ⟨h.esA, List.pairwise_singleton _ _, fun p hp r hr => by rw [List.mem_singleton.1 hr]; exact hqa p hp⟩
  · rw [List.map_append, List.map_cons, List.map_nil, List.nodup_append]
    refine ⟨h.esK, by simp, fun a ha b hb => ?_⟩
    obtain ⟨p, hp, rfl⟩ := List.mem_map.1 ha
    rw [List.mem_singleton.1 hb]
    exact hnone.2 p hp
end
section
open Hc Hc.Vf Hc.Mc Hc.Dice
variable {H : Heap}
theorem fill_step {H3 : Heap} {b mp : Nat} {g : RunG} {es : List PtP} (hmp : g.mp = mp) (hE : Ext H3 H) (he : EsR H3.size H mp es) (hr : Row H b TQat (runV g)) (hb : H3.size ≤ b) {q : PtP} (hq : RL (Value.int .i64) H3 q.sl q.vals) (hql : q.vals.length ≤ 2 ^ 44) {b5 : Nat} (h5 : Row H b5 TQai (ptV q)) (hb5 : H3.size ≤ b5) {k : Heap → Prop}
    (hk : ∀ H' es', Upd (· = mp) H H' → EsR H3.size H' mp es' → es'.map PtP.pt = addF (es.map PtP.pt) q.pt → k H') :
    Ld .raw ⟨b, 18, none⟩ H fun (x7 : Value) => Ld (.int .i64) (adr b5) H fun (x8 : Int) => MpL (.int .i64) (.c .sl) ⟨none, 0, 0⟩ x7 (.int .i64 x8) H fun (x9 : Sl) e1 =>
      Br (!e1) (Ld .raw ⟨b, 18, none⟩ H fun (x10 : Value) => Ld (.int .i64) (adr b5) H fun (x11 : Int) => Ld .sl ⟨b5, 1, none⟩ H fun (x12 : Sl) => Nw #[] TQaq H fun b6 H20 =>
        Stab [(⟨b5, 1, none⟩, .slice x12.a x12.len x12.cap), (adr b5, .int .i64 x11), (⟨b, 18, none⟩, x10)] H20 <|
        App TQaq 1 8 #[.int .i64 0] ⟨some (adr b6), 0, 0⟩ x12 H20 fun l1 H21 => Stab [(adr b5, .int .i64 x11), (⟨b, 18, none⟩, x10)] H21 <| MpU (.int .i64) x10 (.int .i64 x11) (.slice l1.a l1.len l1.cap) H21 fun H22 => k H22) (k H) := by
  have c18 : ∀ {H'}, Row H' b TQat (runV g) → hcell H' ⟨b, 18, none⟩ = some (.map (some mp)) := fun h => (h.cell 18).trans (by rw [← hmp]; rfl)
  refine ⟨.map (some mp), c18 hr, Ld_int (n := q.kind) ((h5.cell 0).trans rfl) (MpL_es he.map (fun j hj hkd hl _ => ?_) fun hl => ?_)⟩
  · refine hk H es (.refl _ _) he ?_
    unfold addF
    rw [if_neg (fun e => by rw [e] at hl; cases hl)]
  · refine ⟨.map (some mp), c18 hr, Ld_int (n := q.kind) ((h5.cell 0).trans rfl) (Ld_sl (s := q.sl) ((h5.cell 1).trans rfl) ?_)⟩
    refine Nw_row (vs := []) fun b6 H1 hb6 hE1 hz1 hr6 => ?_
    have hv6 : Vec H1 TQaq ⟨some (adr b6), 0, 0⟩ [] := ⟨rfl, .inr ⟨b6, [], rfl, hr6, Nat.le_refl _⟩, Nat.le_refl _⟩
    have h51 := hE1.row h5 fun h => h
    have hr1 := hE1.row hr fun h => h
    refine Stab_all (fun y hy => ?_) ?_
    · simp only [List.mem_cons, List.not_mem_nil, or_false] at hy
      rcases hy with rfl | rfl | rfl
      · exact (h51.cell 1).trans rfl
      · exact (h51.cell 0).trans rfl
      · exact c18 hr1
    refine App_vec2 (ws := ints q.vals) hv6 (rdL_ext (hE.trans hE1 fun _ _ h => h) hq.rd) (by rw [hq.len]; simp) (ints_one _) (by decide) (by simp; omega) fun l1 H2 hv2 hU2 ha2 hz2 => ?_
    have hlt5 := h5.lt
    have hltr := hr.lt
    have n5 : ¬ (∃ _ : Unit, b5 = b6) := fun ⟨_, e⟩ => by omega
    have h52 : Row H2 b5 TQai (ptV q) := hU2.row h51 fun e => by have := e.1; cases this; omega
    have hr2 : Row H2 b TQat (runV g) := hU2.row hr1 fun e => by have := e.1; cases this; omega
    refine Stab_2 ((h52.cell 0).trans rfl) (c18 hr2) ?_
    have hE02 : Ext H H2 := extUpd (b := b6) hE1 (by omega) (hU2.mono fun c _ e => by have := e.1; cases this; rfl)
    have hfr : ∀ c, l1.a = some (adr c) → H.size ≤ c := fun c hc => by
      rcases ha2 with ⟨e, _⟩ | e
      · rw [e] at hc; cases hc; omega
      · rw [e] at hc; cases hc; have := hE1.size; omega
    have he2 : EsR H3.size H2 mp es := ⟨hE02.keep he.map fun h => h, he.mlo, fun p hp => (he.esR p hp).ext hE02, he.eslo, he.esA, he.esK⟩
    refine MpU_es he2 (q := ⟨q.kind, l1, q.vals⟩) hl (by simpa using hv2) (fun c hc => by have := hfr c hc; have := hE.size; omega) (fun p hp c hc hc' => by have h1 := (he.esR p hp).lt hc; have h2 := hfr c hc'; omega) fun H' hU hes => ?_
    refine hk H' _ ((hE02.mono fun _ _ h => h.elim).trans hU fun _ _ e => e) hes ?_
    unfold addF
    rw [if_pos hl]
    simp
end
end Go.Proofs.YtfpmgpblhhcpgaaGreat
