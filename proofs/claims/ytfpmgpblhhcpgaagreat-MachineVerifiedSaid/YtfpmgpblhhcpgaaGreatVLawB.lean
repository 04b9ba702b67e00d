/-
  Machine: an Env with lists of its own.
-/
import Derived.Test.YtfpmgpblhhcpgaaGreatHcCopy
import Derived.Test.YtfpmgpblhhcpgaaGreatVC
import Derived.Test.YtfpmgpblhhcpgaaGreatHcDiceMath
import Derived.Test.YtfpmgpblhhcpgaaGreatHcLists
import Derived.KernelRfl
import Derived.Test.YtfpmgpblhhcpgaaGreatProg
namespace Go.Proofs.YtfpmgpblhhcpgaaGreat
set_option linter.unusedVariables false
set_option linter.unusedSimpArgs false
set_option maxRecDepth 100000
section
open Hc Hc.Vf Hc.Mc Hc.Dice
variable {H : Heap}
theorem inV_one (x : Int × Int × Int) : ∀ w ∈ inV x, w.oneCell' = true := fun w hw => by
  simp only [inV, List.mem_cons, List.not_mem_nil, or_false] at hw
  rcases hw with rfl | rfl | rfl <;> rfl
abbrev mkI : Int × Int × Int := (-7, 0, 0)
abbrev mkP : PtP := ⟨-7, ⟨none, 0, 0⟩, []⟩
abbrev markI (ins : List (Int × Int × Int)) : List (Int × Int × Int) := ins ++ List.replicate 80 mkI
abbrev markV (vs : List Int) : List Int := vs ++ List.replicate 80 (-7)
abbrev markP (qs : List PtP) : List PtP := qs ++ List.replicate 80 mkP
structure CpR (lo : Nat) (H : Heap) (bi bp : Nat) (ins : List (Int × Int × Int)) (qs : List PtP) : Prop where
  inp : Row H bi TQav ((markI ins).flatMap inV)
  prt : Row H bp TQai ((markP qs).flatMap ptV)
  vls : ∀ q ∈ qs, ∃ b, q.sl = ⟨some (adr b), q.vals.length, q.vals.length + 80⟩ ∧ Row H b TQaq (ints (markV q.vals)) ∧ lo ≤ b
  ap : qs.Pairwise fun p q => Apart p.sl q.sl
  bi : lo ≤ bi
  bp : lo ≤ bp
abbrev cpE (e : EnV) (bi bp n m : Nat) : EnV := { e with inS := ⟨some (adr bi), n, n + 80⟩, rp := ⟨some (adr bp), m, m + 80⟩ }
theorem CpR.upd {lo : Nat} {H' : Heap} {bi bp : Nat} {ins : List (Int × Int × Int)} {qs : List PtP} (h : CpR lo H bi bp ins qs) {M : Nat → Prop} (hU : Upd M H H') (hM : ∀ b, lo ≤ b → b < H.size → ¬ M b) : CpR lo H' bi bp ins qs :=
  ⟨hU.row h.inp (hM _ h.bi h.inp.lt), hU.row h.prt (hM _ h.bp h.prt.lt), fun q hq => by
    obtain ⟨b, h1, h2, h3⟩ := h.vls q hq
    exact ⟨b, h1, hU.row h2 (hM _ h3 h2.lt), h3⟩, h.ap, h.bi, h.bp⟩
theorem CpR.ext {lo : Nat} {H' : Heap} {bi bp : Nat} {ins : List (Int × Int × Int)} {qs : List PtP} (h : CpR lo H bi bp ins qs) (hE : Ext H H') : CpR lo H' bi bp ins qs := h.upd hE fun _ _ _ h => h
theorem CpR.rnI {lo : Nat} {bi bp : Nat} {ins : List (Int × Int × Int)} {qs : List PtP} (h : CpR lo H bi bp ins qs) : RN inV 3 H ⟨some (adr bi), ins.length, ins.length + 80⟩ ins := by
  have := h.inp
  rw [List.flatMap_append] at this
  exact ⟨this.rd, rfl, Nat.le_add_right _ _⟩
theorem CpR.rnP {lo : Nat} {bi bp : Nat} {ins : List (Int × Int × Int)} {qs : List PtP} (h : CpR lo H bi bp ins qs) : RN ptV 2 H ⟨some (adr bp), qs.length, qs.length + 80⟩ qs := by
  have := h.prt
  rw [List.flatMap_append] at this
  exact ⟨this.rd, rfl, Nat.le_add_right _ _⟩
theorem CpR.rlV {lo : Nat} {bi bp : Nat} {ins : List (Int × Int × Int)} {qs : List PtP} (h : CpR lo H bi bp ins qs) {q : PtP} (hq : q ∈ qs) : RL (Value.int .i64) H q.sl q.vals := by
  obtain ⟨b, h1, h2, _⟩ := h.vls q hq
  rw [h1]
  have h2 : Row H b TQaq (ints (q.vals ++ List.replicate 80 (-7))) := h2
  rw [ints, List.map_append] at h2
  exact ⟨h2.rd, rfl, Nat.le_add_right _ _⟩
theorem s_copied {e : EnV} {ins : List (Int × Int × Int)} {ps : List PtP} (hin : RN inV 3 H e.inS ins) (hps : RN ptV 2 H e.rp ps) (hpr : ∀ q ∈ ps, RL (Value.int .i64) H q.sl q.vals ∧ q.vals.length ≤ 2 ^ 44) (hil : ins.length ≤ 2 ^ 43) (hpl : ps.length ≤ 2 ^ 42)
    {k : Int × Int × Int × Sl × Int × Int × Sl → Heap → Prop}
    (hk : ∀ H' bi bp qs, Ext H H' → CpR H.size H' bi bp ins qs → qs.map PtP.pt = ps.map PtP.pt → k (e.fr, e.sd, e.en, ⟨some (adr bi), ins.length, ins.length + 80⟩, e.ix, e.gn, ⟨some (adr bp), ps.length, ps.length + 80⟩) H') :
    CallT Pg fQeo [envA e] EnvR H k := by
  refine cQeh (e.fr, e.sd, e.en, e.inS, e.ix, e.gn, e.rp) ?_
  unfold vQeh
  have hinl := hin.len
  have hpsl := hps.len
  refine Nw_row (vs := envL e) fun b1 H1 hb1 hE1 hz1 hr1 => ?_
  refine Nw_row (vs := [.int .i64 0, .int .i64 0, .int .i64 0, .slice none 0 0, .int .i64 0, .int .i64 0, .slice none 0 0]) fun b2 H2 hb2 hE2 hz2 hr2 => ?_
  have hE02 := hE1.trans hE2 fun _ _ h => h
  have hr1 := hE2.row hr1 fun h => h
  simp only [adr_add, mk_add]
  refine Ld_sl (s := e.inS) ((hr1.cell 3).trans rfl) (Lt.mk (u := ((ins.length + 80 : Nat) : Int)) (by rw [wrap_i64_id] <;> omega) ?_)
  refine Mks_rep (f := inV) (e := (0, 0, 0)) (m := ins.length + 80) rfl rfl (by omega) (by omega) fun bi H3 hbi hE3 hz3 hr3 => ?_
  have hE03 := hE02.trans hE3 fun _ _ h => h
  have hr1 := hE3.row hr1 fun h => h
  have hr2 := hE3.row hr2 fun h => h
  refine Ld_sl (s := e.inS) ((hr1.cell 3).trans rfl) ?_
  have e3 : (⟨some (adr bi), ins.length + 80, ins.length + 80⟩ : Sl) = ⟨some (adr bi), (List.replicate (ins.length + 80) ((0, 0, 0) : Int × Int × Int)).length, ins.length + 80⟩ := by rw [List.length_replicate]
  rw [e3]
  refine Cpy_rn inV_len inV_one hr3 (hin.ext hE03) (by rw [List.length_replicate]; omega) fun H4 hU4 hz4 hr4 => ?_
  rw [List.drop_replicate, show ins.length + 80 - ins.length = 80 by omega] at hr4
  rw [← e3]
  have hs03 := hE1.size
  have n1 : b1 ≠ bi := by omega
  have n2 : b2 ≠ bi := by omega
  have hr1 := hU4.row hr1 n1
  have hr2 := hU4.row hr2 n2
  refine Ld_sl (s := e.inS) ((hr1.cell 3).trans rfl) ?_
  have hE04 : Ext H H4 := extUpd hE03 (by omega) hU4
  have ht : (markI ins).length = ins.length + 80 := by rw [List.length_append, List.length_replicate]
  -- the inputs' marks
  refine LoopT.mk (fun s H' => ∃ (i : Nat) (ys : List (Int × Int × Int)), s = i ∧ ins.length ≤ i ∧ i ≤ ins.length + 80 ∧ Upd (· = bi) H4 H' ∧ H'.size = H4.size ∧ Row H' bi TQav (ys.flatMap inV) ∧ ys.length = ins.length + 80 ∧ ys.take i = (markI ins).take i) (fun s _ => ins.length + 80 - s.toNat)
    ⟨ins.length, _, by rw [hinl], Nat.le_refl _, by omega, .refl _ _, rfl, hr4, by rw [List.length_append, List.length_replicate], by rw [List.take_left, List.take_left]⟩ ?_
  rintro next _ H5 ⟨i, ys, rfl, hi1, hi2, hU5, hz5, hr5, hyl, hye⟩ hnext
  have r1 := hU5.row hr1 n1
  have r2 := hU5.row hr2 n2
  refine Br_dec (fun hlt => ?_) fun hge => ?_
  · have hi : i < ins.length + 80 := by first | omega | (dsimp only at hlt; omega)
    refine IxA_adr (by omega) (by first | omega | (dsimp only at hlt; omega)) ?_
    rw [Int.toNat_natCast]
    simp only [mk_add]
    have hfl : (ys.flatMap inV).length = ys.length * 3 := flat_len inV_len
    refine St_row hr5 (by rw [hfl]; omega) fun H6 hU6 hz6 hr6 => ?_
    rw [flat_set inV_len (e' := (-7, (ys[i]'(by omega)).2.1, (ys[i]'(by omega)).2.2)) (i := i) (o := 0) (by omega) (by decide) rfl] at hr6
    refine St_row hr6 (by rw [flat_len inV_len, List.length_set]; omega) fun H7 hU7 hz7 hr7 => ?_
    rw [flat_set inV_len (e' := (-7, 0, (ys[i]'(by omega)).2.2)) (i := i) (o := 1) (by rw [List.length_set]; omega) (by decide) (by rw [List.getElem_set_self]; rfl)] at hr7
    refine St_row hr7 (by rw [flat_len inV_len, List.length_set, List.length_set]; omega) fun H8 hU8 hz8 hr8 => ?_
    rw [flat_set inV_len (e' := mkI) (i := i) (o := 2) (by rw [List.length_set, List.length_set]; omega) (by decide) (by rw [List.getElem_set_self]; rfl)] at hr8
    rw [List.set_set, List.set_set] at hr8
    refine Lt.mk (u := ((i + 1 : Nat) : Int)) (by rw [wrap_i64_id] <;> omega) (hnext _ _ ⟨i + 1, _, rfl, by omega, by omega, ((hU5.trans hU6 fun _ _ e => e).trans hU7 fun _ _ e => e).trans hU8 fun _ _ e => e, by omega, hr8, by rw [List.length_set]; exact hyl, ?_⟩ (by omega))
    have e : (markI ins)[i]'(by omega) = mkI := by rw [List.getElem_append_right (by omega)]; exact List.getElem_replicate _
    have := fill_set (t := markI ins) (ys := ys) (i := i) (by omega) (by omega) hye
    rwa [e] at this
  have hi : i = ins.length + 80 := by first | omega | (dsimp only at hge; omega)
  rw [List.take_of_length_le (by omega), List.take_of_length_le (by omega)] at hye
  subst hye
  have hE05 : Ext H H5 := extUpd hE04 (by omega) hU5
  refine Ld_sl (s := e.rp) ((r1.cell 6).trans rfl) (Lt.mk (u := ((ps.length + 80 : Nat) : Int)) (by rw [wrap_i64_id] <;> omega) ?_)
  refine Mks_rep (f := ptV) (e := ⟨0, ⟨none, 0, 0⟩, []⟩) (m := ps.length + 80) rfl rfl (by omega) (by omega) fun bp H9 hbp hE9 hz9 hr9 => ?_
  have r1 := hE9.row r1 fun h => h
  have r2 := hE9.row r2 fun h => h
  have r5 := hE9.row hr5 fun h => h
  have hE09 : Ext H H9 := hE05.trans hE9 fun _ _ h => h
  have hs5 := hE05.size
  have m1 : b1 ≠ bp := by have := hr1.lt; omega
  have m2 : b2 ≠ bp := by have := hr2.lt; omega
  have m5 : bi ≠ bp := by have := hr5.lt; omega
  -- the parts
  refine LoopT.mk (fun s H' => ∃ (i : Nat) (qs ys : List PtP), s = i ∧ i ≤ ps.length + 80 ∧ Upd (· = bp) H9 H' ∧ Row H' bp TQai (ys.flatMap ptV) ∧ ys.length = ps.length + 80 ∧ ys.take i = qs ++ List.replicate (i - ps.length) mkP ∧ qs.length = min i ps.length ∧ qs.map PtP.pt = (ps.take i).map PtP.pt ∧
      (∀ q ∈ qs, ∃ b, q.sl = ⟨some (adr b), q.vals.length, q.vals.length + 80⟩ ∧ Row H' b TQaq (ints (markV q.vals)) ∧ H9.size ≤ b) ∧ qs.Pairwise fun p q => Apart p.sl q.sl) (fun s _ => ps.length + 80 - s.toNat)
    ⟨0, [], _, rfl, by omega, .refl _ _, hr9, by rw [List.length_replicate], by simp, by simp, by simp, (fun q hq => by cases hq), .nil⟩ ?_
  rintro next2 _ H10 ⟨i, qs, ys, rfl, hi1, hU10, hr10, hyl, hye, hql, hqm, hqv, hqa⟩ hnext2
  have q1 := hU10.row r1 m1
  have q2 := hU10.row r2 m2
  have q5 := hU10.row r5 m5
  have hE010 : Ext H H10 := extUpd hE09 (by omega) hU10
  have hs10 := hU10.size
  refine Br_dec (fun hlt => ?_) fun hge => ?_
  · have hi : i < ps.length + 80 := by first | omega | (dsimp only at hlt; omega)
    have hfl : (ys.flatMap ptV).length = ys.length * 2 := flat_len ptV_len
    have ixp : ∀ {k : Addr → Prop}, k ⟨bp, i * 2, none⟩ → IxA 2 ⟨some (adr bp), ps.length + 80, ps.length + 80⟩ (i : Nat) k := fun hk => IxA_adr (by omega) (by first | omega | (dsimp only; omega)) (by rw [Int.toNat_natCast]; exact hk)
    refine Jn.mk (fun _ H' => ∃ (qs' ys' : List PtP), Upd (· = bp) H9 H' ∧ Row H' bp TQai (ys'.flatMap ptV) ∧ ys'.length = ps.length + 80 ∧ ys'.take (i + 1) = qs' ++ List.replicate (i + 1 - ps.length) mkP ∧ qs'.length = min (i + 1) ps.length ∧ qs'.map PtP.pt = (ps.take (i + 1)).map PtP.pt ∧
      (∀ q ∈ qs', ∃ b, q.sl = ⟨some (adr b), q.vals.length, q.vals.length + 80⟩ ∧ Row H' b TQaq (ints (markV q.vals)) ∧ H9.size ≤ b) ∧ qs'.Pairwise fun p q => Apart p.sl q.sl) (fun kk hkk => ?_) ?_
    rotate_left
    · rintro _ H11 ⟨qs', ys', g1, g2, g3, g4, g5, g6, g7, g8⟩
      exact Lt.mk (u := ((i + 1 : Nat) : Int)) (by rw [wrap_i64_id] <;> omega) (hnext2 _ _ ⟨i + 1, qs', ys', rfl, by omega, g1, g2, g3, g4, g5, g6, g7, g8⟩ (by omega))
    refine ixp ?_
    simp only [mk_add]
    refine St_row hr10 (by rw [hfl]; omega) fun H12 hU12 _ hr12 => ?_
    rw [flat_set ptV_len (e' := ⟨-7, (ys[i]'(by omega)).sl, (ys[i]'(by omega)).vals⟩) (i := i) (o := 0) (by omega) (by decide) rfl] at hr12
    refine St_row hr12 (by rw [flat_len ptV_len, List.length_set]; omega) fun H13 hU13 _ hr13 => ?_
    rw [flat_set ptV_len (e' := mkP) (i := i) (o := 1) (by rw [List.length_set]; omega) (by decide) (by rw [List.getElem_set_self]; rfl), List.set_set] at hr13
    have hU1013 : Upd (· = bp) H10 H13 := hU12.trans hU13 fun _ _ e => e
    have hE013 : Ext H H13 := extUpd hE010 (by omega) hU1013
    have q1 := hU1013.row q1 m1
    have hqv13 : ∀ q ∈ qs, ∃ b, q.sl = ⟨some (adr b), q.vals.length, q.vals.length + 80⟩ ∧ Row H13 b TQaq (ints (markV q.vals)) ∧ H9.size ≤ b := fun q hq => by
      obtain ⟨b, h1, h2, h3⟩ := hqv q hq
      exact ⟨b, h1, hU1013.row h2 fun e => h2.ne hr10 (by decide) e, h3⟩
    have ytk : ∀ x : PtP, (ys.set i x).take (i + 1) = qs ++ List.replicate (i - ps.length) mkP ++ [x] := fun x => by
      rw [List.take_add_one, List.take_set_of_le (Nat.le_refl _), hye, List.getElem?_set_self (by omega)]; rfl
    have crp : ∀ {H'}, Row H' b1 TQae (envL e) → hcell H' ⟨b1, 6, none⟩ = some (.slice e.rp.a e.rp.len e.rp.cap) := fun h => (h.cell 6).trans rfl
    refine Ld_sl (s := e.rp) (crp q1) (Jn_in (Br_dec (fun hlt2 => ?_) fun hge2 => ?_))
    · have hip : i < ps.length := by omega
      have hget : ∀ {k : Addr → Prop}, (∀ a, hcell H a = some (.int .i64 ps[i].kind) → hcell H (a.add 1) = some (slV ps[i].sl) → k a) → IxA 2 e.rp (i : Nat) k := fun hk => IxA_rn' ptV_len hps (by decide) rfl hip fun a ha => by
        rw [getElem!_pos ps i hip] at ha
        exact hk a ha.1 ha.2.1
      have up : ∀ {H'} {a : Addr} {v : Value}, Ext H H' → hcell H a = some v → hcell H' a = some v := fun hE g => hE.cell g fun h => h
      obtain ⟨hv, hvl⟩ := hpr _ (List.getElem_mem hip)
      have hvn := hv.len
      refine Ld_sl (s := e.rp) (crp q1) (hget fun a _ ha => Ld_sl (s := ps[i].sl) (up hE013 ha) (Lt.mk (u := ((ps[i].vals.length + 80 : Nat) : Int)) (by rw [wrap_i64_id] <;> omega) ?_))
      refine Mks_rep (f := fun x : Int => [Value.int .i64 x]) (e := 0) (m := ps[i].vals.length + 80) rfl rfl (by omega) (by omega) fun bv H15 hbv hE15 hz15 hr15 => ?_
      have hE015 : Ext H H15 := hE013.trans hE15 fun _ _ h => h
      have q1 := hE15.row q1 fun h => h
      refine Ld_sl (s := e.rp) (crp q1) (hget fun a _ ha => Ld_sl (s := ps[i].sl) (up hE015 ha) ?_)
      have e15 : (⟨some (adr bv), ps[i].vals.length + 80, ps[i].vals.length + 80⟩ : Sl) = ⟨some (adr bv), (List.replicate (ps[i].vals.length + 80) (0 : Int)).length, ps[i].vals.length + 80⟩ := by rw [List.length_replicate]
      rw [e15]
      refine Cpy_rn (f := fun x : Int => [Value.int .i64 x]) (n := 1) (fun _ => rfl) (fun x w hw => by rw [List.mem_singleton.1 hw]; rfl) hr15 (hv.ext hE015).rn1 (by rw [List.length_replicate]; omega) fun H16 hU16 hz16 hr16 => ?_
      rw [List.drop_replicate, show ps[i].vals.length + 80 - ps[i].vals.length = 80 by omega, ← ints_flat] at hr16
      rw [← e15]
      have hs13 := hE013.size
      have hs13' := hU1013.size
      have nv1 : b1 ≠ bv := by have := q1.lt; have := hr1.lt; omega
      have q1 := hU16.row q1 nv1
      have hE016 : Ext H H16 := extUpd hE015 (by omega) hU16
      refine Ld_sl (s := e.rp) (crp q1) (hget fun a _ ha => Ld_sl (s := ps[i].sl) (up hE016 ha) ?_)
      rw [hvn]
      refine fill_ints hr16 (m := ps[i].vals.length + 80) (n := ps[i].vals.length) (c := ps[i].vals.length + 80) (xs := ps[i].vals) (by simp) (by rw [List.take_left]) rfl (by omega) (by omega) fun H17 hU17 hz17 hr17 => ?_
      rw [show ps[i].vals.length + 80 - ps[i].vals.length = 80 by omega] at hr17
      have hU1517 : Upd (· = bv) H15 H17 := hU16.trans hU17 fun _ _ e => e
      have hU1317 : Upd (· = bv) H13 H17 := (hE15.mono fun _ _ h => h.elim).trans hU1517 fun _ _ e => e
      have q1 := hU17.row q1 nv1
      have hE017 : Ext H H17 := extUpd hE015 (by omega) hU1517
      refine Ld_sl (s := e.rp) (crp q1) (hget fun a ha _ => Ld_int (n := ps[i].kind) (up hE017 ha) (Ld_sl (s := e.rp) (crp q1) (hget fun a' _ ha' => Ld_sl (s := ps[i].sl) (up hE017 ha') ?_)))
      rw [hvn]
      refine SlA0 (by omega) (by first | omega | (dsimp only; omega)) (Int.le_refl _) (ixp ?_)
      have nbp : bp ≠ bv := by have := hr13.lt; omega
      have hr17' := hU1317.row hr13 nbp
      simp only [mk_add, Int.toNat_natCast]
      refine St_row hr17' (by rw [flat_len ptV_len, List.length_set]; omega) fun H19 hU19 _ hr19 => ?_
      rw [flat_set ptV_len (e' := ⟨ps[i].kind, ⟨none, 0, 0⟩, []⟩) (i := i) (o := 0) (by rw [List.length_set]; omega) (by decide) (by rw [List.getElem_set_self]; rfl), List.set_set] at hr19
      refine St_row hr19 (by rw [flat_len ptV_len, List.length_set]; omega) fun H20 hU20 _ hr20 => ?_
      rw [flat_set ptV_len (e' := ⟨ps[i].kind, ⟨some (adr bv), ps[i].vals.length, ps[i].vals.length + 80⟩, ps[i].vals⟩) (i := i) (o := 1) (by rw [List.length_set]; omega) (by decide) (by rw [List.getElem_set_self]; rfl), List.set_set] at hr20
      have hU1720 : Upd (· = bp) H17 H20 := hU19.trans hU20 fun _ _ e => e
      refine hkk _ _ ⟨qs ++ [⟨ps[i].kind, ⟨some (adr bv), ps[i].vals.length, ps[i].vals.length + 80⟩, ps[i].vals⟩], _, ?_, hr20, by rw [List.length_set]; exact hyl, ?_, ?_, ?_, ?_, ?_⟩
      · exact ((hU10.trans hU1013 fun _ _ e => e).trans hU1317 fun b hb e => by omega).trans hU1720 fun _ _ e => e
      · rw [ytk, show i - ps.length = 0 by omega, show i + 1 - ps.length = 0 by omega]; simp
      · rw [List.length_append, hql]; simp; omega
      · rw [List.map_append, hqm, List.take_add_one, List.getElem?_eq_getElem hip, List.map_append]; rfl
      · intro q hq
        rcases List.mem_append.1 hq with hq | hq
        · obtain ⟨b, h1, h2, h3⟩ := hqv13 q hq
          refine ⟨b, h1, hU1720.row (hU1317.row h2 fun e => by have := h2.lt; omega) fun e => ?_, h3⟩
          subst e
          exact h2.ne hr13 (by decide) rfl
        · rw [List.mem_singleton.1 hq]
          refine ⟨bv, rfl, hU1720.row hr17 fun e => nbp e.symm, by omega⟩
      · rw [List.pairwise_append]
        refine ⟨hqa, List.pairwise_singleton _ _, fun p hp q hq b hb hb' => ?_⟩
        rw [List.mem_singleton.1 hq] at hb'
        obtain ⟨b0, h1, h2, _⟩ := hqv13 p hp
        rw [h1] at hb
        cases hb; cases hb'
        have := h2.lt; omega
    · have hip : ps.length ≤ i := by omega
      refine hkk _ _ ⟨qs, _, hU10.trans hU1013 fun _ _ e => e, hr13, by rw [List.length_set]; exact hyl, ?_, by rw [hql]; omega, ?_, hqv13, hqa⟩
      · rw [ytk, show i + 1 - ps.length = (i - ps.length) + 1 by omega, List.replicate_succ', List.append_assoc]
      · rw [hqm, List.take_of_length_le hip, List.take_of_length_le (by omega)]
  have hi : i = ps.length + 80 := by first | omega | (dsimp only at hge; omega)
  subst hi
  rw [List.take_of_length_le (by omega), show ps.length + 80 - ps.length = 80 by omega] at hye
  rw [List.take_of_length_le (by omega)] at hqm
  subst hye
  refine Ld_sl (s := e.inS) ((q1.cell 3).trans rfl) ?_
  rw [hinl]
  refine SlA0 (by omega) (by first | omega | (dsimp only; omega)) (Int.le_refl _) ?_
  simp only [Int.toNat_natCast]
  refine St_row q1 (by simp) fun H21 hU21 _ hr21 => ?_
  refine Ld_sl (s := e.rp) ((hr21.cell 6).trans rfl) ?_
  rw [hpsl]
  refine SlA0 (by omega) (by first | omega | (dsimp only; omega)) (Int.le_refl _) ?_
  simp only [Int.toNat_natCast]
  refine St_row hr21 (by simp) fun H22 hU22 _ hr22 => ?_
  have hr22 : Row H22 b1 TQae (envL (cpE e bi bp ins.length ps.length)) := hr22
  refine ⟨(e.fr, e.sd, e.en, ⟨some (adr bi), ins.length, ins.length + 80⟩, e.ix, e.gn, ⟨some (adr bp), ps.length, ps.length + 80⟩), hr22.rd_all, ?_⟩
  have b12 : b2 ≠ b1 := by omega
  have hU1022 : Upd (· = b1) H10 H22 := hU21.trans hU22 fun _ _ e => e
  have q2 := hU1022.row q2 b12
  refine St_row q2 (by simp) fun G1 hV1 _ hg1 => St_row hg1 (by simp) fun G2 hV2 _ hg2 => St_row hg2 (by simp) fun G3 hV3 _ hg3 => St_row hg3 (by simp) fun G4 hV4 _ hg4 => ?_
  refine St_row hg4 (by simp) fun G5 hV5 _ hg5 => St_row hg5 (by simp) fun G6 hV6 _ hg6 => St_row hg6 (by simp) fun G7 hV7 _ hg7 => ?_
  have hg7 : Row G7 b2 TQae (envL (cpE e bi bp ins.length ps.length)) := hg7
  refine ⟨(e.fr, e.sd, e.en, ⟨some (adr bi), ins.length, ins.length + 80⟩, e.ix, e.gn, ⟨some (adr bp), ps.length, ps.length + 80⟩), hg7.rd_all, ?_⟩
  have hV : Upd (· = b2) H22 G7 := (((((hV1.trans hV2 fun _ _ e => e).trans hV3 fun _ _ e => e).trans hV4 fun _ _ e => e).trans hV5 fun _ _ e => e).trans hV6 fun _ _ e => e).trans hV7 fun _ _ e => e
  have hUV : Upd (fun b => b = b1 ∨ b = b2) H10 G7 := (hU1022.mono fun _ _ e => .inl e).trans hV fun _ _ e => .inr e
  have hE0G : Ext H G7 := hE010.trans hUV fun b hb e => by rcases e with e | e <;> omega
  refine hk G7 bi bp qs hE0G ⟨hUV.row q5 fun e => by rcases e with e | e <;> omega, hUV.row hr10 fun e => by rcases e with e | e <;> omega, fun q hq => ?_, hqa, by omega, by omega⟩ hqm
  obtain ⟨b, h1, h2, h3⟩ := hqv q hq
  refine ⟨b, h1, hUV.row h2 fun e => ?_, by omega⟩
  have := hr1.lt; have := hr2.lt; have := hU5.size
  have := hE9.size
  rcases e with e | e <;> omega
end
section
open Hc Hc.Vf Hc.Mc
theorem rdC_string {P : Program} {t : TypeId} (hu : P.underlying t = some .string) {H : Heap} {f : Nat} {cs : List Value} (h : RdC P H f t cs) : ∃ s : ByteArray, cs = [.string s] ∧ s.size ≤ reachBytes := by
  cases f with
  | zero => exact h.elim
  | succ f => simp only [RdC, hu] at h; exact h
theorem rdC_rows {P : Program} {t e : TypeId} (hu : P.underlying t = some (.slice e)) {n : Nat} (hce : P.cellsOf e = n) {α : Type} {g : α → List Value} (hg : ∀ x, (g x).length = n) {Q : α → Prop} {H : Heap} (hR : ∀ f cs, RdC P H f e cs → ∃ x, cs = g x ∧ Q x) {f : Nat} {v : Value} (h : RdC P H f t [v]) :
    ∃ (s : Sl) (xs : List α), v = .slice s.a s.len s.cap ∧ RN g n H s xs ∧ (∀ x ∈ xs, Q x) ∧ s.cap * P.bytesOf e ≤ reachBytes := by
  obtain ⟨s, xs, h1, h2, h3, h4, h5, h6⟩ := rdC_elems hu hce (R := fun cs x => cs = g x ∧ Q x) hR h
  refine ⟨s, xs, h1, RN.of_elems hg h2 h3 fun i hi => ?_, fun x hx => ?_, h4⟩
  · obtain ⟨a, ha, cs, _, k2, k3, _⟩ := h6 i hi
    subst k3; exact ⟨a, ha, k2⟩
  · obtain ⟨i, hi, rfl⟩ := List.getElem_of_mem hx
    obtain ⟨_, _, _, _, _, _, k⟩ := h6 i hi
    exact k
theorem list2_api_Program {cs : List Value} (h : cs.length = 2) : ∃ x0 x1, cs = [x0, x1] := by
  match cs, h with
  | [x0, x1], _ => exact ⟨x0, x1, rfl⟩
theorem rdS_api_Program {H : Heap} {f : Nat} {cs : List Value} (h : RdC Tryz.prog H f 25 cs) : ∃ x0 x1, cs = [x0, x1] ∧ ∃ f', RdC Tryz.prog H f' 22 [x0] ∧ RdC Tryz.prog H f' 23 [x1] := by
  obtain ⟨f', hl, hall⟩ := rdC_struct Tryz.underlying25 h
  obtain ⟨x0, x1, rfl⟩ := list2_api_Program (hl.trans (by kernel_rfl))
  simp only [List.mem_cons, List.not_mem_nil, or_false, forall_eq_or_imp, forall_eq] at hall
  have c22 : Tryz.prog.cellsOf 22 = 1 := by kernel_rfl
  have c23 : Tryz.prog.cellsOf 23 = 1 := by kernel_rfl
  obtain ⟨h0, h1⟩ := hall
  exact ⟨x0, x1, rfl, f', by simpa [c22] using h0, by simpa [c23] using h1⟩
theorem list2_api_Entity {cs : List Value} (h : cs.length = 2) : ∃ x0 x1, cs = [x0, x1] := by
  match cs, h with
  | [x0, x1], _ => exact ⟨x0, x1, rfl⟩
theorem rdS_api_Entity {H : Heap} {f : Nat} {cs : List Value} (h : RdC Tryz.prog H f 28 cs) : ∃ x0 x1, cs = [x0, x1] ∧ ∃ f', RdC Tryz.prog H f' 3 [x0] ∧ RdC Tryz.prog H f' 3 [x1] := by
  obtain ⟨f', hl, hall⟩ := rdC_struct Tryz.underlying28 h
  obtain ⟨x0, x1, rfl⟩ := list2_api_Entity (hl.trans (by kernel_rfl))
  simp only [List.mem_cons, List.not_mem_nil, or_false, forall_eq_or_imp, forall_eq] at hall
  have c3 : Tryz.prog.cellsOf 3 = 1 := by kernel_rfl
  obtain ⟨h0, h1⟩ := hall
  exact ⟨x0, x1, rfl, f', by simpa [c3] using h0, by simpa [c3] using h1⟩
theorem list3_api_Row {cs : List Value} (h : cs.length = 3) : ∃ x0 x1 x2, cs = [x0, x1, x2] := by
  match cs, h with
  | [x0, x1, x2], _ => exact ⟨x0, x1, x2, rfl⟩
theorem rdS_api_Row {H : Heap} {f : Nat} {cs : List Value} (h : RdC Tryz.prog H f 31 cs) : ∃ x0 x1 x2, cs = [x0, x1, x2] ∧ ∃ f', RdC Tryz.prog H f' 28 [x0, x1] ∧ RdC Tryz.prog H f' 29 [x2] := by
  obtain ⟨f', hl, hall⟩ := rdC_struct Tryz.underlying31 h
  obtain ⟨x0, x1, x2, rfl⟩ := list3_api_Row (hl.trans (by kernel_rfl))
  simp only [List.mem_cons, List.not_mem_nil, or_false, forall_eq_or_imp, forall_eq] at hall
  have c28 : Tryz.prog.cellsOf 28 = 2 := by kernel_rfl
  have c29 : Tryz.prog.cellsOf 29 = 1 := by kernel_rfl
  obtain ⟨h0, h1⟩ := hall
  exact ⟨x0, x1, x2, rfl, f', by simpa [c28] using h0, by simpa [c29] using h1⟩
theorem list7_api_Env {cs : List Value} (h : cs.length = 7) : ∃ x0 x1 x2 x3 x4 x5 x6, cs = [x0, x1, x2, x3, x4, x5, x6] := by
  match cs, h with
  | [x0, x1, x2, x3, x4, x5, x6], _ => exact ⟨x0, x1, x2, x3, x4, x5, x6, rfl⟩
theorem rdS_api_Env {H : Heap} {f : Nat} {cs : List Value} (h : RdC Tryz.prog H f 33 cs) : ∃ x0 x1 x2 x3 x4 x5 x6, cs = [x0, x1, x2, x3, x4, x5, x6] ∧ ∃ f', RdC Tryz.prog H f' 3 [x0] ∧ RdC Tryz.prog H f' 2 [x1] ∧ RdC Tryz.prog H f' 3 [x2] ∧ RdC Tryz.prog H f' 26 [x3] ∧ RdC Tryz.prog H f' 31 [x4, x5, x6] := by
  obtain ⟨f', hl, hall⟩ := rdC_struct Tryz.underlying33 h
  obtain ⟨x0, x1, x2, x3, x4, x5, x6, rfl⟩ := list7_api_Env (hl.trans (by kernel_rfl))
  simp only [List.mem_cons, List.not_mem_nil, or_false, forall_eq_or_imp, forall_eq] at hall
  have c2 : Tryz.prog.cellsOf 2 = 1 := by kernel_rfl
  have c3 : Tryz.prog.cellsOf 3 = 1 := by kernel_rfl
  have c26 : Tryz.prog.cellsOf 26 = 1 := by kernel_rfl
  have c31 : Tryz.prog.cellsOf 31 = 3 := by kernel_rfl
  obtain ⟨h0, h1, h2, h3, h4⟩ := hall
  exact ⟨x0, x1, x2, x3, x4, x5, x6, rfl, f', by simpa [c3] using h0, by simpa [c2] using h1, by simpa [c3] using h2, by simpa [c26] using h3, by simpa [c31] using h4⟩
theorem list4_api_Routine {cs : List Value} (h : cs.length = 4) : ∃ x0 x1 x2 x3, cs = [x0, x1, x2, x3] := by
  match cs, h with
  | [x0, x1, x2, x3], _ => exact ⟨x0, x1, x2, x3, rfl⟩
theorem rdS_api_Routine {H : Heap} {f : Nat} {cs : List Value} (h : RdC Tryz.prog H f 52 cs) : ∃ x0 x1 x2 x3, cs = [x0, x1, x2, x3] ∧ ∃ f', RdC Tryz.prog H f' 9 [x0] ∧ RdC Tryz.prog H f' 3 [x1] ∧ RdC Tryz.prog H f' 3 [x2] ∧ RdC Tryz.prog H f' 50 [x3] := by
  obtain ⟨f', hl, hall⟩ := rdC_struct Tryz.underlying52 h
  obtain ⟨x0, x1, x2, x3, rfl⟩ := list4_api_Routine (hl.trans (by kernel_rfl))
  simp only [List.mem_cons, List.not_mem_nil, or_false, forall_eq_or_imp, forall_eq] at hall
  have c3 : Tryz.prog.cellsOf 3 = 1 := by kernel_rfl
  have c9 : Tryz.prog.cellsOf 9 = 1 := by kernel_rfl
  have c50 : Tryz.prog.cellsOf 50 = 1 := by kernel_rfl
  obtain ⟨h0, h1, h2, h3⟩ := hall
  exact ⟨x0, x1, x2, x3, rfl, f', by simpa [c9] using h0, by simpa [c3] using h1, by simpa [c3] using h2, by simpa [c50] using h3⟩
theorem list8_api_System {cs : List Value} (h : cs.length = 8) : ∃ x0 x1 x2 x3 x4 x5 x6 x7, cs = [x0, x1, x2, x3, x4, x5, x6, x7] := by
  match cs, h with
  | [x0, x1, x2, x3, x4, x5, x6, x7], _ => exact ⟨x0, x1, x2, x3, x4, x5, x6, x7, rfl⟩
theorem rdS_api_System {H : Heap} {f : Nat} {cs : List Value} (h : RdC Tryz.prog H f 55 cs) : ∃ x0 x1 x2 x3 x4 x5 x6 x7, cs = [x0, x1, x2, x3, x4, x5, x6, x7] ∧ ∃ f', RdC Tryz.prog H f' 53 [x0] ∧ RdC Tryz.prog H f' 53 [x1] ∧ RdC Tryz.prog H f' 53 [x2] ∧ RdC Tryz.prog H f' 53 [x3] ∧ RdC Tryz.prog H f' 52 [x4, x5, x6, x7] := by
  obtain ⟨f', hl, hall⟩ := rdC_struct Tryz.underlying55 h
  obtain ⟨x0, x1, x2, x3, x4, x5, x6, x7, rfl⟩ := list8_api_System (hl.trans (by kernel_rfl))
  simp only [List.mem_cons, List.not_mem_nil, or_false, forall_eq_or_imp, forall_eq] at hall
  have c52 : Tryz.prog.cellsOf 52 = 4 := by kernel_rfl
  have c53 : Tryz.prog.cellsOf 53 = 1 := by kernel_rfl
  obtain ⟨h0, h1, h2, h3, h4⟩ := hall
  exact ⟨x0, x1, x2, x3, x4, x5, x6, x7, rfl, f', by simpa [c53] using h0, by simpa [c53] using h1, by simpa [c53] using h2, by simpa [c53] using h3, by simpa [c52] using h4⟩
theorem list3_api_Input {cs : List Value} (h : cs.length = 3) : ∃ x0 x1 x2, cs = [x0, x1, x2] := by
  match cs, h with
  | [x0, x1, x2], _ => exact ⟨x0, x1, x2, rfl⟩
theorem rdS_api_Input {H : Heap} {f : Nat} {cs : List Value} (h : RdC Tryz.prog H f 57 cs) : ∃ x0 x1 x2, cs = [x0, x1, x2] ∧ ∃ f', RdC Tryz.prog H f' 3 [x0] ∧ RdC Tryz.prog H f' 3 [x1] ∧ RdC Tryz.prog H f' 2 [x2] := by
  obtain ⟨f', hl, hall⟩ := rdC_struct Tryz.underlying57 h
  obtain ⟨x0, x1, x2, rfl⟩ := list3_api_Input (hl.trans (by kernel_rfl))
  simp only [List.mem_cons, List.not_mem_nil, or_false, forall_eq_or_imp, forall_eq] at hall
  have c2 : Tryz.prog.cellsOf 2 = 1 := by kernel_rfl
  have c3 : Tryz.prog.cellsOf 3 = 1 := by kernel_rfl
  obtain ⟨h0, h1, h2⟩ := hall
  exact ⟨x0, x1, x2, rfl, f', by simpa [c3] using h0, by simpa [c3] using h1, by simpa [c2] using h2⟩
theorem list2_api_Part {cs : List Value} (h : cs.length = 2) : ∃ x0 x1, cs = [x0, x1] := by
  match cs, h with
  | [x0, x1], _ => exact ⟨x0, x1, rfl⟩
theorem rdS_api_Part {H : Heap} {f : Nat} {cs : List Value} (h : RdC Tryz.prog H f 60 cs) : ∃ x0 x1, cs = [x0, x1] ∧ ∃ f', RdC Tryz.prog H f' 3 [x0] ∧ RdC Tryz.prog H f' 58 [x1] := by
  obtain ⟨f', hl, hall⟩ := rdC_struct Tryz.underlying60 h
  obtain ⟨x0, x1, rfl⟩ := list2_api_Part (hl.trans (by kernel_rfl))
  simp only [List.mem_cons, List.not_mem_nil, or_false, forall_eq_or_imp, forall_eq] at hall
  have c3 : Tryz.prog.cellsOf 3 = 1 := by kernel_rfl
  have c58 : Tryz.prog.cellsOf 58 = 1 := by kernel_rfl
  obtain ⟨h0, h1⟩ := hall
  exact ⟨x0, x1, rfl, f', by simpa [c3] using h0, by simpa [c58] using h1⟩
theorem list2_api_Instr {cs : List Value} (h : cs.length = 2) : ∃ x0 x1, cs = [x0, x1] := by
  match cs, h with
  | [x0, x1], _ => exact ⟨x0, x1, rfl⟩
theorem rdS_api_Instr {H : Heap} {f : Nat} {cs : List Value} (h : RdC Tryz.prog H f 74 cs) : ∃ x0 x1, cs = [x0, x1] ∧ ∃ f', RdC Tryz.prog H f' 3 [x0] ∧ RdC Tryz.prog H f' 2 [x1] := by
  obtain ⟨f', hl, hall⟩ := rdC_struct Tryz.underlying74 h
  obtain ⟨x0, x1, rfl⟩ := list2_api_Instr (hl.trans (by kernel_rfl))
  simp only [List.mem_cons, List.not_mem_nil, or_false, forall_eq_or_imp, forall_eq] at hall
  have c2 : Tryz.prog.cellsOf 2 = 1 := by kernel_rfl
  have c3 : Tryz.prog.cellsOf 3 = 1 := by kernel_rfl
  obtain ⟨h0, h1⟩ := hall
  exact ⟨x0, x1, rfl, f', by simpa [c3] using h0, by simpa [c2] using h1⟩
abbrev prgA (p : Sl × Sl) : Value := .agg #[.slice p.1.a p.1.len p.1.cap, .slice p.2.a p.2.len p.2.cap]
structure RouI (H : Heap) (r : Rou) : Prop where
  code : CodeR H r
  len : r.code.length ≤ 2 ^ 43
  par : I64 r.params
  loc : I64 r.locals
  ins : ∀ i ∈ r.code, I64 i.1 ∧ I64 i.2
  name : r.name.size ≤ 2 ^ 47
structure SyI (H : Heap) (x : Sy) : Prop where
  sets : ∀ q, q < 4 → RL (Value.int .i64) H (x.s q) (x.l q)
  lens : ∀ q, q < 4 → (x.l q).length ≤ 2 ^ 44
  ints : ∀ q, q < 4 → ∀ y ∈ x.l q, I64 y
  rou : RouI H x.rou
structure PrgI (H : Heap) (p : Sl × Sl) (ss : List Sy) (fs : List Rou) : Prop where
  sys : RN sysV 8 H p.1 ss
  sysR : ∀ x ∈ ss, SyI H x
  fun' : RN rouV 4 H p.2 fs
  funR : ∀ r ∈ fs, RouI H r
  sl : ss.length * 152 ≤ 2 ^ 47
  fl : fs.length * 56 ≤ 2 ^ 47
theorem PrgI.prg {H : Heap} {p : Sl × Sl} {ss : List Sy} {fs : List Rou} (h : PrgI H p ss fs) : PrgR H p ss fs :=
  ⟨h.sys, fun x hx => ⟨(h.sysR x hx).sets, (h.sysR x hx).rou.code, fun q hq => by have := (h.sysR x hx).lens q hq; omega, by have := (h.sysR x hx).rou.len; omega⟩, h.fun', fun r hr => (h.funR r hr).code, fun r hr => by have := (h.funR r hr).len; omega⟩
theorem PrgI.par {H : Heap} {p : Sl × Sl} {ss : List Sy} {fs : List Rou} (h : PrgI H p ss fs) : ∀ x ∈ parms fs, I64 x := fun x hx => by
  obtain ⟨r, hr, rfl⟩ := List.mem_map.1 hx
  exact (h.funR r hr).par
theorem b47 : Tryz.prog.bytesOf 74 = 16 := by kernel_rfl
theorem rdC_rou {H : Heap} {f : Nat} {cs : List Value} (h : RdC Tryz.prog H f 52 cs) : ∃ r : Rou, cs = rouV r ∧ RouI H r := by
  have c47 : Tryz.prog.cellsOf 74 = 2 := by kernel_rfl
  obtain ⟨x0, x1, x2, x3, rfl, f', h0, h1, h2, h3⟩ := rdS_api_Routine h
  obtain ⟨n, e0, hn⟩ := rdC_string Tryz.underlying9 h0
  obtain ⟨a, e1, ha⟩ := rdC_i64 Tryz.underlying3 h1
  obtain ⟨b, e2, hb⟩ := rdC_i64 Tryz.underlying3 h2
  obtain ⟨s, xs, e3, hs, hx, hc⟩ := rdC_rows Tryz.underlying50 c47 insV_len (Q := fun i => I64 i.1 ∧ I64 i.2) (fun f cs hh => by
    obtain ⟨y0, y1, rfl, f', g0, g1⟩ := rdS_api_Instr hh
    obtain ⟨a, e0, ha⟩ := rdC_i64 Tryz.underlying3 g0
    obtain ⟨b, e1, hb⟩ := rdC_i64 Tryz.underlying2 g1
    simp only [List.cons.injEq, and_true] at e0 e1
    subst e0 e1
    exact ⟨(a, b), rfl, ha, hb⟩) h3
  simp only [List.cons.injEq, and_true] at e0 e1 e2
  subst e0 e1 e2 e3
  refine ⟨⟨n, a, b, s, xs⟩, rfl, hs, ?_, ha, hb, hx, by have := reach47; show n.size ≤ _; omega⟩
  rw [b47] at hc
  have h1 := hs.len
  have h2 := hs.cap
  have := reach47
  show xs.length ≤ _
  omega
theorem rdC_set {H : Heap} {f : Nat} {v : Value} (h : RdC Tryz.prog H f 53 [v]) : ∃ (s : Sl) (xs : List Int), v = slV s ∧ RL (Value.int .i64) H s xs ∧ (∀ x ∈ xs, I64 x) ∧ xs.length ≤ 2 ^ 44 := by
  have c3 : Tryz.prog.cellsOf 3 = 1 := by kernel_rfl
  have b3 : Tryz.prog.bytesOf 3 = 8 := by kernel_rfl
  obtain ⟨s, xs, e, h1, h2, h3, h4⟩ := rdC_ints Tryz.underlying53 Tryz.underlying3 c3 h
  rw [b3] at h3
  refine ⟨s, xs, e, h1, h2, ?_⟩
  have := h1.len; have := h1.cap; have := reach47; omega
def pick4 {α : Type} (a b c d : α) (q : Nat) : α := if q = 0 then a else if q = 1 then b else if q = 2 then c else d
theorem rdC_sys {H : Heap} {f : Nat} {cs : List Value} (h : RdC Tryz.prog H f 55 cs) : ∃ x : Sy, cs = sysV x ∧ SyI H x := by
  obtain ⟨x0, x1, x2, x3, x4, x5, x6, x7, rfl, f', h0, h1, h2, h3, h4⟩ := rdS_api_System h
  obtain ⟨s0, l0, rfl, r0, i0, n0⟩ := rdC_set h0
  obtain ⟨s1, l1, rfl, r1, i1, n1⟩ := rdC_set h1
  obtain ⟨s2, l2, rfl, r2, i2, n2⟩ := rdC_set h2
  obtain ⟨s3, l3, rfl, r3, i3, n3⟩ := rdC_set h3
  obtain ⟨r, e, hr⟩ := rdC_rou h4
  simp only [List.cons.injEq, and_true] at e
  obtain ⟨rfl, rfl, rfl, rfl⟩ := e
  refine ⟨⟨pick4 s0 s1 s2 s3, pick4 l0 l1 l2 l3, r⟩, rfl, fun q hq => ?_, fun q hq => ?_, fun q hq => ?_, hr⟩
  all_goals
    match q, hq with
    | 0, _ => assumption
    | 1, _ => assumption
    | 2, _ => assumption
    | 3, _ => assumption
theorem rd_prog {H : Heap} {v : Value} (h : RdV Tryz.prog H 25 v) : ∃ (p : Sl × Sl) (ss : List Sy) (fs : List Rou), v = prgA p ∧ PrgI H p ss fs := by
  have c60 : Tryz.prog.cellsOf 55 = 8 := by kernel_rfl
  have c28 : Tryz.prog.cellsOf 52 = 4 := by kernel_rfl
  have b60 : Tryz.prog.bytesOf 55 = 152 := by kernel_rfl
  have b28 : Tryz.prog.bytesOf 52 = 56 := by kernel_rfl
  obtain ⟨f, cs, rfl, hr⟩ := rd_struct Tryz.underlying25 h
  obtain ⟨x0, x1, e, f', h0, h1⟩ := rdS_api_Program hr
  obtain ⟨s, ss, rfl, hs, hx, hc⟩ := rdC_rows Tryz.underlying22 c60 sysV_len (fun f cs hh => rdC_sys hh) h0
  obtain ⟨t, fs, rfl, ht, hy, hd⟩ := rdC_rows Tryz.underlying23 c28 rouV_len (fun f cs hh => rdC_rou hh) h1
  rw [b60] at hc
  rw [b28] at hd
  have := reach47
  have g1 := hs.len
  have g2 := hs.cap
  have g3 := ht.len
  have g4 := ht.cap
  subst e
  exact ⟨(s, t), ss, fs, rfl, hs, hx, ht, hy, by omega, by omega⟩
structure EnvI (H : Heap) (e : EnV) (ins : List (Int × Int × Int)) (ps : List PtP) : Prop where
  fr : I64 e.fr
  sd : I64 e.sd
  en : I64 e.en
  ix : I64 e.ix
  gn : I64 e.gn
  inp : RN inV 3 H e.inS ins
  in64 : ∀ x ∈ ins, I64 x.1 ∧ I64 x.2.1 ∧ I64 x.2.2
  inL : ins.length * 24 ≤ 140737488351232
  prt : RN ptV 2 H e.rp ps
  prR : ∀ q ∈ ps, RL (Value.int .i64) H q.sl q.vals ∧ q.vals.length ≤ 2 ^ 44 ∧ All64 q.vals ∧ I64 q.kind
  prL : ps.length * 32 ≤ 2 ^ 47
theorem rdC_nums {H : Heap} {f : Nat} {v : Value} (h : RdC Tryz.prog H f 58 [v]) : ∃ (s : Sl) (xs : List Int), v = slV s ∧ RL (Value.int .i64) H s xs ∧ (∀ x ∈ xs, I64 x) ∧ xs.length ≤ 2 ^ 44 := by
  have c3 : Tryz.prog.cellsOf 2 = 1 := by kernel_rfl
  have b3 : Tryz.prog.bytesOf 2 = 8 := by kernel_rfl
  obtain ⟨s, xs, e, h1, h2, h3, h4⟩ := rdC_ints Tryz.underlying58 Tryz.underlying2 c3 h
  rw [b3] at h3
  refine ⟨s, xs, e, h1, h2, ?_⟩
  have := h1.len; have := h1.cap; have := reach47; omega
theorem rd_env {H : Heap} {v : Value} (h : RdV Tryz.prog H 33 v) : ∃ (e : EnV) (ins : List (Int × Int × Int)) (ps : List PtP), v = envA e ∧ EnvI H e ins ps := by
  have c57 : Tryz.prog.cellsOf 57 = 3 := by kernel_rfl
  have b57 : Tryz.prog.bytesOf 57 = 24 := by kernel_rfl
  have c60 : Tryz.prog.cellsOf 60 = 2 := by kernel_rfl
  have b60 : Tryz.prog.bytesOf 60 = 32 := by kernel_rfl
  obtain ⟨f, cs, rfl, hr⟩ := rd_struct Tryz.underlying33 h
  obtain ⟨x0, x1, x2, x3, x4, x5, x6, e, f', h0, h1, h2, h3, h4⟩ := rdS_api_Env hr
  obtain ⟨y0, y1, y2, e', f2, g0, g1⟩ := rdS_api_Row h4
  obtain ⟨z0, z1, e'', f3, k0, k1⟩ := rdS_api_Entity g0
  simp only [List.cons.injEq, and_true] at e' e''
  obtain ⟨rfl, rfl, rfl⟩ := e'
  obtain ⟨rfl, rfl⟩ := e''
  obtain ⟨a0, e0, i0⟩ := rdC_i64 Tryz.underlying3 h0
  obtain ⟨a1, e1, i1⟩ := rdC_i64 Tryz.underlying2 h1
  obtain ⟨a2, e2, i2⟩ := rdC_i64 Tryz.underlying3 h2
  obtain ⟨a4, e4, i4⟩ := rdC_i64 Tryz.underlying3 k0
  obtain ⟨a5, e5, i5⟩ := rdC_i64 Tryz.underlying3 k1
  simp only [List.cons.injEq, and_true] at e0 e1 e2 e4 e5
  subst e0 e1 e2 e4 e5
  obtain ⟨s, ins, rfl, hs, hx, hc⟩ := rdC_rows Tryz.underlying26 c57 inV_len (Q := fun x => I64 x.1 ∧ I64 x.2.1 ∧ I64 x.2.2) (fun f cs hh => by
    obtain ⟨y0, y1, y2, rfl, f', g0, g1, g2⟩ := rdS_api_Input hh
    obtain ⟨a, e0, ha⟩ := rdC_i64 Tryz.underlying3 g0
    obtain ⟨b, e1, hb⟩ := rdC_i64 Tryz.underlying3 g1
    obtain ⟨c, e2, hc⟩ := rdC_i64 Tryz.underlying2 g2
    simp only [List.cons.injEq, and_true] at e0 e1 e2
    subst e0 e1 e2
    exact ⟨(a, b, c), rfl, ha, hb, hc⟩) h3
  obtain ⟨t, ps, rfl, ht, hy, hd⟩ := rdC_rows Tryz.underlying29 c60 ptV_len (Q := fun q : PtP => RL (Value.int .i64) H q.sl q.vals ∧ q.vals.length ≤ 2 ^ 44 ∧ All64 q.vals ∧ I64 q.kind) (fun f cs hh => by
    obtain ⟨y0, y1, rfl, f', g0, g1⟩ := rdS_api_Part hh
    obtain ⟨a, e0, ha⟩ := rdC_i64 Tryz.underlying3 g0
    obtain ⟨u, xs, rfl, h1, h2, h3⟩ := rdC_nums g1
    simp only [List.cons.injEq, and_true] at e0
    subst e0
    exact ⟨⟨a, u, xs⟩, rfl, h1, h3, h2, ha⟩) g1
  rw [b57] at hc
  rw [b60] at hd
  have hrb : reachBytes = 140737488351232 := rfl
  have q1 := hs.len
  have q2 := hs.cap
  have q3 := ht.len
  have q4 := ht.cap
  subst e
  exact ⟨⟨a0, a1, a2, s, a4, a5, t⟩, ins, ps, rfl, i0, i1, i2, i4, i5, hs, hx, by omega, ht, hy, by omega⟩
end
section
open Hc Hc.Vf Hc.Mc Hc.Dice
variable {H : Heap}
abbrev shp2 (l : List Pt) : List (Int × Nat) := l.map fun p => (p.kind, p.vals.length)
theorem put_shp (l : List Pt) (k : Int) (f : Nat) (x : Int) : shp2 (putV l k f x) = shp2 l := by
  induction l with
  | nil => rfl
  | cons p r ih => unfold putV; split <;> simp_all [shp2]
structure EndsP (p : Sl × Sl) (ss : List Sy) (n : Int) (e : EnV) (ps0 : List PtP) (H : Heap) (vs cs es : Sl) (st er : Int) : Prop where
  h_sys : er = 190 ↔ ¬ (0 ≤ n ∧ n < (ss.length : Int))
  h_st : 0 ≤ st ∧ st ≤ 2001
  h_fuel : er = 120 ↔ st = 2001
  h_cl : cs.len ≤ 16
  h_el : es.len ≤ 16
  h_bad : er ≠ 0 → vs.len = 0 ∧ cs.len = 0 ∧ es.len = 0
  h_ok : er = 0 → (∃ qs : List PtP, RN ptV 2 H vs qs ∧ (qs.map PtP.kind).Pairwise (· < ·) ∧ ∀ q ∈ qs, q.sl.len = q.vals.length ∧ q.kind ∈ (ss[n.toNat]!).l 3 ∧ ∃ v, lookV (ps0.map PtP.pt) q.kind = some v ∧ v.length = q.vals.length) ∧
    ∃ evs : List Ev, RN evV 5 H es evs ∧ ∀ ev ∈ evs, ev.e = (e.ix, e.gn) ∧ ev.sys = n
end
section
open Hc Hc.Vf Hc.Mc Hc.Dice
variable {H : Heap}
theorem sys_get {ss : List Sy} {n : Int} (hn : 0 ≤ n ∧ n < (ss.length : Int)) : ss[n.toNat]! ∈ ss := by
  rw [getElem!_pos ss _ (by omega)]; exact List.getElem_mem _
theorem RouI.fnOk {r : Rou} (h : RouI H r) : FnOk (fnOf r) := ⟨h.loc, h.par, h.ins, by have := h.len; show r.code.length ≤ _; omega⟩
theorem PrgI.ctx {B : Heap} {p : Sl × Sl} {ss : List Sy} {fs : List Rou} (hP : PrgI B p ss fs) (hE : Ext B H) {n : Int} (hn : 0 ≤ n ∧ n < (ss.length : Int)) {inS : Sl} {ins : List (Int × Int × Int)} (hi : RN inV 3 H inS ins) (hl : ins.length * 24 ≤ 140737488351232)
    (hB : ∀ a, inS.a = some a → a.spot = none ∧ a.block < H.size) (hN : inS.a = none → inS.cap = 0) : CtxR H p.2 (ss[n.toNat]!) inS fs ins :=
  ⟨hP.fun'.ext hE, fun r hr => ((hP.funR r hr).code).ext hE, fun q hq => ((hP.sysR _ (sys_get hn)).sets q hq).ext hE, fun q hq => by have := (hP.sysR _ (sys_get hn)).lens q hq; omega, hi, hl, hB, hN⟩
theorem PrgI.pok {B : Heap} {p : Sl × Sl} {ss : List Sy} {fs : List Rou} (hP : PrgI B p ss fs) {n : Int} (hn : 0 ≤ n ∧ n < (ss.length : Int)) (lim : Int) : POk ⟨fs.map fnOf, fnOf (ss[n.toNat]!).rou, (ss[n.toNat]!).l 2, (ss[n.toNat]!).l 3, n, lim⟩ :=
  ⟨fun f hf => by
    obtain ⟨r, hr, rfl⟩ := List.mem_map.1 hf
    exact (hP.funR r hr).fnOk, (hP.sysR _ (sys_get hn)).rou.fnOk⟩
theorem EnvI.eok {B : Heap} {e : EnV} {ins : List (Int × Int × Int)} {ps : List PtP} (h : EnvI B e ins ps) : EOk (enS e ins) := ⟨h.fr, h.ix, fun x hx => (h.in64 x hx).2.2⟩
theorem map_len {ps qs : List PtP} (h : qs.map PtP.pt = ps.map PtP.pt) : qs.length = ps.length := by
  have := congrArg List.length h
  simpa using this
theorem EndsP.upd {p : Sl × Sl} {ss : List Sy} {n : Int} {e : EnV} {ps : List PtP} {vs cs es : Sl} {st er : Int} (h : EndsP p ss n e ps H vs cs es st er) {b : Nat} {H' : Heap} (hU : Upd (· = b) H H') (hb : ∀ s, s = vs ∨ s = es → ∀ a, s.a = some a → a.block ≠ b) : EndsP p ss n e ps H' vs cs es st er :=
  ⟨h.h_sys, h.h_st, h.h_fuel, h.h_cl, h.h_el, h.h_bad, fun h0 => by
    obtain ⟨⟨qs, h1, h2, h3⟩, evs, h4, h5⟩ := h.h_ok h0
    exact ⟨⟨qs, h1.upd hU fun a ha => hb vs (.inl rfl) a ha, h2, h3⟩, evs, h4.upd hU fun a ha => hb es (.inr rfl) a ha, h5⟩⟩
end
section
open Hc Hc.Vf
variable {H : Heap}
theorem may_len {ss : List Sy} {fs : List Rou} (h : MayP ss fs) {n : Nat} (hn : n < ss.length + fs.length) : ((rousL ss fs)[n]!).code.length ≤ 2000 := by
  have hl : (rousL ss fs).length = ss.length + fs.length := by rw [List.length_append, List.length_map]
  have hn2 : n < (rousL ss fs).length := by omega
  have e := sumL_succ hn2
  have e2 := sumL_take (rs := rousL ss fs) (n := n + 1)
  have e3 : sumL (rousL ss fs) = sumL (ss.map (·.rou)) + sumL fs := by unfold sumL; rw [List.map_append, List.sum_append]
  rw [getElem!_pos (rousL ss fs) n hn2]
  have := h.2.2.2.2
  omega
structure TakenI (ks : List Ki) (ss : List Sy) (fs : List Rou) (n : Nat) (r : Rou) : Prop where
  len : r.code.length ≤ 2000
  pos : 0 < r.code.length
  whole : wholeS r.code (parms fs) = .ok ()
  good : ∀ i, i < r.code.length → isReached r.code (parms fs) i → wr r.code (parms fs) i = 0
  calm : ∀ i, i < r.code.length → idleP r.code (parms fs) i → ¬ WayI r.code (parms fs) i i
  acc : ∀ j, j < r.code.length → accB ks fs.length (syAt ss n) r j = true
theorem taken_may {ks : List Ki} {ss : List Sy} {fs : List Rou} (h : verifyO ks ss fs = none) : MayP ss fs ∧ ∀ q, q < 4 → lookO ks ss fs q = none := by
  unfold verifyO at h
  split at h
  · split at h
    · rename_i hm
      refine ⟨hm, fun q hq => ?_⟩
      rw [List.findSome?_eq_none_iff] at h
      exact h q (List.mem_range.2 hq)
    · cases h
  · cases h
theorem taken_at {ks : List Ki} {ss : List Sy} {fs : List Rou} (h : verifyO ks ss fs = none) {n : Nat} (hn : n < ss.length + fs.length) : TakenI ks ss fs n ((rousL ss fs)[n]!) := by
  obtain ⟨hm, hl⟩ := taken_may h
  have h1 : touchO ks ss fs = none := hl 1 (by omega)
  have h3 : waysO ss fs = none := hl 3 (by omega)
  unfold waysO at h3
  have hw : (List.range (ss.length + fs.length)).findSome? (wholeI ss fs) = none := by
    cases g : (List.range (ss.length + fs.length)).findSome? (wholeI ss fs) with
    | none => rfl
    | some x => rw [g] at h3; cases h3
  rw [hw] at h3
  rw [List.findSome?_eq_none_iff] at hw h3
  have hwn := hw n (List.mem_range.2 hn)
  have htn : wturnI ss fs n = none := h3 n (List.mem_range.2 hn)
  have hW : wholeS ((rousL ss fs)[n]!).code (parms fs) = .ok () := by
    unfold wholeI at hwn
    cases g : wholeS ((rousL ss fs)[n]!).code (parms fs) with
    | error ae => rw [g] at hwn; cases hwn
    | ok u => rfl
  obtain ⟨hpos, hgood⟩ := wholeS_ok hW
  refine ⟨may_len hm hn, hpos, hW, hgood, fun i hi hid hway => ?_, fun j hj => ?_⟩
  · unfold wturnI at htn
    rw [Option.map_eq_none_iff, List.find?_range_eq_none] at htn
    have := htn i hi
    rw [turnB_t ⟨hid, hway⟩] at this
    cases this
  · have := touch_none h1 hn hj
    unfold tAt at this
    cases g : accB ks fs.length (syAt ss n) ((rousL ss fs)[n]!) j with
    | true => rfl
    | false => rw [g] at this; cases this
variable {c : List Ins} {ps : List Int}
theorem wr_fits {i d : Nat} (hw : wr c ps i = 0) (hr : Rch c ps i d) : fits ps c[i]! d ∧ (∀ e, Rch c ps i e → e = d) ∧ ¬ jumpBad c i := by
  have hj : ¬ jumpBad c i := fun h => by rw [wr_150 h] at hw; cases hw
  have hs : ¬ stackBad c ps i := fun h => by rw [wr_151 hj h] at hw; cases hw
  refine ⟨Classical.byContradiction fun g => hs (.inl ⟨d, hr, g⟩), fun e he => Classical.byContradiction fun g => hs (.inr ⟨e, d, he, hr, g⟩), hj⟩
structure Calm (c : List Ins) (ps : List Int) (at' : Nat) (L : List Nat) : Prop where
  nd : L.Nodup
  lt : ∀ x ∈ L, x < c.length
  way : ∀ x ∈ L, WayI c ps x at'
theorem Calm.nil (at' : Nat) : Calm c ps at' [] := ⟨List.nodup_nil, fun x hx => (by cases hx), fun x hx => (by cases hx)⟩
theorem Calm.add {i y : Nat} {L : List Nat} (h : Calm c ps i L) (hi : i < c.length) (hid : idleP c ps i) (hno : ¬ WayI c ps i i) (hy : (y : Int) ∈ nexts c i) : Calm c ps y (i :: L) := by
  refine ⟨List.nodup_cons.2 ⟨fun hm => hno (h.way i hm), h.nd⟩, fun x hx => ?_, fun x hx => ?_⟩
  · rcases List.mem_cons.1 hx with rfl | hx
    · exact hi
    · exact h.lt x hx
  · rcases List.mem_cons.1 hx with rfl | hx
    · exact .one ⟨hid, hy⟩
    · exact .more (h.way x hx) ⟨hid, hy⟩
theorem Calm.len {i : Nat} {L : List Nat} (h : Calm c ps i L) : L.length ≤ c.length := by
  have hsub : L.length ≤ (List.range c.length).length := h.nd.length_le_of_subset fun d hd => List.mem_range.2 (h.lt d hd)
  rwa [List.length_range] at hsub
theorem Calm.len' {i : Nat} {L : List Nat} (h : Calm c ps i L) (hi : i < c.length) (hno : ¬ WayI c ps i i) : (i :: L).length ≤ c.length := by
  have hsub : (i :: L).length ≤ (List.range c.length).length := (List.nodup_cons.2 ⟨fun hm => hno (h.way i hm), h.nd⟩).length_le_of_subset fun d hd => by
    rcases List.mem_cons.1 hd with rfl | hd
    · exact List.mem_range.2 hi
    · exact List.mem_range.2 (h.lt d hd)
  rwa [List.length_range] at hsub
def rwL : Option Sy → List (List Int)
  | some x => [x.l 2, x.l 3]
  | none => []
def wrL : Option Sy → List (List Int)
  | some x => [x.l 3]
  | none => []
structure AccOk (ks : List Ki) (nf : Nat) (sy : Option Sy) (locals : Int) (op arg : Int) : Prop where
  outer : wouterB op = true → sy.isSome = true
  var : op = 2 ∨ op = 3 → 0 ≤ arg ∧ arg < locals
  field : op = 4 → declB ks arg (rwL sy) = true
  put : op = 5 → declB ks arg (wrL sy) = true
  call : op = 21 → 0 ≤ arg ∧ arg < nf
  ret : op = 22 → sy = none
  part : op = 26 ∨ op = 28 → wholeB ks arg = true
  kind : op = 29 ∨ op = 35 → fieldsI ks arg ≥ 0
theorem acc_ok {ks : List Ki} {nf : Nat} {sy : Option Sy} {r : Rou} {n : Nat} (h : accB ks nf sy r n = true) : AccOk ks nf sy r.locals (r.code[n]!).1 (r.code[n]!).2 := by
  unfold accB at h
  generalize (r.code[n]!).1 = op at *
  generalize (r.code[n]!).2 = arg at *
  have h0 : (sy.isNone && wouterB op) = false := by
    cases g : (sy.isNone && wouterB op) with
    | false => rfl
    | true => rw [if_pos g] at h; cases h
  rw [if_neg (by rw [h0]; simp)] at h
  refine ⟨fun ho => ?_, fun e => ?_, fun e => ?_, fun e => ?_, fun e => ?_, fun e => ?_, fun e => ?_, fun e => ?_⟩
  · rw [ho, Bool.and_true] at h0
    cases sy with
    | none => cases h0
    | some y => rfl
  · rw [if_pos e] at h; simpa using h
  · subst e; cases sy <;> simpa [rwL, wrL] using h
  · subst e; cases sy <;> simpa [rwL, wrL] using h
  · subst e; simpa using h
  · subst e
    have : sy.isNone = true := by simpa using h
    simpa using this
  · rcases e with e | e
    · subst e
      simp at h; exact h.1
    · subst e; simpa using h
  · rcases e with e | e <;> subst e <;> simpa using h
theorem fieldsI_in {ks : List Ki} {n : Int} (h : 0 ≤ fieldsI ks n) : 1 ≤ n ∧ n ≤ ks.length ∧ fieldsI ks n = ((ks[(n - 1).toNat]!).l.length : Nat) := by
  unfold fieldsI at h ⊢
  split at h
  · rename_i g
    rw [if_pos g]
    exact ⟨g.1, g.2, rfl⟩
  · omega
end
section
open Hc Hc.Vf Hc.Mc Hc.Dice
structure VC (ks : List Ki) (ss : List Sy) (fs : List Rou) (n : Nat) (ps : List Pt) : Prop where
  ver : verifyO ks ss fs = none
  hn : n < ss.length
  has : ∀ k : Int, k ∈ (ss[n]!).l 2 ∨ k ∈ (ss[n]!).l 3 → 1 ≤ k ∧ k ≤ ks.length → ∃ v, lookV ps k = some v ∧ (v.length : Int) = fieldsI ks k
variable {ks : List Ki} {ss : List Sy} {fs : List Rou} {n : Nat} {ps : List Pt}
abbrev vP (ss : List Sy) (fs : List Rou) (n : Nat) : MP := mpS (ss[n]!) n fs
def ixOf (ss : List Sy) (n : Nat) : List Nat → Nat
  | [] => n
  | j :: _ => ss.length + j
abbrev rtOf (ss : List Sy) (fs : List Rou) (n : Nat) (js : List Nat) : Rou := (rousL ss fs)[ixOf ss n js]!
structure ActV (fs : List Rou) (r : Rou) (a : Actn) (d : Nat) : Prop where
  fn : a.fn = fnOf r
  nx : 0 ≤ a.nx ∧ a.nx < r.code.length
  loc : r.locals ≤ a.loc.length
  rch : Rch r.code (parms fs) a.nx.toNat d
def Stk (ss : List Sy) (fs : List Rou) (n : Nat) : List Actn → List Nat → Prop
  | [], [] => True
  | a :: r, _ :: t => ActV fs (rtOf ss fs n t) a (a.stk.length + 1) ∧ Stk ss fs n r t
  | _, _ => False
structure InvV (ks : List Ki) (ss : List Sy) (fs : List Rou) (n : Nat) (ps : List Pt) (m : Ms) (js : List Nat) (L : List Nat) : Prop where
  stk : Stk ss fs n m.low.reverse js
  jl : ∀ j ∈ js, j < fs.length
  jp : js.Pairwise fun y x => Relation.TransGen (CallsR fs) x y
  top : ActV fs (rtOf ss fs n js) m.top m.top.stk.length
  calm : Calm (rtOf ss fs n js).code (parms fs) m.top.nx.toNat L
  since : m.since ≤ L.length + 2000 * (16 - (js.length : Int))
  vals : shp2 m.vals = shp2 (firsts ps)
  kept : m.kept = [] ∨ (js = [] ∧ (∀ k : Nat, 1 ≤ k → k ≤ m.kept.length → opI (rtOf ss fs n js).code (m.top.nx - k) = 26) ∧ (opI (rtOf ss fs n js).code m.top.nx = 26 ∨ opI (rtOf ss fs n js).code m.top.nx = 27))
theorem stk_len : ∀ {l : List Actn} {js : List Nat}, Stk ss fs n l js → l.length = js.length
  | [], [], _ => rfl
  | _ :: _, _ :: _, h => by simp only [List.length_cons, stk_len h.2]
  | [], _ :: _, h => h.elim
  | _ :: _, [], h => h.elim
theorem ix_lt (hn : n < ss.length) {js : List Nat} (hj : ∀ j ∈ js, j < fs.length) : ixOf ss n js < ss.length + fs.length := by
  cases js with
  | nil => show n < _; omega
  | cons j t => have := hj j (by simp); show ss.length + j < _; omega
theorem ver_round (hv : verifyO ks ss fs = none) {f : Nat} (hf : f < fs.length) : ¬ Round fs f f := by
  have h := (taken_may hv).2 2 (by omega)
  have h : callsO ss fs = none := h
  unfold callsO at h
  rw [Option.map_eq_none_iff, List.find?_range_eq_none] at h
  have := h f hf
  intro hr
  rw [roundB_t hr] at this
  cases this
theorem js_nodup (hv : verifyO ks ss fs = none) : ∀ {js : List Nat}, (∀ j ∈ js, j < fs.length) → (js.Pairwise fun y x => Relation.TransGen (CallsR fs) x y) → js.Nodup
  | [], _, _ => List.nodup_nil
  | j :: t, hl, hp => by
    rw [List.pairwise_cons] at hp
    refine List.nodup_cons.2 ⟨fun hm => ver_round hv (hl j (by simp)) (hp.1 j hm), js_nodup hv (fun x hx => hl x (by simp [hx])) hp.2⟩
theorem js_len (hv : verifyO ks ss fs = none) {js : List Nat} (hl : ∀ j ∈ js, j < fs.length) (hp : js.Pairwise fun y x => Relation.TransGen (CallsR fs) x y) : js.length ≤ 16 := by
  have hs : js.length ≤ (List.range fs.length).length := (js_nodup hv hl hp).length_le_of_subset fun d hd => List.mem_range.2 (hl d hd)
  rw [List.length_range] at hs
  have := (taken_may hv).1.2.1
  omega
theorem ok_rou (hv : verifyO ks ss fs = none) {i : Nat} (hi : i < ss.length + fs.length) : rouOk ((rousL ss fs)[i]!) = true := by
  have hm := (taken_may hv).1
  have hl : (rousL ss fs).length = ss.length + fs.length := by rw [List.length_append, List.length_map]
  have hmem : (rousL ss fs)[i]! ∈ rousL ss fs := by rw [getElem!_pos (rousL ss fs) i (by omega)]; exact List.getElem_mem _
  rcases List.mem_append.1 hmem with g | g
  · obtain ⟨x, hx, e⟩ := List.mem_map.1 g
    rw [← e]; exact (hm.2.2.1 x hx).2
  · exact hm.2.2.2.1 _ g
theorem ok_ins {r : Rou} (h : rouOk r = true) {i : Nat} (hi : i < r.code.length) : isOpB (r.code[i]!).1 = true := by
  unfold rouOk at h
  simp only [Bool.and_eq_true, List.all_eq_true] at h
  have := h.2 (r.code[i]!) (by rw [getElem!_pos r.code i hi]; exact List.getElem_mem _)
  unfold instrOk at this
  simp only [Bool.and_eq_true] at this
  exact this.1
theorem ok_loc {r : Rou} (h : rouOk r = true) : 0 ≤ r.params ∧ r.params ≤ r.locals ∧ r.locals ≤ 32 := by
  unfold rouOk sizedOk at h
  simp only [Bool.and_eq_true, decide_eq_true_eq] at h
  omega
theorem locals_ge {f : Fnc} (hf : f.locals ≤ 32) (l : List Int) : f.locals ≤ ((locals f l).length : Int) := by
  unfold locals
  rw [List.length_append, List.length_replicate]
  omega
theorem look_shp {a b : List Pt} (h : shp2 a = shp2 b) (k : Int) : (lookV a k).map List.length = (lookV b k).map List.length := by
  induction a generalizing b with
  | nil => cases b with
    | nil => rfl
    | cons => cases h
  | cons p a ih => cases b with
    | nil => cases h
    | cons q b =>
      simp only [shp2, List.map_cons, List.cons.injEq, Prod.mk.injEq] at h
      have := ih (b := b) h.2
      unfold lookV at this ⊢
      simp only [List.find?_cons, h.1.1]
      cases q.kind == k
      · exact this
      · simp [h.1.2]
theorem nexts_go {c : List Ins} {i : Nat} (h1 : (c[i]!).1 ≠ 19) (h2 : (c[i]!).1 ≠ 22) (h3 : (c[i]!).1 ≠ 23) : (((i + 1 : Nat)) : Int) ∈ nexts c i := by
  unfold nexts
  dsimp only
  rw [if_neg (by omega), if_neg h1]
  split <;> simp
structure NowV (ks : List Ki) (ss : List Sy) (fs : List Rou) (n : Nat) (m : Ms) (js : List Nat) (i : Ins) : Prop where
  at' : m.top.nx.toNat < (rtOf ss fs n js).code.length
  ins : (rtOf ss fs n js).code[m.top.nx.toNat]! = i
  fn : m.top.fn.code = (rtOf ss fs n js).code
  tk : TakenI ks ss fs (ixOf ss n js) (rtOf ss fs n js)
  fit : fits (parms fs) i m.top.stk.length
  acc : AccOk ks fs.length (syAt ss (ixOf ss n js)) (rtOf ss fs n js).locals i.1 i.2
  sy : (js = [] ∧ syAt ss (ixOf ss n js) = some (ss[n]!)) ∨ (js ≠ [] ∧ syAt ss (ixOf ss n js) = none)
  op : isOpB i.1 = true
theorem InvV.now (hc : VC ks ss fs n ps) {m : Ms} {js L : List Nat} (h : InvV ks ss fs n ps m js L) : NowV ks ss fs n m js ((rtOf ss fs n js).code[m.top.nx.toNat]!) := by
  have hi := ix_lt (fs := fs) hc.hn h.jl
  have hnx := h.top.nx
  have ha : m.top.nx.toNat < (rtOf ss fs n js).code.length := by omega
  have hT := taken_at hc.ver hi
  refine ⟨ha, rfl, by rw [h.top.fn], hT, (wr_fits (hT.good _ ha ⟨_, h.top.rch⟩) h.top.rch).1, acc_ok (hT.acc _ ha), ?_, ok_ins (ok_rou hc.ver hi) ha⟩
  cases js with
  | nil => exact .inl ⟨rfl, by unfold syAt; exact if_pos hc.hn⟩
  | cons j t => exact .inr ⟨by simp, by unfold syAt; exact if_neg (show ¬ ss.length + j < _ by omega)⟩
theorem outer_eq (op : Int) : Mc.outerB op = wouterB op := by
  unfold Mc.outerB wouterB
  simp
theorem NowV.sys {m : Ms} {js : List Nat} {i : Ins} (h : NowV ks ss fs n m js i) (ho : wouterB i.1 = true) : js = [] := by
  have := h.acc.outer ho
  rcases h.sy with ⟨e, _⟩ | ⟨_, e⟩
  · exact e
  · rw [e] at this; cases this
theorem ksl_le (hv : verifyO ks ss fs = none) : ks.length ≤ 12 := by
  unfold verifyO at hv
  split at hv
  · rename_i h
    unfold mayK at h
    simp only [Bool.and_eq_true, decide_eq_true_eq] at h
    omega
  · cases hv
theorem field_ok (hc : VC ks ss fs n ps) {m : Ms} (hv : shp2 m.vals = shp2 (firsts ps)) {a : Int} (ha : I64 a) {set : List Int} {ls : List (List Int)} (hs : ∀ k, (∃ l ∈ ls, k ∈ l) → k ∈ set) (hs2 : ∀ k, (∃ l ∈ ls, k ∈ l) → k ∈ (ss[n]!).l 2 ∨ k ∈ (ss[n]!).l 3)
    (h : declB ks a ls = true) : fieldOk m.vals a set = true := by
  unfold declB at h
  simp only [Bool.and_eq_true, decide_eq_true_eq, List.any_eq_true] at h
  obtain ⟨⟨h0, h1⟩, h2⟩ := h
  have e1 : a.tdiv 8 = a / 8 := Int.tdiv_eq_ediv_of_nonneg h0
  have e2 : a.tmod 8 = a % 8 := Int.tmod_eq_emod_of_nonneg h0
  unfold I64 at ha
  have e3 : IntKind.wrap .i64 (a.tdiv 8) = a / 8 := by rw [e1]; exact wrap_i64_id (by omega) (by omega)
  rw [e3] at h1 h2
  rw [e2] at h1
  have hp := fieldsI_in (ks := ks) (n := a / 8) (by omega)
  obtain ⟨v, hv1, hv2⟩ := hc.has (a / 8) (hs2 _ h2) ⟨hp.1, hp.2.1⟩
  have := look_shp hv (a / 8)
  rw [look_firsts, hv1] at this
  simp only [Option.map_some, Option.map_eq_some_iff] at this
  obtain ⟨w, hw1, hw2⟩ := this
  unfold fieldOk
  rw [hw1]
  simp only [Bool.and_eq_true, decide_eq_true_eq, List.contains_iff_mem]
  exact ⟨⟨h0, by omega⟩, hs _ h2⟩
theorem whole_kind {ss : List Sy} {fs : List Rou} (hv : verifyO ks ss fs = none) {a : Int} (ha : I64 a) (h : wholeB ks a = true) : 0 ≤ a ∧ isKindB (a / 8) = true := by
  unfold wholeB at h
  simp only [decide_eq_true_eq] at h
  obtain ⟨h0, h1⟩ := h
  unfold I64 at ha
  have e1 : a.tdiv 8 = a / 8 := Int.tdiv_eq_ediv_of_nonneg h0
  rw [e1, wrap_i64_id (by omega) (by omega), Int.tmod_eq_emod_of_nonneg h0] at h1
  have hp := fieldsI_in (ks := ks) (n := a / 8) (by omega)
  have := ksl_le hv
  exact ⟨h0, decide_eq_true (by omega)⟩
theorem kept_lt {m : Ms} {js L : List Nat} (h : InvV ks ss fs n ps m js L) (hr : rowB (rtOf ss fs n js).code m.top.nx.toNat = true) : m.kept.length < 12 := by
  rcases h.kept with e | ⟨_, hk, _⟩
  · rw [e]; decide
  · unfold rowB at hr
    simp only [Bool.and_eq_true, List.any_eq_true, List.mem_range, decide_eq_true_eq] at hr
    obtain ⟨_, j, hj, hne⟩ := hr
    have hnx := h.top.nx
    rw [show ((m.top.nx.toNat : Nat) : Int) = m.top.nx by omega] at hne
    by_cases hlt : m.kept.length < 12
    · exact hlt
    · exact absurd (hk (j + 1) (by omega) (by omega)) hne
theorem InvV.rdy (hc : VC ks ss fs n ps) (hP : POk (vP ss fs n)) {m : Ms} {js L : List Nat} (h : InvV ks ss fs n ps m js L) : Mc.ready (vP ss fs n) m = 0 ∨ Mc.ready (vP ss fs n) m = 102 := by
  have nw := h.now hc
  have hnx := h.top.nx
  have hfn := nw.fn
  have hlen := nw.tk.len
  have hcl := h.calm.len
  have hjl := js_len hc.ver h.jl h.jp
  have hmem : (rtOf ss fs n js).code[m.top.nx.toNat]! ∈ (rtOf ss fs n js).code := by rw [getElem!_pos (rtOf ss fs n js).code m.top.nx.toNat nw.at']; exact List.getElem_mem _
  have hi64 : I64 ((rtOf ss fs n js).code[m.top.nx.toNat]!).2 := by
    cases js with
    | nil =>
      have e : rtOf ss fs n [] = (ss[n]!).rou := rous_sys hc.hn
      rw [e] at hmem ⊢
      exact (hP.sys.code _ hmem).2
    | cons j t =>
      have hj := h.jl j (by simp)
      have e : rtOf ss fs n (j :: t) = fs[j]! := rous_fun hj
      rw [e] at hmem ⊢
      exact ((hP.fns (fnOf fs[j]!) (List.mem_map.2 ⟨_, by rw [getElem!_pos fs j hj]; exact List.getElem_mem _, rfl⟩)).code _ hmem).2
  have hsl := stk_len h.stk
  rw [List.length_reverse] at hsl
  have hsince := h.since
  have hstk := nw.fit
  have hrow : ((rtOf ss fs n js).code[m.top.nx.toNat]!).1 = 26 → rowB (rtOf ss fs n js).code m.top.nx.toNat = true := fun e => by
    have ha := nw.tk.acc _ nw.at'
    unfold accB at ha
    rw [e] at ha
    simp only [show ((26 : Int) = 2 ∨ (26 : Int) = 3) = False by simp, show ((26 : Int) = 4) = False by simp, show ((26 : Int) = 5) = False by simp, show ((26 : Int) = 21) = False by simp, show ((26 : Int) = 22) = False by simp, if_true, if_false] at ha
    split at ha
    · cases ha
    · simp only [Bool.and_eq_true] at ha; exact ha.2
  unfold Mc.ready
  rw [hfn]
  have hps : (vP ss fs n).ps = parms fs := by unfold MP.ps; simp [parms]
  rw [hps]
  generalize hins : (rtOf ss fs n js).code[m.top.nx.toNat]! = i at *
  obtain ⟨op, A⟩ := i
  rw [if_neg (by omega), if_neg (by omega), if_neg (by rw [nw.op]; decide), if_neg (by unfold fits at hstk; omega)]
  have hac : access (vP ss fs n) m (op, A) = true := by
    have hA := nw.acc
    have hop : 1 ≤ op ∧ op ≤ 39 := by have := nw.op; unfold isOpB at this; simpa using this
    unfold access
    rw [if_neg ?_]
    rotate_left
    · rintro ⟨hl, ho⟩
      have := nw.sys ((outer_eq _).symm.trans ho)
      subst this
      have : m.low = [] := by rw [← List.length_eq_zero_iff]; simpa using hsl
      exact hl this
    dsimp only at hA hi64 hrow ⊢
    have hloc := h.top.loc
    have sysNo : js = [] → syAt ss (ixOf ss n js) = some (ss[n]!) := fun e => by
      rcases nw.sy with ⟨_, g⟩ | ⟨g, _⟩
      · exact g
      · exact absurd e g
    by_cases o2 : op = 2 ∨ op = 3
    · have := hA.var o2
      have e : accessM (vP ss fs n) m op.toNat A = decide (0 ≤ A ∧ A < (m.top.loc.length : Int)) := by rcases o2 with rfl | rfl <;> rfl
      rw [e]; exact decide_eq_true (by omega)
    by_cases o4 : op = 4
    · subst o4
      have hs := nw.sys (show wouterB _ = true from rfl)
      have := hA.field rfl
      rw [sysNo hs] at this
      refine field_ok hc h.vals hi64 (fun k => ?_) (fun k => ?_) this
      · rintro ⟨l, hl, hk⟩
        simp only [rwL, List.mem_cons, List.not_mem_nil, or_false] at hl
        rcases hl with rfl | rfl
        · exact List.mem_append_left _ hk
        · exact List.mem_append_right _ hk
      · rintro ⟨l, hl, hk⟩
        simp only [rwL, List.mem_cons, List.not_mem_nil, or_false] at hl
        rcases hl with rfl | rfl
        · exact .inl hk
        · exact .inr hk
    by_cases o5 : op = 5
    · subst o5
      have hs := nw.sys (show wouterB _ = true from rfl)
      have := hA.put rfl
      rw [sysNo hs] at this
      refine field_ok hc h.vals hi64 (fun k => ?_) (fun k => ?_) this
      · rintro ⟨l, hl, hk⟩
        simp only [wrL, List.mem_cons, List.not_mem_nil, or_false] at hl
        rw [hl] at hk; exact hk
      · rintro ⟨l, hl, hk⟩
        simp only [wrL, List.mem_cons, List.not_mem_nil, or_false] at hl
        rw [hl] at hk; exact .inr hk
    by_cases o21 : op = 21
    · subst o21
      have hcall := hA.call rfl
      have hl2 : (A.toNat :: js).length ≤ 16 := by
        refine js_len hc.ver (fun j hj => ?_) ?_
        · rcases List.mem_cons.1 hj with rfl | hj
          · omega
          · exact h.jl j hj
        · refine List.pairwise_cons.2 ⟨fun x hx => ?_, h.jp⟩
          cases js with
          | nil => cases hx
          | cons j t =>
            have hj := h.jl j (by simp)
            have e : rtOf ss fs n (j :: t) = fs[j]! := rous_fun hj
            have hcr : CallsR fs j A.toNat := ⟨m.top.nx.toNat, by rw [← e]; exact nw.at', by rw [← e, hins], by rw [← e, hins]; show A = _; omega⟩
            rcases List.mem_cons.1 hx with rfl | hx
            · exact .single hcr
            · exact .tail ((List.pairwise_cons.1 h.jp).1 x hx) hcr
      simp only [List.length_cons] at hl2
      refine decide_eq_true ⟨hcall.1, ?_, by omega⟩
      rw [List.length_map]; exact hcall.2
    by_cases o22 : op = 22
    · subst o22
      have hr := hA.ret rfl
      have hne : js ≠ [] := fun e => by rw [sysNo e] at hr; cases hr
      refine decide_eq_true fun e => hne ?_
      rw [e] at hsl
      exact List.length_eq_zero_iff.1 hsl.symm
    by_cases o26 : op = 26
    · subst o26
      have hw := whole_kind hc.ver hi64 (hA.part (.inl rfl))
      have hk := kept_lt h (hrow rfl)
      show (decide (0 ≤ A) && isKindB (A / 8) && decide (m.kept.length < 12)) = true
      rw [hw.2, decide_eq_true hw.1, decide_eq_true hk]; rfl
    by_cases o28 : op = 28
    · subst o28
      have hw := whole_kind hc.ver hi64 (hA.part (.inr rfl))
      show (decide (0 ≤ A) && isKindB (A / 8)) = true
      rw [hw.2, decide_eq_true hw.1]; rfl
    by_cases o29 : op = 29 ∨ op = 35
    · have hp := fieldsI_in (hA.kind o29)
      have := ksl_le hc.ver
      have e : accessM (vP ss fs n) m op.toNat A = isKindB A := by rcases o29 with rfl | rfl <;> rfl
      rw [e]; exact decide_eq_true (by omega)
    exact accessM_other (by omega)
  rw [hac]
  simp only [Bool.true_eq_false, if_false]
  split
  · exact .inr rfl
  · exact .inl rfl
end
section
open Hc Hc.Vf Hc.Mc Hc.Dice
variable {ks : List Ki} {ss : List Sy} {fs : List Rou} {n : Nat} {ps : List Pt}
theorem InvV.keptNo {m : Ms} {js L : List Nat} (h : InvV ks ss fs n ps m js L) {i : Ins} (hi : (rtOf ss fs n js).code[m.top.nx.toNat]! = i) (h1 : i.1 ≠ 26) (h2 : i.1 ≠ 27) : m.kept = [] := by
  rcases h.kept with e | ⟨_, _, e⟩
  · exact e
  · have hnx := h.top.nx
    have : opI (rtOf ss fs n js).code m.top.nx = i.1 := by unfold opI; rw [if_pos hnx, hi]
    rw [this] at e
    rcases e with e | e
    · exact absurd e h1
    · exact absurd e h2
theorem InvV.go (hc : VC ks ss fs n ps) {m m2 : Ms} {js L : List Nat} (h : InvV ks ss fs n ps m js L) {i : Ins} (nw : NowV ks ss fs n m js i) {y : Nat} (hy : (y : Int) ∈ nexts (rtOf ss fs n js).code m.top.nx.toNat)
    (h_low : m2.low = m.low) (h_fn : m2.top.fn = m.top.fn) (h_nx : m2.top.nx = y) (h_loc : m2.top.loc.length = m.top.loc.length) (h_st : (m2.top.stk.length : Int) = m.top.stk.length - takes (parms fs) i + puts i)
    (h_since : m2.since = 0 ∨ (i.1 ≠ 24 ∧ i.1 ≠ 21 ∧ m2.since = m.since + 1)) (h_vals : shp2 m2.vals = shp2 m.vals)
    (h_kept : m2.kept = [] ∨ (js = [] ∧ (∀ k : Nat, 1 ≤ k → k ≤ m2.kept.length → opI (rtOf ss fs n js).code ((y : Int) - k) = 26) ∧ (opI (rtOf ss fs n js).code y = 26 ∨ opI (rtOf ss fs n js).code y = 27))) :
    ∃ L2, InvV ks ss fs n ps m2 js L2 := by
  have hnx := h.top.nx
  have hw := nw.tk.good _ nw.at' ⟨_, h.top.rch⟩
  have hin := nexts_in nw.at' hw _ hy
  have hins := nw.ins
  have hfit := nw.fit
  have hjl := js_len hc.ver h.jl h.jp
  have hb := behind_le hfit
  have hr : Rch (rtOf ss fs n js).code (parms fs) y m2.top.stk.length := by
    refine .step h.top.rch ⟨nw.at', by rw [hins]; exact hfit, hy, by omega, ?_⟩
    rw [hins]; omega
  have htop : ActV fs (rtOf ss fs n js) m2.top m2.top.stk.length := ⟨h_fn.trans h.top.fn, by rw [h_nx]; exact ⟨by omega, hin.2⟩, by rw [h_loc]; exact h.top.loc, by rw [h_nx]; exact hr⟩
  have ey : m2.top.nx.toNat = y := by rw [h_nx]; rfl
  have hk : m2.kept = [] ∨ (js = [] ∧ (∀ k : Nat, 1 ≤ k → k ≤ m2.kept.length → opI (rtOf ss fs n js).code (m2.top.nx - k) = 26) ∧ (opI (rtOf ss fs n js).code m2.top.nx = 26 ∨ opI (rtOf ss fs n js).code m2.top.nx = 27)) := by rw [h_nx]; exact h_kept
  rcases h_since with e | ⟨h24, h21, e⟩
  · exact ⟨[], by rw [h_low]; exact h.stk, h.jl, h.jp, htop, Calm.nil _, by rw [e]; simp only [List.length_nil]; omega, h_vals.trans h.vals, hk⟩
  · have hid : idleP (rtOf ss fs n js).code (parms fs) m.top.nx.toNat := ⟨⟨_, h.top.rch⟩, by rw [hins]; exact h24, by rw [hins]; exact h21⟩
    have hs := h.since
    refine ⟨m.top.nx.toNat :: L, by rw [h_low]; exact h.stk, h.jl, h.jp, htop, ?_, by rw [e]; simp only [List.length_cons]; omega, h_vals.trans h.vals, hk⟩
    rw [ey]
    exact h.calm.add nw.at' hid (nw.tk.calm _ nw.at' hid) hy
theorem cut_len {m : Ms} {t : Int} (h0 : 0 ≤ t) (h : t ≤ m.top.stk.length) : ((m.top.stk.take (m.top.stk.length - t.toNat)).length : Int) = m.top.stk.length - t := by
  rw [List.length_take]; omega
noncomputable abbrev doesV (ss : List Sy) (fs : List Rou) (n : Nat) (E : En) (m : Ms) (i : Ins) : Int × Ms := does (vP ss fs n) E m i
theorem goal_of {r : Rou} {P : MP} {f : Fnc} (hf : f.code = r.code) (hl : r.code.length ≤ 2000) (hP : P.lim = 2 ^ 40) {A : Int} (h : 0 ≤ A ∧ A < r.code.length) : goal P f A = (A.toNat : Nat) := by
  unfold goal
  rw [hf, hP, if_pos (by omega)]; omega
theorem isOp_ne {op : Int} (h : isOpB op = true) : 1 ≤ op ∧ op ≤ 39 := by unfold isOpB at h; simpa using h
theorem puts_bin {i : Ins} (h : isOpB i.1 = true) (hb : isBin i.1 = true ∨ isUn i.1 = true) : puts i = 1 ∧ i.1 ≠ 19 ∧ i.1 ≠ 20 ∧ i.1 ≠ 21 ∧ i.1 ≠ 22 ∧ i.1 ≠ 23 ∧ i.1 ≠ 24 ∧ i.1 ≠ 26 ∧ i.1 ≠ 27 := by
  have key : ∀ o ∈ [(6 : Int), 7, 8, 9, 10, 12, 13, 14, 15, 16, 17, 36, 37, 11, 18, 38], (tbl[o.toNat]!).2.1 = 1 := by decide
  have hm : i.1 ∈ [(6 : Int), 7, 8, 9, 10, 12, 13, 14, 15, 16, 17, 36, 37, 11, 18, 38] := by
    rcases hb with hb | hb
    · unfold isBin at hb; rw [List.contains_iff_mem] at hb
      exact List.mem_append_left [(11 : Int), 18, 38] hb
    · unfold isUn at hb; rw [List.contains_iff_mem] at hb
      exact List.mem_append_right [(6 : Int), 7, 8, 9, 10, 12, 13, 14, 15, 16, 17, 36, 37] hb
  refine ⟨by unfold puts; rw [if_pos h]; exact key _ hm, ?_⟩
  simp only [List.mem_cons, List.not_mem_nil, or_false] at hm
  omega
theorem puts_at {op A : Int} (hop : isOpB op = true) : puts (op, A) = (tbl[op.toNat]!).2.1 := by unfold puts; rw [if_pos hop]
theorem NowV.row {m : Ms} {js : List Nat} {i : Ins} (nw : NowV ks ss fs n m js i) (h : i.1 = 26) : rowB (rtOf ss fs n js).code m.top.nx.toNat = true := by
  have ha := nw.tk.acc _ nw.at'
  unfold accB at ha
  rw [nw.ins, h] at ha
  simp only [show ((26 : Int) = 2 ∨ (26 : Int) = 3) = False by simp, show ((26 : Int) = 4) = False by simp, show ((26 : Int) = 5) = False by simp, show ((26 : Int) = 21) = False by simp, show ((26 : Int) = 22) = False by simp, if_true, if_false] at ha
  split at ha
  · cases ha
  · simp only [Bool.and_eq_true] at ha; exact ha.2
theorem InvV.callJ {m : Ms} {js L : List Nat} (h : InvV ks ss fs n ps m js L) {i : Ins} (nw : NowV ks ss fs n m js i) (hi : i.1 = 21) : (∀ j ∈ i.2.toNat :: js, j < fs.length) ∧ (i.2.toNat :: js).Pairwise fun y x => Relation.TransGen (CallsR fs) x y := by
  have hcall := nw.acc.call hi
  refine ⟨fun j hj => ?_, List.pairwise_cons.2 ⟨fun x hx => ?_, h.jp⟩⟩
  · rcases List.mem_cons.1 hj with rfl | hj
    · omega
    · exact h.jl j hj
  · cases js with
    | nil => cases hx
    | cons j t =>
      have hj := h.jl j (by simp)
      have e : rtOf ss fs n (j :: t) = fs[j]! := rous_fun hj
      have hcr : CallsR fs j i.2.toNat := ⟨m.top.nx.toNat, by rw [← e]; exact nw.at', by rw [← e, nw.ins]; exact hi, by rw [← e, nw.ins]; omega⟩
      rcases List.mem_cons.1 hx with rfl | hx
      · exact .single hcr
      · exact .tail ((List.pairwise_cons.1 h.jp).1 x hx) hcr
theorem InvV.does (hc : VC ks ss fs n ps) {E : En} {m : Ms} {js L : List Nat} (h : InvV ks ss fs n ps m js L) {i : Ins} (nw : NowV ks ss fs n m js i) :
    (doesV ss fs n E m i).1 = 0 ∧ ((doesV ss fs n E m i).2.over = true ∨ ∃ js2 L2, InvV ks ss fs n ps (doesV ss fs n E m i).2 js2 L2) ∨ (doesV ss fs n E m i).1 = 120 := by
  have hins := nw.ins
  have hop := nw.op
  have hnx := h.top.nx
  have hfit := nw.fit
  have htb := takes_bd (parms fs) i
  have hpb := puts_bd i
  have hlenC := nw.tk.len
  have enx : m.top.nx + 1 = ((m.top.nx.toNat + 1 : Nat) : Int) := by omega
  have hps : (vP ss fs n).ps = parms fs := by unfold MP.ps; simp [parms]
  have hcl : ((m.top.stk.take (m.top.stk.length - (takes (parms fs) i).toNat)).length : Int) = m.top.stk.length - takes (parms fs) i := cut_len htb (by unfold fits at hfit; omega)
  have go1 : i.1 ≠ 19 → i.1 ≠ 22 → i.1 ≠ 23 → ((m.top.nx.toNat + 1 : Nat) : Int) ∈ nexts (rtOf ss fs n js).code m.top.nx.toNat := fun h1 h2 h3 => nexts_go (by rw [hins]; exact h1) (by rw [hins]; exact h2) (by rw [hins]; exact h3)
  have kn : i.1 ≠ 26 → i.1 ≠ 27 → m.kept = [] := h.keptNo hins
  -- what puts one number
  have push : ∀ (x : Int) (m2 : Ms), i.1 ≠ 19 → i.1 ≠ 21 → i.1 ≠ 22 → i.1 ≠ 23 → i.1 ≠ 24 → i.1 ≠ 26 → i.1 ≠ 27 → puts i = 1 → m2.low = m.low → m2.top = { (cut m (takes (parms fs) i).toNat).top with stk := (cut m (takes (parms fs) i).toNat).top.stk ++ [x] } → m2.since = m.since + 1 → m2.vals = m.vals → m2.kept = m.kept →
      (m2.over = true ∨ ∃ js2 L2, InvV ks ss fs n ps m2 js2 L2) := fun x m2 h19 h21 h22 h23 h24 h26 h27 hp e1 e2 e3 e4 e5 => by
    obtain ⟨L2, hL⟩ := h.go hc nw (m2 := m2) (go1 h19 h22 h23) e1 (by rw [e2]; rfl) (by rw [e2]; exact enx) (by rw [e2]; rfl) (by
      rw [e2]; dsimp only [Mc.cut]; rw [List.length_append, List.length_singleton, hp]; push_cast; omega) (.inr ⟨h24, h21, e3⟩) (by rw [e4]) (.inl (by rw [e5]; exact kn h26 h27))
    exact .inr ⟨js, L2, hL⟩
  -- what puts none
  have flat : ∀ (m2 : Ms), i.1 ≠ 19 → i.1 ≠ 21 → i.1 ≠ 22 → i.1 ≠ 23 → i.1 ≠ 26 → i.1 ≠ 27 → puts i = 0 → m2.low = m.low → m2.top.fn = m.top.fn → m2.top.nx = m.top.nx + 1 → m2.top.loc.length = m.top.loc.length → m2.top.stk = (cut m (takes (parms fs) i).toNat).top.stk →
      (m2.since = 0 ∨ (i.1 ≠ 24 ∧ m2.since = m.since + 1)) → shp2 m2.vals = shp2 m.vals → m2.kept = [] ∨ m2.kept = m.kept → (m2.over = true ∨ ∃ js2 L2, InvV ks ss fs n ps m2 js2 L2) := fun m2 h19 h21 h22 h23 h26 h27 hp e1 e2 e3 e4 e5 e6 e7 e8 => by
    obtain ⟨L2, hL⟩ := h.go hc nw (m2 := m2) (go1 h19 h22 h23) e1 e2 (by rw [e3]; exact enx) e4 (by
      rw [e5]; dsimp only [Mc.cut]; rw [hp]; omega) (e6.imp id fun g => ⟨g.1, h21, g.2⟩) e7 (.inl (by rcases e8 with e8 | e8 <;> rw [e8]; exact kn h26 h27))
    exact .inr ⟨js, L2, hL⟩
  unfold doesV Mc.does
  rw [hps]
  dsimp only
  split
  · rename_i hb
    obtain ⟨p1, p2, p3, p4, p5, p6, p7, p8, p9⟩ := puts_bin hop (.inl hb)
    exact .inl ⟨rfl, push _ _ p2 p4 p5 p6 p7 p8 p9 p1 rfl rfl rfl rfl rfl⟩
  split
  · rename_i hb
    obtain ⟨p1, p2, p3, p4, p5, p6, p7, p8, p9⟩ := puts_bin hop (.inr hb)
    exact .inl ⟨rfl, push _ _ p2 p4 p5 p6 p7 p8 p9 p1 rfl rfl rfl rfl rfl⟩
  rename_i hnb hnu
  obtain ⟨op, A⟩ := i
  have hop2 := isOp_ne hop
  dsimp only at *
  have hpt := puts_at (A := A) hop
  have hoc : op = 1 ∨ op = 2 ∨ op = 3 ∨ op = 4 ∨ op = 5 ∨ op = 19 ∨ op = 20 ∨ op = 21 ∨ op = 22 ∨ op = 23 ∨ op = 24 ∨ op = 25 ∨ op = 26 ∨ op = 27 ∨ op = 28 ∨ op = 29 ∨ op = 30 ∨ op = 31 ∨ op = 32 ∨ op = 33 ∨ op = 34 ∨ op = 35 ∨ op = 39 := by
    unfold isBin at hnb
    unfold isUn at hnu
    rw [List.contains_iff_mem] at hnb hnu
    simp only [List.mem_cons, List.not_mem_nil, or_false] at hnb hnu
    omega
  rcases hoc with rfl | rfl | rfl | rfl | rfl | rfl | rfl | rfl | rfl | rfl | rfl | rfl | rfl | rfl | rfl | rfl | rfl | rfl | rfl | rfl | rfl | rfl | rfl
  · exact .inl ⟨rfl, push _ _ (by decide) (by decide) (by decide) (by decide) (by decide) (by decide) (by decide) hpt rfl rfl rfl rfl rfl⟩
  · exact .inl ⟨rfl, push _ _ (by decide) (by decide) (by decide) (by decide) (by decide) (by decide) (by decide) hpt rfl rfl rfl rfl rfl⟩
  · exact .inl ⟨rfl, flat _ (by decide) (by decide) (by decide) (by decide) (by decide) (by decide) hpt rfl rfl rfl (List.length_set) rfl (.inr ⟨by decide, rfl⟩) rfl (.inr rfl)⟩
  · exact .inl ⟨rfl, push _ _ (by decide) (by decide) (by decide) (by decide) (by decide) (by decide) (by decide) hpt rfl rfl rfl rfl rfl⟩
  · exact .inl ⟨rfl, flat _ (by decide) (by decide) (by decide) (by decide) (by decide) (by decide) hpt rfl rfl rfl rfl rfl (.inr ⟨by decide, rfl⟩) (put_shp _ _ _ _) (.inr rfl)⟩
  · -- jump
    left
    refine ⟨rfl, .inr ?_⟩
    have hw := nw.tk.good _ nw.at' ⟨_, h.top.rch⟩
    have hmem : A ∈ nexts (rtOf ss fs n js).code m.top.nx.toNat := by unfold nexts; dsimp only; rw [hins]; simp
    have hin := nexts_in nw.at' hw _ hmem
    have hg := goal_of (P := vP ss fs n) (r := rtOf ss fs n js) nw.fn hlenC rfl hin
    obtain ⟨L2, hL⟩ := h.go hc nw (m2 := (act (vP ss fs n) E m (cut m (takes (parms fs) (19, A)).toNat) (args m (takes (parms fs) (19, A)).toNat) 19 A).2) (y := A.toNat) (by rw [show ((A.toNat : Nat) : Int) = A by omega]; exact hmem) rfl rfl hg rfl (by
      rw [hpt]; show ((m.top.stk.take _).length : Int) = _; rw [hcl]; show _ = _ - _ + (0 : Int); omega) (.inr ⟨show (19 : Int) ≠ 24 by decide, show (19 : Int) ≠ 21 by decide, rfl⟩) rfl (.inl (kn (by decide) (by decide)))
    exact ⟨js, L2, hL⟩
  · -- zero
    left
    have hw := nw.tk.good _ nw.at' ⟨_, h.top.rch⟩
    have hmem : A ∈ nexts (rtOf ss fs n js).code m.top.nx.toNat := by unfold nexts; dsimp only; rw [hins]; simp
    have hin := nexts_in nw.at' hw _ hmem
    have hg := goal_of (P := vP ss fs n) (r := rtOf ss fs n js) nw.fn hlenC rfl hin
    refine ⟨rfl, ?_⟩
    by_cases hz : (args m (takes (parms fs) (20, A)).toNat)[0]! = 0
    · have e : (act (vP ss fs n) E m (cut m (takes (parms fs) (20, A)).toNat) (args m (takes (parms fs) (20, A)).toNat) (20 : Int).toNat A).2 = { cut m (takes (parms fs) (20, A)).toNat with top := { (cut m (takes (parms fs) (20, A)).toNat).top with nx := goal (vP ss fs n) m.top.fn A } } := if_pos hz
      refine (congrArg (fun x : Ms => x.over = true ∨ ∃ js2 L2, InvV ks ss fs n ps x js2 L2) e).mpr ?_
      obtain ⟨L2, hL⟩ := h.go hc nw (m2 := { cut m (takes (parms fs) (20, A)).toNat with top := { (cut m (takes (parms fs) (20, A)).toNat).top with nx := goal (vP ss fs n) m.top.fn A } }) (y := A.toNat) (by rw [show ((A.toNat : Nat) : Int) = A by omega]; exact hmem) rfl rfl hg rfl (by
        rw [hpt]; show ((m.top.stk.take _).length : Int) = _; rw [hcl]; show _ = _ - _ + (0 : Int); omega) (.inr ⟨show (20 : Int) ≠ 24 by decide, show (20 : Int) ≠ 21 by decide, rfl⟩) rfl (.inl (kn (by decide) (by decide)))
      exact .inr ⟨js, L2, hL⟩
    · have e : (act (vP ss fs n) E m (cut m (takes (parms fs) (20, A)).toNat) (args m (takes (parms fs) (20, A)).toNat) (20 : Int).toNat A).2 = cut m (takes (parms fs) (20, A)).toNat := if_neg hz
      refine (congrArg (fun x : Ms => x.over = true ∨ ∃ js2 L2, InvV ks ss fs n ps x js2 L2) e).mpr ?_
      exact flat (cut m (takes (parms fs) (20, A)).toNat) (by decide) (by decide) (by decide) (by decide) (by decide) (by decide) hpt rfl rfl rfl rfl rfl (.inr ⟨by decide, rfl⟩) rfl (.inr rfl)
  · -- call
    by_cases hs : m.steps + 1 ≤ 2000
    · have e : act (vP ss fs n) E m (cut m (takes (parms fs) (21, A)).toNat) (args m (takes (parms fs) (21, A)).toNat) (21 : Int).toNat A = (0, { cut m (takes (parms fs) (21, A)).toNat with low := m.low ++ [(cut m (takes (parms fs) (21, A)).toNat).top], top := ⟨(vP ss fs n).fns[A.toNat]!, locals (vP ss fs n).fns[A.toNat]! (args m (takes (parms fs) (21, A)).toNat), [], 0⟩, steps := m.steps + 1, since := 0 }) := if_pos hs
      rw [e]
      refine .inl ⟨rfl, .inr ⟨A.toNat :: js, [], ?_⟩⟩
      have hcall := nw.acc.call rfl
      have hj : A.toNat < fs.length := by omega
      obtain ⟨j1, j2⟩ := h.callJ nw rfl
      have j3 := js_len hc.ver j1 j2
      have ert : rtOf ss fs n (A.toNat :: js) = fs[A.toNat]! := rous_fun hj
      have efn : (vP ss fs n).fns[A.toNat]! = fnOf fs[A.toNat]! := rou_get hj
      have hok := ok_rou hc.ver (ix_lt (fs := fs) hc.hn j1)
      have hT := taken_at hc.ver (ix_lt (fs := fs) hc.hn j1)
      have hy := go1 (by decide) (by decide) (by decide)
      have hin := nexts_in nw.at' (nw.tk.good _ nw.at' ⟨_, h.top.rch⟩) _ hy
      have hb := behind_le hfit
      refine ⟨?_, j1, j2, ?_, Calm.nil _, ?_, h.vals, .inl (kn (by decide) (by decide))⟩
      · show Stk ss fs n (m.low ++ [(cut m (takes (parms fs) (21, A)).toNat).top]).reverse (A.toNat :: js)
        rw [List.reverse_append]
        refine ⟨⟨h.top.fn, ?_, h.top.loc, ?_⟩, h.stk⟩
        · show 0 ≤ m.top.nx + 1 ∧ m.top.nx + 1 < _
          omega
        · show Rch _ _ (m.top.nx + 1).toNat ((m.top.stk.take _).length + 1)
          rw [enx]
          refine .step h.top.rch ⟨nw.at', by rw [hins]; exact hfit, hy, by omega, ?_⟩
          rw [hins]
          have : puts (21, A) = 1 := hpt
          omega
      · rw [efn, ert]
        refine ⟨rfl, ⟨Int.le_refl _, ?_⟩, ?_, .zero⟩
        · have := hT.pos
          rw [show (rousL ss fs)[ixOf ss n (A.toNat :: js)]! = fs[A.toNat]! from ert] at this
          show (0 : Int) < _; omega
        · rw [show (rousL ss fs)[ixOf ss n (A.toNat :: js)]! = fs[A.toNat]! from ert] at hok
          exact locals_ge (f := fnOf fs[A.toNat]!) (ok_loc hok).2.2 _
      · simp only [List.length_cons, List.length_nil] at j3 ⊢; omega
    · have e : act (vP ss fs n) E m (cut m (takes (parms fs) (21, A)).toNat) (args m (takes (parms fs) (21, A)).toNat) (21 : Int).toNat A = (120, { cut m (takes (parms fs) (21, A)).toNat with steps := m.steps + 1 }) := if_neg hs
      rw [e]
      exact .inr rfl
  · -- return
    refine .inl ⟨rfl, .inr ?_⟩
    have hr := nw.acc.ret rfl
    cases js with
    | nil =>
      rcases nw.sy with ⟨_, g⟩ | ⟨g, _⟩
      · rw [g] at hr; cases hr
      · exact absurd rfl g
    | cons j t =>
      have hstk := h.stk
      cases hl : m.low.reverse with
      | nil => rw [hl] at hstk; exact hstk.elim
      | cons a r =>
        rw [hl] at hstk
        have hlow : m.low = r.reverse ++ [a] := by rw [← List.reverse_reverse m.low, hl, List.reverse_cons]
        refine ⟨t, [], ?_⟩
        show InvV ks ss fs n ps { cut m (takes (parms fs) (22, A)).toNat with low := m.low.dropLast, top := { m.low.getLast! with stk := m.low.getLast!.stk ++ [(args m (takes (parms fs) (22, A)).toNat)[0]!] } } t []
        have e1 : m.low.dropLast = r.reverse := by rw [hlow, List.dropLast_concat]
        have e2 : m.low.getLast! = a := by rw [hlow]; simp
        rw [e1, e2]
        obtain ⟨ha, hrest⟩ := hstk
        have hid : idleP (rtOf ss fs n (j :: t)).code (parms fs) m.top.nx.toNat := ⟨⟨_, h.top.rch⟩, by rw [hins]; exact show (22 : Int) ≠ 24 by decide, by rw [hins]; exact show (22 : Int) ≠ 21 by decide⟩
        have hL := h.calm.len' nw.at' (nw.tk.calm _ nw.at' hid)
        have hs := h.since
        simp only [List.length_cons] at hL hs
        refine ⟨by rw [List.reverse_reverse]; exact hrest, fun x hx => h.jl x (by simp [hx]), (List.pairwise_cons.1 h.jp).2, ⟨ha.fn, ha.nx, ha.loc, ?_⟩, Calm.nil _, ?_, h.vals, .inl (kn (by decide) (by decide))⟩
        · have := ha.rch
          simpa using this
        · show m.since + 1 ≤ _
          simp only [List.length_nil]; omega
  · exact .inl ⟨rfl, .inl rfl⟩
  · -- step
    by_cases hs : m.steps + 1 ≤ 2000
    · have e : act (vP ss fs n) E m (cut m (takes (parms fs) (24, A)).toNat) (args m (takes (parms fs) (24, A)).toNat) (24 : Int).toNat A = (0, { cut m (takes (parms fs) (24, A)).toNat with steps := m.steps + 1, since := 0 }) := if_pos hs
      rw [e]
      exact .inl ⟨rfl, flat _ (by decide) (by decide) (by decide) (by decide) (by decide) (by decide) hpt rfl rfl rfl rfl rfl (.inl rfl) rfl (.inr rfl)⟩
    · have e : act (vP ss fs n) E m (cut m (takes (parms fs) (24, A)).toNat) (args m (takes (parms fs) (24, A)).toNat) (24 : Int).toNat A = (120, { cut m (takes (parms fs) (24, A)).toNat with steps := m.steps + 1 }) := if_neg hs
      rw [e]
      exact .inr rfl
  · exact .inl ⟨rfl, flat _ (by decide) (by decide) (by decide) (by decide) (by decide) (by decide) hpt rfl rfl rfl rfl rfl (.inr ⟨by decide, rfl⟩) rfl (.inr rfl)⟩
  · -- part
    have hs := nw.sys (show wouterB _ = true from rfl)
    obtain ⟨hr1, _⟩ : (opI (rtOf ss fs n js).code ((m.top.nx.toNat : Int) + 1) = 26 ∨ opI (rtOf ss fs n js).code ((m.top.nx.toNat : Int) + 1) = 27) ∧ True := by
      have := nw.row rfl
      unfold rowB at this
      simp only [Bool.and_eq_true, decide_eq_true_eq] at this
      exact ⟨this.1, trivial⟩
    have hk26 : ∀ k : Nat, 1 ≤ k → k ≤ (m.kept ++ [(⟨A / 8, args m (takes (parms fs) (26, A)).toNat⟩ : Pt)]).length → opI (rtOf ss fs n js).code (((m.top.nx.toNat + 1 : Nat) : Int) - k) = 26 := fun k h1 h2 => by
      rw [List.length_append, List.length_singleton] at h2
      have hop26 : opI (rtOf ss fs n js).code m.top.nx = 26 := by unfold opI; rw [if_pos hnx, hins]
      by_cases hk : k = 1
      · subst hk; rw [← hop26]; congr 1; omega
      · rcases h.kept with e | ⟨_, e, _⟩
        · rw [e] at h2; simp only [List.length_nil] at h2; omega
        · have := e (k - 1) (by omega) (by omega)
          rw [← this]; congr 1; omega
    obtain ⟨L2, hL⟩ := h.go hc nw (m2 := (act (vP ss fs n) E m (cut m (takes (parms fs) (26, A)).toNat) (args m (takes (parms fs) (26, A)).toNat) 26 A).2) (y := m.top.nx.toNat + 1) (go1 (by decide) (by decide) (by decide)) rfl rfl enx rfl (by
      rw [hpt]; show ((m.top.stk.take _).length : Int) = _; rw [hcl]; show _ = _ - _ + (0 : Int); omega) (.inr ⟨show (26 : Int) ≠ 24 by decide, show (26 : Int) ≠ 21 by decide, rfl⟩) rfl (.inr ⟨hs, hk26, hr1⟩)
    exact .inl ⟨rfl, .inr ⟨js, L2, hL⟩⟩
  · -- spawn
    exact .inl ⟨rfl, by
      obtain ⟨L2, hL⟩ := h.go hc nw (m2 := (act (vP ss fs n) E m (cut m (takes (parms fs) (27, A)).toNat) (args m (takes (parms fs) (27, A)).toNat) 27 A).2) (y := m.top.nx.toNat + 1) (go1 (by decide) (by decide) (by decide)) rfl rfl enx rfl (by
        rw [hpt]; show ((m.top.stk.take _).length : Int) = _; rw [hcl]; show _ = _ - _ + (0 : Int); omega) (.inr ⟨show (27 : Int) ≠ 24 by decide, show (27 : Int) ≠ 21 by decide, rfl⟩) rfl (.inl rfl)
      exact .inr ⟨js, L2, hL⟩⟩
  · exact .inl ⟨rfl, flat _ (by decide) (by decide) (by decide) (by decide) (by decide) (by decide) hpt rfl rfl rfl rfl rfl (.inr ⟨by decide, rfl⟩) rfl (.inr rfl)⟩
  · exact .inl ⟨rfl, flat _ (by decide) (by decide) (by decide) (by decide) (by decide) (by decide) hpt rfl rfl rfl rfl rfl (.inr ⟨by decide, rfl⟩) rfl (.inr rfl)⟩
  · exact .inl ⟨rfl, flat _ (by decide) (by decide) (by decide) (by decide) (by decide) (by decide) hpt rfl rfl rfl rfl rfl (.inr ⟨by decide, rfl⟩) rfl (.inr rfl)⟩
  · exact .inl ⟨rfl, push _ _ (by decide) (by decide) (by decide) (by decide) (by decide) (by decide) (by decide) hpt rfl rfl rfl rfl rfl⟩
  · exact .inl ⟨rfl, push _ _ (by decide) (by decide) (by decide) (by decide) (by decide) (by decide) (by decide) hpt rfl rfl rfl rfl rfl⟩
  · exact .inl ⟨rfl, push _ _ (by decide) (by decide) (by decide) (by decide) (by decide) (by decide) (by decide) hpt rfl rfl rfl rfl rfl⟩
  · exact .inl ⟨rfl, push _ _ (by decide) (by decide) (by decide) (by decide) (by decide) (by decide) (by decide) hpt rfl rfl rfl rfl rfl⟩
  · exact .inl ⟨rfl, push _ _ (by decide) (by decide) (by decide) (by decide) (by decide) (by decide) (by decide) hpt rfl rfl rfl rfl rfl⟩
  · exact .inl ⟨rfl, flat _ (by decide) (by decide) (by decide) (by decide) (by decide) (by decide) hpt rfl rfl rfl rfl rfl (.inr ⟨by decide, rfl⟩) rfl (.inr rfl)⟩
theorem ver_init (hc : VC ks ss fs n ps) (E : En) : InvV ks ss fs n ps (initM (vP ss fs n) E (firsts ps)) [] [] := by
  have hi : ixOf ss n [] < ss.length + fs.length := ix_lt (fs := fs) hc.hn (fun j hj => by cases hj)
  have hT := taken_at hc.ver hi
  have hok := ok_rou hc.ver hi
  have e : rtOf ss fs n [] = (ss[n]!).rou := rous_sys hc.hn
  have hpos : 0 < (rtOf ss fs n []).code.length := hT.pos
  refine ⟨trivial, (fun j hj => by cases hj), List.Pairwise.nil, ⟨?_, ⟨Int.le_refl _, ?_⟩, ?_, .zero⟩, Calm.nil _, ?_, rfl, .inl rfl⟩
  · rw [e]; rfl
  · show (0 : Int) < _; omega
  · rw [e]
    have : rouOk (rtOf ss fs n []) = true := hok
    rw [e] at this
    exact locals_ge (f := fnOf (ss[n]!).rou) (ok_loc this).2.2 _
  · show (0 : Int) ≤ _
    simp
theorem ver_run (hc : VC ks ss fs n ps) (hP : POk (vP ss fs n)) {E : En} {m m' : Ms} {N : Nat} {er : Int} (h : Runs (vP ss fs n) E m N er m') : (m.over = true ∨ ∃ js L, InvV ks ss fs n ps m js L) → er = 0 ∨ er = 120 ∨ er = 102 := by
  induction h with
  | over _ => exact fun _ => .inl rfl
  | bad ho he =>
    rintro (h | ⟨js, L, h⟩)
    · rw [h] at ho; cases ho
    · unfold stepM at he ⊢
      have nw := h.now hc
      rcases h.rdy hc hP with r | r
      · rw [if_pos r] at he ⊢
        have d := h.does hc (E := E) nw
        unfold doesV at d
        rw [nw.fn] at he ⊢
        rcases d with ⟨d, _⟩ | d
        · exact absurd d he
        · exact .inr (.inl d)
      · rw [if_neg (by rw [r]; decide)]
        exact .inr (.inr r)
  | step ho he _ ih =>
    rintro (h | ⟨js, L, h⟩)
    · rw [h] at ho; cases ho
    · refine ih ?_
      have nw := h.now hc
      unfold stepM at he ⊢
      rcases h.rdy hc hP with r | r
      · rw [if_pos r] at he ⊢
        have d := h.does hc (E := E) nw
        unfold doesV at d
        rw [nw.fn] at he ⊢
        rcases d with ⟨_, d⟩ | d
        · exact d
        · rw [d] at he; cases he
      · rw [if_neg (by rw [r]; decide)] at he
        have he : Mc.ready (vP ss fs n) _ = 0 := he
        rw [r] at he; cases he
end
section
open Hc
abbrev fQer : FuncId := 5
abbrev fQes : FuncId := 15
abbrev fQet : FuncId := 36
abbrev fQeu : FuncId := 37
end
end Go.Proofs.YtfpmgpblhhcpgaaGreat
