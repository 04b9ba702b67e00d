/-
  What is lent and comes back; what is kept.
-/
import Derived.Test.YtpkpebgpiakbeaaStoreP
namespace Go.Proofs.Ytpkpebgpiakbeaa
set_option linter.unusedVariables false
set_option linter.unusedSimpArgs false
open Go.Proofs.Ytpkpebgpiakbeaa.Hc
set_option maxRecDepth 100000

theorem u8s_set (xs : List UInt8) (i : Nat) (x : UInt8) : (u8s xs).set i (.int .u8 (x.toNat : Int)) = u8s (xs.set i x) := by simp [u8s, List.map_set]
theorem set_mid {α : Type} (xs ys : List α) (y z : α) : (xs ++ y :: ys).set xs.length z = xs ++ z :: ys := by
  rw [List.set_append_right _ _ (Nat.le_refl _), Nat.sub_self]; rfl

theorem s_lent {x : Sl} {bs : List UInt8} {H : Heap} {k : Sl → Heap → Prop} (hx : RB H x bs) (hl : bs.length ≤ 2 ^ 47)
    (hk : ∀ c H', H.size ≤ c → Row H' c T_uint8 (u8s (bs ++ List.replicate 8 201)) → Ext H H' → k ⟨some (adr c), bs.length, bs.length + 8⟩ H') :
    CallT Pg f_hindcastlaw03_lent [.slice x.a x.len x.cap] (.one (.c .sl)) H k := by
  apply c_hindcastlaw03_lent
  unfold v_hindcastlaw03_lent
  have hxl := hx.len
  rw [Lt_def, wrap_i64_id (by omega) (by omega)]
  refine Mks_row (by omega) (by omega) (by omega) fun c H1 hc hE1 _ hr1 => ?_
  rw [show ((x.len : Int) + 8).toNat = bs.length + 8 by omega] at hr1 ⊢
  refine Cpy_row hr1 (hx.ext hE1) (by omega) (by simp) fun H2 hU2 hs2 hr2 => ?_
  have hE2 : Ext H H2 := hE1.trans hU2 fun b hb e => by omega
  have e2 : u8s bs ++ (List.replicate (bs.length + 8) (Value.int .u8 0)).drop bs.length = u8s (bs ++ (List.replicate 0 201 ++ List.replicate (8 - 0) 0)) := by
    rw [List.drop_replicate, show bs.length + 8 - bs.length = 8 by omega]; simp [u8s]
  rw [e2] at hr2
  refine LoopT.mk (fun i H' => ∃ j : Nat, i = ((bs.length + j : Nat) : Int) ∧ j ≤ 8 ∧ Ext H H' ∧ Row H' c T_uint8 (u8s (bs ++ (List.replicate j 201 ++ List.replicate (8 - j) 0)))) (fun i _ => (bs.length + 8 - i).toNat)
    ⟨0, by omega, by omega, hE2, hr2⟩ ?_
  rintro next _ H3 ⟨j, rfl, hj, hE3, hr3⟩ hnext
  refine Br_dec (fun hlt => ?_) fun hge => ?_
  · have hj8 : j < 8 := by dsimp only at hlt; omega
    refine IxA_adr (by omega) (by dsimp only at hlt ⊢; omega) ?_
    rw [Int.toNat_natCast, Nat.mul_one]
    refine St_row hr3 (by simp; omega) fun H4 hU4 _ hr4 => ?_
    rw [Lt_def, wrap_i64_id (by omega) (by omega)]
    refine hnext _ _ ⟨j + 1, by omega, by omega, hE3.trans hU4 fun b hb e => by omega, ?_⟩ (by omega)
    rw [show (201 : Int) = ((201 : UInt8).toNat : Int) from rfl, u8s_set] at hr4
    have e4 : (bs ++ (List.replicate j (201 : UInt8) ++ List.replicate (8 - j) 0)).set (bs.length + j) 201 = bs ++ (List.replicate (j + 1) 201 ++ List.replicate (8 - (j + 1)) 0) := by
      rw [show 8 - j = (8 - (j + 1)) + 1 by omega, List.replicate_succ (n := 8 - (j + 1)), ← List.append_assoc]
      have := set_mid (bs ++ List.replicate j (201 : UInt8)) (List.replicate (8 - (j + 1)) 0) 0 201
      rw [List.length_append, List.length_replicate] at this
      rw [this, List.replicate_succ' (n := j)]; simp
    rwa [e4] at hr4
  · have : j = 8 := by dsimp only at hge; omega
    subst this
    refine SlA0 (by omega) (by dsimp only; omega) (by omega) ?_
    rw [hxl]
    simp only [Nat.sub_self, List.replicate_zero, List.append_nil] at hr3
    exact hk c H3 (by omega) hr3 hE3

theorem s_back {x : Sl} {bs : List UInt8} {c : Nat} {H0 H : Heap} {k : Bool → Heap → Prop} (hx : RB H0 x bs) (hE : Ext H0 H) (hc : H0.size ≤ c) (hl : bs.length ≤ 2 ^ 47) (hr : Row H c T_uint8 (u8s (bs ++ List.replicate 8 201)))
    (hk : ∀ H', Upd (· = c) H H' → Row H' c T_uint8 (u8s (List.replicate (bs.length + 8) 202)) → k true H') :
    CallT Pg f_hindcastlaw03_back [.slice (some (adr c)) bs.length (bs.length + 8), .slice x.a x.len x.cap] (.one (.c .bool)) H k := by
  apply c_hindcastlaw03_back (l_ := ⟨some (adr c), bs.length, bs.length + 8⟩)
  unfold v_hindcastlaw03_back
  have hxl := hx.len
  rw [Lt_def, wrap_i64_id (by omega) (by omega)]
  refine SlA0 (by omega) (by dsimp only; omega) (by dsimp only; omega) ?_
  rw [show ((x.len : Int) + 8).toNat = bs.length + 8 by omega]
  dsimp only
  obtain ⟨ls, hls⟩ : ∃ ls, ls = bs ++ List.replicate 8 (201 : UInt8) := ⟨_, rfl⟩
  have hll : ls.length = bs.length + 8 := by rw [hls]; simp
  rw [← hls] at hr
  refine LoopT.mk (fun σ H' => ∃ j : Nat, σ.1 = true ∧ σ.2 = (j : Int) ∧ j ≤ bs.length + 8 ∧ Upd (· = c) H H' ∧ Row H' c T_uint8 (u8s (List.replicate j 202 ++ ls.drop j))) (fun σ _ => (bs.length + 8 - σ.2).toNat)
    ⟨0, rfl, rfl, by omega, .refl _ _, by simpa using hr⟩ ?_
  rintro next ⟨_, _⟩ H1 ⟨j, rfl, rfl, hj, hU1, hr1⟩ hnext
  dsimp only
  have hx1 : RB H1 x bs := hx.ext (hE.trans hU1 fun b hb e => by omega)
  refine Br_dec (fun hlt => ?_) fun hge => ?_
  · have hjl : j < ls.length := by omega
    have cj : hcell H1 ⟨c, j, none⟩ = some (.int .u8 (ls[j].toNat : Int)) := by
      rw [hr1.cell, u8s, List.map_append, List.getElem?_append_right (by simp)]
      simp [hjl]
    refine Jn.mk (fun b H' => b = true ∧ H1 = H') (fun kk hkk => ?_) ?_
    · refine Br_dec (fun hin => ?_) fun hout => ?_
      · refine Jn_in ?_
        rw [Br_true]
        refine IxA_adr (by omega) (by omega) ?_
        rw [Int.toNat_natCast, Nat.mul_one]
        refine Ld_int cj ?_
        refine IxA_rb hx1 rfl (by omega) fun a ca _ => ?_
        refine Ld_int ca ?_
        have : ls[j] = bs[j]'(by omega) := by subst hls; rw [List.getElem_append_left (by omega)]
        rw [this, beq_self_eq_true]
        exact hkk _ _ ⟨rfl, rfl⟩
      · refine Jn_in ?_
        rw [Br_true]
        refine IxA_adr (by omega) (by omega) ?_
        rw [Int.toNat_natCast, Nat.mul_one]
        refine Ld_int cj ?_
        have : ls[j] = 201 := by subst hls; rw [List.getElem_append_right (by omega), List.getElem_replicate]
        rw [this]
        exact hkk _ _ ⟨rfl, rfl⟩
    rintro _ _ ⟨rfl, rfl⟩
    refine IxA_adr (by omega) (by omega) ?_
    rw [Int.toNat_natCast, Nat.mul_one]
    refine St_row hr1 (by simp; omega) fun H5 hU5 _ hr5 => ?_
    rw [Lt_def, wrap_i64_id (by omega) (by omega)]
    refine hnext _ _ ⟨j + 1, rfl, by dsimp only; omega, by omega, hU1.trans hU5 fun _ _ h => h, ?_⟩ (by dsimp only; omega)
    rw [show (202 : Int) = ((202 : UInt8).toNat : Int) from rfl, u8s_set] at hr5
    have e5 : (List.replicate j (202 : UInt8) ++ ls.drop j).set j 202 = List.replicate (j + 1) 202 ++ ls.drop (j + 1) := by
      rw [List.drop_eq_getElem_cons hjl]
      have := set_mid (List.replicate j (202 : UInt8)) (ls.drop (j + 1)) ls[j] 202
      rw [List.length_replicate] at this
      rw [this, List.replicate_succ' (n := j)]; simp
    rwa [e5] at hr5
  · have : j = bs.length + 8 := by omega
    subst this
    rw [List.drop_eq_nil_of_le (by omega), List.append_nil] at hr1
    exact hk H1 hU1 hr1

theorem IxA_St_vec {H : Heap} {T : TypeId} {t : Sl} {vs : List Value} (h : Vec H T t vs) {i : Int} {j : Nat} {v : Value} {k : Heap → Prop} (hj : i = j) (hl : j < vs.length)
    (hk : ∀ H', Vec H' T t (vs.set j v) → Upd (fun b => t.a = some (adr b)) H H' → H'.size = H.size → k H') : IxA 1 t i fun a => St a v H k := by
  rcases h.own with ⟨_, _, h3⟩ | ⟨b, sp, h1, h2, h3⟩
  · subst h3; simp at hl
  · subst hj
    refine IxA.mk h1 (by omega) (by rw [h.len]; omega) ?_
    rw [Int.toNat_natCast, Nat.mul_one, adr_add]
    refine St_row h2 (by simp; omega) fun H' hU hs hr => hk H' ⟨by simpa using h.len, .inr ⟨b, sp, h1, ?_, by simpa using h3⟩, h.lc⟩ (hU.mono fun _ _ e => e ▸ h1) hs
    rwa [List.set_append_left _ _ hl] at hr

abbrev Hold := Sl × Nat × UInt8
def holdC (e : Hold) : List Value := [.slice e.1.a e.1.len e.1.cap, .int .u8 (e.2.2.toNat : Int)]
theorem holdC_len (e : Hold) : (holdC e).length = 2 := rfl
structure KAt (H : Heap) (q : Nat) (v1 v2 : Value) (ks : Sl) (es : List Hold) : Prop where
  row : ∃ long : Int, 0 ≤ long ∧ long ≤ 4 ∧ Row H q T_hindcastlaw03_pair [v1, v2, .slice ks.a ks.len ks.cap, .int .i64 long]
  vec : VecN H T_hindcastlaw03_hold 2 ks (es.flatMap holdC)
  ok : ∀ e ∈ es, Vec H T_uint8 e.1 (u8s (List.replicate e.2.1 e.2.2)) ∧ e.2.1 ≤ 2 ^ 41
theorem KAt.upd {M : Nat → Prop} {H H' : Heap} (hu : Upd M H H') {q : Nat} {v1 v2 : Value} {ks : Sl} {es : List Hold} (h : KAt H q v1 v2 ks es) (hq : ¬ M q) (hk : ∀ b, ks.a = some (adr b) → ¬ M b) (he : ∀ e ∈ es, ∀ b, e.1.a = some (adr b) → ¬ M b) : KAt H' q v1 v2 ks es :=
  ⟨let ⟨l, h0, h1, h2⟩ := h.row; ⟨l, h0, h1, hu.row h2 hq⟩, h.vec.upd hu hk, fun e hm => ⟨(h.ok e hm).1.upd hu (he e hm), (h.ok e hm).2⟩⟩
theorem KAt.len {H : Heap} {q : Nat} {v1 v2 : Value} {ks : Sl} {es : List Hold} (h : KAt H q v1 v2 ks es) : ks.len = es.length := by
  have := h.vec.len
  rw [flat_len holdC_len] at this
  omega

theorem s_looks {H : Heap} {q : Nat} {v1 v2 : Value} {ks : Sl} {es : List Hold} (h : KAt H q v1 v2 ks es) (hl : es.length ≤ 10000) {k : Bool → Heap → Prop} (hk : k true H) :
    CallT Pg f_hindcastlaw03_pair_looks [.pointer (some (adr q))] (.one (.c .bool)) H k := by
  apply c_hindcastlaw03_pair_looks
  unfold v_hindcastlaw03_pair_looks
  simp only [adr_add, NilCk_some]
  obtain ⟨lg, _, _, hr⟩ := h.row
  have hkl := h.len
  have at0 : ∀ {i : Nat} {k : Addr → Prop} (hi : i < es.length), (∀ b, hcell H ⟨b, i * 2, none⟩ = some (.slice es[i].1.a es[i].1.len es[i].1.cap) → hcell H ⟨b, i * 2 + 1, none⟩ = some (.int .u8 (es[i].2.2.toNat : Int)) → k ⟨b, i * 2, none⟩) → IxA 2 ks i k := fun {i k} hi hk => by
    refine IxA_vecN h.vec (by omega) rfl (by omega) fun b _ hc => ?_
    refine hk b ((hc 0 (by omega)).trans (flat_get holdC_len hi (by omega))) ((hc 1 (by omega)).trans (flat_get holdC_len hi (by omega)))
  refine LoopT.mk (fun i H' => H = H' ∧ ∃ j : Nat, i = j ∧ j ≤ es.length) (fun i _ => (es.length - i).toNat) ⟨rfl, 0, rfl, by omega⟩ ?_
  rintro next1 _ _ ⟨rfl, i, rfl, hi⟩ hnext1
  refine Ld_sl ((hr.cell 2).trans rfl) ?_
  refine Br_dec (fun hlt => ?_) fun _ => hk
  have hi1 : i < es.length := by omega
  obtain ⟨hv, hb⟩ := h.ok _ (List.getElem_mem hi1)
  have hvl := hv.len
  simp only [List.length_map, List.length_replicate] at hvl
  refine LoopT.mk (fun i' H' => H = H' ∧ ∃ j : Nat, i' = j ∧ j ≤ es[i].2.1) (fun i' _ => ((es[i].2.1 : Int) - i').toNat) ⟨rfl, 0, rfl, by omega⟩ ?_
  rintro next2 _ _ ⟨rfl, j, rfl, hj⟩ hnext2
  refine Ld_sl ((hr.cell 2).trans rfl) ?_
  refine at0 hi1 fun b1 c1 d1 => ?_
  refine Ld_sl (s := es[i].1) c1 ?_
  refine Br_dec (fun hlt2 => ?_) fun _ => ?_
  · refine Ld_sl ((hr.cell 2).trans rfl) ?_
    refine at0 hi1 fun b2 c2 d2 => ?_
    refine Ld_sl (s := es[i].1) c2 ?_
    refine IxA_rb hv.rb rfl (by simp; omega) fun a3 c3 _ => ?_
    refine Ld_int c3 ?_
    refine Ld_sl ((hr.cell 2).trans rfl) ?_
    refine at0 hi1 fun b4 c4 d4 => ?_
    rw [mk_add]
    refine Ld_int d4 ?_
    rw [List.getElem_replicate, bne_self_eq_false, Br_false, Lt_def, wrap_i64_id (by omega) (by omega)]
    exact hnext2 _ _ ⟨rfl, j + 1, by omega, by omega⟩ (by omega)
  · rw [Lt_def, wrap_i64_id (by omega) (by omega)]
    exact hnext1 _ _ ⟨rfl, i + 1, by omega, by omega⟩ (by omega)

theorem s_keep {H : Heap} {q : Nat} {v1 v2 : Value} {ks t : Sl} {es : List Hold} {bs : List UInt8} (h : KAt H q v1 v2 ks es) (hl : es.length ≤ 10000) (hv : Vec H T_uint8 t (u8s bs)) (hc : t.cap = t.len) (hap : ∀ e ∈ es, Ap t e.1) (hb : bs.length ≤ 2 ^ 40)
    {k : Unit → Heap → Prop} (hk : ∀ ks' es' H', KAt H' q v1 v2 ks' es' → es'.length ≤ es.length + 2 → (∀ e ∈ es', e ∈ es ∨ e.1.a = t.a ∨ Fresh H e.1) → Own H ks ks' → Upd (fun b => b = q ∨ ks.a = some (adr b) ∨ t.a = some (adr b)) H H' → k () H') :
    CallT Pg f_hindcastlaw03_pair_keep [.pointer (some (adr q)), .slice t.a t.len t.cap] (.tup []) H k := by
  apply c_hindcastlaw03_pair_keep
  unfold v_hindcastlaw03_pair_keep
  simp only [adr_add, NilCk_some]
  obtain ⟨lg, hlg0, hlg1, hr⟩ := h.row
  have hkl := h.len
  have htl := hv.len
  simp only [List.length_map] at htl
  refine Ld_sl ((hr.cell 2).trans rfl) ?_
  rw [Lt_def, wrap_i64_id (x := 41 * (ks.len : Int)) (by omega) (by omega), Lt_def, wrap_i64_id (by omega) (by omega)]
  simp only [wrap_u8_of]
  generalize u8of (50 + 41 * (ks.len : Int)) = m
  refine LoopT.mk (fun i H' => ∃ j : Nat, i = j ∧ j ≤ bs.length ∧ Upd (fun b => t.a = some (adr b)) H H' ∧ Vec H' T_uint8 t (u8s (List.replicate j m ++ bs.drop j))) (fun i _ => (bs.length - i).toNat) ⟨0, rfl, by omega, .refl _ _, by simpa using hv⟩ ?_
  rintro next1 _ H1 ⟨j, rfl, hj, hU1, hv1⟩ hnext1
  refine Br_dec (fun hlt => ?_) fun hge => ?_
  · have hj1 : j < bs.length := by omega
    refine IxA_St_vec hv1 rfl (by simp; omega) fun H2 hv2 hU2 _ => ?_
    rw [Lt_def, wrap_i64_id (by omega) (by omega)]
    refine hnext1 _ _ ⟨j + 1, by omega, by omega, hU1.trans hU2 fun _ _ h => h, ?_⟩ (by omega)
    have e5 : (List.replicate j m ++ bs.drop j).set j m = List.replicate (j + 1) m ++ bs.drop (j + 1) := by
      rw [List.drop_eq_getElem_cons hj1]
      have := set_mid (List.replicate j m) (bs.drop (j + 1)) bs[j] m
      rw [List.length_replicate] at this
      rw [this, List.replicate_succ' (n := j)]; simp
    rwa [u8s_set, e5] at hv2
  · have : j = bs.length := by omega
    subst this
    rw [List.drop_eq_nil_of_le (Nat.le_refl _), List.append_nil] at hv1
    clear hnext1 hge
    have tq : ∀ b, t.a = some (adr b) → b ≠ q := fun b hb => hv.ne hb hr (by decide)
    have tk : ∀ b, t.a = some (adr b) → ks.a ≠ some (adr b) := fun b hb e => h.vec.apV hv (by decide) e hb
    have K1 : KAt H1 q v1 v2 ks es := h.upd hU1 (fun e => tq q e rfl) (fun b hb e => tk b e hb) fun e he b hb e' => hap e he b e' hb
    have hUq : Upd (fun b => b = q ∨ ks.a = some (adr b) ∨ t.a = some (adr b)) H H1 := hU1.mono fun _ _ h => .inr (.inr h)
    refine Jn.mk (fun _ H' => KAt H' q v1 v2 ks es ∧ Upd (· = q) H1 H') (fun kk1 hkk1 => ?_) ?_
    · obtain ⟨lg1, h10, h11, hr1⟩ := K1.row
      refine Br_dec (fun hlong => ?_) fun _ => hkk1 _ _ ⟨K1, .refl _ _⟩
      refine Jn.mk (fun b H' => H1 = H' ∧ (b = false → lg1 < 4)) (fun kk2 hkk2 => ?_) ?_
      · refine Br_dec (fun _ => hkk2 _ _ ⟨rfl, fun h => by cases h⟩) fun _ => ?_
        refine Ld_int ((hr1.cell 3).trans rfl) ?_
        exact hkk2 _ _ ⟨rfl, fun h => by have : lg1 ≠ 4 := by simpa using h
                                         omega⟩
      rintro b _ ⟨rfl, hb4⟩
      refine Br.mk (fun _ => hk ks es H1 K1 (by omega) (fun e he => .inl he) (.refl _ _) hUq) fun hbf => ?_
      have := hb4 hbf
      refine Ld_int ((hr1.cell 3).trans rfl) ?_
      rw [Lt_def, wrap_i64_id (by omega) (by omega)]
      refine St_row hr1 (by simp) fun H5 hU5 _ hr5 => ?_
      refine hkk1 _ _ ⟨⟨⟨lg1 + 1, by omega, by omega, hr5⟩, K1.vec.upd hU5 fun b hb e => K1.vec.ne hb hr1 (by decide) e, fun e he => ⟨(K1.ok e he).1.upd hU5 fun b hb e' => (K1.ok e he).1.ne hb hr1 (by decide) e', (K1.ok e he).2⟩⟩, hU5⟩
    rintro _ H3 ⟨K3, hU3⟩
    have hv3 := hv1.upd hU3 fun b hb e => tq b hb e
    obtain ⟨lg3, h30, h31, hr3⟩ := K3.row
    refine Ld_sl ((hr3.cell 2).trans rfl) ?_
    refine Nw_row fun b1 H6 hb1 hE6 _ hr6 => ?_
    have K6 := K3.upd hE6 (fun h => h) (fun _ _ h => h) fun _ _ _ _ h => h
    have hv6 := hv3.ext hE6
    have hr36 := hE6.row hr3 fun h => h
    refine App_vecN rfl (by omega) K6.vec (ws := holdC (t, bs.length, m)) hr6.rd_all rfl (by simp [holdC, Value.oneCell']) (by omega) (by dsimp only; omega) fun ks7 H7 hk7 hl7 hU7 hw7 => ?_
    have hr7 := hU7.row hr36 fun e => K6.vec.ne e.1 hr36 (by decide) rfl
    refine St_row hr7 (by simp) fun H8 hU8 _ hr8 => ?_
    have own7 : Own H ks ks7 := fun b hb => by
      have := hU1.size; have := hU3.size; have := hE6.size
      rcases hw7 with ⟨e, _⟩ | e
      · rw [e] at hb; exact .inl hb
      · rw [e] at hb; cases hb; exact .inr (by omega)
    have hv7 := hv6.upd hU7 fun b hb e => tk b hb e.1
    have hv8 := hv7.upd hU8 fun b hb e => tq b hb e
    have hk8 := hk7.upd hU8 fun b hb e => hk7.ne hb hr7 (by decide) e
    have ok8 : ∀ e ∈ es, Vec H8 T_uint8 e.1 (u8s (List.replicate e.2.1 e.2.2)) ∧ e.2.1 ≤ 2 ^ 41 := fun e he => by
      obtain ⟨g1, g2⟩ := K6.ok e he
      exact ⟨(g1.upd hU7 fun b hb e => K6.vec.apV g1 (by decide) e.1 hb).upd hU8 fun b hb e => g1.ne hb hr36 (by decide) e, g2⟩
    rw [show es.flatMap holdC ++ holdC (t, bs.length, m) = (es ++ [(t, bs.length, m)]).flatMap holdC by simp] at hk8
    have K8 : KAt H8 q v1 v2 ks7 (es ++ [(t, bs.length, m)]) := ⟨⟨lg3, h30, h31, hr8⟩, hk8, fun e he => by
      rcases List.mem_append.1 he with he | he
      · exact ok8 e he
      · simp only [List.mem_singleton] at he; subst he; exact ⟨hv8, by dsimp only; omega⟩⟩
    have hU08 : Upd (fun b => b = q ∨ ks.a = some (adr b) ∨ t.a = some (adr b)) H H8 := ((((hUq.trans hU3 fun _ _ h => .inl h).ext hE6).trans hU7 fun _ _ h => .inr (.inl h.1)).trans hU8 fun _ _ h => .inl h)
    have s08 : H.size ≤ H8.size := hU08.size
    -- it is grown
    refine LoopT.mk (fun σ H' => ∃ n : Nat, σ.2 = n ∧ n ≤ 64 ∧ Ext H8 H' ∧ Vec H' T_uint8 σ.1 (u8s (List.replicate (bs.length + n) m)) ∧ (n = 0 ∧ σ.1 = t ∨ ∀ b, σ.1.a = some (adr b) → H8.size ≤ b)) (fun σ _ => (64 - σ.2).toNat)
      ⟨0, rfl, by omega, .refl _ _, hv8, .inl ⟨rfl, rfl⟩⟩ ?_
    rintro next2 ⟨s, _⟩ H9 ⟨n, rfl, hn, hE9, hv9, hf9⟩ hnext2
    dsimp only at hv9 hf9 ⊢
    refine Br_dec (fun hlt => ?_) fun hge => ?_
    · refine Nw_row fun b2 H10 hb2 hE10 _ hr10 => ?_
      refine App_vec2 (hv9.ext hE10) (ws := u8s [m]) hr10.rd_all rfl (u8s_one _) (by omega) (by simp; omega) fun l2 H11 hv11 hU11 hl11 hs11 => ?_
      rw [Lt_def, wrap_i64_id (by omega) (by omega)]
      have s9 := hE9.size
      have s10 := hE10.size
      refine hnext2 _ _ ⟨n + 1, by dsimp only; omega, by omega, (hE9.ext hE10).trans hU11 fun b hb e => ?_, ?_, .inr fun b hb' => ?_⟩ (by dsimp only; omega)
      · rcases hf9 with ⟨h0, h1⟩ | hf
        · have := e.2.1; rw [h1, hc] at this; simp only at this; omega
        · have := hf b e.1; omega
      · rw [u8s, u8s, ← List.map_append, ← List.replicate_succ'] at hv11; exact hv11
      · dsimp only at hb'
        rcases hl11 with ⟨e, e2⟩ | e
        · rw [e] at hb'
          rcases hf9 with ⟨h0, h1⟩ | hf
          · rw [h1, hc] at e2; simp only at e2; omega
          · exact hf b hb'
        · rw [e] at hb'; cases hb'; omega
    · have : n = 64 := by omega
      subst this
      have hf9' : ∀ b, s.a = some (adr b) → H8.size ≤ b := by
        rcases hf9 with ⟨h, _⟩ | h
        · omega
        · exact h
      have K9 := K8.upd hE9 (fun h => h) (fun _ _ h => h) fun _ _ _ _ h => h
      obtain ⟨lg9, h90, h91, hr9⟩ := K9.row
      refine Ld_sl ((hr9.cell 2).trans rfl) ?_
      refine Nw_row fun b3 H12 hb3 hE12 _ hr12 => ?_
      have K12 := K9.upd hE12 (fun h => h) (fun _ _ h => h) fun _ _ _ _ h => h
      have hv12 := hv9.ext hE12
      have hr912 := hE12.row hr9 fun h => h
      have hl12 := K12.len
      simp only [List.length_append, List.length_singleton] at hl12
      refine App_vecN rfl (by omega) K12.vec (ws := holdC (s, bs.length + 64, m)) hr12.rd_all rfl (by simp [holdC, Value.oneCell']) (by omega) (by dsimp only; omega) fun ks13 H13 hk13 hl13 hU13 hw13 => ?_
      have hr13 := hU13.row hr912 fun e => K12.vec.ne e.1 hr912 (by decide) rfl
      refine St_row hr13 (by simp) fun H14 hU14 _ hr14 => ?_
      have s9 := hE9.size
      have s12 := hE12.size
      have hk14 := hk13.upd hU14 fun b hb e => hk13.ne hb hr13 (by decide) e
      have hv14 := (hv12.upd hU13 fun b hb e => K12.vec.apV hv12 (by decide) e.1 hb).upd hU14 fun b hb e => hv12.ne hb hr912 (by decide) e
      rw [show (es ++ [(t, bs.length, m)]).flatMap holdC ++ holdC (s, bs.length + 64, m) = (es ++ [(t, bs.length, m)] ++ [(s, bs.length + 64, m)]).flatMap holdC by simp] at hk14
      refine hk ks13 (es ++ [(t, bs.length, m)] ++ [(s, bs.length + 64, m)]) H14 ⟨⟨lg9, h90, h91, hr14⟩, hk14, fun e he => ?_⟩ (by simp) (fun e he => ?_) (fun b hb => ?_) ?_
      · rcases List.mem_append.1 he with he | he
        · obtain ⟨g1, g2⟩ := K12.ok e he
          exact ⟨(g1.upd hU13 fun b hb e => K12.vec.apV g1 (by decide) e.1 hb).upd hU14 fun b hb e => g1.ne hb hr912 (by decide) e, g2⟩
        · simp only [List.mem_singleton] at he; subst he; exact ⟨hv14, by dsimp only; omega⟩
      · rcases List.mem_append.1 he with he | he
        · rcases List.mem_append.1 he with he | he
          · exact .inl he
          · simp only [List.mem_singleton] at he; subst he; exact .inr (.inl rfl)
        · simp only [List.mem_singleton] at he; subst he
          exact .inr (.inr fun b hb => by have := hf9' b hb; omega)
      · rcases hw13 with ⟨e, _⟩ | e
        · rw [e] at hb; exact own7 b hb
        · rw [e] at hb; cases hb; exact .inr (by omega)
      · refine (((hU08.ext hE9).ext hE12).trans hU13 fun b hb e => ?_).trans hU14 fun b hb e => .inl e
        rcases own7 b e.1 with e' | e'
        · exact .inr (.inl e')
        · omega
end Go.Proofs.Ytpkpebgpiakbeaa
