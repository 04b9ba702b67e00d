/-
  Contracts of the document's store; what is lent, and what is kept.
-/
import Derived.Test.YtpkpebgpiakbeaaStoreM
import Derived.Test.YtpkpebgpiakbeaaHcVecN
namespace Go.Proofs.Ytpkpebgpiakbeaa
set_option linter.unusedVariables false
set_option linter.unusedSimpArgs false
open Go.Proofs.Ytpkpebgpiakbeaa.Hc
set_option maxRecDepth 100000

structure RAt (H : Heap) (p : Nat) (sA sB : Sl) (r : RSt) : Prop where
  row : Row H p T_hindcastref03_Store [.slice sA.a sA.len sA.cap, .slice sB.a sB.len sB.cap, .bool r.off, .int .i64 r.left]
  va : Vec H T_uint8 sA (u8s r.A)
  vb : Vec H T_uint8 sB (u8s r.B)
  ok : r.ok
theorem RAt.upd {M : Nat → Prop} {H H' : Heap} (hu : Upd M H H') {p : Nat} {sA sB : Sl} {r : RSt} (h : RAt H p sA sB r) (hp : ¬ M p) (ha : ∀ b, sA.a = some (adr b) → ¬ M b) (hb : ∀ b, sB.a = some (adr b) → ¬ M b) : RAt H' p sA sB r :=
  ⟨hu.row h.row hp, h.va.upd hu ha, h.vb.upd hu hb, h.ok⟩
/-- Where the lists lie: where one of them lay, or in new memory. -/
def Own2 (H : Heap) (a b a' b' : Sl) : Prop := ∀ c, a'.a = some (adr c) ∨ b'.a = some (adr c) → a.a = some (adr c) ∨ b.a = some (adr c) ∨ H.size ≤ c
theorem Own2.refl (H : Heap) (a b : Sl) : Own2 H a b a b := fun _ h => h.elim .inl fun h => .inr (.inl h)

theorem s_ref03_New {x : Sl} {bs : List UInt8} {H : Heap} {k : Option Addr × Int → Heap → Prop} (hx : RB H x bs)
    (hbig : bs.length > 16777216 → k (none, 1) H)
    (hk : ∀ p sA H', bs.length ≤ 16777216 → H.size ≤ p → RAt H' p sA ⟨none, 0, 0⟩ ⟨bs, [], false, -1⟩ → Fresh H sA → Ext H H' → k (some (adr p), 0) H') :
    CallT Pg f_hindcastref03_New [.slice x.a x.len x.cap] (.tup [(.c .ptr), (.c (.int .i64))]) H k := by
  apply c_hindcastref03_New
  unfold v_hindcastref03_New
  have hxl := hx.len
  refine Br_dec (fun h => hbig (by omega)) fun h => ?_
  refine s_joined (y := ⟨none, 0, 0⟩) hx (RB.nil H) (by simp; omega) fun s H1 hv1 hf1 hE1 => ?_
  rw [List.append_nil] at hv1
  refine Nw_row fun p H2 hp hE2 _ hr2 => ?_
  exact hk p s H2 (by omega) (by have := hE1.size; omega) ⟨hr2, hv1.ext hE2, .nil _ _, by simp; omega, i64_m1⟩ hf1 (hE1.ext hE2)

theorem s_size {p : Nat} {sA sB : Sl} {r : RSt} {H : Heap} {k : Int → Heap → Prop} (hR : RAt H p sA sB r) (hk : k ((r.A.length + r.B.length : Nat) : Int) H) :
    CallT Pg f_hindcastref03_Store_size [.pointer (some (adr p))] (.one (.c (.int .i64))) H k := by
  apply c_hindcastref03_Store_size
  unfold v_hindcastref03_Store_size
  simp only [adr_add, NilCk_some]
  have hr := hR.row
  have ha := hR.va.len
  have hb := hR.vb.len
  have hok := hR.ok.1
  simp only [List.length_map] at ha hb
  refine Ld_sl ((hr.cell 0).trans rfl) ?_
  refine Ld_sl ((hr.cell 1).trans rfl) ?_
  rw [Lt_def, wrap_i64_id (by omega) (by omega), ha, hb]
  exact hk

theorem s_fails {p : Nat} {sA sB x : Sl} {r : RSt} {n : Int} {m : Nat} {bs : List UInt8} {H : Heap} {k : Unit → Heap → Prop} (hR : RAt H p sA sB r) (hx : RB H x bs) (hn : 0 ≤ n) (hm : m = Nat.min n.toNat r.B.length)
    (hfit : r.A.length + m + bs.length ≤ 16777216)
    (hk : ∀ sA' H', RAt H' p sA' ⟨none, 0, 0⟩ (failR r m bs) → Own2 H sA sB sA' ⟨none, 0, 0⟩ → Upd (· = p) H H' → k () H') :
    CallT Pg f_hindcastref03_Store_fails [.pointer (some (adr p)), .int .i64 n, .slice x.a x.len x.cap] (.tup []) H k := by
  apply c_hindcastref03_Store_fails
  unfold v_hindcastref03_Store_fails
  simp only [adr_add, NilCk_some]
  have hr := hR.row
  have hb := hR.vb.len
  have hbc := hR.vb.lc
  simp only [List.length_map] at hb
  have hok := hR.ok.1
  have hmB : m ≤ r.B.length := by rw [hm]; exact Nat.min_le_right _ _
  refine Ld_sl ((hr.cell 1).trans rfl) ?_
  refine Jn.mk (fun j H' => H = H' ∧ j = (m : Int)) (fun kk hkk => ?_) ?_
  · refine Br_dec (fun h => ?_) fun h => hkk _ _ ⟨rfl, ?_⟩
    · refine Ld_sl ((hr.cell 1).trans rfl) ?_
      refine hkk _ _ ⟨rfl, ?_⟩
      rw [hm, show Nat.min n.toNat r.B.length = r.B.length from Nat.min_eq_right (by omega), hb]
    · rw [hm, show Nat.min n.toNat r.B.length = n.toNat from Nat.min_eq_left (by omega)]; omega
  rintro _ _ ⟨rfl, rfl⟩
  refine Ld_sl ((hr.cell 0).trans rfl) ?_
  refine Ld_sl ((hr.cell 1).trans rfl) ?_
  refine SlA0 (by omega) (by omega) (by omega) ?_
  rw [Int.toNat_natCast]
  refine s_joined (y := ⟨sB.a, m, (sB.cap : Int).toNat⟩) hR.va.rb (hR.vb.rb.pre hmB (by omega)) (by simp; omega) fun s1 H1 hv1 hf1 hE1 => ?_
  have hr1 := hE1.row hr fun h => h
  refine Stab_1 ((hr1.cell 1).trans rfl) ?_
  refine s_joined hv1.rb (hx.ext hE1) (by simp; omega) fun s2 H2 hv2 hf2 hE2 => ?_
  have hr2 := hE2.row hr1 fun h => h
  refine Stab_2 ((hr2.cell 1).trans rfl) ((hr2.cell 0).trans rfl) ?_
  refine St_row hr2 (by simp) fun H3 hU3 _ hr3 => ?_
  refine St_row hr3 (by simp) fun H4 hU4 _ hr4 => ?_
  refine St_row hr4 (by simp) fun H5 hU5 _ hr5 => ?_
  refine St_row hr5 (by simp) fun H6 hU6 _ hr6 => ?_
  have hU := (((hU3.trans hU4 fun _ _ h => h).trans hU5 fun _ _ h => h).trans hU6 fun _ _ h => h)
  have hv6 := hv2.upd hU fun b hb e => hv2.ne hb hr2 (by decide) e
  refine hk s2 H6 ⟨hr6, hv6, .nil _ _, ?_, i64_m1⟩ (fun c hc => ?_) (((hE1.ext hE2).mono fun _ _ h => h.elim).trans hU fun _ _ h => h)
  · simp [failR]; omega
  · rcases hc with hc | hc
    · have := hf2 c hc; have := hE1.size; exact .inr (.inr (by omega))
    · cases hc

theorem s_ref_Append {p : Nat} {sA sB x : Sl} {r : RSt} {bs : List UInt8} {H : Heap} {k : Int → Heap → Prop} (hR : RAt H p sA sB r) (hx : RB H x bs) (hl : bs.length ≤ 2 ^ 50)
    (hk : ∀ sA' sB' H', RAt H' p sA' sB' (appendR r bs).2 → Own2 H sA sB sA' sB' → Upd (· = p) H H' → k (appendR r bs).1 H') :
    CallT Pg f_hindcastref03_Store_Append [.pointer (some (adr p)), .slice x.a x.len x.cap] (.one (.c (.int .i64))) H k := by
  apply c_hindcastref03_Store_Append
  unfold v_hindcastref03_Store_Append
  simp only [adr_add, NilCk_some]
  have hr := hR.row
  have hok := hR.ok
  have hok2 := hok.2
  unfold I64 at hok2
  have hxl := hx.len
  have hbd := hok.1
  have hok' := appendR_ok hok bs
  have e0 : appendR r bs = if r.off then (30, r) else if r.A.length + r.B.length + bs.length > 16777216 then (40, r)
    else if r.left < 0 then (0, { r with B := r.B ++ bs })
    else if (bs.length : Int) ≤ r.left then (0, { r with B := r.B ++ bs, left := r.left - bs.length })
    else (30, ⟨r.A ++ r.B ++ bs.take r.left.toNat, [], true, -1⟩) := rfl
  refine Ld_bool ((hr.cell 2).trans rfl) ?_
  refine Br.mk (fun h => ?_) fun hoff => ?_
  · rw [h, if_pos rfl] at e0
    rw [e0] at hk
    exact hk sA sB H hR (.refl _ _ _) (.refl _ _)
  rw [hoff, if_neg (by simp)] at e0
  refine s_size hR ?_
  rw [Lt_def, wrap_i64_id (by omega) (by omega)]
  refine Br_dec (fun h => ?_) fun hfit => ?_
  · rw [if_pos (by omega)] at e0
    rw [e0] at hk
    exact hk sA sB H hR (.refl _ _ _) (.refl _ _)
  rw [if_neg (by omega)] at e0
  refine Ld_int ((hr.cell 3).trans rfl) ?_
  refine Br_dec (fun hneg => ?_) fun hneg => ?_
  · rw [if_pos hneg] at e0
    rw [e0] at hk hok'
    refine Ld_sl ((hr.cell 1).trans rfl) ?_
    refine s_joined hR.vb.rb hx (by omega) fun s1 H1 hv1 hf1 hE1 => ?_
    have hr1 := hE1.row hr fun h => h
    refine St_row hr1 (by simp) fun H2 hU2 _ hr2 => ?_
    rw [hoff] at hr2
    refine hk sA s1 H2 ⟨hr2, (hR.va.ext hE1).upd hU2 fun b hb e => hR.va.ne hb hr (by decide) e, hv1.upd hU2 fun b hb e => hv1.ne hb hr1 (by decide) e, hok'⟩ (fun c hc => ?_) ((hE1.mono fun _ _ h => h.elim).trans hU2 fun _ _ h => h)
    exact hc.elim .inl fun hc => .inr (.inr (hf1 c hc))
  rw [if_neg hneg] at e0
  refine Ld_int ((hr.cell 3).trans rfl) ?_
  refine Br_dec (fun hin => ?_) fun hin => ?_
  · rw [if_pos (by omega)] at e0
    rw [e0] at hk hok'
    refine Ld_sl ((hr.cell 1).trans rfl) ?_
    refine s_joined hR.vb.rb hx (by omega) fun s1 H1 hv1 hf1 hE1 => ?_
    have hr1 := hE1.row hr fun h => h
    refine St_row hr1 (by simp) fun H2 hU2 _ hr2 => ?_
    refine Ld_int ((hr2.cell 3).trans rfl) ?_
    rw [Lt_def, wrap_i64_id (by omega) (by omega)]
    refine St_row hr2 (by simp) fun H3 hU3 _ hr3 => ?_
    rw [hoff, hxl] at hr3
    have hU := hU2.trans hU3 fun _ _ h => h
    refine hk sA s1 H3 ⟨hr3, (hR.va.ext hE1).upd hU fun b hb e => hR.va.ne hb hr (by decide) e, hv1.upd hU fun b hb e => hv1.ne hb hr1 (by decide) e, hok'⟩ (fun c hc => ?_) ((hE1.mono fun _ _ h => h.elim).trans hU fun _ _ h => h)
    exact hc.elim .inl fun hc => .inr (.inr (hf1 c hc))
  rw [if_neg (by omega)] at e0
  rw [e0] at hk hok'
  refine Ld_sl ((hr.cell 1).trans rfl) ?_
  refine Ld_int ((hr.cell 3).trans rfl) ?_
  have hcap := hx.cap
  refine SlA0 (by omega) (by omega) (by omega) ?_
  have htl : (bs.take r.left.toNat).length = r.left.toNat := by simp; omega
  refine s_joined (y := ⟨x.a, r.left.toNat, (x.cap : Int).toNat⟩) hR.vb.rb (hx.pre (n := r.left.toNat) (by omega) (by omega)) (by omega) fun s1 H1 hv1 hf1 hE1 => ?_
  have hr1 := hE1.row hr fun h => h
  refine Stab_1 ((hr1.cell 3).trans rfl) ?_
  refine St_row hr1 (by simp) fun H2 hU2 _ hr2 => ?_
  have hvl := hv1.len
  simp only [List.length_map, List.length_append] at hvl
  have hR2 : RAt H2 p sA s1 ⟨r.A, r.B ++ bs.take r.left.toNat, r.off, r.left⟩ :=
    ⟨hr2, (hR.va.ext hE1).upd hU2 fun b hb e => hR.va.ne hb hr (by decide) e, hv1.upd hU2 fun b hb e => hv1.ne hb hr1 (by decide) e, by simp only [List.length_append]; omega, hok.2⟩
  refine Ld_sl ((hr2.cell 1).trans rfl) ?_
  refine s_fails (x := ⟨none, 0, 0⟩) (m := (r.B ++ bs.take r.left.toNat).length) hR2 (RB.nil _) (by omega) (by rw [hvl, Int.toNat_natCast]; simp only [List.length_append]; exact (Nat.min_self _).symm) (by simp only [List.length_append, List.length_nil]; omega) fun sA3 H3 hR3 ho3 hU3 => ?_
  refine hk sA3 ⟨none, 0, 0⟩ H3 ?_ (fun c hc => ?_) (((hE1.mono fun _ _ h => h.elim).trans hU2 fun _ _ h => h).trans hU3 fun _ _ h => h)
  · have : failR ⟨r.A, r.B ++ bs.take r.left.toNat, r.off, r.left⟩ (r.B ++ bs.take r.left.toNat).length [] = ⟨r.A ++ r.B ++ bs.take r.left.toNat, [], true, -1⟩ := by
      simp only [failR, List.take_length, List.append_nil, List.append_assoc]
    rw [this] at hR3
    exact hR3
  · rcases ho3 c hc with h | h | h
    · exact .inl h
    · exact .inr (.inr (hf1 c h))
    · have := hE1.size; have := hU2.size; exact .inr (.inr (by omega))

theorem s_ref_Sync {p : Nat} {sA sB : Sl} {r : RSt} {H : Heap} {k : Int → Heap → Prop} (hR : RAt H p sA sB r)
    (hk : ∀ sA' sB' H', RAt H' p sA' sB' (syncR r).2 → Own2 H sA sB sA' sB' → Upd (· = p) H H' → k (syncR r).1 H') :
    CallT Pg f_hindcastref03_Store_Sync [.pointer (some (adr p))] (.one (.c (.int .i64))) H k := by
  apply c_hindcastref03_Store_Sync
  unfold v_hindcastref03_Store_Sync
  simp only [adr_add, NilCk_some]
  have hr := hR.row
  have hok' := syncR_ok hR.ok
  have hbd := hR.ok.1
  have e0 : syncR r = if r.off then (30, r) else (0, { r with A := r.A ++ r.B, B := [] }) := rfl
  refine Ld_bool ((hr.cell 2).trans rfl) ?_
  refine Br.mk (fun h => ?_) fun hoff => ?_
  · rw [h, if_pos rfl] at e0
    rw [e0] at hk
    exact hk sA sB H hR (.refl _ _ _) (.refl _ _)
  rw [hoff, if_neg (by simp)] at e0
  rw [e0] at hk hok'
  refine Ld_sl ((hr.cell 0).trans rfl) ?_
  refine Ld_sl ((hr.cell 1).trans rfl) ?_
  refine s_joined hR.va.rb hR.vb.rb (by omega) fun s1 H1 hv1 hf1 hE1 => ?_
  have hr1 := hE1.row hr fun h => h
  refine St_row hr1 (by simp) fun H2 hU2 _ hr2 => ?_
  refine St_row hr2 (by simp) fun H3 hU3 _ hr3 => ?_
  rw [hoff] at hr3
  have hU := hU2.trans hU3 fun _ _ h => h
  refine hk s1 ⟨none, 0, 0⟩ H3 ⟨hr3, hv1.upd hU fun b hb e => hv1.ne hb hr1 (by decide) e, .nil _ _, hok'⟩ (fun c hc => ?_) ((hE1.mono fun _ _ h => h.elim).trans hU fun _ _ h => h)
  rcases hc with hc | hc
  · exact .inr (.inr (hf1 c hc))
  · cases hc

theorem s_ref_Cut {p : Nat} {sA sB : Sl} {r : RSt} {n : Int} {H : Heap} {k : Int → Heap → Prop} (hR : RAt H p sA sB r)
    (hk : ∀ sA' sB' H', RAt H' p sA' sB' (cutR r n).2 → Own2 H sA sB sA' sB' → Upd (· = p) H H' → k (cutR r n).1 H') :
    CallT Pg f_hindcastref03_Store_Cut [.pointer (some (adr p)), .int .i64 n] (.one (.c (.int .i64))) H k := by
  apply c_hindcastref03_Store_Cut
  unfold v_hindcastref03_Store_Cut
  simp only [adr_add, NilCk_some]
  have hr := hR.row
  have hok' := cutR_ok hR.ok n
  have hbd := hR.ok.1
  have ha := hR.va.len
  have hb := hR.vb.len
  have hac := hR.va.lc
  have hbc := hR.vb.lc
  simp only [List.length_map] at ha hb
  have e0 : cutR r n = if r.off then (30, r) else if n < 0 ∨ n > ((r.A.length + r.B.length : Nat) : Int) then (1, r)
    else if n ≤ (r.A.length : Int) then (0, { r with A := r.A.take n.toNat, B := [] })
    else (0, { r with B := r.B.take (n.toNat - r.A.length) }) := rfl
  refine Jn.mk (fun _ H' => ∃ sA' sB', (cutR r n).1 = 0 ∧ RAt H' p sA' sB' (cutR r n).2 ∧ Own2 H sA sB sA' sB' ∧ Upd (· = p) H H') (fun kk1 hkk1 => ?_) fun _ H' ⟨a, b, h0, h1, h2, h3⟩ => by rw [← h0]; exact hk a b H' h1 h2 h3
  refine Ld_bool ((hr.cell 2).trans rfl) ?_
  refine Br.mk (fun h => ?_) fun hoff => ?_
  · rw [h, if_pos rfl] at e0
    rw [e0] at hk
    exact hk sA sB H hR (.refl _ _ _) (.refl _ _)
  rw [hoff, if_neg (by simp)] at e0
  refine Jn.mk (fun j H' => H = H' ∧ j = decide (n < 0 ∨ n > ((r.A.length + r.B.length : Nat) : Int))) (fun kk hkk => ?_) ?_
  · refine Br_dec (fun h => hkk _ _ ⟨rfl, by simp [h]⟩) fun h => ?_
    refine s_size hR ?_
    exact hkk _ _ ⟨rfl, by simp [h]⟩
  rintro _ _ ⟨rfl, rfl⟩
  refine Br_dec (fun h => ?_) fun h => ?_
  · rw [if_pos h] at e0
    rw [e0] at hk
    exact hk sA sB H hR (.refl _ _ _) (.refl _ _)
  rw [if_neg h] at e0
  refine Ld_sl ((hr.cell 0).trans rfl) ?_
  refine Jn.mk (fun _ H' => ∃ sA' sB', (cutR r n).1 = 0 ∧ RAt H' p sA' sB' (cutR r n).2 ∧ Own2 H sA sB sA' sB' ∧ Upd (· = p) H H') (fun kk3 hkk3 => ?_) fun _ H' h => hkk1 _ _ h
  refine Br_dec (fun hA => ?_) fun hA => ?_
  · rw [if_pos (by omega)] at e0
    rw [e0] at hkk3 hok'
    refine Ld_sl ((hr.cell 0).trans rfl) ?_
    refine SlA0 (by omega) (by omega) (by omega) ?_
    refine s_joined (x := ⟨sA.a, n.toNat, (sA.cap : Int).toNat⟩) (y := ⟨none, 0, 0⟩) (hR.va.rb.pre (n := n.toNat) (by omega) (by omega)) (RB.nil _) (by simp; omega) fun s1 H1 hv1 hf1 hE1 => ?_
    rw [List.append_nil] at hv1
    have hr1 := hE1.row hr fun h => h
    refine St_row hr1 (by simp) fun H2 hU2 _ hr2 => ?_
    refine St_row hr2 (by simp) fun H3 hU3 _ hr3 => ?_
    rw [hoff] at hr3
    have hU := hU2.trans hU3 fun _ _ h => h
    refine hkk3 () H3 ⟨s1, ⟨none, 0, 0⟩, rfl, ⟨hr3, hv1.upd hU fun b hb e => hv1.ne hb hr1 (by decide) e, .nil _ _, hok'⟩, fun c hc => ?_, (hE1.mono fun _ _ h => h.elim).trans hU fun _ _ h => h⟩
    rcases hc with hc | hc
    · exact .inr (.inr (hf1 c hc))
    · cases hc
  · rw [if_neg (by omega)] at e0
    rw [e0] at hkk3 hok'
    refine Ld_sl ((hr.cell 1).trans rfl) ?_
    refine Ld_sl ((hr.cell 0).trans rfl) ?_
    rw [Lt_def, wrap_i64_id (by omega) (by omega)]
    refine SlA0 (by omega) (by omega) (by omega) ?_
    rw [show (n - (sA.len : Int)).toNat = n.toNat - r.A.length by omega]
    refine s_joined (x := ⟨sB.a, n.toNat - r.A.length, (sB.cap : Int).toNat⟩) (y := ⟨none, 0, 0⟩) (hR.vb.rb.pre (n := n.toNat - r.A.length) (by omega) (by omega)) (RB.nil _) (by simp; omega) fun s1 H1 hv1 hf1 hE1 => ?_
    rw [List.append_nil] at hv1
    have hr1 := hE1.row hr fun h => h
    refine Stab_2 ((hr1.cell 0).trans rfl) ((hr1.cell 1).trans rfl) ?_
    refine St_row hr1 (by simp) fun H2 hU2 _ hr2 => ?_
    rw [hoff] at hr2
    refine hkk3 () H2 ⟨sA, s1, rfl, ⟨hr2, (hR.va.ext hE1).upd hU2 fun b hb e => hR.va.ne hb hr (by decide) e, hv1.upd hU2 fun b hb e => hv1.ne hb hr1 (by decide) e, hok'⟩, fun c hc => ?_, (hE1.mono fun _ _ h => h.elim).trans hU2 fun _ _ h => h⟩
    exact hc.elim .inl fun hc => .inr (.inr (hf1 c hc))

theorem s_ref_Bytes {p : Nat} {sA sB : Sl} {r : RSt} {H : Heap} {k : Sl → Heap → Prop} (hR : RAt H p sA sB r)
    (hk : ∀ s' H', RB H' s' (bytesR r) → Ext H H' → k s' H') :
    CallT Pg f_hindcastref03_Store_Bytes [.pointer (some (adr p))] (.one (.c .sl)) H k := by
  apply c_hindcastref03_Store_Bytes
  unfold v_hindcastref03_Store_Bytes
  simp only [adr_add, NilCk_some]
  have hr := hR.row
  have hbd := hR.ok.1
  have e0 : bytesR r = if r.off then [] else r.A ++ r.B := rfl
  refine Ld_bool ((hr.cell 2).trans rfl) ?_
  refine Br.mk (fun h => ?_) fun hoff => ?_
  · rw [h, if_pos rfl] at e0
    rw [e0] at hk
    exact hk ⟨none, 0, 0⟩ H (.nil _) (.refl _ _)
  rw [hoff, if_neg (by simp)] at e0
  refine Ld_sl ((hr.cell 0).trans rfl) ?_
  refine Ld_sl ((hr.cell 1).trans rfl) ?_
  refine s_joined hR.va.rb hR.vb.rb (by omega) fun s1 H1 hv1 hf1 hE1 => ?_
  exact hk s1 H1 (by rw [e0]; exact hv1.rb) hE1

theorem s_ref_Fuse {p : Nat} {sA sB : Sl} {r : RSt} {n : Int} {H : Heap} {k : Int → Heap → Prop} (hR : RAt H p sA sB r) (hn : I64 n)
    (hk : ∀ H', RAt H' p sA sB (fuseR r n).2 → Upd (· = p) H H' → k (fuseR r n).1 H') :
    CallT Pg f_hindcastref03_Store_Fuse [.pointer (some (adr p)), .int .i64 n] (.one (.c (.int .i64))) H k := by
  apply c_hindcastref03_Store_Fuse
  unfold v_hindcastref03_Store_Fuse
  simp only [adr_add, NilCk_some]
  have hr := hR.row
  have hok' := fuseR_ok hR.ok hn
  have e0 : fuseR r n = if r.off then (30, r) else if n < 0 then (1, r) else (0, { r with left := n }) := rfl
  refine Ld_bool ((hr.cell 2).trans rfl) ?_
  refine Br.mk (fun h => ?_) fun hoff => ?_
  · rw [h, if_pos rfl] at e0
    rw [e0] at hk
    exact hk H hR (.refl _ _)
  rw [hoff, if_neg (by simp)] at e0
  refine Br_dec (fun h => ?_) fun h => ?_
  · rw [if_pos h] at e0
    rw [e0] at hk
    exact hk H hR (.refl _ _)
  rw [if_neg h] at e0
  rw [e0] at hk hok'
  refine St_row hr (by simp) fun H1 hU1 _ hr1 => ?_
  rw [hoff] at hr1
  exact hk H1 ⟨hr1, hR.va.upd hU1 fun b hb e => hR.va.ne hb hr (by decide) e, hR.vb.upd hU1 fun b hb e => hR.vb.ne hb hr (by decide) e, hok'⟩ hU1

theorem s_ref_Restart {p : Nat} {sA sB : Sl} {r : RSt} {H : Heap} {k : Unit → Heap → Prop} (hR : RAt H p sA sB r)
    (hk : ∀ H', RAt H' p sA sB (restartR r) → Upd (· = p) H H' → k () H') :
    CallT Pg f_hindcastref03_Store_Restart [.pointer (some (adr p))] (.tup []) H k := by
  apply c_hindcastref03_Store_Restart
  unfold v_hindcastref03_Store_Restart
  simp only [adr_add, NilCk_some]
  have hr := hR.row
  refine St_row hr (by simp) fun H1 hU1 _ hr1 => ?_
  refine St_row hr1 (by simp) fun H2 hU2 _ hr2 => ?_
  have hU := hU1.trans hU2 fun _ _ h => h
  exact hk H2 ⟨hr2, hR.va.upd hU fun b hb e => hR.va.ne hb hr (by decide) e, hR.vb.upd hU fun b hb e => hR.vb.ne hb hr (by decide) e, restartR_ok hR.ok⟩ hU

theorem s_ref_State {p : Nat} {sA sB : Sl} {r : RSt} {H : Heap} {k : Int × Int × Bool → Heap → Prop} (hR : RAt H p sA sB r)
    (hk : k (((r.A.length + r.B.length : Nat) : Int), (r.A.length : Int), !r.off) H) :
    CallT Pg f_hindcastref03_Store_State [.pointer (some (adr p))] (.tup [(.c (.int .i64)), (.c (.int .i64)), (.c .bool)]) H k := by
  apply c_hindcastref03_Store_State
  unfold v_hindcastref03_Store_State
  simp only [adr_add, NilCk_some]
  have hr := hR.row
  have ha := hR.va.len
  simp only [List.length_map] at ha
  refine Ld_sl ((hr.cell 0).trans rfl) ?_
  refine Ld_bool ((hr.cell 2).trans rfl) ?_
  refine s_size hR ?_
  refine Stab_2 ((hr.cell 2).trans rfl) ((hr.cell 0).trans rfl) ?_
  rw [ha]; exact hk

theorem s_ref_Crash {p : Nat} {sA sB x : Sl} {r : RSt} {n : Int} {bs : List UInt8} {H : Heap} {k : Int → Heap → Prop} (hR : RAt H p sA sB r) (hx : RB H x bs) (hl : bs.length ≤ 2 ^ 50) (hn : I64 n)
    (hk : ∀ sA' sB' H', RAt H' p sA' sB' (crashR r n bs).2 → Own2 H sA sB sA' sB' → Upd (· = p) H H' → k (crashR r n bs).1 H') :
    CallT Pg f_hindcastref03_Store_Crash [.pointer (some (adr p)), .int .i64 n, .slice x.a x.len x.cap] (.one (.c (.int .i64))) H k := by
  apply c_hindcastref03_Store_Crash
  unfold v_hindcastref03_Store_Crash
  simp only [adr_add, NilCk_some]
  have hr := hR.row
  have hok' := crashR_ok hR.ok n bs
  have hbd := hR.ok.1
  have hxl := hx.len
  have ha := hR.va.len
  have hb := hR.vb.len
  simp only [List.length_map] at ha hb
  unfold I64 at hn
  have e0 : crashR r n bs = if r.off then (30, r) else if n < 0 then (1, r)
    else if r.A.length + Nat.min n.toNat r.B.length + bs.length > 16777216 then (40, r)
    else (0, failR r (Nat.min n.toNat r.B.length) bs) := rfl
  refine Ld_bool ((hr.cell 2).trans rfl) ?_
  refine Br.mk (fun h => ?_) fun hoff => ?_
  · rw [h, if_pos rfl] at e0
    rw [e0] at hk
    exact hk sA sB H hR (.refl _ _ _) (.refl _ _)
  rw [hoff, if_neg (by simp)] at e0
  refine Br_dec (fun h => ?_) fun hneg => ?_
  · rw [if_pos h] at e0
    rw [e0] at hk
    exact hk sA sB H hR (.refl _ _ _) (.refl _ _)
  rw [if_neg hneg] at e0
  refine Ld_sl ((hr.cell 0).trans rfl) ?_
  refine Ld_sl ((hr.cell 1).trans rfl) ?_
  obtain ⟨m, hm⟩ : ∃ m, m = Nat.min n.toNat r.B.length := ⟨_, rfl⟩
  have hmB : m ≤ r.B.length := by rw [hm]; exact Nat.min_le_right _ _
  have e1 : (if (sB.len : Int) < n then (sB.len : Int) else n) = (m : Int) := by
    rw [hm]
    rcases Nat.le_total n.toNat r.B.length with h | h
    · rw [show Nat.min n.toNat r.B.length = n.toNat from Nat.min_eq_left h]; split <;> omega
    · rw [show Nat.min n.toNat r.B.length = r.B.length from Nat.min_eq_right h]; split <;> omega
  rw [e1, wrap_i64_id (by omega) (by omega), Lt_def, Lt_def, wrap_i64_id (by omega) (by omega)]
  rw [← hm] at e0
  refine Br_dec (fun h => ?_) fun hfit => ?_
  · rw [if_pos (by omega)] at e0
    rw [e0] at hk
    exact hk sA sB H hR (.refl _ _ _) (.refl _ _)
  rw [if_neg (by omega)] at e0
  rw [e0] at hk
  refine s_fails hR hx (by omega) hm (by omega) fun sA' H' h1 h2 h3 => ?_
  exact hk sA' _ H' h1 h2 h3
end Go.Proofs.Ytpkpebgpiakbeaa
