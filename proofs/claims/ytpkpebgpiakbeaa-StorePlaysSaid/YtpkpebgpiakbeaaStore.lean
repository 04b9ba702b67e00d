/-
  Contracts of the store: the program's and the document's, over one state.
-/
import Derived.Test.YtpkpebgpiakbeaaVStore
import Derived.Test.YtpkpebgpiakbeaaHcBytes
namespace Go.Proofs.Ytpkpebgpiakbeaa
set_option linter.unusedVariables false
set_option linter.unusedSimpArgs false
open Go.Proofs.Ytpkpebgpiakbeaa.Hc
set_option maxRecDepth 100000

/-- What a store holds: what lasts, what is loose, is the power off, the fuse. -/
structure RSt where
  A : List UInt8
  B : List UInt8
  off : Bool
  left : Int
abbrev RSt.all (r : RSt) : List UInt8 := r.A ++ r.B
def RSt.ok (r : RSt) : Prop := r.A.length + r.B.length ≤ 16777216 ∧ I64 r.left

theorem i64_m1 : I64 (-1) := by unfold I64; omega
def failR (r : RSt) (keep : Nat) (junk : List UInt8) : RSt := ⟨r.A ++ r.B.take keep ++ junk, [], true, -1⟩
def appendR (r : RSt) (bs : List UInt8) : Int × RSt :=
  if r.off then (30, r) else if r.A.length + r.B.length + bs.length > 16777216 then (40, r)
  else if r.left < 0 then (0, { r with B := r.B ++ bs })
  else if (bs.length : Int) ≤ r.left then (0, { r with B := r.B ++ bs, left := r.left - bs.length })
  else (30, ⟨r.A ++ r.B ++ bs.take r.left.toNat, [], true, -1⟩)
def syncR (r : RSt) : Int × RSt := if r.off then (30, r) else (0, { r with A := r.A ++ r.B, B := [] })
def cutR (r : RSt) (n : Int) : Int × RSt :=
  if r.off then (30, r) else if n < 0 ∨ n > ((r.A.length + r.B.length : Nat) : Int) then (1, r)
  else if n ≤ (r.A.length : Int) then (0, { r with A := r.A.take n.toNat, B := [] })
  else (0, { r with B := r.B.take (n.toNat - r.A.length) })
def bytesR (r : RSt) : List UInt8 := if r.off then [] else r.A ++ r.B
def fuseR (r : RSt) (n : Int) : Int × RSt := if r.off then (30, r) else if n < 0 then (1, r) else (0, { r with left := n })
def crashR (r : RSt) (keep : Int) (junk : List UInt8) : Int × RSt :=
  if r.off then (30, r) else if keep < 0 then (1, r)
  else if r.A.length + Nat.min keep.toNat r.B.length + junk.length > 16777216 then (40, r)
  else (0, failR r (Nat.min keep.toNat r.B.length) junk)
def restartR (r : RSt) : RSt := { r with off := false, left := -1 }

theorem appendR_ok {r : RSt} (h : r.ok) (bs : List UInt8) : (appendR r bs).2.ok := by
  obtain ⟨h1, h2, h3⟩ := h
  unfold appendR
  split
  · exact ⟨h1, h2, h3⟩
  split
  · exact ⟨h1, h2, h3⟩
  split
  · exact ⟨by simp; omega, h2, h3⟩
  split
  · exact ⟨by simp; omega, by dsimp only; omega, by dsimp only; omega⟩
  · exact ⟨by simp; omega, i64_m1⟩
theorem syncR_ok {r : RSt} (h : r.ok) : (syncR r).2.ok := by
  obtain ⟨h1, h2, h3⟩ := h
  unfold syncR; split
  · exact ⟨h1, h2, h3⟩
  · exact ⟨by simp; omega, h2, h3⟩
theorem cutR_ok {r : RSt} (h : r.ok) (n : Int) : (cutR r n).2.ok := by
  obtain ⟨h1, h2, h3⟩ := h
  unfold cutR; split
  · exact ⟨h1, h2, h3⟩
  split
  · exact ⟨h1, h2, h3⟩
  split
  · exact ⟨by simp; omega, h2, h3⟩
  · exact ⟨by simp; omega, h2, h3⟩
theorem fuseR_ok {r : RSt} (h : r.ok) {n : Int} (hn : I64 n) : (fuseR r n).2.ok := by
  unfold fuseR; split
  · exact h
  split
  · exact h
  · exact ⟨h.1, hn⟩
theorem crashR_ok {r : RSt} (h : r.ok) (n : Int) (bs : List UInt8) : (crashR r n bs).2.ok := by
  unfold crashR; split
  · exact h
  split
  · exact h
  split
  · exact h
  · refine ⟨?_, i64_m1⟩
    rename_i h3
    simp only [failR, List.length_append, List.length_take, List.length_nil]
    have e1 : Nat.min n.toNat r.B.length ≤ r.B.length := Nat.min_le_right _ _
    rw [Nat.min_eq_left e1]
    simp only [Nat.add_zero]; omega
theorem restartR_ok {r : RSt} (h : r.ok) : (restartR r).ok := ⟨h.1, i64_m1⟩

/-- What comes out is fresh. -/
def Fresh (H : Heap) (s : Sl) : Prop := ∀ b, s.a = some (adr b) → H.size ≤ b
theorem Fresh.mono {H H' : Heap} {s : Sl} (h : Fresh H' s) (hs : H.size ≤ H'.size) : Fresh H s := fun b hb => Nat.le_trans hs (h b hb)

/-! ### copies -/
theorem s_copied {x : Sl} {bs : List UInt8} {H : Heap} {k : Sl → Heap → Prop} (hx : RB H x bs) (hl : bs.length ≤ 2 ^ 47)
    (hk : ∀ s' H', Vec H' T_uint8 s' (u8s bs) → s'.cap = s'.len → s'.a = some (adr H.size) → Ext H H' → k s' H') :
    CallT Pg f_store_copied [.slice x.a x.len x.cap] (.one (.c .sl)) H k := by
  apply c_store_copied
  unfold v_store_copied
  have hxl := hx.len
  refine Mks_row (by omega) (by omega) (by omega) fun b H1 hb hE1 _ hr1 => ?_
  rw [Int.toNat_natCast] at hr1 ⊢
  refine Cpy_row hr1 (hx.ext hE1) (by omega) (by simp) fun H2 hU2 hs2 hr2 => ?_
  refine hk _ H2 ⟨by simp [hxl], .inr ⟨b, [], rfl, ?_, by simp [hxl]⟩, by simp⟩ rfl (by rw [hb]) (hE1.trans hU2 fun c hc e => by omega)
  rw [List.append_nil]
  rwa [List.drop_eq_nil_of_le (by simp; omega), List.append_nil] at hr2

theorem s_joined {x y : Sl} {xs bs : List UInt8} {H : Heap} {k : Sl → Heap → Prop} (hx : RB H x xs) (hy : RB H y bs) (hl : xs.length + bs.length ≤ 2 ^ 40)
    (hk : ∀ s' H', Vec H' T_uint8 s' (u8s (xs ++ bs)) → Fresh H s' → Ext H H' → k s' H') :
    CallT Pg f_hindcastref03_joined [.slice x.a x.len x.cap, .slice y.a y.len y.cap] (.one (.c .sl)) H k := by
  apply c_hindcastref03_joined
  unfold v_hindcastref03_joined
  refine App_vec (Vec.nil H T_uint8) hx.rd (by simp [hx.len]) (u8s_one _) (by omega) (by simp; omega) fun l1 H1 hv1 hU1 hl1 hs1 => ?_
  have hE1 : Ext H H1 := hU1.mono fun b hb e => by cases e.1
  have hf1 : Fresh H l1 := fun b hb => by
    rcases hl1 with h | h
    · rw [h] at hb; cases hb
    · rw [h] at hb; cases hb; exact Nat.le_refl _
  rw [List.nil_append] at hv1
  refine App_vec hv1 (hy.ext hE1).rd (by simp [hy.len]) (u8s_one _) (by omega) (by simp; omega) fun l2 H2 hv2 hU2 hl2 hs2 => ?_
  refine hk l2 H2 (by rw [u8s, List.map_append]; exact hv2) (fun b hb => ?_) (hE1.trans hU2 fun b hb e => by have := hf1 b e.1; omega)
  rcases hl2 with h | h
  · rw [h] at hb; exact hf1 b hb
  · rw [h] at hb; cases hb; exact hE1.size

/-! ### the program's store -/
structure SAt (H : Heap) (p : Nat) (s : Sl) (r : RSt) : Prop where
  row : ∃ f : Int, Row H p T_store_Store [.slice s.a s.len s.cap, .int .i64 (r.A.length : Int), .bool r.off, .bool (decide (0 ≤ r.left)), .int .i64 f] ∧ (0 ≤ r.left → f = r.left)
  vec : Vec H T_uint8 s (u8s r.all)
  ok : r.ok
theorem SAt.upd {M : Nat → Prop} {H H' : Heap} (hu : Upd M H H') {p : Nat} {s : Sl} {r : RSt} (h : SAt H p s r) (hp : ¬ M p) (hs : ∀ b, s.a = some (adr b) → ¬ M b) : SAt H' p s r :=
  ⟨let ⟨f, h1, h2⟩ := h.row; ⟨f, hu.row h1 hp, h2⟩, h.vec.upd hu hs, h.ok⟩
theorem SAt.ext {H H' : Heap} (hu : Ext H H') {p : Nat} {s : Sl} {r : RSt} (h : SAt H p s r) : SAt H' p s r := h.upd hu (fun h => h) fun _ _ h => h
theorem SAt.lt {H : Heap} {p : Nat} {s : Sl} {r : RSt} (h : SAt H p s r) : p < H.size := let ⟨_, h1, _⟩ := h.row; h1.lt
/-- What a step of a store may turn. -/
def SM (p : Nat) (s : Sl) (b : Nat) : Prop := b = p ∨ s.a = some (adr b)
/-- Its bytes stay where they were, or are new. -/
def Own (H : Heap) (s s' : Sl) : Prop := ∀ b, s'.a = some (adr b) → s.a = some (adr b) ∨ H.size ≤ b
theorem Own.refl (H : Heap) (s : Sl) : Own H s s := fun _ h => .inl h

theorem s_store_New {x : Sl} {bs : List UInt8} {H : Heap} {k : Option Addr × Int → Heap → Prop} (hx : RB H x bs)
    (hbig : bs.length > 16777216 → k (none, 1) H)
    (hk : ∀ p s H', bs.length ≤ 16777216 → H.size ≤ p → SAt H' p s ⟨bs, [], false, -1⟩ → Fresh H s → Ext H H' → k (some (adr p), 0) H') :
    CallT Pg f_store_New [.slice x.a x.len x.cap] (.tup [(.c .ptr), (.c (.int .i64))]) H k := by
  apply c_store_New
  unfold v_store_New
  have hxl := hx.len
  refine Br_dec (fun h => hbig (by omega)) fun h => ?_
  refine s_copied hx (by omega) fun s H1 hv1 _ ha1 hE1 => ?_
  refine Nw_row fun p H2 hp hE2 _ hr2 => ?_
  refine hk p s H2 (by omega) (by have := hE1.size; omega) ⟨⟨0, ?_, by simp⟩, ?_, by simp; omega, i64_m1⟩ (fun b hb => ?_) (hE1.ext hE2)
  · rw [hxl] at hr2; exact hr2
  · rw [RSt.all, List.append_nil]; exact hv1.upd hE2 fun _ _ h => h
  · rw [ha1] at hb; cases hb; exact Nat.le_refl _

theorem s_fail {p : Nat} {s : Sl} {H : Heap} {k : Unit → Heap → Prop} {n f : Int} {o u : Bool}
    (hr : Row H p T_store_Store [.slice s.a s.len s.cap, .int .i64 n, .bool o, .bool u, .int .i64 f])
    (hk : ∀ H', Upd (· = p) H H' → Row H' p T_store_Store [.slice s.a s.len s.cap, .int .i64 (s.len : Int), .bool true, .bool false, .int .i64 0] → k () H') :
    CallT Pg f_store_Store_fail [.pointer (some (adr p))] (.tup []) H k := by
  apply c_store_Store_fail
  unfold v_store_Store_fail
  simp only [adr_add, NilCk_some]
  refine Ld_sl ((hr.cell 0).trans rfl) ?_
  refine St_row hr (by simp) fun H1 hU1 _ hr1 => ?_
  refine St_row hr1 (by simp) fun H2 hU2 _ hr2 => ?_
  refine St_row hr2 (by simp) fun H3 hU3 _ hr3 => ?_
  refine St_row hr3 (by simp) fun H4 hU4 _ hr4 => ?_
  exact hk H4 (((hU1.trans hU2 fun _ _ h => h).trans hU3 fun _ _ h => h).trans hU4 fun _ _ h => h) hr4

theorem s_Append {p : Nat} {s x : Sl} {r : RSt} {bs : List UInt8} {H : Heap} {k : Int → Heap → Prop} (hS : SAt H p s r) (hx : RB H x bs) (hl : bs.length ≤ 2 ^ 50)
    (hk : ∀ s' H', SAt H' p s' (appendR r bs).2 → Own H s s' → Upd (SM p s) H H' → k (appendR r bs).1 H') :
    CallT Pg f_store_Store_Append [.pointer (some (adr p)), .slice x.a x.len x.cap] (.one (.c (.int .i64))) H k := by
  apply c_store_Store_Append
  unfold v_store_Store_Append
  simp only [adr_add, NilCk_some]
  obtain ⟨f, hr, hf⟩ := hS.row
  have hv := hS.vec
  have hok := hS.ok
  have hok2 := hok.2
  unfold I64 at hok2
  have hxl := hx.len
  have hsl := hv.len
  simp only [RSt.all, List.length_map, List.length_append] at hsl
  have hbd := hok.1
  have hok' := appendR_ok hok bs
  have e0 : appendR r bs = if r.off then (30, r) else if r.A.length + r.B.length + bs.length > 16777216 then (40, r)
    else if r.left < 0 then (0, { r with B := r.B ++ bs })
    else if (bs.length : Int) ≤ r.left then (0, { r with B := r.B ++ bs, left := r.left - bs.length })
    else (30, ⟨r.A ++ r.B ++ bs.take r.left.toNat, [], true, -1⟩) := rfl
  refine Ld_bool ((hr.cell 2).trans rfl) ?_
  refine Br.mk (fun h => ?_) fun hoff => ?_
  · rw [h, if_pos rfl] at e0
    rw [e0] at hk
    exact hk s H hS (.refl _ _) (.refl _ _)
  rw [hoff, if_neg (by simp)] at e0
  refine Ld_sl ((hr.cell 0).trans rfl) ?_
  rw [Lt_def, wrap_i64_id (by omega) (by omega)]
  refine Br_dec (fun h => ?_) fun hfit => ?_
  · rw [if_pos (by omega)] at e0
    rw [e0] at hk
    exact hk s H hS (.refl _ _) (.refl _ _)
  rw [if_neg (by omega)] at e0
  refine Jn.mk (fun j H' => H = H' ∧ j = decide (0 ≤ r.left ∧ (bs.length : Int) > r.left)) (fun kk hkk => ?_) ?_
  · refine Ld_bool ((hr.cell 3).trans rfl) ?_
    refine Br_dec (fun h => ?_) fun h => hkk _ _ ⟨rfl, by simp [h]⟩
    refine Ld_int ((hr.cell 4).trans rfl) ?_
    refine hkk _ _ ⟨rfl, ?_⟩
    rw [hf h, hxl]; simp [h]
  rintro _ _ ⟨rfl, rfl⟩
  have hap : ∀ {y : Sl} {cs : List UInt8} {H1 : Heap} {kk : Sl → Heap → Prop}, Ext H H1 → RB H1 y cs → cs.length ≤ bs.length → Vec H1 T_uint8 s (u8s r.all) →
      (∀ l2 H2, Vec H2 T_uint8 l2 (u8s (r.all ++ cs)) → Own H s l2 → Upd (fun b => s.a = some (adr b)) H1 H2 → Row H2 p T_store_Store [.slice s.a s.len s.cap, .int .i64 (r.A.length : Int), .bool r.off, .bool (decide (0 ≤ r.left)), .int .i64 f] → kk l2 H2) →
      App T_uint8 1 1 #[.int .u8 0] s y H1 kk := by
    intro y cs H1 kk hE hy hcl hv1 hkk
    refine App_vec hv1 hy.rd (by simp [hy.len]) (u8s_one _) (by omega) (by simp [RSt.all]; omega) fun l2 H2 hv2 hU2 hl2 hs2 => ?_
    refine hkk l2 H2 (by rw [u8s, List.map_append]; exact hv2) (fun b hb => ?_) (hU2.mono fun _ _ h => h.1) (hU2.row (hE.row hr fun h => h) fun e => hv1.ne e.1 (hE.row hr fun h => h) (by decide) rfl)
    rcases hl2 with h | h
    · rw [h] at hb; exact .inl hb
    · rw [h] at hb; cases hb; exact .inr hE.size
  refine Br_dec (fun hfuse => ?_) fun hfuse => ?_
  · rw [if_neg (by omega), if_neg (by omega)] at e0
    rw [e0] at hk hok'
    have hf' := hf hfuse.1
    subst hf'
    refine Ld_sl ((hr.cell 0).trans rfl) ?_
    refine Ld_int ((hr.cell 4).trans rfl) ?_
    have hcap := hx.cap
    refine SlA0 (by omega) (by omega) (by omega) ?_
    refine hap (.refl _ _) (hx.pre (n := r.left.toNat) (c := x.cap) (by omega) (by omega)) (by simp; omega) hv fun l2 H2 hv2 ho2 hU2 hr2 => ?_
    refine Stab_1 ((hr2.cell 4).trans rfl) ?_
    refine St_row hr2 (by simp) fun H3 hU3 _ hr3 => ?_
    refine s_fail hr3 fun H4 hU4 hr4 => ?_
    have hv4 := (hv2.upd hU3 fun b hb e => hv2.ne hb hr2 (by decide) e).upd hU4 fun b hb e => hv2.ne hb hr2 (by decide) e
    refine hk l2 H4 ⟨⟨0, ?_, by simp⟩, by simpa [RSt.all] using hv4, hok'⟩ ho2 (((hU2.mono fun _ _ h => .inr h).trans hU3 fun _ _ h => .inl h).trans hU4 fun _ _ h => .inl h)
    have hll := hv2.len
    simp only [RSt.all, List.length_map] at hll
    rw [hll] at hr4 ⊢
    exact hr4
  · refine Ld_sl ((hr.cell 0).trans rfl) ?_
    refine hap (.refl _ _) hx (Nat.le_refl _) hv fun l2 H2 hv2 ho2 hU2 hr2 => ?_
    refine St_row hr2 (by simp) fun H3 hU3 _ hr3 => ?_
    have hv3 := hv2.upd hU3 fun b hb e => hv2.ne hb hr2 (by decide) e
    refine Ld_bool ((hr3.cell 3).trans rfl) ?_
    refine Jn.mk (fun _ H' => SAt H' p l2 (appendR r bs).2 ∧ (appendR r bs).1 = 0 ∧ Upd (SM p s) H H') (fun kk hkk => ?_) fun _ H' ⟨h1, h2, h3⟩ => ?_
    · have hUp := (hU2.mono fun _ _ h => .inr h : Upd (SM p s) H H2).trans hU3 fun _ _ h => .inl h
      refine Br_dec (fun h => ?_) fun h => ?_
      · rw [if_neg (by omega), if_pos (by omega)] at e0
        rw [e0] at hkk hok'
        refine Ld_int ((hr3.cell 4).trans rfl) ?_
        have hf' := hf h
        subst hf'
        rw [Lt_def, wrap_i64_id (by omega) (by omega)]
        refine St_row hr3 (by simp) fun H4 hU4 _ hr4 => ?_
        refine hkk () H4 ⟨⟨⟨_, ?_, fun _ => rfl⟩, ?_, hok'⟩, rfl, hUp.trans hU4 fun _ _ h => .inl h⟩
        · rw [hxl, hoff] at hr4
          dsimp only
          have e1 : decide (0 ≤ r.left - (bs.length : Int)) = decide (0 ≤ r.left) := by
            rw [decide_eq_true h, decide_eq_true (by omega)]
          rw [e1]; exact hr4
        · have := hv3.upd hU4 fun b hb e => hv2.ne hb hr2 (by decide) e
          simpa [RSt.all] using this
      · rw [if_pos (by omega)] at e0
        rw [e0] at hkk hok'
        rw [hoff] at hr3
        refine hkk () H3 ⟨⟨⟨_, hr3, fun h' => absurd h' h⟩, by simpa [RSt.all] using hv3, hok'⟩, rfl, hUp⟩
    · rw [← h2]
      exact hk l2 H' h1 ho2 h3

theorem s_Sync {p : Nat} {s : Sl} {r : RSt} {H : Heap} {k : Int → Heap → Prop} (hS : SAt H p s r)
    (hk : ∀ H', SAt H' p s (syncR r).2 → Upd (· = p) H H' → k (syncR r).1 H') :
    CallT Pg f_store_Store_Sync [.pointer (some (adr p))] (.one (.c (.int .i64))) H k := by
  apply c_store_Store_Sync
  unfold v_store_Store_Sync
  simp only [adr_add, NilCk_some]
  obtain ⟨f, hr, hf⟩ := hS.row
  have hok' := syncR_ok hS.ok
  have hsl := hS.vec.len
  simp only [RSt.all, List.length_map, List.length_append] at hsl
  have e0 : syncR r = if r.off then (30, r) else (0, { r with A := r.A ++ r.B, B := [] }) := rfl
  refine Ld_bool ((hr.cell 2).trans rfl) ?_
  refine Br.mk (fun h => ?_) fun hoff => ?_
  · rw [h, if_pos rfl] at e0
    rw [e0] at hk
    exact hk H hS (.refl _ _)
  rw [hoff, if_neg (by simp)] at e0
  refine Ld_sl ((hr.cell 0).trans rfl) ?_
  refine St_row hr (by simp) fun H1 hU1 _ hr1 => ?_
  rw [e0] at hk hok'
  rw [hoff] at hr1
  refine hk H1 ⟨⟨f, ?_, hf⟩, ?_, hok'⟩ hU1
  · simp only [List.length_append]; rw [← hsl]; exact hr1
  · have := hS.vec.upd hU1 fun b hb e => hS.vec.ne hb hr (by decide) e
    simpa [RSt.all] using this

theorem s_Cut {p : Nat} {s : Sl} {r : RSt} {n : Int} {H : Heap} {k : Int → Heap → Prop} (hS : SAt H p s r)
    (hk : ∀ s' H', SAt H' p s' (cutR r n).2 → s'.a = s.a → Upd (· = p) H H' → k (cutR r n).1 H') :
    CallT Pg f_store_Store_Cut [.pointer (some (adr p)), .int .i64 n] (.one (.c (.int .i64))) H k := by
  apply c_store_Store_Cut
  unfold v_store_Store_Cut
  simp only [adr_add, NilCk_some]
  obtain ⟨f, hr, hf⟩ := hS.row
  have hok' := cutR_ok hS.ok n
  have hsl := hS.vec.len
  have hlc := hS.vec.lc
  simp only [RSt.all, List.length_map, List.length_append] at hsl
  have e0 : cutR r n = if r.off then (30, r) else if n < 0 ∨ n > ((r.A.length + r.B.length : Nat) : Int) then (1, r)
    else if n ≤ (r.A.length : Int) then (0, { r with A := r.A.take n.toNat, B := [] })
    else (0, { r with B := r.B.take (n.toNat - r.A.length) }) := rfl
  refine Ld_bool ((hr.cell 2).trans rfl) ?_
  refine Br.mk (fun h => ?_) fun hoff => ?_
  · rw [h, if_pos rfl] at e0
    rw [e0] at hk
    exact hk s H hS rfl (.refl _ _)
  rw [hoff, if_neg (by simp)] at e0
  refine Jn.mk (fun j H' => H = H' ∧ j = decide (n < 0 ∨ n > ((r.A.length + r.B.length : Nat) : Int))) (fun kk hkk => ?_) ?_
  · refine Br_dec (fun h => hkk _ _ ⟨rfl, by simp [h]⟩) fun h => ?_
    refine Ld_sl ((hr.cell 0).trans rfl) ?_
    refine hkk _ _ ⟨rfl, ?_⟩
    rw [hsl]; simp [h]
  rintro _ _ ⟨rfl, rfl⟩
  refine Br_dec (fun h => ?_) fun h => ?_
  · rw [if_pos h] at e0
    rw [e0] at hk
    exact hk s H hS rfl (.refl _ _)
  rw [if_neg h] at e0
  refine Ld_sl ((hr.cell 0).trans rfl) ?_
  refine SlA0 (by omega) (by omega) (by omega) ?_
  refine St_row hr (by simp) fun H1 hU1 _ hr1 => ?_
  refine Ld_int ((hr1.cell 1).trans rfl) ?_
  refine St_row hr1 (by simp) fun H2 hU2 _ hr2 => ?_
  rw [Int.toNat_natCast, hoff] at hr2
  have hv2 := (hS.vec.upd hU1 fun b hb e => hS.vec.ne hb hr (by decide) e).upd hU2 fun b hb e => hS.vec.ne hb hr (by decide) e
  have hv3 := hv2.pre (n := n.toNat) (c := s.cap) (by simp [RSt.all]; omega) (Nat.le_refl _) (by omega)
  rw [u8s, ← List.map_take] at hv3
  have hU := hU1.trans hU2 fun _ _ h => h
  split at e0
  · rename_i hA
    rw [e0] at hk hok'
    refine hk ⟨s.a, n.toNat, s.cap⟩ H2 ⟨⟨f, ?_, hf⟩, ?_, hok'⟩ rfl hU
    · have e1 : (if n < (r.A.length : Int) then n else (r.A.length : Int)) = ((r.A.take n.toNat).length : Int) := by
        simp only [List.length_take]; split <;> omega
      rw [e1] at hr2; exact hr2
    · rw [RSt.all, List.append_nil]
      rwa [RSt.all, List.take_append_of_le_length (by omega)] at hv3
  · rename_i hA
    rw [e0] at hk hok'
    refine hk ⟨s.a, n.toNat, s.cap⟩ H2 ⟨⟨f, ?_, hf⟩, ?_, hok'⟩ rfl hU
    · have e1 : (if n < (r.A.length : Int) then n else (r.A.length : Int)) = (r.A.length : Int) := by split <;> omega
      rw [e1] at hr2; exact hr2
    · rw [RSt.all, List.take_append, List.take_of_length_le (by omega)] at hv3
      exact hv3

theorem s_Bytes {p : Nat} {s : Sl} {r : RSt} {H : Heap} {k : Sl → Heap → Prop} (hS : SAt H p s r)
    (hk : ∀ s' H', Vec H' T_uint8 s' (u8s (bytesR r)) → s'.cap = s'.len → Fresh H s' → Ext H H' → k s' H') :
    CallT Pg f_store_Store_Bytes [.pointer (some (adr p))] (.one (.c .sl)) H k := by
  apply c_store_Store_Bytes
  unfold v_store_Store_Bytes
  simp only [adr_add, NilCk_some]
  obtain ⟨f, hr, hf⟩ := hS.row
  have e0 : bytesR r = if r.off then [] else r.A ++ r.B := rfl
  refine Ld_bool ((hr.cell 2).trans rfl) ?_
  refine Br.mk (fun h => ?_) fun hoff => ?_
  · rw [h, if_pos rfl] at e0
    rw [e0] at hk
    exact hk ⟨none, 0, 0⟩ H (.nil _ _) rfl (fun b hb => by cases hb) (.refl _ _)
  rw [hoff, if_neg (by simp)] at e0
  refine Ld_sl ((hr.cell 0).trans rfl) ?_
  have hb := hS.ok.1
  refine s_copied hS.vec.rb (by simp [RSt.all]; omega) fun s' H1 hv1 hc1 ha1 hE1 => ?_
  refine hk s' H1 (by rw [e0]; exact hv1) hc1 (fun b hb => ?_) hE1
  rw [ha1] at hb; cases hb; exact Nat.le_refl _

theorem s_Fuse {p : Nat} {s : Sl} {r : RSt} {n : Int} {H : Heap} {k : Int → Heap → Prop} (hS : SAt H p s r) (hn : I64 n)
    (hk : ∀ H', SAt H' p s (fuseR r n).2 → Upd (· = p) H H' → k (fuseR r n).1 H') :
    CallT Pg f_store_Store_Fuse [.pointer (some (adr p)), .int .i64 n] (.one (.c (.int .i64))) H k := by
  apply c_store_Store_Fuse
  unfold v_store_Store_Fuse
  simp only [adr_add, NilCk_some]
  obtain ⟨f, hr, hf⟩ := hS.row
  have hok' := fuseR_ok hS.ok hn
  have e0 : fuseR r n = if r.off then (30, r) else if n < 0 then (1, r) else (0, { r with left := n }) := rfl
  refine Ld_bool ((hr.cell 2).trans rfl) ?_
  refine Br.mk (fun h => ?_) fun hoff => ?_
  · rw [h, if_pos rfl] at e0
    rw [e0] at hk
    exact hk H hS (.refl _ _)
  rw [hoff, if_neg (by simp)] at e0
  refine Br_dec (fun h => ?_) fun h => ?_
  · rw [if_pos h] at e0
    rw [e0] at hk
    exact hk H hS (.refl _ _)
  rw [if_neg h] at e0
  refine St_row hr (by simp) fun H1 hU1 _ hr1 => ?_
  refine St_row hr1 (by simp) fun H2 hU2 _ hr2 => ?_
  rw [e0] at hk hok'
  refine hk H2 ⟨⟨n, ?_, fun _ => rfl⟩, (hS.vec.upd hU1 fun b hb e => hS.vec.ne hb hr (by decide) e).upd hU2 fun b hb e => hS.vec.ne hb hr (by decide) e, hok'⟩ (hU1.trans hU2 fun _ _ h => h)
  rw [hoff] at hr2
  dsimp only
  rw [decide_eq_true (by omega : (0 : Int) ≤ n)]
  exact hr2

theorem s_Restart {p : Nat} {s : Sl} {r : RSt} {H : Heap} {k : Unit → Heap → Prop} (hS : SAt H p s r)
    (hk : ∀ H', SAt H' p s (restartR r) → Upd (· = p) H H' → k () H') :
    CallT Pg f_store_Store_Restart [.pointer (some (adr p))] (.tup []) H k := by
  apply c_store_Store_Restart
  unfold v_store_Store_Restart
  simp only [adr_add, NilCk_some]
  obtain ⟨f, hr, hf⟩ := hS.row
  refine St_row hr (by simp) fun H1 hU1 _ hr1 => ?_
  refine St_row hr1 (by simp) fun H2 hU2 _ hr2 => ?_
  refine St_row hr2 (by simp) fun H3 hU3 _ hr3 => ?_
  have hU := (hU1.trans hU2 fun _ _ h => h).trans hU3 fun _ _ h => h
  exact hk H3 ⟨⟨0, hr3, fun h => by simp [restartR] at h⟩, hS.vec.upd hU fun b hb e => hS.vec.ne hb hr (by decide) e, restartR_ok hS.ok⟩ hU

theorem s_State {p : Nat} {s : Sl} {r : RSt} {H : Heap} {k : Int × Int × Bool → Heap → Prop} (hS : SAt H p s r)
    (hk : k (((r.A.length + r.B.length : Nat) : Int), (r.A.length : Int), !r.off) H) :
    CallT Pg f_store_Store_State [.pointer (some (adr p))] (.tup [(.c (.int .i64)), (.c (.int .i64)), (.c .bool)]) H k := by
  apply c_store_Store_State
  unfold v_store_Store_State
  simp only [adr_add, NilCk_some]
  obtain ⟨f, hr, hf⟩ := hS.row
  have hsl := hS.vec.len
  simp only [RSt.all, List.length_map, List.length_append] at hsl
  refine Ld_sl ((hr.cell 0).trans rfl) ?_
  refine Ld_int ((hr.cell 1).trans rfl) ?_
  refine Ld_bool ((hr.cell 2).trans rfl) ?_
  rw [hsl]; exact hk

theorem s_Crash {p : Nat} {s x : Sl} {r : RSt} {n : Int} {bs : List UInt8} {H : Heap} {k : Int → Heap → Prop} (hS : SAt H p s r) (hx : RB H x bs) (hl : bs.length ≤ 2 ^ 50) (hn : I64 n)
    (hk : ∀ s' H', SAt H' p s' (crashR r n bs).2 → Own H s s' → Upd (SM p s) H H' → k (crashR r n bs).1 H') :
    CallT Pg f_store_Store_Crash [.pointer (some (adr p)), .int .i64 n, .slice x.a x.len x.cap] (.one (.c (.int .i64))) H k := by
  apply c_store_Store_Crash
  unfold v_store_Store_Crash
  simp only [adr_add, NilCk_some]
  obtain ⟨f, hr, hf⟩ := hS.row
  have hv := hS.vec
  have hok' := crashR_ok hS.ok n bs
  have hbd := hS.ok.1
  have hxl := hx.len
  have hsl := hS.vec.len
  have hlc := hS.vec.lc
  simp only [RSt.all, List.length_map, List.length_append] at hsl
  unfold I64 at hn
  have e0 : crashR r n bs = if r.off then (30, r) else if n < 0 then (1, r)
    else if r.A.length + Nat.min n.toNat r.B.length + bs.length > 16777216 then (40, r)
    else (0, failR r (Nat.min n.toNat r.B.length) bs) := rfl
  refine Ld_bool ((hr.cell 2).trans rfl) ?_
  refine Br.mk (fun h => ?_) fun hoff => ?_
  · rw [h, if_pos rfl] at e0
    rw [e0] at hk
    exact hk s H hS (.refl _ _) (.refl _ _)
  rw [hoff, if_neg (by simp)] at e0
  refine Br_dec (fun h => ?_) fun hneg => ?_
  · rw [if_pos h] at e0
    rw [e0] at hk
    exact hk s H hS (.refl _ _) (.refl _ _)
  rw [if_neg hneg] at e0
  refine Ld_int ((hr.cell 1).trans rfl) ?_
  refine Ld_sl ((hr.cell 0).trans rfl) ?_
  refine Ld_int ((hr.cell 1).trans rfl) ?_
  rw [Lt_def, wrap_i64_id (x := (s.len : Int) - (r.A.length : Int)) (by omega) (by omega)]
  obtain ⟨m, hm⟩ : ∃ m, m = Nat.min n.toNat r.B.length := ⟨_, rfl⟩
  have hmB : m ≤ r.B.length := by rw [hm]; exact Nat.min_le_right _ _
  have e1 : (if (s.len : Int) - (r.A.length : Int) < n then (s.len : Int) - (r.A.length : Int) else n) = (m : Int) := by
    rw [hm]
    rcases Nat.le_total n.toNat r.B.length with h | h
    · rw [show Nat.min n.toNat r.B.length = n.toNat from Nat.min_eq_left h]; split <;> omega
    · rw [show Nat.min n.toNat r.B.length = r.B.length from Nat.min_eq_right h]; split <;> omega
  rw [e1, wrap_i64_id (by omega) (by omega), Lt_def, Lt_def, wrap_i64_id (by omega) (by omega)]
  rw [← hm] at e0
  refine Br_dec (fun h => ?_) fun hfit => ?_
  · rw [if_pos (by omega)] at e0
    rw [e0] at hk
    exact hk s H hS (.refl _ _) (.refl _ _)
  rw [if_neg (by omega)] at e0
  rw [e0] at hk hok'
  refine Ld_sl ((hr.cell 0).trans rfl) ?_
  refine SlA0 (by omega) (by omega) (by omega) ?_
  have hv1 := hv.pre (n := r.A.length + m) (c := r.A.length + m) (by simp [RSt.all]; omega) (by omega) (Nat.le_refl _)
  rw [u8s, ← List.map_take] at hv1
  rw [show ((r.A.length : Int) + (m : Int)).toNat = r.A.length + m by omega]
  refine App_vec hv1 hx.rd (by simp [hxl]) (u8s_one _) (by omega) (by simp; omega) fun l2 H2 hv2 hU2 hl2 hs2 => ?_
  have hr2 := hU2.row hr fun e => hv.ne e.1 hr (by decide) rfl
  refine St_row hr2 (by simp) fun H3 hU3 _ hr3 => ?_
  refine s_fail hr3 fun H4 hU4 hr4 => ?_
  have hv4 := (hv2.upd hU3 fun b hb e => hv2.ne hb hr2 (by decide) e).upd hU4 fun b hb e => hv2.ne hb hr2 (by decide) e
  have e2 : (failR r m bs).all = (r.A ++ r.B).take (r.A.length + m) ++ bs := by
    simp only [failR, RSt.all, List.append_nil]
    rw [List.take_append, List.take_of_length_le (l := r.A) (by omega), show r.A.length + m - r.A.length = m by omega]
  have hll := hv2.len
  refine hk l2 H4 ⟨⟨0, ?_, fun h => by simp [failR] at h⟩, ?_, hok'⟩ (fun b hb => ?_) (((hU2.mono fun _ _ h => .inr h.1).trans hU3 fun _ _ h => .inl h).trans hU4 fun _ _ h => .inl h)
  · have e3 : (failR r m bs).A.length = l2.len := by
      rw [hll, show (failR r m bs).A = (failR r m bs).all by simp [failR, RSt.all], e2]; simp
    rw [e3]; exact hr4
  · rw [e2, u8s, List.map_append]; exact hv4
  · rcases hl2 with h | h
    · rw [h] at hb; exact .inl hb
    · rw [h] at hb; cases hb; exact .inr (Nat.le_refl _)
end Go.Proofs.Ytpkpebgpiakbeaa
