/-
  The book is looked through; what came out is turned; two dice roll by turns.
-/
import Derived.Test.YtpkpebgpiakbeaaDiceR
namespace Go.Proofs.Ytpkpebgpiakbeaa
set_option linter.unusedVariables false
set_option linter.unusedSimpArgs false
open Go.Proofs.Ytpkpebgpiakbeaa.Hc Go.Proofs.Ytpkpebgpiakbeaa.Hc.Dice
set_option maxRecDepth 100000

theorem s_still {B bk : Nat} {ls ws : List Ent} {H : Heap} {k : Bool → Heap → Prop} (hB : BookAt H B bk ls ws) (hk : k true H) :
    CallT Pg f_hindcastlaw08_book_still [.pointer (some (adr bk))] (.one (.c .bool)) H k := by
  apply c_hindcastlaw08_book_still
  unfold v_hindcastlaw08_book_still
  simp only [adr_add, NilCk_some]
  obtain ⟨L, W, hr, hL, hW, _, _⟩ := hB.ex
  have hLl := hL.len
  simp only [List.length_map] at hLl
  have hWl := hW.len
  simp only [List.length_map] at hWl
  have hle := hB.le
  have hlw : ls.length = ws.length := by simpa using congrArg List.length hB.eq
  refine LoopT.mk (fun i H' => H = H' ∧ ∃ j : Nat, i = j ∧ j ≤ ls.length) (fun i _ => (ls.length - i).toNat) ⟨rfl, 0, rfl, by omega⟩ ?_
  rintro next _ _ ⟨rfl, j, rfl, hj⟩ hnext
  refine Ld_sl ((hr.cell 0).trans rfl) ?_
  refine Br_dec (fun hlt => ?_) fun hge => hk
  refine Ld_sl ((hr.cell 0).trans rfl) ?_
  have hj1 : j < ls.length := by omega
  have hj2 : j < ws.length := by omega
  refine IxA_vec hL (by omega) (by simp; omega) fun a1 h1 _ => ?_
  rw [Int.toNat_natCast, List.getElem?_map, List.getElem?_eq_getElem hj1] at h1
  refine Ld_sl (s := ls[j].sl) h1 ?_
  refine Ld_sl ((hr.cell 1).trans rfl) ?_
  refine IxA_vec hW (by omega) (by simp; omega) fun a2 h2 _ => ?_
  rw [Int.toNat_natCast, List.getElem?_map, List.getElem?_eq_getElem hj2] at h2
  refine Ld_sl (s := ws[j].sl) h2 ?_
  have o1 := hB.lok _ (List.getElem_mem hj1)
  have o2 := hB.wok _ (List.getElem_mem hj2)
  have he : ls[j].xs = ws[j].xs := by
    have := congrArg (fun l => l[j]?) hB.eq
    simpa [hj1, hj2] using this
  have hx := hB.xl _ (List.getElem_mem hj1)
  refine s_same08 (xs := ls[j].xs) o1.rd (by rw [he]; exact o2.rd) o1.len (by rw [he]; exact o2.len) (by omega) ?_
  refine Stab_2 ((hr.cell 1).trans rfl) ((hr.cell 0).trans rfl) ?_
  rw [Bool.not_true, Br_false, Lt_def, wrap_i64_id (by omega) (by omega)]
  exact hnext _ _ ⟨rfl, j + 1, by omega, by omega⟩ (by omega)

/-- What is kept, while it is turned. -/
structure Keep (H : Heap) (B bk : Nat) (L W : Sl) (ls : List Ent) : Prop where
  row : Row H bk T_hindcastlaw08_book [.slice L.a L.len L.cap, .slice W.a W.len W.cap]
  vec : Vec H T_Sl_int L (ls.map Ent.v)
  ok : ∀ e ∈ ls, e.ok H B
  nd : (ls.map Ent.b).Pairwise fun x y => ∀ b, x = some b → y ≠ some b
  le : ls.length ≤ 40
  xl : ∀ e ∈ ls, e.xs.length ≤ 1000
theorem pw_of {ls : List Ent} (h : (ls.filterMap Ent.b).Nodup) : (ls.map Ent.b).Pairwise fun x y => ∀ b, x = some b → y ≠ some b := by
  rw [List.nodup_iff_pairwise_ne, List.pairwise_filterMap] at h
  rw [List.pairwise_map]
  exact h.imp fun {a b} hab x hx hy => hab x hx x hy rfl
theorem Keep.ne {H : Heap} {B bk : Nat} {L W : Sl} {ls : List Ent} (h : Keep H B bk L W ls) {i j : Nat} (hi : i < ls.length) (hj : j < ls.length) (hij : i ≠ j) {b : Nat} (hb : ls[i].b = some b) : ls[j].b ≠ some b := by
  have hp := List.pairwise_iff_getElem.1 h.nd
  intro hc
  rcases Nat.lt_or_ge i j with hlt | hge
  · exact hp i j (by simpa using hi) (by simpa using hj) hlt b (by simpa using hb) (by simpa using hc)
  · exact hp j i (by simpa using hj) (by simpa using hi) (by omega) b (by simpa using hc) (by simpa using hb)
theorem Keep.ext {H H' : Heap} (hu : Ext H H') {B bk : Nat} {L W : Sl} {ls : List Ent} (h : Keep H B bk L W ls) : Keep H' B bk L W ls :=
  ⟨hu.row h.row fun h => h, h.vec.upd hu fun _ _ h => h, fun e he => (h.ok e he).upd hu fun _ _ h => h, h.nd, h.le, h.xl⟩
/-- One number of one list is written over. -/
theorem Keep.put {H H' : Heap} {B bk : Nat} {L W : Sl} {ls : List Ent} (h : Keep H B bk L W ls) {i j : Nat} (hi : i < ls.length) {b : Nat} (hb : ls[i].b = some b) {v : Int}
    (hu : Upd (· = b) H H') (hr : Row H' b T_int (ints (ls[i].xs.set j v))) : Keep H' B bk L W (ls.set i ⟨ls[i].b, ls[i].xs.set j v⟩) := by
  have hok := h.ok _ (List.getElem_mem hi)
  have hok' := hok
  unfold Ent.ok at hok'; rw [hb] at hok'
  have hv : Ent.v ⟨ls[i].b, ls[i].xs.set j v⟩ = ls[i].v := by unfold Ent.v Ent.sl; simp
  refine ⟨hu.row h.row (h.row.ne hok'.1 (by decide)), ?_, fun e he => ?_, ?_, by simpa using h.le, fun e he => ?_⟩
  · rw [List.map_set, hv, ← List.map_set, List.set_getElem_self]
    exact h.vec.upd hu fun c hc e => (h.vec.ne hc hok'.1 (by decide)) e
  · obtain ⟨m, hm, hme⟩ := List.getElem_of_mem he
    rw [List.getElem_set] at hme
    split at hme
    · subst hme; unfold Ent.ok; rw [hb]; exact ⟨hr, hok'.2⟩
    · rename_i hne
      have hm' : m < ls.length := by simpa using hm
      rw [← hme]
      exact (h.ok _ (List.getElem_mem hm')).upd hu fun c hc e => h.ne hi hm' hne hb (e ▸ hc)
  · rw [List.map_set]; dsimp only; rw [← List.map_set, List.set_getElem_self]; exact h.nd
  · rcases List.mem_or_eq_of_mem_set he with he | rfl
    · exact h.xl e he
    · simpa using h.xl _ (List.getElem_mem hi)

theorem s_owned {B bk : Nat} {ls ws : List Ent} {H : Heap} {k : Bool → Heap → Prop} (hB : BookAt H B bk ls ws) (hBH : B ≤ H.size) (hk : ∀ H', Upd (B ≤ ·) H H' → k true H') :
    CallT Pg f_hindcastlaw08_book_owned [.pointer (some (adr bk))] (.one (.c .bool)) H k := by
  apply c_hindcastlaw08_book_owned
  unfold v_hindcastlaw08_book_owned
  simp only [adr_add, NilCk_some]
  obtain ⟨L, W, hr, hL, hW, _, _⟩ := hB.ex
  have K0 : Keep H B bk L W ls := ⟨hr, hL, hB.lok, pw_of hB.nd, hB.le, hB.xl⟩
  have hle := hB.le
  refine LoopT.mk (fun i H' => ∃ (j : Nat) (ls' : List Ent), i = j ∧ j ≤ ls'.length ∧ Keep H' B bk L W ls' ∧ Upd (B ≤ ·) H H' ∧ ∀ m (hm : m < ls'.length), m < j → ∀ x ∈ ls'[m].xs, x = -1 - (m : Int)) (fun i _ => (40 - i).toNat)
    ⟨0, ls, rfl, by omega, K0, .refl _ _, fun m _ h => by omega⟩ ?_
  rintro next1 _ H1 ⟨i, ls1, rfl, hi, K1, hU1, hd1⟩ hnext1
  have hLl := K1.vec.len
  simp only [List.length_map] at hLl
  have hle1 := K1.le
  refine Ld_sl ((K1.row.cell 0).trans rfl) ?_
  refine Br_dec (fun hlt => ?_) fun hge => ?_
  · -- one list is written over
    refine LoopT.mk (fun j H' => ∃ (m : Nat) (ls' : List Ent), j = m ∧ Keep H' B bk L W ls' ∧ Upd (B ≤ ·) H H' ∧ (∃ hi' : i < ls'.length, m ≤ ls'[i].xs.length ∧ ∀ x ∈ ls'[i].xs.take m, x = -1 - (i : Int)) ∧ ∀ m (hm : m < ls'.length), m < i → ∀ x ∈ ls'[m].xs, x = -1 - (m : Int))
      (fun j _ => (1000 - j).toNat) ⟨0, ls1, rfl, K1, hU1, ⟨by omega, by omega, by simp⟩, hd1⟩ ?_
    rintro next2 _ H2 ⟨j, ls2, rfl, K2, hU2, ⟨hi2, hj2, hw2⟩, hd2⟩ hnext2
    have hLl2 := K2.vec.len
    simp only [List.length_map] at hLl2
    have hle2 := K2.le
    have hx2 := K2.xl _ (List.getElem_mem hi2)
    have o2 := K2.ok _ (List.getElem_mem hi2)
    refine Ld_sl ((K2.row.cell 0).trans rfl) ?_
    refine IxA_vec K2.vec (by omega) (by simp; omega) fun a1 h1 _ => ?_
    rw [Int.toNat_natCast, List.getElem?_map, List.getElem?_eq_getElem hi2] at h1
    refine Ld_sl (s := ls2[i].sl) h1 ?_
    have hl2 := o2.len
    refine Br_dec (fun hlt2 => ?_) fun hge2 => ?_
    · refine Ld_sl ((K2.row.cell 0).trans rfl) ?_
      refine IxA_vec K2.vec (by omega) (by simp; omega) fun a2 h2 _ => ?_
      rw [Int.toNat_natCast, List.getElem?_map, List.getElem?_eq_getElem hi2] at h2
      refine Ld_sl (s := ls2[i].sl) h2 ?_
      rw [Lt_def, wrap_i64_id (by omega) (by omega)]
      obtain ⟨b, hb⟩ : ∃ b, ls2[i].b = some b := by
        cases hb : ls2[i].b with
        | none => unfold Ent.ok at o2; rw [hb] at o2; rw [o2] at hl2; simp at hl2; omega
        | some b => exact ⟨b, rfl⟩
      have o3 := o2
      unfold Ent.ok at o3; rw [hb] at o3; dsimp only at o3
      have ha : ls2[i].sl.a = some (adr b) := by unfold Ent.sl; rw [hb]
      refine IxA.mk ha (by omega) (by omega) ?_
      rw [Int.toNat_natCast, Nat.mul_one, adr_add]
      refine St_row o3.1 (by simp; omega) fun H3 hU3 _ hr3 => ?_
      rw [ints_set] at hr3
      rw [Lt_def, wrap_i64_id (by omega) (by omega)]
      refine hnext2 _ _ ⟨j + 1, ls2.set i ⟨ls2[i].b, ls2[i].xs.set j (-1 - (i : Int))⟩, by omega, K2.put hi2 hb hU3 hr3, hU2.trans hU3 fun c _ e => by subst e; exact o3.2, ⟨by simpa using hi2, ?_, ?_⟩, ?_⟩ (by omega)
      · simp; omega
      · simp only [List.getElem_set_self]
        intro x hx
        rw [List.take_add_one, List.getElem?_set_self (by omega), List.take_set_of_le (by omega)] at hx
        rcases List.mem_append.1 hx with hx | hx
        · exact hw2 x hx
        · simpa using hx
      · intro m hm hmi x hx
        rw [List.getElem_set_ne (by omega)] at hx
        exact hd2 m (by simpa using hm) hmi x hx
    · rw [Lt_def, wrap_i64_id (by omega) (by omega)]
      refine hnext1 _ _ ⟨i + 1, ls2, by omega, by omega, K2, hU2, ?_⟩ (by omega)
      intro m hm hmi x hx
      rcases Nat.lt_or_ge m i with h | h
      · exact hd2 m hm h x hx
      · have : m = i := by omega
        subst this
        refine hw2 x ?_
        rw [List.take_of_length_le (by omega)]; exact hx
  · -- all are written over; each is grown
    have hin : i = ls1.length := by omega
    subst hin
    have hfill : ∀ m (hm : m < ls1.length), ls1[m].xs = List.replicate ls1[m].xs.length (-1 - (m : Int)) := fun m hm => List.eq_replicate_iff.2 ⟨rfl, hd1 m hm hm⟩
    clear hd1 hnext1 hge
    refine LoopT.mk (fun s H' => ∃ (j : Nat) (gs : List Sl), s.2 = j ∧ j = gs.length ∧ j ≤ ls1.length ∧ Ext H1 H' ∧ Vec H' T_Sl_int s.1 (gs.map fun g => .slice g.a g.len g.cap) ∧ (∀ b, s.1.a = some (adr b) → H1.size ≤ b) ∧
      ∀ m (hm : m < gs.length), ∃ n, (n ≥ 64 ∧ n ≤ 2000) ∧ n ≥ (ls1.map (·.xs.length)).getD m 0 ∧ Vec H' T_int gs[m] (ints (List.replicate n (-1 - (m : Int))))) (fun s _ => (40 - s.2).toNat)
      ⟨0, [], rfl, rfl, by omega, .refl _ _, .nil _ _, (fun b h => by cases h), (fun m h => by cases h)⟩ ?_
    rintro next3 ⟨g, _⟩ H4 ⟨j, gs, rfl, hj, hjl, hE4, hg4, hgf4, hgs4⟩ hnext3
    dsimp only at hg4 hgf4 ⊢
    have K4 := K1.ext hE4
    refine Ld_sl ((K4.row.cell 0).trans rfl) ?_
    refine Br_dec (fun hlt => ?_) fun hge => ?_
    · refine Ld_sl ((K4.row.cell 0).trans rfl) ?_
      have hj1 : j < ls1.length := by omega
      refine IxA_vec K4.vec (by omega) (by simp; omega) fun a1 h1 _ => ?_
      rw [Int.toNat_natCast, List.getElem?_map, List.getElem?_eq_getElem hj1] at h1
      refine Ld_sl (s := ls1[j].sl) h1 ?_
      have o4 := K4.ok _ (List.getElem_mem hj1)
      have hx4 := K4.xl _ (List.getElem_mem hj1)
      have hf4 := hfill j hj1
      have v4 : Vec H4 T_int ls1[j].sl (ints ls1[j].xs) := by
        refine ⟨by rw [o4.len]; simp, ?_⟩
        unfold Ent.ok at o4
        unfold Ent.sl
        cases hb : ls1[j].b with
        | none => rw [hb] at o4; exact .inl ⟨rfl, rfl, by rw [o4]; rfl⟩
        | some b => rw [hb] at o4; exact .inr ⟨b, [], rfl, by rw [List.append_nil]; exact o4.1, by simp⟩
      have hcap : ls1[j].sl.cap = ls1[j].xs.length := by
        have := o4.len
        unfold Ent.sl at this ⊢
        unfold Ent.ok at o4
        cases hb : ls1[j].b with
        | none => rw [hb] at o4; simp [o4]
        | some b => rfl
      refine LoopT.mk (fun s H' => ∃ n : Nat, s.2 = n ∧ n ≤ 64 ∧ Ext H4 H' ∧ Vec H' T_int s.1 (ints (ls1[j].xs ++ List.replicate n (-1 - (j : Int)))) ∧ (n = 0 ∧ s.1 = ls1[j].sl ∨ ∀ b, s.1.a = some (adr b) → H4.size ≤ b)) (fun s _ => (64 - s.2).toNat)
        ⟨0, rfl, by omega, .refl _ _, by simpa using v4, .inl ⟨rfl, rfl⟩⟩ ?_
      rintro next4 ⟨s, _⟩ H5 ⟨n, rfl, hn, hE5, hv5, hf5⟩ hnext4
      dsimp only at hv5 hf5 ⊢
      refine Br_dec (fun hlt5 => ?_) fun hge5 => ?_
      · rw [Lt_def, wrap_i64_id (by omega) (by omega)]
        refine Nw_row fun b1 H6 hb1 hE6 _ hr6 => ?_
        refine App_vec2 (hv5.upd hE6 fun _ _ h => h) (ws := [.int .i64 (-1 - (j : Int))]) hr6.rd_all rfl (by simp [Value.oneCell']) (by omega) (by simp; omega) fun l1 H7 hv7 hU7 hl7 hs7 => ?_
        rw [Lt_def, wrap_i64_id (by omega) (by omega)]
        have s46 : H4.size ≤ H6.size := Nat.le_trans hE5.size hE6.size
        refine hnext4 _ _ ⟨n + 1, by dsimp only; omega, by omega, (hE5.ext hE6).trans hU7 fun b hb e => ?_, ?_, .inr fun b hb => ?_⟩ (by dsimp only; omega)
        · rcases hf5 with ⟨h0, h1⟩ | h
          · have := e.2.1; rw [h1, hcap, o4.len] at this; simp only at this; omega
          · have := h b e.1; omega
        · rw [List.replicate_succ', ← List.append_assoc, ints, List.map_append]; exact hv7
        · rcases hl7 with h | h
          · rw [h.1] at hb
            rcases hf5 with ⟨h0, h1⟩ | hf
            · have := h.2; rw [h1, hcap, o4.len] at this; simp only at this; omega
            · exact hf b hb
          · rw [h] at hb; cases hb; omega
      · have hn64 : n = 64 := by omega
        subst hn64
        have hf5' : ∀ b, s.a = some (adr b) → H4.size ≤ b := by
          rcases hf5 with ⟨h, _⟩ | h
          · omega
          · exact h
        rw [hf4, List.replicate_append_replicate] at hv5
        have hg5 := hg4.upd hE5 fun _ _ h => h
        refine Nw_row fun b2 H8 hb2 hE8 _ hr8 => ?_
        have hg8 := hg5.upd hE8 fun _ _ h => h
        have hv8 := hv5.upd hE8 fun _ _ h => h
        refine App_vec hg8 (ws := [.slice s.a s.len s.cap]) hr8.rd_all rfl (by simp [Value.oneCell']) (by omega) (by simp; omega) fun l2 H9 hv9 hU9 hl9 hs9 => ?_
        rw [Lt_def, wrap_i64_id (by omega) (by omega)]
        have hE48 := hE5.ext hE8
        have keep9 : ∀ s' vs, Vec H8 T_int s' vs → Vec H9 T_int s' vs := fun s' vs h => ⟨h.len, h.own.imp id fun ⟨b, sp, h1, h2, h3⟩ => ⟨b, sp, h1, hU9.row h2 fun e => (hg8.ne e.1 h2 (by decide)) rfl, h3⟩⟩
        refine hnext3 _ _ ⟨j + 1, gs ++ [s], rfl, by simp; omega, by omega, (hE4.trans hE48 fun _ _ h => h).trans hU9 fun b hb e => ?_, by rw [List.map_append]; exact hv9, fun b hb => ?_, fun m hm => ?_⟩ (by dsimp only; omega)
        · have := hgf4 b e.1; omega
        · have h1 := hE4.size
          have h2 := hE48.size
          rcases hl9 with h | h
          · dsimp only at hb; rw [h] at hb; exact hgf4 b hb
          · dsimp only at hb; rw [h] at hb; cases hb; omega
        · simp only [List.length_append, List.length_singleton] at hm
          rcases Nat.lt_or_ge m gs.length with h | h
          · rw [List.getElem_append_left h]
            obtain ⟨n, h1, h2, h3⟩ := hgs4 m h
            exact ⟨n, h1, h2, keep9 _ _ (h3.upd hE48 fun _ _ h => h)⟩
          · have : m = j := by omega
            subst this
            rw [List.getElem_append_right (by omega)]
            simp only [show m - gs.length = 0 by omega, List.getElem_singleton]
            refine ⟨_, ?_, ?_, keep9 _ _ hv8⟩
            · omega
            · have : (ls1.map (·.xs.length)).getD m 0 = ls1[m].xs.length := by
                rw [List.getD_eq_getElem?_getD, List.getElem?_map, List.getElem?_eq_getElem hj1]; rfl
              rw [this]; omega
    · -- all are looked through
      have hjn : gs.length = ls1.length := by omega
      have hgl := hg4.len
      simp only [List.length_map] at hgl
      refine LoopT.mk (fun i H' => H4 = H' ∧ ∃ m : Nat, i = m ∧ m ≤ gs.length) (fun i _ => (40 - i).toNat) ⟨rfl, 0, rfl, by omega⟩ ?_
      rintro next5 _ _ ⟨rfl, i, rfl, hi⟩ hnext5
      refine Br_dec (fun hlt5 => ?_) fun _ => hk _ ((hU1.trans hE4 fun _ _ h => h.elim))
      have hi1 : i < gs.length := by omega
      have hi2 : i < ls1.length := by omega
      obtain ⟨n, hn1, hn2, hvn⟩ := hgs4 i hi1
      have hnl := hvn.len
      simp only [List.length_map, List.length_replicate] at hnl
      have hn3 : ls1[i].xs.length ≤ n := by
        have : (ls1.map (·.xs.length)).getD i 0 = ls1[i].xs.length := by
          rw [List.getD_eq_getElem?_getD, List.getElem?_map, List.getElem?_eq_getElem hi2]; rfl
        omega
      have o4 := K4.ok _ (List.getElem_mem hi2)
      have hx4 := K4.xl _ (List.getElem_mem hi2)
      have hf4 := hfill i hi2
      have v4 : Vec H4 T_int ls1[i].sl (ints ls1[i].xs) := by
        refine ⟨by rw [o4.len]; simp, ?_⟩
        unfold Ent.ok at o4
        unfold Ent.sl
        cases hb : ls1[i].b with
        | none => rw [hb] at o4; exact .inl ⟨rfl, rfl, by rw [o4]; rfl⟩
        | some b => rw [hb] at o4; exact .inr ⟨b, [], rfl, by rw [List.append_nil]; exact o4.1, by simp⟩
      have hll := o4.len
      have g1 : ∀ {k : Addr → Prop}, (∀ a, hcell H4 a = some (.slice gs[i].a gs[i].len gs[i].cap) → k a) → IxA 1 g i k := fun hk => by
        refine IxA_vec hg4 (by omega) (by simp; omega) fun a1 h1 _ => hk a1 ?_
        rw [Int.toNat_natCast, List.getElem?_map, List.getElem?_eq_getElem hi1] at h1
        exact h1
      have g2 : ∀ {k : Addr → Prop}, (∀ a, hcell H4 a = some ls1[i].v → k a) → IxA 1 L i k := fun hk => by
        refine IxA_vec K4.vec (by omega) (by simp; omega) fun a1 h1 _ => hk a1 ?_
        rw [Int.toNat_natCast, List.getElem?_map, List.getElem?_eq_getElem hi2] at h1
        exact h1
      refine LoopT.mk (fun i H' => H4 = H' ∧ ∃ m : Nat, i = m ∧ m ≤ n) (fun i _ => (n - i).toNat) ⟨rfl, 0, rfl, by omega⟩ ?_
      rintro next6 _ _ ⟨rfl, m, rfl, hm⟩ hnext6
      refine g1 fun a1 c1 => ?_
      refine Ld_sl c1 ?_
      refine Br_dec (fun hlt6 => ?_) fun _ => ?_
      · refine Jn.mk (fun b H' => b = false ∧ H4 = H') (fun kk hkk => ?_) ?_
        · refine g1 fun a2 c2 => ?_
          refine Ld_sl c2 ?_
          refine IxA_vec hvn (by omega) (by simp; omega) fun a3 c3 _ => ?_
          rw [Int.toNat_natCast, ints_get (by simp; omega)] at c3
          refine Ld_int c3 ?_
          rw [Lt_def, wrap_i64_id (by omega) (by omega)]
          have e1 : (List.replicate n (-1 - (i : Int))).getD m 0 = -1 - (i : Int) := by
            rw [List.getD_eq_getElem?_getD, List.getElem?_replicate, if_pos (by omega)]; rfl
          rw [e1, bne_self_eq_false, Br_false]
          refine Ld_sl ((K4.row.cell 0).trans rfl) ?_
          refine g2 fun a4 c4 => ?_
          refine Ld_sl (s := ls1[i].sl) c4 ?_
          refine Br_dec (fun hlt7 => ?_) fun _ => hkk _ _ ⟨rfl, rfl⟩
          refine Ld_sl ((K4.row.cell 0).trans rfl) ?_
          refine g2 fun a5 c5 => ?_
          refine Ld_sl (s := ls1[i].sl) c5 ?_
          refine IxA_vec v4 (by omega) (by simp; omega) fun a6 c6 _ => ?_
          rw [Int.toNat_natCast, ints_get (by omega)] at c6
          refine Ld_int c6 ?_
          rw [Lt_def]
          refine hkk _ _ ⟨?_, rfl⟩
          have e2 : ls1[i].xs.getD m 0 = -1 - (i : Int) := by
            rw [hf4, List.getD_eq_getElem?_getD, List.getElem?_replicate, if_pos (by omega)]; rfl
          rw [e2, bne_self_eq_false]
        · rintro _ _ ⟨rfl, rfl⟩
          rw [Br_false, Lt_def, wrap_i64_id (by omega) (by omega)]
          exact hnext6 _ _ ⟨rfl, m + 1, by omega, by omega⟩ (by omega)
      · rw [Lt_def, wrap_i64_id (by omega) (by omega)]
        exact hnext5 _ _ ⟨rfl, i + 1, by omega, by omega⟩ (by omega)
end Go.Proofs.Ytpkpebgpiakbeaa
