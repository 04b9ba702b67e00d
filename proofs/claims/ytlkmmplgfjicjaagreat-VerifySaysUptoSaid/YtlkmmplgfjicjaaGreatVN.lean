/-
  world.New: what counts is whether it may.
-/
import Derived.Test.YtlkmmplgfjicjaaGreatVP
namespace Go.Proofs.YtlkmmplgfjicjaaGreat
set_option linter.unusedVariables false
set_option linter.unusedSimpArgs false
open Go.Proofs.YtlkmmplgfjicjaaGreat.Hc Go.Proofs.YtlkmmplgfjicjaaGreat.Hc.Vf
set_option maxRecDepth 100000
variable {H : Heap}

/-- A kind as it lies in memory. -/
structure Ki where
  name : ByteArray
  s : Sl
  l : List ByteArray
instance : Inhabited Ki := ⟨⟨ByteArray.empty, default, []⟩⟩
abbrev kiV (x : Ki) : List Value := [.string x.name, slV x.s]
theorem kiV_len (x : Ki) : (kiV x).length = 2 := rfl
structure KdsR (H : Heap) (sl : Sl) (ks : List Ki) : Prop where
  rn : RN kiV 2 H sl ks
  el : ∀ x ∈ ks, RL Value.string H x.s x.l
  ll : ∀ x ∈ ks, x.l.length ≤ 2 ^ 60
  lw : ∀ x ∈ ks, ∀ y ∈ x.l, y.size ≤ 2 ^ 60
  ln : ∀ x ∈ ks, x.name.size ≤ 2 ^ 60
  len : ks.length ≤ 2 ^ 42
theorem KdsR.ext {H' : Heap} (hE : Ext H H') {sl : Sl} {ks : List Ki} (h : KdsR H sl ks) : KdsR H' sl ks := ⟨h.rn.ext hE, fun x hx => (h.el x hx).ext hE, h.ll, h.lw, h.ln, h.len⟩
def kiOk (x : Ki) : Bool := decide (x.l.length ≤ 4) && wordsB x.l
def mayK (ks : List Ki) : Bool := ks.all kiOk && decide (1 ≤ ks.length ∧ ks.length ≤ 12) && wordsB (ks.map (·.name))
theorem s_wmay {sl : Sl} {ks : List Ki} (hK : KdsR H sl ks) {k : Bool → Heap → Prop} (hk : ∀ H', Ext H H' → k (mayK ks) H') : CallT Pg f_world_may [.slice sl.a sl.len sl.cap] (.one (.c .bool)) H k := by
  refine c_world_may _ ?_
  unfold v_world_may
  have hsl := hK.rn.len
  have hlen := hK.len
  refine LoopT.mk (fun (st : Sl × Int) H' => ∃ n : Nat, st.2 = n ∧ n ≤ ks.length ∧ Ext H H' ∧ Vec H' T_string st.1 (((ks.take n).map (·.name)).map Value.string) ∧ (∀ b, st.1.a = some (adr b) → H.size ≤ b) ∧ ks.all kiOk = (ks.drop n).all kiOk) (fun st _ => ks.length - st.2.toNat)
    ⟨0, rfl, Nat.zero_le _, .refl _ _, Vec.nil _ _, (fun b hb => by cases hb), rfl⟩ ?_
  rintro next ⟨s, _⟩ H1 ⟨n, rfl, hn, hE1, hv, hsb, he⟩ hnext
  dsimp only at hv hsb ⊢
  have z1 := hE1.size
  refine Br_dec (fun hlt => ?_) fun hge => ?_
  · have hn3 : n < ks.length := by omega
    have hx : ks[n] ∈ ks := List.getElem_mem hn3
    have hget : ks[n]! = ks[n] := getElem!_pos ks n hn3
    rw [List.drop_eq_getElem_cons hn3, List.all_cons] at he
    have htk : ks.take (n + 1) = ks.take n ++ [ks[n]] := by rw [List.take_add_one, List.getElem?_eq_getElem hn3]; rfl
    have no : kiOk ks[n] = false → ∀ H', Ext H H' → k false H' := fun h H' hE => by
      have := hk _ hE
      unfold mayK at this
      rwa [he, h, Bool.false_and, Bool.false_and, Bool.false_and] at this
    refine IxA_rn' kiV_len (hK.rn.ext hE1) (by omega) (j := n) rfl hn3 fun a ha => ?_
    rw [hget] at ha
    refine ⟨((ks[n]).name, (ks[n]).s), ha, ?_⟩
    refine Nw_row (vs := [.string ByteArray.empty, .slice none 0 0]) fun b1 H2 hb1 hE2 _ hr2 => ?_
    simp only [adr_add]
    refine St_row hr2 (by simp) fun H3 hU3 _ hr3 => St_row hr3 (by simp) fun H4 hU4 _ hr4 => ?_
    have hr4 : Row H4 b1 T_api_Kind (kiV ks[n]) := hr4
    have hE4 : Ext H1 H4 := extUpd hE2 (by omega) (hU3.trans hU4 fun _ _ h => h)
    have hE4' := hE1.trans hE4 fun _ _ h => h
    refine Jn.mk (fun j H' => Ext H4 H' ∧ j = !kiOk ks[n]) (fun kk hkk => ?_) ?_
    · refine Ld_sl (s := (ks[n]).s) ((hr4.cell 1).trans rfl) ?_
      have hll := (hK.el _ hx).len
      refine Br_dec (fun h => hkk _ _ ⟨.refl _ _, by unfold kiOk; rw [decide_eq_false (by omega)]; rfl⟩) fun h => Ld_sl (s := (ks[n]).s) ((hr4.cell 1).trans rfl) (s_words ((hK.el _ hx).ext hE4') (hK.ll _ hx) (hK.lw _ hx) fun H6 hE6 => hkk _ _ ⟨hE6, ?_⟩)
      unfold kiOk; rw [decide_eq_true (by omega), Bool.true_and]
    rintro j H5 ⟨hE5, rfl⟩
    have hE5' := hE4'.trans hE5 fun _ _ h => h
    have z5 := hE5'.size
    refine Br_not (Br.mk (fun h => ?_) fun h => no h _ hE5')
    rw [h, Bool.true_and] at he
    have hr5 := hE5.row hr4 fun h => h
    refine Ld_str ((hr5.cell 0).trans rfl) ?_
    refine Nw_row (vs := [.string (ks[n]).name]) fun b2 H7 hb2 hE7 _ hr7 => ?_
    refine App_vec (((hv.ext hE4).ext hE5).ext hE7) (ws := [.string (ks[n]).name]) hr7.rd_all rfl (by simp [Value.oneCell']) (by omega) (by simp only [List.length_map, List.length_take, List.length_singleton]; omega) fun l1 H8 hv8 hU8 ha8 _ => ?_
    refine Lt.mk (u := ((n + 1 : Nat) : Int)) (by rw [wrap_i64_id] <;> omega) (hnext _ _ ⟨n + 1, rfl, hn3, (hE5'.trans hE7 fun _ _ h => h).trans hU8 fun b hb e => ?_, ?_, fun b hb => ?_, he⟩ (by dsimp only; omega))
    · have := hsb b e.1; omega
    · rw [htk, List.map_append, List.map_append]; exact hv8
    · rcases ha8 with e | e
      · rw [e] at hb; exact hsb b hb
      · rw [e] at hb; cases hb
        have := hE7.size; omega
  · have hne : n = ks.length := by omega
    subst hne
    rw [List.take_length] at hv
    rw [List.drop_length] at he
    refine Jn.mk (fun j H' => Ext H H' ∧ j = mayK ks) (fun kk hkk => ?_) (by rintro j H' ⟨h, rfl⟩; exact hk _ h)
    have em : mayK ks = (decide (1 ≤ ks.length ∧ ks.length ≤ 12) && wordsB (ks.map (·.name))) := by unfold mayK; rw [he]; rfl
    refine Br_dec (fun h1 => Br_dec (fun h2 => ?_) fun h2 => hkk _ _ ⟨hE1, ?_⟩) fun h1 => hkk _ _ ⟨hE1, ?_⟩
    · refine s_words (xs := ks.map (·.name)) ⟨hv.rd, by rw [hv.len, List.length_map], hv.lc⟩ (by rw [List.length_map]; omega) (fun x hx => ?_) fun H10 hE10 => hkk _ _ ⟨hE1.trans hE10 fun _ _ h => h, ?_⟩
      · obtain ⟨y, hy, rfl⟩ := List.mem_map.1 hx
        exact hK.ln y hy
      · rw [em, decide_eq_true (by omega), Bool.true_and]
    · rw [em, decide_eq_false (by omega)]; rfl
    · rw [em, decide_eq_false (by omega)]; rfl
theorem s_idsNew {k : Option Addr × Int → Heap → Prop} (hk : ∀ q H', Ext H H' → k (q, 0) H') : CallT Pg f_ids_New [.int .i64 200] (.tup [(.c .ptr), (.c (.int .i64))]) H k := by
  refine c_ids_New _ ?_
  unfold v_ids_New
  refine Jn.mk (fun j H' => H = H' ∧ j = false) (fun kk hkk => ?_) ?_
  · exact Br_dec (fun h => by omega) fun h => hkk _ _ ⟨rfl, rfl⟩
  rintro j _ ⟨rfl, rfl⟩
  rw [Br_false]
  exact Nw_row (vs := [.int .i64 200, .slice none 0 0, .slice none 0 0, .slice none 0 0]) fun b1 H1 _ hE1 _ _ => hk _ _ hE1
theorem s_CloneS {s : Sl} {xs : List ByteArray} (hs : RL Value.string H s xs) (hl : xs.length ≤ 100) {k : Sl → Heap → Prop} (hk : ∀ s' H', Ext H H' → k s' H') : CallT Pg f_slices_Clone_Sl_string_string [.slice s.a s.len s.cap] (.one (.c .sl)) H k := by
  refine c_slices_Clone_Sl_string_string _ ?_
  unfold v_slices_Clone_Sl_string_string
  refine Br.mk (fun _ => hk _ _ (.refl _ _)) fun _ => Nw_row (vs := []) fun b1 H1 hb1 hE1 _ hr1 => ?_
  have hv : Vec H1 T_string ⟨some (adr b1), 0, 0⟩ [] := ⟨rfl, .inr ⟨b1, [], rfl, hr1, Nat.le_refl _⟩, Nat.le_refl _⟩
  refine App_vec hv (hs.ext hE1).rd (by rw [List.length_map, hs.len]) (fun w hw => ?_) (by omega) (by simp only [List.length_nil, List.length_map]; omega) fun s' H' _ hU _ _ => hk _ _ (hE1.trans hU fun b hb e => ?_)
  · obtain ⟨y, _, rfl⟩ := List.mem_map.1 hw; rfl
  · obtain ⟨e, _⟩ := e
    cases e; omega
theorem flat2_get {ks : List Ki} : ∀ {i : Nat} (h : i < ks.length), (ks.flatMap kiV)[i * 2 + 1]? = some (slV (ks[i]).s) := by
  induction ks with
  | nil => intro i h; simp at h
  | cons x t ih =>
    intro i h
    match i with
    | 0 => rfl
    | i + 1 =>
      rw [List.flatMap_cons, show (i + 1) * 2 + 1 = (kiV x).length + (i * 2 + 1) by rw [kiV_len]; omega, List.getElem?_append_right (by omega), Nat.add_sub_cancel_left]
      exact ih (by simpa using h)
theorem s_copied {sl : Sl} {ks : List Ki} (hK : KdsR H sl ks) (hm : mayK ks = true) {k : Sl → Heap → Prop} (hk : ∀ s' H', Ext H H' → k s' H') : CallT Pg f_world_copied [.slice sl.a sl.len sl.cap] (.one (.c .sl)) H k := by
  refine c_world_copied _ ?_
  unfold v_world_copied
  unfold mayK at hm
  simp only [Bool.and_eq_true, decide_eq_true_eq] at hm
  obtain ⟨⟨hall, hk1, hk2⟩, _⟩ := hm
  have hsl := hK.rn.len
  refine c_slices_Clone_Sl_api_Kind_api_Kind _ ?_
  unfold v_slices_Clone_Sl_api_Kind_api_Kind
  have loop : ∀ {r1 : Sl} {b : Nat} {H2 : Heap} {vs : List Value}, r1.a = some (adr b) → r1.len = ks.length → H.size ≤ b → Ext H H2 → Row H2 b T_api_Kind vs → (∀ i (h : i < ks.length), vs[i * 2 + 1]? = some (slV (ks[i]).s)) →
      LoopT (σ := Int) (fun next1 s1 H2 =>
      Br (decide (s1 < (r1.len : Int))) (
        IxA 2 r1 s1 fun a1 =>
        Ld .sl (a1.add 1) H2 fun (x1 : Sl) =>
        CallT Pg f_slices_Clone_Sl_string_string [.slice x1.a x1.len x1.cap] (.one (.c .sl)) H2 fun (r2 : Sl) H3 =>
        IxA 2 r1 s1 fun a2 =>
        St (a2.add 1) (.slice r2.a r2.len r2.cap) H3 fun H4 =>
        Lt (IntKind.wrap .i64 (s1 + 1)) fun t1 =>
        next1 t1 H4) (
        k r1 H2)) 0 H2 := fun {r1 b H2 vs} ha hl hb hE2 hr hv => by
    refine LoopT.mk (fun (i : Int) H' => ∃ (n : Nat) (vs : List Value), i = n ∧ n ≤ ks.length ∧ Ext H H' ∧ Row H' b T_api_Kind vs ∧ ∀ i (h : i < ks.length), n ≤ i → vs[i * 2 + 1]? = some (slV (ks[i]).s)) (fun i _ => ks.length - i.toNat) ⟨0, vs, rfl, Nat.zero_le _, hE2, hr, fun i h _ => hv i h⟩ ?_
    rintro next _ H3 ⟨n, vs, rfl, hn, hE3, hr3, hv3⟩ hnext
    refine Br_dec (fun hlt => ?_) fun hge => hk _ _ hE3
    have hn3 : n < ks.length := by omega
    have hx : ks[n] ∈ ks := List.getElem_mem hn3
    have hko := List.all_eq_true.1 hall _ hx
    unfold kiOk at hko
    simp only [Bool.and_eq_true, decide_eq_true_eq] at hko
    have hvn := hv3 n hn3 (Nat.le_refl _)
    have hlt2 : n * 2 + 1 < vs.length := by
      rcases Nat.lt_or_ge (n * 2 + 1) vs.length with g | g
      · exact g
      · rw [List.getElem?_eq_none g] at hvn; cases hvn
    refine IxA.mk ha (by omega) (by omega) ?_
    rw [Int.toNat_natCast, adr_add, mk_add]
    refine Ld_sl (s := (ks[n]).s) (by rw [hr3.cell]; exact hvn) (s_CloneS ((hK.el _ hx).ext hE3) (by omega) fun r2 H5 hE5 => ?_)
    refine IxA.mk ha (by omega) (by omega) ?_
    rw [Int.toNat_natCast, adr_add, mk_add]
    refine St_row (hE5.row hr3 fun h => h) hlt2 fun H6 hU6 _ hr6 => ?_
    refine Lt.mk (u := ((n + 1 : Nat) : Int)) (by rw [wrap_i64_id] <;> omega) (hnext _ _ ⟨n + 1, _, rfl, hn3, extUpd (hE3.trans hE5 fun _ _ h => h) hb hU6, hr6, fun i h hi => ?_⟩ (by omega))
    rw [List.getElem?_set_ne (by omega)]
    exact hv3 i h (by omega)
  refine Br.mk (fun hnil => ?_) fun hnil => Nw_row (vs := []) fun b1 H1 hb1 hE1 _ hr1 => ?_
  · have hrd := hK.rn.rd
    unfold rdL at hrd
    cases hsa : sl.a with
    | none =>
      rw [hsa] at hrd
      have : ks = [] := by
        match ks, hrd with
        | [], _ => rfl
        | x :: t, h => simp at h
      subst this; simp at hk1
    | some a => rw [hsa] at hnil; cases hnil
  have hv : VecN H1 T_api_Kind 2 ⟨some (adr b1), 0, 0⟩ [] := ⟨rfl, .inr ⟨b1, [], rfl, hr1, Nat.le_refl _⟩, Nat.le_refl _⟩
  refine App_vecN (n := 2) rfl (by omega) hv (hK.rn.ext hE1).rd (by rw [flat_len kiV_len, hsl]) (fun w hw => ?_) (by omega) (by simp only; omega) fun s' H' hv' hl' hU ha' => ?_
  · obtain ⟨y, _, hy⟩ := List.mem_flatMap.1 hw
    simp only [List.mem_cons, List.not_mem_nil, or_false] at hy
    rcases hy with rfl | rfl <;> rfl
  · rcases hv'.own with ⟨h1, _, h3⟩ | ⟨b, sp, h1, h2, _⟩
    · rcases ha' with ⟨e, _⟩ | e
      · rw [h1] at e; cases e
      · rw [h1] at e; cases e
    · refine loop h1 (by rw [hl', hsl]; simp) ?_ (hE1.trans hU fun b hb e => by obtain ⟨e, _⟩ := e; cases e; omega) h2 fun i h => ?_
      · rcases ha' with ⟨e, _⟩ | e
        · rw [h1] at e; cases e; omega
        · rw [h1] at e; cases e; exact hE1.size
      · rw [List.nil_append, List.getElem?_append_left (by rw [flat_len kiV_len]; omega)]
        exact flat2_get h
theorem s_worldNew {sl : Sl} {ks : List Ki} (hK : KdsR H sl ks) {k : Option Addr × Int → Heap → Prop} (hk : ∀ q H', Ext H H' → k (q, if mayK ks then 0 else 65) H') : CallT Pg f_world_New [.slice sl.a sl.len sl.cap] (.tup [(.c .ptr), (.c (.int .i64))]) H k := by
  refine c_world_New _ ?_
  unfold v_world_New
  refine s_wmay hK fun H1 hE1 => Br_not (Br.mk (fun hm => ?_) fun hm => ?_)
  · refine s_idsNew fun q H2 hE2 => ?_
    have hE2' := hE1.trans hE2 fun _ _ h => h
    dsimp only
    rw [show ((0 : Int) != 0) = false by rfl, Br_false]
    refine s_copied (hK.ext hE2') hm fun s3 H3 hE3 => MkM_i fun m1 H4 _ hE4 _ _ => MkM_i fun m2 H5 _ hE5 _ _ => Nw_row (vs := [.slice s3.a s3.len s3.cap, .pointer q, .map (some m1), .map (some m2)]) fun b1 H6 _ hE6 _ _ => ?_
    have := hk (some (adr b1)) H6 ((((hE2'.trans hE3 fun _ _ h => h).trans hE4 fun _ _ h => h).trans hE5 fun _ _ h => h).trans hE6 fun _ _ h => h)
    rwa [if_pos hm] at this
  · have := hk none H1 hE1
    rwa [hm] at this
end Go.Proofs.YtlkmmplgfjicjaaGreat
/-
  All ways are gone.
-/
namespace Go.Proofs.YtlkmmplgfjicjaaGreat
set_option linter.unusedVariables false
set_option linter.unusedSimpArgs false
open Go.Proofs.YtlkmmplgfjicjaaGreat.Hc Go.Proofs.YtlkmmplgfjicjaaGreat.Hc.Vf
set_option maxRecDepth 100000
variable {H : Heap}

abbrev stV (x : Nat × Nat) : List Value := [.int .i64 (x.1 : Nat), .int .i64 (x.2 : Nat)]
theorem stV_len (x : Nat × Nat) : (stV x).length = 2 := rfl
theorem Row.neMap {b r : Nat} {T : TypeId} {vs : List Value} {es : Array MapEntry} {cl : Nat} (h : Row H b T vs) (hr : H[r]? = some (.map es cl)) : b ≠ r := by
  rintro rfl
  unfold Row at h
  rw [h] at hr; cases hr
theorem IxA_StV_vec {T : TypeId} {t : Sl} {vs : List Value} (h : Vec H T t vs) {i : Int} {j : Nat} {v : Value} {k : Heap → Prop} (hone : v.oneCell' = true) (hj : i = j) (hl : j < vs.length)
    (hk : ∀ H', Vec H' T t (vs.set j v) → Upd (fun b => t.a = some (adr b)) H H' → H'.size = H.size → k H') : IxA 1 t i fun a => StV a v H k := by
  obtain ⟨a, h1, h2, h3, h4⟩ := IxA_St_vec' h hj hl hk
  exact ⟨a, h1, h2, h3, hone, h4⟩
theorem IxA_raw {T : TypeId} {t : Sl} {vs : List Value} (h : Vec H T t vs) {i : Int} {j : Nat} {k : Value → Prop} (hj : i = j) (hl : j < vs.length) (hk : k vs[j]!) : IxA 1 t i fun a => Ld .raw a H k := by
  refine IxA_vec h (by omega) (by omega) fun a ha _ => ⟨vs[j]!, ?_, hk⟩
  rw [ha, hj, Int.toNat_natCast, List.getElem?_eq_getElem hl, getElem!_pos vs j hl]; rfl
def tot (D : List (List Nat)) : Nat := (D.map List.length).sum
theorem tot_set : ∀ {D : List (List Nat)} {i : Nat} {d : Nat}, i < D.length → tot (D.set i (D[i]! ++ [d])) = tot D + 1
  | x :: D, 0, d, _ => by simp [tot]; omega
  | x :: D, i + 1, d, h => by
    have := tot_set (D := D) (i := i) (d := d) (by simpa using h)
    unfold tot at this ⊢
    simp only [List.set_cons_succ, List.map_cons, List.sum_cons, List.getElem!_cons_succ] at this ⊢
    omega
theorem tot_le : ∀ {D : List (List Nat)}, (∀ x ∈ D, x.Nodup ∧ ∀ d ∈ x, d ≤ 64) → tot D ≤ 65 * D.length
  | [], _ => by simp [tot]
  | x :: D, h => by
    obtain ⟨h1, h2⟩ := h x (List.mem_cons_self ..)
    have h3 : x.length ≤ (List.range 65).length := h1.length_le_of_subset fun d hd => List.mem_range.2 (by have := h2 d hd; omega)
    rw [List.length_range] at h3
    have := tot_le fun y hy => h y (List.mem_cons_of_mem _ hy)
    unfold tot at this ⊢
    simp only [List.map_cons, List.sum_cons, List.length_cons]
    omega
/-- What is reached so far, in memory. -/
structure RSt (lo : Nat) (H : Heap) (b1 b2 : Nat) (r : Rou) (fsl dl : Sl) (ms : List Value) (D : List (List Nat)) : Prop where
  row : Row H b1 T_api_Routine (rouV r)
  flow : FlowR H b2 r fsl dl
  dv : Vec H T_Map_int_bool dl ms
  ml : ms.length = r.code.length
  dl' : D.length = r.code.length
  mp : ∀ i, i < ms.length → MapI H ms[i]! D[i]!
  inj : ∀ i j q, i < ms.length → j < ms.length → ms[i]! = .map (some q) → ms[j]! = .map (some q) → i = j
  nd : ∀ i, i < D.length → (D[i]!).Nodup
  f1 : lo ≤ b1 ∧ lo ≤ b2
  fd : ∀ b, dl.a = some (adr b) → lo ≤ b
  fm : ∀ i q, i < ms.length → ms[i]! = .map (some q) → lo ≤ q
variable {lo : Nat} {b1 b2 : Nat} {r : Rou} {fsl dl : Sl} {ms : List Value} {D : List (List Nat)}
theorem RSt.upd {M : Nat → Prop} {H' : Heap} (hu : Upd M H H') (h : RSt lo H b1 b2 r fsl dl ms D) (h1 : ∀ b T vs, Row H b T vs → T ≠ T_verify_state → ¬ M b) (h2 : ∀ q es cl, H[q]? = some (.map es cl) → ¬ M q) : RSt lo H' b1 b2 r fsl dl ms D :=
  { row := hu.row h.row (h1 _ _ _ h.row (by decide)), flow := hu.row h.flow (h1 _ _ _ h.flow (by decide))
    dv := h.dv.upd hu fun b hb => by
      rcases h.dv.own with ⟨g1, _⟩ | ⟨c, sp, g1, g2, _⟩
      · rw [g1] at hb; cases hb
      · rw [g1] at hb; cases hb; exact h1 _ _ _ g2 (by decide)
    ml := h.ml, dl' := h.dl'
    mp := fun i hi => (h.mp i hi).upd hu fun q hq => by
      rcases h.mp i hi with ⟨g1, _⟩ | ⟨q', g1, g2⟩
      · rw [g1] at hq; cases hq
      · rw [g1] at hq; cases hq; exact h2 _ _ _ g2
    inj := h.inj, nd := h.nd, f1 := h.f1, fd := h.fd, fm := h.fm }
theorem RSt.ext {H' : Heap} (hu : Ext H H') (h : RSt lo H b1 b2 r fsl dl ms D) : RSt lo H' b1 b2 r fsl dl ms D := h.upd hu (fun _ _ _ _ _ h => h) fun _ _ _ _ h => h
theorem RSt.d5 (h : RSt lo H b1 b2 r fsl dl ms D) : hcell H ⟨b2, 5, none⟩ = some (slV dl) := (h.flow.cell 5).trans rfl
theorem vecN_upd_state {M : Nat → Prop} {H' : Heap} (hu : Upd M H H') {s : Sl} {vs : List Value} (h : VecN H T_verify_state 2 s vs) (h1 : ∀ b vs, Row H b T_verify_state vs → ¬ M b) : VecN H' T_verify_state 2 s vs := h.upd hu fun b hb => by
  rcases h.own with ⟨g1, _⟩ | ⟨c, sp, g1, g2, _⟩
  · rw [g1] at hb; cases hb
  · rw [g1] at hb; cases hb; exact h1 _ _ g2
/-- A map's place is filled. -/
theorem RSt.fill {H' : Heap} {i q : Nat} (h : RSt lo H b1 b2 r fsl dl ms D) (hi : i < ms.length) (hnil : ms[i]! = .map none) (hq : H[q]? = some (.map ⟨entsF 0 []⟩ ([] : List Nat).length)) (hqf : lo ≤ q) (hqn : ∀ j, j < ms.length → ms[j]! ≠ .map (some q))
    (hU : Upd (fun b => dl.a = some (adr b)) H H') (hv : Vec H' T_Map_int_bool dl (ms.set i (.map (some q)))) : RSt lo H' b1 b2 r fsl dl (ms.set i (.map (some q))) D := by
  have hnr : ∀ b T vs, Row H b T vs → T ≠ T_Map_int_bool → ¬ dl.a = some (adr b) := fun b T vs hr hT e => by
    rcases h.dv.own with ⟨g1, _⟩ | ⟨c, sp, g1, g2, _⟩
    · rw [g1] at e; cases e
    · rw [g1] at e; cases e; exact g2.ne hr hT.symm rfl
  have hnm : ∀ q es cl, H[q]? = some (.map es cl) → ¬ dl.a = some (adr q) := fun q es cl hq e => by
    rcases h.dv.own with ⟨g1, _⟩ | ⟨c, sp, g1, g2, _⟩
    · rw [g1] at e; cases e
    · rw [g1] at e; cases e; exact Row.neMap g2 hq rfl
  have hget : ∀ j, j < ms.length → (ms.set i (.map (some q)))[j]! = if j = i then .map (some q) else ms[j]! := fun j hj => by
    rw [getElem!_pos _ j (by simpa using hj), List.getElem_set, getElem!_pos ms j hj]
    by_cases e : i = j
    · rw [if_pos e, if_pos e.symm]
    · rw [if_neg e, if_neg (fun h => e h.symm)]
  refine { row := hU.row h.row (hnr _ _ _ h.row (by decide)), flow := hU.row h.flow (hnr _ _ _ h.flow (by decide)), dv := hv, ml := by rw [List.length_set]; exact h.ml, dl' := h.dl', mp := fun j hj => ?_, inj := fun j k p hj hk e1 e2 => ?_, nd := h.nd, f1 := h.f1, fd := h.fd, fm := fun j p hj e => ?_ }
  · rw [List.length_set] at hj
    rw [hget j hj]
    split
    · rename_i e
      subst e
      have hD : D[j]! = [] := by
        rcases h.mp j hj with ⟨_, g⟩ | ⟨q', g, _⟩
        · exact g
        · rw [hnil] at g; cases g
      rw [hD]
      exact .inr ⟨q, rfl, hU.keep hq (hnm _ _ _ hq)⟩
    · exact (h.mp j hj).upd hU fun p hp => by
        rcases h.mp j hj with ⟨g1, _⟩ | ⟨q', g1, g2⟩
        · rw [g1] at hp; cases hp
        · rw [g1] at hp; cases hp; exact hnm _ _ _ g2
  · rw [List.length_set] at hj hk
    rw [hget j hj] at e1
    rw [hget k hk] at e2
    split at e1 <;> split at e2
    · omega
    · cases e1; exact absurd e2 (hqn k hk)
    · cases e2; exact absurd e1 (hqn j hj)
    · exact h.inj j k p hj hk e1 e2
  · rw [List.length_set] at hj
    rw [hget j hj] at e
    split at e
    · cases e; exact hqf
    · exact h.fm j p hj e
/-- One more depth. -/
theorem RSt.add {H' : Heap} {i q d : Nat} (h : RSt lo H b1 b2 r fsl dl ms D) (hi : i < ms.length) (hq : ms[i]! = .map (some q)) (hd : d ∉ D[i]!) (hU : Upd (· = q) H H') (hm : H'[q]? = some (.map ⟨entsF 0 (D[i]! ++ [d])⟩ (D[i]! ++ [d]).length)) : RSt lo H' b1 b2 r fsl dl ms (D.set i (D[i]! ++ [d])) := by
  have hqm : ∃ es cl, H[q]? = some (.map es cl) := by
    rcases h.mp i hi with ⟨g, _⟩ | ⟨q', g, g2⟩
    · rw [hq] at g; cases g
    · rw [hq] at g; cases g; exact ⟨_, _, g2⟩
  obtain ⟨es, cl, hqm⟩ := hqm
  have hDl : D.length = ms.length := h.dl'.trans h.ml.symm
  have hget : ∀ j, j < ms.length → (D.set i (D[i]! ++ [d]))[j]! = if j = i then D[i]! ++ [d] else D[j]! := fun j hj => by
    rw [getElem!_pos _ j (by rw [List.length_set]; omega), List.getElem_set, getElem!_pos D j (by omega)]
    by_cases e : i = j
    · rw [if_pos e, if_pos e.symm]
    · rw [if_neg e, if_neg (fun h => e h.symm)]
  refine { row := hU.row h.row (Row.neMap h.row hqm), flow := hU.row h.flow (Row.neMap h.flow hqm), dv := h.dv.upd hU fun b hb => ?_, ml := h.ml, dl' := by rw [List.length_set]; exact h.dl', mp := fun j hj => ?_, inj := h.inj, nd := fun j hj => ?_, f1 := h.f1, fd := h.fd, fm := h.fm }
  · rcases h.dv.own with ⟨g1, _⟩ | ⟨c, sp, g1, g2, _⟩
    · rw [g1] at hb; cases hb
    · rw [g1] at hb; cases hb; exact Row.neMap g2 hqm
  · rw [hget j hj]
    split
    · rename_i e
      subst e
      rw [hq]
      exact .inr ⟨q, rfl, hm⟩
    · rename_i e
      exact (h.mp j hj).upd hU fun p hp e2 => e (h.inj j i q hj hi (e2 ▸ hp) hq)
  · rw [List.length_set] at hj
    rw [hget j (by omega)]
    split
    · rw [List.nodup_append]
      refine ⟨h.nd i (by omega), by simp, fun a ha b hb => ?_⟩
      rw [List.mem_singleton] at hb
      subst hb
      exact fun e => hd (e ▸ ha)
    · exact h.nd j hj
/-- The states that come next. -/
def pushes (n e : Nat) : List Int → List (Nat × Nat)
  | [] => []
  | x :: xs => (if 0 ≤ x ∧ x < (n : Int) then [(x.toNat, e)] else []) ++ pushes n e xs
theorem pushes_mem {n e : Nat} : ∀ {xs : List Int} {y : Nat × Nat}, y ∈ pushes n e xs ↔ ((y.1 : Int) ∈ xs ∧ y.1 < n ∧ y.2 = e)
  | [], y => by simp [pushes]
  | x :: xs, y => by
    unfold pushes
    rw [List.mem_append, pushes_mem (xs := xs), List.mem_cons]
    constructor
    · rintro (h | ⟨h1, h2, h3⟩)
      · split at h
        · rw [List.mem_singleton] at h
          subst h
          exact ⟨.inl (by dsimp only; omega), by dsimp only; omega, rfl⟩
        · cases h
      · exact ⟨.inr h1, h2, h3⟩
    · rintro ⟨h1 | h1, h2, h3⟩
      · left
        rw [if_pos (by omega), List.mem_singleton]
        obtain ⟨y1, y2⟩ := y
        dsimp only at h1 h2 h3
        subst h3
        rw [Prod.mk.injEq]
        exact ⟨by omega, rfl⟩
      · exact .inr ⟨h1, h2, h3⟩
theorem pushes_len {n e : Nat} : ∀ {xs : List Int}, (pushes n e xs).length ≤ xs.length
  | [] => Nat.le_refl _
  | x :: xs => by
    have := pushes_len (n := n) (e := e) (xs := xs)
    unfold pushes
    split <;> simp <;> omega
theorem pushes_snoc {n e : Nat} : ∀ {xs : List Int} {x : Int}, pushes n e (xs ++ [x]) = pushes n e xs ++ (if 0 ≤ x ∧ x < (n : Int) then [(x.toNat, e)] else [])
  | [], x => by simp [pushes]
  | y :: xs, x => by
    rw [List.cons_append]
    unfold pushes
    rw [pushes_snoc (xs := xs)]
    simp
theorem nexts_len (c : List Ins) (i : Nat) : (nexts c i).length ≤ 2 := by
  unfold nexts
  dsimp only
  repeat' split
  all_goals simp
theorem app_state {s : Sl} {T : List (Nat × Nat)} {x : Nat × Nat} (hv : VecN H T_verify_state 2 s (T.flatMap stV)) (hT : T.length ≤ 1000000) {k : Sl → Heap → Prop}
    (hk : ∀ s' H', VecN H' T_verify_state 2 s' ((T ++ [x]).flatMap stV) → Upd (fun b => s.a = some (adr b)) H H' → (s'.a = s.a ∨ ∀ b, s'.a = some (adr b) → H.size ≤ b) → k s' H') :
    Nw #[.int .i64 (x.1 : Nat), .int .i64 (x.2 : Nat)] T_verify_state H fun b5 H20 =>
      App T_verify_state 2 16 #[.int .i64 0, .int .i64 0] s ⟨some (adr b5), 1, 1⟩ H20 fun l3 H21 => k l3 H21 := by
  refine Nw_row (vs := stV x) fun b H1 hb hE hz hr => ?_
  have hl := hv.len
  rw [flat_len stV_len] at hl
  refine App_vecN (n := 2) rfl (by omega) (hv.ext hE) (ws := stV x) hr.rd_all rfl (by simp [Value.oneCell']) (by omega) (by simp only; omega) fun s' H' hv' _ hU ha => hk s' H' ?_ ?_ ?_
  · rw [List.flatMap_append]; simpa using hv'
  · exact (hE.mono fun _ _ h => h.elim).trans hU fun _ _ h => h.1
  · rcases ha with ⟨e, _⟩ | e
    · exact .inl e
    · refine .inr fun c hc => ?_
      rw [e] at hc; cases hc
      have := hE.size; omega
end Go.Proofs.YtlkmmplgfjicjaaGreat
/-
  reach: all ways of a routine.
-/
namespace Go.Proofs.YtlkmmplgfjicjaaGreat
set_option linter.unusedVariables false
set_option linter.unusedSimpArgs false
open Go.Proofs.YtlkmmplgfjicjaaGreat.Hc Go.Proofs.YtlkmmplgfjicjaaGreat.Hc.Vf
set_option maxRecDepth 100000
variable {H : Heap}

/-- A flow that is done: of each instruction just the depths with which it is reached. -/
structure FlowAt (lo : Nat) (H : Heap) (f : Nat) (r : Rou) (fsl : Sl) (ps : List Int) (dl : Sl) (ms : List Value) (D : List (List Nat)) : Prop where
  flow : FlowR H f r fsl dl
  dv : Vec H T_Map_int_bool dl ms
  ml : ms.length = r.code.length
  dln : D.length = r.code.length
  mp : ∀ i, i < ms.length → MapI H ms[i]! D[i]!
  nd : ∀ i, i < D.length → (D[i]!).Nodup
  rc : ∀ i d, i < r.code.length → (d ∈ D[i]! ↔ Rch r.code ps i d)
  f1 : lo ≤ f
  fd : ∀ b, dl.a = some (adr b) → lo ≤ b
  fm : ∀ i q, i < ms.length → ms[i]! = .map (some q) → lo ≤ q
theorem toNat_ofInt {n : Nat} : ((n : Int)).toNat = n := rfl
theorem s_reach {r : Rou} {fsl : Sl} {fs : List Rou} (hr : CodeR H r) (hf : RN rouV 4 H fsl fs) (hI : ∀ x ∈ parms fs, I64 x) (hn : 0 < r.code.length) (hn2 : r.code.length ≤ 2000) {k : Option Addr → Heap → Prop}
    (hk : ∀ f dl ms D H', Ext H H' → FlowAt H.size H' f r fsl (parms fs) dl ms D → k (some (adr f)) H') : CallT Pg f_verify_reach [rouA r, .slice fsl.a fsl.len fsl.cap] (.one (.c .ptr)) H k := by
  refine c_verify_reach (r.name, r.params, r.locals, r.sl) _ ?_
  unfold v_verify_reach
  refine Nw_row (vs := rouV r) fun b1 H1 hb1 hE1 hz1 hrow1 => ?_
  simp only [adr_add, NilCk_some]
  refine ld_rou hrow1.rd_all (Ld_sl (s := r.sl) ((hrow1.cell 3).trans rfl) ?_)
  have hsl := hr.len
  refine Mks_row (by omega) (by omega) (by omega) fun bd H2 hbd hE2 hz2 hrd => ?_
  have hrow2 := hE2.row hrow1 fun h => h
  have st : ∀ {Hx : Heap}, Row Hx b1 T_api_Routine (rouV r) → ∀ x ∈ [(⟨b1, 3, none⟩, Value.slice r.sl.a r.sl.len r.sl.cap), (⟨b1, 0, none⟩, .string r.name), (⟨b1, 1, none⟩, .int .i64 r.params), (⟨b1, 2, none⟩, .int .i64 r.locals), (⟨b1, 3, none⟩, .slice r.sl.a r.sl.len r.sl.cap)], hcell Hx x.1 = some x.2 := by
    intro Hx h x hx
    simp only [List.mem_cons, List.not_mem_nil, or_false] at hx
    rcases hx with rfl | rfl | rfl | rfl | rfl
    · exact (h.cell 3).trans rfl
    · exact (h.cell 0).trans rfl
    · exact (h.cell 1).trans rfl
    · exact (h.cell 2).trans rfl
    · exact (h.cell 3).trans rfl
  refine Stab_all (st hrow2) ?_
  have edl : (Int.toNat ((r.sl.len : Nat) : Int)) = r.code.length := by rw [Int.toNat_natCast]; exact hsl
  rw [edl] at hrd ⊢
  generalize hdl : (⟨some (adr bd), r.code.length, r.code.length⟩ : Sl) = dl
  refine Nw_row (vs := flowV r fsl dl) fun b2 H3 hb2 hE3 hz3 hflow => ?_
  have hrow3 := hE3.row hrow2 fun h => h
  refine Stab_all (st hrow3) (Nw_row (vs := stV (0, 0)) fun b3 H4 hb3 hE4 hz4 hst => ?_)
  have hvd : Vec H4 T_Map_int_bool dl (List.replicate r.code.length (.map none)) := by
    subst hdl
    exact ⟨by simp, .inr ⟨bd, [], rfl, by simpa using hE4.row (hE3.row hrd fun h => h) fun h => h, by simp⟩, Nat.le_refl _⟩
  have hE4' : Ext H H4 := ((hE1.trans hE2 fun _ _ h => h).trans hE3 fun _ _ h => h).trans hE4 fun _ _ h => h
  have gm : ∀ i, i < r.code.length → (List.replicate r.code.length (Value.map none))[i]! = .map none := fun i hi => by rw [getElem!_pos _ i (by simpa using hi), List.getElem_replicate]
  have gd : ∀ i, i < r.code.length → (List.replicate r.code.length ([] : List Nat))[i]! = [] := fun i hi => by rw [getElem!_pos _ i (by simpa using hi), List.getElem_replicate]
  have h0 : RSt H.size H4 b1 b2 r fsl dl (List.replicate r.code.length (.map none)) (List.replicate r.code.length []) :=
    { row := hE4.row hrow3 fun h => h, flow := hE4.row hflow fun h => h, dv := hvd, ml := by simp, dl' := by simp
      mp := fun i hi => by
        rw [List.length_replicate] at hi
        rw [gm i hi, gd i hi]; exact .inl ⟨rfl, rfl⟩
      inj := fun i j q hi _ e _ => by
        rw [List.length_replicate] at hi
        rw [gm i hi] at e; cases e
      nd := fun i hi => by
        rw [List.length_replicate] at hi
        rw [gd i hi]; exact List.nodup_nil
      f1 := ⟨by omega, by have := hE1.size; have := hE2.size; omega⟩
      fd := fun b hb => by subst hdl; cases hb; have := hE1.size; omega
      fm := fun i q hi e => by
        rw [List.length_replicate] at hi
        rw [gm i hi] at e; cases e }
  have htot0 : tot (List.replicate r.code.length ([] : List Nat)) = 0 := by
    unfold tot; simp
  have hlo : H.size ≤ b3 := by have := hE1.size; have := hE2.size; have := hE3.size; omega
  refine LoopT.ghost (fun m (s : Sl) H5 => ∃ (T : List (Nat × Nat)) (ms : List Value) (D : List (List Nat)), m = 3 * (65 * r.code.length - tot D) + T.length ∧ VecN H5 T_verify_state 2 s (T.flatMap stV) ∧ (∀ b, s.a = some (adr b) → H.size ≤ b) ∧
      RSt H.size H5 b1 b2 r fsl dl ms D ∧ Ext H H5 ∧ T.length ≤ 1 + 2 * tot D ∧ Inv r.code (parms fs) (fun i d => i < r.code.length ∧ d ∈ D[i]!) (fun i d => (i, d) ∈ T)) (3 * (65 * r.code.length - tot (List.replicate r.code.length ([] : List Nat))) + 1)
    ⟨[(0, 0)], _, _, rfl, ⟨rfl, .inr ⟨b3, [], rfl, by simpa using hst, by simp⟩, Nat.le_refl _⟩, (fun b hb => by cases hb; exact hlo), h0, hE4', by simp, ⟨fun i d h => ?_, .inr (by simp), fun i d j e hv _ => ?_⟩⟩ ?_
  · rcases h with ⟨h1, h2⟩ | h
    · rw [gd i h1] at h2; cases h2
    · simp only [List.mem_singleton, Prod.mk.injEq] at h
      obtain ⟨rfl, rfl⟩ := h
      exact .zero
  · rw [gd i hv.1] at hv; cases hv.2
  rintro next m s H5 ⟨T, ms, D, rfl, hvT, hsb, hS, hE5, hTl, hInv⟩ hnext
  have hTlen := hvT.len
  rw [flat_len stV_len] at hTlen
  have hbdD : ∀ x ∈ D, x.Nodup ∧ ∀ d ∈ x, d ≤ 64 := fun x hx => by
    obtain ⟨i, hi, rfl⟩ := List.getElem_of_mem hx
    have h1 := hS.nd i hi
    rw [getElem!_pos D i hi] at h1
    refine ⟨h1, fun d hd => ?_⟩
    have hi2 : i < r.code.length := by rw [← hS.dl']; exact hi
    exact ((hInv.all i d (.inl ⟨hi2, by rw [getElem!_pos D i hi]; exact hd⟩)).bd hn).2
  have htot := tot_le hbdD
  rw [hS.dl'] at htot
  refine Br_dec (fun hgo => ?_) fun hend => ?_
  · have hTpos : 0 < T.length := by omega
    have hTne : T ≠ [] := fun e => by rw [e] at hTpos; simp at hTpos
    obtain ⟨i, d, hlast⟩ : ∃ i d, T.getLast hTne = (i, d) := ⟨_, _, rfl⟩
    have hTsplit : T.dropLast ++ [(i, d)] = T := by rw [← hlast]; exact List.dropLast_concat_getLast hTne
    have hxin : (i, d) ∈ T := by rw [← hTsplit]; simp
    have hxR := hInv.all i d (.inr hxin)
    obtain ⟨hib, hdb⟩ := hxR.bd hn
    have hdl1 : T.dropLast.length = T.length - 1 := List.length_dropLast
    refine Jn_in (Lt.mk (u := ((T.length - 1 : Nat) : Int)) (by rw [wrap_i64_id] <;> omega) ?_)
    have hrnT : RN stV 2 H5 s T := hvT.rn stV_len (by omega)
    refine IxA_rn' stV_len hrnT (by omega) (j := T.length - 1) rfl (by omega) fun a1 ha1 => ?_
    have hgl : T[T.length - 1]! = (i, d) := by
      rw [getElem!_pos T _ (by omega), ← hlast, List.getLast_eq_getElem]
    rw [hgl] at ha1
    refine ⟨(((i : Nat) : Int), ((d : Nat) : Int)), ha1, Nw_row (vs := [.int .i64 0, .int .i64 0]) fun b4 H7 hb4 hE7 hz7 hr7 => St_row hr7 (by simp) fun H8 hU8 _ hr8 => St_row hr8 (by simp) fun H9 hU9 _ hr9 => ?_⟩
    have hE9 : Ext H5 H9 := extUpd hE7 (by omega) (hU8.trans hU9 fun _ _ h => h)
    have z5 := hE5.size
    have z9 := hE9.size
    have hS9 := hS.ext hE9
    have c0 : hcell H9 ⟨b4, 0, none⟩ = some (.int .i64 (i : Nat)) := (hr9.cell 0).trans rfl
    have c1 : hcell H9 ⟨b4, 1, none⟩ = some (.int .i64 (d : Nat)) := (hr9.cell 1).trans rfl
    have hvT9 : VecN H9 T_verify_state 2 s (T.flatMap stV) := hvT.ext hE9
    refine Lt.mk (u := ((T.length - 1 : Nat) : Int)) (by rw [wrap_i64_id] <;> omega) (SlA0 (by omega) (by have := hvT.lc; omega) (Int.le_refl _) ?_)
    rw [Int.toNat_natCast, Int.toNat_natCast]
    -- what is left to do
    have hvL : VecN H9 T_verify_state 2 ⟨s.a, T.length - 1, s.cap⟩ (T.dropLast.flatMap stV) := by
      have := vecN_pre hvT9 (j := T.length - 1) (c := s.cap) (by omega) (by have := hvT.lc; omega) (Nat.le_refl _)
      have e : (T.flatMap stV).take ((T.length - 1) * 2) = T.dropLast.flatMap stV := by
        conv => lhs; rw [← hTsplit, List.flatMap_append]
        have hl : (T.dropLast.flatMap stV).length = (T.length - 1) * 2 := by rw [flat_len stV_len, hdl1]
        rw [hTsplit, ← hl, List.take_left]
      rw [e] at this; exact this
    have hi2 : i < ms.length := by rw [hS.ml]; exact hib
    refine Ld_sl (s := dl) hS9.d5 (Ld_int c0 (IxA_raw hS9.dv rfl hi2 (Ld_int c1 (MpL_i (hS9.mp i hi2) (Stab_2 c0 hS9.d5 ?_)))))
    have hDi : i < D.length := by rw [hS.dl']; exact hib
    refine Br_dec (fun hold => ?_) fun hnew => ?_
    · -- there already
      refine hnext _ _ _ (by rw [hdl1]; omega) ⟨T.dropLast, ms, D, rfl, hvL, hsb, hS9, hE5.trans hE9 fun _ _ h => h, by omega, hInv.swap (fun _ _ h => h) fun j e => ?_⟩
      constructor
      · rintro (h | h)
        · exact .inl h
        · rw [← hTsplit, List.mem_append, List.mem_singleton] at h
          rcases h with h | h
          · exact .inr h
          · simp only [Prod.mk.injEq] at h
            obtain ⟨rfl, rfl⟩ := h
            exact .inl ⟨hib, hold⟩
      · rintro (h | h)
        · exact .inl h
        · exact .inr (List.dropLast_subset _ h)
    · -- behind the map's place
      have behind : ∀ (ms' : List Value) (q : Nat) (H10 : Heap), RSt H.size H10 b1 b2 r fsl dl ms' D → ms'[i]! = .map (some q) → Row H10 b4 T_verify_state (stV (i, d)) → VecN H10 T_verify_state 2 ⟨s.a, T.length - 1, s.cap⟩ (T.dropLast.flatMap stV) → Ext H H10 →
          Ld .sl ⟨b2, 5, none⟩ H10 fun (x12 : Sl) =>
            Ld (.int .i64) (adr b4) H10 fun (x13 : Int) =>
            IxA 1 x12 x13 fun a9 =>
            Ld .raw a9 H10 fun (x14 : Value) =>
            Ld (.int .i64) ⟨b4, 1, none⟩ H10 fun (x15 : Int) =>
            MpU (.int .i64) x14 (.int .i64 x15) (.bool true) H10 fun H13 =>
            Ld (.int .i64) (adr b4) H13 fun (x16 : Int) =>
            Ld (.int .i64) ⟨b4, 1, none⟩ H13 fun (x17 : Int) =>
            CallT Pg f_verify_flow_fits [.pointer (some (adr b2)), .int .i64 x16, .int .i64 x17] (.tup [(.c (.int .i64)), (.c .bool)]) H13 fun (r1 : Int × Bool) H14 =>
            Br (!r1.2) (
              next ⟨s.a, T.length - 1, s.cap⟩ H14) (
              LdC [.str, (.int .i64), (.int .i64), .sl] (adr b1) H14 fun (c3 : ByteArray × Int × Int × Sl) =>
              Ld (.int .i64) (adr b4) H14 fun (x18 : Int) =>
              CallT Pg f_verify_next [.agg #[.string c3.1, .int .i64 c3.2.1, .int .i64 c3.2.2.1, .slice c3.2.2.2.a c3.2.2.2.len c3.2.2.2.cap], .int .i64 x18] (.one (.c .sl)) H14 fun (r2 : Sl) H15 =>
              LoopT (σ := Sl × Int) (fun next2 s2 H16 =>
                Br (decide (s2.2 < (r2.len : Int))) (
                  Jn (σ := Sl) (fun kk3 =>
                    IxA 1 r2 s2.2 fun a10 =>
                    Ld (.int .i64) a10 H16 fun (x19 : Int) =>
                    LdC [.str, (.int .i64), (.int .i64), .sl] (adr b1) H16 fun (c4 : ByteArray × Int × Int × Sl) =>
                    CallT Pg f_verify_there [.agg #[.string c4.1, .int .i64 c4.2.1, .int .i64 c4.2.2.1, .slice c4.2.2.2.a c4.2.2.2.len c4.2.2.2.cap], .int .i64 x19] (.one (.c .bool)) H16 fun (r3 : Bool) H18 =>
                    Jn (σ := Sl) (fun kk4 =>
                      Br r3 (
                        Nw #[.int .i64 x19, .int .i64 r1.1] T_verify_state H18 fun b5 H20 =>
                        App T_verify_state 2 16 #[.int .i64 0, .int .i64 0] s2.1 ⟨some (adr b5), 1, 1⟩ H20 fun l3 H21 =>
                        kk4 l3 H21) (
                        kk4 s2.1 H18)) fun j4 H19 =>
                    kk3 j4 H19) fun j3 H17 =>
                  Lt (IntKind.wrap .i64 (s2.2 + 1)) fun t3 =>
                  next2 (j3, t3) H17) (
                  next s2.1 H16)) (⟨s.a, T.length - 1, s.cap⟩, 0) H15) := by
        intro ms' q H10 hS10 hq hr10 hvL10 hE10'
        have hi10 : i < ms'.length := by rw [hS10.ml]; exact hib
        have d0 : hcell H10 ⟨b4, 0, none⟩ = some (.int .i64 (i : Nat)) := (hr10.cell 0).trans rfl
        have d1 : hcell H10 ⟨b4, 1, none⟩ = some (.int .i64 (d : Nat)) := (hr10.cell 1).trans rfl
        refine Ld_sl (s := dl) hS10.d5 (Ld_int d0 (IxA_raw hS10.dv rfl hi10 (Ld_int d1 ?_)))
        rw [hq]
        have hm10 : H10[q]? = some (.map ⟨entsF 0 D[i]!⟩ (D[i]!).length) := by
          rcases hS10.mp i hi10 with ⟨g, _⟩ | ⟨q', g, g2⟩
          · rw [hq] at g; cases g
          · rw [hq] at g; cases g; exact g2
        have hqlo := hS10.fm i q hi10 hq
        refine MpU_i hm10 hnew fun H13 hU13 _ hm13 => ?_
        have hS13 := hS10.add hi10 hq hnew hU13 hm13
        have hr13 : Row H13 b4 T_verify_state (stV (i, d)) := hU13.row hr10 (Row.neMap hr10 hm10)
        have hvL13 : VecN H13 T_verify_state 2 ⟨s.a, T.length - 1, s.cap⟩ (T.dropLast.flatMap stV) := vecN_upd_state hU13 hvL10 fun b vs hb => Row.neMap hb hm10
        have hE13 : Ext H H13 := hE10'.trans hU13 fun b hb e => by omega
        have e0 : hcell H13 ⟨b4, 0, none⟩ = some (.int .i64 (i : Nat)) := (hr13.cell 0).trans rfl
        have e1 : hcell H13 ⟨b4, 1, none⟩ = some (.int .i64 (d : Nat)) := (hr13.cell 1).trans rfl
        refine Ld_int e0 (Ld_int e1 (s_fits hS13.flow (hr.ext hE13) (hf.ext hE13) hI hib hdb fun H14 hE14 => ?_))
        have hE14' := hE13.trans hE14 fun _ _ h => h
        have hS14 := hS13.ext hE14
        have hvL14 : VecN H14 T_verify_state 2 ⟨s.a, T.length - 1, s.cap⟩ (T.dropLast.flatMap stV) := hvL13.ext hE14
        have htn := tot_set (d := d) hDi
        have hset : ∀ j, j < r.code.length → (D.set i (D[i]! ++ [d]))[j]! = if j = i then D[i]! ++ [d] else D[j]! := fun j hj => by
          rw [getElem!_pos _ j (by rw [List.length_set, hS.dl']; exact hj), List.getElem_set, getElem!_pos D j (by rw [hS.dl']; exact hj)]
          by_cases e : i = j
          · rw [if_pos e, if_pos e.symm]
          · rw [if_neg e, if_neg (fun h => e h.symm)]
        have hV : ∀ j e, (j < r.code.length ∧ e ∈ (D.set i (D[i]! ++ [d]))[j]!) ↔ (j < r.code.length ∧ e ∈ D[j]!) ∨ (j = i ∧ e = d) := by
          intro j e
          constructor
          · rintro ⟨h1, h2⟩
            rw [hset j h1] at h2
            split at h2
            · rename_i e2
              subst e2
              rw [List.mem_append, List.mem_singleton] at h2
              rcases h2 with h2 | h2
              · exact .inl ⟨h1, h2⟩
              · exact .inr ⟨rfl, h2⟩
            · exact .inl ⟨h1, h2⟩
          · rintro (⟨h1, h2⟩ | ⟨rfl, rfl⟩)
            · refine ⟨h1, ?_⟩
              rw [hset j h1]
              split
              · rename_i e2
                subst e2
                exact List.mem_append.2 (.inl h2)
              · exact h2
            · refine ⟨hib, ?_⟩
              rw [hset _ hib, if_pos rfl]
              simp
        have htot2 : tot (D.set i (D[i]! ++ [d])) ≤ 65 * r.code.length := by
          have := tot_le (D := D.set i (D[i]! ++ [d])) fun x hx => by
            obtain ⟨j, hj, rfl⟩ := List.getElem_of_mem hx
            have hj2 : j < r.code.length := by rw [List.length_set, hS.dl'] at hj; exact hj
            have h1 := hS13.nd j hj
            rw [getElem!_pos _ j hj] at h1
            refine ⟨h1, fun e he => ?_⟩
            rcases (hV j e).1 ⟨hj2, by rw [getElem!_pos _ j hj]; exact he⟩ with ⟨g1, g2⟩ | ⟨rfl, rfl⟩
            · exact ((hInv.all j e (.inl ⟨g1, g2⟩)).bd hn).2
            · exact hdb
          rw [List.length_set, hS.dl'] at this
          exact this
        have hTcase : ∀ j e, (j, e) ∈ T → ((j < r.code.length ∧ e ∈ (D.set i (D[i]! ++ [d]))[j]!) ∨ (j, e) ∈ T.dropLast) := by
          intro j e h
          rw [← hTsplit, List.mem_append, List.mem_singleton] at h
          rcases h with h | h
          · exact .inr h
          · simp only [Prod.mk.injEq] at h
            exact .inl ((hV j e).2 (.inr h))
        refine Br_not (Br_dec (fun hfit => ?_) fun hnofit => ?_)
        · -- it fits
          obtain ⟨hbl, hbe⟩ := behind_le hfit
          rw [← hbe]
          generalize hee : behind (parms fs) r.code[i]! d = e at hbl
          refine ld_rou (r := r) hS14.row.rd_all (Ld_int ((hE14.cell e0 fun h => h)) (s_next (r := r) (hr.ext hE14') hib (by omega) fun r2 H15 hE15 hr2 => ?_))
          have hS15 := hS14.ext hE15
          have hE15' := hE14'.trans hE15 fun _ _ h => h
          have hxl := nexts_len r.code i
          have hr2l := hr2.len
          refine LoopT.mk (fun (st : Sl × Int) H16 => ∃ q : Nat, st.2 = q ∧ q ≤ (nexts r.code i).length ∧ VecN H16 T_verify_state 2 st.1 ((T.dropLast ++ pushes r.code.length e ((nexts r.code i).take q)).flatMap stV) ∧ (∀ b, st.1.a = some (adr b) → H.size ≤ b) ∧
              RSt H.size H16 b1 b2 r fsl dl ms' (D.set i (D[i]! ++ [d])) ∧ Ext H H16 ∧ Vec H16 T_int64 r2 ((nexts r.code i).map (Value.int .i64))) (fun st _ => (nexts r.code i).length - st.2.toNat)
            ⟨0, rfl, Nat.zero_le _, by simpa [pushes] using hvL14.ext hE15, hsb, hS15, hE15', hr2⟩ ?_
          rintro next2 ⟨s2, _⟩ H16 ⟨q2, rfl, hq2, hv16, hsb16, hS16, hE16, hr16⟩ hnext2
          dsimp only at hv16 hsb16 ⊢
          rw [List.length_map] at hr2l
          refine Br_dec (fun hlt => ?_) fun hge => ?_
          · have hq3 : q2 < (nexts r.code i).length := by omega
            refine Jn_in (IxA_rl hr16.rl rfl hq3 fun a10 ha10 => Ld_int ha10 (ld_rou (r := r) hS16.row.rd_all (s_there (r := r) (hr.ext hE16) fun H18 hE18 => ?_)))
            have hE18' := hE16.trans hE18 fun _ _ h => h
            have hS18 := hS16.ext hE18
            have hv18 := hv16.ext hE18
            have hr18 : Vec H18 T_int64 r2 ((nexts r.code i).map (Value.int .i64)) := hr16.upd hE18 fun _ _ h => h
            have htk : (nexts r.code i).take (q2 + 1) = (nexts r.code i).take q2 ++ [(nexts r.code i)[q2]] := by rw [List.take_add_one, List.getElem?_eq_getElem hq3]; rfl
            have hpl := pushes_len (n := r.code.length) (e := e) (xs := (nexts r.code i).take q2)
            have hpl2 : ((nexts r.code i).take q2).length ≤ 2 := by rw [List.length_take]; omega
            refine Jn_in (Br_dec (fun hth => ?_) fun hth => ?_)
            · obtain ⟨y, hy⟩ : ∃ y : Nat, (nexts r.code i)[q2] = y := ⟨((nexts r.code i)[q2]).toNat, by omega⟩
              rw [hy] at hth ⊢
              refine app_state (x := (y, e)) hv18 (by rw [List.length_append]; omega) fun s' H21 hv21 hU21 ha21 => ?_
              have hrow : ∀ b T vs, Row H18 b T vs → T ≠ T_verify_state → ¬ s2.a = some (adr b) := fun b T vs hrw hT e2 => by
                rcases hv18.own with ⟨g1, _⟩ | ⟨c, sp, g1, g2, _⟩
                · rw [g1] at e2; cases e2
                · rw [g1] at e2; cases e2; exact g2.ne hrw hT.symm rfl
              have hmap : ∀ q es cl, H18[q]? = some (.map es cl) → ¬ s2.a = some (adr q) := fun q es cl hqq e2 => by
                rcases hv18.own with ⟨g1, _⟩ | ⟨c, sp, g1, g2, _⟩
                · rw [g1] at e2; cases e2
                · rw [g1] at e2; cases e2; exact Row.neMap g2 hqq rfl
              refine Lt.mk (u := ((q2 + 1 : Nat) : Int)) (by rw [wrap_i64_id] <;> omega) (hnext2 _ _ ⟨q2 + 1, rfl, hq3, ?_, fun b hb => ?_, hS18.upd hU21 hrow hmap, hE18'.trans hU21 fun b hb e2 => ?_, hr18.upd hU21 fun b hb => ?_⟩ (by dsimp only; omega))
              · rw [htk, pushes_snoc, hy, if_pos hth, ← List.append_assoc]
                exact hv21
              · dsimp only at hb
                rcases ha21 with e2 | e2
                · rw [e2] at hb; exact hsb16 b hb
                · have := e2 b hb; have := hE18'.size; omega
              · have := hsb16 b e2; omega
              · rcases hr18.own with ⟨g1, _⟩ | ⟨c, sp, g1, g2, _⟩
                · rw [g1] at hb; cases hb
                · rw [g1] at hb; cases hb; exact hrow _ _ _ g2 (by decide)
            · refine Lt.mk (u := ((q2 + 1 : Nat) : Int)) (by rw [wrap_i64_id] <;> omega) (hnext2 _ _ ⟨q2 + 1, rfl, hq3, ?_, hsb16, hS18, hE18', hr18⟩ (by dsimp only; omega))
              rw [htk, pushes_snoc, if_neg hth, List.append_nil]
              exact hv18
          · have hq3 : q2 = (nexts r.code i).length := by omega
            subst hq3
            rw [List.take_length] at hv16
            have hpl := pushes_len (n := r.code.length) (e := e) (xs := nexts r.code i)
            refine hnext _ _ _ ?_ ⟨T.dropLast ++ pushes r.code.length e (nexts r.code i), ms', D.set i (D[i]! ++ [d]), rfl, hv16, hsb16, hS16, hE16, by rw [List.length_append]; omega, hInv.go (.inr hxin) hV (fun j f h => ?_) (fun j f hs => .inr ?_) (fun j f h => (hTcase j f h).imp id fun h => List.mem_append.2 (.inl h))⟩
            · rw [List.length_append, hdl1]; omega
            · rcases List.mem_append.1 h with h | h
              · exact .inl (List.dropLast_subset _ h)
              · obtain ⟨g1, g2, g3⟩ := pushes_mem.1 h
                dsimp only at g1 g2 g3
                exact .inr ⟨hib, hfit, g1, g2, by rw [hee]; exact g3⟩
            · obtain ⟨_, _, g1, g2, g3⟩ := hs
              exact List.mem_append.2 (.inr (pushes_mem.2 ⟨g1, g2, by rw [← hee]; exact g3⟩))
        · refine hnext _ _ _ ?_ ⟨T.dropLast, ms', D.set i (D[i]! ++ [d]), rfl, hvL14, hsb, hS14, hE14', by omega, hInv.go (.inr hxin) hV (fun j e h => .inl (List.dropLast_subset _ h)) (fun j e hs => ?_) hTcase⟩
          · omega
          · obtain ⟨_, g, _⟩ := hs
            exact absurd g hnofit
      refine Ld_sl (s := dl) hS9.d5 (Ld_int c0 (IxA_raw hS9.dv rfl hi2 ?_))
      -- is there a map?
      have hr9' : Row H9 b4 T_verify_state (stV (i, d)) := hr9
      have hE9' := hE5.trans hE9 fun _ _ h => h
      rcases hS9.mp i hi2 with ⟨g1, g2⟩ | ⟨q, g1, g2⟩
      · rw [g1]
        refine ⟨none, rfl, ?_⟩
        refine Jn.mk (fun _ H10 => ∃ ms' q, RSt H.size H10 b1 b2 r fsl dl ms' D ∧ ms'[i]! = .map (some q) ∧ Row H10 b4 T_verify_state (stV (i, d)) ∧ VecN H10 T_verify_state 2 ⟨s.a, T.length - 1, s.cap⟩ (T.dropLast.flatMap stV) ∧ Ext H H10) (fun kk hkk => ?_) (by rintro _ H10 ⟨ms', q, h2, h3, h4, h5, h6⟩; exact behind ms' q H10 h2 h3 h4 h5 h6)
        refine Ld_sl (s := dl) hS9.d5 (Ld_int c0 (MkM_i fun q H11 hq hE11 hz11 hm11 => ?_))
        have hS11 := hS9.ext hE11
        have hvL11 : VecN H11 T_verify_state 2 ⟨s.a, T.length - 1, s.cap⟩ (T.dropLast.flatMap stV) := hvL.ext hE11
        have hr11 := hE11.row hr9' fun h => h
        refine Stab_2 (hE11.cell c0 fun h => h) hS11.d5 (IxA_StV_vec hS11.dv (by simp [Value.oneCell']) rfl hi2 fun H12 hv12 hU12 _ => hkk _ _ ?_)
        have hdlo := hS11.fd
        have hne : ∀ b T vs, Row H11 b T vs → T ≠ T_Map_int_bool → ¬ dl.a = some (adr b) := fun b T vs hrw hT e2 => by
          rcases hS11.dv.own with ⟨g1, _⟩ | ⟨c, sp, g1, g2, _⟩
          · rw [g1] at e2; cases e2
          · rw [g1] at e2; cases e2; exact g2.ne hrw hT.symm rfl
        refine ⟨ms.set i (.map (some q)), q, ?_, ?_, hU12.row hr11 (hne _ _ _ hr11 (by decide)), vecN_upd_state hU12 hvL11 fun b vs hb => hne _ _ _ hb (by decide), ?_⟩
        · refine hS11.fill hi2 g1 hm11 (by omega) (fun j hj e => ?_) hU12 hv12
          rcases hS9.mp j hj with ⟨h1, _⟩ | ⟨q', h1, h2⟩
          · rw [h1] at e; cases e
          · rw [h1] at e; cases e
            have := lt_of_get h2; omega
        · rw [getElem!_pos _ i (by rw [List.length_set]; exact hi2), List.getElem_set_self]
        · refine (hE9'.trans hE11 fun _ _ h => h).trans hU12 fun b hb e => ?_
          have := hdlo b e; omega
      · rw [g1]
        refine ⟨some q, rfl, ?_⟩
        refine Jn_in ?_
        exact behind ms q H9 hS9 g1 hr9' hvL hE9'
  · have hT0 : T = [] := List.eq_nil_of_length_eq_zero (by omega)
    subst hT0
    refine hk b2 dl ms D H5 hE5 { flow := hS.flow, dv := hS.dv, ml := hS.ml, dln := hS.dl', mp := hS.mp, nd := hS.nd, rc := fun i d hi => ?_, f1 := hS.f1.2, fd := hS.fd, fm := hS.fm }
    have := hInv.done (fun i d h => by cases h) i d
    rw [this]
    exact ⟨fun h => ⟨hi, h⟩, fun h => h.2⟩
end Go.Proofs.YtlkmmplgfjicjaaGreat
/-
  What is wrong with a reached instruction; the first one.
-/
namespace Go.Proofs.YtlkmmplgfjicjaaGreat
set_option linter.unusedVariables false
set_option linter.unusedSimpArgs false
open Go.Proofs.YtlkmmplgfjicjaaGreat.Hc Go.Proofs.YtlkmmplgfjicjaaGreat.Hc.Vf
set_option maxRecDepth 100000
variable {H : Heap}

variable {lo f : Nat} {r : Rou} {fsl dl : Sl} {fs : List Rou} {ms : List Value} {D : List (List Nat)}
theorem FlowAt.upd {ps : List Int} {M : Nat → Prop} {H' : Heap} (hu : Upd M H H') (h : FlowAt lo H f r fsl ps dl ms D) (hM : ∀ b, lo ≤ b → b < H.size → ¬ M b) : FlowAt lo H' f r fsl ps dl ms D :=
  { flow := hu.row h.flow (hM _ h.f1 h.flow.lt), dv := h.dv.upd hu fun b hb => hM b (h.fd b hb) (h.dv.lt hb), ml := h.ml, dln := h.dln
    mp := fun i hi => (h.mp i hi).upd hu fun q hq => hM q (h.fm i q hi hq) (by
      rcases h.mp i hi with ⟨g, _⟩ | ⟨q', g, g2⟩
      · rw [hq] at g; cases g
      · rw [hq] at g; cases g; exact lt_of_get g2)
    nd := h.nd, rc := h.rc, f1 := h.f1, fd := h.fd, fm := h.fm }
theorem FlowAt.ext {ps : List Int} {H' : Heap} (hu : Ext H H') (h : FlowAt lo H f r fsl ps dl ms D) : FlowAt lo H' f r fsl ps dl ms D := h.upd hu fun _ _ _ h => h
theorem FlowAt.d5 {ps : List Int} (h : FlowAt lo H f r fsl ps dl ms D) : hcell H ⟨f, 5, none⟩ = some (slV dl) := (h.flow.cell 5).trans rfl
theorem wr_150 {c : List Ins} {ps : List Int} {i : Nat} (h : jumpBad c i) : wr c ps i = 150 := by unfold wr; rw [if_pos h]
theorem wr_151 {c : List Ins} {ps : List Int} {i : Nat} (h : ¬ jumpBad c i) (h2 : stackBad c ps i) : wr c ps i = 151 := by unfold wr; rw [if_neg h, if_pos h2]
theorem wr_153 {c : List Ins} {ps : List Int} {i : Nat} (h : ¬ jumpBad c i) (h2 : ¬ stackBad c ps i) (h3 : endBad c i) : wr c ps i = 153 := by unfold wr; rw [if_neg h, if_neg h2, if_pos h3]
theorem wr_0 {c : List Ins} {ps : List Int} {i : Nat} (h : ¬ jumpBad c i) (h2 : ¬ stackBad c ps i) (h3 : ¬ endBad c i) : wr c ps i = 0 := by unfold wr; rw [if_neg h, if_neg h2, if_neg h3]
theorem s_wrong (hF : FlowAt lo H f r fsl (parms fs) dl ms D) (hr : CodeR H r) (hf : RN rouV 4 H fsl fs) (hI : ∀ x ∈ parms fs, I64 x) (hn2 : r.code.length ≤ 2000) {i : Nat} (hi : i < r.code.length) {k : Int → Heap → Prop}
    (hk : ∀ H', Ext H H' → k (wr r.code (parms fs) i : Nat) H') : CallT Pg f_verify_flow_wrong [.pointer (some (adr f)), .int .i64 (i : Nat)] (.one (.c (.int .i64))) H k := by
  refine c_verify_flow_wrong _ _ ?_
  unfold v_verify_flow_wrong
  simp only [adr_add, NilCk_some]
  have hsl : hcell H ⟨f, 3, none⟩ = some (slV r.sl) := (hF.flow.cell 3).trans rfl
  refine Ld_sl (s := r.sl) hsl (IxA_rn' insV_len hr (by omega) (j := i) rfl hi fun a ha => ?_)
  refine ⟨((r.code[i]!).1, (r.code[i]!).2), ha, Nw_row (vs := [.int .i64 0, .int .i64 0]) fun b1 H1 hb1 hE1 hz1 hr1 => St_row hr1 (by simp) fun H2 hU2 _ hr2 => St_row hr2 (by simp) fun H3 hU3 _ hr3 => ?_⟩
  have hE3 : Ext H H3 := extUpd hE1 (by omega) (hU2.trans hU3 fun _ _ h => h)
  have hI3 : Row H3 b1 T_api_Instr (insV r.code[i]!) := hr3
  refine Jn.mk (fun j H' => Ext H H' ∧ (j = true ↔ jumpBad r.code i)) (fun kk hkk => ?_) ?_
  · refine ⟨((r.code[i]!).1, (r.code[i]!).2), hI3.rd_all, s_jumps (i := r.code[i]!) fun H5 hE5 => ?_⟩
    have hE5' := hE3.trans hE5 fun _ _ h => h
    have hI5 := hE5.row hI3 fun h => h
    refine Br_dec (fun h => ?_) fun h => hkk _ _ ⟨hE5', ?_⟩
    · refine ld_rou (r := r) (hF.ext hE5').flow.rou (Ld_int ((hI5.cell 1).trans rfl) (s_there (r := r) (hr.ext hE5') fun H6 hE6 => ?_))
      have hI6 := hE6.row hI5 fun h => h
      refine Stab_2 ((hI6.cell 0).trans rfl) ((hI6.cell 1).trans rfl) (hkk _ _ ⟨hE5'.trans hE6 fun _ _ h => h, ?_⟩)
      unfold jumpBad
      rw [Bool.not_eq_true', decide_eq_false_iff_not]
      exact ⟨fun h2 => ⟨h, h2⟩, fun h2 => h2.2⟩
    · unfold jumpBad
      exact ⟨fun e => (by cases e), fun e => absurd e.1 h⟩
  rintro j H4 ⟨hE4, hj⟩
  refine Br.mk (fun h => ?_) fun h => ?_
  · have := hk H4 hE4
    rwa [wr_150 (hj.1 h)] at this
  have hnj : ¬ jumpBad r.code i := fun e => by rw [hj.2 e] at h; cases h
  have hF4 := hF.ext hE4
  have hi2 : i < ms.length := by rw [hF.ml]; exact hi
  have hDi : i < D.length := by rw [hF.dln]; exact hi
  have hn0 : 0 < r.code.length := by omega
  refine Ld_sl (s := dl) hF4.d5 (IxA_raw hF4.dv rfl hi2 ?_)
  refine MpRange_i (hF4.mp i hi2) (M0 := fun _ => False) (fun _ _ h => h) (fun seen H' => (∀ d ∈ seen, fits (parms fs) r.code[i]! d) ∧ (seen ≠ [] → (D[i]!).length ≤ 1))
    (BODY := fun n1 H10 nx => CallT Pg f_verify_flow_fits [.pointer (some (adr f)), .int .i64 (i : Nat), .int .i64 n1] (.tup [(.c (.int .i64)), (.c .bool)]) H10 fun (r5 : Int × Bool) H13 =>
        Jn (σ := Bool) (fun kk2 =>
          Br (!r5.2) (
            kk2 true H13) (
            Ld .sl ⟨f, 5, none⟩ H13 fun (x8 : Sl) =>
            IxA 1 x8 (i : Nat) fun a10 =>
            Ld .raw a10 H13 fun (x9 : Value) =>
            MpN x9 H13 fun n2 =>
            kk2 (decide (n2 > 1)) H13)) fun j2 H14 =>
        Br j2 (
          k 151 H14) (
          nx H14)) (fun H' _ => ⟨(fun d hd => by cases hd), fun h => absurd rfl h⟩) ?_ (fun _ _ _ _ _ _ h => h) ?_ (hF.nd i hDi)
  · intro H9 seen hU9 ⟨hs1, hs2⟩ hall
    have hE9 := hE4.trans hU9 fun _ _ h => h
    have hF9 := hF.ext hE9
    have hc3 : hcell H9 ⟨f, 3, none⟩ = some (slV r.sl) := (hF9.flow.cell 3).trans rfl
    have hns : ¬ stackBad r.code (parms fs) i := by
      rintro (⟨d, h1, h2⟩ | ⟨d, e, h1, h2, h3⟩)
      · exact h2 (hs1 d (hall d ((hF.rc i d hi).2 h1)))
      · have g1 := (hF.rc i d hi).2 h1
        have g2 := (hF.rc i e hi).2 h2
        have hl := hs2 (fun e2 => by have := hall d g1; rw [e2] at this; cases this)
        match hDD : D[i]!, g1, g2, hl with
        | [x], g1, g2, _ =>
          rw [List.mem_singleton] at g1 g2
          exact h3 (g1.trans g2.symm)
        | [], g1, _, _ => cases g1
        | _ :: _ :: _, _, _, hl => simp at hl
    refine ld_rou (r := r) hF9.flow.rou (Ld_sl (s := r.sl) hc3 (s_next (r := r) (hr.ext hE9) hi (by omega) fun r3 H11 hE11 hr3' => ?_))
    refine Stab_1 (hE11.cell hc3 fun h => h) ?_
    rw [hr.len]
    refine s_Contains64 hr3'.rl (by have := nexts_len r.code i; omega) ?_
    have hE11' := hE9.trans hE11 fun _ _ h => h
    have hF11 := hF.ext hE11'
    refine Stab_all (fun x hx => ?_) ?_
    · have := hF11.flow
      simp only [List.mem_cons, List.not_mem_nil, or_false] at hx
      rcases hx with rfl | rfl | rfl | rfl | rfl
      · exact (this.cell 3).trans (by rw [← hr.len]; rfl)
      · exact (this.cell 0).trans rfl
      · exact (this.cell 1).trans rfl
      · exact (this.cell 2).trans rfl
      · exact (this.cell 3).trans (by first | rfl | (rw [← hr.len]; rfl))
    have hkk := hk H11 hE11'
    refine Br_dec (fun he => ?_) fun he => ?_
    · rwa [wr_153 hnj hns he] at hkk
    · rwa [wr_0 hnj hns he] at hkk
  · intro H10 seen d nx hU10 hsz ⟨hs1, hs2⟩ hd hns hnx
    have hE10 := hE4.trans hU10 fun _ _ h => h
    have hF10 := hF.ext hE10
    have hR := (hF.rc i d hi).1 hd
    have hdb := (hR.bd hn0).2
    refine s_fits hF10.flow (hr.ext hE10) (hf.ext hE10) hI hi hdb fun H13 hE13 => ?_
    have hE13' := hE10.trans hE13 fun _ _ h => h
    have hF13 := hF.ext hE13'
    refine Jn.mk (fun j H' => H13 = H' ∧ j = decide (¬ fits (parms fs) r.code[i]! d ∨ (D[i]!).length > 1)) (fun kk hkk => ?_) ?_
    · refine Br_not (Br_dec (fun hfit => ?_) fun hfit => hkk _ _ ⟨rfl, (decide_eq_true (.inl hfit)).symm⟩)
      refine Ld_sl (s := dl) hF13.d5 (IxA_raw hF13.dv rfl hi2 (MpN_i (hF13.mp i hi2) (hkk _ _ ⟨rfl, ?_⟩)))
      exact decide_eq_decide.2 ⟨fun h => .inr (by omega), fun h => by rcases h with h | h; exact absurd hfit h; omega⟩
    rintro j _ ⟨rfl, rfl⟩
    refine Br_dec (fun hbad => ?_) fun hok => hnx _ (hU10.trans hE13 fun _ _ h => h) hE13.size (hE13.get _ hsz fun h => h) ⟨fun e he => ?_, fun _ => ?_⟩
    · have hsb : stackBad r.code (parms fs) i := by
        rcases hbad with hb | hb
        · exact .inl ⟨d, hR, hb⟩
        · match hDD : D[i]!, hb, hF.nd i hDi with
          | x :: y :: t, _, hnd =>
            have hx := (hF.rc i x hi).1 (by rw [hDD]; simp)
            have hy := (hF.rc i y hi).1 (by rw [hDD]; simp)
            refine .inr ⟨x, y, hx, hy, fun e => ?_⟩
            subst e
            simp at hnd
          | [_], hb, _ => simp at hb
          | [], hb, _ => simp at hb
      have := hk H13 hE13'
      rwa [wr_151 hnj hsb] at this
    · rcases List.mem_cons.1 he with rfl | he
      · exact Classical.byContradiction fun h => hok (.inl h)
      · exact hs1 e he
    · exact Nat.le_of_not_lt fun h => hok (.inr h)
open Classical in
noncomputable abbrev badP (c : List Ins) (ps : List Int) : Nat → Bool := fun i => decide (isReached c ps i ∧ wr c ps i ≠ 0)
open Classical in
theorem badP_false {c : List Ins} {ps : List Int} {n : Nat} (h : ¬ (isReached c ps n ∧ wr c ps n ≠ 0)) : badP c ps n = false := decide_eq_false h
open Classical in
theorem badP_true {c : List Ins} {ps : List Int} {n : Nat} (h : isReached c ps n ∧ wr c ps n ≠ 0) : badP c ps n = true := decide_eq_true h
theorem s_first (hF : FlowAt lo H f r fsl (parms fs) dl ms D) (hr : CodeR H r) (hf : RN rouV 4 H fsl fs) (hI : ∀ x ∈ parms fs, I64 x) (hn2 : r.code.length ≤ 2000) {k : Option Addr → Heap → Prop}
    (hk : ∀ q H', Ext H H' → (match (List.range r.code.length).find? (badP r.code (parms fs)) with | some i => ∃ g, q = some (adr g) ∧ H.size ≤ g ∧ Row H' g T_api_Fault [.int .i64 (i : Nat), .int .i64 (wr r.code (parms fs) i : Nat)] | none => q = none) → k q H') :
    CallT Pg f_verify_flow_first [.pointer (some (adr f))] (.one (.c .ptr)) H k := by
  refine c_verify_flow_first _ ?_
  unfold v_verify_flow_first
  simp only [adr_add, NilCk_some]
  have hsl : hcell H ⟨f, 3, none⟩ = some (slV r.sl) := (hF.flow.cell 3).trans rfl
  refine Ld_sl (s := r.sl) hsl ?_
  rw [hr.len]
  refine LoopT.mk (fun i H' => ∃ n : Nat, i = n ∧ n ≤ r.code.length ∧ Ext H H' ∧ ∀ j, j < n → badP r.code (parms fs) j = false) (fun i _ => r.code.length - i.toNat) ⟨0, rfl, Nat.zero_le _, .refl _ _, fun j hj => by omega⟩ ?_
  rintro next _ H1 ⟨n, rfl, hn, hE1, hno⟩ hnext
  refine Br_dec (fun hlt => Jn_in ?_) fun hge => ?_
  · have hn3 : n < r.code.length := by omega
    have hi2 : n < ms.length := by rw [hF.ml]; exact hn3
    have hF1 := hF.ext hE1
    have go : ∀ H2, Ext H H2 → badP r.code (parms fs) n = false → Lt (IntKind.wrap .i64 ((n : Int) + 1)) fun t1 => next t1 H2 := fun H2 hE2 hb =>
      Lt.mk (u := ((n + 1 : Nat) : Int)) (by rw [wrap_i64_id] <;> omega) (hnext _ _ ⟨n + 1, rfl, hn3, hE2, fun j hj => by
        rcases Nat.lt_or_ge j n with e | e
        · exact hno j e
        · have : j = n := by omega
          subst this; exact hb⟩ (by omega))
    refine Ld_sl (s := dl) hF1.d5 (IxA_raw hF1.dv rfl hi2 (MpN_i (hF1.mp n hi2) (Br.mk (fun h0 => ?_) fun h0 => ?_)))
    · refine go H1 hE1 (badP_false ?_)
      rintro ⟨⟨d, hd⟩, _⟩
      have := (hF.rc n d hn3).2 hd
      have h0 := beqI h0
      have h2 : D[n]! = [] := List.eq_nil_of_length_eq_zero (by omega)
      rw [h2] at this
      cases this
    · have h0 := bneI h0
      have hrd : isReached r.code (parms fs) n := by
        match hDD : D[n]!, h0 with
        | x :: t, _ => exact ⟨x, (hF.rc n x hn3).1 (by rw [hDD]; simp)⟩
        | [], h0 => simp at h0
      refine s_wrong hF1 (hr.ext hE1) (hf.ext hE1) hI hn2 hn3 fun H3 hE3 => ?_
      have hE3' := hE1.trans hE3 fun _ _ h => h
      by_cases hw : wr r.code (parms fs) n = 0
      · rw [hw]
        refine go H3 hE3' (badP_false fun h => h.2 hw)
      · rw [show ((((wr r.code (parms fs) n : Nat)) : Int) != 0) = true by rw [bne_iff_ne]; omega, Br_true]
        refine s_vfault fun H4 g hg hE4 hrow => hk _ _ (hE3'.trans hE4 fun _ _ h => h) ?_
        have : (List.range r.code.length).find? (badP r.code (parms fs)) = some n := by
          rw [List.find?_range_eq_some]
          exact ⟨badP_true ⟨hrd, hw⟩, List.mem_range.2 hn3, fun j hj => by rw [hno j hj]; rfl⟩
        rw [this]
        exact ⟨g, rfl, by have := hE3'.size; omega, hrow⟩
  · refine hk _ _ hE1 ?_
    have : (List.range r.code.length).find? (badP r.code (parms fs)) = none := by
      rw [List.find?_range_eq_none]
      intro j hj
      rw [hno j (by omega)]; rfl
    rw [this]
end Go.Proofs.YtlkmmplgfjicjaaGreat
/-
  Depths.
-/
namespace Go.Proofs.YtlkmmplgfjicjaaGreat
set_option linter.unusedVariables false
set_option linter.unusedSimpArgs false
open Go.Proofs.YtlkmmplgfjicjaaGreat.Hc Go.Proofs.YtlkmmplgfjicjaaGreat.Hc.Vf
set_option maxRecDepth 100000
variable {H : Heap}

open Classical in
noncomputable def wholeS (c : List Ins) (ps : List Int) : Except (Nat × Nat) Unit :=
  if c.length = 0 then .error (0, 153) else match (List.range c.length).find? (badP c ps) with
  | some i => .error (i, wr c ps i)
  | none => .ok ()
theorem depthsS_eq (c : List Ins) (ps : List Int) : depthsS c ps = if 2000 < c.length then .error (0, 130) else match wholeS c ps with
    | .error e => .error e
    | .ok _ => .ok ((List.range c.length).map (depI c ps)) := by
  unfold depthsS wholeS
  split
  · rfl
  · split
    · rfl
    · show (match (List.range c.length).find? (badP c ps) with
        | some i => Except.error (i, wr c ps i)
        | none => .ok ((List.range c.length).map (depI c ps))) = _
      cases (List.range c.length).find? (badP c ps) <;> rfl
/-- A fault behind a pointer. -/
def FaultP (lo : Nat) (H : Heap) (q : Option Addr) (a e : Nat) : Prop := ∃ g, q = some (adr g) ∧ lo ≤ g ∧ Row H g T_api_Fault [.int .i64 (a : Nat), .int .i64 (e : Nat)]
theorem s_whole {r : Rou} {fsl : Sl} {fs : List Rou} (hr : CodeR H r) (hf : RN rouV 4 H fsl fs) (hI : ∀ x ∈ parms fs, I64 x) (hn2 : r.code.length ≤ 2000) {k : Option Addr × Option Addr → Heap → Prop}
    (hk : ∀ q H', Ext H H' → (match wholeS r.code (parms fs) with | .ok _ => q.2 = none ∧ ∃ f dl ms D, q.1 = some (adr f) ∧ FlowAt H.size H' f r fsl (parms fs) dl ms D | .error (a, e) => q.1 = none ∧ FaultP H.size H' q.2 a e) → k q H') :
    CallT Pg f_verify_whole [rouA r, .slice fsl.a fsl.len fsl.cap] (.tup [(.c .ptr), (.c .ptr)]) H k := by
  refine c_verify_whole (r.name, r.params, r.locals, r.sl) _ ?_
  unfold v_verify_whole
  refine Nw_row (vs := rouV r) fun b1 H1 hb1 hE1 hz1 hrow => ?_
  simp only [adr_add]
  refine Ld_sl (s := r.sl) ((hrow.cell 3).trans rfl) ?_
  rw [hr.len]
  refine Br.mk (fun h0 => ?_) fun h0 => ?_
  · have h0 := beqI h0
    refine s_vfault fun H2 g hg hE2 hrow2 => hk _ _ (hE1.trans hE2 fun _ _ h => h) ?_
    unfold wholeS
    rw [if_pos (by omega)]
    exact ⟨rfl, g, rfl, by have := hE1.size; omega, hrow2⟩
  · have h0 := bneI h0
    refine ld_rou (r := r) hrow.rd_all (s_reach (r := r) (hr.ext hE1) (hf.ext hE1) hI (by omega) hn2 fun f dl ms D H3 hE3 hF => ?_)
    have hE3' := hE1.trans hE3 fun _ _ h => h
    refine s_first hF (hr.ext hE3') (hf.ext hE3') hI hn2 fun q H4 hE4 hq => ?_
    have hE4' := hE3'.trans hE4 fun _ _ h => h
    have z1 := hE1.size
    have z3 := hE3'.size
    have hW : wholeS r.code (parms fs) = match (List.range r.code.length).find? (badP r.code (parms fs)) with
        | some i => .error (i, wr r.code (parms fs) i)
        | none => .ok () := by unfold wholeS; rw [if_neg (by omega)]
    cases hfd : (List.range r.code.length).find? (badP r.code (parms fs)) with
    | some i =>
      rw [hfd] at hq hW
      obtain ⟨g, rfl, hg, hrow4⟩ := hq
      show k (none, some (adr g)) H4
      refine hk _ _ hE4' ?_
      rw [hW]
      exact ⟨rfl, g, rfl, by omega, hrow4⟩
    | none =>
      rw [hfd] at hq hW
      subst hq
      show k (some (adr f), none) H4
      refine hk _ _ hE4' ?_
      rw [hW]
      have hF4 := hF.ext hE4
      exact ⟨rfl, f, dl, ms, D, rfl, { flow := hF4.flow, dv := hF4.dv, ml := hF4.ml, dln := hF4.dln, mp := hF4.mp, nd := hF4.nd, rc := hF4.rc, f1 := by have := hF4.f1; omega, fd := fun b hb => by have := hF4.fd b hb; omega, fm := fun i q hi hq => by have := hF4.fm i q hi hq; omega }⟩
theorem FlowAt.keep {lo f : Nat} {r : Rou} {fsl dl : Sl} {ms : List Value} {D : List (List Nat)} {ps : List Int} {bo : Nat} {vs : List Value} {H' : Heap} (hu : Upd (· = bo) H H') (h : FlowAt lo H f r fsl ps dl ms D) (ho : Row H bo T_int vs) : FlowAt lo H' f r fsl ps dl ms D :=
  { flow := hu.row h.flow (h.flow.ne ho (by decide)), dv := h.dv.upd hu fun b hb => h.dv.ne hb ho (by decide), ml := h.ml, dln := h.dln
    mp := fun i hi => (h.mp i hi).upd hu fun q hq e => by
      subst e
      rcases h.mp i hi with ⟨g, _⟩ | ⟨q', g, g2⟩
      · rw [hq] at g; cases g
      · rw [hq] at g; cases g; exact Row.neMap ho g2 rfl
    nd := h.nd, rc := h.rc, f1 := h.f1, fd := h.fd, fm := h.fm }
/-- What Depths gives out. -/
def DepOut (lo : Nat) (H : Heap) (c : List Ins) (ps : List Int) (l : Sl) (v : Value) : Prop :=
  match depthsS c ps with
  | .ok xs => v = .nilIface ∧ Vec H T_int l (ints xs) ∧ ∀ b, l.a = some (adr b) → lo ≤ b
  | .error (a, e) => l = ⟨none, 0, 0⟩ ∧ ∃ g, v = .iface T_P_api_Fault (.pointer (some (adr g))) ∧ lo ≤ g ∧ Row H g T_api_Fault [.int .i64 (a : Nat), .int .i64 (e : Nat)]
abbrev prgA (p : Sl × Sl) : Value := .agg #[.slice p.1.a p.1.len p.1.cap, .slice p.2.a p.2.len p.2.cap]
theorem s_Depths {p : Sl × Sl} {r : Rou} {fs : List Rou} (hr : CodeR H r) (hf : RN rouV 4 H p.2 fs) (hI : ∀ x ∈ parms fs, I64 x) {k : Sl × Value → Heap → Prop}
    (hk : ∀ q H', Ext H H' → DepOut H.size H' r.code (parms fs) q.1 q.2 → k q H') : CallT Pg f_verify_Depths [prgA p, rouA r] (.tup [(.c .sl), (.c .raw)]) H k := by
  refine c_verify_Depths p (r.name, r.params, r.locals, r.sl) ?_
  unfold v_verify_Depths
  refine Nw_row (vs := [slV p.1, slV p.2]) fun b1 H1 hb1 hE1 hz1 hrow1 => Nw_row (vs := rouV r) fun b2 H2 hb2 hE2 hz2 hrow2 => ?_
  simp only [adr_add, NilCk_some]
  have hE2' := hE1.trans hE2 fun _ _ h => h
  have hrow12 := hE2.row hrow1 fun h => h
  refine Ld_sl (s := r.sl) ((hrow2.cell 3).trans rfl) ?_
  rw [hr.len]
  have z2 := hE2'.size
  refine Br_dec (fun hbig => ?_) fun hsm => ?_
  · refine s_vfault fun H3 g hg hE3 hrow3 => hk _ _ (hE2'.trans hE3 fun _ _ h => h) ?_
    unfold DepOut
    rw [depthsS_eq, if_pos (by omega)]
    exact ⟨rfl, g, rfl, by omega, hrow3⟩
  have hn2 : r.code.length ≤ 2000 := by omega
  refine ld_rou (r := r) hrow2.rd_all (Ld_sl (s := p.2) ((hrow12.cell 1).trans rfl) (s_whole (r := r) (hr.ext hE2') (hf.ext hE2') hI hn2 fun q H4 hE4 hq => ?_))
  have hE4' := hE2'.trans hE4 fun _ _ h => h
  have z4 := hE4'.size
  cases hW : wholeS r.code (parms fs) with
  | error ae =>
    obtain ⟨a, e⟩ := ae
    rw [hW] at hq
    obtain ⟨h1, g, h2, h3, h4⟩ := hq
    rw [h2]
    refine hk _ _ hE4' ?_
    unfold DepOut
    rw [depthsS_eq, if_neg (by omega), hW]
    exact ⟨rfl, g, rfl, by omega, h4⟩
  | ok u =>
    rw [hW] at hq
    obtain ⟨h1, f, dl, ms, D, h2, hF⟩ := hq
    rw [h1, h2]
    have hgood : ∀ i, i < r.code.length → isReached r.code (parms fs) i → wr r.code (parms fs) i = 0 := by
      intro i hi hrd
      unfold wholeS at hW
      split at hW
      · cases hW
      · split at hW
        · cases hW
        · rename_i hfd
          rw [List.find?_range_eq_none] at hfd
          have := hfd i hi
          exact Classical.byContradiction fun hne => by rw [badP_true ⟨hrd, hne⟩] at this; simp at this
    have hrow24 := hE4.row hrow2 fun h => h
    show Ld .sl ⟨b2, 3, none⟩ H4 _
    refine Ld_sl (s := r.sl) ((hrow24.cell 3).trans rfl) ?_
    rw [hr.len]
    refine Mks_row (by omega) (by omega) (by omega) fun bo H5 hbo hE5 hz5 hro => ?_
    rw [Int.toNat_natCast] at hro ⊢
    simp only [NilCk_some, adr_add]
    have hE5' := hE4'.trans hE5 fun _ _ h => h
    refine LoopT.mk (fun at' H6 => ∃ n : Nat, at' = n ∧ n ≤ r.code.length ∧ Row H6 bo T_int (ints ((List.range n).map (depI r.code (parms fs)) ++ List.replicate (r.code.length - n) 0)) ∧ FlowAt H2.size H6 f r p.2 (parms fs) dl ms D ∧ Upd (· = bo) H5 H6) (fun i _ => r.code.length - i.toNat)
      ⟨0, rfl, Nat.zero_le _, by simpa [ints] using hro, hF.ext hE5, .refl _ _⟩ ?_
    rintro next _ H6 ⟨n, rfl, hn, hro6, hF6, hU6⟩ hnext
    have hE6' : Ext H H6 := hE5'.trans hU6 fun b hb e => by omega
    refine Br_dec (fun hlt => ?_) fun hge => ?_
    · have hn3 : n < r.code.length := by omega
      have hlen6 : ((List.range n).map (depI r.code (parms fs)) ++ List.replicate (r.code.length - n) 0).length = r.code.length := by simp; omega
      refine IxA_adr (by omega) (by omega) ?_
      rw [Int.toNat_natCast, Nat.mul_one]
      refine St_row hro6 (by simp; omega) fun H7 hU7 _ hro7 => ?_
      have hF7 := hF6.keep hU7 hro6
      have hi2 : n < ms.length := by rw [hF.ml]; exact hn3
      have hDi : n < D.length := by rw [hF.dln]; exact hn3
      have hboz : bo < H7.size := hro7.lt
      rw [ints_set] at hro7
      generalize hbase : ((List.range n).map (depI r.code (parms fs)) ++ List.replicate (r.code.length - n) 0) = base at *
      refine Ld_sl (s := dl) hF7.d5 (IxA_raw hF7.dv rfl hi2 ?_)
      refine MpRange_i (hF7.mp n hi2) (M0 := fun b => b = bo) (fun q hq e => ?_) (fun seen H' => ∃ x, Row H' bo T_int (ints (base.set n x)) ∧ (seen = [] → x = -1) ∧ (∀ y t, seen = y :: t → x = (y : Nat)) ∧ ∀ d ∈ seen, d ∈ D[n]!)
        (BODY := fun n1 H11 nx => IxA 1 ⟨some (adr bo), r.code.length, r.code.length⟩ (n : Nat) fun a5 => St a5 (.int .i64 n1) H11 fun H12 => nx H12) (fun H' hE' => ⟨-1, hE'.row hro7 fun h => h, fun _ => rfl, (fun y t h => by cases h), fun d hd => by cases hd⟩) ?_ ?_ ?_ (hF.nd n hDi)
      · subst e
        rcases hF7.mp n hi2 with ⟨g, _⟩ | ⟨q', g, g2⟩
        · rw [hq] at g; cases g
        · rw [hq] at g; cases g; exact Row.neMap hro7 g2 rfl
      · intro H10 seen hU10 ⟨x, hro10, hx1, hx2, hx3⟩ hall
        have hxd : x = depI r.code (parms fs) n := by
          cases seen with
          | nil =>
            rw [hx1 rfl, depI_none]
            intro d hd
            have := hall d ((hF.rc n d hn3).2 hd)
            cases this
          | cons y t =>
            rw [hx2 y t rfl]
            have hyR := (hF.rc n y hn3).1 (hx3 y (by simp))
            refine (depI_of hyR fun e he => ?_).symm
            have hw := hgood n hn3 ⟨y, hyR⟩
            refine Classical.byContradiction fun hne => ?_
            by_cases hj : jumpBad r.code n
            · rw [wr_150 hj] at hw; cases hw
            · rw [wr_151 hj (.inr ⟨e, y, he, hyR, hne⟩)] at hw; cases hw
        subst hxd
        have hF10 := hF7.keep hU10 hro7
        refine Lt.mk (u := ((n + 1 : Nat) : Int)) (by rw [wrap_i64_id] <;> omega) (hnext _ _ ⟨n + 1, rfl, hn3, ?_, hF10, (hU6.trans hU7 fun _ _ h => h).trans hU10 fun _ _ h => h⟩ (by omega))
        have : base.set n (depI r.code (parms fs) n) = (List.range (n + 1)).map (depI r.code (parms fs)) ++ List.replicate (r.code.length - (n + 1)) 0 := by
          rw [← hbase, List.set_append_right _ _ (by simp), List.length_map, List.length_range, Nat.sub_self]
          obtain ⟨m, hm⟩ : ∃ m, r.code.length - n = m + 1 := ⟨r.code.length - n - 1, by omega⟩
          rw [hm, List.replicate_succ, List.set_cons_zero, List.range_succ, List.map_append, show r.code.length - (n + 1) = m by omega]
          simp
        rw [← this]; exact hro10
      · rintro H' H'' seen _ _ hU'' ⟨x, h1, h2⟩
        exact ⟨x, hU''.row h1 (by omega), h2⟩
      · rintro H' seen d nx hU' hsz ⟨x, hro', hx1, hx2, hx3⟩ hd hns hnx
        refine IxA_adr (by omega) (by omega) ?_
        rw [Int.toNat_natCast, Nat.mul_one]
        refine St_row hro' (by simp; omega) fun H12 hU12 hz12 hro12 => hnx H12 (hU'.trans hU12 fun _ _ h => h) (by omega) (hU12.get _ hsz (by omega)) ⟨d, ?_, (fun h => by cases h), fun y t h => (by cases h; rfl), fun e he => ?_⟩
        · rw [ints_set, List.set_set] at hro12; exact hro12
        · rcases List.mem_cons.1 he with rfl | he
          · exact hd
          · exact hx3 e he
    · have hn3 : n = r.code.length := by omega
      subst hn3
      rw [Nat.sub_self, List.replicate_zero, List.append_nil] at hro6
      refine hk _ _ hE6' ?_
      unfold DepOut
      rw [depthsS_eq, if_neg (by omega), hW]
      exact ⟨rfl, ⟨by simp, .inr ⟨bo, [], rfl, by simpa using hro6, by simp⟩, Nat.le_refl _⟩, fun b hb => by cases hb; omega⟩
end Go.Proofs.YtlkmmplgfjicjaaGreat
/-
  May the program be written down?
-/
namespace Go.Proofs.YtlkmmplgfjicjaaGreat
set_option linter.unusedVariables false
set_option linter.unusedSimpArgs false
open Go.Proofs.YtlkmmplgfjicjaaGreat.Hc Go.Proofs.YtlkmmplgfjicjaaGreat.Hc.Vf
set_option maxRecDepth 100000
variable {H : Heap}

/-- A system as it lies in memory: its four sets and its routine. -/
structure Sy where
  s : Nat → Sl
  l : Nat → List Int
  rou : Rou
instance : Inhabited Sy := ⟨⟨fun _ => default, fun _ => [], default⟩⟩
abbrev sysV (x : Sy) : List Value := [slV (x.s 0), slV (x.s 1), slV (x.s 2), slV (x.s 3), .string x.rou.name, .int .i64 x.rou.params, .int .i64 x.rou.locals, slV x.rou.sl]
theorem sysV_len (x : Sy) : (sysV x).length = 8 := rfl
structure SyR (H : Heap) (x : Sy) : Prop where
  sets : ∀ q, q < 4 → RL (Value.int .i64) H (x.s q) (x.l q)
  code : CodeR H x.rou
  lens : ∀ q, q < 4 → (x.l q).length ≤ 2 ^ 60
  clen : x.rou.code.length ≤ 2 ^ 60
structure PrgR (H : Heap) (p : Sl × Sl) (ss : List Sy) (fs : List Rou) : Prop where
  sys : RN sysV 8 H p.1 ss
  sysR : ∀ x ∈ ss, SyR H x
  fun' : RN rouV 4 H p.2 fs
  funR : ∀ r ∈ fs, CodeR H r
  funL : ∀ r ∈ fs, r.code.length ≤ 2 ^ 60
theorem SyR.ext {H' : Heap} (hE : Ext H H') {x : Sy} (h : SyR H x) : SyR H' x := ⟨fun q hq => (h.sets q hq).ext hE, h.code.ext hE, h.lens, h.clen⟩
theorem PrgR.ext {H' : Heap} (hE : Ext H H') {p : Sl × Sl} {ss : List Sy} {fs : List Rou} (h : PrgR H p ss fs) : PrgR H' p ss fs :=
  ⟨h.sys.ext hE, fun x hx => (h.sysR x hx).ext hE, h.fun'.ext hE, fun r hr => (h.funR r hr).ext hE, h.funL⟩
def rises4 (x : Sy) : Bool := (List.range 4).all fun q => risesOk 0 (x.l q)
def sumL (rs : List Rou) : Nat := (rs.map (·.code.length)).sum
theorem sumL_succ {rs : List Rou} {n : Nat} (h : n < rs.length) : sumL (rs.take (n + 1)) = sumL (rs.take n) + (rs[n]).code.length := by
  unfold sumL
  rw [List.take_add_one, List.getElem?_eq_getElem h, Option.toList_some, List.map_append, List.sum_append]
  simp
theorem sumL_take {rs : List Rou} {n : Nat} : sumL (rs.take n) ≤ sumL rs := by
  unfold sumL
  conv => rhs; rw [← List.take_append_drop n rs, List.map_append, List.sum_append]
  exact Nat.le_add_right _ _
def MayP (ss : List Sy) (fs : List Rou) : Prop := ss.length ≤ 16 ∧ fs.length ≤ 16 ∧ (∀ x ∈ ss, rises4 x = true ∧ rouOk x.rou = true) ∧ (∀ r ∈ fs, rouOk r = true) ∧ sumL (ss.map (·.rou)) + sumL fs ≤ 2000
instance (ss : List Sy) (fs : List Rou) : Decidable (MayP ss fs) := by unfold MayP; infer_instance
theorem s_sets {b : Nat} {k : Option Addr × Option Addr × Option Addr × Option Addr → Heap → Prop} (hk : ∀ H', Ext H H' → k (some ⟨b, 0, none⟩, some ⟨b, 1, none⟩, some ⟨b, 2, none⟩, some ⟨b, 3, none⟩) H') :
    CallT Pg f_code_sets [.pointer (some (adr b))] (.one (.agg [.ptr, .ptr, .ptr, .ptr])) H k := by
  refine c_code_sets _ ?_
  unfold v_code_sets
  simp only [NilCk_some, adr_add]
  refine Nw_row (vs := [.pointer none, .pointer none, .pointer none, .pointer none]) fun b1 H1 hb1 hE1 _ hr1 => ?_
  refine St_row hr1 (by simp) fun H2 hU2 _ hr2 => St_row hr2 (by simp) fun H3 hU3 _ hr3 => St_row hr3 (by simp) fun H4 hU4 _ hr4 => St_row hr4 (by simp) fun H5 hU5 _ hr5 => ?_
  refine ⟨(some ⟨b, 0, none⟩, some ⟨b, 1, none⟩, some ⟨b, 2, none⟩, some ⟨b, 3, none⟩), Row.rd_all hr5, hk _ (extUpd hE1 (by omega) (((hU2.trans hU3 fun _ _ h => h).trans hU4 fun _ _ h => h).trans hU5 fun _ _ h => h))⟩
theorem ArI_sets {b q : Nat} (hq : q < 4) {k : Option Addr → Prop} (hk : k (some ⟨b, q, none⟩)) : ArI .ptr 4 #[.pointer (some ⟨b, 0, none⟩), .pointer (some ⟨b, 1, none⟩), .pointer (some ⟨b, 2, none⟩), .pointer (some ⟨b, 3, none⟩)] (q : Nat) k := by
  refine ⟨some ⟨b, q, none⟩, by omega, by omega, ?_, hk⟩
  rw [Int.toNat_natCast]
  match q, hq with
  | 0, _ => rfl
  | 1, _ => rfl
  | 2, _ => rfl
  | 3, _ => rfl
theorem sys_cell {b : Nat} {x : Sy} (hr : Row H b T_api_System (sysV x)) {q : Nat} (hq : q < 4) : hcell H ⟨b, q, none⟩ = some (slV (x.s q)) := by
  rw [hr.cell]
  match q, hq with
  | 0, _ => rfl
  | 1, _ => rfl
  | 2, _ => rfl
  | 3, _ => rfl
theorem sys_rou {b : Nat} {x : Sy} (hr : Row H b T_api_System (sysV x)) : hcells H ⟨b, 4, none⟩ 0 (rouV x.rou) := by
  have h0 : hcells H (adr b) 0 ([slV (x.s 0), slV (x.s 1), slV (x.s 2), slV (x.s 3)] ++ rouV x.rou) := Row.rd_all hr
  have h := hcellsShift (n := 4) (i := 0) |>.1 (hcells_app.1 h0).2
  rwa [adr_add] at h
/-- A system is copied into a block of its own. -/
theorem sys_copy {x : Sy} {K : Nat → Heap → Prop} (hK : ∀ b H', b = H.size → Ext H H' → Row H' b T_api_System (sysV x) → K b H') :
    Nw #[.slice none 0 0, .slice none 0 0, .slice none 0 0, .slice none 0 0, .string ByteArray.empty, .int .i64 0, .int .i64 0, .slice none 0 0] T_api_System H fun b3 H6 =>
      St ((adr b3).add 0) (slV (x.s 0)) H6 fun H7 => St ((adr b3).add 1) (slV (x.s 1)) H7 fun H8 => St ((adr b3).add 2) (slV (x.s 2)) H8 fun H9 => St ((adr b3).add 3) (slV (x.s 3)) H9 fun H10 =>
      St ((adr b3).add 4) (.string x.rou.name) H10 fun H11 => St ((adr b3).add 5) (.int .i64 x.rou.params) H11 fun H12 => St ((adr b3).add 6) (.int .i64 x.rou.locals) H12 fun H13 => St ((adr b3).add 7) (slV x.rou.sl) H13 fun H14 => K b3 H14 := by
  refine Nw_row (vs := [.slice none 0 0, .slice none 0 0, .slice none 0 0, .slice none 0 0, .string ByteArray.empty, .int .i64 0, .int .i64 0, .slice none 0 0]) fun b1 H1 hb1 hE1 _ hr1 => ?_
  simp only [adr_add]
  refine St_row hr1 (by simp) fun H2 hU2 _ hr2 => St_row hr2 (by simp) fun H3 hU3 _ hr3 => St_row hr3 (by simp) fun H4 hU4 _ hr4 => St_row hr4 (by simp) fun H5 hU5 _ hr5 =>
    St_row hr5 (by simp) fun H6 hU6 _ hr6 => St_row hr6 (by simp) fun H7 hU7 _ hr7 => St_row hr7 (by simp) fun H8 hU8 _ hr8 => St_row hr8 (by simp) fun H9 hU9 _ hr9 => ?_
  exact hK _ _ hb1 (extUpd hE1 (by omega) (((((((hU2.trans hU3 fun _ _ h => h).trans hU4 fun _ _ h => h).trans hU5 fun _ _ h => h).trans hU6 fun _ _ h => h).trans hU7 fun _ _ h => h).trans hU8 fun _ _ h => h).trans hU9 fun _ _ h => h)) hr9
theorem rou_copy {x : Rou} {K : Nat → Heap → Prop} (hK : ∀ b H', b = H.size → Ext H H' → Row H' b T_api_Routine (rouV x) → K b H') :
    Nw #[.string ByteArray.empty, .int .i64 0, .int .i64 0, .slice none 0 0] T_api_Routine H fun b3 H6 =>
      St ((adr b3).add 0) (.string x.name) H6 fun H7 => St ((adr b3).add 1) (.int .i64 x.params) H7 fun H8 => St ((adr b3).add 2) (.int .i64 x.locals) H8 fun H9 => St ((adr b3).add 3) (slV x.sl) H9 fun H10 => K b3 H10 := by
  refine Nw_row (vs := [.string ByteArray.empty, .int .i64 0, .int .i64 0, .slice none 0 0]) fun b1 H1 hb1 hE1 _ hr1 => ?_
  simp only [adr_add]
  refine St_row hr1 (by simp) fun H2 hU2 _ hr2 => St_row hr2 (by simp) fun H3 hU3 _ hr3 => St_row hr3 (by simp) fun H4 hU4 _ hr4 => St_row hr4 (by simp) fun H5 hU5 _ hr5 => ?_
  exact hK _ _ hb1 (extUpd hE1 (by omega) (((hU2.trans hU3 fun _ _ h => h).trans hU4 fun _ _ h => h).trans hU5 fun _ _ h => h)) hr5
theorem ld_sys {a : Addr} {x : Sy} {k : Sl × Sl × Sl × Sl × ByteArray × Int × Int × Sl → Prop} (h : hcells H a 0 (sysV x)) (hk : k (x.s 0, x.s 1, x.s 2, x.s 3, x.rou.name, x.rou.params, x.rou.locals, x.rou.sl)) : LdC [.sl, .sl, .sl, .sl, .str, (.int .i64), (.int .i64), .sl] a H k :=
  ⟨(x.s 0, x.s 1, x.s 2, x.s 3, x.rou.name, x.rou.params, x.rou.locals, x.rou.sl), h, hk⟩
theorem code_far {r : Rou} (hr : CodeR H r) {bl : Nat} (hb : H.size ≤ bl) : r.code ≠ [] → ∀ a, r.sl.a = some a → a.block ≠ bl := fun hne a ha e => by
  have := RN.lt insV_len (by omega) hr hne ha
  omega
end Go.Proofs.YtlkmmplgfjicjaaGreat
/-
  code.may.
-/
namespace Go.Proofs.YtlkmmplgfjicjaaGreat
set_option linter.unusedVariables false
set_option linter.unusedSimpArgs false
open Go.Proofs.YtlkmmplgfjicjaaGreat.Hc Go.Proofs.YtlkmmplgfjicjaaGreat.Hc.Vf
set_option maxRecDepth 100000
variable {H : Heap}

theorem may_no {ss : List Sy} {fs : List Rou} {b : Bool} (h : ¬ MayP ss fs) (hb : b = false) : b = decide (MayP ss fs) := by rw [hb, decide_eq_false h]
theorem no_sys {ss : List Sy} {fs : List Rou} {n : Nat} (hn : n < ss.length) (h : ¬ (rises4 ss[n] = true ∧ rouOk (ss[n]).rou = true ∧ sumL ((ss.map (·.rou)).take n) + (ss[n]).rou.code.length ≤ 2000)) : ¬ MayP ss fs := by
  rintro ⟨_, _, g1, _, g2⟩
  have g3 := g1 _ (List.getElem_mem hn)
  refine h ⟨g3.1, g3.2, ?_⟩
  have e := sumL_succ (rs := ss.map (·.rou)) (n := n) (by simpa using hn)
  rw [List.getElem_map] at e
  have e2 := sumL_take (rs := ss.map (·.rou)) (n := n + 1)
  omega
theorem no_fun {ss : List Sy} {fs : List Rou} {n : Nat} (hn : n < fs.length) (h : ¬ (rouOk fs[n] = true ∧ sumL (ss.map (·.rou)) + sumL (fs.take n) + (fs[n]).code.length ≤ 2000)) : ¬ MayP ss fs := by
  rintro ⟨_, _, _, g1, g2⟩
  refine h ⟨g1 _ (List.getElem_mem hn), ?_⟩
  have e := sumL_succ (rs := fs) (n := n) hn
  have e2 := sumL_take (rs := fs) (n := n + 1)
  omega
theorem rises4_at {x : Sy} : rises4 x = true ↔ ∀ q, q < 4 → risesOk 0 (x.l q) = true := by
  unfold rises4
  rw [List.all_eq_true]
  exact ⟨fun h q hq => h q (List.mem_range.2 hq), fun h q hq => h q (List.mem_range.1 hq)⟩
theorem s_may {p : Sl × Sl} {ss : List Sy} {fs : List Rou} (hP : PrgR H p ss fs) {k : Bool → Heap → Prop} (hk : ∀ H', Ext H H' → k (decide (MayP ss fs)) H') : CallT Pg f_code_may [prgA p] (.one (.c .bool)) H k := by
  refine c_code_may p ?_
  unfold v_code_may
  refine Nw_row (vs := [slV p.1, slV p.2]) fun b1 H1 hb1 hE1 hz1 hr1 => Nw_row (vs := [.int .i64 0]) fun b2 H2 hb2 hE2 hz2 hr2 => ?_
  have z1 := hE1.size
  have z2 := hE2.size
  refine St_row hr2 (by simp) fun H3 hU3 hz3 hr3 => ?_
  have hr3 : Row H3 b2 T_int [.int .i64 ((2000 : Nat) : Int)] := hr3
  have hE13 : Ext H1 H3 := extUpd hE2 (by omega) hU3
  have hE3 := hE1.trans hE13 fun _ _ h => h
  have hp3 : Row H3 b1 T_api_Program [slV p.1, slV p.2] := hE13.row hr1 fun h => h
  have hbl : H.size ≤ b2 := by omega
  have hb12 : b1 ≠ b2 := by omega
  have hsl := hP.sys.len
  have hfl := hP.fun'.len
  simp only [adr_add]
  have fl : ∀ {H'}, Ext H H' → ¬ MayP ss fs → k false H' := fun {H'} hE h => by
    have := hk _ hE; rwa [decide_eq_false h] at this
  refine Jn.mk (fun j H' => H3 = H' ∧ j = decide (16 < ss.length ∨ 16 < fs.length)) (fun kk hkk => ?_) ?_
  · refine Ld_sl (s := p.1) ((hp3.cell 0).trans rfl) (Br_dec (fun h => hkk _ _ ⟨rfl, (decide_eq_true (by omega)).symm⟩) fun h => Ld_sl (s := p.2) ((hp3.cell 1).trans rfl) (hkk _ _ ⟨rfl, decide_eq_decide.2 (by omega)⟩))
  rintro j _ ⟨rfl, rfl⟩
  refine Br_dec (fun h => fl hE3 fun g => by have := g.1; have := g.2.1; omega) fun h => ?_
  refine Ld_sl (s := p.1) ((hp3.cell 0).trans rfl) ?_
  refine LoopT.mk (fun (i : Int) H' => ∃ n : Nat, i = n ∧ n ≤ ss.length ∧ Upd (· = b2) H3 H' ∧ (∀ j (hj : j < ss.length), j < n → rises4 ss[j] = true ∧ rouOk (ss[j]).rou = true) ∧ sumL ((ss.map (·.rou)).take n) ≤ 2000 ∧ Row H' b2 T_int [.int .i64 ((2000 - sumL ((ss.map (·.rou)).take n) : Nat) : Int)])
    (fun i _ => ss.length - i.toNat) ⟨0, rfl, Nat.zero_le _, .refl _ _, fun j hj h => by omega, by simp [sumL], hr3⟩ ?_
  rintro next _ H5 ⟨n, rfl, hn, hU5, hall, hsum, hr5⟩ hnext
  have hE35 : ∀ {H'}, Upd (· = b2) H3 H' → Ext H H' := fun hu => hE3.trans hu fun b hb e => by omega
  refine Br_dec (fun hlt => ?_) fun hge => ?_
  · have hn3 : n < ss.length := by omega
    have hx := hP.sysR _ (List.getElem_mem hn3)
    have hsucc := sumL_succ (rs := ss.map (·.rou)) (n := n) (by simpa using hn3)
    rw [List.getElem_map] at hsucc
    have hno := fun h => no_sys (fs := fs) hn3 h
    have hget : ss[n]! = ss[n] := getElem!_pos ss n hn3
    refine IxA_rn' sysV_len (hP.sys.ext (hE35 hU5)) (by omega) (j := n) rfl hn3 fun a ha => ?_
    rw [hget] at ha
    generalize hxe : ss[n] = x at *
    refine ld_sys ha (sys_copy (x := x) fun b3 H14 hb3 hE14 hr14 => s_sets fun H15 hE15 => ?_)
    have hE15' : Ext H5 H15 := hE14.trans hE15 fun _ _ h => h
    have hU15 : Upd (· = b2) H3 H15 := hU5.trans hE15' fun _ _ h => h.elim
    have hr15 := hE15.row hr14 fun h => h
    refine LoopT.mk (fun (i : Int) H' => H15 = H' ∧ ∃ q : Nat, i = q ∧ q ≤ 4 ∧ ∀ e, e < q → risesOk 0 (x.l e) = true) (fun i _ => 4 - i.toNat) ⟨rfl, 0, rfl, by omega, fun e he => by omega⟩ ?_
    rintro next2 _ _ ⟨rfl, q, rfl, hq, hri⟩ hnext2
    refine Br_dec (fun hlt2 => ?_) fun hge2 => ?_
    · have hq3 : q < 4 := by omega
      refine ArI_sets hq3 ?_
      simp only [NilCk_some]
      refine Ld_sl (s := x.s q) (sys_cell hr15 hq3) (s_rises ((hx.sets q hq3).ext (hE35 hU15)) (hx.lens q hq3) (Br_not (Br.mk (fun h => ?_) fun h => ?_)))
      · refine Lt.mk (u := ((q + 1 : Nat) : Int)) (by rw [wrap_i64_id] <;> omega) (hnext2 _ _ ⟨rfl, q + 1, rfl, hq3, fun e he => ?_⟩ (by omega))
        rcases Nat.lt_or_ge e q with g | g
        · exact hri e g
        · have : e = q := by omega
          subst this; exact h
      · refine fl (hE35 hU15) (hno fun g => ?_)
        rw [rises4_at.1 g.1 q hq3] at h; cases h
    · have hq4 : q = 4 := by omega
      subst hq4
      have hr4 : rises4 x = true := rises4_at.2 hri
      refine ld_rou (r := x.rou) (sys_rou hr15) (s_written (r := x.rou) (hx.code.ext (hE35 hU15)) (hE15'.row hr5 fun h => h) (by omega) hx.clen (code_far hx.code hbl) fun H18 hU18 hr18 => ?_)
      have hU18' : Upd (· = b2) H3 H18 := hU15.trans hU18 fun _ _ h => h
      refine Br_not (Br.mk (fun h => ?_) fun h => ?_)
      · simp only [Bool.and_eq_true, decide_eq_true_eq] at h
        refine Lt.mk (u := ((n + 1 : Nat) : Int)) (by rw [wrap_i64_id] <;> omega) (hnext _ _ ⟨n + 1, rfl, hn3, hU18', fun j hj hjn => ?_, by omega, ?_⟩ (by omega))
        · rcases Nat.lt_or_ge j n with g | g
          · exact hall j hj g
          · have : j = n := by omega
            subst this
            rw [hxe]; exact ⟨hr4, h.1⟩
        · rw [show ((2000 - sumL ((ss.map (·.rou)).take (n + 1)) : Nat) : Int) = ((2000 - sumL ((ss.map (·.rou)).take n) : Nat) : Int) - x.rou.code.length by omega]
          exact hr18
      · refine fl (hE35 hU18') (hno fun g => ?_)
        rw [g.2.1, decide_eq_true (by omega)] at h; cases h
  · have hne : n = ss.length := by omega
    subst hne
    rw [List.take_of_length_le (by simp)] at hsum hr5
    have hss : ∀ x ∈ ss, rises4 x = true ∧ rouOk x.rou = true := fun x hx => by
      obtain ⟨j, hj, rfl⟩ := List.getElem_of_mem hx
      exact hall j hj hj
    have hp5 : Row H5 b1 T_api_Program [slV p.1, slV p.2] := hU5.row hp3 hb12
    refine Ld_sl (s := p.2) ((hp5.cell 1).trans rfl) ?_
    refine LoopT.mk (fun (i : Int) H' => ∃ n : Nat, i = n ∧ n ≤ fs.length ∧ Upd (· = b2) H3 H' ∧ (∀ j (hj : j < fs.length), j < n → rouOk fs[j] = true) ∧ sumL (ss.map (·.rou)) + sumL (fs.take n) ≤ 2000 ∧ Row H' b2 T_int [.int .i64 ((2000 - (sumL (ss.map (·.rou)) + sumL (fs.take n)) : Nat) : Int)])
      (fun i _ => fs.length - i.toNat) ⟨0, rfl, Nat.zero_le _, hU5, fun j hj h => by omega, by simpa [sumL] using hsum, by simpa [sumL] using hr5⟩ ?_
    rintro next3 _ H19 ⟨n, rfl, hn, hU19, hall3, hsum3, hr19⟩ hnext3
    refine Br_dec (fun hlt => ?_) fun hge3 => ?_
    · have hn3 : n < fs.length := by omega
      have hx := hP.funR _ (List.getElem_mem hn3)
      have hxl := hP.funL _ (List.getElem_mem hn3)
      have hsucc := sumL_succ (rs := fs) (n := n) hn3
      have hno := fun h => no_fun (ss := ss) hn3 h
      have hget : fs[n]! = fs[n] := getElem!_pos fs n hn3
      refine IxA_rn' rouV_len (hP.fun'.ext (hE35 hU19)) (by omega) (j := n) rfl hn3 fun a ha => ?_
      rw [hget] at ha
      refine ld_rou ha (rou_copy (x := fs[n]) fun b3 H24 hb3 hE24 hr24 => ?_)
      have hU24 : Upd (· = b2) H3 H24 := hU19.trans hE24 fun _ _ h => h.elim
      refine ld_rou (r := fs[n]) hr24.rd_all (s_written (r := fs[n]) (hx.ext (hE35 hU24)) (hE24.row hr19 fun h => h) (by omega) hxl (code_far hx hbl) fun H25 hU25 hr25 => ?_)
      have hU25' : Upd (· = b2) H3 H25 := hU24.trans hU25 fun _ _ h => h
      refine Br_not (Br.mk (fun h => ?_) fun h => ?_)
      · simp only [Bool.and_eq_true, decide_eq_true_eq] at h
        refine Lt.mk (u := ((n + 1 : Nat) : Int)) (by rw [wrap_i64_id] <;> omega) (hnext3 _ _ ⟨n + 1, rfl, hn3, hU25', fun j hj hjn => ?_, by omega, ?_⟩ (by omega))
        · rcases Nat.lt_or_ge j n with g | g
          · exact hall3 j hj g
          · have : j = n := by omega
            subst this; exact h.1
        · rw [show ((2000 - (sumL (ss.map (·.rou)) + sumL (fs.take (n + 1))) : Nat) : Int) = ((2000 - (sumL (ss.map (·.rou)) + sumL (fs.take n)) : Nat) : Int) - (fs[n]).code.length by omega]
          exact hr25
      · refine fl (hE35 hU25') (hno fun g => ?_)
        rw [g.1, decide_eq_true (by omega)] at h; cases h
    · have hne : n = fs.length := by omega
      subst hne
      rw [List.take_length] at hsum3
      have := hk _ (hE35 hU19)
      rwa [decide_eq_true ⟨by omega, by omega, hss, fun r hr => by
        obtain ⟨j, hj, rfl⟩ := List.getElem_of_mem hr
        exact hall3 j hj hj, hsum3⟩] at this
end Go.Proofs.YtlkmmplgfjicjaaGreat
