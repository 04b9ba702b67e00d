/-
  Rows of several cells without a thought for spots; maps of numbers; iteration over them; vectors at an offset.
-/
import Derived.Test.YtlkmmplgfjicjaaGreatHcLawB
import Derived.Test.YtlkmmplgfjicjaaGreatVVer
namespace Go.Proofs.YtlkmmplgfjicjaaGreat.Hc
set_option linter.unusedVariables false
set_option linter.unusedSimpArgs false

theorem addAdd (a : Addr) (n m : Nat) : (a.add n).add m = a.add (n + m) := by
  unfold Addr.add
  by_cases h : n = 0
  · subst h; simp
  · by_cases h2 : m = 0
    · subst h2; simp [h]
    · rw [if_neg h, if_neg h2, if_neg (by omega)]
      simp [Nat.add_assoc]
theorem hcellsShift {H : Heap} {a : Addr} {n : Nat} : ∀ {vs : List Value} {i : Nat}, hcells H a (n + i) vs ↔ hcells H (a.add n) i vs
  | [], _ => Iff.rfl
  | _ :: _, i => by
    simp only [hcells]
    rw [addAdd, Nat.add_assoc, hcellsShift (i := i + 1)]
theorem hcells_app {H : Heap} {a : Addr} : ∀ {vs ws : List Value} {i : Nat}, hcells H a i (vs ++ ws) ↔ hcells H a i vs ∧ hcells H a (i + vs.length) ws
  | [], ws, i => by simp [hcells]
  | v :: vs, ws, i => by
    simp only [List.cons_append, hcells, List.length_cons]
    rw [hcells_app (vs := vs), and_assoc, show i + 1 + vs.length = i + (vs.length + 1) by omega]
/-- The address of an element, and its cells there. -/
theorem IxA_rn' {α : Type} [Inhabited α] {f : α → List Value} {n : Nat} (hf : ∀ e, (f e).length = n) {H : Heap} {s : Sl} {xs : List α} (h : RN f n H s xs) (hn : 0 < n) {i : Int} {k : Addr → Prop} {j : Nat} (hj : i = j) (hl : j < xs.length)
    (hk : ∀ a, hcells H a 0 (f xs[j]!) → k a) : IxA n s i k := by
  have hr := h.rd
  unfold rdL at hr
  cases ha : s.a with
  | none =>
    rw [ha] at hr
    have := flat_len hf (es := xs)
    rw [hr] at this
    simp only [List.length_nil] at this
    have : 0 < xs.length * n := Nat.mul_pos (by omega) hn
    omega
  | some a =>
    rw [ha] at hr
    subst hj
    refine IxA.mk ha (by omega) (by rw [h.len]; omega) ?_
    rw [Int.toNat_natCast]
    refine hk _ ?_
    obtain ⟨r, hrest⟩ := flat_drop hf hl
    have h1 := hcells_drop (m := j * n) hr
    rw [hrest, Nat.zero_add] at h1
    exact hcellsShift.1 (hcells_app.1 h1).1
theorem rn_of {α : Type} {f : α → List Value} {n : Nat} (hf : ∀ e, (f e).length = n) {H : Heap} {a : Addr} : ∀ {xs : List α} {m : Nat}, (∀ i (h : i < xs.length), hcells H (a.add ((m + i) * n)) 0 (f xs[i])) → hcells H a (m * n) (xs.flatMap f)
  | [], _, _ => trivial
  | x :: xs, m, h => by
    rw [List.flatMap_cons, hcells_app, hf]
    refine ⟨?_, ?_⟩
    · have := h 0 (by simp)
      rw [Nat.add_zero] at this
      exact hcellsShift.2 this
    · have := rn_of hf (H := H) (a := a) (xs := xs) (m := m + 1) fun i hi => by
        have := h (i + 1) (by simpa using hi)
        rw [show m + 1 + i = m + (i + 1) by omega]
        simpa using this
      rw [Nat.add_mul, Nat.one_mul] at this
      exact this
theorem RN.of_elems {α : Type} {f : α → List Value} {n : Nat} (hf : ∀ e, (f e).length = n) {H : Heap} {s : Sl} {xs : List α} (hl : s.len = xs.length) (hc : s.len ≤ s.cap) (h : ∀ i (h : i < xs.length), ∃ a, s.a = some a ∧ hcells H (a.add (i * n)) 0 (f xs[i])) : RN f n H s xs := by
  refine ⟨?_, hl, hc⟩
  unfold rdL
  cases ha : s.a with
  | none =>
    cases xs with
    | nil => rfl
    | cons x xs => obtain ⟨a, e, _⟩ := h 0 (by simp); rw [ha] at e; cases e
  | some a =>
    dsimp only
    have := rn_of hf (H := H) (a := a) (xs := xs) (m := 0) fun i hi => by
      obtain ⟨a', e, hcell⟩ := h i hi
      rw [ha] at e; cases e
      rw [Nat.zero_add]; exact hcell
    simpa using this
/-- What a slice reads stays, where its block is not turned. -/
theorem RN.upd' {α : Type} {f : α → List Value} {n : Nat} {M : Nat → Prop} {H H' : Heap} (hu : Upd M H H') {s : Sl} {xs : List α} (h : RN f n H s xs) (hn : xs ≠ [] → ∀ a, s.a = some a → ¬ M a.block) : RN f n H' s xs := by
  by_cases e : xs = []
  · subst e
    refine ⟨?_, h.len, h.cap⟩
    have := h.rd
    unfold rdL at this ⊢
    cases s.a <;> trivial
  · exact h.upd hu (hn e)
theorem RN.lt {α : Type} {f : α → List Value} {n : Nat} (hf : ∀ e, (f e).length = n) (hn : 0 < n) {H : Heap} {s : Sl} {xs : List α} (h : RN f n H s xs) (hx : xs ≠ []) {a : Addr} (ha : s.a = some a) : a.block < H.size := by
  have hr := h.rd
  unfold rdL at hr
  rw [ha] at hr
  cases xs with
  | nil => exact absurd rfl hx
  | cons x xs =>
    have hl := hf x
    cases hfx : f x with
    | nil => rw [hfx] at hl; simp at hl; omega
    | cons v vs =>
      rw [List.flatMap_cons, hfx] at hr
      have := lt_of_cell hr.1
      rwa [add_block] at this

theorem vecN_pre {T : TypeId} {n : Nat} {H : Heap} {s : Sl} {vs : List Value} (h : VecN H T n s vs) {j c : Nat} (hj : j ≤ s.len) (hc : j ≤ c) (hc2 : c ≤ s.cap) : VecN H T n ⟨s.a, j, c⟩ (vs.take (j * n)) := by
  have hl := h.len
  have h1 : j * n ≤ s.len * n := Nat.mul_le_mul_right n hj
  refine ⟨by rw [List.length_take]; dsimp only; omega, ?_, hc⟩
  rcases h.own with ⟨g1, g2, g3⟩ | ⟨b, sp, g1, g2, g3⟩
  · exact .inl ⟨g1, by dsimp only; omega, by rw [g3]; simp⟩
  · refine .inr ⟨b, vs.drop (j * n) ++ sp, g1, by rw [← List.append_assoc, List.take_append_drop]; exact g2, ?_⟩
    have := Nat.mul_le_mul_right n hc2
    simp only [List.length_take, List.length_append, List.length_drop]
    omega

/-! ### maps of numbers -/
def entsF : Nat → List Nat → List MapEntry
  | _, [] => []
  | n, d :: ds => { key := .int .i64 (d : Nat), val := .bool true, born := n } :: entsF (n + 1) ds
theorem entsF_len : ∀ (n : Nat) (ds : List Nat), (entsF n ds).length = ds.length
  | _, [] => rfl
  | n, d :: ds => by simp [entsF, entsF_len (n + 1) ds]
theorem entsF_snoc : ∀ (n : Nat) (ds : List Nat) (d : Nat), entsF n (ds ++ [d]) = entsF n ds ++ [{ key := .int .i64 (d : Nat), val := .bool true, born := n + ds.length }]
  | n, [], d => by simp [entsF]
  | n, e :: ds, d => by
    simp only [List.cons_append, entsF, entsF_snoc (n + 1) ds d, List.length_cons]
    congr 4
    omega
theorem entsF_mem : ∀ {n : Nat} {ds : List Nat} {e : MapEntry}, e ∈ entsF n ds → n ≤ e.born ∧ e.born < n + ds.length ∧ e.key = .int .i64 ((ds[e.born - n]! : Nat) : Int)
  | n, d :: ds, e, h => by
    rcases List.mem_cons.1 h with rfl | h
    · refine ⟨Nat.le_refl _, by simp, ?_⟩
      simp
    · obtain ⟨h1, h2, h3⟩ := entsF_mem h
      refine ⟨by omega, by simp only [List.length_cons]; omega, ?_⟩
      rw [h3]
      obtain ⟨q, hq⟩ : ∃ q, e.born - n = q + 1 := ⟨e.born - n - 1, by omega⟩
      rw [hq, show e.born - (n + 1) = q by omega]
      simp
theorem entsF_find : ∀ {n : Nat} {ds : List Nat} {j : Nat}, j < ds.length → (entsF n ds).find? (fun x => x.born == n + j) = some { key := .int .i64 ((ds[j]! : Nat) : Int), val := .bool true, born := n + j }
  | n, d :: ds, 0, _ => by simp [entsF]
  | n, d :: ds, j + 1, h => by
    have hne : (n == n + (j + 1)) = false := beq_eq_false_iff_ne.2 (by omega)
    simp only [entsF, List.find?_cons, hne]
    have := entsF_find (n := n + 1) (ds := ds) (j := j) (by simpa using h)
    rw [show n + (j + 1) = n + 1 + j by omega]
    simpa using this
theorem entsF_findNow {x : Nat} : ∀ {n i : Nat} {ds : List Nat}, Instr.findNow (.int .i64) (.int .i64 (x : Nat)) (entsF n ds) i = some (if x ∈ ds then (Instr.findNow (.int .i64) (.int .i64 (x : Nat)) (entsF n ds) i).getD none else none) ∧
    (x ∈ ds → ∃ j, Instr.findNow (.int .i64) (.int .i64 (x : Nat)) (entsF n ds) i = some (some (j, .bool true)))
  | n, i, [] => by simp [entsF, Instr.findNow]
  | n, i, d :: ds => by
    have hs : Instr.sameNow (.int .i64) (.int .i64 (x : Nat)) (.int .i64 (d : Nat)) = some (((x : Nat) : Int) == (d : Nat)) := by simp [Instr.sameNow]
    unfold entsF Instr.findNow
    dsimp only
    rw [hs]
    by_cases h : x = d
    · subst h; simp
    · have hb : (((x : Nat) : Int) == ((d : Nat) : Int)) = false := beq_eq_false_iff_ne.2 (by omega)
      rw [hb]
      dsimp only
      obtain ⟨h1, h2⟩ := entsF_findNow (x := x) (n := n + 1) (i := i + 1) (ds := ds)
      refine ⟨?_, fun hx => h2 ((List.mem_cons.1 hx).resolve_left h)⟩
      by_cases hx : x ∈ ds
      · rw [if_pos (List.mem_cons.2 (.inr hx))]
        rw [if_pos hx] at h1; exact h1
      · rw [if_neg (fun e => (List.mem_cons.1 e).elim h hx)]
        rw [if_neg hx] at h1; exact h1
/-- A map whose keys are these numbers, as they came. -/
def MapI (H : Heap) (v : Value) (ds : List Nat) : Prop := (v = .map none ∧ ds = []) ∨ ∃ r, v = .map (some r) ∧ H[r]? = some (.map ⟨entsF 0 ds⟩ ds.length)
theorem MapI.upd {M : Nat → Prop} {H H' : Heap} (hu : Upd M H H') {v : Value} {ds : List Nat} (h : MapI H v ds) (hn : ∀ r, v = .map (some r) → ¬ M r) : MapI H' v ds := by
  rcases h with h | ⟨r, h1, h2⟩
  · exact .inl h
  · exact .inr ⟨r, h1, hu.keep h2 (hn r h1)⟩
theorem MapI.ents {H : Heap} {v : Value} {ds : List Nat} (h : MapI H v ds) : MpE H v (entsF 0 ds) := by
  rcases h with ⟨h1, h2⟩ | ⟨r, h1, h2⟩
  · subst h2; exact .inl ⟨h1, rfl⟩
  · exact .inr ⟨r, _, h1, h2⟩
theorem MpN_i {H : Heap} {v : Value} {ds : List Nat} {k : Int → Prop} (h : MapI H v ds) (hk : k (ds.length : Nat)) : MpN v H k := ⟨_, h.ents, by rw [entsF_len]; exact hk⟩
theorem MpL_i {H : Heap} {v : Value} {ds : List Nat} {x : Nat} {k : Bool → Bool → Prop} (h : MapI H v ds) (hk : k (decide (x ∈ ds)) (decide (x ∈ ds))) : MpL (.int .i64) (.c .bool) false v (.int .i64 (x : Nat)) H k := by
  refine ⟨_, h.ents, ?_⟩
  obtain ⟨h1, h2⟩ := entsF_findNow (x := x) (n := 0) (i := 0) (ds := ds)
  by_cases hx : x ∈ ds
  · obtain ⟨j, hj⟩ := h2 hx
    rw [decide_eq_true hx] at hk
    exact .inl ⟨j, true, hj, hk⟩
  · rw [if_neg hx] at h1
    rw [decide_eq_false hx] at hk
    exact .inr ⟨h1, hk⟩
/-- A number that is not there yet. -/
theorem MpU_i {H : Heap} {r : Nat} {ds : List Nat} {x : Nat} {k : Heap → Prop} (h : H[r]? = some (.map ⟨entsF 0 ds⟩ ds.length)) (hx : x ∉ ds) (hk : ∀ H', Upd (· = r) H H' → H'.size = H.size → H'[r]? = some (.map ⟨entsF 0 (ds ++ [x])⟩ (ds ++ [x]).length) → k H') :
    MpU (.int .i64) (.map (some r)) (.int .i64 (x : Nat)) (.bool true) H k := by
  refine ⟨r, _, _, rfl, h, .inr ⟨?_, hk _ ⟨by simp, fun b hb hn => ?_⟩ (by simp) ?_⟩⟩
  · obtain ⟨h1, _⟩ := entsF_findNow (x := x) (n := 0) (i := 0) (ds := ds)
    rw [if_neg hx] at h1; exact h1
  · simp only [Array.getElem?_setIfInBounds]; rw [if_neg (fun e => hn e.symm)]
  · have := lt_of_get h
    simp only [Array.getElem?_setIfInBounds, this, if_true]
    rw [entsF_snoc]
    simp
theorem MkM_i {H : Heap} {k : Value → Heap → Prop} (hk : ∀ r H', r = H.size → Ext H H' → H'.size = H.size + 1 → H'[r]? = some (.map ⟨entsF 0 []⟩ ([] : List Nat).length) → k (.map (some r)) H') : MkM H k :=
  hk _ _ rfl (Upd.push _ _ _) (by simp) (get_push_new _ _)

/-- All numbers of a map, in whatever order. -/
theorem MpRange_i {H : Heap} {v : Value} {ds : List Nat} (hm : MapI H v ds) {M0 : Nat → Prop} (hM : ∀ r, v = .map (some r) → ¬ M0 r) (I : List Nat → Heap → Prop) {DONE : Heap → Prop} {BODY : Int → Heap → (Heap → Prop) → Prop}
    (h0 : ∀ H', Ext H H' → I [] H')
    (hdone : ∀ H' seen, Upd M0 H H' → I seen H' → (∀ d, d ∈ ds → d ∈ seen) → DONE H')
    (hstep : ∀ H' H'' seen, Upd M0 H H' → Upd M0 H H'' → Upd (· = H.size) H' H'' → I seen H' → I seen H'')
    (hbody : ∀ H' seen (d : Nat) (nx : Heap → Prop), Upd M0 H H' → H.size < H'.size → I seen H' → d ∈ ds → d ∉ seen → (∀ H'', Upd M0 H H'' → H'.size ≤ H''.size → H''[H.size]? = H'[H.size]? → I (d :: seen) H'' → nx H'') → BODY (d : Nat) H' nx) (hnd : ds.Nodup) :
    MpR v H fun a H8 => LoopT (σ := Unit) (fun next _ H9 => MpXk a H9 (fun H10 => DONE H10) fun _ _ H11 => MpC a H11 fun x7 _ => AsI .i64 x7 fun n1 => BODY n1 H11 (next ())) () H8 := by
  rcases hm with ⟨rfl, rfl⟩ | ⟨r, rfl, hr⟩
  · refine .inl ⟨rfl, ?_⟩
    have hE : Ext H (H.push (.mapIter none 0 #[] 0)) := Upd.push _ _ _
    refine LoopT.mk (fun _ H' => H.push (.mapIter none 0 #[] 0) = H') (fun _ _ => 0) rfl ?_
    rintro next _ _ rfl _
    refine ⟨rfl, .inl ⟨_, _, _, get_push_new _ _, ?_⟩⟩
    exact hdone _ [] (hE.mono fun _ _ h => h.elim) (h0 _ hE) fun d hd => by cases hd
  · refine .inr ⟨r, _, _, rfl, hr, ?_⟩
    have hE : Ext H (H.push (.mapIter (some r) ds.length #[] ds.length)) := Upd.push _ _ _
    have hrl := lt_of_get hr
    have hM := hM r rfl
    refine LoopT.ghost (fun m _ H' => ∃ (st : List Nat), m = ds.length - st.length ∧ (∀ j ∈ st, j < ds.length) ∧ st.Nodup ∧ Upd M0 H H' ∧ H.size < H'.size ∧ H'[H.size]? = some (.mapIter (some r) ds.length ⟨st.reverse⟩ ds.length) ∧ I (st.map fun j => ds[j]!) H') (ds.length - 0)
      ⟨[], rfl, (fun j hj => by cases hj), List.nodup_nil, hE.mono (fun _ _ h => h.elim), by simp, get_push_new _ _, h0 _ hE⟩ ?_
    rintro next m _ H9 ⟨st, rfl, hst, hnds, hU, hsz, hit, hI⟩ hnext
    have hmap : H9[r]? = some (.map ⟨entsF 0 ds⟩ ds.length) := hU.keep hr hM
    refine ⟨rfl, .inr ⟨r, _, _, _, hit, hmap, fun e he => ?_, fun hall => ?_, fun e he hns => ?_⟩⟩
    · have := (entsF_mem he).2.1; omega
    · refine hdone _ _ hU hI fun d hd => ?_
      obtain ⟨j, hj, rfl⟩ := List.getElem_of_mem hd
      have hfe := List.mem_of_find?_eq_some (entsF_find (n := 0) (ds := ds) (j := j) hj)
      have := hall _ hfe
      simp only [Nat.zero_add, List.contains_toArray, List.contains_eq_mem, List.mem_reverse, decide_eq_true_eq] at this
      exact List.mem_map.2 ⟨j, this, getElem!_pos ds j hj⟩
    · obtain ⟨_, hb, hkey⟩ := entsF_mem he
      rw [Nat.zero_add] at hb
      rw [Nat.sub_zero] at hkey
      have hns' : e.born ∉ st := by simpa using hns
      have hU2 : Upd (· = H.size) H9 (H9.setIfInBounds H.size (.mapIter (some r) ds.length ((⟨st.reverse⟩ : Array Nat).push e.born) ds.length)) :=
        ⟨by simp, fun b hb hn => by simp only [Array.getElem?_setIfInBounds]; rw [if_neg (fun e => hn e.symm)]⟩
      have hU3 : Upd M0 H (H9.setIfInBounds H.size (.mapIter (some r) ds.length ((⟨st.reverse⟩ : Array Nat).push e.born) ds.length)) := hU.trans hU2 fun b hb e => by omega
      have hit2 : (H9.setIfInBounds H.size (.mapIter (some r) ds.length ((⟨st.reverse⟩ : Array Nat).push e.born) ds.length))[H.size]? = some (.mapIter (some r) ds.length ⟨(e.born :: st).reverse⟩ ds.length) := by
        simp only [Array.getElem?_setIfInBounds, hsz, if_true]
        congr 2
        simp
      have hcell : MpC ⟨H.size, 0, none⟩ (H9.setIfInBounds H.size (.mapIter (some r) ds.length ((⟨st.reverse⟩ : Array Nat).push e.born) ds.length)) fun x7 _ => AsI .i64 x7 fun n1 => BODY n1 (H9.setIfInBounds H.size (.mapIter (some r) ds.length ((⟨st.reverse⟩ : Array Nat).push e.born) ds.length)) (next ()) := by
        refine ⟨rfl, r, _, _, _, _, e.born, { key := .int .i64 ((ds[e.born]! : Nat) : Int), val := .bool true, born := e.born }, hit2, hU3.keep hr hM, by simp, ?_, ?_⟩
        · have := entsF_find (n := 0) (ds := ds) (j := e.born) hb
          simpa using this
        · show AsI .i64 (.int .i64 ((ds[e.born]! : Nat) : Int)) _
          unfold AsI
          dsimp only
          rw [if_pos rfl]
          refine hbody _ (st.map fun j => ds[j]!) ds[e.born]! _ hU3 (by simpa using hsz) (hstep _ _ _ hU hU3 hU2 hI) ?_ ?_ fun H'' g1 g2 g3 g4 => ?_
          · rw [getElem!_pos ds _ hb]; exact List.getElem_mem _
          · intro hmem
            obtain ⟨j, hj, hje⟩ := List.mem_map.1 hmem
            have hj2 := hst j hj
            rw [getElem!_pos ds j hj2, getElem!_pos ds _ hb] at hje
            have hjb : j = e.born := (List.getElem_inj hnd).1 hje
            exact hns' (hjb ▸ hj)
          · refine hnext (ds.length - (e.born :: st).length) () H'' ?_ ⟨e.born :: st, rfl, fun j hj => ?_, List.nodup_cons.2 ⟨hns', hnds⟩, g1, ?_, by rw [g3]; exact hit2, g4⟩
            · have hlen : st.length < ds.length := by
                have hsub : (e.born :: st).length ≤ (List.range ds.length).length := by
                  refine (List.nodup_cons.2 ⟨hns', hnds⟩).length_le_of_subset fun j hj => ?_
                  rcases List.mem_cons.1 hj with rfl | hj
                  · exact List.mem_range.2 hb
                  · exact List.mem_range.2 (hst j hj)
                simp only [List.length_cons, List.length_range] at hsub
                omega
              simp only [List.length_cons]
              omega
            · rcases List.mem_cons.1 hj with rfl | hj
              · exact hb
              · exact hst j hj
            · have : H9.size ≤ H''.size := by simpa using g2
              omega
      exact hcell
end Go.Proofs.YtlkmmplgfjicjaaGreat.Hc
/-
  What an instruction takes and puts.
-/
namespace Go.Proofs.YtlkmmplgfjicjaaGreat
set_option linter.unusedVariables false
set_option linter.unusedSimpArgs false
open Go.Proofs.YtlkmmplgfjicjaaGreat.Hc Go.Proofs.YtlkmmplgfjicjaaGreat.Hc.Vf
set_option maxRecDepth 100000

/-- Has it an A? -/
def numB (op : Int) : Bool := [1, 2, 3, 4, 5, 19, 20, 21, 26, 28, 29, 35].contains op
def shp (op : Int) : Bool × Int × Int × Int := if isOpB op then (numB op, (tbl[op.toNat]!).1, (tbl[op.toNat]!).2.1, ((tbl[op.toNat]!).2.2 : Nat)) else (false, 0, 0, 0)
theorem shp_no {op : Int} (h : ¬ (1 ≤ op ∧ op ≤ 39)) : shp op = (false, 0, 0, 0) := by
  unfold shp isOpB; rw [decide_eq_false h]; rfl
theorem extUpd {H H1 H2 : Heap} {b : Nat} (hE : Ext H H1) (hb : H.size ≤ b) (hU : Upd (· = b) H1 H2) : Ext H H2 := hE.trans hU fun c hc e => by omega
theorem shape_put {H : Heap} {b : Nat} {x0 x1 x2 x3 x4 : Value} (hr : Row H b T_code_shape [x0, x1, x2, x3, x4]) {w : ByteArray} {n : Bool} {t p y : Int} {k : ByteArray × Bool × Int × Int × Int → Heap → Prop}
    (hk : ∀ H', Upd (· = b) H H' → Row H' b T_code_shape [.string w, .bool n, .int .i64 t, .int .i64 p, .int .i64 y] → k (w, n, t, p, y) H') :
    St ((adr b).add 0) (.string w) H fun H2 =>
      St ((adr b).add 1) (.bool n) H2 fun H3 =>
      St ((adr b).add 2) (.int .i64 t) H3 fun H4 =>
      St ((adr b).add 3) (.int .i64 p) H4 fun H5 =>
      St ((adr b).add 4) (.int .i64 y) H5 fun H6 =>
      LdC [.str, .bool, (.int .i64), (.int .i64), (.int .i64)] (adr b) H6 fun (c1 : ByteArray × Bool × Int × Int × Int) =>
      k (c1.1, c1.2.1, c1.2.2.1, c1.2.2.2.1, c1.2.2.2.2) H6 := by
  simp only [adr_add]
  refine St_row hr (by simp) fun H2 hU2 _ hr2 => St_row hr2 (by simp) fun H3 hU3 _ hr3 => St_row hr3 (by simp) fun H4 hU4 _ hr4 => St_row hr4 (by simp) fun H5 hU5 _ hr5 => St_row hr5 (by simp) fun H6 hU6 _ hr6 => ?_
  have hU : Upd (· = b) H H6 := (((hU2.trans hU3 fun _ _ h => h).trans hU4 fun _ _ h => h).trans hU5 fun _ _ h => h).trans hU6 fun _ _ h => h
  exact ⟨(w, n, t, p, y), hr6.rd_all, hk H6 hU hr6⟩
theorem beqI {a b : Int} (h : (a == b) = true) : a = b := by simpa using h
theorem bneI {a b : Int} (h : (a == b) = false) : a ≠ b := by simpa using h

theorem s_reckons {op : Int} {H : Heap} (hop : op < 19) {k : ByteArray × Bool × Int × Int × Int → Heap → Prop} (hk : ∀ H' w, Ext H H' → k (w, (shp op).1, (shp op).2.1, (shp op).2.2.1, (shp op).2.2.2) H') : CallT Pg f_code_reckons [.int .i64 op] (.one (.agg [.str, .bool, (.int .i64), (.int .i64), (.int .i64)])) H k := by
  refine c_code_reckons _ ?_
  unfold v_code_reckons
  refine Nw_row (vs := [.string ByteArray.empty, .bool false, .int .i64 0, .int .i64 0, .int .i64 0]) fun b1 H1 hb hE _ hr => ?_
  refine Br.mk (fun h => ?_) fun h1 => ?_
  · have h := beqI h; subst h; exact shape_put hr fun H' hU _ => hk H' _ (extUpd hE (by omega) hU)
  refine Br.mk (fun h => ?_) fun h2 => ?_
  · have h := beqI h; subst h; exact shape_put hr fun H' hU _ => hk H' _ (extUpd hE (by omega) hU)
  refine Br.mk (fun h => ?_) fun h3 => ?_
  · have h := beqI h; subst h; exact shape_put hr fun H' hU _ => hk H' _ (extUpd hE (by omega) hU)
  refine Br.mk (fun h => ?_) fun h4 => ?_
  · have h := beqI h; subst h; exact shape_put hr fun H' hU _ => hk H' _ (extUpd hE (by omega) hU)
  refine Br.mk (fun h => ?_) fun h5 => ?_
  · have h := beqI h; subst h; exact shape_put hr fun H' hU _ => hk H' _ (extUpd hE (by omega) hU)
  refine Br.mk (fun h => ?_) fun h6 => ?_
  · have h := beqI h; subst h; exact shape_put hr fun H' hU _ => hk H' _ (extUpd hE (by omega) hU)
  refine Br.mk (fun h => ?_) fun h7 => ?_
  · have h := beqI h; subst h; exact shape_put hr fun H' hU _ => hk H' _ (extUpd hE (by omega) hU)
  refine Br.mk (fun h => ?_) fun h8 => ?_
  · have h := beqI h; subst h; exact shape_put hr fun H' hU _ => hk H' _ (extUpd hE (by omega) hU)
  refine Br.mk (fun h => ?_) fun h9 => ?_
  · have h := beqI h; subst h; exact shape_put hr fun H' hU _ => hk H' _ (extUpd hE (by omega) hU)
  refine Br.mk (fun h => ?_) fun h10 => ?_
  · have h := beqI h; subst h; exact shape_put hr fun H' hU _ => hk H' _ (extUpd hE (by omega) hU)
  refine Br.mk (fun h => ?_) fun h11 => ?_
  · have h := beqI h; subst h; exact shape_put hr fun H' hU _ => hk H' _ (extUpd hE (by omega) hU)
  refine Br.mk (fun h => ?_) fun h12 => ?_
  · have h := beqI h; subst h; exact shape_put hr fun H' hU _ => hk H' _ (extUpd hE (by omega) hU)
  refine Br.mk (fun h => ?_) fun h13 => ?_
  · have h := beqI h; subst h; exact shape_put hr fun H' hU _ => hk H' _ (extUpd hE (by omega) hU)
  refine Br.mk (fun h => ?_) fun h14 => ?_
  · have h := beqI h; subst h; exact shape_put hr fun H' hU _ => hk H' _ (extUpd hE (by omega) hU)
  refine Br.mk (fun h => ?_) fun h15 => ?_
  · have h := beqI h; subst h; exact shape_put hr fun H' hU _ => hk H' _ (extUpd hE (by omega) hU)
  refine Br.mk (fun h => ?_) fun h16 => ?_
  · have h := beqI h; subst h; exact shape_put hr fun H' hU _ => hk H' _ (extUpd hE (by omega) hU)
  refine Br.mk (fun h => ?_) fun h17 => ?_
  · have h := beqI h; subst h; exact shape_put hr fun H' hU _ => hk H' _ (extUpd hE (by omega) hU)
  refine Br.mk (fun h => ?_) fun h18 => ?_
  · have h := beqI h; subst h; exact shape_put hr fun H' hU _ => hk H' _ (extUpd hE (by omega) hU)
  refine shape_put hr fun H' hU _ => ?_
  have hk := hk H' ByteArray.empty (extUpd hE (by omega) hU)
  have h1 := bneI h1
  have h2 := bneI h2
  have h3 := bneI h3
  have h4 := bneI h4
  have h5 := bneI h5
  have h6 := bneI h6
  have h7 := bneI h7
  have h8 := bneI h8
  have h9 := bneI h9
  have h10 := bneI h10
  have h11 := bneI h11
  have h12 := bneI h12
  have h13 := bneI h13
  have h14 := bneI h14
  have h15 := bneI h15
  have h16 := bneI h16
  have h17 := bneI h17
  have h18 := bneI h18
  rw [shp_no (by omega)] at hk
  exact hk
theorem s_acts {op : Int} {H : Heap} (hop : ¬ op < 19) {k : ByteArray × Bool × Int × Int × Int → Heap → Prop} (hk : ∀ H' w, Ext H H' → k (w, (shp op).1, (shp op).2.1, (shp op).2.2.1, (shp op).2.2.2) H') : CallT Pg f_code_acts [.int .i64 op] (.one (.agg [.str, .bool, (.int .i64), (.int .i64), (.int .i64)])) H k := by
  refine c_code_acts _ ?_
  unfold v_code_acts
  refine Nw_row (vs := [.string ByteArray.empty, .bool false, .int .i64 0, .int .i64 0, .int .i64 0]) fun b1 H1 hb hE _ hr => ?_
  refine Br.mk (fun h => ?_) fun h19 => ?_
  · have h := beqI h; subst h; exact shape_put hr fun H' hU _ => hk H' _ (extUpd hE (by omega) hU)
  refine Br.mk (fun h => ?_) fun h20 => ?_
  · have h := beqI h; subst h; exact shape_put hr fun H' hU _ => hk H' _ (extUpd hE (by omega) hU)
  refine Br.mk (fun h => ?_) fun h21 => ?_
  · have h := beqI h; subst h; exact shape_put hr fun H' hU _ => hk H' _ (extUpd hE (by omega) hU)
  refine Br.mk (fun h => ?_) fun h22 => ?_
  · have h := beqI h; subst h; exact shape_put hr fun H' hU _ => hk H' _ (extUpd hE (by omega) hU)
  refine Br.mk (fun h => ?_) fun h23 => ?_
  · have h := beqI h; subst h; exact shape_put hr fun H' hU _ => hk H' _ (extUpd hE (by omega) hU)
  refine Br.mk (fun h => ?_) fun h24 => ?_
  · have h := beqI h; subst h; exact shape_put hr fun H' hU _ => hk H' _ (extUpd hE (by omega) hU)
  refine Br.mk (fun h => ?_) fun h25 => ?_
  · have h := beqI h; subst h; exact shape_put hr fun H' hU _ => hk H' _ (extUpd hE (by omega) hU)
  refine Br.mk (fun h => ?_) fun h26 => ?_
  · have h := beqI h; subst h; exact shape_put hr fun H' hU _ => hk H' _ (extUpd hE (by omega) hU)
  refine Br.mk (fun h => ?_) fun h27 => ?_
  · have h := beqI h; subst h; exact shape_put hr fun H' hU _ => hk H' _ (extUpd hE (by omega) hU)
  refine Br.mk (fun h => ?_) fun h28 => ?_
  · have h := beqI h; subst h; exact shape_put hr fun H' hU _ => hk H' _ (extUpd hE (by omega) hU)
  refine Br.mk (fun h => ?_) fun h29 => ?_
  · have h := beqI h; subst h; exact shape_put hr fun H' hU _ => hk H' _ (extUpd hE (by omega) hU)
  refine Br.mk (fun h => ?_) fun h30 => ?_
  · have h := beqI h; subst h; exact shape_put hr fun H' hU _ => hk H' _ (extUpd hE (by omega) hU)
  refine Br.mk (fun h => ?_) fun h31 => ?_
  · have h := beqI h; subst h; exact shape_put hr fun H' hU _ => hk H' _ (extUpd hE (by omega) hU)
  refine Br.mk (fun h => ?_) fun h32 => ?_
  · have h := beqI h; subst h; exact shape_put hr fun H' hU _ => hk H' _ (extUpd hE (by omega) hU)
  refine Br.mk (fun h => ?_) fun h33 => ?_
  · have h := beqI h; subst h; exact shape_put hr fun H' hU _ => hk H' _ (extUpd hE (by omega) hU)
  refine Br.mk (fun h => ?_) fun h34 => ?_
  · have h := beqI h; subst h; exact shape_put hr fun H' hU _ => hk H' _ (extUpd hE (by omega) hU)
  refine Br.mk (fun h => ?_) fun h35 => ?_
  · have h := beqI h; subst h; exact shape_put hr fun H' hU _ => hk H' _ (extUpd hE (by omega) hU)
  refine Br.mk (fun h => ?_) fun h36 => ?_
  · have h := beqI h; subst h; exact shape_put hr fun H' hU _ => hk H' _ (extUpd hE (by omega) hU)
  refine Br.mk (fun h => ?_) fun h37 => ?_
  · have h := beqI h; subst h; exact shape_put hr fun H' hU _ => hk H' _ (extUpd hE (by omega) hU)
  refine Br.mk (fun h => ?_) fun h38 => ?_
  · have h := beqI h; subst h; exact shape_put hr fun H' hU _ => hk H' _ (extUpd hE (by omega) hU)
  refine Br.mk (fun h => ?_) fun h39 => ?_
  · have h := beqI h; subst h; exact shape_put hr fun H' hU _ => hk H' _ (extUpd hE (by omega) hU)
  refine shape_put hr fun H' hU _ => ?_
  have hk := hk H' ByteArray.empty (extUpd hE (by omega) hU)
  have h19 := bneI h19
  have h20 := bneI h20
  have h21 := bneI h21
  have h22 := bneI h22
  have h23 := bneI h23
  have h24 := bneI h24
  have h25 := bneI h25
  have h26 := bneI h26
  have h27 := bneI h27
  have h28 := bneI h28
  have h29 := bneI h29
  have h30 := bneI h30
  have h31 := bneI h31
  have h32 := bneI h32
  have h33 := bneI h33
  have h34 := bneI h34
  have h35 := bneI h35
  have h36 := bneI h36
  have h37 := bneI h37
  have h38 := bneI h38
  have h39 := bneI h39
  rw [shp_no (by omega)] at hk
  exact hk
theorem s_shapeOf {op : Int} {H : Heap} {k : ByteArray × Bool × Int × Int × Int → Heap → Prop} (hk : ∀ H' w, Ext H H' → k (w, (shp op).1, (shp op).2.1, (shp op).2.2.1, (shp op).2.2.2) H') : CallT Pg f_code_shapeOf [.int .i64 op] (.one (.agg [.str, .bool, (.int .i64), (.int .i64), (.int .i64)])) H k := by
  refine c_code_shapeOf _ ?_
  unfold v_code_shapeOf
  refine Nw_row (vs := [.string ByteArray.empty, .bool false, .int .i64 0, .int .i64 0, .int .i64 0]) fun b1 H1 hb hE _ hr => ?_
  refine Br_dec (fun h => s_reckons h fun H2 w hE2 => ?_) fun h => s_acts h fun H2 w hE2 => ?_
  all_goals
    have hE' := hE.trans hE2 fun _ _ h => h
    exact shape_put (hE2.row hr fun h => h) fun H' hU _ => hk H' _ (extUpd hE' (by omega) hU)
theorem s_isOp {op : Int} {H : Heap} {k : Bool → Heap → Prop} (hk : k (isOpB op) H) : CallT Pg f_code_isOp [.int .i64 op] (.one (.c .bool)) H k := by
  refine c_code_isOp _ ?_
  unfold v_code_isOp
  refine Jn.mk (fun j H' => H = H' ∧ j = isOpB op) (fun kk hkk => ?_) (by rintro j _ ⟨rfl, rfl⟩; exact hk)
  refine Br_dec (fun h => hkk _ _ ⟨rfl, ?_⟩) fun h => hkk _ _ ⟨rfl, ?_⟩
  · exact decide_eq_decide.2 (by omega)
  · exact (decide_eq_false (by omega)).symm
theorem s_rIsOp {op : Int} {H : Heap} {k : Bool → Heap → Prop} (hk : k (isOpB op) H) : CallT Pg f_hindcastref13_IsOp [.int .i64 op] (.one (.c .bool)) H k := by
  refine c_hindcastref13_IsOp _ ?_
  unfold v_hindcastref13_IsOp
  refine Jn.mk (fun j H' => H = H' ∧ j = isOpB op) (fun kk hkk => ?_) (by rintro j _ ⟨rfl, rfl⟩; exact hk)
  refine Br_dec (fun h => hkk _ _ ⟨rfl, ?_⟩) fun h => hkk _ _ ⟨rfl, ?_⟩
  · exact decide_eq_decide.2 (by omega)
  · exact (decide_eq_false (by omega)).symm
end Go.Proofs.YtlkmmplgfjicjaaGreat
/-
  What an instruction takes and puts: of a program's routines.
-/
namespace Go.Proofs.YtlkmmplgfjicjaaGreat
set_option linter.unusedVariables false
set_option linter.unusedSimpArgs false
open Go.Proofs.YtlkmmplgfjicjaaGreat.Hc Go.Proofs.YtlkmmplgfjicjaaGreat.Hc.Vf
set_option maxRecDepth 100000

/-- A routine as it lies in memory, and its code. -/
structure Rou where
  name : ByteArray
  params : Int
  locals : Int
  sl : Sl
  code : List Ins
instance : Inhabited Sl := ⟨⟨none, 0, 0⟩⟩
instance : Inhabited Rou := ⟨⟨ByteArray.empty, 0, 0, ⟨none, 0, 0⟩, []⟩⟩
abbrev rouV (r : Rou) : List Value := [.string r.name, .int .i64 r.params, .int .i64 r.locals, slV r.sl]
abbrev insV (i : Ins) : List Value := [.int .i64 i.1, .int .i64 i.2]
theorem rouV_len (r : Rou) : (rouV r).length = 4 := rfl
theorem insV_len (i : Ins) : (insV i).length = 2 := rfl
abbrev parms (fs : List Rou) : List Int := fs.map (·.params)
theorem Br_not {x : Bool} {X Y : Prop} (h : Br x Y X) : Br (!x) X Y := by cases x <;> exact h
theorem parms_get {fs : List Rou} {j : Nat} (h : j < fs.length) : (parms fs)[j]! = (fs[j]!).params := by
  rw [getElem!_pos (parms fs) j (by simpa using h), getElem!_pos fs j h]; simp
theorem s_Effect {H : Heap} {i : Ins} {funcs : Sl} {fs : List Rou} (hf : RN rouV 4 H funcs fs) {k : Int × Int → Heap → Prop} (hk : ∀ H', Ext H H' → k (takes (parms fs) i, puts i) H') :
    CallT Pg f_code_Effect [.agg #[.int .i64 i.1, .int .i64 i.2], .slice funcs.a funcs.len funcs.cap] (.tup [(.c (.int .i64)), (.c (.int .i64))]) H k := by
  refine c_code_Effect _ _ ?_
  unfold v_code_Effect
  refine Nw_row (vs := insV i) fun b1 H1 hb1 hE1 hz1 hr1 => ?_
  simp only [adr_add]
  refine Ld_int ((hr1.cell 0).trans rfl) (s_isOp (Br_not (Br.mk (fun hop => ?_) fun hop => ?_)))
  · refine Ld_int ((hr1.cell 0).trans rfl) (s_shapeOf fun H3 w hE3 => ?_)
    have hE3' := hE1.trans hE3 fun _ _ h => h
    refine Nw_row (vs := [.string ByteArray.empty, .bool false, .int .i64 0, .int .i64 0, .int .i64 0]) fun b2 H4 hb2 hE4 hz4 hr4 => ?_
    refine St_row hr4 (by simp) fun H5 hU5 _ hr5 => St_row hr5 (by simp) fun H6 hU6 _ hr6 => St_row hr6 (by simp) fun H7 hU7 _ hr7 => St_row hr7 (by simp) fun H8 hU8 _ hr8 => St_row hr8 (by simp) fun H9 hU9 _ hr9 => ?_
    have z3 := hE3'.size
    have hU : Upd (· = b2) H4 H9 := (((hU5.trans hU6 fun _ _ h => h).trans hU7 fun _ _ h => h).trans hU8 fun _ _ h => h).trans hU9 fun _ _ h => h
    have hE9 : Ext H H9 := extUpd (hE3'.trans hE4 fun _ _ h => h) (by omega) hU
    have hshp : shp i.1 = (numB i.1, (tbl[i.1.toNat]!).1, (tbl[i.1.toNat]!).2.1, (((tbl[i.1.toNat]!).2.2 : Nat) : Int)) := by unfold shp; rw [if_pos hop]
    rw [hshp] at hr9
    dsimp only at hr9
    have hI : Row H9 b1 T_api_Instr (insV i) := hU.row (hE4.row (hE3.row hr1 fun h => h) fun h => h) (by have := hr1.lt; have := hE3.size; omega)
    have hfx := (hf.ext hE9)
    have hx1 : hcell H9 ⟨b1, 1, none⟩ = some (.int .i64 i.2) := (hI.cell 1).trans rfl
    have hy4 : hcell H9 ⟨b2, 4, none⟩ = some (.int .i64 ((tbl[i.1.toNat]!).2.2 : Nat)) := (hr9.cell 4).trans rfl
    have htk : takes (parms fs) i = (if (tbl[i.1.toNat]!).2.2 = 1 then (if 0 ≤ i.2 ∧ i.2 < (parms fs).length then max ((parms fs)[i.2.toNat]!) 0 else 0)
     else if (tbl[i.1.toNat]!).2.2 = 2 then (if 0 ≤ i.2 then i.2 % 8 else 0)
     else (tbl[i.1.toNat]!).1) := by unfold takes; rw [if_pos hop]
    have hpt : puts i = (tbl[i.1.toNat]!).2.1 := by unfold puts; rw [if_pos hop]
    have hby : ∀ r ∈ tbl, r.2.2 = 1 ∨ r.2.2 = 2 → r.1 = 0 := by decide
    have hby0 := hby _ (tbl_get hop)
    generalize tbl[i.1.toNat]! = row at *
    rw [List.length_map] at htk
    refine Jn.mk (fun _ H' => Upd (· = b2) H9 H' ∧ hcell H' ⟨b2, 2, none⟩ = some (.int .i64 (takes (parms fs) i)) ∧ hcell H' ⟨b2, 3, none⟩ = some (.int .i64 (puts i))) (fun kk hkk => ?_) ?_
    · have hsame : takes (parms fs) i = row.1 → kk () H9 := fun e => hkk _ _ ⟨.refl _ _, by rw [e]; exact (hr9.cell 2).trans rfl, by rw [hpt]; exact (hr9.cell 3).trans rfl⟩
      have hput : ∀ x, takes (parms fs) i = x → St ⟨b2, 2, none⟩ (.int .i64 x) H9 fun H13 => kk () H13 := fun x e => St_row hr9 (by simp) fun H13 hU13 _ hr13 => hkk _ _ ⟨hU13, by rw [e]; exact (hr13.cell 2).trans rfl, by rw [hpt]; exact (hr13.cell 3).trans rfl⟩
      refine Jn.mk (fun j H' => H9 = H' ∧ j = decide (row.2.2 = 1 ∧ 0 ≤ i.2 ∧ i.2 < funcs.len)) (fun kk2 hkk2 => ?_) ?_
      · refine Ld_int hy4 (Br.mk (fun h => ?_) fun h => hkk2 _ _ ⟨rfl, ?_⟩)
        · have h := beqI h
          refine Ld_int hx1 (Br_dec (fun h2 => Ld_int hx1 (hkk2 _ _ ⟨rfl, ?_⟩)) fun h2 => hkk2 _ _ ⟨rfl, (decide_eq_false (by omega)).symm⟩)
          exact decide_eq_decide.2 (by omega)
        · have h := bneI h
          exact (decide_eq_false (by omega)).symm
      rintro j _ ⟨rfl, rfl⟩
      refine Jn_in (Br_dec (fun h => ?_) fun h => ?_)
      · obtain ⟨h1, h2, h3⟩ := h
        rw [hf.len] at h3
        have hj : i.2.toNat < fs.length := by omega
        refine Ld_int hx1 (IxA_rn' rouV_len hfx (by omega) (j := i.2.toNat) (by omega) hj fun a ha => Ld_int (n := (fs[i.2.toNat]!).params) ha.2.1 (hput _ ?_))
        rw [htk, if_pos h1, if_pos ⟨h2, by omega⟩, parms_get hj]
        split <;> omega
      · refine Jn.mk (fun j H' => H9 = H' ∧ j = decide (row.2.2 = 2 ∧ 0 ≤ i.2)) (fun kk4 hkk4 => ?_) ?_
        · refine Ld_int hy4 (Br.mk (fun h => ?_) fun h => hkk4 _ _ ⟨rfl, ?_⟩)
          · have h := beqI h
            exact Ld_int hx1 (hkk4 _ _ ⟨rfl, decide_eq_decide.2 (by omega)⟩)
          · have h := bneI h
            exact (decide_eq_false (by omega)).symm
        rintro j _ ⟨rfl, rfl⟩
        refine Jn_in (Br_dec (fun h5 => ?_) fun h5 => hsame ?_)
        · refine Ld_int hx1 ⟨by decide, ?_⟩
          rw [Int.tmod_eq_emod_of_nonneg h5.2]
          refine hput _ ?_
          rw [htk, if_neg (by omega), if_pos h5.1, if_pos h5.2]
        · rw [htk]
          rw [hf.len] at h
          by_cases e1 : row.2.2 = 1
          · rw [if_pos e1, if_neg (by omega), hby0 (.inl e1)]
          · rw [if_neg e1]
            by_cases e2 : row.2.2 = 2
            · rw [if_pos e2, if_neg (by omega), hby0 (.inr e2)]
            · rw [if_neg e2]
    · rintro _ H10 ⟨hU10, h2, h3⟩
      exact Ld_int h2 (Ld_int h3 (hk _ (extUpd hE9 (by omega) hU10)))
  · have h1 : takes (parms fs) i = 0 := by unfold takes; rw [if_neg (by rw [hop]; simp)]
    have h2 : puts i = 0 := by unfold puts; rw [if_neg (by rw [hop]; simp)]
    have := hk H1 hE1
    rwa [h1, h2] at this
def refL : List (ByteArray × Bool × Int × Int) :=
  [(⟨⟨[]⟩⟩, false, 0, 0), (⟨⟨[112, 117, 115, 104]⟩⟩, true, 0, 1), (⟨⟨[108, 111, 97, 100]⟩⟩, true, 0, 1), (⟨⟨[115, 116, 111, 114, 101]⟩⟩, true, 1, 0), (⟨⟨[102, 105, 101, 108, 100]⟩⟩, true, 0, 1), (⟨⟨[112, 117, 116]⟩⟩, true, 1, 0), (⟨⟨[97, 100, 100]⟩⟩, false, 2, 1), (⟨⟨[115, 117, 98]⟩⟩, false, 2, 1), (⟨⟨[109, 117, 108]⟩⟩, false, 2, 1), (⟨⟨[100, 105, 118]⟩⟩, false, 2, 1), (⟨⟨[114, 101, 109]⟩⟩, false, 2, 1), (⟨⟨[110, 101, 103]⟩⟩, false, 1, 1), (⟨⟨[101, 113]⟩⟩, false, 2, 1), (⟨⟨[110, 101]⟩⟩, false, 2, 1), (⟨⟨[108, 116]⟩⟩, false, 2, 1), (⟨⟨[108, 101]⟩⟩, false, 2, 1), (⟨⟨[103, 116]⟩⟩, false, 2, 1), (⟨⟨[103, 101]⟩⟩, false, 2, 1), (⟨⟨[110, 111, 116]⟩⟩, false, 1, 1), (⟨⟨[106, 117, 109, 112]⟩⟩, true, 0, 0), (⟨⟨[122, 101, 114, 111]⟩⟩, true, 1, 0), (⟨⟨[99, 97, 108, 108]⟩⟩, true, (-1), 1), (⟨⟨[114, 101, 116]⟩⟩, false, 1, 0), (⟨⟨[115, 116, 111, 112]⟩⟩, false, 0, 0), (⟨⟨[115, 116, 101, 112]⟩⟩, false, 0, 0), (⟨⟨[101, 109, 105, 116]⟩⟩, false, 2, 0), (⟨⟨[112, 97, 114, 116]⟩⟩, true, (-2), 0), (⟨⟨[115, 112, 97, 119, 110]⟩⟩, false, 0, 0), (⟨⟨[103, 105, 118, 101]⟩⟩, true, (-2), 0), (⟨⟨[116, 97, 107, 101]⟩⟩, true, 0, 0), (⟨⟨[100, 105, 101]⟩⟩, false, 0, 0), (⟨⟨[114, 97, 110, 100]⟩⟩, false, 1, 1), (⟨⟨[116, 105, 99, 107]⟩⟩, false, 0, 1), (⟨⟨[109, 101]⟩⟩, false, 0, 1), (⟨⟨[105, 110, 112, 117, 116]⟩⟩, false, 2, 1), (⟨⟨[104, 97, 115]⟩⟩, true, 0, 1), (⟨⟨[109, 105, 110]⟩⟩, false, 2, 1), (⟨⟨[109, 97, 120]⟩⟩, false, 2, 1), (⟨⟨[97, 98, 115]⟩⟩, false, 1, 1), (⟨⟨[100, 114, 111, 112]⟩⟩, false, 1, 0)]
abbrev refV (r : ByteArray × Bool × Int × Int) : List Value := [.string r.1, .bool r.2.1, .int .i64 r.2.2.1, .int .i64 r.2.2.2]
theorem refV_len (r : ByteArray × Bool × Int × Int) : (refV r).length = 4 := rfl
theorem ref_ok : ∀ n : Nat, n < 40 → (refL[n]!).2.2 = (if (tbl[n]!).2.2 = 1 then -1 else if (tbl[n]!).2.2 = 2 then -2 else (tbl[n]!).1, (tbl[n]!).2.1) := by decide
theorem ref_num : ∀ n : Nat, n < 40 → (refL[n]!).2.1 = numB n := by decide
theorem s_table {H : Heap} {k : Sl → Heap → Prop} (hk : ∀ r H', Ext H H' → RN refV 4 H' r refL → k r H') : CallT Pg f_hindcastref13_table [] (.one (.c .sl)) H k := by
  refine c_hindcastref13_table ?_
  unfold v_hindcastref13_table
  refine Nw_row (vs := refL.flatMap refV) fun b H1 hb hE _ hr => hk _ _ hE ⟨?_, rfl, Nat.le_refl _⟩
  exact hr.rd_all
theorem s_rEffect {H : Heap} {i : Ins} {funcs : Sl} {fs : List Rou} (hf : RN rouV 4 H funcs fs) {k : Int × Int → Heap → Prop} (hk : ∀ H', Ext H H' → k (takes (parms fs) i, puts i) H') :
    CallT Pg f_hindcastref13_Effect [.agg #[.int .i64 i.1, .int .i64 i.2], .slice funcs.a funcs.len funcs.cap] (.tup [(.c (.int .i64)), (.c (.int .i64))]) H k := by
  refine c_hindcastref13_Effect _ _ ?_
  unfold v_hindcastref13_Effect
  refine Nw_row (vs := insV i) fun b1 H1 hb1 hE1 hz1 hr1 => ?_
  simp only [adr_add]
  refine Ld_int ((hr1.cell 0).trans rfl) (s_rIsOp (Br_not (Br.mk (fun hop => ?_) fun hop => ?_)))
  · refine Ld_int ((hr1.cell 0).trans rfl) ?_
    have hop2 : 1 ≤ i.1 ∧ i.1 ≤ 39 := of_decide_eq_true hop
    have hn : i.1.toNat < 40 := by omega
    have hro := ref_ok _ hn
    have htk : takes (parms fs) i = (if (tbl[i.1.toNat]!).2.2 = 1 then (if 0 ≤ i.2 ∧ i.2 < (parms fs).length then max ((parms fs)[i.2.toNat]!) 0 else 0)
     else if (tbl[i.1.toNat]!).2.2 = 2 then (if 0 ≤ i.2 then i.2 % 8 else 0)
     else (tbl[i.1.toNat]!).1) := by unfold takes; rw [if_pos hop]
    have hpt : puts i = (tbl[i.1.toNat]!).2.1 := by unfold puts; rw [if_pos hop]
    have hbd := tbl_bd _ (tbl_get hop)
    generalize tbl[i.1.toNat]! = row at *
    rw [List.length_map] at htk
    generalize hrr : refL[i.1.toNat]! = rr at *
    obtain ⟨w, na, t', p'⟩ := rr
    dsimp only at hro
    simp only [Prod.mk.injEq] at hro
    obtain ⟨ht', hp'⟩ := hro
    -- behind the table
    have tail : ∀ (H8 : Heap) (b2 : Nat), Ext H H8 → Row H8 b1 T_api_Instr (insV i) → Row H8 b2 T_hindcastref13_row [.string w, .bool na, .int .i64 t', .int .i64 p'] →
        Ld (.int .i64) ⟨b2, 2, none⟩ H8 fun (x3 : Int) =>
        Br (x3 == (-1)) (
          Jn (σ := Bool) (fun kk1 =>
            Ld (.int .i64) ⟨b1, 1, none⟩ H8 fun (x4 : Int) =>
            Br (decide (x4 < 0)) (
              kk1 true H8) (
              Ld (.int .i64) ⟨b1, 1, none⟩ H8 fun (x5 : Int) =>
              Br (decide (x5 ≥ (funcs.len : Int))) (
                kk1 true H8) (
                Ld (.int .i64) ⟨b1, 1, none⟩ H8 fun (x6 : Int) =>
                IxA 4 funcs x6 fun a2 =>
                Ld (.int .i64) (a2.add 1) H8 fun (x7 : Int) =>
                kk1 (decide (x7 < 0)) H8))) fun j1 H9 =>
          Br j1 (
            Ld (.int .i64) ⟨b2, 3, none⟩ H9 fun (x8 : Int) =>
            k (0, x8) H9) (
            Ld (.int .i64) ⟨b1, 1, none⟩ H9 fun (x9 : Int) =>
            IxA 4 funcs x9 fun a3 =>
            Ld (.int .i64) (a3.add 1) H9 fun (x10 : Int) =>
            Ld (.int .i64) ⟨b2, 3, none⟩ H9 fun (x11 : Int) =>
            k (x10, x11) H9)) (
          Ld (.int .i64) ⟨b2, 2, none⟩ H8 fun (x12 : Int) =>
          Br (x12 == (-2)) (
            Ld (.int .i64) ⟨b1, 1, none⟩ H8 fun (x13 : Int) =>
            Br (decide (x13 < 0)) (
              Ld (.int .i64) ⟨b2, 3, none⟩ H8 fun (x14 : Int) =>
              k (0, x14) H8) (
              Ld (.int .i64) ⟨b1, 1, none⟩ H8 fun (x15 : Int) =>
              Rem x15 8 fun t1 =>
              Ld (.int .i64) ⟨b2, 3, none⟩ H8 fun (x16 : Int) =>
              k (t1, x16) H8)) (
            Ld (.int .i64) ⟨b2, 2, none⟩ H8 fun (x17 : Int) =>
            Ld (.int .i64) ⟨b2, 3, none⟩ H8 fun (x18 : Int) =>
            k (x17, x18) H8)) := by
      intro H8 b2 hE8 hI hr8
      have hfx := hf.ext hE8
      have hx1 : hcell H8 ⟨b1, 1, none⟩ = some (.int .i64 i.2) := (hI.cell 1).trans rfl
      have hy2 : hcell H8 ⟨b2, 2, none⟩ = some (.int .i64 t') := (hr8.cell 2).trans rfl
      have hy3 : hcell H8 ⟨b2, 3, none⟩ = some (.int .i64 p') := (hr8.cell 3).trans rfl
      have hk8 := hk H8 hE8
      rw [hpt, ← hp'] at hk8
      refine Ld_int hy2 (Br.mk (fun h => ?_) fun h => ?_)
      · have h := beqI h
        have e1 : row.2.2 = 1 := by
          by_cases e : row.2.2 = 1
          · exact e
          · rw [if_neg e] at ht'
            split at ht' <;> omega
        rw [htk, if_pos e1] at hk8
        refine Jn.mk (fun j H' => H8 = H' ∧ j = decide (¬ (0 ≤ i.2 ∧ i.2 < fs.length ∧ 0 ≤ (fs[i.2.toNat]!).params))) (fun kk hkk => ?_) ?_
        · have hfl := hf.len
          refine Ld_int hx1 (Br_dec (fun h1 => hkk _ _ ⟨rfl, (decide_eq_true (by omega)).symm⟩) fun h1 => Ld_int hx1 (Br_dec (fun h2 => hkk _ _ ⟨rfl, (decide_eq_true (by omega)).symm⟩) fun h2 => ?_))
          refine Ld_int hx1 (IxA_rn' rouV_len hfx (by omega) (j := i.2.toNat) (by omega) (by omega) fun a ha => Ld_int (n := (fs[i.2.toNat]!).params) ha.2.1 (hkk _ _ ⟨rfl, ?_⟩))
          exact decide_eq_decide.2 (by omega)
        rintro j _ ⟨rfl, rfl⟩
        refine Br_dec (fun h1 => Ld_int hy3 ?_) fun h1 => ?_
        · have : (if 0 ≤ i.2 ∧ i.2 < (fs.length : Int) then max (parms fs)[i.2.toNat]! 0 else 0) = 0 := by
            split
            · rename_i h2
              rw [parms_get (by omega)]
              omega
            · rfl
          rw [this] at hk8; exact hk8
        · have h1 : 0 ≤ i.2 ∧ i.2 < (fs.length : Int) ∧ 0 ≤ (fs[i.2.toNat]!).params := Classical.byContradiction h1
          refine Ld_int hx1 (IxA_rn' rouV_len hfx (by omega) (j := i.2.toNat) (by omega) (by omega) fun a ha => Ld_int (n := (fs[i.2.toNat]!).params) ha.2.1 (Ld_int hy3 ?_))
          rw [if_pos ⟨h1.1, h1.2.1⟩, parms_get (by omega), Int.max_eq_left h1.2.2] at hk8
          exact hk8
      · have h := bneI h
        have e1 : row.2.2 ≠ 1 := fun e => by rw [if_pos e] at ht'; exact h ht'
        rw [if_neg e1] at ht'
        rw [htk, if_neg e1] at hk8
        refine Ld_int hy2 (Br.mk (fun h3 => ?_) fun h3 => ?_)
        · have h3 := beqI h3
          have e2 : row.2.2 = 2 := by
            by_cases e : row.2.2 = 2
            · exact e
            · rw [if_neg e] at ht'; omega
          rw [if_pos e2] at hk8
          refine Ld_int hx1 (Br_dec (fun h4 => Ld_int hy3 ?_) fun h4 => Ld_int hx1 ⟨by decide, Ld_int hy3 ?_⟩)
          · rw [if_neg (by omega)] at hk8; exact hk8
          · rw [if_pos (by omega)] at hk8
            rw [Int.tmod_eq_emod_of_nonneg (by omega)]; exact hk8
        · have h3 := bneI h3
          have e2 : row.2.2 ≠ 2 := fun e => by rw [if_pos e] at ht'; exact h3 ht'
          rw [if_neg e2] at ht' hk8
          refine Ld_int hy2 (Ld_int hy3 ?_)
          rw [ht']; exact hk8
    refine ⟨s_table fun r2 H3 hE3 hT => ?_, Nw_row (vs := [.string ByteArray.empty, .bool false, .int .i64 0, .int .i64 0]) fun b3 H10 hb3 hE10 hz10 hr10 => ?_, trivial⟩
    · have hI3 := hE3.row hr1 fun h => h
      have hE3' := hE1.trans hE3 fun _ _ h => h
      refine Stab_1 ((hI3.cell 0).trans rfl) (IxA_rn' refV_len hT (by omega) (j := i.1.toNat) (by omega) hn fun a ha => ?_)
      rw [hrr] at ha
      refine ⟨(w, na, t', p'), ha, Nw_row (vs := [.string ByteArray.empty, .bool false, .int .i64 0, .int .i64 0]) fun b2 H4 hb2 hE4 hz4 hr4 => ?_⟩
      have hI4 := hE4.row hI3 fun h => h
      have ha4 : hcells H4 a 0 (refV (w, na, t', p')) := hcells_upd hE4 (fun h => h) ha
      refine Stab_all (fun x hx => ?_) ?_
      · simp only [List.mem_cons, List.not_mem_nil, or_false] at hx
        rcases hx with rfl | rfl | rfl | rfl | rfl
        · exact ha4.1
        · exact ha4.2.1
        · exact ha4.2.2.1
        · exact ha4.2.2.2.1
        · exact (hI4.cell 0).trans rfl
      refine St_row hr4 (by simp) fun H5 hU5 _ hr5 => St_row hr5 (by simp) fun H6 hU6 _ hr6 => St_row hr6 (by simp) fun H7 hU7 _ hr7 => St_row hr7 (by simp) fun H8 hU8 _ hr8 => ?_
      have hU : Upd (· = b2) H4 H8 := ((hU5.trans hU6 fun _ _ h => h).trans hU7 fun _ _ h => h).trans hU8 fun _ _ h => h
      have z3 := hE3'.size
      exact tail H8 b2 (extUpd (hE3'.trans hE4 fun _ _ h => h) (by omega) hU) (hU.row hI4 (by have := hI3.lt; omega)) hr8
    · have hI10 := hE10.row hr1 fun h => h
      have hE10' := hE1.trans hE10 fun _ _ h => h
      refine Stab_1 ((hI10.cell 0).trans rfl) (s_table fun r3 H11 hE11 hT => ?_)
      have hI11 := hE11.row hI10 fun h => h
      have hr11 := hE11.row hr10 fun h => h
      refine Stab_1 ((hI11.cell 0).trans rfl) (IxA_rn' refV_len hT (by omega) (j := i.1.toNat) (by omega) hn fun a ha => ?_)
      rw [hrr] at ha
      refine ⟨(w, na, t', p'), ha, ?_⟩
      refine St_row hr11 (by simp) fun H5 hU5 _ hr5 => St_row hr5 (by simp) fun H6 hU6 _ hr6 => St_row hr6 (by simp) fun H7 hU7 _ hr7 => St_row hr7 (by simp) fun H8 hU8 _ hr8 => ?_
      have hU : Upd (· = b3) H11 H8 := ((hU5.trans hU6 fun _ _ h => h).trans hU7 fun _ _ h => h).trans hU8 fun _ _ h => h
      have z1 := hE1.size
      exact tail H8 b3 (extUpd (hE10'.trans hE11 fun _ _ h => h) (by omega) hU) (hU.row hI11 (by have := hr1.lt; omega)) hr8
  · have h1 : takes (parms fs) i = 0 := by unfold takes; rw [if_neg (by rw [hop]; simp)]
    have h2 : puts i = 0 := by unfold puts; rw [if_neg (by rw [hop]; simp)]
    have := hk H1 hE1
    rwa [h1, h2] at this
end Go.Proofs.YtlkmmplgfjicjaaGreat
/-
  Verify's small functions; the ways out of an instruction.
-/
namespace Go.Proofs.YtlkmmplgfjicjaaGreat
set_option linter.unusedVariables false
set_option linter.unusedSimpArgs false
open Go.Proofs.YtlkmmplgfjicjaaGreat.Hc Go.Proofs.YtlkmmplgfjicjaaGreat.Hc.Vf
set_option maxRecDepth 100000
variable {H : Heap}

abbrev CodeR (H : Heap) (r : Rou) : Prop := RN insV 2 H r.sl r.code
abbrev rouA (r : Rou) : Value := .agg #[.string r.name, .int .i64 r.params, .int .i64 r.locals, .slice r.sl.a r.sl.len r.sl.cap]
theorem ld_rou {a : Addr} {r : Rou} {k : ByteArray × Int × Int × Sl → Prop} (h : hcells H a 0 (rouV r)) (hk : k (r.name, r.params, r.locals, r.sl)) : LdC [.str, (.int .i64), (.int .i64), .sl] a H k := ⟨(r.name, r.params, r.locals, r.sl), h, hk⟩
theorem s_vfault {x e : Int} {k : Option Addr → Heap → Prop} (hk : ∀ H' b, b = H.size → Ext H H' → Row H' b T_api_Fault [.int .i64 x, .int .i64 e] → k (some (adr b)) H') : CallT Pg f_verify_fault [.int .i64 x, .int .i64 e] (.one (.c .ptr)) H k :=
  c_verify_fault _ _ (Nw_row fun b H' h1 h2 _ h4 => hk H' b h1 h2 h4)
theorem s_jumps {i : Ins} {k : Bool → Heap → Prop} (hk : ∀ H', Ext H H' → k (decide (i.1 = 19 ∨ i.1 = 20)) H') : CallT Pg f_verify_jumps [.agg #[.int .i64 i.1, .int .i64 i.2]] (.one (.c .bool)) H k := by
  refine c_verify_jumps _ ?_
  unfold v_verify_jumps
  refine Nw_row (vs := insV i) fun b1 H1 _ hE _ hr => ?_
  refine Jn.mk (fun j H' => H1 = H' ∧ j = decide (i.1 = 19 ∨ i.1 = 20)) (fun kk hkk => ?_) (by rintro j _ ⟨rfl, rfl⟩; exact hk _ hE)
  refine Ld_int ((hr.cell 0).trans rfl) (Br.mk (fun h => hkk _ _ ⟨rfl, (decide_eq_true (.inl (beqI h))).symm⟩) fun h => Ld_int ((hr.cell 0).trans rfl) (hkk _ _ ⟨rfl, ?_⟩))
  have h := bneI h
  by_cases e : i.1 = 20
  · rw [e]; rfl
  · rw [decide_eq_false (by omega)]; exact beq_eq_false_iff_ne.2 e
theorem s_there {r : Rou} {n : Int} {k : Bool → Heap → Prop} (hr : CodeR H r) (hk : ∀ H', Ext H H' → k (decide (0 ≤ n ∧ n < r.code.length)) H') : CallT Pg f_verify_there [rouA r, .int .i64 n] (.one (.c .bool)) H k := by
  refine c_verify_there (r.name, r.params, r.locals, r.sl) _ ?_
  unfold v_verify_there
  refine Nw_row (vs := rouV r) fun b1 H1 _ hE _ hrow => ?_
  simp only [adr_add]
  refine Jn.mk (fun j H' => H1 = H' ∧ j = decide (0 ≤ n ∧ n < r.code.length)) (fun kk hkk => ?_) (by rintro j _ ⟨rfl, rfl⟩; exact hk _ hE)
  refine Br_dec (fun h => Ld_sl (s := r.sl) ((hrow.cell 3).trans rfl) (hkk _ _ ⟨rfl, ?_⟩)) fun h => hkk _ _ ⟨rfl, (decide_eq_false (by omega)).symm⟩
  rw [hr.len]
  exact decide_eq_decide.2 (by omega)
theorem s_Index64 {s : Sl} {xs : List Int} {v : Int} (hs : RL (Value.int .i64) H s xs) (hl : xs.length ≤ 100000) {k : Int → Heap → Prop} (hk : ∀ x, (0 ≤ x ↔ v ∈ xs) → k x H) : CallT Pg f_slices_Index_Sl_int64_int64 [.slice s.a s.len s.cap, .int .i64 v] (.one (.c (.int .i64))) H k := by
  refine c_slices_Index_Sl_int64_int64 _ _ ?_
  unfold v_slices_Index_Sl_int64_int64
  have hlen := hs.len
  refine LoopT.mk (fun i H' => H = H' ∧ ∃ n : Nat, i = n ∧ n ≤ xs.length ∧ ∀ j (h : j < xs.length), j < n → xs[j] ≠ v) (fun i _ => xs.length - i.toNat) ⟨rfl, 0, rfl, Nat.zero_le _, fun j _ hj => by omega⟩ ?_
  rintro next _ _ ⟨rfl, n, rfl, hn, hno⟩ hnext
  refine Br_dec (fun hlt => ?_) fun hge => hk _ ⟨fun h => by omega, fun h => ?_⟩
  · have hn2 : n < xs.length := by omega
    refine IxA_rl hs rfl hn2 fun a ha => Ld_int ha (Br.mk (fun h => hk _ ⟨fun _ => ?_, fun _ => by omega⟩) fun h => ?_)
    · rw [beqI h]; exact List.getElem_mem hn2
    · have h := bneI h
      refine Lt.mk (u := ((n + 1 : Nat) : Int)) (by rw [wrap_i64_id] <;> omega) (hnext _ _ ⟨rfl, n + 1, rfl, hn2, fun j hj hjn => ?_⟩ (by omega))
      rcases Nat.lt_or_ge j n with e | e
      · exact hno j hj e
      · have : j = n := by omega
        subst this; exact fun e => h e.symm
  · obtain ⟨j, hj, e⟩ := List.getElem_of_mem h
    exact absurd e (hno j hj (by omega))
theorem s_Contains64 {s : Sl} {xs : List Int} {v : Int} (hs : RL (Value.int .i64) H s xs) (hl : xs.length ≤ 100000) {k : Bool → Heap → Prop} (hk : k (decide (v ∈ xs)) H) : CallT Pg f_slices_Contains_Sl_int64_int64 [.slice s.a s.len s.cap, .int .i64 v] (.one (.c .bool)) H k := by
  refine c_slices_Contains_Sl_int64_int64 _ _ ?_
  unfold v_slices_Contains_Sl_int64_int64
  refine s_Index64 hs hl fun x hx => ?_
  have : decide (x ≥ 0) = decide (v ∈ xs) := decide_eq_decide.2 hx
  rw [this]; exact hk
theorem append_new {x : Int} {vs : List Int} {l : Sl} (hl : Vec H T_int64 l (vs.map (Value.int .i64))) (hs : vs.length ≤ 100) {k : Sl → Heap → Prop} (hk : ∀ r H', Vec H' T_int64 r ((vs ++ [x]).map (Value.int .i64)) → (Upd (fun b => l.a = some (adr b)) H H') → (r.a = l.a ∨ ∀ b, r.a = some (adr b) → H.size ≤ b) → k r H') :
    Nw #[.int .i64 x] T_int64 H fun b5 H12 =>
      App T_int64 1 8 #[.int .i64 0] l ⟨some (adr b5), 1, 1⟩ H12 fun l3 H13 => k l3 H13 := by
  refine Nw_row (vs := [.int .i64 x]) fun b H1 hb hE hz hr => ?_
  have z := hE.size
  refine App_one (hl.upd hE fun _ _ h => h) hr.rd_all rfl (by simp [Value.oneCell']) (by decide) (by simp; omega) fun r H' hv _ hc => hk r H' (by rw [List.map_append]; exact hv) ?_ ?_
  · rcases hc with ⟨b', cs, e1, e2, _, _, h5, _⟩ | ⟨_, h2, _⟩
    · exact (hE.mono fun _ _ h => h.elim).trans h5 fun c _ e => by subst e; exact e1
    · exact (hE.trans h2 fun _ _ h => h).mono fun _ _ h => h.elim
  · rcases hc with ⟨b', cs, e1, e2, _⟩ | ⟨e1, _⟩
    · exact .inl (e2.trans e1.symm)
    · refine .inr fun c hc => ?_
      rw [e1] at hc; cases hc; omega
theorem s_next {r : Rou} {i : Nat} (hr : CodeR H r) (hi : i < r.code.length) (hl : r.code.length ≤ 100000) {k : Sl → Heap → Prop} (hk : ∀ s H', Ext H H' → Vec H' T_int64 s ((nexts r.code i).map (Value.int .i64)) → k s H') :
    CallT Pg f_verify_next [rouA r, .int .i64 (i : Nat)] (.one (.c .sl)) H k := by
  refine c_verify_next (r.name, r.params, r.locals, r.sl) _ ?_
  unfold v_verify_next
  refine Nw_row (vs := rouV r) fun b1 H1 hb1 hE1 hz1 hrow => ?_
  simp only [adr_add]
  refine Ld_sl (s := r.sl) ((hrow.cell 3).trans rfl) (IxA_rn' insV_len (hr.ext hE1) (by omega) (j := i) rfl hi fun a ha => ?_)
  refine ⟨((r.code[i]!).1, (r.code[i]!).2), ha, Nw_row (vs := [.int .i64 0, .int .i64 0]) fun b2 H2 hb2 hE2 hz2 hr2 => St_row hr2 (by simp) fun H3 hU3 _ hr3 => St_row hr3 (by simp) fun H4 hU4 _ hr4 => ?_⟩
  have hE4 : Ext H H4 := extUpd (hE1.trans hE2 fun _ _ h => h) (by have := hE1.size; omega) (hU3.trans hU4 fun _ _ h => h)
  have z4 := hE4.size
  have hc0 : hcell H4 ⟨b2, 0, none⟩ = some (.int .i64 (r.code[i]!).1) := (hr4.cell 0).trans rfl
  have hc1 : hcell H4 ⟨b2, 1, none⟩ = some (.int .i64 (r.code[i]!).2) := (hr4.cell 1).trans rfl
  have hn : nexts r.code i = if (r.code[i]!).1 = 22 ∨ (r.code[i]!).1 = 23 then [] else if (r.code[i]!).1 = 19 then [(r.code[i]!).2] else if (r.code[i]!).1 = 20 then [(r.code[i]!).2, (i : Int) + 1] else [(i : Int) + 1] := rfl
  generalize r.code[i]! = x at *
  refine Ld_int hc0 (Jn.mk (fun s H' => Ext H H' ∧ Vec H' T_int64 s ((nexts r.code i).map (Value.int .i64))) (fun kk1 hkk1 => ?_) (by rintro s H' ⟨h1, h2⟩; exact hk s H' h1 h2))
  -- with the one behind it
  have last : ∀ (vs : List Int) (l : Sl) (H6 : Heap), Ext H H6 → Vec H6 T_int64 l (vs.map (Value.int .i64)) → (∀ b, l.a = some (adr b) → H.size ≤ b) → vs.length ≤ 10 → nexts r.code i = vs ++ [(i : Int) + 1] →
      Lt (IntKind.wrap .i64 ((i : Nat) + 1)) fun t1 =>
      Nw #[.int .i64 t1] T_int64 H6 fun b5 H12 =>
      App T_int64 1 8 #[.int .i64 0] l ⟨some (adr b5), 1, 1⟩ H12 fun l3 H13 =>
      kk1 l3 H13 := by
    intro vs l H6 hE6 hv hb hvs hnx
    refine Lt.mk (u := (i : Int) + 1) (by rw [wrap_i64_id] <;> omega) (append_new hv (by omega) fun r' H13 hv13 hU13 _ => hkk1 _ _ ⟨hE6.trans hU13 (fun b hlt e => by have := hb b e; omega), ?_⟩)
    rw [hnx]; exact hv13
  refine Jn.mk (fun l H6 => ∃ vs : List Int, Ext H H6 ∧ Vec H6 T_int64 l (vs.map (Value.int .i64)) ∧ (∀ b, l.a = some (adr b) → H.size ≤ b) ∧ vs.length ≤ 10 ∧ nexts r.code i = vs ++ [(i : Int) + 1]) (fun kk2 hkk2 => ?_) (by rintro l H6 ⟨vs, h1, h2, h3, h4, h5⟩; exact last vs l H6 h1 h2 h3 h4 h5)
  refine Jn.mk (fun j H' => H4 = H' ∧ j = decide (x.1 = 22 ∨ x.1 = 23)) (fun kk3 hkk3 => ?_) ?_
  · refine Br.mk (fun h => hkk3 _ _ ⟨rfl, (decide_eq_true (.inl (beqI h))).symm⟩) fun h => hkk3 _ _ ⟨rfl, ?_⟩
    have h := bneI h
    by_cases e : x.1 = 23
    · rw [e]; rfl
    · rw [decide_eq_false (by omega)]; exact beq_eq_false_iff_ne.2 e
  rintro j _ ⟨rfl, rfl⟩
  refine Br_dec (fun h => hkk1 _ _ ⟨hE4, ?_⟩) fun h => Br.mk (fun h19 => ?_) fun h19 => Br.mk (fun h20 => ?_) fun h20 => ?_
  · rw [hn, if_pos h]; exact Vec.nil _ _
  · have h19 := beqI h19
    refine Ld_int hc1 (append_new (vs := []) (Vec.nil _ _) (by simp) fun r' H9 hv9 hU9 _ => hkk1 _ _ ⟨hE4.trans hU9 (fun b _ e => by cases e), ?_⟩)
    rw [hn, if_neg h, if_pos h19]; exact hv9
  · have h19 := bneI h19
    have h20 := beqI h20
    refine Ld_int hc1 (append_new (vs := []) (Vec.nil _ _) (by simp) fun r' H11 hv11 hU11 ha11 => hkk2 _ _ ⟨[x.2], hE4.trans hU11 (fun b _ e => by cases e), hv11, (fun b hb => ?_), by simp, by rw [hn, if_neg h, if_neg h19, if_pos h20]; rfl⟩)
    rcases ha11 with e | e
    · rw [e] at hb; cases hb
    · have := e b hb; omega
  · have h19 := bneI h19
    have h20 := bneI h20
    exact hkk2 _ _ ⟨[], hE4, Vec.nil _ _, (fun b hb => by cases hb), by simp, by rw [hn, if_neg h, if_neg h19, if_neg h20]; rfl⟩

/-- A flow: a routine, the functions, and of each instruction a map. -/
abbrev flowV (r : Rou) (fsl dl : Sl) : List Value := [.string r.name, .int .i64 r.params, .int .i64 r.locals, slV r.sl, slV fsl, slV dl]
abbrev FlowR (H : Heap) (f : Nat) (r : Rou) (fsl dl : Sl) : Prop := Row H f T_verify_flow (flowV r fsl dl)
theorem FlowR.rou {f : Nat} {r : Rou} {fsl dl : Sl} (h : FlowR H f r fsl dl) : hcells H (adr f) 0 (rouV r) := Row.rd (ws := [slV fsl, slV dl]) h
theorem s_fits {f : Nat} {r : Rou} {fsl dl : Sl} {fs : List Rou} {i d : Nat} (hF : FlowR H f r fsl dl) (hr : CodeR H r) (hf : RN rouV 4 H fsl fs) (hI : ∀ x ∈ parms fs, I64 x) (hi : i < r.code.length) (hd : d ≤ 64) {k : Int × Bool → Heap → Prop}
    (hk : ∀ H', Ext H H' → k ((d : Int) - takes (parms fs) r.code[i]! + puts r.code[i]!, decide (fits (parms fs) r.code[i]! d)) H') :
    CallT Pg f_verify_flow_fits [.pointer (some (adr f)), .int .i64 (i : Nat), .int .i64 (d : Nat)] (.tup [(.c (.int .i64)), (.c .bool)]) H k := by
  refine c_verify_flow_fits _ _ _ ?_
  unfold v_verify_flow_fits
  simp only [NilCk_some, adr_add]
  have h3 : hcell H ⟨f, 3, none⟩ = some (slV r.sl) := (hF.cell 3).trans rfl
  refine Ld_sl (s := r.sl) h3 (IxA_rn' insV_len hr (by omega) (j := i) rfl hi fun a ha => ?_)
  refine ⟨((r.code[i]!).1, (r.code[i]!).2), ha, Ld_sl (s := fsl) ((hF.cell 4).trans rfl) (s_Effect (i := r.code[i]!) hf fun H1 hE => ?_)⟩
  refine Stab_1 (hE.cell h3 fun h => h) ?_
  have t0 := takes_bd (parms fs) r.code[i]!
  have t1 := takes_i64 hI r.code[i]!
  have p0 := puts_bd r.code[i]!
  have hk1 := hk H1 hE
  rw [show decide (fits (parms fs) r.code[i]! d) = decide (takes (parms fs) r.code[i]! ≤ d ∧ (d : Int) - takes (parms fs) r.code[i]! + puts r.code[i]! ≤ 64) from decide_eq_decide.2 Iff.rfl] at hk1
  clear hk
  generalize takes (parms fs) r.code[i]! = t at *
  generalize puts r.code[i]! = p at *
  refine Lt.mk (u := (d : Int) - t) (by rw [wrap_i64_id] <;> omega) (Lt.mk (u := (d : Int) - t + p) (by rw [wrap_i64_id] <;> omega) ?_)
  refine Jn.mk (fun st H' => H1 = H' ∧ st = ((d : Int) - t + p, decide (t ≤ d ∧ (d : Int) - t + p ≤ 64))) (fun kk hkk => ?_) (by rintro st _ ⟨rfl, rfl⟩; exact hk1)
  refine Br_dec (fun h => hkk _ _ ⟨rfl, ?_⟩) fun h => hkk _ _ ⟨rfl, ?_⟩
  · rw [show decide ((d : Int) - t + p ≤ 64) = decide (t ≤ d ∧ (d : Int) - t + p ≤ 64) from decide_eq_decide.2 (by omega)]
  · rw [show decide (t ≤ d ∧ (d : Int) - t + p ≤ 64) = false from decide_eq_false (by omega)]
end Go.Proofs.YtlkmmplgfjicjaaGreat
/-
  Packing: the bytes are the holder's own; what they say does not matter to the check.
-/
namespace Go.Proofs.YtlkmmplgfjicjaaGreat
set_option linter.unusedVariables false
set_option linter.unusedSimpArgs false
open Go.Proofs.YtlkmmplgfjicjaaGreat.Hc Go.Proofs.YtlkmmplgfjicjaaGreat.Hc.Vf
set_option maxRecDepth 100000
variable {H : Heap}

theorem AppStr_vec {T : TypeId} {bytes : Nat} {z : Value} {s : Sl} {x : ByteArray} {H : Heap} {k : Sl → Heap → Prop} {vs : List Value} (hv : Vec H T s vs)
    (hb : bytes ≠ 0) (hcap : (vs.length + x.size + (vs.length + x.size) / 4 + 1000) * bytes ≤ 2 ^ 48) (hxl : (bytesV x).toList.length = x.size) (hone : ∀ w ∈ (bytesV x).toList, w.oneCell' = true)
    (hk : ∀ s' H', Vec H' T s' (vs ++ (bytesV x).toList) → Upd (fun b => s.a = some (adr b)) H H' → (s'.a = s.a ∨ s'.a = some (adr H.size)) → k s' H') : AppStr T bytes #[z] s x H k := by
  have hlen := hv.len
  have hbV : bytesV x = ⟨(bytesV x).toList⟩ := rfl
  unfold AppStr
  rw [hbV]
  generalize (bytesV x).toList = ws at *
  clear hbV
  refine ⟨fun hfit => ?_, fun hgrow => ?_⟩
  · rcases hv.own with ⟨h1, h2, h3⟩ | ⟨b, sp, h1, h2, h3⟩
    · rw [h1]
      have hw : ws = [] := List.eq_nil_of_length_eq_zero (by omega)
      subst h3
      rw [hw] at hk
      simp only [List.length_nil] at hlen
      refine hk _ H ⟨by simp only [List.append_nil, List.length_nil]; omega, .inl ⟨rfl, by simpa using h2, rfl⟩, hfit⟩ (.refl _ _) (.inl h1.symm)
    · rw [h1]
      dsimp only
      rw [adr_add]
      have hl : vs.length ≤ s.len := by omega
      refine StL_row h2 (by simp; omega) hone fun H' hU hs hr => ?_
      refine hk _ H' ⟨by simp; omega, .inr ⟨b, sp.drop ws.length, rfl, ?_, by simp only [List.length_append, List.length_drop]; omega⟩, hfit⟩ (hU.mono fun b' _ e => by rw [e.1]; exact h1) (.inl h1.symm)
      rw [hlen, Nat.add_zero, List.take_left, List.drop_append, List.drop_eq_nil_of_le (by omega), List.nil_append] at hr
      rw [show vs.length + ws.length - vs.length = ws.length by omega] at hr
      exact hr
  · refine ⟨hb, ?_, vs, hv.rd, fun _ => by omega, fun c hc => ?_⟩
    · have := nextcap_le (s.len + x.size) s.cap hgrow
      refine Nat.le_trans (Nat.mul_le_mul_right bytes this) ?_
      rw [hlen]; exact hcap
    · have e : (⟨vs⟩ ++ ⟨ws⟩ ++ zcells #[z] ((c - (s.len + x.size)) * (#[z] : Array Value).size) : Array Value) = ⟨vs ++ ws ++ List.replicate (c - (s.len + x.size)) z⟩ := by
        rw [zcells_one]; apply Array.ext'; simp
      rw [e]
      refine hk _ _ ⟨by simp only [List.length_append]; omega, .inr ⟨H.size, List.replicate (c - (s.len + x.size)) z, rfl, get_push_new _ _, by simp only [List.length_append, List.length_replicate]; omega⟩, hc⟩ (Upd.push _ _ _) (.inr rfl)
def By (H : Heap) (s : Sl) (n : Nat) : Prop := ∃ vs, Vec H T_uint8 s vs ∧ vs.length ≤ n ∧ ∀ w ∈ vs, w.oneCell' = true
theorem By.nil (H : Heap) : By H ⟨none, 0, 0⟩ 0 := ⟨[], Vec.nil _ _, Nat.le_refl _, fun w hw => (by cases hw)⟩
theorem By.ext {H' : Heap} {s : Sl} {n : Nat} (hE : Ext H H') (h : By H s n) : By H' s n := by
  obtain ⟨vs, h1, h2, h3⟩ := h
  exact ⟨vs, h1.upd hE fun _ _ h => h, h2, h3⟩
theorem s_fresh {s : Sl} {n : Nat} (h : By H s n) (hn : n ≤ 2 ^ 40) {k : Sl → Heap → Prop} (hk : ∀ s' H', Ext H H' → By H' s' n → (∀ b, s'.a = some (adr b) → H.size ≤ b) → k s' H') : CallT Pg f_pack_fresh [.slice s.a s.len s.cap] (.one (.c .sl)) H k := by
  obtain ⟨vs, hv, hl, h1c⟩ := h
  refine c_pack_fresh _ ?_
  unfold v_pack_fresh
  refine App_vec (Vec.nil _ _) hv.rd hv.len.symm h1c (by omega) (by simp only [List.length_nil]; omega) fun s' H' h1 h2 h3 _ => hk _ _ (h2.mono fun b _ e => by cases e.1) ⟨vs, by simpa using h1, hl, h1c⟩ fun b hb => ?_
  rcases h3 with e | e
  · rw [e] at hb; cases hb
  · rw [e] at hb; cases hb; exact Nat.le_refl _
theorem s_add {lo : Nat} {s : Sl} {n q : Nat} (h : By H s n) (hs : ∀ b, s.a = some (adr b) → lo ≤ b) (hlo : lo ≤ H.size) (hn : n ≤ 2 ^ 40) (hq : q < 18446744073709551616) {k : Sl → Heap → Prop} (hk : ∀ s' H', Upd (fun b => lo ≤ b) H H' → By H' s' (n + 10) → (∀ b, s'.a = some (adr b) → lo ≤ b) → k s' H') :
    CallT Pg f_pack_add [.slice s.a s.len s.cap, .int .u64 (q : Nat)] (.one (.c .sl)) H k := by
  refine c_pack_add _ _ ?_
  unfold v_pack_add
  refine LoopT.mk (fun (st : Sl × Int) H' => ∃ j m q : Nat, st.2 = q ∧ j + m = 10 ∧ q < 128 ^ m ∧ 0 < m ∧ By H' st.1 (n + j) ∧ (∀ b, st.1.a = some (adr b) → lo ≤ b) ∧ Upd (fun b => lo ≤ b) H H') (fun st _ => st.2.toNat) ⟨0, 10, q, rfl, rfl, by omega, by omega, h, hs, .refl _ _⟩ ?_
  rintro next ⟨s1, _⟩ H1 ⟨j, m, p, rfl, hjm, hp, hm, hb, hs1, hU⟩ hnext
  dsimp only at hb hs1 ⊢
  have z1 := hU.size
  have ap : ∀ {x : Int} {K : Sl → Heap → Prop}, (∀ s' H', Upd (fun b => lo ≤ b) H H' → By H' s' (n + j + 1) → (∀ b, s'.a = some (adr b) → lo ≤ b) → K s' H') →
      Nw #[.int .u8 x] T_uint8 H1 fun b1 H2 => App T_uint8 1 1 #[.int .u8 0] s1 ⟨some (adr b1), 1, 1⟩ H2 K := fun {x K} hK => by
    obtain ⟨vs, hv, hl, h1c⟩ := hb
    refine Nw_row (vs := [.int .u8 x]) fun b1 H2 hb1 hE2 hz2 hr2 => ?_
    refine App_vec (hv.ext hE2) (ws := [.int .u8 x]) hr2.rd_all rfl (by simp [Value.oneCell']) (by omega) (by simp only [List.length_singleton]; omega) fun s' H' h1 h2 h3 _ => hK _ _ ((hU.trans hE2 fun _ _ h => h.elim).trans h2 fun b hb e => hs1 b e.1) ⟨_, h1, by simp; omega, fun w hw => by rcases List.mem_append.1 hw with g | g; exact h1c w g; rw [List.mem_singleton] at g; rw [g]; rfl⟩ fun b hb => ?_
    rcases h3 with e | e
    · rw [e] at hb; exact hs1 b hb
    · rw [e] at hb; cases hb; omega
  refine Br_dec (fun hge => ?_) fun hlt => ?_
  · obtain ⟨m', rfl⟩ : ∃ m', m = m' + 1 := ⟨m - 1, by omega⟩
    have hm' : 0 < m' := by
      rcases Nat.eq_zero_or_pos m' with e | e
      · subst e; omega
      · exact e
    refine Lt.mk rfl (ap fun s' H' h1 h2 h3 => ⟨by omega, ?_⟩)
    have e : ((p : Int)).fdiv (2 ^ (min (7 : Int).toNat IntKind.u64.bits)) = ((p / 128 : Nat) : Int) := by
      rw [show ((2 : Int) ^ (min (7 : Int).toNat IntKind.u64.bits)) = ((128 : Nat) : Int) by rfl, Int.fdiv_eq_ediv_of_nonneg _ (by omega)]
      rfl
    rw [e]
    refine hnext _ _ ⟨j + 1, m', p / 128, rfl, by omega, ?_, hm', h2, h3, h1⟩ (by dsimp only; omega)
    rw [Nat.pow_succ] at hp
    exact Nat.div_lt_of_lt_mul (by rw [Nat.mul_comm]; exact hp)
  · refine ap fun s' H' h1 h2 h3 => hk _ _ h1 ?_ h3
    obtain ⟨vs, g1, g2, g3⟩ := h2
    exact ⟨vs, g1, by omega, g3⟩
theorem s_Put {s : Sl} {n q : Nat} (h : By H s n) (hn : n ≤ 2 ^ 40) (hq : q < 18446744073709551616) {k : Sl → Heap → Prop} (hk : ∀ s' H', Ext H H' → By H' s' (n + 10) → (∀ b, s'.a = some (adr b) → H.size ≤ b) → k s' H') :
    CallT Pg f_pack_Put [.slice s.a s.len s.cap, .int .u64 (q : Nat)] (.one (.c .sl)) H k := by
  refine c_pack_Put _ _ ?_
  unfold v_pack_Put
  refine s_fresh h hn fun s1 H1 hE1 h1 hf1 => s_add h1 hf1 hE1.size hn hq fun s2 H2 hU2 h2 hf2 => hk _ _ (hE1.trans hU2 fun b hb e => ?_) h2 hf2
  omega
theorem wrap_u64_nat (x : Int) : ∃ q : Nat, IntKind.wrap .u64 x = q ∧ q < 18446744073709551616 := by
  refine ⟨(x % 18446744073709551616).toNat, ?_, by omega⟩
  show x % 18446744073709551616 = _
  omega
theorem s_put {s : Sl} {n : Nat} {x : Int} (h : By H s n) (hn : n ≤ 2 ^ 40) {k : Sl → Heap → Prop} (hk : ∀ s' H', Ext H H' → By H' s' (n + 10) → k s' H') :
    CallT Pg f_code_put [.slice s.a s.len s.cap, .int .i64 x] (.one (.c .sl)) H k := by
  refine c_code_put _ _ ?_
  unfold v_code_put
  obtain ⟨q, hq, hq2⟩ := wrap_u64_nat x
  rw [hq]
  exact s_Put h hn hq2 fun s' H' h1 h2 _ => hk s' H' h1 h2
theorem s_PutText {s : Sl} {n : Nat} {x : ByteArray} (h : By H s n) (hn : n ≤ 2 ^ 40) (hx : x.size ≤ 2 ^ 40) {k : Sl → Heap → Prop} (hk : ∀ s' H', Ext H H' → By H' s' (n + 10 + x.size) → k s' H') :
    CallT Pg f_pack_PutText [.slice s.a s.len s.cap, .string x] (.one (.c .sl)) H k := by
  refine c_pack_PutText _ _ ?_
  unfold v_pack_PutText
  obtain ⟨q, hq, hq2⟩ := wrap_u64_nat x.size
  rw [hq]
  refine s_Put h hn hq2 fun s1 H1 hE1 ⟨vs, h1, h2, h1c⟩ hf1 => ?_
  have hbl : (bytesV x).toList.length = x.size := by simp [bytesV]
  have hbc : ∀ w ∈ (bytesV x).toList, w.oneCell' = true := fun w hw => by simp [bytesV] at hw; obtain ⟨_, _, rfl⟩ := hw; rfl
  refine AppStr_vec h1 (by omega) (by omega) hbl hbc fun s2 H2 hv2 hU2 _ => hk _ _ (hE1.trans hU2 fun b hb e => ?_) ⟨_, hv2, by rw [List.length_append, hbl]; omega, fun w hw => (List.mem_append.1 hw).elim (h1c w) (hbc w)⟩
  have := hf1 b e; omega
theorem bits_u64_bd' (op : BinOp) (x y : Int) : 0 ≤ bits op .u64 x y ∧ bits op .u64 x y < 18446744073709551616 := by
  unfold bits; dsimp only; rw [wrap_u64]; omega
theorem s_PutInt {s : Sl} {n : Nat} {x : Int} (h : By H s n) (hn : n ≤ 2 ^ 40) {k : Sl → Heap → Prop} (hk : ∀ s' H', Ext H H' → By H' s' (n + 10) → k s' H') :
    CallT Pg f_pack_PutInt [.slice s.a s.len s.cap, .int .i64 x] (.one (.c .sl)) H k := by
  refine c_pack_PutInt _ _ ?_
  unfold v_pack_PutInt
  refine c_pack_signed _ ?_
  unfold v_pack_signed
  refine ⟨by omega, by omega, ?_⟩
  refine Lt.mk rfl ?_
  have hb : 0 ≤ bits .xor .u64 (IntKind.wrap .u64 (IntKind.wrap .i64 (x * 2 ^ (min (1 : Int).toNat IntKind.i64.bits)))) (IntKind.wrap .u64 (x.fdiv (2 ^ (min (63 : Int).toNat IntKind.i64.bits)))) ∧ bits .xor .u64 (IntKind.wrap .u64 (IntKind.wrap .i64 (x * 2 ^ (min (1 : Int).toNat IntKind.i64.bits)))) (IntKind.wrap .u64 (x.fdiv (2 ^ (min (63 : Int).toNat IntKind.i64.bits)))) < 18446744073709551616 := bits_u64_bd' _ _ _
  generalize bits .xor .u64 (IntKind.wrap .u64 (IntKind.wrap .i64 (x * 2 ^ (min (1 : Int).toNat IntKind.i64.bits)))) (IntKind.wrap .u64 (x.fdiv (2 ^ (min (63 : Int).toNat IntKind.i64.bits)))) = y at *
  obtain ⟨q, rfl⟩ : ∃ q : Nat, y = q := ⟨y.toNat, by omega⟩
  exact s_Put h hn (by omega) fun s' H' h1 h2 _ => hk s' H' h1 h2
end Go.Proofs.YtlkmmplgfjicjaaGreat
/-
  What may be written down.
-/
namespace Go.Proofs.YtlkmmplgfjicjaaGreat
set_option linter.unusedVariables false
set_option linter.unusedSimpArgs false
open Go.Proofs.YtlkmmplgfjicjaaGreat.Hc Go.Proofs.YtlkmmplgfjicjaaGreat.Hc.Vf
set_option maxRecDepth 100000
variable {H : Heap}

def instrOk (i : Ins) : Bool := isOpB i.1 && (numB i.1 || decide (i.2 = 0))
def sizedOk (r : Rou) : Bool := decide (0 ≤ r.params ∧ r.params ≤ 4 ∧ r.params ≤ r.locals ∧ r.locals ≤ 32)
def rouOk (r : Rou) : Bool := decide (1 ≤ r.name.size ∧ r.name.size ≤ 16) && sizedOk r && r.code.all instrOk
def risesOk : Int → List Int → Bool
  | _, [] => true
  | l, x :: t => decide (l < x ∧ x ≤ 12) && risesOk x t
theorem s_instr {i : Ins} {k : Bool → Heap → Prop} (hk : ∀ H', Ext H H' → k (instrOk i) H') : CallT Pg f_code_instr [.agg #[.int .i64 i.1, .int .i64 i.2]] (.one (.c .bool)) H k := by
  refine c_code_instr i ?_
  unfold v_code_instr
  refine Nw_row (vs := [.int .i64 i.1, .int .i64 i.2]) fun b1 H1 hb1 hE1 _ hr1 => ?_
  refine Jn.mk (fun j H' => Ext H H' ∧ j = instrOk i) (fun kk hkk => ?_) (by rintro j H' ⟨h, rfl⟩; exact hk _ h)
  refine Ld_int ((hr1.cell 0).trans rfl) (s_isOp (Br.mk (fun hop => ?_) fun hop => ?_))
  · refine Ld_int ((hr1.cell 0).trans rfl) (s_shapeOf fun H3 w hE3 => ?_)
    have hE3' := hE1.trans hE3 fun _ _ h => h
    have hr3 := hE3.row hr1 fun h => h
    have hs : (shp i.1).1 = numB i.1 := by unfold shp; rw [if_pos hop]
    dsimp only
    rw [hs]
    refine Br.mk (fun hn => hkk _ _ ⟨hE3', ?_⟩) fun hn => ?_
    · unfold instrOk; rw [hop, hn]; rfl
    · rw [adr_add]
      refine Ld_int ((hr3.cell 1).trans rfl) (hkk _ _ ⟨hE3', ?_⟩)
      unfold instrOk; rw [hop, hn]
      exact Bool.eq_iff_iff.2 (by simp)
  · refine hkk _ _ ⟨hE1, ?_⟩
    unfold instrOk; rw [hop]; rfl
theorem s_sized {r : Rou} {k : Bool → Heap → Prop} (hk : ∀ H', Ext H H' → k (sizedOk r) H') : CallT Pg f_code_sized [rouA r] (.one (.c .bool)) H k := by
  refine c_code_sized (r.name, r.params, r.locals, r.sl) ?_
  unfold v_code_sized
  refine Nw_row (vs := rouV r) fun b1 H1 hb1 hE1 _ hr1 => ?_
  simp only [adr_add]
  have c1 : hcell H1 ⟨b1, 1, none⟩ = some (.int .i64 r.params) := (hr1.cell 1).trans rfl
  have c2 : hcell H1 ⟨b1, 2, none⟩ = some (.int .i64 r.locals) := (hr1.cell 2).trans rfl
  refine Jn.mk (fun j H' => H1 = H' ∧ j = sizedOk r) (fun kk hkk => ?_) (by rintro j _ ⟨rfl, rfl⟩; exact hk _ hE1)
  refine Ld_int c1 (Br_dec (fun h1 => Ld_int c1 (Br_dec (fun h2 => Ld_int c2 (Ld_int c1 (Br_dec (fun h3 => Ld_int c2 (hkk _ _ ⟨rfl, decide_eq_decide.2 ?_⟩)) fun h => hkk _ _ ⟨rfl, ?_⟩))) fun h => hkk _ _ ⟨rfl, ?_⟩)) fun h => hkk _ _ ⟨rfl, ?_⟩)
  · exact ⟨fun h => ⟨h1, h2, h3, h⟩, fun h => h.2.2.2⟩
  all_goals exact (decide_eq_false (by omega)).symm
theorem s_rises {s : Sl} {xs : List Int} (hs : RL (Value.int .i64) H s xs) (hl : xs.length ≤ 2 ^ 60) {k : Bool → Heap → Prop} (hk : k (risesOk 0 xs) H) : CallT Pg f_code_rises [.slice s.a s.len s.cap] (.one (.c .bool)) H k := by
  refine c_code_rises _ ?_
  unfold v_code_rises
  have hlen := hs.len
  refine LoopT.mk (fun (st : Int × Int) H' => H = H' ∧ ∃ n : Nat, st.2 = n ∧ n ≤ xs.length ∧ risesOk 0 xs = risesOk st.1 (xs.drop n)) (fun st _ => xs.length - st.2.toNat) ⟨rfl, 0, rfl, Nat.zero_le _, rfl⟩ ?_
  rintro next ⟨l, _⟩ _ ⟨rfl, n, rfl, hn, he⟩ hnext
  dsimp only at he ⊢
  refine Br_dec (fun hlt => ?_) fun hge => ?_
  · have hn3 : n < xs.length := by omega
    rw [List.drop_eq_getElem_cons hn3, risesOk] at he
    refine IxA_rl hs rfl hn3 fun a ha => Ld_int (n := xs[n]) (by rw [ha]) ?_
    generalize xs[n] = x at *
    refine Jn.mk (fun j H' => H = H' ∧ j = decide (¬ (l < x ∧ x ≤ 12))) (fun kk hkk => ?_) ?_
    · exact Br_dec (fun h => hkk _ _ ⟨rfl, (decide_eq_true (by omega)).symm⟩) fun h => hkk _ _ ⟨rfl, decide_eq_decide.2 (by omega)⟩
    rintro j _ ⟨rfl, rfl⟩
    refine Br_dec (fun h => ?_) fun h => ?_
    · rw [decide_eq_false h, Bool.false_and] at he
      rwa [he] at hk
    · rw [decide_eq_true (Classical.not_not.1 h), Bool.true_and] at he
      exact Lt.mk (u := ((n + 1 : Nat) : Int)) (by rw [wrap_i64_id] <;> omega) (hnext _ _ ⟨rfl, n + 1, rfl, hn3, he⟩ (by dsimp only; omega))
  · rw [List.drop_eq_nil_of_le (by omega)] at he
    rwa [he] at hk
theorem s_written {r : Rou} {bl m : Nat} (hr : CodeR H r) (hl : Row H bl T_int [.int .i64 (m : Nat)]) (hm : m ≤ 2000) (hlen : r.code.length ≤ 2 ^ 60) (hne : r.code ≠ [] → ∀ a, r.sl.a = some a → a.block ≠ bl) {k : Bool → Heap → Prop}
    (hk : ∀ H', Upd (· = bl) H H' → Row H' bl T_int [.int .i64 ((m : Int) - r.code.length)] → k (rouOk r && decide (r.code.length ≤ m)) H') : CallT Pg f_code_written [rouA r, .pointer (some (adr bl))] (.one (.c .bool)) H k := by
  refine c_code_written (r.name, r.params, r.locals, r.sl) _ ?_
  unfold v_code_written
  refine Nw_row (vs := rouV r) fun b1 H1 hb1 hE1 _ hr1 => ?_
  simp only [adr_add, NilCk_some]
  have hrl := hr.len
  have hl1 := hE1.row hl fun h => h
  have hblt := hl.lt
  refine Ld_int (n := (m : Nat)) ((hl1.cell 0).trans rfl) (Ld_sl (s := r.sl) ((hr1.cell 3).trans rfl) (Lt.mk (u := (m : Int) - r.code.length) (by rw [wrap_i64_id] <;> omega) (St_row hl1 (by simp) fun H2 hU2 _ hl2 => ?_)))
  have hr2 : Row H2 b1 T_api_Routine (rouV r) := hU2.row hr1 (by omega)
  have hU2' : Upd (· = bl) H H2 := (hE1.mono fun _ _ h => h.elim).trans hU2 fun _ _ h => h
  have hl2 : Row H2 bl T_int [.int .i64 ((m : Int) - r.code.length)] := hl2
  have hc2 : CodeR H2 r := hr.upd' hU2' hne
  refine Jn.mk (fun j H' => Ext H2 H' ∧ (j = false ↔ (1 ≤ r.name.size ∧ r.name.size ≤ 16) ∧ sizedOk r = true ∧ r.code.length ≤ m)) (fun kk hkk => ?_) ?_
  · refine Ld_str ((hr2.cell 0).trans rfl) (Br_dec (fun h => hkk _ _ ⟨.refl _ _, ?_⟩) fun h1 => Ld_str ((hr2.cell 0).trans rfl) (Br_dec (fun h => hkk _ _ ⟨.refl _ _, ?_⟩) fun h2 => ld_rou (r := r) hr2.rd_all (s_sized fun H4 hE4 => ?_)))
    · exact ⟨fun e => (by cases e), fun e => by omega⟩
    · exact ⟨fun e => (by cases e), fun e => by omega⟩
    · have hl4 := hE4.row hl2 fun h => h
      refine Br_not (Br.mk (fun h => ?_) fun h => hkk _ _ ⟨hE4, fun e => (by cases e), fun e => by rw [h] at e; cases e.2.1⟩)
      refine Ld_int ((hl4.cell 0).trans rfl) (hkk _ _ ⟨hE4, ?_⟩)
      rw [decide_eq_false_iff_not]
      exact ⟨fun e => ⟨by omega, h, by omega⟩, fun e => by omega⟩
  rintro j H3 ⟨hE3, hj⟩
  have hU3 : Upd (· = bl) H H3 := hU2'.trans hE3 fun _ _ h => h.elim
  refine Br.mk (fun h => ?_) fun h => ?_
  · have := hk _ hU3 (hE3.row hl2 fun h => h)
    have e : (rouOk r && decide (r.code.length ≤ m)) = false := by
      rw [Bool.eq_false_iff]
      intro e
      unfold rouOk at e
      simp only [Bool.and_eq_true, decide_eq_true_eq] at e
      have := hj.2 ⟨e.1.1.1, e.1.1.2, e.2⟩
      rw [h] at this; cases this
    rwa [e] at this
  · obtain ⟨hA, hB, hC⟩ := hj.1 h
    have hr3 := hE3.row hr2 fun h => h
    have hc3 := hc2.ext hE3
    refine Ld_sl (s := r.sl) ((hr3.cell 3).trans rfl) ?_
    have hcl := hc3.len
    refine LoopT.mk (fun (i : Int) H' => ∃ n : Nat, i = n ∧ n ≤ r.code.length ∧ Ext H3 H' ∧ r.code.all instrOk = (r.code.drop n).all instrOk) (fun i _ => r.code.length - i.toNat) ⟨0, rfl, Nat.zero_le _, .refl _ _, rfl⟩ ?_
    rintro next _ H5 ⟨n, rfl, hn, hE5, he⟩ hnext
    have fin : ∀ {b : Bool} {H' : Heap}, Ext H3 H' → r.code.all instrOk = b → k b H' := fun {b H'} hE h => by
      have := hk _ (hU3.trans hE fun _ _ h => h.elim) ((hE3.trans hE fun _ _ h => h).row hl2 fun h => h)
      unfold rouOk at this
      rwa [decide_eq_true hA, hB, h, decide_eq_true hC, Bool.and_true, Bool.true_and, Bool.true_and] at this
    refine Br_dec (fun hlt => ?_) fun hge => ?_
    · have hn3 : n < r.code.length := by omega
      rw [List.drop_eq_getElem_cons hn3, List.all_cons] at he
      refine IxA_rn' insV_len (hc3.ext hE5) (by omega) (j := n) rfl hn3 fun a ha => ⟨((r.code[n]!).1, (r.code[n]!).2), ha, ?_⟩
      have hget : r.code[n]! = r.code[n] := getElem!_pos r.code n hn3
      refine Nw_row (vs := [.int .i64 0, .int .i64 0]) fun b2 H6 hb2 hE6 _ hr6 => ?_
      simp only [adr_add]
      refine St_row hr6 (by simp) fun H7 hU7 _ hr7 => St_row hr7 (by simp) fun H8 hU8 _ hr8 => ?_
      have hE8 : Ext H5 H8 := (extUpd hE6 (by omega) (hU7.trans hU8 fun _ _ h => h))
      refine ⟨((r.code[n]!).1, (r.code[n]!).2), Row.rd_all hr8, s_instr (i := r.code[n]!) fun H9 hE9 => ?_⟩
      have hE9' := hE5.trans (hE8.trans hE9 fun _ _ h => h) fun _ _ h => h
      refine Br_not (Br.mk (fun h => ?_) fun h => ?_)
      · rw [← hget, h, Bool.true_and] at he
        exact Lt.mk (u := ((n + 1 : Nat) : Int)) (by rw [wrap_i64_id] <;> omega) (hnext _ _ ⟨n + 1, rfl, hn3, hE9', he⟩ (by omega))
      · rw [← hget, h, Bool.false_and] at he
        exact fin hE9' he
    · rw [List.drop_eq_nil_of_le (by omega)] at he
      exact fin hE5 he
end Go.Proofs.YtlkmmplgfjicjaaGreat
/-
  The words of a world's kinds.
-/
namespace Go.Proofs.YtlkmmplgfjicjaaGreat
set_option linter.unusedVariables false
set_option linter.unusedSimpArgs false
open Go.Proofs.YtlkmmplgfjicjaaGreat.Hc Go.Proofs.YtlkmmplgfjicjaaGreat.Hc.Vf
set_option maxRecDepth 100000
variable {H : Heap}

instance decMemB (v : ByteArray) (xs : List ByteArray) : Decidable (v ∈ xs) := @List.instDecidableMemOfLawfulBEq _ instBEqOfDecidableEq inferInstance v xs
theorem bytes_beq (a b : ByteArray) : (a.toList == b.toList) = decide (a = b) := by
  rw [ByteArray.toList_eq, ByteArray.toList_eq]
  rw [Bool.eq_iff_iff, beq_iff_eq, decide_eq_true_eq]
  constructor
  · intro h
    apply ByteArray.ext
    exact Array.toList_inj.1 h
  · rintro rfl; rfl
def letB (x : Nat) : Bool := decide ((97 ≤ x ∧ x ≤ 122) ∨ (65 ≤ x ∧ x ≤ 90))
def chB (i x : Nat) : Bool := letB x || (decide (i ≠ 0) && decide (x = 95 ∨ (48 ≤ x ∧ x ≤ 57)))
def chsB : Nat → List UInt8 → Bool
  | _, [] => true
  | i, x :: t => chB i x.toNat && chsB (i + 1) t
def wordB (w : List UInt8) : Bool := chsB 0 w && decide (w ≠ [] ∧ w.length ≤ 16)
def wordsB (xs : List ByteArray) : Bool := (List.range xs.length).all fun i => wordB (xs[i]!).data.toList && !decide (xs[i]! ∈ xs.take i)
theorem s_word {x : ByteArray} (hl : x.size ≤ 2 ^ 60) {k : Bool → Heap → Prop} (hk : ∀ H', Ext H H' → k (wordB x.data.toList) H') : CallT Pg f_world_word [.string x] (.one (.c .bool)) H k := by
  refine c_world_word _ ?_
  unfold v_world_word
  have hsz : x.data.toList.length = x.size := by rw [Array.length_toList]; rfl
  have hnil : x = (⟨#[]⟩ : ByteArray) ↔ x.data.toList = [] := by
    constructor
    · rintro rfl; rfl
    · intro h; apply ByteArray.ext; exact Array.toList_inj.1 (by rw [h])
  generalize hw : x.data.toList = w at *
  refine S2B_rb fun s H1 hs hE1 _ => ?_
  rw [hw] at hs
  have hsl := hs.len
  refine LoopT.mk (fun (i : Int) H' => H1 = H' ∧ ∃ n : Nat, i = n ∧ n ≤ w.length ∧ chsB 0 w = chsB n (w.drop n)) (fun i _ => w.length - i.toNat) ⟨rfl, 0, rfl, Nat.zero_le _, rfl⟩ ?_
  rintro next _ _ ⟨rfl, n, rfl, hn, he⟩ hnext
  refine Br_dec (fun hlt => ?_) fun hge => ?_
  · have hn3 : n < w.length := by omega
    rw [List.drop_eq_getElem_cons hn3, chsB] at he
    refine IxA_rb hs rfl hn3 fun a ha _ => Ld_int ha ?_
    generalize w[n].toNat = y at *
    refine Jn.mk (fun j H' => H1 = H' ∧ j = letB y) (fun kk hkk => ?_) ?_
    · refine Br_dec (fun h1 => Br_dec (fun h2 => hkk _ _ ⟨rfl, (decide_eq_true (by omega)).symm⟩) fun h2 => Br_dec (fun h3 => hkk _ _ ⟨rfl, decide_eq_decide.2 (by omega)⟩) fun h3 => hkk _ _ ⟨rfl, (decide_eq_false (by omega)).symm⟩)
        fun h1 => Br_dec (fun h3 => hkk _ _ ⟨rfl, decide_eq_decide.2 (by omega)⟩) fun h3 => hkk _ _ ⟨rfl, (decide_eq_false (by omega)).symm⟩
    rintro j1 _ ⟨rfl, rfl⟩
    refine Jn.mk (fun j H' => H1 = H' ∧ j = !chB n y) (fun kk hkk => ?_) ?_
    · refine Br_not (Br.mk (fun h => hkk _ _ ⟨rfl, by unfold chB; rw [h]; rfl⟩) fun h => Br.mk (fun h0 => hkk _ _ ⟨rfl, ?_⟩) fun h0 => Br.mk (fun h1 => Br_dec (fun h2 => hkk _ _ ⟨rfl, ?_⟩) fun h2 => hkk _ _ ⟨rfl, ?_⟩) fun h1 => hkk _ _ ⟨rfl, ?_⟩)
      · have h0 := beqI h0
        unfold chB; rw [h, decide_eq_false (show ¬ n ≠ 0 by omega)]; rfl
      · have h0 := bneI h0
        have h1 := (bne_iff_ne).1 h1
        unfold chB; rw [h, decide_eq_true (show n ≠ 0 by omega), decide_eq_false (show ¬ (y = 95 ∨ (48 ≤ y ∧ y ≤ 57)) by omega)]; rfl
      · have h0 := bneI h0
        have h1 := (bne_iff_ne).1 h1
        unfold chB; rw [h, decide_eq_true (show n ≠ 0 by omega), Bool.false_or, Bool.true_and, ← decide_not]
        exact decide_eq_decide.2 (by omega)
      · have h0 := bneI h0
        have h1 : (y : Int) = 95 := Classical.byContradiction fun e => by rw [bne_iff_ne.2 e] at h1; cases h1
        unfold chB; rw [h, decide_eq_true (show n ≠ 0 by omega), decide_eq_true (show y = 95 ∨ (48 ≤ y ∧ y ≤ 57) by omega)]; rfl
    rintro j2 _ ⟨rfl, rfl⟩
    refine Br_not (Br.mk (fun h => ?_) fun h => ?_)
    · rw [h, Bool.true_and] at he
      exact Lt.mk (u := ((n + 1 : Nat) : Int)) (by rw [wrap_i64_id] <;> omega) (hnext _ _ ⟨rfl, n + 1, rfl, hn3, he⟩ (by omega))
    · rw [h, Bool.false_and] at he
      have := hk _ hE1
      unfold wordB at this
      rwa [he, Bool.false_and] at this
  · rw [List.drop_eq_nil_of_le (by omega)] at he
    have hkk := hk _ hE1
    unfold wordB at hkk
    rw [he, chsB, Bool.true_and] at hkk
    refine Jn.mk (fun j H' => H1 = H' ∧ j = decide (w ≠ [] ∧ w.length ≤ 16)) (fun kk hkk => ?_) (by rintro j _ ⟨rfl, rfl⟩; exact hkk)
    rw [bytes_beq]
    refine Br_not (Br_dec (fun h => hkk _ _ ⟨rfl, (decide_eq_false fun g => g.1 (hnil.1 h)).symm⟩) fun h => hkk _ _ ⟨rfl, decide_eq_decide.2 ?_⟩)
    rw [← hsz]
    exact ⟨fun g => ⟨fun e => h (hnil.2 e), by omega⟩, fun g => by omega⟩
theorem s_IndexS {s : Sl} {xs : List ByteArray} {v : ByteArray} (hs : RL Value.string H s xs) (hl : xs.length ≤ 2 ^ 60) {k : Int → Heap → Prop} (hk : ∀ x, (0 ≤ x ↔ v ∈ xs) → k x H) : CallT Pg f_slices_Index_Sl_string_string [.slice s.a s.len s.cap, .string v] (.one (.c (.int .i64))) H k := by
  refine c_slices_Index_Sl_string_string _ _ ?_
  unfold v_slices_Index_Sl_string_string
  have hlen := hs.len
  refine LoopT.mk (fun i H' => H = H' ∧ ∃ n : Nat, i = n ∧ n ≤ xs.length ∧ ∀ j (h : j < xs.length), j < n → xs[j] ≠ v) (fun i _ => xs.length - i.toNat) ⟨rfl, 0, rfl, Nat.zero_le _, fun j _ hj => by omega⟩ ?_
  rintro next _ _ ⟨rfl, n, rfl, hn, hno⟩ hnext
  refine Br_dec (fun hlt => ?_) fun hge => hk _ ⟨fun h => by omega, fun h => ?_⟩
  · have hn2 : n < xs.length := by omega
    refine IxA_rl hs rfl hn2 fun a ha => Ld_str ha ?_
    rw [bytes_beq]
    refine Br_dec (fun h => hk _ ⟨fun _ => ?_, fun _ => by omega⟩) fun h => ?_
    · rw [h]; exact List.getElem_mem hn2
    · refine Lt.mk (u := ((n + 1 : Nat) : Int)) (by rw [wrap_i64_id] <;> omega) (hnext _ _ ⟨rfl, n + 1, rfl, hn2, fun j hj hjn => ?_⟩ (by omega))
      rcases Nat.lt_or_ge j n with e | e
      · exact hno j hj e
      · have : j = n := by omega
        subst this; exact fun e => h e.symm
  · obtain ⟨j, hj, e⟩ := List.getElem_of_mem h
    exact absurd e (hno j hj (by omega))
theorem s_ContainsS {s : Sl} {xs : List ByteArray} {v : ByteArray} (hs : RL Value.string H s xs) (hl : xs.length ≤ 2 ^ 60) {k : Bool → Heap → Prop} (hk : k (decide (v ∈ xs)) H) : CallT Pg f_slices_Contains_Sl_string_string [.slice s.a s.len s.cap, .string v] (.one (.c .bool)) H k := by
  refine c_slices_Contains_Sl_string_string _ _ ?_
  unfold v_slices_Contains_Sl_string_string
  refine s_IndexS hs hl fun x hx => ?_
  have : decide (x ≥ 0) = decide (v ∈ xs) := decide_eq_decide.2 hx
  rw [this]; exact hk
theorem s_words {s : Sl} {xs : List ByteArray} (hs : RL Value.string H s xs) (hl : xs.length ≤ 2 ^ 60) (hx : ∀ x ∈ xs, x.size ≤ 2 ^ 60) {k : Bool → Heap → Prop} (hk : ∀ H', Ext H H' → k (wordsB xs) H') : CallT Pg f_world_words [.slice s.a s.len s.cap] (.one (.c .bool)) H k := by
  refine c_world_words _ ?_
  unfold v_world_words
  have hlen := hs.len
  have hcap := hs.cap
  refine LoopT.mk (fun i H' => Ext H H' ∧ ∃ n : Nat, i = n ∧ n ≤ xs.length ∧ ∀ j, j < n → (wordB (xs[j]!).data.toList && !decide (xs[j]! ∈ xs.take j)) = true) (fun i _ => xs.length - i.toNat) ⟨.refl _ _, 0, rfl, Nat.zero_le _, fun j hj => by omega⟩ ?_
  rintro next _ H1 ⟨hE1, n, rfl, hn, hall⟩ hnext
  refine Br_dec (fun hlt => ?_) fun hge => ?_
  · have hn2 : n < xs.length := by omega
    have hget : xs[n]! = xs[n] := getElem!_pos xs n hn2
    have no : ∀ H', Ext H H' → (wordB (xs[n]).data.toList && !decide (xs[n] ∈ xs.take n)) = false → k false H' := fun H' hE h => by
      have hkk := hk _ hE
      have : wordsB xs = false := by
        rw [Bool.eq_false_iff]
        intro e
        unfold wordsB at e
        have := List.all_eq_true.1 e n (List.mem_range.2 hn2)
        rw [hget, h] at this; cases this
      rwa [this] at hkk
    refine IxA_rl (hs.ext hE1) rfl hn2 fun a ha => Ld_str ha ?_
    refine Jn.mk (fun j H' => Ext H H' ∧ j = !(wordB (xs[n]).data.toList && !decide (xs[n] ∈ xs.take n))) (fun kk hkk => ?_) ?_
    · refine s_word (hx _ (List.getElem_mem hn2)) fun H3 hE3 => ?_
      have hE3' := hE1.trans hE3 fun _ _ h => h
      refine Br_not (Br.mk (fun h => ?_) fun h => hkk _ _ ⟨hE3', by rw [h]; rfl⟩)
      refine SlA0 (by omega) (by omega) (by omega) ?_
      rw [Int.toNat_natCast, Int.toNat_natCast]
      refine s_ContainsS ((hs.ext hE3').pre (n := n) (by omega) (by omega)) (by rw [List.length_take]; omega) (hkk _ _ ⟨hE3', ?_⟩)
      rw [h, Bool.true_and, Bool.not_not]
    rintro j H2 ⟨hE2, rfl⟩
    refine Br_not (Br.mk (fun h => ?_) fun h => no _ hE2 h)
    refine Lt.mk (u := ((n + 1 : Nat) : Int)) (by rw [wrap_i64_id] <;> omega) (hnext _ _ ⟨hE2, n + 1, rfl, hn2, fun j hj => ?_⟩ (by omega))
    rcases Nat.lt_or_ge j n with e | e
    · exact hall j e
    · have : j = n := by omega
      subst this; rw [hget]; exact h
  · have hne : n = xs.length := by omega
    subst hne
    have hkk := hk _ hE1
    rwa [show wordsB xs = true from List.all_eq_true.2 fun i hi => hall i (List.mem_range.1 hi)] at hkk
end Go.Proofs.YtlkmmplgfjicjaaGreat
