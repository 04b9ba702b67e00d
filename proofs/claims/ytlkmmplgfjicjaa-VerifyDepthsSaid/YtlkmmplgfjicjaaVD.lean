/-
  Rows of several cells without a thought for spots; maps of numbers; iteration over them; vectors at an offset.
-/
import Derived.Test.YtlkmmplgfjicjaaHcLawB
import Derived.Test.YtlkmmplgfjicjaaVVer
namespace Go.Proofs.Ytlkmmplgfjicjaa.Hc
set_option linter.unusedVariables false
set_option linter.unusedSimpArgs false

theorem addAdd (a : Addr) (n m : Nat) : (a.add n).add m = a.add (n + m) := by
  unfold Addr.add
  by_cases h : n = 0
  · subst h; simp
  · by_cases h2 : m = 0
    · subst h2; simp [h]
    · rw [if_neg h, if_neg h2, if_neg (by omega)]
      simp [Nat.add_assoc]
theorem hcellsShift {H : Heap} {a : Addr} {n : Nat} : ∀ {vs : List Value} {i : Nat}, hcells H a (n + i) vs ↔ hcells H (a.add n) i vs
  | [], _ => Iff.rfl
  | _ :: _, i => by
    simp only [hcells]
    rw [addAdd, Nat.add_assoc, hcellsShift (i := i + 1)]
theorem hcells_app {H : Heap} {a : Addr} : ∀ {vs ws : List Value} {i : Nat}, hcells H a i (vs ++ ws) ↔ hcells H a i vs ∧ hcells H a (i + vs.length) ws
  | [], ws, i => by simp [hcells]
  | v :: vs, ws, i => by
    simp only [List.cons_append, hcells, List.length_cons]
    rw [hcells_app (vs := vs), and_assoc, show i + 1 + vs.length = i + (vs.length + 1) by omega]
/-- The address of an element, and its cells there. -/
theorem IxA_rn' {α : Type} [Inhabited α] {f : α → List Value} {n : Nat} (hf : ∀ e, (f e).length = n) {H : Heap} {s : Sl} {xs : List α} (h : RN f n H s xs) (hn : 0 < n) {i : Int} {k : Addr → Prop} {j : Nat} (hj : i = j) (hl : j < xs.length)
    (hk : ∀ a, hcells H a 0 (f xs[j]!) → k a) : IxA n s i k := by
  have hr := h.rd
  unfold rdL at hr
  cases ha : s.a with
  | none =>
    rw [ha] at hr
    have := flat_len hf (es := xs)
    rw [hr] at this
    simp only [List.length_nil] at this
    have : 0 < xs.length * n := Nat.mul_pos (by omega) hn
    omega
  | some a =>
    rw [ha] at hr
    subst hj
    refine IxA.mk ha (by omega) (by rw [h.len]; omega) ?_
    rw [Int.toNat_natCast]
    refine hk _ ?_
    obtain ⟨r, hrest⟩ := flat_drop hf hl
    have h1 := hcells_drop (m := j * n) hr
    rw [hrest, Nat.zero_add] at h1
    exact hcellsShift.1 (hcells_app.1 h1).1
theorem rn_of {α : Type} {f : α → List Value} {n : Nat} (hf : ∀ e, (f e).length = n) {H : Heap} {a : Addr} : ∀ {xs : List α} {m : Nat}, (∀ i (h : i < xs.length), hcells H (a.add ((m + i) * n)) 0 (f xs[i])) → hcells H a (m * n) (xs.flatMap f)
  | [], _, _ => trivial
  | x :: xs, m, h => by
    rw [List.flatMap_cons, hcells_app, hf]
    refine ⟨?_, ?_⟩
    · have := h 0 (by simp)
      rw [Nat.add_zero] at this
      exact hcellsShift.2 this
    · have := rn_of hf (H := H) (a := a) (xs := xs) (m := m + 1) fun i hi => by
        have := h (i + 1) (by simpa using hi)
        rw [show m + 1 + i = m + (i + 1) by omega]
        simpa using this
      rw [Nat.add_mul, Nat.one_mul] at this
      exact this
theorem RN.of_elems {α : Type} {f : α → List Value} {n : Nat} (hf : ∀ e, (f e).length = n) {H : Heap} {s : Sl} {xs : List α} (hl : s.len = xs.length) (hc : s.len ≤ s.cap) (h : ∀ i (h : i < xs.length), ∃ a, s.a = some a ∧ hcells H (a.add (i * n)) 0 (f xs[i])) : RN f n H s xs := by
  refine ⟨?_, hl, hc⟩
  unfold rdL
  cases ha : s.a with
  | none =>
    cases xs with
    | nil => rfl
    | cons x xs => obtain ⟨a, e, _⟩ := h 0 (by simp); rw [ha] at e; cases e
  | some a =>
    dsimp only
    have := rn_of hf (H := H) (a := a) (xs := xs) (m := 0) fun i hi => by
      obtain ⟨a', e, hcell⟩ := h i hi
      rw [ha] at e; cases e
      rw [Nat.zero_add]; exact hcell
    simpa using this
/-- What a slice reads stays, where its block is not turned. -/
theorem RN.upd' {α : Type} {f : α → List Value} {n : Nat} {M : Nat → Prop} {H H' : Heap} (hu : Upd M H H') {s : Sl} {xs : List α} (h : RN f n H s xs) (hn : xs ≠ [] → ∀ a, s.a = some a → ¬ M a.block) : RN f n H' s xs := by
  by_cases e : xs = []
  · subst e
    refine ⟨?_, h.len, h.cap⟩
    have := h.rd
    unfold rdL at this ⊢
    cases s.a <;> trivial
  · exact h.upd hu (hn e)
theorem RN.lt {α : Type} {f : α → List Value} {n : Nat} (hf : ∀ e, (f e).length = n) (hn : 0 < n) {H : Heap} {s : Sl} {xs : List α} (h : RN f n H s xs) (hx : xs ≠ []) {a : Addr} (ha : s.a = some a) : a.block < H.size := by
  have hr := h.rd
  unfold rdL at hr
  rw [ha] at hr
  cases xs with
  | nil => exact absurd rfl hx
  | cons x xs =>
    have hl := hf x
    cases hfx : f x with
    | nil => rw [hfx] at hl; simp at hl; omega
    | cons v vs =>
      rw [List.flatMap_cons, hfx] at hr
      have := lt_of_cell hr.1
      rwa [add_block] at this

theorem vecN_pre {T : TypeId} {n : Nat} {H : Heap} {s : Sl} {vs : List Value} (h : VecN H T n s vs) {j c : Nat} (hj : j ≤ s.len) (hc : j ≤ c) (hc2 : c ≤ s.cap) : VecN H T n ⟨s.a, j, c⟩ (vs.take (j * n)) := by
  have hl := h.len
  have h1 : j * n ≤ s.len * n := Nat.mul_le_mul_right n hj
  refine ⟨by rw [List.length_take]; dsimp only; omega, ?_, hc⟩
  rcases h.own with ⟨g1, g2, g3⟩ | ⟨b, sp, g1, g2, g3⟩
  · exact .inl ⟨g1, by dsimp only; omega, by rw [g3]; simp⟩
  · refine .inr ⟨b, vs.drop (j * n) ++ sp, g1, by rw [← List.append_assoc, List.take_append_drop]; exact g2, ?_⟩
    have := Nat.mul_le_mul_right n hc2
    simp only [List.length_take, List.length_append, List.length_drop]
    omega

/-! ### maps of numbers -/
def entsF : Nat → List Nat → List MapEntry
  | _, [] => []
  | n, d :: ds => { key := .int .i64 (d : Nat), val := .bool true, born := n } :: entsF (n + 1) ds
theorem entsF_len : ∀ (n : Nat) (ds : List Nat), (entsF n ds).length = ds.length
  | _, [] => rfl
  | n, d :: ds => by simp [entsF, entsF_len (n + 1) ds]
theorem entsF_snoc : ∀ (n : Nat) (ds : List Nat) (d : Nat), entsF n (ds ++ [d]) = entsF n ds ++ [{ key := .int .i64 (d : Nat), val := .bool true, born := n + ds.length }]
  | n, [], d => by simp [entsF]
  | n, e :: ds, d => by
    simp only [List.cons_append, entsF, entsF_snoc (n + 1) ds d, List.length_cons]
    congr 4
    omega
theorem entsF_mem : ∀ {n : Nat} {ds : List Nat} {e : MapEntry}, e ∈ entsF n ds → n ≤ e.born ∧ e.born < n + ds.length ∧ e.key = .int .i64 ((ds[e.born - n]! : Nat) : Int)
  | n, d :: ds, e, h => by
    rcases List.mem_cons.1 h with rfl | h
    · refine ⟨Nat.le_refl _, by simp, ?_⟩
      simp
    · obtain ⟨h1, h2, h3⟩ := entsF_mem h
      refine ⟨by omega, by simp only [List.length_cons]; omega, ?_⟩
      rw [h3]
      obtain ⟨q, hq⟩ : ∃ q, e.born - n = q + 1 := ⟨e.born - n - 1, by omega⟩
      rw [hq, show e.born - (n + 1) = q by omega]
      simp
theorem entsF_find : ∀ {n : Nat} {ds : List Nat} {j : Nat}, j < ds.length → (entsF n ds).find? (fun x => x.born == n + j) = some { key := .int .i64 ((ds[j]! : Nat) : Int), val := .bool true, born := n + j }
  | n, d :: ds, 0, _ => by simp [entsF]
  | n, d :: ds, j + 1, h => by
    have hne : (n == n + (j + 1)) = false := beq_eq_false_iff_ne.2 (by omega)
    simp only [entsF, List.find?_cons, hne]
    have := entsF_find (n := n + 1) (ds := ds) (j := j) (by simpa using h)
    rw [show n + (j + 1) = n + 1 + j by omega]
    simpa using this
theorem entsF_findNow {x : Nat} : ∀ {n i : Nat} {ds : List Nat}, Instr.findNow (.int .i64) (.int .i64 (x : Nat)) (entsF n ds) i = some (if x ∈ ds then (Instr.findNow (.int .i64) (.int .i64 (x : Nat)) (entsF n ds) i).getD none else none) ∧
    (x ∈ ds → ∃ j, Instr.findNow (.int .i64) (.int .i64 (x : Nat)) (entsF n ds) i = some (some (j, .bool true)))
  | n, i, [] => by simp [entsF, Instr.findNow]
  | n, i, d :: ds => by
    have hs : Instr.sameNow (.int .i64) (.int .i64 (x : Nat)) (.int .i64 (d : Nat)) = some (((x : Nat) : Int) == (d : Nat)) := by simp [Instr.sameNow]
    unfold entsF Instr.findNow
    dsimp only
    rw [hs]
    by_cases h : x = d
    · subst h; simp
    · have hb : (((x : Nat) : Int) == ((d : Nat) : Int)) = false := beq_eq_false_iff_ne.2 (by omega)
      rw [hb]
      dsimp only
      obtain ⟨h1, h2⟩ := entsF_findNow (x := x) (n := n + 1) (i := i + 1) (ds := ds)
      refine ⟨?_, fun hx => h2 ((List.mem_cons.1 hx).resolve_left h)⟩
      by_cases hx : x ∈ ds
      · rw [if_pos (List.mem_cons.2 (.inr hx))]
        rw [if_pos hx] at h1; exact h1
      · rw [if_neg (fun e => (List.mem_cons.1 e).elim h hx)]
        rw [if_neg hx] at h1; exact h1
/-- A map whose keys are these numbers, as they came. -/
def MapI (H : Heap) (v : Value) (ds : List Nat) : Prop := (v = .map none ∧ ds = []) ∨ ∃ r, v = .map (some r) ∧ H[r]? = some (.map ⟨entsF 0 ds⟩ ds.length)
theorem MapI.upd {M : Nat → Prop} {H H' : Heap} (hu : Upd M H H') {v : Value} {ds : List Nat} (h : MapI H v ds) (hn : ∀ r, v = .map (some r) → ¬ M r) : MapI H' v ds := by
  rcases h with h | ⟨r, h1, h2⟩
  · exact .inl h
  · exact .inr ⟨r, h1, hu.keep h2 (hn r h1)⟩
theorem MapI.ents {H : Heap} {v : Value} {ds : List Nat} (h : MapI H v ds) : MpE H v (entsF 0 ds) := by
  rcases h with ⟨h1, h2⟩ | ⟨r, h1, h2⟩
  · subst h2; exact .inl ⟨h1, rfl⟩
  · exact .inr ⟨r, _, h1, h2⟩
theorem MpN_i {H : Heap} {v : Value} {ds : List Nat} {k : Int → Prop} (h : MapI H v ds) (hk : k (ds.length : Nat)) : MpN v H k := ⟨_, h.ents, by rw [entsF_len]; exact hk⟩
theorem MpL_i {H : Heap} {v : Value} {ds : List Nat} {x : Nat} {k : Bool → Bool → Prop} (h : MapI H v ds) (hk : k (decide (x ∈ ds)) (decide (x ∈ ds))) : MpL (.int .i64) (.c .bool) false v (.int .i64 (x : Nat)) H k := by
  refine ⟨_, h.ents, ?_⟩
  obtain ⟨h1, h2⟩ := entsF_findNow (x := x) (n := 0) (i := 0) (ds := ds)
  by_cases hx : x ∈ ds
  · obtain ⟨j, hj⟩ := h2 hx
    rw [decide_eq_true hx] at hk
    exact .inl ⟨j, true, hj, hk⟩
  · rw [if_neg hx] at h1
    rw [decide_eq_false hx] at hk
    exact .inr ⟨h1, hk⟩
/-- A number that is not there yet. -/
theorem MpU_i {H : Heap} {r : Nat} {ds : List Nat} {x : Nat} {k : Heap → Prop} (h : H[r]? = some (.map ⟨entsF 0 ds⟩ ds.length)) (hx : x ∉ ds) (hk : ∀ H', Upd (· = r) H H' → H'.size = H.size → H'[r]? = some (.map ⟨entsF 0 (ds ++ [x])⟩ (ds ++ [x]).length) → k H') :
    MpU (.int .i64) (.map (some r)) (.int .i64 (x : Nat)) (.bool true) H k := by
  refine ⟨r, _, _, rfl, h, .inr ⟨?_, hk _ ⟨by simp, fun b hb hn => ?_⟩ (by simp) ?_⟩⟩
  · obtain ⟨h1, _⟩ := entsF_findNow (x := x) (n := 0) (i := 0) (ds := ds)
    rw [if_neg hx] at h1; exact h1
  · simp only [Array.getElem?_setIfInBounds]; rw [if_neg (fun e => hn e.symm)]
  · have := lt_of_get h
    simp only [Array.getElem?_setIfInBounds, this, if_true]
    rw [entsF_snoc]
    simp
theorem MkM_i {H : Heap} {k : Value → Heap → Prop} (hk : ∀ r H', r = H.size → Ext H H' → H'.size = H.size + 1 → H'[r]? = some (.map ⟨entsF 0 []⟩ ([] : List Nat).length) → k (.map (some r)) H') : MkM H k :=
  hk _ _ rfl (Upd.push _ _ _) (by simp) (get_push_new _ _)

/-- All numbers of a map, in whatever order. -/
theorem MpRange_i {H : Heap} {v : Value} {ds : List Nat} (hm : MapI H v ds) {M0 : Nat → Prop} (hM : ∀ r, v = .map (some r) → ¬ M0 r) (I : List Nat → Heap → Prop) {DONE : Heap → Prop} {BODY : Int → Heap → (Heap → Prop) → Prop}
    (h0 : ∀ H', Ext H H' → I [] H')
    (hdone : ∀ H' seen, Upd M0 H H' → I seen H' → (∀ d, d ∈ ds → d ∈ seen) → DONE H')
    (hstep : ∀ H' H'' seen, Upd M0 H H' → Upd M0 H H'' → Upd (· = H.size) H' H'' → I seen H' → I seen H'')
    (hbody : ∀ H' seen (d : Nat) (nx : Heap → Prop), Upd M0 H H' → H.size < H'.size → I seen H' → d ∈ ds → d ∉ seen → (∀ H'', Upd M0 H H'' → H'.size ≤ H''.size → H''[H.size]? = H'[H.size]? → I (d :: seen) H'' → nx H'') → BODY (d : Nat) H' nx) (hnd : ds.Nodup) :
    MpR v H fun a H8 => LoopT (σ := Unit) (fun next _ H9 => MpXk a H9 (fun H10 => DONE H10) fun _ _ H11 => MpC a H11 fun x7 _ => AsI .i64 x7 fun n1 => BODY n1 H11 (next ())) () H8 := by
  rcases hm with ⟨rfl, rfl⟩ | ⟨r, rfl, hr⟩
  · refine .inl ⟨rfl, ?_⟩
    have hE : Ext H (H.push (.mapIter none 0 #[] 0)) := Upd.push _ _ _
    refine LoopT.mk (fun _ H' => H.push (.mapIter none 0 #[] 0) = H') (fun _ _ => 0) rfl ?_
    rintro next _ _ rfl _
    refine ⟨rfl, .inl ⟨_, _, _, get_push_new _ _, ?_⟩⟩
    exact hdone _ [] (hE.mono fun _ _ h => h.elim) (h0 _ hE) fun d hd => by cases hd
  · refine .inr ⟨r, _, _, rfl, hr, ?_⟩
    have hE : Ext H (H.push (.mapIter (some r) ds.length #[] ds.length)) := Upd.push _ _ _
    have hrl := lt_of_get hr
    have hM := hM r rfl
    refine LoopT.ghost (fun m _ H' => ∃ (st : List Nat), m = ds.length - st.length ∧ (∀ j ∈ st, j < ds.length) ∧ st.Nodup ∧ Upd M0 H H' ∧ H.size < H'.size ∧ H'[H.size]? = some (.mapIter (some r) ds.length ⟨st.reverse⟩ ds.length) ∧ I (st.map fun j => ds[j]!) H') (ds.length - 0)
      ⟨[], rfl, (fun j hj => by cases hj), List.nodup_nil, hE.mono (fun _ _ h => h.elim), by simp, get_push_new _ _, h0 _ hE⟩ ?_
    rintro next m _ H9 ⟨st, rfl, hst, hnds, hU, hsz, hit, hI⟩ hnext
    have hmap : H9[r]? = some (.map ⟨entsF 0 ds⟩ ds.length) := hU.keep hr hM
    refine ⟨rfl, .inr ⟨r, _, _, _, hit, hmap, fun e he => ?_, fun hall => ?_, fun e he hns => ?_⟩⟩
    · have := (entsF_mem he).2.1; omega
    · refine hdone _ _ hU hI fun d hd => ?_
      obtain ⟨j, hj, rfl⟩ := List.getElem_of_mem hd
      have hfe := List.mem_of_find?_eq_some (entsF_find (n := 0) (ds := ds) (j := j) hj)
      have := hall _ hfe
      simp only [Nat.zero_add, List.contains_toArray, List.contains_eq_mem, List.mem_reverse, decide_eq_true_eq] at this
      exact List.mem_map.2 ⟨j, this, getElem!_pos ds j hj⟩
    · obtain ⟨_, hb, hkey⟩ := entsF_mem he
      rw [Nat.zero_add] at hb
      rw [Nat.sub_zero] at hkey
      have hns' : e.born ∉ st := by simpa using hns
      have hU2 : Upd (· = H.size) H9 (H9.setIfInBounds H.size (.mapIter (some r) ds.length ((⟨st.reverse⟩ : Array Nat).push e.born) ds.length)) :=
        ⟨by simp, fun b hb hn => by simp only [Array.getElem?_setIfInBounds]; rw [if_neg (fun e => hn e.symm)]⟩
      have hU3 : Upd M0 H (H9.setIfInBounds H.size (.mapIter (some r) ds.length ((⟨st.reverse⟩ : Array Nat).push e.born) ds.length)) := hU.trans hU2 fun b hb e => by omega
      have hit2 : (H9.setIfInBounds H.size (.mapIter (some r) ds.length ((⟨st.reverse⟩ : Array Nat).push e.born) ds.length))[H.size]? = some (.mapIter (some r) ds.length ⟨(e.born :: st).reverse⟩ ds.length) := by
        simp only [Array.getElem?_setIfInBounds, hsz, if_true]
        congr 2
        simp
      have hcell : MpC ⟨H.size, 0, none⟩ (H9.setIfInBounds H.size (.mapIter (some r) ds.length ((⟨st.reverse⟩ : Array Nat).push e.born) ds.length)) fun x7 _ => AsI .i64 x7 fun n1 => BODY n1 (H9.setIfInBounds H.size (.mapIter (some r) ds.length ((⟨st.reverse⟩ : Array Nat).push e.born) ds.length)) (next ()) := by
        refine ⟨rfl, r, _, _, _, _, e.born, { key := .int .i64 ((ds[e.born]! : Nat) : Int), val := .bool true, born := e.born }, hit2, hU3.keep hr hM, by simp, ?_, ?_⟩
        · have := entsF_find (n := 0) (ds := ds) (j := e.born) hb
          simpa using this
        · show AsI .i64 (.int .i64 ((ds[e.born]! : Nat) : Int)) _
          unfold AsI
          dsimp only
          rw [if_pos rfl]
          refine hbody _ (st.map fun j => ds[j]!) ds[e.born]! _ hU3 (by simpa using hsz) (hstep _ _ _ hU hU3 hU2 hI) ?_ ?_ fun H'' g1 g2 g3 g4 => ?_
          · rw [getElem!_pos ds _ hb]; exact List.getElem_mem _
          · intro hmem
            obtain ⟨j, hj, hje⟩ := List.mem_map.1 hmem
            have hj2 := hst j hj
            rw [getElem!_pos ds j hj2, getElem!_pos ds _ hb] at hje
            have hjb : j = e.born := (List.getElem_inj hnd).1 hje
            exact hns' (hjb ▸ hj)
          · refine hnext (ds.length - (e.born :: st).length) () H'' ?_ ⟨e.born :: st, rfl, fun j hj => ?_, List.nodup_cons.2 ⟨hns', hnds⟩, g1, ?_, by rw [g3]; exact hit2, g4⟩
            · have hlen : st.length < ds.length := by
                have hsub : (e.born :: st).length ≤ (List.range ds.length).length := by
                  refine (List.nodup_cons.2 ⟨hns', hnds⟩).length_le_of_subset fun j hj => ?_
                  rcases List.mem_cons.1 hj with rfl | hj
                  · exact List.mem_range.2 hb
                  · exact List.mem_range.2 (hst j hj)
                simp only [List.length_cons, List.length_range] at hsub
                omega
              simp only [List.length_cons]
              omega
            · rcases List.mem_cons.1 hj with rfl | hj
              · exact hb
              · exact hst j hj
            · have : H9.size ≤ H''.size := by simpa using g2
              omega
      exact hcell
end Go.Proofs.Ytlkmmplgfjicjaa.Hc
/-
  What an instruction takes and puts.
-/
namespace Go.Proofs.Ytlkmmplgfjicjaa
set_option linter.unusedVariables false
set_option linter.unusedSimpArgs false
open Go.Proofs.Ytlkmmplgfjicjaa.Hc Go.Proofs.Ytlkmmplgfjicjaa.Hc.Vf
set_option maxRecDepth 100000

/-- Has it an A? -/
def numB (op : Int) : Bool := [1, 2, 3, 4, 5, 19, 20, 21, 26, 28, 29, 35].contains op
def shp (op : Int) : Bool × Int × Int × Int := if isOpB op then (numB op, (tbl[op.toNat]!).1, (tbl[op.toNat]!).2.1, ((tbl[op.toNat]!).2.2 : Nat)) else (false, 0, 0, 0)
theorem shp_no {op : Int} (h : ¬ (1 ≤ op ∧ op ≤ 39)) : shp op = (false, 0, 0, 0) := by
  unfold shp isOpB; rw [decide_eq_false h]; rfl
theorem extUpd {H H1 H2 : Heap} {b : Nat} (hE : Ext H H1) (hb : H.size ≤ b) (hU : Upd (· = b) H1 H2) : Ext H H2 := hE.trans hU fun c hc e => by omega
theorem shape_put {H : Heap} {b : Nat} {x0 x1 x2 x3 x4 : Value} (hr : Row H b T_code_shape [x0, x1, x2, x3, x4]) {w : ByteArray} {n : Bool} {t p y : Int} {k : ByteArray × Bool × Int × Int × Int → Heap → Prop}
    (hk : ∀ H', Upd (· = b) H H' → Row H' b T_code_shape [.string w, .bool n, .int .i64 t, .int .i64 p, .int .i64 y] → k (w, n, t, p, y) H') :
    St ((adr b).add 0) (.string w) H fun H2 =>
      St ((adr b).add 1) (.bool n) H2 fun H3 =>
      St ((adr b).add 2) (.int .i64 t) H3 fun H4 =>
      St ((adr b).add 3) (.int .i64 p) H4 fun H5 =>
      St ((adr b).add 4) (.int .i64 y) H5 fun H6 =>
      LdC [.str, .bool, (.int .i64), (.int .i64), (.int .i64)] (adr b) H6 fun (c1 : ByteArray × Bool × Int × Int × Int) =>
      k (c1.1, c1.2.1, c1.2.2.1, c1.2.2.2.1, c1.2.2.2.2) H6 := by
  simp only [adr_add]
  refine St_row hr (by simp) fun H2 hU2 _ hr2 => St_row hr2 (by simp) fun H3 hU3 _ hr3 => St_row hr3 (by simp) fun H4 hU4 _ hr4 => St_row hr4 (by simp) fun H5 hU5 _ hr5 => St_row hr5 (by simp) fun H6 hU6 _ hr6 => ?_
  have hU : Upd (· = b) H H6 := (((hU2.trans hU3 fun _ _ h => h).trans hU4 fun _ _ h => h).trans hU5 fun _ _ h => h).trans hU6 fun _ _ h => h
  exact ⟨(w, n, t, p, y), hr6.rd_all, hk H6 hU hr6⟩
theorem beqI {a b : Int} (h : (a == b) = true) : a = b := by simpa using h
theorem bneI {a b : Int} (h : (a == b) = false) : a ≠ b := by simpa using h

theorem s_reckons {op : Int} {H : Heap} (hop : op < 19) {k : ByteArray × Bool × Int × Int × Int → Heap → Prop} (hk : ∀ H' w, Ext H H' → k (w, (shp op).1, (shp op).2.1, (shp op).2.2.1, (shp op).2.2.2) H') : CallT Pg f_code_reckons [.int .i64 op] (.one (.agg [.str, .bool, (.int .i64), (.int .i64), (.int .i64)])) H k := by
  refine c_code_reckons _ ?_
  unfold v_code_reckons
  refine Nw_row (vs := [.string ByteArray.empty, .bool false, .int .i64 0, .int .i64 0, .int .i64 0]) fun b1 H1 hb hE _ hr => ?_
  refine Br.mk (fun h => ?_) fun h1 => ?_
  · have h := beqI h; subst h; exact shape_put hr fun H' hU _ => hk H' _ (extUpd hE (by omega) hU)
  refine Br.mk (fun h => ?_) fun h2 => ?_
  · have h := beqI h; subst h; exact shape_put hr fun H' hU _ => hk H' _ (extUpd hE (by omega) hU)
  refine Br.mk (fun h => ?_) fun h3 => ?_
  · have h := beqI h; subst h; exact shape_put hr fun H' hU _ => hk H' _ (extUpd hE (by omega) hU)
  refine Br.mk (fun h => ?_) fun h4 => ?_
  · have h := beqI h; subst h; exact shape_put hr fun H' hU _ => hk H' _ (extUpd hE (by omega) hU)
  refine Br.mk (fun h => ?_) fun h5 => ?_
  · have h := beqI h; subst h; exact shape_put hr fun H' hU _ => hk H' _ (extUpd hE (by omega) hU)
  refine Br.mk (fun h => ?_) fun h6 => ?_
  · have h := beqI h; subst h; exact shape_put hr fun H' hU _ => hk H' _ (extUpd hE (by omega) hU)
  refine Br.mk (fun h => ?_) fun h7 => ?_
  · have h := beqI h; subst h; exact shape_put hr fun H' hU _ => hk H' _ (extUpd hE (by omega) hU)
  refine Br.mk (fun h => ?_) fun h8 => ?_
  · have h := beqI h; subst h; exact shape_put hr fun H' hU _ => hk H' _ (extUpd hE (by omega) hU)
  refine Br.mk (fun h => ?_) fun h9 => ?_
  · have h := beqI h; subst h; exact shape_put hr fun H' hU _ => hk H' _ (extUpd hE (by omega) hU)
  refine Br.mk (fun h => ?_) fun h10 => ?_
  · have h := beqI h; subst h; exact shape_put hr fun H' hU _ => hk H' _ (extUpd hE (by omega) hU)
  refine Br.mk (fun h => ?_) fun h11 => ?_
  · have h := beqI h; subst h; exact shape_put hr fun H' hU _ => hk H' _ (extUpd hE (by omega) hU)
  refine Br.mk (fun h => ?_) fun h12 => ?_
  · have h := beqI h; subst h; exact shape_put hr fun H' hU _ => hk H' _ (extUpd hE (by omega) hU)
  refine Br.mk (fun h => ?_) fun h13 => ?_
  · have h := beqI h; subst h; exact shape_put hr fun H' hU _ => hk H' _ (extUpd hE (by omega) hU)
  refine Br.mk (fun h => ?_) fun h14 => ?_
  · have h := beqI h; subst h; exact shape_put hr fun H' hU _ => hk H' _ (extUpd hE (by omega) hU)
  refine Br.mk (fun h => ?_) fun h15 => ?_
  · have h := beqI h; subst h; exact shape_put hr fun H' hU _ => hk H' _ (extUpd hE (by omega) hU)
  refine Br.mk (fun h => ?_) fun h16 => ?_
  · have h := beqI h; subst h; exact shape_put hr fun H' hU _ => hk H' _ (extUpd hE (by omega) hU)
  refine Br.mk (fun h => ?_) fun h17 => ?_
  · have h := beqI h; subst h; exact shape_put hr fun H' hU _ => hk H' _ (extUpd hE (by omega) hU)
  refine Br.mk (fun h => ?_) fun h18 => ?_
  · have h := beqI h; subst h; exact shape_put hr fun H' hU _ => hk H' _ (extUpd hE (by omega) hU)
  refine shape_put hr fun H' hU _ => ?_
  have hk := hk H' ByteArray.empty (extUpd hE (by omega) hU)
  have h1 := bneI h1
  have h2 := bneI h2
  have h3 := bneI h3
  have h4 := bneI h4
  have h5 := bneI h5
  have h6 := bneI h6
  have h7 := bneI h7
  have h8 := bneI h8
  have h9 := bneI h9
  have h10 := bneI h10
  have h11 := bneI h11
  have h12 := bneI h12
  have h13 := bneI h13
  have h14 := bneI h14
  have h15 := bneI h15
  have h16 := bneI h16
  have h17 := bneI h17
  have h18 := bneI h18
  rw [shp_no (by omega)] at hk
  exact hk
theorem s_acts {op : Int} {H : Heap} (hop : ¬ op < 19) {k : ByteArray × Bool × Int × Int × Int → Heap → Prop} (hk : ∀ H' w, Ext H H' → k (w, (shp op).1, (shp op).2.1, (shp op).2.2.1, (shp op).2.2.2) H') : CallT Pg f_code_acts [.int .i64 op] (.one (.agg [.str, .bool, (.int .i64), (.int .i64), (.int .i64)])) H k := by
  refine c_code_acts _ ?_
  unfold v_code_acts
  refine Nw_row (vs := [.string ByteArray.empty, .bool false, .int .i64 0, .int .i64 0, .int .i64 0]) fun b1 H1 hb hE _ hr => ?_
  refine Br.mk (fun h => ?_) fun h19 => ?_
  · have h := beqI h; subst h; exact shape_put hr fun H' hU _ => hk H' _ (extUpd hE (by omega) hU)
  refine Br.mk (fun h => ?_) fun h20 => ?_
  · have h := beqI h; subst h; exact shape_put hr fun H' hU _ => hk H' _ (extUpd hE (by omega) hU)
  refine Br.mk (fun h => ?_) fun h21 => ?_
  · have h := beqI h; subst h; exact shape_put hr fun H' hU _ => hk H' _ (extUpd hE (by omega) hU)
  refine Br.mk (fun h => ?_) fun h22 => ?_
  · have h := beqI h; subst h; exact shape_put hr fun H' hU _ => hk H' _ (extUpd hE (by omega) hU)
  refine Br.mk (fun h => ?_) fun h23 => ?_
  · have h := beqI h; subst h; exact shape_put hr fun H' hU _ => hk H' _ (extUpd hE (by omega) hU)
  refine Br.mk (fun h => ?_) fun h24 => ?_
  · have h := beqI h; subst h; exact shape_put hr fun H' hU _ => hk H' _ (extUpd hE (by omega) hU)
  refine Br.mk (fun h => ?_) fun h25 => ?_
  · have h := beqI h; subst h; exact shape_put hr fun H' hU _ => hk H' _ (extUpd hE (by omega) hU)
  refine Br.mk (fun h => ?_) fun h26 => ?_
  · have h := beqI h; subst h; exact shape_put hr fun H' hU _ => hk H' _ (extUpd hE (by omega) hU)
  refine Br.mk (fun h => ?_) fun h27 => ?_
  · have h := beqI h; subst h; exact shape_put hr fun H' hU _ => hk H' _ (extUpd hE (by omega) hU)
  refine Br.mk (fun h => ?_) fun h28 => ?_
  · have h := beqI h; subst h; exact shape_put hr fun H' hU _ => hk H' _ (extUpd hE (by omega) hU)
  refine Br.mk (fun h => ?_) fun h29 => ?_
  · have h := beqI h; subst h; exact shape_put hr fun H' hU _ => hk H' _ (extUpd hE (by omega) hU)
  refine Br.mk (fun h => ?_) fun h30 => ?_
  · have h := beqI h; subst h; exact shape_put hr fun H' hU _ => hk H' _ (extUpd hE (by omega) hU)
  refine Br.mk (fun h => ?_) fun h31 => ?_
  · have h := beqI h; subst h; exact shape_put hr fun H' hU _ => hk H' _ (extUpd hE (by omega) hU)
  refine Br.mk (fun h => ?_) fun h32 => ?_
  · have h := beqI h; subst h; exact shape_put hr fun H' hU _ => hk H' _ (extUpd hE (by omega) hU)
  refine Br.mk (fun h => ?_) fun h33 => ?_
  · have h := beqI h; subst h; exact shape_put hr fun H' hU _ => hk H' _ (extUpd hE (by omega) hU)
  refine Br.mk (fun h => ?_) fun h34 => ?_
  · have h := beqI h; subst h; exact shape_put hr fun H' hU _ => hk H' _ (extUpd hE (by omega) hU)
  refine Br.mk (fun h => ?_) fun h35 => ?_
  · have h := beqI h; subst h; exact shape_put hr fun H' hU _ => hk H' _ (extUpd hE (by omega) hU)
  refine Br.mk (fun h => ?_) fun h36 => ?_
  · have h := beqI h; subst h; exact shape_put hr fun H' hU _ => hk H' _ (extUpd hE (by omega) hU)
  refine Br.mk (fun h => ?_) fun h37 => ?_
  · have h := beqI h; subst h; exact shape_put hr fun H' hU _ => hk H' _ (extUpd hE (by omega) hU)
  refine Br.mk (fun h => ?_) fun h38 => ?_
  · have h := beqI h; subst h; exact shape_put hr fun H' hU _ => hk H' _ (extUpd hE (by omega) hU)
  refine Br.mk (fun h => ?_) fun h39 => ?_
  · have h := beqI h; subst h; exact shape_put hr fun H' hU _ => hk H' _ (extUpd hE (by omega) hU)
  refine shape_put hr fun H' hU _ => ?_
  have hk := hk H' ByteArray.empty (extUpd hE (by omega) hU)
  have h19 := bneI h19
  have h20 := bneI h20
  have h21 := bneI h21
  have h22 := bneI h22
  have h23 := bneI h23
  have h24 := bneI h24
  have h25 := bneI h25
  have h26 := bneI h26
  have h27 := bneI h27
  have h28 := bneI h28
  have h29 := bneI h29
  have h30 := bneI h30
  have h31 := bneI h31
  have h32 := bneI h32
  have h33 := bneI h33
  have h34 := bneI h34
  have h35 := bneI h35
  have h36 := bneI h36
  have h37 := bneI h37
  have h38 := bneI h38
  have h39 := bneI h39
  rw [shp_no (by omega)] at hk
  exact hk
theorem s_shapeOf {op : Int} {H : Heap} {k : ByteArray × Bool × Int × Int × Int → Heap → Prop} (hk : ∀ H' w, Ext H H' → k (w, (shp op).1, (shp op).2.1, (shp op).2.2.1, (shp op).2.2.2) H') : CallT Pg f_code_shapeOf [.int .i64 op] (.one (.agg [.str, .bool, (.int .i64), (.int .i64), (.int .i64)])) H k := by
  refine c_code_shapeOf _ ?_
  unfold v_code_shapeOf
  refine Nw_row (vs := [.string ByteArray.empty, .bool false, .int .i64 0, .int .i64 0, .int .i64 0]) fun b1 H1 hb hE _ hr => ?_
  refine Br_dec (fun h => s_reckons h fun H2 w hE2 => ?_) fun h => s_acts h fun H2 w hE2 => ?_
  all_goals
    have hE' := hE.trans hE2 fun _ _ h => h
    exact shape_put (hE2.row hr fun h => h) fun H' hU _ => hk H' _ (extUpd hE' (by omega) hU)
theorem s_isOp {op : Int} {H : Heap} {k : Bool → Heap → Prop} (hk : k (isOpB op) H) : CallT Pg f_code_isOp [.int .i64 op] (.one (.c .bool)) H k := by
  refine c_code_isOp _ ?_
  unfold v_code_isOp
  refine Jn.mk (fun j H' => H = H' ∧ j = isOpB op) (fun kk hkk => ?_) (by rintro j _ ⟨rfl, rfl⟩; exact hk)
  refine Br_dec (fun h => hkk _ _ ⟨rfl, ?_⟩) fun h => hkk _ _ ⟨rfl, ?_⟩
  · exact decide_eq_decide.2 (by omega)
  · exact (decide_eq_false (by omega)).symm
theorem s_rIsOp {op : Int} {H : Heap} {k : Bool → Heap → Prop} (hk : k (isOpB op) H) : CallT Pg f_hindcastref13_IsOp [.int .i64 op] (.one (.c .bool)) H k := by
  refine c_hindcastref13_IsOp _ ?_
  unfold v_hindcastref13_IsOp
  refine Jn.mk (fun j H' => H = H' ∧ j = isOpB op) (fun kk hkk => ?_) (by rintro j _ ⟨rfl, rfl⟩; exact hk)
  refine Br_dec (fun h => hkk _ _ ⟨rfl, ?_⟩) fun h => hkk _ _ ⟨rfl, ?_⟩
  · exact decide_eq_decide.2 (by omega)
  · exact (decide_eq_false (by omega)).symm
end Go.Proofs.Ytlkmmplgfjicjaa
/-
  What an instruction takes and puts: of a program's routines.
-/
namespace Go.Proofs.Ytlkmmplgfjicjaa
set_option linter.unusedVariables false
set_option linter.unusedSimpArgs false
open Go.Proofs.Ytlkmmplgfjicjaa.Hc Go.Proofs.Ytlkmmplgfjicjaa.Hc.Vf
set_option maxRecDepth 100000

/-- A routine as it lies in memory, and its code. -/
structure Rou where
  name : ByteArray
  params : Int
  locals : Int
  sl : Sl
  code : List Ins
instance : Inhabited Sl := ⟨⟨none, 0, 0⟩⟩
instance : Inhabited Rou := ⟨⟨ByteArray.empty, 0, 0, ⟨none, 0, 0⟩, []⟩⟩
abbrev rouV (r : Rou) : List Value := [.string r.name, .int .i64 r.params, .int .i64 r.locals, slV r.sl]
abbrev insV (i : Ins) : List Value := [.int .i64 i.1, .int .i64 i.2]
theorem rouV_len (r : Rou) : (rouV r).length = 4 := rfl
theorem insV_len (i : Ins) : (insV i).length = 2 := rfl
abbrev parms (fs : List Rou) : List Int := fs.map (·.params)
theorem Br_not {x : Bool} {X Y : Prop} (h : Br x Y X) : Br (!x) X Y := by cases x <;> exact h
theorem parms_get {fs : List Rou} {j : Nat} (h : j < fs.length) : (parms fs)[j]! = (fs[j]!).params := by
  rw [getElem!_pos (parms fs) j (by simpa using h), getElem!_pos fs j h]; simp
theorem s_Effect {H : Heap} {i : Ins} {funcs : Sl} {fs : List Rou} (hf : RN rouV 4 H funcs fs) {k : Int × Int → Heap → Prop} (hk : ∀ H', Ext H H' → k (takes (parms fs) i, puts i) H') :
    CallT Pg f_code_Effect [.agg #[.int .i64 i.1, .int .i64 i.2], .slice funcs.a funcs.len funcs.cap] (.tup [(.c (.int .i64)), (.c (.int .i64))]) H k := by
  refine c_code_Effect _ _ ?_
  unfold v_code_Effect
  refine Nw_row (vs := insV i) fun b1 H1 hb1 hE1 hz1 hr1 => ?_
  simp only [adr_add]
  refine Ld_int ((hr1.cell 0).trans rfl) (s_isOp (Br_not (Br.mk (fun hop => ?_) fun hop => ?_)))
  · refine Ld_int ((hr1.cell 0).trans rfl) (s_shapeOf fun H3 w hE3 => ?_)
    have hE3' := hE1.trans hE3 fun _ _ h => h
    refine Nw_row (vs := [.string ByteArray.empty, .bool false, .int .i64 0, .int .i64 0, .int .i64 0]) fun b2 H4 hb2 hE4 hz4 hr4 => ?_
    refine St_row hr4 (by simp) fun H5 hU5 _ hr5 => St_row hr5 (by simp) fun H6 hU6 _ hr6 => St_row hr6 (by simp) fun H7 hU7 _ hr7 => St_row hr7 (by simp) fun H8 hU8 _ hr8 => St_row hr8 (by simp) fun H9 hU9 _ hr9 => ?_
    have z3 := hE3'.size
    have hU : Upd (· = b2) H4 H9 := (((hU5.trans hU6 fun _ _ h => h).trans hU7 fun _ _ h => h).trans hU8 fun _ _ h => h).trans hU9 fun _ _ h => h
    have hE9 : Ext H H9 := extUpd (hE3'.trans hE4 fun _ _ h => h) (by omega) hU
    have hshp : shp i.1 = (numB i.1, (tbl[i.1.toNat]!).1, (tbl[i.1.toNat]!).2.1, (((tbl[i.1.toNat]!).2.2 : Nat) : Int)) := by unfold shp; rw [if_pos hop]
    rw [hshp] at hr9
    dsimp only at hr9
    have hI : Row H9 b1 T_api_Instr (insV i) := hU.row (hE4.row (hE3.row hr1 fun h => h) fun h => h) (by have := hr1.lt; have := hE3.size; omega)
    have hfx := (hf.ext hE9)
    have hx1 : hcell H9 ⟨b1, 1, none⟩ = some (.int .i64 i.2) := (hI.cell 1).trans rfl
    have hy4 : hcell H9 ⟨b2, 4, none⟩ = some (.int .i64 ((tbl[i.1.toNat]!).2.2 : Nat)) := (hr9.cell 4).trans rfl
    have htk : takes (parms fs) i = (if (tbl[i.1.toNat]!).2.2 = 1 then (if 0 ≤ i.2 ∧ i.2 < (parms fs).length then max ((parms fs)[i.2.toNat]!) 0 else 0)
     else if (tbl[i.1.toNat]!).2.2 = 2 then (if 0 ≤ i.2 then i.2 % 8 else 0)
     else (tbl[i.1.toNat]!).1) := by unfold takes; rw [if_pos hop]
    have hpt : puts i = (tbl[i.1.toNat]!).2.1 := by unfold puts; rw [if_pos hop]
    have hby : ∀ r ∈ tbl, r.2.2 = 1 ∨ r.2.2 = 2 → r.1 = 0 := by decide
    have hby0 := hby _ (tbl_get hop)
    generalize tbl[i.1.toNat]! = row at *
    rw [List.length_map] at htk
    refine Jn.mk (fun _ H' => Upd (· = b2) H9 H' ∧ hcell H' ⟨b2, 2, none⟩ = some (.int .i64 (takes (parms fs) i)) ∧ hcell H' ⟨b2, 3, none⟩ = some (.int .i64 (puts i))) (fun kk hkk => ?_) ?_
    · have hsame : takes (parms fs) i = row.1 → kk () H9 := fun e => hkk _ _ ⟨.refl _ _, by rw [e]; exact (hr9.cell 2).trans rfl, by rw [hpt]; exact (hr9.cell 3).trans rfl⟩
      have hput : ∀ x, takes (parms fs) i = x → St ⟨b2, 2, none⟩ (.int .i64 x) H9 fun H13 => kk () H13 := fun x e => St_row hr9 (by simp) fun H13 hU13 _ hr13 => hkk _ _ ⟨hU13, by rw [e]; exact (hr13.cell 2).trans rfl, by rw [hpt]; exact (hr13.cell 3).trans rfl⟩
      refine Jn.mk (fun j H' => H9 = H' ∧ j = decide (row.2.2 = 1 ∧ 0 ≤ i.2 ∧ i.2 < funcs.len)) (fun kk2 hkk2 => ?_) ?_
      · refine Ld_int hy4 (Br.mk (fun h => ?_) fun h => hkk2 _ _ ⟨rfl, ?_⟩)
        · have h := beqI h
          refine Ld_int hx1 (Br_dec (fun h2 => Ld_int hx1 (hkk2 _ _ ⟨rfl, ?_⟩)) fun h2 => hkk2 _ _ ⟨rfl, (decide_eq_false (by omega)).symm⟩)
          exact decide_eq_decide.2 (by omega)
        · have h := bneI h
          exact (decide_eq_false (by omega)).symm
      rintro j _ ⟨rfl, rfl⟩
      refine Jn_in (Br_dec (fun h => ?_) fun h => ?_)
      · obtain ⟨h1, h2, h3⟩ := h
        rw [hf.len] at h3
        have hj : i.2.toNat < fs.length := by omega
        refine Ld_int hx1 (IxA_rn' rouV_len hfx (by omega) (j := i.2.toNat) (by omega) hj fun a ha => Ld_int (n := (fs[i.2.toNat]!).params) ha.2.1 (hput _ ?_))
        rw [htk, if_pos h1, if_pos ⟨h2, by omega⟩, parms_get hj]
        split <;> omega
      · refine Jn.mk (fun j H' => H9 = H' ∧ j = decide (row.2.2 = 2 ∧ 0 ≤ i.2)) (fun kk4 hkk4 => ?_) ?_
        · refine Ld_int hy4 (Br.mk (fun h => ?_) fun h => hkk4 _ _ ⟨rfl, ?_⟩)
          · have h := beqI h
            exact Ld_int hx1 (hkk4 _ _ ⟨rfl, decide_eq_decide.2 (by omega)⟩)
          · have h := bneI h
            exact (decide_eq_false (by omega)).symm
        rintro j _ ⟨rfl, rfl⟩
        refine Jn_in (Br_dec (fun h5 => ?_) fun h5 => hsame ?_)
        · refine Ld_int hx1 ⟨by decide, ?_⟩
          rw [Int.tmod_eq_emod_of_nonneg h5.2]
          refine hput _ ?_
          rw [htk, if_neg (by omega), if_pos h5.1, if_pos h5.2]
        · rw [htk]
          rw [hf.len] at h
          by_cases e1 : row.2.2 = 1
          · rw [if_pos e1, if_neg (by omega), hby0 (.inl e1)]
          · rw [if_neg e1]
            by_cases e2 : row.2.2 = 2
            · rw [if_pos e2, if_neg (by omega), hby0 (.inr e2)]
            · rw [if_neg e2]
    · rintro _ H10 ⟨hU10, h2, h3⟩
      exact Ld_int h2 (Ld_int h3 (hk _ (extUpd hE9 (by omega) hU10)))
  · have h1 : takes (parms fs) i = 0 := by unfold takes; rw [if_neg (by rw [hop]; simp)]
    have h2 : puts i = 0 := by unfold puts; rw [if_neg (by rw [hop]; simp)]
    have := hk H1 hE1
    rwa [h1, h2] at this
def refL : List (ByteArray × Bool × Int × Int) :=
  [(⟨⟨[]⟩⟩, false, 0, 0), (⟨⟨[112, 117, 115, 104]⟩⟩, true, 0, 1), (⟨⟨[108, 111, 97, 100]⟩⟩, true, 0, 1), (⟨⟨[115, 116, 111, 114, 101]⟩⟩, true, 1, 0), (⟨⟨[102, 105, 101, 108, 100]⟩⟩, true, 0, 1), (⟨⟨[112, 117, 116]⟩⟩, true, 1, 0), (⟨⟨[97, 100, 100]⟩⟩, false, 2, 1), (⟨⟨[115, 117, 98]⟩⟩, false, 2, 1), (⟨⟨[109, 117, 108]⟩⟩, false, 2, 1), (⟨⟨[100, 105, 118]⟩⟩, false, 2, 1), (⟨⟨[114, 101, 109]⟩⟩, false, 2, 1), (⟨⟨[110, 101, 103]⟩⟩, false, 1, 1), (⟨⟨[101, 113]⟩⟩, false, 2, 1), (⟨⟨[110, 101]⟩⟩, false, 2, 1), (⟨⟨[108, 116]⟩⟩, false, 2, 1), (⟨⟨[108, 101]⟩⟩, false, 2, 1), (⟨⟨[103, 116]⟩⟩, false, 2, 1), (⟨⟨[103, 101]⟩⟩, false, 2, 1), (⟨⟨[110, 111, 116]⟩⟩, false, 1, 1), (⟨⟨[106, 117, 109, 112]⟩⟩, true, 0, 0), (⟨⟨[122, 101, 114, 111]⟩⟩, true, 1, 0), (⟨⟨[99, 97, 108, 108]⟩⟩, true, (-1), 1), (⟨⟨[114, 101, 116]⟩⟩, false, 1, 0), (⟨⟨[115, 116, 111, 112]⟩⟩, false, 0, 0), (⟨⟨[115, 116, 101, 112]⟩⟩, false, 0, 0), (⟨⟨[101, 109, 105, 116]⟩⟩, false, 2, 0), (⟨⟨[112, 97, 114, 116]⟩⟩, true, (-2), 0), (⟨⟨[115, 112, 97, 119, 110]⟩⟩, false, 0, 0), (⟨⟨[103, 105, 118, 101]⟩⟩, true, (-2), 0), (⟨⟨[116, 97, 107, 101]⟩⟩, true, 0, 0), (⟨⟨[100, 105, 101]⟩⟩, false, 0, 0), (⟨⟨[114, 97, 110, 100]⟩⟩, false, 1, 1), (⟨⟨[116, 105, 99, 107]⟩⟩, false, 0, 1), (⟨⟨[109, 101]⟩⟩, false, 0, 1), (⟨⟨[105, 110, 112, 117, 116]⟩⟩, false, 2, 1), (⟨⟨[104, 97, 115]⟩⟩, true, 0, 1), (⟨⟨[109, 105, 110]⟩⟩, false, 2, 1), (⟨⟨[109, 97, 120]⟩⟩, false, 2, 1), (⟨⟨[97, 98, 115]⟩⟩, false, 1, 1), (⟨⟨[100, 114, 111, 112]⟩⟩, false, 1, 0)]
abbrev refV (r : ByteArray × Bool × Int × Int) : List Value := [.string r.1, .bool r.2.1, .int .i64 r.2.2.1, .int .i64 r.2.2.2]
theorem refV_len (r : ByteArray × Bool × Int × Int) : (refV r).length = 4 := rfl
theorem ref_ok : ∀ n : Nat, n < 40 → (refL[n]!).2.2 = (if (tbl[n]!).2.2 = 1 then -1 else if (tbl[n]!).2.2 = 2 then -2 else (tbl[n]!).1, (tbl[n]!).2.1) := by decide
theorem ref_num : ∀ n : Nat, n < 40 → (refL[n]!).2.1 = numB n := by decide
theorem s_table {H : Heap} {k : Sl → Heap → Prop} (hk : ∀ r H', Ext H H' → RN refV 4 H' r refL → k r H') : CallT Pg f_hindcastref13_table [] (.one (.c .sl)) H k := by
  refine c_hindcastref13_table ?_
  unfold v_hindcastref13_table
  refine Nw_row (vs := refL.flatMap refV) fun b H1 hb hE _ hr => hk _ _ hE ⟨?_, rfl, Nat.le_refl _⟩
  exact hr.rd_all
theorem s_rEffect {H : Heap} {i : Ins} {funcs : Sl} {fs : List Rou} (hf : RN rouV 4 H funcs fs) {k : Int × Int → Heap → Prop} (hk : ∀ H', Ext H H' → k (takes (parms fs) i, puts i) H') :
    CallT Pg f_hindcastref13_Effect [.agg #[.int .i64 i.1, .int .i64 i.2], .slice funcs.a funcs.len funcs.cap] (.tup [(.c (.int .i64)), (.c (.int .i64))]) H k := by
  refine c_hindcastref13_Effect _ _ ?_
  unfold v_hindcastref13_Effect
  refine Nw_row (vs := insV i) fun b1 H1 hb1 hE1 hz1 hr1 => ?_
  simp only [adr_add]
  refine Ld_int ((hr1.cell 0).trans rfl) (s_rIsOp (Br_not (Br.mk (fun hop => ?_) fun hop => ?_)))
  · refine Ld_int ((hr1.cell 0).trans rfl) ?_
    have hop2 : 1 ≤ i.1 ∧ i.1 ≤ 39 := of_decide_eq_true hop
    have hn : i.1.toNat < 40 := by omega
    have hro := ref_ok _ hn
    have htk : takes (parms fs) i = (if (tbl[i.1.toNat]!).2.2 = 1 then (if 0 ≤ i.2 ∧ i.2 < (parms fs).length then max ((parms fs)[i.2.toNat]!) 0 else 0)
     else if (tbl[i.1.toNat]!).2.2 = 2 then (if 0 ≤ i.2 then i.2 % 8 else 0)
     else (tbl[i.1.toNat]!).1) := by unfold takes; rw [if_pos hop]
    have hpt : puts i = (tbl[i.1.toNat]!).2.1 := by unfold puts; rw [if_pos hop]
    have hbd := tbl_bd _ (tbl_get hop)
    generalize tbl[i.1.toNat]! = row at *
    rw [List.length_map] at htk
    generalize hrr : refL[i.1.toNat]! = rr at *
    obtain ⟨w, na, t', p'⟩ := rr
    dsimp only at hro
    simp only [Prod.mk.injEq] at hro
    obtain ⟨ht', hp'⟩ := hro
    -- behind the table
    have tail : ∀ (H8 : Heap) (b2 : Nat), Ext H H8 → Row H8 b1 T_api_Instr (insV i) → Row H8 b2 T_hindcastref13_row [.string w, .bool na, .int .i64 t', .int .i64 p'] →
        Ld (.int .i64) ⟨b2, 2, none⟩ H8 fun (x3 : Int) =>
        Br (x3 == (-1)) (
          Jn (σ := Bool) (fun kk1 =>
            Ld (.int .i64) ⟨b1, 1, none⟩ H8 fun (x4 : Int) =>
            Br (decide (x4 < 0)) (
              kk1 true H8) (
              Ld (.int .i64) ⟨b1, 1, none⟩ H8 fun (x5 : Int) =>
              Br (decide (x5 ≥ (funcs.len : Int))) (
                kk1 true H8) (
                Ld (.int .i64) ⟨b1, 1, none⟩ H8 fun (x6 : Int) =>
                IxA 4 funcs x6 fun a2 =>
                Ld (.int .i64) (a2.add 1) H8 fun (x7 : Int) =>
                kk1 (decide (x7 < 0)) H8))) fun j1 H9 =>
          Br j1 (
            Ld (.int .i64) ⟨b2, 3, none⟩ H9 fun (x8 : Int) =>
            k (0, x8) H9) (
            Ld (.int .i64) ⟨b1, 1, none⟩ H9 fun (x9 : Int) =>
            IxA 4 funcs x9 fun a3 =>
            Ld (.int .i64) (a3.add 1) H9 fun (x10 : Int) =>
            Ld (.int .i64) ⟨b2, 3, none⟩ H9 fun (x11 : Int) =>
            k (x10, x11) H9)) (
          Ld (.int .i64) ⟨b2, 2, none⟩ H8 fun (x12 : Int) =>
          Br (x12 == (-2)) (
            Ld (.int .i64) ⟨b1, 1, none⟩ H8 fun (x13 : Int) =>
            Br (decide (x13 < 0)) (
              Ld (.int .i64) ⟨b2, 3, none⟩ H8 fun (x14 : Int) =>
              k (0, x14) H8) (
              Ld (.int .i64) ⟨b1, 1, none⟩ H8 fun (x15 : Int) =>
              Rem x15 8 fun t1 =>
              Ld (.int .i64) ⟨b2, 3, none⟩ H8 fun (x16 : Int) =>
              k (t1, x16) H8)) (
            Ld (.int .i64) ⟨b2, 2, none⟩ H8 fun (x17 : Int) =>
            Ld (.int .i64) ⟨b2, 3, none⟩ H8 fun (x18 : Int) =>
            k (x17, x18) H8)) := by
      intro H8 b2 hE8 hI hr8
      have hfx := hf.ext hE8
      have hx1 : hcell H8 ⟨b1, 1, none⟩ = some (.int .i64 i.2) := (hI.cell 1).trans rfl
      have hy2 : hcell H8 ⟨b2, 2, none⟩ = some (.int .i64 t') := (hr8.cell 2).trans rfl
      have hy3 : hcell H8 ⟨b2, 3, none⟩ = some (.int .i64 p') := (hr8.cell 3).trans rfl
      have hk8 := hk H8 hE8
      rw [hpt, ← hp'] at hk8
      refine Ld_int hy2 (Br.mk (fun h => ?_) fun h => ?_)
      · have h := beqI h
        have e1 : row.2.2 = 1 := by
          by_cases e : row.2.2 = 1
          · exact e
          · rw [if_neg e] at ht'
            split at ht' <;> omega
        rw [htk, if_pos e1] at hk8
        refine Jn.mk (fun j H' => H8 = H' ∧ j = decide (¬ (0 ≤ i.2 ∧ i.2 < fs.length ∧ 0 ≤ (fs[i.2.toNat]!).params))) (fun kk hkk => ?_) ?_
        · have hfl := hf.len
          refine Ld_int hx1 (Br_dec (fun h1 => hkk _ _ ⟨rfl, (decide_eq_true (by omega)).symm⟩) fun h1 => Ld_int hx1 (Br_dec (fun h2 => hkk _ _ ⟨rfl, (decide_eq_true (by omega)).symm⟩) fun h2 => ?_))
          refine Ld_int hx1 (IxA_rn' rouV_len hfx (by omega) (j := i.2.toNat) (by omega) (by omega) fun a ha => Ld_int (n := (fs[i.2.toNat]!).params) ha.2.1 (hkk _ _ ⟨rfl, ?_⟩))
          exact decide_eq_decide.2 (by omega)
        rintro j _ ⟨rfl, rfl⟩
        refine Br_dec (fun h1 => Ld_int hy3 ?_) fun h1 => ?_
        · have : (if 0 ≤ i.2 ∧ i.2 < (fs.length : Int) then max (parms fs)[i.2.toNat]! 0 else 0) = 0 := by
            split
            · rename_i h2
              rw [parms_get (by omega)]
              omega
            · rfl
          rw [this] at hk8; exact hk8
        · have h1 : 0 ≤ i.2 ∧ i.2 < (fs.length : Int) ∧ 0 ≤ (fs[i.2.toNat]!).params := Classical.byContradiction h1
          refine Ld_int hx1 (IxA_rn' rouV_len hfx (by omega) (j := i.2.toNat) (by omega) (by omega) fun a ha => Ld_int (n := (fs[i.2.toNat]!).params) ha.2.1 (Ld_int hy3 ?_))
          rw [if_pos ⟨h1.1, h1.2.1⟩, parms_get (by omega), Int.max_eq_left h1.2.2] at hk8
          exact hk8
      · have h := bneI h
        have e1 : row.2.2 ≠ 1 := fun e => by rw [if_pos e] at ht'; exact h ht'
        rw [if_neg e1] at ht'
        rw [htk, if_neg e1] at hk8
        refine Ld_int hy2 (Br.mk (fun h3 => ?_) fun h3 => ?_)
        · have h3 := beqI h3
          have e2 : row.2.2 = 2 := by
            by_cases e : row.2.2 = 2
            · exact e
            · rw [if_neg e] at ht'; omega
          rw [if_pos e2] at hk8
          refine Ld_int hx1 (Br_dec (fun h4 => Ld_int hy3 ?_) fun h4 => Ld_int hx1 ⟨by decide, Ld_int hy3 ?_⟩)
          · rw [if_neg (by omega)] at hk8; exact hk8
          · rw [if_pos (by omega)] at hk8
            rw [Int.tmod_eq_emod_of_nonneg (by omega)]; exact hk8
        · have h3 := bneI h3
          have e2 : row.2.2 ≠ 2 := fun e => by rw [if_pos e] at ht'; exact h3 ht'
          rw [if_neg e2] at ht' hk8
          refine Ld_int hy2 (Ld_int hy3 ?_)
          rw [ht']; exact hk8
    refine ⟨s_table fun r2 H3 hE3 hT => ?_, Nw_row (vs := [.string ByteArray.empty, .bool false, .int .i64 0, .int .i64 0]) fun b3 H10 hb3 hE10 hz10 hr10 => ?_, trivial⟩
    · have hI3 := hE3.row hr1 fun h => h
      have hE3' := hE1.trans hE3 fun _ _ h => h
      refine Stab_1 ((hI3.cell 0).trans rfl) (IxA_rn' refV_len hT (by omega) (j := i.1.toNat) (by omega) hn fun a ha => ?_)
      rw [hrr] at ha
      refine ⟨(w, na, t', p'), ha, Nw_row (vs := [.string ByteArray.empty, .bool false, .int .i64 0, .int .i64 0]) fun b2 H4 hb2 hE4 hz4 hr4 => ?_⟩
      have hI4 := hE4.row hI3 fun h => h
      have ha4 : hcells H4 a 0 (refV (w, na, t', p')) := hcells_upd hE4 (fun h => h) ha
      refine Stab_all (fun x hx => ?_) ?_
      · simp only [List.mem_cons, List.not_mem_nil, or_false] at hx
        rcases hx with rfl | rfl | rfl | rfl | rfl
        · exact ha4.1
        · exact ha4.2.1
        · exact ha4.2.2.1
        · exact ha4.2.2.2.1
        · exact (hI4.cell 0).trans rfl
      refine St_row hr4 (by simp) fun H5 hU5 _ hr5 => St_row hr5 (by simp) fun H6 hU6 _ hr6 => St_row hr6 (by simp) fun H7 hU7 _ hr7 => St_row hr7 (by simp) fun H8 hU8 _ hr8 => ?_
      have hU : Upd (· = b2) H4 H8 := ((hU5.trans hU6 fun _ _ h => h).trans hU7 fun _ _ h => h).trans hU8 fun _ _ h => h
      have z3 := hE3'.size
      exact tail H8 b2 (extUpd (hE3'.trans hE4 fun _ _ h => h) (by omega) hU) (hU.row hI4 (by have := hI3.lt; omega)) hr8
    · have hI10 := hE10.row hr1 fun h => h
      have hE10' := hE1.trans hE10 fun _ _ h => h
      refine Stab_1 ((hI10.cell 0).trans rfl) (s_table fun r3 H11 hE11 hT => ?_)
      have hI11 := hE11.row hI10 fun h => h
      have hr11 := hE11.row hr10 fun h => h
      refine Stab_1 ((hI11.cell 0).trans rfl) (IxA_rn' refV_len hT (by omega) (j := i.1.toNat) (by omega) hn fun a ha => ?_)
      rw [hrr] at ha
      refine ⟨(w, na, t', p'), ha, ?_⟩
      refine St_row hr11 (by simp) fun H5 hU5 _ hr5 => St_row hr5 (by simp) fun H6 hU6 _ hr6 => St_row hr6 (by simp) fun H7 hU7 _ hr7 => St_row hr7 (by simp) fun H8 hU8 _ hr8 => ?_
      have hU : Upd (· = b3) H11 H8 := ((hU5.trans hU6 fun _ _ h => h).trans hU7 fun _ _ h => h).trans hU8 fun _ _ h => h
      have z1 := hE1.size
      exact tail H8 b3 (extUpd (hE10'.trans hE11 fun _ _ h => h) (by omega) hU) (hU.row hI11 (by have := hr1.lt; omega)) hr8
  · have h1 : takes (parms fs) i = 0 := by unfold takes; rw [if_neg (by rw [hop]; simp)]
    have h2 : puts i = 0 := by unfold puts; rw [if_neg (by rw [hop]; simp)]
    have := hk H1 hE1
    rwa [h1, h2] at this
end Go.Proofs.Ytlkmmplgfjicjaa
/-
  Verify's small functions; the ways out of an instruction.
-/
namespace Go.Proofs.Ytlkmmplgfjicjaa
set_option linter.unusedVariables false
set_option linter.unusedSimpArgs false
open Go.Proofs.Ytlkmmplgfjicjaa.Hc Go.Proofs.Ytlkmmplgfjicjaa.Hc.Vf
set_option maxRecDepth 100000
variable {H : Heap}

abbrev CodeR (H : Heap) (r : Rou) : Prop := RN insV 2 H r.sl r.code
abbrev rouA (r : Rou) : Value := .agg #[.string r.name, .int .i64 r.params, .int .i64 r.locals, .slice r.sl.a r.sl.len r.sl.cap]
theorem ld_rou {a : Addr} {r : Rou} {k : ByteArray × Int × Int × Sl → Prop} (h : hcells H a 0 (rouV r)) (hk : k (r.name, r.params, r.locals, r.sl)) : LdC [.str, (.int .i64), (.int .i64), .sl] a H k := ⟨(r.name, r.params, r.locals, r.sl), h, hk⟩
theorem s_vfault {x e : Int} {k : Option Addr → Heap → Prop} (hk : ∀ H' b, b = H.size → Ext H H' → Row H' b T_api_Fault [.int .i64 x, .int .i64 e] → k (some (adr b)) H') : CallT Pg f_verify_fault [.int .i64 x, .int .i64 e] (.one (.c .ptr)) H k :=
  c_verify_fault _ _ (Nw_row fun b H' h1 h2 _ h4 => hk H' b h1 h2 h4)
theorem s_jumps {i : Ins} {k : Bool → Heap → Prop} (hk : ∀ H', Ext H H' → k (decide (i.1 = 19 ∨ i.1 = 20)) H') : CallT Pg f_verify_jumps [.agg #[.int .i64 i.1, .int .i64 i.2]] (.one (.c .bool)) H k := by
  refine c_verify_jumps _ ?_
  unfold v_verify_jumps
  refine Nw_row (vs := insV i) fun b1 H1 _ hE _ hr => ?_
  refine Jn.mk (fun j H' => H1 = H' ∧ j = decide (i.1 = 19 ∨ i.1 = 20)) (fun kk hkk => ?_) (by rintro j _ ⟨rfl, rfl⟩; exact hk _ hE)
  refine Ld_int ((hr.cell 0).trans rfl) (Br.mk (fun h => hkk _ _ ⟨rfl, (decide_eq_true (.inl (beqI h))).symm⟩) fun h => Ld_int ((hr.cell 0).trans rfl) (hkk _ _ ⟨rfl, ?_⟩))
  have h := bneI h
  by_cases e : i.1 = 20
  · rw [e]; rfl
  · rw [decide_eq_false (by omega)]; exact beq_eq_false_iff_ne.2 e
theorem s_there {r : Rou} {n : Int} {k : Bool → Heap → Prop} (hr : CodeR H r) (hk : ∀ H', Ext H H' → k (decide (0 ≤ n ∧ n < r.code.length)) H') : CallT Pg f_verify_there [rouA r, .int .i64 n] (.one (.c .bool)) H k := by
  refine c_verify_there (r.name, r.params, r.locals, r.sl) _ ?_
  unfold v_verify_there
  refine Nw_row (vs := rouV r) fun b1 H1 _ hE _ hrow => ?_
  simp only [adr_add]
  refine Jn.mk (fun j H' => H1 = H' ∧ j = decide (0 ≤ n ∧ n < r.code.length)) (fun kk hkk => ?_) (by rintro j _ ⟨rfl, rfl⟩; exact hk _ hE)
  refine Br_dec (fun h => Ld_sl (s := r.sl) ((hrow.cell 3).trans rfl) (hkk _ _ ⟨rfl, ?_⟩)) fun h => hkk _ _ ⟨rfl, (decide_eq_false (by omega)).symm⟩
  rw [hr.len]
  exact decide_eq_decide.2 (by omega)
theorem s_Index64 {s : Sl} {xs : List Int} {v : Int} (hs : RL (Value.int .i64) H s xs) (hl : xs.length ≤ 100000) {k : Int → Heap → Prop} (hk : ∀ x, (0 ≤ x ↔ v ∈ xs) → k x H) : CallT Pg f_slices_Index_Sl_int64_int64 [.slice s.a s.len s.cap, .int .i64 v] (.one (.c (.int .i64))) H k := by
  refine c_slices_Index_Sl_int64_int64 _ _ ?_
  unfold v_slices_Index_Sl_int64_int64
  have hlen := hs.len
  refine LoopT.mk (fun i H' => H = H' ∧ ∃ n : Nat, i = n ∧ n ≤ xs.length ∧ ∀ j (h : j < xs.length), j < n → xs[j] ≠ v) (fun i _ => xs.length - i.toNat) ⟨rfl, 0, rfl, Nat.zero_le _, fun j _ hj => by omega⟩ ?_
  rintro next _ _ ⟨rfl, n, rfl, hn, hno⟩ hnext
  refine Br_dec (fun hlt => ?_) fun hge => hk _ ⟨fun h => by omega, fun h => ?_⟩
  · have hn2 : n < xs.length := by omega
    refine IxA_rl hs rfl hn2 fun a ha => Ld_int ha (Br.mk (fun h => hk _ ⟨fun _ => ?_, fun _ => by omega⟩) fun h => ?_)
    · rw [beqI h]; exact List.getElem_mem hn2
    · have h := bneI h
      refine Lt.mk (u := ((n + 1 : Nat) : Int)) (by rw [wrap_i64_id] <;> omega) (hnext _ _ ⟨rfl, n + 1, rfl, hn2, fun j hj hjn => ?_⟩ (by omega))
      rcases Nat.lt_or_ge j n with e | e
      · exact hno j hj e
      · have : j = n := by omega
        subst this; exact fun e => h e.symm
  · obtain ⟨j, hj, e⟩ := List.getElem_of_mem h
    exact absurd e (hno j hj (by omega))
theorem s_Contains64 {s : Sl} {xs : List Int} {v : Int} (hs : RL (Value.int .i64) H s xs) (hl : xs.length ≤ 100000) {k : Bool → Heap → Prop} (hk : k (decide (v ∈ xs)) H) : CallT Pg f_slices_Contains_Sl_int64_int64 [.slice s.a s.len s.cap, .int .i64 v] (.one (.c .bool)) H k := by
  refine c_slices_Contains_Sl_int64_int64 _ _ ?_
  unfold v_slices_Contains_Sl_int64_int64
  refine s_Index64 hs hl fun x hx => ?_
  have : decide (x ≥ 0) = decide (v ∈ xs) := decide_eq_decide.2 hx
  rw [this]; exact hk
theorem append_new {x : Int} {vs : List Int} {l : Sl} (hl : Vec H T_int64 l (vs.map (Value.int .i64))) (hs : vs.length ≤ 100) {k : Sl → Heap → Prop} (hk : ∀ r H', Vec H' T_int64 r ((vs ++ [x]).map (Value.int .i64)) → (Upd (fun b => l.a = some (adr b)) H H') → (r.a = l.a ∨ ∀ b, r.a = some (adr b) → H.size ≤ b) → k r H') :
    Nw #[.int .i64 x] T_int64 H fun b5 H12 =>
      App T_int64 1 8 #[.int .i64 0] l ⟨some (adr b5), 1, 1⟩ H12 fun l3 H13 => k l3 H13 := by
  refine Nw_row (vs := [.int .i64 x]) fun b H1 hb hE hz hr => ?_
  have z := hE.size
  refine App_one (hl.upd hE fun _ _ h => h) hr.rd_all rfl (by simp [Value.oneCell']) (by decide) (by simp; omega) fun r H' hv _ hc => hk r H' (by rw [List.map_append]; exact hv) ?_ ?_
  · rcases hc with ⟨b', cs, e1, e2, _, _, h5, _⟩ | ⟨_, h2, _⟩
    · exact (hE.mono fun _ _ h => h.elim).trans h5 fun c _ e => by subst e; exact e1
    · exact (hE.trans h2 fun _ _ h => h).mono fun _ _ h => h.elim
  · rcases hc with ⟨b', cs, e1, e2, _⟩ | ⟨e1, _⟩
    · exact .inl (e2.trans e1.symm)
    · refine .inr fun c hc => ?_
      rw [e1] at hc; cases hc; omega
theorem s_next {r : Rou} {i : Nat} (hr : CodeR H r) (hi : i < r.code.length) (hl : r.code.length ≤ 100000) {k : Sl → Heap → Prop} (hk : ∀ s H', Ext H H' → Vec H' T_int64 s ((nexts r.code i).map (Value.int .i64)) → k s H') :
    CallT Pg f_verify_next [rouA r, .int .i64 (i : Nat)] (.one (.c .sl)) H k := by
  refine c_verify_next (r.name, r.params, r.locals, r.sl) _ ?_
  unfold v_verify_next
  refine Nw_row (vs := rouV r) fun b1 H1 hb1 hE1 hz1 hrow => ?_
  simp only [adr_add]
  refine Ld_sl (s := r.sl) ((hrow.cell 3).trans rfl) (IxA_rn' insV_len (hr.ext hE1) (by omega) (j := i) rfl hi fun a ha => ?_)
  refine ⟨((r.code[i]!).1, (r.code[i]!).2), ha, Nw_row (vs := [.int .i64 0, .int .i64 0]) fun b2 H2 hb2 hE2 hz2 hr2 => St_row hr2 (by simp) fun H3 hU3 _ hr3 => St_row hr3 (by simp) fun H4 hU4 _ hr4 => ?_⟩
  have hE4 : Ext H H4 := extUpd (hE1.trans hE2 fun _ _ h => h) (by have := hE1.size; omega) (hU3.trans hU4 fun _ _ h => h)
  have z4 := hE4.size
  have hc0 : hcell H4 ⟨b2, 0, none⟩ = some (.int .i64 (r.code[i]!).1) := (hr4.cell 0).trans rfl
  have hc1 : hcell H4 ⟨b2, 1, none⟩ = some (.int .i64 (r.code[i]!).2) := (hr4.cell 1).trans rfl
  have hn : nexts r.code i = if (r.code[i]!).1 = 22 ∨ (r.code[i]!).1 = 23 then [] else if (r.code[i]!).1 = 19 then [(r.code[i]!).2] else if (r.code[i]!).1 = 20 then [(r.code[i]!).2, (i : Int) + 1] else [(i : Int) + 1] := rfl
  generalize r.code[i]! = x at *
  refine Ld_int hc0 (Jn.mk (fun s H' => Ext H H' ∧ Vec H' T_int64 s ((nexts r.code i).map (Value.int .i64))) (fun kk1 hkk1 => ?_) (by rintro s H' ⟨h1, h2⟩; exact hk s H' h1 h2))
  -- with the one behind it
  have last : ∀ (vs : List Int) (l : Sl) (H6 : Heap), Ext H H6 → Vec H6 T_int64 l (vs.map (Value.int .i64)) → (∀ b, l.a = some (adr b) → H.size ≤ b) → vs.length ≤ 10 → nexts r.code i = vs ++ [(i : Int) + 1] →
      Lt (IntKind.wrap .i64 ((i : Nat) + 1)) fun t1 =>
      Nw #[.int .i64 t1] T_int64 H6 fun b5 H12 =>
      App T_int64 1 8 #[.int .i64 0] l ⟨some (adr b5), 1, 1⟩ H12 fun l3 H13 =>
      kk1 l3 H13 := by
    intro vs l H6 hE6 hv hb hvs hnx
    refine Lt.mk (u := (i : Int) + 1) (by rw [wrap_i64_id] <;> omega) (append_new hv (by omega) fun r' H13 hv13 hU13 _ => hkk1 _ _ ⟨hE6.trans hU13 (fun b hlt e => by have := hb b e; omega), ?_⟩)
    rw [hnx]; exact hv13
  refine Jn.mk (fun l H6 => ∃ vs : List Int, Ext H H6 ∧ Vec H6 T_int64 l (vs.map (Value.int .i64)) ∧ (∀ b, l.a = some (adr b) → H.size ≤ b) ∧ vs.length ≤ 10 ∧ nexts r.code i = vs ++ [(i : Int) + 1]) (fun kk2 hkk2 => ?_) (by rintro l H6 ⟨vs, h1, h2, h3, h4, h5⟩; exact last vs l H6 h1 h2 h3 h4 h5)
  refine Jn.mk (fun j H' => H4 = H' ∧ j = decide (x.1 = 22 ∨ x.1 = 23)) (fun kk3 hkk3 => ?_) ?_
  · refine Br.mk (fun h => hkk3 _ _ ⟨rfl, (decide_eq_true (.inl (beqI h))).symm⟩) fun h => hkk3 _ _ ⟨rfl, ?_⟩
    have h := bneI h
    by_cases e : x.1 = 23
    · rw [e]; rfl
    · rw [decide_eq_false (by omega)]; exact beq_eq_false_iff_ne.2 e
  rintro j _ ⟨rfl, rfl⟩
  refine Br_dec (fun h => hkk1 _ _ ⟨hE4, ?_⟩) fun h => Br.mk (fun h19 => ?_) fun h19 => Br.mk (fun h20 => ?_) fun h20 => ?_
  · rw [hn, if_pos h]; exact Vec.nil _ _
  · have h19 := beqI h19
    refine Ld_int hc1 (append_new (vs := []) (Vec.nil _ _) (by simp) fun r' H9 hv9 hU9 _ => hkk1 _ _ ⟨hE4.trans hU9 (fun b _ e => by cases e), ?_⟩)
    rw [hn, if_neg h, if_pos h19]; exact hv9
  · have h19 := bneI h19
    have h20 := beqI h20
    refine Ld_int hc1 (append_new (vs := []) (Vec.nil _ _) (by simp) fun r' H11 hv11 hU11 ha11 => hkk2 _ _ ⟨[x.2], hE4.trans hU11 (fun b _ e => by cases e), hv11, (fun b hb => ?_), by simp, by rw [hn, if_neg h, if_neg h19, if_pos h20]; rfl⟩)
    rcases ha11 with e | e
    · rw [e] at hb; cases hb
    · have := e b hb; omega
  · have h19 := bneI h19
    have h20 := bneI h20
    exact hkk2 _ _ ⟨[], hE4, Vec.nil _ _, (fun b hb => by cases hb), by simp, by rw [hn, if_neg h, if_neg h19, if_neg h20]; rfl⟩

/-- A flow: a routine, the functions, and of each instruction a map. -/
abbrev flowV (r : Rou) (fsl dl : Sl) : List Value := [.string r.name, .int .i64 r.params, .int .i64 r.locals, slV r.sl, slV fsl, slV dl]
abbrev FlowR (H : Heap) (f : Nat) (r : Rou) (fsl dl : Sl) : Prop := Row H f T_verify_flow (flowV r fsl dl)
theorem FlowR.rou {f : Nat} {r : Rou} {fsl dl : Sl} (h : FlowR H f r fsl dl) : hcells H (adr f) 0 (rouV r) := Row.rd (ws := [slV fsl, slV dl]) h
theorem s_fits {f : Nat} {r : Rou} {fsl dl : Sl} {fs : List Rou} {i d : Nat} (hF : FlowR H f r fsl dl) (hr : CodeR H r) (hf : RN rouV 4 H fsl fs) (hI : ∀ x ∈ parms fs, I64 x) (hi : i < r.code.length) (hd : d ≤ 64) {k : Int × Bool → Heap → Prop}
    (hk : ∀ H', Ext H H' → k ((d : Int) - takes (parms fs) r.code[i]! + puts r.code[i]!, decide (fits (parms fs) r.code[i]! d)) H') :
    CallT Pg f_verify_flow_fits [.pointer (some (adr f)), .int .i64 (i : Nat), .int .i64 (d : Nat)] (.tup [(.c (.int .i64)), (.c .bool)]) H k := by
  refine c_verify_flow_fits _ _ _ ?_
  unfold v_verify_flow_fits
  simp only [NilCk_some, adr_add]
  have h3 : hcell H ⟨f, 3, none⟩ = some (slV r.sl) := (hF.cell 3).trans rfl
  refine Ld_sl (s := r.sl) h3 (IxA_rn' insV_len hr (by omega) (j := i) rfl hi fun a ha => ?_)
  refine ⟨((r.code[i]!).1, (r.code[i]!).2), ha, Ld_sl (s := fsl) ((hF.cell 4).trans rfl) (s_Effect (i := r.code[i]!) hf fun H1 hE => ?_)⟩
  refine Stab_1 (hE.cell h3 fun h => h) ?_
  have t0 := takes_bd (parms fs) r.code[i]!
  have t1 := takes_i64 hI r.code[i]!
  have p0 := puts_bd r.code[i]!
  have hk1 := hk H1 hE
  rw [show decide (fits (parms fs) r.code[i]! d) = decide (takes (parms fs) r.code[i]! ≤ d ∧ (d : Int) - takes (parms fs) r.code[i]! + puts r.code[i]! ≤ 64) from decide_eq_decide.2 Iff.rfl] at hk1
  clear hk
  generalize takes (parms fs) r.code[i]! = t at *
  generalize puts r.code[i]! = p at *
  refine Lt.mk (u := (d : Int) - t) (by rw [wrap_i64_id] <;> omega) (Lt.mk (u := (d : Int) - t + p) (by rw [wrap_i64_id] <;> omega) ?_)
  refine Jn.mk (fun st H' => H1 = H' ∧ st = ((d : Int) - t + p, decide (t ≤ d ∧ (d : Int) - t + p ≤ 64))) (fun kk hkk => ?_) (by rintro st _ ⟨rfl, rfl⟩; exact hk1)
  refine Br_dec (fun h => hkk _ _ ⟨rfl, ?_⟩) fun h => hkk _ _ ⟨rfl, ?_⟩
  · rw [show decide ((d : Int) - t + p ≤ 64) = decide (t ≤ d ∧ (d : Int) - t + p ≤ 64) from decide_eq_decide.2 (by omega)]
  · rw [show decide (t ≤ d ∧ (d : Int) - t + p ≤ 64) = false from decide_eq_false (by omega)]
end Go.Proofs.Ytlkmmplgfjicjaa
/-
  All ways are gone.
-/
namespace Go.Proofs.Ytlkmmplgfjicjaa
set_option linter.unusedVariables false
set_option linter.unusedSimpArgs false
open Go.Proofs.Ytlkmmplgfjicjaa.Hc Go.Proofs.Ytlkmmplgfjicjaa.Hc.Vf
set_option maxRecDepth 100000
variable {H : Heap}

abbrev stV (x : Nat × Nat) : List Value := [.int .i64 (x.1 : Nat), .int .i64 (x.2 : Nat)]
theorem stV_len (x : Nat × Nat) : (stV x).length = 2 := rfl
theorem Row.neMap {b r : Nat} {T : TypeId} {vs : List Value} {es : Array MapEntry} {cl : Nat} (h : Row H b T vs) (hr : H[r]? = some (.map es cl)) : b ≠ r := by
  rintro rfl
  unfold Row at h
  rw [h] at hr; cases hr
theorem IxA_StV_vec {T : TypeId} {t : Sl} {vs : List Value} (h : Vec H T t vs) {i : Int} {j : Nat} {v : Value} {k : Heap → Prop} (hone : v.oneCell' = true) (hj : i = j) (hl : j < vs.length)
    (hk : ∀ H', Vec H' T t (vs.set j v) → Upd (fun b => t.a = some (adr b)) H H' → H'.size = H.size → k H') : IxA 1 t i fun a => StV a v H k := by
  obtain ⟨a, h1, h2, h3, h4⟩ := IxA_St_vec' h hj hl hk
  exact ⟨a, h1, h2, h3, hone, h4⟩
theorem IxA_raw {T : TypeId} {t : Sl} {vs : List Value} (h : Vec H T t vs) {i : Int} {j : Nat} {k : Value → Prop} (hj : i = j) (hl : j < vs.length) (hk : k vs[j]!) : IxA 1 t i fun a => Ld .raw a H k := by
  refine IxA_vec h (by omega) (by omega) fun a ha _ => ⟨vs[j]!, ?_, hk⟩
  rw [ha, hj, Int.toNat_natCast, List.getElem?_eq_getElem hl, getElem!_pos vs j hl]; rfl
def tot (D : List (List Nat)) : Nat := (D.map List.length).sum
theorem tot_set : ∀ {D : List (List Nat)} {i : Nat} {d : Nat}, i < D.length → tot (D.set i (D[i]! ++ [d])) = tot D + 1
  | x :: D, 0, d, _ => by simp [tot]; omega
  | x :: D, i + 1, d, h => by
    have := tot_set (D := D) (i := i) (d := d) (by simpa using h)
    unfold tot at this ⊢
    simp only [List.set_cons_succ, List.map_cons, List.sum_cons, List.getElem!_cons_succ] at this ⊢
    omega
theorem tot_le : ∀ {D : List (List Nat)}, (∀ x ∈ D, x.Nodup ∧ ∀ d ∈ x, d ≤ 64) → tot D ≤ 65 * D.length
  | [], _ => by simp [tot]
  | x :: D, h => by
    obtain ⟨h1, h2⟩ := h x (List.mem_cons_self ..)
    have h3 : x.length ≤ (List.range 65).length := h1.length_le_of_subset fun d hd => List.mem_range.2 (by have := h2 d hd; omega)
    rw [List.length_range] at h3
    have := tot_le fun y hy => h y (List.mem_cons_of_mem _ hy)
    unfold tot at this ⊢
    simp only [List.map_cons, List.sum_cons, List.length_cons]
    omega
/-- What is reached so far, in memory. -/
structure RSt (lo : Nat) (H : Heap) (b1 b2 : Nat) (r : Rou) (fsl dl : Sl) (ms : List Value) (D : List (List Nat)) : Prop where
  row : Row H b1 T_api_Routine (rouV r)
  flow : FlowR H b2 r fsl dl
  dv : Vec H T_Map_int_bool dl ms
  ml : ms.length = r.code.length
  dl' : D.length = r.code.length
  mp : ∀ i, i < ms.length → MapI H ms[i]! D[i]!
  inj : ∀ i j q, i < ms.length → j < ms.length → ms[i]! = .map (some q) → ms[j]! = .map (some q) → i = j
  nd : ∀ i, i < D.length → (D[i]!).Nodup
  f1 : lo ≤ b1 ∧ lo ≤ b2
  fd : ∀ b, dl.a = some (adr b) → lo ≤ b
  fm : ∀ i q, i < ms.length → ms[i]! = .map (some q) → lo ≤ q
variable {lo : Nat} {b1 b2 : Nat} {r : Rou} {fsl dl : Sl} {ms : List Value} {D : List (List Nat)}
theorem RSt.upd {M : Nat → Prop} {H' : Heap} (hu : Upd M H H') (h : RSt lo H b1 b2 r fsl dl ms D) (h1 : ∀ b T vs, Row H b T vs → T ≠ T_verify_state → ¬ M b) (h2 : ∀ q es cl, H[q]? = some (.map es cl) → ¬ M q) : RSt lo H' b1 b2 r fsl dl ms D :=
  { row := hu.row h.row (h1 _ _ _ h.row (by decide)), flow := hu.row h.flow (h1 _ _ _ h.flow (by decide))
    dv := h.dv.upd hu fun b hb => by
      rcases h.dv.own with ⟨g1, _⟩ | ⟨c, sp, g1, g2, _⟩
      · rw [g1] at hb; cases hb
      · rw [g1] at hb; cases hb; exact h1 _ _ _ g2 (by decide)
    ml := h.ml, dl' := h.dl'
    mp := fun i hi => (h.mp i hi).upd hu fun q hq => by
      rcases h.mp i hi with ⟨g1, _⟩ | ⟨q', g1, g2⟩
      · rw [g1] at hq; cases hq
      · rw [g1] at hq; cases hq; exact h2 _ _ _ g2
    inj := h.inj, nd := h.nd, f1 := h.f1, fd := h.fd, fm := h.fm }
theorem RSt.ext {H' : Heap} (hu : Ext H H') (h : RSt lo H b1 b2 r fsl dl ms D) : RSt lo H' b1 b2 r fsl dl ms D := h.upd hu (fun _ _ _ _ _ h => h) fun _ _ _ _ h => h
theorem RSt.d5 (h : RSt lo H b1 b2 r fsl dl ms D) : hcell H ⟨b2, 5, none⟩ = some (slV dl) := (h.flow.cell 5).trans rfl
theorem vecN_upd_state {M : Nat → Prop} {H' : Heap} (hu : Upd M H H') {s : Sl} {vs : List Value} (h : VecN H T_verify_state 2 s vs) (h1 : ∀ b vs, Row H b T_verify_state vs → ¬ M b) : VecN H' T_verify_state 2 s vs := h.upd hu fun b hb => by
  rcases h.own with ⟨g1, _⟩ | ⟨c, sp, g1, g2, _⟩
  · rw [g1] at hb; cases hb
  · rw [g1] at hb; cases hb; exact h1 _ _ g2
/-- A map's place is filled. -/
theorem RSt.fill {H' : Heap} {i q : Nat} (h : RSt lo H b1 b2 r fsl dl ms D) (hi : i < ms.length) (hnil : ms[i]! = .map none) (hq : H[q]? = some (.map ⟨entsF 0 []⟩ ([] : List Nat).length)) (hqf : lo ≤ q) (hqn : ∀ j, j < ms.length → ms[j]! ≠ .map (some q))
    (hU : Upd (fun b => dl.a = some (adr b)) H H') (hv : Vec H' T_Map_int_bool dl (ms.set i (.map (some q)))) : RSt lo H' b1 b2 r fsl dl (ms.set i (.map (some q))) D := by
  have hnr : ∀ b T vs, Row H b T vs → T ≠ T_Map_int_bool → ¬ dl.a = some (adr b) := fun b T vs hr hT e => by
    rcases h.dv.own with ⟨g1, _⟩ | ⟨c, sp, g1, g2, _⟩
    · rw [g1] at e; cases e
    · rw [g1] at e; cases e; exact g2.ne hr hT.symm rfl
  have hnm : ∀ q es cl, H[q]? = some (.map es cl) → ¬ dl.a = some (adr q) := fun q es cl hq e => by
    rcases h.dv.own with ⟨g1, _⟩ | ⟨c, sp, g1, g2, _⟩
    · rw [g1] at e; cases e
    · rw [g1] at e; cases e; exact Row.neMap g2 hq rfl
  have hget : ∀ j, j < ms.length → (ms.set i (.map (some q)))[j]! = if j = i then .map (some q) else ms[j]! := fun j hj => by
    rw [getElem!_pos _ j (by simpa using hj), List.getElem_set, getElem!_pos ms j hj]
    by_cases e : i = j
    · rw [if_pos e, if_pos e.symm]
    · rw [if_neg e, if_neg (fun h => e h.symm)]
  refine { row := hU.row h.row (hnr _ _ _ h.row (by decide)), flow := hU.row h.flow (hnr _ _ _ h.flow (by decide)), dv := hv, ml := by rw [List.length_set]; exact h.ml, dl' := h.dl', mp := fun j hj => ?_, inj := fun j k p hj hk e1 e2 => ?_, nd := h.nd, f1 := h.f1, fd := h.fd, fm := fun j p hj e => ?_ }
  · rw [List.length_set] at hj
    rw [hget j hj]
    split
    · rename_i e
      subst e
      have hD : D[j]! = [] := by
        rcases h.mp j hj with ⟨_, g⟩ | ⟨q', g, _⟩
        · exact g
        · rw [hnil] at g; cases g
      rw [hD]
      exact .inr ⟨q, rfl, hU.keep hq (hnm _ _ _ hq)⟩
    · exact (h.mp j hj).upd hU fun p hp => by
        rcases h.mp j hj with ⟨g1, _⟩ | ⟨q', g1, g2⟩
        · rw [g1] at hp; cases hp
        · rw [g1] at hp; cases hp; exact hnm _ _ _ g2
  · rw [List.length_set] at hj hk
    rw [hget j hj] at e1
    rw [hget k hk] at e2
    split at e1 <;> split at e2
    · omega
    · cases e1; exact absurd e2 (hqn k hk)
    · cases e2; exact absurd e1 (hqn j hj)
    · exact h.inj j k p hj hk e1 e2
  · rw [List.length_set] at hj
    rw [hget j hj] at e
    split at e
    · cases e; exact hqf
    · exact h.fm j p hj e
/-- One more depth. -/
theorem RSt.add {H' : Heap} {i q d : Nat} (h : RSt lo H b1 b2 r fsl dl ms D) (hi : i < ms.length) (hq : ms[i]! = .map (some q)) (hd : d ∉ D[i]!) (hU : Upd (· = q) H H') (hm : H'[q]? = some (.map ⟨entsF 0 (D[i]! ++ [d])⟩ (D[i]! ++ [d]).length)) : RSt lo H' b1 b2 r fsl dl ms (D.set i (D[i]! ++ [d])) := by
  have hqm : ∃ es cl, H[q]? = some (.map es cl) := by
    rcases h.mp i hi with ⟨g, _⟩ | ⟨q', g, g2⟩
    · rw [hq] at g; cases g
    · rw [hq] at g; cases g; exact ⟨_, _, g2⟩
  obtain ⟨es, cl, hqm⟩ := hqm
  have hDl : D.length = ms.length := h.dl'.trans h.ml.symm
  have hget : ∀ j, j < ms.length → (D.set i (D[i]! ++ [d]))[j]! = if j = i then D[i]! ++ [d] else D[j]! := fun j hj => by
    rw [getElem!_pos _ j (by rw [List.length_set]; omega), List.getElem_set, getElem!_pos D j (by omega)]
    by_cases e : i = j
    · rw [if_pos e, if_pos e.symm]
    · rw [if_neg e, if_neg (fun h => e h.symm)]
  refine { row := hU.row h.row (Row.neMap h.row hqm), flow := hU.row h.flow (Row.neMap h.flow hqm), dv := h.dv.upd hU fun b hb => ?_, ml := h.ml, dl' := by rw [List.length_set]; exact h.dl', mp := fun j hj => ?_, inj := h.inj, nd := fun j hj => ?_, f1 := h.f1, fd := h.fd, fm := h.fm }
  · rcases h.dv.own with ⟨g1, _⟩ | ⟨c, sp, g1, g2, _⟩
    · rw [g1] at hb; cases hb
    · rw [g1] at hb; cases hb; exact Row.neMap g2 hqm
  · rw [hget j hj]
    split
    · rename_i e
      subst e
      rw [hq]
      exact .inr ⟨q, rfl, hm⟩
    · rename_i e
      exact (h.mp j hj).upd hU fun p hp e2 => e (h.inj j i q hj hi (e2 ▸ hp) hq)
  · rw [List.length_set] at hj
    rw [hget j (by omega)]
    split
    · rw [List.nodup_append]
      refine ⟨h.nd i (by omega), by simp, fun a ha b hb => ?_⟩
      rw [List.mem_singleton] at hb
      subst hb
      exact fun e => hd (e ▸ ha)
    · exact h.nd j hj
/-- The states that come next. -/
def pushes (n e : Nat) : List Int → List (Nat × Nat)
  | [] => []
  | x :: xs => (if 0 ≤ x ∧ x < (n : Int) then [(x.toNat, e)] else []) ++ pushes n e xs
theorem pushes_mem {n e : Nat} : ∀ {xs : List Int} {y : Nat × Nat}, y ∈ pushes n e xs ↔ ((y.1 : Int) ∈ xs ∧ y.1 < n ∧ y.2 = e)
  | [], y => by simp [pushes]
  | x :: xs, y => by
    unfold pushes
    rw [List.mem_append, pushes_mem (xs := xs), List.mem_cons]
    constructor
    · rintro (h | ⟨h1, h2, h3⟩)
      · split at h
        · rw [List.mem_singleton] at h
          subst h
          exact ⟨.inl (by dsimp only; omega), by dsimp only; omega, rfl⟩
        · cases h
      · exact ⟨.inr h1, h2, h3⟩
    · rintro ⟨h1 | h1, h2, h3⟩
      · left
        rw [if_pos (by omega), List.mem_singleton]
        obtain ⟨y1, y2⟩ := y
        dsimp only at h1 h2 h3
        subst h3
        rw [Prod.mk.injEq]
        exact ⟨by omega, rfl⟩
      · exact .inr ⟨h1, h2, h3⟩
theorem pushes_len {n e : Nat} : ∀ {xs : List Int}, (pushes n e xs).length ≤ xs.length
  | [] => Nat.le_refl _
  | x :: xs => by
    have := pushes_len (n := n) (e := e) (xs := xs)
    unfold pushes
    split <;> simp <;> omega
theorem pushes_snoc {n e : Nat} : ∀ {xs : List Int} {x : Int}, pushes n e (xs ++ [x]) = pushes n e xs ++ (if 0 ≤ x ∧ x < (n : Int) then [(x.toNat, e)] else [])
  | [], x => by simp [pushes]
  | y :: xs, x => by
    rw [List.cons_append]
    unfold pushes
    rw [pushes_snoc (xs := xs)]
    simp
theorem nexts_len (c : List Ins) (i : Nat) : (nexts c i).length ≤ 2 := by
  unfold nexts
  dsimp only
  repeat' split
  all_goals simp
theorem app_state {s : Sl} {T : List (Nat × Nat)} {x : Nat × Nat} (hv : VecN H T_verify_state 2 s (T.flatMap stV)) (hT : T.length ≤ 1000000) {k : Sl → Heap → Prop}
    (hk : ∀ s' H', VecN H' T_verify_state 2 s' ((T ++ [x]).flatMap stV) → Upd (fun b => s.a = some (adr b)) H H' → (s'.a = s.a ∨ ∀ b, s'.a = some (adr b) → H.size ≤ b) → k s' H') :
    Nw #[.int .i64 (x.1 : Nat), .int .i64 (x.2 : Nat)] T_verify_state H fun b5 H20 =>
      App T_verify_state 2 16 #[.int .i64 0, .int .i64 0] s ⟨some (adr b5), 1, 1⟩ H20 fun l3 H21 => k l3 H21 := by
  refine Nw_row (vs := stV x) fun b H1 hb hE hz hr => ?_
  have hl := hv.len
  rw [flat_len stV_len] at hl
  refine App_vecN (n := 2) rfl (by omega) (hv.ext hE) (ws := stV x) hr.rd_all rfl (by simp [Value.oneCell']) (by omega) (by simp only; omega) fun s' H' hv' _ hU ha => hk s' H' ?_ ?_ ?_
  · rw [List.flatMap_append]; simpa using hv'
  · exact (hE.mono fun _ _ h => h.elim).trans hU fun _ _ h => h.1
  · rcases ha with ⟨e, _⟩ | e
    · exact .inl e
    · refine .inr fun c hc => ?_
      rw [e] at hc; cases hc
      have := hE.size; omega
end Go.Proofs.Ytlkmmplgfjicjaa
