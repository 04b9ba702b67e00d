/-
  Rows of several cells without a thought for spots; maps of numbers; iteration over them; vectors at an offset.
-/
import Derived.Test.YtfpmgpblhhcpgaaGreatHcLawB
import Derived.Test.YtfpmgpblhhcpgaaGreatVRef
import Derived.Test.YtfpmgpblhhcpgaaGreatHcLaw
namespace Go.Proofs.YtfpmgpblhhcpgaaGreat.Hc
set_option linter.unusedVariables false
set_option linter.unusedSimpArgs false

theorem addAdd (a : Addr) (n m : Nat) : (a.add n).add m = a.add (n + m) := by
  unfold Addr.add
  by_cases h : n = 0
  · subst h; simp
  · by_cases h2 : m = 0
    · subst h2; simp [h]
    · rw [if_neg h, if_neg h2, if_neg (by omega)]
      simp [Nat.add_assoc]
theorem hcellsShift {H : Heap} {a : Addr} {n : Nat} : ∀ {vs : List Value} {i : Nat}, hcells H a (n + i) vs ↔ hcells H (a.add n) i vs
  | [], _ => Iff.rfl
  | _ :: _, i => by
    simp only [hcells]
    rw [addAdd, Nat.add_assoc, hcellsShift (i := i + 1)]
theorem hcells_app {H : Heap} {a : Addr} : ∀ {vs ws : List Value} {i : Nat}, hcells H a i (vs ++ ws) ↔ hcells H a i vs ∧ hcells H a (i + vs.length) ws
  | [], ws, i => by simp [hcells]
  | v :: vs, ws, i => by
    simp only [List.cons_append, hcells, List.length_cons]
    rw [hcells_app (vs := vs), and_assoc, show i + 1 + vs.length = i + (vs.length + 1) by omega]
/-- The address of an element, and its cells there. -/
theorem IxA_rn' {α : Type} [Inhabited α] {f : α → List Value} {n : Nat} (hf : ∀ e, (f e).length = n) {H : Heap} {s : Sl} {xs : List α} (h : RN f n H s xs) (hn : 0 < n) {i : Int} {k : Addr → Prop} {j : Nat} (hj : i = j) (hl : j < xs.length)
    (hk : ∀ a, hcells H a 0 (f xs[j]!) → k a) : IxA n s i k := by
  have hr := h.rd
  unfold rdL at hr
  cases ha : s.a with
  | none =>
    rw [ha] at hr
    have := flat_len hf (es := xs)
    rw [hr] at this
    simp only [List.length_nil] at this
    have : 0 < xs.length * n := Nat.mul_pos (by omega) hn
    omega
  | some a =>
    rw [ha] at hr
    subst hj
    refine IxA.mk ha (by omega) (by rw [h.len]; omega) ?_
    rw [Int.toNat_natCast]
    refine hk _ ?_
    obtain ⟨r, hrest⟩ := flat_drop hf hl
    have h1 := hcells_drop (m := j * n) hr
    rw [hrest, Nat.zero_add] at h1
    exact hcellsShift.1 (hcells_app.1 h1).1
theorem rn_of {α : Type} {f : α → List Value} {n : Nat} (hf : ∀ e, (f e).length = n) {H : Heap} {a : Addr} : ∀ {xs : List α} {m : Nat}, (∀ i (h : i < xs.length), hcells H (a.add ((m + i) * n)) 0 (f xs[i])) → hcells H a (m * n) (xs.flatMap f)
  | [], _, _ => trivial
  | x :: xs, m, h => by
    rw [List.flatMap_cons, hcells_app, hf]
    refine ⟨?_, ?_⟩
    · have := h 0 (by simp)
      rw [Nat.add_zero] at this
      exact hcellsShift.2 this
    · have := rn_of hf (H := H) (a := a) (xs := xs) (m := m + 1) fun i hi => by
        have := h (i + 1) (by simpa using hi)
        rw [show m + 1 + i = m + (i + 1) by omega]
        simpa using this
      rw [Nat.add_mul, Nat.one_mul] at this
      exact this
theorem RN.of_elems {α : Type} {f : α → List Value} {n : Nat} (hf : ∀ e, (f e).length = n) {H : Heap} {s : Sl} {xs : List α} (hl : s.len = xs.length) (hc : s.len ≤ s.cap) (h : ∀ i (h : i < xs.length), ∃ a, s.a = some a ∧ hcells H (a.add (i * n)) 0 (f xs[i])) : RN f n H s xs := by
  refine ⟨?_, hl, hc⟩
  unfold rdL
  cases ha : s.a with
  | none =>
    cases xs with
    | nil => rfl
    | cons x xs => obtain ⟨a, e, _⟩ := h 0 (by simp); rw [ha] at e; cases e
  | some a =>
    dsimp only
    have := rn_of hf (H := H) (a := a) (xs := xs) (m := 0) fun i hi => by
      obtain ⟨a', e, hcell⟩ := h i hi
      rw [ha] at e; cases e
      rw [Nat.zero_add]; exact hcell
    simpa using this
/-- What a slice reads stays, where its block is not turned. -/
theorem RN.upd' {α : Type} {f : α → List Value} {n : Nat} {M : Nat → Prop} {H H' : Heap} (hu : Upd M H H') {s : Sl} {xs : List α} (h : RN f n H s xs) (hn : xs ≠ [] → ∀ a, s.a = some a → ¬ M a.block) : RN f n H' s xs := by
  by_cases e : xs = []
  · subst e
    refine ⟨?_, h.len, h.cap⟩
    have := h.rd
    unfold rdL at this ⊢
    cases s.a <;> trivial
  · exact h.upd hu (hn e)
theorem RN.lt {α : Type} {f : α → List Value} {n : Nat} (hf : ∀ e, (f e).length = n) (hn : 0 < n) {H : Heap} {s : Sl} {xs : List α} (h : RN f n H s xs) (hx : xs ≠ []) {a : Addr} (ha : s.a = some a) : a.block < H.size := by
  have hr := h.rd
  unfold rdL at hr
  rw [ha] at hr
  cases xs with
  | nil => exact absurd rfl hx
  | cons x xs =>
    have hl := hf x
    cases hfx : f x with
    | nil => rw [hfx] at hl; simp at hl; omega
    | cons v vs =>
      rw [List.flatMap_cons, hfx] at hr
      have := lt_of_cell hr.1
      rwa [add_block] at this

theorem vecN_pre {T : TypeId} {n : Nat} {H : Heap} {s : Sl} {vs : List Value} (h : VecN H T n s vs) {j c : Nat} (hj : j ≤ s.len) (hc : j ≤ c) (hc2 : c ≤ s.cap) : VecN H T n ⟨s.a, j, c⟩ (vs.take (j * n)) := by
  have hl := h.len
  have h1 : j * n ≤ s.len * n := Nat.mul_le_mul_right n hj
  refine ⟨by rw [List.length_take]; dsimp only; omega, ?_, hc⟩
  rcases h.own with ⟨g1, g2, g3⟩ | ⟨b, sp, g1, g2, g3⟩
  · exact .inl ⟨g1, by dsimp only; omega, by rw [g3]; simp⟩
  · refine .inr ⟨b, vs.drop (j * n) ++ sp, g1, by rw [← List.append_assoc, List.take_append_drop]; exact g2, ?_⟩
    have := Nat.mul_le_mul_right n hc2
    simp only [List.length_take, List.length_append, List.length_drop]
    omega

/-! ### maps of numbers -/
def entsF : Nat → List Nat → List MapEntry
  | _, [] => []
  | n, d :: ds => { key := .int .i64 (d : Nat), val := .bool true, born := n } :: entsF (n + 1) ds
theorem entsF_len : ∀ (n : Nat) (ds : List Nat), (entsF n ds).length = ds.length
  | _, [] => rfl
  | n, d :: ds => by simp [entsF, entsF_len (n + 1) ds]
theorem entsF_snoc : ∀ (n : Nat) (ds : List Nat) (d : Nat), entsF n (ds ++ [d]) = entsF n ds ++ [{ key := .int .i64 (d : Nat), val := .bool true, born := n + ds.length }]
  | n, [], d => by simp [entsF]
  | n, e :: ds, d => by
    simp only [List.cons_append, entsF, entsF_snoc (n + 1) ds d, List.length_cons]
    congr 4
    omega
theorem entsF_mem : ∀ {n : Nat} {ds : List Nat} {e : MapEntry}, e ∈ entsF n ds → n ≤ e.born ∧ e.born < n + ds.length ∧ e.key = .int .i64 ((ds[e.born - n]! : Nat) : Int)
  | n, d :: ds, e, h => by
    rcases List.mem_cons.1 h with rfl | h
    · refine ⟨Nat.le_refl _, by simp, ?_⟩
      simp
    · obtain ⟨h1, h2, h3⟩ := entsF_mem h
      refine ⟨by omega, by simp only [List.length_cons]; omega, ?_⟩
      rw [h3]
      obtain ⟨q, hq⟩ : ∃ q, e.born - n = q + 1 := ⟨e.born - n - 1, by omega⟩
      rw [hq, show e.born - (n + 1) = q by omega]
      simp
theorem entsF_find : ∀ {n : Nat} {ds : List Nat} {j : Nat}, j < ds.length → (entsF n ds).find? (fun x => x.born == n + j) = some { key := .int .i64 ((ds[j]! : Nat) : Int), val := .bool true, born := n + j }
  | n, d :: ds, 0, _ => by simp [entsF]
  | n, d :: ds, j + 1, h => by
    have hne : (n == n + (j + 1)) = false := beq_eq_false_iff_ne.2 (by omega)
    simp only [entsF, List.find?_cons, hne]
    have := entsF_find (n := n + 1) (ds := ds) (j := j) (by simpa using h)
    rw [show n + (j + 1) = n + 1 + j by omega]
    simpa using this
theorem entsF_findNow {x : Nat} : ∀ {n i : Nat} {ds : List Nat}, Instr.findNow (.int .i64) (.int .i64 (x : Nat)) (entsF n ds) i = some (if x ∈ ds then (Instr.findNow (.int .i64) (.int .i64 (x : Nat)) (entsF n ds) i).getD none else none) ∧
    (x ∈ ds → ∃ j, Instr.findNow (.int .i64) (.int .i64 (x : Nat)) (entsF n ds) i = some (some (j, .bool true)))
  | n, i, [] => by simp [entsF, Instr.findNow]
  | n, i, d :: ds => by
    have hs : Instr.sameNow (.int .i64) (.int .i64 (x : Nat)) (.int .i64 (d : Nat)) = some (((x : Nat) : Int) == (d : Nat)) := by simp [Instr.sameNow]
    unfold entsF Instr.findNow
    dsimp only
    rw [hs]
    by_cases h : x = d
    · subst h; simp
    · have hb : (((x : Nat) : Int) == ((d : Nat) : Int)) = false := beq_eq_false_iff_ne.2 (by omega)
      rw [hb]
      dsimp only
      obtain ⟨h1, h2⟩ := entsF_findNow (x := x) (n := n + 1) (i := i + 1) (ds := ds)
      refine ⟨?_, fun hx => h2 ((List.mem_cons.1 hx).resolve_left h)⟩
      by_cases hx : x ∈ ds
      · rw [if_pos (List.mem_cons.2 (.inr hx))]
        rw [if_pos hx] at h1; exact h1
      · rw [if_neg (fun e => (List.mem_cons.1 e).elim h hx)]
        rw [if_neg hx] at h1; exact h1
/-- A map whose keys are these numbers, as they came. -/
def MapI (H : Heap) (v : Value) (ds : List Nat) : Prop := (v = .map none ∧ ds = []) ∨ ∃ r, v = .map (some r) ∧ H[r]? = some (.map ⟨entsF 0 ds⟩ ds.length)
theorem MapI.upd {M : Nat → Prop} {H H' : Heap} (hu : Upd M H H') {v : Value} {ds : List Nat} (h : MapI H v ds) (hn : ∀ r, v = .map (some r) → ¬ M r) : MapI H' v ds := by
  rcases h with h | ⟨r, h1, h2⟩
  · exact .inl h
  · exact .inr ⟨r, h1, hu.keep h2 (hn r h1)⟩
theorem MapI.ents {H : Heap} {v : Value} {ds : List Nat} (h : MapI H v ds) : MpE H v (entsF 0 ds) := by
  rcases h with ⟨h1, h2⟩ | ⟨r, h1, h2⟩
  · subst h2; exact .inl ⟨h1, rfl⟩
  · exact .inr ⟨r, _, h1, h2⟩
theorem MpN_i {H : Heap} {v : Value} {ds : List Nat} {k : Int → Prop} (h : MapI H v ds) (hk : k (ds.length : Nat)) : MpN v H k := ⟨_, h.ents, by rw [entsF_len]; exact hk⟩
theorem MpL_i {H : Heap} {v : Value} {ds : List Nat} {x : Nat} {k : Bool → Bool → Prop} (h : MapI H v ds) (hk : k (decide (x ∈ ds)) (decide (x ∈ ds))) : MpL (.int .i64) (.c .bool) false v (.int .i64 (x : Nat)) H k := by
  refine ⟨_, h.ents, ?_⟩
  obtain ⟨h1, h2⟩ := entsF_findNow (x := x) (n := 0) (i := 0) (ds := ds)
  by_cases hx : x ∈ ds
  · obtain ⟨j, hj⟩ := h2 hx
    rw [decide_eq_true hx] at hk
    exact .inl ⟨j, true, hj, hk⟩
  · rw [if_neg hx] at h1
    rw [decide_eq_false hx] at hk
    exact .inr ⟨h1, hk⟩
/-- A number that is not there yet. -/
theorem MpU_i {H : Heap} {r : Nat} {ds : List Nat} {x : Nat} {k : Heap → Prop} (h : H[r]? = some (.map ⟨entsF 0 ds⟩ ds.length)) (hx : x ∉ ds) (hk : ∀ H', Upd (· = r) H H' → H'.size = H.size → H'[r]? = some (.map ⟨entsF 0 (ds ++ [x])⟩ (ds ++ [x]).length) → k H') :
    MpU (.int .i64) (.map (some r)) (.int .i64 (x : Nat)) (.bool true) H k := by
  refine ⟨r, _, _, rfl, h, .inr ⟨?_, hk _ ⟨by simp, fun b hb hn => ?_⟩ (by simp) ?_⟩⟩
  · obtain ⟨h1, _⟩ := entsF_findNow (x := x) (n := 0) (i := 0) (ds := ds)
    rw [if_neg hx] at h1; exact h1
  · simp only [Array.getElem?_setIfInBounds]; rw [if_neg (fun e => hn e.symm)]
  · have := lt_of_get h
    simp only [Array.getElem?_setIfInBounds, this, if_true]
    rw [entsF_snoc]
    simp
theorem MkM_i {H : Heap} {k : Value → Heap → Prop} (hk : ∀ r H', r = H.size → Ext H H' → H'.size = H.size + 1 → H'[r]? = some (.map ⟨entsF 0 []⟩ ([] : List Nat).length) → k (.map (some r)) H') : MkM H k :=
  hk _ _ rfl (Upd.push _ _ _) (by simp) (get_push_new _ _)

/-- All numbers of a map, in whatever order. -/
theorem MpRange_i {H : Heap} {v : Value} {ds : List Nat} (hm : MapI H v ds) {M0 : Nat → Prop} (hM : ∀ r, v = .map (some r) → ¬ M0 r) (I : List Nat → Heap → Prop) {DONE : Heap → Prop} {BODY : Int → Heap → (Heap → Prop) → Prop}
    (h0 : ∀ H', Ext H H' → I [] H')
    (hdone : ∀ H' seen, Upd M0 H H' → I seen H' → (∀ d, d ∈ ds → d ∈ seen) → DONE H')
    (hstep : ∀ H' H'' seen, Upd M0 H H' → Upd M0 H H'' → Upd (· = H.size) H' H'' → I seen H' → I seen H'')
    (hbody : ∀ H' seen (d : Nat) (nx : Heap → Prop), Upd M0 H H' → H.size < H'.size → I seen H' → d ∈ ds → d ∉ seen → (∀ H'', Upd M0 H H'' → H'.size ≤ H''.size → H''[H.size]? = H'[H.size]? → I (d :: seen) H'' → nx H'') → BODY (d : Nat) H' nx) (hnd : ds.Nodup) :
    MpR v H fun a H8 => LoopT (σ := Unit) (fun next _ H9 => MpXk a H9 (fun H10 => DONE H10) fun _ _ H11 => MpC a H11 fun x7 _ => AsI .i64 x7 fun n1 => BODY n1 H11 (next ())) () H8 := by
  rcases hm with ⟨rfl, rfl⟩ | ⟨r, rfl, hr⟩
  · refine .inl ⟨rfl, ?_⟩
    have hE : Ext H (H.push (.mapIter none 0 #[] 0)) := Upd.push _ _ _
    refine LoopT.mk (fun _ H' => H.push (.mapIter none 0 #[] 0) = H') (fun _ _ => 0) rfl ?_
    rintro next _ _ rfl _
    refine ⟨rfl, .inl ⟨_, _, _, get_push_new _ _, ?_⟩⟩
    exact hdone _ [] (hE.mono fun _ _ h => h.elim) (h0 _ hE) fun d hd => by cases hd
  · refine .inr ⟨r, _, _, rfl, hr, ?_⟩
    have hE : Ext H (H.push (.mapIter (some r) ds.length #[] ds.length)) := Upd.push _ _ _
    have hrl := lt_of_get hr
    have hM := hM r rfl
    refine LoopT.ghost (fun m _ H' => ∃ (st : List Nat), m = ds.length - st.length ∧ (∀ j ∈ st, j < ds.length) ∧ st.Nodup ∧ Upd M0 H H' ∧ H.size < H'.size ∧ H'[H.size]? = some (.mapIter (some r) ds.length ⟨st.reverse⟩ ds.length) ∧ I (st.map fun j => ds[j]!) H') (ds.length - 0)
      ⟨[], rfl, (fun j hj => by cases hj), List.nodup_nil, hE.mono (fun _ _ h => h.elim), by simp, get_push_new _ _, h0 _ hE⟩ ?_
    rintro next m _ H9 ⟨st, rfl, hst, hnds, hU, hsz, hit, hI⟩ hnext
    have hmap : H9[r]? = some (.map ⟨entsF 0 ds⟩ ds.length) := hU.keep hr hM
    refine ⟨rfl, .inr ⟨r, _, _, _, hit, hmap, fun e he => ?_, fun hall => ?_, fun e he hns => ?_⟩⟩
    · have := (entsF_mem he).2.1; omega
    · refine hdone _ _ hU hI fun d hd => ?_
      obtain ⟨j, hj, rfl⟩ := List.getElem_of_mem hd
      have hfe := List.mem_of_find?_eq_some (entsF_find (n := 0) (ds := ds) (j := j) hj)
      have := hall _ hfe
      simp only [Nat.zero_add, List.contains_toArray, List.contains_eq_mem, List.mem_reverse, decide_eq_true_eq] at this
      exact List.mem_map.2 ⟨j, this, getElem!_pos ds j hj⟩
    · obtain ⟨_, hb, hkey⟩ := entsF_mem he
      rw [Nat.zero_add] at hb
      rw [Nat.sub_zero] at hkey
      have hns' : e.born ∉ st := by simpa using hns
      have hU2 : Upd (· = H.size) H9 (H9.setIfInBounds H.size (.mapIter (some r) ds.length ((⟨st.reverse⟩ : Array Nat).push e.born) ds.length)) :=
        ⟨by simp, fun b hb hn => by simp only [Array.getElem?_setIfInBounds]; rw [if_neg (fun e => hn e.symm)]⟩
      have hU3 : Upd M0 H (H9.setIfInBounds H.size (.mapIter (some r) ds.length ((⟨st.reverse⟩ : Array Nat).push e.born) ds.length)) := hU.trans hU2 fun b hb e => by omega
      have hit2 : (H9.setIfInBounds H.size (.mapIter (some r) ds.length ((⟨st.reverse⟩ : Array Nat).push e.born) ds.length))[H.size]? = some (.mapIter (some r) ds.length ⟨(e.born :: st).reverse⟩ ds.length) := by
        simp only [Array.getElem?_setIfInBounds, hsz, if_true]
        congr 2
        simp
      have hcell : MpC ⟨H.size, 0, none⟩ (H9.setIfInBounds H.size (.mapIter (some r) ds.length ((⟨st.reverse⟩ : Array Nat).push e.born) ds.length)) fun x7 _ => AsI .i64 x7 fun n1 => BODY n1 (H9.setIfInBounds H.size (.mapIter (some r) ds.length ((⟨st.reverse⟩ : Array Nat).push e.born) ds.length)) (next ()) := by
        refine ⟨rfl, r, _, _, _, _, e.born, { key := .int .i64 ((ds[e.born]! : Nat) : Int), val := .bool true, born := e.born }, hit2, hU3.keep hr hM, by simp, ?_, ?_⟩
        · have := entsF_find (n := 0) (ds := ds) (j := e.born) hb
          simpa using this
        · show AsI .i64 (.int .i64 ((ds[e.born]! : Nat) : Int)) _
          unfold AsI
          dsimp only
          rw [if_pos rfl]
          refine hbody _ (st.map fun j => ds[j]!) ds[e.born]! _ hU3 (by simpa using hsz) (hstep _ _ _ hU hU3 hU2 hI) ?_ ?_ fun H'' g1 g2 g3 g4 => ?_
          · rw [getElem!_pos ds _ hb]; exact List.getElem_mem _
          · intro hmem
            obtain ⟨j, hj, hje⟩ := List.mem_map.1 hmem
            have hj2 := hst j hj
            rw [getElem!_pos ds j hj2, getElem!_pos ds _ hb] at hje
            have hjb : j = e.born := (List.getElem_inj hnd).1 hje
            exact hns' (hjb ▸ hj)
          · refine hnext (ds.length - (e.born :: st).length) () H'' ?_ ⟨e.born :: st, rfl, fun j hj => ?_, List.nodup_cons.2 ⟨hns', hnds⟩, g1, ?_, by rw [g3]; exact hit2, g4⟩
            · have hlen : st.length < ds.length := by
                have hsub : (e.born :: st).length ≤ (List.range ds.length).length := by
                  refine (List.nodup_cons.2 ⟨hns', hnds⟩).length_le_of_subset fun j hj => ?_
                  rcases List.mem_cons.1 hj with rfl | hj
                  · exact List.mem_range.2 hb
                  · exact List.mem_range.2 (hst j hj)
                simp only [List.length_cons, List.length_range] at hsub
                omega
              simp only [List.length_cons]
              omega
            · rcases List.mem_cons.1 hj with rfl | hj
              · exact hb
              · exact hst j hj
            · have : H9.size ≤ H''.size := by simpa using g2
              omega
      exact hcell
end Go.Proofs.YtfpmgpblhhcpgaaGreat.Hc
/-
  What an instruction takes and puts.
-/
namespace Go.Proofs.YtfpmgpblhhcpgaaGreat
set_option linter.unusedVariables false
set_option linter.unusedSimpArgs false
open Go.Proofs.YtfpmgpblhhcpgaaGreat.Hc Go.Proofs.YtfpmgpblhhcpgaaGreat.Hc.Vf
set_option maxRecDepth 100000

/-- Has it an A? -/
def numB (op : Int) : Bool := [1, 2, 3, 4, 5, 19, 20, 21, 26, 28, 29, 35].contains op
def shp (op : Int) : Bool × Int × Int × Int := if isOpB op then (numB op, (tbl[op.toNat]!).1, (tbl[op.toNat]!).2.1, ((tbl[op.toNat]!).2.2 : Nat)) else (false, 0, 0, 0)
theorem shp_no {op : Int} (h : ¬ (1 ≤ op ∧ op ≤ 39)) : shp op = (false, 0, 0, 0) := by
  unfold shp isOpB; rw [decide_eq_false h]; rfl
theorem extUpd {H H1 H2 : Heap} {b : Nat} (hE : Ext H H1) (hb : H.size ≤ b) (hU : Upd (· = b) H1 H2) : Ext H H2 := hE.trans hU fun c hc e => by omega
theorem shape_put {H : Heap} {b : Nat} {x0 x1 x2 x3 x4 : Value} (hr : Row H b T_code_shape [x0, x1, x2, x3, x4]) {w : ByteArray} {n : Bool} {t p y : Int} {k : ByteArray × Bool × Int × Int × Int → Heap → Prop}
    (hk : ∀ H', Upd (· = b) H H' → Row H' b T_code_shape [.string w, .bool n, .int .i64 t, .int .i64 p, .int .i64 y] → k (w, n, t, p, y) H') :
    St ((adr b).add 0) (.string w) H fun H2 =>
      St ((adr b).add 1) (.bool n) H2 fun H3 =>
      St ((adr b).add 2) (.int .i64 t) H3 fun H4 =>
      St ((adr b).add 3) (.int .i64 p) H4 fun H5 =>
      St ((adr b).add 4) (.int .i64 y) H5 fun H6 =>
      LdC [.str, .bool, (.int .i64), (.int .i64), (.int .i64)] (adr b) H6 fun (c1 : ByteArray × Bool × Int × Int × Int) =>
      k (c1.1, c1.2.1, c1.2.2.1, c1.2.2.2.1, c1.2.2.2.2) H6 := by
  simp only [adr_add]
  refine St_row hr (by simp) fun H2 hU2 _ hr2 => St_row hr2 (by simp) fun H3 hU3 _ hr3 => St_row hr3 (by simp) fun H4 hU4 _ hr4 => St_row hr4 (by simp) fun H5 hU5 _ hr5 => St_row hr5 (by simp) fun H6 hU6 _ hr6 => ?_
  have hU : Upd (· = b) H H6 := (((hU2.trans hU3 fun _ _ h => h).trans hU4 fun _ _ h => h).trans hU5 fun _ _ h => h).trans hU6 fun _ _ h => h
  exact ⟨(w, n, t, p, y), hr6.rd_all, hk H6 hU hr6⟩
theorem beqI {a b : Int} (h : (a == b) = true) : a = b := by simpa using h
theorem bneI {a b : Int} (h : (a == b) = false) : a ≠ b := by simpa using h

theorem s_reckons {op : Int} {H : Heap} (hop : op < 19) {k : ByteArray × Bool × Int × Int × Int → Heap → Prop} (hk : ∀ H' w, Ext H H' → (isOpB op = true → w.size ≠ 0) → k (w, (shp op).1, (shp op).2.1, (shp op).2.2.1, (shp op).2.2.2) H') : CallT Pg f_code_reckons [.int .i64 op] (.one (.agg [.str, .bool, (.int .i64), (.int .i64), (.int .i64)])) H k := by
  refine c_code_reckons _ ?_
  unfold v_code_reckons
  refine Nw_row (vs := [.string ByteArray.empty, .bool false, .int .i64 0, .int .i64 0, .int .i64 0]) fun b1 H1 hb hE _ hr => ?_
  refine Br.mk (fun h => ?_) fun h1 => ?_
  · have h := beqI h; subst h; exact shape_put hr fun H' hU _ => hk H' _ (extUpd hE (by omega) hU) fun _ => by decide
  refine Br.mk (fun h => ?_) fun h2 => ?_
  · have h := beqI h; subst h; exact shape_put hr fun H' hU _ => hk H' _ (extUpd hE (by omega) hU) fun _ => by decide
  refine Br.mk (fun h => ?_) fun h3 => ?_
  · have h := beqI h; subst h; exact shape_put hr fun H' hU _ => hk H' _ (extUpd hE (by omega) hU) fun _ => by decide
  refine Br.mk (fun h => ?_) fun h4 => ?_
  · have h := beqI h; subst h; exact shape_put hr fun H' hU _ => hk H' _ (extUpd hE (by omega) hU) fun _ => by decide
  refine Br.mk (fun h => ?_) fun h5 => ?_
  · have h := beqI h; subst h; exact shape_put hr fun H' hU _ => hk H' _ (extUpd hE (by omega) hU) fun _ => by decide
  refine Br.mk (fun h => ?_) fun h6 => ?_
  · have h := beqI h; subst h; exact shape_put hr fun H' hU _ => hk H' _ (extUpd hE (by omega) hU) fun _ => by decide
  refine Br.mk (fun h => ?_) fun h7 => ?_
  · have h := beqI h; subst h; exact shape_put hr fun H' hU _ => hk H' _ (extUpd hE (by omega) hU) fun _ => by decide
  refine Br.mk (fun h => ?_) fun h8 => ?_
  · have h := beqI h; subst h; exact shape_put hr fun H' hU _ => hk H' _ (extUpd hE (by omega) hU) fun _ => by decide
  refine Br.mk (fun h => ?_) fun h9 => ?_
  · have h := beqI h; subst h; exact shape_put hr fun H' hU _ => hk H' _ (extUpd hE (by omega) hU) fun _ => by decide
  refine Br.mk (fun h => ?_) fun h10 => ?_
  · have h := beqI h; subst h; exact shape_put hr fun H' hU _ => hk H' _ (extUpd hE (by omega) hU) fun _ => by decide
  refine Br.mk (fun h => ?_) fun h11 => ?_
  · have h := beqI h; subst h; exact shape_put hr fun H' hU _ => hk H' _ (extUpd hE (by omega) hU) fun _ => by decide
  refine Br.mk (fun h => ?_) fun h12 => ?_
  · have h := beqI h; subst h; exact shape_put hr fun H' hU _ => hk H' _ (extUpd hE (by omega) hU) fun _ => by decide
  refine Br.mk (fun h => ?_) fun h13 => ?_
  · have h := beqI h; subst h; exact shape_put hr fun H' hU _ => hk H' _ (extUpd hE (by omega) hU) fun _ => by decide
  refine Br.mk (fun h => ?_) fun h14 => ?_
  · have h := beqI h; subst h; exact shape_put hr fun H' hU _ => hk H' _ (extUpd hE (by omega) hU) fun _ => by decide
  refine Br.mk (fun h => ?_) fun h15 => ?_
  · have h := beqI h; subst h; exact shape_put hr fun H' hU _ => hk H' _ (extUpd hE (by omega) hU) fun _ => by decide
  refine Br.mk (fun h => ?_) fun h16 => ?_
  · have h := beqI h; subst h; exact shape_put hr fun H' hU _ => hk H' _ (extUpd hE (by omega) hU) fun _ => by decide
  refine Br.mk (fun h => ?_) fun h17 => ?_
  · have h := beqI h; subst h; exact shape_put hr fun H' hU _ => hk H' _ (extUpd hE (by omega) hU) fun _ => by decide
  refine Br.mk (fun h => ?_) fun h18 => ?_
  · have h := beqI h; subst h; exact shape_put hr fun H' hU _ => hk H' _ (extUpd hE (by omega) hU) fun _ => by decide
  refine shape_put hr fun H' hU _ => ?_
  have hk := hk H' ByteArray.empty (extUpd hE (by omega) hU)
  have hk := fun (e : isOpB op ≠ true) => hk fun h => (e h).elim
  have h1 := bneI h1
  have h2 := bneI h2
  have h3 := bneI h3
  have h4 := bneI h4
  have h5 := bneI h5
  have h6 := bneI h6
  have h7 := bneI h7
  have h8 := bneI h8
  have h9 := bneI h9
  have h10 := bneI h10
  have h11 := bneI h11
  have h12 := bneI h12
  have h13 := bneI h13
  have h14 := bneI h14
  have h15 := bneI h15
  have h16 := bneI h16
  have h17 := bneI h17
  have h18 := bneI h18
  rw [shp_no (by omega)] at hk
  exact hk (by unfold isOpB; rw [decide_eq_false (by omega)]; decide)
theorem s_acts {op : Int} {H : Heap} (hop : ¬ op < 19) {k : ByteArray × Bool × Int × Int × Int → Heap → Prop} (hk : ∀ H' w, Ext H H' → (isOpB op = true → w.size ≠ 0) → k (w, (shp op).1, (shp op).2.1, (shp op).2.2.1, (shp op).2.2.2) H') : CallT Pg f_code_acts [.int .i64 op] (.one (.agg [.str, .bool, (.int .i64), (.int .i64), (.int .i64)])) H k := by
  refine c_code_acts _ ?_
  unfold v_code_acts
  refine Nw_row (vs := [.string ByteArray.empty, .bool false, .int .i64 0, .int .i64 0, .int .i64 0]) fun b1 H1 hb hE _ hr => ?_
  refine Br.mk (fun h => ?_) fun h19 => ?_
  · have h := beqI h; subst h; exact shape_put hr fun H' hU _ => hk H' _ (extUpd hE (by omega) hU) fun _ => by decide
  refine Br.mk (fun h => ?_) fun h20 => ?_
  · have h := beqI h; subst h; exact shape_put hr fun H' hU _ => hk H' _ (extUpd hE (by omega) hU) fun _ => by decide
  refine Br.mk (fun h => ?_) fun h21 => ?_
  · have h := beqI h; subst h; exact shape_put hr fun H' hU _ => hk H' _ (extUpd hE (by omega) hU) fun _ => by decide
  refine Br.mk (fun h => ?_) fun h22 => ?_
  · have h := beqI h; subst h; exact shape_put hr fun H' hU _ => hk H' _ (extUpd hE (by omega) hU) fun _ => by decide
  refine Br.mk (fun h => ?_) fun h23 => ?_
  · have h := beqI h; subst h; exact shape_put hr fun H' hU _ => hk H' _ (extUpd hE (by omega) hU) fun _ => by decide
  refine Br.mk (fun h => ?_) fun h24 => ?_
  · have h := beqI h; subst h; exact shape_put hr fun H' hU _ => hk H' _ (extUpd hE (by omega) hU) fun _ => by decide
  refine Br.mk (fun h => ?_) fun h25 => ?_
  · have h := beqI h; subst h; exact shape_put hr fun H' hU _ => hk H' _ (extUpd hE (by omega) hU) fun _ => by decide
  refine Br.mk (fun h => ?_) fun h26 => ?_
  · have h := beqI h; subst h; exact shape_put hr fun H' hU _ => hk H' _ (extUpd hE (by omega) hU) fun _ => by decide
  refine Br.mk (fun h => ?_) fun h27 => ?_
  · have h := beqI h; subst h; exact shape_put hr fun H' hU _ => hk H' _ (extUpd hE (by omega) hU) fun _ => by decide
  refine Br.mk (fun h => ?_) fun h28 => ?_
  · have h := beqI h; subst h; exact shape_put hr fun H' hU _ => hk H' _ (extUpd hE (by omega) hU) fun _ => by decide
  refine Br.mk (fun h => ?_) fun h29 => ?_
  · have h := beqI h; subst h; exact shape_put hr fun H' hU _ => hk H' _ (extUpd hE (by omega) hU) fun _ => by decide
  refine Br.mk (fun h => ?_) fun h30 => ?_
  · have h := beqI h; subst h; exact shape_put hr fun H' hU _ => hk H' _ (extUpd hE (by omega) hU) fun _ => by decide
  refine Br.mk (fun h => ?_) fun h31 => ?_
  · have h := beqI h; subst h; exact shape_put hr fun H' hU _ => hk H' _ (extUpd hE (by omega) hU) fun _ => by decide
  refine Br.mk (fun h => ?_) fun h32 => ?_
  · have h := beqI h; subst h; exact shape_put hr fun H' hU _ => hk H' _ (extUpd hE (by omega) hU) fun _ => by decide
  refine Br.mk (fun h => ?_) fun h33 => ?_
  · have h := beqI h; subst h; exact shape_put hr fun H' hU _ => hk H' _ (extUpd hE (by omega) hU) fun _ => by decide
  refine Br.mk (fun h => ?_) fun h34 => ?_
  · have h := beqI h; subst h; exact shape_put hr fun H' hU _ => hk H' _ (extUpd hE (by omega) hU) fun _ => by decide
  refine Br.mk (fun h => ?_) fun h35 => ?_
  · have h := beqI h; subst h; exact shape_put hr fun H' hU _ => hk H' _ (extUpd hE (by omega) hU) fun _ => by decide
  refine Br.mk (fun h => ?_) fun h36 => ?_
  · have h := beqI h; subst h; exact shape_put hr fun H' hU _ => hk H' _ (extUpd hE (by omega) hU) fun _ => by decide
  refine Br.mk (fun h => ?_) fun h37 => ?_
  · have h := beqI h; subst h; exact shape_put hr fun H' hU _ => hk H' _ (extUpd hE (by omega) hU) fun _ => by decide
  refine Br.mk (fun h => ?_) fun h38 => ?_
  · have h := beqI h; subst h; exact shape_put hr fun H' hU _ => hk H' _ (extUpd hE (by omega) hU) fun _ => by decide
  refine Br.mk (fun h => ?_) fun h39 => ?_
  · have h := beqI h; subst h; exact shape_put hr fun H' hU _ => hk H' _ (extUpd hE (by omega) hU) fun _ => by decide
  refine shape_put hr fun H' hU _ => ?_
  have hk := hk H' ByteArray.empty (extUpd hE (by omega) hU)
  have hk := fun (e : isOpB op ≠ true) => hk fun h => (e h).elim
  have h19 := bneI h19
  have h20 := bneI h20
  have h21 := bneI h21
  have h22 := bneI h22
  have h23 := bneI h23
  have h24 := bneI h24
  have h25 := bneI h25
  have h26 := bneI h26
  have h27 := bneI h27
  have h28 := bneI h28
  have h29 := bneI h29
  have h30 := bneI h30
  have h31 := bneI h31
  have h32 := bneI h32
  have h33 := bneI h33
  have h34 := bneI h34
  have h35 := bneI h35
  have h36 := bneI h36
  have h37 := bneI h37
  have h38 := bneI h38
  have h39 := bneI h39
  rw [shp_no (by omega)] at hk
  exact hk (by unfold isOpB; rw [decide_eq_false (by omega)]; decide)
theorem s_shapeOf {op : Int} {H : Heap} {k : ByteArray × Bool × Int × Int × Int → Heap → Prop} (hk : ∀ H' w, Ext H H' → (isOpB op = true → w.size ≠ 0) → k (w, (shp op).1, (shp op).2.1, (shp op).2.2.1, (shp op).2.2.2) H') : CallT Pg f_code_shapeOf [.int .i64 op] (.one (.agg [.str, .bool, (.int .i64), (.int .i64), (.int .i64)])) H k := by
  refine c_code_shapeOf _ ?_
  unfold v_code_shapeOf
  refine Nw_row (vs := [.string ByteArray.empty, .bool false, .int .i64 0, .int .i64 0, .int .i64 0]) fun b1 H1 hb hE _ hr => ?_
  refine Br_dec (fun h => s_reckons h fun H2 w hE2 hw => ?_) fun h => s_acts h fun H2 w hE2 hw => ?_
  all_goals
    have hE' := hE.trans hE2 fun _ _ h => h
    exact shape_put (hE2.row hr fun h => h) fun H' hU _ => hk H' _ (extUpd hE' (by omega) hU) hw
theorem s_isOp {op : Int} {H : Heap} {k : Bool → Heap → Prop} (hk : k (isOpB op) H) : CallT Pg f_code_isOp [.int .i64 op] (.one (.c .bool)) H k := by
  refine c_code_isOp _ ?_
  unfold v_code_isOp
  refine Jn.mk (fun j H' => H = H' ∧ j = isOpB op) (fun kk hkk => ?_) (by rintro j _ ⟨rfl, rfl⟩; exact hk)
  refine Br_dec (fun h => hkk _ _ ⟨rfl, ?_⟩) fun h => hkk _ _ ⟨rfl, ?_⟩
  · exact decide_eq_decide.2 (by omega)
  · exact (decide_eq_false (by omega)).symm
theorem s_rIsOp {op : Int} {H : Heap} {k : Bool → Heap → Prop} (hk : k (isOpB op) H) : CallT Pg f_hindcastref13_IsOp [.int .i64 op] (.one (.c .bool)) H k := by
  refine c_hindcastref13_IsOp _ ?_
  unfold v_hindcastref13_IsOp
  refine Jn.mk (fun j H' => H = H' ∧ j = isOpB op) (fun kk hkk => ?_) (by rintro j _ ⟨rfl, rfl⟩; exact hk)
  refine Br_dec (fun h => hkk _ _ ⟨rfl, ?_⟩) fun h => hkk _ _ ⟨rfl, ?_⟩
  · exact decide_eq_decide.2 (by omega)
  · exact (decide_eq_false (by omega)).symm
end Go.Proofs.YtfpmgpblhhcpgaaGreat
/-
  What an instruction takes and puts: of a program's routines.
-/
namespace Go.Proofs.YtfpmgpblhhcpgaaGreat
set_option linter.unusedVariables false
set_option linter.unusedSimpArgs false
open Go.Proofs.YtfpmgpblhhcpgaaGreat.Hc Go.Proofs.YtfpmgpblhhcpgaaGreat.Hc.Vf
set_option maxRecDepth 100000

/-- A routine as it lies in memory, and its code. -/
structure Rou where
  name : ByteArray
  params : Int
  locals : Int
  sl : Sl
  code : List Ins
instance : Inhabited Sl := ⟨⟨none, 0, 0⟩⟩
instance : Inhabited Rou := ⟨⟨ByteArray.empty, 0, 0, ⟨none, 0, 0⟩, []⟩⟩
abbrev rouV (r : Rou) : List Value := [.string r.name, .int .i64 r.params, .int .i64 r.locals, slV r.sl]
abbrev insV (i : Ins) : List Value := [.int .i64 i.1, .int .i64 i.2]
theorem rouV_len (r : Rou) : (rouV r).length = 4 := rfl
theorem insV_len (i : Ins) : (insV i).length = 2 := rfl
abbrev parms (fs : List Rou) : List Int := fs.map (·.params)
theorem Br_not {x : Bool} {X Y : Prop} (h : Br x Y X) : Br (!x) X Y := by cases x <;> exact h
theorem parms_get {fs : List Rou} {j : Nat} (h : j < fs.length) : (parms fs)[j]! = (fs[j]!).params := by
  rw [getElem!_pos (parms fs) j (by simpa using h), getElem!_pos fs j h]; simp
theorem s_Effect {H : Heap} {i : Ins} {funcs : Sl} {fs : List Rou} (hf : RN rouV 4 H funcs fs) {k : Int × Int → Heap → Prop} (hk : ∀ H', Ext H H' → k (takes (parms fs) i, puts i) H') :
    CallT Pg f_code_Effect [.agg #[.int .i64 i.1, .int .i64 i.2], .slice funcs.a funcs.len funcs.cap] (.tup [(.c (.int .i64)), (.c (.int .i64))]) H k := by
  refine c_code_Effect _ _ ?_
  unfold v_code_Effect
  refine Nw_row (vs := insV i) fun b1 H1 hb1 hE1 hz1 hr1 => ?_
  simp only [adr_add]
  refine Ld_int ((hr1.cell 0).trans rfl) (s_isOp (Br_not (Br.mk (fun hop => ?_) fun hop => ?_)))
  · refine Ld_int ((hr1.cell 0).trans rfl) (s_shapeOf fun H3 w hE3 _ => ?_)
    have hE3' := hE1.trans hE3 fun _ _ h => h
    refine Nw_row (vs := [.string ByteArray.empty, .bool false, .int .i64 0, .int .i64 0, .int .i64 0]) fun b2 H4 hb2 hE4 hz4 hr4 => ?_
    refine St_row hr4 (by simp) fun H5 hU5 _ hr5 => St_row hr5 (by simp) fun H6 hU6 _ hr6 => St_row hr6 (by simp) fun H7 hU7 _ hr7 => St_row hr7 (by simp) fun H8 hU8 _ hr8 => St_row hr8 (by simp) fun H9 hU9 _ hr9 => ?_
    have z3 := hE3'.size
    have hU : Upd (· = b2) H4 H9 := (((hU5.trans hU6 fun _ _ h => h).trans hU7 fun _ _ h => h).trans hU8 fun _ _ h => h).trans hU9 fun _ _ h => h
    have hE9 : Ext H H9 := extUpd (hE3'.trans hE4 fun _ _ h => h) (by omega) hU
    have hshp : shp i.1 = (numB i.1, (tbl[i.1.toNat]!).1, (tbl[i.1.toNat]!).2.1, (((tbl[i.1.toNat]!).2.2 : Nat) : Int)) := by unfold shp; rw [if_pos hop]
    rw [hshp] at hr9
    dsimp only at hr9
    have hI : Row H9 b1 T_api_Instr (insV i) := hU.row (hE4.row (hE3.row hr1 fun h => h) fun h => h) (by have := hr1.lt; have := hE3.size; omega)
    have hfx := (hf.ext hE9)
    have hx1 : hcell H9 ⟨b1, 1, none⟩ = some (.int .i64 i.2) := (hI.cell 1).trans rfl
    have hy4 : hcell H9 ⟨b2, 4, none⟩ = some (.int .i64 ((tbl[i.1.toNat]!).2.2 : Nat)) := (hr9.cell 4).trans rfl
    have htk : takes (parms fs) i = (if (tbl[i.1.toNat]!).2.2 = 1 then (if 0 ≤ i.2 ∧ i.2 < (parms fs).length then max ((parms fs)[i.2.toNat]!) 0 else 0)
     else if (tbl[i.1.toNat]!).2.2 = 2 then (if 0 ≤ i.2 then i.2 % 8 else 0)
     else (tbl[i.1.toNat]!).1) := by unfold takes; rw [if_pos hop]
    have hpt : puts i = (tbl[i.1.toNat]!).2.1 := by unfold puts; rw [if_pos hop]
    have hby : ∀ r ∈ tbl, r.2.2 = 1 ∨ r.2.2 = 2 → r.1 = 0 := by decide
    have hby0 := hby _ (tbl_get hop)
    generalize tbl[i.1.toNat]! = row at *
    rw [List.length_map] at htk
    refine Jn.mk (fun _ H' => Upd (· = b2) H9 H' ∧ hcell H' ⟨b2, 2, none⟩ = some (.int .i64 (takes (parms fs) i)) ∧ hcell H' ⟨b2, 3, none⟩ = some (.int .i64 (puts i))) (fun kk hkk => ?_) ?_
    · have hsame : takes (parms fs) i = row.1 → kk () H9 := fun e => hkk _ _ ⟨.refl _ _, by rw [e]; exact (hr9.cell 2).trans rfl, by rw [hpt]; exact (hr9.cell 3).trans rfl⟩
      have hput : ∀ x, takes (parms fs) i = x → St ⟨b2, 2, none⟩ (.int .i64 x) H9 fun H13 => kk () H13 := fun x e => St_row hr9 (by simp) fun H13 hU13 _ hr13 => hkk _ _ ⟨hU13, by rw [e]; exact (hr13.cell 2).trans rfl, by rw [hpt]; exact (hr13.cell 3).trans rfl⟩
      refine Jn.mk (fun j H' => H9 = H' ∧ j = decide (row.2.2 = 1 ∧ 0 ≤ i.2 ∧ i.2 < funcs.len)) (fun kk2 hkk2 => ?_) ?_
      · refine Ld_int hy4 (Br.mk (fun h => ?_) fun h => hkk2 _ _ ⟨rfl, ?_⟩)
        · have h := beqI h
          refine Ld_int hx1 (Br_dec (fun h2 => Ld_int hx1 (hkk2 _ _ ⟨rfl, ?_⟩)) fun h2 => hkk2 _ _ ⟨rfl, (decide_eq_false (by omega)).symm⟩)
          exact decide_eq_decide.2 (by omega)
        · have h := bneI h
          exact (decide_eq_false (by omega)).symm
      rintro j _ ⟨rfl, rfl⟩
      refine Jn_in (Br_dec (fun h => ?_) fun h => ?_)
      · obtain ⟨h1, h2, h3⟩ := h
        rw [hf.len] at h3
        have hj : i.2.toNat < fs.length := by omega
        refine Ld_int hx1 (IxA_rn' rouV_len hfx (by omega) (j := i.2.toNat) (by omega) hj fun a ha => Ld_int (n := (fs[i.2.toNat]!).params) ha.2.1 (hput _ ?_))
        rw [htk, if_pos h1, if_pos ⟨h2, by omega⟩, parms_get hj]
        split <;> omega
      · refine Jn.mk (fun j H' => H9 = H' ∧ j = decide (row.2.2 = 2 ∧ 0 ≤ i.2)) (fun kk4 hkk4 => ?_) ?_
        · refine Ld_int hy4 (Br.mk (fun h => ?_) fun h => hkk4 _ _ ⟨rfl, ?_⟩)
          · have h := beqI h
            exact Ld_int hx1 (hkk4 _ _ ⟨rfl, decide_eq_decide.2 (by omega)⟩)
          · have h := bneI h
            exact (decide_eq_false (by omega)).symm
        rintro j _ ⟨rfl, rfl⟩
        refine Jn_in (Br_dec (fun h5 => ?_) fun h5 => hsame ?_)
        · refine Ld_int hx1 ⟨by decide, ?_⟩
          rw [Int.tmod_eq_emod_of_nonneg h5.2]
          refine hput _ ?_
          rw [htk, if_neg (by omega), if_pos h5.1, if_pos h5.2]
        · rw [htk]
          rw [hf.len] at h
          by_cases e1 : row.2.2 = 1
          · rw [if_pos e1, if_neg (by omega), hby0 (.inl e1)]
          · rw [if_neg e1]
            by_cases e2 : row.2.2 = 2
            · rw [if_pos e2, if_neg (by omega), hby0 (.inr e2)]
            · rw [if_neg e2]
    · rintro _ H10 ⟨hU10, h2, h3⟩
      exact Ld_int h2 (Ld_int h3 (hk _ (extUpd hE9 (by omega) hU10)))
  · have h1 : takes (parms fs) i = 0 := by unfold takes; rw [if_neg (by rw [hop]; simp)]
    have h2 : puts i = 0 := by unfold puts; rw [if_neg (by rw [hop]; simp)]
    have := hk H1 hE1
    rwa [h1, h2] at this
def refL : List (ByteArray × Bool × Int × Int) :=
  [(⟨⟨[]⟩⟩, false, 0, 0), (⟨⟨[112, 117, 115, 104]⟩⟩, true, 0, 1), (⟨⟨[108, 111, 97, 100]⟩⟩, true, 0, 1), (⟨⟨[115, 116, 111, 114, 101]⟩⟩, true, 1, 0), (⟨⟨[102, 105, 101, 108, 100]⟩⟩, true, 0, 1), (⟨⟨[112, 117, 116]⟩⟩, true, 1, 0), (⟨⟨[97, 100, 100]⟩⟩, false, 2, 1), (⟨⟨[115, 117, 98]⟩⟩, false, 2, 1), (⟨⟨[109, 117, 108]⟩⟩, false, 2, 1), (⟨⟨[100, 105, 118]⟩⟩, false, 2, 1), (⟨⟨[114, 101, 109]⟩⟩, false, 2, 1), (⟨⟨[110, 101, 103]⟩⟩, false, 1, 1), (⟨⟨[101, 113]⟩⟩, false, 2, 1), (⟨⟨[110, 101]⟩⟩, false, 2, 1), (⟨⟨[108, 116]⟩⟩, false, 2, 1), (⟨⟨[108, 101]⟩⟩, false, 2, 1), (⟨⟨[103, 116]⟩⟩, false, 2, 1), (⟨⟨[103, 101]⟩⟩, false, 2, 1), (⟨⟨[110, 111, 116]⟩⟩, false, 1, 1), (⟨⟨[106, 117, 109, 112]⟩⟩, true, 0, 0), (⟨⟨[122, 101, 114, 111]⟩⟩, true, 1, 0), (⟨⟨[99, 97, 108, 108]⟩⟩, true, (-1), 1), (⟨⟨[114, 101, 116]⟩⟩, false, 1, 0), (⟨⟨[115, 116, 111, 112]⟩⟩, false, 0, 0), (⟨⟨[115, 116, 101, 112]⟩⟩, false, 0, 0), (⟨⟨[101, 109, 105, 116]⟩⟩, false, 2, 0), (⟨⟨[112, 97, 114, 116]⟩⟩, true, (-2), 0), (⟨⟨[115, 112, 97, 119, 110]⟩⟩, false, 0, 0), (⟨⟨[103, 105, 118, 101]⟩⟩, true, (-2), 0), (⟨⟨[116, 97, 107, 101]⟩⟩, true, 0, 0), (⟨⟨[100, 105, 101]⟩⟩, false, 0, 0), (⟨⟨[114, 97, 110, 100]⟩⟩, false, 1, 1), (⟨⟨[116, 105, 99, 107]⟩⟩, false, 0, 1), (⟨⟨[109, 101]⟩⟩, false, 0, 1), (⟨⟨[105, 110, 112, 117, 116]⟩⟩, false, 2, 1), (⟨⟨[104, 97, 115]⟩⟩, true, 0, 1), (⟨⟨[109, 105, 110]⟩⟩, false, 2, 1), (⟨⟨[109, 97, 120]⟩⟩, false, 2, 1), (⟨⟨[97, 98, 115]⟩⟩, false, 1, 1), (⟨⟨[100, 114, 111, 112]⟩⟩, false, 1, 0)]
abbrev refV (r : ByteArray × Bool × Int × Int) : List Value := [.string r.1, .bool r.2.1, .int .i64 r.2.2.1, .int .i64 r.2.2.2]
theorem refV_len (r : ByteArray × Bool × Int × Int) : (refV r).length = 4 := rfl
theorem ref_ok : ∀ n : Nat, n < 40 → (refL[n]!).2.2 = (if (tbl[n]!).2.2 = 1 then -1 else if (tbl[n]!).2.2 = 2 then -2 else (tbl[n]!).1, (tbl[n]!).2.1) := by decide
theorem ref_num : ∀ n : Nat, n < 40 → (refL[n]!).2.1 = numB n := by decide
theorem s_table {H : Heap} {k : Sl → Heap → Prop} (hk : ∀ r H', Ext H H' → RN refV 4 H' r refL → k r H') : CallT Pg f_hindcastref13_table [] (.one (.c .sl)) H k := by
  refine c_hindcastref13_table ?_
  unfold v_hindcastref13_table
  refine Nw_row (vs := refL.flatMap refV) fun b H1 hb hE _ hr => hk _ _ hE ⟨?_, rfl, Nat.le_refl _⟩
  exact hr.rd_all
theorem s_rEffect {H : Heap} {i : Ins} {funcs : Sl} {fs : List Rou} (hf : RN rouV 4 H funcs fs) {k : Int × Int → Heap → Prop} (hk : ∀ H', Ext H H' → k (takes (parms fs) i, puts i) H') :
    CallT Pg f_hindcastref13_Effect [.agg #[.int .i64 i.1, .int .i64 i.2], .slice funcs.a funcs.len funcs.cap] (.tup [(.c (.int .i64)), (.c (.int .i64))]) H k := by
  refine c_hindcastref13_Effect _ _ ?_
  unfold v_hindcastref13_Effect
  refine Nw_row (vs := insV i) fun b1 H1 hb1 hE1 hz1 hr1 => ?_
  simp only [adr_add]
  refine Ld_int ((hr1.cell 0).trans rfl) (s_rIsOp (Br_not (Br.mk (fun hop => ?_) fun hop => ?_)))
  · refine Ld_int ((hr1.cell 0).trans rfl) ?_
    have hop2 : 1 ≤ i.1 ∧ i.1 ≤ 39 := of_decide_eq_true hop
    have hn : i.1.toNat < 40 := by omega
    have hro := ref_ok _ hn
    have htk : takes (parms fs) i = (if (tbl[i.1.toNat]!).2.2 = 1 then (if 0 ≤ i.2 ∧ i.2 < (parms fs).length then max ((parms fs)[i.2.toNat]!) 0 else 0)
     else if (tbl[i.1.toNat]!).2.2 = 2 then (if 0 ≤ i.2 then i.2 % 8 else 0)
     else (tbl[i.1.toNat]!).1) := by unfold takes; rw [if_pos hop]
    have hpt : puts i = (tbl[i.1.toNat]!).2.1 := by unfold puts; rw [if_pos hop]
    have hbd := tbl_bd _ (tbl_get hop)
    generalize tbl[i.1.toNat]! = row at *
    rw [List.length_map] at htk
    generalize hrr : refL[i.1.toNat]! = rr at *
    obtain ⟨w, na, t', p'⟩ := rr
    dsimp only at hro
    simp only [Prod.mk.injEq] at hro
    obtain ⟨ht', hp'⟩ := hro
    -- behind the table
    have tail : ∀ (H8 : Heap) (b2 : Nat), Ext H H8 → Row H8 b1 T_api_Instr (insV i) → Row H8 b2 T_hindcastref13_row [.string w, .bool na, .int .i64 t', .int .i64 p'] →
        Ld (.int .i64) ⟨b2, 2, none⟩ H8 fun (x3 : Int) =>
        Br (x3 == (-1)) (
          Jn (σ := Bool) (fun kk1 =>
            Ld (.int .i64) ⟨b1, 1, none⟩ H8 fun (x4 : Int) =>
            Br (decide (x4 < 0)) (
              kk1 true H8) (
              Ld (.int .i64) ⟨b1, 1, none⟩ H8 fun (x5 : Int) =>
              Br (decide (x5 ≥ (funcs.len : Int))) (
                kk1 true H8) (
                Ld (.int .i64) ⟨b1, 1, none⟩ H8 fun (x6 : Int) =>
                IxA 4 funcs x6 fun a2 =>
                Ld (.int .i64) (a2.add 1) H8 fun (x7 : Int) =>
                kk1 (decide (x7 < 0)) H8))) fun j1 H9 =>
          Br j1 (
            Ld (.int .i64) ⟨b2, 3, none⟩ H9 fun (x8 : Int) =>
            k (0, x8) H9) (
            Ld (.int .i64) ⟨b1, 1, none⟩ H9 fun (x9 : Int) =>
            IxA 4 funcs x9 fun a3 =>
            Ld (.int .i64) (a3.add 1) H9 fun (x10 : Int) =>
            Ld (.int .i64) ⟨b2, 3, none⟩ H9 fun (x11 : Int) =>
            k (x10, x11) H9)) (
          Ld (.int .i64) ⟨b2, 2, none⟩ H8 fun (x12 : Int) =>
          Br (x12 == (-2)) (
            Ld (.int .i64) ⟨b1, 1, none⟩ H8 fun (x13 : Int) =>
            Br (decide (x13 < 0)) (
              Ld (.int .i64) ⟨b2, 3, none⟩ H8 fun (x14 : Int) =>
              k (0, x14) H8) (
              Ld (.int .i64) ⟨b1, 1, none⟩ H8 fun (x15 : Int) =>
              Rem x15 8 fun t1 =>
              Ld (.int .i64) ⟨b2, 3, none⟩ H8 fun (x16 : Int) =>
              k (t1, x16) H8)) (
            Ld (.int .i64) ⟨b2, 2, none⟩ H8 fun (x17 : Int) =>
            Ld (.int .i64) ⟨b2, 3, none⟩ H8 fun (x18 : Int) =>
            k (x17, x18) H8)) := by
      intro H8 b2 hE8 hI hr8
      have hfx := hf.ext hE8
      have hx1 : hcell H8 ⟨b1, 1, none⟩ = some (.int .i64 i.2) := (hI.cell 1).trans rfl
      have hy2 : hcell H8 ⟨b2, 2, none⟩ = some (.int .i64 t') := (hr8.cell 2).trans rfl
      have hy3 : hcell H8 ⟨b2, 3, none⟩ = some (.int .i64 p') := (hr8.cell 3).trans rfl
      have hk8 := hk H8 hE8
      rw [hpt, ← hp'] at hk8
      refine Ld_int hy2 (Br.mk (fun h => ?_) fun h => ?_)
      · have h := beqI h
        have e1 : row.2.2 = 1 := by
          by_cases e : row.2.2 = 1
          · exact e
          · rw [if_neg e] at ht'
            split at ht' <;> omega
        rw [htk, if_pos e1] at hk8
        refine Jn.mk (fun j H' => H8 = H' ∧ j = decide (¬ (0 ≤ i.2 ∧ i.2 < fs.length ∧ 0 ≤ (fs[i.2.toNat]!).params))) (fun kk hkk => ?_) ?_
        · have hfl := hf.len
          refine Ld_int hx1 (Br_dec (fun h1 => hkk _ _ ⟨rfl, (decide_eq_true (by omega)).symm⟩) fun h1 => Ld_int hx1 (Br_dec (fun h2 => hkk _ _ ⟨rfl, (decide_eq_true (by omega)).symm⟩) fun h2 => ?_))
          refine Ld_int hx1 (IxA_rn' rouV_len hfx (by omega) (j := i.2.toNat) (by omega) (by omega) fun a ha => Ld_int (n := (fs[i.2.toNat]!).params) ha.2.1 (hkk _ _ ⟨rfl, ?_⟩))
          exact decide_eq_decide.2 (by omega)
        rintro j _ ⟨rfl, rfl⟩
        refine Br_dec (fun h1 => Ld_int hy3 ?_) fun h1 => ?_
        · have : (if 0 ≤ i.2 ∧ i.2 < (fs.length : Int) then max (parms fs)[i.2.toNat]! 0 else 0) = 0 := by
            split
            · rename_i h2
              rw [parms_get (by omega)]
              omega
            · rfl
          rw [this] at hk8; exact hk8
        · have h1 : 0 ≤ i.2 ∧ i.2 < (fs.length : Int) ∧ 0 ≤ (fs[i.2.toNat]!).params := Classical.byContradiction h1
          refine Ld_int hx1 (IxA_rn' rouV_len hfx (by omega) (j := i.2.toNat) (by omega) (by omega) fun a ha => Ld_int (n := (fs[i.2.toNat]!).params) ha.2.1 (Ld_int hy3 ?_))
          rw [if_pos ⟨h1.1, h1.2.1⟩, parms_get (by omega), Int.max_eq_left h1.2.2] at hk8
          exact hk8
      · have h := bneI h
        have e1 : row.2.2 ≠ 1 := fun e => by rw [if_pos e] at ht'; exact h ht'
        rw [if_neg e1] at ht'
        rw [htk, if_neg e1] at hk8
        refine Ld_int hy2 (Br.mk (fun h3 => ?_) fun h3 => ?_)
        · have h3 := beqI h3
          have e2 : row.2.2 = 2 := by
            by_cases e : row.2.2 = 2
            · exact e
            · rw [if_neg e] at ht'; omega
          rw [if_pos e2] at hk8
          refine Ld_int hx1 (Br_dec (fun h4 => Ld_int hy3 ?_) fun h4 => Ld_int hx1 ⟨by decide, Ld_int hy3 ?_⟩)
          · rw [if_neg (by omega)] at hk8; exact hk8
          · rw [if_pos (by omega)] at hk8
            rw [Int.tmod_eq_emod_of_nonneg (by omega)]; exact hk8
        · have h3 := bneI h3
          have e2 : row.2.2 ≠ 2 := fun e => by rw [if_pos e] at ht'; exact h3 ht'
          rw [if_neg e2] at ht' hk8
          refine Ld_int hy2 (Ld_int hy3 ?_)
          rw [ht']; exact hk8
    refine ⟨s_table fun r2 H3 hE3 hT => ?_, Nw_row (vs := [.string ByteArray.empty, .bool false, .int .i64 0, .int .i64 0]) fun b3 H10 hb3 hE10 hz10 hr10 => ?_, trivial⟩
    · have hI3 := hE3.row hr1 fun h => h
      have hE3' := hE1.trans hE3 fun _ _ h => h
      refine Stab_1 ((hI3.cell 0).trans rfl) (IxA_rn' refV_len hT (by omega) (j := i.1.toNat) (by omega) hn fun a ha => ?_)
      rw [hrr] at ha
      refine ⟨(w, na, t', p'), ha, Nw_row (vs := [.string ByteArray.empty, .bool false, .int .i64 0, .int .i64 0]) fun b2 H4 hb2 hE4 hz4 hr4 => ?_⟩
      have hI4 := hE4.row hI3 fun h => h
      have ha4 : hcells H4 a 0 (refV (w, na, t', p')) := hcells_upd hE4 (fun h => h) ha
      refine Stab_all (fun x hx => ?_) ?_
      · simp only [List.mem_cons, List.not_mem_nil, or_false] at hx
        rcases hx with rfl | rfl | rfl | rfl | rfl
        · exact ha4.1
        · exact ha4.2.1
        · exact ha4.2.2.1
        · exact ha4.2.2.2.1
        · exact (hI4.cell 0).trans rfl
      refine St_row hr4 (by simp) fun H5 hU5 _ hr5 => St_row hr5 (by simp) fun H6 hU6 _ hr6 => St_row hr6 (by simp) fun H7 hU7 _ hr7 => St_row hr7 (by simp) fun H8 hU8 _ hr8 => ?_
      have hU : Upd (· = b2) H4 H8 := ((hU5.trans hU6 fun _ _ h => h).trans hU7 fun _ _ h => h).trans hU8 fun _ _ h => h
      have z3 := hE3'.size
      exact tail H8 b2 (extUpd (hE3'.trans hE4 fun _ _ h => h) (by omega) hU) (hU.row hI4 (by have := hI3.lt; omega)) hr8
    · have hI10 := hE10.row hr1 fun h => h
      have hE10' := hE1.trans hE10 fun _ _ h => h
      refine Stab_1 ((hI10.cell 0).trans rfl) (s_table fun r3 H11 hE11 hT => ?_)
      have hI11 := hE11.row hI10 fun h => h
      have hr11 := hE11.row hr10 fun h => h
      refine Stab_1 ((hI11.cell 0).trans rfl) (IxA_rn' refV_len hT (by omega) (j := i.1.toNat) (by omega) hn fun a ha => ?_)
      rw [hrr] at ha
      refine ⟨(w, na, t', p'), ha, ?_⟩
      refine St_row hr11 (by simp) fun H5 hU5 _ hr5 => St_row hr5 (by simp) fun H6 hU6 _ hr6 => St_row hr6 (by simp) fun H7 hU7 _ hr7 => St_row hr7 (by simp) fun H8 hU8 _ hr8 => ?_
      have hU : Upd (· = b3) H11 H8 := ((hU5.trans hU6 fun _ _ h => h).trans hU7 fun _ _ h => h).trans hU8 fun _ _ h => h
      have z1 := hE1.size
      exact tail H8 b3 (extUpd (hE10'.trans hE11 fun _ _ h => h) (by omega) hU) (hU.row hI11 (by have := hr1.lt; omega)) hr8
  · have h1 : takes (parms fs) i = 0 := by unfold takes; rw [if_neg (by rw [hop]; simp)]
    have h2 : puts i = 0 := by unfold puts; rw [if_neg (by rw [hop]; simp)]
    have := hk H1 hE1
    rwa [h1, h2] at this
end Go.Proofs.YtfpmgpblhhcpgaaGreat
/-
  The dice: the program's and the document's.
-/
namespace Go.Proofs.YtfpmgpblhhcpgaaGreat
set_option linter.unusedVariables false
set_option linter.unusedSimpArgs false
open Go.Proofs.YtfpmgpblhhcpgaaGreat.Hc Go.Proofs.YtfpmgpblhhcpgaaGreat.Hc.Dice
set_option maxRecDepth 100000

theorem s_dice_Mix (x : Int) {H : Heap} {k : Int → Heap → Prop} (hk : k (mixI x) H) : CallT Pg f_dice_Mix [.int .u64 x] (.one (.c (.int .u64))) H k := by
  apply c_dice_Mix
  exact ⟨by decide, by decide, by decide, hk⟩
theorem s_ref_Mix (x : Int) {H : Heap} {k : Int → Heap → Prop} (hk : k (mixI x) H) : CallT Pg f_hindcastref08_Mix [.int .u64 x] (.one (.c (.int .u64))) H k := by
  apply c_hindcastref08_Mix
  exact ⟨by decide, by decide, by decide, hk⟩

/-- A die of the program's, of the document's. -/
def DieP (H : Heap) (p : Nat) (s : Int) : Prop := H[p]? = some (.cells #[.int .u64 s] T_dice_Dice (0, 0))
def DieR (H : Heap) (p : Nat) (s : Int) : Prop := H[p]? = some (.cells #[.int .u64 s] T_hindcastref08_Dice (0, 0))

theorem s_dice_Next {p : Nat} {s : Int} {H : Heap} {k : Int → Heap → Prop} (hp : DieP H p s)
    (hk : ∀ H', Upd (· = p) H H' → DieP H' p (nextS s) → k (mixI s) H') : CallT Pg f_dice_Dice_Next [.pointer (some (adr p))] (.one (.c (.int .u64))) H k := by
  apply c_dice_Dice_Next
  unfold v_dice_Dice_Next
  have hc : hcell H (adr p) = some (.int .u64 s) := by rw [cell_blk hp]; rfl
  simp only [NilCk_some, Lt_def]
  refine Ld_int hc (Ld_int hc ?_)
  refine St_blk hp (by simp) fun H' hU hs hp' => ?_
  refine s_dice_Mix s (hk H' hU hp')
theorem s_ref_Next {p : Nat} {s : Int} {H : Heap} {k : Int → Heap → Prop} (hp : DieR H p s)
    (hk : ∀ H', Upd (· = p) H H' → DieR H' p (nextS s) → k (mixI s) H') : CallT Pg f_hindcastref08_Dice_Next [.pointer (some (adr p))] (.one (.c (.int .u64))) H k := by
  apply c_hindcastref08_Dice_Next
  unfold v_hindcastref08_Dice_Next
  have hc : hcell H (adr p) = some (.int .u64 s) := by rw [cell_blk hp]; rfl
  simp only [NilCk_some, Lt_def]
  refine Ld_int hc (s_ref_Mix s (Ld_int hc ?_))
  refine St_blk hp (by simp) fun H' hU hs hp' => hk H' hU hp'

theorem s_dice_below {p : Nat} {s n : Int} {H : Heap} {k : Int → Heap → Prop} (hp : DieP H p s) (h0 : 0 ≤ s) (h1 : s < 18446744073709551616) (hn : 1 ≤ n) (hn' : n < 9223372036854775808)
    (hk : ∀ H', Upd (· = p) H H' → DieP H' p (belowS s n) → k (belowR s n) H') : CallT Pg f_dice_Dice_below [.pointer (some (adr p)), .int .u64 n] (.one (.c (.int .u64))) H k := by
  apply c_dice_Dice_below
  unfold v_dice_Dice_below
  refine ⟨by omega, ?_⟩
  simp only [Lt_def]
  have hf := fallJ_spec s (mB n) h0 h1 (mB_pos n hn hn')
  refine LoopT.ghost (fun m _ H' => ∃ j, j + m = fallJ s (mB n) ∧ Upd (· = p) H H' ∧ DieP H' p (itS s j)) (fallJ s (mB n)) ⟨0, by omega, .refl _ _, hp⟩ ?_
  rintro next m _ H1 ⟨j, hj, hU, hp1⟩ hnext
  refine s_dice_Next hp1 fun H2 hU2 hp2 => ?_
  have hU' : Upd (· = p) H H2 := hU.trans hU2 fun _ _ h => h
  refine Br_dec (fun hlt => ?_) fun hge => ?_
  · have : j = fallJ s (mB n) := Falls.unique ⟨hlt, fun i hi => hf.2 i (by omega)⟩ hf
    subst this
    exact ⟨by omega, hk H2 hU' hp2⟩
  · have hne : j ≠ fallJ s (mB n) := fun e => hge (by rw [e]; exact hf.1)
    exact hnext (m - 1) () H2 (by omega) ⟨j + 1, by omega, hU', hp2⟩

theorem s_dice_Below {p : Nat} {s n : Int} {H : Heap} {k : Int → Heap → Prop} (hp : DieP H p s) (h0 : 0 ≤ s) (h1 : s < 18446744073709551616) (hn : I64 n)
    (hk : ∀ H', Upd (· = p) H H' → DieP H' p (BelowF s n).2 → k (BelowF s n).1 H') : CallT Pg f_dice_Dice_Below [.pointer (some (adr p)), .int .i64 n] (.one (.c (.int .i64))) H k := by
  apply c_dice_Dice_Below
  unfold v_dice_Dice_Below
  unfold BelowF at hk
  refine Br_dec (fun hlt => ?_) fun hge => ?_
  · simp only [hlt, if_true] at hk
    exact s_dice_Next hp hk
  · simp only [hge, if_false] at hk
    rw [wrap_u64_id (by omega) (by unfold I64 at hn; omega)]
    refine s_dice_below hp h0 h1 (by omega) hn.2 fun H' hU hp' => ?_
    have := belowR_bd s n (by omega)
    rw [wrap_i64_id (by omega) (by unfold I64 at hn; omega)]
    exact hk H' hU hp'

theorem s_ref_Below {p : Nat} {s n : Int} {H : Heap} {k : Int → Heap → Prop} (hp : DieR H p s) (h0 : 0 ≤ s) (h1 : s < 18446744073709551616) (hn : I64 n)
    (hk : ∀ H', Upd (· = p) H H' → DieR H' p (BelowF s n).2 → k (BelowF s n).1 H') : CallT Pg f_hindcastref08_Dice_Below [.pointer (some (adr p)), .int .i64 n] (.one (.c (.int .i64))) H k := by
  apply c_hindcastref08_Dice_Below
  unfold v_hindcastref08_Dice_Below
  unfold BelowF at hk
  refine Br_dec (fun hlt => ?_) fun hge => ?_
  · simp only [hlt, if_true] at hk
    exact s_ref_Next hp hk
  · simp only [hge, if_false] at hk
    unfold I64 at hn
    rw [wrap_u64_id (by omega) (by omega)]
    refine ⟨by omega, ?_⟩
    simp only [Lt_def]
    have hf := fallJ_spec s (mB n) h0 h1 (mB_pos n (by omega) hn.2)
    refine LoopT.ghost (fun m _ H' => ∃ j, j + m = fallJ s (mB n) ∧ Upd (· = p) H H' ∧ DieR H' p (itS s j)) (fallJ s (mB n)) ⟨0, by omega, .refl _ _, hp⟩ ?_
    rintro next m _ H1 ⟨j, hj, hU, hp1⟩ hnext
    refine s_ref_Next hp1 fun H2 hU2 hp2 => ?_
    have hU' : Upd (· = p) H H2 := hU.trans hU2 fun _ _ h => h
    refine Br_dec (fun hlt => ?_) fun hge => ?_
    · have : j = fallJ s (mB n) := Falls.unique ⟨hlt, fun i hi => hf.2 i (by omega)⟩ hf
      subst this
      have := belowR_bd s n (by omega)
      refine ⟨by omega, ?_⟩
      have e : IntKind.wrap .i64 ((mixI (itS s (fallJ s (mB n)))).tmod n) = belowR s n := wrap_i64_id (x := belowR s n) (by omega) (by omega)
      dsimp only
      rw [e]
      exact hk H2 hU' hp2
    · have hne : j ≠ fallJ s (mB n) := fun e => hge (by rw [e]; exact hf.1)
      exact hnext (m - 1) () H2 (by omega) ⟨j + 1, by omega, hU', hp2⟩

theorem s_dice_New (a b c d : Int) {H : Heap} {k : Option Addr → Heap → Prop} (hk : ∀ H', Ext H H' → DieP H' H.size (newS a b c d) → k (some (adr H.size)) H') :
    CallT Pg f_dice_New [.int .i64 a, .int .i64 b, .int .i64 c, .int .i64 d] (.one (.c .ptr)) H k := by
  apply c_dice_New
  unfold v_dice_New
  refine s_dice_Mix _ ?_
  refine LoopT.mk (fun s H' => H' = H ∧ ∃ j : Nat, j ≤ 3 ∧ s.2 = j ∧ s.1 = newIt a b c d j) (fun s _ => (3 - s.2).toNat) ⟨rfl, 0, by omega, rfl, rfl⟩ ?_
  rintro next ⟨st, i⟩ _ ⟨rfl, j, hj, hi, hst⟩ hnext
  dsimp only at hi hst ⊢
  subst hi hst
  refine Br_dec (fun hlt => ?_) fun hge => ?_
  · simp only [Lt_def]
    have e : IntKind.wrap .i64 ((j : Int) + 1) = ((j + 1 : Nat) : Int) := by rw [wrap_i64]; omega
    have : j = 0 ∨ j = 1 ∨ j = 2 := by omega
    rcases this with rfl | rfl | rfl
    · refine ⟨b, by omega, by omega, rfl, ?_⟩
      refine s_dice_Mix _ ?_
      exact hnext _ _ ⟨rfl, 1, by omega, e, rfl⟩ (by dsimp only; omega)
    · refine ⟨c, by omega, by omega, rfl, ?_⟩
      refine s_dice_Mix _ ?_
      exact hnext _ _ ⟨rfl, 2, by omega, e, rfl⟩ (by dsimp only; omega)
    · refine ⟨d, by omega, by omega, rfl, ?_⟩
      refine s_dice_Mix _ ?_
      exact hnext _ _ ⟨rfl, 3, by omega, e, rfl⟩ (by dsimp only; omega)
  · have : j = 3 := by omega
    subst this
    refine Nw_blk fun b' H' hb hE _ hblk => ?_
    subst hb
    exact hk H' hE hblk
theorem s_ref_New (a b c d : Int) {H : Heap} {k : Option Addr → Heap → Prop} (hk : ∀ H', Ext H H' → DieR H' H.size (newS a b c d) → k (some (adr H.size)) H') :
    CallT Pg f_hindcastref08_New [.int .i64 a, .int .i64 b, .int .i64 c, .int .i64 d] (.one (.c .ptr)) H k := by
  apply c_hindcastref08_New
  unfold v_hindcastref08_New
  simp only [Lt_def]
  refine s_ref_Mix _ ?_
  refine s_ref_Mix _ ?_
  refine s_ref_Mix _ ?_
  refine s_ref_Mix _ ?_
  refine Nw_blk fun b' H' hb hE _ hblk => ?_
  subst hb
  exact hk H' hE hblk

end Go.Proofs.YtfpmgpblhhcpgaaGreat
/-
  Vectors that are consumed from the front.
-/
namespace Go.Proofs.YtfpmgpblhhcpgaaGreat.Hc
set_option linter.unusedVariables false
set_option linter.unusedSimpArgs false

structure VecO (H : Heap) (T : TypeId) (n : Nat) (s : Sl) (vs : List Value) : Prop where
  len : vs.length = s.len * n
  own : (s.a = none ∧ s.cap = 0 ∧ vs = []) ∨ ∃ (b : Nat) (pre sp : List Value), s.a = some ⟨b, pre.length, none⟩ ∧ Row H b T (pre ++ vs ++ sp) ∧ s.cap * n ≤ vs.length + sp.length
  lc : s.len ≤ s.cap
theorem VecO.upd {M : Nat → Prop} {H H' : Heap} (hu : Upd M H H') {T : TypeId} {n : Nat} {s : Sl} {vs : List Value} (h : VecO H T n s vs) (hn : ∀ a, s.a = some a → ¬ M a.block) : VecO H' T n s vs := by
  refine ⟨h.len, ?_, h.lc⟩
  rcases h.own with h1 | ⟨b, pre, sp, h1, h2, h3⟩
  · exact .inl h1
  · exact .inr ⟨b, pre, sp, h1, hu.row h2 (hn _ h1), h3⟩
theorem VecO.ext {H H' : Heap} (hu : Ext H H') {T : TypeId} {n : Nat} {s : Sl} {vs : List Value} (h : VecO H T n s vs) : VecO H' T n s vs := h.upd hu fun _ _ h => h
theorem VecO.ne {H : Heap} {T T' : TypeId} {n : Nat} {s : Sl} {vs ws : List Value} (h : VecO H T n s vs) {a : Addr} (ha : s.a = some a) {b : Nat} (h' : Row H b T' ws) (ht : T ≠ T') : a.block ≠ b := by
  rcases h.own with ⟨g1, _⟩ | ⟨c, pre, sp, g1, g2, _⟩
  · rw [g1] at ha; cases ha
  · rw [g1] at ha; cases ha; exact g2.ne h' ht
theorem VecO.cell {H : Heap} {T : TypeId} {n : Nat} {s : Sl} {vs : List Value} (h : VecO H T n s vs) {j : Nat} (hj : j < vs.length) : ∃ a, s.a = some a ∧ hcell H (a.add j) = vs[j]? := by
  rcases h.own with ⟨_, _, g⟩ | ⟨b, pre, sp, g1, g2, _⟩
  · subst g; simp at hj
  · refine ⟨_, g1, ?_⟩
    rw [mk_add, g2.cell, List.append_assoc, List.getElem?_append_right (by omega), show pre.length + j - pre.length = j by omega, List.getElem?_append_left hj]
/-- The first is taken off. -/
theorem SlA_pop {H : Heap} {T : TypeId} {n : Nat} {s : Sl} {v ws : List Value} {k : Sl → Prop} (h : VecO H T n s (v ++ ws)) (hv : v.length = n) (hn : 0 < n) (hk : ∀ s', VecO H T n s' ws → (∀ a, s'.a = some a → ∃ a0, s.a = some a0 ∧ a0.block = a.block) → s'.len + 1 = s.len → k s') :
    SlA n s 1 (s.len : Nat) (s.cap : Nat) k := by
  have hl := h.len
  have hlc := h.lc
  have hpos : 0 < s.len := by
    rcases Nat.eq_zero_or_pos s.len with e | e
    · rw [e, List.length_append, hv] at hl; simp at hl; omega
    · exact e
  refine ⟨by omega, by omega, by omega, by omega, ?_⟩
  rw [show (Int.toNat 1) = 1 from rfl, Int.toNat_natCast, Int.toNat_natCast]
  obtain ⟨m, hm⟩ : ∃ m, s.len = m + 1 := ⟨s.len - 1, by omega⟩
  have hws : ws.length = m * n := by
    rw [List.length_append, hv, hm, Nat.add_mul] at hl; omega
  refine hk _ ⟨?_, ?_, ?_⟩ (fun a ha => ?_) (by dsimp only; omega)
  · dsimp only; rw [hm, show m + 1 - 1 = m by omega]; exact hws
  · rcases h.own with ⟨_, _, g⟩ | ⟨b, pre, sp, g1, g2, g3⟩
    · have := congrArg List.length g
      rw [List.length_append, hv] at this; simp at this; omega
    · right
      by_cases e : s.cap = 1
      · have hm0 : m = 0 := by omega
        have hw0 : ws = [] := List.eq_nil_of_length_eq_zero (by rw [hws, hm0]; simp)
        subst hw0
        refine ⟨b, pre, v ++ sp, ?_, ?_, ?_⟩
        · dsimp only; rw [if_pos e]; exact g1
        · simpa using g2
        · dsimp only; rw [e]; simp
      · refine ⟨b, pre ++ v, sp, ?_, ?_, ?_⟩
        · dsimp only
          rw [if_neg e, g1]
          simp [hv]
        · simpa using g2
        · dsimp only
          have : (s.cap - 1) * n = s.cap * n - n := by rw [Nat.sub_mul, Nat.one_mul]
          rw [this]
          rw [List.length_append, hv] at g3
          omega
  · dsimp only; omega
  · dsimp only at ha
    split at ha
    · exact ⟨a, ha, rfl⟩
    · cases hs : s.a with
      | none => rw [hs] at ha; cases ha
      | some a0 =>
        rw [hs] at ha
        simp only [Option.map_some, Option.some.injEq] at ha
        subst ha
        exact ⟨a0, rfl, (add_block _ _).symm⟩
/-- append of one element. -/
theorem App_vecO {T : TypeId} {n bytes : Nat} {z : Array Value} {s x : Sl} {H : Heap} {k : Sl → Heap → Prop} {vs ws : List Value} (hz : z.size = n) (hn : 0 < n) (hv : VecO H T n s vs) (hx : rdL H x.a ws) (hxl : ws.length = x.len * n)
    (hone : ∀ w ∈ ws, w.oneCell' = true) (hb : bytes ≠ 0) (hcap : (s.len + x.len + (s.len + x.len) / 4 + 1000) * bytes ≤ 2 ^ 48)
    (hk : ∀ s' H', VecO H' T n s' (vs ++ ws) → s'.len = s.len + x.len → Upd (fun b => ∃ a, s.a = some a ∧ a.block = b) H H' → (s'.a = s.a ∨ s'.a = some (adr H.size)) → k s' H') :
    App T n bytes z s x H k := by
  have hlen := hv.len
  have hrd : rdL H s.a vs := by
    unfold rdL
    rcases hv.own with ⟨h1, _, h3⟩ | ⟨b, pre, sp, h1, h2, h3⟩
    · rw [h1]; exact h3
    · rw [h1]
      dsimp only
      refine hcells_iff.2 fun j hj => ?_
      rw [Nat.zero_add, mk_add, h2.cell, List.append_assoc, List.getElem?_append_right (by omega), show pre.length + j - pre.length = j by omega, List.getElem?_append_left hj]
  refine ⟨ws, hx, fun _ => by omega, fun hfit => ?_, fun hgrow => ?_⟩
  · rcases hv.own with ⟨h1, h2, h3⟩ | ⟨b, pre, sp, h1, h2, h3⟩
    · rw [h1]
      have hx0 : x.len = 0 := by omega
      have hw : ws = [] := List.eq_nil_of_length_eq_zero (by rw [hxl, hx0]; simp)
      subst hw h3
      refine hk _ H ⟨by simp only [List.append_nil, List.length_nil]; simp at hlen; rw [hx0]; simp; omega, .inl ⟨rfl, by simpa using h2, rfl⟩, hfit⟩ rfl (.refl _ _) (.inl h1.symm)
    · rw [h1]
      dsimp only
      rw [mk_add]
      have hm : (s.len + x.len) * n ≤ s.cap * n := Nat.mul_le_mul_right n hfit
      rw [Nat.add_mul] at hm
      refine StL_row h2 (by simp; omega) hone fun H' hU hs hr => ?_
      refine hk _ H' ⟨by simp only [List.length_append, Nat.add_mul]; omega, .inr ⟨b, pre, sp.drop ws.length, rfl, ?_, by simp; omega⟩, hfit⟩ rfl (hU.mono fun b' _ e => ⟨_, h1, e.1.symm⟩) (.inl h1.symm)
      rw [Nat.add_zero, ← hlen] at hr
      have e1 : (pre ++ vs ++ sp).take (pre.length + vs.length) = pre ++ vs := by rw [← List.length_append, List.take_left]
      have e2 : (pre ++ vs ++ sp).drop (pre.length + vs.length + ws.length) = sp.drop ws.length := by
        rw [← List.length_append, ← List.drop_drop, List.drop_left]
      rw [e1, e2] at hr
      simpa using hr
  · refine ⟨hb, ?_, vs, hrd, fun _ => by omega, fun c hc => ?_⟩
    · have := nextcap_le (s.len + x.len) s.cap hgrow
      exact Nat.le_trans (Nat.mul_le_mul_right bytes this) hcap
    · refine hk _ _ ⟨?_, .inr ⟨H.size, [], (zcells z ((c - (s.len + x.len)) * z.size)).toList, rfl, ?_, ?_⟩, hc⟩ rfl (Upd.push _ _ _) (.inr rfl)
      · simp only [List.length_append, Nat.add_mul]; omega
      · unfold Row
        rw [get_push_new]
        congr 2
        apply Array.ext'; simp
      · simp only [List.length_append, Array.length_toList, zcells_size, hz]
        rw [hlen, hxl, ← Nat.add_mul, ← Nat.add_mul]
        exact Nat.mul_le_mul_right n (by omega)
/-- Memory for so many elements of n cells. -/
theorem Mks_all {T : TypeId} {bytes n : Nat} {z : Array Value} {v : Value} {m : Nat} {H : Heap} {k : Sl → Heap → Prop} (hz : z = Array.replicate n v) (hn : 0 < n) (h1 : m < 9223372036854775808) (hb : (bytes : Int) * m ≤ 2 ^ 48)
    (hk : ∀ b H', b = H.size → Ext H H' → H'.size = H.size + 1 → Row H' b T (List.replicate (m * n) v) → k ⟨some (adr b), m, m⟩ H') : Mks T n bytes z (m : Nat) (m : Nat) H k := by
  unfold Mks
  rw [wrap_i64_id (by omega) (by omega)]
  refine ⟨by omega, by omega, hb, ?_⟩
  rw [Int.toNat_natCast]
  have e : zcells z (m * n) = ⟨List.replicate (m * n) v⟩ := by
    apply Array.ext'
    unfold zcells
    simp only [Array.toList_map, Array.toList_range]
    apply List.ext_getElem
    · simp
    · intro i g1 g2
      simp only [List.getElem_map, List.getElem_range, List.getElem_replicate]
      subst hz
      have hlt : i % (Array.replicate n v).size < (Array.replicate n v).size := Nat.mod_lt _ (by simpa using hn)
      rw [getElem!_pos (Array.replicate n v) (i % (Array.replicate n v).size) hlt]; simp
  rw [e]
  exact hk _ _ rfl (Upd.push _ _ _) (by simp) (get_push_new _ _)
end Go.Proofs.YtfpmgpblhhcpgaaGreat.Hc
/-
  Blocks that bear colours: whose block it is. What is touched is told by colours; what bears another stays.
-/
namespace Go.Proofs.YtfpmgpblhhcpgaaGreat.Hc
set_option linter.unusedVariables false
set_option linter.unusedSimpArgs false

abbrev Col := Nat → Nat
/-- Only blocks from lo on, of these colours, were turned (and new ones laid). -/
def Tch (c : Col) (lo : Nat) (S : Nat → Prop) (H H' : Heap) : Prop := Upd (fun x => lo ≤ x ∧ S (c x)) H H'
/-- Block b is of colour j. -/
def Is (c : Col) (lo j b : Nat) : Prop := lo ≤ b ∧ c b = j
def RowC (c : Col) (lo j : Nat) (H : Heap) (b : Nat) (T : TypeId) (vs : List Value) : Prop := Row H b T vs ∧ Is c lo j b
def IsS (c : Col) (lo j : Nat) (s : Sl) : Prop := ∀ b, s.a = some (adr b) → Is c lo j b
def VecC (c : Col) (lo j : Nat) (H : Heap) (T : TypeId) (s : Sl) (vs : List Value) : Prop := Vec H T s vs ∧ IsS c lo j s
def VecNC (c : Col) (lo j : Nat) (H : Heap) (T : TypeId) (n : Nat) (s : Sl) (vs : List Value) : Prop := VecN H T n s vs ∧ IsS c lo j s
theorem Tch.refl (c : Col) (lo : Nat) (S : Nat → Prop) (H : Heap) : Tch c lo S H H := Upd.refl _ _
theorem Tch.of {c : Col} {lo : Nat} {S : Nat → Prop} {H H' : Heap} {M : Nat → Prop} (h : Upd M H H') (hM : ∀ b, b < H.size → M b → lo ≤ b ∧ S (c b)) : Tch c lo S H H' := h.mono hM
theorem Tch.ofExt {c : Col} {lo : Nat} {S : Nat → Prop} {H H' : Heap} (h : Ext H H') : Tch c lo S H H' := h.mono fun _ _ h => h.elim
theorem Tch.trans {c : Col} {lo : Nat} {S : Nat → Prop} {H H1 H2 : Heap} (h : Tch c lo S H H1) (h2 : Tch c lo S H1 H2) : Tch c lo S H H2 := Upd.trans h h2 fun _ _ h => h
theorem Tch.mono {c : Col} {lo : Nat} {S S' : Nat → Prop} {H H' : Heap} (h : Tch c lo S H H') (hS : ∀ j, S j → S' j) : Tch c lo S' H H' := Upd.mono h fun _ _ e => ⟨e.1, hS _ e.2⟩
/-- What lay ahead of lo is as it was. -/
theorem Tch.ext {c : Col} {S : Nat → Prop} {H0 H H' : Heap} (h0 : Ext H0 H) (h : Tch c H0.size S H H') : Ext H0 H' := h0.trans h fun b hb e => by have := e.1; omega
theorem RowC.tch {c : Col} {lo j : Nat} {S : Nat → Prop} {H H' : Heap} (h : Tch c lo S H H') (hj : ¬ S j) {b : Nat} {T : TypeId} {vs : List Value} (hr : RowC c lo j H b T vs) : RowC c lo j H' b T vs :=
  ⟨Upd.row h hr.1 fun e => hj (hr.2.2 ▸ e.2), hr.2⟩
theorem VecC.tch {c : Col} {lo j : Nat} {S : Nat → Prop} {H H' : Heap} (h : Tch c lo S H H') (hj : ¬ S j) {T : TypeId} {s : Sl} {vs : List Value} (hr : VecC c lo j H T s vs) : VecC c lo j H' T s vs :=
  ⟨hr.1.upd h fun b hb e => hj ((hr.2 b hb).2 ▸ e.2), hr.2⟩
theorem VecNC.tch {c : Col} {lo j : Nat} {S : Nat → Prop} {H H' : Heap} (h : Tch c lo S H H') (hj : ¬ S j) {T : TypeId} {n : Nat} {s : Sl} {vs : List Value} (hr : VecNC c lo j H T n s vs) : VecNC c lo j H' T n s vs :=
  ⟨hr.1.upd h fun b hb e => hj ((hr.2 b hb).2 ▸ e.2), hr.2⟩
/-- New colours that agree with the old ones where blocks of colour j lie. -/
def Agr (j : Nat) (n : Nat) (c c' : Col) : Prop := ∀ x, x < n → c x = j → c' x = j
theorem RowC.agr {c c' : Col} {lo j : Nat} {H : Heap} (h : Agr j H.size c c') {b : Nat} {T : TypeId} {vs : List Value} (hr : RowC c lo j H b T vs) : RowC c' lo j H b T vs :=
  ⟨hr.1, hr.2.1, h b hr.1.lt hr.2.2⟩
theorem VecC.agr {c c' : Col} {lo j : Nat} {H : Heap} (h : Agr j H.size c c') {T : TypeId} {s : Sl} {vs : List Value} (hr : VecC c lo j H T s vs) : VecC c' lo j H T s vs :=
  ⟨hr.1, fun b hb => ⟨(hr.2 b hb).1, h b (hr.1.lt hb) (hr.2 b hb).2⟩⟩
theorem VecNC.agr {c c' : Col} {lo j : Nat} {H : Heap} (h : Agr j H.size c c') {T : TypeId} {n : Nat} {s : Sl} {vs : List Value} (hr : VecNC c lo j H T n s vs) : VecNC c' lo j H T n s vs :=
  ⟨hr.1, fun b hb => ⟨(hr.2 b hb).1, h b (hr.1.lt hb) (hr.2 b hb).2⟩⟩
/-- The colours that new blocks get. -/
def dye (n : Nat) (c d : Col) : Col := fun x => if x < n then c x else d x
theorem dye_lt {n x : Nat} {c d : Col} (h : x < n) : dye n c d x = c x := if_pos h
theorem dye_ge {n x : Nat} {c d : Col} (h : n ≤ x) : dye n c d x = d x := if_neg (by omega)
theorem agr_dye (j n : Nat) (c d : Col) : Agr j n c (dye n c d) := fun x hx e => by rw [dye_lt hx]; exact e
theorem is_dye {c d : Col} {lo j b n : Nat} (h : Is c lo j b) (hb : b < n) : Is (dye n c d) lo j b := ⟨h.1, by rw [dye_lt hb]; exact h.2⟩
theorem is_new {c d : Col} {lo j b n : Nat} (hl : lo ≤ n) (hb : n ≤ b) (hd : d b = j) : Is (dye n c d) lo j b := ⟨by omega, by rw [dye_ge hb]; exact hd⟩
theorem VecC.nil (c : Col) (lo j : Nat) (H : Heap) (T : TypeId) : VecC c lo j H T ⟨none, 0, 0⟩ [] := ⟨Vec.nil H T, fun b hb => by cases hb⟩
theorem VecNC.nil (c : Col) (lo j : Nat) (H : Heap) (T : TypeId) (n : Nat) : VecNC c lo j H T n ⟨none, 0, 0⟩ [] := ⟨VecN.nil H T n, fun b hb => by cases hb⟩
theorem Tch.dye {c d : Col} {lo : Nat} {S : Nat → Prop} {H H1 H2 : Heap} (h : Tch c lo S H H1) {n : Nat} (hn : n = H.size) (h2 : Tch (Hc.dye n c d) lo S H1 H2) : Tch c lo S H H2 := by
  subst hn
  exact Upd.trans h h2 fun b hb e => ⟨e.1, by have := e.2; rwa [dye_lt hb] at this⟩
theorem Tch.dyed {c d : Col} {lo n : Nat} {S : Nat → Prop} {H H' : Heap} (h : Tch c lo S H H') (hn : n = H.size) : Tch (Hc.dye n c d) lo S H H' := by
  subst hn
  exact Upd.mono h fun b hb e => ⟨e.1, by rw [dye_lt hb]; exact e.2⟩
theorem RowC.mv {c c' : Col} {lo j : Nat} {S : Nat → Prop} {H H' : Heap} (h : Tch c lo S H H') (hj : ¬ S j) (ha : Agr j H.size c c') {b : Nat} {T : TypeId} {vs : List Value} (hr : RowC c lo j H b T vs) : RowC c' lo j H' b T vs :=
  ⟨(hr.tch h hj).1, hr.2.1, ha b hr.1.lt hr.2.2⟩
theorem VecC.mv {c c' : Col} {lo j : Nat} {S : Nat → Prop} {H H' : Heap} (h : Tch c lo S H H') (hj : ¬ S j) (ha : Agr j H.size c c') {T : TypeId} {s : Sl} {vs : List Value} (hr : VecC c lo j H T s vs) : VecC c' lo j H' T s vs :=
  ⟨(hr.tch h hj).1, fun b hb => ⟨(hr.2 b hb).1, ha b (hr.1.lt hb) (hr.2 b hb).2⟩⟩
theorem VecNC.mv {c c' : Col} {lo j : Nat} {S : Nat → Prop} {H H' : Heap} (h : Tch c lo S H H') (hj : ¬ S j) (ha : Agr j H.size c c') {T : TypeId} {n : Nat} {s : Sl} {vs : List Value} (hr : VecNC c lo j H T n s vs) : VecNC c' lo j H' T n s vs :=
  ⟨(hr.tch h hj).1, fun b hb => ⟨(hr.2 b hb).1, ha b (hr.1.lt hb) (hr.2 b hb).2⟩⟩
theorem hcells_ext {H H' : Heap} (hu : Ext H H') {a : Addr} : ∀ {vs : List Value} {i : Nat}, hcells H a i vs → hcells H' a i vs
  | [], _, _ => trivial
  | _ :: _, _, h => ⟨hu.cell h.1 fun h => h, hcells_ext hu h.2⟩
theorem rdL_ext {H H' : Heap} (hu : Ext H H') {a : Option Addr} {vs : List Value} (h : rdL H a vs) : rdL H' a vs := by
  unfold rdL at h ⊢
  cases a with
  | none => exact h
  | some a => exact hcells_ext hu h
theorem flat_set {α : Type} {f : α → List Value} {n : Nat} (hf : ∀ e, (f e).length = n) {e' : α} {o : Nat} {v : Value} : ∀ {es : List α} {i : Nat} (hi : i < es.length), o < n → f e' = (f es[i]).set o v → (es.flatMap f).set (i * n + o) v = (es.set i e').flatMap f
  | e :: es, 0, _, ho, he => by
    simp only [List.flatMap_cons, List.set_cons_zero, Nat.zero_mul, Nat.zero_add]
    rw [List.set_append_left _ _ (by rw [hf]; exact ho)]
    rw [he]; rfl
  | e :: es, i + 1, hi, ho, he => by
    simp only [List.flatMap_cons, List.set_cons_succ]
    have e1 : (i + 1) * n + o = (f e).length + (i * n + o) := by rw [hf, Nat.add_mul]; omega
    rw [e1, List.set_append_right _ _ (by omega), Nat.add_sub_cancel_left, flat_set hf (es := es) (by simpa using hi) ho he]
theorem St_vecN {H : Heap} {T : TypeId} {n : Nat} {s : Sl} {vs : List Value} (h : VecN H T n s vs) {b : Nat} (hb : s.a = some (adr b)) {m : Nat} (hm : m < vs.length) {v : Value} {k : Heap → Prop} (hk : ∀ H', VecN H' T n s (vs.set m v) → Upd (· = b) H H' → H'.size = H.size → k H') : St ⟨b, m, none⟩ v H k := by
  rcases h.own with ⟨g, _⟩ | ⟨c, sp, g1, g2, g3⟩
  · rw [g] at hb; cases hb
  · rw [g1] at hb; cases hb
    refine St_row g2 (by rw [List.length_append]; omega) fun H' hU hz hr => hk H' ⟨by rw [List.length_set]; exact h.len, .inr ⟨b, sp, g1, ?_, by rw [List.length_set]; exact g3⟩, h.lc⟩ hU hz
    rwa [List.set_append_left _ _ hm] at hr
end Go.Proofs.YtfpmgpblhhcpgaaGreat.Hc
/-
  Machine: what lies in memory; stacks.
-/
namespace Go.Proofs.YtfpmgpblhhcpgaaGreat
set_option linter.unusedVariables false
set_option linter.unusedSimpArgs false
open Go.Proofs.YtfpmgpblhhcpgaaGreat.Hc Go.Proofs.YtfpmgpblhhcpgaaGreat.Hc.Vf Go.Proofs.YtfpmgpblhhcpgaaGreat.Hc.Mc Go.Proofs.YtfpmgpblhhcpgaaGreat.Hc.Dice
set_option maxRecDepth 100000
variable {H : Heap}

abbrev fnOf (r : Rou) : Fnc := ⟨r.params, r.locals, r.code⟩
/-- An activation as it lies in memory. -/
structure AP where
  p : Nat
  r : Rou
  ls : Sl
  ss : Sl
  loc : List Int
  stk : List Int
  nx : Int
  v : Int
instance : Inhabited AP := ⟨⟨0, default, default, default, [], [], 0, 0⟩⟩
abbrev AP.act (x : AP) : Actn := ⟨fnOf x.r, x.loc, x.stk, x.nx⟩
abbrev actV (x : AP) : List Value := [.string x.r.name, .int .i64 x.r.params, .int .i64 x.r.locals, slV x.r.sl, slV x.ls, slV x.ss, .int .i64 x.v]
/-- A place in the code, as the memory tells it: the same, or both are nowhere. -/
def NxR (n : Nat) (nx v : Int) : Prop := v = nx ∨ (¬ (0 ≤ nx ∧ nx < (n : Int)) ∧ ¬ (0 ≤ v ∧ v < (n : Int)))
structure ActR (H : Heap) (x : AP) : Prop where
  row : Row H x.p T_machine_activation (actV x)
  loc : Vec H T_int64 x.ls (ints x.loc)
  stk : Vec H T_int64 x.ss (ints x.stk)
  ap : Apart x.ls x.ss
  nxr : NxR x.r.code.length x.nx x.v
/-- Its blocks. -/
def ActB (x : AP) (b : Nat) : Prop := b = x.p ∨ x.ls.a = some (adr b) ∨ x.ss.a = some (adr b)
theorem ActR.upd {M : Nat → Prop} {H H' : Heap} (h : Upd M H H') {x : AP} (hx : ActR H x) (hm : ∀ b, ActB x b → ¬ M b) : ActR H' x :=
  ⟨h.row hx.row (hm _ (.inl rfl)), hx.loc.upd h fun b hb => hm b (.inr (.inl hb)), hx.stk.upd h fun b hb => hm b (.inr (.inr hb)), hx.ap, hx.nxr⟩
theorem ActR.lt {H : Heap} {x : AP} (hx : ActR H x) {b : Nat} (hb : ActB x b) : b < H.size := by
  rcases hb with rfl | hb | hb
  · exact hx.row.lt
  · exact hx.loc.lt hb
  · exact hx.stk.lt hb
theorem ActR.neS {H : Heap} {x : AP} (hx : ActR H x) {b : Nat} (hb : x.ss.a = some (adr b)) : b ≠ x.p := hx.stk.ne hb hx.row (by decide)
theorem ActR.neL {H : Heap} {x : AP} (hx : ActR H x) {b : Nat} (hb : x.ls.a = some (adr b)) : b ≠ x.p := hx.loc.ne hb hx.row (by decide)
theorem tch_row {c : Col} {lo j b : Nat} {S : Nat → Prop} {H H' : Heap} (hu : Upd (· = b) H H') (hi : Is c lo j b) (hS : S j) : Tch c lo S H H' :=
  Tch.of hu fun x _ e => by subst e; exact ⟨hi.1, by rw [hi.2]; exact hS⟩
theorem vec_blk {H : Heap} {T : TypeId} {s : Sl} {vs : List Value} (h : Vec H T s vs) : s.a = none ∨ ∃ b, s.a = some (adr b) := by
  rcases h.own with ⟨h1, _⟩ | ⟨b, _, h1, _⟩
  · exact .inl h1
  · exact .inr ⟨b, h1⟩
/-- The last of a slice, read from an offset on: a copy of it. -/
theorem vec_tail {H : Heap} {T : TypeId} {s : Sl} {vs : List Value} (h : Vec H T s vs) {n : Nat} (hn : n ≤ vs.length) {k : Sl → Prop}
    (hk : ∀ s', rdL H s'.a (vs.drop n) → s'.len = vs.length - n → (s'.a = none ↔ s.a = none) → k s') : SlA 1 s n (s.len : Nat) (s.cap : Nat) k := by
  have hl := h.len
  have hlc := h.lc
  refine ⟨by omega, by omega, by omega, by omega, ?_⟩
  rw [Int.toNat_natCast, Int.toNat_natCast, Int.toNat_natCast, Nat.mul_one]
  refine hk _ ?_ (by dsimp only; omega) ?_
  · rcases h.own with ⟨h1, h2, h3⟩ | ⟨b, sp, h1, h2, h3⟩
    · rw [h1, h3]; simp [rdL]
    · rw [h1]
      dsimp only
      split
      · have : vs.drop n = [] := List.drop_eq_nil_of_le (by omega)
        rw [this]; trivial
      · dsimp only [Option.map]
        unfold rdL
        dsimp only
        have := hcells_drop (m := n) h2.rd
        rw [Nat.zero_add] at this
        exact hcellsShift.1 this
  · dsimp only
    split
    · exact Iff.rfl
    · cases s.a <;> simp
theorem s_clone64 {s : Sl} {xs : List Int} (hr : rdL H s.a (ints xs)) (hl : s.len = xs.length) (hb : xs.length ≤ 2 ^ 40) (hn : s.a = none → s.len = 0) {k : Sl → Heap → Prop}
    (hk : ∀ r H', Ext H H' → Vec H' T_int64 r (ints xs) → (∀ b, r.a = some (adr b) → H.size ≤ b) → k r H') : CallT Pg f_slices_Clone_Sl_int64_int64 [.slice s.a s.len s.cap] (.one (.c .sl)) H k := by
  refine c_slices_Clone_Sl_int64_int64 _ ?_
  unfold v_slices_Clone_Sl_int64_int64
  cases ha : s.a with
  | none =>
    have := hn ha
    have e : xs = [] := List.eq_nil_of_length_eq_zero (by omega)
    subst e
    exact hk ⟨none, 0, 0⟩ H (.refl _ _) (Vec.nil _ _) fun b hb => by cases hb
  | some a =>
    simp only [Option.isNone_some, Br_false]
    refine Nw_row (vs := []) fun b1 H1 hb1 hE1 hz1 hr1 => ?_
    have hv : Vec H1 T_int64 ⟨some (adr b1), 0, 0⟩ [] := ⟨rfl, .inr ⟨b1, [], rfl, hr1, Nat.le_refl _⟩, Nat.le_refl _⟩
    refine App_vec2 (ws := ints xs) hv ?_ (by simp [hl]) (fun w hw => by obtain ⟨x, _, rfl⟩ := List.mem_map.1 hw; rfl) (by decide) (by simp; omega) fun s' H2 hv2 hU2 ha2 hz2 => ?_
    · have := rdL_ext hE1 hr
      exact this
    · refine hk _ _ (extUpd (b := b1) hE1 (by omega) (hU2.mono fun b _ e => ?_)) (by simpa using hv2) fun b hb => ?_
      · have := e.1; cases this; rfl
      · rcases ha2 with ⟨e, _⟩ | e
        · rw [e] at hb; cases hb; omega
        · rw [e] at hb; cases hb; have := hE1.size; omega
theorem ints_drop (xs : List Int) (n : Nat) : (ints xs).drop n = ints (xs.drop n) := by simp [ints]
theorem ints_take (xs : List Int) (n : Nat) : (ints xs).take n = ints (xs.take n) := by simp [ints]
theorem ints_one (xs : List Int) : ∀ w ∈ ints xs, w.oneCell' = true := fun w hw => by obtain ⟨x, _, rfl⟩ := List.mem_map.1 hw; rfl
/-- The activation behind a take. -/
abbrev AP.took (x : AP) (n : Nat) : AP := { x with ss := ⟨x.ss.a, x.ss.len - n, x.ss.cap⟩, stk := x.stk.take (x.stk.length - n) }
theorem s_take {x : AP} (hx : ActR H x) {t : Int} {n : Nat} (ht : t = n) (hn : n ≤ x.stk.length) (hb : x.stk.length ≤ 2 ^ 40) {k : Sl → Heap → Prop}
    (hk : ∀ r H', Upd (· = x.p) H H' → ActR H' (x.took n) → Vec H' T_int64 r (ints (x.stk.drop (x.stk.length - n))) → (∀ b, r.a = some (adr b) → H.size ≤ b) → k r H') :
    CallT Pg f_machine_activation_take [.pointer (some (adr x.p)), .int .i64 t] (.one (.c .sl)) H k := by
  subst ht
  refine c_machine_activation_take _ _ ?_
  unfold v_machine_activation_take
  simp only [NilCk_some, adr_add]
  have hl := hx.stk.len
  rw [List.length_map] at hl
  refine Ld_sl ((hx.row.cell 5).trans rfl) (Lt.mk (u := ((x.stk.length - n : Nat) : Int)) (by rw [wrap_i64_id (by omega) (by omega)]; omega) ?_)
  refine Ld_sl ((hx.row.cell 5).trans rfl) (vec_tail hx.stk (n := x.stk.length - n) (by simp) fun s' hs' hsl hsn => ?_)
  rw [ints_drop] at hs'
  refine s_clone64 hs' (by rw [hsl]; simp) (by simp; omega) (fun e => ?_) fun r H1 hE1 hr hf => ?_
  · rw [hsl]
    rcases hx.stk.own with ⟨_, _, h3⟩ | ⟨b, sp, h1, _⟩
    · rw [h3]; simp
    · rw [hsn.1 e] at h1; cases h1
  have hx1 := hx.upd hE1 fun b _ h => h
  refine Ld_sl ((hx1.row.cell 5).trans rfl) (SlA0 (by omega) (by have := hx.stk.lc; omega) (by omega) ?_)
  simp only [Int.toNat_natCast]
  refine St_row hx1.row (by simp) fun H2 hU2 hz2 hr2 => ?_
  refine hk r H2 ((hE1.mono fun _ _ h => h.elim).trans hU2 fun _ _ e => e) ⟨?_, hx1.loc.upd hU2 fun b hb e => hx1.neL hb e, ?_, hx.ap, hx.nxr⟩ (hr.upd hU2 fun b hb e => by have := hf b hb; have := hx.row.lt; omega) hf
  · have e : x.ss.len - n = x.stk.length - n := by rw [hl]
    have : actV (x.took n) = (actV x).set 5 (.slice x.ss.a (x.stk.length - n) x.ss.cap) := by rw [← e]; rfl
    rw [this]; exact hr2
  · have hv := hx1.stk.upd hU2 fun b hb e => hx1.neS hb e
    refine ⟨by simp; omega, ?_, by have := hx.stk.lc; dsimp only; omega⟩
    rcases hv.own with ⟨h1, h2, h3⟩ | ⟨b, sp, h1, h2, h3⟩
    · refine .inl ⟨h1, h2, ?_⟩
      have : x.stk = [] := List.map_eq_nil_iff.1 h3
      show ints (x.stk.take _) = []
      rw [this]; simp
    · refine .inr ⟨b, (ints x.stk).drop (x.stk.length - n) ++ sp, h1, ?_, ?_⟩
      · rw [← ints_take, ← List.append_assoc, List.take_append_drop]; exact h2
      · simp only [List.length_append, List.length_drop, List.length_map, List.length_take] at h3 ⊢
        omega
theorem s_push {x : AP} (hx : ActR H x) {n : Int} (hb : x.stk.length ≤ 2 ^ 40) {k : Unit → Heap → Prop}
    (hk : ∀ s' H', Upd (fun b => b = x.p ∨ x.ss.a = some (adr b)) H H' → ActR H' { x with ss := s', stk := x.stk ++ [n] } → (s'.a = x.ss.a ∨ ∃ b, s'.a = some (adr b) ∧ H.size ≤ b) → k () H') :
    CallT Pg f_machine_activation_push [.pointer (some (adr x.p)), .int .i64 n] (.tup []) H k := by
  refine c_machine_activation_push _ _ ?_
  unfold v_machine_activation_push
  simp only [NilCk_some, adr_add]
  refine Ld_sl ((hx.row.cell 5).trans rfl) ?_
  refine Nw_row (vs := [.int .i64 n]) fun b1 H1 hb1 hE1 hz1 hr1 => ?_
  have hx1 := hx.upd hE1 fun b _ h => h
  refine App_vec2 (ws := ints [n]) hx1.stk hr1.rd_all rfl (ints_one _) (by decide) (by simp; omega) fun s' H2 hv2 hU2 ha2 hz2 => ?_
  have hfr : s'.a = x.ss.a ∨ ∃ b, s'.a = some (adr b) ∧ H.size ≤ b := ha2.imp (fun e => e.1) fun e => ⟨_, e, hE1.size⟩
  have hrow2 := hU2.row hx1.row fun e => hx1.neS e.1 rfl
  refine St_row hrow2 (by simp) fun H3 hU3 hz3 hr3 => ?_
  have hlt := hx.row.lt
  have hne : ∀ b, s'.a = some (adr b) → b ≠ x.p := fun b hb e => by
    rcases hfr with h | ⟨b', h, hlt'⟩
    · rw [h] at hb; exact hx.neS hb e
    · rw [h] at hb; cases hb; omega
  refine hk s' H3 ?_ ⟨hr3, (hx1.loc.upd hU2 fun b hb e => hx.ap b hb e.1).upd hU3 fun b hb e => hx.neL hb e, ?_, fun b hb hb' => ?_, hx.nxr⟩ hfr
  · exact ((hE1.mono fun _ _ h => h.elim).trans (hU2.mono fun b _ e => .inr e.1) fun _ _ e => e).trans hU3 fun _ _ e => .inl e
  · have := hv2.upd hU3 fun b hb e => hne b hb e
    simpa [ints] using this
  · rcases hfr with h | ⟨b', h, hlt'⟩
    · rw [h] at hb'; exact hx.ap b hb hb'
    · rw [h] at hb'; cases hb'; have := hx.loc.lt hb; omega
end Go.Proofs.YtfpmgpblhhcpgaaGreat
/-
  A program's systems and functions as they lie in memory.
-/
namespace Go.Proofs.YtfpmgpblhhcpgaaGreat
set_option linter.unusedVariables false
set_option linter.unusedSimpArgs false
open Go.Proofs.YtfpmgpblhhcpgaaGreat.Hc Go.Proofs.YtfpmgpblhhcpgaaGreat.Hc.Vf
set_option maxRecDepth 100000
variable {H : Heap}
abbrev CodeR (H : Heap) (r : Rou) : Prop := RN insV 2 H r.sl r.code
/-- A system as it lies in memory: its four sets and its routine. -/
structure Sy where
  s : Nat → Sl
  l : Nat → List Int
  rou : Rou
instance : Inhabited Sy := ⟨⟨fun _ => default, fun _ => [], default⟩⟩
abbrev sysV (x : Sy) : List Value := [slV (x.s 0), slV (x.s 1), slV (x.s 2), slV (x.s 3), .string x.rou.name, .int .i64 x.rou.params, .int .i64 x.rou.locals, slV x.rou.sl]
theorem sysV_len (x : Sy) : (sysV x).length = 8 := rfl
structure SyR (H : Heap) (x : Sy) : Prop where
  sets : ∀ q, q < 4 → RL (Value.int .i64) H (x.s q) (x.l q)
  code : CodeR H x.rou
  lens : ∀ q, q < 4 → (x.l q).length ≤ 2 ^ 60
  clen : x.rou.code.length ≤ 2 ^ 60
structure PrgR (H : Heap) (p : Sl × Sl) (ss : List Sy) (fs : List Rou) : Prop where
  sys : RN sysV 8 H p.1 ss
  sysR : ∀ x ∈ ss, SyR H x
  fun' : RN rouV 4 H p.2 fs
  funR : ∀ r ∈ fs, CodeR H r
  funL : ∀ r ∈ fs, r.code.length ≤ 2 ^ 60
theorem SyR.ext {H' : Heap} (hE : Ext H H') {x : Sy} (h : SyR H x) : SyR H' x := ⟨fun q hq => (h.sets q hq).ext hE, h.code.ext hE, h.lens, h.clen⟩
theorem PrgR.ext {H' : Heap} (hE : Ext H H') {p : Sl × Sl} {ss : List Sy} {fs : List Rou} (h : PrgR H p ss fs) : PrgR H' p ss fs :=
  ⟨h.sys.ext hE, fun x hx => (h.sysR x hx).ext hE, h.fun'.ext hE, fun r hr => (h.funR r hr).ext hE, h.funL⟩
end Go.Proofs.YtfpmgpblhhcpgaaGreat
