/-
  plan.New.
-/
import Derived.Test.YtpkpebgpiakbeaaPlan
namespace Go.Proofs.Ytpkpebgpiakbeaa
set_option linter.unusedVariables false
set_option linter.unusedSimpArgs false
open Go.Proofs.Ytpkpebgpiakbeaa.Hc Go.Proofs.Ytpkpebgpiakbeaa.Hc.Plan
set_option maxRecDepth 100000

abbrev nilS : Sl := ⟨none, 0, 0⟩
abbrev bools (xs : List Bool) : List Value := xs.map Value.bool
abbrev confRow (l : List PSys) (i : Nat) : List Bool := (List.range l.length).map (confF l i)
/-- A plan that stands as it is. -/
structure PlAt (H : Heap) (p : Nat) (l : List PSys) : Prop where
  ex : ∃ (cs ss : Sl) (rows ts : List Sl), Row H p T_plan_Plan [slV cs, slV ss] ∧ RL slV H cs rows ∧ rows.length = l.length ∧ (∀ i (h : i < rows.length), RL Value.bool H rows[i] (confRow l i)) ∧
    RL slV H ss ts ∧ ts.length = cnt l l.length ∧ ∀ s (h : s < ts.length), RI H ts[s] (ofS l l.length s)
/-- A plan that stays as it is, as long as nothing from lo on is turned. -/
def PlLoc (lo : Nat) (H : Heap) (p : Nat) (l : List PSys) : Prop := ∀ H', H.size ≤ H'.size → (∀ b, lo ≤ b → b < H.size → H'[b]? = H[b]?) → PlAt H' p l
theorem PlLoc.at {lo : Nat} {H : Heap} {p : Nat} {l : List PSys} (h : PlLoc lo H p l) : PlAt H p l := h H (Nat.le_refl _) fun _ _ _ => rfl
theorem PlLoc.ext {lo : Nat} {H H' : Heap} {p : Nat} {l : List PSys} (hu : Ext H H') (h : PlLoc lo H p l) : PlLoc lo H' p l := fun H2 h1 h2 =>
  h H2 (Nat.le_trans hu.size h1) fun b hb hlt => (h2 b hb (Nat.lt_of_lt_of_le hlt hu.size)).trans (hu.get b hlt fun h => h)
theorem PlLoc.upd {lo : Nat} {M : Nat → Prop} {H H' : Heap} {p : Nat} {l : List PSys} (hu : Upd M H H') (h : PlLoc lo H p l) (hm : ∀ b, b < H.size → M b → b < lo) : PlLoc lo H' p l := fun H2 h1 h2 =>
  h H2 (Nat.le_trans hu.size h1) fun b hb hlt => (h2 b hb (Nat.lt_of_lt_of_le hlt hu.size)).trans (hu.get b hlt fun e => by have := hm b hlt e; omega)
theorem PlAt.ext {H H' : Heap} (hu : Ext H H') {p : Nat} {l : List PSys} (h : PlAt H p l) : PlAt H' p l :=
  let ⟨cs, ss, rows, ts, h1, h2, h3, h4, h5, h6, h7⟩ := h.ex
  ⟨⟨cs, ss, rows, ts, hu.row h1 fun h => h, h2.ext hu, h3, fun i hi => (h4 i hi).ext hu, h5.ext hu, h6, fun s hs => (h7 s hs).ext hu⟩⟩

def Ap' (s t : Sl) : Prop := ∀ b, s.a = some (adr b) → t.a ≠ some (adr b)
/-- While it is made. -/
structure NP (lo : Nat) (H : Heap) (p bl : Nat) (cs ss : Sl) (rows ts : List Sl) (arr : List Int) (l : List PSys) (i r : Nat) : Prop where
  pr : Row H p T_plan_Plan [slV cs, slV ss]
  vc : Vec H T_Sl_bool cs (rows.map slV)
  rl : rows.length = r
  vr : ∀ j (h : j < rows.length), Vec H T_bool rows[j] (bools (confRow l j))
  vs : Vec H T_Sl_int ss (ts.map slV)
  vt : ∀ s (h : s < ts.length), Vec H T_int ts[s] (ints (ofS l i s))
  ap : ∀ s s' (h : s < ts.length) (h' : s' < ts.length), s ≠ s' → Ap' ts[s] ts[s']
  ar : Row H bl T_int (ints arr)
  na : ∀ s (h : s < ts.length), ts[s].a ≠ some (adr bl)
  fp : lo ≤ p ∧ lo ≤ bl
  fc : ∀ b, cs.a = some (adr b) → lo ≤ b
  fs : ∀ b, ss.a = some (adr b) → lo ≤ b
  ft : ∀ s (h : s < ts.length) b, ts[s].a = some (adr b) → lo ≤ b
  fr : ∀ s (h : s < rows.length) b, rows[s].a = some (adr b) → lo ≤ b
variable {lo : Nat} {H : Heap} {p bl : Nat} {cs ss : Sl} {rows ts : List Sl} {arr : List Int} {l : List PSys} {i r : Nat}
theorem NP.upd {M : Nat → Prop} {H' : Heap} {arr' : List Int} (hu : Upd M H H') (h : NP lo H p bl cs ss rows ts arr l i r) (hm : ∀ b T vs, Row H b T vs → b ≠ bl → (T = T_plan_Plan ∨ T = T_Sl_bool ∨ T = T_bool ∨ T = T_Sl_int ∨ T = T_int) → M b → False) (ha : Row H' bl T_int (ints arr')) :
    NP lo H' p bl cs ss rows ts arr' l i r := by
  have vv : ∀ {T : TypeId} {s : Sl} {vs : List Value}, Vec H T s vs → T ≠ T_int → (T = T_plan_Plan ∨ T = T_Sl_bool ∨ T = T_bool ∨ T = T_Sl_int ∨ T = T_int) → Vec H' T s vs := fun hv hne hT => hv.upd hu fun b hb hb' => by
    rcases hv.own with ⟨h1, _⟩ | ⟨c, sp, h1, h2, _⟩
    · rw [h1] at hb; cases hb
    · rw [h1] at hb; cases hb; exact hm _ _ _ h2 (h2.ne h.ar hne) hT hb'
  refine ⟨hu.row h.pr fun e => hm _ _ _ h.pr (h.pr.ne h.ar (by decide)) (.inl rfl) e, vv h.vc (by decide) (.inr (.inl rfl)), h.rl, fun j hj => vv (h.vr j hj) (by decide) (.inr (.inr (.inl rfl))), vv h.vs (by decide) (.inr (.inr (.inr (.inl rfl)))), fun s hs => (h.vt s hs).upd hu fun b hb hb' => ?_, h.ap, ha, h.na, h.fp, h.fc, h.fs, h.ft, h.fr⟩
  have hv := h.vt s hs
  rcases hv.own with ⟨h1, _⟩ | ⟨c, sp, h1, h2, _⟩
  · rw [h1] at hb; cases hb
  · rw [h1] at hb; cases hb
    exact hm _ _ _ h2 (fun e => h.na s hs (e ▸ h1)) (.inr (.inr (.inr (.inr rfl)))) hb'
theorem NP.ext {H' : Heap} (hu : Ext H H') (h : NP lo H p bl cs ss rows ts arr l i r) : NP lo H' p bl cs ss rows ts arr l i r :=
  h.upd hu (fun _ _ _ _ _ _ h => h) (hu.row h.ar fun h => h)

theorem keepV {H H' : Heap} {M : Nat → Prop} {A B : TypeId} (hu : Upd M H H') (hM : ∀ b, M b → ∃ vs, Row H b A vs ∨ Row H b B vs) {T : TypeId} {s : Sl} {vs : List Value} (hv : Vec H T s vs) (h1 : T ≠ A) (h2 : T ≠ B) : Vec H' T s vs :=
  hv.upd hu fun b hb hm => by
    obtain ⟨ws, h | h⟩ := hM b hm
    · exact hv.ne hb h h1 rfl
    · exact hv.ne hb h h2 rfl
theorem keepR {H H' : Heap} {M : Nat → Prop} {A B : TypeId} (hu : Upd M H H') (hM : ∀ b, M b → ∃ vs, Row H b A vs ∨ Row H b B vs) {T : TypeId} {b : Nat} {vs : List Value} (hv : Row H b T vs) (h1 : T ≠ A) (h2 : T ≠ B) : Row H' b T vs :=
  hu.row hv fun hm => by
    obtain ⟨ws, h | h⟩ := hM b hm
    · exact hv.ne h h1 rfl
    · exact hv.ne h h2 rfl
theorem Vec.rowOf {H : Heap} {T : TypeId} {s : Sl} {vs : List Value} (h : Vec H T s vs) {b : Nat} (hb : s.a = some (adr b)) : ∃ ws, Row H b T ws := by
  rcases h.own with ⟨h1, _⟩ | ⟨c, sp, h1, h2, _⟩
  · rw [h1] at hb; cases hb
  · rw [h1] at hb; cases hb; exact ⟨_, h2⟩
/-- One more row. -/
theorem NP.addC {x : Sl} {k : Heap → Prop} (h : NP lo H p bl cs ss rows ts arr l i r) (hlo : lo ≤ H.size) (hr : r ≤ 1000) (hx : Vec H T_bool x (bools (confRow l r))) (hxl : ∀ b, x.a = some (adr b) → lo ≤ b)
    (hk : ∀ cs' H', NP lo H' p bl cs' ss (rows ++ [x]) ts arr l i (r + 1) → (∀ b, b < lo → H'[b]? = H[b]?) → H.size ≤ H'.size → k H') :
    Ld .sl (adr p) H fun (x4 : Sl) =>
            Nw #[.slice x.a x.len x.cap] T_Sl_bool H fun b4 H34 =>
            App T_Sl_bool 1 24 #[.slice none 0 0] x4 ⟨some (adr b4), 1, 1⟩ H34 fun l3 H35 =>
            St (adr p) (.slice l3.a l3.len l3.cap) H35 fun H36 => k H36 := by
  refine Ld_sl (s := cs) ((h.pr.cell 0).trans rfl) ?_
  refine Nw_row fun b4 H34 hb4 hE34 _ hr34 => ?_
  have h34 := h.ext hE34
  have z34 := hE34.size
  have hrl := h.rl
  refine App_vec h34.vc (ws := [slV x]) hr34.rd_all rfl (by simp [Value.oneCell']) (by omega) (by simp; omega) fun l3 H35 hv35 hU35 hl35 hs35 => ?_
  have hM35 : ∀ b, (cs.a = some (adr b) ∧ cs.len + 1 ≤ cs.cap ∧ [slV x] ≠ []) → ∃ vs, Row H34 b T_Sl_bool vs ∨ Row H34 b T_Sl_bool vs := fun b e => let ⟨ws, hw⟩ := Vec.rowOf h34.vc e.1; ⟨ws, .inl hw⟩
  have pr35 := keepR hU35 hM35 h34.pr (by decide) (by decide)
  refine St_row pr35 (by simp) fun H36 hU36 hs36 hr36 => ?_
  have hM36 : ∀ b, b = p → ∃ vs, Row H35 b T_plan_Plan vs ∨ Row H35 b T_plan_Plan vs := fun b e => by subst e; exact ⟨_, .inl pr35⟩
  have kv : ∀ {T : TypeId} {s : Sl} {vs : List Value}, Vec H34 T s vs → T ≠ T_Sl_bool → T ≠ T_plan_Plan → Vec H36 T s vs := fun hv h1 h2 => keepV hU36 hM36 (keepV hU35 hM35 hv h1 h1) h2 h2
  refine hk l3 H36 ⟨hr36, ?_, by simp [h.rl], fun j hj => ?_, kv h34.vs (by decide) (by decide), fun s hs => kv (h34.vt s hs) (by decide) (by decide), h.ap, keepR hU36 hM36 (keepR hU35 hM35 h34.ar (by decide) (by decide)) (by decide) (by decide), h.na, h.fp, fun b hb => ?_, h.fs, h.ft, fun s hs b hb => ?_⟩ (fun b hb => ?_) (by omega)
  · rw [List.map_append]; exact keepV hU36 hM36 hv35 (by decide) (by decide)
  · simp only [List.length_append, List.length_singleton] at hj
    rcases Nat.lt_or_ge j rows.length with e | e
    · rw [List.getElem_append_left e]; exact kv (h34.vr j e) (by decide) (by decide)
    · have : j = r := by omega
      subst this
      rw [List.getElem_append_right e]
      simp only [hrl, Nat.sub_self, List.getElem_singleton]
      exact kv (hx.ext hE34) (by decide) (by decide)
  · rcases hl35 with e | e
    · rw [e] at hb; exact h.fc b hb
    · rw [e] at hb; cases hb; omega
  · simp only [List.length_append, List.length_singleton] at hs
    rcases Nat.lt_or_ge s rows.length with e | e
    · rw [List.getElem_append_left e] at hb; exact h.fr s e b hb
    · rw [List.getElem_append_right e] at hb
      simp only [List.getElem_singleton] at hb
      exact hxl b hb
  · have hfp := h.fp
    have h1 := hU36.get b (by omega) (by omega)
    have h2 := hU35.get b (by omega) (fun e => by have := h.fc b e.1; omega)
    have h3 := hE34.get b (by omega) (fun e => e)
    rw [h1, h2, h3]
/-- One more stage. -/
theorem NP.addS {k : Heap → Prop} (h : NP lo H p bl cs ss rows ts arr l i r) (hlo : lo ≤ H.size) (hr : ts.length ≤ 1000) (h0 : ofS l i ts.length = [])
    (hk : ∀ ss' H', NP lo H' p bl cs ss' rows (ts ++ [nilS]) arr l i r → (∀ b, b < lo → H'[b]? = H[b]?) → H.size ≤ H'.size → k H') :
    Ld .sl ⟨p, 1, none⟩ H fun (x7 : Sl) =>
                Nw #[.slice none 0 0] T_Sl_int H fun b5 H38 =>
                App T_Sl_int 1 24 #[.slice none 0 0] x7 ⟨some (adr b5), 1, 1⟩ H38 fun l4 H39 =>
                St ⟨p, 1, none⟩ (.slice l4.a l4.len l4.cap) H39 fun H40 => k H40 := by
  refine Ld_sl (s := ss) ((h.pr.cell 1).trans rfl) ?_
  refine Nw_row fun b4 H34 hb4 hE34 _ hr34 => ?_
  have h34 := h.ext hE34
  have z34 := hE34.size
  refine App_vec h34.vs (ws := [slV nilS]) hr34.rd_all rfl (by simp [Value.oneCell']) (by omega) (by simp; omega) fun l3 H35 hv35 hU35 hl35 hs35 => ?_
  have hM35 : ∀ b, (ss.a = some (adr b) ∧ ss.len + 1 ≤ ss.cap ∧ [slV nilS] ≠ []) → ∃ vs, Row H34 b T_Sl_int vs ∨ Row H34 b T_Sl_int vs := fun b e => let ⟨ws, hw⟩ := Vec.rowOf h34.vs e.1; ⟨ws, .inl hw⟩
  have pr35 := keepR hU35 hM35 h34.pr (by decide) (by decide)
  refine St_row pr35 (by simp) fun H36 hU36 hs36 hr36 => ?_
  have hM36 : ∀ b, b = p → ∃ vs, Row H35 b T_plan_Plan vs ∨ Row H35 b T_plan_Plan vs := fun b e => by subst e; exact ⟨_, .inl pr35⟩
  have kv : ∀ {T : TypeId} {s : Sl} {vs : List Value}, Vec H34 T s vs → T ≠ T_Sl_int → T ≠ T_plan_Plan → Vec H36 T s vs := fun hv h1 h2 => keepV hU36 hM36 (keepV hU35 hM35 hv h1 h1) h2 h2
  have gl : ∀ s (hs : s < ts.length) (hs' : s < (ts ++ [nilS]).length), (ts ++ [nilS])[s] = ts[s] := fun s hs hs' => List.getElem_append_left hs
  have gr : ∀ s (hs : ¬ s < ts.length) (hs' : s < (ts ++ [nilS]).length), (ts ++ [nilS])[s] = nilS := fun s hs hs' => by rw [List.getElem_append_right (by omega)]; simp
  refine hk l3 H36 ⟨hr36, kv h34.vc (by decide) (by decide), h.rl, fun j hj => kv (h34.vr j hj) (by decide) (by decide), ?_, fun s hs => ?_, fun s s' hs hs' hne => ?_, keepR hU36 hM36 (keepR hU35 hM35 h34.ar (by decide) (by decide)) (by decide) (by decide), fun s hs => ?_, h.fp, h.fc, fun b hb => ?_, fun s hs b hb => ?_, h.fr⟩ (fun b hb => ?_) (by omega)
  · rw [List.map_append]; exact keepV hU36 hM36 hv35 (by decide) (by decide)
  · by_cases e : s < ts.length
    · rw [gl s e hs]; exact kv (h34.vt s e) (by decide) (by decide)
    · rw [gr s e hs]
      have : s = ts.length := by simp at hs; omega
      rw [this, h0]; exact .nil _ _
  · by_cases e : s < ts.length
    · by_cases e' : s' < ts.length
      · rw [gl s e hs, gl s' e' hs']; exact h.ap s s' e e' hne
      · rw [gr s' e' hs']; intro b _ h2; cases h2
    · rw [gr s e hs]; intro b h1; cases h1
  · by_cases e : s < ts.length
    · rw [gl s e hs]; exact h.na s e
    · rw [gr s e hs]; intro h2; cases h2
  · rcases hl35 with e | e
    · rw [e] at hb; exact h.fs b hb
    · rw [e] at hb; cases hb; omega
  · by_cases e : s < ts.length
    · rw [gl s e hs] at hb; exact h.ft s e b hb
    · rw [gr s e hs] at hb; cases hb
  · have hfp := h.fp
    have h1 := hU36.get b (by omega) (by omega)
    have h2 := hU35.get b (by omega) (fun e => by have := h.fs b e.1; omega)
    have h3 := hE34.get b (by omega) (fun e => e)
    rw [h1, h2, h3]

theorem s_plan_New {s : Sl} (hs : SysL H s l) (hl : l.length ≤ 1000) {k : Option Addr → Heap → Prop} (hk : ∀ p H', PlLoc H.size H' p l → H.size ≤ p → Ext H H' → k (some (adr p)) H') :
    CallT Pg f_plan_New [.slice s.a s.len s.cap] (.one (.c .ptr)) H k := by
  apply c_plan_New
  unfold v_plan_New
  have hsl := hs.1
  refine Nw_row fun p H1 hp hE1 _ hr1 => ?_
  refine Mks_row (by omega) (by omega) (by omega) fun bl H2 hbl hE2 _ hr2 => ?_
  rw [Int.toNat_natCast] at hr2 ⊢
  rw [hsl] at hr2 ⊢
  have z1 := hE1.size
  have hE2' := hE1.ext hE2
  refine LoopT.mk (fun σ H' => ∃ (i : Nat) (cs ss : Sl) (rows ts : List Sl), σ = i ∧ i ≤ l.length ∧ Ext H H' ∧ NP H.size H' p bl cs ss rows ts ((stF l i).map Int.ofNat ++ List.replicate (l.length - i) 0) l i i ∧ ts.length = cnt l i) (fun σ _ => (l.length - σ).toNat)
    ⟨0, nilS, nilS, [], [], rfl, by omega, hE2', ⟨hE2.row hr1 fun h => h, .nil _ _, rfl, by simp, .nil _ _, by simp, by simp, by simpa [stF, ints] using hr2, by simp, ⟨by omega, by omega⟩, (fun b h => by cases h), (fun b h => by cases h), by simp, by simp⟩, rfl⟩ ?_
  rintro next1 _ H3 ⟨i, cs, ss, rows, ts, rfl, hi, hE3, hN3, hcnt⟩ hnext1
  have z3 := hE3.size
  refine Br_dec (fun hlt => ?_) fun hge => ?_
  · have hi1 : i < l.length := by omega
    refine hs.ix rfl hi1 fun a1 c1 hc1 hsa1 => ?_
    refine ⟨c1, hcells_upd hE3 (fun h => h) hc1, ?_⟩
    refine Box8 (c := c1) rfl fun b2 H12 hb2 hE12 _ hr12 => ?_
    have hN12 := hN3.ext hE12
    have hE012 := hE3.ext hE12
    refine Mks_row (by omega) (by omega) (by omega) fun br H13 hbr hE13 _ hr13 => ?_
    rw [Int.toNat_natCast] at hr13 ⊢
    have hN13 := hN12.ext hE13
    have hr12 := hE13.row hr12 fun h => h
    have hE013 := hE012.ext hE13
    have z12 := hE12.size
    have z13 := hE13.size
    have lb2 := hr12.lt
    have lbr := hr13.lt
    have lbl := hN3.ar.lt
    have lp := hN3.pr.lt
    have arrl : ((stF l i).map Int.ofNat ++ List.replicate (l.length - i) 0).length = l.length := by simp; omega
    have geti : ((stF l i).map Int.ofNat ++ List.replicate (l.length - i) 0).getD i 0 = 0 := by
      rw [List.getD_eq_getElem?_getD, List.getElem?_append_right (by simp)]
      simp only [List.length_map, stF_len, Nat.sub_self]
      rw [List.getElem?_replicate]; split <;> rfl
    -- the row
    refine LoopT.mk (fun σ H' => ∃ j : Nat, σ = j ∧ j ≤ l.length ∧ Upd (fun b => b = br ∨ b = bl) H13 H' ∧ Row H' br T_bool (bools ((List.range j).map (confF l i) ++ List.replicate (l.length - j) false)) ∧
        Row H' bl T_int (ints (((stF l i).map Int.ofNat ++ List.replicate (l.length - i) 0).set i (stepK l (stF l i) i (Nat.min j i) : Int)))) (fun σ _ => (l.length - σ).toNat)
      ⟨0, rfl, by omega, .refl _ _, by simpa [bools] using hr13, ?_⟩ ?_
    · have e0 : ((stF l i).map Int.ofNat ++ List.replicate (l.length - i) 0).set i (stepK l (stF l i) i (Nat.min 0 i) : Int) = (stF l i).map Int.ofNat ++ List.replicate (l.length - i) 0 := by
        rw [show Nat.min 0 i = 0 from Nat.zero_min i]
        refine List.ext_getElem? fun m => ?_
        rw [List.getElem?_set]
        split
        · rename_i h; subst h
          rw [if_pos (by omega)]
          rw [List.getD_eq_getElem?_getD] at geti
          rw [List.getElem?_eq_getElem (by omega)] at geti ⊢
          simp only [Option.getD_some] at geti
          rw [geti]; rfl
        · rfl
      rw [e0]; exact hN13.ar
    rintro next2 _ H14 ⟨j, rfl, hj, hU14, hr14, ha14⟩ hnext2
    have z14 := hU14.size
    have ext14 : Ext H H14 := hE013.trans hU14 fun b hb e => by
      have := hN3.fp; rcases e with e | e <;> omega
    refine Br_dec (fun hltj => ?_) fun hgej => ?_
    · have hj1 : j < l.length := by omega
      refine Jn.mk (fun _ H' => Upd (fun b => b = br ∨ b = bl) H13 H' ∧ Row H' br T_bool (bools ((List.range (j + 1)).map (confF l i) ++ List.replicate (l.length - (j + 1)) false)) ∧
        Row H' bl T_int (ints (((stF l i).map Int.ofNat ++ List.replicate (l.length - i) 0).set i (stepK l (stF l i) i (Nat.min (j + 1) i) : Int)))) (fun kk1 hkk1 => ?_) ?_
      · refine hs.ix rfl hj1 fun a2 c2 hc2 hsa2 => ?_
        refine ⟨c2, hcells_upd ext14 (fun h => h) hc2, ?_⟩
        refine Box8 (c := c2) rfl fun b3 H24 hb3 hE24 _ hr24 => ?_
        have z24 := hE24.size
        have hU24 := hU14.ext hE24
        have br24 := hE24.row hr14 fun h => h
        have bl24 := hE24.row ha14 fun h => h
        have b2ne : b2 ≠ br ∧ b2 ≠ bl := ⟨hr12.ne hr13 (by decide), hr12.ne hN13.ar (by decide)⟩
        have hr12' := hU24.row hr12 fun e => e.elim b2ne.1 b2ne.2
        have lb3 := hr24.lt
        have ext24 := ext14.ext hE24
        have setrow : ∀ v, ((List.range j).map (confF l i) ++ List.replicate (l.length - j) false).set j v = (List.range j).map (confF l i) ++ [v] ++ List.replicate (l.length - (j + 1)) false := fun v => by
          rw [show l.length - j = (l.length - (j + 1)) + 1 by omega, List.replicate_succ]
          have := set_mid' ((List.range j).map (confF l i)) (List.replicate (l.length - (j + 1)) false) false v
          simp only [List.length_map, List.length_range] at this
          rw [this]; simp
        refine Jn.mk (fun _ H' => Upd (fun b => b = br ∨ b = bl) H13 H' ∧ Row H' br T_bool (bools ((List.range (j + 1)).map (confF l i) ++ List.replicate (l.length - (j + 1)) false)) ∧
          Row H' bl T_int (ints (((stF l i).map Int.ofNat ++ List.replicate (l.length - i) 0).set i (stepK l (stF l i) i (Nat.min j i) : Int)))) (fun kk2 hkk2 => ?_) ?_
        · have put : ∀ (H26 : Heap) (v : Bool), Ext H24 H26 → v = confF l i j → IxA 1 ⟨some (adr br), l.length, l.length⟩ (j : Int) fun a3 => St a3 (.bool v) H26 fun H27 => kk2 () H27 := by
            intro H26 v hE26 hv
            have br26 := hE26.row br24 fun h => h
            have bl26 := hE26.row bl24 fun h => h
            refine IxA_adr (by omega) (by omega) ?_
            rw [Int.toNat_natCast, Nat.mul_one]
            refine St_row br26 (by simp; omega) fun H27 hU27 _ hr27 => ?_
            refine hkk2 _ _ ⟨(hU24.ext hE26).trans hU27 fun _ _ e => .inl e, ?_, hU27.row bl26 (fun e => (hN13.ar.ne hr13 (by decide)) e)⟩
            rw [bools, ← List.map_set, setrow, hv] at hr27
            rw [List.range_succ, List.map_append]
            exact hr27
          refine Br.mk (fun hne => ?_) fun heq => ?_
          · have hne' : i ≠ j := fun e => by subst e; simp at hne
            have ec : confF l i j = (touchF l[i] l[j] || touchF l[j] l[i]) := by
              unfold confF at'
              rw [show (i != j) = true by simpa using hne', Bool.true_and]
              simp [hi1, hj1]
            refine ⟨c1, hr12'.rd_all, ?_⟩
            refine ⟨c2, hr24.rd_all, ?_⟩
            refine s_touch (hsa1.ext ext24) (hsa2.ext ext24) fun H26 hE26 => ?_
            refine Br.mk (fun h => put H26 true hE26 (by rw [ec, h]; rfl)) fun h => ?_
            refine ⟨c2, (hE26.row hr24 fun h => h).rd_all, ?_⟩
            refine ⟨c1, (hE26.row hr12' fun h => h).rd_all, ?_⟩
            refine s_touch (hsa2.ext (ext24.ext hE26)) (hsa1.ext (ext24.ext hE26)) fun H28 hE28 => ?_
            exact put H28 _ (hE26.ext hE28) (by rw [ec, h]; rfl)
          · have hne' : i = j := by have := heq; simp at this; omega
            subst hne'
            refine put H24 false (.refl _ _) ?_
            simp [confF]
        rintro _ H25 ⟨hU25, br25, bl25⟩
        have cellj : hcell H25 ⟨br, j, none⟩ = some (.bool (confF l i j)) := by
          rw [br25.cell, bools, List.getElem?_map, List.range_succ, List.map_append, List.append_assoc, List.getElem?_append_right (by simp)]
          simp
        refine Jn.mk (fun b H' => H25 = H' ∧ b = (decide (j < i) && confF l i j)) (fun kk3 hkk3 => ?_) ?_
        · refine Br_dec (fun h => ?_) fun h => hkk3 _ _ ⟨rfl, by rw [decide_eq_false (by omega)]; rfl⟩
          refine IxA_adr (by omega) (by omega) ?_
          rw [Int.toNat_natCast, Nat.mul_one]
          refine Ld_bool cellj ?_
          exact hkk3 _ _ ⟨rfl, by rw [decide_eq_true (by omega)]; rfl⟩
        rintro b _ ⟨rfl, hb⟩
        have arrj : ∀ {m : Nat} {x : Int}, m < i → (((stF l i).map Int.ofNat ++ List.replicate (l.length - i) 0).set i x)[m]? = some (((stF l i).getD m 0 : Nat) : Int) := fun {m x} hm => by
          rw [List.getElem?_set_ne (by omega), List.getElem?_append_left (by simp; omega), List.getElem?_map, List.getD_eq_getElem?_getD, List.getElem?_eq_getElem (by simp; omega)]
          rfl
        refine Jn.mk (fun _ H' => Upd (fun b => b = br ∨ b = bl) H13 H' ∧ Row H' br T_bool (bools ((List.range (j + 1)).map (confF l i) ++ List.replicate (l.length - (j + 1)) false)) ∧
          Row H' bl T_int (ints (((stF l i).map Int.ofNat ++ List.replicate (l.length - i) 0).set i (stepK l (stF l i) i (Nat.min (j + 1) i) : Int)))) (fun kk4 hkk4 => ?_) (fun _ H' h => hkk1 _ _ h)
        refine Br.mk (fun ht => ?_) fun hf => ?_
        · rw [ht] at hb
          have hb' := hb.symm
          rw [Bool.and_eq_true, decide_eq_true_eq] at hb'
          obtain ⟨hji, hc⟩ := hb'
          have m0 : Nat.min j i = j := Nat.min_eq_left (by omega)
          have m1 : Nat.min (j + 1) i = j + 1 := Nat.min_eq_left (by omega)
          rw [m0] at bl25
          have ci : hcell H25 ⟨bl, i, none⟩ = some (.int .i64 (stepK l (stF l i) i j : Int)) := by
            rw [bl25.cell, ints, List.getElem?_map, List.getElem?_set_self (by omega)]; rfl
          have cj : hcell H25 ⟨bl, j, none⟩ = some (.int .i64 (((stF l i).getD j 0 : Nat) : Int)) := by
            rw [bl25.cell, ints, List.getElem?_map, arrj hji]; rfl
          have bd1 : (stF l i).getD j 0 ≤ 1000 := by
            have := stg_of l hji (by omega); rw [this]; exact Nat.le_trans (stg_bd l (by omega)) (by omega)
          refine IxA_adr (by omega) (by omega) ?_
          rw [Int.toNat_natCast, Nat.mul_one]
          refine Ld_int ci ?_
          refine IxA_adr (by omega) (by omega) ?_
          rw [Int.toNat_natCast, Nat.mul_one]
          refine Ld_int cj ?_
          rw [Lt_def, wrap_i64_id (by omega) (by omega)]
          refine IxA_adr (by omega) (by omega) ?_
          rw [Int.toNat_natCast, Nat.mul_one]
          refine St_row bl25 (by simp; omega) fun H33 hU33 _ hr33 => ?_
          refine hkk4 _ _ ⟨hU25.trans hU33 fun _ _ e => .inr e, hU33.row br25 (fun e => (hr13.ne hN13.ar (by decide)) e), ?_⟩
          rw [ints_set, List.set_set] at hr33
          have e1 : (if (stepK l (stF l i) i j : Int) < (((stF l i).getD j 0 : Nat) : Int) + 1 then (((stF l i).getD j 0 : Nat) : Int) + 1 else (stepK l (stF l i) i j : Int)) = (stepK l (stF l i) i (j + 1) : Int) := by
            rw [stepK]
            by_cases h : (stF l i).getD j 0 + 1 > stepK l (stF l i) i j
            · rw [if_pos (by omega), if_pos ⟨hc, h⟩]; omega
            · rw [if_neg (by omega), if_neg (fun h' => h h'.2)]
          rw [e1] at hr33
          rw [m1]; exact hr33
        · rw [hf] at hb
          refine hkk4 _ _ ⟨hU25, br25, ?_⟩
          have e1 : stepK l (stF l i) i (Nat.min (j + 1) i) = stepK l (stF l i) i (Nat.min j i) := by
            rcases Nat.lt_or_ge j i with h | h
            · rw [show Nat.min j i = j from Nat.min_eq_left (by omega), show Nat.min (j + 1) i = j + 1 from Nat.min_eq_left (by omega), stepK]
              rw [decide_eq_true h, Bool.true_and] at hb
              rw [if_neg (fun h' => by rw [h'.1] at hb; cases hb)]
            · rw [show Nat.min j i = i from Nat.min_eq_right (by omega), show Nat.min (j + 1) i = i from Nat.min_eq_right (by omega)]
          rw [e1]; exact bl25
      rintro _ H15 h
      rw [Lt_def, wrap_i64_id (by omega) (by omega)]
      exact hnext2 _ _ ⟨j + 1, by omega, by omega, h⟩ (by omega)
    · have hjn : j = l.length := by omega
      subst hjn
      have m0 : Nat.min l.length i = i := Nat.min_eq_right (by omega)
      rw [m0, ← stg_eq l hi1] at ha14
      have arr' : ((stF l i).map Int.ofNat ++ List.replicate (l.length - i) 0).set i (stg l i : Int) = (stF l (i + 1)).map Int.ofNat ++ List.replicate (l.length - (i + 1)) 0 := by
        rw [show l.length - i = (l.length - (i + 1)) + 1 by omega, List.replicate_succ]
        have := set_mid' ((stF l i).map Int.ofNat) (List.replicate (l.length - (i + 1)) 0) 0 (stg l i : Int)
        simp only [List.length_map, stF_len] at this
        rw [this, stF, ← stg_eq l hi1]; simp
      rw [arr'] at ha14
      have hU12 : Upd (· = bl) H12 H14 := (hE13.mono (fun _ _ h => h.elim)).trans hU14 fun b hb e => by
        rcases e with e | e
        · omega
        · exact e
      have hN14 := hN12.upd hU12 (fun b T vs _ hne _ e => hne e) ha14
      have hx : Vec H14 T_bool ⟨some (adr br), l.length, l.length⟩ (bools (confRow l i)) := ⟨by simp, .inr ⟨br, [], rfl, by simpa using hr14, by simp⟩, Nat.le_refl _⟩
      clear hnext2 hr14
      simp only [NilCk_some, adr_add]
      have z014 : H.size ≤ H14.size := ext14.size
      refine hN14.addC (x := ⟨some (adr br), l.length, l.length⟩) z014 (by omega) hx (fun b hb => by cases hb; omega) fun cs6 H36 hN36 hlow36 hz36 => ?_
      have ext36 : Ext H H36 := ⟨by omega, fun b hb _ => (hlow36 b hb).trans (ext14.get b hb fun h => h)⟩
      have hst := cnt_step l hi1
      have hsb := stg_bd l hi1
      refine LoopT.ghost (fun m _ H' => ∃ (ss7 : Sl) (ts7 : List Sl), NP H.size H' p bl cs6 ss7 (rows ++ [⟨some (adr br), l.length, l.length⟩]) ts7 ((stF l (i + 1)).map Int.ofNat ++ List.replicate (l.length - (i + 1)) 0) l i (i + 1) ∧ Ext H H' ∧
          ((m = 1 ∧ ts7 = ts) ∨ (m = 0 ∧ ts7 = ts ++ [nilS] ∧ stg l i = cnt l i))) 1 ⟨ss, ts, hN36, ext36, .inl ⟨rfl, rfl⟩⟩ ?_
      rintro next3 m _ H37 ⟨ss7, ts7, hN37, ext37, hcase⟩ hnext3
      have ci : hcell H37 ⟨bl, i, none⟩ = some (.int .i64 (stg l i : Int)) := by
        rw [hN37.ar.cell, ints, List.getElem?_map, List.getElem?_append_left (by simp), List.getElem?_map]
        have := stg_of l (show i < i + 1 by omega) (by omega)
        rw [List.getD_eq_getElem?_getD, List.getElem?_eq_getElem (by simp)] at this
        rw [List.getElem?_eq_getElem (by simp)]
        simp only [Option.getD_some] at this
        rw [this]; rfl
      have hss := hN37.vs.len
      simp only [List.length_map] at hss
      refine Ld_sl (s := ss7) ((hN37.pr.cell 1).trans rfl) ?_
      have ixl : ∀ {k : Addr → Prop}, k ⟨bl, i, none⟩ → IxA 1 ⟨some (adr bl), l.length, l.length⟩ (i : Int) k := fun {k} hk => by
        refine IxA_adr (by omega) (by omega) ?_
        rw [Int.toNat_natCast, Nat.mul_one]; exact hk
      refine ixl ?_
      refine Ld_int ci ?_
      refine Br_dec (fun hle => ?_) fun hgt => ?_
      · rcases hcase with ⟨rfl, rfl⟩ | ⟨rfl, rfl, he⟩
        · refine hN37.addS ext37.size (by omega) (ofS_nil l (by omega)) fun ss8 H40 hN40 hlow40 hz40 => ?_
          exact hnext3 0 () H40 (by omega) ⟨ss8, _, hN40, ⟨by have := ext37.size; omega, fun b hb _ => (hlow40 b hb).trans (ext37.get b hb fun h => h)⟩, .inr ⟨rfl, rfl, by omega⟩⟩
        · simp at hss; omega
      · have hlt7 : stg l i < ts7.length := by omega
        have hcnt7 : ts7.length = cnt l (i + 1) := by
          rw [cnt]
          rcases hcase with ⟨_, rfl⟩ | ⟨_, rfl, he⟩
          · omega
          · simp; omega
        clear hcase hnext3
        refine Ld_sl (s := ss7) ((hN37.pr.cell 1).trans rfl) ?_
        refine ixl ?_
        refine Ld_int ci ?_
        refine Ld_sl (s := ss7) ((hN37.pr.cell 1).trans rfl) ?_
        refine ixl ?_
        refine Ld_int ci ?_
        refine IxA_vec hN37.vs (by omega) (by simp; omega) fun a20 ha20 ⟨bs, hbs, hab⟩ => ?_
        rw [Int.toNat_natCast, List.getElem?_map, List.getElem?_eq_getElem hlt7] at ha20
        refine Ld_sl (s := ts7[stg l i]) ha20 ?_
        refine Nw_row fun b6 H41 hb6 hE41 _ hr41 => ?_
        have hN41 := hN37.ext hE41
        have c41 : hcell H41 ⟨bl, i, none⟩ = some (.int .i64 (stg l i : Int)) := hE41.cell ci fun h => h
        have p41 : hcell H41 ⟨p, 1, none⟩ = some (.slice ss7.a ss7.len ss7.cap) := (hN41.pr.cell 1).trans rfl
        refine Stab_all (fun x hx => ?_) ?_
        · simp only [List.mem_cons, List.not_mem_nil, or_false] at hx
          rcases hx with rfl | rfl | rfl | rfl | rfl
          · exact hE41.cell ha20 fun h => h
          · exact c41
          · exact p41
          · exact c41
          · exact p41
        have hvt := hN41.vt _ hlt7
        have hvl := hvt.len
        have ofl : (ofS l i (stg l i)).length ≤ 1000 := by
          unfold ofS
          rw [List.length_map]
          exact Nat.le_trans (List.length_filter_le _ _) (by simp; omega)
        refine App_vec hvt (ws := ints [(i : Int)]) hr41.rd_all rfl (by simp [Value.oneCell']) (by omega) (by simp; omega) fun l5 H42 hv42 hU42 hl42 hs42 => ?_
        have z41 := hE41.size
        have M42 : ∀ b, (ts7[stg l i].a = some (adr b) ∧ ts7[stg l i].len + 1 ≤ ts7[stg l i].cap ∧ ints [(i : Int)] ≠ []) → ∃ vs, Row H41 b T_int vs ∨ Row H41 b T_int vs := fun b e => let ⟨ws, hw⟩ := Vec.rowOf hvt e.1; ⟨ws, .inl hw⟩
        have pr42 := keepR hU42 M42 hN41.pr (by decide) (by decide)
        have bl42 := hU42.row hN41.ar fun e => hN41.na _ hlt7 e.1
        have c42 : hcell H42 ⟨bl, i, none⟩ = some (.int .i64 (stg l i : Int)) := by
          rw [← c41, hN41.ar.cell, bl42.cell]
        have p42 : hcell H42 ⟨p, 1, none⟩ = some (.slice ss7.a ss7.len ss7.cap) := (pr42.cell 1).trans rfl
        refine Stab_all (fun x hx => ?_) ?_
        · simp only [List.mem_cons, List.not_mem_nil, or_false] at hx
          rcases hx with rfl | rfl | rfl | rfl
          · exact c42
          · exact p42
          · exact c42
          · exact p42
        have vs42 := keepV hU42 M42 hN41.vs (by decide) (by decide)
        refine IxA_St_vec' vs42 (j := stg l i) rfl (by simpa using hlt7) fun H43 vs43 hU43 _ => ?_
        rw [Lt_def, wrap_i64_id (by omega) (by omega)]
        have M43 : ∀ b, ss7.a = some (adr b) → ∃ vs, Row H42 b T_Sl_int vs ∨ Row H42 b T_Sl_int vs := fun b e => let ⟨ws, hw⟩ := Vec.rowOf vs42 e; ⟨ws, .inl hw⟩
        have z42 := hU42.size
        have z43 := hU43.size
        have z37 := ext37.size
        have own5 : ∀ b, l5.a = some (adr b) → ts7[stg l i].a = some (adr b) ∨ H41.size ≤ b := fun b hb => by
          rcases hl42 with e | e
          · rw [e] at hb; exact .inl hb
          · rw [e] at hb; cases hb; exact .inr (Nat.le_refl _)
        rw [ints, ints, ← List.map_append] at hv42
        have gs : ∀ s (h : s < (ts7.set (stg l i) l5).length), s ≠ stg l i → (ts7.set (stg l i) l5)[s] = ts7[s]'(by simpa using h) := fun s h hne => List.getElem_set_ne (fun e => hne e.symm) _
        have ge : ∀ s (h : s < (ts7.set (stg l i) l5).length), s = stg l i → (ts7.set (stg l i) l5)[s] = l5 := fun s h he => by subst he; exact List.getElem_set_self _
        refine hnext1 _ _ ⟨i + 1, cs6, ss7, rows ++ [⟨some (adr br), l.length, l.length⟩], ts7.set (stg l i) l5, by omega, by omega, ?_, ?_, by simpa using hcnt7⟩ (by omega)
        · refine (ext37.ext hE41).trans hU42 (fun b hb e => ?_) |>.trans hU43 fun b hb e => ?_
          · have := hN37.ft _ hlt7 b e.1; omega
          · have := hN37.fs b e; omega
        · refine ⟨keepR hU43 M43 pr42 (by decide) (by decide), keepV hU43 M43 (keepV hU42 M42 hN41.vc (by decide) (by decide)) (by decide) (by decide), hN41.rl, fun j hj => keepV hU43 M43 (keepV hU42 M42 (hN41.vr j hj) (by decide) (by decide)) (by decide) (by decide), ?_, fun s hs => ?_, fun s s' hs hs' hne => ?_,
            keepR hU43 M43 bl42 (by decide) (by decide), fun s hs => ?_, hN41.fp, hN41.fc, hN41.fs, fun s hs b hb => ?_, hN41.fr⟩
          · rw [List.map_set]; exact vs43
          · rw [ofS_succ]
            by_cases e : s = stg l i
            · rw [ge s hs e, if_pos e.symm]
              subst e
              exact keepV hU43 M43 hv42 (by decide) (by decide)
            · rw [gs s hs e, if_neg (fun h => e h.symm), List.append_nil]
              have hs' : s < ts7.length := by simpa using hs
              exact keepV hU43 M43 ((hN41.vt s hs').upd hU42 fun b hb e' => hN41.ap s _ hs' hlt7 e b hb e'.1) (by decide) (by decide)
          · have l1 : s < ts7.length := by simpa using hs
            have l2 : s' < ts7.length := by simpa using hs'
            intro b hb hb'
            by_cases e : s = stg l i
            · rw [ge s hs e] at hb
              have e' : s' ≠ stg l i := fun h => hne (e.trans h.symm)
              rw [gs s' hs' e'] at hb'
              rcases own5 b hb with h | h
              · exact hN41.ap _ s' hlt7 l2 (fun h => e' h.symm) b h hb'
              · have := (hN41.vt s' l2).lt hb'; omega
            · rw [gs s hs e] at hb
              by_cases e' : s' = stg l i
              · rw [ge s' hs' e'] at hb'
                rcases own5 b hb' with h | h
                · exact hN41.ap s _ l1 hlt7 e b hb h
                · have := (hN41.vt s l1).lt hb; omega
              · rw [gs s' hs' e'] at hb'
                exact hN41.ap s s' l1 l2 hne b hb hb'
          · by_cases e : s = stg l i
            · rw [ge s hs e]
              intro h
              rcases own5 bl h with h' | h'
              · exact hN41.na _ hlt7 h'
              · have := hN41.ar.lt; omega
            · rw [gs s hs e]; exact hN41.na s (by simpa using hs)
          · by_cases e : s = stg l i
            · rw [ge s hs e] at hb
              rcases own5 b hb with h' | h'
              · exact hN41.ft _ hlt7 b h'
              · omega
            · rw [gs s hs e] at hb; exact hN41.ft s (by simpa using hs) b hb
  · have hin : i = l.length := by omega
    subst hin
    refine hk p H3 (fun H' hz hg => ?_) (by omega) hE3
    have hu : Upd (fun b => b < H.size) H3 H' := ⟨hz, fun b hb hn => hg b (by omega) hb⟩
    have hfp := hN3.fp
    have kv : ∀ {T : TypeId} {s : Sl} {vs : List Value}, Vec H3 T s vs → (∀ b, s.a = some (adr b) → H.size ≤ b) → Vec H' T s vs := fun hv hf => hv.upd hu fun b hb e => by have := hf b hb; omega
    exact ⟨⟨cs, ss, rows, ts, hu.row hN3.pr (by omega), (kv hN3.vc hN3.fc).rl, hN3.rl, fun j hj => (kv (hN3.vr j hj) (hN3.fr j hj)).rl, (kv hN3.vs hN3.fs).rl, hcnt, fun s hs => (kv (hN3.vt s hs) (hN3.ft s hs)).rl⟩⟩
end Go.Proofs.Ytpkpebgpiakbeaa
