/-
  What an instruction takes and puts: of a program's routines.
-/
import Derived.Test.YtfpmgpblhhcpgaaGreatVA
import Derived.Test.YtfpmgpblhhcpgaaGreatVLawA
import Derived.Test.YtfpmgpblhhcpgaaGreatHcLists
namespace Go.Proofs.YtfpmgpblhhcpgaaGreat
set_option linter.unusedVariables false
set_option linter.unusedSimpArgs false
set_option maxRecDepth 100000
section
open Hc Hc.Vf
structure Rou where
  name : ByteArray
  params : Int
  locals : Int
  sl : Sl
  code : List Ins
instance : Inhabited Sl := ⟨⟨none, 0, 0⟩⟩
instance : Inhabited Rou := ⟨⟨ByteArray.empty, 0, 0, ⟨none, 0, 0⟩, []⟩⟩
abbrev rouV (r : Rou) : List Value := [.string r.name, .int .i64 r.params, .int .i64 r.locals, slV r.sl]
abbrev insV (i : Ins) : List Value := [.int .i64 i.1, .int .i64 i.2]
theorem rouV_len (r : Rou) : (rouV r).length = 4 := rfl
theorem insV_len (i : Ins) : (insV i).length = 2 := rfl
abbrev parms (fs : List Rou) : List Int := fs.map (·.params)
theorem Br_not {x : Bool} {X Y : Prop} (h : Br x Y X) : Br (!x) X Y := by cases x <;> exact h
theorem parms_get {fs : List Rou} {j : Nat} (h : j < fs.length) : (parms fs)[j]! = (fs[j]!).params := by
  rw [getElem!_pos (parms fs) j (by simpa using h), getElem!_pos fs j h]; simp
theorem s_Effect {H : Heap} {i : Ins} {funcs : Sl} {fs : List Rou} (hf : RN rouV 4 H funcs fs) {k : Int × Int → Heap → Prop} (hk : ∀ H', Ext H H' → k (takes (parms fs) i, puts i) H') :
    CallT Pg f_code_Effect [.agg #[.int .i64 i.1, .int .i64 i.2], .slice funcs.a funcs.len funcs.cap] (.tup [(.c (.int .i64)), (.c (.int .i64))]) H k := by
  refine c_code_Effect _ _ ?_
  unfold v_code_Effect
  refine Nw_row (vs := insV i) fun b1 H1 hb1 hE1 hz1 hr1 => ?_
  simp only [adr_add]
  refine Ld_int ((hr1.cell 0).trans rfl) (s_isOp (Br_not (Br.mk (fun hop => ?_) fun hop => ?_)))
  · refine Ld_int ((hr1.cell 0).trans rfl) (s_shapeOf fun H3 w hE3 _ => ?_)
    have hE3' := hE1.trans hE3 fun _ _ h => h
    refine Nw_row (vs := [.string ByteArray.empty, .bool false, .int .i64 0, .int .i64 0, .int .i64 0]) fun b2 H4 hb2 hE4 hz4 hr4 => ?_
    refine St_row hr4 (by simp) fun H5 hU5 _ hr5 => St_row hr5 (by simp) fun H6 hU6 _ hr6 => St_row hr6 (by simp) fun H7 hU7 _ hr7 => St_row hr7 (by simp) fun H8 hU8 _ hr8 => St_row hr8 (by simp) fun H9 hU9 _ hr9 => ?_
    have z3 := hE3'.size
    have hU : Upd (· = b2) H4 H9 := (((hU5.trans hU6 fun _ _ h => h).trans hU7 fun _ _ h => h).trans hU8 fun _ _ h => h).trans hU9 fun _ _ h => h
    have hE9 : Ext H H9 := extUpd (hE3'.trans hE4 fun _ _ h => h) (by omega) hU
    have hshp : shp i.1 = (numB i.1, (tbl[i.1.toNat]!).1, (tbl[i.1.toNat]!).2.1, (((tbl[i.1.toNat]!).2.2 : Nat) : Int)) := by unfold shp; rw [if_pos hop]
    rw [hshp] at hr9
    dsimp only at hr9
    have hI : Row H9 b1 T_api_Instr (insV i) := hU.row (hE4.row (hE3.row hr1 fun h => h) fun h => h) (by have := hr1.lt; have := hE3.size; omega)
    have hfx := (hf.ext hE9)
    have hx1 : hcell H9 ⟨b1, 1, none⟩ = some (.int .i64 i.2) := (hI.cell 1).trans rfl
    have hy4 : hcell H9 ⟨b2, 4, none⟩ = some (.int .i64 ((tbl[i.1.toNat]!).2.2 : Nat)) := (hr9.cell 4).trans rfl
    have htk : takes (parms fs) i = (if (tbl[i.1.toNat]!).2.2 = 1 then (if 0 ≤ i.2 ∧ i.2 < (parms fs).length then max ((parms fs)[i.2.toNat]!) 0 else 0)
     else if (tbl[i.1.toNat]!).2.2 = 2 then (if 0 ≤ i.2 then i.2 % 8 else 0)
     else (tbl[i.1.toNat]!).1) := by unfold takes; rw [if_pos hop]
    have hpt : puts i = (tbl[i.1.toNat]!).2.1 := by unfold puts; rw [if_pos hop]
    have hby : ∀ r ∈ tbl, r.2.2 = 1 ∨ r.2.2 = 2 → r.1 = 0 := by decide
    have hby0 := hby _ (tbl_get hop)
    generalize tbl[i.1.toNat]! = row at *
    rw [List.length_map] at htk
    refine Jn.mk (fun _ H' => Upd (· = b2) H9 H' ∧ hcell H' ⟨b2, 2, none⟩ = some (.int .i64 (takes (parms fs) i)) ∧ hcell H' ⟨b2, 3, none⟩ = some (.int .i64 (puts i))) (fun kk hkk => ?_) ?_
    · have hsame : takes (parms fs) i = row.1 → kk () H9 := fun e => hkk _ _ ⟨.refl _ _, by rw [e]; exact (hr9.cell 2).trans rfl, by rw [hpt]; exact (hr9.cell 3).trans rfl⟩
      have hput : ∀ x, takes (parms fs) i = x → St ⟨b2, 2, none⟩ (.int .i64 x) H9 fun H13 => kk () H13 := fun x e => St_row hr9 (by simp) fun H13 hU13 _ hr13 => hkk _ _ ⟨hU13, by rw [e]; exact (hr13.cell 2).trans rfl, by rw [hpt]; exact (hr13.cell 3).trans rfl⟩
      refine Jn.mk (fun j H' => H9 = H' ∧ j = decide (row.2.2 = 1 ∧ 0 ≤ i.2 ∧ i.2 < funcs.len)) (fun kk2 hkk2 => ?_) ?_
      · refine Ld_int hy4 (Br.mk (fun h => ?_) fun h => hkk2 _ _ ⟨rfl, ?_⟩)
        · have h := beqI h
          refine Ld_int hx1 (Br_dec (fun h2 => Ld_int hx1 (hkk2 _ _ ⟨rfl, ?_⟩)) fun h2 => hkk2 _ _ ⟨rfl, (decide_eq_false (by omega)).symm⟩)
          exact decide_eq_decide.2 (by omega)
        · have h := bneI h
          exact (decide_eq_false (by omega)).symm
      rintro j _ ⟨rfl, rfl⟩
      refine Jn_in (Br_dec (fun h => ?_) fun h => ?_)
      · obtain ⟨h1, h2, h3⟩ := h
        rw [hf.len] at h3
        have hj : i.2.toNat < fs.length := by omega
        refine Ld_int hx1 (IxA_rn' rouV_len hfx (by omega) (j := i.2.toNat) (by omega) hj fun a ha => Ld_int (n := (fs[i.2.toNat]!).params) ha.2.1 (hput _ ?_))
        rw [htk, if_pos h1, if_pos ⟨h2, by omega⟩, parms_get hj]
        split <;> omega
      · refine Jn.mk (fun j H' => H9 = H' ∧ j = decide (row.2.2 = 2 ∧ 0 ≤ i.2)) (fun kk4 hkk4 => ?_) ?_
        · refine Ld_int hy4 (Br.mk (fun h => ?_) fun h => hkk4 _ _ ⟨rfl, ?_⟩)
          · have h := beqI h
            exact Ld_int hx1 (hkk4 _ _ ⟨rfl, decide_eq_decide.2 (by omega)⟩)
          · have h := bneI h
            exact (decide_eq_false (by omega)).symm
        rintro j _ ⟨rfl, rfl⟩
        refine Jn_in (Br_dec (fun h5 => ?_) fun h5 => hsame ?_)
        · refine Ld_int hx1 ⟨by decide, ?_⟩
          rw [Int.tmod_eq_emod_of_nonneg h5.2]
          refine hput _ ?_
          rw [htk, if_neg (by omega), if_pos h5.1, if_pos h5.2]
        · rw [htk]
          rw [hf.len] at h
          by_cases e1 : row.2.2 = 1
          · rw [if_pos e1, if_neg (by omega), hby0 (.inl e1)]
          · rw [if_neg e1]
            by_cases e2 : row.2.2 = 2
            · rw [if_pos e2, if_neg (by omega), hby0 (.inr e2)]
            · rw [if_neg e2]
    · rintro _ H10 ⟨hU10, h2, h3⟩
      exact Ld_int h2 (Ld_int h3 (hk _ (extUpd hE9 (by omega) hU10)))
  · have h1 : takes (parms fs) i = 0 := by unfold takes; rw [if_neg (by rw [hop]; simp)]
    have h2 : puts i = 0 := by unfold puts; rw [if_neg (by rw [hop]; simp)]
    have := hk H1 hE1
    rwa [h1, h2] at this
def refL : List (ByteArray × Bool × Int × Int) :=
  [(⟨⟨[]⟩⟩, false, 0, 0), (⟨⟨[112, 117, 115, 104]⟩⟩, true, 0, 1), (⟨⟨[108, 111, 97, 100]⟩⟩, true, 0, 1), (⟨⟨[115, 116, 111, 114, 101]⟩⟩, true, 1, 0), (⟨⟨[102, 105, 101, 108, 100]⟩⟩, true, 0, 1), (⟨⟨[112, 117, 116]⟩⟩, true, 1, 0), (⟨⟨[97, 100, 100]⟩⟩, false, 2, 1), (⟨⟨[115, 117, 98]⟩⟩, false, 2, 1), (⟨⟨[109, 117, 108]⟩⟩, false, 2, 1), (⟨⟨[100, 105, 118]⟩⟩, false, 2, 1), (⟨⟨[114, 101, 109]⟩⟩, false, 2, 1), (⟨⟨[110, 101, 103]⟩⟩, false, 1, 1), (⟨⟨[101, 113]⟩⟩, false, 2, 1), (⟨⟨[110, 101]⟩⟩, false, 2, 1), (⟨⟨[108, 116]⟩⟩, false, 2, 1), (⟨⟨[108, 101]⟩⟩, false, 2, 1), (⟨⟨[103, 116]⟩⟩, false, 2, 1), (⟨⟨[103, 101]⟩⟩, false, 2, 1), (⟨⟨[110, 111, 116]⟩⟩, false, 1, 1), (⟨⟨[106, 117, 109, 112]⟩⟩, true, 0, 0), (⟨⟨[122, 101, 114, 111]⟩⟩, true, 1, 0), (⟨⟨[99, 97, 108, 108]⟩⟩, true, (-1), 1), (⟨⟨[114, 101, 116]⟩⟩, false, 1, 0), (⟨⟨[115, 116, 111, 112]⟩⟩, false, 0, 0), (⟨⟨[115, 116, 101, 112]⟩⟩, false, 0, 0), (⟨⟨[101, 109, 105, 116]⟩⟩, false, 2, 0), (⟨⟨[112, 97, 114, 116]⟩⟩, true, (-2), 0), (⟨⟨[115, 112, 97, 119, 110]⟩⟩, false, 0, 0), (⟨⟨[103, 105, 118, 101]⟩⟩, true, (-2), 0), (⟨⟨[116, 97, 107, 101]⟩⟩, true, 0, 0), (⟨⟨[100, 105, 101]⟩⟩, false, 0, 0), (⟨⟨[114, 97, 110, 100]⟩⟩, false, 1, 1), (⟨⟨[116, 105, 99, 107]⟩⟩, false, 0, 1), (⟨⟨[109, 101]⟩⟩, false, 0, 1), (⟨⟨[105, 110, 112, 117, 116]⟩⟩, false, 2, 1), (⟨⟨[104, 97, 115]⟩⟩, true, 0, 1), (⟨⟨[109, 105, 110]⟩⟩, false, 2, 1), (⟨⟨[109, 97, 120]⟩⟩, false, 2, 1), (⟨⟨[97, 98, 115]⟩⟩, false, 1, 1), (⟨⟨[100, 114, 111, 112]⟩⟩, false, 1, 0)]
abbrev refV (r : ByteArray × Bool × Int × Int) : List Value := [.string r.1, .bool r.2.1, .int .i64 r.2.2.1, .int .i64 r.2.2.2]
theorem refV_len (r : ByteArray × Bool × Int × Int) : (refV r).length = 4 := rfl
theorem ref_ok : ∀ n : Nat, n < 40 → (refL[n]!).2.2 = (if (tbl[n]!).2.2 = 1 then -1 else if (tbl[n]!).2.2 = 2 then -2 else (tbl[n]!).1, (tbl[n]!).2.1) := by decide
theorem s_table {H : Heap} {k : Sl → Heap → Prop} (hk : ∀ r H', Ext H H' → RN refV 4 H' r refL → k r H') : CallT Pg f_R_table [] (.one (.c .sl)) H k := by
  refine c_R_table ?_
  unfold v_R_table
  refine Nw_row (vs := refL.flatMap refV) fun b H1 hb hE _ hr => hk _ _ hE ⟨?_, rfl, Nat.le_refl _⟩
  exact hr.rd_all
theorem s_rEffect {H : Heap} {i : Ins} {funcs : Sl} {fs : List Rou} (hf : RN rouV 4 H funcs fs) {k : Int × Int → Heap → Prop} (hk : ∀ H', Ext H H' → k (takes (parms fs) i, puts i) H') :
    CallT Pg f_R_Effect [.agg #[.int .i64 i.1, .int .i64 i.2], .slice funcs.a funcs.len funcs.cap] (.tup [(.c (.int .i64)), (.c (.int .i64))]) H k := by
  refine c_R_Effect _ _ ?_
  unfold v_R_Effect
  refine Nw_row (vs := insV i) fun b1 H1 hb1 hE1 hz1 hr1 => ?_
  simp only [adr_add]
  refine Ld_int ((hr1.cell 0).trans rfl) (s_rIsOp (Br_not (Br.mk (fun hop => ?_) fun hop => ?_)))
  · refine Ld_int ((hr1.cell 0).trans rfl) ?_
    have hop2 : 1 ≤ i.1 ∧ i.1 ≤ 39 := of_decide_eq_true hop
    have hn : i.1.toNat < 40 := by omega
    have hro := ref_ok _ hn
    have htk : takes (parms fs) i = (if (tbl[i.1.toNat]!).2.2 = 1 then (if 0 ≤ i.2 ∧ i.2 < (parms fs).length then max ((parms fs)[i.2.toNat]!) 0 else 0)
     else if (tbl[i.1.toNat]!).2.2 = 2 then (if 0 ≤ i.2 then i.2 % 8 else 0)
     else (tbl[i.1.toNat]!).1) := by unfold takes; rw [if_pos hop]
    have hpt : puts i = (tbl[i.1.toNat]!).2.1 := by unfold puts; rw [if_pos hop]
    have hbd := tbl_bd _ (tbl_get hop)
    generalize tbl[i.1.toNat]! = row at *
    rw [List.length_map] at htk
    generalize hrr : refL[i.1.toNat]! = rr at *
    obtain ⟨w, na, t', p'⟩ := rr
    dsimp only at hro
    simp only [Prod.mk.injEq] at hro
    obtain ⟨ht', hp'⟩ := hro
    -- behind the table
    have tail : ∀ (H8 : Heap) (b2 : Nat), Ext H H8 → Row H8 b1 T_api_Instr (insV i) → Row H8 b2 T_hindcastref13_row [.string w, .bool na, .int .i64 t', .int .i64 p'] →
        Ld (.int .i64) ⟨b2, 2, none⟩ H8 fun (x3 : Int) =>
        Br (x3 == (-1)) (
          Jn (σ := Bool) (fun kk1 =>
            Ld (.int .i64) ⟨b1, 1, none⟩ H8 fun (x4 : Int) =>
            Br (decide (x4 < 0)) (
              kk1 true H8) (
              Ld (.int .i64) ⟨b1, 1, none⟩ H8 fun (x5 : Int) =>
              Br (decide (x5 ≥ (funcs.len : Int))) (
                kk1 true H8) (
                Ld (.int .i64) ⟨b1, 1, none⟩ H8 fun (x6 : Int) =>
                IxA 4 funcs x6 fun a2 =>
                Ld (.int .i64) (a2.add 1) H8 fun (x7 : Int) =>
                kk1 (decide (x7 < 0)) H8))) fun j1 H9 =>
          Br j1 (
            Ld (.int .i64) ⟨b2, 3, none⟩ H9 fun (x8 : Int) =>
            k (0, x8) H9) (
            Ld (.int .i64) ⟨b1, 1, none⟩ H9 fun (x9 : Int) =>
            IxA 4 funcs x9 fun a3 =>
            Ld (.int .i64) (a3.add 1) H9 fun (x10 : Int) =>
            Ld (.int .i64) ⟨b2, 3, none⟩ H9 fun (x11 : Int) =>
            k (x10, x11) H9)) (
          Ld (.int .i64) ⟨b2, 2, none⟩ H8 fun (x12 : Int) =>
          Br (x12 == (-2)) (
            Ld (.int .i64) ⟨b1, 1, none⟩ H8 fun (x13 : Int) =>
            Br (decide (x13 < 0)) (
              Ld (.int .i64) ⟨b2, 3, none⟩ H8 fun (x14 : Int) =>
              k (0, x14) H8) (
              Ld (.int .i64) ⟨b1, 1, none⟩ H8 fun (x15 : Int) =>
              Rem x15 8 fun t1 =>
              Ld (.int .i64) ⟨b2, 3, none⟩ H8 fun (x16 : Int) =>
              k (t1, x16) H8)) (
            Ld (.int .i64) ⟨b2, 2, none⟩ H8 fun (x17 : Int) =>
            Ld (.int .i64) ⟨b2, 3, none⟩ H8 fun (x18 : Int) =>
            k (x17, x18) H8)) := by
      intro H8 b2 hE8 hI hr8
      have hfx := hf.ext hE8
      have hx1 : hcell H8 ⟨b1, 1, none⟩ = some (.int .i64 i.2) := (hI.cell 1).trans rfl
      have hy2 : hcell H8 ⟨b2, 2, none⟩ = some (.int .i64 t') := (hr8.cell 2).trans rfl
      have hy3 : hcell H8 ⟨b2, 3, none⟩ = some (.int .i64 p') := (hr8.cell 3).trans rfl
      have hk8 := hk H8 hE8
      rw [hpt, ← hp'] at hk8
      refine Ld_int hy2 (Br.mk (fun h => ?_) fun h => ?_)
      · have h := beqI h
        have e1 : row.2.2 = 1 := by
          by_cases e : row.2.2 = 1
          · exact e
          · rw [if_neg e] at ht'
            split at ht' <;> omega
        rw [htk, if_pos e1] at hk8
        refine Jn.mk (fun j H' => H8 = H' ∧ j = decide (¬ (0 ≤ i.2 ∧ i.2 < fs.length ∧ 0 ≤ (fs[i.2.toNat]!).params))) (fun kk hkk => ?_) ?_
        · have hfl := hf.len
          refine Ld_int hx1 (Br_dec (fun h1 => hkk _ _ ⟨rfl, (decide_eq_true (by omega)).symm⟩) fun h1 => Ld_int hx1 (Br_dec (fun h2 => hkk _ _ ⟨rfl, (decide_eq_true (by omega)).symm⟩) fun h2 => ?_))
          refine Ld_int hx1 (IxA_rn' rouV_len hfx (by omega) (j := i.2.toNat) (by omega) (by omega) fun a ha => Ld_int (n := (fs[i.2.toNat]!).params) ha.2.1 (hkk _ _ ⟨rfl, ?_⟩))
          exact decide_eq_decide.2 (by omega)
        rintro j _ ⟨rfl, rfl⟩
        refine Br_dec (fun h1 => Ld_int hy3 ?_) fun h1 => ?_
        · have : (if 0 ≤ i.2 ∧ i.2 < (fs.length : Int) then max (parms fs)[i.2.toNat]! 0 else 0) = 0 := by
            split
            · rename_i h2
              rw [parms_get (by omega)]
              omega
            · rfl
          rw [this] at hk8; exact hk8
        · have h1 : 0 ≤ i.2 ∧ i.2 < (fs.length : Int) ∧ 0 ≤ (fs[i.2.toNat]!).params := Classical.byContradiction h1
          refine Ld_int hx1 (IxA_rn' rouV_len hfx (by omega) (j := i.2.toNat) (by omega) (by omega) fun a ha => Ld_int (n := (fs[i.2.toNat]!).params) ha.2.1 (Ld_int hy3 ?_))
          rw [if_pos ⟨h1.1, h1.2.1⟩, parms_get (by omega), Int.max_eq_left h1.2.2] at hk8
          exact hk8
      · have h := bneI h
        have e1 : row.2.2 ≠ 1 := fun e => by rw [if_pos e] at ht'; exact h ht'
        rw [if_neg e1] at ht'
        rw [htk, if_neg e1] at hk8
        refine Ld_int hy2 (Br.mk (fun h3 => ?_) fun h3 => ?_)
        · have h3 := beqI h3
          have e2 : row.2.2 = 2 := by
            by_cases e : row.2.2 = 2
            · exact e
            · rw [if_neg e] at ht'; omega
          rw [if_pos e2] at hk8
          refine Ld_int hx1 (Br_dec (fun h4 => Ld_int hy3 ?_) fun h4 => Ld_int hx1 ⟨by decide, Ld_int hy3 ?_⟩)
          · rw [if_neg (by omega)] at hk8; exact hk8
          · rw [if_pos (by omega)] at hk8
            rw [Int.tmod_eq_emod_of_nonneg (by omega)]; exact hk8
        · have h3 := bneI h3
          have e2 : row.2.2 ≠ 2 := fun e => by rw [if_pos e] at ht'; exact h3 ht'
          rw [if_neg e2] at ht' hk8
          refine Ld_int hy2 (Ld_int hy3 ?_)
          rw [ht']; exact hk8
    refine ⟨s_table fun r2 H3 hE3 hT => ?_, Nw_row (vs := [.string ByteArray.empty, .bool false, .int .i64 0, .int .i64 0]) fun b3 H10 hb3 hE10 hz10 hr10 => ?_, trivial⟩
    · have hI3 := hE3.row hr1 fun h => h
      have hE3' := hE1.trans hE3 fun _ _ h => h
      refine Stab_1 ((hI3.cell 0).trans rfl) (IxA_rn' refV_len hT (by omega) (j := i.1.toNat) (by omega) hn fun a ha => ?_)
      rw [hrr] at ha
      refine ⟨(w, na, t', p'), ha, Nw_row (vs := [.string ByteArray.empty, .bool false, .int .i64 0, .int .i64 0]) fun b2 H4 hb2 hE4 hz4 hr4 => ?_⟩
      have hI4 := hE4.row hI3 fun h => h
      have ha4 : hcells H4 a 0 (refV (w, na, t', p')) := hcells_upd hE4 (fun h => h) ha
      refine Stab_all (fun x hx => ?_) ?_
      · simp only [List.mem_cons, List.not_mem_nil, or_false] at hx
        rcases hx with rfl | rfl | rfl | rfl | rfl
        · exact ha4.1
        · exact ha4.2.1
        · exact ha4.2.2.1
        · exact ha4.2.2.2.1
        · exact (hI4.cell 0).trans rfl
      refine St_row hr4 (by simp) fun H5 hU5 _ hr5 => St_row hr5 (by simp) fun H6 hU6 _ hr6 => St_row hr6 (by simp) fun H7 hU7 _ hr7 => St_row hr7 (by simp) fun H8 hU8 _ hr8 => ?_
      have hU : Upd (· = b2) H4 H8 := ((hU5.trans hU6 fun _ _ h => h).trans hU7 fun _ _ h => h).trans hU8 fun _ _ h => h
      have z3 := hE3'.size
      exact tail H8 b2 (extUpd (hE3'.trans hE4 fun _ _ h => h) (by omega) hU) (hU.row hI4 (by have := hI3.lt; omega)) hr8
    · have hI10 := hE10.row hr1 fun h => h
      have hE10' := hE1.trans hE10 fun _ _ h => h
      refine Stab_1 ((hI10.cell 0).trans rfl) (s_table fun r3 H11 hE11 hT => ?_)
      have hI11 := hE11.row hI10 fun h => h
      have hr11 := hE11.row hr10 fun h => h
      refine Stab_1 ((hI11.cell 0).trans rfl) (IxA_rn' refV_len hT (by omega) (j := i.1.toNat) (by omega) hn fun a ha => ?_)
      rw [hrr] at ha
      refine ⟨(w, na, t', p'), ha, ?_⟩
      refine St_row hr11 (by simp) fun H5 hU5 _ hr5 => St_row hr5 (by simp) fun H6 hU6 _ hr6 => St_row hr6 (by simp) fun H7 hU7 _ hr7 => St_row hr7 (by simp) fun H8 hU8 _ hr8 => ?_
      have hU : Upd (· = b3) H11 H8 := ((hU5.trans hU6 fun _ _ h => h).trans hU7 fun _ _ h => h).trans hU8 fun _ _ h => h
      have z1 := hE1.size
      exact tail H8 b3 (extUpd (hE10'.trans hE11 fun _ _ h => h) (by omega) hU) (hU.row hI11 (by have := hr1.lt; omega)) hr8
  · have h1 : takes (parms fs) i = 0 := by unfold takes; rw [if_neg (by rw [hop]; simp)]
    have h2 : puts i = 0 := by unfold puts; rw [if_neg (by rw [hop]; simp)]
    have := hk H1 hE1
    rwa [h1, h2] at this
end
section
open Hc Hc.Dice
theorem s_dice_Mix (x : Int) {H : Heap} {k : Int → Heap → Prop} (hk : k (mixI x) H) : CallT Pg f_dice_Mix [.int .u64 x] (.one (.c (.int .u64))) H k := by
  apply c_dice_Mix
  exact ⟨by decide, by decide, by decide, hk⟩
theorem s_ref_Mix (x : Int) {H : Heap} {k : Int → Heap → Prop} (hk : k (mixI x) H) : CallT Pg f_R_Mix [.int .u64 x] (.one (.c (.int .u64))) H k := by
  apply c_R_Mix
  exact ⟨by decide, by decide, by decide, hk⟩
def DieP (H : Heap) (p : Nat) (s : Int) : Prop := H[p]? = some (.cells #[.int .u64 s] T_dice_Dice (0, 0))
def DieR (H : Heap) (p : Nat) (s : Int) : Prop := H[p]? = some (.cells #[.int .u64 s] T_hindcastref08_Dice (0, 0))
theorem s_dice_Next {p : Nat} {s : Int} {H : Heap} {k : Int → Heap → Prop} (hp : DieP H p s)
    (hk : ∀ H', Upd (· = p) H H' → DieP H' p (nextS s) → k (mixI s) H') : CallT Pg f_dice_Dice_Next [.pointer (some (adr p))] (.one (.c (.int .u64))) H k := by
  apply c_dice_Dice_Next
  unfold v_dice_Dice_Next
  have hc : hcell H (adr p) = some (.int .u64 s) := by rw [cell_blk hp]; rfl
  simp only [NilCk_some, Lt_def]
  refine Ld_int hc (Ld_int hc ?_)
  refine St_blk hp (by simp) fun H' hU hs hp' => ?_
  refine s_dice_Mix s (hk H' hU hp')
theorem s_ref_Next {p : Nat} {s : Int} {H : Heap} {k : Int → Heap → Prop} (hp : DieR H p s)
    (hk : ∀ H', Upd (· = p) H H' → DieR H' p (nextS s) → k (mixI s) H') : CallT Pg f_R_Dice_Next [.pointer (some (adr p))] (.one (.c (.int .u64))) H k := by
  apply c_R_Dice_Next
  unfold v_R_Dice_Next
  have hc : hcell H (adr p) = some (.int .u64 s) := by rw [cell_blk hp]; rfl
  simp only [NilCk_some, Lt_def]
  refine Ld_int hc (s_ref_Mix s (Ld_int hc ?_))
  refine St_blk hp (by simp) fun H' hU hs hp' => hk H' hU hp'
theorem s_dice_below {p : Nat} {s n : Int} {H : Heap} {k : Int → Heap → Prop} (hp : DieP H p s) (h0 : 0 ≤ s) (h1 : s < 18446744073709551616) (hn : 1 ≤ n) (hn' : n < 9223372036854775808)
    (hk : ∀ H', Upd (· = p) H H' → DieP H' p (belowS s n) → k (belowR s n) H') : CallT Pg f_dice_Dice_below [.pointer (some (adr p)), .int .u64 n] (.one (.c (.int .u64))) H k := by
  apply c_dice_Dice_below
  unfold v_dice_Dice_below
  refine ⟨by omega, ?_⟩
  simp only [Lt_def]
  have hf := fallJ_spec s (mB n) h0 h1 (mB_pos n hn hn')
  refine LoopT.ghost (fun m _ H' => ∃ j, j + m = fallJ s (mB n) ∧ Upd (· = p) H H' ∧ DieP H' p (itS s j)) (fallJ s (mB n)) ⟨0, by omega, .refl _ _, hp⟩ ?_
  rintro next m _ H1 ⟨j, hj, hU, hp1⟩ hnext
  refine s_dice_Next hp1 fun H2 hU2 hp2 => ?_
  have hU' : Upd (· = p) H H2 := hU.trans hU2 fun _ _ h => h
  refine Br_dec (fun hlt => ?_) fun hge => ?_
  · have : j = fallJ s (mB n) := Falls.unique ⟨hlt, fun i hi => hf.2 i (by omega)⟩ hf
    subst this
    exact ⟨by omega, hk H2 hU' hp2⟩
  · have hne : j ≠ fallJ s (mB n) := fun e => hge (by rw [e]; exact hf.1)
    exact hnext (m - 1) () H2 (by omega) ⟨j + 1, by omega, hU', hp2⟩
theorem s_dice_Below {p : Nat} {s n : Int} {H : Heap} {k : Int → Heap → Prop} (hp : DieP H p s) (h0 : 0 ≤ s) (h1 : s < 18446744073709551616) (hn : I64 n)
    (hk : ∀ H', Upd (· = p) H H' → DieP H' p (BelowF s n).2 → k (BelowF s n).1 H') : CallT Pg f_dice_Dice_Below [.pointer (some (adr p)), .int .i64 n] (.one (.c (.int .i64))) H k := by
  apply c_dice_Dice_Below
  unfold v_dice_Dice_Below
  unfold BelowF at hk
  refine Br_dec (fun hlt => ?_) fun hge => ?_
  · simp only [hlt, if_true] at hk
    exact s_dice_Next hp hk
  · simp only [hge, if_false] at hk
    rw [wrap_u64_id (by omega) (by unfold I64 at hn; omega)]
    refine s_dice_below hp h0 h1 (by omega) hn.2 fun H' hU hp' => ?_
    have := belowR_bd s n (by omega)
    rw [wrap_i64_id (by omega) (by unfold I64 at hn; omega)]
    exact hk H' hU hp'
theorem s_ref_Below {p : Nat} {s n : Int} {H : Heap} {k : Int → Heap → Prop} (hp : DieR H p s) (h0 : 0 ≤ s) (h1 : s < 18446744073709551616) (hn : I64 n)
    (hk : ∀ H', Upd (· = p) H H' → DieR H' p (BelowF s n).2 → k (BelowF s n).1 H') : CallT Pg f_R_Dice_Below [.pointer (some (adr p)), .int .i64 n] (.one (.c (.int .i64))) H k := by
  apply c_R_Dice_Below
  unfold v_R_Dice_Below
  unfold BelowF at hk
  refine Br_dec (fun hlt => ?_) fun hge => ?_
  · simp only [hlt, if_true] at hk
    exact s_ref_Next hp hk
  · simp only [hge, if_false] at hk
    unfold I64 at hn
    rw [wrap_u64_id (by omega) (by omega)]
    refine ⟨by omega, ?_⟩
    simp only [Lt_def]
    have hf := fallJ_spec s (mB n) h0 h1 (mB_pos n (by omega) hn.2)
    refine LoopT.ghost (fun m _ H' => ∃ j, j + m = fallJ s (mB n) ∧ Upd (· = p) H H' ∧ DieR H' p (itS s j)) (fallJ s (mB n)) ⟨0, by omega, .refl _ _, hp⟩ ?_
    rintro next m _ H1 ⟨j, hj, hU, hp1⟩ hnext
    refine s_ref_Next hp1 fun H2 hU2 hp2 => ?_
    have hU' : Upd (· = p) H H2 := hU.trans hU2 fun _ _ h => h
    refine Br_dec (fun hlt => ?_) fun hge => ?_
    · have : j = fallJ s (mB n) := Falls.unique ⟨hlt, fun i hi => hf.2 i (by omega)⟩ hf
      subst this
      have := belowR_bd s n (by omega)
      refine ⟨by omega, ?_⟩
      have e : IntKind.wrap .i64 ((mixI (itS s (fallJ s (mB n)))).tmod n) = belowR s n := wrap_i64_id (x := belowR s n) (by omega) (by omega)
      dsimp only
      rw [e]
      exact hk H2 hU' hp2
    · have hne : j ≠ fallJ s (mB n) := fun e => hge (by rw [e]; exact hf.1)
      exact hnext (m - 1) () H2 (by omega) ⟨j + 1, by omega, hU', hp2⟩
theorem s_dice_New (a b c d : Int) {H : Heap} {k : Option Addr → Heap → Prop} (hk : ∀ H', Ext H H' → DieP H' H.size (newS a b c d) → k (some (adr H.size)) H') :
    CallT Pg f_dice_New [.int .i64 a, .int .i64 b, .int .i64 c, .int .i64 d] (.one (.c .ptr)) H k := by
  apply c_dice_New
  unfold v_dice_New
  refine s_dice_Mix _ ?_
  refine LoopT.mk (fun s H' => H' = H ∧ ∃ j : Nat, j ≤ 3 ∧ s.2 = j ∧ s.1 = newIt a b c d j) (fun s _ => (3 - s.2).toNat) ⟨rfl, 0, by omega, rfl, rfl⟩ ?_
  rintro next ⟨st, i⟩ _ ⟨rfl, j, hj, hi, hst⟩ hnext
  dsimp only at hi hst ⊢
  subst hi hst
  refine Br_dec (fun hlt => ?_) fun hge => ?_
  · simp only [Lt_def]
    have e : IntKind.wrap .i64 ((j : Int) + 1) = ((j + 1 : Nat) : Int) := by rw [wrap_i64]; omega
    have : j = 0 ∨ j = 1 ∨ j = 2 := by omega
    rcases this with rfl | rfl | rfl
    · refine ⟨b, by omega, by omega, rfl, ?_⟩
      refine s_dice_Mix _ ?_
      exact hnext _ _ ⟨rfl, 1, by omega, e, rfl⟩ (by dsimp only; omega)
    · refine ⟨c, by omega, by omega, rfl, ?_⟩
      refine s_dice_Mix _ ?_
      exact hnext _ _ ⟨rfl, 2, by omega, e, rfl⟩ (by dsimp only; omega)
    · refine ⟨d, by omega, by omega, rfl, ?_⟩
      refine s_dice_Mix _ ?_
      exact hnext _ _ ⟨rfl, 3, by omega, e, rfl⟩ (by dsimp only; omega)
  · have : j = 3 := by omega
    subst this
    refine Nw_blk fun b' H' hb hE _ hblk => ?_
    subst hb
    exact hk H' hE hblk
theorem s_ref_New (a b c d : Int) {H : Heap} {k : Option Addr → Heap → Prop} (hk : ∀ H', Ext H H' → DieR H' H.size (newS a b c d) → k (some (adr H.size)) H') :
    CallT Pg f_R_New [.int .i64 a, .int .i64 b, .int .i64 c, .int .i64 d] (.one (.c .ptr)) H k := by
  apply c_R_New
  unfold v_R_New
  simp only [Lt_def]
  refine s_ref_Mix _ ?_
  refine s_ref_Mix _ ?_
  refine s_ref_Mix _ ?_
  refine s_ref_Mix _ ?_
  refine Nw_blk fun b' H' hb hE _ hblk => ?_
  subst hb
  exact hk H' hE hblk
end
end Go.Proofs.YtfpmgpblhhcpgaaGreat
namespace Go.Proofs.YtfpmgpblhhcpgaaGreat.Hc
set_option linter.unusedVariables false
set_option linter.unusedSimpArgs false
set_option maxRecDepth 100000
structure VecO (H : Heap) (T : TypeId) (n : Nat) (s : Sl) (vs : List Value) : Prop where
  len : vs.length = s.len * n
  own : (s.a = none ∧ s.cap = 0 ∧ vs = []) ∨ ∃ (b : Nat) (pre sp : List Value), s.a = some ⟨b, pre.length, none⟩ ∧ Row H b T (pre ++ vs ++ sp) ∧ s.cap * n ≤ vs.length + sp.length
  lc : s.len ≤ s.cap
theorem VecO.upd {M : Nat → Prop} {H H' : Heap} (hu : Upd M H H') {T : TypeId} {n : Nat} {s : Sl} {vs : List Value} (h : VecO H T n s vs) (hn : ∀ a, s.a = some a → ¬ M a.block) : VecO H' T n s vs := by
  refine ⟨h.len, ?_, h.lc⟩
  rcases h.own with h1 | ⟨b, pre, sp, h1, h2, h3⟩
  · exact .inl h1
  · exact .inr ⟨b, pre, sp, h1, hu.row h2 (hn _ h1), h3⟩
theorem VecO.ext {H H' : Heap} (hu : Ext H H') {T : TypeId} {n : Nat} {s : Sl} {vs : List Value} (h : VecO H T n s vs) : VecO H' T n s vs := h.upd hu fun _ _ h => h
theorem VecO.ne {H : Heap} {T T' : TypeId} {n : Nat} {s : Sl} {vs ws : List Value} (h : VecO H T n s vs) {a : Addr} (ha : s.a = some a) {b : Nat} (h' : Row H b T' ws) (ht : T ≠ T') : a.block ≠ b := by
  rcases h.own with ⟨g1, _⟩ | ⟨c, pre, sp, g1, g2, _⟩
  · rw [g1] at ha; cases ha
  · rw [g1] at ha; cases ha; exact g2.ne h' ht
theorem VecO.cell {H : Heap} {T : TypeId} {n : Nat} {s : Sl} {vs : List Value} (h : VecO H T n s vs) {j : Nat} (hj : j < vs.length) : ∃ a, s.a = some a ∧ hcell H (a.add j) = vs[j]? := by
  rcases h.own with ⟨_, _, g⟩ | ⟨b, pre, sp, g1, g2, _⟩
  · subst g; simp at hj
  · refine ⟨_, g1, ?_⟩
    rw [mk_add, g2.cell, List.append_assoc, List.getElem?_append_right (by omega), show pre.length + j - pre.length = j by omega, List.getElem?_append_left hj]
abbrev Col := Nat → Nat
def Tch (c : Col) (lo : Nat) (S : Nat → Prop) (H H' : Heap) : Prop := Upd (fun x => lo ≤ x ∧ S (c x)) H H'
def Is (c : Col) (lo j b : Nat) : Prop := lo ≤ b ∧ c b = j
def RowC (c : Col) (lo j : Nat) (H : Heap) (b : Nat) (T : TypeId) (vs : List Value) : Prop := Row H b T vs ∧ Is c lo j b
def IsS (c : Col) (lo j : Nat) (s : Sl) : Prop := ∀ b, s.a = some (adr b) → Is c lo j b
def VecC (c : Col) (lo j : Nat) (H : Heap) (T : TypeId) (s : Sl) (vs : List Value) : Prop := Vec H T s vs ∧ IsS c lo j s
def VecNC (c : Col) (lo j : Nat) (H : Heap) (T : TypeId) (n : Nat) (s : Sl) (vs : List Value) : Prop := VecN H T n s vs ∧ IsS c lo j s
theorem Tch.refl (c : Col) (lo : Nat) (S : Nat → Prop) (H : Heap) : Tch c lo S H H := Upd.refl _ _
theorem Tch.of {c : Col} {lo : Nat} {S : Nat → Prop} {H H' : Heap} {M : Nat → Prop} (h : Upd M H H') (hM : ∀ b, b < H.size → M b → lo ≤ b ∧ S (c b)) : Tch c lo S H H' := h.mono hM
theorem Tch.ofExt {c : Col} {lo : Nat} {S : Nat → Prop} {H H' : Heap} (h : Ext H H') : Tch c lo S H H' := h.mono fun _ _ h => h.elim
theorem Tch.trans {c : Col} {lo : Nat} {S : Nat → Prop} {H H1 H2 : Heap} (h : Tch c lo S H H1) (h2 : Tch c lo S H1 H2) : Tch c lo S H H2 := Upd.trans h h2 fun _ _ h => h
theorem Tch.mono {c : Col} {lo : Nat} {S S' : Nat → Prop} {H H' : Heap} (h : Tch c lo S H H') (hS : ∀ j, S j → S' j) : Tch c lo S' H H' := Upd.mono h fun _ _ e => ⟨e.1, hS _ e.2⟩
theorem Tch.ext {c : Col} {S : Nat → Prop} {H0 H H' : Heap} (h0 : Ext H0 H) (h : Tch c H0.size S H H') : Ext H0 H' := h0.trans h fun b hb e => by have := e.1; omega
theorem RowC.tch {c : Col} {lo j : Nat} {S : Nat → Prop} {H H' : Heap} (h : Tch c lo S H H') (hj : ¬ S j) {b : Nat} {T : TypeId} {vs : List Value} (hr : RowC c lo j H b T vs) : RowC c lo j H' b T vs :=
  ⟨Upd.row h hr.1 fun e => hj (hr.2.2 ▸ e.2), hr.2⟩
theorem VecC.tch {c : Col} {lo j : Nat} {S : Nat → Prop} {H H' : Heap} (h : Tch c lo S H H') (hj : ¬ S j) {T : TypeId} {s : Sl} {vs : List Value} (hr : VecC c lo j H T s vs) : VecC c lo j H' T s vs :=
  ⟨hr.1.upd h fun b hb e => hj ((hr.2 b hb).2 ▸ e.2), hr.2⟩
theorem VecNC.tch {c : Col} {lo j : Nat} {S : Nat → Prop} {H H' : Heap} (h : Tch c lo S H H') (hj : ¬ S j) {T : TypeId} {n : Nat} {s : Sl} {vs : List Value} (hr : VecNC c lo j H T n s vs) : VecNC c lo j H' T n s vs :=
  ⟨hr.1.upd h fun b hb e => hj ((hr.2 b hb).2 ▸ e.2), hr.2⟩
def Agr (j : Nat) (n : Nat) (c c' : Col) : Prop := ∀ x, x < n → c x = j → c' x = j
theorem RowC.agr {c c' : Col} {lo j : Nat} {H : Heap} (h : Agr j H.size c c') {b : Nat} {T : TypeId} {vs : List Value} (hr : RowC c lo j H b T vs) : RowC c' lo j H b T vs :=
  ⟨hr.1, hr.2.1, h b hr.1.lt hr.2.2⟩
theorem VecC.agr {c c' : Col} {lo j : Nat} {H : Heap} (h : Agr j H.size c c') {T : TypeId} {s : Sl} {vs : List Value} (hr : VecC c lo j H T s vs) : VecC c' lo j H T s vs :=
  ⟨hr.1, fun b hb => ⟨(hr.2 b hb).1, h b (hr.1.lt hb) (hr.2 b hb).2⟩⟩
theorem VecNC.agr {c c' : Col} {lo j : Nat} {H : Heap} (h : Agr j H.size c c') {T : TypeId} {n : Nat} {s : Sl} {vs : List Value} (hr : VecNC c lo j H T n s vs) : VecNC c' lo j H T n s vs :=
  ⟨hr.1, fun b hb => ⟨(hr.2 b hb).1, h b (hr.1.lt hb) (hr.2 b hb).2⟩⟩
def dye (n : Nat) (c d : Col) : Col := fun x => if x < n then c x else d x
theorem dye_lt {n x : Nat} {c d : Col} (h : x < n) : dye n c d x = c x := if_pos h
theorem dye_ge {n x : Nat} {c d : Col} (h : n ≤ x) : dye n c d x = d x := if_neg (by omega)
theorem agr_dye (j n : Nat) (c d : Col) : Agr j n c (dye n c d) := fun x hx e => by rw [dye_lt hx]; exact e
theorem is_dye {c d : Col} {lo j b n : Nat} (h : Is c lo j b) (hb : b < n) : Is (dye n c d) lo j b := ⟨h.1, by rw [dye_lt hb]; exact h.2⟩
theorem is_new {c d : Col} {lo j b n : Nat} (hl : lo ≤ n) (hb : n ≤ b) (hd : d b = j) : Is (dye n c d) lo j b := ⟨by omega, by rw [dye_ge hb]; exact hd⟩
theorem VecC.nil (c : Col) (lo j : Nat) (H : Heap) (T : TypeId) : VecC c lo j H T ⟨none, 0, 0⟩ [] := ⟨Vec.nil H T, fun b hb => by cases hb⟩
theorem VecNC.nil (c : Col) (lo j : Nat) (H : Heap) (T : TypeId) (n : Nat) : VecNC c lo j H T n ⟨none, 0, 0⟩ [] := ⟨VecN.nil H T n, fun b hb => by cases hb⟩
theorem RowC.mv {c c' : Col} {lo j : Nat} {S : Nat → Prop} {H H' : Heap} (h : Tch c lo S H H') (hj : ¬ S j) (ha : Agr j H.size c c') {b : Nat} {T : TypeId} {vs : List Value} (hr : RowC c lo j H b T vs) : RowC c' lo j H' b T vs :=
  ⟨(hr.tch h hj).1, hr.2.1, ha b hr.1.lt hr.2.2⟩
theorem VecC.mv {c c' : Col} {lo j : Nat} {S : Nat → Prop} {H H' : Heap} (h : Tch c lo S H H') (hj : ¬ S j) (ha : Agr j H.size c c') {T : TypeId} {s : Sl} {vs : List Value} (hr : VecC c lo j H T s vs) : VecC c' lo j H' T s vs :=
  ⟨(hr.tch h hj).1, fun b hb => ⟨(hr.2 b hb).1, ha b (hr.1.lt hb) (hr.2 b hb).2⟩⟩
theorem VecNC.mv {c c' : Col} {lo j : Nat} {S : Nat → Prop} {H H' : Heap} (h : Tch c lo S H H') (hj : ¬ S j) (ha : Agr j H.size c c') {T : TypeId} {n : Nat} {s : Sl} {vs : List Value} (hr : VecNC c lo j H T n s vs) : VecNC c' lo j H' T n s vs :=
  ⟨(hr.tch h hj).1, fun b hb => ⟨(hr.2 b hb).1, ha b (hr.1.lt hb) (hr.2 b hb).2⟩⟩
theorem hcells_ext {H H' : Heap} (hu : Ext H H') {a : Addr} : ∀ {vs : List Value} {i : Nat}, hcells H a i vs → hcells H' a i vs
  | [], _, _ => trivial
  | _ :: _, _, h => ⟨hu.cell h.1 fun h => h, hcells_ext hu h.2⟩
theorem rdL_ext {H H' : Heap} (hu : Ext H H') {a : Option Addr} {vs : List Value} (h : rdL H a vs) : rdL H' a vs := by
  unfold rdL at h ⊢
  cases a with
  | none => exact h
  | some a => exact hcells_ext hu h
theorem flat_set {α : Type} {f : α → List Value} {n : Nat} (hf : ∀ e, (f e).length = n) {e' : α} {o : Nat} {v : Value} : ∀ {es : List α} {i : Nat} (hi : i < es.length), o < n → f e' = (f es[i]).set o v → (es.flatMap f).set (i * n + o) v = (es.set i e').flatMap f
  | e :: es, 0, _, ho, he => by
    simp only [List.flatMap_cons, List.set_cons_zero, Nat.zero_mul, Nat.zero_add]
    rw [List.set_append_left _ _ (by rw [hf]; exact ho)]
    rw [he]; rfl
  | e :: es, i + 1, hi, ho, he => by
    simp only [List.flatMap_cons, List.set_cons_succ]
    have e1 : (i + 1) * n + o = (f e).length + (i * n + o) := by rw [hf, Nat.add_mul]; omega
    rw [e1, List.set_append_right _ _ (by omega), Nat.add_sub_cancel_left, flat_set hf (es := es) (by simpa using hi) ho he]
theorem St_vecN {H : Heap} {T : TypeId} {n : Nat} {s : Sl} {vs : List Value} (h : VecN H T n s vs) {b : Nat} (hb : s.a = some (adr b)) {m : Nat} (hm : m < vs.length) {v : Value} {k : Heap → Prop} (hk : ∀ H', VecN H' T n s (vs.set m v) → Upd (· = b) H H' → H'.size = H.size → k H') : St ⟨b, m, none⟩ v H k := by
  rcases h.own with ⟨g, _⟩ | ⟨c, sp, g1, g2, g3⟩
  · rw [g] at hb; cases hb
  · rw [g1] at hb; cases hb
    refine St_row g2 (by rw [List.length_append]; omega) fun H' hU hz hr => hk H' ⟨by rw [List.length_set]; exact h.len, .inr ⟨b, sp, g1, ?_, by rw [List.length_set]; exact g3⟩, h.lc⟩ hU hz
    rwa [List.set_append_left _ _ hm] at hr
end Go.Proofs.YtfpmgpblhhcpgaaGreat.Hc
namespace Go.Proofs.YtfpmgpblhhcpgaaGreat
set_option linter.unusedVariables false
set_option linter.unusedSimpArgs false
set_option maxRecDepth 100000
section
open Hc Hc.Vf Hc.Mc Hc.Dice
variable {H : Heap}
abbrev fnOf (r : Rou) : Fnc := ⟨r.params, r.locals, r.code⟩
structure AP where
  p : Nat
  r : Rou
  ls : Sl
  ss : Sl
  loc : List Int
  stk : List Int
  nx : Int
  v : Int
instance : Inhabited AP := ⟨⟨0, default, default, default, [], [], 0, 0⟩⟩
abbrev AP.act (x : AP) : Actn := ⟨fnOf x.r, x.loc, x.stk, x.nx⟩
abbrev actV (x : AP) : List Value := [.string x.r.name, .int .i64 x.r.params, .int .i64 x.r.locals, slV x.r.sl, slV x.ls, slV x.ss, .int .i64 x.v]
def NxR (n : Nat) (nx v : Int) : Prop := v = nx ∨ (¬ (0 ≤ nx ∧ nx < (n : Int)) ∧ ¬ (0 ≤ v ∧ v < (n : Int)))
structure ActR (H : Heap) (x : AP) : Prop where
  row : Row H x.p T_machine_activation (actV x)
  loc : Vec H T_int64 x.ls (ints x.loc)
  stk : Vec H T_int64 x.ss (ints x.stk)
  ap : Apart x.ls x.ss
  nxr : NxR x.r.code.length x.nx x.v
def ActB (x : AP) (b : Nat) : Prop := b = x.p ∨ x.ls.a = some (adr b) ∨ x.ss.a = some (adr b)
theorem ActR.upd {M : Nat → Prop} {H H' : Heap} (h : Upd M H H') {x : AP} (hx : ActR H x) (hm : ∀ b, ActB x b → ¬ M b) : ActR H' x :=
  ⟨h.row hx.row (hm _ (.inl rfl)), hx.loc.upd h fun b hb => hm b (.inr (.inl hb)), hx.stk.upd h fun b hb => hm b (.inr (.inr hb)), hx.ap, hx.nxr⟩
theorem ActR.lt {H : Heap} {x : AP} (hx : ActR H x) {b : Nat} (hb : ActB x b) : b < H.size := by
  rcases hb with rfl | hb | hb
  · exact hx.row.lt
  · exact hx.loc.lt hb
  · exact hx.stk.lt hb
theorem ActR.neS {H : Heap} {x : AP} (hx : ActR H x) {b : Nat} (hb : x.ss.a = some (adr b)) : b ≠ x.p := hx.stk.ne hb hx.row (by decide)
theorem ActR.neL {H : Heap} {x : AP} (hx : ActR H x) {b : Nat} (hb : x.ls.a = some (adr b)) : b ≠ x.p := hx.loc.ne hb hx.row (by decide)
theorem tch_row {c : Col} {lo j b : Nat} {S : Nat → Prop} {H H' : Heap} (hu : Upd (· = b) H H') (hi : Is c lo j b) (hS : S j) : Tch c lo S H H' :=
  Tch.of hu fun x _ e => by subst e; exact ⟨hi.1, by rw [hi.2]; exact hS⟩
theorem vec_tail {H : Heap} {T : TypeId} {s : Sl} {vs : List Value} (h : Vec H T s vs) {n : Nat} (hn : n ≤ vs.length) {k : Sl → Prop}
    (hk : ∀ s', rdL H s'.a (vs.drop n) → s'.len = vs.length - n → (s'.a = none ↔ s.a = none) → k s') : SlA 1 s n (s.len : Nat) (s.cap : Nat) k := by
  have hl := h.len
  have hlc := h.lc
  refine ⟨by omega, by omega, by omega, by omega, ?_⟩
  rw [Int.toNat_natCast, Int.toNat_natCast, Int.toNat_natCast, Nat.mul_one]
  refine hk _ ?_ (by dsimp only; omega) ?_
  · rcases h.own with ⟨h1, h2, h3⟩ | ⟨b, sp, h1, h2, h3⟩
    · rw [h1, h3]; simp [rdL]
    · rw [h1]
      dsimp only
      split
      · have : vs.drop n = [] := List.drop_eq_nil_of_le (by omega)
        rw [this]; trivial
      · dsimp only [Option.map]
        unfold rdL
        dsimp only
        have := hcells_drop (m := n) h2.rd
        rw [Nat.zero_add] at this
        exact hcellsShift.1 this
  · dsimp only
    split
    · exact Iff.rfl
    · cases s.a <;> simp
theorem s_clone64 {s : Sl} {xs : List Int} (hr : rdL H s.a (ints xs)) (hl : s.len = xs.length) (hb : xs.length ≤ 2 ^ 40) (hn : s.a = none → s.len = 0) {k : Sl → Heap → Prop}
    (hk : ∀ r H', Ext H H' → Vec H' T_int64 r (ints xs) → (∀ b, r.a = some (adr b) → H.size ≤ b) → k r H') : CallT Pg f_slices_Clone_Sl_int64_int64 [.slice s.a s.len s.cap] (.one (.c .sl)) H k := by
  refine c_slices_Clone_Sl_int64_int64 _ ?_
  unfold v_slices_Clone_Sl_int64_int64
  cases ha : s.a with
  | none =>
    have := hn ha
    have e : xs = [] := List.eq_nil_of_length_eq_zero (by omega)
    subst e
    exact hk ⟨none, 0, 0⟩ H (.refl _ _) (Vec.nil _ _) fun b hb => by cases hb
  | some a =>
    simp only [Option.isNone_some, Br_false]
    refine Nw_row (vs := []) fun b1 H1 hb1 hE1 hz1 hr1 => ?_
    have hv : Vec H1 T_int64 ⟨some (adr b1), 0, 0⟩ [] := ⟨rfl, .inr ⟨b1, [], rfl, hr1, Nat.le_refl _⟩, Nat.le_refl _⟩
    refine App_vec2 (ws := ints xs) hv ?_ (by simp [hl]) (fun w hw => by obtain ⟨x, _, rfl⟩ := List.mem_map.1 hw; rfl) (by decide) (by simp; omega) fun s' H2 hv2 hU2 ha2 hz2 => ?_
    · have := rdL_ext hE1 hr
      exact this
    · refine hk _ _ (extUpd (b := b1) hE1 (by omega) (hU2.mono fun b _ e => ?_)) (by simpa using hv2) fun b hb => ?_
      · have := e.1; cases this; rfl
      · rcases ha2 with ⟨e, _⟩ | e
        · rw [e] at hb; cases hb; omega
        · rw [e] at hb; cases hb; have := hE1.size; omega
theorem ints_drop (xs : List Int) (n : Nat) : (ints xs).drop n = ints (xs.drop n) := by simp [ints]
theorem ints_take (xs : List Int) (n : Nat) : (ints xs).take n = ints (xs.take n) := by simp [ints]
theorem ints_one (xs : List Int) : ∀ w ∈ ints xs, w.oneCell' = true := fun w hw => by obtain ⟨x, _, rfl⟩ := List.mem_map.1 hw; rfl
abbrev AP.took (x : AP) (n : Nat) : AP := { x with ss := ⟨x.ss.a, x.ss.len - n, x.ss.cap⟩, stk := x.stk.take (x.stk.length - n) }
theorem s_take {x : AP} (hx : ActR H x) {t : Int} {n : Nat} (ht : t = n) (hn : n ≤ x.stk.length) (hb : x.stk.length ≤ 2 ^ 40) {k : Sl → Heap → Prop}
    (hk : ∀ r H', Upd (· = x.p) H H' → ActR H' (x.took n) → Vec H' T_int64 r (ints (x.stk.drop (x.stk.length - n))) → (∀ b, r.a = some (adr b) → H.size ≤ b) → k r H') :
    CallT Pg f_machine_activation_take [.pointer (some (adr x.p)), .int .i64 t] (.one (.c .sl)) H k := by
  subst ht
  refine c_machine_activation_take _ _ ?_
  unfold v_machine_activation_take
  simp only [NilCk_some, adr_add]
  have hl := hx.stk.len
  rw [List.length_map] at hl
  refine Ld_sl ((hx.row.cell 5).trans rfl) (Lt.mk (u := ((x.stk.length - n : Nat) : Int)) (by rw [wrap_i64_id (by omega) (by omega)]; omega) ?_)
  refine Ld_sl ((hx.row.cell 5).trans rfl) (vec_tail hx.stk (n := x.stk.length - n) (by simp) fun s' hs' hsl hsn => ?_)
  rw [ints_drop] at hs'
  refine s_clone64 hs' (by rw [hsl]; simp) (by simp; omega) (fun e => ?_) fun r H1 hE1 hr hf => ?_
  · rw [hsl]
    rcases hx.stk.own with ⟨_, _, h3⟩ | ⟨b, sp, h1, _⟩
    · rw [h3]; simp
    · rw [hsn.1 e] at h1; cases h1
  have hx1 := hx.upd hE1 fun b _ h => h
  refine Ld_sl ((hx1.row.cell 5).trans rfl) (SlA0 (by omega) (by have := hx.stk.lc; omega) (by omega) ?_)
  simp only [Int.toNat_natCast]
  refine St_row hx1.row (by simp) fun H2 hU2 hz2 hr2 => ?_
  refine hk r H2 ((hE1.mono fun _ _ h => h.elim).trans hU2 fun _ _ e => e) ⟨?_, hx1.loc.upd hU2 fun b hb e => hx1.neL hb e, ?_, hx.ap, hx.nxr⟩ (hr.upd hU2 fun b hb e => by have := hf b hb; have := hx.row.lt; omega) hf
  · have e : x.ss.len - n = x.stk.length - n := by rw [hl]
    have : actV (x.took n) = (actV x).set 5 (.slice x.ss.a (x.stk.length - n) x.ss.cap) := by rw [← e]; rfl
    rw [this]; exact hr2
  · have hv := hx1.stk.upd hU2 fun b hb e => hx1.neS hb e
    refine ⟨by simp; omega, ?_, by have := hx.stk.lc; dsimp only; omega⟩
    rcases hv.own with ⟨h1, h2, h3⟩ | ⟨b, sp, h1, h2, h3⟩
    · refine .inl ⟨h1, h2, ?_⟩
      have : x.stk = [] := List.map_eq_nil_iff.1 h3
      show ints (x.stk.take _) = []
      rw [this]; simp
    · refine .inr ⟨b, (ints x.stk).drop (x.stk.length - n) ++ sp, h1, ?_, ?_⟩
      · rw [← ints_take, ← List.append_assoc, List.take_append_drop]; exact h2
      · simp only [List.length_append, List.length_drop, List.length_map, List.length_take] at h3 ⊢
        omega
theorem s_push {x : AP} (hx : ActR H x) {n : Int} (hb : x.stk.length ≤ 2 ^ 40) {k : Unit → Heap → Prop}
    (hk : ∀ s' H', Upd (fun b => b = x.p ∨ x.ss.a = some (adr b)) H H' → ActR H' { x with ss := s', stk := x.stk ++ [n] } → (s'.a = x.ss.a ∨ ∃ b, s'.a = some (adr b) ∧ H.size ≤ b) → k () H') :
    CallT Pg f_machine_activation_push [.pointer (some (adr x.p)), .int .i64 n] (.tup []) H k := by
  refine c_machine_activation_push _ _ ?_
  unfold v_machine_activation_push
  simp only [NilCk_some, adr_add]
  refine Ld_sl ((hx.row.cell 5).trans rfl) ?_
  refine Nw_row (vs := [.int .i64 n]) fun b1 H1 hb1 hE1 hz1 hr1 => ?_
  have hx1 := hx.upd hE1 fun b _ h => h
  refine App_vec2 (ws := ints [n]) hx1.stk hr1.rd_all rfl (ints_one _) (by decide) (by simp; omega) fun s' H2 hv2 hU2 ha2 hz2 => ?_
  have hfr : s'.a = x.ss.a ∨ ∃ b, s'.a = some (adr b) ∧ H.size ≤ b := ha2.imp (fun e => e.1) fun e => ⟨_, e, hE1.size⟩
  have hrow2 := hU2.row hx1.row fun e => hx1.neS e.1 rfl
  refine St_row hrow2 (by simp) fun H3 hU3 hz3 hr3 => ?_
  have hlt := hx.row.lt
  have hne : ∀ b, s'.a = some (adr b) → b ≠ x.p := fun b hb e => by
    rcases hfr with h | ⟨b', h, hlt'⟩
    · rw [h] at hb; exact hx.neS hb e
    · rw [h] at hb; cases hb; omega
  refine hk s' H3 ?_ ⟨hr3, (hx1.loc.upd hU2 fun b hb e => hx.ap b hb e.1).upd hU3 fun b hb e => hx.neL hb e, ?_, fun b hb hb' => ?_, hx.nxr⟩ hfr
  · exact ((hE1.mono fun _ _ h => h.elim).trans (hU2.mono fun b _ e => .inr e.1) fun _ _ e => e).trans hU3 fun _ _ e => .inl e
  · have := hv2.upd hU3 fun b hb e => hne b hb e
    simpa [ints] using this
  · rcases hfr with h | ⟨b', h, hlt'⟩
    · rw [h] at hb'; exact hx.ap b hb hb'
    · rw [h] at hb'; cases hb'; have := hx.loc.lt hb; omega
end
section
open Hc Hc.Vf
variable {H : Heap}
abbrev CodeR (H : Heap) (r : Rou) : Prop := RN insV 2 H r.sl r.code
structure Sy where
  s : Nat → Sl
  l : Nat → List Int
  rou : Rou
instance : Inhabited Sy := ⟨⟨fun _ => default, fun _ => [], default⟩⟩
abbrev sysV (x : Sy) : List Value := [slV (x.s 0), slV (x.s 1), slV (x.s 2), slV (x.s 3), .string x.rou.name, .int .i64 x.rou.params, .int .i64 x.rou.locals, slV x.rou.sl]
theorem sysV_len (x : Sy) : (sysV x).length = 8 := rfl
structure SyR (H : Heap) (x : Sy) : Prop where
  sets : ∀ q, q < 4 → RL (Value.int .i64) H (x.s q) (x.l q)
  code : CodeR H x.rou
  lens : ∀ q, q < 4 → (x.l q).length ≤ 2 ^ 60
  clen : x.rou.code.length ≤ 2 ^ 60
structure PrgR (H : Heap) (p : Sl × Sl) (ss : List Sy) (fs : List Rou) : Prop where
  sys : RN sysV 8 H p.1 ss
  sysR : ∀ x ∈ ss, SyR H x
  fun' : RN rouV 4 H p.2 fs
  funR : ∀ r ∈ fs, CodeR H r
  funL : ∀ r ∈ fs, r.code.length ≤ 2 ^ 60
theorem SyR.ext {H' : Heap} (hE : Ext H H') {x : Sy} (h : SyR H x) : SyR H' x := ⟨fun q hq => (h.sets q hq).ext hE, h.code.ext hE, h.lens, h.clen⟩
theorem PrgR.ext {H' : Heap} (hE : Ext H H') {p : Sl × Sl} {ss : List Sy} {fs : List Rou} (h : PrgR H p ss fs) : PrgR H' p ss fs :=
  ⟨h.sys.ext hE, fun x hx => (h.sysR x hx).ext hE, h.fun'.ext hE, fun r hr => (h.funR r hr).ext hE, h.funL⟩
end
section
open Hc Hc.Vf Hc.Mc Hc.Dice
variable {H : Heap}
structure PtP where
  kind : Int
  sl : Sl
  vals : List Int
abbrev PtP.pt (x : PtP) : Pt := ⟨x.kind, x.vals⟩
abbrev ptV (x : PtP) : List Value := [.int .i64 x.kind, slV x.sl]
structure CmP where
  op : Int
  e : Int × Int
  kind : Int
  vsl : Sl
  vals : List Int
  psl : Sl
  parts : List PtP
abbrev CmP.cm (x : CmP) : Cm := ⟨x.op, x.e, x.kind, x.vals, x.parts.map PtP.pt⟩
abbrev cmV (x : CmP) : List Value := [.int .i64 x.op, .int .i64 x.e.1, .int .i64 x.e.2, .int .i64 x.kind, slV x.vsl, slV x.psl]
abbrev evV (x : Ev) : List Value := [.int .i64 x.sys, .int .i64 x.e.1, .int .i64 x.e.2, .int .i64 x.code, .int .i64 x.val]
theorem ptV_len (x : PtP) : (ptV x).length = 2 := rfl
theorem cmV_len (x : CmP) : (cmV x).length = 6 := rfl
theorem evV_len (x : Ev) : (evV x).length = 5 := rfl
structure RunG where
  pS : Sl
  pF : Sl
  s : Sy
  n : Int
  fr : Int
  sd : Int
  en : Int
  inS : Sl
  ix : Int
  gn : Int
  rp : Sl
  mp : Nat
  ls : Sl
  ks : Sl
  cs : Sl
  es : Sl
  st : Int
  er : Int
  dp : Nat
  si : Int
  ov : Bool
abbrev runV (g : RunG) : List Value :=
  [slV g.pS, slV g.pF, slV (g.s.s 0), slV (g.s.s 1), slV (g.s.s 2), slV (g.s.s 3), .string g.s.rou.name, .int .i64 g.s.rou.params, .int .i64 g.s.rou.locals, slV g.s.rou.sl, .int .i64 g.n, .int .i64 g.fr, .int .i64 g.sd, .int .i64 g.en,
   slV g.inS, .int .i64 g.ix, .int .i64 g.gn, slV g.rp, .map (some g.mp), slV g.ls, slV g.ks, .slice none 0 0, slV g.cs, slV g.es, .int .i64 g.st, .int .i64 g.er, .pointer (some (adr g.dp)), .int .i64 g.si, .bool g.ov]
structure MG where
  c : Col
  b : Nat
  g : RunG
  low : List AP
  top : AP
  es : List PtP
  d : Int
  kp : List PtP
  cl : List CmP
  evs : List Ev
abbrev MG.ms (x : MG) : Ms := ⟨x.low.map AP.act, x.top.act, x.es.map PtP.pt, x.d, x.g.si, x.g.st, x.kp.map PtP.pt, x.cl.map CmP.cm, x.evs, x.g.ov⟩
abbrev ptrs (l : List AP) : List Value := l.map fun x => .pointer (some (adr x.p))
def mapEnts : Nat → List PtP → List MapEntry
  | _, [] => []
  | n, x :: r => { key := .int .i64 x.kind, val := slV x.sl, born := n } :: mapEnts (n + 1) r
abbrev cmSl (x : CmP) : List Sl := x.vsl :: x.parts.map PtP.sl
abbrev outL (cl : List CmP) (kp : List PtP) : List Sl := cl.flatMap cmSl ++ kp.map PtP.sl
def ActI (c : Col) (lo j : Nat) (x : AP) : Prop := ∀ b, ActB x b → Is c lo j b
abbrev PtR (c : Col) (lo j : Nat) (H : Heap) (q : PtP) : Prop := VecC c lo j H T_int64 q.sl (ints q.vals)
structure CmR (c : Col) (lo : Nat) (H : Heap) (q : CmP) : Prop where
  vs : VecC c lo 101 H T_int64 q.vsl (ints q.vals)
  ps : VecNC c lo 207 H T_api_Part 2 q.psl (q.parts.flatMap ptV)
  pt : ∀ p ∈ q.parts, PtR c lo 101 H p
structure MacR (H0 H : Heap) (x : MG) : Prop where
  base : Ext H0 H
  run : RowC x.c H0.size 200 H x.b T_machine_run (runV x.g)
  lv : VecC x.c H0.size 201 H T_P_machine_activation x.g.ls (ptrs (x.low ++ [x.top]))
  lowR : ∀ i (h : i < x.low.length), ActR H x.low[i] ∧ ActI x.c H0.size i x.low[i]
  topR : ActR H x.top
  topI : ActI x.c H0.size x.low.length x.top
  codes : ∀ a ∈ x.low ++ [x.top], CodeR H0 a.r
  lowl : x.low.length ≤ 16
  dice : RowC x.c H0.size 205 H x.g.dp T_dice_Dice [.int .u64 x.d]
  map : H[x.g.mp]? = some (.map ⟨mapEnts 0 x.es⟩ x.es.length) ∧ Is x.c H0.size 206 x.g.mp
  esR : ∀ q ∈ x.es, PtR x.c H0.size 100 H q
  esA : x.es.Pairwise fun p q => Apart p.sl q.sl
  esK : (x.es.map PtP.kind).Nodup
  kv : VecNC x.c H0.size 202 H T_api_Part 2 x.g.ks (x.kp.flatMap ptV)
  kR : ∀ q ∈ x.kp, PtR x.c H0.size 101 H q
  cv : VecNC x.c H0.size 203 H T_api_Command 6 x.g.cs (x.cl.flatMap cmV)
  cR : ∀ q ∈ x.cl, CmR x.c H0.size H q
  outA : (outL x.cl x.kp).Pairwise Apart
  parA : (x.cl.map CmP.psl).Pairwise Apart
  ev : VecNC x.c H0.size 204 H T_api_Event 5 x.g.es (x.evs.flatMap evV)
theorem CmR.tch {c : Col} {lo : Nat} {S : Nat → Prop} {H H' : Heap} (h : Tch c lo S H H') (h1 : ¬ S 101) (h2 : ¬ S 207) {q : CmP} (hq : CmR c lo H q) : CmR c lo H' q :=
  ⟨hq.vs.tch h h1, hq.ps.tch h h2, fun p hp => (hq.pt p hp).tch h h1⟩
theorem CmR.agr {c c' : Col} {lo : Nat} {H : Heap} (h1 : Agr 101 H.size c c') (h2 : Agr 207 H.size c c') {q : CmP} (hq : CmR c lo H q) : CmR c' lo H q :=
  ⟨hq.vs.agr h1, hq.ps.agr h2, fun p hp => (hq.pt p hp).agr h1⟩
theorem ActI.agr {c c' : Col} {lo j : Nat} {H : Heap} (h : Agr j H.size c c') {x : AP} (hx : ActR H x) (hi : ActI c lo j x) : ActI c' lo j x := fun b hb => ⟨(hi b hb).1, h b (hx.lt hb) (hi b hb).2⟩
theorem ActR.tch {c : Col} {lo j : Nat} {S : Nat → Prop} {H H' : Heap} (h : Tch c lo S H H') (hj : ¬ S j) {x : AP} (hx : ActR H x) (hi : ActI c lo j x) : ActR H' x :=
  hx.upd h fun b hb e => hj ((hi b hb).2 ▸ e.2)
theorem map_tch {c : Col} {lo j : Nat} {S : Nat → Prop} {H H' : Heap} (h : Tch c lo S H H') (hj : ¬ S j) {r : Nat} {o : Obj} (hm : H[r]? = some o ∧ Is c lo j r) : H'[r]? = some o ∧ Is c lo j r :=
  ⟨h.keep hm.1 fun e => hj (hm.2.2 ▸ e.2), hm.2⟩
structure Fr (H0 H' : Heap) (x : MG) (c' : Col) (S : Nat → Prop) : Prop where
  base : Ext H0 H'
  run : ¬ S 200 → RowC c' H0.size 200 H' x.b T_machine_run (runV x.g)
  lv : ¬ S 201 → VecC c' H0.size 201 H' T_P_machine_activation x.g.ls (ptrs (x.low ++ [x.top]))
  lowR : ∀ i (h : i < x.low.length), ¬ S i → ActR H' x.low[i] ∧ ActI c' H0.size i x.low[i]
  topR : ¬ S x.low.length → ActR H' x.top ∧ ActI c' H0.size x.low.length x.top
  dice : ¬ S 205 → RowC c' H0.size 205 H' x.g.dp T_dice_Dice [.int .u64 x.d]
  map : ¬ S 206 → H'[x.g.mp]? = some (.map ⟨mapEnts 0 x.es⟩ x.es.length) ∧ Is c' H0.size 206 x.g.mp
  esR : ¬ S 100 → ∀ q ∈ x.es, PtR c' H0.size 100 H' q
  kv : ¬ S 202 → VecNC c' H0.size 202 H' T_api_Part 2 x.g.ks (x.kp.flatMap ptV)
  kR : ¬ S 101 → ∀ q ∈ x.kp, PtR c' H0.size 101 H' q
  cv : ¬ S 203 → VecNC c' H0.size 203 H' T_api_Command 6 x.g.cs (x.cl.flatMap cmV)
  cR : ¬ S 101 → ¬ S 207 → ∀ q ∈ x.cl, CmR c' H0.size H' q
  ev : ¬ S 204 → VecNC c' H0.size 204 H' T_api_Event 5 x.g.es (x.evs.flatMap evV)
theorem MacR.fr {H0 H H' : Heap} {x : MG} (h : MacR H0 H x) {S : Nat → Prop} (ht : Tch x.c H0.size S H H') {c' : Col} (hA : ∀ j, ¬ S j → Agr j H.size x.c c') : Fr H0 H' x c' S where
  base := ht.ext h.base
  run := fun hj => h.run.mv ht hj (hA _ hj)
  lv := fun hj => h.lv.mv ht hj (hA _ hj)
  lowR := fun i hi hj => ⟨ActR.tch ht hj (h.lowR i hi).1 (h.lowR i hi).2, (h.lowR i hi).2.agr (hA _ hj) (h.lowR i hi).1⟩
  topR := fun hj => ⟨ActR.tch ht hj h.topR h.topI, h.topI.agr (hA _ hj) h.topR⟩
  dice := fun hj => h.dice.mv ht hj (hA _ hj)
  map := fun hj => ⟨(map_tch ht hj h.map).1, h.map.2.1, hA _ hj _ (lt_of_get h.map.1) h.map.2.2⟩
  esR := fun hj q hq => (h.esR q hq).mv ht hj (hA _ hj)
  kv := fun hj => h.kv.mv ht hj (hA _ hj)
  kR := fun hj q hq => (h.kR q hq).mv ht hj (hA _ hj)
  cv := fun hj => h.cv.mv ht hj (hA _ hj)
  cR := fun hj hj2 q hq => ⟨(h.cR q hq).vs.mv ht hj (hA _ hj), (h.cR q hq).ps.mv ht hj2 (hA _ hj2), fun p hp => ((h.cR q hq).pt p hp).mv ht hj (hA _ hj)⟩
  ev := fun hj => h.ev.mv ht hj (hA _ hj)
theorem dyeA (S : Nat → Prop) (n : Nat) (c d : Col) : ∀ j, ¬ S j → Agr j n c (dye n c d) := fun j _ => agr_dye j n c d
theorem MacR.top {H0 H H' : Heap} {x : MG} (h : MacR H0 H x) {t : AP} (ht : Tch x.c H0.size (· = x.low.length) H H') (hr : ActR H' t) (hp : t.p = x.top.p) (hrou : t.r = x.top.r)
    {d : Col} (hb : ∀ b, ActB t b → ActB x.top b ∨ (H.size ≤ b ∧ d b = x.low.length)) : MacR H0 H' { x with top := t, c := dye H.size x.c d } := by
  have hl := h.lowl
  have f := h.fr ht (dyeA _ H.size x.c d)
  exact { h with
    base := f.base
    run := f.run (by omega)
    lv := by
      have := f.lv (by omega)
      simpa [ptrs, hp] using this
    lowR := fun i (hi : i < x.low.length) => f.lowR i hi (by omega)
    topR := hr
    topI := fun b hbb => by
      rcases hb b hbb with e | e
      · exact is_dye (h.topI b e) (h.topR.lt e)
      · exact is_new h.base.size e.1 e.2
    codes := fun a ha => by
      rcases List.mem_append.1 ha with ha | ha
      · exact h.codes a (List.mem_append_left _ ha)
      · rw [List.mem_singleton.1 ha, hrou]; exact h.codes _ (by simp)
    dice := f.dice (by omega)
    map := f.map (by omega)
    esR := f.esR (by omega)
    kv := f.kv (by omega)
    kR := f.kR (by omega)
    cv := f.cv (by omega)
    cR := f.cR (by omega) (by omega)
    ev := f.ev (by omega) }
theorem MacR.ext {H0 H H' : Heap} {x : MG} (h : MacR H0 H x) (he : Ext H H') : MacR H0 H' x := by
  have f := h.fr (S := fun _ => False) (Tch.ofExt he) (c' := x.c) fun j _ y _ e => e
  exact { h with
    base := f.base, run := f.run id, lv := f.lv id, lowR := fun i hi => f.lowR i hi id, topR := (f.topR id).1, dice := f.dice id, map := f.map id, esR := f.esR id, kv := f.kv id, kR := f.kR id, cv := f.cv id, cR := f.cR id id, ev := f.ev id }
theorem MacR.num {H0 H H' : Heap} {x : MG} (h : MacR H0 H x) (hu : Upd (· = x.b) H H') {st er si : Int} {ov : Bool} (hr : Row H' x.b T_machine_run (runV { x.g with st := st, er := er, si := si, ov := ov })) :
    MacR H0 H' { x with g := { x.g with st := st, er := er, si := si, ov := ov } } := by
  have hl := h.lowl
  have f := h.fr (S := (· = 200)) (tch_row hu h.run.2 rfl) (c' := x.c) fun j _ y _ e => e
  exact { h with
    base := f.base, run := ⟨hr, h.run.2⟩, lv := f.lv (by omega), lowR := fun i (hi : i < x.low.length) => f.lowR i hi (by omega), topR := (f.topR (by omega)).1, dice := f.dice (by omega), map := f.map (by omega), esR := f.esR (by omega)
    kv := f.kv (by omega), kR := f.kR (by omega), cv := f.cv (by omega), cR := f.cR (by omega) (by omega), ev := f.ev (by omega) }
theorem MacR.fell {H0 H H' : Heap} {x : MG} (h : MacR H0 H x) (hu : Upd (· = x.g.dp) H H') {d : Int} (hr : Row H' x.g.dp T_dice_Dice [.int .u64 d]) : MacR H0 H' { x with d := d } := by
  have hl := h.lowl
  have f := h.fr (S := (· = 205)) (tch_row hu h.dice.2 rfl) (c' := x.c) fun j _ y _ e => e
  exact { h with
    base := f.base, run := f.run (by omega), lv := f.lv (by omega), lowR := fun i (hi : i < x.low.length) => f.lowR i hi (by omega), topR := (f.topR (by omega)).1, dice := ⟨hr, h.dice.2⟩, map := f.map (by omega), esR := f.esR (by omega)
    kv := f.kv (by omega), kR := f.kR (by omega), cv := f.cv (by omega), cR := f.cR (by omega) (by omega), ev := f.ev (by omega) }
def recol (c : Col) (i j : Nat) : Col := fun b => if c b = i then j else c b
theorem agr_recol {S : Nat → Prop} {n i k : Nat} {c d : Col} (hi : S i) : ∀ j, ¬ S j → Agr j n c (dye n (recol c i k) d) := fun j hj y hy e => by
  rw [dye_lt hy]; unfold recol; rw [if_neg (fun h => hj (by rw [← e, h]; exact hi)), e]
theorem is_recol {c d : Col} {lo i j b n : Nat} (h : Is c lo i b) (hb : b < n) : Is (dye n (recol c i j) d) lo j b := ⟨h.1, by rw [dye_lt hb]; unfold recol; rw [if_pos h.2]⟩
theorem sl_dye {c d : Col} {lo j n : Nat} {s s' : Sl} (h : IsS c lo j s) (hl : lo ≤ n) (ha : s'.a = s.a ∨ ∃ b, s'.a = some (adr b) ∧ n ≤ b) (hlt : ∀ b, s.a = some (adr b) → b < n) {i k : Nat} (hij : i ≠ j) (hd : ∀ b, s'.a = some (adr b) → d b = j) : IsS (dye n (recol c i k) d) lo j s' := fun b hb => by
  rcases ha with e | ⟨b', e, hge⟩
  · rw [e] at hb
    refine ⟨(h b hb).1, ?_⟩
    rw [dye_lt (hlt b hb)]; unfold recol; rw [(h b hb).2, if_neg (fun e => hij e.symm)]
  · rw [e] at hb; cases hb
    exact is_new hl hge (hd _ e)
theorem apart_col {c : Col} {lo i j : Nat} {s t : Sl} (hs : IsS c lo i s) (ht : IsS c lo j t) (h : i ≠ j) : Apart s t := fun b hb hb' => h ((hs b hb).2.symm.trans (ht b hb').2)
theorem apart_nil (s : Sl) {t : Sl} (h : t.a = none) : Apart s t := fun b _ hb => by rw [h] at hb; cases hb
theorem MacR.outCol {H0 H : Heap} {x : MG} (h : MacR H0 H x) : ∀ s ∈ outL x.cl x.kp, IsS x.c H0.size 101 s := fun s hs => by
  rcases List.mem_append.1 hs with hs | hs
  · obtain ⟨q, hq, hs⟩ := List.mem_flatMap.1 hs
    rcases List.mem_cons.1 hs with rfl | hs
    · exact (h.cR q hq).vs.2
    · obtain ⟨p, hp, rfl⟩ := List.mem_map.1 hs
      exact ((h.cR q hq).pt p hp).2
  · obtain ⟨p, hp, rfl⟩ := List.mem_map.1 hs
    exact (h.kR p hp).2
theorem MacR.free {H0 H : Heap} {x : MG} (h : MacR H0 H x) {b : Nat} (hb : x.c b = 999) (e : x.g.ks.a = some (adr b) ∨ b = x.b) : False := by
  rcases e with e | rfl
  · have := (h.kv.2 b e).2; omega
  · have := h.run.2.2; omega
theorem MacR.keep {H0 H H' : Heap} {x : MG} (h : MacR H0 H x) {ks : Sl} {q : PtP} (hu : Upd (fun b => x.g.ks.a = some (adr b) ∨ b = x.b) H H') (hr : Row H' x.b T_machine_run (runV { x.g with ks := ks }))
    (hv : VecN H' T_api_Part 2 ks ((x.kp ++ [q]).flatMap ptV)) (hks : ks.a = x.g.ks.a ∨ ∃ b, ks.a = some (adr b) ∧ H.size ≤ b) (hq : Vec H T_int64 q.sl (ints q.vals)) (hqc : IsS x.c H0.size 999 q.sl) :
    MacR H0 H' { x with g := { x.g with ks := ks }, kp := x.kp ++ [q], c := dye H.size (recol x.c 999 101) fun _ => 202 } := by
  have hl := h.lowl
  have ht : Tch x.c H0.size (fun j => j = 202 ∨ j = 200 ∨ j = 999) H H' := Tch.of hu fun b _ e => by
    rcases e with e | rfl
    · exact ⟨(h.kv.2 b e).1, .inl (h.kv.2 b e).2⟩
    · exact ⟨h.run.2.1, .inr (.inl h.run.2.2)⟩
  have f := h.fr ht (agr_recol (n := H.size) (k := 101) (d := fun _ => 202) (.inr (.inr rfl)))
  exact { h with
    base := f.base, run := ⟨hr, is_dye (c := recol x.c 999 101) ⟨h.run.2.1, by unfold recol; rw [h.run.2.2, if_neg (by decide)]⟩ h.run.1.lt⟩
    lv := f.lv (by omega), lowR := fun i (hi : i < x.low.length) => f.lowR i hi (by omega), topR := (f.topR (by omega)).1, topI := (f.topR (by omega)).2, dice := f.dice (by omega), map := f.map (by omega), esR := f.esR (by omega)
    kv := ⟨hv, sl_dye h.kv.2 h.base.size hks (fun b hb => h.kv.1.lt hb) (by decide) fun _ _ => rfl⟩
    kR := fun p hp => by
      rcases List.mem_append.1 hp with hp | hp
      · exact f.kR (by omega) p hp
      · rw [List.mem_singleton.1 hp]
        exact ⟨hq.upd hu fun b hb e => h.free (hqc b hb).2 e, fun b hb => is_recol (hqc b hb) (hq.lt hb)⟩
    cv := f.cv (by omega), cR := f.cR (by omega) (by omega), ev := f.ev (by omega)
    outA := by
      have e : outL x.cl (x.kp ++ [q]) = outL x.cl x.kp ++ [q.sl] := by simp [outL]
      rw [e, List.pairwise_append]
      refine ⟨h.outA, List.pairwise_singleton _ _, fun s hs t ht => ?_⟩
      rw [List.mem_singleton.1 ht]
      exact apart_col (h.outCol s hs) hqc (by decide) }
theorem MacR.cmd {H0 H H' : Heap} {x : MG} (h : MacR H0 H x) {cs : Sl} {q : CmP} (hu : Upd (fun b => x.g.cs.a = some (adr b) ∨ b = x.b) H H') (hr : Row H' x.b T_machine_run (runV { x.g with cs := cs }))
    (hv : VecN H' T_api_Command 6 cs ((x.cl ++ [q]).flatMap cmV)) (hcs : cs.a = x.g.cs.a ∨ ∃ b, cs.a = some (adr b) ∧ H.size ≤ b) (hq : Vec H T_int64 q.vsl (ints q.vals)) (hqc : IsS x.c H0.size 999 q.vsl) (hp : q.parts = []) (hps : q.psl = ⟨none, 0, 0⟩) :
    MacR H0 H' { x with g := { x.g with cs := cs }, cl := x.cl ++ [q], c := dye H.size (recol x.c 999 101) fun _ => 203 } := by
  have hl := h.lowl
  have ht : Tch x.c H0.size (fun j => j = 203 ∨ j = 200 ∨ j = 999) H H' := Tch.of hu fun b _ e => by
    rcases e with e | rfl
    · exact ⟨(h.cv.2 b e).1, .inl (h.cv.2 b e).2⟩
    · exact ⟨h.run.2.1, .inr (.inl h.run.2.2)⟩
  have f := h.fr ht (agr_recol (n := H.size) (k := 101) (d := fun _ => 203) (.inr (.inr rfl)))
  exact { h with
    base := f.base, run := ⟨hr, is_dye (c := recol x.c 999 101) ⟨h.run.2.1, by unfold recol; rw [h.run.2.2, if_neg (by decide)]⟩ h.run.1.lt⟩
    lv := f.lv (by omega), lowR := fun i (hi : i < x.low.length) => f.lowR i hi (by omega), topR := (f.topR (by omega)).1, topI := (f.topR (by omega)).2, dice := f.dice (by omega), map := f.map (by omega), esR := f.esR (by omega)
    kv := f.kv (by omega), kR := f.kR (by omega)
    cv := ⟨hv, sl_dye h.cv.2 h.base.size hcs (fun b hb => h.cv.1.lt hb) (by decide) fun _ _ => rfl⟩
    cR := fun p hp' => by
      rcases List.mem_append.1 hp' with hp' | hp'
      · exact f.cR (by omega) (by omega) p hp'
      · rw [List.mem_singleton.1 hp']
        refine ⟨⟨hq.upd hu fun b hb e => ?_, fun b hb => is_recol (hqc b hb) (hq.lt hb)⟩, ?_, fun p hpp => by rw [hp] at hpp; cases hpp⟩
        · rcases e with e | rfl
          · have := (h.cv.2 b e).2; have := (hqc b hb).2; omega
          · have := h.run.2.2; have := (hqc _ hb).2; omega
        · rw [hp, hps]; exact VecNC.nil _ _ _ _ _ _
    ev := f.ev (by omega)
    outA := by
      have e : (outL x.cl x.kp ++ [q.vsl]).Perm (outL (x.cl ++ [q]) x.kp) := by
        simp only [outL, List.flatMap_append, List.flatMap_cons, List.flatMap_nil, List.append_nil, cmSl, hp, List.map_nil, List.append_assoc]
        exact List.perm_append_left_iff _ |>.2 List.perm_append_comm
      refine (e.pairwise_iff fun {a b} h => h.symm).1 ?_
      rw [List.pairwise_append]
      refine ⟨h.outA, List.pairwise_singleton _ _, fun s hs t ht => ?_⟩
      rw [List.mem_singleton.1 ht]
      exact apart_col (h.outCol s hs) hqc (by decide)
    parA := by
      rw [List.map_append, List.pairwise_append]
      refine ⟨h.parA, List.pairwise_singleton _ _, fun s hs t ht => ?_⟩
      rw [List.mem_singleton.1 ht, hps]
      exact apart_nil _ rfl }
theorem MacR.event {H0 H H' : Heap} {x : MG} (h : MacR H0 H x) {es : Sl} {q : Ev} (hu : Upd (fun b => x.g.es.a = some (adr b) ∨ b = x.b) H H') (hr : Row H' x.b T_machine_run (runV { x.g with es := es }))
    (hv : VecN H' T_api_Event 5 es ((x.evs ++ [q]).flatMap evV)) (hes : es.a = x.g.es.a ∨ ∃ b, es.a = some (adr b) ∧ H.size ≤ b) :
    MacR H0 H' { x with g := { x.g with es := es }, evs := x.evs ++ [q], c := dye H.size (recol x.c 999 101) fun _ => 204 } := by
  have hl := h.lowl
  have ht : Tch x.c H0.size (fun j => j = 204 ∨ j = 200 ∨ j = 999) H H' := Tch.of hu fun b _ e => by
    rcases e with e | rfl
    · exact ⟨(h.ev.2 b e).1, .inl (h.ev.2 b e).2⟩
    · exact ⟨h.run.2.1, .inr (.inl h.run.2.2)⟩
  have f := h.fr ht (agr_recol (n := H.size) (k := 101) (d := fun _ => 204) (.inr (.inr rfl)))
  exact { h with
    base := f.base, run := ⟨hr, is_dye (c := recol x.c 999 101) ⟨h.run.2.1, by unfold recol; rw [h.run.2.2, if_neg (by decide)]⟩ h.run.1.lt⟩
    lv := f.lv (by omega), lowR := fun i (hi : i < x.low.length) => f.lowR i hi (by omega), topR := (f.topR (by omega)).1, topI := (f.topR (by omega)).2, dice := f.dice (by omega), map := f.map (by omega), esR := f.esR (by omega)
    kv := f.kv (by omega), kR := f.kR (by omega), cv := f.cv (by omega), cR := f.cR (by omega) (by omega)
    ev := ⟨hv, sl_dye h.ev.2 h.base.size hes (fun b hb => h.ev.1.lt hb) (by decide) fun _ _ => rfl⟩ }
theorem MacR.call {H0 H H' : Heap} {x : MG} (h : MacR H0 H x) (hlt : x.low.length + 1 ≤ 16) {ls : Sl} {t : AP} (hu : Upd (fun b => x.g.ls.a = some (adr b) ∨ b = x.b) H H') (hr : Row H' x.b T_machine_run (runV { x.g with ls := ls }))
    (hv : Vec H' T_P_machine_activation ls (ptrs (x.low ++ [x.top] ++ [t]))) (hls : ls.a = x.g.ls.a ∨ ∃ b, ls.a = some (adr b) ∧ H.size ≤ b) (ht' : ActR H' t) (htb : ∀ b, ActB t b → H.size ≤ b) (hc : CodeR H0 t.r) :
    MacR H0 H' { x with g := { x.g with ls := ls }, low := x.low ++ [x.top], top := t, c := dye H.size (recol x.c 999 101) fun b => if ls.a = some (adr b) then 201 else x.low.length + 1 } := by
  have hl := h.lowl
  have ht : Tch x.c H0.size (fun j => j = 201 ∨ j = 200 ∨ j = 999) H H' := Tch.of hu fun b _ e => by
    rcases e with e | rfl
    · exact ⟨(h.lv.2 b e).1, .inl (h.lv.2 b e).2⟩
    · exact ⟨h.run.2.1, .inr (.inl h.run.2.2)⟩
  have f := h.fr ht (agr_recol (n := H.size) (k := 101) (d := fun b => if ls.a = some (adr b) then 201 else x.low.length + 1) (.inr (.inr rfl)))
  have hne : ∀ b, ActB t b → ls.a ≠ some (adr b) := fun b hb e => by
    rcases hb with rfl | hb | hb
    · exact hv.ne e ht'.row (by decide) rfl
    · rcases ht'.loc.own with ⟨h1, _⟩ | ⟨c, sp, h1, h2, _⟩
      · rw [h1] at hb; cases hb
      · rw [h1] at hb; cases hb; exact hv.ne e h2 (by decide) rfl
    · rcases ht'.stk.own with ⟨h1, _⟩ | ⟨c, sp, h1, h2, _⟩
      · rw [h1] at hb; cases hb
      · rw [h1] at hb; cases hb; exact hv.ne e h2 (by decide) rfl
  exact { h with
    base := f.base, run := ⟨hr, is_dye (c := recol x.c 999 101) ⟨h.run.2.1, by unfold recol; rw [h.run.2.2, if_neg (by decide)]⟩ h.run.1.lt⟩
    lv := ⟨hv, sl_dye h.lv.2 h.base.size hls (fun b hb => h.lv.1.lt hb) (by decide) fun b hb => if_pos hb⟩
    lowR := fun i hi => by
      have hi' : i < x.low.length + 1 := by simpa using hi
      by_cases e : i < x.low.length
      · have := f.lowR i e (by omega)
        simp only [List.getElem_append_left e]; exact this
      · have e : i = x.low.length := by omega
        subst e
        simp only [List.getElem_concat_length]
        exact f.topR (by omega)
    topR := ht'
    topI := fun b hb => by
      refine is_new h.base.size (htb b hb) ?_
      dsimp only
      rw [if_neg (hne b hb)]; simp
    codes := fun a ha => by
      rcases List.mem_append.1 ha with ha | ha
      · exact h.codes a ha
      · rw [List.mem_singleton.1 ha]; exact hc
    lowl := by simpa using hlt
    dice := f.dice (by omega), map := f.map (by omega), esR := f.esR (by omega)
    kv := f.kv (by omega), kR := f.kR (by omega), cv := f.cv (by omega), cR := f.cR (by omega) (by omega), ev := f.ev (by omega) }
theorem MacR.ret {H0 H H' : Heap} {x : MG} (h : MacR H0 H x) {low : List AP} {t : AP} (hlow : x.low = low ++ [t]) {ls : Sl} (hu : Upd (· = x.b) H H') (hr : Row H' x.b T_machine_run (runV { x.g with ls := ls }))
    (hv : Vec H' T_P_machine_activation ls (ptrs (low ++ [t]))) (hls : ls.a = x.g.ls.a) : MacR H0 H' { x with g := { x.g with ls := ls }, low := low, top := t } := by
  have hl := h.lowl
  have hll : x.low.length = low.length + 1 := by rw [hlow]; simp
  have f := h.fr (S := (· = 200)) (tch_row hu h.run.2 rfl) (c' := x.c) fun j _ y _ e => e
  have hlast : x.low[low.length]'(by omega) = t := by simp [hlow]
  exact { h with
    base := f.base, run := ⟨hr, h.run.2⟩, lv := ⟨hv, fun b hb => h.lv.2 b (by rw [← hls]; exact hb)⟩
    lowR := fun i (hi : i < low.length) => by
      have := f.lowR i (by omega) (by omega)
      have e : x.low[i]'(by omega) = low[i] := by simp [hlow, List.getElem_append_left hi]
      rw [e] at this; exact this
    topR := by have := (f.lowR low.length (by omega) (by omega)).1; rw [hlast] at this; exact this
    topI := by have := (f.lowR low.length (by omega) (by omega)).2; rw [hlast] at this; exact this
    codes := fun a ha => h.codes a (by rw [hlow]; exact List.mem_append_left _ ha)
    lowl := by show low.length ≤ 16; omega
    dice := f.dice (by omega), map := f.map (by omega), esR := f.esR (by omega)
    kv := f.kv (by omega), kR := f.kR (by omega), cv := f.cv (by omega), cR := f.cR (by omega) (by omega), ev := f.ev (by omega) }
theorem mapEnts_congr : ∀ {n : Nat} {l l' : List PtP}, l.map (fun q => (q.kind, q.sl)) = l'.map (fun q => (q.kind, q.sl)) → mapEnts n l = mapEnts n l'
  | _, [], [], _ => rfl
  | _, [], _ :: _, h => by cases h
  | _, _ :: _, [], h => by cases h
  | n, x :: r, y :: r', h => by
    simp only [List.map_cons, List.cons.injEq, Prod.mk.injEq] at h
    unfold mapEnts
    rw [h.1.1, h.1.2, mapEnts_congr h.2]
theorem MacR.put {H0 H H' : Heap} {x : MG} (h : MacR H0 H x) {j : Nat} (hj : j < x.es.length) {b : Nat} (hb : x.es[j].sl.a = some (adr b)) (hu : Upd (· = b) H H') {vs : List Int} (hv : Vec H' T_int64 x.es[j].sl (ints vs)) :
    MacR H0 H' { x with es := x.es.set j { x.es[j] with vals := vs } } := by
  have hl := h.lowl
  have hmem := List.getElem_mem hj
  have hbc := (h.esR _ hmem).2 b hb
  have f := h.fr (S := (· = 100)) (tch_row hu hbc rfl) (c' := x.c) fun j _ y _ e => e
  have hk : ∀ {α : Type} (g : PtP → α), (g { x.es[j] with vals := vs } = g x.es[j]) → (x.es.set j { x.es[j] with vals := vs }).map g = x.es.map g := fun g hg => by
    rw [List.map_set, hg]
    apply List.ext_getElem
    · simp
    · intro i h1 h2
      rw [List.getElem_set]
      split
      · rename_i e; subst e; simp
      · rfl
  exact { h with
    base := f.base, run := f.run (by omega), lv := f.lv (by omega), lowR := fun i (hi : i < x.low.length) => f.lowR i hi (by omega), topR := (f.topR (by omega)).1, dice := f.dice (by omega)
    map := by
      have := f.map (by omega)
      dsimp only
      rw [List.length_set, mapEnts_congr (hk (fun q => (q.kind, q.sl)) rfl)]; exact this
    esR := fun q hq => by
      obtain ⟨i, hi, e⟩ := List.getElem_of_mem hq
      rw [List.length_set] at hi
      rw [List.getElem_set] at e
      split at e
      · subst e; exact ⟨hv, (h.esR _ hmem).2⟩
      · rename_i hne
        subst e
        have hr := h.esR _ (List.getElem_mem hi)
        refine ⟨hr.1.upd hu fun b' hb' e => ?_, hr.2⟩
        subst e
        rcases Nat.lt_or_ge i j with hlt | hge
        · exact List.pairwise_iff_getElem.1 h.esA i j hi hj hlt b' hb' hb
        · exact List.pairwise_iff_getElem.1 h.esA j i hj hi (by omega) b' hb hb'
    esA := by
      have e := hk PtP.sl rfl
      have := h.esA
      rw [← List.pairwise_map (f := PtP.sl) (R := Apart)] at this ⊢
      rw [e]; exact this
    esK := by
      have e := hk PtP.kind rfl
      dsimp only
      rw [e]; exact h.esK
    kv := f.kv (by omega), kR := f.kR (by omega), cv := f.cv (by omega), cR := f.cR (by omega) (by omega), ev := f.ev (by omega) }
abbrev spawned (ks : Sl) (kp : List PtP) : CmP := ⟨1, (0, 0), 0, ⟨none, 0, 0⟩, [], ks, kp⟩
theorem MacR.spawn {H0 H H' : Heap} {x : MG} (h : MacR H0 H x) {cs : Sl} {kp : List PtP} (hp : kp.Perm x.kp) (hu : Upd (fun b => x.g.ks.a = some (adr b) ∨ x.g.cs.a = some (adr b) ∨ b = x.b) H H')
    (hr : Row H' x.b T_machine_run (runV { x.g with cs := cs, ks := ⟨none, 0, 0⟩ })) (hk : VecN H' T_api_Part 2 x.g.ks (kp.flatMap ptV))
    (hv : VecN H' T_api_Command 6 cs ((x.cl ++ [spawned x.g.ks kp]).flatMap cmV)) (hcs : cs.a = x.g.cs.a ∨ ∃ b, cs.a = some (adr b) ∧ H.size ≤ b) :
    MacR H0 H' { x with g := { x.g with cs := cs, ks := ⟨none, 0, 0⟩ }, cl := x.cl ++ [spawned x.g.ks kp], kp := [], c := dye H.size (recol x.c 202 207) fun _ => 203 } := by
  have hl := h.lowl
  have ht : Tch x.c H0.size (fun j => j = 203 ∨ j = 200 ∨ j = 202) H H' := Tch.of hu fun b _ e => by
    rcases e with e | e | rfl
    · exact ⟨(h.kv.2 b e).1, .inr (.inr (h.kv.2 b e).2)⟩
    · exact ⟨(h.cv.2 b e).1, .inl (h.cv.2 b e).2⟩
    · exact ⟨h.run.2.1, .inr (.inl h.run.2.2)⟩
  have f := h.fr ht (agr_recol (n := H.size) (k := 207) (d := fun _ => 203) (.inr (.inr rfl)))
  exact { h with
    base := f.base, run := ⟨hr, is_dye (c := recol x.c 202 207) ⟨h.run.2.1, by unfold recol; rw [h.run.2.2, if_neg (by decide)]⟩ h.run.1.lt⟩
    lv := f.lv (by omega), lowR := fun i (hi : i < x.low.length) => f.lowR i hi (by omega), topR := (f.topR (by omega)).1, topI := (f.topR (by omega)).2, dice := f.dice (by omega), map := f.map (by omega), esR := f.esR (by omega)
    kv := VecNC.nil _ _ _ _ _ _, kR := fun p hp => by cases hp
    cv := ⟨hv, sl_dye h.cv.2 h.base.size hcs (fun b hb => h.cv.1.lt hb) (by decide) fun _ _ => rfl⟩
    cR := fun p hp' => by
      rcases List.mem_append.1 hp' with hp' | hp'
      · exact f.cR (by omega) (by omega) p hp'
      · rw [List.mem_singleton.1 hp']
        exact ⟨VecC.nil _ _ _ _ _, ⟨hk, fun b hb => is_recol (h.kv.2 b hb) (h.kv.1.lt hb)⟩, fun p hpp => f.kR (by omega) p (hp.subset hpp)⟩
    ev := f.ev (by omega)
    outA := by
      have e : (outL x.cl x.kp ++ [(⟨none, 0, 0⟩ : Sl)]).Perm (outL (x.cl ++ [spawned x.g.ks kp]) []) := by
        simp only [outL, List.flatMap_append, List.flatMap_cons, List.flatMap_nil, List.append_nil, cmSl, List.map_nil, List.append_assoc]
        refine List.perm_append_left_iff _ |>.2 (List.perm_append_comm.trans ?_)
        exact (hp.symm.map _).cons _
      refine (e.pairwise_iff fun {a b} h => h.symm).1 ?_
      rw [List.pairwise_append]
      refine ⟨h.outA, List.pairwise_singleton _ _, fun s hs t ht => ?_⟩
      rw [List.mem_singleton.1 ht]
      exact apart_nil _ rfl
    parA := by
      rw [List.map_append, List.pairwise_append]
      refine ⟨h.parA, List.pairwise_singleton _ _, fun s hs t ht => ?_⟩
      rw [List.mem_singleton.1 ht]
      obtain ⟨q, hq, rfl⟩ := List.mem_map.1 hs
      exact apart_col (h.cR q hq).ps.2 h.kv.2 (by decide) }
end
end Go.Proofs.YtfpmgpblhhcpgaaGreat
