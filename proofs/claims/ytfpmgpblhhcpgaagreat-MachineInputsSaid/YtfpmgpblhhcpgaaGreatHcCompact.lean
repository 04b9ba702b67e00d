/-
  Machine: an instruction that is ready is done.
-/
import Derived.Test.YtfpmgpblhhcpgaaGreatMJ
import Derived.Shelf.Small.Bits
import Derived.Shelf.Small.Wraps
import Derived.Shelf.Strconv.Itoa0
import Derived.Shelf.Sort.Plain
import Derived.Shelf.Slices.Turned
import Derived.Ground.Names2Prog
import Derived.Shelf.Slices.Clone
import Derived.Shelf.Slices.CompactI
import Derived.Shelf.Slices.SearchI
import Derived.Shelf.Slices.Cells
import Derived.Shelf.Slices.In.SortNone
import Derived.Ground.SlgnProg
import Derived.Shelf.SlicesG.Turned
import Derived.Shelf.SlicesG.Clone
import Derived.Shelf.SlicesE.Clone
import Derived.Test.YtfpmgpblhhcpgaaGreatProg
import Derived.Test.YtfpmgpblhhcpgaaGreatMD
import Derived.Lib.SlicesCompact
namespace Go.Proofs.YtfpmgpblhhcpgaaGreat
set_option linter.unusedVariables false
set_option linter.unusedSimpArgs false
open Go.Proofs.YtfpmgpblhhcpgaaGreat.Hc Go.Proofs.YtfpmgpblhhcpgaaGreat.Hc.Vf Go.Proofs.YtfpmgpblhhcpgaaGreat.Hc.Mc Go.Proofs.YtfpmgpblhhcpgaaGreat.Hc.Dice
set_option maxRecDepth 100000
variable {H : Heap}

theorem act_congr {P : MP} {E : En} {m m1 : Ms} {l : List Int} {op : Nat} {A nx si : Int} : act P E { m with top := { m.top with nx := nx }, since := si } m1 l op A = act P E m m1 l op A := by
  unfold act
  split <;> rfl
/-- An element of a slice of one's own is written. -/
theorem vec_st {T : TypeId} {s : Sl} {vs : List Value} (h : Vec H T s vs) {i : Int} {j : Nat} (hi : i = j) (hj : j < vs.length) {v : Value} {k : Heap → Prop} (hk : ∀ H' b, s.a = some (adr b) → Upd (· = b) H H' → Vec H' T s (vs.set j v) → k H') :
    IxA 1 s i fun a => St a v H k := by
  subst hi
  have hl := h.len
  rcases h.own with ⟨_, _, h3⟩ | ⟨b, sp, h1, h2, h3⟩
  · rw [h3] at hj; simp at hj
  · refine IxA.mk h1 (by omega) (by omega) ?_
    rw [Int.toNat_natCast, adr_add, Nat.mul_one]
    refine St_row h2 (by rw [List.length_append]; omega) fun H' hU _ hr => hk H' b h1 hU ⟨by rw [List.length_set]; exact hl, .inr ⟨b, sp, h1, ?_, by rw [List.length_set]; exact h3⟩, h.lc⟩
    rwa [List.set_append_left _ _ hj] at hr
theorem ints_setI (xs : List Int) (i : Nat) (x : Int) : (ints xs).set i (.int .i64 x) = ints (xs.set i x) := by simp [ints, List.map_set]
theorem s_kept {H0 : Heap} {x : MG} (h : MacR H0 H x) (her : x.g.er = 0) {op A : Int} (hop : op = 26 ∨ op = 28) (hA : I64 A) (hA0 : 0 ≤ A) (ht : A % 8 ≤ x.top.stk.length) (hsl : x.top.stk.length ≤ 64) (hkl : x.kp.length ≤ 12) (hcl : x.cl.length ≤ 16) (P : MP) (E : En) (hE : E.idx = x.g.ix ∧ E.gen = x.g.gn) {k : Unit → Heap → Prop}
    (hk : ∀ H' x', Post H0 x (act P E x.ms (cutS x.ms (A % 8).toNat) (args x.ms (A % 8).toNat) op.toNat A) H' x' → k () H') :
    CallT Pg f_machine_run_kept [.pointer (some (adr x.b)), .agg #[.int .i64 op, .int .i64 A]] (.tup []) H k := by
  refine c_machine_run_kept _ (op, A) ?_
  unfold v_machine_run_kept
  refine Nw_row (vs := [.int .i64 op, .int .i64 A]) fun b1 H1 hb1 hE1 hz1 hr1 => ?_
  have h1 := h.ext hE1
  have bp : b1 ≠ x.top.p := by have := h.topR.row.lt; omega
  have c1 : hcell H1 ⟨b1, 1, none⟩ = some (.int .i64 A) := (hr1.cell 1).trans rfl
  simp only [NilCk_some, adr_add, mk_add]
  refine Ld_int c1 ⟨by omega, ?_⟩
  rw [Int.tmod_eq_emod_of_nonneg hA0]
  refine s_last h1 (Stab_1 c1 (m_take h1 (n := (A % 8).toNat) (by omega) (by omega) (by omega) fun r H2 c2 hU2 h2 hv2 hf2 => ?_))
  have hr2 : Row H2 b1 T_api_Instr [.int .i64 op, .int .i64 A] := hU2.row hr1 bp
  have c12 : hcell H2 ⟨b1, 1, none⟩ = some (.int .i64 A) := (hr2.cell 1).trans rfl
  refine Stab_1 c12 (Ld_int c12 ⟨by omega, ?_⟩)
  rw [tdiv8 hA0 hA]
  refine Ld_int (n := op) ((hr2.cell 0).trans rfl) (Br.mk (fun ho => ?_) fun ho => ?_)
  · have ho := beqI ho; subst ho
    refine Ld_sl (s := x.g.ks) ((h2.run.1.cell 20).trans rfl) ?_
    refine Nw_row (vs := [.int .i64 (A / 8), slV r]) fun b2 H3 hb2 hE3 hz3 hr3 => ?_
    have h3 := h2.ext hE3
    have hkv := h3.kv.1
    have hkvl := hkv.len
    rw [flat_len ptV_len] at hkvl
    dsimp only at hkv hkvl
    refine App_vecN (ws := ptV ⟨A / 8, r, x.top.stk.drop (x.top.stk.length - (A % 8).toNat)⟩) rfl (by decide) hkv hr3.rd_all rfl (fun w hw => ?_) (by decide) (by dsimp only; omega) fun ks H4 hv4 hl4 hU4 ha4 => ?_
    · simp only [ptV, List.mem_cons, List.not_mem_nil, or_false] at hw
      rcases hw with rfl | rfl <;> rfl
    have hrun4 := hU4.row h3.run.1 fun e => hkv.ne e.1 h3.run.1 (by decide) rfl
    refine St_row hrun4 (by simp) fun H5 hU5 _ hr5 => ?_
    have hfin := h2.keep (ks := ks) (q := ⟨A / 8, r, x.top.stk.drop (x.top.stk.length - (A % 8).toNat)⟩) (((hE3.mono fun _ _ h => h.elim).trans (hU4.mono fun _ _ e => .inl e.1) fun _ _ e => e).trans hU5 fun _ _ e => .inr e) hr5 (by
      have := hv4.upd hU5 fun b hb e => hv4.ne hb hrun4 (by decide) e
      simpa using this) (ha4.imp (fun e => e.1) fun e => ⟨_, e, hE3.size⟩) hv2 hf2
    refine hk H5 _ ⟨hfin, rfl, rfl, her, fun _ => ?_, rfl⟩
    show _ = { cutS x.ms (A % 8).toNat with kept := x.ms.kept ++ [(⟨A / 8, args x.ms (A % 8).toNat⟩ : Pt)] }
    simp only [MG.ms, List.map_append, List.map_cons, List.map_nil]
    rfl
  · have ho2 : op = 28 := by have := bneI ho; omega
    subst ho2
    refine ⟨(x.g.ix, x.g.gn), ?_, ?_⟩
    · rw [hcells_iff]
      intro o ho
      have ho : o < 2 := ho
      rw [mk_add, h2.run.1.cell]
      match o, ho with
      | 0, _ => rfl
      | 1, _ => rfl
    refine m_cmd h2 (q := ⟨3, (x.g.ix, x.g.gn), A / 8, r, x.top.stk.drop (x.top.stk.length - (A % 8).toNat), ⟨none, 0, 0⟩, []⟩) hcl hv2 hf2 rfl rfl fun H4 cs c4 h4 => ?_
    refine hk H4 _ ⟨h4, rfl, rfl, her, fun _ => ?_, rfl⟩
    show _ = { cutS x.ms (A % 8).toNat with cmds := x.ms.cmds ++ [(⟨3, (E.idx, E.gen), A / 8, args x.ms (A % 8).toNat, []⟩ : Cm)] }
    rw [hE.1, hE.2]
    simp only [MG.ms, List.map_append, List.map_cons, List.map_nil]
    rfl
/-- The instruction that is next: the place and the count go on. -/
abbrev MG.bump (x : MG) (c : Col) : MG := { x with top := { x.top with nx := x.top.nx + 1, v := x.top.v + 1 }, g := { x.g with si := x.g.si + 1 }, c := c }
theorem bump_post {H0 H' : Heap} {x x' : MG} {c : Col} {res : Int × Ms} (h : Post H0 (x.bump c) res H' x') : Post H0 x res H' x' := ⟨h.mac, h.b, h.st, h.er, h.ms, h.steps⟩
theorem does_act {P : MP} {E : En} {x : MG} {c : Col} {i : Ins} (hb : isBin i.1 = false) (hu : isUn i.1 = false) :
    does P E x.ms i = act P E (x.bump c).ms (cutS (x.bump c).ms (takes P.ps i).toNat) (args (x.bump c).ms (takes P.ps i).toNat) i.1.toNat i.2 := by
  unfold does
  dsimp only
  rw [if_neg (by rw [hb]; decide), if_neg (by rw [hu]; decide)]
  exact (act_congr (m := x.ms) (nx := x.top.nx + 1) (si := x.g.si + 1)).symm
theorem s_store {H0 : Heap} {x : MG} (h : MacR H0 H x) {A w : Int} (hA : 0 ≤ A ∧ A < (x.top.loc.length : Int)) {k : Heap → Prop} (hk : ∀ H' c, MacR H0 H' { x with top := { x.top with loc := x.top.loc.set A.toNat w }, c := c } → k H') :
    IxA 1 x.top.ls A fun a => St a (.int .i64 w) H k := by
  refine vec_st h.topR.loc (j := A.toNat) (by omega) (by rw [List.length_map]; omega) fun H' b hb hU hv => hk H' _ (h.top (t := { x.top with loc := x.top.loc.set A.toNat w }) (d := fun _ => 999) (tch_row hU (h.topI _ (.inr (.inl hb))) rfl) ⟨?_, ?_, ?_, h.topR.ap, h.topR.nxr⟩ rfl rfl fun b hb => .inl hb)
  · exact hU.row h.topR.row fun e => h.topR.neL hb e.symm
  · rw [ints_setI] at hv; exact hv
  · exact h.topR.stk.upd hU fun b' hb' e => h.topR.ap b hb (e ▸ hb')
theorem s_putf {H0 : Heap} {x : MG} (h : MacR H0 H x) {j : Nat} (hj : j < x.es.length) {i w : Int} (hi : 0 ≤ i ∧ i < (x.es[j].vals.length : Int)) {k : Heap → Prop} (hk : ∀ H', MacR H0 H' { x with es := x.es.set j { x.es[j] with vals := x.es[j].vals.set i.toNat w } } → k H') :
    IxA 1 x.es[j].sl i fun a => St a (.int .i64 w) H k := by
  refine vec_st (h.esR _ (List.getElem_mem hj)).1 (j := i.toNat) (by omega) (by rw [List.length_map]; omega) fun H' b hb hU hv => hk H' (h.put hj hb hU ?_)
  rw [ints_setI] at hv; exact hv
theorem s_does (hin : InputOk) {H0 : Heap} {x : MG} {fs : List Rou} {ins : List (Int × Int × Int)} (h : MacR H0 H x) (hc : CtxR H0 x.g.pF x.g.s x.g.inS fs ins) (her : x.g.er = 0) (hP : POk (mpOf x.g fs)) (hM : MOk (mpOf x.g fs) x.ms) {i : Ins} (hr : Rdy (mpOf x.g fs) x.ms i) {k : Unit → Heap → Prop}
    (hk : ∀ H' x', Post H0 x (does (mpOf x.g fs) (enOf x.g ins) x.ms i) H' x' → k () H') :
    CallT Pg f_machine_run_does [.pointer (some (adr x.b)), .agg #[.int .i64 i.1, .int .i64 i.2]] (.tup []) H k := by
  have hps : (mpOf x.g fs).ps = parms fs := by simp [MP.ps, parms]
  have hi64 := (hM.top.fnOk hP).code i hr.get
  have hop := hr.op
  have hstk := hr.stk
  have hnx := hr.nx
  have hsince := hr.since
  have hsl : x.top.stk.length ≤ 64 := hM.top.stk
  have hsi := hM.since
  have hcode : (x.top.r.code.length : Int) ≤ 2 ^ 62 := by
    have := (hM.top.fnOk hP).len
    have e : x.ms.top.fn.code.length = x.top.r.code.length := rfl
    omega
  have hv : x.top.v = x.top.nx := by
    rcases h.topR.nxr with e | ⟨e, _⟩
    · exact e
    · exact absurd hnx e
  rw [hps] at hstk
  have hstk : takes (parms fs) i ≤ (x.top.stk.length : Int) ∧ (x.top.stk.length : Int) - takes (parms fs) i + puts i ≤ 64 := hstk
  refine c_machine_run_does _ i ?_
  unfold v_machine_run_does
  refine Nw_row (vs := insV i) fun b1 H1 hb1 hE1 hz1 hr1 => ?_
  have h1 := h.ext hE1
  refine s_last h1 ?_
  simp only [NilCk_some, adr_add, mk_add]
  have hnx' : 0 ≤ x.top.nx ∧ x.top.nx < (x.top.r.code.length : Int) := hnx
  refine Ld_int (n := x.top.v) ((h1.topR.row.cell 6).trans rfl) (Lt.mk (u := x.top.v + 1) (by rw [wrap_i64_id (by omega) (by omega)]) ?_)
  refine m_cell h1 (t := { x.top with nx := x.top.nx + 1, v := x.top.v + 1 }) (by decide) rfl rfl rfl rfl rfl rfl rfl (.inl (by dsimp only; omega)) fun H2 c2 hU2 _ h2 => ?_
  have hsi' : 0 ≤ x.g.si ∧ x.g.si < 40000 := ⟨hsi.1, hsince⟩
  refine Ld_int (n := x.g.si) ((h2.run.1.cell 27).trans rfl) (Lt.mk (u := x.g.si + 1) (by rw [wrap_i64_id (by omega) (by omega)]) ?_)
  refine St_row h2.run.1 (by simp) fun H3 hU3 _ hr3 => ?_
  have h3 : MacR H0 H3 (x.bump c2) := h2.num (st := x.g.st) (er := x.g.er) (si := x.g.si + 1) (ov := x.g.ov) hU3 hr3
  have hlo : x.top.p < H1.size := h1.topR.row.lt
  have hlb : x.b < H1.size := h1.run.1.lt
  have rb : Row H3 b1 T_api_Instr (insV i) := hU3.row (hU2.row hr1 (by have := h.topR.row.lt; omega)) (by have := h.run.1.lt; omega)
  refine Ld_int (n := i.1) ((rb.cell 0).trans rfl) (s_deedOf fun H4 n v hE4 hv1 hD => ?_)
  have h4 := h3.ext hE4
  have rb4 := hE4.row rb fun h => h
  refine Nw_row (vs := [.int .i64 0, .nilFunc]) fun b2 H5 hb2 hE5 hz5 hr5 => ?_
  refine St_row hr5 (by simp) fun H6 hU6 _ hr6 => ⟨hv1, St_row hr6 (by simp) fun H7 hU7 _ hr7 => ?_⟩
  have hE47 : Ext H4 H7 := extUpd hE5 (by omega) (hU6.trans hU7 fun _ _ e => e)
  have h7 := h4.ext hE47
  have rb7 := hE47.row rb4 fun h => h
  have hD7 := hD.upd hE47 fun _ _ _ _ _ h => h
  have hyp : (x.bump c2).top.p = x.top.p := rfl
  refine Br.mk (fun hre => ?_) fun hre => ?_
  · -- it reckons
    refine ⟨v, (hr7.cell 1).trans rfl, Ld_int (n := n) ((hr7.cell 0).trans rfl) ?_⟩
    have hm : isBin i.1 = true ∨ isUn i.1 = true := by simpa using hre
    have hb2x : b2 ≠ x.top.p := by have := hE4.size; have := hU3.size; have := hU2.size; omega
    rcases hm with hb | hu
    · obtain ⟨hn, hDB⟩ := hD7.1 hb
      subst hn
      have ht := (takes_bin (ps := parms fs) hop hb).1
      rw [ht] at hstk
      refine m_take h7 (n := 2) rfl (by dsimp only; omega) (by dsimp only; omega) fun r H8 c8 hU8 h8 hv8 hf8 => ?_
      have hb28 : Row H8 b2 T_machine_deed _ := hU8.row hr7 hb2x
      refine Stab_1 ((hb28.cell 1).trans rfl) ?_
      have hx : (x.top.stk.drop (x.top.stk.length - 2)).length = 2 := by simp; omega
      have ha : args x.ms 2 = x.top.stk.drop (x.top.stk.length - 2) := rfl
      dsimp only at hv8
      have hdo : does (mpOf x.g fs) (enOf x.g ins) x.ms i = ((0 : Int), (cut x.ms 2).push (binI i.1.toNat (args x.ms 2)[0]! (args x.ms 2)[1]!)) := by
        unfold does
        rw [hps, ht, if_pos hb]; rfl
      rw [hdo, ha] at hk
      generalize hl : x.top.stk.drop (x.top.stk.length - 2) = l at *
      match l, hx with
      | [w, z], _ =>
        refine (hDB.upd hU8 fun b vs hr e => hr.ne h7.topR.row (by decide) e).call hv8 ?_
        refine Stab_1 ((hb28.cell 0).trans rfl) (m_push h8 (by simp; omega) fun ss H9 c9 hU9 h9 => ?_)
        have hb29 : Row H9 b2 T_machine_deed _ := hU9.row hb28 fun e => e.elim hb2x fun e => by have := h.topR.stk.lt e; have := hE4.size; have := hU3.size; have := hU2.size; omega
        exact Stab_2 ((hb29.cell 0).trans rfl) ((hb29.cell 1).trans rfl) (hk H9 _ ⟨h9, rfl, rfl, her, fun _ => rfl, rfl⟩)
    · obtain ⟨hn, hDB⟩ := hD7.2 hu
      subst hn
      have ht := (takes_un (ps := parms fs) hop hu).1
      rw [ht] at hstk
      refine m_take h7 (n := 1) rfl (by dsimp only; omega) (by dsimp only; omega) fun r H8 c8 hU8 h8 hv8 hf8 => ?_
      have hb28 : Row H8 b2 T_machine_deed _ := hU8.row hr7 hb2x
      refine Stab_1 ((hb28.cell 1).trans rfl) ?_
      have hx : (x.top.stk.drop (x.top.stk.length - 1)).length = 1 := by simp; omega
      have ha : args x.ms 1 = x.top.stk.drop (x.top.stk.length - 1) := rfl
      dsimp only at hv8
      have hnb : isBin i.1 = false := by
        cases e : isBin i.1 with
        | false => rfl
        | true => have := (takes_bin (ps := parms fs) hop e).1; omega
      have hdo : does (mpOf x.g fs) (enOf x.g ins) x.ms i = ((0 : Int), (cut x.ms 1).push (unI i.1.toNat (args x.ms 1)[0]!)) := by
        unfold does
        dsimp only
        rw [hps, ht, if_neg (by rw [hnb]; decide), if_pos hu]; rfl
      rw [hdo, ha] at hk
      generalize hl : x.top.stk.drop (x.top.stk.length - 1) = l at *
      match l, hx with
      | [w], _ =>
        refine (hDB.upd hU8 fun b vs hr e => hr.ne h7.topR.row (by decide) e).call hv8 ?_
        refine Stab_1 ((hb28.cell 0).trans rfl) (m_push h8 (by simp; omega) fun ss H9 c9 hU9 h9 => ?_)
        have hb29 : Row H9 b2 T_machine_deed _ := hU9.row hb28 fun e => e.elim hb2x fun e => by have := h.topR.stk.lt e; have := hE4.size; have := hU3.size; have := hU2.size; omega
        exact Stab_2 ((hb29.cell 0).trans rfl) ((hb29.cell 1).trans rfl) (hk H9 _ ⟨h9, rfl, rfl, her, fun _ => rfl, rfl⟩)
  have hnb : isBin i.1 = false := by revert hre; cases isBin i.1 <;> simp
  have hnu : isUn i.1 = false := by revert hre; cases isUn i.1 <;> simp
  rw [does_act (c := c2) hnb hnu, hps] at hk
  have hk : ∀ H' x', Post H0 (x.bump c2) (act (mpOf x.g fs) (enOf x.g ins) (x.bump c2).ms (cutS (x.bump c2).ms (takes (parms fs) i).toNat) (args (x.bump c2).ms (takes (parms fs) i).toNat) i.1.toNat i.2) H' x' → k () H' := fun H' x' hp => hk H' x' (bump_post hp)
  obtain ⟨op, A⟩ := i
  dsimp only at hop hi64 hstk hnb hnu hk rb7
  have hA := hi64.2
  have hA2 := hA
  unfold I64 at hA2
  have hacc := hr.acc
  have hroom := hr.room
  unfold access at hacc
  dsimp only at hacc hroom
  have hacc : accessM (mpOf x.g fs) x.ms op.toNat A = true := by
    split at hacc
    · cases hacc
    · exact hacc
  have hlowl := h.lowl
  have hx1 : op = 2 ∨ op = 3 → 0 ≤ A ∧ A < (x.top.loc.length : Int) := fun e => by
    rcases e with rfl | rfl <;> exact of_decide_eq_true hacc
  have hfo : ∀ set, fieldOk x.ms.vals A set = true → 0 ≤ A ∧ ∃ v, lookV x.ms.vals (A / 8) = some v ∧ A % 8 < (v.length : Int) := fun set e => by
    unfold fieldOk at e
    simp only [Bool.and_eq_true, decide_eq_true_eq] at e
    refine ⟨e.1.1, ?_⟩
    have e2 := e.1.2
    cases hl : lookV x.ms.vals (A / 8) with
    | none => rw [hl] at e2; cases e2
    | some v => rw [hl] at e2; exact ⟨v, rfl, of_decide_eq_true e2⟩
  have hx4 : op = 4 ∨ op = 5 → 0 ≤ A ∧ ∃ v, lookV x.ms.vals (A / 8) = some v ∧ A % 8 < (v.length : Int) := fun e => by
    rcases e with rfl | rfl <;> exact hfo _ hacc
  have hx21 : op = 21 → 0 ≤ A ∧ A < (fs.length : Int) ∧ x.low.length + 1 ≤ 16 := fun e => by
    subst e
    have := of_decide_eq_true (show decide (0 ≤ A ∧ A < ((fs.map fnOf).length : Int) ∧ (x.low.map AP.act).length + 1 ≤ 16) = true from hacc)
    rw [List.length_map, List.length_map] at this
    exact this
  have hx22 : op = 22 → x.low ≠ [] ∧ ∀ a ∈ x.low, a.stk.length ≤ 64 := fun e => by
    subst e
    have := of_decide_eq_true (show decide (x.low.map AP.act ≠ []) = true from hacc)
    refine ⟨fun e => this (by rw [e]; rfl), fun a ha => ?_⟩
    exact (hM.low a.act (List.mem_map.2 ⟨a, ha, rfl⟩)).1.stk
  have hx26 : op = 26 ∨ op = 28 → 0 ≤ A := fun e => by
    rcases e with rfl | rfl
    · have : (decide (0 ≤ A) && isKindB (A / 8) && decide (x.ms.kept.length < 12)) = true := hacc
      simp only [Bool.and_eq_true, decide_eq_true_eq] at this
      exact this.1.1
    · have : (decide (0 ≤ A) && isKindB (A / 8)) = true := hacc
      simp only [Bool.and_eq_true, decide_eq_true_eq] at this
      exact this.1
  have hkl : x.kp.length ≤ 12 := by have := hM.kept; rwa [List.length_map] at this
  have hcl : x.cl.length ≤ 16 := by have := hM.cmds; rwa [List.length_map] at this
  have hel : x.evs.length ≤ 16 := hM.evs
  have hKK : ∀ q ∈ x.kp, 1 ≤ q.kind ∧ q.kind ≤ 12 := fun q hq => hM.keptK q.pt (List.mem_map.2 ⟨q, hq, rfl⟩)
  have hdd := hM.dice
  have hst : 0 ≤ x.g.st ∧ x.g.st ≤ 2000 := hM.steps
  refine Jn.mk (fun j H' => (j = true ∧ ∃ x', Post H0 (x.bump c2) (act (mpOf x.g fs) (enOf x.g ins) (x.bump c2).ms (cutS (x.bump c2).ms (takes (parms fs) (op, A)).toNat) (args (x.bump c2).ms (takes (parms fs) (op, A)).toNat) op.toNat A) H' x') ∨
    (j = false ∧ Ext H7 H' ∧ ¬ (19 ≤ op ∧ op ≤ 24) ∧ ¬ (op = 1 ∨ op = 2 ∨ op = 4 ∨ (31 ≤ op ∧ op ≤ 35)))) (fun kk hkk => ?_) ?_
  · refine ⟨(op, A), rb7.rd_all, ?_⟩
    refine s_jumps (x := x.bump c2) (fs := fs) (ins := ins) h7 hc her hst hstk.1 hsl hx21 hx22 (enOf x.g ins) (fun H' x' hop' hp => ?_) fun H' hno hE8 => ?_
    · exact hkk _ _ (.inl ⟨rfl, x', hp⟩)
    · refine ⟨(op, A), (hE8.row rb7 fun h => h).rd_all, ?_⟩
      refine s_asks (x := x.bump c2) (fs := fs) (ins := ins) hin (h7.ext hE8) hc her hA hstk.1 hsl hM.top.stk64 hdd (fun e => hx1 (.inl e)) (fun e => hx4 (.inl e)) (fun H' x' hop' hp => ?_) fun H' hno2 hE9 => ?_
      · exact hkk _ _ (.inl ⟨rfl, x', hp⟩)
      · exact hkk _ _ (.inr ⟨rfl, hE8.trans hE9 fun _ _ h => h, hno, hno2⟩)
  rintro j H8 (⟨rfl, x', hp⟩ | ⟨rfl, hE8, hn1, hn2⟩)
  · exact hk H8 x' hp
  rw [Br_false]
  have h8 := h7.ext hE8
  have rb8 := hE8.row rb7 fun h => h
  refine ⟨(x.g.ix, x.g.gn), ?_, ?_⟩
  · rw [hcells_iff]
    intro o ho
    have ho : o < 2 := ho
    rw [mk_add, h8.run.1.cell]
    match o, ho with
    | 0, _ => rfl
    | 1, _ => rfl
  refine Nw_row (vs := [.int .i64 0, .int .i64 0]) fun b3 H9 hb3 hE9 hz9 hr9 => ?_
  refine St_row hr9 (by simp) fun H10 hU10 _ hr10 => St_row hr10 (by simp) fun H11 hU11 _ hr11 => ?_
  have hE811 : Ext H8 H11 := extUpd hE9 (by omega) (hU10.trans hU11 fun _ _ e => e)
  have h11 := h8.ext hE811
  have rb11 := hE811.row rb8 fun h => h
  have re : Row H11 b3 T_api_Entity [.int .i64 x.g.ix, .int .i64 x.g.gn] := hr11
  have lp : x.top.p < H8.size := h8.topR.row.lt
  have b1p : b1 ≠ x.top.p := by have := h.topR.row.lt; omega
  have b3p : b3 ≠ x.top.p := by omega
  have topc : ∀ n, hcell H11 ⟨x.top.p, n, none⟩ = (actV (x.bump c2).top)[n]? := h11.topR.row.cell
  refine Ld_int (n := op) ((rb11.cell 0).trans rfl) ?_
  have c1 : hcell H11 ⟨b1, 1, none⟩ = some (.int .i64 A) := (rb11.cell 1).trans rfl
  simp only [Jn]
  refine Br.mk (fun e3 => ?_) fun e3 => ?_
  · have e3 := beqI e3; subst e3
    have et : takes (parms fs) (3, A) = 1 := takes_of (by decide) (by decide) (by decide)
    rw [et] at hstk hk
    refine Ld_sl (s := x.top.ls) ((topc 4).trans rfl) (Ld_int c1 (m_take h11 (n := 1) rfl (by dsimp only; omega) (by dsimp only; omega) fun r H12 c12 hU12 h12 hv12 hf12 => ?_))
    refine Stab_2 ((hU12.row rb11 b1p |>.cell 1).trans rfl) ((h12.topR.row.cell 4).trans rfl) ?_
    have hx : (x.top.stk.drop (x.top.stk.length - 1)).length = 1 := by simp; omega
    have ha : args (x.bump c2).ms 1 = x.top.stk.drop (x.top.stk.length - 1) := rfl
    dsimp only at hv12
    generalize hl : x.top.stk.drop (x.top.stk.length - 1) = l at *
    match l, hx with
    | [w], _ =>
      refine IxA_vec hv12 (by decide) (by simp) fun a7 ha7 _ => Ld_int (n := w) (ha7.trans rfl) ?_
      refine s_store h12 (hx1 (.inr rfl)) fun H13 c13 h13 => hk H13 _ ⟨h13, rfl, rfl, her, fun _ => ?_, rfl⟩
      rw [show (1 : Int).toNat = 1 from rfl, ha]; rfl
  have e3 := bneI e3
  refine Br.mk (fun e5 => ?_) fun e5 => ?_
  · have e5 := beqI e5; subst e5
    have et : takes (parms fs) (5, A) = 1 := takes_of (by decide) (by decide) (by decide)
    rw [et] at hstk hk
    obtain ⟨hA0, vv, hvv, hvl⟩ := hx4 (.inr rfl)
    refine ⟨.map (some x.g.mp), (h11.run.1.cell 18).trans rfl, Ld_int c1 ⟨by omega, Ld_int c1 ⟨by omega, ?_⟩⟩⟩
    rw [tdiv8 hA0 hA, Int.tmod_eq_emod_of_nonneg hA0]
    have hx : (x.top.stk.drop (x.top.stk.length - 1)).length = 1 := by simp; omega
    have ha : args (x.bump c2).ms 1 = x.top.stk.drop (x.top.stk.length - 1) := rfl
    rw [show (1 : Int).toNat = 1 from rfl, ha] at hk
    generalize hl : x.top.stk.drop (x.top.stk.length - 1) = l at *
    match l, hx with
    | [w], _ =>
      have fin : ∀ {Hx : Heap} {c : Col} (hx : MacR H0 Hx { (x.bump c2) with top := (x.bump c2).top.took 1, c := c }) {j : Nat} (hj : j < x.es.length), x.es[j].kind = A / 8 → lookV (x.es.map PtP.pt) (A / 8) = some x.es[j].vals → (∀ f v, putV (x.es.map PtP.pt) (A / 8) f v = (x.es.set j { x.es[j] with vals := x.es[j].vals.set f v }).map PtP.pt) →
          IxA 1 x.es[j].sl (A % 8) fun a11 => St a11 (.int .i64 w) Hx fun H24 => k () H24 := fun {Hx c} hx {j} hj hkd hlk hpv => by
        have ev : x.es[j].vals = vv := by
          have : some x.es[j].vals = some vv := hlk.symm.trans hvv
          exact Option.some.inj this
        refine s_putf hx (j := j) hj (i := A % 8) (w := w) ⟨by omega, by dsimp only; rw [ev]; exact hvl⟩ fun H13 h13 => hk H13 _ ⟨h13, rfl, rfl, her, fun _ => ?_, rfl⟩
        show _ = { cutS (x.bump c2).ms 1 with vals := putV (x.es.map PtP.pt) (A / 8) (A % 8).toNat w }
        rw [hpv]
      have absurd' : ∀ {X : Prop}, lookV (x.es.map PtP.pt) (A / 8) = none → X := fun {X} hlk => by
        have : none = some vv := hlk.symm.trans hvv
        cases this
      refine ⟨MpL_es h11.map.1 (fun j hj hkd hlk hpv => Stab_2 c1 c1 (m_take h11 (n := 1) rfl (by dsimp only; omega) (by dsimp only; omega) fun r H12 c12 hU12 h12 hv12 hf12 => ?_)) fun hlk => absurd' hlk, m_take h11 (n := 1) rfl (by dsimp only; omega) (by dsimp only; omega) fun r H12 c12 hU12 h12 hv12 hf12 => ?_, trivial⟩
      · have c112 : hcell H12 ⟨b1, 1, none⟩ = some (.int .i64 A) := (hU12.row rb11 b1p |>.cell 1).trans rfl
        dsimp only at hv12
        rw [hl] at hv12
        refine Stab_all (fun y hy => ?_) (IxA_vec hv12 (by decide) (by simp) fun a7 ha7 _ => Ld_int (n := w) (ha7.trans rfl) (fin h12 hj hkd hlk hpv))
        simp only [List.mem_cons, List.not_mem_nil, or_false] at hy
        rcases hy with rfl | rfl | rfl
        · exact c112
        · exact c112
        · exact (h12.run.1.cell 18).trans rfl
      · have c112 : hcell H12 ⟨b1, 1, none⟩ = some (.int .i64 A) := (hU12.row rb11 b1p |>.cell 1).trans rfl
        dsimp only at hv12
        rw [hl] at hv12
        refine Stab_all (fun y hy => ?_) (IxA_vec hv12 (by decide) (by simp) fun a7 ha7 _ => Ld_int (n := w) (ha7.trans rfl) (MpL_es h12.map.1 (fun j hj hkd hlk hpv => Stab_all (fun y hy => ?_) (fin h12 hj hkd hlk hpv)) fun hlk => absurd' hlk))
        · simp only [List.mem_cons, List.not_mem_nil, or_false] at hy
          rcases hy with rfl | rfl | rfl
          · exact c112
          · exact c112
          · exact (h12.run.1.cell 18).trans rfl
        · simp only [List.mem_cons, List.not_mem_nil, or_false] at hy
          rcases hy with rfl | rfl | rfl
          · exact ha7.trans rfl
          · exact c112
          · exact c112
  have e5 := bneI e5
  refine Br.mk (fun e25 => ?_) fun e25 => ?_
  · have e25 := beqI e25; subst e25
    have et : takes (parms fs) (25, A) = 2 := takes_of (by decide) (by decide) (by decide)
    rw [et] at hstk hk
    refine m_take h11 (n := 2) rfl (by dsimp only; omega) (by dsimp only; omega) fun r H12 c12 hU12 h12 hv12 hf12 => ?_
    have hx : (x.top.stk.drop (x.top.stk.length - 2)).length = 2 := by simp; omega
    have ha : args (x.bump c2).ms 2 = x.top.stk.drop (x.top.stk.length - 2) := rfl
    dsimp only at hv12
    generalize hl : x.top.stk.drop (x.top.stk.length - 2) = l at *
    match l, hx with
    | [w, z], _ =>
      have re12 := hU12.row re b3p
      refine Ld_sl (s := x.g.es) ((h12.run.1.cell 23).trans rfl) (Ld_int (n := x.g.n) ((h12.run.1.cell 10).trans rfl) ⟨(x.g.ix, x.g.gn), re12.rd_all, ?_⟩)
      refine IxA_vec hv12 (by decide) (by simp) fun a6 ha6 haa6 => Ld_int (n := w) (ha6.trans rfl) (IxA_vec hv12 (by decide) (by simp) fun a7 ha7 haa7 => Ld_int (n := z) (ha7.trans rfl) ?_)
      refine Nw_row (vs := evV ⟨x.g.n, (x.g.ix, x.g.gn), w, z⟩) fun b4 H13 hb4 hE13 hz13 hr13 => ?_
      have h13 := h12.ext hE13
      have hv13 := hv12.ext hE13
      have re13 := hE13.row re12 fun h => h
      obtain ⟨rb, hrb, rfl⟩ := haa6
      obtain ⟨rb', hrb', rfl⟩ := haa7
      rw [hrb] at hrb'; cases hrb'
      have cr : ∀ {H'}, Vec H' T_int64 r (ints [w, z]) → hcell H' ⟨rb, 0, none⟩ = some (.int .i64 w) ∧ hcell H' ⟨rb, 1, none⟩ = some (.int .i64 z) := fun hv => by
        obtain ⟨c, hc, e⟩ := hv.cell (i := 0) (by simp)
        obtain ⟨c', hc', e'⟩ := hv.cell (i := 1) (by simp)
        rw [hrb] at hc hc'; cases hc; cases hc'
        exact ⟨e, e'⟩
      have st : ∀ {H'}, Vec H' T_int64 r (ints [w, z]) → Row H' b3 T_api_Entity [.int .i64 x.g.ix, .int .i64 x.g.gn] → hcell H' ⟨x.b, 10, none⟩ = some (.int .i64 x.g.n) → ∀ y ∈ [((⟨rb, 1, none⟩ : Addr), Value.int .i64 z), (⟨rb, 0, none⟩, .int .i64 w), (⟨b3, 0, none⟩, .int .i64 x.g.ix), (⟨b3, 1, none⟩, .int .i64 x.g.gn), (⟨x.b, 10, none⟩, .int .i64 x.g.n)], hcell H' y.1 = some y.2 := fun hv hr hn y hy => by
        simp only [List.mem_cons, List.not_mem_nil, or_false] at hy
        rcases hy with rfl | rfl | rfl | rfl | rfl
        · exact (cr hv).2
        · exact (cr hv).1
        · exact (hr.cell 0).trans rfl
        · exact (hr.cell 1).trans rfl
        · exact hn
      refine Stab_all (fun y hy => ?_) ?_
      · have hs := st hv13 re13 ((h13.run.1.cell 10).trans rfl)
        simp only [List.mem_cons, List.not_mem_nil, or_false] at hy hs
        rcases hy with rfl | rfl | rfl | rfl | rfl | rfl
        · exact hs _ (.inl rfl)
        · exact hs _ (.inr (.inl rfl))
        · exact hs _ (.inr (.inr (.inl rfl)))
        · exact hs _ (.inr (.inr (.inr (.inl rfl))))
        · exact hs _ (.inr (.inr (.inr (.inr rfl))))
        · exact (h13.run.1.cell 23).trans rfl
      have hev := h13.ev.1
      have hevl := hev.len
      rw [flat_len evV_len] at hevl
      dsimp only at hev hevl
      refine App_vecN (ws := evV ⟨x.g.n, (x.g.ix, x.g.gn), w, z⟩) rfl (by decide) hev hr13.rd_all rfl (fun w hw => ?_) (by decide) (by dsimp only; omega) fun es H14 hv14 hl14 hU14 ha14 => ?_
      · simp only [evV, List.mem_cons, List.not_mem_nil, or_false] at hw
        rcases hw with rfl | rfl | rfl | rfl | rfl <;> rfl
      have hrun14 := hU14.row h13.run.1 fun e => hev.ne e.1 h13.run.1 (by decide) rfl
      refine Stab_all (st (hv13.upd hU14 fun b hb e => ?_) (hU14.row re13 fun e => hev.ne e.1 re13 (by decide) rfl) ((hrun14.cell 10).trans rfl)) ?_
      · exact (hev.apV hv13 (by decide) e.1 hb)
      refine St_row hrun14 (by simp) fun H15 hU15 _ hr15 => ?_
      have hfin := h12.event (es := es) (q := ⟨x.g.n, (x.g.ix, x.g.gn), w, z⟩) (((hE13.mono fun _ _ h => h.elim).trans (hU14.mono fun _ _ e => .inl e.1) fun _ _ e => e).trans hU15 fun _ _ e => .inr e) hr15 (by
        have := hv14.upd hU15 fun b hb e => hv14.ne hb hrun14 (by decide) e
        simpa using this) (ha14.imp (fun e => e.1) fun e => ⟨_, e, hE13.size⟩)
      refine hk H15 _ ⟨hfin, rfl, rfl, her, fun _ => ?_, rfl⟩
      rw [show (2 : Int).toNat = 2 from rfl, ha]; rfl
  have e25 := bneI e25
  have kept : op = 26 ∨ op = 28 → (LdC [(.int .i64), (.int .i64)] (adr b1) H11 fun (c5 : Int × Int) => CallT Pg f_machine_run_kept [.pointer (some (adr x.b)), .agg #[.int .i64 c5.1, .int .i64 c5.2]] (.tup []) H11 fun (r12 : Unit) H34 => k () H34) := fun ho => by
    have hA0 := hx26 ho
    have et : takes (parms fs) (op, A) = A % 8 := by
      unfold takes isOpB
      rcases ho with rfl | rfl
      · rw [if_pos (show decide ((1 : Int) ≤ 26 ∧ (26 : Int) ≤ 39) = true by decide), if_neg (show ¬ (tbl[(26 : Int).toNat]!).2.2 = 1 by decide), if_pos (show (tbl[(26 : Int).toNat]!).2.2 = 2 by decide), if_pos hA0]
      · rw [if_pos (show decide ((1 : Int) ≤ 28 ∧ (28 : Int) ≤ 39) = true by decide), if_neg (show ¬ (tbl[(28 : Int).toNat]!).2.2 = 1 by decide), if_pos (show (tbl[(28 : Int).toNat]!).2.2 = 2 by decide), if_pos hA0]
    rw [et] at hstk hk
    exact ⟨(op, A), rb11.rd_all, s_kept h11 her ho hA hA0 hstk.1 hsl hkl hcl _ _ ⟨rfl, rfl⟩ hk⟩
  have rest : op ≠ 26 → op ≠ 28 → (Br (op == 27) (CallT Pg f_machine_run_spawn [.pointer (some (adr x.b))] (.tup []) H11 fun (r13 : Unit) H36 => k () H36) (Br (op == 29) (LdC [(.int .i64), (.int .i64)] (adr b3) H11 fun (c6 : Int × Int) => Ld (.int .i64) ⟨b1, 1, none⟩ H11 fun (x21 : Int) => CallT Pg f_machine_run_command [.pointer (some (adr x.b)), .agg #[.int .i64 4, .int .i64 c6.1, .int .i64 c6.2, .int .i64 x21, .slice none 0 0, .slice none 0 0]] (.tup []) H11 fun (r14 : Unit) H38 => k () H38)
      (Br (op == 30) (LdC [(.int .i64), (.int .i64)] (adr b3) H11 fun (c7 : Int × Int) => CallT Pg f_machine_run_command [.pointer (some (adr x.b)), .agg #[.int .i64 2, .int .i64 c7.1, .int .i64 c7.2, .int .i64 0, .slice none 0 0, .slice none 0 0]] (.tup []) H11 fun (r15 : Unit) H40 => k () H40)
        (Br (op == 39) (CallT Pg f_machine_activation_take [.pointer (some (adr x.top.p)), .int .i64 1] (.one (.c .sl)) H11 fun (r16 : Sl) H42 => k () H42) (k () H11))))) := fun e26 e28 => by
    refine Br.mk (fun e27 => ?_) fun e27 => ?_
    · have e27 := beqI e27; subst e27
      have et : (takes (parms fs) (27, A)).toNat = 0 := by rw [takes_of (by decide) (by decide) (c := 0) (by decide)]; rfl
      rw [et] at hk
      refine s_spawn h11 hcl hkl hKK fun H12 cs c12 h12 => hk H12 _ ⟨h12, rfl, rfl, her, fun _ => ?_, rfl⟩
      rw [cut0]
      show _ = { (x.bump c2).ms with cmds := (x.bump c2).ms.cmds ++ [(⟨1, (0, 0), 0, [], rise (x.kp.map PtP.pt)⟩ : Cm)], kept := [] }
      have er : rise (x.kp.map PtP.pt) = (risK PtP.kind x.kp).map PtP.pt := (risN_map PtP.pt (key := PtP.kind) (key' := Pt.kind) (fun _ => rfl) x.kp 13).symm
      rw [er]
      simp only [MG.ms, List.map_append, List.map_cons, List.map_nil]
    have e27 := bneI e27
    refine Br.mk (fun e29 => ?_) fun e29 => ?_
    · have e29 := beqI e29; subst e29
      have et : (takes (parms fs) (29, A)).toNat = 0 := by rw [takes_of (by decide) (by decide) (c := 0) (by decide)]; rfl
      rw [et] at hk
      refine ⟨(x.g.ix, x.g.gn), re.rd_all, Ld_int c1 ?_⟩
      refine m_cmd h11 (q := ⟨4, (x.g.ix, x.g.gn), A, ⟨none, 0, 0⟩, [], ⟨none, 0, 0⟩, []⟩) hcl (Vec.nil _ _) (fun b hb => by cases hb) rfl rfl fun H12 cs c12 h12 => hk H12 _ ⟨h12, rfl, rfl, her, fun _ => ?_, rfl⟩
      rw [cut0]
      show _ = { (x.bump c2).ms with cmds := (x.bump c2).ms.cmds ++ [(⟨4, (x.g.ix, x.g.gn), A, [], []⟩ : Cm)] }
      simp only [MG.ms, List.map_append, List.map_cons, List.map_nil]
      rfl
    have e29 := bneI e29
    refine Br.mk (fun e30 => ?_) fun e30 => ?_
    · have e30 := beqI e30; subst e30
      have et : (takes (parms fs) (30, A)).toNat = 0 := by rw [takes_of (by decide) (by decide) (c := 0) (by decide)]; rfl
      rw [et] at hk
      refine ⟨(x.g.ix, x.g.gn), re.rd_all, ?_⟩
      refine m_cmd h11 (q := ⟨2, (x.g.ix, x.g.gn), 0, ⟨none, 0, 0⟩, [], ⟨none, 0, 0⟩, []⟩) hcl (Vec.nil _ _) (fun b hb => by cases hb) rfl rfl fun H12 cs c12 h12 => hk H12 _ ⟨h12, rfl, rfl, her, fun _ => ?_, rfl⟩
      rw [cut0]
      show _ = { (x.bump c2).ms with cmds := (x.bump c2).ms.cmds ++ [(⟨2, (x.g.ix, x.g.gn), 0, [], []⟩ : Cm)] }
      simp only [MG.ms, List.map_append, List.map_cons, List.map_nil]
      rfl
    have e30 := bneI e30
    refine Br.mk (fun e39 => ?_) fun e39 => ?_
    · have e39 := beqI e39; subst e39
      have et : takes (parms fs) (39, A) = 1 := takes_of (by decide) (by decide) (by decide)
      rw [et] at hstk hk
      exact m_take h11 (n := 1) rfl (by dsimp only; omega) (by dsimp only; omega) fun r H12 c12 hU12 h12 hv12 hf12 => hk H12 _ ⟨h12, rfl, rfl, her, fun _ => rfl, rfl⟩
    have e39 := bneI e39
    exfalso
    simp only [isBin, List.contains_cons, List.contains_nil, Bool.or_false, Bool.or_eq_false_iff, beq_eq_false_iff_ne] at hnb
    simp only [isUn, List.contains_cons, List.contains_nil, Bool.or_false, Bool.or_eq_false_iff, beq_eq_false_iff_ne] at hnu
    omega
  refine Br.mk (fun e26 => ?_) fun e26 => ?_
  · rw [Br_true]; exact kept (.inl (beqI e26))
  · have e26 := bneI e26
    refine Br.mk (fun e28 => kept (.inr (beqI e28))) fun e28 => ?_
    exact rest e26 (bneI e28)
end Go.Proofs.YtfpmgpblhhcpgaaGreat
/-
  DERIVED: THE SHELF's CONTRACTS AT THIS DUMP, IN PLAIN WORDS (tools/lay-plain.mjs out of 'TryzShelf.lean', which tools/lay-shelf.mjs wrote): THE SAME DECLARATIONS UNDER THE SAME NAMES: 'import', 'namespace', 'open', 'def', 'theorem' AND NOTHING ELSE: no command of the shelf's: FOR A HAND-IN. Each laying: the table of numbers ('.._ren') and one theorem, a field a fact of the dump's own or the kernel's comparison; each contract: ONE APPLICATION.
-/
namespace Go.Proofs
set_option linter.unusedVariables false
set_option linter.unusedSimpArgs false
open Go.Shelf
def Tryz.lays128_ren : Go.Shelf.Ren := ⟨fun | 128 => 174 | n => n, fun | 51 => 251 | 3 => 3 | 4 => 4 | 46 => 199 | 5 => 5 | 9 => 9 | n => n, fun | n => n⟩
theorem Tryz.lays128 : Go.Proofs.Lays.n128 Tryz.prog Tryz.lays128_ren := {
  mixed := by kernel_rfl
  f128 := Tryz.func174.trans (congrArg some (by kernel_rfl))
  t3 := Tryz.underlying3
  a3 := Tryz.isAgg3
  z3 := Tryz.sizeOf3
  v3 := Tryz.zeroValue3
  t4 := Tryz.underlying4
  a4 := Tryz.isAgg4
  z4 := Tryz.sizeOf4
  v4 := Tryz.zeroValue4
  t5 := Tryz.underlying5
  a5 := Tryz.isAgg5
  z5 := Tryz.sizeOf5
  v5 := Tryz.zeroValue5
  t9 := Tryz.underlying9
  a9 := Tryz.isAgg9
  z9 := Tryz.sizeOf9
  v9 := Tryz.zeroValue9
  t46 := Tryz.underlying199
  a46 := Tryz.isAgg199
  z46 := Tryz.sizeOf199
  v46 := Tryz.zeroValue199
  t51 := Tryz.underlying251
  a51 := Tryz.isAgg251
  z51 := Tryz.sizeOf251
  v51 := Tryz.zeroValue251 }
/-- bits.Len32: "Len32 returns the minimum number of bits required to represent x; the result is 0 for x == 0.": IT RETURNS 'Lib.bitLen x'; the world is as it was. ('h0', 'h1': x is a uint32.) (LAID: no walk: one application.) -/
theorem Tryz.bits_Len32 (x : Int) (w : World) (h0 : 0 ≤ x) (h1 : x ≤ 4294967295) :
    Calls Tryz.prog 174 #[.int .u32 x] w fun e w' => e = .returned (.int .i64 (Lib.bitLen x.toNat)) ∧ w' = w := Any.bits_Len32 Tryz.lays128 x w h0 h1
def Tryz.lays125_ren : Go.Shelf.Ren := ⟨fun | 125 => 124 | 128 => 174 | 129 => 175 | n => n, fun | 46 => 199 | 3 => 3 | 51 => 251 | 53 => 137 | 4 => 4 | 5 => 5 | 9 => 9 | n => n, fun | n => n⟩
theorem Tryz.lays125 : Go.Proofs.Lays.n125 Tryz.prog Tryz.lays125_ren := {
  mixed := by kernel_rfl
  f125 := Tryz.func124.trans (congrArg some (by kernel_rfl))
  f128 := Tryz.func174.trans (congrArg some (by kernel_rfl))
  f129 := Tryz.func175.trans (congrArg some (by kernel_rfl))
  t3 := Tryz.underlying3
  a3 := Tryz.isAgg3
  z3 := Tryz.sizeOf3
  v3 := Tryz.zeroValue3
  t4 := Tryz.underlying4
  a4 := Tryz.isAgg4
  z4 := Tryz.sizeOf4
  v4 := Tryz.zeroValue4
  t5 := Tryz.underlying5
  a5 := Tryz.isAgg5
  z5 := Tryz.sizeOf5
  v5 := Tryz.zeroValue5
  t9 := Tryz.underlying9
  a9 := Tryz.isAgg9
  z9 := Tryz.sizeOf9
  v9 := Tryz.zeroValue9
  t46 := Tryz.underlying199
  a46 := Tryz.isAgg199
  z46 := Tryz.sizeOf199
  v46 := Tryz.zeroValue199
  t51 := Tryz.underlying251
  a51 := Tryz.isAgg251
  z51 := Tryz.sizeOf251
  v51 := Tryz.zeroValue251
  t53 := Tryz.underlying137
  a53 := Tryz.isAgg137
  z53 := Tryz.sizeOf137
  v53 := Tryz.zeroValue137 }
/-- bits.Len: "Len returns the minimum number of bits required to represent x; the result is 0 for x == 0.": IT RETURNS 'Lib.bitLen x'; the world is as it was. (A uint has 64 bits in the model.) ITS CALLEE bits.Len64 IS MET BY ITS OWN CONTRACT OFF THE SHELF (lay that first). (LAID: no walk: one application.) -/
theorem Tryz.bits_Len (x : Int) (w : World) (h0 : 0 ≤ x) (h1 : x ≤ 18446744073709551615) :
    Calls Tryz.prog 124 #[.int .u64 x] w fun e w' => e = .returned (.int .i64 (Lib.bitLen x.toNat)) ∧ w' = w := Any.bits_Len Tryz.lays125 x w h0 h1
def Tryz.lays215_ren : Go.Shelf.Ren := ⟨fun | 215 => 164 | n => n, fun | 3 => 3 | 4 => 4 | n => n, fun | n => n⟩
theorem Tryz.lays215 : Go.Proofs.Lays.n215 Tryz.prog Tryz.lays215_ren := {
  mixed := by kernel_rfl
  f215 := Tryz.func164.trans (congrArg some (by kernel_rfl))
  t3 := Tryz.underlying3
  a3 := Tryz.isAgg3
  z3 := Tryz.sizeOf3
  v3 := Tryz.zeroValue3
  t4 := Tryz.underlying4
  a4 := Tryz.isAgg4
  z4 := Tryz.sizeOf4
  v4 := Tryz.zeroValue4 }
open Go.RowKit in
/-- cmp.isNaN at int: 'x != x': false. (LAID: no walk: one application.) -/
theorem Tryz.cmp_isNaN_int (x : Int) (w : World) :
    Calls Tryz.prog 164 #[.int .i64 x] w fun e w' => e = .returned (.bool false) ∧ w' = w := Any.cmp_isNaN_int Tryz.lays215 x w
def Tryz.lays122_ren : Go.Shelf.Ren := ⟨fun | 122 => 122 | 215 => 164 | n => n, fun | 3 => 3 | 4 => 4 | n => n, fun | n => n⟩
theorem Tryz.lays122 : Go.Proofs.Lays.n122 Tryz.prog Tryz.lays122_ren := {
  mixed := by kernel_rfl
  f122 := Tryz.func122.trans (congrArg some (by kernel_rfl))
  f215 := Tryz.func164.trans (congrArg some (by kernel_rfl))
  t3 := Tryz.underlying3
  a3 := Tryz.isAgg3
  z3 := Tryz.sizeOf3
  v3 := Tryz.zeroValue3
  t4 := Tryz.underlying4
  a4 := Tryz.isAgg4
  z4 := Tryz.sizeOf4
  v4 := Tryz.zeroValue4 }
open Go.RowKit in
/-- cmp.Compare at int: "Compare returns -1 if x is less than y, 0 if x equals y, +1 if x is greater than y.": IT RETURNS 'Lib.compareInt x y'; the world is as it was. (LAID: no walk: one application.) -/
theorem Tryz.cmp_Compare_int (x y : Int) (w : World) :
    Calls Tryz.prog 122 #[.int .i64 x, .int .i64 y] w fun e w' => e = .returned (.int .i64 (Lib.compareInt x y)) ∧ w' = w := Any.cmp_Compare_int Tryz.lays122 x y w
def Tryz.lays129_ren : Go.Shelf.Ren := ⟨fun | 129 => 175 | n => n, fun | 53 => 137 | 3 => 3 | 4 => 4 | 46 => 199 | 5 => 5 | 9 => 9 | n => n, fun | n => n⟩
theorem Tryz.lays129 : Go.Proofs.Lays.n129 Tryz.prog Tryz.lays129_ren := {
  mixed := by kernel_rfl
  f129 := Tryz.func175.trans (congrArg some (by kernel_rfl))
  t3 := Tryz.underlying3
  a3 := Tryz.isAgg3
  z3 := Tryz.sizeOf3
  v3 := Tryz.zeroValue3
  t4 := Tryz.underlying4
  a4 := Tryz.isAgg4
  z4 := Tryz.sizeOf4
  v4 := Tryz.zeroValue4
  t5 := Tryz.underlying5
  a5 := Tryz.isAgg5
  z5 := Tryz.sizeOf5
  v5 := Tryz.zeroValue5
  t9 := Tryz.underlying9
  a9 := Tryz.isAgg9
  z9 := Tryz.sizeOf9
  v9 := Tryz.zeroValue9
  t46 := Tryz.underlying199
  a46 := Tryz.isAgg199
  z46 := Tryz.sizeOf199
  v46 := Tryz.zeroValue199
  t53 := Tryz.underlying137
  a53 := Tryz.isAgg137
  z53 := Tryz.sizeOf137
  v53 := Tryz.zeroValue137 }
/-- bits.Len64: "Len64 returns the minimum number of bits required to represent x; the result is 0 for x == 0.": IT RETURNS 'Lib.bitLen x'; the world is as it was. ('h0', 'h1': x is a uint64.) (LAID: no walk: one application.) -/
theorem Tryz.bits_Len64 (x : Int) (w : World) (h0 : 0 ≤ x) (h1 : x ≤ 18446744073709551615) :
    Calls Tryz.prog 175 #[.int .u64 x] w fun e w' => e = .returned (.int .i64 (Lib.bitLen x.toNat)) ∧ w' = w := Any.bits_Len64 Tryz.lays129 x w h0 h1
def Tryz.lays189_ren : Go.Shelf.Ren := ⟨fun | 189 => 70 | 125 => 124 | 257 => 123 | 128 => 174 | 129 => 175 | 294 => 165 | 295 => 166 | 296 => 167 | 297 => 168 | 298 => 169 | 299 => 170 | 216 => 171 | 300 => 172 | 301 => 173 | 328 => 194 | 329 => 195 | 330 => 196 | 331 => 197 | 332 => 198 | 215 => 164 | 343 => 202 | n => n, fun | 28 => 53 | 3 => 3 | 46 => 199 | 0 => 0 | 51 => 251 | 53 => 137 | 4 => 4 | 183 => 243 | 182 => 242 | 131 => 248 | 5 => 5 | 9 => 9 | 218 => 269 | 222 => 223 | 228 => 275 | 229 => 132 | n => n, fun | n => n⟩
theorem Tryz.lays189 : Go.Proofs.Lays.n189 Tryz.prog Tryz.lays189_ren := {
  mixed := by kernel_rfl
  f125 := Tryz.func124.trans (congrArg some (by kernel_rfl))
  f128 := Tryz.func174.trans (congrArg some (by kernel_rfl))
  f129 := Tryz.func175.trans (congrArg some (by kernel_rfl))
  f189 := Tryz.func70.trans (congrArg some (by kernel_rfl))
  f215 := Tryz.func164.trans (congrArg some (by kernel_rfl))
  f216 := Tryz.func171.trans (congrArg some (by kernel_rfl))
  f257 := Tryz.func123.trans (congrArg some (by kernel_rfl))
  f294 := Tryz.func165.trans (congrArg some (by kernel_rfl))
  f295 := Tryz.func166.trans (congrArg some (by kernel_rfl))
  f296 := Tryz.func167.trans (congrArg some (by kernel_rfl))
  f297 := Tryz.func168.trans (congrArg some (by kernel_rfl))
  f298 := Tryz.func169.trans (congrArg some (by kernel_rfl))
  f299 := Tryz.func170.trans (congrArg some (by kernel_rfl))
  f300 := Tryz.func172.trans (congrArg some (by kernel_rfl))
  f301 := Tryz.func173.trans (congrArg some (by kernel_rfl))
  f328 := Tryz.func194.trans (congrArg some (by kernel_rfl))
  f329 := Tryz.func195.trans (congrArg some (by kernel_rfl))
  f330 := Tryz.func196.trans (congrArg some (by kernel_rfl))
  f331 := Tryz.func197.trans (congrArg some (by kernel_rfl))
  f332 := Tryz.func198.trans (congrArg some (by kernel_rfl))
  f343 := Tryz.func202.trans (congrArg some (by kernel_rfl))
  t0 := Tryz.underlying0
  a0 := Tryz.isAgg0
  z0 := Tryz.sizeOf0
  v0 := Tryz.zeroValue0
  t3 := Tryz.underlying3
  a3 := Tryz.isAgg3
  z3 := Tryz.sizeOf3
  v3 := Tryz.zeroValue3
  t4 := Tryz.underlying4
  a4 := Tryz.isAgg4
  z4 := Tryz.sizeOf4
  v4 := Tryz.zeroValue4
  t5 := Tryz.underlying5
  a5 := Tryz.isAgg5
  z5 := Tryz.sizeOf5
  v5 := Tryz.zeroValue5
  t9 := Tryz.underlying9
  a9 := Tryz.isAgg9
  z9 := Tryz.sizeOf9
  v9 := Tryz.zeroValue9
  t28 := Tryz.underlying53
  a28 := Tryz.isAgg53
  z28 := Tryz.sizeOf53
  v28 := Tryz.zeroValue53
  t46 := Tryz.underlying199
  a46 := Tryz.isAgg199
  z46 := Tryz.sizeOf199
  v46 := Tryz.zeroValue199
  t51 := Tryz.underlying251
  a51 := Tryz.isAgg251
  z51 := Tryz.sizeOf251
  v51 := Tryz.zeroValue251
  t53 := Tryz.underlying137
  a53 := Tryz.isAgg137
  z53 := Tryz.sizeOf137
  v53 := Tryz.zeroValue137
  t131 := Tryz.underlying248
  a131 := Tryz.isAgg248
  z131 := Tryz.sizeOf248
  v131 := Tryz.zeroValue248
  t182 := Tryz.underlying242
  a182 := Tryz.isAgg242
  z182 := Tryz.sizeOf242
  v182 := Tryz.zeroValue242
  t183 := Tryz.underlying243
  a183 := Tryz.isAgg243
  z183 := Tryz.sizeOf243
  v183 := Tryz.zeroValue243
  t218 := Tryz.underlying269
  a218 := Tryz.isAgg269
  z218 := Tryz.sizeOf269
  v218 := Tryz.zeroValue269
  t222 := Tryz.underlying223
  a222 := Tryz.isAgg223
  z222 := Tryz.sizeOf223
  v222 := Tryz.zeroValue223
  t228 := Tryz.underlying275
  a228 := Tryz.isAgg275
  z228 := Tryz.sizeOf275
  v228 := Tryz.zeroValue275
  t229 := Tryz.underlying132
  a229 := Tryz.isAgg132
  z229 := Tryz.sizeOf132
  v229 := Tryz.zeroValue132 }
open Go.Sort Go.RowKit in
theorem Tryz.slices_Sort_int (blk off cap : Nat) (zs : List Int) (w : World) (hH : Holds (Value.int .i64) w blk off zs.toArray) (hblk : blk < w.heap.size) (hsz : zs.length < 4611686018427387904) :
    Calls Tryz.prog 70 #[.slice (some ⟨blk, off, none⟩) zs.length cap] w fun e w' =>
      e = .returned (.tuple #[]) ∧ ∃ n os, w' = grow (putRow (Value.int .i64) (Sort.ahead w n) blk off (zs.mergeSort fun x y => decide (x ≤ y)).toArray) os := Any.slices_Sort_int Tryz.lays189 blk off cap zs w hH hblk hsz
def Tryz.lays108_ren : Go.Shelf.Ren := ⟨fun | 108 => 190 | n => n, fun | 28 => 53 | 3 => 3 | 0 => 0 | 4 => 4 | n => n, fun | n => n⟩
theorem Tryz.lays108 : Go.Proofs.Lays.n108 Tryz.prog Tryz.lays108_ren := {
  mixed := by kernel_rfl
  f108 := Tryz.func190.trans (congrArg some (by kernel_rfl))
  t0 := Tryz.underlying0
  a0 := Tryz.isAgg0
  z0 := Tryz.sizeOf0
  v0 := Tryz.zeroValue0
  t3 := Tryz.underlying3
  a3 := Tryz.isAgg3
  z3 := Tryz.sizeOf3
  v3 := Tryz.zeroValue3
  t4 := Tryz.underlying4
  a4 := Tryz.isAgg4
  z4 := Tryz.sizeOf4
  v4 := Tryz.zeroValue4
  t28 := Tryz.underlying53
  a28 := Tryz.isAgg53
  z28 := Tryz.sizeOf53
  v28 := Tryz.zeroValue53 }
open Go.Lib in
/-- slices.Index at []int: "Index returns the index of the first occurrence of v in s, or -1 if not present.": IT RETURNS 'Lib.idxOf (the elements) v'; the world is as it was. 'zs': what the cells behind the slice's address hold (its spare capacity too, if you have it); 'zs.take n': its elements. (LAID: no walk: one application.) -/
theorem Tryz.slices_Index_int (b off n c : Nat) (zs : List Int) (x : Int) (w : World) (hz : n ≤ zs.length) (hbig : n ≤ 9223372036854775807) (hc : ∀ j, j < zs.length → w.cell? ⟨b, off + j, none⟩ = some (.int .i64 (zs.getD j 0))) :
    Calls Tryz.prog 190 #[.slice (some ⟨b, off, none⟩) n c, .int .i64 x] w fun e w' => e = .returned (.int .i64 (Lib.idxOf (zs.take n) x)) ∧ w' = w := Any.slices_Index_int Tryz.lays108 b off n c zs x w hz hbig hc
open Go.Lib in
/-- The same at a slice of length 0, a nil one too: no cell is known, none is asked for. (LAID: no walk: one application.) -/
theorem Tryz.slices_Index_int_empty (a : Option Addr) (c : Nat) (x : Int) (w : World) :
    Calls Tryz.prog 190 #[.slice a 0 c, .int .i64 x] w fun e w' => e = .returned (.int .i64 (Lib.idxOf [] x)) ∧ w' = w := Any.slices_Index_int_empty Tryz.lays108 a c x w
def Tryz.lays107_ren : Go.Shelf.Ren := ⟨fun | 107 => 151 | 108 => 190 | n => n, fun | 28 => 53 | 3 => 3 | 4 => 4 | 0 => 0 | n => n, fun | n => n⟩
theorem Tryz.lays107 : Go.Proofs.Lays.n107 Tryz.prog Tryz.lays107_ren := {
  mixed := by kernel_rfl
  f107 := Tryz.func151.trans (congrArg some (by kernel_rfl))
  f108 := Tryz.func190.trans (congrArg some (by kernel_rfl))
  t0 := Tryz.underlying0
  a0 := Tryz.isAgg0
  z0 := Tryz.sizeOf0
  v0 := Tryz.zeroValue0
  t3 := Tryz.underlying3
  a3 := Tryz.isAgg3
  z3 := Tryz.sizeOf3
  v3 := Tryz.zeroValue3
  t4 := Tryz.underlying4
  a4 := Tryz.isAgg4
  z4 := Tryz.sizeOf4
  v4 := Tryz.zeroValue4
  t28 := Tryz.underlying53
  a28 := Tryz.isAgg53
  z28 := Tryz.sizeOf53
  v28 := Tryz.zeroValue53 }
open Go.Lib in
/-- slices.Contains at []int: "Contains reports whether v is present in s.": IT RETURNS 'elements.contains v'; the world is as it was. ITS CALLEE slices.Index IS MET BY ITS OWN CONTRACT OFF THE SHELF (lay that first): no loop is walked here. (LAID: no walk: one application.) -/
theorem Tryz.slices_Contains_int (b off n c : Nat) (zs : List Int) (x : Int) (w : World) (hz : n ≤ zs.length) (hbig : n ≤ 9223372036854775807) (hc : ∀ j, j < zs.length → w.cell? ⟨b, off + j, none⟩ = some (.int .i64 (zs.getD j 0))) :
    Calls Tryz.prog 151 #[.slice (some ⟨b, off, none⟩) n c, .int .i64 x] w fun e w' => e = .returned (.bool ((zs.take n).contains x)) ∧ w' = w := Any.slices_Contains_int Tryz.lays107 b off n c zs x w hz hbig hc
open Go.Lib in
/-- The same at a slice of length 0, a nil one too. (LAID: no walk: one application.) -/
theorem Tryz.slices_Contains_int_empty (a : Option Addr) (c : Nat) (x : Int) (w : World) :
    Calls Tryz.prog 151 #[.slice a 0 c, .int .i64 x] w fun e w' => e = .returned (.bool false) ∧ w' = w := Any.slices_Contains_int_empty Tryz.lays107 a c x w
def Tryz.lays109_ren : Go.Shelf.Ren := ⟨fun | 109 => 199 | n => n, fun | 31 => 68 | 9 => 9 | 3 => 3 | 0 => 0 | 4 => 4 | n => n, fun | n => n⟩
theorem Tryz.lays109 : Go.Proofs.Lays.n109 Tryz.prog Tryz.lays109_ren := {
  mixed := by kernel_rfl
  f109 := Tryz.func199.trans (congrArg some (by kernel_rfl))
  t0 := Tryz.underlying0
  a0 := Tryz.isAgg0
  z0 := Tryz.sizeOf0
  v0 := Tryz.zeroValue0
  t3 := Tryz.underlying3
  a3 := Tryz.isAgg3
  z3 := Tryz.sizeOf3
  v3 := Tryz.zeroValue3
  t4 := Tryz.underlying4
  a4 := Tryz.isAgg4
  z4 := Tryz.sizeOf4
  v4 := Tryz.zeroValue4
  t9 := Tryz.underlying9
  a9 := Tryz.isAgg9
  z9 := Tryz.sizeOf9
  v9 := Tryz.zeroValue9
  t31 := Tryz.underlying68
  a31 := Tryz.isAgg68
  z31 := Tryz.sizeOf68
  v31 := Tryz.zeroValue68 }
open Go.Lib in
/-- slices.Index at []string: "Index returns the index of the first occurrence of v in s, or -1 if not present.": IT RETURNS 'Lib.idxOfS (the elements) v'; the world is as it was. 'zs': what the cells behind the slice's address hold (its spare capacity too, if you have it); 'zs.take n': its elements. (LAID: no walk: one application.) -/
theorem Tryz.slices_Index_string (b off n c : Nat) (zs : List ByteArray) (x : ByteArray) (w : World) (hz : n ≤ zs.length) (hbig : n ≤ 9223372036854775807) (hc : ∀ j, j < zs.length → w.cell? ⟨b, off + j, none⟩ = some (.string (zs.getD j ByteArray.empty))) :
    Calls Tryz.prog 199 #[.slice (some ⟨b, off, none⟩) n c, .string x] w fun e w' => e = .returned (.int .i64 (Lib.idxOfS (zs.take n) x)) ∧ w' = w := Any.slices_Index_string Tryz.lays109 b off n c zs x w hz hbig hc
open Go.Lib in
/-- The same at a slice of length 0, a nil one too: no cell is known, none is asked for. (LAID: no walk: one application.) -/
theorem Tryz.slices_Index_string_empty (a : Option Addr) (c : Nat) (x : ByteArray) (w : World) :
    Calls Tryz.prog 199 #[.slice a 0 c, .string x] w fun e w' => e = .returned (.int .i64 (Lib.idxOfS [] x)) ∧ w' = w := Any.slices_Index_string_empty Tryz.lays109 a c x w
def Tryz.lays110_ren : Go.Shelf.Ren := ⟨fun | 110 => 177 | 109 => 199 | n => n, fun | 31 => 68 | 9 => 9 | 4 => 4 | 3 => 3 | 0 => 0 | n => n, fun | n => n⟩
theorem Tryz.lays110 : Go.Proofs.Lays.n110 Tryz.prog Tryz.lays110_ren := {
  mixed := by kernel_rfl
  f109 := Tryz.func199.trans (congrArg some (by kernel_rfl))
  f110 := Tryz.func177.trans (congrArg some (by kernel_rfl))
  t0 := Tryz.underlying0
  a0 := Tryz.isAgg0
  z0 := Tryz.sizeOf0
  v0 := Tryz.zeroValue0
  t3 := Tryz.underlying3
  a3 := Tryz.isAgg3
  z3 := Tryz.sizeOf3
  v3 := Tryz.zeroValue3
  t4 := Tryz.underlying4
  a4 := Tryz.isAgg4
  z4 := Tryz.sizeOf4
  v4 := Tryz.zeroValue4
  t9 := Tryz.underlying9
  a9 := Tryz.isAgg9
  z9 := Tryz.sizeOf9
  v9 := Tryz.zeroValue9
  t31 := Tryz.underlying68
  a31 := Tryz.isAgg68
  z31 := Tryz.sizeOf68
  v31 := Tryz.zeroValue68 }
open Go.Lib in
/-- slices.Contains at []string: "Contains reports whether v is present in s.": IT RETURNS 'Lib.containsS (the elements) v', which is true just where v is among them ('Lib.containsS_iff'); the world is as it was. ITS CALLEE slices.Index IS MET BY ITS OWN CONTRACT OFF THE SHELF (lay that first): no loop is walked here. (LAID: no walk: one application.) -/
theorem Tryz.slices_Contains_string (b off n c : Nat) (zs : List ByteArray) (x : ByteArray) (w : World) (hz : n ≤ zs.length) (hbig : n ≤ 9223372036854775807) (hc : ∀ j, j < zs.length → w.cell? ⟨b, off + j, none⟩ = some (.string (zs.getD j ByteArray.empty))) :
    Calls Tryz.prog 177 #[.slice (some ⟨b, off, none⟩) n c, .string x] w fun e w' => e = .returned (.bool (Lib.containsS (zs.take n) x)) ∧ w' = w := Any.slices_Contains_string Tryz.lays110 b off n c zs x w hz hbig hc
open Go.Lib in
/-- The same at a slice of length 0, a nil one too. (LAID: no walk: one application.) -/
theorem Tryz.slices_Contains_string_empty (a : Option Addr) (c : Nat) (x : ByteArray) (w : World) :
    Calls Tryz.prog 177 #[.slice a 0 c, .string x] w fun e w' => e = .returned (.bool false) ∧ w' = w := Any.slices_Contains_string_empty Tryz.lays110 a c x w
def Tryz.laysNm215_ren : Go.Shelf.Ren := ⟨fun | 15 => 69 | n => n, fun | 22 => 53 | 3 => 3 | 4 => 4 | n => n, fun | n => n⟩
theorem Tryz.laysNm215 : Go.Proofs.Lays2.n15 Tryz.prog Tryz.laysNm215_ren := {
  mixed := by kernel_rfl
  f15 := Tryz.func69.trans (congrArg some (by kernel_rfl))
  t3 := Tryz.underlying3
  a3 := Tryz.isAgg3
  z3 := Tryz.sizeOf3
  v3 := Tryz.zeroValue3
  t4 := Tryz.underlying4
  a4 := Tryz.isAgg4
  z4 := Tryz.sizeOf4
  v4 := Tryz.zeroValue4
  t22 := Tryz.underlying53
  a22 := Tryz.isAgg53
  z22 := Tryz.sizeOf53
  v22 := Tryz.zeroValue53
  i3 := by kernel_rfl }
open Go.RowKit Go.Lib in
/-- slices.Clone at []int: "Clone returns a copy of the slice. The elements are copied using assignment, so this is a shallow clone. The result may have additional unused capacity. The result preserves the nilness of s.": OF A SLICE THAT IS NOT nil IT RETURNS A SLICE THAT IS NOT nil, OF THE SAME ELEMENTS, IN MEMORY OF THE CALL's OWN: in the how-to's words (6f): 'w'.ownsRow B e 1 v' n cells': v' begins at the head of a row among the blocks from B on (B: the heap's size at the call), not frozen, whose first cells are the elements · 'Below B w w'': below B all is as it was. The capacity is whatever the run-time gives. 'zs': what the cells behind the slice's address hold; 'zs.take n': its elements. (LAID: no walk: one application.) -/
theorem Tryz.slices_Clone_int (b off n c : Nat) (zs : List Int) (w : World) (hz : n ≤ zs.length) (hbig : n * 8 ≤ 140737488355328) (hc : ∀ j, j < zs.length → w.cell? ⟨b, off + j, none⟩ = some (.int .i64 (zs.getD j 0))) :
    Calls Tryz.prog 69 #[.slice (some ⟨b, off, none⟩) n c] w fun e w' => ∃ v', e = .returned v' ∧ w'.ownsRow w.heap.size 3 1 v' n ((zs.take n).map (Value.int .i64)) ∧ v' ≠ .slice none 0 0 ∧ Below w.heap.size w w' := Any.slices_Clone_int Tryz.laysNm215 b off n c zs w hz hbig hc
open Go.RowKit Go.Lib in
/-- The same at nil: nil comes back; the world is as it was. (LAID: no walk: one application.) -/
theorem Tryz.slices_Clone_int_nil (n c : Nat) (w : World) :
    Calls Tryz.prog 69 #[.slice none n c] w fun e w' => e = .returned (.slice none 0 0) ∧ w' = w := Any.slices_Clone_int_nil Tryz.laysNm215 n c w
def Tryz.laysNm216_ren : Go.Shelf.Ren := ⟨fun | 16 => 127 | n => n, fun | 24 => 68 | 9 => 9 | 4 => 4 | n => n, fun | n => n⟩
theorem Tryz.laysNm216 : Go.Proofs.Lays2.n16 Tryz.prog Tryz.laysNm216_ren := {
  mixed := by kernel_rfl
  f16 := Tryz.func127.trans (congrArg some (by kernel_rfl))
  t4 := Tryz.underlying4
  a4 := Tryz.isAgg4
  z4 := Tryz.sizeOf4
  v4 := Tryz.zeroValue4
  t9 := Tryz.underlying9
  a9 := Tryz.isAgg9
  z9 := Tryz.sizeOf9
  v9 := Tryz.zeroValue9
  t24 := Tryz.underlying68
  a24 := Tryz.isAgg68
  z24 := Tryz.sizeOf68
  v24 := Tryz.zeroValue68
  i9 := by kernel_rfl }
open Go.RowKit Go.Lib in
/-- slices.Clone at []string: "Clone returns a copy of the slice. The elements are copied using assignment, so this is a shallow clone. The result may have additional unused capacity. The result preserves the nilness of s.": OF A SLICE THAT IS NOT nil IT RETURNS A SLICE THAT IS NOT nil, OF THE SAME ELEMENTS, IN MEMORY OF THE CALL's OWN: in the how-to's words (6f): 'w'.ownsRow B e 1 v' n cells': v' begins at the head of a row among the blocks from B on (B: the heap's size at the call), not frozen, whose first cells are the elements · 'Below B w w'': below B all is as it was. The capacity is whatever the run-time gives. 'zs': what the cells behind the slice's address hold; 'zs.take n': its elements. (LAID: no walk: one application.) -/
theorem Tryz.slices_Clone_string (b off n c : Nat) (zs : List ByteArray) (w : World) (hz : n ≤ zs.length) (hbig : n * 16 ≤ 140737488355328) (hc : ∀ j, j < zs.length → w.cell? ⟨b, off + j, none⟩ = some (.string (zs.getD j ByteArray.empty))) :
    Calls Tryz.prog 127 #[.slice (some ⟨b, off, none⟩) n c] w fun e w' => ∃ v', e = .returned v' ∧ w'.ownsRow w.heap.size 9 1 v' n ((zs.take n).map (Value.string)) ∧ v' ≠ .slice none 0 0 ∧ Below w.heap.size w w' := Any.slices_Clone_string Tryz.laysNm216 b off n c zs w hz hbig hc
open Go.RowKit Go.Lib in
/-- The same at nil: nil comes back; the world is as it was. (LAID: no walk: one application.) -/
theorem Tryz.slices_Clone_string_nil (n c : Nat) (w : World) :
    Calls Tryz.prog 127 #[.slice none n c] w fun e w' => e = .returned (.slice none 0 0) ∧ w' = w := Any.slices_Clone_string_nil Tryz.laysNm216 n c w
open Go.RowKit Go.Lib in
/-- The same at a slice of length 0 that is not nil, WHATEVER ITS ADDRESS (no cell is asked for): a slice that is not nil and owns nothing comes back. (LAID: no walk: one application.) -/
theorem Tryz.slices_Clone_int_zero (a : Addr) (c : Nat) (w : World) :
    Calls Tryz.prog 69 #[.slice (some a) 0 c] w fun e w' => ∃ v', e = .returned v' ∧ w'.ownsRow w.heap.size 3 1 v' 0 [] ∧ v' ≠ .slice none 0 0 ∧ Below w.heap.size w w' := Any.slices_Clone_int_zero Tryz.laysNm215 a c w
open Go.RowKit Go.Lib in
/-- The same at a slice of length 0 that is not nil, WHATEVER ITS ADDRESS (no cell is asked for): a slice that is not nil and owns nothing comes back. (LAID: no walk: one application.) -/
theorem Tryz.slices_Clone_string_zero (a : Addr) (c : Nat) (w : World) :
    Calls Tryz.prog 127 #[.slice (some a) 0 c] w fun e w' => ∃ v', e = .returned v' ∧ w'.ownsRow w.heap.size 9 1 v' 0 [] ∧ v' ≠ .slice none 0 0 ∧ Below w.heap.size w w' := Any.slices_Clone_string_zero Tryz.laysNm216 a c w
def Tryz.laysNm220_ren : Go.Shelf.Ren := ⟨fun | 20 => 71 | n => n, fun | 22 => 53 | 3 => 3 | 4 => 4 | 0 => 0 | n => n, fun | n => n⟩
theorem Tryz.laysNm220 : Go.Proofs.Lays2.n20 Tryz.prog Tryz.laysNm220_ren := {
  mixed := by kernel_rfl
  f20 := Tryz.func71.trans (congrArg some (by kernel_rfl))
  t0 := Tryz.underlying0
  a0 := Tryz.isAgg0
  z0 := Tryz.sizeOf0
  v0 := Tryz.zeroValue0
  t3 := Tryz.underlying3
  a3 := Tryz.isAgg3
  z3 := Tryz.sizeOf3
  v3 := Tryz.zeroValue3
  t4 := Tryz.underlying4
  a4 := Tryz.isAgg4
  z4 := Tryz.sizeOf4
  v4 := Tryz.zeroValue4
  t22 := Tryz.underlying53
  a22 := Tryz.isAgg53
  z22 := Tryz.sizeOf53
  v22 := Tryz.zeroValue53
  i3 := by kernel_rfl }
open Go.RowKit Go.Lib Go.Sort in
/-- slices.Compact at []int, over an array: the library's two loops are walked. (LAID: no walk: one application.) -/
theorem Tryz.slices_Compact_int_arr (blk off cap : Nat) (d : Array Int) (w : World) (hH : Holds encI w blk off d) (hsz : d.size ≤ 9223372036854775807) (hcap : d.size ≤ cap) :
    Calls Tryz.prog 71 #[.slice (some ⟨blk, off, none⟩) d.size cap] w fun e w' => e = .returned (.slice (some ⟨blk, off, none⟩) (compactUpTo d d.size).length cap) ∧ ∃ q, w' = putRow encI (Sort.ahead w q) blk off (compactUpTo d d.size ++ List.replicate (d.size - (compactUpTo d d.size).length) 0).toArray := Any.slices_Compact_int_arr Tryz.laysNm220 blk off cap d w hH hsz hcap
open Go.RowKit Go.Lib Go.Sort in
/-- slices.Compact at []int: "Compact replaces consecutive runs of equal elements with a single copy. This is like the uniq command found on Unix. Compact modifies the contents of the slice s and returns the modified slice, which may have a smaller length. Compact zeroes the elements between the new length and the original length. The result preserves the nilness of s.": IT RETURNS THE SLICE CUT TO 'Lib.compact zs'; ITS CELLS HOLD 'Lib.compact zs', THEN ZERO VALUES up to the old length; all else is as it was, but for the count of draws. IN THE WORDS OF slices.Sort's CONTRACT ('Holds', 'putRow'): so the everyday 'slices.Sort(xs); xs = slices.Compact(xs)' goes from the one contract to the other. It asks 'zs.length ≤ cap' (every slice's: the reslicing 's[:k]' looks at it). Length 0, nil: '.._empty'. (LAID: no walk: one application.) -/
theorem Tryz.slices_Compact_int (blk off cap : Nat) (zs : List Int) (w : World) (hH : Holds (Value.int .i64) w blk off zs.toArray) (hsz : zs.length ≤ 9223372036854775807) (hcap : zs.length ≤ cap) :
    Calls Tryz.prog 71 #[.slice (some ⟨blk, off, none⟩) zs.length cap] w fun e w' => e = .returned (.slice (some ⟨blk, off, none⟩) (Lib.compact zs).length cap) ∧ ∃ q, w' = putRow (Value.int .i64) (Sort.ahead w q) blk off (Lib.compact zs ++ List.replicate (zs.length - (Lib.compact zs).length) 0).toArray := Any.slices_Compact_int Tryz.laysNm220 blk off cap zs w hH hsz hcap
open Go.RowKit Go.Lib Go.Sort in
/-- The same at a slice of length 0, a nil one too: it comes back as it is. (LAID: no walk: one application.) -/
theorem Tryz.slices_Compact_int_empty (a : Option Addr) (cap : Nat) (w : World) :
    Calls Tryz.prog 71 #[.slice a 0 cap] w fun e w' => e = .returned (.slice a 0 cap) ∧ w' = w := Any.slices_Compact_int_empty Tryz.laysNm220 a cap w
def Tryz.laysNm237_ren : Go.Shelf.Ren := ⟨fun | 37 => 164 | n => n, fun | 3 => 3 | 4 => 4 | n => n, fun | n => n⟩
theorem Tryz.laysNm237 : Go.Proofs.Lays2.n37 Tryz.prog Tryz.laysNm237_ren := {
  mixed := by kernel_rfl
  f37 := Tryz.func164.trans (congrArg some (by kernel_rfl))
  t3 := Tryz.underlying3
  a3 := Tryz.isAgg3
  z3 := Tryz.sizeOf3
  v3 := Tryz.zeroValue3
  t4 := Tryz.underlying4
  a4 := Tryz.isAgg4
  z4 := Tryz.sizeOf4
  v4 := Tryz.zeroValue4 }
open Go.RowKit Go.Lib in
/-- cmp.isNaN[int]: 'x != x': false. (LAID: no walk: one application.) -/
theorem Tryz.cmp_isNaN_int2 (x : Int) (w : World) :
    Calls Tryz.prog 164 #[.int .i64 x] w fun e w' => e = .returned (.bool false) ∧ w' = w := Any.cmp_isNaN_int2 Tryz.laysNm237 x w
def Tryz.laysNm231_ren : Go.Shelf.Ren := ⟨fun | 31 => 171 | 37 => 164 | n => n, fun | 3 => 3 | 4 => 4 | n => n, fun | n => n⟩
theorem Tryz.laysNm231 : Go.Proofs.Lays2.n31 Tryz.prog Tryz.laysNm231_ren := {
  mixed := by kernel_rfl
  f31 := Tryz.func171.trans (congrArg some (by kernel_rfl))
  f37 := Tryz.func164.trans (congrArg some (by kernel_rfl))
  t3 := Tryz.underlying3
  a3 := Tryz.isAgg3
  z3 := Tryz.sizeOf3
  v3 := Tryz.zeroValue3
  t4 := Tryz.underlying4
  a4 := Tryz.isAgg4
  z4 := Tryz.sizeOf4
  v4 := Tryz.zeroValue4 }
open Go.RowKit Go.Lib in
/-- cmp.Less[int]: "Less reports whether x is less than y.": 'x < y'; the world is as it was. (LAID: no walk: one application.) -/
theorem Tryz.cmp_Less_int2 (x y : Int) (w : World) :
    Calls Tryz.prog 171 #[.int .i64 x, .int .i64 y] w fun e w' => e = .returned (.bool (decide (x < y))) ∧ w' = w := Any.cmp_Less_int2 Tryz.laysNm231 x y w
open Go.RowKit Go.Lib Go.Sort in
/-- slices.Compact at []int, of an argument: the slice cut to 'Lib.compact (elements)'; the n cells hold that, then zeros. (LAID: no walk: one application.) -/
theorem Tryz.slices_Compact_int_cells (b off n c : Nat) (zs : List Int) (w : World) (hz : n ≤ zs.length) (hbig : n ≤ 9223372036854775807) (hcap : n ≤ c) (hc : ∀ j, j < zs.length → w.cell? ⟨b, off + j, none⟩ = some (.int .i64 (zs.getD j 0))) (hf : ∀ j, j < n → w.frozen? ⟨b, off + j, none⟩ = false) :
    Calls Tryz.prog 71 #[.slice (some ⟨b, off, none⟩) n c] w fun e w' => e = .returned (.slice (some ⟨b, off, none⟩) (Lib.compact (zs.take n)).length c) ∧ ∃ q, w' = (w.drewN q).setCells b off ((Lib.compact (zs.take n) ++ List.replicate (n - (Lib.compact (zs.take n)).length) 0).map (Value.int .i64)) := Any.slices_Compact_int_cells Tryz.laysNm220 b off n c zs w hz hbig hcap hc hf
open Go.RowKit Go.Sort in
/-- .. and plain. (LAID: no walk: one application.) -/
theorem Tryz.slices_Sort_int_none (p : Option Addr) (cap : Nat) (w : World) :
    Calls Tryz.prog 70 #[.slice p 0 cap] w fun e w' => e = .returned (.tuple #[]) ∧ w' = w := Any.slices_Sort_int_none Tryz.lays189 p cap w
def Tryz.laysSlN29_f203_ren : Go.Shelf.Ren := ⟨fun | 29 => 203 | n => n, fun | 22 => 58 | 23 => 2 | 3 => 3 | 0 => 0 | 4 => 4 | n => n, fun | n => n⟩
theorem Tryz.laysSlN29_f203 : Go.Proofs.SlLaysN.n29 Tryz.prog Tryz.laysSlN29_f203_ren := {
  mixed := by kernel_rfl
  f29 := ⟨Tryz.f203.name, by decide, Tryz.func203.trans (congrArg some (by kernel_rfl))⟩
  t0 := Tryz.underlying0
  a0 := Tryz.isAgg0
  z0 := Tryz.sizeOf0
  v0 := Tryz.zeroValue0
  t3 := Tryz.underlying3
  a3 := Tryz.isAgg3
  z3 := Tryz.sizeOf3
  v3 := Tryz.zeroValue3
  t4 := Tryz.underlying4
  a4 := Tryz.isAgg4
  z4 := Tryz.sizeOf4
  v4 := Tryz.zeroValue4
  t22 := Tryz.underlying58
  a22 := Tryz.isAgg58
  z22 := Tryz.sizeOf58
  v22 := Tryz.zeroValue58
  t23 := Tryz.underlying2
  a23 := Tryz.isAgg2
  z23 := Tryz.sizeOf2
  v23 := Tryz.zeroValue2 }
open Go.Lib in
/-- slices.Index at []int: "Index returns the index of the first occurrence of v in s, or -1 if not present.": IT RETURNS 'Lib.idxOf (the elements) v'; the world is as it was. 'zs': what the cells behind the slice's address hold (its spare capacity too, if you have it); 'zs.take n': its elements. (LAID AT THE INSTANCE 'slices.Index[[]int64,int64]': no walk: one application.) -/
theorem Tryz.slices_Index_int_f203 (b off n c : Nat) (zs : List Int) (x : Int) (w : World) (hz : n ≤ zs.length) (hbig : n ≤ 9223372036854775807) (hc : ∀ j, j < zs.length → w.cell? ⟨b, off + j, none⟩ = some (.int .i64 (zs.getD j 0))) :
    Calls Tryz.prog 203 #[.slice (some ⟨b, off, none⟩) n c, .int .i64 x] w fun e w' => e = .returned (.int .i64 (Lib.idxOf (zs.take n) x)) ∧ w' = w := AnyG.slices_Index_int Tryz.laysSlN29_f203 b off n c zs x w hz hbig hc
open Go.Lib in
/-- The same at a slice of length 0, a nil one too: no cell is known, none is asked for. (LAID AT THE INSTANCE 'slices.Index[[]int64,int64]': no walk: one application.) -/
theorem Tryz.slices_Index_int_empty_f203 (a : Option Addr) (c : Nat) (x : Int) (w : World) :
    Calls Tryz.prog 203 #[.slice a 0 c, .int .i64 x] w fun e w' => e = .returned (.int .i64 (Lib.idxOf [] x)) ∧ w' = w := AnyG.slices_Index_int_empty Tryz.laysSlN29_f203 a c x w
def Tryz.laysSlN31_f200_ren : Go.Shelf.Ren := ⟨fun | 31 => 200 | 29 => 203 | n => n, fun | 22 => 58 | 23 => 2 | 4 => 4 | 3 => 3 | 0 => 0 | n => n, fun | n => n⟩
theorem Tryz.laysSlN31_f200 : Go.Proofs.SlLaysN.n31 Tryz.prog Tryz.laysSlN31_f200_ren := {
  mixed := by kernel_rfl
  f29 := ⟨Tryz.f203.name, by decide, Tryz.func203.trans (congrArg some (by kernel_rfl))⟩
  f31 := ⟨Tryz.f200.name, by decide, Tryz.func200.trans (congrArg some (by kernel_rfl))⟩
  t0 := Tryz.underlying0
  a0 := Tryz.isAgg0
  z0 := Tryz.sizeOf0
  v0 := Tryz.zeroValue0
  t3 := Tryz.underlying3
  a3 := Tryz.isAgg3
  z3 := Tryz.sizeOf3
  v3 := Tryz.zeroValue3
  t4 := Tryz.underlying4
  a4 := Tryz.isAgg4
  z4 := Tryz.sizeOf4
  v4 := Tryz.zeroValue4
  t22 := Tryz.underlying58
  a22 := Tryz.isAgg58
  z22 := Tryz.sizeOf58
  v22 := Tryz.zeroValue58
  t23 := Tryz.underlying2
  a23 := Tryz.isAgg2
  z23 := Tryz.sizeOf2
  v23 := Tryz.zeroValue2 }
open Go.Lib in
/-- slices.Contains at []int: "Contains reports whether v is present in s.": IT RETURNS 'elements.contains v'; the world is as it was. ITS CALLEE slices.Index IS MET BY ITS OWN CONTRACT OFF THE SHELF (lay that first): no loop is walked here. (LAID AT THE INSTANCE 'slices.Contains[[]int64,int64]': no walk: one application.) -/
theorem Tryz.slices_Contains_int_f200 (b off n c : Nat) (zs : List Int) (x : Int) (w : World) (hz : n ≤ zs.length) (hbig : n ≤ 9223372036854775807) (hc : ∀ j, j < zs.length → w.cell? ⟨b, off + j, none⟩ = some (.int .i64 (zs.getD j 0))) :
    Calls Tryz.prog 200 #[.slice (some ⟨b, off, none⟩) n c, .int .i64 x] w fun e w' => e = .returned (.bool ((zs.take n).contains x)) ∧ w' = w := AnyG.slices_Contains_int Tryz.laysSlN31_f200 b off n c zs x w hz hbig hc
open Go.Lib in
/-- The same at a slice of length 0, a nil one too. (LAID AT THE INSTANCE 'slices.Contains[[]int64,int64]': no walk: one application.) -/
theorem Tryz.slices_Contains_int_empty_f200 (a : Option Addr) (c : Nat) (x : Int) (w : World) :
    Calls Tryz.prog 200 #[.slice a 0 c, .int .i64 x] w fun e w' => e = .returned (.bool false) ∧ w' = w := AnyG.slices_Contains_int_empty Tryz.laysSlN31_f200 a c x w
def Tryz.laysSlN41_f115_ren : Go.Shelf.Ren := ⟨fun | 41 => 115 | n => n, fun | 22 => 58 | 23 => 2 | 4 => 4 | n => n, fun | n => n⟩
theorem Tryz.laysSlN41_f115 : Go.Proofs.SlLaysN.n41 Tryz.prog Tryz.laysSlN41_f115_ren := {
  mixed := by kernel_rfl
  f41 := ⟨Tryz.f115.name, by decide, Tryz.func115.trans (congrArg some (by kernel_rfl))⟩
  t4 := Tryz.underlying4
  a4 := Tryz.isAgg4
  z4 := Tryz.sizeOf4
  v4 := Tryz.zeroValue4
  t22 := Tryz.underlying58
  a22 := Tryz.isAgg58
  z22 := Tryz.sizeOf58
  v22 := Tryz.zeroValue58
  t23 := Tryz.underlying2
  a23 := Tryz.isAgg2
  z23 := Tryz.sizeOf2
  v23 := Tryz.zeroValue2
  i23 := by kernel_rfl }
open Go.RowKit Go.Lib in
/-- slices.Clone at []int: "Clone returns a copy of the slice. The elements are copied using assignment, so this is a shallow clone. The result may have additional unused capacity. The result preserves the nilness of s.": OF A SLICE THAT IS NOT nil IT RETURNS A SLICE THAT IS NOT nil, OF THE SAME ELEMENTS, IN MEMORY OF THE CALL's OWN: in the how-to's words (6f): 'w'.ownsRow B e 1 v' n cells': v' begins at the head of a row among the blocks from B on (B: the heap's size at the call), not frozen, whose first cells are the elements · 'Below B w w'': below B all is as it was. The capacity is whatever the run-time gives. 'zs': what the cells behind the slice's address hold; 'zs.take n': its elements. (LAID AT THE INSTANCE 'slices.Clone[[]int64,int64]': no walk: one application.) -/
theorem Tryz.slices_Clone_int_f115 (b off n c : Nat) (zs : List Int) (w : World) (hz : n ≤ zs.length) (hbig : n * 8 ≤ 140737488355328) (hc : ∀ j, j < zs.length → w.cell? ⟨b, off + j, none⟩ = some (.int .i64 (zs.getD j 0))) :
    Calls Tryz.prog 115 #[.slice (some ⟨b, off, none⟩) n c] w fun e w' => ∃ v', e = .returned v' ∧ w'.ownsRow w.heap.size 2 1 v' n ((zs.take n).map (Value.int .i64)) ∧ v' ≠ .slice none 0 0 ∧ Below w.heap.size w w' := AnyG.slices_Clone_int Tryz.laysSlN41_f115 b off n c zs w hz hbig hc
open Go.RowKit Go.Lib in
/-- The same at nil: nil comes back; the world is as it was. (LAID AT THE INSTANCE 'slices.Clone[[]int64,int64]': no walk: one application.) -/
theorem Tryz.slices_Clone_int_nil_f115 (n c : Nat) (w : World) :
    Calls Tryz.prog 115 #[.slice none n c] w fun e w' => e = .returned (.slice none 0 0) ∧ w' = w := AnyG.slices_Clone_int_nil Tryz.laysSlN41_f115 n c w
open Go.RowKit Go.Lib in
/-- The same at a slice of length 0 that is not nil, WHATEVER ITS ADDRESS (no cell is asked for): a slice that is not nil and owns nothing comes back. (LAID AT THE INSTANCE 'slices.Clone[[]int64,int64]': no walk: one application.) -/
theorem Tryz.slices_Clone_int_zero_f115 (a : Addr) (c : Nat) (w : World) :
    Calls Tryz.prog 115 #[.slice (some a) 0 c] w fun e w' => ∃ v', e = .returned v' ∧ w'.ownsRow w.heap.size 2 1 v' 0 [] ∧ v' ≠ .slice none 0 0 ∧ Below w.heap.size w w' := AnyG.slices_Clone_int_zero Tryz.laysSlN41_f115 a c w
def Tryz.laysSlE041_f69_ren : Go.Shelf.Ren := ⟨fun | 41 => 69 | n => n, fun | 22 => 53 | 23 => 3 | 4 => 4 | n => n, fun | n => n⟩
theorem Tryz.laysSlE041_f69 : Go.Proofs.SlLaysE0.n41 Tryz.prog Tryz.laysSlE041_f69_ren := {
  mixed := by kernel_rfl
  f41 := ⟨Tryz.f69.name, by decide, Tryz.func69.trans (congrArg some (by kernel_rfl))⟩
  t4 := Tryz.underlying4
  a4 := Tryz.isAgg4
  z4 := Tryz.sizeOf4
  v4 := Tryz.zeroValue4
  t22 := Tryz.underlying53
  a22 := Tryz.isAgg53
  z22 := Tryz.sizeOf53
  v22 := Tryz.zeroValue53 }
open Go.RowKit Go.Lib in
/-- slices.Clone: "Clone returns a copy of the slice. The elements are copied using assignment, so this is a shallow clone. The result may have additional unused capacity. The result preserves the nilness of s.": OF A SLICE THAT IS NOT nil IT RETURNS A SLICE THAT IS NOT nil, OF THE SAME CELLS, IN MEMORY OF THE CALL's OWN ('ownsRow': the how-to's 6f); below the heap's size at the call all is as it was. (LAID AT THE INSTANCE 'slices.Clone[[]int,int]': no walk: one application.) -/
theorem Tryz.slices_Clone_f69 (i0 : TypeInfo) (z : Value) (size bytes : Nat) (hi : Tryz.prog.info? 3 = some i0) (hz0 : i0.zero = some z) (hz1 : i0.size = size) (hz2 : i0.bytes = bytes) (hzs : z.cells.size = size) (hsz : 0 < size) (z23 : ∀ w, (Go.sizeOf 3).run Tryz.prog w = .ok size w) (b off n c : Nat) (news : List Value) (w : World) (hl : news.length = n * size) (hn : n ≤ maxLen) (hbig : n * bytes ≤ 140737488355328) (hc : ∀ j u, news[j]? = some u → w.cell? ⟨b, off + j, none⟩ = some u) (h1 : ∀ u ∈ news, u.oneCell' = true) :
    Calls Tryz.prog 69 #[.slice (some ⟨b, off, none⟩) n c] w fun e w' => ∃ v', e = .returned v' ∧ w'.ownsRow w.heap.size 3 size v' n news ∧ v' ≠ .slice none 0 0 ∧ Below w.heap.size w w' := AnyE.slices_Clone Tryz.laysSlE041_f69 i0 z size bytes hi hz0 hz1 hz2 hzs hsz z23 b off n c news w hl hn hbig hc h1
def Tryz.laysSlE041_f115_ren : Go.Shelf.Ren := ⟨fun | 41 => 115 | n => n, fun | 22 => 58 | 23 => 2 | 4 => 4 | n => n, fun | n => n⟩
theorem Tryz.laysSlE041_f115 : Go.Proofs.SlLaysE0.n41 Tryz.prog Tryz.laysSlE041_f115_ren := {
  mixed := by kernel_rfl
  f41 := ⟨Tryz.f115.name, by decide, Tryz.func115.trans (congrArg some (by kernel_rfl))⟩
  t4 := Tryz.underlying4
  a4 := Tryz.isAgg4
  z4 := Tryz.sizeOf4
  v4 := Tryz.zeroValue4
  t22 := Tryz.underlying58
  a22 := Tryz.isAgg58
  z22 := Tryz.sizeOf58
  v22 := Tryz.zeroValue58 }
open Go.RowKit Go.Lib in
/-- slices.Clone: "Clone returns a copy of the slice. The elements are copied using assignment, so this is a shallow clone. The result may have additional unused capacity. The result preserves the nilness of s.": OF A SLICE THAT IS NOT nil IT RETURNS A SLICE THAT IS NOT nil, OF THE SAME CELLS, IN MEMORY OF THE CALL's OWN ('ownsRow': the how-to's 6f); below the heap's size at the call all is as it was. (LAID AT THE INSTANCE 'slices.Clone[[]int64,int64]': no walk: one application.) -/
theorem Tryz.slices_Clone_f115 (i0 : TypeInfo) (z : Value) (size bytes : Nat) (hi : Tryz.prog.info? 2 = some i0) (hz0 : i0.zero = some z) (hz1 : i0.size = size) (hz2 : i0.bytes = bytes) (hzs : z.cells.size = size) (hsz : 0 < size) (z23 : ∀ w, (Go.sizeOf 2).run Tryz.prog w = .ok size w) (b off n c : Nat) (news : List Value) (w : World) (hl : news.length = n * size) (hn : n ≤ maxLen) (hbig : n * bytes ≤ 140737488355328) (hc : ∀ j u, news[j]? = some u → w.cell? ⟨b, off + j, none⟩ = some u) (h1 : ∀ u ∈ news, u.oneCell' = true) :
    Calls Tryz.prog 115 #[.slice (some ⟨b, off, none⟩) n c] w fun e w' => ∃ v', e = .returned v' ∧ w'.ownsRow w.heap.size 2 size v' n news ∧ v' ≠ .slice none 0 0 ∧ Below w.heap.size w w' := AnyE.slices_Clone Tryz.laysSlE041_f115 i0 z size bytes hi hz0 hz1 hz2 hzs hsz z23 b off n c news w hl hn hbig hc h1
def Tryz.laysSlE041_f127_ren : Go.Shelf.Ren := ⟨fun | 41 => 127 | n => n, fun | 22 => 68 | 23 => 9 | 4 => 4 | n => n, fun | n => n⟩
theorem Tryz.laysSlE041_f127 : Go.Proofs.SlLaysE0.n41 Tryz.prog Tryz.laysSlE041_f127_ren := {
  mixed := by kernel_rfl
  f41 := ⟨Tryz.f127.name, by decide, Tryz.func127.trans (congrArg some (by kernel_rfl))⟩
  t4 := Tryz.underlying4
  a4 := Tryz.isAgg4
  z4 := Tryz.sizeOf4
  v4 := Tryz.zeroValue4
  t22 := Tryz.underlying68
  a22 := Tryz.isAgg68
  z22 := Tryz.sizeOf68
  v22 := Tryz.zeroValue68 }
open Go.RowKit Go.Lib in
/-- slices.Clone: "Clone returns a copy of the slice. The elements are copied using assignment, so this is a shallow clone. The result may have additional unused capacity. The result preserves the nilness of s.": OF A SLICE THAT IS NOT nil IT RETURNS A SLICE THAT IS NOT nil, OF THE SAME CELLS, IN MEMORY OF THE CALL's OWN ('ownsRow': the how-to's 6f); below the heap's size at the call all is as it was. (LAID AT THE INSTANCE 'slices.Clone[[]string,string]': no walk: one application.) -/
theorem Tryz.slices_Clone_f127 (i0 : TypeInfo) (z : Value) (size bytes : Nat) (hi : Tryz.prog.info? 9 = some i0) (hz0 : i0.zero = some z) (hz1 : i0.size = size) (hz2 : i0.bytes = bytes) (hzs : z.cells.size = size) (hsz : 0 < size) (z23 : ∀ w, (Go.sizeOf 9).run Tryz.prog w = .ok size w) (b off n c : Nat) (news : List Value) (w : World) (hl : news.length = n * size) (hn : n ≤ maxLen) (hbig : n * bytes ≤ 140737488355328) (hc : ∀ j u, news[j]? = some u → w.cell? ⟨b, off + j, none⟩ = some u) (h1 : ∀ u ∈ news, u.oneCell' = true) :
    Calls Tryz.prog 127 #[.slice (some ⟨b, off, none⟩) n c] w fun e w' => ∃ v', e = .returned v' ∧ w'.ownsRow w.heap.size 9 size v' n news ∧ v' ≠ .slice none 0 0 ∧ Below w.heap.size w w' := AnyE.slices_Clone Tryz.laysSlE041_f127 i0 z size bytes hi hz0 hz1 hz2 hzs hsz z23 b off n c news w hl hn hbig hc h1
open Go.RowKit Go.Lib in
/-- The same at nil: nil comes back; the world is as it was; nothing is asked of the element's type. (LAID AT THE INSTANCE 'slices.Clone[[]int,int]': no walk: one application.) -/
theorem Tryz.slices_Clone_nil_f69 (n c : Nat) (w : World) :
    Calls Tryz.prog 69 #[.slice none n c] w fun e w' => e = .returned (.slice none 0 0) ∧ w' = w := AnyE.slices_Clone_nil Tryz.laysSlE041_f69 n c w
open Go.RowKit Go.Lib in
/-- The same at nil: nil comes back; the world is as it was; nothing is asked of the element's type. (LAID AT THE INSTANCE 'slices.Clone[[]int64,int64]': no walk: one application.) -/
theorem Tryz.slices_Clone_nil_f115 (n c : Nat) (w : World) :
    Calls Tryz.prog 115 #[.slice none n c] w fun e w' => e = .returned (.slice none 0 0) ∧ w' = w := AnyE.slices_Clone_nil Tryz.laysSlE041_f115 n c w
open Go.RowKit Go.Lib in
/-- The same at nil: nil comes back; the world is as it was; nothing is asked of the element's type. (LAID AT THE INSTANCE 'slices.Clone[[]string,string]': no walk: one application.) -/
theorem Tryz.slices_Clone_nil_f127 (n c : Nat) (w : World) :
    Calls Tryz.prog 127 #[.slice none n c] w fun e w' => e = .returned (.slice none 0 0) ∧ w' = w := AnyE.slices_Clone_nil Tryz.laysSlE041_f127 n c w
end Go.Proofs
/-
  The library's sort and compact, of numbers.
-/
namespace Go.Proofs.YtfpmgpblhhcpgaaGreat
set_option linter.unusedVariables false
set_option linter.unusedSimpArgs false
open Go.Proofs.YtfpmgpblhhcpgaaGreat.Hc Go.RowKit Go.Lib Go.Sort
set_option maxRecDepth 100000
variable {H : Heap}

theorem lib_call {f : FuncId} {args : List Value} {r : RTy} {k : r.den → Heap → Prop} {post : World → Ending → World → Prop} (hcb : Cb Pg f) (h : ∀ w, w.heap = H → Calls Pg f ⟨args⟩ w (post w))
    (hp : ∀ w e w', w.heap = H → post w e w' → SameEnv w w' ∧ ∃ d, e = .returned (r.emb d) ∧ k d w'.heap) : CallT Pg f args r H k :=
  ⟨hcb, fun w hw => (h w hw).mono fun e w' h => hp w e w' hw h⟩
theorem cb_Sort : Cb Pg f_slices_Sort_Sl_int_int := ⟨_, Tryz.func70, by kernel_rfl, by kernel_rfl⟩
theorem cb_Compact : Cb Pg f_slices_Compact_Sl_int_int := ⟨_, Tryz.func71, by kernel_rfl, by kernel_rfl⟩
theorem holds_row {w : World} (hw : w.heap = H) {b : Nat} {T : TypeId} {zs : List Int} {sp : List Value} (hr : Row H b T (ints zs ++ sp)) : Holds (Value.int .i64) w b 0 zs.toArray := fun j hj => by
  have hj' : j < zs.length := by simpa using hj
  have hb : w.heap[b]? = some (.cells ⟨ints zs ++ sp⟩ T (0, 0)) := by rw [hw]; exact hr
  constructor
  · simp only [World.cell?, hb]
    simp [List.getElem?_append_left, hj']
  · simp only [World.frozen?, hb]
    simp
theorem putRow_heap {w : World} (hw : w.heap = H) {b : Nat} {T : TypeId} {zs ys : List Int} {sp : List Value} (hr : Row H b T (ints zs ++ sp)) (hl : ys.length = zs.length) {n : Nat} {os : Array Obj} :
    Upd (· = b) H (grow (putRow (Value.int .i64) (Sort.ahead w n) b 0 ys.toArray) os).heap ∧ Row (grow (putRow (Value.int .i64) (Sort.ahead w n) b 0 ys.toArray) os).heap b T (ints ys ++ sp) := by
  have hb : w.heap[b]? = some (.cells ⟨ints zs ++ sp⟩ T (0, 0)) := by rw [hw]; exact hr
  have hlt : b < w.heap.size := lt_of_get hb
  constructor
  · refine ⟨?_, fun c hc hn => ?_⟩
    · simp [grow, putRow, mapBlock, Sort.ahead, ← hw]
    · simp only [grow, putRow, mapBlock, Sort.ahead]
      rw [← hw] at hc ⊢
      rw [Array.getElem?_append_left (by simpa using hc), Array.getElem?_modify, if_neg (fun e => hn e.symm)]
  · unfold Row
    simp only [grow, putRow, mapBlock, Sort.ahead]
    rw [Array.getElem?_append_left (by simpa using hlt), Array.getElem?_modify, if_pos rfl, hb]
    simp only [Option.map_some, onCells]
    congr 2
    apply Array.ext_getElem?
    intro j
    simp only [putCells, Array.getElem?_mapIdx]
    rcases Nat.lt_or_ge j ys.length with hj | hj
    · have e1 : (⟨ints zs ++ sp⟩ : Array Value)[j]? = some (.int .i64 zs[j]!) := by
        simp [List.getElem?_append_left, show j < zs.length by omega]
      have e2 : (⟨ints ys ++ sp⟩ : Array Value)[j]? = some (.int .i64 ys[j]!) := by
        simp [List.getElem?_append_left, hj]
      rw [e1, e2]
      simp [hj]
    · have e1 : (⟨ints zs ++ sp⟩ : Array Value)[j]? = (⟨ints ys ++ sp⟩ : Array Value)[j]? := by
        simp [List.getElem?_append_right, hl, show zs.length ≤ j by omega]
      rw [e1]
      cases (⟨ints ys ++ sp⟩ : Array Value)[j]? with
      | none => rfl
      | some v => simp; omega
theorem s_sortI {s : Sl} {zs : List Int} (hv : Vec H T_int s (ints zs)) (hl : zs.length < 2 ^ 60) {k : Unit → Heap → Prop} (hk : ∀ H', Upd (fun b => s.a = some (adr b)) H H' → Vec H' T_int s (ints (zs.mergeSort fun x y => decide (x ≤ y))) → k () H') :
    CallT Pg f_slices_Sort_Sl_int_int [.slice s.a s.len s.cap] (.tup []) H k := by
  have hlen := hv.len
  rw [List.length_map] at hlen
  have hp := (List.mergeSort_perm zs fun x y => decide (x ≤ y)).length_eq
  rcases hv.own with ⟨h1, h2, h3⟩ | ⟨b, sp, h1, h2, h3⟩
  · have e : zs = [] := List.map_eq_nil_iff.1 h3
    subst e
    rw [h1, hlen]
    refine lib_call cb_Sort (fun w hw => Tryz.slices_Sort_int_none none s.cap w) fun w e w' hw ⟨he, hw'⟩ => ?_
    subst hw'
    exact ⟨⟨rfl, rfl, rfl⟩, (), he, by rw [hw]; exact hk _ (.refl _ _) (by simpa using hv)⟩
  · rw [h1, hlen]
    refine lib_call cb_Sort (fun w hw => Tryz.slices_Sort_int b 0 s.cap zs w (holds_row hw h2) (by rw [hw]; exact h2.lt) (by omega)) fun w e w' hw ⟨he, n, os, hw'⟩ => ?_
    have := putRow_heap hw h2 hp (n := n) (os := os)
    subst hw'
    refine ⟨⟨rfl, rfl, rfl⟩, (), he, hk _ (this.1.mono fun _ _ e => e ▸ h1) ⟨by simp [hlen, hp], .inr ⟨b, sp, h1, this.2, by simp only [List.length_map] at h3 ⊢; omega⟩, hv.lc⟩⟩
theorem compact_le (zs : List Int) : (Lib.compact zs).length ≤ zs.length := Lib.compact_length_le zs
theorem s_compactI {s : Sl} {zs : List Int} (hv : Vec H T_int s (ints zs)) (hl : zs.length < 2 ^ 60) {k : Sl → Heap → Prop} (hk : ∀ H', Upd (fun b => s.a = some (adr b)) H H' → Vec H' T_int ⟨s.a, (Lib.compact zs).length, s.cap⟩ (ints (Lib.compact zs)) → k ⟨s.a, (Lib.compact zs).length, s.cap⟩ H') :
    CallT Pg f_slices_Compact_Sl_int_int [.slice s.a s.len s.cap] (.one (.c .sl)) H k := by
  have hlen := hv.len
  rw [List.length_map] at hlen
  have hlc := hv.lc
  rcases hv.own with ⟨h1, h2, h3⟩ | ⟨b, sp, h1, h2, h3⟩
  · have e : zs = [] := List.map_eq_nil_iff.1 h3
    subst e
    rw [h1, hlen]
    refine lib_call cb_Compact (fun w hw => Tryz.slices_Compact_int_empty none s.cap w) fun w e w' hw ⟨he, hw'⟩ => ?_
    subst hw'
    have e0 : Lib.compact ([] : List Int) = [] := rfl
    rw [e0] at hk
    have := hk H (.refl _ _) ⟨rfl, .inl ⟨h1, h2, rfl⟩, Nat.zero_le _⟩
    rw [h1] at this
    exact ⟨⟨rfl, rfl, rfl⟩, ⟨none, 0, s.cap⟩, he, by rw [hw]; exact this⟩
  · rw [h1, hlen]
    have hc := compact_le zs
    refine lib_call cb_Compact (fun w hw => Tryz.slices_Compact_int b 0 s.cap zs w (holds_row hw h2) (by omega) (by omega)) fun w e w' hw ⟨he, n, hw'⟩ => ?_
    have hll : (Lib.compact zs ++ List.replicate (zs.length - (Lib.compact zs).length) 0).length = zs.length := by simp; omega
    have := putRow_heap hw h2 hll (n := n) (os := #[])
    have eg : ∀ w : World, grow w #[] = w := fun w => by simp [grow]
    rw [eg] at this
    subst hw'
    have hk := hk _ (this.1.mono fun _ _ e => e ▸ h1) ⟨by simp, .inr ⟨b, ints (List.replicate (zs.length - (Lib.compact zs).length) 0) ++ sp, h1, by simpa [ints] using this.2, ?_⟩, by dsimp only; omega⟩
    · rw [h1] at hk
      exact ⟨⟨rfl, rfl, rfl⟩, ⟨some (adr b), (Lib.compact zs).length, s.cap⟩, he, hk⟩
    · simp only [List.length_map, List.length_append, List.length_replicate] at h3 ⊢
      omega
end Go.Proofs.YtfpmgpblhhcpgaaGreat
/-
  Sorted and compacted: strictly rising, the same numbers.
-/
namespace Go.Proofs.YtfpmgpblhhcpgaaGreat.Hc
set_option linter.unusedVariables false
set_option linter.unusedSimpArgs false
open Go Go.Lib

theorem compactUp_ok {zs : List Int} (hs : zs.Pairwise (· ≤ ·)) : ∀ {m : Nat}, m ≤ zs.length → (compactUpTo zs.toArray m).Pairwise (· < ·) ∧ (∀ x ∈ compactUpTo zs.toArray m, ∃ j, j < m ∧ x = zs[j]!) ∧ ∀ j, j < m → zs[j]! ∈ compactUpTo zs.toArray m
  | 0, _ => ⟨by simp [compactUpTo], fun x hx => by simp [compactUpTo] at hx, fun j hj => by omega⟩
  | m + 1, hm => by
    obtain ⟨h1, h2, h3⟩ := compactUp_ok hs (m := m) (by omega)
    have hg : zs.toArray[m]! = zs[m]! := by simp
    rw [compactUpTo_succ, hg]
    have mono : ∀ i j, i ≤ j → j < zs.length → zs[i]! ≤ zs[j]! := fun i j hij hj => by
      rw [getElem!_pos zs i (by omega), getElem!_pos zs j hj]
      rcases Nat.lt_or_ge i j with h | h
      · exact List.pairwise_iff_getElem.1 hs i j (by omega) hj h
      · have : i = j := by omega
        subst this; exact Int.le_refl _
    by_cases hk : keeps zs.toArray m = true
    · rw [if_pos hk]
      refine ⟨?_, fun x hx => ?_, fun j hj => ?_⟩
      · rw [List.pairwise_append]
        refine ⟨h1, List.pairwise_singleton _ _, fun x hx y hy => ?_⟩
        rw [List.mem_singleton.1 hy]
        obtain ⟨j, hj, rfl⟩ := h2 x hx
        have a := mono j (m - 1) (by omega) (by omega)
        have b := mono (m - 1) m (by omega) (by omega)
        unfold keeps at hk
        have hne : zs[m]! ≠ zs[m - 1]! := by
          simp at hk
          rcases hk with e | e
          · omega
          · simpa using e
        omega
      · rcases List.mem_append.1 hx with hx | hx
        · obtain ⟨j, hj, e⟩ := h2 x hx; exact ⟨j, by omega, e⟩
        · exact ⟨m, by omega, List.mem_singleton.1 hx⟩
      · rcases Nat.lt_or_ge j m with h | h
        · exact List.mem_append_left _ (h3 j h)
        · have : j = m := by omega
          subst this; exact List.mem_append_right _ (by simp)
    · rw [if_neg hk, List.append_nil]
      refine ⟨h1, fun x hx => ?_, fun j hj => ?_⟩
      · obtain ⟨j, hj, e⟩ := h2 x hx; exact ⟨j, by omega, e⟩
      · rcases Nat.lt_or_ge j m with h | h
        · exact h3 j h
        · have : j = m := by omega
          subst this
          unfold keeps at hk
          simp at hk
          have := h3 (j - 1) (by omega)
          have e : zs[j]! = zs[j - 1]! := by simpa using hk.2
          rw [e]; exact this
theorem sortU_ok (ws : List Int) : (compact (ws.mergeSort fun a b => decide (a ≤ b))).Pairwise (· < ·) ∧ ∀ x, x ∈ compact (ws.mergeSort fun a b => decide (a ≤ b)) ↔ x ∈ ws := by
  have hs : (ws.mergeSort fun a b => decide (a ≤ b)).Pairwise (· ≤ ·) := by
    have := List.pairwise_mergeSort (le := fun a b : Int => decide (a ≤ b)) (fun a b c h1 h2 => by simp at *; omega) (fun a b => by simp; omega) ws
    exact this.imp fun h => by simpa using h
  have hp := List.mergeSort_perm ws fun a b => decide (a ≤ b)
  obtain ⟨h1, h2, h3⟩ := compactUp_ok hs (Nat.le_refl _)
  refine ⟨h1, fun x => ⟨fun hx => ?_, fun hx => ?_⟩⟩
  · obtain ⟨j, hj, e⟩ := h2 x hx
    rw [e, getElem!_pos _ j hj]
    exact hp.subset (List.getElem_mem hj)
  · obtain ⟨j, hj, e⟩ := List.getElem_of_mem (hp.symm.subset hx)
    have := h3 j hj
    rw [getElem!_pos _ j hj, e] at this
    exact this
end Go.Proofs.YtfpmgpblhhcpgaaGreat.Hc
