/-
  Machine: an instruction is done, by the document.
-/
import Derived.Test.YtfpmgpblhhcpgaaGreatNE
import Derived.Test.YtfpmgpblhhcpgaaGreatInD
namespace Go.Proofs.YtfpmgpblhhcpgaaGreat
set_option linter.unusedVariables false
set_option linter.unusedSimpArgs false
set_option maxRecDepth 100000
section
open Hc Hc.Vf Hc.Mc Hc.Dice
variable {H : Heap}
abbrev dstat (g : DunG) : Sl × Sl × Sy × Int × Int × Int × Int × Sl × Int × Int × Sl × Sl × Nat := (g.pS, g.pF, g.s, g.n, g.fr, g.sd, g.en, g.inS, g.ix, g.gn, g.rp, g.ps, g.dp)
structure DPost (H0 : Heap) (x : DG) (res : Int × Ms) (H' : Heap) (x' : DG) : Prop where
  doc : DocR H0 H' x'
  b : x'.b = x.b
  st : dstat x'.g = dstat x.g
  ms : res.1 = 0 → x'.ms = res.2
  steps : x'.g.st = res.2.steps
  el : x'.es.length = x.es.length
theorem cmV_one (q : CmP) : ∀ w ∈ cmV q, w.oneCell' = true := fun w hw => by
  simp only [cmV, List.mem_cons, List.not_mem_nil, or_false] at hw
  rcases hw with rfl | rfl | rfl | rfl | rfl | rfl <;> rfl
theorem evV_one (q : Ev) : ∀ w ∈ evV q, w.oneCell' = true := fun w hw => by
  simp only [evV, List.mem_cons, List.not_mem_nil, or_false] at hw
  rcases hw with rfl | rfl | rfl | rfl | rfl <;> rfl
theorem d_cmd {H0 : Heap} {x : DG} (h : DocR H0 H x) (hl : x.cl.length ≤ 16) {q : CmP} (hq : Vec H T_int64 q.vsl (ints q.vals)) (hqc : IsS x.c H0.size 999 q.vsl) (hp : q.parts = []) (hps : q.psl = ⟨none, 0, 0⟩) {S1 S2 : List (Addr × Value)} (hS1 : ∀ y ∈ S1, hcell H y.1 = some y.2) (hS2 : ∀ y ∈ S2, hcell H y.1 = some y.2 ∧ x.g.cs.a ≠ some (adr y.1.block)) {k : Heap → Prop}
    (hk : ∀ H' cs c, DocR H0 H' { x with g := { x.g with cs := cs }, cl := x.cl ++ [q], c := c } → k H') :
    Nw ⟨cmV q⟩ T_api_Command H fun b H1 => Stab S1 H1 <| App T_api_Command 6 80 #[.int .i64 0, .int .i64 0, .int .i64 0, .int .i64 0, .slice none 0 0, .slice none 0 0] x.g.cs ⟨some (adr b), 1, 1⟩ H1 fun l H2 => Stab S2 H2 <| St ⟨x.b, 24, none⟩ (.slice l.a l.len l.cap) H2 k := by
  refine Nw_row fun b1 H1 hb1 hE1 hz1 hr1 => Stab_all (fun y hy => hE1.cell (hS1 y hy) fun h => h) ?_
  have h1 := h.ext hE1
  have hlen := h1.cv.1.len
  rw [flat_len cmV_len] at hlen
  refine App_vecN (ws := cmV q) rfl (by decide) h1.cv.1 hr1.rd_all rfl (cmV_one q) (by decide) (by dsimp only; omega) fun cs H2 hv2 hl2 hU2 ha2 => Stab_all (fun y hy => hU2.cell (hE1.cell (hS2 y hy).1 fun h => h) fun e => (hS2 y hy).2 e.1) ?_
  have hrun2 := hU2.row h1.run.1 fun e => h1.cv.1.ne e.1 h1.run.1 (by decide) rfl
  refine St_row hrun2 (by simp) fun H3 hU3 _ hr3 => hk H3 cs _ (h1.cmd (cs := cs) ((hU2.mono fun b _ e => .inl e.1).trans hU3 fun _ _ e => .inr e) hr3 ?_ (ha2.imp (fun e => e.1) fun e => ⟨_, e, Nat.le_refl _⟩) (hq.ext hE1) hqc hp hps)
  have := hv2.upd hU3 fun b hb e => hv2.ne hb hrun2 (by decide) e
  simpa using this
theorem d_event {H0 : Heap} {x : DG} (h : DocR H0 H x) (hl : x.evs.length ≤ 16) {q : Ev} {S1 S2 : List (Addr × Value)} (hS1 : ∀ y ∈ S1, hcell H y.1 = some y.2) (hS2 : ∀ y ∈ S2, hcell H y.1 = some y.2 ∧ x.g.es.a ≠ some (adr y.1.block)) {k : Heap → Prop}
    (hk : ∀ H' es c, DocR H0 H' { x with g := { x.g with es := es }, evs := x.evs ++ [q], c := c } → k H') :
    Nw ⟨evV q⟩ T_api_Event H fun b H1 => Stab S1 H1 <| App T_api_Event 5 40 #[.int .i64 0, .int .i64 0, .int .i64 0, .int .i64 0, .int .i64 0] x.g.es ⟨some (adr b), 1, 1⟩ H1 fun l H2 => Stab S2 H2 <| St ⟨x.b, 25, none⟩ (.slice l.a l.len l.cap) H2 k := by
  refine Nw_row fun b1 H1 hb1 hE1 hz1 hr1 => Stab_all (fun y hy => hE1.cell (hS1 y hy) fun h => h) ?_
  have h1 := h.ext hE1
  have hlen := h1.ev.1.len
  rw [flat_len evV_len] at hlen
  refine App_vecN (ws := evV q) rfl (by decide) h1.ev.1 hr1.rd_all rfl (evV_one q) (by decide) (by dsimp only; omega) fun es H2 hv2 hl2 hU2 ha2 => Stab_all (fun y hy => hU2.cell (hE1.cell (hS2 y hy).1 fun h => h) fun e => (hS2 y hy).2 e.1) ?_
  have hrun2 := hU2.row h1.run.1 fun e => h1.ev.1.ne e.1 h1.run.1 (by decide) rfl
  refine St_row hrun2 (by simp) fun H3 hU3 _ hr3 => hk H3 es _ (h1.event (es := es) (q := q) ((hU2.mono fun b _ e => .inl e.1).trans hU3 fun _ _ e => .inr e) hr3 ?_ (ha2.imp (fun e => e.1) fun e => ⟨_, e, Nat.le_refl _⟩))
  have := hv2.upd hU3 fun b hb e => hv2.ne hb hrun2 (by decide) e
  simpa using this
theorem d_keep {H0 : Heap} {x : DG} (h : DocR H0 H x) (hl : x.kp.length ≤ 12) {q : PtP} (hq : Vec H T_int64 q.sl (ints q.vals)) (hqc : IsS x.c H0.size 999 q.sl) {S1 S2 : List (Addr × Value)} (hS1 : ∀ y ∈ S1, hcell H y.1 = some y.2) (hS2 : ∀ y ∈ S2, hcell H y.1 = some y.2 ∧ x.g.ks.a ≠ some (adr y.1.block)) {k : Heap → Prop}
    (hk : ∀ H' ks c, DocR H0 H' { x with g := { x.g with ks := ks }, kp := x.kp ++ [q], c := c } → k H') :
    Nw ⟨ptV q⟩ T_api_Part H fun b H1 => Stab S1 H1 <| App T_api_Part 2 32 #[.int .i64 0, .slice none 0 0] x.g.ks ⟨some (adr b), 1, 1⟩ H1 fun l H2 => Stab S2 H2 <| St ⟨x.b, 22, none⟩ (.slice l.a l.len l.cap) H2 k := by
  refine Nw_row fun b1 H1 hb1 hE1 hz1 hr1 => Stab_all (fun y hy => hE1.cell (hS1 y hy) fun h => h) ?_
  have h1 := h.ext hE1
  have hlen := h1.kv.1.len
  rw [flat_len ptV_len] at hlen
  refine App_vecN (ws := ptV q) rfl (by decide) h1.kv.1 hr1.rd_all rfl (ptV_one q) (by decide) (by dsimp only; omega) fun ks H2 hv2 hl2 hU2 ha2 => Stab_all (fun y hy => hU2.cell (hE1.cell (hS2 y hy).1 fun h => h) fun e => (hS2 y hy).2 e.1) ?_
  have hrun2 := hU2.row h1.run.1 fun e => h1.kv.1.ne e.1 h1.run.1 (by decide) rfl
  refine St_row hrun2 (by simp) fun H3 hU3 _ hr3 => hk H3 ks _ (h1.keep (ks := ks) (q := q) ((hU2.mono fun b _ e => .inl e.1).trans hU3 fun _ _ e => .inr e) hr3 ?_ (ha2.imp (fun e => e.1) fun e => ⟨_, e, Nat.le_refl _⟩) (hq.ext hE1) hqc)
  have := hv2.upd hU3 fun b hb e => hv2.ne hb hrun2 (by decide) e
  simpa using this
theorem d_call {H0 : Heap} {x : DG} {fs : List Rou} {ins : List (Int × Int × Int)} (h : DocR H0 H x) (hc : CtxR H0 x.g.pF x.g.s x.g.inS fs ins) {A : Int} (hA : 0 ≤ A ∧ A < (fs.length : Int)) (hlow : x.low.length + 1 ≤ 16) {b1 : Nat} {op : Int} (hb1 : Row H b1 T_api_Instr [.int .i64 op, .int .i64 A]) (hb1l : x.g.ls.a ≠ some (adr b1))
    {l : Sl} {vs : List Int} (hl : Vec H T_int64 l (ints vs)) (hvl : vs.length ≤ 2 ^ 40) {k : Heap → Prop}
    (hk : ∀ H' ls t c, DocR H0 H' { x with g := { x.g with ls := ls }, low := x.low ++ [x.top], top := t, c := c } → t.act = ⟨fnOf fs[A.toNat]!, locals (fnOf fs[A.toNat]!) vs, [], 0⟩ → k H') :
    Ld .sl ⟨x.b, 1, none⟩ H fun (x14 : Sl) =>
    Ld (.int .i64) ⟨b1, 1, none⟩ H fun (x15 : Int) =>
    IxA 4 x14 x15 fun a15 =>
    LdC [.str, (.int .i64), (.int .i64), .sl] a15 H fun (c2 : ByteArray × Int × Int × Sl) =>
    Nw #[.string ByteArray.empty, .int .i64 0, .int .i64 0, .slice none 0 0] T_api_Routine H fun b3 H19 =>
    Stab [(a15.add 0, .string c2.1), (a15.add 1, .int .i64 c2.2.1), (a15.add 2, .int .i64 c2.2.2.1), (a15.add 3, .slice c2.2.2.2.a c2.2.2.2.len c2.2.2.2.cap), (⟨b1, 1, none⟩, .int .i64 x15), (⟨x.b, 1, none⟩, .slice x14.a x14.len x14.cap)] H19 <|
    St ⟨b3, 0, none⟩ (.string c2.1) H19 fun H20 =>
    St ⟨b3, 1, none⟩ (.int .i64 c2.2.1) H20 fun H21 =>
    St ⟨b3, 2, none⟩ (.int .i64 c2.2.2.1) H21 fun H22 =>
    St ⟨b3, 3, none⟩ (.slice c2.2.2.2.a c2.2.2.2.len c2.2.2.2.cap) H22 fun H23 =>
    Ld .sl ⟨x.b, 19, none⟩ H23 fun (x16 : Sl) =>
    Ld (.int .i64) ⟨b1, 1, none⟩ H23 fun (x17 : Int) =>
    Ld .sl ⟨b3, 3, none⟩ H23 fun (x18 : Sl) =>
    LdC [.str, (.int .i64), (.int .i64), .sl] (adr b3) H23 fun (c3 : ByteArray × Int × Int × Sl) =>
    CallT Pg f_R_locals [.agg #[.string c3.1, .int .i64 c3.2.1, .int .i64 c3.2.2.1, .slice c3.2.2.2.a c3.2.2.2.len c3.2.2.2.cap], .slice l.a l.len l.cap] (.one (.c .sl)) H23 fun (r5 : Sl) H24 =>
    Stab [(⟨b3, 3, none⟩, .slice x18.a x18.len x18.cap), (⟨b1, 1, none⟩, .int .i64 x17), (⟨x.b, 19, none⟩, .slice x16.a x16.len x16.cap)] H24 <|
    Nw #[.int .i64 x17, .slice x18.a x18.len x18.cap, .slice r5.a r5.len r5.cap, .slice none 0 0, .int .i64 0] T_hindcastref16_activation H24 fun b4 H25 =>
    Stab [(⟨b3, 0, none⟩, .string c3.1), (⟨b3, 1, none⟩, .int .i64 c3.2.1), (⟨b3, 2, none⟩, .int .i64 c3.2.2.1), (⟨b3, 3, none⟩, .slice c3.2.2.2.a c3.2.2.2.len c3.2.2.2.cap), (⟨b3, 3, none⟩, .slice x18.a x18.len x18.cap), (⟨b1, 1, none⟩, .int .i64 x17), (⟨x.b, 19, none⟩, .slice x16.a x16.len x16.cap)] H25 <|
    Nw #[.pointer (some (adr b4))] T_P_hindcastref16_activation H25 fun b5 H26 =>
    Stab [(⟨b3, 0, none⟩, .string c3.1), (⟨b3, 1, none⟩, .int .i64 c3.2.1), (⟨b3, 2, none⟩, .int .i64 c3.2.2.1), (⟨b3, 3, none⟩, .slice c3.2.2.2.a c3.2.2.2.len c3.2.2.2.cap), (⟨b3, 3, none⟩, .slice x18.a x18.len x18.cap), (⟨b1, 1, none⟩, .int .i64 x17), (⟨x.b, 19, none⟩, .slice x16.a x16.len x16.cap)] H26 <|
    App T_P_hindcastref16_activation 1 8 #[.pointer none] x16 ⟨some (adr b5), 1, 1⟩ H26 fun l1 H27 =>
    Stab [(⟨b3, 0, none⟩, .string c3.1), (⟨b3, 1, none⟩, .int .i64 c3.2.1), (⟨b3, 2, none⟩, .int .i64 c3.2.2.1), (⟨b3, 3, none⟩, .slice c3.2.2.2.a c3.2.2.2.len c3.2.2.2.cap), (⟨b3, 3, none⟩, .slice x18.a x18.len x18.cap), (⟨b1, 1, none⟩, .int .i64 x17)] H27 <|
    St ⟨x.b, 19, none⟩ (.slice l1.a l1.len l1.cap) H27 k := by
  have hj : A.toNat < fs.length := by omega
  refine Ld_sl (s := x.g.pF) ((h.run.1.cell 1).trans rfl) (Ld_int (n := A) ((hb1.cell 1).trans rfl) ?_)
  refine IxA_rn' rouV_len (hc.fn.ext h.base) (by decide) (show A = (A.toNat : Nat) by omega) hj fun a15 ha => ?_
  generalize hr : fs[A.toNat]! = r at *
  have hrm : r ∈ fs := by rw [← hr, getElem!_pos fs _ hj]; exact List.getElem_mem hj
  refine ⟨(r.name, r.params, r.locals, r.sl), ha, ?_⟩
  refine Nw_row (vs := [.string ByteArray.empty, .int .i64 0, .int .i64 0, .slice none 0 0]) fun b3 H19 hb3 hE19 _ hr19 => ?_
  refine Stab_all (fun y hy => ?_) ?_
  · have ha' : hcells H19 a15 0 (rouV r) := hcells_ext hE19 ha
    simp only [List.mem_cons, List.not_mem_nil, or_false] at hy
    rcases hy with rfl | rfl | rfl | rfl | rfl | rfl
    · exact ha'.1
    · exact ha'.2.1
    · exact ha'.2.2.1
    · exact ha'.2.2.2.1
    · exact ((hE19.row hb1 fun h => h).cell 1).trans rfl
    · exact ((hE19.row h.run.1 fun h => h).cell 1).trans rfl
  refine St_row hr19 (by simp) fun H20 hU20 _ hr20 => St_row hr20 (by simp) fun H21 hU21 _ hr21 => St_row hr21 (by simp) fun H22 hU22 _ hr22 => St_row hr22 (by simp) fun H23 hU23 _ hr23 => ?_
  have hE23 : Ext H H23 := extUpd (extUpd (extUpd (extUpd hE19 (by omega) hU20) (by omega) hU21) (by omega) hU22) (by omega) hU23
  have h23 := h.ext hE23
  have hb23 := hE23.row hb1 fun h => h
  have hr23 : Row H23 b3 T_api_Routine (rouV r) := hr23
  refine Ld_sl (s := x.g.ls) ((h23.run.1.cell 19).trans rfl) (Ld_int (n := A) ((hb23.cell 1).trans rfl) (Ld_sl (s := r.sl) ((hr23.cell 3).trans rfl) ?_))
  refine ⟨(r.name, r.params, r.locals, r.sl), hr23.rd_all, ?_⟩
  refine s_locals ((hl.ext hE23).rd) (by have := hl.len; simpa using this) hvl fun H24 r5 hE24 hv24 hn24 => ?_
  have st : ∀ {H'}, Ext H23 H' → ∀ y ∈ [((⟨b3, 0, none⟩ : Addr), Value.string r.name), (⟨b3, 1, none⟩, .int .i64 r.params), (⟨b3, 2, none⟩, .int .i64 r.locals), (⟨b3, 3, none⟩, .slice r.sl.a r.sl.len r.sl.cap), (⟨b3, 3, none⟩, .slice r.sl.a r.sl.len r.sl.cap), (⟨b1, 1, none⟩, .int .i64 A), (⟨x.b, 19, none⟩, .slice x.g.ls.a x.g.ls.len x.g.ls.cap)], hcell H' y.1 = some y.2 := fun hE y hy => by
    have hr := hE.row hr23 fun h => h
    simp only [List.mem_cons, List.not_mem_nil, or_false] at hy
    rcases hy with rfl | rfl | rfl | rfl | rfl | rfl | rfl
    · exact (hr.cell 0).trans rfl
    · exact (hr.cell 1).trans rfl
    · exact (hr.cell 2).trans rfl
    · exact (hr.cell 3).trans rfl
    · exact (hr.cell 3).trans rfl
    · exact ((hE.row hb23 fun h => h).cell 1).trans rfl
    · exact ((hE.row h23.run.1 fun h => h).cell 19).trans rfl
  refine Stab_all (fun y hy => st hE24 y (by
    simp only [List.mem_cons, List.not_mem_nil, or_false] at hy ⊢
    rcases hy with rfl | rfl | rfl <;> simp)) ?_
  refine Nw_row (vs := [.int .i64 A, slV r.sl, slV r5, .slice none 0 0, .int .i64 0]) fun b4 H25 hb4 hE25 _ hr25 => ?_
  have hE25' := hE24.trans hE25 fun _ _ h => h
  refine Stab_all (st hE25') ?_
  refine Nw_row (vs := [.pointer (some (adr b4))]) fun b5 H26 hb5 hE26 _ hr26 => ?_
  have hE26' := hE25'.trans hE26 fun _ _ h => h
  refine Stab_all (st hE26') ?_
  have hE := hE23.trans hE26' fun _ _ h => h
  have h26 := h.ext hE
  have hsz := hE23.size
  have hsz2 := hE24.size
  have hll := h26.lv.1.len
  simp only [List.length_map, List.length_append, List.length_singleton] at hll
  refine App_vec2 (ws := [.pointer (some (adr b4))]) h26.lv.1 hr26.rd_all rfl (fun w hw => by rw [List.mem_singleton.1 hw]; rfl) (by decide) (by simp; omega) fun ls H27 hv27 hU27 ha27 _ => ?_
  refine Stab_all (fun y hy => ?_) ?_
  · have h0 := st hE26' y (by
      simp only [List.mem_cons, List.not_mem_nil, or_false] at hy ⊢
      rcases hy with rfl | rfl | rfl | rfl | rfl | rfl <;> simp)
    refine hU27.cell h0 fun e => ?_
    have e := e.1
    simp only [List.mem_cons, List.not_mem_nil, or_false] at hy
    have hlt := h.lv.1.lt (b := y.1.block) e
    rcases hy with rfl | rfl | rfl | rfl | rfl | rfl
    all_goals first | exact hb1l e | (dsimp only at hlt; omega)
  have hrun27 := hU27.row h26.run.1 fun e => h26.lv.1.ne e.1 h26.run.1 (by decide) rfl
  refine St_row hrun27 (by simp) fun H28 hU28 _ hr28 => ?_
  have hb4n : H.size ≤ b4 := by omega
  have hU2628 : Upd (fun b => x.g.ls.a = some (adr b) ∨ b = x.b) H26 H28 := (hU27.mono fun b _ e => .inl e.1).trans hU28 fun _ _ e => .inr e
  refine hk H28 ls ⟨b4, A, r, r5, ⟨none, 0, 0⟩, locals (fnOf r) vs, [], 0⟩ _ (h.call hlow (ls := ls) ((hE.mono fun _ _ h => h.elim).trans hU2628 fun _ _ e => e) hr28 ?_ ?_ ⟨?_, ?_, Vec.nil _ _, apart_nil _ rfl⟩ (fun b hb => ?_) (hc.fnC r hrm) hA.1) rfl
  · have := hv27.upd hU28 fun b hb e => hv27.ne hb hrun27 (by decide) e
    simpa [dptrs] using this
  · exact ha27.imp (fun e => e.1) fun e => ⟨_, e, hE.size⟩
  · exact hU2628.row (hE26.row hr25 fun h => h) fun e => by
      rcases e with e | e
      · have : b4 < H.size := h.lv.1.lt e
        omega
      · have := h.run.1.lt
        have e : b4 = x.b := e
        omega
  · exact (hv24.ext (hE25.trans hE26 fun _ _ h => h)).upd hU2628 fun b hb e => by
      have := hn24 b hb
      rcases e with e | e
      · have := h.lv.1.lt e; omega
      · have := h.run.1.lt; omega
  · rcases hb with rfl | hb | hb
    · exact hb4n
    · exact Nat.le_trans hsz (hn24 b hb)
    · cases hb
end
section
open Hc Hc.Vf Hc.Mc Hc.Dice
variable {H : Heap}
structure DRdy (x : DG) (fs : List Rou) (op A : Int) (vs : List Int) : Prop where
  hop : 1 ≤ op ∧ op ≤ 39
  hA : I64 A
  hvl : (vs.length : Int) = takes (parms fs) (op, A)
  v64 : All64 vs
  acc : access (dmpOf x.g fs) x.ms (op, A) = true
  dice : 0 ≤ x.d ∧ x.d < 18446744073709551616
  st : 0 ≤ x.g.st ∧ x.g.st ≤ 2000
  stk : x.top.stk.length ≤ 64
  low : ∀ a ∈ x.low, a.stk.length ≤ 64
  kp : x.kp.length ≤ 12
  kpK : ∀ q ∈ x.kp, 1 ≤ q.kind ∧ q.kind ≤ 12
  cl : x.cl.length ≤ 16
  ev : x.evs.length ≤ 16
  es : x.es.length ≤ 2 ^ 60
  vl : vs.length ≤ 64
theorem ints_at {vs : List Int} {i : Nat} (h : i < vs.length) : (ints vs)[i]? = some (.int .i64 vs[i]!) := by
  rw [List.getElem?_map, List.getElem?_eq_getElem h, getElem!_pos vs i h]; rfl
theorem DRdy.m {x : DG} {fs : List Rou} {op A : Int} {vs : List Int} (r : DRdy x fs op A vs) : accessM (dmpOf x.g fs) x.ms op.toNat A = true := by
  have := r.acc
  unfold access at this
  split at this
  · cases this
  · exact this
theorem DRdy.len {x : DG} {fs : List Rou} {op A : Int} {vs : List Int} (r : DRdy x fs op A vs) {n : Nat} (hn : op = n) (h0 : (tbl[n]!).2.2 = 0) {m : Nat} (hm : (tbl[n]!).1 = m) : vs.length = m := by
  have := r.hvl.trans (takes_k r.hop (by dsimp only; omega) h0)
  omega
theorem s_rdoes {H0 : Heap} {x : DG} {fs : List Rou} {ins : List (Int × Int × Int)} (h : DocR H0 H x) (hc : CtxR H0 x.g.pF x.g.s x.g.inS fs ins) {op A : Int} {vs : List Int} (r : DRdy x fs op A vs)
    {l : Sl} (hl : Vec H T_int64 l (ints vs)) (hlc : IsS x.c H0.size 999 l) {k : Int → Heap → Prop}
    (hk : ∀ H' x', DPost H0 x (doesD (dmpOf x.g fs) (denOf x.g ins) x.ms vs (op, A)) H' x' → k (doesD (dmpOf x.g fs) (denOf x.g ins) x.ms vs (op, A)).1 H') :
    CallT Pg f_R_run_does [.pointer (some (adr x.b)), .pointer (some (adr x.top.p)), .agg #[.int .i64 op, .int .i64 A], .slice l.a l.len l.cap] IntR H k := by
  refine c_R_run_does _ _ (op, A) l ?_
  unfold v_R_run_does
  refine Nw_row (vs := [.int .i64 op, .int .i64 A]) fun b1 H1 hb1 hE1 hz1 hr1 => ?_
  have h1 := h.ext hE1
  simp only [NilCk_some, adr_add, mk_add]
  refine ⟨(x.g.ix, x.g.gn), ⟨(h1.run.1.cell 15).trans rfl, (h1.run.1.cell 16).trans rfl, trivial⟩, ?_⟩
  refine Nw_row (vs := [.int .i64 0, .int .i64 0]) fun b2 H2 hb2 hE2 hz2 hr2 => ?_
  have hs1 := hE1.size
  refine St_row hr2 (by simp) fun H3 hU3 _ hr3 => St_row hr3 (by simp) fun H4 hU4 _ hr4 => ?_
  have hr4 : Row H4 b2 T_api_Entity [.int .i64 x.g.ix, .int .i64 x.g.gn] := hr4
  have hE14 : Ext H1 H4 := extUpd (extUpd hE2 (by omega) hU3) (by omega) hU4
  have hE4 : Ext H H4 := hE1.trans hE14 fun _ _ h => h
  have hr1 := hE14.row hr1 fun h => h
  have h4 := h.ext hE4
  have hl4 := hl.ext hE4
  have co : hcell H4 (adr b1) = some (.int .i64 op) := (hr1.cell 0).trans rfl
  have cA : hcell H4 ⟨b1, 1, none⟩ = some (.int .i64 A) := (hr1.cell 1).trans rfl
  have c20 : hcell H4 ⟨b2, 0, none⟩ = some (.int .i64 x.g.ix) := (hr4.cell 0).trans rfl
  have c21 : hcell H4 ⟨b2, 1, none⟩ = some (.int .i64 x.g.gn) := (hr4.cell 1).trans rfl
  have cE : hcells H4 (adr b2) 0 [.int .i64 x.g.ix, .int .i64 x.g.gn] := ⟨c20, c21, trivial⟩
  have nb1 : ∀ {s : Sl} {b : Nat}, s.a = some (adr b) → b < H.size → s.a ≠ some (adr b1) := fun h1 h2 e => by rw [h1] at e; cases e; omega
  have hP : ∀ {H' x'} {res : Int × Ms}, DPost H0 x res H' x' → doesD (dmpOf x.g fs) (denOf x.g ins) x.ms vs (op, A) = res → k res.1 H' := fun hp he => by subst he; exact hk _ _ hp
  have acc := r.m
  -- what lies apart
  have hnl : ∀ {s : Sl} {j : Nat}, IsS x.c H0.size j s → j ≠ 999 → ∀ {b : Nat}, l.a = some (adr b) → s.a ≠ some (adr b) := fun hs hj b hb e => by
    have := (hs b e).2; have := (hlc b hb).2; omega
  refine Ld_int co (Jn_in (Jn_in (Br.mk (fun ho => ?_) fun n3 => ?_)))
  · have ho := beqI ho
    subst ho
    have hv1 := r.len (n := 3) rfl rfl (m := 1) rfl
    have acc : decide (0 ≤ A ∧ A < (x.top.loc.length : Int)) = true := acc
    refine Ld_sl (s := x.top.ls) ((h4.topR.row.cell 2).trans rfl) (Ld_int cA (vec_rdi hl4 (j := 0) rfl (by omega) (d_store h4 (of_decide_eq_true acc) fun H' c h' => ?_)))
    exact hP (res := (0, _)) ⟨h', rfl, rfl, fun _ => rfl, rfl, rfl⟩ (doesD_act rfl rfl)
  refine Jn_in (Br.mk (fun ho => ?_) fun n5 => ?_)
  · have ho := beqI ho
    subst ho
    have hv1 := r.len (n := 5) rfl rfl (m := 1) rfl
    have acc : fieldOk x.ms.vals A (x.g.s.l 3) = true := acc
    refine Ld_int cA (s_field (put := true) h4 hc r.es r.hA (fun hf => by rw [if_pos rfl, acc] at hf; cases hf) fun j hj hf hA0 hkd hlt hlo hput => ?_)
    refine Ld_sl (s := x.g.ps) ((h4.run.1.cell 18).trans rfl) (d_part h4 rfl hj fun a' _ ha2 => Ld_sl (s := x.es[j].sl) ha2 (vec_rdi hl4 (j := 0) rfl (by omega) (d_putf h4 hj ⟨by omega, hlt⟩ fun H' h' => ?_)))
    refine hP (res := (0, _)) ⟨h', rfl, rfl, fun _ => ?_, rfl, by simp⟩ (doesD_act rfl rfl)
    show Ms.mk _ _ _ _ _ _ _ _ _ _ = Ms.mk _ _ _ _ _ _ _ _ _ _
    have := hput (A % 8).toNat vs[0]!
    congr 1
    exact this.symm
  have hcl : x.top.r.sl.len = x.top.r.code.length := (h4.codes x.top (by simp)).len
  have hgoal : (if 0 ≤ A ∧ A < (x.top.r.sl.len : Int) then A else -1) = goal (dmpOf x.g fs) (fnOf x.top.r) A := by
    have := r.hA
    unfold I64 at this
    unfold goal
    dsimp only
    rw [hcl]
    by_cases e : 0 ≤ A ∧ A < (x.top.r.code.length : Int)
    · rw [if_pos e, if_pos ⟨e.1, e.2, by omega⟩]
    · rw [if_neg e, if_neg (fun g => e ⟨g.1, g.2.1⟩)]
  refine Jn_in (Br.mk (fun ho => ?_) fun n19 => ?_)
  · have ho := beqI ho
    subst ho
    have ccl : hcell H4 ⟨x.top.p, 1, none⟩ = some (.slice x.top.r.sl.a x.top.r.sl.len x.top.r.sl.cap) := (h4.topR.row.cell 1).trans rfl
    refine Ld_int cA (Ld_sl (s := x.top.r.sl) ccl (s_jump ?_))
    rw [hgoal]
    refine Stab_1 ccl (d_cell h4 (t := { x.top with nx := goal (dmpOf x.g fs) (fnOf x.top.r) A }) (by decide) rfl rfl rfl rfl rfl rfl rfl rfl fun H' c _ _ h' => ?_)
    exact hP (res := (0, _)) ⟨h', rfl, rfl, fun _ => rfl, rfl, rfl⟩ (doesD_act rfl rfl)
  refine Jn_in (Br.mk (fun ho => ?_) fun n20 => ?_)
  · have ho := beqI ho
    subst ho
    have hv1 := r.len (n := 20) rfl rfl (m := 1) rfl
    have ccl : hcell H4 ⟨x.top.p, 1, none⟩ = some (.slice x.top.r.sl.a x.top.r.sl.len x.top.r.sl.cap) := (h4.topR.row.cell 1).trans rfl
    refine vec_rdi hl4 (j := 0) rfl (by omega) (Jn_in (Br.mk (fun hz => ?_) fun hz => ?_))
    · refine Ld_int cA (Ld_sl (s := x.top.r.sl) ccl (s_jump ?_))
      rw [hgoal]
      refine Stab_1 ccl (d_cell h4 (t := { x.top with nx := goal (dmpOf x.g fs) (fnOf x.top.r) A }) (by decide) rfl rfl rfl rfl rfl rfl rfl rfl fun H' c _ _ h' => ?_)
      refine hP (res := (0, { x.ms with top := { x.ms.top with nx := goal (dmpOf x.g fs) (fnOf x.top.r) A } })) ⟨h', rfl, rfl, fun _ => rfl, rfl, rfl⟩ ?_
      rw [doesD_act rfl rfl]
      show (0, if vs[0]! = 0 then _ else _) = _
      rw [if_pos (beqI hz)]
    · refine hP (res := (0, x.ms)) ⟨h4, rfl, rfl, fun _ => rfl, rfl, rfl⟩ ?_
      rw [doesD_act rfl rfl]
      show (0, if vs[0]! = 0 then _ else _) = _
      rw [if_neg (bneI hz)]
  refine Br.mk (fun ho => ?_) fun n21 => ?_
  · have ho := beqI ho
    subst ho
    have acc : decide (0 ≤ A ∧ A < ((fs.map fnOf).length : Int) ∧ (x.low.map DP.act).length + 1 ≤ 16) = true := acc
    have acc := of_decide_eq_true acc
    rw [List.length_map, List.length_map] at acc
    refine s_rstep h4 r.st fun H5 hU5 h5 => ?_
    have hb5 := hU5.row hr1 fun e => hr1.ne h4.run.1 (by decide) e
    refine d_call h5 hc ⟨acc.1, acc.2.1⟩ acc.2.2 hb5 (fun e => h4.lv.1.ne e hr1 (by decide) rfl) (hl4.upd hU5 fun b hb e => ?_) (by have := r.vl; omega) fun H6 ls t c h6 ht => ?_
    · have h8 := (hlc b hb).2
      have h9 := h.run.2.2
      rw [e] at h8
      omega
    · by_cases hle : x.g.st + 1 ≤ 2000
      · rw [if_pos hle]
        refine hP (res := (0, { x.ms with low := x.ms.low ++ [x.ms.top], top := ⟨(fs.map fnOf)[A.toNat]!, locals ((fs.map fnOf)[A.toNat]!) vs, [], 0⟩, steps := x.g.st + 1, since := 0 })) ⟨h6, rfl, rfl, fun _ => ?_, rfl, rfl⟩ ?_
        · show Ms.mk _ _ _ _ _ _ _ _ _ _ = Ms.mk _ _ _ _ _ _ _ _ _ _
          dsimp only
          rw [ht, List.map_append, rou_get (by omega)]; rfl
        · rw [doesD_act rfl rfl]
          show (if x.g.st + 1 ≤ 2000 then _ else _) = _
          rw [if_pos hle]
      · rw [if_neg hle]
        refine hP (res := (120, { x.ms with steps := x.g.st + 1 })) ⟨h6, rfl, rfl, fun h => (by cases h), rfl, rfl⟩ ?_
        rw [doesD_act rfl rfl]
        show (if x.g.st + 1 ≤ 2000 then _ else _) = _
        rw [if_neg hle]
  have hll := h4.lv.1.len
  simp only [List.length_map, List.length_append, List.length_singleton] at hll
  have hlow := h4.lowl
  refine Jn_in (Br.mk (fun ho => ?_) fun n22 => ?_)
  · have ho := beqI ho
    subst ho
    have hv1 := r.len (n := 22) rfl rfl (m := 1) rfl
    have acc : decide (x.ms.low ≠ []) = true := acc
    have acc : x.low ≠ [] := fun e => of_decide_eq_true acc (by simp [e])
    obtain ⟨low, t, hlt⟩ := (List.eq_nil_or_concat x.low).resolve_left acc
    rw [List.concat_eq_append] at hlt
    have hlen : x.low.length = low.length + 1 := by rw [hlt]; simp
    refine Ld_sl (s := x.g.ls) ((h4.run.1.cell 19).trans rfl) (Ld_sl (s := x.g.ls) ((h4.run.1.cell 19).trans rfl) (Lt.mk (u := ((low.length + 1 : Nat) : Int)) (by rw [wrap_i64_id] <;> omega) ?_))
    refine SlA0 (by omega) (by have := h4.lv.1.lc; omega) (by omega) ?_
    simp only [Int.toNat_natCast]
    refine St_row h4.run.1 (by simp) fun H5 hU5 _ hr5 => ?_
    have hv5 : Vec H5 T_P_hindcastref16_activation ⟨x.g.ls.a, low.length + 1, x.g.ls.cap⟩ (dptrs (low ++ [t])) := by
      have hv := vec_pre h4.lv.1 (n := low.length + 1) (by simp [dptrs]; omega)
      have e : (dptrs (x.low ++ [x.top])).take (low.length + 1) = dptrs (low ++ [t]) := by
        rw [hlt, dptrs, List.map_append]; exact List.take_left' (by simp)
      rw [e] at hv
      exact hv.upd hU5 fun b hb e => h4.lv.1.ne hb h4.run.1 (by decide) e
    have hr5 : Row H5 x.b T_hindcastref16_run (drunV { x.g with ls := ⟨x.g.ls.a, low.length + 1, x.g.ls.cap⟩ }) := hr5
    have h5 := h4.ret hlt hU5 hr5 hv5 rfl
    have hl5 := hl4.upd hU5 fun b hb e => by
      have h8 := (hlc b hb).2
      have h9 := h.run.2.2
      rw [e] at h8
      omega
    have hr5 := h5.run.1
    refine Ld_sl (s := ⟨x.g.ls.a, low.length + 1, x.g.ls.cap⟩) ((hr5.cell 19).trans rfl) (Ld_sl (s := ⟨x.g.ls.a, low.length + 1, x.g.ls.cap⟩) ((hr5.cell 19).trans rfl) (Lt.mk (u := ((low.length : Nat) : Int)) (by dsimp only; rw [wrap_i64_id] <;> omega) ?_))
    refine IxA_vec hv5 (by omega) (by simp [dptrs]; omega) fun a ha _ => Ld_ptr (n := some (adr t.p)) (ha.trans ?_) ?_
    · rw [Int.toNat_natCast, dptrs, List.map_append, List.getElem?_append_right (by simp)]
      simp
    simp only [NilCk_some, adr_add]
    have cst : hcell H5 ⟨t.p, 3, none⟩ = some (.slice t.ss.a t.ss.len t.ss.cap) := (h5.topR.row.cell 3).trans rfl
    refine Ld_sl (s := t.ss) cst (IxA_vec hl5 (by omega) (by rw [List.length_map]; omega) fun a ha hab => Ld_int (n := vs[0]!) (ha.trans (ints_at (i := 0) (by omega))) ?_)
    have ca : hcell H5 a = some (.int .i64 vs[0]!) := ha.trans (ints_at (i := 0) (by omega))
    have htm : t ∈ x.low := by rw [hlt]; simp
    refine d_push h5 (r.low t htm) (fun y hy => ?_) (fun y hy => ?_) fun H6 ss c h6 => ?_
    · rw [List.mem_singleton.1 hy]; exact cst
    · rw [List.mem_singleton.1 hy]
      refine ⟨ca, fun e => ?_⟩
      obtain ⟨b, hb, rfl⟩ := hab
      have := h5.topI b (.inr (.inr e))
      have h9 := (hlc b hb).2
      have := this.2
      dsimp only at this
      omega
    · refine hP (res := (0, _)) ⟨h6, rfl, rfl, fun _ => ?_, rfl, rfl⟩ (doesD_act rfl rfl)
      show Ms.mk _ _ _ _ _ _ _ _ _ _ = Ms.mk _ _ _ _ _ _ _ _ _ _
      have e : x.ms.low = low.map DP.act ++ [t.act] := by show x.low.map DP.act = _; rw [hlt]; simp
      dsimp only
      rw [show List.map DP.act x.low = low.map DP.act ++ [t.act] from e, List.dropLast_concat, List.getLast!_eq_getLast?_getD, List.getLast?_concat]
      rfl
  refine Jn_in (Br.mk (fun ho => ?_) fun n23 => ?_)
  · have ho := beqI ho
    subst ho
    refine St_row h4.run.1 (by simp) fun H5 hU5 _ hr5 => ?_
    have hr5 : Row H5 x.b T_hindcastref16_run (drunV { x.g with ov := true }) := hr5
    exact hP (res := (0, _)) ⟨h4.num (ov := true) hU5 hr5, rfl, rfl, fun _ => rfl, rfl, rfl⟩ (doesD_act rfl rfl)
  refine Br.mk (fun ho => ?_) fun n24 => ?_
  · have ho := beqI ho
    subst ho
    refine s_rstep h4 r.st fun H5 hU5 h5 => ?_
    by_cases hle : x.g.st + 1 ≤ 2000
    · rw [if_pos hle]
      refine hP (res := (0, { x.ms with steps := x.g.st + 1, since := 0 })) ⟨h5, rfl, rfl, fun _ => rfl, rfl, rfl⟩ ?_
      rw [doesD_act rfl rfl]
      show (if x.g.st + 1 ≤ 2000 then _ else _) = _
      rw [if_pos hle]
    · rw [if_neg hle]
      refine hP (res := (120, { x.ms with steps := x.g.st + 1 })) ⟨h5, rfl, rfl, fun h => (by cases h), rfl, rfl⟩ ?_
      rw [doesD_act rfl rfl]
      show (if x.g.st + 1 ≤ 2000 then _ else _) = _
      rw [if_neg hle]
  have nb : ∀ {s : Sl} {b0 : Nat}, (∀ b, s.a = some (adr b) → b < H.size) → H.size ≤ b0 → s.a ≠ some (adr b0) := fun hs hb e => by have := hs _ e; omega
  refine Jn_in (Br.mk (fun ho => ?_) fun n25 => ?_)
  · have ho := beqI ho
    subst ho
    have hv1 := r.len (n := 25) rfl rfl (m := 2) rfl
    have ce : hcell H4 ⟨x.b, 25, none⟩ = some (.slice x.g.es.a x.g.es.len x.g.es.cap) := (h4.run.1.cell 25).trans rfl
    have cn : hcell H4 ⟨x.b, 10, none⟩ = some (.int .i64 x.g.n) := (h4.run.1.cell 10).trans rfl
    refine Ld_sl (s := x.g.es) ce (Ld_int (n := x.g.n) cn ⟨(x.g.ix, x.g.gn), cE, ?_⟩)
    refine IxA_vec hl4 (by omega) (by rw [List.length_map]; omega) fun a ha hab => ?_
    have ca : hcell H4 a = some (.int .i64 vs[0]!) := ha.trans (ints_at (i := 0) (by omega))
    refine Ld_int (n := vs[0]!) ca (IxA_vec hl4 (by omega) (by rw [List.length_map]; omega) fun a' ha' hab' => ?_)
    have ca' : hcell H4 a' = some (.int .i64 vs[1]!) := ha'.trans (ints_at (i := 1) (by omega))
    refine Ld_int (n := vs[1]!) ca' ?_
    refine d_event h4 r.ev (q := ⟨x.g.n, (x.g.ix, x.g.gn), vs[0]!, vs[1]!⟩) (fun y hy => ?_) (fun y hy => ?_) fun H5 es c h5 => ?_
    · simp only [List.mem_cons, List.not_mem_nil, or_false] at hy
      rcases hy with rfl | rfl | rfl | rfl | rfl | rfl
      · exact ca'
      · exact ca
      · exact c20
      · exact c21
      · exact cn
      · exact ce
    · obtain ⟨b, hb, rfl⟩ := hab
      obtain ⟨b', hb', rfl⟩ := hab'
      simp only [List.mem_cons, List.not_mem_nil, or_false] at hy
      rcases hy with rfl | rfl | rfl | rfl | rfl
      · exact ⟨ca', hnl h.ev.2 (by decide) hb'⟩
      · exact ⟨ca, hnl h.ev.2 (by decide) hb⟩
      · exact ⟨c20, nb (fun b hb => h.ev.1.lt hb) (by dsimp only; omega)⟩
      · exact ⟨c21, nb (fun b hb => h.ev.1.lt hb) (by dsimp only; omega)⟩
      · exact ⟨cn, fun e => h4.ev.1.ne e h4.run.1 (by decide) rfl⟩
    · exact hP (res := (0, _)) ⟨h5, rfl, rfl, fun _ => rfl, rfl, rfl⟩ (doesD_act rfl rfl)
  refine Jn_in (Br.mk (fun ho => ?_) fun n26 => ?_)
  · have ho := beqI ho
    subst ho
    have acc : (decide (0 ≤ A) && isKindB (A / 8) && decide ((x.kp.map PtP.pt).length < 12)) = true := acc
    simp only [Bool.and_eq_true, decide_eq_true_eq] at acc
    have ck : hcell H4 ⟨x.b, 22, none⟩ = some (.slice x.g.ks.a x.g.ks.len x.g.ks.cap) := (h4.run.1.cell 22).trans rfl
    refine Ld_sl (s := x.g.ks) ck (Ld_int cA ⟨by decide, ?_⟩)
    rw [tdiv8 acc.1.1 r.hA]
    refine d_keep h4 r.kp (q := ⟨A / 8, l, vs⟩) hl4 hlc (fun y hy => ?_) (fun y hy => ?_) fun H5 ks c h5 => ?_
    · simp only [List.mem_cons, List.not_mem_nil, or_false] at hy
      rcases hy with rfl | rfl
      · exact cA
      · exact ck
    · rw [List.mem_singleton.1 hy]
      exact ⟨cA, nb (fun b hb => h.kv.1.lt hb) (by dsimp only; omega)⟩
    · refine hP (res := (0, _)) ⟨h5, rfl, rfl, fun _ => ?_, rfl, rfl⟩ (doesD_act rfl rfl)
      show Ms.mk _ _ _ _ _ _ _ _ _ _ = Ms.mk _ _ _ _ _ _ _ _ _ _
      simp
  have ccs : hcell H4 ⟨x.b, 24, none⟩ = some (.slice x.g.cs.a x.g.cs.len x.g.cs.cap) := (h4.run.1.cell 24).trans rfl
  refine Jn_in (Br.mk (fun ho => ?_) fun n27 => ?_)
  · have ho := beqI ho
    subst ho
    have ck : hcell H4 ⟨x.b, 22, none⟩ = some (.slice x.g.ks.a x.g.ks.len x.g.ks.cap) := (h4.run.1.cell 22).trans rfl
    refine Ld_sl (s := x.g.cs) ccs (Ld_sl (s := x.g.ks) ck (s_rising h4.kv.1 r.kp r.kpK fun H5 ps hE5 hv5 hn5 => Stab_1 (hE5.cell ccs fun h => h) ?_))
    have hp : (risK PtP.kind x.kp).Perm x.kp := risN_perm 13 x.kp fun p hp => by have := r.kpK p hp; omega
    refine Nw_row (vs := cmV (spawned ps (risK PtP.kind x.kp))) fun b6 H6 hb6 hE6 _ hr6 => ?_
    have hE46 := hE5.trans hE6 fun _ _ h => h
    refine Stab_2 (hE46.cell ck fun h => h) (hE46.cell ccs fun h => h) ?_
    have h6 := h4.ext hE46
    have hlen := h6.cv.1.len
    rw [flat_len cmV_len] at hlen
    have hcll := r.cl
    refine App_vecN (ws := cmV (spawned ps (risK PtP.kind x.kp))) rfl (by decide) h6.cv.1 hr6.rd_all rfl (cmV_one _) (by decide) (by dsimp only; omega) fun cs H7 hv7 hl7 hU7 ha7 => ?_
    have hrun7 := hU7.row h6.run.1 fun e => h6.cv.1.ne e.1 h6.run.1 (by decide) rfl
    refine Stab_1 ((hrun7.cell 22).trans rfl) ?_
    refine St_row hrun7 (by simp) fun H8 hU8 _ hr8 => St_row hr8 (by simp) fun H9 hU9 _ hr9 => ?_
    have hU69 : Upd (fun b => x.g.cs.a = some (adr b) ∨ b = x.b) H6 H9 := ((hU7.mono fun b _ e => .inl e.1).trans hU8 fun _ _ e => .inr e).trans hU9 fun _ _ e => .inr e
    have hr9 : Row H9 x.b T_hindcastref16_run (drunV { x.g with cs := cs, ks := ⟨none, 0, 0⟩ }) := hr9
    have h9 := h4.spawn (cs := cs) (ps := ps) hp ((hE46.mono fun _ _ h => h.elim).trans hU69 fun _ _ e => e) hr9 ((hv5.ext hE6).upd hU69 fun b hb e => by
        have := hn5 b hb
        rcases e with e | e
        · have := h4.cv.1.lt e; omega
        · have := h4.run.1.lt; omega) hn5 (by
      have := (hv7.upd hU8 fun b hb e => hv7.ne hb hrun7 (by decide) e).upd hU9 fun b hb e => hv7.ne hb hrun7 (by decide) e
      simpa using this) (ha7.imp (fun e => e.1) fun e => ⟨_, e, hE46.size⟩)
    refine hP (res := (0, _)) ⟨h9, rfl, rfl, fun _ => ?_, rfl, rfl⟩ (doesD_act rfl rfl)
    show Ms.mk _ _ _ _ _ _ _ _ _ _ = Ms.mk _ _ _ _ _ _ _ _ _ _
    have e : rise (x.kp.map PtP.pt) = (risK PtP.kind x.kp).map PtP.pt := by
      rw [rise_eq]; exact (risN_map PtP.pt (fun _ => rfl) x.kp 13).symm
    dsimp only
    rw [e]; simp
  refine Jn_in (Br.mk (fun ho => ?_) fun n28 => ?_)
  · have ho := beqI ho
    subst ho
    have acc : (decide (0 ≤ A) && isKindB (A / 8)) = true := acc
    simp only [Bool.and_eq_true, decide_eq_true_eq] at acc
    refine Ld_sl (s := x.g.cs) ccs ⟨(x.g.ix, x.g.gn), cE, Ld_int cA ⟨by decide, ?_⟩⟩
    rw [tdiv8 acc.1 r.hA]
    refine d_cmd h4 r.cl (q := ⟨3, (x.g.ix, x.g.gn), A / 8, l, vs, ⟨none, 0, 0⟩, []⟩) hl4 hlc rfl rfl (fun y hy => ?_) (fun y hy => ?_) fun H5 cs c h5 => ?_
    · simp only [List.mem_cons, List.not_mem_nil, or_false] at hy
      rcases hy with rfl | rfl | rfl | rfl
      · exact cA
      · exact c20
      · exact c21
      · exact ccs
    · simp only [List.mem_cons, List.not_mem_nil, or_false] at hy
      rcases hy with rfl | rfl | rfl
      · exact ⟨cA, nb (fun b hb => h.cv.1.lt hb) (by dsimp only; omega)⟩
      · exact ⟨c20, nb (fun b hb => h.cv.1.lt hb) (by dsimp only; omega)⟩
      · exact ⟨c21, nb (fun b hb => h.cv.1.lt hb) (by dsimp only; omega)⟩
    · refine hP (res := (0, _)) ⟨h5, rfl, rfl, fun _ => ?_, rfl, rfl⟩ (doesD_act rfl rfl)
      show Ms.mk _ _ _ _ _ _ _ _ _ _ = Ms.mk _ _ _ _ _ _ _ _ _ _
      simp
  have hnilc : ∀ {H' : Heap}, Vec H' T_int64 ⟨none, 0, 0⟩ (ints []) := Vec.nil _ _
  have hnils : IsS x.c H0.size 999 ⟨none, 0, 0⟩ := fun b hb => by cases hb
  refine Jn_in (Br.mk (fun ho => ?_) fun n29 => ?_)
  · have ho := beqI ho
    subst ho
    refine Ld_sl (s := x.g.cs) ccs ⟨(x.g.ix, x.g.gn), cE, Ld_int cA ?_⟩
    refine d_cmd h4 r.cl (q := ⟨4, (x.g.ix, x.g.gn), A, ⟨none, 0, 0⟩, [], ⟨none, 0, 0⟩, []⟩) hnilc hnils rfl rfl (fun y hy => ?_) (fun y hy => ?_) fun H5 cs c h5 => ?_
    · simp only [List.mem_cons, List.not_mem_nil, or_false] at hy
      rcases hy with rfl | rfl | rfl | rfl
      · exact cA
      · exact c20
      · exact c21
      · exact ccs
    · simp only [List.mem_cons, List.not_mem_nil, or_false] at hy
      rcases hy with rfl | rfl | rfl
      · exact ⟨cA, nb (fun b hb => h.cv.1.lt hb) (by dsimp only; omega)⟩
      · exact ⟨c20, nb (fun b hb => h.cv.1.lt hb) (by dsimp only; omega)⟩
      · exact ⟨c21, nb (fun b hb => h.cv.1.lt hb) (by dsimp only; omega)⟩
    · refine hP (res := (0, _)) ⟨h5, rfl, rfl, fun _ => ?_, rfl, rfl⟩ (doesD_act rfl rfl)
      show Ms.mk _ _ _ _ _ _ _ _ _ _ = Ms.mk _ _ _ _ _ _ _ _ _ _
      simp
  refine Jn_in (Br.mk (fun ho => ?_) fun n30 => ?_)
  · have ho := beqI ho
    subst ho
    refine Ld_sl (s := x.g.cs) ccs ⟨(x.g.ix, x.g.gn), cE, ?_⟩
    refine d_cmd h4 r.cl (q := ⟨2, (x.g.ix, x.g.gn), 0, ⟨none, 0, 0⟩, [], ⟨none, 0, 0⟩, []⟩) hnilc hnils rfl rfl (fun y hy => ?_) (fun y hy => ?_) fun H5 cs c h5 => ?_
    · simp only [List.mem_cons, List.not_mem_nil, or_false] at hy
      rcases hy with rfl | rfl | rfl
      · exact c20
      · exact c21
      · exact ccs
    · simp only [List.mem_cons, List.not_mem_nil, or_false] at hy
      rcases hy with rfl | rfl
      · exact ⟨c20, nb (fun b hb => h.cv.1.lt hb) (by dsimp only; omega)⟩
      · exact ⟨c21, nb (fun b hb => h.cv.1.lt hb) (by dsimp only; omega)⟩
    · refine hP (res := (0, _)) ⟨h5, rfl, rfl, fun _ => ?_, rfl, rfl⟩ (doesD_act rfl rfl)
      show Ms.mk _ _ _ _ _ _ _ _ _ _ = Ms.mk _ _ _ _ _ _ _ _ _ _
      simp
  refine Jn_in (Br.mk (fun ho => ?_) fun n39 => ?_)
  · have ho := beqI ho
    subst ho
    exact hP (res := (0, _)) ⟨h4, rfl, rfl, fun _ => rfl, rfl, rfl⟩ (doesD_act rfl rfl)
  have n3 := bneI n3; have n5 := bneI n5; have n19 := bneI n19; have n20 := bneI n20; have n21 := bneI n21; have n22 := bneI n22; have n23 := bneI n23; have n24 := bneI n24
  have n25 := bneI n25; have n26 := bneI n26; have n27 := bneI n27; have n28 := bneI n28; have n29 := bneI n29; have n30 := bneI n30; have n39 := bneI n39
  have hop := r.hop
  have hin : isBin op = true ∨ isUn op = true ∨ op = 1 ∨ op = 2 ∨ op = 4 ∨ (31 ≤ op ∧ op ≤ 35) := by
    unfold isBin isUn
    simp only [List.contains_cons, List.contains_nil, Bool.or_false, Bool.or_eq_true, beq_iff_eq]
    omega
  have cst : hcell H4 ⟨x.top.p, 3, none⟩ = some (.slice x.top.ss.a x.top.ss.len x.top.ss.cap) := (h4.topR.row.cell 3).trans rfl
  refine Ld_sl (s := x.top.ss) cst ⟨(op, A), ⟨co, cA, trivial⟩, ?_⟩
  refine s_answer h4 hc r.es r.hop r.hA hin hl4 r.hvl r.v64 r.m r.dice fun H5 v d hU5 h5 hd5 => ?_
  have cst5 : hcell H5 ⟨x.top.p, 3, none⟩ = some (.slice x.top.ss.a x.top.ss.len x.top.ss.cap) := (h5.topR.row.cell 3).trans rfl
  have hb5 := hU5.row hr1 fun e => hr1.ne h4.dice.1 (by decide) e
  have hnb : x.top.ss.a ≠ some (adr b1) := fun e => h4.topR.stk.ne e hr1 (by decide) rfl
  refine Stab_1 cst5 (d_push h5 r.stk (fun y hy => ?_) (fun y hy => ?_) fun H6 ss c h6 => ?_)
  · simp only [List.mem_cons, List.not_mem_nil, or_false] at hy
    rcases hy with rfl | rfl | rfl
    · exact (hb5.cell 0).trans rfl
    · exact (hb5.cell 1).trans rfl
    · exact cst5
  · simp only [List.mem_cons, List.not_mem_nil, or_false] at hy
    rcases hy with rfl | rfl
    · exact ⟨(hb5.cell 0).trans rfl, hnb⟩
    · exact ⟨(hb5.cell 1).trans rfl, hnb⟩
  · exact hP (res := (0, _)) ⟨h6, rfl, rfl, fun _ => rfl, rfl, rfl⟩ hd5
end
section
open Hc Hc.Vf Hc.Mc Hc.Dice
variable {H : Heap}
theorem DPost.of {H0 H' : Heap} {x y x' : DG} {res : Int × Ms} (h : DPost H0 y res H' x') (hb : y.b = x.b) (hs : dstat y.g = dstat x.g) (he : y.es.length = x.es.length) : DPost H0 x res H' x' :=
  ⟨h.doc, h.b.trans hb, h.st.trans hs, h.ms, h.steps, h.el.trans he⟩
theorem room_c {m : Ms} {op : Int} (h : op = 27 ∨ (28 ≤ op ∧ op ≤ 30)) : room m op = decide (m.cmds.length < 16) := by
  unfold room; rw [if_pos (by omega)]
theorem room_e {m : Ms} (h : True) : room m 25 = decide (m.evs.length < 16) := by
  unfold room; rw [if_neg (by decide), if_pos rfl]
theorem room_o {m : Ms} {op : Int} (h : ¬ (op = 27 ∨ (28 ≤ op ∧ op ≤ 30)) ∧ op ≠ 25) : room m op = true := by
  unfold room; rw [if_neg (by omega), if_neg h.2]
theorem s_rone {H0 : Heap} {x : DG} {fs : List Rou} {ins : List (Int × Int × Int)} (h : DocR H0 H x) (hc : CtxR H0 x.g.pF x.g.s x.g.inS fs ins) (hes : x.es.length ≤ 2 ^ 60) (hP : POk (dmpOf x.g fs)) (hM : MOk (dmpOf x.g fs) x.ms) {k : Int → Heap → Prop}
    (hk : ∀ H' x', DPost H0 x (stepM (dmpOf x.g fs) (denOf x.g ins) x.ms) H' x' → k (stepM (dmpOf x.g fs) (denOf x.g ins) x.ms).1 H') :
    CallT Pg f_R_run_one [.pointer (some (adr x.b))] IntR H k := by
  refine c_R_run_one _ ?_
  unfold v_R_run_one
  simp only [NilCk_some, adr_add, mk_add]
  have hps : (dmpOf x.g fs).ps = parms fs := by simp [MP.ps, parms]
  have hlow := h.lowl
  have hll := h.lv.1.len
  simp only [List.length_map, List.length_append, List.length_singleton] at hll
  have hsi := hM.since
  have hsi' : 0 ≤ x.g.si ∧ x.g.si ≤ 40000 := hsi
  -- who fails
  have hbad : ∀ (e : Int) (H' : Heap) (x' : DG), e ≠ 0 → ready (dmpOf x.g fs) x.ms = e → DocR H0 H' x' → x'.b = x.b → dstat x'.g = dstat x.g → x'.g.st = x.g.st → x'.es.length = x.es.length → k e H' := fun e H' x' he hr hd hb hs hst hel => by
    have hm : stepM (dmpOf x.g fs) (denOf x.g ins) x.ms = (e, x.ms) := by unfold stepM; rw [if_neg (by rw [hr]; exact he), hr]
    have := hk H' x' ⟨hd, hb, hs, fun h0 => by rw [hm] at h0; exact absurd h0 he, by rw [hm]; exact hst, hel⟩
    rw [hm] at this; exact this
  have cls : hcell H ⟨x.b, 19, none⟩ = some (.slice x.g.ls.a x.g.ls.len x.g.ls.cap) := (h.run.1.cell 19).trans rfl
  refine Ld_sl (s := x.g.ls) cls (Ld_sl (s := x.g.ls) cls (Lt.mk (u := ((x.low.length : Nat) : Int)) (by rw [wrap_i64_id] <;> omega) ?_))
  refine IxA_vec h.lv.1 (by omega) (by simp [dptrs]; omega) fun a ha _ => Ld_ptr (n := some (adr x.top.p)) (ha.trans ?_) ?_
  · rw [Int.toNat_natCast, dptrs, List.map_append, List.getElem?_append_right (by simp)]
    simp
  simp only [NilCk_some, adr_add]
  have topc : ∀ n, hcell H ⟨x.top.p, n, none⟩ = (dactV x.top)[n]? := h.topR.row.cell
  have hcl : x.top.r.sl.len = x.top.r.code.length := (h.codes x.top (by simp)).len
  refine Jn.mk (fun j H' => H = H' ∧ j = decide (¬ (0 ≤ x.top.nx ∧ x.top.nx < (x.top.r.code.length : Int)))) (fun kk hkk => ?_) ?_
  · refine Ld_int (n := x.top.nx) ((topc 4).trans rfl) (Br_dec (fun h => hkk _ _ ⟨rfl, (decide_eq_true (by omega)).symm⟩) fun h => ?_)
    refine Ld_int (n := x.top.nx) ((topc 4).trans rfl) (Ld_sl (s := x.top.r.sl) ((topc 1).trans rfl) (hkk _ _ ⟨rfl, decide_eq_decide.2 (by omega)⟩))
  rintro j _ ⟨rfl, rfl⟩
  refine Br_dec (fun hj => hbad 150 _ x (by decide) (by unfold ready; exact if_pos hj) h rfl rfl rfl rfl) fun hj => ?_
  have hnx := Decidable.not_not.1 hj
  refine Ld_int (n := x.g.si) ((h.run.1.cell 21).trans rfl) (Br_dec (fun hs => hbad 153 _ x (by decide) (by unfold ready; rw [if_neg hj]; exact if_pos hs) h rfl rfl rfl rfl) fun hs => ?_)
  refine Ld_int (n := x.g.si) ((h.run.1.cell 21).trans rfl) (Lt.mk (u := x.g.si + 1) (by rw [wrap_i64_id] <;> omega) ?_)
  refine St_row h.run.1 (by simp) fun H1 hU1 _ hr1 => ?_
  have hr1 : Row H1 x.b T_hindcastref16_run (drunV { x.g with si := x.g.si + 1 }) := hr1
  have h1 := h.num hU1 hr1
  have topc1 : ∀ n, hcell H1 ⟨x.top.p, n, none⟩ = (dactV x.top)[n]? := h1.topR.row.cell
  refine Ld_sl (s := x.top.r.sl) ((topc1 1).trans rfl) (Ld_int (n := x.top.nx) ((topc1 4).trans rfl) ?_)
  have hin : x.top.nx.toNat < x.top.r.code.length := by omega
  refine IxA_rn' insV_len ((h1.codes x.top (by simp)).ext h1.base) (by decide) (j := x.top.nx.toNat) (by omega) hin fun a7 ha7 => ?_
  have hmem : x.top.r.code[x.top.nx.toNat]! ∈ x.top.r.code := by rw [getElem!_pos x.top.r.code _ hin]; exact List.getElem_mem _
  have hi64 := (hM.top.fnOk hP).code _ hmem
  generalize hi : x.top.r.code[x.top.nx.toNat]! = i at *
  obtain ⟨op, A⟩ := i
  have hins : x.ms.top.fn.code[x.ms.top.nx.toNat]! = (op, A) := hi
  dsimp only at hi64
  refine ⟨(op, A), ha7, ?_⟩
  refine Nw_row (vs := [.int .i64 0, .int .i64 0]) fun b2 H2 hb2 hE2 hz2 hr2 => ?_
  have h2 := h1.ext hE2
  have topc2 : ∀ n, hcell H2 ⟨x.top.p, n, none⟩ = (dactV x.top)[n]? := h2.topR.row.cell
  have ha72 := hcells_ext hE2 ha7
  refine Stab_all (fun y hy => ?_) ?_
  · simp only [List.mem_cons, List.not_mem_nil, or_false] at hy
    rcases hy with rfl | rfl | rfl | rfl
    · exact ha72.1
    · exact ha72.2.1
    · exact (topc2 4).trans rfl
    · exact (topc2 1).trans rfl
  refine St_row hr2 (by simp) fun H3 hU3 _ hr3 => St_row hr3 (by simp) fun H4 hU4 _ hr4 => ?_
  have hr4 : Row H4 b2 T_api_Instr [.int .i64 op, .int .i64 A] := hr4
  have hE4 : Ext H1 H4 := extUpd (extUpd hE2 (by omega) hU3) (by omega) hU4
  have h4 := h1.ext hE4
  have hs4 := hE4.size
  have ci : ∀ {H'}, Ext H4 H' → hcell H' (adr b2) = some (.int .i64 op) := fun hE => ((hE.row hr4 fun h => h).cell 0).trans rfl
  have cia : ∀ {H'}, Ext H4 H' → hcells H' (adr b2) 0 [.int .i64 op, .int .i64 A] := fun hE => (hE.row hr4 fun h => h).rd_all
  have e4 : ∀ (e : Int) (H' : Heap), Ext H4 H' → e ≠ 0 → ready (dmpOf x.g fs) x.ms = e → k e H' := fun e H' hE he hr => hbad e H' _ he hr (h4.ext hE) rfl rfl rfl rfl
  refine Ld_int (ci (.refl _ _)) (s_rIsOp (Br_not (Br.mk (fun hop => ?_) fun hop => ?_)))
  rotate_left
  · exact e4 152 _ (.refl _ _) (by decide) (by unfold ready; rw [hins, if_neg hj, if_neg hs]; exact if_pos hop)
  have hop' : 1 ≤ op ∧ op ≤ 39 := of_decide_eq_true hop
  refine ⟨(op, A), cia (.refl _ _), Ld_sl (s := x.g.pF) ((h4.run.1.cell 1).trans rfl) (s_rEffect (i := (op, A)) (hc.fn.ext h4.base) fun H5 hE5 => ?_)⟩
  have h5 := h4.ext hE5
  have topc5 : ∀ n, hcell H5 ⟨x.top.p, n, none⟩ = (dactV x.top)[n]? := h5.topR.row.cell
  have hsl : x.top.ss.len = x.top.stk.length := by have := h.topR.stk.len; simpa using this
  have hst64 : x.top.stk.length ≤ 64 := hM.top.stk
  have hn0 : ¬ isOpB op = false := by rw [hop]; decide
  refine Jn.mk (fun j H' => H5 = H' ∧ j = decide ((x.top.stk.length : Int) < takes (parms fs) (op, A) ∨ (x.top.stk.length : Int) - takes (parms fs) (op, A) + puts (op, A) > 64)) (fun kk hkk => ?_) ?_
  · refine Ld_sl (s := x.top.ss) ((topc5 3).trans rfl) (Br_dec (fun h => hkk _ _ ⟨rfl, (decide_eq_true (by omega)).symm⟩) fun h => ?_)
    have ht0 := takes_bd (parms fs) (op, A)
    have hp0 := puts_bd (op, A)
    refine Ld_sl (s := x.top.ss) ((topc5 3).trans rfl) (Lt.mk (u := (x.top.stk.length : Int) - takes (parms fs) (op, A)) (by rw [wrap_i64_id] <;> omega) (Lt.mk (u := (x.top.stk.length : Int) - takes (parms fs) (op, A) + puts (op, A)) (by rw [wrap_i64_id] <;> omega) (hkk _ _ ⟨rfl, decide_eq_decide.2 (by omega)⟩)))
  rintro j _ ⟨rfl, rfl⟩
  refine Br_dec (fun hst => e4 151 _ hE5 (by decide) (by unfold ready; rw [hins, if_neg hj, if_neg hs, if_neg hn0, hps]; exact if_pos hst)) fun hst => ?_
  refine ⟨(op, A), cia hE5, s_raccess h5 hc hes (i := (op, A)) hi64.2 fun H6 hE6 => ?_⟩
  have h6 := h5.ext hE6
  have hE46 := hE5.trans hE6 fun _ _ h => h
  have hacc : access (dmpOf { x.g with si := x.g.si + 1 } fs) ({ x with g := { x.g with si := x.g.si + 1 } } : DG).ms (op, A) = access (dmpOf x.g fs) x.ms (op, A) := rfl
  rw [hacc]
  refine Br_not (Br.mk (fun ha => ?_) fun ha => ?_)
  rotate_left
  · exact e4 152 _ hE46 (by decide) (by unfold ready; rw [hins, if_neg hj, if_neg hs, if_neg hn0, hps, if_neg hst]; exact if_pos ha)
  have han : ¬ access (dmpOf x.g fs) x.ms (op, A) = false := by rw [ha]; decide
  have hcsl : x.g.cs.len = x.cl.length := by have := h.cv.1.len; rw [flat_len cmV_len] at this; omega
  have hesl : x.g.es.len = x.evs.length := by have := h.ev.1.len; rw [flat_len evV_len] at this; omega
  have cc : hcell H6 ⟨x.b, 24, none⟩ = some (.slice x.g.cs.a x.g.cs.len x.g.cs.cap) := (h6.run.1.cell 24).trans rfl
  have ce : hcell H6 ⟨x.b, 25, none⟩ = some (.slice x.g.es.a x.g.es.len x.g.es.cap) := (h6.run.1.cell 25).trans rfl
  have co := ci hE46
  refine Jn.mk (fun j H' => H6 = H' ∧ j = !(room x.ms op)) (fun kk hkk => ?_) ?_
  · have hcm : ∀ b, (op = 27 ∨ (28 ≤ op ∧ op ≤ 30)) → b = decide ((x.g.cs.len : Int) ≥ 16) → kk b H6 := fun b ho hb => hkk _ _ ⟨rfl, by
      rw [hb, room_c ho, ← decide_not]
      exact decide_eq_decide.2 (by show _ ↔ ¬ (x.cl.map CmP.cm).length < 16; rw [List.length_map]; omega)⟩
    have hev : ∀ b, op = 25 → b = decide ((x.g.es.len : Int) ≥ 16) → kk b H6 := fun b ho hb => hkk _ _ ⟨rfl, by
      rw [hb, ho, room_e trivial, ← decide_not]
      exact decide_eq_decide.2 (by show _ ↔ ¬ x.evs.length < 16; omega)⟩
    have hot : ¬ (op = 27 ∨ (28 ≤ op ∧ op ≤ 30)) → op ≠ 25 → kk false H6 := fun h1 h2 => hkk _ _ ⟨rfl, by rw [room_o ⟨h1, h2⟩]; rfl⟩
    refine Ld_int co (Br.mk (fun h27 => ?_) fun h27 => ?_)
    · have h27 := beqI h27
      refine Ld_sl (s := x.g.cs) cc (Br_dec (fun h => hcm _ (.inl h27) (decide_eq_true h).symm) fun h => Ld_int co (Br.mk (fun h25 => absurd (beqI h25) (by omega)) fun _ => hcm _ (.inl h27) (decide_eq_false h).symm))
    · have h27 := bneI h27
      refine Ld_int co (Br_dec (fun h28 => Ld_int co (Br_dec (fun h30 => ?_) fun h30 => ?_)) fun h28 => ?_)
      · refine Ld_sl (s := x.g.cs) cc (Br_dec (fun h => hcm _ (.inr ⟨h28, h30⟩) (decide_eq_true h).symm) fun h => Ld_int co (Br.mk (fun h25 => absurd (beqI h25) (by omega)) fun _ => hcm _ (.inr ⟨h28, h30⟩) (decide_eq_false h).symm))
      · refine Ld_int co (Br.mk (fun h25 => absurd (beqI h25) (by omega)) fun h25 => hot (by omega) (by omega))
      · refine Ld_int co (Br.mk (fun h25 => Ld_sl (s := x.g.es) ce (hev _ (beqI h25) rfl)) fun h25 => hot (by omega) (bneI h25))
  rintro j _ ⟨rfl, rfl⟩
  refine Br_not (Br.mk (fun hrm => ?_) fun hrm => ?_)
  rotate_left
  · exact e4 102 _ hE46 (by decide) (by unfold ready; rw [hins, if_neg hj, if_neg hs, if_neg hn0, hps, if_neg hst, if_neg han]; exact if_pos hrm)
  -- it is ready
  have hR : Rdy (dmpOf x.g fs) x.ms (op, A) := ⟨hnx, hi, (show x.g.si < 40000 from by omega), hop', by rw [hps]; exact ⟨show takes (parms fs) (op, A) ≤ (x.top.stk.length : Int) by omega, show (x.top.stk.length : Int) - takes (parms fs) (op, A) + puts (op, A) ≤ 64 by omega⟩, ha, hrm⟩
  have hrdy := ready_of hR
  have hstep : stepM (dmpOf x.g fs) (denOf x.g ins) x.ms = doesD (dmpOf x.g fs) (denOf x.g ins) (cut x.ms (takes (parms fs) (op, A)).toNat) (args x.ms (takes (parms fs) (op, A)).toNat) (op, A) := by
    unfold stepM
    rw [if_pos hrdy, hR.ins, does_doesD, hps]
  have ht0 := takes_bd (parms fs) (op, A)
  generalize htn : takes (parms fs) (op, A) = t at *
  obtain ⟨n, rfl⟩ : ∃ n : Nat, t = n := ⟨t.toNat, by omega⟩
  have hnl : n ≤ x.top.stk.length := by omega
  rw [Int.toNat_natCast] at hstep
  have topc6 : ∀ n, hcell H6 ⟨x.top.p, n, none⟩ = (dactV x.top)[n]? := h6.topR.row.cell
  refine Ld_sl (s := x.top.ss) ((topc6 3).trans rfl) (Ld_sl (s := x.top.ss) ((topc6 3).trans rfl) (Lt.mk (u := ((x.top.stk.length - n : Nat) : Int)) (by rw [wrap_i64_id] <;> omega) ?_))
  refine vec_tail h6.topR.stk (n := x.top.stk.length - n) (by simp) fun s' hs' hsl' hsn => ?_
  rw [ints_drop] at hs'
  have hdl : (x.top.stk.drop (x.top.stk.length - n)).length = n := by rw [List.length_drop]; omega
  refine App_vec2 (ws := ints (x.top.stk.drop (x.top.stk.length - n))) (Vec.nil _ _) hs' (by rw [hsl', List.length_map, hdl, List.length_map]; show n = x.top.stk.length - (x.top.stk.length - n); omega) (ints_one _) (by decide) (by rw [List.length_map, hdl]; simp only [List.length_nil]; omega) fun l2 H7 hv7 hU7 ha7 _ => ?_
  have hE7 : Ext H6 H7 := hU7.mono fun b _ e => by cases e.1
  have hl2 : ∀ b, l2.a = some (adr b) → H6.size ≤ b := fun b hb => by
    rcases ha7 with e | e
    · rw [e.1] at hb; cases hb
    · rw [e] at hb; cases hb; exact Nat.le_refl _
  have h7 := h6.ext hE7
  have topc7 : ∀ n, hcell H7 ⟨x.top.p, n, none⟩ = (dactV x.top)[n]? := h7.topR.row.cell
  refine Stab_2 ((topc7 3).trans rfl) ((topc7 3).trans rfl) ?_
  refine Ld_sl (s := x.top.ss) ((topc7 3).trans rfl) (Ld_sl (s := x.top.ss) ((topc7 3).trans rfl) (Lt.mk (u := ((x.top.stk.length - n : Nat) : Int)) (by rw [wrap_i64_id] <;> omega) ?_))
  refine SlA0 (by omega) (by have : x.top.ss.len ≤ x.top.ss.cap := h7.topR.stk.lc; omega) (by omega) ?_
  simp only [Int.toNat_natCast]
  refine St_row h7.topR.row (by simp) fun H8 hU8 _ hr8 => ?_
  refine Ld_int (n := x.top.nx) ((hr8.cell 4).trans rfl) (Lt.mk (u := x.top.nx + 1) ?_ ?_)
  · have := (hM.top.fnOk hP).len
    have e : x.ms.top.fn.code.length = x.top.r.code.length := rfl
    rw [wrap_i64_id] <;> omega
  refine St_row hr8 (by simp) fun H9 hU9 _ hr9 => ?_
  have hU79 : Upd (· = x.top.p) H7 H9 := hU8.trans hU9 fun _ _ e => e
  have hU69 : Upd (· = x.top.p) H6 H9 := (hE7.mono fun _ _ h => h.elim).trans hU79 fun _ _ e => e
  have hvcut : Vec H7 T_int64 ⟨x.top.ss.a, x.top.stk.length - n, x.top.ss.cap⟩ (ints (x.top.stk.take (x.top.stk.length - n))) := by
    have := vec_pre h7.topR.stk (n := x.top.stk.length - n) (by simp)
    rwa [ints_take] at this
  have h9 := h6.top (t := { x.top with ss := ⟨x.top.ss.a, x.top.stk.length - n, x.top.ss.cap⟩, stk := x.top.stk.take (x.top.stk.length - n), nx := x.top.nx + 1 }) (d := fun _ => 999) (tch_row hU69 (h6.topI _ (.inl rfl)) rfl)
    ⟨hr9, h7.topR.loc.upd hU79 fun b hb e => h7.topR.neL hb e, hvcut.upd hU79 fun b hb e => h7.topR.neS hb e, h7.topR.ap⟩ rfl rfl rfl fun b hb => .inl hb
  have hv9 := hv7.upd hU79 fun b hb e => by have := hl2 b hb; have : x.top.p < H6.size := h6.topR.row.lt; omega
  have hb9 : Row H9 b2 T_api_Instr [.int .i64 op, .int .i64 A] := hU79.row ((hE46.trans hE7 fun _ _ h => h).row hr4 fun h => h) fun e => hr4.ne h4.topR.row (by decide) e
  refine ⟨(op, A), hb9.rd_all, ?_⟩
  have hlow2 : ∀ a ∈ x.low, a.stk.length ≤ 64 := fun a ha => by
    have := (hM.low a.act (List.mem_map.2 ⟨a, ha, rfl⟩)).2
    have e : a.act.stk.length = a.stk.length := rfl
    omega
  have hkp : x.kp.length ≤ 12 := by have := hM.kept; simpa using this
  have hclm : x.cl.length ≤ 16 := by have := hM.cmds; simpa using this
  have hv0 : Vec H9 T_int64 l2 (ints (x.top.stk.drop (x.top.stk.length - n))) := by simpa using hv9
  refine s_rdoes h9 hc (vs := x.top.stk.drop (x.top.stk.length - n)) ⟨hop', hi64.2, by rw [hdl, htn], all_drop hM.top.stk64 _, ha, hM.dice, hM.steps, by rw [List.length_take]; omega, hlow2, hkp, fun q hq => hM.keptK q.pt (List.mem_map.2 ⟨q, hq, rfl⟩), hclm, hM.evs, hes, by rw [hdl]; omega⟩ hv0 (fun b hb => is_new h6.base.size (hl2 b hb) rfl) fun H' x' hp => ?_
  have e : doesD (dmpOf x.g fs) (denOf x.g ins) (cut x.ms n) (args x.ms n) (op, A) = stepM (dmpOf x.g fs) (denOf x.g ins) x.ms := hstep.symm
  have := hk H' x' (by rw [← e]; exact hp.of rfl rfl rfl)
  rw [← e] at this
  exact this
end
section
open Hc Hc.Vf Hc.Mc Hc.Dice
variable {H : Heap}
structure CopR (lo : Nat) (H : Heap) (out : Sl) (es : List PtP) : Prop where
  vn : VecN H T_api_Part 2 out (es.flatMap ptV)
  vR : ∀ q ∈ es, Vec H T_int64 q.sl (ints q.vals)
  ap : es.Pairwise fun p q => Apart p.sl q.sl
  newO : ∀ b, out.a = some (adr b) → lo ≤ b
  newE : ∀ q ∈ es, ∀ b, q.sl.a = some (adr b) → lo ≤ b
theorem CopR.ext {lo : Nat} {H' : Heap} {out : Sl} {es : List PtP} (h : CopR lo H out es) (hE : Ext H H') : CopR lo H' out es :=
  ⟨h.vn.ext hE, fun q hq => (h.vR q hq).ext hE, h.ap, h.newO, h.newE⟩
theorem CopR.upd {lo : Nat} {H' : Heap} {out : Sl} {es : List PtP} (h : CopR lo H out es) {b0 : Nat} {T : TypeId} {vs : List Value} (hr : Row H b0 T vs) (hT : T ≠ T_api_Part) (hT2 : T ≠ T_int64) (hU : Upd (· = b0) H H') : CopR lo H' out es :=
  ⟨h.vn.upd hU fun b hb e => h.vn.ne hb hr (fun e => hT e.symm) e, fun q hq => (h.vR q hq).upd hU fun b hb e => (h.vR q hq).ne hb hr (fun e => hT2 e.symm) e, h.ap, h.newO, h.newE⟩
theorem s_rcopied {l : Sl} {ps : List PtP} (hl : RN ptV 2 H l ps) (hpr : ∀ q ∈ ps, RL (Value.int .i64) H q.sl q.vals ∧ q.vals.length ≤ 2 ^ 44) (hpl : ps.length ≤ 2 ^ 42) {k : Sl → Heap → Prop}
    (hk : ∀ H' out es, Ext H H' → CopR H.size H' out es → es.map PtP.pt = ps.map PtP.pt → k out H') : CallT Pg f_R_copied [.slice l.a l.len l.cap] (.one (.c .sl)) H k := by
  refine c_R_copied _ ?_
  unfold v_R_copied
  have hlen := hl.len
  refine LoopT.mk (fun s H' => ∃ (n : Nat) (es : List PtP), s.2 = n ∧ n ≤ ps.length ∧ Ext H H' ∧ CopR H.size H' s.1 es ∧ es.map PtP.pt = (ps.take n).map PtP.pt) (fun s _ => ps.length - s.2.toNat)
    ⟨0, [], rfl, Nat.zero_le _, .refl _ _, ⟨VecN.nil _ _ _, (fun q h => by cases h), .nil, (fun b h => by cases h), fun q h => by cases h⟩, rfl⟩ ?_
  rintro next ⟨out, i⟩ H1 ⟨n, es, hi, hn, hE1, hcr, hes⟩ hnext
  dsimp only at hi hcr ⊢
  subst hi
  have hel : es.length = n := by
    have := congrArg List.length hes
    simp only [List.length_map, List.length_take] at this
    omega
  refine Br_dec (fun hlt => ?_) fun hge => ?_
  · have hn2 : n < ps.length := by omega
    refine IxA_rn' ptV_len hl (by decide) rfl hn2 fun a1 ha1 => ?_
    rw [getElem!_pos ps n hn2] at ha1
    refine Ld_int (n := ps[n].kind) (hcells_ext hE1 ha1).1 (IxA_rn' ptV_len hl (by decide) rfl hn2 fun a2 ha2 => ?_)
    rw [getElem!_pos ps n hn2] at ha2
    obtain ⟨hv, hvl⟩ := hpr _ (List.getElem_mem hn2)
    have hv1 := hv.ext hE1
    have k1 : ∀ {H'}, Ext H H' → hcell H' a1 = some (.int .i64 ps[n].kind) := fun hE => (hcells_ext hE ha1).1
    have k2 : ∀ {H'}, Ext H H' → hcell H' (a2.add 1) = some (slV ps[n].sl) := fun hE => (hcells_ext hE ha2).2.1
    refine Ld_sl (s := ps[n].sl) (k2 hE1) ?_
    refine App_vec2 (ws := ints ps[n].vals) (Vec.nil _ _) hv1.rd (by have := hv1.len; simp [this]) (ints_one _) (by decide) (by simp; omega) fun l1 H2 hv2 hU2 ha2' _ => ?_
    have hE2 : Ext H1 H2 := hU2.mono fun b _ e => by cases e.1
    have hn1 : ∀ b, l1.a = some (adr b) → H1.size ≤ b := fun b hb => by
      rcases ha2' with e | e
      · rw [e.1] at hb; cases hb
      · rw [e] at hb; cases hb; exact Nat.le_refl _
    have hE02 := hE1.trans hE2 fun _ _ h => h
    refine Stab_1 (k1 hE02) ?_
    refine Nw_row (vs := ptV ⟨ps[n].kind, l1, ps[n].vals⟩) fun b3 H3 hb3 hE3 _ hr3 => ?_
    have hE13 := hE2.trans hE3 fun _ _ h => h
    have hE03 := hE1.trans hE13 fun _ _ h => h
    refine Stab_2 (k2 hE03) (k1 hE03) ?_
    have hcr3 := hcr.ext hE13
    have hol := hcr3.vn.len
    rw [flat_len ptV_len] at hol
    refine App_vecN (ws := ptV ⟨ps[n].kind, l1, ps[n].vals⟩) rfl (by decide) hcr3.vn hr3.rd_all rfl (ptV_one _) (by decide) (by dsimp only; omega) fun l2 H4 hv4 hl4 hU4 ha4 => ?_
    have hE04 : Ext H H4 := hE03.trans hU4 fun b hb e => by have := hcr.newO b e.1; omega
    refine Stab_2 (k2 hE04) (k1 hE04) ?_
    refine Lt.mk (u := ((n + 1 : Nat) : Int)) (by rw [wrap_i64_id] <;> omega) (hnext _ _ ⟨n + 1, es ++ [⟨ps[n].kind, l1, ps[n].vals⟩], rfl, hn2, hE04, ⟨?_, fun q hq => ?_, ?_, fun b hb => ?_, fun q hq b hb => ?_⟩, ?_⟩ (by dsimp only; omega))
    · rw [List.flatMap_append]; simpa using hv4
    · rcases List.mem_append.1 hq with hq | hq
      · exact (hcr3.vR q hq).upd hU4 fun b hb e => hcr3.vn.apV (hcr3.vR q hq) (by decide) e.1 hb
      · rw [List.mem_singleton.1 hq]
        have : Vec H2 T_int64 l1 (ints ps[n].vals) := by simpa using hv2
        exact (this.ext hE3).upd hU4 fun b hb e => hcr3.vn.apV (this.ext hE3) (by decide) e.1 hb
    · rw [List.pairwise_append]
      refine ⟨hcr.ap, List.pairwise_singleton _ _, fun p hp q hq b hb hb' => ?_⟩
      rw [List.mem_singleton.1 hq] at hb'
      have := hn1 b hb'
      have := (hcr.vR p hp).lt hb
      omega
    · rcases ha4 with e | e
      · rw [e.1] at hb; exact hcr.newO b hb
      · rw [e] at hb; cases hb; exact hE03.size
    · rcases List.mem_append.1 hq with hq | hq
      · exact hcr.newE q hq b hb
      · rw [List.mem_singleton.1 hq] at hb
        exact Nat.le_trans hE1.size (hn1 b hb)
    · rw [List.map_append, hes, List.take_add_one, List.getElem?_eq_getElem hn2, List.map_append]; rfl
  · rw [List.take_of_length_le (by omega)] at hes
    exact hk H1 out es hE1 hcr hes
open Classical in
theorem doc_init {B : Heap} {p : Sl × Sl} {s : Sy} {n : Int} {e : EnV} {dp b b7 : Nat} {es : List PtP} {t : DP} {out : Sl} {g : DunG} (hB : Ext B H) (he : CopR B.size H out es) (hr : Row H b T_hindcastref16_run (drunV g)) (hb : B.size ≤ b)
    (hg : g = ⟨p.1, p.2, s, n, e.fr, e.sd, e.en, e.inS, e.ix, e.gn, e.rp, out, ⟨some (adr b7), 1, 1⟩, ⟨none, 0, 0⟩, ⟨none, 0, 0⟩, ⟨none, 0, 0⟩, 0, dp, 0, false⟩)
    (hdp : Row H dp T_hindcastref08_Dice [.int .u64 (newS e.sd e.fr n e.ix)]) (hdl : B.size ≤ dp) (ht : DActR H t) (htb : ∀ x, DActB t x → B.size ≤ x ∧ ∀ q ∈ es, q.sl.a ≠ some (adr x)) (h7 : Row H b7 T_P_hindcastref16_activation [.pointer (some (adr t.p))]) (h7l : B.size ≤ b7) (hc : CodeR B t.r) (hf : t.f < 0) :
    ∃ c, DocR B H ⟨c, b, g, [], t, es, newS e.sd e.fr n e.ix, [], [], []⟩ := by
  have vne : ∀ {sl : Sl} {vs : List Value} {x : Nat} {T : TypeId} {ws : List Value}, Vec H T_int64 sl vs → sl.a = some (adr x) → Row H x T ws → T_int64 ≠ T → False := fun hv ha hr hT => hv.ne ha hr hT rfl
  refine ⟨fun x => if x = b then 200 else if x = b7 then 201 else if x = dp then 205 else if out.a = some (adr x) then 206 else if ∃ q ∈ es, q.sl.a = some (adr x) then 100 else 0, ?_⟩
  have b7b : b7 ≠ b := h7.ne hr (by decide)
  have dpb : dp ≠ b := hdp.ne hr (by decide)
  have dp7 : dp ≠ b7 := hdp.ne h7 (by decide)
  have one : ∀ x, out.a = some (adr x) → x ≠ b ∧ x ≠ b7 ∧ x ≠ dp := fun x hx => ⟨he.vn.ne hx hr (by decide), he.vn.ne hx h7 (by decide), he.vn.ne hx hdp (by decide)⟩
  have esne : ∀ q ∈ es, ∀ x, q.sl.a = some (adr x) → x ≠ b ∧ x ≠ b7 ∧ x ≠ dp ∧ out.a ≠ some (adr x) := fun q hq x hx =>
    ⟨fun e => vne (he.vR q hq) hx (e ▸ hr) (by decide), fun e => vne (he.vR q hq) hx (e ▸ h7) (by decide), fun e => vne (he.vR q hq) hx (e ▸ hdp) (by decide), fun e => he.vn.apV (he.vR q hq) (by decide) e hx⟩
  have tne : ∀ x, DActB t x → x ≠ b ∧ x ≠ b7 ∧ x ≠ dp ∧ out.a ≠ some (adr x) := fun x hx => by
    rcases hx with rfl | hx | hx
    · exact ⟨ht.row.ne hr (by decide), ht.row.ne h7 (by decide), ht.row.ne hdp (by decide), fun e => he.vn.ne e ht.row (by decide) rfl⟩
    · exact ⟨fun e => vne ht.loc hx (e ▸ hr) (by decide), fun e => vne ht.loc hx (e ▸ h7) (by decide), fun e => vne ht.loc hx (e ▸ hdp) (by decide), fun e => he.vn.apV ht.loc (by decide) e hx⟩
    · exact ⟨fun e => vne ht.stk hx (e ▸ hr) (by decide), fun e => vne ht.stk hx (e ▸ h7) (by decide), fun e => vne ht.stk hx (e ▸ hdp) (by decide), fun e => he.vn.apV ht.stk (by decide) e hx⟩
  subst hg
  exact {
    base := hB
    run := ⟨hr, hb, if_pos rfl⟩
    lv := ⟨⟨rfl, .inr ⟨b7, [], rfl, by simpa [dptrs] using h7, by simp⟩, Nat.le_refl _⟩, fun x hx => by cases hx; exact ⟨h7l, by dsimp only; rw [if_neg b7b, if_pos rfl]⟩⟩
    lowR := fun i hi => by cases hi
    topR := ht
    topI := fun x hx => ⟨(htb x hx).1, by
      obtain ⟨h1, h2, h3, h4⟩ := tne x hx
      dsimp only
      rw [if_neg h1, if_neg h2, if_neg h3, if_neg h4, if_neg]
      · rfl
      · rintro ⟨q, hq, e⟩; exact (htb x hx).2 q hq e⟩
    codes := fun a ha => by rw [List.mem_singleton.1 ha]; exact hc
    lowl := Nat.zero_le _
    fsg := by
      have : decide (0 ≤ t.f) = false := decide_eq_false (by omega)
      simp [this]
    dice := ⟨hdp, hdl, by dsimp only; rw [if_neg dpb, if_neg dp7, if_pos rfl]⟩
    pv := ⟨he.vn, fun x hx => ⟨he.newO x hx, by
      obtain ⟨h1, h2, h3⟩ := one x hx
      dsimp only at hx ⊢
      rw [if_neg h1, if_neg h2, if_neg h3, if_pos hx]⟩⟩
    esR := fun q hq => ⟨he.vR q hq, fun x hx => ⟨he.newE q hq x hx, by
      obtain ⟨h1, h2, h3, h4⟩ := esne q hq x hx
      dsimp only
      rw [if_neg h1, if_neg h2, if_neg h3, if_neg h4, if_pos ⟨q, hq, hx⟩]⟩⟩
    esA := he.ap
    kv := VecNC.nil _ _ _ _ _ _
    kR := fun q hq => by cases hq
    cv := VecNC.nil _ _ _ _ _ _
    cR := fun q hq => by cases hq
    outA := List.Pairwise.nil
    parA := List.Pairwise.nil
    ev := VecNC.nil _ _ _ _ _ _ }
end
section
open Hc Hc.Vf Hc.Mc Hc.Dice
variable {H : Heap}
abbrev dmpS (s : Sy) (n : Int) (fs : List Rou) : MP := ⟨fs.map fnOf, fnOf s.rou, s.l 2, s.l 3, n, 2 ^ 63⟩
theorem s_begun {p : Sl × Sl} {ss : List Sy} {n : Int} {e : EnV} {ps0 : List PtP} {fs : List Rou} {ins : List (Int × Int × Int)} (hss : RN sysV 8 H p.1 ss) (hn : 0 ≤ n ∧ n < (ss.length : Int)) (hsc : CodeR H (ss[n.toNat]!).rou)
    (hps : RN ptV 2 H e.rp ps0) (hpr : ∀ q ∈ ps0, RL (Value.int .i64) H q.sl q.vals ∧ q.vals.length ≤ 2 ^ 44) (hpl : ps0.length ≤ 2 ^ 42) {k : Option Addr → Heap → Prop}
    (hk : ∀ H' x, DocR H H' x → x.es.length = ps0.length → dstat x.g = (p.1, p.2, ss[n.toNat]!, n, e.fr, e.sd, e.en, e.inS, e.ix, e.gn, e.rp, x.g.ps, x.g.dp) → x.g.ov = false →
      x.ms = initM (dmpS (ss[n.toNat]!) n fs) (enS e ins) (ps0.map PtP.pt) → k (some (adr x.b)) H') :
    CallT Pg f_R_begun [.agg #[.slice p.1.a p.1.len p.1.cap, .slice p.2.a p.2.len p.2.cap], .int .i64 n, envA e] (.one (.c .ptr)) H k := by
  refine c_R_begun p n (e.fr, e.sd, e.en, e.inS, e.ix, e.gn, e.rp) ?_
  unfold v_R_begun
  have hsl := hss.len
  have hlt : n.toNat < ss.length := by omega
  generalize hs : ss[n.toNat]! = s at *
  refine Nw_row (vs := [slV p.1, slV p.2]) fun b1 H1 hb1 hE1 hz1 hr1 => ?_
  refine Nw_row (vs := envL e) fun b2 H2 hb2 hE2 hz2 hr2 => ?_
  have hE02 : Ext H H2 := hE1.trans hE2 fun _ _ h => h
  simp only [adr_add, mk_add]
  refine Ld_sl (s := p.1) (((hE2.row hr1 fun h => h).cell 0).trans rfl) (IxA_rn' sysV_len hss (by decide) (j := n.toNat) (by omega) hlt fun a1 ha1 => ?_)
  rw [hs] at ha1
  refine ⟨(s.s 0, s.s 1, s.s 2, s.s 3, s.rou.name, s.rou.params, s.rou.locals, s.rou.sl), hcells_ext hE02 ha1, ?_⟩
  refine Nw_row (vs := [.slice none 0 0, .slice none 0 0, .slice none 0 0, .slice none 0 0, .string ByteArray.empty, .int .i64 0, .int .i64 0, .slice none 0 0]) fun b3 H3 hb3 hE3 hz3 hr3 => ?_
  refine St_row hr3 (by simp) fun H4 hU4 _ hr4 => St_row hr4 (by simp) fun H5 hU5 _ hr5 => St_row hr5 (by simp) fun H6 hU6 _ hr6 => St_row hr6 (by simp) fun H7 hU7 _ hr7 => ?_
  refine St_row hr7 (by simp) fun H8 hU8 _ hr8 => St_row hr8 (by simp) fun H9 hU9 _ hr9 => St_row hr9 (by simp) fun H10 hU10 _ hr10 => St_row hr10 (by simp) fun H11 hU11 _ hr11 => ?_
  have hr11 : Row H11 b3 T_api_System (sysV s) := hr11
  have hE211 : Ext H2 H11 := hE3.trans ((((((((hU4.trans hU5 fun _ _ e => e).trans hU6 fun _ _ e => e).trans hU7 fun _ _ e => e).trans hU8 fun _ _ e => e).trans hU9 fun _ _ e => e).trans hU10 fun _ _ e => e).trans hU11 fun _ _ e => e)) fun b hb e => by omega
  have hE11 : Ext H H11 := hE02.trans hE211 fun _ _ h => h
  have hr1' := (hE2.trans hE211 fun _ _ h => h).row hr1 fun h => h
  have hr2' := hE211.row hr2 fun h => h
  refine ⟨p, hr1'.rd_all, ⟨(s.s 0, s.s 1, s.s 2, s.s 3, s.rou.name, s.rou.params, s.rou.locals, s.rou.sl), hr11.rd_all, ⟨(e.fr, e.sd, e.en, e.inS, e.ix, e.gn, e.rp), hr2'.rd_all, ?_⟩⟩⟩
  refine Ld_sl (s := e.rp) ((hr2'.cell 6).trans rfl) (s_rcopied (hps.ext hE11) (fun q hq => ⟨(hpr q hq).1.ext hE11, (hpr q hq).2⟩) hpl fun H12 out es hE12 hcr hes => ?_)
  have hcr : CopR H.size H12 out es := ⟨hcr.vn, hcr.vR, hcr.ap, fun b hb => Nat.le_trans hE11.size (hcr.newO b hb), fun q hq b hb => Nat.le_trans hE11.size (hcr.newE q hq b hb)⟩
  have r1 := hE12.row hr1' fun h => h
  have r2 := hE12.row hr2' fun h => h
  have r3 := hE12.row hr11 fun h => h
  have hE012 := hE11.trans hE12 fun _ _ h => h
  refine Stab_all (fun y hy => ?_) ?_
  · simp only [List.mem_cons, List.not_mem_nil, or_false] at hy
    rcases hy with rfl | rfl | rfl | rfl | rfl | rfl | rfl | rfl | rfl | rfl | rfl | rfl | rfl | rfl | rfl | rfl | rfl
    · exact (r2.cell 0).trans rfl
    · exact (r2.cell 1).trans rfl
    · exact (r2.cell 2).trans rfl
    · exact (r2.cell 3).trans rfl
    · exact (r2.cell 4).trans rfl
    · exact (r2.cell 5).trans rfl
    · exact (r2.cell 6).trans rfl
    · exact (r3.cell 0).trans rfl
    · exact (r3.cell 1).trans rfl
    · exact (r3.cell 2).trans rfl
    · exact (r3.cell 3).trans rfl
    · exact (r3.cell 4).trans rfl
    · exact (r3.cell 5).trans rfl
    · exact (r3.cell 6).trans rfl
    · exact (r3.cell 7).trans rfl
    · exact (r1.cell 0).trans rfl
    · exact (r1.cell 1).trans rfl
  refine Nw_row (vs := [slV p.1, slV p.2, slV (s.s 0), slV (s.s 1), slV (s.s 2), slV (s.s 3), .string s.rou.name, .int .i64 s.rou.params, .int .i64 s.rou.locals, slV s.rou.sl, .int .i64 n, .int .i64 e.fr, .int .i64 e.sd, .int .i64 e.en, slV e.inS, .int .i64 e.ix, .int .i64 e.gn, slV e.rp, slV out, .slice none 0 0, .pointer none, .int .i64 0, .slice none 0 0, .slice none 0 0, .slice none 0 0, .slice none 0 0, .int .i64 0, .int .i64 0, .bool false]) fun b4 H13 hb4 hE13 hz13 hr13 => ?_
  have r1 := hE13.row r1 fun h => h
  have r2 := hE13.row r2 fun h => h
  have r3l := r3.lt
  have r3 := hE13.row r3 fun h => h
  refine Stab_all (fun y hy => ?_) ?_
  · simp only [List.mem_cons, List.not_mem_nil, or_false] at hy
    rcases hy with rfl | rfl | rfl | rfl | rfl | rfl | rfl | rfl | rfl | rfl | rfl | rfl | rfl | rfl | rfl | rfl | rfl | rfl
    · exact (r2.cell 6).trans rfl
    · exact (r2.cell 0).trans rfl
    · exact (r2.cell 1).trans rfl
    · exact (r2.cell 2).trans rfl
    · exact (r2.cell 3).trans rfl
    · exact (r2.cell 4).trans rfl
    · exact (r2.cell 5).trans rfl
    · exact (r2.cell 6).trans rfl
    · exact (r3.cell 0).trans rfl
    · exact (r3.cell 1).trans rfl
    · exact (r3.cell 2).trans rfl
    · exact (r3.cell 3).trans rfl
    · exact (r3.cell 4).trans rfl
    · exact (r3.cell 5).trans rfl
    · exact (r3.cell 6).trans rfl
    · exact (r3.cell 7).trans rfl
    · exact (r1.cell 0).trans rfl
    · exact (r1.cell 1).trans rfl
  refine Ld_int (n := e.sd) ((r2.cell 1).trans rfl) ?_
  refine Ld_int (n := e.fr) ((r2.cell 0).trans rfl) ?_
  refine Ld_int (n := e.ix) ((r2.cell 4).trans rfl) ?_
  refine s_ref_New _ _ _ _ fun H14 hE14 hd14 => ?_
  have hd14 : Row H14 H13.size T_hindcastref08_Dice [.int .u64 (newS e.sd e.fr n e.ix)] := hd14
  have hr14 := hE14.row hr13 fun h => h
  have hz14 := hd14.lt
  simp only [NilCk_some, adr_add]
  refine St_row hr14 (by simp) fun H15 hU15 hz15 hr15 => ?_
  have nb : b4 ≠ H13.size := by omega
  have r3 := hU15.row (hE14.row r3 fun h => h) fun e => by omega
  refine Ld_sl (s := s.rou.sl) ((r3.cell 7).trans rfl) ⟨(s.rou.name, s.rou.params, s.rou.locals, s.rou.sl), ⟨(r3.cell 4).trans rfl, (r3.cell 5).trans rfl, (r3.cell 6).trans rfl, (r3.cell 7).trans rfl, trivial⟩, ?_⟩
  refine s_locals (ps := ⟨none, 0, 0⟩) (l := []) rfl rfl (by simp) fun H16 r5 hE16 hv16 hn16 => ?_
  have r16 := hE16.row r3 fun h => h
  refine Stab_1 ((r16.cell 7).trans rfl) ?_
  refine Nw_row (vs := [.int .i64 (-1), slV s.rou.sl, slV r5, .slice none 0 0, .int .i64 0]) fun b5 H17 hb5 hE17 hz17 hr17 => ?_
  have st : ∀ {H'}, Ext H16 H' → ∀ y ∈ [((⟨b3, 4, none⟩ : Addr), Value.string s.rou.name), (⟨b3, 5, none⟩, .int .i64 s.rou.params), (⟨b3, 6, none⟩, .int .i64 s.rou.locals), (⟨b3, 7, none⟩, .slice s.rou.sl.a s.rou.sl.len s.rou.sl.cap), (⟨b3, 7, none⟩, .slice s.rou.sl.a s.rou.sl.len s.rou.sl.cap)], hcell H' y.1 = some y.2 := fun hE y hy => by
    have hr := hE.row r16 fun h => h
    simp only [List.mem_cons, List.not_mem_nil, or_false] at hy
    rcases hy with rfl | rfl | rfl | rfl | rfl
    · exact (hr.cell 4).trans rfl
    · exact (hr.cell 5).trans rfl
    · exact (hr.cell 6).trans rfl
    · exact (hr.cell 7).trans rfl
    · exact (hr.cell 7).trans rfl
  refine Stab_all (st hE17) ?_
  refine Nw_row (vs := [.pointer (some (adr b5))]) fun b6 H18 hb6 hE18 hz18 hr18 => ?_
  have hE1618 := hE17.trans hE18 fun _ _ h => h
  refine Stab_all (st hE1618) ?_
  have hE1518 := hE16.trans hE1618 fun _ _ h => h
  have hr18' := hE1518.row hr15 fun h => h
  refine St_row hr18' (by simp) fun H19 hU19 hz19 hr19 => ?_
  have hs12 := hE012.size
  have hs13 := hE13.size
  have hs14 := hE14.size
  have hs16 := hE16.size
  have hE13' : Ext H H13 := hE012.trans hE13 fun _ _ h => h
  have hE014 : Ext H H14 := hE13'.trans hE14 fun _ _ h => h
  have hE015 : Ext H H15 := extUpd hE014 (by omega) hU15
  have hE018 : Ext H H18 := hE015.trans hE1518 fun _ _ h => h
  have hE019 : Ext H H19 := extUpd hE018 (by omega) hU19
  -- all of it in H19
  have hU1419 : Upd (· = b4) H14 H19 := (hU15.trans hE1518 fun _ _ h => h.elim).trans hU19 fun _ _ e => e
  have hcr19 : CopR H.size H19 out es := (hcr.ext (hE13.trans hE14 fun _ _ h => h)).upd hr14 (by decide) (by decide) hU1419
  have hd19 := hU1419.row hd14 fun e => nb e.symm
  have ht19 : DActR H19 ⟨b5, -1, s.rou, r5, ⟨none, 0, 0⟩, locals (fnOf s.rou) [], [], 0⟩ := by
    refine ⟨hU19.row (hE18.row hr17 fun h => h) fun e => ?_, (hv16.ext hE1618).upd hU19 fun b hb e => ?_, Vec.nil _ _, apart_nil _ rfl⟩
    · have : b5 = b4 := e
      omega
    · have := hn16 b hb; omega
  have hx0 : ∀ x, DActB ⟨b5, -1, s.rou, r5, ⟨none, 0, 0⟩, locals (fnOf s.rou) [], [], 0⟩ x → H.size ≤ x ∧ ∀ q ∈ es, q.sl.a ≠ some (adr x) := fun x hx => by
    have hle : H16.size ≤ x ∨ H15.size ≤ x := by
      rcases hx with rfl | hx | hx
      · exact .inl (by omega)
      · exact .inr (hn16 x hx)
      · cases hx
    refine ⟨by omega, fun q hq e => ?_⟩
    have := (hcr.vR q hq).lt e
    omega
  obtain ⟨c, hdoc⟩ := doc_init (p := p) (s := s) (n := n) (e := e) (b := b4) (b7 := b6) (dp := H13.size) (g := ⟨p.1, p.2, s, n, e.fr, e.sd, e.en, e.inS, e.ix, e.gn, e.rp, out, ⟨some (adr b6), 1, 1⟩, ⟨none, 0, 0⟩, ⟨none, 0, 0⟩, ⟨none, 0, 0⟩, 0, H13.size, 0, false⟩) hE019 hcr19 hr19 (by omega) rfl hd19 (by omega) ht19 hx0 (hU19.row hr18 fun e => by omega) (by omega) hsc (show (-1 : Int) < 0 by decide)
  refine hk H19 _ hdoc ?_ rfl rfl ?_
  · have := congrArg List.length hes
    simpa using this
  · show Ms.mk _ _ _ _ _ _ _ _ _ _ = Ms.mk _ _ _ _ _ _ _ _ _ _
    rw [hes]; rfl
end
section
open Hc Hc.Vf Hc.Mc Hc.Dice
variable {H : Heap}
theorem next_key {κ : List Int} (hs : κ.Pairwise (· < ·)) {n : Nat} {v : Int} (hv : v ∈ κ) (hq : n = 0 ∨ κ[n - 1]! < v) (hm : ∀ u ∈ κ, (n = 0 ∨ κ[n - 1]! < u) → v ≤ u) (hn : n ≤ κ.length) : ∃ h : n < κ.length, κ[n] = v := by
  obtain ⟨m, hm', rfl⟩ := List.getElem_of_mem hv
  have mono : ∀ i j (hi : i < κ.length) (hj : j < κ.length), i < j → κ[i] < κ[j] := fun i j hi hj h => List.pairwise_iff_getElem.1 hs i j hi hj h
  have hnm : n ≤ m := by
    rcases hq with h | h
    · omega
    · rcases Nat.lt_or_ge m n with g | g
      · rw [getElem!_pos κ (n - 1) (by omega)] at h
        rcases Nat.lt_or_ge m (n - 1) with g2 | g2
        · have := mono m (n - 1) hm' (by omega) g2; omega
        · have : m = n - 1 := by omega
          subst this; omega
      · exact g
  have hn2 : n < κ.length := by omega
  refine ⟨hn2, ?_⟩
  have := hm κ[n] (List.getElem_mem hn2) (by
    rcases Nat.eq_zero_or_pos n with h | h
    · exact .inl h
    · refine .inr ?_
      rw [getElem!_pos κ (n - 1) (by omega)]
      exact mono (n - 1) n (by omega) hn2 (by omega))
  rcases Nat.lt_or_ge n m with g | g
  · have := mono n m hn2 hm' g; omega
  · have : n = m := by omega
    subst this; rfl
theorem no_key {κ : List Int} (hs : κ.Pairwise (· < ·)) {n : Nat} (hn : n ≤ κ.length) (hno : ∀ u ∈ κ, ¬ (n = 0 ∨ κ[n - 1]! < u)) : n = κ.length := by
  rcases Nat.lt_or_ge n κ.length with h | h
  · refine absurd ?_ (hno κ[n] (List.getElem_mem h))
    rcases Nat.eq_zero_or_pos n with g | g
    · exact .inl g
    · refine .inr ?_
      rw [getElem!_pos κ (n - 1) (by omega)]
      exact List.pairwise_iff_getElem.1 hs (n - 1) n (by omega) h (by omega)
  · omega
theorem parts_kind {es : List PtP} : ∀ {ks : List Int}, (partsOf es ks).map PtP.kind = ks.filter fun k => (es.find? fun q => q.kind == k).isSome
  | [] => rfl
  | k :: ks => by
    unfold partsOf
    rw [List.filterMap_cons, List.filter_cons]
    cases hf : es.find? fun q => q.kind == k with
    | none => simp only [Option.isSome_none, Bool.false_eq_true, if_false]; exact parts_kind
    | some q =>
      have : q.kind = k := by have := List.find?_some hf; simpa using this
      simp only [Option.isSome_some, if_true, List.map_cons, this]
      exact congrArg (k :: ·) parts_kind
theorem parts_find {es : List PtP} {ks : List Int} {q : PtP} (h : q ∈ partsOf es ks) : es.find? (fun p => p.kind == q.kind) = some q := by
  obtain ⟨k, _, hk⟩ := List.mem_filterMap.1 h
  have : q.kind = k := by have := List.find?_some hk; simpa using this
  rw [this]; exact hk
theorem s_rvalues {H0 : Heap} {x : DG} {fs : List Rou} {ins : List (Int × Int × Int)} (h : DocR H0 H x) (hc : CtxR H0 x.g.pF x.g.s x.g.inS fs ins) (hes2 : x.es.length ≤ 2 ^ 42) (hwl : (x.g.s.l 3).length ≤ 2 ^ 44) {k : Sl → Heap → Prop}
    (hk : ∀ r H', Ext H H' → VecN H' T_api_Part 2 r ((partsOf x.es (Lib.compact ((x.g.s.l 3).mergeSort fun a b => decide (a ≤ b)))).flatMap ptV) → (∀ b, r.a = some (adr b) → H.size ≤ b) → k r H') :
    CallT Pg f_R_run_values [.pointer (some (adr x.b))] (.one (.c .sl)) H k := by
  have hes : x.es.length ≤ 2 ^ 60 := by omega
  refine c_R_run_values _ ?_
  unfold v_R_run_values
  simp only [NilCk_some, adr_add, mk_add]
  obtain ⟨hu1, hu2⟩ := sortU_ok (x.g.s.l 3)
  generalize hks : Lib.compact ((x.g.s.l 3).mergeSort fun a b => decide (a ≤ b)) = ks at *
  generalize hW : x.g.s.l 3 = W at *
  have hpk : (partsOf x.es ks).map PtP.kind = ks.filter fun k => (x.es.find? fun q => q.kind == k).isSome := parts_kind
  generalize hP : partsOf x.es ks = P at *
  have hκ : (P.map PtP.kind).Pairwise (· < ·) := by rw [hpk]; exact hu1.sublist List.filter_sublist
  have hκW : ∀ u, u ∈ P.map PtP.kind → u ∈ W := fun u hu => by
    rw [hpk] at hu
    exact (hu2 u).1 (List.mem_filter.1 hu).1
  have hPl : P.length ≤ 2 ^ 42 := by
    have h0 := partsOf_le (es := x.es) (ks := ks) (List.Pairwise.imp (fun {a b} (h : a < b) => (show a ≠ b by omega)) hu1)
    rw [hP] at h0
    have h1 : (P.map PtP.kind).length ≤ W.length := (show (P.map PtP.kind).Nodup from List.Pairwise.imp (fun {a b} (h : a < b) => (show a ≠ b by omega)) hκ).length_le_of_subset fun u hu => hκW u hu
    rw [List.length_map] at h1
    omega
  have hsets : RL (Value.int .i64) H0 (x.g.s.s 3) W := hW ▸ hc.sets 3 (by decide)
  have hWl : (x.g.s.s 3).len = W.length := hsets.len
  -- a turn finds the next
  refine LoopT.ghost (fun m s H' => ∃ n : Nat, m = P.length - n ∧ n ≤ P.length ∧ Ext H H' ∧ VecN H' T_api_Part 2 s.1 ((P.take n).flatMap ptV) ∧ (∀ b, s.1.a = some (adr b) → H.size ≤ b) ∧ ((n = 0 ∧ s.2 = -1) ∨ (0 < n ∧ 0 ≤ s.2 ∧ s.2 < (W.length : Int) ∧ W[s.2.toNat]! = (P.map PtP.kind)[n - 1]!))) P.length
    ⟨0, rfl, Nat.zero_le _, .refl _ _, VecN.nil _ _ _, (fun b hb => by cases hb), .inl ⟨rfl, rfl⟩⟩ ?_
  rintro next m ⟨out, last⟩ H1 ⟨n, rfl, hn, hE1, hv1, hf1, hlast⟩ hnext
  dsimp only at hv1 hf1 hlast ⊢
  have h1 := h.ext hE1
  have cw : ∀ {H'}, Ext H1 H' → hcell H' ⟨x.b, 5, none⟩ = some (.slice (x.g.s.s 3).a (x.g.s.s 3).len (x.g.s.s 3).cap) := fun hE => (((h1.ext hE).run.1).cell 5).trans rfl
  have hsets1 : RL (Value.int .i64) H (x.g.s.s 3) W := hsets.ext h.base
  have up : ∀ {a : Addr} {v : Value}, hcell H a = some v → hcell H1 a = some v := fun g => hE1.cell g fun h => h
  have rdW : ∀ {i : Int} {j : Nat} {k : Addr → Prop}, i = j → j < W.length → (∀ a, hcell H a = some (.int .i64 W[j]!) → k a) → IxA 1 (x.g.s.s 3) i k := fun hi hj hk => IxA_rl hsets1 hi hj fun a ha => hk a (by rw [getElem!_pos W _ hj]; exact ha)
  refine LoopT.mk (fun s H' => H1 = H' ∧ ∃ i : Nat, s.2 = i ∧ i ≤ W.length ∧ ((s.1 = -1 ∧ ∀ j, j < i → ¬ (W[j]! ∈ P.map PtP.kind ∧ (n = 0 ∨ (P.map PtP.kind)[n - 1]! < W[j]!))) ∨
      (0 ≤ s.1 ∧ s.1 < (W.length : Int) ∧ W[s.1.toNat]! ∈ P.map PtP.kind ∧ (n = 0 ∨ (P.map PtP.kind)[n - 1]! < W[s.1.toNat]!) ∧ ∀ j, j < i → W[j]! ∈ P.map PtP.kind → (n = 0 ∨ (P.map PtP.kind)[n - 1]! < W[j]!) → W[s.1.toNat]! ≤ W[j]!))) (fun s _ => W.length - s.2.toNat)
    ⟨rfl, 0, rfl, Nat.zero_le _, .inl ⟨rfl, fun j hj => by omega⟩⟩ ?_
  rintro next2 ⟨best, i0⟩ _ ⟨rfl, i, hi, hil, hinv⟩ hnext2
  dsimp only at hi hinv ⊢
  subst hi
  refine Ld_sl (s := x.g.s.s 3) (cw (.refl _ _)) (Br_dec (fun hlt => ?_) fun hge => ?_)
  · have hi2 : i < W.length := by omega
    -- is it one?
    refine Jn.mk (fun b H' => H1 = H' ∧ ((b = -1 ∧ ∀ j, j < i + 1 → ¬ (W[j]! ∈ P.map PtP.kind ∧ (n = 0 ∨ (P.map PtP.kind)[n - 1]! < W[j]!))) ∨
      (0 ≤ b ∧ b < (W.length : Int) ∧ W[b.toNat]! ∈ P.map PtP.kind ∧ (n = 0 ∨ (P.map PtP.kind)[n - 1]! < W[b.toNat]!) ∧ ∀ j, j < i + 1 → W[j]! ∈ P.map PtP.kind → (n = 0 ∨ (P.map PtP.kind)[n - 1]! < W[j]!) → W[b.toNat]! ≤ W[j]!))) (fun kk hkk => ?_) ?_
    rotate_left
    · rintro b _ ⟨rfl, hb⟩
      exact Lt.mk (u := ((i + 1 : Nat) : Int)) (by rw [wrap_i64_id] <;> omega) (hnext2 _ _ ⟨rfl, i + 1, rfl, hi2, hb⟩ (by dsimp only; omega))
    refine Ld_sl (s := x.g.s.s 3) (cw (.refl _ _)) (rdW rfl hi2 fun a ha => Ld_int (n := W[i]!) (up ha) ?_)
    have hmem : (W[i]! ∈ P.map PtP.kind) ↔ ∃ q ∈ x.es, q.kind = W[i]! := by
      rw [hpk, List.mem_filter, List.find?_isSome, hu2]
      constructor
      · rintro ⟨_, q, hq, e⟩; exact ⟨q, hq, by simpa using e⟩
      · rintro ⟨q, hq, e⟩; exact ⟨by rw [getElem!_pos W i hi2]; exact List.getElem_mem hi2, q, hq, by simpa using e⟩
    -- it is none
    have hkeep : ¬ (W[i]! ∈ P.map PtP.kind ∧ (n = 0 ∨ (P.map PtP.kind)[n - 1]! < W[i]!)) → kk best H1 := fun hno => hkk _ _ ⟨rfl, by
      rcases hinv with ⟨e, h2⟩ | ⟨e1, e2, e3, e4, e5⟩
      · refine .inl ⟨e, fun j hj => ?_⟩
        rcases Nat.lt_or_ge j i with g | g
        · exact h2 j g
        · have : j = i := by omega
          subst this; exact hno
      · refine .inr ⟨e1, e2, e3, e4, fun j hj a b => ?_⟩
        rcases Nat.lt_or_ge j i with g | g
        · exact e5 j g a b
        · have : j = i := by omega
          subst this; exact absurd ⟨a, b⟩ hno⟩
    -- it is the best so far
    have hnew : (W[i]! ∈ P.map PtP.kind) → (n = 0 ∨ (P.map PtP.kind)[n - 1]! < W[i]!) → (best < 0 ∨ W[i]! < W[best.toNat]!) → kk (i : Nat) H1 := fun a b hlt => hkk _ _ ⟨rfl, .inr ⟨by omega, by omega, by simpa using a, by simpa using b, fun j hj a' b' => by
      rw [Int.toNat_natCast]
      rcases Nat.lt_or_ge j i with g | g
      · rcases hinv with ⟨e, h2⟩ | ⟨e1, e2, e3, e4, e5⟩
        · exact absurd ⟨a', b'⟩ (h2 j g)
        · have := e5 j g a' b'
          rcases hlt with h | h
          · omega
          · omega
      · have : j = i := by omega
        subst this; exact Int.le_refl _⟩⟩
    -- it is no better
    have hworse : (0 ≤ best ∧ ¬ W[i]! < W[best.toNat]!) → kk best H1 := fun hw => hkk _ _ ⟨rfl, by
      rcases hinv with ⟨e, h2⟩ | ⟨e1, e2, e3, e4, e5⟩
      · omega
      · refine .inr ⟨e1, e2, e3, e4, fun j hj a b => ?_⟩
        rcases Nat.lt_or_ge j i with g | g
        · exact e5 j g a b
        · have : j = i := by omega
          subst this; omega⟩
    have hb0 : 0 ≤ best → best < (W.length : Int) := fun h0 => by
      rcases hinv with ⟨e, _⟩ | ⟨_, e2, _⟩
      · omega
      · exact e2
    refine s_has h1 hes (fun j hj hkd _ _ => ?_) fun _ hno => ?_
    · have hin : W[i]! ∈ P.map PtP.kind := hmem.2 ⟨_, List.getElem_mem hj, hkd⟩
      -- looks at the best
      have hbest : (n = 0 ∨ (P.map PtP.kind)[n - 1]! < W[i]!) → ∀ (K : Bool → Heap → Prop), (K true H1 → kk (i : Nat) H1 → True) → (∀ b, (b = true → best < 0 ∨ W[i]! < W[best.toNat]!) → (b = false → 0 ≤ best ∧ ¬ W[i]! < W[best.toNat]!) → K b H1) →
          Br (decide (best < 0)) (K true H1) (Ld .sl ⟨x.b, 5, none⟩ H1 fun (x4 : Sl) => IxA 1 x4 best fun a5 => Ld (.int .i64) a5 H1 fun (x5 : Int) => K (decide (W[i]! < x5)) H1) := fun _ K _ hK => by
        refine Br_dec (fun h => hK _ (fun _ => .inl h) fun e => by cases e) fun h => ?_
        refine Ld_sl (s := x.g.s.s 3) (cw (.refl _ _)) (rdW (j := best.toNat) (by omega) (by have := hb0 (by omega); omega) fun a' ha' => Ld_int (n := W[best.toNat]!) (up ha') ?_)
        exact hK _ (fun e => .inr (of_decide_eq_true e)) fun e => ⟨by omega, of_decide_eq_false e⟩
      have hfin : (n = 0 ∨ (P.map PtP.kind)[n - 1]! < W[i]!) → ∀ b, (b = true → best < 0 ∨ W[i]! < W[best.toNat]!) → (b = false → 0 ≤ best ∧ ¬ W[i]! < W[best.toNat]!) → Jn (σ := Int) (fun kk3 => Br b (kk3 (i : Nat) H1) (kk3 best H1)) fun j3 H6 => kk j3 H6 := fun hq b h1 h2 => by
        refine Jn_in (Br.mk (fun e => hnew hin hq (h1 e)) fun e => hworse (h2 e))
      refine Jn_in (Br_dec (fun _ => Br_dec (fun hl => ?_) fun hl => ?_) fun h => by omega)
      · have hn0 : n = 0 := by rcases hlast with ⟨e, _⟩ | ⟨_, e, _⟩ <;> omega
        exact hbest (.inl hn0) (fun b H' => Jn (σ := Int) (fun kk3 => Br b (kk3 (i : Nat) H') (kk3 best H')) fun j3 H6 => kk j3 H6) (fun _ _ => trivial) (hfin (.inl hn0))
      · rcases hlast with ⟨_, e⟩ | ⟨e0, e1, e2, e3⟩
        · omega
        refine Ld_sl (s := x.g.s.s 3) (cw (.refl _ _)) (rdW (j := last.toNat) (by omega) (by omega) fun a' ha' => Ld_int (n := W[last.toNat]!) (up ha') ?_)
        refine Br_dec (fun hgt => ?_) fun hgt => ?_
        · have hq : n = 0 ∨ (P.map PtP.kind)[n - 1]! < W[i]! := .inr (by omega)
          exact hbest hq (fun b H' => Jn (σ := Int) (fun kk3 => Br b (kk3 (i : Nat) H') (kk3 best H')) fun j3 H6 => kk j3 H6) (fun _ _ => trivial) (hfin hq)
        · exact Jn_in (hkeep fun hh => by rcases hh.2 with g | g <;> omega)
    · have hnin : ¬ W[i]! ∈ P.map PtP.kind := fun hin => by
        obtain ⟨q, hq, e⟩ := hmem.1 hin
        exact hno q hq e
      exact Jn_in (Br_dec (fun h => by omega) fun _ => Jn_in (hkeep fun hh => hnin hh.1))
  · have hiW : i = W.length := by omega
    subst hiW
    have inW : ∀ u ∈ P.map PtP.kind, ∃ j, j < W.length ∧ W[j]! = u := fun u hu => by
      obtain ⟨j, hj, e⟩ := List.getElem_of_mem (hκW u hu)
      exact ⟨j, hj, by rw [getElem!_pos W j hj]; exact e⟩
    have hkl : n ≤ (P.map PtP.kind).length := by rw [List.length_map]; exact hn
    refine Br_dec (fun hneg => ?_) fun hpos => ?_
    · rcases hinv with ⟨_, h2⟩ | ⟨e1, _⟩
      · have hnP := no_key hκ hkl fun u hu hq => by
          obtain ⟨j, hj, e⟩ := inW u hu
          exact h2 j hj ⟨by rw [e]; exact hu, by rw [e]; exact hq⟩
        rw [List.length_map] at hnP
        rw [hnP, List.take_length] at hv1
        exact hk out H1 hE1 hv1 hf1
      · omega
    · rcases hinv with ⟨e, _⟩ | ⟨e1, e2, e3, e4, e5⟩
      · omega
      obtain ⟨hn2, hkn⟩ := next_key hκ e3 e4 (fun u hu hq => by
        obtain ⟨j, hj, e⟩ := inW u hu
        have := e5 j hj (by rw [e]; exact hu) (by rw [e]; exact hq)
        rwa [e] at this) hkl
      rw [List.length_map] at hn2
      rw [List.getElem_map] at hkn
      have cp : ∀ {H'}, Ext H1 H' → hcell H' ⟨x.b, 18, none⟩ = some (.slice x.g.ps.a x.g.ps.len x.g.ps.cap) := fun hE => (((h1.ext hE).run.1).cell 18).trans rfl
      refine Ld_sl (s := x.g.ps) (cp (.refl _ _)) (Ld_sl (s := x.g.s.s 3) (cw (.refl _ _)) (rdW (j := best.toNat) (by omega) (by omega) fun a2 ha2 => Ld_int (n := W[best.toNat]!) (up ha2) ?_))
      refine s_has0 h1 hes (fun j hj hkd hfst hlo _ => ?_) fun hlo hno => ?_
      · have hf : x.es.find? (fun q => q.kind == W[best.toNat]!) = some x.es[j] := by
          rw [List.find?_eq_some_iff_getElem]
          refine ⟨by simp [hkd], j, hj, rfl, fun i hij => ?_⟩
          have := hfst i (by omega) hij
          simpa using this
        have hPn : P[n] = x.es[j] := by
          have hmemP : P[n] ∈ partsOf x.es ks := hP ▸ List.getElem_mem hn2
          have := parts_find hmemP
          rw [hkn, hf] at this
          exact (Option.some.inj this).symm
        refine Stab_2 (cw (.refl _ _)) (cp (.refl _ _)) (IxA_rn' ptV_len (VecN.rn ptV_len (by decide) h.pv.1) (by decide) rfl hj fun a3 ha3 => ?_)
        rw [getElem!_pos x.es j hj] at ha3
        refine ⟨(x.es[j].kind, x.es[j].sl), hcells_ext hE1 ha3, ?_⟩
        refine Nw_row (vs := ptV x.es[j]) fun b2 H2 hb2 hE2 _ hr2 => ?_
        refine Stab_all (fun y hy => ?_) ?_
        · simp only [List.mem_cons, List.not_mem_nil, or_false] at hy
          rcases hy with rfl | rfl | rfl
          · exact hE2.cell (up ha2) fun h => h
          · exact cw hE2
          · exact cp hE2
        have hol := hv1.len
        rw [flat_len ptV_len, List.length_take] at hol
        refine App_vecN (ws := ptV x.es[j]) rfl (by decide) (hv1.ext hE2) hr2.rd_all rfl (ptV_one _) (by decide) (by dsimp only; omega) fun l1 H3 hv3 hl3 hU3 ha3' => ?_
        have hE13 : Upd (fun b => out.a = some (adr b)) H1 H3 := (hE2.mono fun _ _ h => h.elim).trans (hU3.mono fun b _ e => e.1) fun _ _ e => e
        have hE03 : Ext H H3 := hE1.trans hE13 fun b hb e => by have := hf1 b e; omega
        have h3 := h.ext hE03
        refine Stab_all (fun y hy => ?_) ?_
        · simp only [List.mem_cons, List.not_mem_nil, or_false] at hy
          rcases hy with rfl | rfl | rfl | rfl | rfl
          · exact (hcells_ext hE03 ha3).1
          · exact (hcells_ext hE03 ha3).2.1
          · exact hE03.cell ha2 fun h => h
          · exact (h3.run.1.cell 5).trans rfl
          · exact (h3.run.1.cell 18).trans rfl
        · refine hnext (P.length - (n + 1)) _ _ (by omega) ⟨n + 1, rfl, hn2, hE03, ?_, fun b hb => ?_, .inr ⟨by omega, e1, e2, ?_⟩⟩
          · have e : P.take (n + 1) = P.take n ++ [x.es[j]] := by rw [List.take_add_one, List.getElem?_eq_getElem hn2, hPn]; rfl
            rw [e, List.flatMap_append]; simpa using hv3
          · rcases ha3' with e | e
            · rw [e.1] at hb; exact hf1 b hb
            · rw [e] at hb; cases hb; exact Nat.le_trans hE1.size hE2.size
          · dsimp only
            rw [Nat.add_sub_cancel, getElem!_pos _ n (by rw [List.length_map]; exact hn2), List.getElem_map, hkn]
      · exfalso
        rw [hpk, List.mem_filter, List.find?_isSome] at e3
        obtain ⟨_, q, hq, e⟩ := e3
        exact hno q hq (by simpa using e)
end
end Go.Proofs.YtfpmgpblhhcpgaaGreat
