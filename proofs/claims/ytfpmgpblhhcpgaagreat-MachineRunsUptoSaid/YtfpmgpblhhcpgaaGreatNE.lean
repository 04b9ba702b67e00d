/-
  Machine: the document's run as it lies in memory.
-/
import Derived.Test.YtfpmgpblhhcpgaaGreatMK
import Derived.Test.YtfpmgpblhhcpgaaGreatVLawA
namespace Go.Proofs.YtfpmgpblhhcpgaaGreat
set_option linter.unusedVariables false
set_option linter.unusedSimpArgs false
set_option maxRecDepth 100000
section
open Hc Hc.Vf Hc.Mc Hc.Dice
variable {H : Heap}
structure DP where
  p : Nat
  f : Int
  r : Rou
  ls : Sl
  ss : Sl
  loc : List Int
  stk : List Int
  nx : Int
instance : Inhabited DP := ⟨⟨0, 0, default, default, default, [], [], 0⟩⟩
abbrev DP.act (x : DP) : Actn := ⟨fnOf x.r, x.loc, x.stk, x.nx⟩
abbrev dactV (x : DP) : List Value := [.int .i64 x.f, slV x.r.sl, slV x.ls, slV x.ss, .int .i64 x.nx]
structure DActR (H : Heap) (x : DP) : Prop where
  row : Row H x.p T_hindcastref16_activation (dactV x)
  loc : Vec H T_int64 x.ls (ints x.loc)
  stk : Vec H T_int64 x.ss (ints x.stk)
  ap : Apart x.ls x.ss
def DActB (x : DP) (b : Nat) : Prop := b = x.p ∨ x.ls.a = some (adr b) ∨ x.ss.a = some (adr b)
theorem DActR.upd {M : Nat → Prop} {H H' : Heap} (h : Upd M H H') {x : DP} (hx : DActR H x) (hm : ∀ b, DActB x b → ¬ M b) : DActR H' x :=
  ⟨h.row hx.row (hm _ (.inl rfl)), hx.loc.upd h fun b hb => hm b (.inr (.inl hb)), hx.stk.upd h fun b hb => hm b (.inr (.inr hb)), hx.ap⟩
theorem DActR.lt {H : Heap} {x : DP} (hx : DActR H x) {b : Nat} (hb : DActB x b) : b < H.size := by
  rcases hb with rfl | hb | hb
  · exact hx.row.lt
  · exact hx.loc.lt hb
  · exact hx.stk.lt hb
theorem DActR.neS {H : Heap} {x : DP} (hx : DActR H x) {b : Nat} (hb : x.ss.a = some (adr b)) : b ≠ x.p := hx.stk.ne hb hx.row (by decide)
theorem DActR.neL {H : Heap} {x : DP} (hx : DActR H x) {b : Nat} (hb : x.ls.a = some (adr b)) : b ≠ x.p := hx.loc.ne hb hx.row (by decide)
structure DunG where
  pS : Sl
  pF : Sl
  s : Sy
  n : Int
  fr : Int
  sd : Int
  en : Int
  inS : Sl
  ix : Int
  gn : Int
  rp : Sl
  ps : Sl
  ls : Sl
  ks : Sl
  cs : Sl
  es : Sl
  st : Int
  dp : Nat
  si : Int
  ov : Bool
abbrev drunV (g : DunG) : List Value :=
  [slV g.pS, slV g.pF, slV (g.s.s 0), slV (g.s.s 1), slV (g.s.s 2), slV (g.s.s 3), .string g.s.rou.name, .int .i64 g.s.rou.params, .int .i64 g.s.rou.locals, slV g.s.rou.sl, .int .i64 g.n, .int .i64 g.fr, .int .i64 g.sd, .int .i64 g.en,
   slV g.inS, .int .i64 g.ix, .int .i64 g.gn, slV g.rp, slV g.ps, slV g.ls, .pointer (some (adr g.dp)), .int .i64 g.si, slV g.ks, .slice none 0 0, slV g.cs, slV g.es, .int .i64 g.st, .int .i64 0, .bool g.ov]
structure DG where
  c : Col
  b : Nat
  g : DunG
  low : List DP
  top : DP
  es : List PtP
  d : Int
  kp : List PtP
  cl : List CmP
  evs : List Ev
abbrev DG.ms (x : DG) : Ms := ⟨x.low.map DP.act, x.top.act, x.es.map PtP.pt, x.d, x.g.si, x.g.st, x.kp.map PtP.pt, x.cl.map CmP.cm, x.evs, x.g.ov⟩
abbrev dptrs (l : List DP) : List Value := l.map fun x => .pointer (some (adr x.p))
def DActI (c : Col) (lo j : Nat) (x : DP) : Prop := ∀ b, DActB x b → Is c lo j b
theorem flatV_congr : ∀ {l l' : List PtP}, l.map (fun q => (q.kind, q.sl)) = l'.map (fun q => (q.kind, q.sl)) → l.flatMap ptV = l'.flatMap ptV
  | [], [], _ => rfl
  | [], _ :: _, h => by cases h
  | _ :: _, [], h => by cases h
  | x :: r, y :: r', h => by
    simp only [List.map_cons, List.cons.injEq, Prod.mk.injEq] at h
    simp only [List.flatMap_cons, flatV_congr h.2]
    have e : ptV x = ptV y := by show [Value.int .i64 x.kind, slV x.sl] = _; rw [h.1.1, h.1.2]
    rw [e]
structure DocR (H0 H : Heap) (x : DG) : Prop where
  base : Ext H0 H
  run : RowC x.c H0.size 200 H x.b T_hindcastref16_run (drunV x.g)
  lv : VecC x.c H0.size 201 H T_P_hindcastref16_activation x.g.ls (dptrs (x.low ++ [x.top]))
  lowR : ∀ i (h : i < x.low.length), DActR H x.low[i] ∧ DActI x.c H0.size i x.low[i]
  topR : DActR H x.top
  topI : DActI x.c H0.size x.low.length x.top
  codes : ∀ a ∈ x.low ++ [x.top], CodeR H0 a.r
  lowl : x.low.length ≤ 16
  dice : RowC x.c H0.size 205 H x.g.dp T_hindcastref08_Dice [.int .u64 x.d]
  pv : VecNC x.c H0.size 206 H T_api_Part 2 x.g.ps (x.es.flatMap ptV)
  esR : ∀ q ∈ x.es, PtR x.c H0.size 100 H q
  esA : x.es.Pairwise fun p q => Apart p.sl q.sl
  fsg : (x.low ++ [x.top]).map (fun a => decide (0 ≤ a.f)) = false :: List.replicate x.low.length true
  kv : VecNC x.c H0.size 202 H T_api_Part 2 x.g.ks (x.kp.flatMap ptV)
  kR : ∀ q ∈ x.kp, PtR x.c H0.size 101 H q
  cv : VecNC x.c H0.size 203 H T_api_Command 6 x.g.cs (x.cl.flatMap cmV)
  cR : ∀ q ∈ x.cl, CmR x.c H0.size H q
  outA : (outL x.cl x.kp).Pairwise Apart
  parA : (x.cl.map CmP.psl).Pairwise Apart
  ev : VecNC x.c H0.size 204 H T_api_Event 5 x.g.es (x.evs.flatMap evV)
theorem DActI.agr {c c' : Col} {lo j : Nat} {H : Heap} (h : Agr j H.size c c') {x : DP} (hx : DActR H x) (hi : DActI c lo j x) : DActI c' lo j x := fun b hb => ⟨(hi b hb).1, h b (hx.lt hb) (hi b hb).2⟩
theorem DActR.tch {c : Col} {lo j : Nat} {S : Nat → Prop} {H H' : Heap} (h : Tch c lo S H H') (hj : ¬ S j) {x : DP} (hx : DActR H x) (hi : DActI c lo j x) : DActR H' x :=
  hx.upd h fun b hb e => hj ((hi b hb).2 ▸ e.2)
structure DFr (H0 H' : Heap) (x : DG) (c' : Col) (S : Nat → Prop) : Prop where
  base : Ext H0 H'
  run : ¬ S 200 → RowC c' H0.size 200 H' x.b T_hindcastref16_run (drunV x.g)
  lv : ¬ S 201 → VecC c' H0.size 201 H' T_P_hindcastref16_activation x.g.ls (dptrs (x.low ++ [x.top]))
  lowR : ∀ i (h : i < x.low.length), ¬ S i → DActR H' x.low[i] ∧ DActI c' H0.size i x.low[i]
  topR : ¬ S x.low.length → DActR H' x.top ∧ DActI c' H0.size x.low.length x.top
  dice : ¬ S 205 → RowC c' H0.size 205 H' x.g.dp T_hindcastref08_Dice [.int .u64 x.d]
  pv : ¬ S 206 → VecNC c' H0.size 206 H' T_api_Part 2 x.g.ps (x.es.flatMap ptV)
  esR : ¬ S 100 → ∀ q ∈ x.es, PtR c' H0.size 100 H' q
  kv : ¬ S 202 → VecNC c' H0.size 202 H' T_api_Part 2 x.g.ks (x.kp.flatMap ptV)
  kR : ¬ S 101 → ∀ q ∈ x.kp, PtR c' H0.size 101 H' q
  cv : ¬ S 203 → VecNC c' H0.size 203 H' T_api_Command 6 x.g.cs (x.cl.flatMap cmV)
  cR : ¬ S 101 → ¬ S 207 → ∀ q ∈ x.cl, CmR c' H0.size H' q
  ev : ¬ S 204 → VecNC c' H0.size 204 H' T_api_Event 5 x.g.es (x.evs.flatMap evV)
theorem DocR.fr {H0 H H' : Heap} {x : DG} (h : DocR H0 H x) {S : Nat → Prop} (ht : Tch x.c H0.size S H H') {c' : Col} (hA : ∀ j, ¬ S j → Agr j H.size x.c c') : DFr H0 H' x c' S where
  base := ht.ext h.base
  run := fun hj => h.run.mv ht hj (hA _ hj)
  lv := fun hj => h.lv.mv ht hj (hA _ hj)
  lowR := fun i hi hj => ⟨DActR.tch ht hj (h.lowR i hi).1 (h.lowR i hi).2, (h.lowR i hi).2.agr (hA _ hj) (h.lowR i hi).1⟩
  topR := fun hj => ⟨DActR.tch ht hj h.topR h.topI, h.topI.agr (hA _ hj) h.topR⟩
  dice := fun hj => h.dice.mv ht hj (hA _ hj)
  pv := fun hj => h.pv.mv ht hj (hA _ hj)
  esR := fun hj q hq => (h.esR q hq).mv ht hj (hA _ hj)
  kv := fun hj => h.kv.mv ht hj (hA _ hj)
  kR := fun hj q hq => (h.kR q hq).mv ht hj (hA _ hj)
  cv := fun hj => h.cv.mv ht hj (hA _ hj)
  cR := fun hj hj2 q hq => ⟨(h.cR q hq).vs.mv ht hj (hA _ hj), (h.cR q hq).ps.mv ht hj2 (hA _ hj2), fun p hp => ((h.cR q hq).pt p hp).mv ht hj (hA _ hj)⟩
  ev := fun hj => h.ev.mv ht hj (hA _ hj)
theorem DocR.top {H0 H H' : Heap} {x : DG} (h : DocR H0 H x) {t : DP} (ht : Tch x.c H0.size (· = x.low.length) H H') (hr : DActR H' t) (hp : t.p = x.top.p) (hrou : t.r = x.top.r) (hff : t.f = x.top.f)
    {d : Col} (hb : ∀ b, DActB t b → DActB x.top b ∨ (H.size ≤ b ∧ d b = x.low.length)) : DocR H0 H' { x with top := t, c := dye H.size x.c d } := by
  have hl := h.lowl
  have f := h.fr ht (dyeA _ H.size x.c d)
  exact { h with
    base := f.base
    run := f.run (by omega)
    lv := by
      have := f.lv (by omega)
      simpa [dptrs, hp] using this
    lowR := fun i (hi : i < x.low.length) => f.lowR i hi (by omega)
    topR := hr
    topI := fun b hbb => by
      rcases hb b hbb with e | e
      · exact is_dye (h.topI b e) (h.topR.lt e)
      · exact is_new h.base.size e.1 e.2
    codes := fun a ha => by
      rcases List.mem_append.1 ha with ha | ha
      · exact h.codes a (List.mem_append_left _ ha)
      · rw [List.mem_singleton.1 ha, hrou]; exact h.codes _ (by simp)
    fsg := by have := h.fsg; simpa [hff] using this
    dice := f.dice (by omega)
    pv := f.pv (by omega)
    esR := f.esR (by omega)
    kv := f.kv (by omega)
    kR := f.kR (by omega)
    cv := f.cv (by omega)
    cR := f.cR (by omega) (by omega)
    ev := f.ev (by omega) }
theorem DocR.ext {H0 H H' : Heap} {x : DG} (h : DocR H0 H x) (he : Ext H H') : DocR H0 H' x := by
  have f := h.fr (S := fun _ => False) (Tch.ofExt he) (c' := x.c) fun j _ y _ e => e
  exact { h with
    base := f.base, run := f.run id, lv := f.lv id, lowR := fun i hi => f.lowR i hi id, topR := (f.topR id).1, dice := f.dice id, pv := f.pv id, esR := f.esR id, kv := f.kv id, kR := f.kR id, cv := f.cv id, cR := f.cR id id, ev := f.ev id }
theorem DocR.num {H0 H H' : Heap} {x : DG} (h : DocR H0 H x) (hu : Upd (· = x.b) H H') {st si : Int} {ov : Bool} (hr : Row H' x.b T_hindcastref16_run (drunV { x.g with st := st, si := si, ov := ov })) :
    DocR H0 H' { x with g := { x.g with st := st, si := si, ov := ov } } := by
  have hl := h.lowl
  have f := h.fr (S := (· = 200)) (tch_row hu h.run.2 rfl) (c' := x.c) fun j _ y _ e => e
  exact { h with
    base := f.base, run := ⟨hr, h.run.2⟩, lv := f.lv (by omega), lowR := fun i (hi : i < x.low.length) => f.lowR i hi (by omega), topR := (f.topR (by omega)).1, dice := f.dice (by omega), pv := f.pv (by omega), esR := f.esR (by omega)
    kv := f.kv (by omega), kR := f.kR (by omega), cv := f.cv (by omega), cR := f.cR (by omega) (by omega), ev := f.ev (by omega) }
theorem DocR.fell {H0 H H' : Heap} {x : DG} (h : DocR H0 H x) (hu : Upd (· = x.g.dp) H H') {d : Int} (hr : Row H' x.g.dp T_hindcastref08_Dice [.int .u64 d]) : DocR H0 H' { x with d := d } := by
  have hl := h.lowl
  have f := h.fr (S := (· = 205)) (tch_row hu h.dice.2 rfl) (c' := x.c) fun j _ y _ e => e
  exact { h with
    base := f.base, run := f.run (by omega), lv := f.lv (by omega), lowR := fun i (hi : i < x.low.length) => f.lowR i hi (by omega), topR := (f.topR (by omega)).1, dice := ⟨hr, h.dice.2⟩, pv := f.pv (by omega), esR := f.esR (by omega)
    kv := f.kv (by omega), kR := f.kR (by omega), cv := f.cv (by omega), cR := f.cR (by omega) (by omega), ev := f.ev (by omega) }
theorem DocR.outCol {H0 H : Heap} {x : DG} (h : DocR H0 H x) : ∀ s ∈ outL x.cl x.kp, IsS x.c H0.size 101 s := fun s hs => by
  rcases List.mem_append.1 hs with hs | hs
  · obtain ⟨q, hq, hs⟩ := List.mem_flatMap.1 hs
    rcases List.mem_cons.1 hs with rfl | hs
    · exact (h.cR q hq).vs.2
    · obtain ⟨p, hp, rfl⟩ := List.mem_map.1 hs
      exact ((h.cR q hq).pt p hp).2
  · obtain ⟨p, hp, rfl⟩ := List.mem_map.1 hs
    exact (h.kR p hp).2
theorem DocR.free {H0 H : Heap} {x : DG} (h : DocR H0 H x) {b : Nat} (hb : x.c b = 999) (e : x.g.ks.a = some (adr b) ∨ b = x.b) : False := by
  rcases e with e | rfl
  · have := (h.kv.2 b e).2; omega
  · have := h.run.2.2; omega
theorem DocR.keep {H0 H H' : Heap} {x : DG} (h : DocR H0 H x) {ks : Sl} {q : PtP} (hu : Upd (fun b => x.g.ks.a = some (adr b) ∨ b = x.b) H H') (hr : Row H' x.b T_hindcastref16_run (drunV { x.g with ks := ks }))
    (hv : VecN H' T_api_Part 2 ks ((x.kp ++ [q]).flatMap ptV)) (hks : ks.a = x.g.ks.a ∨ ∃ b, ks.a = some (adr b) ∧ H.size ≤ b) (hq : Vec H T_int64 q.sl (ints q.vals)) (hqc : IsS x.c H0.size 999 q.sl) :
    DocR H0 H' { x with g := { x.g with ks := ks }, kp := x.kp ++ [q], c := dye H.size (recol x.c 999 101) fun _ => 202 } := by
  have hl := h.lowl
  have ht : Tch x.c H0.size (fun j => j = 202 ∨ j = 200 ∨ j = 999) H H' := Tch.of hu fun b _ e => by
    rcases e with e | rfl
    · exact ⟨(h.kv.2 b e).1, .inl (h.kv.2 b e).2⟩
    · exact ⟨h.run.2.1, .inr (.inl h.run.2.2)⟩
  have f := h.fr ht (agr_recol (n := H.size) (k := 101) (d := fun _ => 202) (.inr (.inr rfl)))
  exact { h with
    base := f.base, run := ⟨hr, is_dye (c := recol x.c 999 101) ⟨h.run.2.1, by unfold recol; rw [h.run.2.2, if_neg (by decide)]⟩ h.run.1.lt⟩
    lv := f.lv (by omega), lowR := fun i (hi : i < x.low.length) => f.lowR i hi (by omega), topR := (f.topR (by omega)).1, topI := (f.topR (by omega)).2, dice := f.dice (by omega), pv := f.pv (by omega), esR := f.esR (by omega)
    kv := ⟨hv, sl_dye h.kv.2 h.base.size hks (fun b hb => h.kv.1.lt hb) (by decide) fun _ _ => rfl⟩
    kR := fun p hp => by
      rcases List.mem_append.1 hp with hp | hp
      · exact f.kR (by omega) p hp
      · rw [List.mem_singleton.1 hp]
        exact ⟨hq.upd hu fun b hb e => h.free (hqc b hb).2 e, fun b hb => is_recol (hqc b hb) (hq.lt hb)⟩
    cv := f.cv (by omega), cR := f.cR (by omega) (by omega), ev := f.ev (by omega)
    outA := by
      have e : outL x.cl (x.kp ++ [q]) = outL x.cl x.kp ++ [q.sl] := by simp [outL]
      rw [e, List.pairwise_append]
      refine ⟨h.outA, List.pairwise_singleton _ _, fun s hs t ht => ?_⟩
      rw [List.mem_singleton.1 ht]
      exact apart_col (h.outCol s hs) hqc (by decide) }
theorem DocR.cmd {H0 H H' : Heap} {x : DG} (h : DocR H0 H x) {cs : Sl} {q : CmP} (hu : Upd (fun b => x.g.cs.a = some (adr b) ∨ b = x.b) H H') (hr : Row H' x.b T_hindcastref16_run (drunV { x.g with cs := cs }))
    (hv : VecN H' T_api_Command 6 cs ((x.cl ++ [q]).flatMap cmV)) (hcs : cs.a = x.g.cs.a ∨ ∃ b, cs.a = some (adr b) ∧ H.size ≤ b) (hq : Vec H T_int64 q.vsl (ints q.vals)) (hqc : IsS x.c H0.size 999 q.vsl) (hp : q.parts = []) (hps : q.psl = ⟨none, 0, 0⟩) :
    DocR H0 H' { x with g := { x.g with cs := cs }, cl := x.cl ++ [q], c := dye H.size (recol x.c 999 101) fun _ => 203 } := by
  have hl := h.lowl
  have ht : Tch x.c H0.size (fun j => j = 203 ∨ j = 200 ∨ j = 999) H H' := Tch.of hu fun b _ e => by
    rcases e with e | rfl
    · exact ⟨(h.cv.2 b e).1, .inl (h.cv.2 b e).2⟩
    · exact ⟨h.run.2.1, .inr (.inl h.run.2.2)⟩
  have f := h.fr ht (agr_recol (n := H.size) (k := 101) (d := fun _ => 203) (.inr (.inr rfl)))
  exact { h with
    base := f.base, run := ⟨hr, is_dye (c := recol x.c 999 101) ⟨h.run.2.1, by unfold recol; rw [h.run.2.2, if_neg (by decide)]⟩ h.run.1.lt⟩
    lv := f.lv (by omega), lowR := fun i (hi : i < x.low.length) => f.lowR i hi (by omega), topR := (f.topR (by omega)).1, topI := (f.topR (by omega)).2, dice := f.dice (by omega), pv := f.pv (by omega), esR := f.esR (by omega)
    kv := f.kv (by omega), kR := f.kR (by omega)
    cv := ⟨hv, sl_dye h.cv.2 h.base.size hcs (fun b hb => h.cv.1.lt hb) (by decide) fun _ _ => rfl⟩
    cR := fun p hp' => by
      rcases List.mem_append.1 hp' with hp' | hp'
      · exact f.cR (by omega) (by omega) p hp'
      · rw [List.mem_singleton.1 hp']
        refine ⟨⟨hq.upd hu fun b hb e => ?_, fun b hb => is_recol (hqc b hb) (hq.lt hb)⟩, ?_, fun p hpp => by rw [hp] at hpp; cases hpp⟩
        · rcases e with e | rfl
          · have := (h.cv.2 b e).2; have := (hqc b hb).2; omega
          · have := h.run.2.2; have := (hqc _ hb).2; omega
        · rw [hp, hps]; exact VecNC.nil _ _ _ _ _ _
    ev := f.ev (by omega)
    outA := by
      have e : (outL x.cl x.kp ++ [q.vsl]).Perm (outL (x.cl ++ [q]) x.kp) := by
        simp only [outL, List.flatMap_append, List.flatMap_cons, List.flatMap_nil, List.append_nil, cmSl, hp, List.map_nil, List.append_assoc]
        exact List.perm_append_left_iff _ |>.2 List.perm_append_comm
      refine (e.pairwise_iff fun {a b} h => h.symm).1 ?_
      rw [List.pairwise_append]
      refine ⟨h.outA, List.pairwise_singleton _ _, fun s hs t ht => ?_⟩
      rw [List.mem_singleton.1 ht]
      exact apart_col (h.outCol s hs) hqc (by decide)
    parA := by
      rw [List.map_append, List.pairwise_append]
      refine ⟨h.parA, List.pairwise_singleton _ _, fun s hs t ht => ?_⟩
      rw [List.mem_singleton.1 ht, hps]
      exact apart_nil _ rfl }
theorem DocR.event {H0 H H' : Heap} {x : DG} (h : DocR H0 H x) {es : Sl} {q : Ev} (hu : Upd (fun b => x.g.es.a = some (adr b) ∨ b = x.b) H H') (hr : Row H' x.b T_hindcastref16_run (drunV { x.g with es := es }))
    (hv : VecN H' T_api_Event 5 es ((x.evs ++ [q]).flatMap evV)) (hes : es.a = x.g.es.a ∨ ∃ b, es.a = some (adr b) ∧ H.size ≤ b) :
    DocR H0 H' { x with g := { x.g with es := es }, evs := x.evs ++ [q], c := dye H.size (recol x.c 999 101) fun _ => 204 } := by
  have hl := h.lowl
  have ht : Tch x.c H0.size (fun j => j = 204 ∨ j = 200 ∨ j = 999) H H' := Tch.of hu fun b _ e => by
    rcases e with e | rfl
    · exact ⟨(h.ev.2 b e).1, .inl (h.ev.2 b e).2⟩
    · exact ⟨h.run.2.1, .inr (.inl h.run.2.2)⟩
  have f := h.fr ht (agr_recol (n := H.size) (k := 101) (d := fun _ => 204) (.inr (.inr rfl)))
  exact { h with
    base := f.base, run := ⟨hr, is_dye (c := recol x.c 999 101) ⟨h.run.2.1, by unfold recol; rw [h.run.2.2, if_neg (by decide)]⟩ h.run.1.lt⟩
    lv := f.lv (by omega), lowR := fun i (hi : i < x.low.length) => f.lowR i hi (by omega), topR := (f.topR (by omega)).1, topI := (f.topR (by omega)).2, dice := f.dice (by omega), pv := f.pv (by omega), esR := f.esR (by omega)
    kv := f.kv (by omega), kR := f.kR (by omega), cv := f.cv (by omega), cR := f.cR (by omega) (by omega)
    ev := ⟨hv, sl_dye h.ev.2 h.base.size hes (fun b hb => h.ev.1.lt hb) (by decide) fun _ _ => rfl⟩ }
theorem DocR.call {H0 H H' : Heap} {x : DG} (h : DocR H0 H x) (hlt : x.low.length + 1 ≤ 16) {ls : Sl} {t : DP} (hu : Upd (fun b => x.g.ls.a = some (adr b) ∨ b = x.b) H H') (hr : Row H' x.b T_hindcastref16_run (drunV { x.g with ls := ls }))
    (hv : Vec H' T_P_hindcastref16_activation ls (dptrs (x.low ++ [x.top] ++ [t]))) (hls : ls.a = x.g.ls.a ∨ ∃ b, ls.a = some (adr b) ∧ H.size ≤ b) (ht' : DActR H' t) (htb : ∀ b, DActB t b → H.size ≤ b) (hc : CodeR H0 t.r) (hf : 0 ≤ t.f) :
    DocR H0 H' { x with g := { x.g with ls := ls }, low := x.low ++ [x.top], top := t, c := dye H.size (recol x.c 999 101) fun b => if ls.a = some (adr b) then 201 else x.low.length + 1 } := by
  have hl := h.lowl
  have ht : Tch x.c H0.size (fun j => j = 201 ∨ j = 200 ∨ j = 999) H H' := Tch.of hu fun b _ e => by
    rcases e with e | rfl
    · exact ⟨(h.lv.2 b e).1, .inl (h.lv.2 b e).2⟩
    · exact ⟨h.run.2.1, .inr (.inl h.run.2.2)⟩
  have f := h.fr ht (agr_recol (n := H.size) (k := 101) (d := fun b => if ls.a = some (adr b) then 201 else x.low.length + 1) (.inr (.inr rfl)))
  have hne : ∀ b, DActB t b → ls.a ≠ some (adr b) := fun b hb e => by
    rcases hb with rfl | hb | hb
    · exact hv.ne e ht'.row (by decide) rfl
    · rcases ht'.loc.own with ⟨h1, _⟩ | ⟨c, sp, h1, h2, _⟩
      · rw [h1] at hb; cases hb
      · rw [h1] at hb; cases hb; exact hv.ne e h2 (by decide) rfl
    · rcases ht'.stk.own with ⟨h1, _⟩ | ⟨c, sp, h1, h2, _⟩
      · rw [h1] at hb; cases hb
      · rw [h1] at hb; cases hb; exact hv.ne e h2 (by decide) rfl
  exact { h with
    base := f.base, run := ⟨hr, is_dye (c := recol x.c 999 101) ⟨h.run.2.1, by unfold recol; rw [h.run.2.2, if_neg (by decide)]⟩ h.run.1.lt⟩
    lv := ⟨hv, sl_dye h.lv.2 h.base.size hls (fun b hb => h.lv.1.lt hb) (by decide) fun b hb => if_pos hb⟩
    lowR := fun i hi => by
      have hi' : i < x.low.length + 1 := by simpa using hi
      by_cases e : i < x.low.length
      · have := f.lowR i e (by omega)
        simp only [List.getElem_append_left e]; exact this
      · have e : i = x.low.length := by omega
        subst e
        simp only [List.getElem_concat_length]
        exact f.topR (by omega)
    topR := ht'
    topI := fun b hb => by
      refine is_new h.base.size (htb b hb) ?_
      dsimp only
      rw [if_neg (hne b hb)]; simp
    codes := fun a ha => by
      rcases List.mem_append.1 ha with ha | ha
      · exact h.codes a ha
      · rw [List.mem_singleton.1 ha]; exact hc
    lowl := by simpa using hlt
    fsg := by
      have := h.fsg
      rw [List.map_append, this, List.length_append, List.length_singleton, List.replicate_succ']
      simp [hf]
    dice := f.dice (by omega), pv := f.pv (by omega), esR := f.esR (by omega)
    kv := f.kv (by omega), kR := f.kR (by omega), cv := f.cv (by omega), cR := f.cR (by omega) (by omega), ev := f.ev (by omega) }
theorem DocR.ret {H0 H H' : Heap} {x : DG} (h : DocR H0 H x) {low : List DP} {t : DP} (hlow : x.low = low ++ [t]) {ls : Sl} (hu : Upd (· = x.b) H H') (hr : Row H' x.b T_hindcastref16_run (drunV { x.g with ls := ls }))
    (hv : Vec H' T_P_hindcastref16_activation ls (dptrs (low ++ [t]))) (hls : ls.a = x.g.ls.a) : DocR H0 H' { x with g := { x.g with ls := ls }, low := low, top := t } := by
  have hl := h.lowl
  have hll : x.low.length = low.length + 1 := by rw [hlow]; simp
  have f := h.fr (S := (· = 200)) (tch_row hu h.run.2 rfl) (c' := x.c) fun j _ y _ e => e
  have hlast : x.low[low.length]'(by omega) = t := by simp [hlow]
  exact { h with
    base := f.base, run := ⟨hr, h.run.2⟩, lv := ⟨hv, fun b hb => h.lv.2 b (by rw [← hls]; exact hb)⟩
    lowR := fun i (hi : i < low.length) => by
      have := f.lowR i (by omega) (by omega)
      have e : x.low[i]'(by omega) = low[i] := by simp [hlow, List.getElem_append_left hi]
      rw [e] at this; exact this
    topR := by have := (f.lowR low.length (by omega) (by omega)).1; rw [hlast] at this; exact this
    topI := by have := (f.lowR low.length (by omega) (by omega)).2; rw [hlast] at this; exact this
    codes := fun a ha => h.codes a (by rw [hlow]; exact List.mem_append_left _ ha)
    lowl := by show low.length ≤ 16; omega
    fsg := by
      have := h.fsg
      rw [hlow, List.map_append, List.length_append, List.length_singleton, List.replicate_succ', ← List.cons_append] at this
      exact (List.append_inj' this rfl).1
    dice := f.dice (by omega), pv := f.pv (by omega), esR := f.esR (by omega)
    kv := f.kv (by omega), kR := f.kR (by omega), cv := f.cv (by omega), cR := f.cR (by omega) (by omega), ev := f.ev (by omega) }
theorem DocR.put {H0 H H' : Heap} {x : DG} (h : DocR H0 H x) {j : Nat} (hj : j < x.es.length) {b : Nat} (hb : x.es[j].sl.a = some (adr b)) (hu : Upd (· = b) H H') {vs : List Int} (hv : Vec H' T_int64 x.es[j].sl (ints vs)) :
    DocR H0 H' { x with es := x.es.set j { x.es[j] with vals := vs } } := by
  have hl := h.lowl
  have hmem := List.getElem_mem hj
  have hbc := (h.esR _ hmem).2 b hb
  have f := h.fr (S := (· = 100)) (tch_row hu hbc rfl) (c' := x.c) fun j _ y _ e => e
  have hk : ∀ {α : Type} (g : PtP → α), (g { x.es[j] with vals := vs } = g x.es[j]) → (x.es.set j { x.es[j] with vals := vs }).map g = x.es.map g := fun g hg => by
    rw [List.map_set, hg]
    apply List.ext_getElem
    · simp
    · intro i h1 h2
      rw [List.getElem_set]
      split
      · rename_i e; subst e; simp
      · rfl
  exact { h with
    base := f.base, run := f.run (by omega), lv := f.lv (by omega), lowR := fun i (hi : i < x.low.length) => f.lowR i hi (by omega), topR := (f.topR (by omega)).1, dice := f.dice (by omega)
    pv := by
      have := f.pv (by omega)
      dsimp only
      rw [flatV_congr (hk (fun q => (q.kind, q.sl)) rfl)]; exact this
    esR := fun q hq => by
      obtain ⟨i, hi, e⟩ := List.getElem_of_mem hq
      rw [List.length_set] at hi
      rw [List.getElem_set] at e
      split at e
      · subst e; exact ⟨hv, (h.esR _ hmem).2⟩
      · rename_i hne
        subst e
        have hr := h.esR _ (List.getElem_mem hi)
        refine ⟨hr.1.upd hu fun b' hb' e => ?_, hr.2⟩
        subst e
        rcases Nat.lt_or_ge i j with hlt | hge
        · exact List.pairwise_iff_getElem.1 h.esA i j hi hj hlt b' hb' hb
        · exact List.pairwise_iff_getElem.1 h.esA j i hj hi (by omega) b' hb hb'
    esA := by
      have e := hk PtP.sl rfl
      have := h.esA
      rw [← List.pairwise_map (f := PtP.sl) (R := Apart)] at this ⊢
      rw [e]; exact this
    kv := f.kv (by omega), kR := f.kR (by omega), cv := f.cv (by omega), cR := f.cR (by omega) (by omega), ev := f.ev (by omega) }
theorem DocR.spawn {H0 H H' : Heap} {x : DG} (h : DocR H0 H x) {cs ps : Sl} {kp : List PtP} (hp : kp.Perm x.kp) (hu : Upd (fun b => x.g.cs.a = some (adr b) ∨ b = x.b) H H')
    (hr : Row H' x.b T_hindcastref16_run (drunV { x.g with cs := cs, ks := ⟨none, 0, 0⟩ })) (hk : VecN H' T_api_Part 2 ps (kp.flatMap ptV)) (hkn : ∀ b, ps.a = some (adr b) → H.size ≤ b)
    (hv : VecN H' T_api_Command 6 cs ((x.cl ++ [spawned ps kp]).flatMap cmV)) (hcs : cs.a = x.g.cs.a ∨ ∃ b, cs.a = some (adr b) ∧ H.size ≤ b) :
    DocR H0 H' { x with g := { x.g with cs := cs, ks := ⟨none, 0, 0⟩ }, cl := x.cl ++ [spawned ps kp], kp := [], c := dye H.size (recol x.c 999 101) fun b => if ps.a = some (adr b) then 207 else 203 } := by
  have hl := h.lowl
  have ht : Tch x.c H0.size (fun j => j = 203 ∨ j = 200 ∨ j = 999) H H' := Tch.of hu fun b _ e => by
    rcases e with e | rfl
    · exact ⟨(h.cv.2 b e).1, .inl (h.cv.2 b e).2⟩
    · exact ⟨h.run.2.1, .inr (.inl h.run.2.2)⟩
  have f := h.fr ht (agr_recol (n := H.size) (k := 101) (d := fun b => if ps.a = some (adr b) then 207 else 203) (.inr (.inr rfl)))
  have hne : ∀ b, cs.a = some (adr b) → ps.a ≠ some (adr b) := fun b hb e => by
    rcases hv.own with ⟨g1, _⟩ | ⟨b1, _, g1, g2, _⟩
    · rw [g1] at hb; cases hb
    · rcases hk.own with ⟨k1, _⟩ | ⟨b2, _, k1, k2, _⟩
      · rw [k1] at e; cases e
      · rw [g1] at hb; rw [k1] at e; cases hb; cases e
        exact g2.ne k2 (by decide) rfl
  exact { h with
    base := f.base, run := ⟨hr, is_dye (c := recol x.c 999 101) ⟨h.run.2.1, by unfold recol; rw [h.run.2.2, if_neg (by decide)]⟩ h.run.1.lt⟩
    lv := f.lv (by omega), lowR := fun i (hi : i < x.low.length) => f.lowR i hi (by omega), topR := (f.topR (by omega)).1, topI := (f.topR (by omega)).2, dice := f.dice (by omega), pv := f.pv (by omega), esR := f.esR (by omega)
    kv := VecNC.nil _ _ _ _ _ _, kR := fun p hp => by cases hp
    cv := ⟨hv, sl_dye h.cv.2 h.base.size hcs (fun b hb => h.cv.1.lt hb) (by decide) fun b hb => if_neg (hne b hb)⟩
    cR := fun p hp' => by
      rcases List.mem_append.1 hp' with hp' | hp'
      · exact f.cR (by omega) (by omega) p hp'
      · rw [List.mem_singleton.1 hp']
        exact ⟨VecC.nil _ _ _ _ _, ⟨hk, fun b hb => is_new h.base.size (hkn b hb) (if_pos hb)⟩, fun p hpp => f.kR (by omega) p (hp.subset hpp)⟩
    ev := f.ev (by omega)
    outA := by
      have e : (outL x.cl x.kp ++ [(⟨none, 0, 0⟩ : Sl)]).Perm (outL (x.cl ++ [spawned ps kp]) []) := by
        simp only [outL, List.flatMap_append, List.flatMap_cons, List.flatMap_nil, List.append_nil, cmSl, List.map_nil, List.append_assoc]
        refine List.perm_append_left_iff _ |>.2 (List.perm_append_comm.trans ?_)
        exact (hp.symm.map _).cons _
      refine (e.pairwise_iff fun {a b} h => h.symm).1 ?_
      rw [List.pairwise_append]
      refine ⟨h.outA, List.pairwise_singleton _ _, fun s hs t ht => ?_⟩
      rw [List.mem_singleton.1 ht]
      exact apart_nil _ rfl
    parA := by
      rw [List.map_append, List.pairwise_append]
      refine ⟨h.parA, List.pairwise_singleton _ _, fun s hs t ht => ?_⟩
      rw [List.mem_singleton.1 ht]
      obtain ⟨q, hq, rfl⟩ := List.mem_map.1 hs
      intro b hb hb'
      have := (h.cR q hq).ps.1.lt hb
      have := hkn b hb'
      omega }
end
section
open Hc Hc.Vf Hc.Mc Hc.Dice
variable {H : Heap}
theorem s_rTruth {b : Bool} {k : Int → Heap → Prop} (hk : k (truthI b) H) : CallT Pg f_R_truth [.bool b] IntR H k := by
  refine c_R_truth _ ?_
  unfold v_R_truth
  cases b <;> exact hk
theorem s_quot {w x : Int} {k : Int → Heap → Prop} (hk : k (divI w x) H) : CallT Pg f_R_quotient [.int .i64 w, .int .i64 x] IntR H k := by
  refine c_R_quotient _ _ ?_
  unfold v_R_quotient
  unfold divI at hk
  refine Br.mk (fun h => ?_) fun h => Br.mk (fun h2 => ?_) fun h2 => ⟨bneI h, ?_⟩
  · rwa [if_pos (beqI h)] at hk
  · rw [if_neg (bneI h), if_pos (beqI h2)] at hk
    rw [Int.zero_sub]; exact hk
  · rwa [if_neg (bneI h), if_neg (bneI h2)] at hk
theorem w64_ex (x : Int) : ∃ m : Int, w64 x = x + m * 18446744073709551616 := by
  refine ⟨-((x + 9223372036854775808) / 18446744073709551616), ?_⟩
  unfold w64; rw [wrap_i64]
  have := Int.mul_ediv_add_emod (x + 9223372036854775808) 18446744073709551616
  omega
theorem w64_of {x r m : Int} (hr : I64 r) (h : x = r + m * 18446744073709551616) : w64 x = r := by
  subst h
  unfold I64 at hr
  unfold w64; rw [wrap_i64]
  omega
theorem rem_eq {w x : Int} (hw : I64 w) (hx : I64 x) : w64 (w64 (w - w64 (w64 (divI w x * x) * truthI (x != 0))) - w64 (w * truthI (x == 0))) = remI w x := by
  by_cases h0 : x = 0
  · subst h0
    have e1 : ((0 : Int) != 0) = false := by decide
    have e2 : ((0 : Int) == 0) = true := by decide
    rw [e1, e2]
    unfold truthI remI
    simp only [Bool.false_eq_true, if_false, if_true, Int.mul_zero, Int.mul_one, true_or]
    have e3 : w64 0 = 0 := by decide
    obtain ⟨m, hm⟩ := w64_ex w
    rw [e3, Int.sub_zero, Int.sub_self]; exact e3
  · have e1 : (x != 0) = true := by simp [h0]
    have e2 : (x == 0) = false := by simp [h0]
    rw [e1, e2]
    unfold truthI
    simp only [Bool.false_eq_true, if_false, if_true, Int.mul_zero, Int.mul_one]
    have e3 : w64 0 = 0 := by decide
    rw [e3, Int.sub_zero]
    obtain ⟨m1, h1⟩ := w64_ex (w64 (divI w x * x))
    obtain ⟨m2, h2⟩ := w64_ex (divI w x * x)
    obtain ⟨m3, h3⟩ := w64_ex (w - w64 (w64 (divI w x * x)))
    unfold remI
    by_cases h9 : x = -1
    · subst h9
      rw [if_pos (.inr rfl)]
      have hd : divI w (-1) = w64 (-w) := by unfold divI; rw [if_neg (by decide), if_pos rfl]
      obtain ⟨m4, h4⟩ := w64_ex (-w)
      rw [hd, h4] at h1 h2 h3 ⊢
      refine w64_of (m := m3 - m1 - m2 + m4) ⟨by decide, by decide⟩ ?_
      rw [h3, h1, h2]; omega
    · rw [if_neg (by omega)]
      have hd : divI w x = w64 (w.tdiv x) := by unfold divI; rw [if_neg h0, if_neg h9]
      have hb : I64 (w.tdiv x) := by
        have := Int.natAbs_tdiv_le_natAbs w x
        unfold I64 at *
        rcases (by omega : w < 0 ∨ 0 ≤ w) with hn | hn
        · refine ⟨by omega, ?_⟩
          have : (w.tdiv x).natAbs ≤ 9223372036854775808 := by omega
          by_cases he : (w.tdiv x).natAbs = 9223372036854775808
          · have hw2 : w.natAbs = 9223372036854775808 := by omega
            rw [Int.natAbs_tdiv, hw2] at he
            have hx1 : x.natAbs = 1 := by
              have : x.natAbs ≠ 0 := by omega
              rcases Nat.lt_or_ge x.natAbs 2 with g | g
              · omega
              · have h5 := Nat.div_le_div_left g (show 0 < 2 by decide) (a := 9223372036854775808)
                have he' : 9223372036854775808 / x.natAbs = 9223372036854775808 := he
                rw [he'] at h5
                exact absurd h5 (by decide)
            have hx2 : x = 1 := by omega
            subst hx2
            rw [Int.tdiv_one]; omega
          · omega
        · constructor <;> omega
      have hwt : w64 (w.tdiv x) = w.tdiv x := w64_of (m := 0) hb (by omega)
      rw [hd, hwt] at h1 h2 h3 ⊢
      have ht := Int.tmod_def w x
      have hc : x * w.tdiv x = w.tdiv x * x := Int.mul_comm _ _
      refine w64_of (m := m3 - m1 - m2) ?_ ?_
      · have := remI_bd (w := w) hx
        unfold remI at this
        rwa [if_neg (by omega)] at this
      · rw [h3, h1, h2, ht, hc]; omega
theorem s_rTwo {op w x : Int} (ho : isBin op = true) (hw : I64 w) (hx : I64 x) {k : Int → Heap → Prop} (hk : k (binI op.toNat w x) H) : CallT Pg f_R_two [.int .i64 op, .int .i64 w, .int .i64 x] IntR H k := by
  refine c_R_two _ _ _ ?_
  unfold v_R_two
  refine Br.mk (fun h => by rw [beqI h] at hk; exact hk) fun h6 => ?_
  refine Br.mk (fun h => by rw [beqI h] at hk; exact hk) fun h7 => ?_
  refine Br.mk (fun h => by rw [beqI h] at hk; exact hk) fun h8 => ?_
  refine Br.mk (fun h => by rw [beqI h] at hk; exact s_quot hk) fun h9 => ?_
  refine Br.mk (fun h => ?_) fun h10 => ?_
  · rw [beqI h] at hk
    have hk : k (remI w x) H := hk
    rw [← rem_eq hw hx] at hk
    refine s_quot ?_
    simp only [Lt_def]
    exact s_rTruth (s_rTruth hk)
  refine Br.mk (fun h => by rw [beqI h] at hk; exact s_rTruth (by rw [trueq]; exact hk)) fun h12 => ?_
  refine Br.mk (fun h => by rw [beqI h] at hk; exact s_rTruth (by rw [truneq]; exact hk)) fun h13 => ?_
  refine Br.mk (fun h => by rw [beqI h] at hk; exact s_rTruth hk) fun h14 => ?_
  refine Br.mk (fun h => by rw [beqI h] at hk; exact s_rTruth hk) fun h15 => ?_
  refine Br.mk (fun h => by rw [beqI h] at hk; exact s_rTruth hk) fun h16 => ?_
  refine Br.mk (fun h => by rw [beqI h] at hk; exact s_rTruth hk) fun h17 => ?_
  refine Br.mk (fun h => ?_) fun h36 => ?_
  · rw [beqI h] at hk
    have hk : k (if w < x then w else x) H := hk
    refine Br_dec (fun h => by rwa [if_pos h] at hk) fun h => by rwa [if_neg h] at hk
  · have h37 : op = 37 := by
      unfold isBin at ho
      simp only [List.contains_cons, List.contains_nil, Bool.or_false, Bool.or_eq_true, beq_iff_eq] at ho
      have := bneI h6; have := bneI h7; have := bneI h8; have := bneI h9; have := bneI h10; have := bneI h12; have := bneI h13; have := bneI h14; have := bneI h15; have := bneI h16; have := bneI h17; have := bneI h36
      omega
    subst h37
    have hk : k (if w > x then w else x) H := hk
    refine Br_dec (fun h => by rwa [if_pos h] at hk) fun h => by rwa [if_neg h] at hk
theorem s_rOne {op x : Int} (ho : isUn op = true) {k : Int → Heap → Prop} (hk : k (unI op.toNat x) H) : CallT Pg f_R_one [.int .i64 op, .int .i64 x] IntR H k := by
  refine c_R_one _ _ ?_
  unfold v_R_one
  refine Br.mk (fun h => by rw [beqI h] at hk; rw [Int.zero_sub]; exact hk) fun h11 => ?_
  refine Br.mk (fun h => by rw [beqI h] at hk; exact s_rTruth (by rw [trueq]; exact hk)) fun h18 => ?_
  have h38 : op = 38 := by
    unfold isUn at ho
    simp only [List.contains_cons, List.contains_nil, Bool.or_false, Bool.or_eq_true, beq_iff_eq] at ho
    have := bneI h11; have := bneI h18
    omega
  subst h38
  have hk : k (if x < 0 then w64 (-x) else x) H := hk
  refine Br_dec (fun h => by rw [if_pos h] at hk; rw [Int.zero_sub]; exact hk) fun h => by rwa [if_neg h] at hk
theorem s_jump {a n : Int} {k : Int → Heap → Prop} (hk : k (if 0 ≤ a ∧ a < n then a else -1) H) : CallT Pg f_R_jump [.int .i64 a, .int .i64 n] IntR H k := by
  refine c_R_jump _ _ ?_
  unfold v_R_jump
  refine Jn.mk (fun j H' => H = H' ∧ j = decide (¬ (0 ≤ a ∧ a < n))) (fun kk hkk => ?_) ?_
  · refine Br_dec (fun h => hkk _ _ ⟨rfl, (decide_eq_true (by omega)).symm⟩) fun h => hkk _ _ ⟨rfl, decide_eq_decide.2 (by omega)⟩
  · rintro j _ ⟨rfl, rfl⟩
    refine Br_dec (fun h => ?_) fun h => ?_
    · rw [if_neg h] at hk; exact hk
    · rw [if_pos (Classical.not_not.1 h)] at hk; exact hk
theorem s_inside {op : Int} {k : Bool → Heap → Prop} (hk : k (outerB op) H) : CallT Pg f_R_inside [.int .i64 op] (.one (.c .bool)) H k := by
  refine c_R_inside _ ?_
  unfold v_R_inside
  have ho : outerB op = decide (op = 4 ∨ op = 5 ∨ (25 ≤ op ∧ op ≤ 30) ∨ op = 35 ∨ op = 23) := by
    unfold outerB
    rw [Bool.eq_iff_iff]
    simp only [List.contains_cons, List.contains_nil, Bool.or_false, Bool.or_eq_true, beq_iff_eq, decide_eq_true_eq]
    omega
  rw [ho] at hk
  refine Jn.mk (fun j H' => H = H' ∧ j = decide (op = 4 ∨ op = 5 ∨ (25 ≤ op ∧ op ≤ 30) ∨ op = 35 ∨ op = 23)) (fun kk hkk => ?_) (by rintro j _ ⟨rfl, rfl⟩; exact hk)
  have e : ∀ b, b = decide (op = 4 ∨ op = 5 ∨ (25 ≤ op ∧ op ≤ 30) ∨ op = 35 ∨ op = 23) → kk b H := fun b hb => hkk _ _ ⟨rfl, hb⟩
  refine Br.mk (fun h => e _ (by have := beqI h; exact (decide_eq_true (by omega)).symm)) fun h4 => ?_
  have h4 := bneI h4
  refine Br.mk (fun h => e _ (by have := beqI h; exact (decide_eq_true (by omega)).symm)) fun h5 => ?_
  have h5 := bneI h5
  refine Br_dec (fun h => Br_dec (fun h' => e _ (decide_eq_true (by omega)).symm) fun h' => ?_) fun h => ?_
  · refine Br.mk (fun h => e _ (by have := beqI h; exact (decide_eq_true (by omega)).symm)) fun h35 => e _ ?_
    have h35 := bneI h35
    rw [trueq]; exact decide_eq_decide.2 (by omega)
  · refine Br.mk (fun h => e _ (by have := beqI h; exact (decide_eq_true (by omega)).symm)) fun h35 => e _ ?_
    have h35 := bneI h35
    rw [trueq]; exact decide_eq_decide.2 (by omega)
theorem s_in {s : Sl} {xs : List Int} {v : Int} (hs : RL (Value.int .i64) H s xs) (hl : xs.length ≤ 2 ^ 60) {k : Bool → Heap → Prop} (hk : k (decide (v ∈ xs)) H) : CallT Pg f_R_in [.slice s.a s.len s.cap, .int .i64 v] (.one (.c .bool)) H k := by
  refine c_R_in _ _ ?_
  unfold v_R_in
  have hlen := hs.len
  refine LoopT.mk (fun i H' => H = H' ∧ ∃ n : Nat, i = n ∧ n ≤ xs.length ∧ ∀ j (h : j < xs.length), j < n → xs[j] ≠ v) (fun i _ => xs.length - i.toNat) ⟨rfl, 0, rfl, Nat.zero_le _, fun j _ hj => by omega⟩ ?_
  rintro next _ _ ⟨rfl, n, rfl, hn, hno⟩ hnext
  refine Br_dec (fun hlt => ?_) fun hge => ?_
  · have hn2 : n < xs.length := by omega
    refine IxA_rl hs rfl hn2 fun a ha => Ld_int ha (Br.mk (fun h => ?_) fun h => ?_)
    · have : v ∈ xs := by rw [← beqI h]; exact List.getElem_mem hn2
      rwa [decide_eq_true this] at hk
    · have h := bneI h
      refine Lt.mk (u := ((n + 1 : Nat) : Int)) (by rw [wrap_i64_id] <;> omega) (hnext _ _ ⟨rfl, n + 1, rfl, hn2, fun j hj hjn => ?_⟩ (by omega))
      rcases Nat.lt_or_ge j n with e | e
      · exact hno j hj e
      · have : j = n := by omega
        subst this; exact h
  · have : ¬ v ∈ xs := fun h => by
      obtain ⟨j, hj, e⟩ := List.getElem_of_mem h
      exact absurd e (hno j hj (by omega))
    rwa [decide_eq_false this] at hk
end
section
open Hc Hc.Vf Hc.Mc Hc.Dice
variable {H : Heap}
theorem es_first {key : Int} : ∀ {es : List PtP}, (∃ j, ∃ h : j < es.length, es[j].kind = key ∧ (∀ i (hi : i < es.length), i < j → es[i].kind ≠ key) ∧ lookV (es.map PtP.pt) key = some es[j].vals ∧
      ∀ f v, putV (es.map PtP.pt) key f v = (es.set j { es[j] with vals := es[j].vals.set f v }).map PtP.pt) ∨
    (lookV (es.map PtP.pt) key = none ∧ ∀ q ∈ es, q.kind ≠ key)
  | [] => .inr ⟨rfl, fun q h => by cases h⟩
  | x :: r => by
    by_cases e : x.kind = key
    · refine .inl ⟨0, by simp, e, fun i _ h => by omega, ?_, fun f v => ?_⟩
      · unfold lookV
        simp only [List.map_cons, List.find?_cons]
        have : (x.pt.kind == key) = true := by simpa using e
        rw [this]; rfl
      · simp only [List.map_cons, putV, List.getElem_cons_zero, List.set_cons_zero]
        rw [if_pos e]
    · have hl : lookV ((x :: r).map PtP.pt) key = lookV (r.map PtP.pt) key := by
        unfold lookV
        simp only [List.map_cons, List.find?_cons]
        have : (x.pt.kind == key) = false := by simpa using e
        rw [this]
      rcases es_first (key := key) (es := r) with ⟨j, hj, h1, h2, h3, h4⟩ | ⟨h2, h3⟩
      · refine .inl ⟨j + 1, by simpa using hj, h1, fun i hi hij => ?_, ?_, fun f v => ?_⟩
        · cases i with
          | zero => exact e
          | succ i => exact h2 i (by simpa using hi) (by omega)
        · rw [hl, h3]; rfl
        · simp only [List.map_cons, putV, List.getElem_cons_succ, List.set_cons_succ]
          rw [if_neg e, h4]
      · exact .inr ⟨hl.trans h2, fun q hq => (List.mem_cons.1 hq).elim (fun h => h ▸ e) (h3 q)⟩
theorem d_part {H0 : Heap} {x : DG} (h : DocR H0 H x) {i : Int} {j : Nat} (hi : i = j) (hj : j < x.es.length) {k : Addr → Prop} (hk : ∀ a, hcell H a = some (.int .i64 x.es[j].kind) → hcell H (a.add 1) = some (slV x.es[j].sl) → k a) : IxA 2 x.g.ps i k :=
  IxA_rn' ptV_len (VecN.rn ptV_len (by decide) h.pv.1) (by decide) hi hj fun a ha => by
    rw [getElem!_pos x.es j hj] at ha
    exact hk a ha.1 ha.2.1
theorem s_has0 {H0 : Heap} {x : DG} (h : DocR H0 H x) (hl : x.es.length ≤ 2 ^ 60) {key : Int} {k : Int → Heap → Prop}
    (h1 : ∀ j (hj : j < x.es.length), x.es[j].kind = key → (∀ i (hi : i < x.es.length), i < j → x.es[i].kind ≠ key) → lookV (x.es.map PtP.pt) key = some x.es[j].vals → (∀ f v, putV (x.es.map PtP.pt) key f v = (x.es.set j { x.es[j] with vals := x.es[j].vals.set f v }).map PtP.pt) → k j H)
    (h2 : lookV (x.es.map PtP.pt) key = none → (∀ q ∈ x.es, q.kind ≠ key) → k (-1) H) : CallT Pg f_R_run_has [.pointer (some (adr x.b)), .int .i64 key] IntR H k := by
  refine c_R_run_has _ _ ?_
  unfold v_R_run_has
  simp only [NilCk_some, adr_add]
  have hlen := h.pv.1.len
  rw [flat_len ptV_len] at hlen
  refine LoopT.mk (fun i H' => H = H' ∧ ∃ n : Nat, i = n ∧ n ≤ x.es.length ∧ ∀ j (h : j < x.es.length), j < n → x.es[j].kind ≠ key) (fun i _ => x.es.length - i.toNat) ⟨rfl, 0, rfl, Nat.zero_le _, fun j _ hj => by omega⟩ ?_
  rintro next _ _ ⟨rfl, n, rfl, hn, hno⟩ hnext
  refine Ld_sl (s := x.g.ps) ((h.run.1.cell 18).trans rfl) (Br_dec (fun hlt => ?_) fun hge => ?_)
  · have hn2 : n < x.es.length := by omega
    refine Ld_sl (s := x.g.ps) ((h.run.1.cell 18).trans rfl) (d_part h rfl hn2 fun a ha _ => Ld_int ha (Br.mk (fun e => ?_) fun e => ?_))
    · have e := beqI e
      rcases es_first (key := key) (es := x.es) with ⟨j, hj, g1, g2, g3, g4⟩ | ⟨g1, g2⟩
      · have : j = n := by
          rcases Nat.lt_trichotomy j n with c | c | c
          · exact absurd g1 (hno j hj c)
          · exact c
          · exact absurd e (g2 n hn2 c)
        subst this
        exact h1 j hj g1 g2 g3 g4
      · exact absurd e (g2 _ (List.getElem_mem hn2))
    · have e := bneI e
      refine Lt.mk (u := ((n + 1 : Nat) : Int)) (by rw [wrap_i64_id] <;> omega) (hnext _ _ ⟨rfl, n + 1, rfl, hn2, fun j hj hjn => ?_⟩ (by omega))
      rcases Nat.lt_or_ge j n with c | c
      · exact hno j hj c
      · have : j = n := by omega
        subst this; exact e
  · rcases es_first (key := key) (es := x.es) with ⟨j, hj, g1, g2, g3, g4⟩ | ⟨g1, g2⟩
    · exact absurd g1 (hno j hj (by omega))
    · exact h2 g1 g2
theorem s_has {H0 : Heap} {x : DG} (h : DocR H0 H x) (hl : x.es.length ≤ 2 ^ 60) {key : Int} {k : Int → Heap → Prop}
    (h1 : ∀ j (hj : j < x.es.length), x.es[j].kind = key → lookV (x.es.map PtP.pt) key = some x.es[j].vals → (∀ f v, putV (x.es.map PtP.pt) key f v = (x.es.set j { x.es[j] with vals := x.es[j].vals.set f v }).map PtP.pt) → k j H)
    (h2 : lookV (x.es.map PtP.pt) key = none → (∀ q ∈ x.es, q.kind ≠ key) → k (-1) H) : CallT Pg f_R_run_has [.pointer (some (adr x.b)), .int .i64 key] IntR H k :=
  s_has0 h hl (fun j hj a _ b c => h1 j hj a b c) h2
abbrev dmpOf (g : DunG) (fs : List Rou) : MP := ⟨fs.map fnOf, fnOf g.s.rou, g.s.l 2, g.s.l 3, g.n, 2 ^ 63⟩
abbrev denOf (g : DunG) (ins : List (Int × Int × Int)) : En := ⟨g.fr, g.sd, g.ix, g.gn, ins⟩
abbrev FieldR : RTy := .tup [(.c (.int .i64)), (.c (.int .i64)), (.c .bool)]
theorem s_field {H0 : Heap} {x : DG} {fs : List Rou} {ins : List (Int × Int × Int)} (h : DocR H0 H x) (hc : CtxR H0 x.g.pF x.g.s x.g.inS fs ins) (hl : x.es.length ≤ 2 ^ 60) {a : Int} (ha : I64 a) {put : Bool} {k : Int × Int × Bool → Heap → Prop}
    (h0 : fieldOk x.ms.vals a (if put = true then x.g.s.l 3 else x.g.s.l 2 ++ x.g.s.l 3) = false → k (0, 0, false) H)
    (h1 : ∀ j (hj : j < x.es.length), fieldOk x.ms.vals a (if put = true then x.g.s.l 3 else x.g.s.l 2 ++ x.g.s.l 3) = true → 0 ≤ a → x.es[j].kind = a / 8 → a % 8 < (x.es[j].vals.length : Int) → lookV (x.es.map PtP.pt) (a / 8) = some x.es[j].vals →
      (∀ f v, putV (x.es.map PtP.pt) (a / 8) f v = (x.es.set j { x.es[j] with vals := x.es[j].vals.set f v }).map PtP.pt) → k ((j : Nat), a % 8, true) H) :
    CallT Pg f_R_run_field [.pointer (some (adr x.b)), .int .i64 a, .bool put] FieldR H k := by
  refine c_R_run_field _ _ _ ?_
  unfold v_R_run_field
  have ha' := ha
  unfold I64 at ha'
  simp only [NilCk_some, adr_add, mk_add]
  refine Br_dec (fun hlt => h0 (by unfold fieldOk; rw [decide_eq_false (by omega), Bool.false_and, Bool.false_and])) fun hge => ⟨by omega, ?_⟩
  have hd : a.tdiv 8 = a / 8 := Int.tdiv_eq_ediv_of_nonneg (by omega)
  have hmd : a.tmod 8 = a % 8 := Int.tmod_eq_emod_of_nonneg (by omega)
  rw [hd, wrap_i64_id (by omega) (by omega)]
  refine Ld_sl (s := x.g.s.s 3) ((h.run.1.cell 5).trans rfl) (s_in ((hc.sets 3 (by decide)).ext h.base) (hc.setL 3 (by decide)) ?_)
  refine Ld_sl (s := x.g.s.s 2) ((h.run.1.cell 4).trans rfl) (s_in ((hc.sets 2 (by decide)).ext h.base) (hc.setL 2 (by decide)) ?_)
  have hin : ∀ v : List Int, lookV (x.es.map PtP.pt) (a / 8) = some v → fieldOk x.ms.vals a (if put = true then x.g.s.l 3 else x.g.s.l 2 ++ x.g.s.l 3) = (decide (a % 8 < (v.length : Int)) && (decide (a / 8 ∈ x.g.s.l 3) || (!put && decide (a / 8 ∈ x.g.s.l 2)))) := fun v hv => by
    unfold fieldOk
    rw [decide_eq_true (show 0 ≤ a by omega), Bool.true_and]
    dsimp only
    rw [hv]
    cases put <;> simp [Bool.or_comm]
  refine s_has h hl (fun j hj hkd hlo hput => ?_) fun hlo _ => ?_
  · have hin := hin _ hlo
    have hv := (h.esR _ (List.getElem_mem hj)).1.len
    rw [List.length_map] at hv
    refine ⟨by omega, ?_⟩
    rw [hmd]
    refine Jn.mk (fun j' H' => H = H' ∧ j' = !(decide (a % 8 < (x.es[j].vals.length : Int)) && (decide (a / 8 ∈ x.g.s.l 3) || (!put && decide (a / 8 ∈ x.g.s.l 2))))) (fun kk hkk => ?_) ?_
    · have hlast : ∀ b, b = !(decide (a % 8 < (x.es[j].vals.length : Int)) && (decide (a / 8 ∈ x.g.s.l 3) || (!put && decide (a / 8 ∈ x.g.s.l 2)))) → kk b H := fun b hb => hkk _ _ ⟨rfl, hb⟩
      cases hw : decide (a / 8 ∈ x.g.s.l 3) with
      | true =>
        rw [hw] at hlast
        simp only [Bool.not_true, Br_false]
        refine Br_dec (fun h => by omega) fun _ => Ld_sl (s := x.g.ps) ((h.run.1.cell 18).trans rfl) (d_part h rfl hj fun a' _ ha2 => Ld_sl (s := x.es[j].sl) ha2 (hlast _ ?_))
        rw [Bool.true_or, Bool.and_true, ← decide_not]
        exact decide_eq_decide.2 (by omega)
      | false =>
        rw [hw] at hlast
        simp only [Bool.not_false, Br_true]
        cases put with
        | true => exact hlast _ (by simp)
        | false =>
          cases hr : decide (a / 8 ∈ x.g.s.l 2) with
          | false =>
            rw [hr] at hlast
            exact hlast _ (by simp)
          | true =>
            rw [hr] at hlast
            simp only [Bool.not_true, Br_false]
            refine Br_dec (fun h => by omega) fun _ => Ld_sl (s := x.g.ps) ((h.run.1.cell 18).trans rfl) (d_part h rfl hj fun a' _ ha2 => Ld_sl (s := x.es[j].sl) ha2 (hlast _ ?_))
            rw [Bool.not_false, Bool.true_and, Bool.or_true, Bool.and_true, ← decide_not]
            exact decide_eq_decide.2 (by omega)
    · rintro j' _ ⟨rfl, rfl⟩
      rw [← hin]
      cases hf : fieldOk x.ms.vals a (if put = true then x.g.s.l 3 else x.g.s.l 2 ++ x.g.s.l 3) with
      | true =>
        have := hin
        rw [hf] at this
        have hlt : decide (a % 8 < (x.es[j].vals.length : Int)) = true := by
          cases hh : decide (a % 8 < (x.es[j].vals.length : Int)) with
          | true => rfl
          | false => rw [hh] at this; simp at this
        exact h1 j hj hf (by omega) hkd (of_decide_eq_true hlt) hlo hput
      | false => exact h0 hf
  · have hf : fieldOk x.ms.vals a (if put = true then x.g.s.l 3 else x.g.s.l 2 ++ x.g.s.l 3) = false := by
      unfold fieldOk
      dsimp only
      rw [hlo]; simp
    refine ⟨by omega, ?_⟩
    refine Jn.mk (fun j' H' => H = H' ∧ j' = true) (fun kk hkk => ?_) (by rintro j' _ ⟨rfl, rfl⟩; exact h0 hf)
    have e := hkk true H ⟨rfl, rfl⟩
    refine Br.mk (fun _ => Br.mk (fun _ => e) fun _ => Br.mk (fun _ => e) fun _ => Br_dec (fun _ => e) fun h => by omega) fun _ => Br_dec (fun _ => e) fun h => by omega
theorem DocR.sgn {H0 : Heap} {x : DG} (h : DocR H0 H x) : decide (0 ≤ x.top.f) = decide (x.low ≠ []) := by
  have hs := h.fsg
  rw [List.map_append, List.map_singleton] at hs
  cases hl : x.low with
  | nil => rw [hl] at hs; simpa using hs
  | cons a r =>
    rw [hl, List.length_cons, List.replicate_succ', ← List.cons_append] at hs
    have := (List.append_inj' hs rfl).2
    simp only [List.cons.injEq, and_true] at this
    rw [this]; rfl
theorem s_raccess {H0 : Heap} {x : DG} {fs : List Rou} {ins : List (Int × Int × Int)} (h : DocR H0 H x) (hc : CtxR H0 x.g.pF x.g.s x.g.inS fs ins) (hl : x.es.length ≤ 2 ^ 60) {i : Ins} (hA : I64 i.2) {k : Bool → Heap → Prop} (hk : ∀ H', Ext H H' → k (access (dmpOf x.g fs) x.ms i) H') :
    CallT Pg f_R_run_access [.pointer (some (adr x.b)), .pointer (some (adr x.top.p)), .agg #[.int .i64 i.1, .int .i64 i.2]] (.one (.c .bool)) H k := by
  obtain ⟨op, A⟩ := i
  dsimp only at hA ⊢
  have hA' := hA
  unfold I64 at hA'
  refine c_R_run_access _ _ (op, A) ?_
  unfold v_R_run_access
  refine Nw_row (vs := [.int .i64 op, .int .i64 A]) fun b1 H1 hb1 hE1 hz1 hr1 => ?_
  have h1 := h.ext hE1
  have hk := hk H1 hE1
  have co : hcell H1 (adr b1) = some (.int .i64 op) := (hr1.cell 0).trans rfl
  have cA : hcell H1 ⟨b1, 1, none⟩ = some (.int .i64 A) := (hr1.cell 1).trans rfl
  simp only [NilCk_some, adr_add]
  unfold access at hk
  dsimp only at hk
  have hsg := h1.sgn
  have cf : hcell H1 (adr x.top.p) = some (.int .i64 x.top.f) := (h1.topR.row.cell 0).trans rfl
  have hlow : x.ms.low ≠ [] ↔ x.low ≠ [] := by simp
  refine Jn.mk (fun j H' => H1 = H' ∧ j = decide (x.ms.low ≠ [] ∧ outerB op = true)) (fun kk hkk => ?_) ?_
  · refine Ld_int (n := x.top.f) cf (Br_dec (fun hf => Ld_int co (s_inside (hkk _ _ ⟨rfl, ?_⟩))) fun hf => hkk _ _ ⟨rfl, ?_⟩)
    · have : x.low ≠ [] := of_decide_eq_true (hsg.symm.trans (decide_eq_true hf))
      cases ho : outerB op
      · exact (decide_eq_false fun h => by simp at h).symm
      · exact (decide_eq_true ⟨hlow.2 this, rfl⟩).symm
    · have : ¬ x.low ≠ [] := of_decide_eq_false (hsg.symm.trans (decide_eq_false hf))
      exact (decide_eq_false fun h => this (hlow.1 h.1)).symm
  rintro j _ ⟨rfl, rfl⟩
  refine Br_dec (fun h => by rwa [if_pos h] at hk) fun hno => ?_
  rw [if_neg hno] at hk
  refine Ld_int co ?_
  have j2 : ∀ (a b : Int) {kk : Bool → Heap → Prop}, kk (decide (op = a ∨ op = b)) H1 → Jn (σ := Bool) (fun kk1 => Br (op == a) (kk1 true H1) (kk1 (op == b) H1)) kk := fun a b kk hkk => by
    refine Jn_in ?_
    refine Br.mk (fun h => ?_) fun h => ?_
    · rwa [decide_eq_true (.inl (beqI h))] at hkk
    · have h := bneI h
      have e : (op == b) = decide (op = a ∨ op = b) := by rw [trueq]; exact decide_eq_decide.2 (by omega)
      rw [e]; exact hkk
  refine (j2 2 3 (Br_dec (fun ho => ?_) fun h23 => ?_))
  · have hk : k (decide (0 ≤ A ∧ A < (x.top.loc.length : Int))) H1 := by rcases ho with rfl | rfl <;> exact hk
    have hll := h1.topR.loc.len
    rw [List.length_map] at hll
    refine Jn.mk (fun j H' => H1 = H' ∧ j = decide (0 ≤ A ∧ A < (x.top.loc.length : Int))) (fun kk hkk => Ld_int cA (Br_dec (fun h0 => Ld_int cA (Ld_sl (s := x.top.ls) ((h1.topR.row.cell 2).trans rfl) (hkk _ _ ⟨rfl, decide_eq_decide.2 (by omega)⟩))) fun h0 => hkk _ _ ⟨rfl, (decide_eq_false (by omega)).symm⟩)) (by rintro j _ ⟨rfl, rfl⟩; exact hk)
  refine (j2 4 5 (Br_dec (fun ho => ?_) fun h45 => ?_))
  · refine Ld_int cA (Ld_int co ?_)
    rcases ho with rfl | rfl
    · have hk : k (fieldOk x.ms.vals A (x.g.s.l 2 ++ x.g.s.l 3)) H1 := hk
      refine s_field (put := false) h1 hc hl hA (fun hf => ?_) fun j hj hf _ _ _ _ _ => ?_
      · rw [show (if false = true then x.g.s.l 3 else x.g.s.l 2 ++ x.g.s.l 3) = x.g.s.l 2 ++ x.g.s.l 3 from rfl] at hf
        rwa [hf] at hk
      · rw [show (if false = true then x.g.s.l 3 else x.g.s.l 2 ++ x.g.s.l 3) = x.g.s.l 2 ++ x.g.s.l 3 from rfl] at hf
        rwa [hf] at hk
    · have hk : k (fieldOk x.ms.vals A (x.g.s.l 3)) H1 := hk
      refine s_field (put := true) h1 hc hl hA (fun hf => ?_) fun j hj hf _ _ _ _ _ => ?_
      · rw [if_pos rfl] at hf
        rwa [hf] at hk
      · rw [if_pos rfl] at hf
        rwa [hf] at hk
  refine Br.mk (fun ho => ?_) fun h21 => ?_
  · rw [beqI ho] at hk
    have hk : k (decide (0 ≤ A ∧ A < ((fs.map fnOf).length : Int) ∧ (x.low.map DP.act).length + 1 ≤ 16)) H1 := hk
    rw [List.length_map, List.length_map] at hk
    have hll := h1.lv.1.len
    have hfl := hc.fn.len
    simp only [List.length_map, List.length_append, List.length_singleton] at hll
    refine Jn.mk (fun j H' => H1 = H' ∧ j = decide (0 ≤ A ∧ A < (fs.length : Int) ∧ x.low.length + 1 ≤ 16)) (fun kk hkk => Ld_int cA (Br_dec (fun h0 => Ld_int cA (Ld_sl (s := x.g.pF) ((h1.run.1.cell 1).trans rfl) (Br_dec (fun hlt => Ld_sl (s := x.g.ls) ((h1.run.1.cell 19).trans rfl) (hkk _ _ ⟨rfl, decide_eq_decide.2 (by omega)⟩)) fun hlt => hkk _ _ ⟨rfl, (decide_eq_false (by omega)).symm⟩))) fun h0 => hkk _ _ ⟨rfl, (decide_eq_false (by omega)).symm⟩)) (by rintro j _ ⟨rfl, rfl⟩; exact hk)
  have h21 := bneI h21
  refine Br.mk (fun ho => ?_) fun h22 => ?_
  · rw [beqI ho] at hk
    have hk : k (decide (x.ms.low ≠ [])) H1 := hk
    have e : decide (x.ms.low ≠ []) = decide (0 ≤ x.top.f) := by rw [hsg]; exact decide_eq_decide.2 hlow
    rw [e] at hk
    exact Ld_int (n := x.top.f) cf hk
  have h22 := bneI h22
  refine (j2 26 28 (Br_dec (fun ho => ?_) fun h26 => ?_))
  · have hkl := h1.kv.1.len
    rw [flat_len ptV_len] at hkl
    have hd : 0 ≤ A → IntKind.wrap .i64 (A.tdiv 8) = A / 8 := fun h0 => tdiv8 h0 hA
    have key : k (decide (8 ≤ A ∧ A / 8 ≤ 12 ∧ (op = 28 ∨ x.kp.length < 12))) H1 := by
      rcases ho with rfl | rfl
      · have hk : k (decide (0 ≤ A) && isKindB (A / 8) && decide ((x.kp.map PtP.pt).length < 12)) H1 := hk
        have e : (decide (0 ≤ A) && isKindB (A / 8) && decide ((x.kp.map PtP.pt).length < 12)) = decide (8 ≤ A ∧ A / 8 ≤ 12 ∧ ((26 : Int) = 28 ∨ x.kp.length < 12)) := by
          unfold isKindB
          rw [Bool.eq_iff_iff, List.length_map]
          simp only [Bool.and_eq_true, decide_eq_true_eq]
          omega
        rwa [e] at hk
      · have hk : k (decide (0 ≤ A) && isKindB (A / 8)) H1 := hk
        have e : (decide (0 ≤ A) && isKindB (A / 8)) = decide (8 ≤ A ∧ A / 8 ≤ 12 ∧ ((28 : Int) = 28 ∨ x.kp.length < 12)) := by
          unfold isKindB
          rw [Bool.eq_iff_iff]
          simp only [Bool.and_eq_true, decide_eq_true_eq, true_or, and_true]
          omega
        rwa [e] at hk
    refine Jn.mk (fun j H' => H1 = H' ∧ j = decide (8 ≤ A ∧ A / 8 ≤ 12 ∧ (op = 28 ∨ x.kp.length < 12))) (fun kk hkk => Ld_int cA (Br_dec (fun h0 => Ld_int cA ⟨by omega, ?_⟩) fun h0 => hkk _ _ ⟨rfl, (decide_eq_false (by omega)).symm⟩)) (by rintro j _ ⟨rfl, rfl⟩; exact key)
    rw [hd (by omega)]
    refine Br_dec (fun h12 => Ld_int co (Br.mk (fun h28 => hkk _ _ ⟨rfl, (decide_eq_true ⟨by omega, by omega, .inl (beqI h28)⟩).symm⟩) fun h28 => ?_)) fun h12 => hkk _ _ ⟨rfl, (decide_eq_false (by omega)).symm⟩
    have h28 := bneI h28
    exact Ld_sl (s := x.g.ks) ((h1.run.1.cell 22).trans rfl) (hkk _ _ ⟨rfl, decide_eq_decide.2 (by omega)⟩)
  refine (j2 29 35 (Br_dec (fun ho => ?_) fun h29 => ?_))
  · have hk : k (isKindB A) H1 := by rcases ho with rfl | rfl <;> exact hk
    unfold isKindB at hk
    exact Jn.mk (fun j H' => H1 = H' ∧ j = decide (1 ≤ A ∧ A ≤ 12)) (fun kk hkk => Ld_int cA (Br_dec (fun h0 => Ld_int cA (hkk _ _ ⟨rfl, decide_eq_decide.2 (by omega)⟩)) fun h0 => hkk _ _ ⟨rfl, (decide_eq_false (by omega)).symm⟩)) (by rintro j _ ⟨rfl, rfl⟩; exact hk)
  rwa [accessM_other (by omega)] at hk
end
section
open Hc Hc.Vf Hc.Mc Hc.Dice
variable {H : Heap}
noncomputable def doesD (P : MP) (E : En) (m : Ms) (l : List Int) (i : Ins) : Int × Ms :=
  if isBin i.1 then (0, m.push (binI i.1.toNat l[0]! l[1]!)) else if isUn i.1 then (0, m.push (unI i.1.toNat l[0]!)) else act P E m m l i.1.toNat i.2
theorem act_cut {P : MP} {E : En} {m : Ms} {t : Nat} {l : List Int} {op : Nat} {A : Int} : act P E (cut m t) (cut m t) l op A = act P E m (cut m t) l op A := by
  unfold act
  split <;> rfl
theorem does_doesD {P : MP} {E : En} {m : Ms} {i : Ins} : does P E m i = doesD P E (cut m (takes P.ps i).toNat) (args m (takes P.ps i).toNat) i := by
  unfold does doesD
  dsimp only
  rw [act_cut]
theorem doesD_act {P : MP} {E : En} {m : Ms} {l : List Int} {op A : Int} (hb : isBin op = false) (hu : isUn op = false) : doesD P E m l (op, A) = act P E m m l op.toNat A := by
  unfold doesD
  dsimp only
  rw [if_neg (by rw [hb]; decide), if_neg (by rw [hu]; decide)]
theorem inp_snoc (l : List (Int × Int × Int)) (x : Int × Int × Int) (p q : Int) : inp (l ++ [x]) p q = if (x.1 == p && x.2.1 == q) = true then x.2.2 else inp l p q := by
  unfold inp
  rw [List.reverse_append, List.reverse_singleton, List.singleton_append, List.find?_cons]
  cases hh : (x.1 == p && x.2.1 == q) <;> simp
theorem vec_rdi {s : Sl} {vs : List Int} (h : Vec H T_int64 s (ints vs)) {i : Int} {j : Nat} (hi : i = j) (hj : j < vs.length) {k : Int → Prop} (hk : k vs[j]!) : IxA 1 s i fun a => Ld (.int .i64) a H k := by
  subst hi
  refine IxA_vec h (by omega) (by rw [List.length_map]; omega) fun a ha _ => Ld_int (n := vs[j]!) (ha.trans ?_) hk
  rw [Int.toNat_natCast, List.getElem?_map, List.getElem?_eq_getElem hj, getElem!_pos vs j hj]; rfl
theorem s_dinput {H0 : Heap} {x : DG} {fs : List Rou} {ins : List (Int × Int × Int)} (h : DocR H0 H x) (hc : CtxR H0 x.g.pF x.g.s x.g.inS fs ins) {l : Sl} {vs : List Int} (hl : Vec H T_int64 l (ints vs)) (hvl : vs.length = 2) {k : Int → Heap → Prop}
    (hk : ∀ H', Ext H H' → k (inp ins vs[0]! vs[1]!) H') :
    LoopT (σ := Int × Int) (fun next1 s1 H4 =>
      Ld .sl ⟨x.b, 14, none⟩ H4 fun (x14 : Sl) =>
      Br (decide (s1.2 < (x14.len : Int))) (
        Jn (σ := Int) (fun kk1 =>
          Ld .sl ⟨x.b, 14, none⟩ H4 fun (x15 : Sl) =>
          IxA 3 x15 s1.2 fun a12 =>
          LdC [(.int .i64), (.int .i64), (.int .i64)] a12 H4 fun (c1 : Int × Int × Int) =>
          Nw #[.int .i64 0, .int .i64 0, .int .i64 0] T_api_Input H4 fun b2 H6 =>
          St ((adr b2).add 0) (.int .i64 c1.1) H6 fun H7 =>
          St ((adr b2).add 1) (.int .i64 c1.2.1) H7 fun H8 =>
          St ((adr b2).add 2) (.int .i64 c1.2.2) H8 fun H9 =>
          Jn (σ := Bool) (fun kk2 =>
            Ld (.int .i64) (adr b2) H9 fun (x16 : Int) =>
            IxA 1 l 0 fun a13 =>
            Ld (.int .i64) a13 H9 fun (x17 : Int) =>
            Br (x16 == x17) (
              Ld (.int .i64) ((adr b2).add 1) H9 fun (x18 : Int) =>
              IxA 1 l 1 fun a14 =>
              Ld (.int .i64) a14 H9 fun (x19 : Int) =>
              kk2 (x18 == x19) H9) (
              kk2 false H9)) fun j2 H10 =>
          Jn (σ := Int) (fun kk3 =>
            Br j2 (
              Ld (.int .i64) ((adr b2).add 2) H10 fun (x20 : Int) =>
              kk3 x20 H10) (
              kk3 s1.1 H10)) fun j3 H11 =>
          kk1 j3 H11) fun j1 H5 =>
        Lt (IntKind.wrap .i64 (s1.2 + 1)) fun t1 =>
        next1 (j1, t1) H5) (
        k s1.1 H4)) (0, 0) H := by
  have hil := hc.inL
  have hlen := hc.inp.len
  refine LoopT.mk (fun s H' => Ext H H' ∧ ∃ n : Nat, s.2 = n ∧ n ≤ ins.length ∧ s.1 = inp (ins.take n) vs[0]! vs[1]!) (fun s _ => ins.length - s.2.toNat) ⟨.refl _ _, 0, rfl, Nat.zero_le _, rfl⟩ ?_
  rintro next ⟨v, i⟩ H1 ⟨hE1, n, hi, hn, hv⟩ hnext
  dsimp only at hi hv ⊢
  subst hi hv
  have h1 := h.ext hE1
  have ci : hcell H1 ⟨x.b, 14, none⟩ = some (.slice x.g.inS.a x.g.inS.len x.g.inS.cap) := (h1.run.1.cell 14).trans rfl
  refine Ld_sl (s := x.g.inS) ci (Br_dec (fun hlt => ?_) fun hge => ?_)
  · have hn2 : n < ins.length := by omega
    refine Jn.mk (fun j H' => Ext H H' ∧ j = inp (ins.take (n + 1)) vs[0]! vs[1]!) (fun kk hkk => ?_) ?_
    · refine Ld_sl (s := x.g.inS) ci (IxA_rn' inV_len (hc.inp.ext h1.base) (by decide) rfl hn2 fun a ha => ?_)
      rw [getElem!_pos ins n hn2] at ha
      refine ⟨(ins[n].1, ins[n].2.1, ins[n].2.2), ha, ?_⟩
      refine Nw_row (vs := [.int .i64 0, .int .i64 0, .int .i64 0]) fun b2 H2 hb2 hE2 _ hr2 => ?_
      simp only [adr_add, mk_add]
      refine St_row hr2 (by simp) fun H3 hU3 _ hr3 => St_row hr3 (by simp) fun H4 hU4 _ hr4 => St_row hr4 (by simp) fun H5 hU5 _ hr5 => ?_
      have hE5 : Ext H H5 := extUpd (extUpd (extUpd (hE1.trans hE2 fun _ _ h => h) (by have := hE1.size; omega) hU3) (by have := hE1.size; omega) hU4) (by have := hE1.size; omega) hU5
      have hl5 := hl.ext hE5
      have e1 : inp (ins.take (n + 1)) vs[0]! vs[1]! = if (ins[n].1 == vs[0]! && ins[n].2.1 == vs[1]!) = true then ins[n].2.2 else inp (ins.take n) vs[0]! vs[1]! := by
        rw [List.take_add_one, List.getElem?_eq_getElem hn2]
        exact inp_snoc _ _ _ _
      refine Jn.mk (fun j H' => H5 = H' ∧ j = (ins[n].1 == vs[0]! && ins[n].2.1 == vs[1]!)) (fun kk2 hkk2 => ?_) ?_
      · refine Ld_int (n := ins[n].1) ((hr5.cell 0).trans rfl) (vec_rdi hl5 (j := 0) rfl (by omega) ?_)
        refine Br.mk (fun e => ?_) fun e => hkk2 _ _ ⟨rfl, by rw [e, Bool.false_and]⟩
        refine Ld_int (n := ins[n].2.1) ((hr5.cell 1).trans rfl) (vec_rdi hl5 (j := 1) rfl (by omega) (hkk2 _ _ ⟨rfl, by rw [e, Bool.true_and]⟩))
      · rintro j2 _ ⟨rfl, rfl⟩
        refine Jn_in (Br.mk (fun e => ?_) fun e => ?_)
        · refine Ld_int (n := ins[n].2.2) ((hr5.cell 2).trans rfl) (hkk _ _ ⟨hE5, ?_⟩)
          rw [e1, if_pos e]
        · refine hkk _ _ ⟨hE5, ?_⟩
          rw [e1, if_neg (by rw [e]; decide)]
    · rintro j H2 ⟨hE2, rfl⟩
      exact Lt.mk (u := ((n + 1 : Nat) : Int)) (by rw [wrap_i64_id] <;> omega) (hnext _ _ ⟨hE2, n + 1, rfl, hn2, rfl⟩ (by dsimp only; omega))
  · have hk := hk H1 hE1
    rwa [List.take_of_length_le (by omega)]
theorem s_answer {H0 : Heap} {x : DG} {fs : List Rou} {ins : List (Int × Int × Int)} (h : DocR H0 H x) (hc : CtxR H0 x.g.pF x.g.s x.g.inS fs ins) (hel : x.es.length ≤ 2 ^ 60) {op A : Int} (hop : 1 ≤ op ∧ op ≤ 39) (hA : I64 A)
    (hin : isBin op = true ∨ isUn op = true ∨ op = 1 ∨ op = 2 ∨ op = 4 ∨ (31 ≤ op ∧ op ≤ 35)) {l : Sl} {vs : List Int} (hl : Vec H T_int64 l (ints vs)) (hvl : (vs.length : Int) = takes (parms fs) (op, A)) (hv64 : All64 vs)
    (hacc : accessM (dmpOf x.g fs) x.ms op.toNat A = true) (hd : 0 ≤ x.d ∧ x.d < 18446744073709551616) {k : Int → Heap → Prop}
    (hk : ∀ H' v d, Upd (· = x.g.dp) H H' → DocR H0 H' { x with d := d } → doesD (dmpOf x.g fs) (denOf x.g ins) x.ms vs (op, A) = (0, { x.ms.push v with dice := d }) → k v H') :
    CallT Pg f_R_run_answer [.pointer (some (adr x.b)), .pointer (some (adr x.top.p)), .agg #[.int .i64 op, .int .i64 A], .slice l.a l.len l.cap] IntR H k := by
  refine c_R_run_answer _ _ (op, A) l ?_
  unfold v_R_run_answer
  refine Nw_row (vs := [.int .i64 op, .int .i64 A]) fun b1 H1 hb1 hE1 hz1 hr1 => ?_
  have h1 := h.ext hE1
  have hl1 := hl.ext hE1
  have hk0 : ∀ H' v, Ext H H' → doesD (dmpOf x.g fs) (denOf x.g ins) x.ms vs (op, A) = (0, x.ms.push v) → k v H' := fun H' v hE he => hk H' v x.d (hE.mono fun _ _ h => h.elim) (h.ext hE) he
  have co : hcell H1 (adr b1) = some (.int .i64 op) := (hr1.cell 0).trans rfl
  have cA : hcell H1 ⟨b1, 1, none⟩ = some (.int .i64 A) := (hr1.cell 1).trans rfl
  simp only [NilCk_some, adr_add, mk_add]
  have tk : ∀ n : Nat, op = n → (tbl[n]!).2.2 = 0 → (vs.length : Int) = (tbl[n]!).1 := fun n hn h0 => hvl.trans (takes_k hop (by dsimp only; omega) h0)
  refine Ld_int co (Br.mk (fun ho => ?_) fun n1 => ?_)
  · have ho := beqI ho
    subst ho
    exact Ld_int cA (hk0 _ _ hE1 (doesD_act rfl rfl))
  refine Br.mk (fun ho => ?_) fun n2 => ?_
  · have ho := beqI ho
    subst ho
    have hacc : decide (0 ≤ A ∧ A < (x.top.loc.length : Int)) = true := hacc
    have hacc := of_decide_eq_true hacc
    refine Ld_sl (s := x.top.ls) ((h1.topR.row.cell 2).trans rfl) (Ld_int cA (vec_rdi h1.topR.loc (j := A.toNat) (by omega) (by omega) (hk0 _ _ hE1 (doesD_act rfl rfl))))
  refine Br.mk (fun ho => ?_) fun n4 => ?_
  · have ho := beqI ho
    subst ho
    have hacc : fieldOk x.ms.vals A (x.g.s.l 2 ++ x.g.s.l 3) = true := hacc
    refine Ld_int cA (s_field (put := false) h1 hc hel hA (fun hf => ?_) fun j hj hf hA0 hkd hlt hlo _ => ?_)
    · rw [show (if false = true then x.g.s.l 3 else x.g.s.l 2 ++ x.g.s.l 3) = x.g.s.l 2 ++ x.g.s.l 3 from rfl, hacc] at hf
      cases hf
    · refine Ld_sl (s := x.g.ps) ((h1.run.1.cell 18).trans rfl) (d_part h1 rfl hj fun a' _ ha2 => Ld_sl (s := x.es[j].sl) ha2 ?_)
      refine vec_rdi (h1.esR _ (List.getElem_mem hj)).1 (j := (A % 8).toNat) (by dsimp only; omega) (by omega) (hk0 _ _ hE1 ?_)
      rw [doesD_act rfl rfl]
      show (0, x.ms.push ((lookV x.ms.vals (A / 8)).getD [])[(A % 8).toNat]!) = _
      have hlo : lookV x.ms.vals (A / 8) = some x.es[j].vals := hlo
      rw [hlo]; rfl
  refine Br.mk (fun ho => ?_) fun n31 => ?_
  · have ho := beqI ho
    subst ho
    have hvl := tk 31 rfl rfl
    have hvl : vs.length = 1 := by have : (vs.length : Int) = 1 := hvl; omega
    refine Ld_ptr (n := some (adr x.g.dp)) ((h1.run.1.cell 20).trans rfl) (vec_rdi hl1 (j := 0) rfl (by omega) ?_)
    have hdie : DieR H1 x.g.dp x.d := h1.dice.1
    refine s_ref_Below hdie hd.1 hd.2 (all_get hv64 0) fun H2 hU2 hd2 => ?_
    have hd2 : Row H2 x.g.dp T_hindcastref08_Dice [.int .u64 (BelowF x.d vs[0]!).2] := hd2
    refine hk H2 _ _ ((hE1.mono fun _ _ h => h.elim).trans hU2 fun _ _ e => e) (h1.fell hU2 hd2) ?_
    exact doesD_act rfl rfl
  refine Br.mk (fun ho => ?_) fun n32 => ?_
  · have ho := beqI ho
    subst ho
    exact Ld_int (n := x.g.fr) ((h1.run.1.cell 11).trans rfl) (hk0 _ _ hE1 (doesD_act rfl rfl))
  refine Br.mk (fun ho => ?_) fun n33 => ?_
  · have ho := beqI ho
    subst ho
    exact Ld_int (n := x.g.ix) ((h1.run.1.cell 15).trans rfl) (hk0 _ _ hE1 (doesD_act rfl rfl))
  refine Br.mk (fun ho => ?_) fun n34 => ?_
  · have ho := beqI ho
    subst ho
    have hvl := tk 34 rfl rfl
    have hvl : vs.length = 2 := by have : (vs.length : Int) = 2 := hvl; omega
    exact s_dinput h1 hc hl1 hvl fun H2 hE2 => hk0 _ _ (hE1.trans hE2 fun _ _ h => h) (doesD_act rfl rfl)
  refine Br.mk (fun ho => ?_) fun n35 => ?_
  · have ho := beqI ho
    subst ho
    refine Ld_int cA (s_has h1 hel (fun j hj _ hlo _ => ?_) fun hlo _ => ?_)
    · refine s_rTruth (hk0 _ _ hE1 ?_)
      rw [doesD_act rfl rfl]
      show (0, x.ms.push (truthI (lookV x.ms.vals A).isSome)) = _
      have hlo : lookV x.ms.vals A = some x.es[j].vals := hlo
      rw [hlo, decide_eq_true (show (j : Int) ≥ 0 by omega)]; rfl
    · refine s_rTruth (hk0 _ _ hE1 ?_)
      rw [doesD_act rfl rfl]
      show (0, x.ms.push (truthI (lookV x.ms.vals A).isSome)) = _
      have hlo : lookV x.ms.vals A = none := hlo
      rw [hlo]; rfl
  have n1 := bneI n1; have n2 := bneI n2; have n4 := bneI n4; have n31 := bneI n31; have n32 := bneI n32; have n33 := bneI n33; have n34 := bneI n34; have n35 := bneI n35
  have hll := hl1.len
  rw [List.length_map] at hll
  rcases hin with hb | hu | ho
  · have ht := (takes_bin (ps := parms fs) (i := (op, A)) hop hb).1
    refine Br.mk (fun e => absurd (beqI e) (by omega)) fun _ => ?_
    refine Ld_int co (vec_rdi hl1 (j := 0) rfl (by omega) (vec_rdi hl1 (j := 1) rfl (by omega) (s_rTwo hb (all_get hv64 0) (all_get hv64 1) (hk0 _ _ hE1 ?_))))
    unfold doesD
    dsimp only
    rw [if_pos hb]
  · have ht := (takes_un (ps := parms fs) (i := (op, A)) hop hu).1
    refine Br.mk (fun _ => ?_) fun e => absurd (bneI e) (by omega)
    refine Ld_int co (vec_rdi hl1 (j := 0) rfl (by omega) (s_rOne hu (hk0 _ _ hE1 ?_)))
    unfold doesD
    dsimp only
    rw [if_neg ?_, if_pos hu]
    unfold isUn at hu
    simp only [List.contains_cons, List.contains_nil, Bool.or_false, Bool.or_eq_true, beq_iff_eq] at hu
    unfold isBin
    simp only [List.contains_cons, List.contains_nil, Bool.or_false, Bool.or_eq_true, beq_iff_eq]
    omega
  · omega
end
section
open Hc Hc.Vf Hc.Mc Hc.Dice
variable {H : Heap}
theorem s_locals {r : Rou} {ps : Sl} {l : List Int} (hv : rdL H ps.a (ints l)) (hpl : ps.len = l.length) (hl : l.length ≤ 2 ^ 40) {k : Sl → Heap → Prop}
    (hk : ∀ H' s, Ext H H' → Vec H' T_int64 s (ints (locals (fnOf r) l)) → (∀ b, s.a = some (adr b) → H.size ≤ b) → k s H') :
    CallT Pg f_R_locals [.agg #[.string r.name, .int .i64 r.params, .int .i64 r.locals, .slice r.sl.a r.sl.len r.sl.cap], .slice ps.a ps.len ps.cap] (.one (.c .sl)) H k := by
  refine c_R_locals (r.name, r.params, r.locals, r.sl) _ ?_
  unfold v_R_locals
  refine Nw_row (vs := rouV r) fun b1 H1 hb1 hE1 hz1 hr1 => ?_
  simp only [adr_add]
  refine Ld_int (n := r.locals) ((hr1.cell 2).trans rfl) ?_
  refine Jn.mk (fun j H' => H1 = H' ∧ j = max r.locals 0) (fun kk hkk => Br_dec (fun h => hkk _ _ ⟨rfl, by omega⟩) fun h => hkk _ _ ⟨rfl, by omega⟩) ?_
  rintro j1 _ ⟨rfl, rfl⟩
  refine Jn.mk (fun j H' => H1 = H' ∧ j = ((min (max r.locals 0) 32).toNat : Nat)) (fun kk hkk => Br_dec (fun h => hkk _ _ ⟨rfl, by omega⟩) fun h => hkk _ _ ⟨rfl, by omega⟩) ?_
  rintro j2 _ ⟨rfl, rfl⟩
  refine App_vec2 (ws := ints l) (Vec.nil _ _) (rdL_ext hE1 hv) (by simp [hpl]) (ints_one _) (by decide) (by simp; omega) fun s2 H2 hv2 hU2 ha2 hz2 => ?_
  have hE2 : Ext H H2 := hE1.trans hU2 fun b _ e => by cases e.1
  have hs2 : ∀ b, s2.a = some (adr b) → H.size ≤ b := fun b hb => by
    rcases ha2 with e | e
    · rw [e.1] at hb; cases hb
    · rw [e] at hb; cases hb; exact hE1.size
  generalize hN : (min (max r.locals 0) 32).toNat = N at *
  refine LoopT.mk (fun s H' => Ext H H' ∧ (∀ b, s.a = some (adr b) → H.size ≤ b) ∧ ∃ n : Nat, Vec H' T_int64 s (ints (l ++ List.replicate n 0)) ∧ (n = 0 ∨ l.length + n ≤ N)) (fun s _ => N - s.len) ⟨hE2, hs2, 0, by simpa using hv2, .inl rfl⟩ ?_
  rintro next s H3 ⟨hE3, hs3, n, hv3, hn⟩ hnext
  have hlen := hv3.len
  simp only [List.length_map, List.length_append, List.length_replicate] at hlen
  refine Br_dec (fun hlt => ?_) fun hge => ?_
  · refine Nw_row (vs := [.int .i64 0]) fun b4 H4 hb4 hE4 _ hr4 => ?_
    have hE04 := hE3.trans hE4 fun _ _ h => h
    refine App_vec2 (ws := ints [0]) (hv3.ext hE4) hr4.rd_all rfl (ints_one _) (by decide) (by simp; omega) fun s5 H5 hv5 hU5 ha5 hz5 => ?_
    refine hnext s5 H5 ⟨hE04.trans hU5 fun b hb e => by have := hs3 b e.1; omega, fun b hb => ?_, n + 1, ?_, .inr (by omega)⟩ (by
      have := hv5.len
      simp only [List.length_map, List.length_append, List.length_replicate, List.length_singleton] at this
      omega)
    · rcases ha5 with e | e
      · rw [e.1] at hb; exact hs3 b hb
      · rw [e] at hb; cases hb; exact hE04.size
    · rw [List.replicate_succ', ← List.append_assoc]
      simpa [ints] using hv5
  · have e : locals (fnOf r) l = l ++ List.replicate n 0 := by
      unfold locals
      dsimp only
      rw [hN]
      congr 2
      omega
    exact hk H3 s hE3 (by rw [e]; exact hv3) hs3
theorem risN_perm : ∀ (n : Nat) (l : List PtP), (∀ p ∈ l, 0 ≤ p.kind ∧ p.kind < n) → (risN PtP.kind n l).Perm l := by
  intro n
  induction n with
  | zero => intro l h; cases l with
    | nil => exact .refl _
    | cons p l => have := h p (by simp); omega
  | succ n ih =>
    intro l h
    rw [risN_succ]
    have h1 : risN PtP.kind n l = risN PtP.kind n (l.filter fun p => !(p.kind == (n : Int))) := by
      unfold risN
      have : ∀ k ∈ List.range n, (l.filter fun p => p.kind == (k : Int)) = (l.filter fun p => !(p.kind == (n : Int))).filter fun p => p.kind == (k : Int) := by
        intro k hk
        rw [List.filter_filter]
        refine List.filter_congr fun p _ => ?_
        by_cases e : p.kind = (k : Int)
        · have := List.mem_range.1 hk
          have h2 : (p.kind == (n : Int)) = false := beq_eq_false_iff_ne.2 (by omega)
          rw [h2]; simp
        · have : (p.kind == (k : Int)) = false := beq_eq_false_iff_ne.2 e
          rw [this]; simp
      rw [List.flatMap_def, List.flatMap_def, List.map_congr_left this]
    rw [h1]
    refine ((ih (l.filter fun p => !(p.kind == (n : Int))) fun p hp => ?_).append (.refl _)).trans ?_
    · obtain ⟨hp, hq⟩ := List.mem_filter.1 hp
      have := h p hp
      have hq : p.kind ≠ n := by simpa using hq
      omega
    · exact List.perm_append_comm.trans (List.filter_append_perm (fun p : PtP => p.kind == (n : Int)) l)
theorem ptV_one (p : PtP) : ∀ w ∈ ptV p, w.oneCell' = true := fun w hw => by
  simp only [ptV, List.mem_cons, List.not_mem_nil, or_false] at hw
  rcases hw with rfl | rfl <;> rfl
theorem s_rising {s : Sl} {kp : List PtP} (h : VecN H T_api_Part 2 s (kp.flatMap ptV)) (hl : kp.length ≤ 12) (hK : ∀ q ∈ kp, 1 ≤ q.kind ∧ q.kind ≤ 12) {k : Sl → Heap → Prop}
    (hk : ∀ H' r, Ext H H' → VecN H' T_api_Part 2 r ((risK PtP.kind kp).flatMap ptV) → (∀ b, r.a = some (adr b) → H.size ≤ b) → k r H') :
    CallT Pg f_R_rising [.slice s.a s.len s.cap] (.one (.c .sl)) H k := by
  refine c_R_rising _ ?_
  unfold v_R_rising
  have hlen := h.len
  rw [flat_len ptV_len] at hlen
  have hpl : ∀ n : Nat, (risN PtP.kind n kp).length ≤ 13 * 12 := fun n => by
    have key : ∀ n : Nat, n ≤ 13 → (risN PtP.kind n kp).length ≤ n * 12 := by
      intro n
      induction n with
      | zero => intro _; simp [risN]
      | succ n ih =>
        intro hn
        rw [risN_succ, List.length_append]
        have := ih (by omega)
        have := List.length_filter_le (fun x : PtP => x.kind == (n : Int)) kp
        omega
    by_cases hn : n ≤ 13
    · have := key n hn; omega
    · have e : ∀ m : Nat, risN PtP.kind (13 + m) kp = risN PtP.kind 13 kp := by
        intro m
        induction m with
        | zero => rfl
        | succ m ih =>
          rw [← Nat.add_assoc, risN_succ, ih, List.filter_eq_nil_iff.2, List.append_nil]
          intro q hq
          have := hK q hq
          simp only [beq_iff_eq]
          omega
      obtain ⟨m, rfl⟩ : ∃ m, n = 13 + m := ⟨n - 13, by omega⟩
      rw [e]; exact key 13 (by omega)
  refine LoopT.mk (fun t H' => Ext H H' ∧ (∀ b, t.1.a = some (adr b) → H.size ≤ b) ∧ ∃ n : Nat, t.2 = n ∧ n ≤ 13 ∧ VecN H' T_api_Part 2 t.1 ((risN PtP.kind n kp).flatMap ptV)) (fun t _ => 13 - t.2.toNat)
    ⟨.refl _ _, (fun b hb => by cases hb), 1, rfl, by omega, ?_⟩ ?_
  · have : risN PtP.kind 1 kp = [] := by
      rw [show (1 : Nat) = 0 + 1 from rfl, risN_succ, List.filter_eq_nil_iff.2]
      · rfl
      · intro q hq
        have := hK q hq
        simp only [beq_iff_eq]
        omega
    rw [this]; exact VecN.nil _ _ _
  rintro next ⟨t, i⟩ H1 ⟨hE1, ht1, n, hi, hn, hv1⟩ hnext
  dsimp only at hi hv1 ht1 ⊢
  subst hi
  refine Br_dec (fun hle => ?_) fun hgt => ?_
  · refine LoopT.mk (fun u H' => Ext H H' ∧ (∀ b, u.1.a = some (adr b) → H.size ≤ b) ∧ ∃ m : Nat, u.2 = m ∧ m ≤ kp.length ∧ VecN H' T_api_Part 2 u.1 ((risN PtP.kind n kp ++ (kp.take m).filter fun x => x.kind == (n : Int)).flatMap ptV)) (fun u _ => kp.length - u.2.toNat)
      ⟨hE1, ht1, 0, rfl, by omega, by simpa using hv1⟩ ?_
    rintro next2 ⟨u, j⟩ H2 ⟨hE2, hu2, m, hj, hm, hv2⟩ hnext2
    dsimp only at hj hv2 hu2 ⊢
    subst hj
    refine Br_dec (fun hlt => ?_) fun hge => ?_
    · have hm2 : m < kp.length := by omega
      have hs2 := VecN.rn ptV_len (by decide) (h.ext hE2)
      have e1 : (kp.take (m + 1)).filter (fun x => x.kind == (n : Int)) = (kp.take m).filter (fun x => x.kind == (n : Int)) ++ if kp[m].kind = (n : Int) then [kp[m]] else [] := by
        rw [List.take_add_one, List.getElem?_eq_getElem hm2, List.filter_append]
        congr 1
        simp only [Option.toList_some, List.filter_cons, List.filter_nil]
        by_cases e : kp[m].kind = (n : Int)
        · rw [if_pos e, if_pos (by simpa using e)]
        · rw [if_neg e, if_neg (by simpa using e)]
      refine Jn.mk (fun w H' => Ext H H' ∧ (∀ b, w.a = some (adr b) → H.size ≤ b) ∧ VecN H' T_api_Part 2 w ((risN PtP.kind n kp ++ (kp.take (m + 1)).filter fun x => x.kind == (n : Int)).flatMap ptV)) (fun kk hkk => ?_) ?_
      · refine IxA_rn' ptV_len hs2 (by decide) rfl hm2 fun a ha => ?_
        rw [getElem!_pos kp m hm2] at ha
        refine Ld_int (n := kp[m].kind) ha.1 (Jn_in (Br.mk (fun e => ?_) fun e => ?_))
        · have e := beqI e
          refine IxA_rn' ptV_len hs2 (by decide) rfl hm2 fun a' ha' => ?_
          rw [getElem!_pos kp m hm2] at ha'
          refine ⟨(kp[m].kind, kp[m].sl), ha', ?_⟩
          refine Nw_row (vs := ptV kp[m]) fun b3 H3 hb3 hE3 _ hr3 => ?_
          have hE03 := hE2.trans hE3 fun _ _ h => h
          have hul := hv2.len
          rw [flat_len ptV_len, List.length_append] at hul
          have := hpl n
          have := List.length_filter_le (fun x : PtP => x.kind == (n : Int)) (kp.take m)
          have := List.length_take_le m kp
          refine App_vecN (ws := ptV kp[m]) rfl (by decide) (hv2.ext hE3) hr3.rd_all rfl (ptV_one _) (by decide) (by dsimp only; omega) fun w H4 hv4 hl4 hU4 ha4 => hkk _ _ ⟨hE03.trans hU4 fun b hb e => by have := hu2 b e.1; omega, fun b hb => ?_, ?_⟩
          · rcases ha4 with e | e
            · rw [e.1] at hb; exact hu2 b hb
            · rw [e] at hb; cases hb; exact hE03.size
          · rw [e1, if_pos e, ← List.append_assoc, List.flatMap_append]
            simpa using hv4
        · have e := bneI e
          refine hkk _ _ ⟨hE2, hu2, ?_⟩
          rw [e1, if_neg e, List.append_nil]; exact hv2
      · rintro w H3 ⟨hE3, hw3, hv3⟩
        exact Lt.mk (u := ((m + 1 : Nat) : Int)) (by rw [wrap_i64_id] <;> omega) (hnext2 _ _ ⟨hE3, hw3, m + 1, rfl, hm2, hv3⟩ (by dsimp only; omega))
    · have hm2 : m = kp.length := by omega
      subst hm2
      rw [List.take_length, ← risN_succ] at hv2
      exact Lt.mk (u := ((n + 1 : Nat) : Int)) (by rw [wrap_i64_id] <;> omega) (hnext _ _ ⟨hE2, hu2, n + 1, rfl, by omega, hv2⟩ (by dsimp only; omega))
  · have : n = 13 := by omega
    subst this
    exact hk H1 t hE1 hv1 ht1
theorem d_cell {H0 : Heap} {x : DG} (h : DocR H0 H x) {i : Nat} (hi : i < 5) {v : Value} {k : Heap → Prop} {t : DP} (ht : dactV t = (dactV x.top).set i v) (hp : t.p = x.top.p) (hr : t.r = x.top.r) (hf : t.f = x.top.f) (hl : t.ls = x.top.ls) (hs : t.ss = x.top.ss) (hloc : t.loc = x.top.loc) (hstk : t.stk = x.top.stk)
    (hk : ∀ H' c, Upd (· = x.top.p) H H' → H'.size = H.size → DocR H0 H' { x with top := t, c := c } → k H') : St ⟨x.top.p, i, none⟩ v H k := by
  refine St_row h.topR.row hi fun H1 hU hz hr1 => hk H1 _ hU hz (h.top (d := fun _ => 999) (tch_row hU (h.topI _ (.inl rfl)) rfl) ⟨?_, ?_, ?_, ?_⟩ hp hr hf fun b hb => .inl ?_)
  · rw [hp, ht]; exact hr1
  · rw [hl, hloc]; exact h.topR.loc.upd hU fun b hb e => h.topR.neL hb e
  · rw [hs, hstk]; exact h.topR.stk.upd hU fun b hb e => h.topR.neS hb e
  · rw [hl, hs]; exact h.topR.ap
  · unfold DActB at hb ⊢
    rw [hp, hl, hs] at hb; exact hb
theorem d_store {H0 : Heap} {x : DG} (h : DocR H0 H x) {A w : Int} (hA : 0 ≤ A ∧ A < (x.top.loc.length : Int)) {k : Heap → Prop} (hk : ∀ H' c, DocR H0 H' { x with top := { x.top with loc := x.top.loc.set A.toNat w }, c := c } → k H') :
    IxA 1 x.top.ls A fun a => St a (.int .i64 w) H k := by
  refine vec_st h.topR.loc (j := A.toNat) (by omega) (by rw [List.length_map]; omega) fun H' b hb hU hv => hk H' _ (h.top (t := { x.top with loc := x.top.loc.set A.toNat w }) (d := fun _ => 999) (tch_row hU (h.topI _ (.inr (.inl hb))) rfl) ⟨?_, ?_, ?_, h.topR.ap⟩ rfl rfl rfl fun b hb => .inl hb)
  · exact hU.row h.topR.row fun e => h.topR.neL hb e.symm
  · rw [ints_setI] at hv; exact hv
  · exact h.topR.stk.upd hU fun b' hb' e => h.topR.ap b hb (e ▸ hb')
theorem d_putf {H0 : Heap} {x : DG} (h : DocR H0 H x) {j : Nat} (hj : j < x.es.length) {i w : Int} (hi : 0 ≤ i ∧ i < (x.es[j].vals.length : Int)) {k : Heap → Prop} (hk : ∀ H', DocR H0 H' { x with es := x.es.set j { x.es[j] with vals := x.es[j].vals.set i.toNat w } } → k H') :
    IxA 1 x.es[j].sl i fun a => St a (.int .i64 w) H k := by
  refine vec_st (h.esR _ (List.getElem_mem hj)).1 (j := i.toNat) (by omega) (by rw [List.length_map]; omega) fun H' b hb hU hv => hk H' (h.put hj hb hU ?_)
  rw [ints_setI] at hv; exact hv
theorem d_push {H0 : Heap} {x : DG} (h : DocR H0 H x) (hb : x.top.stk.length ≤ 64) {v : Int} {S1 S2 : List (Addr × Value)} (hS1 : ∀ y ∈ S1, hcell H y.1 = some y.2) (hS2 : ∀ y ∈ S2, hcell H y.1 = some y.2 ∧ x.top.ss.a ≠ some (adr y.1.block)) {k : Heap → Prop}
    (hk : ∀ H' ss c, DocR H0 H' { x with top := { x.top with ss := ss, stk := x.top.stk ++ [v] }, c := c } → k H') :
    Nw #[.int .i64 v] T_int64 H fun b H1 => Stab S1 H1 <| App T_int64 1 8 #[.int .i64 0] x.top.ss ⟨some (adr b), 1, 1⟩ H1 fun l H2 => Stab S2 H2 <| St ⟨x.top.p, 3, none⟩ (.slice l.a l.len l.cap) H2 k := by
  refine Nw_row (vs := [.int .i64 v]) fun b1 H1 hb1 hE1 hz1 hr1 => Stab_all (fun y hy => hE1.cell (hS1 y hy) fun h => h) ?_
  have h1 := h.ext hE1
  have hx1 := h1.topR
  refine App_vec2 (ws := ints [v]) hx1.stk hr1.rd_all rfl (ints_one _) (by decide) (by simp; omega) fun s' H2 hv2 hU2 ha2 hz2 => Stab_all (fun y hy => hU2.cell (hE1.cell (hS2 y hy).1 fun h => h) fun e => (hS2 y hy).2 e.1) ?_
  have hfr : s'.a = x.top.ss.a ∨ ∃ b, s'.a = some (adr b) ∧ H1.size ≤ b := ha2.imp (fun e => e.1) fun e => ⟨_, e, Nat.le_refl _⟩
  have hrow2 := hU2.row hx1.row fun e => hx1.neS e.1 rfl
  refine St_row hrow2 (by simp) fun H3 hU3 hz3 hr3 => ?_
  have hlt := hx1.row.lt
  have hne : ∀ b, s'.a = some (adr b) → b ≠ x.top.p := fun b hb e => by
    rcases hfr with h | ⟨b', h, hlt'⟩
    · rw [h] at hb; exact hx1.neS hb e
    · rw [h] at hb; cases hb; omega
  refine hk H3 s' _ (h1.top (t := { x.top with ss := s', stk := x.top.stk ++ [v] }) (d := fun _ => x.low.length) (Tch.of ((hU2.mono fun b _ e => .inr e.1).trans hU3 fun _ _ e => .inl e : Upd (fun b => b = x.top.p ∨ x.top.ss.a = some (adr b)) H1 H3) fun b _ e => ?_) ⟨hr3, (hx1.loc.upd hU2 fun b hb e => hx1.ap b hb e.1).upd hU3 fun b hb e => hx1.neL hb e, ?_, fun b hb hb' => ?_⟩ rfl rfl rfl fun b hb => ?_)
  · have := h1.topI b (e.imp id fun e => .inr e)
    exact ⟨this.1, this.2⟩
  · have := hv2.upd hU3 fun b hb e => hne b hb e
    simpa [ints] using this
  · rcases hfr with h | ⟨b', h, hlt'⟩
    · rw [h] at hb'; exact hx1.ap b hb hb'
    · rw [h] at hb'; cases hb'; have := hx1.loc.lt hb; omega
  · rcases hb with rfl | hb | hb
    · exact .inl (.inl rfl)
    · exact .inl (.inr (.inl hb))
    · rcases hfr with e | ⟨b', e, hlt⟩
      · dsimp only at hb
        rw [e] at hb; exact .inl (.inr (.inr hb))
      · dsimp only at hb
        rw [e] at hb; cases hb
        exact .inr ⟨hlt, rfl⟩
theorem s_rstep {H0 : Heap} {x : DG} (h : DocR H0 H x) (hs : 0 ≤ x.g.st ∧ x.g.st ≤ 2000) {k : Int → Heap → Prop}
    (hk : ∀ H', Upd (· = x.b) H H' → DocR H0 H' { x with g := { x.g with st := x.g.st + 1, si := 0 } } → k (if x.g.st + 1 ≤ 2000 then 0 else 120) H') : CallT Pg f_R_run_step [.pointer (some (adr x.b))] IntR H k := by
  refine c_R_run_step _ ?_
  unfold v_R_run_step
  simp only [NilCk_some, adr_add, mk_add]
  refine Ld_int (n := x.g.st) ((h.run.1.cell 26).trans rfl) (Lt.mk (u := x.g.st + 1) (by rw [wrap_i64_id] <;> omega) ?_)
  refine St_row h.run.1 (by simp) fun H1 hU1 _ hr1 => St_row hr1 (by simp) fun H2 hU2 _ hr2 => ?_
  have hU : Upd (· = x.b) H H2 := hU1.trans hU2 fun _ _ e => e
  have h2 := hk H2 hU (h.num hU hr2)
  refine Ld_int (n := x.g.st + 1) ((hr2.cell 26).trans rfl) (Br_dec (fun hgt => ?_) fun hle => ?_)
  · rwa [if_neg (by omega)] at h2
  · rwa [if_pos (by omega)] at h2
end
end Go.Proofs.YtfpmgpblhhcpgaaGreat
