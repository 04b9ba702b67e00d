/-
  Machine: a run as it lies in memory, each block with its colour; what a touch leaves.
-/
import Derived.Test.YtfpmgpblhhcpgaaGreatSy
import Derived.Test.YtfpmgpblhhcpgaaGreatVRef
import Derived.Test.YtfpmgpblhhcpgaaGreatHcFun
import Derived.KernelRfl
import Derived.Test.YtfpmgpblhhcpgaaGreatProg
namespace Go.Proofs.YtfpmgpblhhcpgaaGreat
set_option linter.unusedVariables false
set_option linter.unusedSimpArgs false
open Go.Proofs.YtfpmgpblhhcpgaaGreat.Hc Go.Proofs.YtfpmgpblhhcpgaaGreat.Hc.Vf Go.Proofs.YtfpmgpblhhcpgaaGreat.Hc.Mc Go.Proofs.YtfpmgpblhhcpgaaGreat.Hc.Dice
set_option maxRecDepth 100000
variable {H : Heap}

/-- A part as it lies in memory. -/
structure PtP where
  kind : Int
  sl : Sl
  vals : List Int
abbrev PtP.pt (x : PtP) : Pt := ⟨x.kind, x.vals⟩
abbrev ptV (x : PtP) : List Value := [.int .i64 x.kind, slV x.sl]
structure CmP where
  op : Int
  e : Int × Int
  kind : Int
  vsl : Sl
  vals : List Int
  psl : Sl
  parts : List PtP
abbrev CmP.cm (x : CmP) : Cm := ⟨x.op, x.e, x.kind, x.vals, x.parts.map PtP.pt⟩
abbrev cmV (x : CmP) : List Value := [.int .i64 x.op, .int .i64 x.e.1, .int .i64 x.e.2, .int .i64 x.kind, slV x.vsl, slV x.psl]
abbrev evV (x : Ev) : List Value := [.int .i64 x.sys, .int .i64 x.e.1, .int .i64 x.e.2, .int .i64 x.code, .int .i64 x.val]
theorem ptV_len (x : PtP) : (ptV x).length = 2 := rfl
theorem cmV_len (x : CmP) : (cmV x).length = 6 := rfl
theorem evV_len (x : Ev) : (evV x).length = 5 := rfl
/-- The record of a run. -/
structure RunG where
  pS : Sl
  pF : Sl
  s : Sy
  n : Int
  fr : Int
  sd : Int
  en : Int
  inS : Sl
  ix : Int
  gn : Int
  rp : Sl
  mp : Nat
  ls : Sl
  ks : Sl
  cs : Sl
  es : Sl
  st : Int
  er : Int
  dp : Nat
  si : Int
  ov : Bool
abbrev runV (g : RunG) : List Value :=
  [slV g.pS, slV g.pF, slV (g.s.s 0), slV (g.s.s 1), slV (g.s.s 2), slV (g.s.s 3), .string g.s.rou.name, .int .i64 g.s.rou.params, .int .i64 g.s.rou.locals, slV g.s.rou.sl, .int .i64 g.n, .int .i64 g.fr, .int .i64 g.sd, .int .i64 g.en,
   slV g.inS, .int .i64 g.ix, .int .i64 g.gn, slV g.rp, .map (some g.mp), slV g.ls, slV g.ks, .slice none 0 0, slV g.cs, slV g.es, .int .i64 g.st, .int .i64 g.er, .pointer (some (adr g.dp)), .int .i64 g.si, .bool g.ov]
/-- All of it. -/
structure MG where
  c : Col
  b : Nat
  g : RunG
  low : List AP
  top : AP
  es : List PtP
  d : Int
  kp : List PtP
  cl : List CmP
  evs : List Ev
abbrev MG.ms (x : MG) : Ms := ⟨x.low.map AP.act, x.top.act, x.es.map PtP.pt, x.d, x.g.si, x.g.st, x.kp.map PtP.pt, x.cl.map CmP.cm, x.evs, x.g.ov⟩
abbrev ptrs (l : List AP) : List Value := l.map fun x => .pointer (some (adr x.p))
def mapEnts : Nat → List PtP → List MapEntry
  | _, [] => []
  | n, x :: r => { key := .int .i64 x.kind, val := slV x.sl, born := n } :: mapEnts (n + 1) r
abbrev cmSl (x : CmP) : List Sl := x.vsl :: x.parts.map PtP.sl
/-- The slices of numbers that go out. -/
abbrev outL (cl : List CmP) (kp : List PtP) : List Sl := cl.flatMap cmSl ++ kp.map PtP.sl
def ActI (c : Col) (lo j : Nat) (x : AP) : Prop := ∀ b, ActB x b → Is c lo j b
abbrev PtR (c : Col) (lo j : Nat) (H : Heap) (q : PtP) : Prop := VecC c lo j H T_int64 q.sl (ints q.vals)
structure CmR (c : Col) (lo : Nat) (H : Heap) (q : CmP) : Prop where
  vs : VecC c lo 101 H T_int64 q.vsl (ints q.vals)
  ps : VecNC c lo 207 H T_api_Part 2 q.psl (q.parts.flatMap ptV)
  pt : ∀ p ∈ q.parts, PtR c lo 101 H p
structure MacR (H0 H : Heap) (x : MG) : Prop where
  base : Ext H0 H
  run : RowC x.c H0.size 200 H x.b T_machine_run (runV x.g)
  lv : VecC x.c H0.size 201 H T_P_machine_activation x.g.ls (ptrs (x.low ++ [x.top]))
  lowR : ∀ i (h : i < x.low.length), ActR H x.low[i] ∧ ActI x.c H0.size i x.low[i]
  topR : ActR H x.top
  topI : ActI x.c H0.size x.low.length x.top
  codes : ∀ a ∈ x.low ++ [x.top], CodeR H0 a.r
  lowl : x.low.length ≤ 16
  dice : RowC x.c H0.size 205 H x.g.dp T_dice_Dice [.int .u64 x.d]
  map : H[x.g.mp]? = some (.map ⟨mapEnts 0 x.es⟩ x.es.length) ∧ Is x.c H0.size 206 x.g.mp
  esR : ∀ q ∈ x.es, PtR x.c H0.size 100 H q
  esA : x.es.Pairwise fun p q => Apart p.sl q.sl
  esK : (x.es.map PtP.kind).Nodup
  kv : VecNC x.c H0.size 202 H T_api_Part 2 x.g.ks (x.kp.flatMap ptV)
  kR : ∀ q ∈ x.kp, PtR x.c H0.size 101 H q
  cv : VecNC x.c H0.size 203 H T_api_Command 6 x.g.cs (x.cl.flatMap cmV)
  cR : ∀ q ∈ x.cl, CmR x.c H0.size H q
  outA : (outL x.cl x.kp).Pairwise Apart
  parA : (x.cl.map CmP.psl).Pairwise Apart
  ev : VecNC x.c H0.size 204 H T_api_Event 5 x.g.es (x.evs.flatMap evV)
theorem CmR.tch {c : Col} {lo : Nat} {S : Nat → Prop} {H H' : Heap} (h : Tch c lo S H H') (h1 : ¬ S 101) (h2 : ¬ S 207) {q : CmP} (hq : CmR c lo H q) : CmR c lo H' q :=
  ⟨hq.vs.tch h h1, hq.ps.tch h h2, fun p hp => (hq.pt p hp).tch h h1⟩
theorem CmR.agr {c c' : Col} {lo : Nat} {H : Heap} (h1 : Agr 101 H.size c c') (h2 : Agr 207 H.size c c') {q : CmP} (hq : CmR c lo H q) : CmR c' lo H q :=
  ⟨hq.vs.agr h1, hq.ps.agr h2, fun p hp => (hq.pt p hp).agr h1⟩
theorem ActI.agr {c c' : Col} {lo j : Nat} {H : Heap} (h : Agr j H.size c c') {x : AP} (hx : ActR H x) (hi : ActI c lo j x) : ActI c' lo j x := fun b hb => ⟨(hi b hb).1, h b (hx.lt hb) (hi b hb).2⟩
theorem ActR.tch {c : Col} {lo j : Nat} {S : Nat → Prop} {H H' : Heap} (h : Tch c lo S H H') (hj : ¬ S j) {x : AP} (hx : ActR H x) (hi : ActI c lo j x) : ActR H' x :=
  hx.upd h fun b hb e => hj ((hi b hb).2 ▸ e.2)
theorem map_tch {c : Col} {lo j : Nat} {S : Nat → Prop} {H H' : Heap} (h : Tch c lo S H H') (hj : ¬ S j) {r : Nat} {o : Obj} (hm : H[r]? = some o ∧ Is c lo j r) : H'[r]? = some o ∧ Is c lo j r :=
  ⟨h.keep hm.1 fun e => hj (hm.2.2 ▸ e.2), hm.2⟩
/-- What a touch of colours S leaves, with new colours c'. -/
structure Fr (H0 H' : Heap) (x : MG) (c' : Col) (S : Nat → Prop) : Prop where
  base : Ext H0 H'
  run : ¬ S 200 → RowC c' H0.size 200 H' x.b T_machine_run (runV x.g)
  lv : ¬ S 201 → VecC c' H0.size 201 H' T_P_machine_activation x.g.ls (ptrs (x.low ++ [x.top]))
  lowR : ∀ i (h : i < x.low.length), ¬ S i → ActR H' x.low[i] ∧ ActI c' H0.size i x.low[i]
  topR : ¬ S x.low.length → ActR H' x.top ∧ ActI c' H0.size x.low.length x.top
  dice : ¬ S 205 → RowC c' H0.size 205 H' x.g.dp T_dice_Dice [.int .u64 x.d]
  map : ¬ S 206 → H'[x.g.mp]? = some (.map ⟨mapEnts 0 x.es⟩ x.es.length) ∧ Is c' H0.size 206 x.g.mp
  esR : ¬ S 100 → ∀ q ∈ x.es, PtR c' H0.size 100 H' q
  kv : ¬ S 202 → VecNC c' H0.size 202 H' T_api_Part 2 x.g.ks (x.kp.flatMap ptV)
  kR : ¬ S 101 → ∀ q ∈ x.kp, PtR c' H0.size 101 H' q
  cv : ¬ S 203 → VecNC c' H0.size 203 H' T_api_Command 6 x.g.cs (x.cl.flatMap cmV)
  cR : ¬ S 101 → ¬ S 207 → ∀ q ∈ x.cl, CmR c' H0.size H' q
  ev : ¬ S 204 → VecNC c' H0.size 204 H' T_api_Event 5 x.g.es (x.evs.flatMap evV)
theorem MacR.fr {H0 H H' : Heap} {x : MG} (h : MacR H0 H x) {S : Nat → Prop} (ht : Tch x.c H0.size S H H') {c' : Col} (hA : ∀ j, ¬ S j → Agr j H.size x.c c') : Fr H0 H' x c' S where
  base := ht.ext h.base
  run := fun hj => h.run.mv ht hj (hA _ hj)
  lv := fun hj => h.lv.mv ht hj (hA _ hj)
  lowR := fun i hi hj => ⟨ActR.tch ht hj (h.lowR i hi).1 (h.lowR i hi).2, (h.lowR i hi).2.agr (hA _ hj) (h.lowR i hi).1⟩
  topR := fun hj => ⟨ActR.tch ht hj h.topR h.topI, h.topI.agr (hA _ hj) h.topR⟩
  dice := fun hj => h.dice.mv ht hj (hA _ hj)
  map := fun hj => ⟨(map_tch ht hj h.map).1, h.map.2.1, hA _ hj _ (lt_of_get h.map.1) h.map.2.2⟩
  esR := fun hj q hq => (h.esR q hq).mv ht hj (hA _ hj)
  kv := fun hj => h.kv.mv ht hj (hA _ hj)
  kR := fun hj q hq => (h.kR q hq).mv ht hj (hA _ hj)
  cv := fun hj => h.cv.mv ht hj (hA _ hj)
  cR := fun hj hj2 q hq => ⟨(h.cR q hq).vs.mv ht hj (hA _ hj), (h.cR q hq).ps.mv ht hj2 (hA _ hj2), fun p hp => ((h.cR q hq).pt p hp).mv ht hj (hA _ hj)⟩
  ev := fun hj => h.ev.mv ht hj (hA _ hj)
theorem dyeA (S : Nat → Prop) (n : Nat) (c d : Col) : ∀ j, ¬ S j → Agr j n c (dye n c d) := fun j _ => agr_dye j n c d
/-- The top's activation was turned, and nothing else. -/
theorem MacR.top {H0 H H' : Heap} {x : MG} (h : MacR H0 H x) {t : AP} (ht : Tch x.c H0.size (· = x.low.length) H H') (hr : ActR H' t) (hp : t.p = x.top.p) (hrou : t.r = x.top.r)
    {d : Col} (hb : ∀ b, ActB t b → ActB x.top b ∨ (H.size ≤ b ∧ d b = x.low.length)) : MacR H0 H' { x with top := t, c := dye H.size x.c d } := by
  have hl := h.lowl
  have f := h.fr ht (dyeA _ H.size x.c d)
  exact { h with
    base := f.base
    run := f.run (by omega)
    lv := by
      have := f.lv (by omega)
      simpa [ptrs, hp] using this
    lowR := fun i (hi : i < x.low.length) => f.lowR i hi (by omega)
    topR := hr
    topI := fun b hbb => by
      rcases hb b hbb with e | e
      · exact is_dye (h.topI b e) (h.topR.lt e)
      · exact is_new h.base.size e.1 e.2
    codes := fun a ha => by
      rcases List.mem_append.1 ha with ha | ha
      · exact h.codes a (List.mem_append_left _ ha)
      · rw [List.mem_singleton.1 ha, hrou]; exact h.codes _ (by simp)
    dice := f.dice (by omega)
    map := f.map (by omega)
    esR := f.esR (by omega)
    kv := f.kv (by omega)
    kR := f.kR (by omega)
    cv := f.cv (by omega)
    cR := f.cR (by omega) (by omega)
    ev := f.ev (by omega) }
/-- Blocks that are new, and nothing else. -/
theorem MacR.ext {H0 H H' : Heap} {x : MG} (h : MacR H0 H x) (he : Ext H H') : MacR H0 H' x := by
  have f := h.fr (S := fun _ => False) (Tch.ofExt he) (c' := x.c) fun j _ y _ e => e
  exact { h with
    base := f.base, run := f.run id, lv := f.lv id, lowR := fun i hi => f.lowR i hi id, topR := (f.topR id).1, dice := f.dice id, map := f.map id, esR := f.esR id, kv := f.kv id, kR := f.kR id, cv := f.cv id, cR := f.cR id id, ev := f.ev id }
/-- A number of the record was turned. -/
theorem MacR.num {H0 H H' : Heap} {x : MG} (h : MacR H0 H x) (hu : Upd (· = x.b) H H') {st er si : Int} {ov : Bool} (hr : Row H' x.b T_machine_run (runV { x.g with st := st, er := er, si := si, ov := ov })) :
    MacR H0 H' { x with g := { x.g with st := st, er := er, si := si, ov := ov } } := by
  have hl := h.lowl
  have f := h.fr (S := (· = 200)) (tch_row hu h.run.2 rfl) (c' := x.c) fun j _ y _ e => e
  exact { h with
    base := f.base, run := ⟨hr, h.run.2⟩, lv := f.lv (by omega), lowR := fun i (hi : i < x.low.length) => f.lowR i hi (by omega), topR := (f.topR (by omega)).1, dice := f.dice (by omega), map := f.map (by omega), esR := f.esR (by omega)
    kv := f.kv (by omega), kR := f.kR (by omega), cv := f.cv (by omega), cR := f.cR (by omega) (by omega), ev := f.ev (by omega) }
/-- The dice fell. -/
theorem MacR.fell {H0 H H' : Heap} {x : MG} (h : MacR H0 H x) (hu : Upd (· = x.g.dp) H H') {d : Int} (hr : Row H' x.g.dp T_dice_Dice [.int .u64 d]) : MacR H0 H' { x with d := d } := by
  have hl := h.lowl
  have f := h.fr (S := (· = 205)) (tch_row hu h.dice.2 rfl) (c' := x.c) fun j _ y _ e => e
  exact { h with
    base := f.base, run := f.run (by omega), lv := f.lv (by omega), lowR := fun i (hi : i < x.low.length) => f.lowR i hi (by omega), topR := (f.topR (by omega)).1, dice := ⟨hr, h.dice.2⟩, map := f.map (by omega), esR := f.esR (by omega)
    kv := f.kv (by omega), kR := f.kR (by omega), cv := f.cv (by omega), cR := f.cR (by omega) (by omega), ev := f.ev (by omega) }
/-- One colour becomes another. -/
def recol (c : Col) (i j : Nat) : Col := fun b => if c b = i then j else c b
theorem agr_recol {S : Nat → Prop} {n i k : Nat} {c d : Col} (hi : S i) : ∀ j, ¬ S j → Agr j n c (dye n (recol c i k) d) := fun j hj y hy e => by
  rw [dye_lt hy]; unfold recol; rw [if_neg (fun h => hj (by rw [← e, h]; exact hi)), e]
theorem is_recol {c d : Col} {lo i j b n : Nat} (h : Is c lo i b) (hb : b < n) : Is (dye n (recol c i j) d) lo j b := ⟨h.1, by rw [dye_lt hb]; unfold recol; rw [if_pos h.2]⟩
theorem sl_dye {c d : Col} {lo j n : Nat} {s s' : Sl} (h : IsS c lo j s) (hl : lo ≤ n) (ha : s'.a = s.a ∨ ∃ b, s'.a = some (adr b) ∧ n ≤ b) (hlt : ∀ b, s.a = some (adr b) → b < n) {i k : Nat} (hij : i ≠ j) (hd : ∀ b, s'.a = some (adr b) → d b = j) : IsS (dye n (recol c i k) d) lo j s' := fun b hb => by
  rcases ha with e | ⟨b', e, hge⟩
  · rw [e] at hb
    refine ⟨(h b hb).1, ?_⟩
    rw [dye_lt (hlt b hb)]; unfold recol; rw [(h b hb).2, if_neg (fun e => hij e.symm)]
  · rw [e] at hb; cases hb
    exact is_new hl hge (hd _ e)
theorem VecN.blk {H : Heap} {T : TypeId} {n : Nat} {s : Sl} {vs : List Value} (h : VecN H T n s vs) {a : Addr} (ha : s.a = some a) : ∃ b, a = adr b := by
  rcases h.own with ⟨h1, _⟩ | ⟨b, _, h1, _⟩
  · rw [h1] at ha; cases ha
  · rw [h1] at ha; cases ha; exact ⟨b, rfl⟩
theorem apart_col {c : Col} {lo i j : Nat} {s t : Sl} (hs : IsS c lo i s) (ht : IsS c lo j t) (h : i ≠ j) : Apart s t := fun b hb hb' => h ((hs b hb).2.symm.trans (ht b hb').2)
theorem apart_nil (s : Sl) {t : Sl} (h : t.a = none) : Apart s t := fun b _ hb => by rw [h] at hb; cases hb
theorem MacR.outCol {H0 H : Heap} {x : MG} (h : MacR H0 H x) : ∀ s ∈ outL x.cl x.kp, IsS x.c H0.size 101 s := fun s hs => by
  rcases List.mem_append.1 hs with hs | hs
  · obtain ⟨q, hq, hs⟩ := List.mem_flatMap.1 hs
    rcases List.mem_cons.1 hs with rfl | hs
    · exact (h.cR q hq).vs.2
    · obtain ⟨p, hp, rfl⟩ := List.mem_map.1 hs
      exact ((h.cR q hq).pt p hp).2
  · obtain ⟨p, hp, rfl⟩ := List.mem_map.1 hs
    exact (h.kR p hp).2
theorem MacR.free {H0 H : Heap} {x : MG} (h : MacR H0 H x) {b : Nat} (hb : x.c b = 999) (e : x.g.ks.a = some (adr b) ∨ b = x.b) : False := by
  rcases e with e | rfl
  · have := (h.kv.2 b e).2; omega
  · have := h.run.2.2; omega
/-- A part was kept. -/
theorem MacR.keep {H0 H H' : Heap} {x : MG} (h : MacR H0 H x) {ks : Sl} {q : PtP} (hu : Upd (fun b => x.g.ks.a = some (adr b) ∨ b = x.b) H H') (hr : Row H' x.b T_machine_run (runV { x.g with ks := ks }))
    (hv : VecN H' T_api_Part 2 ks ((x.kp ++ [q]).flatMap ptV)) (hks : ks.a = x.g.ks.a ∨ ∃ b, ks.a = some (adr b) ∧ H.size ≤ b) (hq : Vec H T_int64 q.sl (ints q.vals)) (hqc : IsS x.c H0.size 999 q.sl) :
    MacR H0 H' { x with g := { x.g with ks := ks }, kp := x.kp ++ [q], c := dye H.size (recol x.c 999 101) fun _ => 202 } := by
  have hl := h.lowl
  have ht : Tch x.c H0.size (fun j => j = 202 ∨ j = 200 ∨ j = 999) H H' := Tch.of hu fun b _ e => by
    rcases e with e | rfl
    · exact ⟨(h.kv.2 b e).1, .inl (h.kv.2 b e).2⟩
    · exact ⟨h.run.2.1, .inr (.inl h.run.2.2)⟩
  have f := h.fr ht (agr_recol (n := H.size) (k := 101) (d := fun _ => 202) (.inr (.inr rfl)))
  exact { h with
    base := f.base, run := ⟨hr, is_dye (c := recol x.c 999 101) ⟨h.run.2.1, by unfold recol; rw [h.run.2.2, if_neg (by decide)]⟩ h.run.1.lt⟩
    lv := f.lv (by omega), lowR := fun i (hi : i < x.low.length) => f.lowR i hi (by omega), topR := (f.topR (by omega)).1, topI := (f.topR (by omega)).2, dice := f.dice (by omega), map := f.map (by omega), esR := f.esR (by omega)
    kv := ⟨hv, sl_dye h.kv.2 h.base.size hks (fun b hb => h.kv.1.lt hb) (by decide) fun _ _ => rfl⟩
    kR := fun p hp => by
      rcases List.mem_append.1 hp with hp | hp
      · exact f.kR (by omega) p hp
      · rw [List.mem_singleton.1 hp]
        exact ⟨hq.upd hu fun b hb e => h.free (hqc b hb).2 e, fun b hb => is_recol (hqc b hb) (hq.lt hb)⟩
    cv := f.cv (by omega), cR := f.cR (by omega) (by omega), ev := f.ev (by omega)
    outA := by
      have e : outL x.cl (x.kp ++ [q]) = outL x.cl x.kp ++ [q.sl] := by simp [outL]
      rw [e, List.pairwise_append]
      refine ⟨h.outA, List.pairwise_singleton _ _, fun s hs t ht => ?_⟩
      rw [List.mem_singleton.1 ht]
      exact apart_col (h.outCol s hs) hqc (by decide) }
/-- A command went out. -/
theorem MacR.cmd {H0 H H' : Heap} {x : MG} (h : MacR H0 H x) {cs : Sl} {q : CmP} (hu : Upd (fun b => x.g.cs.a = some (adr b) ∨ b = x.b) H H') (hr : Row H' x.b T_machine_run (runV { x.g with cs := cs }))
    (hv : VecN H' T_api_Command 6 cs ((x.cl ++ [q]).flatMap cmV)) (hcs : cs.a = x.g.cs.a ∨ ∃ b, cs.a = some (adr b) ∧ H.size ≤ b) (hq : Vec H T_int64 q.vsl (ints q.vals)) (hqc : IsS x.c H0.size 999 q.vsl) (hp : q.parts = []) (hps : q.psl = ⟨none, 0, 0⟩) :
    MacR H0 H' { x with g := { x.g with cs := cs }, cl := x.cl ++ [q], c := dye H.size (recol x.c 999 101) fun _ => 203 } := by
  have hl := h.lowl
  have ht : Tch x.c H0.size (fun j => j = 203 ∨ j = 200 ∨ j = 999) H H' := Tch.of hu fun b _ e => by
    rcases e with e | rfl
    · exact ⟨(h.cv.2 b e).1, .inl (h.cv.2 b e).2⟩
    · exact ⟨h.run.2.1, .inr (.inl h.run.2.2)⟩
  have f := h.fr ht (agr_recol (n := H.size) (k := 101) (d := fun _ => 203) (.inr (.inr rfl)))
  exact { h with
    base := f.base, run := ⟨hr, is_dye (c := recol x.c 999 101) ⟨h.run.2.1, by unfold recol; rw [h.run.2.2, if_neg (by decide)]⟩ h.run.1.lt⟩
    lv := f.lv (by omega), lowR := fun i (hi : i < x.low.length) => f.lowR i hi (by omega), topR := (f.topR (by omega)).1, topI := (f.topR (by omega)).2, dice := f.dice (by omega), map := f.map (by omega), esR := f.esR (by omega)
    kv := f.kv (by omega), kR := f.kR (by omega)
    cv := ⟨hv, sl_dye h.cv.2 h.base.size hcs (fun b hb => h.cv.1.lt hb) (by decide) fun _ _ => rfl⟩
    cR := fun p hp' => by
      rcases List.mem_append.1 hp' with hp' | hp'
      · exact f.cR (by omega) (by omega) p hp'
      · rw [List.mem_singleton.1 hp']
        refine ⟨⟨hq.upd hu fun b hb e => ?_, fun b hb => is_recol (hqc b hb) (hq.lt hb)⟩, ?_, fun p hpp => by rw [hp] at hpp; cases hpp⟩
        · rcases e with e | rfl
          · have := (h.cv.2 b e).2; have := (hqc b hb).2; omega
          · have := h.run.2.2; have := (hqc _ hb).2; omega
        · rw [hp, hps]; exact VecNC.nil _ _ _ _ _ _
    ev := f.ev (by omega)
    outA := by
      have e : (outL x.cl x.kp ++ [q.vsl]).Perm (outL (x.cl ++ [q]) x.kp) := by
        simp only [outL, List.flatMap_append, List.flatMap_cons, List.flatMap_nil, List.append_nil, cmSl, hp, List.map_nil, List.append_assoc]
        exact List.perm_append_left_iff _ |>.2 List.perm_append_comm
      refine (e.pairwise_iff fun {a b} h => h.symm).1 ?_
      rw [List.pairwise_append]
      refine ⟨h.outA, List.pairwise_singleton _ _, fun s hs t ht => ?_⟩
      rw [List.mem_singleton.1 ht]
      exact apart_col (h.outCol s hs) hqc (by decide)
    parA := by
      rw [List.map_append, List.pairwise_append]
      refine ⟨h.parA, List.pairwise_singleton _ _, fun s hs t ht => ?_⟩
      rw [List.mem_singleton.1 ht, hps]
      exact apart_nil _ rfl }
/-- An event went out. -/
theorem MacR.event {H0 H H' : Heap} {x : MG} (h : MacR H0 H x) {es : Sl} {q : Ev} (hu : Upd (fun b => x.g.es.a = some (adr b) ∨ b = x.b) H H') (hr : Row H' x.b T_machine_run (runV { x.g with es := es }))
    (hv : VecN H' T_api_Event 5 es ((x.evs ++ [q]).flatMap evV)) (hes : es.a = x.g.es.a ∨ ∃ b, es.a = some (adr b) ∧ H.size ≤ b) :
    MacR H0 H' { x with g := { x.g with es := es }, evs := x.evs ++ [q], c := dye H.size (recol x.c 999 101) fun _ => 204 } := by
  have hl := h.lowl
  have ht : Tch x.c H0.size (fun j => j = 204 ∨ j = 200 ∨ j = 999) H H' := Tch.of hu fun b _ e => by
    rcases e with e | rfl
    · exact ⟨(h.ev.2 b e).1, .inl (h.ev.2 b e).2⟩
    · exact ⟨h.run.2.1, .inr (.inl h.run.2.2)⟩
  have f := h.fr ht (agr_recol (n := H.size) (k := 101) (d := fun _ => 204) (.inr (.inr rfl)))
  exact { h with
    base := f.base, run := ⟨hr, is_dye (c := recol x.c 999 101) ⟨h.run.2.1, by unfold recol; rw [h.run.2.2, if_neg (by decide)]⟩ h.run.1.lt⟩
    lv := f.lv (by omega), lowR := fun i (hi : i < x.low.length) => f.lowR i hi (by omega), topR := (f.topR (by omega)).1, topI := (f.topR (by omega)).2, dice := f.dice (by omega), map := f.map (by omega), esR := f.esR (by omega)
    kv := f.kv (by omega), kR := f.kR (by omega), cv := f.cv (by omega), cR := f.cR (by omega) (by omega)
    ev := ⟨hv, sl_dye h.ev.2 h.base.size hes (fun b hb => h.ev.1.lt hb) (by decide) fun _ _ => rfl⟩ }
/-- A function was called: another activation. -/
theorem MacR.call {H0 H H' : Heap} {x : MG} (h : MacR H0 H x) (hlt : x.low.length + 1 ≤ 16) {ls : Sl} {t : AP} (hu : Upd (fun b => x.g.ls.a = some (adr b) ∨ b = x.b) H H') (hr : Row H' x.b T_machine_run (runV { x.g with ls := ls }))
    (hv : Vec H' T_P_machine_activation ls (ptrs (x.low ++ [x.top] ++ [t]))) (hls : ls.a = x.g.ls.a ∨ ∃ b, ls.a = some (adr b) ∧ H.size ≤ b) (ht' : ActR H' t) (htb : ∀ b, ActB t b → H.size ≤ b) (hc : CodeR H0 t.r) :
    MacR H0 H' { x with g := { x.g with ls := ls }, low := x.low ++ [x.top], top := t, c := dye H.size (recol x.c 999 101) fun b => if ls.a = some (adr b) then 201 else x.low.length + 1 } := by
  have hl := h.lowl
  have ht : Tch x.c H0.size (fun j => j = 201 ∨ j = 200 ∨ j = 999) H H' := Tch.of hu fun b _ e => by
    rcases e with e | rfl
    · exact ⟨(h.lv.2 b e).1, .inl (h.lv.2 b e).2⟩
    · exact ⟨h.run.2.1, .inr (.inl h.run.2.2)⟩
  have f := h.fr ht (agr_recol (n := H.size) (k := 101) (d := fun b => if ls.a = some (adr b) then 201 else x.low.length + 1) (.inr (.inr rfl)))
  have hne : ∀ b, ActB t b → ls.a ≠ some (adr b) := fun b hb e => by
    rcases hb with rfl | hb | hb
    · exact hv.ne e ht'.row (by decide) rfl
    · rcases ht'.loc.own with ⟨h1, _⟩ | ⟨c, sp, h1, h2, _⟩
      · rw [h1] at hb; cases hb
      · rw [h1] at hb; cases hb; exact hv.ne e h2 (by decide) rfl
    · rcases ht'.stk.own with ⟨h1, _⟩ | ⟨c, sp, h1, h2, _⟩
      · rw [h1] at hb; cases hb
      · rw [h1] at hb; cases hb; exact hv.ne e h2 (by decide) rfl
  exact { h with
    base := f.base, run := ⟨hr, is_dye (c := recol x.c 999 101) ⟨h.run.2.1, by unfold recol; rw [h.run.2.2, if_neg (by decide)]⟩ h.run.1.lt⟩
    lv := ⟨hv, sl_dye h.lv.2 h.base.size hls (fun b hb => h.lv.1.lt hb) (by decide) fun b hb => if_pos hb⟩
    lowR := fun i hi => by
      have hi' : i < x.low.length + 1 := by simpa using hi
      by_cases e : i < x.low.length
      · have := f.lowR i e (by omega)
        simp only [List.getElem_append_left e]; exact this
      · have e : i = x.low.length := by omega
        subst e
        simp only [List.getElem_concat_length]
        exact f.topR (by omega)
    topR := ht'
    topI := fun b hb => by
      refine is_new h.base.size (htb b hb) ?_
      dsimp only
      rw [if_neg (hne b hb)]; simp
    codes := fun a ha => by
      rcases List.mem_append.1 ha with ha | ha
      · exact h.codes a ha
      · rw [List.mem_singleton.1 ha]; exact hc
    lowl := by simpa using hlt
    dice := f.dice (by omega), map := f.map (by omega), esR := f.esR (by omega)
    kv := f.kv (by omega), kR := f.kR (by omega), cv := f.cv (by omega), cR := f.cR (by omega) (by omega), ev := f.ev (by omega) }
/-- A function came back: the activation below is the last. -/
theorem MacR.ret {H0 H H' : Heap} {x : MG} (h : MacR H0 H x) {low : List AP} {t : AP} (hlow : x.low = low ++ [t]) {ls : Sl} (hu : Upd (· = x.b) H H') (hr : Row H' x.b T_machine_run (runV { x.g with ls := ls }))
    (hv : Vec H' T_P_machine_activation ls (ptrs (low ++ [t]))) (hls : ls.a = x.g.ls.a) : MacR H0 H' { x with g := { x.g with ls := ls }, low := low, top := t } := by
  have hl := h.lowl
  have hll : x.low.length = low.length + 1 := by rw [hlow]; simp
  have f := h.fr (S := (· = 200)) (tch_row hu h.run.2 rfl) (c' := x.c) fun j _ y _ e => e
  have hlast : x.low[low.length]'(by omega) = t := by simp [hlow]
  exact { h with
    base := f.base, run := ⟨hr, h.run.2⟩, lv := ⟨hv, fun b hb => h.lv.2 b (by rw [← hls]; exact hb)⟩
    lowR := fun i (hi : i < low.length) => by
      have := f.lowR i (by omega) (by omega)
      have e : x.low[i]'(by omega) = low[i] := by simp [hlow, List.getElem_append_left hi]
      rw [e] at this; exact this
    topR := by have := (f.lowR low.length (by omega) (by omega)).1; rw [hlast] at this; exact this
    topI := by have := (f.lowR low.length (by omega) (by omega)).2; rw [hlast] at this; exact this
    codes := fun a ha => h.codes a (by rw [hlow]; exact List.mem_append_left _ ha)
    lowl := by show low.length ≤ 16; omega
    dice := f.dice (by omega), map := f.map (by omega), esR := f.esR (by omega)
    kv := f.kv (by omega), kR := f.kR (by omega), cv := f.cv (by omega), cR := f.cR (by omega) (by omega), ev := f.ev (by omega) }
theorem mapEnts_congr : ∀ {n : Nat} {l l' : List PtP}, l.map (fun q => (q.kind, q.sl)) = l'.map (fun q => (q.kind, q.sl)) → mapEnts n l = mapEnts n l'
  | _, [], [], _ => rfl
  | _, [], _ :: _, h => by cases h
  | _, _ :: _, [], h => by cases h
  | n, x :: r, y :: r', h => by
    simp only [List.map_cons, List.cons.injEq, Prod.mk.injEq] at h
    unfold mapEnts
    rw [h.1.1, h.1.2, mapEnts_congr h.2]
/-- A field was put. -/
theorem MacR.put {H0 H H' : Heap} {x : MG} (h : MacR H0 H x) {j : Nat} (hj : j < x.es.length) {b : Nat} (hb : x.es[j].sl.a = some (adr b)) (hu : Upd (· = b) H H') {vs : List Int} (hv : Vec H' T_int64 x.es[j].sl (ints vs)) :
    MacR H0 H' { x with es := x.es.set j { x.es[j] with vals := vs } } := by
  have hl := h.lowl
  have hmem := List.getElem_mem hj
  have hbc := (h.esR _ hmem).2 b hb
  have f := h.fr (S := (· = 100)) (tch_row hu hbc rfl) (c' := x.c) fun j _ y _ e => e
  have hk : ∀ {α : Type} (g : PtP → α), (g { x.es[j] with vals := vs } = g x.es[j]) → (x.es.set j { x.es[j] with vals := vs }).map g = x.es.map g := fun g hg => by
    rw [List.map_set, hg]
    apply List.ext_getElem
    · simp
    · intro i h1 h2
      rw [List.getElem_set]
      split
      · rename_i e; subst e; simp
      · rfl
  exact { h with
    base := f.base, run := f.run (by omega), lv := f.lv (by omega), lowR := fun i (hi : i < x.low.length) => f.lowR i hi (by omega), topR := (f.topR (by omega)).1, dice := f.dice (by omega)
    map := by
      have := f.map (by omega)
      dsimp only
      rw [List.length_set, mapEnts_congr (hk (fun q => (q.kind, q.sl)) rfl)]; exact this
    esR := fun q hq => by
      obtain ⟨i, hi, e⟩ := List.getElem_of_mem hq
      rw [List.length_set] at hi
      rw [List.getElem_set] at e
      split at e
      · subst e; exact ⟨hv, (h.esR _ hmem).2⟩
      · rename_i hne
        subst e
        have hr := h.esR _ (List.getElem_mem hi)
        refine ⟨hr.1.upd hu fun b' hb' e => ?_, hr.2⟩
        subst e
        rcases Nat.lt_or_ge i j with hlt | hge
        · exact List.pairwise_iff_getElem.1 h.esA i j hi hj hlt b' hb' hb
        · exact List.pairwise_iff_getElem.1 h.esA j i hj hi (by omega) b' hb hb'
    esA := by
      have e := hk PtP.sl rfl
      have := h.esA
      rw [← List.pairwise_map (f := PtP.sl) (R := Apart)] at this ⊢
      rw [e]; exact this
    esK := by
      have e := hk PtP.kind rfl
      dsimp only
      rw [e]; exact h.esK
    kv := f.kv (by omega), kR := f.kR (by omega), cv := f.cv (by omega), cR := f.cR (by omega) (by omega), ev := f.ev (by omega) }
abbrev spawned (ks : Sl) (kp : List PtP) : CmP := ⟨1, (0, 0), 0, ⟨none, 0, 0⟩, [], ks, kp⟩
/-- What was kept went out. -/
theorem MacR.spawn {H0 H H' : Heap} {x : MG} (h : MacR H0 H x) {cs : Sl} {kp : List PtP} (hp : kp.Perm x.kp) (hu : Upd (fun b => x.g.ks.a = some (adr b) ∨ x.g.cs.a = some (adr b) ∨ b = x.b) H H')
    (hr : Row H' x.b T_machine_run (runV { x.g with cs := cs, ks := ⟨none, 0, 0⟩ })) (hk : VecN H' T_api_Part 2 x.g.ks (kp.flatMap ptV))
    (hv : VecN H' T_api_Command 6 cs ((x.cl ++ [spawned x.g.ks kp]).flatMap cmV)) (hcs : cs.a = x.g.cs.a ∨ ∃ b, cs.a = some (adr b) ∧ H.size ≤ b) :
    MacR H0 H' { x with g := { x.g with cs := cs, ks := ⟨none, 0, 0⟩ }, cl := x.cl ++ [spawned x.g.ks kp], kp := [], c := dye H.size (recol x.c 202 207) fun _ => 203 } := by
  have hl := h.lowl
  have ht : Tch x.c H0.size (fun j => j = 203 ∨ j = 200 ∨ j = 202) H H' := Tch.of hu fun b _ e => by
    rcases e with e | e | rfl
    · exact ⟨(h.kv.2 b e).1, .inr (.inr (h.kv.2 b e).2)⟩
    · exact ⟨(h.cv.2 b e).1, .inl (h.cv.2 b e).2⟩
    · exact ⟨h.run.2.1, .inr (.inl h.run.2.2)⟩
  have f := h.fr ht (agr_recol (n := H.size) (k := 207) (d := fun _ => 203) (.inr (.inr rfl)))
  exact { h with
    base := f.base, run := ⟨hr, is_dye (c := recol x.c 202 207) ⟨h.run.2.1, by unfold recol; rw [h.run.2.2, if_neg (by decide)]⟩ h.run.1.lt⟩
    lv := f.lv (by omega), lowR := fun i (hi : i < x.low.length) => f.lowR i hi (by omega), topR := (f.topR (by omega)).1, topI := (f.topR (by omega)).2, dice := f.dice (by omega), map := f.map (by omega), esR := f.esR (by omega)
    kv := VecNC.nil _ _ _ _ _ _, kR := fun p hp => by cases hp
    cv := ⟨hv, sl_dye h.cv.2 h.base.size hcs (fun b hb => h.cv.1.lt hb) (by decide) fun _ _ => rfl⟩
    cR := fun p hp' => by
      rcases List.mem_append.1 hp' with hp' | hp'
      · exact f.cR (by omega) (by omega) p hp'
      · rw [List.mem_singleton.1 hp']
        exact ⟨VecC.nil _ _ _ _ _, ⟨hk, fun b hb => is_recol (h.kv.2 b hb) (h.kv.1.lt hb)⟩, fun p hpp => f.kR (by omega) p (hp.subset hpp)⟩
    ev := f.ev (by omega)
    outA := by
      have e : (outL x.cl x.kp ++ [(⟨none, 0, 0⟩ : Sl)]).Perm (outL (x.cl ++ [spawned x.g.ks kp]) []) := by
        simp only [outL, List.flatMap_append, List.flatMap_cons, List.flatMap_nil, List.append_nil, cmSl, List.map_nil, List.append_assoc]
        refine List.perm_append_left_iff _ |>.2 (List.perm_append_comm.trans ?_)
        exact (hp.symm.map _).cons _
      refine (e.pairwise_iff fun {a b} h => h.symm).1 ?_
      rw [List.pairwise_append]
      refine ⟨h.outA, List.pairwise_singleton _ _, fun s hs t ht => ?_⟩
      rw [List.mem_singleton.1 ht]
      exact apart_nil _ rfl
    parA := by
      rw [List.map_append, List.pairwise_append]
      refine ⟨h.parA, List.pairwise_singleton _ _, fun s hs t ht => ?_⟩
      rw [List.mem_singleton.1 ht]
      obtain ⟨q, hq, rfl⟩ := List.mem_map.1 hs
      exact apart_col (h.cR q hq).ps.2 h.kv.2 (by decide) }
end Go.Proofs.YtfpmgpblhhcpgaaGreat
namespace Go.Proofs.YtfpmgpblhhcpgaaGreat
set_option linter.unusedVariables false
set_option linter.unusedSimpArgs false
open Go.Proofs.YtfpmgpblhhcpgaaGreat.Hc
abbrev f_machine_deedOf_1 : FuncId := 102
abbrev f_machine_deedOf_2 : FuncId := 103
abbrev f_machine_deedOf_3 : FuncId := 104
abbrev f_machine_div : FuncId := 105
abbrev f_machine_rem : FuncId := 106
abbrev f_machine_deedOf_4 : FuncId := 107
abbrev f_machine_deedOf_5 : FuncId := 108
abbrev f_machine_deedOf_6 : FuncId := 110
abbrev f_machine_deedOf_7 : FuncId := 111
abbrev f_machine_deedOf_8 : FuncId := 113
abbrev f_machine_run_spawn_1 : FuncId := 121
abbrev f_cmp_Compare_int : FuncId := 122
abbrev f_machine_run_holds_1 : FuncId := 150
abbrev f_slices_Contains_Sl_int_int : FuncId := 151
abbrev f_machine_of2_1 : FuncId := 152
abbrev f_machine_of1_1 : FuncId := 153
abbrev f_machine_compared_1 : FuncId := 154
abbrev f_machine_compared_2 : FuncId := 155
abbrev f_machine_compared_3 : FuncId := 156
abbrev f_machine_compared_4 : FuncId := 157
abbrev f_machine_compared_5 : FuncId := 158
abbrev f_machine_compared_6 : FuncId := 159
abbrev f_cmp_isNaN_int : FuncId := 164
abbrev f_slices_Index_Sl_int_int : FuncId := 190
/-- (*hindcast/machine.run).holds$1 -/
def v_machine_run_holds_1 (l_ : Sl) (free0_ : Addr) (H : Heap) (k : Bool → Heap → Prop) : Prop :=
    Ld (.int .i64) free0_ H fun (x1 : Int) =>
    CallT Pg f_slices_Contains_Sl_int_int [.slice l_.a l_.len l_.cap, .int .i64 x1] (.one (.c .bool)) H fun (r1 : Bool) H1 =>
    k r1 H1
def h_machine_run_holds_1 : Hint := .no
theorem e_machine_run_holds_1 (l_ : Sl) (free0_ : Addr) (H : Heap) (k : Bool → Heap → Prop) : EFun Pg Tryz.f150 h_machine_run_holds_1 [.slice l_.a l_.len l_.cap, .pointer (some free0_)] (.one (.c .bool)) H k = v_machine_run_holds_1 l_ free0_ H k := by kernel_rfl
theorem c_machine_run_holds_1 (l_ : Sl) (free0_ : Addr) {H : Heap} {k : Bool → Heap → Prop} (h : v_machine_run_holds_1 l_ free0_ H k) : CallT Pg f_machine_run_holds_1 [.slice l_.a l_.len l_.cap, .pointer (some free0_)] (.one (.c .bool)) H k :=
  call_of_E Pg_mixed Tryz.func150 (by kernel_rfl) (by kernel_rfl) (by kernel_rfl) (by kernel_rfl) ((e_machine_run_holds_1 l_ free0_ H k).symm ▸ h)
/-- slices.Contains[[]int,int] -/
def v_slices_Contains_Sl_int_int (s_ : Sl) (v_ : Int) (H : Heap) (k : Bool → Heap → Prop) : Prop :=
    CallT Pg f_slices_Index_Sl_int_int [.slice s_.a s_.len s_.cap, .int .i64 v_] (.one (.c (.int .i64))) H fun (r1 : Int) H1 =>
    k (decide (r1 ≥ 0)) H1
def h_slices_Contains_Sl_int_int : Hint := .no
theorem e_slices_Contains_Sl_int_int (s_ : Sl) (v_ : Int) (H : Heap) (k : Bool → Heap → Prop) : EFun Pg Tryz.f151 h_slices_Contains_Sl_int_int [.slice s_.a s_.len s_.cap, .int .i64 v_] (.one (.c .bool)) H k = v_slices_Contains_Sl_int_int s_ v_ H k := by kernel_rfl
theorem c_slices_Contains_Sl_int_int (s_ : Sl) (v_ : Int) {H : Heap} {k : Bool → Heap → Prop} (h : v_slices_Contains_Sl_int_int s_ v_ H k) : CallT Pg f_slices_Contains_Sl_int_int [.slice s_.a s_.len s_.cap, .int .i64 v_] (.one (.c .bool)) H k :=
  call_of_E Pg_mixed Tryz.func151 (by kernel_rfl) (by kernel_rfl) (by kernel_rfl) (by kernel_rfl) ((e_slices_Contains_Sl_int_int s_ v_ H k).symm ▸ h)
/-- slices.Index[[]int,int] -/
def v_slices_Index_Sl_int_int (s_ : Sl) (v_ : Int) (H : Heap) (k : Int → Heap → Prop) : Prop :=
    LoopT (σ := Int) /-  -/ (fun next1 s1 H1 =>
      Br (decide (s1 < (s_.len : Int))) (
        IxA 1 s_ s1 fun a1 =>
        Ld (.int .i64) a1 H1 fun (x1 : Int) =>
        Br (v_ == x1) (
          k s1 H1) (
          Lt (IntKind.wrap .i64 (s1 + 1)) fun t1 =>
          next1 t1 H1)) (
        k (-1) H1)) 0 H
def h_slices_Index_Sl_int_int : Hint := (.two .no (.two (.two .no (.one (.loop [(8, (.c (.int .i64)))] .no))) .no))
theorem e_slices_Index_Sl_int_int (s_ : Sl) (v_ : Int) (H : Heap) (k : Int → Heap → Prop) : EFun Pg Tryz.f190 h_slices_Index_Sl_int_int [.slice s_.a s_.len s_.cap, .int .i64 v_] (.one (.c (.int .i64))) H k = v_slices_Index_Sl_int_int s_ v_ H k := by kernel_rfl
theorem c_slices_Index_Sl_int_int (s_ : Sl) (v_ : Int) {H : Heap} {k : Int → Heap → Prop} (h : v_slices_Index_Sl_int_int s_ v_ H k) : CallT Pg f_slices_Index_Sl_int_int [.slice s_.a s_.len s_.cap, .int .i64 v_] (.one (.c (.int .i64))) H k :=
  call_of_E Pg_mixed Tryz.func190 (by kernel_rfl) (by kernel_rfl) (by kernel_rfl) (by kernel_rfl) ((e_slices_Index_Sl_int_int s_ v_ H k).symm ▸ h)
/-- hindcast/machine.of2$1 -/
def v_machine_of2_1 (l_ : Sl) (free0_ : Addr) (H : Heap) (k : Int → Heap → Prop) : Prop :=
    Ld .raw free0_ H fun (x1 : Value) =>
    IxA 1 l_ 0 fun a1 =>
    Ld (.int .i64) a1 H fun (x2 : Int) =>
    IxA 1 l_ 1 fun a2 =>
    Ld (.int .i64) a2 H fun (x3 : Int) =>
    CallX Pg x1 [.int .i64 x2, .int .i64 x3] (.one (.c (.int .i64))) H fun (r1 : Int) H1 =>
    k r1 H1
def h_machine_of2_1 : Hint := .no
theorem e_machine_of2_1 (l_ : Sl) (free0_ : Addr) (H : Heap) (k : Int → Heap → Prop) : EFun Pg Tryz.f152 h_machine_of2_1 [.slice l_.a l_.len l_.cap, .pointer (some free0_)] (.one (.c (.int .i64))) H k = v_machine_of2_1 l_ free0_ H k := by kernel_rfl
theorem c_machine_of2_1 (l_ : Sl) (free0_ : Addr) {H : Heap} {k : Int → Heap → Prop} (h : v_machine_of2_1 l_ free0_ H k) : CallT Pg f_machine_of2_1 [.slice l_.a l_.len l_.cap, .pointer (some free0_)] (.one (.c (.int .i64))) H k :=
  call_of_E Pg_mixed Tryz.func152 (by kernel_rfl) (by kernel_rfl) (by kernel_rfl) (by kernel_rfl) ((e_machine_of2_1 l_ free0_ H k).symm ▸ h)
/-- hindcast/machine.of1$1 -/
def v_machine_of1_1 (l_ : Sl) (free0_ : Addr) (H : Heap) (k : Int → Heap → Prop) : Prop :=
    Ld .raw free0_ H fun (x1 : Value) =>
    IxA 1 l_ 0 fun a1 =>
    Ld (.int .i64) a1 H fun (x2 : Int) =>
    CallX Pg x1 [.int .i64 x2] (.one (.c (.int .i64))) H fun (r1 : Int) H1 =>
    k r1 H1
def h_machine_of1_1 : Hint := .no
theorem e_machine_of1_1 (l_ : Sl) (free0_ : Addr) (H : Heap) (k : Int → Heap → Prop) : EFun Pg Tryz.f153 h_machine_of1_1 [.slice l_.a l_.len l_.cap, .pointer (some free0_)] (.one (.c (.int .i64))) H k = v_machine_of1_1 l_ free0_ H k := by kernel_rfl
theorem c_machine_of1_1 (l_ : Sl) (free0_ : Addr) {H : Heap} {k : Int → Heap → Prop} (h : v_machine_of1_1 l_ free0_ H k) : CallT Pg f_machine_of1_1 [.slice l_.a l_.len l_.cap, .pointer (some free0_)] (.one (.c (.int .i64))) H k :=
  call_of_E Pg_mixed Tryz.func153 (by kernel_rfl) (by kernel_rfl) (by kernel_rfl) (by kernel_rfl) ((e_machine_of1_1 l_ free0_ H k).symm ▸ h)
/-- hindcast/machine.deedOf$1 -/
def v_machine_deedOf_1 (w_ : Int) (x_ : Int) (H : Heap) (k : Int → Heap → Prop) : Prop :=
    Lt (IntKind.wrap .i64 (w_ + x_)) fun t1 =>
    k t1 H
def h_machine_deedOf_1 : Hint := .no
theorem e_machine_deedOf_1 (w_ : Int) (x_ : Int) (H : Heap) (k : Int → Heap → Prop) : EFun Pg Tryz.f102 h_machine_deedOf_1 [.int .i64 w_, .int .i64 x_] (.one (.c (.int .i64))) H k = v_machine_deedOf_1 w_ x_ H k := by kernel_rfl
theorem c_machine_deedOf_1 (w_ : Int) (x_ : Int) {H : Heap} {k : Int → Heap → Prop} (h : v_machine_deedOf_1 w_ x_ H k) : CallT Pg f_machine_deedOf_1 [.int .i64 w_, .int .i64 x_] (.one (.c (.int .i64))) H k :=
  call_of_E Pg_mixed Tryz.func102 (by kernel_rfl) (by kernel_rfl) (by kernel_rfl) (by kernel_rfl) ((e_machine_deedOf_1 w_ x_ H k).symm ▸ h)
/-- hindcast/machine.deedOf$2 -/
def v_machine_deedOf_2 (w_ : Int) (x_ : Int) (H : Heap) (k : Int → Heap → Prop) : Prop :=
    Lt (IntKind.wrap .i64 (w_ - x_)) fun t1 =>
    k t1 H
def h_machine_deedOf_2 : Hint := .no
theorem e_machine_deedOf_2 (w_ : Int) (x_ : Int) (H : Heap) (k : Int → Heap → Prop) : EFun Pg Tryz.f103 h_machine_deedOf_2 [.int .i64 w_, .int .i64 x_] (.one (.c (.int .i64))) H k = v_machine_deedOf_2 w_ x_ H k := by kernel_rfl
theorem c_machine_deedOf_2 (w_ : Int) (x_ : Int) {H : Heap} {k : Int → Heap → Prop} (h : v_machine_deedOf_2 w_ x_ H k) : CallT Pg f_machine_deedOf_2 [.int .i64 w_, .int .i64 x_] (.one (.c (.int .i64))) H k :=
  call_of_E Pg_mixed Tryz.func103 (by kernel_rfl) (by kernel_rfl) (by kernel_rfl) (by kernel_rfl) ((e_machine_deedOf_2 w_ x_ H k).symm ▸ h)
/-- hindcast/machine.deedOf$3 -/
def v_machine_deedOf_3 (w_ : Int) (x_ : Int) (H : Heap) (k : Int → Heap → Prop) : Prop :=
    Lt (IntKind.wrap .i64 (w_ * x_)) fun t1 =>
    k t1 H
def h_machine_deedOf_3 : Hint := .no
theorem e_machine_deedOf_3 (w_ : Int) (x_ : Int) (H : Heap) (k : Int → Heap → Prop) : EFun Pg Tryz.f104 h_machine_deedOf_3 [.int .i64 w_, .int .i64 x_] (.one (.c (.int .i64))) H k = v_machine_deedOf_3 w_ x_ H k := by kernel_rfl
theorem c_machine_deedOf_3 (w_ : Int) (x_ : Int) {H : Heap} {k : Int → Heap → Prop} (h : v_machine_deedOf_3 w_ x_ H k) : CallT Pg f_machine_deedOf_3 [.int .i64 w_, .int .i64 x_] (.one (.c (.int .i64))) H k :=
  call_of_E Pg_mixed Tryz.func104 (by kernel_rfl) (by kernel_rfl) (by kernel_rfl) (by kernel_rfl) ((e_machine_deedOf_3 w_ x_ H k).symm ▸ h)
/-- hindcast/machine.div -/
def v_machine_div (w_ : Int) (x_ : Int) (H : Heap) (k : Int → Heap → Prop) : Prop :=
    Br (x_ == 0) (
      k 0 H) (
      Br (x_ == (-1)) (
        k (IntKind.wrap .i64 (0 - w_)) H) (
        Quo .i64 w_ x_ fun t1 =>
        k t1 H))
def h_machine_div : Hint := .no
theorem e_machine_div (w_ : Int) (x_ : Int) (H : Heap) (k : Int → Heap → Prop) : EFun Pg Tryz.f105 h_machine_div [.int .i64 w_, .int .i64 x_] (.one (.c (.int .i64))) H k = v_machine_div w_ x_ H k := by kernel_rfl
theorem c_machine_div (w_ : Int) (x_ : Int) {H : Heap} {k : Int → Heap → Prop} (h : v_machine_div w_ x_ H k) : CallT Pg f_machine_div [.int .i64 w_, .int .i64 x_] (.one (.c (.int .i64))) H k :=
  call_of_E Pg_mixed Tryz.func105 (by kernel_rfl) (by kernel_rfl) (by kernel_rfl) (by kernel_rfl) ((e_machine_div w_ x_ H k).symm ▸ h)
/-- hindcast/machine.rem -/
def v_machine_rem (w_ : Int) (x_ : Int) (H : Heap) (k : Int → Heap → Prop) : Prop :=
    Jn (σ := Bool) /-  -/ (fun kk1 =>
      Br (x_ == 0) (
        kk1 true H) (
        kk1 (x_ == (-1)) H)) fun j1 H1 =>
    Br j1 (
      k 0 H1) (
      Rem w_ x_ fun t1 =>
      k t1 H1)
def h_machine_rem : Hint := (.two .no (.two (.two (.join [(10, (.c .bool))] .no) .no) .no))
theorem e_machine_rem (w_ : Int) (x_ : Int) (H : Heap) (k : Int → Heap → Prop) : EFun Pg Tryz.f106 h_machine_rem [.int .i64 w_, .int .i64 x_] (.one (.c (.int .i64))) H k = v_machine_rem w_ x_ H k := by kernel_rfl
theorem c_machine_rem (w_ : Int) (x_ : Int) {H : Heap} {k : Int → Heap → Prop} (h : v_machine_rem w_ x_ H k) : CallT Pg f_machine_rem [.int .i64 w_, .int .i64 x_] (.one (.c (.int .i64))) H k :=
  call_of_E Pg_mixed Tryz.func106 (by kernel_rfl) (by kernel_rfl) (by kernel_rfl) (by kernel_rfl) ((e_machine_rem w_ x_ H k).symm ▸ h)
/-- hindcast/machine.deedOf$4 -/
def v_machine_deedOf_4 (w_ : Int) (x_ : Int) (H : Heap) (k : Int → Heap → Prop) : Prop :=
    k (if x_ < w_ then x_ else w_) H
def h_machine_deedOf_4 : Hint := .no
theorem e_machine_deedOf_4 (w_ : Int) (x_ : Int) (H : Heap) (k : Int → Heap → Prop) : EFun Pg Tryz.f107 h_machine_deedOf_4 [.int .i64 w_, .int .i64 x_] (.one (.c (.int .i64))) H k = v_machine_deedOf_4 w_ x_ H k := by kernel_rfl
theorem c_machine_deedOf_4 (w_ : Int) (x_ : Int) {H : Heap} {k : Int → Heap → Prop} (h : v_machine_deedOf_4 w_ x_ H k) : CallT Pg f_machine_deedOf_4 [.int .i64 w_, .int .i64 x_] (.one (.c (.int .i64))) H k :=
  call_of_E Pg_mixed Tryz.func107 (by kernel_rfl) (by kernel_rfl) (by kernel_rfl) (by kernel_rfl) ((e_machine_deedOf_4 w_ x_ H k).symm ▸ h)
/-- hindcast/machine.deedOf$5 -/
def v_machine_deedOf_5 (w_ : Int) (x_ : Int) (H : Heap) (k : Int → Heap → Prop) : Prop :=
    k (if w_ < x_ then x_ else w_) H
def h_machine_deedOf_5 : Hint := .no
theorem e_machine_deedOf_5 (w_ : Int) (x_ : Int) (H : Heap) (k : Int → Heap → Prop) : EFun Pg Tryz.f108 h_machine_deedOf_5 [.int .i64 w_, .int .i64 x_] (.one (.c (.int .i64))) H k = v_machine_deedOf_5 w_ x_ H k := by kernel_rfl
theorem c_machine_deedOf_5 (w_ : Int) (x_ : Int) {H : Heap} {k : Int → Heap → Prop} (h : v_machine_deedOf_5 w_ x_ H k) : CallT Pg f_machine_deedOf_5 [.int .i64 w_, .int .i64 x_] (.one (.c (.int .i64))) H k :=
  call_of_E Pg_mixed Tryz.func108 (by kernel_rfl) (by kernel_rfl) (by kernel_rfl) (by kernel_rfl) ((e_machine_deedOf_5 w_ x_ H k).symm ▸ h)
/-- hindcast/machine.deedOf$6 -/
def v_machine_deedOf_6 (x_ : Int) (H : Heap) (k : Int → Heap → Prop) : Prop :=
    k (IntKind.wrap .i64 (0 - x_)) H
def h_machine_deedOf_6 : Hint := .no
theorem e_machine_deedOf_6 (x_ : Int) (H : Heap) (k : Int → Heap → Prop) : EFun Pg Tryz.f110 h_machine_deedOf_6 [.int .i64 x_] (.one (.c (.int .i64))) H k = v_machine_deedOf_6 x_ H k := by kernel_rfl
theorem c_machine_deedOf_6 (x_ : Int) {H : Heap} {k : Int → Heap → Prop} (h : v_machine_deedOf_6 x_ H k) : CallT Pg f_machine_deedOf_6 [.int .i64 x_] (.one (.c (.int .i64))) H k :=
  call_of_E Pg_mixed Tryz.func110 (by kernel_rfl) (by kernel_rfl) (by kernel_rfl) (by kernel_rfl) ((e_machine_deedOf_6 x_ H k).symm ▸ h)
/-- hindcast/machine.deedOf$7 -/
def v_machine_deedOf_7 (x_ : Int) (H : Heap) (k : Int → Heap → Prop) : Prop :=
    CallT Pg f_machine_truth [.bool (x_ == 0)] (.one (.c (.int .i64))) H fun (r1 : Int) H1 =>
    k r1 H1
def h_machine_deedOf_7 : Hint := .no
theorem e_machine_deedOf_7 (x_ : Int) (H : Heap) (k : Int → Heap → Prop) : EFun Pg Tryz.f111 h_machine_deedOf_7 [.int .i64 x_] (.one (.c (.int .i64))) H k = v_machine_deedOf_7 x_ H k := by kernel_rfl
theorem c_machine_deedOf_7 (x_ : Int) {H : Heap} {k : Int → Heap → Prop} (h : v_machine_deedOf_7 x_ H k) : CallT Pg f_machine_deedOf_7 [.int .i64 x_] (.one (.c (.int .i64))) H k :=
  call_of_E Pg_mixed Tryz.func111 (by kernel_rfl) (by kernel_rfl) (by kernel_rfl) (by kernel_rfl) ((e_machine_deedOf_7 x_ H k).symm ▸ h)
/-- hindcast/machine.deedOf$8 -/
def v_machine_deedOf_8 (x_ : Int) (H : Heap) (k : Int → Heap → Prop) : Prop :=
    Br (decide (x_ < 0)) (
      k (IntKind.wrap .i64 (0 - x_)) H) (
      k x_ H)
def h_machine_deedOf_8 : Hint := .no
theorem e_machine_deedOf_8 (x_ : Int) (H : Heap) (k : Int → Heap → Prop) : EFun Pg Tryz.f113 h_machine_deedOf_8 [.int .i64 x_] (.one (.c (.int .i64))) H k = v_machine_deedOf_8 x_ H k := by kernel_rfl
theorem c_machine_deedOf_8 (x_ : Int) {H : Heap} {k : Int → Heap → Prop} (h : v_machine_deedOf_8 x_ H k) : CallT Pg f_machine_deedOf_8 [.int .i64 x_] (.one (.c (.int .i64))) H k :=
  call_of_E Pg_mixed Tryz.func113 (by kernel_rfl) (by kernel_rfl) (by kernel_rfl) (by kernel_rfl) ((e_machine_deedOf_8 x_ H k).symm ▸ h)
/-- hindcast/machine.compared$1 -/
def v_machine_compared_1 (w_ : Int) (x_ : Int) (H : Heap) (k : Int → Heap → Prop) : Prop :=
    CallT Pg f_machine_truth [.bool (w_ == x_)] (.one (.c (.int .i64))) H fun (r1 : Int) H1 =>
    k r1 H1
def h_machine_compared_1 : Hint := .no
theorem e_machine_compared_1 (w_ : Int) (x_ : Int) (H : Heap) (k : Int → Heap → Prop) : EFun Pg Tryz.f154 h_machine_compared_1 [.int .i64 w_, .int .i64 x_] (.one (.c (.int .i64))) H k = v_machine_compared_1 w_ x_ H k := by kernel_rfl
theorem c_machine_compared_1 (w_ : Int) (x_ : Int) {H : Heap} {k : Int → Heap → Prop} (h : v_machine_compared_1 w_ x_ H k) : CallT Pg f_machine_compared_1 [.int .i64 w_, .int .i64 x_] (.one (.c (.int .i64))) H k :=
  call_of_E Pg_mixed Tryz.func154 (by kernel_rfl) (by kernel_rfl) (by kernel_rfl) (by kernel_rfl) ((e_machine_compared_1 w_ x_ H k).symm ▸ h)
/-- hindcast/machine.compared$2 -/
def v_machine_compared_2 (w_ : Int) (x_ : Int) (H : Heap) (k : Int → Heap → Prop) : Prop :=
    CallT Pg f_machine_truth [.bool (w_ != x_)] (.one (.c (.int .i64))) H fun (r1 : Int) H1 =>
    k r1 H1
def h_machine_compared_2 : Hint := .no
theorem e_machine_compared_2 (w_ : Int) (x_ : Int) (H : Heap) (k : Int → Heap → Prop) : EFun Pg Tryz.f155 h_machine_compared_2 [.int .i64 w_, .int .i64 x_] (.one (.c (.int .i64))) H k = v_machine_compared_2 w_ x_ H k := by kernel_rfl
theorem c_machine_compared_2 (w_ : Int) (x_ : Int) {H : Heap} {k : Int → Heap → Prop} (h : v_machine_compared_2 w_ x_ H k) : CallT Pg f_machine_compared_2 [.int .i64 w_, .int .i64 x_] (.one (.c (.int .i64))) H k :=
  call_of_E Pg_mixed Tryz.func155 (by kernel_rfl) (by kernel_rfl) (by kernel_rfl) (by kernel_rfl) ((e_machine_compared_2 w_ x_ H k).symm ▸ h)
/-- hindcast/machine.compared$3 -/
def v_machine_compared_3 (w_ : Int) (x_ : Int) (H : Heap) (k : Int → Heap → Prop) : Prop :=
    CallT Pg f_machine_truth [.bool (decide (w_ < x_))] (.one (.c (.int .i64))) H fun (r1 : Int) H1 =>
    k r1 H1
def h_machine_compared_3 : Hint := .no
theorem e_machine_compared_3 (w_ : Int) (x_ : Int) (H : Heap) (k : Int → Heap → Prop) : EFun Pg Tryz.f156 h_machine_compared_3 [.int .i64 w_, .int .i64 x_] (.one (.c (.int .i64))) H k = v_machine_compared_3 w_ x_ H k := by kernel_rfl
theorem c_machine_compared_3 (w_ : Int) (x_ : Int) {H : Heap} {k : Int → Heap → Prop} (h : v_machine_compared_3 w_ x_ H k) : CallT Pg f_machine_compared_3 [.int .i64 w_, .int .i64 x_] (.one (.c (.int .i64))) H k :=
  call_of_E Pg_mixed Tryz.func156 (by kernel_rfl) (by kernel_rfl) (by kernel_rfl) (by kernel_rfl) ((e_machine_compared_3 w_ x_ H k).symm ▸ h)
/-- hindcast/machine.compared$4 -/
def v_machine_compared_4 (w_ : Int) (x_ : Int) (H : Heap) (k : Int → Heap → Prop) : Prop :=
    CallT Pg f_machine_truth [.bool (decide (w_ ≤ x_))] (.one (.c (.int .i64))) H fun (r1 : Int) H1 =>
    k r1 H1
def h_machine_compared_4 : Hint := .no
theorem e_machine_compared_4 (w_ : Int) (x_ : Int) (H : Heap) (k : Int → Heap → Prop) : EFun Pg Tryz.f157 h_machine_compared_4 [.int .i64 w_, .int .i64 x_] (.one (.c (.int .i64))) H k = v_machine_compared_4 w_ x_ H k := by kernel_rfl
theorem c_machine_compared_4 (w_ : Int) (x_ : Int) {H : Heap} {k : Int → Heap → Prop} (h : v_machine_compared_4 w_ x_ H k) : CallT Pg f_machine_compared_4 [.int .i64 w_, .int .i64 x_] (.one (.c (.int .i64))) H k :=
  call_of_E Pg_mixed Tryz.func157 (by kernel_rfl) (by kernel_rfl) (by kernel_rfl) (by kernel_rfl) ((e_machine_compared_4 w_ x_ H k).symm ▸ h)
/-- hindcast/machine.compared$5 -/
def v_machine_compared_5 (w_ : Int) (x_ : Int) (H : Heap) (k : Int → Heap → Prop) : Prop :=
    CallT Pg f_machine_truth [.bool (decide (w_ > x_))] (.one (.c (.int .i64))) H fun (r1 : Int) H1 =>
    k r1 H1
def h_machine_compared_5 : Hint := .no
theorem e_machine_compared_5 (w_ : Int) (x_ : Int) (H : Heap) (k : Int → Heap → Prop) : EFun Pg Tryz.f158 h_machine_compared_5 [.int .i64 w_, .int .i64 x_] (.one (.c (.int .i64))) H k = v_machine_compared_5 w_ x_ H k := by kernel_rfl
theorem c_machine_compared_5 (w_ : Int) (x_ : Int) {H : Heap} {k : Int → Heap → Prop} (h : v_machine_compared_5 w_ x_ H k) : CallT Pg f_machine_compared_5 [.int .i64 w_, .int .i64 x_] (.one (.c (.int .i64))) H k :=
  call_of_E Pg_mixed Tryz.func158 (by kernel_rfl) (by kernel_rfl) (by kernel_rfl) (by kernel_rfl) ((e_machine_compared_5 w_ x_ H k).symm ▸ h)
/-- hindcast/machine.compared$6 -/
def v_machine_compared_6 (w_ : Int) (x_ : Int) (H : Heap) (k : Int → Heap → Prop) : Prop :=
    CallT Pg f_machine_truth [.bool (decide (w_ ≥ x_))] (.one (.c (.int .i64))) H fun (r1 : Int) H1 =>
    k r1 H1
def h_machine_compared_6 : Hint := .no
theorem e_machine_compared_6 (w_ : Int) (x_ : Int) (H : Heap) (k : Int → Heap → Prop) : EFun Pg Tryz.f159 h_machine_compared_6 [.int .i64 w_, .int .i64 x_] (.one (.c (.int .i64))) H k = v_machine_compared_6 w_ x_ H k := by kernel_rfl
theorem c_machine_compared_6 (w_ : Int) (x_ : Int) {H : Heap} {k : Int → Heap → Prop} (h : v_machine_compared_6 w_ x_ H k) : CallT Pg f_machine_compared_6 [.int .i64 w_, .int .i64 x_] (.one (.c (.int .i64))) H k :=
  call_of_E Pg_mixed Tryz.func159 (by kernel_rfl) (by kernel_rfl) (by kernel_rfl) (by kernel_rfl) ((e_machine_compared_6 w_ x_ H k).symm ▸ h)
/-- (*hindcast/machine.run).spawn$1 -/
def v_machine_run_spawn_1 (a_ : Int × Sl) (b_ : Int × Sl) (H : Heap) (k : Int → Heap → Prop) : Prop :=
    Nw #[.int .i64 a_.1, .slice a_.2.a a_.2.len a_.2.cap] T_api_Part H fun b1 H1 =>
    Nw #[.int .i64 b_.1, .slice b_.2.a b_.2.len b_.2.cap] T_api_Part H1 fun b2 H2 =>
    Ld (.int .i64) (adr b1) H2 fun (x1 : Int) =>
    Ld (.int .i64) (adr b2) H2 fun (x2 : Int) =>
    CallT Pg f_cmp_Compare_int [.int .i64 x1, .int .i64 x2] (.one (.c (.int .i64))) H2 fun (r1 : Int) H3 =>
    k r1 H3
def h_machine_run_spawn_1 : Hint := .no
theorem e_machine_run_spawn_1 (a_ : Int × Sl) (b_ : Int × Sl) (H : Heap) (k : Int → Heap → Prop) : EFun Pg Tryz.f121 h_machine_run_spawn_1 [.agg #[.int .i64 a_.1, .slice a_.2.a a_.2.len a_.2.cap], .agg #[.int .i64 b_.1, .slice b_.2.a b_.2.len b_.2.cap]] (.one (.c (.int .i64))) H k = v_machine_run_spawn_1 a_ b_ H k := by kernel_rfl
theorem c_machine_run_spawn_1 (a_ : Int × Sl) (b_ : Int × Sl) {H : Heap} {k : Int → Heap → Prop} (h : v_machine_run_spawn_1 a_ b_ H k) : CallT Pg f_machine_run_spawn_1 [.agg #[.int .i64 a_.1, .slice a_.2.a a_.2.len a_.2.cap], .agg #[.int .i64 b_.1, .slice b_.2.a b_.2.len b_.2.cap]] (.one (.c (.int .i64))) H k :=
  call_of_E Pg_mixed Tryz.func121 (by kernel_rfl) (by kernel_rfl) (by kernel_rfl) (by kernel_rfl) ((e_machine_run_spawn_1 a_ b_ H k).symm ▸ h)
/-- cmp.Compare[int] -/
def v_cmp_Compare_int (x_ : Int) (y_ : Int) (H : Heap) (k : Int → Heap → Prop) : Prop :=
    CallT Pg f_cmp_isNaN_int [.int .i64 x_] (.one (.c .bool)) H fun (r1 : Bool) H1 =>
    CallT Pg f_cmp_isNaN_int [.int .i64 y_] (.one (.c .bool)) H1 fun (r2 : Bool) H2 =>
    Br r1 (
      Br r2 (
        k 0 H2) (
        k (-1) H2)) (
      Br r2 (
        k 1 H2) (
        Br (decide (x_ < y_)) (
          k (-1) H2) (
          Br (decide (x_ > y_)) (
            k 1 H2) (
            k 0 H2))))
def h_cmp_Compare_int : Hint := .no
theorem e_cmp_Compare_int (x_ : Int) (y_ : Int) (H : Heap) (k : Int → Heap → Prop) : EFun Pg Tryz.f122 h_cmp_Compare_int [.int .i64 x_, .int .i64 y_] (.one (.c (.int .i64))) H k = v_cmp_Compare_int x_ y_ H k := by kernel_rfl
theorem c_cmp_Compare_int (x_ : Int) (y_ : Int) {H : Heap} {k : Int → Heap → Prop} (h : v_cmp_Compare_int x_ y_ H k) : CallT Pg f_cmp_Compare_int [.int .i64 x_, .int .i64 y_] (.one (.c (.int .i64))) H k :=
  call_of_E Pg_mixed Tryz.func122 (by kernel_rfl) (by kernel_rfl) (by kernel_rfl) (by kernel_rfl) ((e_cmp_Compare_int x_ y_ H k).symm ▸ h)
/-- cmp.isNaN[int] -/
def v_cmp_isNaN_int (x_ : Int) (H : Heap) (k : Bool → Heap → Prop) : Prop :=
    k (x_ != x_) H
def h_cmp_isNaN_int : Hint := .no
theorem e_cmp_isNaN_int (x_ : Int) (H : Heap) (k : Bool → Heap → Prop) : EFun Pg Tryz.f164 h_cmp_isNaN_int [.int .i64 x_] (.one (.c .bool)) H k = v_cmp_isNaN_int x_ H k := by kernel_rfl
theorem c_cmp_isNaN_int (x_ : Int) {H : Heap} {k : Bool → Heap → Prop} (h : v_cmp_isNaN_int x_ H k) : CallT Pg f_cmp_isNaN_int [.int .i64 x_] (.one (.c .bool)) H k :=
  call_of_E Pg_mixed Tryz.func164 (by kernel_rfl) (by kernel_rfl) (by kernel_rfl) (by kernel_rfl) ((e_cmp_isNaN_int x_ H k).symm ▸ h)
end Go.Proofs.YtfpmgpblhhcpgaaGreat
/-
  Index, Contains, ContainsFunc.
-/
namespace Go.Proofs.YtfpmgpblhhcpgaaGreat
set_option linter.unusedVariables false
set_option linter.unusedSimpArgs false
open Go.Proofs.YtfpmgpblhhcpgaaGreat.Hc
set_option maxRecDepth 100000
variable {H : Heap}
theorem s_IndexI {s : Sl} {xs : List Int} {v : Int} (hs : RL (Value.int .i64) H s xs) (hl : xs.length ≤ 2 ^ 60) {k : Int → Heap → Prop} (hk : ∀ x, (0 ≤ x ↔ v ∈ xs) → k x H) : CallT Pg f_slices_Index_Sl_int_int [.slice s.a s.len s.cap, .int .i64 v] (.one (.c (.int .i64))) H k := by
  refine c_slices_Index_Sl_int_int _ _ ?_
  unfold v_slices_Index_Sl_int_int
  have hlen := hs.len
  refine LoopT.mk (fun i H' => H = H' ∧ ∃ n : Nat, i = n ∧ n ≤ xs.length ∧ ∀ j (h : j < xs.length), j < n → xs[j] ≠ v) (fun i _ => xs.length - i.toNat) ⟨rfl, 0, rfl, Nat.zero_le _, fun j _ hj => by omega⟩ ?_
  rintro next _ _ ⟨rfl, n, rfl, hn, hno⟩ hnext
  refine Br_dec (fun hlt => ?_) fun hge => hk _ ⟨fun h => by omega, fun h => ?_⟩
  · have hn2 : n < xs.length := by omega
    refine IxA_rl hs rfl hn2 fun a ha => Ld_int ha (Br.mk (fun h => hk _ ⟨fun _ => ?_, fun _ => by omega⟩) fun h => ?_)
    · rw [beqI h]; exact List.getElem_mem hn2
    · have h := bneI h
      refine Lt.mk (u := ((n + 1 : Nat) : Int)) (by rw [wrap_i64_id] <;> omega) (hnext _ _ ⟨rfl, n + 1, rfl, hn2, fun j hj hjn => ?_⟩ (by omega))
      rcases Nat.lt_or_ge j n with e | e
      · exact hno j hj e
      · have : j = n := by omega
        subst this; exact fun e => h e.symm
  · obtain ⟨j, hj, e⟩ := List.getElem_of_mem h
    exact absurd e (hno j hj (by omega))
theorem s_ContainsI {s : Sl} {xs : List Int} {v : Int} (hs : RL (Value.int .i64) H s xs) (hl : xs.length ≤ 2 ^ 60) {k : Bool → Heap → Prop} (hk : k (decide (v ∈ xs)) H) : CallT Pg f_slices_Contains_Sl_int_int [.slice s.a s.len s.cap, .int .i64 v] (.one (.c .bool)) H k := by
  refine c_slices_Contains_Sl_int_int _ _ ?_
  unfold v_slices_Contains_Sl_int_int
  refine s_IndexI hs hl fun x hx => ?_
  have : decide (x ≥ 0) = decide (v ∈ xs) := decide_eq_decide.2 hx
  rw [this]; exact hk
theorem s_anyL {s : Sl} {xs : List (Sl × List Int)} {f : Value} (hs : RL (fun x : Sl × List Int => slV x.1) H s xs) (hl : xs.length ≤ 2 ^ 60) (P : Sl × List Int → Bool)
    (hf : ∀ x, x ∈ xs → ∀ H' (K : Bool → Heap → Prop), Ext H H' → (∀ H'', Ext H' H'' → K (P x) H'') → CallX Pg f [.slice x.1.a x.1.len x.1.cap] (.one (.c .bool)) H' K) {k : Bool → Heap → Prop} (hk : ∀ H', Ext H H' → k (xs.any P) H') :
    CallT Pg f_slices_ContainsFunc_Sl_Sl_int_Sl_int [.slice s.a s.len s.cap, f] (.one (.c .bool)) H k := by
  refine c_slices_ContainsFunc_Sl_Sl_int_Sl_int _ _ ?_
  unfold v_slices_ContainsFunc_Sl_Sl_int_Sl_int
  refine c_slices_IndexFunc_Sl_Sl_int_Sl_int _ _ ?_
  unfold v_slices_IndexFunc_Sl_Sl_int_Sl_int
  have hlen := hs.len
  refine LoopT.mk (fun i H' => ∃ n : Nat, i = n ∧ n ≤ xs.length ∧ Ext H H' ∧ xs.any P = (xs.drop n).any P) (fun i _ => xs.length - i.toNat) ⟨0, rfl, Nat.zero_le _, .refl _ _, rfl⟩ ?_
  rintro next _ H1 ⟨n, rfl, hn, hE1, he⟩ hnext
  refine Br_dec (fun hlt => ?_) fun hge => ?_
  · have hn2 : n < xs.length := by omega
    rw [List.drop_eq_getElem_cons hn2, List.any_cons] at he
    refine IxA_rl (hs.ext hE1) rfl hn2 fun a ha => Ld_sl (s := (xs[n]).1) ha (hf _ (List.getElem_mem hn2) _ _ hE1 fun H2 hE2 => ?_)
    have hE2' := hE1.trans hE2 fun _ _ h => h
    refine Br.mk (fun h => ?_) fun h => ?_
    · have := hk _ hE2'
      rw [he, h, Bool.true_or] at this
      show k (decide ((n : Int) ≥ 0)) H2
      rwa [decide_eq_true (show (n : Int) ≥ 0 by omega)]
    · rw [h, Bool.false_or] at he
      exact Lt.mk (u := ((n + 1 : Nat) : Int)) (by rw [wrap_i64_id] <;> omega) (hnext _ _ ⟨n + 1, rfl, hn2, hE2', he⟩ (by omega))
  · rw [List.drop_eq_nil_of_le (by omega)] at he
    have := hk _ hE1
    rwa [he] at this
end Go.Proofs.YtfpmgpblhhcpgaaGreat
/-
  Machine: is the next instruction ready?
-/
namespace Go.Proofs.YtfpmgpblhhcpgaaGreat
set_option linter.unusedVariables false
set_option linter.unusedSimpArgs false
open Go.Proofs.YtfpmgpblhhcpgaaGreat.Hc Go.Proofs.YtfpmgpblhhcpgaaGreat.Hc.Vf Go.Proofs.YtfpmgpblhhcpgaaGreat.Hc.Mc Go.Proofs.YtfpmgpblhhcpgaaGreat.Hc.Dice
set_option maxRecDepth 100000
variable {H : Heap}

abbrev inV (x : Int × Int × Int) : List Value := [.int .i64 x.1, .int .i64 x.2.1, .int .i64 x.2.2]
theorem inV_len (x : Int × Int × Int) : (inV x).length = 3 := rfl
/-- What a run leans on: the program, the inputs. -/
structure CtxR (H : Heap) (pF : Sl) (s : Sy) (inS : Sl) (fs : List Rou) (ins : List (Int × Int × Int)) : Prop where
  fn : RN rouV 4 H pF fs
  fnC : ∀ r ∈ fs, CodeR H r
  sets : ∀ q, q < 4 → RL (Value.int .i64) H (s.s q) (s.l q)
  setL : ∀ q, q < 4 → (s.l q).length ≤ 2 ^ 60
  inp : RN inV 3 H inS ins
  inL : ins.length * 24 ≤ 140737488351232
  inB : ∀ a, inS.a = some a → a.spot = none ∧ a.block < H.size
  inN : inS.a = none → inS.cap = 0
abbrev mpOf (g : RunG) (fs : List Rou) : MP := ⟨fs.map fnOf, fnOf g.s.rou, g.s.l 2, g.s.l 3, g.n, 2 ^ 40⟩
abbrev enOf (g : RunG) (ins : List (Int × Int × Int)) : En := ⟨g.fr, g.sd, g.ix, g.gn, ins⟩
theorem CtxR.ext {H' : Heap} (hE : Ext H H') {pF : Sl} {s : Sy} {inS : Sl} {fs : List Rou} {ins : List (Int × Int × Int)} (h : CtxR H pF s inS fs ins) : CtxR H' pF s inS fs ins :=
  ⟨h.fn.ext hE, fun r hr => (h.fnC r hr).ext hE, fun q hq => (h.sets q hq).ext hE, h.setL, h.inp.ext hE, h.inL, fun a ha => ⟨(h.inB a ha).1, Nat.lt_of_lt_of_le (h.inB a ha).2 hE.size⟩, h.inN⟩
theorem s_last {H0 : Heap} {x : MG} (h : MacR H0 H x) {k : Option Addr → Heap → Prop} (hk : k (some (adr x.top.p)) H) : CallT Pg f_machine_run_last [.pointer (some (adr x.b))] (.one (.c .ptr)) H k := by
  refine c_machine_run_last _ ?_
  unfold v_machine_run_last
  simp only [NilCk_some, adr_add]
  have hl := h.lv.1.len
  have hl2 := h.lowl
  simp only [List.length_map, List.length_append, List.length_singleton] at hl
  refine Ld_sl ((h.run.1.cell 19).trans rfl) (Ld_sl ((h.run.1.cell 19).trans rfl) (Lt.mk (u := (x.low.length : Int)) (by rw [wrap_i64_id (by omega) (by omega)]; omega) ?_))
  refine IxA_vec h.lv.1 (by omega) (by simp; omega) fun a ha _ => Ld_ptr (ha.trans ?_) hk
  rw [Int.toNat_natCast, ptrs, List.map_append, List.getElem?_append_right (by simp)]
  simp
theorem s_outer {op : Int} {k : Bool → Heap → Prop} (hk : k (outerB op) H) : CallT Pg f_machine_outer [.int .i64 op] (.one (.c .bool)) H k := by
  refine c_machine_outer _ ?_
  unfold v_machine_outer
  refine Jn.mk (fun j H' => H = H' ∧ j = outerB op) (fun kk hkk => ?_) ?_
  · have e : ∀ b, b = outerB op → kk b H := fun b hb => hkk _ _ ⟨rfl, hb⟩
    have hx : outerB op = ((op == 4) || ((op == 5) || ((op == 25) || ((op == 26) || ((op == 27) || ((op == 28) || ((op == 29) || ((op == 30) || ((op == 35) || (op == 23)))))))))) := by simp only [outerB, List.contains_cons, List.contains_nil, Bool.or_false]
    simp only [Jn]
    refine Br.mk (fun h => e _ (by rw [hx, h]; simp)) fun h1 => ?_
    refine Br.mk (fun h => e _ (by rw [hx, h]; simp)) fun h2 => ?_
    refine Br.mk (fun h => e _ (by rw [hx, h]; simp)) fun h3 => ?_
    refine Br.mk (fun h => e _ (by rw [hx, h]; simp)) fun h4 => ?_
    refine Br.mk (fun h => e _ (by rw [hx, h]; simp)) fun h5 => ?_
    refine Br.mk (fun h => e _ (by rw [hx, h]; simp)) fun h6 => ?_
    refine Br.mk (fun h => e _ (by rw [hx, h]; simp)) fun h7 => ?_
    refine Br.mk (fun h => e _ (by rw [hx, h]; simp)) fun h8 => ?_
    refine Br.mk (fun h => e _ (by rw [hx, h]; simp)) fun h9 => ?_
    exact e _ (by rw [hx, h1, h2, h3, h4, h5, h6, h7, h8, h9]; simp)
  · rintro j _ ⟨rfl, rfl⟩
    cases hb : outerB op <;> rw [hb] at hk <;> exact hk
theorem s_truth {b : Bool} {k : Int → Heap → Prop} (hk : k (truthI b) H) : CallT Pg f_machine_truth [.bool b] (.one (.c (.int .i64))) H k := by
  refine c_machine_truth _ ?_
  unfold v_machine_truth
  cases b <;> exact hk
theorem s_isKind {n : Int} {k : Bool → Heap → Prop} (hk : k (isKindB n) H) : CallT Pg f_machine_isKind [.int .i64 n] (.one (.c .bool)) H k := by
  refine c_machine_isKind _ ?_
  unfold v_machine_isKind
  refine Jn.mk (fun j H' => H = H' ∧ j = isKindB n) (fun kk hkk => ?_) (by rintro j _ ⟨rfl, rfl⟩; exact hk)
  unfold isKindB at hkk
  refine Br_dec (fun h => hkk _ _ ⟨rfl, decide_eq_decide.2 (by omega)⟩) fun h => hkk _ _ ⟨rfl, (decide_eq_false (by omega)).symm⟩
theorem s_goal {a : Int} {k : Int → Heap → Prop} (hk : k (if 0 ≤ a ∧ a ≤ 2 ^ 40 then a else -1) H) : CallT Pg f_machine_goal [.int .i64 a] (.one (.c (.int .i64))) H k := by
  refine c_machine_goal _ ?_
  unfold v_machine_goal
  refine Jn.mk (fun j H' => H = H' ∧ j = decide (¬ (0 ≤ a ∧ a ≤ 2 ^ 40))) (fun kk hkk => ?_) ?_
  · refine Br_dec (fun h => hkk _ _ ⟨rfl, (decide_eq_true (by omega)).symm⟩) fun h => hkk _ _ ⟨rfl, decide_eq_decide.2 (by omega)⟩
  · rintro j _ ⟨rfl, rfl⟩
    refine Br_dec (fun h => ?_) fun h => ?_
    · rw [if_neg h] at hk; exact hk
    · rw [if_pos (Classical.not_not.1 h)] at hk; exact hk
theorem s_mstep {b : Nat} {g : RunG} (hr : Row H b T_machine_run (runV g)) (hs : 0 ≤ g.st ∧ g.st < 2 ^ 40) {k : Bool → Heap → Prop}
    (hk : ∀ H', Upd (· = b) H H' → Row H' b T_machine_run (runV { g with st := g.st + 1, si := 0 }) → k (decide (g.st + 1 ≤ 2000)) H') : CallT Pg f_machine_run_step [.pointer (some (adr b))] (.one (.c .bool)) H k := by
  refine c_machine_run_step _ ?_
  unfold v_machine_run_step
  simp only [NilCk_some, adr_add, mk_add]
  refine Ld_int ((hr.cell 24).trans rfl) (Lt.mk (u := g.st + 1) (by rw [wrap_i64_id] <;> omega) ?_)
  refine St_row hr (by simp) fun H1 hU1 _ hr1 => St_row hr1 (by simp) fun H2 hU2 _ hr2 => ?_
  exact Ld_int (n := g.st + 1) ((hr2.cell 24).trans rfl) (hk H2 (hU1.trans hU2 fun _ _ e => e) hr2)

/-! ### the kinds' values -/
theorem sameNow_int (a b : Int) : Instr.sameNow (.int .i64) (.int .i64 a) (.int .i64 b) = some (a == b) := by simp [Instr.sameNow]
theorem mapEnts_find {key : Int} : ∀ {es : List PtP} {n i : Nat}, (∃ j, ∃ h : j < es.length, es[j].kind = key ∧ Instr.findNow (.int .i64) (.int .i64 key) (mapEnts n es) i = some (some (i + j, slV es[j].sl)) ∧ lookV (es.map PtP.pt) key = some es[j].vals ∧
      ∀ f v, putV (es.map PtP.pt) key f v = (es.set j { es[j] with vals := es[j].vals.set f v }).map PtP.pt) ∨
    (Instr.findNow (.int .i64) (.int .i64 key) (mapEnts n es) i = some none ∧ lookV (es.map PtP.pt) key = none ∧ ∀ q ∈ es, q.kind ≠ key)
  | [], n, i => .inr ⟨by simp [mapEnts, Instr.findNow], rfl, fun q h => by cases h⟩
  | x :: r, n, i => by
    by_cases e : x.kind = key
    · refine .inl ⟨0, by simp, e, ?_, ?_, fun f v => ?_⟩
      · unfold mapEnts Instr.findNow
        rw [sameNow_int, e, beq_self_eq_true]; rfl
      · unfold lookV
        simp only [List.map_cons, List.find?_cons]
        have : (x.pt.kind == key) = true := by simpa using e
        rw [this]; rfl
      · simp only [List.map_cons, putV, List.getElem_cons_zero, List.set_cons_zero]
        rw [if_pos e]
    · have hb : (key == x.kind) = false := beq_eq_false_iff_ne.2 fun h => e h.symm
      have hf : Instr.findNow (.int .i64) (.int .i64 key) (mapEnts n (x :: r)) i = Instr.findNow (.int .i64) (.int .i64 key) (mapEnts (n + 1) r) (i + 1) := by
        conv => lhs; unfold mapEnts Instr.findNow
        rw [sameNow_int, hb]
      have hl : lookV ((x :: r).map PtP.pt) key = lookV (r.map PtP.pt) key := by
        unfold lookV
        simp only [List.map_cons, List.find?_cons]
        have : (x.pt.kind == key) = false := by simpa using e
        rw [this]
      rcases mapEnts_find (key := key) (es := r) (n := n + 1) (i := i + 1) with ⟨j, hj, h1, h2, h3, h4⟩ | ⟨h1, h2, h3⟩
      · refine .inl ⟨j + 1, by simpa using hj, h1, ?_, ?_, fun f v => ?_⟩
        · rw [hf, h2]; simp only [List.getElem_cons_succ]; congr 3; omega
        · rw [hl, h3]; rfl
        · simp only [List.map_cons, putV, List.getElem_cons_succ, List.set_cons_succ]
          rw [if_neg e, h4]
      · exact .inr ⟨hf.trans h1, hl.trans h2, fun q hq => (List.mem_cons.1 hq).elim (fun h => h ▸ e) (h3 q)⟩
theorem MpL_es {r : Nat} {es : List PtP} (hm : H[r]? = some (.map ⟨mapEnts 0 es⟩ es.length)) {key : Int} {k : Sl → Bool → Prop}
    (h1 : ∀ j (hj : j < es.length), es[j].kind = key → lookV (es.map PtP.pt) key = some es[j].vals → (∀ f v, putV (es.map PtP.pt) key f v = (es.set j { es[j] with vals := es[j].vals.set f v }).map PtP.pt) → k es[j].sl true)
    (h2 : lookV (es.map PtP.pt) key = none → k ⟨none, 0, 0⟩ false) : MpL (.int .i64) (.c .sl) ⟨none, 0, 0⟩ (.map (some r)) (.int .i64 key) H k := by
  refine ⟨_, .inr ⟨r, _, rfl, hm⟩, ?_⟩
  rcases mapEnts_find (key := key) (es := es) (n := 0) (i := 0) with ⟨j, hj, g1, g2, g3, g4⟩ | ⟨g1, g2, _⟩
  · exact .inl ⟨0 + j, es[j].sl, g2, h1 j hj g1 g3 g4⟩
  · exact .inr ⟨g1, h2 g2⟩
theorem s_holds {H0 : Heap} {x : MG} (h : MacR H0 H x) {a : Int} (ha : I64 a) {dl : Sl} {xs : List (Sl × List Int)} (hs : RL (fun x : Sl × List Int => slV x.1) H dl xs) (hxl : xs.length ≤ 2 ^ 60)
    (hx : ∀ y ∈ xs, RL (Value.int .i64) H y.1 y.2 ∧ y.2.length ≤ 2 ^ 60) {k : Bool → Heap → Prop} (hk : ∀ H', Ext H H' → k (fieldOk x.ms.vals a (xs.flatMap (·.2))) H') :
    CallT Pg f_machine_run_holds [.pointer (some (adr x.b)), .int .i64 a, .slice dl.a dl.len dl.cap] (.one (.c .bool)) H k := by
  refine c_machine_run_holds _ _ _ ?_
  unfold v_machine_run_holds
  unfold I64 at ha
  refine Br_dec (fun h => ?_) fun hge => ⟨by omega, ?_⟩
  · have := hk H (.refl _ _)
    unfold fieldOk at this
    rw [decide_eq_false (by omega), Bool.false_and, Bool.false_and] at this
    exact this
  have hd : a.tdiv 8 = a / 8 := Int.tdiv_eq_ediv_of_nonneg (by omega)
  have hmd : a.tmod 8 = a % 8 := Int.tmod_eq_emod_of_nonneg (by omega)
  rw [hd, wrap_i64_id (by omega) (by omega)]
  refine Nw_row (vs := [.int .i64 0]) fun b1 H1 hb1 hE1 hz1 hr1 => ?_
  refine St_row hr1 (by simp) fun H2 hU2 hz2 hr2 => ?_
  have hE2 : Ext H H2 := extUpd hE1 (by omega) hU2
  have h2 := h.ext hE2
  have cb : hcell H2 (adr b1) = some (.int .i64 (a / 8)) := (hr2.cell 0).trans rfl
  simp only [NilCk_some, adr_add]
  refine ⟨.map (some x.g.mp), (h2.run.1.cell 18).trans rfl, Ld_int cb (MpL_es h2.map.1 (fun j hj hkd hl _ => ?_) fun hl => ?_)⟩
  · have hv := (h.esR _ (List.getElem_mem hj)).1.len
    rw [List.length_map] at hv
    have hfo : fieldOk x.ms.vals a (xs.flatMap (·.2)) = (decide (a % 8 < (x.es[j].vals.length : Int)) && (xs.flatMap (·.2)).contains (a / 8)) := by
      unfold fieldOk
      rw [decide_eq_true (by omega), Bool.true_and]
      dsimp only
      rw [hl]
    rw [hfo] at hk
    refine Jn.mk (fun j' H' => Ext H H' ∧ j' = (decide (a % 8 < (x.es[j].vals.length : Int)) && (xs.flatMap (·.2)).contains (a / 8))) (fun kk hkk => ?_) (by rintro j' H' ⟨h1, rfl⟩; exact hk H' h1)
    refine ⟨by omega, ?_⟩
    rw [hmd]
    refine Br_dec (fun hlt => ?_) fun hge => hkk _ _ ⟨hE2, ?_⟩
    · have eb : (decide (a % 8 < (x.es[j].vals.length : Int)) && (xs.flatMap (·.2)).contains (a / 8)) = xs.any fun y => decide (a / 8 ∈ y.2) := by
        rw [decide_eq_true (by omega), Bool.true_and, Bool.eq_iff_iff]
        simp [List.mem_flatMap]
      rw [eb] at hkk
      refine s_anyL (hs.ext hE2) hxl (fun y => decide (a / 8 ∈ y.2)) (fun y hy H' K hE hK' => ⟨f_machine_run_holds_1, #[], #[.pointer (some (adr b1))], rfl, ?_⟩) fun H' hE => hkk _ _ ⟨hE2.trans hE fun _ _ h => h, rfl⟩
      show CallT Pg f_machine_run_holds_1 [.slice y.1.a y.1.len y.1.cap, .pointer (some (adr b1))] _ _ _
      refine c_machine_run_holds_1 y.1 (adr b1) ?_
      unfold v_machine_run_holds_1
      exact Ld_int (n := a / 8) (hE.cell cb fun h => h) (s_ContainsI ((hx y hy).1.ext (hE2.trans hE fun _ _ h => h)) (hx y hy).2 (hK' _ (.refl _ _)))
    · rw [decide_eq_false (by omega), Bool.false_and]
  · refine Jn.mk (fun j' H' => H2 = H' ∧ j' = false) (fun kk hkk => hkk _ _ ⟨rfl, rfl⟩) ?_
    rintro j' _ ⟨rfl, rfl⟩
    have := hk H2 hE2
    have hfo : fieldOk x.ms.vals a (xs.flatMap (·.2)) = false := by
      unfold fieldOk
      dsimp only
      rw [hl]; simp
    rwa [hfo] at this
end Go.Proofs.YtfpmgpblhhcpgaaGreat
/-
  Machine: what may be touched; is there room; is it ready?
-/
namespace Go.Proofs.YtfpmgpblhhcpgaaGreat
set_option linter.unusedVariables false
set_option linter.unusedSimpArgs false
open Go.Proofs.YtfpmgpblhhcpgaaGreat.Hc Go.Proofs.YtfpmgpblhhcpgaaGreat.Hc.Vf Go.Proofs.YtfpmgpblhhcpgaaGreat.Hc.Mc Go.Proofs.YtfpmgpblhhcpgaaGreat.Hc.Dice
set_option maxRecDepth 100000
variable {H : Heap}

theorem tdiv8 {a : Int} (h0 : 0 ≤ a) (h : I64 a) : IntKind.wrap .i64 (a.tdiv 8) = a / 8 := by
  unfold I64 at h
  rw [Int.tdiv_eq_ediv_of_nonneg h0, wrap_i64_id (by omega) (by omega)]
theorem s_access {H0 : Heap} {x : MG} {fs : List Rou} {ins : List (Int × Int × Int)} (h : MacR H0 H x) (hc : CtxR H0 x.g.pF x.g.s x.g.inS fs ins) {i : Ins} (hA : I64 i.2) {k : Bool → Heap → Prop} (hk : ∀ H', Ext H H' → k (access (mpOf x.g fs) x.ms i) H') :
    CallT Pg f_machine_run_access [.pointer (some (adr x.b)), .agg #[.int .i64 i.1, .int .i64 i.2]] (.one (.c .bool)) H k := by
  obtain ⟨op, A⟩ := i
  dsimp only at hA
  have hA2 := hA
  unfold I64 at hA2
  refine c_machine_run_access _ (op, A) ?_
  unfold v_machine_run_access
  refine Nw_row (vs := [.int .i64 op, .int .i64 A]) fun b1 H1 hb1 hE1 hz1 hr1 => ?_
  have h1 := h.ext hE1
  have hll := h1.lv.1.len
  have hlow := h1.lowl
  simp only [List.length_map, List.length_append, List.length_singleton] at hll
  have c0 : hcell H1 (adr b1) = some (.int .i64 op) := (hr1.cell 0).trans rfl
  have c1 : hcell H1 ⟨b1, 1, none⟩ = some (.int .i64 A) := (hr1.cell 1).trans rfl
  have hln : (x.ms.low ≠ []) ↔ x.g.ls.len > 1 := by
    show x.low.map AP.act ≠ [] ↔ _
    rw [hll]
    cases hx : x.low <;> simp
  simp only [NilCk_some, adr_add, mk_add]
  refine s_last h1 (Ld_sl ((h1.run.1.cell 19).trans rfl) ?_)
  refine Jn.mk (fun j H' => H1 = H' ∧ j = decide (x.ms.low ≠ [] ∧ outerB op = true)) (fun kk hkk => ?_) ?_
  · refine Br_dec (fun h => Ld_int c0 (s_outer (hkk _ _ ⟨rfl, ?_⟩))) fun h => hkk _ _ ⟨rfl, (decide_eq_false fun e => h (by have := hln.1 e.1; omega)).symm⟩
    have := hln.2 (by omega)
    rw [Bool.eq_iff_iff, decide_eq_true_eq]
    exact ⟨fun e => ⟨this, e⟩, fun e => e.2⟩
  rintro j _ ⟨rfl, rfl⟩
  refine Br_dec (fun hb => ?_) fun hb => ?_
  · have := hk H1 hE1
    unfold access at this
    rwa [if_pos hb] at this
  have hk : ∀ H', Ext H H' → k (accessM (mpOf x.g fs) x.ms op.toNat A) H' := fun H' hE => by
    have := hk H' hE
    unfold access at this
    rwa [if_neg hb] at this
  have topc : ∀ n, hcell H1 ⟨x.top.p, n, none⟩ = (actV x.top)[n]? := h1.topR.row.cell
  have hlc := h1.topR.loc.len
  rw [List.length_map] at hlc
  refine Ld_int c0 (Jn.mk (fun j H' => H1 = H' ∧ j = decide (op = 2 ∨ op = 3)) (fun kk hkk => ?_) ?_)
  · refine Br.mk (fun h => hkk _ _ ⟨rfl, (decide_eq_true (.inl (beqI h))).symm⟩) fun h => hkk _ _ ⟨rfl, ?_⟩
    have := bneI h
    rw [Bool.eq_iff_iff, decide_eq_true_eq, beq_iff_eq]; omega
  rintro j _ ⟨rfl, rfl⟩
  refine Br_dec (fun h23 => ?_) fun h23 => ?_
  · have e : accessM (mpOf x.g fs) x.ms op.toNat A = decide (0 ≤ A ∧ A < (x.top.loc.length : Int)) := by rcases h23 with rfl | rfl <;> rfl
    rw [e] at hk
    refine Jn.mk (fun j H' => H1 = H' ∧ j = decide (0 ≤ A ∧ A < (x.top.loc.length : Int))) (fun kk hkk => ?_) (by rintro j _ ⟨rfl, rfl⟩; exact hk _ hE1)
    refine Ld_int c1 (Br_dec (fun h => Ld_int c1 (by simp only [NilCk_some, adr_add]; exact Ld_sl (s := x.top.ls) ((topc 4).trans rfl) (hkk _ _ ⟨rfl, decide_eq_decide.2 (by omega)⟩))) fun h => hkk _ _ ⟨rfl, (decide_eq_false (by omega)).symm⟩)
  have hE1' := h1.base
  refine Br.mk (fun h4 => ?_) fun h4 => ?_
  · have h4 := beqI h4; subst h4
    refine Ld_int c1 (Ld_sl (s := x.g.s.s 2) ((h1.run.1.cell 4).trans rfl) (Ld_sl (s := x.g.s.s 3) ((h1.run.1.cell 5).trans rfl) ?_))
    refine Nw_row (vs := [slV (x.g.s.s 2), slV (x.g.s.s 3)]) fun b2 H2 hb2 hE2 hz2 hr2 => Stab_1 (hE2.cell c1 fun h => h) ?_
    have h2 := h1.ext hE2
    have hs := h2.base
    refine s_holds (dl := ⟨some (adr b2), 2, 2⟩) (xs := [(x.g.s.s 2, x.g.s.l 2), (x.g.s.s 3, x.g.s.l 3)]) h2 hA ⟨hr2.rd_all, rfl, Nat.le_refl _⟩ (by simp) (fun y hy => ?_) fun H3 hE3 => ?_
    · simp only [List.mem_cons, List.not_mem_nil, or_false] at hy
      rcases hy with rfl | rfl
      · exact ⟨(hc.sets 2 (by decide)).ext hs, hc.setL 2 (by decide)⟩
      · exact ⟨(hc.sets 3 (by decide)).ext hs, hc.setL 3 (by decide)⟩
    · have h3 := h2.ext hE3
      refine Stab_2 ((h3.run.1.cell 5).trans rfl) ((h3.run.1.cell 4).trans rfl) ?_
      have := hk H3 ((hE1.trans hE2 fun _ _ h => h).trans hE3 fun _ _ h => h)
      have e : accessM (mpOf x.g fs) x.ms (4 : Int).toNat A = fieldOk x.ms.vals A (List.flatMap (fun y : Sl × List Int => y.2) [(x.g.s.s 2, x.g.s.l 2), (x.g.s.s 3, x.g.s.l 3)]) := by simp [accessM]
      rwa [e] at this
  have h4 := bneI h4
  refine Br.mk (fun h5 => ?_) fun h5 => ?_
  · have h5 := beqI h5; subst h5
    refine Ld_int c1 (Ld_sl (s := x.g.s.s 3) ((h1.run.1.cell 5).trans rfl) ?_)
    refine Nw_row (vs := [slV (x.g.s.s 3)]) fun b2 H2 hb2 hE2 hz2 hr2 => Stab_1 (hE2.cell c1 fun h => h) ?_
    have h2 := h1.ext hE2
    have hs := h2.base
    refine s_holds (dl := ⟨some (adr b2), 1, 1⟩) (xs := [(x.g.s.s 3, x.g.s.l 3)]) h2 hA ⟨hr2.rd_all, rfl, Nat.le_refl _⟩ (by simp) (fun y hy => ?_) fun H3 hE3 => ?_
    · rw [List.mem_singleton.1 hy]
      exact ⟨(hc.sets 3 (by decide)).ext hs, hc.setL 3 (by decide)⟩
    · have h3 := h2.ext hE3
      refine Stab_1 ((h3.run.1.cell 5).trans rfl) ?_
      have := hk H3 ((hE1.trans hE2 fun _ _ h => h).trans hE3 fun _ _ h => h)
      have e : accessM (mpOf x.g fs) x.ms (5 : Int).toNat A = fieldOk x.ms.vals A (List.flatMap (fun y : Sl × List Int => y.2) [(x.g.s.s 3, x.g.s.l 3)]) := by simp [accessM]
      rwa [e] at this
  have h5 := bneI h5
  have hfl := hc.fn.len
  refine Br.mk (fun h21 => ?_) fun h21 => ?_
  · have h21 := beqI h21; subst h21
    have e : accessM (mpOf x.g fs) x.ms (21 : Int).toNat A = decide (0 ≤ A ∧ A < (x.g.pF.len : Int) ∧ x.g.ls.len ≤ 16) := by
      show decide _ = _
      rw [hll, hfl]
      simp
    rw [e] at hk
    refine Jn.mk (fun j H' => H1 = H' ∧ j = decide (0 ≤ A ∧ A < (x.g.pF.len : Int) ∧ x.g.ls.len ≤ 16)) (fun kk hkk => ?_) (by rintro j _ ⟨rfl, rfl⟩; exact hk _ hE1)
    refine Ld_int c1 (Br_dec (fun h => Ld_int c1 (Ld_sl (s := x.g.pF) ((h1.run.1.cell 1).trans rfl) (Br_dec (fun h' => Ld_sl ((h1.run.1.cell 19).trans rfl) (hkk _ _ ⟨rfl, decide_eq_decide.2 (by omega)⟩)) fun h' => hkk _ _ ⟨rfl, (decide_eq_false (by omega)).symm⟩))) fun h => hkk _ _ ⟨rfl, (decide_eq_false (by omega)).symm⟩)
  have h21 := bneI h21
  refine Br.mk (fun h22 => ?_) fun h22 => ?_
  · have h22 := beqI h22; subst h22
    have := hk H1 hE1
    have e : accessM (mpOf x.g fs) x.ms (22 : Int).toNat A = decide ((x.g.ls.len : Int) > 1) := decide_eq_decide.2 (hln.trans (by omega))
    rwa [e] at this
  have h22 := bneI h22
  have hkl := h1.kv.1.len
  rw [flat_len ptV_len] at hkl
  refine Br.mk (fun h26 => ?_) fun h26 => ?_
  · have h26 := beqI h26; subst h26
    have e : accessM (mpOf x.g fs) x.ms (26 : Int).toNat A = (decide (0 ≤ A) && isKindB (A / 8) && decide (x.kp.length < 12)) := by
      show (_ && _ && decide ((x.kp.map PtP.pt).length < 12)) = _
      rw [List.length_map]
    rw [e] at hk
    refine Jn.mk (fun j H' => H1 = H' ∧ j = (decide (0 ≤ A) && isKindB (A / 8) && decide (x.kp.length < 12))) (fun kk hkk => ?_) (by rintro j _ ⟨rfl, rfl⟩; exact hk _ hE1)
    refine Ld_int c1 (Br_dec (fun h => Ld_int c1 ⟨by omega, ?_⟩) fun h => hkk _ _ ⟨rfl, ?_⟩)
    · rw [tdiv8 (by omega) hA]
      refine s_isKind (Br.mk (fun hi => Ld_sl (s := x.g.ks) ((h1.run.1.cell 20).trans rfl) (hkk _ _ ⟨rfl, ?_⟩)) fun hi => hkk _ _ ⟨rfl, ?_⟩)
      · rw [hi, decide_eq_true (by omega : 0 ≤ A), Bool.true_and, Bool.true_and]; exact decide_eq_decide.2 (by omega)
      · rw [hi, Bool.and_false, Bool.false_and]
    · rw [decide_eq_false (by omega), Bool.false_and, Bool.false_and]
  have h26 := bneI h26
  refine Br.mk (fun h28 => ?_) fun h28 => ?_
  · have h28 := beqI h28; subst h28
    have e : accessM (mpOf x.g fs) x.ms (28 : Int).toNat A = (decide (0 ≤ A) && isKindB (A / 8)) := rfl
    rw [e] at hk
    refine Jn.mk (fun j H' => H1 = H' ∧ j = (decide (0 ≤ A) && isKindB (A / 8))) (fun kk hkk => ?_) (by rintro j _ ⟨rfl, rfl⟩; exact hk _ hE1)
    refine Ld_int c1 (Br_dec (fun h => Ld_int c1 ⟨by omega, ?_⟩) fun h => hkk _ _ ⟨rfl, ?_⟩)
    · rw [tdiv8 (by omega) hA]
      refine s_isKind (hkk _ _ ⟨rfl, ?_⟩)
      rw [decide_eq_true (by omega : 0 ≤ A), Bool.true_and]
    · rw [decide_eq_false (by omega), Bool.false_and]
  have h28 := bneI h28
  refine Jn.mk (fun j H' => H1 = H' ∧ j = decide (op = 29 ∨ op = 35)) (fun kk hkk => ?_) ?_
  · refine Br.mk (fun h => hkk _ _ ⟨rfl, (decide_eq_true (.inl (beqI h))).symm⟩) fun h => hkk _ _ ⟨rfl, ?_⟩
    have := bneI h
    rw [Bool.eq_iff_iff, decide_eq_true_eq, beq_iff_eq]; omega
  rintro j _ ⟨rfl, rfl⟩
  refine Br_dec (fun h29 => ?_) fun h29 => ?_
  · have e : accessM (mpOf x.g fs) x.ms op.toNat A = isKindB A := by rcases h29 with rfl | rfl <;> rfl
    rw [e] at hk
    exact Ld_int c1 (s_isKind (hk _ hE1))
  · have e : accessM (mpOf x.g fs) x.ms op.toNat A = true := accessM_other (by omega)
    rw [e] at hk
    exact hk _ hE1
theorem bytesBeq (a b : ByteArray) : (a.toList == b.toList) = decide (a = b) := by
  rw [ByteArray.toList_eq, ByteArray.toList_eq]
  rw [Bool.eq_iff_iff, beq_iff_eq, decide_eq_true_eq]
  exact ⟨fun h => ByteArray.ext (Array.toList_inj.1 h), fun h => by rw [h]⟩
theorem s_Name {op : Int} {k : ByteArray → Heap → Prop} (hk : ∀ H' w, Ext H H' → (w = (⟨#[]⟩ : ByteArray) ↔ isOpB op = false) → k w H') : CallT Pg f_code_Name [.int .i64 op] (.one (.c .str)) H k := by
  refine c_code_Name _ ?_
  unfold v_code_Name
  refine s_isOp (Br.mk (fun h => ?_) fun h => ?_)
  · exact hk _ _ (.refl _ _) ⟨fun _ => by simpa using h, fun _ => rfl⟩
  · refine s_shapeOf fun H2 w hE2 hw => hk _ _ hE2 ⟨fun e => ?_, fun e => ?_⟩
    · have h : isOpB op = true := by simpa using h
      exact absurd (by have e' : w = (⟨#[]⟩ : ByteArray) := e; rw [e']; rfl) (hw h)
    · rw [e] at h; cases h
theorem s_room {H0 : Heap} {x : MG} (h : MacR H0 H x) {op : Int} {k : Bool → Heap → Prop} (hk : k (room x.ms op) H) : CallT Pg f_machine_run_room [.pointer (some (adr x.b)), .int .i64 op] (.one (.c .bool)) H k := by
  refine c_machine_run_room _ _ ?_
  unfold v_machine_run_room
  have hcl := h.cv.1.len
  have hel := h.ev.1.len
  rw [flat_len cmV_len] at hcl
  rw [flat_len evV_len] at hel
  simp only [NilCk_some, adr_add, mk_add]
  refine Jn.mk (fun j H' => H = H' ∧ j = decide (op = 27 ∨ op = 28 ∨ op = 29 ∨ op = 30)) (fun kk hkk => ?_) ?_
  · have e : ∀ b, b = decide (op = 27 ∨ op = 28 ∨ op = 29 ∨ op = 30) → kk b H := fun b hb => hkk _ _ ⟨rfl, hb⟩
    simp only [Jn]
    refine Br.mk (fun h => e _ (decide_eq_true (.inl (beqI h))).symm) fun h1 => ?_
    refine Br.mk (fun h => e _ (decide_eq_true (.inr (.inl (beqI h)))).symm) fun h2 => ?_
    refine Br.mk (fun h => e _ (decide_eq_true (.inr (.inr (.inl (beqI h))))).symm) fun h3 => ?_
    refine e _ ?_
    have h1 := bneI h1; have h2 := bneI h2; have h3 := bneI h3
    rw [Bool.eq_iff_iff, decide_eq_true_eq, beq_iff_eq]; omega
  rintro j _ ⟨rfl, rfl⟩
  unfold room at hk
  refine Br_dec (fun h1 => ?_) fun h1 => ?_
  · rw [if_pos h1] at hk
    refine Ld_sl (s := x.g.cs) ((h.run.1.cell 22).trans rfl) ?_
    have e : decide (x.ms.cmds.length < 16) = decide ((x.g.cs.len : Int) < 16) := decide_eq_decide.2 (by show (x.cl.map CmP.cm).length < 16 ↔ _; rw [List.length_map]; omega)
    rwa [e] at hk
  · rw [if_neg h1] at hk
    refine Br.mk (fun h2 => ?_) fun h2 => ?_
    · rw [if_pos (beqI h2)] at hk
      refine Ld_sl (s := x.g.es) ((h.run.1.cell 23).trans rfl) ?_
      have e : decide (x.ms.evs.length < 16) = decide ((x.g.es.len : Int) < 16) := decide_eq_decide.2 (by show x.evs.length < 16 ↔ _; omega)
      rwa [e] at hk
    · rw [if_neg (bneI h2)] at hk
      exact hk
theorem s_ready {H0 : Heap} {x : MG} {fs : List Rou} {ins : List (Int × Int × Int)} (h : MacR H0 H x) (hc : CtxR H0 x.g.pF x.g.s x.g.inS fs ins) (hcode : ∀ i ∈ x.top.r.code, I64 i.2) (hsl : x.top.stk.length ≤ 2 ^ 40) {k : (Int × Int) × Int → Heap → Prop}
    (hk : ∀ H' i, Ext H H' → (ready (mpOf x.g fs) x.ms = 0 → i = x.top.r.code[x.top.nx.toNat]!) → k (i, ready (mpOf x.g fs) x.ms) H') :
    CallT Pg f_machine_run_ready [.pointer (some (adr x.b))] (.tup [(.agg [(.int .i64), (.int .i64)]), (.c (.int .i64))]) H k := by
  refine c_machine_run_ready _ ?_
  unfold v_machine_run_ready
  refine Nw_row (vs := [.int .i64 0, .int .i64 0]) fun b1 H1 hb1 hE1 hz1 hr1 => ?_
  have h1 := h.ext hE1
  have topc : ∀ n, hcell H1 ⟨x.top.p, n, none⟩ = (actV x.top)[n]? := h1.topR.row.cell
  have hcd : CodeR H1 x.top.r := (h.codes x.top (by simp)).ext h1.base
  have hcl := hcd.len
  have hnx := h.topR.nxr
  have hP : (mpOf x.g fs).ps = parms fs := by simp [MP.ps, parms]
  have hko : ∀ (i : Ins) (e : Int), ready (mpOf x.g fs) x.ms = e → (e = 0 → i = x.top.r.code[x.top.nx.toNat]!) → ∀ Hx, Ext H Hx → Row Hx b1 T_api_Instr [.int .i64 0, .int .i64 0] →
      St ((adr b1).add 0) (.int .i64 i.1) Hx (fun H4 => St ((adr b1).add 1) (.int .i64 i.2) H4 fun H5 => LdC [(.int .i64), (.int .i64)] (adr b1) H5 fun (c1 : Int × Int) => k (((c1.1, c1.2), e)) H5) := fun i e he hi Hx hEx hrx => by
    simp only [adr_add]
    refine St_row hrx (by simp) fun H4 hU4 _ hr4 => St_row hr4 (by simp) fun H5 hU5 _ hr5 => ⟨(i.1, i.2), hr5.rd_all, ?_⟩
    have := hk H5 i (extUpd hEx (by omega) (hU4.trans hU5 fun _ _ e => e)) fun e' => hi (he.symm.trans e')
    rwa [he] at this
  have rb1 : ∀ {H'}, Ext H1 H' → Row H' b1 T_api_Instr [.int .i64 0, .int .i64 0] := fun hE => hE.row hr1 fun h => h
  refine s_last h1 ?_
  simp only [NilCk_some, adr_add, mk_add] at hko ⊢
  refine Jn.mk (fun j H' => H1 = H' ∧ j = decide (¬ (0 ≤ x.top.nx ∧ x.top.nx < (x.top.r.code.length : Int)))) (fun kk hkk => ?_) ?_
  · refine Ld_int (n := x.top.v) ((topc 6).trans rfl) (Br_dec (fun h => hkk _ _ ⟨rfl, (decide_eq_true (by rcases hnx with e | e <;> omega)).symm⟩) fun h => ?_)
    refine Ld_int (n := x.top.v) ((topc 6).trans rfl) (Ld_sl (s := x.top.r.sl) ((topc 3).trans rfl) (hkk _ _ ⟨rfl, decide_eq_decide.2 (by rcases hnx with e | e <;> omega)⟩))
  rintro j _ ⟨rfl, rfl⟩
  refine Br_dec (fun hj => hko (0, 0) 150 (by unfold ready; exact if_pos hj) (fun e => by cases e) _ hE1 hr1) fun hj => ?_
  have hnx2 := Decidable.not_not.1 hj
  have hv : x.top.v = x.top.nx := by rcases hnx with e | e <;> omega
  refine Ld_int (n := x.g.si) ((h1.run.1.cell 27).trans rfl) ?_
  refine Br_dec (fun hs => hko (0, 0) 153 (by unfold ready; rw [if_neg hj]; exact if_pos hs) (fun e => by cases e) _ hE1 hr1) fun hs => ?_
  refine Ld_sl (s := x.top.r.sl) ((topc 3).trans rfl) (Ld_int (n := x.top.v) ((topc 6).trans rfl) ?_)
  rw [hv]
  have hin : x.top.nx.toNat < x.top.r.code.length := by omega
  refine IxA_rn' insV_len hcd (by decide) (j := x.top.nx.toNat) (by omega) hin fun a7 ha7 => ?_
  generalize hi : x.top.r.code[x.top.nx.toNat]! = i at *
  have hi64 : I64 i.2 := hcode i (by rw [← hi, getElem!_pos x.top.r.code _ hin]; exact List.getElem_mem _)
  refine ⟨(i.1, i.2), ha7, ?_⟩
  refine Nw_row (vs := [.int .i64 0, .int .i64 0]) fun b2 H2 hb2 hE2 hz2 hr2 => ?_
  have h2 := h1.ext hE2
  have topc2 : ∀ n, hcell H2 ⟨x.top.p, n, none⟩ = (actV x.top)[n]? := h2.topR.row.cell
  have ha72 := hcells_ext hE2 ha7
  refine Stab_all (fun y hy => ?_) ?_
  · simp only [List.mem_cons, List.not_mem_nil, or_false] at hy
    rcases hy with rfl | rfl | rfl | rfl
    · have := ha72.1; simpa using this
    · have := ha72.2.1; simpa using this
    · dsimp only; rw [← hv]; exact (topc2 6).trans rfl
    · exact (topc2 3).trans rfl
  refine St_row hr2 (by simp) fun H3 hU3 _ hr3 => St_row hr3 (by simp) fun H4 hU4 _ hr4 => ?_
  have hE4 : Ext H1 H4 := extUpd hE2 (by omega) (hU3.trans hU4 fun _ _ e => e)
  have c0 : ∀ {H'}, Ext H4 H' → hcell H' (adr b2) = some (.int .i64 i.1) := fun hE => ((hE.row hr4 fun h => h).cell 0).trans rfl
  have cc : ∀ {H'}, Ext H4 H' → hcells H' (adr b2) 0 [.int .i64 i.1, .int .i64 i.2] := fun hE => (hE.row hr4 fun h => h).rd_all
  refine Ld_int (c0 (.refl _ _)) (s_Name fun H5 w hE5 hw => ?_)
  have hE15 := hE4.trans hE5 fun _ _ h => h
  rw [bytesBeq]
  have fin : ∀ (e : Int), ready (mpOf x.g fs) x.ms = e → ∀ Hx, Ext H4 Hx → LdC [(.int .i64), (.int .i64)] (adr b2) Hx fun (c4 : Int × Int) => St ⟨b1, 0, none⟩ (.int .i64 c4.1) Hx (fun H4 => St ⟨b1, 1, none⟩ (.int .i64 c4.2) H4 fun H5 => LdC [(.int .i64), (.int .i64)] (adr b1) H5 fun (c1 : Int × Int) => k (((c1.1, c1.2), e)) H5) := fun e he Hx hEx =>
    ⟨(i.1, i.2), cc hEx, hko i e he (fun _ => rfl) Hx (hE1.trans (hE4.trans hEx fun _ _ h => h) fun _ _ h => h) (rb1 (hE4.trans hEx fun _ _ h => h))⟩
  refine Br_dec (fun hwe => fin 152 ?_ _ hE5) fun hwe => ?_
  · unfold ready
    rw [if_neg hj, if_neg hs, if_pos]
    show isOpB (x.top.r.code[x.top.nx.toNat]!).1 = false
    rw [hi]; exact hw.1 hwe
  have hop : ¬ isOpB i.1 = false := fun e => hwe (hw.2 e)
  refine ⟨(i.1, i.2), cc hE5, ?_⟩
  have h5 := h1.ext hE15
  refine Ld_sl (s := x.g.pF) ((h5.run.1.cell 1).trans rfl) (s_Effect (i := i) (hc.fn.ext h5.base) fun H6 hE6 => ?_)
  have hE46 := hE5.trans hE6 fun _ _ h => h
  have hE16 := hE15.trans hE6 fun _ _ h => h
  have h6 := h5.ext hE6
  have hsk := h6.topR.stk.len
  rw [List.length_map] at hsk
  have topc6 : ∀ n, hcell H6 ⟨x.top.p, n, none⟩ = (actV x.top)[n]? := h6.topR.row.cell
  have hpb := puts_bd i
  have htb := takes_bd (parms fs) i
  dsimp only
  refine Jn.mk (fun j H' => H6 = H' ∧ j = decide ((x.top.stk.length : Int) < takes (parms fs) i ∨ (x.top.stk.length : Int) - takes (parms fs) i + puts i > 64)) (fun kk hkk => ?_) ?_
  · refine Ld_sl (s := x.top.ss) ((topc6 5).trans rfl) (Br_dec (fun h => hkk _ _ ⟨rfl, (decide_eq_true (by omega)).symm⟩) fun h => Ld_sl (s := x.top.ss) ((topc6 5).trans rfl) ?_)
    refine Lt.mk (u := (x.top.stk.length : Int) - takes (parms fs) i) (by rw [wrap_i64_id (by omega) (by omega)]; omega) (Lt.mk (u := (x.top.stk.length : Int) - takes (parms fs) i + puts i) (by rw [wrap_i64_id (by omega) (by omega)]) (hkk _ _ ⟨rfl, decide_eq_decide.2 (by omega)⟩))
  rintro j _ ⟨rfl, rfl⟩
  have hop' : ¬ isOpB (x.ms.top.fn.code[x.ms.top.nx.toNat]!).1 = false := by
    show ¬ isOpB (x.top.r.code[x.top.nx.toNat]!).1 = false
    rw [hi]; exact hop
  refine Br_dec (fun hst => fin 151 ?_ _ hE46) fun hst => ?_
  · unfold ready
    rw [if_neg hj, if_neg hs, if_neg hop', if_pos]
    show (x.top.stk.length : Int) < takes (mpOf x.g fs).ps x.top.r.code[x.top.nx.toNat]! ∨ _
    rw [hi, hP]; exact hst
  have hst' : ¬ ((x.ms.top.stk.length : Int) < takes (mpOf x.g fs).ps x.ms.top.fn.code[x.ms.top.nx.toNat]! ∨ (x.ms.top.stk.length : Int) - takes (mpOf x.g fs).ps x.ms.top.fn.code[x.ms.top.nx.toNat]! + puts x.ms.top.fn.code[x.ms.top.nx.toNat]! > 64) := by
    show ¬ ((x.top.stk.length : Int) < takes (mpOf x.g fs).ps x.top.r.code[x.top.nx.toNat]! ∨ _)
    rw [hi, hP]; exact hst
  refine ⟨(i.1, i.2), cc hE46, s_access h6 hc hi64 fun H7 hE7 => ?_⟩
  have hE47 := hE46.trans hE7 fun _ _ h => h
  have h7 := h6.ext hE7
  have hac : access (mpOf x.g fs) x.ms x.ms.top.fn.code[x.ms.top.nx.toNat]! = access (mpOf x.g fs) x.ms i := by
    show access _ _ x.top.r.code[x.top.nx.toNat]! = _
    rw [hi]
  refine Br.mk (fun ha => fin 152 ?_ _ hE47) fun ha => ?_
  · unfold ready
    rw [if_neg hj, if_neg hs, if_neg hop', if_neg hst', if_pos]
    rw [hac]; simpa using ha
  have ha' : ¬ access (mpOf x.g fs) x.ms x.ms.top.fn.code[x.ms.top.nx.toNat]! = false := by
    rw [hac]; simpa using ha
  have hro : room x.ms (x.ms.top.fn.code[x.ms.top.nx.toNat]!).1 = room x.ms i.1 := by
    show room _ (x.top.r.code[x.top.nx.toNat]!).1 = _
    rw [hi]
  refine Ld_int (c0 hE47) (s_room h7 (Br.mk (fun hr => fin 102 ?_ _ hE47) fun hr => fin 0 ?_ _ hE47))
  · unfold ready
    rw [if_neg hj, if_neg hs, if_neg hop', if_neg hst', if_neg ha', if_pos]
    rw [hro]; simpa using hr
  · unfold ready
    rw [if_neg hj, if_neg hs, if_neg hop', if_neg hst', if_neg ha', if_neg]
    rw [hro]; simpa using hr
end Go.Proofs.YtfpmgpblhhcpgaaGreat
