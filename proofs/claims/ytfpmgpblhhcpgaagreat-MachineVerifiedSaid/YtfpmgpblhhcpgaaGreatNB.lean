/-
  Machine: the run's loop.
-/
import Derived.Test.YtfpmgpblhhcpgaaGreatMN
import Derived.Test.YtfpmgpblhhcpgaaGreatMB
import Derived.Sort.EveryDepth
import Derived.Test.YtfpmgpblhhcpgaaGreatVMacB
namespace Go.Proofs.YtfpmgpblhhcpgaaGreat
set_option linter.unusedVariables false
set_option linter.unusedSimpArgs false
set_option maxRecDepth 100000
section
open Hc Hc.Vf Hc.Mc Hc.Dice
variable {H : Heap}
theorem stat_ctx {g g' : RunG} (h : stat g' = stat g) : g'.pF = g.pF ∧ g'.s = g.s ∧ g'.inS = g.inS ∧ g'.n = g.n ∧ g'.fr = g.fr ∧ g'.sd = g.sd ∧ g'.ix = g.ix ∧ g'.gn = g.gn ∧ g'.mp = g.mp := by
  simp only [stat, Prod.mk.injEq] at h
  obtain ⟨_, h2, h3, h4, h5, h6, _, h8, h9, h10, _, h12, _⟩ := h
  exact ⟨h2, h3, h8, h4, h5, h6, h9, h10, h12⟩
theorem stat_mp {g g' : RunG} (h : stat g' = stat g) (fs : List Rou) : mpOf g' fs = mpOf g fs := by
  obtain ⟨_, h3, _, h4, _⟩ := stat_ctx h
  unfold mpOf; rw [h3, h4]
theorem stat_en {g g' : RunG} (h : stat g' = stat g) (ins : List (Int × Int × Int)) : enOf g' ins = enOf g ins := by
  obtain ⟨_, _, _, _, h5, h6, h9, h10, _⟩ := stat_ctx h
  unfold enOf; rw [h5, h6, h9, h10]
theorem act_meas {P : MP} {E : En} {m m1 : Ms} {l : List Int} {op : Nat} {A : Int} (e1 : m1.steps = m.steps) (e2 : m1.since = m.since + 1) (h : (act P E m m1 l op A).1 = 0) :
    ((act P E m m1 l op A).2.steps = m.steps ∧ (act P E m m1 l op A).2.since = m.since + 1) ∨ ((act P E m m1 l op A).2.steps = m.steps + 1 ∧ (act P E m m1 l op A).2.since = 0) := by
  unfold act at h ⊢
  split
  case h_7 => dsimp only; split <;> exact .inl ⟨e1, e2⟩
  case h_8 =>
    split
    · exact .inr ⟨rfl, rfl⟩
    · rename_i hn; dsimp only at h; rw [if_neg hn] at h; cases h
  case h_11 =>
    split
    · exact .inr ⟨rfl, rfl⟩
    · rename_i hn
      revert h
      show ((if m.steps + 1 ≤ 2000 then ((0 : Int), ({ m1 with steps := m.steps + 1, since := 0 } : Ms)) else (120, { m1 with steps := m.steps + 1 })).1 = 0) → _
      rw [if_neg hn]
      intro h; cases h
  all_goals exact .inl ⟨e1, e2⟩
theorem does_meas {P : MP} {E : En} {m : Ms} {i : Ins} (h : (does P E m i).1 = 0) : ((does P E m i).2.steps = m.steps ∧ (does P E m i).2.since = m.since + 1) ∨ ((does P E m i).2.steps = m.steps + 1 ∧ (does P E m i).2.since = 0) := by
  unfold does at h ⊢
  dsimp only at h ⊢
  split
  · exact .inl ⟨rfl, rfl⟩
  split
  · exact .inl ⟨rfl, rfl⟩
  rename_i h1 h2
  rw [if_neg h1, if_neg h2] at h
  exact act_meas rfl rfl h
structure OutR (lo : Nat) (H : Heap) (vs cs es : Sl) (ps : List PtP) (cl : List CmP) (evs : List Ev) : Prop where
  vv : VecN H TQai 2 vs (ps.flatMap ptV)
  vR : ∀ q ∈ ps, Vec H TQaq q.sl (ints q.vals)
  cv : VecN H TQac 6 cs (cl.flatMap cmV)
  cR : ∀ q ∈ cl, Vec H TQaq q.vsl (ints q.vals) ∧ VecN H TQai 2 q.psl (q.parts.flatMap ptV) ∧ ∀ p ∈ q.parts, Vec H TQaq p.sl (ints p.vals)
  ev : VecN H TQaf 5 es (evs.flatMap evV)
  ap : (ps.map PtP.sl ++ cl.flatMap cmSl).Pairwise Apart
  pa : (vs :: cl.map CmP.psl).Pairwise Apart
  new : ∀ s ∈ vs :: cs :: es :: (ps.map PtP.sl ++ cl.flatMap cmSl ++ cl.map CmP.psl), ∀ b, s.a = some (adr b) → lo ≤ b
theorem run_turn (hin : InputOk) {B : Heap} {x : MG} {fs : List Rou} {ins : List (Int × Int × Int)} (h : MacR B H x) (hc : CtxR B x.g.pF x.g.s x.g.inS fs ins) (her : x.g.er = 0) (hP : POk (mpOf x.g fs)) (hE : EOk (enOf x.g ins)) (hM : MOk (mpOf x.g fs) x.ms) (hov : x.g.ov = false) {k : Int → Heap → Prop}
    (hbad : ∀ H' x' e n m', MacR B H' x' → x'.b = x.b → Runs (mpOf x.g fs) (enOf x.g ins) x.ms n e m' → e ≠ 0 → x'.g.st = m'.steps → k e H')
    (hgo : ∀ H' x', MacR B H' x' → x'.b = x.b → stat x'.g = stat x.g → x'.g.er = 0 → MOk (mpOf x.g fs) x'.ms → (∀ n e m', Runs (mpOf x.g fs) (enOf x.g ins) x'.ms n e m' → Runs (mpOf x.g fs) (enOf x.g ins) x.ms (n + 1) e m') →
      ((2001 - x'.g.st) * 40001 + (40000 - x'.g.si)).toNat < ((2001 - x.g.st) * 40001 + (40000 - x.g.si)).toNat → k 0 H') :
    CallT Pg fQad [.pointer (some (adr x.b))] (.tup [(.agg [(.int .i64), (.int .i64)]), (.c (.int .i64))]) H fun (r3 : (Int × Int) × Int) H27 =>
      Nw #[.int .i64 0, .int .i64 0] TQag H27 fun b8 H28 => St ⟨b8, 0, none⟩ (.int .i64 r3.1.1) H28 fun H29 => St ⟨b8, 1, none⟩ (.int .i64 r3.1.2) H29 fun H30 =>
      Br (r3.2 == 0) (LdC [(.int .i64), (.int .i64)] (adr b8) H30 fun (c7 : Int × Int) => CallT Pg fQae [.pointer (some (adr x.b)), .agg #[.int .i64 c7.1, .int .i64 c7.2]] (.tup []) H30 fun (r4 : Unit) H32 =>
        Ld (.int .i64) ⟨x.b, 25, none⟩ H32 fun (x14 : Int) => k x14 H32) (k r3.2 H30) := by
  have hcode : ∀ i ∈ x.top.r.code, I64 i.2 := fun i hi => ((hM.top.fnOk hP).code i hi).2
  have hstk : x.top.stk.length ≤ 64 := hM.top.stk
  refine s_ready h hc hcode (by omega) fun H1 i hE1 hi => ?_
  have h1 := h.ext hE1
  refine Nw_row (vs := [.int .i64 0, .int .i64 0]) fun b8 H2 hb8 hE2 hz2 hr2 => ?_
  refine St_row hr2 (by simp) fun H3 hU3 _ hr3 => St_row hr3 (by simp) fun H4 hU4 _ hr4 => ?_
  have hE4 : Ext H1 H4 := extUpd hE2 (by omega) (hU3.trans hU4 fun _ _ e => e)
  have h4 := h1.ext hE4
  dsimp only
  refine Br.mk (fun hz => ?_) fun hz => ?_
  · have hz := beqI hz
    have hi := hi hz
    have hrdy := ready_iff hz
    have hi' : x.ms.top.fn.code[x.ms.top.nx.toNat]! = i := hi.symm
    rw [hi'] at hrdy
    refine ⟨(i.1, i.2), hr4.rd_all, s_does (i := i) hin h4 hc her hP hM hrdy fun H5 x' hp => ?_⟩
    have hd := hM.does hP hE hrdy
    have hstep : stepM (mpOf x.g fs) (enOf x.g ins) x.ms = does (mpOf x.g fs) (enOf x.g ins) x.ms i := by
      unfold stepM
      rw [if_pos hz, hi']
    have hov' : x.ms.over = false := hov
    refine Ld_int (n := x'.g.er) ((by have := hp.mac.run.1; rw [hp.b] at this; exact (this.cell 25).trans rfl)) ?_
    rw [hp.er]
    rcases hd with ⟨h0, hmo⟩ | ⟨h120, hst⟩
    · rw [h0]
      have hms := hp.ms h0
      rw [← hms] at hmo
      refine hgo H5 x' hp.mac hp.b hp.st (hp.er.trans h0) hmo (fun n e m' hr => ?_) ?_
      · refine .step hov' (by rw [hstep]; exact h0) ?_
        rw [hstep, ← hms]; exact hr
      · have hme := does_meas h0
        rw [← hms] at hme
        have hme : (x'.g.st = x.g.st ∧ x'.g.si = x.g.si + 1) ∨ (x'.g.st = x.g.st + 1 ∧ x'.g.si = 0) := hme
        have h1 : 0 ≤ x.g.st ∧ x.g.st ≤ 2000 := hM.steps
        have h2 : 0 ≤ x'.g.st ∧ x'.g.st ≤ 2000 := hmo.steps
        have h3 : 0 ≤ x.g.si ∧ x.g.si ≤ 40000 := hM.since
        have h4 : 0 ≤ x'.g.si ∧ x'.g.si ≤ 40000 := hmo.since
        omega
    · rw [h120]
      refine hbad H5 x' 120 1 _ hp.mac hp.b (?_ : Runs _ _ x.ms 1 120 (does (mpOf x.g fs) (enOf x.g ins) x.ms i).2) (by decide) (hp.steps)
      have := Runs.bad (P := mpOf x.g fs) (E := enOf x.g ins) hov' (by rw [hstep, h120]; decide)
      rwa [hstep, h120] at this
  · have hz := bneI hz
    refine hbad H4 x _ 1 x.ms h4 rfl ?_ hz rfl
    have hstep : stepM (mpOf x.g fs) (enOf x.g ins) x.ms = (ready (mpOf x.g fs) x.ms, x.ms) := by
      unfold stepM
      rw [if_neg hz]
    have := Runs.bad (P := mpOf x.g fs) (E := enOf x.g ins) (m := x.ms) hov (by rw [hstep]; exact hz)
    rwa [hstep] at this
end
section
open Hc Hc.Vf Hc.Mc Hc.Dice
variable {H : Heap}
structure EnV where
  fr : Int
  sd : Int
  en : Int
  inS : Sl
  ix : Int
  gn : Int
  rp : Sl
abbrev envA (e : EnV) : Value := .agg #[.int .i64 e.fr, .int .i64 e.sd, .int .i64 e.en, .slice e.inS.a e.inS.len e.inS.cap, .int .i64 e.ix, .int .i64 e.gn, .slice e.rp.a e.rp.len e.rp.cap]
abbrev envL (e : EnV) : List Value := [.int .i64 e.fr, .int .i64 e.sd, .int .i64 e.en, slV e.inS, .int .i64 e.ix, .int .i64 e.gn, slV e.rp]
abbrev mpS (s : Sy) (n : Int) (fs : List Rou) : MP := ⟨fs.map fnOf, fnOf s.rou, s.l 2, s.l 3, n, 2 ^ 40⟩
abbrev enS (e : EnV) (ins : List (Int × Int × Int)) : En := ⟨e.fr, e.sd, e.ix, e.gn, ins⟩
abbrev g0 (p : Sl × Sl) (s : Sy) (n : Int) (e : EnV) (mp dp : Nat) : RunG := ⟨p.1, p.2, s, n, e.fr, e.sd, e.en, e.inS, e.ix, e.gn, e.rp, mp, ⟨none, 0, 0⟩, ⟨none, 0, 0⟩, ⟨none, 0, 0⟩, ⟨none, 0, 0⟩, 0, 0, dp, 0, false⟩
open Classical in
theorem mac_init {B : Heap} {p : Sl × Sl} {s : Sy} {n : Int} {e : EnV} {mp dp b b7 : Nat} {es : List PtP} {t : AP} (hB : Ext B H) (he : EsR B.size H mp es) (hr : Row H b TQat (runV { g0 p s n e mp dp with ls := ⟨some (adr b7), 1, 1⟩ })) (hb : B.size ≤ b)
    (hdp : Row H dp TQam [.int .u64 (newS e.sd e.fr n e.ix)]) (hdl : B.size ≤ dp) (ht : ActR H t) (htb : ∀ x, ActB t x → B.size ≤ x ∧ ∀ q ∈ es, q.sl.a ≠ some (adr x)) (h7 : Row H b7 TQaa [.pointer (some (adr t.p))]) (h7l : B.size ≤ b7) (hc : CodeR B t.r) :
    ∃ c, MacR B H ⟨c, b, { g0 p s n e mp dp with ls := ⟨some (adr b7), 1, 1⟩ }, [], t, es, newS e.sd e.fr n e.ix, [], [], []⟩ := by
  have mpne : ∀ {x : Nat} {T : TypeId} {vs : List Value}, Row H x T vs → x ≠ mp := fun {x T vs} h e => by
    have := he.map
    rw [← e] at this
    unfold Row at h
    rw [h] at this; cases this
  have vne : ∀ {sl : Sl} {vs : List Value} {x : Nat} {T : TypeId} {ws : List Value}, Vec H TQaq sl vs → sl.a = some (adr x) → Row H x T ws → TQaq ≠ T → False := fun hv ha hr hT => hv.ne ha hr hT rfl
  have vmp : ∀ {sl : Sl} {vs : List Value} {x : Nat}, Vec H TQaq sl vs → sl.a = some (adr x) → x ≠ mp := fun {sl vs x} hv ha => by
    rcases hv.own with ⟨h1, _⟩ | ⟨c, sp, h1, h2, _⟩
    · rw [h1] at ha; cases ha
    · rw [h1] at ha; cases ha; exact mpne h2
  refine ⟨fun x => if x = b then 200 else if x = b7 then 201 else if x = dp then 205 else if x = mp then 206 else if ∃ q ∈ es, q.sl.a = some (adr x) then 100 else 0, ?_⟩
  have b7b : b7 ≠ b := h7.ne hr (by decide)
  have dpb : dp ≠ b := hdp.ne hr (by decide)
  have dp7 : dp ≠ b7 := hdp.ne h7 (by decide)
  have esne : ∀ q ∈ es, ∀ x, q.sl.a = some (adr x) → x ≠ b ∧ x ≠ b7 ∧ x ≠ dp ∧ x ≠ mp := fun q hq x hx =>
    ⟨fun e => vne (he.esR q hq) hx (e ▸ hr) (by decide), fun e => vne (he.esR q hq) hx (e ▸ h7) (by decide), fun e => vne (he.esR q hq) hx (e ▸ hdp) (by decide), vmp (he.esR q hq) hx⟩
  have tne : ∀ x, ActB t x → x ≠ b ∧ x ≠ b7 ∧ x ≠ dp ∧ x ≠ mp := fun x hx => by
    rcases hx with rfl | hx | hx
    · exact ⟨ht.row.ne hr (by decide), ht.row.ne h7 (by decide), ht.row.ne hdp (by decide), mpne ht.row⟩
    · exact ⟨fun e => vne ht.loc hx (e ▸ hr) (by decide), fun e => vne ht.loc hx (e ▸ h7) (by decide), fun e => vne ht.loc hx (e ▸ hdp) (by decide), vmp ht.loc hx⟩
    · exact ⟨fun e => vne ht.stk hx (e ▸ hr) (by decide), fun e => vne ht.stk hx (e ▸ h7) (by decide), fun e => vne ht.stk hx (e ▸ hdp) (by decide), vmp ht.stk hx⟩
  exact {
    base := hB
    run := ⟨hr, hb, if_pos rfl⟩
    lv := ⟨⟨rfl, .inr ⟨b7, [], rfl, by simpa [ptrs] using h7, by simp⟩, Nat.le_refl _⟩, fun x hx => by cases hx; exact ⟨h7l, by dsimp only; rw [if_neg b7b, if_pos rfl]⟩⟩
    lowR := fun i hi => by cases hi
    topR := ht
    topI := fun x hx => ⟨(htb x hx).1, by
      obtain ⟨h1, h2, h3, h4⟩ := tne x hx
      dsimp only
      rw [if_neg h1, if_neg h2, if_neg h3, if_neg h4, if_neg]
      · rfl
      · rintro ⟨q, hq, e⟩; exact (htb x hx).2 q hq e⟩
    codes := fun a ha => by rw [List.mem_singleton.1 ha]; exact hc
    lowl := Nat.zero_le _
    dice := ⟨hdp, hdl, by dsimp only; rw [if_neg dpb, if_neg dp7, if_pos rfl]⟩
    map := ⟨he.map, he.mlo, by dsimp only; rw [if_neg (fun e => mpne hr e.symm), if_neg (fun e => mpne h7 e.symm), if_neg (fun e => mpne hdp e.symm), if_pos rfl]⟩
    esR := fun q hq => ⟨he.esR q hq, fun x hx => ⟨he.eslo q hq x hx, by
      obtain ⟨h1, h2, h3, h4⟩ := esne q hq x hx
      dsimp only
      rw [if_neg h1, if_neg h2, if_neg h3, if_neg h4, if_pos ⟨q, hq, hx⟩]⟩⟩
    esA := he.esA
    esK := he.esK
    kv := VecNC.nil _ _ _ _ _ _
    kR := fun q hq => by cases hq
    cv := VecNC.nil _ _ _ _ _ _
    cR := fun q hq => by cases hq
    outA := List.Pairwise.nil
    parA := List.Pairwise.nil
    ev := VecNC.nil _ _ _ _ _ _ }
end
section
open Hc Hc.Vf Hc.Mc Hc.Dice
variable {H : Heap}
theorem put_len (l : List Pt) (k : Int) (f : Nat) (x : Int) : (putV l k f x).length = l.length := by
  induction l with
  | nil => rfl
  | cons p r ih => unfold putV; split <;> simp [ih]
theorem act_vals {P : MP} {E : En} {m m1 : Ms} {l : List Int} {op : Nat} {A : Int} (h : m1.vals.length = m.vals.length) : (act P E m m1 l op A).2.vals.length = m.vals.length := by
  unfold act
  split
  case h_5 => exact put_len _ _ _ _
  case h_7 => dsimp only; split <;> exact h
  case h_8 => split <;> exact h
  case h_11 => split <;> exact h
  all_goals exact h
theorem step_vals {P : MP} {E : En} {m : Ms} : (stepM P E m).2.vals.length = m.vals.length := by
  unfold stepM
  split
  · unfold does
    dsimp only
    split
    · rfl
    split
    · rfl
    exact act_vals rfl
  · rfl
theorem runs_vals {P : MP} {E : En} {m m' : Ms} {N : Nat} {er : Int} (h : Runs P E m N er m') : m'.vals.length = m.vals.length := by
  induction h with
  | over _ => rfl
  | bad _ _ => exact step_vals
  | step _ _ _ ih => exact ih.trans step_vals
theorem firsts_len : ∀ (l acc : List Pt), (l.foldl addF acc).length ≤ acc.length + l.length
  | [], acc => by simp
  | p :: l, acc => by
    have := firsts_len l (addF acc p)
    have h2 : (addF acc p).length ≤ acc.length + 1 := by unfold addF; split <;> simp
    simp only [List.foldl_cons, List.length_cons]
    omega
theorem ActR.ext' {H' : Heap} (h : Ext H H') {x : AP} (hx : ActR H x) : ActR H' x := hx.upd h fun _ _ h => h
theorem firsts_sub : ∀ (l acc : List Pt) (P : Pt → Prop), (∀ p ∈ acc, P p) → (∀ p ∈ l, P p) → ∀ p ∈ l.foldl addF acc, P p
  | [], _, _, ha, _ => ha
  | q :: l, acc, P, ha, hl => by
    refine firsts_sub l _ P (fun p hp => ?_) fun p hp => hl p (by simp [hp])
    unfold addF at hp
    split at hp
    · rcases List.mem_append.1 hp with hp | hp
      · exact ha p hp
      · rw [List.mem_singleton.1 hp]; exact hl q (by simp)
    · exact ha p hp
theorem init_ok {P : MP} {E : En} {ps : List Pt} (hP : POk P) (h : ∀ p ∈ ps, All64 p.vals) : MOk P (initM P E (firsts ps)) where
  low := fun a ha => by cases ha
  top := ⟨.inl rfl, by simp [initM], (fun x hx => by cases hx), locals_len _ _ (by simp), locals_64 (fun x hx => by cases hx), by dsimp only [initM]; omega⟩
  lowl := Nat.zero_le _
  vals := firsts_sub ps [] (fun p => All64 p.vals) (fun p hp => by cases hp) h
  dice := newS_bd _ _ _ _
  since := by dsimp only [initM]; omega
  steps := by dsimp only [initM]; omega
  kept := Nat.zero_le _
  keptK := fun p hp => by cases hp
  cmds := Nat.zero_le _
  evs := Nat.zero_le _
theorem parts_apart {es : List PtP} (hA : es.Pairwise fun p q => Apart p.sl q.sl) {ks : List Int} (hk : ks.Nodup) : ((partsOf es ks).map PtP.sl).Pairwise Apart := by
  rw [List.pairwise_map]
  unfold partsOf
  rw [List.pairwise_filterMap]
  refine hk.imp fun {a a'} hne q hq q' hq' => ?_
  have h1 := List.mem_of_find?_eq_some hq
  have h2 := List.mem_of_find?_eq_some hq'
  have e1 : q.kind = a := by have := List.find?_some hq; simpa using this
  have e2 : q'.kind = a' := by have := List.find?_some hq'; simpa using this
  obtain ⟨i, hi, ei⟩ := List.getElem_of_mem h1
  obtain ⟨j, hj, ej⟩ := List.getElem_of_mem h2
  have hij : i ≠ j := fun e => by subst e; exact hne (by rw [← e1, ← e2, ← ei, ← ej])
  rcases Nat.lt_or_ge i j with h | h
  · have := List.pairwise_iff_getElem.1 hA i j hi hj h
    rw [ei, ej] at this; exact this
  · have := List.pairwise_iff_getElem.1 hA j i hj hi (by omega)
    rw [ei, ej] at this; exact this.symm
theorem parts_mem {es : List PtP} {ks : List Int} {q : PtP} (h : q ∈ partsOf es ks) : q ∈ es := by
  obtain ⟨k, _, hk⟩ := List.mem_filterMap.1 h
  exact List.mem_of_find?_eq_some hk
abbrev RunT : RTy := .one (.agg [.sl, .sl, .sl, (.int .i64), (.int .i64)])
theorem s_Run (hin : InputOk) {p : Sl × Sl} {ss : List Sy} {fs : List Rou} {n : Int} {e : EnV} {ps0 : List PtP} {ins : List (Int × Int × Int)} (hss : RN sysV 8 H p.1 ss) (hn : 0 ≤ n ∧ n < (ss.length : Int)) (hc : CtxR H p.2 (ss[n.toNat]!) e.inS fs ins) (hsc : CodeR H (ss[n.toNat]!).rou)
    (hps : RN ptV 2 H e.rp ps0) (hpr : ∀ q ∈ ps0, RL (Value.int .i64) H q.sl q.vals ∧ q.vals.length ≤ 2 ^ 44 ∧ All64 q.vals) (hpl : ps0.length ≤ 2 ^ 42) (hwl : ((ss[n.toNat]!).l 3).length ≤ 2 ^ 44) (hP : POk (mpS (ss[n.toNat]!) n fs)) (hE : EOk (enS e ins)) {k : Sl × Sl × Sl × Int × Int → Heap → Prop}
    (hbad : ∀ H' N er m', Ext H H' → Runs (mpS (ss[n.toNat]!) n fs) (enS e ins) (initM (mpS (ss[n.toNat]!) n fs) (enS e ins) (firsts (ps0.map PtP.pt))) N er m' → er ≠ 0 → k (⟨none, 0, 0⟩, ⟨none, 0, 0⟩, ⟨none, 0, 0⟩, m'.steps, er) H')
    (hok : ∀ H' N m' vs cs es (ps : List PtP) (cl : List CmP) (q : List PtP), Ext H H' → Runs (mpS (ss[n.toNat]!) n fs) (enS e ins) (initM (mpS (ss[n.toNat]!) n fs) (enS e ins) (firsts (ps0.map PtP.pt))) N 0 m' → OutR H.size H' vs cs es ps cl m'.evs → m'.cmds = cl.map CmP.cm → m'.vals = q.map PtP.pt →
      (q.map PtP.kind).Nodup → ps = partsOf q (Lib.compact (((ss[n.toNat]!).l 3).mergeSort fun a b => decide (a ≤ b))) → k (vs, cs, es, m'.steps, 0) H') :
    CallT Pg fQaa [.agg #[.slice p.1.a p.1.len p.1.cap, .slice p.2.a p.2.len p.2.cap], .int .i64 n, envA e] RunT H k := by
  refine cQaa p n (e.fr, e.sd, e.en, e.inS, e.ix, e.gn, e.rp) ?_
  unfold vQaa
  have hsl := hss.len
  have hlt : n.toNat < ss.length := by omega
  generalize hs : ss[n.toNat]! = s at *
  have hku : (Lib.compact ((s.l 3).mergeSort fun a b => decide (a ≤ b))).Nodup := (sortU_ok (s.l 3)).1.imp fun {a b} h => (show a ≠ b by omega)
  refine Nw_row (vs := [slV p.1, slV p.2]) fun b1 H1 hb1 hE1 hz1 hr1 => ?_
  refine Nw_row (vs := envL e) fun b2 H2 hb2 hE2 hz2 hr2 => ?_
  refine Nw_row (vs := [.slice none 0 0, .slice none 0 0, .slice none 0 0, .int .i64 0, .int .i64 0]) fun b3 H3 hb3 hE3 hz3 hr3 => ?_
  have hE03 : Ext H H3 := (hE1.trans hE2 fun _ _ h => h).trans hE3 fun _ _ h => h
  have hE13 : Ext H1 H3 := hE2.trans hE3 fun _ _ h => h
  have rp : ∀ {H'}, Ext H3 H' → Row H' b1 TQaj [slV p.1, slV p.2] := fun h => h.row (hE13.row hr1 fun h => h) fun h => h
  have re : ∀ {H'}, Ext H3 H' → Row H' b2 TQae (envL e) := fun h => h.row (hE3.row hr2 fun h => h) fun h => h
  have ro : ∀ {H'}, Ext H3 H' → Row H' b3 TQah [.slice none 0 0, .slice none 0 0, .slice none 0 0, .int .i64 0, .int .i64 0] := fun h => h.row hr3 fun h => h
  simp only [adr_add, mk_add, NilCk_some]
  refine Jn.mk (fun j H' => H3 = H' ∧ j = false) (fun kk hkk => ?_) ?_
  · exact Br_dec (fun h => by omega) fun h => Ld_sl (s := p.1) (((rp (.refl _ _)).cell 0).trans rfl) (hkk _ _ ⟨rfl, decide_eq_false (by omega)⟩)
  rintro j _ ⟨rfl, rfl⟩
  rw [Br_false]
  refine ⟨p, (rp (.refl _ _)).rd_all, Ld_sl (s := p.1) (((rp (.refl _ _)).cell 0).trans rfl) ?_⟩
  refine IxA_rn' sysV_len (hss.ext hE03) (by decide) (j := n.toNat) (by omega) hlt fun a1 ha1 => ?_
  rw [hs] at ha1
  refine ⟨(s.s 0, s.s 1, s.s 2, s.s 3, s.rou.name, s.rou.params, s.rou.locals, s.rou.sl), ha1, ⟨(e.fr, e.sd, e.en, e.inS, e.ix, e.gn, e.rp), (re (.refl _ _)).rd_all, ?_⟩⟩
  refine MkM_i fun mp H4 hmp hE4 hz4 hm4 => ?_
  have hmp' : H3.size ≤ mp := by omega
  have tac : ∀ {H'}, Ext H3 H' → (hcells H' a1 0 (sysV s) ∧ Row H' b1 TQaj [slV p.1, slV p.2] ∧ Row H' b2 TQae (envL e)) := fun h => ⟨hcells_ext h ha1, rp h, re h⟩
  refine Stab_all (fun y hy => ?_) ?_
  · obtain ⟨g1, g2, g3⟩ := tac hE4
    simp only [hcells, sysV, Nat.zero_add] at g1
    simp only [List.mem_cons, List.not_mem_nil, or_false] at hy
    rcases hy with rfl | rfl | rfl | rfl | rfl | rfl | rfl | rfl | rfl | rfl | rfl | rfl | rfl | rfl | rfl | rfl | rfl | rfl
    all_goals first | exact (g3.cell 0).trans rfl | exact (g3.cell 1).trans rfl | exact (g3.cell 2).trans rfl | exact (g3.cell 3).trans rfl | exact (g3.cell 4).trans rfl | exact (g3.cell 5).trans rfl | exact (g3.cell 6).trans rfl | exact g1.1 | exact g1.2.1 | exact g1.2.2.1 | exact g1.2.2.2.1 | exact g1.2.2.2.2.1 | exact g1.2.2.2.2.2.1 | exact g1.2.2.2.2.2.2.1 | exact g1.2.2.2.2.2.2.2.1 | exact (g2.cell 0).trans rfl | exact (g2.cell 1).trans rfl
  refine Nw_row (vs := (runV (g0 p s n e mp 0)).set 26 (.pointer none)) fun b H5 hb hE5 hz5 hr5 => ?_
  have hE35 : Ext H3 H5 := hE4.trans hE5 fun _ _ h => h
  refine Stab_all (fun y hy => ?_) ?_
  · obtain ⟨g1, g2, g3⟩ := tac hE35
    simp only [hcells, sysV, Nat.zero_add] at g1
    simp only [List.mem_cons, List.not_mem_nil, or_false] at hy
    rcases hy with rfl | rfl | rfl | rfl | rfl | rfl | rfl | rfl | rfl | rfl | rfl | rfl | rfl | rfl | rfl | rfl | rfl | rfl
    all_goals first | exact (g3.cell 0).trans rfl | exact (g3.cell 1).trans rfl | exact (g3.cell 2).trans rfl | exact (g3.cell 3).trans rfl | exact (g3.cell 4).trans rfl | exact (g3.cell 5).trans rfl | exact (g3.cell 6).trans rfl | exact g1.1 | exact g1.2.1 | exact g1.2.2.1 | exact g1.2.2.2.1 | exact g1.2.2.2.2.1 | exact g1.2.2.2.2.2.1 | exact g1.2.2.2.2.2.2.1 | exact g1.2.2.2.2.2.2.2.1 | exact (g2.cell 0).trans rfl | exact (g2.cell 1).trans rfl
  have re5 := re hE35
  refine Ld_int (n := e.sd) ((re5.cell 1).trans rfl) (Ld_int (n := e.fr) ((re5.cell 0).trans rfl) (Ld_int (n := e.ix) ((re5.cell 4).trans rfl) ?_))
  refine s_dice_New _ _ _ _ fun H6 hE6 hd6 => ?_
  have hE36 := hE35.trans hE6 fun _ _ h => h
  have hr6 := hE6.row hr5 fun h => h
  generalize hdp : H5.size = dp at *
  refine St_row hr6 (by simp) fun H7 hU7 hz7 hr7 => ?_
  have hr7 : Row H7 b TQat (runV (g0 p s n e mp dp)) := hr7
  have hE37 : Ext H3 H7 := extUpd hE36 (by omega) hU7
  have hd7 : Row H7 dp TQam [.int .u64 (newS e.sd e.fr n e.ix)] := hU7.row (show Row H6 dp TQam _ from hd6) (by omega)
  have hm7 : H7[mp]? = some (.map ⟨mapEnts 0 []⟩ ([] : List PtP).length) := hU7.keep (hE6.keep (hE5.keep hm4 fun h => h) fun h => h) (by omega)
  refine Ld_sl (s := e.rp) (((re hE37).cell 6).trans rfl) ?_
  have hpl' := hps.len
  refine LoopT.mk (fun i H' => ∃ m : Nat, ∃ es, i = m ∧ m ≤ ps0.length ∧ Ext H3 H' ∧ EsR H3.size H' mp es ∧ es.map PtP.pt = firsts ((ps0.take m).map PtP.pt) ∧ Row H' b TQat (runV (g0 p s n e mp dp)) ∧ Row H' dp TQam [.int .u64 (newS e.sd e.fr n e.ix)])
    (fun i _ => ps0.length - i.toNat) ⟨0, [], rfl, Nat.zero_le _, hE37, ⟨hm7, hmp', fun q hq => (by cases hq), fun q hq => (by cases hq), List.Pairwise.nil, List.Pairwise.nil⟩, rfl, hr7, hd7⟩ ?_
  rintro next _ H8 ⟨m, es, rfl, hm, hE8, he8, hf8, hr8, hd8⟩ hnext
  refine Br_dec (fun hlt => ?_) fun hge => ?_
  · have hm2 : m < ps0.length := by omega
    simp only [Jn]
    have hg : ps0[m]! = ps0[m] := getElem!_pos ps0 m hm2
    refine IxA_rn' ptV_len (hps.ext (hE03.trans hE8 fun _ _ h => h)) (by decide) rfl hm2 fun a3 ha3 => ?_
    rw [hg] at ha3
    refine ⟨(ps0[m].kind, ps0[m].sl), ha3, ?_⟩
    refine Nw_row (vs := [.int .i64 0, .slice none 0 0]) fun b5 H9 hb5 hE9 hz9 hr9 => ?_
    refine St_row hr9 (by simp) fun H10 hU10 _ hr10 => St_row hr10 (by simp) fun H11 hU11 _ hr11 => ?_
    have hE811 : Ext H8 H11 := extUpd hE9 (by omega) (hU10.trans hU11 fun _ _ e => e)
    have hE11 := hE8.trans hE811 fun _ _ h => h
    have he11 : EsR H3.size H11 mp es := ⟨hE811.keep he8.map fun h => h, he8.mlo, fun q hq => (he8.esR q hq).ext hE811, he8.eslo, he8.esA, he8.esK⟩
    have hrm := hpr _ (List.getElem_mem hm2)
    refine fill_step (g := g0 p s n e mp dp) (q := ps0[m]) (b5 := b5) rfl hE11 he11 (hE811.row hr8 fun h => h) (by omega) (hrm.1.ext hE03) hrm.2.1 hr11 (by have := hE8.size; omega) fun H12 es' hU12 he12 hf12 => ?_
    have hE12 : Ext H3 H12 := hE11.trans hU12 fun x hx e => by have e : x = mp := e; omega
    refine Lt.mk (u := ((m + 1 : Nat) : Int)) (by rw [wrap_i64_id (by omega) (by omega)]; omega) (hnext _ _ ⟨m + 1, es', rfl, hm2, hE12, he12, ?_, ?_, ?_⟩ (by omega))
    · rw [hf12, hf8, List.take_add_one, List.getElem?_eq_getElem hm2, Option.toList_some, List.map_append, List.map_cons, List.map_nil, firsts_snoc]
    · exact hU12.row (hE811.row hr8 fun h => h) (show ¬ b = mp by omega)
    · have := hE5.size; have := hE6.size
      exact hU12.row (hE811.row hd8 fun h => h) (show ¬ dp = mp by omega)
  have hm3 : m = ps0.length := by omega
  rw [hm3, List.take_length] at hf8
  refine ⟨(s.rou.name, s.rou.params, s.rou.locals, s.rou.sl), ?_, ?_⟩
  · rw [hcells_iff]
    intro o ho
    have ho : o < 4 := ho
    rw [mk_add, hr8.cell]
    match o, ho with
    | 0, _ => rfl
    | 1, _ => rfl
    | 2, _ => rfl
    | 3, _ => rfl
  refine s_activate (r := s.rou) (ps := ⟨none, 0, 0⟩) (l := []) rfl rfl rfl (by simp) fun H9 t hE9 ht9 hf9 htr htl hts htn => ?_
  refine Nw_row (vs := [.pointer (some (adr t.p))]) fun b7 H10 hb7 hE10 hz10 hr10 => ?_
  have hE810 := hE9.trans hE10 fun _ _ h => h
  have hrun10 := hE810.row hr8 fun h => h
  refine St_row hrun10 (by simp) fun H11 hU11 hz11 hr11 => ?_
  have hb8 := hr8.lt
  have hE11 : Ext H3 H11 := extUpd (hE8.trans hE810 fun _ _ h => h) (by omega) hU11
  have ne8 : ∀ {x : Nat}, H8.size ≤ x → ¬ x = b := fun h e => by omega
  have he11 : EsR H3.size H11 mp es := ⟨hU11.keep (hE810.keep he8.map fun h => h) (show ¬ mp = b by omega), he8.mlo, fun q hq => ((he8.esR q hq).ext hE810).upd hU11 fun x hx e => (he8.esR q hq).ne hx hr8 (by decide) e, he8.eslo, he8.esA, he8.esK⟩
  obtain ⟨c, hmac⟩ := mac_init (n := n) (p := p) (s := s) (e := e) (t := t) hE11 he11 hr11 (by omega) (hU11.row (hE810.row hd8 fun h => h) (show ¬ dp = b by omega)) (by have := hE5.size; have := hE35.size; omega) ((ActR.ext' hE10 ht9).upd hU11 fun x hx => ne8 (hf9 x hx)) (fun x hx => ⟨by have := hf9 x hx; have := hE8.size; omega, fun q hq e' => by have := (he8.esR q hq).lt e'; have := hf9 x hx; omega⟩) (hU11.row hr10 (ne8 (by have := hE9.size; omega))) (by have := hE8.size; have := hE9.size; omega) (by rw [htr]; exact hsc.ext hE03)
  generalize hx0 : (⟨c, b, { g0 p s n e mp dp with ls := ⟨some (adr b7), 1, 1⟩ }, [], t, es, newS e.sd e.fr n e.ix, [], [], []⟩ : MG) = x0 at hmac
  have hm0 : x0.ms = initM (mpS s n fs) (enS e ins) (firsts (ps0.map PtP.pt)) := by
    rw [← hx0]
    simp only [MG.ms, initM, AP.act, htr, htl, hts, htn, hf8, List.map_nil]
  have hst0 : stat x0.g = stat (g0 p s n e mp dp) := by rw [← hx0]
  have hb0 : x0.b = b := by rw [← hx0]
  have her0 : x0.g.er = 0 := by rw [← hx0]
  have hmo := init_ok (E := enS e ins) hP (ps := ps0.map PtP.pt) fun p hp => by
    obtain ⟨q, hq, rfl⟩ := List.mem_map.1 hp
    exact (hpr q hq).2.2
  rw [← hm0] at hmo hbad hok
  have hctx := hc.ext hE03
  refine LoopT.ghost (fun m _ H' => ∃ x, m = ((2001 - x.g.st) * 40001 + (40000 - x.g.si)).toNat ∧ MacR H3 H' x ∧ x.b = b ∧ stat x.g = stat (g0 p s n e mp dp) ∧ x.g.er = 0 ∧ MOk (mpS s n fs) x.ms ∧ (∀ N er m', Runs (mpS s n fs) (enS e ins) x.ms N er m' → ∃ N', Runs (mpS s n fs) (enS e ins) x0.ms N' er m')) _
    ⟨x0, rfl, hmac, hb0, hst0, her0, hmo, fun N er m' h => ⟨N, h⟩⟩ ?_
  rintro next2 m _ H12 ⟨x, rfl, hx, hxb, hxs, hxe, hxm, hxr⟩ hnext2
  have emp : mpOf x.g fs = mpS s n fs := stat_mp hxs fs
  have een : enOf x.g ins = enS e ins := stat_en hxs ins
  obtain ⟨q1, q2, q3, _⟩ := stat_ctx hxs
  have hcx : CtxR H3 x.g.pF x.g.s x.g.inS fs ins := by rw [q1, q2, q3]; exact hctx
  subst hxb
  refine Ld_bool (n := x.g.ov) ((hx.run.1.cell 28).trans rfl) (Br.mk (fun hov => ?_) fun hov => ?_)
  · have hov : x.g.ov = false := by simpa using hov
    simp only [Jn]
    refine run_turn hin hx hcx hxe (by rw [emp]; exact hP) (by rw [een]; exact hE) (by rw [emp]; exact hxm) hov (fun H13 x' er N m' hx' hb' hrn hne hst => ?_) fun H13 x' hx' hb' hs' he' hm' hr' hlt' => ?_
    · have hbn : (er != 0) = true := by simp [hne]
      rw [hbn, Br_true]
      rw [emp, een] at hrn
      obtain ⟨N', hN'⟩ := hxr N er m' hrn
      refine Ld_int (n := x'.g.st) (by have := hx'.run.1; rw [hb'] at this; exact (this.cell 24).trans rfl) ?_
      have hr13 := ro hx'.base
      refine St_row hr13 (by simp) fun G1 hU1 _ hg1 => St_row hg1 (by simp) fun G2 hU2 _ hg2 => St_row hg2 (by simp) fun G3 hU3 _ hg3 => St_row hg3 (by simp) fun G4 hU4 _ hg4 => St_row hg4 (by simp) fun G5 hU5 _ hg5 => ?_
      refine ⟨(⟨none, 0, 0⟩, ⟨none, 0, 0⟩, ⟨none, 0, 0⟩, x'.g.st, er), hg5.rd_all, ?_⟩
      rw [hst]
      have hUU := (((hU1.trans hU2 fun _ _ e => e).trans hU3 fun _ _ e => e).trans hU4 fun _ _ e => e).trans hU5 fun _ _ e => e
      exact hbad G5 N' er m' (extUpd (b := b3) (hE03.trans hx'.base fun _ _ h => h) (by have := hE1.size; have := hE2.size; omega) hUU) hN' hne
    · have hbn : ((0 : Int) != 0) = false := by decide
      rw [hbn, Br_false]
      exact hnext2 _ _ _ hlt' ⟨x', rfl, hx', hb', hs'.trans hxs, he', by rw [← emp]; exact hm', fun N er m' hrn => hxr _ _ _ (by rw [← emp, ← een]; exact hr' N er m' (by rw [emp, een]; exact hrn))⟩
  · have hov : x.g.ov = true := by simpa using hov
    obtain ⟨N, hN⟩ := hxr 0 0 x.ms (.over hov)
    have hlo := hx.base.size
    have hxe2 : x.es.length ≤ 2 ^ 42 := by
      have h4 : x.es.length = (firsts (ps0.map PtP.pt)).length := by
        have h5 : x.ms.vals.length = x0.ms.vals.length := runs_vals hN
        rw [hm0] at h5
        simpa [initM] using h5
      have h3 := firsts_len (ps0.map PtP.pt) []
      rw [List.length_map] at h3
      unfold firsts at h4
      simp only [List.length_nil] at h3
      omega
    refine s_written hx hcx (by rw [q2]; exact hwl) hxe2 fun r H13 hE13' hv13 hf13 => ?_
    rw [q2] at hv13
    have h13 := hx.ext hE13'
    refine St_row h13.run.1 (by simp) fun G0 hU0 _ hg0 => ?_
    have cells : hcells G0 ⟨x.b, 21, none⟩ 0 [slV r, slV x.g.cs, slV x.g.es, .int .i64 x.g.st, .int .i64 x.g.er] := by
      rw [hcells_iff]
      intro o ho
      have ho : o < 5 := ho
      rw [mk_add, hg0.cell]
      match o, ho with
      | 0, _ => rfl
      | 1, _ => rfl
      | 2, _ => rfl
      | 3, _ => rfl
      | 4, _ => rfl
    refine ⟨(r, x.g.cs, x.g.es, x.g.st, x.g.er), cells, ?_⟩
    have b3b : ¬ b3 = x.b := by omega
    have hr13 : Row G0 b3 TQah _ := hU0.row (ro h13.base) b3b
    refine St_row hr13 (by simp) fun G1 hU1 _ hg1 => St_row hg1 (by simp) fun G2 hU2 _ hg2 => St_row hg2 (by simp) fun G3 hU3 _ hg3 => St_row hg3 (by simp) fun G4 hU4 _ hg4 => St_row hg4 (by simp) fun G5 hU5 _ hg5 => ?_
    refine ⟨(r, x.g.cs, x.g.es, x.g.st, x.g.er), hg5.rd_all, ?_⟩
    have hUU : Upd (· = b3) G0 G5 := (((hU1.trans hU2 fun _ _ e => e).trans hU3 fun _ _ e => e).trans hU4 fun _ _ e => e).trans hU5 fun _ _ e => e
    have hU : Upd (fun y => y = x.b ∨ y = b3) H13 G5 := (hU0.mono fun _ _ e => .inl e).trans hUU fun _ _ e => .inr e
    have hrb := h13.run.1
    have hrb3 := ro h13.base
    have vu : ∀ {sl : Sl} {vs : List Value}, Vec H13 TQaq sl vs → Vec G5 TQaq sl vs := fun hv => hv.upd hU fun c hc e => e.elim (hv.ne hc hrb (by decide)) (hv.ne hc hrb3 (by decide))
    have vn : ∀ {sl : Sl} {T : TypeId} {m : Nat} {vs : List Value}, T ≠ TQat → T ≠ TQah → VecN H13 T m sl vs → VecN G5 T m sl vs := fun hT hT2 hv => hv.upd hU fun c hc e => e.elim (hv.ne hc hrb hT) (hv.ne hc hrb3 hT2)
    rw [hxe]
    have hE5 : Ext H G5 := (hE03.trans h13.base fun _ _ h => h).trans hU fun y hy e => by
      have := hx.run.2.1; have := hE03.size; have := hE1.size; have := hE2.size
      rcases e with e | e <;> omega
    have hesr : ∀ {y : PtP}, y ∈ partsOf x.es (Lib.compact ((s.l 3).mergeSort fun a b => decide (a ≤ b))) → y ∈ x.es := parts_mem
    refine hok G5 N x.ms r x.g.cs x.g.es _ x.cl x.es hE5 hN ⟨vn (by decide) (by decide) hv13, fun q hq => vu (h13.esR q (hesr hq)).1, vn (by decide) (by decide) h13.cv.1, fun q hq => ⟨vu (h13.cR q hq).vs.1, vn (by decide) (by decide) (h13.cR q hq).ps.1, fun p hp => vu ((h13.cR q hq).pt p hp).1⟩, vn (by decide) (by decide) h13.ev.1, ?_, ?_, ?_⟩ rfl rfl hx.esK rfl
    · rw [List.pairwise_append]
      refine ⟨parts_apart hx.esA hku, ?_, fun a ha c hc => ?_⟩
      · exact (List.pairwise_append.1 hx.outA).1
      · obtain ⟨q, hq, rfl⟩ := List.mem_map.1 ha
        exact apart_col (hx.esR q (hesr hq)).2 (hx.outCol c (List.mem_append_left _ hc)) (by decide)
    · rw [List.pairwise_cons]
      refine ⟨fun a ha c hc hc' => ?_, hx.parA⟩
      obtain ⟨q, hq, rfl⟩ := List.mem_map.1 ha
      have h1 := hf13 c hc
      have h2 := (hx.cR q hq).ps.1.lt hc'
      omega
    · have l03 := hE03.size
      intro sl hsl' c hcc
      simp only [List.mem_cons, List.mem_append] at hsl'
      rcases hsl' with rfl | rfl | rfl | (h | h) | h
      · have := hf13 c hcc; omega
      · have := (hx.cv.2 c hcc).1; omega
      · have := (hx.ev.2 c hcc).1; omega
      · obtain ⟨q, hq, rfl⟩ := List.mem_map.1 h
        have := ((hx.esR q (hesr hq)).2 c hcc).1; omega
      · have := (hx.outCol sl (List.mem_append_left _ h) c hcc).1; omega
      · obtain ⟨q, hq, rfl⟩ := List.mem_map.1 h
        have := ((hx.cR q hq).ps.2 c hcc).1; omega
end
section
open Hc Hc.Vf Hc.Mc Hc.Dice
variable {H : Heap}
end
section
open Go.RowKit Go.Shelf Hc Hc.Vf Hc.Mc Hc.Dice
theorem input_calls (b : Nat) (sv : Value) (p q : Int) (zs : List InX) (hreach : zs.length * 24 ≤ 140737488351232) (w : World) (hbw : b < w.heap.size) (hsl : ∃ a l c, sv = .slice a l c) (hc : w.cell? ⟨b, 14, none⟩ = some sv) (hI : InsAt w.heap.size w sv zs) :
    Calls Tryz.prog 119 #[.pointer (some ⟨b, 0, none⟩), .int .i64 p, .int .i64 q] w fun e W' => Below w.heap.size w W' ∧ e = .returned (.int .i64 (inp zs p q)) :=
  calls_of_every_depth (L := [119, 162, 191]) (n := 5) fun D => (input_in (Fence.list [119, 162, 191] (some D)) 5 (Nat.le_refl _) (by simp [Fence.list]) (by simp [Fence.list]) (by simp [Fence.list]) rfl b sv p q zs hreach w hbw hsl hc hI).mono fun e W' ⟨h1, h2⟩ => ⟨h1, by
    rcases h2 with ⟨rfl, h⟩ | ⟨pre, x, k, hk, e1, hno, hx, rfl⟩
    · rw [inp_done h]
    · rw [inp_stop hk e1 hno hx]⟩
theorem cb_input : Cb Pg fQba := ⟨_, Tryz.func119, by kernel_rfl, by kernel_rfl⟩
theorem inputOk : InputOk := fun H0 H x fs ins p q k hm hc hk => by
  have hc := hc.ext hm.base
  refine lib_call cb_input (fun w hw => input_calls x.b (.slice x.g.inS.a x.g.inS.len x.g.inS.cap) p q ins hc.inL w (by rw [hw]; exact hm.run.1.lt) ⟨_, _, _, rfl⟩ ?_ ?_) fun w e w' hw ⟨h1, h2⟩ => ⟨⟨h1.tape, h1.os, h1.output⟩, _, h2, hk w'.heap ⟨by rw [← hw]; exact h1.size, fun b hb _ => by rw [← hw] at hb ⊢; exact h1.block b hb⟩⟩
  · have hr : w.heap[x.b]? = some (.cells ⟨runV x.g⟩ TQat (0, 0)) := by rw [hw]; exact hm.run.1
    simp [World.cell?, hr]
  · have hl := hc.inp.len
    have hr := hc.inp.rd
    cases ha : x.g.inS.a with
    | none =>
      rw [ha] at hr
      have hz : ins.flatMap inV = [] := hr
      have hz2 : ins.length = 0 := by
        have := congrArg List.length hz
        rw [flat_len inV_len] at this
        simp at this; omega
      refine .inl ⟨?_, List.eq_nil_of_length_eq_zero hz2⟩
      rw [hc.inN ha, hl, hz2]
    | some a =>
      obtain ⟨hsp, hlt⟩ := hc.inB a ha
      obtain ⟨ab, ao, asp⟩ := a
      dsimp only at hsp hlt
      subst hsp
      rw [ha] at hr
      have hr : hcells H ⟨ab, ao, none⟩ 0 (ins.flatMap inV) := hr
      refine .inr ⟨ab, ao, x.g.inS.cap, by rw [hl], by rw [hw]; exact hlt, fun j hj => ?_⟩
      rw [hcells_iff] at hr
      have g : ∀ o, o < 3 → w.cell? ⟨ab, ao + j * 3 + o, none⟩ = (inV ins[j])[o]? := fun o ho => by
        have := hr (j * 3 + o) (by rw [flat_len inV_len]; omega)
        rw [mk_add, flat_get inV_len hj ho, Nat.zero_add, ← Nat.add_assoc] at this
        rw [cell?_eq, hw, this]
      have e : elX ins j = ins[j] := by unfold elX; rw [List.getElem?_eq_getElem hj]; rfl
      rw [e]
      exact ⟨g 0 (by omega), g 1 (by omega), g 2 (by omega)⟩
end
section
open Hc Hc.Vf Hc.Mc Hc.Dice
variable {H : Heap}
structure DP where
  p : Nat
  f : Int
  r : Rou
  ls : Sl
  ss : Sl
  loc : List Int
  stk : List Int
  nx : Int
instance : Inhabited DP := ⟨⟨0, 0, default, default, default, [], [], 0⟩⟩
abbrev DP.act (x : DP) : Actn := ⟨fnOf x.r, x.loc, x.stk, x.nx⟩
abbrev dactV (x : DP) : List Value := [.int .i64 x.f, slV x.r.sl, slV x.ls, slV x.ss, .int .i64 x.nx]
structure DActR (H : Heap) (x : DP) : Prop where
  row : Row H x.p TQaz (dactV x)
  loc : Vec H TQaq x.ls (ints x.loc)
  stk : Vec H TQaq x.ss (ints x.stk)
  ap : Apart x.ls x.ss
def DActB (x : DP) (b : Nat) : Prop := b = x.p ∨ x.ls.a = some (adr b) ∨ x.ss.a = some (adr b)
theorem DActR.upd {M : Nat → Prop} {H H' : Heap} (h : Upd M H H') {x : DP} (hx : DActR H x) (hm : ∀ b, DActB x b → ¬ M b) : DActR H' x :=
  ⟨h.row hx.row (hm _ (.inl rfl)), hx.loc.upd h fun b hb => hm b (.inr (.inl hb)), hx.stk.upd h fun b hb => hm b (.inr (.inr hb)), hx.ap⟩
theorem DActR.lt {H : Heap} {x : DP} (hx : DActR H x) {b : Nat} (hb : DActB x b) : b < H.size := by
  rcases hb with rfl | hb | hb
  · exact hx.row.lt
  · exact hx.loc.lt hb
  · exact hx.stk.lt hb
theorem DActR.neS {H : Heap} {x : DP} (hx : DActR H x) {b : Nat} (hb : x.ss.a = some (adr b)) : b ≠ x.p := hx.stk.ne hb hx.row (by decide)
theorem DActR.neL {H : Heap} {x : DP} (hx : DActR H x) {b : Nat} (hb : x.ls.a = some (adr b)) : b ≠ x.p := hx.loc.ne hb hx.row (by decide)
structure DunG where
  pS : Sl
  pF : Sl
  s : Sy
  n : Int
  fr : Int
  sd : Int
  en : Int
  inS : Sl
  ix : Int
  gn : Int
  rp : Sl
  ps : Sl
  ls : Sl
  ks : Sl
  cs : Sl
  es : Sl
  st : Int
  dp : Nat
  si : Int
  ov : Bool
abbrev drunV (g : DunG) : List Value :=
  [slV g.pS, slV g.pF, slV (g.s.s 0), slV (g.s.s 1), slV (g.s.s 2), slV (g.s.s 3), .string g.s.rou.name, .int .i64 g.s.rou.params, .int .i64 g.s.rou.locals, slV g.s.rou.sl, .int .i64 g.n, .int .i64 g.fr, .int .i64 g.sd, .int .i64 g.en,
   slV g.inS, .int .i64 g.ix, .int .i64 g.gn, slV g.rp, slV g.ps, slV g.ls, .pointer (some (adr g.dp)), .int .i64 g.si, slV g.ks, .slice none 0 0, slV g.cs, slV g.es, .int .i64 g.st, .int .i64 0, .bool g.ov]
structure DG where
  c : Col
  b : Nat
  g : DunG
  low : List DP
  top : DP
  es : List PtP
  d : Int
  kp : List PtP
  cl : List CmP
  evs : List Ev
abbrev DG.ms (x : DG) : Ms := ⟨x.low.map DP.act, x.top.act, x.es.map PtP.pt, x.d, x.g.si, x.g.st, x.kp.map PtP.pt, x.cl.map CmP.cm, x.evs, x.g.ov⟩
abbrev dptrs (l : List DP) : List Value := l.map fun x => .pointer (some (adr x.p))
def DActI (c : Col) (lo j : Nat) (x : DP) : Prop := ∀ b, DActB x b → Is c lo j b
theorem flatV_congr : ∀ {l l' : List PtP}, l.map (fun q => (q.kind, q.sl)) = l'.map (fun q => (q.kind, q.sl)) → l.flatMap ptV = l'.flatMap ptV
  | [], [], _ => rfl
  | [], _ :: _, h => by cases h
  | _ :: _, [], h => by cases h
  | x :: r, y :: r', h => by
    simp only [List.map_cons, List.cons.injEq, Prod.mk.injEq] at h
    simp only [List.flatMap_cons, flatV_congr h.2]
    have e : ptV x = ptV y := by show [Value.int .i64 x.kind, slV x.sl] = _; rw [h.1.1, h.1.2]
    rw [e]
structure DocR (H0 H : Heap) (x : DG) : Prop where
  base : Ext H0 H
  run : RowC x.c H0.size 200 H x.b TQa0 (drunV x.g)
  lv : VecC x.c H0.size 201 H TQau x.g.ls (dptrs (x.low ++ [x.top]))
  lowR : ∀ i (h : i < x.low.length), DActR H x.low[i] ∧ DActI x.c H0.size i x.low[i]
  topR : DActR H x.top
  topI : DActI x.c H0.size x.low.length x.top
  codes : ∀ a ∈ x.low ++ [x.top], CodeR H0 a.r
  lowl : x.low.length ≤ 16
  dice : RowC x.c H0.size 205 H x.g.dp TQax [.int .u64 x.d]
  pv : VecNC x.c H0.size 206 H TQai 2 x.g.ps (x.es.flatMap ptV)
  esR : ∀ q ∈ x.es, PtR x.c H0.size 100 H q
  esA : x.es.Pairwise fun p q => Apart p.sl q.sl
  fsg : (x.low ++ [x.top]).map (fun a => decide (0 ≤ a.f)) = false :: List.replicate x.low.length true
  kv : VecNC x.c H0.size 202 H TQai 2 x.g.ks (x.kp.flatMap ptV)
  kR : ∀ q ∈ x.kp, PtR x.c H0.size 101 H q
  cv : VecNC x.c H0.size 203 H TQac 6 x.g.cs (x.cl.flatMap cmV)
  cR : ∀ q ∈ x.cl, CmR x.c H0.size H q
  outA : (outL x.cl x.kp).Pairwise Apart
  parA : (x.cl.map CmP.psl).Pairwise Apart
  ev : VecNC x.c H0.size 204 H TQaf 5 x.g.es (x.evs.flatMap evV)
theorem DActI.agr {c c' : Col} {lo j : Nat} {H : Heap} (h : Agr j H.size c c') {x : DP} (hx : DActR H x) (hi : DActI c lo j x) : DActI c' lo j x := fun b hb => ⟨(hi b hb).1, h b (hx.lt hb) (hi b hb).2⟩
theorem DActR.tch {c : Col} {lo j : Nat} {S : Nat → Prop} {H H' : Heap} (h : Tch c lo S H H') (hj : ¬ S j) {x : DP} (hx : DActR H x) (hi : DActI c lo j x) : DActR H' x :=
  hx.upd h fun b hb e => hj ((hi b hb).2 ▸ e.2)
structure DFr (H0 H' : Heap) (x : DG) (c' : Col) (S : Nat → Prop) : Prop where
  base : Ext H0 H'
  run : ¬ S 200 → RowC c' H0.size 200 H' x.b TQa0 (drunV x.g)
  lv : ¬ S 201 → VecC c' H0.size 201 H' TQau x.g.ls (dptrs (x.low ++ [x.top]))
  lowR : ∀ i (h : i < x.low.length), ¬ S i → DActR H' x.low[i] ∧ DActI c' H0.size i x.low[i]
  topR : ¬ S x.low.length → DActR H' x.top ∧ DActI c' H0.size x.low.length x.top
  dice : ¬ S 205 → RowC c' H0.size 205 H' x.g.dp TQax [.int .u64 x.d]
  pv : ¬ S 206 → VecNC c' H0.size 206 H' TQai 2 x.g.ps (x.es.flatMap ptV)
  esR : ¬ S 100 → ∀ q ∈ x.es, PtR c' H0.size 100 H' q
  kv : ¬ S 202 → VecNC c' H0.size 202 H' TQai 2 x.g.ks (x.kp.flatMap ptV)
  kR : ¬ S 101 → ∀ q ∈ x.kp, PtR c' H0.size 101 H' q
  cv : ¬ S 203 → VecNC c' H0.size 203 H' TQac 6 x.g.cs (x.cl.flatMap cmV)
  cR : ¬ S 101 → ¬ S 207 → ∀ q ∈ x.cl, CmR c' H0.size H' q
  ev : ¬ S 204 → VecNC c' H0.size 204 H' TQaf 5 x.g.es (x.evs.flatMap evV)
theorem DocR.fr {H0 H H' : Heap} {x : DG} (h : DocR H0 H x) {S : Nat → Prop} (ht : Tch x.c H0.size S H H') {c' : Col} (hA : ∀ j, ¬ S j → Agr j H.size x.c c') : DFr H0 H' x c' S where
  base := ht.ext h.base
  run := fun hj => h.run.mv ht hj (hA _ hj)
  lv := fun hj => h.lv.mv ht hj (hA _ hj)
  lowR := fun i hi hj => ⟨DActR.tch ht hj (h.lowR i hi).1 (h.lowR i hi).2, (h.lowR i hi).2.agr (hA _ hj) (h.lowR i hi).1⟩
  topR := fun hj => ⟨DActR.tch ht hj h.topR h.topI, h.topI.agr (hA _ hj) h.topR⟩
  dice := fun hj => h.dice.mv ht hj (hA _ hj)
  pv := fun hj => h.pv.mv ht hj (hA _ hj)
  esR := fun hj q hq => (h.esR q hq).mv ht hj (hA _ hj)
  kv := fun hj => h.kv.mv ht hj (hA _ hj)
  kR := fun hj q hq => (h.kR q hq).mv ht hj (hA _ hj)
  cv := fun hj => h.cv.mv ht hj (hA _ hj)
  cR := fun hj hj2 q hq => ⟨(h.cR q hq).vs.mv ht hj (hA _ hj), (h.cR q hq).ps.mv ht hj2 (hA _ hj2), fun p hp => ((h.cR q hq).pt p hp).mv ht hj (hA _ hj)⟩
  ev := fun hj => h.ev.mv ht hj (hA _ hj)
theorem DocR.top {H0 H H' : Heap} {x : DG} (h : DocR H0 H x) {t : DP} (ht : Tch x.c H0.size (· = x.low.length) H H') (hr : DActR H' t) (hp : t.p = x.top.p) (hrou : t.r = x.top.r) (hff : t.f = x.top.f)
    {d : Col} (hb : ∀ b, DActB t b → DActB x.top b ∨ (H.size ≤ b ∧ d b = x.low.length)) : DocR H0 H' { x with top := t, c := dye H.size x.c d } := by
  have hl := h.lowl
  have f := h.fr ht (dyeA _ H.size x.c d)
  exact { h with
    base := f.base
    run := f.run (by omega)
    lv := by
      have := f.lv (by omega)
      simpa [dptrs, hp] using this
    lowR := fun i (hi : i < x.low.length) => f.lowR i hi (by omega)
    topR := hr
    topI := fun b hbb => by
      rcases hb b hbb with e | e
      · exact is_dye (h.topI b e) (h.topR.lt e)
      · exact is_new h.base.size e.1 e.2
    codes := fun a ha => by
      rcases List.mem_append.1 ha with ha | ha
      · exact h.codes a (List.mem_append_left _ ha)
      · rw [List.mem_singleton.1 ha, hrou]; exact h.codes _ (by simp)
    fsg := by have := h.fsg; simpa [hff] using this
    dice := f.dice (by omega)
    pv := f.pv (by omega)
    esR := f.esR (by omega)
    kv := f.kv (by omega)
    kR := f.kR (by omega)
    cv := f.cv (by omega)
    cR := f.cR (by omega) (by omega)
    ev := f.ev (by omega) }
theorem DocR.ext {H0 H H' : Heap} {x : DG} (h : DocR H0 H x) (he : Ext H H') : DocR H0 H' x := by
  have f := h.fr (S := fun _ => False) (Tch.ofExt he) (c' := x.c) fun j _ y _ e => e
  exact { h with
    base := f.base, run := f.run id, lv := f.lv id, lowR := fun i hi => f.lowR i hi id, topR := (f.topR id).1, dice := f.dice id, pv := f.pv id, esR := f.esR id, kv := f.kv id, kR := f.kR id, cv := f.cv id, cR := f.cR id id, ev := f.ev id }
theorem DocR.num {H0 H H' : Heap} {x : DG} (h : DocR H0 H x) (hu : Upd (· = x.b) H H') {st si : Int} {ov : Bool} (hr : Row H' x.b TQa0 (drunV { x.g with st := st, si := si, ov := ov })) :
    DocR H0 H' { x with g := { x.g with st := st, si := si, ov := ov } } := by
  have hl := h.lowl
  have f := h.fr (S := (· = 200)) (tch_row hu h.run.2 rfl) (c' := x.c) fun j _ y _ e => e
  exact { h with
    base := f.base, run := ⟨hr, h.run.2⟩, lv := f.lv (by omega), lowR := fun i (hi : i < x.low.length) => f.lowR i hi (by omega), topR := (f.topR (by omega)).1, dice := f.dice (by omega), pv := f.pv (by omega), esR := f.esR (by omega)
    kv := f.kv (by omega), kR := f.kR (by omega), cv := f.cv (by omega), cR := f.cR (by omega) (by omega), ev := f.ev (by omega) }
theorem DocR.fell {H0 H H' : Heap} {x : DG} (h : DocR H0 H x) (hu : Upd (· = x.g.dp) H H') {d : Int} (hr : Row H' x.g.dp TQax [.int .u64 d]) : DocR H0 H' { x with d := d } := by
  have hl := h.lowl
  have f := h.fr (S := (· = 205)) (tch_row hu h.dice.2 rfl) (c' := x.c) fun j _ y _ e => e
  exact { h with
    base := f.base, run := f.run (by omega), lv := f.lv (by omega), lowR := fun i (hi : i < x.low.length) => f.lowR i hi (by omega), topR := (f.topR (by omega)).1, dice := ⟨hr, h.dice.2⟩, pv := f.pv (by omega), esR := f.esR (by omega)
    kv := f.kv (by omega), kR := f.kR (by omega), cv := f.cv (by omega), cR := f.cR (by omega) (by omega), ev := f.ev (by omega) }
theorem DocR.outCol {H0 H : Heap} {x : DG} (h : DocR H0 H x) : ∀ s ∈ outL x.cl x.kp, IsS x.c H0.size 101 s := fun s hs => by
  rcases List.mem_append.1 hs with hs | hs
  · obtain ⟨q, hq, hs⟩ := List.mem_flatMap.1 hs
    rcases List.mem_cons.1 hs with rfl | hs
    · exact (h.cR q hq).vs.2
    · obtain ⟨p, hp, rfl⟩ := List.mem_map.1 hs
      exact ((h.cR q hq).pt p hp).2
  · obtain ⟨p, hp, rfl⟩ := List.mem_map.1 hs
    exact (h.kR p hp).2
theorem DocR.free {H0 H : Heap} {x : DG} (h : DocR H0 H x) {b : Nat} (hb : x.c b = 999) (e : x.g.ks.a = some (adr b) ∨ b = x.b) : False := by
  rcases e with e | rfl
  · have := (h.kv.2 b e).2; omega
  · have := h.run.2.2; omega
theorem DocR.keep {H0 H H' : Heap} {x : DG} (h : DocR H0 H x) {ks : Sl} {q : PtP} (hu : Upd (fun b => x.g.ks.a = some (adr b) ∨ b = x.b) H H') (hr : Row H' x.b TQa0 (drunV { x.g with ks := ks }))
    (hv : VecN H' TQai 2 ks ((x.kp ++ [q]).flatMap ptV)) (hks : ks.a = x.g.ks.a ∨ ∃ b, ks.a = some (adr b) ∧ H.size ≤ b) (hq : Vec H TQaq q.sl (ints q.vals)) (hqc : IsS x.c H0.size 999 q.sl) :
    DocR H0 H' { x with g := { x.g with ks := ks }, kp := x.kp ++ [q], c := dye H.size (recol x.c 999 101) fun _ => 202 } := by
  have hl := h.lowl
  have ht : Tch x.c H0.size (fun j => j = 202 ∨ j = 200 ∨ j = 999) H H' := Tch.of hu fun b _ e => by
    rcases e with e | rfl
    · exact ⟨(h.kv.2 b e).1, .inl (h.kv.2 b e).2⟩
    · exact ⟨h.run.2.1, .inr (.inl h.run.2.2)⟩
  have f := h.fr ht (agr_recol (n := H.size) (k := 101) (d := fun _ => 202) (.inr (.inr rfl)))
  exact { h with
    base := f.base, run := ⟨hr, is_dye (c := recol x.c 999 101) ⟨h.run.2.1, by unfold recol; rw [h.run.2.2, if_neg (by decide)]⟩ h.run.1.lt⟩
    lv := f.lv (by omega), lowR := fun i (hi : i < x.low.length) => f.lowR i hi (by omega), topR := (f.topR (by omega)).1, topI := (f.topR (by omega)).2, dice := f.dice (by omega), pv := f.pv (by omega), esR := f.esR (by omega)
    kv := ⟨hv, sl_dye h.kv.2 h.base.size hks (fun b hb => h.kv.1.lt hb) (by decide) fun _ _ => rfl⟩
    kR := fun p hp => by
      rcases List.mem_append.1 hp with hp | hp
      · exact f.kR (by omega) p hp
      · rw [List.mem_singleton.1 hp]
        exact ⟨hq.upd hu fun b hb e => h.free (hqc b hb).2 e, fun b hb => is_recol (hqc b hb) (hq.lt hb)⟩
    cv := f.cv (by omega), cR := f.cR (by omega) (by omega), ev := f.ev (by omega)
    outA := by
      have e : outL x.cl (x.kp ++ [q]) = outL x.cl x.kp ++ [q.sl] := by simp [outL]
      rw [e, List.pairwise_append]
      refine ⟨h.outA, List.pairwise_singleton _ _, fun s hs t ht => ?_⟩
      rw [List.mem_singleton.1 ht]
      exact apart_col (h.outCol s hs) hqc (by decide) }
theorem DocR.cmd {H0 H H' : Heap} {x : DG} (h : DocR H0 H x) {cs : Sl} {q : CmP} (hu : Upd (fun b => x.g.cs.a = some (adr b) ∨ b = x.b) H H') (hr : Row H' x.b TQa0 (drunV { x.g with cs := cs }))
    (hv : VecN H' TQac 6 cs ((x.cl ++ [q]).flatMap cmV)) (hcs : cs.a = x.g.cs.a ∨ ∃ b, cs.a = some (adr b) ∧ H.size ≤ b) (hq : Vec H TQaq q.vsl (ints q.vals)) (hqc : IsS x.c H0.size 999 q.vsl) (hp : q.parts = []) (hps : q.psl = ⟨none, 0, 0⟩) :
    DocR H0 H' { x with g := { x.g with cs := cs }, cl := x.cl ++ [q], c := dye H.size (recol x.c 999 101) fun _ => 203 } := by
  have hl := h.lowl
  have ht : Tch x.c H0.size (fun j => j = 203 ∨ j = 200 ∨ j = 999) H H' := Tch.of hu fun b _ e => by
    rcases e with e | rfl
    · exact ⟨(h.cv.2 b e).1, .inl (h.cv.2 b e).2⟩
    · exact ⟨h.run.2.1, .inr (.inl h.run.2.2)⟩
  have f := h.fr ht (agr_recol (n := H.size) (k := 101) (d := fun _ => 203) (.inr (.inr rfl)))
  exact { h with
    base := f.base, run := ⟨hr, is_dye (c := recol x.c 999 101) ⟨h.run.2.1, by unfold recol; rw [h.run.2.2, if_neg (by decide)]⟩ h.run.1.lt⟩
    lv := f.lv (by omega), lowR := fun i (hi : i < x.low.length) => f.lowR i hi (by omega), topR := (f.topR (by omega)).1, topI := (f.topR (by omega)).2, dice := f.dice (by omega), pv := f.pv (by omega), esR := f.esR (by omega)
    kv := f.kv (by omega), kR := f.kR (by omega)
    cv := ⟨hv, sl_dye h.cv.2 h.base.size hcs (fun b hb => h.cv.1.lt hb) (by decide) fun _ _ => rfl⟩
    cR := fun p hp' => by
      rcases List.mem_append.1 hp' with hp' | hp'
      · exact f.cR (by omega) (by omega) p hp'
      · rw [List.mem_singleton.1 hp']
        refine ⟨⟨hq.upd hu fun b hb e => ?_, fun b hb => is_recol (hqc b hb) (hq.lt hb)⟩, ?_, fun p hpp => by rw [hp] at hpp; cases hpp⟩
        · rcases e with e | rfl
          · have := (h.cv.2 b e).2; have := (hqc b hb).2; omega
          · have := h.run.2.2; have := (hqc _ hb).2; omega
        · rw [hp, hps]; exact VecNC.nil _ _ _ _ _ _
    ev := f.ev (by omega)
    outA := by
      have e : (outL x.cl x.kp ++ [q.vsl]).Perm (outL (x.cl ++ [q]) x.kp) := by
        simp only [outL, List.flatMap_append, List.flatMap_cons, List.flatMap_nil, List.append_nil, cmSl, hp, List.map_nil, List.append_assoc]
        exact List.perm_append_left_iff _ |>.2 List.perm_append_comm
      refine (e.pairwise_iff fun {a b} h => h.symm).1 ?_
      rw [List.pairwise_append]
      refine ⟨h.outA, List.pairwise_singleton _ _, fun s hs t ht => ?_⟩
      rw [List.mem_singleton.1 ht]
      exact apart_col (h.outCol s hs) hqc (by decide)
    parA := by
      rw [List.map_append, List.pairwise_append]
      refine ⟨h.parA, List.pairwise_singleton _ _, fun s hs t ht => ?_⟩
      rw [List.mem_singleton.1 ht, hps]
      exact apart_nil _ rfl }
theorem DocR.event {H0 H H' : Heap} {x : DG} (h : DocR H0 H x) {es : Sl} {q : Ev} (hu : Upd (fun b => x.g.es.a = some (adr b) ∨ b = x.b) H H') (hr : Row H' x.b TQa0 (drunV { x.g with es := es }))
    (hv : VecN H' TQaf 5 es ((x.evs ++ [q]).flatMap evV)) (hes : es.a = x.g.es.a ∨ ∃ b, es.a = some (adr b) ∧ H.size ≤ b) :
    DocR H0 H' { x with g := { x.g with es := es }, evs := x.evs ++ [q], c := dye H.size (recol x.c 999 101) fun _ => 204 } := by
  have hl := h.lowl
  have ht : Tch x.c H0.size (fun j => j = 204 ∨ j = 200 ∨ j = 999) H H' := Tch.of hu fun b _ e => by
    rcases e with e | rfl
    · exact ⟨(h.ev.2 b e).1, .inl (h.ev.2 b e).2⟩
    · exact ⟨h.run.2.1, .inr (.inl h.run.2.2)⟩
  have f := h.fr ht (agr_recol (n := H.size) (k := 101) (d := fun _ => 204) (.inr (.inr rfl)))
  exact { h with
    base := f.base, run := ⟨hr, is_dye (c := recol x.c 999 101) ⟨h.run.2.1, by unfold recol; rw [h.run.2.2, if_neg (by decide)]⟩ h.run.1.lt⟩
    lv := f.lv (by omega), lowR := fun i (hi : i < x.low.length) => f.lowR i hi (by omega), topR := (f.topR (by omega)).1, topI := (f.topR (by omega)).2, dice := f.dice (by omega), pv := f.pv (by omega), esR := f.esR (by omega)
    kv := f.kv (by omega), kR := f.kR (by omega), cv := f.cv (by omega), cR := f.cR (by omega) (by omega)
    ev := ⟨hv, sl_dye h.ev.2 h.base.size hes (fun b hb => h.ev.1.lt hb) (by decide) fun _ _ => rfl⟩ }
theorem DocR.call {H0 H H' : Heap} {x : DG} (h : DocR H0 H x) (hlt : x.low.length + 1 ≤ 16) {ls : Sl} {t : DP} (hu : Upd (fun b => x.g.ls.a = some (adr b) ∨ b = x.b) H H') (hr : Row H' x.b TQa0 (drunV { x.g with ls := ls }))
    (hv : Vec H' TQau ls (dptrs (x.low ++ [x.top] ++ [t]))) (hls : ls.a = x.g.ls.a ∨ ∃ b, ls.a = some (adr b) ∧ H.size ≤ b) (ht' : DActR H' t) (htb : ∀ b, DActB t b → H.size ≤ b) (hc : CodeR H0 t.r) (hf : 0 ≤ t.f) :
    DocR H0 H' { x with g := { x.g with ls := ls }, low := x.low ++ [x.top], top := t, c := dye H.size (recol x.c 999 101) fun b => if ls.a = some (adr b) then 201 else x.low.length + 1 } := by
  have hl := h.lowl
  have ht : Tch x.c H0.size (fun j => j = 201 ∨ j = 200 ∨ j = 999) H H' := Tch.of hu fun b _ e => by
    rcases e with e | rfl
    · exact ⟨(h.lv.2 b e).1, .inl (h.lv.2 b e).2⟩
    · exact ⟨h.run.2.1, .inr (.inl h.run.2.2)⟩
  have f := h.fr ht (agr_recol (n := H.size) (k := 101) (d := fun b => if ls.a = some (adr b) then 201 else x.low.length + 1) (.inr (.inr rfl)))
  have hne : ∀ b, DActB t b → ls.a ≠ some (adr b) := fun b hb e => by
    rcases hb with rfl | hb | hb
    · exact hv.ne e ht'.row (by decide) rfl
    · rcases ht'.loc.own with ⟨h1, _⟩ | ⟨c, sp, h1, h2, _⟩
      · rw [h1] at hb; cases hb
      · rw [h1] at hb; cases hb; exact hv.ne e h2 (by decide) rfl
    · rcases ht'.stk.own with ⟨h1, _⟩ | ⟨c, sp, h1, h2, _⟩
      · rw [h1] at hb; cases hb
      · rw [h1] at hb; cases hb; exact hv.ne e h2 (by decide) rfl
  exact { h with
    base := f.base, run := ⟨hr, is_dye (c := recol x.c 999 101) ⟨h.run.2.1, by unfold recol; rw [h.run.2.2, if_neg (by decide)]⟩ h.run.1.lt⟩
    lv := ⟨hv, sl_dye h.lv.2 h.base.size hls (fun b hb => h.lv.1.lt hb) (by decide) fun b hb => if_pos hb⟩
    lowR := fun i hi => by
      have hi' : i < x.low.length + 1 := by simpa using hi
      by_cases e : i < x.low.length
      · have := f.lowR i e (by omega)
        simp only [List.getElem_append_left e]; exact this
      · have e : i = x.low.length := by omega
        subst e
        simp only [List.getElem_concat_length]
        exact f.topR (by omega)
    topR := ht'
    topI := fun b hb => by
      refine is_new h.base.size (htb b hb) ?_
      dsimp only
      rw [if_neg (hne b hb)]; simp
    codes := fun a ha => by
      rcases List.mem_append.1 ha with ha | ha
      · exact h.codes a ha
      · rw [List.mem_singleton.1 ha]; exact hc
    lowl := by simpa using hlt
    fsg := by
      have := h.fsg
      rw [List.map_append, this, List.length_append, List.length_singleton, List.replicate_succ']
      simp [hf]
    dice := f.dice (by omega), pv := f.pv (by omega), esR := f.esR (by omega)
    kv := f.kv (by omega), kR := f.kR (by omega), cv := f.cv (by omega), cR := f.cR (by omega) (by omega), ev := f.ev (by omega) }
theorem DocR.ret {H0 H H' : Heap} {x : DG} (h : DocR H0 H x) {low : List DP} {t : DP} (hlow : x.low = low ++ [t]) {ls : Sl} (hu : Upd (· = x.b) H H') (hr : Row H' x.b TQa0 (drunV { x.g with ls := ls }))
    (hv : Vec H' TQau ls (dptrs (low ++ [t]))) (hls : ls.a = x.g.ls.a) : DocR H0 H' { x with g := { x.g with ls := ls }, low := low, top := t } := by
  have hl := h.lowl
  have hll : x.low.length = low.length + 1 := by rw [hlow]; simp
  have f := h.fr (S := (· = 200)) (tch_row hu h.run.2 rfl) (c' := x.c) fun j _ y _ e => e
  have hlast : x.low[low.length]'(by omega) = t := by simp [hlow]
  exact { h with
    base := f.base, run := ⟨hr, h.run.2⟩, lv := ⟨hv, fun b hb => h.lv.2 b (by rw [← hls]; exact hb)⟩
    lowR := fun i (hi : i < low.length) => by
      have := f.lowR i (by omega) (by omega)
      have e : x.low[i]'(by omega) = low[i] := by simp [hlow, List.getElem_append_left hi]
      rw [e] at this; exact this
    topR := by have := (f.lowR low.length (by omega) (by omega)).1; rw [hlast] at this; exact this
    topI := by have := (f.lowR low.length (by omega) (by omega)).2; rw [hlast] at this; exact this
    codes := fun a ha => h.codes a (by rw [hlow]; exact List.mem_append_left _ ha)
    lowl := by show low.length ≤ 16; omega
    fsg := by
      have := h.fsg
      rw [hlow, List.map_append, List.length_append, List.length_singleton, List.replicate_succ', ← List.cons_append] at this
      exact (List.append_inj' this rfl).1
    dice := f.dice (by omega), pv := f.pv (by omega), esR := f.esR (by omega)
    kv := f.kv (by omega), kR := f.kR (by omega), cv := f.cv (by omega), cR := f.cR (by omega) (by omega), ev := f.ev (by omega) }
theorem DocR.put {H0 H H' : Heap} {x : DG} (h : DocR H0 H x) {j : Nat} (hj : j < x.es.length) {b : Nat} (hb : x.es[j].sl.a = some (adr b)) (hu : Upd (· = b) H H') {vs : List Int} (hv : Vec H' TQaq x.es[j].sl (ints vs)) :
    DocR H0 H' { x with es := x.es.set j { x.es[j] with vals := vs } } := by
  have hl := h.lowl
  have hmem := List.getElem_mem hj
  have hbc := (h.esR _ hmem).2 b hb
  have f := h.fr (S := (· = 100)) (tch_row hu hbc rfl) (c' := x.c) fun j _ y _ e => e
  have hk : ∀ {α : Type} (g : PtP → α), (g { x.es[j] with vals := vs } = g x.es[j]) → (x.es.set j { x.es[j] with vals := vs }).map g = x.es.map g := fun g hg => by
    rw [List.map_set, hg]
    apply List.ext_getElem
    · simp
    · intro i h1 h2
      rw [List.getElem_set]
      split
      · rename_i e; subst e; simp
      · rfl
  exact { h with
    base := f.base, run := f.run (by omega), lv := f.lv (by omega), lowR := fun i (hi : i < x.low.length) => f.lowR i hi (by omega), topR := (f.topR (by omega)).1, dice := f.dice (by omega)
    pv := by
      have := f.pv (by omega)
      dsimp only
      rw [flatV_congr (hk (fun q => (q.kind, q.sl)) rfl)]; exact this
    esR := fun q hq => by
      obtain ⟨i, hi, e⟩ := List.getElem_of_mem hq
      rw [List.length_set] at hi
      rw [List.getElem_set] at e
      split at e
      · subst e; exact ⟨hv, (h.esR _ hmem).2⟩
      · rename_i hne
        subst e
        have hr := h.esR _ (List.getElem_mem hi)
        refine ⟨hr.1.upd hu fun b' hb' e => ?_, hr.2⟩
        subst e
        rcases Nat.lt_or_ge i j with hlt | hge
        · exact List.pairwise_iff_getElem.1 h.esA i j hi hj hlt b' hb' hb
        · exact List.pairwise_iff_getElem.1 h.esA j i hj hi (by omega) b' hb hb'
    esA := by
      have e := hk PtP.sl rfl
      have := h.esA
      rw [← List.pairwise_map (f := PtP.sl) (R := Apart)] at this ⊢
      rw [e]; exact this
    kv := f.kv (by omega), kR := f.kR (by omega), cv := f.cv (by omega), cR := f.cR (by omega) (by omega), ev := f.ev (by omega) }
theorem DocR.spawn {H0 H H' : Heap} {x : DG} (h : DocR H0 H x) {cs ps : Sl} {kp : List PtP} (hp : kp.Perm x.kp) (hu : Upd (fun b => x.g.cs.a = some (adr b) ∨ b = x.b) H H')
    (hr : Row H' x.b TQa0 (drunV { x.g with cs := cs, ks := ⟨none, 0, 0⟩ })) (hk : VecN H' TQai 2 ps (kp.flatMap ptV)) (hkn : ∀ b, ps.a = some (adr b) → H.size ≤ b)
    (hv : VecN H' TQac 6 cs ((x.cl ++ [spawned ps kp]).flatMap cmV)) (hcs : cs.a = x.g.cs.a ∨ ∃ b, cs.a = some (adr b) ∧ H.size ≤ b) :
    DocR H0 H' { x with g := { x.g with cs := cs, ks := ⟨none, 0, 0⟩ }, cl := x.cl ++ [spawned ps kp], kp := [], c := dye H.size (recol x.c 999 101) fun b => if ps.a = some (adr b) then 207 else 203 } := by
  have hl := h.lowl
  have ht : Tch x.c H0.size (fun j => j = 203 ∨ j = 200 ∨ j = 999) H H' := Tch.of hu fun b _ e => by
    rcases e with e | rfl
    · exact ⟨(h.cv.2 b e).1, .inl (h.cv.2 b e).2⟩
    · exact ⟨h.run.2.1, .inr (.inl h.run.2.2)⟩
  have f := h.fr ht (agr_recol (n := H.size) (k := 101) (d := fun b => if ps.a = some (adr b) then 207 else 203) (.inr (.inr rfl)))
  have hne : ∀ b, cs.a = some (adr b) → ps.a ≠ some (adr b) := fun b hb e => by
    rcases hv.own with ⟨g1, _⟩ | ⟨b1, _, g1, g2, _⟩
    · rw [g1] at hb; cases hb
    · rcases hk.own with ⟨k1, _⟩ | ⟨b2, _, k1, k2, _⟩
      · rw [k1] at e; cases e
      · rw [g1] at hb; rw [k1] at e; cases hb; cases e
        exact g2.ne k2 (by decide) rfl
  exact { h with
    base := f.base, run := ⟨hr, is_dye (c := recol x.c 999 101) ⟨h.run.2.1, by unfold recol; rw [h.run.2.2, if_neg (by decide)]⟩ h.run.1.lt⟩
    lv := f.lv (by omega), lowR := fun i (hi : i < x.low.length) => f.lowR i hi (by omega), topR := (f.topR (by omega)).1, topI := (f.topR (by omega)).2, dice := f.dice (by omega), pv := f.pv (by omega), esR := f.esR (by omega)
    kv := VecNC.nil _ _ _ _ _ _, kR := fun p hp => by cases hp
    cv := ⟨hv, sl_dye h.cv.2 h.base.size hcs (fun b hb => h.cv.1.lt hb) (by decide) fun b hb => if_neg (hne b hb)⟩
    cR := fun p hp' => by
      rcases List.mem_append.1 hp' with hp' | hp'
      · exact f.cR (by omega) (by omega) p hp'
      · rw [List.mem_singleton.1 hp']
        exact ⟨VecC.nil _ _ _ _ _, ⟨hk, fun b hb => is_new h.base.size (hkn b hb) (if_pos hb)⟩, fun p hpp => f.kR (by omega) p (hp.subset hpp)⟩
    ev := f.ev (by omega)
    outA := by
      have e : (outL x.cl x.kp ++ [(⟨none, 0, 0⟩ : Sl)]).Perm (outL (x.cl ++ [spawned ps kp]) []) := by
        simp only [outL, List.flatMap_append, List.flatMap_cons, List.flatMap_nil, List.append_nil, cmSl, List.map_nil, List.append_assoc]
        refine List.perm_append_left_iff _ |>.2 (List.perm_append_comm.trans ?_)
        exact (hp.symm.map _).cons _
      refine (e.pairwise_iff fun {a b} h => h.symm).1 ?_
      rw [List.pairwise_append]
      refine ⟨h.outA, List.pairwise_singleton _ _, fun s hs t ht => ?_⟩
      rw [List.mem_singleton.1 ht]
      exact apart_nil _ rfl
    parA := by
      rw [List.map_append, List.pairwise_append]
      refine ⟨h.parA, List.pairwise_singleton _ _, fun s hs t ht => ?_⟩
      rw [List.mem_singleton.1 ht]
      obtain ⟨q, hq, rfl⟩ := List.mem_map.1 hs
      intro b hb hb'
      have := (h.cR q hq).ps.1.lt hb
      have := hkn b hb'
      omega }
end
section
open Hc Hc.Vf Hc.Mc Hc.Dice
variable {H : Heap}
theorem s_rTruth {b : Bool} {k : Int → Heap → Prop} (hk : k (truthI b) H) : CallT Pg fQb9 [.bool b] IntR H k := by
  refine cQb3 _ ?_
  unfold vQb3
  cases b <;> exact hk
theorem s_quot {w x : Int} {k : Int → Heap → Prop} (hk : k (divI w x) H) : CallT Pg fQcd [.int .i64 w, .int .i64 x] IntR H k := by
  refine cQb7 _ _ ?_
  unfold vQb7
  unfold divI at hk
  refine Br.mk (fun h => ?_) fun h => Br.mk (fun h2 => ?_) fun h2 => ⟨bneI h, ?_⟩
  · rwa [if_pos (beqI h)] at hk
  · rw [if_neg (bneI h), if_pos (beqI h2)] at hk
    rw [Int.zero_sub]; exact hk
  · rwa [if_neg (bneI h), if_neg (bneI h2)] at hk
theorem w64_ex (x : Int) : ∃ m : Int, w64 x = x + m * 18446744073709551616 := by
  refine ⟨-((x + 9223372036854775808) / 18446744073709551616), ?_⟩
  unfold w64; rw [wrap_i64]
  have := Int.mul_ediv_add_emod (x + 9223372036854775808) 18446744073709551616
  omega
theorem w64_of {x r m : Int} (hr : I64 r) (h : x = r + m * 18446744073709551616) : w64 x = r := by
  subst h
  unfold I64 at hr
  unfold w64; rw [wrap_i64]
  omega
theorem rem_eq {w x : Int} (hw : I64 w) (hx : I64 x) : w64 (w64 (w - w64 (w64 (divI w x * x) * truthI (x != 0))) - w64 (w * truthI (x == 0))) = remI w x := by
  by_cases h0 : x = 0
  · subst h0
    have e1 : ((0 : Int) != 0) = false := by decide
    have e2 : ((0 : Int) == 0) = true := by decide
    rw [e1, e2]
    unfold truthI remI
    simp only [Bool.false_eq_true, if_false, if_true, Int.mul_zero, Int.mul_one, true_or]
    have e3 : w64 0 = 0 := by decide
    obtain ⟨m, hm⟩ := w64_ex w
    rw [e3, Int.sub_zero, Int.sub_self]; exact e3
  · have e1 : (x != 0) = true := by simp [h0]
    have e2 : (x == 0) = false := by simp [h0]
    rw [e1, e2]
    unfold truthI
    simp only [Bool.false_eq_true, if_false, if_true, Int.mul_zero, Int.mul_one]
    have e3 : w64 0 = 0 := by decide
    rw [e3, Int.sub_zero]
    obtain ⟨m1, h1⟩ := w64_ex (w64 (divI w x * x))
    obtain ⟨m2, h2⟩ := w64_ex (divI w x * x)
    obtain ⟨m3, h3⟩ := w64_ex (w - w64 (w64 (divI w x * x)))
    unfold remI
    by_cases h9 : x = -1
    · subst h9
      rw [if_pos (.inr rfl)]
      have hd : divI w (-1) = w64 (-w) := by unfold divI; rw [if_neg (by decide), if_pos rfl]
      obtain ⟨m4, h4⟩ := w64_ex (-w)
      rw [hd, h4] at h1 h2 h3 ⊢
      refine w64_of (m := m3 - m1 - m2 + m4) ⟨by decide, by decide⟩ ?_
      rw [h3, h1, h2]; omega
    · rw [if_neg (by omega)]
      have hd : divI w x = w64 (w.tdiv x) := by unfold divI; rw [if_neg h0, if_neg h9]
      have hb : I64 (w.tdiv x) := by
        have := Int.natAbs_tdiv_le_natAbs w x
        unfold I64 at *
        rcases (by omega : w < 0 ∨ 0 ≤ w) with hn | hn
        · refine ⟨by omega, ?_⟩
          have : (w.tdiv x).natAbs ≤ 9223372036854775808 := by omega
          by_cases he : (w.tdiv x).natAbs = 9223372036854775808
          · have hw2 : w.natAbs = 9223372036854775808 := by omega
            rw [Int.natAbs_tdiv, hw2] at he
            have hx1 : x.natAbs = 1 := by
              have : x.natAbs ≠ 0 := by omega
              rcases Nat.lt_or_ge x.natAbs 2 with g | g
              · omega
              · have h5 := Nat.div_le_div_left g (show 0 < 2 by decide) (a := 9223372036854775808)
                have he' : 9223372036854775808 / x.natAbs = 9223372036854775808 := he
                rw [he'] at h5
                exact absurd h5 (by decide)
            have hx2 : x = 1 := by omega
            subst hx2
            rw [Int.tdiv_one]; omega
          · omega
        · constructor <;> omega
      have hwt : w64 (w.tdiv x) = w.tdiv x := w64_of (m := 0) hb (by omega)
      rw [hd, hwt] at h1 h2 h3 ⊢
      have ht := Int.tmod_def w x
      have hc : x * w.tdiv x = w.tdiv x * x := Int.mul_comm _ _
      refine w64_of (m := m3 - m1 - m2) ?_ ?_
      · have := remI_bd (w := w) hx
        unfold remI at this
        rwa [if_neg (by omega)] at this
      · rw [h3, h1, h2, ht, hc]; omega
theorem s_rTwo {op w x : Int} (ho : isBin op = true) (hw : I64 w) (hx : I64 x) {k : Int → Heap → Prop} (hk : k (binI op.toNat w x) H) : CallT Pg fQcb [.int .i64 op, .int .i64 w, .int .i64 x] IntR H k := by
  refine cQb5 _ _ _ ?_
  unfold vQb5
  refine Br.mk (fun h => by rw [beqI h] at hk; exact hk) fun h6 => ?_
  refine Br.mk (fun h => by rw [beqI h] at hk; exact hk) fun h7 => ?_
  refine Br.mk (fun h => by rw [beqI h] at hk; exact hk) fun h8 => ?_
  refine Br.mk (fun h => by rw [beqI h] at hk; exact s_quot hk) fun h9 => ?_
  refine Br.mk (fun h => ?_) fun h10 => ?_
  · rw [beqI h] at hk
    have hk : k (remI w x) H := hk
    rw [← rem_eq hw hx] at hk
    refine s_quot ?_
    simp only [Lt_def]
    exact s_rTruth (s_rTruth hk)
  refine Br.mk (fun h => by rw [beqI h] at hk; exact s_rTruth (by rw [trueq]; exact hk)) fun h12 => ?_
  refine Br.mk (fun h => by rw [beqI h] at hk; exact s_rTruth (by rw [truneq]; exact hk)) fun h13 => ?_
  refine Br.mk (fun h => by rw [beqI h] at hk; exact s_rTruth hk) fun h14 => ?_
  refine Br.mk (fun h => by rw [beqI h] at hk; exact s_rTruth hk) fun h15 => ?_
  refine Br.mk (fun h => by rw [beqI h] at hk; exact s_rTruth hk) fun h16 => ?_
  refine Br.mk (fun h => by rw [beqI h] at hk; exact s_rTruth hk) fun h17 => ?_
  refine Br.mk (fun h => ?_) fun h36 => ?_
  · rw [beqI h] at hk
    have hk : k (if w < x then w else x) H := hk
    refine Br_dec (fun h => by rwa [if_pos h] at hk) fun h => by rwa [if_neg h] at hk
  · have h37 : op = 37 := by
      unfold isBin at ho
      simp only [List.contains_cons, List.contains_nil, Bool.or_false, Bool.or_eq_true, beq_iff_eq] at ho
      have := bneI h6; have := bneI h7; have := bneI h8; have := bneI h9; have := bneI h10; have := bneI h12; have := bneI h13; have := bneI h14; have := bneI h15; have := bneI h16; have := bneI h17; have := bneI h36
      omega
    subst h37
    have hk : k (if w > x then w else x) H := hk
    refine Br_dec (fun h => by rwa [if_pos h] at hk) fun h => by rwa [if_neg h] at hk
theorem s_rOne {op x : Int} (ho : isUn op = true) {k : Int → Heap → Prop} (hk : k (unI op.toNat x) H) : CallT Pg fQca [.int .i64 op, .int .i64 x] IntR H k := by
  refine cQb4 _ _ ?_
  unfold vQb4
  refine Br.mk (fun h => by rw [beqI h] at hk; rw [Int.zero_sub]; exact hk) fun h11 => ?_
  refine Br.mk (fun h => by rw [beqI h] at hk; exact s_rTruth (by rw [trueq]; exact hk)) fun h18 => ?_
  have h38 : op = 38 := by
    unfold isUn at ho
    simp only [List.contains_cons, List.contains_nil, Bool.or_false, Bool.or_eq_true, beq_iff_eq] at ho
    have := bneI h11; have := bneI h18
    omega
  subst h38
  have hk : k (if x < 0 then w64 (-x) else x) H := hk
  refine Br_dec (fun h => by rw [if_pos h] at hk; rw [Int.zero_sub]; exact hk) fun h => by rwa [if_neg h] at hk
theorem s_jump {a n : Int} {k : Int → Heap → Prop} (hk : k (if 0 ≤ a ∧ a < n then a else -1) H) : CallT Pg fQb3 [.int .i64 a, .int .i64 n] IntR H k := by
  refine cQbx _ _ ?_
  unfold vQbx
  refine Jn.mk (fun j H' => H = H' ∧ j = decide (¬ (0 ≤ a ∧ a < n))) (fun kk hkk => ?_) ?_
  · refine Br_dec (fun h => hkk _ _ ⟨rfl, (decide_eq_true (by omega)).symm⟩) fun h => hkk _ _ ⟨rfl, decide_eq_decide.2 (by omega)⟩
  · rintro j _ ⟨rfl, rfl⟩
    refine Br_dec (fun h => ?_) fun h => ?_
    · rw [if_neg h] at hk; exact hk
    · rw [if_pos (Classical.not_not.1 h)] at hk; exact hk
theorem s_inside {op : Int} {k : Bool → Heap → Prop} (hk : k (outerB op) H) : CallT Pg fQb1 [.int .i64 op] (.one (.c .bool)) H k := by
  refine cQbv _ ?_
  unfold vQbv
  have ho : outerB op = decide (op = 4 ∨ op = 5 ∨ (25 ≤ op ∧ op ≤ 30) ∨ op = 35 ∨ op = 23) := by
    unfold outerB
    rw [Bool.eq_iff_iff]
    simp only [List.contains_cons, List.contains_nil, Bool.or_false, Bool.or_eq_true, beq_iff_eq, decide_eq_true_eq]
    omega
  rw [ho] at hk
  refine Jn.mk (fun j H' => H = H' ∧ j = decide (op = 4 ∨ op = 5 ∨ (25 ≤ op ∧ op ≤ 30) ∨ op = 35 ∨ op = 23)) (fun kk hkk => ?_) (by rintro j _ ⟨rfl, rfl⟩; exact hk)
  have e : ∀ b, b = decide (op = 4 ∨ op = 5 ∨ (25 ≤ op ∧ op ≤ 30) ∨ op = 35 ∨ op = 23) → kk b H := fun b hb => hkk _ _ ⟨rfl, hb⟩
  refine Br.mk (fun h => e _ (by have := beqI h; exact (decide_eq_true (by omega)).symm)) fun h4 => ?_
  have h4 := bneI h4
  refine Br.mk (fun h => e _ (by have := beqI h; exact (decide_eq_true (by omega)).symm)) fun h5 => ?_
  have h5 := bneI h5
  refine Br_dec (fun h => Br_dec (fun h' => e _ (decide_eq_true (by omega)).symm) fun h' => ?_) fun h => ?_
  · refine Br.mk (fun h => e _ (by have := beqI h; exact (decide_eq_true (by omega)).symm)) fun h35 => e _ ?_
    have h35 := bneI h35
    rw [trueq]; exact decide_eq_decide.2 (by omega)
  · refine Br.mk (fun h => e _ (by have := beqI h; exact (decide_eq_true (by omega)).symm)) fun h35 => e _ ?_
    have h35 := bneI h35
    rw [trueq]; exact decide_eq_decide.2 (by omega)
theorem s_in {s : Sl} {xs : List Int} {v : Int} (hs : RL (Value.int .i64) H s xs) (hl : xs.length ≤ 2 ^ 60) {k : Bool → Heap → Prop} (hk : k (decide (v ∈ xs)) H) : CallT Pg fQb7 [.slice s.a s.len s.cap, .int .i64 v] (.one (.c .bool)) H k := by
  refine cQb1 _ _ ?_
  unfold vQb1
  have hlen := hs.len
  refine LoopT.mk (fun i H' => H = H' ∧ ∃ n : Nat, i = n ∧ n ≤ xs.length ∧ ∀ j (h : j < xs.length), j < n → xs[j] ≠ v) (fun i _ => xs.length - i.toNat) ⟨rfl, 0, rfl, Nat.zero_le _, fun j _ hj => by omega⟩ ?_
  rintro next _ _ ⟨rfl, n, rfl, hn, hno⟩ hnext
  refine Br_dec (fun hlt => ?_) fun hge => ?_
  · have hn2 : n < xs.length := by omega
    refine IxA_rl hs rfl hn2 fun a ha => Ld_int ha (Br.mk (fun h => ?_) fun h => ?_)
    · have : v ∈ xs := by rw [← beqI h]; exact List.getElem_mem hn2
      rwa [decide_eq_true this] at hk
    · have h := bneI h
      refine Lt.mk (u := ((n + 1 : Nat) : Int)) (by rw [wrap_i64_id] <;> omega) (hnext _ _ ⟨rfl, n + 1, rfl, hn2, fun j hj hjn => ?_⟩ (by omega))
      rcases Nat.lt_or_ge j n with e | e
      · exact hno j hj e
      · have : j = n := by omega
        subst this; exact h
  · have : ¬ v ∈ xs := fun h => by
      obtain ⟨j, hj, e⟩ := List.getElem_of_mem h
      exact absurd e (hno j hj (by omega))
    rwa [decide_eq_false this] at hk
end
end Go.Proofs.YtfpmgpblhhcpgaaGreat
