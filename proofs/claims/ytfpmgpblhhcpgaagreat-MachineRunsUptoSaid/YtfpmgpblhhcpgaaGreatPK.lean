/-
  Machine: what came out is its owner's, who writes over it.
-/
import Derived.Test.YtfpmgpblhhcpgaaGreatHcTou
import Derived.Test.YtfpmgpblhhcpgaaGreatVA
namespace Go.Proofs.YtfpmgpblhhcpgaaGreat
set_option linter.unusedVariables false
set_option linter.unusedSimpArgs false
set_option maxRecDepth 100000
section
open Hc Hc.Vf Hc.Mc Hc.Dice
variable {H : Heap}
abbrev UnitR : RTy := .tup []
abbrev NumR (H : Heap) (s : Sl) : Prop := Room H T_int64 1 s ∧ s.len ≤ 2 ^ 44
theorem one1 {v : Value} (h : v.oneCell' = true) : ∀ w ∈ [v], w.oneCell' = true := fun w hw => by rw [List.mem_singleton.1 hw]; exact h
theorem s_wipe {l : Sl} (hr : NumR H l) {k : Unit → Heap → Prop} (hk : ∀ H', Tou (fun b => l.a = some (adr b)) (· = T_int64) H H' → k () H') :
    CallT Pg f_L_wipe [.slice l.a l.len l.cap] UnitR H k := by
  refine c_L_wipe l ?_
  unfold v_L_wipe
  obtain ⟨hr, hl⟩ := hr
  refine LoopT.mk (fun s H' => Tou (fun b => l.a = some (adr b)) (· = T_int64) H H' ∧ ∃ i : Nat, s = i ∧ i ≤ l.len) (fun s _ => l.len - s.toNat) ⟨.refl _ _ _, 0, rfl, Nat.zero_le _⟩ ?_
  rintro next _ H1 ⟨ht, i, rfl, hi⟩ hnext
  refine Br_dec (fun hlt => ?_) fun _ => ?_
  · have hi2 : i < l.len := by omega
    refine put1 (hr.tou ht) rfl hi2 fun H2 h2 => Lt.mk (u := ((i + 1 : Nat) : Int)) (by rw [wrap_i64_id] <;> omega) (hnext _ _ ⟨ht.trans h2 (fun _ _ e => e) fun _ e => e, i + 1, rfl, hi2⟩ (by omega))
  · exact grow_fix (ws := [.int .i64 (-77)]) (hr.tou ht) rfl (by decide) rfl (one1 rfl) (by decide) (by decide) (by decide) (by omega) fun H2 h2 => hk _ (ht.trans h2 (fun _ _ e => e) fun _ e => e)
structure OwnI (H : Heap) (vs cs es : Sl) (ps : List PtP) (cl : List CmP) : Prop where
  vv : VecN H T_api_Part 2 vs (ps.flatMap ptV)
  vR : ∀ q ∈ ps, NumR H q.sl
  cv : VecN H T_api_Command 6 cs (cl.flatMap cmV)
  cR : ∀ q ∈ cl, NumR H q.vsl ∧ (VecN H T_api_Part 2 q.psl (q.parts.flatMap ptV) ∧ q.psl.len ≤ 2 ^ 42) ∧ ∀ p ∈ q.parts, NumR H p.sl
  ev : Room H T_api_Event 5 es
  l1 : vs.len ≤ 2 ^ 42
  l2 : cs.len ≤ 2 ^ 41
  l3 : es.len ≤ 2 ^ 41
abbrev OutB (vs cs es : Sl) (ps : List PtP) (cl : List CmP) : Nat → Prop := fun b => ∃ s ∈ vs :: cs :: es :: (ps.map PtP.sl ++ cl.flatMap cmSl ++ cl.map CmP.psl), s.a = some (adr b)
theorem outB_v {vs cs es : Sl} {ps : List PtP} {cl : List CmP} {b : Nat} (h : vs.a = some (adr b)) : OutB vs cs es ps cl b := ⟨vs, by simp, h⟩
theorem outB_c {vs cs es : Sl} {ps : List PtP} {cl : List CmP} {b : Nat} (h : cs.a = some (adr b)) : OutB vs cs es ps cl b := ⟨cs, by simp, h⟩
theorem outB_e {vs cs es : Sl} {ps : List PtP} {cl : List CmP} {b : Nat} (h : es.a = some (adr b)) : OutB vs cs es ps cl b := ⟨es, by simp, h⟩
theorem outB_p {vs cs es : Sl} {ps : List PtP} {cl : List CmP} {b : Nat} {q : PtP} (hq : q ∈ ps) (h : q.sl.a = some (adr b)) : OutB vs cs es ps cl b := by
  refine ⟨q.sl, ?_, h⟩
  simp only [List.mem_cons, List.mem_append]
  exact .inr (.inr (.inr (.inl (.inl (List.mem_map.2 ⟨q, hq, rfl⟩)))))
theorem outB_q {vs cs es : Sl} {ps : List PtP} {cl : List CmP} {b : Nat} {q : CmP} (hq : q ∈ cl) (h : q.vsl.a = some (adr b)) : OutB vs cs es ps cl b := by
  refine ⟨q.vsl, ?_, h⟩
  simp only [List.mem_cons, List.mem_append]
  exact .inr (.inr (.inr (.inl (.inr (List.mem_flatMap.2 ⟨q, hq, List.mem_cons_self⟩)))))
theorem outB_w {vs cs es : Sl} {ps : List PtP} {cl : List CmP} {b : Nat} {q : CmP} (hq : q ∈ cl) (h : q.psl.a = some (adr b)) : OutB vs cs es ps cl b := by
  refine ⟨q.psl, ?_, h⟩
  simp only [List.mem_cons, List.mem_append]
  exact .inr (.inr (.inr (.inr (List.mem_map.2 ⟨q, hq, rfl⟩))))
theorem outB_u {vs cs es : Sl} {ps : List PtP} {cl : List CmP} {b : Nat} {q : CmP} {p : PtP} (hq : q ∈ cl) (hp : p ∈ q.parts) (h : p.sl.a = some (adr b)) : OutB vs cs es ps cl b := by
  refine ⟨p.sl, ?_, h⟩
  simp only [List.mem_cons, List.mem_append]
  exact .inr (.inr (.inr (.inl (.inr (List.mem_flatMap.2 ⟨q, hq, List.mem_cons_of_mem _ (List.mem_map.2 ⟨p, hp, rfl⟩)⟩)))))
abbrev mkO : CmP := ⟨-77, (0, 0), 0, nilS, [], nilS, []⟩
theorem put6 {s : Sl} {ys : List CmP} {H : Heap} {K : Heap → Prop} (hv : VecN H T_api_Command 6 s (ys.flatMap cmV)) {i : Int} {j : Nat} (hj : i = j) (hl : j < ys.length) (hK : ∀ H', VecN H' T_api_Command 6 s ((ys.set j mkO).flatMap cmV) → Tou (fun b => s.a = some (adr b)) (· = T_api_Command) H H' → K H') :
    IxA 6 s i fun a => St (a.add 0) (.int .i64 (-77)) H fun H1 => St (a.add 1) (.int .i64 0) H1 fun H2 => St (a.add 2) (.int .i64 0) H2 fun H3 => St (a.add 3) (.int .i64 0) H3 fun H4 => St (a.add 4) (.slice none 0 0) H4 fun H5 => St (a.add 5) (.slice none 0 0) H5 fun H6 => K H6 :=
  put_vecN (f := cmV) (x := mkO) cmV_len (by decide) hv hj hl hK
abbrev S4 (T : TypeId) : Prop := T = T_int64 ∨ T = T_api_Part ∨ T = T_api_Command ∨ T = T_api_Event
theorem s_own {vs cs es : Sl} {st er : Int} {ps : List PtP} {cl : List CmP} (h : OwnI H vs cs es ps cl) {k : Unit → Heap → Prop} (hk : ∀ H', Tou (OutB vs cs es ps cl) S4 H H' → k () H') :
    CallT Pg f_L_own [.agg #[.slice vs.a vs.len vs.cap, .slice cs.a cs.len cs.cap, .slice es.a es.len es.cap, .int .i64 st, .int .i64 er]] UnitR H k := by
  refine c_L_own (vs, cs, es, st, er) ?_
  unfold v_L_own
  refine Nw_row (vs := [slV vs, slV cs, slV es, .int .i64 st, .int .i64 er]) fun b1 H1 hb1 hE1 _ hr1 => ?_
  simp only [adr_add]
  have t1 : Tou (OutB vs cs es ps cl) S4 H H1 := .of_ext _ _ hE1
  have hl1 := h.l1
  have hl2 := h.l2
  have hl3 := h.l3
  have hvl : vs.len = ps.length := (VecN.rn ptV_len (by decide) h.vv).len
  have hcl : cs.len = cl.length := (VecN.rn cmV_len (by decide) h.cv).len
  have ldv : ∀ {M H'} {S : TypeId → Prop} {k : Sl → Prop}, Tou M S H1 H' → ¬ S T_api_Outcome → k vs → Ld .sl (adr b1) H' k := fun ht hn h => Ld_sl (s := vs) (((ht.keep hr1 hn).cell 0).trans rfl) h
  have ldc : ∀ {M H'} {S : TypeId → Prop} {k : Sl → Prop}, Tou M S H1 H' → ¬ S T_api_Outcome → k cs → Ld .sl ⟨b1, 1, none⟩ H' k := fun ht hn h => Ld_sl (s := cs) (((ht.keep hr1 hn).cell 1).trans rfl) h
  have lde : ∀ {M H'} {S : TypeId → Prop} {k : Sl → Prop}, Tou M S H1 H' → ¬ S T_api_Outcome → k es → Ld .sl ⟨b1, 2, none⟩ H' k := fun ht hn h => Ld_sl (s := es) (((ht.keep hr1 hn).cell 2).trans rfl) h
  have nI : ¬ (T_api_Outcome = T_int64) := by decide
  -- the numbers of the values
  refine LoopT.mk (fun s H' => Tou (OutB vs cs es ps cl) (· = T_int64) H1 H' ∧ ∃ i : Nat, s = i ∧ i ≤ ps.length) (fun s _ => ps.length - s.toNat) ⟨.refl _ _ _, 0, rfl, Nat.zero_le _⟩ ?_
  rintro next _ H2 ⟨ht, i, rfl, hi⟩ hnext
  refine ldv ht nI (Br_dec (fun hlt => ?_) fun _ => ?_)
  · have hi2 : i < ps.length := by omega
    have hm := List.getElem_mem hi2
    refine ldv ht nI (IxA_rn' ptV_len (VecN.rn ptV_len (by decide) ((h.vv.ext hE1).tou ht (by decide))) (by decide) rfl hi2 fun a ha => ?_)
    rw [getElem!_pos _ i hi2] at ha
    refine Ld_sl (s := ps[i].sl) ha.2.1 (s_wipe ⟨((h.vR _ hm).1.tou t1).tou ht, (h.vR _ hm).2⟩ fun H3 h3 => ?_)
    exact Lt.mk (u := ((i + 1 : Nat) : Int)) (by rw [wrap_i64_id] <;> omega) (hnext _ _ ⟨ht.trans h3 (fun _ _ e => outB_p hm e) fun _ e => e, i + 1, rfl, hi2⟩ (by omega))
  clear hnext
  -- of the commands
  refine LoopT.mk (fun s H' => Tou (OutB vs cs es ps cl) (· = T_int64) H1 H' ∧ ∃ i : Nat, s = i ∧ i ≤ cl.length) (fun s _ => cl.length - s.toNat) ⟨ht, 0, rfl, Nat.zero_le _⟩ ?_
  rintro next _ H2 ⟨ht, i, rfl, hi⟩ hnext
  have cmd : ∀ {H'}, Tou (OutB vs cs es ps cl) (· = T_int64) H1 H' → VecN H' T_api_Command 6 cs (cl.flatMap cmV) := fun ht => (h.cv.ext hE1).tou ht (by decide)
  refine ldc ht nI (Br_dec (fun hlt => ?_) fun _ => ?_)
  · have hi2 : i < cl.length := by omega
    have hm := List.getElem_mem hi2
    obtain ⟨g1, g2, g3⟩ := h.cR _ hm
    have ixc : ∀ {H'} {k : Addr → Prop}, Tou (OutB vs cs es ps cl) (· = T_int64) H1 H' → (∀ a, hcells H' a 0 (cmV cl[i]) → k a) → IxA 6 cs (i : Nat) k := fun ht hk => IxA_rn' cmV_len (VecN.rn cmV_len (by decide) (cmd ht)) (by decide) rfl hi2 fun a g => hk a (by rw [getElem!_pos _ i hi2] at g; exact g)
    generalize cl[i] = c at *
    refine ldc ht nI (ixc ht fun a ha => Ld_sl (s := c.vsl) ha.2.2.2.2.1 (s_wipe ⟨(g1.1.tou t1).tou ht, g1.2⟩ fun H3 h3 => ?_))
    have ht3 : Tou (OutB vs cs es ps cl) (· = T_int64) H1 H3 := ht.trans h3 (fun _ _ e => outB_q hm e) fun _ e => e
    have hpl : c.psl.len = c.parts.length := (VecN.rn ptV_len (by decide) g2.1).len
    have hpb := g2.2
    refine LoopT.mk (fun s H' => Tou (OutB vs cs es ps cl) (· = T_int64) H1 H' ∧ ∃ i : Nat, s = i ∧ i ≤ c.parts.length) (fun s _ => c.parts.length - s.toNat) ⟨ht3, 0, rfl, Nat.zero_le _⟩ ?_
    rintro next2 _ H4 ⟨ht4, j, rfl, hj⟩ hnext2
    refine ldc ht4 nI (ixc ht4 fun a ha => Ld_sl (s := c.psl) ha.2.2.2.2.2.1 (Br_dec (fun hlt => ?_) fun _ => ?_))
    · have hj2 : j < c.parts.length := by omega
      have hpm := List.getElem_mem hj2
      refine ldc ht4 nI (ixc ht4 fun a ha => Ld_sl (s := c.psl) ha.2.2.2.2.2.1 (IxA_rn' ptV_len (VecN.rn ptV_len (by decide) ((g2.1.ext hE1).tou ht4 (by decide))) (by decide) rfl hj2 fun a ha => ?_))
      rw [getElem!_pos _ j hj2] at ha
      refine Ld_sl (s := c.parts[j].sl) ha.2.1 (s_wipe ⟨((g3 _ hpm).1.tou t1).tou ht4, (g3 _ hpm).2⟩ fun H5 h5 => ?_)
      exact Lt.mk (u := ((j + 1 : Nat) : Int)) (by rw [wrap_i64_id] <;> omega) (hnext2 _ _ ⟨ht4.trans h5 (fun _ _ e => outB_u hm hpm e) fun _ e => e, j + 1, rfl, hj2⟩ (by omega))
    · exact Lt.mk (u := ((i + 1 : Nat) : Int)) (by rw [wrap_i64_id] <;> omega) (hnext _ _ ⟨ht4, i + 1, rfl, hi2⟩ (by omega))
  clear hnext
  -- the commands
  have hn4 : ¬ S4 T_api_Outcome := by decide
  refine LoopT.mk (fun s H' => Tou (OutB vs cs es ps cl) S4 H1 H' ∧ ∃ (i : Nat) (dl : List CmP), s = i ∧ i ≤ cl.length ∧ VecN H' T_api_Command 6 cs (dl.flatMap cmV) ∧ dl.length = cl.length ∧ dl.drop i = cl.drop i) (fun s _ => cl.length - s.toNat) ⟨ht.mono (fun _ _ e => e) fun _ e => .inl e, 0, cl, rfl, Nat.zero_le _, cmd ht, rfl, rfl⟩ ?_
  rintro next _ H3 ⟨ht, i, dl, rfl, hi, hdl, hdn, hde⟩ hnext
  refine ldc ht hn4 (Br_dec (fun hlt => ?_) fun _ => ?_)
  · have hi2 : i < cl.length := by omega
    have hm := List.getElem_mem hi2
    obtain ⟨_, g2, _⟩ := h.cR _ hm
    have ec : dl[i]'(by omega) = cl[i] := by
      have := congrArg (fun l => l[0]?) hde
      simpa [List.getElem?_eq_getElem hi2, List.getElem?_eq_getElem (show i < dl.length by omega)] using this
    have ixc : ∀ {M H'} {k : Addr → Prop}, Tou M (· = T_api_Part) H3 H' → (∀ a, hcells H' a 0 (cmV cl[i]) → k a) → IxA 6 cs (i : Nat) k := fun ht hk => IxA_rn' cmV_len (VecN.rn cmV_len (by decide) (hdl.tou ht (by decide))) (by decide) rfl (by omega) fun a g => hk a (by rw [getElem!_pos _ i (by omega), ec] at g; exact g)
    have hroom : Room H3 T_api_Part 2 cl[i].psl := (Room.tou ⟨_, g2.1⟩ t1).tou ht
    have hpb := g2.2
    generalize cl[i] = c at *
    have up : ∀ {H'}, Tou (fun b => c.psl.a = some (adr b)) (· = T_api_Part) H3 H' → Tou (OutB vs cs es ps cl) S4 H1 H' := fun h => ht.trans h (fun _ _ e => outB_w hm e) fun _ e => .inr (.inl e)
    refine LoopT.mk (fun s H' => Tou (fun b => c.psl.a = some (adr b)) (· = T_api_Part) H3 H' ∧ ∃ j : Nat, s = j ∧ j ≤ c.psl.len) (fun s _ => c.psl.len - s.toNat) ⟨.refl _ _ _, 0, rfl, Nat.zero_le _⟩ ?_
    rintro next2 _ H4 ⟨h4, j, rfl, hj⟩ hnext2
    refine ldc (up h4) hn4 (ixc h4 fun a ha => Ld_sl (s := c.psl) ha.2.2.2.2.2.1 (Br_dec (fun hlt => ?_) fun _ => ?_))
    · have hj2 : j < c.psl.len := by omega
      refine ldc (up h4) hn4 (ixc h4 fun a ha => Ld_sl (s := c.psl) ha.2.2.2.2.2.1 (put2 (hroom.tou h4) rfl hj2 fun H5 h5 => ?_))
      exact Lt.mk (u := ((j + 1 : Nat) : Int)) (by rw [wrap_i64_id] <;> omega) (hnext2 _ _ ⟨h4.trans h5 (fun _ _ e => e) fun _ e => e, j + 1, rfl, hj2⟩ (by omega))
    refine ldc (up h4) hn4 (ixc h4 fun a ha => Ld_sl (s := c.psl) ha.2.2.2.2.2.1 ?_)
    refine grow_fix (ws := [.int .i64 (-77), .slice none 0 0]) (hroom.tou h4) rfl (by decide) rfl (by decide) (by decide) (by decide) (by decide) (by omega) fun H5 h5 => ?_
    have h45 : Tou (fun b => c.psl.a = some (adr b)) (· = T_api_Part) H3 H5 := h4.trans h5 (fun _ _ e => e) fun _ e => e
    refine ldc (up h45) hn4 (put6 (hdl.tou h45 (by decide)) rfl (by omega) fun H6 g6 h6 => ?_)
    refine Lt.mk (u := ((i + 1 : Nat) : Int)) (by rw [wrap_i64_id] <;> omega) (hnext _ _ ⟨(up h45).trans h6 (fun _ _ e => outB_c e) fun _ e => .inr (.inr (.inl e)), i + 1, _, rfl, hi2, g6, by rw [List.length_set, hdn], ?_⟩ (by omega))
    rw [List.drop_set_of_lt (by omega), ← List.drop_drop, hde, List.drop_drop]
  clear hnext
  have rv : ∀ {M H'} {S : TypeId → Prop}, Tou M S H1 H' → Room H' T_api_Part 2 vs := fun ht => (Room.tou ⟨_, h.vv⟩ t1).tou ht
  have rc : ∀ {M H'} {S : TypeId → Prop}, Tou M S H1 H' → Room H' T_api_Command 6 cs := fun ht => (Room.tou ⟨_, h.cv⟩ t1).tou ht
  have re : ∀ {M H'} {S : TypeId → Prop}, Tou M S H1 H' → Room H' T_api_Event 5 es := fun ht => (h.ev.tou t1).tou ht
  -- the values
  refine LoopT.mk (fun s H' => Tou (OutB vs cs es ps cl) S4 H1 H' ∧ ∃ i : Nat, s = i ∧ i ≤ vs.len) (fun s _ => vs.len - s.toNat) ⟨ht, 0, rfl, Nat.zero_le _⟩ ?_
  rintro next _ H4 ⟨ht, i, rfl, hi⟩ hnext
  refine ldv ht hn4 (Br_dec (fun hlt => ?_) fun _ => ?_)
  · have hi2 : i < vs.len := by omega
    refine ldv ht hn4 (put2 (rv ht) rfl hi2 fun H5 h5 => ?_)
    exact Lt.mk (u := ((i + 1 : Nat) : Int)) (by rw [wrap_i64_id] <;> omega) (hnext _ _ ⟨ht.trans h5 (fun _ _ e => outB_v e) fun _ e => .inr (.inl e), i + 1, rfl, hi2⟩ (by omega))
  clear hnext
  -- the events
  refine LoopT.mk (fun s H' => Tou (OutB vs cs es ps cl) S4 H1 H' ∧ ∃ i : Nat, s = i ∧ i ≤ es.len) (fun s _ => es.len - s.toNat) ⟨ht, 0, rfl, Nat.zero_le _⟩ ?_
  rintro next _ H5 ⟨ht, i, rfl, hi⟩ hnext
  refine lde ht hn4 (Br_dec (fun hlt => ?_) fun _ => ?_)
  · have hi2 : i < es.len := by omega
    refine lde ht hn4 (put5 (re ht) rfl hi2 fun H6 h6 => ?_)
    exact Lt.mk (u := ((i + 1 : Nat) : Int)) (by rw [wrap_i64_id] <;> omega) (hnext _ _ ⟨ht.trans h6 (fun _ _ e => outB_e e) fun _ e => .inr (.inr (.inr e)), i + 1, rfl, hi2⟩ (by omega))
  -- more of each
  refine ldv ht hn4 (grow_fix (ws := [.int .i64 (-77), .slice none 0 0]) (rv ht) rfl (by decide) rfl (by decide) (by decide) (by decide) (by decide) (by omega) fun H6 h6 => ?_)
  have ht := ht.trans h6 (fun _ _ e => outB_v e) fun _ e => .inr (.inl e)
  refine ldc ht hn4 (grow_fix (ws := [.int .i64 (-77), .int .i64 0, .int .i64 0, .int .i64 0, .slice none 0 0, .slice none 0 0]) (rc ht) rfl (by decide) rfl (by decide) (by decide) (by decide) (by decide) (by omega) fun H7 h7 => ?_)
  have ht := ht.trans h7 (fun _ _ e => outB_c e) fun _ e => .inr (.inr (.inl e))
  refine lde ht hn4 (grow_fix (ws := [.int .i64 (-77), .int .i64 0, .int .i64 0, .int .i64 0, .int .i64 0]) (re ht) rfl (by decide) rfl (by decide) (by decide) (by decide) (by decide) (by omega) fun H8 h8 => ?_)
  exact hk _ (t1.trans (ht.trans h8 (fun _ _ e => outB_e e) fun _ e => .inr (.inr (.inr e))) (fun _ _ e => e) fun _ e => e)
end
end Go.Proofs.YtfpmgpblhhcpgaaGreat
namespace Go.Proofs.YtfpmgpblhhcpgaaGreat.Hc
set_option linter.unusedVariables false
set_option linter.unusedSimpArgs false
set_option maxRecDepth 100000
section
variable {H : Heap}
theorem rl_of {TS : TypeId} {l : Sl} {L : List Sl} (h : VecN H TS 1 l (L.map slV)) : RL slV H l L := ⟨h.rd, by have := h.len; simp at this; omega, h.lc⟩
abbrev mkAt (i : Nat) : Int := -1000 - (i : Int)
def Rp (H : Heap) (T : TypeId) (n : Nat) (mk : Int → List Value) (x : Sl) (m : Int) : Prop := VecN H T n x ((List.replicate x.len m).flatMap mk)
theorem Rp.upd {M : Nat → Prop} {H' : Heap} {T : TypeId} {n : Nat} {mk : Int → List Value} {x : Sl} {m : Int} (h : Rp H T n mk x m) (hu : Upd M H H') (hn : ∀ b, x.a = some (adr b) → ¬ M b) : Rp H' T n mk x m := VecN.upd hu h hn
theorem fill_all {T TS : TypeId} {n : Nat} {mk : Int → List Value} (hmk : ∀ m, (mk m).length = n) (hn : 0 < n) {L : List Sl} {l : Sl} (hl : VecN H TS 1 l (L.map slV)) (hTS : TS ≠ T) (hR : ∀ x ∈ L, Room H T n x) (hap : L.Pairwise Apart) (hlen : ∀ x ∈ L, x.len ≤ 2 ^ 44) (hL : L.length ≤ 2 ^ 44) {K : Heap → Prop}
    (hK : ∀ H', Tou (fun b => ∃ x ∈ L, x.a = some (adr b)) (· = T) H H' → (∀ j (h : j < L.length), Rp H' T n mk L[j] (mkAt j)) → K H') :
    LoopT (σ := Int) (fun next4 s4 H11 => Br (decide (s4 < (l.len : Int))) (LoopT (σ := Int) (fun next5 s5 H12 => IxA 1 l s4 fun a6 => Ld .sl a6 H12 fun (x12 : Sl) => Br (decide (s5 < (x12.len : Int))) (IxA 1 l s4 fun a7 => Ld .sl a7 H12 fun (x13 : Sl) => Lt (IntKind.wrap .i64 ((-1000) - s4)) fun t4 => IxA n x13 s5 fun a8 => StA a8 0 (mk t4) H12 fun H13 => Lt (IntKind.wrap .i64 (s5 + 1)) fun t5 => next5 t5 H13) (Lt (IntKind.wrap .i64 (s4 + 1)) fun t6 => next4 t6 H12)) 0 H11) (K H11)) 0 H := by
  have hll := (rl_of hl).len
  refine LoopT.mk (fun s H' => Tou (fun b => ∃ x ∈ L, x.a = some (adr b)) (· = T) H H' ∧ ∃ i : Nat, s = i ∧ i ≤ L.length ∧ ∀ j (h : j < L.length), j < i → Rp H' T n mk L[j] (mkAt j)) (fun s _ => L.length - s.toNat) ⟨.refl _ _ _, 0, rfl, Nat.zero_le _, fun j _ h => absurd h (Nat.not_lt_zero _)⟩ ?_
  rintro next _ H1 ⟨ht, i, rfl, hi, hq⟩ hnext
  refine Br_dec (fun hlt => ?_) fun hge => hK _ ht fun j h => hq j h (by omega)
  have hi2 : i < L.length := by omega
  have hm := List.getElem_mem hi2
  have hx := hlen _ hm
  have rd : ∀ {M H'} {k : Sl → Prop}, Tou M (· = T) H1 H' → k L[i] → IxA 1 l (i : Nat) fun a => Ld .sl a H' k := fun h hk => IxA_rl (rl_of ((hl.tou ht hTS).tou h hTS)) rfl hi2 fun a g => Ld_sl (s := L[i]) g hk
  have hap' : ∀ j (h : j < L.length), j ≠ i → ∀ b, L[j].a = some (adr b) → L[i].a ≠ some (adr b) := fun j h hne b hb => by
    rcases Nat.lt_or_ge j i with hlt | hge
    · exact (List.pairwise_iff_getElem.1 hap j i h hi2 hlt) b hb
    · exact fun hb' => (List.pairwise_iff_getElem.1 hap i j hi2 h (by omega)) b hb' hb
  have hR1 := (hR _ hm).tou ht
  generalize hxd : L[i] = x at *
  refine LoopT.mk (fun s H' => Tou (fun b => x.a = some (adr b)) (· = T) H1 H' ∧ ∃ (k : Nat) (vs : List Value), s = k ∧ k ≤ x.len ∧ VecN H' T n x vs ∧ vs.take (k * n) = (List.replicate k (mkAt i)).flatMap mk) (fun s _ => x.len - s.toNat) (by
    obtain ⟨vs, h⟩ := hR1
    exact ⟨.refl _ _ _, 0, vs, rfl, Nat.zero_le _, h, by simp⟩) ?_
  rintro next2 _ H2 ⟨h2, k, vs, rfl, hk, hv, hvt⟩ hnext2
  refine rd h2 (Br_dec (fun hlt => ?_) fun hge => ?_)
  · have hk2 : k < x.len := by omega
    refine rd h2 (Lt.mk (u := mkAt i) (by rw [wrap_i64_id] <;> omega) (put_raw hv (hmk _) hn rfl hk2 fun H3 g3 h3 => ?_))
    refine Lt.mk (u := ((k + 1 : Nat) : Int)) (by rw [wrap_i64_id] <;> omega) (hnext2 _ _ ⟨h2.trans h3 (fun _ _ e => e) fun _ e => e, k + 1, _, rfl, hk2, g3, ?_⟩ (by omega))
    have hvl := hv.len
    have hkn : k * n + n ≤ x.len * n := by
      calc k * n + n = (k + 1) * n := by rw [Nat.add_mul]; simp
        _ ≤ x.len * n := Nat.mul_le_mul_right n hk2
    rw [Nat.add_mul, Nat.one_mul, List.take_append_of_le_length (by simp only [List.length_append, List.length_take, hmk]; omega), List.take_of_length_le (by simp only [List.length_append, List.length_take, hmk]; omega), hvt, List.replicate_succ', List.flatMap_append]
    simp
  · have hk2 : k = x.len := by omega
    subst hk2
    rw [List.take_of_length_le (by have := hv.len; omega)] at hvt
    subst hvt
    refine Lt.mk (u := ((i + 1 : Nat) : Int)) (by rw [wrap_i64_id] <;> omega) (hnext _ _ ⟨ht.trans h2 (fun _ _ e => ⟨x, hm, e⟩) fun _ e => e, i + 1, rfl, hi2, fun j hj hji => ?_⟩ (by omega))
    by_cases e : j = i
    · subst e; rw [hxd]; exact hv
    · exact (hq j hj (by omega)).upd h2.upd (hap' j hj e)
theorem grow_all {T TS : TypeId} {n bytes : Nat} {z : Array Value} {mk : Int → List Value} {cnt : Int} (hmk : ∀ m, (mk m).length = n) (hone : ∀ m, ∀ w ∈ mk m, w.oneCell' = true) (hz : z.size = n) (hn : 0 < n) (hb0 : bytes ≠ 0) (hc0 : 0 ≤ cnt) (hc : cnt ≤ 100) {L : List Sl} {l : Sl} (hl : VecN H TS 1 l (L.map slV)) (hTS : TS ≠ T) (hq : ∀ j (h : j < L.length), Rp H T n mk L[j] (mkAt j)) (hap : L.Pairwise Apart) (hlen : ∀ x ∈ L, (x.len + 2000 + x.len / 4) * bytes ≤ 2 ^ 48) (hL : L.length ≤ 2 ^ 42 + 2 ^ 28) {K : Sl × Int → Heap → Prop}
    (hK : ∀ s H' G, Tou (fun b => (∃ x ∈ L, x.a = some (adr b)) ∨ l.a = some (adr b)) (fun t => t = T ∨ t = TS) H H' → VecN H' TS 1 s.1 ((L ++ G).map slV) → G.length = L.length → (∀ j (h : j < L.length), Rp H' T n mk L[j] (mkAt j)) → (∀ j (h : j < G.length), Rp H' T n mk G[j] (mkAt j)) → (∀ j (h : j < G.length) (h' : j < L.length), (G[j].len : Int) = L[j].len + cnt) → K s H') :
    LoopT (σ := Sl × Int) (fun next6 s6 H14 => Br (decide (s6.2 < (l.len : Int))) (IxA 1 s6.1 s6.2 fun a9 => Ld .sl a9 H14 fun (x14 : Sl) => LoopT (σ := Sl × Int) (fun next7 s7 H15 => Br (decide (s7.2 < cnt)) (Lt (IntKind.wrap .i64 ((-1000) - s6.2)) fun t7 => Nw ⟨mk t7⟩ T H15 fun b5 H16 => App T n bytes z s7.1 ⟨some (adr b5), 1, 1⟩ H16 fun l4 H17 => Lt (IntKind.wrap .i64 (s7.2 + 1)) fun t8 => next7 (l4, t8) H17)
      (Nw #[.slice s7.1.a s7.1.len s7.1.cap] TS H15 fun b6 H18 => App TS 1 24 #[.slice none 0 0] s6.1 ⟨some (adr b6), 1, 1⟩ H18 fun l5 H19 => Lt (IntKind.wrap .i64 (s6.2 + 1)) fun t9 => next6 (l5, t9) H19)) (x14, 0) H14) (K s6 H14)) (l, 0) H := by
  have hll := (rl_of hl).len
  refine LoopT.mk (fun s H' => Tou (fun b => (∃ x ∈ L, x.a = some (adr b)) ∨ l.a = some (adr b)) (fun t => t = T ∨ t = TS) H H' ∧ (s.1.a = l.a ∨ ∃ b, s.1.a = some (adr b) ∧ H.size ≤ b) ∧ ∃ (i : Nat) (G : List Sl), s.2 = i ∧ i ≤ L.length ∧ VecN H' TS 1 s.1 ((L ++ G).map slV) ∧ G.length = i ∧ (∀ j (h : j < L.length), Rp H' T n mk L[j] (mkAt j)) ∧ (∀ j (h : j < G.length), Rp H' T n mk G[j] (mkAt j)) ∧ (∀ j (h : j < G.length) (h' : j < L.length), (G[j].len : Int) = L[j].len + cnt) ∧
      ∀ g ∈ G, ∀ j (h : j < L.length), i ≤ j → Apart g L[j]) (fun s _ => L.length - s.2.toNat) ⟨.refl _ _ _, .inl rfl, 0, [], rfl, Nat.zero_le _, by simpa using hl, rfl, hq, (fun j h => by cases h), (fun j h => by cases h), fun g h => by cases h⟩ ?_
  rintro next ⟨s, i'⟩ H1 ⟨ht, hs, i, G, hi', hi, hv, hG, q1, q2, q3, q4⟩ hnext
  dsimp only at hi' hs hv
  subst hi'
  refine Br_dec (fun hlt => ?_) fun hge => ?_
  rotate_left
  · have hge : ¬ (i : Int) < l.len := hge
    exact hK _ _ G ht hv (by omega) q1 q2 q3
  have hi2 : i < L.length := by have hlt : (i : Int) < l.len := hlt; omega
  have hm := List.getElem_mem hi2
  have hx := hlen _ hm
  have hiA : i < (L ++ G).length := by rw [List.length_append]; omega
  refine IxA_rl (rl_of hv) rfl hiA fun a g => ?_
  rw [List.getElem_append_left hi2] at g
  refine Ld_sl (s := L[i]) g ?_
  have hqi := q1 i hi2
  have hap' : ∀ j (h : j < L.length), j ≠ i → ∀ b, L[j].a = some (adr b) → L[i].a ≠ some (adr b) := fun j h hne b hb => by
    rcases Nat.lt_or_ge j i with hlt | hge
    · exact (List.pairwise_iff_getElem.1 hap j i h hi2 hlt) b hb
    · exact fun hb' => (List.pairwise_iff_getElem.1 hap i j hi2 h (by omega)) b hb' hb
  have hgap : ∀ g ∈ G, Apart g L[i] := fun g hg => q4 g hg i hi2 (Nat.le_refl _)
  generalize hxd : L[i] = x at *
  refine LoopT.mk (fun s H' => Tou (fun b => x.a = some (adr b)) (· = T) H1 H' ∧ Rp H' T n mk x (mkAt i) ∧ (s.1.a = x.a ∧ s.1.cap = x.cap ∨ ∃ b, s.1.a = some (adr b) ∧ H1.size ≤ b) ∧ ∃ k : Nat, s.2 = k ∧ (k : Int) ≤ cnt ∧ s.1.len = x.len + k ∧ Rp H' T n mk s.1 (mkAt i)) (fun s _ => cnt.toNat - s.2.toNat) ⟨.refl _ _ _, hqi, .inl ⟨rfl, rfl⟩, 0, rfl, by omega, rfl, hqi⟩ ?_
  rintro next2 ⟨w, k'⟩ H2 ⟨h2, hx2, hw, k, hk', hk, hwl, hwv⟩ hnext2
  dsimp only at hk' hw hwl hwv
  subst hk'
  have hz12 := h2.upd.size
  refine Br_dec (fun hlt => ?_) fun hge => ?_
  · have hlt : (k : Int) < cnt := hlt
    refine Lt.mk (u := mkAt i) (by rw [wrap_i64_id] <;> omega) (grow_step hwv hz hn (hmk _) (hone _) hb0 (Nat.le_trans (Nat.mul_le_mul_right bytes (by dsimp only; omega)) hx) fun w' H3 g1 g2 g3 g4 => ?_)
    dsimp only at g1 g2 g3 g4
    have g1' : Rp H3 T n mk w' (mkAt i) := by
      unfold Rp
      rw [g2, List.replicate_succ', List.flatMap_append]
      simpa using g1
    refine Lt.mk (u := ((k + 1 : Nat) : Int)) (by rw [wrap_i64_id] <;> omega) (hnext2 _ _ ⟨?_, ?_, ?_, k + 1, rfl, by omega, by rw [g2]; omega, g1'⟩ (by dsimp only; omega))
    · refine h2.trans g3 (fun b hb e => ?_) fun _ e => e
      rcases hw with ⟨hw, _⟩ | ⟨c, h1, h3⟩
      · rw [← hw]; exact e
      · rw [h1] at e; cases e; omega
    · rcases g4 with ⟨g4, g5⟩ | ⟨_, g5⟩
      · rcases hw with ⟨hw, hwc⟩ | ⟨c, h1, h3⟩
        · have := vecN_pre g1' (j := x.len) (c := x.cap) (by omega) (VecN.lc hx2) (by rw [g5, hwc]; exact Nat.le_refl _)
          rw [g4, hw] at this
          unfold Rp
          have e : ((List.replicate w'.len (mkAt i)).flatMap mk).take (x.len * n) = (List.replicate x.len (mkAt i)).flatMap mk := by
            rw [g2, hwl, show x.len + k + 1 = x.len + (k + 1) by omega, ← List.replicate_append_replicate, List.flatMap_append, List.take_append_of_le_length (by rw [flat_len hmk, List.length_replicate]; exact Nat.le_refl _), List.take_of_length_le (by rw [flat_len hmk, List.length_replicate]; exact Nat.le_refl _)]
          rw [e] at this
          exact this
        · exact hx2.upd g3.upd fun b hb e => by rw [h1] at e; cases e; have := VecN.lt hqi hb; omega
      · exact VecN.ext g5 hx2
    · rcases g4 with ⟨g4, g5⟩ | ⟨⟨b, h1, h3⟩, _⟩
      · dsimp only; rw [g4, g5]; exact hw
      · exact .inr ⟨b, h1, by omega⟩
  have hge : ¬ (k : Int) < cnt := hge
  have hv2 : VecN H2 TS 1 s ((L ++ G).map slV) := hv.tou h2 hTS
  have hsl : s.len = L.length + G.length := by have := (rl_of hv).len; rw [List.length_append] at this; exact this
  refine grow_step (ws := [slV w]) hv2 rfl (by decide) rfl (fun v hv => by rw [List.mem_singleton.1 hv]; rfl) (by decide) (by dsimp only; omega) fun s' H3 g1 g2 g3 g4 => ?_
  dsimp only at g1 g2 g3 g4
  have hST : ¬ T = TS := fun e => hTS e.symm
  have keep : ∀ {y : Sl} {m : Int}, Rp H2 T n mk y m → Rp H3 T n mk y m := fun h => VecN.tou h g3 hST
  have hz01 := ht.upd.size
  refine Lt.mk (u := ((i + 1 : Nat) : Int)) (by rw [wrap_i64_id] <;> omega) (hnext _ _ ⟨?_, ?_, i + 1, G ++ [w], rfl, hi2, ?_, by rw [List.length_append, hG]; rfl, ?_, ?_, ?_, ?_⟩ (by dsimp only; omega))
  · refine (ht.trans h2 (fun b _ e => .inl ⟨x, hm, e⟩) fun _ e => .inl e).trans g3 (fun b hb e => ?_) fun _ e => .inr e
    rcases hs with hs | ⟨c, h1, h3⟩
    · rw [hs] at e; exact .inr e
    · rw [h1] at e; cases e; omega
  · rcases g4 with ⟨g4, _⟩ | ⟨⟨b, h1, h3⟩, _⟩
    · dsimp only; rw [g4]; exact hs
    · exact .inr ⟨b, h1, by omega⟩
  · have : (L ++ (G ++ [w])).map slV = (L ++ G).map slV ++ [slV w] := by simp
    rw [this]; exact g1
  · intro j hj
    refine keep ?_
    by_cases e : j = i
    · subst e; rw [hxd]; exact hx2
    · exact (q1 j hj).upd h2.upd (hap' j hj e)
  · intro j hj
    refine keep ?_
    rcases Nat.lt_or_ge j G.length with h | h
    · rw [List.getElem_append_left h]
      exact (q2 j h).upd h2.upd (hgap _ (List.getElem_mem h))
    · have : j = i := by rw [List.length_append, List.length_singleton] at hj; omega
      subst this
      rw [List.getElem_append_right h]
      simp only [hG, Nat.sub_self, List.getElem_cons_zero]
      exact hwv
  · intro j hj hj'
    rcases Nat.lt_or_ge j G.length with h | h
    · rw [List.getElem_append_left h]; exact q3 j h hj'
    · have : j = i := by rw [List.length_append, List.length_singleton] at hj; omega
      subst this
      rw [List.getElem_append_right h]
      simp only [hG, Nat.sub_self, List.getElem_cons_zero, hxd]
      omega
  · intro g hg j hj hij
    rcases List.mem_append.1 hg with hg | hg
    · exact q4 g hg j hj (by omega)
    · rw [List.mem_singleton.1 hg]
      intro b hb hb'
      rcases hw with ⟨hw, _⟩ | ⟨c, h1, h3⟩
      · rw [hw] at hb; exact hap' j hj (by omega) b hb' hb
      · rw [h1] at hb; cases hb
        have := VecN.lt (q1 j hj) hb'
        omega
end
end Go.Proofs.YtfpmgpblhhcpgaaGreat.Hc
namespace Go.Proofs.YtfpmgpblhhcpgaaGreat
set_option linter.unusedVariables false
set_option linter.unusedSimpArgs false
set_option maxRecDepth 100000
section
open Hc Hc.Vf Hc.Mc Hc.Dice
variable {H : Heap}
theorem coll {TS : TypeId} {l x : Sl} {L : List Sl} {H1 : Heap} (hE : Ext H1 H) (hlo : ∀ b, l.a = some (adr b) → H1.size ≤ b) (hv : VecN H TS 1 l (L.map slV)) (hL : L.length ≤ 2 ^ 43) {k : Sl → Heap → Prop}
    (hk : ∀ l' H', Ext H1 H' → (∀ b, l'.a = some (adr b) → H1.size ≤ b) → VecN H' TS 1 l' ((L ++ [x]).map slV) → k l' H') :
    Nw #[.slice x.a x.len x.cap] TS H fun b H3 => App TS 1 24 #[.slice none 0 0] l ⟨some (adr b), 1, 1⟩ H3 k := by
  have hl := (rl_of hv).len
  refine grow_step (ws := [slV x]) hv rfl (by decide) rfl (one1 rfl) (by decide) (by omega) fun l' H' g1 g2 g3 g4 => ?_
  refine hk l' H' (hE.trans g3.upd fun b hb e => by have := hlo b e; omega) (fun b hb => ?_) (by rw [List.map_append]; exact g1)
  rcases g4 with ⟨g4, _⟩ | ⟨⟨c, h1, h2⟩, _⟩
  · rw [g4] at hb; exact hlo b hb
  · rw [h1] at hb; cases hb; have := hE.size; omega
abbrev mkN (m : Int) : List Value := [.int .i64 m]
abbrev mkQ (m : Int) : List Value := [.int .i64 m, .slice none 0 0]
theorem tmodN (i n : Nat) : (i : Int).tmod (n : Int) = ((i % n : Nat) : Int) := by
  rw [Int.tmod_eq_emod_of_nonneg (by omega)]; exact (Int.natCast_emod i n).symm
theorem rp_app {T : TypeId} {n : Nat} {mk : Int → List Value} {L G : List Sl} (hG : G.length = L.length) (h1 : ∀ j (h : j < L.length), Rp H T n mk L[j] (mkAt j)) (h2 : ∀ j (h : j < G.length), Rp H T n mk G[j] (mkAt j)) : ∀ i (h : i < (L ++ G).length), Rp H T n mk (L ++ G)[i] (mkAt (i % L.length)) := fun i h => by
  rcases Nat.lt_or_ge i L.length with hl | hl
  · rw [List.getElem_append_left hl, Nat.mod_eq_of_lt hl]; exact h1 i hl
  · rw [List.getElem_append_right hl]
    have hi : i - L.length < L.length := by rw [List.length_append] at h; omega
    rw [Nat.mod_eq_sub_mod hl, Nat.mod_eq_of_lt hi]
    exact h2 _ (by omega)
theorem len_app {L G : List Sl} (hG : G.length = L.length) {c : Int} {q : Nat} (hl : ∀ x ∈ L, x.len ≤ q) (h3 : ∀ j (h : j < G.length) (h' : j < L.length), (G[j].len : Int) = L[j].len + c) : ∀ i (h : i < (L ++ G).length), ((L ++ G)[i].len : Int) ≤ max (q : Int) (q + c) := fun i h => by
  rcases Nat.lt_or_ge i L.length with hi | hi
  · rw [List.getElem_append_left hi]
    have := hl _ (List.getElem_mem hi)
    omega
  · rw [List.getElem_append_right hi]
    have hi2 : i - L.length < L.length := by rw [List.length_append] at h; omega
    have := h3 (i - L.length) (by omega) hi2
    have := hl _ (List.getElem_mem hi2)
    omega
theorem IxA_mk {T : TypeId} {n : Nat} {mk : Int → List Value} (hmk : ∀ m, (mk m).length = n) (hn : 0 < n) {x : Sl} {m : Int} (h : Rp H T n mk x m) {k : Addr → Prop} {j : Nat} (hj : j < x.len) (hk : ∀ a, hcells H a 0 (mk m) → k a) : IxA n x (j : Nat) k := by
  refine IxA_rn' hmk (VecN.rn hmk hn h) hn rfl (by rw [List.length_replicate]; exact hj) fun a g => hk a ?_
  rw [getElem!_pos _ j (by rw [List.length_replicate]; exact hj), List.getElem_replicate] at g
  exact g
theorem OwnI.tou {M : Nat → Prop} {S : TypeId → Prop} {H' : Heap} {vs cs es : Sl} {ps : List PtP} {cl : List CmP} (h : OwnI H vs cs es ps cl) (ht : Tou M S H H') (h1 : ¬ S T_api_Part) (h2 : ¬ S T_api_Command) : OwnI H' vs cs es ps cl :=
  ⟨h.vv.tou ht h1, fun q hq => ⟨(h.vR q hq).1.tou ht, (h.vR q hq).2⟩, h.cv.tou ht h2, fun q hq => ⟨⟨(h.cR q hq).1.1.tou ht, (h.cR q hq).1.2⟩, ⟨(h.cR q hq).2.1.1.tou ht h1, (h.cR q hq).2.1.2⟩, fun p hp => ⟨((h.cR q hq).2.2 p hp).1.tou ht, ((h.cR q hq).2.2 p hp).2⟩⟩, h.ev.tou ht, h.l1, h.l2, h.l3⟩
abbrev nums (ps : List PtP) (cl : List CmP) : List Sl := ps.map PtP.sl ++ cl.flatMap cmSl
abbrev psls (vs : Sl) (cl : List CmP) : List Sl := cl.map CmP.psl ++ [vs]
theorem rep_pt (k : Nat) (m : Int) : (List.replicate k m).flatMap mkQ = (List.replicate k (⟨m, nilS, []⟩ : PtP)).flatMap ptV := by
  induction k with
  | zero => rfl
  | succ k ih => rw [List.replicate_succ, List.replicate_succ, List.flatMap_cons, List.flatMap_cons, ih]
def wipeC (cl : List CmP) : List CmP := (List.range cl.length).map fun j => { cl[j]! with parts := List.replicate (cl[j]!).psl.len ⟨mkAt j, nilS, []⟩ }
theorem wipeC_v (cl : List CmP) : (wipeC cl).flatMap cmV = cl.flatMap cmV := by
  have e : (List.range cl.length).map (fun j => cl[j]!) = cl := by
    refine List.ext_getElem (by simp) fun i h1 h2 => ?_
    rw [List.getElem_map, List.getElem_range, getElem!_pos cl i h2]
  unfold wipeC
  rw [List.flatMap_map]
  conv => rhs; rw [← e, List.flatMap_map]
theorem collA {vs cs es : Sl} {ps : List PtP} {cl : List CmP} {st er : Int} {b1 : Nat} {K : Sl × Int → Heap → Prop} (h : OwnI H vs cs es ps cl) (hr1 : Row H b1 T_api_Outcome [slV vs, slV cs, slV es, .int .i64 st, .int .i64 er]) (hN : (nums ps cl).length ≤ 2 ^ 43)
    (hK : ∀ s H', Ext H H' → (∀ b, s.1.a = some (adr b) → H.size ≤ b) → VecN H' T_Sl_int64 1 s.1 ((nums ps cl).map slV) → K s H') :
    LoopT (σ := Sl × Int) /- l, i -/ (fun next1 s1 H2 =>
      Ld .sl (adr b1) H2 fun (x1 : Sl) =>
      Br (decide (s1.2 < (x1.len : Int))) (
        Ld .sl (adr b1) H2 fun (x2 : Sl) =>
        IxA 2 x2 s1.2 fun a1 =>
        Ld .sl (a1.add 1) H2 fun (x3 : Sl) =>
        Nw #[.slice x3.a x3.len x3.cap] T_Sl_int64 H2 fun b2 H3 =>
        App T_Sl_int64 1 24 #[.slice none 0 0] s1.1 ⟨some (adr b2), 1, 1⟩ H3 fun l1 H4 =>
        Lt (IntKind.wrap .i64 (s1.2 + 1)) fun t1 =>
        next1 (l1, t1) H4) (
        LoopT (σ := Sl × Int) /- l, i -/ (fun next2 s2 H5 =>
          Ld .sl ⟨b1, 0 + 1, none⟩ H5 fun (x4 : Sl) =>
          Br (decide (s2.2 < (x4.len : Int))) (
            Ld .sl ⟨b1, 0 + 1, none⟩ H5 fun (x5 : Sl) =>
            IxA 6 x5 s2.2 fun a2 =>
            Ld .sl (a2.add 4) H5 fun (x6 : Sl) =>
            Nw #[.slice x6.a x6.len x6.cap] T_Sl_int64 H5 fun b3 H6 =>
            App T_Sl_int64 1 24 #[.slice none 0 0] s2.1 ⟨some (adr b3), 1, 1⟩ H6 fun l2 H7 =>
            LoopT (σ := Sl × Int) /- l, k -/ (fun next3 s3 H8 =>
              Ld .sl ⟨b1, 0 + 1, none⟩ H8 fun (x7 : Sl) =>
              IxA 6 x7 s2.2 fun a3 =>
              Ld .sl (a3.add 5) H8 fun (x8 : Sl) =>
              Br (decide (s3.2 < (x8.len : Int))) (
                Ld .sl ⟨b1, 0 + 1, none⟩ H8 fun (x9 : Sl) =>
                IxA 6 x9 s2.2 fun a4 =>
                Ld .sl (a4.add 5) H8 fun (x10 : Sl) =>
                IxA 2 x10 s3.2 fun a5 =>
                Ld .sl (a5.add 1) H8 fun (x11 : Sl) =>
                Nw #[.slice x11.a x11.len x11.cap] T_Sl_int64 H8 fun b4 H9 =>
                App T_Sl_int64 1 24 #[.slice none 0 0] s3.1 ⟨some (adr b4), 1, 1⟩ H9 fun l3 H10 =>
                Lt (IntKind.wrap .i64 (s3.2 + 1)) fun t2 =>
                next3 (l3, t2) H10) (
                Lt (IntKind.wrap .i64 (s2.2 + 1)) fun t3 =>
                next2 (s3.1, t3) H8)) (l2, 0) H7) (K s2 H5)) (s1.1, 0) H2)) (⟨none, 0, 0⟩, 0) H := by
  have hl1 := h.l1
  have hl2 := h.l2
  have hvl : vs.len = ps.length := (VecN.rn ptV_len (by decide) h.vv).len
  have hcl : cs.len = cl.length := (VecN.rn cmV_len (by decide) h.cv).len
  rw [List.length_append, List.length_map] at hN
  have hfl : ∀ i, ((cl.take i).flatMap cmSl).length ≤ (cl.flatMap cmSl).length := fun i => by
    conv => rhs; rw [← List.take_append_drop i cl, List.flatMap_append, List.length_append]
    exact Nat.le_add_right _ _
  have ldv : ∀ {H'} {k : Sl → Prop}, Ext H H' → k vs → Ld .sl (adr b1) H' k := fun he h => Ld_sl (s := vs) (((he.row hr1 fun h => h).cell 0).trans rfl) h
  have ldc : ∀ {H'} {k : Sl → Prop}, Ext H H' → k cs → Ld .sl ⟨b1, 0 + 1, none⟩ H' k := fun he h => Ld_sl (s := cs) (((he.row hr1 fun h => h).cell 1).trans rfl) h
  refine LoopT.mk (fun s H' => Ext H H' ∧ (∀ b, s.1.a = some (adr b) → H.size ≤ b) ∧ ∃ i : Nat, s.2 = i ∧ i ≤ ps.length ∧ VecN H' T_Sl_int64 1 s.1 (((ps.take i).map PtP.sl).map slV)) (fun s _ => ps.length - s.2.toNat) ⟨.refl _ _, (fun b hb => by cases hb), 0, rfl, Nat.zero_le _, VecN.nil _ _ _⟩ ?_
  rintro next ⟨l, i'⟩ H2 ⟨hE, hlo, i, hi', hi, hv⟩ hnext
  dsimp only at hi' hlo hv
  subst hi'
  refine ldv hE (Br_dec (fun hlt => ?_) fun hge => ?_)
  · have hlt : (i : Int) < vs.len := hlt
    have hi2 : i < ps.length := by omega
    refine ldv hE (IxA_rn' ptV_len (VecN.rn ptV_len (by decide) (h.vv.ext hE)) (by decide) rfl hi2 fun a ha => ?_)
    rw [getElem!_pos _ i hi2] at ha
    refine Ld_sl (s := ps[i].sl) ha.2.1 (coll hE hlo hv (by rw [List.length_map, List.length_take]; omega) fun l' H3 g1 g2 g3 => ?_)
    refine Lt.mk (u := ((i + 1 : Nat) : Int)) (by rw [wrap_i64_id] <;> omega) (hnext _ _ ⟨g1, g2, i + 1, rfl, hi2, ?_⟩ (by dsimp only; omega))
    rw [List.take_add_one, List.getElem?_eq_getElem hi2, List.map_append]
    exact g3
  have hge : ¬ (i : Int) < vs.len := hge
  rw [List.take_of_length_le (by omega)] at hv
  clear hnext
  refine LoopT.mk (fun s H' => Ext H H' ∧ (∀ b, s.1.a = some (adr b) → H.size ≤ b) ∧ ∃ i : Nat, s.2 = i ∧ i ≤ cl.length ∧ VecN H' T_Sl_int64 1 s.1 ((ps.map PtP.sl ++ (cl.take i).flatMap cmSl).map slV)) (fun s _ => cl.length - s.2.toNat) ⟨hE, hlo, 0, rfl, Nat.zero_le _, by simpa using hv⟩ ?_
  rintro next ⟨l, i'⟩ H5 ⟨hE, hlo, i, hi', hi, hv⟩ hnext
  dsimp only at hi' hlo hv
  subst hi'
  refine ldc hE (Br_dec (fun hlt => ?_) fun hge => ?_)
  rotate_left
  · have hge : ¬ (i : Int) < cs.len := hge
    rw [List.take_of_length_le (by omega)] at hv
    exact hK _ _ hE hlo hv
  have hlt : (i : Int) < cs.len := hlt
  have hi2 : i < cl.length := by omega
  have hm := List.getElem_mem hi2
  obtain ⟨_, g2, _⟩ := h.cR _ hm
  have ixc : ∀ {H'} {k : Addr → Prop}, Ext H H' → (∀ a, hcells H' a 0 (cmV cl[i]) → k a) → IxA 6 cs (i : Nat) k := fun hE hk => IxA_rn' cmV_len (VecN.rn cmV_len (by decide) (h.cv.ext hE)) (by decide) rfl hi2 fun a g => hk a (by rw [getElem!_pos _ i hi2] at g; exact g)
  have htk : (cl.take (i + 1)).flatMap cmSl = (cl.take i).flatMap cmSl ++ cmSl cl[i] := by rw [List.take_add_one, List.getElem?_eq_getElem hi2, List.flatMap_append]; simp
  have hbn := hfl (i + 1)
  rw [htk, List.length_append] at hbn
  generalize cl[i] = c at *
  have hcs : (cmSl c).length = c.parts.length + 1 := by simp
  have hpl : c.psl.len = c.parts.length := (VecN.rn ptV_len (by decide) g2.1).len
  have hpb := g2.2
  refine ldc hE (ixc hE fun a ha => Ld_sl (s := c.vsl) ha.2.2.2.2.1 (coll hE hlo hv (by rw [List.length_append, List.length_map]; omega) fun l' H3 hE3 hlo3 hv3 => ?_))
  refine LoopT.mk (fun s H' => Ext H H' ∧ (∀ b, s.1.a = some (adr b) → H.size ≤ b) ∧ ∃ j : Nat, s.2 = j ∧ j ≤ c.parts.length ∧ VecN H' T_Sl_int64 1 s.1 ((ps.map PtP.sl ++ (cl.take i).flatMap cmSl ++ [c.vsl] ++ (c.parts.take j).map PtP.sl).map slV)) (fun s _ => c.parts.length - s.2.toNat) ⟨hE3, hlo3, 0, rfl, Nat.zero_le _, by simpa using hv3⟩ ?_
  rintro next3 ⟨l, j'⟩ H8 ⟨hE, hlo, j, hj', hj, hv⟩ hnext3
  dsimp only at hj' hlo hv
  subst hj'
  refine ldc hE (ixc hE fun a ha => Ld_sl (s := c.psl) ha.2.2.2.2.2.1 (Br_dec (fun hlt => ?_) fun hge => ?_))
  · have hlt : (j : Int) < c.psl.len := hlt
    have hj2 : j < c.parts.length := by omega
    refine ldc hE (ixc hE fun a ha => Ld_sl (s := c.psl) ha.2.2.2.2.2.1 (IxA_rn' ptV_len (VecN.rn ptV_len (by decide) (g2.1.ext hE)) (by decide) rfl hj2 fun a ha => ?_))
    rw [getElem!_pos _ j hj2] at ha
    refine Ld_sl (s := c.parts[j].sl) ha.2.1 (coll hE hlo hv (by simp only [List.length_append, List.length_map, List.length_take, List.length_singleton]; omega) fun l' H3 g1 g2 g3 => ?_)
    refine Lt.mk (u := ((j + 1 : Nat) : Int)) (by rw [wrap_i64_id] <;> omega) (hnext3 _ _ ⟨g1, g2, j + 1, rfl, hj2, ?_⟩ (by dsimp only; omega))
    have e : (c.parts.take (j + 1)).map PtP.sl = (c.parts.take j).map PtP.sl ++ [c.parts[j].sl] := by rw [List.take_add_one, List.getElem?_eq_getElem hj2, List.map_append]; rfl
    rw [e, ← List.append_assoc]
    exact g3
  · have hge : ¬ (j : Int) < c.psl.len := hge
    rw [show c.parts.take j = c.parts from List.take_of_length_le (by omega)] at hv
    refine Lt.mk (u := ((i + 1 : Nat) : Int)) (by rw [wrap_i64_id] <;> omega) (hnext _ _ ⟨hE, hlo, i + 1, rfl, hi2, ?_⟩ (by dsimp only; omega))
    rw [htk]
    simpa [cmSl] using hv
end
section
open Hc Hc.Vf Hc.Mc Hc.Dice
variable {H : Heap}
theorem numR_of {vs cs es : Sl} {ps : List PtP} {cl : List CmP} (h : OwnI H vs cs es ps cl) : ∀ x ∈ nums ps cl, NumR H x := fun x hx => by
  rcases List.mem_append.1 hx with hx | hx
  · obtain ⟨q, hq, rfl⟩ := List.mem_map.1 hx
    exact h.vR q hq
  · obtain ⟨q, hq, hx⟩ := List.mem_flatMap.1 hx
    rcases List.mem_cons.1 hx with rfl | hx
    · exact (h.cR q hq).1
    · obtain ⟨p, hp, rfl⟩ := List.mem_map.1 hx
      exact (h.cR q hq).2.2 p hp
theorem pslR_of {vs cs es : Sl} {ps : List PtP} {cl : List CmP} (h : OwnI H vs cs es ps cl) : ∀ x ∈ psls vs cl, Room H T_api_Part 2 x ∧ x.len ≤ 2 ^ 42 := fun x hx => by
  rcases List.mem_append.1 hx with hx | hx
  · obtain ⟨q, hq, rfl⟩ := List.mem_map.1 hx
    exact ⟨⟨_, (h.cR q hq).2.1.1⟩, (h.cR q hq).2.1.2⟩
  · rw [List.mem_singleton.1 hx]
    exact ⟨⟨_, h.vv⟩, h.l1⟩
theorem outB_nums {vs cs es : Sl} {ps : List PtP} {cl : List CmP} {b : Nat} (h : ∃ x ∈ nums ps cl, x.a = some (adr b)) : OutB vs cs es ps cl b := by
  obtain ⟨x, hx, hb⟩ := h
  refine ⟨x, ?_, hb⟩
  simp only [List.mem_cons, List.mem_append]
  exact .inr (.inr (.inr (.inl (List.mem_append.1 hx))))
theorem outB_psls {vs cs es : Sl} {ps : List PtP} {cl : List CmP} {b : Nat} (h : ∃ x ∈ psls vs cl, x.a = some (adr b)) : OutB vs cs es ps cl b := by
  obtain ⟨x, hx, hb⟩ := h
  rcases List.mem_append.1 hx with hx | hx
  · obtain ⟨q, hq, rfl⟩ := List.mem_map.1 hx
    exact outB_w hq hb
  · rw [List.mem_singleton.1 hx] at hb
    exact outB_v hb
abbrev wipeP (vs : Sl) (cl : List CmP) : List PtP := List.replicate vs.len ⟨mkAt cl.length, nilS, []⟩
theorem OwnI.wiped {M : Nat → Prop} {S : TypeId → Prop} {H' : Heap} {vs cs es : Sl} {ps : List PtP} {cl : List CmP} (h : OwnI H vs cs es ps cl) (ht : Tou M S H H') (h2 : ¬ S T_api_Command) (hq : ∀ j (h : j < (psls vs cl).length), Rp H' T_api_Part 2 mkQ (psls vs cl)[j] (mkAt j)) : OwnI H' vs cs es (wipeP vs cl) (wipeC cl) := by
  have hnil : ∀ {m : Int} {k : Nat}, ∀ q ∈ List.replicate k (⟨m, nilS, []⟩ : PtP), NumR H' q.sl := fun q hq => by
    rw [(List.mem_replicate.1 hq).2]
    exact ⟨⟨[], VecN.nil _ _ _⟩, Nat.zero_le _⟩
  have key : ∀ {x : Sl} {m : Int}, Rp H' T_api_Part 2 mkQ x m → VecN H' T_api_Part 2 x ((List.replicate x.len (⟨m, nilS, []⟩ : PtP)).flatMap ptV) := fun h => by
    unfold Rp at h
    rwa [rep_pt] at h
  refine ⟨?_, hnil, by rw [wipeC_v]; exact h.cv.tou ht h2, fun q hq' => ?_, h.ev.tou ht, h.l1, h.l2, h.l3⟩
  · have := hq cl.length (by simp)
    rw [List.getElem_append_right (by simp)] at this
    simp only [List.length_map, Nat.sub_self, List.getElem_cons_zero] at this
    exact key this
  · obtain ⟨j, hj, rfl⟩ := List.mem_map.1 hq'
    have hj := List.mem_range.1 hj
    have hm := List.getElem_mem hj
    rw [getElem!_pos cl j hj]
    have := hq j (by simp; omega)
    rw [List.getElem_append_left (by rw [List.length_map]; exact hj), List.getElem_map] at this
    exact ⟨⟨(h.cR _ hm).1.1.tou ht, (h.cR _ hm).1.2⟩, ⟨key this, (h.cR _ hm).2.1.2⟩, hnil⟩
theorem outB_wiped {vs cs es : Sl} {ps : List PtP} {cl : List CmP} {b : Nat} (h : OutB vs cs es (wipeP vs cl) (wipeC cl) b) : OutB vs cs es ps cl b := by
  obtain ⟨s, hs, hb⟩ := h
  simp only [List.mem_cons, List.mem_append] at hs
  have no : ∀ {k : Nat} {m : Int}, s ∈ (List.replicate k (⟨m, nilS, []⟩ : PtP)).map PtP.sl → False := fun h => by
    obtain ⟨q, hq, rfl⟩ := List.mem_map.1 h
    rw [(List.mem_replicate.1 hq).2] at hb
    cases hb
  rcases hs with rfl | rfl | rfl | (hs | hs) | hs
  · exact outB_v hb
  · exact outB_c hb
  · exact outB_e hb
  · exact (no hs).elim
  · obtain ⟨q, hq, hs⟩ := List.mem_flatMap.1 hs
    obtain ⟨j, hj, rfl⟩ := List.mem_map.1 hq
    have hj := List.mem_range.1 hj
    rw [getElem!_pos cl j hj] at hs
    rcases List.mem_cons.1 hs with rfl | hs
    · exact outB_q (List.getElem_mem hj) hb
    · exact (no hs).elim
  · obtain ⟨q, hq, rfl⟩ := List.mem_map.1 hs
    obtain ⟨j, hj, rfl⟩ := List.mem_map.1 hq
    have hj := List.mem_range.1 hj
    rw [getElem!_pos cl j hj] at hb
    exact outB_w (List.getElem_mem hj) hb
theorem mkQ_one (m : Int) : ∀ w ∈ mkQ m, w.oneCell' = true := fun w hw => by
  simp only [mkQ, List.mem_cons, List.not_mem_nil, or_false] at hw
  rcases hw with rfl | rfl <;> rfl
theorem s_marked {vs cs es : Sl} {st er : Int} {ps : List PtP} {cl : List CmP} (h : OwnI H vs cs es ps cl) (hap : (nums ps cl).Pairwise Apart) (hpa : (vs :: cl.map CmP.psl).Pairwise Apart) (hN : (nums ps cl).length ≤ 2 ^ 42 + 2 ^ 28) {k : Bool → Heap → Prop} (hk : ∀ H', Upd (OutB vs cs es ps cl) H H' → k true H') :
    CallT Pg f_L_marked [.agg #[.slice vs.a vs.len vs.cap, .slice cs.a cs.len cs.cap, .slice es.a es.len es.cap, .int .i64 st, .int .i64 er]] BoolR H k := by
  refine c_L_marked (vs, cs, es, st, er) ?_
  unfold v_L_marked
  refine Nw_row (vs := [slV vs, slV cs, slV es, .int .i64 st, .int .i64 er]) fun b1 H1 hb1 hE1 _ hr1 => ?_
  simp only [adr_add]
  have h1 : OwnI H1 vs cs es ps cl := h.tou (.of_ext (fun _ => False) (fun _ => False) hE1) id id
  have hl1 := h.l1
  have hl2 := h.l2
  have hcl : cs.len = cl.length := (VecN.rn cmV_len (by decide) h.cv).len
  refine collA h1 hr1 (by omega) fun ⟨l, li⟩ H2 hE2 hlo2 hv2 => ?_
  dsimp only at hlo2 hv2 ⊢
  have t12 : Tou (fun _ => False) (fun _ => False) H1 H2 := .of_ext _ _ hE2
  have h2 := h1.tou t12 id id
  have hnR := numR_of h2
  refine fill_all (mk := mkN) (fun _ => rfl) (by decide) hv2 (by decide) (fun x hx => (hnR x hx).1) hap (fun x hx => (hnR x hx).2) (by omega) fun H3 t23 q3 => ?_
  have hv3 := hv2.tou t23 (by decide)
  refine grow_all (mk := mkN) (bytes := 8) (z := #[.int .i64 0]) (cnt := 70) (fun _ => rfl) (fun _ => one1 rfl) rfl (by decide) (by decide) (by decide) (by decide) hv3 (by decide) q3 hap (fun x hx => by have := (hnR x hx).2; omega) hN fun ⟨l', li'⟩ H4 G t34 hv4 hG q4 g4 e4 => ?_
  dsimp only at hv4 ⊢
  have t24 : Tou (fun b => (∃ x ∈ nums ps cl, x.a = some (adr b)) ∨ l.a = some (adr b)) (fun t => t = T_int64 ∨ t = T_Sl_int64) H2 H4 := (t23.mono (fun _ _ e => .inl e) fun _ e => .inl e).trans t34 (fun _ _ e => e) fun _ e => e
  have t14 : Tou (fun b => ∃ x ∈ nums ps cl, x.a = some (adr b)) (fun t => t = T_int64 ∨ t = T_Sl_int64) H1 H4 := (Tou.of_ext _ _ hE2).trans t24 (fun b hb e => e.elim id fun e => by have := hlo2 b e; omega) fun _ e => e
  have h4 := h2.tou t24 (by decide) (by decide)
  have hr4 := t14.keep hr1 (by decide)
  have hA := rp_app hG q4 g4
  have hB := len_app hG (fun x hx => (hnR x hx).2) e4
  have hll := (rl_of hv2).len
  have hll4 := (rl_of hv4).len
  have hLG : (nums ps cl ++ G).length ≤ 2 ^ 44 := by rw [List.length_append, hG]; omega
  generalize hAA : nums ps cl ++ G = A at *
  -- do they read so?
  refine LoopT.mk (fun s H' => H4 = H' ∧ ∃ i : Nat, s = i ∧ i ≤ A.length) (fun s _ => A.length - s.toNat) ⟨rfl, 0, rfl, Nat.zero_le _⟩ ?_
  rintro next _ _ ⟨rfl, i, rfl, hi⟩ hnext
  refine Br_dec (fun hlt => ?_) fun _ => ?_
  · have hi2 : i < A.length := by omega
    have hx := hA i hi2
    have hxl := hB i hi2
    have rd : ∀ {k : Sl → Prop}, k A[i] → IxA 1 l' (i : Nat) fun a => Ld .sl a H4 k := fun hk => IxA_rl (rl_of hv4) rfl hi2 fun a g => Ld_sl (s := A[i]) g hk
    refine LoopT.mk (fun s H' => H4 = H' ∧ ∃ j : Nat, s = j ∧ j ≤ A[i].len) (fun s _ => A[i].len - s.toNat) ⟨rfl, 0, rfl, Nat.zero_le _⟩ ?_
    rintro next2 _ _ ⟨rfl, j, rfl, hj⟩ hnext2
    refine rd (Br_dec (fun hlt => ?_) fun _ => ?_)
    · have hj2 : j < A[i].len := by omega
      have hn0 : (nums ps cl).length ≠ 0 := by
        intro e
        have : A.length = 0 := by rw [← hAA, List.length_append, hG, e]
        omega
      refine rd (IxA_mk (mk := mkN) (fun _ => rfl) (by decide) hx hj2 fun a g => Ld_int (n := mkAt (i % (nums ps cl).length)) g.1 ⟨by omega, ?_⟩)
      rw [hll, tmodN]
      refine Lt.mk (u := mkAt (i % (nums ps cl).length)) (by rw [wrap_i64_id] <;> have := Nat.mod_le i (nums ps cl).length <;> omega) ?_
      rw [show (mkAt (i % (nums ps cl).length) != mkAt (i % (nums ps cl).length)) = false by simp, Br_false]
      exact Lt.mk (u := ((j + 1 : Nat) : Int)) (by rw [wrap_i64_id] <;> omega) (hnext2 _ _ ⟨rfl, j + 1, rfl, hj2⟩ (by omega))
    · exact Lt.mk (u := ((i + 1 : Nat) : Int)) (by rw [wrap_i64_id] <;> omega) (hnext _ _ ⟨rfl, i + 1, rfl, hi2⟩ (by omega))
  clear hnext
  -- the lists of parts
  have ldv : ∀ {H'} {k : Sl → Prop}, Ext H4 H' → k vs → Ld .sl (adr b1) H' k := fun he h => Ld_sl (s := vs) (((he.row hr4 fun h => h).cell 0).trans rfl) h
  have ldc : ∀ {H'} {k : Sl → Prop}, Ext H4 H' → k cs → Ld .sl ⟨b1, 0 + 1, none⟩ H' k := fun he h => Ld_sl (s := cs) (((he.row hr4 fun h => h).cell 1).trans rfl) h
  refine LoopT.mk (fun s H' => Ext H4 H' ∧ (∀ b, s.1.a = some (adr b) → H4.size ≤ b) ∧ ∃ i : Nat, s.2 = i ∧ i ≤ cl.length ∧ VecN H' T_Sl_api_Part 1 s.1 (((cl.take i).map CmP.psl).map slV)) (fun s _ => cl.length - s.2.toNat) ⟨.refl _ _, (fun b hb => by cases hb), 0, rfl, Nat.zero_le _, VecN.nil _ _ _⟩ ?_
  rintro next ⟨w, i'⟩ H5 ⟨hE5, hlo5, i, hi', hi, hv5⟩ hnext
  dsimp only at hi' hlo5 hv5
  subst hi'
  refine ldc hE5 (Br_dec (fun hlt => ?_) fun hge => ?_)
  · have hlt : (i : Int) < cs.len := hlt
    have hi2 : i < cl.length := by omega
    refine ldc hE5 (IxA_rn' cmV_len (VecN.rn cmV_len (by decide) (h4.cv.ext hE5)) (by decide) rfl hi2 fun a ha => ?_)
    rw [getElem!_pos _ i hi2] at ha
    refine Ld_sl (s := cl[i].psl) ha.2.2.2.2.2.1 (coll hE5 hlo5 hv5 (by rw [List.length_map, List.length_take]; omega) fun l' H3 g1 g2 g3 => ?_)
    refine Lt.mk (u := ((i + 1 : Nat) : Int)) (by rw [wrap_i64_id] <;> omega) (hnext _ _ ⟨g1, g2, i + 1, rfl, hi2, ?_⟩ (by dsimp only; omega))
    rw [List.take_add_one, List.getElem?_eq_getElem hi2, List.map_append]
    exact g3
  have hge : ¬ (i : Int) < cs.len := hge
  rw [show cl.take i = cl from List.take_of_length_le (by omega)] at hv5
  clear hnext
  refine ldv hE5 (coll hE5 hlo5 hv5 (by rw [List.length_map]; omega) fun w H6 hE6 hlo6 hv6 => ?_)
  have h6 := h4.tou (.of_ext (fun _ => False) (fun _ => False) hE6) id id
  have hpR := pslR_of h6
  have hpa' : (psls vs cl).Pairwise Apart := by
    obtain ⟨p1, p2⟩ := List.pairwise_cons.1 hpa
    rw [List.pairwise_append]
    exact ⟨p2, List.pairwise_singleton _ _, fun a ha b hb => by rw [List.mem_singleton.1 hb]; exact (p1 a ha).symm⟩
  have hP : (psls vs cl).length ≤ 2 ^ 42 := by rw [List.length_append, List.length_map, List.length_singleton]; omega
  refine fill_all (L := psls vs cl) (mk := mkQ) (fun _ => rfl) (by decide) hv6 (by decide) (fun x hx => (hpR x hx).1) hpa' (fun x hx => by have := (hpR x hx).2; omega) (by omega) fun H7 t67 q7 => ?_
  have hv7 := hv6.tou t67 (by decide)
  refine grow_all (L := psls vs cl) (mk := mkQ) (bytes := 32) (z := #[.int .i64 0, .slice none 0 0]) (cnt := 64) (fun _ => rfl) mkQ_one rfl (by decide) (by decide) (by decide) (by decide) hv7 (by decide) q7 hpa' (fun x hx => by have := (hpR x hx).2; omega) (by omega) fun ⟨w', wi'⟩ H8 F t78 hv8 hF q8 f8 e8 => ?_
  dsimp only at hv8 ⊢
  have t68 : Tou (fun b => (∃ x ∈ psls vs cl, x.a = some (adr b)) ∨ w.a = some (adr b)) (fun t => t = T_api_Part ∨ t = T_Sl_api_Part) H6 H8 := (t67.mono (fun _ _ e => .inl e) fun _ e => .inl e).trans t78 (fun _ _ e => e) fun _ e => e
  have t48 : Tou (fun b => ∃ x ∈ psls vs cl, x.a = some (adr b)) (fun t => t = T_api_Part ∨ t = T_Sl_api_Part) H4 H8 := (Tou.of_ext _ _ hE6).trans t68 (fun b hb e => e.elim id fun e => by have := hlo6 b e; omega) fun _ e => e
  have h8 := h4.wiped t48 (by decide) q8
  have hr8 := t48.keep hr4 (by decide)
  have hA := rp_app hF q8 f8
  have hB := len_app hF (fun x hx => (hpR x hx).2) e8
  have hll : w.len = (psls vs cl).length := (rl_of hv6).len
  have hll8 := (rl_of hv8).len
  have hLG : (psls vs cl ++ F).length ≤ 2 ^ 44 := by rw [List.length_append, hF]; omega
  generalize hBB : psls vs cl ++ F = B at *
  refine LoopT.mk (fun s H' => H8 = H' ∧ ∃ i : Nat, s = i ∧ i ≤ B.length) (fun s _ => B.length - s.toNat) ⟨rfl, 0, rfl, Nat.zero_le _⟩ ?_
  rintro next _ _ ⟨rfl, i, rfl, hi⟩ hnext
  refine Br_dec (fun hlt => ?_) fun _ => ?_
  · have hi2 : i < B.length := by omega
    have hx := hA i hi2
    have hxl := hB i hi2
    have rd : ∀ {k : Sl → Prop}, k B[i] → IxA 1 w' (i : Nat) fun a => Ld .sl a H8 k := fun hk => IxA_rl (rl_of hv8) rfl hi2 fun a g => Ld_sl (s := B[i]) g hk
    refine LoopT.mk (fun s H' => H8 = H' ∧ ∃ j : Nat, s = j ∧ j ≤ B[i].len) (fun s _ => B[i].len - s.toNat) ⟨rfl, 0, rfl, Nat.zero_le _⟩ ?_
    rintro next2 _ _ ⟨rfl, j, rfl, hj⟩ hnext2
    refine rd (Br_dec (fun hlt => ?_) fun _ => ?_)
    · have hj2 : j < B[i].len := by omega
      have hn0 : (psls vs cl).length ≠ 0 := by simp
      refine Jn.mk (fun jj H' => H8 = H' ∧ jj = false) (fun kk hkk => ?_) ?_
      · refine rd (IxA_mk (mk := mkQ) (fun _ => rfl) (by decide) hx hj2 fun a g => Ld_int (n := mkAt (i % (psls vs cl).length)) g.1 ⟨by omega, ?_⟩)
        rw [hll, tmodN]
        refine Lt.mk (u := mkAt (i % (psls vs cl).length)) (by rw [wrap_i64_id] <;> have := Nat.mod_le i (psls vs cl).length <;> omega) ?_
        rw [show (mkAt (i % (psls vs cl).length) != mkAt (i % (psls vs cl).length)) = false by simp, Br_false]
        exact rd (IxA_mk (mk := mkQ) (fun _ => rfl) (by decide) hx hj2 fun a g => Ld_sl (s := nilS) g.2.1 (hkk _ _ ⟨rfl, by decide⟩))
      · rintro _ _ ⟨rfl, rfl⟩
        rw [Br_false]
        exact Lt.mk (u := ((j + 1 : Nat) : Int)) (by rw [wrap_i64_id] <;> omega) (hnext2 _ _ ⟨rfl, j + 1, rfl, hj2⟩ (by omega))
    · exact Lt.mk (u := ((i + 1 : Nat) : Int)) (by rw [wrap_i64_id] <;> omega) (hnext _ _ ⟨rfl, i + 1, rfl, hi2⟩ (by omega))
  refine ⟨(vs, cs, es, st, er), hr8.rd_all, s_own h8 fun H9 h9 => hk _ ?_⟩
  have u0 : Upd (OutB vs cs es ps cl) H H1 := hE1.mono fun _ _ h => h.elim
  exact ((u0.trans t14.upd fun _ _ e => outB_nums e).trans t48.upd fun _ _ e => outB_psls e).trans h9.upd fun _ _ e => outB_wiped e
end
section
open Hc Hc.Vf Hc.Mc Hc.Dice
variable {H : Heap}
structure OutSm2 (o : Outc) (ps : List PtP) (cl : List CmP) : Prop where
  h_ps : ps.length ≤ 2 ^ 42
  h_pv : ∀ q ∈ ps, q.vals.length ≤ 2 ^ 44
  h_cl : cl.length ≤ 2 ^ 16
  h_cv : ∀ q ∈ cl, q.vals.length ≤ 2 ^ 44 ∧ q.parts.length ≤ 2 ^ 8 ∧ ∀ p ∈ q.parts, p.vals.length ≤ 2 ^ 44
  h_ev : o.evs.length ≤ 2 ^ 41
theorem OutSm2.sm {o : Outc} {ps : List PtP} {cl : List CmP} (h : OutSm2 o ps cl) : OutSm o ps cl :=
  ⟨by have := h.h_ps; omega, fun q hq => by have := h.h_pv q hq; omega, by have := h.h_cl; omega, fun q hq => ⟨by have := (h.h_cv q hq).1; omega, by have := (h.h_cv q hq).2.1; omega, fun p hp => by have := (h.h_cv q hq).2.2 p hp; omega⟩, by have := h.h_ev; omega⟩
theorem out_small2 {P : MP} {E : En} {parts : List Pt} (hP : POk P) (hE : EOk E) (hv : ∀ p ∈ parts, All64 p.vals) (hl : ∀ p ∈ parts, p.vals.length ≤ 2 ^ 44) (hpl : parts.length ≤ 2 ^ 42) {o : Outc} (ho : IsOut P E (initM P E parts) o) {ps : List PtP} {cl : List CmP} (h1 : ps.map PtP.pt = o.vals) (h2 : cl.map CmP.cm = o.cmds) : OutSm2 o ps cl := by
  have hM := init_okD (P := P) (E := E) hv
  rcases ho with ⟨N, m, hr, rfl⟩ | ⟨N, er, m, hne, hr, rfl⟩
  · obtain ⟨hsh, _⟩ := runs_shape hr fun ev hev => by cases hev
    have hsm : SmM m := runs_ok hP hE SmM (fun m i hm _ hq => sm_does hm hq) hr rfl hM ⟨(fun p hp => by cases hp), fun c hc => by cases hc⟩
    have hMe : MOk P m := by
      rcases runs_end hP hE hr hM with ⟨_, h⟩ | ⟨h, _⟩ | ⟨h, _⟩
      · exact h
      · cases h
      · exact absurd rfl h
    have hsl : m.vals.length ≤ 2 ^ 42 := by
      have := congrArg List.length hsh
      simp only [shp2, List.length_map] at this
      rw [this]; exact hpl
    have hvl : ∀ p ∈ m.vals, p.vals.length ≤ 2 ^ 44 := fun p hp => by
      have : (p.kind, p.vals.length) ∈ shp2 m.vals := List.mem_map.2 ⟨p, hp, rfl⟩
      rw [hsh] at this
      obtain ⟨q, hq, e⟩ := List.mem_map.1 this
      have e2 : q.vals.length = p.vals.length := congrArg Prod.snd e
      rw [← e2]; exact hl q hq
    have hpsub : ∀ p ∈ partsP m.vals (sortU P.writes), p ∈ m.vals := fun p hp => by
      obtain ⟨k, _, hk⟩ := List.mem_filterMap.1 hp
      exact List.mem_of_find?_eq_some hk
    dsimp only at h1 h2
    have hcl : cl.length = m.cmds.length := by have := congrArg List.length h2; simpa using this
    refine ⟨?_, fun q hq => ?_, by have := hMe.cmds; omega, fun q hq => ?_, by have := hMe.evs; show m.evs.length ≤ _; omega⟩
    · have e : ps.length = (partsP m.vals (sortU P.writes)).length := by have := congrArg List.length h1; simpa using this
      have hu := (sortU_ok P.writes).1
      have h3 : (partsP m.vals (sortU P.writes)).length ≤ m.vals.length := by
        have hsub : ((partsP m.vals (sortU P.writes)).map Pt.kind).Sublist (sortU P.writes) := by
          generalize sortU P.writes = ks
          induction ks with
          | nil => exact .slnil
          | cons k ks ih =>
            unfold partsP
            rw [List.filterMap_cons]
            cases hf : m.vals.find? fun q => q.kind == k with
            | none => exact .cons _ ih
            | some q =>
              have : q.kind = k := by have := List.find?_some hf; simpa using this
              simp only [List.map_cons, this]
              exact .cons_cons _ ih
        have hnd : (sortU P.writes).Nodup := List.Pairwise.imp (fun {a b} (h : a < b) => (show a ≠ b by omega)) hu
        have := (hsub.nodup hnd).length_le_of_subset (l₂ := m.vals.map Pt.kind) fun u hu => by
          obtain ⟨q, hq, rfl⟩ := List.mem_map.1 hu
          exact List.mem_map.2 ⟨q, hpsub q hq, rfl⟩
        simpa using this
      omega
    · have : q.pt ∈ partsP m.vals (sortU P.writes) := by rw [← h1]; exact List.mem_map.2 ⟨q, hq, rfl⟩
      have := hvl _ (hpsub _ this)
      have e : q.pt.vals.length = q.vals.length := rfl
      omega
    · have : q.cm ∈ m.cmds := by rw [← h2]; exact List.mem_map.2 ⟨q, hq, rfl⟩
      obtain ⟨g1, g2, g3⟩ := hsm.2 _ this
      have g1 : q.vals.length ≤ 64 := g1
      have g2 : (q.parts.map PtP.pt).length ≤ 12 := g2
      rw [List.length_map] at g2
      refine ⟨by omega, by omega, fun p hp => ?_⟩
      have g3 : p.vals.length ≤ 64 := g3 p.pt (List.mem_map.2 ⟨p, hp, rfl⟩)
      omega
  · dsimp only at h1 h2
    have e1 : ps = [] := by cases ps with | nil => rfl | cons _ _ => cases h1
    have e2 : cl = [] := by cases cl with | nil => rfl | cons _ _ => cases h2
    subst e1 e2
    exact ⟨Nat.zero_le _, (fun q h => by cases h), Nat.zero_le _, (fun q h => by cases h), Nat.zero_le _⟩
theorem outIs_small2 {lim : Int} {B : Heap} {p : Sl × Sl} {ss : List Sy} {fs : List Rou} {n : Int} {E : En} {parts : List Pt} (hP : PrgI B p ss fs) (hE : EOk E) (hv : ∀ p ∈ parts, All64 p.vals) (hl : ∀ p ∈ parts, p.vals.length ≤ 2 ^ 44) (hpl : parts.length ≤ 2 ^ 42) {o : Outc} (ho : OutIs lim ss fs n E parts o) {ps : List PtP} {cl : List CmP} (h1 : ps.map PtP.pt = o.vals) (h2 : cl.map CmP.cm = o.cmds) : OutSm2 o ps cl := by
  unfold OutIs at ho
  split at ho
  · rename_i hn
    exact out_small2 (hP.pok hn lim) hE hv hl hpl ho h1 h2
  · subst ho
    dsimp only at h1 h2
    have e1 : ps = [] := by cases ps with | nil => rfl | cons _ _ => cases h1
    have e2 : cl = [] := by cases cl with | nil => rfl | cons _ _ => cases h2
    subst e1 e2
    exact ⟨Nat.zero_le _, (fun q h => by cases h), Nat.zero_le _, (fun q h => by cases h), Nat.zero_le _⟩
theorem nums_len {o : Outc} {ps : List PtP} {cl : List CmP} (h : OutSm2 o ps cl) : (nums ps cl).length ≤ 2 ^ 42 + 2 ^ 28 := by
  have key : ∀ {l : List CmP}, (∀ q ∈ l, q.parts.length ≤ 2 ^ 8) → (l.flatMap cmSl).length ≤ l.length * 257 := fun {l} => by
    induction l with
    | nil => intro _; simp
    | cons c l ih =>
      intro hl
      have h1 := hl c List.mem_cons_self
      have h2 := ih fun q hq => hl q (List.mem_cons_of_mem _ hq)
      simp only [List.flatMap_cons, List.length_append, List.length_cons, List.length_map]
      omega
  have h1 := key fun q hq => (h.h_cv q hq).2.1
  have h2 := h.h_ps
  have h3 := h.h_cl
  rw [List.length_append, List.length_map]
  omega
theorem OutM.own {lo : Nat} {r : OutS} {o : Outc} {ps : List PtP} {cl : List CmP} (h : OutM lo H r o ps cl) (hs : OutSm2 o ps cl) : OwnI H r.1 r.2.1 r.2.2.1 ps cl := by
  have hv := (VecN.rn ptV_len (by decide) h.out.vv).len
  have hc := (VecN.rn cmV_len (by decide) h.out.cv).len
  have he := (VecN.rn evV_len (by decide) h.out.ev).len
  have num : ∀ {s : Sl} {xs : List Int}, Vec H T_int64 s (ints xs) → xs.length ≤ 2 ^ 44 → NumR H s := fun hv hl => ⟨⟨_, hv.n1⟩, by have := hv.len; rw [List.length_map] at this; omega⟩
  refine ⟨h.out.vv, fun q hq => num (h.out.vR q hq) (hs.h_pv q hq), h.out.cv, fun q hq => ⟨num (h.out.cR q hq).1 (hs.h_cv q hq).1, ⟨(h.out.cR q hq).2.1, ?_⟩, fun p hp => num ((h.out.cR q hq).2.2 p hp) ((hs.h_cv q hq).2.2 p hp)⟩, ⟨_, h.out.ev⟩, ?_, ?_, ?_⟩
  · have := (VecN.rn ptV_len (by decide) (h.out.cR q hq).2.1).len
    have := (hs.h_cv q hq).2.1
    omega
  · have := hs.h_ps; omega
  · have := hs.h_cl; omega
  · have := hs.h_ev; omega
theorem find_look (l : List Pt) (k : Int) : (l.find? fun p => p.kind == k) = (lookV l k).map fun v => ⟨k, v⟩ := by
  unfold lookV
  induction l with
  | nil => rfl
  | cons p l ih =>
    rw [List.find?_cons]
    by_cases h : p.kind = k
    · subst h; simp
    · have : (p.kind == k) = false := by simpa using h
      simp only [this]
      exact ih
theorem partsP_firsts (l : List Pt) (ks : List Int) : partsP (firsts l) ks = partsP l ks := by
  unfold partsP
  congr 1
  funext k
  rw [find_look, find_look, look_firsts]
theorem outIs_one {p : Sl × Sl} {ss : List Sy} {fs : List Rou} {n : Int} {E : En} {parts : List Pt} {o o' : Outc} {B : Heap} (hP : PrgI B p ss fs) (hE : EOk E) (hv : ∀ q ∈ parts, All64 q.vals) (hs : ∀ x ∈ ss, x.rou.code.length ≤ 2 ^ 40) (hf : ∀ r ∈ fs, r.code.length ≤ 2 ^ 40) (h : OutIs (2 ^ 63) ss fs n E parts o) (h' : OutIs (2 ^ 40) ss fs n E (firsts parts) o') : o = o' := by
  unfold OutIs at h h'
  split at h
  case isFalse hn => rw [if_neg hn] at h'; rw [h, h']
  case isTrue hn =>
    rw [if_pos hn] at h'
    have hP63 := hP.pok hn (2 ^ 63)
    have hl : ∀ f, (f = fnOf (ss[n.toNat]!).rou ∨ f ∈ fs.map fnOf) → (f.code.length : Int) ≤ 2 ^ 40 := fun f hf' => by
      rcases hf' with rfl | hf'
      · have := hs _ (sys_get hn); show (((ss[n.toNat]!).rou.code.length : Nat) : Int) ≤ _; omega
      · obtain ⟨r, hr, rfl⟩ := List.mem_map.1 hf'
        have := hf _ hr; show ((r.code.length : Nat) : Int) ≤ _; omega
    have hr : ∀ {N er m'}, Runs ⟨fs.map fnOf, fnOf (ss[n.toNat]!).rou, (ss[n.toNat]!).l 2, (ss[n.toNat]!).l 3, n, 2 ^ 63⟩ E (initM ⟨fs.map fnOf, fnOf (ss[n.toNat]!).rou, (ss[n.toNat]!).l 2, (ss[n.toNat]!).l 3, n, 2 ^ 63⟩ E parts) N er m' → Runs ⟨fs.map fnOf, fnOf (ss[n.toNat]!).rou, (ss[n.toNat]!).l 2, (ss[n.toNat]!).l 3, n, 2 ^ 40⟩ E (initM ⟨fs.map fnOf, fnOf (ss[n.toNat]!).rou, (ss[n.toNat]!).l 2, (ss[n.toNat]!).l 3, n, 2 ^ 40⟩ E (firsts parts)) N er (phi m') := fun {N er m'} hr =>
      runs_phi (P := ⟨fs.map fnOf, fnOf (ss[n.toNat]!).rou, (ss[n.toNat]!).l 2, (ss[n.toNat]!).l 3, n, 2 ^ 40⟩) (P' := ⟨fs.map fnOf, fnOf (ss[n.toNat]!).rou, (ss[n.toNat]!).l 2, (ss[n.toNat]!).l 3, n, 2 ^ 63⟩) ⟨rfl, rfl, rfl, rfl, rfl⟩ hP63 hE (fun f hf' => ⟨hl f hf', by have := hl f hf'; show _ ≤ (2 : Int) ^ 63; omega⟩) hr (init_okD hv)
    refine IsOut.unique (E := E) ?_ h'
    rcases h with ⟨N, m, h, rfl⟩ | ⟨N, er, m, hne, h, rfl⟩
    · exact .inl ⟨N, phi m, hr h, by show Outc.mk _ _ _ _ _ = Outc.mk _ _ _ _ _; rw [show (phi m).vals = firsts m.vals from rfl, partsP_firsts]; rfl⟩
    · exact .inr ⟨N, er, phi m, hne, hr h, rfl⟩
theorem map_via {α β γ : Type} {f : α → β} {g : β → γ} {h : α → γ} (hh : ∀ x, h x = g (f x)) {l m : List α} (e : l.map f = m.map f) : l.map h = m.map h := by
  have key : ∀ l : List α, l.map h = (l.map f).map g := fun l => by rw [List.map_map]; exact List.map_congr_left fun x _ => hh x
  rw [key, key, e]
theorem OutIs.cp {lim : Int} {ss ss' : List Sy} {fs fs' : List Rou} {n : Int} {E : En} {parts : List Pt} {o : Outc} (hs : ss'.map sysP = ss.map sysP) (hf : fs'.map rouP = fs.map rouP) (h : OutIs lim ss' fs' n E parts o) : OutIs lim ss fs n E parts o := by
  have l1 : ss'.length = ss.length := by simpa using congrArg List.length hs
  have e1 : fs'.map fnOf = fs.map fnOf := map_via (f := rouP) (g := fun r => (⟨r.2.1, r.2.2.1, r.2.2.2⟩ : Fnc)) (fun _ => rfl) hf
  unfold OutIs at h ⊢
  rw [l1] at h
  split at h
  case isFalse hn => rw [if_neg hn]; exact h
  case isTrue hn =>
    rw [if_pos hn]
    have i1 : n.toNat < ss.length := by omega
    have i2 : n.toNat < ss'.length := by omega
    have e := map_get hs i2 i1
    rw [getElem!_pos ss' _ i2, e1] at h
    rw [getElem!_pos ss _ i1]
    rw [sy_ints e (q := 2) (by decide), sy_ints e (q := 3) (by decide)] at h
    have e2 : fnOf ss'[n.toNat].rou = fnOf ss[n.toNat].rou := by
      have := sys_rou e
      simp only [rouP, Prod.mk.injEq] at this
      obtain ⟨_, g1, g2, g3⟩ := this
      simp only [fnOf, g1, g2, g3]
    rw [e2] at h
    exact h
theorem run_in2 {p : Sl × Sl} {ss : List Sy} {fs : List Rou} {e : EnV} {ins : List (Int × Int × Int)} {qs : List PtP} {bi bp lo : Nat} (hP : PrgI H p ss fs) (hcp : CpR lo H bi bp ins qs) (hil : ins.length * 24 ≤ 140737488351232) (hql : qs.length ≤ 2 ^ 42) (hqv : ∀ q ∈ qs, q.vals.length ≤ 2 ^ 44 ∧ All64 q.vals) (hE : EOk (enS e ins)) {n : Int} (hn : 0 ≤ n ∧ n < (ss.length : Int)) :
    RunIn H p ss n (cpE e bi bp ins.length qs.length) qs fs ins :=
  ⟨hP.sys, hn, hP.ctx (.refl _ _) hn hcp.rnI hil (fun a ha => by cases ha; exact ⟨rfl, hcp.inp.lt⟩) (fun h => by cases h), ((hP.sysR _ (sys_get hn)).rou.code), hcp.rnP, fun q hq' => ⟨hcp.rlV hq', (hqv q hq').1, (hqv q hq').2⟩, hql, (hP.sysR _ (sys_get hn)).lens 3 (by decide), hP.pok hn _, hE⟩
end
section
open Hc Hc.Vf Hc.Mc Hc.Dice
variable {H : Heap}
abbrev turnI (i : Ins) : Ins := if i.1 = 1 then (i.1, IntKind.wrap .i64 (i.2 + 1)) else i
abbrev turnC (c : List Ins) : List Ins := c.map turnI
abbrev turnR (r : Rou) : Rou := { r with code := turnC r.code }
abbrev turnS (x : Sy) : Sy := { x with rou := turnR x.rou }
theorem s_turned {lo : Nat} {l : Sl} {c : List Ins} (hc : CpC lo H l c) (hl : c.length ≤ 2 ^ 43) {k : Unit → Heap → Prop} (hk : ∀ H', Tou (fun b => l.a = some (adr b)) (· = T_api_Instr) H H' → CpC lo H' l (turnC c) → k () H') :
    CallT Pg f_L_turned [.slice l.a l.len l.cap] UnitR H k := by
  refine c_L_turned l ?_
  unfold v_L_turned
  obtain ⟨b, rfl, hr, hlo⟩ := hc
  have hR : ∀ i, (turnC c).take (i + 1) = (turnC c).take (i + 1) := fun _ => rfl
  generalize hn : c.length = n at *
  have hml : (markC c).length = n + 80 := by rw [mk_len, hn]
  refine LoopT.mk (fun s H' => ∃ (i : Nat) (ys : List Ins), s = i ∧ i ≤ n ∧ Upd (· = b) H H' ∧ H'.size = H.size ∧ Row H' b T_api_Instr (ys.flatMap insV) ∧ ys.length = n + 80 ∧ ys.take i = (turnC c).take i ∧ ys.drop i = (markC c).drop i) (fun s _ => n - s.toNat)
    ⟨0, markC c, rfl, Nat.zero_le _, .refl _ _, rfl, hr, hml, by simp, rfl⟩ ?_
  rintro next _ H1 ⟨i, ys, rfl, hi, hU, hz, hr1, hyl, hyt, hyd⟩ hnext
  refine Br_dec (fun hlt => ?_) fun hge => ?_
  · have hi2 : i < n := by first | omega | (dsimp only at hlt; omega)
    have hi3 : i < c.length := by omega
    have hiy : i < ys.length := by omega
    have ei : ys[i] = c[i] := by
      have := congrArg (fun l => l[0]?) hyd
      simp only [List.getElem?_drop, Nat.add_zero] at this
      rw [List.getElem?_eq_getElem hiy, List.getElem?_append_left hi3, List.getElem?_eq_getElem hi3] at this
      exact Option.some.inj this
    have ixp : ∀ {k : Addr → Prop}, k ⟨b, i * 2, none⟩ → IxA 2 ⟨some (adr b), n, n + 80⟩ (i : Nat) k := fun hk => IxA_adr (by omega) (by first | omega | (dsimp only; omega)) (by rw [Int.toNat_natCast]; exact hk)
    have hfl : (ys.flatMap insV).length = ys.length * 2 := flat_len insV_len
    have c0 : hcell H1 ⟨b, i * 2, none⟩ = some (.int .i64 c[i].1) := by
      rw [hr1.cell, ← Nat.add_zero (i * 2), flat_get insV_len hiy (by decide), ei]; rfl
    have c1 : hcell H1 ⟨b, i * 2 + 1, none⟩ = some (.int .i64 c[i].2) := by
      rw [hr1.cell, flat_get insV_len hiy (by decide), ei]; rfl
    refine Jn.mk (fun _ H' => ∃ ys' : List Ins, Upd (· = b) H H' ∧ H'.size = H.size ∧ Row H' b T_api_Instr (ys'.flatMap insV) ∧ ys'.length = n + 80 ∧ ys'.take (i + 1) = (turnC c).take (i + 1) ∧ ys'.drop (i + 1) = (markC c).drop (i + 1)) (fun kk hkk => ?_) ?_
    · refine ixp (Ld_int (n := c[i].1) c0 (Jn_in ?_))
      have et : ∀ x : Ins, x = turnI c[i] → (ys.set i x).take (i + 1) = (turnC c).take (i + 1) := fun x hx => by
        rw [List.take_add_one, List.take_set_of_le (Nat.le_refl _), hyt, List.getElem?_set_self hiy, List.take_add_one, List.getElem?_map, List.getElem?_eq_getElem hi3, hx]; rfl
      have ed : ∀ x : Ins, (ys.set i x).drop (i + 1) = (markC c).drop (i + 1) := fun x => by
        rw [List.drop_set_of_lt (by omega), ← List.drop_drop, hyd, List.drop_drop]
      refine Br.mk (fun h1 => ?_) fun h1 => ?_
      · have h1 : c[i].1 = 1 := by simpa using h1
        refine ixp ?_
        simp only [mk_add]
        refine Ld_int (n := c[i].2) c1 (Lt.mk rfl (ixp ?_))
        simp only [mk_add]
        refine St_row hr1 (by rw [hfl]; omega) fun H2 hU2 hz2 hr2 => ?_
        rw [flat_set insV_len (e' := ((c[i].1, IntKind.wrap .i64 (c[i].2 + 1)) : Ins)) (i := i) (o := 1) hiy (by decide) (by rw [ei]; rfl)] at hr2
        exact hkk _ _ ⟨_, hU.trans hU2 fun _ _ e => e, by omega, hr2, by rw [List.length_set]; exact hyl, et _ (by unfold turnI; rw [if_pos h1]), ed _⟩
      · have h1 : ¬ c[i].1 = 1 := by simpa using h1
        have es : ys.set i c[i] = ys := by rw [← ei, List.set_getElem_self]
        exact hkk _ _ ⟨ys, hU, hz, hr1, hyl, by rw [← es]; exact et _ (by unfold turnI; rw [if_neg h1]), by rw [← es]; exact ed _⟩
    · rintro _ H2 ⟨ys', g1, g2, g3, g4, g5, g6⟩
      exact Lt.mk (u := ((i + 1 : Nat) : Int)) (by rw [wrap_i64_id] <;> omega) (hnext _ _ ⟨i + 1, ys', rfl, hi2, g1, g2, g3, g4, g5, g6⟩ (by omega))
  have hi : i = n := by first | omega | (dsimp only at hge; omega)
  subst hi
  have e : ys = markC (turnC c) := by
    rw [← List.take_append_drop i ys, hyt, hyd, List.take_of_length_le (by rw [List.length_map]; omega), List.drop_append_of_le_length (by omega), List.drop_of_length_le (by omega)]
    rfl
  subst e
  exact hk _ ((Tou.of_st hr hU hr1 (by rw [flat_len insV_len, flat_len insV_len, hyl, hml])).mono (fun c _ e => by rw [e]) fun _ e => e) ⟨b, by rw [List.length_map, hn], hr1, hlo⟩
theorem flat_same {α : Type} {f : α → List Value} {ys : List α} {i : Nat} {x : α} (hi : i < ys.length) (h : f x = f ys[i]) : (ys.set i x).flatMap f = ys.flatMap f := by
  have : (ys.set i x).map f = ys.map f := by
    rw [List.map_set, h, ← List.getElem_map f (h := by rw [List.length_map]; exact hi), List.set_getElem_self]
  rw [List.flatMap_def, List.flatMap_def, this]
theorem apart_at {L : List Sl} (hap : L.Pairwise Apart) {i j : Nat} (hi : i < L.length) (hj : j < L.length) (hne : i ≠ j) : Apart L[i] L[j] := by
  rcases Nat.lt_or_ge i j with h | h
  · exact List.pairwise_iff_getElem.1 hap i j hi hj h
  · exact (List.pairwise_iff_getElem.1 hap j i hj hi (by omega)).symm
theorem CpC.keep {lo : Nat} {M : Nat → Prop} {S : TypeId → Prop} {H' : Heap} {s : Sl} {c : List Ins} (h : CpC lo H s c) (ht : Tou M S H H') (hM : ∀ b, s.a = some (adr b) → ¬ M b) : CpC lo H' s c := by
  obtain ⟨b, h1, h2, h3⟩ := h
  exact ⟨b, h1, ht.upd.row h2 (hM b (by rw [h1])), h3⟩
theorem CpL.keep {lo : Nat} {M : Nat → Prop} {S : TypeId → Prop} {H' : Heap} {s : Sl} {c : List Int} (h : CpL lo H s c) (ht : Tou M S H H') (hS : ¬ S T_int) : CpL lo H' s c := by
  obtain ⟨b, h1, h2, h3⟩ := h
  exact ⟨b, h1, ht.keep h2 hS, h3⟩
theorem CpP.turnsS {lo bs bf : Nat} {H' : Heap} {ss : List Sy} {fs : List Rou} (h : CpP lo H bs bf ss fs) {i : Nat} (hi : i < ss.length) (ht : Tou (fun b => ss[i].rou.sl.a = some (adr b)) (· = T_api_Instr) H H') (hc : CpC lo H' ss[i].rou.sl (turnC ss[i].rou.code)) : CpP lo H' bs bf (ss.set i (turnS ss[i])) fs := by
  have hap := h.ap
  have e1 : (ss.set i (turnS ss[i])).map (·.rou.sl) = ss.map (·.rou.sl) := by
    rw [List.map_set]
    show (ss.map (·.rou.sl)).set i ss[i].rou.sl = _
    rw [← List.getElem_map (fun x : Sy => x.rou.sl) (h := by rw [List.length_map]; exact hi), List.set_getElem_self]
  refine ⟨?_, ht.keep h.fun' (by decide), fun x hx => ?_, fun r hr => (h.funR r hr).keep ht ?_, by rw [e1]; exact hap, h.bs, h.bf⟩
  · have := ht.keep h.sys (by decide)
    rw [List.flatMap_append] at this ⊢
    rw [flat_same hi (by rfl)]
    exact this
  · obtain ⟨j, hj, rfl⟩ := List.mem_iff_getElem.1 hx
    rw [List.length_set] at hj
    by_cases e : i = j
    · subst e
      rw [List.getElem_set_self]
      have := h.sysR _ (List.getElem_mem hi)
      exact ⟨fun q hq => (this.sets q hq).keep ht (by decide), hc⟩
    · rw [List.getElem_set_ne e]
      have := h.sysR _ (List.getElem_mem hj)
      refine ⟨fun q hq => (this.sets q hq).keep ht (by decide), this.code.keep ht fun b hb hb' => ?_⟩
      have := apart_at (List.pairwise_append.1 hap).1 (i := i) (j := j) (by rw [List.length_map]; exact hi) (by rw [List.length_map]; exact hj) e
      simp only [List.getElem_map] at this
      exact this b hb' hb
  · intro b hb hb'
    exact (List.pairwise_append.1 hap).2.2 _ (List.mem_map.2 ⟨_, List.getElem_mem hi, rfl⟩) _ (List.mem_map.2 ⟨r, hr, rfl⟩) b hb' hb
theorem CpP.turnsF {lo bs bf : Nat} {H' : Heap} {ss : List Sy} {fs : List Rou} (h : CpP lo H bs bf ss fs) {i : Nat} (hi : i < fs.length) (ht : Tou (fun b => fs[i].sl.a = some (adr b)) (· = T_api_Instr) H H') (hc : CpC lo H' fs[i].sl (turnC fs[i].code)) : CpP lo H' bs bf ss (fs.set i (turnR fs[i])) := by
  have hap := h.ap
  have e1 : (fs.set i (turnR fs[i])).map (·.sl) = fs.map (·.sl) := by
    rw [List.map_set]
    show (fs.map (·.sl)).set i fs[i].sl = _
    rw [← List.getElem_map (fun x : Rou => x.sl) (h := by rw [List.length_map]; exact hi), List.set_getElem_self]
  refine ⟨ht.keep h.sys (by decide), ?_, fun x hx => ?_, fun r hr => ?_, by rw [e1]; exact hap, h.bs, h.bf⟩
  · have := ht.keep h.fun' (by decide)
    rw [List.flatMap_append] at this ⊢
    rw [flat_same hi (by rfl)]
    exact this
  · have := h.sysR _ hx
    refine ⟨fun q hq => (this.sets q hq).keep ht (by decide), this.code.keep ht fun b hb hb' => ?_⟩
    exact (List.pairwise_append.1 hap).2.2 _ (List.mem_map.2 ⟨x, hx, rfl⟩) _ (List.mem_map.2 ⟨_, List.getElem_mem hi, rfl⟩) b hb hb'
  · obtain ⟨j, hj, rfl⟩ := List.mem_iff_getElem.1 hr
    rw [List.length_set] at hj
    by_cases e : i = j
    · subst e
      rw [List.getElem_set_self]
      exact hc
    · rw [List.getElem_set_ne e]
      refine (h.funR _ (List.getElem_mem hj)).keep ht fun b hb hb' => ?_
      have := apart_at (List.pairwise_append.1 hap).2.1 (i := i) (j := j) (by rw [List.length_map]; exact hi) (by rw [List.length_map]; exact hj) e
      simp only [List.getElem_map] at this
      exact this b hb' hb
theorem turn_prgI {p : Sl × Sl} {ss : List Sy} {fs : List Rou} {H' : Heap} {lo bs bf : Nat} {ss' : List Sy} {fs' : List Rou} (hP : PrgI H p ss fs) (h : CpP lo H' bs bf (ss'.map turnS) (fs'.map turnR)) (hs : ss'.map sysP = ss.map sysP) (hf : fs'.map rouP = fs.map rouP) : PrgI H' (cpQ bs bf ss.length fs.length) (ss'.map turnS) (fs'.map turnR) := by
  have l1 : ss'.length = ss.length := by simpa using congrArg List.length hs
  have l2 : fs'.length = fs.length := by simpa using congrArg List.length hf
  have rou : ∀ {r r' : Rou}, RouI H r → rouP r' = rouP r → CpC lo H' r'.sl (turnC r'.code) → RouI H' (turnR r') := fun {r r'} hr he hc => by
    simp only [rouP, Prod.mk.injEq] at he
    obtain ⟨e1, e2, e3, e4⟩ := he
    refine ⟨hc.rn, by show (turnC r'.code).length ≤ _; rw [List.length_map, e4]; exact hr.len, by show I64 r'.params; rw [e2]; exact hr.par, by show I64 r'.locals; rw [e3]; exact hr.loc, fun i hi => ?_, by show r'.name.size ≤ _; rw [e1]; exact hr.name⟩
    obtain ⟨j, hj, rfl⟩ := List.mem_map.1 hi
    rw [e4] at hj
    have := hr.ins j hj
    unfold turnI
    split
    · exact ⟨this.1, w64_bd _⟩
    · exact this
  refine ⟨?_, fun x hx => ?_, ?_, fun r hr => ?_, by rw [List.length_map, l1]; exact hP.sl, by rw [List.length_map, l2]; exact hP.fl⟩
  · have := h.sys
    rw [List.flatMap_append] at this
    exact ⟨this.rd, by rw [List.length_map, l1], Nat.le_add_right _ _⟩
  · have hX := h.sysR x hx
    obtain ⟨x', hx', rfl⟩ := List.mem_map.1 hx
    obtain ⟨y, hy, e⟩ := mem_map_eq hs hx'
    have hY := hP.sysR y hy
    exact ⟨fun q hq => (hX.sets q hq).rl, fun q hq => by show (x'.l q).length ≤ _; rw [sy_ints e hq]; exact hY.lens q hq, fun q hq => by show ∀ z ∈ x'.l q, _; rw [sy_ints e hq]; exact hY.ints q hq, rou hY.rou (sys_rou e) hX.code⟩
  · have := h.fun'
    rw [List.flatMap_append] at this
    exact ⟨this.rd, by rw [List.length_map, l2], Nat.le_add_right _ _⟩
  · have hX := h.funR r hr
    obtain ⟨x', hx', rfl⟩ := List.mem_map.1 hr
    obtain ⟨y, hy, e⟩ := mem_map_eq hf hx'
    exact rou (hP.funR y hy) e hX
end
end Go.Proofs.YtfpmgpblhhcpgaaGreat
