/-
  The law's plan: given, whole.
-/
import Derived.Test.YtpkpebgpiakbeaaPlanJ
namespace Go.Proofs.Ytpkpebgpiakbeaa
set_option linter.unusedVariables false
set_option linter.unusedSimpArgs false
open Go.Proofs.Ytpkpebgpiakbeaa.Hc Go.Proofs.Ytpkpebgpiakbeaa.Hc.Plan
set_option maxRecDepth 100000

theorem s_given {s : Sl} {L : List PSys} {H0 H : Heap} (hs : LawL H0 s L) (hE : Ext H0 H) {k : Option Addr → Heap → Prop}
    (hk : ∀ p H', PlAt H' p (cutL L) → H.size ≤ p → Ext H H' → k (some (adr p)) H') :
    CallT Pg f_hindcastlaw18_given [.slice s.a s.len s.cap] (.one (.c .ptr)) H k := by
  apply c_hindcastlaw18_given
  unfold v_hindcastlaw18_given
  have hn : (cutL L).length ≤ 200 := by rw [cutL_len]; exact Nat.min_le_left _ _
  have hbd := cutL_mem L
  refine s_systems hs hE fun r cs H1 hv1 hcl hone hfr hE1 => ?_
  have z1 := hE1.size
  have hrl : r.len = (cutL L).length := by have := hv1.len; rw [flat_len sysC_len] at this; omega
  refine s_list1 (L := cutL L) hv1 hcl hone hbd hn hfr z1 fun cs2 H2 hv2 hcl2 hlone hap hU2 => ?_
  have hE2 : Ext H H2 := hE1.trans hU2 fun b hb e => by have := hfr b e; omega
  -- eight more
  refine LoopT.mk (fun σ H' => ∃ (j : Nat) (ex : List SysC), σ.2 = j ∧ j ≤ 8 ∧ ex.length = j ∧ VecN H' T_api_System 8 σ.1 ((cs2 ++ ex).flatMap sysC) ∧ (∀ e ∈ ex, e.2.2.2.1.len = 3 ∧ e.2.2.1.len = 0) ∧ (∀ i (h : i < cs2.length) (h' : i < (cutL L).length), LOne H.size H' cs2[i] (cutL L)[i]) ∧
      (∀ b, σ.1.a = some (adr b) → H.size ≤ b) ∧ Ext H H') (fun σ _ => (8 - σ.2).toNat)
    ⟨0, [], rfl, by omega, rfl, by simpa using hv2, by simp, hlone, hfr, hE2⟩ ?_
  rintro next2 ⟨t, _⟩ H7 ⟨j, ex, rfl, hj, hexl, hv7, hex, hlone7, hft, hE7⟩ hnext2
  dsimp only at hv7 hft ⊢
  have z7 := hE7.size
  have htl : t.len = (cutL L).length + j := by have := hv7.len; rw [flat_len sysC_len, List.length_append, hcl2, hexl] at this; omega
  refine Br_dec (fun hlt => ?_) fun hge => ?_
  · refine Nw_row fun b1 H8 hb1 hE8 _ hr8 => ?_
    obtain ⟨e, he⟩ : ∃ e : SysC, e = (nilS, nilS, nilS, ⟨some (adr b1), 3, 3⟩, ByteArray.empty, 0, 0, nilS) := ⟨_, rfl⟩
    refine Nw_row (vs := sysC (nilS, nilS, nilS, ⟨some (adr b1), 3, 3⟩, ByteArray.empty, 0, 0, nilS)) fun b2 H9 hb2 hE9 _ hr9 => ?_
    rw [← he] at hr9
    have hv9 := (hv7.ext hE8).ext hE9
    refine App_vecN rfl (by omega) hv9 (ws := sysC e) hr9.rd_all rfl (sysC_one e) (by omega) (by dsimp only; omega) fun l1 H10 hv10 hl10 hU10 hw10 => ?_
    rw [Lt_def, wrap_i64_id (by omega) (by omega)]
    have z8 := hE8.size
    have z9 := hE9.size
    rw [show (cs2 ++ ex).flatMap sysC ++ sysC e = (cs2 ++ (ex ++ [e])).flatMap sysC by simp] at hv10
    refine hnext2 _ _ ⟨j + 1, ex ++ [e], by dsimp only; omega, by omega, by simp; omega, hv10, fun x hx => ?_, fun i hi hi' => ?_, fun b hb => ?_, ((hE7.ext hE8).ext hE9).trans hU10 fun b hb e => by have := hft b e.1; omega⟩ (by dsimp only; omega)
    · rcases List.mem_append.1 hx with hx | hx
      · exact hex x hx
      · simp only [List.mem_singleton] at hx; subst hx; rw [he]; exact ⟨rfl, rfl⟩
    · have h9 := ((hlone7 i hi hi').upd hE8 fun _ _ h => h).upd hE9 fun _ _ h => h
      refine h9.upd hU10 fun b hb e => ?_
      rcases hb with hb | hb
      · exact hv9.apV h9.r.1 (by decide) e.1 hb
      · exact hv9.apV h9.w.1 (by decide) e.1 hb
    · dsimp only at hb
      rcases hw10 with ⟨e, _⟩ | e
      · rw [e] at hb; exact hft b hb
      · rw [e] at hb; cases hb; omega
  have hj8 : j = 8 := by omega
  subst hj8
  clear hnext2 hge
  have htc := hv7.lc
  refine SlA0 (by omega) (by omega) (by omega) ?_
  rw [Int.toNat_natCast, Int.toNat_natCast]
  have hes : (cs2 ++ ex).length = (cutL L).length + 8 := by rw [List.length_append, hcl2, hexl]
  have hsys : SysL H7 ⟨t.a, r.len, t.cap⟩ (cutL L) := by
    refine ⟨hrl, fun i hi => ?_⟩
    have hi2 : i < (cs2 ++ ex).length := by omega
    obtain ⟨a, ha, hc⟩ := (hv7.rn sysC_len (by omega)).el sysC_len hv7.spot (by omega) hi2
    refine ⟨a, ha, _, hc, ?_⟩
    have hi3 : i < cs2.length := by omega
    rw [List.getElem_append_left hi3]
    have h := hlone7 i hi3 hi
    have hb := hbd _ (List.getElem_mem hi)
    exact ⟨h.r.ri, h.w.ri, by omega, by omega⟩
  refine s_plan_New (s := ⟨t.a, r.len, t.cap⟩) hsys (by omega) fun p H11 hloc hp hE11 => ?_
  have hE11' := hE7.ext hE11
  have z11 := hE11.size
  refine s_systems hs (hE.trans hE11' fun _ _ h => h) fun r5 cs5 H12 hv5 hcl5 hone5 hfr5 hE12 => ?_
  have z12 := hE12.size
  have hr5l : r5.len = (cutL L).length := by have := hv5.len; rw [flat_len sysC_len] at this; omega
  have hE7_12 := hE11.ext hE12
  have lt7 : ∀ b, t.a = some (adr b) → b < H7.size := fun b hb => hv7.lt hb
  -- they are looked through and written over
  refine LoopT.mk (fun σ H' => ∃ (i : Nat) (es : List SysC), σ.1 = true ∧ σ.2 = i ∧ i ≤ es.length ∧ es.length = (cutL L).length + 8 ∧ VecN H' T_api_System 8 t (es.flatMap sysC) ∧
      (∀ m (h : m < es.length) (h' : m < (cs2 ++ ex).length), i ≤ m → es[m] = (cs2 ++ ex)[m]) ∧ (∀ m (h : m < cs2.length) (h' : m < (cutL L).length), i ≤ m → LOne H.size H' cs2[m] (cutL L)[m]) ∧ Upd (fun b => H.size ≤ b ∧ b < H7.size) H12 H') (fun σ _ => ((cutL L).length + 8 - σ.2).toNat)
    ⟨0, cs2 ++ ex, rfl, rfl, by omega, hes, hv7.ext hE7_12, fun _ _ _ _ => rfl, fun m h h' _ => (hlone7 m h h').upd hE7_12 fun _ _ h => h, .refl _ _⟩ ?_
  rintro next3 ⟨_, _⟩ H13 ⟨i, es, rfl, rfl, hi, hel, hv13, hsame, hlone13, hU13⟩ hnext3
  dsimp only
  have z13 := hU13.size
  have htl13 : t.len = es.length := by have := hv13.len; rw [flat_len sysC_len] at this; omega
  have up13 : ∀ b, t.a = some (adr b) → H.size ≤ b ∧ b < H7.size := fun b hb => ⟨hft b hb, lt7 b hb⟩
  have lt7' : ∀ m (h : m < cs2.length) (h' : m < (cutL L).length) b, (cs2[m].2.2.1.a = some (adr b) ∨ cs2[m].2.2.2.1.a = some (adr b)) → H.size ≤ b ∧ b < H7.size := fun m h h' b hb =>
    ⟨hb.elim ((hlone7 m h h').fr b) ((hlone7 m h h').fw b), (hlone7 m h h').lt hb⟩
  refine Br_dec (fun hlt => ?_) fun hge => ?_
  · have hi1 : i < es.length := by omega
    have hi2 : i < (cs2 ++ ex).length := by omega
    have ei := hsame i hi1 hi2 (Nat.le_refl _)
    have rd : ∀ {H' : Heap} (o : Nat) (x : Sl) {k : Sl → Prop}, VecN H' T_api_System 8 t (es.flatMap sysC) → o < 8 → (sysC es[i])[o]? = some (slV x) → k x → IxA 8 t (i : Int) fun a => Ld .sl (a.add o) H' k := fun {H'} o x {k} hv ho hx hk => by
      refine IxA_vecN hv (by omega) rfl (by omega) fun b _ hcc => ?_
      rw [mk_add]
      exact Ld_sl (s := x) ((hcc o ho).trans ((flat_get sysC_len hi1 ho).trans hx)) hk
    refine Jn.mk (fun b H' => b = true ∧ ∃ es' : List SysC, es'.length = (cutL L).length + 8 ∧ VecN H' T_api_System 8 t (es'.flatMap sysC) ∧
      (∀ m (h : m < es'.length) (h' : m < (cs2 ++ ex).length), i + 1 ≤ m → es'[m] = (cs2 ++ ex)[m]) ∧ (∀ m (h : m < cs2.length) (h' : m < (cutL L).length), i + 1 ≤ m → LOne H.size H' cs2[m] (cutL L)[m]) ∧ Upd (fun b => H.size ≤ b ∧ b < H7.size) H12 H') (fun kk1 hkk1 => ?_) ?_
    · refine Br_dec (fun hmore => ?_) fun hone' => ?_
      · have him : ¬ i < cs2.length := by omega
        have hx := hex ((cs2 ++ ex)[i]) (by rw [List.getElem_append_right (by omega)]; exact List.getElem_mem _)
        rw [← ei] at hx
        refine Jn.mk (fun b H' => b = true ∧ H13 = H') (fun kk2 hkk2 => ?_) (fun b H' ⟨h1, h2⟩ => ?_)
        · rw [Br_true]
          refine rd 3 es[i].2.2.2.1 hv13 (by omega) rfl ?_
          rw [hx.1]
          show Br true _ _
          rw [Br_true]
          refine rd 2 es[i].2.2.1 hv13 (by omega) rfl ?_
          rw [hx.2]
          exact hkk2 _ _ ⟨rfl, rfl⟩
        · subst h1 h2
          exact hkk1 _ _ ⟨rfl, es, hel, hv13, fun m h h' hm => hsame m h h' (by omega), fun m h h' hm => hlone13 m h h' (by omega), hU13⟩
      · have hic : i < cs2.length := by omega
        have hiL : i < (cutL L).length := by omega
        rw [List.getElem_append_left hic] at ei
        have hl := hlone13 i hic hiL (Nat.le_refl _)
        have hb30 := hbd _ (List.getElem_mem hiL)
        have hi5 : i < cs5.length := by omega
        have h5 := hone5 i hi5 hiL
        have rd5 : ∀ {H' : Heap} (o : Nat) (x : Sl) {k : Sl → Prop}, VecN H' T_api_System 8 r5 (cs5.flatMap sysC) → o < 8 → (sysC cs5[i])[o]? = some (slV x) → k x → IxA 8 r5 (i : Int) fun a => Ld .sl (a.add o) H' k := fun {H'} o x {k} hv ho hx hk => by
          refine IxA_vecN hv (by omega) rfl (by omega) fun b _ hcc => ?_
          rw [mk_add]
          exact Ld_sl (s := x) ((hcc o ho).trans ((flat_get sysC_len hi5 ho).trans hx)) hk
        have hv5' := hv5.upd hU13 fun b hb e => by have := hfr5 b hb; omega
        have r5r := h5.r.upd hU13 fun b hb e => by have := h5.fr b hb; omega
        have r5w := h5.w.upd hU13 fun b hb e => by have := h5.fw b hb; omega
        refine rd 2 cs2[i].2.2.1 hv13 (by omega) (by rw [ei]; rfl) ?_
        refine rd5 2 cs5[i].2.2.1 hv5' (by omega) rfl ?_
        refine s_still18 hl.r.1 hl.r.2 rfl r5r.rl (by omega) ?_
        refine rd 3 cs2[i].2.2.2.1 hv13 (by omega) (by rw [ei]; rfl) ?_
        refine rd5 3 cs5[i].2.2.2.1 hv5' (by omega) rfl ?_
        refine s_still18 hl.w.1 hl.w.2 rfl r5w.rl (by omega) ?_
        refine Jn.mk (fun b H' => b = true ∧ H13 = H') (fun kk3 hkk3 => ?_) (fun j3 H' ⟨h1, h2⟩ => ?_)
        · rw [Br_true, Br_true, Br_true]
          have r0 : IxA 8 t (i : Int) fun a => Ld .sl (a.add 0) H13 fun x9 => Br ((x9.len : Int) == 2) (
                              IxA 8 t (i : Int) fun a12 =>
                              Ld .sl (a12.add 1) H13 fun (x10 : Sl) =>
                              kk3 ((x10.len : Int) == 1) H13) (
                              kk3 false H13) := by
            refine rd 0 cs2[i].1 hv13 (by omega) (by rw [ei]; rfl) ?_
            rw [hl.wl]
            show Br true _ _
            rw [Br_true]
            refine rd 1 cs2[i].2.1 hv13 (by omega) (by rw [ei]; rfl) ?_
            rw [hl.ol]
            exact hkk3 _ _ ⟨rfl, rfl⟩
          exact r0
        · subst h1 h2
          refine s_fill hv13 hi1 (by omega) (o := 2) (t := cs2[i].2.2.1) (by rw [ei]; rfl) hl.r (by omega) (by omega) fun H19 hU19 => ?_
          have nT : ∀ {x : Sl} {xs : List Int}, Lent H13 x xs → ∀ b, t.a = some (adr b) → ¬ x.a = some (adr b) := fun hx b hb e => hv13.apV hx.1 (by decide) hb e
          have hv19 := hv13.upd hU19 (nT hl.r)
          have hw19 := hl.w.upd hU19 fun b hb e => hl.ap b e hb
          refine s_fill hv19 hi1 (by omega) (o := 3) (t := cs2[i].2.2.2.1) (by rw [ei]; rfl) hw19 (by omega) (by omega) fun H21 hU21 => ?_
          have hv21 := hv19.upd hU21 fun b hb e => hv19.apV hw19.1 (by decide) hb e
          refine Nw_row fun b3 H23 hb3 hE23 _ hr23 => ?_
          refine s_wipe (hv21.ext hE23) hi1 fun H31 x hv31 hU31 => ?_
          have z19 := hU19.size
          have z21 := hU21.size
          have z23 := hE23.size
          have upAll : Upd (fun b => (cs2[i].2.2.1.a = some (adr b) ∨ cs2[i].2.2.2.1.a = some (adr b)) ∨ t.a = some (adr b)) H13 H31 :=
            (((hU19.mono fun _ _ e => .inl (.inl e)).trans hU21 fun _ _ e => .inl (.inr e)).ext hE23).trans hU31 fun _ _ e => .inr e
          refine hkk1 _ _ ⟨rfl, es.set i x, by simpa using hel, hv31, fun m h h' hm => ?_, fun m h h' hm => ?_, hU13.trans upAll fun b hb e => ?_⟩
          · rw [List.getElem_set_ne (by omega)]
            exact hsame m (by simpa using h) h' (by omega)
          · refine (hlone13 m h h' (by omega)).upd upAll fun b hb e => ?_
            rcases e with e | e
            · exact hap m i h hic (by omega) b hb e
            · rcases hb with hb | hb
              · exact nT (hlone13 m h h' (by omega)).r b e hb
              · exact nT (hlone13 m h h' (by omega)).w b e hb
          · rcases e with e | e
            · exact lt7' i hic hiL b e
            · exact up13 b e
    rintro _ H14 ⟨rfl, es', h1, h2, h3, h4, h5⟩
    rw [Lt_def, wrap_i64_id (by omega) (by omega)]
    exact hnext3 _ _ ⟨i + 1, es', rfl, by dsimp only; omega, by omega, h1, h2, h3, h4, h5⟩ (by dsimp only; omega)
  · rw [Bool.not_true, Br_false]
    refine hk p H13 (((hloc.ext hE12).upd hU13 fun b _ e => e.2).at) (by omega) ((hE11'.ext hE12).trans hU13 fun b hb e => by omega)
end Go.Proofs.Ytpkpebgpiakbeaa
