/-
  says: Verify of a lent program is the document's answer.
-/
import Derived.Test.YtlkmmplgfjicjaaGreatRG
namespace Go.Proofs.YtlkmmplgfjicjaaGreat
set_option linter.unusedVariables false
set_option linter.unusedSimpArgs false
open Go.Proofs.YtlkmmplgfjicjaaGreat.Hc Go.Proofs.YtlkmmplgfjicjaaGreat.Hc.Vf
set_option maxRecDepth 100000
variable {H : Heap}

theorem PrgI.ext {H' : Heap} (hE : Ext H H') {p : Sl × Sl} {ss : List Sy} {fs : List Rou} (h : PrgI H p ss fs) : PrgI H' p ss fs := by
  refine ⟨h.sys.ext hE, fun x hx => ?_, h.fun'.ext hE, fun r hr => ?_, h.sl, h.fl⟩
  · have h := h.sysR x hx
    exact ⟨fun q hq => (h.sets q hq).ext hE, h.lens, h.ints, ⟨h.rou.code.ext hE, h.rou.len, h.rou.par, h.rou.loc, h.rou.ins, h.rou.name⟩⟩
  · have h := h.funR r hr
    exact ⟨h.code.ext hE, h.len, h.par, h.loc, h.ins, h.name⟩
theorem s_rVerI {p : Sl × Sl} {ksl : Sl} {ks : List Ki} {ss : List Sy} {fs : List Rou} (hP : PrgI H p ss fs) (hK : KdsR H ksl ks) {k : Int × Int → Heap → Prop}
    (hk : ∀ H', Ext H H' → k ((foI (verifyO ks ss fs)).1, (foI (verifyO ks ss fs)).2.1) H') : CallT Pg f_hindcastref15_Verify [prgA p, .slice ksl.a ksl.len ksl.cap] (.tup [(.c (.int .i64)), (.c (.int .i64))]) H k :=
  s_rVerify hP.prg (fun x hx => (hP.sysR x hx).rou.len) (fun r hr => (hP.funR r hr).len) hK hP.par hk
theorem ver_row {lo : Nat} {v : Value} {o : Option (Nat × Nat)} (h : VerOut lo H v o) : v = .nilIface ∨ ∃ g a e, v = .iface T_P_api_Fault (.pointer (some (adr g))) ∧ lo ≤ g ∧ Row H g T_api_Fault [.int .i64 (a : Nat), .int .i64 (e : Nat)] := by
  cases o with
  | none => exact .inl h
  | some ae => obtain ⟨g, h1, h2, h3⟩ := h; exact .inr ⟨g, ae.1, ae.2, h1, h2, h3⟩
theorem s_says {q p : Sl × Sl} {ksl : Sl} {ks : List Ki} {ss ss' : List Sy} {fs fs' : List Rou} {yb : Sy} {fb : Rou} (hL : LentP H q ss' fs' yb fb) (hP : PrgI H p ss fs) (he1 : ss'.map eraS = ss.map eraS) (he2 : fs'.map eraR = fs.map eraR) (hK : KdsR H ksl ks) (hkl : ks.length * 40 ≤ 2 ^ 47) (hll : ∀ x ∈ ks, x.l.length * 16 ≤ 2 ^ 47)
    {k : Bool → Heap → Prop} (hk : ∀ H', Ext H H' → k true H') : CallT Pg f_hindcastlaw15_says [prgA q, prgA p, .slice ksl.a ksl.len ksl.cap] (.one (.c .bool)) H k := by
  refine c_hindcastlaw15_says q p _ ?_
  unfold v_hindcastlaw15_says
  have hsim : SimP ss ss' fs fs' := ⟨(map_via (f := eraS) (fun e => (e.1, e.2.2)) he1).symm, (map_via (f := eraR) (fun e => e.2) he2).symm⟩
  obtain ⟨hle1, hle2⟩ := lens_of hsim hP
  have hI : ∀ x ∈ parms fs', I64 x := hsim.par ▸ hP.par
  refine Nw_row (vs := [slV q.1, slV q.2]) fun b1 H1 hb1 hE1 _ hr1 => Nw_row (vs := [slV p.1, slV p.2]) fun b2 H2 hb2 hE2 _ hr2 => ?_
  have hE2' := hE1.trans hE2 fun _ _ h => h
  refine s_named (hK.ext hE2') hkl hll fun gv ks' H3 hE3 hN3 hlo3 heK => ?_
  have hE3' := hE2'.trans hE3 fun _ _ h => h
  have hE23 : Ext H2 H3 := hE3
  have kq : ∀ {Hx}, Ext H2 Hx → Row Hx b1 T_api_Program [slV q.1, slV q.2] := fun hE => hE.row (hE2.row hr1 fun h => h) fun h => h
  have kp : ∀ {Hx}, Ext H2 Hx → Row Hx b2 T_api_Program [slV p.1, slV p.2] := fun hE => hE.row hr2 fun h => h
  have hLx : ∀ {Hx}, Ext H2 Hx → LentP Hx q ss' fs' yb fb := fun hE => hL.ext (hE2'.trans hE fun _ _ h => h)
  have hPx : ∀ {Hx}, Ext H2 Hx → PrgI Hx p ss fs := fun hE => hP.ext (hE2'.trans hE fun _ _ h => h)
  have hqR : ∀ {Hx}, Ext H2 Hx → PrgR Hx q ss' fs' := fun hE => (hLx hE).prg hle1 hle2
  have hver : verifyO ks' ss' fs' = verifyO ks ss fs := by rw [verify_eraK heK, ← verify_eraP he1 he2]
  refine ⟨q, (kq hE23).rd_all, s_Verify (hqR hE23) (hN3.kds hK heK) hI fun v1 H4 hE4 hv1 => ?_⟩
  have hE24 := hE23.trans hE4 fun _ _ h => h
  have hN4 := hN3.ext hE4
  refine ⟨q, (kq hE24).rd_all, s_Verify (hqR hE24) (hN4.kds hK heK) hI fun v2 H5 hE5 hv2 => ?_⟩
  have hE25 := hE24.trans hE5 fun _ _ h => h
  have hN5 := hN4.ext hE5
  rw [hver] at hv1 hv2
  refine ⟨q, (kq hE25).rd_all, p, (kp hE25).rd_all, s_still (hLx hE25) (hPx hE25) he1 he2 fun H6 hE6 => ?_⟩
  have hE26 := hE25.trans hE6 fun _ _ h => h
  have hN6 := hN5.ext hE6
  refine s_sameKinds hN6 (hK.ext (hE2'.trans hE26 fun _ _ h => h)) heK (Jn_in ((Br_true _ _).2 ?_))
  refine s_lfault (hv1.ext (hE5.trans hE6 fun _ _ h => h)) ⟨p, (kp hE26).rd_all, s_rVerI (hPx hE26) (hK.ext (hE2'.trans hE26 fun _ _ h => h)) fun H10 hE10 => ?_⟩
  have hE210 := hE26.trans hE10 fun _ _ h => h
  have hN10 := hN6.ext hE10
  have ht : (foI (verifyO ks ss fs)).2.2 = true := foI_true fun a e h => verify_ne h
  generalize verifyO ks ss fs = o at *
  have bs : ∀ z : Int, (z != z) = false := fun z => by simp
  have be : ∀ z : Int, (z == z) = true := fun z => by simp
  refine Jn.mk (fun j H' => H10 = H' ∧ j = false) (fun kk hkk => ?_) ?_
  · show Br (!true) _ (Br (!(foI o).2.2) _ _)
    rw [ht]
    refine (Br_false _ _).2 ((Br_false _ _).2 ?_)
    simp only [bs]
    exact (Br_false _ _).2 (hkk _ _ ⟨rfl, rfl⟩)
  rintro _ _ ⟨rfl, rfl⟩
  refine (Br_false _ _).2 ?_
  have e410 : Ext H4 H10 := (hE5.trans hE6 fun _ _ h => h).trans hE10 fun _ _ h => h
  have e510 : Ext H5 H10 := hE6.trans hE10 fun _ _ h => h
  have hz3 := hE23.size
  have hz2 := hE2'.size
  have hz4 := hE4.size
  -- it is its owner's
  have behind : ∀ H13, Upd (fun b => ∃ ws, Row H10 b T_api_Fault ws ∧ H3.size ≤ b ∧ b < H4.size) H10 H13 →
      CallT Pg f_hindcastlaw15_fault [v2] (.tup [(.c (.int .i64)), (.c (.int .i64)), (.c .bool)]) H13 fun (r8 : Int × Int × Bool) H16 =>
      Jn (σ := Bool) (fun kk5 =>
        Br (!r8.2.2) (
          kk5 true H16) (
          Br (r8.1 != (foI o).1) (
            kk5 true H16) (
            Br (r8.2.1 != (foI o).2.1) (
              kk5 true H16) (
              kk5 ((gv.len : Int) == 0) H16)))) fun j5 H17 =>
      Br j5 (
        Jn (σ := Bool) (fun kk6 =>
          Br r8.2.2 (
            Br (r8.1 == (foI o).1) (
              kk6 (r8.2.1 == (foI o).2.1) H17) (
              kk6 false H17)) (
            kk6 false H17)) fun j6 H18 =>
        k j6 H18) (
        LdC [.sl, .sl] (adr b1) H17 fun (c6 : Sl × Sl) =>
        CallT Pg f_verify_Verify [.agg #[.slice c6.1.a c6.1.len c6.1.cap, .slice c6.2.a c6.2.len c6.2.cap], .slice gv.a gv.len gv.cap] (.one (.c .raw)) H17 fun (r9 : Value) H19 =>
        Quo .i64 (gv.len : Int) 2 fun t1 =>
        IxA 2 gv 0 fun a3 =>
        Ld .str a3 H19 fun (x2 : ByteArray) =>
        Nw #[.string (⟨#[97]⟩ : ByteArray), .string (⟨#[98]⟩ : ByteArray), .string (⟨#[99]⟩ : ByteArray)] T_string H19 fun b3 H20 =>
        IxA 2 gv t1 fun a4 =>
        St (a4.add 0) (.string x2) H20 fun H21 =>
        St (a4.add 1) (.slice (some (adr b3)) 3 3) H21 fun H22 =>
        App T_api_Kind 2 40 #[.string ByteArray.empty, .slice none 0 0] ⟨none, 0, 0⟩ gv H22 fun l1 H23 =>
        LdC [.sl, .sl] (adr b1) H23 fun (c7 : Sl × Sl) =>
        CallT Pg f_verify_Verify [.agg #[.slice c7.1.a c7.1.len c7.1.cap, .slice c7.2.a c7.2.len c7.2.cap], .slice gv.a gv.len gv.cap] (.one (.c .raw)) H23 fun (r10 : Value) H24 =>
        CallT Pg f_hindcastlaw15_fault [r10] (.tup [(.c (.int .i64)), (.c (.int .i64)), (.c .bool)]) H24 fun (r11 : Int × Int × Bool) H25 =>
        LdC [.sl, .sl] (adr b2) H25 fun (c8 : Sl × Sl) =>
        CallT Pg f_hindcastref15_Verify [.agg #[.slice c8.1.a c8.1.len c8.1.cap, .slice c8.2.a c8.2.len c8.2.cap], .slice l1.a l1.len l1.cap] (.tup [(.c (.int .i64)), (.c (.int .i64))]) H25 fun (r12 : Int × Int) H26 =>
        Jn (σ := Bool) (fun kk7 =>
          Br r11.2.2 (
            Br (r11.1 == r12.1) (
              kk7 (r11.2.1 == r12.2) H26) (
              kk7 false H26)) (
            kk7 false H26)) fun j7 H27 =>
        k j7 H27) := by
    intro H13 hU13
    have hE213 : Ext H2 H13 := hE210.trans hU13 fun b hb ⟨ws, _, h2, _⟩ => by omega
    have hN13 : NamedK H13 gv ks' := ⟨VecN.updT hU13 hN10.sv fun b ws hw ⟨ws', h1, _⟩ => hw.ne h1 (by decide) rfl, hN10.sl, fun x hx => (hN10.el x hx).updT hU13 fun b ws hw ⟨ws', h1, _⟩ => hw.ne h1 (by decide) rfl⟩
    have hv213 : VerOut H4.size H13 v2 o := by
      have h10 := hv2.ext e510
      cases o with
      | none => exact h10
      | some ae => obtain ⟨g, h1, h2, h3⟩ := h10; exact ⟨g, h1, h2, hU13.row h3 fun ⟨_, _, _, h4⟩ => by omega⟩
    refine s_lfault hv213 ?_
    have hgl := hN13.sl
    have hE13h := hE2'.trans hE213 fun _ _ h => h
    refine Jn.mk (fun j H' => H13 = H' ∧ (j = false → 0 < ks'.length)) (fun kk hkk => ?_) ?_
    · rw [ht]
      refine (Br_false _ _).2 ?_
      simp only [bs]
      refine (Br_false _ _).2 ((Br_false _ _).2 (hkk _ _ ⟨rfl, fun h => ?_⟩))
      have := bneI (show ((gv.len : Int) == 0) = false from h)
      omega
    rintro j _ ⟨rfl, hj⟩
    refine Br.mk (fun _ => Jn_in ?_) fun hjf => ?_
    · rw [ht]
      simp only [be]
      exact (Br_true _ _).2 ((Br_true _ _).2 (hk _ hE13h))
    have hpos := hj hjf
    refine ⟨q, (kq hE213).rd_all, s_Verify (hqR hE213) (hN13.kds hK heK) hI fun v3 H19 hE19 _ => ⟨by omega, ?_⟩⟩
    have hE219 := hE213.trans hE19 fun _ _ h => h
    have hN19 := hN13.ext hE19
    have hpre := rn_pre kiV_len (by omega) hN19.sv hN19.sl
    have hlk := hK.len
    have h3l := map_len heK
    have hq2 : IntKind.wrap .i64 ((gv.len : Int).tdiv 2) = ((ks'.length / 2 : Nat) : Int) := by
      rw [hgl, show ((ks'.length : Int)).tdiv 2 = ((ks'.length / 2 : Nat) : Int) by rw [Int.tdiv_eq_ediv_of_nonneg (by omega)]; omega, wrap_i64_id] <;> omega
    rw [hq2]
    have hnm0 : (ks'[0]!).name.size ≤ 2 ^ 60 := (hN19.kds hK heK).ln _ (by rw [getElem!_pos ks' 0 hpos]; exact List.getElem_mem hpos)
    refine IxA_rn' kiV_len hpre (by omega) (j := 0) rfl hpos fun a3 ha3 => Ld_str (kiCells ha3).1 ?_
    refine Nw_row (vs := strV [⟨#[97]⟩, ⟨#[98]⟩, ⟨#[99]⟩]) fun b3 H20 hb3 hE20 _ hr20 => ?_
    have hE220 := hE219.trans hE20 fun _ _ h => h
    have hN20 := hN19.ext hE20
    have hml : ks'.length / 2 < ks'.length := by omega
    let x' : Ki := ⟨(ks'[0]!).name, ⟨some (adr b3), 3, 3⟩, [⟨#[97]⟩, ⟨#[98]⟩, ⟨#[99]⟩]⟩
    let x1 : Ki := ⟨(ks'[0]!).name, (ks'[ks'.length / 2]'hml).s, []⟩
    have hcap := hN20.sv.lc
    obtain ⟨bg, hbg⟩ : ∃ b, gv.a = some (adr b) := by
      rcases hN20.sv.own with ⟨g1, g2, g3⟩ | ⟨b, sp, g1, g2, g3⟩
      · have := congrArg List.length g3
        rw [flat_len kiV_len] at this; simp at this
      · exact ⟨b, g1⟩
    have hbglo := hlo3 bg hbg
    refine IxA.mk hbg (by omega) (by omega) ?_
    rw [Int.toNat_natCast, adr_add]
    simp only [mk_add, Nat.add_zero]
    have hfl : ((ks' ++ [behindK]).flatMap kiV).length = (ks'.length + 1) * 2 := by rw [flat_len kiV_len]; simp
    refine St_vecN hN20.sv hbg (by rw [hfl]; omega) fun H21 hv21 hU21 z21 => ?_
    refine St_vecN (m := ks'.length / 2 * 2 + 1) hv21 hbg (by rw [List.length_set, hfl]; omega) fun H22 hv22 hU22 z22 => ?_
    have hU22' : Upd (· = bg) H20 H22 := hU21.trans hU22 fun _ _ h => h
    have hcd : (((ks' ++ [behindK]).flatMap kiV).set (ks'.length / 2 * 2) (.string (ks'[0]!).name)).set (ks'.length / 2 * 2 + 1) (.slice (some (adr b3)) 3 3) = (ks'.set (ks'.length / 2) x' ++ [behindK]).flatMap kiV := by
      have h1 := flat_set kiV_len (e' := x1) (o := 0) (v := .string (ks'[0]!).name) (es := ks' ++ [behindK]) (i := ks'.length / 2) (by simp; omega) (by omega) (by rw [List.getElem_append_left hml]; rfl)
      rw [Nat.add_zero] at h1
      rw [h1]
      have h2 := flat_set kiV_len (e' := x') (o := 1) (v := .slice (some (adr b3)) 3 3) (es := (ks' ++ [behindK]).set (ks'.length / 2) x1) (i := ks'.length / 2) (by simp; omega) (by omega) (by rw [List.getElem_set_self]; rfl)
      rw [h2, List.set_set, List.set_append_left _ _ hml]
    rw [hcd] at hv22
    have hbgT : ∀ b T ws, Row H20 b T ws → T ≠ T_api_Kind → ¬ b = bg := fun b T ws hw hT => by
      obtain ⟨ws0, hw0⟩ := VecN.row hN20.sv hbg
      exact hw.ne hw0 hT
    have hE222 : Ext H2 H22 := hE220.trans hU22' fun b hb e => by omega
    have hsl' : (ks'.set (ks'.length / 2) x').length = ks'.length := List.length_set
    have hpre22 : RN kiV 2 H22 gv (ks'.set (ks'.length / 2) x') := rn_pre kiV_len (by omega) (by rw [hsl']; exact hv22) (by rw [hsl']; exact hgl)
    have hkd20 := hN20.kds hK heK
    have hx'R : RL Value.string H22 x'.s x'.l := ⟨Row.rd_all (hU22'.row hr20 (hbgT _ _ _ hr20 (by decide))), rfl, Nat.le_refl _⟩
    have hK22 : ∀ {sx : Sl}, RN kiV 2 H22 sx (ks'.set (ks'.length / 2) x') → KdsR H22 sx (ks'.set (ks'.length / 2) x') := fun hrn => by
      refine ⟨hrn, fun y hy => ?_, fun y hy => ?_, fun y hy => ?_, fun y hy => ?_, by rw [hsl', h3l]; exact hlk⟩
      · rcases List.mem_or_eq_of_mem_set hy with g | rfl
        · exact ((hN20.el y g).updT hU22' fun b ws hw => hbgT b _ ws hw (by decide)).rl
        · exact hx'R
      · rcases List.mem_or_eq_of_mem_set hy with g | rfl
        · exact hkd20.ll y g
        · exact (show 3 ≤ 2 ^ 60 by decide)
      · rcases List.mem_or_eq_of_mem_set hy with g | rfl
        · exact hkd20.lw y g
        · intro z hz
          simp only [x', List.mem_cons, List.not_mem_nil, or_false] at hz
          rcases hz with rfl | rfl | rfl <;> exact (show 1 ≤ 2 ^ 60 by decide)
      · rcases List.mem_or_eq_of_mem_set hy with g | rfl
        · exact hkd20.ln y g
        · exact hnm0
    refine App_vecN (n := 2) rfl (by omega) (VecN.nil H22 T_api_Kind 2) (ws := (ks'.set (ks'.length / 2) x').flatMap kiV) hpre22.rd (by rw [flat_len kiV_len, hsl', hgl]) (fun w hw => by obtain ⟨y, _, hy⟩ := List.mem_flatMap.1 hw; exact kiV_one y w hy) (by omega) (by simp only; omega) fun l1 H23 hv23 hl23 hU23 ha23 => ?_
    have hE23' : Ext H22 H23 := hU23.mono fun b _ e => by cases e.1
    have hE223 := hE222.trans hE23' fun _ _ h => h
    have hl1R : RN kiV 2 H23 l1 (ks'.set (ks'.length / 2) x') := VecN.rn kiV_len (by omega) (by simpa using hv23)
    refine ⟨q, (kq hE223).rd_all, s_Verify (hqR hE223) ((hK22 hpre22).ext hE23') hI fun v4 H24 hE24 hv4 => s_lfault hv4 ?_⟩
    have hE224 := hE223.trans hE24 fun _ _ h => h
    have hKnow : KdsR H24 l1 (ks'.set (ks'.length / 2) x') := by
      have h1 := (hK22 hpre22).ext (hE23'.trans hE24 fun _ _ h => h)
      exact ⟨hl1R.ext hE24, h1.el, h1.ll, h1.lw, h1.ln, h1.len⟩
    refine ⟨p, (kp hE224).rd_all, s_rVerI (hPx hE224) hKnow fun H26 hE26 => Jn_in ?_⟩
    rw [← verify_eraP he1 he2, foI_true fun a e h => verify_ne h]
    simp only [be]
    exact (Br_true _ _).2 ((Br_true _ _).2 (hk _ ((hE2'.trans hE224 fun _ _ h => h).trans hE26 fun _ _ h => h)))
  rcases ver_row (hv1.ext e410) with hv | ⟨g, a, e, hv, hg, hrow⟩
  · refine .inr ⟨.inl hv, Jn_in ((Br_false _ _).2 (Jn_in ((Br_false _ _).2 (behind H10 (.refl _ _)))))⟩
  · refine .inl ⟨some (adr g), hv, Jn_in ((Br_true _ _).2 (Jn_in ((Br_true _ _).2 ?_)))⟩
    simp only [NilCk_some, adr_add]
    have hg4 : g < H4.size := by
      rcases ver_row hv1 with h | ⟨g', a', e', h1, _, h3⟩
      · rw [hv] at h; cases h
      · rw [hv] at h1; cases h1; exact h3.lt
    refine St_row hrow (by simp) fun H14 hU14 _ hr14 => St_row hr14 (by simp) fun H15 hU15 _ hr15 => behind H15 ((hU14.trans hU15 fun _ _ h => h).mono fun b _ e => ?_)
    subst e
    exact ⟨_, hrow, hg, hg4⟩
end Go.Proofs.YtlkmmplgfjicjaaGreat
/-
  VerifySays.
-/
namespace Go.Proofs.YtlkmmplgfjicjaaGreat
set_option linter.unusedVariables false
set_option linter.unusedSimpArgs false
open Go.Proofs.YtlkmmplgfjicjaaGreat.Hc Go.Proofs.YtlkmmplgfjicjaaGreat.Hc.Vf
set_option maxRecDepth 100000
variable {H : Heap}

def insS (x : Sy) (i : Nat) (v : Ins) : Sy := ⟨x.s, x.l, ⟨x.rou.name, x.rou.params, x.rou.locals, x.rou.sl, x.rou.code.set i v⟩⟩
def insR (x : Rou) (i : Nat) (v : Ins) : Rou := ⟨x.name, x.params, x.locals, x.sl, x.code.set i v⟩
/-- An instruction of a lent row is written. -/
theorem lrow_ins {s : Sl} {c : List Ins} (h : LRow H s c) {i : Nat} (hi : i < c.length) {v : Ins} {k : Heap → Prop} (hk : ∀ B ws H', s.a = some (adr B) → Row H B T_api_Instr ws → Upd (· = B) H H' → H'.size = H.size → LRow H' s (c.set i v) → k H') :
    IxA 2 s (i : Nat) fun a4 => St (a4.add 0) (.int .i64 v.1) H fun H17 => St (a4.add 1) (.int .i64 v.2) H17 fun H18 => k H18 := by
  obtain ⟨B, hB⟩ : ∃ b, s.a = some (adr b) := by
    rcases h.vec.own with ⟨g1, g2, g3⟩ | ⟨b, sp, g1, g2, g3⟩
    · have := congrArg List.length g3
      rw [flat_len insV_len] at this; simp at this
    · exact ⟨b, g1⟩
  have hl := h.len
  refine IxA.mk hB (by omega) (by omega) ?_
  rw [Int.toNat_natCast, adr_add]
  simp only [mk_add, Nat.add_zero]
  have hm0 : i * 2 < ((c ++ List.replicate 8 ((77, 0) : Ins)).flatMap insV).length := by rw [flat_len insV_len]; simp; omega
  refine St_vecN h.vec hB hm0 fun H1 hv1 hU1 z1 => ?_
  refine St_vecN (m := i * 2 + 1) hv1 hB (by rw [List.length_set, flat_len insV_len]; simp; omega) fun H2 hv2 hU2 z2 => ?_
  have hcd : (((c ++ List.replicate 8 ((77, 0) : Ins)).flatMap insV).set (i * 2) (.int .i64 v.1)).set (i * 2 + 1) (.int .i64 v.2) = (c.set i v ++ List.replicate 8 ((77, 0) : Ins)).flatMap insV := by
    have h1 := flat_set insV_len (e' := (v.1, ((c ++ List.replicate 8 ((77, 0) : Ins))[i]'(by simp; omega)).2)) (o := 0) (v := .int .i64 v.1) (es := c ++ List.replicate 8 ((77, 0) : Ins)) (i := i) (by simp; omega) (by omega) rfl
    rw [Nat.add_zero] at h1
    rw [h1]
    have h2 := flat_set insV_len (e' := v) (o := 1) (v := .int .i64 v.2) (es := (c ++ List.replicate 8 ((77, 0) : Ins)).set i (v.1, ((c ++ List.replicate 8 ((77, 0) : Ins))[i]'(by simp; omega)).2)) (i := i) (by simp; omega) (by omega) (by rw [List.getElem_set_self]; rfl)
    rw [h2, List.set_set, List.set_append_left _ _ hi]
  rw [hcd] at hv2
  obtain ⟨ws, hw⟩ := VecN.row h.vec hB
  exact hk B ws H2 hB hw (hU1.trans hU2 fun _ _ h => h) (by omega) ⟨by rw [List.length_set]; exact hv2, by rw [List.length_set]; exact hl⟩
abbrev slsL (ss : List Sy) (fs : List Rou) : List Sl := ss.map (·.rou.sl) ++ fs.map (·.sl)
variable {q : Sl × Sl} {ss : List Sy} {fs : List Rou} {yb : Sy} {fb : Rou}
theorem LentP.away {H' : Heap} (h : LentP H q ss fs yb fb) {B : Nat} {ws : List Value} (hw : Row H B T_api_Instr ws) (hU : Upd (· = B) H H') (hB : ∀ sl ∈ slsL ss fs, sl.a ≠ some (adr B)) : LentP H' q ss fs yb fb := by
  have hne : ∀ c T ws, Row H c T ws → T ≠ T_api_Instr → ¬ c = B := fun c T ws' hc hT => hc.ne hw hT
  have hrow : ∀ {s : Sl} {c : List Ins}, LRow H s c → s.a ≠ some (adr B) → LRow H' s c := fun h hs => ⟨h.vec.upd hU fun b hb e => hs (by rw [← e]; exact hb), h.len⟩
  refine ⟨VecN.updT hU h.sv fun c ws hc => hne c _ ws hc (by decide), h.sl, VecN.updT hU h.fv fun c ws hc => hne c _ ws hc (by decide), h.fl, fun x hx => ⟨fun p hp => ((h.sy x hx).set p hp).updT hU fun c ws hc => hne c _ ws hc (by decide), hrow (h.sy x hx).row (hB _ (List.mem_append.2 (.inl (List.mem_map.2 ⟨x, hx, rfl⟩))))⟩, fun r hr => hrow (h.fn r hr) (hB _ (List.mem_append.2 (.inr (List.mem_map.2 ⟨r, hr, rfl⟩)))), Vec.updT hU h.yb fun c ws hc => hne c _ ws hc (by decide), h.fb⟩
theorem apart_at {l : List Sl} (h : l.Pairwise Apart) {i j : Nat} (hi : i < l.length) (hj : j < l.length) (hne : i ≠ j) : Apart l[i] l[j] := by
  rcases Nat.lt_or_ge i j with g | g
  · exact List.pairwise_iff_getElem.1 h i j hi hj g
  · exact (List.pairwise_iff_getElem.1 h j i hj hi (by omega)).symm
theorem lent_insS (h : LentP H q ss fs yb fb) (hap : (slsL ss fs).Pairwise Apart) {n : Nat} (hn : n < ss.length) {i : Nat} (hi : i < (ss[n]).rou.code.length) {v : Ins} {k : Heap → Prop}
    (hk : ∀ B ws H', (ss[n]).rou.sl.a = some (adr B) → Row H B T_api_Instr ws → Upd (· = B) H H' → LentP H' q (ss.set n (insS ss[n] i v)) fs yb fb → k H') : IxA 2 (ss[n]).rou.sl (i : Nat) fun a4 => St (a4.add 0) (.int .i64 v.1) H fun H17 => St (a4.add 1) (.int .i64 v.2) H17 fun H18 => k H18 := by
  refine lrow_ins (h.sy _ (List.getElem_mem hn)).row hi fun B ws H' hB hw hU hz hL => hk B ws H' hB hw hU ?_
  have hne : ∀ c T ws, Row H c T ws → T ≠ T_api_Instr → ¬ c = B := fun c T ws' hc hT => hc.ne hw hT
  have hrow : ∀ {s : Sl} {c : List Ins}, LRow H s c → s.a ≠ some (adr B) → LRow H' s c := fun h hs => ⟨h.vec.upd hU fun b hb e => hs (by rw [← e]; exact hb), h.len⟩
  have hset : ∀ x ∈ ss, ∀ p, p < 4 → LSet H' (x.s p) (x.l p) := fun x hx p hp => ((h.sy x hx).set p hp).updT hU fun c ws hc => hne c _ ws hc (by decide)
  have hflat : (ss.set n (insS ss[n] i v)).flatMap sysV = ss.flatMap sysV := by
    rw [List.flatMap_def, List.flatMap_def, List.map_set]
    have : sysV (insS ss[n] i v) = (ss.map sysV)[n]'(by simpa using hn) := by simp [insS]
    rw [this, List.set_getElem_self]
  have hsls : ∀ j (hj : j < ss.length), j ≠ n → (ss[j]).rou.sl.a ≠ some (adr B) := fun j hj hjn => by
    have := apart_at hap (i := n) (j := j) (by simp; omega) (by simp; omega) (fun e => hjn e.symm)
    rw [List.getElem_append_left (by simpa using hn), List.getElem_append_left (by simpa using hj), List.getElem_map, List.getElem_map] at this
    exact this B hB
  have hslf : ∀ r ∈ fs, r.sl.a ≠ some (adr B) := fun r hr => by
    have hp := (List.pairwise_append.1 hap).2.2 _ (List.mem_map.2 ⟨ss[n], List.getElem_mem hn, rfl⟩) _ (List.mem_map.2 ⟨r, hr, rfl⟩)
    exact hp B hB
  refine ⟨?_, by rw [List.length_set]; exact h.sl, VecN.updT hU h.fv fun c ws hc => hne c _ ws hc (by decide), h.fl, fun x hx => ?_, fun r hr => hrow (h.fn r hr) (hslf r hr), Vec.updT hU h.yb fun c ws hc => hne c _ ws hc (by decide), h.fb⟩
  · rw [List.length_set, snocF, hflat, ← snocF]
    exact VecN.updT hU h.sv fun c ws hc => hne c _ ws hc (by decide)
  · obtain ⟨j, hj, rfl⟩ := List.getElem_of_mem hx
    rw [List.length_set] at hj
    by_cases e : j = n
    · subst e
      rw [List.getElem_set_self]
      have hs := hset _ (List.getElem_mem hn)
      exact ⟨hs, hL⟩
    · rw [List.getElem_set_ne (fun g => e g.symm)]
      exact ⟨hset _ (List.getElem_mem hj), hrow (h.sy _ (List.getElem_mem hj)).row (hsls j hj e)⟩
theorem lent_insF (h : LentP H q ss fs yb fb) (hap : (slsL ss fs).Pairwise Apart) {n : Nat} (hn : n < fs.length) {i : Nat} (hi : i < (fs[n]).code.length) {v : Ins} {k : Heap → Prop}
    (hk : ∀ B ws H', (fs[n]).sl.a = some (adr B) → Row H B T_api_Instr ws → Upd (· = B) H H' → LentP H' q ss (fs.set n (insR fs[n] i v)) yb fb → k H') : IxA 2 (fs[n]).sl (i : Nat) fun a4 => St (a4.add 0) (.int .i64 v.1) H fun H17 => St (a4.add 1) (.int .i64 v.2) H17 fun H18 => k H18 := by
  refine lrow_ins (h.fn _ (List.getElem_mem hn)) hi fun B ws H' hB hw hU hz hL => hk B ws H' hB hw hU ?_
  have hne : ∀ c T ws, Row H c T ws → T ≠ T_api_Instr → ¬ c = B := fun c T ws' hc hT => hc.ne hw hT
  have hrow : ∀ {s : Sl} {c : List Ins}, LRow H s c → s.a ≠ some (adr B) → LRow H' s c := fun h hs => ⟨h.vec.upd hU fun b hb e => hs (by rw [← e]; exact hb), h.len⟩
  have hflat : (fs.set n (insR fs[n] i v)).flatMap rouV = fs.flatMap rouV := by
    rw [List.flatMap_def, List.flatMap_def, List.map_set]
    have : rouV (insR fs[n] i v) = (fs.map rouV)[n]'(by simpa using hn) := by simp [insR]
    rw [this, List.set_getElem_self]
  have hslf : ∀ j (hj : j < fs.length), j ≠ n → (fs[j]).sl.a ≠ some (adr B) := fun j hj hjn => by
    have := apart_at (List.pairwise_append.1 hap).2.1 (i := n) (j := j) (by simpa using hn) (by simpa using hj) (fun e => hjn e.symm)
    rw [List.getElem_map, List.getElem_map] at this
    exact this B hB
  have hsls : ∀ x ∈ ss, x.rou.sl.a ≠ some (adr B) := fun x hx => by
    have hp := (List.pairwise_append.1 hap).2.2 _ (List.mem_map.2 ⟨x, hx, rfl⟩) _ (List.mem_map.2 ⟨fs[n], List.getElem_mem hn, rfl⟩)
    exact hp.symm B hB
  refine ⟨VecN.updT hU h.sv fun c ws hc => hne c _ ws hc (by decide), h.sl, ?_, by rw [List.length_set]; exact h.fl, fun x hx => ⟨fun p hp => ((h.sy x hx).set p hp).updT hU fun c ws hc => hne c _ ws hc (by decide), hrow (h.sy x hx).row (hsls x hx)⟩, fun r hr => ?_, Vec.updT hU h.yb fun c ws hc => hne c _ ws hc (by decide), h.fb⟩
  · rw [List.length_set, snocF, hflat, ← snocF]
    exact VecN.updT hU h.fv fun c ws hc => hne c _ ws hc (by decide)
  · obtain ⟨j, hj, rfl⟩ := List.getElem_of_mem hr
    rw [List.length_set] at hj
    by_cases e : j = n
    · subst e
      rw [List.getElem_set_self]; exact hL
    · rw [List.getElem_set_ne (fun g => e g.symm)]
      exact hrow (h.fn _ (List.getElem_mem hj)) (hslf j hj e)
/-- What is handed in, from what was lent. -/
theorem LentP.prgI {H0 : Heap} {p : Sl × Sl} {ss0 : List Sy} {fs0 : List Rou} (h : LentP H q ss fs yb fb) (hP : PrgI H0 p ss0 fs0) (hl : ss.length = ss0.length) (hf : fs.length = fs0.length)
    (h1 : ∀ x ∈ ss, (∀ q, q < 4 → (x.l q).length ≤ 2 ^ 44) ∧ (∀ q, q < 4 → ∀ y ∈ x.l q, I64 y) ∧ x.rou.code.length ≤ 2 ^ 43 ∧ I64 x.rou.params ∧ I64 x.rou.locals ∧ (∀ i ∈ x.rou.code, I64 i.1 ∧ I64 i.2) ∧ x.rou.name.size ≤ 2 ^ 47)
    (h2 : ∀ r ∈ fs, r.code.length ≤ 2 ^ 43 ∧ I64 r.params ∧ I64 r.locals ∧ (∀ i ∈ r.code, I64 i.1 ∧ I64 i.2) ∧ r.name.size ≤ 2 ^ 47) : PrgI H q ss fs := by
  refine ⟨rn_pre sysV_len (by omega) h.sv h.sl, fun x hx => ?_, rn_pre rouV_len (by omega) h.fv h.fl, fun r hr => ?_, by rw [hl]; exact hP.sl, by rw [hf]; exact hP.fl⟩
  · obtain ⟨a, b, c, d, e, f, g⟩ := h1 x hx
    exact ⟨fun q hq => ((h.sy x hx).set q hq).rl, a, b, ⟨(h.sy x hx).row.rn, c, d, e, f, g⟩⟩
  · obtain ⟨c, d, e, f, g⟩ := h2 r hr
    exact ⟨(h.fn r hr).rn, c, d, e, f, g⟩
def okS (e : (Nat → List Int) × ByteArray × Int × Int × List Ins) : Prop := (∀ q, q < 4 → (e.1 q).length ≤ 2 ^ 44) ∧ (∀ q, q < 4 → ∀ y ∈ e.1 q, I64 y) ∧ e.2.2.2.2.length ≤ 2 ^ 43 ∧ I64 e.2.2.1 ∧ I64 e.2.2.2.1 ∧ (∀ i ∈ e.2.2.2.2, I64 i.1 ∧ I64 i.2) ∧ e.2.1.size ≤ 2 ^ 47
def okR (e : ByteArray × Int × Int × List Ins) : Prop := e.2.2.2.length ≤ 2 ^ 43 ∧ I64 e.2.1 ∧ I64 e.2.2.1 ∧ (∀ i ∈ e.2.2.2, I64 i.1 ∧ I64 i.2) ∧ e.1.size ≤ 2 ^ 47
theorem PrgI.okS {p : Sl × Sl} (h : PrgI H p ss fs) : ∀ x ∈ ss, okS (eraS x) := fun x hx => by
  have h := h.sysR x hx
  exact ⟨h.lens, h.ints, h.rou.len, h.rou.par, h.rou.loc, h.rou.ins, h.rou.name⟩
theorem PrgI.okR {p : Sl × Sl} (h : PrgI H p ss fs) : ∀ x ∈ fs, okR (eraR x) := fun x hx => by
  have h := h.funR x hx
  exact ⟨h.len, h.par, h.loc, h.ins, h.name⟩
theorem set_map {α β : Type} {f : α → β} {xs ys : List α} (h : xs.map f = ys.map f) {n : Nat} {x y : α} (hxy : f x = f y) : (xs.set n x).map f = (ys.set n y).map f := by
  rw [List.map_set, List.map_set, h, hxy]
theorem all_ins {c : List Ins} {i : Nat} {v : Ins} (h : ∀ y ∈ c, I64 y.1 ∧ I64 y.2) (hv : I64 v.1 ∧ I64 v.2) : ∀ y ∈ c.set i v, I64 y.1 ∧ I64 y.2 := fun x hx => by
  rcases List.mem_or_eq_of_mem_set hx with g | rfl
  · exact h x g
  · exact hv
theorem sysCode {a : Addr} {x : Sy} (h : hcells H a 0 (sysV x)) : hcell H ((a.add 4).add 3) = some (slV x.rou.sl) := by rw [addAdd]; exact sysCells h 7 (by omega)
theorem rouCode {a : Addr} {x : Rou} (h : hcells H a 0 (rouV x)) : hcell H (a.add 3) = some (slV x.sl) := by
  have := hcells_iff.1 h 3 (by simp)
  simpa using this
theorem s_VerifySays {p : Sl × Sl} {ksl : Sl} {ks : List Ki} {ss : List Sy} {fs : List Rou} (hP : PrgI H p ss fs) (hK : KdsR H ksl ks) (hkl : ks.length * 40 ≤ 2 ^ 47) (hll : ∀ x ∈ ks, x.l.length * 16 ≤ 2 ^ 47) {which at' : Int} (hwh : I64 which) (hat : I64 at') {by' : Ins} (hby : I64 by'.1 ∧ I64 by'.2)
    {k : Bool → Heap → Prop} (hk : ∀ H', Ext H H' → k true H') : CallT Pg f_hindcastlaw15_VerifySays [prgA p, .slice ksl.a ksl.len ksl.cap, .int .i64 which, .int .i64 at', .agg #[.int .i64 by'.1, .int .i64 by'.2]] (.one (.c .bool)) H k := by
  refine c_hindcastlaw15_VerifySays p _ _ _ by' ?_
  unfold v_hindcastlaw15_VerifySays
  refine Nw_row (vs := [slV p.1, slV p.2]) fun b1 H1 hb1 hE1 _ hr1 => Nw_row (vs := insV by') fun b2 H2 hb2 hE2 _ hr2 => s_shown fun H3 hE3 => ?_
  have hE3' := (hE1.trans hE2 fun _ _ h => h).trans hE3 fun _ _ h => h
  have g1 : Row H3 b1 T_api_Program [slV p.1, slV p.2] := hE3.row (hE2.row hr1 fun h => h) fun h => h
  have g2 : Row H3 b2 T_api_Instr (insV by') := hE3.row hr2 fun h => h
  refine ⟨p, g1.rd_all, s_lent (hP.ext hE3') fun q ss1 fs1 yb fb H4 hE4 hL4 hlo4 hap4 hslo4 he1 he2 => prog_copy (p := q) fun b3 H7 hb3 hE7 g3 => ?_⟩
  have hE37 : Ext H3 H7 := hE4.trans hE7 fun _ _ h => h
  have hE7' := hE3'.trans hE37 fun _ _ h => h
  have hL7 := hL4.ext hE7
  refine ⟨q, g3.rd_all, p, (hE37.row g1 fun h => h).rd_all, s_says hL7 (hP.ext hE7') he1 he2 (hK.ext hE7') hkl hll fun H8 hE8 => ?_⟩
  have hE38 := hE37.trans hE8 fun _ _ h => h
  have hE8' := hE7'.trans hE8 fun _ _ h => h
  refine Jn_in ((Br_false _ _).2 ((Br_false _ _).2 ?_))
  have g18 := hE38.row g1 fun h => h
  have hsl := hP.sys.len
  have hfl := hP.fun'.len
  have hsn := hP.sl
  have hfn := hP.fl
  simp only [adr_add]
  refine Ld_sl (s := p.1) ((g18.cell 0).trans rfl) (Ld_sl (s := p.2) ((g18.cell 1).trans rfl) (Lt.mk (u := ((ss.length + fs.length : Nat) : Int)) (by rw [wrap_i64_id] <;> omega) (Br.mk (fun _ => hk _ hE8') fun hn0 => ?_)))
  have hn0 := bneI hn0
  refine s_pick hwh (by omega) fun n hn => ⟨p, g18.rd_all, ?_⟩
  have hn2 : n < ss.length + fs.length := by omega
  refine s_lent (hP.ext hE8') fun r ss2 fs2 yb2 fb2 H11 hE11 hL11 hlo11 hap11 hslo11 he3 he4 => prog_copy (p := r) fun b4 H14 hb4 hE14 g4 => ?_
  have hE814 : Ext H8 H14 := hE11.trans hE14 fun _ _ h => h
  have hE14' := hE8'.trans hE814 fun _ _ h => h
  have hE714 : Ext H7 H14 := hE8.trans hE814 fun _ _ h => h
  have hLq14 := hL7.ext hE714
  have hLr14 := hL11.ext hE14
  have z3 := hE3'.size
  have z7 := hE37.size
  have z8 := hE8.size
  have l1 := map_len he1
  have l2 := map_len he2
  have l3 := map_len he3
  have l4 := map_len he4
  have b1x : ∀ {Hx}, Ext H3 Hx → Row Hx b1 T_api_Program [slV p.1, slV p.2] := fun hE => hE.row g1 fun h => h
  have hE314 := hE38.trans hE814 fun _ _ h => h
  -- behind both writes
  have fin : ∀ (ss3 : List Sy) (fs3 : List Rou) (ss4 : List Sy) (fs4 : List Rou) (H15 : Heap), Ext H H15 → Row H15 b3 T_api_Program [slV q.1, slV q.2] → Row H15 b4 T_api_Program [slV r.1, slV r.2] → LentP H15 q ss3 fs3 yb fb → LentP H15 r ss4 fs4 yb2 fb2 → ss3.map eraS = ss4.map eraS → fs3.map eraR = fs4.map eraR → ss4.length = ss.length → fs4.length = fs.length → (∀ x ∈ ss4, okS (eraS x)) → (∀ x ∈ fs4, okR (eraR x)) →
      LdC [.sl, .sl] (adr b3) H15 fun (c9 : Sl × Sl) => LdC [.sl, .sl] (adr b4) H15 fun (c10 : Sl × Sl) =>
        CallT Pg f_hindcastlaw15_says [.agg #[.slice c9.1.a c9.1.len c9.1.cap, .slice c9.2.a c9.2.len c9.2.cap], .agg #[.slice c10.1.a c10.1.len c10.1.cap, .slice c10.2.a c10.2.len c10.2.cap], .slice ksl.a ksl.len ksl.cap] (.one (.c .bool)) H15 fun (r8 : Bool) H26 => k r8 H26 := by
    intro ss3 fs3 ss4 fs4 H15 hE15 k3 k4 hLq hLr e1 e2 e3 e4 o1 o2
    refine ⟨q, k3.rd_all, r, k4.rd_all, s_says hLq (hLr.prgI hP e3 e4 o1 o2) e1 e2 (hK.ext hE15) hkl hll fun H26 hE26 => hk _ (hE15.trans hE26 fun _ _ h => h)⟩
  have g214 : Row H14 b2 T_api_Instr (insV by') := hE314.row g2 fun h => h
  refine Ld_sl (s := p.1) (((b1x hE314).cell 0).trans rfl) ?_
  refine Jn_in (Br_dec (fun hlt => ?_) fun hge => ?_)
  · have hn3 : n < ss.length := by omega
    have hn31 : n < ss1.length := by omega
    have hn32 : n < ss2.length := by omega
    have hPx : ∀ {Hx}, Ext H Hx → PrgR Hx p ss fs := fun hE => hP.prg.ext hE
    have hpa : ∀ {Hx : Heap} {kk : Addr → Prop}, Ext H Hx → (∀ a, hcells Hx a 0 (sysV ss[n]!) → kk a) → IxA 8 p.1 (n : Int) kk := fun hE hkk => IxA_rn' sysV_len (hPx hE).sys (by omega) (j := n) rfl hn3 hkk
    have hmem : ss[n]! ∈ ss := by rw [getElem!_pos ss n hn3]; exact List.getElem_mem hn3
    have hcl : (ss[n]!).rou.sl.len = (ss[n]!).rou.code.length := (hP.sysR _ hmem).rou.code.len
    have hcb := (hP.sysR _ hmem).rou.len
    have e1n := map_at he1 hn31
    have e3n := map_at he3 hn32
    have hc1 : (ss1[n]!).rou.code = (ss[n]!).rou.code := by simp only [eraS, eraR, Prod.mk.injEq] at e1n; exact e1n.2.2.2.2
    have hc2 : (ss2[n]!).rou.code = (ss[n]!).rou.code := by simp only [eraS, eraR, Prod.mk.injEq] at e3n; exact e3n.2.2.2.2
    refine Ld_sl (s := p.1) (((b1x hE314).cell 0).trans rfl) (hpa hE14' fun a1 ha1 => Ld_sl (s := (ss[n]!).rou.sl) (sysCode ha1) (Br.mk (fun _ => hk _ hE14') fun hc0 => ?_))
    have hc0 := bneI hc0
    refine Ld_sl (s := p.1) (((b1x hE314).cell 0).trans rfl) (hpa hE14' fun a2 ha2 => Ld_sl (s := (ss[n]!).rou.sl) (sysCode ha2) (s_pick hat (by omega) fun i hi => ?_))
    have hi1 : i < (ss1[n]!).rou.code.length := by rw [hc1]; omega
    have hi2 : i < (ss2[n]!).rou.code.length := by rw [hc2]; omega
    have g314 : Row H14 b3 T_api_Program [slV q.1, slV q.2] := hE714.row g3 fun h => h
    refine Ld_sl (s := q.1) ((g314.cell 0).trans rfl) (IxA_rn' sysV_len (rn_pre sysV_len (by omega) hLq14.sv hLq14.sl) (by omega) (j := n) rfl hn31 fun a3 ha3 => Ld_sl (s := (ss1[n]!).rou.sl) (sysCode ha3) ⟨by', g214.rd_all, ?_⟩)
    rw [getElem!_pos ss1 n hn31] at hi1 ⊢
    refine lent_insS hLq14 hap4 hn31 hi1 fun B ws H18 hB hw hU18 hLq18 => ?_
    have hBlt : B < H7.size := (hL7.sy _ (List.getElem_mem hn31)).row.vec.lt (b := B) hB
    have hBlo : H3.size ≤ B := hslo4 _ (List.mem_append.2 (.inl (List.mem_map.2 ⟨ss1[n], List.getElem_mem hn31, rfl⟩))) B hB
    have hLr18 : LentP H18 r ss2 fs2 yb2 fb2 := hLr14.away hw hU18 fun sl hsl e => by have := hslo11 sl hsl B e; omega
    have nT : ∀ {b : Nat} {T : TypeId} {ws' : List Value}, Row H14 b T ws' → T ≠ T_api_Instr → Row H18 b T ws' := fun h hT => hU18.row h fun e => by subst e; exact h.ne hw hT rfl
    have g318 := nT g314 (by decide)
    have g418 := nT g4 (by decide)
    have hE318 : Ext H3 H18 := hE314.trans hU18 fun b hb e => by omega
    have hE18' := hE3'.trans hE318 fun _ _ h => h
    have g218 : Row H18 b2 T_api_Instr (insV by') := hE318.row g2 fun h => h
    refine Ld_sl (s := r.1) ((g418.cell 0).trans rfl) (IxA_rn' sysV_len (rn_pre sysV_len (by omega) hLr18.sv hLr18.sl) (by omega) (j := n) rfl hn32 fun a5 ha5 => Ld_sl (s := (ss2[n]!).rou.sl) (sysCode ha5) ⟨by', g218.rd_all, ?_⟩)
    rw [getElem!_pos ss2 n hn32] at hi2 ⊢
    refine lent_insS hLr18 hap11 hn32 hi2 fun B2 ws2 H20 hB2 hw2 hU20 hLr20 => ?_
    have hB2lo : H8.size ≤ B2 := hslo11 _ (List.mem_append.2 (.inl (List.mem_map.2 ⟨ss2[n], List.getElem_mem hn32, rfl⟩))) B2 hB2
    have hLq20 : LentP H20 q (ss1.set n (insS ss1[n] i by')) fs1 yb fb := hLq18.away hw2 hU20 fun sl hsl e => by
      have hlt7 : ∀ sl ∈ slsL ss1 fs1, ∀ b, sl.a = some (adr b) → b < H7.size := fun sl hsl b hb => by
        rcases List.mem_append.1 hsl with g | g
        · obtain ⟨y, hy, rfl⟩ := List.mem_map.1 g
          exact (hL7.sy y hy).row.vec.lt (b := b) hb
        · obtain ⟨y, hy, rfl⟩ := List.mem_map.1 g
          exact (hL7.fn y hy).vec.lt (b := b) hb
      have hsl' : sl ∈ slsL ss1 fs1 := by
        rcases List.mem_append.1 hsl with g | g
        · obtain ⟨y, hy, rfl⟩ := List.mem_map.1 g
          rcases List.mem_or_eq_of_mem_set hy with g | rfl
          · exact List.mem_append.2 (.inl (List.mem_map.2 ⟨y, g, rfl⟩))
          · exact List.mem_append.2 (.inl (List.mem_map.2 ⟨ss1[n], List.getElem_mem hn31, rfl⟩))
        · exact List.mem_append.2 (.inr g)
      have := hlt7 sl hsl' B2 e
      omega
    have nT2 : ∀ {b : Nat} {T : TypeId} {ws' : List Value}, Row H18 b T ws' → T ≠ T_api_Instr → Row H20 b T ws' := fun h hT => hU20.row h fun e => by subst e; exact h.ne hw2 hT rfl
    refine fin _ _ _ _ H20 (hE18'.trans hU20 fun b hb e => by omega) (nT2 g318 (by decide)) (nT2 g418 (by decide)) hLq20 hLr20 ?_ (he2.trans he4.symm) (by rw [List.length_set]; exact l3) l4 ?_ (all_via (f := eraR) he4.symm hP.okR)
    · refine set_map (he1.trans he3.symm) ?_
      rw [getElem!_pos ss1 n hn31] at e1n
      rw [getElem!_pos ss2 n hn32] at e3n
      have e := e1n.trans e3n.symm
      simp only [eraS, eraR, Prod.mk.injEq] at e
      simp only [eraS, eraR, insS, e.1, e.2.1, e.2.2.1, e.2.2.2.1, e.2.2.2.2]
    · have ho := all_via (f := eraS) he3.symm hP.okS
      refine all_set ho ?_
      obtain ⟨a, b, c, d, e, f, g⟩ := ho _ (List.getElem_mem hn32)
      exact ⟨a, b, by show ((ss2[n]).rou.code.set i by').length ≤ _; rw [List.length_set]; exact c, d, e, all_ins f hby, g⟩
  · have hm : n - ss.length < fs.length := by omega
    have hm1 : n - ss.length < fs1.length := by omega
    have hm2 : n - ss.length < fs2.length := by omega
    refine Ld_sl (s := p.1) (((b1x hE314).cell 0).trans rfl) (Lt.mk (u := ((n - ss.length : Nat) : Int)) (by rw [wrap_i64_id] <;> omega) ?_)
    generalize n - ss.length = m at *
    have hPx : ∀ {Hx}, Ext H Hx → PrgR Hx p ss fs := fun hE => hP.prg.ext hE
    have hpa : ∀ {Hx : Heap} {kk : Addr → Prop}, Ext H Hx → (∀ a, hcells Hx a 0 (rouV fs[m]!) → kk a) → IxA 4 p.2 (m : Int) kk := fun hE hkk => IxA_rn' rouV_len (hPx hE).fun' (by omega) (j := m) rfl hm hkk
    have hmem : fs[m]! ∈ fs := by rw [getElem!_pos fs m hm]; exact List.getElem_mem hm
    have hcl : (fs[m]!).sl.len = (fs[m]!).code.length := (hP.funR _ hmem).code.len
    have hcb := (hP.funR _ hmem).len
    have e2n := map_at he2 hm1
    have e4n := map_at he4 hm2
    have hc1 : (fs1[m]!).code = (fs[m]!).code := by simp only [eraR, Prod.mk.injEq] at e2n; exact e2n.2.2.2
    have hc2 : (fs2[m]!).code = (fs[m]!).code := by simp only [eraR, Prod.mk.injEq] at e4n; exact e4n.2.2.2
    refine Ld_sl (s := p.2) (((b1x hE314).cell 1).trans rfl) (hpa hE14' fun a1 ha1 => Ld_sl (s := (fs[m]!).sl) (rouCode ha1) (Br.mk (fun _ => hk _ hE14') fun hc0 => ?_))
    have hc0 := bneI hc0
    refine Ld_sl (s := p.2) (((b1x hE314).cell 1).trans rfl) (hpa hE14' fun a2 ha2 => Ld_sl (s := (fs[m]!).sl) (rouCode ha2) (s_pick hat (by omega) fun i hi => ?_))
    have hi1 : i < (fs1[m]!).code.length := by rw [hc1]; omega
    have hi2 : i < (fs2[m]!).code.length := by rw [hc2]; omega
    have g314 : Row H14 b3 T_api_Program [slV q.1, slV q.2] := hE714.row g3 fun h => h
    refine Ld_sl (s := q.2) ((g314.cell 1).trans rfl) (IxA_rn' rouV_len (rn_pre rouV_len (by omega) hLq14.fv hLq14.fl) (by omega) (j := m) rfl hm1 fun a3 ha3 => Ld_sl (s := (fs1[m]!).sl) (rouCode ha3) ⟨by', g214.rd_all, ?_⟩)
    rw [getElem!_pos fs1 m hm1] at hi1 ⊢
    refine lent_insF hLq14 hap4 hm1 hi1 fun B ws H18 hB hw hU18 hLq18 => ?_
    have hBlt : B < H7.size := (hL7.fn _ (List.getElem_mem hm1)).vec.lt (b := B) hB
    have hBlo : H3.size ≤ B := hslo4 _ (List.mem_append.2 (.inr (List.mem_map.2 ⟨fs1[m], List.getElem_mem hm1, rfl⟩))) B hB
    have hLr18 : LentP H18 r ss2 fs2 yb2 fb2 := hLr14.away hw hU18 fun sl hsl e => by have := hslo11 sl hsl B e; omega
    have nT : ∀ {b : Nat} {T : TypeId} {ws' : List Value}, Row H14 b T ws' → T ≠ T_api_Instr → Row H18 b T ws' := fun h hT => hU18.row h fun e => by subst e; exact h.ne hw hT rfl
    have g318 := nT g314 (by decide)
    have g418 := nT g4 (by decide)
    have hE318 : Ext H3 H18 := hE314.trans hU18 fun b hb e => by omega
    have hE18' := hE3'.trans hE318 fun _ _ h => h
    have g218 : Row H18 b2 T_api_Instr (insV by') := hE318.row g2 fun h => h
    refine Ld_sl (s := r.2) ((g418.cell 1).trans rfl) (IxA_rn' rouV_len (rn_pre rouV_len (by omega) hLr18.fv hLr18.fl) (by omega) (j := m) rfl hm2 fun a5 ha5 => Ld_sl (s := (fs2[m]!).sl) (rouCode ha5) ⟨by', g218.rd_all, ?_⟩)
    rw [getElem!_pos fs2 m hm2] at hi2 ⊢
    refine lent_insF hLr18 hap11 hm2 hi2 fun B2 ws2 H20 hB2 hw2 hU20 hLr20 => ?_
    have hB2lo : H8.size ≤ B2 := hslo11 _ (List.mem_append.2 (.inr (List.mem_map.2 ⟨fs2[m], List.getElem_mem hm2, rfl⟩))) B2 hB2
    have hLq20 : LentP H20 q ss1 (fs1.set m (insR fs1[m] i by')) yb fb := hLq18.away hw2 hU20 fun sl hsl e => by
      have hlt7 : ∀ sl ∈ slsL ss1 fs1, ∀ b, sl.a = some (adr b) → b < H7.size := fun sl hsl b hb => by
        rcases List.mem_append.1 hsl with g | g
        · obtain ⟨y, hy, rfl⟩ := List.mem_map.1 g
          exact (hL7.sy y hy).row.vec.lt (b := b) hb
        · obtain ⟨y, hy, rfl⟩ := List.mem_map.1 g
          exact (hL7.fn y hy).vec.lt (b := b) hb
      have hsl' : sl ∈ slsL ss1 fs1 := by
        rcases List.mem_append.1 hsl with g | g
        · exact List.mem_append.2 (.inl g)
        · obtain ⟨y, hy, rfl⟩ := List.mem_map.1 g
          rcases List.mem_or_eq_of_mem_set hy with g | rfl
          · exact List.mem_append.2 (.inr (List.mem_map.2 ⟨y, g, rfl⟩))
          · exact List.mem_append.2 (.inr (List.mem_map.2 ⟨fs1[m], List.getElem_mem hm1, rfl⟩))
      have := hlt7 sl hsl' B2 e
      omega
    have nT2 : ∀ {b : Nat} {T : TypeId} {ws' : List Value}, Row H18 b T ws' → T ≠ T_api_Instr → Row H20 b T ws' := fun h hT => hU20.row h fun e => by subst e; exact h.ne hw2 hT rfl
    refine fin _ _ _ _ H20 (hE18'.trans hU20 fun b hb e => by omega) (nT2 g318 (by decide)) (nT2 g418 (by decide)) hLq20 hLr20 (he1.trans he3.symm) ?_ l3 (by rw [List.length_set]; exact l4) (all_via (f := eraS) he3.symm hP.okS) ?_
    · refine set_map (he2.trans he4.symm) ?_
      rw [getElem!_pos fs1 m hm1] at e2n
      rw [getElem!_pos fs2 m hm2] at e4n
      have e := e2n.trans e4n.symm
      simp only [eraR, Prod.mk.injEq] at e
      simp only [eraR, insR, e.1, e.2.1, e.2.2.1, e.2.2.2]
    · have ho := all_via (f := eraR) he4.symm hP.okR
      refine all_set ho ?_
      obtain ⟨c, d, e, f, g⟩ := ho _ (List.getElem_mem hm2)
      exact ⟨by show ((fs2[m]).code.set i by').length ≤ _; rw [List.length_set]; exact c, d, e, all_ins f hby, g⟩
end Go.Proofs.YtlkmmplgfjicjaaGreat
/-
  VerifySays over any arguments that can be read.
-/
namespace Go.Proofs.YtlkmmplgfjicjaaGreat
set_option linter.unusedVariables false
set_option linter.unusedSimpArgs false
open Go.Proofs.YtlkmmplgfjicjaaGreat.Hc Go.Proofs.YtlkmmplgfjicjaaGreat.Hc.Vf
set_option maxRecDepth 100000

theorem rd_kindsB {H : Heap} {v : Value} (h : RdV Tryz.prog H 26 v) : ∃ (s : Sl) (ks : List Ki), v = slV s ∧ KdsR H s ks ∧ ks.length * 40 ≤ 2 ^ 47 ∧ ∀ x ∈ ks, x.l.length * 16 ≤ 2 ^ 47 := by
  have c101 : Tryz.prog.cellsOf 63 = 2 := by kernel_rfl
  have b101 : Tryz.prog.bytesOf 63 = 40 := by kernel_rfl
  have c9 : Tryz.prog.cellsOf 9 = 1 := by kernel_rfl
  have b9 : Tryz.prog.bytesOf 9 = 16 := by kernel_rfl
  obtain ⟨f, hc⟩ := rd_cell Tryz.underlying26 rfl h
  have := reach47
  obtain ⟨s, ks, e, h1, h2, h3⟩ := rdC_rows Tryz.underlying26 c101 kiV_len (Q := fun x : Ki => RL Value.string H x.s x.l ∧ x.l.length * 16 ≤ 2 ^ 47 ∧ (∀ y ∈ x.l, y.size ≤ 2 ^ 60) ∧ x.name.size ≤ 2 ^ 60) (fun f cs hh => by
    obtain ⟨y0, y1, rfl, f', g0, g1⟩ := rdS_api_Kind hh
    obtain ⟨n, e0, hn⟩ := rdC_string Tryz.underlying9 g0
    obtain ⟨t, xs, e1, ht, hq, hcap, _⟩ := rdC_list Tryz.underlying61 c9 (g := Value.string) (Q := fun y : ByteArray => y.size ≤ 2 ^ 60) (fun f cs hh => by
      obtain ⟨n, e0, hn⟩ := rdC_string Tryz.underlying9 hh
      exact ⟨n, e0, by omega⟩) g1
    simp only [List.cons.injEq, and_true] at e0
    subst e0 e1
    rw [b9] at hcap
    have g1 := ht.len
    have g2 := ht.cap
    exact ⟨⟨n, t, xs⟩, rfl, ht, by show xs.length * 16 ≤ _; omega, hq, by show n.size ≤ _; omega⟩) hc
  rw [b101] at h3
  have g1 := h1.len
  have g2 := h1.cap
  exact ⟨s, ks, e, ⟨h1, fun x hx => (h2 x hx).1, fun x hx => by have := (h2 x hx).2.1; omega, fun x hx => (h2 x hx).2.2.1, fun x hx => (h2 x hx).2.2.2, by omega⟩, by omega, fun x hx => (h2 x hx).2.1⟩
theorem rd_ins {H : Heap} {v : Value} (h : RdV Tryz.prog H 28 v) : ∃ i : Ins, v = .agg #[.int .i64 i.1, .int .i64 i.2] ∧ I64 i.1 ∧ I64 i.2 := by
  obtain ⟨f, cs, rfl, hr⟩ := rd_struct Tryz.underlying28 h
  obtain ⟨y0, y1, rfl, f', g0, g1⟩ := rdS_api_Instr hr
  obtain ⟨a, e0, ha⟩ := rdC_i64 Tryz.underlying3 g0
  obtain ⟨b, e1, hb⟩ := rdC_i64 Tryz.underlying2 g1
  simp only [List.cons.injEq, and_true] at e0 e1
  subst e0 e1
  exact ⟨(a, b), rfl, ha, hb⟩
theorem w_VerifySays {H : Heap} (v0 v1 v2 v3 v4 : Value) (r0 : RdV Tryz.prog H 25 v0) (r1 : RdV Tryz.prog H 26 v1) (r2 : RdV Tryz.prog H 3 v2) (r3 : RdV Tryz.prog H 3 v3) (r4 : RdV Tryz.prog H 28 v4) :
    CallT Tryz.prog 3 [v0, v1, v2, v3, v4] (.one (.c .bool)) H (fun b H' => b = true ∧ Ext H H') := by
  obtain ⟨p, ss, fs, rfl, hP⟩ := rd_prog r0
  obtain ⟨ksl, ks, rfl, hK, hkl, hll⟩ := rd_kindsB r1
  obtain ⟨n, rfl, hn⟩ := rd_i64 Tryz.underlying3 r2
  obtain ⟨m, rfl, hm⟩ := rd_i64 Tryz.underlying3 r3
  obtain ⟨i, rfl, hi⟩ := rd_ins r4
  exact s_VerifySays hP hK hkl hll hn hm hi fun H' h => ⟨rfl, h⟩
end Go.Proofs.YtlkmmplgfjicjaaGreat
