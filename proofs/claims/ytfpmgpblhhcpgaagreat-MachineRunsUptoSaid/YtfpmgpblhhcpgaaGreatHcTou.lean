/-
  Machine: a program with lists of its own.
-/
import Derived.Test.YtfpmgpblhhcpgaaGreatVLawC
import Derived.Test.YtfpmgpblhhcpgaaGreatRd
import Derived.Test.YtfpmgpblhhcpgaaGreatHcLists
import Derived.Test.YtfpmgpblhhcpgaaGreatVA
namespace Go.Proofs.YtfpmgpblhhcpgaaGreat
set_option linter.unusedVariables false
set_option linter.unusedSimpArgs false
set_option maxRecDepth 100000
section
open Hc Hc.Vf Hc.Mc Hc.Dice
variable {H : Heap}
abbrev mkC : Ins := (-7, 0)
abbrev markC (c : List Ins) : List Ins := c ++ List.replicate 80 mkC
theorem insV_one (x : Ins) : ∀ w ∈ insV x, w.oneCell' = true := fun w hw => by
  simp only [insV, List.mem_cons, List.not_mem_nil, or_false] at hw
  rcases hw with rfl | rfl <;> rfl
def CpL (lo : Nat) (H : Heap) (s : Sl) (xs : List Int) : Prop := ∃ b, s = ⟨some (adr b), xs.length, xs.length + 80⟩ ∧ Row H b T_int (ints (markV xs)) ∧ lo ≤ b
def CpC (lo : Nat) (H : Heap) (s : Sl) (c : List Ins) : Prop := ∃ b, s = ⟨some (adr b), c.length, c.length + 80⟩ ∧ Row H b T_api_Instr ((markC c).flatMap insV) ∧ lo ≤ b
theorem CpL.upd {lo : Nat} {H' : Heap} {s : Sl} {xs : List Int} (h : CpL lo H s xs) {M : Nat → Prop} (hU : Upd M H H') (hM : ∀ b ws, lo ≤ b → Row H b T_int ws → ¬ M b) : CpL lo H' s xs := by
  obtain ⟨b, h1, h2, h3⟩ := h
  exact ⟨b, h1, hU.row h2 (hM b _ h3 h2), h3⟩
theorem CpC.upd {lo : Nat} {H' : Heap} {s : Sl} {c : List Ins} (h : CpC lo H s c) {M : Nat → Prop} (hU : Upd M H H') (hM : ∀ b ws, lo ≤ b → Row H b T_api_Instr ws → ¬ M b) : CpC lo H' s c := by
  obtain ⟨b, h1, h2, h3⟩ := h
  exact ⟨b, h1, hU.row h2 (hM b _ h3 h2), h3⟩
theorem CpL.mono {lo lo' : Nat} {s : Sl} {xs : List Int} (h : CpL lo H s xs) (hl : lo' ≤ lo) : CpL lo' H s xs := by
  obtain ⟨b, h1, h2, h3⟩ := h
  exact ⟨b, h1, h2, Nat.le_trans hl h3⟩
theorem CpC.mono {lo lo' : Nat} {s : Sl} {c : List Ins} (h : CpC lo H s c) (hl : lo' ≤ lo) : CpC lo' H s c := by
  obtain ⟨b, h1, h2, h3⟩ := h
  exact ⟨b, h1, h2, Nat.le_trans hl h3⟩
theorem CpL.rl {lo : Nat} {s : Sl} {xs : List Int} (h : CpL lo H s xs) : RL (Value.int .i64) H s xs := by
  obtain ⟨b, h1, h2, _⟩ := h
  rw [h1]
  have h2 : Row H b T_int (ints (xs ++ List.replicate 80 (-7))) := h2
  rw [ints, List.map_append] at h2
  exact ⟨h2.rd, rfl, Nat.le_add_right _ _⟩
theorem CpC.rn {lo : Nat} {s : Sl} {c : List Ins} (h : CpC lo H s c) : RN insV 2 H s c := by
  obtain ⟨b, h1, h2, _⟩ := h
  rw [h1]
  rw [List.flatMap_append] at h2
  exact ⟨h2.rd, rfl, Nat.le_add_right _ _⟩
abbrev SlR : RTy := .one (.c .sl)
abbrev RouR : RTy := .one (.agg [.str, (.int .i64), (.int .i64), .sl])
abbrev PrgT : RTy := .one (.agg [.sl, .sl])
theorem s_set {l : Sl} {xs : List Int} (hx : RL (Value.int .i64) H l xs) (hl : xs.length ≤ 2 ^ 44) {k : Sl → Heap → Prop} (hk : ∀ H' s, Ext H H' → CpL H.size H' s xs → k s H') :
    CallT Pg f_L_set [.slice l.a l.len l.cap] SlR H k := by
  refine c_L_set l ?_
  unfold v_L_set
  have hxl := hx.len
  refine Lt.mk (u := ((xs.length + 80 : Nat) : Int)) (by rw [wrap_i64_id] <;> omega) ?_
  refine Mks_rep (f := fun x : Int => [Value.int .i64 x]) (e := 0) (m := xs.length + 80) rfl rfl (by omega) (by omega) fun bv H1 hbv hE1 hz1 hr1 => ?_
  have e15 : (⟨some (adr bv), xs.length + 80, xs.length + 80⟩ : Sl) = ⟨some (adr bv), (List.replicate (xs.length + 80) (0 : Int)).length, xs.length + 80⟩ := by rw [List.length_replicate]
  rw [e15]
  refine Cpy_rn (f := fun x : Int => [Value.int .i64 x]) (n := 1) (fun _ => rfl) (fun x w hw => by rw [List.mem_singleton.1 hw]; rfl) hr1 (hx.ext hE1).rn1 (by rw [List.length_replicate]; omega) fun H2 hU2 hz2 hr2 => ?_
  rw [List.drop_replicate, show xs.length + 80 - xs.length = 80 by omega, ← ints_flat] at hr2
  rw [← e15, hxl]
  refine fill_ints hr2 (m := xs.length + 80) (n := xs.length) (c := xs.length + 80) (xs := xs) (by simp) (by rw [List.take_left]) rfl (by omega) (by omega) fun H3 hU3 hz3 hr3 => ?_
  rw [show xs.length + 80 - xs.length = 80 by omega] at hr3
  refine SlA0 (by omega) (by first | omega | (dsimp only; omega)) (Int.le_refl _) ?_
  have hU : Upd (· = bv) H1 H3 := hU2.trans hU3 fun _ _ e => e
  refine hk _ _ (extUpd hE1 (by omega) hU) ⟨bv, ?_, hr3, by omega⟩
  simp only [Int.toNat_natCast]
theorem s_routine {r : Rou} (hx : CodeR H r) (hl : r.code.length ≤ 2 ^ 43) {k : ByteArray × Int × Int × Sl → Heap → Prop} (hk : ∀ H' s, Ext H H' → CpC H.size H' s r.code → k (r.name, r.params, r.locals, s) H') :
    CallT Pg f_L_routine [.agg #[.string r.name, .int .i64 r.params, .int .i64 r.locals, .slice r.sl.a r.sl.len r.sl.cap]] RouR H k := by
  refine c_L_routine (r.name, r.params, r.locals, r.sl) ?_
  unfold v_L_routine
  have hxl := hx.len
  generalize hn : r.code.length = n at *
  refine Nw_row (vs := rouV r) fun b1 H1 hb1 hE1 hz1 hr1 => ?_
  refine Nw_row (vs := [.string ByteArray.empty, .int .i64 0, .int .i64 0, .slice none 0 0]) fun b2 H2 hb2 hE2 hz2 hr2 => ?_
  have hE02 := hE1.trans hE2 fun _ _ h => h
  have hr1 := hE2.row hr1 fun h => h
  simp only [adr_add, mk_add]
  refine Ld_sl (s := r.sl) ((hr1.cell 3).trans rfl) (Lt.mk (u := ((n + 80 : Nat) : Int)) (by rw [wrap_i64_id] <;> omega) ?_)
  refine Mks_rep (f := insV) (e := (0, 0)) (m := n + 80) rfl rfl (by omega) (by omega) fun bi H3 hbi hE3 hz3 hr3 => ?_
  have hE03 := hE02.trans hE3 fun _ _ h => h
  have hr1 := hE3.row hr1 fun h => h
  have hr2 := hE3.row hr2 fun h => h
  refine Ld_sl (s := r.sl) ((hr1.cell 3).trans rfl) ?_
  have e3 : (⟨some (adr bi), n + 80, n + 80⟩ : Sl) = ⟨some (adr bi), (List.replicate (n + 80) ((0, 0) : Ins)).length, n + 80⟩ := by rw [List.length_replicate]
  rw [e3]
  refine Cpy_rn insV_len insV_one hr3 (hx.ext hE03) (by rw [List.length_replicate]; omega) fun H4 hU4 hz4 hr4 => ?_
  rw [List.drop_replicate, hn, show n + 80 - n = 80 by omega] at hr4
  rw [← e3]
  have hs03 := hE1.size
  have n1 : b1 ≠ bi := by omega
  have n2 : b2 ≠ bi := by omega
  have hr1 := hU4.row hr1 n1
  have hr2 := hU4.row hr2 n2
  have hE04 : Ext H H4 := extUpd hE03 (by omega) hU4
  refine Ld_sl (s := r.sl) ((hr1.cell 3).trans rfl) ?_
  have ht : (markC r.code).length = n + 80 := by rw [List.length_append, List.length_replicate, hn]
  refine LoopT.mk (fun s H' => ∃ (i : Nat) (ys : List Ins), s = i ∧ n ≤ i ∧ i ≤ n + 80 ∧ Upd (· = bi) H4 H' ∧ H'.size = H4.size ∧ Row H' bi T_api_Instr (ys.flatMap insV) ∧ ys.length = n + 80 ∧ ys.take i = (markC r.code).take i) (fun s _ => n + 80 - s.toNat)
    ⟨n, _, by rw [hxl], Nat.le_refl _, by omega, .refl _ _, rfl, hr4, by rw [List.length_append, List.length_replicate, hn], by rw [← hn, List.take_left, List.take_left]⟩ ?_
  rintro next _ H5 ⟨i, ys, rfl, hi1, hi2, hU5, hz5, hr5, hyl, hye⟩ hnext
  have r1 := hU5.row hr1 n1
  have r2 := hU5.row hr2 n2
  refine Br_dec (fun hlt => ?_) fun hge => ?_
  · have hi : i < n + 80 := by first | omega | (dsimp only at hlt; omega)
    refine IxA_adr (by omega) (by first | omega | (dsimp only at hlt; omega)) ?_
    rw [Int.toNat_natCast]
    simp only [mk_add]
    have hfl : (ys.flatMap insV).length = ys.length * 2 := flat_len insV_len
    refine St_row hr5 (by rw [hfl]; omega) fun H6 hU6 hz6 hr6 => ?_
    rw [flat_set insV_len (e' := (-7, (ys[i]'(by omega)).2)) (i := i) (o := 0) (by omega) (by decide) rfl] at hr6
    refine St_row hr6 (by rw [flat_len insV_len, List.length_set]; omega) fun H7 hU7 hz7 hr7 => ?_
    rw [flat_set insV_len (e' := mkC) (i := i) (o := 1) (by rw [List.length_set]; omega) (by decide) (by rw [List.getElem_set_self]; rfl), List.set_set] at hr7
    refine Lt.mk (u := ((i + 1 : Nat) : Int)) (by rw [wrap_i64_id] <;> omega) (hnext _ _ ⟨i + 1, _, rfl, by omega, by omega, (hU5.trans hU6 fun _ _ e => e).trans hU7 fun _ _ e => e, by omega, hr7, by rw [List.length_set]; exact hyl, ?_⟩ (by omega))
    have e : (markC r.code)[i]'(by omega) = mkC := by rw [List.getElem_append_right (by omega)]; exact List.getElem_replicate _
    have := fill_set (t := markC r.code) (ys := ys) (i := i) (by omega) (by omega) hye
    rwa [e] at this
  have hi : i = n + 80 := by first | omega | (dsimp only at hge; omega)
  rw [List.take_of_length_le (by omega), List.take_of_length_le (by omega)] at hye
  subst hye
  have hE05 : Ext H H5 := extUpd hE04 (by omega) hU5
  refine Ld_sl (s := r.sl) ((r1.cell 3).trans rfl) ?_
  rw [hxl]
  refine SlA0 (by omega) (by first | omega | (dsimp only; omega)) (Int.le_refl _) ?_
  simp only [Int.toNat_natCast]
  refine St_row r1 (by simp) fun H6 hU6 hz6 hr6 => ?_
  have hr6 : Row H6 b1 T_api_Routine (rouV ⟨r.name, r.params, r.locals, ⟨some (adr bi), n, n + 80⟩, r.code⟩) := hr6
  refine ⟨(r.name, r.params, r.locals, ⟨some (adr bi), n, n + 80⟩), hr6.rd_all, ?_⟩
  have b12 : b2 ≠ b1 := by omega
  have r2 := hU6.row r2 b12
  refine St_row r2 (by simp) fun G1 hV1 _ hg1 => St_row hg1 (by simp) fun G2 hV2 _ hg2 => St_row hg2 (by simp) fun G3 hV3 _ hg3 => St_row hg3 (by simp) fun G4 hV4 _ hg4 => ?_
  have hg4 : Row G4 b2 T_api_Routine (rouV ⟨r.name, r.params, r.locals, ⟨some (adr bi), n, n + 80⟩, r.code⟩) := hg4
  refine ⟨(r.name, r.params, r.locals, ⟨some (adr bi), n, n + 80⟩), hg4.rd_all, ?_⟩
  have hUV : Upd (fun b => b = b1 ∨ b = b2) H5 G4 := (hU6.mono fun _ _ e => .inl e).trans ((((hV1.trans hV2 fun _ _ e => e).trans hV3 fun _ _ e => e).trans hV4 fun _ _ e => e).mono fun _ _ e => .inr e) fun _ _ e => e
  refine hk G4 ⟨some (adr bi), n, n + 80⟩ (hE05.trans hUV fun b hb e => by rcases e with e | e <;> omega) ⟨bi, by rw [hn], hUV.row hr5 fun e => by rcases e with e | e <;> omega, by omega⟩
end
end Go.Proofs.YtfpmgpblhhcpgaaGreat
namespace Go.Proofs.YtfpmgpblhhcpgaaGreat.Hc
set_option linter.unusedVariables false
set_option linter.unusedSimpArgs false
set_option maxRecDepth 100000
def StS (b : Nat) : Nat → List Value → Heap → (Heap → Prop) → Prop
  | _, [], H, K => K H
  | o, v :: vs, H, K => St ⟨b, o, none⟩ v H fun H' => StS b (o + 1) vs H' K
theorem list_set_at {α : Type} {A B : List α} {x v : α} : (A ++ x :: B).set A.length v = A ++ v :: B := by
  rw [List.set_append_right _ _ (Nat.le_refl _), Nat.sub_self]; rfl
theorem StS_row {b : Nat} {T : TypeId} : ∀ {ws xs A B : List Value} {H : Heap} {K : Heap → Prop}, Row H b T (A ++ xs ++ B) → xs.length = ws.length → (∀ H', Upd (· = b) H H' → H'.size = H.size → Row H' b T (A ++ ws ++ B) → K H') → StS b A.length ws H K
  | [], xs, A, B, H, K, hr, hl, hK => by
    have : xs = [] := List.eq_nil_of_length_eq_zero hl
    subst this
    exact hK H (.refl _ _) rfl hr
  | w :: ws, [], A, B, H, K, hr, hl, hK => by cases hl
  | w :: ws, x :: xs, A, B, H, K, hr, hl, hK => by
    have hr : Row H b T (A ++ x :: (xs ++ B)) := by simpa using hr
    refine St_row hr (by simp) fun H1 hU1 hz1 hr1 => ?_
    rw [list_set_at] at hr1
    have hr2 : Row H1 b T ((A ++ [w]) ++ xs ++ B) := by simpa using hr1
    have := StS_row (ws := ws) (K := K) hr2 (by simpa using hl) fun H2 hU2 hz2 hr3 => hK H2 (hU1.trans hU2 fun _ _ e => e) (by omega) (by simpa using hr3)
    rw [List.length_append] at this
    exact this
theorem St_put {α : Type} {f : α → List Value} {n : Nat} (hf : ∀ e, (f e).length = n) {b i : Nat} {T : TypeId} {ys : List α} {x : α} {H : Heap} {K : Heap → Prop} (hr : Row H b T (ys.flatMap f)) (hi : i < ys.length)
    (hK : ∀ H', Upd (· = b) H H' → H'.size = H.size → Row H' b T ((ys.set i x).flatMap f) → K H') : StS b (i * n) (f x) H K := by
  have e : ys = ys.take i ++ ys[i] :: ys.drop (i + 1) := by rw [List.getElem_cons_drop, List.take_append_drop]
  have e2 : ys.set i x = ys.take i ++ x :: ys.drop (i + 1) := by
    rw [List.set_eq_take_append_cons_drop, if_pos hi]
  have hA : ((ys.take i).flatMap f).length = i * n := by rw [flat_len hf, List.length_take, Nat.min_eq_left (by omega)]
  rw [← hA]
  have hr' : Row H b T ((ys.take i).flatMap f ++ f ys[i] ++ (ys.drop (i + 1)).flatMap f) := by
    rw [show ys.flatMap f = (ys.take i ++ ys[i] :: ys.drop (i + 1)).flatMap f from congrArg _ e, List.flatMap_append, List.flatMap_cons, ← List.append_assoc] at hr
    exact hr
  refine StS_row hr' (by rw [hf, hf]) fun H' hU hz h => hK H' hU hz ?_
  rw [e2, List.flatMap_append, List.flatMap_cons, ← List.append_assoc]
  exact h
end Go.Proofs.YtfpmgpblhhcpgaaGreat.Hc
namespace Go.Proofs.YtfpmgpblhhcpgaaGreat
set_option linter.unusedVariables false
set_option linter.unusedSimpArgs false
set_option maxRecDepth 100000
section
open Hc Hc.Vf Hc.Mc Hc.Dice
variable {H : Heap}
abbrev mkName : ByteArray := ⟨#[109, 97, 114, 107]⟩
abbrev nilS : Sl := ⟨none, 0, 0⟩
abbrev mkR : Rou := ⟨mkName, 0, 0, nilS, []⟩
abbrev mkS : Sy := ⟨fun _ => nilS, fun _ => [], mkR⟩
abbrev markS (l : List Sy) : List Sy := l ++ List.replicate 80 mkS
abbrev markR (l : List Rou) : List Rou := l ++ List.replicate 80 mkR
abbrev rouP (r : Rou) : ByteArray × Int × Int × List Ins := (r.name, r.params, r.locals, r.code)
abbrev sysP (x : Sy) : List Int × List Int × List Int × List Int × ByteArray × Int × Int × List Ins := (x.l 0, x.l 1, x.l 2, x.l 3, rouP x.rou)
structure CpY (lo : Nat) (H : Heap) (x : Sy) : Prop where
  sets : ∀ q, q < 4 → CpL lo H (x.s q) (x.l q)
  code : CpC lo H x.rou.sl x.rou.code
theorem CpY.upd {lo : Nat} {H' : Heap} {x : Sy} (h : CpY lo H x) {M : Nat → Prop} (hU : Upd M H H') (h1 : ∀ b ws, lo ≤ b → Row H b T_int ws → ¬ M b) (h2 : ∀ b ws, lo ≤ b → Row H b T_api_Instr ws → ¬ M b) : CpY lo H' x :=
  ⟨fun q hq => (h.sets q hq).upd hU h1, h.code.upd hU h2⟩
theorem CpY.mono {lo lo' : Nat} {x : Sy} (h : CpY lo H x) (hl : lo' ≤ lo) : CpY lo' H x := ⟨fun q hq => (h.sets q hq).mono hl, h.code.mono hl⟩
structure CpP (lo : Nat) (H : Heap) (bs bf : Nat) (ss : List Sy) (fs : List Rou) : Prop where
  sys : Row H bs T_api_System ((markS ss).flatMap sysV)
  fun' : Row H bf T_api_Routine ((markR fs).flatMap rouV)
  sysR : ∀ x ∈ ss, CpY lo H x
  funR : ∀ r ∈ fs, CpC lo H r.sl r.code
  ap : ((ss.map (·.rou.sl)) ++ fs.map (·.sl)).Pairwise Apart
  bs : lo ≤ bs
  bf : lo ≤ bf
abbrev cpQ (bs bf n m : Nat) : Sl × Sl := (⟨some (adr bs), n, n + 80⟩, ⟨some (adr bf), m, m + 80⟩)
theorem CpP.upd {lo : Nat} {H' : Heap} {bs bf : Nat} {ss : List Sy} {fs : List Rou} (h : CpP lo H bs bf ss fs) {M : Nat → Prop} (hU : Upd M H H') (hM : ∀ b, lo ≤ b → b < H.size → ¬ M b) : CpP lo H' bs bf ss fs :=
  ⟨hU.row h.sys (hM _ h.bs h.sys.lt), hU.row h.fun' (hM _ h.bf h.fun'.lt), fun x hx => (h.sysR x hx).upd hU (fun b ws hb hw => hM b hb hw.lt) fun b ws hb hw => hM b hb hw.lt, fun r hr => (h.funR r hr).upd hU fun b ws hb hw => hM b hb hw.lt, h.ap, h.bs, h.bf⟩
theorem CpP.ext {lo : Nat} {H' : Heap} {bs bf : Nat} {ss : List Sy} {fs : List Rou} (h : CpP lo H bs bf ss fs) (hE : Ext H H') : CpP lo H' bs bf ss fs := h.upd hE fun _ _ _ h => h
theorem sy_ints {x y : Sy} (h : sysP x = sysP y) {q : Nat} (hq : q < 4) : x.l q = y.l q := by
  simp only [sysP, Prod.mk.injEq] at h
  match q, hq with
  | 0, _ => exact h.1
  | 1, _ => exact h.2.1
  | 2, _ => exact h.2.2.1
  | 3, _ => exact h.2.2.2.1
theorem rou_of {H0 : Heap} {lo : Nat} {r r' : Rou} (h : RouI H0 r) (hc : CpC lo H r'.sl r'.code) (he : rouP r' = rouP r) : RouI H r' := by
  simp only [rouP, Prod.mk.injEq] at he
  obtain ⟨e1, e2, e3, e4⟩ := he
  exact ⟨hc.rn, by rw [e4]; exact h.len, by rw [e2]; exact h.par, by rw [e3]; exact h.loc, by rw [e4]; exact h.ins, by rw [e1]; exact h.name⟩
theorem mem_map_eq {α β γ : Type} {f : α → γ} {g : β → γ} {l : List α} {m : List β} (h : l.map f = m.map g) {x : α} (hx : x ∈ l) : ∃ y ∈ m, f x = g y := by
  have : f x ∈ m.map g := by rw [← h]; exact List.mem_map.2 ⟨x, hx, rfl⟩
  obtain ⟨y, hy, e⟩ := List.mem_map.1 this
  exact ⟨y, hy, e.symm⟩
theorem CpP.prgI {H0 : Heap} {lo bs bf : Nat} {p : Sl × Sl} {ss ss' : List Sy} {fs fs' : List Rou} (hP : PrgI H0 p ss fs) (h : CpP lo H bs bf ss' fs') (hs : ss'.map sysP = ss.map sysP) (hf : fs'.map rouP = fs.map rouP) : PrgI H (cpQ bs bf ss.length fs.length) ss' fs' := by
  have l1 : ss'.length = ss.length := by simpa using congrArg List.length hs
  have l2 : fs'.length = fs.length := by simpa using congrArg List.length hf
  refine ⟨?_, fun x hx => ?_, ?_, fun r hr => ?_, by rw [l1]; exact hP.sl, by rw [l2]; exact hP.fl⟩
  · have := h.sys
    rw [List.flatMap_append] at this
    exact ⟨this.rd, l1.symm, Nat.le_add_right _ _⟩
  · obtain ⟨y, hy, e⟩ := mem_map_eq hs hx
    have hY := hP.sysR y hy
    have hX := h.sysR x hx
    exact ⟨fun q hq => (hX.sets q hq).rl, fun q hq => by rw [sy_ints e hq]; exact hY.lens q hq, fun q hq => by rw [sy_ints e hq]; exact hY.ints q hq, rou_of hY.rou hX.code (by simp only [sysP, Prod.mk.injEq] at e; exact Prod.ext e.2.2.2.2.1 (Prod.ext e.2.2.2.2.2.1 (Prod.ext e.2.2.2.2.2.2.1 e.2.2.2.2.2.2.2)))⟩
  · have := h.fun'
    rw [List.flatMap_append] at this
    exact ⟨this.rd, l2.symm, Nat.le_add_right _ _⟩
  · obtain ⟨y, hy, e⟩ := mem_map_eq hf hr
    exact rou_of (hP.funR y hy) (h.funR r hr) e
theorem St8 {b i : Nat} {ys : List Sy} {x : Sy} {K : Heap → Prop} (hr : Row H b T_api_System (ys.flatMap sysV)) (hi : i < ys.length) (hK : ∀ H', Upd (· = b) H H' → H'.size = H.size → Row H' b T_api_System ((ys.set i x).flatMap sysV) → K H') :
    St ⟨b, i * 8 + 0, none⟩ (slV (x.s 0)) H fun H1 => St ⟨b, i * 8 + 1, none⟩ (slV (x.s 1)) H1 fun H2 => St ⟨b, i * 8 + 2, none⟩ (slV (x.s 2)) H2 fun H3 => St ⟨b, i * 8 + 3, none⟩ (slV (x.s 3)) H3 fun H4 =>
    St ⟨b, i * 8 + 4, none⟩ (.string x.rou.name) H4 fun H5 => St ⟨b, i * 8 + 5, none⟩ (.int .i64 x.rou.params) H5 fun H6 => St ⟨b, i * 8 + 6, none⟩ (.int .i64 x.rou.locals) H6 fun H7 => St ⟨b, i * 8 + 7, none⟩ (slV x.rou.sl) H7 fun H8 => K H8 :=
  St_put (f := sysV) (x := x) sysV_len hr hi hK
theorem St4 {b i : Nat} {ys : List Rou} {x : Rou} {K : Heap → Prop} (hr : Row H b T_api_Routine (ys.flatMap rouV)) (hi : i < ys.length) (hK : ∀ H', Upd (· = b) H H' → H'.size = H.size → Row H' b T_api_Routine ((ys.set i x).flatMap rouV) → K H') :
    St ⟨b, i * 4 + 0, none⟩ (.string x.name) H fun H1 => St ⟨b, i * 4 + 1, none⟩ (.int .i64 x.params) H1 fun H2 => St ⟨b, i * 4 + 2, none⟩ (.int .i64 x.locals) H2 fun H3 => St ⟨b, i * 4 + 3, none⟩ (slV x.sl) H3 fun H4 => K H4 :=
  St_put (f := rouV) (x := x) rouV_len hr hi hK
end
section
open Hc Hc.Vf Hc.Mc Hc.Dice
variable {H : Heap}
theorem s_program {p : Sl × Sl} {ss : List Sy} {fs : List Rou} (hP : PrgI H p ss fs) {k : Sl × Sl → Heap → Prop}
    (hk : ∀ H' bs bf ss' fs', Ext H H' → CpP H.size H' bs bf ss' fs' → ss'.map sysP = ss.map sysP → fs'.map rouP = fs.map rouP → k (cpQ bs bf ss.length fs.length) H') :
    CallT Pg f_L_program [prgA p] PrgT H k := by
  refine c_L_program p ?_
  unfold v_L_program
  have hsl := hP.sys.len
  have hfl := hP.fun'.len
  have hsz := hP.sl
  have hfz := hP.fl
  generalize hn : ss.length = n at *
  generalize hm : fs.length = m at *
  refine Nw_row (vs := [slV p.1, slV p.2]) fun b1 H1 hb1 hE1 hz1 hr1 => ?_
  refine Nw_row (vs := [.slice none 0 0, .slice none 0 0]) fun b2 H2 hb2 hE2 hz2 hr2 => ?_
  have hE02 := hE1.trans hE2 fun _ _ h => h
  have hr1 := hE2.row hr1 fun h => h
  simp only [adr_add, mk_add]
  refine Ld_sl (s := p.1) ((hr1.cell 0).trans rfl) (Lt.mk (u := ((n + 80 : Nat) : Int)) (by rw [wrap_i64_id] <;> omega) ?_)
  refine Mks_rep (f := sysV) (e := ⟨fun _ => nilS, fun _ => [], ⟨ByteArray.empty, 0, 0, nilS, []⟩⟩) (m := n + 80) rfl rfl (by omega) (by omega) fun bs H3 hbs hE3 hz3 hr3 => ?_
  have hE03 := hE02.trans hE3 fun _ _ h => h
  have hr1 := hE3.row hr1 fun h => h
  have hr2 := hE3.row hr2 fun h => h
  refine Ld_sl (s := p.2) ((hr1.cell 1).trans rfl) (Lt.mk (u := ((m + 80 : Nat) : Int)) (by rw [wrap_i64_id] <;> omega) ?_)
  refine Mks_rep (f := rouV) (e := ⟨ByteArray.empty, 0, 0, nilS, []⟩) (m := m + 80) rfl rfl (by omega) (by omega) fun bf H4 hbf hE4 hz4 hr4 => ?_
  have hE04 := hE03.trans hE4 fun _ _ h => h
  have r1 := hE4.row hr1 fun h => h
  have r2 := hE4.row hr2 fun h => h
  have r3 := hE4.row hr3 fun h => h
  have s1 := hE1.size
  have m1 : b1 ≠ bs := by omega
  have m2 : b2 ≠ bs := by omega
  have m3 : b1 ≠ bf := by omega
  have m4 : b2 ≠ bf := by omega
  have m5 : bs ≠ bf := by omega
  have hz04 := hE04.size
  clear hr1 hr2 hr3
  -- the systems
  refine LoopT.mk (fun s H' => ∃ (i : Nat) (qs ys : List Sy), s = i ∧ i ≤ n + 80 ∧ Upd (· = bs) H4 H' ∧ Row H' bs T_api_System (ys.flatMap sysV) ∧ ys.length = n + 80 ∧ ys.take i = qs ++ List.replicate (i - n) mkS ∧ qs.length = min i n ∧ qs.map sysP = (ss.take i).map sysP ∧
      (∀ q ∈ qs, CpY H4.size H' q) ∧ (qs.map (·.rou.sl)).Pairwise Apart) (fun s _ => n + 80 - s.toNat)
    ⟨0, [], _, rfl, by omega, .refl _ _, r3, by rw [List.length_replicate], by simp, by simp, by simp, (fun q hq => by cases hq), .nil⟩ ?_
  rintro next _ H10 ⟨i, qs, ys, rfl, hi1, hU10, hr10, hyl, hye, hql, hqm, hqv, hqa⟩ hnext
  have q1 := hU10.row r1 m1
  have q2 := hU10.row r2 m2
  have q4 := hU10.row hr4 (fun e => m5 e.symm)
  have hE010 : Ext H H10 := extUpd hE04 (by omega) hU10
  have hs10 := hU10.size
  refine Br_dec (fun hlt => ?_) fun hge => ?_
  · have hi : i < n + 80 := by first | omega | (dsimp only at hlt; omega)
    have ixp : ∀ {k : Addr → Prop}, k ⟨bs, i * 8, none⟩ → IxA 8 ⟨some (adr bs), n + 80, n + 80⟩ (i : Nat) k := fun hk => IxA_adr (by omega) (by first | omega | (dsimp only; omega)) (by rw [Int.toNat_natCast]; exact hk)
    refine Jn.mk (fun _ H' => ∃ (qs' ys' : List Sy), Upd (· = bs) H4 H' ∧ Row H' bs T_api_System (ys'.flatMap sysV) ∧ ys'.length = n + 80 ∧ ys'.take (i + 1) = qs' ++ List.replicate (i + 1 - n) mkS ∧ qs'.length = min (i + 1) n ∧ qs'.map sysP = (ss.take (i + 1)).map sysP ∧
      (∀ q ∈ qs', CpY H4.size H' q) ∧ (qs'.map (·.rou.sl)).Pairwise Apart) (fun kk hkk => ?_) ?_
    rotate_left
    · rintro _ H11 ⟨qs', ys', g1, g2, g3, g4, g5, g6, g7, g8⟩
      exact Lt.mk (u := ((i + 1 : Nat) : Int)) (by rw [wrap_i64_id] <;> omega) (hnext _ _ ⟨i + 1, qs', ys', rfl, by omega, g1, g2, g3, g4, g5, g6, g7, g8⟩ (by omega))
    refine ixp ?_
    simp only [mk_add]
    refine St8 (x := mkS) hr10 (by omega) fun H11 hU11 hz11 hr11 => ?_
    have hU0 : Upd (· = bs) H4 H11 := hU10.trans hU11 fun _ _ e => e
    have hE011 : Ext H H11 := extUpd hE010 (by omega) hU11
    have q1 := hU11.row q1 m1
    have qv11 : ∀ q ∈ qs, CpY H4.size H11 q := fun q hq => (hqv q hq).upd hU11 (fun b ws _ hw e => by subst e; exact hw.ne hr10 (by decide) rfl) fun b ws _ hw e => by subst e; exact hw.ne hr10 (by decide) rfl
    have ytk : ∀ x : Sy, (ys.set i x).take (i + 1) = qs ++ List.replicate (i - n) mkS ++ [x] := fun x => by
      rw [List.take_add_one, List.take_set_of_le (Nat.le_refl _), hye, List.getElem?_set_self (by omega)]; rfl
    refine Ld_sl (s := p.1) ((q1.cell 0).trans rfl) (Jn_in (Br_dec (fun hlt2 => ?_) fun hge2 => ?_))
    · have hin : i < n := by omega
      have hiss : i < ss.length := by omega
      refine Ld_sl (s := p.1) ((q1.cell 0).trans rfl) (IxA_rn' sysV_len (hP.sys.ext hE011) (by decide) rfl hiss fun a ha => ?_)
      rw [getElem!_pos ss i hiss] at ha
      have hx := hP.sysR _ (List.getElem_mem hiss)
      have hmap : (ss.take (i + 1)).map sysP = (ss.take i).map sysP ++ [sysP ss[i]] := by rw [List.take_add_one, List.getElem?_eq_getElem hiss, List.map_append]; rfl
      generalize ss[i] = x at *
      refine ⟨(x.s 0, x.s 1, x.s 2, x.s 3, x.rou.name, x.rou.params, x.rou.locals, x.rou.sl), ha, ?_⟩
      refine Nw_row (vs := [.slice none 0 0, .slice none 0 0, .slice none 0 0, .slice none 0 0, .string ByteArray.empty, .int .i64 0, .int .i64 0, .slice none 0 0]) fun b3 H12 hb3 hE12 hz12 hr12 => ?_
      refine St_row hr12 (by simp) fun G1 hV1 _ hg1 => St_row hg1 (by simp) fun G2 hV2 _ hg2 => St_row hg2 (by simp) fun G3 hV3 _ hg3 => St_row hg3 (by simp) fun G4 hV4 _ hg4 => St_row hg4 (by simp) fun G5 hV5 _ hg5 => St_row hg5 (by simp) fun G6 hV6 _ hg6 => St_row hg6 (by simp) fun G7 hV7 _ hg7 => St_row hg7 (by simp) fun G8 hV8 _ hg8 => ?_
      have hg8 : Row G8 b3 T_api_System (sysV x) := hg8
      have hV : Upd (· = b3) H12 G8 := ((((((hV1.trans hV2 fun _ _ e => e).trans hV3 fun _ _ e => e).trans hV4 fun _ _ e => e).trans hV5 fun _ _ e => e).trans hV6 fun _ _ e => e).trans hV7 fun _ _ e => e).trans hV8 fun _ _ e => e
      have hEG : Ext H11 G8 := extUpd hE12 (by omega) hV
      have hE0G := hE011.trans hEG fun _ _ h => h
      refine Ld_sl (s := x.s 0) ((hg8.cell 0).trans rfl) (Ld_sl (s := x.s 1) ((hg8.cell 1).trans rfl) (Ld_sl (s := x.s 2) ((hg8.cell 2).trans rfl) (Ld_sl (s := x.s 3) ((hg8.cell 3).trans rfl) ?_)))
      refine ⟨(x.rou.name, x.rou.params, x.rou.locals, x.rou.sl), ⟨(hg8.cell 4).trans rfl, (hg8.cell 5).trans rfl, (hg8.cell 6).trans rfl, (hg8.cell 7).trans rfl, trivial⟩, ?_⟩
      refine s_set ((hx.sets 0 (by decide)).ext hE0G) (hx.lens 0 (by decide)) fun K1 t0 hK1 c0 => ?_
      have k1 := hK1.row hg8 fun h => h
      refine Stab_all (fun y hy => by
        simp only [List.mem_cons, List.not_mem_nil, or_false] at hy
        rcases hy with rfl | rfl | rfl | rfl | rfl | rfl | rfl <;> exact (k1.cell _).trans rfl) ?_
      have hE1' := hE0G.trans hK1 fun _ _ h => h
      refine s_set ((hx.sets 1 (by decide)).ext hE1') (hx.lens 1 (by decide)) fun K2 t1 hK2 c1 => ?_
      have k2 := hK2.row k1 fun h => h
      refine Stab_all (fun y hy => by
        simp only [List.mem_cons, List.not_mem_nil, or_false] at hy
        rcases hy with rfl | rfl | rfl | rfl | rfl | rfl | rfl <;> exact (k2.cell _).trans rfl) ?_
      have hE2' := hE1'.trans hK2 fun _ _ h => h
      refine s_set ((hx.sets 2 (by decide)).ext hE2') (hx.lens 2 (by decide)) fun K3 t2 hK3 c2 => ?_
      have k3 := hK3.row k2 fun h => h
      refine Stab_all (fun y hy => by
        simp only [List.mem_cons, List.not_mem_nil, or_false] at hy
        rcases hy with rfl | rfl | rfl | rfl | rfl | rfl | rfl <;> exact (k3.cell _).trans rfl) ?_
      have hE3' := hE2'.trans hK3 fun _ _ h => h
      refine s_set ((hx.sets 3 (by decide)).ext hE3') (hx.lens 3 (by decide)) fun K4 t3 hK4 c3 => ?_
      have k4 := hK4.row k3 fun h => h
      refine Stab_all (fun y hy => by
        simp only [List.mem_cons, List.not_mem_nil, or_false] at hy
        rcases hy with rfl | rfl | rfl | rfl | rfl | rfl | rfl <;> exact (k4.cell _).trans rfl) ?_
      have hE4' := hE3'.trans hK4 fun _ _ h => h
      refine s_routine (hx.rou.code.ext hE4') hx.rou.len fun K5 t4 hK5 c4 => ?_
      have k5 := hK5.row k4 fun h => h
      refine Stab_all (fun y hy => by
        simp only [List.mem_cons, List.not_mem_nil, or_false] at hy
        rcases hy with rfl | rfl | rfl | rfl <;> exact (k5.cell _).trans rfl) ?_
      refine ixp ?_
      simp only [mk_add]
      have hX : Ext H11 K5 := ((((hEG.trans hK1 fun _ _ h => h).trans hK2 fun _ _ h => h).trans hK3 fun _ _ h => h).trans hK4 fun _ _ h => h).trans hK5 fun _ _ h => h
      have z1 := hE12.size
      have z2 := hEG.size
      have z3 := hK1.size
      have z4 := hK2.size
      have z5 := hK3.size
      have z6 := hK4.size
      have hrX := hX.row hr11 fun h => h
      refine St8 (x := ⟨pick4 t0 t1 t2 t3, x.l, ⟨x.rou.name, x.rou.params, x.rou.locals, t4, x.rou.code⟩⟩) hrX (by rw [List.length_set]; omega) fun K6 hU6 hz6 hr6 => ?_
      rw [List.set_set] at hr6
      have keepL : ∀ {lo : Nat} {s : Sl} {xs : List Int}, H4.size ≤ lo → CpL lo K5 s xs → CpL H4.size K6 s xs := fun hlo h => (h.upd hU6 fun b ws _ hw e => by subst e; exact hw.ne hrX (by decide) rfl).mono hlo
      have z0 := hU0.size
      have e5 : ∀ {A : Heap}, Ext A K5 → Ext A K5 := fun h => h
      have x4 : Ext K4 K5 := hK5
      have x3 : Ext K3 K5 := hK4.trans x4 fun _ _ h => h
      have x2 : Ext K2 K5 := hK3.trans x3 fun _ _ h => h
      have x1 : Ext K1 K5 := hK2.trans x2 fun _ _ h => h
      refine hkk _ _ ⟨qs ++ [⟨pick4 t0 t1 t2 t3, x.l, ⟨x.rou.name, x.rou.params, x.rou.locals, t4, x.rou.code⟩⟩], _, ?_, hr6, by rw [List.length_set]; exact hyl, ?_, ?_, ?_, ?_, ?_⟩
      · exact (hU0.trans hX fun _ _ h => h.elim).trans hU6 fun _ _ e => e
      · rw [ytk, show i - n = 0 by omega, show i + 1 - n = 0 by omega]; simp
      · rw [List.length_append, hql]; simp; omega
      · rw [List.map_append, hqm, hmap]; rfl
      · intro q hq
        rcases List.mem_append.1 hq with hq | hq
        · exact ((qv11 q hq).upd hX (fun _ _ _ _ h => h) fun _ _ _ _ h => h).upd hU6 (fun b ws _ hw e => by subst e; exact hw.ne hrX (by decide) rfl) fun b ws _ hw e => by subst e; exact hw.ne hrX (by decide) rfl
        · rw [List.mem_singleton.1 hq]
          refine ⟨fun q hq => ?_, ?_⟩
          · match q, hq with
            | 0, _ => exact keepL (by omega) (c0.upd x1 fun _ _ _ _ h => h)
            | 1, _ => exact keepL (by omega) (c1.upd x2 fun _ _ _ _ h => h)
            | 2, _ => exact keepL (by omega) (c2.upd x3 fun _ _ _ _ h => h)
            | 3, _ => exact keepL (by omega) (c3.upd x4 fun _ _ _ _ h => h)
          · exact (c4.upd hU6 fun b ws _ hw e => by subst e; exact hw.ne hrX (by decide) rfl).mono (by omega)
      · rw [List.map_append, List.pairwise_append]
        refine ⟨hqa, List.pairwise_singleton _ _, fun s hs t ht b hb hb' => ?_⟩
        obtain ⟨q, hq, rfl⟩ := List.mem_map.1 hs
        rw [List.mem_singleton.1 ht] at hb'
        obtain ⟨b0, g1, g2, _⟩ := (qv11 q hq).code
        obtain ⟨b4, g3, _, g4⟩ := c4
        rw [g1] at hb
        dsimp only at hb'
        rw [g3] at hb'
        cases hb; cases hb'
        have := g2.lt; omega
    · have hip : n ≤ i := by omega
      refine hkk _ _ ⟨qs, _, hU0, hr11, by rw [List.length_set]; exact hyl, ?_, by rw [hql]; omega, ?_, qv11, hqa⟩
      · rw [ytk, show i + 1 - n = (i - n) + 1 by omega, List.replicate_succ', List.append_assoc]
      · rw [hqm, List.take_of_length_le (by omega), List.take_of_length_le (by omega)]
  have hi : i = n + 80 := by first | omega | (dsimp only at hge; omega)
  subst hi
  rw [List.take_of_length_le (by omega), show n + 80 - n = 80 by omega] at hye
  rw [List.take_of_length_le (by omega)] at hqm
  subst hye
  clear hnext hr4
  have hqn : qs.length = n := by omega
  -- the functions
  refine LoopT.mk (fun s H' => ∃ (i : Nat) (gs ys : List Rou), s = i ∧ i ≤ m + 80 ∧ Upd (· = bf) H10 H' ∧ Row H' bf T_api_Routine (ys.flatMap rouV) ∧ ys.length = m + 80 ∧ ys.take i = gs ++ List.replicate (i - m) mkR ∧ gs.length = min i m ∧ gs.map rouP = (fs.take i).map rouP ∧
      (∀ q ∈ gs, CpC H10.size H' q.sl q.code) ∧ (gs.map (·.sl)).Pairwise Apart) (fun s _ => m + 80 - s.toNat)
    ⟨0, [], _, rfl, by omega, .refl _ _, q4, by rw [List.length_replicate], by simp, by simp, by simp, (fun q hq => by cases hq), .nil⟩ ?_
  rintro next _ H20 ⟨i, gs, ys, rfl, hi1, hU20, hr20, hyl2, hye, hgl, hgm, hgv, hga⟩ hnext
  have p1 := hU20.row q1 m3
  have p2 := hU20.row q2 m4
  have hE020 : Ext H H20 := extUpd hE010 (by omega) hU20
  have hs20 := hU20.size
  refine Br_dec (fun hlt => ?_) fun hge => ?_
  · have hi : i < m + 80 := by first | omega | (dsimp only at hlt; omega)
    have ixp : ∀ {k : Addr → Prop}, k ⟨bf, i * 4, none⟩ → IxA 4 ⟨some (adr bf), m + 80, m + 80⟩ (i : Nat) k := fun hk => IxA_adr (by omega) (by first | omega | (dsimp only; omega)) (by rw [Int.toNat_natCast]; exact hk)
    refine Jn.mk (fun _ H' => ∃ (gs' ys' : List Rou), Upd (· = bf) H10 H' ∧ Row H' bf T_api_Routine (ys'.flatMap rouV) ∧ ys'.length = m + 80 ∧ ys'.take (i + 1) = gs' ++ List.replicate (i + 1 - m) mkR ∧ gs'.length = min (i + 1) m ∧ gs'.map rouP = (fs.take (i + 1)).map rouP ∧
      (∀ q ∈ gs', CpC H10.size H' q.sl q.code) ∧ (gs'.map (·.sl)).Pairwise Apart) (fun kk hkk => ?_) ?_
    rotate_left
    · rintro _ H11 ⟨gs', ys', g1, g2, g3, g4, g5, g6, g7, g8⟩
      exact Lt.mk (u := ((i + 1 : Nat) : Int)) (by rw [wrap_i64_id] <;> omega) (hnext _ _ ⟨i + 1, gs', ys', rfl, by omega, g1, g2, g3, g4, g5, g6, g7, g8⟩ (by omega))
    refine ixp ?_
    simp only [mk_add]
    refine St4 (x := mkR) hr20 (by omega) fun H11 hU11 hz11 hr11 => ?_
    have hU0 : Upd (· = bf) H10 H11 := hU20.trans hU11 fun _ _ e => e
    have hE011 : Ext H H11 := extUpd hE020 (by omega) hU11
    have q1 := hU11.row p1 m3
    have gv11 : ∀ q ∈ gs, CpC H10.size H11 q.sl q.code := fun q hq => (hgv q hq).upd hU11 fun b ws _ hw e => by subst e; exact hw.ne hr20 (by decide) rfl
    have ytk : ∀ x : Rou, (ys.set i x).take (i + 1) = gs ++ List.replicate (i - m) mkR ++ [x] := fun x => by
      rw [List.take_add_one, List.take_set_of_le (Nat.le_refl _), hye, List.getElem?_set_self (by omega)]; rfl
    refine Ld_sl (s := p.2) ((q1.cell 1).trans rfl) (Jn_in (Br_dec (fun hlt2 => ?_) fun hge2 => ?_))
    · have hin : i < m := by omega
      have hifs : i < fs.length := by omega
      refine Ld_sl (s := p.2) ((q1.cell 1).trans rfl) (IxA_rn' rouV_len (hP.fun'.ext hE011) (by decide) rfl hifs fun a ha => ?_)
      rw [getElem!_pos fs i hifs] at ha
      have hx := hP.funR _ (List.getElem_mem hifs)
      have hmap : (fs.take (i + 1)).map rouP = (fs.take i).map rouP ++ [rouP fs[i]] := by rw [List.take_add_one, List.getElem?_eq_getElem hifs, List.map_append]; rfl
      generalize fs[i] = x at *
      refine ⟨(x.name, x.params, x.locals, x.sl), ha, ?_⟩
      refine s_routine (hx.code.ext hE011) hx.len fun K5 t4 hX c4 => ?_
      refine ixp ?_
      simp only [mk_add]
      have z3 := hX.size
      have z0 := hU0.size
      have hrX := hX.row hr11 fun h => h
      refine St4 (x := ⟨x.name, x.params, x.locals, t4, x.code⟩) hrX (by rw [List.length_set]; omega) fun K6 hU6 hz6 hr6 => ?_
      rw [List.set_set] at hr6
      refine hkk _ _ ⟨gs ++ [⟨x.name, x.params, x.locals, t4, x.code⟩], _, ?_, hr6, by rw [List.length_set]; exact hyl2, ?_, ?_, ?_, ?_, ?_⟩
      · exact (hU0.trans hX fun _ _ h => h.elim).trans hU6 fun _ _ e => e
      · rw [ytk, show i - m = 0 by omega, show i + 1 - m = 0 by omega]; simp
      · rw [List.length_append, hgl]; simp; omega
      · rw [List.map_append, hgm, hmap]; rfl
      · intro q hq
        rcases List.mem_append.1 hq with hq | hq
        · exact ((gv11 q hq).upd hX fun _ _ _ _ h => h).upd hU6 fun b ws _ hw e => by subst e; exact hw.ne hrX (by decide) rfl
        · rw [List.mem_singleton.1 hq]
          exact (c4.upd hU6 fun b ws _ hw e => by subst e; exact hw.ne hrX (by decide) rfl).mono (by omega)
      · rw [List.map_append, List.pairwise_append]
        refine ⟨hga, List.pairwise_singleton _ _, fun s hs t ht b hb hb' => ?_⟩
        obtain ⟨q, hq, rfl⟩ := List.mem_map.1 hs
        rw [List.mem_singleton.1 ht] at hb'
        obtain ⟨b0, g1, g2, _⟩ := gv11 q hq
        obtain ⟨b4, g3, _, g4⟩ := c4
        rw [g1] at hb
        dsimp only at hb'
        rw [g3] at hb'
        cases hb; cases hb'
        have := g2.lt; omega
    · have hip : m ≤ i := by omega
      refine hkk _ _ ⟨gs, _, hU0, hr11, by rw [List.length_set]; exact hyl2, ?_, by rw [hgl]; omega, ?_, gv11, hga⟩
      · rw [ytk, show i + 1 - m = (i - m) + 1 by omega, List.replicate_succ', List.append_assoc]
      · rw [hgm, List.take_of_length_le (by omega), List.take_of_length_le (by omega)]
  have hi : i = m + 80 := by first | omega | (dsimp only at hge; omega)
  subst hi
  rw [List.take_of_length_le (by omega), show m + 80 - m = 80 by omega] at hye
  rw [List.take_of_length_le (by omega)] at hgm
  subst hye
  refine Ld_sl (s := p.1) ((p1.cell 0).trans rfl) ?_
  rw [hsl]
  refine SlA0 (by omega) (by first | omega | (dsimp only; omega)) (Int.le_refl _) ?_
  refine Ld_sl (s := p.2) ((p1.cell 1).trans rfl) ?_
  rw [hfl]
  refine SlA0 (by omega) (by first | omega | (dsimp only; omega)) (Int.le_refl _) ?_
  simp only [Int.toNat_natCast]
  refine St_row p2 (by simp) fun G1 hV1 _ hg1 => St_row hg1 (by simp) fun G2 hV2 _ hg2 => ?_
  have hg2 : Row G2 b2 T_api_Program [slV ⟨some (adr bs), n, n + 80⟩, slV ⟨some (adr bf), m, m + 80⟩] := hg2
  refine ⟨cpQ bs bf n m, hg2.rd_all, ?_⟩
  have hV : Upd (· = b2) H20 G2 := hV1.trans hV2 fun _ _ e => e
  have hr10' := hU20.row hr10 m5
  have hqs20 : ∀ q ∈ qs, CpY H4.size H20 q := fun q hq => (hqv q hq).upd hU20 (fun b ws _ hw e => by subst e; exact hw.ne q4 (by decide) rfl) fun b ws _ hw e => by subst e; exact hw.ne q4 (by decide) rfl
  have hn2 : ∀ {b T ws}, T ≠ T_api_Program → Row H20 b T ws → ¬ b = b2 := fun hT hw e => by subst e; exact hw.ne p2 hT rfl
  refine hk G2 bs bf qs gs (extUpd hE020 (by omega) hV) ⟨hV.row hr10' (hn2 (by decide) hr10'), hV.row hr20 (hn2 (by decide) hr20), fun x hx => ((hqs20 x hx).upd hV (fun b ws _ hw => hn2 (by decide) hw) fun b ws _ hw => hn2 (by decide) hw).mono (by omega), fun r hr => ((hgv r hr).upd hV fun b ws _ hw => hn2 (by decide) hw).mono (by omega), ?_, by omega, by omega⟩ hqm hgm
  rw [List.pairwise_append]
  refine ⟨hqa, hga, fun s hs t ht b hb hb' => ?_⟩
  obtain ⟨q, hq, rfl⟩ := List.mem_map.1 hs
  obtain ⟨g, hg, rfl⟩ := List.mem_map.1 ht
  obtain ⟨b0, g1, g2, _⟩ := (hqv q hq).code
  obtain ⟨b4, g3, _, g4⟩ := hgv g hg
  rw [g1] at hb
  rw [g3] at hb'
  cases hb; cases hb'
  have := g2.lt; omega
end
section
open Hc Hc.Vf Hc.Mc Hc.Dice
variable {H : Heap}
theorem mk_lt {α : Type} {xs : List α} {m : α} {i : Nat} (h : i < xs.length) (h' : i < (xs ++ List.replicate 80 m).length) : (xs ++ List.replicate 80 m)[i] = xs[i] := List.getElem_append_left h
theorem mk_ge {α : Type} {xs : List α} {m : α} {i : Nat} (h : xs.length ≤ i) (h' : i < (xs ++ List.replicate 80 m).length) : (xs ++ List.replicate 80 m)[i] = m := by rw [List.getElem_append_right h]; exact List.getElem_replicate _
theorem mk_len {α : Type} (xs : List α) (m : α) : (xs ++ List.replicate 80 m).length = xs.length + 80 := by simp
theorem s_sets {lo : Nat} {a b : Sl} {xs : List Int} (ha : CpL lo H a xs) (hb : RL (Value.int .i64) H b xs) (hl : xs.length ≤ 2 ^ 44) {k : Bool → Heap → Prop} (hk : k true H) :
    CallT Pg f_L_sets [.slice a.a a.len a.cap, .slice b.a b.len b.cap] BoolR H k := by
  refine c_L_sets a b ?_
  unfold v_L_sets
  obtain ⟨c, rfl, hr, _⟩ := ha
  have hbl := hb.len
  generalize hn : xs.length = n at *
  have e1 : ((n : Int) != (b.len : Int)) = false := by rw [hbl]; simp
  dsimp only
  rw [e1, Br_false]
  refine Lt.mk (u := ((n + 80 : Nat) : Int)) (by rw [wrap_i64_id] <;> omega) (SlA0 (by omega) (by first | omega | (dsimp only; omega)) (Int.le_refl _) ?_)
  simp only [Int.toNat_natCast]
  have hml : (markV xs).length = n + 80 := by rw [mk_len, hn]
  have hW : RL (Value.int .i64) H ⟨some (adr c), n + 80, n + 80⟩ (markV xs) := ⟨hr.rd_all, hml.symm, Nat.le_refl _⟩
  refine LoopT.mk (fun s H' => H = H' ∧ ∃ i : Nat, s = i ∧ i ≤ n + 80) (fun s _ => n + 80 - s.toNat) ⟨rfl, 0, rfl, Nat.zero_le _⟩ ?_
  rintro next _ _ ⟨rfl, i, rfl, hi⟩ hnext
  refine Br_dec (fun hlt => ?_) fun _ => hk
  have hi2 : i < n + 80 := by first | omega | (dsimp only at hlt; omega)
  refine Jn.mk (fun j H' => H = H' ∧ j = false) (fun kk hkk => ?_) ?_
  · refine Br_dec (fun hin => ?_) fun hin => ?_
    · have hi3 : i < xs.length := by omega
      refine IxA_rl hW rfl (by omega) fun a1 g1 => Ld_int (n := xs[i]) (by rw [g1, mk_lt hi3]) (IxA_rl hb rfl hi3 fun a2 g2 => Ld_int (n := xs[i]) g2 ?_)
      have e2 : (xs[i] != xs[i]) = false := by simp
      rw [e2, Br_false]
      exact Br_dec (fun h => absurd h (by omega)) fun _ => hkk _ _ ⟨rfl, rfl⟩
    · refine Br_dec (fun _ => IxA_rl hW rfl (by omega) fun a1 g1 => Ld_int (n := -7) (by rw [g1, mk_ge (by omega)]) (hkk _ _ ⟨rfl, rfl⟩)) fun h => absurd h (by omega)
  · rintro j _ ⟨rfl, rfl⟩
    rw [Br_false]
    exact Lt.mk (u := ((i + 1 : Nat) : Int)) (by rw [wrap_i64_id] <;> omega) (hnext _ _ ⟨rfl, i + 1, rfl, hi2⟩ (by omega))
theorem eqIns (a b : Int) : eqL [(.int .i64), (.int .i64)] (a, b) (a, b) = true := by simp [eqL, eqT]
theorem s_routines {lo : Nat} {r : Rou} {a : Sl} (ha : CpC lo H a r.code) (hb : CodeR H r) (hl : r.code.length ≤ 2 ^ 43) {k : Bool → Heap → Prop} (hk : ∀ H', Ext H H' → k true H') :
    CallT Pg f_L_routines [.agg #[.string r.name, .int .i64 r.params, .int .i64 r.locals, .slice a.a a.len a.cap], .agg #[.string r.name, .int .i64 r.params, .int .i64 r.locals, .slice r.sl.a r.sl.len r.sl.cap]] BoolR H k := by
  refine c_L_routines (r.name, r.params, r.locals, a) (r.name, r.params, r.locals, r.sl) ?_
  unfold v_L_routines
  obtain ⟨c, rfl, hr, _⟩ := ha
  have hbl := hb.len
  generalize hn : r.code.length = n at *
  refine Nw_row (vs := rouV ⟨r.name, r.params, r.locals, ⟨some (adr c), n, n + 80⟩, r.code⟩) fun b1 H1 hb1 hE1 _ hr1 => ?_
  refine Nw_row (vs := rouV r) fun b2 H2 hb2 hE2 _ hr2 => ?_
  have hE02 := hE1.trans hE2 fun _ _ h => h
  have hr1 := hE2.row hr1 fun h => h
  simp only [adr_add]
  have hml : (markC r.code).length = n + 80 := by rw [mk_len, hn]
  have hW : RN insV 2 H2 ⟨some (adr c), n + 80, n + 80⟩ (markC r.code) := RN.ext hE02 ⟨hr.rd_all, hml.symm, Nat.le_refl _⟩
  have hbE := hb.ext hE02
  refine Jn.mk (fun j H' => H2 = H' ∧ j = false) (fun kk hkk => ?_) ?_
  · refine Ld_str (n := r.name) ((hr1.cell 0).trans rfl) (Ld_str (n := r.name) ((hr2.cell 0).trans rfl) ?_)
    rw [show (!(r.name.toList == r.name.toList)) = false by simp, Br_false]
    refine Ld_int (n := r.params) ((hr1.cell 1).trans rfl) (Ld_int (n := r.params) ((hr2.cell 1).trans rfl) ?_)
    rw [show (r.params != r.params) = false by simp, Br_false]
    refine Ld_int (n := r.locals) ((hr1.cell 2).trans rfl) (Ld_int (n := r.locals) ((hr2.cell 2).trans rfl) ?_)
    rw [show (r.locals != r.locals) = false by simp, Br_false]
    refine Ld_sl (s := ⟨some (adr c), n, n + 80⟩) ((hr1.cell 3).trans rfl) (Ld_sl (s := r.sl) ((hr2.cell 3).trans rfl) ?_)
    exact hkk _ _ ⟨rfl, by dsimp only; rw [hbl]; simp⟩
  rintro j _ ⟨rfl, rfl⟩
  rw [Br_false]
  refine Ld_sl (s := ⟨some (adr c), n, n + 80⟩) ((hr1.cell 3).trans rfl) (Ld_sl (s := ⟨some (adr c), n, n + 80⟩) ((hr1.cell 3).trans rfl) ?_)
  refine Lt.mk (u := ((n + 80 : Nat) : Int)) (by rw [wrap_i64_id] <;> (try dsimp only) <;> omega) (SlA0 (by omega) (by first | omega | (dsimp only; omega)) (Int.le_refl _) ?_)
  simp only [Int.toNat_natCast]
  refine LoopT.mk (fun s H' => H2 = H' ∧ ∃ i : Nat, s = i ∧ i ≤ n + 80) (fun s _ => n + 80 - s.toNat) ⟨rfl, 0, rfl, Nat.zero_le _⟩ ?_
  rintro next _ _ ⟨rfl, i, rfl, hi⟩ hnext
  refine Br_dec (fun hlt => ?_) fun _ => hk _ hE02
  have hi2 : i < n + 80 := by first | omega | (dsimp only at hlt; omega)
  have lsl : ∀ {k : Sl → Prop}, k r.sl → Ld .sl ⟨b2, 3, none⟩ H2 k := fun h => Ld_sl (s := r.sl) ((hr2.cell 3).trans rfl) h
  refine Jn.mk (fun j H' => H2 = H' ∧ j = false) (fun kk hkk => ?_) ?_
  · refine lsl (Br_dec (fun hin => ?_) fun hin => ?_)
    · have hi3 : i < r.code.length := by omega
      refine IxA_rn' insV_len hW (by decide) rfl (by omega) fun a1 g1 => ?_
      rw [getElem!_pos _ i (by omega), mk_lt hi3] at g1
      refine ⟨(r.code[i].1, r.code[i].2), g1, lsl (IxA_rn' insV_len hbE (by decide) rfl hi3 fun a2 g2 => ?_)⟩
      rw [getElem!_pos _ i hi3] at g2
      refine ⟨(r.code[i].1, r.code[i].2), g2, ?_⟩
      dsimp only
      rw [eqIns, Bool.not_true, Br_false]
      exact lsl (Br_dec (fun h => absurd h (by omega)) fun _ => hkk _ _ ⟨rfl, rfl⟩)
    · refine lsl (Br_dec (fun _ => IxA_rn' insV_len hW (by decide) rfl (by omega) fun a1 g1 => ?_) fun h => absurd h (by omega))
      rw [getElem!_pos _ i (by omega), mk_ge (by omega)] at g1
      exact ⟨(-7, 0), g1, hkk _ _ ⟨rfl, by rw [eqIns (-7) 0]; rfl⟩⟩
  · rintro j _ ⟨rfl, rfl⟩
    rw [Br_false]
    exact Lt.mk (u := ((i + 1 : Nat) : Int)) (by rw [wrap_i64_id] <;> omega) (hnext _ _ ⟨rfl, i + 1, rfl, hi2⟩ (by omega))
theorem s_alike {lo : Nat} {e : EnV} {ins : List (Int × Int × Int)} {ps qs : List PtP} {bi bp : Nat} (hc : CpR lo H bi bp ins qs) (hin : RN inV 3 H e.inS ins) (hprt : RN ptV 2 H e.rp ps) (hpr : ∀ q ∈ ps, RL (Value.int .i64) H q.sl q.vals ∧ q.vals.length ≤ 2 ^ 44) (hq : qs.map PtP.pt = ps.map PtP.pt) (hil : ins.length ≤ 2 ^ 43) (hpl : ps.length ≤ 2 ^ 42) {k : Bool → Heap → Prop} (hk : ∀ H', Ext H H' → k true H') :
    CallT Pg f_L_alike [envA (cpE e bi bp ins.length ps.length), envA e] BoolR H k := by
  refine c_L_alike (e.fr, e.sd, e.en, ⟨some (adr bi), ins.length, ins.length + 80⟩, e.ix, e.gn, ⟨some (adr bp), ps.length, ps.length + 80⟩) (e.fr, e.sd, e.en, e.inS, e.ix, e.gn, e.rp) ?_
  unfold v_L_alike
  have hinl := hin.len
  have hrI := hc.rnI
  have hrP := hc.rnP
  have hlq : qs.length = ps.length := by simpa using congrArg List.length hq
  refine Nw_row (vs := envL (cpE e bi bp ins.length ps.length)) fun b1 H1 hb1 hE1 _ hr1 => ?_
  refine Nw_row (vs := envL e) fun b2 H2 hb2 hE2 _ hr2 => ?_
  have hE02 := hE1.trans hE2 fun _ _ h => h
  have hr1 := hE2.row hr1 fun h => h
  simp only [adr_add, mk_add]
  refine Jn.mk (fun j H' => H2 = H' ∧ j = false) (fun kk hkk => ?_) ?_
  · refine Ld_int (n := e.fr) ((hr1.cell 0).trans rfl) (Ld_int (n := e.fr) ((hr2.cell 0).trans rfl) ?_)
    rw [show (e.fr != e.fr) = false by simp, Br_false]
    refine Ld_int (n := e.sd) ((hr1.cell 1).trans rfl) (Ld_int (n := e.sd) ((hr2.cell 1).trans rfl) ?_)
    rw [show (e.sd != e.sd) = false by simp, Br_false]
    refine Ld_int (n := e.en) ((hr1.cell 2).trans rfl) (Ld_int (n := e.en) ((hr2.cell 2).trans rfl) ?_)
    rw [show (e.en != e.en) = false by simp, Br_false]
    refine ⟨(e.ix, e.gn), ⟨(hr1.cell 4).trans rfl, (hr1.cell 5).trans rfl, trivial⟩, ⟨(e.ix, e.gn), ⟨(hr2.cell 4).trans rfl, (hr2.cell 5).trans rfl, trivial⟩, ?_⟩⟩
    dsimp only
    rw [eqIns, Bool.not_true, Br_false]
    refine Ld_sl (s := ⟨some (adr bi), ins.length, ins.length + 80⟩) ((hr1.cell 3).trans rfl) (Ld_sl (s := e.inS) ((hr2.cell 3).trans rfl) ?_)
    exact hkk _ _ ⟨rfl, by dsimp only; rw [hinl]; simp⟩
  rintro j _ ⟨rfl, rfl⟩
  rw [Br_false]
  refine LoopT.mk (fun s H' => H2 = H' ∧ ∃ i : Nat, s = i ∧ i ≤ ins.length) (fun s _ => ins.length - s.toNat) ⟨rfl, 0, rfl, Nat.zero_le _⟩ ?_
  rintro next _ _ ⟨rfl, i, rfl, hi⟩ hnext
  have ld1 : ∀ {k : Sl → Prop}, k ⟨some (adr bi), ins.length, ins.length + 80⟩ → Ld .sl ⟨b1, 3, none⟩ H2 k := fun h => Ld_sl ((hr1.cell 3).trans rfl) h
  refine ld1 (Br_dec (fun hlt => ?_) fun _ => ?_)
  · have hi2 : i < ins.length := by first | omega | (dsimp only at hlt; omega)
    refine ld1 (IxA_rn' inV_len (hrI.ext hE02) (by decide) rfl hi2 fun a1 g1 => ?_)
    rw [getElem!_pos _ i hi2] at g1
    refine ⟨(ins[i].1, ins[i].2.1, ins[i].2.2), g1, Ld_sl (s := e.inS) ((hr2.cell 3).trans rfl) (IxA_rn' inV_len (hin.ext hE02) (by decide) rfl hi2 fun a2 g2 => ?_)⟩
    rw [getElem!_pos _ i hi2] at g2
    refine ⟨(ins[i].1, ins[i].2.1, ins[i].2.2), g2, ?_⟩
    dsimp only
    rw [show eqL [(.int .i64), (.int .i64), (.int .i64)] (ins[i].1, ins[i].2.1, ins[i].2.2) (ins[i].1, ins[i].2.1, ins[i].2.2) = true by simp [eqL, eqT], Bool.not_true, Br_false]
    exact Lt.mk (u := ((i + 1 : Nat) : Int)) (by rw [wrap_i64_id] <;> omega) (hnext _ _ ⟨rfl, i + 1, rfl, hi2⟩ (by omega))
  · refine Ld_sl (s := ⟨some (adr bp), ps.length, ps.length + 80⟩) ((hr1.cell 6).trans rfl) (Ld_sl (s := e.rp) ((hr2.cell 6).trans rfl) ?_)
    rw [hlq] at hrP
    refine s_parts (hrP.ext hE02) (hprt.ext hE02) (fun q hq' => ⟨(hc.rlV hq').ext hE02, ?_⟩) (fun q hq' => (hpr q hq').1.ext hE02) hq (by omega) (hk _ hE02)
    obtain ⟨y, hy, ey⟩ := mem_map_eq hq hq'
    have := (hpr y hy).2
    have e2 : q.vals = y.vals := congrArg Pt.vals ey
    rw [e2]; omega
end
section
open Hc Hc.Vf Hc.Mc Hc.Dice
variable {H : Heap}
theorem add0 (a : Addr) : a.add 0 = a := by cases a; rename_i b o s; cases s <;> rfl
theorem s_still {lo : Nat} {e : EnV} {ins : List (Int × Int × Int)} {ps qs : List PtP} {bi bp : Nat} (hc : CpR lo H bi bp ins qs) (hin : RN inV 3 H e.inS ins) (hprt : RN ptV 2 H e.rp ps) (hpr : ∀ q ∈ ps, RL (Value.int .i64) H q.sl q.vals ∧ q.vals.length ≤ 2 ^ 44) (hq : qs.map PtP.pt = ps.map PtP.pt) (hil : ins.length ≤ 2 ^ 43) (hpl : ps.length ≤ 2 ^ 42) {k : Bool → Heap → Prop} (hk : ∀ H', Ext H H' → k true H') :
    CallT Pg f_L_still [envA (cpE e bi bp ins.length ps.length), envA e] BoolR H k := by
  refine c_L_still (e.fr, e.sd, e.en, ⟨some (adr bi), ins.length, ins.length + 80⟩, e.ix, e.gn, ⟨some (adr bp), ps.length, ps.length + 80⟩) (e.fr, e.sd, e.en, e.inS, e.ix, e.gn, e.rp) ?_
  unfold v_L_still
  have hinl := hin.len
  have hpsl := hprt.len
  have hlq : qs.length = ps.length := by simpa using congrArg List.length hq
  refine Nw_row (vs := envL (cpE e bi bp ins.length ps.length)) fun b1 H1 hb1 hE1 _ hr1 => ?_
  refine Nw_row (vs := envL e) fun b2 H2 hb2 hE2 _ hr2 => ?_
  have hE02 := hE1.trans hE2 fun _ _ h => h
  have hr1 := hE2.row hr1 fun h => h
  simp only [adr_add, mk_add]
  refine ⟨(e.fr, e.sd, e.en, ⟨some (adr bi), ins.length, ins.length + 80⟩, e.ix, e.gn, ⟨some (adr bp), ps.length, ps.length + 80⟩), hr1.rd_all, ⟨(e.fr, e.sd, e.en, e.inS, e.ix, e.gn, e.rp), hr2.rd_all, ?_⟩⟩
  refine s_alike (hc.ext hE02) (hin.ext hE02) (hprt.ext hE02) (fun q hq => ⟨(hpr q hq).1.ext hE02, (hpr q hq).2⟩) hq hil hpl fun H3 hE3 => ?_
  have hE03 := hE02.trans hE3 fun _ _ h => h
  have hr1 := hE3.row hr1 fun h => h
  have hr2 := hE3.row hr2 fun h => h
  have hc := hc.ext hE03
  have hin := hin.ext hE03
  have hprt := hprt.ext hE03
  have hpr : ∀ q ∈ ps, RL (Value.int .i64) H3 q.sl q.vals ∧ q.vals.length ≤ 2 ^ 44 := fun q hq => ⟨(hpr q hq).1.ext hE03, (hpr q hq).2⟩
  rw [Bool.not_true, Br_false]
  have ldI : ∀ {k : Sl → Prop}, k ⟨some (adr bi), ins.length, ins.length + 80⟩ → Ld .sl ⟨b1, 3, none⟩ H3 k := fun h => Ld_sl ((hr1.cell 3).trans rfl) h
  have ldP : ∀ {k : Sl → Prop}, k ⟨some (adr bp), ps.length, ps.length + 80⟩ → Ld .sl ⟨b1, 6, none⟩ H3 k := fun h => Ld_sl ((hr1.cell 6).trans rfl) h
  have ldQ : ∀ {k : Sl → Prop}, k e.rp → Ld .sl ⟨b2, 6, none⟩ H3 k := fun h => Ld_sl (s := e.rp) ((hr2.cell 6).trans rfl) h
  refine ldI (ldI (Lt.mk (u := ((ins.length + 80 : Nat) : Int)) (by dsimp only; rw [wrap_i64_id] <;> omega) (SlA0 (by omega) (by first | omega | (dsimp only; omega)) (Int.le_refl _) ?_)))
  simp only [Int.toNat_natCast]
  refine Ld_sl (s := e.inS) ((hr2.cell 3).trans rfl) ?_
  have hWI : RN inV 3 H3 ⟨some (adr bi), ins.length + 80, ins.length + 80⟩ (markI ins) := ⟨hc.inp.rd_all, (mk_len _ _).symm, Nat.le_refl _⟩
  have hWP : RN ptV 2 H3 ⟨some (adr bp), ps.length + 80, ps.length + 80⟩ (markP qs) := ⟨hc.prt.rd_all, by rw [mk_len, hlq], Nat.le_refl _⟩
  refine LoopT.mk (fun s H' => H3 = H' ∧ s.1 = true ∧ ∃ i : Nat, s.2 = i ∧ ins.length ≤ i ∧ i ≤ ins.length + 80) (fun s _ => ins.length + 80 - s.2.toNat) ⟨rfl, rfl, ins.length, by rw [hinl], Nat.le_refl _, by omega⟩ ?_
  rintro next ⟨ok, i'⟩ _ ⟨rfl, hok, i, hi', hi1, hi⟩ hnext
  dsimp only at hok hi'
  subst hok hi'
  refine Br_dec (fun hlt => ?_) fun _ => ?_
  · have hi2 : i < ins.length + 80 := by first | omega | (dsimp only at hlt; omega)
    refine Jn.mk (fun j H' => H3 = H' ∧ j = true) (fun kk hkk => ?_) ?_
    · rw [Br_true]
      refine IxA_rn' inV_len hWI (by decide) rfl (by rw [mk_len]; exact hi2) fun a1 g1 => ?_
      rw [getElem!_pos _ i (by rw [mk_len]; exact hi2), mk_ge hi1] at g1
      exact ⟨(-7, 0, 0), g1, hkk _ _ ⟨rfl, by simp [eqL, eqT]⟩⟩
    · rintro j _ ⟨rfl, rfl⟩
      exact Lt.mk (u := ((i + 1 : Nat) : Int)) (by rw [wrap_i64_id] <;> omega) (hnext _ _ ⟨rfl, rfl, i + 1, rfl, by omega, hi2⟩ (by dsimp only; omega))
  clear hnext
  refine ldP (ldP (Lt.mk (u := ((ps.length + 80 : Nat) : Int)) (by dsimp only; rw [wrap_i64_id] <;> omega) (SlA0 (by omega) (by first | omega | (dsimp only; omega)) (Int.le_refl _) ?_)))
  simp only [Int.toNat_natCast]
  refine LoopT.mk (fun s H' => H3 = H' ∧ s.1 = true ∧ ∃ i : Nat, s.2 = i ∧ i ≤ ps.length + 80) (fun s _ => ps.length + 80 - s.2.toNat) ⟨rfl, rfl, 0, rfl, by omega⟩ ?_
  rintro next ⟨ok, i'⟩ _ ⟨rfl, hok, i, hi', hi⟩ hnext
  dsimp only at hok hi'
  subst hok hi'
  refine Br_dec (fun hlt => ?_) fun _ => hk _ hE03
  have hi2 : i < ps.length + 80 := by first | omega | (dsimp only at hlt; omega)
  have ixW : ∀ {k : Addr → Prop}, (∀ a, hcells H3 a 0 (ptV ((markP qs)[i]'(by rw [mk_len, hlq]; exact hi2))) → k a) → IxA 2 ⟨some (adr bp), ps.length + 80, ps.length + 80⟩ (i : Nat) k := fun hk => IxA_rn' ptV_len hWP (by decide) rfl (by rw [mk_len, hlq]; exact hi2) fun a g => hk a (by rw [getElem!_pos _ i (by rw [mk_len, hlq]; exact hi2)] at g; exact g)
  refine Jn.mk (fun j H' => H3 = H' ∧ j = true) (fun kk hkk => ?_) ?_
  rotate_left
  · rintro j _ ⟨rfl, rfl⟩
    exact Lt.mk (u := ((i + 1 : Nat) : Int)) (by rw [wrap_i64_id] <;> omega) (hnext _ _ ⟨rfl, rfl, i + 1, rfl, hi2⟩ (by dsimp only; omega))
  refine ldQ (Br_dec (fun hge => ?_) fun hlt2 => ?_)
  · refine Jn_in ?_
    rw [Br_true]
    refine ixW fun a2 g2 => ?_
    rw [mk_ge (by omega)] at g2
    refine Ld_int (n := -7) g2.1 ?_
    rw [show ((-7 : Int) == -7) = true by decide, Br_true]
    refine ixW fun a3 g3 => ?_
    rw [mk_ge (by omega)] at g3
    refine Ld_sl (s := ⟨none, 0, 0⟩) g3.2.1 (hkk _ _ ⟨rfl, by decide⟩)
  · have hi3 : i < ps.length := by omega
    have hi4 : i < qs.length := by omega
    obtain ⟨_, ev⟩ := pt_get hq hi4 hi3
    obtain ⟨b, e1, hrow, _⟩ := hc.vls _ (List.getElem_mem hi4)
    have hvl := (hpr _ (List.getElem_mem hi3)).2
    have hvn := (hpr _ (List.getElem_mem hi3)).1.len
    rw [ev] at e1 hrow
    have lq : ∀ {k : Sl → Prop}, k ⟨some (adr b), ps[i].vals.length, ps[i].vals.length + 80⟩ → IxA 2 ⟨some (adr bp), ps.length + 80, ps.length + 80⟩ (i : Nat) fun a => Ld .sl (a.add 1) H3 k := fun h => ixW fun a g => by
      rw [mk_lt hi4] at g
      exact Ld_sl (s := qs[i].sl) g.2.1 (by rw [e1]; exact h)
    refine lq (lq (Lt.mk (u := ((ps[i].vals.length + 80 : Nat) : Int)) (by dsimp only; rw [wrap_i64_id] <;> omega) (SlA0 (by omega) (by first | omega | (dsimp only; omega)) (Int.le_refl _) ?_)))
    simp only [Int.toNat_natCast]
    refine ldQ (IxA_rn' ptV_len hprt (by decide) rfl hi3 fun a6 g6 => ?_)
    rw [getElem!_pos _ i hi3] at g6
    refine Ld_sl (s := ps[i].sl) g6.2.1 ?_
    have hWV : RL (Value.int .i64) H3 ⟨some (adr b), ps[i].vals.length + 80, ps[i].vals.length + 80⟩ (markV ps[i].vals) := ⟨hrow.rd_all, (mk_len _ _).symm, Nat.le_refl _⟩
    generalize ps[i].vals = vs at *
    refine LoopT.mk (fun s H' => H3 = H' ∧ s.1 = true ∧ ∃ i : Nat, s.2 = i ∧ vs.length ≤ i ∧ i ≤ vs.length + 80) (fun s _ => vs.length + 80 - s.2.toNat) ⟨rfl, rfl, vs.length, by rw [hvn], Nat.le_refl _, by omega⟩ ?_
    rintro next3 ⟨ok, i'⟩ _ ⟨rfl, hok, j, hi', hj1, hj⟩ hnext3
    dsimp only at hok hi'
    subst hok hi'
    refine Br_dec (fun hlt => ?_) fun _ => hkk _ _ ⟨rfl, rfl⟩
    have hj2 : j < vs.length + 80 := by first | omega | (dsimp only at hlt; omega)
    refine Jn.mk (fun j H' => H3 = H' ∧ j = true) (fun kk hkk => ?_) ?_
    · rw [Br_true]
      refine IxA_rl hWV rfl (by rw [mk_len]; exact hj2) fun a1 g1 => Ld_int (n := -7) (by rw [g1, mk_ge hj1]) (hkk _ _ ⟨rfl, by decide⟩)
    · rintro o _ ⟨rfl, rfl⟩
      exact Lt.mk (u := ((j + 1 : Nat) : Int)) (by rw [wrap_i64_id] <;> omega) (hnext3 _ _ ⟨rfl, rfl, j + 1, rfl, by omega, hj2⟩ (by dsimp only; omega))
theorem sys_rou {x y : Sy} (h : sysP x = sysP y) : rouP x.rou = rouP y.rou := by
  simp only [sysP, Prod.mk.injEq] at h
  exact Prod.ext h.2.2.2.2.1 (Prod.ext h.2.2.2.2.2.1 (Prod.ext h.2.2.2.2.2.2.1 h.2.2.2.2.2.2.2))
theorem map_get {α β γ : Type} {f : α → γ} {g : β → γ} {l : List α} {m : List β} (h : l.map f = m.map g) {n : Nat} (h1 : n < l.length) (h2 : n < m.length) : f l[n] = g m[n] := by
  have e : (l.map f)[n]? = (m.map g)[n]? := by rw [h]
  rwa [List.getElem?_map, List.getElem?_map, List.getElem?_eq_getElem h1, List.getElem?_eq_getElem h2, Option.map_some, Option.map_some, Option.some.injEq] at e
theorem s_routines' {lo : Nat} {r r' : Rou} (ha : CpC lo H r'.sl r'.code) (hb : CodeR H r) (he : rouP r' = rouP r) (hl : r.code.length ≤ 2 ^ 43) {k : Bool → Heap → Prop} (hk : ∀ H', Ext H H' → k true H') :
    CallT Pg f_L_routines [.agg #[.string r'.name, .int .i64 r'.params, .int .i64 r'.locals, .slice r'.sl.a r'.sl.len r'.sl.cap], .agg #[.string r.name, .int .i64 r.params, .int .i64 r.locals, .slice r.sl.a r.sl.len r.sl.cap]] BoolR H k := by
  simp only [rouP, Prod.mk.injEq] at he
  obtain ⟨e1, e2, e3, e4⟩ := he
  rw [e1, e2, e3]
  exact s_routines (by rw [← e4]; exact ha) hb hl hk
theorem s_unspoilt {lo bs bf : Nat} {p : Sl × Sl} {ss ss' : List Sy} {fs fs' : List Rou} (hP : PrgI H p ss fs) (hc : CpP lo H bs bf ss' fs') (hs : ss'.map sysP = ss.map sysP) (hf : fs'.map rouP = fs.map rouP) {k : Bool → Heap → Prop} (hk : ∀ H', Ext H H' → k true H') :
    CallT Pg f_L_unspoilt [prgA (cpQ bs bf ss.length fs.length), prgA p] BoolR H k := by
  refine c_L_unspoilt (cpQ bs bf ss.length fs.length) p ?_
  unfold v_L_unspoilt
  have hsl := hP.sys.len
  have hfl := hP.fun'.len
  have hsz := hP.sl
  have hfz := hP.fl
  have l1 : ss'.length = ss.length := by simpa using congrArg List.length hs
  have l2 : fs'.length = fs.length := by simpa using congrArg List.length hf
  generalize hn : ss.length = n at *
  generalize hm : fs.length = m at *
  refine Nw_row (vs := [slV (cpQ bs bf n m).1, slV (cpQ bs bf n m).2]) fun b1 H1 hb1 hE1 hz1 hr1 => ?_
  refine Nw_row (vs := [slV p.1, slV p.2]) fun b2 H2 hb2 hE2 hz2 hr2 => ?_
  have hE02 := hE1.trans hE2 fun _ _ h => h
  have hr1 := hE2.row hr1 fun h => h
  simp only [adr_add, mk_add]
  have hWS : RN sysV 8 H ⟨some (adr bs), n + 80, n + 80⟩ (markS ss') := ⟨hc.sys.rd_all, by rw [mk_len, l1], Nat.le_refl _⟩
  have hWF : RN rouV 4 H ⟨some (adr bf), m + 80, m + 80⟩ (markR fs') := ⟨hc.fun'.rd_all, by rw [mk_len, l2], Nat.le_refl _⟩
  have ldS : ∀ {H'} {k : Sl → Prop}, Ext H2 H' → k ⟨some (adr bs), n, n + 80⟩ → Ld .sl (adr b1) H' k := fun hE h => Ld_sl (((hE.row hr1 fun h => h).cell 0).trans rfl) h
  have ldF : ∀ {H'} {k : Sl → Prop}, Ext H2 H' → k ⟨some (adr bf), m, m + 80⟩ → Ld .sl ⟨b1, 1, none⟩ H' k := fun hE h => Ld_sl (((hE.row hr1 fun h => h).cell 1).trans rfl) h
  have ldS2 : ∀ {H'} {k : Sl → Prop}, Ext H2 H' → k p.1 → Ld .sl (adr b2) H' k := fun hE h => Ld_sl (s := p.1) (((hE.row hr2 fun h => h).cell 0).trans rfl) h
  have ldF2 : ∀ {H'} {k : Sl → Prop}, Ext H2 H' → k p.2 → Ld .sl ⟨b2, 1, none⟩ H' k := fun hE h => Ld_sl (s := p.2) (((hE.row hr2 fun h => h).cell 1).trans rfl) h
  have r0 : Ext H2 H2 := .refl _ _
  refine Jn.mk (fun j H' => H2 = H' ∧ j = false) (fun kk hkk => ?_) ?_
  · refine ldS r0 (ldS2 r0 ?_)
    dsimp only
    rw [hsl, show ((n : Int) != (n : Int)) = false by simp, Br_false]
    refine ldF r0 (ldF2 r0 (hkk _ _ ⟨rfl, ?_⟩))
    dsimp only
    rw [hfl]; simp
  rintro j _ ⟨rfl, rfl⟩
  rw [Br_false]
  refine ldS r0 (ldS r0 (Lt.mk (u := ((n + 80 : Nat) : Int)) (by dsimp only; rw [wrap_i64_id] <;> omega) (SlA0 (by omega) (by first | omega | (dsimp only; omega)) (Int.le_refl _) ?_)))
  simp only [Int.toNat_natCast]
  refine LoopT.mk (fun s H' => Ext H2 H' ∧ ∃ i : Nat, s = i ∧ i ≤ n + 80) (fun s _ => n + 80 - s.toNat) ⟨r0, 0, rfl, Nat.zero_le _⟩ ?_
  rintro next _ H4 ⟨hE4, i, rfl, hi⟩ hnext
  have hE04 := hE02.trans hE4 fun _ _ h => h
  refine Br_dec (fun hlt => ?_) fun _ => ?_
  · have hi2 : i < n + 80 := by first | omega | (dsimp only at hlt; omega)
    have hi2' : i < (markS ss').length := by rw [mk_len, l1]; exact hi2
    have ixW : ∀ {H'} {k : Addr → Prop}, Ext H H' → (∀ a, hcells H' a 0 (sysV ((markS ss')[i])) → k a) → IxA 8 ⟨some (adr bs), n + 80, n + 80⟩ (i : Nat) k := fun hE hk => IxA_rn' sysV_len (hWS.ext hE) (by decide) rfl hi2' fun a g => hk a (by rw [getElem!_pos _ i hi2'] at g; exact g)
    refine Jn.mk (fun _ H' => Ext H4 H') (fun kk hkk => ?_) ?_
    rotate_left
    · intro _ H5 hE5
      exact Lt.mk (u := ((i + 1 : Nat) : Int)) (by rw [wrap_i64_id] <;> omega) (hnext _ _ ⟨hE4.trans hE5 fun _ _ h => h, i + 1, rfl, hi2⟩ (by omega))
    refine ldS2 hE4 (Br_dec (fun hge => ?_) fun hlt2 => ?_)
    · have hge' : ss'.length ≤ i := by omega
      refine Jn.mk (fun j H' => H4 = H' ∧ j = false) (fun k3 hk3 => ?_) ?_
      · refine ixW hE04 fun a1 g1 => ?_
        rw [mk_ge hge'] at g1
        refine Ld_str (n := mkName) g1.2.2.2.2.1 ?_
        rw [show (!(mkName.toList == mkName.toList)) = false by simp, Br_false]
        have ld : ∀ {o : Nat} {k : Sl → Prop}, (o = 0 ∨ o = 1 ∨ o = 2 ∨ o = 3 ∨ o = 7) → k ⟨none, 0, 0⟩ → IxA 8 ⟨some (adr bs), n + 80, n + 80⟩ (i : Nat) fun a => Ld .sl (a.add o) H4 k := fun ho h => ixW hE04 fun a g => by
          rw [mk_ge hge'] at g
          refine Ld_sl (s := ⟨none, 0, 0⟩) ?_ h
          rcases ho with rfl | rfl | rfl | rfl | rfl
          · exact g.1
          · exact g.2.1
          · exact g.2.2.1
          · exact g.2.2.2.1
          · exact g.2.2.2.2.2.2.2.1
        have ld0 : ∀ {k : Sl → Prop}, k ⟨none, 0, 0⟩ → IxA 8 ⟨some (adr bs), n + 80, n + 80⟩ (i : Nat) fun a => Ld .sl a H4 k := fun h => ixW hE04 fun a g => by
          rw [mk_ge hge'] at g
          exact Ld_sl (s := ⟨none, 0, 0⟩) (by have := g.1; rw [add0] at this; exact this) h
        have ld43 : ∀ {k : Sl → Prop}, k ⟨none, 0, 0⟩ → IxA 8 ⟨some (adr bs), n + 80, n + 80⟩ (i : Nat) fun a => Ld .sl ((a.add 4).add 3) H4 k := fun h => ixW hE04 fun a g => by
          rw [mk_ge hge'] at g
          rw [addAdd]
          exact Ld_sl (s := ⟨none, 0, 0⟩) g.2.2.2.2.2.2.2.1 h
        refine ld43 ?_
        rw [show ((((⟨none, 0, 0⟩ : Sl).len : Nat) : Int) != 0) = false by decide, Br_false]
        exact ld0 (ld (.inr (.inl rfl)) (Lt.mk (u := 0) (by decide) (ld (.inr (.inr (.inl rfl))) (Lt.mk (u := 0) (by decide) (ld (.inr (.inr (.inr (.inl rfl)))) (Lt.mk (u := 0) (by decide) (hk3 _ _ ⟨rfl, by decide⟩)))))))
      · rintro j _ ⟨rfl, rfl⟩
        rw [Br_false]
        exact hkk _ _ (.refl _ _)
    · have hin : i < n := by omega
      have hi3 : i < ss.length := by omega
      have hi4 : i < ss'.length := by omega
      have he := map_get hs hi4 hi3
      have hX := hc.sysR _ (List.getElem_mem hi4)
      have hY := hP.sysR _ (List.getElem_mem hi3)
      refine ixW hE04 fun a7 g7 => ?_
      rw [mk_lt hi4] at g7
      have gy : ∀ {H'} {k : Addr → Prop}, Ext H H' → (∀ a, hcells H' a 0 (sysV ss[i]) → k a) → IxA 8 p.1 (i : Nat) k := fun hE hk => IxA_rn' sysV_len (hP.sys.ext hE) (by decide) rfl hi3 fun a g => hk a (by rw [getElem!_pos _ i hi3] at g; exact g)
      generalize ss'[i] = x at *
      generalize ss[i] = y at *
      refine ⟨(x.s 0, x.s 1, x.s 2, x.s 3, x.rou.name, x.rou.params, x.rou.locals, x.rou.sl), g7, ?_⟩
      refine Nw_row (vs := [.slice none 0 0, .slice none 0 0, .slice none 0 0, .slice none 0 0, .string ByteArray.empty, .int .i64 0, .int .i64 0, .slice none 0 0]) fun b3 H12 hb3 hE12 hz12 hr12 => ?_
      refine St_row hr12 (by simp) fun G1 hV1 _ hg1 => St_row hg1 (by simp) fun G2 hV2 _ hg2 => St_row hg2 (by simp) fun G3 hV3 _ hg3 => St_row hg3 (by simp) fun G4 hV4 _ hg4 => St_row hg4 (by simp) fun G5 hV5 _ hg5 => St_row hg5 (by simp) fun G6 hV6 _ hg6 => St_row hg6 (by simp) fun G7 hV7 _ hg7 => St_row hg7 (by simp) fun G8 hV8 _ hg8 => ?_
      have hg8 : Row G8 b3 T_api_System (sysV x) := hg8
      have hV : Upd (· = b3) H12 G8 := ((((((hV1.trans hV2 fun _ _ e => e).trans hV3 fun _ _ e => e).trans hV4 fun _ _ e => e).trans hV5 fun _ _ e => e).trans hV6 fun _ _ e => e).trans hV7 fun _ _ e => e).trans hV8 fun _ _ e => e
      have hEG : Ext H4 G8 := extUpd hE12 (by omega) hV
      have hE2G := hE4.trans hEG fun _ _ h => h
      have hE0G := hE02.trans hE2G fun _ _ h => h
      clear hV1 hV2 hV3 hV4 hV5 hV6 hV7 hV8 hg1 hg2 hg3 hg4 hg5 hg6 hg7 hV
      refine ldS2 hE2G (gy hE0G fun a8 g8 => ⟨(y.s 0, y.s 1, y.s 2, y.s 3, y.rou.name, y.rou.params, y.rou.locals, y.rou.sl), g8, ?_⟩)
      refine Nw_row (vs := [.slice none 0 0, .slice none 0 0, .slice none 0 0, .slice none 0 0, .string ByteArray.empty, .int .i64 0, .int .i64 0, .slice none 0 0]) fun b4 H16 hb4 hE16 hz16 hr16 => ?_
      refine St_row hr16 (by simp) fun K1 hV1 _ hk1 => St_row hk1 (by simp) fun K2 hV2 _ hk2 => St_row hk2 (by simp) fun K3 hV3 _ hk3 => St_row hk3 (by simp) fun K4 hV4 _ hk4 => St_row hk4 (by simp) fun K5 hV5 _ hk5 => St_row hk5 (by simp) fun K6 hV6 _ hk6 => St_row hk6 (by simp) fun K7 hV7 _ hk7 => St_row hk7 (by simp) fun K8 hV8 _ hk8 => ?_
      have hk8 : Row K8 b4 T_api_System (sysV y) := hk8
      have hV : Upd (· = b4) H16 K8 := ((((((hV1.trans hV2 fun _ _ e => e).trans hV3 fun _ _ e => e).trans hV4 fun _ _ e => e).trans hV5 fun _ _ e => e).trans hV6 fun _ _ e => e).trans hV7 fun _ _ e => e).trans hV8 fun _ _ e => e
      have hEK : Ext G8 K8 := extUpd hE16 (by omega) hV
      have hE4K := hEG.trans hEK fun _ _ h => h
      have hE2K := hE4.trans hE4K fun _ _ h => h
      have hE0K := hE02.trans hE2K fun _ _ h => h
      have hg8 := hEK.row hg8 fun h => h
      clear hV1 hV2 hV3 hV4 hV5 hV6 hV7 hV8 hk1 hk2 hk3 hk4 hk5 hk6 hk7 hV
      have cl : ∀ q, q < 4 → CpL lo K8 (x.s q) (y.l q) := fun q hq => by
        rw [← sy_ints he hq]
        exact (hX.sets q hq).upd hE0K fun _ _ _ _ h => h
      have cr : ∀ q, q < 4 → RL (Value.int .i64) K8 (y.s q) (y.l q) := fun q hq => (hY.sets q hq).ext hE0K
      refine Jn.mk (fun j H' => K8 = H' ∧ j = true) (fun k4 hk4 => ?_) ?_
      · refine Ld_sl (s := x.s 0) ((hg8.cell 0).trans rfl) (Ld_sl (s := y.s 0) ((hk8.cell 0).trans rfl) (s_sets (cl 0 (by decide)) (cr 0 (by decide)) (hY.lens 0 (by decide)) ?_))
        rw [Br_true]
        refine Ld_sl (s := x.s 1) ((hg8.cell 1).trans rfl) (Ld_sl (s := y.s 1) ((hk8.cell 1).trans rfl) (s_sets (cl 1 (by decide)) (cr 1 (by decide)) (hY.lens 1 (by decide)) ?_))
        rw [Br_true]
        refine Ld_sl (s := x.s 2) ((hg8.cell 2).trans rfl) (Ld_sl (s := y.s 2) ((hk8.cell 2).trans rfl) (s_sets (cl 2 (by decide)) (cr 2 (by decide)) (hY.lens 2 (by decide)) ?_))
        rw [Br_true]
        exact Ld_sl (s := x.s 3) ((hg8.cell 3).trans rfl) (Ld_sl (s := y.s 3) ((hk8.cell 3).trans rfl) (s_sets (cl 3 (by decide)) (cr 3 (by decide)) (hY.lens 3 (by decide)) (hk4 _ _ ⟨rfl, rfl⟩)))
      rintro j _ ⟨rfl, rfl⟩
      refine ⟨(x.rou.name, x.rou.params, x.rou.locals, x.rou.sl), ⟨(hg8.cell 4).trans rfl, (hg8.cell 5).trans rfl, (hg8.cell 6).trans rfl, (hg8.cell 7).trans rfl, trivial⟩, ⟨(y.rou.name, y.rou.params, y.rou.locals, y.rou.sl), ⟨(hk8.cell 4).trans rfl, (hk8.cell 5).trans rfl, (hk8.cell 6).trans rfl, (hk8.cell 7).trans rfl, trivial⟩, ?_⟩⟩
      refine s_routines' (r' := x.rou) (r := y.rou) (hX.code.upd hE0K fun _ _ _ _ h => h) (hY.rou.code.ext hE0K) (sys_rou he) hY.rou.len fun H30 hE30 => ?_
      refine Jn_in ?_
      rw [Bool.not_true, Br_false]
      dsimp only
      rw [Br_false]
      exact hkk _ _ (hE4K.trans hE30 fun _ _ h => h)
  clear hnext
  refine ldF hE4 (ldF hE4 (Lt.mk (u := ((m + 80 : Nat) : Int)) (by dsimp only; rw [wrap_i64_id] <;> omega) (SlA0 (by omega) (by first | omega | (dsimp only; omega)) (Int.le_refl _) ?_)))
  simp only [Int.toNat_natCast]
  refine LoopT.mk (fun s H' => Ext H2 H' ∧ ∃ i : Nat, s = i ∧ i ≤ m + 80) (fun s _ => m + 80 - s.toNat) ⟨hE4, 0, rfl, Nat.zero_le _⟩ ?_
  rintro next _ H4 ⟨hE4, i, rfl, hi⟩ hnext
  have hE04 := hE02.trans hE4 fun _ _ h => h
  refine Br_dec (fun hlt => ?_) fun _ => hk _ hE04
  have hi2 : i < m + 80 := by first | omega | (dsimp only at hlt; omega)
  have hi2' : i < (markR fs').length := by rw [mk_len, l2]; exact hi2
  have ixW : ∀ {H'} {k : Addr → Prop}, Ext H H' → (∀ a, hcells H' a 0 (rouV ((markR fs')[i])) → k a) → IxA 4 ⟨some (adr bf), m + 80, m + 80⟩ (i : Nat) k := fun hE hk => IxA_rn' rouV_len (hWF.ext hE) (by decide) rfl hi2' fun a g => hk a (by rw [getElem!_pos _ i hi2'] at g; exact g)
  refine Jn.mk (fun _ H' => Ext H4 H') (fun kk hkk => ?_) ?_
  rotate_left
  · intro _ H5 hE5
    exact Lt.mk (u := ((i + 1 : Nat) : Int)) (by rw [wrap_i64_id] <;> omega) (hnext _ _ ⟨hE4.trans hE5 fun _ _ h => h, i + 1, rfl, hi2⟩ (by omega))
  refine ldF2 hE4 (Br_dec (fun hge => ?_) fun hlt2 => ?_)
  · have hge' : fs'.length ≤ i := by omega
    refine Jn.mk (fun j H' => H4 = H' ∧ j = false) (fun k3 hk3 => ?_) ?_
    · refine ixW hE04 fun a1 g1 => ?_
      rw [mk_ge hge'] at g1
      refine Ld_str (n := mkName) (by have := g1.1; rw [add0] at this; exact this) ?_
      rw [show (!(mkName.toList == mkName.toList)) = false by simp, Br_false]
      refine ixW hE04 fun a1 g1 => ?_
      rw [mk_ge hge'] at g1
      exact Ld_sl (s := ⟨none, 0, 0⟩) g1.2.2.2.1 (hk3 _ _ ⟨rfl, by decide⟩)
    · rintro j _ ⟨rfl, rfl⟩
      rw [Br_false]
      exact hkk _ _ (.refl _ _)
  · have hi3 : i < fs.length := by omega
    have hi4 : i < fs'.length := by omega
    have he := map_get hf hi4 hi3
    have hX := hc.funR _ (List.getElem_mem hi4)
    have hY := hP.funR _ (List.getElem_mem hi3)
    refine ixW hE04 fun a7 g7 => ?_
    rw [mk_lt hi4] at g7
    refine ⟨(fs'[i].name, fs'[i].params, fs'[i].locals, fs'[i].sl), g7, ldF2 hE4 (IxA_rn' rouV_len (hP.fun'.ext hE04) (by decide) rfl hi3 fun a8 g8 => ?_)⟩
    rw [getElem!_pos _ i hi3] at g8
    refine ⟨(fs[i].name, fs[i].params, fs[i].locals, fs[i].sl), g8, ?_⟩
    refine s_routines' (r' := fs'[i]) (r := fs[i]) (hX.upd hE04 fun _ _ _ _ h => h) (hY.code.ext hE04) he hY.len fun H30 hE30 => ?_
    refine Stab_1 ((((hE4.trans hE30 fun _ _ h => h).row hr2 fun h => h).cell 1).trans rfl) ?_
    rw [Bool.not_true, Br_false]
    exact hkk _ _ hE30
end
end Go.Proofs.YtfpmgpblhhcpgaaGreat
namespace Go.Proofs.YtfpmgpblhhcpgaaGreat.Hc
set_option linter.unusedVariables false
set_option linter.unusedSimpArgs false
set_option maxRecDepth 100000
section
structure Tou (M : Nat → Prop) (S : TypeId → Prop) (H H' : Heap) : Prop where
  upd : Upd M H H'
  row : ∀ {b T cs}, Row H b T cs → ∃ cs', Row H' b T cs' ∧ cs'.length = cs.length ∧ (¬ S T → cs' = cs)
variable {M : Nat → Prop} {S : TypeId → Prop} {H H' : Heap}
theorem Tou.refl (M : Nat → Prop) (S : TypeId → Prop) (H : Heap) : Tou M S H H := ⟨.refl _ _, fun h => ⟨_, h, rfl, fun _ => rfl⟩⟩
theorem Tou.trans {M2 : Nat → Prop} {S2 : TypeId → Prop} {H2 : Heap} (h : Tou M S H H') (h2 : Tou M2 S2 H' H2) (hM : ∀ b, b < H.size → M2 b → M b) (hS : ∀ T, S2 T → S T) : Tou M S H H2 :=
  ⟨h.upd.trans h2.upd hM, fun hr => by
    obtain ⟨c, g1, g2, g3⟩ := h.row hr
    obtain ⟨d, k1, k2, k3⟩ := h2.row g1
    exact ⟨d, k1, k2.trans g2, fun hn => (k3 fun hs => hn (hS _ hs)).trans (g3 hn)⟩⟩
theorem Tou.mono {M2 : Nat → Prop} {S2 : TypeId → Prop} (h : Tou M S H H') (hM : ∀ b, b < H.size → M b → M2 b) (hS : ∀ T, S T → S2 T) : Tou M2 S2 H H' :=
  ⟨h.upd.mono hM, fun hr => by
    obtain ⟨c, g1, g2, g3⟩ := h.row hr
    exact ⟨c, g1, g2, fun hn => g3 fun hs => hn (hS _ hs)⟩⟩
theorem Tou.of_ext (M : Nat → Prop) (S : TypeId → Prop) (h : Ext H H') : Tou M S H H' := ⟨h.mono fun _ _ h => h.elim, fun hr => ⟨_, h.row hr fun h => h, rfl, fun _ => rfl⟩⟩
theorem Row.uniq {b : Nat} {T T' : TypeId} {cs ds : List Value} (h : Row H b T cs) (h' : Row H b T' ds) : T = T' ∧ cs = ds := by
  unfold Row at h h'
  rw [h] at h'
  cases h'
  exact ⟨rfl, rfl⟩
theorem Tou.of_st {b : Nat} {T : TypeId} {cs cs' : List Value} (h : Row H b T cs) (hU : Upd (· = b) H H') (h' : Row H' b T cs') (hl : cs'.length = cs.length) : Tou (· = b) (· = T) H H' :=
  ⟨hU, fun {c T2 ds} hr => by
    by_cases e : c = b
    · subst e
      obtain ⟨rfl, rfl⟩ := h.uniq hr
      exact ⟨cs', h', hl, fun hn => absurd rfl hn⟩
    · exact ⟨ds, hU.row hr e, rfl, fun _ => rfl⟩⟩
theorem Tou.keep {b : Nat} {T : TypeId} {cs : List Value} (h : Tou M S H H') (hr : Row H b T cs) (hn : ¬ S T) : Row H' b T cs := by
  obtain ⟨c, g1, _, g3⟩ := h.row hr
  rw [g3 hn] at g1
  exact g1
theorem VecN.tou {T : TypeId} {n : Nat} {s : Sl} {vs : List Value} (hv : VecN H T n s vs) (h : Tou M S H H') (hn : ¬ S T) : VecN H' T n s vs := by
  refine ⟨hv.len, ?_, hv.lc⟩
  rcases hv.own with h1 | ⟨b, sp, h1, h2, h3⟩
  · exact .inl h1
  · exact .inr ⟨b, sp, h1, h.keep h2 hn, h3⟩
theorem Vec.n1 {T : TypeId} {s : Sl} {vs : List Value} (h : Vec H T s vs) : VecN H T 1 s vs := by
  refine ⟨by rw [h.len]; simp, ?_, h.lc⟩
  rcases h.own with h1 | ⟨b, sp, h1, h2, h3⟩
  · exact .inl h1
  · exact .inr ⟨b, sp, h1, h2, by simpa using h3⟩
def Room (H : Heap) (T : TypeId) (n : Nat) (s : Sl) : Prop := ∃ vs, VecN H T n s vs
theorem Room.tou {T : TypeId} {n : Nat} {s : Sl} (hv : Room H T n s) (h : Tou M S H H') : Room H' T n s := by
  obtain ⟨vs, hl, ho, hc⟩ := hv
  rcases ho with ⟨h1, h2, h3⟩ | ⟨b, sp, h1, h2, h3⟩
  · exact ⟨vs, hl, .inl ⟨h1, h2, h3⟩, hc⟩
  · obtain ⟨c, g1, g2, _⟩ := h.row h2
    have hle : s.len * n ≤ c.length := by rw [g2, List.length_append, hl]; exact Nat.le_add_right _ _
    refine ⟨c.take (s.len * n), by rw [List.length_take, Nat.min_eq_left hle], .inr ⟨b, c.drop (s.len * n), h1, by rw [List.take_append_drop]; exact g1, ?_⟩, hc⟩
    rw [List.length_take, Nat.min_eq_left hle, List.length_drop, g2, List.length_append]
    omega
theorem App_tou {T : TypeId} {n bytes : Nat} {z : Array Value} {s x : Sl} {k : Sl → Heap → Prop} {vs ws : List Value} (hz : z.size = n) (hn : 0 < n) (hv : VecN H T n s vs) (hx : rdL H x.a ws) (hxl : ws.length = x.len * n)
    (hone : ∀ w ∈ ws, w.oneCell' = true) (hb : bytes ≠ 0) (hcap : (s.len + x.len + (s.len + x.len) / 4 + 1000) * bytes ≤ 2 ^ 48)
    (hk : ∀ s' H', VecN H' T n s' (vs ++ ws) → s'.len = s.len + x.len → Tou (fun b => s.a = some (adr b)) (· = T) H H' → (s'.a = s.a ∧ s'.cap = s.cap ∨ (∃ b, s'.a = some (adr b) ∧ H.size ≤ b) ∧ Ext H H') → k s' H') :
    App T n bytes z s x H k := by
  have hlen := hv.len
  refine ⟨ws, hx, fun _ => by omega, fun hfit => ?_, fun hgrow => ?_⟩
  · rcases hv.own with ⟨h1, h2, h3⟩ | ⟨b, sp, h1, h2, h3⟩
    · rw [h1]
      have hx0 : x.len = 0 := by omega
      have hw : ws = [] := List.eq_nil_of_length_eq_zero (by rw [hxl, hx0]; simp)
      subst hw h3
      exact hk _ H ⟨by simp only [List.append_nil, List.length_nil]; simp at hlen; rw [hx0]; simp; omega, .inl ⟨rfl, by simpa using h2, rfl⟩, hfit⟩ rfl (.refl _ _ _) (.inl ⟨h1.symm, rfl⟩)
    · rw [h1]
      dsimp only
      rw [adr_add]
      have hm : (s.len + x.len) * n ≤ s.cap * n := Nat.mul_le_mul_right n hfit
      rw [Nat.add_mul] at hm
      refine StL_row h2 (by simp; omega) hone fun H' hU hs hr => ?_
      refine hk _ H' ⟨by simp only [List.length_append, Nat.add_mul]; omega, .inr ⟨b, sp.drop ws.length, rfl, ?_, by simp; omega⟩, hfit⟩ rfl ((Tou.of_st h2 (hU.mono fun _ _ e => e.1) hr ?_).mono (fun b' _ e => ?_) fun _ e => e) (.inl ⟨h1.symm, rfl⟩)
      · rw [Nat.add_zero, ← hlen, List.take_left, List.drop_append, List.drop_eq_nil_of_le (by omega), List.nil_append] at hr
        rw [show vs.length + ws.length - vs.length = ws.length by omega] at hr
        exact hr
      · simp only [List.length_append, List.length_take, List.length_drop]
        omega
      · rw [e]; exact h1
  · refine ⟨hb, ?_, vs, hv.rd, fun _ => by omega, fun c hc => ?_⟩
    · have := nextcap_le (s.len + x.len) s.cap hgrow
      exact Nat.le_trans (Nat.mul_le_mul_right bytes this) hcap
    · refine hk _ _ ⟨?_, .inr ⟨H.size, (zcells z ((c - (s.len + x.len)) * z.size)).toList, rfl, ?_, ?_⟩, hc⟩ rfl (Tou.of_ext _ _ (Upd.push _ _ _)) (.inr ⟨⟨_, rfl, Nat.le_refl _⟩, Upd.push _ _ _⟩)
      · simp only [List.length_append, Nat.add_mul]; omega
      · unfold Row
        rw [get_push_new]
        congr 2
        apply Array.ext'; simp
      · simp only [List.length_append, Array.length_toList, zcells_size, hz]
        rw [hlen, hxl, ← Nat.add_mul, ← Nat.add_mul]
        exact Nat.mul_le_mul_right n (by omega)
theorem grow_step {T : TypeId} {n bytes : Nat} {z : Array Value} {s : Sl} {k : Sl → Heap → Prop} {vs ws : List Value} (hv : VecN H T n s vs) (hz : z.size = n) (hn : 0 < n) (hw : ws.length = n) (hone : ∀ w ∈ ws, w.oneCell' = true) (hb : bytes ≠ 0) (hcap : (s.len + 1 + (s.len + 1) / 4 + 1000) * bytes ≤ 2 ^ 48)
    (hk : ∀ s' H', VecN H' T n s' (vs ++ ws) → s'.len = s.len + 1 → Tou (fun b => s.a = some (adr b)) (· = T) H H' → (s'.a = s.a ∧ s'.cap = s.cap ∨ (∃ b, s'.a = some (adr b) ∧ H.size ≤ b) ∧ Ext H H') → k s' H') :
    Nw ⟨ws⟩ T H fun b H4 => App T n bytes z s ⟨some (adr b), 1, 1⟩ H4 k :=
  Nw_row (vs := ws) fun b H4 hb4 hE4 _ hr4 => App_tou (ws := ws) hz hn (hv.ext hE4) hr4.rd_all (by rw [hw]; simp) hone hb hcap fun s' H' h1 h2 h3 h4 =>
    hk s' H' h1 h2 ((Tou.of_ext _ _ hE4).trans h3 (fun _ _ h => h) fun _ h => h) (h4.imp id fun ⟨⟨b, g1, g2⟩, g3⟩ => ⟨⟨b, g1, by have := hE4.size; omega⟩, hE4.trans g3 fun _ _ h => h⟩)
theorem grow_fix {T : TypeId} {n bytes : Nat} {z : Array Value} {ws : List Value} {cnt : Int} {s : Sl} {K : Heap → Prop} (hv : Room H T n s) (hz : z.size = n) (hn : 0 < n) (hw : ws.length = n) (hone : ∀ w ∈ ws, w.oneCell' = true) (hb : bytes ≠ 0) (hc0 : 0 ≤ cnt) (hc : cnt ≤ 100) (hcap : (s.len + 2000 + s.len / 4) * bytes ≤ 2 ^ 48)
    (hK : ∀ H', Tou (fun b => s.a = some (adr b)) (· = T) H H' → K H') :
    LoopT (σ := Sl × Int) (fun next s H => Br (decide (s.2 < cnt)) (Nw ⟨ws⟩ T H fun b H4 => App T n bytes z s.1 ⟨some (adr b), 1, 1⟩ H4 fun l H5 => Lt (IntKind.wrap .i64 (s.2 + 1)) fun t => next (l, t) H5) (K H)) (s, 0) H := by
  refine LoopT.mk (fun q H' => ∃ (i : Nat) (vs : List Value), q.2 = i ∧ (i : Int) ≤ cnt ∧ VecN H' T n q.1 vs ∧ q.1.len = s.len + i ∧ Tou (fun b => s.a = some (adr b)) (· = T) H H' ∧ (q.1.a = s.a ∨ ∃ b, q.1.a = some (adr b) ∧ H.size ≤ b)) (fun q _ => cnt.toNat - q.2.toNat)
    (by obtain ⟨vs, h⟩ := hv; exact ⟨0, vs, rfl, by omega, h, rfl, .refl _ _ _, .inl rfl⟩) ?_
  rintro next ⟨q, i'⟩ H1 ⟨i, vs, hi', hi, hq, hql, ht, ho⟩ hnext
  dsimp only at hi' hq hql ho
  subst hi'
  refine Br_dec (fun hlt => ?_) fun _ => hK _ ht
  have hlt : (i : Int) < cnt := hlt
  refine grow_step hq hz hn hw hone hb (Nat.le_trans (Nat.mul_le_mul_right bytes (by rw [hql]; omega)) hcap) fun q' H2 g1 g2 g3 g4 => ?_
  refine Lt.mk (u := ((i + 1 : Nat) : Int)) (by rw [wrap_i64_id] <;> omega) (hnext _ _ ⟨i + 1, _, rfl, by omega, g1, by rw [g2, hql]; omega, ?_, ?_⟩ (by dsimp only; omega))
  · have hz := ht.upd.size
    refine ht.trans g3 (fun b hb e => ?_) fun _ h => h
    rcases ho with ho | ⟨c, h1, h2⟩
    · rw [← ho]; exact e
    · rw [h1] at e; cases e; omega
  · rcases g4 with ⟨g4, _⟩ | ⟨⟨b, h1, h2⟩, _⟩
    · dsimp only; rw [g4]; exact ho
    · exact .inr ⟨b, h1, by have := ht.upd.size; omega⟩
def StA (a : Addr) : Nat → List Value → Heap → (Heap → Prop) → Prop
  | _, [], H, K => K H
  | o, v :: vs, H, K => St (a.add o) v H fun H' => StA a (o + 1) vs H' K
theorem StA_S {b m : Nat} : ∀ {ws : List Value} {o : Nat} {H : Heap} {K : Heap → Prop}, StS b (m + o) ws H K → StA ⟨b, m, none⟩ o ws H K
  | [], _, _, _, h => h
  | _ :: _, _, _, _, h => fun_st h
where
  fun_st {b m o : Nat} {v : Value} {ws : List Value} {H : Heap} {K : Heap → Prop} (h : StS b (m + o) (v :: ws) H K) : StA ⟨b, m, none⟩ o (v :: ws) H K := by
    unfold StA
    unfold StS at h
    rw [mk_add]
    exact St.imp' h fun H' h' => StA_S (by rw [← Nat.add_assoc]; exact h')
  St.imp' {a : Addr} {v : Value} {H : Heap} {K K' : Heap → Prop} (h : St a v H K) (hk : ∀ H', K H' → K' H') : St a v H K' := by
    exact ⟨h.1, h.2.1, hk _ h.2.2⟩
theorem StS_at {b o : Nat} {T : TypeId} {cs ws : List Value} {H : Heap} {K : Heap → Prop} (hr : Row H b T cs) (hl : o + ws.length ≤ cs.length) (hK : ∀ H', Upd (· = b) H H' → Row H' b T (cs.take o ++ ws ++ cs.drop (o + ws.length)) → K H') : StS b o ws H K := by
  have e : cs = cs.take o ++ (cs.drop o).take ws.length ++ cs.drop (o + ws.length) := by
    rw [List.append_assoc, ← List.drop_drop, List.take_append_drop, List.take_append_drop]
  have ho : (cs.take o).length = o := by rw [List.length_take, Nat.min_eq_left (by omega)]
  rw [e] at hr
  have := StS_row (K := K) hr (by rw [List.length_take, List.length_drop, Nat.min_eq_left (by omega)]) fun H' hU _ h => hK H' hU h
  rwa [ho] at this
theorem put_room {T : TypeId} {n : Nat} {s : Sl} {ws : List Value} {H : Heap} {K : Heap → Prop} (hv : Room H T n s) (hw : ws.length = n) (hn : 0 < n) {i : Int} {j : Nat} (hj : i = j) (hl : j < s.len) (hK : ∀ H', Tou (fun b => s.a = some (adr b)) (· = T) H H' → K H') : IxA n s i fun a => StA a 0 ws H K := by
  obtain ⟨vs, hlen, ho, _⟩ := hv
  have h2 : j * n + n ≤ s.len * n := by
    calc j * n + n = (j + 1) * n := by rw [Nat.add_mul]; simp
      _ ≤ s.len * n := Nat.mul_le_mul_right n hl
  rcases ho with ⟨_, _, h3⟩ | ⟨b, sp, h1, hr, _⟩
  · subst h3; simp at hlen; omega
  · subst hj
    refine IxA.mk h1 (by omega) (by omega) ?_
    rw [adr_add, Int.toNat_natCast]
    refine StA_S (StS_at hr (by rw [List.length_append]; omega) fun H' hU h => hK H' ((Tou.of_st hr hU h ?_).mono (fun c _ e => by rw [e]; exact h1) fun _ e => e))
    simp only [List.length_append, List.length_take, List.length_drop]
    omega
theorem put_vecN {α : Type} {f : α → List Value} {n : Nat} (hf : ∀ e, (f e).length = n) (hn : 0 < n) {T : TypeId} {s : Sl} {ys : List α} {x : α} {H : Heap} {K : Heap → Prop} (hv : VecN H T n s (ys.flatMap f)) {i : Int} {j : Nat} (hj : i = j) (hl : j < ys.length)
    (hK : ∀ H', VecN H' T n s ((ys.set j x).flatMap f) → Tou (fun b => s.a = some (adr b)) (· = T) H H' → K H') : IxA n s i fun a => StA a 0 (f x) H K := by
  have hlen := hv.len
  rw [flat_len hf] at hlen
  have hsl := Nat.eq_of_mul_eq_mul_right hn hlen
  rcases hv.own with ⟨_, _, h3⟩ | ⟨b, sp, h1, hr, h3⟩
  · have := flat_len hf (es := ys)
    rw [h3] at this
    have := Nat.mul_pos (show 0 < ys.length by omega) hn
    simp at *; omega
  · subst hj
    refine IxA.mk h1 (by omega) (by omega) ?_
    rw [adr_add, Int.toNat_natCast]
    have e : ys.flatMap f = (ys.take j).flatMap f ++ f ys[j] ++ (ys.drop (j + 1)).flatMap f := by
      rw [show ys.flatMap f = (ys.take j ++ ys[j] :: ys.drop (j + 1)).flatMap f from congrArg _ (by rw [List.getElem_cons_drop, List.take_append_drop]), List.flatMap_append, List.flatMap_cons, ← List.append_assoc]
    have e2 : (ys.set j x).flatMap f = (ys.take j).flatMap f ++ f x ++ (ys.drop (j + 1)).flatMap f := by
      rw [List.set_eq_take_append_cons_drop, if_pos hl, List.flatMap_append, List.flatMap_cons, ← List.append_assoc]
    have hA : ((ys.take j).flatMap f).length = j * n := by rw [flat_len hf, List.length_take, Nat.min_eq_left (by omega)]
    have hr0 := hr
    rw [e, List.append_assoc] at hr
    have := StS_row (K := K) (ws := f x) hr (by rw [hf, hf]) fun H' hU _ h => by
      rw [← List.append_assoc, ← e2] at h
      exact hK H' ⟨by rw [flat_len hf, List.length_set, hsl], .inr ⟨b, sp, h1, h, by rw [flat_len hf, List.length_set]; rw [flat_len hf] at h3; exact h3⟩, hv.lc⟩ ((Tou.of_st hr0 hU h (by simp only [List.length_append, flat_len hf, List.length_set])).mono (fun c _ e => by rw [e]; exact h1) fun _ e => e)
    rw [hA] at this
    exact StA_S this
theorem put1 {T : TypeId} {s : Sl} {v0 : Value} {H : Heap} {K : Heap → Prop} (hv : Room H T 1 s) {i : Int} {j : Nat} (hj : i = j) (hl : j < s.len) (hK : ∀ H', Tou (fun b => s.a = some (adr b)) (· = T) H H' → K H') : IxA 1 s i fun a => St a v0 H fun H1 => K H1 := put_room (ws := [v0]) hv rfl (by decide) hj hl hK
theorem put2 {T : TypeId} {s : Sl} {v0 v1 : Value} {H : Heap} {K : Heap → Prop} (hv : Room H T 2 s) {i : Int} {j : Nat} (hj : i = j) (hl : j < s.len) (hK : ∀ H', Tou (fun b => s.a = some (adr b)) (· = T) H H' → K H') : IxA 2 s i fun a => St (a.add 0) v0 H fun H1 => St (a.add 1) v1 H1 fun H2 => K H2 := put_room (ws := [v0, v1]) hv rfl (by decide) hj hl hK
theorem put5 {T : TypeId} {s : Sl} {v0 v1 v2 v3 v4 : Value} {H : Heap} {K : Heap → Prop} (hv : Room H T 5 s) {i : Int} {j : Nat} (hj : i = j) (hl : j < s.len) (hK : ∀ H', Tou (fun b => s.a = some (adr b)) (· = T) H H' → K H') : IxA 5 s i fun a => St (a.add 0) v0 H fun H1 => St (a.add 1) v1 H1 fun H2 => St (a.add 2) v2 H2 fun H3 => St (a.add 3) v3 H3 fun H4 => St (a.add 4) v4 H4 fun H5 => K H5 := put_room (ws := [v0, v1, v2, v3, v4]) hv rfl (by decide) hj hl hK
theorem put_raw {T : TypeId} {n : Nat} {s : Sl} {vs ws : List Value} {H : Heap} {K : Heap → Prop} (hv : VecN H T n s vs) (hw : ws.length = n) (hn : 0 < n) {i : Int} {j : Nat} (hj : i = j) (hl : j < s.len)
    (hK : ∀ H', VecN H' T n s (vs.take (j * n) ++ ws ++ vs.drop (j * n + n)) → Tou (fun b => s.a = some (adr b)) (· = T) H H' → K H') : IxA n s i fun a => StA a 0 ws H K := by
  obtain ⟨hlen, ho, hc⟩ := hv
  have h2 : j * n + n ≤ s.len * n := by
    calc j * n + n = (j + 1) * n := by rw [Nat.add_mul]; simp
      _ ≤ s.len * n := Nat.mul_le_mul_right n hl
  rcases ho with ⟨_, _, h3⟩ | ⟨b, sp, h1, hr, h3⟩
  · subst h3; simp at hlen; omega
  · subst hj
    refine IxA.mk h1 (by omega) (by omega) ?_
    rw [adr_add, Int.toNat_natCast]
    refine StA_S (StS_at hr (by rw [List.length_append]; omega) fun H' hU h => ?_)
    have hll : (vs.take (j * n) ++ ws ++ vs.drop (j * n + n)).length = s.len * n := by simp only [List.length_append, List.length_take, List.length_drop]; omega
    refine hK H' ⟨hll, .inr ⟨b, sp, h1, ?_, by rw [hll]; omega⟩, hc⟩ ((Tou.of_st hr hU h ?_).mono (fun c _ e => by rw [e]; exact h1) fun _ e => e)
    · rw [Nat.add_zero, hw, List.take_append_of_le_length (by omega), List.drop_append_of_le_length (by omega), ← List.append_assoc] at h
      exact h
    · simp only [List.length_append, List.length_take, List.length_drop]
      omega
end
end Go.Proofs.YtfpmgpblhhcpgaaGreat.Hc
