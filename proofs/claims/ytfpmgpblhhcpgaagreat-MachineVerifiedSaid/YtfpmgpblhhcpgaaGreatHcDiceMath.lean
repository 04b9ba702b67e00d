/-
  checker.touches: the plain part.
-/
import Derived.Test.YtfpmgpblhhcpgaaGreatVX
import Derived.Test.YtfpmgpblhhcpgaaGreatWB
import Derived.Test.YtfpmgpblhhcpgaaGreatVMacB
import Derived.Test.YtfpmgpblhhcpgaaGreatHcLists
import Derived.KernelRfl
import Derived.Test.YtfpmgpblhhcpgaaGreatProg
import Derived.RangeFuncBox
import Derived.RangeFuncLeaves
import Derived.Shelf.Abstract
import Derived.WalkKit
import Derived.OwnWalkIn
import Derived.TacticsInMore
import Derived.LoopNIn
import Derived.LoopIn
import Derived.RangeFuncNested
namespace Go.Proofs.YtfpmgpblhhcpgaaGreat
set_option linter.unusedVariables false
set_option linter.unusedSimpArgs false
set_option maxRecDepth 100000
section
open Hc Hc.Vf
variable {H : Heap}
def hopBad (c : List Ins) (j : Nat) : Bool := decide (((c[j]!).1 = 19 ∨ (c[j]!).1 = 20) ∧ 1 ≤ (c[j]!).2 ∧ (c[j]!).2 < c.length ∧ opI c ((c[j]!).2 - 1) = 26)
def tAt (ks : List Ki) (nf : Nat) (sy : Option Sy) (r : Rou) (j : Nat) : Nat := if accB ks nf sy r j then (if hopBad r.code j then 150 else 0) else 152
def tR (ks : List Ki) (nf : Nat) (sy : Option Sy) (r : Rou) : Option (Nat × Nat) := ((List.range r.code.length).find? fun j => tAt ks nf sy r j != 0).map fun j => (j, tAt ks nf sy r j)
def syAt (ss : List Sy) (i : Nat) : Option Sy := if i < ss.length then some (ss[i]!) else none
def tI (ks : List Ki) (ss : List Sy) (fs : List Rou) (i : Nat) : Option (Nat × Nat) := (tR ks fs.length (syAt ss i) ((rousL ss fs)[i]!)).map fun x => (sumL ((rousL ss fs).take i) + x.1, x.2)
def touchO (ks : List Ki) (ss : List Sy) (fs : List Rou) : Option (Nat × Nat) := (List.range (ss.length + fs.length)).findSome? (tI ks ss fs)
theorem findSome_range {β : Type} {f : Nat → Option β} {n i : Nat} (hi : i < n) (h : ∀ j, j < i → f j = none) {b : β} (hb : f i = some b) : (List.range n).findSome? f = some b := by
  induction n with
  | zero => omega
  | succ n ih =>
    rw [List.range_succ, List.findSome?_append]
    rcases Nat.lt_or_ge i n with g | g
    · rw [ih g]; rfl
    · have : i = n := by omega
      subst this
      have : (List.range i).findSome? f = none := by
        rw [List.findSome?_eq_none_iff]
        exact fun j hj => h j (List.mem_range.1 hj)
      rw [this]; simp [hb]
theorem syOf_at {ss : List Sy} {fs : List Rou} {rts : List Rt} {j : Nat} (hR : ∀ x ∈ ss, SyR H x) (h : PRt H ss fs j (rts[j]!)) : SyOf H (rts[j]!) (syAt ss j) := by
  unfold syAt
  split
  · rename_i hj
    obtain ⟨a, h1, h2⟩ := h.sys hj
    exact ⟨a, h1, h2, hR _ (by rw [getElem!_pos ss j hj]; exact List.getElem_mem hj)⟩
  · exact h.non (by omega)
end
section
open Hc Hc.Vf
variable {H : Heap}
theorem tR_some {ks : List Ki} {nf : Nat} {sy : Option Sy} {r : Rou} {j : Nat} (hj : j < r.code.length) (hno : ∀ e, e < j → tAt ks nf sy r e = 0) (h : tAt ks nf sy r j ≠ 0) : tR ks nf sy r = some (j, tAt ks nf sy r j) := by
  unfold tR
  have : (List.range r.code.length).find? (fun j => tAt ks nf sy r j != 0) = some j := by
    rw [List.find?_range_eq_some]
    exact ⟨bne_iff_ne.2 h, List.mem_range.2 hj, fun e he => by rw [hno e he]; rfl⟩
  rw [this]; rfl
theorem tR_none {ks : List Ki} {nf : Nat} {sy : Option Sy} {r : Rou} (hno : ∀ e, e < r.code.length → tAt ks nf sy r e = 0) : tR ks nf sy r = none := by
  unfold tR
  have : (List.range r.code.length).find? (fun j => tAt ks nf sy r j != 0) = none := by
    rw [List.find?_range_eq_none]
    intro e he; rw [hno e he]; rfl
  rw [this]; rfl
theorem rt_copy {x : Rt} {K : Nat → Heap → Prop} (hK : ∀ b H', b = H.size → Ext H H' → Row H' b TQbg (rtV x) → K b H') :
    Nw #[.int .i64 0, .string ByteArray.empty, .int .i64 0, .int .i64 0, .slice none 0 0, .pointer none] TQbg H fun b1 H2 =>
        St ((adr b1).add 0) (.int .i64 (x.at' : Nat)) H2 fun H3 => St ((adr b1).add 1) (.string x.rou.name) H3 fun H4 => St ((adr b1).add 2) (.int .i64 x.rou.params) H4 fun H5 =>
        St ((adr b1).add 3) (.int .i64 x.rou.locals) H5 fun H6 => St ((adr b1).add 4) (slV x.rou.sl) H6 fun H7 => St ((adr b1).add 5) (.pointer x.ptr) H7 fun H8 => K b1 H8 := by
  refine Nw_row (vs := [.int .i64 0, .string ByteArray.empty, .int .i64 0, .int .i64 0, .slice none 0 0, .pointer none]) fun b1 H1 hb1 hE1 _ hr1 => ?_
  simp only [adr_add]
  refine St_row hr1 (by simp) fun H2 hU2 _ hr2 => St_row hr2 (by simp) fun H3 hU3 _ hr3 => St_row hr3 (by simp) fun H4 hU4 _ hr4 => St_row hr4 (by simp) fun H5 hU5 _ hr5 =>
    St_row hr5 (by simp) fun H6 hU6 _ hr6 => St_row hr6 (by simp) fun H7 hU7 _ hr7 => ?_
  exact hK _ _ hb1 (extUpd hE1 (by omega) (((((hU2.trans hU3 fun _ _ h => h).trans hU4 fun _ _ h => h).trans hU5 fun _ _ h => h).trans hU6 fun _ _ h => h).trans hU7 fun _ _ h => h)) hr7
theorem ld_rt {a : Addr} {x : Rt} {k : Int × ByteArray × Int × Int × Sl × Option Addr → Prop} (h : hcells H a 0 (rtV x)) (hk : k ((x.at' : Nat), x.rou.name, x.rou.params, x.rou.locals, x.rou.sl, x.ptr)) : LdC [(.int .i64), .str, (.int .i64), (.int .i64), .sl, .ptr] a H k :=
  ⟨((x.at' : Nat), x.rou.name, x.rou.params, x.rou.locals, x.rou.sl, x.ptr), h, hk⟩
theorem rt_rou {b : Nat} {x : Rt} (hr : Row H b TQbg (rtV x)) : hcells H ⟨b, 1, none⟩ 0 (rouV x.rou) := by
  have h0 : hcells H (adr b) 0 ([.int .i64 (x.at' : Nat)] ++ (rouV x.rou ++ [.pointer x.ptr])) := Row.rd_all hr
  have h1 := (hcells_app.1 (hcellsShift (n := 1) (i := 0) |>.1 (hcells_app.1 h0).2)).1
  rwa [adr_add] at h1
end
section
open Hc Hc.Vf
variable {H : Heap}
theorem SyOf.ext {H' : Heap} (hE : Ext H H') {x : Rt} {sy : Option Sy} (h : SyOf H x sy) : SyOf H' x sy := by
  cases sy with
  | none => exact h
  | some y =>
    obtain ⟨a, h1, h2, h3⟩ := h
    exact ⟨a, h1, hcells_upd hE (fun h => h) h2, h3.ext hE⟩
theorem CkAll.rouR {c : Nat} {p : Sl × Sl} {ksl rsl : Sl} {ks : List Ki} {ss : List Sy} {fs : List Rou} {rts : List Rt} (h : CkAll H c p ksl rsl ks ss fs rts) {n : Nat} (hn : n < rts.length) : CodeR H (rts[n]!).rou ∧ (rts[n]!).rou.code.length ≤ 2000 := by
  have hl : (rousL ss fs).length = ss.length + fs.length := by rw [List.length_append, List.length_map]
  have hn2 : n < (rousL ss fs).length := by rw [hl, ← h.rlen]; exact hn
  have hm := h.may.2.2.2.2
  have hmem : (rousL ss fs)[n]! ∈ rousL ss fs := by rw [getElem!_pos (rousL ss fs) n hn2]; exact List.getElem_mem hn2
  rw [(h.rts' n hn).rou]
  refine ⟨?_, ?_⟩
  · rcases List.mem_append.1 hmem with g | g
    · obtain ⟨x, hx, e⟩ := List.mem_map.1 g
      rw [← e]; exact (h.prg.sysR x hx).code
    · exact h.prg.funR _ g
  · have e := sumL_succ hn2
    have e2 := sumL_take (rs := rousL ss fs) (n := n + 1)
    have e3 : sumL (rousL ss fs) = sumL (ss.map (·.rou)) + sumL fs := by unfold sumL; rw [List.map_append, List.sum_append]
    rw [getElem!_pos (rousL ss fs) n hn2]
    omega
theorem s_touches {c : Nat} {p : Sl × Sl} {ksl rsl : Sl} {ks : List Ki} {ss : List Sy} {fs : List Rou} {rts : List Rt} (h : CkAll H c p ksl rsl ks ss fs rts) {k : Option Addr → Heap → Prop}
    (hk : ∀ q H', Ext H H' → FO H.size H' q (touchO ks ss fs) → k q H') : CallT Pg fQc8 [.pointer (some (adr c))] (.one (.c .ptr)) H k := by
  refine cQc2 _ ?_
  unfold vQc2
  simp only [NilCk_some, adr_add]
  have hck : ∀ {H'}, Ext H H' → CkAll H' c p ksl rsl ks ss fs rts := fun hE => h.ext hE
  have hrl := h.rt.len
  have hm := h.may
  have hr32 : rts.length ≤ 32 := by
    have := h.rlen; have := hm.1; have := hm.2.1; omega
  refine Ld_sl (s := rsl) ((h.ck.cell 3).trans rfl) ?_
  refine LoopT.mk (fun (i : Int) H' => ∃ n : Nat, i = n ∧ n ≤ rts.length ∧ Ext H H' ∧ ∀ j, j < n → tI ks ss fs j = none) (fun i _ => rts.length - i.toNat) ⟨0, rfl, Nat.zero_le _, .refl _ _, fun j hj => by omega⟩ ?_
  rintro next _ H1 ⟨n, rfl, hn, hE1, hno⟩ hnext
  refine Br_dec (fun hlt => ?_) fun hge => ?_
  · have hn3 : n < rts.length := by omega
    have hpr := h.rts' n hn3
    refine IxA_rn' rtV_len (hck hE1).rt (by omega) (j := n) rfl hn3 fun a ha => ?_
    obtain ⟨hcr, hcl⟩ := h.rouR hn3
    have hsy := syOf_at (fs := fs) h.prg.sysR hpr
    have htI : tI ks ss fs n = (tR ks fs.length (syAt ss n) (rts[n]!).rou).map fun y => ((rts[n]!).at' + y.1, y.2) := by unfold tI; rw [← hpr.rou, ← hpr.at_]
    have hat : (rts[n]!).at' ≤ 2000 := by
      rw [hpr.at_]
      have e3 : sumL (rousL ss fs) = sumL (ss.map (·.rou)) + sumL fs := by unfold sumL; rw [List.map_append, List.sum_append]
      have e2 := sumL_take (rs := rousL ss fs) (n := n)
      have := hm.2.2.2.2
      omega
    generalize rts[n]! = x at *
    refine ld_rt ha (rt_copy (x := x) fun b1 H8 hb1 hE8 hr8 => ?_)
    simp only [adr_add, mk_add]
    have hE8' := hE1.trans hE8 fun _ _ h => h
    refine Ld_sl (s := x.rou.sl) ((hr8.cell 4).trans rfl) ?_
    have hxl := hcr.len
    refine LoopT.mk (fun (i : Int) H' => ∃ j : Nat, i = j ∧ j ≤ x.rou.code.length ∧ Ext H8 H' ∧ ∀ e, e < j → tAt ks fs.length (syAt ss n) x.rou e = 0) (fun i _ => x.rou.code.length - i.toNat) ⟨0, rfl, Nat.zero_le _, .refl _ _, fun e he => by omega⟩ ?_
    rintro next2 _ H9 ⟨j, rfl, hj, hE9, hz⟩ hnext2
    have hE9' := hE8'.trans hE9 fun _ _ h => h
    refine Br_dec (fun hlt2 => ?_) fun hge2 => ?_
    · have hj3 : j < x.rou.code.length := by omega
      have hp9 := hE9.row hr8 fun h => h
      refine IxA_rn' insV_len (hcr.ext hE9') (by omega) (j := j) rfl hj3 fun a2 ha2 => ⟨((x.rou.code[j]!).1, (x.rou.code[j]!).2), ha2, ?_⟩
      refine Nw_row (vs := [.int .i64 0, .int .i64 0]) fun b2 H10 hb2 hE10 _ hr10 => ?_
      simp only [adr_add]
      refine St_row hr10 (by simp) fun H11 hU11 _ hr11 => St_row hr11 (by simp) fun H12 hU12 _ hr12 => ?_
      have hE12 : Ext H9 H12 := extUpd hE10 (by omega) (hU11.trans hU12 fun _ _ h => h)
      have hI : Row H12 b2 TQag (insV x.rou.code[j]!) := hr12
      have hp12 := hE12.row hp9 fun h => h
      have hE12' := hE9'.trans hE12 fun _ _ h => h
      refine ld_rt (x := x) (Row.rd_all hp12) (ws_access (x := x) (hck hE12') (hsy.ext hE12') (hcr.ext hE12') hj3 hcl fun H13 hE13 => ?_)
      have hE13' := hE12'.trans hE13 fun _ _ h => h
      have hp13 := hE13.row hp12 fun h => h
      have hI13 := hE13.row hI fun h => h
      have flt : ∀ {e : Nat} {Hx : Heap}, tAt ks fs.length (syAt ss n) x.rou j = e → e ≠ 0 → Ext H Hx → Row Hx b1 TQbg (rtV x) → Ld (.int .i64) (adr b1) Hx fun (x3 : Int) => Lt (IntKind.wrap .i64 (x3 + (j : Nat))) fun t1 => CallT Pg fQc4 [.int .i64 t1, .int .i64 (e : Nat)] (.one (.c .ptr)) Hx fun (r2 : Option Addr) H14 => k r2 H14 := fun {e Hx} he hne hE hp => by
        refine Ld_int (n := (x.at' : Nat)) ((hp.cell 0).trans rfl) (Lt.mk (u := ((x.at' + j : Nat) : Int)) (by rw [wrap_i64_id] <;> omega) (s_vfault fun H15 g hg hE15 hrow => hk _ _ (hE.trans hE15 fun _ _ h => h) ?_))
        have h1 : tI ks ss fs n = some (x.at' + j, e) := by rw [htI, tR_some hj3 hz (by rw [he]; exact hne), he]; rfl
        have h2 : touchO ks ss fs = some (x.at' + j, e) := findSome_range (by rw [← h.rlen]; exact hn3) hno h1
        rw [h2]
        have := hE.size
        exact ⟨g, rfl, by omega, hrow⟩
      refine Br_not (Br.mk (fun hacc => ?_) fun hacc => flt (e := 152) (by unfold tAt; rw [hacc]; rfl) (by omega) hE13' hp13)
      have htA : tAt ks fs.length (syAt ss n) x.rou j = if hopBad x.rou.code j then 150 else 0 := by unfold tAt; rw [if_pos hacc]
      refine Jn.mk (fun q H' => Ext H13 H' ∧ q = hopBad x.rou.code j) (fun kk hkk => ?_) ?_
      · refine ⟨((x.rou.code[j]!).1, (x.rou.code[j]!).2), Row.rd_all hI13, ws_jumps (i := x.rou.code[j]!) fun H16 hE16 => ?_⟩
        have hE16' := hE13'.trans hE16 fun _ _ h => h
        have hp16 := hE16.row hp13 fun h => h
        have hI16 := hE16.row hI13 fun h => h
        have c1 : hcell H16 ⟨b2, 1, none⟩ = some (.int .i64 (x.rou.code[j]!).2) := (hI16.cell 1).trans rfl
        have no : ¬ (((x.rou.code[j]!).1 = 19 ∨ (x.rou.code[j]!).1 = 20) ∧ 1 ≤ (x.rou.code[j]!).2 ∧ (x.rou.code[j]!).2 < x.rou.code.length) → kk false H16 := fun g => hkk _ _ ⟨hE16, (decide_eq_false fun e => g ⟨e.1, e.2.1, e.2.2.1⟩).symm⟩
        refine Br_dec (fun g1 => Ld_int c1 (Br_dec (fun g2 => Ld_int c1 (Ld_sl (s := x.rou.sl) ((hp16.cell 4).trans rfl) (Br_dec (fun g3 => ?_) fun g => no fun e => g (by omega)))) fun g => no fun e => g (by omega))) fun g => no fun e => g e.1
        refine ld_rou (r := x.rou) (rt_rou hp16) (Ld_int c1 (Lt.mk (u := (x.rou.code[j]!).2 - 1) (by rw [wrap_i64_id] <;> omega) (s_op (r := x.rou) (hcr.ext hE16') fun H17 hE17 => hkk _ _ ⟨hE16.trans hE17 fun _ _ h => h, ?_⟩)))
        unfold hopBad
        rw [Bool.eq_iff_iff, beq_iff_eq, decide_eq_true_eq]
        exact ⟨fun e => ⟨g1, by omega, by omega, e⟩, fun e => e.2.2.2⟩
      rintro q H15 ⟨hE15, rfl⟩
      have hE15' := hE13'.trans hE15 fun _ _ h => h
      refine Br.mk (fun hb => flt (e := 150) (by rw [htA, if_pos hb]) (by omega) hE15' (hE15.row hp13 fun h => h)) fun hb => ?_
      refine Lt.mk (u := ((j + 1 : Nat) : Int)) (by rw [wrap_i64_id] <;> omega) (hnext2 _ _ ⟨j + 1, rfl, hj3, hE9.trans (hE12.trans (hE13.trans hE15 fun _ _ h => h) fun _ _ h => h) fun _ _ h => h, fun e he => ?_⟩ (by omega))
      rcases Nat.lt_or_ge e j with g | g
      · exact hz e g
      · have : e = j := by omega
        subst this; rw [htA, hb]; rfl
    · refine Lt.mk (u := ((n + 1 : Nat) : Int)) (by rw [wrap_i64_id] <;> omega) (hnext _ _ ⟨n + 1, rfl, hn3, hE9', fun e he => ?_⟩ (by omega))
      rcases Nat.lt_or_ge e n with g | g
      · exact hno e g
      · have : e = n := by omega
        subst this
        rw [htI, tR_none fun e he => hz e (by omega)]; rfl
  · refine hk _ _ hE1 ?_
    have : touchO ks ss fs = none := by
      unfold touchO
      rw [List.findSome?_eq_none_iff]
      intro j hj
      exact hno j (by have := List.mem_range.1 hj; have := h.rlen; omega)
    rw [this]; rfl
end
section
open Hc Hc.Vf
variable {H : Heap}
def CallsR (fs : List Rou) (x y : Nat) : Prop := ∃ n, n < (fs[x]!).code.length ∧ ((fs[x]!).code[n]!).1 = 21 ∧ ((fs[x]!).code[n]!).2 = (y : Int)
def wCallsIn (fs : List Rou) : Prop := ∀ x, x < fs.length → ∀ n, n < (fs[x]!).code.length → ((fs[x]!).code[n]!).1 = 21 → 0 ≤ ((fs[x]!).code[n]!).2 ∧ ((fs[x]!).code[n]!).2 < fs.length
abbrev Round (fs : List Rou) (x y : Nat) : Prop := Relation.TransGen (CallsR fs) x y
open Classical in
noncomputable def roundB (fs : List Rou) (f : Nat) : Bool := decide (Round fs f f)
noncomputable def callsO (ss : List Sy) (fs : List Rou) : Option (Nat × Nat) := ((List.range fs.length).find? (roundB fs)).map fun f => (sumL ((rousL ss fs).take (ss.length + f)), 115)
abbrev MapAt (H : Heap) (r : Nat) (ds : List Nat) : Prop := H[r]? = some (.map ⟨entsF 0 ds⟩ ds.length)
theorem MapAt.i {r : Nat} {ds : List Nat} (h : MapAt H r ds) : MapI H (.map (some r)) ds := .inr ⟨r, rfl, h⟩
theorem MapAt.ext {H' : Heap} {r : Nat} {ds : List Nat} (h : MapAt H r ds) (hE : Ext H H') : MapAt H' r ds := hE.keep h fun h => h
theorem s_calls1 {H0 : Heap} {c : Nat} {p : Sl × Sl} {ksl rsl : Sl} {ks : List Ki} {ss : List Sy} {fs : List Rou} {rts : List Rt} (h : CkAll H0 c p ksl rsl ks ss fs rts) (hin : wCallsIn fs) {b1 b2 : Nat} {T1 T2 : TypeId} (hb1 : Row H0 b1 T1 [.pointer (some (adr c))])
    (hb2 : Row H0 b2 T2 [.func (.func 84) #[] #[.pointer (some (adr b1)), .pointer (some (adr b2))]]) {to : Nat} : ∀ (m : Nat) {H : Heap} {r fr : Nat} {ds : List Nat} {k : Bool → Heap → Prop}, Ext H0 H → H0.size ≤ r → fr < fs.length → fs.length + 1 ≤ ds.length + m → ds.Nodup → (∀ d ∈ ds, d < fs.length) → MapAt H r ds →
    (∀ b H' ds', Ext H0 H' → MapAt H' r ds' → ds'.Nodup → (∀ d ∈ ds', d < fs.length) → (∀ d ∈ ds, d ∈ ds') → (b = true → Round fs fr to) → (b = false → (∀ y, CallsR fs fr y → y ∈ ds') ∧ ∀ x ∈ ds', x ∉ ds → x ≠ to ∧ ∀ y, CallsR fs x y → y ∈ ds') → k b H') →
    CallT Pg fQdn [.int .i64 (fr : Nat), .int .i64 (to : Nat), .map (some r), .pointer (some (adr b1)), .pointer (some (adr b2))] (.one (.c .bool)) H k := by
  intro m
  induction m with
  | zero =>
    intro H r fr ds k hE hr0 hfr hm hnd hlt hM hk
    have hsub : ds.length ≤ (List.range fs.length).length := hnd.length_le_of_subset fun d hd => List.mem_range.2 (hlt d hd)
    rw [List.length_range] at hsub
    omega
  | succ m ih =>
    intro H r fr ds k hE hr0 hfr hm hnd hlt hM hk
    refine cQdh _ _ _ _ _ ?_
    unfold vQdh
    have c1 : ∀ {H'}, Ext H0 H' → hcell H' (adr b1) = some (.pointer (some (adr c))) := fun hE => ((hE.row hb1 fun h => h).cell 0).trans rfl
    have c2 : ∀ {H'}, Ext H0 H' → hcell H' (adr b2) = some (.func (.func 84) #[] #[.pointer (some (adr b1)), .pointer (some (adr b2))]) := fun hE => ((hE.row hb2 fun h => h).cell 0).trans rfl
    have hck : ∀ {H'}, Ext H0 H' → CkAll H' c p ksl rsl ks ss fs rts := fun hE => h.ext hE
    refine Ld_ptr (c1 hE) ?_
    simp only [NilCk_some, adr_add]
    refine Ld_sl (s := p.2) (((hck hE).ck.cell 1).trans rfl) (IxA_rn' rouV_len (hck hE).prg.fun' (by omega) (j := fr) rfl hfr fun a2 ha2 => ?_)
    have hmem : fs[fr]! ∈ fs := by rw [getElem!_pos fs fr hfr]; exact List.getElem_mem hfr
    have hcr : ∀ {H'}, Ext H0 H' → CodeR H' (fs[fr]!) := fun hE => (hck hE).prg.funR _ hmem
    have hcin := hin fr hfr
    have hcl := (h.rouR (n := ss.length + fr) (by rw [h.rlen]; omega)).2
    rw [(h.rts' (ss.length + fr) (by rw [h.rlen]; omega)).rou] at hcl
    have hrl : (rousL ss fs)[ss.length + fr]! = fs[fr]! := by
      rw [getElem!_pos _ _ (by simp [rousL]; omega), getElem!_pos fs fr hfr, List.getElem_append_right (by simp)]
      simp
    rw [hrl] at hcl
    have hCR : ∀ y, CallsR fs fr y ↔ ∃ n, n < (fs[fr]!).code.length ∧ ((fs[fr]!).code[n]!).1 = 21 ∧ ((fs[fr]!).code[n]!).2 = (y : Int) := fun y => Iff.rfl
    have hsl : hcell H (a2.add 3) = some (slV (fs[fr]!).sl) := by
      have := hcells_iff.1 ha2 3 (by simp)
      simpa using this
    generalize hfr' : fs[fr]! = fr' at *
    refine Ld_sl (s := fr'.sl) hsl ?_
    have hlen := (hcr hE).len
    refine LoopT.mk (fun (i : Int) H' => ∃ (n : Nat) (dn : List Nat), i = n ∧ n ≤ fr'.code.length ∧ Ext H0 H' ∧ MapAt H' r dn ∧ dn.Nodup ∧ (∀ d ∈ dn, d < fs.length) ∧ (∀ d ∈ ds, d ∈ dn) ∧ ds.length ≤ dn.length ∧
      (∀ e, e < n → (fr'.code[e]!).1 = 21 → ∃ y : Nat, (fr'.code[e]!).2 = y ∧ y ∈ dn) ∧ ∀ x ∈ dn, x ∉ ds → x ≠ to ∧ ∀ y, CallsR fs x y → y ∈ dn) (fun i _ => fr'.code.length - i.toNat)
      ⟨0, ds, rfl, Nat.zero_le _, hE, hM, hnd, hlt, fun d hd => hd, Nat.le_refl _, fun e he => by omega, fun x hx hn => absurd hx hn⟩ ?_
    rintro next _ H1 ⟨n, dn, rfl, hn, hE1, hM1, hnd1, hlt1, hsub, hlen1, hpre, hcl1⟩ hnext
    refine Br_dec (fun hlt2 => ?_) fun hge => ?_
    · have hn3 : n < fr'.code.length := by omega
      -- the step to the next
      have go : ∀ (dm : List Nat) (H2 : Heap), Ext H0 H2 → MapAt H2 r dm → dm.Nodup → (∀ d ∈ dm, d < fs.length) → (∀ d ∈ dn, d ∈ dm) → dn.length ≤ dm.length → ((fr'.code[n]!).1 = 21 → ∃ y : Nat, (fr'.code[n]!).2 = y ∧ y ∈ dm) → (∀ x ∈ dm, x ∉ dn → x ≠ to ∧ ∀ y, CallsR fs x y → y ∈ dm) →
          Lt (IntKind.wrap .i64 ((n : Int) + 1)) fun t1 => next t1 H2 := fun dm H2 g1 g2 g3 g4 g5 g6 g7 g8 =>
        Lt.mk (u := ((n + 1 : Nat) : Int)) (by rw [wrap_i64_id] <;> omega) (hnext _ _ ⟨n + 1, dm, rfl, hn3, g1, g2, g3, g4, fun d hd => g5 d (hsub d hd), by omega, fun e he h21 => by
          rcases Nat.lt_or_ge e n with g | g
          · obtain ⟨y, h1, h2⟩ := hpre e g h21
            exact ⟨y, h1, g5 y h2⟩
          · have : e = n := by omega
            subst this; exact g7 h21, fun x hx hxn => by
          by_cases hxd : x ∈ dn
          · obtain ⟨h1, h2⟩ := hcl1 x hxd hxn
            exact ⟨h1, fun y hy => g5 y (h2 y hy)⟩
          · exact g8 x hx hxd⟩ (by omega))
      refine Jn_in (IxA_rn' insV_len (hcr hE1) (by omega) (j := n) rfl hn3 fun a3 ha3 => ⟨((fr'.code[n]!).1, (fr'.code[n]!).2), ha3, ?_⟩)
      refine Nw_row (vs := [.int .i64 0, .int .i64 0]) fun b3 H3 hb3 hE3 _ hr3 => ?_
      simp only [adr_add]
      refine St_row hr3 (by simp) fun H4 hU4 _ hr4 => St_row hr4 (by simp) fun H5 hU5 _ hr5 => ?_
      have hE5 : Ext H1 H5 := extUpd hE3 (by omega) (hU4.trans hU5 fun _ _ h => h)
      have hI5 : Row H5 b3 TQag (insV fr'.code[n]!) := hr5
      have hE5' := hE1.trans hE5 fun _ _ h => h
      have hM5 := hM1.ext hE5
      have hcn := hcin n hn3
      generalize hop : (fr'.code[n]!).1 = op at *
      generalize harg : (fr'.code[n]!).2 = arg at *
      have i1 : hcell H5 (adr b3) = some (.int .i64 op) := by rw [← hop]; exact (hI5.cell 0).trans rfl
      have i2 : hcell H5 ⟨b3, 1, none⟩ = some (.int .i64 arg) := by rw [← harg]; exact (hI5.cell 1).trans rfl
      refine Jn.mk (fun j H' => H5 = H' ∧ (j = true → op = 21 → ∃ y : Nat, arg = y ∧ y ∈ dn) ∧ (j = false → op = 21 ∧ ∃ y : Nat, arg = y ∧ y ∉ dn)) (fun kk hkk => ?_) ?_
      · refine Ld_int i1 (Br.mk (fun h => hkk _ _ ⟨rfl, fun _ e => absurd e (bne_iff_ne.1 h), fun h => by cases h⟩) fun h => ?_)
        have h21 : op = 21 := by simpa using h
        obtain ⟨y, hy⟩ : ∃ y : Nat, arg = y := ⟨_, (Int.toNat_of_nonneg (hcn h21).1).symm⟩
        refine Ld_int i2 ?_
        subst hy
        exact MpL_i hM5.i (hkk _ _ ⟨rfl, fun h _ => ⟨y, rfl, of_decide_eq_true h⟩, fun h => ⟨h21, y, rfl, of_decide_eq_false h⟩⟩)
      rintro j _ ⟨rfl, hj1, hj2⟩
      refine Br.mk (fun h => go dn H5 hE5' hM5 hnd1 hlt1 (fun d hd => hd) (Nat.le_refl _) (hj1 h) fun x hx hxn => absurd hx hxn) fun h => ?_
      obtain ⟨h21, y, hy, hyn⟩ := hj2 h
      have hyl : y < fs.length := by have := (hcn h21).2; omega
      subst hy
      have hst : CallsR fs fr y := (hCR y).2 ⟨n, hn3, hop.trans h21, harg⟩
      refine Ld_int i2 (MpU_i hM5 hyn fun H7 hU7 _ hM7 => ?_)
      have hE7 : Ext H0 H7 := hE5'.trans hU7 fun b hb e => by omega
      have hI7 : Row H7 b3 TQag (insV fr'.code[n]!) := hU7.row hI5 (Row.neMap hI5 hM5)
      have i7 : hcell H7 ⟨b3, 1, none⟩ = some (.int .i64 (y : Nat)) := by rw [← harg]; exact (hI7.cell 1).trans rfl
      have hnd7 : (dn ++ [y]).Nodup := by
        rw [List.nodup_append]
        exact ⟨hnd1, by simp, fun a ha b hb => by rw [List.mem_singleton] at hb; subst hb; exact fun e => hyn (e ▸ ha)⟩
      have hlt7 : ∀ d ∈ dn ++ [y], d < fs.length := fun d hd => by
        rcases List.mem_append.1 hd with g | g
        · exact hlt1 d g
        · rw [List.mem_singleton] at g; subst g; exact hyl
      refine Jn.mk (fun j H' => ∃ dm, Ext H0 H' ∧ MapAt H' r dm ∧ dm.Nodup ∧ (∀ d ∈ dm, d < fs.length) ∧ (∀ d ∈ dn ++ [y], d ∈ dm) ∧ (dn ++ [y]).length ≤ dm.length ∧ (j = true → Round fs fr to) ∧ (j = false → y ≠ to ∧ (∀ z, CallsR fs y z → z ∈ dm) ∧ ∀ x ∈ dm, x ∉ dn ++ [y] → x ≠ to ∧ ∀ y, CallsR fs x y → y ∈ dm)) (fun kk hkk => ?_) ?_
      · refine Ld_int i7 (Br.mk (fun g => ?_) fun g => ?_)
        · have g := beqI g
          have : y = to := by omega
          subst this
          exact hkk _ _ ⟨dn ++ [y], hE7, hM7, hnd7, hlt7, fun d hd => hd, Nat.le_refl _, fun _ => .single hst, fun h => by cases h⟩
        · have g := bneI g
          refine ⟨_, c2 hE7, Ld_int i7 ⟨fQdn, #[], _, rfl, ?_⟩⟩
          refine ih (fr := y) (ds := dn ++ [y]) hE7 hr0 hyl (by rw [List.length_append, List.length_singleton]; omega) hnd7 hlt7 hM7 fun b H9 dm g1 g2 g3 g4 g5 g6 g7 => hkk _ _ ⟨dm, g1, g2, g3, g4, g5, hnd7.length_le_of_subset g5, fun h => .trans (.single hst) (g6 h), fun h => ⟨fun e => g (by omega), g7 h⟩⟩
      rintro j H8 ⟨dm, g1, g2, g3, g4, g5, g6, g7, g8⟩
      refine Br.mk (fun h => hk _ _ dm g1 g2 g3 g4 (fun d hd => g5 d (List.mem_append.2 (.inl (hsub d hd)))) (fun _ => g7 h) fun h => by cases h) fun h => ?_
      obtain ⟨q1, q2, q3⟩ := g8 h
      rw [List.length_append, List.length_singleton] at g6
      refine go dm H8 g1 g2 g3 g4 (fun d hd => g5 d (List.mem_append.2 (.inl hd))) (by omega) (fun _ => ⟨y, rfl, g5 y (by simp)⟩) fun x hx hxn => ?_
      by_cases hxy : x = y
      · subst hxy; exact ⟨q1, q2⟩
      · exact q3 x hx fun hm => (List.mem_append.1 hm).elim hxn fun e => hxy (List.mem_singleton.1 e)
    · refine hk _ _ dn hE1 hM1 hnd1 hlt1 hsub (fun h => by cases h) fun _ => ⟨fun y hy => ?_, hcl1⟩
      obtain ⟨e, he, h1, h2⟩ := (hCR y).1 hy
      obtain ⟨y', h3, h4⟩ := hpre e (by omega) h1
      have : y = y' := by omega
      subst this; exact h4
theorem closed_no {fs : List Rou} {f : Nat} {ds : List Nat} (h1 : ∀ y, CallsR fs f y → y ∈ ds) (h2 : ∀ x ∈ ds, x ≠ f ∧ ∀ y, CallsR fs x y → y ∈ ds) : ¬ Round fs f f := by
  have key : ∀ y, Round fs f y → y ∈ ds := by
    intro y hy
    induction hy with
    | single s => exact h1 _ s
    | tail _ s ih => exact (h2 _ ih).2 _ s
  intro h
  exact (h2 f (key f h)).1 rfl
open Classical in
theorem roundB_t {fs : List Rou} {f : Nat} (h : Round fs f f) : roundB fs f = true := decide_eq_true h
open Classical in
theorem roundB_f {fs : List Rou} {f : Nat} (h : ¬ Round fs f f) : roundB fs f = false := decide_eq_false h
theorem s_ccalls {c : Nat} {p : Sl × Sl} {ksl rsl : Sl} {ks : List Ki} {ss : List Sy} {fs : List Rou} {rts : List Rt} (h : CkAll H c p ksl rsl ks ss fs rts) (hin : wCallsIn fs) {k : Option Addr → Heap → Prop}
    (hk : ∀ q H', Ext H H' → FO H.size H' q (callsO ss fs) → k q H') : CallT Pg fQc9 [.pointer (some (adr c))] (.one (.c .ptr)) H k := by
  refine cQc3 _ ?_
  unfold vQc3
  refine Nw_row (vs := [.pointer (some (adr c))]) fun b1 H1 hb1 hE1 _ hr1 => Nw_row (vs := [.nilFunc]) fun b2 H2 hb2 hE2 _ hr2 => ⟨rfl, St_row hr2 (by simp) fun H3 hU3 _ hr3 => ?_⟩
  have hE3 : Ext H1 H3 := extUpd hE2 (by omega) hU3
  have hE3' := hE1.trans hE3 fun _ _ h => h
  have hr13 : Row H3 b1 TQa4 [.pointer (some (adr c))] := hE3.row hr1 fun h => h
  have h3 := h.ext hE3'
  have c1 : ∀ {H'}, Ext H3 H' → hcell H' (adr b1) = some (.pointer (some (adr c))) := fun hE => ((hE.row hr13 fun h => h).cell 0).trans rfl
  have c2 : ∀ {H'}, Ext H3 H' → hcell H' (adr b2) = some (.func (.func 84) #[] #[.pointer (some (adr b1)), .pointer (some (adr b2))]) := fun hE => ((hE.row hr3 fun h => h).cell 0).trans rfl
  have e0 : Ext H3 H3 := .refl _ _
  refine Ld_ptr (c1 e0) ?_
  simp only [NilCk_some, adr_add]
  refine Ld_sl (s := p.2) ((h3.ck.cell 1).trans rfl) ?_
  have hfl := h3.prg.fun'.len
  have hm := h.may
  refine LoopT.mk (fun (i : Int) H' => ∃ n : Nat, i = n ∧ n ≤ fs.length ∧ Ext H3 H' ∧ ∀ j, j < n → roundB fs j = false) (fun i _ => fs.length - i.toNat) ⟨0, rfl, Nat.zero_le _, e0, fun j hj => by omega⟩ ?_
  rintro next _ H4 ⟨n, rfl, hn, hE4, hno⟩ hnext
  have hm2 := hm.2.1
  refine Br_dec (fun hlt => ?_) fun hge => ?_
  · have hn3 : n < fs.length := by omega
    refine ⟨_, c2 hE4, MkM_i fun r H5 hr hE5 hz5 hM5 => ⟨fQdn, #[], _, rfl, ?_⟩⟩
    have hE5' := hE4.trans hE5 fun _ _ h => h
    have z4 := hE4.size
    refine s_calls1 h3 hin hr13 hr3 (to := n) (fs.length + 1) (fr := n) (ds := []) hE5' (by omega) hn3 (by simp) List.nodup_nil (fun d hd => by cases hd) hM5 fun b H6 ds' hE6 _ _ _ _ ht hf => ?_
    have z6 := hE6.size
    have z3 := hE3'.size
    refine Br.mk (fun hb => ?_) fun hb => ?_
    · refine Ld_ptr (c1 hE6) ?_
      simp only [NilCk_some, adr_add]
      have hck6 := h3.ext hE6
      refine Ld_sl (s := rsl) ((hck6.ck.cell 3).trans rfl) (Ld_ptr (c1 hE6) ?_)
      simp only [NilCk_some]
      have hsl := hck6.prg.sys.len
      have hms := hm.1
      have hrl := h.rlen
      refine Ld_sl (s := p.1) ((hck6.ck.cell 0).trans rfl) (Lt.mk (u := ((ss.length + n : Nat) : Int)) (by rw [wrap_i64_id] <;> omega) ?_)
      refine IxA_rn' rtV_len hck6.rt (by omega) (j := ss.length + n) rfl (by omega) fun a4 ha4 => Ld_int (n := ((rts[ss.length + n]!).at' : Nat)) ha4.1 (s_vfault fun H7 g hg hE7 hrow => Stab_all (fun x hx => ?_) (hk _ _ ((hE3'.trans hE6 fun _ _ h => h).trans hE7 fun _ _ h => h) ?_))
      · have hck7 := hck6.ext hE7
        simp only [List.mem_cons, List.not_mem_nil, or_false] at hx
        have c17 := c1 (hE6.trans hE7 fun _ _ h => h)
        rcases hx with rfl | rfl | rfl | rfl
        · exact (hck7.ck.cell 0).trans rfl
        · exact c17
        · exact (hck7.ck.cell 3).trans rfl
        · exact c17
      · rw [(h.rts' (ss.length + n) (by omega)).at_] at hrow
        have : (List.range fs.length).find? (roundB fs) = some n := by
          rw [List.find?_range_eq_some]
          exact ⟨roundB_t (ht hb), List.mem_range.2 hn3, fun j hj => by rw [hno j hj]; rfl⟩
        unfold callsO
        rw [this]
        exact ⟨g, rfl, by omega, hrow⟩
    · obtain ⟨g1, g2⟩ := hf hb
      refine Lt.mk (u := ((n + 1 : Nat) : Int)) (by rw [wrap_i64_id] <;> omega) (hnext _ _ ⟨n + 1, rfl, hn3, hE6, fun j hj => ?_⟩ (by omega))
      rcases Nat.lt_or_ge j n with g | g
      · exact hno j g
      · have : j = n := by omega
        subst this
        exact roundB_f (closed_no g1 fun x hx => g2 x hx (by simp))
  · refine hk _ _ (hE3'.trans hE4 fun _ _ h => h) ?_
    have : (List.range fs.length).find? (roundB fs) = none := by
      rw [List.find?_range_eq_none]
      intro j hj
      rw [hno j (by omega)]; rfl
    unfold callsO
    rw [this]; rfl
end
section
open Hc Hc.Vf
variable {H : Heap}
theorem FlowAt.lower {lo lo' f : Nat} {r : Rou} {fsl dl : Sl} {ms : List Value} {D : List (List Nat)} {ps : List Int} (h : FlowAt lo H f r fsl ps dl ms D) (hl : lo' ≤ lo) : FlowAt lo' H f r fsl ps dl ms D :=
  { flow := h.flow, dv := h.dv, ml := h.ml, dln := h.dln, mp := h.mp, nd := h.nd, rc := h.rc, f1 := by have := h.f1; omega, fd := fun b hb => by have := h.fd b hb; omega, fm := fun i q hi hq => by have := h.fm i q hi hq; omega }
theorem FlowAt.keepP {lo f : Nat} {r : Rou} {fsl dl : Sl} {ms : List Value} {D : List (List Nat)} {ps : List Int} {M : Nat → Prop} {H' : Heap} (hu : Upd M H H') (hM : ∀ b, M b → ∃ vs, Row H b TQa5 vs) (h : FlowAt lo H f r fsl ps dl ms D) : FlowAt lo H' f r fsl ps dl ms D :=
  { flow := hu.row h.flow fun e => by obtain ⟨vs, hv⟩ := hM _ e; exact h.flow.ne hv (by decide) rfl
    dv := h.dv.upd hu fun b hb e => by obtain ⟨vs, hv⟩ := hM _ e; exact h.dv.ne hb hv (by decide) rfl
    ml := h.ml, dln := h.dln
    mp := fun i hi => (h.mp i hi).upd hu fun q hq e => by
      obtain ⟨vs, hv⟩ := hM _ e
      rcases h.mp i hi with ⟨g, _⟩ | ⟨q', g, g2⟩
      · rw [hq] at g; cases g
      · rw [hq] at g; cases g; exact Row.neMap hv g2 rfl
    nd := h.nd, rc := h.rc, f1 := h.f1, fd := h.fd, fm := h.fm }
theorem wholeS_ok {c : List Ins} {ps : List Int} {u : Unit} (hW : wholeS c ps = .ok u) : 0 < c.length ∧ ∀ i, i < c.length → isReached c ps i → wr c ps i = 0 := by
  unfold wholeS at hW
  split at hW
  · cases hW
  · refine ⟨by omega, fun i hi hrd => ?_⟩
    split at hW
    · cases hW
    · rename_i hfd
      rw [List.find?_range_eq_none] at hfd
      have := hfd i hi
      exact Classical.byContradiction fun hne => by rw [badP_true ⟨hrd, hne⟩] at this; simp at this
theorem wholeS_bd {c : List Ins} {ps : List Int} {a e : Nat} (hW : wholeS c ps = .error (a, e)) : a ≤ c.length := by
  unfold wholeS at hW
  split at hW
  · simp only [Except.error.injEq, Prod.mk.injEq] at hW; omega
  · split at hW
    · rename_i i hfd
      have := List.mem_of_find?_eq_some hfd
      rw [List.mem_range] at this
      simp only [Except.error.injEq, Prod.mk.injEq] at hW; omega
    · cases hW
open Classical in
noncomputable def turnB (c : List Ins) (ps : List Int) (i : Nat) : Bool := decide (idleP c ps i ∧ WayI c ps i i)
open Classical in
theorem turnB_t {c : List Ins} {ps : List Int} {i : Nat} (h : idleP c ps i ∧ WayI c ps i i) : turnB c ps i = true := decide_eq_true h
open Classical in
theorem turnB_f {c : List Ins} {ps : List Int} {i : Nat} (h : ¬ (idleP c ps i ∧ WayI c ps i i)) : turnB c ps i = false := decide_eq_false h
noncomputable def wholeI (ss : List Sy) (fs : List Rou) (n : Nat) : Option (Nat × Nat) := match wholeS ((rousL ss fs)[n]!).code (parms fs) with
  | .error (a, e) => some (sumL ((rousL ss fs).take n) + a, e)
  | .ok _ => none
noncomputable def wturnI (ss : List Sy) (fs : List Rou) (n : Nat) : Option (Nat × Nat) := ((List.range ((rousL ss fs)[n]!).code.length).find? (turnB ((rousL ss fs)[n]!).code (parms fs))).map fun i => (sumL ((rousL ss fs).take n) + i, 153)
noncomputable def waysO (ss : List Sy) (fs : List Rou) : Option (Nat × Nat) := match (List.range (ss.length + fs.length)).findSome? (wholeI ss fs) with
  | some x => some x
  | none => (List.range (ss.length + fs.length)).findSome? (wturnI ss fs)
theorem findSome_none {β : Type} {f : Nat → Option β} {n : Nat} (h : ∀ j, j < n → f j = none) : (List.range n).findSome? f = none := by
  rw [List.findSome?_eq_none_iff]
  exact fun j hj => h j (List.mem_range.1 hj)
theorem CkAll.sum {c : Nat} {p : Sl × Sl} {ksl rsl : Sl} {ks : List Ki} {ss : List Sy} {fs : List Rou} {rts : List Rt} (h : CkAll H c p ksl rsl ks ss fs rts) (n : Nat) : sumL ((rousL ss fs).take n) ≤ 2000 := by
  have e3 : sumL (rousL ss fs) = sumL (ss.map (·.rou)) + sumL fs := by unfold sumL; rw [List.map_append, List.sum_append]
  have e2 := sumL_take (rs := rousL ss fs) (n := n)
  have := h.may.2.2.2.2
  omega
structure FlowsR (H : Heap) (s : Sl) (fps : List Nat) (rts : List Rt) (fsl : Sl) (ps : List Int) : Prop where
  vec : Vec H TQa5 s (fps.map fun f => .pointer (some (adr f)))
  fl : ∀ j, j < fps.length → ∃ dl ms D, FlowAt 0 H (fps[j]!) (rts[j]!).rou fsl ps dl ms D
theorem FlowsR.ext {H' : Heap} (hE : Ext H H') {s : Sl} {fps : List Nat} {rts : List Rt} {fsl : Sl} {ps : List Int} (h : FlowsR H s fps rts fsl ps) : FlowsR H' s fps rts fsl ps :=
  ⟨h.vec.ext hE, fun j hj => by obtain ⟨dl, ms, D, h⟩ := h.fl j hj; exact ⟨dl, ms, D, h.ext hE⟩⟩
theorem s_cways {c : Nat} {p : Sl × Sl} {ksl rsl : Sl} {ks : List Ki} {ss : List Sy} {fs : List Rou} {rts : List Rt} (h : CkAll H c p ksl rsl ks ss fs rts) (hI : ∀ x ∈ parms fs, I64 x) {k : Option Addr → Heap → Prop}
    (hk : ∀ q H', Ext H H' → FO H.size H' q (waysO ss fs) → k q H') : CallT Pg fQda [.pointer (some (adr c))] (.one (.c .ptr)) H k := by
  refine cQc4 _ ?_
  unfold vQc4
  simp only [NilCk_some, adr_add]
  have hck : ∀ {H'}, Ext H H' → CkAll H' c p ksl rsl ks ss fs rts := fun hE => h.ext hE
  have hrl := h.rt.len
  have hm := h.may
  have hrl2 := h.rlen
  have hr32 : rts.length ≤ 32 := by have := hm.1; have := hm.2.1; omega
  refine Ld_sl (s := rsl) ((h.ck.cell 3).trans rfl) ?_
  refine LoopT.mk (fun (s : Sl × Int) H' => ∃ (n : Nat) (fps : List Nat), s.2 = n ∧ n ≤ rts.length ∧ Ext H H' ∧ fps.length = n ∧ FlowsR H' s.1 fps rts p.2 (parms fs) ∧ (∀ b, s.1.a = some (adr b) → H.size ≤ b) ∧ ∀ j, j < n → wholeI ss fs j = none) (fun s _ => rts.length - s.2.toNat) ⟨0, [], rfl, Nat.zero_le _, .refl _ _, rfl, ⟨Vec.nil _ _, fun j hj => by cases hj⟩, (fun b hb => by cases hb), fun j hj => by omega⟩ ?_
  rintro next ⟨s1, _⟩ H1 ⟨n, fps, rfl, hn, hE1, hfl, hFs, hsb, hno⟩ hnext
  dsimp only at hFs hsb ⊢
  refine Br_dec (fun hlt => ?_) fun hge => ?_
  · have hn3 : n < rts.length := by omega
    have hpr := h.rts' n hn3
    refine IxA_rn' rtV_len (hck hE1).rt (by omega) (j := n) rfl hn3 fun a ha => ?_
    obtain ⟨hcr, hcl⟩ := h.rouR hn3
    have hat : (rts[n]!).at' ≤ 2000 := by rw [hpr.at_]; exact h.sum n
    have hwI : wholeI ss fs n = match wholeS (rts[n]!).rou.code (parms fs) with
        | .error (a, e) => some ((rts[n]!).at' + a, e)
        | .ok _ => none := by unfold wholeI; rw [← hpr.rou, ← hpr.at_]
    have hFl : ∀ (fps' : List Nat) (Hx : Heap) (sx : Sl), fps'.length = n + 1 → Vec Hx TQa5 sx (fps'.map fun f => .pointer (some (adr f))) → (∀ j, j < n → ∃ dl ms D, FlowAt 0 Hx (fps'[j]!) (rts[j]!).rou p.2 (parms fs) dl ms D) → (∃ dl ms D, FlowAt 0 Hx (fps'[n]!) (rts[n]!).rou p.2 (parms fs) dl ms D) → FlowsR Hx sx fps' rts p.2 (parms fs) := fun fps' Hx sx e1 e2 e3 e4 =>
      ⟨e2, fun j hj => by
        rcases Nat.lt_or_ge j n with g | g
        · exact e3 j g
        · have : j = n := by omega
          subst this; exact e4⟩
    generalize rts[n]! = x at *
    refine ld_rt ha (rt_copy (x := x) fun b1 H8 hb1 hE8 hr8 => ?_)
    have hE8' := hE1.trans hE8 fun _ _ h => h
    refine ld_rou (r := x.rou) (rt_rou hr8) (Ld_sl (s := p.2) (((hck hE8').ck.cell 1).trans rfl) (s_whole (r := x.rou) (hcr.ext hE8') (hck hE8').prg.fun' hI hcl fun q H9 hE9 hq => ?_))
    have hE9' := hE8'.trans hE9 fun _ _ h => h
    have z9 := hE9'.size
    cases hW : wholeS x.rou.code (parms fs) with
    | error ae =>
      obtain ⟨a', e⟩ := ae
      rw [hW] at hq hwI
      obtain ⟨h1, g, h2, h3, h4⟩ := hq
      rw [h2]
      show Ld (.int .i64) (adr b1) H9 _
      have hbd := wholeS_bd hW
      have f0 : hcell H9 (adr g) = some (.int .i64 (a' : Nat)) := (h4.cell 0).trans rfl
      have f1 : hcell H9 ⟨g, 1, none⟩ = some (.int .i64 (e : Nat)) := (h4.cell 1).trans rfl
      have c0 : hcell H9 (adr b1) = some (.int .i64 (x.at' : Nat)) := ((hE9.row hr8 fun h => h).cell 0).trans rfl
      refine Ld_int c0 ?_
      simp only [NilCk_some, adr_add]
      refine Ld_int f0 (Lt.mk (u := ((x.at' + a' : Nat) : Int)) (by rw [wrap_i64_id] <;> omega) (Ld_int f1 (s_vfault fun H10 g2 hg2 hE10 hrow => Stab_all (fun y hy => ?_) (hk _ _ (hE9'.trans hE10 fun _ _ h => h) ?_))))
      · simp only [List.mem_cons, List.not_mem_nil, or_false] at hy
        rcases hy with rfl | rfl
        · exact hE10.cell f0 fun h => h
        · exact hE10.cell c0 fun h => h
      · have : waysO ss fs = some (x.at' + a', e) := by
          unfold waysO
          rw [findSome_range (by rw [← hrl2]; exact hn3) hno hwI]
        rw [this]
        exact ⟨g2, rfl, by omega, hrow⟩
    | ok u =>
      rw [hW] at hq hwI
      obtain ⟨h1, f, dl, ms, D, h2, hF⟩ := hq
      rw [h1, h2]
      refine (Br_false _ _).2 ?_
      refine Nw_row (vs := [.pointer (some (adr f))]) fun b2 H11 hb2 hE11 _ hr11 => ?_
      have hv1 := hFs.vec.len
      rw [List.length_map] at hv1
      have hFs11 := hFs.ext ((hE8.trans hE9 fun _ _ h => h).trans hE11 fun _ _ h => h)
      have hE11' := hE9'.trans hE11 fun _ _ h => h
      have z11 := hE11'.size
      refine App_vec2 (ws := [.pointer (some (adr f))]) hFs11.vec (Row.rd_all hr11) rfl (by simp [Value.oneCell']) (by omega) (by simp only [List.length_map, List.length_singleton]; omega) fun l1 H12 hv12 hU12 ha12 hz12 => ?_
      have hM12 : ∀ b, (s1.a = some (adr b) ∧ s1.len + 1 ≤ s1.cap ∧ [Value.pointer (some (adr f))] ≠ []) → ∃ vs, Row H11 b TQa5 vs := fun b hb => by
        rcases hFs11.vec.own with ⟨g, _⟩ | ⟨b', sp, g1, g2, _⟩
        · rw [hb.1] at g; cases g
        · rw [hb.1] at g1; cases g1; exact ⟨_, g2⟩
      have hget : ∀ j, j < n → (fps ++ [f])[j]! = fps[j]! := fun j hj => by
        rw [getElem!_pos _ j (by simp; omega), List.getElem_append_left (by omega), getElem!_pos fps j (by omega)]
      have hgetn : (fps ++ [f])[n]! = f := by
        rw [getElem!_pos _ n (by simp; omega)]
        simp [← hfl]
      refine Lt.mk (u := ((n + 1 : Nat) : Int)) (by rw [wrap_i64_id] <;> omega) (hnext _ _ ⟨n + 1, fps ++ [f], rfl, hn3, hE11'.trans hU12 fun b hb e => by have := hsb b e.1; omega, by simp; omega, hFl _ _ _ (by simp; omega) (by simpa using hv12) (fun j hj => ?_) ?_, fun b hb => ?_, fun j hj => ?_⟩ (by dsimp only; omega))
      · obtain ⟨dl', ms', D', hF'⟩ := hFs11.fl j (by omega)
        rw [hget j hj]
        exact ⟨dl', ms', D', hF'.keepP hU12 hM12⟩
      · rw [hgetn]
        exact ⟨dl, ms, D, ((hF.ext hE11).keepP hU12 hM12).lower (Nat.zero_le _)⟩
      · rcases ha12 with ⟨g, _⟩ | g
        · rw [g] at hb; exact hsb b hb
        · rw [g] at hb; cases hb; omega
      · rcases Nat.lt_or_ge j n with g | g
        · exact hno j g
        · have : j = n := by omega
          subst this; exact hwI
  · have hne : n = rts.length := by omega
    subst hne
    have hW0 : (List.range (ss.length + fs.length)).findSome? (wholeI ss fs) = none := findSome_none fun j hj => hno j (by omega)
    have hways : waysO ss fs = (List.range (ss.length + fs.length)).findSome? (wturnI ss fs) := by unfold waysO; rw [hW0]
    have hv1 := hFs.vec.len
    rw [List.length_map, hfl] at hv1
    refine LoopT.mk (fun (i : Int) H' => ∃ n : Nat, i = n ∧ n ≤ rts.length ∧ Ext H1 H' ∧ ∀ j, j < n → wturnI ss fs j = none) (fun i _ => rts.length - i.toNat) ⟨0, rfl, Nat.zero_le _, .refl _ _, fun j hj => by omega⟩ ?_
    rintro next2 _ H13 ⟨n, rfl, hn, hE13, hno2⟩ hnext2
    have hE13' := hE1.trans hE13 fun _ _ h => h
    refine Br_dec (fun hlt => ?_) fun hge2 => ?_
    · have hn3 : n < rts.length := by omega
      have hFs13 := hFs.ext hE13
      refine IxA_vec hFs13.vec (by omega) (by rw [List.length_map]; omega) fun a6 ha6 _ => ?_
      have ha6' : hcell H13 a6 = some (.pointer (some (adr (fps[n]!)))) := by
        rw [ha6, Int.toNat_natCast, List.getElem?_map, List.getElem?_eq_getElem (by omega), getElem!_pos fps n (by omega)]; rfl
      refine Ld_ptr ha6' ?_
      obtain ⟨dl, ms, D, hF⟩ := hFs13.fl n (by omega)
      obtain ⟨hcr, hcl⟩ := h.rouR hn3
      have hpr := h.rts' n hn3
      have hat : (rts[n]!).at' ≤ 2000 := by rw [hpr.at_]; exact h.sum n
      have htI : wturnI ss fs n = ((List.range (rts[n]!).rou.code.length).find? (turnB (rts[n]!).rou.code (parms fs))).map fun i => ((rts[n]!).at' + i, 153) := by unfold wturnI; rw [← hpr.rou, ← hpr.at_]
      have hW : ∃ u, wholeS (rts[n]!).rou.code (parms fs) = .ok u := by
        have := hno n hn3
        unfold wholeI at this
        rw [← hpr.rou] at this
        cases hw : wholeS (rts[n]!).rou.code (parms fs) with
        | error ae => rw [hw] at this; cases this
        | ok u => exact ⟨u, rfl⟩
      obtain ⟨u, hW⟩ := hW
      obtain ⟨_, hgood⟩ := wholeS_ok hW
      have hrt : ∀ {H' : Heap}, Ext H H' → ∀ {k : Addr → Prop}, (∀ a, hcell H' a = some (.int .i64 ((rts[n]!).at' : Nat)) → k a) → IxA 6 rsl (n : Int) k := fun {H'} hE {k} hk => IxA_rn' rtV_len (hck hE).rt (by omega) (j := n) rfl hn3 fun a ha => hk a ha.1
      generalize rts[n]! = x at *
      generalize fps[n]! = f at *
      simp only [NilCk_some, adr_add]
      refine Ld_sl (s := x.rou.sl) ((hF.flow.cell 3).trans rfl) ?_
      have hxl := hcr.len
      refine LoopT.mk (fun (i : Int) H' => ∃ j : Nat, i = j ∧ j ≤ x.rou.code.length ∧ Ext H13 H' ∧ ∀ e, e < j → turnB x.rou.code (parms fs) e = false) (fun i _ => x.rou.code.length - i.toNat) ⟨0, rfl, Nat.zero_le _, .refl _ _, fun e he => by omega⟩ ?_
      rintro next3 _ H14 ⟨j, rfl, hj, hE14, hz⟩ hnext3
      have hE14' := hE13'.trans hE14 fun _ _ h => h
      refine Br_dec (fun hlt2 => ?_) fun hge3 => ?_
      · have hj3 : j < x.rou.code.length := by omega
        refine Jn.mk (fun q H' => Ext H14 H' ∧ (q = true ↔ idleP x.rou.code (parms fs) j ∧ WayI x.rou.code (parms fs) j j)) (fun kk hkk => ?_) ?_
        · refine s_idle (hF.ext hE14) (hcr.ext hE14') hj3 fun b H16 hE16 hb => ?_
          refine Br.mk (fun g => ?_) fun g => hkk _ _ ⟨hE16, fun h => (by cases h), fun h => by rw [hb.2 h.1] at g; cases g⟩
          have hE16' := hE14.trans hE16 fun _ _ h => h
          refine s_round (hF.ext hE16') (hcr.ext (hE13'.trans hE16' fun _ _ h => h)) hcl hgood hj3 fun b2 H17 hE17 hb2 => hkk _ _ ⟨hE16.trans hE17 fun _ _ h => h, fun h => ⟨hb.1 g, hb2.1 h⟩, fun h => hb2.2 h.2⟩
        rintro q H15 ⟨hE15, hq⟩
        have hE15' := hE14'.trans hE15 fun _ _ h => h
        refine Br.mk (fun hb => ?_) fun hb => ?_
        · refine Ld_sl (s := rsl) (((hck hE15').ck.cell 3).trans rfl) (hrt hE15' fun a9 ha9 => Ld_int ha9 (Lt.mk (u := ((x.at' + j : Nat) : Int)) (by rw [wrap_i64_id] <;> omega) (s_vfault fun H18 g hg hE18 hrow => hk _ _ (hE15'.trans hE18 fun _ _ h => h) ?_)))
          have hfd : (List.range x.rou.code.length).find? (turnB x.rou.code (parms fs)) = some j := by
            rw [List.find?_range_eq_some]
            exact ⟨turnB_t (hq.1 hb), List.mem_range.2 hj3, fun e he => by rw [hz e he]; rfl⟩
          rw [hfd] at htI
          rw [hways, findSome_range (by rw [← hrl2]; exact hn3) hno2 htI]
          have := hE15'.size
          exact ⟨g, rfl, by omega, hrow⟩
        · refine Lt.mk (u := ((j + 1 : Nat) : Int)) (by rw [wrap_i64_id] <;> omega) (hnext3 _ _ ⟨j + 1, rfl, hj3, hE14.trans hE15 fun _ _ h => h, fun e he => ?_⟩ (by omega))
          rcases Nat.lt_or_ge e j with g | g
          · exact hz e g
          · have : e = j := by omega
            subst this
            exact turnB_f fun g => by rw [hq.2 g] at hb; cases hb
      · refine Lt.mk (u := ((n + 1 : Nat) : Int)) (by rw [wrap_i64_id] <;> omega) (hnext2 _ _ ⟨n + 1, rfl, hn3, hE13.trans hE14 fun _ _ h => h, fun e he => ?_⟩ (by omega))
        rcases Nat.lt_or_ge e n with g | g
        · exact hno2 e g
        · have : e = n := by omega
          subst this
          have hfd : (List.range x.rou.code.length).find? (turnB x.rou.code (parms fs)) = none := by
            rw [List.find?_range_eq_none]
            intro q hq
            rw [hz q (by omega)]; rfl
          rw [htI, hfd]; rfl
    · refine hk _ _ hE13' ?_
      rw [hways, findSome_none fun j hj => hno2 j (by omega)]; rfl
end
section
open Hc Hc.Vf
variable {H : Heap}
noncomputable def lookO (ks : List Ki) (ss : List Sy) (fs : List Rou) : Nat → Option (Nat × Nat)
  | 0 => setsO ks ss fs
  | 1 => touchO ks ss fs
  | 2 => callsO ss fs
  | _ => waysO ss fs
noncomputable def verifyO (ks : List Ki) (ss : List Sy) (fs : List Rou) : Option (Nat × Nat) :=
  if mayK ks then (if MayP ss fs then (List.range 4).findSome? (lookO ks ss fs) else some (0, 130)) else some (0, 65)
def VerOut (lo : Nat) (H : Heap) (v : Value) : Option (Nat × Nat) → Prop
  | none => v = .nilIface
  | some (a, e) => ∃ g, v = .iface TQa3 (.pointer (some (adr g))) ∧ lo ≤ g ∧ Row H g TQa6 [.int .i64 (a : Nat), .int .i64 (e : Nat)]
theorem touch_none {ks : List Ki} {ss : List Sy} {fs : List Rou} (h : touchO ks ss fs = none) {n : Nat} (hn : n < ss.length + fs.length) {j : Nat} (hj : j < ((rousL ss fs)[n]!).code.length) : tAt ks fs.length (syAt ss n) ((rousL ss fs)[n]!) j = 0 := by
  unfold touchO at h
  rw [List.findSome?_eq_none_iff] at h
  have h1 := h n (List.mem_range.2 hn)
  unfold tI at h1
  rw [Option.map_eq_none_iff] at h1
  unfold tR at h1
  rw [Option.map_eq_none_iff, List.find?_range_eq_none] at h1
  simpa using h1 j hj
theorem rous_fun {ss : List Sy} {fs : List Rou} {x : Nat} (hx : x < fs.length) : (rousL ss fs)[ss.length + x]! = fs[x]! := by
  rw [getElem!_pos _ _ (by simp [rousL]; omega), getElem!_pos fs x hx, List.getElem_append_right (by simp)]
  simp
theorem rous_sys {ss : List Sy} {fs : List Rou} {x : Nat} (hx : x < ss.length) : (rousL ss fs)[x]! = (ss[x]!).rou := by
  rw [getElem!_pos _ _ (by simp [rousL]; omega), getElem!_pos ss x hx, List.getElem_append_left (by simpa using hx)]
  simp
theorem calls_in {ks : List Ki} {ss : List Sy} {fs : List Rou} (h : touchO ks ss fs = none) : wCallsIn fs := by
  intro x hx n hn h21
  have h1 := touch_none h (n := ss.length + x) (by omega) (j := n) (by rw [rous_fun hx]; exact hn)
  rw [rous_fun hx] at h1
  have hs : syAt ss (ss.length + x) = none := by unfold syAt; rw [if_neg (by omega)]
  rw [hs] at h1
  by_cases ha : accB ks fs.length none (fs[x]!) n = true
  · unfold accB at ha
    generalize (fs[x]!).code[n]! = i at *
    have ho : wouterB 21 = false := by decide
    rw [h21, ho] at ha
    simp at ha
    exact ha
  · unfold tAt at h1
    rw [if_neg ha] at h1; cases h1
theorem s_Verify {p : Sl × Sl} {ksl : Sl} {ks : List Ki} {ss : List Sy} {fs : List Rou} (hP : PrgR H p ss fs) (hK : KdsR H ksl ks) (hI : ∀ x ∈ parms fs, I64 x) {k : Value → Heap → Prop}
    (hk : ∀ v H', Ext H H' → VerOut H.size H' v (verifyO ks ss fs) → k v H') : CallT Pg fQc2 [wprgA p, .slice ksl.a ksl.len ksl.cap] (.one (.c .raw)) H k := by
  refine cQcw _ _ ?_
  unfold vQcw
  refine Nw_row (vs := [slV p.1, slV p.2]) fun b1 H1 hb1 hE1 _ hr1 => s_worldNew (hK.ext hE1) fun q H2 hE2 => ?_
  have hE2' := hE1.trans hE2 fun _ _ h => h
  have z2 := hE2'.size
  unfold verifyO at hk
  by_cases hm : mayK ks = true
  · rw [if_pos hm] at hk ⊢
    have hr2 := hE2.row hr1 fun h => h
    show LdC [.sl, .sl] (adr b1) H2 _
    refine ⟨p, hr2.rd_all, s_Encode (hP.ext hE2') fun s' H4 hE4 => ?_⟩
    have hE4' := hE2'.trans hE4 fun _ _ h => h
    have z4 := hE4'.size
    by_cases hM : MayP ss fs
    · rw [if_pos hM] at hk ⊢
      have hr4 := hE4.row hr2 fun h => h
      show LdC [.sl, .sl] (adr b1) H4 _
      refine ⟨p, hr4.rd_all, p, hr4.rd_all, ws_routines (hP.ext hE4') hM fun rsl rts H6 hE6 hrn hrl hrt => ?_⟩
      have hE6' := hE4'.trans hE6 fun _ _ h => h
      have z6 := hE6'.size
      have hp : ∀ {Hx}, Ext H6 Hx → ∀ x ∈ [(⟨b1, 0, none⟩, Value.slice p.1.a p.1.len p.1.cap), (⟨b1, 1, none⟩, .slice p.2.a p.2.len p.2.cap), (⟨b1, 0, none⟩, .slice p.1.a p.1.len p.1.cap), (⟨b1, 1, none⟩, .slice p.2.a p.2.len p.2.cap)], hcell Hx x.1 = some x.2 := fun hE x hx => by
        have hr := (hE6.trans hE fun _ _ h => h).row hr4 fun h => h
        simp only [List.mem_cons, List.not_mem_nil, or_false] at hx
        rcases hx with rfl | rfl | rfl | rfl
        · exact (hr.cell 0).trans rfl
        · exact (hr.cell 1).trans rfl
        · exact (hr.cell 0).trans rfl
        · exact (hr.cell 1).trans rfl
      simp only [adr_add]
      refine Stab_all (fun x hx => hp (.refl _ _) x (by simp only [List.mem_cons, List.not_mem_nil, or_false] at hx ⊢; rcases hx with rfl | rfl <;> simp)) ?_
      refine Nw_row (vs := [slV p.1, slV p.2, slV ksl, slV rsl]) fun b2 H7 hb2 hE7 _ hr7 => Stab_all (hp hE7) ?_
      refine Nw_row (vs := [.func (.func 43) #[] #[], .func (.func 44) #[] #[], .func (.func 45) #[] #[], .func (.func 46) #[] #[]]) fun b3 H8 hb3 hE8 _ hr8 => ?_
      have hE8' := (hE6'.trans hE7 fun _ _ h => h).trans hE8 fun _ _ h => h
      have z8 := hE8'.size
      have hck : CkAll H8 b2 p ksl rsl ks ss fs rts :=
        { ck := hE8.row hr7 fun h => h, prg := hP.ext hE8', kds := hK.ext hE8', rt := (hrn.ext hE7).ext hE8, rlen := hrl, rts' := fun j hj => (((hrt j hj).ext hE6).ext hE7).ext hE8, may := hM }
      refine LoopT.mk (fun (i : Int) H' => ∃ n : Nat, i = n ∧ n ≤ 4 ∧ Ext H8 H' ∧ ∀ j, j < n → lookO ks ss fs j = none) (fun i _ => 4 - i.toNat) ⟨0, rfl, by omega, .refl _ _, fun j hj => by omega⟩ ?_
      rintro next _ H9 ⟨n, rfl, hn, hE9, hno⟩ hnext
      refine Br_dec (fun hlt => ?_) fun hge => ?_
      · have hn3 : n < 4 := by omega
        have hE9' := hE8'.trans hE9 fun _ _ h => h
        have z9 := hE9'.size
        have hc9 := hck.ext hE9
        have behind : ∀ (q : Option Addr) (H10 : Heap), Ext H9 H10 → FO H9.size H10 q (lookO ks ss fs n) → Br (!q.isNone) (k (.iface TQa3 (.pointer q)) H10) (Lt (IntKind.wrap .i64 ((n : Int) + 1)) fun t1 => next t1 H10) := fun q H10 hE10 hq => by
          cases hl : lookO ks ss fs n with
          | none =>
            rw [hl] at hq
            cases hq
            refine (Br_false _ _).2 ?_
            refine Lt.mk (u := ((n + 1 : Nat) : Int)) (by rw [wrap_i64_id] <;> omega) (hnext _ _ ⟨n + 1, rfl, hn3, hE9.trans hE10 fun _ _ h => h, fun e he => ?_⟩ (by omega))
            rcases Nat.lt_or_ge e n with g | g
            · exact hno e g
            · have : e = n := by omega
              subst this; exact hl
          | some ae =>
            obtain ⟨a, e⟩ := ae
            rw [hl] at hq
            obtain ⟨g, rfl, hg, hrow⟩ := hq
            refine (Br_true _ _).2 ?_
            refine hk _ _ (hE9'.trans hE10 fun _ _ h => h) ?_
            rw [findSome_range hn3 hno hl]
            exact ⟨g, rfl, by omega, hrow⟩
        refine IxA.mk rfl (by omega) (by simp only; omega) ?_
        rw [Int.toNat_natCast, adr_add, Nat.mul_one]
        have hr9 := hE9.row hr8 fun h => h
        match n, hn3 with
        | 0, _ => exact ⟨_, (hr9.cell 0).trans rfl, fQc7, #[], #[], rfl, s_csets hc9 behind⟩
        | 1, _ => exact ⟨_, (hr9.cell 1).trans rfl, fQc8, #[], #[], rfl, s_touches hc9 behind⟩
        | 2, _ => exact ⟨_, (hr9.cell 2).trans rfl, fQc9, #[], #[], rfl, s_ccalls hc9 (calls_in (hno 1 (by omega))) behind⟩
        | 3, _ => exact ⟨_, (hr9.cell 3).trans rfl, fQda, #[], #[], rfl, s_cways hc9 hI behind⟩
      · have : n = 4 := by omega
        subst this
        refine hk _ _ (hE8'.trans hE9 fun _ _ h => h) ?_
        rw [findSome_none hno]; rfl
    · rw [if_neg hM] at hk ⊢
      show CallT Pg fQc4 [.int .i64 0, .int .i64 130] (.one (.c .ptr)) H4 _
      exact s_vfault fun H5 g hg hE5 hrow => hk _ _ (hE4'.trans hE5 fun _ _ h => h) ⟨g, rfl, by omega, hrow⟩
  · rw [if_neg hm] at hk ⊢
    show CallT Pg fQc4 [.int .i64 0, .int .i64 65] (.one (.c .ptr)) H2 _
    exact s_vfault fun H5 g hg hE5 hrow => hk _ _ (hE2'.trans hE5 fun _ _ h => h) ⟨g, rfl, by omega, hrow⟩
end
section
open Hc
abbrev fQem : FuncId := 4
abbrev fQen : FuncId := 7
abbrev fQeo : FuncId := 9
abbrev fQep : FuncId := 20
abbrev fQeq : FuncId := 21
def vQeg  (H : Heap) (k : Bool → Heap → Prop) : Prop :=
 Nw #[.int .i64 24, .int .i64 0, .int .i64 4, .int .i64 8, .int .i64 1, .int .i64 1, .int .i64 6, .int .i64 0, .int .i64 5, .int .i64 8, .int .i64 23, .int .i64 0] TQag H fun b1 H1 =>
 CallT Pg fQep [.slice (some (adr b1)) 6 6] (.one (.agg [.sl, .sl])) H1 fun (r1 : Sl × Sl) H2 =>
 CallT Pg fQeq [] (.one (.agg [(.int .i64), (.int .i64), (.int .i64), .sl, (.int .i64), (.int .i64), .sl])) H2 fun (r2 : Int × Int × Int × Sl × Int × Int × Sl) H3 =>
 CallT Pg fQaa [.agg #[slV r1.1, slV r1.2], .int .i64 0, .agg #[.int .i64 r2.1, .int .i64 r2.2.1, .int .i64 r2.2.2.1, slV r2.2.2.2.1, .int .i64 r2.2.2.2.2.1, .int .i64 r2.2.2.2.2.2.1, slV r2.2.2.2.2.2.2]] (.one (.agg [.sl, .sl, .sl, (.int .i64), (.int .i64)])) H3 fun (r3 : Sl × Sl × Sl × Int × Int) H4 =>
 Nw #[.slice none 0 0, .slice none 0 0, .slice none 0 0, .int .i64 0, .int .i64 0] TQah H4 fun b2 H5 =>
 St ((adr b2).add 0) (slV r3.1) H5 fun H6 =>
 St ((adr b2).add 1) (slV r3.2.1) H6 fun H7 =>
 St ((adr b2).add 2) (slV r3.2.2.1) H7 fun H8 =>
 St ((adr b2).add 3) (.int .i64 r3.2.2.2.1) H8 fun H9 =>
 St ((adr b2).add 4) (.int .i64 r3.2.2.2.2) H9 fun H10 =>
 Nw #[.int .i64 1, .int .i64 1, .int .i64 19, .int .i64 0] TQag H10 fun b3 H11 =>
 CallT Pg fQep [.slice (some (adr b3)) 2 2] (.one (.agg [.sl, .sl])) H11 fun (r4 : Sl × Sl) H12 =>
 CallT Pg fQeq [] (.one (.agg [(.int .i64), (.int .i64), (.int .i64), .sl, (.int .i64), (.int .i64), .sl])) H12 fun (r5 : Int × Int × Int × Sl × Int × Int × Sl) H13 =>
 CallT Pg fQaa [.agg #[slV r4.1, slV r4.2], .int .i64 0, .agg #[.int .i64 r5.1, .int .i64 r5.2.1, .int .i64 r5.2.2.1, slV r5.2.2.2.1, .int .i64 r5.2.2.2.2.1, .int .i64 r5.2.2.2.2.2.1, slV r5.2.2.2.2.2.2]] (.one (.agg [.sl, .sl, .sl, (.int .i64), (.int .i64)])) H13 fun (r6 : Sl × Sl × Sl × Int × Int) H14 =>
 Nw #[.slice none 0 0, .slice none 0 0, .slice none 0 0, .int .i64 0, .int .i64 0] TQah H14 fun b4 H15 =>
 St ((adr b4).add 0) (slV r6.1) H15 fun H16 =>
 St ((adr b4).add 1) (slV r6.2.1) H16 fun H17 =>
 St ((adr b4).add 2) (slV r6.2.2.1) H17 fun H18 =>
 St ((adr b4).add 3) (.int .i64 r6.2.2.2.1) H18 fun H19 =>
 St ((adr b4).add 4) (.int .i64 r6.2.2.2.2) H19 fun H20 =>
 Nw #[.int .i64 24, .int .i64 0, .int .i64 19, .int .i64 0] TQag H20 fun b5 H21 =>
 CallT Pg fQep [.slice (some (adr b5)) 2 2] (.one (.agg [.sl, .sl])) H21 fun (r7 : Sl × Sl) H22 =>
 CallT Pg fQeq [] (.one (.agg [(.int .i64), (.int .i64), (.int .i64), .sl, (.int .i64), (.int .i64), .sl])) H22 fun (r8 : Int × Int × Int × Sl × Int × Int × Sl) H23 =>
 CallT Pg fQaa [.agg #[slV r7.1, slV r7.2], .int .i64 0, .agg #[.int .i64 r8.1, .int .i64 r8.2.1, .int .i64 r8.2.2.1, slV r8.2.2.2.1, .int .i64 r8.2.2.2.2.1, .int .i64 r8.2.2.2.2.2.1, slV r8.2.2.2.2.2.2]] (.one (.agg [.sl, .sl, .sl, (.int .i64), (.int .i64)])) H23 fun (r9 : Sl × Sl × Sl × Int × Int) H24 =>
 Nw #[.slice none 0 0, .slice none 0 0, .slice none 0 0, .int .i64 0, .int .i64 0] TQah H24 fun b6 H25 =>
 St ((adr b6).add 0) (slV r9.1) H25 fun H26 =>
 St ((adr b6).add 1) (slV r9.2.1) H26 fun H27 =>
 St ((adr b6).add 2) (slV r9.2.2.1) H27 fun H28 =>
 St ((adr b6).add 3) (.int .i64 r9.2.2.2.1) H28 fun H29 =>
 St ((adr b6).add 4) (.int .i64 r9.2.2.2.2) H29 fun H30 =>
 Nw #[.int .i64 1, .int .i64 1, .int .i64 1, .int .i64 2, .int .i64 25, .int .i64 0, .int .i64 23, .int .i64 0] TQag H30 fun b7 H31 =>
 CallT Pg fQep [.slice (some (adr b7)) 4 4] (.one (.agg [.sl, .sl])) H31 fun (r10 : Sl × Sl) H32 =>
 CallT Pg fQeq [] (.one (.agg [(.int .i64), (.int .i64), (.int .i64), .sl, (.int .i64), (.int .i64), .sl])) H32 fun (r11 : Int × Int × Int × Sl × Int × Int × Sl) H33 =>
 CallT Pg fQaa [.agg #[slV r10.1, slV r10.2], .int .i64 0, .agg #[.int .i64 r11.1, .int .i64 r11.2.1, .int .i64 r11.2.2.1, slV r11.2.2.2.1, .int .i64 r11.2.2.2.2.1, .int .i64 r11.2.2.2.2.2.1, slV r11.2.2.2.2.2.2]] (.one (.agg [.sl, .sl, .sl, (.int .i64), (.int .i64)])) H33 fun (r12 : Sl × Sl × Sl × Int × Int) H34 =>
 Nw #[.slice none 0 0, .slice none 0 0, .slice none 0 0, .int .i64 0, .int .i64 0] TQah H34 fun b8 H35 =>
 St ((adr b8).add 0) (slV r12.1) H35 fun H36 =>
 St ((adr b8).add 1) (slV r12.2.1) H36 fun H37 =>
 St ((adr b8).add 2) (slV r12.2.2.1) H37 fun H38 =>
 St ((adr b8).add 3) (.int .i64 r12.2.2.2.1) H38 fun H39 =>
 St ((adr b8).add 4) (.int .i64 r12.2.2.2.2) H39 fun H40 =>
 Jn (σ := Bool) (fun kk1 =>
 Ld (.int .i64) ((adr b2).add 4) H40 fun (x1 : Int) =>
 Br (x1 == 0) (
 Ld (.int .i64) ((adr b2).add 3) H40 fun (x2 : Int) =>
 Br (x2 == 1) (
 Ld .sl (adr b2) H40 fun (x3 : Sl) =>
 Br ((x3.len : Int) == 1) (
 Ld .sl (adr b2) H40 fun (x4 : Sl) =>
 IxA 2 x4 0 fun a1 =>
 Ld (.int .i64) a1 H40 fun (x5 : Int) =>
 Br (x5 == 1) (
 Ld .sl (adr b2) H40 fun (x6 : Sl) =>
 IxA 2 x6 0 fun a2 =>
 Ld .sl (a2.add 1) H40 fun (x7 : Sl) =>
 Br ((x7.len : Int) == 1) (
 Ld .sl (adr b2) H40 fun (x8 : Sl) =>
 IxA 2 x8 0 fun a3 =>
 Ld .sl (a3.add 1) H40 fun (x9 : Sl) =>
 IxA 1 x9 0 fun a4 =>
 Ld (.int .i64) a4 H40 fun (x10 : Int) =>
 Br (x10 == 8) (
 Ld (.int .i64) ((adr b4).add 4) H40 fun (x11 : Int) =>
 Br (x11 == 151) (
 Ld (.int .i64) ((adr b6).add 4) H40 fun (x12 : Int) =>
 Br (x12 == 120) (
 Ld (.int .i64) ((adr b6).add 3) H40 fun (x13 : Int) =>
 Br (x13 == 2001) (
 Ld .sl ((adr b8).add 2) H40 fun (x14 : Sl) =>
 Br ((x14.len : Int) == 1) (
 Ld .sl ((adr b8).add 2) H40 fun (x15 : Sl) =>
 IxA 5 x15 0 fun a5 =>
 LdC [(.int .i64), (.int .i64), (.int .i64), (.int .i64), (.int .i64)] a5 H40 fun (c1 : Int × Int × Int × Int × Int) =>
 kk1 (eqL [(.int .i64), (.int .i64), (.int .i64), (.int .i64), (.int .i64)] (c1.1, c1.2.1, c1.2.2.1, c1.2.2.2.1, c1.2.2.2.2) (0, 5, 1, 1, 2)) H40) (
 kk1 false H40)) (
 kk1 false H40)) (
 kk1 false H40)) (
 kk1 false H40)) (
 kk1 false H40)) (
 kk1 false H40)) (
 kk1 false H40)) (
 kk1 false H40)) (
 kk1 false H40)) (
 kk1 false H40)) fun j1 H41 =>
 k j1 H41
def h_L_shown : Hint := (.two .no (.two .no (.two .no (.two .no (.two .no (.two (.join [(0, (.c .bool))] .no) .no))))))
theorem cQeg  {H : Heap} {k : Bool → Heap → Prop} (h : vQeg  H k) : CallT Pg fQen [] (.one (.c .bool)) H k :=
 call_of_E (h := h_L_shown) Pg_mixed Tryz.func7 (by kernel_rfl) (by kernel_rfl) (by kernel_rfl) (by kernel_rfl) (Eq.mpr (by kernel_rfl) h)
def vQeh (e_ : Int × Int × Int × Sl × Int × Int × Sl) (H : Heap) (k : Int × Int × Int × Sl × Int × Int × Sl → Heap → Prop) : Prop :=
 Nw #[.int .i64 e_.1, .int .i64 e_.2.1, .int .i64 e_.2.2.1, slV e_.2.2.2.1, .int .i64 e_.2.2.2.2.1, .int .i64 e_.2.2.2.2.2.1, slV e_.2.2.2.2.2.2] TQae H fun b1 H1 =>
 Nw #[.int .i64 0, .int .i64 0, .int .i64 0, .slice none 0 0, .int .i64 0, .int .i64 0, .slice none 0 0] TQae H1 fun b2 H2 =>
 Ld .sl ((adr b1).add 3) H2 fun (x1 : Sl) =>
 Lt (IntKind.wrap .i64 ((x1.len : Int) + 80)) fun t1 =>
 Mks TQav 3 24 #[.int .i64 0, .int .i64 0, .int .i64 0] t1 t1 H2 fun l1 H3 =>
 Ld .sl ((adr b1).add 3) H3 fun (x2 : Sl) =>
 Cpy 3 l1 x2 H3 fun n1 H4 =>
 Ld .sl ((adr b1).add 3) H4 fun (x3 : Sl) =>
 LoopT (σ := Int) (fun next1 s1 H5 =>
 Br (decide (s1 < (l1.len : Int))) (
 IxA 3 l1 s1 fun a1 =>
 St (a1.add 0) (.int .i64 (-7)) H5 fun H6 =>
 St (a1.add 1) (.int .i64 0) H6 fun H7 =>
 St (a1.add 2) (.int .i64 0) H7 fun H8 =>
 Lt (IntKind.wrap .i64 (s1 + 1)) fun t2 =>
 next1 t2 H8) (
 Ld .sl (((adr b1).add 4).add 2) H5 fun (x4 : Sl) =>
 Lt (IntKind.wrap .i64 ((x4.len : Int) + 80)) fun t3 =>
 Mks TQai 2 32 #[.int .i64 0, .slice none 0 0] t3 t3 H5 fun l2 H9 =>
 LoopT (σ := Int) (fun next2 s2 H10 =>
 Br (decide (s2 < (l2.len : Int))) (
 Jn (σ := Unit) (fun kk1 =>
 IxA 2 l2 s2 fun a2 =>
 St (a2.add 0) (.int .i64 (-7)) H10 fun H12 =>
 St (a2.add 1) (.slice none 0 0) H12 fun H13 =>
 Ld .sl (((adr b1).add 4).add 2) H13 fun (x5 : Sl) =>
 Jn (σ := Unit) (fun kk2 =>
 Br (decide (s2 < (x5.len : Int))) (
 Ld .sl (((adr b1).add 4).add 2) H13 fun (x6 : Sl) =>
 IxA 2 x6 s2 fun a3 =>
 Ld .sl (a3.add 1) H13 fun (x7 : Sl) =>
 Lt (IntKind.wrap .i64 ((x7.len : Int) + 80)) fun t4 =>
 Mks TQaq 1 8 #[.int .i64 0] t4 t4 H13 fun l3 H15 =>
 Ld .sl (((adr b1).add 4).add 2) H15 fun (x8 : Sl) =>
 IxA 2 x8 s2 fun a4 =>
 Ld .sl (a4.add 1) H15 fun (x9 : Sl) =>
 Cpy 1 l3 x9 H15 fun n2 H16 =>
 Ld .sl (((adr b1).add 4).add 2) H16 fun (x10 : Sl) =>
 IxA 2 x10 s2 fun a5 =>
 Ld .sl (a5.add 1) H16 fun (x11 : Sl) =>
 LoopT (σ := Int) (fun next3 s3 H17 =>
 Br (decide (s3 < (l3.len : Int))) (
 IxA 1 l3 s3 fun a6 =>
 St a6 (.int .i64 (-7)) H17 fun H18 =>
 Lt (IntKind.wrap .i64 (s3 + 1)) fun t5 =>
 next3 t5 H18) (
 Ld .sl (((adr b1).add 4).add 2) H17 fun (x12 : Sl) =>
 IxA 2 x12 s2 fun a7 =>
 Ld (.int .i64) a7 H17 fun (x13 : Int) =>
 Ld .sl (((adr b1).add 4).add 2) H17 fun (x14 : Sl) =>
 IxA 2 x14 s2 fun a8 =>
 Ld .sl (a8.add 1) H17 fun (x15 : Sl) =>
 SlA 1 l3 0 (x15.len : Int) (l3.cap : Nat) fun l4 =>
 IxA 2 l2 s2 fun a9 =>
 St (a9.add 0) (.int .i64 x13) H17 fun H19 =>
 St (a9.add 1) (slV l4) H19 fun H20 =>
 kk2 () H20)) (x11.len : Int) H16) (
 kk2 () H13)) fun j2 H14 =>
 kk1 () H14) fun j1 H11 =>
 Lt (IntKind.wrap .i64 (s2 + 1)) fun t6 =>
 next2 t6 H11) (
 Ld .sl ((adr b1).add 3) H10 fun (x16 : Sl) =>
 SlA 3 l1 0 (x16.len : Int) (l1.cap : Nat) fun l5 =>
 St ((adr b1).add 3) (slV l5) H10 fun H21 =>
 Ld .sl (((adr b1).add 4).add 2) H21 fun (x17 : Sl) =>
 SlA 2 l2 0 (x17.len : Int) (l2.cap : Nat) fun l6 =>
 St (((adr b1).add 4).add 2) (slV l6) H21 fun H22 =>
 LdC [(.int .i64), (.int .i64), (.int .i64), .sl, (.int .i64), (.int .i64), .sl] (adr b1) H22 fun (c1 : Int × Int × Int × Sl × Int × Int × Sl) =>
 St ((adr b2).add 0) (.int .i64 c1.1) H22 fun H23 =>
 St ((adr b2).add 1) (.int .i64 c1.2.1) H23 fun H24 =>
 St ((adr b2).add 2) (.int .i64 c1.2.2.1) H24 fun H25 =>
 St ((adr b2).add 3) (slV c1.2.2.2.1) H25 fun H26 =>
 St ((adr b2).add 4) (.int .i64 c1.2.2.2.2.1) H26 fun H27 =>
 St ((adr b2).add 5) (.int .i64 c1.2.2.2.2.2.1) H27 fun H28 =>
 St ((adr b2).add 6) (slV c1.2.2.2.2.2.2) H28 fun H29 =>
 LdC [(.int .i64), (.int .i64), (.int .i64), .sl, (.int .i64), (.int .i64), .sl] (adr b2) H29 fun (c2 : Int × Int × Int × Sl × Int × Int × Sl) =>
 k (c2.1, c2.2.1, c2.2.2.1, c2.2.2.2.1, c2.2.2.2.2.1, c2.2.2.2.2.2.1, c2.2.2.2.2.2.2) H29)) 0 H9)) (x3.len : Int) H4
def h_L_copied : Hint := (.two .no (.two .no (.two .no (.two (.two .no (.one (.loop [(4, (.c (.int .i64)))] .no))) (.two .no (.two (.two .no (.one (.loop [(6, (.c (.int .i64)))] (.two .no (.two (.join [] (.one (.two .no (.two .no (.join [] (.two (.two .no (.two .no (.two (.two .no (.one (.loop [(8, (.c (.int .i64)))] .no))) .no))) .no)))))) .no))))) .no))))))
theorem cQeh (e_ : Int × Int × Int × Sl × Int × Int × Sl) {H : Heap} {k : Int × Int × Int × Sl × Int × Int × Sl → Heap → Prop} (h : vQeh e_ H k) : CallT Pg fQeo [.agg #[.int .i64 e_.1, .int .i64 e_.2.1, .int .i64 e_.2.2.1, slV e_.2.2.2.1, .int .i64 e_.2.2.2.2.1, .int .i64 e_.2.2.2.2.2.1, slV e_.2.2.2.2.2.2]] (.one (.agg [(.int .i64), (.int .i64), (.int .i64), .sl, (.int .i64), (.int .i64), .sl])) H k :=
 call_of_E (h := h_L_copied) Pg_mixed Tryz.func9 (by kernel_rfl) (by kernel_rfl) (by kernel_rfl) (by kernel_rfl) (Eq.mpr (by kernel_rfl) h)
def vQei (l_ : Sl) (H : Heap) (k : Sl × Sl → Heap → Prop) : Prop :=
 Nw #[.slice none 0 0, .slice none 0 0] TQaj H fun b1 H1 =>
 Nw #[.int .i64 1] TQap H1 fun b2 H2 =>
 Nw #[.slice none 0 0, .slice none 0 0, .slice none 0 0, .slice (some (adr b2)) 1 1, .string (⟨#[115]⟩ : ByteArray), .int .i64 0, .int .i64 0, slV l_] TQaw H2 fun b3 H3 =>
 St ((adr b1).add 0) (.slice (some (adr b3)) 1 1) H3 fun H4 =>
 St ((adr b1).add 1) (.slice none 0 0) H4 fun H5 =>
 LdC [.sl, .sl] (adr b1) H5 fun (c1 : Sl × Sl) =>
 k (c1.1, c1.2) H5
def h_L_one : Hint := .no
theorem cQei (l_ : Sl) {H : Heap} {k : Sl × Sl → Heap → Prop} (h : vQei l_ H k) : CallT Pg fQep [slV l_] (.one (.agg [.sl, .sl])) H k :=
 call_of_E (h := h_L_one) Pg_mixed Tryz.func20 (by kernel_rfl) (by kernel_rfl) (by kernel_rfl) (by kernel_rfl) (Eq.mpr (by kernel_rfl) h)
def vQej  (H : Heap) (k : Int × Int × Int × Sl × Int × Int × Sl → Heap → Prop) : Prop :=
 Nw #[.int .i64 0, .int .i64 0, .int .i64 0, .slice none 0 0, .int .i64 0, .int .i64 0, .slice none 0 0] TQae H fun b1 H1 =>
 Nw #[.int .i64 7] TQaq H1 fun b2 H2 =>
 Nw #[.int .i64 1, .slice (some (adr b2)) 1 1] TQai H2 fun b3 H3 =>
 St ((adr b1).add 0) (.int .i64 3) H3 fun H4 =>
 St ((adr b1).add 1) (.int .i64 0) H4 fun H5 =>
 St ((adr b1).add 2) (.int .i64 0) H5 fun H6 =>
 St ((adr b1).add 3) (.slice none 0 0) H6 fun H7 =>
 St ((adr b1).add 4) (.int .i64 5) H7 fun H8 =>
 St ((adr b1).add 5) (.int .i64 1) H8 fun H9 =>
 St ((adr b1).add 6) (.slice (some (adr b3)) 1 1) H9 fun H10 =>
 LdC [(.int .i64), (.int .i64), (.int .i64), .sl, (.int .i64), (.int .i64), .sl] (adr b1) H10 fun (c1 : Int × Int × Int × Sl × Int × Int × Sl) =>
 k (c1.1, c1.2.1, c1.2.2.1, c1.2.2.2.1, c1.2.2.2.2.1, c1.2.2.2.2.2.1, c1.2.2.2.2.2.2) H10
def h_L_env : Hint := .no
theorem cQej  {H : Heap} {k : Int × Int × Int × Sl × Int × Int × Sl → Heap → Prop} (h : vQej  H k) : CallT Pg fQeq [] (.one (.agg [(.int .i64), (.int .i64), (.int .i64), .sl, (.int .i64), (.int .i64), .sl])) H k :=
 call_of_E (h := h_L_env) Pg_mixed Tryz.func21 (by kernel_rfl) (by kernel_rfl) (by kernel_rfl) (by kernel_rfl) (Eq.mpr (by kernel_rfl) h)
end
section
open Go.RowKit Go.Shelf
attribute [local go_sem] Oper.semAt_some
abbrev InX := Int × Int × Int
abbrev inAgg (x : InX) : Value := .agg #[.int .i64 x.1, .int .i64 x.2.1, .int .i64 x.2.2]
def elX (zs : List InX) (j : Nat) : InX := zs[j]?.getD (0, 0, 0)
def backTo (zs : List InX) (k : Nat) : List (Int × InX) := (List.range k).map fun (j : Nat) => ((zs.length : Int) - 1 - j, elX zs (zs.length - 1 - j))
theorem backTo_succ (zs : List InX) (k : Nat) : backTo zs (k + 1) = backTo zs k ++ [((zs.length : Int) - 1 - k, elX zs (zs.length - 1 - k))] := by simp [backTo, List.range_succ]
theorem backTo_length (zs : List InX) (k : Nat) : (backTo zs k).length = k := by simp [backTo]
set_option maxHeartbeats 2000000 in
theorem back1_in (F : Fence) (n : Nat) (h8 : F.fn 191) (hro : F.round = none) (hn : 1 ≤ n) (l Bs n₀ b off cap : Nat) (zs : List InX) (hreach : zs.length * 24 ≤ 140737488351232) (hb : b < n₀) (hBn : Bs < n₀) (J Jx : List (Int × InX) → World → Prop)
    (hY : ∀ pre x W, J pre W → pre.length < zs.length → YieldAt F (n - 1) Tryz.prog l #[.int .i64 x.1, inAgg x.2] W fun e W' =>
      (e = .returned (.bool true) ∧ J (pre ++ [x]) W' ∧ Below n₀ W W') ∨ (e = .returned (.bool false) ∧ Jx (pre ++ [x]) W'))
    (W : World) (hBs : W.cell? ⟨Bs, 0, none⟩ = some (.slice (some ⟨b, off, none⟩) zs.length cap))
    (hc : ∀ j, j < zs.length → W.cell? ⟨b, off + j * 3, none⟩ = some (.int .i64 (elX zs j).1) ∧ W.cell? ⟨b, off + j * 3 + 1, none⟩ = some (.int .i64 (elX zs j).2.1) ∧ W.cell? ⟨b, off + j * 3 + 2, none⟩ = some (.int .i64 (elX zs j).2.2)) (h0 : J [] W) :
    CallsIn F n Tryz.prog 191 #[.func (.yield l) #[] #[], .pointer (some ⟨Bs, 0, none⟩)] W fun e W' => (∃ v, e = .returned v) ∧
      ((∃ ys, ys = backTo zs zs.length ∧ J ys W') ∨ (∃ pre, (∃ k, k ≤ zs.length ∧ pre = backTo zs k) ∧ Jx pre W')) := by
  refine callsIn_of_wp Tryz.func191 rfl h8 ?_ hro
  simp only [Tryz.ntmps191, List.size_toArray, List.length_cons, List.length_nil, Nat.reduceAdd, Nat.reduceSub, Array.replicate_succ, Array.replicate_zero, List.push_toArray, List.append_toArray, List.nil_append, List.cons_append]
  gi_wp2
  gi_loopw [3] (fun i wr => ∃ k : Nat, k ≤ zs.length ∧ i = .int .i64 ((zs.length : Int) - 1 - k) ∧ J (backTo zs k) wr ∧ Below n₀ W wr)
    (fun i _ => (intOf i + 1).toNat)
  case atStart => exact ⟨0, Nat.zero_le _, by simp, h0, Below.refl _ _⟩
  case round =>
    obtain ⟨k, hk, rfl, hJs, hnx⟩ := hrel
    by_cases hlt : k < zs.length
    · obtain ⟨fn, tmps, assign, body, hy, hR⟩ := hY _ ((zs.length : Int) - 1 - k, elX zs (zs.length - 1 - k)) wr hJs (by rw [backTo_length]; exact hlt)
      obtain ⟨c0, c1, c2⟩ := hc (zs.length - 1 - k) (by omega)
      have d0 := (hnx.cell (p := ⟨b, off + (zs.length - 1 - k) * 3, none⟩) hb).trans c0
      have d1 := (hnx.cell (p := ⟨b, off + (zs.length - 1 - k) * 3 + 1, none⟩) hb).trans c1
      have d2 := (hnx.cell (p := ⟨b, off + (zs.length - 1 - k) * 3 + 2, none⟩) hb).trans c2
      dsimp only [inAgg] at hy
      have hbs := (hnx.cell (p := ⟨Bs, 0, none⟩) hBn).trans hBs
      have hge : (0 : Int) ≤ (zs.length : Int) - 1 - k := by omega
      gi_wp2
      refine hR.mono ?_
      rintro e W3 (⟨rfl, hJ3, hk3⟩ | ⟨rfl, hJx3⟩)
      · gi_wp2
        go_roundw
        case rel => exact ⟨k + 1, by omega, by simp; omega, by rw [backTo_succ]; exact hJ3, hnx.trans hk3⟩
        case measure => simp [intOf]; omega
      · gi_wp2
        refine bodyPost_ret (results_none rfl _ _ _) rfl ?_
        exact ⟨⟨_, rfl⟩, .inr ⟨_, ⟨k + 1, by omega, (backTo_succ _ _).symm⟩, hJx3⟩⟩
    · obtain rfl : k = zs.length := by omega
      gi_wp2
      go_end0
      exact ⟨⟨_, rfl⟩, .inl ⟨_, rfl, hJs⟩⟩
set_option maxHeartbeats 1000000 in
theorem back1_nil_in (F : Fence) (n : Nat) (h8 : F.fn 191) (hro : F.round = none) (l Bs : Nat) (J : List (Int × InX) → World → Prop) (W : World) (hBs : W.cell? ⟨Bs, 0, none⟩ = some (.slice none 0 0)) (h0 : J [] W) :
    CallsIn F n Tryz.prog 191 #[.func (.yield l) #[] #[], .pointer (some ⟨Bs, 0, none⟩)] W fun e W' => (∃ v, e = .returned v) ∧ J [] W' := by
  refine callsIn_of_wp Tryz.func191 rfl h8 ?_ hro
  simp only [Tryz.ntmps191, List.size_toArray, List.length_cons, List.length_nil, Nat.reduceAdd, Nat.reduceSub, Array.replicate_succ, Array.replicate_zero, List.push_toArray, List.append_toArray, List.nil_append, List.cons_append]
  gi_wp2
  gi_loopw [3] (fun i wr => i = .int .i64 (-1) ∧ J [] wr) (fun _ _ => 0)
  case atStart => exact ⟨rfl, h0⟩
  case round =>
    obtain ⟨rfl, hJs⟩ := hrel
    gi_wp2
    go_end0
    exact ⟨⟨_, rfl⟩, hJs⟩
set_option maxHeartbeats 1000000 in
theorem back_in (F : Fence) (n : Nat) (h5 : F.fn 162) (hro : F.round = none) (a : Option Addr) (len cap : Nat) (w : World) :
    CallsIn F n Tryz.prog 162 #[.slice a len cap] w fun e w' => e = .returned (.func (.func 191) #[] #[.pointer (some ⟨w.heap.size, 0, none⟩)]) ∧ w' = w.alloc (.cells #[.slice a len cap] 26) := by
  refine callsIn_of_wp Tryz.func162 rfl h5 ?_ hro
  simp only [Tryz.ntmps162, List.size_toArray, List.length_cons, List.length_nil, Nat.reduceAdd, Nat.reduceSub, Array.replicate_succ, Array.replicate_zero, List.push_toArray, List.append_toArray, List.nil_append, List.cons_append]
  gi_wp2
  go_ret
  exact ⟨rfl, rfl⟩
def InsAt (n₀ : Nat) (W : World) (sv : Value) (zs : List InX) : Prop :=
  (sv = .slice none 0 0 ∧ zs = []) ∨ ∃ b off cap, sv = .slice (some ⟨b, off, none⟩) zs.length cap ∧ b < n₀ ∧ ∀ j, j < zs.length → W.cell? ⟨b, off + j * 3, none⟩ = some (.int .i64 (elX zs j).1) ∧ W.cell? ⟨b, off + j * 3 + 1, none⟩ = some (.int .i64 (elX zs j).2.1) ∧ W.cell? ⟨b, off + j * 3 + 2, none⟩ = some (.int .i64 (elX zs j).2.2)
theorem InsAt.below {n₀ : Nat} {A B : World} (h : Below n₀ A B) {sv : Value} {zs : List InX} : InsAt n₀ A sv zs → InsAt n₀ B sv zs
  | .inl e => .inl e
  | .inr ⟨b, off, cap, e, hb, hc⟩ => .inr ⟨b, off, cap, e, hb, fun j hj => by
    obtain ⟨c0, c1, c2⟩ := hc j hj
    exact ⟨(h.cell (p := ⟨b, off + j * 3, none⟩) hb).trans c0, (h.cell (p := ⟨b, off + j * 3 + 1, none⟩) hb).trans c1, (h.cell (p := ⟨b, off + j * 3 + 2, none⟩) hb).trans c2⟩⟩
theorem back_stops (F : Fence) (n : Nat) (h8 : F.fn 191) (hro : F.round = none) (hn : 1 ≤ n) (Bs n₀ : Nat) (sv : Value) (zs : List InX) (hreach : zs.length * 24 ≤ 140737488351232) (w : World) (hBs : Bs < n₀) (hn₀ : n₀ ≤ w.heap.size)
    (hc : w.cell? ⟨Bs, 0, none⟩ = some sv) (hI : InsAt n₀ w sv zs) :
    SeqStopsK F n Tryz.prog 191 #[.pointer (some ⟨Bs, 0, none⟩)] (fun x : Int × InX => #[Value.int .i64 x.1, inAgg x.2]) (Below n₀) (fun ys => ys = backTo zs zs.length) (fun pre => ∃ k, k ≤ zs.length ∧ pre = backTo zs k) zs.length w := fun l J Jx W hW _ _ hY h0 => by
  have hc' := (hW.cell (p := ⟨Bs, 0, none⟩) (Nat.lt_of_lt_of_le hBs hn₀)).trans hc
  rcases hI.below (hW.mono hn₀) with ⟨rfl, rfl⟩ | ⟨b, off, cap, rfl, hb, hcs⟩
  · exact (back1_nil_in F n h8 hro l Bs J W hc' h0).mono fun e W' ⟨he, hj⟩ => ⟨he, .inl ⟨_, rfl, hj⟩⟩
  · refine (back1_in F n h8 hro hn l Bs n₀ b off cap zs hreach hb hBs J Jx hY W hc' hcs h0).mono ?_
    rintro e W' ⟨he, ⟨ys, rfl, hj⟩ | ⟨pre, ⟨k, hk, rfl⟩, hj⟩⟩
    · exact ⟨he, .inl ⟨_, rfl, hj⟩⟩
    · exact ⟨he, .inr ⟨_, ⟨k, hk, rfl⟩, hj⟩⟩
end
section
open Go.RowKit Go.Shelf
attribute [local go_sem] Oper.semAt_some
def hit (p q : Int) (x : Int × InX) : Prop := x.2.1 = p ∧ x.2.2.1 = q
set_option maxHeartbeats 2000000 in
theorem input_in (F : Fence) (n : Nat) (h1 : 5 ≤ n) (h119 : F.fn 119) (h162 : F.fn 162) (h191 : F.fn 191) (hro : F.round = none) (b : Nat) (sv : Value) (p q : Int) (zs : List InX) (hreach : zs.length * 24 ≤ 140737488351232) (w : World)
    (hbw : b < w.heap.size) (hsl : ∃ a l c, sv = .slice a l c) (hc : w.cell? ⟨b, 14, none⟩ = some sv) (hI : InsAt w.heap.size w sv zs) :
    CallsIn F n Tryz.prog 119 #[.pointer (some ⟨b, 0, none⟩), .int .i64 p, .int .i64 q] w fun e W' => Below w.heap.size w W' ∧ ((e = .returned (.int .i64 0) ∧ ∀ x ∈ backTo zs zs.length, ¬ hit p q x) ∨ ∃ pre x k, k ≤ zs.length ∧ backTo zs k = pre ++ [x] ∧ (∀ y ∈ pre, ¬ hit p q y) ∧ hit p q x ∧ e = .returned (.int .i64 x.2.2.2)) := by
  obtain ⟨sa, sl, sc, rfl⟩ := hsl
  refine callsIn_of_wp_marks Tryz.func119 rfl h119 ?_ hro
  simp only [Tryz.ntmps119, List.size_toArray, List.length_cons, List.length_nil, Nat.reduceAdd, Nat.reduceSub, Array.replicate_succ, Array.replicate_zero, List.push_toArray, List.append_toArray, List.nil_append, List.cons_append]
  have hc3 : (((w.alloc (.cells #[.int .i64 p] 2)).alloc (.cells #[.int .i64 q] 2)).alloc (.cells #[.int .i64 0] 2)).cell? ⟨b, 14, none⟩ = some (.slice sa sl sc) :=
    (((((Below.refl w.heap.size w).alloc (Nat.le_refl _) _).alloc (by simp) _).alloc (by simp; omega) _).cell (p := ⟨b, 14, none⟩) hbw).trans hc
  gi_wp2
  refine ⟨fun _ => by omega, (back_in F (n - 1) h162 hro _ _ _ _).mono ?_⟩
  rintro e w' ⟨rfl, rfl⟩
  gi_wp2
  have hB0 : Below w.heap.size w ((((w.alloc (.cells #[.int .i64 p] 2)).alloc (.cells #[.int .i64 q] 2)).alloc (.cells #[.int .i64 0] 2)).alloc (.cells #[.slice sa sl sc] 26)) :=
    ((((Below.refl w.heap.size w).alloc (Nat.le_refl _) _).alloc (by simp) _).alloc (by simp; omega) _).alloc (by simp; omega) _
  obtain ⟨W0, hW0⟩ : ∃ W0, ((((w.alloc (.cells #[.int .i64 p] 2)).alloc (.cells #[.int .i64 q] 2)).alloc (.cells #[.int .i64 0] 2)).alloc (.cells #[.slice sa sl sc] 26)) = W0 := ⟨_, rfl⟩
  have bP : Boxed W0 w.heap.size 2 (.int .i64 p) := by rw [← hW0]; exact (((Boxed.new w 2 (.int .i64 p)).alloc _).alloc _).alloc _
  have bQ : Boxed W0 (w.heap.size + 1) 2 (.int .i64 q) := by rw [← hW0]; have := Boxed.new (w.alloc (.cells #[.int .i64 p] 2)) 2 (.int .i64 q); simp at this; exact (this.alloc _).alloc _
  have bR : Boxed W0 (w.heap.size + 1 + 1) 2 (.int .i64 0) := by rw [← hW0]; have := Boxed.new ((w.alloc (.cells #[.int .i64 p] 2)).alloc (.cells #[.int .i64 q] 2)) 2 (.int .i64 0); simp at this; exact this.alloc _
  have bS : Boxed W0 (w.heap.size + 1 + 1 + 1) 26 (.slice sa sl sc) := by rw [← hW0]; have := Boxed.new (((w.alloc (.cells #[.int .i64 p] 2)).alloc (.cells #[.int .i64 q] 2)).alloc (.cells #[.int .i64 0] 2)) 26 (.slice sa sl sc); simp at this; exact this
  rw [hW0] at hB0 ⊢
  have hsz : W0.heap.size = w.heap.size + 1 + 1 + 1 + 1 := by rw [← hW0]; simp
  have hI0 : InsAt W0.heap.size W0 (.slice sa sl sc) zs := by
    have := hI.below hB0
    rcases this with h | ⟨b, off, cap, e, hb, hcc⟩
    · exact .inl h
    · exact .inr ⟨b, off, cap, e, by omega, hcc⟩
  refine wpIn_rangeFunc_ownH hro (by omega) (gf := 191) (lb := #[.pointer (some ⟨w.heap.size + 1 + 1 + 1, 0, none⟩)]) rfl h191 (enters_of Tryz.func191 (by kernel_rfl) rfl)
    (back_stops F (n - 1) h191 hro (by omega) (w.heap.size + 1 + 1 + 1) W0.heap.size (.slice sa sl sc) zs hreach W0 (by omega) (Nat.le_refl _) bS.cell hI0) belowK_t (belowK_b (Nat.le_refl _)) (Below.refl _ _) (fun _ => rfl)
    (fun pre W => (((Boxed W w.heap.size 2 (.int .i64 p) ∧ Boxed W (w.heap.size + 1) 2 (.int .i64 q)) ∧ Boxed W (w.heap.size + 1 + 1) 2 (.int .i64 0)) ∧ ∀ x ∈ pre, ¬ hit p q x) ∧ (Below w.heap.size w W ∧ Below W0.heap.size W0 W))
    (fun c pre W => (c = .ret ∧ ∃ pre' x, pre = pre' ++ [x] ∧ (∀ y ∈ pre', ¬ hit p q y) ∧ hit p q x ∧ Boxed W (w.heap.size + 1 + 1) 2 (.int .i64 x.2.2.2)) ∧ Below w.heap.size w W)
    ?hI ?hIx ?h0
    (fun x a' W => ∃ Bx, w.heap.size + 1 + 1 < Bx ∧ W.heap[Bx]? = some (.cells #[.int .i64 x.2.1, .int .i64 x.2.2.1, .int .i64 x.2.2.2] 57) ∧ a' = { tmps := #[.pointer (some ⟨b, 0, none⟩), .int .i64 p, .int .i64 q, undef, .pointer (some ⟨w.heap.size, 0, none⟩), .pointer (some ⟨w.heap.size + 1, 0, none⟩), .pointer (some ⟨w.heap.size + 1 + 1, 0, none⟩), undef, .pointer (some ⟨Bx, 0, none⟩), .pointer (some ⟨b, 0, none⟩), .pointer (some ⟨b, 0, none⟩), .pointer (some ⟨b, 11, none⟩), .pointer (some ⟨b, 14, none⟩), .slice sa sl sc, .func (.func 191) #[] #[.pointer (some ⟨w.heap.size + 1 + 1 + 1, 0, none⟩)], .int .i64 x.1, .agg #[.int .i64 x.2.1, .int .i64 x.2.2.1, .int .i64 x.2.2.2], undef, undef, undef, undef, undef, undef, undef, undef, undef, undef, undef, undef], defers := [] })
    ?hAx ?assign ?body ?done ?stop
  case hI =>
    exact OwnFrom.and (OwnFrom.and (OwnFrom.and (OwnFrom.and (Own.from (boxed_own _ _ _) _) (Own.from (boxed_own _ _ _) _)) (Own.from (boxed_own _ _ _) _)) (ownFrom_pure _ _)) (OwnFrom.and (ownFrom_below (Nat.le_refl _) (by omega)) (ownFrom_below (Nat.le_refl _) (Nat.le_refl _)))
  case hIx =>
    intro c
    refine OwnFrom.and ?_ (ownFrom_below (Nat.le_refl _) (by omega))
    rintro s X Y row ⟨hc, pre', x, h1, h2, h3, h4⟩ hg hr
    exact ⟨hc, pre', x, h1, h2, h3, boxed_own _ 2 (fun (_ : Unit) => Value.int .i64 x.2.2.2) () X Y row h4 hg (fun r e => (hr r e).2)⟩
  case h0 => exact ⟨⟨⟨⟨bP, bQ⟩, bR⟩, fun x hx => by cases hx⟩, hB0, Below.refl _ _⟩
  case hAx =>
    rintro x a' _ X Y row ⟨Bx, h1, h2, h3⟩ hg hr
    refine ⟨Bx, h1, ?_, h3⟩
    refine (hg.block Bx (Array.getElem?_eq_some_iff.1 h2).1 fun e => ?_).trans h2
    obtain ⟨_, o, ho, hcl⟩ := hr Bx e.symm
    rw [h2] at ho; cases ho; cases hcl
  case assign =>
    rintro l pre x W K ⟨⟨⟨⟨b1, b2⟩, b3⟩, hno⟩, hB1, hB2⟩ hK
    dsimp only [inAgg]
    gi_wp2
    refine hK _ _ ((KeepsOthers.alloc _ _).from _) ((Below.refl _ W).alloc hB2.size _) ⟨⟨⟨⟨b1.alloc _, b2.alloc _⟩, b3.alloc _⟩, hno⟩, hB1.alloc hB1.size _, hB2.alloc hB2.size _⟩ ⟨W.heap.size, b3.lt, World.alloc_heap_new W _, rfl⟩
  case body =>
    rintro l pre x a' W hl ⟨r, hr⟩ ⟨⟨⟨⟨b1, b2⟩, b3⟩, hno⟩, hB1, hB2⟩ ⟨Bx, hBx, bX, rfl⟩ hlt
    have c1 := b1.cell
    have c2 := b2.cell
    have x0 : W.cell? ⟨Bx, 0, none⟩ = some (.int .i64 x.2.1) := by simp [World.cell?, bX]
    have x1 : W.cell? ⟨Bx, 1, none⟩ = some (.int .i64 x.2.2.1) := by simp [World.cell?, bX]
    have x2 : W.cell? ⟨Bx, 2, none⟩ = some (.int .i64 x.2.2.2) := by simp [World.cell?, bX]
    have f3 := b3.frozen
    have c3 := b3.cell
    gi_wp2
    · rename_i e1 e2
      refine ⟨(KeepsOthers.setCell _ _ _).from _, ⟨rfl, pre, x, rfl, hno, ⟨e1, by simpa using e2⟩, b3.set _⟩, hB1.setCell (p := ⟨w.heap.size + 1 + 1, 0, none⟩) (by simp; omega) _⟩
    · rename_i e1 e2
      refine ⟨KeepsFrom.refl _ _, Below.refl _ _, ⟨⟨⟨b1, b2⟩, b3⟩, fun y hy => ?_⟩, hB1, hB2⟩
      rcases List.mem_append.1 hy with hy | hy
      · exact hno y hy
      · rw [List.mem_singleton.1 hy]; exact fun h => (by simpa using e2 : ¬ x.2.2.1 = q) h.2
    · rename_i e1
      refine ⟨KeepsFrom.refl _ _, Below.refl _ _, ⟨⟨⟨b1, b2⟩, b3⟩, fun y hy => ?_⟩, hB1, hB2⟩
      rcases List.mem_append.1 hy with hy | hy
      · exact hno y hy
      · rw [List.mem_singleton.1 hy]; exact fun h => e1 h.1
  case done =>
    rintro D xs W hD rfl ⟨⟨⟨⟨b1, b2⟩, b3⟩, hno⟩, hB1, hB2⟩ hK
    have c3 := b3.cell
    have f3 := b3.frozen
    gi_wp2
    have hK2 := (KeepsOthers.setCell W ⟨w.heap.size + 1 + 1, 0, none⟩ (.int .i64 0)).same D _ hK rfl
    refine ⟨by simp, .inl ⟨_, _, rfl, run_takeDeferred hK2, ?_⟩⟩
    have hc5 := cell_kept (b3.set (.int .i64 0)).cell (grownBy_putObj' _ D (.deferred none)) (fun r e => by cases e; exact ⟨_, hK2, rfl⟩)
    refine ⟨.int .i64 0, ?_, (hB1.setCell (p := ⟨w.heap.size + 1 + 1, 0, none⟩) (by simp; omega) _).trans (belowK_b (w := w) (Nat.le_refl _) _ D _ _ (by omega) hK2 rfl rfl), .inl ⟨rfl, hno⟩⟩
    simp [results, Tryz.f119, go_sem, hc5]
  case stop =>
    rintro D c pre W hD hSp ⟨⟨rfl, pre', x, hpre, hno, hhit, b3⟩, hB1⟩ hK
    have c3 := b3.cell
    gi_wp2
    refine ⟨by simp, .inl ⟨_, _, rfl, run_takeDeferred hK, ?_⟩⟩
    have hc5 := cell_kept b3.cell (grownBy_putObj' _ D (.deferred none)) (fun r e => by cases e; exact ⟨_, hK, rfl⟩)
    obtain ⟨k, hk, hkp⟩ := hSp
    refine ⟨.int .i64 x.2.2.2, ?_, hB1.trans (belowK_b (w := w) (Nat.le_refl _) W D _ _ (by omega) hK rfl rfl), .inr ⟨pre', x, k, hk, by rw [← hkp, hpre], hno, hhit, rfl⟩⟩
    simp [results, Tryz.f119, go_sem, hc5]
end
end Go.Proofs.YtfpmgpblhhcpgaaGreat
namespace Go.Proofs.YtfpmgpblhhcpgaaGreat.Hc.Dice
set_option linter.unusedVariables false
set_option linter.unusedSimpArgs false
set_option maxRecDepth 100000
section
open Go Hc
def stepI : Int := 11400714819323198485
def mixI (x : Int) : Int :=
  let a := IntKind.wrap .u64 (x + 11400714819323198485)
  let b := IntKind.wrap .u64 (bits .xor .u64 a (a.fdiv (2 ^ 30)) * 13787848793156543929)
  let c := IntKind.wrap .u64 (bits .xor .u64 b (b.fdiv (2 ^ 27)) * 10723151780598845931)
  bits .xor .u64 c (c.fdiv (2 ^ 31))
theorem bits_u64_bd (op : BinOp) (x y : Int) : 0 ≤ bits op .u64 x y ∧ bits op .u64 x y < 18446744073709551616 := by
  unfold bits; dsimp only; rw [wrap_u64]; omega
theorem mixI_bd (x : Int) : 0 ≤ mixI x ∧ mixI x < 18446744073709551616 := by unfold mixI; dsimp only; exact bits_u64_bd _ _ _
theorem mix_zero : mixI 7046029254386353131 = 0 := by decide +kernel
def nextS (s : Int) : Int := IntKind.wrap .u64 (s + 11400714819323198485)
def itS (s : Int) : Nat → Int
  | 0 => s
  | j + 1 => nextS (itS s j)
theorem itS_eq (s : Int) (h0 : 0 ≤ s) (h1 : s < 18446744073709551616) (j : Nat) : itS s j = (s + j * 11400714819323198485) % 18446744073709551616 := by
  induction j with
  | zero => simp [itS]; omega
  | succ j ih =>
    simp only [itS, nextS, wrap_u64]
    rw [ih]
    have : ((j + 1 : Nat) : Int) * 11400714819323198485 = (j : Int) * 11400714819323198485 + 11400714819323198485 := by
      rw [Int.natCast_add]; omega
    rw [this]
    omega
theorem some_zero (s : Int) (h0 : 0 ≤ s) (h1 : s < 18446744073709551616) : ∃ j, mixI (itS s j) = 0 := by
  refine ⟨(((7046029254386353131 - s) * 17428512612931826493) % 18446744073709551616).toNat, ?_⟩
  rw [itS_eq s h0 h1, Int.toNat_of_nonneg (by omega)]
  have : (s + (7046029254386353131 - s) * 17428512612931826493 % 18446744073709551616 * 11400714819323198485) % 18446744073709551616 = 7046029254386353131 := by omega
  rw [this]; exact mix_zero
theorem itS_bd (s : Int) (h0 : 0 ≤ s) (h1 : s < 18446744073709551616) (j : Nat) : 0 ≤ itS s j ∧ itS s j < 18446744073709551616 := by
  rw [itS_eq s h0 h1]; omega
theorem nextS_bd (s : Int) : 0 ≤ nextS s ∧ nextS s < 18446744073709551616 := by unfold nextS; rw [wrap_u64]; omega
def Falls (s m : Int) (j : Nat) : Prop := mixI (itS s j) < m ∧ ∀ i, i < j → ¬ mixI (itS s i) < m
theorem falls_ex (s m : Int) (h0 : 0 ≤ s) (h1 : s < 18446744073709551616) (hm : 0 < m) : ∃ j, Falls s m j := by
  obtain ⟨j, hj⟩ := some_zero s h0 h1
  obtain ⟨n, hn, hle⟩ := exists_least (p := fun j => mixI (itS s j) < m) ⟨j, by omega⟩
  exact ⟨n, hn, fun i hi hlt => by have := hle i hlt; omega⟩
noncomputable def fallJ (s m : Int) : Nat := Classical.epsilon (Falls s m)
theorem fallJ_spec (s m : Int) (h0 : 0 ≤ s) (h1 : s < 18446744073709551616) (hm : 0 < m) : Falls s m (fallJ s m) := Classical.epsilon_spec (falls_ex s m h0 h1 hm)
theorem Falls.unique {s m : Int} {i j : Nat} (hi : Falls s m i) (hj : Falls s m j) : i = j := by
  rcases Nat.lt_trichotomy i j with h | h | h
  · exact absurd hi.1 (hj.2 i h)
  · exact h
  · exact absurd hj.1 (hi.2 j h)
def mB (n : Int) : Int := IntKind.wrap .u64 (18446744073709551615 - (18446744073709551615 : Int).tmod n)
theorem mB_pos (n : Int) (h0 : 1 ≤ n) (h1 : n < 9223372036854775808) : 0 < mB n := by
  unfold mB
  have e : (18446744073709551615 : Int).tmod n = 18446744073709551615 % n := by rw [Int.tmod_eq_emod_of_nonneg (by decide)]
  have a := Int.emod_nonneg 18446744073709551615 (show n ≠ 0 by omega)
  have b := Int.emod_lt_of_pos 18446744073709551615 (show 0 < n by omega)
  rw [e, wrap_u64]
  omega
noncomputable def belowR (s n : Int) : Int := (mixI (itS s (fallJ s (mB n)))).tmod n
noncomputable def belowS (s n : Int) : Int := itS s (fallJ s (mB n) + 1)
theorem belowR_bd (s n : Int) (h0 : 1 ≤ n) : 0 ≤ belowR s n ∧ belowR s n < n := by
  unfold belowR
  have := mixI_bd (itS s (fallJ s (mB n)))
  rw [Int.tmod_eq_emod_of_nonneg this.1]
  exact ⟨Int.emod_nonneg _ (by omega), Int.emod_lt_of_pos _ (by omega)⟩
noncomputable def BelowF (s n : Int) : Int × Int := if n < 1 then (0, nextS s) else (belowR s n, belowS s n)
noncomputable def BetweenF (s a b : Int) : Int × Int :=
  if b < a then (a, s) else
  if b - a + 1 = 18446744073709551616 then (IntKind.wrap .i64 (mixI s), nextS s) else
  if b - a + 1 > 9223372036854775807 then (IntKind.wrap .i64 (IntKind.wrap .u64 (IntKind.wrap .u64 a + (mixI s).tmod (b - a + 1))), nextS s) else
  (a + belowR s (b - a + 1), belowS s (b - a + 1))
def newS (a b c d : Int) : Int :=
  mixI (bits .xor .u64 (mixI (bits .xor .u64 (mixI (bits .xor .u64 (mixI (IntKind.wrap .u64 a)) (IntKind.wrap .u64 b))) (IntKind.wrap .u64 c))) (IntKind.wrap .u64 d))
theorem newS_bd (a b c d : Int) : 0 ≤ newS a b c d ∧ newS a b c d < 18446744073709551616 := mixI_bd _
def newIt (a b c d : Int) : Nat → Int
  | 0 => mixI (IntKind.wrap .u64 a)
  | 1 => mixI (bits .xor .u64 (mixI (IntKind.wrap .u64 a)) (IntKind.wrap .u64 b))
  | 2 => mixI (bits .xor .u64 (mixI (bits .xor .u64 (mixI (IntKind.wrap .u64 a)) (IntKind.wrap .u64 b))) (IntKind.wrap .u64 c))
  | _ => newS a b c d
theorem BelowF_bd (s n : Int) (h0 : 0 ≤ s) (h1 : s < 18446744073709551616) : 0 ≤ (BelowF s n).2 ∧ (BelowF s n).2 < 18446744073709551616 := by
  unfold BelowF; split
  · exact nextS_bd s
  · exact itS_bd s h0 h1 _
theorem BelowF_lo (s n : Int) (hn : n < 1) : (BelowF s n).1 = 0 := by unfold BelowF; rw [if_pos hn]
theorem BelowF_in (s n : Int) (hn : 1 ≤ n) : 0 ≤ (BelowF s n).1 ∧ (BelowF s n).1 < n := by unfold BelowF; rw [if_neg (by omega)]; exact belowR_bd s n hn
def swapL (l : List Int) (i j : Nat) : List Int := (l.set i (l.getD j 0)).set j (l.getD i 0)
noncomputable def shufF : Int → Nat → List Int → List Int × Int
  | s, 0, l => (l, s)
  | s, i + 1, l => shufF (BelowF s ((i : Int) + 2)).2 i (swapL l (i + 1) (BelowF s ((i : Int) + 2)).1.toNat)
noncomputable def ShuffleF (s : Int) (n : Nat) : List Int × Int := shufF s (n - 1) (iota n)
end
end Go.Proofs.YtfpmgpblhhcpgaaGreat.Hc.Dice
