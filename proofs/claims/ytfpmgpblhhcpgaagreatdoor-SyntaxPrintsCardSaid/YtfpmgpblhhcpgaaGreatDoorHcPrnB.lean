/-
 The parser: systems and programs, walked.
-/
import Derived.Test.YtfpmgpblhhcpgaaGreatDoorE
import Derived.Tactics
import Derived.Tactics2
import Derived.Defers
import Derived.Recover
import Derived.Laws.Pointers
import Derived.Test.YtfpmgpblhhcpgaaGreatDoorHcSynB
import Derived.Lib.ItoaNum
set_option linter.unusedVariables false
set_option linter.unusedSimpArgs false
namespace Go.Proofs.YtfpmgpblhhcpgaaGreatDoor
set_option maxRecDepth 100000
section
open Hc Hc.Lex Hc.Syn
variable {H : jaa} {F : Nat}
abbrev OwB (A : Nat → Prop) (H : jaa) (op : Int) (tx : Txt) (num : Int) (ns : List Nd) (at' : Int) (b : Nat) (L : Sl) : Prop := OwnB jdY jbd A H op tx num ns at' b L
theorem jmj {f : Nat} {s s' : PS} {n : Nd} (h : ja2 F f s = some (.ok (n, s'))) : ∃ t l, n = node 5 t l := by
 cases f with
 | zero => simp [ja2] at h
 | succ f =>
   unfold ja2 at h
   obtain ⟨t, s2, h2, h⟩ := jao h
   obtain ⟨l, s3, h3, h⟩ := jao h
   obtain ⟨_, s4, h4, h⟩ := jao h
   obtain ⟨rfl, _⟩ := jaI h
   exact ⟨t, l, rfl⟩
theorem jkE {w : Txt} {i : Nat} (h : clauseW[i]? = some w) : ([jbG [119, 105, 116, 104], jbG [119, 105, 116, 104, 111, 117, 116], jbG [114, 101, 97, 100, 115], jbG [119, 114, 105, 116, 101, 115]] : List Value)[i]? = some (jbG w) := by
 have : ([jbG [119, 105, 116, 104], jbG [119, 105, 116, 104, 111, 117, 116], jbG [114, 101, 97, 100, 115], jbG [119, 114, 105, 116, 101, 115]] : List Value) = clauseW.map jbG := rfl
 rw [this, List.getElem?_map, h]; rfl
theorem jlb (hF : F ≤ 2 ^ 30) {b tb : Nat} {s : PS} (h : PR H b tb s) (h0 : s.hd.kind ≠ 0) : Wk fQad [pA b] (.one (.c .ptr)) b tb H (jec F s) (NdO H) := by
 intro kp k he hk
 refine cQal _ ?_
 unfold vQal
 have hlb := h.lt
 have htb := h.tlt.1
 generalize hres : jec F s = res at *
 unfold jec at hres
 simp only [adr_add]
 refine jbh h h0 fun H1 hU1 h1 => jcz rfl fun b1 H5 hb1 hE5 r5 => jaf ((r5.cell 2).trans rfl) ?_
 have hs1 := hU1.size
 have hB5 := upE hU1 hE5
 refine (jdS (h1.ext hE5)).st he hB5 hres.symm fun d H6 t s6 e ha hB6 hU6 h6 et => ?_
 subst et
 have r6 := hU6.row r5 (by omega)
 refine jb9 ((r6.cell 2).trans rfl) (jaY (t := ⟨0, t.text, s.hd.at'⟩) (L := ⟨none, 0, 0⟩) (lo := H.size) lfO hB6.size fun H7 q hE7 hq o7 => ?_)
 have r7 := hE7.row r6 fun h => h
 have hB7 := upE hB6 hE7
 have hs7 := hB7.size
 refine jb9 ((r7.cell 2).trans rfl) ?_
 refine jaq (vs := [jbG [119, 105, 116, 104], jbG [119, 105, 116, 104, 111, 117, 116], jbG [114, 101, 97, 100, 115], jbG [119, 114, 105, 116, 101, 115]]) fun b2 H8 hb2 hE8 _ hr8 => ?_
 have hB8 := upE hB7 hE8
 simp only [NilCk_some, adr_add]
 obtain ⟨L8, o7b⟩ := o7.toB
 have o8 : OwB (fun x => H.size ≤ x ∧ x ≠ b2) H8 2 t.text 0 [] (s.hd.at' : Nat) q L8 := (o7b.upd hE8 fun _ _ _ h => h).mono fun x h1 _ => ⟨h1.1, by omega⟩
 refine LoopT.ghost (fun m (i : Int) H' => ∃ l s' L, i = (l.length : Nat) ∧ l.length + m = 4 ∧ (∀ n ∈ l, ∃ o t u l a, n = Nd.mk o t u l a) ∧ Upd (· = b) H H' ∧ Row H' b2 jcC [jbG [119, 105, 116, 104], jbG [119, 105, 116, 104, 111, 117, 116], jbG [114, 101, 97, 100, 115], jbG [119, 114, 105, 116, 101, 115]] ∧ PR H' b tb s' ∧ OwB (fun x => H.size ≤ x ∧ x ≠ b2) H' 2 t.text 0 l (s.hd.at' : Nat) q L ∧
  res = (jbM F (clauseW.drop l.length) l s').bind fun l s2 => (ja2 F F s2).bind fun b s3 => jbo (.mk 2 t.text 0 (l.map (Nd.fix b.place) ++ [b]) (s.hd.at' : Nat)) s3) 4
  ⟨[], s6, L8, rfl, rfl, (fun n hn => by cases hn), hB8, hr8, (h6.ext hE7).ext hE8, o8, e⟩ ?_
 rintro next m i H9 ⟨l, s9, L9, hi, hm, hmk, hB9, r9, h9, o9, e⟩ hnext
 have hlt9 := hB9.size
 cases m with
 | zero =>
   have hl4 : l.length = 4 := by omega
   refine jaj (fun g => by omega) fun _ => ?_
   rw [hl4] at e
   have e : res = (ja2 F F s9).bind fun b s3 => jbo (.mk 2 t.text 0 (l.map (Nd.fix b.place) ++ [b]) (s.hd.at' : Nat)) s3 := e
   refine ((wkS hF F hF).block h9).st he hB9 e fun d H10 nb s10 e ha hB10 hU10 h10 ⟨q6, e6, g6, o6⟩ => ?_
   subst e6
   obtain ⟨tk, lk, enb⟩ := jmj ha
   have o10 : OwB (fun x => H.size ≤ x ∧ x < H9.size) H10 2 t.text 0 l (s.hd.at' : Nat) q L9 := (o9.mono fun x h1 h2 => ⟨h1.1, h2⟩).upd hU10 fun x h1 h2 => by omega
   have hs10 := hU10.size
   refine jam o10.sl ?_
   refine LoopT.ghost (fun m (i : Int) H' => ∃ xs ys, i = (xs.length : Nat) ∧ m = ys.length ∧ l = xs ++ ys ∧ Upd (· = b) H H' ∧ H9.size ≤ H'.size ∧ PR H' b tb s10 ∧ Ow H9.size H' nb q6 ∧ OwB (fun x => H.size ≤ x ∧ x < H9.size) H' 2 t.text 0 (xs.map (Nd.fix nb.place) ++ ys) (s.hd.at' : Nat) q L9) l.length ⟨[], l, rfl, rfl, rfl, hB10, hs10, h10, o6, o10⟩ ?_
   rintro next m i H11 ⟨xs, ys, hi, hm, hxy, hB11, hs11, h11, o11, o12⟩ hnext
   have hlen := o12.len
   rw [List.length_append, List.length_map] at hlen
   cases ys with
   | nil =>
     refine jaj (fun g => by simp at hlen; omega) fun _ => ?_
     rw [List.append_nil] at o12 hxy
     subst hxy
     refine jam o12.sl (o12.app (mid := H9.size) (fun x h => h.2) hs11 o11 (by simp; omega) fun H12 hU12 L' o13 => ?_)
     refine hk _ H12 _ _ e (hB11.trans hU12 fun x hx e => by omega) (h11.upd hU12 (by have := h11.b0; omega) (by omega) (by omega)) ⟨q, rfl, by have := o7.row.1; omega, ?_⟩
     exact o13.own fun x hx => by rcases hx with hx | hx <;> omega
   | cons y ys =>
     obtain ⟨o, u, v, l2, a, ey⟩ := hmk y (by rw [hxy]; simp)
     subst ey
     refine jaj (fun _ => ?_) fun g => by simp at hlen; omega
     refine Jn.mk (fun _ H' => ∃ a', Nd.fix nb.place (.mk o u v l2 a) = .mk o u v l2 a' ∧ Upd (· = b) H H' ∧ H9.size ≤ H'.size ∧ PR H' b tb s10 ∧ Ow H9.size H' nb q6 ∧ OwB (fun x => H.size ≤ x ∧ x < H9.size) H' 2 t.text 0 (xs.map (Nd.fix nb.place) ++ .mk o u v l2 a' :: ys) (s.hd.at' : Nat) q L9) (fun kk hkk => ?_) ?_
     ·refine o12.kid (by simp; omega) fun ad c hc1 hc2 hst => jan hc1 ?_
      simp only [NilCk_some, adr_add]
      refine jaf hc2 (jaj (fun ha0 => ?_) fun ha0 => ?_)
      ·subst enb
       obtain ⟨_, LB, rB, _⟩ := o11.row
       refine jaf ((rB.cell 4).trans rfl) (hst (v := (tk.at' : Nat)) fun H12 hU12 o13 => hkk _ _ ⟨(tk.at' : Nat), ?_, hB11.trans hU12 fun x hx e => by omega, by have := hU12.size; omega, h11.upd hU12 (by have := h11.b0; omega) (by omega) (by omega), o11.upd hU12 fun x h1 h2 => by omega, o13⟩)
       show (if a < 0 then _ else _) = _
       rw [if_pos ha0]; rfl
      ·exact hkk _ _ ⟨a, by show (if a < 0 then _ else _) = _; rw [if_neg ha0], hB11, hs11, h11, o11, o12⟩
     ·rintro _ H12 ⟨a', ef, g1, g2, g3, g4, g5⟩
      have hx4 := congrArg List.length hxy
      rw [List.length_append] at hx4
      refine Lt.mk (u := i + 1) (by rw [jac] <;> omega) (hnext _ _ _ (by rw [hm]; simp) ⟨xs ++ [.mk o u v l2 a], ys, by simp; omega, rfl, by rw [hxy]; simp, g1, g2, g3, g4, ?_⟩)
      rw [List.map_append, List.append_assoc]
      simpa [ef] using g5
 | succ m =>
   have hli : l.length < 4 := by omega
   obtain ⟨w, hw, hd⟩ : ∃ w, clauseW[l.length]? = some w ∧ clauseW.drop l.length = w :: clauseW.drop (l.length + 1) := by
    have hh : l.length < clauseW.length := hli
    exact ⟨clauseW[l.length], List.getElem?_eq_getElem hh, List.drop_eq_getElem_cons hh⟩
   refine jaj (fun _ => ?_) fun g => by omega
   rw [hd] at e
   unfold jbM at e
   refine IxA.mk (a := adr b2) rfl (by omega) (by show i < 4; omega) ?_
   have ei : i.toNat = l.length := by omega
   rw [adr_add, ei, Nat.mul_one]
   refine jap (by rw [r9.cell]; exact jkE hw) ?_
   refine jaq (vs := ndV 3 w 0 ⟨none, 0, 0⟩ 0) fun b3 H10 hb3 hE10 _ hr10 => ?_
   have o10 : Ow H9.size H10 (.mk 3 w 0 [] 0) b3 := Own.node (OwnL.nil _ _) hE10 hb3 (Nat.le_refl _) hr10
   have hB10 := upE hB9 hE10
   have h10 := h9.ext hE10
   refine jbm h10 fun H11 hE11 => ?_
   have hB11 := upE hB10 hE11
   have h11 := h10.ext hE11
   have hE911 := hE10.trans hE11 fun _ _ h => h
   have hs911 := hE911.size
   have o11 := o10.mv (ExU (b := b) hE11) (by omega)
   have hq3 := o11.row.1
   refine Jn.mk (fun _ H12 => ∃ c a s12, Upd (· = b) H H12 ∧ Upd (· = b) H9 H12 ∧ PR H12 b tb s12 ∧ Ow H9.size H12 (.mk 3 w 0 c a) b3 ∧ res = (jbM F (clauseW.drop (l.length + 1)) (l ++ [.mk 3 w 0 c a]) s12).bind fun l s2 => (ja2 F F s2).bind fun b s3 => jbo (.mk 2 t.text 0 (l.map (Nd.fix b.place) ++ [b]) (s.hd.at' : Nat)) s3) (fun kk hkk => ?_) ?_
   ·cases hn : jau w s9 with
    | true =>
      rw [hn, if_pos rfl, jbi] at e
      refine (Br_true _ _).2 (jbh h11 (jbn hn) fun H13 hU13 h13 => ?_)
      have hU913 := upU (ExU hE911) hU13
      refine Own.poke (o11.mv hU13 (by omega)) (op2 := 3) (tx2 := w) (num2 := 0) (at2 := (s9.hd.at' : Nat)) (fun _ => rfl) (by decide) fun H14 hU14 o14 => ?_
      have hU914 : Upd (· = b) H9 H14 := hU913.trans hU14 fun x hx e => by omega
      have hB14 := upU hB9 hU914
      have h14 : PR H14 b tb s9.take := h13.upd hU14 (by have := h13.b0; omega) (by omega) (by omega)
      refine (jjq hF (-1) h14).st he hB14 e fun d H15 c s15 e ha hB15 hU15 h15 ⟨o15, _⟩ => ?_
      refine Own.give o14 hU15 (fun x hx _ => by omega) o15 (by have := hU914.size; omega) fun H16 hU16 o16 => ?_
      exact hkk _ _ ⟨c, _, s15, hB15.trans hU16 fun x hx e => by omega, (upU hU914 hU15).trans hU16 fun x hx e => by omega, h15.upd hU16 (by have := h15.b0; omega) (by omega) (by omega), o16, e⟩
    | false =>
      rw [hn, if_neg (by decide)] at e
      refine (Br_false _ _).2 (Own.poke o11 (op2 := 3) (tx2 := w) (num2 := 0) (at2 := -1) (fun _ => rfl) (by decide) fun H14 hU14 o14 => ?_)
      exact hkk _ _ ⟨[], _, s9, hB11.trans hU14 fun x hx e => by omega, (ExU hE911).trans hU14 fun x hx e => by omega, h11.upd hU14 (by have := h11.b0; omega) (by omega) (by omega), o14, e⟩
   ·rintro _ H12 ⟨c, a, s12, hB12, hU12, h12, o12, e⟩
    have o13 : OwB (fun x => (H.size ≤ x ∧ x ≠ b2) ∧ x < H9.size) H12 2 t.text 0 l (s.hd.at' : Nat) q L9 := (o9.mono fun x h1 h2 => ⟨h1, h2⟩).upd hU12 fun x h1 h2 => by omega
    have hs12 := hU12.size
    have hb29 := r9.lt
    refine jam o13.sl (o13.app (mid := H9.size) (fun x h => h.2) hs12 o12 (by omega) fun H13 hU13 L' o14 => ?_)
    refine Lt.mk (u := i + 1) (by rw [jac] <;> omega) (hnext m _ _ (by omega) ⟨l ++ [.mk 3 w 0 c a], s12, L', by simp; omega, by simp; omega, fun n hn => ?_, hB12.trans hU13 fun x hx e => by omega, hU13.row (hU12.row r9 (by omega)) (by omega), h12.upd hU13 (by have := h12.b0; omega) (by omega) (by omega), o14.mono fun x hx _ => by rcases hx with hx | hx <;> omega, by rw [List.length_append]; exact e⟩)
    rcases List.mem_append.1 hn with hn | hn
    ·exact hmk n hn
    ·exact ⟨_, _, _, _, _, List.mem_singleton.1 hn⟩
theorem jku (hF : F ≤ 2 ^ 30) {b tb : Nat} {s : PS} (h : PR H b tb s) : Wk fQaa [pA b] (.one (.c .ptr)) b tb H (jew F s) (NdO H) := by
 intro kp k he hk
 refine cQak _ ?_
 unfold vQak
 have hlb := h.lt
 have htb := h.tlt.1
 generalize hres : jew F s = res at *
 unfold jew at hres
 refine jaq (vs := ndV 1 [] 0 ⟨none, 0, 0⟩ 0) fun q H1 hq hE1 _ hr1 => ?_
 have o1 : Ow H.size H1 (.mk 1 [] 0 [] 0) q := Own.node (OwnL.nil _ _) hE1 hq (Nat.le_refl _) hr1
 have hB1 : Upd (· = b) H H1 := ExU hE1
 simp only [NilCk_some, adr_add]
 refine LoopT.ghost (fun m (σ : Int × Int) H' => ∃ l s', m ≤ F ∧ l.length + m ≤ F ∧ (0 ≤ σ.1 ∧ σ.1 ≤ 16 ∧ 0 ≤ σ.2 ∧ σ.2 ≤ 16) ∧ Upd (· = b) H H' ∧ PR H' b tb s' ∧ Ow H.size H' (.mk 1 [] 0 l 0) q ∧ res = (jbz F m σ.1 σ.2 l s').bind fun l s => jbo (.mk 1 [] 0 l 0) s) F
  ⟨[], s, Nat.le_refl _, by simp, by decide, hB1, h.ext hE1, o1, hres.symm⟩ ?_
 rintro next m ⟨x, y⟩ H2 ⟨l, s', hm, hl, ⟨b1, b2, b3, b4⟩, hB2, h2, o2, e⟩ hnext
 dsimp only at b1 b2 b3 b4 e ⊢
 cases m with
 | zero => exact absurd e (by unfold jbz; exact he.ne)
 | succ m =>
 unfold jbz at e
 obtain ⟨sl, r1, r2⟩ := h2.rd
 refine jam r1 (r2 fun a ha => jaf (jdQ ha).1 (Br.mk (fun e1 => ?_) fun e1 => ?_))
 rotate_left
 ·have e1 : ((s'.hd.kind : Nat) : Int) = 0 := by simpa using e1
  rw [if_pos (by omega)] at e
  exact hk _ H2 _ _ e hB2 h2 ⟨q, rfl, jbF o2, o2⟩
 have e1 : ((s'.hd.kind : Nat) : Int) ≠ 0 := by simpa using e1
 rw [if_neg (by omega)] at e
 simp only [Jn]
 refine jbm h2 fun H5 hE5 => ?_
 have h5 := h2.ext hE5
 have hB5 := upE hB2 hE5
 have o5 := o2.mv (ExU (b := b) hE5) hlb
 cases hn : jau [115, 121, 115, 116, 101, 109] s' with
 | true =>
   rw [hn, if_pos rfl, jbi] at e
   refine (Br_true _ _).2 ((jfJ h5 x 16).st he hB5 e fun d H7 u s7 e ha hB7 hU7 h7 eH => ?_)
   subst eH
   obtain ⟨h16, es⟩ := jdx ha
   have es := es.symm
   subst es
   rw [jbi] at e
   refine jbV hB7 hlb htb o5 (by omega) (jlb hF h7 (jbn hn)) he e fun n s8 H8 e _ hB8 h8 o8 => ?_
   exact Lt.mk (u := x + 1) (by rw [jac] <;> omega) (hnext m _ _ (by omega) ⟨_, s8, by omega, by simp; omega, ⟨by dsimp only; omega, by dsimp only; omega, b3, b4⟩, hB8, h8, o8, e⟩)
 | false =>
   rw [hn, if_neg (by decide)] at e
   refine (Br_false _ _).2 (jbm h5 fun H12 hE12 => ?_)
   have h12 := h5.ext hE12
   have hB12 := upE hB5 hE12
   have o12 := o5.mv (ExU (b := b) hE12) hlb
   cases hn2 : jau [102, 117, 110, 99] s' with
   | true =>
     rw [hn2, if_pos rfl, jbi] at e
     refine (Br_true _ _).2 ((jfJ h12 y 16).st he hB12 e fun d H7 u s7 e ha hB7 hU7 h7 eH => ?_)
     subst eH
     obtain ⟨h16, es⟩ := jdx ha
     have es := es.symm
     subst es
     rw [jbi] at e
     refine jbV hB7 hlb htb o12 (by omega) (jjn hF h7 (jbn hn2)) he e fun n s8 H8 e _ hB8 h8 o8 => ?_
     exact Lt.mk (u := y + 1) (by rw [jac] <;> omega) (hnext m _ _ (by omega) ⟨_, s8, by omega, by simp; omega, ⟨b1, b2, by dsimp only; omega, by dsimp only; omega⟩, hB8, h8, o8, e⟩)
   | false =>
     rw [hn2, if_neg (by decide)] at e
     exact (Br_false _ _).2 (jcE (α := Nd) h12 ((he.mv hB12).to e))
end
section
theorem jhY (W : World) (v : Value) : (Instr.typeAssert (.iface 56 v) 20 56 true).run Tryz.prog W = .ok (.tuple #[v, .bool true]) W := by kernel_rfl
set_option maxHeartbeats 1000000 in
theorem jfL (p q : Addr) (x y : Value) (a : Option Addr) (older : List PanicEntry) (w : World) (hc : w.cell? p = some x) (hz : w.frozen? p = false) (hc2 : w.cell? q = some y) (hz2 : w.frozen? q = false) (hpq : p.block ≠ q.block) :
 CallsD Tryz.prog 23 #[.pointer (some p), .pointer (some q)] (.panicking ({ v := .iface 56 (.pointer a), recovered := false } :: older)) w fun e u' w' =>
  e = .returned (.tuple #[]) ∧ u' = .panicking ({ v := .iface 56 (.pointer a), recovered := true } :: older) ∧ w' = (w.setCell p (.pointer none)).setCell q (.iface 56 (.pointer a)) := by
 refine callsD_of_wpS Tryz.func23 rfl fun c₀ cs hu => ?_
 apply wpS_seq
 apply wpS_region
 simp [wpOpsS, go_sem, recoverD, hu, Tryz.ntmps23, Exit.thenS]
 refine wpS_of_wp ?_
 have hta := jhY
 have hq : (w.setCell p (.pointer none)).cell? q = some y := by rw [World.cell?_setCell_other _ _ _ _ (by intro e; exact hpq (by rw [e]))]; exact hc2
 have hqf : (w.setCell p (.pointer none)).frozen? q = false := by simp [hz2]
 go_wp2
 cases c₀
 simp_all [bodyPostS, results, Tryz.results23]
set_option maxHeartbeats 1000000 in
theorem jkm (p q : Addr) (w : World) :
 CallsD Tryz.prog 23 #[.pointer (some p), .pointer (some q)] .returning w fun e u' w' => e = .returned (.tuple #[]) ∧ u' = .returning ∧ w' = w := by
 refine callsD_of_wpS Tryz.func23 rfl fun c₀ cs hu => ?_
 apply wpS_seq
 apply wpS_region
 simp [wpOpsS, go_sem, recoverD, hu, Tryz.ntmps23, Exit.thenS]
 refine wpS_of_wp ?_
 go_wp2
 cases c₀
 simp_all [bodyPostS, results, Tryz.results23]
end
end Go.Proofs.YtfpmgpblhhcpgaaGreatDoor
namespace Go.Proofs.YtfpmgpblhhcpgaaGreatDoor.Hc.Syn
set_option maxRecDepth 100000
section
open Go Hc Hc.Lex
abbrev PS.N (s : PS) : Nat := s.toks.length
def Fn {α : Type} (A : R α) (m : Nat) : Prop := A ≠ none ∧ ∀ a s', A = some (.ok (a, s')) → s'.N < m
theorem Fn.bind {α β : Type} {A : R α} {m : Nat} (h : Fn A m) {G : α → PS → R β} {m' : Nat} (hG : ∀ a s', s'.N < m → Fn (G a s') m') : Fn (A.bind G) m' := by
 obtain ⟨h1, h2⟩ := h
 cases A with
 | none => exact absurd rfl h1
 | some r =>
   cases r with
   | error e => exact ⟨fun e => (by cases e), fun a s' e => (by cases e)⟩
   | ok p => exact hG p.1 p.2 (h2 p.1 p.2 rfl)
theorem Fn.ret {α : Type} {a : α} {s : PS} {m : Nat} (h : s.N < m) : Fn (jbo a s) m := ⟨fun e => (by cases e), fun b s' e => by cases e; exact h⟩
theorem Fn.fail {α : Type} {e : Int} {s : PS} {m : Nat} : Fn (jeJ (α := α) e s) m := ⟨fun e => (by cases e), fun b s' e => (by cases e)⟩
theorem Fn.mono {α : Type} {A : R α} {m m' : Nat} (h : Fn A m) (hm : m ≤ m') : Fn A m' := ⟨h.1, fun a s' e => Nat.lt_of_lt_of_le (h.2 a s' e) hm⟩
theorem Fn.ite {α : Type} {p : Prop} [Decidable p] {A B : R α} {m : Nat} (h1 : p → Fn A m) (h2 : ¬ p → Fn B m) : Fn (if p then A else B) m := by
 split
 ·exact h1 ‹_›
 ·exact h2 ‹_›
theorem jbj {s : PS} (h : s.hd.kind ≠ 0) : s.take.N + 1 = s.N := by
 obtain ⟨l, d, n⟩ := s
 cases l with
 | nil => exact absurd rfl h
 | cons t l => rfl
theorem jbZ {w : Txt} {s : PS} (h : jau w s = true) : s.hd.kind ≠ 0 := by
 unfold jau at h
 simp only [Bool.and_eq_true, Bool.or_eq_true, beq_iff_eq] at h
 omega
theorem jle {s : PS} (h : jbf s = true) : s.hd.kind ≠ 0 := by
 unfold jbf at h
 simp only [Bool.and_eq_true, beq_iff_eq] at h
 omega
theorem fn_must {w : Txt} {s : PS} : Fn (jbY w s) s.N := by
 unfold jbY
 refine Fn.ite (fun h => Fn.ret ?_) fun _ => Fn.fail
 have := jbj (jbZ h); omega
theorem fn_name {s : PS} : Fn (jcS s) s.N := by
 unfold jcS
 refine Fn.ite (fun h => Fn.ret ?_) fun _ => Fn.fail
 have := jbj (jle h); omega
theorem fn_down {w : Txt} {s : PS} : Fn (jfm w s) s.N := by
 unfold jfm
 refine Fn.ite (fun h => Fn.ite (fun _ => Fn.fail) fun _ => Fn.ret ?_) fun _ => Fn.fail
 have := jbj (jbZ h)
 show s.take.N < s.N
 omega
theorem fn_up {w : Txt} {s : PS} : Fn (upP w s) s.N := by
 unfold upP
 exact fn_must.bind fun a s' h => Fn.ret h
structure FE (f : Nat) : Prop where
 ex : ∀ lv s, lv ≤ 7 → 20 * s.N + 10 ≤ f + lv → Fn (exP f lv s) s.N
 un : ∀ w s, 20 * s.N + 2 ≤ f → Fn (unP f w s) s.N
 bi : ∀ lv n s, lv ≤ 6 → 20 * s.N + 1 ≤ f → Fn (jiV f lv n s) (s.N + 1)
 pr : ∀ s, 20 * s.N + 2 ≤ f → Fn (jey f s) s.N
 ar : ∀ s, 20 * s.N + 1 ≤ f → Fn (je0 f s) s.N
 al : ∀ l s, 20 * s.N + 1 ≤ f → Fn (jen f l s) (s.N + 1)
theorem fE : ∀ f, FE f
 | 0 => ⟨fun lv s h h2 => by omega, fun _ _ h => by omega, fun _ _ _ _ h => by omega, fun _ h => by omega, fun _ h => by omega, fun _ _ h => by omega⟩
 | f + 1 => by
   have ih := fE f
   refine ⟨fun lv s h h2 => ?_, fun w s h => ?_, fun lv n s hl h => ?_, fun s h => ?_, fun s h => ?_, fun l s h => ?_⟩
   ·unfold exP
    refine Fn.ite (fun e => (ih.ex 1 s (by omega) (by omega)).bind fun n s1 h1 => Fn.ite (fun hn => ?_) fun _ => Fn.ret h1) fun e => Fn.ite (fun e7 => Fn.ite (fun _ => ih.un _ _ (by omega)) fun _ => Fn.ite (fun _ => ih.un _ _ (by omega)) fun _ => ih.pr _ (by omega)) fun e7 => ?_
    ·refine fn_down.bind fun t s2 h2 => (ih.ex 0 s2 (by omega) (by omega)).bind fun y s3 h3 => fn_must.bind fun _ s4 h4 => (ih.ex 0 s4 (by omega) (by omega)).bind fun z s5 h5 => Fn.ret ?_
     show s5.N < s.N
     omega
    ·exact (ih.ex (lv + 1) s (by omega) (by omega)).bind fun n s1 h1 => (ih.bi lv n s1 (by omega) (by omega)).mono (by omega)
   ·unfold unP
    refine fn_down.bind fun t s1 h1 => (ih.ex 7 s1 (by omega) (by omega)).bind fun n s2 h2 => Fn.ret ?_
    show s2.N < s.N
    omega
   ·unfold jiV
    refine Fn.ite (fun e => ?_) fun _ => Fn.ret (by omega)
    have := jbj (s := s) (by omega)
    exact (ih.ex (lv + 1) s.take (by omega) (by omega)).bind fun m s1 h1 => (ih.bi lv _ s1 (by omega) (by omega)).mono (by omega)
   ·unfold jey
    refine Fn.ite (fun e => Fn.ret ?_) fun _ => Fn.ite (fun e => ?_) fun _ => Fn.ite (fun e => ?_) fun _ => Fn.ite (fun e => ?_) fun _ => Fn.ite (fun e => Fn.ret ?_) fun _ => ?_
    ·have := jbj (s := s) (by omega); omega
    ·exact fn_down.bind fun _ s1 h1 => (ih.ex 0 s1 (by omega) (by omega)).bind fun n s2 h2 => fn_up.bind fun _ s3 h3 => Fn.ret (by omega)
    ·have := jbj (s := s) (by omega)
     exact (ih.ar _ (by omega)).bind fun l s1 h1 => Fn.ret (by omega)
    ·have := jbj (jbZ e)
     exact fn_must.bind fun _ s1 h1 => fn_name.bind fun t s2 h2 => fn_must.bind fun _ s3 h3 => Fn.ret (by omega)
    ·have : s.hd.kind ≠ 0 := by
      rcases Bool.or_eq_true _ _ ▸ e with e | e <;> exact jbZ e
     have := jbj this; omega
    ·refine fn_name.bind fun t s1 h1 => Fn.ite (fun e => (ih.ar _ (by omega)).bind fun l s2 h2 => Fn.ret (by omega)) fun _ => Fn.ite (fun e => ?_) fun _ => Fn.ret h1
     have := jbj (jbZ e)
     exact fn_name.bind fun u s2 h2 => Fn.ret (by omega)
   ·unfold je0
    refine fn_down.bind fun _ s1 h1 => Fn.bind (m := s.N) (Fn.ite (fun _ => Fn.ret h1) fun _ => (ih.ex 0 s1 (by omega) (by omega)).bind fun n s2 h2 => (ih.al _ s2 (by omega)).mono (by omega)) fun l s3 h3 => fn_up.bind fun _ s4 h4 => Fn.ret (by omega)
   ·unfold jen
    refine Fn.ite (fun e => ?_) fun _ => Fn.ret (by omega)
    have := jbj (jbZ e)
    exact (ih.ex 0 _ (by omega) (by omega)).bind fun n s2 h2 => (ih.al _ s2 (by omega)).mono (by omega)
variable {F : Nat}
theorem jgW {s : PS} (h : 20 * s.N + 10 ≤ F) : Fn (exP F 0 s) s.N := (fE F).ex 0 s (by omega) h
theorem jju : ∀ {f : Nat} {l : List Nd} {s : PS}, 20 * s.N + 10 ≤ F → s.N + 1 ≤ f → Fn (jfk F f l s) (s.N + 1)
 | 0, _, _, _, h => by omega
 | f + 1, l, s, hF, h => by
   unfold jfk
   refine Fn.ite (fun _ => Fn.ret (by omega)) fun _ => fn_name.bind fun t s1 h1 => fn_must.bind fun _ s2 h2 => (jgW (by omega)).bind fun n s3 h3 => Fn.bind (m := s3.N + 1) (Fn.ite (fun _ => Fn.ret (by omega)) fun _ => fn_must.bind fun _ s4 h4 => Fn.ite (fun _ => Fn.ret (by omega)) fun _ => Fn.fail) fun _ s5 h5 => ?_
   exact (jju (by omega) (by omega)).mono (by omega)
theorem jja {s : PS} (hF : 20 * s.N + 10 ≤ F) : Fn (jgq F s) s.N := by
 unfold jgq
 exact fn_name.bind fun t s1 h1 => fn_down.bind fun _ s2 h2 => (jju (by omega) (by omega)).bind fun l s3 h3 => fn_up.bind fun _ s4 h4 => Fn.ret (by omega)
theorem fn_end {n : Nd} {s : PS} : Fn (jhw n s) s.N := by
 unfold jhw
 exact fn_must.bind fun _ s1 h1 => Fn.ret h1
theorem jh7 : ∀ {f : Nat} {l : List Nd} {s : PS}, 20 * s.N + 10 ≤ F → s.N + 1 ≤ f → Fn (jdO F f l s) (s.N + 1)
 | 0, _, _, _, h => by omega
 | f + 1, l, s, hF, h => by
   unfold jdO
   refine Fn.ite (fun e => ?_) fun _ => Fn.ret (by omega)
   have := jbj (jbZ e)
   exact (jja (by omega)).bind fun n s1 h1 => (jh7 (by omega) (by omega)).mono (by omega)
structure FS (F f : Nat) : Prop where
 block : ∀ s, 20 * s.N + 10 ≤ F → 4 * s.N + 1 ≤ f → Fn (ja2 F f s) s.N
 stmts : ∀ l s, 20 * s.N + 10 ≤ F → 4 * s.N + 4 ≤ f → Fn (jcF F f l s) (s.N + 1)
 stmt : ∀ s, 20 * s.N + 10 ≤ F → 4 * s.N + 3 ≤ f → Fn (jeq F f s) s.N
 branch : ∀ s, s.hd.kind ≠ 0 → 20 * s.N + 10 ≤ F → 4 * s.N + 2 ≤ f → Fn (jbg F f s) s.N
 turns : ∀ s, s.hd.kind ≠ 0 → 20 * s.N + 10 ≤ F → 4 * s.N + 2 ≤ f → Fn (jb7 F f s) s.N
theorem fS : ∀ f, FS F f
 | 0 => ⟨fun _ _ h => by omega, fun _ _ _ h => by omega, fun _ _ h => by omega, fun _ _ _ h => by omega, fun _ _ _ h => by omega⟩
 | f + 1 => by
   have ih := fS f
   refine ⟨fun s hF h => ?_, fun l s hF h => ?_, fun s hF h => ?_, fun s h0 hF h => ?_, fun s h0 hF h => ?_⟩
   ·unfold ja2
    refine fn_down.bind fun t s1 h1 => (ih.stmts _ s1 (by omega) (by omega)).bind fun l s2 h2 => fn_up.bind fun _ s3 h3 => Fn.ret (by omega)
   ·unfold jcF
    exact Fn.ite (fun _ => Fn.ret (by omega)) fun _ => (ih.stmt s hF (by omega)).bind fun n s1 h1 => (ih.stmts _ s1 (by omega) (by omega)).mono (by omega)
   ·unfold jeq
    refine Fn.ite (fun _ => Fn.fail) fun e => ?_
    have hk : s.hd.kind = 1 := Classical.byContradiction fun g => e (.inl g)
    unfold jb8
    by_cases h2 : s.stmts = 200
    ·rw [if_pos h2]; exact Fn.fail
    rw [if_neg h2]
    show Fn (match jaD s.hd.text with
    | 161 => jna F s.more
    | 162 => jbg F f s.more
    | 163 => jb7 F f s.more
    | 164 => jh6 F s.more
    | 165 => jfd F s.more
    | 166 => jnv F s.more
    | 167 => jdc s.more
    | 168 => je6 s.more
    | 169 => jcW F s.more
    | _ => jm7 F s.more) s.N
    have hk' : s.more.hd.kind ≠ 0 := by show s.hd.kind ≠ 0; omega
    have ht := jbj hk'
    have hm : s.more.N = s.N := rfl
    generalize s.more = s1 at *
    rw [← hm] at hF h ⊢
    split
    ·unfold jna
     exact fn_name.bind fun t s2 h2 => fn_must.bind fun _ s3 h3 => (jgW (by omega)).bind fun n s4 h4 => fn_end.mono (by omega)
    ·exact ih.branch _ hk' hF (by omega)
    ·exact ih.turns _ hk' hF (by omega)
    ·unfold jh6
     exact (jgW (by omega)).bind fun a s2 h2 => fn_must.bind fun _ s3 h3 => (jgW (by omega)).bind fun n s4 h4 => fn_end.mono (by omega)
    ·unfold jfd
     refine Fn.ite (fun e => Fn.ret ?_) fun _ => (jja (by omega)).bind fun n s2 h2 => (jh7 (by omega) (by omega)).bind fun l s3 h3 => fn_end.mono (by omega)
     have := jbj (jbZ e); omega
    ·unfold jnv
     exact (jja (by omega)).bind fun n s2 h2 => fn_end.mono (by omega)
    ·unfold jdc
     exact fn_name.bind fun n s2 h2 => fn_end.mono (by omega)
    ·unfold je6
     exact fn_end.mono (by omega)
    ·unfold jcW
     exact (jgW (by omega)).bind fun n s2 h2 => fn_end.mono (by omega)
    ·unfold jm7
     refine Fn.ite (fun e => ?_) fun _ => fn_must.bind fun _ s3 h3 => (jgW (by omega)).bind fun n s4 h4 => fn_end.mono (by omega)
     have := jbj (jbZ e)
     exact fn_name.bind fun t s2 h2 => fn_must.bind fun _ s3 h3 => (jgW (by omega)).bind fun n s4 h4 => fn_end.mono (by omega)
   ·have ht := jbj h0
    unfold jbg
    refine (jgW (by omega)).bind fun c s1 h1 => (ih.block s1 (by omega) (by omega)).bind fun b s2 h2 => Fn.ite (fun e => ?_) fun _ => Fn.ret (by omega)
    have ht2 := jbj (jbZ e)
    refine Fn.ite (fun e2 => ?_) fun _ => (ih.block _ (by omega) (by omega)).bind fun x s3 h3 => Fn.ret (by omega)
    unfold jb8
    by_cases h2 : s2.stmts = 200
    ·rw [if_pos h2]; exact Fn.fail
    rw [if_neg h2]
    show Fn ((jbg F f s2.take.more).bind fun e s4 => jbo (node 13 s.hd [c, b, e]) s4) s.N
    have hm : s2.take.more.N = s2.take.N := rfl
    exact (ih.branch s2.take.more (jbZ e2) (by omega) (by omega)).bind fun x s3 h3 => Fn.ret (by omega)
   ·have ht := jbj h0
    unfold jb7
    exact (jgW (by omega)).bind fun c s1 h1 => (ih.block s1 (by omega) (by omega)).bind fun b s2 h2 => Fn.ret (by omega)
theorem jjT {s : PS} (hF : 20 * s.N + 10 ≤ F) : Fn (ja2 F F s) s.N := (fS F).block s hF (by omega)
theorem jg5 {most : Int} : ∀ {f : Nat} {l : List Nd} {s : PS}, s.N + 1 ≤ f → Fn (jdo most f l s) s.N
 | 0, _, _, h => by omega
 | f + 1, l, s, h => by
   unfold jdo
   refine Fn.ite (fun e => ?_) fun _ => Fn.fail
   have ht := jbj (jle e)
   unfold jb8
   by_cases h2 : ((l.length : Nat) : Int) = most
   ·rw [if_pos h2]; exact Fn.fail
   rw [if_neg h2]
   show Fn (if jau [44] s.take then jdo most f (l ++ [ja4 31 s.hd []]) s.take.take else jbo (l ++ [ja4 31 s.hd []]) s.take) s.N
   refine Fn.ite (fun e => ?_) fun _ => Fn.ret (by omega)
   have ht2 := jbj (jbZ e)
   exact (jg5 (by omega)).mono (by omega)
theorem je5 : ∀ {ws : List Txt} {l : List Nd} {s : PS}, s.N + 1 ≤ F → Fn (jbM F ws l s) (s.N + 1)
 | [], l, s, h => by unfold jbM; exact Fn.ret (by omega)
 | w :: ws, l, s, h => by
   unfold jbM
   refine Fn.ite (fun e => ?_) fun _ => je5 h
   have ht := jbj (jbZ e)
   exact (jg5 (by omega)).bind fun c s1 h1 => (je5 (by omega)).mono (by omega)
theorem jll {s : PS} (h0 : s.hd.kind ≠ 0) (hF : 20 * s.N + 10 ≤ F) : Fn (jec F s) s.N := by
 have ht := jbj h0
 unfold jec
 exact fn_name.bind fun t s1 h1 => (je5 (by omega)).bind fun l s2 h2 => (jjT (by omega)).bind fun b s3 h3 => Fn.ret (by omega)
theorem ji1 {s : PS} (h0 : s.hd.kind ≠ 0) (hF : 20 * s.N + 10 ≤ F) : Fn (jbW F s) s.N := by
 have ht := jbj h0
 unfold jbW
 exact fn_name.bind fun t s1 h1 => fn_must.bind fun u s2 h2 => Fn.bind (m := s2.N + 1) (Fn.ite (fun _ => Fn.ret (by omega)) fun _ => (jg5 (by omega)).mono (by omega)) fun c s3 h3 => fn_must.bind fun _ s4 h4 => (jjT (by omega)).bind fun b s5 h5 => Fn.ret (by omega)
theorem jea : ∀ {f : Nat} {a b : Int} {l : List Nd} {s : PS}, 20 * s.N + 10 ≤ F → s.N + 1 ≤ f → Fn (jbz F f a b l s) (s.N + 1)
 | 0, _, _, _, _, _, h => by omega
 | f + 1, a, b, l, s, hF, h => by
   unfold jbz
   unfold jb8
   refine Fn.ite (fun _ => Fn.ret (by omega)) fun _ => Fn.ite (fun e => ?_) fun _ => Fn.ite (fun e => ?_) fun _ => Fn.fail
   ·by_cases h2 : a = 16
    ·rw [if_pos h2]; exact Fn.fail
    rw [if_neg h2]
    show Fn ((jec F s).bind fun n s => jbz F f (a + 1) b (l ++ [n]) s) (s.N + 1)
    exact (jll (jbZ e) hF).bind fun n s1 h1 => (jea (by omega) (by omega)).mono (by omega)
   ·by_cases h2 : b = 16
    ·rw [if_pos h2]; exact Fn.fail
    rw [if_neg h2]
    show Fn ((jbW F s).bind fun n s => jbz F f a (b + 1) (l ++ [n]) s) (s.N + 1)
    exact (ji1 (jbZ e) hF).bind fun n s1 h1 => (jea (by omega) (by omega)).mono (by omega)
theorem jl0 {ts : List Tk} (h : ts.length ≤ 9000) : jhH ts ≠ none := by
 unfold jhH jew
 have : Fn (jbz jmP jmP 0 0 [] ⟨ts, 0, 0⟩) (ts.length + 1) := jea (by show 20 * ts.length + 10 ≤ 200000; omega) (by show ts.length + 1 ≤ 200000; omega)
 exact (this.bind (m' := ts.length + 1) fun l s h => Fn.ret h).1
end
end Go.Proofs.YtfpmgpblhhcpgaaGreatDoor.Hc.Syn
namespace Go.Proofs.YtfpmgpblhhcpgaaGreatDoor
set_option maxRecDepth 100000
section
open Hc Hc.Lex Hc.Syn
theorem tokE_ok {c : UInt8} {t : Bs} {k n p : Nat} (h : jeg (c :: t) = .tok k n) (hp : p + (t.length + 1) ≤ 8000) : TkOk ⟨k, (c :: t).take n, p⟩ ∧ k ≠ 0 := by
 obtain ⟨h1, h2⟩ := jg0 h
 have hlen : ((c :: t).take n).length ≤ 8000 := by rw [List.length_take, List.length_cons]; omega
 have hlen2 : ((c :: t).take n).length = n := by rw [List.length_take]; omega
 unfold jeg at h
 dsimp only at h
 split at h
 ·rename_i hl
  split at h
  ·cases h
  ·rename_i hn
   cases h
   refine ⟨⟨(by show p ≤ 8000; omega), hlen, fun e => (by cases e), fun _ => ⟨(by show ((c :: t).take _).length ≤ 16; omega), ?_⟩, (by show 1 ≤ 3; omega)⟩, by decide⟩
   show jdU ((c :: t).take (ja0 jaP (c :: t))) = true
   obtain ⟨m, hm⟩ : ∃ m, ja0 jaP (c :: t) = m + 1 := ⟨ja0 jaP (c :: t) - 1, by omega⟩
   have hall : ∀ x ∈ (c :: t).take (ja0 jaP (c :: t)), jaP x = true := fun x hx => jfx hx
   rw [hm] at hall ⊢
   show (jaA c && (t.take m).all jaP) = true
   rw [hl, Bool.true_and, List.all_eq_true]
   exact fun x hx => hall x (List.mem_cons_of_mem _ hx)
 ·split at h
  ·rename_i hd
   split at h
   ·cases h
   ·rename_i hn
    split at h
    ·cases h
    ·cases h
     refine ⟨⟨(by show p ≤ 8000; omega), hlen, fun _ => ⟨fun e => (by have := congrArg List.length e; rw [hlen2] at this; simp at this; omega), ?_, ?_⟩, fun e => (by cases e), (by show 2 ≤ 3; omega)⟩, by decide⟩
     ·rw [List.all_eq_true]
      exact fun x hx => jfx hx
     ·show jdl 0 ((c :: t).take (ja0 jav (c :: t))) ≤ _
      exact Nat.le_of_not_lt fun g => hn (.inl g)
  ·split at h
   ·cases h
   ·cases h
    exact ⟨⟨(by show p ≤ 8000; omega), hlen, fun e => (by cases e), fun e => (by cases e), (by show 3 ≤ 3; omega)⟩, by decide⟩
theorem jmX {c : UInt8} {t : Bs} {n : Nat} (h : Lex.evL (c :: t) = .skip n) : 1 ≤ n ∧ n ≤ t.length + 1 := by
 unfold Lex.evL at h
 dsimp only at h
 by_cases hb : jbE c = true
 ·rw [if_pos hb] at h; cases h; omega
 ·rw [if_neg hb] at h
  cases hm : jfa (c :: t) with
  | «to» m =>
    rw [hm] at h
    cases h
    have := jgS hm
    simp only [List.length_cons] at this; omega
  | endless => rw [hm] at h; cases h
  | no =>
    rw [hm] at h
    have h : jeg (c :: t) = .skip n := h
    unfold jeg at h
    dsimp only at h
    repeat' split at h
    all_goals cases h
theorem jkT {c : UInt8} {t : Bs} {k n : Nat} (h : Lex.evL (c :: t) = .tok k n) : jeg (c :: t) = .tok k n := by
 unfold Lex.evL at h
 dsimp only at h
 by_cases hb : jbE c = true
 ·rw [if_pos hb] at h; cases h
 ·rw [if_neg hb] at h
  cases hm : jfa (c :: t) with
  | «to» m => rw [hm] at h; cases h
  | endless => rw [hm] at h; cases h
  | no => rw [hm] at h; exact h
theorem lexF_ok : ∀ (f p : Nat) (r : Bs) (ts : List Tk), jf2 f p r = .ok ts → p + r.length ≤ 8000 → (∀ t ∈ ts, TkOk t) ∧ ∃ i l, ts = i ++ [l] ∧ l.kind = 0 ∧ ∀ t ∈ i, t.kind ≠ 0 := by
 intro f
 induction f with
 | zero =>
   intro p r ts h hp
   cases r with
   | nil =>
     unfold jf2 at h; cases h
     refine ⟨fun t ht => ?_, [], _, rfl, rfl, fun t ht => (by cases ht)⟩
     rw [List.mem_singleton.1 ht]
     exact ⟨(by show p ≤ 8000; omega), Nat.zero_le _, fun e => (by cases e), fun e => (by cases e), Nat.zero_le _⟩
   | cons c t => unfold jf2 at h; cases h
 | succ f ih =>
   intro p r ts h hp
   cases r with
   | nil =>
     unfold jf2 at h; cases h
     refine ⟨fun t ht => ?_, [], _, rfl, rfl, fun t ht => (by cases ht)⟩
     rw [List.mem_singleton.1 ht]
     exact ⟨(by show p ≤ 8000; omega), Nat.zero_le _, fun e => (by cases e), fun e => (by cases e), Nat.zero_le _⟩
   | cons c t =>
     unfold jf2 at h
     rw [List.length_cons] at hp
     split at h
     ·rename_i n hn
      have := jmX hn
      exact ih _ _ _ h (by rw [List.length_drop]; omega)
     ·rename_i k n hn
      have ht := jkT hn
      have hle := jg0 ht
      rw [List.length_cons] at hle
      cases hr : jf2 f (p + n) (t.drop (n - 1)) with
      | error e => rw [hr] at h; cases h
      | ok l =>
        rw [hr] at h
        cases h
        obtain ⟨g1, i, z, g2, g3, g4⟩ := ih _ _ _ hr (by rw [List.length_drop]; omega)
        obtain ⟨k1, k2⟩ := tokE_ok (p := p) ht hp
        refine ⟨fun x hx => ?_, ⟨k, (c :: t).take n, p⟩ :: i, z, by rw [g2]; rfl, g3, fun x hx => ?_⟩
        ·rcases List.mem_append.1 hx with hx | hx
         ·rw [List.mem_singleton.1 hx]; exact k1
         ·exact g1 x hx
        ·rcases List.mem_cons.1 hx with rfl | hx
         ·exact k2
         ·exact g4 x hx
     ·cases h
theorem jlj {s : ByteArray} {ts : List Tk} (h : jfR s = .ok ts) : TsOk ts := by
 have hl := jmE h
 have hs : s.size ≤ 8000 := by
  rcases Nat.lt_or_ge 8000 s.size with g | g
  ·unfold jfR at h; rw [if_pos g] at h; cases h
  ·exact g
 rw [jgE hs] at h
 cases hr : jdr 0 (bs s) with
 | error e => rw [hr] at h; cases h
 | ok l =>
   rw [hr] at h
   cases h
   obtain ⟨g1, g2⟩ := lexF_ok _ _ _ _ hr (by rw [jaw]; omega)
   exact ⟨g1, g2, by omega⟩
end
section
open Hc Hc.Lex Hc.Syn
theorem vecO_of {H : jaa} {T : TypeId} {n : Nat} {s : Sl} {vs : List Value} (h : VecN H T n s vs) : VecO H T n s vs :=
 ⟨h.len, h.own.elim .inl fun ⟨b, sp, h1, h2, h3⟩ => .inr ⟨b, [], sp, h1, by simpa using h2, h3⟩, h.lc⟩
theorem PR_new {H : jaa} {l : Sl} {ts : List Tk} (hts : TsOk ts) (ht : TabH H) (hv : VecN H jbP 3 l (jcb ts)) (h0 : 0 < H.size) :
 ∃ tb, PR (H.push (.cells #[.slice l.a l.len l.cap, .int .i64 0, .int .i64 0] 59)) H.size tb ⟨ts, 0, 0⟩ := by
 have hE : Ext H (H.push (.cells #[.slice l.a l.len l.cap, .int .i64 0, .int .i64 0] 59)) := Upd.push _ _ _
 obtain ⟨tb, htb⟩ : ∃ tb, ∀ a, l.a = some a → a.block = tb := ⟨(l.a.map (·.block)).getD 0, fun a ha => by rw [ha]; rfl⟩
 exact ⟨tb, ⟨l, jaJ _ _, (vecO_of hv).ext hE, htb⟩, ht.ext hE, by show H.size ≠ 0; omega, hts, ⟨Int.le_refl _, by show (0 : Int) ≤ 20; decide⟩, ⟨Int.le_refl _, by show (0 : Int) ≤ 200; decide⟩⟩
theorem jg4 (w : World) : Row ((w.alloc (.cells #[.pointer none] 23)).alloc (.cells #[.nilIface] 25)).heap w.heap.size 23 [.pointer none] ∧ Row ((w.alloc (.cells #[.pointer none] 23)).alloc (.cells #[.nilIface] 25)).heap (w.heap.size + 1) 25 [.nilIface] := by
 refine ⟨(Upd.push _ _ _ : Ext _ _).row (b := w.heap.size) (vs := [.pointer none]) (jaJ w.heap _) fun h => h, ?_⟩
 have := jaJ (w.heap.push (.cells #[.pointer none] 23)) (.cells #[.nilIface] 25)
 rw [Array.size_push] at this
 exact this
theorem res_run {P : Program} {fn : Func} {n : Nat} {F : AFrame} {a : Act} {w : World} {r : RTy} {k : r.den → jaa → Prop} (hag : Ag n F a) (hr : resL P F w.heap fn.results.toList fun vs => opt (r.unL vs) fun d => k d w.heap) :
 ∃ d, (results fn a.tmps).run P w = .ok (r.emb d) w ∧ k d w.heap := by
 obtain ⟨vs, hvs, hk⟩ := resL.sound hag hr
 obtain ⟨d, hd, hk⟩ := jaW hk
 refine ⟨d, ?_, hk⟩
 unfold results
 rw [Array.mapM_eq_mapM_toList]
 simp only [Sem.run_bind, Sem.run_map, Sem.run_pure]
 refine (congrArg (fun x : Result (List Value) => (x.andThen fun a w' => Result.ok a.toArray w').andThen fun a w' => Result.ok (if h : a.size = 1 then a[0] else Value.tuple a) w') hvs).trans ?_
 exact congrArg (fun v => Result.ok v w) (RTy.unL_emb hd)
theorem res8 {a : Act} {w : World} {p q : Addr} {x : Option Addr} {y : Value} (t2 : a.tmps[2]? = some (.pointer (some p))) (t3 : a.tmps[3]? = some (.pointer (some q))) (hd : a.defers = []) (h0 : jar w.heap p = some (.pointer x)) (h1 : jar w.heap q = some y) :
 (results Tryz.f8 a.tmps).run Tryz.prog w = .ok (.tuple #[.pointer x, y]) w := by
 have hag : Ag a.tmps.size [(2, .pointer (some p)), (3, .pointer (some q))] a := ⟨rfl, hd, fun t v hv => by
  rw [AFrame.get_cons] at hv
  split at hv
  ·rename_i e; subst e; rw [t2]; exact hv
  ·rw [AFrame.get_cons] at hv
   split at hv
   ·rename_i e; subst e; rw [t3]; exact hv
   ·simp [AFrame.get] at hv⟩
 have key : ∀ k : (RTy.tup [.c .ptr, .c .raw]).den → jaa → Prop, (Ld .ptr p w.heap fun d => Ld .raw q w.heap fun v => k (d, v) w.heap) → resL Tryz.prog [(2, .pointer (some p)), (3, .pointer (some q))] w.heap Tryz.f8.results.toList fun vs => opt ((RTy.tup [.c .ptr, .c .raw]).unL vs) fun d => k d w.heap := fun k h => Eq.mp (by kernel_rfl) h
 obtain ⟨d, hr, hd⟩ := res_run (P := Tryz.prog) (fn := Tryz.f8) (w := w) (r := .tup [.c .ptr, .c .raw]) (k := fun d _ => d = (x, y)) hag (key (fun d _ => d = (x, y)) (jan h0 (Ld.mk (c := .raw) y h1 rfl)))
 rw [hr, hd]; rfl
theorem reg3 (a2 a3 : Addr) (H1 : jaa) (k : jeU) (h : Ld .raw a3 H1 fun x => St a2 (.pointer none) H1 fun H2 => Stab [(a3, x)] H2 <| StV a3 x H2 fun H3 => k .normal [(13, x), (2, .pointer (some a2)), (3, .pointer (some a3))] H3) : E Tryz.prog [] (Code.region 3
 #[{ dst := some 13, op := Op.load 25 (Operand.tmp 3), type := 25, pos := "parse.go:435", after := #[],
     guard := none },
  { dst := none, op := Op.store 23 (Operand.tmp 2) (Operand.const (Value.pointer none)), type := 0,
    pos := "parse.go:435", after := #[{ on := 0, ground := Ground.textOnly Departure.lateStoresUnsure }],
    guard := none },
  { dst := none, op := Op.store 25 (Operand.tmp 3) (Operand.tmp 13), type := 0, pos := "parse.go:435",
    after :=
     #[{ on := 0, ground := Ground.data }, { on := 1, ground := Ground.chain },
      { on := 0, ground := Ground.phase }, { on := 1, ground := Ground.phase }],
    guard := none }]
 true) .no [(2, .pointer (some a2)), (3, .pointer (some a3))] H1 k := Eq.mp (by kernel_rfl) h
def jdR (s : ByteArray) : R Nd := match jfR s with
 | .error (a, c) => some (.error ((a : Nat), (c : Nat)))
 | .ok ts => jhH ts
def ParOut (lo : Nat) (H : jaa) (s : ByteArray) (d : Option Addr) (v : Value) : Prop := match jdR s with
 | some (.ok (n, _)) => v = .nilIface ∧ ∃ q, d = some (adr q) ∧ lo ≤ q ∧ Ow lo H n q
 | some (.error (p, e)) => d = none ∧ ∃ g, v = .iface jkO (.pointer (some (adr g))) ∧ lo ≤ g ∧ Row H g jkH [.int .i64 p, .int .i64 e]
 | none => False
set_option maxHeartbeats 2000000 in
theorem jiL {H : jaa} (hg : GE H.size H) (ht : TabH H) (s : ByteArray) (w : World) (hw : w.heap = H) :
 Calls Tryz.prog 8 #[.string s] w fun e w' => SameEnv w w' ∧ ∃ d v, e = .returned (.tuple #[.pointer d, v]) ∧ Ext w.heap w'.heap ∧ ParOut w.heap.size w'.heap s d v := by
 have hmf : ∀ (fn : Fn) (first cap : Array Value) (w : World), (Instr.makeFunc fn first cap).run Tryz.prog w = .ok (.func fn first cap) w := fun _ _ _ _ => rfl
 subst hw
 go_enter_defers Tryz.func8, Tryz.ntmps8
 go_wp2_with fail
 have ge1 : GE ((w.alloc (.cells #[.pointer none] 23)).alloc (.cells #[.nilIface] 25)).heap.size ((w.alloc (.cells #[.pointer none] 23)).alloc (.cells #[.nilIface] 25)).heap :=
  hg.up ((Upd.push _ _ _).trans (Upd.push _ _ _) fun _ _ h => h)
 refine (((s_Lex (s := s) ge1 (k := fun r H' => Ext ((w.alloc (.cells #[.pointer none] 23)).alloc (.cells #[.nilIface] 25)).heap H' ∧ LexOut ((w.alloc (.cells #[.pointer none] 23)).alloc (.cells #[.nilIface] 25)).heap.size H' s r.1 r.2) fun r H' hE hO => ⟨hE, hO⟩).2 _ rfl).mono ?_)
 rintro e w1 ⟨he1, ⟨l1, v1⟩, hev, hE1, hO1⟩
 have hev : e = .returned (.tuple #[.slice l1.a l1.len l1.cap, v1]) := hev
 subst hev
 have r0 : Row w1.heap w.heap.size 23 [.pointer none] := by
  refine hE1.row (b := w.heap.size) (vs := [.pointer none]) ?_ fun h => h
  exact (jg4 w).1
 have r1 : Row w1.heap (w.heap.size + 1) 25 [.nilIface] := by
  refine hE1.row (b := w.heap.size + 1) (vs := [.nilIface]) ?_ fun h => h
  exact (jg4 w).2
 have hE01 : Ext w.heap w1.heap := ((Upd.push _ _ _).trans (Upd.push _ _ _) fun _ _ h => h : Ext w.heap _).trans hE1 fun _ _ h => h
 have c0 : w1.cell? ⟨w.heap.size, 0, none⟩ = some (.pointer none) := (r0.cell 0).trans rfl
 have c1 : w1.cell? ⟨w.heap.size + 1, 0, none⟩ = some .nilIface := (r1.cell 0).trans rfl
 have f0 : w1.frozen? ⟨w.heap.size, 0, none⟩ = false := jbr r0
 have f1 : w1.frozen? ⟨w.heap.size + 1, 0, none⟩ = false := jbr r1
 have hv1 : v1 = .nilIface ∨ ∃ g, v1 = .iface 56 (.pointer (some (adr g))) := by
  unfold LexOut at hO1
  split at hO1
  ·exact .inl hO1.1
  ·obtain ⟨_, f, e, _⟩ := hO1
   exact .inr ⟨f, e⟩
 rcases hv1 with rfl | ⟨g, rfl⟩
 ·cases hls : jfR s with
  | error e =>
    obtain ⟨_, f, hf, _⟩ := hO1.err (a := e.1) (c := e.2) hls
    cases hf
  | ok ts =>
  obtain ⟨_, hvec, hlo⟩ := hO1.ok hls
  go_wp2_with fail
  rename_i K1 hK1 K2 hK2
  have hU0 := Upd.set w1.heap ⟨w.heap.size + 1, 0, none⟩ .nilIface
  have hR0 : Row (jdv w1.heap ⟨w.heap.size + 1, 0, none⟩ .nilIface) (w.heap.size + 1) 25 [.nilIface] := jc4 r1 _
  have r02 := hU0.row r0 (by show ¬ w.heap.size = w.heap.size + 1; omega)
  have hsz : ((w.alloc (.cells #[.pointer none] 23)).alloc (.cells #[.nilIface] 25)).heap.size = w.heap.size + 2 := by
   show ((w.heap.push _).push _).size = _
   rw [Array.size_push, Array.size_push]
  have hs1 := hE1.size
  rw [hsz] at hlo hs1
  have hok := jlj hls
  obtain ⟨tb, hPR⟩ := PR_new (H := jdv w1.heap ⟨w.heap.size + 1, 0, none⟩ .nilIface) hok ((ht.ext hE01).nb hU0 (by show ¬ 0 = w.heap.size + 1; omega)) (hvec.upd hU0 fun c hc => by have := hlo c hc; show ¬ c = w.heap.size + 1; omega) (by rw [size_hset]; omega)
  rw [size_hset] at hPR
  have hE2 : Ext (jdv w1.heap ⟨w.heap.size + 1, 0, none⟩ .nilIface) ((jdv w1.heap ⟨w.heap.size + 1, 0, none⟩ .nilIface).push (.cells #[.slice l1.a l1.len l1.cap, .int .i64 0, .int .i64 0] 59)) := Upd.push _ _ _
  have hsz2 : ((jdv w1.heap ⟨w.heap.size + 1, 0, none⟩ .nilIface).push (.cells #[.slice l1.a l1.len l1.cap, .int .i64 0, .int .i64 0] 59)).size = w1.heap.size + 1 := by rw [Array.size_push, size_hset]
  have hU02 : Upd (fun x => x = w.heap.size ∨ x = w.heap.size + 1) w1.heap ((jdv w1.heap ⟨w.heap.size + 1, 0, none⟩ .nilIface).push (.cells #[.slice l1.a l1.len l1.cap, .int .i64 0, .int .i64 0] 59)) := (hU0.mono fun x _ e => .inr e).trans hE2 fun _ _ h => h.elim
  generalize hH2 : (jdv w1.heap ⟨w.heap.size + 1, 0, none⟩ .nilIface).push (.cells #[.slice l1.a l1.len l1.cap, .int .i64 0, .int .i64 0] 59) = H2 at *
  have hrow0 := hE2.row r02 fun h => h
  have hrow1 := hE2.row hR0 fun h => h
  refine ((jku (F := jmP) (by decide) hPR (fun v H' => ∃ g p e, jhH ts = some (.error (p, e)) ∧ v = .iface jkO (.pointer (some (adr g))) ∧ H2.size ≤ g ∧ Upd (· = w1.heap.size) H2 H' ∧ Row H' g jkH [.int .i64 p, .int .i64 e]) (fun d H' => ∃ n s' q, jhH ts = some (.ok (n, s')) ∧ d = some (adr q) ∧ H2.size ≤ q ∧ Upd (· = w1.heap.size) H2 H' ∧ Ow H2.size H' n q)
   ⟨jl0 hok.len, fun g H' p e h1 h2 h3 h4 => ⟨g, p, e, h1, rfl, h4, h2, h3⟩⟩ (fun d H' n s' h1 h2 h3 ⟨q, h4, h5, h6⟩ => ⟨n, s', q, h1, h4, h5, h2, h6⟩)).2 _ (by rw [← hH2]; rfl)).mono ?_
  rintro e w2 ⟨he2, ⟨d, rfl, n, s', q, hp, rfl, hq, hUp, hOw⟩ | ⟨v, rfl, g, p, e, hp, rfl, hg2, hUp, hrow⟩⟩
  ·have q0 := hUp.row hrow0 (by omega)
   have q1 := hUp.row hrow1 (by omega)
   have d0 : w2.cell? ⟨w.heap.size, 0, none⟩ = some (.pointer none) := (q0.cell 0).trans rfl
   have d1 : w2.cell? ⟨w.heap.size + 1, 0, none⟩ = some .nilIface := (q1.cell 0).trans rfl
   have g0 : w2.frozen? ⟨w.heap.size, 0, none⟩ = false := jbr q0
   have g1 : w2.frozen? ⟨w.heap.size + 1, 0, none⟩ = false := jbr q1
   apply hK2
   rw [show (RTy.one (.c .ptr)).emb (some (adr q)) = .pointer (some (adr q)) from rfl]
   go_wp2_with fail
   have hS1 := Upd.set w2.heap ⟨w.heap.size, 0, none⟩ (.pointer (some (adr q)))
   have z0 : Row (jdv w2.heap ⟨w.heap.size, 0, none⟩ (.pointer (some (adr q)))) w.heap.size 23 [.pointer (some (adr q))] := jc4 q0 _
   have z1 := hS1.row q1 (by show ¬ w.heap.size + 1 = w.heap.size; omega)
   have hS2 := Upd.set (jdv w2.heap ⟨w.heap.size, 0, none⟩ (.pointer (some (adr q)))) ⟨w.heap.size + 1, 0, none⟩ .nilIface
   have y1 : Row (jdv (jdv w2.heap ⟨w.heap.size, 0, none⟩ (.pointer (some (adr q)))) ⟨w.heap.size + 1, 0, none⟩ .nilIface) (w.heap.size + 1) 25 [.nilIface] := jc4 z1 _
   have y0 := hS2.row z0 (by show ¬ w.heap.size = w.heap.size + 1; omega)
   have hS12 := (hS1.mono (M := fun x => x = w.heap.size ∨ x = w.heap.size + 1) fun x _ e => .inl e).trans hS2 fun x _ e => .inr e
   show Leaves _ _ _ _ _ _ _
   refine leaves_cons (by simp) rfl ((jkm _ _ _).mono ?_)
   rintro e u w3 ⟨rfl, rfl, rfl⟩
   show ∃ v, (results Tryz.f8 _).run Tryz.prog _ = .ok v _ ∧ _
   refine ⟨_, res8 (a := ⟨_, []⟩) rfl rfl rfl ((y0.cell 0).trans rfl) ((y1.cell 0).trans rfl), ⟨he2.tape.trans he1.tape, he2.os.trans he1.os, he2.output.trans he1.output⟩, _, _, rfl, ?_, ?_⟩
   ·exact (hE01.trans hU02 fun x hx e => by omega).trans ((hUp.mono (M := fun x => w.heap.size ≤ x) fun x _ e => by omega).trans (hS12.mono (M := fun x => w.heap.size ≤ x) fun x _ e => by omega) fun _ _ e => e) fun x hx e => by omega
   ·unfold ParOut jdR
    rw [hls]
    dsimp only
    rw [hp]
    exact ⟨rfl, q, rfl, by omega, (hOw.upd hS12 fun x h1 h2 => by omega).mono (by omega)⟩
  ·have q0 := hUp.row hrow0 (by omega)
   have q1 := hUp.row hrow1 (by omega)
   have hS1 := Upd.set w2.heap ⟨w.heap.size, 0, none⟩ (.pointer none)
   have z0 : Row (jdv w2.heap ⟨w.heap.size, 0, none⟩ (.pointer none)) w.heap.size 23 [.pointer none] := jc4 q0 _
   have z1 := hS1.row q1 (by show ¬ w.heap.size + 1 = w.heap.size; omega)
   have hS2 := Upd.set (jdv w2.heap ⟨w.heap.size, 0, none⟩ (.pointer none)) ⟨w.heap.size + 1, 0, none⟩ (.iface 56 (.pointer (some (adr g))))
   have y1 : Row (jdv (jdv w2.heap ⟨w.heap.size, 0, none⟩ (.pointer none)) ⟨w.heap.size + 1, 0, none⟩ (.iface 56 (.pointer (some (adr g))))) (w.heap.size + 1) 25 [.iface 56 (.pointer (some (adr g)))] := jc4 z1 _
   have y0 := hS2.row z0 (by show ¬ w.heap.size = w.heap.size + 1; omega)
   have hS12 := (hS1.mono (M := fun x => x = w.heap.size ∨ x = w.heap.size + 1) fun x _ e => .inl e).trans hS2 fun x _ e => .inr e
   show Leaves _ _ _ _ _ _ _
   refine leaves_cons (by simp) rfl ((jfL _ _ (.pointer none) .nilIface _ [] _ ((q0.cell 0).trans rfl) (jbr q0) ((q1.cell 0).trans rfl) (jbr q1) (by show w.heap.size ≠ w.heap.size + 1; omega)).mono ?_)
   rintro e' u w3 ⟨rfl, rfl, rfl⟩
   show ∃ v, (results Tryz.f8 _).run Tryz.prog _ = .ok v _ ∧ _
   refine ⟨_, res8 (a := ⟨_, []⟩) rfl rfl rfl ((y0.cell 0).trans rfl) ((y1.cell 0).trans rfl), ⟨he2.tape.trans he1.tape, he2.os.trans he1.os, he2.output.trans he1.output⟩, _, _, rfl, ?_, ?_⟩
   ·exact (hE01.trans hU02 fun x hx e => by omega).trans ((hUp.mono (M := fun x => w.heap.size ≤ x) fun x _ e => by omega).trans (hS12.mono (M := fun x => w.heap.size ≤ x) fun x _ e => by omega) fun _ _ e => e) fun x hx e => by omega
   ·unfold ParOut jdR
    rw [hls]
    dsimp only
    rw [hp]
    exact ⟨rfl, g, rfl, by omega, hS12.row hrow (by omega)⟩
 ·go_wp2_with fail
  rename_i K1 hK1 K2 hK2
  have hR0 : Row (jdv w1.heap ⟨w.heap.size + 1, 0, none⟩ (.iface 56 (.pointer (some (adr g))))) (w.heap.size + 1) 25 [.iface 56 (.pointer (some (adr g)))] := jc4 r1 _
  have hU0 := Upd.set w1.heap ⟨w.heap.size + 1, 0, none⟩ (.iface 56 (.pointer (some (adr g))))
  have r02 := hU0.row r0 (by show ¬ w.heap.size = w.heap.size + 1; omega)
  refine E.sound (n := 20) (PL := []) jad _ .no [(2, .pointer (some ⟨w.heap.size, 0, none⟩)), (3, .pointer (some ⟨w.heap.size + 1, 0, none⟩))] (fun e _ H' => e = .normal ∧ Upd (fun x => x = w.heap.size ∨ x = w.heap.size + 1) w1.heap H' ∧ Row H' w.heap.size 23 [.pointer none] ∧ Row H' (w.heap.size + 1) 25 [.iface 56 (.pointer (some (adr g)))]) _ _ _ (by kernel_rfl) ?_ (reg3 _ _ _ _ ?_) ?_
  ·refine ⟨rfl, rfl, fun t v hv => ?_⟩
   rw [AFrame.get_cons] at hv
   split at hv
   ·rename_i e; subst e; exact hv
   ·rw [AFrame.get_cons] at hv
    split at hv
    ·rename_i e; subst e; exact hv
    ·simp [AFrame.get] at hv
  ·refine Ld.mk (c := .raw) (.iface 56 (.pointer (some (adr g)))) ((hR0.cell 0).trans rfl) (jay r02 (by simp) fun H2 hU2 _ hr2 => ?_)
   have r12 := hU2.row hR0 (by show ¬ w.heap.size + 1 = w.heap.size; omega)
   refine jb9 ((r12.cell 0).trans rfl) ⟨rfl, jay r12 (by simp) fun H3 hU3 _ hr3 => ⟨rfl, ?_, hU3.row hr2 (by show ¬ w.heap.size = w.heap.size + 1; omega), hr3⟩⟩
   exact ((hU0.mono fun x _ e => .inr e).trans (hU2.mono fun x _ e => .inl e) fun x _ e => e).trans hU3 fun x _ e => .inr e
  ·rintro e F' a' w' hag he hkeep ⟨rfl, hU, hr2, hr3⟩
   apply hK2
   have t2 : a'.tmps[2]? = some (.pointer (some ⟨w.heap.size, 0, none⟩)) := (hkeep 2 (by decide)).trans rfl
   have t3 : a'.tmps[3]? = some (.pointer (some ⟨w.heap.size + 1, 0, none⟩)) := (hkeep 3 (by decide)).trans rfl
   have hd := hag.defers
   refine wp_ret ?_
   show Leaves _ _ _ _ a'.defers _ _
   rw [hd]
   have d0 : w'.cell? ⟨w.heap.size, 0, none⟩ = some (.pointer none) := (hr2.cell 0).trans rfl
   have d1 : w'.cell? ⟨w.heap.size + 1, 0, none⟩ = some (.iface 56 (.pointer (some (adr g)))) := (hr3.cell 0).trans rfl
   refine ⟨_, res8 t2 t3 hd d0 d1, ⟨he.tape.trans he1.tape, he.os.trans he1.os, he.output.trans he1.output⟩, none, _, rfl, hE01.trans hU fun x hx e => by omega, ?_⟩
   obtain ⟨p, e, hls⟩ : ∃ p e, jfR s = .error (p, e) := by
    cases hls : jfR s with
    | error e => exact ⟨_, _, rfl⟩
    | ok ts => have := (hO1.ok hls).1; cases this
   obtain ⟨_, f, hf, hfl, hrow⟩ := hO1.err hls
   cases hf
   unfold ParOut jdR
   rw [hls]
   have := (jg4 w).2.lt
   have hsz : ((w.alloc (.cells #[.pointer none] 23)).alloc (.cells #[.nilIface] 25)).heap.size = w.heap.size + 2 := by
    show ((w.heap.push _).push _).size = _
    rw [Array.size_push, Array.size_push]
   rw [hsz] at hfl
   exact ⟨rfl, g, rfl, by omega, hU.row hrow (by omega)⟩
theorem jkJ {H : jaa} (hg : GE H.size H) (ht : TabH H) {s : ByteArray} {k : Option Addr × Value → jaa → Prop} (hk : ∀ d v H', Ext H H' → ParOut H.size H' s d v → k (d, v) H') : CallT Pg 8 [.string s] (.tup [.c .ptr, .c .raw]) H k :=
 ⟨⟨_, Tryz.func8, by kernel_rfl, by kernel_rfl⟩, fun w hw => (jiL hg ht s w hw).mono fun e w' ⟨h1, d, v, h2, h3, h4⟩ => ⟨h1, (d, v), h2, by subst hw; exact hk d v _ h3 h4⟩⟩
end
end Go.Proofs.YtfpmgpblhhcpgaaGreatDoor
namespace Go.Proofs.YtfpmgpblhhcpgaaGreatDoor.Hc.Syn
set_option maxRecDepth 100000
section
open Go Hc Hc.Lex
def Nd.op : Nd → Int
 | .nil => 0
 | .mk op _ _ _ _ => op
def Nd.tx : Nd → Txt
 | .nil => []
 | .mk _ tx _ _ _ => tx
def Nd.nm : Nd → Int
 | .nil => 0
 | .mk _ _ nm _ _ => nm
def Nd.ks : Nd → List Nd
 | .nil => []
 | .mk _ _ _ l _ => l
def jcH (n : Int) : Txt := Lib.decDigits n.toNat
def jaX (lv : Int) (right : Bool) (n : Nd) : Bool := n.op == 35 || (n.op == 33 && (decide (jat n.tx < lv) || (right && jat n.tx == lv)))
def par (b : Bool) (t : Txt) : Txt := if b then 40 :: (t ++ [41]) else t
def jbe : Bool → List Txt → Txt
 | _, [] => []
 | b, t :: ts => (if b then [] else [44, 32]) ++ (t ++ jbe false ts)
mutual
def exT : Nd → Txt
 | .nil => []
 | .mk op tx nm l _ =>
   if op = 30 then jcH nm
   else if op = 32 then tx ++ (46 :: (l.headD .nil).tx)
   else if op = 33 then (match l with
    | x :: y :: _ => par (jaX (jat tx) false x) (exT x) ++ (32 :: (tx ++ 32 :: par (jaX (jat tx) true y) (exT y)))
    | _ => [])
   else if op = 34 then (match l with
    | x :: _ => tx ++ par (jaX 7 false x) (exT x)
    | _ => [])
   else if op = 35 then (match l with
    | x :: y :: z :: _ => par (jaX 0 false x) (exT x) ++ ([32, 63, 32] ++ (exT y ++ ([32, 58, 32] ++ exT z)))
    | _ => [])
   else if op = 36 then tx ++ (40 :: (jbe true (jhu l) ++ [41]))
   else if op = 37 then [104, 97, 115, 40] ++ (tx ++ [41])
   else tx
def jhu : List Nd → List Txt
 | [] => []
 | n :: ns => exT n :: jhu ns
end
def jiK (v : Nd) : Txt := v.tx ++ ([58, 32] ++ exT (v.ks.headD .nil))
def jbt (n : Nd) : Txt := n.tx ++ (123 :: (jbe true (n.ks.map jiK) ++ [125]))
def ja9 (t : Nat) : Txt := List.replicate t 9
def jcP : Nd → Txt
 | .nil => []
 | .mk op tx _ l _ =>
   if op = 10 then [108, 101, 116, 32] ++ (tx ++ ([32, 61, 32] ++ exT (l.headD .nil)))
   else if op = 11 then tx ++ ([32, 61, 32] ++ exT (l.headD .nil))
   else if op = 12 then tx ++ (46 :: ((l.headD .nil).tx ++ ([32, 61, 32] ++ exT (l.tail.headD .nil))))
   else if op = 16 then [101, 109, 105, 116, 32] ++ (exT (l.headD .nil) ++ ([44, 32] ++ exT (l.tail.headD .nil)))
   else if op = 17 then [115, 112, 97, 119, 110] ++ (if l.isEmpty then [] else 32 :: jbe true (l.map jbt))
   else if op = 18 then [97, 100, 100, 32] ++ jbt (l.headD .nil)
   else if op = 19 then [114, 101, 109, 111, 118, 101, 32] ++ tx
   else if op = 20 then [100, 105, 101]
   else if op = 21 then [115, 116, 111, 112]
   else if op = 22 then [114, 101, 116, 117, 114, 110, 32] ++ exT (l.headD .nil)
   else []
mutual
def stT (t : Nat) : Nd → Txt
 | .nil => []
 | .mk op tx nm l a =>
   if op = 13 then (match l with
    | c :: b :: [] => [105, 102, 32] ++ (exT c ++ jcG t b)
    | c :: b :: e :: _ => [105, 102, 32] ++ (exT c ++ (jcG t b ++ ([32, 101, 108, 115, 101] ++ (if e.op = 13 then 32 :: stT t e else jcG t e))))
    | _ => [])
   else if op = 14 then (match l with
    | c :: b :: _ => [119, 104, 105, 108, 101, 32] ++ (exT c ++ jcG t b)
    | _ => [])
   else if op = 15 then (match l with
    | c :: b :: _ => [114, 101, 112, 101, 97, 116, 32] ++ (exT c ++ jcG t b)
    | _ => [])
   else jcP (.mk op tx nm l a) ++ [59]
def jcG (t : Nat) : Nd → Txt
 | .nil => []
 | .mk _ _ _ l _ => [32, 123, 10] ++ (jfs (t + 1) l ++ (ja9 t ++ [125]))
def jfs (t : Nat) : List Nd → Txt
 | [] => []
 | n :: ns => ja9 t ++ (stT t n ++ (10 :: jfs t ns))
end
def jb1 (l : List Nd) : Txt := jbe true (l.map Nd.tx)
def jaS : Nd → Txt
 | .nil => []
 | .mk _ tx _ l _ => if l.isEmpty then [] else 32 :: (tx ++ (32 :: jb1 l))
def jaT : Nd → Txt
 | .nil => []
 | .mk op tx _ l _ =>
   (if op = 4 then [102, 117, 110, 99, 32] ++ (tx ++ (40 :: (jb1 (l.headD .nil).ks ++ [41])))
    else [115, 121, 115, 116, 101, 109, 32] ++ (tx ++ (l.take 4).flatMap jaS)) ++ (jcG 0 (l.getLastD .nil) ++ [10])
def progT (n : Nd) : Txt := n.ks.flatMap jaT
def jcl (op : Int) : Option (Nat × List Int × Bool × Nat) :=
 if op = 1 then some (0, [8], true, 0)
 else if op = 2 then some (1, [0, 0, 0, 0, 1], false, 5)
 else if op = 3 then some (2, [6], true, 0)
 else if op = 4 then some (1, [0, 1], false, 2)
 else if op = 5 then some (0, [2], true, 0)
 else if op = 10 then some (1, [3], false, 1)
 else if op = 11 then some (1, [3], false, 1)
 else if op = 12 then some (1, [6, 3], false, 2)
 else if op = 13 then some (0, [3, 1, 7], false, 2)
 else if op = 14 then some (0, [3, 1], false, 2)
 else if op = 15 then some (0, [3, 1], false, 2)
 else if op = 16 then some (0, [3, 3], false, 2)
 else if op = 17 then some (0, [4], true, 0)
 else if op = 18 then some (0, [4], false, 1)
 else if op = 19 then some (1, [], false, 0)
 else if op = 20 then some (0, [], false, 0)
 else if op = 21 then some (0, [], false, 0)
 else if op = 22 then some (0, [3], false, 1)
 else if op = 23 then some (1, [5], true, 0)
 else if op = 24 then some (1, [3], false, 1)
 else if op = 30 then some (0, [], false, 0)
 else if op = 31 then some (1, [], false, 0)
 else if op = 32 then some (1, [6], false, 1)
 else if op = 33 then some (3, [3, 3], false, 2)
 else if op = 34 then some (4, [3], false, 1)
 else if op = 35 then some (0, [3, 3, 3], false, 3)
 else if op = 36 then some (5, [3], true, 0)
 else if op = 37 then some (1, [], false, 0)
 else if op = 38 then some (6, [], false, 0)
 else none
def jaN (k : Nat) (t : Txt) : Bool :=
 match k with
 | 0 => t == []
 | 1 => jaC t
 | 2 => (clauseW ++ [[102, 117, 110, 99]]).contains t
 | 3 => decide (jat t > 0)
 | 4 => t == [45] || t == [33]
 | 5 => jaC t || builtinL.contains t
 | _ => t == [116, 105, 99, 107] || t == [109, 101]
def jaz (op sort : Int) : Bool :=
 if sort = 0 then op == 3
 else if sort = 1 then op == 5
 else if sort = 2 then decide (10 ≤ op) && decide (op ≤ 22)
 else if sort = 3 then decide (30 ≤ op) && decide (op ≤ 38)
 else if sort = 4 then op == 23
 else if sort = 5 then op == 24
 else if sort = 6 then op == 31
 else if sort = 7 then op == 5 || op == 13
 else op == 2 || op == 4
def je3 (op : Int) (l : List Nd) : Bool :=
 if op = 2 then (l.take 4).map Nd.tx == clauseW
 else if op = 4 then (l.take 1).map Nd.tx == [[102, 117, 110, 99]]
 else true
mutual
def jd0 (bl left : Int) : Nd → Option Int
 | .nil => none
 | .mk op tx nm l _ =>
   if left - 1 < 0 ∨ (op = 30 ∧ nm < 0) then none else
   match jcl op with
   | none => none
   | some (k, sl, more, m) =>
     if (if op = 5 then bl + 1 else bl) > 20 ∨ jaN k tx = false ∨ l.length < m ∨ (sl.length < l.length ∧ more = false) then none else
     match jcT (if op = 5 then bl + 1 else bl) (left - 1) sl l with
     | none => none
     | some lf => if je3 op l then some lf else none
def jcT (bl left : Int) (sl : List Int) : List Nd → Option Int
 | [] => some left
 | n :: ns => match jd0 bl left n with
   | none => none
   | some lf => if jaz n.op (sl.headD 8) then jcT bl lf (if sl.length ≤ 1 then sl else sl.tail) ns else none
end
def jbX (n : Nd) : Txt := if (jd0 0 100000 n).isSome && n.op == 1 then progT n else []
mutual
def jcR : Nd → Nd → Bool
 | .nil, .nil => true
 | .mk op tx nm l _, .mk op' tx' nm' l' _ => (op == op' && tx == tx' && nm == nm') && jci l l'
 | _, _ => false
def jci : List Nd → List Nd → Bool
 | [], [] => true
 | n :: ns, m :: ms => jcR n m && jci ns ms
 | _, _ => false
end
end
section
open Go Hc Hc.Lex
def jnm : List Int → List Nd → Prop
 | _, [] => True
 | sl, n :: ns => jaz n.op (sl.headD 8) = true ∧ jnm (if sl.length ≤ 1 then sl else sl.tail) ns
structure Loc (op : Int) (tx : Txt) (nm : Int) (l : List Nd) : Prop where
 ex : ∃ k sl more m, jcl op = some (k, sl, more, m) ∧ jaN k tx = true ∧ m ≤ l.length ∧ (l.length ≤ sl.length ∨ more = true) ∧ jnm sl l
 cls : je3 op l = true
 num : op = 30 → 0 ≤ nm
mutual
def okN : Nd → Prop
 | .nil => False
 | .mk op tx nm l _ => Loc op tx nm l ∧ okL l
def okL : List Nd → Prop
 | [] => True
 | n :: ns => okN n ∧ okL ns
end
mutual
def cnt : Nd → Nat
 | .nil => 0
 | .mk _ _ _ l _ => 1 + jaK l
def jaK : List Nd → Nat
 | [] => 0
 | n :: ns => cnt n + jaK ns
end
mutual
def dpN : Nd → Nat
 | .nil => 0
 | .mk op _ _ l _ => (if op = 5 then 1 else 0) + dpL l
def dpL : List Nd → Nat
 | [] => 0
 | n :: ns => max (dpN n) (dpL ns)
end
mutual
theorem jfb : ∀ {n : Nd} {bl left lf : Int}, jd0 bl left n = some lf → okN n ∧ left = lf + cnt n ∧ 0 ≤ lf ∧ (bl ≤ 20 → bl + dpN n ≤ 20)
 | .nil, _, _, _, h => by simp [jd0] at h
 | .mk op tx nm l a, bl, left, lf, h => by
   unfold jd0 at h
   generalize hb5 : (if op = 5 then bl + 1 else bl) = b5 at h
   by_cases h0 : left - 1 < 0 ∨ (op = 30 ∧ nm < 0)
   ·rw [if_pos h0] at h; cases h
   rw [if_neg h0] at h
   cases hf : jcl op with
   | none => rw [hf] at h; cases h
   | some z =>
   obtain ⟨k, sl, more, m⟩ := z
   rw [hf] at h
   dsimp only at h
   by_cases h1 : b5 > 20 ∨ jaN k tx = false ∨ l.length < m ∨ (sl.length < l.length ∧ more = false)
   ·rw [if_pos h1] at h; cases h
   rw [if_neg h1] at h
   cases hl : jcT b5 (left - 1) sl l with
   | none => rw [hl] at h; cases h
   | some lf' =>
   rw [hl] at h
   dsimp only at h
   by_cases hc : je3 op l = true
   ·rw [if_pos hc] at h
    cases h
    obtain ⟨g1, g2, g3, g4, g5⟩ := jlE hl (by omega)
    refine ⟨⟨⟨⟨k, sl, more, m, hf, ?_, by omega, ?_, g5⟩, hc, fun e => by omega⟩, g1⟩, by simp only [cnt]; omega, g3, fun hb => ?_⟩
    ·rw [← Bool.not_eq_false]; intro e; exact h1 (.inr (.inl e))
    ·by_cases hm : more = true
     ·exact .inr hm
     ·left; rw [Bool.not_eq_true] at hm
      exact Nat.le_of_not_lt fun e => h1 (.inr (.inr (.inr ⟨e, hm⟩)))
    ·simp only [dpN]
     have := g4 (by omega)
     split at hb5 <;> rename_i e5
     ·rw [if_pos e5]; omega
     ·rw [if_neg e5]; omega
   ·rw [if_neg hc] at h; cases h
theorem jlE : ∀ {ns : List Nd} {bl left lf : Int} {sl : List Int}, jcT bl left sl ns = some lf → 0 ≤ left → okL ns ∧ left = lf + jaK ns ∧ 0 ≤ lf ∧ (bl ≤ 20 → bl + dpL ns ≤ 20) ∧ jnm sl ns
 | [], bl, left, lf, sl, h, h0 => by
   unfold jcT at h; cases h
   exact ⟨trivial, by simp [jaK], h0, fun hb => by simp [dpL]; exact hb, trivial⟩
 | n :: ns, bl, left, lf, sl, h, h0 => by
   unfold jcT at h
   split at h
   ·cases h
   ·rename_i lf' hn
    split at h
    ·rename_i hs
     obtain ⟨g1, g2, g3, g4⟩ := jfb hn
     obtain ⟨k1, k2, k3, k4, k5⟩ := jlE h g3
     refine ⟨⟨g1, k1⟩, by simp only [jaK]; omega, k3, fun hb => ?_, hs, k5⟩
     have := g4 hb; have := k4 hb
     simp only [dpL]; omega
    ·cases h
end
theorem okN.op {n : Nd} (h : okN n) : ∃ op tx nm l a, n = .mk op tx nm l a := by
 cases n with
 | nil => exact h.elim
 | mk op tx nm l a => exact ⟨op, tx, nm, l, a, rfl⟩
theorem jbQ {n : Nd} (h : okN n) : 1 ≤ cnt n := by
 obtain ⟨op, tx, nm, l, a, rfl⟩ := h.op
 simp only [cnt]; omega
abbrev isE (n : Nd) : Prop := 30 ≤ n.op ∧ n.op ≤ 38
theorem jbC {op : Int} (h : jaz op 3 = true) : 30 ≤ op ∧ op ≤ 38 := by
 unfold jaz at h
 simpa using h
theorem sort_S {op : Int} (h : jaz op 2 = true) : 10 ≤ op ∧ op ≤ 22 := by
 unfold jaz at h
 simpa using h
theorem jgJ {op : Int} (h : jaz op 1 = true) : op = 5 := by
 unfold jaz at h
 simpa using h
theorem jnd {op : Int} (h : jaz op 6 = true) : op = 31 := by
 unfold jaz at h
 simpa using h
theorem jnn {op : Int} (h : jaz op 4 = true) : op = 23 := by
 unfold jaz at h
 simpa using h
theorem sort_V {op : Int} (h : jaz op 5 = true) : op = 24 := by
 unfold jaz at h
 simpa using h
theorem jhC {op : Int} (h : jaz op 0 = true) : op = 3 := by
 unfold jaz at h
 simpa using h
theorem sort_I {op : Int} (h : jaz op 7 = true) : op = 5 ∨ op = 13 := by
 unfold jaz at h
 simpa using h
theorem sort_T {op : Int} (h : jaz op 8 = true) : op = 2 ∨ op = 4 := by
 unfold jaz at h
 simpa using h
section
variable {op nm a : Int} {tx : Txt} {l : List Nd}
theorem Loc.of (h : Loc op tx nm l) {k : Nat} {sl : List Int} {more : Bool} {m : Nat} (hf : jcl op = some (k, sl, more, m)) : jaN k tx = true ∧ m ≤ l.length ∧ (l.length ≤ sl.length ∨ more = true) ∧ jnm sl l := by
 obtain ⟨k', sl', more', m', h1, h2, h3, h4, h5⟩ := h.ex
 rw [hf] at h1; cases h1
 exact ⟨h2, h3, h4, h5⟩
theorem jeQ {s : Int} : ∀ {l : List Nd}, jnm [s] l → ∀ n ∈ l, jaz n.op s = true
 | [], _, n, hn => by cases hn
 | m :: ms, h, n, hn => by
   rcases List.mem_cons.1 hn with rfl | hn
   ·exact h.1
   ·exact jeQ (l := ms) (by simpa using h.2) n hn
theorem jaM : ∀ {l : List Nd}, okL l → ∀ n ∈ l, okN n
 | [], _, n, hn => by cases hn
 | m :: ms, h, n, hn => by
   rcases List.mem_cons.1 hn with rfl | hn
   ·exact h.1
   ·exact jaM h.2 n hn
theorem len1 {l : List Nd} (h1 : 1 ≤ l.length) (h2 : l.length ≤ 1) : ∃ x, l = [x] := by
 match l, h1, h2 with
 | [x], _, _ => exact ⟨x, rfl⟩
theorem len2 {l : List Nd} (h1 : 2 ≤ l.length) (h2 : l.length ≤ 2) : ∃ x y, l = [x, y] := by
 match l, h1, h2 with
 | [x, y], _, _ => exact ⟨x, y, rfl⟩
theorem len3 {l : List Nd} (h1 : 3 ≤ l.length) (h2 : l.length ≤ 3) : ∃ x y z, l = [x, y, z] := by
 match l, h1, h2 with
 | [x, y, z], _, _ => exact ⟨x, y, z, rfl⟩
theorem ok30 (h : okN (.mk 30 tx nm l a)) : tx = [] ∧ 0 ≤ nm ∧ l = [] := by
 obtain ⟨h1, h2, h3, h4⟩ := h.1.of (k := 0) (sl := []) (more := false) (m := 0) rfl
 exact ⟨by simpa [jaN] using h1, h.1.num rfl, by simpa using h3⟩
theorem ok31 (h : okN (.mk 31 tx nm l a)) : jaC tx = true ∧ l = [] := by
 obtain ⟨h1, h2, h3, h4⟩ := h.1.of (k := 1) (sl := []) (more := false) (m := 0) rfl
 exact ⟨h1, by simpa using h3⟩
theorem ok32 (h : okN (.mk 32 tx nm l a)) : jaC tx = true ∧ ∃ x, l = [x] ∧ okN x ∧ x.op = 31 := by
 obtain ⟨h1, h2, h3, h4⟩ := h.1.of (k := 1) (sl := [6]) (more := false) (m := 1) rfl
 obtain ⟨x, rfl⟩ := len1 h2 (by simpa using h3)
 exact ⟨h1, x, rfl, h.2.1, jnd h4.1⟩
theorem ok33 (h : okN (.mk 33 tx nm l a)) : 0 < jat tx ∧ ∃ x y, l = [x, y] ∧ okN x ∧ okN y ∧ isE x ∧ isE y := by
 obtain ⟨h1, h2, h3, h4⟩ := h.1.of (k := 3) (sl := [3, 3]) (more := false) (m := 2) rfl
 obtain ⟨x, y, rfl⟩ := len2 h2 (by simpa using h3)
 exact ⟨by simpa [jaN] using h1, x, y, rfl, h.2.1, h.2.2.1, jbC h4.1, jbC h4.2.1⟩
theorem ok34 (h : okN (.mk 34 tx nm l a)) : (tx = [45] ∨ tx = [33]) ∧ ∃ x, l = [x] ∧ okN x ∧ isE x := by
 obtain ⟨h1, h2, h3, h4⟩ := h.1.of (k := 4) (sl := [3]) (more := false) (m := 1) rfl
 obtain ⟨x, rfl⟩ := len1 h2 (by simpa using h3)
 exact ⟨by simpa [jaN] using h1, x, rfl, h.2.1, jbC h4.1⟩
theorem ok35 (h : okN (.mk 35 tx nm l a)) : tx = [] ∧ ∃ x y z, l = [x, y, z] ∧ okN x ∧ okN y ∧ okN z ∧ isE x ∧ isE y ∧ isE z := by
 obtain ⟨h1, h2, h3, h4⟩ := h.1.of (k := 0) (sl := [3, 3, 3]) (more := false) (m := 3) rfl
 obtain ⟨x, y, z, rfl⟩ := len3 h2 (by simpa using h3)
 exact ⟨by simpa [jaN] using h1, x, y, z, rfl, h.2.1, h.2.2.1, h.2.2.2.1, jbC h4.1, jbC h4.2.1, jbC h4.2.2.1⟩
theorem ok36 (h : okN (.mk 36 tx nm l a)) : (jaC tx = true ∨ builtinL.contains tx = true) ∧ ∀ n ∈ l, okN n ∧ isE n := by
 obtain ⟨h1, h2, h3, h4⟩ := h.1.of (k := 5) (sl := [3]) (more := true) (m := 0) rfl
 exact ⟨by simpa only [jaN, Bool.or_eq_true] using h1, fun n hn => ⟨jaM h.2 n hn, jbC (jeQ h4 n hn)⟩⟩
theorem ok24 (h : okN (.mk 24 tx nm l a)) : jaC tx = true ∧ ∃ x, l = [x] ∧ okN x ∧ isE x := by
 obtain ⟨h1, h2, h3, h4⟩ := h.1.of (k := 1) (sl := [3]) (more := false) (m := 1) rfl
 obtain ⟨x, rfl⟩ := len1 h2 (by simpa using h3)
 exact ⟨h1, x, rfl, h.2.1, jbC h4.1⟩
theorem ok23 (h : okN (.mk 23 tx nm l a)) : jaC tx = true ∧ ∀ n ∈ l, okN n ∧ n.op = 24 := by
 obtain ⟨h1, h2, h3, h4⟩ := h.1.of (k := 1) (sl := [5]) (more := true) (m := 0) rfl
 exact ⟨h1, fun n hn => ⟨jaM h.2 n hn, sort_V (jeQ h4 n hn)⟩⟩
theorem ok10 (h : okN (.mk 10 tx nm l a)) : jaC tx = true ∧ ∃ x, l = [x] ∧ okN x ∧ isE x := by
 obtain ⟨h1, h2, h3, h4⟩ := h.1.of (k := 1) (sl := [3]) (more := false) (m := 1) rfl
 obtain ⟨x, rfl⟩ := len1 h2 (by simpa using h3)
 exact ⟨h1, x, rfl, h.2.1, jbC h4.1⟩
theorem ok11 (h : okN (.mk 11 tx nm l a)) : jaC tx = true ∧ ∃ x, l = [x] ∧ okN x ∧ isE x := by
 obtain ⟨h1, h2, h3, h4⟩ := h.1.of (k := 1) (sl := [3]) (more := false) (m := 1) rfl
 obtain ⟨x, rfl⟩ := len1 h2 (by simpa using h3)
 exact ⟨h1, x, rfl, h.2.1, jbC h4.1⟩
theorem ok12 (h : okN (.mk 12 tx nm l a)) : jaC tx = true ∧ ∃ x y, l = [x, y] ∧ okN x ∧ okN y ∧ x.op = 31 ∧ isE y := by
 obtain ⟨h1, h2, h3, h4⟩ := h.1.of (k := 1) (sl := [6, 3]) (more := false) (m := 2) rfl
 obtain ⟨x, y, rfl⟩ := len2 h2 (by simpa using h3)
 exact ⟨h1, x, y, rfl, h.2.1, h.2.2.1, jnd h4.1, jbC h4.2.1⟩
theorem ok13 (h : okN (.mk 13 tx nm l a)) : tx = [] ∧ ∃ c b, okN c ∧ isE c ∧ okN b ∧ b.op = 5 ∧ (l = [c, b] ∨ ∃ e, l = [c, b, e] ∧ okN e ∧ (e.op = 5 ∨ e.op = 13)) := by
 obtain ⟨h1, h2, h3, h4⟩ := h.1.of (k := 0) (sl := [3, 1, 7]) (more := false) (m := 2) rfl
 refine ⟨by simpa [jaN] using h1, ?_⟩
 have h3 : l.length ≤ 3 := by simpa using h3
 by_cases e : l.length ≤ 2
 ·obtain ⟨x, y, rfl⟩ := len2 h2 e
  exact ⟨x, y, h.2.1, jbC h4.1, h.2.2.1, jgJ h4.2.1, .inl rfl⟩
 ·obtain ⟨x, y, z, rfl⟩ := len3 (by omega) h3
  exact ⟨x, y, h.2.1, jbC h4.1, h.2.2.1, jgJ h4.2.1, .inr ⟨z, rfl, h.2.2.2.1, sort_I h4.2.2.1⟩⟩
theorem ok14 (h : okN (.mk 14 tx nm l a)) : tx = [] ∧ ∃ c b, l = [c, b] ∧ okN c ∧ isE c ∧ okN b ∧ b.op = 5 := by
 obtain ⟨h1, h2, h3, h4⟩ := h.1.of (k := 0) (sl := [3, 1]) (more := false) (m := 2) rfl
 obtain ⟨x, y, rfl⟩ := len2 h2 (by simpa using h3)
 exact ⟨by simpa [jaN] using h1, x, y, rfl, h.2.1, jbC h4.1, h.2.2.1, jgJ h4.2.1⟩
theorem ok15 (h : okN (.mk 15 tx nm l a)) : tx = [] ∧ ∃ c b, l = [c, b] ∧ okN c ∧ isE c ∧ okN b ∧ b.op = 5 := by
 obtain ⟨h1, h2, h3, h4⟩ := h.1.of (k := 0) (sl := [3, 1]) (more := false) (m := 2) rfl
 obtain ⟨x, y, rfl⟩ := len2 h2 (by simpa using h3)
 exact ⟨by simpa [jaN] using h1, x, y, rfl, h.2.1, jbC h4.1, h.2.2.1, jgJ h4.2.1⟩
theorem ok16 (h : okN (.mk 16 tx nm l a)) : tx = [] ∧ ∃ x y, l = [x, y] ∧ okN x ∧ okN y ∧ isE x ∧ isE y := by
 obtain ⟨h1, h2, h3, h4⟩ := h.1.of (k := 0) (sl := [3, 3]) (more := false) (m := 2) rfl
 obtain ⟨x, y, rfl⟩ := len2 h2 (by simpa using h3)
 exact ⟨by simpa [jaN] using h1, x, y, rfl, h.2.1, h.2.2.1, jbC h4.1, jbC h4.2.1⟩
theorem ok17 (h : okN (.mk 17 tx nm l a)) : tx = [] ∧ ∀ n ∈ l, okN n ∧ n.op = 23 := by
 obtain ⟨h1, h2, h3, h4⟩ := h.1.of (k := 0) (sl := [4]) (more := true) (m := 0) rfl
 exact ⟨by simpa [jaN] using h1, fun n hn => ⟨jaM h.2 n hn, jnn (jeQ h4 n hn)⟩⟩
theorem ok18 (h : okN (.mk 18 tx nm l a)) : tx = [] ∧ ∃ x, l = [x] ∧ okN x ∧ x.op = 23 := by
 obtain ⟨h1, h2, h3, h4⟩ := h.1.of (k := 0) (sl := [4]) (more := false) (m := 1) rfl
 obtain ⟨x, rfl⟩ := len1 h2 (by simpa using h3)
 exact ⟨by simpa [jaN] using h1, x, rfl, h.2.1, jnn h4.1⟩
theorem ok22 (h : okN (.mk 22 tx nm l a)) : tx = [] ∧ ∃ x, l = [x] ∧ okN x ∧ isE x := by
 obtain ⟨h1, h2, h3, h4⟩ := h.1.of (k := 0) (sl := [3]) (more := false) (m := 1) rfl
 obtain ⟨x, rfl⟩ := len1 h2 (by simpa using h3)
 exact ⟨by simpa [jaN] using h1, x, rfl, h.2.1, jbC h4.1⟩
theorem ok5 (h : okN (.mk 5 tx nm l a)) : tx = [] ∧ ∀ n ∈ l, okN n ∧ 10 ≤ n.op ∧ n.op ≤ 22 := by
 obtain ⟨h1, h2, h3, h4⟩ := h.1.of (k := 0) (sl := [2]) (more := true) (m := 0) rfl
 exact ⟨by simpa [jaN] using h1, fun n hn => ⟨jaM h.2 n hn, sort_S (jeQ h4 n hn)⟩⟩
theorem ok2 (h : okN (.mk 2 tx nm l a)) : jaC tx = true ∧ ∃ c1 c2 c3 c4 b, l = [c1, c2, c3, c4, b] ∧ (∀ c ∈ [c1, c2, c3, c4], okN c ∧ c.op = 3) ∧ [c1, c2, c3, c4].map Nd.tx = clauseW ∧ okN b ∧ b.op = 5 := by
 obtain ⟨h1, h2, h3, h4⟩ := h.1.of (k := 1) (sl := [0, 0, 0, 0, 1]) (more := false) (m := 5) rfl
 have h3 : l.length ≤ 5 := by simpa using h3
 match l, h2, h3, h with
 | [c1, c2, c3, c4, b], _, _, h =>
   refine ⟨h1, c1, c2, c3, c4, b, rfl, fun c hc => ?_, by have := h.1.cls; simpa [je3] using this, h.2.2.2.2.2.1, jgJ h4.2.2.2.2.1⟩
   simp only [List.mem_cons, List.not_mem_nil, or_false] at hc
   rcases hc with rfl | rfl | rfl | rfl
   ·exact ⟨h.2.1, jhC h4.1⟩
   ·exact ⟨h.2.2.1, jhC h4.2.1⟩
   ·exact ⟨h.2.2.2.1, jhC h4.2.2.1⟩
   ·exact ⟨h.2.2.2.2.1, jhC h4.2.2.2.1⟩
theorem ok4 (h : okN (.mk 4 tx nm l a)) : jaC tx = true ∧ ∃ c b, l = [c, b] ∧ okN c ∧ c.op = 3 ∧ c.tx = [102, 117, 110, 99] ∧ okN b ∧ b.op = 5 := by
 obtain ⟨h1, h2, h3, h4⟩ := h.1.of (k := 1) (sl := [0, 1]) (more := false) (m := 2) rfl
 obtain ⟨x, y, rfl⟩ := len2 h2 (by simpa using h3)
 exact ⟨h1, x, y, rfl, h.2.1, jhC h4.1, by have := h.1.cls; simpa [je3] using this, h.2.2.1, jgJ h4.2.1⟩
theorem ok1 (h : okN (.mk 1 tx nm l a)) : tx = [] ∧ ∀ n ∈ l, okN n ∧ (n.op = 2 ∨ n.op = 4) := by
 obtain ⟨h1, h2, h3, h4⟩ := h.1.of (k := 0) (sl := [8]) (more := true) (m := 0) rfl
 exact ⟨by simpa [jaN] using h1, fun n hn => ⟨jaM h.2 n hn, sort_T (jeQ h4 n hn)⟩⟩
end
end
end Go.Proofs.YtfpmgpblhhcpgaaGreatDoor.Hc.Syn
