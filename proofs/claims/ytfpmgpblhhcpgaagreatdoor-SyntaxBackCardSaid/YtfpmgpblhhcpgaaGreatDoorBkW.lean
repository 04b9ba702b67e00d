/-
  A tree's text is taken apart into its tokens: statements, systems, functions; so it is read back.
-/
import Derived.Test.YtfpmgpblhhcpgaaGreatDoorHcBackL
import Derived.Test.YtfpmgpblhhcpgaaGreatDoorHcWf
import Derived.Test.YtfpmgpblhhcpgaaGreatDoorVCut
namespace Go.Proofs.YtfpmgpblhhcpgaaGreatDoor.Hc.Syn
set_option linter.unusedVariables false
set_option linter.unusedSimpArgs false
set_option maxRecDepth 100000
section
open Go Hc Hc.Lex
theorem lx_kw {w v : Bs} (h : wordOk w = true) : Lx (w ++ [32]) v [(1, w)] := by
  have := Lx.app (K' := []) (lx_word (v := [32] ++ v) h nw) (Lx.blank v (by decide))
  simpa using this
theorem lx_eq {v : Bs} : Lx [32, 61, 32] v [(3, [61])] := lx_mid (t := [61]) (by decide) (by decide)
theorem lx_comma {v : Bs} : Lx [44, 32] v [(3, [44])] := by
  have := Lx.cons (u' := [32]) (v := v) (K' := []) (lx_sign (c := 44) (by decide)) (Lx.blank _ (by decide))
  simpa using this
theorem lx_colon {v : Bs} : Lx [58, 32] v [(3, [58])] := by
  have := Lx.cons (u' := [32]) (v := v) (K' := []) (lx_sign (c := 58) (by decide)) (Lx.blank _ (by decide))
  simpa using this
theorem lx_valT {n : Nd} (hk : okN n) (hi : i64N n) (ho : n.op = 24) : ∀ v, NW v → Lx (valT n) v (valK n) := by
  intro v hv
  obtain ⟨op, tx, nm, l, a, rfl⟩ := hk.op
  have ho : op = 24 := ho
  subst ho
  obtain ⟨hn, x, rfl, hx, hxe⟩ := ok24 hk
  exact Lx.app (u := tx) (K := [(1, tx)]) (lx_word (name_word hn) nw) (Lx.app (K := [(3, [58])]) lx_colon (lx_ex hx hi.2.1 hxe v hv))
theorem lx_partT {n : Nd} (hk : okN n) (hi : i64N n) (ho : n.op = 23) : ∀ v, Lx (partT n) v (partK n) := by
  intro v
  obtain ⟨op, tx, nm, l, a, rfl⟩ := hk.op
  have ho : op = 23 := ho
  subst ho
  obtain ⟨hn, hl⟩ := ok23 hk
  exact Lx.app (u := tx) (K := [(1, tx)]) (lx_word (name_word hn) nw) (Lx.cons (K := [(3, [123])]) (lx_sign (by decide)) (Lx.app (lx_com l true _ (fun m hm => lx_valT (hl m hm).1 (i64L_all hi.2 m hm) (hl m hm).2) nw) (lx_sign (by decide))))
theorem lx_simT {n : Nd} (hk : okN n) (hi : i64N n) (h1 : n.op = 10 ∨ n.op = 11 ∨ n.op = 12 ∨ n.op = 16 ∨ n.op = 17 ∨ n.op = 18 ∨ n.op = 19 ∨ n.op = 20 ∨ n.op = 21 ∨ n.op = 22) : ∀ v, NW v → Lx (simT n) v (simK n) := by
  intro v hv
  obtain ⟨op, tx, nm, l, a, rfl⟩ := hk.op
  have h1 : op = 10 ∨ op = 11 ∨ op = 12 ∨ op = 16 ∨ op = 17 ∨ op = 18 ∨ op = 19 ∨ op = 20 ∨ op = 21 ∨ op = 22 := h1
  rcases h1 with rfl | rfl | rfl | rfl | rfl | rfl | rfl | rfl | rfl | rfl
  · obtain ⟨hn, x, rfl, hx, hxe⟩ := ok10 hk
    show Lx ([108, 101, 116] ++ [32] ++ (tx ++ ([32, 61, 32] ++ exT x))) v ([(1, [108, 101, 116])] ++ ([(1, tx)] ++ ([(3, [61])] ++ exK x)))
    exact Lx.app (lx_kw (by decide)) (Lx.app (lx_word (name_word hn) nw) (Lx.app lx_eq (lx_ex hx hi.2.1 hxe v hv)))
  · obtain ⟨hn, x, rfl, hx, hxe⟩ := ok11 hk
    show Lx (tx ++ ([32, 61, 32] ++ exT x)) v ([(1, tx)] ++ ([(3, [61])] ++ exK x))
    exact Lx.app (lx_word (name_word hn) nw) (Lx.app lx_eq (lx_ex hx hi.2.1 hxe v hv))
  · obtain ⟨hn, u, x, rfl, hu, hx, huo, hxe⟩ := ok12 hk
    have hun : isNameB u.tx = true := by
      obtain ⟨op, ux, un, ul, ua, rfl⟩ := hu.op
      have huo : op = 31 := huo
      subst huo; exact (ok31 hu).1
    show Lx (tx ++ (46 :: (u.tx ++ ([32, 61, 32] ++ exT x)))) v ([(1, tx)] ++ ([(3, [46])] ++ ([(1, u.tx)] ++ ([(3, [61])] ++ exK x))))
    exact Lx.app (lx_word (name_word hn) nw) (Lx.cons (lx_sign (by decide)) (Lx.app (lx_word (name_word hun) nw) (Lx.app lx_eq (lx_ex hx hi.2.2.1 hxe v hv))))
  · obtain ⟨_, x, y, rfl, hx, hy, hxe, hye⟩ := ok16 hk
    show Lx ([101, 109, 105, 116] ++ [32] ++ (exT x ++ ([44, 32] ++ exT y))) v ([(1, [101, 109, 105, 116])] ++ (exK x ++ ([(3, [44])] ++ exK y)))
    exact Lx.app (lx_kw (by decide)) (Lx.app (lx_ex hx hi.2.1 hxe _ nw) (Lx.app lx_comma (lx_ex hy hi.2.2.1 hye v hv)))
  · obtain ⟨_, hl⟩ := ok17 hk
    cases l with
    | nil =>
      show Lx ([115, 112, 97, 119, 110] ++ []) v ([(1, [115, 112, 97, 119, 110])] ++ [])
      exact Lx.app (lx_word (by decide) hv) (Lx.nil v)
    | cons n l =>
      show Lx ([115, 112, 97, 119, 110] ++ [32] ++ comF true ((n :: l).map partT)) v ([(1, [115, 112, 97, 119, 110])] ++ comK true ((n :: l).map partK))
      exact Lx.app (lx_kw (by decide)) (lx_com _ true _ (fun m hm v _ => lx_partT (hl m hm).1 (i64L_all hi.2 m hm) (hl m hm).2 v) hv)
  · obtain ⟨_, x, rfl, hx, hxo⟩ := ok18 hk
    show Lx ([97, 100, 100] ++ [32] ++ partT x) v ([(1, [97, 100, 100])] ++ partK x)
    exact Lx.app (lx_kw (by decide)) (lx_partT hx hi.2.1 hxo v)
  · obtain ⟨hn, rfl⟩ := ok19 hk
    show Lx ([114, 101, 109, 111, 118, 101] ++ [32] ++ tx) v ([(1, [114, 101, 109, 111, 118, 101])] ++ [(1, tx)])
    exact Lx.app (lx_kw (by decide)) (lx_word (name_word hn) hv)
  · exact lx_word (u := [100, 105, 101]) (by decide) hv
  · exact lx_word (u := [115, 116, 111, 112]) (by decide) hv
  · obtain ⟨_, x, rfl, hx, hxe⟩ := ok22 hk
    show Lx ([114, 101, 116, 117, 114, 110] ++ [32] ++ exT x) v ([(1, [114, 101, 116, 117, 114, 110])] ++ exK x)
    exact Lx.app (lx_kw (by decide)) (lx_ex hx hi.2.1 hxe v hv)
theorem lx_tabs (v : Bs) : ∀ t, Lx (tabsT t) v []
  | 0 => Lx.nil v
  | t + 1 => Lx.cons (K := []) (Lx.blank _ (by decide)) (lx_tabs v t)
structure BL (n : Nd) : Prop where
  block : n.op = 5 → ∀ t v, Lx (blkT t n) v (blkK n)
  stmt : 10 ≤ n.op → n.op ≤ 22 → ∀ t v, Lx (stT t n) v (stK n)
theorem lx_sts : ∀ (l : List Nd) (t : Nat) (v : Bs), (∀ n ∈ l, BL n ∧ 10 ≤ n.op ∧ n.op ≤ 22) → Lx (stsT t l) v (stsK l)
  | [], t, v, _ => Lx.nil v
  | n :: l, t, v, h => by
    obtain ⟨hb, h1, h2⟩ := h n (List.mem_cons_self ..)
    show Lx (tabsT t ++ (stT t n ++ (10 :: stsT t l))) v ([] ++ (stK n ++ ([] ++ stsK l)))
    exact Lx.app (lx_tabs _ t) (Lx.app (hb.stmt h1 h2 t _) (Lx.cons (Lx.blank _ (by decide)) (lx_sts l t v fun m hm => h m (List.mem_cons_of_mem _ hm))))
theorem blkT_hd {b : Nd} (h : okN b) (t : Nat) (v : Bs) : NW (blkT t b ++ v) := by
  obtain ⟨o, x, q, u, w, rfl⟩ := h.op
  exact nw (c := 32)
theorem bl_main : ∀ (k : Nat) (n : Nd), cnt n ≤ k → okN n → i64N n → BL n
  | 0, n, hc, hk, _ => by have := cnt_pos hk; omega
  | k + 1, n, hc, hk, hi => by
    obtain ⟨op, tx, nm, l, a, rfl⟩ := hk.op
    simp only [cnt] at hc
    have ih : ∀ x ∈ l, BL x := fun x hx => bl_main k x (by have := cnt_mem hx; omega) (okL_all hk.2 x hx) (i64L_all hi.2 x hx)
    refine ⟨fun ho t v => ?_, fun h1 h2 t v => ?_⟩
    · have ho : op = 5 := ho
      subst ho
      obtain ⟨_, hl⟩ := ok5 hk
      have e : blkT t (.mk 5 tx nm l a) = [32, 123, 10] ++ (stsT (t + 1) l ++ (tabsT t ++ [125])) := by
        conv => lhs; unfold blkT
      rw [e]
      have h3 : Lx [32, 123, 10] ((stsT (t + 1) l ++ (tabsT t ++ [125])) ++ v) [(3, [123])] := by
        have := Lx.cons (c := 32) (K := []) (u' := [123, 10]) (v := (stsT (t + 1) l ++ (tabsT t ++ [125])) ++ v) (Lx.blank _ (by decide)) (Lx.cons (K := [(3, [123])]) (K' := []) (lx_sign (by decide)) (Lx.blank _ (by decide)))
        simpa using this
      have h4 : Lx (tabsT t ++ [125]) v ([] ++ [(3, [125])]) := Lx.app (lx_tabs _ t) (lx_sign (by decide))
      exact (Lx.app h3 (Lx.app (lx_sts l (t + 1) _ fun n hn => ⟨ih n hn, (hl n hn).2⟩) h4)).eq rfl (by simp [blkK])
    · have h1 : 10 ≤ op := h1
      have h2 : op ≤ 22 := h2
      have simple : op ≠ 13 → op ≠ 14 → op ≠ 15 → Lx (stT t (.mk op tx nm l a)) v (stK (.mk op tx nm l a)) := fun g1 g2 g3 => by
        rw [sks _ _ _ _ g1 g2 g3]
        have e : stT t (.mk op tx nm l a) = simT (.mk op tx nm l a) ++ [59] := by
          conv => lhs; unfold stT
          rw [if_neg g1, if_neg g2, if_neg g3]
        rw [e]
        exact Lx.app (lx_simT hk hi (by show op = 10 ∨ op = 11 ∨ op = 12 ∨ op = 16 ∨ op = 17 ∨ op = 18 ∨ op = 19 ∨ op = 20 ∨ op = 21 ∨ op = 22; omega) _ nw) (lx_sign (by decide))
      by_cases g1 : op = 13
      · subst g1
        obtain ⟨_, c, b, hc', hce, hb, hbo, hl⟩ := ok13 hk
        rcases hl with rfl | ⟨e, rfl, he, heo⟩
        · rw [sk13]
          have e1 : stT t (.mk 13 tx nm [c, b] a) = [105, 102] ++ [32] ++ (exT c ++ blkT t b) := by
            conv => lhs; unfold stT
            rfl
          rw [e1]
          exact Lx.app (K := [(1, [105, 102])]) (lx_kw (by decide)) (Lx.app (lx_ex hc' hi.2.1 hce _ (blkT_hd hb t v)) ((ih b (by simp)).block hbo t v))
        · rw [sk13e]
          have e1 : stT t (.mk 13 tx nm [c, b, e] a) = [105, 102] ++ [32] ++ (exT c ++ (blkT t b ++ ([32] ++ ([101, 108, 115, 101] ++ (if e.op = 13 then 32 :: stT t e else blkT t e))))) := by
            conv => lhs; unfold stT
            rfl
          rw [e1]
          have hrest : Lx ([32] ++ ([101, 108, 115, 101] ++ (if e.op = 13 then 32 :: stT t e else blkT t e))) v ([] ++ ([(1, [101, 108, 115, 101])] ++ (if e.op = 13 then stK e else blkK e))) := by
            refine Lx.app (Lx.blank _ (by decide)) ?_
            rcases heo with heo | heo
            · rw [if_neg (by omega), if_neg (by omega)]
              exact Lx.app (lx_word (by decide) (blkT_hd he t v)) ((ih e (by simp)).block heo t v)
            · rw [if_pos heo, if_pos heo]
              exact Lx.app (lx_word (by decide) (nw (c := 32))) (Lx.cons (K := []) (Lx.blank _ (by decide)) ((ih e (by simp)).stmt (by omega) (by omega) t v))
          refine Lx.app (K := [(1, [105, 102])]) (lx_kw (by decide)) (Lx.app (lx_ex hc' hi.2.1 hce _ ?_) (Lx.app ((ih b (by simp)).block hbo t _) hrest))
          rw [List.append_assoc]
          exact blkT_hd hb t _
      by_cases g2 : op = 14
      · subst g2
        obtain ⟨_, c, b, rfl, hc', hce, hb, hbo⟩ := ok14 hk
        rw [sk14]
        have e1 : stT t (.mk 14 tx nm [c, b] a) = [119, 104, 105, 108, 101] ++ [32] ++ (exT c ++ blkT t b) := by
          conv => lhs; unfold stT
          rfl
        rw [e1]
        exact Lx.app (K := [(1, [119, 104, 105, 108, 101])]) (lx_kw (by decide)) (Lx.app (lx_ex hc' hi.2.1 hce _ (blkT_hd hb t v)) ((ih b (by simp)).block hbo t v))
      by_cases g3 : op = 15
      · subst g3
        obtain ⟨_, c, b, rfl, hc', hce, hb, hbo⟩ := ok15 hk
        rw [sk15]
        have e1 : stT t (.mk 15 tx nm [c, b] a) = [114, 101, 112, 101, 97, 116] ++ [32] ++ (exT c ++ blkT t b) := by
          conv => lhs; unfold stT
          rfl
        rw [e1]
        exact Lx.app (K := [(1, [114, 101, 112, 101, 97, 116])]) (lx_kw (by decide)) (Lx.app (lx_ex hc' hi.2.1 hce _ (blkT_hd hb t v)) ((ih b (by simp)).block hbo t v))
      exact simple g1 g2 g3
theorem lx_nm {n : Nd} (hk : okN n) (ho : n.op = 31) : ∀ v, NW v → Lx n.tx v (nmK n) := fun v hv => by
  obtain ⟨op, tx, nm, l, a, rfl⟩ := hk.op
  have ho : op = 31 := ho
  subst ho
  exact lx_word (name_word (ok31 hk).1) hv
theorem lx_names {l : List Nd} (h : ∀ n ∈ l, okN n ∧ n.op = 31) {v : Bs} (hv : NW v) : Lx (namesT l) v (namesK l) := lx_com l true v (fun n hn => lx_nm (h n hn).1 (h n hn).2) hv
theorem lx_clause {n : Nd} (hk : okN n) (ho : n.op = 3) (hw : n.tx ∈ clauseW) {v : Bs} (hv : NW v) : Lx (clauseT n) v (clauseK n) := by
  obtain ⟨op, tx, nm, l, a, rfl⟩ := hk.op
  have ho : op = 3 := ho
  subst ho
  have hw : tx ∈ clauseW := hw
  have e : clauseT (.mk 3 tx nm l a) = if l.isEmpty then [] else 32 :: (tx ++ (32 :: namesT l)) := rfl
  rw [e, ck_eq]
  by_cases hl : l.isEmpty = true
  · rw [if_pos hl, if_pos hl]; exact Lx.nil v
  · rw [if_neg hl, if_neg hl]
    have hwk : wordOk tx = true := by
      simp only [clauseW, List.mem_cons, List.not_mem_nil, or_false] at hw
      rcases hw with rfl | rfl | rfl | rfl <;> decide
    exact Lx.cons (K := []) (Lx.blank _ (by decide)) (Lx.app (K := [(1, tx)]) (lx_word hwk nw) (Lx.cons (K := []) (Lx.blank _ (by decide)) (lx_names (ok3 hk).2 hv)))
theorem lx_flat {f : Nd → Txt} {g : Nd → List KT} {P : Bs → Prop} : ∀ (l : List Nd) (v : Bs), (∀ n ∈ l, (∀ v, P v → Lx (f n) v (g n)) ∧ ∀ v, P v → P (f n ++ v)) → P v → Lx (l.flatMap f) v (l.flatMap g) ∧ P (l.flatMap f ++ v)
  | [], v, _, hv => ⟨Lx.nil v, hv⟩
  | n :: l, v, h, hv => by
    obtain ⟨h1, h2⟩ := lx_flat l v (fun m hm => h m (List.mem_cons_of_mem _ hm)) hv
    obtain ⟨h3, h4⟩ := h n (List.mem_cons_self ..)
    refine ⟨Lx.app (h3 _ h2) h1, ?_⟩
    have := h4 _ h2
    rw [← List.append_assoc] at this
    exact this
theorem clause_nw {n : Nd} (ho : n.op = 3) {v : Bs} (hv : NW v) : NW (clauseT n ++ v) := by
  cases n with
  | nil => exact absurd ho (by show ¬ ((0 : Int) = 3); decide)
  | mk op tx nm l a =>
    have e : clauseT (.mk op tx nm l a) = if l.isEmpty then [] else 32 :: (tx ++ (32 :: namesT l)) := rfl
    rw [e]
    split
    · exact hv
    · exact nw (c := 32)
theorem lx_thing {n : Nd} (hk : okN n) (hi : i64N n) (ho : n.op = 2 ∨ n.op = 4) (v : Bs) : Lx (thingT n) v (thingK n) := by
  obtain ⟨op, tx, nm, l, a, rfl⟩ := hk.op
  have ho : op = 2 ∨ op = 4 := ho
  rcases ho with rfl | rfl
  · obtain ⟨hn, c1, c2, c3, c4, b, rfl, hcs, hcw, hb, hbo⟩ := ok2 hk
    have e1 : thingT (.mk 2 tx nm [c1, c2, c3, c4, b] a) = ([115, 121, 115, 116, 101, 109] ++ [32] ++ (tx ++ [c1, c2, c3, c4].flatMap clauseT)) ++ (blkT 0 b ++ [10]) := rfl
    have e2 : thingK (.mk 2 tx nm [c1, c2, c3, c4, b] a) = ([(1, [115, 121, 115, 116, 101, 109])] ++ ([(1, tx)] ++ [c1, c2, c3, c4].flatMap clauseK)) ++ (blkK b ++ []) := by
      rw [tk_eq, if_neg (by decide), List.append_nil]; rfl
    rw [e1, e2]
    have hcw' : ∀ c ∈ [c1, c2, c3, c4], c.tx ∈ clauseW := fun c hc => by rw [← hcw]; exact List.mem_map_of_mem hc
    have hbv : NW ((blkT 0 b ++ [10]) ++ v) := by rw [List.append_assoc]; exact blkT_hd hb 0 _
    obtain ⟨h1, h2⟩ := lx_flat (f := clauseT) (g := clauseK) (P := NW) [c1, c2, c3, c4] ((blkT 0 b ++ [10]) ++ v) (fun c hc => ⟨fun v hv => lx_clause (hcs c hc).1 (hcs c hc).2 (hcw' c hc) hv, fun v hv => clause_nw (hcs c hc).2 hv⟩) hbv
    exact Lx.app (Lx.app (lx_kw (by decide)) (Lx.app (lx_word (name_word hn) h2) h1)) (Lx.app ((bl_main (cnt b) b (Nat.le_refl _) hb hi.2.2.2.2.2.1).block hbo 0 _) (Lx.blank _ (by decide)))
  · obtain ⟨hn, c, b, rfl, hc, hco, hct, hb, hbo⟩ := ok4 hk
    have e1 : thingT (.mk 4 tx nm [c, b] a) = ([102, 117, 110, 99] ++ [32] ++ (tx ++ (40 :: (namesT c.ks ++ [41])))) ++ (blkT 0 b ++ [10]) := rfl
    have e2 : thingK (.mk 4 tx nm [c, b] a) = ([(1, [102, 117, 110, 99])] ++ ([(1, tx)] ++ ([(3, [40])] ++ (namesK c.ks ++ [(3, [41])])))) ++ (blkK b ++ []) := by
      rw [tk_eq, if_pos rfl, List.append_nil]; rfl
    rw [e1, e2]
    have hcn : ∀ x ∈ c.ks, okN x ∧ x.op = 31 := by
      obtain ⟨cop, ctx, cnm, cl, ca, rfl⟩ := hc.op
      have hco : cop = 3 := hco
      subst hco
      exact (ok3 hc).2
    exact Lx.app (Lx.app (lx_kw (by decide)) (Lx.app (lx_word (name_word hn) nw) (Lx.cons (lx_sign (by decide)) (Lx.app (lx_names hcn nw) (lx_sign (by decide)))))) (Lx.app ((bl_main (cnt b) b (Nat.le_refl _) hb hi.2.2.1).block hbo 0 _) (Lx.blank _ (by decide)))
theorem lx_prog {n : Nd} (hk : okN n) (hi : i64N n) (ho : n.op = 1) : Lx (progT n) [] (progK n) := by
  obtain ⟨op, tx, nm, l, a, rfl⟩ := hk.op
  have ho : op = 1 := ho
  subst ho
  obtain ⟨_, hl⟩ := ok1 hk
  exact (lx_flat (f := thingT) (g := thingK) (P := fun _ => True) l [] (fun n hn => ⟨fun v _ => lx_thing (hl n hn).1 (i64L_all hi.2 n hn) (hl n hn).2 v, fun v _ => trivial⟩) trivial).1
theorem print_wf {n : Nd} (h : WfT n) : printT n = progT n := by
  unfold printT
  have hc := h.cnt
  have hd := h.dp
  rw [fit_of h.ok (by omega) (by omega), h.op]
  rfl
theorem lex_back {n : Nd} (h : WfT n) : ∃ ts, lexL 0 (printT n) = .ok ts ∧ ts.map kt = progK n ++ [(0, [])] := by
  rw [print_wf h]
  obtain ⟨ts, e, hl⟩ := lx_prog h.ok (nm_i64 h.i) h.op 0
  rw [List.append_nil] at hl
  refine ⟨ts ++ [⟨0, [], 0 + (progT n).length⟩], ?_, by rw [List.map_append, e]; rfl⟩
  rw [hl, lexL_nil]; rfl
theorem print_ne {n : Nd} (h : WfT n) (hl : n.ks ≠ []) : printT n ≠ [] := by
  rw [print_wf h]
  obtain ⟨op, tx, nm, l, a, rfl⟩ := h.ok.op
  have ho : op = 1 := h.op
  subst ho
  obtain ⟨_, ho⟩ := ok1 h.ok
  have hl : l ≠ [] := hl
  unfold progT
  cases l with
  | nil => exact absurd rfl hl
  | cons m l =>
    show (List.flatMap thingT (m :: l)) ≠ []
    rw [List.flatMap_cons]
    obtain ⟨op, tx, nm, k, b, rfl⟩ := h.ok.2.1.op
    have e1 : thingT (.mk op tx nm k b) = (if op = 4 then [102, 117, 110, 99, 32] ++ (tx ++ (40 :: (namesT (k.headD .nil).ks ++ [41])))
     else [115, 121, 115, 116, 101, 109, 32] ++ (tx ++ (k.take 4).flatMap clauseT)) ++ (blkT 0 (k.getLastD .nil) ++ [10]) := rfl
    rw [e1]
    simp
end
section
open Go Hc Hc.Lex
theorem okL_len : ∀ {l : List Nd}, okL l → l.length ≤ cntL l
  | [], _ => Nat.le_refl _
  | n :: l, h => by
    have := okL_len h.2; have := cnt_pos h.1
    simp only [List.length_cons, cntL]; omega
theorem tokE_err {c : UInt8} {t : Bs} {n : Nat} (h : tokE (c :: t) = .err n) : n ≤ t.length + 1 := by
  have hrl := runL_le digitC (c :: t)
  rw [List.length_cons] at hrl
  unfold tokE at h
  dsimp only at h
  split at h
  · split at h
    · simp only [Ev.err.injEq] at h; omega
    · cases h
  · split at h
    · split at h
      · simp only [Ev.err.injEq] at h; omega
      · split at h
        · simp only [Ev.err.injEq] at h; omega
        · cases h
    · split at h
      · simp only [Ev.err.injEq] at h; omega
      · cases h
theorem lex_err : ∀ (m : Nat) (r : Bs) (p q : Nat), r.length ≤ m → lexL p r = .error q → q ≤ p + r.length := by
  intro m
  induction m with
  | zero =>
    intro r p q hm h
    cases r with
    | nil => rw [lexL_nil] at h; cases h
    | cons c r => simp at hm
  | succ m ih =>
    intro r p q hm h
    cases r with
    | nil => rw [lexL_nil] at h; cases h
    | cons c r =>
      rw [lexL_cons] at h
      rw [List.length_cons] at hm ⊢
      split at h
      · rename_i n hn
        obtain ⟨h1, h2⟩ := Lex.evL_skip_le hn
        rw [List.length_cons] at h2
        have := ih _ _ _ (by rw [List.length_drop]; omega) h
        rw [List.length_drop] at this; omega
      · rename_i k n hn
        obtain ⟨_, _, h3⟩ := Lex.evL_tok hn
        obtain ⟨h1, h2⟩ := tokE_le h3
        rw [List.length_cons] at h2
        cases hr : lexL (p + n) (r.drop (n - 1)) with
        | ok l => rw [hr] at h; cases h
        | error e =>
          rw [hr] at h
          cases h
          have := ih _ _ _ (by rw [List.length_drop]; omega) hr
          rw [List.length_drop] at this; omega
      · rename_i n hn
        cases h
        have : n ≤ r.length + 1 := by
          unfold Lex.evL at hn
          dsimp only at hn
          split at hn
          · cases hn
          · split at hn
            · cases hn
            · simp only [Ev.err.injEq] at hn; omega
            · exact tokE_err hn
        omega
end
end Go.Proofs.YtfpmgpblhhcpgaaGreatDoor.Hc.Syn
namespace Go.Proofs.YtfpmgpblhhcpgaaGreatDoor
set_option linter.unusedVariables false
set_option linter.unusedSimpArgs false
set_option maxRecDepth 100000
section
open Hc Hc.Lex Hc.Syn
variable {H : Heap}
mutual
theorem txt_of : ∀ {n : Nd}, okN n → cnt n ≤ 2 ^ 40 → txtN n
  | .nil, _, _ => trivial
  | .mk op tx nm l a, h, hc => by
    obtain ⟨k, sl, more, m, hf, ht, _⟩ := h.1.ex
    simp only [cnt] at hc
    have := text_len ht
    have := okL_len h.2
    exact ⟨by omega, by omega, txtL_of h.2 (by omega)⟩
theorem txtL_of : ∀ {l : List Nd}, okL l → cntL l ≤ 2 ^ 40 → txtL l
  | [], _, _ => trivial
  | n :: l, h, hc => by
    simp only [cntL] at hc
    exact ⟨txt_of h.1 (by omega), txtL_of h.2 (by omega)⟩
end
theorem lexS_num {s : ByteArray} {ts : List Tk} (h : lexS s = .ok ts) : ∀ t ∈ ts, NumOk t := fun t ht hk => ((lexS_ok h).ok t ht).num hk |>.2.2
theorem parse_ok_wf {s : ByteArray} {n : Nd} {s' : PS} (h : parseS s = some (.ok (n, s'))) : WfT n := by
  unfold parseS at h
  cases hl : lexS s with
  | error x => rw [hl] at h; cases h
  | ok ts =>
    rw [hl] at h
    exact parse_wf h (lexS_num hl) (lexS_ok hl).len
theorem wf_txt {n : Nd} (h : WfT n) : txtN n := txt_of h.ok (by have := h.cnt; omega)
theorem fault_in {s : ByteArray} {p e : Int} (h : parseS s = some (.error (p, e))) : p ≤ s.size := by
  unfold parseS at h
  cases hl : lexS s with
  | error x =>
    obtain ⟨a, c⟩ := x
    rw [hl] at h
    dsimp only at h
    simp only [Option.some.injEq, Except.error.injEq, Prod.mk.injEq] at h
    obtain ⟨rfl, rfl⟩ := h
    by_cases hs : s.size ≤ 8000
    · rw [lexS_small hs] at hl
      cases hx : lexL 0 (bs s) with
      | ok l => rw [hx] at hl; cases hl
      | error e =>
        rw [hx] at hl
        cases hl
        have := lex_err _ _ _ _ (Nat.le_refl _) hx
        rw [bs_size] at this; omega
    · unfold lexS at hl
      rw [if_pos (by omega)] at hl
      cases hl; omega
  | ok ts =>
    rw [hl] at h
    dsimp only at h
    have hok := lexS_ok hl
    obtain ⟨i, z, hi, hz, _⟩ := hok.ends
    obtain ⟨n, rfl⟩ := lexS_end hl hi
    have hs : s.size ≤ 8000 := by
      rcases Nat.lt_or_ge 8000 s.size with g | g
      · unfold lexS at hl; rw [if_pos g] at hl; cases hl
      · exact g
    have hlL : lexL 0 (bs s) = .ok ts := by
      rw [lexS_small hs] at hl
      cases hx : lexL 0 (bs s) with
      | ok l => rw [hx] at hl; cases hl; rfl
      | error e => rw [hx] at hl; cases hl
    have hlen := hok.len
    rw [hi] at h hlen
    obtain ⟨_, hp⟩ := parse_place hlen h
    have hat := lex_at _ _ _ _ (Nat.le_refl _) hlL
    rw [bs_size] at hat
    rcases hp with rfl | ⟨x, hx, rfl⟩
    · have := (hat ⟨0, [], n⟩ (by rw [hi]; simp)).2
      simp only at this; omega
    · have := (hat x (by rw [hi]; simp [hx])).2; omega
theorem back_law {n : Nd} (h : WfT n) {s : ByteArray} (hs : bs s = printT n) (h8 : s.size ≤ 8000) : ∃ n' s', parseS s = some (.ok (n', s')) ∧ era n' = era n := by
  obtain ⟨ts, hl, hk⟩ := lex_back h
  have hls : lexS s = .ok ts := by rw [lexS_small h8, hs, hl]
  obtain ⟨n', s', hp, he⟩ := parse_back h hk (lexS_ok hls).len
  exact ⟨n', s', by unfold parseS; rw [hls]; exact hp, he⟩
theorem w_Back (hg : GL H) {s : ByteArray} : CallT Pg fQc6 [.string s] (.one (.c .bool)) H fun b H' => b = true ∧ Ext H H' := by
  refine cQcl _ ?_
  unfold vQcl
  refine s_shown hg fun H1 hE1 => (Br_false _ _).2 ?_
  have g1 := hg.ext hE1
  refine s_Parse g1.ge g1.tab fun d v H2 hE2 hO => ?_
  have g2 := g1.ext hE2
  have hE12 := hE1.trans hE2 fun _ _ h => h
  cases hp : parseS s with
  | none => unfold ParOut at hO; rw [hp] at hO; exact hO.elim
  | some r =>
  cases r with
  | error x =>
    obtain ⟨p, e⟩ := x
    obtain ⟨rfl, g, rfl, _, hr⟩ := hO.err hp
    obtain ⟨hne, h0, _⟩ := fault_facts hp
    have hin := fault_in hp
    refine .inr ⟨⟨_, _, rfl⟩, (Br_true _ _).2 ?_⟩
    refine s_fault_at hr ?_
    have hb : (e != 0) = true := by simpa using hne
    rw [hb]
    simp only [Jn, Option.isNone_none, Br_true]
    rw [decide_eq_true h0, decide_eq_true hin]
    exact (Br_true _ _).2 ((Br_true _ _).2 ⟨by simp, hE12⟩)
  | ok x =>
    obtain ⟨n, s'⟩ := x
    obtain ⟨rfl, q, rfl, _, hq⟩ := hO.ok hp
    have hw := parse_ok_wf hp
    refine .inl ⟨rfl, (Br_false _ _).2 ?_⟩
    obtain ⟨fp, ht, hnd, _⟩ := hq.ex
    refine s_Print (q := some q) g2 ht (wf_txt hw) (nm_i64 hw.i) fun H3 hE3 => ?_
    have g3 := g2.ext hE3
    have ht3 := ht.upd hE3 fun _ _ h => h
    have hE13 := hE12.trans hE3 fun _ _ h => h
    refine Jn.mk (fun j H' => H3 = H' ∧ j = false) (fun kk hkk => ?_) ?_
    · rw [beq_bs]
      by_cases hnil : printT n = []
      · have e1 : decide (bs (⟨⟨printT n⟩⟩ : ByteArray) = bs (⟨#[]⟩ : ByteArray)) = true := decide_eq_true (by rw [hnil] <;> rfl)
        rw [e1]
        refine (Br_true _ _).2 ?_
        obtain ⟨op, tx, nm, l, a, rfl⟩ := hw.ok.op
        obtain ⟨b, L, qs, fl, hb, hrow, hv, hl, hfp⟩ := ht3
        cases hb
        simp only [NilCk_some, adr_add]
        have hl0 : l = [] := Classical.byContradiction fun g => print_ne hw g hnil
        have hlen : L.len = 0 := by rw [hv.len, List.length_map, hl.len, hl0]; rfl
        exact Ld_sl ((hrow.cell 3).trans rfl) (hkk _ _ ⟨rfl, by rw [hlen]; rfl⟩)
      · have e1 : decide (bs (⟨⟨printT n⟩⟩ : ByteArray) = bs (⟨#[]⟩ : ByteArray)) = false := decide_eq_false hnil
        rw [e1]
        exact (Br_false _ _).2 (hkk _ _ ⟨rfl, rfl⟩)
    rintro _ _ ⟨rfl, rfl⟩
    refine (Br_false _ _).2 (Br_dec (fun _ => ⟨rfl, hE13⟩) fun h8 => ?_)
    have hbs : bs (⟨⟨printT n⟩⟩ : ByteArray) = printT n := rfl
    obtain ⟨m, s2, hp2, he⟩ := back_law hw hbs (by omega)
    have hw2 := parse_ok_wf hp2
    refine s_Parse g3.ge g3.tab fun d2 v2 H4 hE4 hO2 => ?_
    obtain ⟨rfl, q2, rfl, _, hq2⟩ := hO2.ok hp2
    have g4 := g3.ext hE4
    have hE14 := hE13.trans hE4 fun _ _ h => h
    obtain ⟨fp2, ht2, hnd2, _⟩ := hq2.ex
    have ht4 := ht3.upd hE4 fun _ _ h => h
    refine s_Same (qa := some q) (qb := some q2) ht4 hnd ht2 (wf_txt hw) fun H5 hE5 => ?_
    have g5 := g4.ext hE5
    have hE15 := hE14.trans hE5 fun _ _ h => h
    rw [era_same he.symm]
    simp only [Jn]
    refine .inl ⟨rfl, (Br_true _ _).2 ((Br_true _ _).2 ?_)⟩
    refine s_Print (q := some q2) g5 (ht2.upd hE5 fun _ _ h => h) (wf_txt hw2) (nm_i64 hw2.i) fun H6 hE6 => ?_
    refine ⟨?_, hE15.trans hE6 fun _ _ h => h⟩
    rw [print_era he]; exact beq_self_eq_true _
end
section
open Hc
theorem w_SyntaxBack {W : World} (hg : GL W.heap) (v0 : Value) (h0 : RdV Tryz.prog W.heap 9 v0) :
    CallT Pg fQc6 [v0] (.one (.c .bool)) W.heap fun b H' => b = true ∧ Ext W.heap H' := by
  obtain ⟨s, rfl, _⟩ := rd_string Tryz.underlying9 h0
  exact w_Back hg
end
end Go.Proofs.YtfpmgpblhhcpgaaGreatDoor
