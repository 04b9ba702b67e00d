/-
  Print: expressions written.
-/
import Derived.Test.YtfpmgpblhhcpgaaGreatDoorWr
namespace Go.Proofs.YtfpmgpblhhcpgaaGreatDoor
set_option linter.unusedVariables false
set_option linter.unusedSimpArgs false
set_option maxRecDepth 100000
section
open Hc Hc.Lex Hc.Syn
variable {H : Heap} {lo b tabs : Nat} {pre : Txt}
structure LN (lo : Nat) (H : Heap) (n : Nd) (q : Option Nat) : Prop where
  ex : ∃ fp, TrR TQaf TQab H n q fp ∧ ∀ x ∈ fp, x < lo
theorem LN.upd {H' : Heap} {n : Nd} {q : Option Nat} (h : LN lo H n q) (hU : Upd (lo ≤ ·) H H') : LN lo H' n q := by
  obtain ⟨fp, h1, h2⟩ := h.ex
  exact ⟨fp, h1.upd hU fun x hx => by have := h2 x hx; omega, h2⟩
structure NA (lo : Nat) (H : Heap) (op : Int) (tx : Txt) (nm : Int) (l : List Nd) (c : Nat) (L : Sl) : Prop where
  lt : c < lo
  c0 : hcell H ⟨c, 0, none⟩ = some (.int .i64 op)
  c1 : hcell H ⟨c, 1, none⟩ = some (strV tx)
  c2 : hcell H ⟨c, 2, none⟩ = some (.int .i64 nm)
  c3 : hcell H ⟨c, 3, none⟩ = some (.slice L.a L.len L.cap)
  len : L.len = l.length
  cap : L.len ≤ L.cap
  ix : ∀ (i : Nat) n, l[i]? = some n → ∃ ad q, (∀ {k : Addr → Prop} {j : Int}, j = (i : Nat) → k ad → IxA 1 L j k) ∧ ad.block < lo ∧ hcell H ad = some (ptrV q) ∧ LN lo H n q
theorem NA.upd {H' : Heap} {op nm : Int} {tx : Txt} {l : List Nd} {c : Nat} {L : Sl} (h : NA lo H op tx nm l c L) (hU : Upd (lo ≤ ·) H H') : NA lo H' op tx nm l c L := by
  have hl := h.lt
  have k : ∀ {i : Nat} {v : Value}, hcell H ⟨c, i, none⟩ = some v → hcell H' ⟨c, i, none⟩ = some v := fun hc => hU.cell hc (by show ¬ lo ≤ c; omega)
  refine ⟨hl, k h.c0, k h.c1, k h.c2, k h.c3, h.len, h.cap, fun i n hi => ?_⟩
  obtain ⟨ad, q, h1, h2, h3, h4⟩ := h.ix i n hi
  exact ⟨ad, q, h1, h2, hU.cell h3 (by omega), h4.upd hU⟩
theorem TrL.get : ∀ {ns : List Nd} {qs : List (Option Nat)} {fp : List Nat} {TN TP : TypeId}, TrL TN TP H ns qs fp → ∀ (i : Nat) n, ns[i]? = some n → ∃ q f, qs[i]? = some q ∧ TrR TN TP H n q f ∧ ∀ x ∈ f, x ∈ fp
  | [], _, _, _, _, _, i, n, h => by simp at h
  | m :: ns, _, _, _, _, ⟨q, qs', f1, f2, rfl, rfl, h1, h2⟩, i, n, h => by
    cases i with
    | zero => simp at h; subst h; exact ⟨q, f1, rfl, h1, fun x hx => List.mem_append_left _ hx⟩
    | succ i =>
      obtain ⟨q', f, g1, g2, g3⟩ := TrL.get h2 i n (by simpa using h)
      exact ⟨q', f, by simpa using g1, g2, fun x hx => List.mem_append_right _ (g3 x hx)⟩
theorem LN.na {op nm a : Int} {tx : Txt} {l : List Nd} {q : Option Nat} (h : LN lo H (.mk op tx nm l a) q) : ∃ c L, q = some c ∧ NA lo H op tx nm l c L := by
  obtain ⟨fp, ⟨c, L, qs, fl, rfl, hr, hv, hl, rfl⟩, hfp⟩ := h.ex
  have hql := hl.len
  refine ⟨c, L, rfl, hfp c (by simp), (hr.cell 0).trans rfl, (hr.cell 1).trans rfl, (hr.cell 2).trans rfl, (hr.cell 3).trans rfl, by rw [hv.len, List.length_map, hql], hv.lc, fun i n hi => ?_⟩
  obtain ⟨q, f, g1, g2, g3⟩ := TrL.get hl i n hi
  have hi' : i < qs.length := (List.getElem?_eq_some_iff.1 g1).1
  obtain ⟨d, hd, hc⟩ := hv.cell (i := i) (by simpa using hi')
  have hlen := hv.len
  rw [List.length_map] at hlen
  refine ⟨⟨d, i, none⟩, q, fun {k j} hj hk => ?_, hfp d (by simp [blkL, hd]), ?_, f, g2, fun x hx => hfp x (by simp [g3 x hx])⟩
  · subst hj
    exact IxA.mk hd (by omega) (by omega) (by rw [adr_add]; simpa using hk)
  · rw [hc]; simp [g1]
theorem LN.some' {n : Nd} {q : Option Nat} (h : LN lo H n q) (hn : okN n) : ∃ op tx nm l a c L, n = .mk op tx nm l a ∧ q = some c ∧ NA lo H op tx nm l c L := by
  obtain ⟨op, tx, nm, l, a, rfl⟩ := hn.op
  obtain ⟨c, L, rfl, g⟩ := h.na
  exact ⟨op, tx, nm, l, a, c, L, rfl, rfl, g⟩
def Wx (lo b tabs : Nat) (f : FuncId) (args : List Value) (t : Txt) (H : Heap) : Prop :=
  ∀ {pre : Txt} {k : Unit → Heap → Prop}, WR lo H b pre tabs → pre ≠ [] → pre.length + t.length ≤ 2 ^ 40 → (∀ H', Upd (lo ≤ ·) H H' → WR lo H' b (pre ++ t) tabs → k () H') → CallT Pg f args (.tup []) H k
theorem Br_eqT {a c : Int} {X Y : Prop} (h : a = c) (hx : X) : Br (a == c) X Y := by subst h; rw [beq_self_eq_true]; exact hx
theorem Br_eqF {a c : Int} {X Y : Prop} (h : a ≠ c) (hy : Y) : Br (a == c) X Y := by rw [beq_eq_false_iff_ne.2 h]; exact hy
theorem Cat {x y : Txt} {k : ByteArray → Prop} (h : x.length + y.length ≤ 2 ^ 41) (hk : k ⟨⟨x ++ y⟩⟩) : StrCat ⟨⟨x⟩⟩ ⟨⟨y⟩⟩ k :=
  ⟨by show ((x.length + y.length : Nat) : Int) ≤ _; omega, by rw [ba_append]; exact hk⟩
theorem ne_app {pre t : Txt} (h : pre ≠ []) : pre ++ t ≠ [] := by simp [h]
abbrev pN (q : Option Nat) : Value := .pointer (q.map adr)
theorem upL {H1 H2 : Heap} (h : Upd (lo ≤ ·) H H1) (h2 : Upd (lo ≤ ·) H1 H2) : Upd (lo ≤ ·) H H2 := h.trans h2 fun _ _ h => h
theorem upLE {H1 H2 : Heap} (h : Upd (lo ≤ ·) H H1) (h2 : Ext H1 H2) : Upd (lo ≤ ·) H H2 := h.trans h2 fun _ _ h => h.elim
theorem EL {H1 : Heap} (h : Ext H H1) : Upd (lo ≤ ·) H H1 := h.mono fun _ _ h => h.elim
theorem WR.ext {H' : Heap} (h : WR lo H b pre tabs) (hE : Ext H H') : WR lo H' b pre tabs := h.upd (EL hE) (h.w.ext hE)
theorem w_comma (i : Nat) : Wx lo b tabs fQc4 [pA b, .int .i64 (i : Nat)] (if i = 0 then [] else [44, 32]) H := by
  intro pre k h hp hl hk
  refine cQch _ _ ?_
  unfold vQch
  simp only [Jn, NilCk_some]
  by_cases h0 : i = 0
  · rw [if_pos h0] at hk hl
    refine Br_no (by omega) ?_
    exact hk H (.refl _ _) (by rw [List.append_nil]; exact h)
  · rw [if_neg h0] at hk hl
    exact Br_yes (by omega) (s_WS h [44, 32] (ne_app hp) hl fun _ H' hU h' => hk H' hU h')
theorem w_words {t : Txt} {n : Nd} {q : Option Nat} (ht : t ≠ [] ∨ True) (he : ∀ H1, Upd (lo ≤ ·) H H1 → Wx lo b tabs fQcz [pA b, pN q] (exT n) H1) : Wx lo b tabs fQcx [pA b, .string ⟨⟨t⟩⟩, pN q] (t ++ exT n) H := by
  intro pre k h hp hl hk
  refine cQcb _ _ _ ?_
  unfold vQcb
  simp only [NilCk_some]
  rw [List.length_append] at hl
  refine s_WS h t (ne_app hp) (by omega) fun _ H1 hU1 h1 => he H1 hU1 h1 (ne_app hp) (by rw [List.length_append]; omega) fun H2 hU2 h2 => hk H2 (upL hU1 hU2) ?_
  rw [← List.append_assoc]; exact h2
theorem w_bound {n : Nd} {q : Option Nat} (hn : okN n) (hq : LN lo H n q) (lv : Int) (r : Bool) (he : ∀ H1, Upd (lo ≤ ·) H H1 → Wx lo b tabs fQcz [pA b, pN q] (exT n) H1) :
    Wx lo b tabs fQc3 [pA b, pN q, .int .i64 lv, .bool r] (par (needP lv r n) (exT n)) H := by
  intro pre k h hp hl hk
  refine cQcg _ _ _ _ ?_
  unfold vQcg
  obtain ⟨op, tx, nm, l, a, c, L, rfl, rfl, na⟩ := hq.some' hn
  simp only [Option.map_some, NilCk_some, adr_add]
  refine Jn.mk (fun j H' => H = H' ∧ j = needP lv r (.mk op tx nm l a)) (fun kk hkk => ?_) ?_
  · refine Ld_int na.c0 ?_
    by_cases e : op = 35
    · refine Br_eqT e (hkk _ _ ⟨rfl, ?_⟩)
      simp [needP, Nd.op, e]
    refine Br_eqF e (Ld_int na.c0 ?_)
    by_cases e2 : op = 33
    · refine Br_eqT e2 (Ld_str na.c1 (s_levelOf (Br_dec (fun h3 => hkk _ _ ⟨rfl, ?_⟩) fun h3 => ?_)))
      · simp [needP, Nd.op, Nd.tx, e2, h3]
      · cases r with
        | true =>
          refine (Br_true _ _).2 (Ld_str na.c1 (s_levelOf (hkk _ _ ⟨rfl, ?_⟩)))
          simp [needP, Nd.op, Nd.tx, e2, h3]
        | false =>
          refine (Br_false _ _).2 (hkk _ _ ⟨rfl, ?_⟩)
          simp [needP, Nd.op, Nd.tx, e2, h3]
    · refine Br_eqF e2 (hkk _ _ ⟨rfl, ?_⟩)
      simp [needP, Nd.op, e, e2]
  · rintro j _ ⟨rfl, rfl⟩
    cases hb : needP lv r (.mk op tx nm l a) with
    | true =>
      rw [hb] at hk hl
      have e : par true (exT (.mk op tx nm l a)) = ([40] ++ exT (.mk op tx nm l a)) ++ [41] := by simp [par]
      rw [e] at hk hl
      rw [List.length_append] at hl
      simp only [List.length_cons, List.length_nil] at hl
      refine (Br_true _ _).2 (w_words (.inr trivial) he h hp (by omega) fun H1 hU1 h1 => ?_)
      refine s_WB h1 41 rfl (by rw [List.length_append]; omega) fun _ H2 hU2 h2 => hk H2 (upL hU1 hU2) ?_
      rw [← List.append_assoc]; exact h2
    | false =>
      rw [hb] at hk hl
      exact (Br_false _ _).2 (he H (.refl _ _) h hp hl fun H1 hU1 h1 => hk H1 hU1 h1)
section
variable {nm a : Int} {tx : Txt} {l : List Nd}
theorem ex30 : exT (.mk 30 tx nm l a) = digs10 nm := by unfold exT; rw [if_pos rfl]
theorem ex32 : exT (.mk 32 tx nm l a) = tx ++ (46 :: (l.headD .nil).tx) := by unfold exT; rw [if_neg (by decide)]; rw [if_pos rfl]
theorem ex33 {x y : Nd} : exT (.mk 33 tx nm [x, y] a) = par (needP (levelI tx) false x) (exT x) ++ (32 :: (tx ++ 32 :: par (needP (levelI tx) true y) (exT y))) := by simp [exT]
theorem ex34 {x : Nd} : exT (.mk 34 tx nm [x] a) = tx ++ par (needP 7 false x) (exT x) := by simp [exT]
theorem ex35 {x y z : Nd} : exT (.mk 35 tx nm [x, y, z] a) = par (needP 0 false x) (exT x) ++ ([32, 63, 32] ++ (exT y ++ ([32, 58, 32] ++ exT z))) := by simp [exT]
theorem ex36 : exT (.mk 36 tx nm l a) = tx ++ (40 :: (comF true (exTs l) ++ [41])) := by unfold exT; rw [if_neg (by decide)]; rw [if_neg (by decide)]; rw [if_neg (by decide)]; rw [if_neg (by decide)]; rw [if_neg (by decide)]; rw [if_pos rfl]
theorem ex37 : exT (.mk 37 tx nm l a) = [104, 97, 115, 40] ++ (tx ++ [41]) := by unfold exT; rw [if_neg (by decide)]; rw [if_neg (by decide)]; rw [if_neg (by decide)]; rw [if_neg (by decide)]; rw [if_neg (by decide)]; rw [if_neg (by decide)]; rw [if_pos rfl]
theorem ex31 : exT (.mk 31 tx nm l a) = tx := by unfold exT; rw [if_neg (by decide)]; rw [if_neg (by decide)]; rw [if_neg (by decide)]; rw [if_neg (by decide)]; rw [if_neg (by decide)]; rw [if_neg (by decide)]; rw [if_neg (by decide)]
theorem ex38 : exT (.mk 38 tx nm l a) = tx := by unfold exT; rw [if_neg (by decide)]; rw [if_neg (by decide)]; rw [if_neg (by decide)]; rw [if_neg (by decide)]; rw [if_neg (by decide)]; rw [if_neg (by decide)]; rw [if_neg (by decide)]
theorem exTs_drop {l : List Nd} {i : Nat} {n : Nd} (h : l[i]? = some n) : exTs (l.drop i) = exT n :: exTs (l.drop (i + 1)) := by
  have hlt := (List.getElem?_eq_some_iff.1 h).1
  rw [List.drop_eq_getElem_cons hlt, show l[i] = n from (List.getElem?_eq_some_iff.1 h).2]; rfl
theorem mem_get {l : List Nd} {i : Nat} {n : Nd} (h : l[i]? = some n) : n ∈ l := List.mem_of_getElem? h
theorem cnt_mem : ∀ {l : List Nd} {n : Nd}, n ∈ l → cnt n ≤ cntL l
  | [], _, h => by cases h
  | m :: ms, n, h => by
    rcases List.mem_cons.1 h with rfl | h
    · simp only [cntL]; omega
    · have := cnt_mem h; simp only [cntL]; omega
theorem len_cnt : ∀ {l : List Nd}, okL l → l.length ≤ cntL l
  | [], _ => Nat.le_refl _
  | n :: ns, h => by
    have := cnt_pos h.1
    have := len_cnt h.2
    simp only [cntL, List.length_cons]; omega
end
theorem comF_cons (i : Nat) (t : Txt) (ts : List Txt) : comF (i == 0) (t :: ts) = (if i = 0 then [] else [44, 32]) ++ (t ++ comF (i + 1 == 0) ts) := by
  have e : (i + 1 == 0) = false := by simp
  rw [e]
  show (if (i == 0) = true then [] else [44, 32]) ++ (t ++ comF false ts) = _
  by_cases h : i = 0
  · simp [h]
  · simp [h]
theorem w_expr : ∀ (m : Nat) {n : Nd} {q : Option Nat} {H : Heap}, m ≤ 2 ^ 40 → cnt n ≤ m → okN n → i64N n → isE n → LN lo H n q → Wx lo b tabs fQcz [pA b, pN q] (exT n) H := by
  intro m
  induction m with
  | zero => intro n _ _ _ hm hn; have := cnt_pos hn; omega
  | succ m ih =>
    intro n q H hm0 hm hn hi hE hq pre k h hp hl hk
    refine cQcd _ _ ?_
    unfold vQcd
    obtain ⟨op, tx, nm, l, a, c, L, rfl, rfl, na⟩ := hq.some' hn
    simp only [Jn, Option.map_some, NilCk_some, adr_add]
    have hcn : cnt (.mk op tx nm l a) = 1 + cntL l := by simp [cnt]
    have htl : tx.length ≤ 16 := hn.tlen
    have hpl : pre.length ≤ 2 ^ 40 := by omega
    have hE1 : 30 ≤ op := hE.1
    have hE2 : op ≤ 38 := hE.2
    -- a child is written, wherever it stands
    have kid : ∀ {x : Nd} {r : Option Nat} {H1 : Heap}, x ∈ l → isE x → LN lo H1 x r → ∀ H2, Upd (lo ≤ ·) H1 H2 → Wx lo b tabs fQcz [pA b, pN r] (exT x) H2 := fun hx hxe hxl H2 hU2 =>
      ih (by omega) (by have := cnt_mem hx; omega) (okL_all hn.2 _ hx) (i64L_all hi.2 _ hx) hxe (hxl.upd hU2)
    refine Ld_int na.c0 ?_
    by_cases e : op = 30
    · subst e
      rw [ex30] at hk hl
      obtain ⟨_, h0, _⟩ := ok30 hn
      refine Br_eqT rfl (Ld_int na.c2 (s_FormatInt h.pow h0 hi.1.2 fun H1 hE1 => s_WS (h.ext hE1) _ (ne_app hp) hl fun _ H2 hU2 h2 => Stab_1 ((na.upd (upL (EL hE1) hU2)).c2) (hk H2 (upL (EL hE1) hU2) h2)))
    refine Br_eqF e ?_
    by_cases e : op = 32
    · subst e
      obtain ⟨_, x, rfl, hx, hxo⟩ := ok32 hn
      rw [ex32] at hk hl
      obtain ⟨ad, q2, ix, hlt, hc, hl2⟩ := na.ix 0 x rfl
      obtain ⟨op2, tx2, nm2, l2, a2, c2, L2, rfl, rfl, na2⟩ := hl2.some' hx
      have htx2 : tx2.length ≤ 16 := hx.tlen
      refine Br_eqT rfl (Ld_str na.c1 (Cat (by simp; omega) (Ld_sl na.c3 (ix rfl (Ld_ptr hc ?_)))))
      simp only [Option.map_some, NilCk_some, adr_add]
      have et : tx ++ [46] ++ tx2 = tx ++ (46 :: ([Nd.mk op2 tx2 nm2 l2 a2].headD .nil).tx) := by simp [Nd.tx]
      refine Ld_str na2.c1 (Cat (by simp; omega) (s_WS h _ (ne_app hp) (by rw [et]; exact hl) fun _ H2 hU2 h2 => ?_))
      have n1 := na.upd hU2
      have n2 := na2.upd hU2
      exact Stab_all (by simp only [List.mem_cons, List.not_mem_nil, or_false, forall_eq_or_imp, forall_eq]; exact ⟨n2.c1, hU2.cell hc (by omega), n1.c3, n1.c1⟩) (hk H2 hU2 (by rw [← et]; exact h2))
    refine Br_eqF e ?_
    by_cases e : op = 33
    · subst e
      obtain ⟨_, x, y, rfl, hx, hy, hxe, hye⟩ := ok33 hn
      rw [ex33] at hk hl
      obtain ⟨ad, qx, ix, hlt, hc, hlx⟩ := na.ix 0 x rfl
      simp only [List.length_append, List.length_cons] at hl
      refine Br_eqT rfl (Ld_str na.c1 (s_levelOf (Ld_sl na.c3 (ix rfl (Ld_ptr hc ?_)))))
      refine w_bound hx hlx _ _ (kid (by simp) hxe hlx) h hp (by omega) fun H1 hU1 h1 => ?_
      have n1 := na.upd hU1
      refine Ld_str n1.c1 (Cat (by simp; omega) (Cat (by simp; omega) ?_))
      refine s_WS h1 ([32] ++ tx ++ [32]) (ne_app (ne_app hp)) (by simp; omega) fun _ H2 hU2 h2 => ?_
      have n2 := n1.upd hU2
      obtain ⟨ad2, qy, iy, hlt2, hc2, hly⟩ := n2.ix 1 y rfl
      refine Stab_1 n2.c1 (Ld_sl n2.c3 (iy rfl (Ld_ptr hc2 ?_)))
      refine w_bound hy hly _ _ (kid (by simp) hye hly) h2 (ne_app (ne_app hp)) (by simp; omega) fun H3 hU3 h3 => hk H3 (upL (upL hU1 hU2) hU3) ?_
      have et : ∀ A B : Txt, pre ++ (A ++ (32 :: (tx ++ 32 :: B))) = pre ++ A ++ ([32] ++ tx ++ [32]) ++ B := fun A B => by simp
      rw [et]; exact h3
    refine Br_eqF e ?_
    by_cases e : op = 34
    · subst e
      obtain ⟨_, x, rfl, hx, hxe⟩ := ok34 hn
      rw [ex34] at hk hl
      simp only [List.length_append] at hl
      refine Br_eqT rfl (Ld_str na.c1 (s_WS h tx (ne_app hp) (by omega) fun _ H1 hU1 h1 => ?_))
      have n1 := na.upd hU1
      obtain ⟨ad, qx, ix, hlt, hc, hlx⟩ := n1.ix 0 x rfl
      refine Ld_sl n1.c3 (ix rfl (Ld_ptr hc ?_))
      refine w_bound hx hlx _ _ (kid (by simp) hxe hlx) h1 (ne_app hp) (by simp; omega) fun H2 hU2 h2 => hk H2 (upL hU1 hU2) ?_
      rw [← List.append_assoc]; exact h2
    refine Br_eqF e ?_
    by_cases e : op = 35
    · subst e
      obtain ⟨_, x, y, z, rfl, hx, hy, hz, hxe, hye, hze⟩ := ok35 hn
      rw [ex35] at hk hl
      simp only [List.length_append] at hl
      obtain ⟨ad, qx, ix, hlt, hc, hlx⟩ := na.ix 0 x rfl
      refine Br_eqT rfl (Ld_sl na.c3 (ix rfl (Ld_ptr hc ?_)))
      refine w_bound hx hlx _ _ (kid (by simp) hxe hlx) h hp (by omega) fun H1 hU1 h1 => ?_
      have n1 := na.upd hU1
      obtain ⟨ad1, qy, iy, hlt1, hc1, hly⟩ := n1.ix 1 y rfl
      refine Ld_sl n1.c3 (iy rfl (Ld_ptr hc1 ?_))
      refine w_words (.inr trivial) (kid (by simp) hye hly) h1 (ne_app hp) (by simp only [List.length_append]; omega) fun H2 hU2 h2 => ?_
      have n2 := n1.upd hU2
      obtain ⟨ad2, qz, iz, hlt2, hc2, hlz⟩ := n2.ix 2 z rfl
      refine Ld_sl n2.c3 (iz rfl (Ld_ptr hc2 ?_))
      refine w_words (.inr trivial) (kid (by simp) hze hlz) h2 (ne_app (ne_app hp)) (by simp only [List.length_append]; omega) fun H3 hU3 h3 => hk H3 (upL (upL hU1 hU2) hU3) ?_
      have et : ∀ A B C : Txt, pre ++ (A ++ ([32, 63, 32] ++ (B ++ ([32, 58, 32] ++ C)))) = pre ++ A ++ ([32, 63, 32] ++ B) ++ ([32, 58, 32] ++ C) := fun A B C => by simp
      rw [et]; exact h3
    refine Br_eqF e ?_
    by_cases e : op = 36
    · subst e
      obtain ⟨_, hall⟩ := ok36 hn
      rw [ex36] at hk hl
      simp only [List.length_append, List.length_cons, List.length_nil] at hl
      refine Br_eqT rfl (Ld_str na.c1 (Cat (by simp; omega) (s_WS h (tx ++ [40]) (ne_app hp) (by simp; omega) fun _ H1 hU1 h1 => ?_)))
      have n1 := na.upd hU1
      refine Stab_1 n1.c1 (Ld_sl n1.c3 ?_)
      refine LoopT.ghost (fun r (i : Int) H' => ∃ (j : Nat) (pr : Txt), i = (j : Nat) ∧ j + r = l.length ∧ Upd (lo ≤ ·) H H' ∧ WR lo H' b pr tabs ∧ pr ≠ [] ∧ pr ++ comF (j == 0) (exTs (l.drop j)) = pre ++ (tx ++ [40]) ++ comF true (exTs l)) l.length
        ⟨0, _, rfl, by omega, hU1, h1, ne_app hp, by simp⟩ ?_
      rintro next r i H2 ⟨j, pr, rfl, hj, hU2, h2, hpr, heq⟩ hnext
      have n2 := na.upd hU2
      have hlq := congrArg List.length heq
      simp only [List.length_append, List.length_cons, List.length_nil] at hlq
      cases r with
      | zero =>
        refine Br_no (by rw [na.len]; omega) ?_
        have ed : l.drop j = [] := List.drop_eq_nil_of_le (by omega)
        rw [ed] at heq
        refine s_WB h2 41 rfl (by omega) fun _ H3 hU3 h3 => hk H3 (upL hU2 hU3) ?_
        have et : pr = pre ++ (tx ++ [40]) ++ comF true (exTs l) := by simpa [exTs, comF] using heq
        rw [et] at h3
        have e2 : pre ++ (tx ++ 40 :: (comF true (exTs l) ++ [41])) = pre ++ (tx ++ [40]) ++ comF true (exTs l) ++ [41] := by simp
        rw [e2]; exact h3
      | succ r =>
        have hjl : j < l.length := by omega
        have hget : l[j]? = some l[j] := List.getElem?_eq_getElem hjl
        obtain ⟨ad, qx, ix, hlt, hc, hlx⟩ := n2.ix j _ hget
        refine Br_yes (by rw [na.len]; omega) (ix rfl (Ld_ptr hc ?_))
        rw [exTs_drop hget, comF_cons] at heq hlq
        simp only [List.length_append] at hlq
        refine w_comma j h2 hpr (by omega) fun H3 hU3 h3 => ?_
        have hmem := mem_get hget
        refine kid hmem (hall _ hmem).2 hlx H3 hU3 h3 (ne_app hpr) (by simp only [List.length_append]; omega) fun H4 hU4 h4 => ?_
        refine Lt.mk (u := ((j + 1 : Nat) : Int)) (by have := len_cnt hn.2; rw [wrap_i64_id] <;> omega) (hnext r _ _ (by omega) ⟨j + 1, _, rfl, by omega, upL (upL hU2 hU3) hU4, h4, ne_app (ne_app hpr), ?_⟩)
        rw [← heq]; simp
    refine Br_eqF e ?_
    by_cases e : op = 37
    · subst e
      rw [ex37] at hk hl
      have et : [104, 97, 115, 40] ++ tx ++ [41] = [104, 97, 115, 40] ++ (tx ++ [41]) := by simp
      refine Br_eqT rfl (Ld_str na.c1 (Cat (by simp; omega) (Cat (by simp; omega) (s_WS h _ (ne_app hp) (by rw [et]; exact hl) fun _ H1 hU1 h1 => Stab_1 (na.upd hU1).c1 (hk H1 hU1 (by rw [← et]; exact h1))))))
    refine Br_eqF e ?_
    have et : exT (.mk op tx nm l a) = tx := by
      have : op = 31 ∨ op = 38 := by omega
      rcases this with rfl | rfl
      · exact ex31
      · exact ex38
    rw [et] at hk hl
    exact Ld_str na.c1 (s_WS h tx (ne_app hp) hl fun _ H1 hU1 h1 => hk H1 hU1 h1)
end
section
open Hc Hc.Lex Hc.Syn
variable {H : Heap} {lo b tabs : Nat} {pre : Txt}
theorem w_ex {n : Nd} {q : Option Nat} (hc : cnt n ≤ 2 ^ 40) (hn : okN n) (hi : i64N n) (hE : isE n) (hq : LN lo H n q) : ∀ H1, Upd (lo ≤ ·) H H1 → Wx lo b tabs fQcz [pA b, pN q] (exT n) H1 :=
  fun _ hU => w_expr (2 ^ 40) (Nat.le_refl _) hc hn hi hE (hq.upd hU)
theorem w_we {t : Txt} {n : Nd} {q : Option Nat} (hc : cnt n ≤ 2 ^ 40) (hn : okN n) (hi : i64N n) (hE : isE n) (hq : LN lo H n q) : Wx lo b tabs fQcx [pA b, .string ⟨⟨t⟩⟩, pN q] (t ++ exT n) H := w_words (.inr trivial) (w_ex hc hn hi hE hq)
theorem comF_drop {f : Nd → Txt} {l : List Nd} {i : Nat} {n : Nd} (h : l[i]? = some n) : comF (i == 0) ((l.drop i).map f) = (if i = 0 then [] else [44, 32]) ++ (f n ++ comF (i + 1 == 0) ((l.drop (i + 1)).map f)) := by
  have hlt := (List.getElem?_eq_some_iff.1 h).1
  rw [List.drop_eq_getElem_cons hlt, show l[i] = n from (List.getElem?_eq_some_iff.1 h).2, List.map_cons, comF_cons]
theorem w_part {n : Nd} {q : Option Nat} (hc : cnt n ≤ 2 ^ 40) (hn : okN n) (hi : i64N n) (ho : n.op = 23) (hq : LN lo H n q) : Wx lo b tabs fQc1 [pA b, pN q] (partT n) H := by
  intro pre k h hp hl hk
  refine cQcf _ _ ?_
  unfold vQcf
  obtain ⟨op, tx, nm, l, a, c, L, rfl, rfl, na⟩ := hq.some' hn
  have ho : op = 23 := ho
  subst ho
  simp only [Jn, Option.map_some, NilCk_some, adr_add]
  have hcn : cnt (.mk 23 tx nm l a) = 1 + cntL l := by simp [cnt]
  have htl : tx.length ≤ 16 := hn.tlen
  have hle := len_cnt hn.2
  obtain ⟨_, hall⟩ := ok23 hn
  have eT : partT (.mk 23 tx nm l a) = (tx ++ [123]) ++ comF true (l.map valT) ++ [125] := by simp [partT, Nd.tx, Nd.ks]
  rw [eT] at hk hl
  simp only [List.length_append, List.length_cons, List.length_nil] at hl
  refine Ld_str na.c1 (Cat (by simp; omega) (s_WS h (tx ++ [123]) (ne_app hp) (by simp; omega) fun _ H1 hU1 h1 => ?_))
  have n1 := na.upd hU1
  refine Stab_1 n1.c1 (Ld_sl n1.c3 ?_)
  refine LoopT.ghost (fun r (i : Int) H' => ∃ (j : Nat) (pr : Txt), i = (j : Nat) ∧ j + r = l.length ∧ Upd (lo ≤ ·) H H' ∧ WR lo H' b pr tabs ∧ pr ≠ [] ∧ pr ++ comF (j == 0) ((l.drop j).map valT) = pre ++ (tx ++ [123]) ++ comF true (l.map valT)) l.length
    ⟨0, _, rfl, by omega, hU1, h1, ne_app hp, by simp⟩ ?_
  rintro next r i H2 ⟨j, pr, rfl, hj, hU2, h2, hpr, heq⟩ hnext
  have n2 := na.upd hU2
  have hlq := congrArg List.length heq
  simp only [List.length_append, List.length_cons, List.length_nil] at hlq
  cases r with
  | zero =>
    refine Br_no (by rw [na.len]; omega) ?_
    have ed : l.drop j = [] := List.drop_eq_nil_of_le (by omega)
    rw [ed] at heq
    refine s_WB h2 125 rfl (by omega) fun _ H3 hU3 h3 => hk H3 (upL hU2 hU3) ?_
    have et : pr = pre ++ (tx ++ [123]) ++ comF true (l.map valT) := by simpa [comF] using heq
    rw [et] at h3
    rw [← List.append_assoc, ← List.append_assoc]; exact h3
  | succ r =>
    have hjl : j < l.length := by omega
    have hget : l[j]? = some l[j] := List.getElem?_eq_getElem hjl
    generalize l[j] = v at hget
    have hmem := mem_get hget
    obtain ⟨hvo, hvop⟩ := hall v hmem
    have hvi := i64L_all hi.2 v hmem
    have hvc := cnt_mem hmem
    obtain ⟨ad, qx, ix, hlt, hcc, hlx⟩ := n2.ix j v hget
    refine Br_yes (by rw [na.len]; omega) (ix rfl (Ld_ptr hcc ?_))
    rw [comF_drop hget] at heq hlq
    simp only [List.length_append] at hlq
    refine w_comma j h2 hpr (by omega) fun H3 hU3 h3 => ?_
    obtain ⟨op2, tx2, nm2, l2, a2, c2, L2, rfl, rfl, na2⟩ := (hlx.upd hU3).some' hvo
    have hvop : op2 = 24 := hvop
    subst hvop
    obtain ⟨_, x, rfl, hx, hxe⟩ := ok24 hvo
    have htx2 : tx2.length ≤ 16 := hvo.tlen
    have eV : valT (.mk 24 tx2 nm2 [x] a2) = (tx2 ++ [58, 32]) ++ exT x := by simp [valT, Nd.tx, Nd.ks]
    rw [eV] at heq hlq
    simp only [List.length_append, List.length_cons, List.length_nil] at hlq
    simp only [Option.map_some, NilCk_some, adr_add]
    obtain ⟨ad3, qx3, ix3, hlt3, hcc3, hlx3⟩ := na2.ix 0 x rfl
    refine Ld_str na2.c1 (Cat (by simp; omega) (Ld_sl na2.c3 (ix3 rfl (Ld_ptr hcc3 ?_))))
    refine w_we (t := tx2 ++ [58, 32]) (by simp only [cnt, cntL] at hvc; omega) hx hvi.2.1 hxe hlx3 h3 (ne_app hpr) (by simp only [List.length_append, List.length_cons, List.length_nil]; omega) fun H4 hU4 h4 => ?_
    have n4 := na2.upd hU4
    refine Stab_2 n4.c3 n4.c1 (Lt.mk (u := ((j + 1 : Nat) : Int)) (by rw [wrap_i64_id] <;> omega) (hnext r _ _ (by omega) ⟨j + 1, _, rfl, by omega, upL (upL hU2 hU3) hU4, h4, ne_app (ne_app hpr), ?_⟩))
    rw [← heq]; simp
theorem w_spawn {n : Nd} {q : Option Nat} (hc : cnt n ≤ 2 ^ 40) (hn : okN n) (hi : i64N n) (ho : n.op = 17) (hq : LN lo H n q) : Wx lo b tabs fQc0 [pA b, pN q] (simT n) H := by
  intro pre k h hp hl hk
  refine cQce _ _ ?_
  unfold vQce
  obtain ⟨op, tx, nm, l, a, c, L, rfl, rfl, na⟩ := hq.some' hn
  have ho : op = 17 := ho
  subst ho
  simp only [Jn, Option.map_some, NilCk_some, adr_add]
  have hcn : cnt (.mk 17 tx nm l a) = 1 + cntL l := by simp [cnt]
  have hle := len_cnt hn.2
  obtain ⟨_, hall⟩ := ok17 hn
  have eT : simT (.mk 17 tx nm l a) = [115, 112, 97, 119, 110] ++ (if l.isEmpty then [] else 32 :: comF true (l.map partT)) := by simp [simT]
  rw [eT] at hk hl
  simp only [List.length_append, List.length_cons, List.length_nil] at hl
  refine s_WS h [115, 112, 97, 119, 110] (ne_app hp) (by simp; omega) fun _ H1 hU1 h1 => ?_
  have n1 := na.upd hU1
  refine Ld_sl n1.c3 ?_
  refine LoopT.ghost (fun r (i : Int) H' => ∃ (j : Nat) (pr : Txt), i = (j : Nat) ∧ j + r = l.length ∧ Upd (lo ≤ ·) H H' ∧ WR lo H' b pr tabs ∧ pr ≠ [] ∧ pr ++ (if (l.drop j).isEmpty then [] else (if j = 0 then [32] else []) ++ comF (j == 0) ((l.drop j).map partT)) = pre ++ [115, 112, 97, 119, 110] ++ (if l.isEmpty then [] else 32 :: comF true (l.map partT))) l.length
    ⟨0, _, rfl, by omega, hU1, h1, ne_app hp, by simp⟩ ?_
  rintro next r i H2 ⟨j, pr, rfl, hj, hU2, h2, hpr, heq⟩ hnext
  have n2 := na.upd hU2
  have hlq := congrArg List.length heq
  simp only [List.length_append, List.length_cons, List.length_nil] at hlq
  cases r with
  | zero =>
    refine Br_no (by rw [na.len]; omega) ?_
    have ed : l.drop j = [] := List.drop_eq_nil_of_le (by omega)
    rw [ed] at heq
    refine hk H2 hU2 ?_
    have et : pr = pre ++ [115, 112, 97, 119, 110] ++ (if l.isEmpty then [] else 32 :: comF true (l.map partT)) := by simpa using heq
    rw [← List.append_assoc, ← et]; exact h2
  | succ r =>
    have hjl : j < l.length := by omega
    have hget : l[j]? = some l[j] := List.getElem?_eq_getElem hjl
    have hde : (l.drop j).isEmpty = false := by rw [List.drop_eq_getElem_cons hjl]; rfl
    generalize l[j] = v at hget
    have hmem := mem_get hget
    obtain ⟨hvo, hvop⟩ := hall v hmem
    have hvi := i64L_all hi.2 v hmem
    have hvc := cnt_mem hmem
    obtain ⟨ad, qx, ix, hlt, hcc, hlx⟩ := n2.ix j v hget
    refine Br_yes (by rw [na.len]; omega) (ix rfl (Ld_ptr hcc ?_))
    rw [hde, comF_drop hget, if_neg (by decide)] at heq hlq
    refine Nw_row (vs := [strV [32], strV [44, 32]]) fun b3 H3 hb3 hE3 _ hr3 => ?_
    have h3 := h2.ext hE3
    have go : ∀ (o : Nat) (t : Txt) (rest : Txt), (o = if 1 < (j : Int) then 1 else j) → [strV [32], strV [44, 32]][o]? = some (strV t) → o < 2 → pr ++ (t ++ (partT v ++ rest)) = pr ++ ((if j = 0 then [32] else []) ++ ((if j = 0 then [] else [44, 32]) ++ (partT v ++ comF (j + 1 == 0) ((l.drop (j + 1)).map partT)))) → rest = comF false ((l.drop (j + 1)).map partT) →
        IxA 1 ⟨some (adr b3), 2, 2⟩ (if 1 < (j : Int) then 1 else (j : Int)) fun a5 => Ld .str a5 H3 fun (x3 : ByteArray) =>
          CallT Pg fQcl [.pointer (some (adr b)), .string x3] (.tup [(.c (.int .i64)), (.c .raw)]) H3 fun (r2 : Int × Value) H4 =>
          CallT Pg fQc1 [.pointer (some (adr b)), .pointer (qx.map adr)] (.tup []) H4 fun (r3 : Unit) H5 =>
          Lt (IntKind.wrap .i64 ((j : Int) + 1)) fun t1 => next t1 H5 := by
      intro o t rest ho hot ho2 hot2 hrest
      have eo : (if 1 < (j : Int) then 1 else (j : Int)) = (o : Int) := by rw [ho]; split <;> simp
      rw [eo]
      refine IxA_adr (by omega) (by omega) ?_
      have e1 : (o : Int).toNat * 1 = o := by omega
      rw [e1]
      refine Ld_str ((hr3.cell o).trans hot) ?_
      rw [← hot2] at heq
      have hlq := congrArg List.length heq
      simp only [List.length_append, List.length_cons, List.length_nil] at hlq
      refine s_WS h3 t (ne_app hpr) (by omega) fun _ H4 hU4 h4 => ?_
      refine w_part (by omega) hvo hvi hvop ((hlx.upd (EL hE3)).upd hU4) h4 (ne_app hpr) (by simp only [List.length_append]; omega) fun H5 hU5 h5 => ?_
      refine Lt.mk (u := ((j + 1 : Nat) : Int)) (by rw [wrap_i64_id] <;> omega) (hnext r _ _ (by omega) ⟨j + 1, _, rfl, by omega, upL (upL (upLE hU2 hE3) hU4) hU5, h5, ne_app (ne_app hpr), ?_⟩)
      rw [← heq, hrest]
      have ej : (j + 1 == 0) = false := by simp
      rw [ej, if_neg (by omega : ¬ j + 1 = 0)]
      cases hdd : l.drop (j + 1) <;> simp [comF]
    by_cases hj0 : j = 0
    · exact go 0 [32] (comF false ((l.drop (j + 1)).map partT)) (by subst hj0; rfl) rfl (by omega) (by subst hj0; rfl) rfl
    · exact go 1 [44, 32] (comF false ((l.drop (j + 1)).map partT)) (by split <;> omega) rfl (by omega) (by rw [if_neg hj0, if_neg hj0]; rfl) rfl
theorem s_line (h : WR lo H b pre tabs) (t : Txt) (hne : pre ++ t ≠ []) (hl : pre.length + (tabs + t.length) ≤ 2 ^ 40) {k : Unit → Heap → Prop} (hk : ∀ H', Upd (lo ≤ ·) H H' → WR lo H' b (pre ++ (tabsT tabs ++ t)) tabs → k () H') :
    CallT Pg fQcj [pA b, .string ⟨⟨t⟩⟩] (.tup []) H k := by
  refine cQb0 _ _ ?_
  unfold vQb0
  simp only [NilCk_some, adr_add]
  obtain ⟨p, L, r1, _⟩ := h.w.row
  refine Ld_int ((r1.cell 2).trans rfl) ?_
  refine LoopT.ghost (fun r (i : Int) H' => ∃ (j : Nat), i = (j : Nat) ∧ j + r = tabs ∧ Upd (lo ≤ ·) H H' ∧ WR lo H' b (pre ++ tabsT j) tabs) tabs ⟨0, rfl, by omega, .refl _ _, by simpa [tabsT] using h⟩ ?_
  rintro next r i H2 ⟨j, rfl, hj, hU2, h2⟩ hnext
  cases r with
  | zero =>
    have : j = tabs := by omega
    subst this
    refine Br_no (by omega) (s_WS h2 t (fun e => hne (by have g := List.append_eq_nil_iff.1 e; have g2 := List.append_eq_nil_iff.1 g.1; rw [g2.1, g.2]; rfl)) (by simp [tabsT]; omega) fun _ H3 hU3 h3 => hk H3 (upL hU2 hU3) ?_)
    rw [← List.append_assoc]; exact h3
  | succ r =>
    refine Br_yes (by omega) (s_WB h2 9 rfl (by simp [tabsT]; omega) fun _ H3 hU3 h3 => ?_)
    refine Lt.mk (u := ((j + 1 : Nat) : Int)) (by rw [wrap_i64_id] <;> omega) (hnext r _ _ (by omega) ⟨j + 1, rfl, by omega, upL hU2 hU3, ?_⟩)
    have e : tabsT (j + 1) = tabsT j ++ [9] := by simp [tabsT, List.replicate_succ']
    rw [e, ← List.append_assoc]; exact h3
theorem w_simple {n : Nd} {q : Option Nat} (hc : cnt n ≤ 2 ^ 40) (hn : okN n) (hi : i64N n) (ho : 10 ≤ n.op ∧ n.op ≤ 22) (hno : n.op ≠ 13 ∧ n.op ≠ 14 ∧ n.op ≠ 15) (hq : LN lo H n q) : Wx lo b tabs fQcy [pA b, pN q] (simT n) H := by
  intro pre k h hp hl hk
  refine cQcc _ _ ?_
  unfold vQcc
  have hq0 := hq
  obtain ⟨op, tx, nm, l, a, c, L, rfl, rfl, na⟩ := hq.some' hn
  have ho : 10 ≤ op ∧ op ≤ 22 := ho
  have hno : op ≠ 13 ∧ op ≠ 14 ∧ op ≠ 15 := hno
  simp only [Jn, Option.map_some, NilCk_some, adr_add]
  have hcn : cnt (.mk op tx nm l a) = 1 + cntL l := by simp [cnt]
  have htl : tx.length ≤ 16 := hn.tlen
  have kc : ∀ {x : Nd}, x ∈ l → cnt x ≤ 2 ^ 40 := fun hx => by have := cnt_mem hx; omega
  refine Ld_int na.c0 ?_
  by_cases e : op = 10
  · subst e
    obtain ⟨_, x, rfl, hx, hxe⟩ := ok10 hn
    have eT : simT (.mk 10 tx nm [x] a) = ([108, 101, 116, 32] ++ tx ++ [32, 61, 32]) ++ exT x := by simp [simT]
    rw [eT] at hk hl
    obtain ⟨ad, qx, ix, hlt, hcc, hlx⟩ := na.ix 0 x rfl
    refine Br_eqT rfl (Ld_str na.c1 (Cat (by simp; omega) (Cat (by simp; omega) (Ld_sl na.c3 (ix rfl (Ld_ptr hcc ?_))))))
    refine w_we (kc (by simp)) hx hi.2.1 hxe hlx h hp hl fun H1 hU1 h1 => ?_
    have n1 := na.upd hU1
    exact Stab_2 n1.c3 n1.c1 (hk H1 hU1 h1)
  refine Br_eqF e ?_
  by_cases e : op = 11
  · subst e
    obtain ⟨_, x, rfl, hx, hxe⟩ := ok11 hn
    have eT : simT (.mk 11 tx nm [x] a) = (tx ++ [32, 61, 32]) ++ exT x := by simp [simT]
    rw [eT] at hk hl
    obtain ⟨ad, qx, ix, hlt, hcc, hlx⟩ := na.ix 0 x rfl
    refine Br_eqT rfl (Ld_str na.c1 (Cat (by simp; omega) (Ld_sl na.c3 (ix rfl (Ld_ptr hcc ?_)))))
    refine w_we (kc (by simp)) hx hi.2.1 hxe hlx h hp hl fun H1 hU1 h1 => ?_
    have n1 := na.upd hU1
    exact Stab_2 n1.c3 n1.c1 (hk H1 hU1 h1)
  refine Br_eqF e ?_
  by_cases e : op = 12
  · subst e
    obtain ⟨_, x, y, rfl, hx, hy, hxo, hye⟩ := ok12 hn
    obtain ⟨ad, qx, ix, hlt, hcc, hlx⟩ := na.ix 0 x rfl
    obtain ⟨op2, tx2, nm2, l2, a2, c2, L2, rfl, rfl, na2⟩ := hlx.some' hx
    have htx2 : tx2.length ≤ 16 := hx.tlen
    have eT : simT (.mk 12 tx nm [.mk op2 tx2 nm2 l2 a2, y] a) = (tx ++ [46] ++ tx2 ++ [32, 61, 32]) ++ exT y := by simp [simT, Nd.tx]
    rw [eT] at hk hl
    refine Br_eqT rfl (Ld_str na.c1 (Cat (by simp; omega) (Ld_sl na.c3 (ix rfl (Ld_ptr hcc ?_)))))
    simp only [Option.map_some, NilCk_some, adr_add]
    obtain ⟨ad2, qy, iy, hlt2, hcc2, hly⟩ := na.ix 1 y rfl
    refine Ld_str na2.c1 (Cat (by simp; omega) (Cat (by simp; omega) (Ld_sl na.c3 (iy rfl (Ld_ptr hcc2 ?_)))))
    refine w_we (kc (by simp)) hy hi.2.2.1 hye hly h hp hl fun H1 hU1 h1 => ?_
    have n1 := na.upd hU1
    have n2 := na2.upd hU1
    exact Stab_all (by simp only [List.mem_cons, List.not_mem_nil, or_false, forall_eq_or_imp, forall_eq]; exact ⟨n1.c3, n2.c1, hU1.cell hcc (by omega), n1.c3, n1.c1⟩) (hk H1 hU1 h1)
  refine Br_eqF e ?_
  by_cases e : op = 16
  · subst e
    obtain ⟨_, x, y, rfl, hx, hy, hxe, hye⟩ := ok16 hn
    have eT : simT (.mk 16 tx nm [x, y] a) = ([101, 109, 105, 116, 32] ++ exT x) ++ ([44, 32] ++ exT y) := by simp [simT]
    rw [eT] at hk hl
    rw [List.length_append] at hl
    obtain ⟨ad, qx, ix, hlt, hcc, hlx⟩ := na.ix 0 x rfl
    refine Br_eqT rfl (Ld_sl na.c3 (ix rfl (Ld_ptr hcc ?_)))
    refine w_we (kc (by simp)) hx hi.2.1 hxe hlx h hp (by omega) fun H1 hU1 h1 => ?_
    have n1 := na.upd hU1
    obtain ⟨ad2, qy, iy, hlt2, hcc2, hly⟩ := n1.ix 1 y rfl
    refine Ld_sl n1.c3 (iy rfl (Ld_ptr hcc2 ?_))
    refine w_we (kc (by simp)) hy hi.2.2.1 hye hly h1 (ne_app hp) (by rw [List.length_append]; omega) fun H2 hU2 h2 => hk H2 (upL hU1 hU2) ?_
    rw [← List.append_assoc]; exact h2
  refine Br_eqF e ?_
  by_cases e : op = 17
  · subst e
    exact Br_eqT rfl (w_spawn hc hn hi rfl hq0 h hp hl hk)
  refine Br_eqF e ?_
  by_cases e : op = 18
  · subst e
    obtain ⟨_, x, rfl, hx, hxo⟩ := ok18 hn
    have eT : simT (.mk 18 tx nm [x] a) = [97, 100, 100, 32] ++ partT x := by simp [simT]
    rw [eT] at hk hl
    rw [List.length_append] at hl
    refine Br_eqT rfl (s_WS h [97, 100, 100, 32] (ne_app hp) (by omega) fun _ H1 hU1 h1 => ?_)
    have n1 := na.upd hU1
    obtain ⟨ad, qx, ix, hlt, hcc, hlx⟩ := n1.ix 0 x rfl
    refine Ld_sl n1.c3 (ix rfl (Ld_ptr hcc ?_))
    refine w_part (kc (by simp)) hx hi.2.1 hxo hlx h1 (ne_app hp) (by rw [List.length_append]; omega) fun H2 hU2 h2 => hk H2 (upL hU1 hU2) ?_
    rw [← List.append_assoc]; exact h2
  refine Br_eqF e ?_
  by_cases e : op = 19
  · subst e
    have eT : simT (.mk 19 tx nm l a) = [114, 101, 109, 111, 118, 101, 32] ++ tx := by unfold simT; rfl
    rw [eT] at hk hl
    exact Br_eqT rfl (Ld_str na.c1 (Cat (by simp; omega) (s_WS h _ (ne_app hp) hl fun _ H1 hU1 h1 => Stab_1 (na.upd hU1).c1 (hk H1 hU1 h1))))
  refine Br_eqF e ?_
  by_cases e : op = 20
  · subst e
    have eT : simT (.mk 20 tx nm l a) = [100, 105, 101] := by unfold simT; rfl
    rw [eT] at hk hl
    exact Br_eqT rfl (s_WS h _ (ne_app hp) hl fun _ H1 hU1 h1 => hk H1 hU1 h1)
  refine Br_eqF e ?_
  by_cases e : op = 21
  · subst e
    have eT : simT (.mk 21 tx nm l a) = [115, 116, 111, 112] := by unfold simT; rfl
    rw [eT] at hk hl
    exact Br_eqT rfl (s_WS h _ (ne_app hp) hl fun _ H1 hU1 h1 => hk H1 hU1 h1)
  refine Br_eqF e ?_
  have e : op = 22 := by omega
  subst e
  obtain ⟨_, x, rfl, hx, hxe⟩ := ok22 hn
  have eT : simT (.mk 22 tx nm [x] a) = [114, 101, 116, 117, 114, 110, 32] ++ exT x := by simp [simT]
  rw [eT] at hk hl
  obtain ⟨ad, qx, ix, hlt, hcc, hlx⟩ := na.ix 0 x rfl
  refine Br_eqT rfl (Ld_sl na.c3 (ix rfl (Ld_ptr hcc ?_)))
  exact w_we (kc (by simp)) hx hi.2.1 hxe hlx h hp hl fun H1 hU1 h1 => hk H1 hU1 h1
end
section
open Hc Hc.Lex Hc.Syn
variable {H : Heap} {lo b tabs : Nat} {pre : Txt}
theorem WR.tab (h : WR lo H b pre tabs) (t : Nat) {k : Heap → Prop} (hk : ∀ H', Upd (lo ≤ ·) H H' → WR lo H' b pre t → k H') : St ⟨b, 2, none⟩ (.int .i64 (t : Nat)) H k := by
  obtain ⟨p, L, r1, h2, h3, h4, h5⟩ := h.w.row
  have hlb := h.w.lo
  refine St_row r1 (by simp) fun H1 hU _ hr1 => ?_
  have hU' : Upd (lo ≤ ·) H H1 := hU.mono fun x _ e => by omega
  exact hk H1 hU' (h.upd hU' ⟨⟨p, L, hr1, h2, h3.upd hU fun c hc e => (h4 c hc).2 e, h4, h5⟩, hlb⟩)
theorem WR.tabc (h : WR lo H b pre tabs) : hcell H ⟨b, 2, none⟩ = some (.int .i64 (tabs : Nat)) := by
  obtain ⟨p, L, r1, _⟩ := h.w.row
  exact (r1.cell 2).trans rfl
structure WkP (lo b m : Nat) : Prop where
  st : ∀ {n : Nd} {q : Option Nat} {H : Heap} {tabs : Nat}, cnt n ≤ m → okN n → i64N n → 10 ≤ n.op ∧ n.op ≤ 22 → LN lo H n q → Wx lo b tabs fQcu [pA b, pN q] (tabsT tabs ++ (stT tabs n ++ [10])) H
  br : ∀ {n : Nd} {q : Option Nat} {H : Heap} {tabs : Nat}, cnt n ≤ m → okN n → i64N n → n.op = 13 → LN lo H n q → Wx lo b tabs fQcw [pA b, pN q] (stT tabs n) H
  bl : ∀ {n : Nd} {q : Option Nat} {H : Heap} {tabs : Nat}, cnt n ≤ m → okN n → i64N n → n.op = 5 → LN lo H n q → Wx lo b tabs fQcm [pA b, pN q] (blkT tabs n) H
theorem stsT_drop {t : Nat} {l : List Nd} {i : Nat} {n : Nd} (h : l[i]? = some n) : stsT t (l.drop i) = tabsT t ++ (stT t n ++ [10]) ++ stsT t (l.drop (i + 1)) := by
  have hlt := (List.getElem?_eq_some_iff.1 h).1
  rw [List.drop_eq_getElem_cons hlt, show l[i] = n from (List.getElem?_eq_some_iff.1 h).2]
  simp [stsT]
section
variable {nm a : Int} {tx : Txt} {l : List Nd} {t : Nat}
theorem st13a {c d : Nd} : stT t (.mk 13 tx nm [c, d] a) = ([105, 102, 32] ++ exT c) ++ blkT t d := by simp [stT]
theorem st13b {c d e : Nd} : stT t (.mk 13 tx nm [c, d, e] a) = ([105, 102, 32] ++ exT c) ++ blkT t d ++ [32, 101, 108, 115, 101] ++ (if e.op = 13 then 32 :: stT t e else blkT t e) := by simp [stT]
theorem st14 {c d : Nd} : stT t (.mk 14 tx nm [c, d] a) = ([119, 104, 105, 108, 101, 32] ++ exT c) ++ blkT t d := by simp [stT]
theorem st15 {c d : Nd} : stT t (.mk 15 tx nm [c, d] a) = ([114, 101, 112, 101, 97, 116, 32] ++ exT c) ++ blkT t d := by simp [stT]
theorem stS {op : Int} (h1 : op ≠ 13) (h2 : op ≠ 14) (h3 : op ≠ 15) : stT t (.mk op tx nm l a) = simT (.mk op tx nm l a) ++ [59] := by unfold stT; rw [if_neg h1, if_neg h2, if_neg h3]
end
theorem wkP (lo b : Nat) : ∀ m, m ≤ 2 ^ 40 → WkP lo b m := by
  intro m
  induction m with
  | zero => exact fun _ => ⟨fun hm hn => by have := cnt_pos hn; omega, fun hm hn => by have := cnt_pos hn; omega, fun hm hn => by have := cnt_pos hn; omega⟩
  | succ m ih0 =>
  intro hm0
  have ih := ih0 (by omega)
  have hbr : ∀ {n : Nd} {q : Option Nat} {H : Heap} {tabs : Nat}, cnt n ≤ m + 1 → okN n → i64N n → n.op = 13 → LN lo H n q → Wx lo b tabs fQcw [pA b, pN q] (stT tabs n) H := by
    intro n q H tabs hm hn hi ho hq pre k h hp hl hk
    refine cQca _ _ ?_
    unfold vQca
    obtain ⟨op, tx, nm, l, a, c, L, rfl, rfl, na⟩ := hq.some' hn
    have ho : op = 13 := ho
    subst ho
    simp only [Jn, Option.map_some, NilCk_some, adr_add]
    have hcn : cnt (.mk 13 tx nm l a) = 1 + cntL l := by simp [cnt]
    have kc : ∀ {x : Nd}, x ∈ l → cnt x ≤ m := fun hx => by have := cnt_mem hx; omega
    obtain ⟨_, co, bk, hco, hcoe, hbk, hbko, hl2⟩ := ok13 hn
    have hg0 : l[0]? = some co := by rcases hl2 with rfl | ⟨_, rfl, _⟩ <;> rfl
    have hg1 : l[1]? = some bk := by rcases hl2 with rfl | ⟨_, rfl, _⟩ <;> rfl
    obtain ⟨rest, hT⟩ : ∃ rest, stT tabs (.mk 13 tx nm l a) = ([105, 102, 32] ++ exT co) ++ blkT tabs bk ++ rest := by
      rcases hl2 with rfl | ⟨_, rfl, _⟩
      · exact ⟨[], by rw [st13a, List.append_nil]⟩
      · exact ⟨_, by rw [st13b, List.append_assoc]⟩
    have hl' := hl
    rw [hT] at hl
    simp only [List.length_append] at hl
    obtain ⟨ad, qx, ix, hlt, hcc, hlx⟩ := na.ix 0 co hg0
    refine Ld_sl na.c3 (ix rfl (Ld_ptr hcc ?_))
    refine w_we (by have := kc (mem_get hg0); omega) hco (i64L_all hi.2 _ (mem_get hg0)) hcoe hlx h hp (by simp only [List.length_append]; omega) fun H1 hU1 h1 => ?_
    have n1 := na.upd hU1
    obtain ⟨ad2, qy, iy, hlt2, hcc2, hly⟩ := n1.ix 1 bk hg1
    refine Ld_sl n1.c3 (iy rfl (Ld_ptr hcc2 ?_))
    refine ih.bl (kc (mem_get hg1)) hbk (i64L_all hi.2 _ (mem_get hg1)) hbko hly h1 (ne_app hp) (by simp only [List.length_append]; omega) fun H2 hU2 h2 => ?_
    have n2 := n1.upd hU2
    refine Ld_sl n2.c3 ?_
    rcases hl2 with rfl | ⟨e, rfl, heo, heop⟩
    · refine Br_yes (by rw [na.len]; show (2 : Int) < 3; decide) (hk H2 (upL hU1 hU2) ?_)
      rw [st13a, ← List.append_assoc]; exact h2
    · refine Br_no (by rw [na.len]; show ¬ (3 : Int) < 3; decide) ?_
      rw [st13b] at hk hl'
      simp only [List.length_append, List.length_cons, List.length_nil] at hl'
      refine s_WS h2 [32, 101, 108, 115, 101] (ne_app (ne_app (ne_app hp))) (by simp only [List.length_append, List.length_cons, List.length_nil]; omega) fun _ H3 hU3 h3 => ?_
      have n3 := n2.upd hU3
      obtain ⟨ad3, qz, iz, hlt3, hcc3, hlz⟩ := n3.ix 2 e rfl
      refine Ld_sl n3.c3 (iz rfl (Ld_ptr hcc3 ?_))
      obtain ⟨op4, tx4, nm4, l4, a4, c4, L4, rfl, rfl, na4⟩ := hlz.some' heo
      simp only [Option.map_some, NilCk_some, adr_add]
      refine Ld_int na4.c0 ?_
      have hei := hi.2.2.2.1
      rcases heop with e5 | e13
      · have e5 : op4 = 5 := e5
        subst e5
        have el : (if (Nd.mk 5 tx4 nm4 l4 a4).op = 13 then 32 :: stT tabs (.mk 5 tx4 nm4 l4 a4) else blkT tabs (.mk 5 tx4 nm4 l4 a4)) = blkT tabs (.mk 5 tx4 nm4 l4 a4) := if_neg (by show ¬ (5 : Int) = 13; decide)
        rw [el] at hk hl'
        refine Br_eqF (by decide) (Ld_sl n3.c3 (iz rfl (Ld_ptr hcc3 ?_)))
        refine ih.bl (kc (by simp)) heo hei rfl hlz h3 (ne_app (ne_app (ne_app hp))) (by simp only [List.length_append, List.length_cons, List.length_nil]; omega) fun H4 hU4 h4 => hk H4 (upL (upL (upL hU1 hU2) hU3) hU4) ?_
        have et : ∀ A B C : Txt, pre ++ (([105, 102, 32] ++ A) ++ B ++ [32, 101, 108, 115, 101] ++ C) = pre ++ ([105, 102, 32] ++ A) ++ B ++ [32, 101, 108, 115, 101] ++ C := fun A B C => by simp
        rw [et]; exact h4
      · have e13 : op4 = 13 := e13
        subst e13
        have el : (if (Nd.mk 13 tx4 nm4 l4 a4).op = 13 then 32 :: stT tabs (.mk 13 tx4 nm4 l4 a4) else blkT tabs (.mk 13 tx4 nm4 l4 a4)) = 32 :: stT tabs (.mk 13 tx4 nm4 l4 a4) := if_pos rfl
        rw [el] at hk hl'
        simp only [List.length_cons] at hl'
        refine Br_eqT rfl (s_WB h3 32 rfl (by simp only [List.length_append, List.length_cons, List.length_nil]; omega) fun _ H4 hU4 h4 => ?_)
        have n4 := n3.upd hU4
        obtain ⟨ad5, qz5, iz5, hlt5, hcc5, hlz5⟩ := n4.ix 2 _ rfl
        refine Ld_sl n4.c3 (iz5 rfl (Ld_ptr hcc5 ?_))
        refine ih.br (kc (by simp)) heo hei rfl hlz5 h4 (ne_app (ne_app (ne_app (ne_app hp)))) (by simp only [List.length_append, List.length_cons, List.length_nil]; omega) fun H5 hU5 h5 => hk H5 (upL (upL (upL (upL hU1 hU2) hU3) hU4) hU5) ?_
        have et : ∀ A B C : Txt, pre ++ (([105, 102, 32] ++ A) ++ B ++ [32, 101, 108, 115, 101] ++ 32 :: C) = pre ++ ([105, 102, 32] ++ A) ++ B ++ [32, 101, 108, 115, 101] ++ [32] ++ C := fun A B C => by simp
        rw [et]; exact h5
  have hbl : ∀ {n : Nd} {q : Option Nat} {H : Heap} {tabs : Nat}, cnt n ≤ m + 1 → okN n → i64N n → n.op = 5 → LN lo H n q → Wx lo b tabs fQcm [pA b, pN q] (blkT tabs n) H := by
    intro n q H tabs hm hn hi ho hq pre k h hp hl hk
    refine cQb3 _ _ ?_
    unfold vQb3
    obtain ⟨op, tx, nm, l, a, c, L, rfl, rfl, na⟩ := hq.some' hn
    have ho : op = 5 := ho
    subst ho
    simp only [Jn, Option.map_some, NilCk_some, adr_add]
    have hcn : cnt (.mk 5 tx nm l a) = 1 + cntL l := by simp [cnt]
    have hle := len_cnt hn.2
    obtain ⟨_, hall⟩ := ok5 hn
    have eT : blkT tabs (.mk 5 tx nm l a) = [32, 123, 10] ++ stsT (tabs + 1) l ++ (tabsT tabs ++ [125]) := by simp [blkT]
    rw [eT] at hk hl
    simp only [List.length_append, List.length_cons, List.length_nil] at hl
    have htabs : tabs ≤ 2 ^ 40 := by simp [tabsT] at hl; omega
    refine s_WS h [32, 123, 10] (ne_app hp) (by simp only [List.length_cons, List.length_nil]; omega) fun _ H1 hU1 h1 => Ld_int h1.tabc ?_
    refine Lt.mk (u := ((tabs + 1 : Nat) : Int)) (by rw [wrap_i64_id] <;> omega) (h1.tab (tabs + 1) fun H2 hU2 h2 => ?_)
    have n2 := na.upd (upL hU1 hU2)
    refine Ld_sl n2.c3 ?_
    refine LoopT.ghost (fun r (i : Int) H' => ∃ (j : Nat) (pr : Txt), i = (j : Nat) ∧ j + r = l.length ∧ Upd (lo ≤ ·) H H' ∧ WR lo H' b pr (tabs + 1) ∧ pr ≠ [] ∧ pr ++ stsT (tabs + 1) (l.drop j) = pre ++ [32, 123, 10] ++ stsT (tabs + 1) l) l.length
      ⟨0, _, rfl, by omega, upL hU1 hU2, h2, ne_app hp, by simp⟩ ?_
    rintro next r i H3 ⟨j, pr, rfl, hj, hU3, h3, hpr, heq⟩ hnext
    have n3 := na.upd hU3
    have hlq := congrArg List.length heq
    simp only [List.length_append, List.length_cons, List.length_nil] at hlq
    cases r with
    | zero =>
      refine Br_no (by rw [na.len]; omega) (Ld_int h3.tabc ?_)
      have ed : l.drop j = [] := List.drop_eq_nil_of_le (by omega)
      rw [ed] at heq
      refine Lt.mk (u := ((tabs : Nat) : Int)) (by rw [wrap_i64_id] <;> omega) (h3.tab tabs fun H4 hU4 h4 => ?_)
      have et : pr = pre ++ [32, 123, 10] ++ stsT (tabs + 1) l := by simpa [stsT] using heq
      refine s_line h4 [125] (ne_app hpr) (by simp [tabsT] at hl ⊢; omega) fun H5 hU5 h5 => hk H5 (upL (upL hU3 hU4) hU5) ?_
      have e2 : pre ++ ([32, 123, 10] ++ stsT (tabs + 1) l ++ (tabsT tabs ++ [125])) = pre ++ [32, 123, 10] ++ stsT (tabs + 1) l ++ (tabsT tabs ++ [125]) := by simp
      rw [e2, ← et]; exact h5
    | succ r =>
      have hjl : j < l.length := by omega
      have hget : l[j]? = some l[j] := List.getElem?_eq_getElem hjl
      generalize l[j] = v at hget
      have hmem := mem_get hget
      obtain ⟨hvo, hvop⟩ := hall v hmem
      have hvi := i64L_all hi.2 v hmem
      have hvc := cnt_mem hmem
      obtain ⟨ad, qx, ix, hlt, hcc, hlx⟩ := n3.ix j v hget
      rw [stsT_drop hget] at heq hlq
      simp only [List.length_append] at hlq
      refine Br_yes (by rw [na.len]; omega) (ix rfl (Ld_ptr hcc ?_))
      refine ih.st (by omega) hvo hvi hvop hlx h3 hpr (by simp only [List.length_append]; omega) fun H4 hU4 h4 => ?_
      refine Lt.mk (u := ((j + 1 : Nat) : Int)) (by rw [wrap_i64_id] <;> omega) (hnext r _ _ (by omega) ⟨j + 1, _, rfl, by omega, upL hU3 hU4, h4, ne_app hpr, ?_⟩)
      rw [← heq]; simp
  refine ⟨?_, hbr, hbl⟩
  intro n q H tabs hm hn hi ho hq pre k h hp hl hk
  refine cQb9 _ _ ?_
  unfold vQb9
  obtain ⟨op, tx, nm, l, a, c, L, rfl, rfl, na⟩ := hq.some' hn
  have ho : 10 ≤ op ∧ op ≤ 22 := ho
  simp only [Jn, Option.map_some, NilCk_some, adr_add]
  have hcn : cnt (.mk op tx nm l a) = 1 + cntL l := by simp [cnt]
  have kc : ∀ {x : Nd}, x ∈ l → cnt x ≤ m := fun hx => by have := cnt_mem hx; omega
  simp only [List.length_append, List.length_cons, List.length_nil] at hl
  have htb : (tabsT tabs).length = tabs := by simp [tabsT]
  refine s_line h [] (by simpa using hp) (by simp only [List.length_nil]; omega) fun H1 hU1 h1 => ?_
  rw [List.append_nil] at h1
  have n1 := na.upd hU1
  refine Ld_int n1.c0 ?_
  -- behind the statement: the line feed
  have fin : ∀ H2, Upd (lo ≤ ·) H1 H2 → WR lo H2 b (pre ++ tabsT tabs ++ stT tabs (.mk op tx nm l a)) tabs →
      CallT Pg fQcn [.pointer (some (adr b)), .int .u8 10] (.one (.c .raw)) H2 fun (r9 : Value) H13 => k () H13 := fun H2 hU2 h2 =>
    s_WB h2 10 rfl (by simp only [List.length_append]; omega) fun _ H3 hU3 h3 => hk H3 (upL (upL hU1 hU2) hU3) (by
      have e : pre ++ (tabsT tabs ++ (stT tabs (.mk op tx nm l a) ++ [10])) = pre ++ tabsT tabs ++ stT tabs (.mk op tx nm l a) ++ [10] := by simp
      rw [e]; exact h3)
  by_cases e13 : op = 13
  · subst e13
    exact Br_eqT rfl (hbr hm hn hi rfl (hq.upd hU1) h1 (ne_app hp) (by simp only [List.length_append]; omega) fun H2 hU2 h2 => fin H2 hU2 h2)
  refine Br_eqF e13 ?_
  have two : ∀ (w : Txt) (op' : Int) (c' d : Nd) , op = op' → l = [c', d] → okN c' → isE c' → okN d → d.op = 5 → stT tabs (.mk op tx nm l a) = (w ++ exT c') ++ blkT tabs d →
      Ld .sl ⟨c, 3, none⟩ H1 fun (x2 : Sl) => IxA 1 x2 0 fun a3 => Ld .ptr a3 H1 fun (x3 : Option Addr) =>
        CallT Pg fQcx [.pointer (some (adr b)), .string ⟨⟨w⟩⟩, .pointer x3] (.tup []) H1 fun (r3 : Unit) H6 =>
        Ld .sl ⟨c, 3, none⟩ H6 fun (x4 : Sl) => IxA 1 x4 1 fun a5 => Ld .ptr a5 H6 fun (x5 : Option Addr) =>
        CallT Pg fQcm [.pointer (some (adr b)), .pointer x5] (.tup []) H6 fun (r4 : Unit) H7 =>
        CallT Pg fQcn [.pointer (some (adr b)), .int .u8 10] (.one (.c .raw)) H7 fun (r9 : Value) H13 => k () H13 := by
    intro w op' c' d e0 e1 hc' hce hd hd5 eT
    subst e1
    rw [eT] at fin hl
    simp only [List.length_append] at hl
    obtain ⟨ad, qx, ix, hlt, hcc, hlx⟩ := n1.ix 0 c' rfl
    refine Ld_sl n1.c3 (ix rfl (Ld_ptr hcc ?_))
    refine w_we (by have := kc (x := c') (by simp); omega) hc' hi.2.1 hce hlx h1 (ne_app hp) (by simp only [List.length_append]; omega) fun H2 hU2 h2 => ?_
    have n2 := n1.upd hU2
    obtain ⟨ad2, qy, iy, hlt2, hcc2, hly⟩ := n2.ix 1 d rfl
    refine Ld_sl n2.c3 (iy rfl (Ld_ptr hcc2 ?_))
    refine ih.bl (kc (by simp)) hd hi.2.2.1 hd5 hly h2 (ne_app (ne_app hp)) (by simp only [List.length_append]; omega) fun H3 hU3 h3 => fin H3 (upL hU2 hU3) ?_
    rw [← List.append_assoc]; exact h3
  by_cases e14 : op = 14
  · subst e14
    obtain ⟨_, c', d, e1, hc', hce, hd, hd5⟩ := ok14 hn
    exact Br_eqT rfl (two _ 14 c' d rfl e1 hc' hce hd hd5 (by rw [e1, st14]))
  refine Br_eqF e14 ?_
  by_cases e15 : op = 15
  · subst e15
    obtain ⟨_, c', d, e1, hc', hce, hd, hd5⟩ := ok15 hn
    exact Br_eqT rfl (two _ 15 c' d rfl e1 hc' hce hd hd5 (by rw [e1, st15]))
  refine Br_eqF e15 ?_
  have eS := stS (t := tabs) (tx := tx) (nm := nm) (l := l) (a := a) e13 e14 e15
  rw [eS] at fin hl
  simp only [List.length_append, List.length_cons, List.length_nil] at hl
  refine w_simple (by omega) hn hi ho ⟨e13, e14, e15⟩ (hq.upd hU1) h1 (ne_app hp) (by simp only [List.length_append]; omega) fun H2 hU2 h2 => ?_
  refine s_WB h2 59 rfl (by simp only [List.length_append]; omega) fun _ H3 hU3 h3 => fin H3 (upL hU2 hU3) ?_
  rw [← List.append_assoc]; exact h3
end
section
open Hc Hc.Lex Hc.Syn
variable {H : Heap} {lo b tabs : Nat} {pre : Txt}
theorem s_texts {op nm : Int} {tx : Txt} {l : List Nd} {c : Nat} {L : Sl} (na : NA lo H op tx nm l c L) (hl : okL l) (hc : cntL l ≤ 2 ^ 32) {k : ByteArray → Heap → Prop} (hk : ∀ H', Ext H H' → k ⟨⟨namesT l⟩⟩ H') :
    CallT Pg fQck [.slice L.a L.len L.cap] (.one (.c .str)) H k := by
  refine cQb1 L ?_
  unfold vQb1
  have hle := len_cnt hl
  refine LoopT.ghost (fun r (s : Sl × Int) H' => ∃ (j : Nat), s.2 = (j : Nat) ∧ j + r = l.length ∧ Ext H H' ∧ Vec H' TQae s.1 ((l.take j).map fun n => strV n.tx) ∧ ∀ x, s.1.a = some (adr x) → H.size ≤ x) l.length
    ⟨0, rfl, by omega, .refl _ _, Vec.nil _ _, fun x h => by cases h⟩ ?_
  rintro next r ⟨s, i⟩ H2 ⟨j, hj0, hj, hE2, hv2, ho2⟩ hnext
  dsimp only at hj0 hv2 ho2 ⊢
  subst hj0
  have n2 := na.upd (EL hE2)
  cases r with
  | zero =>
    refine Br_no (by rw [na.len]; omega) ?_
    rw [List.take_of_length_le (by omega)] at hv2
    have e : (l.map fun n => strV n.tx) = (l.map Nd.tx).map strV := by simp
    rw [e] at hv2
    have hlen : (comF true (l.map Nd.tx)).length ≤ 64 * cntL l := by
      have := com_len (f := Nd.tx) (g := cnt) (l := l) (fun n hn => by have := (okL_all hl n hn).tlen; have := cnt_pos (okL_all hl n hn); omega) true
      rw [sum_cnt] at this; exact this
    exact s_Join hv2 (by simp; omega) (by omega) fun H3 hE3 => hk H3 (hE2.trans hE3 fun _ _ h => h)
  | succ r =>
    have hjl : j < l.length := by omega
    have hget : l[j]? = some l[j] := List.getElem?_eq_getElem hjl
    obtain ⟨ad, qx, ix, hlt, hcc, hlx⟩ := n2.ix j _ hget
    obtain ⟨op2, tx2, nm2, l2, a2, c2, L2, he, rfl, na2⟩ := hlx.some' (okL_all hl _ (mem_get hget))
    refine Br_yes (by rw [na.len]; omega) (ix rfl (Ld_ptr hcc ?_))
    simp only [Option.map_some, NilCk_some, adr_add]
    refine Ld_str na2.c1 (Nw_row (vs := [strV tx2]) fun b3 H3 hb3 hE3 _ hr3 => ?_)
    have hs2 := hE2.size
    refine App_vec2 (ws := [strV tx2]) (hv2.upd hE3 fun _ _ h => h) hr3.rd_all rfl (fun w hw => by rw [List.mem_singleton.1 hw]; rfl) (by decide) (by simp only [List.length_map, List.length_take, List.length_singleton]; omega) fun L4 H4 hv4 hU4 ha4 _ => ?_
    have hE4 : Ext H H4 := (hE2.trans hE3 fun _ _ h => h).trans hU4 fun x hx e => by have := ho2 x e.1; omega
    refine Lt.mk (u := ((j + 1 : Nat) : Int)) (by rw [wrap_i64_id] <;> omega) (hnext r _ _ (by omega) ⟨j + 1, rfl, by omega, hE4, ?_, fun x hx => ?_⟩)
    · have e : (l.take (j + 1)).map (fun n => strV n.tx) = (l.take j).map (fun n => strV n.tx) ++ [strV tx2] := by
        rw [List.take_add_one, hget, List.map_append, he]; rfl
      rw [e]; exact hv4
    · rcases ha4 with ⟨e, _⟩ | e
      · exact ho2 x (e.symm.trans hx)
      · rw [hx] at e
        have : x = H3.size := by simpa [adr] using e
        have := hE3.size
        omega
theorem w_thing {n : Nd} {q : Option Nat} (hc : cnt n ≤ 2 ^ 31) (hn : okN n) (hi : i64N n) (ho : n.op = 2 ∨ n.op = 4) (hq : LN lo H n q) {k : Unit → Heap → Prop} (h : WR lo H b pre 0) (hl : pre.length + (thingT n).length ≤ 2 ^ 40) (hk : ∀ H', Upd (lo ≤ ·) H H' → WR lo H' b (pre ++ thingT n) 0 → k () H') :
    CallT Pg fQcd [pA b, pN q] (.tup []) H k := by
  refine cQbv _ _ ?_
  unfold vQbv
  obtain ⟨op, tx, nm, l, a, c, L, rfl, rfl, na⟩ := hq.some' hn
  have ho : op = 2 ∨ op = 4 := ho
  simp only [Option.map_some, NilCk_some, adr_add]
  have hcn : cnt (.mk op tx nm l a) = 1 + cntL l := by simp [cnt]
  have htl : tx.length ≤ 16 := hn.tlen
  have hle := len_cnt hn.2
  refine Ld_int na.c0 ?_
  -- the head; then the block
  refine Jn.mk (fun _ H' => ∃ hd bk, Upd (lo ≤ ·) H H' ∧ WR lo H' b (pre ++ hd) 0 ∧ hd ≠ [] ∧ thingT (.mk op tx nm l a) = hd ++ (blkT 0 bk ++ [10]) ∧ okN bk ∧ bk.op = 5 ∧ l[l.length - 1]? = some bk ∧ 1 ≤ l.length) (fun kk hkk => ?_) ?_
  · rcases ho with e | e
    · subst e
      refine Br_eqF (by decide) ?_
      obtain ⟨_, c1, c2, c3, c4, bk, rfl, hcl, _, hb, hb5⟩ := ok2 hn
      have eT : thingT (.mk 2 tx nm [c1, c2, c3, c4, bk] a) = ([115, 121, 115, 116, 101, 109, 32] ++ (tx ++ [c1, c2, c3, c4].flatMap clauseT)) ++ (blkT 0 bk ++ [10]) := by
        rw [thingT, if_neg (by decide)]; rfl
      rw [eT] at hl
      simp only [List.length_append, List.length_cons, List.length_nil] at hl
      refine Ld_str na.c1 (Cat (by simp; omega) (s_line h _ (by simp) (by simp only [List.length_append, List.length_cons, List.length_nil]; omega) fun H1 hU1 h1 => ?_))
      have n1 := na.upd hU1
      refine Ld_sl n1.c3 ?_
      have hcap := na.cap
      have hlen := na.len
      simp only [List.length_cons, List.length_nil] at hlen
      refine SlA0 (by decide) (by omega) (by omega) ?_
      refine LoopT.ghost (fun r (i : Int) H' => ∃ (j : Nat) (pr : Txt), i = (j : Nat) ∧ j + r = 4 ∧ Upd (lo ≤ ·) H H' ∧ WR lo H' b pr 0 ∧ pr ≠ [] ∧ pr ++ ([c1, c2, c3, c4].drop j).flatMap clauseT = pre ++ (tabsT 0 ++ ([115, 121, 115, 116, 101, 109, 32] ++ tx)) ++ [c1, c2, c3, c4].flatMap clauseT) 4
        ⟨0, _, rfl, rfl, hU1, h1, by simp, by simp⟩ ?_
      rintro next r i H2 ⟨j, pr, rfl, hj, hU2, h2, hpr, heq⟩ hnext
      have n2 := na.upd hU2
      have hlq := congrArg List.length heq
      simp only [List.length_append, List.length_cons, List.length_nil, tabsT, List.length_replicate] at hlq
      cases r with
      | zero =>
        have hj4 : j = 4 := by omega
        subst hj4
        refine Br_no (by show ¬ ((4 : Nat) : Int) < ((4 : Int).toNat : Int); decide) (hkk _ _ ⟨_, bk, hU2, ?_, by simp, eT, hb, hb5, rfl, by simp⟩)
        have et : pr = pre ++ ([115, 121, 115, 116, 101, 109, 32] ++ (tx ++ [c1, c2, c3, c4].flatMap clauseT)) := by simpa [tabsT] using heq
        rw [← et]; exact h2
      | succ r =>
        have hj4 : j < [c1, c2, c3, c4].length := by simp; omega
        have hget4 : [c1, c2, c3, c4][j]? = some [c1, c2, c3, c4][j] := List.getElem?_eq_getElem hj4
        have hdrop : [c1, c2, c3, c4].drop j = [c1, c2, c3, c4][j] :: [c1, c2, c3, c4].drop (j + 1) := List.drop_eq_getElem_cons hj4
        have hget : [c1, c2, c3, c4, bk][j]? = some [c1, c2, c3, c4][j] := by
          have : [c1, c2, c3, c4, bk] = [c1, c2, c3, c4] ++ [bk] := rfl
          rw [this, List.getElem?_append_left hj4]; exact hget4
        generalize [c1, c2, c3, c4][j] = v at hget hget4 hdrop
        obtain ⟨hvo, hvop⟩ := hcl v (mem_get hget4)
        have hvc := cnt_mem (mem_get hget)
        obtain ⟨ad, qx, ix, hlt, hcc, hlx⟩ := n2.ix j v hget
        rw [hdrop, List.flatMap_cons] at heq hlq
        simp only [List.length_append] at hlq
        have ix' : ∀ {k : Addr → Prop}, k ad → IxA 1 ⟨L.a, (4 : Int).toNat, (L.cap : Int).toNat⟩ (j : Int) k := fun {k} hk => by
          obtain ⟨x, hx, g0, g1, g2⟩ := ix (k := (· = ad)) rfl rfl
          exact IxA.mk hx (by omega) (by show (j : Int) < ((4 : Int).toNat : Nat); simp at hj4; omega) (g2 ▸ hk)
        refine Br_yes (by show (j : Int) < ((4 : Int).toNat : Nat); simp at hj4; omega) ?_
        simp only [Jn]
        refine ix' (Ld_ptr hcc ?_)
        obtain ⟨op2, tx2, nm2, l2, a2, cc2, L2, rfl, rfl, na2⟩ := hlx.some' hvo
        have hvop : op2 = 3 := hvop
        subst hvop
        have htx2 : tx2.length ≤ 16 := hvo.tlen
        simp only [Option.map_some, NilCk_some, adr_add]
        have nx : ∀ H3, Upd (lo ≤ ·) H2 H3 → WR lo H3 b (pr ++ clauseT (.mk 3 tx2 nm2 l2 a2)) 0 → Lt (IntKind.wrap .i64 ((j : Int) + 1)) fun t1 => next t1 H3 := fun H3 hU3 h3 => by
          refine Lt.mk (u := ((j + 1 : Nat) : Int)) (by rw [wrap_i64_id] <;> omega) (hnext r _ _ (by omega) ⟨j + 1, _, rfl, by omega, upL hU2 hU3, h3, ne_app hpr, ?_⟩)
          rw [← heq]; simp
        refine Ld_sl na2.c3 ?_
        by_cases hl20 : l2.length = 0
        · have e : l2 = [] := List.eq_nil_of_length_eq_zero hl20
          subst e
          refine Br_no (by rw [na2.len]; simp) (nx H2 (.refl _ _) ?_)
          have : clauseT (.mk 3 tx2 nm2 [] a2) = [] := by simp [clauseT]
          rw [this, List.append_nil]; exact h2
        · have eC : clauseT (.mk 3 tx2 nm2 l2 a2) = [32] ++ tx2 ++ [32] ++ namesT l2 := by
            have : l2.isEmpty = false := by cases l2 with
              | nil => simp at hl20
              | cons => rfl
            simp [clauseT, this]
          rw [eC] at hlq nx
          simp only [List.length_append, List.length_cons, List.length_nil] at hlq
          simp only [cnt, cntL] at hvc hc
          refine Br_yes (by rw [na2.len]; omega) (Ld_str na2.c1 (Cat (by simp; omega) (Cat (by simp; omega) (Ld_sl na2.c3 ?_))))
          refine s_texts na2 hvo.2 (by omega) fun H3 hE3 => ?_
          have n3 := na2.upd (EL hE3)
          refine Stab_1 n3.c1 (Cat (by simp; omega) (s_WS (h2.ext hE3) _ (ne_app hpr) (by simp only [List.length_append, List.length_cons, List.length_nil]; omega) fun _ H4 hU4 h4 => ?_))
          have n4 := n3.upd hU4
          exact Stab_2 n4.c3 n4.c1 (nx H4 (upL (EL hE3) hU4) h4)
    · subst e
      obtain ⟨_, cl, bk, rfl, hcl, hclo, _, hb, hb5⟩ := ok4 hn
      obtain ⟨ad, qx, ix, hlt, hcc, hlx⟩ := na.ix 0 cl rfl
      obtain ⟨op2, tx2, nm2, l2, a2, cc2, L2, rfl, rfl, na2⟩ := hlx.some' hcl
      have eT : thingT (.mk 4 tx nm [.mk op2 tx2 nm2 l2 a2, bk] a) = ([102, 117, 110, 99, 32] ++ tx ++ [40] ++ namesT l2 ++ [41]) ++ (blkT 0 bk ++ [10]) := by
        rw [thingT, if_pos rfl]; simp [Nd.ks]
      rw [eT] at hl
      simp only [List.length_append, List.length_cons, List.length_nil] at hl
      simp only [cnt, cntL] at hc
      refine Br_eqT rfl (Ld_str na.c1 (Cat (by simp; omega) (Cat (by simp; omega) (Ld_sl na.c3 (ix rfl (Ld_ptr hcc ?_))))))
      simp only [Option.map_some, NilCk_some, adr_add]
      refine Ld_sl na2.c3 (s_texts na2 hcl.2 (by omega) fun H1 hE1 => ?_)
      have n1 := na.upd (EL hE1)
      have n21 := na2.upd (EL hE1)
      have hcc1 : hcell H1 ad = some (ptrV (some cc2)) := (EL (lo := lo) hE1).cell hcc (by omega)
      refine Stab_all (by simp only [List.mem_cons, List.not_mem_nil, or_false, forall_eq_or_imp, forall_eq]; exact ⟨hcc1, n1.c3, n1.c1⟩) (Cat (by simp only [List.length_append, List.length_cons, List.length_nil]; omega) (Cat (by simp only [List.length_append, List.length_cons, List.length_nil]; omega) ?_))
      refine s_line (h.ext hE1) _ (by simp) (by simp only [List.length_append, List.length_cons, List.length_nil]; omega) fun H2 hU2 h2 => ?_
      have n2 := n1.upd hU2
      have n22 := n21.upd hU2
      exact Stab_all (by simp only [List.mem_cons, List.not_mem_nil, or_false, forall_eq_or_imp, forall_eq]; exact ⟨n22.c3, hU2.cell hcc1 (by omega), n2.c3, n2.c1⟩) (hkk _ _ ⟨_, bk, upL (EL hE1) hU2, by simpa [tabsT] using h2, by simp, eT, hb, hb5, rfl, by simp⟩)
  · rintro _ H1 ⟨hd, bk, hU1, h1, hhd, eT, hbk, hbk5, hget, hl1⟩
    have n1 := na.upd hU1
    rw [eT] at hl hk
    simp only [List.length_append, List.length_cons, List.length_nil] at hl
    refine Ld_sl n1.c3 (Ld_sl n1.c3 (Lt.mk (u := ((l.length - 1 : Nat) : Int)) (by rw [na.len, wrap_i64_id] <;> omega) ?_))
    obtain ⟨ad, qx, ix, hlt, hcc, hlx⟩ := n1.ix _ bk hget
    refine ix rfl (Ld_ptr hcc ?_)
    have hmem := mem_get hget
    have := cnt_mem hmem
    refine (wkP lo b (2 ^ 40) (Nat.le_refl _)).bl (by omega) hbk (i64L_all hi.2 _ hmem) hbk5 hlx h1 (by simp [hhd]) (by simp only [List.length_append]; omega) fun H2 hU2 h2 => ?_
    have n2 := n1.upd hU2
    refine Stab_2 n2.c3 n2.c3 (s_WB h2 10 rfl (by simp only [List.length_append]; omega) fun _ H3 hU3 h3 => hk H3 (upL (upL hU1 hU2) hU3) ?_)
    have e : pre ++ (hd ++ (blkT 0 bk ++ [10])) = pre ++ hd ++ blkT 0 bk ++ [10] := by simp
    rw [e]; exact h3
end
end Go.Proofs.YtfpmgpblhhcpgaaGreatDoor
