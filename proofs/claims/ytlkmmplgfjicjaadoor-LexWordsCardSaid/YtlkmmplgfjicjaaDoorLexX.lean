/-
  LexWords: the law.
-/
import Derived.Test.YtlkmmplgfjicjaaDoorLexW
namespace Go.Proofs.YtlkmmplgfjicjaaDoor
set_option linter.unusedVariables false
set_option linter.unusedSimpArgs false
open Go.Proofs.YtlkmmplgfjicjaaDoor.Hc Go.Proofs.YtlkmmplgfjicjaaDoor.Hc.Lex
set_option maxRecDepth 100000
variable {H : Heap}

theorem rep_step (ws : List Bs) (x : Bs) {i : Nat} (hi : i < ws.length) : ((List.replicate i x ++ ws.drop i).map sV).set i (sV x) = (List.replicate (i + 1) x ++ ws.drop (i + 1)).map sV := by
  rw [← List.map_set, List.set_append_right _ _ (by simp), List.length_replicate, Nat.sub_self, List.drop_eq_getElem_cons hi, List.set_cons_zero, List.replicate_succ']
  simp
theorem Br_no' {b : Bool} {X Y : Prop} (h : b = false) (hy : Y) : Br b X Y := by subst h; exact hy
theorem Vec.ne' {T T' : TypeId} {s t : Sl} {vs ws : List Value} (h : Vec H T s vs) (h' : Vec H T' t ws) (ht : T ≠ T') {b : Nat} (hb : s.a = some (adr b)) (hb' : t.a = some (adr b)) : False := by
  rcases h'.own with ⟨g1, _⟩ | ⟨c, sp, g1, g2, _⟩
  · rw [g1] at hb'; cases hb'
  · rw [g1] at hb'; cases hb'; exact h.ne hb g2 ht rfl
theorem wl : wordsL.length = 26 := rfl
/-- Where the law stands. -/
structure WS (H0 H6 H : Heap) (bw : Nat) (want : Sl) (b1 : Nat) (cm : List Sl) (ck : Nat → Nat) (n : Nat) (long : Sl) (longs : List Sl) : Prop where
  cl : cm.length = 3
  row : Row H b1 T_Sl_string (cm.map slV)
  wv : Vec H T_string want (wordsL.map sV)
  wa : want.a = some (adr bw)
  ca : ∀ k (h : k < cm.length), cm[k].a = some (adr (ck k))
  cv : ∀ k (h : k < cm.length), n ≤ k → Vec H T_string cm[k] (wordsL.map sV)
  ckl : ∀ k, k < 3 → H0.size ≤ ck k ∧ bw < ck k ∧ ck k < b1
  cki : ∀ j k, j < k → k < 3 → ck j < ck k
  b6 : b1 < H6.size
  bw0 : H0.size ≤ bw
  lv : Vec H T_Sl_string long (longs.map slV)
  ll : longs.length = n
  lb : ∀ b, long.a = some (adr b) → H6.size ≤ b
  lr : ∀ j (h : j < longs.length), ∃ len, len ≤ 200 ∧ Vec H T_string longs[j] ((List.replicate len (lab j)).map sV)
  la : ∀ j (h : j < longs.length) b, longs[j].a = some (adr b) → b = ck j ∨ H6.size ≤ b
  ex : Ext H0 H
  e6 : H6.size ≤ H.size
theorem WS.ext {H0 H6 H' : Heap} {bw : Nat} {want : Sl} {b1 : Nat} {cm : List Sl} {ck : Nat → Nat} {n : Nat} {long : Sl} {longs : List Sl} (h : WS H0 H6 H bw want b1 cm ck n long longs) (hE : Ext H H') : WS H0 H6 H' bw want b1 cm ck n long longs :=
  { cl := h.cl, row := hE.row h.row fun h => h, wv := h.wv.upd hE fun _ _ h => h, wa := h.wa, ca := h.ca, cv := fun k hk hn => (h.cv k hk hn).upd hE fun _ _ h => h, ckl := h.ckl, cki := h.cki, b6 := h.b6, bw0 := h.bw0, lv := h.lv.upd hE fun _ _ h => h, ll := h.ll, lb := h.lb,
    lr := fun j hj => let ⟨len, h1, h2⟩ := h.lr j hj; ⟨len, h1, h2.upd hE fun _ _ h => h⟩, la := h.la, ex := h.ex.trans hE fun _ _ h => h, e6 := Nat.le_trans h.e6 hE.size }
theorem w_Words {c : Int} (hg : GE H.size H) (ht : TabH H) (hc : I64 c) : CallT Pg f_hindcastlaw09_LexWords [.int .i64 c] (.one (.c .bool)) H fun b H' => b = true ∧ Ext H H' := by
  refine c_hindcastlaw09_LexWords _ ?_
  unfold v_hindcastlaw09_LexWords
  refine s_shown hg fun H1 hE1 => s_rWords fun want H2 hvw hE2 haw hz2 => ?_
  have ht2 := (ht.ext hE1).ext hE2
  refine s_Words ht2 fun r3 H3 hv3 hE3 ha3 hz3 => s_Words (ht2.ext hE3) fun r4 H4 hv4 hE4 ha4 hz4 => s_Words ((ht2.ext hE3).ext hE4) fun r5 H5 hv5 hE5 ha5 hz5 => ?_
  refine Nw_row (vs := [r3, r4, r5].map slV) fun b1 H6 hb1 hE6 hz6 hr6 => ?_
  have z1 := hE1.size
  have hlw : want.len = 26 := hvw.len
  have up : ∀ {Ha Hb : Heap} {s : Sl} {vs : List Value}, Ext Ha Hb → Vec Ha T_string s vs → Vec Hb T_string s vs := fun hE hv => hv.upd hE fun _ _ h => h
  have h0 : WS H H6 H6 H1.size want b1 [r3, r4, r5] (fun k => match k with | 0 => H2.size | 1 => H3.size | _ => H4.size) 0 ⟨none, 0, 0⟩ [] :=
    { cl := rfl, row := hr6, wv := up hE6 (up hE5 (up hE4 (up hE3 hvw))), wa := haw
      ca := fun k hk => by
        match k, hk with
        | 0, _ => exact ha3
        | 1, _ => exact ha4
        | 2, _ => exact ha5
      cv := fun k hk _ => by
        match k, hk with
        | 0, _ => exact up hE6 (up hE5 (up hE4 hv3))
        | 1, _ => exact up hE6 (up hE5 hv4)
        | 2, _ => exact up hE6 hv5
      ckl := fun k hk => by
        match k, hk with
        | 0, _ => exact (show H.size ≤ H2.size ∧ H1.size < H2.size ∧ H2.size < b1 from ⟨by omega, by omega, by omega⟩)
        | 1, _ => exact (show H.size ≤ H3.size ∧ H1.size < H3.size ∧ H3.size < b1 from ⟨by omega, by omega, by omega⟩)
        | 2, _ => exact (show H.size ≤ H4.size ∧ H1.size < H4.size ∧ H4.size < b1 from ⟨by omega, by omega, by omega⟩)
      cki := fun j k hjk hk => by
        match j, k, hjk, hk with
        | 0, 1, _, _ => exact hz3
        | 0, 2, _, _ => exact (show H2.size < H4.size by omega)
        | 1, 2, _, _ => exact hz4
        | j + 2, k, h1, h2 => exact absurd h2 (by omega)
      b6 := by omega
      bw0 := z1
      lv := .nil _ _, ll := rfl, lb := (fun b hb => by cases hb), lr := (fun j hj => by cases hj), la := (fun j hj => by cases hj)
      ex := ((((hE1.trans hE2 fun _ _ h => h).trans hE3 fun _ _ h => h).trans hE4 fun _ _ h => h).trans hE5 fun _ _ h => h).trans hE6 fun _ _ h => h
      e6 := Nat.le_refl _ }
  generalize hcm : [r3, r4, r5] = cm at h0
  generalize (fun k => match k with | 0 => H2.size | 1 => H3.size | _ => H4.size : Nat → Nat) = ck at h0
  generalize H1.size = bw at h0
  -- the array of what came
  have came : ∀ {Ha : Heap} {n : Nat} {long : Sl} {longs : List Sl}, WS H H6 Ha bw want b1 cm ck n long longs → ∀ (j : Nat) (hj : j < cm.length) {k : Addr → Prop}, (∀ a, hcell Ha a = some (slV cm[j]) → k a) → IxA 1 ⟨some (adr b1), 3, 3⟩ (j : Nat) k := by
    intro Ha n long longs h j hj k hk
    have hv : Vec Ha T_Sl_string ⟨some (adr b1), 3, 3⟩ (cm.map slV) := ⟨by rw [List.length_map, h.cl], .inr ⟨b1, [], rfl, by simpa using h.row, by rw [List.length_map, h.cl]; simp⟩, Nat.le_refl _⟩
    exact IxA_rl (f := slV) hv.rl rfl hj hk
  refine LoopT.mk (fun (st : Sl × Int) H7 => ∃ (n : Nat) (longs : List Sl), st.2 = n ∧ n ≤ 3 ∧ WS H H6 H7 bw want b1 cm ck n st.1 longs) (fun st _ => 3 - st.2.toNat) ⟨0, [], rfl, by omega, h0⟩ ?_
  rintro next ⟨long, _⟩ H7 ⟨n, longs, rfl, hn, hW⟩ hnext
  dsimp only at hW ⊢
  have hcl := hW.cl
  refine Br_dec (fun hlt => ?_) fun hge => ?_
  · have hn3 : n < 3 := by omega
    refine LoopT.mk (fun i H8 => H7 = H8 ∧ ∃ j : Nat, i = j ∧ n ≤ j ∧ j ≤ 3) (fun i _ => 3 - i.toNat) ⟨rfl, n, rfl, Nat.le_refl _, by omega⟩ ?_
    rintro next2 _ _ ⟨rfl, j, rfl, hnj, hj⟩ hnext2
    refine Br_dec (fun hlt2 => ?_) fun hge2 => ?_
    · have hj3 : j < cm.length := by omega
      have hcv := hW.cv j hj3 hnj
      refine came hW j hj3 fun a1 h1 => Ld_sl (s := cm[j]) h1 ?_
      rw [show cm[j].len = 26 from hcv.len, hlw]
      refine Br_no' ?_ ?_
      · decide
      refine LoopT.mk (fun i H9 => H7 = H9 ∧ ∃ q : Nat, i = q ∧ q ≤ 26) (fun i _ => 26 - i.toNat) ⟨rfl, 0, rfl, by omega⟩ ?_
      rintro next3 _ _ ⟨rfl, q, rfl, hq⟩ hnext3
      refine Br_dec (fun hlt3 => ?_) fun hge3 => ?_
      · have hq2 : q < wordsL.length := by rw [wl]; omega
        refine came hW j hj3 fun a2 h2 => Ld_sl (s := cm[j]) h2 (IxA_rl (f := sV) hcv.rl rfl hq2 fun a3 h3 => Ld_str h3 (IxA_rl (f := sV) hW.wv.rl rfl hq2 fun a4 h4 => Ld_str h4 ?_))
        rw [beq_self_eq_true, Bool.not_true, Br_false]
        exact Lt.mk (u := ((q + 1 : Nat) : Int)) (by rw [wrap_i64_id] <;> omega) (hnext3 _ _ ⟨rfl, q + 1, rfl, by omega⟩ (by omega))
      · exact Lt.mk (u := ((j + 1 : Nat) : Int)) (by rw [wrap_i64_id] <;> omega) (hnext2 _ _ ⟨rfl, j + 1, rfl, by omega, by omega⟩ (by omega))
    · have hnl : n < cm.length := by omega
      refine came hW n hnl fun a5 h5 => Ld_sl (s := cm[n]) h5 (Nw_row (vs := [sV [111, 110, 101], sV [116, 119, 111], sV [116, 104, 114, 101, 101]]) fun b2 H10 hb2 hE10 hz10 hr10 => ?_)
      refine IxA_adr (by omega) (by omega) ?_
      rw [Int.toNat_natCast, Nat.mul_one]
      refine Ld_str (lab_cell hr10 hn3) ?_
      have hW10 := hW.ext hE10
      have hcv := hW10.cv n hnl (Nat.le_refl _)
      have hca := hW10.ca n hnl
      have e610 := hW10.e6
      -- all its words are written over
      refine LoopT.mk (fun i H11 => ∃ q : Nat, i = q ∧ q ≤ 26 ∧ Vec H11 T_string cm[n] ((List.replicate q (lab n) ++ wordsL.drop q).map sV) ∧ Upd (fun b => b = ck n) H10 H11) (fun i _ => 26 - i.toNat) ⟨0, rfl, by omega, by simpa using hcv, .refl _ _⟩ ?_
      rintro next4 _ H11 ⟨q, rfl, hq, hv11, hU11⟩ hnext4
      refine Br_dec (fun hlt4 => ?_) fun hge4 => ?_
      · rw [show cm[n].len = 26 from hcv.len] at hlt4
        have hq2 : q < wordsL.length := by rw [wl]; omega
        refine IxA_St_vec' hv11 rfl (by simp; omega) fun H12 hv12 hU12 _ => ?_
        rw [rep_step _ _ hq2] at hv12
        exact Lt.mk (u := ((q + 1 : Nat) : Int)) (by rw [wrap_i64_id] <;> omega) (hnext4 _ _ ⟨q + 1, rfl, by omega, hv12, hU11.trans hU12 fun b _ e => by rw [hca] at e; cases e; rfl⟩ (by omega))
      · rw [show cm[n].len = 26 from hcv.len] at hge4
        have hq26 : q = 26 := by omega
        subst hq26
        rw [List.drop_eq_nil_of_le (by rw [wl]; omega), List.append_nil] at hv11
        have z11 := hU11.size
        -- and more appended
        refine LoopT.mk (fun (st : Sl × Int) H13 => ∃ q : Nat, st.2 = q ∧ q ≤ 70 ∧ Vec H13 T_string st.1 ((List.replicate (26 + q) (lab n)).map sV) ∧ (st.1.a = some (adr (ck n)) ∨ ∀ b, st.1.a = some (adr b) → H6.size ≤ b ∧ H10.size ≤ b) ∧ Upd (fun b => b = ck n) H10 H13) (fun st _ => 70 - st.2.toNat)
          ⟨0, rfl, by omega, hv11, .inl hca, hU11⟩ ?_
        rintro next5 ⟨l, _⟩ H13 ⟨q, rfl, hq70, hv13, hla13, hU13⟩ hnext5
        dsimp only at hv13 hla13 ⊢
        have z13 := hU13.size
        refine Br_dec (fun hlt5 => ?_) fun hge5 => ?_
        · refine Nw_row (vs := [sV (lab n)]) fun b3 H14 hb3 hE14 hz14 hr14 => ?_
          have hv14 := hv13.upd hE14 fun _ _ h => h
          refine App_one hv14 hr14.rd_all rfl (by simp [Value.oneCell']) (by decide) (by simp; omega) fun l1 H15 hv15 hl15 hc15 => ?_
          have z14 := hE14.size
          refine Lt.mk (u := ((q + 1 : Nat) : Int)) (by rw [wrap_i64_id] <;> omega) (hnext5 _ _ ⟨q + 1, rfl, by omega, ?_, ?_, ?_⟩ (by dsimp only; omega))
          · rw [show 26 + (q + 1) = 26 + q + 1 by omega, List.replicate_succ', List.map_append]; exact hv15
          · rcases hc15 with ⟨b, cs, e1, e2, _⟩ | ⟨e1, _⟩
            · dsimp only; rw [e2, ← e1]; exact hla13
            · refine .inr fun b hb => ?_
              dsimp only at hb
              rw [e1] at hb; cases hb
              omega
          · refine (hU13.ext hE14).trans ?_ (M2 := fun b => b = ck n ∨ H10.size ≤ b) fun b hb e => by rcases e with e | e; exact e; omega
            rcases hc15 with ⟨b, cs, e1, e2, e3, e4, e5, _⟩ | ⟨_, e2, _⟩
            · refine e5.mono fun b' _ e => ?_
              subst e
              rcases hla13 with e | e
              · rw [e1] at e; cases e; exact .inl rfl
              · exact .inr (e _ e1).2
            · exact e2.mono fun _ _ h => h.elim
        · have hq70' : q = 70 := by omega
          subst hq70'
          refine Nw_row (vs := [slV l]) fun b4 H16 hb4 hE16 hz16 hr16 => ?_
          have z16 := hE16.size
          have hckn := hW10.ckl n hn3
          have hb6 := hW10.b6
          have hU16 := hU13.ext hE16
          -- the list of lists, untouched so far
          have lne : ∀ b, long.a = some (adr b) → ¬ b = ck n := fun b hb e => by
            have h1 := hW10.lb b hb
            omega
          have hlv16 : Vec H16 T_Sl_string long (longs.map slV) := hW10.lv.upd hU16 lne
          have hll := hW10.ll
          refine App_one hlv16 hr16.rd_all rfl (by simp [Value.oneCell']) (by decide) (by simp; omega) fun l2 H17 hv17 hl17 hc17 => ?_
          have hUl : Upd (fun b => ∃ x, long.a = some (adr x) ∧ b = x) H16 H17 := by
            rcases hc17 with ⟨b, cs, e1, _, _, _, e5, _⟩ | ⟨_, e2, _⟩
            · exact e5.mono fun b' _ e => ⟨b, e1, e⟩
            · exact e2.mono fun _ _ h => h.elim
          have hU17 : Upd (fun b => b = ck n ∨ H6.size ≤ b) H10 H17 := (hU16.mono fun _ _ e => .inl e).trans hUl fun b _ ⟨x, hx, e⟩ => .inr (e ▸ hW10.lb x hx)
          have z17 := hUl.size
          have keep : ∀ b, b ≠ ck n → b < H6.size → ¬ (b = ck n ∨ H6.size ≤ b) := fun b h1 h2 => by omega
          refine Lt.mk (u := ((n + 1 : Nat) : Int)) (by rw [wrap_i64_id] <;> omega) (hnext _ _ ⟨n + 1, longs ++ [l], rfl, by omega, ?_⟩ (by dsimp only; omega))
          have hbw := (hW10.ckl n hn3).2.1
          refine { cl := hcl, row := hU17.row hW10.row (keep _ (by omega) hb6), wv := hW10.wv.upd hU17 fun b hb => ?_, wa := hW10.wa, ca := hW10.ca, cv := fun k hk hnk => (hW10.cv k hk (by omega)).upd hU17 fun b hb => ?_, ckl := hW10.ckl, cki := hW10.cki, b6 := hb6, bw0 := hW10.bw0,
                   lv := by rw [List.map_append]; exact hv17, ll := by rw [List.length_append, hll]; rfl, lb := fun b hb => ?_, lr := fun j hj => ?_, la := fun j hj b hb => ?_, ex := hW10.ex.trans hU17 fun b hb e => ?_, e6 := by omega }
          · rw [hW10.wa] at hb; cases hb
            exact keep _ (by omega) (by omega)
          · rw [hW10.ca k hk] at hb; cases hb
            have h1 := hW10.cki n k (by omega) (by omega)
            have h2 := (hW10.ckl k (by omega)).2.2
            exact keep _ (by omega) (by omega)
          · rcases hc17 with ⟨b', cs, e1, e2, _⟩ | ⟨e1, _⟩
            · rw [e2] at hb; cases hb; exact hW10.lb _ e1
            · rw [e1] at hb; cases hb; omega
          · rw [List.length_append, List.length_singleton, hll] at hj
            by_cases e : j < longs.length
            · rw [List.getElem_append_left e]
              obtain ⟨len, h1, h2⟩ := hW10.lr j e
              have h3 := h2.upd hU16 fun b hb => by
                rcases hW10.la j e b hb with h | h
                · have := hW10.cki j n (by omega) hn3; omega
                · omega
              refine ⟨len, h1, h3.upd hUl fun b hb ⟨x, hx, e2⟩ => ?_⟩
              subst e2
              exact Vec.ne' h3 hlv16 (by decide) hb hx
            · have : j = n := by omega
              subst this
              rw [List.getElem_append_right (by omega)]
              simp only [hll, Nat.sub_self, List.getElem_singleton]
              have h3 := hv13.upd hE16 fun _ _ h => h
              refine ⟨96, by omega, h3.upd hUl fun b hb ⟨x, hx, e2⟩ => ?_⟩
              subst e2
              exact Vec.ne' h3 hlv16 (by decide) hb hx
          · rw [List.length_append, List.length_singleton, hll] at hj
            by_cases e : j < longs.length
            · rw [List.getElem_append_left e] at hb
              exact hW10.la j e b hb
            · have : j = n := by omega
              subst this
              rw [List.getElem_append_right (by omega)] at hb
              simp only [hll, Nat.sub_self, List.getElem_singleton] at hb
              rcases hla13 with e2 | e2
              · rw [e2] at hb; cases hb; exact .inl rfl
              · exact .inr (e2 b hb).1
          · rcases e with e | e
            · have := hckn.1; omega
            · have := hW10.b6; have := hckn.1; omega
  · have hn3 : n = 3 := by omega
    subst hn3
    have hll := hW.ll
    refine LoopT.mk (fun i H18 => Ext H7 H18 ∧ ∃ j : Nat, i = j ∧ j ≤ 3) (fun i _ => 3 - i.toNat) ⟨.refl _ _, 0, rfl, by omega⟩ ?_
    rintro next6 _ H18 ⟨hE18, j, rfl, hj⟩ hnext6
    have hW18 := hW.ext hE18
    refine Br_dec (fun hlt6 => ?_) fun hge6 => ?_
    · have hj3 : j < longs.length := by omega
      obtain ⟨len, hlen, hvj⟩ := hW18.lr j hj3
      have hlj : longs[j].len = len := by have := hvj.len; simpa using this
      refine LoopT.mk (fun i H19 => Ext H18 H19 ∧ ∃ q : Nat, i = q ∧ q ≤ len) (fun i _ => len - i.toNat) ⟨.refl _ _, 0, rfl, by omega⟩ ?_
      rintro next7 _ H19 ⟨hE19, q, rfl, hq⟩ hnext7
      have hW19 := hW18.ext hE19
      have hv19 := hvj.upd hE19 fun _ _ h => h
      refine IxA_rl (f := slV) hW19.lv.rl rfl hj3 fun a8 h8 => Ld_sl (s := longs[j]) h8 ?_
      rw [hlj]
      refine Br_dec (fun hlt7 => ?_) fun hge7 => ?_
      · refine IxA_rl (f := slV) hW19.lv.rl rfl hj3 fun a9 h9 => Ld_sl (s := longs[j]) h9 (IxA_rl (f := sV) hv19.rl rfl (by simp; omega) fun a10 h10 => ?_)
        rw [List.getElem_replicate] at h10
        refine Ld_str h10 (Nw_row (vs := [sV [111, 110, 101], sV [116, 119, 111], sV [116, 104, 114, 101, 101]]) fun b5 H20 hb5 hE20 hz20 hr20 => ?_)
        refine Stab_2 (hE20.cell h10 fun h => h) (hE20.cell h9 fun h => h) (IxA_adr (by omega) (by omega) ?_)
        rw [Int.toNat_natCast, Nat.mul_one]
        refine Ld_str (lab_cell hr20 (by omega)) ?_
        rw [beq_self_eq_true, Bool.not_true, Br_false]
        exact Lt.mk (u := ((q + 1 : Nat) : Int)) (by rw [wrap_i64_id] <;> omega) (hnext7 _ _ ⟨hE19.trans hE20 fun _ _ h => h, q + 1, rfl, by omega⟩ (by omega))
      · exact Lt.mk (u := ((j + 1 : Nat) : Int)) (by rw [wrap_i64_id] <;> omega) (hnext6 _ _ ⟨hE18.trans hE19 fun _ _ h => h, j + 1, rfl, by omega⟩ (by omega))
    · refine s_Words (ht.ext hW18.ex) fun r6 H21 hv21 hE21 _ _ => ?_
      rw [hlw]
      refine s_pick (n := 26) hc (by decide) ?_
      obtain ⟨p0, p1⟩ := pickI_bd c 26 (by decide)
      obtain ⟨x, hx⟩ : ∃ x : Nat, pickI c 26 = x := ⟨(pickI c 26).toNat, by omega⟩
      have hx2 : x < wordsL.length := by rw [wl]; omega
      have hex := hW18.ex.trans hE21 fun _ _ h => h
      refine Jn.mk (fun j H' => H21 = H' ∧ j = true) (fun kk hkk => ?_) (by rintro j _ ⟨rfl, rfl⟩; exact ⟨rfl, hex⟩)
      rw [Br_true, show r6.len = 26 from hv21.len]
      rw [show (((26 : Nat) : Int) == ((26 : Nat) : Int)) = true from beq_self_eq_true _, Br_true]
      have hwv := hW18.wv.upd hE21 fun _ _ h => h
      refine IxA_rl (f := sV) hv21.rl hx hx2 fun a h1 => Ld_str h1 (IxA_rl (f := sV) hwv.rl hx hx2 fun a h2 => Ld_str h2 ?_)
      rw [beq_self_eq_true]
      exact hkk _ _ ⟨rfl, rfl⟩
end Go.Proofs.YtlkmmplgfjicjaaDoor
