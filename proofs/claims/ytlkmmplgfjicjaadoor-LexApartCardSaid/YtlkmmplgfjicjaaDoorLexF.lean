/-
  The document's lexer: signs, and all.
-/
import Derived.Test.YtlkmmplgfjicjaaDoorLexE
namespace Go.Proofs.YtlkmmplgfjicjaaDoor
set_option linter.unusedVariables false
set_option linter.unusedSimpArgs false
open Go.Proofs.YtlkmmplgfjicjaaDoor.Hc Go.Proofs.YtlkmmplgfjicjaaDoor.Hc.Lex
set_option maxRecDepth 100000
variable {lo : Nat} {H : Heap} {s : ByteArray} {p : Nat}

def sgs : List Bs := twos ++ ones.map fun c => [c]
theorem sgs_len : sgs.length = 24 := by decide
theorem take_of_hp {r l : Bs} (h : Lib.hasPrefix r l = true) : r.take l.length = l := by
  rw [hasPrefix_dec, decide_eq_true_eq] at h; exact h.2
theorem sgs_found {r : Bs} {m : Nat} (hm : m < 24) (hno : ∀ j, j < m → Lib.hasPrefix r sgs[j]! = false) (h : Lib.hasPrefix r sgs[m]! = true) : r.take (signL r) = sgs[m]! := by
  have ht := take_of_hp h
  rcases Nat.lt_or_ge m 6 with h6 | h6
  · have hm2 : sgs[m]! ∈ twos := by
      have : ∀ m, m < 6 → sgs[m]! ∈ twos := by decide
      exact this m h6
    have hl : (sgs[m]!).length = 2 := by
      have : ∀ x ∈ twos, x.length = 2 := by decide
      exact this _ hm2
    have : signL r = 2 := by
      unfold signL
      rw [if_pos (List.any_eq_true.2 ⟨_, hm2, h⟩)]
    rw [this, ← hl]; exact ht
  · have hone : ∃ c, sgs[m]! = [c] ∧ c ∈ ones := by
      have : ∀ m, m < 24 → 6 ≤ m → sgs[m]! = [(sgs[m]!).headD 0] ∧ (sgs[m]!).headD 0 ∈ ones := by decide
      exact ⟨_, this m hm h6⟩
    obtain ⟨c, hc, hc2⟩ := hone
    have h2 : twos.any (fun x => Lib.hasPrefix r x) = false := by
      rw [List.any_eq_false]
      intro x hx
      have : ∀ x ∈ twos, ∃ j, j < 6 ∧ sgs[j]! = x := by decide
      obtain ⟨j, hj, rfl⟩ := this x hx
      rw [hno j (by omega)]; simp
    rw [hc] at h ht ⊢
    cases r with
    | nil => simp [Lib.hasPrefix, List.isPrefixOf] at h
    | cons d t =>
      have : d = c := by simpa using ht
      subst this
      unfold signL
      rw [h2]
      simp [hc2]
theorem sgs_none {r : Bs} (hno : ∀ j, j < 24 → Lib.hasPrefix r sgs[j]! = false) : signL r = 0 := by
  have h2 : twos.any (fun x => Lib.hasPrefix r x) = false := by
    rw [List.any_eq_false]
    intro x hx
    have : ∀ x ∈ twos, ∃ j, j < 6 ∧ sgs[j]! = x := by decide
    obtain ⟨j, hj, rfl⟩ := this x hx
    rw [hno j (by omega)]; simp
  unfold signL
  rw [h2]
  cases r with
  | nil => rfl
  | cons c t =>
    have hn : c ∉ ones := fun hc => by
      have : ∀ c ∈ ones, ∃ j, j < 24 ∧ sgs[j]! = [c] := by decide
      obtain ⟨j, hj, e⟩ := this c hc
      have := hno j hj
      rw [e] at this
      simp [Lib.hasPrefix, List.isPrefixOf] at this
    simp [hn]
theorem s_rsign (hs : s.size ≤ 8000) (hp : p ≤ s.size) {k : ByteArray → Heap → Prop} (hk : ∀ H', Ext H H' → k ⟨⟨((bs s).drop p).take (signL ((bs s).drop p))⟩⟩ H') :
    CallT Pg f_hindcastref09_sign [.string s, .int .i64 (p : Nat)] (.one (.c .str)) H k := by
  refine c_hindcastref09_sign _ _ ?_
  unfold v_hindcastref09_sign
  refine Nw_row (vs := sgs.map fun l => .string ⟨⟨l⟩⟩) fun b1 H1 _ hE1 _ hr1 => ?_
  refine LoopT.mk (fun i H' => H1 = H' ∧ ∃ m : Nat, i = m ∧ m ≤ 24 ∧ ∀ j, j < m → Lib.hasPrefix ((bs s).drop p) sgs[j]! = false) (fun i _ => 24 - i.toNat) ⟨rfl, 0, rfl, by omega, fun j hj => by omega⟩ ?_
  rintro next _ _ ⟨rfl, m, rfl, hm, hno⟩ hnext
  refine Br_dec (fun hlt => ?_) fun hge => ?_
  · have hlt6 : m < sgs.length := by rw [sgs_len]; omega
    have hc : hcell H1 ⟨b1, m, none⟩ = some (.string ⟨⟨sgs[m]!⟩⟩) := by
      rw [hr1.cell, List.getElem?_map, List.getElem?_eq_getElem hlt6, getElem!_pos sgs m hlt6]; rfl
    have hsz : ((⟨⟨sgs[m]!⟩⟩ : ByteArray)).size ≤ 8000 := by
      show (sgs[m]!).length ≤ 8000
      have : ∀ m, m < 24 → (sgs[m]!).length ≤ 8000 := by decide
      exact this m (by omega)
    refine IxA_adr (by omega) (by omega) ?_
    rw [Int.toNat_natCast, Nat.mul_one]
    refine Ld_str hc (s_starts hs hp hsz (Br.mk (fun hy => ?_) fun hy => ?_))
    · refine IxA_adr (by omega) (by omega) ?_
      rw [Int.toNat_natCast, Nat.mul_one]
      refine Ld_str hc ?_
      have := hk H1 hE1
      rwa [sgs_found (by omega) hno hy] at this
    · refine Lt.mk (u := ((m + 1 : Nat) : Int)) (by rw [wrap_i64_id] <;> omega) (hnext _ _ ⟨rfl, m + 1, rfl, by omega, fun j hj => ?_⟩ (by omega))
      rcases Nat.lt_or_ge j m with e | e
      · exact hno j e
      · have : j = m := by omega
        subst this; exact hy
  · have hm24 : m = 24 := by omega
    subst hm24
    have := hk H1 hE1
    rwa [sgs_none hno, List.take_zero] at this

/-- While the document's list grows. -/
structure RCore (lo : Nat) (H0 H : Heap) (s : ByteArray) (q : Nat) (ts : List Tk) (l : Sl) : Prop where
  vec : VecN H T_api_Token 3 l (tokVs ts)
  ll : ∀ c, l.a = some (adr c) → lo ≤ c
  lex : lexL 0 (bs s) = pre ts (lexL q ((bs s).drop q))
  len : ts.length ≤ q
  le : q ≤ s.size
  nb : Nb lo H0 H
theorem RCore.ext {H0 H' : Heap} {q : Nat} {ts : List Tk} {l : Sl} (h : RCore lo H0 H s q ts l) (hE : Ext H H') : RCore lo H0 H' s q ts l :=
  ⟨h.vec.upd hE fun _ _ h => h, h.ll, h.lex, h.len, h.le, h.nb.tr (Nb.ex hE)⟩
/-- One more token in the list. -/
theorem add_tok {ts : List Tk} {l : Sl} (hv : VecN H T_api_Token 3 l (tokVs ts)) (hll : ∀ c, l.a = some (adr c) → lo ≤ c) (hlo : lo ≤ H.size) (ht : ts.length ≤ 9000) {kind at' : Nat} {y : ByteArray} {x : Sl → Heap → Prop}
    (hk : ∀ l' H', VecN H' T_api_Token 3 l' (tokVs (ts ++ [⟨kind, bs y, at'⟩])) → (∀ c, l'.a = some (adr c) → lo ≤ c) → Nb lo H H' → x l' H') :
    Nw #[.int .i64 (kind : Nat), .string y, .int .i64 (at' : Nat)] T_api_Token H fun b2 H11 =>
          App T_api_Token 3 32 #[.int .i64 0, .string ByteArray.empty, .int .i64 0] l ⟨some (adr b2), 1, 1⟩ H11 fun l1 H12 => x l1 H12 := by
  refine Nw_row fun b1 H1 hb1 hE1 hz1 hr1 => ?_
  have hv1 := hv.upd hE1 fun _ _ h => h
  have hl := hv1.len
  rw [tokVs_len] at hl
  refine App_vecN (n := 3) rfl (by omega) hv1 (ws := [.int .i64 (kind : Nat), .string y, .int .i64 (at' : Nat)]) hr1.rd_all rfl (by simp [Value.oneCell']) (by omega) (by simp only; omega) fun l1 H2 hv2 hl2 hU2 ha2 => ?_
  refine hk l1 H2 ?_ (fun c hc => ?_) ((Nb.ex hE1).tr (hU2.mono fun c _ e => hll c e.1))
  · rw [show tokVs (ts ++ [⟨kind, bs y, at'⟩]) = tokVs ts ++ tokV ⟨kind, bs y, at'⟩ by simp [tokVs]]
    exact hv2
  · rcases ha2 with ⟨e, _⟩ | e
    · rw [e] at hc; exact hll c hc
    · rw [e] at hc; cases hc; omega
/-- What the document's Lex gives out. -/
def RefOut (lo : Nat) (H : Heap) (s : ByteArray) (r : Sl × Int × Int) : Prop :=
  match lexS s with
  | .ok ts => r.2 = (0, 0) ∧ VecN H T_api_Token 3 r.1 (tokVs ts) ∧ ∀ c, r.1.a = some (adr c) → lo ≤ c
  | .error (a, e) => r.1 = ⟨none, 0, 0⟩ ∧ r.2.1 = (a : Nat) ∧ r.2.2 = (e : Nat) ∧ 1 ≤ e
theorem s_rLex {k : Sl × Int × Int → Heap → Prop} (hk : ∀ r H', Ext H H' → RefOut H.size H' s r → k r H') : CallT Pg f_hindcastref09_Lex [.string s] (.tup [(.c .sl), (.c (.int .i64)), (.c (.int .i64))]) H k := by
  refine c_hindcastref09_Lex _ ?_
  unfold v_hindcastref09_Lex
  have ofNb : ∀ {H'}, Nb H.size H H' → Ext H H' := fun h => h.mono fun b hb h => by omega
  refine Br_dec (fun hbig => hk _ _ (.refl _ _) ?_) fun hsmall => ?_
  · unfold RefOut lexS
    rw [if_pos (by omega)]
    exact ⟨rfl, rfl, rfl, by omega⟩
  have hs : s.size ≤ 8000 := by omega
  have kerr : ∀ {H' : Heap} {e : Nat} {ts : List Tk} {q : Nat}, Nb H.size H H' → lexL 0 (bs s) = pre ts (lexL q ((bs s).drop q)) → lexL q ((bs s).drop q) = .error e → k (⟨none, 0, 0⟩, (e : Nat), 90) H' := by
    intro H' e ts q hN h1 h2
    refine hk _ _ (ofNb hN) ?_
    unfold RefOut lexS
    rw [if_neg (by omega), h1, h2]
    exact ⟨rfl, rfl, rfl, by omega⟩
  refine LoopT.ghost (fun m (st : Sl × Int) H1 => ∃ q ts, m = s.size - q ∧ st.2 = (q : Nat) ∧ RCore H.size H H1 s q ts st.1) (s.size - 0) ⟨0, [], rfl, rfl, ⟨rfl, .inl ⟨rfl, rfl, rfl⟩, Nat.le_refl _⟩, fun c e => (by cases e), by rw [List.drop_zero, pre_nil], Nat.le_refl _, Nat.zero_le _, .refl _ _⟩ ?_
  rintro next _ ⟨l, x⟩ H1 ⟨q, ts, rfl, hx, hC⟩ hnext
  dsimp only at hx hC ⊢
  subst hx
  have hq := hC.le
  have hlen := hC.len
  have z := hC.nb.size
  refine Br_dec (fun hlt => Jn_in ?_) fun hge => ?_
  · rcases drop_cases (bs s) q with ⟨e, _⟩ | ⟨c, t, hd, _⟩
    · rw [bs_size] at e; omega
    have hps := Rdr.ps hd
    dsimp only
    -- over n bytes
    have go : ∀ n, Lex.evL ((bs s).drop q) = .skip n → 1 ≤ n → q + n ≤ s.size → ∀ x : Int, x = ((q + n : Nat) : Int) → next (l, x) H1 := by
      intro n hev hn hle x hx
      subst hx
      exact hnext _ _ _ (by omega) ⟨q + n, ts, rfl, rfl, hC.vec, hC.ll, by rw [hC.lex, lexL_skip hd (by rw [← hd]; exact hev) hn], by omega, hle, hC.nb⟩
    refine StrI_bs hd rfl (Jn.mk (fun j H' => H1 = H' ∧ j = blankC c) (fun kk hkk => ?_) ?_)
    · have e1 := beq_byte c 32 (by decide)
      have e2 := beq_byte c 9 (by decide)
      have e3 := beq_byte c 10 (by decide)
      have e4 := beq_byte c 13 (by decide)
      refine Br.mk (fun h => hkk _ _ ⟨rfl, ?_⟩) fun h1 => Br.mk (fun h => hkk _ _ ⟨rfl, ?_⟩) fun h2 => Br.mk (fun h => hkk _ _ ⟨rfl, ?_⟩) fun h3 => hkk _ _ ⟨rfl, ?_⟩
      · have h' := e1.symm.trans h
        unfold blankC; rw [show (c == 32) = true from h']; rfl
      · have h' := e2.symm.trans h
        unfold blankC; rw [show (c == 9) = true from h']; simp
      · have h' := e3.symm.trans h
        unfold blankC; rw [show (c == 10) = true from h']; simp
      · have h1' := e1.symm.trans h1
        have h2' := e2.symm.trans h2
        have h3' := e3.symm.trans h3
        unfold blankC; rw [show (c == 32) = false from h1', show (c == 9) = false from h2', show (c == 10) = false from h3']; exact e4
    · rintro j _ ⟨rfl, rfl⟩
      refine Br.mk (fun hb => ?_) fun hb => s_remark hs hq ?_
      · have hev : Lex.evL ((bs s).drop q) = .skip 1 := by rw [hd]; unfold Lex.evL; dsimp only; rw [hb]; rfl
        exact Lt.mk (u := ((q + 1 : Nat) : Int)) (by rw [wrap_i64_id] <;> omega) (go 1 hev (by omega) (by omega) _ rfl)
      · have hev : Lex.evL ((bs s).drop q) = match remL ((bs s).drop q) with | .to n => .skip n | .endless => .err 0 | .no => tokE ((bs s).drop q) := by
          rw [hd]; unfold Lex.evL; dsimp only; rw [hb]; rfl
        cases hrm : remL ((bs s).drop q) with
        | endless =>
          rw [hrm] at hev
          refine Br_yes (show (-1 : Int) < 0 by decide) (kerr hC.nb hC.lex ?_)
          rw [lexL_err hd (by rw [← hd]; exact hev)]; rfl
        | «to» n =>
          rw [hrm] at hev
          have hle := remL_le hrm
          rw [List.length_drop, bs_size] at hle
          refine Br_no (by unfold remI; dsimp only; omega) (Br_yes (by unfold remI; dsimp only; omega) ?_)
          exact go n hev (by omega) (by omega) _ rfl
        | no =>
          rw [hrm] at hev
          refine Br_no (by unfold remI; dsimp only; omega) (Br_no (by unfold remI; dsimp only; omega) ?_)
          have err0 : ∀ n, tokE ((bs s).drop q) = .err n → ∀ H', Ext H1 H' → k (⟨none, 0, 0⟩, ((q + n : Nat) : Int), 90) H' := by
            intro n he H' hE
            refine kerr (hC.nb.tr (Nb.ex hE)) hC.lex ?_
            rw [lexL_err hd (by rw [← hd, hev]; exact he)]
          have tok : ∀ kk n, tokE ((bs s).drop q) = .tok kk n → ∀ H', Ext H1 H' → ∀ x : Int, x = ((q + n : Nat) : Int) → ∀ y : ByteArray, bs y = ((bs s).drop q).take n →
              Nw #[.int .i64 (kk : Nat), .string y, .int .i64 (q : Nat)] T_api_Token H' fun b2 H11 =>
                App T_api_Token 3 32 #[.int .i64 0, .string ByteArray.empty, .int .i64 0] l ⟨some (adr b2), 1, 1⟩ H11 fun l1 H12 => next (l1, x) H12 := by
            intro kk n he H' hE x hx y hy
            subst hx
            have hle := tokE_le he
            rw [List.length_drop, bs_size] at hle
            have hC' := hC.ext hE
            have z' := hE.size
            refine add_tok hC'.vec hC'.ll (by omega) (by omega) fun l' H2 hv hl hN => ?_
            refine hnext _ _ _ (by omega) ⟨q + n, _, rfl, rfl, hv, hl, ?_, ?_, by omega, hC'.nb.tr hN⟩
            · rw [hC.lex, lexL_tok hd (by rw [← hd, hev]; exact he) hle.1, pre_pre, hy]
            · simp; omega
          refine s_rletter (s_rdigit (s_rsign hs hq fun H7 hE7 => ?_))
          refine Jn_in (Jn_in ?_)
          dsimp only
          cases hl : letterC c with
          | true =>
            have he : tokE ((bs s).drop q) = if runL wordC ((bs s).drop q) > 16 then .err 0 else .tok 1 (runL wordC ((bs s).drop q)) := by
              rw [hd]; unfold tokE; dsimp only; rw [hl]; rfl
            have hle := runL_le wordC ((bs s).drop q)
            rw [List.length_drop, bs_size] at hle
            rw [Br_true]
            refine s_rword hs hq ?_
            refine (Lt.mk (u := ((runL wordC ((bs s).drop q) : Nat) : Int)) (by rw [wrap_i64_id] <;> omega) (Br_dec (fun h => ?_) fun h => ?_))
            · exact err0 0 (by rw [he, if_pos (by omega)]) _ hE7
            · refine StrS_bs rfl rfl (by omega) (by omega) ?_
              exact tok 1 _ (by rw [he, if_neg (by omega)]) _ hE7 _ rfl _ (by rw [bs_mk]; congr 1; omega)
          | false =>
            rw [Br_false]
            refine Jn_in ?_
            dsimp only
            cases hdg : digitC c with
            | true =>
              have he : tokE ((bs s).drop q) = (if decL 0 (((bs s).drop q).take (runL digitC ((bs s).drop q))) > 9223372036854775807 ∨ (runL digitC ((bs s).drop q) > 1 ∧ c = 48) then .err 0
                  else if badNext (((bs s).drop q).drop (runL digitC ((bs s).drop q))) then .err (runL digitC ((bs s).drop q)) else .tok 2 (runL digitC ((bs s).drop q))) := by
                rw [hd]; unfold tokE; dsimp only; rw [hl, hdg]; rfl
              have hle := runL_le digitC ((bs s).drop q)
              rw [List.length_drop, bs_size] at hle
              rw [Br_true]
              refine s_rnumber hs hd hdg ?_
              dsimp only
              refine Br_not (Br_dec (fun hok => ?_) fun hbad => ?_)
              · rw [if_neg hok] at he
                refine Jn.mk (fun _ H' => H7 = H' ∧ badNext ((bs s).drop (q + runL digitC ((bs s).drop q))) = false) (fun kk hkk => ?_) ?_
                · have bad : badNext ((bs s).drop (q + runL digitC ((bs s).drop q))) = true → k (⟨none, 0, 0⟩, ((q + runL digitC ((bs s).drop q) : Nat) : Int), 90) H7 := fun h => by
                    rw [← List.drop_drop] at h
                    exact err0 _ (by rw [he, if_pos h]) _ hE7
                  refine Br_dec (fun hlt2 => ?_) fun hge2 => hkk _ _ ⟨rfl, by rw [List.drop_eq_nil_of_le (by rw [bs_size]; omega)]; rfl⟩
                  rcases drop_cases (bs s) (q + runL digitC ((bs s).drop q)) with ⟨e, _⟩ | ⟨d, u, hdu, _⟩
                  · rw [bs_size] at e; omega
                  · refine StrI_bs hdu rfl (s_rletter (Jn.mk (fun j H' => H7 = H' ∧ j = badNext ((bs s).drop (q + runL digitC ((bs s).drop q)))) (fun kk2 hkk2 => ?_) ?_))
                    · refine Br.mk (fun hl2 => hkk2 _ _ ⟨rfl, by rw [hdu]; simp [badNext, hl2]⟩) fun hl2 => StrI_bs hdu rfl (hkk2 _ _ ⟨rfl, ?_⟩)
                      rw [hdu]; unfold badNext; dsimp only; rw [hl2]; exact beq_byte d 95 (by decide)
                    · rintro j _ ⟨rfl, rfl⟩
                      exact Br.mk bad fun h => hkk _ _ ⟨rfl, h⟩
                · rintro _ _ ⟨rfl, hnb⟩
                  refine StrS_bs rfl rfl (by omega) (by omega) ?_
                  refine tok 2 _ ?_ _ hE7 _ rfl _ (by rw [bs_mk]; congr 1; omega)
                  rw [he, List.drop_drop, hnb]; rfl
              · exact err0 0 (by rw [he, if_pos (Classical.byContradiction hbad)]) _ hE7
            | false =>
              have he : tokE ((bs s).drop q) = if signL ((bs s).drop q) = 0 then .err 0 else .tok 3 (signL ((bs s).drop q)) := by
                rw [hd]; unfold tokE; dsimp only; rw [hl, hdg]; rfl
              have hle := signL_le ((bs s).drop q)
              have hle2 := hle
              rw [List.length_drop, bs_size] at hle
              rw [Br_false]
              rw [beq_bs]
              refine Br_not (Br_dec (fun h => ?_) fun h => ?_)
              · have h0 : signL ((bs s).drop q) = 0 := by
                  have := congrArg List.length h
                  rw [bs_mk, List.length_take, Nat.min_eq_left hle2] at this
                  exact this
                exact err0 0 (by rw [he, if_pos h0]) _ hE7
              · have h0 : signL ((bs s).drop q) ≠ 0 := fun e => h (by rw [bs_mk, e]; rfl)
                have hsz : ((⟨⟨((bs s).drop q).take (signL ((bs s).drop q))⟩⟩ : ByteArray)).size = signL ((bs s).drop q) := by
                  show (((bs s).drop q).take (signL ((bs s).drop q))).length = _
                  rw [List.length_take, Nat.min_eq_left hle2]
                rw [hsz]
                refine Lt.mk (u := ((q + signL ((bs s).drop q) : Nat) : Int)) (by rw [wrap_i64_id] <;> omega) ?_
                exact tok 3 _ (by rw [he, if_neg h0]) _ hE7 _ rfl _ rfl
  · have hqe : q = s.size := by omega
    subst hqe
    have hnil : (bs s).drop s.size = [] := List.drop_eq_nil_of_le (by rw [bs_size]; omega)
    refine add_tok (kind := 0) (at' := s.size) (y := ByteArray.empty) hC.vec hC.ll (by omega) (by omega) fun l' H2 hv hl hN => ?_
    refine hk _ _ (ofNb (hC.nb.tr hN)) ?_
    unfold RefOut lexS
    rw [if_neg (by omega), hC.lex, hnil, lexL_nil]
    exact ⟨rfl, hv, hl⟩
end Go.Proofs.YtlkmmplgfjicjaaDoor
