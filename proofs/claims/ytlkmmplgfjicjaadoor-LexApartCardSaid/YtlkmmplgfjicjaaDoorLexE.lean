/-
  The document's lexer.
-/
import Derived.Test.YtlkmmplgfjicjaaDoorLexD
namespace Go.Proofs.YtlkmmplgfjicjaaDoor
set_option linter.unusedVariables false
set_option linter.unusedSimpArgs false
open Go.Proofs.YtlkmmplgfjicjaaDoor.Hc Go.Proofs.YtlkmmplgfjicjaaDoor.Hc.Lex
set_option maxRecDepth 100000
variable {lo : Nat} {H : Heap} {s : ByteArray} {p : Nat}

theorem Br_not {x : Bool} {X Y : Prop} (h : Br x Y X) : Br (!x) X Y := by cases x <;> exact h
theorem hasPrefix_dec (r l : Bs) : Lib.hasPrefix r l = decide (l.length ≤ r.length ∧ r.take l.length = l) := by
  rw [Bool.eq_iff_iff]
  simp only [Lib.hasPrefix, List.isPrefixOf_iff_prefix, decide_eq_true_eq]
  rw [List.prefix_iff_eq_take]
  constructor
  · intro h
    refine ⟨?_, h.symm⟩
    have := congrArg List.length h
    simp only [List.length_take] at this
    omega
  · exact fun h => h.2.symm
theorem s_starts {lit : ByteArray} (hs : s.size ≤ 8000) (hp : p ≤ s.size) (hl : lit.size ≤ 8000) {k : Bool → Heap → Prop} (hk : k (Lib.hasPrefix ((bs s).drop p) (bs lit)) H) :
    CallT Pg f_hindcastref09_starts [.string s, .int .i64 (p : Nat), .string lit] (.one (.c .bool)) H k := by
  refine c_hindcastref09_starts _ _ _ ?_
  unfold v_hindcastref09_starts
  rw [hasPrefix_dec] at hk
  simp only [bs_size, List.length_drop] at hk
  refine Jn.mk (fun j H' => H = H' ∧ j = decide (lit.size ≤ s.size - p ∧ ((bs s).drop p).take lit.size = bs lit)) (fun kk hkk => ?_) (by rintro j _ ⟨rfl, rfl⟩; exact hk)
  refine Lt.mk (u := ((p + lit.size : Nat) : Int)) (by rw [wrap_i64_id] <;> omega) (Br_dec (fun h => ?_) fun h => hkk _ _ ⟨rfl, ?_⟩)
  · refine Lt.mk (u := ((p + lit.size : Nat) : Int)) (by rw [wrap_i64_id] <;> omega) (StrS_bs rfl rfl (by omega) (by omega) (hkk _ _ ⟨rfl, ?_⟩))
    rw [beq_bs, bs_mk, show p + lit.size - p = lit.size by omega]
    exact decide_eq_decide.2 ⟨fun e => ⟨by omega, e⟩, fun e => e.2⟩
  · exact (decide_eq_false (fun e => by omega)).symm
def remI (p : Nat) : Rem → Int
  | .no => p
  | .to n => (p + n : Nat)
  | .endless => -1
theorem s_remark (hs : s.size ≤ 8000) (hp : p ≤ s.size) {k : Int → Heap → Prop} (hk : k (remI p (remL ((bs s).drop p))) H) :
    CallT Pg f_hindcastref09_remark [.string s, .int .i64 (p : Nat)] (.one (.c (.int .i64))) H k := by
  refine c_hindcastref09_remark _ _ ?_
  unfold v_hindcastref09_remark
  refine s_starts hs hp (by decide) (Br.mk (fun h1 => ?_) fun h1 => s_starts hs hp (by decide) (Br_not (Br.mk (fun h2 => ?_) fun h2 => ?_)))
  · have hrm : remL ((bs s).drop p) = .to (runL (fun c => c != 10) ((bs s).drop p)) := by unfold remL; exact if_pos h1
    rw [hrm] at hk
    have hle := runL_le (fun c => c != 10) ((bs s).drop p)
    rw [List.length_drop, bs_size] at hle
    refine LoopT.mk (fun n H' => H = H' ∧ ∃ m : Nat, n = ((p + m : Nat) : Int) ∧ m ≤ runL (fun c => c != 10) ((bs s).drop p)) (fun n _ => s.size - n.toNat) ⟨rfl, 0, rfl, Nat.zero_le _⟩ ?_
    rintro next _ _ ⟨rfl, m, rfl, hm⟩ hnext
    refine Jn.mk (fun j H' => H = H' ∧ j = decide (m < runL (fun c => c != 10) ((bs s).drop p))) (fun kk hkk => ?_) ?_
    · rcases runL_step hm with ⟨c, t, g1, g2, g3⟩ | ⟨g1, g2⟩
      · rw [List.drop_drop] at g1
        have := Rdr.ps g1
        refine Br_yes (by omega) (StrI_bs g1 rfl (hkk _ _ ⟨rfl, ?_⟩))
        rw [decide_eq_true g3]
        rw [show (((c.toNat : Int)) != 10) = (c != 10) by unfold bne; rw [show (((c.toNat : Int)) == 10) = (c == UInt8.ofNat 10) from beq_byte c 10 (by decide)]; rfl]
        exact g2
      · rcases g2 with g2 | ⟨c, t, g2, g3⟩
        · rw [List.drop_drop] at g2
          have := congrArg List.length g2
          simp only [List.length_drop, List.length_nil, bs_size] at this
          exact Br_no (by omega) (hkk _ _ ⟨rfl, (decide_eq_false (by omega)).symm⟩)
        · rw [List.drop_drop] at g2
          have := Rdr.ps g2
          refine Br_yes (by omega) (StrI_bs g2 rfl (hkk _ _ ⟨rfl, ?_⟩))
          rw [decide_eq_false (by omega)]
          rw [show (((c.toNat : Int)) != 10) = (c != 10) by unfold bne; rw [show (((c.toNat : Int)) == 10) = (c == UInt8.ofNat 10) from beq_byte c 10 (by decide)]; rfl]
          exact g3
    · rintro j _ ⟨rfl, rfl⟩
      refine Br_dec (fun hlt => Lt.mk (u := ((p + (m + 1) : Nat) : Int)) (by rw [wrap_i64_id] <;> omega) (hnext _ _ ⟨rfl, m + 1, rfl, hlt⟩ (by omega))) fun hge => ?_
      have : m = runL (fun c => c != 10) ((bs s).drop p) := by omega
      rw [← this] at hk; exact hk
  · obtain ⟨u, hu⟩ := hp2 (r := (bs s).drop p) h2
    have hlen := congrArg List.length hu
    simp only [List.length_drop, List.length_cons, bs_size] at hlen
    have hrm : remL ((bs s).drop p) = if 0 ≤ Lib.index (((bs s).drop p).drop 2) [42, 47] then .to ((Lib.index (((bs s).drop p).drop 2) [42, 47]).toNat + 4) else .endless := by
      unfold remL; rw [if_neg (fun e => by rw [show Lib.hasPrefix ((bs s).drop p) [47, 47] = false from h1] at e; cases e)]; exact if_pos h2
    have hl2 : (((bs s).drop p).drop 2).length = s.size - p - 2 := by simp only [List.length_drop, bs_size]
    refine Lt.mk (u := ((p + 2 : Nat) : Int)) (by rw [wrap_i64_id] <;> omega) ?_
    refine LoopT.mk (fun n H' => H = H' ∧ ∃ m : Nat, n = ((p + 2 + m : Nat) : Int) ∧ p + 2 + m ≤ s.size ∧ ∀ j, j < m → Lib.occAt (((bs s).drop p).drop 2) [42, 47] j = false) (fun n _ => s.size - n.toNat) ⟨rfl, 0, rfl, by omega, fun j hj => by omega⟩ ?_
    rintro next _ _ ⟨rfl, m, rfl, hm, hno⟩ hnext
    refine Br_dec (fun hlt => s_starts hs (by omega) (by decide) ?_) fun hge => ?_
    · have hoc : Lib.hasPrefix ((bs s).drop (p + 2 + m)) (bs ⟨#[42, 47]⟩) = Lib.occAt (((bs s).drop p).drop 2) [42, 47] m := by
        unfold Lib.occAt; rw [List.drop_drop, List.drop_drop, Nat.add_assoc]; rfl
      rw [hoc]
      refine Br.mk (fun hy => ?_) fun hy => ?_
      · have hix := Lib.index_first (by omega) hy hno
        rw [hix, if_pos (by omega)] at hrm
        rw [hrm] at hk
        refine Lt.mk (u := ((p + 2 + m + 2 : Nat) : Int)) (by rw [wrap_i64_id] <;> omega) ?_
        have e : remI p (.to ((m : Int).toNat + 4)) = ((p + 2 + m + 2 : Nat) : Int) := by unfold remI; dsimp only; omega
        rw [e] at hk; exact hk
      · refine Lt.mk (u := ((p + 2 + (m + 1) : Nat) : Int)) (by rw [wrap_i64_id] <;> omega) (hnext _ _ ⟨rfl, m + 1, rfl, by omega, fun j hj => ?_⟩ (by omega))
        rcases Nat.lt_or_ge j m with e | e
        · exact hno j e
        · have : j = m := by omega
          subst this; exact hy
    · rcases Lib.index_spec (((bs s).drop p).drop 2) [42, 47] with ⟨g1, _⟩ | ⟨i, g1, g2, g3, _⟩
      · rw [g1] at hrm
        rw [hrm] at hk
        exact hk
      · rcases Lib.occAt_room g3 with e | e
        · simp only [List.length_cons, List.length_nil] at e
          rw [hno i (by omega)] at g3; cases g3
        · cases e
  · have hrm : remL ((bs s).drop p) = .no := by
      unfold remL
      rw [if_neg (fun e => by rw [show Lib.hasPrefix ((bs s).drop p) [47, 47] = false from h1] at e; cases e), if_neg (fun e => by rw [show Lib.hasPrefix ((bs s).drop p) [47, 42] = false from h2] at e; cases e)]
    rw [hrm] at hk
    exact hk
theorem s_rword (hs : s.size ≤ 8000) (hp : p ≤ s.size) {k : Int → Heap → Prop} (hk : k ((p + runL wordC ((bs s).drop p) : Nat) : Int) H) :
    CallT Pg f_hindcastref09_word [.string s, .int .i64 (p : Nat)] (.one (.c (.int .i64))) H k := by
  refine c_hindcastref09_word _ _ ?_
  unfold v_hindcastref09_word
  have hle := runL_le wordC ((bs s).drop p)
  rw [List.length_drop, bs_size] at hle
  refine LoopT.mk (fun n H' => H = H' ∧ ∃ m : Nat, n = ((p + m : Nat) : Int) ∧ m ≤ runL wordC ((bs s).drop p)) (fun n _ => s.size - n.toNat) ⟨rfl, 0, rfl, Nat.zero_le _⟩ ?_
  rintro next _ _ ⟨rfl, m, rfl, hm⟩ hnext
  have step : ∀ (c : UInt8) (t : Bs), (bs s).drop (p + m) = c :: t → (wordC c = true → m < runL wordC ((bs s).drop p)) → (wordC c = false → m = runL wordC ((bs s).drop p)) →
      StrI s ((p + m : Nat) : Int) fun b1 =>
        CallT Pg f_hindcastref09_letter [.int .u8 b1] (.one (.c .bool)) H fun (r1 : Bool) H2 =>
        StrI s ((p + m : Nat) : Int) fun b2 =>
        CallT Pg f_hindcastref09_digit [.int .u8 b2] (.one (.c .bool)) H2 fun (r2 : Bool) H3 =>
        Jn (σ := Bool) (fun kk1 =>
          Br (!r1) (
            Br (!r2) (
              StrI s ((p + m : Nat) : Int) fun b3 =>
              kk1 (b3 != 95) H3) (
              kk1 false H3)) (
            kk1 false H3)) fun j1 H4 =>
        Br j1 (
          k ((p + m : Nat) : Int) H4) (
          Lt (IntKind.wrap .i64 (((p + m : Nat) : Int) + 1)) fun t1 =>
          next t1 H4) := by
    intro c t hd h1 h2
    have hps := Rdr.ps hd
    refine StrI_bs hd rfl (s_rletter (StrI_bs hd rfl (s_rdigit (Jn.mk (fun j H' => H = H' ∧ j = !wordC c) (fun kk hkk => ?_) ?_))))
    · cases hl : letterC c
      · cases hdg : digitC c
        · show StrI s ((p + m : Nat) : Int) fun b3 => kk (b3 != 95) H
          refine StrI_bs hd rfl (hkk _ _ ⟨rfl, ?_⟩)
          unfold wordC
          rw [hl, hdg]
          unfold bne
          rw [show (((c.toNat : Int)) == 95) = (c == UInt8.ofNat 95) from beq_byte c 95 (by decide)]
          rfl
        · exact hkk _ _ ⟨rfl, by simp [wordC, hl, hdg]⟩
      · exact hkk _ _ ⟨rfl, by simp [wordC, hl]⟩
    · rintro j _ ⟨rfl, rfl⟩
      cases hw : wordC c
      · have := h2 hw
        rw [← this] at hk
        exact hk
      · have := h1 hw
        show Lt (IntKind.wrap .i64 (((p + m : Nat) : Int) + 1)) fun t1 => next t1 H
        exact Lt.mk (u := ((p + (m + 1) : Nat) : Int)) (by rw [wrap_i64_id] <;> omega) (hnext _ _ ⟨rfl, m + 1, rfl, this⟩ (by omega))
  rcases runL_step hm with ⟨c, t, g1, g2, g3⟩ | ⟨g1, g2⟩
  · rw [List.drop_drop] at g1
    have := Rdr.ps g1
    exact Br_yes (by omega) (step c t g1 (fun _ => g3) (fun e => by rw [g2] at e; cases e))
  · rcases g2 with g2 | ⟨c, t, g2, g3⟩
    · rw [List.drop_drop] at g2
      have := congrArg List.length g2
      simp only [List.length_drop, List.length_nil, bs_size] at this
      refine Br_no (by omega) ?_
      rw [← g1] at hk
      exact hk
    · rw [List.drop_drop] at g2
      have := Rdr.ps g2
      exact Br_yes (by omega) (step c t g2 (fun e => by rw [g3] at e; cases e) (fun _ => g1))
theorem decL_snoc : ∀ (l : Bs) (a : Nat) (c : UInt8), decL a (l ++ [c]) = decL a l * 10 + (c.toNat - 48)
  | [], _, _ => rfl
  | _ :: t, _, c => decL_snoc t _ c
theorem take_succ_drop {r : Bs} {m : Nat} {c : UInt8} {t : Bs} (h : r.drop m = c :: t) : r.take (m + 1) = r.take m ++ [c] := by
  have h1 : r[m]? = some c := by
    have := congrArg (fun l => l[0]?) h
    simpa using this
  rw [List.take_add_one, h1]; rfl
theorem s_rnumber (hs : s.size ≤ 8000) {c0 : UInt8} {t0 : Bs} (hd0 : (bs s).drop p = c0 :: t0) (hc0 : digitC c0 = true) {k : Int × Bool → Heap → Prop}
    (hk : k (((p + runL digitC ((bs s).drop p) : Nat) : Int), decide (¬ (decL 0 (((bs s).drop p).take (runL digitC ((bs s).drop p))) > 9223372036854775807 ∨ (runL digitC ((bs s).drop p) > 1 ∧ c0 = 48)))) H) :
    CallT Pg f_hindcastref09_number [.string s, .int .i64 (p : Nat)] (.tup [(.c (.int .i64)), (.c .bool)]) H k := by
  refine c_hindcastref09_number _ _ ?_
  unfold v_hindcastref09_number
  have hps := Rdr.ps hd0
  have hle := runL_le digitC ((bs s).drop p)
  rw [List.length_drop, bs_size] at hle
  have hpos : 1 ≤ runL digitC ((bs s).drop p) := by rw [hd0]; exact runL_pos hc0
  refine LoopT.mk (fun (st : Int × Int × Bool) H' => H = H' ∧ ∃ m : Nat, st.1 = ((p + m : Nat) : Int) ∧ m ≤ runL digitC ((bs s).drop p) ∧ st.2.2 = decide (decL 0 (((bs s).drop p).take m) > 9223372036854775807) ∧ (st.2.2 = false → st.2.1 = (decL 0 (((bs s).drop p).take m) : Nat)))
    (fun st _ => s.size - st.1.toNat) ⟨rfl, 0, rfl, Nat.zero_le _, rfl, fun _ => rfl⟩ ?_
  rintro next ⟨x, n, great⟩ _ ⟨rfl, m, hx, hm, hgr, hn⟩ hnext
  dsimp only at hx hgr hn ⊢
  subst hx
  refine Jn.mk (fun j H' => H = H' ∧ j = decide (m < runL digitC ((bs s).drop p))) (fun kk hkk => ?_) ?_
  · have dig : ∀ (c : UInt8) (t : Bs), (bs s).drop (p + m) = c :: t → digitC c = decide (m < runL digitC ((bs s).drop p)) → StrI s ((p + m : Nat) : Int) fun b1 =>
          Br (decide (b1 ≥ 48)) (
            StrI s ((p + m : Nat) : Int) fun b2 =>
            kk (decide (b2 ≤ 57)) H) (
            kk false H) := by
      intro c t hd h
      refine StrI_bs hd rfl (Br_dec (fun h1 => StrI_bs hd rfl (hkk _ _ ⟨rfl, ?_⟩)) fun h1 => hkk _ _ ⟨rfl, ?_⟩)
      · rw [← h, digitC_eq]; exact decide_eq_decide.2 (by omega)
      · rw [← h, digitC_eq]; exact (decide_eq_false (by omega)).symm
    rcases runL_step hm with ⟨c, t, g1, g2, g3⟩ | ⟨g1, g2⟩
    · rw [List.drop_drop] at g1
      have := Rdr.ps g1
      exact Br_yes (by omega) (dig c t g1 (by rw [g2, decide_eq_true g3]))
    · rcases g2 with g2 | ⟨c, t, g2, g3⟩
      · rw [List.drop_drop] at g2
        have := congrArg List.length g2
        simp only [List.length_drop, List.length_nil, bs_size] at this
        exact Br_no (by omega) (hkk _ _ ⟨rfl, (decide_eq_false (by omega)).symm⟩)
      · rw [List.drop_drop] at g2
        have := Rdr.ps g2
        exact Br_yes (by omega) (dig c t g2 (by rw [g3, decide_eq_false (by omega)]))
  · rintro j _ ⟨rfl, rfl⟩
    refine Br_dec (fun hlt => ?_) fun hge => ?_
    · rcases runL_step hm with ⟨c, t, g1, g2, g3⟩ | ⟨g1, g2⟩
      · have htk := take_succ_drop g1
        rw [List.drop_drop] at g1
        have := Rdr.ps g1
        rw [digitC_eq, decide_eq_true_eq] at g2
        have hdec : decL 0 (((bs s).drop p).take (m + 1)) = decL 0 (((bs s).drop p).take m) * 10 + (c.toNat - 48) := by rw [htk, decL_snoc]
        refine StrI_bs g1 rfl (Lt.mk (u := ((c.toNat - 48 : Nat) : Int)) (by rw [wrap_u8]; omega) ?_)
        rw [wrap_u64_id (x := ((c.toNat - 48 : Nat) : Int)) (by omega) (by omega)]
        refine Jn.mk (fun g H' => H = H' ∧ g = decide (decL 0 (((bs s).drop p).take (m + 1)) > 9223372036854775807)) (fun kk hkk => ?_) ?_
        · refine Br.mk (fun hg => hkk _ _ ⟨rfl, ?_⟩) fun hg => ?_
          · rw [hg] at hgr
            have := of_decide_eq_true hgr.symm
            exact (decide_eq_true (by omega)).symm
          · have hn2 := hn hg
            rw [hg] at hgr
            have := of_decide_eq_false hgr.symm
            refine Lt.mk (u := 9223372036854775807 - ((c.toNat - 48 : Nat) : Int)) (wrap_u64_id (by omega) (by omega)) ⟨by decide, ?_⟩
            rw [Int.tdiv_eq_ediv_of_nonneg (by omega), wrap_u64_id (by omega) (by omega)]
            refine hkk _ _ ⟨rfl, ?_⟩
            subst hn2
            exact decide_eq_decide.2 (by omega)
        · rintro g _ ⟨rfl, rfl⟩
          refine Jn.mk (fun n' H' => H = H' ∧ (decide (decL 0 (((bs s).drop p).take (m + 1)) > 9223372036854775807) = false → n' = (decL 0 (((bs s).drop p).take (m + 1)) : Nat))) (fun kk hkk => ?_) ?_
          · refine Br.mk (fun hg => ?_) fun hg => hkk _ _ ⟨rfl, fun e => by rw [e] at hg; cases hg⟩
            have hg2 : ¬ decL 0 (((bs s).drop p).take (m + 1)) > 9223372036854775807 := by simpa using hg
            have hgr2 : great = false := by rw [hgr]; exact decide_eq_false (by omega)
            have hn2 := hn hgr2
            subst hn2
            refine Lt.mk rfl (Lt.mk rfl (hkk _ _ ⟨rfl, fun _ => ?_⟩))
            rw [wrap_u64_id (x := 10 * _) (by omega) (by omega), wrap_u64_id (by omega) (by omega)]
            omega
          · rintro n' _ ⟨rfl, hn'⟩
            exact Lt.mk (u := ((p + (m + 1) : Nat) : Int)) (by rw [wrap_i64_id] <;> omega) (hnext _ _ ⟨rfl, m + 1, rfl, hlt, rfl, hn'⟩ (by dsimp only; omega))
      · omega
    · have hmr : m = runL digitC ((bs s).drop p) := by omega
      rw [← hmr] at hk hpos
      refine Jn.mk (fun (st : Int × Bool) H' => H = H' ∧ st = (((p + m : Nat) : Int), decide (¬ (decL 0 (((bs s).drop p).take m) > 9223372036854775807 ∨ (m > 1 ∧ c0 = 48))))) (fun kk hkk => ?_) (by rintro st _ ⟨rfl, rfl⟩; exact hk)
      refine Br.mk (fun hg => ?_) fun hg => hkk _ _ ⟨rfl, ?_⟩
      · have hg2 : great = false := by simpa using hg
        rw [hg2] at hgr
        have hsm := of_decide_eq_false hgr.symm
        refine Lt.mk (u := ((p + 1 : Nat) : Int)) (by rw [wrap_i64_id] <;> omega) (Br.mk (fun he => hkk _ _ ⟨rfl, ?_⟩) fun he => StrI_bs hd0 rfl (hkk _ _ ⟨rfl, ?_⟩))
        · have : m = 1 := by have := eq_of_beq he; omega
          rw [decide_eq_true]
          rintro (e | ⟨e, _⟩) <;> omega
        · have h1 : m ≠ 1 := by have := ne_of_beq_false he; omega
          unfold bne
          rw [show (((c0.toNat : Int)) == 48) = (c0 == UInt8.ofNat 48) from beq_byte c0 48 (by decide)]
          congr 1
          by_cases e : c0 = 48
          · subst e
            rw [decide_eq_false (fun h => h (.inr ⟨by omega, rfl⟩))]; rfl
          · rw [decide_eq_true (by rintro (h | ⟨_, h⟩); omega; exact e h)]
            rw [show (c0 == UInt8.ofNat 48) = false from beq_eq_false_iff_ne.2 e]; rfl
      · have hg2 : great = true := by simpa using hg
        rw [hg2] at hgr
        have hbig := of_decide_eq_true hgr.symm
        rw [decide_eq_false (fun h => h (.inl hbig))]
end Go.Proofs.YtlkmmplgfjicjaaDoor
