/-
  The lexer's methods that take a token, or go over blanks and remarks.
-/
import Derived.Test.YtlkmmplgfjicjaaDoorLexB
namespace Go.Proofs.YtlkmmplgfjicjaaDoor
set_option linter.unusedVariables false
set_option linter.unusedSimpArgs false
open Go.Proofs.YtlkmmplgfjicjaaDoor.Hc Go.Proofs.YtlkmmplgfjicjaaDoor.Hc.Lex
set_option maxRecDepth 100000

def FaultAt (lo : Nat) (H : Heap) (r : Option Addr) (a e : Nat) : Prop := ∃ f, r = some (adr f) ∧ lo ≤ f ∧ Row H f T_api_Fault [.int .i64 (a : Nat), .int .i64 (e : Nat)]
def TokOut (lo : Nat) (H H' : Heap) (b : Nat) (s : ByteArray) (p : Nat) (ts : List Tk) (r : Option Addr) : Prop :=
  Nb lo H H' ∧ ((∃ k n l', tokE ((bs s).drop p) = .tok k n ∧ r = none ∧ Rdr lo H' b s (p + n) (ts ++ [⟨k, ((bs s).drop p).take n, p⟩]) l') ∨ (∃ n, tokE ((bs s).drop p) = .err n ∧ FaultAt lo H' r (p + n) 90))
variable {lo : Nat} {H : Heap} {b : Nat} {s : ByteArray} {p : Nat} {ts : List Tk} {l : Sl}
theorem fault_out (hlo : lo ≤ H.size) {H' : Heap} {f : Nat} (hf : f = H.size) {x : Nat} (hr : Row H' f T_api_Fault [.int .i64 (x : Nat), .int .i64 90]) : FaultAt lo H' (some (adr f)) x 90 := ⟨f, rfl, by omega, hr⟩
theorem Rdr.ps {c : UInt8} {t : Bs} (hd : (bs s).drop p = c :: t) : p < s.size ∧ s.size = p + (t.length + 1) := by
  have := drop_length hd
  rw [bs_size] at this
  exact this
theorem s_symbol (h : Rdr lo H b s p ts l) (hlo : lo ≤ H.size) (hs : s.size ≤ 8000) (ht : ts.length ≤ 9000) {c : UInt8} {t : Bs} (hd : (bs s).drop p = c :: t) (hc1 : letterC c = false) (hc2 : digitC c = false) {k : Option Addr → Heap → Prop}
    (hk : ∀ r H', TokOut lo H H' b s p ts r → k r H') : CallT Pg f_lex_reader_symbol [.pointer (some (adr b))] (.one (.c .ptr)) H k := by
  refine c_lex_reader_symbol _ ?_
  unfold v_lex_reader_symbol
  simp only [NilCk_some, adr_add]
  obtain ⟨hp, hsz⟩ := Rdr.ps hd
  refine s_sign h hp fun H1 hE => ?_
  have h1 := h.ext hE
  have z := hE.size
  have he : tokE ((bs s).drop p) = if signL ((bs s).drop p) = 0 then .err 0 else .tok 3 (signL ((bs s).drop p)) := by
    rw [hd]; unfold tokE; dsimp only; rw [hc1, hc2]; rfl
  by_cases h0 : signL ((bs s).drop p) = 0
  · rw [if_pos h0] at he
    rw [h0]
    refine Ld_int h1.c1 (s_fault fun H2 f hf hE2 hr => ?_)
    exact hk _ _ ⟨(Nb.ex hE).tr (Nb.ex hE2), .inr ⟨0, he, fault_out (by omega) hf hr⟩⟩
  · rw [if_neg h0] at he
    have hle := signL_le ((bs s).drop p)
    rw [List.length_drop, bs_size] at hle
    rw [show (((signL ((bs s).drop p) : Nat) : Int) == 0) = false from beq_eq_false_iff_ne.2 (by omega)]
    refine s_add (kind := 3) h1 (by omega) hs ht (by omega) fun l' H2 hR hN => ?_
    exact hk _ _ ⟨(Nb.ex hE).tr hN, .inl ⟨3, _, l', he, rfl, hR⟩⟩
theorem s_word (h : Rdr lo H b s p ts l) (hlo : lo ≤ H.size) (hs : s.size ≤ 8000) (ht : ts.length ≤ 9000) {c : UInt8} {t : Bs} (hd : (bs s).drop p = c :: t) (hc1 : letterC c = true) {k : Option Addr → Heap → Prop}
    (hk : ∀ r H', TokOut lo H H' b s p ts r → k r H') : CallT Pg f_lex_reader_word [.pointer (some (adr b))] (.one (.c .ptr)) H k := by
  refine c_lex_reader_word _ ?_
  unfold v_lex_reader_word
  simp only [NilCk_some, adr_add]
  obtain ⟨hp, hsz⟩ := Rdr.ps hd
  refine s_while h (by omega) hs (pr := wordC) (fun _ _ _ hk => s_wordC hk) ?_
  have he : tokE ((bs s).drop p) = if runL wordC ((bs s).drop p) > 16 then .err 0 else .tok 1 (runL wordC ((bs s).drop p)) := by
    rw [hd]; unfold tokE; dsimp only; rw [hc1]; rfl
  refine Br_dec (fun h0 => ?_) fun h0 => ?_
  · rw [if_pos (by omega)] at he
    refine Ld_int h.c1 (s_fault fun H2 f hf hE2 hr => ?_)
    exact hk _ _ ⟨Nb.ex hE2, .inr ⟨0, he, fault_out hlo hf hr⟩⟩
  · rw [if_neg (by omega)] at he
    have hle := runL_le wordC ((bs s).drop p)
    rw [List.length_drop, bs_size] at hle
    refine s_add (kind := 1) h hlo hs ht (by omega) fun l' H2 hR hN => ?_
    exact hk _ _ ⟨hN, .inl ⟨1, _, l', he, rfl, hR⟩⟩
theorem s_number (h : Rdr lo H b s p ts l) (hlo : lo ≤ H.size) (hg : GE lo H) (hs : s.size ≤ 8000) (ht : ts.length ≤ 9000) {c : UInt8} {t : Bs} (hd : (bs s).drop p = c :: t) (hc1 : letterC c = false) (hc2 : digitC c = true) {k : Option Addr → Heap → Prop}
    (hk : ∀ r H', TokOut lo H H' b s p ts r → k r H') : CallT Pg f_lex_reader_number [.pointer (some (adr b))] (.one (.c .ptr)) H k := by
  refine c_lex_reader_number _ ?_
  unfold v_lex_reader_number
  simp only [NilCk_some, adr_add]
  obtain ⟨hp, hsz⟩ := Rdr.ps hd
  refine s_while h (by omega) hs (pr := digitC) (fun _ _ _ hk => s_digit hk) ?_
  have hle := runL_le digitC ((bs s).drop p)
  rw [List.length_drop, bs_size] at hle
  have hpos : 1 ≤ runL digitC ((bs s).drop p) := by rw [hd]; exact runL_pos hc2
  have hall : ∀ x ∈ ((bs s).drop p).take (runL digitC ((bs s).drop p)), digitC x = true := fun x hx => runL_all hx
  have he : tokE ((bs s).drop p) = (if decL 0 (((bs s).drop p).take (runL digitC ((bs s).drop p))) > 9223372036854775807 ∨ (runL digitC ((bs s).drop p) > 1 ∧ c = 48) then .err 0
       else if badNext (((bs s).drop p).drop (runL digitC ((bs s).drop p))) then .err (runL digitC ((bs s).drop p)) else .tok 2 (runL digitC ((bs s).drop p))) := by
    rw [hd]; unfold tokE; dsimp only; rw [hc1, hc2]; rfl
  generalize hn : runL digitC ((bs s).drop p) = n at *
  refine Ld_str h.c0 (Ld_int h.c1 (Ld_int h.c1 (Lt.mk (u := ((p + n : Nat) : Int)) (by rw [wrap_i64_id] <;> omega) (StrS_bs rfl rfl (by omega) (by omega) ?_))))
  rw [show p + n - p = n by omega]
  have hy : ∃ t', ((bs s).drop p).take n = c :: t' := by
    rw [hd]
    obtain ⟨m, rfl⟩ : ∃ m, n = m + 1 := ⟨n - 1, by omega⟩
    exact ⟨t.take m, rfl⟩
  obtain ⟨t', ht'⟩ := hy
  have hpi := parse_digits hall (by rw [ht']; simp)
  have hsz2 : ((⟨⟨((bs s).drop p).take n⟩⟩ : ByteArray)).size ≤ 8000 := by
    show (((bs s).drop p).take n).length ≤ 8000
    simp; omega
  -- behind the number
  have tail : ∀ H1, Ext H H1 → ¬ decL 0 (((bs s).drop p).take n) > 9223372036854775807 → ¬ (n > 1 ∧ c = 48) →
      Ld (.int .i64) ⟨b, 1, none⟩ H1 fun (x5 : Int) =>
      Lt (IntKind.wrap .i64 (x5 + (n : Nat))) fun t2 =>
      Jn (σ := Bool) (fun kk2 =>
        Ld .str (adr b) H1 fun (x6 : ByteArray) =>
        Br (decide (t2 < (x6.size : Int))) (
          Ld .str (adr b) H1 fun (x7 : ByteArray) =>
          StrI x7 t2 fun b2 =>
          CallT Pg f_lex_letter [.int .u8 b2] (.one (.c .bool)) H1 fun (r4 : Bool) H6 =>
          Br r4 (
            kk2 true H6) (
            Ld .str (adr b) H6 fun (x8 : ByteArray) =>
            StrI x8 t2 fun b3 =>
            kk2 (b3 == 95) H6)) (
          kk2 false H1)) fun j2 H5 =>
      Br j2 (
        CallT Pg f_lex_fault [.int .i64 t2, .int .i64 90] (.one (.c .ptr)) H5 fun (r5 : Option Addr) H7 =>
        k r5 H7) (
        CallT Pg f_lex_reader_add [.pointer (some (adr b)), .int .i64 2, .int .i64 (n : Nat)] (.tup []) H5 fun (r6 : Unit) H8 =>
        k none H8) := by
    intro H1 hE h1 h2
    have hr := h.ext hE
    have z := hE.size
    rw [if_neg (by rintro (e | e); exact h1 e; exact h2 e)] at he
    refine Ld_int hr.c1 (Lt.mk (u := ((p + n : Nat) : Int)) (by rw [wrap_i64_id] <;> omega) (Jn.mk (fun j H' => H1 = H' ∧ j = badNext ((bs s).drop (p + n))) (fun kk hkk => ?_) ?_))
    · refine Ld_str hr.c0 (Br_dec (fun hlt => ?_) fun hge => hkk _ _ ⟨rfl, ?_⟩)
      · rcases drop_cases (bs s) (p + n) with ⟨e, _⟩ | ⟨d, u, hdu, _⟩
        · rw [bs_size] at e; omega
        · refine Ld_str hr.c0 (StrI_bs hdu rfl (s_letter (Br.mk (fun hl => hkk _ _ ⟨rfl, by rw [hdu]; simp [badNext, hl]⟩) fun hl => Ld_str hr.c0 (StrI_bs hdu rfl (hkk _ _ ⟨rfl, ?_⟩)))))
          rw [hdu]; unfold badNext; dsimp only; rw [hl]; exact beq_byte d 95 (by decide)
      · rw [List.drop_eq_nil_of_le (by rw [bs_size]; omega)]; rfl
    · rintro j _ ⟨rfl, rfl⟩
      rw [List.drop_drop] at he
      refine Br.mk (fun hb => ?_) fun hb => ?_
      · rw [if_pos hb] at he
        refine s_fault fun H2 f hf hE2 hrw => ?_
        exact hk _ _ ⟨(Nb.ex hE).tr (Nb.ex hE2), .inr ⟨n, he, fault_out (by omega) hf hrw⟩⟩
      · rw [if_neg (by rw [hb]; simp)] at he
        refine s_add (kind := 2) hr (by omega) hs ht (by omega) fun l' H2 hR hN => ?_
        exact hk _ _ ⟨(Nb.ex hE).tr hN, .inl ⟨2, _, l', he, rfl, hR⟩⟩
  by_cases hbig : decL 0 (((bs s).drop p).take n) > 9223372036854775807
  · rw [if_neg (by omega)] at hpi
    rw [if_pos (.inl hbig)] at he
    refine s_ParseInt_range hg hsz2 hpi fun H1 v q hE => ?_
    have z := hE.size
    refine Jn.mk (fun j H' => H1 = H' ∧ j = true) (fun kk hkk => .inr ⟨⟨_, _, rfl⟩, hkk _ _ ⟨rfl, rfl⟩⟩) ?_
    rintro j _ ⟨rfl, rfl⟩
    refine Ld_int (h.ext hE).c1 (s_fault fun H2 f hf hE2 hrw => ?_)
    exact hk _ _ ⟨(Nb.ex hE).tr (Nb.ex hE2), .inr ⟨0, he, fault_out (by omega) hf hrw⟩⟩
  · rw [if_pos (by omega)] at hpi
    refine s_ParseInt_ok hsz2 hpi fun H1 hE => ?_
    have z := hE.size
    refine Jn.mk (fun j H' => H1 = H' ∧ j = decide (n > 1 ∧ c = 48)) (fun kk hkk => .inl ⟨rfl, ?_⟩) ?_
    · refine Br_dec (fun h1 => StrI_bs (p := 0) (c := c) (t := t') ?_ rfl (hkk _ _ ⟨rfl, ?_⟩)) fun h1 => hkk _ _ ⟨rfl, (decide_eq_false (by omega)).symm⟩
      · rw [List.drop_zero]; exact ht'
      · rw [show (((c.toNat : Int)) == 48) = (c == UInt8.ofNat 48) from beq_byte c 48 (by decide), Bool.eq_iff_iff]
        simp only [beq_iff_eq, decide_eq_true_eq]
        exact ⟨fun e => ⟨by omega, e⟩, fun e => e.2⟩
    · rintro j _ ⟨rfl, rfl⟩
      refine Br_dec (fun h2 => ?_) fun h2 => tail H1 hE hbig h2
      rw [if_pos (.inr h2)] at he
      refine Ld_int (h.ext hE).c1 (s_fault fun H2 f hf hE2 hrw => ?_)
      exact hk _ _ ⟨(Nb.ex hE).tr (Nb.ex hE2), .inr ⟨0, he, fault_out (by omega) hf hrw⟩⟩
/-- Another place. -/
theorem Rdr.go {H' : Heap} {q : Nat} (h : Rdr lo H b s p ts l) (hU : Upd (· = b) H H') (hr : Row H' b T_lex_reader ([.string s, .int .i64 (p : Nat), slV l].set 1 (.int .i64 (q : Nat)))) : Rdr lo H' b s q ts l :=
  ⟨hr, h.vec.upd hU fun c hc e => vecN_ne h.vec h.row (by decide) (e ▸ hc), h.lb, h.ll⟩
theorem s_skip (h : Rdr lo H b s p ts l) (hlo : lo ≤ H.size) (hg : GE lo H) (hs : s.size ≤ 8000) (hp : p ≤ s.size) {k : Option Addr → Heap → Prop}
    (hk : ∀ r H', Nb lo H H' → (∃ q, p ≤ q ∧ q ≤ s.size ∧ r = none ∧ Rdr lo H' b s q ts l ∧ lexL p ((bs s).drop p) = lexL q ((bs s).drop q) ∧ Stop ((bs s).drop q)) ∨ (∃ e, FaultAt lo H' r e 90 ∧ lexL p ((bs s).drop p) = .error e) → k r H') :
    CallT Pg f_lex_reader_skip [.pointer (some (adr b))] (.one (.c .ptr)) H k := by
  refine c_lex_reader_skip _ ?_
  unfold v_lex_reader_skip
  simp only [NilCk_some, adr_add]
  refine LoopT.ghost (fun m _ H' => ∃ q, m = s.size - q ∧ p ≤ q ∧ q ≤ s.size ∧ Rdr lo H' b s q ts l ∧ lexL p ((bs s).drop p) = lexL q ((bs s).drop q) ∧ Nb lo H H') _ ⟨p, rfl, Nat.le_refl _, hp, h, rfl, .refl _ _⟩ ?_
  rintro next _ _ H1 ⟨q, rfl, hpq, hq, hr, hl, hN⟩ hnext
  have hz := hN.size
  have hbl := h.lb
  refine Ld_int hr.c1 (Ld_str hr.c0 (Br_dec (fun hlt => ?_) fun hge => ?_))
  · rcases drop_cases (bs s) q with ⟨e, _⟩ | ⟨c, t, hd, _⟩
    · rw [bs_size] at e; omega
    have hnx : ∀ n, Lex.evL ((bs s).drop q) = .skip n → 1 ≤ n → q + n ≤ s.size → ∀ {K : Heap → Prop}, (∀ H', (∃ m', m' < s.size - q ∧ ∃ q', m' = s.size - q' ∧ p ≤ q' ∧ q' ≤ s.size ∧ Rdr lo H' b s q' ts l ∧ lexL p ((bs s).drop p) = lexL q' ((bs s).drop q') ∧ Nb lo H H') → K H') → ∀ x : Int, x = ((q + n : Nat) : Int) → St ⟨b, 1, none⟩ (.int .i64 x) H1 K := by
      intro n hev hn hle K hK x hx
      subst hx
      refine St_row hr.row (by simp) fun H2 hU _ hr2 => hK H2 ⟨s.size - (q + n), by omega, q + n, rfl, by omega, hle, hr.go hU hr2, ?_, hN.tr (hU.mono fun c _ e => by subst e; exact hbl)⟩
      rw [hl, lexL_skip hd (by rw [← hd]; exact hev) hn]
    refine Jn_in (s_rest hr hq (Jn_in ?_))
    refine StrI_bs (p := 0) (c := c) (t := t) (by rw [bs_mk, List.drop_zero]; exact hd) rfl (s_IndexByte (Jn_in ?_))
    have hi := indexByte_mem [32, 9, 10, 13] c
    refine Br_dec (fun hb => ?_) fun hb => s_HasPrefix (Jn_in ?_)
    · have hb2 : blankC c = true := by
        have := hi.1 hb
        unfold blankC
        simp only [List.mem_cons, List.not_mem_nil, or_false] at this
        rcases this with rfl | rfl | rfl | rfl <;> rfl
      have hev : Lex.evL ((bs s).drop q) = .skip 1 := by rw [hd]; unfold Lex.evL; dsimp only; rw [hb2]; rfl
      refine Ld_int hr.c1 (hnx 1 hev (by omega) (by omega) (fun H' ⟨m', h1, h2⟩ => hnext _ _ _ h1 h2) _ ?_)
      rw [wrap_i64_id] <;> omega
    · have hb2 : blankC c = false := by
        have h1 : ¬ c ∈ [32, 9, 10, 13] := fun e => hb (hi.2 e)
        simp only [List.mem_cons, List.not_mem_nil, or_false, not_or] at h1
        unfold blankC
        simp [h1]
      have hev : Lex.evL ((bs s).drop q) = match remL ((bs s).drop q) with | .to n => .skip n | .endless => .err 0 | .no => tokE ((bs s).drop q) := by
        rw [hd]; unfold Lex.evL; dsimp only; rw [hb2]; rfl
      refine Br.mk (fun h1 => ?_) fun h1 => ?_
      · have hrm : remL ((bs s).drop q) = .to (runL (fun c => c != 10) ((bs s).drop q)) := by unfold remL; exact if_pos h1
        rw [hrm] at hev
        have hle := (remL_le hrm)
        rw [List.length_drop, bs_size] at hle
        refine s_Cut (hg.nb (by have := hg.lt; omega) hN) ?_ ?_
        · show ((bs s).drop q).length < _
          simp; omega
        refine Ld_int hr.c1 (hnx _ hev (by omega) (by omega) (fun H' ⟨m', h1, h2⟩ => hnext _ _ _ h1 h2) _ ?_)
        have hc : ((⟨⟨(Lib.cut (bs ⟨⟨(bs s).drop q⟩⟩) (bs ⟨#[10]⟩)).1⟩⟩ : ByteArray)).size = runL (fun c => c != 10) ((bs s).drop q) := cut_line _
        rw [hc]
        rw [wrap_i64_id] <;> omega
      · refine s_HasPrefix (Br.mk (fun h2 => ?_) fun h2 => ?_)
        · obtain ⟨u, hu⟩ := hp2 (r := (bs s).drop q) h2
          have hlen := congrArg List.length hu
          simp only [List.length_drop, List.length_cons, bs_size] at hlen
          have hsz : ((⟨⟨(bs s).drop q⟩⟩ : ByteArray)).size = s.size - q := by
            show ((bs s).drop q).length = _
            simp
          refine StrS_bs (a := 2) (b := s.size - q) rfl (by rw [hsz]) (by omega) (by rw [hsz]; exact Nat.le_refl _) ?_
          have ey : ((bs ⟨⟨(bs s).drop q⟩⟩).drop 2).take (s.size - q - 2) = ((bs s).drop q).drop 2 := by
            rw [bs_mk, List.take_of_length_le]; simp only [List.length_drop, bs_size]; exact Nat.le_refl _
          rw [ey]
          obtain ⟨ce1, ce2⟩ := cut_end (((bs s).drop q).drop 2)
          have hrm : remL ((bs s).drop q) = if 0 ≤ Lib.index (((bs s).drop q).drop 2) [42, 47] then .to ((Lib.index (((bs s).drop q).drop 2) [42, 47]).toNat + 4) else .endless := by
            unfold remL; rw [if_neg (fun e => by rw [show Lib.hasPrefix ((bs s).drop q) [47, 47] = false from h1] at e; cases e)]; exact if_pos h2
          refine s_Cut (hg.nb (by have := hg.lt; omega) hN) ?_ ?_
          · show (((bs s).drop q).drop 2).length < _
            simp; omega
          by_cases hin : 0 ≤ Lib.index (((bs s).drop q).drop 2) [42, 47]
          · rw [if_pos hin] at hrm
            rw [hrm] at hev
            have hle := (remL_le hrm)
            rw [List.length_drop, bs_size] at hle
            obtain ⟨c1, c2⟩ := ce1 hin
            have hc1 : (Lib.cut (bs ⟨⟨((bs s).drop q).drop 2⟩⟩) (bs ⟨#[42, 47]⟩)).2.2 = true := c1
            have hc2 : ((⟨⟨(Lib.cut (bs ⟨⟨((bs s).drop q).drop 2⟩⟩) (bs ⟨#[42, 47]⟩)).1⟩⟩ : ByteArray)).size = (Lib.index (((bs s).drop q).drop 2) [42, 47]).toNat := c2
            dsimp only
            rw [hc1]
            refine Ld_int hr.c1 (Lt.mk rfl (Lt.mk rfl (hnx _ hev (by omega) (by omega) (fun H' ⟨m', h1, h2⟩ => hnext _ _ _ h1 h2) _ ?_)))
            rw [hc2]
            rw [wrap_i64_id (x := 4 + _) (by omega) (by omega), wrap_i64_id] <;> omega
          · rw [if_neg hin] at hrm
            rw [hrm] at hev
            have hc1 : (Lib.cut (bs ⟨⟨((bs s).drop q).drop 2⟩⟩) (bs ⟨#[42, 47]⟩)).2.2 = false := ce2 hin
            dsimp only
            rw [hc1]
            refine Ld_int hr.c1 (s_fault fun H2 f hf hE2 hrw => ?_)
            refine hk _ _ (hN.tr (Nb.ex hE2)) (.inr ⟨q, fault_out (by omega) hf hrw, ?_⟩)
            rw [hl, lexL_err hd (by rw [← hd]; exact hev)]
            rfl
        · have hrm : remL ((bs s).drop q) = .no := by
            unfold remL
            rw [if_neg (fun e => by rw [show Lib.hasPrefix ((bs s).drop q) [47, 47] = false from h1] at e; cases e), if_neg (fun e => by rw [show Lib.hasPrefix ((bs s).drop q) [47, 42] = false from h2] at e; cases e)]
          exact hk _ _ hN (.inl ⟨q, hpq, hq, rfl, hr, hl, .inr ⟨c, t, hd, hb2, hrm⟩⟩)
  · have e : q = s.size := by omega
    have hnil : (bs s).drop q = [] := List.drop_eq_nil_of_le (by rw [bs_size]; omega)
    exact hk _ _ hN (.inl ⟨q, hpq, hq, rfl, hr, hl, .inl hnil⟩)
end Go.Proofs.YtlkmmplgfjicjaaDoor
