/-
  The lexer's methods that take a token, or go over blanks and remarks.
-/
import Derived.Test.YtfpmgpblhhcpgaaGreatDoorLexB
import Derived.Test.YtfpmgpblhhcpgaaGreatDoorHcLists
import Derived.Lib.Space
namespace Go.Proofs.YtfpmgpblhhcpgaaGreatDoor
set_option linter.unusedVariables false
set_option linter.unusedSimpArgs false
set_option maxRecDepth 100000
section
open Hc Hc.Lex
def FaultAt (lo : Nat) (H : Heap) (r : Option Addr) (a e : Nat) : Prop := ∃ f, r = some (adr f) ∧ lo ≤ f ∧ Row H f TQac [.int .i64 (a : Nat), .int .i64 (e : Nat)]
def TokOut (lo : Nat) (H H' : Heap) (b : Nat) (s : ByteArray) (p : Nat) (ts : List Tk) (r : Option Addr) : Prop :=
  Nb lo H H' ∧ ((∃ k n l', tokE ((bs s).drop p) = .tok k n ∧ r = none ∧ Rdr lo H' b s (p + n) (ts ++ [⟨k, ((bs s).drop p).take n, p⟩]) l') ∨ (∃ n, tokE ((bs s).drop p) = .err n ∧ FaultAt lo H' r (p + n) 90))
variable {lo : Nat} {H : Heap} {b : Nat} {s : ByteArray} {p : Nat} {ts : List Tk} {l : Sl}
theorem fault_out (hlo : lo ≤ H.size) {H' : Heap} {f : Nat} (hf : f = H.size) {x : Nat} (hr : Row H' f TQac [.int .i64 (x : Nat), .int .i64 90]) : FaultAt lo H' (some (adr f)) x 90 := ⟨f, rfl, by omega, hr⟩
theorem Rdr.ps {c : UInt8} {t : Bs} (hd : (bs s).drop p = c :: t) : p < s.size ∧ s.size = p + (t.length + 1) := by
  have := drop_length hd
  rw [bs_size] at this
  exact this
theorem s_symbol (h : Rdr lo H b s p ts l) (hlo : lo ≤ H.size) (hs : s.size ≤ 8000) (ht : ts.length ≤ 9000) {c : UInt8} {t : Bs} (hd : (bs s).drop p = c :: t) (hc1 : letterC c = false) (hc2 : digitC c = false) {k : Option Addr → Heap → Prop}
    (hk : ∀ r H', TokOut lo H H' b s p ts r → k r H') : CallT Pg fQbt [.pointer (some (adr b))] (.one (.c .ptr)) H k := by
  refine cQbj _ ?_
  unfold vQbj
  simp only [NilCk_some, adr_add]
  obtain ⟨hp, hsz⟩ := Rdr.ps hd
  refine s_sign h hp fun H1 hE => ?_
  have h1 := h.ext hE
  have z := hE.size
  have he : tokE ((bs s).drop p) = if signL ((bs s).drop p) = 0 then .err 0 else .tok 3 (signL ((bs s).drop p)) := by
    rw [hd]; unfold tokE; dsimp only; rw [hc1, hc2]; rfl
  by_cases h0 : signL ((bs s).drop p) = 0
  · rw [if_pos h0] at he
    rw [h0]
    refine Ld_int h1.c1 (s_fault fun H2 f hf hE2 hr => ?_)
    exact hk _ _ ⟨(Nb.ex hE).tr (Nb.ex hE2), .inr ⟨0, he, fault_out (by omega) hf hr⟩⟩
  · rw [if_neg h0] at he
    have hle := signL_le ((bs s).drop p)
    rw [List.length_drop, bs_size] at hle
    rw [show (((signL ((bs s).drop p) : Nat) : Int) == 0) = false from beq_eq_false_iff_ne.2 (by omega)]
    refine s_add (kind := 3) h1 (by omega) hs ht (by omega) fun l' H2 hR hN => ?_
    exact hk _ _ ⟨(Nb.ex hE).tr hN, .inl ⟨3, _, l', he, rfl, hR⟩⟩
theorem s_word (h : Rdr lo H b s p ts l) (hlo : lo ≤ H.size) (hs : s.size ≤ 8000) (ht : ts.length ≤ 9000) {c : UInt8} {t : Bs} (hd : (bs s).drop p = c :: t) (hc1 : letterC c = true) {k : Option Addr → Heap → Prop}
    (hk : ∀ r H', TokOut lo H H' b s p ts r → k r H') : CallT Pg fQbu [.pointer (some (adr b))] (.one (.c .ptr)) H k := by
  refine cQbk _ ?_
  unfold vQbk
  simp only [NilCk_some, adr_add]
  obtain ⟨hp, hsz⟩ := Rdr.ps hd
  refine s_while h (by omega) hs (pr := wordC) (fun _ _ _ hk => s_wordC hk) ?_
  have he : tokE ((bs s).drop p) = if runL wordC ((bs s).drop p) > 16 then .err 0 else .tok 1 (runL wordC ((bs s).drop p)) := by
    rw [hd]; unfold tokE; dsimp only; rw [hc1]; rfl
  refine Br_dec (fun h0 => ?_) fun h0 => ?_
  · rw [if_pos (by omega)] at he
    refine Ld_int h.c1 (s_fault fun H2 f hf hE2 hr => ?_)
    exact hk _ _ ⟨Nb.ex hE2, .inr ⟨0, he, fault_out hlo hf hr⟩⟩
  · rw [if_neg (by omega)] at he
    have hle := runL_le wordC ((bs s).drop p)
    rw [List.length_drop, bs_size] at hle
    refine s_add (kind := 1) h hlo hs ht (by omega) fun l' H2 hR hN => ?_
    exact hk _ _ ⟨hN, .inl ⟨1, _, l', he, rfl, hR⟩⟩
theorem s_number (h : Rdr lo H b s p ts l) (hlo : lo ≤ H.size) (hg : GE lo H) (hs : s.size ≤ 8000) (ht : ts.length ≤ 9000) {c : UInt8} {t : Bs} (hd : (bs s).drop p = c :: t) (hc1 : letterC c = false) (hc2 : digitC c = true) {k : Option Addr → Heap → Prop}
    (hk : ∀ r H', TokOut lo H H' b s p ts r → k r H') : CallT Pg fQbv [.pointer (some (adr b))] (.one (.c .ptr)) H k := by
  refine cQbl _ ?_
  unfold vQbl
  simp only [NilCk_some, adr_add]
  obtain ⟨hp, hsz⟩ := Rdr.ps hd
  refine s_while h (by omega) hs (pr := digitC) (fun _ _ _ hk => s_digit hk) ?_
  have hle := runL_le digitC ((bs s).drop p)
  rw [List.length_drop, bs_size] at hle
  have hpos : 1 ≤ runL digitC ((bs s).drop p) := by rw [hd]; exact runL_pos hc2
  have hall : ∀ x ∈ ((bs s).drop p).take (runL digitC ((bs s).drop p)), digitC x = true := fun x hx => runL_all hx
  have he : tokE ((bs s).drop p) = (if decL 0 (((bs s).drop p).take (runL digitC ((bs s).drop p))) > 9223372036854775807 ∨ (runL digitC ((bs s).drop p) > 1 ∧ c = 48) then .err 0
       else if badNext (((bs s).drop p).drop (runL digitC ((bs s).drop p))) then .err (runL digitC ((bs s).drop p)) else .tok 2 (runL digitC ((bs s).drop p))) := by
    rw [hd]; unfold tokE; dsimp only; rw [hc1, hc2]; rfl
  generalize hn : runL digitC ((bs s).drop p) = n at *
  refine Ld_str h.c0 (Ld_int h.c1 (Ld_int h.c1 (Lt.mk (u := ((p + n : Nat) : Int)) (by rw [wrap_i64_id] <;> omega) (StrS_bs rfl rfl (by omega) (by omega) ?_))))
  rw [show p + n - p = n by omega]
  have hy : ∃ t', ((bs s).drop p).take n = c :: t' := by
    rw [hd]
    obtain ⟨m, rfl⟩ : ∃ m, n = m + 1 := ⟨n - 1, by omega⟩
    exact ⟨t.take m, rfl⟩
  obtain ⟨t', ht'⟩ := hy
  have hpi := parse_digits hall (by rw [ht']; simp)
  have hsz2 : ((⟨⟨((bs s).drop p).take n⟩⟩ : ByteArray)).size ≤ 8000 := by
    show (((bs s).drop p).take n).length ≤ 8000
    simp; omega
  -- behind the number
  have tail : ∀ H1, Ext H H1 → ¬ decL 0 (((bs s).drop p).take n) > 9223372036854775807 → ¬ (n > 1 ∧ c = 48) →
      Ld (.int .i64) ⟨b, 1, none⟩ H1 fun (x5 : Int) =>
      Lt (IntKind.wrap .i64 (x5 + (n : Nat))) fun t2 =>
      Jn (σ := Bool) (fun kk2 =>
        Ld .str (adr b) H1 fun (x6 : ByteArray) =>
        Br (decide (t2 < (x6.size : Int))) (
          Ld .str (adr b) H1 fun (x7 : ByteArray) =>
          StrI x7 t2 fun b2 =>
          CallT Pg fQbr [.int .u8 b2] (.one (.c .bool)) H1 fun (r4 : Bool) H6 =>
          Br r4 (
            kk2 true H6) (
            Ld .str (adr b) H6 fun (x8 : ByteArray) =>
            StrI x8 t2 fun b3 =>
            kk2 (b3 == 95) H6)) (
          kk2 false H1)) fun j2 H5 =>
      Br j2 (
        CallT Pg fQbi [.int .i64 t2, .int .i64 90] (.one (.c .ptr)) H5 fun (r5 : Option Addr) H7 =>
        k r5 H7) (
        CallT Pg fQbw [.pointer (some (adr b)), .int .i64 2, .int .i64 (n : Nat)] (.tup []) H5 fun (r6 : Unit) H8 =>
        k none H8) := by
    intro H1 hE h1 h2
    have hr := h.ext hE
    have z := hE.size
    rw [if_neg (by rintro (e | e); exact h1 e; exact h2 e)] at he
    refine Ld_int hr.c1 (Lt.mk (u := ((p + n : Nat) : Int)) (by rw [wrap_i64_id] <;> omega) (Jn.mk (fun j H' => H1 = H' ∧ j = badNext ((bs s).drop (p + n))) (fun kk hkk => ?_) ?_))
    · refine Ld_str hr.c0 (Br_dec (fun hlt => ?_) fun hge => hkk _ _ ⟨rfl, ?_⟩)
      · rcases drop_cases (bs s) (p + n) with ⟨e, _⟩ | ⟨d, u, hdu, _⟩
        · rw [bs_size] at e; omega
        · refine Ld_str hr.c0 (StrI_bs hdu rfl (s_letter (Br.mk (fun hl => hkk _ _ ⟨rfl, by rw [hdu]; simp [badNext, hl]⟩) fun hl => Ld_str hr.c0 (StrI_bs hdu rfl (hkk _ _ ⟨rfl, ?_⟩)))))
          rw [hdu]; unfold badNext; dsimp only; rw [hl]; exact beq_byte d 95 (by decide)
      · rw [List.drop_eq_nil_of_le (by rw [bs_size]; omega)]; rfl
    · rintro j _ ⟨rfl, rfl⟩
      rw [List.drop_drop] at he
      refine Br.mk (fun hb => ?_) fun hb => ?_
      · rw [if_pos hb] at he
        refine s_fault fun H2 f hf hE2 hrw => ?_
        exact hk _ _ ⟨(Nb.ex hE).tr (Nb.ex hE2), .inr ⟨n, he, fault_out (by omega) hf hrw⟩⟩
      · rw [if_neg (by rw [hb]; simp)] at he
        refine s_add (kind := 2) hr (by omega) hs ht (by omega) fun l' H2 hR hN => ?_
        exact hk _ _ ⟨(Nb.ex hE).tr hN, .inl ⟨2, _, l', he, rfl, hR⟩⟩
  by_cases hbig : decL 0 (((bs s).drop p).take n) > 9223372036854775807
  · rw [if_neg (by omega)] at hpi
    rw [if_pos (.inl hbig)] at he
    refine s_ParseInt_range hg hsz2 hpi fun H1 v q hE => ?_
    have z := hE.size
    refine Jn.mk (fun j H' => H1 = H' ∧ j = true) (fun kk hkk => .inr ⟨⟨_, _, rfl⟩, hkk _ _ ⟨rfl, rfl⟩⟩) ?_
    rintro j _ ⟨rfl, rfl⟩
    refine Ld_int (h.ext hE).c1 (s_fault fun H2 f hf hE2 hrw => ?_)
    exact hk _ _ ⟨(Nb.ex hE).tr (Nb.ex hE2), .inr ⟨0, he, fault_out (by omega) hf hrw⟩⟩
  · rw [if_pos (by omega)] at hpi
    refine s_ParseInt_ok hsz2 hpi fun H1 hE => ?_
    have z := hE.size
    refine Jn.mk (fun j H' => H1 = H' ∧ j = decide (n > 1 ∧ c = 48)) (fun kk hkk => .inl ⟨rfl, ?_⟩) ?_
    · refine Br_dec (fun h1 => StrI_bs (p := 0) (c := c) (t := t') ?_ rfl (hkk _ _ ⟨rfl, ?_⟩)) fun h1 => hkk _ _ ⟨rfl, (decide_eq_false (by omega)).symm⟩
      · rw [List.drop_zero]; exact ht'
      · rw [show (((c.toNat : Int)) == 48) = (c == UInt8.ofNat 48) from beq_byte c 48 (by decide), Bool.eq_iff_iff]
        simp only [beq_iff_eq, decide_eq_true_eq]
        exact ⟨fun e => ⟨by omega, e⟩, fun e => e.2⟩
    · rintro j _ ⟨rfl, rfl⟩
      refine Br_dec (fun h2 => ?_) fun h2 => tail H1 hE hbig h2
      rw [if_pos (.inr h2)] at he
      refine Ld_int (h.ext hE).c1 (s_fault fun H2 f hf hE2 hrw => ?_)
      exact hk _ _ ⟨(Nb.ex hE).tr (Nb.ex hE2), .inr ⟨0, he, fault_out (by omega) hf hrw⟩⟩
theorem Rdr.go {H' : Heap} {q : Nat} (h : Rdr lo H b s p ts l) (hU : Upd (· = b) H H') (hr : Row H' b TQah ([.string s, .int .i64 (p : Nat), slV l].set 1 (.int .i64 (q : Nat)))) : Rdr lo H' b s q ts l :=
  ⟨hr, h.vec.upd hU fun c hc e => vecN_ne h.vec h.row (by decide) (e ▸ hc), h.lb, h.ll⟩
theorem s_skip (h : Rdr lo H b s p ts l) (hlo : lo ≤ H.size) (hg : GE lo H) (hs : s.size ≤ 8000) (hp : p ≤ s.size) {k : Option Addr → Heap → Prop}
    (hk : ∀ r H', Nb lo H H' → (∃ q, p ≤ q ∧ q ≤ s.size ∧ r = none ∧ Rdr lo H' b s q ts l ∧ lexL p ((bs s).drop p) = lexL q ((bs s).drop q) ∧ Stop ((bs s).drop q)) ∨ (∃ e, FaultAt lo H' r e 90 ∧ lexL p ((bs s).drop p) = .error e) → k r H') :
    CallT Pg fQbq [.pointer (some (adr b))] (.one (.c .ptr)) H k := by
  refine cQbg _ ?_
  unfold vQbg
  simp only [NilCk_some, adr_add]
  refine LoopT.ghost (fun m _ H' => ∃ q, m = s.size - q ∧ p ≤ q ∧ q ≤ s.size ∧ Rdr lo H' b s q ts l ∧ lexL p ((bs s).drop p) = lexL q ((bs s).drop q) ∧ Nb lo H H') _ ⟨p, rfl, Nat.le_refl _, hp, h, rfl, .refl _ _⟩ ?_
  rintro next _ _ H1 ⟨q, rfl, hpq, hq, hr, hl, hN⟩ hnext
  have hz := hN.size
  have hbl := h.lb
  refine Ld_int hr.c1 (Ld_str hr.c0 (Br_dec (fun hlt => ?_) fun hge => ?_))
  · rcases drop_cases (bs s) q with ⟨e, _⟩ | ⟨c, t, hd, _⟩
    · rw [bs_size] at e; omega
    have hnx : ∀ n, Lex.evL ((bs s).drop q) = .skip n → 1 ≤ n → q + n ≤ s.size → ∀ {K : Heap → Prop}, (∀ H', (∃ m', m' < s.size - q ∧ ∃ q', m' = s.size - q' ∧ p ≤ q' ∧ q' ≤ s.size ∧ Rdr lo H' b s q' ts l ∧ lexL p ((bs s).drop p) = lexL q' ((bs s).drop q') ∧ Nb lo H H') → K H') → ∀ x : Int, x = ((q + n : Nat) : Int) → St ⟨b, 1, none⟩ (.int .i64 x) H1 K := by
      intro n hev hn hle K hK x hx
      subst hx
      refine St_row hr.row (by simp) fun H2 hU _ hr2 => hK H2 ⟨s.size - (q + n), by omega, q + n, rfl, by omega, hle, hr.go hU hr2, ?_, hN.tr (hU.mono fun c _ e => by subst e; exact hbl)⟩
      rw [hl, lexL_skip hd (by rw [← hd]; exact hev) hn]
    refine Jn_in (s_rest hr hq (Jn_in ?_))
    refine StrI_bs (p := 0) (c := c) (t := t) (by rw [bs_mk, List.drop_zero]; exact hd) rfl (s_IndexByte (Jn_in ?_))
    have hi := indexByte_mem [32, 9, 10, 13] c
    refine Br_dec (fun hb => ?_) fun hb => s_HasPrefix (Jn_in ?_)
    · have hb2 : blankC c = true := by
        have := hi.1 hb
        unfold blankC
        simp only [List.mem_cons, List.not_mem_nil, or_false] at this
        rcases this with rfl | rfl | rfl | rfl <;> rfl
      have hev : Lex.evL ((bs s).drop q) = .skip 1 := by rw [hd]; unfold Lex.evL; dsimp only; rw [hb2]; rfl
      refine Ld_int hr.c1 (hnx 1 hev (by omega) (by omega) (fun H' ⟨m', h1, h2⟩ => hnext _ _ _ h1 h2) _ ?_)
      rw [wrap_i64_id] <;> omega
    · have hb2 : blankC c = false := by
        have h1 : ¬ c ∈ [32, 9, 10, 13] := fun e => hb (hi.2 e)
        simp only [List.mem_cons, List.not_mem_nil, or_false, not_or] at h1
        unfold blankC
        simp [h1]
      have hev : Lex.evL ((bs s).drop q) = match remL ((bs s).drop q) with | .to n => .skip n | .endless => .err 0 | .no => tokE ((bs s).drop q) := by
        rw [hd]; unfold Lex.evL; dsimp only; rw [hb2]; rfl
      refine Br.mk (fun h1 => ?_) fun h1 => ?_
      · have hrm : remL ((bs s).drop q) = .to (runL (fun c => c != 10) ((bs s).drop q)) := by unfold remL; exact if_pos h1
        rw [hrm] at hev
        have hle := (remL_le hrm)
        rw [List.length_drop, bs_size] at hle
        refine s_Cut (hg.nb (by have := hg.lt; omega) hN) ?_ ?_
        · show ((bs s).drop q).length < _
          simp; omega
        refine Ld_int hr.c1 (hnx _ hev (by omega) (by omega) (fun H' ⟨m', h1, h2⟩ => hnext _ _ _ h1 h2) _ ?_)
        have hc : ((⟨⟨(Lib.cut (bs ⟨⟨(bs s).drop q⟩⟩) (bs ⟨#[10]⟩)).1⟩⟩ : ByteArray)).size = runL (fun c => c != 10) ((bs s).drop q) := cut_line _
        rw [hc]
        rw [wrap_i64_id] <;> omega
      · refine s_HasPrefix (Br.mk (fun h2 => ?_) fun h2 => ?_)
        · obtain ⟨u, hu⟩ := hp2 (r := (bs s).drop q) h2
          have hlen := congrArg List.length hu
          simp only [List.length_drop, List.length_cons, bs_size] at hlen
          have hsz : ((⟨⟨(bs s).drop q⟩⟩ : ByteArray)).size = s.size - q := by
            show ((bs s).drop q).length = _
            simp
          refine StrS_bs (a := 2) (b := s.size - q) rfl (by rw [hsz]) (by omega) (by rw [hsz]; exact Nat.le_refl _) ?_
          have ey : ((bs ⟨⟨(bs s).drop q⟩⟩).drop 2).take (s.size - q - 2) = ((bs s).drop q).drop 2 := by
            rw [bs_mk, List.take_of_length_le]; simp only [List.length_drop, bs_size]; exact Nat.le_refl _
          rw [ey]
          obtain ⟨ce1, ce2⟩ := cut_end (((bs s).drop q).drop 2)
          have hrm : remL ((bs s).drop q) = if 0 ≤ Lib.index (((bs s).drop q).drop 2) [42, 47] then .to ((Lib.index (((bs s).drop q).drop 2) [42, 47]).toNat + 4) else .endless := by
            unfold remL; rw [if_neg (fun e => by rw [show Lib.hasPrefix ((bs s).drop q) [47, 47] = false from h1] at e; cases e)]; exact if_pos h2
          refine s_Cut (hg.nb (by have := hg.lt; omega) hN) ?_ ?_
          · show (((bs s).drop q).drop 2).length < _
            simp; omega
          by_cases hin : 0 ≤ Lib.index (((bs s).drop q).drop 2) [42, 47]
          · rw [if_pos hin] at hrm
            rw [hrm] at hev
            have hle := (remL_le hrm)
            rw [List.length_drop, bs_size] at hle
            obtain ⟨c1, c2⟩ := ce1 hin
            have hc1 : (Lib.cut (bs ⟨⟨((bs s).drop q).drop 2⟩⟩) (bs ⟨#[42, 47]⟩)).2.2 = true := c1
            have hc2 : ((⟨⟨(Lib.cut (bs ⟨⟨((bs s).drop q).drop 2⟩⟩) (bs ⟨#[42, 47]⟩)).1⟩⟩ : ByteArray)).size = (Lib.index (((bs s).drop q).drop 2) [42, 47]).toNat := c2
            dsimp only
            rw [hc1]
            refine Ld_int hr.c1 (Lt.mk rfl (Lt.mk rfl (hnx _ hev (by omega) (by omega) (fun H' ⟨m', h1, h2⟩ => hnext _ _ _ h1 h2) _ ?_)))
            rw [hc2]
            rw [wrap_i64_id (x := 4 + _) (by omega) (by omega), wrap_i64_id] <;> omega
          · rw [if_neg hin] at hrm
            rw [hrm] at hev
            have hc1 : (Lib.cut (bs ⟨⟨((bs s).drop q).drop 2⟩⟩) (bs ⟨#[42, 47]⟩)).2.2 = false := ce2 hin
            dsimp only
            rw [hc1]
            refine Ld_int hr.c1 (s_fault fun H2 f hf hE2 hrw => ?_)
            refine hk _ _ (hN.tr (Nb.ex hE2)) (.inr ⟨q, fault_out (by omega) hf hrw, ?_⟩)
            rw [hl, lexL_err hd (by rw [← hd]; exact hev)]
            rfl
        · have hrm : remL ((bs s).drop q) = .no := by
            unfold remL
            rw [if_neg (fun e => by rw [show Lib.hasPrefix ((bs s).drop q) [47, 47] = false from h1] at e; cases e), if_neg (fun e => by rw [show Lib.hasPrefix ((bs s).drop q) [47, 42] = false from h2] at e; cases e)]
          exact hk _ _ hN (.inl ⟨q, hpq, hq, rfl, hr, hl, .inr ⟨c, t, hd, hb2, hrm⟩⟩)
  · have e : q = s.size := by omega
    have hnil : (bs s).drop q = [] := List.drop_eq_nil_of_le (by rw [bs_size]; omega)
    exact hk _ _ hN (.inl ⟨q, hpq, hq, rfl, hr, hl, .inl hnil⟩)
end
section
open Hc Hc.Lex
structure Core (lo : Nat) (H0 H : Heap) (b : Nat) (s : ByteArray) (q : Nat) (ts : List Tk) (l : Sl) : Prop where
  rdr : Rdr lo H b s q ts l
  lex : lexL 0 (bs s) = pre ts (lexL q ((bs s).drop q))
  len : ts.length ≤ q
  le : q ≤ s.size
  nb : Nb lo H0 H
variable {lo : Nat} {H0 H : Heap} {b : Nat} {s : ByteArray} {q : Nat} {ts : List Tk} {l : Sl}
theorem Core.tok (h : Core lo H0 H b s q ts l) {c : UInt8} {t : Bs} (hd : (bs s).drop q = c :: t) (hst : Stop ((bs s).drop q)) {H' : Heap} {r : Option Addr} (ho : TokOut lo H H' b s q ts r) :
    (∃ n ts' l', r = none ∧ 1 ≤ n ∧ Core lo H0 H' b s (q + n) ts' l') ∨ (∃ e, FaultAt lo H' r e 90 ∧ lexL 0 (bs s) = .error e ∧ Nb lo H0 H') := by
  have hev := Stop.ev (hd ▸ hst)
  obtain ⟨hN, ⟨k, n, l', he, hr, hR⟩ | ⟨n, he, hF⟩⟩ := ho
  · have hle := tokE_le he
    rw [List.length_drop, bs_size] at hle
    rw [hd] at he
    refine .inl ⟨n, _, l', hr, hle.1, hR, ?_, ?_, by omega, h.nb.tr hN⟩
    · rw [h.lex, lexL_tok hd (hev.trans he) hle.1, pre_pre]
    · have := h.len
      simp; omega
  · rw [hd] at he
    refine .inr ⟨_, hF, ?_, h.nb.tr hN⟩
    rw [h.lex, lexL_err hd (hev.trans he)]; rfl
theorem s_all (h : Rdr lo H b s 0 [] l) (hlo : lo ≤ H.size) (hg : GE lo H) (hs : s.size ≤ 8000) {k : Option Addr → Heap → Prop}
    (hk : ∀ r H', Nb lo H H' → (∃ ts l, r = none ∧ Rdr lo H' b s s.size ts l ∧ lexL 0 (bs s) = .ok ts) ∨ (∃ e, FaultAt lo H' r e 90 ∧ lexL 0 (bs s) = .error e) → k r H') :
    CallT Pg fQbj [.pointer (some (adr b))] (.one (.c .ptr)) H k := by
  refine cQbf _ ?_
  unfold vQbf
  simp only [NilCk_some, adr_add]
  -- between two tokens
  have between : ∀ (q : Nat) (ts : List Tk) (l : Sl) (H1 : Heap) (jump : Nat → Option Addr → Heap → Prop), Core lo H H1 b s q ts l →
      (∀ ts l H2, Core lo H H2 b s s.size ts l → jump 1 none H2) →
      (∀ q' ts l H2 c t, q ≤ q' → Core lo H H2 b s q' ts l → (bs s).drop q' = c :: t → Stop ((bs s).drop q') → letterC c = true → jump 2 none H2) →
      (∀ q' ts l H2 c t, q ≤ q' → Core lo H H2 b s q' ts l → (bs s).drop q' = c :: t → Stop ((bs s).drop q') → letterC c = false → digitC c = true → jump 3 none H2) →
      (∀ q' ts l H2, q < q' → Core lo H H2 b s q' ts l → jump 4 none H2) →
      (∀ r e H2, FaultAt lo H2 r e 90 → lexL 0 (bs s) = .error e → Nb lo H H2 → jump 4 r H2) →
      CallT Pg fQbq [.pointer (some (adr b))] (.one (.c .ptr)) H1 fun (r1 : Option Addr) H1 =>
      Br (!r1.isNone) (
        k r1 H1) (
        Ld (.int .i64) ⟨b, 1, none⟩ H1 fun (x1 : Int) =>
        Ld .str (adr b) H1 fun (x2 : ByteArray) =>
        Br (x1 == (x2.size : Int)) (
          jump 1 r1 H1) (
          Ld .str (adr b) H1 fun (x3 : ByteArray) =>
          Ld (.int .i64) ⟨b, 1, none⟩ H1 fun (x4 : Int) =>
          StrI x3 x4 fun b1 =>
          CallT Pg fQbr [.int .u8 b1] (.one (.c .bool)) H1 fun (r2 : Bool) H2 =>
          Br r2 (
            jump 2 r1 H2) (
            CallT Pg fQbs [.int .u8 b1] (.one (.c .bool)) H2 fun (r3 : Bool) H3 =>
            Br r3 (
              jump 3 r1 H3) (
              CallT Pg fQbt [.pointer (some (adr b))] (.one (.c .ptr)) H3 fun (r4 : Option Addr) H4 =>
              jump 4 r4 H4)))) := by
    intro q ts l H1 jump hC h1 h2 h3 h4 h5
    have z := hC.nb.size
    have hlen := hC.len
    refine s_skip hC.rdr (by omega) (hg.nb hg.lt hC.nb) hs hC.le fun r H2 hN ho => ?_
    have z2 := hN.size
    rcases ho with ⟨q', hq, hq2, rfl, hR, hl, hst⟩ | ⟨e, hF, he⟩
    · have hC2 : Core lo H H2 b s q' ts l := ⟨hR, by rw [hC.lex, hl], by omega, hq2, hC.nb.tr hN⟩
      refine Ld_int hR.c1 (Ld_str hR.c0 ?_)
      by_cases hend : q' = s.size
      · subst hend
        rw [show ((((s.size : Nat) : Int)) == (s.size : Int)) = true from beq_self_eq_true _]
        exact h1 _ _ _ hC2
      · rw [show (((q' : Nat) : Int) == (s.size : Int)) = false from beq_eq_false_iff_ne.2 (by omega)]
        rcases drop_cases (bs s) q' with ⟨e, _⟩ | ⟨c, t, hd, _⟩
        · rw [bs_size] at e; omega
        refine Ld_str hR.c0 (Ld_int hR.c1 (StrI_bs hd rfl (s_letter (Br.mk (fun hc => h2 _ _ _ _ c t hq hC2 hd hst hc) fun hc => s_digit (Br.mk (fun hc2 => h3 _ _ _ _ c t hq hC2 hd hst hc hc2) fun hc2 => ?_)))))
        refine s_symbol hR (by omega) hs (by omega) hd hc hc2 fun r H3 ho => ?_
        rcases hC2.tok hd hst ho with ⟨n, ts', l', rfl, hn, hC3⟩ | ⟨e, hF, he, hN3⟩
        · exact h4 _ _ _ _ (by omega) hC3
        · exact h5 _ _ _ hF he hN3
    · obtain ⟨f, rfl, hf, hrow⟩ := hF
      refine hk _ _ (hC.nb.tr hN) (.inr ⟨e, ⟨f, rfl, hf, hrow⟩, ?_⟩)
      rw [hC.lex, he]; rfl
  have hC0 : Core lo H H b s 0 [] l := ⟨h, by rw [List.drop_zero, pre_nil], Nat.le_refl _, Nat.zero_le _, .refl _ _⟩
  refine JumpT.ghost (fun m lb f H1 => match lb with
    | 0 => ∃ q ts l, m = 3 * (s.size - q) + 1 ∧ Core lo H H1 b s q ts l
    | 1 => ∃ ts l, m = 0 ∧ Core lo H H1 b s s.size ts l
    | 2 => ∃ q ts l c t, m = 3 * (s.size - q) ∧ Core lo H H1 b s q ts l ∧ (bs s).drop q = c :: t ∧ Stop ((bs s).drop q) ∧ letterC c = true
    | 3 => ∃ q ts l c t, m = 3 * (s.size - q) ∧ Core lo H H1 b s q ts l ∧ (bs s).drop q = c :: t ∧ Stop ((bs s).drop q) ∧ letterC c = false ∧ digitC c = true
    | _ => (∃ q ts l, f = none ∧ m = 3 * (s.size - q) + 2 ∧ Core lo H H1 b s q ts l) ∨ (∃ e, m = 0 ∧ FaultAt lo H1 f e 90 ∧ lexL 0 (bs s) = .error e ∧ Nb lo H H1)) (fun jump hj => ?_) ?_
  · exact between 0 [] l H jump hC0 (fun ts l H2 hC => hj 0 1 _ _ ⟨ts, l, rfl, hC⟩) (fun q ts l H2 c t _ hC h1 h2 h3 => hj _ 2 _ _ ⟨q, ts, l, c, t, rfl, hC, h1, h2, h3⟩)
      (fun q ts l H2 c t _ hC h1 h2 h3 h4 => hj _ 3 _ _ ⟨q, ts, l, c, t, rfl, hC, h1, h2, h3, h4⟩) (fun q ts l H2 _ hC => hj _ 4 _ _ (.inl ⟨q, ts, l, rfl, rfl, hC⟩)) (fun r e H2 hF he hN => hj 0 4 _ _ (.inr ⟨e, rfl, hF, he, hN⟩))
  · intro pz hpz jump m f H1 hI hj
    simp only [List.mem_cons, List.not_mem_nil, or_false] at hpz
    rcases hpz with rfl | rfl | rfl | rfl | rfl
    · obtain ⟨q, ts, l, rfl, hC⟩ := hI
      have hq := hC.le
      exact between q ts l H1 jump hC (fun ts l H2 hC => hj 0 1 _ _ (by omega) ⟨ts, l, rfl, hC⟩) (fun q' ts l H2 c t hle hC h1 h2 h3 => hj _ 2 _ _ (by omega) ⟨q', ts, l, c, t, rfl, hC, h1, h2, h3⟩)
        (fun q' ts l H2 c t hle hC h1 h2 h3 h4 => hj _ 3 _ _ (by omega) ⟨q', ts, l, c, t, rfl, hC, h1, h2, h3, h4⟩) (fun q' ts l H2 hlt hC => hj _ 4 _ _ (by have := hC.le; omega) (.inl ⟨q', ts, l, rfl, rfl, hC⟩)) (fun r e H2 hF he hN => hj 0 4 _ _ (by omega) (.inr ⟨e, rfl, hF, he, hN⟩))
    · obtain ⟨ts, l, rfl, hC⟩ := hI
      have z := hC.nb.size
      have hlen := hC.len
      refine s_add (kind := 0) (n := 0) hC.rdr (by omega) hs (by omega) (by omega) fun l' H2 hR hN => ?_
      refine hk _ _ (hC.nb.tr hN) (.inl ⟨_, l', rfl, hR, ?_⟩)
      have hnil : (bs s).drop s.size = [] := List.drop_eq_nil_of_le (by rw [bs_size]; omega)
      rw [hC.lex, hnil, lexL_nil]; rfl
    · obtain ⟨q, ts, l, c, t, rfl, hC, hd, hst, hc⟩ := hI
      have z := hC.nb.size
      have hlen := hC.len
      have hle := hC.le
      obtain ⟨hp, _⟩ := Rdr.ps hd
      refine s_word hC.rdr (by omega) hs (by omega) hd hc fun r H2 ho => ?_
      rcases hC.tok hd hst ho with ⟨n, ts', l', rfl, hn, hC3⟩ | ⟨e, hF, he, hN3⟩
      · exact hj _ 4 _ _ (by have := hC3.le; omega) (.inl ⟨_, _, _, rfl, rfl, hC3⟩)
      · exact hj 0 4 _ _ (by omega) (.inr ⟨e, rfl, hF, he, hN3⟩)
    · obtain ⟨q, ts, l, c, t, rfl, hC, hd, hst, hc, hc2⟩ := hI
      have z := hC.nb.size
      have hlen := hC.len
      have hle := hC.le
      obtain ⟨hp, _⟩ := Rdr.ps hd
      dsimp only
      refine s_number hC.rdr (by omega) (hg.nb hg.lt hC.nb) hs (by omega) hd hc hc2 fun r H2 ho => ?_
      rcases hC.tok hd hst ho with ⟨n, ts', l', rfl, hn, hC3⟩ | ⟨e, ⟨f, rfl, hf, hrow⟩, he, hN3⟩
      · exact hj _ 0 _ _ (by have := hC3.le; omega) ⟨_, _, _, rfl, hC3⟩
      · exact hk _ _ hN3 (.inr ⟨e, ⟨f, rfl, hf, hrow⟩, he⟩)
    · rcases hI with ⟨q, ts, l, rfl, rfl, hC⟩ | ⟨e, rfl, ⟨f, rfl, hf, hrow⟩, he, hN⟩
      · exact hj _ 0 _ _ (by omega) ⟨q, ts, l, rfl, hC⟩
      · exact hk _ _ hN (.inr ⟨e, ⟨f, rfl, hf, hrow⟩, he⟩)
def lexS (s : ByteArray) : Except (Nat × Nat) (List Tk) :=
  if 8000 < s.size then .error (8000, 102) else match lexL 0 (bs s) with
    | .ok l => .ok l
    | .error e => .error (e, 90)
def LexOut (lo : Nat) (H : Heap) (s : ByteArray) (r : Sl) (v : Value) : Prop :=
  match lexS s with
  | .ok ts => v = .nilIface ∧ VecN H TQad 3 r (tokVs ts) ∧ ∀ c, r.a = some (adr c) → lo ≤ c
  | .error (a, e) => r = ⟨none, 0, 0⟩ ∧ ∃ f, v = .iface TQaa (.pointer (some (adr f))) ∧ lo ≤ f ∧ Row H f TQac [.int .i64 (a : Nat), .int .i64 (e : Nat)]
theorem s_Lex (hg : GE H.size H) {k : Sl × Value → Heap → Prop} (hk : ∀ r H', Ext H H' → LexOut H.size H' s r.1 r.2 → k r H') : CallT Pg fQbg [.string s] (.tup [(.c .sl), (.c .raw)]) H k := by
  refine cQbd _ ?_
  unfold vQbd
  have ofNb : ∀ {H'}, Nb H.size H H' → Ext H H' := fun h => h.mono fun b hb h => by omega
  refine Br_dec (fun hbig => ?_) fun hsmall => ?_
  · refine s_fault fun H1 f hf hE hr => hk _ _ hE ?_
    unfold LexOut lexS
    rw [if_pos (by omega)]
    exact ⟨rfl, f, rfl, by omega, hr⟩
  · refine Nw_row fun b1 H1 hb hE hz hr => ?_
    have hR : Rdr H.size H1 b1 s 0 [] ⟨none, 0, 0⟩ := ⟨hr, ⟨rfl, .inl ⟨rfl, rfl, rfl⟩, Nat.le_refl _⟩, by omega, fun c e => by cases e⟩
    refine s_all hR (by omega) (hg.ext hE) (by omega) fun r H2 hN ho => ?_
    have hE2 := ofNb ((Nb.ex hE).tr hN)
    rcases ho with ⟨ts, l, rfl, hR2, hl⟩ | ⟨e, ⟨f, rfl, hf, hrow⟩, he⟩
    · simp only [NilCk_some, adr_add]
      refine Ld_sl (s := l) hR2.c2 (hk _ _ hE2 ?_)
      unfold LexOut lexS
      rw [if_neg (by omega), hl]
      exact ⟨rfl, hR2.vec, hR2.ll⟩
    · refine hk _ _ hE2 ?_
      unfold LexOut lexS
      rw [if_neg (by omega), he]
      exact ⟨rfl, f, rfl, hf, hrow⟩
end
section
open Hc Hc.Lex
variable {lo : Nat} {H : Heap} {s : ByteArray} {p : Nat}
def remI (p : Nat) : Rem → Int
  | .no => p
  | .to n => (p + n : Nat)
  | .endless => -1
end
section
open Hc Hc.Lex
variable {lo : Nat} {H : Heap} {s : ByteArray} {p : Nat}
def sgs : List Bs := twos ++ ones.map fun c => [c]
structure RCore (lo : Nat) (H0 H : Heap) (s : ByteArray) (q : Nat) (ts : List Tk) (l : Sl) : Prop where
  vec : VecN H TQad 3 l (tokVs ts)
  ll : ∀ c, l.a = some (adr c) → lo ≤ c
  lex : lexL 0 (bs s) = pre ts (lexL q ((bs s).drop q))
  len : ts.length ≤ q
  le : q ≤ s.size
  nb : Nb lo H0 H
theorem RCore.ext {H0 H' : Heap} {q : Nat} {ts : List Tk} {l : Sl} (h : RCore lo H0 H s q ts l) (hE : Ext H H') : RCore lo H0 H' s q ts l :=
  ⟨h.vec.upd hE fun _ _ h => h, h.ll, h.lex, h.len, h.le, h.nb.tr (Nb.ex hE)⟩
def RefOut (lo : Nat) (H : Heap) (s : ByteArray) (r : Sl × Int × Int) : Prop :=
  match lexS s with
  | .ok ts => r.2 = (0, 0) ∧ VecN H TQad 3 r.1 (tokVs ts) ∧ ∀ c, r.1.a = some (adr c) → lo ≤ c
  | .error (a, e) => r.1 = ⟨none, 0, 0⟩ ∧ r.2.1 = (a : Nat) ∧ r.2.2 = (e : Nat) ∧ 1 ≤ e
end
end Go.Proofs.YtfpmgpblhhcpgaaGreatDoor
namespace Go.Proofs.YtfpmgpblhhcpgaaGreatDoor.Hc
set_option linter.unusedVariables false
set_option linter.unusedSimpArgs false
set_option maxRecDepth 100000
theorem RN.lt {α : Type} {f : α → List Value} {n : Nat} (hf : ∀ e, (f e).length = n) (hn : 0 < n) {H : Heap} {s : Sl} {xs : List α} (h : RN f n H s xs) (hx : xs ≠ []) {a : Addr} (ha : s.a = some a) : a.block < H.size := by
  have hr := h.rd
  unfold rdL at hr
  rw [ha] at hr
  cases xs with
  | nil => exact absurd rfl hx
  | cons x xs =>
    have hl := hf x
    cases hfx : f x with
    | nil => rw [hfx] at hl; simp at hl; omega
    | cons v vs =>
      rw [List.flatMap_cons, hfx] at hr
      have := lt_of_cell hr.1
      rwa [add_block] at this
def entsF : Nat → List Nat → List MapEntry
  | _, [] => []
  | n, d :: ds => { key := .int .i64 (d : Nat), val := .bool true, born := n } :: entsF (n + 1) ds
def MapI (H : Heap) (v : Value) (ds : List Nat) : Prop := (v = .map none ∧ ds = []) ∨ ∃ r, v = .map (some r) ∧ H[r]? = some (.map ⟨entsF 0 ds⟩ ds.length)
theorem MapI.upd {M : Nat → Prop} {H H' : Heap} (hu : Upd M H H') {v : Value} {ds : List Nat} (h : MapI H v ds) (hn : ∀ r, v = .map (some r) → ¬ M r) : MapI H' v ds := by
  rcases h with h | ⟨r, h1, h2⟩
  · exact .inl h
  · exact .inr ⟨r, h1, hu.keep h2 (hn r h1)⟩
end Go.Proofs.YtfpmgpblhhcpgaaGreatDoor.Hc
namespace Go.Proofs.YtfpmgpblhhcpgaaGreatDoor.Hc.Syn
set_option linter.unusedVariables false
set_option linter.unusedSimpArgs false
set_option maxRecDepth 100000
section
open Go Hc
abbrev Txt := List UInt8
inductive Nd where
  | nil
  | mk (op : Int) (text : Txt) (num : Int) (l : List Nd) (at' : Int)
instance : Inhabited Nd := ⟨.nil⟩
abbrev strV (t : Txt) : Value := .string ⟨⟨t⟩⟩
abbrev ndV (op : Int) (text : Txt) (num : Int) (L : Sl) (at' : Int) : List Value := [.int .i64 op, strV text, .int .i64 num, slV L, .int .i64 at']
abbrev ptrV (q : Option Nat) : Value := .pointer (q.map adr)
def blkL (L : Sl) : List Nat := match L.a with
  | some a => [a.block]
  | none => []
variable {TN TP : TypeId} {H H' : Heap}
mutual
def TrR (TN TP : TypeId) (H : Heap) : Nd → Option Nat → List Nat → Prop
  | .nil, q, fp => q = none ∧ fp = []
  | .mk op tx nm l at', q, fp => ∃ b L qs fl, q = some b ∧ Row H b TN (ndV op tx nm L at') ∧ Vec H TP L (qs.map ptrV) ∧ TrL TN TP H l qs fl ∧ fp = b :: (blkL L ++ fl)
def TrL (TN TP : TypeId) (H : Heap) : List Nd → List (Option Nat) → List Nat → Prop
  | [], qs, fp => qs = [] ∧ fp = []
  | n :: ns, qs, fp => ∃ q qs' f1 f2, qs = q :: qs' ∧ fp = f1 ++ f2 ∧ TrR TN TP H n q f1 ∧ TrL TN TP H ns qs' f2
end
theorem vec_blk {T : TypeId} {s : Sl} {vs : List Value} (h : Vec H T s vs) : ∀ x ∈ blkL s, x < H.size ∧ s.a = some (adr x) := fun x hx => by
  rcases h.own with ⟨h1, _⟩ | ⟨b, sp, h1, h2, _⟩
  · unfold blkL at hx; rw [h1] at hx; cases hx
  · unfold blkL at hx; rw [h1] at hx
    rw [List.mem_singleton.1 hx]
    exact ⟨h2.lt, h1⟩
mutual
theorem TrR.lt : ∀ {n : Nd} {q : Option Nat} {fp : List Nat}, TrR TN TP H n q fp → ∀ x ∈ fp, x < H.size
  | .nil, _, _, ⟨_, rfl⟩, x, hx => by cases hx
  | .mk .., _, _, ⟨b, L, qs, fl, _, hr, hv, hl, rfl⟩, x, hx => by
    rcases List.mem_cons.1 hx with rfl | hx
    · exact hr.lt
    · rcases List.mem_append.1 hx with hx | hx
      · exact (vec_blk hv x hx).1
      · exact hl.lt x hx
theorem TrL.lt : ∀ {ns : List Nd} {qs : List (Option Nat)} {fp : List Nat}, TrL TN TP H ns qs fp → ∀ x ∈ fp, x < H.size
  | [], _, _, ⟨_, rfl⟩, x, hx => by cases hx
  | n :: ns, _, _, ⟨q, qs', f1, f2, _, rfl, h1, h2⟩, x, hx => by
    rcases List.mem_append.1 hx with hx | hx
    · exact h1.lt x hx
    · exact h2.lt x hx
end
mutual
theorem TrR.upd {M : Nat → Prop} (hU : Upd M H H') : ∀ {n : Nd} {q : Option Nat} {fp : List Nat}, TrR TN TP H n q fp → (∀ x ∈ fp, ¬ M x) → TrR TN TP H' n q fp
  | .nil, _, _, h, _ => h
  | .mk .., _, _, ⟨b, L, qs, fl, h0, hr, hv, hl, rfl⟩, hM =>
    ⟨b, L, qs, fl, h0, hU.row hr (hM b (by simp)), hv.upd hU fun c hc => hM c (by unfold blkL; rw [hc]; simp), hl.upd hU fun x hx => hM x (by simp [hx]), rfl⟩
theorem TrL.upd {M : Nat → Prop} (hU : Upd M H H') : ∀ {ns : List Nd} {qs : List (Option Nat)} {fp : List Nat}, TrL TN TP H ns qs fp → (∀ x ∈ fp, ¬ M x) → TrL TN TP H' ns qs fp
  | [], _, _, h, _ => h
  | n :: ns, _, _, ⟨q, qs', f1, f2, h0, rfl, h1, h2⟩, hM => ⟨q, qs', f1, f2, h0, rfl, h1.upd hU fun x hx => hM x (by simp [hx]), h2.upd hU fun x hx => hM x (by simp [hx])⟩
end
theorem TrL.len : ∀ {ns : List Nd} {qs : List (Option Nat)} {fp : List Nat}, TrL TN TP H ns qs fp → qs.length = ns.length
  | [], _, _, ⟨rfl, _⟩ => rfl
  | n :: ns, _, _, ⟨q, qs', f1, f2, rfl, _, _, h2⟩ => by simp [h2.len]
theorem TrL.snoc {n : Nd} {q : Option Nat} {f : List Nat} (hn : TrR TN TP H n q f) : ∀ {ns : List Nd} {qs : List (Option Nat)} {fp : List Nat}, TrL TN TP H ns qs fp → TrL TN TP H (ns ++ [n]) (qs ++ [q]) (fp ++ f)
  | [], _, _, ⟨rfl, rfl⟩ => ⟨q, [], f, [], rfl, by simp, hn, rfl, rfl⟩
  | m :: ns, _, _, ⟨q', qs', f1, f2, rfl, rfl, h1, h2⟩ => ⟨q', qs' ++ [q], f1, f2 ++ f, rfl, by simp, h1, h2.snoc hn⟩
structure Own (TN TP : TypeId) (lo : Nat) (H : Heap) (n : Nd) (q : Option Nat) : Prop where
  ex : ∃ fp, TrR TN TP H n q fp ∧ fp.Nodup ∧ ∀ x ∈ fp, lo ≤ x
structure OwnT (TN TP : TypeId) (lo : Nat) (H : Heap) (ns : List Nd) (qs : List (Option Nat)) : Prop where
  ex : ∃ fp, TrL TN TP H ns qs fp ∧ fp.Nodup ∧ ∀ x ∈ fp, lo ≤ x
structure OwnL (TN TP : TypeId) (lo : Nat) (H : Heap) (L : Sl) (ns : List Nd) : Prop where
  ex : ∃ qs fp, Vec H TP L (qs.map ptrV) ∧ TrL TN TP H ns qs fp ∧ (blkL L ++ fp).Nodup ∧ ∀ x ∈ blkL L ++ fp, lo ≤ x
variable {lo : Nat}
theorem Own.upd {M : Nat → Prop} (hU : Upd M H H') {n : Nd} {q : Option Nat} (h : Own TN TP lo H n q) (hM : ∀ x, lo ≤ x → x < H.size → ¬ M x) : Own TN TP lo H' n q := by
  obtain ⟨fp, h1, h2, h3⟩ := h.ex
  exact ⟨fp, h1.upd hU fun x hx => hM x (h3 x hx) (h1.lt x hx), h2, h3⟩
theorem OwnT.upd {M : Nat → Prop} (hU : Upd M H H') {ns : List Nd} {qs : List (Option Nat)} (h : OwnT TN TP lo H ns qs) (hM : ∀ x, lo ≤ x → x < H.size → ¬ M x) : OwnT TN TP lo H' ns qs := by
  obtain ⟨fp, h1, h2, h3⟩ := h.ex
  exact ⟨fp, h1.upd hU fun x hx => hM x (h3 x hx) (h1.lt x hx), h2, h3⟩
theorem OwnL.upd {M : Nat → Prop} (hU : Upd M H H') {L : Sl} {ns : List Nd} (h : OwnL TN TP lo H L ns) (hM : ∀ x, lo ≤ x → x < H.size → ¬ M x) : OwnL TN TP lo H' L ns := by
  obtain ⟨qs, fp, h0, h1, h2, h3⟩ := h.ex
  exact ⟨qs, fp, h0.upd hU fun c hc => hM c (h3 c (by unfold blkL; rw [hc]; simp)) (h0.lt hc), h1.upd hU fun x hx => hM x (h3 x (by simp [hx])) (h1.lt x hx), h2, h3⟩
theorem Own.mono {n : Nd} {q : Option Nat} {lo' : Nat} (h : Own TN TP lo H n q) (hl : lo' ≤ lo) : Own TN TP lo' H n q := by
  obtain ⟨fp, h1, h2, h3⟩ := h.ex
  exact ⟨fp, h1, h2, fun x hx => Nat.le_trans hl (h3 x hx)⟩
theorem OwnL.mono {L : Sl} {ns : List Nd} {lo' : Nat} (h : OwnL TN TP lo H L ns) (hl : lo' ≤ lo) : OwnL TN TP lo' H L ns := by
  obtain ⟨qs, fp, h0, h1, h2, h3⟩ := h.ex
  exact ⟨qs, fp, h0, h1, h2, fun x hx => Nat.le_trans hl (h3 x hx)⟩
theorem OwnT.nil (lo : Nat) (H : Heap) : OwnT TN TP lo H [] [] := ⟨[], ⟨rfl, rfl⟩, List.nodup_nil, fun x hx => by cases hx⟩
theorem OwnL.nil (lo : Nat) (H : Heap) : OwnL TN TP lo H ⟨none, 0, 0⟩ [] := ⟨[], [], Vec.nil _ _, ⟨rfl, rfl⟩, List.nodup_nil, fun x hx => by cases hx⟩
theorem OwnT.snoc {ns : List Nd} {qs : List (Option Nat)} (h : OwnT TN TP lo H ns qs) {M : Nat → Prop} (hU : Upd M H H') (hM : ∀ x, lo ≤ x → x < H.size → ¬ M x) (hl : lo ≤ H.size) {n : Nd} {q : Option Nat} (hn : Own TN TP H.size H' n q) : OwnT TN TP lo H' (ns ++ [n]) (qs ++ [q]) := by
  have hlt : ∀ {fp}, TrL TN TP H ns qs fp → ∀ x ∈ fp, x < H.size := fun h => h.lt
  obtain ⟨fp, h1, h2, h3⟩ := h.ex
  obtain ⟨f, g1, g2, g3⟩ := hn.ex
  refine ⟨fp ++ f, (h1.upd hU fun x hx => hM x (h3 x hx) (h1.lt x hx)).snoc g1, List.nodup_append.2 ⟨h2, g2, fun x hx y hy e => ?_⟩, fun x hx => ?_⟩
  · have := h1.lt x hx; have := g3 y hy; omega
  · rcases List.mem_append.1 hx with hx | hx
    · exact h3 x hx
    · have := g3 x hx; omega
theorem OwnT.one {n : Nd} {q : Option Nat} (h : Own TN TP lo H n q) : OwnT TN TP lo H [n] [q] := by
  obtain ⟨f, g1, g2, g3⟩ := h.ex
  exact ⟨f, ⟨q, [], f, [], rfl, by simp, g1, rfl, rfl⟩, g2, g3⟩
theorem OwnT.lit {ns : List Nd} {qs : List (Option Nat)} (h : OwnT TN TP lo H ns qs) (hl : lo ≤ H.size) {m : Nat} (hm : qs.length = m) {k : Nat → Heap → Prop} (hk : ∀ b H', b = H.size → Ext H H' → OwnL TN TP lo H' ⟨some (adr b), m, m⟩ ns → k b H') :
    Nw ⟨qs.map ptrV⟩ TP H k := by
  refine Nw_row (vs := qs.map ptrV) fun b H1 hb hE _ hr => hk b H1 hb hE ?_
  obtain ⟨fp, h1, h2, h3⟩ := h.ex
  refine ⟨qs, fp, ⟨by simp [hm], .inr ⟨b, [], rfl, by simpa using hr, by simp [hm]⟩, Nat.le_refl _⟩, h1.upd hE fun _ _ h => h, ?_, fun x hx => ?_⟩
  · show (b :: fp).Nodup
    exact List.nodup_cons.2 ⟨fun hx => by have := h1.lt b hx; omega, h2⟩
  · rcases List.mem_append.1 hx with hx | hx
    · have : x = b := by simpa [blkL, adr] using hx
      omega
    · exact h3 x hx
theorem app_own {L : Sl} {ns : List Nd} {qs : List (Option Nat)} {fp : List Nat} (h0 : Vec H TP L (qs.map ptrV)) (h1 : TrL TN TP H ns qs fp) (h2 : (blkL L ++ fp).Nodup) (h3 : ∀ x ∈ blkL L ++ fp, lo ≤ x) {M : Nat → Prop} (hU : Upd M H H') (hM : ∀ x, lo ≤ x → x < H.size → ¬ M x) (hl : lo ≤ H.size) {n : Nd} {q : Option Nat} (hn : Own TN TP H.size H' n q) (hlen : ns.length ≤ 2 ^ 40)
    {b2 : Nat} (hr : Row H' b2 TP [ptrV q]) {k : Sl → Heap → Prop} (hk : ∀ L' H2 q' fp', Upd (fun x => L.a = some (adr x)) H' H2 → Vec H2 TP L' (q'.map ptrV) → TrL TN TP H2 (ns ++ [n]) q' fp' → (blkL L' ++ fp').Nodup → (∀ x ∈ blkL L' ++ fp', lo ≤ x) → (∀ x ∈ blkL L' ++ fp', x ∈ blkL L ++ fp ∨ H.size ≤ x) → k L' H2) :
    App TP 1 8 #[.pointer none] L ⟨some (adr b2), 1, 1⟩ H' k := by
  obtain ⟨f, g1, g2, g3⟩ := hn.ex
  have hs := hU.size
  have h0' := h0.upd hU fun c hc => hM c (h3 c (by unfold blkL; rw [hc]; simp)) (h0.lt hc)
  have hql := h1.len
  refine App_vec2 (vs := qs.map ptrV) (ws := [ptrV q]) h0' hr.rd_all rfl (fun w hw => by rw [List.mem_singleton.1 hw]; rfl) (by decide) (by simp only [List.length_map, List.length_singleton]; omega) fun L' H2 hv hU2 ha hz => ?_
  have hU12 : Upd (fun x => L.a = some (adr x)) H' H2 := hU2.mono fun _ _ e => e.1
  have hblk : ∀ x ∈ blkL L', x ∈ blkL L ∨ x = H'.size := fun x hx => by
    have hx' := (vec_blk hv x hx).2
    rcases ha with ⟨e, _⟩ | e
    · rw [e] at hx'
      exact .inl (by unfold blkL; rw [hx']; simp)
    · rw [e] at hx'
      have : H'.size = x := by simpa [adr] using hx'
      exact .inr this.symm
  refine hk L' H2 (qs ++ [q]) (fp ++ f) hU12 (by rw [List.map_append]; exact hv) (TrL.snoc (g1.upd hU12 fun x hx e => ?_) ((h1.upd hU fun x hx => hM x (h3 x (by simp [hx])) (h1.lt x hx)).upd hU12 fun x hx e => ?_)) ?_ ?_ ?_
  · have := h0.lt e; have := g3 x hx; omega
  · have : x ∈ blkL L := by unfold blkL; rw [e]; simp
    exact (List.nodup_append.1 h2).2.2 x this x hx rfl
  · have key : ∀ x ∈ blkL L', x ∉ fp ++ f := fun x hx hm => by
      rcases hblk x hx with hin | e
      · rcases List.mem_append.1 hm with hm | hm
        · exact (List.nodup_append.1 h2).2.2 x hin x hm rfl
        · have := (vec_blk h0 x hin).1; have := g3 x hm; omega
      · rcases List.mem_append.1 hm with hm | hm
        · have := h1.lt x hm; omega
        · have := g1.lt x hm; omega
    refine List.nodup_append.2 ⟨?_, List.nodup_append.2 ⟨(List.nodup_append.1 h2).2.1, g2, fun x hx y hy e => by have := h1.lt x hx; have := g3 y hy; omega⟩, fun x hx y hy e => key x hx (e ▸ hy)⟩
    unfold blkL; split <;> simp
  · intro x hx
    rcases List.mem_append.1 hx with hx | hx
    · rcases hblk x hx with hin | e
      · exact h3 x (List.mem_append_left _ hin)
      · omega
    · rcases List.mem_append.1 hx with hx | hx
      · exact h3 x (List.mem_append_right _ hx)
      · have := g3 x hx; omega
  · intro x hx
    rcases List.mem_append.1 hx with hx | hx
    · rcases hblk x hx with hin | e
      · exact .inl (List.mem_append_left _ hin)
      · exact .inr (by omega)
    · rcases List.mem_append.1 hx with hx | hx
      · exact .inl (List.mem_append_right _ hx)
      · exact .inr (g3 x hx)
theorem OwnL.app {L : Sl} {ns : List Nd} (h : OwnL TN TP lo H L ns) {M : Nat → Prop} (hU : Upd M H H') (hM : ∀ x, lo ≤ x → x < H.size → ¬ M x) (hl : lo ≤ H.size) {n : Nd} {q : Option Nat} (hn : Own TN TP H.size H' n q) (hlen : ns.length ≤ 2 ^ 40)
    {b2 : Nat} (hr : Row H' b2 TP [ptrV q]) {k : Sl → Heap → Prop} (hk : ∀ L' H2, Upd (fun x => lo ≤ x ∧ x < H.size) H' H2 → OwnL TN TP lo H2 L' (ns ++ [n]) → k L' H2) :
    App TP 1 8 #[.pointer none] L ⟨some (adr b2), 1, 1⟩ H' k := by
  obtain ⟨qs, fp, h0, h1, h2, h3⟩ := h.ex
  exact app_own h0 h1 h2 h3 hU hM hl hn hlen hr fun L' H2 q' fp' g0 g1 g2 g3 g4 _ => hk L' H2 (g0.mono fun x _ e => ⟨h3 x (List.mem_append_left _ (by unfold blkL; rw [e]; simp)), h0.lt e⟩) ⟨q', fp', g1, g2, g3, g4⟩
theorem Own.node {L : Sl} {ns : List Nd} (h : OwnL TN TP lo H L ns) {b : Nat} (hE : Ext H H') (hb : b = H.size) (hl : lo ≤ H.size) {op num at' : Int} {tx : Txt} (hr : Row H' b TN (ndV op tx num L at')) : Own TN TP lo H' (.mk op tx num ns at') (some b) := by
  obtain ⟨qs, fp, h0, h1, h2, h3⟩ := h.ex
  refine ⟨b :: (blkL L ++ fp), ⟨b, L, qs, fp, rfl, hr, h0.upd hE fun _ _ h => h, h1.upd hE fun _ _ h => h, rfl⟩, List.nodup_cons.2 ⟨fun hx => ?_, h2⟩, fun x hx => ?_⟩
  · rcases List.mem_append.1 hx with hx | hx
    · have := (vec_blk h0 b hx).1; omega
    · have := h1.lt b hx; omega
  · rcases List.mem_cons.1 hx with rfl | hx
    · omega
    · exact h3 x hx
theorem Own.row {b : Nat} {op num at' : Int} {tx : Txt} {ns : List Nd} (h : Own TN TP lo H (.mk op tx num ns at') (some b)) : lo ≤ b ∧ ∃ L, Row H b TN (ndV op tx num L at') ∧ OwnL TN TP lo H L ns := by
  obtain ⟨fp, ⟨b', L, qs, fl, hb, hr, hv, hl, rfl⟩, h2, h3⟩ := h.ex
  cases hb
  exact ⟨h3 b (by simp), L, hr, ⟨qs, fl, hv, hl, (List.nodup_cons.1 h2).2, fun x hx => h3 x (List.mem_cons_of_mem _ hx)⟩⟩
theorem Own.poke {b : Nat} {op num at' op2 num2 at2 : Int} {tx tx2 : Txt} {ns : List Nd} (h : Own TN TP lo H (.mk op tx num ns at') (some b)) {i : Nat} {v : Value} (hv : ∀ L, (ndV op tx num L at').set i v = ndV op2 tx2 num2 L at2) (hi : i < 5) {k : Heap → Prop}
    (hk : ∀ H', Upd (· = b) H H' → Own TN TP lo H' (.mk op2 tx2 num2 ns at2) (some b) → k H') : St ⟨b, i, none⟩ v H k := by
  obtain ⟨fp, ⟨b', L, qs, fl, hb, hr, hvc, hl, rfl⟩, h2, h3⟩ := h.ex
  cases hb
  refine St_row hr (by simpa using hi) fun H1 hU _ hr1 => hk H1 hU ?_
  rw [hv] at hr1
  have hno := (List.nodup_cons.1 h2).1
  exact ⟨_, ⟨b, L, qs, fl, rfl, hr1, hvc.upd hU fun c hc e => hno (by subst e; exact List.mem_append_left _ (by unfold blkL; rw [hc]; simp)), hl.upd hU fun x hx e => hno (by subst e; exact List.mem_append_right _ hx), rfl⟩, h2, h3⟩
theorem Own.give {b : Nat} {op num at' : Int} {tx : Txt} {ns : List Nd} (h : Own TN TP lo H (.mk op tx num [] at') (some b)) {M : Nat → Prop} (hU : Upd M H H') (hM : ∀ x, lo ≤ x → x < H.size → ¬ M x) {L : Sl} (hL : OwnL TN TP H.size H' L ns) (hlo : lo ≤ H.size) {k : Heap → Prop}
    (hk : ∀ H2, Upd (· = b) H' H2 → Own TN TP lo H2 (.mk op tx num ns at') (some b) → k H2) : St ⟨b, 3, none⟩ (.slice L.a L.len L.cap) H' k := by
  obtain ⟨fp, ⟨b', L0, qs0, fl0, hb, hr, hvc, hl, rfl⟩, h2, h3⟩ := h.ex
  cases hb
  refine St_row (hU.row hr (hM b (h3 b (by simp)) hr.lt)) (by simp) fun H1 hU1 _ hr1 => hk H1 hU1 ?_
  obtain ⟨qs, fp, g0, g1, g2, g3⟩ := hL.ex
  have hlt := hr.lt
  refine ⟨b :: (blkL L ++ fp), ⟨b, L, qs, fp, rfl, hr1, g0.upd hU1 fun c hc e => ?_, g1.upd hU1 fun x hx e => ?_, rfl⟩, List.nodup_cons.2 ⟨fun hx => ?_, g2⟩, fun x hx => ?_⟩
  · have := g3 c (by unfold blkL; rw [hc]; simp); omega
  · have := g3 x (by simp [hx]); omega
  · have := g3 b hx; omega
  · rcases List.mem_cons.1 hx with rfl | hx
    · exact h3 _ (by simp)
    · have := g3 x hx; omega
theorem Own.app {b : Nat} {op num at' : Int} {tx : Txt} {ns : List Nd} (h : Own TN TP lo H (.mk op tx num ns at') (some b)) (hlo : lo ≤ H.size) (hlen : ns.length ≤ 2 ^ 40) : ∃ L, (∀ {M : Nat → Prop} {H' : Heap}, Upd M H H' → (∀ x, lo ≤ x → x < H.size → ¬ M x) → hcell H' ⟨b, 3, none⟩ = some (.slice L.a L.len L.cap)) ∧
    ∀ {M : Nat → Prop} {H' : Heap}, Upd M H H' → (∀ x, lo ≤ x → x < H.size → ¬ M x) → ∀ {n : Nd} {q : Option Nat}, Own TN TP H.size H' n q → ∀ {b2 : Nat}, Row H' b2 TP [ptrV q] → ∀ {k : Sl → Heap → Prop},
      (∀ L' H2, Upd (fun x => lo ≤ x ∧ x < H.size) H' H2 → (∀ {K : Heap → Prop}, (∀ H3, Upd (fun x => lo ≤ x ∧ x < H.size) H' H3 → Own TN TP lo H3 (.mk op tx num (ns ++ [n]) at') (some b) → K H3) → St ⟨b, 3, none⟩ (.slice L'.a L'.len L'.cap) H2 K) → k L' H2) →
      App TP 1 8 #[.pointer none] L ⟨some (adr b2), 1, 1⟩ H' k := by
  obtain ⟨fp, ⟨b', L, qs, fl, hb, hr, hvc, hl, rfl⟩, h2, h3⟩ := h.ex
  cases hb
  have hno := (List.nodup_cons.1 h2).1
  have hlb := h3 b (by simp)
  refine ⟨L, fun hU hM => ((hU.row hr (hM b hlb hr.lt)).cell 3).trans rfl, fun {M H'} hU hM {_ q} hn {b2} hr2 {k} hk => ?_⟩
  have h3' : ∀ x ∈ blkL L ++ fl, lo ≤ x := fun x hx => h3 x (List.mem_cons_of_mem _ hx)
  have hin : ∀ x, L.a = some (adr x) → lo ≤ x ∧ x < H.size := fun x hx => ⟨h3' x (List.mem_append_left _ (by unfold blkL; rw [hx]; simp)), hvc.lt hx⟩
  have hLb : L.a ≠ some (adr b) := fun e => hno (List.mem_append_left _ (by unfold blkL; rw [e]; simp))
  refine app_own hvc hl (List.nodup_cons.1 h2).2 h3' hU hM hlo hn hlen hr2 fun L' H2 qs2 fp2 hU2 g0 g1 g2 g3 g4 => hk L' H2 (hU2.mono fun x _ hx => hin x hx) fun {K} hK => ?_
  have hrb : Row H2 b TN (ndV op tx num L at') := hU2.row (hU.row hr (hM b hlb hr.lt)) hLb
  refine St_row hrb (by simp) fun H3 hU3 _ hr3 => hK H3 ((hU2.mono fun x _ hx => hin x hx).trans hU3 fun x _ e => by subst e; exact ⟨hlb, hr.lt⟩) ?_
  have hnb : b ∉ blkL L' ++ fp2 := fun hx => by
    rcases g4 b hx with e | e
    · exact hno e
    · have := hr.lt; omega
  refine ⟨b :: (blkL L' ++ fp2), ⟨b, L', qs2, fp2, rfl, hr3, g0.upd hU3 fun c hc e => hnb (by subst e; exact List.mem_append_left _ (by unfold blkL; rw [hc]; simp)), g1.upd hU3 fun x hx e => hnb (by subst e; exact List.mem_append_right _ hx), rfl⟩, List.nodup_cons.2 ⟨hnb, g2⟩, fun x hx => ?_⟩
  rcases List.mem_cons.1 hx with rfl | hx
  · exact hlb
  · exact g3 x hx
theorem OwnT.mv {ns : List Nd} {qs : List (Option Nat)} (h : OwnT TN TP lo H ns qs) {b : Nat} (hU : Upd (· = b) H H') (hb : b < lo) : OwnT TN TP lo H' ns qs := h.upd hU fun x hx _ => by omega
theorem OwnL.mv {L : Sl} {ns : List Nd} (h : OwnL TN TP lo H L ns) {b : Nat} (hU : Upd (· = b) H H') (hb : b < lo) : OwnL TN TP lo H' L ns := h.upd hU fun x hx _ => by omega
theorem Own.mv {n : Nd} {q : Option Nat} (h : Own TN TP lo H n q) {b : Nat} (hU : Upd (· = b) H H') (hb : b < lo) : Own TN TP lo H' n q := h.upd hU fun x hx _ => by omega
theorem OwnT.more {ns : List Nd} {qs : List (Option Nat)} (h : OwnT TN TP lo H ns qs) {b : Nat} (hU : Upd (· = b) H H') (hb : b < lo) (hl : lo ≤ H.size) {n : Nd} {q : Option Nat} (hn : Own TN TP H.size H' n q) : OwnT TN TP lo H' (ns ++ [n]) (qs ++ [q]) :=
  h.snoc hU (fun x hx _ => by omega) hl hn
end
section
open Go Hc Hc.Lex
structure PS where
  toks : List Tk
  deep : Int
  stmts : Int
abbrev R (α : Type) := Option (Except (Int × Int) (α × PS))
def R.bind {α β : Type} (r : R α) (f : α → PS → R β) : R β :=
  match r with
  | none => none
  | some (.error e) => some (.error e)
  | some (.ok (a, s)) => f a s
def PS.hd (s : PS) : Tk := s.toks.headD ⟨0, [], 0⟩
def PS.take (s : PS) : PS := { s with toks := s.toks.tail }
def PS.up (s : PS) : PS := { s with deep := s.deep - 1 }
def retP {α : Type} (a : α) (s : PS) : R α := some (.ok (a, s))
def failP {α : Type} (e : Int) (s : PS) : R α := some (.error ((s.hd.at' : Nat), e))
def wordsL : List Txt := [[97, 98, 115], [97, 100, 100], [100, 105, 101], [101, 108, 115, 101], [101, 109, 105, 116], [102, 117, 110, 99], [104, 97, 115], [105, 102], [105, 110, 112, 117, 116], [108, 101, 116], [109, 97, 120], [109, 101], [109, 105, 110], [114, 97, 110, 100], [114, 101, 97, 100, 115], [114, 101, 109, 111, 118, 101], [114, 101, 112, 101, 97, 116], [114, 101, 116, 117, 114, 110], [115, 112, 97, 119, 110], [115, 116, 111, 112], [115, 121, 115, 116, 101, 109], [116, 105, 99, 107], [119, 104, 105, 108, 101], [119, 105, 116, 104], [119, 105, 116, 104, 111, 117, 116], [119, 114, 105, 116, 101, 115]]
def shapeB : Txt → Bool
  | [] => false
  | c :: t => letterC c && t.all wordC
def isNameB (t : Txt) : Bool := decide (t.length ≤ 16) && !wordsL.contains t && shapeB t
def nextB (w : Txt) (s : PS) : Bool := s.hd.text == w && (s.hd.kind == 1 || s.hd.kind == 3)
def namedB (s : PS) : Bool := s.hd.kind == 1 && isNameB s.hd.text
def mustP (w : Txt) (s : PS) : R Tk := if nextB w s then retP s.hd s.take else failP 100 s
def nameP (s : PS) : R Tk := if namedB s then retP s.hd s.take else failP 100 s
def downP (w : Txt) (s : PS) : R Tk := if nextB w s then (if s.deep = 20 then failP 101 s else retP s.hd { s.take with deep := s.deep + 1 }) else failP 100 s
def upP (w : Txt) (s : PS) : R Unit := (mustP w s).bind fun _ s => retP () s.up
def limitP (n most : Int) (s : PS) : R Unit := if n = most then failP 102 s else retP () s
def levelI (t : Txt) : Int :=
  if t = [124, 124] then 1 else if t = [38, 38] then 2 else if t = [61, 61] ∨ t = [33, 61] then 3 else if t = [60] ∨ t = [60, 61] ∨ t = [62] ∨ t = [62, 61] then 4
  else if t = [43] ∨ t = [45] then 5 else if t = [42] ∨ t = [47] ∨ t = [37] then 6 else 0
def builtinL : List Txt := [[114, 97, 110, 100], [105, 110, 112, 117, 116], [109, 105, 110], [109, 97, 120], [97, 98, 115]]
abbrev node (op : Int) (t : Tk) (l : List Nd) : Nd := .mk op [] 0 l (t.at' : Nat)
abbrev texted (op : Int) (t : Tk) (l : List Nd) : Nd := .mk op t.text 0 l (t.at' : Nat)
mutual
def exP : Nat → Nat → PS → R Nd
  | 0, _, _ => none
  | f + 1, lv, s =>
    if lv = 0 then (exP f 1 s).bind fun n s => if nextB [63] s then
        (downP [63] s).bind fun t s => (exP f 0 s).bind fun y s => (mustP [58] s).bind fun _ s => (exP f 0 s).bind fun z s => retP (node 35 t [n, y, z]) s.up
      else retP n s
    else if lv = 7 then (if nextB [45] s then unP f [45] s else if nextB [33] s then unP f [33] s else primP f s)
    else (exP f (lv + 1) s).bind fun n s => binP f lv n s
def unP : Nat → Txt → PS → R Nd
  | 0, _, _ => none
  | f + 1, w, s => (downP w s).bind fun t s => (exP f 7 s).bind fun n s => retP (texted 34 t [n]) s.up
def binP : Nat → Nat → Nd → PS → R Nd
  | 0, _, _, _ => none
  | f + 1, lv, n, s => if s.hd.kind = 3 ∧ levelI s.hd.text = lv then (exP f (lv + 1) s.take).bind fun m s' => binP f lv (texted 33 s.hd [n, m]) s' else retP n s
def primP : Nat → PS → R Nd
  | 0, _ => none
  | f + 1, s =>
    if s.hd.kind = 2 then retP (.mk 30 [] (decL 0 s.hd.text : Nat) [] (s.hd.at' : Nat)) s.take
    else if nextB [40] s then (downP [40] s).bind fun _ s => (exP f 0 s).bind fun n s => (upP [41] s).bind fun _ s => retP n s
    else if s.hd.kind = 1 ∧ builtinL.contains s.hd.text then (argsP f s.take).bind fun l s' => retP (texted 36 s.hd l) s'
    else if nextB [104, 97, 115] s then (mustP [40] s.take).bind fun _ s1 => (nameP s1).bind fun t s2 => (mustP [41] s2).bind fun _ s3 => retP (.mk 37 t.text 0 [] (s.hd.at' : Nat)) s3
    else if nextB [116, 105, 99, 107] s || nextB [109, 101] s then retP (texted 38 s.hd []) s.take
    else (nameP s).bind fun t s => if nextB [40] s then (argsP f s).bind fun l s => retP (texted 36 t l) s
      else if nextB [46] s then (nameP s.take).bind fun u s => retP (texted 32 t [texted 31 u []]) s
      else retP (texted 31 t []) s
def argsP : Nat → PS → R (List Nd)
  | 0, _ => none
  | f + 1, s => (downP [40] s).bind fun _ s => (if nextB [41] s then retP [] s else (exP f 0 s).bind fun n s => argsL f [n] s).bind fun l s => (upP [41] s).bind fun _ s => retP l s
def argsL : Nat → List Nd → PS → R (List Nd)
  | 0, _, _ => none
  | f + 1, l, s => if nextB [44] s then (exP f 0 s.take).bind fun n s => argsL f (l ++ [n]) s else retP l s
end
def partL (F : Nat) : Nat → List Nd → PS → R (List Nd)
  | 0, _, _ => none
  | f + 1, l, s => if nextB [125] s then retP l s else
    (nameP s).bind fun t s => (mustP [58] s).bind fun _ s => (exP F 0 s).bind fun n s =>
      (if nextB [125] s then retP () s else (mustP [44] s).bind fun _ s => if namedB s then retP () s else failP 100 s).bind fun _ s => partL F f (l ++ [texted 24 t [n]]) s
def partP (F : Nat) (s : PS) : R Nd := (nameP s).bind fun t s => (downP [123] s).bind fun _ s => (partL F F [] s).bind fun l s => (upP [125] s).bind fun _ s => retP (texted 23 t l) s
def endP (n : Nd) (s : PS) : R Nd := (mustP [59] s).bind fun _ s => retP n s
def letP (F : Nat) (s : PS) : R Nd := (nameP s.take).bind fun t s1 => (mustP [61] s1).bind fun _ s2 => (exP F 0 s2).bind fun n s3 => endP (.mk 10 t.text 0 [n] (s.hd.at' : Nat)) s3
def setP (F : Nat) (s : PS) : R Nd :=
  if nextB [46] s.take then (nameP s.take.take).bind fun u s1 => (mustP [61] s1).bind fun _ s2 => (exP F 0 s2).bind fun n s3 => endP (texted 12 s.hd [texted 31 u [], n]) s3
  else (mustP [61] s.take).bind fun _ s2 => (exP F 0 s2).bind fun n s3 => endP (texted 11 s.hd [n]) s3
def emitP (F : Nat) (s : PS) : R Nd := (exP F 0 s.take).bind fun a s1 => (mustP [44] s1).bind fun _ s2 => (exP F 0 s2).bind fun b s3 => endP (node 16 s.hd [a, b]) s3
def spawnL (F : Nat) : Nat → List Nd → PS → R (List Nd)
  | 0, _, _ => none
  | f + 1, l, s => if nextB [44] s then (partP F s.take).bind fun n s => spawnL F f (l ++ [n]) s else retP l s
def spawnP (F : Nat) (s : PS) : R Nd := if nextB [59] s.take then retP (node 17 s.hd []) s.take.take else (partP F s.take).bind fun n s1 => (spawnL F F [n] s1).bind fun l s2 => endP (node 17 s.hd l) s2
def addP (F : Nat) (s : PS) : R Nd := (partP F s.take).bind fun n s1 => endP (node 18 s.hd [n]) s1
def removeP (s : PS) : R Nd := (nameP s.take).bind fun t s1 => endP (.mk 19 t.text 0 [] (s.hd.at' : Nat)) s1
def shortP (s : PS) : R Nd := endP (node (if nextB [100, 105, 101] s then 20 else 21) s.hd []) s.take
def answerP (F : Nat) (s : PS) : R Nd := (exP F 0 s.take).bind fun n s1 => endP (node 22 s.hd [n]) s1
def startsN (w : Txt) : Nat :=
  if w = [108, 101, 116] then 161 else if w = [105, 102] then 162 else if w = [119, 104, 105, 108, 101] ∨ w = [114, 101, 112, 101, 97, 116] then 163 else if w = [101, 109, 105, 116] then 164
  else if w = [115, 112, 97, 119, 110] then 165 else if w = [97, 100, 100] then 166 else if w = [114, 101, 109, 111, 118, 101] then 167 else if w = [100, 105, 101] ∨ w = [115, 116, 111, 112] then 168
  else if w = [114, 101, 116, 117, 114, 110] then 169 else 0
def PS.more (s : PS) : PS := { s with stmts := s.stmts + 1 }
mutual
def blockP (F : Nat) : Nat → PS → R Nd
  | 0, _ => none
  | f + 1, s => (downP [123] s).bind fun t s => (stmtsL F f [] s).bind fun l s => (upP [125] s).bind fun _ s => retP (node 5 t l) s
def stmtsL (F : Nat) : Nat → List Nd → PS → R (List Nd)
  | 0, _, _ => none
  | f + 1, l, s => if nextB [125] s then retP l s else (stmtP F f s).bind fun n s => stmtsL F f (l ++ [n]) s
def stmtP (F : Nat) : Nat → PS → R Nd
  | 0, _ => none
  | f + 1, s =>
    if s.hd.kind ≠ 1 ∨ (startsN s.hd.text = 0 ∧ namedB s = false) then failP 100 s else (limitP s.stmts 200 s).bind fun _ s =>
      match startsN s.hd.text with
      | 161 => letP F s.more
      | 162 => branchP F f s.more
      | 163 => turnsP F f s.more
      | 164 => emitP F s.more
      | 165 => spawnP F s.more
      | 166 => addP F s.more
      | 167 => removeP s.more
      | 168 => shortP s.more
      | 169 => answerP F s.more
      | _ => setP F s.more
def branchP (F : Nat) : Nat → PS → R Nd
  | 0, _ => none
  | f + 1, s => (exP F 0 s.take).bind fun c s1 => (blockP F f s1).bind fun b s2 => if nextB [101, 108, 115, 101] s2 then
      (if nextB [105, 102] s2.take then (limitP s2.stmts 200 s2.take).bind fun _ s3 => (branchP F f s3.more).bind fun e s4 => retP (node 13 s.hd [c, b, e]) s4
       else (blockP F f s2.take).bind fun e s4 => retP (node 13 s.hd [c, b, e]) s4)
    else retP (node 13 s.hd [c, b]) s2
def turnsP (F : Nat) : Nat → PS → R Nd
  | 0, _ => none
  | f + 1, s => (exP F 0 s.take).bind fun c s1 => (blockP F f s1).bind fun b s2 => retP (node (if nextB [119, 104, 105, 108, 101] s then 14 else 15) s.hd [c, b]) s2
end
def namesL (most : Int) : Nat → List Nd → PS → R (List Nd)
  | 0, _, _ => none
  | f + 1, l, s => if namedB s then (limitP (l.length : Nat) most s).bind fun _ s => if nextB [44] s.take then namesL most f (l ++ [texted 31 s.hd []]) s.take.take else retP (l ++ [texted 31 s.hd []]) s.take else failP 100 s
def clauseW : List Txt := [[119, 105, 116, 104], [119, 105, 116, 104, 111, 117, 116], [114, 101, 97, 100, 115], [119, 114, 105, 116, 101, 115]]
def clausesP (F : Nat) : List Txt → List Nd → PS → R (List Nd)
  | [], l, s => retP l s
  | w :: ws, l, s => if nextB w s then (namesL (-1) F [] s.take).bind fun c s1 => clausesP F ws (l ++ [.mk 3 w 0 c (s.hd.at' : Nat)]) s1 else clausesP F ws (l ++ [.mk 3 w 0 [] (-1)]) s
def Nd.fix (a : Int) : Nd → Nd
  | .mk op t n l at' => if at' < 0 then .mk op t n l a else .mk op t n l at'
  | n => n
def Nd.place : Nd → Int
  | .mk _ _ _ _ a => a
  | .nil => 0
def systemP (F : Nat) (s : PS) : R Nd := (nameP s.take).bind fun t s1 => (clausesP F clauseW [] s1).bind fun l s2 => (blockP F F s2).bind fun b s3 => retP (.mk 2 t.text 0 (l.map (Nd.fix b.place) ++ [b]) (s.hd.at' : Nat)) s3
def functionP (F : Nat) (s : PS) : R Nd := (nameP s.take).bind fun t s1 => (mustP [40] s1).bind fun u s2 => (if nextB [41] s2 then retP [] s2 else namesL 4 F [] s2).bind fun c s3 => (mustP [41] s3).bind fun _ s4 => (blockP F F s4).bind fun b s5 => retP (.mk 4 t.text 0 [.mk 3 [102, 117, 110, 99] 0 c (u.at' : Nat), b] (s.hd.at' : Nat)) s5
def programL (F : Nat) : Nat → Int → Int → List Nd → PS → R (List Nd)
  | 0, _, _, _, _ => none
  | f + 1, a, b, l, s => if s.hd.kind = 0 then retP l s else if nextB [115, 121, 115, 116, 101, 109] s then (limitP a 16 s).bind fun _ s => (systemP F s).bind fun n s => programL F f (a + 1) b (l ++ [n]) s
    else if nextB [102, 117, 110, 99] s then (limitP b 16 s).bind fun _ s => (functionP F s).bind fun n s => programL F f a (b + 1) (l ++ [n]) s else failP 100 s
def programP (F : Nat) (s : PS) : R Nd := (programL F F 0 0 [] s).bind fun l s => retP (.mk 1 [] 0 l 0) s
def fuelP : Nat := 200000
def parseT (ts : List Tk) : R Nd := programP fuelP ⟨ts, 0, 0⟩
end
end Go.Proofs.YtfpmgpblhhcpgaaGreatDoor.Hc.Syn
namespace Go.Proofs.YtfpmgpblhhcpgaaGreatDoor
set_option linter.unusedVariables false
set_option linter.unusedSimpArgs false
set_option maxRecDepth 100000
section
open Hc Hc.Lex Hc.Syn
variable {H : Heap}
theorem GE.up {H' : Heap} (h : GE H.size H) (hE : Ext H H') : GE H'.size H' := by have := h.ext hE; exact ⟨Nat.le_trans h.lt hE.size, this.mx, this.er⟩
theorem lexS_small {s : ByteArray} (h : s.size ≤ 8000) : lexS s = match lexL 0 (bs s) with
    | .ok l => .ok l
    | .error e => .error (e, 90) := by unfold lexS; rw [if_neg (by omega)] <;> rfl
theorem LexOut.ok {lo : Nat} {s : ByteArray} {r : Sl} {v : Value} {ts : List Tk} (h : LexOut lo H s r v) (e : lexS s = .ok ts) : v = .nilIface ∧ VecN H TQad 3 r (tokVs ts) ∧ ∀ c, r.a = some (adr c) → lo ≤ c := by
  unfold LexOut at h; rw [e] at h; exact h
theorem LexOut.err {lo : Nat} {s : ByteArray} {r : Sl} {v : Value} {a c : Nat} (h : LexOut lo H s r v) (e : lexS s = .error (a, c)) : r = ⟨none, 0, 0⟩ ∧ ∃ f, v = .iface TQaa (.pointer (some (adr f))) ∧ lo ≤ f ∧ Row H f TQac [.int .i64 (a : Nat), .int .i64 (c : Nat)] := by
  unfold LexOut at h; rw [e] at h; exact h
theorem lexF_len : ∀ (f p : Nat) (r : Bs) (ts : List Tk), lexF f p r = .ok ts → ts.length ≤ r.length + 1
  | 0, _, [], ts, h => by simp only [lexF, Except.ok.injEq] at h; subst h; simp
  | 0, _, _ :: _, ts, h => by simp [lexF] at h
  | f + 1, p, [], ts, h => by simp only [lexF, Except.ok.injEq] at h; subst h; simp
  | f + 1, p, c :: t, ts, h => by
    unfold lexF at h
    split at h
    · have := lexF_len f _ _ _ h
      simp only [List.length_drop, List.length_cons] at this ⊢
      omega
    · rename_i k n _
      cases hr : lexF f (p + n) (t.drop (n - 1)) with
      | error e => rw [hr] at h; cases h
      | ok l =>
        have := lexF_len f _ _ _ hr
        rw [hr] at h
        simp only [pre, Except.ok.injEq] at h
        subst h
        simp only [List.length_drop, List.length_cons, List.length_append, List.length_nil] at this ⊢
        omega
    · cases h
theorem lexS_len {s : ByteArray} {ts : List Tk} (h : lexS s = .ok ts) : ts.length ≤ 8001 := by
  unfold lexS at h
  split at h
  · cases h
  · rename_i hs
    split at h
    · rename_i l hl
      cases h
      have := lexF_len _ _ _ _ hl
      rw [bs_size] at this
      omega
    · cases h
def TabH (H : Heap) : Prop := ∃ t fr, H[0]? = some (.cells (Lib.asciiSpaceTab.map fun z => Value.int .u8 z).toArray t fr)
theorem TabH.ext {H' : Heap} (h : TabH H) (hE : Ext H H') : TabH H' := by
  obtain ⟨t, fr, h⟩ := h
  exact ⟨t, fr, (hE.get 0 (lt_of_get h) fun h => h).trans h⟩
theorem TabH.nb {H' : Heap} {M : Nat → Prop} (h : TabH H) (hU : Upd M H H') (hM : ¬ M 0) : TabH H' := by
  obtain ⟨t, fr, h⟩ := h
  exact ⟨t, fr, (hU.get 0 (lt_of_get h) hM).trans h⟩
theorem gAscii : Tryz.prog.globalNamed "strings.asciiSpace" = some 0 := by kernel_rfl
abbrev sV (l : Bs) : Value := .string ⟨⟨l⟩⟩
def wordsS : ByteArray := ⟨#[97, 98, 115, 32, 97, 100, 100, 32, 100, 105, 101, 32, 101, 108, 115, 101, 32, 101, 109, 105, 116, 32, 102, 117, 110, 99, 32, 104, 97, 115, 32, 105, 102, 32, 105, 110, 112, 117, 116, 32, 108, 101, 116, 32, 109, 97, 120, 32, 109, 101, 32, 109, 105, 110, 32, 114, 97, 110, 100, 32, 114, 101, 97, 100, 115, 32, 114, 101, 109, 111, 118, 101, 32, 114, 101, 112, 101, 97, 116, 32, 114, 101, 116, 117, 114, 110, 32, 115, 112, 97, 119, 110, 32, 115, 116, 111, 112, 32, 115, 121, 115, 116, 101, 109, 32, 116, 105, 99, 107, 32, 119, 104, 105, 108, 101, 32, 119, 105, 116, 104, 32, 119, 105, 116, 104, 111, 117, 116, 32, 119, 114, 105, 116, 101, 115]⟩
theorem fields_words : Lib.fields wordsS.data.toList = wordsL := by rfl
theorem words_ascii : ∀ (j : Nat) b, wordsS.data.toList[j]? = some b → b.toNat < 128 := by
  have h : ∀ b ∈ wordsS.data.toList, b.toNat < 128 := by decide
  intro j b hb
  exact h b (List.mem_of_getElem? hb)
theorem s_Words (ht : TabH H) {k : Sl → Heap → Prop} (hk : ∀ r H', Vec H' TQae r (wordsL.map sV) → Ext H H' → r.a = some (adr H.size) → H.size < H'.size → k r H') : CallT Pg fQav [] (.one (.c .sl)) H k := by
  refine cQbr ?_
  unfold vQbr
  obtain ⟨t, fr, ht⟩ := ht
  refine lib_call cb_Fields (fun w hw => Tryz.strings_Fields wordsS w (by decide) words_ascii ?_) fun w e w' hw ⟨h1, h2⟩ => ?_
  · unfold Lib.TabIs World.var?
    rw [gAscii, Option.bind_some, hw, ht]
  · rw [fields_words] at h1 h2
    subst h2
    refine ⟨⟨rfl, rfl, rfl⟩, ⟨some (adr w.heap.size), 26, 26⟩, h1, ?_⟩
    have hE : Ext w.heap (w.alloc (.cells (wordsL.map fun l => Value.string ⟨l.toArray⟩).toArray 9)).heap := Upd.push _ _ _
    subst hw
    refine hk _ _ ⟨rfl, .inr ⟨w.heap.size, [], rfl, ?_, by simp [wordsL]⟩, Nat.le_refl _⟩ hE rfl (by show w.heap.size < (w.heap.push _).size; simp)
    rw [List.append_nil]
    exact get_push_new _ _
end
end Go.Proofs.YtfpmgpblhhcpgaaGreatDoor
namespace Go.Proofs.YtfpmgpblhhcpgaaGreatDoor.Hc
set_option linter.unusedVariables false
set_option linter.unusedSimpArgs false
set_option maxRecDepth 100000
structure VecO (H : Heap) (T : TypeId) (n : Nat) (s : Sl) (vs : List Value) : Prop where
  len : vs.length = s.len * n
  own : (s.a = none ∧ s.cap = 0 ∧ vs = []) ∨ ∃ (b : Nat) (pre sp : List Value), s.a = some ⟨b, pre.length, none⟩ ∧ Row H b T (pre ++ vs ++ sp) ∧ s.cap * n ≤ vs.length + sp.length
  lc : s.len ≤ s.cap
theorem VecO.upd {M : Nat → Prop} {H H' : Heap} (hu : Upd M H H') {T : TypeId} {n : Nat} {s : Sl} {vs : List Value} (h : VecO H T n s vs) (hn : ∀ a, s.a = some a → ¬ M a.block) : VecO H' T n s vs := by
  refine ⟨h.len, ?_, h.lc⟩
  rcases h.own with h1 | ⟨b, pre, sp, h1, h2, h3⟩
  · exact .inl h1
  · exact .inr ⟨b, pre, sp, h1, hu.row h2 (hn _ h1), h3⟩
theorem VecO.ext {H H' : Heap} (hu : Ext H H') {T : TypeId} {n : Nat} {s : Sl} {vs : List Value} (h : VecO H T n s vs) : VecO H' T n s vs := h.upd hu fun _ _ h => h
theorem VecO.ne {H : Heap} {T T' : TypeId} {n : Nat} {s : Sl} {vs ws : List Value} (h : VecO H T n s vs) {a : Addr} (ha : s.a = some a) {b : Nat} (h' : Row H b T' ws) (ht : T ≠ T') : a.block ≠ b := by
  rcases h.own with ⟨g1, _⟩ | ⟨c, pre, sp, g1, g2, _⟩
  · rw [g1] at ha; cases ha
  · rw [g1] at ha; cases ha; exact g2.ne h' ht
theorem VecO.cell {H : Heap} {T : TypeId} {n : Nat} {s : Sl} {vs : List Value} (h : VecO H T n s vs) {j : Nat} (hj : j < vs.length) : ∃ a, s.a = some a ∧ hcell H (a.add j) = vs[j]? := by
  rcases h.own with ⟨_, _, g⟩ | ⟨b, pre, sp, g1, g2, _⟩
  · subst g; simp at hj
  · refine ⟨_, g1, ?_⟩
    rw [mk_add, g2.cell, List.append_assoc, List.getElem?_append_right (by omega), show pre.length + j - pre.length = j by omega, List.getElem?_append_left hj]
theorem SlA_pop {H : Heap} {T : TypeId} {n : Nat} {s : Sl} {v ws : List Value} {k : Sl → Prop} (h : VecO H T n s (v ++ ws)) (hv : v.length = n) (hn : 0 < n) (hk : ∀ s', VecO H T n s' ws → (∀ a, s'.a = some a → ∃ a0, s.a = some a0 ∧ a0.block = a.block) → s'.len + 1 = s.len → k s') :
    SlA n s 1 (s.len : Nat) (s.cap : Nat) k := by
  have hl := h.len
  have hlc := h.lc
  have hpos : 0 < s.len := by
    rcases Nat.eq_zero_or_pos s.len with e | e
    · rw [e, List.length_append, hv] at hl; simp at hl; omega
    · exact e
  refine ⟨by omega, by omega, by omega, by omega, ?_⟩
  rw [show (Int.toNat 1) = 1 from rfl, Int.toNat_natCast, Int.toNat_natCast]
  obtain ⟨m, hm⟩ : ∃ m, s.len = m + 1 := ⟨s.len - 1, by omega⟩
  have hws : ws.length = m * n := by
    rw [List.length_append, hv, hm, Nat.add_mul] at hl; omega
  refine hk _ ⟨?_, ?_, ?_⟩ (fun a ha => ?_) (by dsimp only; omega)
  · dsimp only; rw [hm, show m + 1 - 1 = m by omega]; exact hws
  · rcases h.own with ⟨_, _, g⟩ | ⟨b, pre, sp, g1, g2, g3⟩
    · have := congrArg List.length g
      rw [List.length_append, hv] at this; simp at this; omega
    · right
      by_cases e : s.cap = 1
      · have hm0 : m = 0 := by omega
        have hw0 : ws = [] := List.eq_nil_of_length_eq_zero (by rw [hws, hm0]; simp)
        subst hw0
        refine ⟨b, pre, v ++ sp, ?_, ?_, ?_⟩
        · dsimp only; rw [if_pos e]; exact g1
        · simpa using g2
        · dsimp only; rw [e]; simp
      · refine ⟨b, pre ++ v, sp, ?_, ?_, ?_⟩
        · dsimp only
          rw [if_neg e, g1]
          simp [hv]
        · simpa using g2
        · dsimp only
          have : (s.cap - 1) * n = s.cap * n - n := by rw [Nat.sub_mul, Nat.one_mul]
          rw [this]
          rw [List.length_append, hv] at g3
          omega
  · dsimp only; omega
  · dsimp only at ha
    split at ha
    · exact ⟨a, ha, rfl⟩
    · cases hs : s.a with
      | none => rw [hs] at ha; cases ha
      | some a0 =>
        rw [hs] at ha
        simp only [Option.map_some, Option.some.injEq] at ha
        subst ha
        exact ⟨a0, rfl, (add_block _ _).symm⟩
end Go.Proofs.YtfpmgpblhhcpgaaGreatDoor.Hc
namespace Go.Proofs.YtfpmgpblhhcpgaaGreatDoor
set_option linter.unusedVariables false
set_option linter.unusedSimpArgs false
set_option maxRecDepth 100000
section
open Hc Hc.Lex Hc.Syn
variable {H : Heap}
theorem cb_Contains : Cb Pg fQau := ⟨_, Tryz.func125, by kernel_rfl, by kernel_rfl⟩
theorem s_Contains {r : Sl} {l : List Txt} (hv : Vec H TQae r (l.map fun t => (Value.string ⟨⟨t⟩⟩))) (hl : l.length ≤ 1000) {t : Txt} {k : Bool → Heap → Prop} (hk : k (l.contains t) H) : CallT Pg fQau [.slice r.a r.len r.cap, .string ⟨⟨t⟩⟩] (.one (.c .bool)) H k := by
  have hlen : r.len = l.length := by rw [hv.len, List.length_map]
  rcases l with _ | ⟨x, l⟩
  · rw [hlen]
    refine lib_call cb_Contains (fun w _ => Tryz.slices_Contains_string_empty r.a r.cap ⟨⟨t⟩⟩ w) fun w e w' hw ⟨h1, h2⟩ => ?_
    subst h2
    exact ⟨.refl _, false, h1, by rw [hw]; exact hk⟩
  · obtain ⟨b, hb, _⟩ := hv.cell (i := 0) (by simp)
    have ecell : ∀ j, j < ((x :: l).map fun t => (⟨⟨t⟩⟩ : ByteArray)).length → ∀ w : World, w.heap = H → w.cell? ⟨b, 0 + j, none⟩ = some (.string (((x :: l).map fun t => (⟨⟨t⟩⟩ : ByteArray)).getD j ByteArray.empty)) := fun j hj w hw => by
      subst hw
      rw [List.length_map] at hj
      obtain ⟨b', hb', hc⟩ := hv.cell (i := j) (by rw [List.length_map]; exact hj)
      rw [hb] at hb'; cases hb'
      rw [cell?_eq, Nat.zero_add, hc]
      rw [List.getElem?_map, List.getD_eq_getElem?_getD, List.getElem?_map, List.getElem?_eq_getElem hj]
      rfl
    rw [hb, hlen]
    refine lib_call cb_Contains (fun w hw => Tryz.slices_Contains_string b 0 (x :: l).length r.cap ((x :: l).map fun t => (⟨⟨t⟩⟩ : ByteArray)) ⟨⟨t⟩⟩ w (by simp) (by omega) fun j hj => ecell j hj w hw) fun w e w' hw ⟨h1, h2⟩ => ?_
    subst h2
    refine ⟨.refl _, _, h1, ?_⟩
    have : Lib.containsS (((x :: l).map fun t => (⟨⟨t⟩⟩ : ByteArray)).take (x :: l).length) ⟨⟨t⟩⟩ = (x :: l).contains t := by
      rw [Bool.eq_iff_iff, Lib.containsS_iff, List.take_of_length_le (by simp), List.mem_map, List.contains_iff_mem]
      constructor
      · rintro ⟨y, hy, e⟩
        have : y = t := by injection e with e; injection e
        exact this ▸ hy
      · exact fun h => ⟨t, h, rfl⟩
    rw [this, hw]; exact hk
theorem s_builtin {t : Txt} {k : Bool → Heap → Prop} (hk : ∀ H', Ext H H' → k (builtinL.contains t) H') : CallT Pg fQax [.string ⟨⟨t⟩⟩] (.one (.c .bool)) H k := by
  refine cQbb _ ?_
  unfold vQbb
  refine Nw_row (vs := builtinL.map fun t => (Value.string ⟨⟨t⟩⟩)) fun b H1 hb hE hz hr => ?_
  exact s_Contains (l := builtinL) (r := ⟨some (adr b), 5, 5⟩) ⟨rfl, .inr ⟨b, [], rfl, by simpa using hr, by simp [builtinL]⟩, Nat.le_refl _⟩ (by decide) (hk _ hE)
theorem letter_or (c : UInt8) : (decide ((bits .or .u8 (c.toNat : Int) 32) ≥ 97) && decide ((bits .or .u8 (c.toNat : Int) 32) ≤ 122)) = letterC c := by
  have h : ∀ n : Fin 256, (decide ((bits .or .u8 ((UInt8.ofNat n.val).toNat : Int) 32) ≥ 97) && decide ((bits .or .u8 ((UInt8.ofNat n.val).toNat : Int) 32) ≤ 122)) = letterC (UInt8.ofNat n.val) := by decide +kernel
  have := h ⟨c.toNat, c.toNat_lt⟩
  simpa using this
theorem shape_iff : ∀ {t : Txt}, t ≠ [] → (shapeB t = true ↔ ∀ x, x < t.length → (if x = 0 then letterC t[x]! else wordC t[x]!) = true)
  | [], h => absurd rfl h
  | c :: t, _ => by
    show (letterC c && t.all wordC) = true ↔ _
    rw [Bool.and_eq_true, List.all_eq_true]
    constructor
    · rintro ⟨h1, h2⟩ x hx
      cases x with
      | zero => exact h1
      | succ x =>
        rw [if_neg (by omega)]
        have hx' : x < t.length := by simpa using hx
        have : (c :: t)[x + 1]! = t[x] := by simp [hx']
        rw [this]; exact h2 _ (List.getElem_mem _)
    · intro h
      refine ⟨h 0 (by simp), fun x hx => ?_⟩
      obtain ⟨i, hi, rfl⟩ := List.getElem_of_mem hx
      have := h (i + 1) (by simpa using hi)
      rw [if_neg (by omega)] at this
      simpa [hi] using this
theorem s_isName (ht : TabH H) {t : Txt} (hs : t.length ≤ 2 ^ 40) {k : Bool → Heap → Prop} (hk : ∀ H', Ext H H' → k (isNameB t) H') : CallT Pg fQan [.string ⟨⟨t⟩⟩] (.one (.c .bool)) H k := by
  refine cQbc _ ?_
  unfold vQbc
  refine Jn.mk (fun j H' => Ext H H' ∧ j = (t.isEmpty || decide (t.length > 16) || wordsL.contains t)) (fun kk hkk => ?_) ?_
  · rw [beq_bs]
    refine Br_dec (fun e => hkk _ _ ⟨.refl _ _, ?_⟩) fun e => Br_dec (fun e2 => hkk _ _ ⟨.refl _ _, ?_⟩) fun e2 => s_Words ht fun r H2 hv hE _ _ => s_Contains (l := wordsL) hv (by decide) (hkk _ _ ⟨hE, ?_⟩)
    · have e : t = [] := e
      subst e; rfl
    · have e2 : (t.length : Int) > 16 := e2
      rw [decide_eq_true (show t.length > 16 by omega)]; simp
    · have e2 : ¬ (t.length : Int) > 16 := e2
      have e : ¬ t = [] := e
      rw [decide_eq_false (show ¬ t.length > 16 by omega)]
      cases t with
      | nil => exact absurd rfl e
      | cons c t => rfl
  rintro _ H1 ⟨hE1, rfl⟩
  refine Br.mk (fun e => ?_) fun e => ?_
  · have : isNameB t = false := by
      unfold isNameB
      simp only [Bool.or_eq_true, decide_eq_true_eq] at e
      rcases e with (e | e) | e
      · cases t with
        | nil => simp [shapeB]
        | cons c t => cases e
      · rw [decide_eq_false (by omega)]; rfl
      · rw [e]; simp
    rw [← this]; exact hk _ hE1
  · simp only [Bool.or_eq_false_iff, decide_eq_false_iff_not] at e
    obtain ⟨⟨e1, e2⟩, e3⟩ := e
    have hin : isNameB t = shapeB t := by
      unfold isNameB
      rw [decide_eq_true (show t.length ≤ 16 by omega), e3]; rfl
    refine S2B_rb fun l H4 hrb hE4 _ => ?_
    have hrb : RB H4 l t := hrb
    have hE := hE1.trans hE4 fun _ _ h => h
    have hlen := hrb.len
    refine LoopT.ghost (fun m (i : Int) H' => H' = H4 ∧ ∃ j : Nat, i = j ∧ j + m = t.length ∧ ∀ x, x < j → (if x = 0 then letterC t[x]! else wordC t[x]!) = true) t.length ⟨rfl, 0, rfl, by omega, fun x hx => by omega⟩ ?_
    rintro next m i H5 ⟨eH, j, rfl, hm, hall⟩ hnext
    subst eH
    have hne : t ≠ [] := by intro h; subst h; exact absurd e1 (by decide)
    refine Br_dec (fun hj => ?_) fun hj => ?_
    rotate_left
    · have : isNameB t = true := by
        rw [hin, shape_iff hne]
        exact fun x hx => hall x (by omega)
      rw [← this]; exact hk _ hE
    have hjl : j < t.length := by omega
    refine IxA_rb hrb rfl hjl fun a hc _ => Ld_int hc ?_
    have ej : t[j]! = t[j] := by simp [hjl]
    generalize t[j] = c at *
    have hlo := letter_or c
    refine Jn.mk (fun y H' => H5 = H' ∧ y = letterC c) (fun kk hkk => Lt.mk rfl (Br_dec (fun h => Lt.mk rfl (hkk _ _ ⟨rfl, ?_⟩)) fun h => hkk _ _ ⟨rfl, ?_⟩)) ?_
    · rw [decide_eq_true h, Bool.true_and] at hlo; exact hlo
    · rw [decide_eq_false h, Bool.false_and] at hlo; exact hlo
    rintro _ _ ⟨rfl, rfl⟩
    refine Jn.mk (fun y H' => H5 = H' ∧ y = !(if j = 0 then letterC c else wordC c)) (fun kk hkk => ?_) ?_
    · have hc5 : c = 95 ↔ (c.toNat : Int) = 95 := ⟨fun h => by rw [h]; rfl, fun h => UInt8.toNat_inj.1 (by show c.toNat = 95; omega)⟩
      cases hL : letterC c with
      | true => exact (Br_false _ _).2 (hkk _ _ ⟨rfl, by unfold wordC; rw [hL]; simp⟩)
      | false =>
        refine (Br_true _ _).2 (Br.mk (fun e0 => hkk _ _ ⟨rfl, ?_⟩) fun e0 => Br.mk (fun e5 => ?_) fun e5 => hkk _ _ ⟨rfl, ?_⟩)
        · have e0 : (j : Int) = 0 := by simpa using e0
          rw [if_pos (by omega), hL]; rfl
        · have e0 : ¬ (j : Int) = 0 := by simpa using e0
          have e5 : ¬ (c.toNat : Int) = 95 := by simpa using e5
          have n5 : (c == 95) = false := beq_eq_false_iff_ne.2 fun h => e5 (hc5.1 h)
          refine Br_dec (fun h => hkk _ _ ⟨rfl, ?_⟩) fun h => hkk _ _ ⟨rfl, ?_⟩
          · rw [if_neg (by omega)]; unfold wordC
            rw [hL, n5, digitC_eq, decide_eq_false (by omega)]; rfl
          · rw [if_neg (by omega)]; unfold wordC
            rw [hL, n5, digitC_eq, Bool.false_or, Bool.or_false, ← decide_not]
            exact decide_eq_decide.2 (by omega)
        · have e0 : ¬ (j : Int) = 0 := by simpa using e0
          have e5 : (c.toNat : Int) = 95 := by simpa using e5
          rw [if_neg (by omega)]; unfold wordC
          rw [hc5.2 e5]; rfl
    rintro _ _ ⟨rfl, rfl⟩
    refine Br.mk (fun hb => ?_) fun hb => ?_
    · have : isNameB t = false := by
        rw [hin, Bool.eq_false_iff]
        intro hs
        have := (shape_iff hne).1 hs j hjl
        rw [ej] at this
        rw [this] at hb; cases hb
      rw [← this]; exact hk _ hE
    · have hb : (if j = 0 then letterC c else wordC c) = true := by simpa using hb
      refine Lt.mk (u := (j : Int) + 1) (by rw [wrap_i64_id] <;> omega) (hnext (m - 1) _ _ (by omega) ⟨rfl, j + 1, by omega, by omega, fun x hx => ?_⟩)
      rcases Nat.lt_or_ge x j with h | h
      · exact hall x h
      · have : x = j := by omega
        subst this
        rw [ej]; exact hb
theorem beqI {a b : Int} (h : (a == b) = true) : a = b := by simpa using h
theorem bneI {a b : Int} (h : (a == b) = false) : a ≠ b := by simpa using h
theorem extUpd {H H1 H2 : Heap} {b : Nat} (hE : Ext H H1) (hb : H.size ≤ b) (hU : Upd (· = b) H1 H2) : Ext H H2 := hE.trans hU fun c hc e => by omega
theorem s_ParseInt {t : Txt} (ht : t ≠ []) (hs : t.length ≤ 8000) (hd : t.all digitC = true) (hm : decL 0 t ≤ 9223372036854775807) {k : Int × Value → Heap → Prop} (hk : ∀ v H', Ext H H' → k ((decL 0 t : Nat), v) H') : CallT Pg fQao [.string ⟨⟨t⟩⟩, .int .i64 10, .int .i64 64] (.tup [(.c (.int .i64)), (.c .raw)]) H k :=
  s_ParseInt_ok (s := ⟨⟨t⟩⟩) (v := (decL 0 t : Nat)) hs (by show Lib.parseIntB 64 t = _; rw [parse_digits (fun c hc => List.all_eq_true.1 hd c hc) ht, if_pos hm]) fun H' hE => hk _ H' hE
end
end Go.Proofs.YtfpmgpblhhcpgaaGreatDoor
