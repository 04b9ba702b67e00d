/-
  The lexer: all tokens.
-/
import Derived.Test.YtlkmmplgfjicjaaDoorLexC
namespace Go.Proofs.YtlkmmplgfjicjaaDoor
set_option linter.unusedVariables false
set_option linter.unusedSimpArgs false
open Go.Proofs.YtlkmmplgfjicjaaDoor.Hc Go.Proofs.YtlkmmplgfjicjaaDoor.Hc.Lex
set_option maxRecDepth 100000

/-- So far. -/
structure Core (lo : Nat) (H0 H : Heap) (b : Nat) (s : ByteArray) (q : Nat) (ts : List Tk) (l : Sl) : Prop where
  rdr : Rdr lo H b s q ts l
  lex : lexL 0 (bs s) = pre ts (lexL q ((bs s).drop q))
  len : ts.length ≤ q
  le : q ≤ s.size
  nb : Nb lo H0 H
variable {lo : Nat} {H0 H : Heap} {b : Nat} {s : ByteArray} {q : Nat} {ts : List Tk} {l : Sl}
theorem Core.tok (h : Core lo H0 H b s q ts l) {c : UInt8} {t : Bs} (hd : (bs s).drop q = c :: t) (hst : Stop ((bs s).drop q)) {H' : Heap} {r : Option Addr} (ho : TokOut lo H H' b s q ts r) :
    (∃ n ts' l', r = none ∧ 1 ≤ n ∧ Core lo H0 H' b s (q + n) ts' l') ∨ (∃ e, FaultAt lo H' r e 90 ∧ lexL 0 (bs s) = .error e ∧ Nb lo H0 H') := by
  have hev := Stop.ev (hd ▸ hst)
  obtain ⟨hN, ⟨k, n, l', he, hr, hR⟩ | ⟨n, he, hF⟩⟩ := ho
  · have hle := tokE_le he
    rw [List.length_drop, bs_size] at hle
    rw [hd] at he
    refine .inl ⟨n, _, l', hr, hle.1, hR, ?_, ?_, by omega, h.nb.tr hN⟩
    · rw [h.lex, lexL_tok hd (hev.trans he) hle.1, pre_pre]
    · have := h.len
      simp; omega
  · rw [hd] at he
    refine .inr ⟨_, hF, ?_, h.nb.tr hN⟩
    rw [h.lex, lexL_err hd (hev.trans he)]; rfl
theorem s_all (h : Rdr lo H b s 0 [] l) (hlo : lo ≤ H.size) (hg : GE lo H) (hs : s.size ≤ 8000) {k : Option Addr → Heap → Prop}
    (hk : ∀ r H', Nb lo H H' → (∃ ts l, r = none ∧ Rdr lo H' b s s.size ts l ∧ lexL 0 (bs s) = .ok ts) ∨ (∃ e, FaultAt lo H' r e 90 ∧ lexL 0 (bs s) = .error e) → k r H') :
    CallT Pg f_lex_reader_all [.pointer (some (adr b))] (.one (.c .ptr)) H k := by
  refine c_lex_reader_all _ ?_
  unfold v_lex_reader_all
  simp only [NilCk_some, adr_add]
  -- between two tokens
  have between : ∀ (q : Nat) (ts : List Tk) (l : Sl) (H1 : Heap) (jump : Nat → Option Addr → Heap → Prop), Core lo H H1 b s q ts l →
      (∀ ts l H2, Core lo H H2 b s s.size ts l → jump 1 none H2) →
      (∀ q' ts l H2 c t, q ≤ q' → Core lo H H2 b s q' ts l → (bs s).drop q' = c :: t → Stop ((bs s).drop q') → letterC c = true → jump 2 none H2) →
      (∀ q' ts l H2 c t, q ≤ q' → Core lo H H2 b s q' ts l → (bs s).drop q' = c :: t → Stop ((bs s).drop q') → letterC c = false → digitC c = true → jump 3 none H2) →
      (∀ q' ts l H2, q < q' → Core lo H H2 b s q' ts l → jump 4 none H2) →
      (∀ r e H2, FaultAt lo H2 r e 90 → lexL 0 (bs s) = .error e → Nb lo H H2 → jump 4 r H2) →
      CallT Pg f_lex_reader_skip [.pointer (some (adr b))] (.one (.c .ptr)) H1 fun (r1 : Option Addr) H1 =>
      Br (!r1.isNone) (
        k r1 H1) (
        Ld (.int .i64) ⟨b, 1, none⟩ H1 fun (x1 : Int) =>
        Ld .str (adr b) H1 fun (x2 : ByteArray) =>
        Br (x1 == (x2.size : Int)) (
          jump 1 r1 H1) (
          Ld .str (adr b) H1 fun (x3 : ByteArray) =>
          Ld (.int .i64) ⟨b, 1, none⟩ H1 fun (x4 : Int) =>
          StrI x3 x4 fun b1 =>
          CallT Pg f_lex_letter [.int .u8 b1] (.one (.c .bool)) H1 fun (r2 : Bool) H2 =>
          Br r2 (
            jump 2 r1 H2) (
            CallT Pg f_lex_digit [.int .u8 b1] (.one (.c .bool)) H2 fun (r3 : Bool) H3 =>
            Br r3 (
              jump 3 r1 H3) (
              CallT Pg f_lex_reader_symbol [.pointer (some (adr b))] (.one (.c .ptr)) H3 fun (r4 : Option Addr) H4 =>
              jump 4 r4 H4)))) := by
    intro q ts l H1 jump hC h1 h2 h3 h4 h5
    have z := hC.nb.size
    have hlen := hC.len
    refine s_skip hC.rdr (by omega) (hg.nb hg.lt hC.nb) hs hC.le fun r H2 hN ho => ?_
    have z2 := hN.size
    rcases ho with ⟨q', hq, hq2, rfl, hR, hl, hst⟩ | ⟨e, hF, he⟩
    · have hC2 : Core lo H H2 b s q' ts l := ⟨hR, by rw [hC.lex, hl], by omega, hq2, hC.nb.tr hN⟩
      refine Ld_int hR.c1 (Ld_str hR.c0 ?_)
      by_cases hend : q' = s.size
      · subst hend
        rw [show ((((s.size : Nat) : Int)) == (s.size : Int)) = true from beq_self_eq_true _]
        exact h1 _ _ _ hC2
      · rw [show (((q' : Nat) : Int) == (s.size : Int)) = false from beq_eq_false_iff_ne.2 (by omega)]
        rcases drop_cases (bs s) q' with ⟨e, _⟩ | ⟨c, t, hd, _⟩
        · rw [bs_size] at e; omega
        refine Ld_str hR.c0 (Ld_int hR.c1 (StrI_bs hd rfl (s_letter (Br.mk (fun hc => h2 _ _ _ _ c t hq hC2 hd hst hc) fun hc => s_digit (Br.mk (fun hc2 => h3 _ _ _ _ c t hq hC2 hd hst hc hc2) fun hc2 => ?_)))))
        refine s_symbol hR (by omega) hs (by omega) hd hc hc2 fun r H3 ho => ?_
        rcases hC2.tok hd hst ho with ⟨n, ts', l', rfl, hn, hC3⟩ | ⟨e, hF, he, hN3⟩
        · exact h4 _ _ _ _ (by omega) hC3
        · exact h5 _ _ _ hF he hN3
    · obtain ⟨f, rfl, hf, hrow⟩ := hF
      refine hk _ _ (hC.nb.tr hN) (.inr ⟨e, ⟨f, rfl, hf, hrow⟩, ?_⟩)
      rw [hC.lex, he]; rfl
  have hC0 : Core lo H H b s 0 [] l := ⟨h, by rw [List.drop_zero, pre_nil], Nat.le_refl _, Nat.zero_le _, .refl _ _⟩
  refine JumpT.ghost (fun m lb f H1 => match lb with
    | 0 => ∃ q ts l, m = 3 * (s.size - q) + 1 ∧ Core lo H H1 b s q ts l
    | 1 => ∃ ts l, m = 0 ∧ Core lo H H1 b s s.size ts l
    | 2 => ∃ q ts l c t, m = 3 * (s.size - q) ∧ Core lo H H1 b s q ts l ∧ (bs s).drop q = c :: t ∧ Stop ((bs s).drop q) ∧ letterC c = true
    | 3 => ∃ q ts l c t, m = 3 * (s.size - q) ∧ Core lo H H1 b s q ts l ∧ (bs s).drop q = c :: t ∧ Stop ((bs s).drop q) ∧ letterC c = false ∧ digitC c = true
    | _ => (∃ q ts l, f = none ∧ m = 3 * (s.size - q) + 2 ∧ Core lo H H1 b s q ts l) ∨ (∃ e, m = 0 ∧ FaultAt lo H1 f e 90 ∧ lexL 0 (bs s) = .error e ∧ Nb lo H H1)) (fun jump hj => ?_) ?_
  · exact between 0 [] l H jump hC0 (fun ts l H2 hC => hj 0 1 _ _ ⟨ts, l, rfl, hC⟩) (fun q ts l H2 c t _ hC h1 h2 h3 => hj _ 2 _ _ ⟨q, ts, l, c, t, rfl, hC, h1, h2, h3⟩)
      (fun q ts l H2 c t _ hC h1 h2 h3 h4 => hj _ 3 _ _ ⟨q, ts, l, c, t, rfl, hC, h1, h2, h3, h4⟩) (fun q ts l H2 _ hC => hj _ 4 _ _ (.inl ⟨q, ts, l, rfl, rfl, hC⟩)) (fun r e H2 hF he hN => hj 0 4 _ _ (.inr ⟨e, rfl, hF, he, hN⟩))
  · intro pz hpz jump m f H1 hI hj
    simp only [List.mem_cons, List.not_mem_nil, or_false] at hpz
    rcases hpz with rfl | rfl | rfl | rfl | rfl
    · obtain ⟨q, ts, l, rfl, hC⟩ := hI
      have hq := hC.le
      exact between q ts l H1 jump hC (fun ts l H2 hC => hj 0 1 _ _ (by omega) ⟨ts, l, rfl, hC⟩) (fun q' ts l H2 c t hle hC h1 h2 h3 => hj _ 2 _ _ (by omega) ⟨q', ts, l, c, t, rfl, hC, h1, h2, h3⟩)
        (fun q' ts l H2 c t hle hC h1 h2 h3 h4 => hj _ 3 _ _ (by omega) ⟨q', ts, l, c, t, rfl, hC, h1, h2, h3, h4⟩) (fun q' ts l H2 hlt hC => hj _ 4 _ _ (by have := hC.le; omega) (.inl ⟨q', ts, l, rfl, rfl, hC⟩)) (fun r e H2 hF he hN => hj 0 4 _ _ (by omega) (.inr ⟨e, rfl, hF, he, hN⟩))
    · obtain ⟨ts, l, rfl, hC⟩ := hI
      have z := hC.nb.size
      have hlen := hC.len
      refine s_add (kind := 0) (n := 0) hC.rdr (by omega) hs (by omega) (by omega) fun l' H2 hR hN => ?_
      refine hk _ _ (hC.nb.tr hN) (.inl ⟨_, l', rfl, hR, ?_⟩)
      have hnil : (bs s).drop s.size = [] := List.drop_eq_nil_of_le (by rw [bs_size]; omega)
      rw [hC.lex, hnil, lexL_nil]; rfl
    · obtain ⟨q, ts, l, c, t, rfl, hC, hd, hst, hc⟩ := hI
      have z := hC.nb.size
      have hlen := hC.len
      have hle := hC.le
      obtain ⟨hp, _⟩ := Rdr.ps hd
      refine s_word hC.rdr (by omega) hs (by omega) hd hc fun r H2 ho => ?_
      rcases hC.tok hd hst ho with ⟨n, ts', l', rfl, hn, hC3⟩ | ⟨e, hF, he, hN3⟩
      · exact hj _ 4 _ _ (by have := hC3.le; omega) (.inl ⟨_, _, _, rfl, rfl, hC3⟩)
      · exact hj 0 4 _ _ (by omega) (.inr ⟨e, rfl, hF, he, hN3⟩)
    · obtain ⟨q, ts, l, c, t, rfl, hC, hd, hst, hc, hc2⟩ := hI
      have z := hC.nb.size
      have hlen := hC.len
      have hle := hC.le
      obtain ⟨hp, _⟩ := Rdr.ps hd
      dsimp only
      refine s_number hC.rdr (by omega) (hg.nb hg.lt hC.nb) hs (by omega) hd hc hc2 fun r H2 ho => ?_
      rcases hC.tok hd hst ho with ⟨n, ts', l', rfl, hn, hC3⟩ | ⟨e, ⟨f, rfl, hf, hrow⟩, he, hN3⟩
      · exact hj _ 0 _ _ (by have := hC3.le; omega) ⟨_, _, _, rfl, hC3⟩
      · exact hk _ _ hN3 (.inr ⟨e, ⟨f, rfl, hf, hrow⟩, he⟩)
    · rcases hI with ⟨q, ts, l, rfl, rfl, hC⟩ | ⟨e, rfl, ⟨f, rfl, hf, hrow⟩, he, hN⟩
      · exact hj _ 0 _ _ (by omega) ⟨q, ts, l, rfl, hC⟩
      · exact hk _ _ hN (.inr ⟨e, ⟨f, rfl, hf, hrow⟩, he⟩)

/-- What a source is taken apart into; the place and the error, if it is at fault. -/
def lexS (s : ByteArray) : Except (Nat × Nat) (List Tk) :=
  if 8000 < s.size then .error (8000, 102) else match lexL 0 (bs s) with
    | .ok l => .ok l
    | .error e => .error (e, 90)
/-- What Lex gives out. -/
def LexOut (lo : Nat) (H : Heap) (s : ByteArray) (r : Sl) (v : Value) : Prop :=
  match lexS s with
  | .ok ts => v = .nilIface ∧ VecN H T_api_Token 3 r (tokVs ts) ∧ ∀ c, r.a = some (adr c) → lo ≤ c
  | .error (a, e) => r = ⟨none, 0, 0⟩ ∧ ∃ f, v = .iface T_P_api_Fault (.pointer (some (adr f))) ∧ lo ≤ f ∧ Row H f T_api_Fault [.int .i64 (a : Nat), .int .i64 (e : Nat)]
theorem s_Lex (hg : GE H.size H) {k : Sl × Value → Heap → Prop} (hk : ∀ r H', Ext H H' → LexOut H.size H' s r.1 r.2 → k r H') : CallT Pg f_lex_Lex [.string s] (.tup [(.c .sl), (.c .raw)]) H k := by
  refine c_lex_Lex _ ?_
  unfold v_lex_Lex
  have ofNb : ∀ {H'}, Nb H.size H H' → Ext H H' := fun h => h.mono fun b hb h => by omega
  refine Br_dec (fun hbig => ?_) fun hsmall => ?_
  · refine s_fault fun H1 f hf hE hr => hk _ _ hE ?_
    unfold LexOut lexS
    rw [if_pos (by omega)]
    exact ⟨rfl, f, rfl, by omega, hr⟩
  · refine Nw_row fun b1 H1 hb hE hz hr => ?_
    have hR : Rdr H.size H1 b1 s 0 [] ⟨none, 0, 0⟩ := ⟨hr, ⟨rfl, .inl ⟨rfl, rfl, rfl⟩, Nat.le_refl _⟩, by omega, fun c e => by cases e⟩
    refine s_all hR (by omega) (hg.ext hE) (by omega) fun r H2 hN ho => ?_
    have hE2 := ofNb ((Nb.ex hE).tr hN)
    rcases ho with ⟨ts, l, rfl, hR2, hl⟩ | ⟨e, ⟨f, rfl, hf, hrow⟩, he⟩
    · simp only [NilCk_some, adr_add]
      refine Ld_sl (s := l) hR2.c2 (hk _ _ hE2 ?_)
      unfold LexOut lexS
      rw [if_neg (by omega), hl]
      exact ⟨rfl, hR2.vec, hR2.ll⟩
    · refine hk _ _ hE2 ?_
      unfold LexOut lexS
      rw [if_neg (by omega), he]
      exact ⟨rfl, f, rfl, hf, hrow⟩
end Go.Proofs.YtlkmmplgfjicjaaDoor
