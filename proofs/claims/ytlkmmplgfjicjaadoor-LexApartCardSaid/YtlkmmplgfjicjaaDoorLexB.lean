/-
  The lexer's methods.
-/
import Derived.Test.YtlkmmplgfjicjaaDoorLexA
namespace Go.Proofs.YtlkmmplgfjicjaaDoor
set_option linter.unusedVariables false
set_option linter.unusedSimpArgs false
open Go.Proofs.YtlkmmplgfjicjaaDoor.Hc Go.Proofs.YtlkmmplgfjicjaaDoor.Hc.Lex
set_option maxRecDepth 100000

abbrev tokV (t : Tk) : List Value := [.int .i64 (t.kind : Nat), .string ⟨⟨t.text⟩⟩, .int .i64 (t.at' : Nat)]
abbrev tokVs (ts : List Tk) : List Value := ts.flatMap tokV
theorem tokV_len (t : Tk) : (tokV t).length = 3 := rfl
theorem tokVs_len (ts : List Tk) : (tokVs ts).length = ts.length * 3 := flat_len tokV_len
theorem vecN_ne {H : Heap} {T T' : TypeId} {n : Nat} {s : Sl} {vs ws : List Value} {b : Nat} (h : VecN H T n s vs) (hr : Row H b T' ws) (ht : T ≠ T') : s.a ≠ some (adr b) := fun e => by
  rcases h.own with ⟨h1, _⟩ | ⟨c, sp, h1, h2, _⟩
  · rw [h1] at e; cases e
  · rw [h1] at e; cases e; exact h2.ne hr ht rfl
theorem vecN_lt {H : Heap} {T : TypeId} {n : Nat} {s : Sl} {vs : List Value} {b : Nat} (h : VecN H T n s vs) (e : s.a = some (adr b)) : b < H.size := by
  rcases h.own with ⟨h1, _⟩ | ⟨c, sp, h1, h2, _⟩
  · rw [h1] at e; cases e
  · rw [h1] at e; cases e; exact h2.lt
/-- A reader at place p that has these tokens. -/
structure Rdr (lo : Nat) (H : Heap) (b : Nat) (s : ByteArray) (p : Nat) (ts : List Tk) (l : Sl) : Prop where
  row : Row H b T_lex_reader [.string s, .int .i64 (p : Nat), slV l]
  vec : VecN H T_api_Token 3 l (tokVs ts)
  lb : lo ≤ b
  ll : ∀ c, l.a = some (adr c) → lo ≤ c
variable {lo : Nat} {H : Heap} {b : Nat} {s : ByteArray} {p : Nat} {ts : List Tk} {l : Sl}
theorem Rdr.c0 (h : Rdr lo H b s p ts l) : hcell H (adr b) = some (.string s) := (h.row.cell 0).trans rfl
theorem Rdr.c1 (h : Rdr lo H b s p ts l) : hcell H ⟨b, 1, none⟩ = some (.int .i64 (p : Nat)) := (h.row.cell 1).trans rfl
theorem Rdr.c2 (h : Rdr lo H b s p ts l) : hcell H ⟨b, 2, none⟩ = some (slV l) := (h.row.cell 2).trans rfl
theorem Rdr.ext {H' : Heap} (hu : Ext H H') (h : Rdr lo H b s p ts l) : Rdr lo H' b s p ts l := ⟨hu.row h.row fun h => h, h.vec.upd hu fun _ _ h => h, h.lb, h.ll⟩
theorem Rdr.lt (h : Rdr lo H b s p ts l) : b < H.size := h.row.lt
theorem Rdr.len (h : Rdr lo H b s p ts l) : l.len = ts.length := by
  have := h.vec.len
  rw [tokVs_len] at this
  omega
theorem s_rest (h : Rdr lo H b s p ts l) (hp : p ≤ s.size) {k : ByteArray → Heap → Prop} (hk : k ⟨⟨(bs s).drop p⟩⟩ H) : CallT Pg f_lex_reader_rest [.pointer (some (adr b))] (.one (.c .str)) H k := by
  refine c_lex_reader_rest _ ?_
  unfold v_lex_reader_rest
  simp only [NilCk_some, adr_add]
  refine Ld_str h.c0 (Ld_int h.c1 (StrS_bs rfl rfl hp (Nat.le_refl _) ?_))
  rw [List.take_of_length_le (by simp)]
  exact hk
theorem s_while (h : Rdr lo H b s p ts l) (hp : p ≤ s.size) (hs : s.size ≤ 8000) {f : FuncId} {pr : UInt8 → Bool} (hf : ∀ (c : UInt8) (H : Heap) (k : Bool → Heap → Prop), k (pr c) H → CallT Pg f [.int .u8 (c.toNat : Int)] (.one (.c .bool)) H k) {k : Int → Heap → Prop}
    (hk : k (runL pr ((bs s).drop p) : Nat) H) : CallT Pg f_lex_reader_while [.pointer (some (adr b)), .func (.func f) #[] #[]] (.one (.c (.int .i64))) H k := by
  refine c_lex_reader_while _ _ ?_
  unfold v_lex_reader_while
  simp only [NilCk_some, adr_add]
  have hle := runL_le pr ((bs s).drop p)
  rw [List.length_drop, bs_size] at hle
  refine LoopT.mk (fun n H' => H = H' ∧ ∃ m : Nat, n = m ∧ m ≤ runL pr ((bs s).drop p)) (fun n _ => runL pr ((bs s).drop p) - n.toNat) ⟨rfl, 0, rfl, Nat.zero_le _⟩ ?_
  rintro next _ _ ⟨rfl, m, rfl, hm⟩ hnext
  refine Jn.mk (fun j H' => H = H' ∧ j = decide (m < runL pr ((bs s).drop p))) (fun kk hkk => ?_) ?_
  · refine Ld_int h.c1 (Lt.mk (u := ((p + m : Nat) : Int)) (by rw [wrap_i64_id] <;> omega) (Ld_str h.c0 ?_))
    rcases runL_step hm with ⟨c, t, h1, h2, h3⟩ | ⟨h1, h2⟩
    · rw [List.drop_drop] at h1
      have := (drop_length h1).1
      rw [bs_size] at this
      refine Br_yes (by omega) (Ld_str h.c0 (Ld_int h.c1 (Lt.mk (u := ((p + m : Nat) : Int)) (by rw [wrap_i64_id] <;> omega) (StrI_bs h1 rfl ?_))))
      refine ⟨f, #[], #[], rfl, hf c _ _ ?_⟩
      exact Stab_all (fun x hx => by simp only [List.mem_cons, List.not_mem_nil, or_false] at hx; rcases hx with rfl | rfl | rfl | rfl <;> first | exact h.c1 | exact h.c0) (hkk _ _ ⟨rfl, by rw [h2, decide_eq_true h3]⟩)
    · rcases h2 with h2 | ⟨c, t, h2, h3⟩
      · rw [List.drop_drop] at h2
        have := congrArg List.length h2
        simp only [List.length_drop, List.length_nil, bs_size] at this
        exact Br_no (by omega) (hkk _ _ ⟨rfl, (decide_eq_false (by omega)).symm⟩)
      · rw [List.drop_drop] at h2
        have := (drop_length h2).1
        rw [bs_size] at this
        refine Br_yes (by omega) (Ld_str h.c0 (Ld_int h.c1 (Lt.mk (u := ((p + m : Nat) : Int)) (by rw [wrap_i64_id] <;> omega) (StrI_bs h2 rfl ?_))))
        refine ⟨f, #[], #[], rfl, hf c _ _ ?_⟩
        exact Stab_all (fun x hx => by simp only [List.mem_cons, List.not_mem_nil, or_false] at hx; rcases hx with rfl | rfl | rfl | rfl <;> first | exact h.c1 | exact h.c0) (hkk _ _ ⟨rfl, by rw [h3, decide_eq_false (by omega)]⟩)
  · rintro j _ ⟨rfl, rfl⟩
    refine Br_dec (fun hlt => Lt.mk (u := ((m + 1 : Nat) : Int)) (by rw [wrap_i64_id] <;> omega) (hnext _ _ ⟨rfl, m + 1, rfl, hlt⟩ (by omega))) fun hge => ?_
    have : m = runL pr ((bs s).drop p) := by omega
    rw [this]; exact hk
theorem s_add (h : Rdr lo H b s p ts l) (hlo : lo ≤ H.size) (hs : s.size ≤ 8000) (ht : ts.length ≤ 9000) {kind n : Nat} (hn : p + n ≤ s.size) {k : Unit → Heap → Prop}
    (hk : ∀ l' H', Rdr lo H' b s (p + n) (ts ++ [⟨kind, ((bs s).drop p).take n, p⟩]) l' → Nb lo H H' → k () H') : CallT Pg f_lex_reader_add [.pointer (some (adr b)), .int .i64 (kind : Nat), .int .i64 (n : Nat)] (.tup []) H k := by
  refine c_lex_reader_add _ _ _ ?_
  unfold v_lex_reader_add
  simp only [NilCk_some, adr_add]
  have hz := h.lt
  refine Ld_sl (s := l) h.c2 (Ld_str h.c0 (Ld_int h.c1 (Ld_int h.c1 (Lt.mk (u := ((p + n : Nat) : Int)) (by rw [wrap_i64_id] <;> omega) (StrS_bs rfl rfl (by omega) hn (Ld_int h.c1 (Nw_row fun b1 H1 hb1 hE1 _ hr1 => ?_)))))))
  have h1 := h.ext hE1
  refine Stab_all (fun x hx => by simp only [List.mem_cons, List.not_mem_nil, or_false] at hx; rcases hx with rfl | rfl | rfl | rfl | rfl <;> first | exact h1.c1 | exact h1.c0 | exact h1.c2) ?_
  have hl := h1.len
  refine App_vecN (n := 3) rfl (by omega) h1.vec (ws := [.int .i64 (kind : Nat), .string ⟨⟨((bs s).drop p).take (p + n - p)⟩⟩, .int .i64 (p : Nat)]) hr1.rd_all rfl (by simp [Value.oneCell']) (by omega) (by simp only; omega) fun l1 H2 hv2 hl2 hU2 ha2 => ?_
  have hr2 : Row H2 b T_lex_reader [.string s, .int .i64 (p : Nat), slV l] := hU2.row h1.row fun e => vecN_ne h1.vec h1.row (by decide) e.1
  have d1 : hcell H2 ⟨b, 1, none⟩ = some (.int .i64 (p : Nat)) := (hr2.cell 1).trans rfl
  refine Stab_all (fun x hx => by simp only [List.mem_cons, List.not_mem_nil, or_false] at hx; rcases hx with rfl | rfl | rfl | rfl <;> first | exact (hr2.cell 1).trans rfl | exact (hr2.cell 0).trans rfl) ?_
  refine St_row hr2 (by simp) fun H3 hU3 _ hr3 => ?_
  refine Ld_int ((hr3.cell 1).trans rfl) (Lt.mk (u := ((p + n : Nat) : Int)) (by rw [wrap_i64_id] <;> omega) (St_row hr3 (by simp) fun H4 hU4 _ hr4 => ?_))
  have hlb : ∀ c, l1.a = some (adr c) → lo ≤ c ∧ c ≠ b := fun c hc => by
    rcases ha2 with ⟨e, _⟩ | e
    · rw [e] at hc
      exact ⟨h1.ll c hc, fun e2 => vecN_ne h1.vec h1.row (by decide) (e2 ▸ hc)⟩
    · rw [e] at hc; cases hc
      have := hE1.size
      exact ⟨by omega, by omega⟩
  refine hk l1 H4 ⟨hr4, ?_, h.lb, fun c hc => (hlb c hc).1⟩ ?_
  · rw [show tokVs (ts ++ [⟨kind, ((bs s).drop p).take n, p⟩]) = tokVs ts ++ tokV ⟨kind, ((bs s).drop p).take n, p⟩ by simp [tokVs]]
    rw [show p + n - p = n by omega] at hv2
    exact (hv2.upd hU3 fun c hc e => (hlb c hc).2 e).upd hU4 fun c hc e => (hlb c hc).2 e
  · have hbl := h.lb
    exact (((Nb.ex hE1).tr (hU2.mono fun c _ e => h1.ll c e.1)).tr (hU3.mono fun c _ e => by subst e; exact hbl)).tr (hU4.mono fun c _ e => by subst e; exact hbl)
theorem indexByte_mem (l : Bs) (c : UInt8) : 0 ≤ Lib.indexByte l c ↔ c ∈ l := by
  induction l with
  | nil => simp [Lib.indexByte]
  | cons d l ih =>
    unfold Lib.indexByte
    have hge := Lib.indexByte_ge l c
    by_cases hd : d = c
    · subst hd; simp
    · rw [if_neg (by simpa using hd)]
      rw [List.mem_cons, ← ih]
      split
      · rename_i h1
        have : Lib.indexByte l c = -1 := by simpa using h1
        constructor
        · intro h; omega
        · rintro (e | h)
          · exact absurd e.symm hd
          · omega
      · rename_i h1
        have : Lib.indexByte l c ≠ -1 := by simpa using h1
        constructor
        · intro h; right; omega
        · rintro (e | h)
          · exact absurd e.symm hd
          · omega
theorem s_sign (h : Rdr lo H b s p ts l) (hp : p < s.size) {k : Int → Heap → Prop} (hk : ∀ H', Ext H H' → k (signL ((bs s).drop p) : Nat) H') : CallT Pg f_lex_reader_sign [.pointer (some (adr b))] (.one (.c (.int .i64))) H k := by
  refine c_lex_reader_sign _ ?_
  unfold v_lex_reader_sign
  simp only [NilCk_some, adr_add]
  refine Nw_row (vs := twos.map fun l => .string ⟨⟨l⟩⟩) fun b1 H1 _ hE1 _ hr1 => ?_
  have h1 := h.ext hE1
  refine LoopT.mk (fun i H' => H1 = H' ∧ ∃ m : Nat, i = m ∧ m ≤ 6 ∧ ∀ j, j < m → Lib.hasPrefix ((bs s).drop p) twos[j]! = false) (fun i _ => 6 - i.toNat) ⟨rfl, 0, rfl, by omega, fun j hj => by omega⟩ ?_
  rintro next _ _ ⟨rfl, m, rfl, hm, hno⟩ hnext
  refine Br_dec (fun hlt => ?_) fun hge => ?_
  · have hlt6 : m < twos.length := by simp [twos]; omega
    refine IxA_adr (by omega) (by omega) ?_
    rw [Int.toNat_natCast, Nat.mul_one]
    have hc : hcell H1 ⟨b1, m, none⟩ = some (.string ⟨⟨twos[m]!⟩⟩) := by
      rw [hr1.cell, List.getElem?_map, List.getElem?_eq_getElem hlt6, getElem!_pos twos m hlt6]; rfl
    have hsz : ((⟨⟨twos[m]!⟩⟩ : ByteArray)).size = 2 := by
      rw [getElem!_pos twos m hlt6]
      have : ∀ x ∈ twos, x.length = 2 := by decide
      exact this _ (List.getElem_mem hlt6)
    refine Ld_str hc (s_rest h1 (by omega) (s_HasPrefix ?_))
    refine Br.mk (fun hy => ?_) fun hy => Lt.mk (u := ((m + 1 : Nat) : Int)) (by rw [wrap_i64_id] <;> omega) (hnext _ _ ⟨rfl, m + 1, rfl, by omega, fun j hj => ?_⟩ (by omega))
    · have : signL ((bs s).drop p) = 2 := by
        unfold signL
        rw [if_pos (List.any_eq_true.2 ⟨twos[m]!, by rw [getElem!_pos twos m hlt6]; exact List.getElem_mem hlt6, hy⟩)]
      rw [hsz]
      have := hk H1 hE1
      simp_all
    · rcases Nat.lt_or_ge j m with e | e
      · exact hno j e
      · have : j = m := by omega
        subst this; exact hy
  · have hm6 : m = 6 := by omega
    subst hm6
    rcases drop_cases (bs s) p with ⟨e, _⟩ | ⟨c, t, hd, _⟩
    · rw [bs_size] at e; omega
    refine Ld_str h1.c0 (Ld_int h1.c1 (StrI_bs hd rfl (s_IndexByte ?_)))
    refine Stab_all (fun x hx => by simp only [List.mem_cons, List.not_mem_nil, or_false] at hx; rcases hx with rfl | rfl <;> first | exact h1.c1 | exact h1.c0) ?_
    have hany : twos.any (fun s_1 => Lib.hasPrefix ((bs s).drop p) s_1) = false := by
      rw [List.any_eq_false]
      intro x hx
      obtain ⟨j, hj, rfl⟩ := List.getElem_of_mem hx
      have := hno j (by simpa [twos] using hj)
      rw [getElem!_pos twos j hj] at this
      simp [this]
    have hsg : signL ((bs s).drop p) = if c ∈ ones then 1 else 0 := by
      unfold signL
      rw [hany, hd]
      rfl
    have hi := indexByte_mem ones c
    have hkk := hk H1 hE1
    rw [hsg] at hkk
    refine Br_dec (fun hy => ?_) fun hy => ?_
    · rw [if_pos (hi.1 hy)] at hkk; exact hkk
    · rw [if_neg (fun e => hy (hi.2 e))] at hkk; exact hkk
end Go.Proofs.YtlkmmplgfjicjaaDoor
