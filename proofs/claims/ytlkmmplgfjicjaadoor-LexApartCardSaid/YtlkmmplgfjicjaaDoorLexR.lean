/-
  What came out is its owner's: keep, looks; same.
-/
import Derived.Test.YtlkmmplgfjicjaaDoorLexN
namespace Go.Proofs.YtlkmmplgfjicjaaDoor
set_option linter.unusedVariables false
set_option linter.unusedSimpArgs false
open Go.Proofs.YtlkmmplgfjicjaaDoor.Hc Go.Proofs.YtlkmmplgfjicjaaDoor.Hc.Lex
set_option maxRecDepth 100000
variable {H : Heap}

theorem lexF_len : ∀ (f p : Nat) (r : Bs) (ts : List Tk), lexF f p r = .ok ts → ts.length ≤ r.length + 1
  | 0, _, [], ts, h => by simp only [lexF, Except.ok.injEq] at h; subst h; simp
  | 0, _, _ :: _, ts, h => by simp [lexF] at h
  | f + 1, p, [], ts, h => by simp only [lexF, Except.ok.injEq] at h; subst h; simp
  | f + 1, p, c :: t, ts, h => by
    unfold lexF at h
    split at h
    · have := lexF_len f _ _ _ h
      simp only [List.length_drop, List.length_cons] at this ⊢
      omega
    · rename_i k n _
      cases hr : lexF f (p + n) (t.drop (n - 1)) with
      | error e => rw [hr] at h; cases h
      | ok l =>
        have := lexF_len f _ _ _ hr
        rw [hr] at h
        simp only [pre, Except.ok.injEq] at h
        subst h
        simp only [List.length_drop, List.length_cons, List.length_append, List.length_nil] at this ⊢
        omega
    · cases h
theorem lexS_len {s : ByteArray} {ts : List Tk} (h : lexS s = .ok ts) : ts.length ≤ 8001 := by
  unfold lexS at h
  split at h
  · cases h
  · rename_i hs
    split at h
    · rename_i l hl
      cases h
      have := lexF_len _ _ _ _ hl
      rw [bs_size] at this
      omega
    · cases h
/-- The tokens that Lex gives out are memory of their own. -/
theorem LexOut.vec {lo : Nat} {s : ByteArray} {r : Sl} {v : Value} (h : LexOut lo H s r v) : ∃ vs, VecN H T_api_Token 3 r vs ∧ (∀ c, r.a = some (adr c) → lo ≤ c) ∧ r.len ≤ 8001 := by
  unfold LexOut at h
  split at h
  · rename_i ts e
    obtain ⟨_, hv, hl⟩ := h
    refine ⟨_, hv, hl, ?_⟩
    have h1 := hv.len
    have h2 := lexS_len e
    rw [tokVs_len] at h1
    omega
  · obtain ⟨rfl, _⟩ := h
    exact ⟨[], ⟨rfl, .inl ⟨rfl, rfl, rfl⟩, Nat.le_refl _⟩, (fun c e => by cases e), Nat.zero_le _⟩
theorem LexOut.upd {lo : Nat} {s : ByteArray} {r : Sl} {v : Value} {M : Nat → Prop} {H' : Heap} (hu : Upd M H H') (hM : ∀ b, lo ≤ b → ¬ M b) (h : LexOut lo H s r v) : LexOut lo H' s r v := by
  unfold LexOut at h ⊢
  split
  · rename_i ts e
    rw [e] at h
    obtain ⟨h1, h2, h3⟩ := h
    exact ⟨h1, h2.upd hu fun b hb => hM b (h3 b hb), h3⟩
  · rename_i a c e
    rw [e] at h
    obtain ⟨h1, f, h2, h3, h4⟩ := h
    exact ⟨h1, f, h2, h3, hu.row h4 (hM f h3)⟩
theorem s_same {lo : Nat} {s : ByteArray} {r : Sl} {v : Value} (ho : LexOut lo H s r v) {k : Bool → Heap → Prop} (hk : ∀ H', Ext H H' → k true H') :
    CallT Pg f_hindcastlaw09_same [.slice r.a r.len r.cap, v, .string s] (.one (.c .bool)) H k := by
  refine c_hindcastlaw09_same _ _ _ ?_
  unfold v_hindcastlaw09_same
  refine s_rLex fun m H1 hE hr => ?_
  have ho1 := ho.upd hE fun _ _ h => h
  unfold LexOut at ho1
  unfold RefOut at hr
  cases hS : lexS s with
  | ok ts =>
    rw [hS] at ho1 hr
    dsimp only at ho1 hr
    obtain ⟨rfl, hv, _⟩ := ho1
    obtain ⟨e0, hv2, _⟩ := hr
    have hT := RT.ofVec hv
    have hT2 := RT.ofVec hv2
    have hlen := hT.1.len
    have hlen2 := hT2.1.len
    have hts := lexS_len hS
    refine Jn.mk (fun j H' => H1 = H' ∧ j = false) (fun kk hkk => ?_) ?_
    · rw [hlen, hlen2, show (((ts.length : Nat) : Int) != (ts.length : Nat)) = false by simp]
      refine .inl ⟨rfl, hkk _ _ ⟨rfl, ?_⟩⟩
      rw [e0]; rfl
    rintro j _ ⟨rfl, rfl⟩
    rw [Br_false]
    refine LoopT.mk (fun i H' => H1 = H' ∧ ∃ n : Nat, i = n ∧ n ≤ ts.length) (fun i _ => ts.length - i.toNat) ⟨rfl, 0, rfl, Nat.zero_le _⟩ ?_
    rintro next _ _ ⟨rfl, n, rfl, hn⟩ hnext
    refine Br_dec (fun hlt => ?_) fun hge => .inl ⟨rfl, hk _ hE⟩
    rw [hlen] at hlt
    refine IxA_tok hT rfl (by omega) fun a ha => LdC_tok ha (IxA_tok hT2 rfl (by omega) fun a ha => LdC_tok ha (Br_not ?_))
    refine Br_tok ts[n]! ts[n]! rfl rfl rfl (fun _ => ?_) (fun h => absurd rfl h)
    exact Lt.mk (u := ((n + 1 : Nat) : Int)) (by rw [wrap_i64_id] <;> omega) (hnext _ _ ⟨rfl, n + 1, rfl, by omega⟩ (by omega))
  | error ae =>
    obtain ⟨a, e⟩ := ae
    rw [hS] at ho1 hr
    dsimp only at ho1 hr
    obtain ⟨rfl, f, rfl, _, hrow⟩ := ho1
    obtain ⟨e1, e2, e3, he⟩ := hr
    refine Jn.mk (fun j H' => H1 = H' ∧ j = false) (fun kk hkk => ?_) ?_
    · rw [e1]
      refine .inr ⟨⟨_, _, rfl⟩, hkk _ _ ⟨rfl, ?_⟩⟩
      rw [e3, show (((e : Nat) : Int) == 0) = false from beq_eq_false_iff_ne.2 (by omega)]; rfl
    rintro j _ ⟨rfl, rfl⟩
    rw [Br_false]
    refine LoopT.mk (fun i H' => H1 = H' ∧ i = 0) (fun _ _ => 0) ⟨rfl, rfl⟩ ?_
    rintro next _ _ ⟨rfl, rfl⟩ hnext
    refine Br_no (by dsimp only; omega) (.inr ⟨⟨_, _, rfl⟩, .inl ⟨some (adr f), rfl, ?_⟩⟩)
    refine Jn_in ?_
    rw [Br_true]
    show Br true _ _
    rw [Br_true]
    simp only [NilCk_some, adr_add]
    refine Ld_int ((hrow.cell 0).trans rfl) ?_
    rw [e2, beq_self_eq_true, Br_true]
    refine Ld_int ((hrow.cell 1).trans rfl) ?_
    rw [e3, beq_self_eq_true]
    exact hk _ hE

/-! ### holds -/
abbrev Hold := Sl × Int
abbrev holdV (h : Hold) : List Value := [slV h.1, .int .i64 h.2]
abbrev markV (m : Int) : List Value := [.int .i64 m, .string ByteArray.empty, .int .i64 0]
abbrev marks (n : Nat) (m : Int) : List Value := (List.replicate n m).flatMap markV
theorem marks_len (n : Nat) (m : Int) : (marks n m).length = n * 3 := by rw [flat_len (n := 3) (fun _ => rfl), List.length_replicate]
theorem marks_succ (n : Nat) (m : Int) : marks n m ++ markV m = marks (n + 1) m := by
  unfold marks; rw [List.replicate_succ', List.flatMap_append]; simp
theorem marks_take {n j : Nat} (m : Int) (h : j ≤ n) : (marks n m).take (j * 3) = marks j m := by
  obtain ⟨d, rfl⟩ : ∃ d, n = j + d := ⟨n - j, by omega⟩
  unfold marks
  rw [List.replicate_append_replicate.symm, List.flatMap_append, ← marks_len j m, List.take_left]
abbrev HR (H : Heap) (h : Hold) : Prop := VecN H T_api_Token 3 h.1 (marks h.1.len h.2)
theorem vecN_pre {T : TypeId} {n : Nat} {s : Sl} {vs : List Value} (h : VecN H T n s vs) {j c : Nat} (hj : j ≤ s.len) (hc : j ≤ c) (hc2 : c ≤ s.cap) : VecN H T n ⟨s.a, j, c⟩ (vs.take (j * n)) := by
  have hl := h.len
  have h1 : j * n ≤ s.len * n := Nat.mul_le_mul_right n hj
  refine ⟨by rw [List.length_take]; dsimp only; omega, ?_, hc⟩
  rcases h.own with ⟨g1, g2, g3⟩ | ⟨b, sp, g1, g2, g3⟩
  · exact .inl ⟨g1, by dsimp only; omega, by rw [g3]; simp⟩
  · refine .inr ⟨b, vs.drop (j * n) ++ sp, g1, by rw [← List.append_assoc, List.take_append_drop]; exact g2, ?_⟩
    have := Nat.mul_le_mul_right n hc2
    simp only [List.length_take, List.length_append, List.length_drop]
    omega
/-- append of one element: in place, or elsewhere. -/
theorem App_vecN1 {T : TypeId} {n bytes : Nat} {z : Array Value} {s x : Sl} {k : Sl → Heap → Prop} {vs ws : List Value} (hz : z.size = n) (hn : 0 < n) (hv : VecN H T n s vs) (hx : rdL H x.a ws) (hxl : ws.length = x.len * n)
    (hone : ∀ w ∈ ws, w.oneCell' = true) (hb : bytes ≠ 0) (hcap : (s.len + x.len + (s.len + x.len) / 4 + 1000) * bytes ≤ 2 ^ 48)
    (hk : ∀ s' H', VecN H' T n s' (vs ++ ws) → s'.len = s.len + x.len → (s'.a = s.a ∧ s'.cap = s.cap ∧ Upd (fun b => s.a = some (adr b)) H H') ∨ (s'.a = some (adr H.size) ∧ Ext H H') → k s' H') :
    App T n bytes z s x H k := by
  have hlen := hv.len
  refine ⟨ws, hx, fun _ => by omega, fun hfit => ?_, fun hgrow => ?_⟩
  · rcases hv.own with ⟨h1, h2, h3⟩ | ⟨b, sp, h1, h2, h3⟩
    · rw [h1]
      have hx0 : x.len = 0 := by omega
      have hw : ws = [] := List.eq_nil_of_length_eq_zero (by rw [hxl, hx0]; simp)
      subst hw h3
      refine hk _ H ⟨by simp only [List.append_nil, List.length_nil]; simp at hlen; rw [hx0]; simp; omega, .inl ⟨rfl, by simpa using h2, rfl⟩, hfit⟩ rfl (.inl ⟨h1.symm, rfl, .refl _ _⟩)
    · rw [h1]
      dsimp only
      rw [adr_add]
      have hm : (s.len + x.len) * n ≤ s.cap * n := Nat.mul_le_mul_right n hfit
      rw [Nat.add_mul] at hm
      refine StL_row h2 (by simp; omega) hone fun H' hU hs hr => ?_
      refine hk _ H' ⟨by simp only [List.length_append, Nat.add_mul]; omega, .inr ⟨b, sp.drop ws.length, rfl, ?_, by simp; omega⟩, hfit⟩ rfl (.inl ⟨h1.symm, rfl, hU.mono fun b' _ e => ?_⟩)
      · rw [Nat.add_zero, ← hlen, List.take_left, List.drop_append, List.drop_eq_nil_of_le (by omega), List.nil_append] at hr
        rw [show vs.length + ws.length - vs.length = ws.length by omega] at hr
        exact hr
      · obtain ⟨rfl, e⟩ := e; exact h1
  · refine ⟨hb, ?_, vs, hv.rd, fun _ => by omega, fun c hc => ?_⟩
    · have := nextcap_le (s.len + x.len) s.cap hgrow
      exact Nat.le_trans (Nat.mul_le_mul_right bytes this) hcap
    · refine hk _ _ ⟨?_, .inr ⟨H.size, (zcells z ((c - (s.len + x.len)) * z.size)).toList, rfl, ?_, ?_⟩, hc⟩ rfl (.inr ⟨rfl, Upd.push _ _ _⟩)
      · simp only [List.length_append, Nat.add_mul]; omega
      · unfold Row
        rw [get_push_new]
        congr 2
        apply Array.ext'; simp
      · simp only [List.length_append, Array.length_toList, zcells_size, hz]
        rw [hlen, hxl, ← Nat.add_mul, ← Nat.add_mul]
        exact Nat.mul_le_mul_right n (by omega)
theorem set3 (A B : List Value) (x0 x1 x2 y0 y1 y2 : Value) : (((A ++ x0 :: x1 :: x2 :: B).set A.length y0).set (A.length + 1) y1).set (A.length + 2) y2 = A ++ y0 :: y1 :: y2 :: B := by
  induction A with
  | nil => rfl
  | cons a A ih => simp only [List.cons_append, List.length_cons, List.set_cons_succ, ih]
/-- One element of a vector of tokens is written over. -/
theorem IxA_put3 {s : Sl} {A B : List Value} {x0 x1 x2 y0 y1 y2 : Value} {j : Nat} (hv : VecN H T_api_Token 3 s (A ++ x0 :: x1 :: x2 :: B)) (hA : A.length = j * 3) {i : Int} (hi : i = j) {k : Heap → Prop}
    (hk : ∀ H', VecN H' T_api_Token 3 s (A ++ y0 :: y1 :: y2 :: B) → Upd (fun b => s.a = some (adr b)) H H' → k H') :
    IxA 3 s i fun a1 => St (a1.add 0) y0 H fun H2 => St (a1.add 1) y1 H2 fun H3 => St (a1.add 2) y2 H3 fun H4 => k H4 := by
  have hlen := hv.len
  simp only [List.length_append, List.length_cons] at hlen
  rcases hv.own with ⟨_, _, h3⟩ | ⟨b, sp, h1, h2, h3⟩
  · simp at h3
  · subst hi
    refine IxA.mk h1 (by omega) (by omega) ?_
    rw [Int.toNat_natCast]
    simp only [adr_add, mk_add, Nat.add_zero, Nat.zero_add]
    refine St_row h2 (by simp; omega) fun H2 hU2 hs2 hr2 => St_row hr2 (by simp; omega) fun H3 hU3 hs3 hr3 => St_row hr3 (by simp; omega) fun H4 hU4 hs4 hr4 => ?_
    have e : (((A ++ x0 :: x1 :: x2 :: B ++ sp).set (j * 3) y0).set (j * 3 + 1) y1).set (j * 3 + 2) y2 = A ++ y0 :: y1 :: y2 :: B ++ sp := by
      have := set3 A (B ++ sp) x0 x1 x2 y0 y1 y2
      rw [hA] at this
      simpa using this
    rw [e] at hr4
    refine hk H4 ⟨by simp only [List.length_append, List.length_cons]; omega, .inr ⟨b, sp, h1, hr4, by simp only [List.length_append, List.length_cons] at h3 ⊢; omega⟩, hv.lc⟩ ?_
    exact ((hU2.trans hU3 fun _ _ h => h).trans hU4 fun _ _ h => h).mono fun c _ e => by subst e; exact h1
end Go.Proofs.YtlkmmplgfjicjaaDoor
