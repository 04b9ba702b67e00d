/-
  LexReads.
-/
import Derived.Test.YtlkmmplgfjicjaaDoorLexR
namespace Go.Proofs.YtlkmmplgfjicjaaDoor
set_option linter.unusedVariables false
set_option linter.unusedSimpArgs false
open Go.Proofs.YtlkmmplgfjicjaaDoor.Hc Go.Proofs.YtlkmmplgfjicjaaDoor.Hc.Lex
set_option maxRecDepth 100000
variable {H : Heap}

abbrev HV (H : Heap) (kept : Sl) (holds : List Hold) : Prop := VecN H T_hindcastlaw09_hold 2 kept (holds.flatMap holdV)
theorem hv_len {kept : Sl} {holds : List Hold} (h : HV H kept holds) : kept.len = holds.length := by
  have := h.len
  rw [flat_len (n := 2) (fun _ => rfl)] at this
  omega
/-- One more hold. -/
theorem add_hold {kept x : Sl} {holds : List Hold} {m : Int} (h : HV H kept holds) (hl : holds.length ≤ 1000) {k : Sl → Heap → Prop}
    (hk : ∀ r H', HV H' r (holds ++ [(x, m)]) → Upd (fun b => kept.a = some (adr b)) H H' → (r.a = kept.a ∨ ∀ b, r.a = some (adr b) → H.size ≤ b) → k r H') :
    Nw #[.slice x.a x.len x.cap, .int .i64 m] T_hindcastlaw09_hold H fun b1 H5 =>
        App T_hindcastlaw09_hold 2 32 #[.slice none 0 0, .int .i64 0] kept ⟨some (adr b1), 1, 1⟩ H5 fun l1 H6 => k l1 H6 := by
  refine Nw_row fun b1 H5 hb1 hE hz hr => ?_
  have h5 : HV H5 kept holds := h.ext hE
  have hlen := hv_len h
  have z := hE.size
  refine App_vecN1 (n := 2) rfl (by omega) h5 (ws := [slV x, .int .i64 m]) hr.rd_all rfl (by simp [Value.oneCell']) (by omega) (by simp only; omega) fun r H' hv _ hc => ?_
  refine hk r H' ?_ ?_ ?_
  · show VecN H' _ 2 r ((holds ++ [(x, m)]).flatMap holdV)
    rw [List.flatMap_append]; simpa using hv
  · rcases hc with ⟨_, _, hU⟩ | ⟨_, hE2⟩
    · exact (hE.mono fun _ _ h => h.elim).trans hU fun _ _ h => h
    · exact (hE.trans hE2 fun _ _ h => h).mono fun _ _ h => h.elim
  · rcases hc with ⟨e, _⟩ | ⟨e, _⟩
    · exact .inl e
    · refine .inr fun b hb => ?_
      rw [e] at hb; cases hb; omega
/-- One more mark. -/
theorem add_mark {l : Sl} {m : Int} (h : VecN H T_api_Token 3 l (marks l.len m)) (hl : l.len ≤ 9000) {k : Sl → Heap → Prop}
    (hk : ∀ r H', VecN H' T_api_Token 3 r (marks r.len m) → r.len = l.len + 1 → (r.a = l.a ∧ r.cap = l.cap ∧ Upd (fun b => l.a = some (adr b)) H H') ∨ ((∀ b, r.a = some (adr b) → H.size ≤ b) ∧ Ext H H') → k r H') :
    Nw #[.int .i64 m, .string ByteArray.empty, .int .i64 0] T_api_Token H fun b2 H9 =>
              App T_api_Token 3 32 #[.int .i64 0, .string ByteArray.empty, .int .i64 0] l ⟨some (adr b2), 1, 1⟩ H9 fun l2 H10 => k l2 H10 := by
  refine Nw_row fun b1 H5 hb1 hE hz hr => ?_
  have z := hE.size
  refine App_vecN1 (n := 3) rfl (by omega) (h.ext hE) (ws := markV m) hr.rd_all rfl (by simp [Value.oneCell']) (by omega) (by simp only; omega) fun r H' hv hrl hc => ?_
  refine hk r H' ?_ hrl ?_
  · rw [marks_succ] at hv
    rw [show r.len = l.len + 1 from hrl]; exact hv
  · rcases hc with ⟨e, e2, hU⟩ | ⟨e, hE2⟩
    · exact .inl ⟨e, e2, (hE.mono fun _ _ h => h.elim).trans hU fun _ _ h => h⟩
    · refine .inr ⟨fun b hb => ?_, hE.trans hE2 fun _ _ h => h⟩
      rw [e] at hb; cases hb; omega
/-- A hold reads, and lies apart from l; or it is a part of l. -/
def HS (H : Heap) (l : Sl) (m : Int) (h : Hold) : Prop :=
  (HR H h ∧ ∀ b, h.1.a = some (adr b) → l.a ≠ some (adr b)) ∨ (h.1.a = l.a ∧ h.1.len ≤ l.len ∧ h.1.len ≤ h.1.cap ∧ h.1.cap ≤ l.cap ∧ h.2 = m)
theorem HS.hr {l : Sl} {m : Int} {h : Hold} (hl : VecN H T_api_Token 3 l (marks l.len m)) (hs : HS H l m h) : HR H h := by
  rcases hs with ⟨h1, _⟩ | ⟨h1, h2, h3, h4, h5⟩
  · exact h1
  · have := vecN_pre hl h2 h3 h4
    rw [marks_take m h2, ← h1, ← h5] at this
    exact this
/-- Its heap turns elsewhere. -/
theorem HS.upd {M : Nat → Prop} {H' : Heap} (hu : Upd M H H') {l : Sl} {m : Int} {h : Hold} (hs : HS H l m h) (hM : ∀ b vs, Row H b T_api_Token vs → ¬ M b) : HS H' l m h := by
  rcases hs with ⟨h1, h2⟩ | h1
  · refine .inl ⟨h1.upd hu fun b hb => ?_, h2⟩
    rcases h1.own with ⟨g1, _⟩ | ⟨c, sp, g1, g2, _⟩
    · rw [g1] at hb; cases hb
    · rw [g1] at hb; cases hb; exact hM _ _ g2
  · exact .inr h1
/-- l grew. -/
theorem HS.grow {H' : Heap} {l r : Sl} {m : Int} {h : Hold} (hl : VecN H T_api_Token 3 l (marks l.len m)) (hs : HS H l m h) (hr : r.len = l.len + 1)
    (hc : (r.a = l.a ∧ r.cap = l.cap ∧ Upd (fun b => l.a = some (adr b)) H H') ∨ ((∀ b, r.a = some (adr b) → H.size ≤ b) ∧ Ext H H')) : HS H' r m h := by
  rcases hc with ⟨e1, e2, hU⟩ | ⟨e1, hE⟩
  · rcases hs with ⟨h1, h2⟩ | ⟨h1, h2, h3, h4, h5⟩
    · exact .inl ⟨h1.upd hU fun b hb => h2 b hb, fun b hb => by rw [e1]; exact h2 b hb⟩
    · exact .inr ⟨h1.trans e1.symm, by omega, h3, by omega, h5⟩
  · have := hs.hr hl
    refine .inl ⟨this.ext hE, fun b hb e => ?_⟩
    have h1 := this.lt hb
    have h2 := e1 b e
    omega
theorem s_keep {kept l : Sl} {holds : List Hold} {vs : List Value} (hkv : HV H kept holds) (hn : holds.length ≤ 900) (hl : VecN H T_api_Token 3 l vs) (hll : l.len ≤ 8001) (hall : ∀ h ∈ holds, HR H h) (hap : ∀ h ∈ holds, ∀ b, h.1.a = some (adr b) → l.a ≠ some (adr b))
    {k : Sl → Heap → Prop}
    (hk : ∀ r H' holds', HV H' r holds' → holds'.length ≤ holds.length + 4 → (∀ h ∈ holds', HR H' h) → (∀ h ∈ holds', h ∈ holds ∨ (h.1.len ≤ 9000 ∧ ∀ b, h.1.a = some (adr b) → l.a = some (adr b) ∨ H.size ≤ b)) →
      Upd (fun b => l.a = some (adr b) ∨ kept.a = some (adr b)) H H' → (r.a = kept.a ∨ ∀ b, r.a = some (adr b) → H.size ≤ b) → k r H') :
    CallT Pg f_hindcastlaw09_keep [.slice kept.a kept.len kept.cap, .slice l.a l.len l.cap] (.one (.c .sl)) H k := by
  refine c_hindcastlaw09_keep _ _ ?_
  unfold v_hindcastlaw09_keep
  have hkl := hv_len hkv
  have hlen := hl.len
  generalize hm : (7000 : Int) + (kept.len : Int) = m
  refine Lt.mk (u := m) (by subst hm; rw [wrap_i64_id] <;> omega) ?_
  -- kept's blocks are no tokens'
  have kne : ∀ {H1 : Heap} {r : Sl} {hs : List Hold}, HV H1 r hs → ∀ b ws, Row H1 b T_api_Token ws → ¬ r.a = some (adr b) := fun hv b ws hr => vecN_ne hv hr (by decide)
  refine LoopT.mk (fun i H1 => ∃ n : Nat, i = n ∧ n ≤ l.len ∧ VecN H1 T_api_Token 3 l (marks n m ++ vs.drop (n * 3)) ∧ Upd (fun b => l.a = some (adr b)) H H1) (fun i _ => l.len - i.toNat) ⟨0, rfl, Nat.zero_le _, by simpa [marks] using hl, .refl _ _⟩ ?_
  rintro next _ H1 ⟨n, rfl, hnl, hv, hU⟩ hnext
  refine Br_dec (fun hlt => ?_) fun hge => ?_
  · have h3 : n * 3 + 3 ≤ vs.length := by omega
    obtain ⟨x0, x1, x2, rest, hd⟩ : ∃ x0 x1 x2 rest, vs.drop (n * 3) = x0 :: x1 :: x2 :: rest := by
      have : (vs.drop (n * 3)).length = vs.length - n * 3 := List.length_drop
      match hq : vs.drop (n * 3) with
      | [] => rw [hq] at this; simp at this; omega
      | [_] => rw [hq] at this; simp at this; omega
      | [_, _] => rw [hq] at this; simp at this; omega
      | x0 :: x1 :: x2 :: rest => exact ⟨x0, x1, x2, rest, rfl⟩
    have hrest : rest = vs.drop ((n + 1) * 3) := by
      have := congrArg (List.drop 3) hd
      simp only [List.drop_drop, List.drop_succ_cons, List.drop_zero] at this
      rw [← this]; congr 1; omega
    rw [hd] at hv
    refine IxA_put3 hv (marks_len n m) rfl fun H4 hv4 hU4 => ?_
    refine Lt.mk (u := ((n + 1 : Nat) : Int)) (by rw [wrap_i64_id] <;> omega) (hnext _ _ ⟨n + 1, rfl, by omega, ?_, hU.trans hU4 fun _ _ h => h⟩ (by omega))
    rw [← marks_succ, List.append_assoc, ← hrest]; exact hv4
  · have hnl2 : n = l.len := by omega
    subst hnl2
    rw [List.drop_eq_nil_of_le (by omega), List.append_nil] at hv
    have hsame : ∀ h ∈ holds, HS H1 l m h := fun h hh => .inl ⟨(hall h hh).upd hU fun b hb => hap h hh b hb, hap h hh⟩
    have hkv1 : HV H1 kept holds := hkv.upd hU fun b hb hb2 => by
      rcases hl.own with ⟨g1, _⟩ | ⟨c, sp, g1, g2, _⟩
      · rw [g1] at hb2; cases hb2
      · rw [g1] at hb2; cases hb2; exact kne hkv _ _ g2 hb
    refine add_hold hkv1 (by omega) fun r1 H6 hv6 hU6 hr6 => ?_
    have hz1 := hU.size
    have hv6l : VecN H6 T_api_Token 3 l (marks l.len m) := hv.upd hU6 fun b hb => by
      rcases hv.own with ⟨g1, _⟩ | ⟨c, sp, g1, g2, _⟩
      · rw [g1] at hb; cases hb
      · rw [g1] at hb; cases hb; exact kne hkv1 _ _ g2
    have hUa : Upd (fun b => l.a = some (adr b) ∨ kept.a = some (adr b)) H H6 := (hU.mono fun _ _ h => .inl h).trans hU6 fun _ _ h => .inr h
    refine LoopT.mk (fun (st : Sl × Sl × Int) H7 => ∃ (n : Nat) (hs : List Hold), st.2.2 = n ∧ n ≤ 70 ∧ HV H7 st.1 hs ∧ hs.length ≤ holds.length + 1 + (if n ≤ 2 then n else if n ≤ 69 then 2 else 3) ∧ VecN H7 T_api_Token 3 st.2.1 (marks st.2.1.len m) ∧ st.2.1.len = l.len + n ∧
        (∀ h ∈ hs, HS H7 st.2.1 m h) ∧ (∀ h ∈ hs, h ∈ holds ∨ (h.1.len ≤ 9000 ∧ ∀ b, h.1.a = some (adr b) → l.a = some (adr b) ∨ H.size ≤ b)) ∧ Upd (fun b => l.a = some (adr b) ∨ kept.a = some (adr b)) H H7 ∧
        (st.1.a = kept.a ∨ ∀ b, st.1.a = some (adr b) → H.size ≤ b) ∧ (st.2.1.a = l.a ∨ ∀ b, st.2.1.a = some (adr b) → H.size ≤ b))
      (fun st _ => 70 - st.2.2.toNat) ⟨0, holds ++ [(l, m)], rfl, by omega, hv6, by simp, hv6l, rfl, ?_, ?_, hUa, ?_, .inl rfl⟩ ?_
    · intro h hh
      rcases List.mem_append.1 hh with hh | hh
      · exact (hsame h hh).upd hU6 fun b ws hr => kne hkv1 b ws hr
      · simp only [List.mem_singleton] at hh
        subst hh
        exact .inr ⟨rfl, Nat.le_refl _, hl.lc, Nat.le_refl _, rfl⟩
    · intro h hh
      rcases List.mem_append.1 hh with hh | hh
      · exact .inl hh
      · simp only [List.mem_singleton] at hh
        subst hh
        exact .inr ⟨by dsimp only; omega, fun b hb => .inl hb⟩
    · rcases hr6 with e | e
      · exact .inl e
      · exact .inr fun b hb => by have := e b hb; omega
    rintro next2 ⟨kp, lc, _⟩ H7 ⟨n, hs, rfl, hn7, hv7, hlen7, hl7, hll7, hS7, hB7, hU7, hK7, hL7⟩ hnext2
    dsimp only at hv7 hlen7 hl7 hll7 hS7 hB7 hU7 hK7 hL7 ⊢
    have hz7 := hU7.size
    have hsz : hs.length ≤ holds.length + 4 := by
      split at hlen7
      · omega
      · split at hlen7 <;> omega
    refine Br_dec (fun hlt => Jn_in (add_mark hl7 (by omega) fun l2 H10 hv10 hl10 hc10 => ?_)) fun hge => hk _ _ hs hv7 hsz (fun h hh => (hS7 h hh).hr hl7) hB7 hU7 hK7
    have hS10 : ∀ h ∈ hs, HS H10 l2 m h := fun h hh => (hS7 h hh).grow hl7 hl10 hc10
    have hU10 : Upd (fun b => lc.a = some (adr b)) H7 H10 := by
      rcases hc10 with ⟨_, _, h⟩ | ⟨_, h⟩
      · exact h
      · exact h.mono fun _ _ h => h.elim
    have hz10 := hU10.size
    have hv10k : HV H10 kp hs := hv7.upd hU10 fun b hb hb2 => by
      rcases hl7.own with ⟨g1, _⟩ | ⟨c, sp, g1, g2, _⟩
      · rw [g1] at hb2; cases hb2
      · rw [g1] at hb2; cases hb2; exact kne hv7 _ _ g2 hb
    have hL10 : l2.a = l.a ∨ ∀ b, l2.a = some (adr b) → H.size ≤ b := by
      rcases hc10 with ⟨e, _⟩ | ⟨e, _⟩
      · rw [e]; exact hL7
      · exact .inr fun b hb => by have := e b hb; omega
    have hU10a : Upd (fun b => l.a = some (adr b) ∨ kept.a = some (adr b)) H H10 := hU7.trans hU10 fun b hb e => by
      rcases hL7 with e2 | e2
      · exact .inl (e2 ▸ e)
      · have := e2 b e; omega
    refine Jn.mk (fun j H' => H10 = H' ∧ j = decide (n < 2 ∨ n = 69)) (fun kk hkk => ?_) ?_
    · refine Br_dec (fun h => hkk _ _ ⟨rfl, (decide_eq_true (by omega)).symm⟩) fun h => hkk _ _ ⟨rfl, ?_⟩
      by_cases e : n = 69
      · subst e; rfl
      · rw [show (((n : Nat) : Int) == 69) = false from beq_eq_false_iff_ne.2 (by omega), decide_eq_false (by omega)]
    rintro j _ ⟨rfl, rfl⟩
    refine Jn_in (Br_dec (fun hy => ?_) fun hy => ?_)
    · refine add_hold hv10k (by omega) fun r14 H14 hv14 hU14 hr14 => ?_
      refine Lt.mk (u := ((n + 1 : Nat) : Int)) (by rw [wrap_i64_id] <;> omega) (hnext2 _ _ ⟨n + 1, hs ++ [(l2, m)], rfl, by omega, hv14, ?_, ?_, by dsimp only; omega, ?_, ?_, ?_, ?_, hL10⟩ (by dsimp only; omega))
      · rw [List.length_append, List.length_singleton]
        revert hlen7
        repeat' split
        all_goals omega
      · exact hv10.upd hU14 fun b hb => by
          rcases hv10.own with ⟨g1, _⟩ | ⟨c, sp, g1, g2, _⟩
          · rw [g1] at hb; cases hb
          · rw [g1] at hb; cases hb; exact kne hv10k _ _ g2
      · intro h hh
        rcases List.mem_append.1 hh with hh | hh
        · exact (hS10 h hh).upd hU14 fun b ws hr => kne hv10k b ws hr
        · simp only [List.mem_singleton] at hh
          subst hh
          exact .inr ⟨rfl, Nat.le_refl _, hv10.lc, Nat.le_refl _, rfl⟩
      · intro h hh
        rcases List.mem_append.1 hh with hh | hh
        · exact hB7 h hh
        · simp only [List.mem_singleton] at hh
          subst hh
          refine .inr ⟨by dsimp only; omega, fun b hb => ?_⟩
          rcases hL10 with e | e
          · exact .inl (e ▸ hb)
          · exact .inr (e b hb)
      · refine hU10a.trans hU14 fun b hb e => ?_
        rcases hK7 with e2 | e2
        · exact .inr (e2 ▸ e)
        · have := e2 b e; omega
      · rcases hr14 with e | e
        · dsimp only; rw [e]; exact hK7
        · exact .inr fun b hb => by have := e b hb; omega
    · refine Lt.mk (u := ((n + 1 : Nat) : Int)) (by rw [wrap_i64_id] <;> omega) (hnext2 _ _ ⟨n + 1, hs, rfl, by omega, hv10k, ?_, hv10, by dsimp only; omega, hS10, hB7, hU10a, hK7, hL10⟩ (by dsimp only; omega))
      revert hlen7
      repeat' split
      all_goals omega
end Go.Proofs.YtlkmmplgfjicjaaDoor
