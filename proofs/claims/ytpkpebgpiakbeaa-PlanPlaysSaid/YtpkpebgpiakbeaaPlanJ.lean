/-
  The law's plan: given, the rest.
-/
import Derived.Test.YtpkpebgpiakbeaaPlanI
namespace Go.Proofs.Ytpkpebgpiakbeaa
set_option linter.unusedVariables false
set_option linter.unusedSimpArgs false
open Go.Proofs.Ytpkpebgpiakbeaa.Hc Go.Proofs.Ytpkpebgpiakbeaa.Hc.Plan
set_option maxRecDepth 100000

/-- A lent list is written over. -/
theorem s_fill {H : Heap} {r t : Sl} {es : List SysC} {xs : List Int} {i o : Nat} (hv : VecN H T_api_System 8 r (es.flatMap sysC)) (hi : i < es.length) (ho : o < 8) (hc : (sysC es[i])[o]? = some (slV t)) (ht : Lent H t xs) (hx : xs.length ≤ 100) (hel : es.length ≤ 1000) {k : Heap → Prop}
    (hk : ∀ H', Upd (fun b => t.a = some (adr b)) H H' → k H') :
    LoopT (σ := Int) (fun next4 s4 H19 =>
                      IxA 8 r (i : Int) fun a13 =>
                      Ld .sl (a13.add o) H19 fun (x11 : Sl) =>
                      Br (decide (s4 < (x11.len : Int))) (
                        IxA 8 r (i : Int) fun a14 =>
                        Ld .sl (a14.add o) H19 fun (x12 : Sl) =>
                        IxA 1 x12 s4 fun a15 =>
                        St a15 (.int .i64 1) H19 fun H20 =>
                        Lt (IntKind.wrap .i64 (s4 + 1)) fun t3 =>
                        next4 t3 H20) (k H19)) 0 H := by
  have hrl : r.len = es.length := by have := hv.len; rw [flat_len sysC_len] at this; omega
  have htl := ht.2
  refine LoopT.mk (fun σ H' => ∃ (j : Nat) (ys : List Int), σ = j ∧ j ≤ xs.length ∧ VecN H' T_api_System 8 r (es.flatMap sysC) ∧ Vec H' T_int ⟨t.a, t.len + 8, t.cap⟩ (ints ys) ∧ ys.length = xs.length + 8 ∧ Upd (fun b => t.a = some (adr b)) H H') (fun σ _ => (xs.length - σ).toNat)
    ⟨0, _, rfl, by omega, hv, ht.1, by simp, .refl _ _⟩ ?_
  rintro next _ H2 ⟨j, ys, rfl, hj, hv2, hy2, hyl, hU2⟩ hnext
  have rd : ∀ {k : Sl → Prop}, k t → IxA 8 r (i : Int) fun a => Ld .sl (a.add o) H2 k := fun {k} hk => by
    refine IxA_vecN hv2 (by omega) rfl (by omega) fun b _ hcc => ?_
    rw [mk_add]
    exact Ld_sl (s := t) ((hcc o ho).trans ((flat_get sysC_len hi ho).trans hc)) hk
  refine rd ?_
  refine Br_dec (fun hlt => ?_) fun _ => hk H2 hU2
  refine rd ?_
  rcases hy2.own with ⟨_, _, h3⟩ | ⟨b, sp, hb, hrow, hcap⟩
  · have : ys = [] := by simpa using h3
    rw [this] at hyl; simp at hyl
  dsimp only at hb
  refine IxA.mk hb (by omega) (by omega) ?_
  rw [Int.toNat_natCast, Nat.mul_one, adr_add]
  refine St_row hrow (by simp; omega) fun H3 hU3 _ hr3 => ?_
  rw [Lt_def, wrap_i64_id (by omega) (by omega)]
  have hU3' : Upd (fun c => t.a = some (adr c)) H2 H3 := hU3.mono fun c _ e => e ▸ hb
  refine hnext _ _ ⟨j + 1, ys.set j 1, by omega, by omega, hv2.upd hU3' fun c hc' e => hv2.apV hy2 (by decide) hc' e, ⟨by have := hy2.len; simpa using this, .inr ⟨b, sp, hb, ?_, by simpa using hcap⟩, hy2.lc⟩, by simpa using hyl, hU2.trans hU3' fun _ _ h => h⟩ (by omega)
  rw [List.set_append_left _ _ (by simp; omega), ints_set] at hr3
  exact hr3

/-- An entry is written over. -/
theorem s_wipe {H : Heap} {r : Sl} {es : List SysC} {i b3 : Nat} (hv : VecN H T_api_System 8 r (es.flatMap sysC)) (hi : i < es.length) {k : Heap → Prop}
    (hk : ∀ H' x, VecN H' T_api_System 8 r ((es.set i x).flatMap sysC) → Upd (fun b => r.a = some (adr b)) H H' → k H') :
    IxA 8 r (i : Int) fun a19 =>
                            St (a19.add 0) (.slice none 0 0) H fun H24 =>
                            St (a19.add 1) (.slice none 0 0) H24 fun H25 =>
                            St (a19.add 2) (.slice none 0 0) H25 fun H26 =>
                            St (a19.add 3) (.slice (some (adr b3)) 1 1) H26 fun H27 =>
                            St (a19.add 4) (.string ByteArray.empty) H27 fun H28 =>
                            St (a19.add 5) (.int .i64 0) H28 fun H29 =>
                            St (a19.add 6) (.int .i64 0) H29 fun H30 =>
                            St (a19.add 7) (.slice none 0 0) H30 fun H31 => k H31 := by
  have hrl : r.len = es.length := by have := hv.len; rw [flat_len sysC_len] at this; omega
  refine IxA_vecN hv (by omega) rfl (by omega) fun b hb _ => ?_
  simp only [mk_add]
  have st : ∀ {Hx : Heap} {c : SysC} {o : Nat} {x : SysC} {v : Value} {kk : Heap → Prop}, VecN Hx T_api_System 8 r ((es.set i c).flatMap sysC) → o < 8 → sysC x = (sysC c).set o v →
      (∀ H', VecN H' T_api_System 8 r ((es.set i x).flatMap sysC) → Upd (fun b => r.a = some (adr b)) Hx H' → kk H') → St ⟨b, i * 8 + o, none⟩ v Hx kk := fun {Hx c o x v kk} h ho hx hkk => by
    refine IxA_St_vecN sysC_len h (x := x) (by simpa using hi) ho (by rw [List.getElem_set_self]; exact hx) hb fun H' h1 h2 _ => ?_
    rw [List.set_set] at h1
    exact hkk H' h1 h2
  obtain ⟨c, hc⟩ : ∃ c, c = es[i] := ⟨_, rfl⟩
  have hv0 : VecN H T_api_System 8 r ((es.set i c).flatMap sysC) := by rw [hc, List.set_getElem_self]; exact hv
  refine st (x := (nilS, c.2)) hv0 (by omega) rfl fun H1 h1 u1 => ?_
  refine st (x := (nilS, nilS, c.2.2)) h1 (by omega) rfl fun H2 h2 u2 => ?_
  refine st (x := (nilS, nilS, nilS, c.2.2.2)) h2 (by omega) rfl fun H3 h3 u3 => ?_
  refine st (x := (nilS, nilS, nilS, ⟨some (adr b3), 1, 1⟩, c.2.2.2.2)) h3 (by omega) rfl fun H4 h4 u4 => ?_
  refine st (x := (nilS, nilS, nilS, ⟨some (adr b3), 1, 1⟩, ByteArray.empty, c.2.2.2.2.2)) h4 (by omega) rfl fun H5 h5 u5 => ?_
  refine st (x := (nilS, nilS, nilS, ⟨some (adr b3), 1, 1⟩, ByteArray.empty, 0, c.2.2.2.2.2.2)) h5 (by omega) rfl fun H6 h6 u6 => ?_
  refine st (x := (nilS, nilS, nilS, ⟨some (adr b3), 1, 1⟩, ByteArray.empty, 0, 0, c.2.2.2.2.2.2.2)) h6 (by omega) rfl fun H7 h7 u7 => ?_
  refine st (x := (nilS, nilS, nilS, ⟨some (adr b3), 1, 1⟩, ByteArray.empty, 0, 0, nilS)) h7 (by omega) rfl fun H8 h8 u8 => ?_
  exact hk H8 _ h8 (((((((u1.trans u2 fun _ _ h => h).trans u3 fun _ _ h => h).trans u4 fun _ _ h => h).trans u5 fun _ _ h => h).trans u6 fun _ _ h => h).trans u7 fun _ _ h => h).trans u8 fun _ _ h => h)
end Go.Proofs.Ytpkpebgpiakbeaa
