/-
  The law's plan: given.
-/
import Derived.Test.YtpkpebgpiakbeaaPlanG
namespace Go.Proofs.Ytpkpebgpiakbeaa
set_option linter.unusedVariables false
set_option linter.unusedSimpArgs false
open Go.Proofs.Ytpkpebgpiakbeaa.Hc Go.Proofs.Ytpkpebgpiakbeaa.Hc.Plan
set_option maxRecDepth 100000

theorem s_still18 {t was : Sl} {c : Nat} {xs : List Int} {H : Heap} (hv : Vec H T_int ⟨t.a, t.len + 8, c⟩ (ints (xs ++ List.replicate 8 77))) (htl : t.len = xs.length) (htc : t.cap = c) (hw : RI H was xs) (hl : xs.length ≤ 2 ^ 30)
    {k : Bool → Heap → Prop} (hk : k true H) : CallT Pg f_hindcastlaw18_still [.slice t.a t.len t.cap, .slice was.a was.len was.cap] (.one (.c .bool)) H k := by
  apply c_hindcastlaw18_still
  unfold v_hindcastlaw18_still
  have hwl := hw.len
  have hlc := hv.lc
  dsimp only at hlc
  refine Jn.mk (fun b H' => b = false ∧ H = H') (fun kk hkk => ?_) ?_
  · rw [show ((t.len : Int) != (was.len : Int)) = false by simp; omega, Br_false, Lt_def, wrap_i64_id (by omega) (by omega)]
    exact hkk _ _ ⟨by rw [decide_eq_false (by omega)], rfl⟩
  rintro _ _ ⟨rfl, rfl⟩
  rw [Br_false, Lt_def, wrap_i64_id (by omega) (by omega)]
  refine SlA0 (by omega) (by omega) (by omega) ?_
  have hr : RI H ⟨t.a, ((was.len : Int) + 8).toNat, (t.cap : Int).toNat⟩ (xs ++ List.replicate 8 77) := ⟨hv.rd, by simp; omega, by dsimp only; omega⟩
  refine LoopT.mk (fun i H' => H = H' ∧ ∃ j : Nat, i = j ∧ j ≤ xs.length + 8) (fun i _ => (xs.length + 8 - i).toNat) ⟨rfl, 0, rfl, by omega⟩ ?_
  rintro next _ _ ⟨rfl, j, rfl, hj⟩ hnext
  refine Br_dec (fun hlt => ?_) fun _ => hk
  have hj1 : j < (xs ++ List.replicate 8 77).length := by dsimp only at hlt; simp; omega
  have hj2 : j < xs.length + 8 := by simpa using hj1
  refine Jn.mk (fun b H' => b = false ∧ H = H') (fun kk hkk => ?_) ?_
  · refine Br_dec (fun hin => ?_) fun hout => ?_
    · refine IxA_rl hr rfl hj1 fun a1 h1 => ?_
      refine Ld_int h1 ?_
      have hjx : j < xs.length := by omega
      refine IxA_rl hw rfl hjx fun a2 h2 => ?_
      refine Ld_int h2 ?_
      rw [List.getElem_append_left hjx, bne_self_eq_false, Br_false]
      refine Br_dec (fun h => by omega) fun _ => hkk _ _ ⟨rfl, rfl⟩
    · refine Br_dec (fun h => ?_) fun h => by omega
      refine IxA_rl hr rfl hj1 fun a1 h1 => ?_
      refine Ld_int h1 ?_
      rw [List.getElem_append_right (by omega), List.getElem_replicate, bne_self_eq_false]
      exact hkk _ _ ⟨rfl, rfl⟩
  rintro _ _ ⟨rfl, rfl⟩
  rw [Br_false, Lt_def, wrap_i64_id (by omega) (by omega)]
  exact hnext _ _ ⟨rfl, j + 1, by omega, by omega⟩ (by omega)

/-- Fill a list of one's own with ones. -/
theorem flat_set {α : Type} {f : α → List Value} {n : Nat} (hf : ∀ e, (f e).length = n) : ∀ {es : List α} {i o : Nat} {x : α} {v : Value} (hi : i < es.length), o < n → f x = (f es[i]).set o v → (es.set i x).flatMap f = (es.flatMap f).set (i * n + o) v
  | e :: es, 0, o, x, v, _, ho, hx => by
    simp only [List.set_cons_zero, List.flatMap_cons, Nat.zero_mul, Nat.zero_add]
    simp only [List.getElem_cons_zero] at hx
    rw [hx, List.set_append_left _ _ (by rw [hf]; exact ho)]
  | e :: es, i + 1, o, x, v, hi, ho, hx => by
    simp only [List.set_cons_succ, List.flatMap_cons]
    simp only [List.getElem_cons_succ] at hx
    rw [flat_set hf (by simpa using hi) ho hx, List.set_append_right _ _ (by rw [hf, Nat.add_mul]; omega), hf, show (i + 1) * n + o - n = i * n + o by rw [Nat.add_mul]; omega]
/-- A store into an element's cell. -/
theorem IxA_St_vecN {α : Type} {f : α → List Value} {n : Nat} (hf : ∀ e, (f e).length = n) {H : Heap} {T : TypeId} {t : Sl} {es : List α} (h : VecN H T n t (es.flatMap f)) {j o : Nat} {x : α} {v : Value} (hl : j < es.length) (ho : o < n) (hx : f x = (f es[j]).set o v) {k : Heap → Prop} {b : Nat} (hb : t.a = some (adr b))
    (hk : ∀ H', VecN H' T n t ((es.set j x).flatMap f) → Upd (fun b => t.a = some (adr b)) H H' → H'.size = H.size → k H') : St ⟨b, j * n + o, none⟩ v H k := by
  rcases h.own with ⟨h1, _⟩ | ⟨c, sp, h1, h2, h3⟩
  · rw [h1] at hb; cases hb
  · rw [h1] at hb; cases hb
    have hlen := flat_len hf (es := es)
    have hlt : j * n + o < (es.flatMap f).length := by
      rw [hlen]
      calc j * n + o < j * n + n := by omega
        _ = (j + 1) * n := by rw [Nat.add_mul]; simp
        _ ≤ es.length * n := Nat.mul_le_mul_right n hl
    refine St_row h2 (by rw [List.length_append]; omega) fun H' hU hs hr => hk H' ⟨?_, .inr ⟨b, sp, h1, ?_, ?_⟩, h.lc⟩ (hU.mono fun _ _ e => e ▸ h1) hs
    · have := h.len; rw [flat_len hf] at this ⊢; simpa using this
    · rw [flat_set hf hl ho hx]
      rwa [List.set_append_left _ _ hlt] at hr
    · rw [flat_len hf]; rw [flat_len hf] at h3; simpa using h3
end Go.Proofs.Ytpkpebgpiakbeaa
