/-
  'pick': which of n things a raw number speaks of.
-/
import Derived.Test.YtlkmmplgfjicjaaDoorHcBytes
namespace Go.Proofs.YtlkmmplgfjicjaaDoor.Hc
set_option linter.unusedVariables false
set_option linter.unusedSimpArgs false
def pickI (c n : Int) : Int := (if c < 0 then -(c + 1) else c) % n
theorem pickI_bd (c n : Int) (hn : 1 ≤ n) : 0 ≤ pickI c n ∧ pickI c n < n := ⟨Int.emod_nonneg _ (by omega), Int.emod_lt_of_pos _ (by omega)⟩
theorem pick_cond (c n : Int) (hc : I64 c) (hn : 1 ≤ n) {H : Heap} {k : Int → Heap → Prop} (hk : k (pickI c n) H) :
    Jn (σ := Int) (fun kk1 =>
      Br (decide (c < 0)) (
        Lt (IntKind.wrap .i64 (c + 1)) fun t1 =>
        kk1 (IntKind.wrap .i64 (0 - t1)) H) (
        kk1 c H)) fun j1 H1 =>
    Rem j1 n fun t2 =>
    k t2 H1 := by
  unfold I64 at hc
  refine Jn.mk (fun j H' => H = H' ∧ j = if c < 0 then -(c + 1) else c) (fun kk hkk => ?_) ?_
  · refine Br_dec (fun h => ?_) fun h => hkk _ _ ⟨rfl, by rw [if_neg h]⟩
    rw [Lt_def, wrap_i64_id (x := c + 1) (by omega) (by omega), wrap_i64_id (by omega) (by omega)]
    exact hkk _ _ ⟨rfl, by rw [if_pos h]; omega⟩
  · rintro j _ ⟨rfl, rfl⟩
    unfold pickI at hk
    have h0 : 0 ≤ (if c < 0 then -(c + 1) else c) := by split <;> omega
    refine ⟨by omega, ?_⟩
    rw [Int.tmod_eq_emod_of_nonneg h0]
    exact hk
end Go.Proofs.YtlkmmplgfjicjaaDoor.Hc
