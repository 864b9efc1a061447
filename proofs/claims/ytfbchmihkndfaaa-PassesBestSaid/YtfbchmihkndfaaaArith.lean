/- Go's rest of a division, and small facts on integers. -/
import Derived.WalkKit
namespace Go.Proofs.Ytfbchmihkndfaaa
theorem hid {p : Prop} (h : p) : RowKit.Hid p := h
/-- the walk stands still behind this -/
theorem hold {p : Prop} (h : RowKit.Hid p) : p := h
theorem tmod_facts (x k : Int) (hk : 0 < k) : -k < x.tmod k ∧ x.tmod k < k ∧ (x.tmod k) % k = x % k ∧ (0 ≤ x → x.tmod k = x % k) ∧ (x < 0 → x.tmod k = -((-x) % k)) := by
  have hneg : x < 0 → x.tmod k = -((-x) % k) := fun h => by
    have e : x = -(-x) := by omega
    conv => lhs; rw [e]
    rw [Int.neg_tmod, Int.tmod_eq_emod_of_nonneg (by omega)]
  rcases Int.lt_or_le x 0 with h | h
  · have h1 := Int.emod_nonneg (-x) (by omega : k ≠ 0)
    have h2 := Int.emod_lt_of_pos (-x) hk
    refine ⟨by rw [hneg h]; omega, by rw [hneg h]; omega, ?_, fun h' => by omega, hneg⟩
    rw [hneg h]
    have h3 := Int.emod_add_mul_ediv (-x) k
    have e : -((-x) % k) = x + k * (-x / k) := by omega
    rw [e, Int.add_mul_emod_self_left]
  · have e : x.tmod k = x % k := Int.tmod_eq_emod_of_nonneg h
    have h1 := Int.emod_nonneg x (by omega : k ≠ 0)
    have h2 := Int.emod_lt_of_pos x hk
    exact ⟨by rw [e]; omega, by rw [e]; omega, by rw [e, Int.emod_emod], fun _ => e, hneg⟩
end Go.Proofs.Ytfbchmihkndfaaa
