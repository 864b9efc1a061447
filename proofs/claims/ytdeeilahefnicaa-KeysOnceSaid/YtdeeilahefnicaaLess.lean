/- Keys: less, Mul64, number: what they answer depends on what is handed to them alone. -/
import Derived.Test.YtdeeilahefnicaaDiv
namespace Go.Proofs.Ytdeeilahefnicaa
set_option linter.unusedVariables false
open Go.RowKit

def U64 (z : Int) : Prop := 0 ≤ z ∧ z < 18446744073709551616

set_option maxRecDepth 100000 in
theorem div_zero (lo : Nat) (h2 : lo < 18446744073709551616) : ∃ z, U64 z ∧ ∀ w, Calls Try.prog 35 #[.int .u64 0, .int .u64 (lo : Int), .int .u64 2305843009213693951] w fun e w' => (∃ q, e = .returned (.tuple #[.int .u64 q, .int .u64 z])) ∧ Below w.heap.size w w' := by
  refine ⟨(lo : Int) % 2305843009213693951, ⟨by omega, by omega⟩, fun w => ?_⟩
  have h3 : (0 : Int) ≤ (lo : Int) := by omega
  go_enter Try.func35, Try.ntmps35
  go_wp2_with fail
  refine wp_region_still_lit (by kernel_rfl) (by kernel_rfl) ?_
  repeat still_step
  refine wpStill_nil ?_
  go_wp2_with fail
  go_ret2
  exact ⟨⟨_, rfl⟩, (Below.refl _ w).drew⟩

theorem div_ok (hi lo : Int) (h1 : 0 ≤ hi ∧ hi < 2305843009213693951) (h2 : U64 lo) : ∃ z, U64 z ∧ ∀ w, Calls Try.prog 35 #[.int .u64 hi, .int .u64 lo, .int .u64 2305843009213693951] w fun e w' => (∃ q, e = .returned (.tuple #[.int .u64 q, .int .u64 z])) ∧ Below w.heap.size w w' := by
  obtain ⟨a, rfl⟩ := Int.eq_ofNat_of_zero_le h1.1
  obtain ⟨b, rfl⟩ := Int.eq_ofNat_of_zero_le h2.1
  have hb : b < 18446744073709551616 := by have := h2.2; omega
  by_cases h0 : a = 0
  · subst h0; exact div_zero b hb
  · obtain ⟨z, hz, h⟩ := div_big a b (by omega) hb h0
    exact ⟨z, hz, fun w => (h w).mono fun e w' ⟨he, hw⟩ => ⟨he, by rw [hw]; exact Below.refl _ _⟩⟩

theorem less_e (hi lo : Int) (h1 : U64 hi) (h2 : U64 lo) : ∃ z, U64 z ∧ ∀ w, Calls Try.prog 24 #[.int .u64 hi, .int .u64 lo] w fun e w' => e = .returned (.int .u64 z) ∧ Below w.heap.size w w' := by
  obtain ⟨z, hz, h⟩ := div_ok (hi % 2305843009213693951) lo (by unfold U64 at h1; omega) h2
  refine ⟨z, hz, fun w => ?_⟩
  have h0 := h1.1
  clear h1 h2
  go_enter Try.func24, Try.ntmps24
  go_wp2_with fail
  refine (h w).mono ?_
  rintro e w' ⟨⟨q, rfl⟩, hb⟩
  go_wp2_with fail
  go_ret
  exact ⟨rfl, hb⟩

set_option maxRecDepth 100000 in
theorem mul_e (x y : Int) (hx : U64 x) (hy : U64 y) : ∃ p q, (U64 p ∧ U64 q) ∧ ∀ w, Calls Try.prog 25 #[.int .u64 x, .int .u64 y] w fun e w' => e = .returned (.tuple #[.int .u64 p, .int .u64 q]) ∧ w = w' := by
  clear hx hy
  apply Exists.intro
  apply Exists.intro
  refine And.intro ?r (fun w => ?_)
  rotate_left
  · go_enter Try.func25, Try.ntmps25
    go_wp2_with fail
    go_ret2
    exact ⟨rfl, rfl⟩
  case r => exact ⟨w64_rng _, w64_rng _⟩
end Go.Proofs.Ytdeeilahefnicaa
