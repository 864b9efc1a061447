/- Passes: bits.Len of small numbers. -/
import Derived.Test.YtfbchmihkndfaaaInP
namespace Go.Proofs.Ytfbchmihkndfaaa
set_option linter.unusedVariables false
open Go.RowKit
set_option maxRecDepth 100000 in
theorem len64_any (n : Nat) (w : World) (hn : n ≤ 9) : Calls Try.prog 51 #[.int .u64 (n : Int)] w fun e w' => ∃ r : Int, e = .returned (.int .i64 r) ∧ w' = w := by
  rcases (show n = 0 ∨ n = 1 ∨ n = 2 ∨ n = 3 ∨ n = 4 ∨ n = 5 ∨ n = 6 ∨ n = 7 ∨ n = 8 ∨ n = 9 by omega) with rfl | rfl | rfl | rfl | rfl | rfl | rfl | rfl | rfl | rfl
  all_goals
    go_enter Try.func51, Try.ntmps51
    go_wp2_with fail

    go_ret
    exact ⟨_, rfl, rfl⟩
theorem len_any (n : Nat) (w : World) (hn : n ≤ 9) : Calls Try.prog 34 #[.int .u64 (n : Int)] w fun e w' => ∃ r : Int, e = .returned (.int .i64 r) ∧ w' = w := by
  have h := len64_any n w hn
  go_enter Try.func34, Try.ntmps34
  go_wp2_with fail
  refine h.mono ?_
  rintro e w' ⟨r, rfl, hw⟩
  rw [hw]
  clear hw w'
  go_wp2_with fail
  go_ret
  exact ⟨_, rfl, rfl⟩
end Go.Proofs.Ytfbchmihkndfaaa
