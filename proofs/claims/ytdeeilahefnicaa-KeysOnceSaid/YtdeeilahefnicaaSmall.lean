/- Keys: the small functions. -/
import Derived.Test.YtdeeilahefnicaaPick
import Derived.Test.YtdeeilahefnicaaRow
import Derived.Test.YtdeeilahefnicaaRegionP
import Derived.Test.YtdeeilahefnicaaAppend
import Derived.StillTailTactics
namespace Go.Proofs.Ytdeeilahefnicaa
set_option linter.unusedVariables false
open Go.RowKit

theorem in_yes (n m : Int) (w : World) (h : 0 ≤ n ∧ n ≤ m) : Calls Try.prog 11 #[.int .i64 n, .int .i64 m] w fun e w' => e = .returned (.bool true) ∧ w = w' := by
  obtain ⟨h1, h2⟩ := h
  go_enter Try.func11, Try.ntmps11
  go_wp2_with fail
  go_ret
  exact ⟨rfl, rfl⟩
theorem rot13_e (x : Int) : ∃ z, ∀ w, Calls Try.prog 37 #[.int .u32 x, .int .i64 13] w fun e w' => e = .returned (.int .u32 z) ∧ w = w' := by
  have e : bits BinOp.and IntKind.u64 13 31 = 13 := by kernel_rfl
  apply Exists.intro
  intro w
  go_enter Try.func37, Try.ntmps37
  go_wp2_with fail
  go_ret
  exact ⟨rfl, rfl⟩
theorem rot9_e (x : Int) : ∃ z, ∀ w, Calls Try.prog 37 #[.int .u32 x, .int .i64 9] w fun e w' => e = .returned (.int .u32 z) ∧ w = w' := by
  have e : bits BinOp.and IntKind.u64 9 31 = 9 := by kernel_rfl
  apply Exists.intro
  intro w
  go_enter Try.func37, Try.ntmps37
  go_wp2_with fail
  go_ret
  exact ⟨rfl, rfl⟩
theorem rot17_e (x : Int) : ∃ z, ∀ w, Calls Try.prog 37 #[.int .u32 x, .int .i64 17] w fun e w' => e = .returned (.int .u32 z) ∧ w = w' := by
  have e : bits BinOp.and IntKind.u64 17 31 = 17 := by kernel_rfl
  apply Exists.intro
  intro w
  go_enter Try.func37, Try.ntmps37
  go_wp2_with fail
  go_ret
  exact ⟨rfl, rfl⟩
theorem rot5_e (x : Int) : ∃ z, ∀ w, Calls Try.prog 37 #[.int .u32 x, .int .i64 5] w fun e w' => e = .returned (.int .u32 z) ∧ w = w' := by
  have e : bits BinOp.and IntKind.u64 5 31 = 5 := by kernel_rfl
  apply Exists.intro
  intro w
  go_enter Try.func37, Try.ntmps37
  go_wp2_with fail
  go_ret
  exact ⟨rfl, rfl⟩
end Go.Proofs.Ytdeeilahefnicaa
