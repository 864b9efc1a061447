/- Stream: Locked. -/
import Derived.Test.YtlbpmepifegeiaaSync
namespace Go.Proofs.Ytlbpmepifegeiaa
set_option linter.unusedVariables false
open Go.RowKit

theorem locked_ok (sb : Nat) (s : SyV) (W : World) (h : SyAt W sb s) : Calls Try.prog 12 #[.pointer (some ⟨sb, 0, none⟩)] W fun e w' => e = .returned (.bool s.lo) ∧ W = w' := by
  have c := h.clo
  go_enter Try.func12, Try.ntmps12
  go_wp2_with fail
  go_ret
  exact ⟨rfl, rfl⟩
end Go.Proofs.Ytlbpmepifegeiaa
