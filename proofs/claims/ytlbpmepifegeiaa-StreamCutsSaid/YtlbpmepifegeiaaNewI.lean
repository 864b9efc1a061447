/- Stream: Listen. -/
import Derived.Test.YtlbpmepifegeiaaLis
import Derived.Test.YtlbpmepifegeiaaNew
namespace Go.Proofs.Ytlbpmepifegeiaa
set_option linter.unusedVariables false
set_option linter.unusedSimpArgs false
open Go.RowKit

theorem mInv_new (L F H M : Nat) : MInv ⟨L, F, H, M⟩ [] (SyV.new L F H M).base 0 (core (SyV.new L F H M)) :=
  ⟨Nat.le_refl _, Nat.le_refl _, fun h => absurd (show (15 : Nat) = 29 from h) (by decide), .inl rfl, Nat.zero_le _, fun _ => Nat.zero_le _, Nat.zero_le _, fun h => absurd (show (15 : Nat) = 29 from h) (by decide)⟩
end Go.Proofs.Ytlbpmepifegeiaa
