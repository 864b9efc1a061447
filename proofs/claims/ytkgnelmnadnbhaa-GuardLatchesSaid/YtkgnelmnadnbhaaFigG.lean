/- GuardLatches: figures of small numbers; the monitors that the law makes. -/
import Derived.Test.YtkgnelmnadnbhaaLawR2
import Derived.Test.YtkgnelmnadnbhaaAppendWide
import Derived.Test.YtkgnelmnadnbhaaFlat
namespace Go.Proofs.Ytkgnelmnadnbhaa
set_option linter.unusedVariables false
open Go.RowKit

theorem Try.info29 : (Try.prog.info? 29).map (fun i => (i.zero, i.size, i.bytes)) = some (some (.agg #[.int .i64 0, .int .i64 0, .int .i64 0, .int .i64 0, .int .i64 0, .string ⟨#[]⟩]), 6, 56) := by kernel_rfl
set_option maxRecDepth 100000 in
theorem figures_ok (i : Nat) (hi : i < 10) (w : World) : Calls Try.prog 5 #[.int .i64 (i : Int)] w fun e w' => e = .returned (.string (strB [48 + i])) ∧ Below w.heap.size w w' := by
  have d1 : decide ((i : Int) < 10) = true := decide_eq_true (by omega)
  have b1 := hid (below_alloc w (.cells #[.int .u8 ((48 + i : Nat) : Int)] 5))
  have r1 := heap_alloc_new w (.cells #[.int .u8 ((48 + i : Nat) : Int)] 5)
  have hcv := run_str_ext (P := Try.prog) 43 5 9 Try.underlying43 Try.underlying5 Try.underlying9 (w := w.alloc (.cells #[.int .u8 ((48 + i : Nat) : Int)] 5)) (ao := some ⟨w.heap.size, 0, none⟩) (n := 1) (cap := 1) (bs := [48 + i])
    ⟨rfl, Nat.le_refl _, by unfold maxLen; omega, (fun h => by cases h), fun _ => ⟨w.heap.size, 0, rfl, row_lt r1, fun j hj => by
      obtain rfl : j = 0 := by omega
      rw [cell_of_row _ _ _ _ _ _ r1]
      rfl⟩⟩ _ (Below.refl _ _)
  have hwr : IntKind.u8.wrap (48 + (i : Int)) = ((48 + i : Nat) : Int) := by rw [IntKind.wrap_u8]; omega
  generalize strB [48 + i] = sb at *
  generalize 48 + i = x at *
  clear r1
  go_enter Try.func5, Try.ntmps5
  go_wp2_with fail
  go_ret
  exact ⟨rfl, b1.out⟩
end Go.Proofs.Ytkgnelmnadnbhaa
