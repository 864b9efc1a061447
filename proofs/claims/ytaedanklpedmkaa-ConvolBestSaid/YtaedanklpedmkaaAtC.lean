/- at: which symbols of a bit are kept. -/
import Derived.Test.YtaedanklpedmkaaPickC
namespace Go.Proofs.Ytaedanklpedmkaa
set_option linter.unusedVariables false
open Go.RowKit

/-- the patterns as bits -/
def ba : Nat → List Bool
  | 1 => [true] | 2 => [true, false] | 3 => [true, false, true] | 4 => [true, false, true, false, true] | _ => [true, false, false, false, true, false, true]
def bb : Nat → List Bool
  | 1 => [true] | 2 => [true, true] | 3 => [true, true, false] | 4 => [true, true, false, true, false] | _ => [true, true, true, true, false, true, false]
/-- is the first symbol of bit i kept? the second? -/
def ka (r i : Nat) : Bool := (ba r).getD (i % (ba r).length) false
def kb (r i : Nat) : Bool := (bb r).getD (i % (ba r).length) false
set_option maxRecDepth 100000 in
theorem at_1 (i : Nat) (w : World) (hi : i ≤ 100000) : Calls Try.prog 13 #[.agg #[.string (patA 1), .string (patB 1)], .int .i64 (i : Int)] w fun e w' => e = .returned (.tuple #[.bool (ka 1 i), .bool (kb 1 i)]) ∧ Below w.heap.size w w' := by
  have hj : i % 1 < 1 := Nat.mod_lt _ (by decide)
  unfold ka kb
  show Calls Try.prog 13 #[.agg #[.string ⟨#[49]⟩, .string ⟨#[49]⟩], .int .i64 (i : Int)] w fun e w' => e = .returned (.tuple #[.bool ([true].getD (i % 1) false), .bool ([true].getD (i % 1) false)]) ∧ Below w.heap.size w w'
  have hm : (i : Int) % 1 = ((i % 1 : Nat) : Int) := by omega
  generalize i % 1 = j at *
  have b0 := below_alloc w (.cells #[.string ⟨#[49]⟩, .string ⟨#[49]⟩] 36)
  have A := heap_alloc_new w (.cells #[.string ⟨#[49]⟩, .string ⟨#[49]⟩] 36)
  have c0 : (w.alloc (.cells #[.string ⟨#[49]⟩, .string ⟨#[49]⟩] 36)).cell? ⟨w.heap.size, 0, none⟩ = some (.string ⟨#[49]⟩) := by rw [cell_of_row _ _ _ _ _ _ A]; rfl
  have c1 : (w.alloc (.cells #[.string ⟨#[49]⟩, .string ⟨#[49]⟩] 36)).cell? ⟨w.heap.size, 1, none⟩ = some (.string ⟨#[49]⟩) := by rw [cell_of_row _ _ _ _ _ _ A]; rfl
  clear A
  rcases (show j = 0 by omega) with rfl
  all_goals
    try simp only [Int.natCast_zero, Int.ofNat_zero, Nat.cast_ofNat_Int] at hm
    go_enter Try.func13, Try.ntmps13
    go_wp2_with fail
    generalize w.alloc (.cells #[.string ⟨#[49]⟩, .string ⟨#[49]⟩] 36) = V at *
    try rw [hm]
    clear hm
    refine wp_region_still_lit (by kernel_rfl) (by kernel_rfl) ?_
    repeat still_step
    refine wpStill_nil ?_
    go_wp2
    go_ret2
    exact ⟨rfl, b0.drew⟩
set_option maxRecDepth 100000 in
theorem at_2 (i : Nat) (w : World) (hi : i ≤ 100000) : Calls Try.prog 13 #[.agg #[.string (patA 2), .string (patB 2)], .int .i64 (i : Int)] w fun e w' => e = .returned (.tuple #[.bool (ka 2 i), .bool (kb 2 i)]) ∧ Below w.heap.size w w' := by
  have hj : i % 2 < 2 := Nat.mod_lt _ (by decide)
  unfold ka kb
  show Calls Try.prog 13 #[.agg #[.string ⟨#[49, 48]⟩, .string ⟨#[49, 49]⟩], .int .i64 (i : Int)] w fun e w' => e = .returned (.tuple #[.bool ([true, false].getD (i % 2) false), .bool ([true, true].getD (i % 2) false)]) ∧ Below w.heap.size w w'
  have hm : (i : Int) % 2 = ((i % 2 : Nat) : Int) := by omega
  generalize i % 2 = j at *
  have b0 := below_alloc w (.cells #[.string ⟨#[49, 48]⟩, .string ⟨#[49, 49]⟩] 36)
  have A := heap_alloc_new w (.cells #[.string ⟨#[49, 48]⟩, .string ⟨#[49, 49]⟩] 36)
  have c0 : (w.alloc (.cells #[.string ⟨#[49, 48]⟩, .string ⟨#[49, 49]⟩] 36)).cell? ⟨w.heap.size, 0, none⟩ = some (.string ⟨#[49, 48]⟩) := by rw [cell_of_row _ _ _ _ _ _ A]; rfl
  have c1 : (w.alloc (.cells #[.string ⟨#[49, 48]⟩, .string ⟨#[49, 49]⟩] 36)).cell? ⟨w.heap.size, 1, none⟩ = some (.string ⟨#[49, 49]⟩) := by rw [cell_of_row _ _ _ _ _ _ A]; rfl
  clear A
  rcases (show j = 0 ∨ j = 1 by omega) with rfl | rfl
  all_goals
    try simp only [Int.natCast_zero, Int.ofNat_zero, Nat.cast_ofNat_Int] at hm
    go_enter Try.func13, Try.ntmps13
    go_wp2_with fail
    generalize w.alloc (.cells #[.string ⟨#[49, 48]⟩, .string ⟨#[49, 49]⟩] 36) = V at *
    try rw [hm]
    clear hm
    refine wp_region_still_lit (by kernel_rfl) (by kernel_rfl) ?_
    repeat still_step
    refine wpStill_nil ?_
    go_wp2
    go_ret2
    exact ⟨rfl, b0.drew⟩
set_option maxRecDepth 100000 in
theorem at_3 (i : Nat) (w : World) (hi : i ≤ 100000) : Calls Try.prog 13 #[.agg #[.string (patA 3), .string (patB 3)], .int .i64 (i : Int)] w fun e w' => e = .returned (.tuple #[.bool (ka 3 i), .bool (kb 3 i)]) ∧ Below w.heap.size w w' := by
  have hj : i % 3 < 3 := Nat.mod_lt _ (by decide)
  unfold ka kb
  show Calls Try.prog 13 #[.agg #[.string ⟨#[49, 48, 49]⟩, .string ⟨#[49, 49, 48]⟩], .int .i64 (i : Int)] w fun e w' => e = .returned (.tuple #[.bool ([true, false, true].getD (i % 3) false), .bool ([true, true, false].getD (i % 3) false)]) ∧ Below w.heap.size w w'
  have hm : (i : Int) % 3 = ((i % 3 : Nat) : Int) := by omega
  generalize i % 3 = j at *
  have b0 := below_alloc w (.cells #[.string ⟨#[49, 48, 49]⟩, .string ⟨#[49, 49, 48]⟩] 36)
  have A := heap_alloc_new w (.cells #[.string ⟨#[49, 48, 49]⟩, .string ⟨#[49, 49, 48]⟩] 36)
  have c0 : (w.alloc (.cells #[.string ⟨#[49, 48, 49]⟩, .string ⟨#[49, 49, 48]⟩] 36)).cell? ⟨w.heap.size, 0, none⟩ = some (.string ⟨#[49, 48, 49]⟩) := by rw [cell_of_row _ _ _ _ _ _ A]; rfl
  have c1 : (w.alloc (.cells #[.string ⟨#[49, 48, 49]⟩, .string ⟨#[49, 49, 48]⟩] 36)).cell? ⟨w.heap.size, 1, none⟩ = some (.string ⟨#[49, 49, 48]⟩) := by rw [cell_of_row _ _ _ _ _ _ A]; rfl
  clear A
  rcases (show j = 0 ∨ j = 1 ∨ j = 2 by omega) with rfl | rfl | rfl
  all_goals
    try simp only [Int.natCast_zero, Int.ofNat_zero, Nat.cast_ofNat_Int] at hm
    go_enter Try.func13, Try.ntmps13
    go_wp2_with fail
    generalize w.alloc (.cells #[.string ⟨#[49, 48, 49]⟩, .string ⟨#[49, 49, 48]⟩] 36) = V at *
    try rw [hm]
    clear hm
    refine wp_region_still_lit (by kernel_rfl) (by kernel_rfl) ?_
    repeat still_step
    refine wpStill_nil ?_
    go_wp2
    go_ret2
    exact ⟨rfl, b0.drew⟩
set_option maxRecDepth 100000 in
theorem at_4 (i : Nat) (w : World) (hi : i ≤ 100000) : Calls Try.prog 13 #[.agg #[.string (patA 4), .string (patB 4)], .int .i64 (i : Int)] w fun e w' => e = .returned (.tuple #[.bool (ka 4 i), .bool (kb 4 i)]) ∧ Below w.heap.size w w' := by
  have hj : i % 5 < 5 := Nat.mod_lt _ (by decide)
  unfold ka kb
  show Calls Try.prog 13 #[.agg #[.string ⟨#[49, 48, 49, 48, 49]⟩, .string ⟨#[49, 49, 48, 49, 48]⟩], .int .i64 (i : Int)] w fun e w' => e = .returned (.tuple #[.bool ([true, false, true, false, true].getD (i % 5) false), .bool ([true, true, false, true, false].getD (i % 5) false)]) ∧ Below w.heap.size w w'
  have hm : (i : Int) % 5 = ((i % 5 : Nat) : Int) := by omega
  generalize i % 5 = j at *
  have b0 := below_alloc w (.cells #[.string ⟨#[49, 48, 49, 48, 49]⟩, .string ⟨#[49, 49, 48, 49, 48]⟩] 36)
  have A := heap_alloc_new w (.cells #[.string ⟨#[49, 48, 49, 48, 49]⟩, .string ⟨#[49, 49, 48, 49, 48]⟩] 36)
  have c0 : (w.alloc (.cells #[.string ⟨#[49, 48, 49, 48, 49]⟩, .string ⟨#[49, 49, 48, 49, 48]⟩] 36)).cell? ⟨w.heap.size, 0, none⟩ = some (.string ⟨#[49, 48, 49, 48, 49]⟩) := by rw [cell_of_row _ _ _ _ _ _ A]; rfl
  have c1 : (w.alloc (.cells #[.string ⟨#[49, 48, 49, 48, 49]⟩, .string ⟨#[49, 49, 48, 49, 48]⟩] 36)).cell? ⟨w.heap.size, 1, none⟩ = some (.string ⟨#[49, 49, 48, 49, 48]⟩) := by rw [cell_of_row _ _ _ _ _ _ A]; rfl
  clear A
  rcases (show j = 0 ∨ j = 1 ∨ j = 2 ∨ j = 3 ∨ j = 4 by omega) with rfl | rfl | rfl | rfl | rfl
  all_goals
    try simp only [Int.natCast_zero, Int.ofNat_zero, Nat.cast_ofNat_Int] at hm
    go_enter Try.func13, Try.ntmps13
    go_wp2_with fail
    generalize w.alloc (.cells #[.string ⟨#[49, 48, 49, 48, 49]⟩, .string ⟨#[49, 49, 48, 49, 48]⟩] 36) = V at *
    try rw [hm]
    clear hm
    refine wp_region_still_lit (by kernel_rfl) (by kernel_rfl) ?_
    repeat still_step
    refine wpStill_nil ?_
    go_wp2
    go_ret2
    exact ⟨rfl, b0.drew⟩
set_option maxRecDepth 100000 in
theorem at_5 (i : Nat) (w : World) (hi : i ≤ 100000) : Calls Try.prog 13 #[.agg #[.string (patA 5), .string (patB 5)], .int .i64 (i : Int)] w fun e w' => e = .returned (.tuple #[.bool (ka 5 i), .bool (kb 5 i)]) ∧ Below w.heap.size w w' := by
  have hj : i % 7 < 7 := Nat.mod_lt _ (by decide)
  unfold ka kb
  show Calls Try.prog 13 #[.agg #[.string ⟨#[49, 48, 48, 48, 49, 48, 49]⟩, .string ⟨#[49, 49, 49, 49, 48, 49, 48]⟩], .int .i64 (i : Int)] w fun e w' => e = .returned (.tuple #[.bool ([true, false, false, false, true, false, true].getD (i % 7) false), .bool ([true, true, true, true, false, true, false].getD (i % 7) false)]) ∧ Below w.heap.size w w'
  have hm : (i : Int) % 7 = ((i % 7 : Nat) : Int) := by omega
  generalize i % 7 = j at *
  have b0 := below_alloc w (.cells #[.string ⟨#[49, 48, 48, 48, 49, 48, 49]⟩, .string ⟨#[49, 49, 49, 49, 48, 49, 48]⟩] 36)
  have A := heap_alloc_new w (.cells #[.string ⟨#[49, 48, 48, 48, 49, 48, 49]⟩, .string ⟨#[49, 49, 49, 49, 48, 49, 48]⟩] 36)
  have c0 : (w.alloc (.cells #[.string ⟨#[49, 48, 48, 48, 49, 48, 49]⟩, .string ⟨#[49, 49, 49, 49, 48, 49, 48]⟩] 36)).cell? ⟨w.heap.size, 0, none⟩ = some (.string ⟨#[49, 48, 48, 48, 49, 48, 49]⟩) := by rw [cell_of_row _ _ _ _ _ _ A]; rfl
  have c1 : (w.alloc (.cells #[.string ⟨#[49, 48, 48, 48, 49, 48, 49]⟩, .string ⟨#[49, 49, 49, 49, 48, 49, 48]⟩] 36)).cell? ⟨w.heap.size, 1, none⟩ = some (.string ⟨#[49, 49, 49, 49, 48, 49, 48]⟩) := by rw [cell_of_row _ _ _ _ _ _ A]; rfl
  clear A
  rcases (show j = 0 ∨ j = 1 ∨ j = 2 ∨ j = 3 ∨ j = 4 ∨ j = 5 ∨ j = 6 by omega) with rfl | rfl | rfl | rfl | rfl | rfl | rfl
  all_goals
    try simp only [Int.natCast_zero, Int.ofNat_zero, Nat.cast_ofNat_Int] at hm
    go_enter Try.func13, Try.ntmps13
    go_wp2_with fail
    generalize w.alloc (.cells #[.string ⟨#[49, 48, 48, 48, 49, 48, 49]⟩, .string ⟨#[49, 49, 49, 49, 48, 49, 48]⟩] 36) = V at *
    try rw [hm]
    clear hm
    refine wp_region_still_lit (by kernel_rfl) (by kernel_rfl) ?_
    repeat still_step
    refine wpStill_nil ?_
    go_wp2
    go_ret2
    exact ⟨rfl, b0.drew⟩
end Go.Proofs.Ytaedanklpedmkaa
