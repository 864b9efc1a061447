/- Stream: New. -/
import Derived.Test.YtlbpmepifegeiaaSearch
namespace Go.Proofs.Ytlbpmepifegeiaa
set_option linter.unusedVariables false
set_option linter.unusedSimpArgs false
open Go.RowKit

theorem fits_ok (a b : Nat) (w : World) : Calls Try.prog 14 #[.int .i64 (a : Int), .int .i64 (b : Int)] w fun e w' => e = .returned (.bool (decide (a ≤ b))) ∧ w = w' := by
  have h0 : (0 : Int) ≤ (a : Int) := Int.natCast_nonneg _
  go_enter Try.func14, Try.ntmps14
  go_wp2_with fail
  go_ret
  refine ⟨?_, rfl⟩
  first | rfl | simp

def SyV.new (L F H M : Nat) : SyV := ⟨L, F, H, M, none, 0, 0, 0, 0, false, 0, 15, none, 0, 0, false⟩
theorem new_sync (L F H M : Nat) (hL : 1 ≤ L ∧ L ≤ 2048) (hF : F ≤ 8) (hH : H ≤ 12) (hM : M ≤ 8) (w : World) :
    Calls Try.prog 9 #[.agg #[.int .i64 (L : Int), .int .i64 (F : Int), .int .i64 (H : Int), .int .i64 (M : Int)]] w fun e w' => ∃ sb, e = .returned (.tuple #[.pointer (some ⟨sb, 0, none⟩), .nilIface]) ∧ w.heap.size ≤ sb ∧ SyIn w' sb (SyV.new L F H M) [] ∧ Below w.heap.size w w' := by
  have l1 : ¬ (L : Int) < 1 := by omega
  have l2 : ¬ (2048 : Int) < (L : Int) := by omega
  have HF := hid hF
  have HH := hid hH
  have HM := hid hM
  have HL := hid hL
  clear hF hH hM hL
  go_enter Try.func9, Try.ntmps9
  go_wp2_with fail
  have A0 := heap_alloc_new w (.cells #[.int .i64 (L : Int), .int .i64 (F : Int), .int .i64 (H : Int), .int .i64 (M : Int)] 23)
  have b0 := below_alloc w (.cells #[.int .i64 (L : Int), .int .i64 (F : Int), .int .i64 (H : Int), .int .i64 (M : Int)] 23)
  generalize w.alloc (.cells #[.int .i64 (L : Int), .int .i64 (F : Int), .int .i64 (H : Int), .int .i64 (M : Int)] 23) = V at *
  obtain ⟨rb, hrb⟩ : ∃ rb, rb = w.heap.size := ⟨_, rfl⟩
  rw [← hrb] at A0
  have hrb' := hrb.symm
  clear hrb
  have c0 : V.cell? ⟨rb, 0, none⟩ = some (.int .i64 (L : Int)) := by rw [cell_of_row _ _ _ _ _ _ A0]; rfl
  have c1 : V.cell? ⟨rb, 1, none⟩ = some (.int .i64 (F : Int)) := by rw [cell_of_row _ _ _ _ _ _ A0]; rfl
  have c2 : V.cell? ⟨rb, 2, none⟩ = some (.int .i64 (H : Int)) := by rw [cell_of_row _ _ _ _ _ _ A0]; rfl
  have c3 : V.cell? ⟨rb, 3, none⟩ = some (.int .i64 (M : Int)) := by rw [cell_of_row _ _ _ _ _ _ A0]; rfl
  rw [hrb'] at *
  refine (fits_ok F 8 V).mono ?_
  rintro e w' ⟨rfl, rfl⟩
  rw [show decide (F ≤ 8) = true by simp [HF.out]]
  go_wp2_with fail
  refine (fits_ok H 12 _).mono ?_
  rintro e w' ⟨rfl, rfl⟩
  rw [show decide (H ≤ 12) = true by simp [HH.out]]
  go_wp2_with fail
  refine (fits_ok M 8 _).mono ?_
  rintro e w' ⟨rfl, rfl⟩
  rw [show decide (M ≤ 8) = true by simp [HM.out]]
  go_wp2_with fail
  go_ret2
  have hsz := b0.size
  refine ⟨V.heap.size, rfl, hsz, ⟨heap_alloc_new V _, World.ownsRow_nil _ _ _ _, rfl, (fun x hx => nomatch hx), Nat.zero_le _, ?_, ?_, ?_, HL.out, Nat.zero_le _⟩, b0.trans ((below_alloc V _).mono hsz)⟩
  · have := HF.out; show F ≤ 1000; omega
  · have := HH.out; show H ≤ 1000; omega
  · have := HM.out; show M ≤ 1000; omega
end Go.Proofs.Ytlbpmepifegeiaa
