/- Keys: once: a counter is let in. -/
import Derived.Test.YtdeeilahefnicaaFits
namespace Go.Proofs.Ytdeeilahefnicaa
set_option linter.unusedVariables false
open Go.RowKit

/-- a key's last two cells: Top and Seen -/
structure KAt (W : World) (kb : Nat) (top seen : Int) : Prop where
  c2 : W.cell? ⟨kb, 2, none⟩ = some (.int .i64 top)
  c3 : W.cell? ⟨kb, 3, none⟩ = some (.int .i64 seen)
  f2 : W.frozen? ⟨kb, 2, none⟩ = false
  f3 : W.frozen? ⟨kb, 3, none⟩ = false

theorem once_first (kb : Nat) (seen c : Int) (W : World) (h : KAt W kb (-1) seen) (hc : 0 ≤ c ∧ c ≤ 281474976710655) :
    Calls Try.prog 19 #[.pointer (some ⟨kb, 0, none⟩), .int .i64 c] W fun e w' => e = .returned (.bool true) ∧ w' = W.setCell ⟨kb, 2, none⟩ (.int .i64 c) := by
  obtain ⟨c2, c3, f2, f3⟩ := h
  go_enter Try.func19, Try.ntmps19
  go_wp2_with fail
  go_ret
  exact ⟨rfl, rfl⟩
theorem once_same (kb : Nat) (seen c : Int) (W : World) (h : KAt W kb c seen) (hc : 0 ≤ c ∧ c ≤ 281474976710655) :
    Calls Try.prog 19 #[.pointer (some ⟨kb, 0, none⟩), .int .i64 c] W fun e w' => e = .returned (.bool false) ∧ w' = W := by
  obtain ⟨c2, c3, f2, f3⟩ := h
  have t0 : ¬ c < 0 := by omega
  have t1 : c - c = 0 := by omega
  have t2 : IntKind.i64.wrap (c - c) = 0 := by rw [t1]; kernel_rfl
  go_enter Try.func19, Try.ntmps19
  go_wp2_with fail
  go_ret
  exact ⟨rfl, rfl⟩
set_option maxRecDepth 100000 in
theorem once_old (kb : Nat) (top seen c : Int) (W : World) (h : KAt W kb top seen) (hc : 0 ≤ c ∧ c ≤ 281474976710655) (ht : 0 ≤ top ∧ top ≤ 281474976710655) (hb : 62 < top - c) :
    Calls Try.prog 19 #[.pointer (some ⟨kb, 0, none⟩), .int .i64 c] W fun e w' => e = .returned (.bool false) ∧ w' = W := by
  obtain ⟨c2, c3, f2, f3⟩ := h
  have t0 : ¬ top < 0 := by omega
  have t2 : IntKind.i64.wrap (top - c) = top - c := IntWalk.i64_in _ (by omega)
  obtain ⟨b, hbe⟩ : ∃ b, b = top - c := ⟨_, rfl⟩
  rw [← hbe] at t2 hb
  have hbe2 := hbe.symm
  clear hbe
  go_enter Try.func19, Try.ntmps19
  go_wp2_with fail
  go_ret
  exact ⟨rfl, rfl⟩
set_option maxRecDepth 100000 in
theorem once_far (kb : Nat) (top seen c : Int) (W : World) (h : KAt W kb top seen) (hc : 0 ≤ c ∧ c ≤ 281474976710655) (ht : 0 ≤ top ∧ top ≤ 281474976710655) (hb : top - c < -62) :
    Calls Try.prog 19 #[.pointer (some ⟨kb, 0, none⟩), .int .i64 c] W fun e w' => e = .returned (.bool true) ∧ w' = (W.setCell ⟨kb, 2, none⟩ (.int .i64 c)).setCell ⟨kb, 3, none⟩ (.int .i64 0) := by
  obtain ⟨c2, c3, f2, f3⟩ := h
  have t0 : ¬ top < 0 := by omega
  have t2 : IntKind.i64.wrap (top - c) = top - c := IntWalk.i64_in _ (by omega)
  obtain ⟨b, hbe⟩ : ∃ b, b = top - c := ⟨_, rfl⟩
  rw [← hbe] at t2 hb
  have t3 : ¬ 62 < b := by omega
  have t4 : ¬ b = 0 := by omega
  have t5 : ¬ 0 < b := by omega
  have hbe2 := hbe.symm
  clear hbe
  go_enter Try.func19, Try.ntmps19
  go_wp2_with fail
  go_ret
  exact ⟨rfl, rfl⟩
end Go.Proofs.Ytdeeilahefnicaa
