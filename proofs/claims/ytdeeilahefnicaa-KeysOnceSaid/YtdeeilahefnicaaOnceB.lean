/- Keys: once: the ways that look at Seen. -/
import Derived.Test.YtdeeilahefnicaaOnce
import Derived.Test.YtdeeilahefnicaaBits
namespace Go.Proofs.Ytdeeilahefnicaa
set_option linter.unusedVariables false
open Go.RowKit

theorem bit_at (s i : Nat) (hs : s < 2 ^ 62) : bits BinOp.and IntKind.i64 ((s : Int) / 2 ^ i) 1 = if s.testBit i then 1 else 0 := by
  have e1 : (s : Int) / 2 ^ i = ((s / 2 ^ i : Nat) : Int) := by simp
  rw [e1]
  have h1 : s / 2 ^ i < 2 ^ 63 := Nat.lt_of_le_of_lt (Nat.div_le_self _ _) (Nat.lt_trans hs (by decide))
  have h2 := i64_and_nat (s / 2 ^ i) 1 h1 (by decide)
  have h3 : s / 2 ^ i &&& 1 = (s / 2 ^ i) % 2 := Nat.and_one_is_mod _
  rw [show ((1 : Nat) : Int) = 1 from rfl, h3] at h2
  rw [h2]
  have h4 : s.testBit i = decide ((s / 2 ^ i) % 2 = 1) := by
    rw [Nat.testBit, Nat.shiftRight_eq_div_pow, Nat.and_comm, Nat.and_one_is_mod]
    rcases Nat.mod_two_eq_zero_or_one (s / 2 ^ i) with h | h <;> rw [h] <;> rfl
  rw [h4]
  rcases Nat.mod_two_eq_zero_or_one (s / 2 ^ i) with h | h <;> rw [h] <;> simp

set_option maxRecDepth 100000 in
theorem once_seen (kb : Nat) (top : Int) (s i : Nat) (c : Int) (W : World) (h : KAt W kb top (s : Int)) (hc : 0 ≤ c ∧ c ≤ 281474976710655) (ht : 0 ≤ top ∧ top ≤ 281474976710655) (hb : top - c = (i : Int) + 1) (hi : i < 62) (hs : s < 2 ^ 62) (hbit : s.testBit i = true) :
    Calls Try.prog 19 #[.pointer (some ⟨kb, 0, none⟩), .int .i64 c] W fun e w' => e = .returned (.bool false) ∧ w' = W := by
  obtain ⟨c2, c3, f2, f3⟩ := h
  have t0 : ¬ top < 0 := by omega
  have t2 : IntKind.i64.wrap ((i : Int) + 1) = (i : Int) + 1 := IntWalk.i64_in _ (by omega)
  have t3 : ¬ (62 : Int) < (i : Int) + 1 := by omega
  have t4 : ¬ (i : Int) + 1 = 0 := by omega
  have t5 : (0 : Int) < (i : Int) + 1 := by omega
  have t6 : (i : Int) + 1 - 1 = (i : Int) := by omega
  have t7 := bit_at s i hs
  rw [hbit, if_pos rfl] at t7
  have t8 : IntKind.i64.wrap (i : Int) = (i : Int) := IntWalk.i64_in _ (by omega)
  clear hs
  go_enter Try.func19, Try.ntmps19
  go_wp2_with fail
  go_ret
  exact ⟨rfl, rfl⟩

theorem pow_small (i : Nat) (hi : i < 62) : (2 : Nat) ^ i < 2 ^ 62 := Nat.pow_lt_pow_right (by decide) hi
theorem or_in (s i : Nat) (hs : s < 2 ^ 62) (hi : i < 62) : bits BinOp.or IntKind.i64 (s : Int) (IntKind.i64.wrap ((2 : Int) ^ i)) = ((s ||| 2 ^ i : Nat) : Int) := by
  have h1 := pow_small i hi
  have h2 : IntKind.i64.wrap ((2 : Int) ^ i) = ((2 ^ i : Nat) : Int) := by
    have e : ((2 : Int) ^ i) = ((2 ^ i : Nat) : Int) := by simp
    rw [e]
    clear e
    generalize (2 : Nat) ^ i = p at *
    exact IntWalk.i64_in _ (by omega)
  rw [h2]
  exact i64_or_nat s (2 ^ i) (Nat.lt_trans hs (by decide)) (Nat.lt_trans h1 (by decide))

set_option maxRecDepth 100000 in
theorem once_new (kb : Nat) (top : Int) (s i : Nat) (c : Int) (W : World) (h : KAt W kb top (s : Int)) (hc : 0 ≤ c ∧ c ≤ 281474976710655) (ht : 0 ≤ top ∧ top ≤ 281474976710655) (hb : top - c = (i : Int) + 1) (hi : i < 62) (hs : s < 2 ^ 62) (hbit : s.testBit i = false) :
    Calls Try.prog 19 #[.pointer (some ⟨kb, 0, none⟩), .int .i64 c] W fun e w' => e = .returned (.bool true) ∧ w' = W.drew.setCell ⟨kb, 3, none⟩ (.int .i64 ((s ||| 2 ^ i : Nat) : Int)) := by
  obtain ⟨c2, c3, f2, f3⟩ := h
  have t0 : ¬ top < 0 := by omega
  have t2 : IntKind.i64.wrap ((i : Int) + 1) = (i : Int) + 1 := IntWalk.i64_in _ (by omega)
  have t3 : ¬ (62 : Int) < (i : Int) + 1 := by omega
  have t4 : ¬ (i : Int) + 1 = 0 := by omega
  have t5 : (0 : Int) < (i : Int) + 1 := by omega
  have t6 : (i : Int) + 1 - 1 = (i : Int) := by omega
  have t7 := bit_at s i hs
  rw [hbit, if_neg (by simp)] at t7
  have t8 : IntKind.i64.wrap (i : Int) = (i : Int) := IntWalk.i64_in _ (by omega)
  have t9 := or_in s i hs hi
  generalize (s ||| 2 ^ i) = v at *
  clear hs
  obtain ⟨Wd, hWd⟩ : ∃ Wd : World, Wd = { W with drawn := W.drawn + 1 } := ⟨_, rfl⟩
  have eW : W.drew = Wd := hWd.symm
  have d2 : W.drew.cell? ⟨kb, 2, none⟩ = _ := c2
  have d3 : W.drew.cell? ⟨kb, 3, none⟩ = _ := c3
  have z3 : W.drew.frozen? ⟨kb, 3, none⟩ = false := f3
  rw [eW] at d2 d3 z3
  have HW := hid eW
  clear eW
  go_enter Try.func19, Try.ntmps19
  go_wp2_with fail
  refine wp_region_still_tail 10 (by kernel_rfl) (by kernel_rfl) ?_
  simp only [List.take_succ_cons, List.take_zero, List.drop_succ_cons, List.drop_zero]
  rw [← hWd]
  clear hWd
  repeat still_step
  refine wpStill_nil ?_
  go_wp2_with fail
  go_ret
  exact ⟨rfl, by rw [HW.out]⟩
end Go.Proofs.Ytdeeilahefnicaa
