/- Keys: once: a counter that is a little higher. -/
import Derived.Test.YtdeeilahefnicaaOnceB
import Derived.Test.YtdeeilahefnicaaNumber
namespace Go.Proofs.Ytdeeilahefnicaa
set_option linter.unusedVariables false
open Go.RowKit

/-- Seen, moved up by i + 1 -/
def upV (s i : Nat) : Nat := ((s <<< (i + 1)) ||| 2 ^ i) % 2 ^ 62
theorem upV_lt (s i : Nat) : upV s i < 2 ^ 62 := Nat.mod_lt _ (by decide)
theorem up_val (s i : Nat) (hi : i < 62) : IntKind.i64.wrap (bits BinOp.and IntKind.u64 (bits BinOp.or IntKind.u64 (IntKind.u64.wrap ((s : Int) * 2 ^ (i + 1))) (IntKind.u64.wrap (2 ^ i))) 4611686018427387903) = ((upV s i : Nat) : Int) := by
  have h1 := pow_small i hi
  have h1' : 2 ^ i < 2 ^ 64 := Nat.lt_trans h1 (by decide)
  have e1 : IntKind.u64.wrap ((s : Int) * 2 ^ (i + 1)) = ((s * 2 ^ (i + 1) % 2 ^ 64 : Nat) : Int) := by
    rw [IntKind.wrap_u64]; simp
  have e2 : IntKind.u64.wrap ((2 : Int) ^ i) = ((2 ^ i : Nat) : Int) := by
    have e : ((2 : Int) ^ i) = ((2 ^ i : Nat) : Int) := by simp
    rw [e]
    exact wraps_u64 _ (Int.natCast_nonneg _) (by exact_mod_cast h1')
  have h2 : s * 2 ^ (i + 1) % 2 ^ 64 < 2 ^ 64 := Nat.mod_lt _ (by decide)
  have e3 := u64_or_nat _ _ h2 h1'
  have h3 : (s * 2 ^ (i + 1) % 2 ^ 64 ||| 2 ^ i) < 2 ^ 64 := Nat.or_lt_two_pow h2 h1'
  have e4 := (bits_nat .u64 64 (by decide) wraps_u64 (s * 2 ^ (i + 1) % 2 ^ 64 ||| 2 ^ i) 4611686018427387903 h3 (by decide)).1
  have e5 : (s * 2 ^ (i + 1) % 2 ^ 64 ||| 2 ^ i) &&& 4611686018427387903 = upV s i := by
    rw [show 4611686018427387903 = 2 ^ 62 - 1 by decide, Nat.and_two_pow_sub_one_eq_mod, upV, Nat.shiftLeft_eq]
    apply Nat.eq_of_testBit_eq
    intro j
    rw [Nat.testBit_mod_two_pow, Nat.testBit_mod_two_pow, Nat.testBit_or, Nat.testBit_or, Nat.testBit_mod_two_pow]
    by_cases hj : j < 62
    · simp [hj, show j < 64 by omega]
    · simp [hj]
  rw [e1, e2, e3]
  have e6 : ((4611686018427387903 : Nat) : Int) = 4611686018427387903 := rfl
  rw [e6] at e4
  rw [e4, e5]
  have h6 := upV_lt s i
  generalize upV s i = v at *
  exact IntWalk.i64_in _ (by omega)

set_option maxRecDepth 100000 in
theorem once_up (kb : Nat) (top : Int) (s i : Nat) (c : Int) (W : World) (h : KAt W kb top (s : Int)) (hc : 0 ≤ c ∧ c ≤ 281474976710655) (ht : 0 ≤ top ∧ top ≤ 281474976710655) (hb : top - c = -((i : Int) + 1)) (hi : i < 62) (hs : s < 2 ^ 62) :
    Calls Try.prog 19 #[.pointer (some ⟨kb, 0, none⟩), .int .i64 c] W fun e w' => e = .returned (.bool true) ∧ w' = (W.setCell ⟨kb, 2, none⟩ (.int .i64 c)).setCell ⟨kb, 3, none⟩ (.int .i64 ((upV s i : Nat) : Int)) := by
  obtain ⟨c2, c3, f2, f3⟩ := h
  have t0 : ¬ top < 0 := by omega
  obtain ⟨b, hbe⟩ : ∃ b, b = top - c := ⟨_, rfl⟩
  obtain ⟨u, hue⟩ : ∃ u : Int, u = (i : Int) + 1 := ⟨_, rfl⟩
  have t2 : IntKind.i64.wrap b = b := IntWalk.i64_in _ (by omega)
  have t3 : ¬ (62 : Int) < b := by omega
  have t4 : ¬ b = 0 := by omega
  have t5 : ¬ (0 : Int) < b := by omega
  have t6 : ¬ b < -62 := by omega
  have t7 : -b = u := by omega
  have t8 : IntKind.i64.wrap u = u := IntWalk.i64_in _ (by omega)
  have t9 : IntKind.u64.wrap u = u := by rw [IntKind.wrap_u64]; omega
  have t10 : u - 1 = (i : Int) := by omega
  have t11 : IntKind.u64.wrap (i : Int) = (i : Int) := by rw [IntKind.wrap_u64]; omega
  have t12 : IntKind.u64.wrap (s : Int) = (s : Int) := by rw [IntKind.wrap_u64]; omega
  have t13 : u.toNat = i + 1 := by omega
  have t14 : 0 ≤ u ∧ u ≤ 62 := by omega
  have hbe2 := hbe.symm
  clear hbe hue hb
  have t15 := up_val s i hi
  generalize upV s i = v at *
  clear hs
  go_enter Try.func19, Try.ntmps19
  go_wp2_with fail
  go_ret
  exact ⟨rfl, rfl⟩
end Go.Proofs.Ytdeeilahefnicaa
