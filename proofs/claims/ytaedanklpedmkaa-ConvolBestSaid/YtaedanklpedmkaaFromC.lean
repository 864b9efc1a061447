/- The choices of one step as one number: a bit a state. -/
import Derived.Test.YtaedanklpedmkaaTcC
namespace Go.Proofs.Ytaedanklpedmkaa
set_option linter.unusedVariables false

/-- the bits of the first k choices -/
def frTo (f : Nat → Bool) : Nat → Nat
  | 0 => 0
  | k + 1 => if f k = true then frTo f k + 2 ^ k else frTo f k
theorem frTo_lt (f : Nat → Bool) : ∀ k, frTo f k < 2 ^ k
  | 0 => (by decide : 0 < 1)
  | k + 1 => by
    have := frTo_lt f k
    rw [frTo, Nat.pow_succ]
    split <;> omega
/-- a choice is read back -/
theorem frTo_bit (f : Nat → Bool) (s : Nat) : ∀ k, s < k → frTo f k / 2 ^ s % 2 = if f s = true then 1 else 0
  | 0, h => by omega
  | k + 1, h => by
    rw [frTo]
    have hk := frTo_lt f k
    by_cases e : s = k
    · subst e
      split
      · rw [Nat.add_div_right _ (Nat.two_pow_pos s), Nat.div_eq_of_lt hk]
      · rw [Nat.div_eq_of_lt hk]
    · have ih := frTo_bit f s k (by omega)
      split
      · obtain ⟨d, rfl⟩ : ∃ d, k = s + 1 + d := ⟨k - (s + 1), by omega⟩
        have e2 : (2 : Nat) ^ (s + 1 + d) = 2 ^ s * (2 * 2 ^ d) := by rw [Nat.pow_add, Nat.pow_succ, Nat.mul_assoc]
        rw [e2, Nat.add_mul_div_left _ _ (Nat.two_pow_pos s), Nat.add_mul_mod_self_left]
        exact ih
      · exact ih
theorem or_pow (x k : Nat) (hx : x < 2 ^ k) : x ||| 2 ^ k = x + 2 ^ k := by
  have h := Nat.two_pow_add_eq_or_of_lt hx 1
  rw [Nat.mul_one] at h
  rw [Nat.or_comm, ← h, Nat.add_comm]
theorem u64_wraps (n : Int) (h0 : 0 ≤ n) (h1 : n < 2 ^ 64) : IntKind.u64.wrap n = n := by rw [IntKind.wrap_u64]; omega
theorem u64_or (a b : Nat) (ha : a < 2 ^ 64) (hb : b < 2 ^ 64) : bits .or .u64 (a : Int) (b : Int) = ((a ||| b : Nat) : Int) := (bits_nat .u64 64 (by decide) u64_wraps a b ha hb).2
theorem u64_and (a b : Nat) (ha : a < 2 ^ 64) (hb : b < 2 ^ 64) : bits .and .u64 (a : Int) (b : Int) = ((a &&& b : Nat) : Int) := (bits_nat .u64 64 (by decide) u64_wraps a b ha hb).1
theorem from_or (f : Nat → Bool) (k : Nat) (hk : k < 64) (h : f k = true) : bits .or .u64 (frTo f k : Int) ((2 ^ k : Nat) : Int) = (frTo f (k + 1) : Int) := by
  have h1 := frTo_lt f k
  have h2 : 2 ^ k < 2 ^ 64 := Nat.pow_lt_pow_right (by decide) hk
  rw [u64_or _ _ (Nat.lt_trans h1 h2) h2, or_pow _ _ h1, frTo, if_pos h]
end Go.Proofs.Ytaedanklpedmkaa
