/- Keys: number. -/
import Derived.Test.YtdeeilahefnicaaLess
namespace Go.Proofs.Ytdeeilahefnicaa
set_option linter.unusedVariables false
open Go.RowKit

/-- bytes as a number, the highest first -/
def numN (bs : List Nat) : Nat := bs.foldl (fun z x => z * 256 + x) 0
theorem numN_snoc (bs : List Nat) (x : Nat) : numN (bs ++ [x]) = numN bs * 256 + x := by simp [numN]
theorem numN_go (bs : List Nat) : ∀ z, AllB bs → bs.foldl (fun z x => z * 256 + x) z < (z + 1) * 256 ^ bs.length := by
  induction bs with
  | nil => intro z _; simp
  | cons x bs ih =>
    intro z h
    have hx : x < 256 := h x (by simp)
    have := ih (z * 256 + x) (fun y hy => h y (by simp [hy]))
    rw [List.foldl_cons, List.length_cons, Nat.pow_succ]
    refine Nat.lt_of_lt_of_le this ?_
    rw [Nat.mul_comm (256 ^ bs.length) 256, ← Nat.mul_assoc]
    exact Nat.mul_le_mul_right _ (by omega)
theorem numN_lt (bs : List Nat) (h : AllB bs) : numN bs < 256 ^ bs.length := by
  have := numN_go bs 0 h
  simpa [numN] using this
theorem wraps_u64 (n : Int) (h₀ : 0 ≤ n) (h₁ : n < 2 ^ 64) : IntKind.u64.wrap n = n := by rw [IntKind.wrap_u64]; omega
theorem u64_or_nat (a b : Nat) (ha : a < 2 ^ 64) (hb : b < 2 ^ 64) : bits .or .u64 (a : Int) (b : Int) = ((a ||| b : Nat) : Int) :=
  (bits_nat .u64 64 (by decide) wraps_u64 a b ha hb).2
theorem or_shift (a x : Nat) (hx : x < 256) (ha : a * 256 + x < 18446744073709551616) : bits .or .u64 ((a : Int) * 256) (x : Int) = ((a * 256 + x : Nat) : Int) := by
  have e64 : (2 : Nat) ^ 64 = 18446744073709551616 := by decide
  have h1 : a * 256 < 2 ^ 64 := by rw [e64]; exact Nat.lt_of_le_of_lt (Nat.le_add_right _ x) ha
  have h2 : x < 2 ^ 64 := Nat.lt_trans hx (by decide)
  have h := Nat.shiftLeft_add_eq_or_of_lt (show x < 2 ^ 8 from hx) a
  rw [Nat.shiftLeft_eq, show (2 : Nat) ^ 8 = 256 by decide] at h
  have h3 := u64_or_nat (a * 256) x h1 h2
  rw [Int.natCast_mul] at h3
  rw [h]
  exact h3

theorem nth_eq (bs : List Nat) (j : Nat) (h : j < bs.length) : nth bs j = bs[j] := by simp [nth, h]
theorem number_ok (a : Option Addr) (n c : Nat) (bs : List Nat) (w : World) (h : Rd w a n c (vb bs)) (hb : AllB bs) (hn : n ≤ 8) :
    Calls Try.prog 17 #[.slice a n c] w fun e w' => e = .returned (.int .u64 (numN bs : Nat)) ∧ w = w' := by
  have hl : bs.length = n := by have := h.len; rwa [vb_len] at this
  have HL := hid hl
  clear hl
  go_enter Try.func17, Try.ntmps17
  go_wp2_with fail
  go_loop [2, 7] (fun z k => ∃ j : Nat, k = .int .i64 (j : Int) ∧ j ≤ n ∧ z = .int .u64 (numN (bs.take j) : Nat)) (fun _ k => n - (intOf k).toNat)
  case atStart => exact ⟨0, rfl, Nat.zero_le _, rfl⟩
  case round =>
    obtain ⟨j, rfl, hj, rfl⟩ := hrel
    by_cases hlt : j < n
    · obtain ⟨b, off, rfl, hbl, hcell⟩ := h.cell j hlt
      have hx : nth bs j < 256 := by
        rw [nth_eq bs j (by rw [HL.out]; exact hlt)]
        exact hb _ (List.getElem_mem _)
      have e1 : bs.take (j + 1) = bs.take j ++ [nth bs j] := by
        rw [List.take_add_one, List.getElem?_eq_getElem (by rw [HL.out]; exact hlt), nth_eq bs j (by rw [HL.out]; exact hlt)]; rfl
      have e2 : numN (bs.take (j + 1)) = numN (bs.take j) * 256 + nth bs j := by rw [e1, numN_snoc]
      have e3 := numN_lt (bs.take (j + 1)) (fun y hy => hb y (List.mem_of_mem_take hy))
      rw [List.length_take, HL.out, Nat.min_eq_left (by omega)] at e3
      have e4 : (256 : Nat) ^ (j + 1) ≤ 256 ^ 8 := Nat.pow_le_pow_right (by decide) (by omega)
      have e5 : numN (bs.take (j + 1)) < 18446744073709551616 := Nat.lt_of_lt_of_le e3 e4
      rw [e2] at e5
      have E2 := hid e2
      clear e1 e2 e3 e4
      generalize numN (bs.take j) = z at *
      generalize nth bs j = x at *
      have e6 : IntKind.u64.wrap ((z : Int) * 256) = (z : Int) * 256 := by rw [IntKind.wrap_u64]; omega
      have e7 := or_shift z x hx e5
      have t1 : (j : Int) < (n : Int) := by omega
      have e8 : IntKind.u64.wrap (x : Int) = (x : Int) := by rw [IntKind.wrap_u64]; omega
      clear e5 hx
      go_wp2_with fail
      go_round
      case rel => exact ⟨j + 1, by go_num, by omega, by rw [E2.out]; first | rfl | exact congrArg _ e7⟩
      case measure => simp [intOf]; omega
    · obtain rfl : n = j := by omega
      have t1 : ¬ (n : Int) < (n : Int) := by omega
      have e1 : bs.take n = bs := List.take_of_length_le (by rw [HL.out]; exact Nat.le_refl _)
      rw [e1]
      clear hlt e1
      go_wp2_with fail
      go_ret
      exact ⟨rfl, rfl⟩
end Go.Proofs.Ytdeeilahefnicaa
