/- The walks of Mul, raised, Div, Power and Log: each returns what Gf says, and leaves the world alone. -/
import Derived.Test.YtendgihkjibbaaaGf
import Derived.Test.YtendgihkjibbaaaBits
import Derived.Test.YtendgihkjibbaaaProg
import Derived.Test.YtendgihkjibbaaaArith
import Derived.WalkKit
namespace Go.Proofs.Ytendgihkjibbaaa
set_option linter.unusedVariables false
open Go.RowKit

theorem and1 (b : Nat) (hb : b < 256) : bits .and .u8 (b : Int) 1 = ((b % 2 : Nat) : Int) := by
  have h := u8_and_nat b 1 hb (by omega)
  rw [nat_mask1] at h
  exact h
theorem ret_u8 {a b : Nat} (h : a = b) : Ending.returned (.int .u8 (a : Int)) = .returned (.int .u8 (b : Int)) := by rw [h]
theorem v_u8 {a b : Nat} (h : a = b) : Value.int .u8 (a : Int) = .int .u8 (b : Int) := by rw [h]

/-- a step of the loop of Mul -/
theorem mul_step {n a b p : Nat} (hb : b < 2 ^ n) (h0 : b ≠ 0) : ∃ m, b / 2 < 2 ^ m ∧ Gf.mulF n a b p = Gf.mulF m (Gf.xt a) (b / 2) (if b % 2 = 1 then p ^^^ a else p) := by
  cases n with
  | zero => simp at hb; omega
  | succ n => exact ⟨n, by rw [Nat.pow_succ] at hb; omega, rfl⟩

theorem mul_walk (a b : Nat) (w : World) (ha : a < 256) (hb : b < 256) :
    Calls Try.prog 22 #[.int .u8 a, .int .u8 b] w fun e w' => e = .returned (.int .u8 ((Gf.mul a b : Nat) : Int)) ∧ w = w' := by
  go_enter Try.func22, Try.ntmps22
  go_wp2
  go_loop [0, 1, 5] (fun a' b' p' => ∃ n a1 b1 p1 : Nat, b1 < 2 ^ n ∧ a1 < 256 ∧ b1 < 256 ∧ p1 < 256 ∧ a' = .int .u8 a1 ∧ b' = .int .u8 b1 ∧ p' = .int .u8 p1 ∧ Hid (Gf.mul a b = Gf.mulF n a1 b1 p1)) (fun _ b' _ => (intOf b').toNat)
  case atStart => exact ⟨8, a, b, 0, hb, ha, hb, by omega, rfl, rfl, rfl, rfl⟩
  case round =>
    obtain ⟨n, a1, b1, p1, hn, ha1, hb1, hp1, rfl, rfl, rfl, H⟩ := hrel
    have e1 := and1 b1 hb1
    have e2 := u8_xor_nat p1 a1 hp1 ha1
    have e3 : bits .xor .u8 ((a1 : Int) * 2 % 256) 135 = ((a1 * 2 % 256 ^^^ 135 : Nat) : Int) := u8_xor_nat (a1 * 2 % 256) 135 (by omega) (by omega)
    by_cases h0 : b1 = 0
    · subst h0
      clear e1 e2 e3
      go_wp2
      go_ret
      exact ⟨ret_u8 (by rw [H.out, Gf.mulF_zero]), rfl⟩
    · have hne : ((b1 : Int) != 0) = true := by simp; omega
      obtain ⟨m, hm, hs⟩ := mul_step (a := a1) (p := p1) hn h0
      have H' : Hid (Gf.mul a b = Gf.mulF m (Gf.xt a1) (b1 / 2) (if b1 % 2 = 1 then p1 ^^^ a1 else p1)) := H.out.trans hs
      clear hs H
      have hx := Gf.xt_lt a1
      have hp := Gf.xor_lt hp1 ha1
      by_cases h1 : b1 % 2 = 1
      all_goals by_cases h7 : a1 / 128 = 1
      · have t1 : (((b1 % 2 : Nat) : Int) == 1) = true := by simp; omega
        have t2 : ((a1 : Int) / 128 == 1) = true := by simp; omega
        go_wp2
        go_round
        case rel => exact ⟨m, Gf.xt a1, b1 / 2, p1 ^^^ a1, hm, hx, by omega, hp, v_u8 (by simp [Gf.xt, h7] <;> omega), rfl, rfl, by simpa [Hid, h1] using H'⟩
        case measure => simp [intOf]; omega
      · have t1 : (((b1 % 2 : Nat) : Int) == 1) = true := by simp; omega
        have t2 : ((a1 : Int) / 128 == 1) = false := by simp; omega
        go_wp2
        go_round
        case rel => exact ⟨m, Gf.xt a1, b1 / 2, p1 ^^^ a1, hm, hx, by omega, hp, v_u8 (by simp [Gf.xt, h7] <;> omega), rfl, rfl, by simpa [Hid, h1] using H'⟩
        case measure => simp [intOf]; omega
      · have t1 : (((b1 % 2 : Nat) : Int) == 1) = false := by simp; omega
        have t2 : ((a1 : Int) / 128 == 1) = true := by simp; omega
        go_wp2
        go_round
        case rel => exact ⟨m, Gf.xt a1, b1 / 2, p1, hm, hx, by omega, hp1, v_u8 (by simp [Gf.xt, h7] <;> omega), rfl, rfl, by simpa [Hid, h1] using H'⟩
        case measure => simp [intOf]; omega
      · have t1 : (((b1 % 2 : Nat) : Int) == 1) = false := by simp; omega
        have t2 : ((a1 : Int) / 128 == 1) = false := by simp; omega
        go_wp2
        go_round
        case rel => exact ⟨m, Gf.xt a1, b1 / 2, p1, hm, hx, by omega, hp1, v_u8 (by simp [Gf.xt, h7] <;> omega), rfl, rfl, by simpa [Hid, h1] using H'⟩
        case measure => simp [intOf]; omega

theorem mul_any (x y : Int) (w : World) (h0 : 0 ≤ x) (h1 : x < 256) (h2 : 0 ≤ y) (h3 : y < 256) :
    Calls Try.prog 22 #[.int .u8 x, .int .u8 y] w fun e w' => ∃ r : Nat, e = .returned (.int .u8 r) ∧ r < 256 ∧ Hid (r = Gf.mul x.toNat y.toNat) ∧ w = w' := by
  obtain ⟨a, rfl⟩ := Int.eq_ofNat_of_zero_le h0
  obtain ⟨b, rfl⟩ := Int.eq_ofNat_of_zero_le h2
  exact (mul_walk a b w (by omega) (by omega)).mono fun e w' ⟨he, hw⟩ => ⟨Gf.mul a b, he, Gf.mul_lt _ _ (by omega), rfl, hw⟩

theorem raised_step {f a n p : Nat} (hn : n < 2 ^ f) (h0 : n ≠ 0) : ∃ m, n / 2 < 2 ^ m ∧ Gf.raisedF f a n p = Gf.raisedF m (Gf.mul a a) (n / 2) (if n % 2 = 1 then Gf.mul p a else p) := by
  cases f with
  | zero => simp at hn; omega
  | succ f => exact ⟨f, by rw [Nat.pow_succ] at hn; omega, rfl⟩

theorem and1_i64 (n : Nat) (h : n < 256) : bits .and .i64 (n : Int) 1 = ((n % 2 : Nat) : Int) := by
  have h := i64_and_nat n 1 (by omega) (by omega)
  rw [nat_mask1] at h
  exact h

theorem raised_walk (a n : Nat) (w : World) (ha : a < 256) (hn : n < 256) :
    Calls Try.prog 23 #[.int .u8 a, .int .i64 n] w fun e w' => e = .returned (.int .u8 ((Gf.raised a n : Nat) : Int)) ∧ w = w' := by
  go_enter Try.func23, Try.ntmps23
  go_wp2
  go_loop [0, 1, 5] (fun a' n' p' => ∃ f a1 n1 p1 : Nat, n1 < 2 ^ f ∧ a1 < 256 ∧ n1 < 256 ∧ p1 < 256 ∧ a' = .int .u8 a1 ∧ n' = .int .i64 n1 ∧ p' = .int .u8 p1 ∧ Hid (Gf.raised a n = Gf.raisedF f a1 n1 p1)) (fun _ n' _ => (intOf n').toNat)
  case atStart => exact ⟨8, a, n, 1, hn, ha, hn, by omega, rfl, rfl, rfl, rfl⟩
  case round =>
    obtain ⟨f, a1, n1, p1, hf, ha1, hn1, hp1, rfl, rfl, rfl, H⟩ := hrel
    have e1 := and1_i64 n1 hn1
    by_cases h0 : n1 = 0
    · subst h0
      clear e1
      go_wp2
      go_ret
      exact ⟨ret_u8 (by rw [H.out, Gf.raisedF_zero]), rfl⟩
    · have hgt : (0 : Int) < n1 := by omega
      obtain ⟨m, hm, hs⟩ := raised_step (a := a1) (p := p1) hf h0
      have H' : Hid (Gf.raised a n = Gf.raisedF m (Gf.mul a1 a1) (n1 / 2) (if n1 % 2 = 1 then Gf.mul p1 a1 else p1)) := H.out.trans hs
      clear hs H
      by_cases h1 : n1 % 2 = 1
      · have t1 : (((n1 % 2 : Nat) : Int) == 1) = true := by simp; omega
        go_wp2_with fail
        refine (mul_any _ _ _ (by omega) (by omega) (by omega) (by omega)).mono ?_
        rintro e w' ⟨r1, rfl, hr1, H1, rfl⟩
        go_wp2_with fail
        refine (mul_any _ _ _ (by omega) (by omega) (by omega) (by omega)).mono ?_
        rintro e w' ⟨r2, rfl, hr2, H2, rfl⟩
        go_wp2
        go_round
        case rel => exact ⟨m, r2, n1 / 2, r1, hm, hr2, by omega, hr1, rfl, rfl, rfl, by
          have h' := H'.out; have e1 := H1.out; have e2 := H2.out; simp at e1 e2; rw [if_pos h1, ← e1, ← e2] at h'; exact h'⟩
        case measure => simp [intOf]; omega
      · have t1 : (((n1 % 2 : Nat) : Int) == 1) = false := by simp; omega
        go_wp2_with fail
        refine (mul_any _ _ _ (by omega) (by omega) (by omega) (by omega)).mono ?_
        rintro e w' ⟨r2, rfl, hr2, H2, rfl⟩
        go_wp2
        go_round
        case rel => exact ⟨m, r2, n1 / 2, p1, hm, hr2, by omega, hp1, rfl, rfl, rfl, by
          have h' := H'.out; have e2 := H2.out; simp at e2; rw [if_neg h1, ← e2] at h'; exact h'⟩
        case measure => simp [intOf]; omega

theorem raised_any (x y : Int) (w : World) (h0 : 0 ≤ x) (h1 : x < 256) (h2 : 0 ≤ y) (h3 : y < 256) :
    Calls Try.prog 23 #[.int .u8 x, .int .i64 y] w fun e w' => ∃ r : Nat, e = .returned (.int .u8 r) ∧ r < 256 ∧ Hid (r = Gf.raised x.toNat y.toNat) ∧ w = w' := by
  obtain ⟨a, rfl⟩ := Int.eq_ofNat_of_zero_le h0
  obtain ⟨b, rfl⟩ := Int.eq_ofNat_of_zero_le h2
  exact (raised_walk a b w (by omega) (by omega)).mono fun e w' ⟨he, hw⟩ => ⟨Gf.raised a b, he, Gf.raised_lt _ _ (by omega), rfl, hw⟩

theorem div_zero (x y : Int) (w : World) (h0 : 0 ≤ x) (h1 : x < 256) (h2 : y = 0) :
    Calls Try.prog 25 #[.int .u8 x, .int .u8 y] w fun e w' => e = .returned (.tuple #[.int .u8 0, .bool false]) ∧ w = w' := by
  subst h2
  go_enter Try.func25, Try.ntmps25
  go_wp2
  go_ret2
  exact ⟨rfl, rfl⟩

theorem div_any (x y : Int) (w : World) (h0 : 0 ≤ x) (h1 : x < 256) (h2 : 0 < y) (h3 : y < 256) :
    Calls Try.prog 25 #[.int .u8 x, .int .u8 y] w fun e w' => ∃ r : Nat, e = .returned (.tuple #[.int .u8 r, .bool true]) ∧ r < 256 ∧ Hid (r = Gf.mul x.toNat (Gf.inv y.toNat)) ∧ w = w' := by
  have t : (y == 0) = false := by simp; omega
  go_enter Try.func25, Try.ntmps25
  go_wp2_with fail
  refine (raised_any _ _ _ (by omega) (by omega) (by omega) (by omega)).mono ?_
  rintro e w' ⟨r1, rfl, hr1, H1, rfl⟩
  go_wp2_with fail
  refine (mul_any _ _ _ (by omega) (by omega) (by omega) (by omega)).mono ?_
  rintro e w' ⟨r2, rfl, hr2, H2, rfl⟩
  go_wp2
  go_ret2
  exact ⟨r2, rfl, hr2, by have e1 := H1.out; have e2 := H2.out; simp at e1 e2; rw [e1] at e2; exact e2, rfl⟩

theorem power_any (x : Int) (w : World) (h0 : -1000000 ≤ x) (h1 : x ≤ 1000000) :
    Calls Try.prog 14 #[.int .i64 x] w fun e w' => ∃ r : Nat, e = .returned (.int .u8 r) ∧ r < 256 ∧ Hid (r = Gf.gp (x % 255).toNat) ∧ w = w' := by
  obtain ⟨hb1, hb2, hb3, _, _⟩ := tmod_facts x 255 (by omega)
  have He : Hid (x.tmod 255 % 255 = x % 255) := hb3
  clear hb3
  go_enter Try.func14, Try.ntmps14
  go_wp2_with fail
  refine (raised_any _ _ _ (by omega) (by omega) (by omega) (by omega)).mono ?_
  rintro e w' ⟨r1, rfl, hr1, H1, rfl⟩
  go_wp2
  go_ret
  refine ⟨r1, rfl, hr1, ?_, rfl⟩
  have h := H1.out
  simp at h
  show r1 = _
  have h3 := He.out
  have h4 : 0 ≤ x % 255 := by omega
  have h5 : x % 255 < 255 := by omega
  rw [h, h3]
  exact Gf.raised_gp _ (by omega)


theorem mul_st (a b : Nat) (w : World) (ha : a < 256) (hb : b < 256) :
    Calls Try.prog 22 #[.int .u8 a, .int .u8 b] w fun e w' => e = .returned (.int .u8 ((Gf.mul a b : Nat) : Int)) ∧ w' = w :=
  (mul_walk a b w ha hb).mono fun _ _ h => ⟨h.1, h.2.symm⟩
theorem div_st (a b : Nat) (w : World) (ha : a < 256) (hb : b < 256) (h : b ≠ 0) :
    Calls Try.prog 25 #[.int .u8 a, .int .u8 b] w fun e w' => e = .returned (.tuple #[.int .u8 ((Gf.mul a (Gf.inv b) : Nat) : Int), .bool true]) ∧ w' = w :=
  (div_any a b w (by omega) (by omega) (by omega) (by omega)).mono fun e w' ⟨r, he, _, hr, hw⟩ => by
    have := hr.out
    simp at this
    subst this
    exact ⟨he, hw.symm⟩
theorem pow_st (x : Int) (n : Nat) (w : World) (h0 : -1000000 ≤ x) (h1 : x ≤ 1000000) (hn : (x % 255).toNat = n) :
    Calls Try.prog 14 #[.int .i64 x] w fun e w' => e = .returned (.int .u8 ((Gf.gp n : Nat) : Int)) ∧ w' = w :=
  (power_any x w h0 h1).mono fun e w' ⟨r, he, _, hr, hw⟩ => by
    have h := hr.out
    rw [hn] at h
    subst h
    exact ⟨he, hw.symm⟩
end Go.Proofs.Ytendgihkjibbaaa
