/- Code: the walk. -/
import Derived.Test.YtgacnbildligjaaDoorPlaces
namespace Go.Proofs.YtgacnbildligjaaDoor
set_option linter.unusedVariables false
open Go.RowKit

theorem rank_le : ∀ q, q ≤ 39 → rank q ≤ 32 := by decide
theorem shr1 (n : Nat) : ((n : Int) / 2) = ((n / 2 : Nat) : Int) := by omega
theorem rank_succ (p : Nat) : rank (p + 1) = rank p + (if isFree p then 1 else 0) := rfl
theorem shr_succ (n r : Nat) : (n >>> r) / 2 = n >>> (r + 1) := by rw [Nat.shiftRight_succ]
theorem pow6 (j : Nat) (h : j < 6) : 2 ^ (j + 1) < 65 ∧ 2 ^ j < 39 := by
  have : ∀ j, j < 6 → 2 ^ (j + 1) < 65 ∧ 2 ^ j < 39 := by decide
  exact this j h

theorem shl_small (b p : Nat) (h : b <<< p < 2 ^ 39) : wrap64 ((b : Int) * 2 ^ p) = ((b <<< p : Nat) : Int) := by
  rw [Nat.shiftLeft_eq] at h ⊢
  have e : ((b * 2 ^ p : Nat) : Int) = (b : Int) * 2 ^ p := by simp
  rw [← e]
  generalize b * 2 ^ p = x at *
  unfold wrap64
  omega

set_option maxRecDepth 100000 in
theorem code_ok (n : Nat) (hn : n < 2 ^ 32) (w : World) (hT : TabAt w) :
    Calls Tryd.prog 6 #[.int .i64 n] w fun e w' => ∃ (c : Nat), e = .returned (.tuple #[.int .i64 c, .int .i64 0]) ∧ IsCode c n ∧ w = w' := by
  go_enter Tryd.func6, Tryd.ntmps6
  go_wp2
  go_loop [0, 4, 15] (fun n' c' p' => ∃ (p r c : Nat), p' = .int .i64 p ∧ n' = .int .i64 r ∧ c' = .int .i64 c ∧ p ≤ 39 ∧ r ≤ n ∧ c < 2 ^ 39 ∧ Hid (c = cw n p) ∧ Hid (r = n >>> rank p)) (fun _ _ p' => 39 - (intOf p').toNat)
  case atStart => exact ⟨0, n, 0, rfl, rfl, rfl, by decide, Nat.le_refl _, by decide, rfl, rfl⟩
  case round =>
    obtain ⟨p, r, c, rfl, rfl, rfl, hp, hr, hc, H1, H2⟩ := hrel
    by_cases h39 : p < 39
    · have t1 : ((p : Int) < 39) := by omega
      go_wp2_with fail
      refine (free_ok p w h39).mono ?_
      rintro e w' ⟨rfl, rfl⟩
      cases hf : isFree p with
      | false =>
        go_wp2_with fail
        go_round
        case rel =>
          refine ⟨p + 1, r, c, by simp, rfl, rfl, by omega, hr, hc, ?_, ?_⟩
          · have := H1.out; simp only [Hid, cw, hf]; exact this
          · have := H2.out; simp only [Hid, rank_succ, hf]; exact this
        case measure => simp [intOf]; omega
      | true =>
        have e1 : bits .and .i64 (r : Int) 1 = ((r &&& 1 : Nat) : Int) := and_i64_1 r (by omega)
        have b1 : r &&& 1 ≤ 1 := Nat.and_le_right
        generalize hb : r &&& 1 = bt at *
        have b2 : bt <<< p < 2 ^ 39 := by
          rw [Nat.shiftLeft_eq]
          have : 2 ^ p ≤ 2 ^ 38 := Nat.pow_le_pow_right (by decide) (by omega)
          have : bt * 2 ^ p ≤ 1 * 2 ^ p := Nat.mul_le_mul_right _ b1
          omega
        have e2 : bits .or .i64 (c : Int) ((bt <<< p : Nat) : Int) = ((c ||| bt <<< p : Nat) : Int) := i64_or_nat c _ (by omega) (by omega)
        have b3 : c ||| bt <<< p < 2 ^ 39 := Nat.or_lt_two_pow hc b2
        have b4 : wrap64 ((bt : Int) * 2 ^ p) = ((bt <<< p : Nat) : Int) := shl_small bt p b2
        generalize hy : bt <<< p = y at *
        go_wp2_with fail
        go_round
        case rel =>
          refine ⟨p + 1, r / 2, c ||| y, by simp, by simp, rfl, by omega, by omega, b3, ?_, ?_⟩
          · have h1 := H1.out
            have h2 := H2.out
            simp only [Hid, cw, hf, if_true]
            rw [← h1, ← h2, hb, hy]
          · have h2 := H2.out
            simp only [Hid, rank_succ, hf, if_true]
            rw [h2, shr_succ]
        case measure => simp [intOf]; omega
    · have hpe : p = 39 := by omega
      subst hpe
      have h1 := H1.out
      subst h1
      have hS := xs_lt (cw n 39) 39 6 (by decide)
      have hs0 := half_start n
      clear H1 H2
      generalize cw n 39 = c at *
      go_wp2_with fail
      refine (places_ok c hc w hT).mono ?_
      rintro e w' ⟨s, rfl, hs, Hs, rfl⟩
      rw [← Hs.out] at hs0
      clear Hs hS
      generalize (!(od c 39)) = ev at *
      have hs0 := hid hs0
      go_wp2_with fail
      go_loop [4, 7, 8] (fun c' e' p' => ∃ (c1 j : Nat) (b : Bool), c' = .int .i64 c1 ∧ e' = .bool b ∧ p' = .int .i64 ((2 ^ j : Nat) : Int) ∧ j ≤ 6 ∧ Hid (Half s n c1 b j)) (fun _ _ p' => 64 - (intOf p').toNat)
      case atStart => exact ⟨c, 0, ev, rfl, rfl, rfl, by decide, hs0⟩
      case round =>
        obtain ⟨c1, j, b, rfl, rfl, rfl, hj, HH⟩ := hrel
        have hc1 := HH.out.lt
        by_cases hj6 : j < 6
        · obtain ⟨q1, q2⟩ := pow6 j hj6
          have q3 := and_pow s j
          have q4 : (2 : Nat) ^ (j + 1) = 2 ^ j * 2 := Nat.pow_succ 2 j
          have q5 : 2 ^ 2 ^ j < 2 ^ 39 := Nat.pow_lt_pow_right (by decide) q2
          have q6 : (1 : Nat) <<< 2 ^ j = 2 ^ 2 ^ j := by rw [Nat.shiftLeft_eq, Nat.one_mul]
          have b4 : wrap64 (((1 : Nat) : Int) * 2 ^ (2 ^ j)) = ((1 <<< 2 ^ j : Nat) : Int) := shl_small 1 (2 ^ j) (by rw [q6]; exact q5)
          rw [q6, Int.natCast_one, Int.one_mul] at b4
          have e2 : bits .or .i64 (c1 : Int) ((2 ^ 2 ^ j : Nat) : Int) = ((c1 ||| 2 ^ 2 ^ j : Nat) : Int) := i64_or_nat c1 _ (by omega) (by omega)
          have e1 : bits .and .i64 (s : Int) ((2 ^ j : Nat) : Int) = ((s &&& 2 ^ j : Nat) : Int) := i64_and_nat s _ (by omega) (by omega)
          have hset : s.testBit j = true → Half s n (c1 ||| 2 ^ 2 ^ j) (!b) (j + 1) := half_set HH.out hj6
          have hskip : s.testBit j = false → Half s n c1 b (j + 1) := half_skip HH.out
          have q7 : 0 < 2 ^ j := Nat.two_pow_pos j
          have hset := hid hset
          have hskip := hid hskip
          rw [q4] at q1
          generalize hpp : 2 ^ j = pp at *
          generalize 2 ^ pp = cc at *
          by_cases hb : s.testBit j = true
          · have q8 := q3.2 hb
            have q9 : (((s &&& pp : Nat) : Int) != 0) = true := by simp; omega
            have hset := hset.out hb
            clear q3 hskip
            generalize s &&& pp = sp at *
            generalize c1 ||| cc = c2 at *
            have t1 : (pp : Int) < 39 := by omega
            go_wp2_with fail
            go_round
            case rel => exact ⟨c2, j + 1, !b, rfl, rfl, by rw [q4]; simp, by omega, hset⟩
            case measure => simp [intOf]; omega
          · have q8 : s &&& pp = 0 := by
              apply Decidable.byContradiction
              intro h
              exact hb (q3.1 h)
            have hb' : s.testBit j = false := by cases h : s.testBit j <;> simp_all
            have hskip := hskip.out hb'
            clear q3 hset
            rw [q8] at e1
            have t1 : (pp : Int) < 39 := by omega
            go_wp2_with fail
            go_round
            case rel => exact ⟨c1, j + 1, b, rfl, rfl, by rw [q4]; simp, by omega, hskip⟩
            case measure => simp [intOf]; omega
        · have : j = 6 := by omega
          subst this
          have e0 : ((2 ^ 6 : Nat) : Int) = 64 := by decide
          rw [e0]
          cases b with
          | true =>
            have hI := half_even HH.out hs
            go_wp2_with fail
            go_ret2
            exact ⟨c1, rfl, hI, rfl⟩
          | false =>
            have hI := half_odd HH.out hs
            have e2 : bits .or .i64 (c1 : Int) 1 = ((c1 ||| 1 : Nat) : Int) := i64_or_nat c1 1 (by omega) (by decide)
            generalize c1 ||| 1 = c2 at *
            go_wp2_with fail
            go_ret2
            exact ⟨c2, rfl, hI, rfl⟩
end Go.Proofs.YtgacnbildligjaaDoor
