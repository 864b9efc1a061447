/- Passes: small functions: in, cmp.Compare, cmp.Or, bits.Len. -/
import Derived.Test.YtfbchmihkndfaaaProg
import Derived.Test.YtfbchmihkndfaaaDue2
import Derived.Test.YtfbchmihkndfaaaDue3
namespace Go.Proofs.Ytfbchmihkndfaaa
set_option linter.unusedVariables false
open Go.RowKit

theorem in_yes (n low high : Int) (w : World) (h1 : low ≤ n) (h2 : n ≤ high) : Calls Try.prog 12 #[.int .i64 n, .int .i64 low, .int .i64 high] w fun e w' => e = .returned (.bool true) ∧ w' = w := by
  have d1 : decide (low ≤ n) = true := decide_eq_true h1
  have d2 : decide (n ≤ high) = true := decide_eq_true h2
  go_enter Try.func12, Try.ntmps12
  go_wp2
  go_ret
  exact ⟨rfl, rfl⟩
/-- cmp.Compare -/
def cmpI (a b : Int) : Int := if a < b then -1 else if b < a then 1 else 0
theorem nan_no (a : Int) (w : World) : Calls Try.prog 52 #[.int .i64 a] w fun e w' => e = .returned (.bool false) ∧ w' = w := by
  have d1 : (a != a) = false := by simp
  go_enter Try.func52, Try.ntmps52
  go_wp2
  go_ret
  exact ⟨rfl, rfl⟩
theorem cmp_ok (a b : Int) (w : World) : Calls Try.prog 36 #[.int .i64 a, .int .i64 b] w fun e w' => e = .returned (.int .i64 (cmpI a b)) ∧ w' = w := by
  have hn := nan_no
  have hc : Hid (cmpI a b = if a < b then -1 else if b < a then 1 else 0) := rfl
  generalize cmpI a b = c at *
  by_cases h1 : a < b
  · rw [if_pos h1] at hc
    have d1 : decide (a < b) = true := decide_eq_true h1
    clear h1
    go_enter Try.func36, Try.ntmps36
    go_wp2_with ((go_at_call 52; refine (hn _ _).mono ?_; rintro e w' ⟨rfl, rfl⟩))
    go_ret
    exact ⟨by rw [hc.out]; rfl, rfl⟩
  · rw [if_neg h1] at hc
    have d1 : decide (a < b) = false := decide_eq_false h1
    by_cases h2 : b < a
    · rw [if_pos h2] at hc
      have d2 : decide (b < a) = true := decide_eq_true h2
      clear h1 h2
      go_enter Try.func36, Try.ntmps36
      go_wp2_with ((go_at_call 52; refine (hn _ _).mono ?_; rintro e w' ⟨rfl, rfl⟩))
      go_ret
      exact ⟨by rw [hc.out]; rfl, rfl⟩
    · rw [if_neg h2] at hc
      have d2 : decide (b < a) = false := decide_eq_false h2
      clear h1 h2
      go_enter Try.func36, Try.ntmps36
      go_wp2_with ((go_at_call 52; refine (hn _ _).mono ?_; rintro e w' ⟨rfl, rfl⟩))
      go_ret
      exact ⟨by rw [hc.out]; rfl, rfl⟩
/-- cmp.Or of two -/
def orI (a b : Int) : Int := if a ≠ 0 then a else b
theorem or_ok (x y : Int) (b : Nat) (w : World) (h : w.heap[b]? = some (.cells #[.int .i64 x, .int .i64 y] 3)) : Calls Try.prog 35 #[.slice (some ⟨b, 0, none⟩) 2 2] w fun e w' => e = .returned (.int .i64 (orI x y)) ∧ w' = w := by
  have c0 : w.cell? ⟨b, 0, none⟩ = some (.int .i64 x) := by rw [cell_of_row _ _ _ _ _ _ h]; rfl
  have c1 : w.cell? ⟨b, 1, none⟩ = some (.int .i64 y) := by rw [cell_of_row _ _ _ _ _ _ h]; rfl
  have ho : Hid (orI x y = if x ≠ 0 then x else y) := rfl
  generalize orI x y = o at *
  clear h
  by_cases h1 : x = 0
  · subst h1
    rw [if_neg (by decide)] at ho
    by_cases h2 : y = 0
    · subst h2
      go_enter Try.func35, Try.ntmps35
      go_wp2_with fail
      refine wp_loop_rounds 3 ?_
      iterate 3 (rw [rounds_succ]; go_wp2_with fail)
      go_ret
      exact ⟨by rw [ho.out]; rfl, rfl⟩
    · have d2 : (y != 0) = true := by rw [bne_iff_ne]; exact h2
      clear h2
      go_enter Try.func35, Try.ntmps35
      go_wp2_with fail
      refine wp_loop_rounds 2 ?_
      iterate 2 (rw [rounds_succ]; go_wp2_with fail)
      go_ret
      exact ⟨by rw [ho.out]; rfl, rfl⟩
  · rw [if_pos h1] at ho
    have d1 : (x != 0) = true := by rw [bne_iff_ne]; exact h1
    clear h1
    go_enter Try.func35, Try.ntmps35
    go_wp2_with fail
    refine wp_loop_rounds 1 ?_
    iterate 1 (rw [rounds_succ]; go_wp2_with fail)
    go_ret
    exact ⟨by rw [ho.out]; rfl, rfl⟩
end Go.Proofs.Ytfbchmihkndfaaa
/- Passes: bits.Len of small numbers. -/
namespace Go.Proofs.Ytfbchmihkndfaaa
set_option linter.unusedVariables false
open Go.RowKit
set_option maxRecDepth 100000 in
theorem len64_any (n : Nat) (w : World) (hn : n ≤ 9) : Calls Try.prog 51 #[.int .u64 (n : Int)] w fun e w' => ∃ r : Int, e = .returned (.int .i64 r) ∧ w' = w := by
  rcases (show n = 0 ∨ n = 1 ∨ n = 2 ∨ n = 3 ∨ n = 4 ∨ n = 5 ∨ n = 6 ∨ n = 7 ∨ n = 8 ∨ n = 9 by omega) with rfl | rfl | rfl | rfl | rfl | rfl | rfl | rfl | rfl | rfl
  all_goals
    go_enter Try.func51, Try.ntmps51
    go_wp2_with fail

    go_ret
    exact ⟨_, rfl, rfl⟩
theorem len_any (n : Nat) (w : World) (hn : n ≤ 9) : Calls Try.prog 34 #[.int .u64 (n : Int)] w fun e w' => ∃ r : Int, e = .returned (.int .i64 r) ∧ w' = w := by
  have h := len64_any n w hn
  go_enter Try.func34, Try.ntmps34
  go_wp2_with fail
  refine h.mono ?_
  rintro e w' ⟨r, rfl, hw⟩
  rw [hw]
  clear hw w'
  go_wp2_with fail
  go_ret
  exact ⟨_, rfl, rfl⟩
end Go.Proofs.Ytfbchmihkndfaaa
/- picked: which of n things a raw number speaks of. -/
namespace Go.Proofs.Ytfbchmihkndfaaa
set_option linter.unusedVariables false
open Go.RowKit

/-- picked, as a natural number -/
def pk (n : Int) (of : Nat) : Nat := (if n < 0 then (-(n + 1)) % (of : Int) else n % (of : Int)).toNat
theorem pk_lt (n : Int) (of : Nat) (h : 0 < of) : pk n of < of := by
  unfold pk
  have h1 : ∀ x : Int, 0 ≤ x % (of : Int) ∧ x % (of : Int) < (of : Int) := fun x => ⟨Int.emod_nonneg _ (by omega), Int.emod_lt_of_pos _ (by omega)⟩
  split
  · have := h1 (-(n + 1)); omega
  · have := h1 n; omega

theorem pick_st (n of : Int) (w : World) (h0 : -9223372036854775808 ≤ n) (h1 : n ≤ 9223372036854775807) (h2 : 0 < of) (h3 : of ≤ 9223372036854775807) :
    Calls Try.prog 5 #[.int .i64 n, .int .i64 of] w fun e w' => e = .returned (.int .i64 ((pk n of.toNat : Nat) : Int)) ∧ w' = w := by
  obtain ⟨m, rfl⟩ := Int.eq_ofNat_of_zero_le (by omega : 0 ≤ of)
  have hb : ∀ x : Int, 0 ≤ x % (m : Int) ∧ x % (m : Int) < (m : Int) := fun x => ⟨Int.emod_nonneg _ (by omega), Int.emod_lt_of_pos _ h2⟩
  by_cases hn : n < 0
  · have e : ((pk n m : Nat) : Int) = (-(n + 1)) % (m : Int) := by
      have := hb (-(n + 1))
      unfold pk
      rw [if_pos hn]; omega
    have e2 : -((n + 1).tmod (m : Int)) = (-(n + 1)) % (m : Int) := by rw [← Int.neg_tmod, Int.tmod_eq_emod_of_nonneg (by omega)]
    have He := hid (e2.trans e.symm)
    clear e e2
    have hb1 := hb (-(n + 1))
    go_enter Try.func5, Try.ntmps5
    go_wp2
    go_ret
    refine ⟨?_, rfl⟩
    rw [Int.toNat_natCast, ← He.out]
    rfl
  · have e : ((pk n m : Nat) : Int) = n % (m : Int) := by
      have := hb n
      unfold pk
      rw [if_neg hn]; omega
    have He := hid e
    clear e
    go_enter Try.func5, Try.ntmps5
    go_wp2
    go_ret
    refine ⟨?_, rfl⟩
    try rw [Int.toNat_natCast]
    rw [He.out]
    rfl
theorem pick_any (n of : Int) (w : World) (h0 : -9223372036854775808 ≤ n) (h1 : n ≤ 9223372036854775807) (h2 : 0 < of) (h3 : of ≤ 9223372036854775807) :
    Calls Try.prog 5 #[.int .i64 n, .int .i64 of] w fun e w' => ∃ r : Nat, e = .returned (.int .i64 (r : Int)) ∧ r < of.toNat ∧ Hid (r = pk n of.toNat) ∧ w = w' :=
  (pick_st n of w h0 h1 h2 h3).mono fun e w' ⟨he, hw⟩ => ⟨_, he, pk_lt _ _ (by omega), rfl, hw.symm⟩
end Go.Proofs.Ytfbchmihkndfaaa
