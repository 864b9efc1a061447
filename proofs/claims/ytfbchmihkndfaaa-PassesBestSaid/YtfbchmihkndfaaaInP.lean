/- Passes: small functions: in, cmp.Compare, cmp.Or, bits.Len. -/
import Derived.Test.YtfbchmihkndfaaaProg
import Derived.Test.YtfbchmihkndfaaaArith
import Derived.Test.YtfbchmihkndfaaaRow
import Derived.Test.YtfbchmihkndfaaaOpenInts
namespace Go.Proofs.Ytfbchmihkndfaaa
set_option linter.unusedVariables false
open Go.RowKit

theorem in_yes (n low high : Int) (w : World) (h1 : low ≤ n) (h2 : n ≤ high) : Calls Try.prog 12 #[.int .i64 n, .int .i64 low, .int .i64 high] w fun e w' => e = .returned (.bool true) ∧ w' = w := by
  have d1 : decide (low ≤ n) = true := decide_eq_true h1
  have d2 : decide (n ≤ high) = true := decide_eq_true h2
  go_enter Try.func12, Try.ntmps12
  go_wp2
  go_ret
  exact ⟨rfl, rfl⟩
/-- cmp.Compare -/
def cmpI (a b : Int) : Int := if a < b then -1 else if b < a then 1 else 0
theorem nan_no (a : Int) (w : World) : Calls Try.prog 52 #[.int .i64 a] w fun e w' => e = .returned (.bool false) ∧ w' = w := by
  have d1 : (a != a) = false := by simp
  go_enter Try.func52, Try.ntmps52
  go_wp2
  go_ret
  exact ⟨rfl, rfl⟩
theorem cmp_ok (a b : Int) (w : World) : Calls Try.prog 36 #[.int .i64 a, .int .i64 b] w fun e w' => e = .returned (.int .i64 (cmpI a b)) ∧ w' = w := by
  have hn := nan_no
  have hc : Hid (cmpI a b = if a < b then -1 else if b < a then 1 else 0) := rfl
  generalize cmpI a b = c at *
  by_cases h1 : a < b
  · rw [if_pos h1] at hc
    have d1 : decide (a < b) = true := decide_eq_true h1
    clear h1
    go_enter Try.func36, Try.ntmps36
    go_wp2_with ((go_at_call 52; refine (hn _ _).mono ?_; rintro e w' ⟨rfl, rfl⟩))
    go_ret
    exact ⟨by rw [hc.out]; rfl, rfl⟩
  · rw [if_neg h1] at hc
    have d1 : decide (a < b) = false := decide_eq_false h1
    by_cases h2 : b < a
    · rw [if_pos h2] at hc
      have d2 : decide (b < a) = true := decide_eq_true h2
      clear h1 h2
      go_enter Try.func36, Try.ntmps36
      go_wp2_with ((go_at_call 52; refine (hn _ _).mono ?_; rintro e w' ⟨rfl, rfl⟩))
      go_ret
      exact ⟨by rw [hc.out]; rfl, rfl⟩
    · rw [if_neg h2] at hc
      have d2 : decide (b < a) = false := decide_eq_false h2
      clear h1 h2
      go_enter Try.func36, Try.ntmps36
      go_wp2_with ((go_at_call 52; refine (hn _ _).mono ?_; rintro e w' ⟨rfl, rfl⟩))
      go_ret
      exact ⟨by rw [hc.out]; rfl, rfl⟩
/-- cmp.Or of two -/
def orI (a b : Int) : Int := if a ≠ 0 then a else b
theorem or_ok (x y : Int) (b : Nat) (w : World) (h : w.heap[b]? = some (.cells #[.int .i64 x, .int .i64 y] 3)) : Calls Try.prog 35 #[.slice (some ⟨b, 0, none⟩) 2 2] w fun e w' => e = .returned (.int .i64 (orI x y)) ∧ w' = w := by
  have c0 : w.cell? ⟨b, 0, none⟩ = some (.int .i64 x) := by rw [cell_of_row _ _ _ _ _ _ h]; rfl
  have c1 : w.cell? ⟨b, 1, none⟩ = some (.int .i64 y) := by rw [cell_of_row _ _ _ _ _ _ h]; rfl
  have ho : Hid (orI x y = if x ≠ 0 then x else y) := rfl
  generalize orI x y = o at *
  clear h
  by_cases h1 : x = 0
  · subst h1
    rw [if_neg (by decide)] at ho
    by_cases h2 : y = 0
    · subst h2
      go_enter Try.func35, Try.ntmps35
      go_wp2_with fail
      refine wp_loop_rounds 3 ?_
      iterate 3 (rw [rounds_succ]; go_wp2_with fail)
      go_ret
      exact ⟨by rw [ho.out]; rfl, rfl⟩
    · have d2 : (y != 0) = true := by rw [bne_iff_ne]; exact h2
      clear h2
      go_enter Try.func35, Try.ntmps35
      go_wp2_with fail
      refine wp_loop_rounds 2 ?_
      iterate 2 (rw [rounds_succ]; go_wp2_with fail)
      go_ret
      exact ⟨by rw [ho.out]; rfl, rfl⟩
  · rw [if_pos h1] at ho
    have d1 : (x != 0) = true := by rw [bne_iff_ne]; exact h1
    clear h1
    go_enter Try.func35, Try.ntmps35
    go_wp2_with fail
    refine wp_loop_rounds 1 ?_
    iterate 1 (rw [rounds_succ]; go_wp2_with fail)
    go_ret
    exact ⟨by rw [ho.out]; rfl, rfl⟩
end Go.Proofs.Ytfbchmihkndfaaa
