/- packet.may: which error a packet has. -/
import Derived.Test.YtbclokglkcbmkaaProg
import Derived.Test.YtbclokglkcbmkaaSl
import Derived.WalkKit
namespace Go.Proofs.Ytbclokglkcbmkaa
set_option linter.unusedVariables false
open Go.RowKit

theorem in_st (n m : Int) (w : World) : Calls Try.prog 20 #[.int .i64 n, .int .i64 m] w fun e w' => e = .returned (.bool (decide (0 ≤ n) && decide (n ≤ m))) ∧ w' = w := by
  go_enter Try.func20, Try.ntmps20
  by_cases h : 0 ≤ n
  · have h1 : decide (0 ≤ n) = true := by simp [h]
    go_wp2
    go_ret
    simp <;> omega
  · have h1 : decide (0 ≤ n) = false := by simp [h]
    go_wp2
    go_ret
    simp <;> omega

def mayCode (apid part count : Int) (n : Nat) : Int :=
  if 0 ≤ apid ∧ apid ≤ 2047 ∧ 0 ≤ part ∧ part ≤ 3 ∧ 0 ≤ count ∧ count ≤ 16383 then (if n = 0 ∨ 65536 < n then 1 else 0) else 2

theorem may_any (up se : Bool) (apid part count : Int) (a : Option Addr) (n c : Nat) (w : World) :
    Calls Try.prog 11 #[.agg #[.bool up, .bool se, .int .i64 apid, .int .i64 part, .int .i64 count, .slice a n c]] w fun e w' => e = .returned (.int .i64 (mayCode apid part count n)) ∧ Below w.heap.size w w' := by
  have B := below_alloc w (.cells #[.bool up, .bool se, .int .i64 apid, .int .i64 part, .int .i64 count, .slice a n c] 29)
  obtain ⟨W, hW⟩ : ∃ W, W = w.alloc (.cells #[.bool up, .bool se, .int .i64 apid, .int .i64 part, .int .i64 count, .slice a n c] 29) := ⟨_, rfl⟩
  have A : W.heap[w.heap.size]? = some (.cells #[.bool up, .bool se, .int .i64 apid, .int .i64 part, .int .i64 count, .slice a n c] 29 (0, 0)) := by rw [hW]; exact heap_alloc_new w _
  rw [← hW] at B
  go_enter Try.func11, Try.ntmps11
  have hW' := hW.symm
  clear hW
  have c2 : W.cell? ⟨w.heap.size, 2, none⟩ = some (.int .i64 apid) := by rw [cell_of_row _ _ _ _ _ _ A]; rfl
  have c3 : W.cell? ⟨w.heap.size, 3, none⟩ = some (.int .i64 part) := by rw [cell_of_row _ _ _ _ _ _ A]; rfl
  have c4 : W.cell? ⟨w.heap.size, 4, none⟩ = some (.int .i64 count) := by rw [cell_of_row _ _ _ _ _ _ A]; rfl
  have c5 : W.cell? ⟨w.heap.size, 5, none⟩ = some (.slice a n c) := by rw [cell_of_row _ _ _ _ _ _ A]; rfl
  go_wp2_with fail
  clear hW'
  refine (in_st _ _ _).mono ?_
  rintro e w' ⟨rfl, rfl⟩
  by_cases h1 : 0 ≤ apid ∧ apid ≤ 2047
  · have d1 : decide (0 ≤ apid) = true := by simp [h1.1]
    have d2 : decide (apid ≤ 2047) = true := by simp [h1.2]
    rw [d1, d2]
    go_wp2_with fail
    refine (in_st _ _ _).mono ?_
    rintro e w' ⟨rfl, rfl⟩
    by_cases h2 : 0 ≤ part ∧ part ≤ 3
    · have d1 : decide (0 ≤ part) = true := by simp [h2.1]
      have d2 : decide (part ≤ 3) = true := by simp [h2.2]
      rw [d1, d2]
      go_wp2_with fail
      refine (in_st _ _ _).mono ?_
      rintro e w' ⟨rfl, rfl⟩
      by_cases h3 : 0 ≤ count ∧ count ≤ 16383
      · have d1 : decide (0 ≤ count) = true := by simp [h3.1]
        have d2 : decide (count ≤ 16383) = true := by simp [h3.2]
        rw [d1, d2]
        by_cases h4 : n = 0
        · subst h4
          go_wp2_with fail
          go_ret
          exact ⟨by rw [show mayCode apid part count 0 = 1 by unfold mayCode; rw [if_pos (by omega), if_pos (by omega)]] <;> rfl, B⟩
        · have h40 : ((n : Int) == 0) = false := by simp; omega
          by_cases h5 : 65536 < n
          · have h50 : ((65536 : Int) < n) := by omega
            go_wp2_with fail
            go_ret
            exact ⟨by rw [show mayCode apid part count n = 1 by unfold mayCode; rw [if_pos (by omega), if_pos (by omega)]] <;> rfl, B⟩
          · have h50 : ¬ ((65536 : Int) < n) := by omega
            go_wp2_with fail
            go_ret
            exact ⟨by rw [show mayCode apid part count n = 0 by unfold mayCode; rw [if_pos (by omega), if_neg (by omega)]] <;> rfl, B⟩
      · have d1 : (decide (0 ≤ count) && decide (count ≤ 16383)) = false := by simp; omega
        rw [d1]
        go_wp2_with fail
        go_ret
        exact ⟨by rw [show mayCode apid part count n = 2 by unfold mayCode; rw [if_neg (by omega)]] <;> rfl, B⟩
    · have d1 : (decide (0 ≤ part) && decide (part ≤ 3)) = false := by simp; omega
      rw [d1]
      go_wp2_with fail
      go_ret
      exact ⟨by rw [show mayCode apid part count n = 2 by unfold mayCode; rw [if_neg (by omega)]] <;> rfl, B⟩
  · have d1 : (decide (0 ≤ apid) && decide (apid ≤ 2047)) = false := by simp; omega
    rw [d1]
    go_wp2_with fail
    go_ret
    exact ⟨by rw [show mayCode apid part count n = 2 by unfold mayCode; rw [if_neg (by omega)]] <;> rfl, B⟩
end Go.Proofs.Ytbclokglkcbmkaa
