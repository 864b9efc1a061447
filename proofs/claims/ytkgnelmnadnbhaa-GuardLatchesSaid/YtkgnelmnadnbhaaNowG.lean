/- What look leaves: which monitors trip. -/
import Derived.Test.YtkgnelmnadnbhaaVsG
namespace Go.Proofs.Ytkgnelmnadnbhaa
set_option linter.unusedVariables false
open Go.RowKit

/-- what is told of this tick's trips: monitors that were looked at -/
theorem lookTo_now (ms : List Mon) (vals : List Int) (s : St) (h : s.now = []) : ∀ j i, i < (lookTo ms vals s j).now.length → nth (lookTo ms vals s j).now i < j
  | 0, i, hi => by
    have e : (lookTo ms vals s 0).now = [] := h
    rw [e] at hi
    cases hi
  | j + 1, i, hi => by
    have ih := lookTo_now ms vals s h j
    have e : lookTo ms vals s (j + 1) = look1 ms vals (lookTo ms vals s j) j := rfl
    rw [e] at hi ⊢
    generalize lookTo ms vals s j = u at *
    unfold look1 at hi ⊢
    split at hi
    · rename_i h1
      rw [if_pos h1]
      exact Nat.lt_succ_of_lt (ih i hi)
    · rename_i h1
      rw [if_neg h1]
      split at hi
      · rename_i h2
        rw [if_pos h2]
        exact Nat.lt_succ_of_lt (ih i hi)
      · rename_i h2
        rw [if_neg h2]
        show nth (u.now ++ [j]) i < j + 1
        have hl : i < (u.now ++ [j]).length := hi
        rw [List.length_append] at hl
        rcases Nat.lt_or_ge i u.now.length with h3 | h3
        · have := ih i h3
          have e2 : nth (u.now ++ [j]) i = nth u.now i := by
            unfold nth
            rw [List.getD_eq_getElem?_getD, List.getD_eq_getElem?_getD, List.getElem?_append_left h3]
          omega
        · have h4 : i = u.now.length := by simp at hl; omega
          have e2 : nth (u.now ++ [j]) i = j := by
            unfold nth
            rw [h4, List.getD_eq_getElem?_getD, List.getElem?_append_right (Nat.le_refl _), Nat.sub_self]
            rfl
          omega
theorem lookTo_same (ms : List Mon) (vals : List Int) (s : St) : ∀ j, (lookTo ms vals s j).safe = s.safe ∧ (lookTo ms vals s j).why = s.why ∧ (lookTo ms vals s j).quiet = s.quiet
  | 0 => ⟨rfl, rfl, rfl⟩
  | j + 1 => by
    have ih := lookTo_same ms vals s j
    have e : lookTo ms vals s (j + 1) = look1 ms vals (lookTo ms vals s j) j := rfl
    rw [e]
    unfold look1
    split
    · exact ih
    · split
      · exact ih
      · exact ih
end Go.Proofs.Ytkgnelmnadnbhaa
