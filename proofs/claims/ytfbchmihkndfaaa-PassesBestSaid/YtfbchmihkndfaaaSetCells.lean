/- Several cells in the middle of a block are stored to. -/
import Derived.Test.YtfbchmihkndfaaaRow
import Derived.Deep.MidRow
namespace Go.Proofs.Ytfbchmihkndfaaa
set_option linter.unusedVariables false
open Go.RowKit

theorem set_cells {b : Nat} {e : TypeId} (z : List Value) : ∀ (vs a m : List Value) (W : World), W.heap[b]? = some (.cells (a ++ (m ++ z)).toArray e) → m.length = vs.length →
    (W.setCells b a.length vs).heap[b]? = some (.cells (a ++ (vs ++ z)).toArray e) ∧ W.grownBy (W.setCells b a.length vs) (some b)
  | [], a, m, W, h, hl => by
    obtain rfl : m = [] := List.eq_nil_of_length_eq_zero (by simpa using hl)
    exact ⟨h, World.grownBy.refl _ _⟩
  | v :: vs, a, [], W, h, hl => by simp at hl
  | v :: vs, a, x :: m, W, h, hl => by
    have h1 := set_row (cs' := (a ++ (v :: m ++ z)).toArray) h a.length v (by
      rw [List.setIfInBounds_toArray, List.set_append_right _ _ (Nat.le_refl _), Nat.sub_self]
      rfl)
    obtain ⟨h2, h3⟩ := h1
    have h4 := set_cells (e := e) (b := b) z vs (a ++ [v]) m (W.setCell ⟨b, a.length, none⟩ v) (by rw [h2]; simp) (by simpa using hl)
    rw [show (a ++ [v]).length = a.length + 1 by simp] at h4
    refine ⟨?_, grownBy_trans h3 h4.2⟩
    show ((W.setCell ⟨b, a.length, none⟩ v).setCells b (a.length + 1) vs).heap[b]? = _
    rw [h4.1]
    simp
/-- cells in the middle of a block, as the load's law asks them -/
theorem range_row {W : World} {b : Nat} {e : TypeId} {a m z : List Value} (h : W.heap[b]? = some (.cells (a ++ (m ++ z)).toArray e)) : W.rangeAt b a.length m := fun j v hv => by
  have hj : j < m.length := (List.getElem?_eq_some_iff.1 hv).1
  rw [cell_of_row _ _ _ _ _ _ h, List.getElem?_toArray, List.getElem?_append_right (by omega), Nat.add_sub_cancel_left, List.getElem?_append_left hj, hv]
theorem there_row {W : World} {b : Nat} {e : TypeId} {cs : List Value} (h : W.heap[b]? = some (.cells cs.toArray e)) (o n : Nat) (hn : o + n ≤ cs.length) : W.there b o n := fun j hj => by
  refine ⟨?_, frozen_row h _⟩
  rw [cell_of_row _ _ _ _ _ _ h, List.getElem?_toArray, List.getElem?_eq_getElem (by omega)]
  rfl
end Go.Proofs.Ytfbchmihkndfaaa
