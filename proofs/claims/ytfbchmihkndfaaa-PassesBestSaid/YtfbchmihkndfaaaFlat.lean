/- Rows whose elements have c cells each, as one list of cells. -/
import Derived.Test.YtfbchmihkndfaaaRow
namespace Go.Proofs.Ytfbchmihkndfaaa
set_option linter.unusedVariables false
open Go.RowKit

theorem flat_len {α : Type} (f : α → List Value) (c : Nat) (hf : ∀ x, (f x).length = c) (l : List α) : (l.flatMap f).length = l.length * c := by
  induction l with
  | nil => simp
  | cons x l ih => rw [List.flatMap_cons, List.length_append, ih, hf, List.length_cons, Nat.add_mul, Nat.one_mul, Nat.add_comm]
theorem flat_snoc {α : Type} (f : α → List Value) (l : List α) (x : α) : (l ++ [x]).flatMap f = l.flatMap f ++ f x := by simp
theorem flat_at {α : Type} (f : α → List Value) (c : Nat) (hf : ∀ x, (f x).length = c) (l : List α) (j : Nat) (h : j < l.length) (k : Nat) (hk : k < c) : (l.flatMap f)[j * c + k]? = (f (l[j]))[k]? := by
  induction l generalizing j with
  | nil => simp at h
  | cons x l ih =>
    rw [List.flatMap_cons]
    cases j with
    | zero => rw [List.getElem?_append_left (by rw [hf]; omega)]; simp
    | succ j =>
      have e : (j + 1) * c + k = c + (j * c + k) := by rw [Nat.add_mul, Nat.one_mul]; omega
      rw [List.getElem?_append_right (by rw [hf]; omega), hf, e, Nat.add_sub_cancel_left, ih j (by simpa using h)]
      simp
/-- a row of an own block, read at element j, cell k -/
theorem own_flat {α : Type} {w : World} {B e c n cap : Nat} {g : Nat} (f : α → List Value) (hf : ∀ x, (f x).length = c) {l : List α} (h : w.ownsRow B e c (.slice (some ⟨g, 0, none⟩) n cap) n (l.flatMap f)) (hl : l.length = n) (j : Nat) (hj : j < n) (k : Nat) (hk : k < c) :
    w.cell? ⟨g, j * c + k, none⟩ = (f (l[j]'(by omega)))[k]? := by
  have h1 : (j + 1) * c ≤ n * c := Nat.mul_le_mul_right _ hj
  rw [Nat.add_mul, Nat.one_mul] at h1
  rw [h.cellAt _ (by omega), flat_at f c hf l j (by omega) k hk]
/-- a block made of a list of cells, read -/
theorem new_cells (w : World) (l : List Value) (e : TypeId) : ∀ (j : Nat) (x : Value), l[j]? = some x → (w.alloc (.cells l.toArray e)).cell? ((⟨w.heap.size, 0, none⟩ : Addr).add j) = some x := by
  intro j x hj
  rw [Addr.add_lit, World.cell?_alloc_at _ _ _ _ rfl, Nat.zero_add]
  simpa using hj
end Go.Proofs.Ytfbchmihkndfaaa
