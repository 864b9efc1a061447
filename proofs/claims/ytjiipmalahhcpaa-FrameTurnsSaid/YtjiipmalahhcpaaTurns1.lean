/- Go's rest of a division, and small facts on integers. -/
import Derived.WalkKit
import Derived.KernelRfl
namespace Go.Proofs.Ytjiipmalahhcpaa
theorem hid {p : Prop} (h : p) : RowKit.Hid p := h
/-- the walk stands still behind this -/
theorem hold {p : Prop} (h : RowKit.Hid p) : p := h
theorem tmod_facts (x k : Int) (hk : 0 < k) : -k < x.tmod k ∧ x.tmod k < k ∧ (x.tmod k) % k = x % k ∧ (0 ≤ x → x.tmod k = x % k) ∧ (x < 0 → x.tmod k = -((-x) % k)) := by
  have hneg : x < 0 → x.tmod k = -((-x) % k) := fun h => by
    have e : x = -(-x) := by omega
    conv => lhs; rw [e]
    rw [Int.neg_tmod, Int.tmod_eq_emod_of_nonneg (by omega)]
  rcases Int.lt_or_le x 0 with h | h
  · have h1 := Int.emod_nonneg (-x) (by omega : k ≠ 0)
    have h2 := Int.emod_lt_of_pos (-x) hk
    refine ⟨by rw [hneg h]; omega, by rw [hneg h]; omega, ?_, fun h' => by omega, hneg⟩
    rw [hneg h]
    have h3 := Int.emod_add_mul_ediv (-x) k
    have e : -((-x) % k) = x + k * (-x / k) := by omega
    rw [e, Int.add_mul_emod_self_left]
  · have e : x.tmod k = x % k := Int.tmod_eq_emod_of_nonneg h
    have h1 := Int.emod_nonneg x (by omega : k ≠ 0)
    have h2 := Int.emod_lt_of_pos x hk
    exact ⟨by rw [e]; omega, by rw [e]; omega, by rw [e, Int.emod_emod], fun _ => e, hneg⟩
end Go.Proofs.Ytjiipmalahhcpaa
/- Lists of natural numbers below 256. No program in sight. -/
namespace Go.Proofs.Ytjiipmalahhcpaa
/-- the k-th number of a list, 0 beyond -/
def nth (l : List Nat) (k : Nat) : Nat := l.getD k 0
def AllB (l : List Nat) : Prop := ∀ x ∈ l, x < 256

theorem nth_lt {l : List Nat} (h : AllB l) (k : Nat) : nth l k < 256 := by
  unfold nth
  rcases Nat.lt_or_ge k l.length with hk | hk
  · rw [List.getD_eq_getElem?_getD, List.getElem?_eq_getElem hk]
    exact h _ (List.getElem_mem hk)
  · rw [List.getD_eq_getElem?_getD, List.getElem?_eq_none hk]
    decide
theorem AllB.set {l : List Nat} (h : AllB l) (k x : Nat) (hx : x < 256) : AllB (l.set k x) := by
  intro y hy
  rcases List.mem_or_eq_of_mem_set hy with h1 | h1
  · exact h y h1
  · omega
theorem AllB.take {l : List Nat} (h : AllB l) (k : Nat) : AllB (l.take k) := fun x hx => h x (List.mem_of_mem_take hx)
theorem AllB.drop {l : List Nat} (h : AllB l) (k : Nat) : AllB (l.drop k) := fun x hx => h x (List.mem_of_mem_drop hx)
theorem AllB.append {a b : List Nat} (h : AllB a) (h' : AllB b) : AllB (a ++ b) := fun x hx => (List.mem_append.1 hx).elim (h x) (h' x)
theorem AllB.replicate (n : Nat) : AllB (List.replicate n 0) := fun x hx => by rw [List.eq_of_mem_replicate hx]; decide
theorem AllB.nil : AllB [] := fun x hx => by cases hx

theorem nth_ge {l : List Nat} {k : Nat} (h : l.length ≤ k) : nth l k = 0 := by
  unfold nth
  rw [List.getD_eq_getElem?_getD, List.getElem?_eq_none h]; rfl
theorem nth_get {l : List Nat} {k : Nat} (h : k < l.length) : nth l k = l[k] := by
  unfold nth
  rw [List.getD_eq_getElem?_getD, List.getElem?_eq_getElem h]; rfl
theorem nth_set (l : List Nat) (i x k : Nat) (hi : i < l.length) : nth (l.set i x) k = if k = i then x else nth l k := by
  unfold nth
  simp only [List.getD_eq_getElem?_getD, List.getElem?_set]
  by_cases h : i = k
  · subst h; simp [hi]
  · have h' : ¬ k = i := fun e => h e.symm
    simp [h, h']
theorem nth_take (l : List Nat) (n k : Nat) : nth (l.take n) k = if k < n then nth l k else 0 := by
  unfold nth
  simp only [List.getD_eq_getElem?_getD, List.getElem?_take]
  split <;> rfl
theorem nth_replicate (n k : Nat) : nth (List.replicate n 0) k = 0 := by
  unfold nth
  simp only [List.getD_eq_getElem?_getD, List.getElem?_replicate]
  split <;> rfl
theorem ext_nth {a b : List Nat} (hl : a.length = b.length) (h : ∀ k, k < a.length → nth a k = nth b k) : a = b := by
  apply List.ext_getElem hl
  intro k h1 h2
  have := h k h1
  rwa [nth_get h1, nth_get h2] at this
end Go.Proofs.Ytjiipmalahhcpaa
