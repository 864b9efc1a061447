/- Keys: what cover computes, in plain words. -/
import Derived.Test.YtdeeilahefnicaaRange
namespace Go.Proofs.Ytdeeilahefnicaa
set_option linter.unusedVariables false

def xorP (p pad : List Nat) : List Nat := (List.range p.length).map fun i => nth p i ^^^ nth pad i
theorem xorP_len (p pad : List Nat) : (xorP p pad).length = p.length := by simp [xorP]
theorem xorP_nth (p pad : List Nat) (i : Nat) (hi : i < p.length) : nth (xorP p pad) i = nth p i ^^^ nth pad i := by
  rw [nth_get (by rw [xorP_len]; exact hi)]; simp [xorP]
theorem xorP_take (p pad : List Nat) (i : Nat) (hi : i < p.length) : (xorP p pad).take (i + 1) = (xorP p pad).take i ++ [nth p i ^^^ nth pad i] := by
  rw [List.take_succ_eq_append_getElem (by rw [xorP_len]; exact hi)]
  congr 2
  simp [xorP]
noncomputable def cvF (ws : List Int) (c : Nat) (bs : List Nat) (st : Nat × List Nat) (k : Nat) : Nat × List Nat := (st.1 + 1, st.2 ++ xorP (piece bs 64 k) (Bk ws c (1 + st.1)))
noncomputable def cvL (ws : List Int) (c : Nat) (bs : List Nat) (l : List Nat) : Nat × List Nat := l.foldl (cvF ws c bs) (0, [])
theorem cvL_step (ws : List Int) (c : Nat) (bs : List Nat) (l : List Nat) (k : Nat) : cvL ws c bs (l ++ [k]) = cvF ws c bs (cvL ws c bs l) k := by simp [cvL]
theorem cvL_fst (ws : List Int) (c : Nat) (bs : List Nat) (l : List Nat) : (cvL ws c bs l).1 = l.length := by
  have key : ∀ (l : List Nat) (st : Nat × List Nat), (l.foldl (cvF ws c bs) st).1 = st.1 + l.length := by
    intro l
    induction l with
    | nil => intro st; rfl
    | cons k l ih => intro st; rw [List.foldl_cons, ih]; simp [cvF]; omega
  have := key l (0, [])
  simpa [cvL] using this
theorem cvL_snoc (ws : List Int) (c : Nat) (bs : List Nat) (l : List Nat) (k : Nat) : (cvL ws c bs (l ++ [k])).2 = (cvL ws c bs l).2 ++ xorP (piece bs 64 k) (Bk ws c (1 + l.length)) := by
  rw [cvL_step]
  unfold cvF
  rw [cvL_fst]
theorem piece_len (u : List Nat) (m k : Nat) : (piece u m k).length = pl u.length m k := by unfold piece pl; rw [List.length_take, List.length_drop]
theorem cvL_le (ws : List Int) (c : Nat) (bs : List Nat) (l : List Nat) : (cvL ws c bs l).2.length ≤ 64 * l.length := by
  have key : ∀ (l : List Nat) (st : Nat × List Nat), (l.foldl (cvF ws c bs) st).2.length ≤ st.2.length + 64 * l.length := by
    intro l
    induction l with
    | nil => intro st; exact Nat.le_refl _
    | cons k l ih =>
      intro st
      rw [List.foldl_cons]
      refine Nat.le_trans (ih _) ?_
      have h1 : pl bs.length 64 k ≤ 64 := Nat.min_le_left _ _
      simp [cvF, xorP_len, piece_len]
      omega
  have := key l (0, [])
  simpa [cvL] using this
noncomputable def Cv (ws : List Int) (c : Nat) (bs : List Nat) : List Nat := (cvL ws c bs (List.range (pieces bs.length 64))).2
theorem nth_append (a b : List Nat) (j : Nat) : nth (a ++ b) j = if j < a.length then nth a j else nth b (j - a.length) := by
  unfold nth
  rw [List.getD_eq_getElem?_getD, List.getElem?_append]
  split <;> simp [List.getD_eq_getElem?_getD]
theorem piece_nth (u : List Nat) (m k i : Nat) (hi : i < m) : nth (piece u m k) i = nth u (k * m + i) := by
  unfold piece
  rw [nth_take, if_pos hi]
  unfold nth
  simp [List.getD_eq_getElem?_getD, List.getElem?_drop]
theorem cvL_at (ws : List Int) (c : Nat) (bs : List Nat) : ∀ m, m ≤ pieces bs.length 64 → (cvL ws c bs (List.range m)).2.length = min (m * 64) bs.length ∧ ∀ j, j < min (m * 64) bs.length → nth (cvL ws c bs (List.range m)).2 j = nth bs j ^^^ nth (Bk ws c (1 + j / 64)) (j % 64)
  | 0, _ => ⟨by simp [cvL], fun j hj => by simp at hj⟩
  | m + 1, hm => by
    obtain ⟨h1, h2⟩ := cvL_at ws c bs m (by omega)
    have hlt := (pieces_lt (len := bs.length) (m := 64) (k := m) (by decide)).1 (by omega)
    have h1' : (cvL ws c bs (List.range m)).2.length = m * 64 := by omega
    rw [List.range_succ, cvL_snoc, List.length_range]
    refine ⟨?_, fun j hj => ?_⟩
    · rw [List.length_append, xorP_len, piece_len, h1']
      unfold pl
      omega
    · rw [nth_append, h1']
      by_cases hj2 : j < m * 64
      · rw [if_pos hj2]; exact h2 j (by omega)
      · rw [if_neg hj2, xorP_nth _ _ _ (by rw [piece_len]; unfold pl; omega), piece_nth _ _ _ _ (by omega)]
        have e1 : m * 64 + (j - m * 64) = j := by omega
        have e2 : j / 64 = m := by omega
        have e3 : j - m * 64 = j % 64 := by omega
        rw [e1, e2, e3]
theorem pieces_all (n : Nat) : min (pieces n 64 * 64) n = n := by
  have : ¬ pieces n 64 < pieces n 64 := Nat.lt_irrefl _
  rw [pieces_lt (by decide)] at this
  omega
theorem Cv_len (ws : List Int) (c : Nat) (bs : List Nat) : (Cv ws c bs).length = bs.length := by
  have := (cvL_at ws c bs _ (Nat.le_refl _)).1
  rw [pieces_all] at this
  exact this
theorem Cv_nth (ws : List Int) (c : Nat) (bs : List Nat) (j : Nat) (hj : j < bs.length) : nth (Cv ws c bs) j = nth bs j ^^^ nth (Bk ws c (1 + j / 64)) (j % 64) := by
  have := (cvL_at ws c bs _ (Nat.le_refl _)).2 j (by rw [pieces_all]; exact hj)
  exact this
theorem Cv_Cv (ws : List Int) (c : Nat) (bs : List Nat) : Cv ws c (Cv ws c bs) = bs := by
  apply ext_nth
  · rw [Cv_len, Cv_len]
  · intro j hj
    rw [Cv_len, Cv_len] at hj
    rw [Cv_nth _ _ _ _ (by rw [Cv_len]; exact hj), Cv_nth _ _ _ _ hj, Nat.xor_assoc, Nat.xor_self, Nat.xor_zero]
theorem xorP_b {p pad : List Nat} (h : AllB p) (h' : AllB pad) : AllB (xorP p pad) := by
  intro x hx
  obtain ⟨i, _, rfl⟩ := List.mem_map.1 hx
  exact Nat.xor_lt_two_pow (n := 8) (nth_lt h i) (nth_lt h' i)
theorem Cv_b (ws : List Int) (c : Nat) {bs : List Nat} (h : AllB bs) : AllB (Cv ws c bs) := by
  intro x hx
  obtain ⟨i, hi, rfl⟩ := List.getElem_of_mem hx
  rw [← nth_get hi]
  rw [Cv_len] at hi
  rw [Cv_nth _ _ _ _ hi]
  exact Nat.xor_lt_two_pow (n := 8) (nth_lt h i) (nth_lt (Bk_b _ _ _) _)
end Go.Proofs.Ytdeeilahefnicaa
