/- Passes: insertion sort in plain words. -/
import Derived.Test.YtfbchmihkndfaaaPsP
namespace Go.Proofs.Ytfbchmihkndfaaa
set_option linter.unusedVariables false
open Go.RowKit

def Desc (f : Nat → Nat) (l : List Nat) : Prop := l.Pairwise (fun a b => f b ≤ f a)
/-- the first i are in order -/
structure Srt (f : Nat → Nat) (L0 L : List Nat) (i : Nat) : Prop where
  perm : L.Perm L0
  ord : Desc f (L.take i)
/-- the i-th is on its way, at place j -/
structure Ins (f : Nat → Nat) (L0 L : List Nat) (i j : Nat) : Prop where
  ex : ∃ P x S R, L = P ++ x :: (S ++ R) ∧ P.length = j ∧ j + S.length = i ∧ Desc f (P ++ S) ∧ ∀ s ∈ S, f s < f x
  perm : L.Perm L0
theorem Srt.start {f : Nat → Nat} {L0 L : List Nat} {i : Nat} (h : Srt f L0 L i) (hi : i < L.length) : Ins f L0 L i i :=
  ⟨⟨L.take i, L[i], [], L.drop (i + 1), by rw [List.nil_append, ← List.drop_eq_getElem_cons hi, List.take_append_drop], by rw [List.length_take]; omega, rfl, by rw [List.append_nil]; exact h.ord, fun s hs => by cases hs⟩, h.perm⟩
theorem nth_mid (P : List Nat) (x : Nat) (T : List Nat) : nth (P ++ x :: T) P.length = x := by
  unfold nth
  rw [List.getD_eq_getElem?_getD, List.getElem?_append_right (Nat.le_refl _), Nat.sub_self]
  rfl
theorem Ins.step {f : Nat → Nat} {L0 L : List Nat} {i j : Nat} (h : Ins f L0 L i (j + 1)) (hlt : f (nth L j) < f (nth L (j + 1))) : Ins f L0 ((L.set (j + 1) (nth L j)).set j (nth L (j + 1))) i j := by
  obtain ⟨⟨P, x, S, R, rfl, hP, hS, hD, hx⟩, hp⟩ := h
  obtain ⟨P', p, rfl⟩ : ∃ P' p, P = P' ++ [p] := by
    rcases List.eq_nil_or_concat P with h | ⟨P', p, h⟩
    · rw [h] at hP; simp at hP
    · exact ⟨P', p, by rw [h]; simp⟩
  have hl : P'.length = j := by simp at hP; omega
  subst hl
  have e0 : P' ++ [p] ++ x :: (S ++ R) = P' ++ p :: (x :: (S ++ R)) := by simp
  have n1 : nth (P' ++ [p] ++ x :: (S ++ R)) (P'.length + 1) = x := by
    have := nth_mid (P' ++ [p]) x (S ++ R)
    rwa [hP] at this
  have n0 : nth (P' ++ [p] ++ x :: (S ++ R)) P'.length = p := by rw [e0]; exact nth_mid _ _ _
  rw [n0, n1] at hlt ⊢
  have e1 : ((P' ++ [p] ++ x :: (S ++ R)).set (P'.length + 1) p).set P'.length x = P' ++ x :: (p :: S ++ R) := by
    rw [e0]
    simp
  rw [e1]
  refine ⟨⟨P', x, p :: S, R, by simp, rfl, by rw [List.length_cons]; omega, ?_, ?_⟩, ?_⟩
  · have : P' ++ p :: S = P' ++ [p] ++ S := by simp
    rw [this]; exact hD
  · intro s hs
    rcases List.mem_cons.1 hs with h | h
    · rw [h]; exact hlt
    · exact hx s h
  · refine List.Perm.trans ?_ hp
    rw [e0]
    exact List.Perm.append_left _ (List.Perm.swap _ _ _)
theorem Ins.stop {f : Nat → Nat} {L0 L : List Nat} {i j : Nat} (h : Ins f L0 L i j) (hs : j = 0 ∨ f (nth L j) ≤ f (nth L (j - 1))) : Srt f L0 L (i + 1) := by
  obtain ⟨⟨P, x, S, R, rfl, hP, hS, hD, hx⟩, hp⟩ := h
  refine ⟨hp, ?_⟩
  have e : (P ++ x :: (S ++ R)).take (i + 1) = P ++ x :: S := by
    rw [List.take_append]
    have h1 : i + 1 - P.length = S.length + 1 := by omega
    rw [List.take_of_length_le (by omega), h1, List.take_succ_cons, List.take_left]
  unfold Desc at *
  rw [e]
  rw [List.pairwise_append] at hD ⊢
  obtain ⟨d1, d2, d3⟩ := hD
  refine ⟨d1, List.pairwise_cons.2 ⟨fun s hs => Nat.le_of_lt (hx s hs), d2⟩, fun a ha b hb => ?_⟩
  rcases List.mem_cons.1 hb with hb | hb
  · subst hb
    rcases hs with hs | hs
    · subst hs
      rw [List.eq_nil_of_length_eq_zero hP] at ha
      cases ha
    · rcases List.eq_nil_or_concat P with h | ⟨P', p, h⟩
      · rw [h] at ha; cases ha
      · rw [List.concat_eq_append] at h
        subst h
        have hj : j - 1 = P'.length := by simp at hP; omega
        have e0 : P' ++ [p] ++ b :: (S ++ R) = P' ++ p :: (b :: (S ++ R)) := by simp
        have n1 : nth (P' ++ [p] ++ b :: (S ++ R)) j = b := by
          have := nth_mid (P' ++ [p]) b (S ++ R)
          rwa [hP] at this
        have n0 : nth (P' ++ [p] ++ b :: (S ++ R)) (j - 1) = p := by rw [hj, e0]; exact nth_mid _ _ _
        rw [n0, n1] at hs
        rcases List.mem_append.1 ha with h1 | h1
        · exact Nat.le_trans hs ((List.pairwise_append.1 d1).2.2 a h1 p (by simp))
        · rw [List.mem_singleton] at h1; subst h1; exact hs
  · exact d3 a ha b hb
end Go.Proofs.Ytfbchmihkndfaaa
