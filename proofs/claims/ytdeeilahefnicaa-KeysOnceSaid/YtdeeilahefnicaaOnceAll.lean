/- Keys: once, in one piece. -/
import Derived.Test.YtdeeilahefnicaaOnceC
import Derived.Test.YtdeeilahefnicaaRow
namespace Go.Proofs.Ytdeeilahefnicaa
set_option linter.unusedVariables false
open Go.RowKit

/-- what a counter makes of Top and Seen; none: it is not let in -/
def onceF (top : Int) (s c : Nat) : Option (Int × Nat) :=
  if top < 0 then some ((c : Int), s)
  else if (c : Int) = top ∨ 62 < top - c then none
  else if (c : Int) < top then (if s.testBit (top - c - 1).toNat then none else some (top, s ||| 2 ^ (top - c - 1).toNat))
  else if top - c < -62 then some ((c : Int), 0)
  else some ((c : Int), upV s (c - top - 1).toNat)

/-- how once ends -/
def OnceE (r : Option (Int × Nat)) (B kb cc : Nat) (v0 v1 : Value) (W : World) (e : Ending) (w' : World) : Prop :=
  match r with
  | none => e = .returned (.bool false) ∧ w' = W
  | some (t, s) => e = .returned (.bool true) ∧ w'.ownsRow B 25 4 (.slice (some ⟨kb, 0, none⟩) 1 cc) 1 [v0, v1, .int .i64 t, .int .i64 (s : Int)] ∧ W.grownBy w' (some kb)

theorem once_any (B kb cc : Nat) (v0 v1 : Value) (top : Int) (s c : Nat) (W : World) (ht : -1 ≤ top ∧ top ≤ 281474976710655) (hs : s < 2 ^ 62) (hc : c < 281474976710656)
    (h : W.ownsRow B 25 4 (.slice (some ⟨kb, 0, none⟩) 1 cc) 1 [v0, v1, .int .i64 top, .int .i64 (s : Int)]) :
    Calls Try.prog 19 #[.pointer (some ⟨kb, 0, none⟩), .int .i64 (c : Int)] W (OnceE (onceF top s c) B kb cc v0 v1 W) := by
  have hk : KAt W kb top (s : Int) := ⟨h.cellAt 2 (by decide), h.cellAt 3 (by decide), h.frozenAt 2, h.frozenAt 3⟩
  have hc2 : (0 : Int) ≤ c ∧ (c : Int) ≤ 281474976710655 := ⟨by omega, by omega⟩
  have two : ∀ (t : Int) (s' : Nat) (w' : World), w' = (W.setCell ⟨kb, 2, none⟩ (.int .i64 t)).setCell ⟨kb, 3, none⟩ (.int .i64 (s' : Int)) → w'.ownsRow B 25 4 (.slice (some ⟨kb, 0, none⟩) 1 cc) 1 [v0, v1, .int .i64 t, .int .i64 (s' : Int)] ∧ W.grownBy w' (some kb) := by
    rintro t s' w' rfl
    obtain ⟨h1, g1⟩ := h.stored 2 (.int .i64 t)
    obtain ⟨h2, g2⟩ := h1.stored 3 (.int .i64 (s' : Int))
    exact ⟨h2, grownBy_trans g1 g2⟩
  unfold onceF
  by_cases h0 : top < 0
  · rw [if_pos h0]
    obtain rfl : top = -1 := by omega
    refine (once_first kb s c W hk hc2).mono ?_
    rintro e w' ⟨rfl, rfl⟩
    obtain ⟨h1, g1⟩ := h.stored 2 (.int .i64 (c : Int))
    exact ⟨rfl, h1, g1⟩
  · rw [if_neg h0]
    have ht2 : 0 ≤ top ∧ top ≤ 281474976710655 := ⟨by omega, ht.2⟩
    by_cases h1 : (c : Int) = top ∨ 62 < top - c
    · rw [if_pos h1]
      rcases h1 with h1 | h1
      · subst h1
        exact (once_same kb s c W hk hc2).mono fun _ _ h => h
      · exact (once_old kb top s c W hk hc2 ht2 h1).mono fun _ _ h => h
    · rw [if_neg h1]
      have h1a : ¬ (c : Int) = top := fun e => h1 (.inl e)
      have h1b : ¬ 62 < top - c := fun e => h1 (.inr e)
      by_cases h2 : (c : Int) < top
      · rw [if_pos h2]
        obtain ⟨i, hi⟩ : ∃ i : Nat, top - c = (i : Int) + 1 := ⟨(top - c - 1).toNat, by omega⟩
        have hi2 : (top - c - 1).toNat = i := by omega
        rw [hi2]
        by_cases h3 : s.testBit i = true
        · rw [if_pos h3]
          exact (once_seen kb top s i c W hk hc2 ht2 hi (by omega) hs h3).mono fun _ _ h => h
        · rw [if_neg h3]
          refine (once_new kb top s i c W hk hc2 ht2 hi (by omega) hs (by simpa using h3)).mono ?_
          rintro e w' ⟨rfl, rfl⟩
          obtain ⟨h1, g1⟩ := h.drew.stored 3 (.int .i64 ((s ||| 2 ^ i : Nat) : Int))
          exact ⟨rfl, h1, grownBy_trans (grownBy_drew W _) g1⟩
      · rw [if_neg h2]
        by_cases h3 : top - c < -62
        · rw [if_pos h3]
          refine (once_far kb top s c W hk hc2 ht2 h3).mono ?_
          rintro e w' ⟨rfl, hw⟩
          exact ⟨rfl, two (c : Int) 0 w' hw⟩
        · rw [if_neg h3]
          obtain ⟨i, hi⟩ : ∃ i : Nat, top - c = -((i : Int) + 1) := ⟨(c - top - 1).toNat, by omega⟩
          have hi2 : (c - top - 1).toNat = i := by omega
          rw [hi2]
          refine (once_up kb top s i c W hk hc2 ht2 hi (by omega) hs).mono ?_
          rintro e w' ⟨rfl, hw⟩
          exact ⟨rfl, two (c : Int) _ w' hw⟩
end Go.Proofs.Ytdeeilahefnicaa
