/- The way back through a trellis has the least cost: in plain numbers. -/
import Derived.Test.YtaedanklpedmkaaCountC
namespace Go.Proofs.Ytaedanklpedmkaa
set_option linter.unusedVariables false

def far : Nat := 1099511627776
/-- costs C and choices K of a trellis: K i s: is the state ahead of s the upper one? behind n bits only 0 follows -/
structure Vit (n N : Nat) (pay : Nat → Nat → Nat → Nat) (C : Nat → Nat → Nat) (K : Nat → Nat → Bool) : Prop where
  zero : ∀ s, s < 64 → C 0 s = if s = 0 then 0 else far
  no : ∀ i s, i < N → s < 64 → s % 2 = 1 → n ≤ i → C (i + 1) s = far
  yes : ∀ i s, i < N → s < 64 → ¬(s % 2 = 1 ∧ n ≤ i) → C (i + 1) s = if K i s = true then C i (s / 2 + 32) + pay i (s % 2) (s / 2 + 32) else C i (s / 2) + pay i (s % 2) (s / 2)
  up : ∀ i s, i < N → s < 64 → K i s = true → C i (s / 2 + 32) + pay i (s % 2) (s / 2 + 32) ≤ C i (s / 2) + pay i (s % 2) (s / 2)
  lo : ∀ i s, i < N → s < 64 → K i s = false → C i (s / 2) + pay i (s % 2) (s / 2) ≤ C i (s / 2 + 32) + pay i (s % 2) (s / 2 + 32)
/-- what bits cost -/
def sumPay (pay : Nat → Nat → Nat → Nat) (a : List Nat) : Nat → Nat
  | 0 => 0
  | i + 1 => sumPay pay a i + pay i (nth a i) (cst a i)
theorem Vit.low {n N : Nat} {pay : Nat → Nat → Nat → Nat} {C : Nat → Nat → Nat} {K : Nat → Nat → Bool} (h : Vit n N pay C K) (a : List Nat) (ha : ∀ i, nth a i ≤ 1) (hz : ∀ i, n ≤ i → nth a i = 0) : ∀ i, i ≤ N → C i (cst a i) ≤ sumPay pay a i
  | 0, _ => by
    rw [show cst a 0 = 0 by simp [cst], h.zero 0 (by decide), if_pos rfl]
    exact Nat.zero_le _
  | i + 1, hi => by
    have ih := h.low a ha hz i (by omega)
    have hs := cst_lt a i
    have hb := ha i
    have e : cst a (i + 1) = (2 * cst a i + nth a i) % 64 := rfl
    have hs2 := cst_lt a (i + 1)
    have eb : cst a (i + 1) % 2 = nth a i := by omega
    show C (i + 1) (cst a (i + 1)) ≤ sumPay pay a i + pay i (nth a i) (cst a i)
    rw [h.yes i _ (by omega) hs2 (by
      rintro ⟨h1, h2⟩
      have := hz i h2
      omega), eb]
    have hcase : cst a i = cst a (i + 1) / 2 ∨ cst a i = cst a (i + 1) / 2 + 32 := by omega
    have hup := h.up i (cst a (i + 1)) (by omega) hs2
    have hlo := h.lo i (cst a (i + 1)) (by omega) hs2
    rw [eb] at hup hlo
    generalize cst a (i + 1) / 2 = t at *
    cases hk : K i (cst a (i + 1))
    · have := hlo hk
      rw [if_neg (by simp)]
      rcases hcase with h1 | h1
      · rw [h1] at ih ⊢; omega
      · rw [h1] at ih ⊢; omega
    · have := hup hk
      rw [if_pos rfl]
      rcases hcase with h1 | h1
      · rw [h1] at ih ⊢; omega
      · rw [h1] at ih ⊢; omega
/-- the states on the way back from 0, j steps ahead of the end -/
def bck (K : Nat → Nat → Bool) (N : Nat) : Nat → Nat
  | 0 => 0
  | j + 1 => bck K N j / 2 + (if K (N - 1 - j) (bck K N j) = true then 32 else 0)
theorem bck_lt (K : Nat → Nat → Bool) (N : Nat) : ∀ j, bck K N j < 64
  | 0 => (by decide : 0 < 64)
  | j + 1 => by
    have := bck_lt K N j
    rw [bck]
    split <;> omega
/-- the bits of the way back -/
def got (K : Nat → Nat → Bool) (N n : Nat) : List Nat := (List.range n).map fun i => bck K N (N - 1 - i) % 2
theorem got_nth (K : Nat → Nat → Bool) (N n i : Nat) : nth (got K N n) i = if i < n then bck K N (N - 1 - i) % 2 else 0 := by
  unfold got nth
  by_cases h : i < n
  · rw [if_pos h]; simp [h]
  · rw [if_neg h]; simp [h]
/-- the way back is a way, and costs what the trellis says -/
theorem Vit.way {n N : Nat} {pay : Nat → Nat → Nat → Nat} {C : Nat → Nat → Nat} {K : Nat → Nat → Bool} (h : Vit n N pay C K) (hfar : C N 0 < far) : ∀ j, j ≤ N → C (N - j) (bck K N j) < far ∧ (1 ≤ j → C (N - j + 1) (bck K N (j - 1)) = C (N - j) (bck K N j) + pay (N - j) (bck K N (j - 1) % 2) (bck K N j) ∧ ¬(bck K N (j - 1) % 2 = 1 ∧ n ≤ N - j) ∧ bck K N (j - 1) = (2 * bck K N j + bck K N (j - 1) % 2) % 64)
  | 0, _ => ⟨hfar, fun h => by omega⟩
  | j + 1, hj => by
    obtain ⟨ih, _⟩ := h.way hfar j (by omega)
    have hs := bck_lt K N j
    have hi : N - (j + 1) < N := by omega
    have e1 : N - (j + 1) + 1 = N - j := by omega
    have e2 : N - 1 - j = N - (j + 1) := by omega
    have hno : ¬(bck K N j % 2 = 1 ∧ n ≤ N - (j + 1)) := by
      rintro ⟨h1, h2⟩
      have := h.no (N - (j + 1)) _ hi hs h1 h2
      rw [e1] at this
      omega
    have hy := h.yes (N - (j + 1)) _ hi hs hno
    rw [e1] at hy
    have eb : bck K N (j + 1) = bck K N j / 2 + (if K (N - (j + 1)) (bck K N j) = true then 32 else 0) := by rw [bck, e2]
    have hC : C (N - j) (bck K N j) = C (N - (j + 1)) (bck K N (j + 1)) + pay (N - (j + 1)) (bck K N j % 2) (bck K N (j + 1)) := by
      rw [hy, eb]
      split <;> rfl
    refine ⟨by omega, fun _ => ?_⟩
    rw [Nat.add_sub_cancel, e1]
    refine ⟨hC, hno, ?_⟩
    rw [eb]
    split <;> omega
theorem Vit.best {n N : Nat} {pay : Nat → Nat → Nat → Nat} {C : Nat → Nat → Nat} {K : Nat → Nat → Bool} (h : Vit n N pay C K) (hnN : n ≤ N) (hfar : C N 0 < far) : ∀ i, i ≤ N → cst (got K N n) i = bck K N (N - i) ∧ sumPay pay (got K N n) i = C i (bck K N (N - i))
  | 0, _ => by
    have h0 := (h.way hfar N (Nat.le_refl _)).1
    rw [Nat.sub_self, h.zero _ (bck_lt K N N)] at h0
    have e : bck K N N = 0 := by
      by_cases e : bck K N N = 0
      · exact e
      · rw [if_neg e] at h0; omega
    rw [Nat.sub_zero, e, h.zero 0 (by decide), if_pos rfl]
    exact ⟨by simp [cst], rfl⟩
  | i + 1, hi => by
    obtain ⟨i1, i2⟩ := h.best hnN hfar i (by omega)
    obtain ⟨w1, w2⟩ := h.way hfar (N - i) (by omega)
    obtain ⟨w3, w4, w5⟩ := w2 (by omega)
    rw [show N - (N - i) = i by omega] at w3 w4
    rw [show N - i - 1 = N - (i + 1) by omega] at w3 w4 w5
    have hb : nth (got K N n) i = bck K N (N - (i + 1)) % 2 := by
      rw [got_nth, show N - 1 - i = N - (i + 1) by omega]
      split
      · rfl
      · have : ¬ bck K N (N - (i + 1)) % 2 = 1 := fun e => w4 ⟨e, by omega⟩
        omega
    constructor
    · show (2 * cst (got K N n) i + nth (got K N n) i) % 64 = _
      rw [i1, hb, ← w5]
    · show sumPay pay (got K N n) i + pay i (nth (got K N n) i) (cst (got K N n) i) = _
      rw [i1, i2, hb, w3]
end Go.Proofs.Ytaedanklpedmkaa
