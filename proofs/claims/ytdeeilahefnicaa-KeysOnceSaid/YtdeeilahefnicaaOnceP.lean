/- Keys: what was let in, and Seen. No program in sight. -/
import Derived.Test.YtdeeilahefnicaaOnceAll
import Derived.Test.YtdeeilahefnicaaMay
namespace Go.Proofs.Ytdeeilahefnicaa
set_option linter.unusedVariables false

/-- how Top and Seen stand to what was let in: tn the highest one (-1: none), dn which ones -/
def OInv (base : Nat) (tn : Int) (dn : List Bool) (T : Int) (s : Nat) : Prop :=
  dn.length = 400 ∧ s < 2 ^ 62 ∧ ((tn = -1 ∧ T = -1 ∧ s = 0 ∧ ∀ j, dn.getD j false = false) ∨
    ∃ t : Nat, tn = (t : Int) ∧ t < 400 ∧ T = ((base + t : Nat) : Int) ∧ dn.getD t false = true ∧ (∀ j, t < j → dn.getD j false = false) ∧ ∀ i, i < 62 → s.testBit i = (decide (i < t) && dn.getD (t - 1 - i) false))

theorem oinv_start (base : Nat) : OInv base (-1) (List.replicate 400 false) (-1) 0 :=
  ⟨List.length_replicate, by decide, .inl ⟨rfl, rfl, rfl, fun j => by
    rw [List.getD_eq_getElem?_getD, List.getElem?_replicate]; split <;> rfl⟩⟩
theorem getD_setB (l : List Bool) (n j : Nat) (h : n < l.length) : (l.set n true).getD j false = (decide (j = n) || l.getD j false) := by
  simp only [List.getD_eq_getElem?_getD, List.getElem?_set]
  by_cases e : n = j
  · subst e; simp [h]
  · have e' : ¬ j = n := fun h => e h.symm
    simp [e, e']
theorem lt_of_bits {s t : Nat} (hs : s < 2 ^ 62) (h : ∀ i, i < 62 → s.testBit i = true → i < t) : s < 2 ^ t := by
  apply Nat.lt_pow_two_of_testBit
  intro i hi
  rcases Nat.lt_or_ge i 62 with h1 | h1
  · cases hb : s.testBit i with
    | false => rfl
    | true => have := h i h1 hb; omega
  · exact Nat.testBit_lt_two_pow (Nat.lt_of_lt_of_le hs (Nat.pow_le_pow_right (by decide) h1))
theorem oinv_key {base : Nat} {tn : Int} {dn : List Bool} {T : Int} {s : Nat} (h : OInv base tn dn T s) (hb : base < 1000000) (p : Nat) (hp : p < 256) (ws : List Int) (hw : Words ws) : KeyOk (p : Int) T (s : Int) ws := by
  obtain ⟨hl, hs, h⟩ := h
  refine ⟨⟨by omega, by omega⟩, hw, ?_, ⟨by omega, by omega⟩, ?_⟩
  · rcases h with ⟨_, rfl, _⟩ | ⟨t, _, ht, rfl, _⟩ <;> omega
  · rcases h with ⟨_, rfl, rfl, _⟩ | ⟨t, _, ht, rfl, _, _, hbit⟩
    · exact ⟨0, by decide, by decide⟩
    · refine ⟨min 62 (base + t), by omega, ?_⟩
      have h1 : s < 2 ^ t := lt_of_bits hs fun i hi hb => by
        rw [hbit i hi] at hb
        simp at hb
        exact hb.1
      have e : (s : Int).toNat = s := by omega
      rw [e]
      rcases Nat.le_total 62 (base + t) with h2 | h2
      · rw [Nat.min_eq_left h2]; exact hs
      · rw [Nat.min_eq_right h2]; exact Nat.lt_of_lt_of_le h1 (Nat.pow_le_pow_right (by decide) (by omega))
theorem oinv_tn {base : Nat} {tn : Int} {dn : List Bool} {T : Int} {s : Nat} (h : OInv base tn dn T s) : -1 ≤ tn ∧ tn ≤ 399 := by
  obtain ⟨_, _, ⟨rfl, _⟩ | ⟨t, rfl, ht, _⟩⟩ := h <;> omega
theorem oinv_old {base : Nat} {tn : Int} {dn : List Bool} {T : Int} {s n : Nat} (h : OInv base tn dn T s) (hn : n < 400) (hr : onceF T s (base + n) = none) : dn.getD n false = true ∨ ¬ tn - 62 ≤ (n : Int) := by
  obtain ⟨hl, hs, ⟨rfl, rfl, rfl, hd⟩ | ⟨t, rfl, ht, rfl, hdt, hup, hbit⟩⟩ := h
  · unfold onceF at hr
    rw [if_pos (by decide)] at hr
    cases hr
  · unfold onceF at hr
    rw [if_neg (by omega)] at hr
    split at hr
    · rename_i h1
      rcases h1 with h1 | h1
      · have : n = t := by omega
        subst this; exact .inl hdt
      · exact .inr (by omega)
    · split at hr
      · split at hr
        · rename_i h1 h2 h3
          have e : (((base + t : Nat) : Int) - ((base + n : Nat) : Int) - 1).toNat = t - n - 1 := by omega
          rw [e, hbit _ (by omega)] at h3
          simp at h3
          left
          have e2 : t - 1 - (t - n - 1) = n := by omega
          have h4 := h3.2
          rw [e2] at h4
          simpa [List.getD_eq_getElem?_getD] using h4
        · cases hr
      · split at hr <;> cases hr
theorem upV_bit (s i j : Nat) (hj : j < 62) : (upV s i).testBit j = ((decide (i + 1 ≤ j) && s.testBit (j - (i + 1))) || decide (i = j)) := by
  unfold upV
  rw [Nat.testBit_mod_two_pow, Nat.testBit_or, Nat.testBit_shiftLeft, Nat.testBit_two_pow]
  simp [hj]
theorem oinv_new {base : Nat} {tn : Int} {dn : List Bool} {T : Int} {s n : Nat} (h : OInv base tn dn T s) (hn : n < 400) {T' : Int} {s' : Nat} (hr : onceF T s (base + n) = some (T', s')) :
    dn.getD n false = false ∧ tn - 62 ≤ (n : Int) ∧ OInv base (if tn < (n : Int) then (n : Int) else tn) (dn.set n true) T' s' := by
  obtain ⟨hl, hs, ⟨rfl, rfl, rfl, hd⟩ | ⟨t, rfl, ht, rfl, hdt, hup, hbit⟩⟩ := h
  · unfold onceF at hr
    rw [if_pos (by decide)] at hr
    cases hr
    refine ⟨hd n, by omega, by rw [List.length_set]; exact hl, by decide, .inr ⟨n, by rw [if_pos (by omega)], hn, rfl, ?_, ?_, ?_⟩⟩
    · rw [getD_setB _ _ _ (by omega)]; simp
    · intro j hj
      rw [getD_setB _ _ _ (by omega), hd j]; simp; omega
    · intro i hi
      rw [getD_setB _ _ _ (by omega), hd]
      simp
      omega
  · unfold onceF at hr
    rw [if_neg (by omega)] at hr
    split at hr
    · cases hr
    · rename_i h1
      split at hr
      · rename_i h2
        obtain ⟨i, hi⟩ : ∃ i, t = n + 1 + i := ⟨t - n - 1, by omega⟩
        have e : (((base + t : Nat) : Int) - ((base + n : Nat) : Int) - 1).toNat = i := by omega
        rw [e] at hr
        have hi62 : i < 62 := by omega
        have e2 : t - 1 - i = n := by omega
        split at hr
        · cases hr
        · rename_i h3
          cases hr
          have h4 := hbit i hi62
          rw [e2] at h4
          have h5 : dn.getD n false = false := by
            cases hb : dn.getD n false with
            | false => rfl
            | true => rw [hb] at h4; simp at h4; exact absurd (h4 ▸ (by simp; omega)) h3
          refine ⟨h5, by omega, by rw [List.length_set]; exact hl, ?_, .inr ⟨t, by rw [if_neg (by omega)], ht, rfl, ?_, ?_, ?_⟩⟩
          · exact Nat.or_lt_two_pow hs (Nat.pow_lt_pow_right (by decide) hi62)
          · rw [getD_setB _ _ _ (by omega), hdt]; simp
          · intro j hj
            rw [getD_setB _ _ _ (by omega), hup j hj]; simp; omega
          · intro j hj
            rw [getD_setB _ _ _ (by omega), Nat.testBit_or, Nat.testBit_two_pow, hbit j hj]
            by_cases hij : i = j
            · subst hij
              rw [e2]; simp; omega
            · have hne : ¬ t - 1 - j = n ∨ ¬ j < t := by omega
              rcases hne with hne | hne
              · simp [hij, hne]
              · simp [hij, hne]
      · rename_i h2
        have hnd : dn.getD n false = false := hup n (by omega)
        split at hr
        · rename_i h3
          cases hr
          refine ⟨hnd, by omega, by rw [List.length_set]; exact hl, by decide, .inr ⟨n, by rw [if_pos (by omega)], hn, rfl, ?_, ?_, ?_⟩⟩
          · rw [getD_setB _ _ _ (by omega)]; simp
          · intro j hj
            rw [getD_setB _ _ _ (by omega), hup j (by omega)]; simp; omega
          · intro i hi
            rw [getD_setB _ _ _ (by omega), hup _ (by omega)]
            simp
            omega
        · rename_i h3
          obtain ⟨i, hi⟩ : ∃ i, n = t + 1 + i := ⟨n - t - 1, by omega⟩
          have e : (((base + n : Nat) : Int) - ((base + t : Nat) : Int) - 1).toNat = i := by omega
          rw [e] at hr
          cases hr
          have hi62 : i < 62 := by omega
          refine ⟨hnd, by omega, by rw [List.length_set]; exact hl, upV_lt _ _, .inr ⟨n, by rw [if_pos (by omega)], hn, rfl, ?_, ?_, ?_⟩⟩
          · rw [getD_setB _ _ _ (by omega)]; simp
          · intro j hj
            rw [getD_setB _ _ _ (by omega), hup j (by omega)]; simp; omega
          · intro j hj
            rw [upV_bit _ _ _ hj, getD_setB _ _ _ (by omega)]
            have hjn : ¬ n - 1 - j = n := by omega
            rcases Nat.lt_trichotomy j i with hji | hji | hji
            · rw [hup _ (by omega)]
              have e6 : decide (i + 1 ≤ j) = false := by simp; omega
              have e8 : decide (n - 1 - j = n) = false := by simp; omega
              have e9 : decide (i = j) = false := by simp; omega
              rw [e6, e8, e9]; simp
            · subst hji
              have e3 : n - 1 - j = t := by omega
              rw [e3, hdt]; simp; omega
            · rw [hbit _ (by omega)]
              have e3 : n - 1 - j = t - 1 - (j - (i + 1)) ∨ ¬ j < n := by omega
              by_cases hjn2 : j < n
              · have e4 : n - 1 - j = t - 1 - (j - (i + 1)) := by omega
                rw [e4]
                have e5 : decide (j - (i + 1) < t) = true := by simp; omega
                have e6 : decide (i + 1 ≤ j) = true := by simp; omega
                have e7 : decide (j < n) = true := by simp; omega
                have e8 : decide (t - 1 - (j - (i + 1)) = n) = false := by simp; omega
                have e9 : decide (i = j) = false := by simp; omega
                rw [e5, e6, e7, e8, e9]; simp
              · have e5 : decide (j - (i + 1) < t) = false := by simp; omega
                have e7 : decide (j < n) = false := by simp; omega
                have e9 : decide (i = j) = false := by simp; omega
                rw [e5, e7, e9]; simp
end Go.Proofs.Ytdeeilahefnicaa
