/- ConvolMends in plain words: hard symbols, a few of them turned round. -/
import Derived.Test.YtaedanklpedmkaaGatherC
namespace Go.Proofs.Ytaedanklpedmkaa
set_option linter.unusedVariables false
open Go.RowKit

/-- how many may be turned round -/
def fw : Nat → Nat
  | 1 => 4 | 2 => 2 | 3 => 2 | 4 => 1 | _ => 1
theorem fw_dmin (r : Nat) (h1 : 1 ≤ r) (h5 : r ≤ 5) : 2 * fw r < dmin r := by
  rcases (show r = 1 ∨ r = 2 ∨ r = 3 ∨ r = 4 ∨ r = 5 by omega) with rfl | rfl | rfl | rfl | rfl <;> decide
theorem one_kept (r i : Nat) (h1 : 1 ≤ r) (h5 : r ≤ 5) : ka r i = true ∨ kb r i = true := by
  have key : ∀ r, r < 6 → 1 ≤ r → ∀ j, j < per r → ka r j = true ∨ kb r j = true := by decide +kernel
  rw [← ka_per, ← kb_per]
  exact key r (by omega) h1 _ (Nat.mod_lt _ (per_pos r h1 h5))
theorem cnt_ge (r : Nat) (h1 : 1 ≤ r) (h5 : r ≤ 5) : ∀ i, i ≤ cntTo r i
  | 0 => Nat.le_refl _
  | i + 1 => by
    have := cnt_ge r h1 h5 i
    rw [cntTo]
    rcases one_kept r i h1 h5 with h | h
    · rw [if_pos h]; omega
    · rw [if_pos h]; omega
/-- hard symbols as soft ones -/
def sf (h : Nat → Nat) (L : Nat) : List Int := (List.range L).map fun j => 7 * (2 * (h j : Int) - 1)
theorem sf_len (h : Nat → Nat) (L : Nat) : (sf h L).length = L := by simp [sf]
theorem sf_getD (h : Nat → Nat) (L j : Nat) (hj : j < L) : (sf h L).getD j 0 = 7 * (2 * (h j : Int) - 1) := by simp [sf, hj]
theorem sf_soft (h : Nat → Nat) (L : Nat) (hh : ∀ j, h j ≤ 1) : Soft (sf h L) := fun j => by
  rcases Nat.lt_or_ge j L with hj | hj
  · rw [sf_getD h L j hj]
    have := hh j
    omega
  · rw [List.getD_eq_getElem?_getD, List.getElem?_eq_none (by rw [sf_len]; exact hj)]
    exact ⟨by decide, by decide⟩
/-- a symbol is turned round -/
def turn (h : Nat → Nat) (p : Nat) : Nat → Nat := fun j => if j = p then 1 - h j else h j
theorem turn_le (h : Nat → Nat) (p : Nat) (hh : ∀ j, h j ≤ 1) (j : Nat) : turn h p j ≤ 1 := by
  unfold turn
  have := hh j
  split <;> omega
theorem sf_set (h : Nat → Nat) (L p : Nat) (hp : p < L) (x : Int) (hx : x = 7 * (2 * ((1 - h p : Nat) : Int) - 1)) : (sf h L).set p x = sf (turn h p) L := by
  refine List.ext_getElem (by simp [sf]) fun j h1 h2 => ?_
  rw [List.getElem_set]
  simp only [sf, List.getElem_map, List.getElem_range, turn]
  by_cases e : p = j
  · rw [if_pos e, if_pos e.symm, hx, e]
  · rw [if_neg e, if_neg (fun h => e h.symm)]
theorem ham_one (h : Nat → Nat) (p : Nat) : ∀ n, ham h (turn h p) n ≤ if p < n then 1 else 0
  | 0 => Nat.zero_le _
  | n + 1 => by
    have ih := ham_one h p n
    show ham h (turn h p) n + (if h n = turn h p n then 0 else 1) ≤ _
    by_cases e : n = p
    · subst e
      rw [if_neg (by omega)] at ih
      rw [show (if n < n + 1 then 1 else 0) = 1 from if_pos (by omega)]
      split <;> omega
    · have : h n = turn h p n := by unfold turn; rw [if_neg e]
      rw [if_pos this]
      by_cases e2 : p < n
      · rw [if_pos e2] at ih; rw [if_pos (by omega)]; omega
      · rw [if_neg e2] at ih; rw [if_neg (by omega)]; omega
theorem ham_turn (x h : Nat → Nat) (p n : Nat) : ham x (turn h p) n ≤ ham x h n + 1 := by
  have h1 := ham_tri x h (turn h p) n
  have h2 := ham_one h p n
  split at h2 <;> omega
theorem ham_self (x : Nat → Nat) (n : Nat) : ham x x n = 0 := by
  unfold ham
  induction n with
  | zero => rfl
  | succ n ih => rw [nsum, ih, if_pos rfl]
theorem Vit.congr {n N : Nat} {pay pay' : Nat → Nat → Nat → Nat} {C : Nat → Nat → Nat} {K : Nat → Nat → Bool} (h : Vit n N pay C K) (he : ∀ i, i < N → ∀ b s, pay i b s = pay' i b s) : Vit n N pay' C K where
  zero := h.zero
  no := h.no
  yes := fun i s hi hs hn => by rw [← he i hi, ← he i hi]; exact h.yes i s hi hs hn
  up := fun i s hi hs hk => by rw [← he i hi, ← he i hi]; exact h.up i s hi hs hk
  lo := fun i s hi hs hk => by rw [← he i hi, ← he i hi]; exact h.lo i s hi hs hk
theorem pay_sf (r n : Nat) (h : Nat → Nat) (i : Nat) (hi : i < n + 6) (b s : Nat) : payS r (fun j => (sf h (cntTo r (n + 6))).getD j 0) i b s = payS r (fun j => 7 * (2 * (h j : Int) - 1)) i b s := by
  have hm := cnt_mono r (i + 1) (n + 6) hi
  have hs : cntTo r (i + 1) = cntTo r i + (if ka r i = true then 1 else 0) + (if kb r i = true then 1 else 0) := rfl
  unfold payS
  congr 1
  · by_cases e : ka r i = true
    · rw [if_pos e] at hs
      rw [if_pos e, if_pos e]
      dsimp only
      rw [sf_getD _ _ _ (by omega)]
    · rw [if_neg e, if_neg e]
  · by_cases e : kb r i = true
    · rw [if_pos e] at hs
      rw [if_pos e, if_pos e]
      dsimp only
      rw [sf_getD _ _ _ (by omega)]
    · rw [if_neg e, if_neg e]
/-- what is gathered is what was spread -/
theorem mends_done (r n : Nat) (h1 : 1 ≤ r) (h5 : r ≤ 5) (l : List Nat) (hl : l.length = n) (hlb : ∀ i, nth l i ≤ 1) (h : Nat → Nat) (hh : ∀ j, h j ≤ 1) (hham : ham (nth (outTo r l (n + 6))) h (cntTo r (n + 6)) ≤ fw r) :
    got (chs r n (sf h (cntTo r (n + 6)))) (n + 6) n = l :=
  mends_plain r n (fw r) h1 h5 (fw_dmin r h1 h5) l hl hlb h hh hham _ _ ((trl_vit r n (sf h (cntTo r (n + 6)))).congr (pay_sf r n h))
end Go.Proofs.Ytaedanklpedmkaa
