/- How far the symbols of unlike bits are apart: a potential over phases and states. Printed by wip/convol/gendist.py. -/
import Derived.Test.YtaedanklpedmkaaCountC
namespace Go.Proofs.Ytaedanklpedmkaa
set_option linter.unusedVariables false

/-- what must still differ, from a difference of states on -/
def potT : Nat → List (List Nat)
  | 1 => [[0, 8, 7, 7, 5, 7, 6, 6, 3, 5, 6, 6, 6, 6, 5, 7, 3, 7, 4, 6, 6, 6, 5, 7, 4, 6, 7, 5, 5, 7, 6, 6, 2, 8, 5, 7, 3, 7, 6, 6, 5, 5, 6, 6, 4, 6, 7, 7, 3, 5, 4, 6, 6, 6, 5, 7, 4, 4, 7, 7, 5, 7, 6, 6]]
  | 2 => [[0, 5, 5, 4, 4, 5, 4, 4, 3, 3, 4, 5, 4, 5, 3, 4, 2, 4, 4, 5, 4, 4, 4, 4, 3, 4, 4, 3, 3, 4, 4, 4, 2, 5, 3, 4, 2, 5, 3, 4, 4, 3, 4, 5, 3, 5, 4, 4, 2, 4, 4, 4, 4, 4, 4, 4, 3, 3, 4, 4, 3, 4, 4, 3], [0, 5, 5, 4, 3, 5, 4, 3, 2, 4, 4, 4, 4, 3, 3, 4, 3, 4, 2, 3, 4, 4, 4, 4, 3, 4, 4, 4, 3, 4, 4, 3, 1, 4, 4, 4, 3, 4, 5, 4, 3, 5, 4, 4, 3, 4, 4, 4, 2, 3, 3, 4, 3, 5, 3, 4, 2, 4, 4, 4, 3, 4, 3, 4]]
  | 3 => [[0, 4, 3, 4, 3, 4, 3, 4, 2, 3, 3, 3, 3, 5, 3, 4, 2, 3, 3, 3, 4, 3, 3, 2, 2, 3, 3, 2, 3, 3, 4, 4, 2, 4, 3, 4, 2, 4, 3, 4, 4, 3, 3, 3, 3, 5, 4, 4, 2, 3, 3, 4, 4, 3, 3, 3, 2, 3, 3, 3, 3, 4, 4, 2], [0, 4, 3, 4, 3, 3, 3, 3, 2, 3, 3, 4, 3, 3, 3, 3, 2, 4, 2, 4, 3, 3, 2, 4, 3, 3, 4, 4, 3, 4, 3, 3, 1, 3, 3, 3, 2, 3, 3, 4, 3, 3, 3, 3, 2, 3, 3, 2, 1, 3, 3, 3, 3, 2, 2, 3, 3, 2, 3, 4, 3, 3, 2, 4], [0, 4, 4, 3, 3, 3, 3, 4, 2, 3, 3, 3, 3, 3, 3, 4, 2, 4, 3, 3, 3, 3, 3, 4, 2, 4, 3, 3, 3, 3, 3, 2, 1, 3, 3, 4, 2, 3, 4, 3, 3, 3, 4, 2, 2, 2, 3, 4, 3, 3, 2, 4, 4, 3, 4, 4, 3, 3, 4, 3, 2, 3, 4, 3]]
  | 4 => [[0, 3, 3, 3, 2, 3, 2, 2, 2, 3, 3, 3, 2, 3, 2, 3, 2, 3, 3, 3, 3, 2, 2, 3, 2, 3, 3, 3, 3, 3, 3, 2, 2, 3, 3, 3, 1, 3, 2, 2, 3, 3, 2, 3, 3, 3, 3, 3, 2, 2, 3, 3, 3, 2, 2, 2, 2, 3, 3, 3, 3, 3, 3, 2], [0, 2, 2, 3, 3, 3, 2, 2, 1, 2, 3, 2, 2, 2, 1, 3, 2, 3, 2, 2, 2, 3, 3, 3, 3, 2, 3, 2, 2, 3, 3, 2, 1, 3, 2, 3, 2, 3, 3, 3, 2, 3, 2, 2, 1, 3, 2, 3, 1, 3, 3, 3, 2, 3, 3, 3, 2, 2, 3, 3, 3, 3, 2, 2], [0, 3, 2, 3, 2, 2, 3, 3, 2, 3, 3, 3, 2, 3, 2, 3, 1, 2, 2, 3, 2, 3, 2, 2, 1, 2, 3, 2, 1, 3, 3, 3, 1, 3, 3, 3, 2, 3, 2, 3, 2, 2, 3, 3, 3, 3, 3, 3, 2, 3, 2, 2, 3, 3, 2, 3, 2, 3, 3, 3, 2, 3, 2, 2], [0, 3, 3, 3, 3, 2, 3, 3, 2, 2, 2, 3, 3, 2, 3, 3, 2, 2, 2, 3, 3, 3, 3, 3, 3, 2, 3, 3, 2, 3, 3, 3, 1, 2, 3, 2, 2, 2, 3, 2, 3, 2, 3, 3, 2, 2, 3, 2, 1, 2, 3, 2, 3, 3, 2, 3, 3, 1, 3, 3, 3, 2, 2, 3], [0, 3, 3, 2, 3, 3, 2, 3, 2, 3, 2, 2, 3, 3, 3, 2, 2, 3, 2, 2, 3, 2, 3, 3, 2, 3, 2, 2, 3, 3, 3, 2, 1, 3, 2, 2, 2, 3, 3, 2, 3, 3, 3, 3, 2, 3, 3, 3, 3, 3, 1, 2, 3, 3, 3, 3, 2, 3, 3, 2, 2, 3, 3, 3]]
  | _ => [[0, 3, 2, 3, 2, 3, 2, 3, 2, 2, 2, 3, 3, 2, 1, 3, 2, 1, 2, 2, 3, 2, 3, 2, 2, 2, 3, 2, 2, 2, 3, 2, 2, 3, 2, 3, 2, 3, 2, 3, 3, 2, 2, 3, 2, 2, 2, 3, 2, 2, 2, 2, 3, 2, 3, 2, 2, 2, 3, 2, 2, 2, 3, 2], [0, 2, 2, 2, 2, 2, 2, 2, 2, 2, 2, 2, 2, 2, 2, 2, 2, 3, 1, 2, 2, 2, 3, 2, 2, 3, 3, 1, 1, 2, 3, 3, 1, 2, 2, 1, 2, 1, 2, 2, 2, 3, 2, 2, 2, 2, 2, 2, 1, 2, 2, 2, 3, 2, 2, 2, 1, 2, 2, 2, 2, 3, 2, 2], [0, 2, 2, 2, 2, 2, 1, 2, 2, 2, 1, 2, 2, 2, 2, 2, 2, 2, 2, 3, 2, 2, 2, 2, 2, 2, 2, 2, 2, 2, 2, 2, 1, 2, 2, 3, 1, 2, 2, 2, 2, 3, 2, 2, 2, 3, 2, 2, 1, 3, 2, 3, 3, 2, 1, 3, 1, 3, 2, 3, 2, 3, 2, 3], [0, 3, 2, 2, 2, 2, 3, 2, 1, 2, 2, 2, 1, 2, 2, 2, 2, 2, 2, 3, 3, 1, 2, 2, 2, 2, 3, 2, 2, 2, 2, 2, 1, 2, 3, 2, 2, 2, 3, 3, 2, 3, 2, 2, 1, 2, 3, 2, 1, 2, 3, 2, 2, 2, 2, 3, 2, 2, 2, 3, 2, 2, 3, 2], [0, 2, 3, 2, 3, 2, 2, 2, 2, 2, 2, 2, 3, 3, 2, 3, 1, 3, 2, 3, 2, 2, 2, 2, 1, 1, 2, 2, 2, 3, 2, 2, 1, 2, 2, 2, 2, 3, 3, 2, 3, 2, 1, 3, 2, 2, 3, 2, 2, 2, 2, 2, 3, 2, 2, 3, 2, 2, 2, 2, 3, 2, 2, 2], [0, 3, 2, 2, 2, 3, 2, 2, 2, 3, 2, 3, 2, 3, 2, 2, 2, 3, 2, 2, 1, 3, 2, 3, 2, 3, 3, 2, 2, 3, 2, 3, 1, 2, 2, 3, 2, 2, 3, 2, 3, 2, 2, 2, 2, 2, 3, 2, 1, 2, 3, 1, 2, 2, 2, 2, 3, 2, 3, 2, 2, 2, 2, 2], [0, 3, 3, 2, 2, 2, 3, 2, 2, 2, 2, 3, 2, 3, 2, 2, 2, 3, 3, 2, 2, 2, 2, 3, 2, 2, 2, 3, 2, 3, 2, 2, 1, 2, 2, 3, 2, 3, 2, 1, 1, 2, 3, 2, 2, 2, 2, 3, 3, 2, 2, 3, 3, 3, 2, 2, 2, 2, 3, 2, 2, 2, 2, 3]]
def per (r : Nat) : Nat := (ba r).length
def potV (r ph s : Nat) : Nat := ((potT r).getD ph []).getD s 0
def dmin : Nat → Nat
  | 1 => 9 | 2 => 5 | 3 => 5 | 4 => 3 | _ => 3
def p2 (w : Nat) : Nat := pop (w &&& 109) % 2
/-- how many symbols differ where the seven bits differ by w -/
def wtd (r i w : Nat) : Nat := (if ka r i = true then q1 w else 0) + (if kb r i = true then p2 w else 0)
theorem ka_per (r i : Nat) : ka r (i % per r) = ka r i := by unfold ka per; rw [Nat.mod_mod]
theorem kb_per (r i : Nat) : kb r (i % per r) = kb r i := by unfold kb per; rw [Nat.mod_mod]
theorem wtd_per (r i w : Nat) : wtd r (i % per r) w = wtd r i w := by unfold wtd; rw [ka_per, kb_per]
theorem per_pos (r : Nat) (h1 : 1 ≤ r) (h5 : r ≤ 5) : 0 < per r := by
  rcases (show r = 1 ∨ r = 2 ∨ r = 3 ∨ r = 4 ∨ r = 5 by omega) with rfl | rfl | rfl | rfl | rfl <;> decide
set_option maxRecDepth 100000 in
theorem pot_all : ∀ r, r < 6 → 1 ≤ r → ∀ ph, ph < per r → (∀ s, s < 64 → ∀ b, b < 2 → potV r ph s ≤ wtd r ph (2 * s + b) + potV r ((ph + 1) % per r) ((2 * s + b) % 64)) ∧ dmin r ≤ wtd r ph 1 + potV r ((ph + 1) % per r) 1 ∧ potV r ph 0 = 0 := by decide +kernel
theorem pot_step (r i s b : Nat) (h1 : 1 ≤ r) (h5 : r ≤ 5) (hs : s < 64) (hb : b < 2) : potV r (i % per r) s ≤ wtd r i (2 * s + b) + potV r ((i + 1) % per r) ((2 * s + b) % 64) := by
  have h := (pot_all r (by omega) h1 (i % per r) (Nat.mod_lt _ (per_pos r h1 h5))).1 s hs b hb
  rwa [wtd_per, Nat.mod_add_mod] at h
theorem pot_leave (r i : Nat) (h1 : 1 ≤ r) (h5 : r ≤ 5) : dmin r ≤ wtd r i 1 + potV r ((i + 1) % per r) 1 := by
  have h := (pot_all r (by omega) h1 (i % per r) (Nat.mod_lt _ (per_pos r h1 h5))).2.1
  rwa [wtd_per, Nat.mod_add_mod] at h
theorem pot_zero (r i : Nat) (h1 : 1 ≤ r) (h5 : r ≤ 5) : potV r (i % per r) 0 = 0 := (pot_all r (by omega) h1 (i % per r) (Nat.mod_lt _ (per_pos r h1 h5))).2.2
set_option maxRecDepth 100000 in
/-- the symbols differ as the difference says -/
theorem q_lin : ∀ x, x < 128 → ∀ y, y < 128 → ((if q1 x = q1 y then 0 else 1) = q1 (x ^^^ y) ∧ (if q2 x = q2 y then 0 else 1) = p2 (x ^^^ y)) := by decide +kernel

/-- how many of the first i bits' symbols differ -/
def dis (r : Nat) (a b : List Nat) : Nat → Nat
  | 0 => 0
  | i + 1 => dis r a b i + wtd r i ((2 * cst a i + nth a i) ^^^ (2 * cst b i + nth b i))
set_option maxRecDepth 100000 in
theorem xor_pair : ∀ s, s < 64 → ∀ t, t < 64 → ∀ a, a < 2 → ∀ b, b < 2 → (2 * s + a) ^^^ (2 * t + b) = 2 * (s ^^^ t) + (a ^^^ b) := by decide +kernel
theorem xor_lt64 {s t : Nat} (hs : s < 64) (ht : t < 64) : s ^^^ t < 64 := Nat.xor_lt_two_pow (n := 6) hs ht
theorem xor_lt2 {a b : Nat} (ha : a < 2) (hb : b < 2) : a ^^^ b < 2 := Nat.xor_lt_two_pow (n := 1) ha hb
/-- how the states differ -/
def dst (a b : List Nat) (i : Nat) : Nat := cst a i ^^^ cst b i
theorem dst_lt (a b : List Nat) (i : Nat) : dst a b i < 64 := xor_lt64 (cst_lt a i) (cst_lt b i)
theorem dst_succ (a b : List Nat) (ha : ∀ i, nth a i ≤ 1) (hb : ∀ i, nth b i ≤ 1) (i : Nat) : dst a b (i + 1) = (2 * dst a b i + (nth a i ^^^ nth b i)) % 64 := by
  show (2 * cst a i + nth a i) % 64 ^^^ (2 * cst b i + nth b i) % 64 = _
  have h := Nat.xor_mod_two_pow (a := 2 * cst a i + nth a i) (b := 2 * cst b i + nth b i) (n := 6)
  rw [show (64 : Nat) = 2 ^ 6 from rfl, ← h, xor_pair _ (cst_lt a i) _ (cst_lt b i) _ (by have := ha i; omega) _ (by have := hb i; omega)]
  rfl
theorem dis_succ (r : Nat) (a b : List Nat) (ha : ∀ i, nth a i ≤ 1) (hb : ∀ i, nth b i ≤ 1) (i : Nat) : dis r a b (i + 1) = dis r a b i + wtd r i (2 * dst a b i + (nth a i ^^^ nth b i)) := by
  show dis r a b i + wtd r i _ = _
  rw [xor_pair _ (cst_lt a i) _ (cst_lt b i) _ (by have := ha i; omega) _ (by have := hb i; omega)]
  rfl
theorem cst_tail (a : List Nat) (n : Nat) (h : ∀ i, n ≤ i → nth a i = 0) : ∀ j, cst a (n + j) = (cst a n * 2 ^ j) % 64
  | 0 => by rw [Nat.add_zero, Nat.pow_zero, Nat.mul_one, Nat.mod_eq_of_lt (cst_lt a n)]
  | j + 1 => by
    show (2 * cst a (n + j) + nth a (n + j)) % 64 = _
    rw [cst_tail a n h j, h (n + j) (by omega), Nat.pow_succ, ← Nat.mul_assoc]
    generalize cst a n * 2 ^ j = t
    omega
theorem cst_end (a : List Nat) (n : Nat) (h : ∀ i, n ≤ i → nth a i = 0) : cst a (n + 6) = 0 := by
  rw [cst_tail a n h 6]
  omega
/-- the symbols of unlike bits differ at no fewer places than dmin -/
theorem far_apart (r : Nat) (h1 : 1 ≤ r) (h5 : r ≤ 5) (a b : List Nat) (n : Nat) (ha : ∀ i, nth a i ≤ 1) (hb : ∀ i, nth b i ≤ 1) (hal : ∀ i, n ≤ i → nth a i = 0) (hbl : ∀ i, n ≤ i → nth b i = 0) (hne : ∃ i, nth a i ≠ nth b i) : dmin r ≤ dis r a b (n + 6) := by
  have inv : ∀ i, ((∀ j, j < i → nth a j = nth b j) ∧ dst a b i = 0) ∨ dmin r ≤ dis r a b i + potV r (i % per r) (dst a b i) := by
    intro i
    induction i with
    | zero => exact .inl ⟨fun j h => by omega, by simp [dst, cst]⟩
    | succ i ih =>
      rw [dis_succ r a b ha hb, dst_succ a b ha hb]
      have hx := xor_lt2 (show nth a i < 2 by have := ha i; omega) (show nth b i < 2 by have := hb i; omega)
      rcases ih with ⟨e1, e2⟩ | h
      · rw [e2]
        by_cases e : nth a i = nth b i
        · left
          rw [e, Nat.xor_self]
          exact ⟨fun j hj => by
            by_cases e3 : j = i
            · rw [e3]; exact e
            · exact e1 j (by omega), rfl⟩
        · right
          have h1' : nth a i ^^^ nth b i = 1 := by
            have := ha i
            have := hb i
            rcases (show nth a i = 0 ∨ nth a i = 1 by omega) with h2 | h2 <;> rcases (show nth b i = 0 ∨ nth b i = 1 by omega) with h3 | h3 <;> first | (exact absurd (h2.trans h3.symm) e) | (rw [h2, h3]; rfl)
          rw [h1']
          have := pot_leave r i h1 h5
          show dmin r ≤ dis r a b i + wtd r i 1 + potV r ((i + 1) % per r) 1
          omega
      · right
        have := pot_step r i (dst a b i) (nth a i ^^^ nth b i) h1 h5 (dst_lt a b i) hx
        omega
  rcases inv (n + 6) with ⟨e1, _⟩ | h
  · obtain ⟨i, hi⟩ := hne
    by_cases h : i < n + 6
    · exact absurd (e1 i h) hi
    · exact absurd ((hal i (by omega)).trans (hbl i (by omega)).symm) hi
  · have e : dst a b (n + 6) = 0 := by
      unfold dst
      rw [cst_end a n hal, cst_end b n hbl]
      rfl
    rw [e, pot_zero r (n + 6) h1 h5] at h
    exact h
end Go.Proofs.Ytaedanklpedmkaa
