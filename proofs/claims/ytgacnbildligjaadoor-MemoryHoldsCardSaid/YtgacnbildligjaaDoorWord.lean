/- A word of 32 bits as a code of 39: the plain law. No program in sight. -/
import Derived.Lib.TrailingZeros
namespace Go.Proofs.YtgacnbildligjaaDoor
set_option linter.unusedVariables false

/-- a place that has a bit of the word -/
def isFree (p : Nat) : Bool := (p &&& (p - 1)) != 0
/-- how many such places lie before p -/
def rank : Nat → Nat
  | 0 => 0
  | p + 1 => rank p + (if isFree p then 1 else 0)
/-- the places of ones among the first k, added up -/
def xs (c : Nat) : Nat → Nat
  | 0 => 0
  | k + 1 => xs c k ^^^ (if c.testBit k then k else 0)
/-- are the ones among the first k odd in number -/
def od (c : Nat) : Nat → Bool
  | 0 => false
  | k + 1 => (od c k) ^^ (c.testBit k)
/-- the word's bits at their places -/
def cw (n : Nat) : Nat → Nat
  | 0 => 0
  | p + 1 => if isFree p then cw n p ||| ((n >>> rank p &&& 1) <<< p) else cw n p
/-- the word out of its code -/
def dw (c : Nat) : Nat → Nat
  | 0 => 0
  | p + 1 => if isFree p then dw c p ||| ((c >>> p &&& 1) <<< rank p) else dw c p

theorem xs_lt (c k j : Nat) (h : k ≤ 2 ^ j) : xs c k < 2 ^ j := by
  induction k with
  | zero => exact Nat.two_pow_pos j
  | succ k ih =>
    unfold xs
    refine Nat.xor_lt_two_pow (ih (by omega)) ?_
    split
    · omega
    · exact Nat.two_pow_pos j
theorem xs_xor (a b k : Nat) : xs (a ^^^ b) k = xs a k ^^^ xs b k := by
  induction k with
  | zero => simp [xs]
  | succ k ih =>
    unfold xs
    rw [ih, Nat.testBit_xor]
    have e : ∀ (A B C D E : Nat), (∀ i, E.testBit i = ((C.testBit i) ^^ (D.testBit i))) → A ^^^ B ^^^ E = A ^^^ C ^^^ (B ^^^ D) := by
      intro A B C D E h
      apply Nat.eq_of_testBit_eq
      intro i
      simp only [Nat.testBit_xor, h]
      cases A.testBit i <;> cases B.testBit i <;> cases C.testBit i <;> cases D.testBit i <;> rfl
    apply e
    intro i
    cases a.testBit k <;> cases b.testBit k <;> simp
theorem od_xor (a b k : Nat) : od (a ^^^ b) k = ((od a k) ^^ (od b k)) := by
  induction k with
  | zero => rfl
  | succ k ih =>
    unfold od
    rw [ih, Nat.testBit_xor]
    cases a.testBit k <;> cases b.testBit k <;> cases od a k <;> cases od b k <;> rfl
theorem xs_pow (p k : Nat) : xs (2 ^ p) k = if p < k then p else 0 := by
  induction k with
  | zero => simp [xs]
  | succ k ih =>
    unfold xs
    rw [ih, Nat.testBit_two_pow]
    by_cases h : p = k
    · subst h; simp
    · by_cases h2 : p < k
      · simp [h, h2, show p < k + 1 by omega]
      · simp [h, h2, show ¬ p < k + 1 by omega]
theorem od_pow (p k : Nat) : od (2 ^ p) k = decide (p < k) := by
  induction k with
  | zero => simp [od]
  | succ k ih =>
    unfold od
    rw [ih, Nat.testBit_two_pow]
    by_cases h : p = k
    · subst h; simp
    · by_cases h2 : p < k
      · simp [h, h2, show p < k + 1 by omega]
      · simp [h, h2, show ¬ p < k + 1 by omega]
theorem xs_zero (k : Nat) : xs 0 k = 0 := by
  induction k with
  | zero => rfl
  | succ k ih => unfold xs; rw [ih]; simp
theorem od_zero (k : Nat) : od 0 k = false := by
  induction k with
  | zero => rfl
  | succ k ih => unfold od; rw [ih]; simp

/-- the lowest one, struck: what is left -/
theorem strike (w : Nat) (h0 : w ≠ 0) (h : w < 2 ^ 64) : w = (w &&& (w - 1)) ^^^ 2 ^ Lib.ctz 64 w ∧ (w &&& (w - 1)) < w := by
  obtain ⟨m, hm, hk⟩ := Lib.ctzFrom_spec 64 w (by omega) h
  have e : Lib.ctz 64 w = Lib.ctzFrom 64 w := by simp [Lib.ctz, h0]
  rw [e]
  generalize Lib.ctzFrom 64 w = t at *
  have hp := Nat.two_pow_pos t
  have e1 : w - 1 = 2 ^ t * (2 * m) + (2 ^ t - 1) := by rw [hm, Nat.mul_add]; omega
  have a1 : ∀ q, w.testBit q = if q < t then false else if q = t then true else m.testBit (q - t - 1) := by
    intro q
    rw [hm, Nat.mul_comm, Nat.testBit_mul_two_pow]
    by_cases h1 : q < t
    · simp [h1, show ¬ t ≤ q by omega]
    · by_cases h2 : q = t
      · subst h2; simp
      · obtain ⟨j, rfl⟩ : ∃ j, q = t + (j + 1) := ⟨q - t - 1, by omega⟩
        have e3 : t + (j + 1) - t = j + 1 := by omega
        simp only [e3, h1, h2, if_false, Nat.testBit_succ]
        have e4 : (2 * m + 1) / 2 = m := by omega
        have e5 : t ≤ t + (j + 1) := by omega
        simp [e4, e5]
  have a2 : ∀ q, (w - 1).testBit q = if q < t then true else if q = t then false else m.testBit (q - t - 1) := by
    intro q
    rw [e1, Nat.testBit_two_pow_mul_add _ (by omega)]
    by_cases h1 : q < t
    · simp [h1]
    · by_cases h2 : q = t
      · subst h2; simp
      · obtain ⟨j, rfl⟩ : ∃ j, q = t + (j + 1) := ⟨q - t - 1, by omega⟩
        have e3 : t + (j + 1) - t = j + 1 := by omega
        simp only [e3, h1, h2, if_false, Nat.testBit_succ]
        simp
  have a3 : w &&& (w - 1) = 2 ^ t * (2 * m) := by
    apply Nat.eq_of_testBit_eq
    intro q
    rw [Nat.testBit_and, a1, a2, Nat.mul_comm, Nat.testBit_mul_two_pow]
    by_cases h1 : q < t
    · simp [h1, show ¬ t ≤ q by omega]
    · by_cases h2 : q = t
      · subst h2; simp
      · obtain ⟨j, rfl⟩ : ∃ j, q = t + (j + 1) := ⟨q - t - 1, by omega⟩
        have e3 : t + (j + 1) - t = j + 1 := by omega
        simp only [e3, h1, h2, if_false, Nat.testBit_succ]
        simp
  constructor
  · apply Nat.eq_of_testBit_eq
    intro q
    rw [Nat.testBit_xor, a3, Nat.mul_comm, Nat.testBit_mul_two_pow, a1, Nat.testBit_two_pow]
    by_cases h1 : q < t
    · simp [h1, show ¬ t ≤ q by omega, show ¬ t = q by omega]
    · by_cases h2 : q = t
      · subst h2; simp
      · obtain ⟨j, rfl⟩ : ∃ j, q = t + (j + 1) := ⟨q - t - 1, by omega⟩
        have e3 : t + (j + 1) - t = j + 1 := by omega
        simp only [e3, h1, h2, if_false, Nat.testBit_succ]
        simp
  · rw [a3]
    have : w = 2 ^ t * (2 * m) + 2 ^ t := by rw [hm, Nat.mul_add, Nat.mul_one]
    omega

theorem ctz_lt (w k : Nat) (h0 : w ≠ 0) (h : w < 2 ^ k) (hk : k ≤ 64) : Lib.ctz 64 w < k := by
  have h64 : w < 2 ^ 64 := Nat.lt_of_lt_of_le h (Nat.pow_le_pow_right (by decide) hk)
  obtain ⟨m, hm, _⟩ := Lib.ctzFrom_spec 64 w (by omega) h64
  have e : Lib.ctz 64 w = Lib.ctzFrom 64 w := by simp [Lib.ctz, h0]
  rw [e]
  apply Nat.lt_of_not_le
  intro hle
  have h1 : 2 ^ k ≤ 2 ^ Lib.ctzFrom 64 w := Nat.pow_le_pow_right (by decide) hle
  have h2 : 2 ^ Lib.ctzFrom 64 w ≤ w := by
    have h3 : 2 ^ Lib.ctzFrom 64 w ≤ 2 ^ Lib.ctzFrom 64 w * (2 * m + 1) := Nat.le_mul_of_pos_right _ (by omega)
    generalize Lib.ctzFrom 64 w = t at *
    omega
  omega

theorem xs_strike (w : Nat) (h0 : w ≠ 0) (h : w < 2 ^ 39) : xs w 39 = xs (w &&& (w - 1)) 39 ^^^ Lib.ctz 64 w ∧ od w 39 = !(od (w &&& (w - 1)) 39) := by
  have h1 := (strike w h0 (by omega)).1
  have h2 := ctz_lt w 39 h0 h (by decide)
  have e1 : xs w 39 = xs ((w &&& (w - 1)) ^^^ 2 ^ Lib.ctz 64 w) 39 := by rw [← h1]
  have e2 : od w 39 = od ((w &&& (w - 1)) ^^^ 2 ^ Lib.ctz 64 w) 39 := by rw [← h1]
  rw [xs_xor, xs_pow, if_pos h2] at e1
  rw [od_xor, od_pow, decide_eq_true h2] at e2
  exact ⟨e1, by rw [e2]; cases od (w &&& (w - 1)) 39 <;> rfl⟩

theorem one_bit (i : Nat) (h : i ≠ 0) : Nat.testBit 1 i = false := by
  have := Nat.testBit_one_eq_true_iff_self_eq_zero (i := i)
  cases hh : Nat.testBit 1 i <;> simp_all
theorem rank_lt : ∀ q, q < 39 → isFree q = true → rank q < 32 := by decide
theorem cw_bit (n : Nat) : ∀ k q, (cw n k).testBit q = (decide (q < k) && isFree q && n.testBit (rank q)) := by
  intro k
  induction k with
  | zero => intro q; simp [cw]
  | succ k ih =>
    intro q
    unfold cw
    have hb : ((n >>> rank k &&& 1) <<< k).testBit q = (decide (q = k) && n.testBit (rank k)) := by
      rw [Nat.testBit_shiftLeft, Nat.testBit_and]
      by_cases h1 : q = k
      · subst h1; simp
      · by_cases h2 : q < k
        · simp [h1, show ¬ k ≤ q by omega]
        · simp [h1, one_bit (q - k) (by omega)]
    by_cases hf : isFree k
    · rw [if_pos hf, Nat.testBit_or, ih, hb]
      by_cases h1 : q = k
      · subst h1; simp [hf]
      · by_cases h2 : q < k
        · simp [h1, h2, show q < k + 1 by omega]
        · simp [h1, h2, show ¬ q < k + 1 by omega]
    · rw [if_neg hf, ih]
      by_cases h1 : q = k
      · subst h1; simp [hf]
      · by_cases h2 : q < k
        · simp [h2, show q < k + 1 by omega]
        · simp [h2, show ¬ q < k + 1 by omega]
theorem cw_lt (n k : Nat) : cw n k < 2 ^ k := by
  apply Nat.lt_pow_two_of_testBit
  intro i hi
  rw [cw_bit]
  simp; omega

theorem dw_eq (n c : Nat) : ∀ k, (∀ q, q < k → isFree q = true → c.testBit q = n.testBit (rank q)) → dw c k = n % 2 ^ rank k := by
  intro k
  induction k with
  | zero => intro _; simp [dw, rank]; omega
  | succ k ih =>
    intro h
    have hi := ih (fun q hq => h q (by omega))
    rw [show rank (k + 1) = rank k + (if isFree k then 1 else 0) from rfl, dw]
    by_cases hf : isFree k
    · rw [if_pos hf, if_pos hf, hi]
      have hk := h k (by omega) hf
      apply Nat.eq_of_testBit_eq
      intro i
      rw [Nat.testBit_or, Nat.testBit_mod_two_pow, Nat.testBit_mod_two_pow, Nat.testBit_shiftLeft, Nat.testBit_and, Nat.testBit_shiftRight]
      by_cases h1 : i = rank k
      · subst h1; simp [hk]
      · by_cases h2 : i < rank k
        · simp [h2, show i < rank k + 1 by omega, show ¬ rank k ≤ i by omega]
        · simp [h2, show ¬ i < rank k + 1 by omega, one_bit (i - rank k) (by omega)]
    · rw [if_neg hf, if_neg hf, hi, Nat.add_zero]

/-- c is the code of n -/
structure IsCode (c n : Nat) : Prop where
  lt : c < 2 ^ 39
  sum : xs c 39 = 0
  even : od c 39 = false
  bit : ∀ q, q < 39 → isFree q = true → c.testBit q = n.testBit (rank q)

/-- on the way: the first j of the bits that mend are laid -/
structure Half (S n c : Nat) (e : Bool) (j : Nat) : Prop where
  lt : c < 2 ^ 39
  sum : xs c 39 = S ^^^ (S % 2 ^ j)
  even : od c 39 = !e
  bit : ∀ q, q < 39 → isFree q = true → c.testBit q = n.testBit (rank q)
  none : ∀ i, j ≤ i → i < 6 → c.testBit (2 ^ i) = false
  zero : c.testBit 0 = false

theorem or_xor (c p : Nat) (h : c.testBit p = false) : c ||| 2 ^ p = c ^^^ 2 ^ p := by
  apply Nat.eq_of_testBit_eq
  intro i
  rw [Nat.testBit_or, Nat.testBit_xor, Nat.testBit_two_pow]
  by_cases hi : p = i
  · subst hi; simp [h]
  · simp [hi]

theorem pow_not_free : ∀ i, i < 6 → isFree (2 ^ i) = false := by decide
theorem half_start (n : Nat) : Half (xs (cw n 39) 39) n (cw n 39) (!(od (cw n 39) 39)) 0 := by
  refine ⟨cw_lt _ _, by simp [Nat.mod_one], by simp, fun q hq hf => ?_, fun i _ hi => ?_, ?_⟩
  · rw [cw_bit]; simp [hq, hf]
  · rw [cw_bit, pow_not_free i hi]; simp
  · rw [cw_bit, show isFree 0 = false by decide]; simp

theorem pow_lt_39 : ∀ i, i < 6 → 2 ^ i < 39 := by decide
theorem pow_pos_6 : ∀ i, i < 6 → 0 < 2 ^ i := by decide
theorem and_pow (S j : Nat) : (S &&& 2 ^ j ≠ 0) ↔ S.testBit j = true := by
  constructor
  · intro h
    obtain ⟨i, hi⟩ := Nat.exists_testBit_of_ne_zero h
    rw [Nat.testBit_and, Nat.testBit_two_pow] at hi
    simp at hi
    rw [hi.2]; exact hi.1
  · intro h h0
    have : (S &&& 2 ^ j).testBit j = true := by rw [Nat.testBit_and, Nat.testBit_two_pow, h]; simp
    rw [h0] at this
    simp at this
theorem mod_step (S j : Nat) : S % 2 ^ (j + 1) = S % 2 ^ j ^^^ (if S.testBit j then 2 ^ j else 0) := by
  apply Nat.eq_of_testBit_eq
  intro i
  rw [Nat.testBit_xor, Nat.testBit_mod_two_pow, Nat.testBit_mod_two_pow]
  by_cases h1 : i = j
  · subst h1
    cases h : S.testBit i <;> simp
  · have h4 : (if S.testBit j then 2 ^ j else 0).testBit i = false := by
      split
      · rw [Nat.testBit_two_pow]; simp; omega
      · simp
    rw [h4]
    by_cases h2 : i < j
    · simp [h2, show i < j + 1 by omega]
    · simp [h2, show ¬ i < j + 1 by omega]

theorem half_set {S n c j : Nat} {e : Bool} (h : Half S n c e j) (hj : j < 6) (hs : S.testBit j = true) : Half S n (c ||| 2 ^ 2 ^ j) (!e) (j + 1) := by
  have hn := h.none j (Nat.le_refl _) hj
  have hp := pow_lt_39 j hj
  have hlt := h.lt
  rw [or_xor c _ hn]
  refine ⟨Nat.xor_lt_two_pow hlt (Nat.pow_lt_pow_right (by decide) hp), ?_, ?_, fun q hq hf => ?_, fun i hi h6 => ?_, ?_⟩
  · rw [xs_xor, xs_pow, if_pos hp, h.sum, mod_step, hs, if_pos rfl, Nat.xor_assoc]
  · rw [od_xor, od_pow, decide_eq_true hp, h.even]; cases e <;> rfl
  · rw [Nat.testBit_xor, Nat.testBit_two_pow, h.bit q hq hf]
    have : 2 ^ j ≠ q := by rintro rfl; rw [pow_not_free j hj] at hf; cases hf
    simp [this]
  · rw [Nat.testBit_xor, Nat.testBit_two_pow, h.none i (by omega) h6]
    have : 2 ^ j < 2 ^ i := Nat.pow_lt_pow_right (by decide) (by omega)
    simp; omega
  · rw [Nat.testBit_xor, Nat.testBit_two_pow, h.zero]
    have := pow_pos_6 j hj
    simp
theorem half_skip {S n c j : Nat} {e : Bool} (h : Half S n c e j) (hs : S.testBit j = false) : Half S n c e (j + 1) :=
  ⟨h.lt, by rw [mod_step, hs]; simpa using h.sum, h.even, h.bit, fun i hi => h.none i (by omega), h.zero⟩
theorem half_even {S n c : Nat} (h : Half S n c true 6) (hS : S < 64) : IsCode c n :=
  ⟨h.lt, by rw [h.sum, Nat.mod_eq_of_lt hS, Nat.xor_self], h.even, h.bit⟩
theorem half_odd {S n c : Nat} (h : Half S n c false 6) (hS : S < 64) : IsCode (c ||| 1) n := by
  have e : c ||| 1 = c ^^^ 2 ^ 0 := or_xor c 0 h.zero
  have hlt := h.lt
  rw [e]
  refine ⟨Nat.xor_lt_two_pow hlt (by decide), ?_, ?_, fun q hq hf => ?_⟩
  · rw [xs_xor, xs_pow, h.sum, Nat.mod_eq_of_lt hS, Nat.xor_self]; rfl
  · rw [od_xor, od_pow, h.even]; rfl
  · rw [Nat.testBit_xor, Nat.testBit_two_pow, h.bit q hq hf]
    have : 0 ≠ q := by rintro rfl; revert hf; decide
    simp [this]

/-- Mend: the error, whether it was mended, the word -/
def lostB (c : Nat) : Bool := (!(od c 39) && xs c 39 != 0) || decide (39 ≤ xs c 39)
def mendN (c : Nat) : Nat := dw (if od c 39 then c ^^^ 2 ^ xs c 39 else c) 39
theorem rank39 : rank 39 = 32 := by decide

theorem dw_code {c n : Nat} (h : IsCode c n) (hn : n < 2 ^ 32) : dw c 39 = n := by
  rw [dw_eq n c 39 h.bit, rank39]
  exact Nat.mod_eq_of_lt hn
theorem mend_clean {c n : Nat} (h : IsCode c n) (hn : n < 2 ^ 32) : lostB c = false ∧ od c 39 = false ∧ mendN c = n := by
  refine ⟨by unfold lostB; rw [h.sum, h.even]; rfl, h.even, ?_⟩
  unfold mendN
  rw [h.even]
  exact dw_code h hn
theorem mend_one {c n p : Nat} (h : IsCode c n) (hn : n < 2 ^ 32) (hp : p < 39) : lostB (c ^^^ 2 ^ p) = false ∧ od (c ^^^ 2 ^ p) 39 = true ∧ mendN (c ^^^ 2 ^ p) = n := by
  have e1 : xs (c ^^^ 2 ^ p) 39 = p := by rw [xs_xor, xs_pow, h.sum, if_pos hp, Nat.zero_xor]
  have e2 : od (c ^^^ 2 ^ p) 39 = true := by rw [od_xor, od_pow, h.even, decide_eq_true hp]; rfl
  refine ⟨by unfold lostB; rw [e1, e2]; simp; omega, e2, ?_⟩
  unfold mendN
  rw [e1, e2, if_pos rfl, Nat.xor_assoc, Nat.xor_self, Nat.xor_zero]
  exact dw_code h hn
theorem xor_ne {p q : Nat} (h : p ≠ q) : p ^^^ q ≠ 0 := by
  intro h0
  apply h
  have : p ^^^ q ^^^ q = 0 ^^^ q := by rw [h0]
  rw [Nat.xor_assoc, Nat.xor_self, Nat.xor_zero, Nat.zero_xor] at this
  exact this
theorem mend_two {c n p q : Nat} (h : IsCode c n) (hp : p < 39) (hq : q < 39) (hpq : p ≠ q) : lostB (c ^^^ 2 ^ p ^^^ 2 ^ q) = true := by
  have e1 : xs (c ^^^ 2 ^ p ^^^ 2 ^ q) 39 = p ^^^ q := by rw [xs_xor, xs_xor, xs_pow, xs_pow, h.sum, if_pos hp, if_pos hq, Nat.zero_xor]
  have e2 : od (c ^^^ 2 ^ p ^^^ 2 ^ q) 39 = false := by rw [od_xor, od_xor, od_pow, od_pow, h.even, decide_eq_true hp, decide_eq_true hq]; rfl
  unfold lostB
  rw [e1, e2]
  have := xor_ne hpq
  simp [this]
end Go.Proofs.YtgacnbildligjaaDoor
