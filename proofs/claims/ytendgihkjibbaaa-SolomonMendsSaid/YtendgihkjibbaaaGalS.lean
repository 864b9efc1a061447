/- The field of 256 numbers as a type of its own, sums over it, and what makes a sum of powers nought. -/
import Derived.Test.YtendgihkjibbaaaGf
import Derived.Test.YtendgihkjibbaaaPoly
namespace Go.Proofs.Ytendgihkjibbaaa
set_option linter.unusedVariables false

structure GF where
  v : Nat
  h : v < 256
deriving DecidableEq
namespace GF
theorem ext' {a b : GF} (h : a.v = b.v) : a = b := by cases a; cases b; cases h; rfl
instance : Add GF := ⟨fun a b => ⟨a.v ^^^ b.v, Gf.xor_lt a.h b.h⟩⟩
instance : Mul GF := ⟨fun a b => ⟨Gf.mul a.v b.v, Gf.mul_lt _ _ a.h⟩⟩
instance : OfNat GF 0 := ⟨⟨0, by decide⟩⟩
instance : OfNat GF 1 := ⟨⟨1, by decide⟩⟩
def inv (a : GF) : GF := ⟨Gf.inv a.v, Gf.inv_lt _ a.h⟩
def npow (a : GF) : Nat → GF
  | 0 => 1
  | n + 1 => npow a n * a
instance : HPow GF Nat GF := ⟨npow⟩
theorem add_v (a b : GF) : (a + b).v = a.v ^^^ b.v := rfl
theorem mul_v (a b : GF) : (a * b).v = Gf.mul a.v b.v := rfl
theorem zero_v : (0 : GF).v = 0 := rfl
theorem one_v : (1 : GF).v = 1 := rfl
theorem add_comm (a b : GF) : a + b = b + a := ext' (Nat.xor_comm _ _)
theorem add_assoc (a b c : GF) : a + b + c = a + (b + c) := ext' (Nat.xor_assoc _ _ _)
theorem add_left_comm (a b c : GF) : a + (b + c) = b + (a + c) := by rw [← add_assoc, add_comm a b, add_assoc]
theorem add_zero (a : GF) : a + 0 = a := ext' (Nat.xor_zero _)
theorem zero_add (a : GF) : 0 + a = a := ext' (Nat.zero_xor _)
theorem add_self (a : GF) : a + a = 0 := ext' (Nat.xor_self _)
theorem add_self_left (a b : GF) : a + (a + b) = b := by rw [← add_assoc, add_self, zero_add]
theorem mul_comm (a b : GF) : a * b = b * a := ext' (Gf.mul_comm _ _ a.h b.h)
theorem mul_assoc (a b c : GF) : a * b * c = a * (b * c) := ext' (Gf.mul_assoc _ _ _ a.h b.h c.h)
theorem mul_left_comm (a b c : GF) : a * (b * c) = b * (a * c) := by rw [← mul_assoc, mul_comm a b, mul_assoc]
theorem mul_one (a : GF) : a * 1 = a := ext' (Gf.mul_one _)
theorem one_mul (a : GF) : 1 * a = a := by rw [mul_comm, mul_one]
theorem mul_zero (a : GF) : a * 0 = 0 := ext' (Gf.mul_zero a.v)
theorem zero_mul (a : GF) : 0 * a = 0 := by rw [mul_comm, mul_zero]
theorem mul_add (a b c : GF) : a * (b + c) = a * b + a * c := ext' (Gf.mul_xor _ _ _)
theorem add_mul (a b c : GF) : (a + b) * c = a * c + b * c := ext' (Gf.xor_mul _ _ _ a.h b.h)
theorem eq_zero_v {a : GF} : a = 0 ↔ a.v = 0 := ⟨fun h => by rw [h]; rfl, fun h => ext' h⟩
theorem inv_mul {a : GF} (h : a ≠ 0) : a.inv * a = 1 := ext' (Gf.inv_mul _ a.h (fun e => h (ext' e)))
theorem mul_inv {a : GF} (h : a ≠ 0) : a * a.inv = 1 := by rw [mul_comm, inv_mul h]
theorem mul_ne {a b : GF} (ha : a ≠ 0) (hb : b ≠ 0) : a * b ≠ 0 := fun h => Gf.mul_ne_zero _ _ a.h b.h (fun e => ha (ext' e)) (fun e => hb (ext' e)) (eq_zero_v.1 h)
theorem mul_eq_zero {a b : GF} : a * b = 0 ↔ a = 0 ∨ b = 0 := by
  constructor
  · intro h
    by_cases ha : a = 0
    · exact .inl ha
    · by_cases hb : b = 0
      · exact .inr hb
      · exact absurd h (mul_ne ha hb)
  · rintro (h | h)
    · rw [h, zero_mul]
    · rw [h, mul_zero]
theorem add_eq_zero {a b : GF} : a + b = 0 ↔ a = b := by
  constructor
  · intro h
    have h1 : a + (a + b) = a + 0 := by rw [h]
    rw [add_self_left, add_zero] at h1
    exact h1.symm
  · rintro rfl
    exact add_self a
theorem add_cancel {a b c : GF} (h : a + b = a + c) : b = c := by
  have h1 : a + (a + b) = a + (a + c) := by rw [h]
  rwa [add_self_left, add_self_left] at h1
theorem mul_cancel {a b c : GF} (ha : a ≠ 0) (h : a * b = a * c) : b = c := by
  have h1 : a * (b + c) = 0 := by rw [mul_add, h, add_self]
  rcases mul_eq_zero.1 h1 with h2 | h2
  · exact absurd h2 ha
  · exact add_eq_zero.1 h2
theorem inv_ne {a : GF} (h : a ≠ 0) : a.inv ≠ 0 := fun e => by
  have := inv_mul h
  rw [e, zero_mul] at this
  exact absurd (congrArg GF.v this) (by decide)
theorem one_ne : (1 : GF) ≠ 0 := fun e => absurd (congrArg GF.v e) (by decide)
theorem pow_zero (a : GF) : a ^ 0 = 1 := rfl
theorem pow_succ (a : GF) (n : Nat) : a ^ (n + 1) = a ^ n * a := rfl
theorem pow_one (a : GF) : a ^ 1 = a := by rw [pow_succ, pow_zero, one_mul]
theorem pow_add (a : GF) (m n : Nat) : a ^ (m + n) = a ^ m * a ^ n := by
  induction n with
  | zero => rw [Nat.add_zero, pow_zero, mul_one]
  | succ n ih => rw [← Nat.add_assoc, pow_succ, ih, pow_succ, mul_assoc]
theorem pow_mul (a : GF) (m n : Nat) : a ^ (m * n) = (a ^ m) ^ n := by
  induction n with
  | zero => rfl
  | succ n ih => rw [Nat.mul_succ, pow_add, ih, pow_succ]
theorem mul_pow (a b : GF) (n : Nat) : (a * b) ^ n = a ^ n * b ^ n := by
  induction n with
  | zero => rw [pow_zero, pow_zero, pow_zero, mul_one]
  | succ n ih => rw [pow_succ, pow_succ, pow_succ, ih]; simp only [mul_assoc, mul_comm, mul_left_comm]
theorem one_pow (n : Nat) : (1 : GF) ^ n = 1 := by
  induction n with
  | zero => rfl
  | succ n ih => rw [pow_succ, ih, mul_one]
theorem pow_ne {a : GF} (h : a ≠ 0) (n : Nat) : a ^ n ≠ 0 := by
  induction n with
  | zero => exact one_ne
  | succ n ih => rw [pow_succ]; exact mul_ne ih h
theorem zero_pow {n : Nat} (h : 0 < n) : (0 : GF) ^ n = 0 := by
  cases n with
  | zero => omega
  | succ n => rw [pow_succ, mul_zero]

/-- a number of eight bits -/
def of (n : Nat) : GF := ⟨n % 256, Nat.mod_lt _ (by decide)⟩
theorem of_v {n : Nat} (h : n < 256) : (of n).v = n := Nat.mod_eq_of_lt h
theorem of_zero : of 0 = 0 := rfl
theorem of_one : of 1 = 1 := rfl
theorem of_xor {a b : Nat} (ha : a < 256) (hb : b < 256) : of (a ^^^ b) = of a + of b := ext' (by rw [of_v (Gf.xor_lt ha hb), add_v, of_v ha, of_v hb])
theorem of_mul {a b : Nat} (ha : a < 256) (hb : b < 256) : of (Gf.mul a b) = of a * of b := ext' (by rw [of_v (Gf.mul_lt _ _ ha), mul_v, of_v ha, of_v hb])
theorem of_inv {a : Nat} (ha : a < 256) : of (Gf.inv a) = (of a).inv := ext' (by rw [of_v (Gf.inv_lt _ ha)]; show _ = Gf.inv (of a).v; rw [of_v ha])
theorem of_inj {a b : Nat} (ha : a < 256) (hb : b < 256) (h : of a = of b) : a = b := by
  have := congrArg GF.v h
  rwa [of_v ha, of_v hb] at this
theorem of_eq_zero {a : Nat} (ha : a < 256) : of a = 0 ↔ a = 0 := ⟨fun h => of_inj ha (by decide) h, fun h => by rw [h]; rfl⟩
/-- the number whose powers are all but nought -/
def al : GF := of 2
theorem of_gp (n : Nat) : of (Gf.gp n) = al ^ n := by
  induction n with
  | zero => rfl
  | succ n ih => rw [pow_succ, ← ih]; exact of_mul (Gf.gp_lt n) (by decide)
theorem al_ne : al ≠ 0 := by decide
theorem al_255 : al ^ 255 = 1 := by rw [← of_gp, Gf.gp_255]; rfl
theorem al_inj {i j : Nat} (hi : i < 255) (hj : j < 255) (h : al ^ i = al ^ j) : i = j := by
  rw [← of_gp, ← of_gp] at h
  have h1 := of_inj (Gf.gp_lt _) (Gf.gp_lt _) h
  have h2 := Gf.log_gp i hi
  rw [h1, Gf.log_gp j hj] at h2
  cases h2
  rfl

/-! sums -/
def sm (f : Nat → GF) : Nat → GF
  | 0 => 0
  | n + 1 => sm f n + f n
theorem sm_congr {f g : Nat → GF} {n : Nat} (h : ∀ i, i < n → f i = g i) : sm f n = sm g n := by
  induction n with
  | zero => rfl
  | succ n ih => rw [sm, sm, ih (fun i hi => h i (by omega)), h n (by omega)]
theorem sm_zero {f : Nat → GF} {n : Nat} (h : ∀ i, i < n → f i = 0) : sm f n = 0 := by
  induction n with
  | zero => rfl
  | succ n ih => rw [sm, ih (fun i hi => h i (by omega)), h n (by omega), add_zero]
theorem sm_add (f g : Nat → GF) (n : Nat) : sm (fun i => f i + g i) n = sm f n + sm g n := by
  induction n with
  | zero => exact (add_zero 0).symm
  | succ n ih => rw [sm, sm, sm, ih]; simp only [add_assoc, add_comm, add_left_comm]
theorem sm_mul (a : GF) (f : Nat → GF) (n : Nat) : sm (fun i => a * f i) n = a * sm f n := by
  induction n with
  | zero => rw [sm, sm, mul_zero]
  | succ n ih => rw [sm, sm, ih, mul_add]
theorem sm_mul_right (a : GF) (f : Nat → GF) (n : Nat) : sm (fun i => f i * a) n = sm f n * a := by
  rw [mul_comm, ← sm_mul]
  exact sm_congr fun i _ => mul_comm _ _
theorem sm_single {f : Nat → GF} {n j : Nat} (hj : j < n) (h : ∀ i, i < n → i ≠ j → f i = 0) : sm f n = f j := by
  induction n with
  | zero => omega
  | succ n ih =>
    rw [sm]
    by_cases e : j = n
    · rw [sm_zero (fun i hi => h i (by omega) (by omega)), zero_add, e]
    · rw [ih (by omega) (fun i hi => h i (by omega)), h n (by omega) (by omega), add_zero]
theorem sm_extend {f : Nat → GF} {n m : Nat} (hm : n ≤ m) (h : ∀ i, n ≤ i → i < m → f i = 0) : sm f m = sm f n := by
  induction m with
  | zero => rw [show n = 0 by omega]
  | succ m ih =>
    by_cases e : n = m + 1
    · rw [e]
    · rw [sm, ih (by omega) (fun i h1 h2 => h i h1 (by omega)), h m (by omega) (by omega), add_zero]
theorem sm_split (f : Nat → GF) (n m : Nat) : sm f (n + m) = sm f n + sm (fun i => f (n + i)) m := by
  induction m with
  | zero => rw [Nat.add_zero, sm, add_zero]
  | succ m ih => rw [← Nat.add_assoc, sm, ih, sm, add_assoc]
theorem sm_head (f : Nat → GF) (n : Nat) : sm f (n + 1) = f 0 + sm (fun i => f (i + 1)) n := by
  rw [Nat.add_comm, sm_split, sm, sm, zero_add]
  congr 1
  exact sm_congr fun i _ => by rw [Nat.add_comm]
theorem sm_rev (f : Nat → GF) (n : Nat) : sm f n = sm (fun i => f (n - 1 - i)) n := by
  induction n with
  | zero => rfl
  | succ n ih =>
    rw [sm_head (fun i => f (n + 1 - 1 - i)), sm, ih, add_comm]
    congr 1
    exact sm_congr fun i hi => by rw [show n + 1 - 1 - (i + 1) = n - 1 - i by omega]
theorem sm_swap (f : Nat → Nat → GF) (n m : Nat) : sm (fun i => sm (fun j => f i j) m) n = sm (fun j => sm (fun i => f i j) n) m := by
  induction n with
  | zero => rw [sm]; exact (sm_zero fun i _ => rfl).symm
  | succ n ih => rw [sm, ih, ← sm_add]; exact sm_congr fun j _ => rfl
theorem of_xsum {f : Nat → Nat} (h : ∀ i, f i < 256) (n : Nat) : of (xsum f n) = sm (fun i => of (f i)) n := by
  induction n with
  | zero => rfl
  | succ n ih =>
    have hx : xsum f n < 256 := by
      clear ih
      induction n with
      | zero => exact (by decide : (0 : Nat) < 256)
      | succ n ih => exact Gf.xor_lt ih (h n)
    rw [xsum, of_xor hx (h n), ih, sm]

/-- values at places that are known are nought, if enough of their powers' sums are -/
theorem vander (X : Nat → GF) (n : Nat) (hX : ∀ p, p < n → X p ≠ 0) (hI : ∀ p q, p < n → q < n → X p = X q → p = q) :
    ∀ (S : List Nat) (e : Nat → GF), (∀ p, p < n → p ∉ S → e p = 0) → (∀ j, 1 ≤ j → j ≤ S.length → sm (fun p => e p * X p ^ j) n = 0) → ∀ p, p < n → e p = 0
  | [], e, hs, _, p, hp => hs p hp (by simp)
  | q :: S, e, hs, hj, p, hp => by
    have hj1 := hj 1 (by omega) (by simp)
    by_cases hq : q < n
    · have ih := vander X n hX hI S (fun p => e p * (X p + X q)) (fun p hp hS => by
        by_cases hpq : p = q
        · show _ * _ = _
          rw [hpq, add_self, mul_zero]
        · show _ * _ = _
          rw [hs p hp (by simp [hpq, hS]), zero_mul]) (fun j h1 h2 => by
        have e1 := hj (j + 1) (by omega) (by simp; omega)
        have e2 := hj j h1 (by simp; omega)
        have e3 : sm (fun p => e p * (X p + X q) * X p ^ j) n = sm (fun p => e p * X p ^ (j + 1)) n + X q * sm (fun p => e p * X p ^ j) n := by
          rw [← sm_mul, ← sm_add]
          refine sm_congr fun i _ => ?_
          rw [pow_succ]
          simp only [mul_add, add_mul, mul_assoc, mul_comm, mul_left_comm]
        show sm (fun p => e p * (X p + X q) * X p ^ j) n = 0
        rw [e3, e1, e2, mul_zero, add_zero])
      have ho : ∀ r, r < n → r ≠ q → e r = 0 := fun r hr hne => by
        have := ih r hr
        rcases mul_eq_zero.1 this with h1 | h1
        · exact h1
        · exact absurd (hI r q hr hq (add_eq_zero.1 h1)) hne
      by_cases hpq : p = q
      · subst hpq
        rw [sm_single hq (fun i hi hne => by show e i * _ = 0; rw [ho i hi hne, zero_mul])] at hj1
        rcases mul_eq_zero.1 hj1 with h1 | h1
        · exact h1
        · exact absurd h1 (pow_ne (hX p hq) 1)
      · exact ho p hp hpq
    · exact vander X n hX hI S e (fun p hp hS => hs p hp (by
        intro hm
        rcases List.mem_cons.1 hm with h1 | h1
        · omega
        · exact hS h1)) (fun j h1 h2 => hj j h1 (by simp; omega)) p hp
end GF
end Go.Proofs.Ytendgihkjibbaaa
