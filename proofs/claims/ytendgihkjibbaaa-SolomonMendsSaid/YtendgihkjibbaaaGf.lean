/- The field of 256 numbers, in plain Lean: the product that the program computes, its powers, and the laws that they obey. No program in sight. -/
import Derived.KernelRfl
namespace Go.Proofs.Ytendgihkjibbaaa.Gf

/-- times 2 -/
def xt (a : Nat) : Nat := if a / 128 = 1 then (a * 2 % 256) ^^^ 135 else a * 2 % 256
/-- the loop of Mul -/
def mulF : Nat → Nat → Nat → Nat → Nat
  | 0, _, _, p => p
  | n + 1, a, b, p => mulF n (xt a) (b / 2) (if b % 2 = 1 then p ^^^ a else p)
def mul (a b : Nat) : Nat := mulF 8 a b 0
/-- the loop of raised -/
def raisedF : Nat → Nat → Nat → Nat → Nat
  | 0, _, _, p => p
  | f + 1, a, n, p => raisedF f (mul a a) (n / 2) (if n % 2 = 1 then mul p a else p)
def raised (a n : Nat) : Nat := raisedF 8 a n 1
def inv (b : Nat) : Nat := raised b 254
/-- 2 by itself, n times -/
def gp : Nat → Nat
  | 0 => 1
  | n + 1 => mul (gp n) 2
/-- the loop of Log, from n on, with p -/
def logF : Nat → Nat → Nat → Nat → Nat × Bool
  | 0, _, _, _ => (0, false)
  | f + 1, a, n, p => if p = a then (n, true) else logF f a (n + 1) (mul p 2)
def log (a : Nat) : Nat × Bool := logF 255 a 0 1

theorem xt_lt (a : Nat) : xt a < 256 := by
  unfold xt; split
  · exact Nat.xor_lt_two_pow (n := 8) (by omega) (by omega)
  · omega

theorem xor_lt {a b : Nat} (ha : a < 256) (hb : b < 256) : a ^^^ b < 256 := Nat.xor_lt_two_pow (n := 8) ha hb

theorem mulF_zero (n a p : Nat) : mulF n a 0 p = p := by
  induction n generalizing a p with
  | zero => rfl
  | succ n ih => simp [mulF, ih]

theorem mulF_lt (n a b p : Nat) (ha : a < 256) (hp : p < 256) : mulF n a b p < 256 := by
  induction n generalizing a b p with
  | zero => exact hp
  | succ n ih =>
    unfold mulF
    refine ih _ _ _ (xt_lt a) ?_
    split
    · exact xor_lt hp ha
    · exact hp

theorem mul_lt (a b : Nat) (ha : a < 256) : mul a b < 256 := mulF_lt 8 a b 0 ha (by omega)

theorem xor4 (a b c d : Nat) : (a ^^^ b) ^^^ (c ^^^ d) = (a ^^^ c) ^^^ (b ^^^ d) := by
  rw [Nat.xor_assoc, ← Nat.xor_assoc b, Nat.xor_comm b c, Nat.xor_assoc c, ← Nat.xor_assoc]

theorem xt_eq (a : Nat) : xt a = (a * 2 % 256) ^^^ (if a / 128 = 1 then 135 else 0) := by
  unfold xt; split <;> simp
theorem xt_lin (a : Nat) (ha : a < 256) (b : Nat) (hb : b < 256) : xt (a ^^^ b) = xt a ^^^ xt b := by
  have e1 : (a ^^^ b) * 2 % 256 = (a * 2 % 256) ^^^ (b * 2 % 256) := by
    have h := @Nat.shiftLeft_xor_distrib 1 a b
    simp only [Nat.shiftLeft_eq, Nat.pow_one] at h
    have h2 : (a * 2 ^^^ b * 2) % 2 ^ 8 = a * 2 % 2 ^ 8 ^^^ b * 2 % 2 ^ 8 := Nat.xor_mod_two_pow
    rw [h]; exact h2
  have e2 : (a ^^^ b) / 128 = a / 128 ^^^ b / 128 := @Nat.xor_div_two_pow a b 7
  rw [xt_eq, xt_eq a, xt_eq b, e1, e2, xor4]
  congr 1
  have h1 : a / 128 = 0 ∨ a / 128 = 1 := by omega
  have h2 : b / 128 = 0 ∨ b / 128 = 1 := by omega
  rcases h1 with h1 | h1 <;> rcases h2 with h2 | h2 <;> rw [h1, h2] <;> rfl

theorem xor_mod_two (b c : Nat) : (b ^^^ c) % 2 = (b % 2 + c % 2) % 2 := by
  have h : (b ^^^ c) % 2 ^ 1 = b % 2 ^ 1 ^^^ c % 2 ^ 1 := Nat.xor_mod_two_pow
  rw [Nat.pow_one] at h
  rw [h]
  rcases Nat.mod_two_eq_zero_or_one b with hb | hb <;> rcases Nat.mod_two_eq_zero_or_one c with hc | hc <;> rw [hb, hc] <;> rfl

theorem xor_div_two (b c : Nat) : (b ^^^ c) / 2 = (b / 2) ^^^ (c / 2) := Nat.xor_div_two

theorem mulF_lin_b (n a b c p q : Nat) : mulF n a (b ^^^ c) (p ^^^ q) = mulF n a b p ^^^ mulF n a c q := by
  induction n generalizing a b c p q with
  | zero => rfl
  | succ n ih =>
    simp only [mulF]
    rw [xor_div_two, ← ih, xor_mod_two]
    congr 1
    rcases Nat.mod_two_eq_zero_or_one b with hb | hb <;> rcases Nat.mod_two_eq_zero_or_one c with hc | hc <;> simp [hb, hc]
    · rw [Nat.xor_assoc]
    · rw [Nat.xor_assoc, Nat.xor_comm q a, ← Nat.xor_assoc]
    · rw [xor4, Nat.xor_self, Nat.xor_zero]

theorem mulF_lin_a (n a a' b p q : Nat) (ha : a < 256) (ha' : a' < 256) : mulF n (a ^^^ a') b (p ^^^ q) = mulF n a b p ^^^ mulF n a' b q := by
  induction n generalizing a a' b p q with
  | zero => rfl
  | succ n ih =>
    simp only [mulF]
    rw [xt_lin a ha a' ha', ← ih _ _ _ _ _ (xt_lt a) (xt_lt a')]
    congr 1
    split
    · rw [xor4]
    · rfl

theorem mul_xor (a b c : Nat) : mul a (b ^^^ c) = mul a b ^^^ mul a c := by
  have h := mulF_lin_b 8 a b c 0 0
  simpa [mul] using h

theorem xor_mul (a b c : Nat) (ha : a < 256) (hb : b < 256) : mul (a ^^^ b) c = mul a c ^^^ mul b c := by
  have h := mulF_lin_a 8 a b c 0 0 ha hb
  simpa [mul] using h

/-- two linear maps that agree at the eight powers of 2 agree -/
theorem top_bit : ∀ k, k < 8 → ∀ a, a < 256 → 2 ^ k ≤ a → a < 2 ^ (k + 1) → a - 2 ^ k < 2 ^ k ∧ 2 ^ k ^^^ (a - 2 ^ k) = a := by decide +kernel

theorem lin_ext (f g : Nat → Nat) (hf : ∀ a b, a < 256 → b < 256 → f (a ^^^ b) = f a ^^^ f b) (hg : ∀ a b, a < 256 → b < 256 → g (a ^^^ b) = g a ^^^ g b)
    (h : ∀ k, k < 8 → f (2 ^ k) = g (2 ^ k)) : ∀ a, a < 256 → f a = g a := by
  have h0 : f 0 = g 0 := by
    have e1 := hf 0 0 (by omega) (by omega)
    have e2 := hg 0 0 (by omega) (by omega)
    simp only [Nat.xor_self] at e1 e2
    rw [e1, e2]
  have key : ∀ k, k ≤ 8 → ∀ a, a < 2 ^ k → f a = g a := by
    intro k
    induction k with
    | zero => intro _ a ha; have : a = 0 := by simpa using ha
              subst this; exact h0
    | succ k ih =>
      intro hk a ha
      have h256 : 2 ^ (k + 1) ≤ 2 ^ 8 := Nat.pow_le_pow_right (by omega) hk
      by_cases hlt : a < 2 ^ k
      · exact ih (by omega) a hlt
      · obtain ⟨h1, h2⟩ := top_bit k (by omega) a (by omega) (by omega) ha
        have hk256 : 2 ^ k < 256 := by omega
        rw [← h2, hf _ _ hk256 (by omega), hg _ _ hk256 (by omega), h k (by omega), ih (by omega) _ h1]
  intro a ha
  exact key 8 (by omega) a (by simpa using ha)

theorem mul_comm_basis : ∀ i, i < 8 → ∀ j, j < 8 → mul (2 ^ i) (2 ^ j) = mul (2 ^ j) (2 ^ i) := by decide +kernel

theorem mul_comm (a b : Nat) (ha : a < 256) (hb : b < 256) : mul a b = mul b a := by
  have p8 : ∀ i, i < 8 → 2 ^ i < 256 := by decide
  have h1 : ∀ i, i < 8 → ∀ b, b < 256 → mul (2 ^ i) b = mul b (2 ^ i) := fun i hi =>
    lin_ext (fun b => mul (2 ^ i) b) (fun b => mul b (2 ^ i)) (fun x y _ _ => mul_xor _ _ _) (fun x y hx hy => xor_mul _ _ _ hx hy) (fun k hk => mul_comm_basis i hi k hk)
  exact lin_ext (fun a => mul a b) (fun a => mul b a) (fun x y hx hy => xor_mul _ _ _ hx hy) (fun x y _ _ => mul_xor _ _ _) (fun k hk => h1 k hk b hb) a ha

theorem mul_assoc_basis : ∀ i, i < 8 → ∀ j, j < 8 → ∀ k, k < 8 → mul (mul (2 ^ i) (2 ^ j)) (2 ^ k) = mul (2 ^ i) (mul (2 ^ j) (2 ^ k)) := by decide +kernel

theorem mul_assoc (a b c : Nat) (ha : a < 256) (hb : b < 256) (_hc : c < 256) : mul (mul a b) c = mul a (mul b c) := by
  have p8 : ∀ i, i < 8 → 2 ^ i < 256 := by decide
  have h1 : ∀ i, i < 8 → ∀ j, j < 8 → ∀ c, c < 256 → mul (mul (2 ^ i) (2 ^ j)) c = mul (2 ^ i) (mul (2 ^ j) c) := fun i hi j hj =>
    lin_ext (fun c => mul (mul (2 ^ i) (2 ^ j)) c) (fun c => mul (2 ^ i) (mul (2 ^ j) c)) (fun x y _ _ => mul_xor _ _ _) (fun x y _ _ => by simp only [mul_xor]) (fun k hk => mul_assoc_basis i hi j hj k hk)
  have h2 : ∀ i, i < 8 → ∀ b, b < 256 → mul (mul (2 ^ i) b) c = mul (2 ^ i) (mul b c) := fun i hi =>
    lin_ext (fun b => mul (mul (2 ^ i) b) c) (fun b => mul (2 ^ i) (mul b c)) (fun x y _ _ => by show mul (mul _ (x ^^^ y)) c = _; rw [mul_xor, xor_mul _ _ _ (mul_lt _ _ (p8 i hi)) (mul_lt _ _ (p8 i hi))])
      (fun x y hx hy => by show mul _ (mul (x ^^^ y) c) = _; rw [xor_mul _ _ _ hx hy, mul_xor]) (fun k hk => h1 i hi k hk c _hc)
  exact lin_ext (fun a => mul (mul a b) c) (fun a => mul a (mul b c)) (fun x y hx hy => by show mul (mul (x ^^^ y) b) c = _; rw [xor_mul _ _ _ hx hy, xor_mul _ _ _ (mul_lt _ _ hx) (mul_lt _ _ hy)])
    (fun x y hx hy => xor_mul _ _ _ hx hy) (fun k hk => h2 k hk b hb) a ha

theorem mul_one (a : Nat) : mul a 1 = a := by simp [mul, mulF]
theorem mul_zero (a : Nat) : mul a 0 = 0 := by simp [mul, mulF]
theorem one_mul (a : Nat) (ha : a < 256) : mul 1 a = a := by rw [mul_comm 1 a (by omega) ha, mul_one]
theorem zero_mul (a : Nat) (ha : a < 256) : mul 0 a = 0 := by rw [mul_comm 0 a (by omega) ha, mul_zero]

theorem raisedF_lt (f a n p : Nat) (ha : a < 256) (hp : p < 256) : raisedF f a n p < 256 := by
  induction f generalizing a n p with
  | zero => exact hp
  | succ f ih =>
    unfold raisedF
    refine ih _ _ _ (mul_lt _ _ ha) ?_
    split
    · exact mul_lt _ _ hp
    · exact hp
theorem raised_lt (a n : Nat) (ha : a < 256) : raised a n < 256 := raisedF_lt 8 a n 1 ha (by omega)
theorem raisedF_zero (f a p : Nat) : raisedF f a 0 p = p := by
  induction f generalizing a p with
  | zero => rfl
  | succ f ih => simp [raisedF, ih]
theorem inv_lt (b : Nat) (hb : b < 256) : inv b < 256 := raised_lt b 254 hb

theorem inv_mul_all : ∀ b, b < 256 → b ≠ 0 → mul (inv b) b = 1 := by decide +kernel
theorem inv_mul (b : Nat) (hb : b < 256) (h : b ≠ 0) : mul (inv b) b = 1 := inv_mul_all b hb h
theorem div_mul (a b : Nat) (ha : a < 256) (hb : b < 256) (h : b ≠ 0) : mul (mul a (inv b)) b = a := by
  rw [mul_assoc a (inv b) b ha (inv_lt b hb) hb, inv_mul b hb h, mul_one]
theorem mul_div (a b : Nat) (ha : a < 256) (hb : b < 256) (h : b ≠ 0) : mul (mul a b) (inv b) = a := by
  rw [mul_assoc a b (inv b) ha hb (inv_lt b hb), mul_comm b _ hb (inv_lt b hb), inv_mul b hb h, mul_one]
theorem mul_ne_zero (a b : Nat) (ha : a < 256) (hb : b < 256) (h : a ≠ 0) (h' : b ≠ 0) : mul a b ≠ 0 := by
  intro h0
  have := mul_div a b ha hb h'
  rw [h0, zero_mul _ (inv_lt b hb)] at this
  exact h this.symm

theorem gp_lt (n : Nat) : gp n < 256 := by
  cases n with
  | zero => decide
  | succ n => exact mul_lt _ _ (by
      induction n with
      | zero => decide
      | succ n ih => exact mul_lt _ _ ih)
theorem gp_add (i j : Nat) : gp (i + j) = mul (gp i) (gp j) := by
  induction j with
  | zero => exact (mul_one _).symm
  | succ j ih =>
    show mul (gp (i + j)) 2 = mul (gp i) (mul (gp j) 2)
    rw [ih, mul_assoc _ _ _ (gp_lt i) (gp_lt j) (by omega)]
theorem gp_255 : gp 255 = 1 := by decide +kernel
theorem gp_per (n : Nat) : gp (n % 255) = gp n := by
  have h : ∀ q r, gp (255 * q + r) = gp r := by
    intro q r
    induction q with
    | zero => simp
    | succ q ih =>
      rw [show 255 * (q + 1) + r = 255 + (255 * q + r) by omega, gp_add, gp_255, one_mul _ (gp_lt _), ih]
  conv => rhs; rw [← Nat.div_add_mod n 255, h]
theorem raised_gp : ∀ k, k < 255 → raised 2 k = gp k := by decide +kernel
theorem log_gp : ∀ k, k < 255 → log (gp k) = (k, true) := by decide +kernel
theorem log_zero : (log 0).2 = false := by decide +kernel
theorem gp_ne_all : ∀ k, k < 255 → gp k ≠ 0 := by decide +kernel
theorem gp_ne (n : Nat) : gp n ≠ 0 := by rw [← gp_per]; exact gp_ne_all _ (Nat.mod_lt _ (by omega))

end Go.Proofs.Ytendgihkjibbaaa.Gf
