/- Values of polynomials: of a product, of a sum; as many points as numbers fix a polynomial; what Through lays. No program in sight. -/
import Derived.Test.YtendgihkjibbaaaPoly
namespace Go.Proofs.Ytendgihkjibbaaa
set_option linter.unusedVariables false
open Gf (mul)

/-- the value at x -/
def ev : List Nat → Nat → Nat
  | [], _ => 0
  | c :: r, x => mul (ev r x) x ^^^ c
theorem ev_lt {l : List Nat} (h : AllB l) (x : Nat) : ev l x < 256 := by
  induction l with
  | nil => show 0 < 256; decide
  | cons c r ih => exact Gf.xor_lt (Gf.mul_lt _ _ (ih (fun y hy => h y (List.mem_cons_of_mem _ hy)))) (h c List.mem_cons_self)
theorem allb_tail {c : Nat} {r : List Nat} (h : AllB (c :: r)) : AllB r := fun y hy => h y (List.mem_cons_of_mem _ hy)
theorem allb_head {c : Nat} {r : List Nat} (h : AllB (c :: r)) : c < 256 := h c List.mem_cons_self
theorem nth_cons_zero (c : Nat) (r : List Nat) : nth (c :: r) 0 = c := rfl
theorem nth_cons_succ (c : Nat) (r : List Nat) (k : Nat) : nth (c :: r) (k + 1) = nth r k := by simp [nth]

/-- a polynomial of noughts -/
theorem ev_zero {l : List Nat} (x : Nat) (hx : x < 256) (h : ∀ k, nth l k = 0) : ev l x = 0 := by
  induction l with
  | nil => rfl
  | cons c r ih =>
    have h0 : c = 0 := h 0
    have hr : ev r x = 0 := ih (fun k => (nth_cons_succ c r k).symm.trans (h (k + 1)))
    show mul (ev r x) x ^^^ c = 0
    rw [hr, h0, Gf.zero_mul x hx]
    rfl
/-- the value by its numbers alone -/
theorem ev_ext : ∀ (a b : List Nat) (x : Nat), x < 256 → (∀ k, nth a k = nth b k) → ev a x = ev b x
  | [], b, x, hx, h => (ev_zero x hx (fun k => (h k).symm)).symm
  | c :: r, [], x, hx, h => ev_zero x hx (fun k => h k)
  | c :: r, c' :: r', x, hx, h => by
    have h0 : c = c' := h 0
    have hr := ev_ext r r' x hx (fun k => by have h1 := h (k + 1); simp only [nth_cons_succ] at h1; exact h1)
    show mul (ev r x) x ^^^ c = mul (ev r' x) x ^^^ c'
    rw [hr, h0]
/-- of numbers that are added -/
theorem ev_xor : ∀ (a b s : List Nat) (x : Nat), x < 256 → AllB a → AllB b → (∀ k, nth s k = nth a k ^^^ nth b k) → ev s x = ev a x ^^^ ev b x
  | [], b, s, x, hx, ha, hb, h => by
    rw [ev_ext s b x hx (fun k => by rw [h, nth_ge (Nat.zero_le _), Nat.zero_xor])]
    show _ = 0 ^^^ _
    rw [Nat.zero_xor]
  | c :: r, [], s, x, hx, ha, hb, h => by
    rw [ev_ext s (c :: r) x hx (fun k => by rw [h, nth_ge (l := []) (Nat.zero_le _), Nat.xor_zero])]
    show _ = _ ^^^ 0
    rw [Nat.xor_zero]
  | c :: r, c' :: r', [], x, hx, ha, hb, h => by
    have hr := ev_xor r r' [] x hx (allb_tail ha) (allb_tail hb) (fun k => by have h1 := h (k + 1); simp only [nth_cons_succ] at h1; rw [← h1, nth_ge (Nat.zero_le _), nth_ge (Nat.zero_le _)])
    have h0 : 0 = c ^^^ c' := h 0
    show 0 = (mul (ev r x) x ^^^ c) ^^^ (mul (ev r' x) x ^^^ c')
    have hr' : 0 = ev r x ^^^ ev r' x := hr
    rw [Gf.xor4, ← h0, ← Gf.xor_mul _ _ _ (ev_lt (allb_tail ha) x) (ev_lt (allb_tail hb) x), ← hr', Gf.zero_mul x hx]
    rfl
  | c :: r, c' :: r', d :: s, x, hx, ha, hb, h => by
    have hr := ev_xor r r' s x hx (allb_tail ha) (allb_tail hb) (fun k => by have h1 := h (k + 1); simp only [nth_cons_succ] at h1; exact h1)
    have h0 : d = c ^^^ c' := h 0
    show mul (ev s x) x ^^^ d = (mul (ev r x) x ^^^ c) ^^^ (mul (ev r' x) x ^^^ c')
    rw [Gf.xor4, ← h0, ← Gf.xor_mul _ _ _ (ev_lt (allb_tail ha) x) (ev_lt (allb_tail hb) x), ← hr]
/-- of numbers that are all multiplied by k -/
theorem ev_scale : ∀ (a s : List Nat) (k x : Nat), x < 256 → k < 256 → AllB a → (∀ i, nth s i = mul k (nth a i)) → ev s x = mul k (ev a x)
  | [], s, k, x, hx, hk, ha, h => by
    rw [ev_zero x hx (fun i => by rw [h, nth_ge (Nat.zero_le _), Gf.mul_zero])]
    exact (Gf.mul_zero k).symm
  | c :: r, [], k, x, hx, hk, ha, h => by
    have hr := ev_scale r [] k x hx hk (allb_tail ha) (fun i => by have h1 := h (i + 1); simp only [nth_cons_succ] at h1; rw [← h1, nth_ge (Nat.zero_le _), nth_ge (Nat.zero_le _)])
    have h0 : 0 = mul k c := h 0
    have hr' : 0 = mul k (ev r x) := hr
    show 0 = mul k (mul (ev r x) x ^^^ c)
    rw [Gf.mul_xor, ← h0, ← Gf.mul_assoc k _ x hk (ev_lt (allb_tail ha) x) hx, ← hr', Gf.zero_mul x hx]
    rfl
  | c :: r, d :: s, k, x, hx, hk, ha, h => by
    have hr := ev_scale r s k x hx hk (allb_tail ha) (fun i => by have h1 := h (i + 1); simp only [nth_cons_succ] at h1; exact h1)
    have h0 : d = mul k c := h 0
    show mul (ev s x) x ^^^ d = mul k (mul (ev r x) x ^^^ c)
    rw [Gf.mul_xor, ← h0, ← Gf.mul_assoc k _ x hk (ev_lt (allb_tail ha) x) hx, ← hr]
/-- of numbers that are moved up by one place -/
theorem ev_shift (a s : List Nat) (x : Nat) (hx : x < 256) (h : ∀ i, nth s (i + 1) = nth a i) (h0 : nth s 0 = 0) : ev s x = mul (ev a x) x := by
  rw [ev_ext s (0 :: a) x hx (fun k => by
    cases k with
    | zero => exact h0
    | succ k => rw [h, nth_cons_succ])]
  show mul (ev a x) x ^^^ 0 = _
  rw [Nat.xor_zero]

/-- of a product -/
theorem ev_cv : ∀ (q p s : List Nat) (x : Nat), x < 256 → AllB p → AllB q → (∀ k, nth s k = cv (nth p) (nth q) k) → ev s x = mul (ev p x) (ev q x)
  | [], p, s, x, hx, hp, hq, h => by
    rw [ev_zero x hx (fun k => by
      rw [h]
      exact xsum_zero (fun i _ => by rw [nth_ge (l := []) (Nat.zero_le _)]; exact Gf.zero_mul _ (nth_lt hp _)))]
    exact (Gf.mul_zero _).symm
  | c :: r, p, s, x, hx, hp, hq, h => by
    have hc := allb_head hq
    have hr := allb_tail hq
    have key : ∀ k, nth s (k + 1) = mul c (nth p (k + 1)) ^^^ cv (nth p) (nth r) k := by
      intro k
      rw [h]
      unfold cv
      rw [xsum_head]
      congr 1
      refine xsum_congr (fun i _ => ?_)
      rw [nth_cons_succ, show k + 1 - (i + 1) = k - i by omega]
    have key0 : nth s 0 = mul c (nth p 0) := by
      rw [h]
      show 0 ^^^ mul (nth (c :: r) 0) (nth p (0 - 0)) = _
      rw [Nat.zero_xor]; rfl
    -- the product with r
    let m : List Nat := (List.range (p.length + r.length)).map fun k => cv (nth p) (nth r) k
    have hm : ∀ k, nth m k = cv (nth p) (nth r) k := by
      intro k
      by_cases hk : k < p.length + r.length
      · simp [nth, m, hk]
      · rw [nth_ge (by simp [m]; omega)]
        refine (xsum_zero (fun i _ => ?_)).symm
        by_cases hi : i < r.length
        · rw [nth_ge (l := p) (by omega), Gf.mul_zero]
        · rw [nth_ge (l := r) (by omega), Gf.zero_mul _ (nth_lt hp _)]
    have hmb : AllB m := by
      intro y hy
      obtain ⟨k, _, rfl⟩ := List.mem_map.1 hy
      exact cv_small (nth_small hr) k
    have e1 := ev_cv r p m x hx hp hr hm
    let a : List Nat := p.map fun y => mul c y
    have ha : ∀ i, nth a i = mul c (nth p i) := by
      intro i
      by_cases hi : i < p.length
      · simp [nth, a, hi]
      · rw [nth_ge (by simp [a]; omega), nth_ge (l := p) (by omega), Gf.mul_zero]
    have hab : AllB a := by
      intro y hy
      obtain ⟨k, _, rfl⟩ := List.mem_map.1 hy
      exact Gf.mul_lt _ _ hc
    have e2 := ev_scale p a c x hx hc hp ha
    have e3 := ev_shift m (0 :: m) x hx (fun i => nth_cons_succ 0 m i) rfl
    have hsb : AllB (0 :: m) := by
      intro y hy
      rcases List.mem_cons.1 hy with rfl | h
      · decide
      · exact hmb y h
    have e4 := ev_xor a (0 :: m) s x hx hab hsb (fun k => by
      cases k with
      | zero => rw [key0, ha]; exact (Nat.xor_zero _).symm
      | succ k => rw [key, ha, nth_cons_succ, hm])
    have hpl := ev_lt hp x
    have hrl := ev_lt hr x
    rw [e4, e2, e3, e1]
    show _ = mul (ev p x) (mul (ev r x) x ^^^ c)
    rw [Gf.mul_xor, Nat.xor_comm, Gf.mul_comm c _ hc hpl, Gf.mul_assoc _ _ _ hpl hrl hx]

/-- the quotient by (X - x): the values of the tails -/
def syn : List Nat → Nat → List Nat
  | [], _ => []
  | c :: r, x => ev r x :: syn r x
theorem syn_nth : ∀ (l : List Nat) (x k : Nat), nth (syn l x) k = ev (l.drop (k + 1)) x
  | [], x, k => by rw [nth_ge (Nat.zero_le _), List.drop_nil]; rfl
  | c :: r, x, 0 => rfl
  | c :: r, x, k + 1 => by
    show nth (ev r x :: syn r x) (k + 1) = _
    rw [nth_cons_succ, syn_nth r x k, List.drop_succ_cons]
theorem syn_len (l : List Nat) (x : Nat) : (syn l x).length = l.length := by
  induction l with
  | nil => rfl
  | cons c r ih => show (syn r x).length + 1 = _; rw [ih]; rfl
theorem syn_all {l : List Nat} (h : AllB l) (x : Nat) : AllB (syn l x) := by
  induction l with
  | nil => exact AllB.nil
  | cons c r ih =>
    intro y hy
    rcases List.mem_cons.1 hy with rfl | h1
    · exact ev_lt (allb_tail h) x
    · exact ih (allb_tail h) y h1
theorem syn_ev : ∀ (l : List Nat) (x y : Nat), x < 256 → y < 256 → AllB l → ev l y = ev l x ^^^ mul (ev (syn l x) y) (y ^^^ x)
  | [], x, y, hx, hy, h => by
    show 0 = 0 ^^^ mul 0 _
    rw [Gf.zero_mul _ (Gf.xor_lt hy hx)]
    rfl
  | c :: r, x, y, hx, hy, h => by
    have hr := allb_tail h
    have ih := syn_ev r x y hx hy hr
    have l1 := ev_lt hr x
    have l2 := ev_lt hr y
    have l3 := ev_lt (syn_all hr x) y
    have l4 : y ^^^ x < 256 := Gf.xor_lt hy hx
    show mul (ev r y) y ^^^ c = (mul (ev r x) x ^^^ c) ^^^ mul (mul (ev (syn r x) y) y ^^^ ev r x) (y ^^^ x)
    generalize ev r x = e at *
    generalize ev r y = f at *
    generalize ev (syn r x) y = s at *
    rw [Gf.xor_mul _ _ _ (Gf.mul_lt _ _ l3) l1, Gf.mul_assoc s y _ l3 hy l4, Gf.mul_comm y _ hy l4, ← Gf.mul_assoc s _ y l3 l4 hy]
    have e1 : mul s (y ^^^ x) = f ^^^ e := by rw [ih, Nat.xor_comm e, Nat.xor_assoc, Nat.xor_self, Nat.xor_zero]
    rw [e1, Gf.xor_mul _ _ _ l2 l1, Gf.mul_xor]
    apply Nat.eq_of_testBit_eq
    intro i
    simp only [Nat.testBit_xor]
    cases (mul f y).testBit i <;> cases c.testBit i <;> cases (mul e x).testBit i <;> cases (mul e y).testBit i <;> rfl
theorem drop_ev (l : List Nat) (x j : Nat) (hx : x < 256) : ev (l.drop j) x = mul (ev (l.drop (j + 1)) x) x ^^^ nth l j := by
  by_cases h : j < l.length
  · rw [List.drop_eq_getElem_cons h, nth_get h]; rfl
  · rw [List.drop_eq_nil_of_le (by omega), List.drop_eq_nil_of_le (by omega), nth_ge (by omega)]
    show 0 = mul 0 x ^^^ 0
    rw [Gf.zero_mul x hx]; rfl
theorem nth_drop (l : List Nat) (j k : Nat) : nth (l.drop j) k = nth l (j + k) := by simp [nth, List.getD_eq_getElem?_getD]

/-- AS MANY POINTS AS NUMBERS: nought at all of them is nought -/
theorem roots : ∀ (xs : List Nat) (l : List Nat), AllB xs → AllB l → xs.Nodup → (∀ k, xs.length ≤ k → nth l k = 0) → (∀ x ∈ xs, ev l x = 0) → ∀ k, nth l k = 0
  | [], l, _, _, _, h, _ => fun k => h k (Nat.zero_le _)
  | x :: xs, l, hb, hl, hn, h, hr => by
    have hx := allb_head hb
    have hn2 := List.nodup_cons.1 hn
    have e0 : ev l x = 0 := hr x List.mem_cons_self
    have hz := roots xs (syn l x) (allb_tail hb) (syn_all hl x) hn2.2 (fun k hk => by
      rw [syn_nth]
      exact ev_zero x hx (fun i => by rw [nth_drop]; exact h _ (by simp; omega))) (fun y hy => by
      have hyb := hb y (List.mem_cons_of_mem _ hy)
      have e1 : ev l y = 0 := hr y (List.mem_cons_of_mem _ hy)
      have e2 := syn_ev l x y hx hyb hl
      rw [e0, e1, Nat.zero_xor] at e2
      apply Decidable.byContradiction
      intro hne
      have hxy : y ^^^ x ≠ 0 := by
        intro h0
        have : y = x := by
          have h1 : y ^^^ x ^^^ x = 0 ^^^ x := by rw [h0]
          rwa [Nat.xor_assoc, Nat.xor_self, Nat.xor_zero, Nat.zero_xor] at h1
        subst this
        exact hn2.1 hy
      exact Gf.mul_ne_zero _ _ (ev_lt (syn_all hl x) y) (Gf.xor_lt hyb hx) hne hxy e2.symm)
    intro k
    have ek : ∀ j, ev (l.drop j) x = 0 := by
      intro j
      cases j with
      | zero => exact e0
      | succ j => rw [← syn_nth]; exact hz j
    have := drop_ev l x k hx
    rw [ek, ek, Gf.zero_mul x hx, Nat.zero_xor] at this
    exact this.symm
end Go.Proofs.Ytendgihkjibbaaa
