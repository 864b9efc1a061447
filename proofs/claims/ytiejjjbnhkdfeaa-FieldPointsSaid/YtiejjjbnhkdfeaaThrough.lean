/- The polynomial through points, in plain words. No program in sight. -/
import Derived.Test.YtiejjjbnhkdfeaaPoints
namespace Go.Proofs.Ytiejjjbnhkdfeaa
set_option linter.unusedVariables false
open Gf (mul)

/-- A, times (X - x) -/
def nextP (A : List Nat) (x : Nat) : List Nat := addTo (addTo (List.replicate (A.length + 1) 0) A x 0 A.length) A 1 1 A.length
/-- nought at all of xs, with 1 at its top -/
structure AllN (A xs : List Nat) : Prop where
  len : A.length = xs.length + 1
  all : AllB A
  top : nth A xs.length = 1
  root : ∀ x ∈ xs, ev A x = 0

theorem alln_start : AllN [1] [] := ⟨rfl, fun x hx => by simp at hx; omega, rfl, fun x hx => by cases hx⟩
theorem nextP_len (A : List Nat) (x : Nat) : (nextP A x).length = A.length + 1 := by
  unfold nextP
  rw [addTo_len, addTo_len, List.length_replicate]
theorem nextP_nth (A : List Nat) (x k : Nat) (hA : AllB A) : nth (nextP A x) k = mul x (nth A k) ^^^ (if 1 ≤ k then nth A (k - 1) else 0) := by
  unfold nextP
  rw [addTo_nth' _ _ _ _ _ (by rw [addTo_len, List.length_replicate]; omega), addTo_nth' _ _ _ _ _ (by rw [List.length_replicate]; omega), nth_replicate, if_pos (Nat.zero_le _), Nat.sub_zero, Nat.zero_xor]
  rw [one_mul' A hA]
theorem nextP_all {A : List Nat} {x : Nat} (hA : AllB A) (hx : x < 256) : AllB (nextP A x) :=
  addTo_all (addTo_all (AllB.replicate _) hx _) (by decide) _
theorem nextP_ev {A : List Nat} {x : Nat} (hA : AllB A) (hx : x < 256) (y : Nat) (hy : y < 256) : ev (nextP A x) y = mul (ev A y) (y ^^^ x) := by
  let a : List Nat := A.map fun z => mul x z
  have ha : ∀ i, nth a i = mul x (nth A i) := by
    intro i
    by_cases hi : i < A.length
    · simp [nth, a, hi]
    · rw [nth_ge (by simp [a]; omega), nth_ge (l := A) (by omega), Gf.mul_zero]
  have hab : AllB a := by
    intro z hz
    obtain ⟨k, _, rfl⟩ := List.mem_map.1 hz
    exact Gf.mul_lt _ _ hx
  have hsb : AllB (0 :: A) := by
    intro z hz
    rcases List.mem_cons.1 hz with rfl | h
    · decide
    · exact hA z h
  have hl := ev_lt hA y
  rw [ev_xor a (0 :: A) _ y hy hab hsb (fun k => by
    rw [nextP_nth A x k hA, ha]
    cases k with
    | zero => rfl
    | succ k => rw [if_pos (by omega), nth_cons_succ, Nat.add_sub_cancel]), ev_scale A a x y hy hx hA ha, ev_shift A (0 :: A) y hy (fun i => nth_cons_succ 0 A i) rfl, Gf.mul_xor, Nat.xor_comm, Gf.mul_comm x _ hx hl]
theorem alln_step {A xs : List Nat} {x : Nat} (h : AllN A xs) (hb : AllB xs) (hx : x < 256) : AllN (nextP A x) (xs ++ [x]) := by
  refine ⟨by rw [nextP_len, h.len]; simp, nextP_all h.all hx, ?_, ?_⟩
  · rw [nextP_nth A x _ h.all]
    simp only [List.length_append, List.length_cons, List.length_nil, Nat.zero_add]
    rw [if_pos (by omega), Nat.add_sub_cancel, h.top, nth_ge (by rw [h.len]; omega), Gf.mul_zero]
    rfl
  · intro y hy
    have hyb : y < 256 := by
      rcases List.mem_append.1 hy with h1 | h1
      · exact hb y h1
      · simp at h1; omega
    rw [nextP_ev h.all hx y hyb]
    rcases List.mem_append.1 hy with h1 | h1
    · rw [h.root y h1, Gf.zero_mul _ (Gf.xor_lt hyb hx)]
    · rw [List.mem_singleton] at h1
      subst h1
      rw [Nat.xor_self, Gf.mul_zero]

/-- nought at all others -/
def oneP (A : List Nat) (x n : Nat) : List Nat := (syn A x).take n
theorem oneP_nth {A xs : List Nat} (h : AllN A xs) (x k : Nat) : nth (oneP A x xs.length) k = nth (syn A x) k := by
  unfold oneP
  rw [nth_take]
  split
  · rfl
  · rw [syn_nth, List.drop_eq_nil_of_le (by rw [h.len]; omega)]; rfl
theorem oneP_len {A xs : List Nat} (h : AllN A xs) (x : Nat) : (oneP A x xs.length).length = xs.length := by
  unfold oneP
  rw [List.length_take, syn_len, h.len]; omega
theorem oneP_all {A : List Nat} (h : AllB A) (x n : Nat) : AllB (oneP A x n) := (syn_all h x).take n
theorem oneP_ev {A xs : List Nat} (h : AllN A xs) (x y : Nat) (hy : y < 256) : ev (oneP A x xs.length) y = ev (syn A x) y := ev_ext _ _ y hy (oneP_nth h x)
theorem xor_eq_zero {x y : Nat} (h0 : y ^^^ x = 0) : y = x := by
  have h1 : y ^^^ x ^^^ x = 0 ^^^ x := by rw [h0]
  rwa [Nat.xor_assoc, Nat.xor_self, Nat.xor_zero, Nat.zero_xor] at h1
theorem one_other {A xs : List Nat} (h : AllN A xs) (hb : AllB xs) {x y : Nat} (hx : x ∈ xs) (hy : y ∈ xs) (hne : y ≠ x) : ev (oneP A x xs.length) y = 0 := by
  have hxb := hb x hx
  have hyb := hb y hy
  rw [oneP_ev h x y hyb]
  have e2 := syn_ev A x y hxb hyb h.all
  rw [h.root x hx, h.root y hy, Nat.zero_xor] at e2
  apply Decidable.byContradiction
  intro h1
  exact Gf.mul_ne_zero _ _ (ev_lt (syn_all h.all x) y) (Gf.xor_lt hyb hxb) h1 (fun h0 => hne (xor_eq_zero h0)) e2.symm
theorem one_self {A xs : List Nat} (h : AllN A xs) (hb : AllB xs) (hn : xs.Nodup) {x : Nat} (hx : x ∈ xs) : ev (oneP A x xs.length) x ≠ 0 := by
  intro h0
  have hz := roots xs (oneP A x xs.length) hb (oneP_all h.all x _) hn (fun k hk => nth_ge (by rw [oneP_len h]; exact hk)) (fun y hy => by
    by_cases hyx : y = x
    · rw [hyx]; exact h0
    · exact one_other h hb hx hy hyx)
  have hpos : 0 < xs.length := List.length_pos_of_mem hx
  have e1 := hz (xs.length - 1)
  rw [oneP_nth h, syn_nth, show xs.length - 1 + 1 = xs.length by omega] at e1
  have e2 := drop_ev A x xs.length (hb x hx)
  rw [List.drop_eq_nil_of_le (as := A) (i := xs.length + 1) (by rw [h.len]; omega), h.top] at e2
  have e3 : ev [] x = 0 := rfl
  rw [e3, Gf.zero_mul x (hb x hx), e1] at e2
  revert e2; decide

/-- the sum of the first i -/
structure Upto (S xs ys : List Nat) (i : Nat) : Prop where
  len : S.length = xs.length
  all : AllB S
  val : ∀ j, j < xs.length → ev S (nth xs j) = if j < i then nth ys j else 0
theorem upto_start (xs ys : List Nat) (hb : AllB xs) : Upto (List.replicate xs.length 0) xs ys 0 :=
  ⟨List.length_replicate, AllB.replicate _, fun j hj => by rw [if_neg (by omega)]; exact ev_zero _ (nth_lt hb j) (fun k => nth_replicate _ _)⟩
theorem nth_mem {l : List Nat} {j : Nat} (h : j < l.length) : nth l j ∈ l := by rw [nth_get h]; exact List.getElem_mem h
theorem nth_inj {l : List Nat} (hn : l.Nodup) {i j : Nat} (hi : i < l.length) (hj : j < l.length) (h : nth l i = nth l j) : i = j := by
  rw [nth_get hi, nth_get hj] at h
  rw [List.nodup_iff_pairwise_ne, List.pairwise_iff_getElem] at hn
  rcases Nat.lt_trichotomy i j with h1 | h1 | h1
  · exact absurd h (hn i j hi hj h1)
  · exact h1
  · exact absurd h.symm (hn j i hj hi h1)
theorem upto_step {A S xs ys : List Nat} {i : Nat} (h : Upto S xs ys i) (hA : AllN A xs) (hb : AllB xs) (hyb : AllB ys) (hn : xs.Nodup) (hi : i < xs.length) :
    Upto (addTo S (oneP A (nth xs i) xs.length) (mul (nth ys i) (Gf.inv (ev (oneP A (nth xs i) xs.length) (nth xs i)))) 0 xs.length) xs ys (i + 1) := by
  have hx := nth_mem hi
  have hxb := nth_lt hb i
  have hs := one_self hA hb hn hx
  have hol := oneP_len hA (nth xs i)
  have hoa := oneP_all hA.all (nth xs i) xs.length
  have hoe : ∀ y, ev (oneP A (nth xs i) xs.length) y < 256 := fun y => ev_lt hoa y
  have hyi := nth_lt hyb i
  have hk : mul (nth ys i) (Gf.inv (ev (oneP A (nth xs i) xs.length) (nth xs i))) < 256 := Gf.mul_lt _ _ hyi
  have hdiv : mul (mul (nth ys i) (Gf.inv (ev (oneP A (nth xs i) xs.length) (nth xs i)))) (ev (oneP A (nth xs i) xs.length) (nth xs i)) = nth ys i := Gf.div_mul _ _ hyi (hoe _) hs
  have hoth : ∀ y ∈ xs, y ≠ nth xs i → ev (oneP A (nth xs i) xs.length) y = 0 := fun y hy hne => one_other hA hb hx hy hne
  generalize hc : mul (nth ys i) (Gf.inv (ev (oneP A (nth xs i) xs.length) (nth xs i))) = c at *
  generalize oneP A (nth xs i) xs.length = O at *
  refine ⟨by rw [addTo_len, h.len], addTo_all h.all hk _, fun j hj => ?_⟩
  let a : List Nat := O.map fun z => mul c z
  have ha : ∀ i, nth a i = mul c (nth O i) := by
    intro i
    by_cases hi : i < O.length
    · simp [nth, a, hi]
    · rw [nth_ge (by simp [a]; omega), nth_ge (l := O) (by omega), Gf.mul_zero]
  have hab : AllB a := by
    intro z hz
    obtain ⟨k, _, rfl⟩ := List.mem_map.1 hz
    exact Gf.mul_lt _ _ hk
  have hjb := nth_lt hb j
  have e := ev_xor S a (addTo S O c 0 xs.length) (nth xs j) hjb h.all hab (fun k => by
    have := addTo_nth' S O c 0 k (by rw [h.len, hol]; omega)
    rw [hol] at this
    rw [this, ha, if_pos (Nat.zero_le _), Nat.sub_zero])
  rw [e, ev_scale O a c _ hjb hk hoa ha, h.val j hj]
  by_cases hji : j = i
  · subst hji
    rw [if_neg (by omega), if_pos (by omega), hdiv, Nat.zero_xor]
  · rw [hoth (nth xs j) (nth_mem hj) (fun he => hji (nth_inj hn hj hi he)), Gf.mul_zero, Nat.xor_zero]
    by_cases h1 : j < i
    · rw [if_pos h1, if_pos (by omega)]
    · rw [if_neg h1, if_neg (by omega)]

/-- THE LAW: a polynomial that is short enough is the one through its own points -/
theorem through_law {S xs ys p : List Nat} (h : Upto S xs ys xs.length) (hb : AllB xs) (hn : xs.Nodup) (hp : AllB p) (hpl : p.length ≤ xs.length) (hys : ∀ j, j < xs.length → nth ys j = ev p (nth xs j)) : trim S = trim p := by
  apply trim_ext
  intro k
  let d : List Nat := (List.range xs.length).map fun k => nth S k ^^^ nth p k
  have hd : ∀ k, nth d k = nth S k ^^^ nth p k := by
    intro k
    by_cases hk : k < xs.length
    · simp [nth, d, hk]
    · rw [nth_ge (by simp [d]; omega), nth_ge (l := S) (by rw [h.len]; omega), nth_ge (l := p) (by omega)]; rfl
  have hdb : AllB d := by
    intro z hz
    obtain ⟨k, _, rfl⟩ := List.mem_map.1 hz
    exact Gf.xor_lt (nth_lt h.all k) (nth_lt hp k)
  have hz := roots xs d hb hdb hn (fun k hk => nth_ge (by simp [d]; omega)) (fun x hx => by
    obtain ⟨j, hj, rfl⟩ := List.getElem_of_mem hx
    have hjb := hb _ hx
    rw [ev_xor S p d _ hjb h.all hp hd]
    have e1 := h.val j hj
    rw [if_pos hj, hys j hj, nth_get hj] at e1
    rw [e1, Nat.xor_self])
  have := hz k
  rw [hd] at this
  exact xor_eq_zero this

/-- the points -/
def pts (fr n : Nat) : List Nat := (List.range n).map fun i => (fr + i * 3 % 256) % 256
theorem pts_nodup (fr n : Nat) (h : n ≤ 60) : (pts fr n).Nodup := by
  unfold pts
  rw [List.nodup_iff_pairwise_ne, List.pairwise_map]
  refine List.Pairwise.imp_of_mem ?_ (List.nodup_iff_pairwise_ne.1 List.nodup_range)
  intro a b ha hb hne he
  simp at ha hb
  omega
theorem pts_all (fr n : Nat) : AllB (pts fr n) := by
  intro z hz
  obtain ⟨k, _, rfl⟩ := List.mem_map.1 hz
  omega
theorem pts_len (fr n : Nat) : (pts fr n).length = n := by simp [pts]
theorem pts_succ (fr n : Nat) : pts fr (n + 1) = pts fr n ++ [(fr + n * 3 % 256) % 256] := by simp [pts, List.range_succ]
end Go.Proofs.Ytiejjjbnhkdfeaa
