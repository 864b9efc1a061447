/- What bits cost, symbol by symbol; how many symbols differ. -/
import Derived.Test.YtaedanklpedmkaaVitC
import Derived.Test.YtaedanklpedmkaaDistC
namespace Go.Proofs.Ytaedanklpedmkaa
set_option linter.unusedVariables false

def nsum (f : Nat → Nat) : Nat → Nat
  | 0 => 0
  | n + 1 => nsum f n + f n
theorem nsum_congr {f g : Nat → Nat} {n : Nat} (h : ∀ i, i < n → f i = g i) : nsum f n = nsum g n := by
  induction n with
  | zero => rfl
  | succ n ih => rw [nsum, nsum, ih (fun i hi => h i (by omega)), h n (by omega)]
theorem nsum_le {f g : Nat → Nat} {n : Nat} (h : ∀ i, i < n → f i ≤ g i) : nsum f n ≤ nsum g n := by
  induction n with
  | zero => exact Nat.le_refl _
  | succ n ih =>
    have := ih (fun i hi => h i (by omega))
    have := h n (by omega)
    rw [nsum, nsum]
    omega
theorem nsum_add (f g : Nat → Nat) (n : Nat) : nsum (fun i => f i + g i) n = nsum f n + nsum g n := by
  induction n with
  | zero => rfl
  | succ n ih => rw [nsum, nsum, nsum, ih]; omega
/-- what a symbol x costs where z came -/
def sy (x : Nat) (z : Int) : Nat := if x = 0 then (7 + z).toNat else (7 - z).toNat
/-- what a bit costs -/
def payS (r : Nat) (zs : Nat → Int) (i b s : Nat) : Nat :=
  (if ka r i = true then sy (q1 (2 * s + b)) (zs (cntTo r i)) else 0) + (if kb r i = true then sy (q2 (2 * s + b)) (zs (cntTo r i + (if ka r i = true then 1 else 0))) else 0)
theorem nth_snoc (l : List Nat) (x : Nat) : nth (l ++ [x]) l.length = x := by simp [nth]
theorem nth_left (l m : List Nat) (i : Nat) (h : i < l.length) : nth (l ++ m) i = nth l i := by
  unfold nth
  rw [List.getD_eq_getElem?_getD, List.getD_eq_getElem?_getD, List.getElem?_append_left h]
/-- a sum over a row that grows by one -/
theorem nsum_snoc (f : Nat → Nat → Nat) (l : List Nat) (x : Nat) : nsum (fun j => f j (nth (l ++ [x]) j)) (l.length + 1) = nsum (fun j => f j (nth l j)) l.length + f l.length x := by
  rw [nsum, nth_snoc]
  congr 1
  exact nsum_congr fun i hi => by rw [nth_left l [x] i hi]
/-- a sum over the symbols of i + 1 bits -/
theorem out_sum (f : Nat → Nat → Nat) (r : Nat) (a : List Nat) (i : Nat) : nsum (fun j => f j (nth (outTo r a (i + 1)) j)) (cntTo r (i + 1)) = nsum (fun j => f j (nth (outTo r a i) j)) (cntTo r i) +
    ((if ka r i = true then f (cntTo r i) (q1 (2 * cst a i + nth a i)) else 0) + (if kb r i = true then f (cntTo r i + (if ka r i = true then 1 else 0)) (q2 (2 * cst a i + nth a i)) else 0)) := by
  have hl := out_cnt r a i
  rw [outTo, cntTo]
  generalize outTo r a i = l at *
  rw [← hl]
  cases ka r i <;> cases kb r i
  · simp
  · have := nsum_snoc f l (q2 (2 * cst a i + nth a i))
    simpa using this
  · have := nsum_snoc f l (q1 (2 * cst a i + nth a i))
    simpa using this
  · have h1 := nsum_snoc f l (q1 (2 * cst a i + nth a i))
    have h2 := nsum_snoc f (l ++ [q1 (2 * cst a i + nth a i)]) (q2 (2 * cst a i + nth a i))
    have e : (l ++ [q1 (2 * cst a i + nth a i)]).length = l.length + 1 := by simp
    rw [e] at h2
    rw [h1] at h2
    simp only [if_true]
    rw [h2]
    omega
theorem pay_sum (r : Nat) (zs : Nat → Int) (a : List Nat) : ∀ i, sumPay (payS r zs) a i = nsum (fun j => sy (nth (outTo r a i) j) (zs j)) (cntTo r i)
  | 0 => rfl
  | i + 1 => by
    rw [out_sum (fun j x => sy x (zs j)) r a i, ← pay_sum r zs a i]
    rfl
/-- at how many of n places two rows differ -/
def ham (x y : Nat → Nat) (n : Nat) : Nat := nsum (fun j => if x j = y j then 0 else 1) n
theorem ham_tri (x y z : Nat → Nat) (n : Nat) : ham x z n ≤ ham x y n + ham y z n := by
  unfold ham
  rw [← nsum_add]
  refine nsum_le fun i _ => ?_
  by_cases h1 : x i = y i
  · rw [if_pos h1, h1]; omega
  · rw [if_neg h1]; split <;> omega
theorem ham_comm (x y : Nat → Nat) (n : Nat) : ham x y n = ham y x n := nsum_congr fun i _ => by
  by_cases h : x i = y i
  · rw [if_pos h, if_pos h.symm]
  · rw [if_neg h, if_neg (fun e => h e.symm)]
theorem nth_app (l m : List Nat) (i : Nat) (h : l.length = i) : nth (l ++ m) i = nth m 0 := by
  subst h
  unfold nth
  rw [List.getD_eq_getElem?_getD, List.getD_eq_getElem?_getD, List.getElem?_append_right (Nat.le_refl _), Nat.sub_self]
theorem out_one (r : Nat) (b : List Nat) (i : Nat) (hk : ka r i = true) : nth (outTo r b (i + 1)) (cntTo r i) = q1 (2 * cst b i + nth b i) := by
  rw [outTo, if_pos hk, List.append_assoc, nth_app _ _ _ (out_cnt r b i)]
  rfl
theorem out_two (r : Nat) (b : List Nat) (i : Nat) (hk : kb r i = true) : nth (outTo r b (i + 1)) (cntTo r i + (if ka r i = true then 1 else 0)) = q2 (2 * cst b i + nth b i) := by
  rw [outTo, if_pos hk, nth_app _ _ _ (by
    rw [List.length_append, out_cnt r b i]
    split <;> rfl)]
  rfl
/-- the symbols differ at as many places as the difference of the bits says -/
theorem dis_ham (r : Nat) (a b : List Nat) (ha : ∀ i, nth a i ≤ 1) (hb : ∀ i, nth b i ≤ 1) : ∀ i, dis r a b i = ham (nth (outTo r a i)) (nth (outTo r b i)) (cntTo r i)
  | 0 => rfl
  | i + 1 => by
    have hxa : 2 * cst a i + nth a i < 128 := by have := cst_lt a i; have := ha i; omega
    have hxb : 2 * cst b i + nth b i < 128 := by have := cst_lt b i; have := hb i; omega
    obtain ⟨l1, l2⟩ := q_lin _ hxa _ hxb
    unfold ham
    rw [out_sum (fun j x => if x = nth (outTo r b (i + 1)) j then 0 else 1) r a i]
    have e : nsum (fun j => if nth (outTo r a i) j = nth (outTo r b (i + 1)) j then 0 else 1) (cntTo r i) = ham (nth (outTo r a i)) (nth (outTo r b i)) (cntTo r i) := nsum_congr fun j hj => by
      rw [show nth (outTo r b (i + 1)) j = nth (outTo r b i) j by rw [outTo, List.append_assoc, nth_left _ _ _ (by rw [out_cnt]; exact hj)]]
    rw [e, ← dis_ham r a b ha hb i]
    show dis r a b i + wtd r i _ = _
    unfold wtd
    rw [← l1, ← l2]
    congr 2
    · by_cases h : ka r i = true
      · rw [if_pos h, if_pos h, out_one r b i h]
      · rw [if_neg h, if_neg h]
    · by_cases h : kb r i = true
      · rw [if_pos h, if_pos h, out_two r b i h]
      · rw [if_neg h, if_neg h]
/-- hard symbols: 14 for each that is wrong -/
theorem sum_hard (r : Nat) (h : Nat → Nat) (hh : ∀ j, h j ≤ 1) (x : Nat → Nat) (hx : ∀ j, x j ≤ 1) (n : Nat) : nsum (fun j => sy (x j) (7 * (2 * (h j : Int) - 1))) n = 14 * ham x h n := by
  induction n with
  | zero => rfl
  | succ n ih =>
    have e : sy (x n) (7 * (2 * (h n : Int) - 1)) = 14 * (if x n = h n then 0 else 1) := by
      have := hh n
      have := hx n
      unfold sy
      rcases (show h n = 0 ∨ h n = 1 by omega) with h1 | h1 <;> rcases (show x n = 0 ∨ x n = 1 by omega) with h2 | h2 <;> rw [h1, h2] <;> rfl
    have e2 : ham x h (n + 1) = ham x h n + (if x n = h n then 0 else 1) := rfl
    rw [nsum, ih, e, e2]
    omega
theorem out_bits (r : Nat) (a : List Nat) : ∀ i j, nth (outTo r a i) j ≤ 1
  | 0, j => by simp [outTo, nth]
  | i + 1, j => by
    have key : ∀ x, x ∈ outTo r a (i + 1) → x ≤ 1 := by
      have base : ∀ m, ∀ x, x ∈ outTo r a m → x ≤ 1 := by
        intro m
        induction m with
        | zero => intro x hx; simp [outTo] at hx
        | succ m ih =>
          intro x hx
          rw [outTo, List.mem_append, List.mem_append] at hx
          rcases hx with (hx | hx) | hx
          · exact ih x hx
          · split at hx
            · simp at hx; have := q1_lt (2 * cst a m + nth a m); omega
            · simp at hx
          · split at hx
            · simp at hx; have := q2_lt (2 * cst a m + nth a m); omega
            · simp at hx
      exact base (i + 1)
    rcases Nat.lt_or_ge j (outTo r a (i + 1)).length with h | h
    · rw [nth_get h]; exact key _ (List.getElem_mem _)
    · rw [nth_ge h]; omega
/-- A FEW SYMBOLS MAY BE TURNED ROUND -/
theorem mends_plain (r n few : Nat) (h1 : 1 ≤ r) (h5 : r ≤ 5) (hfew : 2 * few < dmin r) (l : List Nat) (hl : l.length = n) (hlb : ∀ i, nth l i ≤ 1) (h : Nat → Nat) (hh : ∀ j, h j ≤ 1) (hham : ham (nth (outTo r l (n + 6))) h (cntTo r (n + 6)) ≤ few)
    (C : Nat → Nat → Nat) (K : Nat → Nat → Bool) (V : Vit n (n + 6) (payS r fun j => 7 * (2 * (h j : Int) - 1)) C K) : got K (n + 6) n = l := by
  have hz : ∀ i, n ≤ i → nth l i = 0 := fun i hi => nth_ge (by omega)
  have hlow := V.low l hlb hz (n + 6) (Nat.le_refl _)
  rw [cst_end l n hz, pay_sum, sum_hard r h hh _ (out_bits r l _)] at hlow
  have hd : dmin r ≤ 9 := by
    rcases (show r = 1 ∨ r = 2 ∨ r = 3 ∨ r = 4 ∨ r = 5 by omega) with rfl | rfl | rfl | rfl | rfl <;> decide
  have hfar : C (n + 6) 0 < far := by unfold far; omega
  have hbest := (V.best (by omega) hfar (n + 6) (Nat.le_refl _)).2
  rw [Nat.sub_self, pay_sum, sum_hard r h hh _ (out_bits r _ _)] at hbest
  have eb : bck K (n + 6) 0 = 0 := rfl
  rw [eb] at hbest
  have hgb : ∀ i, nth (got K (n + 6) n) i ≤ 1 := fun i => by rw [got_nth]; split <;> omega
  have hgz : ∀ i, n ≤ i → nth (got K (n + 6) n) i = 0 := fun i hi => by rw [got_nth, if_neg (by omega)]
  have hgl : (got K (n + 6) n).length = n := by simp [got]
  have htri := ham_tri (nth (outTo r (got K (n + 6) n) (n + 6))) h (nth (outTo r l (n + 6))) (cntTo r (n + 6))
  rw [ham_comm h] at htri
  rw [← dis_ham r _ _ hgb hlb] at htri
  by_cases hne : ∃ i, nth (got K (n + 6) n) i ≠ nth l i
  · have := far_apart r h1 h5 _ _ n hgb hlb hgz hz hne
    omega
  · refine List.ext_getElem (by omega) fun i i1 i2 => ?_
    have e : nth (got K (n + 6) n) i = nth l i := by
      rcases Nat.decEq (nth (got K (n + 6) n) i) (nth l i) with hh2 | hh2
      · exact absurd ⟨i, hh2⟩ hne
      · exact hh2
    rwa [nth_get i1, nth_get i2] at e
end Go.Proofs.Ytaedanklpedmkaa
