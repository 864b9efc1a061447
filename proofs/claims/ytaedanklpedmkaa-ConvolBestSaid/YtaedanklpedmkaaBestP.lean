/- ConvolBest in plain words: no bits cost less than those on the way back, and of those that cost as much they are the first. -/
import Derived.Test.YtaedanklpedmkaaSlC
namespace Go.Proofs.Ytaedanklpedmkaa
set_option linter.unusedVariables false

/-- the state ahead on the way that is kept -/
def prv (r n : Nat) (zs : List Int) (i s : Nat) : Nat := if chs r n zs i s = true then s / 2 + 32 else s / 2
theorem prv_lt (r n : Nat) (zs : List Int) (i s : Nat) (h : s < 64) : prv r n zs i s < 64 := by
  unfold prv
  split <;> omega
/-- the bits of the way that is kept, as one number (the six bits of the first state ahead of them) -/
def vl (r n : Nat) (zs : List Int) : Nat → Nat → Nat
  | 0, s => s
  | i + 1, s => 2 * vl r n zs i (prv r n zs i s) + s % 2
theorem newO_prv (r n : Nat) (zs : List Int) (i s : Nat) : newO (payS r (fun j => zs.getD j 0) i) (trl r n zs i).1 (trl r n zs i).2 s = 2 * nth (trl r n zs i).2 (prv r n zs i s) + s % 2 := by
  unfold newO prv chs
  split <;> rfl
/-- the ranks stand as the numbers do -/
theorem ord_iff (r n : Nat) (zs : List Int) : ∀ i a b, a < 64 → b < 64 → (nth (trl r n zs i).2 a < nth (trl r n zs i).2 b ↔ vl r n zs i a < vl r n zs i b)
  | 0, a, b, ha, hb => by
    rw [show (trl r n zs 0).2 = lst (fun s => s) from rfl, lst_nth _ _ ha, lst_nth _ _ hb]
    exact Iff.rfl
  | i + 1, a, b, ha, hb => by
    rw [show (trl r n zs (i + 1)).2 = lst (rk (newO (payS r (fun j => zs.getD j 0) i) (trl r n zs i).1 (trl r n zs i).2)) from rfl, lst_nth _ _ ha, lst_nth _ _ hb, rk_lt_iff _ _ _ ha hb, newO_prv, newO_prv]
    have h1 := ord_iff r n zs i (prv r n zs i a) (prv r n zs i b) (prv_lt _ _ _ _ _ ha) (prv_lt _ _ _ _ _ hb)
    have h2 := ord_iff r n zs i (prv r n zs i b) (prv r n zs i a) (prv_lt _ _ _ _ _ hb) (prv_lt _ _ _ _ _ ha)
    have ca : a % 2 < 2 := Nat.mod_lt _ (by decide)
    have cb : b % 2 < 2 := Nat.mod_lt _ (by decide)
    show _ ↔ 2 * vl r n zs i (prv r n zs i a) + a % 2 < 2 * vl r n zs i (prv r n zs i b) + b % 2
    omega
/-- the first i bits as one number -/
def num (a : List Nat) : Nat → Nat
  | 0 => 0
  | i + 1 => 2 * num a i + nth a i
theorem num_zero (a : List Nat) (n : Nat) (hz : ∀ i, n ≤ i → nth a i = 0) : ∀ j, num a (n + j) = 2 ^ j * num a n
  | 0 => by simp
  | j + 1 => by
    show 2 * num a (n + j) + nth a (n + j) = _
    rw [num_zero a n hz j, hz _ (by omega), Nat.pow_succ]
    rw [Nat.add_zero, ← Nat.mul_assoc, Nat.mul_comm 2]
/-- of the bits that cost least the way that is kept has the first -/
theorem first_path (r n : Nat) (zs : List Int) (a : List Nat) (ha : ∀ i, nth a i ≤ 1) (hz : ∀ i, n ≤ i → nth a i = 0) : ∀ i, i ≤ n + 6 →
    nth (trl r n zs i).1 (cst a i) = sumPay (payS r fun j => zs.getD j 0) a i → vl r n zs i (cst a i) ≤ num a i
  | 0, _, _ => by
    show cst a 0 ≤ 0
    simp [cst]
  | i + 1, hi, he => by
    have V := trl_vit r n zs
    have hs := cst_lt a i
    have hb := ha i
    have e : cst a (i + 1) = (2 * cst a i + nth a i) % 64 := rfl
    have hs2 := cst_lt a (i + 1)
    have eb : cst a (i + 1) % 2 = nth a i := by omega
    have hlow := V.low a ha hz i (by omega)
    have ih := first_path r n zs a ha hz i (by omega)
    have hy := V.yes i _ (by omega) hs2 (by
      rintro ⟨h1, h2⟩
      have := hz i h2
      omega)
    have hcase : cst a i = cst a (i + 1) / 2 ∨ cst a i = cst a (i + 1) / 2 + 32 := by omega
    have hup := V.up i (cst a (i + 1)) (by omega) hs2
    have hlo := V.lo i (cst a (i + 1)) (by omega) hs2
    have hord1 := ord_iff r n zs i (cst a (i + 1) / 2) (cst a (i + 1) / 2 + 32) (by omega) (by omega)
    have hord2 := ord_iff r n zs i (cst a (i + 1) / 2 + 32) (cst a (i + 1) / 2) (by omega) (by omega)
    have hinj := (trl_ord r n zs i).2 (cst a (i + 1) / 2) (cst a (i + 1) / 2 + 32) (by omega) (by omega)
    have hch : chs r n zs i (cst a (i + 1)) = hiK (payS r (fun j => zs.getD j 0) i) (trl r n zs i).1 (trl r n zs i).2 (cst a (i + 1)) := rfl
    unfold hiK at hch
    show 2 * vl r n zs i (prv r n zs i (cst a (i + 1))) + cst a (i + 1) % 2 ≤ 2 * num a i + nth a i
    have he' : nth (trl r n zs (i + 1)).1 (cst a (i + 1)) = sumPay (payS r fun j => zs.getD j 0) a i + payS r (fun j => zs.getD j 0) i (nth a i) (cst a i) := he
    rw [hy] at he'
    unfold prv
    rw [eb] at *
    generalize cst a (i + 1) / 2 = t at *
    generalize sumPay (payS r fun j => zs.getD j 0) a i = sp at *
    generalize hpl : payS r (fun j => zs.getD j 0) i (nth a i) t = pl at *
    generalize hph : payS r (fun j => zs.getD j 0) i (nth a i) (t + 32) = ph at *
    cases hk : chs r n zs i (cst a (i + 1))
    · have h1 := hlo hk
      rw [hk] at he' hch
      have h2 := Eq.symm hch
      rw [Bool.or_eq_false_iff, decide_eq_false_iff_not, Bool.and_eq_false_iff, decide_eq_false_iff_not, decide_eq_false_iff_not] at h2
      simp only [Bool.false_eq_true, if_false] at he' ⊢
      rcases hcase with hc | hc
      · rw [hc] at ih hlow he'
        rw [hpl] at he'
        have := ih (by omega)
        omega
      · rw [hc] at ih hlow he'
        rw [hph] at he'
        have := ih (by omega)
        omega
    · have h1 := hup hk
      rw [hk] at he' hch
      have h2 := Eq.symm hch
      rw [Bool.or_eq_true, decide_eq_true_eq, Bool.and_eq_true, decide_eq_true_eq, decide_eq_true_eq] at h2
      simp only [if_true] at he' ⊢
      rcases hcase with hc | hc
      · rw [hc] at ih hlow he'
        rw [hpl] at he'
        have := ih (by omega)
        omega
      · rw [hc] at ih hlow he'
        rw [hph] at he'
        have := ih (by omega)
        omega
/-- the bits of the way back, as one number -/
theorem num_got (r n : Nat) (zs : List Int) (hfar : nth (trl r n zs (n + 6)).1 0 < far) : ∀ i, i ≤ n + 6 → vl r n zs i (bck (chs r n zs) (n + 6) (n + 6 - i)) = num (got (chs r n zs) (n + 6) n) i
  | 0, _ => by
    have h := (trl_vit r n zs).best (by omega) hfar 0 (by omega)
    have h1 := h.1
    show bck (chs r n zs) (n + 6) (n + 6 - 0) = 0
    rw [← h1]
    simp [cst]
  | i + 1, hi => by
    have ih := num_got r n zs hfar i (by omega)
    have hw := ((trl_vit r n zs).way hfar (n + 6 - i) (by omega)).2 (by omega)
    have e1 : n + 6 - i - 1 = n + 6 - (i + 1) := by omega
    have e2 : n + 6 - (n + 6 - i) = i := by omega
    rw [e1, e2] at hw
    show 2 * vl r n zs i (prv r n zs i (bck (chs r n zs) (n + 6) (n + 6 - (i + 1)))) + bck (chs r n zs) (n + 6) (n + 6 - (i + 1)) % 2 = 2 * num (got (chs r n zs) (n + 6) n) i + nth (got (chs r n zs) (n + 6) n) i
    have hp : prv r n zs i (bck (chs r n zs) (n + 6) (n + 6 - (i + 1))) = bck (chs r n zs) (n + 6) (n + 6 - i) := by
      have hd : n + 6 - i = n + 6 - (i + 1) + 1 := by omega
      rw [hd, bck]
      have hd2 : n + 6 - 1 - (n + 6 - (i + 1)) = i := by omega
      rw [hd2]
      unfold prv
      split <;> rfl
    rw [hp, ih]
    congr 1
    rw [got_nth]
    have hd3 : n + 6 - 1 - i = n + 6 - (i + 1) := by omega
    rw [hd3]
    by_cases h : i < n
    · rw [if_pos h]
    · rw [if_neg h]
      have := hw.2.1
      omega
/-- the lowest cost stays below far -/
theorem cost_near (r n : Nat) (zs : List Int) (hz : Soft zs) (hn : n ≤ 16384) : nth (trl r n zs (n + 6)).1 0 < far := by
  have h := (trl_vit r n zs).low [] (fun i => by simp [nth]) (fun i _ => by simp [nth]) (n + 6) (Nat.le_refl _)
  rw [cst_end [] n (fun i _ => by simp [nth])] at h
  have hs : ∀ i, sumPay (payS r fun j => zs.getD j 0) [] i ≤ 28 * i := by
    intro i
    induction i with
    | zero => exact Nat.le_refl _
    | succ i ih =>
      have := payS_le r zs hz i (nth [] i) (cst [] i)
      rw [sumPay]
      omega
  have := hs (n + 6)
  unfold far
  omega
/-- no bits cost less -/
theorem best_cost (r n : Nat) (zs : List Int) (a : List Nat) (ha : ∀ i, nth a i ≤ 1) (hz : ∀ i, n ≤ i → nth a i = 0) : nth (trl r n zs (n + 6)).1 0 ≤ sumPay (payS r fun j => zs.getD j 0) a (n + 6) := by
  have h := (trl_vit r n zs).low a ha hz (n + 6) (Nat.le_refl _)
  rw [cst_end a n hz] at h
  exact h
theorem got_cost (r n : Nat) (zs : List Int) (hs : Soft zs) (hn : n ≤ 16384) : sumPay (payS r fun j => zs.getD j 0) (got (chs r n zs) (n + 6) n) (n + 6) = nth (trl r n zs (n + 6)).1 0 := by
  have h := ((trl_vit r n zs).best (by omega) (cost_near r n zs hs hn) (n + 6) (Nat.le_refl _)).2
  rw [Nat.sub_self] at h
  exact h
/-- of those that cost as much they are the first -/
theorem best_first (r n : Nat) (zs : List Int) (hs : Soft zs) (hn : n ≤ 16384) (a : List Nat) (ha : ∀ i, nth a i ≤ 1) (hz : ∀ i, n ≤ i → nth a i = 0) (he : sumPay (payS r fun j => zs.getD j 0) a (n + 6) = nth (trl r n zs (n + 6)).1 0) : num (got (chs r n zs) (n + 6) n) n ≤ num a n := by
  have h1 := first_path r n zs a ha hz (n + 6) (Nat.le_refl _)
  rw [cst_end a n hz] at h1
  have h2 := h1 he.symm
  have h3 := num_got r n zs (cost_near r n zs hs hn) (n + 6) (Nat.le_refl _)
  rw [Nat.sub_self] at h3
  rw [show bck (chs r n zs) (n + 6) 0 = 0 from rfl] at h3
  rw [h3, num_zero a n hz 6, num_zero _ n (fun i hi => by rw [got_nth, if_neg (by omega)]) 6] at h2
  omega
end Go.Proofs.Ytaedanklpedmkaa
