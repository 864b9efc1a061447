/- Ranks: numbers below 128 that are unlike, one for each of 64 states, are counted through. -/
import Derived.Test.YtaedanklpedmkaaTcC
namespace Go.Proofs.Ytaedanklpedmkaa
set_option linter.unusedVariables false

/-- a list of 64 by its entries -/
def lst (f : Nat → Nat) : List Nat := (List.range 64).map f
theorem lst_len (f : Nat → Nat) : (lst f).length = 64 := by simp [lst]
theorem lst_nth (f : Nat → Nat) (i : Nat) (h : i < 64) : nth (lst f) i = f i := by simp [lst, nth, h]
theorem lst_congr {f g : Nat → Nat} (h : ∀ i, i < 64 → f i = g i) : lst f = lst g := by
  unfold lst
  exact List.map_congr_left fun i hi => h i (by simpa using hi)
theorem lst_set (f : Nat → Nat) (i x : Nat) (h : i < 64) : (lst f).set i x = lst (fun j => if j = i then x else f j) := by
  refine List.ext_getElem (by simp [lst]) fun j h1 h2 => ?_
  rw [List.getElem_set]
  simp only [lst, List.getElem_map, List.getElem_range]
  by_cases e : i = j
  · rw [if_pos e, if_pos e.symm]
  · rw [if_neg e, if_neg (fun h => e h.symm)]
theorem lst_eta (l : List Nat) (h : l.length = 64) : lst (nth l) = l := by
  refine List.ext_getElem (by simp [lst, h]) fun j h1 h2 => ?_
  simp [lst, nth, h2]
def lst2 (f : Nat → Nat) : List Nat := (List.range 128).map f
theorem lst2_len (f : Nat → Nat) : (lst2 f).length = 128 := by simp [lst2]
theorem lst2_nth (f : Nat → Nat) (i : Nat) (h : i < 128) : nth (lst2 f) i = f i := by simp [lst2, nth, h]
theorem lst2_congr {f g : Nat → Nat} (h : ∀ i, i < 128 → f i = g i) : lst2 f = lst2 g := by
  unfold lst2
  exact List.map_congr_left fun i hi => h i (by simpa using hi)
theorem lst2_set (f : Nat → Nat) (i x : Nat) (h : i < 128) : (lst2 f).set i x = lst2 (fun j => if j = i then x else f j) := by
  refine List.ext_getElem (by simp [lst2]) fun j h1 h2 => ?_
  rw [List.getElem_set]
  simp only [lst2, List.getElem_map, List.getElem_range]
  by_cases e : i = j
  · rw [if_pos e, if_pos e.symm]
  · rw [if_neg e, if_neg (fun h => e h.symm)]
/-- which state has the number j, one more; 0: none of the first k -/
def byTo (f : Nat → Nat) : Nat → Nat → Nat
  | 0, _ => 0
  | k + 1, j => if j = f k then k + 1 else byTo f k j
theorem byTo_le (f : Nat → Nat) (j : Nat) : ∀ k, byTo f k j ≤ k
  | 0 => Nat.le_refl _
  | k + 1 => by
    have := byTo_le f j k
    rw [byTo]
    split <;> omega
theorem byTo_hit (f : Nat → Nat) (j : Nat) : ∀ k, byTo f k j ≠ 0 → f (byTo f k j - 1) = j
  | 0, h => absurd rfl h
  | k + 1, h => by
    rw [byTo] at h ⊢
    by_cases e : j = f k
    · rw [if_pos e]; simp [e]
    · rw [if_neg e] at h ⊢
      exact byTo_hit f j k h
theorem byTo_none (f : Nat → Nat) (j : Nat) : ∀ k, byTo f k j = 0 → ∀ s, s < k → f s ≠ j
  | 0, _, s, hs => by omega
  | k + 1, h, s, hs => by
    rw [byTo] at h
    by_cases e : j = f k
    · rw [if_pos e] at h; omega
    · rw [if_neg e] at h
      by_cases e2 : s = k
      · subst e2; exact fun e3 => e e3.symm
      · exact byTo_none f j k h s (by omega)
theorem by_step (f : Nat → Nat) (k : Nat) (h : f k < 128) : (lst2 (byTo f k)).set (f k) (k + 1) = lst2 (byTo f (k + 1)) := by
  rw [lst2_set _ _ _ h]
  exact lst2_congr fun i hi => rfl
/-- of the first k states, how many have a number below m -/
def rnk (f : Nat → Nat) (m : Nat) : Nat → Nat
  | 0 => 0
  | k + 1 => rnk f m k + if f k < m then 1 else 0
theorem rnk_le (f : Nat → Nat) (m : Nat) : ∀ k, rnk f m k ≤ k
  | 0 => Nat.le_refl _
  | k + 1 => by
    have := rnk_le f m k
    rw [rnk]
    split <;> omega
theorem rnk_lt (f : Nat → Nat) (m s : Nat) (hm : m ≤ f s) : ∀ k, s < k → rnk f m k < k
  | 0, h => by omega
  | k + 1, h => by
    rw [rnk]
    by_cases e : s = k
    · subst e
      have := rnk_le f m s
      rw [if_neg (by omega)]
      omega
    · have := rnk_lt f m s hm k (by omega)
      split <;> omega
theorem rnk_zero (f : Nat → Nat) : ∀ k, rnk f 0 k = 0
  | 0 => rfl
  | k + 1 => by rw [rnk, rnk_zero f k, if_neg (by omega)]
theorem rnk_none (f : Nat → Nat) (m : Nat) : ∀ k, (∀ s, s < k → f s ≠ m) → rnk f (m + 1) k = rnk f m k
  | 0, _ => rfl
  | k + 1, h => by
    have h1 := h k (by omega)
    rw [rnk, rnk, rnk_none f m k (fun s hs => h s (by omega))]
    congr 1
    by_cases e : f k < m
    · rw [if_pos e, if_pos (by omega)]
    · rw [if_neg e, if_neg (by omega)]
theorem rnk_one (f : Nat → Nat) (m s : Nat) (hs : f s = m) : ∀ k, (∀ a b, a < k → b < k → f a = f b → a = b) → s < k → rnk f (m + 1) k = rnk f m k + 1
  | 0, _, h => by omega
  | k + 1, hi, h => by
    rw [rnk, rnk]
    by_cases e : s = k
    · subst e
      rw [rnk_none f m s (fun t ht e => absurd (hi t s (by omega) (by omega) (by rw [e, hs])) (by omega)), hs, if_pos (by omega), if_neg (by omega)]
    · rw [rnk_one f m s hs k (fun a b ha hb => hi a b (by omega) (by omega)) (by omega)]
      have h1 : f k ≠ m := fun e2 => e (hi s k h (by omega) (by rw [e2, hs]))
      by_cases e : f k < m
      · rw [if_pos e, if_pos (by omega)]
      · rw [if_neg e, if_neg (by omega)]
/-- a lower number, a lower rank -/
theorem rnk_mono (f : Nat → Nat) (a b : Nat) (h : a ≤ b) : ∀ k, rnk f a k ≤ rnk f b k
  | 0 => Nat.le_refl _
  | k + 1 => by
    have := rnk_mono f a b h k
    rw [rnk, rnk]
    split <;> split <;> omega
theorem rnk_sep (f : Nat → Nat) (a b s : Nat) (h1 : a ≤ f s) (h2 : f s < b) : ∀ k, s < k → rnk f a k < rnk f b k
  | 0, h => by omega
  | k + 1, h => by
    have hm := rnk_mono f a b (by omega) k
    rw [rnk, rnk]
    by_cases e : s = k
    · subst e
      rw [if_neg (by omega), if_pos h2]
      omega
    · have := rnk_sep f a b s h1 h2 k (by omega)
      by_cases e2 : f k < a
      · rw [if_pos e2, if_pos (by omega)]; omega
      · rw [if_neg e2]; omega
/-- the ranks -/
def rk (f : Nat → Nat) (s : Nat) : Nat := rnk f (f s) 64
theorem rk_lt (f : Nat → Nat) (s : Nat) (h : s < 64) : rk f s < 64 := rnk_lt f _ s (Nat.le_refl _) 64 h
theorem rk_lt_iff (f : Nat → Nat) (a b : Nat) (ha : a < 64) (hb : b < 64) : rk f a < rk f b ↔ f a < f b := by
  unfold rk
  constructor
  · intro h
    rcases Nat.lt_or_ge (f a) (f b) with h1 | h1
    · exact h1
    · have := rnk_mono f _ _ h1 64; omega
  · intro h
    exact rnk_sep f _ _ a (Nat.le_refl _) h 64 ha
theorem rk_inj (f : Nat → Nat) (hi : ∀ a b, a < 64 → b < 64 → f a = f b → a = b) (a b : Nat) (ha : a < 64) (hb : b < 64) (h : rk f a = rk f b) : a = b := by
  refine hi a b ha hb ?_
  have h1 := rk_lt_iff f a b ha hb
  have h2 := rk_lt_iff f b a hb ha
  omega
/-- the orders when m numbers have been counted through -/
def ordTo (f old : Nat → Nat) (m s : Nat) : Nat := if f s < m then rk f s else old s
theorem ord_zero (f old : Nat → Nat) : lst (ordTo f old 0) = lst old := lst_congr fun s _ => if_neg (by omega)
theorem ord_all (f old : Nat → Nat) (h : ∀ s, s < 64 → f s < 128) : lst (ordTo f old 128) = lst (rk f) := lst_congr fun s hs => if_pos (h s hs)
theorem ord_none (f old : Nat → Nat) (m : Nat) (h : byTo f 64 m = 0) : lst (ordTo f old (m + 1)) = lst (ordTo f old m) ∧ rnk f (m + 1) 64 = rnk f m 64 := by
  have h1 := byTo_none f m 64 h
  refine ⟨lst_congr fun s hs => ?_, rnk_none f m 64 h1⟩
  unfold ordTo
  have := h1 s hs
  by_cases e : f s < m
  · rw [if_pos e, if_pos (by omega)]
  · rw [if_neg e, if_neg (by omega)]
theorem ord_one (f old : Nat → Nat) (hi : ∀ a b, a < 64 → b < 64 → f a = f b → a = b) (m : Nat) (h : byTo f 64 m ≠ 0) : lst (ordTo f old (m + 1)) = (lst (ordTo f old m)).set (byTo f 64 m - 1) (rnk f m 64) ∧ rnk f (m + 1) 64 = rnk f m 64 + 1 := by
  have h1 := byTo_hit f m 64 h
  have h2 := byTo_le f m 64
  have hs : byTo f 64 m - 1 < 64 := by omega
  generalize byTo f 64 m - 1 = s at *
  refine ⟨?_, rnk_one f m s h1 64 hi hs⟩
  rw [lst_set _ _ _ hs]
  refine lst_congr fun t ht => ?_
  unfold ordTo rk
  by_cases e : t = s
  · subst e
    rw [if_pos rfl, if_pos (by omega), h1]
  · rw [if_neg e]
    have h3 : f t ≠ m := fun e2 => e (hi t s ht hs (by rw [e2, h1]))
    by_cases e : f t < m
    · rw [if_pos e, if_pos (by omega)]
    · rw [if_neg e, if_neg (by omega)]
end Go.Proofs.Ytaedanklpedmkaa
