/- PassesDue, plain: who has to be gone first goes first; then each stretch of time has room, or one is late. -/
import Derived.Test.YtfbchmihkndfaaaProg
import Derived.KernelRfl
namespace Go.Proofs.Ytfbchmihkndfaaa
set_option linter.unusedVariables false

/-- a sum over the numbers below m -/
def sm : Nat → (Nat → Nat) → Nat
  | 0, _ => 0
  | m + 1, f => sm m f + f m
theorem sm_congr {f g : Nat → Nat} : ∀ m, (∀ i, i < m → f i = g i) → sm m f = sm m g
  | 0, _ => rfl
  | m + 1, h => by unfold sm; rw [sm_congr m (fun i hi => h i (by omega)), h m (by omega)]
theorem sm_le {f g : Nat → Nat} : ∀ m, (∀ i, i < m → f i ≤ g i) → sm m f ≤ sm m g
  | 0, _ => Nat.le_refl _
  | m + 1, h => by
    unfold sm
    have := sm_le m (fun i hi => h i (by omega))
    have := h m (by omega)
    omega
theorem sm_zero {f : Nat → Nat} (m : Nat) (h : ∀ i, i < m → f i = 0) : sm m f = 0 := by
  induction m with
  | zero => rfl
  | succ m ih => unfold sm; rw [ih (fun i hi => h i (by omega)), h m (by omega)]
theorem sm_at {f : Nat → Nat} : ∀ (m k : Nat), k < m → f k ≤ sm m f
  | 0, k, h => by omega
  | m + 1, k, h => by
    unfold sm
    by_cases e : k = m
    · subst e; omega
    · have := sm_at (f := f) m k (by omega)
      omega
theorem sm_add (f g : Nat → Nat) : ∀ m, sm m (fun i => f i + g i) = sm m f + sm m g
  | 0 => rfl
  | m + 1 => by
    show sm m (fun i => f i + g i) + (f m + g m) = (sm m f + f m) + (sm m g + g m)
    rw [sm_add f g m]
    omega
def upd (f : Nat → Nat) (k v : Nat) : Nat → Nat := fun i => if i = k then v else f i
theorem upd_self (f : Nat → Nat) (k v : Nat) : upd f k v k = v := if_pos rfl
theorem upd_ne (f : Nat → Nat) {k i : Nat} (v : Nat) (h : i ≠ k) : upd f k v i = f i := if_neg h
/-- the sum over some of them, one of them turned -/
theorem sm_upd (f : Nat → Nat) (c : Nat → Prop) [DecidablePred c] (k v : Nat) : ∀ m, k < m → c k → sm m (fun i => if c i then upd f k v i else 0) + f k = sm m (fun i => if c i then f i else 0) + v
  | 0, h, _ => by omega
  | m + 1, h, hc => by
    unfold sm
    by_cases e : k = m
    · subst e
      rw [sm_congr k (f := fun i => if c i then upd f k v i else 0) (g := fun i => if c i then f i else 0) (fun i hi => by
        show (if c i then upd f k v i else 0) = _
        rw [upd_ne f v (by omega)])]
      simp only [if_pos hc, upd_self]
      omega
    · have := sm_upd f c k v m (by omega) hc
      have e2 : (if c m then upd f k v m else 0) = if c m then f m else 0 := by rw [upd_ne f v (fun h => e h.symm)]
      simp only [e2]
      omega
theorem sm_upd_no (f : Nat → Nat) (c : Nat → Prop) [DecidablePred c] (k v m : Nat) (hc : ¬ c k) : sm m (fun i => if c i then upd f k v i else 0) = sm m (fun i => if c i then f i else 0) :=
  sm_congr m fun i _ => by
    show (if c i then upd f k v i else 0) = if c i then f i else 0
    by_cases e : i = k
    · subst e; rw [if_neg hc, if_neg hc]
    · rw [upd_ne f v e]
/-- jobs: how many, from when, by when, how much -/
structure Jobs where
  m : Nat
  F : Nat → Nat
  Y : Nat → Nat
  N : Nat → Nat
/-- what is left of those that are there and have to be gone by D -/
def Jobs.left (J : Jobs) (D t : Nat) (rem : Nat → Nat) : Nat := sm J.m fun i => if J.F i ≤ t ∧ J.Y i ≤ D then rem i else 0
/-- one tick, so far -/
structure Srv (J : Jobs) (t n0 n : Nat) (rem0 rem : Nat → Nat) (gone0 gone : Nat → Int) : Prop where
  nle : n ≤ n0
  le : ∀ i, i < J.m → rem i ≤ rem0 i
  late : ∀ i, i < J.m → t < J.F i → rem i = rem0 i
  sum : sm J.m rem0 + n ≤ sm J.m rem + n0
  sd : ∀ D, J.left D t rem ≤ J.left D t rem0 - (n0 - n)
  gn : ∀ i, i < J.m → gone i = if 0 < rem0 i ∧ rem i = 0 then ((t + 1 : Nat) : Int) else gone0 i
theorem Srv.start (J : Jobs) (t n0 : Nat) (rem0 : Nat → Nat) (gone0 : Nat → Int) : Srv J t n0 n0 rem0 rem0 gone0 gone0 :=
  ⟨Nat.le_refl _, fun _ _ => Nat.le_refl _, fun _ _ _ => rfl, Nat.le_refl _, fun D => by omega, fun i _ => by
    rw [if_neg (by omega)]⟩
theorem left_zero {J : Jobs} {D t : Nat} {rem : Nat → Nat} (h : ∀ i, i < J.m → J.F i ≤ t → J.Y i ≤ D → rem i = 0) : J.left D t rem = 0 :=
  sm_zero _ fun i hi => by
    show (if _ then _ else _) = _
    split
    · rename_i h2; exact h i hi h2.1 h2.2
    · rfl
theorem sm_upd_all (f : Nat → Nat) (k v m : Nat) (hk : k < m) : sm m (upd f k v) + f k = sm m f + v := by
  have h := sm_upd f (fun _ => True) k v m hk trivial
  simp only [if_true] at h
  exact h
/-- the first one is served -/
theorem Srv.step {J : Jobs} {t n0 n : Nat} {rem0 rem : Nat → Nat} {gone0 gone : Nat → Int} (h : Srv J t n0 n rem0 rem gone0 gone) (k : Nat) (hk : k < J.m) (hf : J.F k ≤ t) (hr : 0 < rem k) (hn : 0 < n)
    (hfirst : ∀ i, i < J.m → J.F i ≤ t → 0 < rem i → J.Y k ≤ J.Y i) (m : Nat) (hm1 : m ≤ n) (hm2 : m ≤ rem k) (hm0 : 0 < m) (gone' : Nat → Int) (hg : ∀ i, i < J.m → gone' i = if i = k ∧ rem k - m = 0 then ((t + 1 : Nat) : Int) else gone i) :
    Srv J t n0 (n - m) rem0 (upd rem k (rem k - m)) gone0 gone' := by
  have hnle := h.nle
  refine ⟨by omega, fun i hi => ?_, fun i hi hl => ?_, ?_, fun D => ?_, fun i hi => ?_⟩
  · by_cases e : i = k
    · subst e; rw [upd_self]; have := h.le i hi; omega
    · rw [upd_ne _ _ e]; exact h.le i hi
  · rw [upd_ne _ _ (fun e => by subst e; omega)]; exact h.late i hi hl
  · have := sm_upd_all rem k (rem k - m) J.m hk
    have := h.sum
    omega
  · have hs := h.sd D
    by_cases hD : J.Y k ≤ D
    · have h2 := sm_upd rem (fun i => J.F i ≤ t ∧ J.Y i ≤ D) k (rem k - m) J.m hk ⟨hf, hD⟩
      have h3 : J.left D t (upd rem k (rem k - m)) + rem k = J.left D t rem + (rem k - m) := h2
      omega
    · have : J.left D t (upd rem k (rem k - m)) = 0 := left_zero fun i hi h1 h2 => by
        have e : i ≠ k := fun e => by subst e; omega
        rw [upd_ne _ _ e]
        rcases Nat.eq_zero_or_pos (rem i) with h3 | h3
        · exact h3
        · have := hfirst i hi h1 h3; omega
      omega
  · rw [hg i hi]
    by_cases e : i = k
    · subst e
      rw [upd_self]
      have h1 := h.le i hi
      by_cases h2 : rem i - m = 0
      · rw [if_pos ⟨rfl, h2⟩, if_pos ⟨by omega, h2⟩]
      · rw [if_neg (fun h3 => h2 h3.2), if_neg (fun h3 => h2 h3.2), h.gn i hi, if_neg (by omega)]
    · rw [if_neg (fun h3 => e h3.1), upd_ne _ _ e]
      exact h.gn i hi
/-- the room from a to b -/
def rm (r : Nat → Nat) (a b : Nat) : Nat := sm b fun s => if a ≤ s then r s else 0
theorem rm_succ (r : Nat → Nat) (a b : Nat) : rm r a (b + 1) = rm r a b + if a ≤ b then r b else 0 := rfl
theorem rm_none (r : Nat → Nat) (a b : Nat) (h : b ≤ a) : rm r a b = 0 := sm_zero _ fun i hi => if_neg (by omega)
/-- what has to go from a to b -/
def Jobs.need (J : Jobs) (a b : Nat) : Nat := sm J.m fun i => if a ≤ J.F i ∧ J.Y i ≤ b then J.N i else 0
/-- of those that came between a and t, and have to be gone by D -/
def Jobs.came (J : Jobs) (a t D : Nat) : Nat := sm J.m fun i => if (a ≤ J.F i ∧ J.F i < t) ∧ J.Y i ≤ D then J.N i else 0
/-- what is left of those that came before t -/
def Jobs.old (J : Jobs) (D t : Nat) (rem : Nat → Nat) : Nat := sm J.m fun i => if J.F i < t ∧ J.Y i ≤ D then rem i else 0
/-- behind t ticks -/
structure DInv (J : Jobs) (r : Nat → Nat) (t : Nat) (rem : Nat → Nat) (gone : Nat → Int) : Prop where
  le : ∀ i, i < J.m → rem i ≤ J.N i
  fut : ∀ i, i < J.m → t ≤ J.F i → rem i = J.N i
  busy : ∀ D, ∃ a, a ≤ t ∧ J.old D t rem + rm r a t ≤ J.came a t D
  srv : ∀ a b, J.need a b ≤ sm J.m (fun i => if a ≤ J.F i ∧ J.Y i ≤ b then rem i else 0) + rm r a t
  gz : ∀ i, i < J.m → J.N i = 0 → gone i = (J.F i : Int)
  gl : ∀ i, i < J.m → 0 < rem i → gone i = -1
  gd : ∀ i, i < J.m → 0 < J.N i → rem i = 0 → ∃ g : Nat, gone i = (g : Int) ∧ J.F i < g ∧ g ≤ t ∧ J.N i ≤ rm r (J.F i) g
  rt : ∀ a b, a ≤ b → b ≤ t → (∀ i, i < J.m → a ≤ J.F i → J.Y i ≤ b → 0 ≤ gone i ∧ gone i ≤ (J.Y i : Int)) → J.need a b ≤ rm r a b
  kt : ∀ t' D, t' ≤ t → (∀ a, a ≤ t' → J.came a t' D ≤ rm r a t') → ∀ i, i < J.m → J.F i < t' → J.Y i ≤ D → 0 ≤ gone i ∧ gone i ≤ (t' : Int)
theorem DInv.start (J : Jobs) (r : Nat → Nat) (gone : Nat → Int) (hg : ∀ i, i < J.m → gone i = if J.N i = 0 then (J.F i : Int) else -1) (hFY : ∀ i, i < J.m → J.F i ≤ J.Y i) : DInv J r 0 J.N gone := by
  refine ⟨fun _ _ => Nat.le_refl _, fun _ _ _ => rfl, fun D => ⟨0, Nat.le_refl _, ?_⟩, fun a b => Nat.le_add_right _ _, fun i hi h => by rw [hg i hi, if_pos h], fun i hi h => by rw [hg i hi, if_neg (by omega)], fun i hi h1 h2 => by omega, fun a b hab hb h => ?_, fun t' D ht h i hi h1 => by omega⟩
  · have : J.old D 0 J.N = 0 := sm_zero _ fun i hi => if_neg (by omega)
    rw [this, rm_none r 0 0 (Nat.le_refl _)]
    exact Nat.zero_le _
  · have : J.need a b = 0 := sm_zero _ fun i hi => by
      show (if _ then _ else _) = _
      split
      · rename_i h2
        have := h i hi h2.1 h2.2
        have hf := hFY i hi
        by_cases e : J.N i = 0
        · exact e
        · rw [hg i hi, if_neg e] at this; omega
      · rfl
    omega
theorem DInv.tick {J : Jobs} {r : Nat → Nat} {t n : Nat} {rem0 rem : Nat → Nat} {gone0 gone : Nat → Int} (h : DInv J r t rem0 gone0) (hs : Srv J t (r t) n rem0 rem gone0 gone) (hend : n = 0 ∨ ∀ i, i < J.m → J.F i ≤ t → rem i = 0) : DInv J r (t + 1) rem gone := by
  have hsrv : ∀ a b, J.need a b ≤ sm J.m (fun i => if a ≤ J.F i ∧ J.Y i ≤ b then rem i else 0) + rm r a (t + 1) := fun a b => by
    have h1 := h.srv a b
    rw [rm_succ]
    by_cases hat : a ≤ t
    · rw [if_pos hat]
      have h2 : sm J.m (fun i => if a ≤ J.F i ∧ J.Y i ≤ b then rem0 i else 0) + sm J.m rem ≤ sm J.m (fun i => if a ≤ J.F i ∧ J.Y i ≤ b then rem i else 0) + sm J.m rem0 := by
        rw [← sm_add, ← sm_add]
        refine sm_le _ fun i hi => ?_
        have := hs.le i hi
        show (if _ then _ else _) + _ ≤ (if _ then _ else _) + _
        split <;> omega
      have h3 := hs.sum
      omega
    · rw [if_neg hat]
      have h2 : sm J.m (fun i => if a ≤ J.F i ∧ J.Y i ≤ b then rem0 i else 0) = sm J.m (fun i => if a ≤ J.F i ∧ J.Y i ≤ b then rem i else 0) := sm_congr _ fun i hi => by
        show (if _ then _ else _) = (if _ then _ else _)
        split
        · rename_i h3; exact (hs.late i hi (by omega)).symm
        · rfl
      omega
  have hbusy : ∀ D, ∃ a, a ≤ t + 1 ∧ J.old D (t + 1) rem + rm r a (t + 1) ≤ J.came a (t + 1) D := fun D => by
    obtain ⟨a, ha, h1⟩ := h.busy D
    have e1 : J.old D (t + 1) rem = J.left D t rem := sm_congr _ fun i _ => by
      show (if _ then _ else _) = (if _ then _ else _)
      by_cases h2 : J.F i ≤ t ∧ J.Y i ≤ D
      · rw [if_pos h2, if_pos ⟨by omega, h2.2⟩]
      · rw [if_neg h2, if_neg (fun h3 => h2 ⟨by omega, h3.2⟩)]
    have hd : J.left D t rem ≤ J.left D t rem0 - r t := by
      rcases hend with h2 | h2
      · have := hs.sd D; rw [h2] at this; simpa using this
      · rw [left_zero fun i hi h3 _ => h2 i hi h3]; exact Nat.zero_le _
    have e2 : J.left D t rem0 + J.came a t D = J.old D t rem0 + J.came a (t + 1) D := by
      unfold Jobs.left Jobs.came Jobs.old
      rw [← sm_add, ← sm_add]
      refine sm_congr _ fun i hi => ?_
      show (if _ then _ else _) + (if _ then _ else _) = (if _ then _ else _) + (if _ then _ else _)
      by_cases hD : J.Y i ≤ D
      · rcases Nat.lt_trichotomy (J.F i) t with h2 | h2 | h2
        · rw [if_pos ⟨by omega, hD⟩, if_pos (show J.F i < t ∧ J.Y i ≤ D from ⟨h2, hD⟩)]
          by_cases h3 : a ≤ J.F i
          · rw [if_pos ⟨⟨h3, h2⟩, hD⟩, if_pos ⟨⟨h3, by omega⟩, hD⟩]
          · rw [if_neg (fun h4 => h3 h4.1.1), if_neg (fun h4 => h3 h4.1.1)]
        · rw [if_pos ⟨by omega, hD⟩, if_neg (fun h3 => by omega), if_neg (fun h3 => by omega), if_pos ⟨⟨by omega, by omega⟩, hD⟩, h.fut i hi (by omega)]
          omega
        · rw [if_neg (fun h3 => by omega), if_neg (fun h3 => by omega), if_neg (fun h3 => by omega), if_neg (fun h3 => by omega)]
      · rw [if_neg (fun h3 => hD h3.2), if_neg (fun h3 => hD h3.2), if_neg (fun h3 => hD h3.2), if_neg (fun h3 => hD h3.2)]
    by_cases hP : r t ≤ J.left D t rem0
    · refine ⟨a, by omega, ?_⟩
      rw [e1, rm_succ, if_pos ha]
      omega
    · refine ⟨t + 1, Nat.le_refl _, ?_⟩
      rw [e1, rm_none r _ _ (Nat.le_refl _)]
      omega
  have hgd : ∀ i, i < J.m → 0 < J.N i → rem i = 0 → ∃ g : Nat, gone i = (g : Int) ∧ J.F i < g ∧ g ≤ t + 1 ∧ J.N i ≤ rm r (J.F i) g := fun i hi h1 h2 => by
    by_cases e : 0 < rem0 i
    · refine ⟨t + 1, by rw [hs.gn i hi, if_pos ⟨e, h2⟩], ?_, Nat.le_refl _, ?_⟩
      · by_cases h3 : t < J.F i
        · have := hs.late i hi h3; omega
        · omega
      · have h3 := hsrv (J.F i) (J.Y i)
        have h4 : J.need (J.F i) (J.Y i) = J.need (J.F i) (J.Y i) := rfl
        have h5 : sm J.m (fun j => if J.F i ≤ J.F j ∧ J.Y j ≤ J.Y i then rem j else 0) + J.N i ≤ J.need (J.F i) (J.Y i) := by
          have h6 := sm_upd (fun j => J.N j) (fun j => J.F i ≤ J.F j ∧ J.Y j ≤ J.Y i) i 0 J.m hi ⟨Nat.le_refl _, Nat.le_refl _⟩
          have h7 : sm J.m (fun j => if J.F i ≤ J.F j ∧ J.Y j ≤ J.Y i then rem j else 0) ≤ sm J.m (fun j => if J.F i ≤ J.F j ∧ J.Y j ≤ J.Y i then upd (fun j => J.N j) i 0 j else 0) := sm_le _ fun j hj => by
            show (if _ then _ else _) ≤ (if _ then _ else _)
            split
            · by_cases e2 : j = i
              · subst e2; rw [upd_self, h2]; exact Nat.le_refl _
              · rw [upd_ne _ _ e2]
                exact Nat.le_trans (hs.le j hj) (h.le j hj)
            · exact Nat.le_refl _
          have h8 : J.need (J.F i) (J.Y i) = sm J.m (fun j => if J.F i ≤ J.F j ∧ J.Y j ≤ J.Y i then J.N j else 0) := rfl
          omega
        omega
    · obtain ⟨g, h3, h4, h5, h6⟩ := h.gd i hi h1 (by omega)
      exact ⟨g, by rw [hs.gn i hi, if_neg (fun h7 => e h7.1)]; exact h3, h4, by omega, h6⟩
  have hsame : ∀ i, i < J.m → gone i ≠ ((t + 1 : Nat) : Int) → gone i = gone0 i := fun i hi h1 => by
    have := hs.gn i hi
    split at this
    · exact absurd this h1
    · exact this
  have hkeep : ∀ i, i < J.m → 0 ≤ gone0 i → gone i = gone0 i := fun i hi h1 => by
    have h2 := hs.gn i hi
    split at h2
    · rename_i h3
      have := h.gl i hi h3.1
      omega
    · exact h2
  refine ⟨fun i hi => Nat.le_trans (hs.le i hi) (h.le i hi), fun i hi h1 => ?_, hbusy, hsrv, fun i hi h1 => ?_, fun i hi h1 => ?_, hgd, fun a b hab hb hh => ?_, fun t' D ht' hc i hi h1 h2 => ?_⟩
  · rw [hs.late i hi (by omega)]; exact h.fut i hi (by omega)
  · have h2 := h.gz i hi h1
    rw [hkeep i hi (by omega), h2]
  · have h2 := hs.le i hi
    rw [hs.gn i hi, if_neg (fun h3 => by omega)]
    exact h.gl i hi (by omega)
  · rcases Nat.lt_or_ge t b with h1 | h1
    · obtain rfl : b = t + 1 := by omega
      have h2 := hsrv a (t + 1)
      have h3 : sm J.m (fun i => if a ≤ J.F i ∧ J.Y i ≤ t + 1 then rem i else 0) = 0 := sm_zero _ fun i hi => by
        show (if _ then _ else _) = _
        split
        · rename_i h4
          have h5 := hh i hi h4.1 h4.2
          rcases Nat.eq_zero_or_pos (rem i) with h6 | h6
          · exact h6
          · have h7 := hs.le i hi
            have h8 := hs.gn i hi
            rw [if_neg (fun h3 => by omega), h.gl i hi (by omega)] at h8
            omega
        · rfl
      omega
    · refine h.rt a b hab h1 fun i hi h2 h3 => ?_
      have h4 := hh i hi h2 h3
      rw [← hsame i hi (by omega)]
      exact h4
  · rcases Nat.lt_or_ge t t' with h3 | h3
    · obtain rfl : t' = t + 1 := by omega
      obtain ⟨a, ha, hb⟩ := hbusy D
      have h4 := hc a ha
      have h5 : J.old D (t + 1) rem = 0 := by omega
      have h6 : rem i = 0 := by
        have := sm_at (f := fun i => if J.F i < t + 1 ∧ J.Y i ≤ D then rem i else 0) J.m i hi
        have e : (if J.F i < t + 1 ∧ J.Y i ≤ D then rem i else 0) = rem i := if_pos ⟨h1, h2⟩
        have e2 : J.old D (t + 1) rem = sm J.m fun i => if J.F i < t + 1 ∧ J.Y i ≤ D then rem i else 0 := rfl
        simp only [e] at this
        omega
      rcases Nat.eq_zero_or_pos (J.N i) with h7 | h7
      · have h8 := h.gz i hi h7
        rw [hkeep i hi (by omega), h8]
        omega
      · obtain ⟨g, h8, _, h9, _⟩ := hgd i hi h7 h6
        omega
    · have h4 := h.kt t' D h3 hc i hi h1 h2
      rw [hkeep i hi h4.1]
      exact h4
/-- all are gone in time just if each stretch has room -/
theorem DInv.due {J : Jobs} {r : Nat → Nat} {t : Nat} {rem : Nat → Nat} {gone : Nat → Int} (h : DInv J r t rem gone) (ht : 40 ≤ t) (hY : ∀ i, i < J.m → J.F i ≤ J.Y i ∧ J.Y i ≤ 40) :
    (∀ i, i < J.m → 0 ≤ gone i ∧ gone i ≤ (J.Y i : Int)) ↔ ∀ a b, a ≤ b → b ≤ 40 → J.need a b ≤ rm r a b := by
  refine ⟨fun hh a b hab hb => h.rt a b hab (by omega) fun i hi _ _ => hh i hi, fun hc i hi => ?_⟩
  obtain ⟨h1, h2⟩ := hY i hi
  rcases Nat.eq_zero_or_pos (J.N i) with h0 | h0
  · rw [h.gz i hi h0]; omega
  · rcases Nat.lt_or_ge (J.F i) (J.Y i) with h3 | h3
    · refine h.kt (J.Y i) (J.Y i) (by omega) (fun a ha => ?_) i hi h3 (Nat.le_refl _)
      refine Nat.le_trans (sm_le _ fun j hj => ?_) (hc a (J.Y i) ha h2)
      show (if _ then _ else _) ≤ (if _ then _ else _)
      by_cases h4 : (a ≤ J.F j ∧ J.F j < J.Y i) ∧ J.Y j ≤ J.Y i
      · rw [if_pos h4, if_pos ⟨h4.1.1, h4.2⟩]; exact Nat.le_refl _
      · rw [if_neg h4]; exact Nat.zero_le _
    · have h4 := hc (J.Y i) (J.Y i) (Nat.le_refl _) h2
      rw [rm_none r _ _ (Nat.le_refl _)] at h4
      have h5 := sm_at (f := fun j => if J.Y i ≤ J.F j ∧ J.Y j ≤ J.Y i then J.N j else 0) J.m i hi
      have e : (if J.Y i ≤ J.F i ∧ J.Y i ≤ J.Y i then J.N i else 0) = J.N i := if_pos ⟨h3, Nat.le_refl _⟩
      have e2 : J.need (J.Y i) (J.Y i) = sm J.m fun j => if J.Y i ≤ J.F j ∧ J.Y j ≤ J.Y i then J.N j else 0 := rfl
      simp only [e] at h5
      omega
end Go.Proofs.Ytfbchmihkndfaaa
/- Lists of natural numbers below 256. No program in sight. -/
namespace Go.Proofs.Ytfbchmihkndfaaa
/-- the k-th number of a list, 0 beyond -/
def nth (l : List Nat) (k : Nat) : Nat := l.getD k 0
def AllB (l : List Nat) : Prop := ∀ x ∈ l, x < 256

theorem nth_lt {l : List Nat} (h : AllB l) (k : Nat) : nth l k < 256 := by
  unfold nth
  rcases Nat.lt_or_ge k l.length with hk | hk
  · rw [List.getD_eq_getElem?_getD, List.getElem?_eq_getElem hk]
    exact h _ (List.getElem_mem hk)
  · rw [List.getD_eq_getElem?_getD, List.getElem?_eq_none hk]
    decide
theorem AllB.set {l : List Nat} (h : AllB l) (k x : Nat) (hx : x < 256) : AllB (l.set k x) := by
  intro y hy
  rcases List.mem_or_eq_of_mem_set hy with h1 | h1
  · exact h y h1
  · omega
theorem AllB.take {l : List Nat} (h : AllB l) (k : Nat) : AllB (l.take k) := fun x hx => h x (List.mem_of_mem_take hx)
theorem AllB.drop {l : List Nat} (h : AllB l) (k : Nat) : AllB (l.drop k) := fun x hx => h x (List.mem_of_mem_drop hx)
theorem AllB.append {a b : List Nat} (h : AllB a) (h' : AllB b) : AllB (a ++ b) := fun x hx => (List.mem_append.1 hx).elim (h x) (h' x)
theorem AllB.replicate (n : Nat) : AllB (List.replicate n 0) := fun x hx => by rw [List.eq_of_mem_replicate hx]; decide
theorem AllB.nil : AllB [] := fun x hx => by cases hx

theorem nth_ge {l : List Nat} {k : Nat} (h : l.length ≤ k) : nth l k = 0 := by
  unfold nth
  rw [List.getD_eq_getElem?_getD, List.getElem?_eq_none h]; rfl
theorem nth_get {l : List Nat} {k : Nat} (h : k < l.length) : nth l k = l[k] := by
  unfold nth
  rw [List.getD_eq_getElem?_getD, List.getElem?_eq_getElem h]; rfl
theorem nth_set (l : List Nat) (i x k : Nat) (hi : i < l.length) : nth (l.set i x) k = if k = i then x else nth l k := by
  unfold nth
  simp only [List.getD_eq_getElem?_getD, List.getElem?_set]
  by_cases h : i = k
  · subst h; simp [hi]
  · have h' : ¬ k = i := fun e => h e.symm
    simp [h, h']
theorem nth_take (l : List Nat) (n k : Nat) : nth (l.take n) k = if k < n then nth l k else 0 := by
  unfold nth
  simp only [List.getD_eq_getElem?_getD, List.getElem?_take]
  split <;> rfl
theorem nth_replicate (n k : Nat) : nth (List.replicate n 0) k = 0 := by
  unfold nth
  simp only [List.getD_eq_getElem?_getD, List.getElem?_replicate]
  split <;> rfl
theorem ext_nth {a b : List Nat} (hl : a.length = b.length) (h : ∀ k, k < a.length → nth a k = nth b k) : a = b := by
  apply List.ext_getElem hl
  intro k h1 h2
  have := h k h1
  rwa [nth_get h1, nth_get h2] at this
end Go.Proofs.Ytfbchmihkndfaaa
/- PassesDue, plain: a heap. -/
namespace Go.Proofs.Ytfbchmihkndfaaa
set_option linter.unusedVariables false

def swp (A : List Nat) (i j : Nat) : List Nat := (A.set i (nth A j)).set j (nth A i)
theorem swp_len (A : List Nat) (i j : Nat) : (swp A i j).length = A.length := by unfold swp; rw [List.length_set, List.length_set]
theorem swp_nth (A : List Nat) (i j k : Nat) (hi : i < A.length) (hj : j < A.length) : nth (swp A i j) k = if k = j then nth A i else if k = i then nth A j else nth A k := by
  unfold swp
  rw [nth_set _ _ _ _ (by rw [List.length_set]; exact hj), nth_set _ _ _ _ hi]
theorem swp_perm (A : List Nat) (i j : Nat) (hi : i < A.length) (hj : j < A.length) : (swp A i j).Perm A := by
  unfold swp
  rw [nth_get hi, nth_get hj]
  exact List.set_set_perm hi hj
/-- no one stands above his parent -/
def Hp (K : Nat → Nat) (A : List Nat) (q : Nat) : Prop := ∀ j, 0 < j → j < q → K (nth A ((j - 1) / 2)) ≤ K (nth A j)
theorem Hp.min {K : Nat → Nat} {A : List Nat} {q : Nat} (h : Hp K A q) : ∀ k, k < q → K (nth A 0) ≤ K (nth A k) := by
  intro k
  induction k using Nat.strongRecOn with
  | _ k ih =>
    intro hk
    rcases Nat.eq_zero_or_pos k with rfl | h0
    · exact Nat.le_refl _
    · exact Nat.le_trans (ih ((k - 1) / 2) (by omega) (by omega)) (h k h0 hk)
/-- all but the one at j -/
structure UpI (K : Nat → Nat) (A : List Nat) (q j : Nat) : Prop where
  lt : j < q
  one : ∀ i, 0 < i → i < q → i ≠ j → K (nth A ((i - 1) / 2)) ≤ K (nth A i)
  two : ∀ c, 0 < c → c < q → (c - 1) / 2 = j → 0 < j → K (nth A ((j - 1) / 2)) ≤ K (nth A c)
theorem UpI.step {K : Nat → Nat} {A : List Nat} {q j : Nat} (h : UpI K A q j) (hl : A.length = q) (h0 : 0 < j) (hlt : K (nth A j) < K (nth A ((j - 1) / 2))) : UpI K (swp A ((j - 1) / 2) j) q ((j - 1) / 2) := by
  have hj := h.lt
  obtain ⟨p, hp⟩ : ∃ p, p = (j - 1) / 2 := ⟨_, rfl⟩
  have hpj : p < j := by omega
  rw [← hp] at hlt ⊢
  have hn := fun k => swp_nth A p j k (by omega) (by omega)
  refine ⟨by omega, fun i h1 h2 h3 => ?_, fun c h1 h2 h3 h4 => ?_⟩
  · rw [hn, hn]
    by_cases e : i = j
    · subst e
      rw [← hp, if_neg (by omega), if_pos rfl, if_pos rfl]
      omega
    · rw [if_neg e, if_neg h3]
      by_cases e1 : (i - 1) / 2 = j
      · rw [if_pos e1]
        have := h.two i h1 h2 e1 h0
        rwa [← hp] at this
      · rw [if_neg e1]
        have h5 := h.one i h1 h2 e
        by_cases e2 : (i - 1) / 2 = p
        · rw [if_pos e2]
          rw [e2] at h5
          omega
        · rw [if_neg e2]
          exact h5
  · rw [hn, hn, if_neg (by omega), if_neg (by omega)]
    have h5 := h.one p h4 (by omega) (by omega)
    by_cases e : c = j
    · rw [if_pos e]
      exact h5
    · rw [if_neg e, if_neg (by omega)]
      have h6 := h.one c h1 h2 e
      rw [h3] at h6
      omega
theorem UpI.stop {K : Nat → Nat} {A : List Nat} {q j : Nat} (h : UpI K A q j) (hs : j = 0 ∨ K (nth A ((j - 1) / 2)) ≤ K (nth A j)) : Hp K A q := fun i h1 h2 => by
  by_cases e : i = j
  · subst e
    rcases hs with h3 | h3
    · omega
    · exact h3
  · exact h.one i h1 h2 e
theorem UpI.start {K : Nat → Nat} {A : List Nat} (h : Hp K A A.length) (x : Nat) : UpI K (A ++ [x]) (A.length + 1) A.length := by
  have hn : ∀ k, k < A.length → nth (A ++ [x]) k = nth A k := fun k hk => by
    rw [nth_get (by simp; omega), nth_get hk, List.getElem_append_left hk]
  refine ⟨by omega, fun i h1 h2 h3 => ?_, fun c h1 h2 h3 h4 => by omega⟩
  rw [hn _ (by omega), hn _ (by omega)]
  exact h i h1 (by omega)
/-- all but the children of the one at i -/
structure DnI (K : Nat → Nat) (A : List Nat) (n i : Nat) : Prop where
  one : ∀ k, 0 < k → k < n → (k - 1) / 2 ≠ i → K (nth A ((k - 1) / 2)) ≤ K (nth A k)
  two : ∀ c, 0 < c → c < n → (c - 1) / 2 = i → 0 < i → K (nth A ((i - 1) / 2)) ≤ K (nth A c)
theorem DnI.step {K : Nat → Nat} {A : List Nat} {n i j : Nat} (h : DnI K A n i) (hl : n ≤ A.length) (hj0 : 0 < j) (hj : j < n) (hij : (j - 1) / 2 = i) (hlt : K (nth A j) < K (nth A i)) (hmin : ∀ c, 0 < c → c < n → (c - 1) / 2 = i → K (nth A j) ≤ K (nth A c)) : DnI K (swp A i j) n j := by
  have hn := fun k => swp_nth A i j k (by omega) (by omega)
  refine ⟨fun k h1 h2 h3 => ?_, fun c h1 h2 h3 h4 => ?_⟩
  · rw [hn, hn, if_neg h3]
    by_cases e : (k - 1) / 2 = i
    · rw [if_pos e]
      by_cases e1 : k = j
      · rw [if_pos e1]; omega
      · rw [if_neg e1, if_neg (by omega)]
        exact hmin k h1 h2 e
    · rw [if_neg e]
      have h5 := h.one k h1 h2 e
      by_cases e1 : k = j
      · subst e1; exact absurd hij e
      · rw [if_neg e1]
        by_cases e2 : k = i
        · rw [if_pos e2]
          subst e2
          exact h.two j hj0 hj hij h1
        · rw [if_neg e2]
          exact h5
  · rw [hn, hn, hij, if_neg (by omega), if_pos rfl, if_neg (by omega), if_neg (by omega)]
    have := h.one c h1 h2 (by omega)
    rwa [h3] at this
theorem DnI.leaf {K : Nat → Nat} {A : List Nat} {n i : Nat} (h : DnI K A n i) (hs : n ≤ 2 * i + 1) : Hp K A n := fun k h1 h2 => h.one k h1 h2 (by omega)
theorem DnI.stop {K : Nat → Nat} {A : List Nat} {n i : Nat} (h : DnI K A n i) (hs : ∀ c, 0 < c → c < n → (c - 1) / 2 = i → K (nth A i) ≤ K (nth A c)) : Hp K A n := fun k h1 h2 => by
  by_cases e : (k - 1) / 2 = i
  · have := hs k h1 h2 e
    rwa [e]
  · exact h.one k h1 h2 e
theorem DnI.start {K : Nat → Nat} {A : List Nat} {n : Nat} (h : Hp K A A.length) (hl : A.length = n + 1) : DnI K (swp A 0 n) n 0 := by
  have hn := fun k => swp_nth A 0 n k (by omega) (by omega)
  refine ⟨fun k h1 h2 h3 => ?_, fun c h1 h2 h3 h4 => by omega⟩
  rw [hn, hn, if_neg (by omega), if_neg h3, if_neg (by omega), if_neg (by omega)]
  exact h k h1 (by omega)
/-- the first one goes -/
theorem pop_perm {A A' : List Nat} {n : Nat} (hl : A.length = n + 1) (hp : A'.Perm A) (hn : nth A' n = nth A 0) : A.Perm (A'.take n ++ [nth A 0]) := by
  have hl' : A'.length = n + 1 := by rw [hp.length_eq, hl]
  have e : A' = A'.take n ++ [nth A 0] := by
    rw [← hn, nth_get (by omega)]
    conv => lhs; rw [← List.take_append_drop n A']
    congr 1
    rw [List.drop_eq_getElem_cons (by omega), List.drop_of_length_le (by omega)]
  rw [← e]
  exact hp.symm
theorem Hp.take {K : Nat → Nat} {A : List Nat} {n : Nat} (h : Hp K A n) : Hp K (A.take n) n := fun j h1 h2 => by
  rw [nth_take, nth_take, if_pos (by omega), if_pos h2]
  exact h j h1 h2
end Go.Proofs.Ytfbchmihkndfaaa
