/- Polynomials over the field as lists of coefficients, in plain Lean: what the program's sums, products and quotients are, and their laws. No program in sight. -/
import Derived.Test.YtendgihkjibbaaaGf
import Derived.Test.YtendgihkjibbaaaLists
namespace Go.Proofs.Ytendgihkjibbaaa

/-- add's first j rounds -/
def addTo (ps qs : List Nat) (c at_ : Nat) : Nat → List Nat
  | 0 => ps
  | j + 1 => (addTo ps qs c at_ j).set (at_ + j) (nth (addTo ps qs c at_ j) (at_ + j) ^^^ Gf.mul c (nth qs j))

theorem addTo_len (ps qs : List Nat) (c at_ j : Nat) : (addTo ps qs c at_ j).length = ps.length := by
  induction j with
  | zero => rfl
  | succ j ih => simp [addTo, ih]
theorem addTo_all {ps qs : List Nat} {c at_ : Nat} (hp : AllB ps) (hc : c < 256) (j : Nat) : AllB (addTo ps qs c at_ j) := by
  induction j with
  | zero => exact hp
  | succ j ih => exact ih.set _ _ (Gf.xor_lt (nth_lt ih _) (Gf.mul_lt _ _ hc))

/-- how long a polynomial's first n numbers are without the noughts at their end -/
def trimN (bs : List Nat) : Nat → Nat
  | 0 => 0
  | n + 1 => if nth bs n = 0 then trimN bs n else n + 1
def trim (bs : List Nat) : List Nat := bs.take (trimN bs bs.length)
theorem trimN_le (bs : List Nat) (n : Nat) : trimN bs n ≤ n := by
  induction n with
  | zero => exact Nat.le_refl _
  | succ n ih => unfold trimN; split <;> omega

def sumP (ps qs : List Nat) : List Nat := trim (addTo (addTo (List.replicate (max ps.length qs.length) 0) ps 1 0 ps.length) qs 1 0 qs.length)

theorem trimN_zero (bs : List Nat) (n k : Nat) (h1 : trimN bs n ≤ k) (h2 : k < n) : nth bs k = 0 := by
  induction n with
  | zero => omega
  | succ n ih =>
    unfold trimN at h1
    split at h1
    · rename_i h0
      by_cases hk : k = n
      · rw [hk]; exact h0
      · exact ih h1 (by omega)
    · omega
theorem trimN_top (bs : List Nat) (n : Nat) (h : trimN bs n ≠ 0) : nth bs (trimN bs n - 1) ≠ 0 := by
  induction n with
  | zero => exact absurd rfl h
  | succ n ih =>
    unfold trimN at h ⊢
    split
    · rename_i h0; rw [if_pos h0] at h; exact ih h
    · rename_i h0; simpa using h0
theorem trim_len (l : List Nat) : (trim l).length = trimN l l.length := by
  unfold trim
  rw [List.length_take]
  have := trimN_le l l.length
  omega
theorem trim_nth (l : List Nat) (k : Nat) : nth (trim l) k = nth l k := by
  unfold trim
  rw [nth_take]
  split
  · rfl
  · rename_i h
    rcases Nat.lt_or_ge k l.length with hk | hk
    · exact (trimN_zero l _ k (by omega) hk).symm
    · exact (nth_ge hk).symm
theorem trim_len_le {l : List Nat} {n : Nat} (h : ∀ k, n ≤ k → nth l k = 0) : (trim l).length ≤ n := by
  rw [trim_len]
  rcases Nat.lt_or_ge n (trimN l l.length) with hn | hn
  · exact absurd (h (trimN l l.length - 1) (by omega)) (trimN_top l _ (by omega))
  · exact hn
theorem trim_ext {a b : List Nat} (h : ∀ k, nth a k = nth b k) : trim a = trim b := by
  have h1 : (trim a).length ≤ (trim b).length := trim_len_le fun k hk => by rw [h k, ← trim_nth b]; exact nth_ge hk
  have h2 : (trim b).length ≤ (trim a).length := trim_len_le fun k hk => by rw [← h k, ← trim_nth a]; exact nth_ge hk
  exact ext_nth (by omega) fun k _ => by rw [trim_nth, trim_nth, h k]
theorem trim_trim (l : List Nat) : trim (trim l) = trim l := trim_ext (trim_nth l)
theorem trim_top {l : List Nat} (h : trim l ≠ []) : nth l ((trim l).length - 1) ≠ 0 := by
  have hl : (trim l).length ≠ 0 := fun e => h (List.eq_nil_of_length_eq_zero e)
  rw [trim_len] at hl ⊢
  exact trimN_top l _ hl
theorem trim_all {l : List Nat} (h : AllB l) : AllB (trim l) := h.take _

theorem addTo_nth (ps qs : List Nat) (c at_ j k : Nat) (hfit : at_ + j ≤ ps.length) :
    nth (addTo ps qs c at_ j) k = nth ps k ^^^ (if at_ ≤ k ∧ k < at_ + j then Gf.mul c (nth qs (k - at_)) else 0) := by
  induction j with
  | zero =>
    have h : ¬ (at_ ≤ k ∧ k < at_ + 0) := by omega
    rw [if_neg h, Nat.xor_zero]; rfl
  | succ j ih =>
    have ih := ih (by omega)
    unfold addTo
    rw [nth_set _ _ _ _ (by rw [addTo_len]; omega)]
    by_cases hk : k = at_ + j
    · subst hk
      have h1 : ¬ (at_ ≤ at_ + j ∧ at_ + j < at_ + j) := by omega
      have h2 : at_ ≤ at_ + j ∧ at_ + j < at_ + (j + 1) := by omega
      rw [if_pos rfl, ih, if_neg h1, if_pos h2, Nat.xor_zero, Nat.add_sub_cancel_left]
    · rw [if_neg hk, ih]
      have h : (at_ ≤ k ∧ k < at_ + j) ↔ (at_ ≤ k ∧ k < at_ + (j + 1)) := by omega
      simp only [h]
theorem addTo_nth' (ps qs : List Nat) (c at_ k : Nat) (hfit : at_ + qs.length ≤ ps.length) :
    nth (addTo ps qs c at_ qs.length) k = nth ps k ^^^ (if at_ ≤ k then Gf.mul c (nth qs (k - at_)) else 0) := by
  rw [addTo_nth ps qs c at_ _ k hfit]
  by_cases h1 : at_ ≤ k
  · rcases Nat.lt_or_ge k (at_ + qs.length) with h2 | h2
    · rw [if_pos ⟨h1, h2⟩, if_pos h1]
    · have h3 : ¬ (at_ ≤ k ∧ k < at_ + qs.length) := by omega
      rw [if_neg h3, if_pos h1, nth_ge (l := qs) (by omega), Gf.mul_zero]
  · have h3 : ¬ (at_ ≤ k ∧ k < at_ + qs.length) := by omega
    rw [if_neg h3, if_neg h1]

theorem one_mul' (l : List Nat) (h : AllB l) (k : Nat) : Gf.mul 1 (nth l k) = nth l k := Gf.one_mul _ (nth_lt h k)
theorem sumP_nth {ps qs : List Nat} (hp : AllB ps) (hq : AllB qs) (k : Nat) : nth (sumP ps qs) k = nth ps k ^^^ nth qs k := by
  unfold sumP
  rw [trim_nth, addTo_nth' _ _ _ _ _ (by rw [addTo_len, List.length_replicate]; omega), addTo_nth' _ _ _ _ _ (by rw [List.length_replicate]; omega), nth_replicate]
  simp [one_mul' _ hp, one_mul' _ hq]
theorem trim_sumP (ps qs : List Nat) : trim (sumP ps qs) = sumP ps qs := trim_trim _
theorem sumP_all {ps qs : List Nat} : AllB (sumP ps qs) := trim_all (addTo_all (addTo_all (AllB.replicate _) (by decide) _) (by decide) _)

/-- the sum of f's first n values -/
def xsum (f : Nat → Nat) : Nat → Nat
  | 0 => 0
  | n + 1 => xsum f n ^^^ f n
theorem xsum_congr {f g : Nat → Nat} {n : Nat} (h : ∀ i, i < n → f i = g i) : xsum f n = xsum g n := by
  induction n with
  | zero => rfl
  | succ n ih => simp only [xsum]; rw [ih fun i hi => h i (by omega), h n (by omega)]
theorem xsum_zero {f : Nat → Nat} {n : Nat} (h : ∀ i, i < n → f i = 0) : xsum f n = 0 := by
  induction n with
  | zero => rfl
  | succ n ih => simp only [xsum]; rw [ih fun i hi => h i (by omega), h n (by omega)]; rfl
theorem xsum_xor (f g : Nat → Nat) (n : Nat) : xsum (fun i => f i ^^^ g i) n = xsum f n ^^^ xsum g n := by
  induction n with
  | zero => simp [xsum]
  | succ n ih => simp only [xsum]; rw [ih, Gf.xor4]
theorem xsum_single {f : Nat → Nat} {n j : Nat} (hj : j < n) (h : ∀ i, i < n → i ≠ j → f i = 0) : xsum f n = f j := by
  induction n with
  | zero => omega
  | succ n ih =>
    simp only [xsum]
    by_cases hn : j = n
    · subst hn
      rw [xsum_zero fun i hi => h i (by omega) (by omega), Nat.zero_xor]
    · rw [ih (by omega) fun i hi => h i (by omega), h n (by omega) (fun e => hn e.symm), Nat.xor_zero]
theorem xsum_extend {f : Nat → Nat} {n m : Nat} (hm : n ≤ m) (h : ∀ i, n ≤ i → i < m → f i = 0) : xsum f m = xsum f n := by
  induction m with
  | zero => have : n = 0 := by omega
            subst this; rfl
  | succ m ih =>
    by_cases hn : n = m + 1
    · subst hn; rfl
    · simp only [xsum]
      rw [ih (by omega) fun i h1 h2 => h i h1 (by omega), h m (by omega) (by omega), Nat.xor_zero]
theorem xsum_head (f : Nat → Nat) (n : Nat) : xsum f (n + 1) = f 0 ^^^ xsum (fun i => f (i + 1)) n := by
  induction n with
  | zero => simp [xsum]
  | succ n ih =>
    rw [show xsum f (n + 1 + 1) = xsum f (n + 1) ^^^ f (n + 1) from rfl, ih, Nat.xor_assoc]; rfl
theorem xsum_rev (f : Nat → Nat) (n : Nat) : xsum f (n + 1) = xsum (fun i => f (n - i)) (n + 1) := by
  induction n generalizing f with
  | zero => rfl
  | succ n ih =>
    rw [show xsum f (n + 1 + 1) = xsum f (n + 1) ^^^ f (n + 1) from rfl, ih f, xsum_head (fun i => f (n + 1 - i)) (n + 1), Nat.xor_comm]
    congr 1
    exact xsum_congr fun i _ => by congr 1; omega

/-- the product's k-th coefficient -/
def cv (F G : Nat → Nat) (k : Nat) : Nat := xsum (fun i => Gf.mul (G i) (F (k - i))) (k + 1)
def Small (F : Nat → Nat) : Prop := ∀ k, F k < 256
theorem nth_small {l : List Nat} (h : AllB l) : Small (nth l) := nth_lt h
theorem cv_comm {F G : Nat → Nat} (hF : Small F) (hG : Small G) (k : Nat) : cv F G k = cv G F k := by
  unfold cv
  rw [xsum_rev]
  exact xsum_congr fun i hi => by
    rw [Gf.mul_comm _ _ (hG _) (hF _)]
    congr 2
    omega
theorem cv_xor_left {F F' G : Nat → Nat} (k : Nat) : cv (fun i => F i ^^^ F' i) G k = cv F G k ^^^ cv F' G k := by
  unfold cv
  rw [← xsum_xor]
  exact xsum_congr fun i _ => Gf.mul_xor _ _ _
theorem cv_xor_right {F G G' : Nat → Nat} (hG : Small G) (hG' : Small G') (k : Nat) : cv F (fun i => G i ^^^ G' i) k = cv F G k ^^^ cv F G' k := by
  unfold cv
  rw [← xsum_xor]
  exact xsum_congr fun i _ => Gf.xor_mul _ _ _ (hG _) (hG' _)
theorem cv_mono {F : Nat → Nat} (hF : Small F) (c at_ k : Nat) : cv F (fun i => if i = at_ then c else 0) k = if at_ ≤ k then Gf.mul c (F (k - at_)) else 0 := by
  unfold cv
  by_cases h : at_ ≤ k
  · rw [if_pos h, xsum_single (j := at_) (by omega) fun i _ hi => by simp only [if_neg hi]; exact Gf.zero_mul _ (hF _)]
    simp
  · rw [if_neg h]
    exact xsum_zero fun i hi => by
      have : ¬ i = at_ := by omega
      simp only [if_neg this]; exact Gf.zero_mul _ (hF _)
theorem cv_top {F G : Nat → Nat} (hF : Small F) {m n : Nat} (h1 : ∀ i, m < i → F i = 0) (h2 : ∀ i, n < i → G i = 0) : cv F G (m + n) = Gf.mul (G n) (F m) := by
  unfold cv
  rw [xsum_single (j := n) (by omega) fun i hi hne => ?_]
  · congr 2; omega
  · rcases Nat.lt_or_ge n i with h | h
    · rw [h2 i h]; exact Gf.zero_mul _ (hF _)
    · rw [h1 _ (by omega), Gf.mul_zero]
theorem cv_small {F G : Nat → Nat} (hG : Small G) : Small (cv F G) := by
  intro k
  have : ∀ n, xsum (fun i => Gf.mul (G i) (F (k - i))) n < 256 := by
    intro n
    induction n with
    | zero => exact (by omega : (0 : Nat) < 256)
    | succ n ih => exact Gf.xor_lt ih (Gf.mul_lt _ _ (hG _))
  exact this _

/-- Times, its first j rounds -/
def timesTo (ps qs : List Nat) : Nat → List Nat
  | 0 => List.replicate (ps.length + qs.length) 0
  | j + 1 => addTo (timesTo ps qs j) ps (nth qs j) j ps.length
def timesP (ps qs : List Nat) : List Nat := trim (timesTo ps qs qs.length)
theorem timesTo_len (ps qs : List Nat) (j : Nat) : (timesTo ps qs j).length = ps.length + qs.length := by
  induction j with
  | zero => simp [timesTo]
  | succ j ih => simp [timesTo, addTo_len, ih]
theorem timesTo_all {ps qs : List Nat} (hq : AllB qs) (j : Nat) : AllB (timesTo ps qs j) := by
  induction j with
  | zero => exact AllB.replicate _
  | succ j ih => exact addTo_all ih (nth_lt hq j) _
theorem timesP_all {ps qs : List Nat} (hq : AllB qs) : AllB (timesP ps qs) := trim_all (timesTo_all hq _)
theorem timesTo_nth (ps qs : List Nat) (j k : Nat) (hj : j ≤ qs.length) : nth (timesTo ps qs j) k = xsum (fun i => if i ≤ k then Gf.mul (nth qs i) (nth ps (k - i)) else 0) j := by
  induction j with
  | zero => exact nth_replicate _ _
  | succ j ih =>
    unfold timesTo
    rw [addTo_nth' _ _ _ _ _ (by rw [timesTo_len]; omega), ih (by omega)]
    rfl
theorem timesP_nth {ps qs : List Nat} (hp : AllB ps) (k : Nat) : nth (timesP ps qs) k = cv (nth ps) (nth qs) k := by
  unfold timesP
  rw [trim_nth, timesTo_nth _ _ _ _ (Nat.le_refl _)]
  unfold cv
  have e1 : xsum (fun i => if i ≤ k then Gf.mul (nth qs i) (nth ps (k - i)) else 0) (max qs.length (k + 1)) = xsum (fun i => if i ≤ k then Gf.mul (nth qs i) (nth ps (k - i)) else 0) qs.length :=
    xsum_extend (by omega) fun i h1 _ => by
      split
      · rw [nth_ge h1]; exact Gf.zero_mul _ (nth_lt hp _)
      · rfl
  have e2 : xsum (fun i => if i ≤ k then Gf.mul (nth qs i) (nth ps (k - i)) else 0) (max qs.length (k + 1)) = xsum (fun i => if i ≤ k then Gf.mul (nth qs i) (nth ps (k - i)) else 0) (k + 1) :=
    xsum_extend (by omega) fun i h1 _ => by
      have : ¬ i ≤ k := by omega
      simp only [if_neg this]
  rw [← e1, e2]
  exact xsum_congr fun i hi => by
    have : i ≤ k := by omega
    simp only [if_pos this]
theorem timesP_len_le (ps qs : List Nat) : (timesP ps qs).length ≤ ps.length + qs.length := by
  unfold timesP
  rw [trim_len, ← timesTo_len ps qs qs.length]
  exact trimN_le _ _

/-- where Over stands: ps is the quotient so far times ds, and the rest -/
structure Good (ps ds qs rs : List Nat) : Prop where
  qlen : qs.length = ps.length
  qall : AllB qs
  rall : AllB rs
  rtrim : trim rs = rs
  eq : ∀ k, cv (nth ds) (nth qs) k ^^^ nth rs k = nth ps k
  zero : ∀ i, i + ds.length ≤ rs.length → nth qs i = 0
  rle : rs.length ≤ ps.length

theorem good_start {ps ds : List Nat} (hp : AllB ps) (hd : AllB ds) : Good ps ds (List.replicate ps.length 0) (trim ps) := by
  refine ⟨by simp, AllB.replicate _, trim_all hp, trim_trim _, fun k => ?_, fun i _ => nth_replicate _ _, by rw [trim_len]; exact trimN_le _ _⟩
  have : cv (nth ds) (nth (List.replicate ps.length 0)) k = 0 := xsum_zero fun i _ => by simp only [nth_replicate]; exact Gf.zero_mul _ (nth_lt hd _)
  rw [this, Nat.zero_xor, trim_nth]

theorem good_step {ps ds qs rs : List Nat} (h : Good ps ds qs rs) (hd : AllB ds) (hd1 : 1 ≤ ds.length) (htop : nth ds (ds.length - 1) ≠ 0) (hle : ds.length ≤ rs.length) (c at_ : Nat)
    (hc : c = Gf.mul (nth rs (rs.length - 1)) (Gf.inv (nth ds (ds.length - 1)))) (hat : at_ = rs.length - ds.length) :
    Good ps ds (qs.set at_ c) (trim (addTo rs ds c at_ ds.length)) ∧ (trim (addTo rs ds c at_ ds.length)).length < rs.length := by
  have hrt := nth_lt h.rall (rs.length - 1)
  have hdt := nth_lt hd (ds.length - 1)
  have hc256 : c < 256 := by rw [hc]; exact Gf.mul_lt _ _ hrt
  have hatq : at_ < qs.length := by have := h.qlen; have := h.rle; omega
  have hz : nth qs at_ = 0 := h.zero at_ (by omega)
  have hset : ∀ i, nth (qs.set at_ c) i = nth qs i ^^^ (if i = at_ then c else 0) := by
    intro i
    rw [nth_set _ _ _ _ hatq]
    by_cases hi : i = at_
    · subst hi; rw [if_pos rfl, if_pos rfl, hz, Nat.zero_xor]
    · rw [if_neg hi, if_neg hi, Nat.xor_zero]
  have hadd : ∀ k, nth (addTo rs ds c at_ ds.length) k = nth rs k ^^^ (if at_ ≤ k then Gf.mul c (nth ds (k - at_)) else 0) := fun k => addTo_nth' _ _ _ _ _ (by omega)
  have hlen : (trim (addTo rs ds c at_ ds.length)).length ≤ rs.length - 1 := by
    refine trim_len_le fun k hk => ?_
    rw [hadd, if_pos (by omega)]
    by_cases hk' : k = rs.length - 1
    · subst hk'
      have e : rs.length - 1 - at_ = ds.length - 1 := by omega
      rw [e, hc, Gf.div_mul _ _ hrt hdt htop, Nat.xor_self]
    · rw [nth_ge (l := rs) (by omega), nth_ge (l := ds) (by omega), Gf.mul_zero]; rfl
  refine ⟨⟨by rw [List.length_set]; exact h.qlen, h.qall.set _ _ hc256, trim_all (addTo_all h.rall hc256 _), trim_trim _, fun k => ?_, fun i hi => ?_, by have := h.rle; omega⟩, by omega⟩
  · have e1 : cv (nth ds) (nth (qs.set at_ c)) k = cv (nth ds) (fun i => nth qs i ^^^ (if i = at_ then c else 0)) k := by
      unfold cv; exact xsum_congr fun i _ => by rw [hset]
    rw [e1, cv_xor_right (nth_small h.qall) (fun i => by split <;> omega), cv_mono (nth_small hd), trim_nth, hadd, Gf.xor4, ]
    rw [h.eq k, Nat.xor_self, Nat.xor_zero]
  · rw [hset, h.zero i (by omega), if_neg (by omega)]; rfl

/-- a product that is as short as a rest is nought -/
theorem short_product {u ds r : Nat → Nat} {n : Nat} {L : Nat} (hu : Small u) (hds : Small ds) (hd : ds n ≠ 0) (hd2 : ∀ i, n < i → ds i = 0) (hL : ∀ i, L ≤ i → u i = 0) (hr : ∀ i, n ≤ i → r i = 0) (he : ∀ k, cv u ds k = r k) : ∀ i, u i = 0 := by
  have key : ∀ j i, L ≤ i + j → u i = 0 := by
    intro j
    induction j with
    | zero => intro i hi; exact hL i (by omega)
    | succ j ih =>
      intro i hi
      by_cases h0 : u i = 0
      · exact h0
      · exfalso
        have ht := cv_top (F := u) (G := ds) hu (m := i) (n := n) (fun i' hi' => ih i' (by omega)) hd2
        rw [he, hr _ (by omega)] at ht
        exact Gf.mul_ne_zero _ _ (hds n) (hu i) hd h0 ht.symm
  intro i
  exact key L i (by omega)

theorem sumP_nil (ps : List Nat) (hp : AllB ps) : sumP ps [] = trim ps := by
  rw [← trim_sumP]
  exact trim_ext fun k => by rw [sumP_nth hp AllB.nil, nth_ge (l := []) (by simp), Nat.xor_zero]

theorem cv_congr {F F' G G' : Nat → Nat} (h : ∀ i, F i = F' i) (h' : ∀ i, G i = G' i) (k : Nat) : cv F G k = cv F' G' k := by
  have e1 : F = F' := funext h
  have e2 : G = G' := funext h'
  rw [e1, e2]

theorem law_forth {ps qs as rs : List Nat} (hp : AllB ps) (hq : AllB qs) (h : Good ps (trim qs) as rs) : sumP (timesP qs (trim as)) rs = sumP ps [] := by
  rw [sumP_nil ps hp, ← trim_sumP]
  refine trim_ext fun k => ?_
  rw [sumP_nth (timesP_all (trim_all h.qall)) h.rall, timesP_nth hq, ← h.eq k]
  congr 1
  exact cv_congr (fun i => (trim_nth qs i).symm) (trim_nth as) k

theorem law_back {ps qs bs rs : List Nat} (hp : AllB ps) (hq : AllB qs) (hne : trim qs ≠ []) (h : Good (timesP qs ps) (trim qs) bs rs) (hlt : rs.length < (trim qs).length) :
    trim bs = sumP ps [] ∧ rs = [] := by
  have hds := trim_all hq
  have he : ∀ k, cv (fun i => nth bs i ^^^ nth ps i) (nth (trim qs)) k = nth rs k := by
    intro k
    have h1 := h.eq k
    rw [timesP_nth hq] at h1
    have e1 : cv (nth qs) (nth ps) k = cv (nth (trim qs)) (nth ps) k := cv_congr (fun i => (trim_nth qs i).symm) (fun _ => rfl) k
    rw [cv_xor_left, cv_comm (nth_small h.qall) (nth_small hds), cv_comm (nth_small hp) (nth_small hds), ← e1, ← h1, ← Nat.xor_assoc, Nat.xor_self, Nat.zero_xor]
  have hz := short_product (u := fun i => nth bs i ^^^ nth ps i) (ds := nth (trim qs)) (r := nth rs) (n := (trim qs).length - 1) (L := bs.length + ps.length)
    (fun i => Gf.xor_lt (nth_lt h.qall i) (nth_lt hp i)) (nth_small hds) (by rw [trim_nth]; exact trim_top hne) (fun i hi => nth_ge (by omega))
    (fun i hi => by simp only [nth_ge (l := bs) (k := i) (by omega), nth_ge (l := ps) (k := i) (by omega)]; rfl) (fun i hi => nth_ge (by omega)) he
  have hpq : ∀ i, nth bs i = nth ps i := by
    intro i
    have h1 := hz i
    have h2 : nth bs i ^^^ nth ps i ^^^ nth ps i = 0 ^^^ nth ps i := by rw [h1]
    rwa [Nat.xor_assoc, Nat.xor_self, Nat.xor_zero, Nat.zero_xor] at h2
  refine ⟨by rw [sumP_nil ps hp]; exact trim_ext hpq, ?_⟩
  have hr : ∀ k, nth rs k = 0 := fun k => by
    rw [← he k]
    exact xsum_zero fun i _ => by simp only [hz]; exact Gf.mul_zero _
  have h0 : (trim rs).length ≤ 0 := trim_len_le fun k _ => hr k
  rw [h.rtrim] at h0
  exact List.eq_nil_of_length_eq_zero (by omega)
end Go.Proofs.Ytendgihkjibbaaa
