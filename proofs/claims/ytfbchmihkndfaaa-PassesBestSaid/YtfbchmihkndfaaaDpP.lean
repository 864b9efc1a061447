/- Passes: that the plan is the best: plain. -/
import Derived.Test.YtfbchmihkndfaaaOddP
namespace Go.Proofs.Ytfbchmihkndfaaa
set_option linter.unusedVariables false
open Go.RowKit

def wOf (l : List Ps) (i : Nat) : Nat := (pAt l i).wo
def sumW (l : List Ps) : List Nat → Nat
  | [] => 0
  | i :: r => wOf l i + sumW l r
theorem sumW_append (l : List Ps) (a b : List Nat) : sumW l (a ++ b) = sumW l a + sumW l b := by
  induction a with
  | nil => simp [sumW]
  | cons x a ih => simp only [List.cons_append, sumW, ih]; omega
theorem sumW_perm (l : List Ps) {a b : List Nat} (h : a.Perm b) : sumW l a = sumW l b := by
  induction h with
  | nil => rfl
  | cons x _ ih => simp only [sumW, ih]
  | swap x y r => simp only [sumW]; omega
  | trans _ _ ih1 ih2 => exact ih1.trans ih2
/-- passes that may be taken one behind the other -/
def Chn (l : List Ps) (gap : Nat) : List Nat → Prop
  | [] => True
  | [_] => True
  | a :: b :: r => fitsB l gap a b = true ∧ Chn l gap (b :: r)
/-- one beginning is made of a later one, and none is better -/
structure Made (l : List Ps) (gap : Nat) (L : List Nat) (bs : List Best) (a : Nat) : Prop where
  nx : ((bAt bs (nth L a)).nx = -1 ∧ (bAt bs (nth L a)).w = wOf l (nth L a)) ∨ ∃ a', a' < a ∧ (bAt bs (nth L a)).nx = (nth L a' : Nat) ∧ fitsB l gap (nth L a) (nth L a') = true ∧ (bAt bs (nth L a)).w = wOf l (nth L a) + (bAt bs (nth L a')).w
  self : wOf l (nth L a) ≤ (bAt bs (nth L a)).w
  opt : ∀ a', a' < a → fitsB l gap (nth L a) (nth L a') = true → wOf l (nth L a) + (bAt bs (nth L a')).w ≤ (bAt bs (nth L a)).w
  wb : (bAt bs (nth L a)).w ≤ 1000 * (a + 1)
  cb : (bAt bs (nth L a)).c ≤ a + 1
structure DP (l : List Ps) (gap n : Nat) (L : List Nat) (j : Nat) (bs : List Best) (first : Int) : Prop where
  bl : bs.length = n
  made : ∀ a, a < j → Made l gap L bs a
  fst : first = -1 ∨ ∃ a, a < j ∧ first = (nth L a : Nat)
  top : ∀ a, a < j → (bAt bs (nth L a)).w ≤ (ofB bs first).w
/-- the choice of what follows -/
structure NX (l : List Ps) (gap : Nat) (L : List Nat) (bs : List Best) (k j m : Nat) (nx : Int) : Prop where
  fm : nx = -1 ∨ ∃ a', a' < m ∧ nx = (nth L a' : Nat) ∧ fitsB l gap k (nth L a') = true
  opt : ∀ a', a' < m → fitsB l gap k (nth L a') = true → (bAt bs (nth L a')).w ≤ (ofB bs nx).w
theorem NX.start (l : List Ps) (gap : Nat) (L : List Nat) (bs : List Best) (k j : Nat) : NX l gap L bs k j 0 (-1) := ⟨.inl rfl, fun a h => by omega⟩
theorem ofB_nat (bs : List Best) (i : Nat) : ofB bs (i : Int) = bAt bs i := by
  unfold ofB
  rw [if_neg (by omega), Int.toNat_natCast]
theorem NX.skip {l : List Ps} {gap : Nat} {L : List Nat} {bs : List Best} {k j m : Nat} {nx : Int} (h : NX l gap L bs k j m nx) (hs : fitsB l gap k (nth L m) = false ∨ (bAt bs (nth L m)).w ≤ (ofB bs nx).w) : NX l gap L bs k j (m + 1) nx :=
  ⟨h.fm.imp id (fun ⟨a, h1, h2⟩ => ⟨a, by omega, h2⟩), fun a ha hf => by
    rcases Nat.lt_or_ge a m with h1 | h1
    · exact h.opt a h1 hf
    · obtain rfl : a = m := by omega
      rcases hs with h2 | h2
      · rw [h2] at hf; cases hf
      · exact h2⟩
theorem NX.take {l : List Ps} {gap : Nat} {L : List Nat} {bs : List Best} {k j m : Nat} {nx : Int} (h : NX l gap L bs k j m nx) (hf : fitsB l gap k (nth L m) = true) (hw : (ofB bs nx).w ≤ (bAt bs (nth L m)).w) : NX l gap L bs k j (m + 1) ((nth L m : Nat) : Int) :=
  ⟨.inr ⟨m, by omega, rfl, hf⟩, fun a ha hf2 => by
    rw [ofB_nat]
    rcases Nat.lt_or_ge a m with h1 | h1
    · exact Nat.le_trans (h.opt a h1 hf2) hw
    · obtain rfl : a = m := by omega
      exact Nat.le_refl _⟩
theorem bAt_set (bs : List Best) (k i : Nat) (b : Best) (hk : k < bs.length) : bAt (bs.set k b) i = if i = k then b else bAt bs i := by
  unfold bAt
  rw [List.getD_eq_getElem?_getD, List.getD_eq_getElem?_getD, List.getElem?_set]
  by_cases e : k = i
  · subst e; rw [if_pos rfl, if_pos hk, if_pos rfl]; rfl
  · rw [if_neg e, if_neg (Ne.symm e)]
theorem nth_inj {L : List Nat} (hn : L.Nodup) {a b : Nat} (ha : a < L.length) (hb : b < L.length) (h : nth L a = nth L b) : a = b := by
  unfold nth at h
  rw [List.getD_eq_getElem?_getD, List.getD_eq_getElem?_getD, List.getElem?_eq_getElem ha, List.getElem?_eq_getElem hb] at h
  rcases Nat.lt_trichotomy a b with h1 | h1 | h1
  · exact absurd h (List.pairwise_iff_getElem.1 hn a b ha hb h1)
  · exact h1
  · exact absurd h.symm (List.pairwise_iff_getElem.1 hn b a hb ha h1)
/-- a beginning more -/
theorem DP.step {l : List Ps} {gap n : Nat} {L : List Nat} {j : Nat} {bs : List Best} {first nx f2 : Int} (h : DP l gap n L j bs first) (hL : L.length = n) (hn : L.Nodup) (hlt : ∀ k, k < n → nth L k < n) (hj : j < n) (hx : NX l gap L bs (nth L j) j j nx) (hwb : wOf l (nth L j) ≤ 1000)
    (hf : (f2 = ((nth L j : Nat) : Int) ∧ (ofB bs first).w ≤ (ofB bs nx).w + wOf l (nth L j)) ∨ (f2 = first ∧ (ofB bs nx).w + wOf l (nth L j) ≤ (ofB bs first).w)) :
    DP l gap n L (j + 1) (bs.set (nth L j) ⟨(ofB bs nx).w + wOf l (nth L j), (ofB bs nx).c + 1, nx⟩) f2 := by
  have hk : nth L j < bs.length := by rw [h.bl]; exact hlt j hj
  have hother : ∀ a, a < j → bAt (bs.set (nth L j) ⟨(ofB bs nx).w + wOf l (nth L j), (ofB bs nx).c + 1, nx⟩) (nth L a) = bAt bs (nth L a) := fun a ha => by
    rw [bAt_set _ _ _ _ hk, if_neg (fun e => by have := nth_inj hn (by omega) (by omega) e; omega)]
  have hself : bAt (bs.set (nth L j) ⟨(ofB bs nx).w + wOf l (nth L j), (ofB bs nx).c + 1, nx⟩) (nth L j) = ⟨(ofB bs nx).w + wOf l (nth L j), (ofB bs nx).c + 1, nx⟩ := by rw [bAt_set _ _ _ _ hk, if_pos rfl]
  have hneg : ofB bs (-1) = ⟨0, 0, -1⟩ := rfl
  have hfi : ∀ c : Int, (c = -1 ∨ ∃ a, a < j ∧ c = (nth L a : Nat)) → ofB (bs.set (nth L j) ⟨(ofB bs nx).w + wOf l (nth L j), (ofB bs nx).c + 1, nx⟩) c = ofB bs c := fun c hc => by
    rcases hc with rfl | ⟨a, ha, rfl⟩
    · rfl
    · rw [ofB_nat, ofB_nat, hother a ha]
  have hnb : (ofB bs nx).w ≤ 1000 * j ∧ (ofB bs nx).c ≤ j := by
    rcases hx.fm with rfl | ⟨a, ha, rfl, _⟩
    · rw [hneg]; exact ⟨Nat.zero_le _, Nat.zero_le _⟩
    · rw [ofB_nat]
      have h1 := (h.made a ha).wb
      have h2 := (h.made a ha).cb
      omega
  refine ⟨by rw [List.length_set]; exact h.bl, fun a ha => ?_, ?_, fun a ha => ?_⟩
  · rcases Nat.lt_or_ge a j with h1 | h1
    · obtain ⟨m1, m2, m3, m4, m5⟩ := h.made a h1
      refine ⟨?_, by rw [hother a h1]; exact m2, fun a' ha' hf' => by rw [hother a h1, hother a' (by omega)]; exact m3 a' ha' hf', by rw [hother a h1]; exact m4, by rw [hother a h1]; exact m5⟩
      rw [hother a h1]
      rcases m1 with m1 | ⟨a', k1, k2, k3, k4⟩
      · exact .inl m1
      · exact .inr ⟨a', k1, k2, k3, by rw [hother a' (by omega)]; exact k4⟩
    · obtain rfl : a = j := by omega
      refine ⟨?_, by rw [hself]; show _ ≤ _ + _; omega, fun a' ha' hf' => ?_, by rw [hself]; show _ + _ ≤ _; omega, by rw [hself]; show _ + 1 ≤ _; omega⟩
      · rw [hself]
        rcases hx.fm with rfl | ⟨a', k1, rfl, k3⟩
        · refine .inl ⟨rfl, ?_⟩
          show (ofB bs (-1)).w + _ = _
          rw [hneg]
          exact Nat.zero_add _
        · refine .inr ⟨a', k1, rfl, k3, ?_⟩
          rw [hother a' k1]
          show (ofB bs _).w + _ = _
          rw [ofB_nat]
          omega
      · rw [hself, hother a' ha']
        have := hx.opt a' ha' hf'
        show _ ≤ _ + _
        omega
  · rcases hf with ⟨rfl, _⟩ | ⟨rfl, _⟩
    · exact .inr ⟨j, by omega, rfl⟩
    · exact h.fst.imp id (fun ⟨a, h1, h2⟩ => ⟨a, by omega, h2⟩)
  · have h5 : ∀ a, a < j → (bAt bs (nth L a)).w ≤ (ofB bs first).w := h.top
    rcases hf with ⟨rfl, h3⟩ | ⟨rfl, h3⟩
    · rw [ofB_nat, hself]
      rcases Nat.lt_or_ge a j with h1 | h1
      · rw [hother a h1]
        have := h5 a h1
        show _ ≤ _ + _
        omega
      · obtain rfl : a = j := by omega
        rw [hself]
        exact Nat.le_refl _
    · rw [hfi _ h.fst]
      rcases Nat.lt_or_ge a j with h1 | h1
      · rw [hother a h1]; exact h5 a h1
      · obtain rfl : a = j := by omega
        rw [hself]
        exact h3
/-- where an index stands -/
theorem at_pos {L : List Nat} {n : Nat} (hp : L.Perm (List.range n)) (i : Nat) (hi : i < n) : ∃ a, a < n ∧ nth L a = i := by
  have h1 : i ∈ L := hp.mem_iff.2 (List.mem_range.2 hi)
  obtain ⟨a, ha⟩ := List.mem_iff_getElem?.1 h1
  have h2 := (List.getElem?_eq_some_iff.1 ha).1
  refine ⟨a, by rw [hp.length_eq, List.length_range] at h2; exact h2, ?_⟩
  unfold nth
  rw [List.getD_eq_getElem?_getD, ha]
  rfl
theorem desc_at {l : List Ps} {L : List Nat} (h : Desc (frOf l) L) {a b : Nat} (hab : a < b) (hb : b < L.length) : frOf l (nth L b) ≤ frOf l (nth L a) := by
  have := List.pairwise_iff_getElem.1 h a b (by omega) hb hab
  unfold nth
  rw [List.getD_eq_getElem?_getD, List.getD_eq_getElem?_getD, List.getElem?_eq_getElem hb, List.getElem?_eq_getElem (by omega : a < L.length)]
  exact this
theorem fits_before {l : List Ps} {gap n : Nat} {L : List Nat} (hg : GoodPs l) (hl : l.length = n) (hLl : L.length = n) (hd : Desc (frOf l) L) (hlt : ∀ k, k < n → nth L k < n) {a b : Nat} (ha : a < n) (hb : b < n) (hf : fitsB l gap (nth L a) (nth L b) = true) : b < a := by
  have h1 : ends l gap (nth L a) (nth L b) ≤ (pAt l (nth L b)).fr := of_decide_eq_true hf
  unfold ends at h1
  have h2 := (hg (nth L a) (by rw [hl]; exact hlt a ha)).f
  rcases Nat.lt_trichotomy a b with h | h | h
  · have : (pAt l (nth L b)).fr ≤ (pAt l (nth L a)).fr := desc_at hd h (by omega)
    omega
  · subst h; omega
  · exact h
/-- no chain is worth more than its first one's beginning -/
theorem chain_le {l : List Ps} {gap n : Nat} {L : List Nat} {bs : List Best} {first : Int} (hg : GoodPs l) (hl : l.length = n) (hp : L.Perm (List.range n)) (hd : Desc (frOf l) L) (h : DP l gap n L n bs first) :
    ∀ c : List Nat, (∀ x ∈ c, x < n) → Chn l gap c → sumW l c ≤ (ofB bs first).w := by
  have hLl : L.length = n := by rw [hp.length_eq, List.length_range]
  have hlt : ∀ k, k < n → nth L k < n := perm_lt hp (fun x hx => List.mem_range.1 hx) (by rw [List.length_range])
  have key : ∀ c : List Nat, ∀ a, a < n → (∀ x ∈ c, x < n) → Chn l gap (nth L a :: c) → sumW l (nth L a :: c) ≤ (bAt bs (nth L a)).w := by
    intro c
    induction c with
    | nil => intro a ha _ _; have := (h.made a ha).self; simp only [sumW]; omega
    | cons x c ih =>
      intro a ha hc hch
      obtain ⟨b, hb, rfl⟩ := at_pos hp x (hc x (List.mem_cons_self ..))
      obtain ⟨hf, hch2⟩ : fitsB l gap (nth L a) (nth L b) = true ∧ Chn l gap (nth L b :: c) := hch
      have h1 := ih b hb (fun y hy => hc y (List.mem_cons_of_mem _ hy)) hch2
      have h2 := (h.made a ha).opt b (fits_before hg hl hLl hd hlt ha hb hf) hf
      show wOf l (nth L a) + sumW l (nth L b :: c) ≤ _
      omega
  intro c hc hch
  cases c with
  | nil => exact Nat.zero_le _
  | cons x c =>
    obtain ⟨a, ha, rfl⟩ := at_pos hp x (hc x (List.mem_cons_self ..))
    exact Nat.le_trans (key c a ha (fun y hy => hc y (List.mem_cons_of_mem _ hy)) hch) (h.top a ha)
end Go.Proofs.Ytfbchmihkndfaaa
