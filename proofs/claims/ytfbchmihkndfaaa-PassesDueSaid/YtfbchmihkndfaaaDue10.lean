/- Passes: no pass is odd. -/
import Derived.Test.YtfbchmihkndfaaaDue9
import Derived.Test.YtfbchmihkndfaaaDue5
import Derived.Deep.CutBlock
namespace Go.Proofs.Ytfbchmihkndfaaa
set_option linter.unusedVariables false
open Go.RowKit

set_option maxRecDepth 100000 in
set_option maxHeartbeats 1000000 in
theorem odd_ok (p : Ps) (hp : p.Good) (w : World) : Calls Try.prog 14 #[.agg #[.int .i64 (p.st : Int), .int .i64 (p.fr : Int), .int .i64 (p.tt : Int), .int .i64 (p.wo : Int)]] w fun e w' => e = .returned (.bool false) ∧ Below w.heap.size w w' := by
  obtain ⟨h1, h2, h3, h4⟩ := hp
  obtain ⟨ps, pf, pt, pw⟩ := p
  dsimp only at *
  have b1 := hid (below_alloc w (.cells #[.int .i64 (ps : Int), .int .i64 (pf : Int), .int .i64 (pt : Int), .int .i64 (pw : Int)] 41))
  go_enter Try.func14, Try.ntmps14
  go_wp2_with ((go_at_call 12; refine (in_yes _ _ _ _ (by omega) (by omega)).mono ?_; rintro e w' ⟨rfl, rfl⟩))
  go_ret
  exact ⟨rfl, b1.out⟩
set_option maxRecDepth 100000 in
set_option maxHeartbeats 1000000 in
theorem idx_ok (la : Option Addr) (n cap : Nat) (l : List Ps) (hg : GoodPs l) (hn : n ≤ 9) (w : World) (hr : RdPs w la n cap l) :
    Calls Try.prog 32 #[.slice la n cap, .func (.func 14) #[] #[]] w fun e w' => e = .returned (.int .i64 (-1)) ∧ Below w.heap.size w w' := by
  have Hr := hid hr
  have Hg := hid hg
  clear hr hg
  go_enter Try.func32, Try.ntmps32
  go_wp2_with fail
  go_loopw [8] (fun i wr => ∃ j : Nat, j ≤ n ∧ i = .int .i64 j ∧ Hid (Below w.heap.size w wr)) (fun i _ => n - (intOf i).toNat)
  case atStart => exact ⟨0, by omega, rfl, Below.refl _ _⟩
  case round =>
    obtain ⟨j, hj, rfl, hB⟩ := hrel
    by_cases hlt : j < n
    · have hr1 := Hr.out.below hB.out
      obtain ⟨b, rfl, hbl, c0, c1, c2, c3⟩ := hr1.at_ j hlt
      have ho := odd_ok (pAt l j) (Hg.out j (by rw [Hr.out.len]; exact hlt)) wr
      clear hr1
      generalize pAt l j = p at *
      obtain ⟨ps, pf, pt, pw⟩ := p
      dsimp only at *
      go_wp2_with fail
      refine ho.mono ?_
      rintro e W1 ⟨rfl, b1⟩
      have hB1 : Hid (Below w.heap.size w W1) := hB.out.trans (b1.mono hB.out.size)
      clear b1 hB ho c0 c1 c2 c3
      go_wp2_with fail
      go_roundw
      case rel => exact ⟨j + 1, by omega, by go_num, hB1⟩
      case measure => simp [intOf]; omega
    · obtain rfl : n = j := by omega
      go_wp2_with fail
      go_ret
      exact ⟨rfl, hB.out⟩
theorem has_ok (la : Option Addr) (n cap : Nat) (l : List Ps) (hg : GoodPs l) (hn : n ≤ 9) (w : World) (hr : RdPs w la n cap l) :
    Calls Try.prog 13 #[.slice la n cap, .func (.func 14) #[] #[]] w fun e w' => e = .returned (.bool false) ∧ Below w.heap.size w w' := by
  have hi := idx_ok la n cap l hg hn w hr
  clear hg hr
  go_enter Try.func13, Try.ntmps13
  go_wp2_with fail
  refine hi.mono ?_
  rintro e W1 ⟨rfl, b1⟩
  have B1 := hid b1
  clear b1 hi
  go_wp2_with fail
  go_ret
  exact ⟨rfl, B1.out⟩
end Go.Proofs.Ytfbchmihkndfaaa
/- Passes: that the plan is the best: plain. -/
namespace Go.Proofs.Ytfbchmihkndfaaa
set_option linter.unusedVariables false
open Go.RowKit

def wOf (l : List Ps) (i : Nat) : Nat := (pAt l i).wo
def sumW (l : List Ps) : List Nat → Nat
  | [] => 0
  | i :: r => wOf l i + sumW l r
theorem sumW_append (l : List Ps) (a b : List Nat) : sumW l (a ++ b) = sumW l a + sumW l b := by
  induction a with
  | nil => simp [sumW]
  | cons x a ih => simp only [List.cons_append, sumW, ih]; omega
theorem sumW_perm (l : List Ps) {a b : List Nat} (h : a.Perm b) : sumW l a = sumW l b := by
  induction h with
  | nil => rfl
  | cons x _ ih => simp only [sumW, ih]
  | swap x y r => simp only [sumW]; omega
  | trans _ _ ih1 ih2 => exact ih1.trans ih2
/-- passes that may be taken one behind the other -/
def Chn (l : List Ps) (gap : Nat) : List Nat → Prop
  | [] => True
  | [_] => True
  | a :: b :: r => fitsB l gap a b = true ∧ Chn l gap (b :: r)
/-- one beginning is made of a later one, and none is better -/
structure Made (l : List Ps) (gap : Nat) (L : List Nat) (bs : List Best) (a : Nat) : Prop where
  nx : ((bAt bs (nth L a)).nx = -1 ∧ (bAt bs (nth L a)).w = wOf l (nth L a)) ∨ ∃ a', a' < a ∧ (bAt bs (nth L a)).nx = (nth L a' : Nat) ∧ fitsB l gap (nth L a) (nth L a') = true ∧ (bAt bs (nth L a)).w = wOf l (nth L a) + (bAt bs (nth L a')).w
  self : wOf l (nth L a) ≤ (bAt bs (nth L a)).w
  opt : ∀ a', a' < a → fitsB l gap (nth L a) (nth L a') = true → wOf l (nth L a) + (bAt bs (nth L a')).w ≤ (bAt bs (nth L a)).w
  wb : (bAt bs (nth L a)).w ≤ 1000 * (a + 1)
  cb : (bAt bs (nth L a)).c ≤ a + 1
structure DP (l : List Ps) (gap n : Nat) (L : List Nat) (j : Nat) (bs : List Best) (first : Int) : Prop where
  bl : bs.length = n
  made : ∀ a, a < j → Made l gap L bs a
  fst : first = -1 ∨ ∃ a, a < j ∧ first = (nth L a : Nat)
  top : ∀ a, a < j → (bAt bs (nth L a)).w ≤ (ofB bs first).w
/-- the choice of what follows -/
structure NX (l : List Ps) (gap : Nat) (L : List Nat) (bs : List Best) (k j m : Nat) (nx : Int) : Prop where
  fm : nx = -1 ∨ ∃ a', a' < m ∧ nx = (nth L a' : Nat) ∧ fitsB l gap k (nth L a') = true
  opt : ∀ a', a' < m → fitsB l gap k (nth L a') = true → (bAt bs (nth L a')).w ≤ (ofB bs nx).w
theorem NX.start (l : List Ps) (gap : Nat) (L : List Nat) (bs : List Best) (k j : Nat) : NX l gap L bs k j 0 (-1) := ⟨.inl rfl, fun a h => by omega⟩
theorem ofB_nat (bs : List Best) (i : Nat) : ofB bs (i : Int) = bAt bs i := by
  unfold ofB
  rw [if_neg (by omega), Int.toNat_natCast]
theorem NX.skip {l : List Ps} {gap : Nat} {L : List Nat} {bs : List Best} {k j m : Nat} {nx : Int} (h : NX l gap L bs k j m nx) (hs : fitsB l gap k (nth L m) = false ∨ (bAt bs (nth L m)).w ≤ (ofB bs nx).w) : NX l gap L bs k j (m + 1) nx :=
  ⟨h.fm.imp id (fun ⟨a, h1, h2⟩ => ⟨a, by omega, h2⟩), fun a ha hf => by
    rcases Nat.lt_or_ge a m with h1 | h1
    · exact h.opt a h1 hf
    · obtain rfl : a = m := by omega
      rcases hs with h2 | h2
      · rw [h2] at hf; cases hf
      · exact h2⟩
theorem NX.take {l : List Ps} {gap : Nat} {L : List Nat} {bs : List Best} {k j m : Nat} {nx : Int} (h : NX l gap L bs k j m nx) (hf : fitsB l gap k (nth L m) = true) (hw : (ofB bs nx).w ≤ (bAt bs (nth L m)).w) : NX l gap L bs k j (m + 1) ((nth L m : Nat) : Int) :=
  ⟨.inr ⟨m, by omega, rfl, hf⟩, fun a ha hf2 => by
    rw [ofB_nat]
    rcases Nat.lt_or_ge a m with h1 | h1
    · exact Nat.le_trans (h.opt a h1 hf2) hw
    · obtain rfl : a = m := by omega
      exact Nat.le_refl _⟩
theorem bAt_set (bs : List Best) (k i : Nat) (b : Best) (hk : k < bs.length) : bAt (bs.set k b) i = if i = k then b else bAt bs i := by
  unfold bAt
  rw [List.getD_eq_getElem?_getD, List.getD_eq_getElem?_getD, List.getElem?_set]
  by_cases e : k = i
  · subst e; rw [if_pos rfl, if_pos hk, if_pos rfl]; rfl
  · rw [if_neg e, if_neg (Ne.symm e)]
theorem nth_inj {L : List Nat} (hn : L.Nodup) {a b : Nat} (ha : a < L.length) (hb : b < L.length) (h : nth L a = nth L b) : a = b := by
  unfold nth at h
  rw [List.getD_eq_getElem?_getD, List.getD_eq_getElem?_getD, List.getElem?_eq_getElem ha, List.getElem?_eq_getElem hb] at h
  rcases Nat.lt_trichotomy a b with h1 | h1 | h1
  · exact absurd h (List.pairwise_iff_getElem.1 hn a b ha hb h1)
  · exact h1
  · exact absurd h.symm (List.pairwise_iff_getElem.1 hn b a hb ha h1)
/-- a beginning more -/
theorem DP.step {l : List Ps} {gap n : Nat} {L : List Nat} {j : Nat} {bs : List Best} {first nx f2 : Int} (h : DP l gap n L j bs first) (hL : L.length = n) (hn : L.Nodup) (hlt : ∀ k, k < n → nth L k < n) (hj : j < n) (hx : NX l gap L bs (nth L j) j j nx) (hwb : wOf l (nth L j) ≤ 1000)
    (hf : (f2 = ((nth L j : Nat) : Int) ∧ (ofB bs first).w ≤ (ofB bs nx).w + wOf l (nth L j)) ∨ (f2 = first ∧ (ofB bs nx).w + wOf l (nth L j) ≤ (ofB bs first).w)) :
    DP l gap n L (j + 1) (bs.set (nth L j) ⟨(ofB bs nx).w + wOf l (nth L j), (ofB bs nx).c + 1, nx⟩) f2 := by
  have hk : nth L j < bs.length := by rw [h.bl]; exact hlt j hj
  have hother : ∀ a, a < j → bAt (bs.set (nth L j) ⟨(ofB bs nx).w + wOf l (nth L j), (ofB bs nx).c + 1, nx⟩) (nth L a) = bAt bs (nth L a) := fun a ha => by
    rw [bAt_set _ _ _ _ hk, if_neg (fun e => by have := nth_inj hn (by omega) (by omega) e; omega)]
  have hself : bAt (bs.set (nth L j) ⟨(ofB bs nx).w + wOf l (nth L j), (ofB bs nx).c + 1, nx⟩) (nth L j) = ⟨(ofB bs nx).w + wOf l (nth L j), (ofB bs nx).c + 1, nx⟩ := by rw [bAt_set _ _ _ _ hk, if_pos rfl]
  have hneg : ofB bs (-1) = ⟨0, 0, -1⟩ := rfl
  have hfi : ∀ c : Int, (c = -1 ∨ ∃ a, a < j ∧ c = (nth L a : Nat)) → ofB (bs.set (nth L j) ⟨(ofB bs nx).w + wOf l (nth L j), (ofB bs nx).c + 1, nx⟩) c = ofB bs c := fun c hc => by
    rcases hc with rfl | ⟨a, ha, rfl⟩
    · rfl
    · rw [ofB_nat, ofB_nat, hother a ha]
  have hnb : (ofB bs nx).w ≤ 1000 * j ∧ (ofB bs nx).c ≤ j := by
    rcases hx.fm with rfl | ⟨a, ha, rfl, _⟩
    · rw [hneg]; exact ⟨Nat.zero_le _, Nat.zero_le _⟩
    · rw [ofB_nat]
      have h1 := (h.made a ha).wb
      have h2 := (h.made a ha).cb
      omega
  refine ⟨by rw [List.length_set]; exact h.bl, fun a ha => ?_, ?_, fun a ha => ?_⟩
  · rcases Nat.lt_or_ge a j with h1 | h1
    · obtain ⟨m1, m2, m3, m4, m5⟩ := h.made a h1
      refine ⟨?_, by rw [hother a h1]; exact m2, fun a' ha' hf' => by rw [hother a h1, hother a' (by omega)]; exact m3 a' ha' hf', by rw [hother a h1]; exact m4, by rw [hother a h1]; exact m5⟩
      rw [hother a h1]
      rcases m1 with m1 | ⟨a', k1, k2, k3, k4⟩
      · exact .inl m1
      · exact .inr ⟨a', k1, k2, k3, by rw [hother a' (by omega)]; exact k4⟩
    · obtain rfl : a = j := by omega
      refine ⟨?_, by rw [hself]; show _ ≤ _ + _; omega, fun a' ha' hf' => ?_, by rw [hself]; show _ + _ ≤ _; omega, by rw [hself]; show _ + 1 ≤ _; omega⟩
      · rw [hself]
        rcases hx.fm with rfl | ⟨a', k1, rfl, k3⟩
        · refine .inl ⟨rfl, ?_⟩
          show (ofB bs (-1)).w + _ = _
          rw [hneg]
          exact Nat.zero_add _
        · refine .inr ⟨a', k1, rfl, k3, ?_⟩
          rw [hother a' k1]
          show (ofB bs _).w + _ = _
          rw [ofB_nat]
          omega
      · rw [hself, hother a' ha']
        have := hx.opt a' ha' hf'
        show _ ≤ _ + _
        omega
  · rcases hf with ⟨rfl, _⟩ | ⟨rfl, _⟩
    · exact .inr ⟨j, by omega, rfl⟩
    · exact h.fst.imp id (fun ⟨a, h1, h2⟩ => ⟨a, by omega, h2⟩)
  · have h5 : ∀ a, a < j → (bAt bs (nth L a)).w ≤ (ofB bs first).w := h.top
    rcases hf with ⟨rfl, h3⟩ | ⟨rfl, h3⟩
    · rw [ofB_nat, hself]
      rcases Nat.lt_or_ge a j with h1 | h1
      · rw [hother a h1]
        have := h5 a h1
        show _ ≤ _ + _
        omega
      · obtain rfl : a = j := by omega
        rw [hself]
        exact Nat.le_refl _
    · rw [hfi _ h.fst]
      rcases Nat.lt_or_ge a j with h1 | h1
      · rw [hother a h1]; exact h5 a h1
      · obtain rfl : a = j := by omega
        rw [hself]
        exact h3
/-- where an index stands -/
theorem at_pos {L : List Nat} {n : Nat} (hp : L.Perm (List.range n)) (i : Nat) (hi : i < n) : ∃ a, a < n ∧ nth L a = i := by
  have h1 : i ∈ L := hp.mem_iff.2 (List.mem_range.2 hi)
  obtain ⟨a, ha⟩ := List.mem_iff_getElem?.1 h1
  have h2 := (List.getElem?_eq_some_iff.1 ha).1
  refine ⟨a, by rw [hp.length_eq, List.length_range] at h2; exact h2, ?_⟩
  unfold nth
  rw [List.getD_eq_getElem?_getD, ha]
  rfl
theorem desc_at {l : List Ps} {L : List Nat} (h : Desc (frOf l) L) {a b : Nat} (hab : a < b) (hb : b < L.length) : frOf l (nth L b) ≤ frOf l (nth L a) := by
  have := List.pairwise_iff_getElem.1 h a b (by omega) hb hab
  unfold nth
  rw [List.getD_eq_getElem?_getD, List.getD_eq_getElem?_getD, List.getElem?_eq_getElem hb, List.getElem?_eq_getElem (by omega : a < L.length)]
  exact this
theorem fits_before {l : List Ps} {gap n : Nat} {L : List Nat} (hg : GoodPs l) (hl : l.length = n) (hLl : L.length = n) (hd : Desc (frOf l) L) (hlt : ∀ k, k < n → nth L k < n) {a b : Nat} (ha : a < n) (hb : b < n) (hf : fitsB l gap (nth L a) (nth L b) = true) : b < a := by
  have h1 : ends l gap (nth L a) (nth L b) ≤ (pAt l (nth L b)).fr := of_decide_eq_true hf
  unfold ends at h1
  have h2 := (hg (nth L a) (by rw [hl]; exact hlt a ha)).f
  rcases Nat.lt_trichotomy a b with h | h | h
  · have : (pAt l (nth L b)).fr ≤ (pAt l (nth L a)).fr := desc_at hd h (by omega)
    omega
  · subst h; omega
  · exact h
/-- no chain is worth more than its first one's beginning -/
theorem chain_le {l : List Ps} {gap n : Nat} {L : List Nat} {bs : List Best} {first : Int} (hg : GoodPs l) (hl : l.length = n) (hp : L.Perm (List.range n)) (hd : Desc (frOf l) L) (h : DP l gap n L n bs first) :
    ∀ c : List Nat, (∀ x ∈ c, x < n) → Chn l gap c → sumW l c ≤ (ofB bs first).w := by
  have hLl : L.length = n := by rw [hp.length_eq, List.length_range]
  have hlt : ∀ k, k < n → nth L k < n := perm_lt hp (fun x hx => List.mem_range.1 hx) (by rw [List.length_range])
  have key : ∀ c : List Nat, ∀ a, a < n → (∀ x ∈ c, x < n) → Chn l gap (nth L a :: c) → sumW l (nth L a :: c) ≤ (bAt bs (nth L a)).w := by
    intro c
    induction c with
    | nil => intro a ha _ _; have := (h.made a ha).self; simp only [sumW]; omega
    | cons x c ih =>
      intro a ha hc hch
      obtain ⟨b, hb, rfl⟩ := at_pos hp x (hc x (List.mem_cons_self ..))
      obtain ⟨hf, hch2⟩ : fitsB l gap (nth L a) (nth L b) = true ∧ Chn l gap (nth L b :: c) := hch
      have h1 := ih b hb (fun y hy => hc y (List.mem_cons_of_mem _ hy)) hch2
      have h2 := (h.made a ha).opt b (fits_before hg hl hLl hd hlt ha hb hf) hf
      show wOf l (nth L a) + sumW l (nth L b :: c) ≤ _
      omega
  intro c hc hch
  cases c with
  | nil => exact Nat.zero_le _
  | cons x c =>
    obtain ⟨a, ha, rfl⟩ := at_pos hp x (hc x (List.mem_cons_self ..))
    exact Nat.le_trans (key c a ha (fun y hy => hc y (List.mem_cons_of_mem _ hy)) hch) (h.top a ha)
end Go.Proofs.Ytfbchmihkndfaaa
/- Passes: Choose: memory, the choice of what follows. -/
namespace Go.Proofs.Ytfbchmihkndfaaa
set_option linter.unusedVariables false
open Go.RowKit

/-- a beginning is stored -/
theorem PlanM.set {W : World} {P bb n cap gap : Nat} {la : Option Addr} {l : List Ps} {bs : List Best} (h : PlanM W P bb n cap gap la l bs) (k : Nat) (hk : k < n) (b : Best) :
    PlanM (((W.setCell ⟨bb, k * 3, none⟩ (.int .i64 (b.w : Int))).setCell ⟨bb, k * 3 + 1, none⟩ (.int .i64 (b.c : Int))).setCell ⟨bb, k * 3 + 2, none⟩ (.int .i64 b.nx)) P bb n cap gap la l (bs.set k b) ∧
    Gb bb W (((W.setCell ⟨bb, k * 3, none⟩ (.int .i64 (b.w : Int))).setCell ⟨bb, k * 3 + 1, none⟩ (.int .i64 (b.c : Int))).setCell ⟨bb, k * 3 + 2, none⟩ (.int .i64 b.nx)) := by
  have hbl := h.bl
  have hkb : k < bs.length := by omega
  have e : bs = bs.take k ++ bs[k] :: bs.drop (k + 1) := by rw [← List.drop_eq_getElem_cons hkb, List.take_append_drop]
  have hl : ((bs.take k).flatMap bcl).length = k * 3 := by rw [flat_len bcl 3 bcl_len, List.length_take]; congr 1; omega
  have hr : W.heap[bb]? = some (.cells ((bs.take k).flatMap bcl ++ (bcl bs[k] ++ (bs.drop (k + 1)).flatMap bcl)).toArray 59) := by
    have := h.bst
    rw [e, List.flatMap_append, List.flatMap_cons] at this
    exact this
  obtain ⟨h1, h2⟩ := set_cells (b := bb) (e := 59) ((bs.drop (k + 1)).flatMap bcl) (bcl b) ((bs.take k).flatMap bcl) (bcl bs[k]) W hr rfl
  rw [hl] at h1 h2
  have hs : bs.set k b = bs.take k ++ b :: bs.drop (k + 1) := by
    rw [List.set_eq_take_append_cons_drop, if_pos hkb]
  have hne : ∀ c cs T, 59 ≠ T → W.heap[c]? = some (.cells cs T) → c ≠ bb := fun c cs T hT hc e => by
    subst e
    rw [h.bst] at hc
    cases hc
    exact hT rfl
  have g2 : Gb bb W (((W.setCell ⟨bb, k * 3, none⟩ (.int .i64 (b.w : Int))).setCell ⟨bb, k * 3 + 1, none⟩ (.int .i64 (b.c : Int))).setCell ⟨bb, k * 3 + 2, none⟩ (.int .i64 b.nx)) := h2
  refine ⟨⟨row_grown h.box g2 (hne _ _ 55 (by decide) h.box), ?_, by rw [List.length_set]; exact hbl, h.ps.kept g2 (fun c cs hc e => hne c cs 41 (by decide) hc (by cases e; rfl))⟩, g2⟩
  rw [hs, List.flatMap_append, List.flatMap_cons]
  exact h1
/-- Choose's memory -/
structure CM (W : World) (B X P bb g o c n cap gap : Nat) (la : Option Addr) (l : List Ps) (L : List Nat) (bs : List Best) : Prop where
  x : W.heap[X]? = some (.cells #[.slice la n cap] 39)
  p : PlanM W P bb n cap gap la l bs
  o : OwnAt W B 3 (.slice (some ⟨g, o, none⟩) n c) n (vi L)
theorem CM.below {W W' : World} {B X P bb g o c n cap gap : Nat} {la : Option Addr} {l : List Ps} {L : List Nat} {bs : List Best} (h : CM W B X P bb g o c n cap gap la l L bs) (hb : Below W.heap.size W W') : CM W' B X P bb g o c n cap gap la l L bs :=
  ⟨row_below h.x hb, h.p.below hb, h.o.below hb⟩
/-- what does not change while it chooses -/
structure CO (n gap : Nat) (l : List Ps) (L : List Nat) : Prop where
  n1 : 1 ≤ n
  n9 : n ≤ 9
  g : GoodPs l
  len : l.length = n
  gap : gap ≤ 1000
  perm : L.Perm (List.range n)
  desc : Desc (frOf l) L
theorem CO.lt {n gap : Nat} {l : List Ps} {L : List Nat} (h : CO n gap l L) : ∀ k, k < n → nth L k < n := perm_lt h.perm (fun x hx => List.mem_range.1 hx) (by rw [List.length_range])
theorem CO.ln {n gap : Nat} {l : List Ps} {L : List Nat} (h : CO n gap l L) : L.length = n := by rw [h.perm.length_eq, List.length_range]
theorem CO.nd {n gap : Nat} {l : List Ps} {L : List Nat} (h : CO n gap l L) : L.Nodup := h.perm.nodup_iff.2 List.nodup_range
/-- the slots of the loop over the order -/
structure SC (y : Nat → Value) (X P g o c n j : Nat) (first : Int) : Prop where
  s2 : y 2 = .pointer (some ⟨X, 0, none⟩)
  s7 : y 7 = .pointer (some ⟨P, 0, none⟩)
  s8 : y 8 = .slice (some ⟨g, o, none⟩) n c
  s10 : y 10 = .int .i64 first
  s51 : y 51 = .slice (some ⟨g, o, none⟩) n c
  s52 : y 52 = .int .i64 (n : Int)
  s53 : y 53 = .int .i64 (j : Int)
structure SC2 (y : Nat → Value) (X P g o c n j k : Nat) (first nx : Int) : Prop where
  s : SC y X P g o c n j first
  s11 : y 11 = .int .i64 (j : Int)
  s12 : y 12 = .int .i64 (k : Int)
  s13 : y 13 = .int .i64 nx
def NxI (W0 : World) (B X P bb g o c n cap gap : Nat) (la : Option Addr) (l : List Ps) (L : List Nat) (bs : List Best) (j : Nat) (first : Int) (y : Nat → Value) (W : World) : Prop :=
  ∃ m nx, m ≤ j ∧ SC2 y X P g o c n j (nth L j) first nx ∧ y 60 = .slice (some ⟨g, o, none⟩) j c ∧ y 61 = .int .i64 (j : Int) ∧ y 62 = .int .i64 (m : Int) ∧ NX l gap L bs (nth L j) j m nx ∧ Below W0.heap.size W0 W
set_option maxRecDepth 1000000 in
theorem fr128 (y : Nat → Value) : fr 128 y = #[y 0, y 1, y 2, y 3, y 4, y 5, y 6, y 7, y 8, y 9, y 10, y 11, y 12, y 13, y 14, y 15, y 16, y 17, y 18, y 19, y 20, y 21, y 22, y 23, y 24, y 25, y 26, y 27, y 28, y 29, y 30, y 31, y 32, y 33, y 34, y 35, y 36, y 37, y 38, y 39, y 40, y 41, y 42, y 43, y 44, y 45, y 46, y 47, y 48, y 49, y 50, y 51, y 52, y 53, y 54, y 55, y 56, y 57, y 58, y 59, y 60, y 61, y 62, y 63, y 64, y 65, y 66, y 67, y 68, y 69, y 70, y 71, y 72, y 73, y 74, y 75, y 76, y 77, y 78, y 79, y 80, y 81, y 82, y 83, y 84, y 85, y 86, y 87, y 88, y 89, y 90, y 91, y 92, y 93, y 94, y 95, y 96, y 97, y 98, y 99, y 100, y 101, y 102, y 103, y 104, y 105, y 106, y 107, y 108, y 109, y 110, y 111, y 112, y 113, y 114, y 115, y 116, y 117, y 118, y 119, y 120, y 121, y 122, y 123, y 124, y 125, y 126, y 127] := rfl
set_option maxRecDepth 1000000 in
set_option maxHeartbeats 1000000 in
/-- is this one to follow? -/
theorem try_ok (B X P bb g o c n cap gap j m : Nat) (la : Option Addr) (l : List Ps) (L : List Nat) (bs : List Best) (first nx : Int) (W0 : World) (hC : CO n gap l L) (hM : CM W0 B X P bb g o c n cap gap la l L bs) (hj : j < n) (hm : m < j) (hD : DP l gap n L j bs first) (hN : NX l gap L bs (nth L j) j m nx) :
    Tri Try.prog 128 (pieceOf Try.f8 [1, 1, 1, 1, 1, 1, 1, 0, 1, 0, 0, 1, 1, 0, 0, 1, 1, 0, 1, 0, 0, 1, 1, 0, 0]) (fun y w => SC2 y X P g o c n j (nth L j) first nx ∧ y 60 = .slice (some ⟨g, o, none⟩) j c ∧ y 61 = .int .i64 (j : Int) ∧ y 62 = .int .i64 (m : Int) ∧ w = W0)
      (fun _ _ y w => ∃ nx', SC2 y X P g o c n j (nth L j) first nx' ∧ y 60 = .slice (some ⟨g, o, none⟩) j c ∧ y 61 = .int .i64 (j : Int) ∧ y 62 = .int .i64 (m : Int) ∧ NX l gap L bs (nth L j) j (m + 1) nx' ∧ Below W0.heap.size W0 w) := by
  rintro Q y w ⟨⟨⟨s2, s7, s8, s10, s51, s52, s53⟩, s11, s12, s13⟩, s60, s61, s62, rfl⟩ hQ
  have HQ := hid hQ
  have hn9 := hC.n9
  have hk := hC.lt j hj
  have hi := hC.lt m (by omega)
  obtain ⟨hgl, c0, _⟩ := hM.o.ati m (by omega)
  have hf := fits_ok P bb n cap gap (nth L j) (nth L m) la l bs hC.g hC.gap hk hi hn9 w hM.p
  have hnx : nx < (n : Int) := by
    rcases hN.fm with rfl | ⟨a, ha, rfl, _⟩
    · omega
    · have := hC.lt a (by omega); omega
  have hc := fun W (hW : Below w.heap.size w W) => compare_ok P bb n cap gap la l bs ((nth L m : Nat) : Int) nx (by omega) hnx hn9 W (hM.p.below hW)
  have Hc := hid hc
  have hsk := hid (fun h => NX.skip (m := m) hN h)
  have htk := hid (fun h1 h2 => NX.take (m := m) hN h1 h2)
  have hlt : Hid (cmpR (ofB bs ((nth L m : Nat) : Int)) (ofB bs nx) ((nth L m : Nat) : Int) nx < 0 → (ofB bs nx).w ≤ (bAt bs (nth L m)).w) := fun h => by have h2 := cmpR_lt _ _ _ _ h; rw [ofB_nat] at h2; exact h2
  have hge : Hid (¬ cmpR (ofB bs ((nth L m : Nat) : Int)) (ofB bs nx) ((nth L m : Nat) : Int) nx < 0 → (bAt bs (nth L m)).w ≤ (ofB bs nx).w) := fun h => by have h2 := cmpR_ge _ _ _ _ h; rw [ofB_nat] at h2; exact h2
  clear hQ hM hC hN hc hD hnx hk hi
  generalize cmpR (ofB bs ((nth L m : Nat) : Int)) (ofB bs nx) ((nth L m : Nat) : Int) nx = cr at *
  generalize nth L m = i at *
  generalize nth L j = k at *
  conv => arg 2; whnf
  rw [fr128]
  simp only [s2, s7, s8, s10, s51, s52, s53, s11, s12, s13, s60, s61, s62]
  clear s2 s7 s8 s10 s51 s52 s53 s11 s12 s13 s60 s61 s62
  cases hfb : fitsB l gap k i with
  | false =>
    rw [hfb] at hf
    have hend := hid (hsk.out (.inl hfb))
    clear hsk htk hlt hge hfb
    go_wp2_with fail
    refine hf.mono ?_
    rintro e W1 ⟨rfl, b1⟩
    have B1 := hid b1
    clear b1 hf
    go_wp2_with fail
    exact q_fr (N := 128) HQ.out rfl ⟨nx, ⟨⟨rfl, rfl, rfl, rfl, rfl, rfl, rfl⟩, rfl, rfl, rfl⟩, rfl, rfl, rfl, hend.out, B1.out⟩
  | true =>
    rw [hfb] at hf
    by_cases h0 : cr < 0
    · have d1 : decide (cr < 0) = true := decide_eq_true h0
      have hend := hid (htk.out hfb (hlt.out h0))
      clear hsk htk hlt hge hfb h0
      go_wp2_with fail
      refine hf.mono ?_
      rintro e W1 ⟨rfl, b1⟩
      have hc1 := Hc.out W1 b1
      have B1 := hid b1
      clear b1 hf
      go_wp2_with fail
      refine hc1.mono ?_
      rintro e W2 ⟨rfl, b2⟩
      have B2 := hid (B1.out.trans (b2.mono B1.out.size))
      clear b2 hc1
      go_wp2_with fail
      exact q_fr (N := 128) HQ.out rfl ⟨_, ⟨⟨rfl, rfl, rfl, rfl, rfl, rfl, rfl⟩, rfl, rfl, rfl⟩, rfl, rfl, rfl, hend.out, B2.out⟩
    · have d1 : decide (cr < 0) = false := decide_eq_false h0
      have hend := hid (hsk.out (.inr (hge.out h0)))
      clear hsk htk hlt hge hfb h0
      go_wp2_with fail
      refine hf.mono ?_
      rintro e W1 ⟨rfl, b1⟩
      have hc1 := Hc.out W1 b1
      have B1 := hid b1
      clear b1 hf
      go_wp2_with fail
      refine hc1.mono ?_
      rintro e W2 ⟨rfl, b2⟩
      have B2 := hid (B1.out.trans (b2.mono B1.out.size))
      clear b2 hc1
      go_wp2_with fail
      exact q_fr (N := 128) HQ.out rfl ⟨nx, ⟨⟨rfl, rfl, rfl, rfl, rfl, rfl, rfl⟩, rfl, rfl, rfl⟩, rfl, rfl, rfl, hend.out, B2.out⟩
set_option maxRecDepth 1000000 in
set_option maxHeartbeats 1000000 in
/-- what is to follow -/
theorem next_ok (B X P bb g o c n cap gap j : Nat) (la : Option Addr) (l : List Ps) (L : List Nat) (bs : List Best) (first : Int) (W0 : World) (hC : CO n gap l L) (hM : CM W0 B X P bb g o c n cap gap la l L bs) (hj : j < n) (hD : DP l gap n L j bs first) :
    Tri Try.prog 128 (pieceOf Try.f8 [1, 1, 1, 1, 1, 1, 1, 0, 1, 0, 0, 1, 1, 0, 0, 1, 1, 0, 1]) (fun y w => SC2 y X P g o c n j (nth L j) first (-1) ∧ y 60 = .slice (some ⟨g, o, none⟩) j c ∧ y 61 = .int .i64 (j : Int) ∧ y 62 = .int .i64 0 ∧ w = W0)
      (fun _ _ y w => ∃ nx, SC2 y X P g o c n j (nth L j) first nx ∧ NX l gap L bs (nth L j) j j nx ∧ Below W0.heap.size W0 w) := by
  rintro Q y w ⟨⟨⟨s2, s7, s8, s10, s51, s52, s53⟩, s11, s12, s13⟩, s60, s61, s62, rfl⟩ hQ
  have HQ := hid hQ
  have hn9 := hC.n9
  have HC := hid hC
  have HM := hid hM
  have HD := hid hD
  clear hQ hC hM hD
  conv => arg 2; whnf
  rw [fr128]
  simp only [s2, s7, s8, s10, s51, s52, s53, s11, s12, s13, s60, s61, s62]
  clear s2 s7 s8 s10 s51 s52 s53 s11 s12 s13 s60 s61 s62
  refine wp_block ?_
  refine wp_loop_fr 128 (NxI w B X P bb g o c n cap gap la l L bs j first) (fun y' _ => j - (intOf (y' 62)).toNat) ⟨rfl, rfl, 0, -1, Nat.zero_le _, ⟨⟨rfl, rfl, rfl, rfl, rfl, rfl, rfl⟩, rfl, rfl, rfl⟩, rfl, rfl, rfl, NX.start _ _ _ _ _ _, Below.refl _ _⟩ ?_
  rintro z W ⟨m, nx, hm, ⟨⟨s2, s7, s8, s10, s51, s52, s53⟩, s11, s12, s13⟩, s60, s61, s62, hN, hB⟩
  have HN := hid hN
  have HB := hid hB
  clear hN hB
  rw [fr128]
  simp only [s2, s7, s8, s10, s51, s52, s53, s11, s12, s13, s60, s61, s62]
  clear s2 s7 s8 s10 s51 s52 s53 s11 s12 s13 s60 s61 s62
  by_cases hlt : m < j
  · have ht := hid (try_ok B X P bb g o c n cap gap j m la l L bs first nx W HC.out (HM.out.below HB.out) hj hlt HD.out HN.out)
    have d1 : decide ((m : Int) < (j : Int)) = true := decide_eq_true (by omega)
    have d2 : decide (m < j) = true := decide_eq_true hlt
    go_upto_block 6 with (fail)
    refine wp_block ?_
    refine Tri.use ht.out rfl ⟨⟨⟨rfl, rfl, rfl, rfl, rfl, rfl, rfl⟩, rfl, rfl, rfl⟩, rfl, rfl, rfl, rfl⟩ ?_
    rintro y2 W2 ⟨nx2, ⟨⟨s2, s7, s8, s10, s51, s52, s53⟩, s11, s12, s13⟩, s60, s61, s62, hN2, hB2⟩
    have HN2 := hid hN2
    have HB2 := hid (HB.out.trans (hB2.mono HB.out.size))
    clear hN2 hB2
    rw [fr128]
    simp only [s2, s7, s8, s10, s51, s52, s53, s11, s12, s13, s60, s61, s62]
    clear s2 s7 s8 s10 s51 s52 s53 s11 s12 s13 s60 s61 s62
    go_wp2_with fail
    refine ⟨rfl, rfl, ⟨m + 1, nx2, by omega, ⟨⟨rfl, rfl, rfl, rfl, rfl, rfl, rfl⟩, rfl, rfl, rfl⟩, rfl, rfl, ?_, HN2.out, HB2.out⟩, ?_⟩
    · show Value.int .i64 _ = Value.int .i64 _
      go_num
    · show j - (intOf (Value.int .i64 _)).toNat < _
      simp [intOf]
      omega
  · obtain rfl : m = j := by omega
    have d1 : decide ((m : Int) < (m : Int)) = false := decide_eq_false (by omega)
    go_wp2_with fail
    exact q_fr (N := 128) HQ.out rfl ⟨nx, ⟨⟨rfl, rfl, rfl, rfl, rfl, rfl, rfl⟩, rfl, rfl, rfl⟩, HN.out, HB.out⟩
end Go.Proofs.Ytfbchmihkndfaaa
