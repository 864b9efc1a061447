/- Passes: Choose: memory, the choice of what follows. -/
import Derived.Test.YtfbchmihkndfaaaDpP
import Derived.Test.YtfbchmihkndfaaaSetCells
import Derived.Deep.CutBlock
namespace Go.Proofs.Ytfbchmihkndfaaa
set_option linter.unusedVariables false
open Go.RowKit

/-- a beginning is stored -/
theorem PlanM.set {W : World} {P bb n cap gap : Nat} {la : Option Addr} {l : List Ps} {bs : List Best} (h : PlanM W P bb n cap gap la l bs) (k : Nat) (hk : k < n) (b : Best) :
    PlanM (((W.setCell ⟨bb, k * 3, none⟩ (.int .i64 (b.w : Int))).setCell ⟨bb, k * 3 + 1, none⟩ (.int .i64 (b.c : Int))).setCell ⟨bb, k * 3 + 2, none⟩ (.int .i64 b.nx)) P bb n cap gap la l (bs.set k b) ∧
    Gb bb W (((W.setCell ⟨bb, k * 3, none⟩ (.int .i64 (b.w : Int))).setCell ⟨bb, k * 3 + 1, none⟩ (.int .i64 (b.c : Int))).setCell ⟨bb, k * 3 + 2, none⟩ (.int .i64 b.nx)) := by
  have hbl := h.bl
  have hkb : k < bs.length := by omega
  have e : bs = bs.take k ++ bs[k] :: bs.drop (k + 1) := by rw [← List.drop_eq_getElem_cons hkb, List.take_append_drop]
  have hl : ((bs.take k).flatMap bcl).length = k * 3 := by rw [flat_len bcl 3 bcl_len, List.length_take]; congr 1; omega
  have hr : W.heap[bb]? = some (.cells ((bs.take k).flatMap bcl ++ (bcl bs[k] ++ (bs.drop (k + 1)).flatMap bcl)).toArray 59) := by
    have := h.bst
    rw [e, List.flatMap_append, List.flatMap_cons] at this
    exact this
  obtain ⟨h1, h2⟩ := set_cells (b := bb) (e := 59) ((bs.drop (k + 1)).flatMap bcl) (bcl b) ((bs.take k).flatMap bcl) (bcl bs[k]) W hr rfl
  rw [hl] at h1 h2
  have hs : bs.set k b = bs.take k ++ b :: bs.drop (k + 1) := by
    rw [List.set_eq_take_append_cons_drop, if_pos hkb]
  have hne : ∀ c cs T, 59 ≠ T → W.heap[c]? = some (.cells cs T) → c ≠ bb := fun c cs T hT hc e => by
    subst e
    rw [h.bst] at hc
    cases hc
    exact hT rfl
  have g2 : Gb bb W (((W.setCell ⟨bb, k * 3, none⟩ (.int .i64 (b.w : Int))).setCell ⟨bb, k * 3 + 1, none⟩ (.int .i64 (b.c : Int))).setCell ⟨bb, k * 3 + 2, none⟩ (.int .i64 b.nx)) := h2
  refine ⟨⟨row_grown h.box g2 (hne _ _ 55 (by decide) h.box), ?_, by rw [List.length_set]; exact hbl, h.ps.kept g2 (fun c cs hc e => hne c cs 41 (by decide) hc (by cases e; rfl))⟩, g2⟩
  rw [hs, List.flatMap_append, List.flatMap_cons]
  exact h1
/-- Choose's memory -/
structure CM (W : World) (B X P bb g o c n cap gap : Nat) (la : Option Addr) (l : List Ps) (L : List Nat) (bs : List Best) : Prop where
  x : W.heap[X]? = some (.cells #[.slice la n cap] 39)
  p : PlanM W P bb n cap gap la l bs
  o : OwnAt W B 3 (.slice (some ⟨g, o, none⟩) n c) n (vi L)
theorem CM.below {W W' : World} {B X P bb g o c n cap gap : Nat} {la : Option Addr} {l : List Ps} {L : List Nat} {bs : List Best} (h : CM W B X P bb g o c n cap gap la l L bs) (hb : Below W.heap.size W W') : CM W' B X P bb g o c n cap gap la l L bs :=
  ⟨row_below h.x hb, h.p.below hb, h.o.below hb⟩
/-- what does not change while it chooses -/
structure CO (n gap : Nat) (l : List Ps) (L : List Nat) : Prop where
  n1 : 1 ≤ n
  n9 : n ≤ 9
  g : GoodPs l
  len : l.length = n
  gap : gap ≤ 1000
  perm : L.Perm (List.range n)
  desc : Desc (frOf l) L
theorem CO.lt {n gap : Nat} {l : List Ps} {L : List Nat} (h : CO n gap l L) : ∀ k, k < n → nth L k < n := perm_lt h.perm (fun x hx => List.mem_range.1 hx) (by rw [List.length_range])
theorem CO.ln {n gap : Nat} {l : List Ps} {L : List Nat} (h : CO n gap l L) : L.length = n := by rw [h.perm.length_eq, List.length_range]
theorem CO.nd {n gap : Nat} {l : List Ps} {L : List Nat} (h : CO n gap l L) : L.Nodup := h.perm.nodup_iff.2 List.nodup_range
/-- the slots of the loop over the order -/
structure SC (y : Nat → Value) (X P g o c n j : Nat) (first : Int) : Prop where
  s2 : y 2 = .pointer (some ⟨X, 0, none⟩)
  s7 : y 7 = .pointer (some ⟨P, 0, none⟩)
  s8 : y 8 = .slice (some ⟨g, o, none⟩) n c
  s10 : y 10 = .int .i64 first
  s51 : y 51 = .slice (some ⟨g, o, none⟩) n c
  s52 : y 52 = .int .i64 (n : Int)
  s53 : y 53 = .int .i64 (j : Int)
structure SC2 (y : Nat → Value) (X P g o c n j k : Nat) (first nx : Int) : Prop where
  s : SC y X P g o c n j first
  s11 : y 11 = .int .i64 (j : Int)
  s12 : y 12 = .int .i64 (k : Int)
  s13 : y 13 = .int .i64 nx
def NxI (W0 : World) (B X P bb g o c n cap gap : Nat) (la : Option Addr) (l : List Ps) (L : List Nat) (bs : List Best) (j : Nat) (first : Int) (y : Nat → Value) (W : World) : Prop :=
  ∃ m nx, m ≤ j ∧ SC2 y X P g o c n j (nth L j) first nx ∧ y 60 = .slice (some ⟨g, o, none⟩) j c ∧ y 61 = .int .i64 (j : Int) ∧ y 62 = .int .i64 (m : Int) ∧ NX l gap L bs (nth L j) j m nx ∧ Below W0.heap.size W0 W
set_option maxRecDepth 1000000 in
theorem fr128 (y : Nat → Value) : fr 128 y = #[y 0, y 1, y 2, y 3, y 4, y 5, y 6, y 7, y 8, y 9, y 10, y 11, y 12, y 13, y 14, y 15, y 16, y 17, y 18, y 19, y 20, y 21, y 22, y 23, y 24, y 25, y 26, y 27, y 28, y 29, y 30, y 31, y 32, y 33, y 34, y 35, y 36, y 37, y 38, y 39, y 40, y 41, y 42, y 43, y 44, y 45, y 46, y 47, y 48, y 49, y 50, y 51, y 52, y 53, y 54, y 55, y 56, y 57, y 58, y 59, y 60, y 61, y 62, y 63, y 64, y 65, y 66, y 67, y 68, y 69, y 70, y 71, y 72, y 73, y 74, y 75, y 76, y 77, y 78, y 79, y 80, y 81, y 82, y 83, y 84, y 85, y 86, y 87, y 88, y 89, y 90, y 91, y 92, y 93, y 94, y 95, y 96, y 97, y 98, y 99, y 100, y 101, y 102, y 103, y 104, y 105, y 106, y 107, y 108, y 109, y 110, y 111, y 112, y 113, y 114, y 115, y 116, y 117, y 118, y 119, y 120, y 121, y 122, y 123, y 124, y 125, y 126, y 127] := rfl
set_option maxRecDepth 1000000 in
set_option maxHeartbeats 1000000 in
/-- is this one to follow? -/
theorem try_ok (B X P bb g o c n cap gap j m : Nat) (la : Option Addr) (l : List Ps) (L : List Nat) (bs : List Best) (first nx : Int) (W0 : World) (hC : CO n gap l L) (hM : CM W0 B X P bb g o c n cap gap la l L bs) (hj : j < n) (hm : m < j) (hD : DP l gap n L j bs first) (hN : NX l gap L bs (nth L j) j m nx) :
    Tri Try.prog 128 (pieceOf Try.f8 [1, 1, 1, 1, 1, 1, 1, 0, 1, 0, 0, 1, 1, 0, 0, 1, 1, 0, 1, 0, 0, 1, 1, 0, 0]) (fun y w => SC2 y X P g o c n j (nth L j) first nx ∧ y 60 = .slice (some ⟨g, o, none⟩) j c ∧ y 61 = .int .i64 (j : Int) ∧ y 62 = .int .i64 (m : Int) ∧ w = W0)
      (fun _ _ y w => ∃ nx', SC2 y X P g o c n j (nth L j) first nx' ∧ y 60 = .slice (some ⟨g, o, none⟩) j c ∧ y 61 = .int .i64 (j : Int) ∧ y 62 = .int .i64 (m : Int) ∧ NX l gap L bs (nth L j) j (m + 1) nx' ∧ Below W0.heap.size W0 w) := by
  rintro Q y w ⟨⟨⟨s2, s7, s8, s10, s51, s52, s53⟩, s11, s12, s13⟩, s60, s61, s62, rfl⟩ hQ
  have HQ := hid hQ
  have hn9 := hC.n9
  have hk := hC.lt j hj
  have hi := hC.lt m (by omega)
  obtain ⟨hgl, c0, _⟩ := hM.o.ati m (by omega)
  have hf := fits_ok P bb n cap gap (nth L j) (nth L m) la l bs hC.g hC.gap hk hi hn9 w hM.p
  have hnx : nx < (n : Int) := by
    rcases hN.fm with rfl | ⟨a, ha, rfl, _⟩
    · omega
    · have := hC.lt a (by omega); omega
  have hc := fun W (hW : Below w.heap.size w W) => compare_ok P bb n cap gap la l bs ((nth L m : Nat) : Int) nx (by omega) hnx hn9 W (hM.p.below hW)
  have Hc := hid hc
  have hsk := hid (fun h => NX.skip (m := m) hN h)
  have htk := hid (fun h1 h2 => NX.take (m := m) hN h1 h2)
  have hlt : Hid (cmpR (ofB bs ((nth L m : Nat) : Int)) (ofB bs nx) ((nth L m : Nat) : Int) nx < 0 → (ofB bs nx).w ≤ (bAt bs (nth L m)).w) := fun h => by have h2 := cmpR_lt _ _ _ _ h; rw [ofB_nat] at h2; exact h2
  have hge : Hid (¬ cmpR (ofB bs ((nth L m : Nat) : Int)) (ofB bs nx) ((nth L m : Nat) : Int) nx < 0 → (bAt bs (nth L m)).w ≤ (ofB bs nx).w) := fun h => by have h2 := cmpR_ge _ _ _ _ h; rw [ofB_nat] at h2; exact h2
  clear hQ hM hC hN hc hD hnx hk hi
  generalize cmpR (ofB bs ((nth L m : Nat) : Int)) (ofB bs nx) ((nth L m : Nat) : Int) nx = cr at *
  generalize nth L m = i at *
  generalize nth L j = k at *
  conv => arg 2; whnf
  rw [fr128]
  simp only [s2, s7, s8, s10, s51, s52, s53, s11, s12, s13, s60, s61, s62]
  clear s2 s7 s8 s10 s51 s52 s53 s11 s12 s13 s60 s61 s62
  cases hfb : fitsB l gap k i with
  | false =>
    rw [hfb] at hf
    have hend := hid (hsk.out (.inl hfb))
    clear hsk htk hlt hge hfb
    go_wp2_with fail
    refine hf.mono ?_
    rintro e W1 ⟨rfl, b1⟩
    have B1 := hid b1
    clear b1 hf
    go_wp2_with fail
    exact q_fr (N := 128) HQ.out rfl ⟨nx, ⟨⟨rfl, rfl, rfl, rfl, rfl, rfl, rfl⟩, rfl, rfl, rfl⟩, rfl, rfl, rfl, hend.out, B1.out⟩
  | true =>
    rw [hfb] at hf
    by_cases h0 : cr < 0
    · have d1 : decide (cr < 0) = true := decide_eq_true h0
      have hend := hid (htk.out hfb (hlt.out h0))
      clear hsk htk hlt hge hfb h0
      go_wp2_with fail
      refine hf.mono ?_
      rintro e W1 ⟨rfl, b1⟩
      have hc1 := Hc.out W1 b1
      have B1 := hid b1
      clear b1 hf
      go_wp2_with fail
      refine hc1.mono ?_
      rintro e W2 ⟨rfl, b2⟩
      have B2 := hid (B1.out.trans (b2.mono B1.out.size))
      clear b2 hc1
      go_wp2_with fail
      exact q_fr (N := 128) HQ.out rfl ⟨_, ⟨⟨rfl, rfl, rfl, rfl, rfl, rfl, rfl⟩, rfl, rfl, rfl⟩, rfl, rfl, rfl, hend.out, B2.out⟩
    · have d1 : decide (cr < 0) = false := decide_eq_false h0
      have hend := hid (hsk.out (.inr (hge.out h0)))
      clear hsk htk hlt hge hfb h0
      go_wp2_with fail
      refine hf.mono ?_
      rintro e W1 ⟨rfl, b1⟩
      have hc1 := Hc.out W1 b1
      have B1 := hid b1
      clear b1 hf
      go_wp2_with fail
      refine hc1.mono ?_
      rintro e W2 ⟨rfl, b2⟩
      have B2 := hid (B1.out.trans (b2.mono B1.out.size))
      clear b2 hc1
      go_wp2_with fail
      exact q_fr (N := 128) HQ.out rfl ⟨nx, ⟨⟨rfl, rfl, rfl, rfl, rfl, rfl, rfl⟩, rfl, rfl, rfl⟩, rfl, rfl, rfl, hend.out, B2.out⟩
set_option maxRecDepth 1000000 in
set_option maxHeartbeats 1000000 in
/-- what is to follow -/
theorem next_ok (B X P bb g o c n cap gap j : Nat) (la : Option Addr) (l : List Ps) (L : List Nat) (bs : List Best) (first : Int) (W0 : World) (hC : CO n gap l L) (hM : CM W0 B X P bb g o c n cap gap la l L bs) (hj : j < n) (hD : DP l gap n L j bs first) :
    Tri Try.prog 128 (pieceOf Try.f8 [1, 1, 1, 1, 1, 1, 1, 0, 1, 0, 0, 1, 1, 0, 0, 1, 1, 0, 1]) (fun y w => SC2 y X P g o c n j (nth L j) first (-1) ∧ y 60 = .slice (some ⟨g, o, none⟩) j c ∧ y 61 = .int .i64 (j : Int) ∧ y 62 = .int .i64 0 ∧ w = W0)
      (fun _ _ y w => ∃ nx, SC2 y X P g o c n j (nth L j) first nx ∧ NX l gap L bs (nth L j) j j nx ∧ Below W0.heap.size W0 w) := by
  rintro Q y w ⟨⟨⟨s2, s7, s8, s10, s51, s52, s53⟩, s11, s12, s13⟩, s60, s61, s62, rfl⟩ hQ
  have HQ := hid hQ
  have hn9 := hC.n9
  have HC := hid hC
  have HM := hid hM
  have HD := hid hD
  clear hQ hC hM hD
  conv => arg 2; whnf
  rw [fr128]
  simp only [s2, s7, s8, s10, s51, s52, s53, s11, s12, s13, s60, s61, s62]
  clear s2 s7 s8 s10 s51 s52 s53 s11 s12 s13 s60 s61 s62
  refine wp_block ?_
  refine wp_loop_fr 128 (NxI w B X P bb g o c n cap gap la l L bs j first) (fun y' _ => j - (intOf (y' 62)).toNat) ⟨rfl, rfl, 0, -1, Nat.zero_le _, ⟨⟨rfl, rfl, rfl, rfl, rfl, rfl, rfl⟩, rfl, rfl, rfl⟩, rfl, rfl, rfl, NX.start _ _ _ _ _ _, Below.refl _ _⟩ ?_
  rintro z W ⟨m, nx, hm, ⟨⟨s2, s7, s8, s10, s51, s52, s53⟩, s11, s12, s13⟩, s60, s61, s62, hN, hB⟩
  have HN := hid hN
  have HB := hid hB
  clear hN hB
  rw [fr128]
  simp only [s2, s7, s8, s10, s51, s52, s53, s11, s12, s13, s60, s61, s62]
  clear s2 s7 s8 s10 s51 s52 s53 s11 s12 s13 s60 s61 s62
  by_cases hlt : m < j
  · have ht := hid (try_ok B X P bb g o c n cap gap j m la l L bs first nx W HC.out (HM.out.below HB.out) hj hlt HD.out HN.out)
    have d1 : decide ((m : Int) < (j : Int)) = true := decide_eq_true (by omega)
    have d2 : decide (m < j) = true := decide_eq_true hlt
    go_upto_block 6 with (fail)
    refine wp_block ?_
    refine Tri.use ht.out rfl ⟨⟨⟨rfl, rfl, rfl, rfl, rfl, rfl, rfl⟩, rfl, rfl, rfl⟩, rfl, rfl, rfl, rfl⟩ ?_
    rintro y2 W2 ⟨nx2, ⟨⟨s2, s7, s8, s10, s51, s52, s53⟩, s11, s12, s13⟩, s60, s61, s62, hN2, hB2⟩
    have HN2 := hid hN2
    have HB2 := hid (HB.out.trans (hB2.mono HB.out.size))
    clear hN2 hB2
    rw [fr128]
    simp only [s2, s7, s8, s10, s51, s52, s53, s11, s12, s13, s60, s61, s62]
    clear s2 s7 s8 s10 s51 s52 s53 s11 s12 s13 s60 s61 s62
    go_wp2_with fail
    refine ⟨rfl, rfl, ⟨m + 1, nx2, by omega, ⟨⟨rfl, rfl, rfl, rfl, rfl, rfl, rfl⟩, rfl, rfl, rfl⟩, rfl, rfl, ?_, HN2.out, HB2.out⟩, ?_⟩
    · show Value.int .i64 _ = Value.int .i64 _
      go_num
    · show j - (intOf (Value.int .i64 _)).toNat < _
      simp [intOf]
      omega
  · obtain rfl : m = j := by omega
    have d1 : decide ((m : Int) < (m : Int)) = false := decide_eq_false (by omega)
    go_wp2_with fail
    exact q_fr (N := 128) HQ.out rfl ⟨nx, ⟨⟨rfl, rfl, rfl, rfl, rfl, rfl, rfl⟩, rfl, rfl, rfl⟩, HN.out, HB.out⟩
end Go.Proofs.Ytfbchmihkndfaaa
