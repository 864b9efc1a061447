/- Passes: Choose: the loop over the order. -/
import Derived.Test.YtfbchmihkndfaaaChoR
namespace Go.Proofs.Ytfbchmihkndfaaa
set_option linter.unusedVariables false
open Go.RowKit

set_option maxRecDepth 1000000 in
set_option maxHeartbeats 2000000 in
theorem round_ok (B X P bb g o c n cap gap j : Nat) (la : Option Addr) (l : List Ps) (L : List Nat) (bs : List Best) (first : Int) (W0 : World) (hC : CO n gap l L) (hM : CM W0 B X P bb g o c n cap gap la l L bs) (hj : j < n) (hD : DP l gap n L j bs first) :
    Tri Try.prog 128 (pieceOf Try.f8 [1, 1, 1, 1, 1, 1, 1, 0, 1, 0, 0, 1, 1, 0, 0]) (fun y w => SC y X P g o c n j first ∧ w = W0)
      (fun _ _ y w => ∃ first' bs', SC y X P g o c n j first' ∧ CM w B X P bb g o c n cap gap la l L bs' ∧ DP l gap n L (j + 1) bs' first' ∧ Gb bb W0 w) := by
  rintro Q y w ⟨⟨s2, s7, s8, s10, s51, s52, s53⟩, rfl⟩ hQ
  have HQ := hid hQ
  have hn9 := hC.n9
  have hk := hC.lt j hj
  obtain ⟨hgl, c0, _⟩ := hM.o.ati j hj
  have HC := hid hC
  have HM := hid hM
  have HD := hid hD
  obtain ⟨ob, oc, hoe, hole, homx⟩ := hM.o.form
  cases hoe
  unfold maxLen at homx
  clear hQ hC hM hD
  conv => arg 2; whnf
  rw [fr128]
  simp only [s2, s7, s8, s10, s51, s52, s53]
  clear s2 s7 s8 s10 s51 s52 s53
  refine wp_seq_k (fun K1 hK1 => ?_)
  go_wp2_with fail
  refine hK1.out _ _ ?_
  clear c0
  refine wp_seq_k (fun K2 hK2 => ?_)
  go_wp2_with fail
  refine hK2.out _ _ ?_
  refine wp_seq_k (fun K3 hK3 => ?_)
  refine wp_seq_k (fun K4 hK4 => ?_)
  go_wp2_with fail
  refine hK4.out _ _ ?_
  refine Tri.use (next_ok B X P bb g o c n cap gap j la l L bs first w HC.out HM.out hj HD.out) rfl ⟨⟨⟨rfl, rfl, rfl, rfl, rfl, rfl, rfl⟩, rfl, rfl, rfl⟩, rfl, rfl, rfl, rfl⟩ ?_
  rintro y5 W5 ⟨nx, ⟨⟨s2, s7, s8, s10, s51, s52, s53⟩, s11, s12, s13⟩, hN, hB⟩
  refine hK3.out _ _ ?_
  have HN := hid hN
  have HM5 := hid (HM.out.below hB)
  have HB5 := hid hB
  have hnx : nx < (n : Int) := by
    rcases hN.fm with rfl | ⟨a, ha, rfl, _⟩
    · omega
    · have := HC.out.lt a (by omega); omega
  have hof := of_ok P bb n cap gap la l bs nx hnx hn9 W5 HM5.out.p
  clear hN hB
  rw [fr128]
  simp only [s2, s7, s8, s10, s51, s52, s53, s11, s12, s13]
  clear s2 s7 s8 s10 s51 s52 s53 s11 s12 s13
  refine wp_seq_k (fun K6 hK6 => ?_)
  go_wp2_with fail
  refine hof.mono ?_
  rintro e W6 ⟨rfl, b6⟩
  have HM6 := hid (HM5.out.below b6)
  have HB6 := hid (HB5.out.trans (b6.mono HB5.out.size))
  clear hof b6
  go_wp2_with fail
  refine hK6.out _ _ ?_
  have b7 := below_alloc W6 (.cells #[.int .i64 ((ofB bs nx).w : Int), .int .i64 ((ofB bs nx).c : Int), .int .i64 (ofB bs nx).nx] 59)
  have r7 := heap_alloc_new W6 (.cells #[.int .i64 ((ofB bs nx).w : Int), .int .i64 ((ofB bs nx).c : Int), .int .i64 (ofB bs nx).nx] 59)
  have hbl := row_lt HM6.out.p.bst
  have HM7 := hid (HM6.out.below b7)
  have HB7 := hid (HB6.out.trans (b7.mono HB6.out.size))
  have hRb : W6.heap.size ≠ bb := by omega
  generalize W6.alloc (.cells #[.int .i64 ((ofB bs nx).w : Int), .int .i64 ((ofB bs nx).c : Int), .int .i64 (ofB bs nx).nx] 59) = W7 at *
  refine wp_seq ?_
  refine Tri.use (beg_ok B X P bb g o c n cap gap j la l L bs first nx W6.heap.size W7 HC.out HM7.out hj HD.out HN.out r7 hRb) rfl ⟨⟨⟨rfl, rfl, rfl, rfl, rfl, rfl, rfl⟩, rfl, rfl, rfl⟩, rfl, rfl⟩ ?_
  rintro y8 W8 ⟨⟨⟨s2, s7, s8, s10, s51, s52, s53⟩, s11, s12, s13⟩, hM8, hg8⟩
  show Code.wp _ _ _ _ _
  have HM8 := hid hM8
  have HG8 := hid (grownBy_trans (Gb.below HB7.out) hg8)
  have hkb : nth L j < bs.length := by rw [HD.out.bl]; exact hk
  have hfl : first < (n : Int) := by
    rcases HD.out.fst with h | ⟨a, ha, h⟩
    · rw [h]; omega
    · have := HC.out.lt a (by omega); rw [h]; omega
  have hcmp := compare_ok P bb n cap gap la l (bs.set (nth L j) ⟨(ofB bs nx).w + wOf l (nth L j), (ofB bs nx).c + 1, nx⟩) ((nth L j : Nat) : Int) first (by omega) hfl hn9 W8 hM8.p
  have hwb : wOf l (nth L j) ≤ 1000 := (HC.out.g (nth L j) (by rw [HC.out.len]; exact hk)).w
  have hofk : ofB (bs.set (nth L j) ⟨(ofB bs nx).w + wOf l (nth L j), (ofB bs nx).c + 1, nx⟩) ((nth L j : Nat) : Int) = ⟨(ofB bs nx).w + wOf l (nth L j), (ofB bs nx).c + 1, nx⟩ := by
    rw [ofB_nat, bAt_set _ _ _ _ hkb, if_pos rfl]
  have hoff : ofB (bs.set (nth L j) ⟨(ofB bs nx).w + wOf l (nth L j), (ofB bs nx).c + 1, nx⟩) first = ofB bs first := by
    rcases HD.out.fst with h | ⟨a, ha, h⟩
    · rw [h]; rfl
    · rw [h, ofB_nat, ofB_nat, bAt_set _ _ _ _ hkb, if_neg (fun e => by have := nth_inj HC.out.nd (by rw [HC.out.ln]; omega) (by rw [HC.out.ln]; omega) e; omega)]
  rw [hofk, hoff] at hcmp
  have hlt := hid (fun h => HD.out.step (f2 := ((nth L j : Nat) : Int)) HC.out.ln HC.out.nd HC.out.lt hj HN.out hwb (.inl ⟨rfl, cmpR_lt ⟨(ofB bs nx).w + wOf l (nth L j), (ofB bs nx).c + 1, nx⟩ (ofB bs first) ((nth L j : Nat) : Int) first h⟩))
  have hge := hid (fun h => HD.out.step (f2 := first) HC.out.ln HC.out.nd HC.out.lt hj HN.out hwb (.inr ⟨rfl, cmpR_ge ⟨(ofB bs nx).w + wOf l (nth L j), (ofB bs nx).c + 1, nx⟩ (ofB bs first) ((nth L j : Nat) : Int) first h⟩))
  generalize cmpR ⟨(ofB bs nx).w + wOf l (nth L j), (ofB bs nx).c + 1, nx⟩ (ofB bs first) ((nth L j : Nat) : Int) first = cr at *
  clear hofk hoff hkb hM8 hg8 hwb HN
  generalize bs.set (nth L j) ⟨(ofB bs nx).w + wOf l (nth L j), (ofB bs nx).c + 1, nx⟩ = bs2 at *
  generalize nth L j = k at *
  rw [fr128]
  simp only [s2, s7, s8, s10, s51, s52, s53, s11, s12, s13]
  clear s2 s7 s8 s10 s51 s52 s53 s11 s12 s13
  by_cases h0 : cr < 0
  · have d1 : decide (cr < 0) = true := decide_eq_true h0
    have hend := hid (hlt.out h0)
    clear hlt hge h0
    go_wp2_with fail
    refine hcmp.mono ?_
    rintro e W9 ⟨rfl, b9⟩
    have HM9 := hid (HM8.out.below b9)
    have HG9 := hid (grownBy_trans HG8.out (Gb.below b9))
    clear hcmp b9
    go_wp2_with fail
    exact q_fr (N := 128) HQ.out rfl ⟨_, bs2, ⟨rfl, rfl, rfl, rfl, rfl, rfl, rfl⟩, HM9.out, hend.out, HG9.out⟩
  · have d1 : decide (cr < 0) = false := decide_eq_false h0
    have hend := hid (hge.out h0)
    clear hlt hge h0
    go_wp2_with fail
    refine hcmp.mono ?_
    rintro e W9 ⟨rfl, b9⟩
    have HM9 := hid (HM8.out.below b9)
    have HG9 := hid (grownBy_trans HG8.out (Gb.below b9))
    clear hcmp b9
    go_wp2_with fail
    exact q_fr (N := 128) HQ.out rfl ⟨first, bs2, ⟨rfl, rfl, rfl, rfl, rfl, rfl, rfl⟩, HM9.out, hend.out, HG9.out⟩
def ChoI (W0 : World) (B X P bb g o c n cap gap : Nat) (la : Option Addr) (l : List Ps) (L : List Nat) (y : Nat → Value) (W : World) : Prop :=
  ∃ j first bs, j ≤ n ∧ SC y X P g o c n j first ∧ CM W B X P bb g o c n cap gap la l L bs ∧ DP l gap n L j bs first ∧ Gb bb W0 W
set_option maxRecDepth 1000000 in
set_option maxHeartbeats 2000000 in
theorem rounds_ok (B X P bb g o c n cap gap : Nat) (la : Option Addr) (l : List Ps) (L : List Nat) (bs : List Best) (W0 : World) (hC : CO n gap l L) (hM : CM W0 B X P bb g o c n cap gap la l L bs) (hbl : bs.length = n) :
    Tri Try.prog 128 (pieceOf Try.f8 [1, 1, 1, 1, 1, 1, 1, 0, 1]) (fun y w => SC y X P g o c n 0 (-1) ∧ w = W0)
      (fun _ _ y w => ∃ first bs', SC y X P g o c n n first ∧ CM w B X P bb g o c n cap gap la l L bs' ∧ DP l gap n L n bs' first ∧ Gb bb W0 w) := by
  rintro Q y w ⟨⟨s2, s7, s8, s10, s51, s52, s53⟩, rfl⟩ hQ
  have HQ := hid hQ
  have hn9 := hC.n9
  have HC := hid hC
  have HM := hid hM
  clear hQ hC hM
  conv => arg 2; whnf
  rw [fr128]
  simp only [s2, s7, s8, s10, s51, s52, s53]
  clear s2 s7 s8 s10 s51 s52 s53
  refine wp_block ?_
  refine wp_loop_fr 128 (ChoI w B X P bb g o c n cap gap la l L) (fun y' _ => n - (intOf (y' 53)).toNat) ⟨rfl, rfl, 0, -1, bs, Nat.zero_le _, ⟨rfl, rfl, rfl, rfl, rfl, rfl, rfl⟩, HM.out, ⟨hbl, fun a h => by omega, .inl rfl, fun a h => by omega⟩, Gb.refl _ _⟩ ?_
  rintro z W ⟨j, first, bs1, hj, ⟨s2, s7, s8, s10, s51, s52, s53⟩, hM1, hD1, hG1⟩
  have HM1 := hid hM1
  have HD1 := hid hD1
  have HG1 := hid hG1
  clear hM1 hD1 hG1
  rw [fr128]
  simp only [s2, s7, s8, s10, s51, s52, s53]
  clear s2 s7 s8 s10 s51 s52 s53
  by_cases hlt : j < n
  · have hr := hid (round_ok B X P bb g o c n cap gap j la l L bs1 first W HC.out HM1.out hlt HD1.out)
    have d1 : decide ((j : Int) < (n : Int)) = true := decide_eq_true (by omega)
    have d2 : decide (j < n) = true := decide_eq_true hlt
    go_upto_block 4 with (fail)
    refine wp_block ?_
    refine Tri.use hr.out rfl ⟨⟨rfl, rfl, rfl, rfl, rfl, rfl, rfl⟩, rfl⟩ ?_
    rintro y2 W2 ⟨first2, bs2, ⟨s2, s7, s8, s10, s51, s52, s53⟩, hM2, hD2, hG2⟩
    have HM2 := hid hM2
    have HD2 := hid hD2
    have HG2 := hid (grownBy_trans HG1.out hG2)
    clear hM2 hD2 hG2
    rw [fr128]
    simp only [s2, s7, s8, s10, s51, s52, s53]
    clear s2 s7 s8 s10 s51 s52 s53
    go_wp2_with fail
    refine ⟨rfl, rfl, ⟨j + 1, first2, bs2, by omega, ⟨rfl, rfl, rfl, rfl, rfl, rfl, ?_⟩, HM2.out, HD2.out, HG2.out⟩, ?_⟩
    · show Value.int .i64 _ = Value.int .i64 _
      go_num
    · show n - (intOf (Value.int .i64 _)).toNat < _
      simp [intOf]
      omega
  · obtain rfl : j = n := by omega
    have d1 : decide ((j : Int) < (j : Int)) = false := decide_eq_false (by omega)
    go_wp2_with fail
    exact q_fr (N := 128) HQ.out rfl ⟨first, bs1, ⟨rfl, rfl, rfl, rfl, rfl, rfl, rfl⟩, HM1.out, HD1.out, HG1.out⟩
end Go.Proofs.Ytfbchmihkndfaaa
