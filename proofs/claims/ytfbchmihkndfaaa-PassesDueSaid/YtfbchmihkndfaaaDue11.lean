/- Passes: Choose: one beginning. -/
import Derived.Test.YtfbchmihkndfaaaDue10
namespace Go.Proofs.Ytfbchmihkndfaaa
set_option linter.unusedVariables false
open Go.RowKit

theorem NX.bound {l : List Ps} {gap n : Nat} {L : List Nat} {j : Nat} {bs : List Best} {first nx : Int} {k : Nat} (h : DP l gap n L j bs first) (hx : NX l gap L bs k j j nx) : (ofB bs nx).w ≤ 1000 * j ∧ (ofB bs nx).c ≤ j := by
  rcases hx.fm with rfl | ⟨a, ha, rfl, _⟩
  · exact ⟨Nat.zero_le _, Nat.zero_le _⟩
  · rw [ofB_nat]
    have h1 := (h.made a ha).wb
    have h2 := (h.made a ha).cb
    omega
set_option maxRecDepth 1000000 in
set_option maxHeartbeats 2000000 in
theorem beg_ok (B X P bb g o c n cap gap j : Nat) (la : Option Addr) (l : List Ps) (L : List Nat) (bs : List Best) (first nx : Int) (R : Nat) (W0 : World) (hC : CO n gap l L) (hM : CM W0 B X P bb g o c n cap gap la l L bs) (hj : j < n) (hD : DP l gap n L j bs first) (hN : NX l gap L bs (nth L j) j j nx)
    (hR : W0.heap[R]? = some (.cells #[.int .i64 ((ofB bs nx).w : Int), .int .i64 ((ofB bs nx).c : Int), .int .i64 (ofB bs nx).nx] 59)) (hRb : R ≠ bb) :
    Tri Try.prog 128 (pieceOf Try.f8 [1, 1, 1, 1, 1, 1, 1, 0, 1, 0, 0, 1, 1, 0, 0, 1, 1, 1, 1, 0]) (fun y w => SC2 y X P g o c n j (nth L j) first nx ∧ y 16 = .pointer (some ⟨R, 0, none⟩) ∧ w = W0)
      (fun _ _ y w => SC2 y X P g o c n j (nth L j) first nx ∧ CM w B X P bb g o c n cap gap la l L (bs.set (nth L j) ⟨(ofB bs nx).w + wOf l (nth L j), (ofB bs nx).c + 1, nx⟩) ∧ Gb bb W0 w) := by
  rintro Q y w ⟨⟨⟨s2, s7, s8, s10, s51, s52, s53⟩, s11, s12, s13⟩, s16, rfl⟩ hQ
  have HQ := hid hQ
  have hn9 := hC.n9
  have hk := hC.lt j hj
  have hb := hN.bound hD
  obtain ⟨blk, hla, hbl, x0, x1, x2, x3⟩ := hM.p.ps.at_ (nth L j) hk
  have hgood := (hC.g (nth L j) (by rw [hC.len]; exact hk)).w
  have hps := hM.p.ps.mem (by omega)
  obtain ⟨blk2, hla2, _, ⟨pcs, hpr⟩, _⟩ := hps
  rw [hla] at hla2
  cases hla2
  have hne : ∀ b cs T, 59 ≠ T → w.heap[b]? = some (.cells cs T) → b ≠ bb := fun b cs T hT hc e => by
    subst e
    rw [hM.p.bst] at hc
    cases hc
    exact hT rfl
  have hbx := hne _ _ 55 (by decide) hM.p.box
  have hxx := hne _ _ 39 (by decide) hM.x
  have hpx := hne _ _ 41 (by decide) hpr
  have hdg : ∀ w', Gb bb w.drew w' → Gb bb w w' := fun w' h => grownBy_trans (Gb.below (Below.refl _ w).drew) h
  have e0 : ∀ w', Gb bb w.drew w' → w'.cell? ⟨P, 2, none⟩ = some (.slice (some ⟨bb, 0, none⟩) n n) := fun w' h => by rw [cell_of_row _ _ _ _ _ _ (row_grown hM.p.box (hdg w' h) hbx)]; rfl
  have e1 : ∀ w', Gb bb w.drew w' → w'.cell? ⟨R, 0, none⟩ = some (.int .i64 ((ofB bs nx).w : Int)) := fun w' h => by rw [cell_of_row _ _ _ _ _ _ (row_grown hR (hdg w' h) hRb)]; rfl
  have e2 : ∀ w', Gb bb w.drew w' → w'.cell? ⟨R, 1, none⟩ = some (.int .i64 ((ofB bs nx).c : Int)) := fun w' h => by rw [cell_of_row _ _ _ _ _ _ (row_grown hR (hdg w' h) hRb)]; rfl
  have e3 : ∀ w', Gb bb w.drew w' → w'.cell? ⟨X, 0, none⟩ = some (.slice la n cap) := fun w' h => by rw [cell_of_row _ _ _ _ _ _ (row_grown hM.x (hdg w' h) hxx)]; rfl
  have e4 : ∀ w', Gb bb w.drew w' → w'.cell? ⟨blk, nth L j * 4 + 3, none⟩ = some (.int .i64 ((pAt l (nth L j)).wo : Int)) := fun w' h => by
    have := (hdg w' h).block blk hbl (fun e => hpx (by cases e; rfl))
    unfold World.cell? at x3 ⊢
    simp only at x3 ⊢
    rw [this]
    exact x3
  have hcd : CM w.drew B X P bb g o c n cap gap la l L bs := hM.below (Below.refl _ w).drew
  obtain ⟨hps, hpg⟩ := hcd.p.set (nth L j) hk ⟨(ofB bs nx).w + wOf l (nth L j), (ofB bs nx).c + 1, nx⟩
  have hend : Hid (CM (((w.drew.setCell ⟨bb, nth L j * 3, none⟩ (.int .i64 (((ofB bs nx).w + wOf l (nth L j) : Nat) : Int))).setCell ⟨bb, nth L j * 3 + 1, none⟩ (.int .i64 (((ofB bs nx).c + 1 : Nat) : Int))).setCell ⟨bb, nth L j * 3 + 2, none⟩ (.int .i64 nx)) B X P bb g o c n cap gap la l L (bs.set (nth L j) ⟨(ofB bs nx).w + wOf l (nth L j), (ofB bs nx).c + 1, nx⟩) ∧
      Gb bb w.drew (((w.drew.setCell ⟨bb, nth L j * 3, none⟩ (.int .i64 (((ofB bs nx).w + wOf l (nth L j) : Nat) : Int))).setCell ⟨bb, nth L j * 3 + 1, none⟩ (.int .i64 (((ofB bs nx).c + 1 : Nat) : Int))).setCell ⟨bb, nth L j * 3 + 2, none⟩ (.int .i64 nx))) :=
    ⟨⟨row_grown hcd.x hpg hxx, hps, hcd.o.kept hpg (hcd.o.ne hcd.p.bst (by decide))⟩, hpg⟩
  obtain ⟨o0, o1, o2⟩ := hcd.p.at_ (nth L j) hk
  have fz := frozen_row hcd.p.bst
  have hgd : Hid (Gb bb w w.drew) := Gb.below (Below.refl _ w).drew
  have hwo : wOf l (nth L j) = (pAt l (nth L j)).wo := rfl
  rw [hwo] at hend HQ
  clear hQ hM hC hN hD hR hcd hps hpg hdg x0 x1 x2 x3 hpr hne hwo
  generalize bs.set (nth L j) ⟨(ofB bs nx).w + (pAt l (nth L j)).wo, (ofB bs nx).c + 1, nx⟩ = bs2 at *
  generalize (pAt l (nth L j)).wo = pw at *
  generalize (ofB bs nx).w = rw_ at *
  generalize (ofB bs nx).c = rc_ at *
  generalize nth L j = k at *
  generalize bAt bs k = ob at *
  have a1 : (rw_ : Int) + (pw : Int) = ((rw_ + pw : Nat) : Int) := by omega
  have a2 : (rc_ : Int) + 1 = ((rc_ + 1 : Nat) : Int) := by omega
  have w1 : IntKind.i64.wrap ((rw_ + pw : Nat) : Int) = ((rw_ + pw : Nat) : Int) := IntWalk.i64_in _ (by omega)
  have w2 : IntKind.i64.wrap ((rc_ + 1 : Nat) : Int) = ((rc_ + 1 : Nat) : Int) := IntWalk.i64_in _ (by omega)
  generalize rw_ + pw = sw at *
  generalize rc_ + 1 = sc at *
  subst hla
  conv => arg 2; whnf
  rw [fr128]
  simp only [s2, s7, s8, s10, s51, s52, s53, s11, s12, s13, s16]
  clear s2 s7 s8 s10 s51 s52 s53 s11 s12 s13 s16
  refine wp_region_can_all [19] [0, 1, 2, 3, 4, 5, 6, 7, 8, 9, 10, 11, 12, 13, 14, 15, 16, 17, 18, 19] (Gb bb) (Gb.refl bb) (fun _ _ _ h k => grownBy_trans h k) (by kernel_rfl) (by kernel_rfl) ?_
  simp only [List.map_cons, List.map_nil, List.contains_cons, List.contains_nil, List.getD_cons_zero, List.getD_cons_succ, Nat.reduceBEq, Bool.or_false]
  generalize w.drew = U at *
  repeat (refine wpL_do rfl (fun w' hw' => (by go_simp; rfl)) ?_; simp only [Act.put, List.setIfInBounds_toArray, List.set_cons_succ, List.set_cons_zero])
  clear e0 e1 e2 e3 e4 a1 a2 w1 w2
  refine wpL_call rfl (fun K hK => ?_)
  go_wp2_with fail
  refine hK _ _ hend.out.2 ?_
  clear hK K o0 o1 o2 fz
  try simp only [Act.put, List.setIfInBounds_toArray, List.set_cons_succ, List.set_cons_zero]
  refine wpL_nil ?_
  exact q_fr (N := 128) HQ.out rfl ⟨⟨⟨rfl, rfl, rfl, rfl, rfl, rfl, rfl⟩, rfl, rfl, rfl⟩, hend.out.1, grownBy_trans hgd.out hend.out.2⟩
end Go.Proofs.Ytfbchmihkndfaaa
/- Passes: Choose: the loop over the order. -/
namespace Go.Proofs.Ytfbchmihkndfaaa
set_option linter.unusedVariables false
open Go.RowKit

set_option maxRecDepth 1000000 in
set_option maxHeartbeats 2000000 in
theorem round_ok (B X P bb g o c n cap gap j : Nat) (la : Option Addr) (l : List Ps) (L : List Nat) (bs : List Best) (first : Int) (W0 : World) (hC : CO n gap l L) (hM : CM W0 B X P bb g o c n cap gap la l L bs) (hj : j < n) (hD : DP l gap n L j bs first) :
    Tri Try.prog 128 (pieceOf Try.f8 [1, 1, 1, 1, 1, 1, 1, 0, 1, 0, 0, 1, 1, 0, 0]) (fun y w => SC y X P g o c n j first ∧ w = W0)
      (fun _ _ y w => ∃ first' bs', SC y X P g o c n j first' ∧ CM w B X P bb g o c n cap gap la l L bs' ∧ DP l gap n L (j + 1) bs' first' ∧ Gb bb W0 w) := by
  rintro Q y w ⟨⟨s2, s7, s8, s10, s51, s52, s53⟩, rfl⟩ hQ
  have HQ := hid hQ
  have hn9 := hC.n9
  have hk := hC.lt j hj
  obtain ⟨hgl, c0, _⟩ := hM.o.ati j hj
  have HC := hid hC
  have HM := hid hM
  have HD := hid hD
  obtain ⟨ob, oc, hoe, hole, homx⟩ := hM.o.form
  cases hoe
  unfold maxLen at homx
  clear hQ hC hM hD
  conv => arg 2; whnf
  rw [fr128]
  simp only [s2, s7, s8, s10, s51, s52, s53]
  clear s2 s7 s8 s10 s51 s52 s53
  refine wp_seq_k (fun K1 hK1 => ?_)
  go_wp2_with fail
  refine hK1.out _ _ ?_
  clear c0
  refine wp_seq_k (fun K2 hK2 => ?_)
  go_wp2_with fail
  refine hK2.out _ _ ?_
  refine wp_seq_k (fun K3 hK3 => ?_)
  refine wp_seq_k (fun K4 hK4 => ?_)
  go_wp2_with fail
  refine hK4.out _ _ ?_
  refine Tri.use (next_ok B X P bb g o c n cap gap j la l L bs first w HC.out HM.out hj HD.out) rfl ⟨⟨⟨rfl, rfl, rfl, rfl, rfl, rfl, rfl⟩, rfl, rfl, rfl⟩, rfl, rfl, rfl, rfl⟩ ?_
  rintro y5 W5 ⟨nx, ⟨⟨s2, s7, s8, s10, s51, s52, s53⟩, s11, s12, s13⟩, hN, hB⟩
  refine hK3.out _ _ ?_
  have HN := hid hN
  have HM5 := hid (HM.out.below hB)
  have HB5 := hid hB
  have hnx : nx < (n : Int) := by
    rcases hN.fm with rfl | ⟨a, ha, rfl, _⟩
    · omega
    · have := HC.out.lt a (by omega); omega
  have hof := of_ok P bb n cap gap la l bs nx hnx hn9 W5 HM5.out.p
  clear hN hB
  rw [fr128]
  simp only [s2, s7, s8, s10, s51, s52, s53, s11, s12, s13]
  clear s2 s7 s8 s10 s51 s52 s53 s11 s12 s13
  refine wp_seq_k (fun K6 hK6 => ?_)
  go_wp2_with fail
  refine hof.mono ?_
  rintro e W6 ⟨rfl, b6⟩
  have HM6 := hid (HM5.out.below b6)
  have HB6 := hid (HB5.out.trans (b6.mono HB5.out.size))
  clear hof b6
  go_wp2_with fail
  refine hK6.out _ _ ?_
  have b7 := below_alloc W6 (.cells #[.int .i64 ((ofB bs nx).w : Int), .int .i64 ((ofB bs nx).c : Int), .int .i64 (ofB bs nx).nx] 59)
  have r7 := heap_alloc_new W6 (.cells #[.int .i64 ((ofB bs nx).w : Int), .int .i64 ((ofB bs nx).c : Int), .int .i64 (ofB bs nx).nx] 59)
  have hbl := row_lt HM6.out.p.bst
  have HM7 := hid (HM6.out.below b7)
  have HB7 := hid (HB6.out.trans (b7.mono HB6.out.size))
  have hRb : W6.heap.size ≠ bb := by omega
  generalize W6.alloc (.cells #[.int .i64 ((ofB bs nx).w : Int), .int .i64 ((ofB bs nx).c : Int), .int .i64 (ofB bs nx).nx] 59) = W7 at *
  refine wp_seq ?_
  refine Tri.use (beg_ok B X P bb g o c n cap gap j la l L bs first nx W6.heap.size W7 HC.out HM7.out hj HD.out HN.out r7 hRb) rfl ⟨⟨⟨rfl, rfl, rfl, rfl, rfl, rfl, rfl⟩, rfl, rfl, rfl⟩, rfl, rfl⟩ ?_
  rintro y8 W8 ⟨⟨⟨s2, s7, s8, s10, s51, s52, s53⟩, s11, s12, s13⟩, hM8, hg8⟩
  show Code.wp _ _ _ _ _
  have HM8 := hid hM8
  have HG8 := hid (grownBy_trans (Gb.below HB7.out) hg8)
  have hkb : nth L j < bs.length := by rw [HD.out.bl]; exact hk
  have hfl : first < (n : Int) := by
    rcases HD.out.fst with h | ⟨a, ha, h⟩
    · rw [h]; omega
    · have := HC.out.lt a (by omega); rw [h]; omega
  have hcmp := compare_ok P bb n cap gap la l (bs.set (nth L j) ⟨(ofB bs nx).w + wOf l (nth L j), (ofB bs nx).c + 1, nx⟩) ((nth L j : Nat) : Int) first (by omega) hfl hn9 W8 hM8.p
  have hwb : wOf l (nth L j) ≤ 1000 := (HC.out.g (nth L j) (by rw [HC.out.len]; exact hk)).w
  have hofk : ofB (bs.set (nth L j) ⟨(ofB bs nx).w + wOf l (nth L j), (ofB bs nx).c + 1, nx⟩) ((nth L j : Nat) : Int) = ⟨(ofB bs nx).w + wOf l (nth L j), (ofB bs nx).c + 1, nx⟩ := by
    rw [ofB_nat, bAt_set _ _ _ _ hkb, if_pos rfl]
  have hoff : ofB (bs.set (nth L j) ⟨(ofB bs nx).w + wOf l (nth L j), (ofB bs nx).c + 1, nx⟩) first = ofB bs first := by
    rcases HD.out.fst with h | ⟨a, ha, h⟩
    · rw [h]; rfl
    · rw [h, ofB_nat, ofB_nat, bAt_set _ _ _ _ hkb, if_neg (fun e => by have := nth_inj HC.out.nd (by rw [HC.out.ln]; omega) (by rw [HC.out.ln]; omega) e; omega)]
  rw [hofk, hoff] at hcmp
  have hlt := hid (fun h => HD.out.step (f2 := ((nth L j : Nat) : Int)) HC.out.ln HC.out.nd HC.out.lt hj HN.out hwb (.inl ⟨rfl, cmpR_lt ⟨(ofB bs nx).w + wOf l (nth L j), (ofB bs nx).c + 1, nx⟩ (ofB bs first) ((nth L j : Nat) : Int) first h⟩))
  have hge := hid (fun h => HD.out.step (f2 := first) HC.out.ln HC.out.nd HC.out.lt hj HN.out hwb (.inr ⟨rfl, cmpR_ge ⟨(ofB bs nx).w + wOf l (nth L j), (ofB bs nx).c + 1, nx⟩ (ofB bs first) ((nth L j : Nat) : Int) first h⟩))
  generalize cmpR ⟨(ofB bs nx).w + wOf l (nth L j), (ofB bs nx).c + 1, nx⟩ (ofB bs first) ((nth L j : Nat) : Int) first = cr at *
  clear hofk hoff hkb hM8 hg8 hwb HN
  generalize bs.set (nth L j) ⟨(ofB bs nx).w + wOf l (nth L j), (ofB bs nx).c + 1, nx⟩ = bs2 at *
  generalize nth L j = k at *
  rw [fr128]
  simp only [s2, s7, s8, s10, s51, s52, s53, s11, s12, s13]
  clear s2 s7 s8 s10 s51 s52 s53 s11 s12 s13
  by_cases h0 : cr < 0
  · have d1 : decide (cr < 0) = true := decide_eq_true h0
    have hend := hid (hlt.out h0)
    clear hlt hge h0
    go_wp2_with fail
    refine hcmp.mono ?_
    rintro e W9 ⟨rfl, b9⟩
    have HM9 := hid (HM8.out.below b9)
    have HG9 := hid (grownBy_trans HG8.out (Gb.below b9))
    clear hcmp b9
    go_wp2_with fail
    exact q_fr (N := 128) HQ.out rfl ⟨_, bs2, ⟨rfl, rfl, rfl, rfl, rfl, rfl, rfl⟩, HM9.out, hend.out, HG9.out⟩
  · have d1 : decide (cr < 0) = false := decide_eq_false h0
    have hend := hid (hge.out h0)
    clear hlt hge h0
    go_wp2_with fail
    refine hcmp.mono ?_
    rintro e W9 ⟨rfl, b9⟩
    have HM9 := hid (HM8.out.below b9)
    have HG9 := hid (grownBy_trans HG8.out (Gb.below b9))
    clear hcmp b9
    go_wp2_with fail
    exact q_fr (N := 128) HQ.out rfl ⟨first, bs2, ⟨rfl, rfl, rfl, rfl, rfl, rfl, rfl⟩, HM9.out, hend.out, HG9.out⟩
def ChoI (W0 : World) (B X P bb g o c n cap gap : Nat) (la : Option Addr) (l : List Ps) (L : List Nat) (y : Nat → Value) (W : World) : Prop :=
  ∃ j first bs, j ≤ n ∧ SC y X P g o c n j first ∧ CM W B X P bb g o c n cap gap la l L bs ∧ DP l gap n L j bs first ∧ Gb bb W0 W
set_option maxRecDepth 1000000 in
set_option maxHeartbeats 2000000 in
theorem rounds_ok (B X P bb g o c n cap gap : Nat) (la : Option Addr) (l : List Ps) (L : List Nat) (bs : List Best) (W0 : World) (hC : CO n gap l L) (hM : CM W0 B X P bb g o c n cap gap la l L bs) (hbl : bs.length = n) :
    Tri Try.prog 128 (pieceOf Try.f8 [1, 1, 1, 1, 1, 1, 1, 0, 1]) (fun y w => SC y X P g o c n 0 (-1) ∧ w = W0)
      (fun _ _ y w => ∃ first bs', SC y X P g o c n n first ∧ CM w B X P bb g o c n cap gap la l L bs' ∧ DP l gap n L n bs' first ∧ Gb bb W0 w) := by
  rintro Q y w ⟨⟨s2, s7, s8, s10, s51, s52, s53⟩, rfl⟩ hQ
  have HQ := hid hQ
  have hn9 := hC.n9
  have HC := hid hC
  have HM := hid hM
  clear hQ hC hM
  conv => arg 2; whnf
  rw [fr128]
  simp only [s2, s7, s8, s10, s51, s52, s53]
  clear s2 s7 s8 s10 s51 s52 s53
  refine wp_block ?_
  refine wp_loop_fr 128 (ChoI w B X P bb g o c n cap gap la l L) (fun y' _ => n - (intOf (y' 53)).toNat) ⟨rfl, rfl, 0, -1, bs, Nat.zero_le _, ⟨rfl, rfl, rfl, rfl, rfl, rfl, rfl⟩, HM.out, ⟨hbl, fun a h => by omega, .inl rfl, fun a h => by omega⟩, Gb.refl _ _⟩ ?_
  rintro z W ⟨j, first, bs1, hj, ⟨s2, s7, s8, s10, s51, s52, s53⟩, hM1, hD1, hG1⟩
  have HM1 := hid hM1
  have HD1 := hid hD1
  have HG1 := hid hG1
  clear hM1 hD1 hG1
  rw [fr128]
  simp only [s2, s7, s8, s10, s51, s52, s53]
  clear s2 s7 s8 s10 s51 s52 s53
  by_cases hlt : j < n
  · have hr := hid (round_ok B X P bb g o c n cap gap j la l L bs1 first W HC.out HM1.out hlt HD1.out)
    have d1 : decide ((j : Int) < (n : Int)) = true := decide_eq_true (by omega)
    have d2 : decide (j < n) = true := decide_eq_true hlt
    go_upto_block 4 with (fail)
    refine wp_block ?_
    refine Tri.use hr.out rfl ⟨⟨rfl, rfl, rfl, rfl, rfl, rfl, rfl⟩, rfl⟩ ?_
    rintro y2 W2 ⟨first2, bs2, ⟨s2, s7, s8, s10, s51, s52, s53⟩, hM2, hD2, hG2⟩
    have HM2 := hid hM2
    have HD2 := hid hD2
    have HG2 := hid (grownBy_trans HG1.out hG2)
    clear hM2 hD2 hG2
    rw [fr128]
    simp only [s2, s7, s8, s10, s51, s52, s53]
    clear s2 s7 s8 s10 s51 s52 s53
    go_wp2_with fail
    refine ⟨rfl, rfl, ⟨j + 1, first2, bs2, by omega, ⟨rfl, rfl, rfl, rfl, rfl, rfl, ?_⟩, HM2.out, HD2.out, HG2.out⟩, ?_⟩
    · show Value.int .i64 _ = Value.int .i64 _
      go_num
    · show n - (intOf (Value.int .i64 _)).toNat < _
      simp [intOf]
      omega
  · obtain rfl : j = n := by omega
    have d1 : decide ((j : Int) < (j : Int)) = false := decide_eq_false (by omega)
    go_wp2_with fail
    exact q_fr (N := 128) HQ.out rfl ⟨first, bs1, ⟨rfl, rfl, rfl, rfl, rfl, rfl, rfl⟩, HM1.out, HD1.out, HG1.out⟩
end Go.Proofs.Ytfbchmihkndfaaa
/- Passes: Choose: what is told. -/
namespace Go.Proofs.Ytfbchmihkndfaaa
set_option linter.unusedVariables false
open Go.RowKit

theorem Try.info3 : (Try.prog.info? 3).map (fun i => (i.zero, i.size, i.bytes)) = some (some (.int .i64 0), 1, 8) := by kernel_rfl
theorem dec_len : ∀ (p : List Nat) (n : Nat), p.Pairwise (fun a b => b < a) → (∀ q ∈ p, q < n) → p.length ≤ n
  | [], _, _, _ => Nat.zero_le _
  | x :: t, n, h, h2 => by
    obtain ⟨h3, h4⟩ := List.pairwise_cons.1 h
    have h5 := dec_len t x h4 h3
    have h6 := h2 x (List.mem_cons_self ..)
    rw [List.length_cons]
    omega
theorem chn_snoc (l : List Ps) (gap : Nat) : ∀ (r : List Nat) (a b : Nat), Chn l gap (r ++ [a]) → fitsB l gap a b = true → Chn l gap (r ++ [a] ++ [b])
  | [], a, b, _, hf => ⟨hf, trivial⟩
  | [x], a, b, h, hf => ⟨h.1, hf, trivial⟩
  | x :: y :: r, a, b, h, hf => ⟨h.1, chn_snoc l gap (y :: r) a b h.2 hf⟩
theorem chn_init (l : List Ps) (gap : Nat) : ∀ (r : List Nat) (a : Nat), Chn l gap (r ++ [a]) → Chn l gap r
  | [], _, _ => trivial
  | [_], _, _ => trivial
  | x :: y :: r, a, h => ⟨h.1, chn_init l gap (y :: r) a h.2⟩
/-- what is told so far, and what is next -/
structure OutP (l : List Ps) (gap n : Nat) (L : List Nat) (bs : List Best) (tot : Nat) (out : List Nat) (i : Int) : Prop where
  ex : ∃ ps : List Nat, out = ps.map (nth L) ∧ ps.Pairwise (fun a b => b < a) ∧ (∀ q ∈ ps, q < n) ∧ ((i = -1 ∧ Chn l gap out) ∨ ∃ a, a < n ∧ i = (nth L a : Nat) ∧ (∀ q ∈ ps, a < q) ∧ Chn l gap (out ++ [nth L a]))
  sum : sumW l out + (ofB bs i).w = tot
theorem OutP.start {l : List Ps} {gap n : Nat} {L : List Nat} {bs : List Best} {first : Int} (h : DP l gap n L n bs first) : OutP l gap n L bs (ofB bs first).w [] first :=
  ⟨⟨[], rfl, List.Pairwise.nil, (fun q hq => by cases hq), h.fst.imp (fun h => ⟨h, trivial⟩) (fun ⟨a, h1, h2⟩ => ⟨a, h1, h2, (fun q hq => by cases hq), trivial⟩)⟩, Nat.zero_add _⟩
theorem OutP.next {l : List Ps} {gap n : Nat} {L : List Nat} {bs : List Best} {first : Int} {tot : Nat} {out : List Nat} {i : Int} (h : OutP l gap n L bs tot out i) (hC : CO n gap l L) (hD : DP l gap n L n bs first) (hi : 0 ≤ i) :
    ∃ k : Nat, i = (k : Int) ∧ k < n ∧ out.length + 1 ≤ n ∧ OutP l gap n L bs tot (out ++ [k]) (bAt bs k).nx := by
  obtain ⟨⟨ps, rfl, h1, h2, h3⟩, hs⟩ := h
  rcases h3 with ⟨h4, _⟩ | ⟨a, ha, rfl, hq, hch⟩
  · omega
  · have hdec : (ps ++ [a]).Pairwise (fun a b => b < a) := by
      rw [List.pairwise_append]
      exact ⟨h1, List.pairwise_singleton _ _, fun x hx y hy => by rw [List.mem_singleton] at hy; subst hy; exact hq x hx⟩
    have hlt : ∀ q ∈ ps ++ [a], q < n := fun q hq2 => by
      rcases List.mem_append.1 hq2 with h5 | h5
      · exact h2 q h5
      · rw [List.mem_singleton] at h5; omega
    have hlen := dec_len _ _ hdec hlt
    refine ⟨nth L a, rfl, hC.lt a ha, by simpa using hlen, ⟨ps ++ [a], by simp, hdec, hlt, ?_⟩, ?_⟩
    · rcases (hD.made a ha).nx with ⟨k1, _⟩ | ⟨a', k1, k2, k3, _⟩
      · exact .inl ⟨k1, hch⟩
      · refine .inr ⟨a', by omega, k2, fun q hq2 => ?_, chn_snoc l gap _ _ _ hch k3⟩
        rcases List.mem_append.1 hq2 with h5 | h5
        · have := hq q h5; omega
        · rw [List.mem_singleton] at h5; omega
    · rw [ofB_nat] at hs
      rw [sumW_append]
      have e : sumW l [nth L a] = wOf l (nth L a) := Nat.add_zero _
      rw [e]
      rcases (hD.made a ha).nx with ⟨k1, k2⟩ | ⟨a', k1, k2, k3, k4⟩
      · rw [k1]
        have : (ofB bs (-1)).w = 0 := rfl
        omega
      · rw [k2, ofB_nat]
        omega
/-- what Choose answers -/
structure ChoP (l : List Ps) (gap n : Nat) (out : List Nat) (tot : Nat) : Prop where
  lt : ∀ x ∈ out, x < n
  nd : out.Nodup
  ch : Chn l gap out
  sum : sumW l out = tot
  opt : ∀ c : List Nat, (∀ x ∈ c, x < n) → Chn l gap c → sumW l c ≤ tot
  len : out.length ≤ n
  big : tot ≤ 10000
theorem OutP.done {l : List Ps} {gap n : Nat} {L : List Nat} {bs : List Best} {first : Int} {out : List Nat} {i : Int} (h : OutP l gap n L bs (ofB bs first).w out i) (hC : CO n gap l L) (hD : DP l gap n L n bs first) (hi : i < 0) : ChoP l gap n out (ofB bs first).w := by
  have hopt := chain_le hC.g hC.len hC.perm hC.desc hD
  obtain ⟨⟨ps, rfl, h1, h2, h3⟩, hs⟩ := h
  rcases h3 with ⟨rfl, h4⟩ | ⟨a, ha, rfl, _⟩
  · have : (ofB bs (-1)).w = 0 := rfl
    refine ⟨fun x hx => ?_, ?_, h4, by omega, hopt, by rw [List.length_map]; exact dec_len _ _ h1 h2, ?_⟩
    · obtain ⟨q, hq, rfl⟩ := List.mem_map.1 hx
      exact hC.lt q (h2 q hq)
    · refine List.pairwise_map.2 ?_
      refine h1.imp_of_mem fun ha hb hab e => ?_
      have := nth_inj hC.nd (by rw [hC.ln]; exact h2 _ ha) (by rw [hC.ln]; exact h2 _ hb) e
      omega
    · have hn9 := hC.n9
      rcases hD.fst with h5 | ⟨a, ha, h5⟩
      · rw [h5, this]; omega
      · rw [h5, ofB_nat]
        have := (hD.made a ha).wb
        have : 1000 * (a + 1) ≤ 1000 * 9 := Nat.mul_le_mul_left _ (by omega)
        omega
  · omega
def lenV : Value → Nat
  | .slice _ k _ => k
  | _ => 0
def TellI (W0 : World) (B P bb n cap gap : Nat) (la : Option Addr) (l : List Ps) (L : List Nat) (bs : List Best) (first : Int) (y : Nat → Value) (W : World) : Prop :=
  ∃ out i ov, y 7 = .pointer (some ⟨P, 0, none⟩) ∧ y 10 = .int .i64 first ∧ y 17 = ov ∧ lenV ov = out.length ∧ y 18 = .int .i64 i ∧ OutP l gap n L bs (ofB bs first).w out i ∧ PlanM W P bb n cap gap la l bs ∧ OwnAt W B 3 ov out.length (vi out) ∧ Below B W0 W
set_option maxRecDepth 1000000 in
set_option maxHeartbeats 2000000 in
theorem tell_ok (B P bb n cap gap : Nat) (la : Option Addr) (l : List Ps) (L : List Nat) (bs : List Best) (first : Int) (W0 : World) (hC : CO n gap l L) (hM : PlanM W0 P bb n cap gap la l bs) (hD : DP l gap n L n bs first) (hB : B = W0.heap.size) :
    Tri Try.prog 128 (pieceOf Try.f8 [1, 1, 1, 1, 1, 1, 1, 1, 1, 0, 1]) (fun y w => y 7 = .pointer (some ⟨P, 0, none⟩) ∧ y 10 = .int .i64 first ∧ y 17 = .slice none 0 0 ∧ y 18 = .int .i64 first ∧ w = W0)
      (fun _ _ y w => ∃ out ov, y 7 = .pointer (some ⟨P, 0, none⟩) ∧ y 10 = .int .i64 first ∧ y 17 = ov ∧ ChoP l gap n out (ofB bs first).w ∧ PlanM w P bb n cap gap la l bs ∧ OwnAt w B 3 ov out.length (vi out) ∧ Below B W0 w) := by
  rintro Q y w ⟨s7, s10, s17, s18, rfl⟩ hQ
  have HQ := hid hQ
  have hn9 := hC.n9
  have HC := hid hC
  have HM := hid hM
  have HD := hid hD
  have HB := hid hB
  obtain ⟨i3, hi3, hz3, hs3, hb3⟩ := info_parts Try.info3
  clear hQ hC hM hD hB
  conv => arg 2; whnf
  rw [fr128]
  simp only [s7, s10, s17, s18]
  clear s7 s10 s17 s18
  refine wp_block ?_
  refine wp_loop_fr 128 (TellI w B P bb n cap gap la l L bs first) (fun y' _ => n - lenV (y' 17)) ⟨rfl, rfl, [], first, _, rfl, rfl, rfl, rfl, rfl, OutP.start HD.out, HM.out, OwnAt.nil _ _ _, Below.refl _ _⟩ ?_
  rintro z W ⟨out, i, ov, s7, s10, s17, hov, s18, hO, hM1, hown, hB1⟩
  rw [fr128]
  by_cases h0 : 0 ≤ i
  · obtain ⟨k, rfl, hk, hlen, hO2⟩ := hO.next HC.out HD.out h0
    obtain ⟨oa, oc, hoe, hole, homx⟩ := hown.form
    subst hoe
    obtain ⟨_, _, c2⟩ := hM1.at_ k hk
    have p2 : W.cell? ⟨P, 2, none⟩ = some (.slice (some ⟨bb, 0, none⟩) n n) := by rw [cell_of_row _ _ _ _ _ _ hM1.box]; rfl
    have b1 := below_alloc W (.cells #[.int .i64 (k : Int)] 3)
    have r1 := heap_alloc_new W (.cells #[.int .i64 (k : Int)] 3)
    have o1 := hown.below b1
    have hBW : B ≤ W.heap.size := by have := HB.out; have := hB1.size; omega
    have HM2 := hid (hM1.below b1)
    have HB2 := hid (hB1.trans (b1.mono hBW))
    have HO2 := hid hO2
    have d1 : decide ((0 : Int) ≤ (k : Int)) = true := decide_eq_true (by omega)
    have hbl := row_lt hM1.bst
    have hPl := row_lt hM1.box
    have hbs := hid b1.size
    simp only [s7, s10, s17, s18]
    clear s7 s10 s17 s18 hO hO2 hown b1 hM1 hB1 h0
    go_wp2_with (at_builtin; refine hold ?_)
    unfold Hid
    refine wpList_append_at rfl _ _ 23 rfl B 3 i3 (.int .i64 0) 8 Try.underlying23 hi3 hz3 hs3 hb3 rfl (.slice oa out.length oc) out.length (vi out) rfl o1 ⟨W.heap.size, 0, none⟩ (.int .i64 (k : Int)) rfl (by rw [cell_of_row _ _ _ _ _ _ r1]; rfl) rfl (by unfold maxLen; omega) (by omega) (by have := hbs.out; omega) ?_
    intro v12 W12 o12 g12 fr12
    have hx : vi out ++ [.int .i64 (k : Int)] = vi (out ++ [k]) := by rw [vi_append]; rfl
    rw [hx] at o12
    obtain ⟨oa2, oc2, hv12, hle2, _⟩ := o12.form
    subst hv12
    have hne : ∀ (b T : Nat) (cs : Array Value), 3 ≠ T → (W.alloc (.cells #[.int .i64 (k : Int)] 3)).heap[b]? = some (.cells cs T) → W12.heap[b]? = some (.cells cs T) := fun b T cs hT hr => (g12.block b (row_lt hr) (fun e => by
      rcases o1.ne hr hT with h4 | h4
      · rw [h4] at e; cases e
      · exact h4 e.symm)).trans hr
    have hM3 : PlanM W12 P bb n cap gap la l bs := ⟨hne _ 55 _ (by decide) HM2.out.box, hne _ 59 _ (by decide) HM2.out.bst, HM2.out.bl, HM2.out.ps.kept g12 (fun b cs hr e => by
      rcases o1.ne hr (by decide) with h4 | h4
      · rw [h4] at e; cases e
      · exact h4 e)⟩
    have HM3 := hid hM3
    have HB3 := hid (HB2.out.grown g12 (by have := hbs.out; omega) (fun j hj => (o1.lt j hj).1))
    have O12 := hid o12
    obtain ⟨_, _, c2⟩ := hM3.at_ k hk
    have p2 : W12.cell? ⟨P, 2, none⟩ = some (.slice (some ⟨bb, 0, none⟩) n n) := by rw [cell_of_row _ _ _ _ _ _ hM3.box]; rfl
    clear hM3 hne o12 g12 fr12 hx o1 r1
    generalize (bAt bs k).nx = nx at *
    go_wp2_with fail
    refine ⟨rfl, rfl, ⟨out ++ [k], nx, _, rfl, rfl, rfl, ?_, rfl, HO2.out, HM3.out, ?_, HB3.out⟩, ?_⟩
    · show out.length + 1 = _
      simp
    · rw [List.length_append]; exact O12.out
    · show n - (out.length + 1) < n - out.length
      omega
  · have h1 : i < 0 := by omega
    have d1 : decide (0 ≤ i) = false := decide_eq_false h0
    have HF := hid (hO.done HC.out HD.out h1)
    have HM1 := hid hM1
    have HO := hid hown
    have HB1 := hid hB1
    simp only [s7, s10, s17, s18]
    clear s7 s10 s17 s18 hO hown hM1 hB1 h0 h1
    go_wp2_with fail
    exact q_fr (N := 128) HQ.out rfl ⟨out, ov, rfl, rfl, rfl, HF.out, HM1.out, HO.out, HB1.out⟩
end Go.Proofs.Ytfbchmihkndfaaa
