/- Passes: Choose: one beginning. -/
import Derived.Test.YtfbchmihkndfaaaChoM
namespace Go.Proofs.Ytfbchmihkndfaaa
set_option linter.unusedVariables false
open Go.RowKit

theorem NX.bound {l : List Ps} {gap n : Nat} {L : List Nat} {j : Nat} {bs : List Best} {first nx : Int} {k : Nat} (h : DP l gap n L j bs first) (hx : NX l gap L bs k j j nx) : (ofB bs nx).w ≤ 1000 * j ∧ (ofB bs nx).c ≤ j := by
  rcases hx.fm with rfl | ⟨a, ha, rfl, _⟩
  · exact ⟨Nat.zero_le _, Nat.zero_le _⟩
  · rw [ofB_nat]
    have h1 := (h.made a ha).wb
    have h2 := (h.made a ha).cb
    omega
set_option maxRecDepth 1000000 in
set_option maxHeartbeats 2000000 in
theorem beg_ok (B X P bb g o c n cap gap j : Nat) (la : Option Addr) (l : List Ps) (L : List Nat) (bs : List Best) (first nx : Int) (R : Nat) (W0 : World) (hC : CO n gap l L) (hM : CM W0 B X P bb g o c n cap gap la l L bs) (hj : j < n) (hD : DP l gap n L j bs first) (hN : NX l gap L bs (nth L j) j j nx)
    (hR : W0.heap[R]? = some (.cells #[.int .i64 ((ofB bs nx).w : Int), .int .i64 ((ofB bs nx).c : Int), .int .i64 (ofB bs nx).nx] 59)) (hRb : R ≠ bb) :
    Tri Try.prog 128 (pieceOf Try.f8 [1, 1, 1, 1, 1, 1, 1, 0, 1, 0, 0, 1, 1, 0, 0, 1, 1, 1, 1, 0]) (fun y w => SC2 y X P g o c n j (nth L j) first nx ∧ y 16 = .pointer (some ⟨R, 0, none⟩) ∧ w = W0)
      (fun _ _ y w => SC2 y X P g o c n j (nth L j) first nx ∧ CM w B X P bb g o c n cap gap la l L (bs.set (nth L j) ⟨(ofB bs nx).w + wOf l (nth L j), (ofB bs nx).c + 1, nx⟩) ∧ Gb bb W0 w) := by
  rintro Q y w ⟨⟨⟨s2, s7, s8, s10, s51, s52, s53⟩, s11, s12, s13⟩, s16, rfl⟩ hQ
  have HQ := hid hQ
  have hn9 := hC.n9
  have hk := hC.lt j hj
  have hb := hN.bound hD
  obtain ⟨blk, hla, hbl, x0, x1, x2, x3⟩ := hM.p.ps.at_ (nth L j) hk
  have hgood := (hC.g (nth L j) (by rw [hC.len]; exact hk)).w
  have hps := hM.p.ps.mem (by omega)
  obtain ⟨blk2, hla2, _, ⟨pcs, hpr⟩, _⟩ := hps
  rw [hla] at hla2
  cases hla2
  have hne : ∀ b cs T, 59 ≠ T → w.heap[b]? = some (.cells cs T) → b ≠ bb := fun b cs T hT hc e => by
    subst e
    rw [hM.p.bst] at hc
    cases hc
    exact hT rfl
  have hbx := hne _ _ 55 (by decide) hM.p.box
  have hxx := hne _ _ 39 (by decide) hM.x
  have hpx := hne _ _ 41 (by decide) hpr
  have hdg : ∀ w', Gb bb w.drew w' → Gb bb w w' := fun w' h => grownBy_trans (Gb.below (Below.refl _ w).drew) h
  have e0 : ∀ w', Gb bb w.drew w' → w'.cell? ⟨P, 2, none⟩ = some (.slice (some ⟨bb, 0, none⟩) n n) := fun w' h => by rw [cell_of_row _ _ _ _ _ _ (row_grown hM.p.box (hdg w' h) hbx)]; rfl
  have e1 : ∀ w', Gb bb w.drew w' → w'.cell? ⟨R, 0, none⟩ = some (.int .i64 ((ofB bs nx).w : Int)) := fun w' h => by rw [cell_of_row _ _ _ _ _ _ (row_grown hR (hdg w' h) hRb)]; rfl
  have e2 : ∀ w', Gb bb w.drew w' → w'.cell? ⟨R, 1, none⟩ = some (.int .i64 ((ofB bs nx).c : Int)) := fun w' h => by rw [cell_of_row _ _ _ _ _ _ (row_grown hR (hdg w' h) hRb)]; rfl
  have e3 : ∀ w', Gb bb w.drew w' → w'.cell? ⟨X, 0, none⟩ = some (.slice la n cap) := fun w' h => by rw [cell_of_row _ _ _ _ _ _ (row_grown hM.x (hdg w' h) hxx)]; rfl
  have e4 : ∀ w', Gb bb w.drew w' → w'.cell? ⟨blk, nth L j * 4 + 3, none⟩ = some (.int .i64 ((pAt l (nth L j)).wo : Int)) := fun w' h => by
    have := (hdg w' h).block blk hbl (fun e => hpx (by cases e; rfl))
    unfold World.cell? at x3 ⊢
    simp only at x3 ⊢
    rw [this]
    exact x3
  have hcd : CM w.drew B X P bb g o c n cap gap la l L bs := hM.below (Below.refl _ w).drew
  obtain ⟨hps, hpg⟩ := hcd.p.set (nth L j) hk ⟨(ofB bs nx).w + wOf l (nth L j), (ofB bs nx).c + 1, nx⟩
  have hend : Hid (CM (((w.drew.setCell ⟨bb, nth L j * 3, none⟩ (.int .i64 (((ofB bs nx).w + wOf l (nth L j) : Nat) : Int))).setCell ⟨bb, nth L j * 3 + 1, none⟩ (.int .i64 (((ofB bs nx).c + 1 : Nat) : Int))).setCell ⟨bb, nth L j * 3 + 2, none⟩ (.int .i64 nx)) B X P bb g o c n cap gap la l L (bs.set (nth L j) ⟨(ofB bs nx).w + wOf l (nth L j), (ofB bs nx).c + 1, nx⟩) ∧
      Gb bb w.drew (((w.drew.setCell ⟨bb, nth L j * 3, none⟩ (.int .i64 (((ofB bs nx).w + wOf l (nth L j) : Nat) : Int))).setCell ⟨bb, nth L j * 3 + 1, none⟩ (.int .i64 (((ofB bs nx).c + 1 : Nat) : Int))).setCell ⟨bb, nth L j * 3 + 2, none⟩ (.int .i64 nx))) :=
    ⟨⟨row_grown hcd.x hpg hxx, hps, hcd.o.kept hpg (hcd.o.ne hcd.p.bst (by decide))⟩, hpg⟩
  obtain ⟨o0, o1, o2⟩ := hcd.p.at_ (nth L j) hk
  have fz := frozen_row hcd.p.bst
  have hgd : Hid (Gb bb w w.drew) := Gb.below (Below.refl _ w).drew
  have hwo : wOf l (nth L j) = (pAt l (nth L j)).wo := rfl
  rw [hwo] at hend HQ
  clear hQ hM hC hN hD hR hcd hps hpg hdg x0 x1 x2 x3 hpr hne hwo
  generalize bs.set (nth L j) ⟨(ofB bs nx).w + (pAt l (nth L j)).wo, (ofB bs nx).c + 1, nx⟩ = bs2 at *
  generalize (pAt l (nth L j)).wo = pw at *
  generalize (ofB bs nx).w = rw_ at *
  generalize (ofB bs nx).c = rc_ at *
  generalize nth L j = k at *
  generalize bAt bs k = ob at *
  have a1 : (rw_ : Int) + (pw : Int) = ((rw_ + pw : Nat) : Int) := by omega
  have a2 : (rc_ : Int) + 1 = ((rc_ + 1 : Nat) : Int) := by omega
  have w1 : IntKind.i64.wrap ((rw_ + pw : Nat) : Int) = ((rw_ + pw : Nat) : Int) := IntWalk.i64_in _ (by omega)
  have w2 : IntKind.i64.wrap ((rc_ + 1 : Nat) : Int) = ((rc_ + 1 : Nat) : Int) := IntWalk.i64_in _ (by omega)
  generalize rw_ + pw = sw at *
  generalize rc_ + 1 = sc at *
  subst hla
  conv => arg 2; whnf
  rw [fr128]
  simp only [s2, s7, s8, s10, s51, s52, s53, s11, s12, s13, s16]
  clear s2 s7 s8 s10 s51 s52 s53 s11 s12 s13 s16
  refine wp_region_can_all [19] [0, 1, 2, 3, 4, 5, 6, 7, 8, 9, 10, 11, 12, 13, 14, 15, 16, 17, 18, 19] (Gb bb) (Gb.refl bb) (fun _ _ _ h k => grownBy_trans h k) (by kernel_rfl) (by kernel_rfl) ?_
  simp only [List.map_cons, List.map_nil, List.contains_cons, List.contains_nil, List.getD_cons_zero, List.getD_cons_succ, Nat.reduceBEq, Bool.or_false]
  generalize w.drew = U at *
  repeat (refine wpL_do rfl (fun w' hw' => (by go_simp; rfl)) ?_; simp only [Act.put, List.setIfInBounds_toArray, List.set_cons_succ, List.set_cons_zero])
  clear e0 e1 e2 e3 e4 a1 a2 w1 w2
  refine wpL_call rfl (fun K hK => ?_)
  go_wp2_with fail
  refine hK _ _ hend.out.2 ?_
  clear hK K o0 o1 o2 fz
  try simp only [Act.put, List.setIfInBounds_toArray, List.set_cons_succ, List.set_cons_zero]
  refine wpL_nil ?_
  exact q_fr (N := 128) HQ.out rfl ⟨⟨⟨rfl, rfl, rfl, rfl, rfl, rfl, rfl⟩, rfl, rfl, rfl⟩, hend.out.1, grownBy_trans hgd.out hend.out.2⟩
end Go.Proofs.Ytfbchmihkndfaaa
