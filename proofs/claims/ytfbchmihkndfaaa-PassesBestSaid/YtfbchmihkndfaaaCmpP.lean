/- Passes: fits, compare. -/
import Derived.Test.YtfbchmihkndfaaaPlanP
import Derived.Test.YtfbchmihkndfaaaRegionT
namespace Go.Proofs.Ytfbchmihkndfaaa
set_option linter.unusedVariables false
open Go.RowKit

/-- from when on another pass may follow -/
def ends (l : List Ps) (gap a b : Nat) : Nat := (pAt l a).tt + (if (pAt l a).st ≠ (pAt l b).st then gap else 0)
def fitsB (l : List Ps) (gap a b : Nat) : Bool := decide (ends l gap a b ≤ (pAt l b).fr)
set_option maxRecDepth 100000 in
set_option maxHeartbeats 1000000 in
theorem fits_ok (P bb n cap gap a b : Nat) (la : Option Addr) (l : List Ps) (bs : List Best) (hg : GoodPs l) (hgap : gap ≤ 1000) (ha : a < n) (hb : b < n) (hn : n ≤ 9) (w : World) (h : PlanM w P bb n cap gap la l bs) :
    Calls Try.prog 17 #[.pointer (some ⟨P, 0, none⟩), .int .i64 (a : Int), .int .i64 (b : Int)] w fun e w' => e = .returned (.bool (fitsB l gap a b)) ∧ Below w.heap.size w w' := by
  obtain ⟨blk, rfl, hbl, a0, a1, a2, a3⟩ := h.ps.at_ a ha
  obtain ⟨blk2, he, _, b0, b1, b2, b3⟩ := h.ps.at_ b hb
  cases he
  have ga := hg a (by rw [h.ps.len]; exact ha)
  have gb := hg b (by rw [h.ps.len]; exact hb)
  have ga1 := ga.t
  have gb1 := gb.t
  have gb2 := gb.f
  have p0 : w.cell? ⟨P, 0, none⟩ = some (.slice (some ⟨blk, 0, none⟩) n cap) := by rw [cell_of_row _ _ _ _ _ _ h.box]; rfl
  have p1 : w.cell? ⟨P, 1, none⟩ = some (.int .i64 (gap : Int)) := by rw [cell_of_row _ _ _ _ _ _ h.box]; rfl
  have hPl := row_lt h.box
  have hd : ∀ w', Below w.heap.size w.drew w' → Below w.heap.size w w' := fun w' h => (Below.refl _ w).drew.trans h
  have e0 : ∀ w', Below w.heap.size w.drew w' → w'.cell? ⟨P, 0, none⟩ = some (.slice (some ⟨blk, 0, none⟩) n cap) := fun w' k => ((hd w' k).cell (p := ⟨P, 0, none⟩) hPl).trans p0
  have e1 : ∀ w', Below w.heap.size w.drew w' → w'.cell? ⟨blk, a * 4, none⟩ = some (.int .i64 ((pAt l a).st : Int)) := fun w' k => ((hd w' k).cell (p := ⟨blk, a * 4, none⟩) hbl).trans a0
  have e2 : ∀ w', Below w.heap.size w.drew w' → w'.cell? ⟨blk, b * 4, none⟩ = some (.int .i64 ((pAt l b).st : Int)) := fun w' k => ((hd w' k).cell (p := ⟨blk, b * 4, none⟩) hbl).trans b0
  have hdr := hid ((Below.refl w.heap.size w).drew)
  have q0 := ((Below.refl w.heap.size w).drew.cell (p := ⟨P, 0, none⟩) hPl).trans p0
  have q1 := ((Below.refl w.heap.size w).drew.cell (p := ⟨P, 1, none⟩) hPl).trans p1
  have q3 := ((Below.refl w.heap.size w).drew.cell (p := ⟨blk, b * 4 + 1, none⟩) hbl).trans b1
  have Q0 := hid q0
  have Q1 := hid q1
  have Q3 := hid q3
  have hfit : Hid (fitsB l gap a b = decide ((pAt l a).tt + (if (pAt l a).st ≠ (pAt l b).st then gap else 0) ≤ (pAt l b).fr)) := rfl
  clear hd h hg ga gb q0 q1 q3 a0 a1 a3 b0 b1 b2 b3 p1
  generalize fitsB l gap a b = fb at *
  generalize (pAt l a).st = sa at *
  generalize (pAt l b).st = sb at *
  generalize (pAt l a).tt = ta at *
  generalize (pAt l b).fr = fr_b at *
  generalize (pAt l b).tt = tb at *
  go_enter Try.func17, Try.ntmps17
  go_wp2_with fail
  refine wp_region_can_all [] [0, 1, 2, 3, 4, 5, 6, 7, 8, 9, 10, 11, 12, 13, 14, 15, 16] (Below w.heap.size) (fun _ => Below.refl _ _) (fun _ _ _ h k => h.trans k) (by kernel_rfl) (by kernel_rfl) ?_
  simp only [List.map_cons, List.map_nil, List.contains_nil, List.getD_cons_zero, List.getD_cons_succ]
  clear p0 a2
  generalize w.drew = U at *
  by_cases hs : sa = sb
  · subst hs
    rw [if_neg (fun h => h rfl), Nat.add_zero] at hfit
    repeat (refine wpL_do rfl (fun w' hw' => (by go_simp; rfl)) ?_; simp only [Act.put, List.setIfInBounds_toArray, List.set_cons_succ, List.set_cons_zero])
    refine wpL_nil ?_
    clear e0 e1 e2
    have c0 := Q0.out
    have c3 := Q3.out
    by_cases hf : ta ≤ fr_b
    · have d1 : decide ((ta : Int) ≤ (fr_b : Int)) = true := decide_eq_true (by omega)
      have d2 : decide (ta ≤ fr_b) = true := decide_eq_true hf
      rw [d2] at hfit
      clear hf
      go_wp2_with fail
      go_ret
      exact ⟨by rw [hfit.out]; rfl, hdr.out⟩
    · have d1 : decide ((ta : Int) ≤ (fr_b : Int)) = false := decide_eq_false (by omega)
      have d2 : decide (ta ≤ fr_b) = false := decide_eq_false hf
      rw [d2] at hfit
      clear hf
      go_wp2_with fail
      go_ret
      exact ⟨by rw [hfit.out]; rfl, hdr.out⟩
  · rw [if_pos hs] at hfit
    have dn : ((sa : Int) != (sb : Int)) = true := by rw [bne_iff_ne]; omega
    repeat (refine wpL_do rfl (fun w' hw' => (by go_simp; rfl)) ?_; simp only [Act.put, List.setIfInBounds_toArray, List.set_cons_succ, List.set_cons_zero])
    refine wpL_nil ?_
    clear e0 e1 e2 hs
    have c0 := Q0.out
    have c1 := Q1.out
    have c3 := Q3.out
    obtain ⟨t2, ht2⟩ : ∃ t2, t2 = ta + gap := ⟨_, rfl⟩
    have es : (ta : Int) + (gap : Int) = (t2 : Int) := by omega
    rw [← ht2] at hfit
    clear ht2
    by_cases hf : t2 ≤ fr_b
    · have d1 : decide ((t2 : Int) ≤ (fr_b : Int)) = true := decide_eq_true (by omega)
      have d2 : decide (t2 ≤ fr_b) = true := decide_eq_true hf
      rw [d2] at hfit
      clear hf
      go_wp2_with fail
      go_ret
      exact ⟨by rw [hfit.out]; rfl, hdr.out⟩
    · have d1 : decide ((t2 : Int) ≤ (fr_b : Int)) = false := decide_eq_false (by omega)
      have d2 : decide (t2 ≤ fr_b) = false := decide_eq_false hf
      rw [d2] at hfit
      clear hf
      go_wp2_with fail
      go_ret
      exact ⟨by rw [hfit.out]; rfl, hdr.out⟩
/-- which of two beginnings is ahead -/
def cmpR (x y : Best) (a b : Int) : Int := if orI (cmpI (y.w : Int) (x.w : Int)) (cmpI (x.c : Int) (y.c : Int)) ≠ 0 then orI (cmpI (y.w : Int) (x.w : Int)) (cmpI (x.c : Int) (y.c : Int)) else cmpI a b
theorem cmpR_lt (x y : Best) (a b : Int) (h : cmpR x y a b < 0) : y.w ≤ x.w := by
  unfold cmpR orI cmpI at h
  by_cases h1 : (y.w : Int) < (x.w : Int)
  · omega
  · by_cases h2 : (x.w : Int) < (y.w : Int)
    · rw [if_neg h1, if_pos h2] at h
      simp at h
    · omega
theorem cmpR_ge (x y : Best) (a b : Int) (h : ¬ cmpR x y a b < 0) : x.w ≤ y.w := by
  unfold cmpR orI cmpI at h
  by_cases h1 : (y.w : Int) < (x.w : Int)
  · rw [if_pos h1] at h
    simp at h
  · omega
set_option maxRecDepth 100000 in
set_option maxHeartbeats 1000000 in
theorem compare_ok (P bb n cap gap : Nat) (la : Option Addr) (l : List Ps) (bs : List Best) (a b : Int) (ha : a < n) (hb : b < n) (hn : n ≤ 9) (w : World) (h : PlanM w P bb n cap gap la l bs) :
    Calls Try.prog 18 #[.pointer (some ⟨P, 0, none⟩), .int .i64 a, .int .i64 b] w fun e w' => e = .returned (.int .i64 (cmpR (ofB bs a) (ofB bs b) a b)) ∧ Below w.heap.size w w' := by
  have hx := of_ok P bb n cap gap la l bs a ha hn w h
  have hy := fun W (hW : Below w.heap.size w W) => of_ok P bb n cap gap la l bs b hb hn W (h.below hW)
  have Hy := hid hy
  have hc : Hid (cmpR (ofB bs a) (ofB bs b) a b = if orI (cmpI ((ofB bs b).w : Int) ((ofB bs a).w : Int)) (cmpI ((ofB bs a).c : Int) ((ofB bs b).c : Int)) ≠ 0 then orI (cmpI ((ofB bs b).w : Int) ((ofB bs a).w : Int)) (cmpI ((ofB bs a).c : Int) ((ofB bs b).c : Int)) else cmpI a b) := rfl
  generalize cmpR (ofB bs a) (ofB bs b) a b = cr at *
  generalize ofB bs a = x at *
  generalize ofB bs b = y at *
  obtain ⟨xw, xc, xn⟩ := x
  obtain ⟨yw, yc, yn⟩ := y
  dsimp only at *
  clear hy h
  go_enter Try.func18, Try.ntmps18
  go_wp2_with fail
  refine hx.mono ?_
  rintro e W1 ⟨rfl, b1⟩
  have hy := Hy.out W1 b1
  have B1 := hid b1
  clear b1 hx
  go_wp2_with fail
  refine hy.mono ?_
  rintro e W2 ⟨rfl, b2⟩
  have B2 := hid (B1.out.trans (b2.mono B1.out.size))
  clear b2 hy
  go_upto_region 2 with (fail)
  have b3 := below_alloc W2 (.cells #[.int .i64 (xw : Int), .int .i64 (xc : Int), .int .i64 xn] 59)
  have b4 := below_alloc (W2.alloc (.cells #[.int .i64 (xw : Int), .int .i64 (xc : Int), .int .i64 xn] 59)) (.cells #[.int .i64 (yw : Int), .int .i64 (yc : Int), .int .i64 yn] 59)
  have r3 := row_below (heap_alloc_new W2 (.cells #[.int .i64 (xw : Int), .int .i64 (xc : Int), .int .i64 xn] 59)) b4
  have r4 := heap_alloc_new (W2.alloc (.cells #[.int .i64 (xw : Int), .int .i64 (xc : Int), .int .i64 xn] 59)) (.cells #[.int .i64 (yw : Int), .int .i64 (yc : Int), .int .i64 yn] 59)
  simp only [World.size_alloc] at r4
  have B4 := hid (B2.out.trans ((b3.trans (b4.mono b3.size)).mono B2.out.size))
  obtain ⟨H, hH⟩ : ∃ H, H = W2.heap.size := ⟨_, rfl⟩
  rw [← hH] at r3 r4 ⊢
  have r3 := hid r3
  have r4 := hid r4
  clear b3 b4 hH
  generalize (W2.alloc (.cells #[.int .i64 (xw : Int), .int .i64 (xc : Int), .int .i64 xn] 59)).alloc (.cells #[.int .i64 (yw : Int), .int .i64 (yc : Int), .int .i64 yn] 59) = U at *
  have hd : ∀ w', Below U.heap.size U.drew w' → Below U.heap.size U w' := fun w' h => (Below.refl _ U).drew.trans h
  have e0 : ∀ w', Below U.heap.size U.drew w' → w'.cell? ⟨H, 0, none⟩ = some (.int .i64 (xw : Int)) := fun w' k => by rw [cell_of_row _ _ _ _ _ _ (row_below r3.out (hd w' k))]; rfl
  have e1 : ∀ w', Below U.heap.size U.drew w' → w'.cell? ⟨H, 1, none⟩ = some (.int .i64 (xc : Int)) := fun w' k => by rw [cell_of_row _ _ _ _ _ _ (row_below r3.out (hd w' k))]; rfl
  have e2 : ∀ w', Below U.heap.size U.drew w' → w'.cell? ⟨H + 1, 0, none⟩ = some (.int .i64 (yw : Int)) := fun w' k => by rw [cell_of_row _ _ _ _ _ _ (row_below r4.out (hd w' k))]; rfl
  have e3 : ∀ w', Below U.heap.size U.drew w' → w'.cell? ⟨H + 1, 1, none⟩ = some (.int .i64 (yc : Int)) := fun w' k => by rw [cell_of_row _ _ _ _ _ _ (row_below r4.out (hd w' k))]; rfl
  refine wp_region_can_all [4, 9, 10, 11] [0, 1, 2, 3, 5, 6, 7, 8, 4, 9, 10, 11, 12] (Below U.heap.size) (fun _ => Below.refl _ _) (fun _ _ _ h k => h.trans k) (by kernel_rfl) (by kernel_rfl) ?_
  simp only [List.map_cons, List.map_nil, List.contains_cons, List.contains_nil, List.getD_cons_zero, List.getD_cons_succ, Nat.reduceBEq, Bool.or_false, Bool.or_true]
  have hdr := hid ((Below.refl U.heap.size U).drew)
  have hds : Hid (U.drew.heap.size = U.heap.size) := rfl
  clear hd
  generalize U.drew = Z at *
  repeat (refine wpL_do rfl (fun w' hw' => (by go_simp; rfl)) ?_; simp only [Act.put, List.setIfInBounds_toArray, List.set_cons_succ, List.set_cons_zero])
  clear e0 e1 e2 e3
  refine wpL_call rfl (fun K hK => ?_)
  go_wp2_with fail
  refine (cmp_ok _ _ _).mono ?_
  rintro e w' ⟨rfl, hw'⟩
  rw [hw']
  clear hw' w'
  refine hK _ _ (Below.refl _ _) ?_
  clear hK K
  try simp only [Act.put, List.setIfInBounds_toArray, List.set_cons_succ, List.set_cons_zero]
  refine wpL_call rfl (fun K hK => ?_)
  go_wp2_with fail
  refine (cmp_ok _ _ _).mono ?_
  rintro e w' ⟨rfl, hw'⟩
  rw [hw']
  clear hw' w'
  refine hK _ _ (Below.refl _ _) ?_
  clear hK K
  try simp only [Act.put, List.setIfInBounds_toArray, List.set_cons_succ, List.set_cons_zero]
  generalize cmpI (yw : Int) (xw : Int) = c1 at *
  generalize cmpI (xc : Int) (yc : Int) = c2 at *
  have b5 := below_alloc Z (.cells #[.int .i64 c1, .int .i64 c2] 3)
  have r5 := heap_alloc_new Z (.cells #[.int .i64 c1, .int .i64 c2] 3)
  have hor := or_ok c1 c2 _ _ r5
  have B5 := hid b5
  refine wpL_call rfl (fun K hK => ?_)
  go_wp2_with fail
  refine hK _ _ (B5.out.mono (Nat.le_of_eq hds.out.symm)) ?_
  clear hK K r5 b5
  try simp only [Act.put, List.setIfInBounds_toArray, List.set_cons_succ, List.set_cons_zero]
  refine wpL_call rfl (fun K hK => ?_)
  go_wp2_with fail
  refine hor.mono ?_
  rintro e w' ⟨rfl, hw'⟩
  rw [hw']
  clear hw' w'
  refine hK _ _ (Below.refl _ _) ?_
  clear hK K hor
  try simp only [Act.put, List.setIfInBounds_toArray, List.set_cons_succ, List.set_cons_zero]
  refine wpL_do rfl (fun w' hw' => (by go_simp; rfl)) ?_
  simp only [Act.put, List.setIfInBounds_toArray, List.set_cons_succ, List.set_cons_zero]
  refine wpL_nil ?_
  have hend := hid (B4.out.trans ((hdr.out.trans (B5.out.mono (by rw [hds.out]; exact Nat.le_refl _))).mono B4.out.size))
  clear B5 hdr
  generalize Z.alloc (.cells #[.int .i64 c1, .int .i64 c2] 3) = Y at *
  generalize orI c1 c2 = oo at *
  by_cases h0 : oo = 0
  · subst h0
    rw [if_neg (fun h => h rfl)] at hc
    go_wp2_with ((go_at_call 36; refine (cmp_ok _ _ _).mono ?_; rintro e w' ⟨rfl, rfl⟩))
    go_ret
    exact ⟨by rw [hc.out]; rfl, hend.out⟩
  · rw [if_pos h0] at hc
    have d1 : (oo != 0) = true := by rw [bne_iff_ne]; exact h0
    clear h0
    go_wp2_with fail
    go_ret
    exact ⟨by rw [hc.out]; rfl, hend.out⟩
end Go.Proofs.Ytfbchmihkndfaaa
