/- CommandShuts: the walk of the law. -/
import Derived.Test.YtkngoomkmbkenaaWith
import Derived.Test.YtkngoomkmbkenaaDecode
import Derived.Test.YtkngoomkmbkenaaPick
import Derived.Test.YtkngoomkmbkenaaRegionP
namespace Go.Proofs.Ytkngoomkmbkenaa
set_option linter.unusedVariables false
open Go.RowKit

/-- a gate's row in block b -/
def Row (W : World) (b : Nat) (g : Gt) : Prop := W.heap[b]? = some (.cells g.cells 25)

theorem num_far (n h d : Nat) (hn : n < 256) (hh : 1 ≤ h) (hd1 : h ≤ d) (hd2 : d + h < 256) :
    numG ⟨9, n, h, false, false, false, 0⟩ (((n + d) % 256 : Nat) : Int) true = (⟨9, n, h, true, false, false, 0⟩, false, 15) := by
  have e : ((((n + d) % 256 : Nat) : Int) - (n : Int)) % 256 = (d : Int) := by omega
  unfold numG
  simp only [e]
  rw [if_neg (by simp), if_neg (by omega), if_neg (by omega), if_neg (by omega)]


theorem accept_shut (p : Bool) (cr nx hf ct : Int) (hg : Gt.ok ⟨cr, nx, hf, true, false, false, ct⟩) (sq : Int) (hs : 0 ≤ sq ∧ sq ≤ 255) (a : Option Addr) (n c : Nat) (hn : 1 ≤ n ∧ n ≤ 1017) (w : World) :
    Calls Try.prog 7 #[.agg (Gt.cells ⟨cr, nx, hf, true, false, false, ct⟩), .agg (ocells cr p false sq a n c), .bool true] w fun e w' => ∃ (er ct' : Int), Hid (er = if p then 0 else 15) ∧ Hid (ct' = if p then (ct + 1) % 4 else ct) ∧ e = .returned (.tuple #[.agg (Gt.cells ⟨cr, nx, hf, true, false, false, ct'⟩), .bool p, .int .i64 er]) ∧ Below w.heap.size w w' := by
  cases p with
  | true => exact (accept_by _ hg sq hs a n c hn true w).mono fun e w' ⟨h1, h2⟩ => ⟨_, _, rfl, rfl, h1, h2⟩
  | false => exact (accept_num _ hg sq hs a n c hn true w).mono fun e w' ⟨h1, h2⟩ => ⟨_, _, rfl, rfl, h1, h2⟩

set_option maxHeartbeats 4000000 in
set_option maxRecDepth 100000 in
theorem law_walk (half next far : Int) (la : Option Addr) (ln lc : Nat) (vs : Nat → Int) (w : World) (h0 : -9223372036854775808 ≤ half ∧ half ≤ 9223372036854775807) (h1 : -9223372036854775808 ≤ next ∧ next ≤ 9223372036854775807) (h2 : -9223372036854775808 ≤ far ∧ far ≤ 9223372036854775807)
    (hl : ln ≤ 17592186044416) (hmem : ∀ j, j < ln → -9223372036854775808 ≤ vs j ∧ vs j ≤ 9223372036854775807)
    (hrd : 0 < ln → ∃ b off, la = some ⟨b, off, none⟩ ∧ b < w.heap.size ∧ ∀ j, j < ln → w.cell? ⟨b, off + j, none⟩ = some (.int .i64 (vs j))) :
    Calls Try.prog 3 #[.int .i64 half, .int .i64 next, .int .i64 far, .slice la ln lc] w fun e w' => e = .returned (.bool true) ∧ Below w.heap.size w w' := by
  go_enter Try.func3, Try.ntmps3
  go_wp2_with fail
  refine (pick_any next 256 w h1.1 h1.2 (by decide) (by decide)).mono ?_
  rintro e w' ⟨n, rfl, hn, _, rfl⟩
  have hn : n < 256 := hn
  go_wp2_with fail
  refine (pick_any half 127 w h0.1 h0.2 (by decide) (by decide)).mono ?_
  rintro e w' ⟨h', rfl, hh, _, rfl⟩
  have hh : h' < 127 := hh
  obtain ⟨h, hhe⟩ : ∃ h, h = h' + 1 := ⟨_, rfl⟩
  have e1 : (1 : Int) + (h' : Int) = (h : Int) := by omega
  have hb : 1 ≤ h ∧ h ≤ 127 := by omega
  clear hhe
  go_wp2_with fail
  refine (guard_ok 9 h w (by decide) (by omega)).mono ?_
  rintro e V ⟨rfl, B⟩
  unfold Gt.cells
  go_wp2_with fail
  refine (pick_any far (256 - 2 * (h : Int)) _ h2.1 h2.2 (by omega) (by omega)).mono ?_
  rintro e w' ⟨r, rfl, hr, _, hw⟩
  subst hw
  have hr : r < 256 - 2 * h := by omega
  obtain ⟨d, hde⟩ : ∃ d, d = h + r := ⟨_, rfl⟩
  have hd : h ≤ d ∧ d + h < 256 := by omega
  have e2 : (h : Int) + (r : Int) = (d : Int) := by omega
  obtain ⟨sq, hsq⟩ : ∃ sq, sq = (n + d) % 256 := ⟨_, rfl⟩
  have e3 : ((n : Int) + (d : Int)) % 256 = (sq : Int) := by omega
  have e4 : ((n : Int) + (d : Int)).tmod 256 = (sq : Int) := by rw [Int.tmod_eq_emod_of_nonneg (by omega)]; exact e3
  have hsb : sq ≤ 255 := by omega
  have Hsq := hid hsq
  clear hde hsq hr
  have A := heap_alloc_new V (.cells (Gt.cells ⟨9, n, h, false, false, false, 0⟩) 25)
  have BN := below_alloc V (.cells (Gt.cells ⟨9, n, h, false, false, false, 0⟩) 25)
  have BW := B.trans (BN.mono B.size)
  have gl := (Array.getElem?_eq_some_iff.1 A).1
  unfold Gt.cells at A BN BW gl
  generalize V.alloc (.cells #[.int .i64 9, .int .i64 (n : Int), .int .i64 (h : Int), .bool false, .bool false, .bool false, .int .i64 0] 25) = V1 at *
  have hge : w.heap.size ≤ V.heap.size := B.size
  clear B BN
  generalize V.heap.size = gb at *
  obtain ⟨_, c0, c1, c2, c3, c4, c5, c6⟩ := gtAt_row (show V1.heap[gb]? = some (.cells (Gt.cells ⟨9, n, h, false, false, false, 0⟩) 25) from A)
  go_wp2_with fail
  have bL := below_alloc V1 (.cells #[.int .u8 1] 5)
  refine (accept_num ⟨9, n, h, false, false, false, 0⟩ ⟨by simp, by simp; omega, by simp; omega, by simp⟩ sq (by omega) (some ⟨V1.heap.size, 0, none⟩) 1 1 (by decide) true _).mono ?_
  rintro e V2 ⟨rfl, b2⟩
  rw [Hsq.out, num_far n h d hn hb.1 hd.1 hd.2]
  unfold Gt.cells
  have A2 := row_below (row_below A bL) b2
  have BV := (BW.trans (bL.mono BW.size)).trans (b2.mono (Nat.le_trans BW.size bL.size))
  clear c0 c1 c2 c3 c4 c5 c6 A BW bL b2
  obtain ⟨_, c0, c1, c2, c3, c4, c5, c6⟩ := gtAt_row (show V2.heap[gb]? = some (.cells (Gt.cells ⟨9, n, h, false, false, false, 0⟩) 25) from A2)
  have fz := frozen_row A2
  obtain ⟨A3, g3⟩ := (⟨seven A2 (.int .i64 9) (.int .i64 (n : Int)) (.int .i64 (h : Int)) (.bool true) (.bool false) (.bool false) (.int .i64 0), grown7 V2 gb (.int .i64 9) (.int .i64 (n : Int)) (.int .i64 (h : Int)) (.bool true) (.bool false) (.bool false) (.int .i64 0)⟩ : _ ∧ _)
  go_wp2_with fail
  have hgl2 : gb < V2.heap.size := (Array.getElem?_eq_some_iff.1 A2).1
  have BV3 := BV.grown g3 BV.size (fun k e => by cases e; exact hge)
  clear c0 c1 c2 c3 c4 c5 c6 A2 fz g3 BV
  generalize ((((((V2.setCell ⟨gb, 0, none⟩ (.int .i64 9)).setCell ⟨gb, 1, none⟩ (.int .i64 (n : Int))).setCell ⟨gb, 2, none⟩ (.int .i64 (h : Int))).setCell ⟨gb, 3, none⟩ (.bool true)).setCell ⟨gb, 4, none⟩ (.bool false)).setCell ⟨gb, 5, none⟩ (.bool false)).setCell ⟨gb, 6, none⟩ (.int .i64 0) = V3 at *
  go_loopw [16] (fun i wr => ∃ (k : Nat) (ct : Int), i = .int .i64 k ∧ k ≤ ln ∧ (0 ≤ ct ∧ ct ≤ 3) ∧ Row wr gb ⟨9, n, h, true, false, false, ct⟩ ∧ Below w.heap.size w wr) (fun i _ => ln - (intOf i).toNat)
  case atStart => exact ⟨0, 0, rfl, Nat.zero_le _, by decide, A3, BV3⟩
  case round =>
    obtain ⟨k, ct, rfl, hk, hct, hrow, hB⟩ := hrel
    clear A3 BV3
    have BV3 := hB; clear hB
    by_cases hlt3 : k < ln ∧ k < 300
    · obtain ⟨hlt, h3⟩ := hlt3
      · obtain ⟨ab, ao, rfl, hal, hcells⟩ := hrd (by omega)
        have hce := (BV3.cell (p := ⟨ab, ao + k, none⟩) hal).trans (hcells k hlt)
        clear hcells
        have hvk := hmem k hlt
        generalize vs k = vk at *
        have hkk : (k : Int) < (ln : Int) := by omega
        have hk3 : (k : Int) < 300 := by omega
        obtain ⟨_, c0, c1, c2, c3, c4, c5, c6⟩ := gtAt_row (g := ⟨9, n, h, true, false, false, ct⟩) hrow
        go_wp2_with fail
        refine (pick_any vk 2 _ hvk.1 hvk.2 (by decide) (by decide)).mono ?_
        rintro e w' ⟨r, rfl, hr2, _, rfl⟩
        go_wp2_with fail
        generalize hp : ((r : Int) == 1) = p
        clear hp
        obtain ⟨B0, hB0⟩ : ∃ B0, B0 = wr.heap.size := ⟨_, rfl⟩
        refine wp_region_plans 12 [6, 8, 10] (Plan.of [0, 1, 2, 3, 4, 5] (.two 6 (Plan.of [7, 8, 9, 10, 11] .nil) 8 (Plan.of [6, 7, 9, 10, 11] .nil))) (Below B0) [15] (Plan.of [12, 13, 14, 15, 16, 17] .nil) (fun u u' => u.grownBy u' (some gb)) (fun _ => Below.refl _ _) (fun _ _ _ h k => h.trans k) (fun u => World.grownBy.refl u _) (fun _ _ _ h k => grownBy_trans h k) (by kernel_rfl) (by kernel_rfl) ?_
        simp only [Plan.of, Plan.lay, List.contains_cons, List.contains_nil, List.getD_cons_zero, List.getD_cons_succ, Nat.reduceBEq, Bool.or_false, Bool.or_true]
        have hrow : Row wr.drew gb ⟨9, n, h, true, false, false, ct⟩ := hrow
        have BV3 := BV3.drew
        have hce : wr.drew.cell? ⟨ab, ao + k, none⟩ = _ := hce
        have hB1 : B0 = wr.drew.heap.size := hB0
        clear hB0 c0 c1 c2 c3 c4 c5 c6
        generalize wr.drew = W at *
        have HB := hid hB1
        have hgW : gb < W.heap.size := (Array.getElem?_eq_some_iff.1 hrow).1
        have hkeep : ∀ w', Below B0 W w' → GtAt w' gb ⟨9, n, h, true, false, false, ct⟩ := fun w' hw => gtAt_row (row_below hrow (by rw [HB.out] at hw; exact hw))
        clear hB1
        have n0 : ∀ w', Below B0 W w' → w'.cell? ⟨gb, 0, none⟩ = some (.int .i64 9) := fun w' hw => (hkeep w' hw).c0
        have n1 : ∀ w', Below B0 W w' → w'.cell? ⟨gb, 1, none⟩ = some (.int .i64 n) := fun w' hw => (hkeep w' hw).c1
        have n2 : ∀ w', Below B0 W w' → w'.cell? ⟨gb, 2, none⟩ = some (.int .i64 h) := fun w' hw => (hkeep w' hw).c2
        have n3 : ∀ w', Below B0 W w' → w'.cell? ⟨gb, 3, none⟩ = some (.bool true) := fun w' hw => (hkeep w' hw).c3
        have n4 : ∀ w', Below B0 W w' → w'.cell? ⟨gb, 4, none⟩ = some (.bool false) := fun w' hw => (hkeep w' hw).c4
        have n5 : ∀ w', Below B0 W w' → w'.cell? ⟨gb, 5, none⟩ = some (.bool false) := fun w' hw => (hkeep w' hw).c5
        have n6 : ∀ w', Below B0 W w' → w'.cell? ⟨gb, 6, none⟩ = some (.int .i64 ct) := fun w' hw => (hkeep w' hw).c6
        have nv : ∀ w', Below B0 W w' → w'.cell? ⟨ab, ao + k, none⟩ = some (.int .i64 vk) := fun w' hw => (hw.cell (p := ⟨ab, ao + k, none⟩) (by rw [HB.out]; exact Nat.lt_of_lt_of_le hal BV3.size)).trans hce
        clear hkeep hce
        repeat (refine wpTL_do rfl (fun w' hw' => (by go_simp; rfl)) ?_; simp only [Act.put, List.setIfInBounds_toArray, List.set_cons_succ, List.set_cons_zero])
        clear n0 n1 n2 n3 n4 n5 n6 nv
        refine wpTL_two ?_ ?_
        · refine wpTL_call rfl (fun K hK => ?_)
          go_wp2_with fail
          refine (pick_any vk 512 _ hvk.1 hvk.2 (by decide) (by decide)).mono ?_
          rintro e w' ⟨s, rfl, hs, _, rfl⟩
          have hs : s < 512 := hs
          refine hK _ _ (Below.refl _ _) ?_
          clear hK K
          try simp only [Act.put, List.setIfInBounds_toArray, List.set_cons_succ, List.set_cons_zero]
          repeat (refine wpTL_do rfl (fun w' hw' => (by go_simp; rfl)) ?_; simp only [Act.put, List.setIfInBounds_toArray, List.set_cons_succ, List.set_cons_zero])
          refine wpTL_call rfl (fun K hK => ?_)
          go_wp2_with fail
          refine hK _ _ (by rw [HB.out]; exact below_alloc _ _) ?_
          clear hK K
          try simp only [Act.put, List.setIfInBounds_toArray, List.set_cons_succ, List.set_cons_zero]
          have bL := below_alloc W (.cells #[.int .u8 2] 5)
          generalize W.alloc (.cells #[.int .u8 2] 5) = W1 at *
          repeat (refine wpTL_do rfl (fun w' hw' => (by go_simp; rfl)) ?_; simp only [Act.put, List.setIfInBounds_toArray, List.set_cons_succ, List.set_cons_zero])
          refine wpTL_call rfl (fun K hK => ?_)
          go_wp2_with fail
          refine (accept_shut p 9 n h ct ⟨by simp, by simp; omega, by simp; omega, hct⟩ _ (by omega) (some ⟨W.heap.size, 0, none⟩) 1 1 (by decide) _).mono ?_
          rintro e W2 ⟨er, ct', her, hct', rfl, b2⟩
          refine hK _ _ (b2.mono (by rw [HB.out]; exact bL.size)) ?_
          clear hK K
          try simp only [Act.put, List.setIfInBounds_toArray, List.set_cons_succ, List.set_cons_zero]
          repeat (refine wpTL_do rfl (fun w' hw' => (by go_simp; rfl)) ?_; simp only [Act.put, List.setIfInBounds_toArray, List.set_cons_succ, List.set_cons_zero])
          refine wpTL_nil ?_
          have A4 := row_below (row_below hrow bL) b2
          have BV4 := (BV3.trans (bL.mono BV3.size)).trans (b2.mono (Nat.le_trans BV3.size bL.size))
          have hct2 : 0 ≤ ct' ∧ ct' ≤ 3 := by
            have := hct'.out
            cases p with
            | true => rw [if_pos rfl] at this; omega
            | false => rw [if_neg (by simp)] at this; omega
          obtain ⟨_, c0, c1, c2, c3, c4, c5, c6⟩ := gtAt_row (g := ⟨9, n, h, true, false, false, ct⟩) A4
          have fz := frozen_row A4
          unfold Gt.cells
          repeat (refine wpTL_do rfl (fun w' hw' => (by go_simp; rfl)) ?_; simp only [Act.put, List.setIfInBounds_toArray, List.set_cons_succ, List.set_cons_zero])
          refine wpTL_call rfl (fun K hK => ?_)
          go_wp2_with fail
          have A5 := seven A4 (.int .i64 9) (.int .i64 (n : Int)) (.int .i64 (h : Int)) (.bool true) (.bool false) (.bool false) (.int .i64 ct')
          have g5 := grown7 W2 gb (.int .i64 9) (.int .i64 (n : Int)) (.int .i64 (h : Int)) (.bool true) (.bool false) (.bool false) (.int .i64 ct')
          refine hK _ _ g5 ?_
          clear hK K
          try simp only [Act.put, List.setIfInBounds_toArray, List.set_cons_succ, List.set_cons_zero]
          have BV5 := BV4.grown g5 BV4.size (fun k e => by cases e; exact hge)
          clear c0 c1 c2 c3 c4 c5 c6 A4 fz g5 BV4 b2 bL hrow BV3 hct'
          generalize ((((((W2.setCell ⟨gb, 0, none⟩ (.int .i64 9)).setCell ⟨gb, 1, none⟩ (.int .i64 (n : Int))).setCell ⟨gb, 2, none⟩ (.int .i64 (h : Int))).setCell ⟨gb, 3, none⟩ (.bool true)).setCell ⟨gb, 4, none⟩ (.bool false)).setCell ⟨gb, 5, none⟩ (.bool false)).setCell ⟨gb, 6, none⟩ (.int .i64 ct') = W5 at *
          repeat (refine wpTL_do rfl (fun w' hw' => (by go_simp; rfl)) ?_; simp only [Act.put, List.setIfInBounds_toArray, List.set_cons_succ, List.set_cons_zero])
          refine wpTL_nil ?_
          obtain ⟨_, c0, c1, c2, c3, c4, c5, c6⟩ := gtAt_row (show W5.heap[gb]? = some (.cells (Gt.cells ⟨9, n, h, true, false, false, ct'⟩) 25) from A5)
          have A6 := hid A5
          clear A5
          cases p with
          | true =>
            obtain rfl : er = 0 := by have := her.out; simpa using this
            go_wp2_with fail
            go_roundw
            case rel => exact ⟨k + 1, ct', by go_num, by omega, hct2, A6.out, BV5⟩
            case measure => simp [intOf]; omega
          | false =>
            obtain rfl : er = 15 := by have := her.out; simpa using this
            go_wp2_with fail
            go_roundw
            case rel => exact ⟨k + 1, ct', by go_num, by omega, hct2, A6.out, BV5⟩
            case measure => simp [intOf]; omega
        · refine wpTL_call rfl (fun K hK => ?_)
          go_wp2_with fail
          refine hK _ _ (by rw [HB.out]; exact below_alloc _ _) ?_
          clear hK K
          try simp only [Act.put, List.setIfInBounds_toArray, List.set_cons_succ, List.set_cons_zero]
          have bL := below_alloc W (.cells #[.int .u8 2] 5)
          generalize W.alloc (.cells #[.int .u8 2] 5) = W1 at *
          refine wpTL_call rfl (fun K hK => ?_)
          go_wp2_with fail
          refine (pick_any vk 512 _ hvk.1 hvk.2 (by decide) (by decide)).mono ?_
          rintro e w' ⟨s, rfl, hs, _, rfl⟩
          have hs : s < 512 := hs
          refine hK _ _ (Below.refl _ _) ?_
          clear hK K
          try simp only [Act.put, List.setIfInBounds_toArray, List.set_cons_succ, List.set_cons_zero]
          repeat (refine wpTL_do rfl (fun w' hw' => (by go_simp; rfl)) ?_; simp only [Act.put, List.setIfInBounds_toArray, List.set_cons_succ, List.set_cons_zero])
          refine wpTL_call rfl (fun K hK => ?_)
          go_wp2_with fail
          refine (accept_shut p 9 n h ct ⟨by simp, by simp; omega, by simp; omega, hct⟩ _ (by omega) (some ⟨W.heap.size, 0, none⟩) 1 1 (by decide) _).mono ?_
          rintro e W2 ⟨er, ct', her, hct', rfl, b2⟩
          refine hK _ _ (b2.mono (by rw [HB.out]; exact bL.size)) ?_
          clear hK K
          try simp only [Act.put, List.setIfInBounds_toArray, List.set_cons_succ, List.set_cons_zero]
          repeat (refine wpTL_do rfl (fun w' hw' => (by go_simp; rfl)) ?_; simp only [Act.put, List.setIfInBounds_toArray, List.set_cons_succ, List.set_cons_zero])
          refine wpTL_nil ?_
          have A4 := row_below (row_below hrow bL) b2
          have BV4 := (BV3.trans (bL.mono BV3.size)).trans (b2.mono (Nat.le_trans BV3.size bL.size))
          have hct2 : 0 ≤ ct' ∧ ct' ≤ 3 := by
            have := hct'.out
            cases p with
            | true => rw [if_pos rfl] at this; omega
            | false => rw [if_neg (by simp)] at this; omega
          obtain ⟨_, c0, c1, c2, c3, c4, c5, c6⟩ := gtAt_row (g := ⟨9, n, h, true, false, false, ct⟩) A4
          have fz := frozen_row A4
          unfold Gt.cells
          repeat (refine wpTL_do rfl (fun w' hw' => (by go_simp; rfl)) ?_; simp only [Act.put, List.setIfInBounds_toArray, List.set_cons_succ, List.set_cons_zero])
          refine wpTL_call rfl (fun K hK => ?_)
          go_wp2_with fail
          have A5 := seven A4 (.int .i64 9) (.int .i64 (n : Int)) (.int .i64 (h : Int)) (.bool true) (.bool false) (.bool false) (.int .i64 ct')
          have g5 := grown7 W2 gb (.int .i64 9) (.int .i64 (n : Int)) (.int .i64 (h : Int)) (.bool true) (.bool false) (.bool false) (.int .i64 ct')
          refine hK _ _ g5 ?_
          clear hK K
          try simp only [Act.put, List.setIfInBounds_toArray, List.set_cons_succ, List.set_cons_zero]
          have BV5 := BV4.grown g5 BV4.size (fun k e => by cases e; exact hge)
          clear c0 c1 c2 c3 c4 c5 c6 A4 fz g5 BV4 b2 bL hrow BV3 hct'
          generalize ((((((W2.setCell ⟨gb, 0, none⟩ (.int .i64 9)).setCell ⟨gb, 1, none⟩ (.int .i64 (n : Int))).setCell ⟨gb, 2, none⟩ (.int .i64 (h : Int))).setCell ⟨gb, 3, none⟩ (.bool true)).setCell ⟨gb, 4, none⟩ (.bool false)).setCell ⟨gb, 5, none⟩ (.bool false)).setCell ⟨gb, 6, none⟩ (.int .i64 ct') = W5 at *
          repeat (refine wpTL_do rfl (fun w' hw' => (by go_simp; rfl)) ?_; simp only [Act.put, List.setIfInBounds_toArray, List.set_cons_succ, List.set_cons_zero])
          refine wpTL_nil ?_
          obtain ⟨_, c0, c1, c2, c3, c4, c5, c6⟩ := gtAt_row (show W5.heap[gb]? = some (.cells (Gt.cells ⟨9, n, h, true, false, false, ct'⟩) 25) from A5)
          have A6 := hid A5
          clear A5
          cases p with
          | true =>
            obtain rfl : er = 0 := by have := her.out; simpa using this
            go_wp2_with fail
            go_roundw
            case rel => exact ⟨k + 1, ct', by go_num, by omega, hct2, A6.out, BV5⟩
            case measure => simp [intOf]; omega
          | false =>
            obtain rfl : er = 15 := by have := her.out; simpa using this
            go_wp2_with fail
            go_roundw
            case rel => exact ⟨k + 1, ct', by go_num, by omega, hct2, A6.out, BV5⟩
            case measure => simp [intOf]; omega
    · have hcase : ln ≤ k ∨ (k < ln ∧ 300 ≤ k) := by omega
      have hh : numG ⟨9, n, h, false, false, false, (ct + 1) % 4⟩ (n : Int) true = (⟨9, ((n : Int) + 1) % 256, h, false, false, false, (ct + 1) % 4⟩, true, 0) := by
        unfold numG
        simp only [Int.sub_self]
        rfl
      have Hh := hid hh
      clear hh
      have bH := below_alloc wr (.cells h0c 36)
      rcases hcase with hc | ⟨hc1, hc2⟩
      all_goals
        unfold h0c at bH
        go_wp2_with fail
        refine (free_ok _).mono ?_
        rintro e V ⟨ub, uc, ea, ec, rfl, hub, hur, bF⟩
        have hrow1 := row_below (row_below hrow bH) bF
        have BV := (BV3.trans (bH.mono BV3.size)).trans (bF.mono (Nat.le_trans BV3.size bH.size))
        clear bF bH hrow BV3
        have bN := below_alloc V (.cells (hcells 9 0 1 (.slice none 0 0) (.slice none 0 0) 0 1 0 1 0 0 0) 36)
        have hub := (bN.cell (p := ⟨ub, 0, none⟩) (World.block_lt_of_cell? V _ hub)).trans hub
        have hur := hur.below bN
        have hrow1 := row_below hrow1 bN
        have BV := BV.trans (bN.mono BV.size)
        clear bN
        unfold hcells at *
        go_wp2_with fail
        generalize V.alloc (.cells #[.int .i64 9, .int .i64 0, .int .i64 1, .slice none 0 0, .slice none 0 0, .int .i64 0, .int .i64 1, .int .i64 0, .int .i64 1, .int .i64 0, .int .i64 0, .int .i64 0] 36) = V1 at *
        refine (decode_enc 9 true true 0 [0] ea 1 ec _ rfl hur (by intro x hx; simp at hx; omega) (by decide) (by decide) (by simp) (by decide) (by decide)).mono ?_
        rintro e V2 ⟨ao, cc, rfl, hrd2, b2⟩
        have hrow2 := row_below hrow1 b2
        have BV := BV.trans (b2.mono BV.size)
        clear b2 hub hur hrow1
        have bN := below_alloc V2 (.cells #[.int .i64 9, .bool true, .bool true, .int .i64 0, .slice ao 1 cc] 33)
        have hrd2 := hrd2.below bN
        have hrow2 := row_below hrow2 bN
        have BV := BV.trans (bN.mono BV.size)
        clear bN
        unfold ocells at *
        obtain ⟨_, c0, c1, c2, c3, c4, c5, c6⟩ := gtAt_row (show (V2.alloc (.cells #[.int .i64 9, .bool true, .bool true, .int .i64 0, .slice ao 1 cc] 33)).heap[gb]? = some (.cells (Gt.cells ⟨9, n, h, true, false, false, ct⟩) 25) from hrow2)
        simp only at c0 c1 c2 c3 c4 c5 c6
        go_wp2_with fail
        refine (accept_free ⟨9, n, h, true, false, false, ct⟩ ⟨by simp, by simp; omega, by simp; omega, hct⟩ 0 (by decide) ao cc true _ hrd2).mono ?_
        rintro e V3 ⟨rfl, b3⟩
        have hrow3 := row_below hrow2 b3
        have BV := BV.trans (b3.mono BV.size)
        clear b3 c0 c1 c2 c3 c4 c5 c6 hrd2 hrow2
        have fz := frozen_row hrow3
        obtain ⟨_, c0, c1, c2, c3, c4, c5, c6⟩ := gtAt_row (show V3.heap[gb]? = some (.cells (Gt.cells ⟨9, n, h, true, false, false, ct⟩) 25) from hrow3)
        have A5 := seven hrow3 (.int .i64 9) (.int .i64 (n : Int)) (.int .i64 (h : Int)) (.bool false) (.bool false) (.bool false) (.int .i64 ((ct + 1) % 4))
        have g5 := grown7 V3 gb (.int .i64 9) (.int .i64 (n : Int)) (.int .i64 (h : Int)) (.bool false) (.bool false) (.bool false) (.int .i64 ((ct + 1) % 4))
        have BV5 := BV.grown g5 BV.size (fun k e => by cases e; exact hge)
        obtain ⟨W5, hW5⟩ : ∃ W5, W5 = ((((((V3.setCell ⟨gb, 0, none⟩ (.int .i64 9)).setCell ⟨gb, 1, none⟩ (.int .i64 (n : Int))).setCell ⟨gb, 2, none⟩ (.int .i64 (h : Int))).setCell ⟨gb, 3, none⟩ (.bool false)).setCell ⟨gb, 4, none⟩ (.bool false)).setCell ⟨gb, 5, none⟩ (.bool false)).setCell ⟨gb, 6, none⟩ (.int .i64 ((ct + 1) % 4)) := ⟨_, rfl⟩
        rw [← hW5] at A5 BV5
        have hW5' := hW5.symm
        clear hW5 g5
        obtain ⟨_, d0, d1, d2, d3, d4, d5, d6⟩ := gtAt_row (show W5.heap[gb]? = some (.cells (Gt.cells ⟨9, n, h, false, false, false, (ct + 1) % 4⟩) 25) from A5)
        simp only at c0 c1 c2 c3 c4 c5 c6 d0 d1 d2 d3 d4 d5 d6
        unfold Gt.cells
        go_wp2_with fail
        clear c0 c1 c2 c3 c4 c5 c6 hW5'
        have bL := below_alloc W5 (.cells #[.int .u8 3] 5)
        generalize W5.alloc (.cells #[.int .u8 3] 5) = W6 at *
        refine (accept_num ⟨9, n, h, false, false, false, (ct + 1) % 4⟩ ⟨by simp, by simp; omega, by simp; omega, by simp; omega⟩ n (by omega) (some ⟨W5.heap.size, 0, none⟩) 1 1 (by decide) true _).mono ?_
        rintro e W7 ⟨rfl, b7⟩
        rw [Hh.out]
        have BV7 := (BV5.trans (bL.mono BV5.size)).trans (b7.mono (Nat.le_trans BV5.size bL.size))
        clear bL b7 A5 d0 d1 d2 d3 d4 d5 d6
        unfold Gt.cells
        go_wp2_with fail
        go_ret
        exact ⟨rfl, BV7⟩
end Go.Proofs.Ytkngoomkmbkenaa
