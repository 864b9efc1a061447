/- Keys: stir. -/
import Derived.Test.YtdeeilahefnicaaNumber
namespace Go.Proofs.Ytdeeilahefnicaa
set_option linter.unusedVariables false
open Go.RowKit

noncomputable def R13 (x : Int) : Int := Classical.choose (rot13_e x)
noncomputable def R9 (x : Int) : Int := Classical.choose (rot9_e x)
noncomputable def R17 (x : Int) : Int := Classical.choose (rot17_e x)
noncomputable def R5 (x : Int) : Int := Classical.choose (rot5_e x)
theorem rot13_st (x : Int) (w : World) : Calls Try.prog 37 #[.int .u32 x, .int .i64 13] w fun e w' => e = .returned (.int .u32 (R13 x)) ∧ w' = w := (Classical.choose_spec (rot13_e x) w).mono fun e w' h => ⟨h.1, h.2.symm⟩
theorem rot9_st (x : Int) (w : World) : Calls Try.prog 37 #[.int .u32 x, .int .i64 9] w fun e w' => e = .returned (.int .u32 (R9 x)) ∧ w' = w := (Classical.choose_spec (rot9_e x) w).mono fun e w' h => ⟨h.1, h.2.symm⟩
theorem rot17_st (x : Int) (w : World) : Calls Try.prog 37 #[.int .u32 x, .int .i64 17] w fun e w' => e = .returned (.int .u32 (R17 x)) ∧ w' = w := (Classical.choose_spec (rot17_e x) w).mono fun e w' h => ⟨h.1, h.2.symm⟩
theorem rot5_st (x : Int) (w : World) : Calls Try.prog 37 #[.int .u32 x, .int .i64 5] w fun e w' => e = .returned (.int .u32 (R5 x)) ∧ w' = w := (Classical.choose_spec (rot5_e x) w).mono fun e w' h => ⟨h.1, h.2.symm⟩

theorem ix0 (w : World) : (Instr.index 79 (.agg #[.int .i64 13, .int .i64 9, .int .i64 17, .int .i64 5]) (.int .i64 0)).run Try.prog w = .ok (.agg #[.int .i64 13, .int .i64 9]) w := by
  kernel_rfl
theorem ix1 (w : World) : (Instr.index 79 (.agg #[.int .i64 13, .int .i64 9, .int .i64 17, .int .i64 5]) (.int .i64 1)).run Try.prog w = .ok (.agg #[.int .i64 17, .int .i64 5]) w := by
  kernel_rfl
/-- the cells of sixteen numbers -/
def sq (l : List Int) : Array Value := (l.map (Value.int .u32)).toArray
def at_ (l : List Int) (k : Nat) : Int := l.getD k 0
theorem sq_get (l : List Int) (k : Nat) (h : k < l.length) : (sq l)[k]? = some (.int .u32 (at_ l k)) := by simp [sq, at_, h]
theorem sq_set (l : List Int) (k : Nat) (z : Int) : (sq l).setIfInBounds k (.int .u32 z) = sq (l.set k z) := by
  unfold sq
  rw [List.setIfInBounds_toArray, List.map_set]
/-- a square in a block -/
def Sq (W : World) (b : Nat) (l : List Int) : Prop := l.length = 16 ∧ W.heap[b]? = some (.cells (sq l) 73)
theorem Sq.cell {W : World} {b : Nat} {l : List Int} (h : Sq W b l) (k : Nat) (hk : k < 16) : W.cell? ⟨b, k, none⟩ = some (.int .u32 (at_ l k)) := by
  rw [cell_of_row _ _ _ _ _ _ h.2, sq_get l k (by rw [h.1]; exact hk)]
theorem Sq.set {W : World} {b : Nat} {l : List Int} (h : Sq W b l) (k : Nat) (z : Int) : Sq (W.setCell ⟨b, k, none⟩ (.int .u32 z)) b (l.set k z) ∧ W.grownBy (W.setCell ⟨b, k, none⟩ (.int .u32 z)) (some b) := by
  obtain ⟨h1, h2⟩ := set_row h.2 k (.int .u32 z) (sq_set l k z)
  exact ⟨⟨by rw [List.length_set]; exact h.1, h1⟩, h2⟩
theorem Sq.drew {W : World} {b : Nat} {l : List Int} (h : Sq W b l) : Sq W.drew b l := h
theorem Sq.below {W W' : World} {b : Nat} {l : List Int} (h : Sq W b l) (hb : Below W.heap.size W W') : Sq W' b l := ⟨h.1, row_below h.2 hb⟩

def s1 (l : List Int) (a b : Nat) : List Int := l.set a ((at_ l a + at_ l b) % 4294967296)
def s2 (R : Int → Int) (l : List Int) (a d : Nat) : List Int := l.set d (R (bits .xor .u32 (at_ l d) (at_ l a)))
def halfS (R R' : Int → Int) (l : List Int) (a b c d : Nat) : List Int := s2 R' (s1 (s2 R (s1 l a b) a d) c d) c b
noncomputable def stirL (l : List Int) (a b c d : Nat) : List Int := halfS R17 R5 (halfS R13 R9 l a b c d) a b c d

set_option maxHeartbeats 4000000 in
set_option maxRecDepth 100000 in
theorem stir_ok (qb : Nat) (l : List Int) (a b c d : Nat) (ha : a < 16) (hb : b < 16) (hc : c < 16) (hd : d < 16) (W : World) (h : Sq W qb l) :
    Calls Try.prog 34 #[.pointer (some ⟨qb, 0, none⟩), .int .i64 (a : Int), .int .i64 (b : Int), .int .i64 (c : Int), .int .i64 (d : Int)] W fun e w' => e = .returned (.tuple #[]) ∧ Sq w' qb (stirL l a b c d) ∧ W.grownBy w' (some qb) := by
  have ta : (a : Int) < 16 := by omega
  have tb : (b : Int) < 16 := by omega
  have tc : (c : Int) < 16 := by omega
  have td : (d : Int) < 16 := by omega
  go_enter Try.func34, Try.ntmps34
  go_wp2_with fail
  go_loopw [15] (fun k' wr => ((k' = .int .i64 0 ∧ Sq wr qb l) ∨ (k' = .int .i64 1 ∧ Sq wr qb (halfS R13 R9 l a b c d)) ∨ (k' = .int .i64 2 ∧ Sq wr qb (stirL l a b c d))) ∧ W.grownBy wr (some qb)) (fun k' _ => 2 - (intOf k').toNat)
  case atStart => exact ⟨.inl ⟨rfl, h⟩, World.grownBy.refl _ _⟩
  case round =>
    clear h
    obtain ⟨⟨rfl, hS⟩ | ⟨rfl, hS⟩ | ⟨rfl, hS⟩, g⟩ := hrel
    · have hS0 := hS
      have ix := ix0 wr
      have hx := heap_alloc_new wr (.cells #[.int .i64 13, .int .i64 9] 78)
      have bx := below_alloc wr (.cells #[.int .i64 13, .int .i64 9] 78)
      have hS := hS.below bx
      have g := grownBy_trans g (grownBy_of_below bx (some qb))
      have hxq : wr.heap.size ≠ qb := fun e => by have := row_lt hS0.2; omega
      go_wp2_with fail
      clear bx ix
      generalize wr.alloc (.cells #[.int .i64 13, .int .i64 9] 78) = V at *
      generalize wr.heap.size = xb at *
      clear hS0
      obtain ⟨L, hL⟩ : ∃ L, L = (l) := ⟨_, rfl⟩
      rw [← hL] at hS
      have HL := hid hL
      clear hL
      obtain ⟨Wd, hWd⟩ : ∃ Wd : World, Wd = { V with drawn := V.drawn + 1 } := ⟨_, rfl⟩
      have eW : V.drew = Wd := hWd.symm
      have hS := hS.drew
      have hx := row_drew hx
      have g := grownBy_trans g (grownBy_drew V (some qb))
      rw [eW] at hS hx g
      clear eW
      have c1 := hS.cell a ha
      have c2 := hS.cell b hb
      have x0 : Wd.cell? ⟨xb, 0, none⟩ = some (.int .i64 13) := by rw [cell_of_row _ _ _ _ _ _ hx]; rfl
      have x1 : Wd.cell? ⟨xb, 1, none⟩ = some (.int .i64 9) := by rw [cell_of_row _ _ _ _ _ _ hx]; rfl
      have fz := frozen_row hS.2 a
      refine wp_region_still_tail 13 (by kernel_rfl) (by kernel_rfl) ?_
      simp only [List.take_succ_cons, List.take_zero, List.drop_succ_cons, List.drop_zero]
      rw [← hWd]
      clear hWd
      repeat still_step
      refine wpStill_nil ?_
      obtain ⟨hS2, g2⟩ := hS.set a ((at_ L a + at_ L b) % 4294967296)
      have hx := row_grown hx g2 hxq
      have g := grownBy_trans g g2
      clear g2
      go_wp2_with fail
      clear c1 c2 x0 x1 fz hS
      generalize Wd.setCell ⟨qb, a, none⟩ (.int .u32 ((at_ L a + at_ L b) % 4294967296)) = V at *
      have hS : Sq V qb (s1 L a b) := hS2
      clear hS2
      obtain ⟨L2, hL2⟩ : ∃ L2, L2 = s1 L a b := ⟨_, rfl⟩
      rw [← hL2] at hS
      have HL2 := hid hL2
      clear hL2
      obtain ⟨Wd, hWd⟩ : ∃ Wd : World, Wd = { V with drawn := V.drawn + 1 } := ⟨_, rfl⟩
      have eW : V.drew = Wd := hWd.symm
      have hS := hS.drew
      have hx := row_drew hx
      have g := grownBy_trans g (grownBy_drew V (some qb))
      rw [eW] at hS hx g
      clear eW
      have c1 := hS.cell d hd
      have c2 := hS.cell a ha
      have x0 : Wd.cell? ⟨xb, 0, none⟩ = some (.int .i64 13) := by rw [cell_of_row _ _ _ _ _ _ hx]; rfl
      have x1 : Wd.cell? ⟨xb, 1, none⟩ = some (.int .i64 9) := by rw [cell_of_row _ _ _ _ _ _ hx]; rfl
      have fz := frozen_row hS.2 d
      refine wp_region_still_tail 18 (by kernel_rfl) (by kernel_rfl) ?_
      simp only [List.take_succ_cons, List.take_zero, List.drop_succ_cons, List.drop_zero]
      rw [← hWd]
      clear hWd
      repeat still_step
      still_call (rot13_st (bits .xor .u32 (at_ L2 d) (at_ L2 a)) Wd)
      repeat still_step
      refine wpStill_nil ?_
      obtain ⟨hS2, g2⟩ := hS.set d (R13 (bits .xor .u32 (at_ L2 d) (at_ L2 a)))
      have hx := row_grown hx g2 hxq
      have g := grownBy_trans g g2
      clear g2
      go_wp2_with fail
      clear c1 c2 x0 x1 fz hS
      generalize Wd.setCell ⟨qb, d, none⟩ (.int .u32 (R13 (bits .xor .u32 (at_ L2 d) (at_ L2 a)))) = V at *
      have hS : Sq V qb (s2 R13 L2 a d) := hS2
      clear hS2
      obtain ⟨L3, hL3⟩ : ∃ L3, L3 = s2 R13 L2 a d := ⟨_, rfl⟩
      rw [← hL3] at hS
      have HL3 := hid hL3
      clear hL3
      obtain ⟨Wd, hWd⟩ : ∃ Wd : World, Wd = { V with drawn := V.drawn + 1 } := ⟨_, rfl⟩
      have eW : V.drew = Wd := hWd.symm
      have hS := hS.drew
      have hx := row_drew hx
      have g := grownBy_trans g (grownBy_drew V (some qb))
      rw [eW] at hS hx g
      clear eW
      have c1 := hS.cell c hc
      have c2 := hS.cell d hd
      have x0 : Wd.cell? ⟨xb, 0, none⟩ = some (.int .i64 13) := by rw [cell_of_row _ _ _ _ _ _ hx]; rfl
      have x1 : Wd.cell? ⟨xb, 1, none⟩ = some (.int .i64 9) := by rw [cell_of_row _ _ _ _ _ _ hx]; rfl
      have fz := frozen_row hS.2 c
      refine wp_region_still_tail 13 (by kernel_rfl) (by kernel_rfl) ?_
      simp only [List.take_succ_cons, List.take_zero, List.drop_succ_cons, List.drop_zero]
      rw [← hWd]
      clear hWd
      repeat still_step
      refine wpStill_nil ?_
      obtain ⟨hS2, g2⟩ := hS.set c ((at_ L3 c + at_ L3 d) % 4294967296)
      have hx := row_grown hx g2 hxq
      have g := grownBy_trans g g2
      clear g2
      go_wp2_with fail
      clear c1 c2 x0 x1 fz hS
      generalize Wd.setCell ⟨qb, c, none⟩ (.int .u32 ((at_ L3 c + at_ L3 d) % 4294967296)) = V at *
      have hS : Sq V qb (s1 L3 c d) := hS2
      clear hS2
      obtain ⟨L4, hL4⟩ : ∃ L4, L4 = s1 L3 c d := ⟨_, rfl⟩
      rw [← hL4] at hS
      have HL4 := hid hL4
      clear hL4
      obtain ⟨Wd, hWd⟩ : ∃ Wd : World, Wd = { V with drawn := V.drawn + 1 } := ⟨_, rfl⟩
      have eW : V.drew = Wd := hWd.symm
      have hS := hS.drew
      have hx := row_drew hx
      have g := grownBy_trans g (grownBy_drew V (some qb))
      rw [eW] at hS hx g
      clear eW
      have c1 := hS.cell b hb
      have c2 := hS.cell c hc
      have x0 : Wd.cell? ⟨xb, 0, none⟩ = some (.int .i64 13) := by rw [cell_of_row _ _ _ _ _ _ hx]; rfl
      have x1 : Wd.cell? ⟨xb, 1, none⟩ = some (.int .i64 9) := by rw [cell_of_row _ _ _ _ _ _ hx]; rfl
      have fz := frozen_row hS.2 b
      refine wp_region_still_tail 18 (by kernel_rfl) (by kernel_rfl) ?_
      simp only [List.take_succ_cons, List.take_zero, List.drop_succ_cons, List.drop_zero]
      rw [← hWd]
      clear hWd
      repeat still_step
      still_call (rot9_st (bits .xor .u32 (at_ L4 b) (at_ L4 c)) Wd)
      repeat still_step
      refine wpStill_nil ?_
      obtain ⟨hS2, g2⟩ := hS.set b (R9 (bits .xor .u32 (at_ L4 b) (at_ L4 c)))
      have hx := row_grown hx g2 hxq
      have g := grownBy_trans g g2
      clear g2
      go_wp2_with fail
      clear c1 c2 x0 x1 fz hS
      have hF : s2 R9 L4 c b = halfS R13 R9 (l) a b c d := by rw [HL4.out, HL3.out, HL2.out, HL.out]; rfl
      have hS : Sq (Wd.setCell ⟨qb, b, none⟩ (.int .u32 (R9 (bits .xor .u32 (at_ L4 b) (at_ L4 c))))) qb (s2 R9 L4 c b) := hS2
      rw [hF] at hS
      go_roundw
      case rel => exact ⟨.inr (.inl ⟨rfl, hS⟩), g⟩
      case measure => simp [intOf]
    · have hS0 := hS
      have ix := ix1 wr
      have hx := heap_alloc_new wr (.cells #[.int .i64 17, .int .i64 5] 78)
      have bx := below_alloc wr (.cells #[.int .i64 17, .int .i64 5] 78)
      have hS := hS.below bx
      have g := grownBy_trans g (grownBy_of_below bx (some qb))
      have hxq : wr.heap.size ≠ qb := fun e => by have := row_lt hS0.2; omega
      go_wp2_with fail
      clear bx ix
      generalize wr.alloc (.cells #[.int .i64 17, .int .i64 5] 78) = V at *
      generalize wr.heap.size = xb at *
      clear hS0
      obtain ⟨L, hL⟩ : ∃ L, L = (halfS R13 R9 l a b c d) := ⟨_, rfl⟩
      rw [← hL] at hS
      have HL := hid hL
      clear hL
      obtain ⟨Wd, hWd⟩ : ∃ Wd : World, Wd = { V with drawn := V.drawn + 1 } := ⟨_, rfl⟩
      have eW : V.drew = Wd := hWd.symm
      have hS := hS.drew
      have hx := row_drew hx
      have g := grownBy_trans g (grownBy_drew V (some qb))
      rw [eW] at hS hx g
      clear eW
      have c1 := hS.cell a ha
      have c2 := hS.cell b hb
      have x0 : Wd.cell? ⟨xb, 0, none⟩ = some (.int .i64 17) := by rw [cell_of_row _ _ _ _ _ _ hx]; rfl
      have x1 : Wd.cell? ⟨xb, 1, none⟩ = some (.int .i64 5) := by rw [cell_of_row _ _ _ _ _ _ hx]; rfl
      have fz := frozen_row hS.2 a
      refine wp_region_still_tail 13 (by kernel_rfl) (by kernel_rfl) ?_
      simp only [List.take_succ_cons, List.take_zero, List.drop_succ_cons, List.drop_zero]
      rw [← hWd]
      clear hWd
      repeat still_step
      refine wpStill_nil ?_
      obtain ⟨hS2, g2⟩ := hS.set a ((at_ L a + at_ L b) % 4294967296)
      have hx := row_grown hx g2 hxq
      have g := grownBy_trans g g2
      clear g2
      go_wp2_with fail
      clear c1 c2 x0 x1 fz hS
      generalize Wd.setCell ⟨qb, a, none⟩ (.int .u32 ((at_ L a + at_ L b) % 4294967296)) = V at *
      have hS : Sq V qb (s1 L a b) := hS2
      clear hS2
      obtain ⟨L2, hL2⟩ : ∃ L2, L2 = s1 L a b := ⟨_, rfl⟩
      rw [← hL2] at hS
      have HL2 := hid hL2
      clear hL2
      obtain ⟨Wd, hWd⟩ : ∃ Wd : World, Wd = { V with drawn := V.drawn + 1 } := ⟨_, rfl⟩
      have eW : V.drew = Wd := hWd.symm
      have hS := hS.drew
      have hx := row_drew hx
      have g := grownBy_trans g (grownBy_drew V (some qb))
      rw [eW] at hS hx g
      clear eW
      have c1 := hS.cell d hd
      have c2 := hS.cell a ha
      have x0 : Wd.cell? ⟨xb, 0, none⟩ = some (.int .i64 17) := by rw [cell_of_row _ _ _ _ _ _ hx]; rfl
      have x1 : Wd.cell? ⟨xb, 1, none⟩ = some (.int .i64 5) := by rw [cell_of_row _ _ _ _ _ _ hx]; rfl
      have fz := frozen_row hS.2 d
      refine wp_region_still_tail 18 (by kernel_rfl) (by kernel_rfl) ?_
      simp only [List.take_succ_cons, List.take_zero, List.drop_succ_cons, List.drop_zero]
      rw [← hWd]
      clear hWd
      repeat still_step
      still_call (rot17_st (bits .xor .u32 (at_ L2 d) (at_ L2 a)) Wd)
      repeat still_step
      refine wpStill_nil ?_
      obtain ⟨hS2, g2⟩ := hS.set d (R17 (bits .xor .u32 (at_ L2 d) (at_ L2 a)))
      have hx := row_grown hx g2 hxq
      have g := grownBy_trans g g2
      clear g2
      go_wp2_with fail
      clear c1 c2 x0 x1 fz hS
      generalize Wd.setCell ⟨qb, d, none⟩ (.int .u32 (R17 (bits .xor .u32 (at_ L2 d) (at_ L2 a)))) = V at *
      have hS : Sq V qb (s2 R17 L2 a d) := hS2
      clear hS2
      obtain ⟨L3, hL3⟩ : ∃ L3, L3 = s2 R17 L2 a d := ⟨_, rfl⟩
      rw [← hL3] at hS
      have HL3 := hid hL3
      clear hL3
      obtain ⟨Wd, hWd⟩ : ∃ Wd : World, Wd = { V with drawn := V.drawn + 1 } := ⟨_, rfl⟩
      have eW : V.drew = Wd := hWd.symm
      have hS := hS.drew
      have hx := row_drew hx
      have g := grownBy_trans g (grownBy_drew V (some qb))
      rw [eW] at hS hx g
      clear eW
      have c1 := hS.cell c hc
      have c2 := hS.cell d hd
      have x0 : Wd.cell? ⟨xb, 0, none⟩ = some (.int .i64 17) := by rw [cell_of_row _ _ _ _ _ _ hx]; rfl
      have x1 : Wd.cell? ⟨xb, 1, none⟩ = some (.int .i64 5) := by rw [cell_of_row _ _ _ _ _ _ hx]; rfl
      have fz := frozen_row hS.2 c
      refine wp_region_still_tail 13 (by kernel_rfl) (by kernel_rfl) ?_
      simp only [List.take_succ_cons, List.take_zero, List.drop_succ_cons, List.drop_zero]
      rw [← hWd]
      clear hWd
      repeat still_step
      refine wpStill_nil ?_
      obtain ⟨hS2, g2⟩ := hS.set c ((at_ L3 c + at_ L3 d) % 4294967296)
      have hx := row_grown hx g2 hxq
      have g := grownBy_trans g g2
      clear g2
      go_wp2_with fail
      clear c1 c2 x0 x1 fz hS
      generalize Wd.setCell ⟨qb, c, none⟩ (.int .u32 ((at_ L3 c + at_ L3 d) % 4294967296)) = V at *
      have hS : Sq V qb (s1 L3 c d) := hS2
      clear hS2
      obtain ⟨L4, hL4⟩ : ∃ L4, L4 = s1 L3 c d := ⟨_, rfl⟩
      rw [← hL4] at hS
      have HL4 := hid hL4
      clear hL4
      obtain ⟨Wd, hWd⟩ : ∃ Wd : World, Wd = { V with drawn := V.drawn + 1 } := ⟨_, rfl⟩
      have eW : V.drew = Wd := hWd.symm
      have hS := hS.drew
      have hx := row_drew hx
      have g := grownBy_trans g (grownBy_drew V (some qb))
      rw [eW] at hS hx g
      clear eW
      have c1 := hS.cell b hb
      have c2 := hS.cell c hc
      have x0 : Wd.cell? ⟨xb, 0, none⟩ = some (.int .i64 17) := by rw [cell_of_row _ _ _ _ _ _ hx]; rfl
      have x1 : Wd.cell? ⟨xb, 1, none⟩ = some (.int .i64 5) := by rw [cell_of_row _ _ _ _ _ _ hx]; rfl
      have fz := frozen_row hS.2 b
      refine wp_region_still_tail 18 (by kernel_rfl) (by kernel_rfl) ?_
      simp only [List.take_succ_cons, List.take_zero, List.drop_succ_cons, List.drop_zero]
      rw [← hWd]
      clear hWd
      repeat still_step
      still_call (rot5_st (bits .xor .u32 (at_ L4 b) (at_ L4 c)) Wd)
      repeat still_step
      refine wpStill_nil ?_
      obtain ⟨hS2, g2⟩ := hS.set b (R5 (bits .xor .u32 (at_ L4 b) (at_ L4 c)))
      have hx := row_grown hx g2 hxq
      have g := grownBy_trans g g2
      clear g2
      go_wp2_with fail
      clear c1 c2 x0 x1 fz hS
      have hF : s2 R5 L4 c b = halfS R17 R5 (halfS R13 R9 l a b c d) a b c d := by rw [HL4.out, HL3.out, HL2.out, HL.out]; rfl
      have hS : Sq (Wd.setCell ⟨qb, b, none⟩ (.int .u32 (R5 (bits .xor .u32 (at_ L4 b) (at_ L4 c))))) qb (s2 R5 L4 c b) := hS2
      rw [hF] at hS
      go_roundw
      case rel => exact ⟨.inr (.inr ⟨rfl, hS⟩), g⟩
      case measure => simp [intOf]
    · go_wp2_with fail
      go_end0
      exact ⟨rfl, hS, g⟩
end Go.Proofs.Ytdeeilahefnicaa
