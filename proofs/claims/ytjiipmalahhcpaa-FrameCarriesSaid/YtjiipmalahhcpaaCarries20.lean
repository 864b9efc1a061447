/- frame: Listen. -/
import Derived.Test.YtjiipmalahhcpaaCarries19
import Derived.Deep.CutBlock
namespace Go.Proofs.Ytjiipmalahhcpaa
set_option linter.unusedVariables false
open Go.RowKit

set_option maxRecDepth 1000000 in
theorem mul17a (w : World) : Calls Try.prog 41 #[.int .u64 1, .int .u64 7] w fun e w' => e = .returned (.tuple #[.int .u64 0, .int .u64 7]) ∧ w' = w := by
  go_enter Try.func41, Try.ntmps41
  go_wp2_with fail
  go_ret2
  exact ⟨rfl, rfl⟩
set_option maxRecDepth 1000000 in
theorem mul17 (w : World) : Calls Try.prog 38 #[.int .u64 1, .int .u64 7] w fun e w' => e = .returned (.tuple #[.int .u64 0, .int .u64 7]) ∧ w' = w := by
  go_enter Try.func38, Try.ntmps38
  go_wp2_with ((go_at_call 41; refine (mul17a _).mono ?_; rintro e w' ⟨rfl, hw'⟩; rw [hw']; clear hw' w'))
  go_ret2
  exact ⟨rfl, rfl⟩
def er (m : Nat) : List Value := (List.replicate m [Value.int .i64 (-1), .slice none 0 0]).flatten ++ (List.replicate (7 - m) [Value.int .i64 0, .slice none 0 0]).flatten
set_option maxRecDepth 100000 in
theorem run_cutE (D m : Nat) (hm : m < 7) (w : World) : (Instr.sliceAt 50 (.slice (some ⟨D, 0, none⟩) 7 7) (some (.int .i64 (m : Int))) none none).run Try.prog w = .ok (.slice (some ⟨D, m * 2, none⟩) (7 - m) (7 - m)) w := by
  have h1 : (m : Int) ≤ 7 := by omega
  simp [go_sem, h1]
  omega
set_option maxRecDepth 100000 in
theorem run_cutF (D m : Nat) (hm : m ≤ 7) (w : World) : (Instr.sliceAt 50 (.slice (some ⟨D, 0, none⟩) 7 7) none (some (.int .i64 (m : Int))) none).run Try.prog w = .ok (.slice (some ⟨D, 0, none⟩) m 7) w := by
  have h1 : (m : Int) ≤ 7 := by omega
  simp [go_sem, h1]
set_option maxRecDepth 1000000 in
theorem fr48 (y : Nat → Value) : fr 48 y = #[y 0, y 1, y 2, y 3, y 4, y 5, y 6, y 7, y 8, y 9, y 10, y 11, y 12, y 13, y 14, y 15, y 16, y 17, y 18, y 19, y 20, y 21, y 22, y 23, y 24, y 25, y 26, y 27, y 28, y 29, y 30, y 31, y 32, y 33, y 34, y 35, y 36, y 37, y 38, y 39, y 40, y 41, y 42, y 43, y 44, y 45, y 46, y 47] := rfl
theorem made14 (W : World) : (W.alloc (.cells (madeCells #[.int .i64 0, .slice none 0 0] (7 * 2)) 83)).heap[W.heap.size]? = some (.cells (er 0).toArray 83) := by
  rw [heap_alloc_new]
  congr 2
  first
    | rfl
    | (unfold madeCells er; rfl)
    | (simp [madeCells, er]; done)
    | (apply Array.ext
       · rw [size_madeCells]; rfl
       · intro j h1 h2
         rw [size_madeCells] at h1
         have : j = 0 ∨ j = 1 ∨ j = 2 ∨ j = 3 ∨ j = 4 ∨ j = 5 ∨ j = 6 ∨ j = 7 ∨ j = 8 ∨ j = 9 ∨ j = 10 ∨ j = 11 ∨ j = 12 ∨ j = 13 := by omega
         rcases this with rfl | rfl | rfl | rfl | rfl | rfl | rfl | rfl | rfl | rfl | rfl | rfl | rfl | rfl <;> simp [madeCells, er])
theorem run_mkE (u : World) : (Instr.makeSlice 50 (.int .i64 7) (.int .i64 7)).run Try.prog u =
    .ok (.slice (some ⟨u.heap.size, 0, none⟩) 7 7) (u.alloc (.cells (madeCells #[.int .i64 0, .slice none 0 0] (7 * 2)) 83)) := by
  obtain ⟨i0, hi, hz0, hz1, hz2⟩ := info_parts Try.info83
  have h := run_make (P := Try.prog) u 50 83 i0 (.agg #[.int .i64 0, .slice none 0 0]) Try.underlying50 hi hz0 .i64 .i64 7 7 (by decide) (by decide) (by rw [hz2]; decide) (by decide)
  simpa [hz1, Value.cells] using h
def RpI (W0 : World) (D : Nat) (y : Nat → Value) (W : World) : Prop :=
  ∃ m : Nat, (m = 1 ∨ m = 2 ∨ m = 4 ∨ m = 7) ∧ y 7 = .slice (some ⟨D, 0, none⟩) 7 7 ∧ y 8 = .int .i64 (m : Int) ∧ W.heap[D]? = some (.cells (er m).toArray 83) ∧ Below W0.heap.size W0 W
set_option maxRecDepth 1000000 in
set_option maxHeartbeats 4000000 in
theorem repeat_ok (xb xc : Nat) (W0 : World) (hx : W0.heap[xb]? = some (.cells #[.int .i64 (-1), .slice none 0 0] 83)) :
    Calls Try.prog 26 #[.slice (some ⟨xb, 0, none⟩) 1 xc, .int .i64 7] W0 fun e w' => ∃ g, e = .returned (.slice (some ⟨g, 0, none⟩) 7 7) ∧ W0.heap.size ≤ g ∧ w'.heap[g]? = some (.cells (er 7).toArray 83) ∧ Below W0.heap.size W0 w' := by
  have hmk := run_mkE W0
  have b1 := below_alloc W0 (.cells (madeCells #[.int .i64 0, .slice none 0 0] (7 * 2)) 83)
  have r1 := made14 W0
  have hx1 := row_below hx b1
  obtain ⟨D, hD⟩ : ∃ D, D = W0.heap.size := ⟨_, rfl⟩
  rw [← hD] at hmk r1 b1
  have HD := hid hD
  have R1 := hid r1
  have HX := hid hx1
  have B1 := hid b1
  clear hD r1 b1 hx hx1
  generalize madeCells #[.int .i64 0, .slice none 0 0] (7 * 2) = MB at *
  generalize W0.alloc (.cells MB 83) = V at *
  go_enter Try.func26, Try.ntmps26
  refine wp_seq_k (fun K0 hK0 => ?_)
  go_wp2_with fail
  refine hK0.out _ _ ?_
  refine wp_seq_k (fun K1 hK1 => ?_)
  go_wp2_with fail
  refine hK1.out _ _ ?_
  refine wp_seq_k (fun K2 hK2 => ?_)
  go_wp2_with ((go_at_call 38; refine (mul17 _).mono ?_; rintro e w' ⟨rfl, hw'⟩; rw [hw']; clear hw' w'))
  refine hK2.out _ _ ?_
  refine wp_seq_k (fun K3 hK3 => ?_)
  go_wp2_with fail
  refine hK3.out _ _ ?_
  refine wp_seq_k (fun K4 hK4 => ?_)
  go_wp2_with fail
  refine hK4.out _ _ ?_
  refine wp_seq_k (fun K5 hK5 => ?_)
  go_wp2_with (with_reducible refine at_dst 33 ?_)
  unfold Hid
  refine wpList_copy_wide rfl _ _ 50 50 rfl 83 2 1 Try.underlying50 (by kernel_rfl) D 0 7 7 ⟨xb, 0, none⟩ 1 xc rfl rfl _ 83 R1.out [.int .i64 (-1), .slice none 0 0] rfl rfl (fun j v hj => ?_) (by decide) (by intro v hv; simp at hv; rcases hv with rfl | rfl <;> rfl) ?_
  · rw [Addr.add_lit, Nat.zero_add, cell_of_row _ _ _ _ _ _ HX.out]
    simpa using hj
  have hr : (V.setRow D ((er 0).toArray.toList.take 0 ++ [Value.int .i64 (-1), .slice none 0 0] ++ (er 0).toArray.toList.drop (0 + [Value.int .i64 (-1), .slice none 0 0].length)).toArray).heap[D]? = some (.cells (er 1).toArray 83) := setRow_heap V D _ _ 83 _ R1.out
  have hb := below_setRow B1.out (Nat.le_refl D) ((er 0).toArray.toList.take 0 ++ [Value.int .i64 (-1), .slice none 0 0] ++ (er 0).toArray.toList.drop (0 + [Value.int .i64 (-1), .slice none 0 0].length)).toArray
  have HR := hid hr
  have HB := hid hb
  clear hr hb R1 HX B1 hmk
  generalize V.setRow D _ = V1 at *
  go_wp2_with fail
  refine hK5.out _ _ ?_
  refine wp_seq_k (fun K6 hK6 => ?_)
  refine wp_block ?_
  refine wp_loop_fr 48 (RpI W0 D) (fun y' _ => 7 - (intOf (y' 8)).toNat) ⟨rfl, rfl, 1, .inl rfl, rfl, rfl, HR.out, by rw [← HD.out]; exact HB.out⟩ ?_
  clear HR HB
  rintro z W ⟨m, hm, s7, s8, hr, hb⟩
  have HR := hid hr
  have HB := hid hb
  clear hr hb
  rw [fr48]
  simp only [s7, s8]
  clear s7 s8
  rcases hm with rfl | rfl | rfl | rfl
  · rw [show ((1 : Nat) : Int) = 1 from rfl]
    have c1 : ∀ w, (Instr.sliceAt 50 (.slice (some ⟨D, 0, none⟩) 7 7) (some (.int .i64 1)) none none).run Try.prog w = .ok (.slice (some ⟨D, 2, none⟩) 6 6) w := fun w => run_cutE D 1 (by decide) w
    have c2 : ∀ w, (Instr.sliceAt 50 (.slice (some ⟨D, 0, none⟩) 7 7) none (some (.int .i64 1)) none).run Try.prog w = .ok (.slice (some ⟨D, 0, none⟩) 1 7) w := fun w => run_cutF D 1 (by decide) w
    go_upto_block 1 with (fail)
    refine wp_block ?_
    refine wp_region_can_all [7] [0, 1, 2, 3, 4, 5, 6, 7, 8, 9] (fun _ _ => True) (fun _ => trivial) (fun _ _ _ _ _ => trivial) (by kernel_rfl) (by kernel_rfl) ?_
    simp only [List.map_cons, List.map_nil, List.contains_cons, List.contains_nil, List.getD_cons_zero, List.getD_cons_succ, Nat.reduceBEq, Bool.or_false]
    have HR2 : Hid (W.drew.heap[D]? = some (.cells (er 1).toArray 83)) := HR.out
    have HB2 := hid (HB.out.trans ((Below.refl _ W).drew))
    clear HR HB
    generalize W.drew = U at *
    iterate 7 (refine wpL_do rfl (fun w' hw' => (by go_simp; rfl)) ?_; simp only [Act.put, List.setIfInBounds_toArray, List.set_cons_succ, List.set_cons_zero])
    refine wpL_call rfl (fun K hK => ?_)
    refine wp_copy_wide (.tmp 41) (.tmp 44) 50 50 rfl 83 2 1 Try.underlying50 (by kernel_rfl) D 2 6 6 ⟨D, 0, none⟩ 1 7 rfl rfl _ 83 HR2.out [Value.int .i64 (-1), .slice none 0 0] rfl rfl (fun j v hj => ?_) (by decide) (by intro v hv; simp only [List.mem_cons, List.not_mem_nil, or_false] at hv; rcases hv with rfl | rfl <;> rfl) ?_
    · rw [Addr.add_lit, Nat.zero_add, cell_of_row _ _ _ _ _ _ HR2.out]
      have hl := (List.getElem?_eq_some_iff.1 hj).1
      have : j = 0 ∨ j = 1 := by simp at hl; omega
      rcases this with rfl | rfl <;> exact hj
    have hr := setRow_heap U D _ ((er 1).toArray.toList.take 2 ++ [Value.int .i64 (-1), .slice none 0 0] ++ (er 1).toArray.toList.drop (2 + [Value.int .i64 (-1), .slice none 0 0].length)).toArray 83 _ HR2.out
    have hb := below_setRow HB2.out (Nat.le_of_eq HD.out.symm) ((er 1).toArray.toList.take 2 ++ [Value.int .i64 (-1), .slice none 0 0] ++ (er 1).toArray.toList.drop (2 + [Value.int .i64 (-1), .slice none 0 0].length)).toArray
    have HR3 : Hid ((U.setRow D ((er 1).toArray.toList.take 2 ++ [Value.int .i64 (-1), .slice none 0 0] ++ (er 1).toArray.toList.drop (2 + [Value.int .i64 (-1), .slice none 0 0].length)).toArray).heap[D]? = some (.cells (er 2).toArray 83)) := hr
    have HB3 := hid hb
    clear hr hb HR2 HB2
    refine hK _ _ trivial ?_
    clear hK K
    simp only [Act.put, List.setIfInBounds_toArray, List.set_cons_succ, List.set_cons_zero]
    generalize U.setRow D _ = U1 at *
    repeat (refine wpL_do rfl (fun w' hw' => (by go_simp; rfl)) ?_; simp only [Act.put, List.setIfInBounds_toArray, List.set_cons_succ, List.set_cons_zero])
    refine wpL_nil ?_
    go_wp2_with fail
    refine ⟨rfl, rfl, ⟨2, by decide, rfl, rfl, HR3.out, HB3.out⟩, ?_⟩
    show 7 - (intOf (Value.int .i64 _)).toNat < _
    simp [intOf]
    decide
  · rw [show ((2 : Nat) : Int) = 2 from rfl]
    have c1 : ∀ w, (Instr.sliceAt 50 (.slice (some ⟨D, 0, none⟩) 7 7) (some (.int .i64 2)) none none).run Try.prog w = .ok (.slice (some ⟨D, 4, none⟩) 5 5) w := fun w => run_cutE D 2 (by decide) w
    have c2 : ∀ w, (Instr.sliceAt 50 (.slice (some ⟨D, 0, none⟩) 7 7) none (some (.int .i64 2)) none).run Try.prog w = .ok (.slice (some ⟨D, 0, none⟩) 2 7) w := fun w => run_cutF D 2 (by decide) w
    go_upto_block 1 with (fail)
    refine wp_block ?_
    refine wp_region_can_all [7] [0, 1, 2, 3, 4, 5, 6, 7, 8, 9] (fun _ _ => True) (fun _ => trivial) (fun _ _ _ _ _ => trivial) (by kernel_rfl) (by kernel_rfl) ?_
    simp only [List.map_cons, List.map_nil, List.contains_cons, List.contains_nil, List.getD_cons_zero, List.getD_cons_succ, Nat.reduceBEq, Bool.or_false]
    have HR2 : Hid (W.drew.heap[D]? = some (.cells (er 2).toArray 83)) := HR.out
    have HB2 := hid (HB.out.trans ((Below.refl _ W).drew))
    clear HR HB
    generalize W.drew = U at *
    iterate 7 (refine wpL_do rfl (fun w' hw' => (by go_simp; rfl)) ?_; simp only [Act.put, List.setIfInBounds_toArray, List.set_cons_succ, List.set_cons_zero])
    refine wpL_call rfl (fun K hK => ?_)
    refine wp_copy_wide (.tmp 41) (.tmp 44) 50 50 rfl 83 2 2 Try.underlying50 (by kernel_rfl) D 4 5 5 ⟨D, 0, none⟩ 2 7 rfl rfl _ 83 HR2.out [Value.int .i64 (-1), .slice none 0 0, Value.int .i64 (-1), .slice none 0 0] rfl rfl (fun j v hj => ?_) (by decide) (by intro v hv; simp only [List.mem_cons, List.not_mem_nil, or_false] at hv; rcases hv with rfl | rfl | rfl | rfl <;> rfl) ?_
    · rw [Addr.add_lit, Nat.zero_add, cell_of_row _ _ _ _ _ _ HR2.out]
      have hl := (List.getElem?_eq_some_iff.1 hj).1
      have : j = 0 ∨ j = 1 ∨ j = 2 ∨ j = 3 := by simp at hl; omega
      rcases this with rfl | rfl | rfl | rfl <;> exact hj
    have hr := setRow_heap U D _ ((er 2).toArray.toList.take 4 ++ [Value.int .i64 (-1), .slice none 0 0, Value.int .i64 (-1), .slice none 0 0] ++ (er 2).toArray.toList.drop (4 + [Value.int .i64 (-1), .slice none 0 0, Value.int .i64 (-1), .slice none 0 0].length)).toArray 83 _ HR2.out
    have hb := below_setRow HB2.out (Nat.le_of_eq HD.out.symm) ((er 2).toArray.toList.take 4 ++ [Value.int .i64 (-1), .slice none 0 0, Value.int .i64 (-1), .slice none 0 0] ++ (er 2).toArray.toList.drop (4 + [Value.int .i64 (-1), .slice none 0 0, Value.int .i64 (-1), .slice none 0 0].length)).toArray
    have HR3 : Hid ((U.setRow D ((er 2).toArray.toList.take 4 ++ [Value.int .i64 (-1), .slice none 0 0, Value.int .i64 (-1), .slice none 0 0] ++ (er 2).toArray.toList.drop (4 + [Value.int .i64 (-1), .slice none 0 0, Value.int .i64 (-1), .slice none 0 0].length)).toArray).heap[D]? = some (.cells (er 4).toArray 83)) := hr
    have HB3 := hid hb
    clear hr hb HR2 HB2
    refine hK _ _ trivial ?_
    clear hK K
    simp only [Act.put, List.setIfInBounds_toArray, List.set_cons_succ, List.set_cons_zero]
    generalize U.setRow D _ = U1 at *
    repeat (refine wpL_do rfl (fun w' hw' => (by go_simp; rfl)) ?_; simp only [Act.put, List.setIfInBounds_toArray, List.set_cons_succ, List.set_cons_zero])
    refine wpL_nil ?_
    go_wp2_with fail
    refine ⟨rfl, rfl, ⟨4, by decide, rfl, rfl, HR3.out, HB3.out⟩, ?_⟩
    show 7 - (intOf (Value.int .i64 _)).toNat < _
    simp [intOf]
    decide
  · rw [show ((4 : Nat) : Int) = 4 from rfl]
    have c1 : ∀ w, (Instr.sliceAt 50 (.slice (some ⟨D, 0, none⟩) 7 7) (some (.int .i64 4)) none none).run Try.prog w = .ok (.slice (some ⟨D, 8, none⟩) 3 3) w := fun w => run_cutE D 4 (by decide) w
    have c2 : ∀ w, (Instr.sliceAt 50 (.slice (some ⟨D, 0, none⟩) 7 7) none (some (.int .i64 4)) none).run Try.prog w = .ok (.slice (some ⟨D, 0, none⟩) 4 7) w := fun w => run_cutF D 4 (by decide) w
    go_upto_block 1 with (fail)
    refine wp_block ?_
    refine wp_region_can_all [7] [0, 1, 2, 3, 4, 5, 6, 7, 8, 9] (fun _ _ => True) (fun _ => trivial) (fun _ _ _ _ _ => trivial) (by kernel_rfl) (by kernel_rfl) ?_
    simp only [List.map_cons, List.map_nil, List.contains_cons, List.contains_nil, List.getD_cons_zero, List.getD_cons_succ, Nat.reduceBEq, Bool.or_false]
    have HR2 : Hid (W.drew.heap[D]? = some (.cells (er 4).toArray 83)) := HR.out
    have HB2 := hid (HB.out.trans ((Below.refl _ W).drew))
    clear HR HB
    generalize W.drew = U at *
    iterate 7 (refine wpL_do rfl (fun w' hw' => (by go_simp; rfl)) ?_; simp only [Act.put, List.setIfInBounds_toArray, List.set_cons_succ, List.set_cons_zero])
    refine wpL_call rfl (fun K hK => ?_)
    refine wp_copy_wide (.tmp 41) (.tmp 44) 50 50 rfl 83 2 3 Try.underlying50 (by kernel_rfl) D 8 3 3 ⟨D, 0, none⟩ 4 7 rfl rfl _ 83 HR2.out [Value.int .i64 (-1), .slice none 0 0, Value.int .i64 (-1), .slice none 0 0, Value.int .i64 (-1), .slice none 0 0] rfl rfl (fun j v hj => ?_) (by decide) (by intro v hv; simp only [List.mem_cons, List.not_mem_nil, or_false] at hv; rcases hv with rfl | rfl | rfl | rfl | rfl | rfl <;> rfl) ?_
    · rw [Addr.add_lit, Nat.zero_add, cell_of_row _ _ _ _ _ _ HR2.out]
      have hl := (List.getElem?_eq_some_iff.1 hj).1
      have : j = 0 ∨ j = 1 ∨ j = 2 ∨ j = 3 ∨ j = 4 ∨ j = 5 := by simp at hl; omega
      rcases this with rfl | rfl | rfl | rfl | rfl | rfl <;> exact hj
    have hr := setRow_heap U D _ ((er 4).toArray.toList.take 8 ++ [Value.int .i64 (-1), .slice none 0 0, Value.int .i64 (-1), .slice none 0 0, Value.int .i64 (-1), .slice none 0 0] ++ (er 4).toArray.toList.drop (8 + [Value.int .i64 (-1), .slice none 0 0, Value.int .i64 (-1), .slice none 0 0, Value.int .i64 (-1), .slice none 0 0].length)).toArray 83 _ HR2.out
    have hb := below_setRow HB2.out (Nat.le_of_eq HD.out.symm) ((er 4).toArray.toList.take 8 ++ [Value.int .i64 (-1), .slice none 0 0, Value.int .i64 (-1), .slice none 0 0, Value.int .i64 (-1), .slice none 0 0] ++ (er 4).toArray.toList.drop (8 + [Value.int .i64 (-1), .slice none 0 0, Value.int .i64 (-1), .slice none 0 0, Value.int .i64 (-1), .slice none 0 0].length)).toArray
    have HR3 : Hid ((U.setRow D ((er 4).toArray.toList.take 8 ++ [Value.int .i64 (-1), .slice none 0 0, Value.int .i64 (-1), .slice none 0 0, Value.int .i64 (-1), .slice none 0 0] ++ (er 4).toArray.toList.drop (8 + [Value.int .i64 (-1), .slice none 0 0, Value.int .i64 (-1), .slice none 0 0, Value.int .i64 (-1), .slice none 0 0].length)).toArray).heap[D]? = some (.cells (er 7).toArray 83)) := hr
    have HB3 := hid hb
    clear hr hb HR2 HB2
    refine hK _ _ trivial ?_
    clear hK K
    simp only [Act.put, List.setIfInBounds_toArray, List.set_cons_succ, List.set_cons_zero]
    generalize U.setRow D _ = U1 at *
    repeat (refine wpL_do rfl (fun w' hw' => (by go_simp; rfl)) ?_; simp only [Act.put, List.setIfInBounds_toArray, List.set_cons_succ, List.set_cons_zero])
    refine wpL_nil ?_
    go_wp2_with fail
    refine ⟨rfl, rfl, ⟨7, by decide, rfl, rfl, HR3.out, HB3.out⟩, ?_⟩
    show 7 - (intOf (Value.int .i64 _)).toNat < _
    simp [intOf]
    decide
  · rw [show ((7 : Nat) : Int) = 7 from rfl]
    go_wp2_with fail
    refine hK6.out _ _ ?_
    go_wp2_with fail
    go_ret
    exact ⟨D, rfl, Nat.le_of_eq HD.out.symm, HR.out, HB.out⟩
end Go.Proofs.Ytjiipmalahhcpaa
/- frame: Listen. -/
namespace Go.Proofs.Ytjiipmalahhcpaa
set_option linter.unusedVariables false
open Go.RowKit

/-- a listener's ears read as l -/
structure HearL (W : World) (eb ec : Nat) (l : Nat → LE) : Prop where
  ex : ∃ e, EB7 W eb e ∧ (∀ c, c < 7 → RdT 5 W (e c).ra (e c).rn (e c).rc (vb (e c).rs)) ∧ ∀ c, c < 7 → (e c).abs = l c
  k : ∀ c, c < 7 → (l c).Ok
  le : 7 ≤ ec
  mx : ec ≤ maxLen
theorem HearL.below {W W' : World} {eb ec : Nat} {l : Nat → LE} (h : HearL W eb ec l) (hb : Below W.heap.size W W') : HearL W' eb ec l := by
  obtain ⟨e, h1, h2, h3⟩ := h.ex
  exact ⟨⟨e, h1.below hb, fun c hc => (h2 c hc).below hb, h3⟩, h.k, h.le, h.mx⟩
theorem HearL.other {W W' : World} {eb ec k T : Nat} {l : Nat → LE} {cs : Array Value} (h : HearL W eb ec l) (hg : W.grownBy W' (some k)) (hk : W.heap[k]? = some (.cells cs T)) (h1 : T ≠ 83) (h2 : 5 ≠ T) : HearL W' eb ec l := by
  obtain ⟨e, k1, k2, k3⟩ := h.ex
  exact ⟨⟨e, k1.other hg hk h1, fun c hc => (k2 c hc).other hg hk h2, k3⟩, h.k, h.le, h.mx⟩
/-- a listener's value -/
def lv (craft size : Nat) (master : Int) (eb ec : Nat) : Value := .agg #[.int .i64 (craft : Int), .int .i64 (size : Int), .int .i64 master, .slice (some ⟨eb, 0, none⟩) 7 ec]
def le0 : LE := ⟨-1, []⟩
theorem le0_ok : le0.Ok := ⟨by decide, by decide, Nat.zero_le _, fun _ => rfl, fun x hx => by cases hx⟩
theorem er7 {W : World} {g : Nat} (h : W.heap[g]? = some (.cells (er 7).toArray 83)) : EB7 W g (fun _ => ⟨-1, none, 0, 0, []⟩) := by
  refine ⟨_, h, by decide, fun j hj => ?_⟩
  have : j = 0 ∨ j = 1 ∨ j = 2 ∨ j = 3 ∨ j = 4 ∨ j = 5 ∨ j = 6 ∨ j = 7 ∨ j = 8 ∨ j = 9 ∨ j = 10 ∨ j = 11 ∨ j = 12 ∨ j = 13 := by omega
  rcases this with rfl | rfl | rfl | rfl | rfl | rfl | rfl | rfl | rfl | rfl | rfl | rfl | rfl | rfl <;> rfl
theorem four {W : World} {b : Nat} {e : TypeId} {o0 o1 o2 o3 : Value} (A : W.heap[b]? = some (.cells #[o0, o1, o2, o3] e)) (v0 v1 v2 v3 : Value) :
    ((((W.setCell ⟨b, 0, none⟩ v0).setCell ⟨b, 1, none⟩ v1).setCell ⟨b, 2, none⟩ v2).setCell ⟨b, 3, none⟩ v3).heap[b]? = some (.cells #[v0, v1, v2, v3] e) ∧ W.grownBy ((((W.setCell ⟨b, 0, none⟩ v0).setCell ⟨b, 1, none⟩ v1).setCell ⟨b, 2, none⟩ v2).setCell ⟨b, 3, none⟩ v3) (some b) := by
  obtain ⟨h0, g0⟩ := set_row (cs' := #[v0, o1, o2, o3]) A 0 v0 rfl
  obtain ⟨h1, g1⟩ := set_row (cs' := #[v0, v1, o2, o3]) h0 1 v1 rfl
  obtain ⟨h2, g2⟩ := set_row (cs' := #[v0, v1, v2, o3]) h1 2 v2 rfl
  obtain ⟨h3, g3⟩ := set_row (cs' := #[v0, v1, v2, v3]) h2 3 v3 rfl
  exact ⟨h3, grownBy_trans g0 (grownBy_trans g1 (grownBy_trans g2 g3))⟩
structure ListenR (W0 W : World) (craft size : Nat) (e : Ending) : Prop where
  ex : ∃ eb ec, e = .returned (.tuple #[lv craft size (-1) eb ec, .int .i64 0]) ∧ HearL W eb ec (fun _ => le0)
  blw : Below W0.heap.size W0 W
set_option maxRecDepth 1000000 in
set_option maxHeartbeats 4000000 in
theorem listen_ok (craft size : Nat) (W0 : World) (h1 : craft ≤ 1023) (h2 : 13 ≤ size) (h3 : size ≤ 2048) :
    Calls Try.prog 11 #[.int .i64 (craft : Int), .int .i64 (size : Int)] W0 fun e w' => ListenR W0 w' craft size e := by
  have b1 := below_alloc W0 (.cells #[.int .i64 0, .int .i64 0, .int .i64 0, .slice none 0 0] 52)
  have r1 := heap_alloc_new W0 (.cells #[.int .i64 0, .int .i64 0, .int .i64 0, .slice none 0 0] 52)
  obtain ⟨P, hP⟩ : ∃ P, P = W0.heap.size := ⟨_, rfl⟩
  rw [← hP] at r1 b1
  have HP := hid hP
  have R1 := hid r1
  have B1 := hid b1
  clear hP r1 b1
  go_enter Try.func11, Try.ntmps11
  refine wp_seq_k (fun K0 hK0 => ?_)
  go_wp2_with fail
  rw [← HP.out]
  refine hK0.out _ _ ?_
  generalize W0.alloc (.cells #[.int .i64 0, .int .i64 0, .int .i64 0, .slice none 0 0] 52) = V1 at *
  have hmk := makes_ok craft size V1 h1 h2 h3
  refine wp_seq_k (fun K1 hK1 => ?_)
  go_wp2_with fail
  refine hmk.mono ?_
  rintro e w' ⟨rfl, hw'⟩
  rw [hw']
  clear hw' w' hmk
  go_wp2_with fail
  refine hK1.out _ _ ?_
  have b2 := below_alloc V1 (.cells #[.int .i64 (-1), .slice none 0 0] 83)
  have r2 := heap_alloc_new V1 (.cells #[.int .i64 (-1), .slice none 0 0] 83)
  have HlP := hid (row_lt R1.out)
  have R12 := hid (row_below R1.out b2)
  have B2 := hid (B1.out.trans (b2.mono (Nat.le_of_lt HlP.out)))
  have hz2 : Hid ((V1.alloc (.cells #[.int .i64 (-1), .slice none 0 0] 83)).heap.size = V1.heap.size + 1) := World.size_alloc _ _
  have hrep := repeat_ok V1.heap.size 1 _ r2
  refine wp_seq_k (fun K2 hK2 => ?_)
  go_wp2_with fail
  refine hrep.mono ?_
  rintro e V3 ⟨g, rfl, hg, hr, hb3⟩
  have hE := er7 hr
  have hr3 := row_below R12.out hb3
  have B3 := hid (B2.out.trans (hb3.mono (Nat.le_of_lt (row_lt R12.out))))
  have t0 : V3.cell? ⟨P, 0, none⟩ = some (.int .i64 0) := by rw [cell_of_row _ _ _ _ _ _ hr3]; rfl
  have t1 : V3.cell? ⟨P, 1, none⟩ = some (.int .i64 0) := by rw [cell_of_row _ _ _ _ _ _ hr3]; rfl
  have t2 : V3.cell? ⟨P, 2, none⟩ = some (.int .i64 0) := by rw [cell_of_row _ _ _ _ _ _ hr3]; rfl
  have t3 : V3.cell? ⟨P, 3, none⟩ = some (.slice none 0 0) := by rw [cell_of_row _ _ _ _ _ _ hr3]; rfl
  have fz := frozen_row hr3
  obtain ⟨f1, f2⟩ := four hr3 (.int .i64 (craft : Int)) (.int .i64 (size : Int)) (.int .i64 (-1)) (.slice (some ⟨g, 0, none⟩) 7 7)
  have HF1 := hid f1
  have HE := hid (hE.other f2 hr3 (by decide))
  have HB := hid (B3.out.grown f2 (Nat.le_of_lt (row_lt hr3)) (fun k e => by cases e; exact Nat.le_refl _))
  clear f1 f2 hr3 hE hr hrep hb3 hg R12 B2 b2 r2 R1 B1
  go_wp2_with fail
  refine hK2.out _ _ ?_
  clear t0 t1 t2 t3 fz
  generalize (((V3.setCell ⟨P, 0, none⟩ (.int .i64 (craft : Int))).setCell ⟨P, 1, none⟩ (.int .i64 (size : Int))).setCell ⟨P, 2, none⟩ (.int .i64 (-1))).setCell ⟨P, 3, none⟩ (.slice (some ⟨g, 0, none⟩) 7 7) = Z at *
  go_wp2_with fail
  refine bodyPost_ret (results_c1 rfl _ _ P 52 #[.int .i64 (craft : Int), .int .i64 (size : Int), .int .i64 (-1), .slice (some ⟨g, 0, none⟩) 7 7] (0, 0) _ rfl HF1.out Try.underlying52 rfl (by kernel_rfl)) rfl ?_
  exact ⟨⟨g, 7, rfl, ⟨⟨_, HE.out, fun c hc => RdT.nil 5 _, fun c hc => rfl⟩, fun c hc => le0_ok, Nat.le_refl _, by unfold maxLen; omega⟩⟩, by rw [← HP.out]; exact HB.out⟩
end Go.Proofs.Ytjiipmalahhcpaa
/- frame: hearing. -/
namespace Go.Proofs.Ytjiipmalahhcpaa
set_option linter.unusedVariables false
open Go.RowKit

set_option maxRecDepth 1000000 in
theorem fr81 (y : Nat → Value) : fr 81 y = #[y 0, y 1, y 2, y 3, y 4, y 5, y 6, y 7, y 8, y 9, y 10, y 11, y 12, y 13, y 14, y 15, y 16, y 17, y 18, y 19, y 20, y 21, y 22, y 23, y 24, y 25, y 26, y 27, y 28, y 29, y 30, y 31, y 32, y 33, y 34, y 35, y 36, y 37, y 38, y 39, y 40, y 41, y 42, y 43, y 44, y 45, y 46, y 47, y 48, y 49, y 50, y 51, y 52, y 53, y 54, y 55, y 56, y 57, y 58, y 59, y 60, y 61, y 62, y 63, y 64, y 65, y 66, y 67, y 68, y 69, y 70, y 71, y 72, y 73, y 74, y 75, y 76, y 77, y 78, y 79, y 80] := rfl
structure HG (w0 W : World) (P g gc : Nat) (c0 c1 c2 : Value) (l : Nat → LE) : Prop where
  p1 : W.heap[P]? = some (.cells #[c0, c1, c2, .slice (some ⟨g, 0, none⟩) 7 gc] 52)
  p2 : W.heap[P + 1]? = some (.cells #[.int .i64 0, .int .i64 0, .int .i64 0, .slice none 0 0] 52)
  ex : ∃ e, EB7 W g e ∧ (∀ c, c < 7 → RdT 5 W (e c).ra (e c).rn (e c).rc (vb (e c).rs)) ∧ ∀ c, c < 7 → (e c).abs = l c
  blw : Below w0.heap.size w0 W
  b1 : w0.heap.size ≤ P
  b2 : w0.heap.size ≤ g
def HgI (w0 : World) (P g gc : Nat) (c0 c1 c2 : Value) (l : Nat → LE) (y : Nat → Value) (W : World) : Prop :=
  ∃ i : Nat, i ≤ 7 ∧ y 1 = .pointer (some ⟨P, 0, none⟩) ∧ y 2 = .pointer (some ⟨P + 1, 0, none⟩) ∧ y 32 = .int .i64 7 ∧ y 33 = .int .i64 (i : Int) ∧ HG w0 W P g gc c0 c1 c2 l
structure SG (y : Nat → Value) (P g i : Nat) : Prop where
  s1 : y 1 = .pointer (some ⟨P, 0, none⟩)
  s2 : y 2 = .pointer (some ⟨P + 1, 0, none⟩)
  s5 : y 5 = .pointer (some ⟨g, i * 2, none⟩)
  s32 : y 32 = .int .i64 7
  s33 : y 33 = .int .i64 (i : Int)
set_option maxRecDepth 1000000 in
set_option maxHeartbeats 4000000 in
theorem hrg_8 (P g i : Nat) (nx : Int) (ra : Option Addr) (rn rc : Nat) (o1 : -1 ≤ nx) (o2 : nx ≤ 255) (o3 : rn ≤ 65541) (o4 : nx < 0 → rn = 0) :
    Tri Try.prog 81 (pieceOf Try.f27 [1, 1, 1, 0, 1, 0, 0, 1, 1, 0, 0, 1, 1, 0]) (fun y w => SG y P g i ∧ w.cell? ⟨g, i * 2, none⟩ = some (.int .i64 nx) ∧ w.cell? ⟨g, i * 2 + 1, none⟩ = some (.slice ra rn rc))
      (fun _ w y w' => SG y P g i ∧ w' = w) := by
  rintro Q y w ⟨⟨s1, s2, s5, s32, s33⟩, k0, k1⟩ hQ
  have HQ := hid hQ
  clear hQ
  conv => arg 2; whnf
  rw [fr81]
  simp only [s1, s2, s5, s32, s33]
  clear s1 s2 s5 s32 s33
  have e1 : decide (65541 < (rn : Int)) = false := decide_eq_false (by omega)
  have e2 : decide (65541 < rn) = false := decide_eq_false (by omega)
  have w1 : IntKind.i64.wrap (nx + 1) = nx + 1 := IntWalk.i64_in _ (by omega)
  by_cases hn : nx < 0
  · obtain rfl := o4 hn
    have e3 : decide (nx < 0) = true := decide_eq_true hn
    go_wp2_with ((go_at_call 19; refine (in_f _ _ _ (by omega) (by omega)).mono ?_; rintro e w' ⟨rfl, hw'⟩; rw [hw']; clear hw' w'))
    exact q_fr (N := 81) HQ.out rfl ⟨⟨rfl, rfl, rfl, rfl, rfl⟩, rfl⟩
  · have e3 : decide (nx < 0) = false := decide_eq_false hn
    go_wp2_with ((go_at_call 19; refine (in_f _ _ _ (by omega) (by omega)).mono ?_; rintro e w' ⟨rfl, hw'⟩; rw [hw']; clear hw' w'))
    exact q_fr (N := 81) HQ.out rfl ⟨⟨rfl, rfl, rfl, rfl, rfl⟩, rfl⟩
set_option maxRecDepth 1000000 in
set_option maxHeartbeats 4000000 in
theorem hrg_l (w0 W1 : World) (P g gc : Nat) (a0 a1 a2 : Int) (l : Nat → LE) (hk : ∀ c, c < 7 → (l c).Ok) (hM : HG w0 W1 P g gc (.int .i64 a0) (.int .i64 a1) (.int .i64 a2) l) (hgc : 7 ≤ gc ∧ gc ≤ maxLen) :
    Tri Try.prog 81 (pieceOf Try.f27 [1, 1, 1, 0, 1]) (fun y w => (y 1 = .pointer (some ⟨P, 0, none⟩) ∧ y 2 = .pointer (some ⟨P + 1, 0, none⟩) ∧ y 32 = .int .i64 7 ∧ y 33 = .int .i64 0) ∧ w = W1)
      (fun _ _ y w => (y 1 = .pointer (some ⟨P, 0, none⟩) ∧ y 2 = .pointer (some ⟨P + 1, 0, none⟩)) ∧ HG w0 w P g gc (.int .i64 a0) (.int .i64 a1) (.int .i64 a2) l) := by
  rintro Q y w ⟨⟨s1, s2, s32, s33⟩, rfl⟩ hQ
  have HQ := hid hQ
  have HK := hid hk
  obtain ⟨hg1, hg2⟩ := hgc
  unfold maxLen at hg2
  clear hQ hk
  conv => arg 2; whnf
  refine wp_block ?_
  refine wp_loop_fr 81 (HgI w0 P g gc (.int .i64 a0) (.int .i64 a1) (.int .i64 a2) l) (fun y' _ => 7 - (intOf (y' 33)).toNat) ⟨rfl, rfl, 0, Nat.zero_le _, s1, s2, s32, s33, hM⟩ ?_
  clear hM s1 s2 s32 s33
  rintro z W ⟨i, hi, s1, s2, s32, s33, hM⟩
  have HM := hid hM
  rw [fr81]
  simp only [s1, s2, s32, s33]
  clear s1 s2 s32 s33
  by_cases hlt : i < 7
  · have d1 : decide ((i : Int) < 7) = true := decide_eq_true (by omega)
    have d2 : decide (i < 7) = true := decide_eq_true hlt
    have hi7 : (i : Int) < 7 := by omega
    have p3 : W.cell? ⟨P, 3, none⟩ = some (.slice (some ⟨g, 0, none⟩) 7 gc) := by rw [cell_of_row _ _ _ _ _ _ hM.p1]; rfl
    obtain ⟨e, he, hr, ha⟩ := hM.ex
    obtain ⟨k0, k1, kf⟩ := he.cell i hlt
    have kf := kf (i * 2 + 1)
    have hri := hr i hlt
    have hok := HK.out i hlt
    rw [← ha i hlt] at hok
    obtain ⟨o1, o2, o3, o4, _⟩ := hok
    have hrl : (e i).rs.length = (e i).rn := by have := hri.rd.len; rwa [vb_len] at this
    have o3 : (e i).rs.length ≤ 65541 := o3
    have o1 : -1 ≤ (e i).nx := o1
    have o2 : (e i).nx ≤ 255 := o2
    have o4 : (e i).nx < 0 → (e i).rs = [] := o4
    rw [hrl] at o3
    have hrm := hri.rd.max
    have hrc := hri.rd.le
    unfold maxLen at hrm
    have hcl := clone_any (e i).ra (e i).rn (e i).rc (e i).rs W hri.rd (by omega)
    have HE := hid he
    have HR := hid hr
    have HA := hid ha
    have e1 : decide (65541 < ((e i).rn : Int)) = false := decide_eq_false (by omega)
    have e2 : decide (65541 < (e i).rn) = false := decide_eq_false (by omega)
    have w1 : IntKind.i64.wrap ((e i).nx + 1) = (e i).nx + 1 := IntWalk.i64_in _ (by omega)
    clear he hr ha hri hM
    go_upto_block 1 with (fail)
    refine wp_block ?_
    refine wp_seq_k (fun K1 hK1 => ?_)
    go_wp2_with fail
    refine hK1.out _ _ ?_
    refine wp_seq_k (fun K2 hK2 => ?_)
    go_wp2_with fail
    refine hK2.out _ _ ?_
    have o4' : (e i).nx < 0 → (e i).rn = 0 := fun h => by rw [← hrl, o4 h]; rfl
    clear e1 e2 w1
    refine wp_seq_k (fun K3 hK3 => ?_)
    refine Tri.use (hrg_8 P g i (e i).nx (e i).ra (e i).rn (e i).rc o1 o2 o3 o4') rfl ⟨⟨rfl, rfl, rfl, rfl, rfl⟩, k0, k1⟩ ?_
    rintro y2 w2 ⟨⟨s1, s2, s5, s32, s33⟩, hw2⟩
    rw [hw2]
    refine hK3.out _ _ ?_
    rw [fr81]
    simp only [s1, s2, s5, s32, s33]
    clear s1 s2 s5 s32 s33 hw2 w2
    go_wp2_with fail
    refine hcl.mono ?_
    rintro en W2 ⟨na, nc, rfl, ho2, hb2⟩
    have he2 := HE.out.below hb2
    obtain ⟨_, k1, kf⟩ := he2.cell i hlt
    have kf := kf (i * 2 + 1)
    obtain ⟨i1, i2⟩ := he2.putr hlt na (e i).rn nc (e i).rs
    obtain ⟨cq, hcq, _⟩ := he2.ex
    have hp1 := row_below HM.out.p1 hb2
    have hp2 := row_below HM.out.p2 hb2
    have HN : Hid (HG w0 (W2.setCell ⟨g, i * 2 + 1, none⟩ (.slice na (e i).rn nc)) P g gc (.int .i64 a0) (.int .i64 a1) (.int .i64 a2) l) := by
      refine ⟨row_grown hp1 i2 (ne_tt hp1 hcq (by decide)), row_grown hp2 i2 (ne_tt hp2 hcq (by decide)), ⟨_, i1, fun c hc => ?_, fun c hc => ?_⟩, (HM.out.blw.trans (hb2.mono HM.out.blw.size)).grown i2 (Nat.le_trans HM.out.blw.size hb2.size) (fun k e => by cases e; exact HM.out.b2), HM.out.b1, HM.out.b2⟩
      · by_cases ec : c = i
        · subst ec
          rw [setE_self]
          exact (RdT.ofOwn ho2).other i2 hcq (by decide)
        · rw [setE_ne _ _ ec]
          exact ((HR.out c hc).below hb2).other i2 hcq (by decide)
      · by_cases ec : c = i
        · subst ec
          rw [setE_self]
          exact HA.out c hc
        · rw [setE_ne _ _ ec]
          exact HA.out c hc
    clear hcl ho2 hb2 he2 i1 i2 hcq hp1 hp2 HM HE HR HA
    go_wp2_with fail
    refine ⟨rfl, rfl, ⟨i + 1, by omega, rfl, rfl, rfl, ?_, HN.out⟩, ?_⟩
    · show Value.int .i64 _ = Value.int .i64 _
      go_num
    · show 7 - (intOf (Value.int .i64 _)).toNat < _
      simp [intOf]
      omega
  · obtain rfl : i = 7 := by omega
    clear hM
    rw [show ((7 : Nat) : Int) = 7 from rfl]
    go_wp2_with fail
    exact q_fr (N := 81) HQ.out rfl ⟨⟨rfl, rfl⟩, HM.out⟩
end Go.Proofs.Ytjiipmalahhcpaa
