/- Passes: Choose of no passes. -/
import Derived.Test.YtfbchmihkndfaaaChoP
namespace Go.Proofs.Ytfbchmihkndfaaa
set_option linter.unusedVariables false
open Go.RowKit

set_option maxRecDepth 1000000 in
theorem ins0 (f : Value) (w : World) : Calls Try.prog 42 #[.slice none 0 0, .int .i64 0, .int .i64 0, f] w fun e w' => e = .returned (.tuple #[]) ∧ w' = w := by
  go_enter Try.func42, Try.ntmps42
  go_wp2_with fail
  refine wp_loop_rounds 1 ?_
  rw [rounds_succ]
  go_wp2_with fail
  go_end0
  exact ⟨rfl, rfl⟩
set_option maxRecDepth 1000000 in
theorem pdq0 (r : Int) (f : Value) (w : World) : Calls Try.prog 33 #[.slice none 0 0, .int .i64 0, .int .i64 0, .int .i64 r, f] w fun e w' => e = .returned (.tuple #[]) ∧ w' = w := by
  have hi := ins0 f w
  go_enter Try.func33, Try.ntmps33
  go_wp2_with fail
  refine wp_loop_rounds 1 ?_
  rw [rounds_succ]
  go_wp2_with fail
  refine hi.mono ?_
  rintro e w' ⟨rfl, hw⟩
  rw [hw]
  clear hw w'
  go_wp2_with fail
  exact bodyPost_ret (v := .tuple #[]) (by simp [results, Try.results33, go_sem]) rfl ⟨rfl, rfl⟩
set_option maxRecDepth 1000000 in
theorem sort0 (f : Value) (w : World) : Calls Try.prog 15 #[.slice none 0 0, f] w fun e w' => e = .returned (.tuple #[]) ∧ w' = w := by
  have hi := fun r => pdq0 r f w
  have hle := len_any 0 w (by decide)
  go_enter Try.func15, Try.ntmps15
  go_wp2_with fail
  refine hle.mono ?_
  rintro e w' ⟨r, rfl, hw⟩
  rw [hw]
  clear hw w'
  go_wp2_with fail
  refine (hi r).mono ?_
  rintro e w' ⟨rfl, hw⟩
  rw [hw]
  clear hw w'
  go_wp2_with fail
  go_end0
  exact ⟨rfl, rfl⟩
set_option maxRecDepth 1000000 in
set_option maxHeartbeats 4000000 in
theorem choose_0 (gap : Nat) (W0 : World) (hgap : gap ≤ 1000) :
    Calls Try.prog 8 #[.slice none 0 0, .int .i64 (gap : Int)] W0 fun e w' => e = .returned (.tuple #[.slice none 0 0, .int .i64 0, .int .i64 0]) ∧ Below W0.heap.size W0 w' := by
  have b1 := below_alloc W0 (.cells #[.slice none 0 0] 39)
  have r1 := heap_alloc_new W0 (.cells #[.slice none 0 0] 39)
  obtain ⟨X, hX⟩ : ∃ X, X = W0.heap.size := ⟨_, rfl⟩
  rw [← hX] at r1 b1
  have HX := hid hX
  have R1 := hid r1
  have B1 := hid b1
  have c0 : (W0.alloc (.cells #[.slice none 0 0] 39)).cell? ⟨X, 0, none⟩ = some (.slice none 0 0) := by rw [cell_of_row _ _ _ _ _ _ r1]; rfl
  have hho := has_ok none 0 0 [] (fun i hi => by simp at hi) (by decide) (W0.alloc (.cells #[.slice none 0 0] 39)) ⟨rfl, Nat.le_refl _, by unfold maxLen; omega, fun h => by omega⟩
  clear r1 b1 hX
  go_enter Try.func8, Try.ntmps8
  refine wp_seq_k (fun K0 hK0 => ?_)
  go_wp2_with fail
  rw [← HX.out]
  refine hK0.out _ _ ?_
  generalize W0.alloc (.cells #[.slice none 0 0] 39) = W1 at *
  refine wp_seq_k (fun K1 hK1 => ?_)
  go_wp2_with ((go_at_call 12; refine (in_yes _ _ _ _ (by omega) (by omega)).mono ?_; rintro e w' ⟨rfl, rfl⟩))
  refine hho.mono ?_
  rintro e W2 ⟨rfl, b2⟩
  have R2 := hid (row_below R1.out b2)
  have B2 := hid (B1.out.trans (b2.mono (by have := B1.out.size; rw [← HX.out] at this; omega)))
  clear b2 hho c0
  go_wp2_with fail
  refine hK1.out _ _ ?_
  refine wp_seq_k (fun K5 hK5 => ?_)
  have hmb := run_mkB 0 (by omega)
  have hmb : ∀ (u : World), (Instr.makeSlice 53 (.int .i64 0) (.int .i64 0)).run Try.prog u = .ok (.slice (some ⟨u.heap.size, 0, none⟩) 0 0) (u.alloc (.cells (madeCells #[.int .i64 0, .int .i64 0, .int .i64 0] (0 * 3)) 59)) := hmb
  generalize madeCells #[.int .i64 0, .int .i64 0, .int .i64 0] (0 * 3) = MB at *
  have hd2 : ∀ w', Below W2.heap.size W2.drew w' → Below W2.heap.size W2 w' := fun w' h => (Below.refl _ W2).drew.trans h
  have e0 : ∀ w', Below W2.heap.size W2.drew w' → w'.cell? ⟨X, 0, none⟩ = some (.slice none 0 0) := fun w' h => by rw [cell_of_row _ _ _ _ _ _ (row_below R2.out (hd2 w' h))]; rfl
  refine wp_region_can_all [4, 6] [0, 1, 2, 3, 4, 5, 6, 7] (Below W2.heap.size) (fun _ => Below.refl _ _) (fun _ _ _ h k => h.trans k) (by kernel_rfl) (by kernel_rfl) ?_
  simp only [List.map_cons, List.map_nil, List.contains_cons, List.contains_nil, List.getD_cons_zero, List.getD_cons_succ, Nat.reduceBEq, Bool.or_false, Bool.or_true]
  have hdd := hid ((Below.refl W2.heap.size W2).drew)
  have hds : Hid (W2.drew.heap.size = W2.heap.size) := rfl
  clear hd2
  generalize W2.drew = U at *
  repeat (refine wpL_do rfl (fun w' hw' => (by go_simp; rfl)) ?_; simp only [Act.put, List.setIfInBounds_toArray, List.set_cons_succ, List.set_cons_zero])
  clear e0
  have B3 := hid (below_alloc U (.cells MB 59))
  refine wpL_call rfl (fun K hK => ?_)
  go_wp2_with fail
  refine hK _ _ (B3.out.mono (Nat.le_of_eq hds.out.symm)) ?_
  clear hK K hmb
  try simp only [Act.put, List.setIfInBounds_toArray, List.set_cons_succ, List.set_cons_zero]
  obtain ⟨bb, hbb⟩ : ∃ bb, bb = U.heap.size := ⟨_, rfl⟩
  rw [← hbb]
  clear hbb
  generalize U.alloc (.cells MB 59) = U3 at *
  refine wpL_do rfl (fun w' hw' => (by go_simp; rfl)) ?_
  simp only [Act.put, List.setIfInBounds_toArray, List.set_cons_succ, List.set_cons_zero]
  have B4 := hid (below_alloc U3 (.cells #[.slice none 0 0, .int .i64 (gap : Int), .slice (some ⟨bb, 0, none⟩) 0 0] 55))
  have R4 := hid (heap_alloc_new U3 (.cells #[.slice none 0 0, .int .i64 (gap : Int), .slice (some ⟨bb, 0, none⟩) 0 0] 55))
  refine wpL_call rfl (fun K hK => ?_)
  go_wp2_with fail
  refine hK _ _ (B4.out.mono (by have := B3.out.size; have := hds.out; omega)) ?_
  clear hK K
  try simp only [Act.put, List.setIfInBounds_toArray, List.set_cons_succ, List.set_cons_zero]
  obtain ⟨P, hP⟩ : ∃ P, P = U3.heap.size := ⟨_, rfl⟩
  rw [← hP] at R4 ⊢
  clear hP
  generalize U3.alloc (.cells #[.slice none 0 0, .int .i64 (gap : Int), .slice (some ⟨bb, 0, none⟩) 0 0] 55) = U4 at *
  refine wpL_do rfl (fun w' hw' => (by go_simp; rfl)) ?_
  simp only [Act.put, List.setIfInBounds_toArray, List.set_cons_succ, List.set_cons_zero]
  refine wpL_nil ?_
  refine hK5.out _ _ ?_
  have hb24 : Below W2.heap.size W2 U4 := (hdd.out.trans (B3.out.mono (Nat.le_of_eq hds.out.symm))).trans (B4.out.mono (by have := B3.out.size; have := hds.out; omega))
  have Hx4 := hid (row_below R2.out hb24)
  have B24 := hid (B2.out.trans (hb24.mono (by have := B2.out.size; rw [← HX.out] at this; omega)))
  clear hb24 B3 B4 hdd hds
  have x0 : U4.cell? ⟨X, 0, none⟩ = some (.slice none 0 0) := by rw [cell_of_row _ _ _ _ _ _ Hx4.out]; rfl
  have hs := sort0 (.func (.func 16) #[] #[.pointer (some ⟨X, 0, none⟩)]) U4
  refine wp_seq_k (fun K6 hK6 => ?_)
  go_wp2_with fail
  refine hK6.out _ _ ?_
  refine wp_seq_k (fun K7 hK7 => ?_)
  go_wp2_with fail
  refine wp_loop_rounds 1 ?_
  rw [rounds_succ]
  go_wp2_with fail
  refine hK7.out _ _ ?_
  clear x0
  refine wp_seq_k (fun K9 hK9 => ?_)
  go_wp2_with fail
  refine hs.mono ?_
  rintro e w' ⟨rfl, hw⟩
  rw [hw]
  clear hw w' hs
  go_wp2_with fail
  refine hK9.out _ _ ?_
  refine wp_seq_k (fun K10 hK10 => ?_)
  go_wp2_with fail
  refine hK10.out _ _ ?_
  refine wp_seq_k (fun K11 hK11 => ?_)
  go_wp2_with fail
  refine wp_loop_rounds 1 ?_
  rw [rounds_succ]
  go_wp2_with fail
  refine hK11.out _ _ ?_
  refine wp_seq_k (fun K13 hK13 => ?_)
  go_wp2_with fail
  refine hK13.out _ _ ?_
  refine wp_seq_k (fun K14 hK14 => ?_)
  go_wp2_with fail
  refine wp_loop_rounds 1 ?_
  rw [rounds_succ]
  go_wp2_with fail
  refine hK14.out _ _ ?_
  have hof : Calls Try.prog 19 #[.pointer (some ⟨P, 0, none⟩), .int .i64 (-1)] U4 fun e w' => e = .returned (.agg #[.int .i64 0, .int .i64 0, .int .i64 (-1)]) ∧ Below U4.heap.size U4 w' := by
    have b9 := hid (below_alloc U4 (.cells #[.int .i64 0, .int .i64 0, .int .i64 (-1)] 59))
    have r9 := hid (heap_alloc_new U4 (.cells #[.int .i64 0, .int .i64 0, .int .i64 (-1)] 59))
    clear hK14 hK13 hK11 hK10 hK9 hK7 hK6 hK5 hK1 hK0
    go_enter Try.func19, Try.ntmps19
    go_wp2_with fail
    generalize U4.alloc (.cells #[.int .i64 0, .int .i64 0, .int .i64 (-1)] 59) = U at *
    exact bodyPost_ret (results_cell_row rfl _ _ U4.heap.size 59 #[.int .i64 0, .int .i64 0, .int .i64 (-1)] (0, 0) _ rfl r9.out Try.underlying59 rfl (by kernel_rfl)) rfl ⟨rfl, b9.out⟩
  have hfd : ∀ (a b c : Int) (W : World), (Instr.field 59 (.agg #[.int .i64 a, .int .i64 b, .int .i64 c]) 0).run Try.prog W = .ok (.int .i64 a) W := fun _ _ _ _ => by kernel_rfl
  go_wp2_with fail
  refine hof.mono ?_
  rintro e W9 ⟨rfl, b9⟩
  have B9 := hid (B24.out.trans (b9.mono (by have := B24.out.size; rw [← HX.out] at this; exact this)))
  clear b9 hof
  go_wp2_with fail
  go_ret3
  exact ⟨rfl, by rw [← HX.out]; exact B9.out⟩
end Go.Proofs.Ytfbchmihkndfaaa
