/- deliver: alike, on a note and itself. -/
import Derived.Test.YtopmamgdfngdoaaWhole12
import Derived.Test.YtopmamgdfngdoaaWhole11
namespace Go.Proofs.Ytopmamgdfngdoaa
set_option linter.unusedVariables false
open Go.RowKit

set_option maxRecDepth 1000000 in
set_option maxHeartbeats 4000000 in
theorem alike_ok (f0 f1 f3 f4 f5 f8 f9 : Int) (f2 : ByteArray) (a6 a7 : Option Addr) (n6 c6 n7 c7 : Nat) (w : World) :
    Calls Try.prog 50 #[.agg #[.int .i64 f0, .int .i64 f1, .string f2, .int .i64 f3, .int .i64 f4, .int .i64 f5, .slice a6 n6 c6, .slice a7 n7 c7, .int .i64 f8, .int .i64 f9], .agg #[.int .i64 f0, .int .i64 f1, .string f2, .int .i64 f3, .int .i64 f4, .int .i64 f5, .slice a6 n6 c6, .slice a7 n7 c7, .int .i64 f8, .int .i64 f9]] w fun e w' => e = .returned (.bool true) ∧ Below w.heap.size w w' := by
  obtain ⟨C, hC⟩ : ∃ C : Array Value, C = #[.int .i64 f0, .int .i64 f1, .string f2, .int .i64 f3, .int .i64 f4, .int .i64 f5, .slice a6 n6 c6, .slice a7 n7 c7, .int .i64 f8, .int .i64 f9] := ⟨_, rfl⟩
  have b1 := below_alloc w (.cells #[.int .i64 f0, .int .i64 f1, .string f2, .int .i64 f3, .int .i64 f4, .int .i64 f5, .slice a6 n6 c6, .slice a7 n7 c7, .int .i64 f8, .int .i64 f9] 60)
  have A1 := heap_alloc_new w (.cells #[.int .i64 f0, .int .i64 f1, .string f2, .int .i64 f3, .int .i64 f4, .int .i64 f5, .slice a6 n6 c6, .slice a7 n7 c7, .int .i64 f8, .int .i64 f9] 60)
  generalize hV1 : w.alloc (.cells #[.int .i64 f0, .int .i64 f1, .string f2, .int .i64 f3, .int .i64 f4, .int .i64 f5, .slice a6 n6 c6, .slice a7 n7 c7, .int .i64 f8, .int .i64 f9] 60) = V1 at *
  have b2 := below_alloc V1 (.cells #[.int .i64 f0, .int .i64 f1, .string f2, .int .i64 f3, .int .i64 f4, .int .i64 f5, .slice a6 n6 c6, .slice a7 n7 c7, .int .i64 f8, .int .i64 f9] 60)
  have A2 := heap_alloc_new V1 (.cells #[.int .i64 f0, .int .i64 f1, .string f2, .int .i64 f3, .int .i64 f4, .int .i64 f5, .slice a6 n6 c6, .slice a7 n7 c7, .int .i64 f8, .int .i64 f9] 60)
  have A1' := row_below A1 b2
  have B2 := hid (b1.trans (b2.mono b1.size))
  clear hC C
  go_enter Try.func50, Try.ntmps50
  refine wp_seq_k (fun K0 hK0 => ?_)
  go_wp2_with fail
  refine hK0.out _ _ ?_
  clear hV1 b1 A1 b2
  generalize V1.alloc (.cells #[.int .i64 f0, .int .i64 f1, .string f2, .int .i64 f3, .int .i64 f4, .int .i64 f5, .slice a6 n6 c6, .slice a7 n7 c7, .int .i64 f8, .int .i64 f9] 60) = V2 at *
  obtain ⟨N, hNe⟩ : ∃ N, N = w.heap.size := ⟨_, rfl⟩
  obtain ⟨M, hMe⟩ : ∃ M, M = V1.heap.size := ⟨_, rfl⟩
  rw [← hMe] at A2 ⊢
  rw [← hNe] at A1' ⊢
  have HNe := hid hNe
  clear hNe hMe
  have n2 : V2.cell? ⟨N, 2, none⟩ = some (.string f2) := by rw [cell_of_row _ _ _ _ _ _ A1']; rfl
  have n3 : V2.cell? ⟨N, 3, none⟩ = some (.int .i64 f3) := by rw [cell_of_row _ _ _ _ _ _ A1']; rfl
  have n4 : V2.cell? ⟨N, 4, none⟩ = some (.int .i64 f4) := by rw [cell_of_row _ _ _ _ _ _ A1']; rfl
  have n5 : V2.cell? ⟨N, 5, none⟩ = some (.int .i64 f5) := by rw [cell_of_row _ _ _ _ _ _ A1']; rfl
  have n6' : V2.cell? ⟨N, 6, none⟩ = some (.slice a6 n6 c6) := by rw [cell_of_row _ _ _ _ _ _ A1']; rfl
  have n7' : V2.cell? ⟨N, 7, none⟩ = some (.slice a7 n7 c7) := by rw [cell_of_row _ _ _ _ _ _ A1']; rfl
  have n8 : V2.cell? ⟨N, 8, none⟩ = some (.int .i64 f8) := by rw [cell_of_row _ _ _ _ _ _ A1']; rfl
  have n9 : V2.cell? ⟨N, 9, none⟩ = some (.int .i64 f9) := by rw [cell_of_row _ _ _ _ _ _ A1']; rfl
  have m2 : V2.cell? ⟨M, 2, none⟩ = some (.string f2) := by rw [cell_of_row _ _ _ _ _ _ A2]; rfl
  have m3 : V2.cell? ⟨M, 3, none⟩ = some (.int .i64 f3) := by rw [cell_of_row _ _ _ _ _ _ A2]; rfl
  have m4 : V2.cell? ⟨M, 4, none⟩ = some (.int .i64 f4) := by rw [cell_of_row _ _ _ _ _ _ A2]; rfl
  have m5 : V2.cell? ⟨M, 5, none⟩ = some (.int .i64 f5) := by rw [cell_of_row _ _ _ _ _ _ A2]; rfl
  have m6 : V2.cell? ⟨M, 6, none⟩ = some (.slice a6 n6 c6) := by rw [cell_of_row _ _ _ _ _ _ A2]; rfl
  have m7 : V2.cell? ⟨M, 7, none⟩ = some (.slice a7 n7 c7) := by rw [cell_of_row _ _ _ _ _ _ A2]; rfl
  have m8 : V2.cell? ⟨M, 8, none⟩ = some (.int .i64 f8) := by rw [cell_of_row _ _ _ _ _ _ A2]; rfl
  have m9 : V2.cell? ⟨M, 9, none⟩ = some (.int .i64 f9) := by rw [cell_of_row _ _ _ _ _ _ A2]; rfl
  clear A1' A2
  go_wp2_with fail
  go_ret
  exact ⟨rfl, by rw [HNe.out]; exact B2.out⟩
end Go.Proofs.Ytopmamgdfngdoaa
/- deliver: may (printed by genmay.py). -/
namespace Go.Proofs.Ytopmamgdfngdoaa
set_option linter.unusedVariables false
open Go.RowKit

set_option maxRecDepth 1000000 in
set_option maxHeartbeats 4000000 in
theorem may_nm (f2 : ByteArray) (f3 : Nat) (w : World) (h1 : 1 ≤ f2.size ∧ f2.size ≤ 32) (h2 : f3 ≤ 65536) : Calls Try.prog 30 #[.agg #[.int .i64 1, .int .i64 7, .string f2, .int .i64 (f3 : Int), .int .i64 0, .int .i64 0, .slice none 0 0, .slice none 0 0, .int .i64 0, .int .i64 0]] w fun e w' => e = .returned (.bool true) ∧ Below w.heap.size w w' := by
  have b1 := below_alloc w (.cells #[.int .i64 1, .int .i64 7, .string f2, .int .i64 (f3 : Int), .int .i64 0, .int .i64 0, .slice none 0 0, .slice none 0 0, .int .i64 0, .int .i64 0] 60)
  have A1 := heap_alloc_new w (.cells #[.int .i64 1, .int .i64 7, .string f2, .int .i64 (f3 : Int), .int .i64 0, .int .i64 0, .slice none 0 0, .slice none 0 0, .int .i64 0, .int .i64 0] 60)
  go_enter Try.func30, Try.ntmps30
  refine wp_seq_k (fun K0 hK0 => ?_)
  go_wp2_with fail
  refine hK0.out _ _ ?_
  have B1 := hid b1
  clear b1
  generalize w.alloc (.cells #[.int .i64 1, .int .i64 7, .string f2, .int .i64 (f3 : Int), .int .i64 0, .int .i64 0, .slice none 0 0, .slice none 0 0, .int .i64 0, .int .i64 0] 60) = V1 at *
  obtain ⟨N, hNe⟩ : ∃ N, N = w.heap.size := ⟨_, rfl⟩
  rw [← hNe] at A1 ⊢
  have HNe := hid hNe
  clear hNe
  refine wp_seq_k (fun K1 hK1 => ?_)
  refine wp_seq_k (fun K2 hK2 => ?_)
  refine wp_region_can_all [2, 7, 13, 14] [0, 1, 2, 3, 4, 5, 6, 7, 8, 9, 10, 11, 12, 13, 14, 15, 16] (fun u u' => u'.heap[N]? = u.heap[N]?) (fun _ => rfl) (fun _ _ _ h k => k.trans h) (by kernel_rfl) (by kernel_rfl) ?_
  simp only [List.map_cons, List.map_nil, List.contains_cons, List.contains_nil, List.getD_cons_zero, List.getD_cons_succ, Nat.reduceBEq, Bool.or_false, Bool.or_true]
  have hdr := (Below.refl V1.heap.size V1).drew
  have A2 := row_below A1 hdr
  have B2 := hid (B1.out.trans (hdr.mono B1.out.size))
  clear hdr A1 B1
  generalize V1.drew = U at *
  have g0 : ∀ w' : World, w'.heap[N]? = U.heap[N]? → w'.cell? ⟨N, 0, none⟩ = some (.int .i64 1) := fun w' h => by rw [cell_of_row _ _ _ _ _ _ (h.trans A2)]; rfl
  have g1 : ∀ w' : World, w'.heap[N]? = U.heap[N]? → w'.cell? ⟨N, 1, none⟩ = some (.int .i64 7) := fun w' h => by rw [cell_of_row _ _ _ _ _ _ (h.trans A2)]; rfl
  have fld : ∀ w' : World, w'.heap[N]? = U.heap[N]? → (Instr.loadAt 60 (.pointer (some ⟨N, 0, none⟩))).run Try.prog w' = .ok (.agg #[.int .i64 1, .int .i64 7, .string f2, .int .i64 (f3 : Int), .int .i64 0, .int .i64 0, .slice none 0 0, .slice none 0 0, .int .i64 0, .int .i64 0]) w' := fun w' hb => run_load_block (hb.trans A2) Try.underlying60 rfl (by kernel_rfl)
  iterate 2 (refine wpL_do rfl (fun w' hw' => (by go_simp; rfl)) ?_; simp only [Act.put, List.setIfInBounds_toArray, List.set_cons_succ, List.set_cons_zero])
  refine wpL_call rfl (fun K hK => ?_)
  go_wp2_with (go_at_call 9; refine (in_ok _ _ _ _ (by omega) (by omega)).mono ?_; rintro e w' ⟨rfl, hw'⟩; rw [hw']; clear hw' w')
  refine hK _ _ rfl ?_
  clear hK K
  try simp only [Act.put]
  iterate 4 (refine wpL_do rfl (fun w' hw' => (by go_simp; rfl)) ?_; simp only [Act.put, List.setIfInBounds_toArray, List.set_cons_succ, List.set_cons_zero])
  refine wpL_call rfl (fun K hK => ?_)
  go_wp2_with (go_at_call 9; refine (in_ok _ _ _ _ (by omega) (by omega)).mono ?_; rintro e w' ⟨rfl, hw'⟩; rw [hw']; clear hw' w')
  refine hK _ _ rfl ?_
  clear hK K
  try simp only [Act.put]
  iterate 3 (refine wpL_do rfl (fun w' hw' => (by go_simp; rfl)) ?_; simp only [Act.put, List.setIfInBounds_toArray, List.set_cons_succ, List.set_cons_zero])
  clear g0 g1
  refine wpL_load 60 _ ⟨N, 0, none⟩ _ rfl rfl rfl fld ?_
  simp only [Act.put, List.setIfInBounds_toArray, List.set_cons_succ, List.set_cons_zero]
  refine wpL_load 60 _ ⟨N, 0, none⟩ _ rfl rfl rfl fld ?_
  simp only [Act.put, List.setIfInBounds_toArray, List.set_cons_succ, List.set_cons_zero]
  clear fld
  have hba := hid (bare_nm f2 f3 U)
  refine wpL_call rfl (fun K hK => ?_)
  go_wp2_with fail
  refine hba.out.mono ?_
  rintro e U3 ⟨rfl, hb⟩
  refine hK _ _ (hb.block _ (row_lt A2)) ?_
  clear hK K hba
  try simp only [Act.put]
  have A3 := row_below A2 hb
  have B3 := hid (B2.out.trans (hb.mono B2.out.size))
  have hal := hid (alike_ok (1) (7) (f3 : Int) (0) (0) (0) (0) f2 none none 0 0 0 0 U3)
  clear hb A2 B2
  refine wpL_call rfl (fun K hK => ?_)
  go_wp2_with fail
  refine hal.out.mono ?_
  rintro e U4 ⟨rfl, hb⟩
  refine hK _ _ (hb.block _ (row_lt A3)) ?_
  clear hK K hal
  try simp only [Act.put]
  have A4 := row_below A3 hb
  have B4 := hid (B3.out.trans (hb.mono B3.out.size))
  clear hb A3 B3
  iterate 2 (refine wpL_do rfl (fun w' hw' => (by go_simp; rfl)) ?_; simp only [Act.put, List.setIfInBounds_toArray, List.set_cons_succ, List.set_cons_zero])
  refine wpL_nil ?_
  refine hK2.out _ _ ?_
  refine wp_cond_false rfl ?_
  go_wp2_with fail
  refine hK1.out _ _ ?_
  have c0 : U4.cell? ⟨N, 0, none⟩ = some (.int .i64 1) := by rw [cell_of_row _ _ _ _ _ _ A4]; rfl
  have c2 : U4.cell? ⟨N, 2, none⟩ = some (.string f2) := by rw [cell_of_row _ _ _ _ _ _ A4]; rfl
  have c3 : U4.cell? ⟨N, 3, none⟩ = some (.int .i64 (f3 : Int)) := by rw [cell_of_row _ _ _ _ _ _ A4]; rfl
  have s1 : (1 : Int) ≤ (f2.size : Int) := by omega
  have s2 : (f2.size : Int) ≤ 32 := by omega
  clear A4
  go_wp2_with (go_at_call 9; refine (in_ok _ _ _ _ (by omega) (by omega)).mono ?_; rintro e w' ⟨rfl, hw'⟩; rw [hw']; clear hw' w')
  go_ret
  exact ⟨rfl, by rw [HNe.out]; exact B4.out⟩

set_option maxRecDepth 1000000 in
set_option maxHeartbeats 4000000 in
theorem may_np (f5 : Nat) (da : Option Addr) (dn dc : Nat) (w : World) (h1 : 1 ≤ dn ∧ dn ≤ 1024) (h2 : f5 + dn ≤ 65536) : Calls Try.prog 30 #[.agg #[.int .i64 2, .int .i64 7, .string { data := #[] }, .int .i64 0, .int .i64 0, .int .i64 (f5 : Int), .slice da dn dc, .slice none 0 0, .int .i64 0, .int .i64 0]] w fun e w' => e = .returned (.bool true) ∧ Below w.heap.size w w' := by
  have b1 := below_alloc w (.cells #[.int .i64 2, .int .i64 7, .string { data := #[] }, .int .i64 0, .int .i64 0, .int .i64 (f5 : Int), .slice da dn dc, .slice none 0 0, .int .i64 0, .int .i64 0] 60)
  have A1 := heap_alloc_new w (.cells #[.int .i64 2, .int .i64 7, .string { data := #[] }, .int .i64 0, .int .i64 0, .int .i64 (f5 : Int), .slice da dn dc, .slice none 0 0, .int .i64 0, .int .i64 0] 60)
  go_enter Try.func30, Try.ntmps30
  refine wp_seq_k (fun K0 hK0 => ?_)
  go_wp2_with fail
  refine hK0.out _ _ ?_
  have B1 := hid b1
  clear b1
  generalize w.alloc (.cells #[.int .i64 2, .int .i64 7, .string { data := #[] }, .int .i64 0, .int .i64 0, .int .i64 (f5 : Int), .slice da dn dc, .slice none 0 0, .int .i64 0, .int .i64 0] 60) = V1 at *
  obtain ⟨N, hNe⟩ : ∃ N, N = w.heap.size := ⟨_, rfl⟩
  rw [← hNe] at A1 ⊢
  have HNe := hid hNe
  clear hNe
  refine wp_seq_k (fun K1 hK1 => ?_)
  refine wp_seq_k (fun K2 hK2 => ?_)
  refine wp_region_can_all [2, 7, 13, 14] [0, 1, 2, 3, 4, 5, 6, 7, 8, 9, 10, 11, 12, 13, 14, 15, 16] (fun u u' => u'.heap[N]? = u.heap[N]?) (fun _ => rfl) (fun _ _ _ h k => k.trans h) (by kernel_rfl) (by kernel_rfl) ?_
  simp only [List.map_cons, List.map_nil, List.contains_cons, List.contains_nil, List.getD_cons_zero, List.getD_cons_succ, Nat.reduceBEq, Bool.or_false, Bool.or_true]
  have hdr := (Below.refl V1.heap.size V1).drew
  have A2 := row_below A1 hdr
  have B2 := hid (B1.out.trans (hdr.mono B1.out.size))
  clear hdr A1 B1
  generalize V1.drew = U at *
  have g0 : ∀ w' : World, w'.heap[N]? = U.heap[N]? → w'.cell? ⟨N, 0, none⟩ = some (.int .i64 2) := fun w' h => by rw [cell_of_row _ _ _ _ _ _ (h.trans A2)]; rfl
  have g1 : ∀ w' : World, w'.heap[N]? = U.heap[N]? → w'.cell? ⟨N, 1, none⟩ = some (.int .i64 7) := fun w' h => by rw [cell_of_row _ _ _ _ _ _ (h.trans A2)]; rfl
  have fld : ∀ w' : World, w'.heap[N]? = U.heap[N]? → (Instr.loadAt 60 (.pointer (some ⟨N, 0, none⟩))).run Try.prog w' = .ok (.agg #[.int .i64 2, .int .i64 7, .string { data := #[] }, .int .i64 0, .int .i64 0, .int .i64 (f5 : Int), .slice da dn dc, .slice none 0 0, .int .i64 0, .int .i64 0]) w' := fun w' hb => run_load_block (hb.trans A2) Try.underlying60 rfl (by kernel_rfl)
  iterate 2 (refine wpL_do rfl (fun w' hw' => (by go_simp; rfl)) ?_; simp only [Act.put, List.setIfInBounds_toArray, List.set_cons_succ, List.set_cons_zero])
  refine wpL_call rfl (fun K hK => ?_)
  go_wp2_with (go_at_call 9; refine (in_ok _ _ _ _ (by omega) (by omega)).mono ?_; rintro e w' ⟨rfl, hw'⟩; rw [hw']; clear hw' w')
  refine hK _ _ rfl ?_
  clear hK K
  try simp only [Act.put]
  iterate 4 (refine wpL_do rfl (fun w' hw' => (by go_simp; rfl)) ?_; simp only [Act.put, List.setIfInBounds_toArray, List.set_cons_succ, List.set_cons_zero])
  refine wpL_call rfl (fun K hK => ?_)
  go_wp2_with (go_at_call 9; refine (in_ok _ _ _ _ (by omega) (by omega)).mono ?_; rintro e w' ⟨rfl, hw'⟩; rw [hw']; clear hw' w')
  refine hK _ _ rfl ?_
  clear hK K
  try simp only [Act.put]
  iterate 3 (refine wpL_do rfl (fun w' hw' => (by go_simp; rfl)) ?_; simp only [Act.put, List.setIfInBounds_toArray, List.set_cons_succ, List.set_cons_zero])
  clear g0 g1
  refine wpL_load 60 _ ⟨N, 0, none⟩ _ rfl rfl rfl fld ?_
  simp only [Act.put, List.setIfInBounds_toArray, List.set_cons_succ, List.set_cons_zero]
  refine wpL_load 60 _ ⟨N, 0, none⟩ _ rfl rfl rfl fld ?_
  simp only [Act.put, List.setIfInBounds_toArray, List.set_cons_succ, List.set_cons_zero]
  clear fld
  have hba := hid (bare_np f5 da dn dc U)
  refine wpL_call rfl (fun K hK => ?_)
  go_wp2_with fail
  refine hba.out.mono ?_
  rintro e U3 ⟨rfl, hb⟩
  refine hK _ _ (hb.block _ (row_lt A2)) ?_
  clear hK K hba
  try simp only [Act.put]
  have A3 := row_below A2 hb
  have B3 := hid (B2.out.trans (hb.mono B2.out.size))
  have hal := hid (alike_ok (2) (7) (0) (0) (f5 : Int) (0) (0) { data := #[] } da none dn dc 0 0 U3)
  clear hb A2 B2
  refine wpL_call rfl (fun K hK => ?_)
  go_wp2_with fail
  refine hal.out.mono ?_
  rintro e U4 ⟨rfl, hb⟩
  refine hK _ _ (hb.block _ (row_lt A3)) ?_
  clear hK K hal
  try simp only [Act.put]
  have A4 := row_below A3 hb
  have B4 := hid (B3.out.trans (hb.mono B3.out.size))
  clear hb A3 B3
  iterate 2 (refine wpL_do rfl (fun w' hw' => (by go_simp; rfl)) ?_; simp only [Act.put, List.setIfInBounds_toArray, List.set_cons_succ, List.set_cons_zero])
  refine wpL_nil ?_
  refine hK2.out _ _ ?_
  refine wp_cond_false rfl ?_
  go_wp2_with fail
  refine hK1.out _ _ ?_
  have c0 : U4.cell? ⟨N, 0, none⟩ = some (.int .i64 2) := by rw [cell_of_row _ _ _ _ _ _ A4]; rfl
  have c5 : U4.cell? ⟨N, 5, none⟩ = some (.int .i64 (f5 : Int)) := by rw [cell_of_row _ _ _ _ _ _ A4]; rfl
  have c6 : U4.cell? ⟨N, 6, none⟩ = some (.slice da dn dc) := by rw [cell_of_row _ _ _ _ _ _ A4]; rfl
  have a1 : IntKind.i64.wrap (65536 - (dn : Int)) = 65536 - (dn : Int) := IntWalk.i64_in _ (by omega)
  clear A4
  go_wp2_with (go_at_call 9; refine (in_ok _ _ _ _ (by omega) (by omega)).mono ?_; rintro e w' ⟨rfl, hw'⟩; rw [hw']; clear hw' w')
  go_ret
  exact ⟨rfl, by rw [HNe.out]; exact B4.out⟩

set_option maxRecDepth 1000000 in
set_option maxHeartbeats 4000000 in
theorem may_ne (f3 f4 : Nat) (w : World) (h1 : f3 ≤ 65536) (h2 : f4 ≤ 4294967295) : Calls Try.prog 30 #[.agg #[.int .i64 3, .int .i64 7, .string { data := #[] }, .int .i64 (f3 : Int), .int .i64 (f4 : Int), .int .i64 0, .slice none 0 0, .slice none 0 0, .int .i64 0, .int .i64 0]] w fun e w' => e = .returned (.bool true) ∧ Below w.heap.size w w' := by
  have b1 := below_alloc w (.cells #[.int .i64 3, .int .i64 7, .string { data := #[] }, .int .i64 (f3 : Int), .int .i64 (f4 : Int), .int .i64 0, .slice none 0 0, .slice none 0 0, .int .i64 0, .int .i64 0] 60)
  have A1 := heap_alloc_new w (.cells #[.int .i64 3, .int .i64 7, .string { data := #[] }, .int .i64 (f3 : Int), .int .i64 (f4 : Int), .int .i64 0, .slice none 0 0, .slice none 0 0, .int .i64 0, .int .i64 0] 60)
  go_enter Try.func30, Try.ntmps30
  refine wp_seq_k (fun K0 hK0 => ?_)
  go_wp2_with fail
  refine hK0.out _ _ ?_
  have B1 := hid b1
  clear b1
  generalize w.alloc (.cells #[.int .i64 3, .int .i64 7, .string { data := #[] }, .int .i64 (f3 : Int), .int .i64 (f4 : Int), .int .i64 0, .slice none 0 0, .slice none 0 0, .int .i64 0, .int .i64 0] 60) = V1 at *
  obtain ⟨N, hNe⟩ : ∃ N, N = w.heap.size := ⟨_, rfl⟩
  rw [← hNe] at A1 ⊢
  have HNe := hid hNe
  clear hNe
  refine wp_seq_k (fun K1 hK1 => ?_)
  refine wp_seq_k (fun K2 hK2 => ?_)
  refine wp_region_can_all [2, 7, 13, 14] [0, 1, 2, 3, 4, 5, 6, 7, 8, 9, 10, 11, 12, 13, 14, 15, 16] (fun u u' => u'.heap[N]? = u.heap[N]?) (fun _ => rfl) (fun _ _ _ h k => k.trans h) (by kernel_rfl) (by kernel_rfl) ?_
  simp only [List.map_cons, List.map_nil, List.contains_cons, List.contains_nil, List.getD_cons_zero, List.getD_cons_succ, Nat.reduceBEq, Bool.or_false, Bool.or_true]
  have hdr := (Below.refl V1.heap.size V1).drew
  have A2 := row_below A1 hdr
  have B2 := hid (B1.out.trans (hdr.mono B1.out.size))
  clear hdr A1 B1
  generalize V1.drew = U at *
  have g0 : ∀ w' : World, w'.heap[N]? = U.heap[N]? → w'.cell? ⟨N, 0, none⟩ = some (.int .i64 3) := fun w' h => by rw [cell_of_row _ _ _ _ _ _ (h.trans A2)]; rfl
  have g1 : ∀ w' : World, w'.heap[N]? = U.heap[N]? → w'.cell? ⟨N, 1, none⟩ = some (.int .i64 7) := fun w' h => by rw [cell_of_row _ _ _ _ _ _ (h.trans A2)]; rfl
  have fld : ∀ w' : World, w'.heap[N]? = U.heap[N]? → (Instr.loadAt 60 (.pointer (some ⟨N, 0, none⟩))).run Try.prog w' = .ok (.agg #[.int .i64 3, .int .i64 7, .string { data := #[] }, .int .i64 (f3 : Int), .int .i64 (f4 : Int), .int .i64 0, .slice none 0 0, .slice none 0 0, .int .i64 0, .int .i64 0]) w' := fun w' hb => run_load_block (hb.trans A2) Try.underlying60 rfl (by kernel_rfl)
  iterate 2 (refine wpL_do rfl (fun w' hw' => (by go_simp; rfl)) ?_; simp only [Act.put, List.setIfInBounds_toArray, List.set_cons_succ, List.set_cons_zero])
  refine wpL_call rfl (fun K hK => ?_)
  go_wp2_with (go_at_call 9; refine (in_ok _ _ _ _ (by omega) (by omega)).mono ?_; rintro e w' ⟨rfl, hw'⟩; rw [hw']; clear hw' w')
  refine hK _ _ rfl ?_
  clear hK K
  try simp only [Act.put]
  iterate 4 (refine wpL_do rfl (fun w' hw' => (by go_simp; rfl)) ?_; simp only [Act.put, List.setIfInBounds_toArray, List.set_cons_succ, List.set_cons_zero])
  refine wpL_call rfl (fun K hK => ?_)
  go_wp2_with (go_at_call 9; refine (in_ok _ _ _ _ (by omega) (by omega)).mono ?_; rintro e w' ⟨rfl, hw'⟩; rw [hw']; clear hw' w')
  refine hK _ _ rfl ?_
  clear hK K
  try simp only [Act.put]
  iterate 3 (refine wpL_do rfl (fun w' hw' => (by go_simp; rfl)) ?_; simp only [Act.put, List.setIfInBounds_toArray, List.set_cons_succ, List.set_cons_zero])
  clear g0 g1
  refine wpL_load 60 _ ⟨N, 0, none⟩ _ rfl rfl rfl fld ?_
  simp only [Act.put, List.setIfInBounds_toArray, List.set_cons_succ, List.set_cons_zero]
  refine wpL_load 60 _ ⟨N, 0, none⟩ _ rfl rfl rfl fld ?_
  simp only [Act.put, List.setIfInBounds_toArray, List.set_cons_succ, List.set_cons_zero]
  clear fld
  have hba := hid (bare_ne f3 f4 U)
  refine wpL_call rfl (fun K hK => ?_)
  go_wp2_with fail
  refine hba.out.mono ?_
  rintro e U3 ⟨rfl, hb⟩
  refine hK _ _ (hb.block _ (row_lt A2)) ?_
  clear hK K hba
  try simp only [Act.put]
  have A3 := row_below A2 hb
  have B3 := hid (B2.out.trans (hb.mono B2.out.size))
  have hal := hid (alike_ok (3) (7) (f3 : Int) (f4 : Int) (0) (0) (0) { data := #[] } none none 0 0 0 0 U3)
  clear hb A2 B2
  refine wpL_call rfl (fun K hK => ?_)
  go_wp2_with fail
  refine hal.out.mono ?_
  rintro e U4 ⟨rfl, hb⟩
  refine hK _ _ (hb.block _ (row_lt A3)) ?_
  clear hK K hal
  try simp only [Act.put]
  have A4 := row_below A3 hb
  have B4 := hid (B3.out.trans (hb.mono B3.out.size))
  clear hb A3 B3
  iterate 2 (refine wpL_do rfl (fun w' hw' => (by go_simp; rfl)) ?_; simp only [Act.put, List.setIfInBounds_toArray, List.set_cons_succ, List.set_cons_zero])
  refine wpL_nil ?_
  refine hK2.out _ _ ?_
  refine wp_cond_false rfl ?_
  go_wp2_with fail
  refine hK1.out _ _ ?_
  have c0 : U4.cell? ⟨N, 0, none⟩ = some (.int .i64 3) := by rw [cell_of_row _ _ _ _ _ _ A4]; rfl
  have c3 : U4.cell? ⟨N, 3, none⟩ = some (.int .i64 (f3 : Int)) := by rw [cell_of_row _ _ _ _ _ _ A4]; rfl
  have c4 : U4.cell? ⟨N, 4, none⟩ = some (.int .i64 (f4 : Int)) := by rw [cell_of_row _ _ _ _ _ _ A4]; rfl
  clear A4
  go_wp2_with (go_at_call 9; refine (in_ok _ _ _ _ (by omega) (by omega)).mono ?_; rintro e w' ⟨rfl, hw'⟩; rw [hw']; clear hw' w')
  go_ret
  exact ⟨rfl, by rw [HNe.out]; exact B4.out⟩

set_option maxRecDepth 1000000 in
set_option maxHeartbeats 4000000 in
theorem may_ng (ga : Option Addr) (gn gc : Nat) (l : List Sp) (w : World) (h1 : 1 ≤ gn ∧ gn ≤ 20) (h2 : RdS w ga gn gc l) (h3 : ∀ s ∈ l, vSp 65536 s) : Calls Try.prog 30 #[.agg #[.int .i64 4, .int .i64 7, .string { data := #[] }, .int .i64 0, .int .i64 0, .int .i64 0, .slice none 0 0, .slice ga gn gc, .int .i64 0, .int .i64 0]] w fun e w' => e = .returned (.bool true) ∧ Below w.heap.size w w' := by
  have b1 := below_alloc w (.cells #[.int .i64 4, .int .i64 7, .string { data := #[] }, .int .i64 0, .int .i64 0, .int .i64 0, .slice none 0 0, .slice ga gn gc, .int .i64 0, .int .i64 0] 60)
  have A1 := heap_alloc_new w (.cells #[.int .i64 4, .int .i64 7, .string { data := #[] }, .int .i64 0, .int .i64 0, .int .i64 0, .slice none 0 0, .slice ga gn gc, .int .i64 0, .int .i64 0] 60)
  have H2 := hid (h2.below b1)
  have H3 := hid h3
  clear h2 h3
  go_enter Try.func30, Try.ntmps30
  refine wp_seq_k (fun K0 hK0 => ?_)
  go_wp2_with fail
  refine hK0.out _ _ ?_
  have B1 := hid b1
  clear b1
  generalize w.alloc (.cells #[.int .i64 4, .int .i64 7, .string { data := #[] }, .int .i64 0, .int .i64 0, .int .i64 0, .slice none 0 0, .slice ga gn gc, .int .i64 0, .int .i64 0] 60) = V1 at *
  obtain ⟨N, hNe⟩ : ∃ N, N = w.heap.size := ⟨_, rfl⟩
  rw [← hNe] at A1 ⊢
  have HNe := hid hNe
  clear hNe
  refine wp_seq_k (fun K1 hK1 => ?_)
  refine wp_seq_k (fun K2 hK2 => ?_)
  refine wp_region_can_all [2, 7, 13, 14] [0, 1, 2, 3, 4, 5, 6, 7, 8, 9, 10, 11, 12, 13, 14, 15, 16] (fun u u' => u'.heap[N]? = u.heap[N]?) (fun _ => rfl) (fun _ _ _ h k => k.trans h) (by kernel_rfl) (by kernel_rfl) ?_
  simp only [List.map_cons, List.map_nil, List.contains_cons, List.contains_nil, List.getD_cons_zero, List.getD_cons_succ, Nat.reduceBEq, Bool.or_false, Bool.or_true]
  have hdr := (Below.refl V1.heap.size V1).drew
  have A2 := row_below A1 hdr
  have B2 := hid (B1.out.trans (hdr.mono B1.out.size))
  have H2' := hid (H2.out.below hdr)
  clear H2
  clear hdr A1 B1
  generalize V1.drew = U at *
  have g0 : ∀ w' : World, w'.heap[N]? = U.heap[N]? → w'.cell? ⟨N, 0, none⟩ = some (.int .i64 4) := fun w' h => by rw [cell_of_row _ _ _ _ _ _ (h.trans A2)]; rfl
  have g1 : ∀ w' : World, w'.heap[N]? = U.heap[N]? → w'.cell? ⟨N, 1, none⟩ = some (.int .i64 7) := fun w' h => by rw [cell_of_row _ _ _ _ _ _ (h.trans A2)]; rfl
  have fld : ∀ w' : World, w'.heap[N]? = U.heap[N]? → (Instr.loadAt 60 (.pointer (some ⟨N, 0, none⟩))).run Try.prog w' = .ok (.agg #[.int .i64 4, .int .i64 7, .string { data := #[] }, .int .i64 0, .int .i64 0, .int .i64 0, .slice none 0 0, .slice ga gn gc, .int .i64 0, .int .i64 0]) w' := fun w' hb => run_load_block (hb.trans A2) Try.underlying60 rfl (by kernel_rfl)
  iterate 2 (refine wpL_do rfl (fun w' hw' => (by go_simp; rfl)) ?_; simp only [Act.put, List.setIfInBounds_toArray, List.set_cons_succ, List.set_cons_zero])
  refine wpL_call rfl (fun K hK => ?_)
  go_wp2_with (go_at_call 9; refine (in_ok _ _ _ _ (by omega) (by omega)).mono ?_; rintro e w' ⟨rfl, hw'⟩; rw [hw']; clear hw' w')
  refine hK _ _ rfl ?_
  clear hK K
  try simp only [Act.put]
  iterate 4 (refine wpL_do rfl (fun w' hw' => (by go_simp; rfl)) ?_; simp only [Act.put, List.setIfInBounds_toArray, List.set_cons_succ, List.set_cons_zero])
  refine wpL_call rfl (fun K hK => ?_)
  go_wp2_with (go_at_call 9; refine (in_ok _ _ _ _ (by omega) (by omega)).mono ?_; rintro e w' ⟨rfl, hw'⟩; rw [hw']; clear hw' w')
  refine hK _ _ rfl ?_
  clear hK K
  try simp only [Act.put]
  iterate 3 (refine wpL_do rfl (fun w' hw' => (by go_simp; rfl)) ?_; simp only [Act.put, List.setIfInBounds_toArray, List.set_cons_succ, List.set_cons_zero])
  clear g0 g1
  refine wpL_load 60 _ ⟨N, 0, none⟩ _ rfl rfl rfl fld ?_
  simp only [Act.put, List.setIfInBounds_toArray, List.set_cons_succ, List.set_cons_zero]
  refine wpL_load 60 _ ⟨N, 0, none⟩ _ rfl rfl rfl fld ?_
  simp only [Act.put, List.setIfInBounds_toArray, List.set_cons_succ, List.set_cons_zero]
  clear fld
  have hba := hid (bare_ng ga gn gc U)
  refine wpL_call rfl (fun K hK => ?_)
  go_wp2_with fail
  refine hba.out.mono ?_
  rintro e U3 ⟨rfl, hb⟩
  refine hK _ _ (hb.block _ (row_lt A2)) ?_
  clear hK K hba
  try simp only [Act.put]
  have A3 := row_below A2 hb
  have B3 := hid (B2.out.trans (hb.mono B2.out.size))
  have H2 := hid (H2'.out.below hb)
  clear H2'
  have hal := hid (alike_ok (4) (7) (0) (0) (0) (0) (0) { data := #[] } none ga 0 0 gn gc U3)
  clear hb A2 B2
  refine wpL_call rfl (fun K hK => ?_)
  go_wp2_with fail
  refine hal.out.mono ?_
  rintro e U4 ⟨rfl, hb⟩
  refine hK _ _ (hb.block _ (row_lt A3)) ?_
  clear hK K hal
  try simp only [Act.put]
  have A4 := row_below A3 hb
  have B4 := hid (B3.out.trans (hb.mono B3.out.size))
  have H2' := hid (H2.out.below hb)
  clear H2
  clear hb A3 B3
  iterate 2 (refine wpL_do rfl (fun w' hw' => (by go_simp; rfl)) ?_; simp only [Act.put, List.setIfInBounds_toArray, List.set_cons_succ, List.set_cons_zero])
  refine wpL_nil ?_
  refine hK2.out _ _ ?_
  refine wp_cond_false rfl ?_
  go_wp2_with fail
  refine hK1.out _ _ ?_
  have c0 : U4.cell? ⟨N, 0, none⟩ = some (.int .i64 4) := by rw [cell_of_row _ _ _ _ _ _ A4]; rfl
  have c7 : U4.cell? ⟨N, 7, none⟩ = some (.slice ga gn gc) := by rw [cell_of_row _ _ _ _ _ _ A4]; rfl
  have hno := hid (none52 ga gn gc l U4 H2'.out H3.out)
  clear A4
  go_wp2_with (first | (go_at_call 9; refine (in_ok _ _ _ _ (by omega) (by omega)).mono ?_; rintro e w' ⟨rfl, hw'⟩; rw [hw']; clear hw' w') | (go_at_call 54; refine hno.out.mono ?_; rintro e U5 ⟨rfl, hb⟩))
  go_ret
  exact ⟨rfl, by rw [HNe.out]; exact B4.out.trans (hb.mono B4.out.size)⟩

set_option maxRecDepth 1000000 in
set_option maxHeartbeats 4000000 in
theorem may_nd  (w : World)  : Calls Try.prog 30 #[.agg #[.int .i64 5, .int .i64 7, .string { data := #[] }, .int .i64 0, .int .i64 0, .int .i64 0, .slice none 0 0, .slice none 0 0, .int .i64 0, .int .i64 0]] w fun e w' => e = .returned (.bool true) ∧ Below w.heap.size w w' := by
  have b1 := below_alloc w (.cells #[.int .i64 5, .int .i64 7, .string { data := #[] }, .int .i64 0, .int .i64 0, .int .i64 0, .slice none 0 0, .slice none 0 0, .int .i64 0, .int .i64 0] 60)
  have A1 := heap_alloc_new w (.cells #[.int .i64 5, .int .i64 7, .string { data := #[] }, .int .i64 0, .int .i64 0, .int .i64 0, .slice none 0 0, .slice none 0 0, .int .i64 0, .int .i64 0] 60)
  go_enter Try.func30, Try.ntmps30
  refine wp_seq_k (fun K0 hK0 => ?_)
  go_wp2_with fail
  refine hK0.out _ _ ?_
  have B1 := hid b1
  clear b1
  generalize w.alloc (.cells #[.int .i64 5, .int .i64 7, .string { data := #[] }, .int .i64 0, .int .i64 0, .int .i64 0, .slice none 0 0, .slice none 0 0, .int .i64 0, .int .i64 0] 60) = V1 at *
  obtain ⟨N, hNe⟩ : ∃ N, N = w.heap.size := ⟨_, rfl⟩
  rw [← hNe] at A1 ⊢
  have HNe := hid hNe
  clear hNe
  refine wp_seq_k (fun K1 hK1 => ?_)
  refine wp_seq_k (fun K2 hK2 => ?_)
  refine wp_region_can_all [2, 7, 13, 14] [0, 1, 2, 3, 4, 5, 6, 7, 8, 9, 10, 11, 12, 13, 14, 15, 16] (fun u u' => u'.heap[N]? = u.heap[N]?) (fun _ => rfl) (fun _ _ _ h k => k.trans h) (by kernel_rfl) (by kernel_rfl) ?_
  simp only [List.map_cons, List.map_nil, List.contains_cons, List.contains_nil, List.getD_cons_zero, List.getD_cons_succ, Nat.reduceBEq, Bool.or_false, Bool.or_true]
  have hdr := (Below.refl V1.heap.size V1).drew
  have A2 := row_below A1 hdr
  have B2 := hid (B1.out.trans (hdr.mono B1.out.size))
  clear hdr A1 B1
  generalize V1.drew = U at *
  have g0 : ∀ w' : World, w'.heap[N]? = U.heap[N]? → w'.cell? ⟨N, 0, none⟩ = some (.int .i64 5) := fun w' h => by rw [cell_of_row _ _ _ _ _ _ (h.trans A2)]; rfl
  have g1 : ∀ w' : World, w'.heap[N]? = U.heap[N]? → w'.cell? ⟨N, 1, none⟩ = some (.int .i64 7) := fun w' h => by rw [cell_of_row _ _ _ _ _ _ (h.trans A2)]; rfl
  have fld : ∀ w' : World, w'.heap[N]? = U.heap[N]? → (Instr.loadAt 60 (.pointer (some ⟨N, 0, none⟩))).run Try.prog w' = .ok (.agg #[.int .i64 5, .int .i64 7, .string { data := #[] }, .int .i64 0, .int .i64 0, .int .i64 0, .slice none 0 0, .slice none 0 0, .int .i64 0, .int .i64 0]) w' := fun w' hb => run_load_block (hb.trans A2) Try.underlying60 rfl (by kernel_rfl)
  iterate 2 (refine wpL_do rfl (fun w' hw' => (by go_simp; rfl)) ?_; simp only [Act.put, List.setIfInBounds_toArray, List.set_cons_succ, List.set_cons_zero])
  refine wpL_call rfl (fun K hK => ?_)
  go_wp2_with (go_at_call 9; refine (in_ok _ _ _ _ (by omega) (by omega)).mono ?_; rintro e w' ⟨rfl, hw'⟩; rw [hw']; clear hw' w')
  refine hK _ _ rfl ?_
  clear hK K
  try simp only [Act.put]
  iterate 4 (refine wpL_do rfl (fun w' hw' => (by go_simp; rfl)) ?_; simp only [Act.put, List.setIfInBounds_toArray, List.set_cons_succ, List.set_cons_zero])
  refine wpL_call rfl (fun K hK => ?_)
  go_wp2_with (go_at_call 9; refine (in_ok _ _ _ _ (by omega) (by omega)).mono ?_; rintro e w' ⟨rfl, hw'⟩; rw [hw']; clear hw' w')
  refine hK _ _ rfl ?_
  clear hK K
  try simp only [Act.put]
  iterate 3 (refine wpL_do rfl (fun w' hw' => (by go_simp; rfl)) ?_; simp only [Act.put, List.setIfInBounds_toArray, List.set_cons_succ, List.set_cons_zero])
  clear g0 g1
  refine wpL_load 60 _ ⟨N, 0, none⟩ _ rfl rfl rfl fld ?_
  simp only [Act.put, List.setIfInBounds_toArray, List.set_cons_succ, List.set_cons_zero]
  refine wpL_load 60 _ ⟨N, 0, none⟩ _ rfl rfl rfl fld ?_
  simp only [Act.put, List.setIfInBounds_toArray, List.set_cons_succ, List.set_cons_zero]
  clear fld
  have hba := hid (bare_nd 0 U)
  refine wpL_call rfl (fun K hK => ?_)
  go_wp2_with fail
  refine hba.out.mono ?_
  rintro e U3 ⟨rfl, hb⟩
  refine hK _ _ (hb.block _ (row_lt A2)) ?_
  clear hK K hba
  try simp only [Act.put]
  have A3 := row_below A2 hb
  have B3 := hid (B2.out.trans (hb.mono B2.out.size))
  have hal := hid (alike_ok (5) (7) (0) (0) (0) (0) (0) { data := #[] } none none 0 0 0 0 U3)
  clear hb A2 B2
  refine wpL_call rfl (fun K hK => ?_)
  go_wp2_with fail
  refine hal.out.mono ?_
  rintro e U4 ⟨rfl, hb⟩
  refine hK _ _ (hb.block _ (row_lt A3)) ?_
  clear hK K hal
  try simp only [Act.put]
  have A4 := row_below A3 hb
  have B4 := hid (B3.out.trans (hb.mono B3.out.size))
  clear hb A3 B3
  iterate 2 (refine wpL_do rfl (fun w' hw' => (by go_simp; rfl)) ?_; simp only [Act.put, List.setIfInBounds_toArray, List.set_cons_succ, List.set_cons_zero])
  refine wpL_nil ?_
  refine hK2.out _ _ ?_
  refine wp_cond_false rfl ?_
  go_wp2_with fail
  refine hK1.out _ _ ?_
  have c0 : U4.cell? ⟨N, 0, none⟩ = some (.int .i64 5) := by rw [cell_of_row _ _ _ _ _ _ A4]; rfl
  have c9 : U4.cell? ⟨N, 9, none⟩ = some (.int .i64 0) := by rw [cell_of_row _ _ _ _ _ _ A4]; rfl
  clear A4
  go_wp2_with (go_at_call 9; refine (in_ok _ _ _ _ (by omega) (by omega)).mono ?_; rintro e w' ⟨rfl, hw'⟩; rw [hw']; clear hw' w')
  go_ret
  exact ⟨rfl, by rw [HNe.out]; exact B4.out⟩

set_option maxRecDepth 1000000 in
set_option maxHeartbeats 4000000 in
theorem may_sp  (w : World)  : Calls Try.prog 30 #[.agg #[.int .i64 6, .int .i64 7, .string { data := #[] }, .int .i64 0, .int .i64 0, .int .i64 0, .slice none 0 0, .slice none 0 0, .int .i64 3, .int .i64 0]] w fun e w' => e = .returned (.bool true) ∧ Below w.heap.size w w' := by
  have b1 := below_alloc w (.cells #[.int .i64 6, .int .i64 7, .string { data := #[] }, .int .i64 0, .int .i64 0, .int .i64 0, .slice none 0 0, .slice none 0 0, .int .i64 3, .int .i64 0] 60)
  have A1 := heap_alloc_new w (.cells #[.int .i64 6, .int .i64 7, .string { data := #[] }, .int .i64 0, .int .i64 0, .int .i64 0, .slice none 0 0, .slice none 0 0, .int .i64 3, .int .i64 0] 60)
  go_enter Try.func30, Try.ntmps30
  refine wp_seq_k (fun K0 hK0 => ?_)
  go_wp2_with fail
  refine hK0.out _ _ ?_
  have B1 := hid b1
  clear b1
  generalize w.alloc (.cells #[.int .i64 6, .int .i64 7, .string { data := #[] }, .int .i64 0, .int .i64 0, .int .i64 0, .slice none 0 0, .slice none 0 0, .int .i64 3, .int .i64 0] 60) = V1 at *
  obtain ⟨N, hNe⟩ : ∃ N, N = w.heap.size := ⟨_, rfl⟩
  rw [← hNe] at A1 ⊢
  have HNe := hid hNe
  clear hNe
  refine wp_seq_k (fun K1 hK1 => ?_)
  refine wp_seq_k (fun K2 hK2 => ?_)
  refine wp_region_can_all [2, 7, 13, 14] [0, 1, 2, 3, 4, 5, 6, 7, 8, 9, 10, 11, 12, 13, 14, 15, 16] (fun u u' => u'.heap[N]? = u.heap[N]?) (fun _ => rfl) (fun _ _ _ h k => k.trans h) (by kernel_rfl) (by kernel_rfl) ?_
  simp only [List.map_cons, List.map_nil, List.contains_cons, List.contains_nil, List.getD_cons_zero, List.getD_cons_succ, Nat.reduceBEq, Bool.or_false, Bool.or_true]
  have hdr := (Below.refl V1.heap.size V1).drew
  have A2 := row_below A1 hdr
  have B2 := hid (B1.out.trans (hdr.mono B1.out.size))
  clear hdr A1 B1
  generalize V1.drew = U at *
  have g0 : ∀ w' : World, w'.heap[N]? = U.heap[N]? → w'.cell? ⟨N, 0, none⟩ = some (.int .i64 6) := fun w' h => by rw [cell_of_row _ _ _ _ _ _ (h.trans A2)]; rfl
  have g1 : ∀ w' : World, w'.heap[N]? = U.heap[N]? → w'.cell? ⟨N, 1, none⟩ = some (.int .i64 7) := fun w' h => by rw [cell_of_row _ _ _ _ _ _ (h.trans A2)]; rfl
  have fld : ∀ w' : World, w'.heap[N]? = U.heap[N]? → (Instr.loadAt 60 (.pointer (some ⟨N, 0, none⟩))).run Try.prog w' = .ok (.agg #[.int .i64 6, .int .i64 7, .string { data := #[] }, .int .i64 0, .int .i64 0, .int .i64 0, .slice none 0 0, .slice none 0 0, .int .i64 3, .int .i64 0]) w' := fun w' hb => run_load_block (hb.trans A2) Try.underlying60 rfl (by kernel_rfl)
  iterate 2 (refine wpL_do rfl (fun w' hw' => (by go_simp; rfl)) ?_; simp only [Act.put, List.setIfInBounds_toArray, List.set_cons_succ, List.set_cons_zero])
  refine wpL_call rfl (fun K hK => ?_)
  go_wp2_with (go_at_call 9; refine (in_ok _ _ _ _ (by omega) (by omega)).mono ?_; rintro e w' ⟨rfl, hw'⟩; rw [hw']; clear hw' w')
  refine hK _ _ rfl ?_
  clear hK K
  try simp only [Act.put]
  iterate 4 (refine wpL_do rfl (fun w' hw' => (by go_simp; rfl)) ?_; simp only [Act.put, List.setIfInBounds_toArray, List.set_cons_succ, List.set_cons_zero])
  refine wpL_call rfl (fun K hK => ?_)
  go_wp2_with (go_at_call 9; refine (in_ok _ _ _ _ (by omega) (by omega)).mono ?_; rintro e w' ⟨rfl, hw'⟩; rw [hw']; clear hw' w')
  refine hK _ _ rfl ?_
  clear hK K
  try simp only [Act.put]
  iterate 3 (refine wpL_do rfl (fun w' hw' => (by go_simp; rfl)) ?_; simp only [Act.put, List.setIfInBounds_toArray, List.set_cons_succ, List.set_cons_zero])
  clear g0 g1
  refine wpL_load 60 _ ⟨N, 0, none⟩ _ rfl rfl rfl fld ?_
  simp only [Act.put, List.setIfInBounds_toArray, List.set_cons_succ, List.set_cons_zero]
  refine wpL_load 60 _ ⟨N, 0, none⟩ _ rfl rfl rfl fld ?_
  simp only [Act.put, List.setIfInBounds_toArray, List.set_cons_succ, List.set_cons_zero]
  clear fld
  have hba := hid (bare_ns 3 U)
  refine wpL_call rfl (fun K hK => ?_)
  go_wp2_with fail
  refine hba.out.mono ?_
  rintro e U3 ⟨rfl, hb⟩
  refine hK _ _ (hb.block _ (row_lt A2)) ?_
  clear hK K hba
  try simp only [Act.put]
  have A3 := row_below A2 hb
  have B3 := hid (B2.out.trans (hb.mono B2.out.size))
  have hal := hid (alike_ok (6) (7) (0) (0) (0) (3) (0) { data := #[] } none none 0 0 0 0 U3)
  clear hb A2 B2
  refine wpL_call rfl (fun K hK => ?_)
  go_wp2_with fail
  refine hal.out.mono ?_
  rintro e U4 ⟨rfl, hb⟩
  refine hK _ _ (hb.block _ (row_lt A3)) ?_
  clear hK K hal
  try simp only [Act.put]
  have A4 := row_below A3 hb
  have B4 := hid (B3.out.trans (hb.mono B3.out.size))
  clear hb A3 B3
  iterate 2 (refine wpL_do rfl (fun w' hw' => (by go_simp; rfl)) ?_; simp only [Act.put, List.setIfInBounds_toArray, List.set_cons_succ, List.set_cons_zero])
  refine wpL_nil ?_
  refine hK2.out _ _ ?_
  refine wp_cond_false rfl ?_
  go_wp2_with fail
  refine hK1.out _ _ ?_
  have c0 : U4.cell? ⟨N, 0, none⟩ = some (.int .i64 6) := by rw [cell_of_row _ _ _ _ _ _ A4]; rfl
  have c8 : U4.cell? ⟨N, 8, none⟩ = some (.int .i64 3) := by rw [cell_of_row _ _ _ _ _ _ A4]; rfl
  clear A4
  go_wp2_with (go_at_call 9; refine (in_ok _ _ _ _ (by omega) (by omega)).mono ?_; rintro e w' ⟨rfl, hw'⟩; rw [hw']; clear hw' w')
  go_ret
  exact ⟨rfl, by rw [HNe.out]; exact B4.out⟩

set_option maxRecDepth 1000000 in
set_option maxHeartbeats 4000000 in
theorem may_sd  (w : World)  : Calls Try.prog 30 #[.agg #[.int .i64 6, .int .i64 7, .string { data := #[] }, .int .i64 0, .int .i64 0, .int .i64 0, .slice none 0 0, .slice none 0 0, .int .i64 5, .int .i64 0]] w fun e w' => e = .returned (.bool true) ∧ Below w.heap.size w w' := by
  have b1 := below_alloc w (.cells #[.int .i64 6, .int .i64 7, .string { data := #[] }, .int .i64 0, .int .i64 0, .int .i64 0, .slice none 0 0, .slice none 0 0, .int .i64 5, .int .i64 0] 60)
  have A1 := heap_alloc_new w (.cells #[.int .i64 6, .int .i64 7, .string { data := #[] }, .int .i64 0, .int .i64 0, .int .i64 0, .slice none 0 0, .slice none 0 0, .int .i64 5, .int .i64 0] 60)
  go_enter Try.func30, Try.ntmps30
  refine wp_seq_k (fun K0 hK0 => ?_)
  go_wp2_with fail
  refine hK0.out _ _ ?_
  have B1 := hid b1
  clear b1
  generalize w.alloc (.cells #[.int .i64 6, .int .i64 7, .string { data := #[] }, .int .i64 0, .int .i64 0, .int .i64 0, .slice none 0 0, .slice none 0 0, .int .i64 5, .int .i64 0] 60) = V1 at *
  obtain ⟨N, hNe⟩ : ∃ N, N = w.heap.size := ⟨_, rfl⟩
  rw [← hNe] at A1 ⊢
  have HNe := hid hNe
  clear hNe
  refine wp_seq_k (fun K1 hK1 => ?_)
  refine wp_seq_k (fun K2 hK2 => ?_)
  refine wp_region_can_all [2, 7, 13, 14] [0, 1, 2, 3, 4, 5, 6, 7, 8, 9, 10, 11, 12, 13, 14, 15, 16] (fun u u' => u'.heap[N]? = u.heap[N]?) (fun _ => rfl) (fun _ _ _ h k => k.trans h) (by kernel_rfl) (by kernel_rfl) ?_
  simp only [List.map_cons, List.map_nil, List.contains_cons, List.contains_nil, List.getD_cons_zero, List.getD_cons_succ, Nat.reduceBEq, Bool.or_false, Bool.or_true]
  have hdr := (Below.refl V1.heap.size V1).drew
  have A2 := row_below A1 hdr
  have B2 := hid (B1.out.trans (hdr.mono B1.out.size))
  clear hdr A1 B1
  generalize V1.drew = U at *
  have g0 : ∀ w' : World, w'.heap[N]? = U.heap[N]? → w'.cell? ⟨N, 0, none⟩ = some (.int .i64 6) := fun w' h => by rw [cell_of_row _ _ _ _ _ _ (h.trans A2)]; rfl
  have g1 : ∀ w' : World, w'.heap[N]? = U.heap[N]? → w'.cell? ⟨N, 1, none⟩ = some (.int .i64 7) := fun w' h => by rw [cell_of_row _ _ _ _ _ _ (h.trans A2)]; rfl
  have fld : ∀ w' : World, w'.heap[N]? = U.heap[N]? → (Instr.loadAt 60 (.pointer (some ⟨N, 0, none⟩))).run Try.prog w' = .ok (.agg #[.int .i64 6, .int .i64 7, .string { data := #[] }, .int .i64 0, .int .i64 0, .int .i64 0, .slice none 0 0, .slice none 0 0, .int .i64 5, .int .i64 0]) w' := fun w' hb => run_load_block (hb.trans A2) Try.underlying60 rfl (by kernel_rfl)
  iterate 2 (refine wpL_do rfl (fun w' hw' => (by go_simp; rfl)) ?_; simp only [Act.put, List.setIfInBounds_toArray, List.set_cons_succ, List.set_cons_zero])
  refine wpL_call rfl (fun K hK => ?_)
  go_wp2_with (go_at_call 9; refine (in_ok _ _ _ _ (by omega) (by omega)).mono ?_; rintro e w' ⟨rfl, hw'⟩; rw [hw']; clear hw' w')
  refine hK _ _ rfl ?_
  clear hK K
  try simp only [Act.put]
  iterate 4 (refine wpL_do rfl (fun w' hw' => (by go_simp; rfl)) ?_; simp only [Act.put, List.setIfInBounds_toArray, List.set_cons_succ, List.set_cons_zero])
  refine wpL_call rfl (fun K hK => ?_)
  go_wp2_with (go_at_call 9; refine (in_ok _ _ _ _ (by omega) (by omega)).mono ?_; rintro e w' ⟨rfl, hw'⟩; rw [hw']; clear hw' w')
  refine hK _ _ rfl ?_
  clear hK K
  try simp only [Act.put]
  iterate 3 (refine wpL_do rfl (fun w' hw' => (by go_simp; rfl)) ?_; simp only [Act.put, List.setIfInBounds_toArray, List.set_cons_succ, List.set_cons_zero])
  clear g0 g1
  refine wpL_load 60 _ ⟨N, 0, none⟩ _ rfl rfl rfl fld ?_
  simp only [Act.put, List.setIfInBounds_toArray, List.set_cons_succ, List.set_cons_zero]
  refine wpL_load 60 _ ⟨N, 0, none⟩ _ rfl rfl rfl fld ?_
  simp only [Act.put, List.setIfInBounds_toArray, List.set_cons_succ, List.set_cons_zero]
  clear fld
  have hba := hid (bare_ns 5 U)
  refine wpL_call rfl (fun K hK => ?_)
  go_wp2_with fail
  refine hba.out.mono ?_
  rintro e U3 ⟨rfl, hb⟩
  refine hK _ _ (hb.block _ (row_lt A2)) ?_
  clear hK K hba
  try simp only [Act.put]
  have A3 := row_below A2 hb
  have B3 := hid (B2.out.trans (hb.mono B2.out.size))
  have hal := hid (alike_ok (6) (7) (0) (0) (0) (5) (0) { data := #[] } none none 0 0 0 0 U3)
  clear hb A2 B2
  refine wpL_call rfl (fun K hK => ?_)
  go_wp2_with fail
  refine hal.out.mono ?_
  rintro e U4 ⟨rfl, hb⟩
  refine hK _ _ (hb.block _ (row_lt A3)) ?_
  clear hK K hal
  try simp only [Act.put]
  have A4 := row_below A3 hb
  have B4 := hid (B3.out.trans (hb.mono B3.out.size))
  clear hb A3 B3
  iterate 2 (refine wpL_do rfl (fun w' hw' => (by go_simp; rfl)) ?_; simp only [Act.put, List.setIfInBounds_toArray, List.set_cons_succ, List.set_cons_zero])
  refine wpL_nil ?_
  refine hK2.out _ _ ?_
  refine wp_cond_false rfl ?_
  go_wp2_with fail
  refine hK1.out _ _ ?_
  have c0 : U4.cell? ⟨N, 0, none⟩ = some (.int .i64 6) := by rw [cell_of_row _ _ _ _ _ _ A4]; rfl
  have c8 : U4.cell? ⟨N, 8, none⟩ = some (.int .i64 5) := by rw [cell_of_row _ _ _ _ _ _ A4]; rfl
  clear A4
  go_wp2_with (go_at_call 9; refine (in_ok _ _ _ _ (by omega) (by omega)).mono ?_; rintro e w' ⟨rfl, hw'⟩; rw [hw']; clear hw' w')
  go_ret
  exact ⟨rfl, by rw [HNe.out]; exact B4.out⟩
end Go.Proofs.Ytopmamgdfngdoaa
/- deliver: a note comes to a giver at work (printed by genrep.py). -/
namespace Go.Proofs.Ytopmamgdfngdoaa
set_option linter.unusedVariables false
open Go.RowKit
theorem vSp_mono {a b : Nat} {s : Sp} (h : vSp a s) (hab : a ≤ b) : vSp b s := by
  rcases h with h | ⟨h1, h2⟩
  · exact .inl h
  · exact .inr ⟨h1, Nat.le_trans h2 hab⟩

set_option maxRecDepth 1000000 in
set_option maxHeartbeats 8000000 in
theorem rep_ng (D : DP) (hD : DOk D) (X B N : Nat) (g : GS) (A : GA) (o : List NV) (ga : Option Addr) (gc : Nat) (l : List Sp) (w0 w : World) (hB : B ≤ X) (hB0 : w0.heap.size = B) (hbw : Below B w0 w) (hN0 : w0.heap[N]? = some (.cells #[.int .i64 4, .int .i64 7, .string { data := #[] }, .int .i64 0, .int .i64 0, .int .i64 0, .slice none 0 0, .slice ga l.length gc, .int .i64 0, .int .i64 0] 60)) (h : GW D w X B g A o) (hrow : w.ownsRow B 84 2 (.slice A.aa g.ag.length A.ac) g.ag.length (spv g.ag)) (hg : GI D.P g) (hno : o.length ≤ 100000) (hn1 : 1 ≤ l.length ∧ l.length ≤ 20) (h0 : RdS w0 ga l.length gc l) (hl : ∀ s ∈ l, vSp D.P.F s) :
    Calls Try.prog 33 #[.pointer (some ⟨X, 0, none⟩), .pointer (some ⟨N, 0, none⟩)] w fun e w' => GwR D w w' X B (replyG D.P g (.ng l)).1 (replyG D.P g (.ng l)).2 e o (.int .i64 0) := by
  have hF := hD.P.F
  have hgl := hg.len
  have hst3 := hg.st
  have hNB : N < B := by rw [← hB0]; exact row_lt hN0
  have hNw : ∀ W : World, Below B w0 W → W.heap[N]? = some (.cells #[.int .i64 4, .int .i64 7, .string { data := #[] }, .int .i64 0, .int .i64 0, .int .i64 0, .slice none 0 0, .slice ga l.length gc, .int .i64 0, .int .i64 0] 60) := fun W hb => row_below hN0 (by rw [hB0]; exact hb)
  have HNW := hid hNw
  have AN := hNw w hbw
  have hmy := hid (may_ng ga l.length gc l w hn1 (h0.below (by rw [hB0]; exact hbw)) (fun s hs => vSp_mono (hl s hs) (by omega)))
  have H := hid h
  have R := hid hrow
  have HBW := hid hbw
  have HG := hid hg
  have H0 := hid h0
  have HL := hid hl
  clear h0 hl
  clear h hrow hbw hN0 hNw hg
  go_enter Try.func33, Try.ntmps33
  refine wp_seq_k (fun K0 hK0 => ?_)
  go_wp2_with fail
  refine hK0.out _ _ ?_
  refine wp_seq_k (fun K1 hK1 => ?_)
  refine wp_block ?_
  refine wp_seq_k (fun K2 hK2 => ?_)
  go_wp2_with (with_reducible refine wpList_load_row (o := ⟨some 5, _, _, _, _, _⟩) rfl 60 _ rfl N rfl 60 _ _ _ AN Try.underlying60 rfl (by kernel_rfl) ?_)
  refine hmy.out.mono ?_
  rintro e V ⟨rfl, hb⟩
  have H1 := hid (H.out.below hb)
  have R1 := hid (ownsRow_below R.out hb)
  have S1 := hid ((GwS.refl w B).below (H.out.lt hB) hb)
  clear hb hmy H R AN
  go_wp2_with fail
  refine hK2.out _ _ ?_
  refine wp_cond_false rfl ?_
  refine wp_seq_k (fun K3 hK3 => ?_)
  refine wp_region_can_all [] [0, 1, 2, 3, 4, 5, 6, 7, 8] (fun u u' => u' = u) (fun _ => rfl) (fun _ _ _ h k => k.trans h) (by kernel_rfl) (by kernel_rfl) ?_
  simp only [List.map_cons, List.map_nil, List.contains_nil, List.getD_cons_zero, List.getD_cons_succ]
  have hdr := (Below.refl V.heap.size V).drew
  have H2 := hid (H1.out.below hdr)
  have R2 := hid (ownsRow_below R1.out hdr)
  have S2 := hid (S1.out.below (H1.out.lt hB) hdr)
  clear hdr H1 R1 S1
  generalize V.drew = U at *
  have AN := HNW.out U (HBW.out.trans S2.out.blw)
  have n0 : U.cell? ⟨N, 0, none⟩ = some (.int .i64 4) := by rw [cell_of_row _ _ _ _ _ _ AN]; rfl
  have n1 : U.cell? ⟨N, 1, none⟩ = some (.int .i64 7) := by rw [cell_of_row _ _ _ _ _ _ AN]; rfl
  have n7 : U.cell? ⟨N, 7, none⟩ = some (.slice ga l.length gc) := by rw [cell_of_row _ _ _ _ _ _ AN]; rfl
  have n8 : U.cell? ⟨N, 8, none⟩ = some (.int .i64 0) := by rw [cell_of_row _ _ _ _ _ _ AN]; rfl
  have n9 : U.cell? ⟨N, 9, none⟩ = some (.int .i64 0) := by rw [cell_of_row _ _ _ _ _ _ AN]; rfl
  have x0 : U.cell? ⟨X, 0, none⟩ = some (.int .i64 7) := by rw [cell_of_row _ _ _ _ _ _ H2.out.bx]; rfl
  have x5 : U.cell? ⟨X, 5, none⟩ = some (.int .i64 (g.st : Int)) := by rw [cell_of_row _ _ _ _ _ _ H2.out.bx]; rfl
  iterate 9 (refine wpL_do rfl (fun w' hw' => (by cases hw'; go_simp; rfl)) ?_; simp only [Act.put, List.setIfInBounds_toArray, List.set_cons_succ, List.set_cons_zero])
  refine wpL_nil ?_
  refine hK3.out _ _ ?_
  refine wp_cond_false rfl ?_
  clear n1 x0
  refine wp_seq_k (fun K4 hK4 => ?_)
  go_wp2_with fail
  refine hK4.out _ _ ?_
  refine wp_cond_false rfl ?_
  refine wp_seq_k (fun K5 hK5 => ?_)
  have d4 : ((g.st : Int) == 4) = false := by rw [beq_eq_false_iff_ne]; omega
  go_wp2_with fail
  refine hK5.out _ _ ?_
  refine wp_cond_false rfl ?_
  clear d4
  refine wp_seq_k (fun K6 hK6 => ?_)
  go_wp2_with fail
  refine hK6.out _ _ ?_
  refine wp_cond_false rfl ?_
  refine wp_seq_k (fun K7 hK7 => ?_)
  by_cases h3 : g.st = 3
  · have d3 : ((g.st : Int) == 3) = true := by rw [h3]; rfl
    have Ew : Hid (replyG D.P g (.ng l) = (g, [])) := hid (by unfold replyG; dsimp only; rw [if_pos h3])
    go_wp2_with fail
    refine hK7.out _ _ ?_
    refine wp_cond_true rfl ?_
    go_wp2_with fail
    go_ret
    rw [Ew.out]
    exact ⟨rfl, ⟨A, [], by rw [List.append_nil]; exact H2.out, rfl⟩, S2.out⟩
  · have d3 : ((g.st : Int) == 3) = false := by rw [beq_eq_false_iff_ne]; omega
    go_wp2_with fail
    refine hK7.out _ _ ?_
    refine wp_cond_false rfl ?_
    clear d3
    go_wp2_with fail
    refine hK1.out _ _ ?_
    have x9 : U.cell? ⟨X, 9, none⟩ = some (.int .i64 (g.tm : Int)) := by rw [cell_of_row _ _ _ _ _ _ H2.out.bx]; rfl
    have fz9 := frozen_row H2.out.bx 9
    obtain ⟨m1, m2⟩ := set_row (cs' := gwc D { g with tm := 0 } A g.ag.length o.length) H2.out.bx 9 (.int .i64 0) rfl
    have R3 := hid (row_kept_own H2.out.bx R2.out m2 (by decide))
    have H3 := hid (H2.out.set (g' := { g with tm := 0 }) (A' := A) m2 m1 rfl rfl rfl rfl H2.out.a)
    have S3 := hid (S2.out.set hB H2.out.bx m2)
    clear m1 m2
    have x11 : (U.setCell ⟨X, 9, none⟩ (.int .i64 0)).cell? ⟨X, 11, none⟩ = some (.int .i64 (g.tr : Int)) := by rw [cell_of_row _ _ _ _ _ _ H3.out.bx]; rfl
    have fz11 := frozen_row H3.out.bx 11
    obtain ⟨m1, m2⟩ := set_row (cs' := gwc D { g with tm := 0, tr := 0 } A g.ag.length o.length) H3.out.bx 11 (.int .i64 0) rfl
    have R4 := hid (row_kept_own H3.out.bx R3.out m2 (by decide))
    have H4 := hid (H3.out.set (g' := { g with tm := 0, tr := 0 }) (A' := A) m2 m1 rfl rfl rfl rfl H3.out.a)
    have S4 := hid (S3.out.set hB H3.out.bx m2)
    clear m1 m2 n0 n7 n8 n9 x5 H2 H3 R2 R3 S2 S3 AN
    refine wp_seq_k (fun K8 hK8 => ?_)
    go_wp2_with fail
    refine hK8.out _ _ ?_
    clear x9 x11 fz9 fz11
    generalize (U.setCell ⟨X, 9, none⟩ (.int .i64 0)).setCell ⟨X, 11, none⟩ (.int .i64 0) = V1 at *
    have AN := HNW.out V1 (HBW.out.trans S4.out.blw)
    have n7 : V1.cell? ⟨N, 7, none⟩ = some (.slice ga l.length gc) := by rw [cell_of_row _ _ _ _ _ _ AN]; rfl
    have n8 : V1.cell? ⟨N, 8, none⟩ = some (.int .i64 0) := by rw [cell_of_row _ _ _ _ _ _ AN]; rfl
    have x5 : V1.cell? ⟨X, 5, none⟩ = some (.int .i64 (g.st : Int)) := by rw [cell_of_row _ _ _ _ _ _ H4.out.bx]; rfl
    refine wp_seq_k (fun K9 hK9 => ?_)
    refine wp_seq_k (fun KA hKA => ?_)
    go_wp2_with fail
    refine hKA.out _ _ ?_
    refine wp_cond_false rfl ?_
    go_wp2_with fail
    refine hK9.out _ _ ?_
    have Ew : Hid (replyG D.P g (.ng l) = ({ g with tm := 0, tr := 0, ag := askedG D.P.F g.ag l }, [])) := hid (by unfold replyG; dsimp only; rw [if_neg h3])
    have hak := hid (asked_walk D hD X B { g with tm := 0, tr := 0 } A o ga l.length gc l w0 V1 hB hB0 H0.out (HBW.out.trans S4.out.blw) H4.out R4.out HL.out hgl (by omega))
    clear x5 n8
    refine wp_seq_k (fun KB hKB => ?_)
    go_wp2_with fail
    refine hak.out.mono ?_
    rintro e W2 ⟨rfl, ⟨A2, hg2⟩, hsw⟩
    have HG2 := hid hg2
    have HS := hid (S4.out.trans hsw)
    clear hg2 hsw hak n7
    go_wp2_with fail
    refine hKB.out _ _ ?_
    go_wp2_with fail
    go_ret
    rw [Ew.out]
    exact ⟨rfl, ⟨A2, [], by rw [List.append_nil]; exact HG2.out, rfl⟩, HS.out⟩

set_option maxRecDepth 1000000 in
set_option maxHeartbeats 8000000 in
theorem rep_nd (D : DP) (hD : DOk D) (X B N : Nat) (g : GS) (A : GA) (o : List NV)  (w0 w : World) (hB : B ≤ X) (hB0 : w0.heap.size = B) (hbw : Below B w0 w) (hN0 : w0.heap[N]? = some (.cells #[.int .i64 5, .int .i64 7, .string { data := #[] }, .int .i64 0, .int .i64 0, .int .i64 0, .slice none 0 0, .slice none 0 0, .int .i64 0, .int .i64 0] 60)) (h : GW D w X B g A o) (hrow : w.ownsRow B 84 2 (.slice A.aa g.ag.length A.ac) g.ag.length (spv g.ag)) (hg : GI D.P g) (hno : o.length ≤ 100000)  :
    Calls Try.prog 33 #[.pointer (some ⟨X, 0, none⟩), .pointer (some ⟨N, 0, none⟩)] w fun e w' => GwR D w w' X B (replyG D.P g (.nd)).1 (replyG D.P g (.nd)).2 e o (.int .i64 0) := by
  have hF := hD.P.F
  have hgl := hg.len
  have hst3 := hg.st
  have hNB : N < B := by rw [← hB0]; exact row_lt hN0
  have hNw : ∀ W : World, Below B w0 W → W.heap[N]? = some (.cells #[.int .i64 5, .int .i64 7, .string { data := #[] }, .int .i64 0, .int .i64 0, .int .i64 0, .slice none 0 0, .slice none 0 0, .int .i64 0, .int .i64 0] 60) := fun W hb => row_below hN0 (by rw [hB0]; exact hb)
  have HNW := hid hNw
  have AN := hNw w hbw
  have hmy := hid (may_nd w)
  have H := hid h
  have R := hid hrow
  have HBW := hid hbw
  have HG := hid hg
  clear h hrow hbw hN0 hNw hg
  go_enter Try.func33, Try.ntmps33
  refine wp_seq_k (fun K0 hK0 => ?_)
  go_wp2_with fail
  refine hK0.out _ _ ?_
  refine wp_seq_k (fun K1 hK1 => ?_)
  refine wp_block ?_
  refine wp_seq_k (fun K2 hK2 => ?_)
  go_wp2_with (with_reducible refine wpList_load_row (o := ⟨some 5, _, _, _, _, _⟩) rfl 60 _ rfl N rfl 60 _ _ _ AN Try.underlying60 rfl (by kernel_rfl) ?_)
  refine hmy.out.mono ?_
  rintro e V ⟨rfl, hb⟩
  have H1 := hid (H.out.below hb)
  have R1 := hid (ownsRow_below R.out hb)
  have S1 := hid ((GwS.refl w B).below (H.out.lt hB) hb)
  clear hb hmy H R AN
  go_wp2_with fail
  refine hK2.out _ _ ?_
  refine wp_cond_false rfl ?_
  refine wp_seq_k (fun K3 hK3 => ?_)
  refine wp_region_can_all [] [0, 1, 2, 3, 4, 5, 6, 7, 8] (fun u u' => u' = u) (fun _ => rfl) (fun _ _ _ h k => k.trans h) (by kernel_rfl) (by kernel_rfl) ?_
  simp only [List.map_cons, List.map_nil, List.contains_nil, List.getD_cons_zero, List.getD_cons_succ]
  have hdr := (Below.refl V.heap.size V).drew
  have H2 := hid (H1.out.below hdr)
  have R2 := hid (ownsRow_below R1.out hdr)
  have S2 := hid (S1.out.below (H1.out.lt hB) hdr)
  clear hdr H1 R1 S1
  generalize V.drew = U at *
  have AN := HNW.out U (HBW.out.trans S2.out.blw)
  have n0 : U.cell? ⟨N, 0, none⟩ = some (.int .i64 5) := by rw [cell_of_row _ _ _ _ _ _ AN]; rfl
  have n1 : U.cell? ⟨N, 1, none⟩ = some (.int .i64 7) := by rw [cell_of_row _ _ _ _ _ _ AN]; rfl
  have n7 : U.cell? ⟨N, 7, none⟩ = some (.slice none 0 0) := by rw [cell_of_row _ _ _ _ _ _ AN]; rfl
  have n8 : U.cell? ⟨N, 8, none⟩ = some (.int .i64 0) := by rw [cell_of_row _ _ _ _ _ _ AN]; rfl
  have n9 : U.cell? ⟨N, 9, none⟩ = some (.int .i64 0) := by rw [cell_of_row _ _ _ _ _ _ AN]; rfl
  have x0 : U.cell? ⟨X, 0, none⟩ = some (.int .i64 7) := by rw [cell_of_row _ _ _ _ _ _ H2.out.bx]; rfl
  have x5 : U.cell? ⟨X, 5, none⟩ = some (.int .i64 (g.st : Int)) := by rw [cell_of_row _ _ _ _ _ _ H2.out.bx]; rfl
  iterate 9 (refine wpL_do rfl (fun w' hw' => (by cases hw'; go_simp; rfl)) ?_; simp only [Act.put, List.setIfInBounds_toArray, List.set_cons_succ, List.set_cons_zero])
  refine wpL_nil ?_
  refine hK3.out _ _ ?_
  refine wp_cond_false rfl ?_
  clear n1 x0
  refine wp_seq_k (fun K4 hK4 => ?_)
  go_wp2_with fail
  refine hK4.out _ _ ?_
  refine wp_cond_false rfl ?_
  refine wp_seq_k (fun K5 hK5 => ?_)
  have d4 : ((g.st : Int) == 4) = false := by rw [beq_eq_false_iff_ne]; omega
  go_wp2_with fail
  refine hK5.out _ _ ?_
  refine wp_cond_false rfl ?_
  clear d4
  refine wp_seq_k (fun K6 hK6 => ?_)
  go_wp2_with fail
  refine hK6.out _ _ ?_
  refine wp_cond_true rfl ?_
  have hen := hid (ended_ok D X B g A o U hB H2.out hno)
  refine wp_seq_k (fun K7 hK7 => ?_)
  go_wp2_with fail
  refine hen.out.mono ?_
  intro e W hs'
  obtain ⟨rfl, ⟨A2, v2, hg2, hks⟩, hsw⟩ := hs'
  have HG2 := hid hg2
  have HS := hid (S2.out.trans hsw)
  have HK := hid hks
  clear hg2 hsw hks hen H2 S2 n0 n7 n8 n9 x5
  go_wp2_with fail
  refine hK7.out _ _ ?_
  go_wp2_with fail
  go_ret
  exact ⟨rfl, ⟨A2, v2, HG2.out, HK.out⟩, HS.out⟩

set_option maxRecDepth 1000000 in
set_option maxHeartbeats 8000000 in
theorem rep_se (D : DP) (hD : DOk D) (X B N : Nat) (g : GS) (A : GA) (o : List NV)  (w0 w : World) (hB : B ≤ X) (hB0 : w0.heap.size = B) (hbw : Below B w0 w) (hN0 : w0.heap[N]? = some (.cells #[.int .i64 6, .int .i64 7, .string { data := #[] }, .int .i64 0, .int .i64 0, .int .i64 0, .slice none 0 0, .slice none 0 0, .int .i64 3, .int .i64 0] 60)) (h : GW D w X B g A o) (hrow : w.ownsRow B 84 2 (.slice A.aa g.ag.length A.ac) g.ag.length (spv g.ag)) (hg : GI D.P g) (hno : o.length ≤ 100000)  :
    Calls Try.prog 33 #[.pointer (some ⟨X, 0, none⟩), .pointer (some ⟨N, 0, none⟩)] w fun e w' => GwR D w w' X B (replyG D.P g (.se)).1 (replyG D.P g (.se)).2 e o (.int .i64 0) := by
  have hF := hD.P.F
  have hgl := hg.len
  have hst3 := hg.st
  have hNB : N < B := by rw [← hB0]; exact row_lt hN0
  have hNw : ∀ W : World, Below B w0 W → W.heap[N]? = some (.cells #[.int .i64 6, .int .i64 7, .string { data := #[] }, .int .i64 0, .int .i64 0, .int .i64 0, .slice none 0 0, .slice none 0 0, .int .i64 3, .int .i64 0] 60) := fun W hb => row_below hN0 (by rw [hB0]; exact hb)
  have HNW := hid hNw
  have AN := hNw w hbw
  have hmy := hid (may_sp w)
  have H := hid h
  have R := hid hrow
  have HBW := hid hbw
  have HG := hid hg
  clear h hrow hbw hN0 hNw hg
  go_enter Try.func33, Try.ntmps33
  refine wp_seq_k (fun K0 hK0 => ?_)
  go_wp2_with fail
  refine hK0.out _ _ ?_
  refine wp_seq_k (fun K1 hK1 => ?_)
  refine wp_block ?_
  refine wp_seq_k (fun K2 hK2 => ?_)
  go_wp2_with (with_reducible refine wpList_load_row (o := ⟨some 5, _, _, _, _, _⟩) rfl 60 _ rfl N rfl 60 _ _ _ AN Try.underlying60 rfl (by kernel_rfl) ?_)
  refine hmy.out.mono ?_
  rintro e V ⟨rfl, hb⟩
  have H1 := hid (H.out.below hb)
  have R1 := hid (ownsRow_below R.out hb)
  have S1 := hid ((GwS.refl w B).below (H.out.lt hB) hb)
  clear hb hmy H R AN
  go_wp2_with fail
  refine hK2.out _ _ ?_
  refine wp_cond_false rfl ?_
  refine wp_seq_k (fun K3 hK3 => ?_)
  refine wp_region_can_all [] [0, 1, 2, 3, 4, 5, 6, 7, 8] (fun u u' => u' = u) (fun _ => rfl) (fun _ _ _ h k => k.trans h) (by kernel_rfl) (by kernel_rfl) ?_
  simp only [List.map_cons, List.map_nil, List.contains_nil, List.getD_cons_zero, List.getD_cons_succ]
  have hdr := (Below.refl V.heap.size V).drew
  have H2 := hid (H1.out.below hdr)
  have R2 := hid (ownsRow_below R1.out hdr)
  have S2 := hid (S1.out.below (H1.out.lt hB) hdr)
  clear hdr H1 R1 S1
  generalize V.drew = U at *
  have AN := HNW.out U (HBW.out.trans S2.out.blw)
  have n0 : U.cell? ⟨N, 0, none⟩ = some (.int .i64 6) := by rw [cell_of_row _ _ _ _ _ _ AN]; rfl
  have n1 : U.cell? ⟨N, 1, none⟩ = some (.int .i64 7) := by rw [cell_of_row _ _ _ _ _ _ AN]; rfl
  have n7 : U.cell? ⟨N, 7, none⟩ = some (.slice none 0 0) := by rw [cell_of_row _ _ _ _ _ _ AN]; rfl
  have n8 : U.cell? ⟨N, 8, none⟩ = some (.int .i64 3) := by rw [cell_of_row _ _ _ _ _ _ AN]; rfl
  have n9 : U.cell? ⟨N, 9, none⟩ = some (.int .i64 0) := by rw [cell_of_row _ _ _ _ _ _ AN]; rfl
  have x0 : U.cell? ⟨X, 0, none⟩ = some (.int .i64 7) := by rw [cell_of_row _ _ _ _ _ _ H2.out.bx]; rfl
  have x5 : U.cell? ⟨X, 5, none⟩ = some (.int .i64 (g.st : Int)) := by rw [cell_of_row _ _ _ _ _ _ H2.out.bx]; rfl
  iterate 9 (refine wpL_do rfl (fun w' hw' => (by cases hw'; go_simp; rfl)) ?_; simp only [Act.put, List.setIfInBounds_toArray, List.set_cons_succ, List.set_cons_zero])
  refine wpL_nil ?_
  refine hK3.out _ _ ?_
  refine wp_cond_false rfl ?_
  clear n1 x0
  refine wp_seq_k (fun K4 hK4 => ?_)
  go_wp2_with fail
  refine hK4.out _ _ ?_
  refine wp_cond_false rfl ?_
  refine wp_seq_k (fun K5 hK5 => ?_)
  have d4 : ((g.st : Int) == 4) = false := by rw [beq_eq_false_iff_ne]; omega
  go_wp2_with fail
  refine hK5.out _ _ ?_
  refine wp_cond_false rfl ?_
  clear d4
  refine wp_seq_k (fun K6 hK6 => ?_)
  go_wp2_with fail
  refine hK6.out _ _ ?_
  refine wp_cond_false rfl ?_
  refine wp_seq_k (fun K7 hK7 => ?_)
  by_cases h3 : g.st = 3
  · have d3 : ((g.st : Int) == 3) = true := by rw [h3]; rfl
    have Ew : Hid (replyG D.P g (.se) = (g, [])) := hid (by unfold replyG; dsimp only; rw [if_pos h3])
    go_wp2_with fail
    refine hK7.out _ _ ?_
    refine wp_cond_true rfl ?_
    go_wp2_with fail
    go_ret
    rw [Ew.out]
    exact ⟨rfl, ⟨A, [], by rw [List.append_nil]; exact H2.out, rfl⟩, S2.out⟩
  · have d3 : ((g.st : Int) == 3) = false := by rw [beq_eq_false_iff_ne]; omega
    go_wp2_with fail
    refine hK7.out _ _ ?_
    refine wp_cond_false rfl ?_
    clear d3
    go_wp2_with fail
    refine hK1.out _ _ ?_
    have x9 : U.cell? ⟨X, 9, none⟩ = some (.int .i64 (g.tm : Int)) := by rw [cell_of_row _ _ _ _ _ _ H2.out.bx]; rfl
    have fz9 := frozen_row H2.out.bx 9
    obtain ⟨m1, m2⟩ := set_row (cs' := gwc D { g with tm := 0 } A g.ag.length o.length) H2.out.bx 9 (.int .i64 0) rfl
    have R3 := hid (row_kept_own H2.out.bx R2.out m2 (by decide))
    have H3 := hid (H2.out.set (g' := { g with tm := 0 }) (A' := A) m2 m1 rfl rfl rfl rfl H2.out.a)
    have S3 := hid (S2.out.set hB H2.out.bx m2)
    clear m1 m2
    have x11 : (U.setCell ⟨X, 9, none⟩ (.int .i64 0)).cell? ⟨X, 11, none⟩ = some (.int .i64 (g.tr : Int)) := by rw [cell_of_row _ _ _ _ _ _ H3.out.bx]; rfl
    have fz11 := frozen_row H3.out.bx 11
    obtain ⟨m1, m2⟩ := set_row (cs' := gwc D { g with tm := 0, tr := 0 } A g.ag.length o.length) H3.out.bx 11 (.int .i64 0) rfl
    have R4 := hid (row_kept_own H3.out.bx R3.out m2 (by decide))
    have H4 := hid (H3.out.set (g' := { g with tm := 0, tr := 0 }) (A' := A) m2 m1 rfl rfl rfl rfl H3.out.a)
    have S4 := hid (S3.out.set hB H3.out.bx m2)
    clear m1 m2 n0 n7 n8 n9 x5 H2 H3 R2 R3 S2 S3 AN
    refine wp_seq_k (fun K8 hK8 => ?_)
    go_wp2_with fail
    refine hK8.out _ _ ?_
    clear x9 x11 fz9 fz11
    generalize (U.setCell ⟨X, 9, none⟩ (.int .i64 0)).setCell ⟨X, 11, none⟩ (.int .i64 0) = V1 at *
    have AN := HNW.out V1 (HBW.out.trans S4.out.blw)
    have n7 : V1.cell? ⟨N, 7, none⟩ = some (.slice none 0 0) := by rw [cell_of_row _ _ _ _ _ _ AN]; rfl
    have n8 : V1.cell? ⟨N, 8, none⟩ = some (.int .i64 3) := by rw [cell_of_row _ _ _ _ _ _ AN]; rfl
    have x5 : V1.cell? ⟨X, 5, none⟩ = some (.int .i64 (g.st : Int)) := by rw [cell_of_row _ _ _ _ _ _ H4.out.bx]; rfl
    refine wp_seq_k (fun K9 hK9 => ?_)
    refine wp_seq_k (fun KA hKA => ?_)
    by_cases h1 : g.st = 1
    · have d1 : ((g.st : Int) == 1) = true := by rw [h1]; rfl
      have Ew : Hid (replyG D.P g .se = ({ g with tm := 0, tr := 0, st := 2 }, [])) := hid (by unfold replyG; dsimp only; rw [if_neg h3, if_pos h1])
      go_wp2_with fail
      refine hKA.out _ _ ?_
      refine wp_cond_true rfl ?_
      clear d1
      have fz5 := frozen_row H4.out.bx 5
      obtain ⟨m1, m2⟩ := set_row (cs' := gwc D { g with tm := 0, tr := 0, st := 2 } A g.ag.length o.length) H4.out.bx 5 (.int .i64 2) rfl
      have R5 := hid (row_kept_own H4.out.bx R4.out m2 (by decide))
      have H5 := hid (H4.out.set (g' := { g with tm := 0, tr := 0, st := 2 }) (A' := A) m2 m1 rfl rfl rfl rfl H4.out.a)
      have S5 := hid (S4.out.set hB H4.out.bx m2)
      clear m1 m2 H4 R4 S4
      go_wp2_with fail
      refine hK9.out _ _ ?_
      clear fz5 n7
      generalize V1.setCell ⟨X, 5, none⟩ (.int .i64 2) = V2 at *
      have AN2 := HNW.out V2 (HBW.out.trans S5.out.blw)
      have n7 : V2.cell? ⟨N, 7, none⟩ = some (.slice none 0 0) := by rw [cell_of_row _ _ _ _ _ _ AN2]; rfl
      have hak := hid (asked_walk D hD X B { g with tm := 0, tr := 0, st := 2 } A o none 0 0 [] w0 V2 hB hB0 (RdS.nil w0) (HBW.out.trans S5.out.blw) H5.out R5.out (fun s hs => (by cases hs)) hgl (by omega))
      clear x5 n8
      refine wp_seq_k (fun KB hKB => ?_)
      go_wp2_with fail
      refine hak.out.mono ?_
      rintro e W2 ⟨rfl, ⟨A2, hg2⟩, hsw⟩
      have HG2 := hid hg2
      have HS := hid (S5.out.trans hsw)
      clear hg2 hsw hak n7
      go_wp2_with fail
      refine hKB.out _ _ ?_
      go_wp2_with fail
      go_ret
      rw [Ew.out]
      exact ⟨rfl, ⟨A2, [], by rw [List.append_nil]; exact HG2.out, rfl⟩, HS.out⟩
    · have d1 : ((g.st : Int) == 1) = false := by rw [beq_eq_false_iff_ne]; omega
      have Ew : Hid (replyG D.P g .se = ({ g with tm := 0, tr := 0 }, [])) := hid (by unfold replyG; dsimp only; rw [if_neg h3, if_neg h1])
      go_wp2_with fail
      refine hKA.out _ _ ?_
      refine wp_cond_false rfl ?_
      clear d1
      go_wp2_with fail
      refine hK9.out _ _ ?_
      have hak := hid (asked_walk D hD X B { g with tm := 0, tr := 0 } A o none 0 0 [] w0 V1 hB hB0 (RdS.nil w0) (HBW.out.trans S4.out.blw) H4.out R4.out (fun s hs => (by cases hs)) hgl (by omega))
      clear x5 n8
      refine wp_seq_k (fun KB hKB => ?_)
      go_wp2_with fail
      refine hak.out.mono ?_
      rintro e W2 ⟨rfl, ⟨A2, hg2⟩, hsw⟩
      have HG2 := hid hg2
      have HS := hid (S4.out.trans hsw)
      clear hg2 hsw hak n7
      go_wp2_with fail
      refine hKB.out _ _ ?_
      go_wp2_with fail
      go_ret
      rw [Ew.out]
      exact ⟨rfl, ⟨A2, [], by rw [List.append_nil]; exact HG2.out, rfl⟩, HS.out⟩
end Go.Proofs.Ytopmamgdfngdoaa
/- deliver: giving, around the closure of function 33 (printed by gengiv.py). -/
namespace Go.Proofs.Ytopmamgdfngdoaa
set_option linter.unusedVariables false
open Go.RowKit

set_option maxRecDepth 1000000 in
set_option maxHeartbeats 8000000 in
theorem giving33 (D : DP) (hD : DOk D) (g g' : GS) (ks : List NT) (fa : Option Addr) (fc : Nat) (aa : Option Addr) (ac : Nat) (N : Nat) (w : World) (hG : GI D.P g) (hM : GvT D w g fa fc aa ac)
    (hturn : ∀ (X : Nat) (A : GA) (W : World), w.heap.size ≤ X → Below w.heap.size w W → GW D W X w.heap.size g A [] → W.ownsRow w.heap.size 84 2 (.slice A.aa g.ag.length A.ac) g.ag.length (spv g.ag) → Calls Try.prog 33 #[.pointer (some ⟨X, 0, none⟩), .pointer (some ⟨N, 0, none⟩)] W fun e w' => GwR D W w' X w.heap.size g' ks e [] (.int .i64 0)) (hl' : g'.ag.length ≤ 1000) :
    Calls Try.prog 18 #[.agg (gcells D g fa D.P.F fc aa g.ag.length ac), .func (.func 33) #[] #[.pointer (some ⟨N, 0, none⟩)]] w fun e w' => GiveR D w w' g' ks e := by
  have b1 := below_alloc w (.cells (gcells D g fa D.P.F fc aa g.ag.length ac) 28)
  have A1 := heap_alloc_new w (.cells (gcells D g fa D.P.F fc aa g.ag.length ac) 28)
  generalize hV1 : w.alloc (.cells (gcells D g fa D.P.F fc aa g.ag.length ac) 28) = V1 at *
  have b2 := below_alloc V1 (.cells #[.int .i64 0, .string { data := #[] }, .slice none 0 0, .int .i64 0, .int .i64 0, .int .i64 0, .bool false, .int .i64 0, .slice none 0 0, .int .i64 0, .int .i64 0, .int .i64 0, .int .i64 0] 28)
  have A2 := heap_alloc_new V1 (.cells #[.int .i64 0, .string { data := #[] }, .slice none 0 0, .int .i64 0, .int .i64 0, .int .i64 0, .bool false, .int .i64 0, .slice none 0 0, .int .i64 0, .int .i64 0, .int .i64 0, .int .i64 0] 28)
  have A1' := row_below A1 b2
  have B2 := hid (b1.trans (b2.mono b1.size))
  have HM := hid (hM.below b1)
  have HT := hid hturn
  have hs1 := b1.size
  have hZ : w.heap.size ≤ V1.heap.size := hs1
  have hVs : w.heap.size < V1.heap.size := row_lt A1
  clear hM hturn b1
  unfold gcells at A1 A1' hV1 ⊢
  go_enter Try.func18, Try.ntmps18
  refine wp_seq_k (fun K0 hK0 => ?_)
  go_wp2_with fail
  refine hK0.out _ _ ?_
  clear hV1
  generalize V1.alloc (.cells #[.int .i64 0, .string { data := #[] }, .slice none 0 0, .int .i64 0, .int .i64 0, .int .i64 0, .bool false, .int .i64 0, .slice none 0 0, .int .i64 0, .int .i64 0, .int .i64 0, .int .i64 0] 28) = V2 at *
  have HM2 := hid (HM.out.below b2)
  clear b2 HM A1
  obtain ⟨Y, hY⟩ : ∃ Y, Y = w.heap.size := ⟨_, rfl⟩
  obtain ⟨Z, hZ'⟩ : ∃ Z, Z = V1.heap.size := ⟨_, rfl⟩
  rw [← hZ'] at A2 hZ hVs ⊢
  rw [← hY] at A1' ⊢
  have HY := hid hY
  clear hY hZ' hs1
  have hgv := hid (gives_ok D hD g fa D.P.F fc aa g.ag.length ac V2 hG HM2.out.gvm)
  unfold gcells at hgv
  refine wp_seq_k (fun K1 hK1 => ?_)
  refine wp_seq_k (fun K2 hK2 => ?_)
  go_wp2_with (with_reducible refine wpList_load_row (o := ⟨some 9, _, _, _, _, _⟩) rfl 28 _ rfl Y rfl 28 _ _ _ A1' Try.underlying28 rfl (by kernel_rfl) ?_)
  refine hgv.out.mono ?_
  rintro e V3 ⟨rfl, hb⟩
  have HB3 := hid (B2.out.trans (hb.mono B2.out.size))
  have AY := row_below A1' hb
  have AZ := row_below A2 hb
  have HM3 := hid (HM2.out.below hb)
  clear hb hgv A1' A2 HM2 B2
  go_wp2_with fail
  refine hK2.out _ _ ?_
  refine wp_cond_false rfl ?_
  go_wp2_with fail
  refine hK1.out _ _ ?_
  refine wp_seq_k (fun K3 hK3 => ?_)
  go_wp2_with (with_reducible refine wpList_load_row (o := ⟨some 13, _, _, _, _, _⟩) rfl 28 _ rfl Y rfl 28 _ _ _ AY Try.underlying28 rfl (by kernel_rfl) ?_)
  refine hK3.out _ _ ?_
  obtain ⟨X, hX⟩ : ∃ X, X = V3.heap.size := ⟨_, rfl⟩
  rw [← hX]
  have b4 := below_alloc V3 (.cells (gwc D g ⟨fa, fc, aa, ac, none, 0⟩ g.ag.length 0) 66)
  have A4 := heap_alloc_new V3 (.cells (gwc D g ⟨fa, fc, aa, ac, none, 0⟩ g.ag.length 0) 66)
  rw [← hX] at A4
  unfold gwc at b4 A4
  dsimp only at b4 A4
  have hYX : Y < X := by rw [hX]; exact row_lt AY
  have hZX : Z < X := by rw [hX]; exact row_lt AZ
  have hwX : w.heap.size ≤ X := by rw [hX]; exact HB3.out.size
  have AZ4 := row_below AZ b4
  have B4 := HB3.out.trans (b4.mono HB3.out.size)
  have HM4 := hid (HM3.out.below b4)
  generalize V3.alloc (.cells #[.int .i64 7, .string logS, .slice fa D.P.F fc, .int .i64 (D.P.m : Int), .int .i64 (D.P.b : Int), .int .i64 (g.st : Int), .bool g.fi, .int .i64 (g.pos : Int), .slice aa g.ag.length ac, .int .i64 (g.tm : Int), .int .i64 (D.P.p : Int), .int .i64 (g.tr : Int), .int .i64 100, .slice none 0 0] 66) = V4 at *
  clear b4 AY AZ hX HM3 HB3
  refine wp_seq_k (fun K4 hK4 => ?_)
  have hdr := (Below.refl V4.heap.size V4).drew
  have A5 := row_below A4 hdr
  have AZ5 := hid (row_below AZ4 hdr)
  have B5 := hid (B4.trans (hdr.mono B4.size))
  have HM5 := hid (HM4.out.below hdr)
  clear hdr A4 AZ4 B4 HM4
  refine wp_region_late [17, 21] [7, 13, 17, 21] [(false, [0, 1, 2, 3, 4, 5, 8, 9, 10, 11]), (true, [6, 12, 7, 13]), (false, [14, 15, 16, 17, 18, 19, 20, 21])] Ext (fun _ _ => True) Ext.refl Ext.trans (fun _ => trivial) (fun _ _ _ _ _ => trivial) (fun _ _ _ => trivial) (by kernel_rfl) (by kernel_rfl) ?_
  simp only [wpPh, List.map_cons, List.map_nil, List.contains_cons, List.contains_nil, List.getD_cons_zero, List.getD_cons_succ, Nat.reduceBEq, Bool.or_false, Bool.or_true]
  generalize V4.drew = U at *
  have f2 : ∀ w', Ext U w' → w'.cell? ⟨X, 2, none⟩ = some (.slice fa D.P.F fc) := fun w' hb => by rw [cell_of_row _ _ _ _ _ _ (row_below A5 hb)]; rfl
  have f8 : ∀ w', Ext U w' → w'.cell? ⟨X, 8, none⟩ = some (.slice aa g.ag.length ac) := fun w' hb => by rw [cell_of_row _ _ _ _ _ _ (row_below A5 hb)]; rfl
  iterate 10 (refine wpL_do rfl (fun w' hw' => (by go_simp; rfl)) ?_; simp only [Act.put, List.setIfInBounds_toArray, List.set_cons_succ, List.set_cons_zero])
  refine wpL_nil ?_
  iterate 2 (refine wpL_do rfl (fun w' hw' => (by go_simp; rfl)) ?_; simp only [Act.put, List.setIfInBounds_toArray, List.set_cons_succ, List.set_cons_zero])
  clear f2 f8
  have hF := hD.P.F
  have hcl := hid (cloneB fa D.P.F fc D.fl U HM5.out.f.rd (by omega))
  refine wpL_call rfl (fun K hK => ?_)
  go_wp2_with fail
  refine hcl.out.mono ?_
  rintro e U6 ⟨fa', fc', rfl, ho, hb⟩
  refine hK _ _ hb ?_
  clear hK K hcl
  try simp only [Act.put, List.setIfInBounds_toArray, List.set_cons_succ, List.set_cons_zero]
  have A6 := row_below A5 hb
  have AZ6 := hid (row_below AZ5.out hb)
  have HM6 := hid (HM5.out.below hb)
  have HO6 := hid (ownsRow_mono ho B5.out.size)
  have B6 := hid (B5.out.trans (hb.mono B5.out.size))
  clear A5 AZ5 HM5 B5 hb ho
  have hcl := hid (cloneS aa g.ag.length ac g.ag U6 HM6.out.a (Nat.le_trans hG.len (by decide)))
  refine wpL_call rfl (fun K hK => ?_)
  go_wp2_with fail
  refine hcl.out.mono ?_
  rintro e U7 ⟨aa', ac', rfl, ho, hb⟩
  refine hK _ _ hb ?_
  clear hK K hcl
  try simp only [Act.put, List.setIfInBounds_toArray, List.set_cons_succ, List.set_cons_zero]
  try refine wpL_nil ?_
  have A7 := row_below A6 hb
  have AZ7 := hid (row_below AZ6.out hb)
  have HO7 := hid (ownsRow_below HO6.out hb)
  have HS7 := hid (ownsRow_mono ho B6.out.size)
  have B7 := hid (B6.out.trans (hb.mono B6.out.size))
  clear A6 AZ6 HM6 B6 HO6 hb ho
  have c2 : U7.cell? ⟨X, 2, none⟩ = some (.slice fa D.P.F fc) := by rw [cell_of_row _ _ _ _ _ _ A7]; rfl
  have fz2 := frozen_row A7 2
  obtain ⟨m1, m2⟩ := set_row (cs' := #[.int .i64 7, .string logS, .slice fa' D.P.F fc', .int .i64 (D.P.m : Int), .int .i64 (D.P.b : Int), .int .i64 (g.st : Int), .bool g.fi, .int .i64 (g.pos : Int), .slice aa g.ag.length ac, .int .i64 (g.tm : Int), .int .i64 (D.P.p : Int), .int .i64 (g.tr : Int), .int .i64 100, .slice none 0 0]) A7 2 (.slice fa' D.P.F fc') rfl
  have AZ8 := hid (row_grown AZ7.out m2 (fun e => by rw [e] at hZX; exact Nat.lt_irrefl _ hZX))
  have HO8 := hid (row_kept_own A7 HO7.out m2 (by decide))
  have HS8 := hid (row_kept_own A7 HS7.out m2 (by decide))
  have B8 := hid (B7.out.grown m2 B7.out.size (fun k e => by cases e; exact hwX))
  have A8 := hid m2
  clear m2 AZ7 HO7 HS7 B7
  iterate 3 (refine wpL_do rfl (fun w' hw' => (by go_simp; rfl)) ?_; simp only [Act.put, List.setIfInBounds_toArray, List.set_cons_succ, List.set_cons_zero])
  refine wpL_call rfl (fun K hK => ?_)
  go_wp2_with fail
  refine hK _ _ trivial ?_
  clear hK K c2 fz2 A7
  try simp only [Act.put, List.setIfInBounds_toArray, List.set_cons_succ, List.set_cons_zero]
  generalize U7.setCell ⟨X, 2, none⟩ (.slice fa' D.P.F fc') = U8 at *
  have c8 : U8.cell? ⟨X, 8, none⟩ = some (.slice aa g.ag.length ac) := by rw [cell_of_row _ _ _ _ _ _ m1]; rfl
  have fz8 := frozen_row m1 8
  obtain ⟨k1, k2⟩ := set_row (cs' := gwc D g ⟨fa', fc', aa', ac', none, 0⟩ g.ag.length 0) m1 8 (.slice aa' g.ag.length ac') rfl
  have AZ9 := hid (row_grown AZ8.out k2 (fun e => by rw [e] at hZX; exact Nat.lt_irrefl _ hZX))
  have HO9 := hid (row_kept_own m1 HO8.out k2 (by decide))
  have HS9 := hid (row_kept_own m1 HS8.out k2 (by decide))
  have B9 := hid (B8.out.grown k2 B8.out.size (fun k e => by cases e; exact hwX))
  have A9 := hid k1
  clear k1 k2 AZ8 HO8 HS8 B8 A8
  iterate 3 (refine wpL_do rfl (fun w' hw' => (by go_simp; rfl)) ?_; simp only [Act.put, List.setIfInBounds_toArray, List.set_cons_succ, List.set_cons_zero])
  refine wpL_call rfl (fun K hK => ?_)
  go_wp2_with fail
  refine hK _ _ trivial ?_
  clear hK K c8 fz8 m1
  try simp only [Act.put, List.setIfInBounds_toArray, List.set_cons_succ, List.set_cons_zero]
  try refine wpL_nil ?_
  generalize U8.setCell ⟨X, 8, none⟩ (.slice aa' g.ag.length ac') = U9 at *
  refine hK4.out _ _ ?_
  have hgw := hid (show GW D U9 X w.heap.size g ⟨fa', fc', aa', ac', none, 0⟩ [] from ⟨A9.out, RdT.ofOwn HO9.out, OwnS.ofOwn HS9.out, ⟨rfl, .inl ⟨rfl, rfl⟩⟩, fun v hv => (by cases hv), fun v hv => (by cases hv)⟩)
  have htn := hid (HT.out X ⟨fa', fc', aa', ac', none, 0⟩ U9 hwX B9.out hgw.out HS9.out)
  clear HO9 HS9 A9 hgw HT
  refine wp_seq_k (fun K5 hK5 => ?_)
  go_wp2_with fail
  refine htn.out.mono ?_
  intro e W hs'
  obtain ⟨rfl, ⟨A, vs, hg2, hks⟩, hsw⟩ := hs'
  rw [List.nil_append] at hg2
  have HG := hid hg2
  have HK := hid hks
  have AZ10 := hid (hsw.st 28 (by decide) (by decide) (by decide) _ _ AZ9.out)
  have B10 := hid (B9.out.trans hsw.blw)
  clear hg2 hks hsw htn AZ9 B9
  go_wp2_with fail
  refine hK5.out _ _ ?_
  refine wp_seq_k (fun K6 hK6 => ?_)
  have c8 : W.cell? ⟨X, 8, none⟩ = some (.slice A.aa g'.ag.length A.ac) := by rw [cell_of_row _ _ _ _ _ _ HG.out.bx]; rfl
  have hcl := hid (cloneS A.aa g'.ag.length A.ac g'.ag W HG.out.a.rds (Nat.le_trans hl' (by decide)))
  go_wp2_with fail
  refine hcl.out.mono ?_
  rintro e W2 ⟨aa2, ac2, rfl, ho, hb⟩
  have HG2 := hid (HG.out.below hb)
  have HS2 := hid (ownsRow_mono ho B10.out.size)
  have AZ11 := hid (row_below AZ10.out hb)
  have B11 := hid (B10.out.trans (hb.mono B10.out.size))
  clear hb ho hcl HG AZ10 B10 c8
  have c8 : W2.cell? ⟨X, 8, none⟩ = some (.slice A.aa g'.ag.length A.ac) := by rw [cell_of_row _ _ _ _ _ _ HG2.out.bx]; rfl
  have fz8 := frozen_row HG2.out.bx 8
  obtain ⟨k1, k2⟩ := set_row (cs' := gwc D g' { A with aa := aa2, ac := ac2 } g'.ag.length vs.length) HG2.out.bx 8 (.slice aa2 g'.ag.length ac2) rfl
  have HG3 := hid (HG2.out.set (g' := g') (A' := { A with aa := aa2, ac := ac2 }) k2 k1 rfl rfl rfl rfl (OwnS.ofOwn HS2.out))
  have AZ12 := hid (row_grown AZ11.out k2 (fun e => by rw [e] at hZX; exact Nat.lt_irrefl _ hZX))
  have B12 := hid (B11.out.grown k2 B11.out.size (fun k e => by cases e; exact hwX))
  clear k1 k2 HG2 HS2 AZ11 B11
  go_wp2_with fail
  refine hK6.out _ _ ?_
  clear c8 fz8
  generalize W2.setCell ⟨X, 8, none⟩ (.slice aa2 g'.ag.length ac2) = W3 at *
  have hdr := (Below.refl W3.heap.size W3).drew
  have HG4 := hid (HG3.out.below hdr)
  have AZ13 := row_below AZ12.out hdr
  have B13 := hid (B12.out.trans (hdr.mono B12.out.size))
  clear hdr HG3 AZ12 B12
  refine wp_seq_k (fun K7 hK7 => ?_)
  refine wp_region_can_all [9] [0, 1, 2, 3, 4, 5, 6, 7, 8, 9, 10, 11] (fun u u' => u'.heap[X]? = u.heap[X]?) (fun _ => rfl) (fun _ _ _ h k => k.trans h) (by kernel_rfl) (by kernel_rfl) ?_
  simp only [List.map_cons, List.map_nil, List.contains_cons, List.contains_nil, List.getD_cons_zero, List.getD_cons_succ, Nat.reduceBEq, Bool.or_false]
  generalize W3.drew = W4 at *
  have f13 : ∀ w' : World, w'.heap[X]? = W4.heap[X]? → w'.cell? ⟨X, 13, none⟩ = some (.slice A.oa vs.length A.oc) := fun w' hb => by rw [cell_of_row _ _ _ _ _ _ (hb.trans HG4.out.bx)]; rfl
  have fld : ∀ w' : World, w'.heap[X]? = W4.heap[X]? → (Instr.loadAt 28 (.pointer (some ⟨X, 0, none⟩))).run Try.prog w' = .ok (.agg (gcells D g' A.fa D.P.F A.fc aa2 g'.ag.length ac2)) w' := fun w' hb => run_loadAt_mid w' X 0 28 (gcells D g' A.fa D.P.F A.fc aa2 g'.ag.length ac2).toList _ (range_row (a := []) (z := [.slice A.oa vs.length A.oc]) (e := 66) (by rw [hb]; exact HG4.out.bx)) Try.underlying28 rfl (by kernel_rfl)
  iterate 3 (refine wpL_do rfl (fun w' hw' => (by go_simp; rfl)) ?_; simp only [Act.put, List.setIfInBounds_toArray, List.set_cons_succ, List.set_cons_zero])
  refine wpL_load 28 _ ⟨X, 0, none⟩ _ rfl rfl rfl fld ?_
  simp only [Act.put, List.setIfInBounds_toArray, List.set_cons_succ, List.set_cons_zero]
  iterate 5 (refine wpL_do rfl (fun w' hw' => (by go_simp; rfl)) ?_; simp only [Act.put, List.setIfInBounds_toArray, List.set_cons_succ, List.set_cons_zero])
  clear f13 fld
  obtain ⟨m1, m2⟩ := set_whole (cs' := gcells D g' A.fa D.P.F A.fc aa2 g'.ag.length ac2) AZ13
  have hXk : (W4.setRow Z (gcells D g' A.fa D.P.F A.fc aa2 g'.ag.length ac2)).heap[X]? = W4.heap[X]? := (row_grown HG4.out.bx m2 (fun e => by rw [e] at hZX; exact Nat.lt_irrefl _ hZX)).trans HG4.out.bx.symm
  have s5 := Stays.ofSet m2 AZ13 (T := 5) (by decide)
  have s84 := Stays.ofSet m2 AZ13 (T := 84) (by decide)
  have HF := hid (HG4.out.f.stays s5)
  have HA := hid (HG4.out.a.rds.stays s84)
  have HO := hid (row_kept_own AZ13 HG4.out.ow m2 (by decide))
  have HN := hid (fun v hv => (HG4.out.ns v hv).stays s5 s84)
  have HNG := hid HG4.out.nog
  have B14 := hid (B13.out.grown m2 B13.out.size (fun k e => by cases e; exact hZ))
  have HM1 := hid m1
  refine wpL_call rfl (fun K hK => ?_)
  refine wp_store_row 28 _ _ rfl Z (gcells D g' A.fa D.P.F A.fc aa2 g'.ag.length ac2) rfl rfl 28 _ AZ13 (by kernel_rfl) rfl (by unfold gcells; simp [Value.oneCell']) ?_
  refine hK _ _ hXk ?_
  clear hK K m1 m2 s5 s84 AZ13 hXk HG4 B13
  try simp only [Act.put]
  generalize W4.setRow Z _ = W5 at *
  iterate 2 (refine wpL_do rfl (fun w' hw' => (by go_simp; rfl)) ?_; simp only [Act.put, List.setIfInBounds_toArray, List.set_cons_succ, List.set_cons_zero])
  refine wpL_nil ?_
  refine hK7.out _ _ ?_
  go_wp2_with fail
  refine bodyPost_ret (results_c2 (fn := Try.f18) rfl _ W5 Z 28 _ _ rfl HM1.out (by kernel_rfl) (by kernel_rfl)) rfl ?_
  exact ⟨⟨_, _, _, _, _, _, vs, rfl, ⟨HF.out, HA.out⟩, ⟨HO.out, HN.out⟩, HK.out, HNG.out⟩, B14.out⟩
end Go.Proofs.Ytopmamgdfngdoaa
