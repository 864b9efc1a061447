/- pick: which symbols a rate keeps. -/
import Derived.Test.YtaedanklpedmkaaPairC
import Derived.Test.YtaedanklpedmkaaRegion
import Derived.Test.YtaedanklpedmkaaRow
import Derived.Laws.ResultCell
namespace Go.Proofs.Ytaedanklpedmkaa
set_option linter.unusedVariables false
open Go.RowKit

/-- the pattern of a rate -/
def patA : Nat → ByteArray
  | 1 => ⟨#[49]⟩ | 2 => ⟨#[49, 48]⟩ | 3 => ⟨#[49, 48, 49]⟩ | 4 => ⟨#[49, 48, 49, 48, 49]⟩ | _ => ⟨#[49, 48, 48, 48, 49, 48, 49]⟩
def patB : Nat → ByteArray
  | 1 => ⟨#[49]⟩ | 2 => ⟨#[49, 49]⟩ | 3 => ⟨#[49, 49, 48]⟩ | 4 => ⟨#[49, 49, 48, 49, 48]⟩ | _ => ⟨#[49, 49, 49, 49, 48, 49, 48]⟩
theorem same_store {U : World} {b : Nat} {cs : Array Value} {e : TypeId} (A : U.heap[b]? = some (.cells cs e)) (i : Nat) (v : Value) (h : cs.setIfInBounds i v = cs) : Below U.heap.size U (U.setCell ⟨b, i, none⟩ v) ∧ (U.setCell ⟨b, i, none⟩ v).heap[b]? = some (.cells cs e) := by
  obtain ⟨h1, g⟩ := set_row A i v h
  refine ⟨⟨g.os, g.tape, g.output, g.size, fun k hk => ?_⟩, h1⟩
  by_cases e : k = b
  · rw [e, h1, A]
  · exact g.block k hk (fun e2 => e (by cases e2; rfl))
theorem same_two {U : World} {b : Nat} {v0 v1 : Value} {e : TypeId} (A : U.heap[b]? = some (.cells #[v0, v1] e)) : Below U.heap.size U ((U.setCell ⟨b, 0, none⟩ v0).setCell ⟨b, 1, none⟩ v1) ∧ ((U.setCell ⟨b, 0, none⟩ v0).setCell ⟨b, 1, none⟩ v1).heap[b]? = some (.cells #[v0, v1] e) := by
  obtain ⟨h1, A1⟩ := same_store A 0 v0 rfl
  obtain ⟨h2, A2⟩ := same_store A1 1 v1 rfl
  exact ⟨h1.trans (h2.mono h1.size), A2⟩
set_option maxRecDepth 100000 in
theorem pick_1 (w : World) : Calls Try.prog 9 #[.int .i64 1] w fun e w' => e = .returned (.tuple #[.agg #[.string (patA 1), .string (patB 1)], .bool true]) ∧ Below w.heap.size w w' := by
  go_enter Try.func9, Try.ntmps9
  go_wp2_with fail
  have A0 := heap_alloc_new w (.cells #[.string ⟨#[49]⟩, .string ⟨#[49]⟩] 36)
  have b0 := below_alloc w (.cells #[.string ⟨#[49]⟩, .string ⟨#[49]⟩] 36)
  generalize w.alloc (.cells #[.string ⟨#[49]⟩, .string ⟨#[49]⟩] 36) = V at *
  refine wp_region_can_all [4] [0, 1, 2, 3, 4, 5] (Below V.heap.size) (fun _ => Below.refl _ _) (fun _ _ _ h k => h.trans k) (by kernel_rfl) (by kernel_rfl) ?_
  have A : V.drew.heap[w.heap.size]? = _ := A0
  have b1 : Below w.heap.size w V.drew := b0.drew
  have hVU : V.drew.heap.size = V.heap.size := rfl
  rw [← hVU]
  clear hVU A0 b0
  generalize V.drew = U at *
  have hl : w.heap.size < U.heap.size := row_lt A
  have n0 : ∀ w', Below U.heap.size U w' → w'.cell? ⟨w.heap.size, 0, none⟩ = some (.string ⟨#[49]⟩) := fun w' hw => (hw.cell (p := ⟨w.heap.size, 0, none⟩) hl).trans (by rw [cell_of_row _ _ _ _ _ _ A]; rfl)
  have n1 : ∀ w', Below U.heap.size U w' → w'.cell? ⟨w.heap.size, 1, none⟩ = some (.string ⟨#[49]⟩) := fun w' hw => (hw.cell (p := ⟨w.heap.size, 1, none⟩) hl).trans (by rw [cell_of_row _ _ _ _ _ _ A]; rfl)
  simp only [List.map_cons, List.map_nil, List.contains_cons, List.contains_nil, List.getD_cons_zero, List.getD_cons_succ, Nat.reduceBEq, Bool.or_false]
  repeat (refine wpL_do rfl (fun w' hw' => (by go_simp; rfl)) ?_; simp only [Act.put, List.setIfInBounds_toArray, List.set_cons_succ, List.set_cons_zero])
  have fz := frozen_row A
  have c0 := n0 U (Below.refl _ _)
  have c1 := n1 U (Below.refl _ _)
  clear n0 n1
  refine wpL_call rfl (fun K hK => ?_)
  go_wp2_with fail
  obtain ⟨bS, AS⟩ := same_two A
  refine hK _ _ bS ?_
  clear hK K
  try simp only [Act.put, List.setIfInBounds_toArray, List.set_cons_succ, List.set_cons_zero]
  repeat (refine wpL_do rfl (fun w' hw' => (by go_simp; rfl)) ?_; simp only [Act.put, List.setIfInBounds_toArray, List.set_cons_succ, List.set_cons_zero])
  refine wpL_nil ?_
  have bT := b1.trans (bS.mono b1.size)
  generalize (U.setCell ⟨w.heap.size, 0, none⟩ (.string ⟨#[49]⟩)).setCell ⟨w.heap.size, 1, none⟩ (.string ⟨#[49]⟩) = X at *
  have x0 : X.cell? ⟨w.heap.size, 0, none⟩ = some (.string ⟨#[49]⟩) := by rw [cell_of_row _ _ _ _ _ _ AS]; rfl
  have x1 : X.cell? ⟨w.heap.size, 1, none⟩ = some (.string ⟨#[49]⟩) := by rw [cell_of_row _ _ _ _ _ _ AS]; rfl
  clear c0 c1 fz A bS AS b1 hl
  go_wp2
  refine bodyPost_ret (v := .tuple #[.agg #[.string ⟨#[49]⟩, .string ⟨#[49]⟩], .bool true]) ?_ rfl ⟨rfl, bT⟩
  rw [results_cell_tmp rfl]
  simp [asAddr, Result.andThen]
  go_simp
set_option maxRecDepth 100000 in
theorem pick_2 (w : World) : Calls Try.prog 9 #[.int .i64 2] w fun e w' => e = .returned (.tuple #[.agg #[.string (patA 2), .string (patB 2)], .bool true]) ∧ Below w.heap.size w w' := by
  go_enter Try.func9, Try.ntmps9
  go_wp2_with fail
  have A0 := heap_alloc_new w (.cells #[.string ⟨#[49, 48]⟩, .string ⟨#[49, 49]⟩] 36)
  have b0 := below_alloc w (.cells #[.string ⟨#[49, 48]⟩, .string ⟨#[49, 49]⟩] 36)
  generalize w.alloc (.cells #[.string ⟨#[49, 48]⟩, .string ⟨#[49, 49]⟩] 36) = V at *
  refine wp_region_can_all [4] [0, 1, 2, 3, 4, 5] (Below V.heap.size) (fun _ => Below.refl _ _) (fun _ _ _ h k => h.trans k) (by kernel_rfl) (by kernel_rfl) ?_
  have A : V.drew.heap[w.heap.size]? = _ := A0
  have b1 : Below w.heap.size w V.drew := b0.drew
  have hVU : V.drew.heap.size = V.heap.size := rfl
  rw [← hVU]
  clear hVU A0 b0
  generalize V.drew = U at *
  have hl : w.heap.size < U.heap.size := row_lt A
  have n0 : ∀ w', Below U.heap.size U w' → w'.cell? ⟨w.heap.size, 0, none⟩ = some (.string ⟨#[49, 48]⟩) := fun w' hw => (hw.cell (p := ⟨w.heap.size, 0, none⟩) hl).trans (by rw [cell_of_row _ _ _ _ _ _ A]; rfl)
  have n1 : ∀ w', Below U.heap.size U w' → w'.cell? ⟨w.heap.size, 1, none⟩ = some (.string ⟨#[49, 49]⟩) := fun w' hw => (hw.cell (p := ⟨w.heap.size, 1, none⟩) hl).trans (by rw [cell_of_row _ _ _ _ _ _ A]; rfl)
  simp only [List.map_cons, List.map_nil, List.contains_cons, List.contains_nil, List.getD_cons_zero, List.getD_cons_succ, Nat.reduceBEq, Bool.or_false]
  repeat (refine wpL_do rfl (fun w' hw' => (by go_simp; rfl)) ?_; simp only [Act.put, List.setIfInBounds_toArray, List.set_cons_succ, List.set_cons_zero])
  have fz := frozen_row A
  have c0 := n0 U (Below.refl _ _)
  have c1 := n1 U (Below.refl _ _)
  clear n0 n1
  refine wpL_call rfl (fun K hK => ?_)
  go_wp2_with fail
  obtain ⟨bS, AS⟩ := same_two A
  refine hK _ _ bS ?_
  clear hK K
  try simp only [Act.put, List.setIfInBounds_toArray, List.set_cons_succ, List.set_cons_zero]
  repeat (refine wpL_do rfl (fun w' hw' => (by go_simp; rfl)) ?_; simp only [Act.put, List.setIfInBounds_toArray, List.set_cons_succ, List.set_cons_zero])
  refine wpL_nil ?_
  have bT := b1.trans (bS.mono b1.size)
  generalize (U.setCell ⟨w.heap.size, 0, none⟩ (.string ⟨#[49, 48]⟩)).setCell ⟨w.heap.size, 1, none⟩ (.string ⟨#[49, 49]⟩) = X at *
  have x0 : X.cell? ⟨w.heap.size, 0, none⟩ = some (.string ⟨#[49, 48]⟩) := by rw [cell_of_row _ _ _ _ _ _ AS]; rfl
  have x1 : X.cell? ⟨w.heap.size, 1, none⟩ = some (.string ⟨#[49, 49]⟩) := by rw [cell_of_row _ _ _ _ _ _ AS]; rfl
  clear c0 c1 fz A bS AS b1 hl
  go_wp2
  refine bodyPost_ret (v := .tuple #[.agg #[.string ⟨#[49, 48]⟩, .string ⟨#[49, 49]⟩], .bool true]) ?_ rfl ⟨rfl, bT⟩
  rw [results_cell_tmp rfl]
  simp [asAddr, Result.andThen]
  go_simp
set_option maxRecDepth 100000 in
theorem pick_3 (w : World) : Calls Try.prog 9 #[.int .i64 3] w fun e w' => e = .returned (.tuple #[.agg #[.string (patA 3), .string (patB 3)], .bool true]) ∧ Below w.heap.size w w' := by
  go_enter Try.func9, Try.ntmps9
  go_wp2_with fail
  have A0 := heap_alloc_new w (.cells #[.string ⟨#[49, 48, 49]⟩, .string ⟨#[49, 49, 48]⟩] 36)
  have b0 := below_alloc w (.cells #[.string ⟨#[49, 48, 49]⟩, .string ⟨#[49, 49, 48]⟩] 36)
  generalize w.alloc (.cells #[.string ⟨#[49, 48, 49]⟩, .string ⟨#[49, 49, 48]⟩] 36) = V at *
  refine wp_region_can_all [4] [0, 1, 2, 3, 4, 5] (Below V.heap.size) (fun _ => Below.refl _ _) (fun _ _ _ h k => h.trans k) (by kernel_rfl) (by kernel_rfl) ?_
  have A : V.drew.heap[w.heap.size]? = _ := A0
  have b1 : Below w.heap.size w V.drew := b0.drew
  have hVU : V.drew.heap.size = V.heap.size := rfl
  rw [← hVU]
  clear hVU A0 b0
  generalize V.drew = U at *
  have hl : w.heap.size < U.heap.size := row_lt A
  have n0 : ∀ w', Below U.heap.size U w' → w'.cell? ⟨w.heap.size, 0, none⟩ = some (.string ⟨#[49, 48, 49]⟩) := fun w' hw => (hw.cell (p := ⟨w.heap.size, 0, none⟩) hl).trans (by rw [cell_of_row _ _ _ _ _ _ A]; rfl)
  have n1 : ∀ w', Below U.heap.size U w' → w'.cell? ⟨w.heap.size, 1, none⟩ = some (.string ⟨#[49, 49, 48]⟩) := fun w' hw => (hw.cell (p := ⟨w.heap.size, 1, none⟩) hl).trans (by rw [cell_of_row _ _ _ _ _ _ A]; rfl)
  simp only [List.map_cons, List.map_nil, List.contains_cons, List.contains_nil, List.getD_cons_zero, List.getD_cons_succ, Nat.reduceBEq, Bool.or_false]
  repeat (refine wpL_do rfl (fun w' hw' => (by go_simp; rfl)) ?_; simp only [Act.put, List.setIfInBounds_toArray, List.set_cons_succ, List.set_cons_zero])
  have fz := frozen_row A
  have c0 := n0 U (Below.refl _ _)
  have c1 := n1 U (Below.refl _ _)
  clear n0 n1
  refine wpL_call rfl (fun K hK => ?_)
  go_wp2_with fail
  obtain ⟨bS, AS⟩ := same_two A
  refine hK _ _ bS ?_
  clear hK K
  try simp only [Act.put, List.setIfInBounds_toArray, List.set_cons_succ, List.set_cons_zero]
  repeat (refine wpL_do rfl (fun w' hw' => (by go_simp; rfl)) ?_; simp only [Act.put, List.setIfInBounds_toArray, List.set_cons_succ, List.set_cons_zero])
  refine wpL_nil ?_
  have bT := b1.trans (bS.mono b1.size)
  generalize (U.setCell ⟨w.heap.size, 0, none⟩ (.string ⟨#[49, 48, 49]⟩)).setCell ⟨w.heap.size, 1, none⟩ (.string ⟨#[49, 49, 48]⟩) = X at *
  have x0 : X.cell? ⟨w.heap.size, 0, none⟩ = some (.string ⟨#[49, 48, 49]⟩) := by rw [cell_of_row _ _ _ _ _ _ AS]; rfl
  have x1 : X.cell? ⟨w.heap.size, 1, none⟩ = some (.string ⟨#[49, 49, 48]⟩) := by rw [cell_of_row _ _ _ _ _ _ AS]; rfl
  clear c0 c1 fz A bS AS b1 hl
  go_wp2
  refine bodyPost_ret (v := .tuple #[.agg #[.string ⟨#[49, 48, 49]⟩, .string ⟨#[49, 49, 48]⟩], .bool true]) ?_ rfl ⟨rfl, bT⟩
  rw [results_cell_tmp rfl]
  simp [asAddr, Result.andThen]
  go_simp
set_option maxRecDepth 100000 in
theorem pick_4 (w : World) : Calls Try.prog 9 #[.int .i64 4] w fun e w' => e = .returned (.tuple #[.agg #[.string (patA 4), .string (patB 4)], .bool true]) ∧ Below w.heap.size w w' := by
  go_enter Try.func9, Try.ntmps9
  go_wp2_with fail
  have A0 := heap_alloc_new w (.cells #[.string ⟨#[49, 48, 49, 48, 49]⟩, .string ⟨#[49, 49, 48, 49, 48]⟩] 36)
  have b0 := below_alloc w (.cells #[.string ⟨#[49, 48, 49, 48, 49]⟩, .string ⟨#[49, 49, 48, 49, 48]⟩] 36)
  generalize w.alloc (.cells #[.string ⟨#[49, 48, 49, 48, 49]⟩, .string ⟨#[49, 49, 48, 49, 48]⟩] 36) = V at *
  refine wp_region_can_all [4] [0, 1, 2, 3, 4, 5] (Below V.heap.size) (fun _ => Below.refl _ _) (fun _ _ _ h k => h.trans k) (by kernel_rfl) (by kernel_rfl) ?_
  have A : V.drew.heap[w.heap.size]? = _ := A0
  have b1 : Below w.heap.size w V.drew := b0.drew
  have hVU : V.drew.heap.size = V.heap.size := rfl
  rw [← hVU]
  clear hVU A0 b0
  generalize V.drew = U at *
  have hl : w.heap.size < U.heap.size := row_lt A
  have n0 : ∀ w', Below U.heap.size U w' → w'.cell? ⟨w.heap.size, 0, none⟩ = some (.string ⟨#[49, 48, 49, 48, 49]⟩) := fun w' hw => (hw.cell (p := ⟨w.heap.size, 0, none⟩) hl).trans (by rw [cell_of_row _ _ _ _ _ _ A]; rfl)
  have n1 : ∀ w', Below U.heap.size U w' → w'.cell? ⟨w.heap.size, 1, none⟩ = some (.string ⟨#[49, 49, 48, 49, 48]⟩) := fun w' hw => (hw.cell (p := ⟨w.heap.size, 1, none⟩) hl).trans (by rw [cell_of_row _ _ _ _ _ _ A]; rfl)
  simp only [List.map_cons, List.map_nil, List.contains_cons, List.contains_nil, List.getD_cons_zero, List.getD_cons_succ, Nat.reduceBEq, Bool.or_false]
  repeat (refine wpL_do rfl (fun w' hw' => (by go_simp; rfl)) ?_; simp only [Act.put, List.setIfInBounds_toArray, List.set_cons_succ, List.set_cons_zero])
  have fz := frozen_row A
  have c0 := n0 U (Below.refl _ _)
  have c1 := n1 U (Below.refl _ _)
  clear n0 n1
  refine wpL_call rfl (fun K hK => ?_)
  go_wp2_with fail
  obtain ⟨bS, AS⟩ := same_two A
  refine hK _ _ bS ?_
  clear hK K
  try simp only [Act.put, List.setIfInBounds_toArray, List.set_cons_succ, List.set_cons_zero]
  repeat (refine wpL_do rfl (fun w' hw' => (by go_simp; rfl)) ?_; simp only [Act.put, List.setIfInBounds_toArray, List.set_cons_succ, List.set_cons_zero])
  refine wpL_nil ?_
  have bT := b1.trans (bS.mono b1.size)
  generalize (U.setCell ⟨w.heap.size, 0, none⟩ (.string ⟨#[49, 48, 49, 48, 49]⟩)).setCell ⟨w.heap.size, 1, none⟩ (.string ⟨#[49, 49, 48, 49, 48]⟩) = X at *
  have x0 : X.cell? ⟨w.heap.size, 0, none⟩ = some (.string ⟨#[49, 48, 49, 48, 49]⟩) := by rw [cell_of_row _ _ _ _ _ _ AS]; rfl
  have x1 : X.cell? ⟨w.heap.size, 1, none⟩ = some (.string ⟨#[49, 49, 48, 49, 48]⟩) := by rw [cell_of_row _ _ _ _ _ _ AS]; rfl
  clear c0 c1 fz A bS AS b1 hl
  go_wp2
  refine bodyPost_ret (v := .tuple #[.agg #[.string ⟨#[49, 48, 49, 48, 49]⟩, .string ⟨#[49, 49, 48, 49, 48]⟩], .bool true]) ?_ rfl ⟨rfl, bT⟩
  rw [results_cell_tmp rfl]
  simp [asAddr, Result.andThen]
  go_simp
set_option maxRecDepth 100000 in
theorem pick_5 (w : World) : Calls Try.prog 9 #[.int .i64 5] w fun e w' => e = .returned (.tuple #[.agg #[.string (patA 5), .string (patB 5)], .bool true]) ∧ Below w.heap.size w w' := by
  go_enter Try.func9, Try.ntmps9
  go_wp2_with fail
  have A0 := heap_alloc_new w (.cells #[.string ⟨#[49, 48, 48, 48, 49, 48, 49]⟩, .string ⟨#[49, 49, 49, 49, 48, 49, 48]⟩] 36)
  have b0 := below_alloc w (.cells #[.string ⟨#[49, 48, 48, 48, 49, 48, 49]⟩, .string ⟨#[49, 49, 49, 49, 48, 49, 48]⟩] 36)
  generalize w.alloc (.cells #[.string ⟨#[49, 48, 48, 48, 49, 48, 49]⟩, .string ⟨#[49, 49, 49, 49, 48, 49, 48]⟩] 36) = V at *
  refine wp_region_can_all [4] [0, 1, 2, 3, 4, 5] (Below V.heap.size) (fun _ => Below.refl _ _) (fun _ _ _ h k => h.trans k) (by kernel_rfl) (by kernel_rfl) ?_
  have A : V.drew.heap[w.heap.size]? = _ := A0
  have b1 : Below w.heap.size w V.drew := b0.drew
  have hVU : V.drew.heap.size = V.heap.size := rfl
  rw [← hVU]
  clear hVU A0 b0
  generalize V.drew = U at *
  have hl : w.heap.size < U.heap.size := row_lt A
  have n0 : ∀ w', Below U.heap.size U w' → w'.cell? ⟨w.heap.size, 0, none⟩ = some (.string ⟨#[49, 48, 48, 48, 49, 48, 49]⟩) := fun w' hw => (hw.cell (p := ⟨w.heap.size, 0, none⟩) hl).trans (by rw [cell_of_row _ _ _ _ _ _ A]; rfl)
  have n1 : ∀ w', Below U.heap.size U w' → w'.cell? ⟨w.heap.size, 1, none⟩ = some (.string ⟨#[49, 49, 49, 49, 48, 49, 48]⟩) := fun w' hw => (hw.cell (p := ⟨w.heap.size, 1, none⟩) hl).trans (by rw [cell_of_row _ _ _ _ _ _ A]; rfl)
  simp only [List.map_cons, List.map_nil, List.contains_cons, List.contains_nil, List.getD_cons_zero, List.getD_cons_succ, Nat.reduceBEq, Bool.or_false]
  repeat (refine wpL_do rfl (fun w' hw' => (by go_simp; rfl)) ?_; simp only [Act.put, List.setIfInBounds_toArray, List.set_cons_succ, List.set_cons_zero])
  have fz := frozen_row A
  have c0 := n0 U (Below.refl _ _)
  have c1 := n1 U (Below.refl _ _)
  clear n0 n1
  refine wpL_call rfl (fun K hK => ?_)
  go_wp2_with fail
  obtain ⟨bS, AS⟩ := same_two A
  refine hK _ _ bS ?_
  clear hK K
  try simp only [Act.put, List.setIfInBounds_toArray, List.set_cons_succ, List.set_cons_zero]
  repeat (refine wpL_do rfl (fun w' hw' => (by go_simp; rfl)) ?_; simp only [Act.put, List.setIfInBounds_toArray, List.set_cons_succ, List.set_cons_zero])
  refine wpL_nil ?_
  have bT := b1.trans (bS.mono b1.size)
  generalize (U.setCell ⟨w.heap.size, 0, none⟩ (.string ⟨#[49, 48, 48, 48, 49, 48, 49]⟩)).setCell ⟨w.heap.size, 1, none⟩ (.string ⟨#[49, 49, 49, 49, 48, 49, 48]⟩) = X at *
  have x0 : X.cell? ⟨w.heap.size, 0, none⟩ = some (.string ⟨#[49, 48, 48, 48, 49, 48, 49]⟩) := by rw [cell_of_row _ _ _ _ _ _ AS]; rfl
  have x1 : X.cell? ⟨w.heap.size, 1, none⟩ = some (.string ⟨#[49, 49, 49, 49, 48, 49, 48]⟩) := by rw [cell_of_row _ _ _ _ _ _ AS]; rfl
  clear c0 c1 fz A bS AS b1 hl
  go_wp2
  refine bodyPost_ret (v := .tuple #[.agg #[.string ⟨#[49, 48, 48, 48, 49, 48, 49]⟩, .string ⟨#[49, 49, 49, 49, 48, 49, 48]⟩], .bool true]) ?_ rfl ⟨rfl, bT⟩
  rw [results_cell_tmp rfl]
  simp [asAddr, Result.andThen]
  go_simp
end Go.Proofs.Ytaedanklpedmkaa
