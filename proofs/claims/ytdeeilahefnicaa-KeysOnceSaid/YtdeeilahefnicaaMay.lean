/- Keys: may: a key that may be. -/
import Derived.Test.YtdeeilahefnicaaLen
namespace Go.Proofs.Ytdeeilahefnicaa
set_option linter.unusedVariables false
open Go.RowKit

/-- a key that may be -/
structure KeyOk (id top seen : Int) (ws : List Int) : Prop where
  hid : 0 ≤ id ∧ id ≤ 255
  words : Words ws
  htop : -1 ≤ top ∧ top ≤ 281474976710655
  hseen : 0 ≤ seen ∧ seen ≤ 4611686018427387903
  bits : ∃ k : Nat, (k : Int) = min 62 (max top 0) ∧ seen.toNat < 2 ^ k

set_option maxHeartbeats 1000000 in
set_option maxRecDepth 100000 in
theorem may_ok (id top seen : Int) (wa : Option Addr) (wc : Nat) (ws : List Int) (h : KeyOk id top seen ws) (W : World) (hW : Rd W wa 8 wc (vz ws)) :
    Calls Try.prog 10 #[.agg #[.int .i64 id, .slice wa 8 wc, .int .i64 top, .int .i64 seen]] W fun e w' => e = .returned (.bool true) ∧ Below W.heap.size W w' := by
  obtain ⟨hi1, hws, ht, hs, k, hk, hsk⟩ := h
  have A := heap_alloc_new W (.cells #[.int .i64 id, .slice wa 8 wc, .int .i64 top, .int .i64 seen] 25)
  have bA := below_alloc W (.cells #[.int .i64 id, .slice wa 8 wc, .int .i64 top, .int .i64 seen] 25)
  have hk62 : k ≤ 62 := by omega
  have t1 : decide (top < -1) = false := by simp; omega
  have t2 : decide ((281474976710655 : Int) < top) = false := by simp; omega
  have t3 : decide (seen < 0) = false := by simp; omega
  have HK := hid hk
  have HSK := hid hsk
  have HT := hid ht
  have HS := hid hs
  clear hk hsk ht hs
  go_enter Try.func10, Try.ntmps10
  go_wp2_with fail
  refine (in_yes id 255 _ hi1).mono ?_
  rintro e w' ⟨rfl, rfl⟩
  go_wp2_with fail
  refine (fits_ok wa wc ws 0 0 hws (by decide) (by decide) _ (hW.below bA)).mono ?_
  rintro e w' ⟨rfl, rfl⟩
  generalize W.alloc (.cells #[.int .i64 id, .slice wa 8 wc, .int .i64 top, .int .i64 seen] 25) = V at *
  have d2 : V.cell? ⟨W.heap.size, 2, none⟩ = some (.int .i64 top) := by rw [cell_of_row _ _ _ _ _ _ A]; rfl
  have d3 : V.cell? ⟨W.heap.size, 3, none⟩ = some (.int .i64 seen) := by rw [cell_of_row _ _ _ _ _ _ A]; rfl
  go_wp2_with fail
  refine wp_region_can_all [3] [0, 1, 2, 4, 5, 6, 7, 3, 8, 9] (Below V.heap.size) (fun _ => Below.refl _ _) (fun _ _ _ h k => h.trans k) (by kernel_rfl) (by kernel_rfl) ?_
  simp only [List.map_cons, List.map_nil, List.contains_cons, List.contains_nil, List.getD_cons_zero, List.getD_cons_succ, Nat.reduceBEq, Bool.or_false]
  have A : V.drew.heap[W.heap.size]? = _ := A
  have bA := bA.drew
  clear d2 d3
  have hVU : V.drew.heap.size = V.heap.size := rfl
  rw [← hVU]
  clear hVU
  generalize V.drew = U at *
  have hl : W.heap.size < U.heap.size := row_lt A
  have e1 : IntKind.u64.wrap seen = seen := by have := HS.out; rw [IntKind.wrap_u64]; omega
  have n2 : ∀ w', Below U.heap.size U w' → w'.cell? ⟨W.heap.size, 2, none⟩ = some (.int .i64 top) := fun w' hw => (hw.cell (p := ⟨W.heap.size, 2, none⟩) hl).trans (by rw [cell_of_row _ _ _ _ _ _ A]; rfl)
  have n3 : ∀ w', Below U.heap.size U w' → w'.cell? ⟨W.heap.size, 3, none⟩ = some (.int .i64 seen) := fun w' hw => (hw.cell (p := ⟨W.heap.size, 3, none⟩) hl).trans (by rw [cell_of_row _ _ _ _ _ _ A]; rfl)
  repeat (refine wpL_do rfl (fun w' hw' => (by go_simp; rfl)) ?_; simp only [Act.put, List.setIfInBounds_toArray, List.set_cons_succ, List.set_cons_zero])
  have hm : (if (if top < 0 then (0 : Int) else top) < 62 then (if top < 0 then (0 : Int) else top) else 62) = (k : Int) := by
    have := HK.out
    by_cases h1 : top < 0
    · simp only [h1, if_true]; omega
    · simp only [h1, if_false]
      by_cases h2 : top < 62
      · rw [if_pos h2]; omega
      · rw [if_neg h2]; omega
  rw [hm]
  clear hm n2 n3
  refine wpL_call rfl (fun K hK => ?_)
  go_wp2_with fail
  all_goals
    refine (len_ok seen k U HS.out.1 HS.out.2 hk62 HSK.out).mono ?_
    rintro e w' ⟨r, rfl, hr, rfl⟩
    refine hK _ _ (Below.refl _ _) ?_
    clear hK K
    try simp only [Act.put, List.setIfInBounds_toArray, List.set_cons_succ, List.set_cons_zero]
    have hr2 := hr.2
    have hr3 : decide (r ≤ (k : Int)) = true := decide_eq_true hr2
    repeat (refine wpL_do rfl (fun w' hw' => (by go_simp; rfl)) ?_; simp only [Act.put, List.setIfInBounds_toArray, List.set_cons_succ, List.set_cons_zero])
    refine wpL_nil ?_
    go_wp2_with fail
    go_ret
    exact ⟨by first | rfl | (simp [hr2]), bA⟩
end Go.Proofs.Ytdeeilahefnicaa
