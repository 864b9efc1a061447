/- packet.Decode, where a packet's bytes stand at the row's head. -/
import Derived.Test.YtjiipmalahhcpaaCarries3
import Derived.StillTailTactics
namespace Go.Proofs.Ytjiipmalahhcpaa
set_option linter.unusedVariables false
open Go.RowKit

def wordAt (bs : List Nat) (k : Nat) : Nat := (nth bs (2 * k) * 256) ||| nth bs (2 * k + 1)
set_option maxRecDepth 1000000 in
theorem wordAt_lt {bs : List Nat} (h : AllB bs) (k : Nat) : wordAt bs k < 65536 :=
  Nat.or_lt_two_pow (n := 16) (by have := nth_lt h (2 * k); omega) (by have := nth_lt h (2 * k + 1); omega)

set_option maxRecDepth 1000000 in
theorem Rd.sub {w : World} {b off n cap : Nat} {xs : List Value} (h : Rd w (some ⟨b, off, none⟩) n cap xs) (k m : Nat) (hkm : k + m ≤ n) : Rd w (some ⟨b, off + k, none⟩) m (cap - k) ((xs.drop k).take m) := by
  have hl := h.len
  have hle := h.le
  have hmx := h.max
  refine ⟨by rw [List.length_take, List.length_drop]; omega, by omega, by omega, (fun h => by cases h), fun hm => ?_⟩
  obtain ⟨b', off', ha, hlt, hc⟩ := h.mem (by omega)
  cases ha
  refine ⟨b, off + k, rfl, hlt, fun j hj => ?_⟩
  rw [List.getElem?_take, if_pos hj, List.getElem?_drop, ← hc (k + j) (by omega), Nat.add_assoc]

set_option maxRecDepth 1000000 in
theorem vb_drop (bs : List Nat) (k : Nat) : (vb bs).drop k = vb (bs.drop k) := by simp [vb]

set_option maxRecDepth 1000000 in
theorem grownBy_setAt (W : World) (b o : Nat) (v : Value) : W.grownBy (W.setCell ⟨b, o, none⟩ v) (some b) :=
  ⟨rfl, rfl, rfl, by simp, fun k hk hne => Below.heap_setCell _ _ _ _ (by intro e; exact hne (by rw [e]))⟩

set_option maxRecDepth 1000000 in
theorem grown_cell {w w' : World} {row : Option Nat} {b o : Nat} {v : Value} (hg : w.grownBy w' row) (hlt : b < w.heap.size) (hne : some b ≠ row) (hc : w.cell? ⟨b, o, none⟩ = some v) : w'.cell? ⟨b, o, none⟩ = some v :=
  (World.cell?_of_block (hg.block b hlt hne)).trans hc

set_option maxRecDepth 1000000 in
set_option maxHeartbeats 2000000 in
theorem decode_ok (a : Option Addr) (n c : Nat) (bs : List Nat) (w : World) (hr : Rd w a n c (vb bs)) (hb : AllB bs)
    (h6 : 6 ≤ n) (hv : wordAt bs 0 < 8192) (hl : wordAt bs 2 + 7 ≤ n) :
    Calls Try.prog 35 #[.slice a n c] w fun e w' => ∃ ao cc, e = .returned (.tuple #[.agg #[.bool (((wordAt bs 0 &&& 4096 : Nat) : Int) != 0), .bool (((wordAt bs 0 &&& 2048 : Nat) : Int) != 0), .int .i64 (wordAt bs 0 &&& 2047 : Nat), .int .i64 ((wordAt bs 1 : Int) / 16384), .int .i64 (wordAt bs 1 &&& 16383 : Nat), .slice ao (wordAt bs 2 + 1) cc], .int .i64 ((wordAt bs 2 : Int) + 7), .int .i64 0]) ∧
      w'.ownsRow w.heap.size 5 1 (.slice ao (wordAt bs 2 + 1) cc) (wordAt bs 2 + 1) (vb ((bs.drop 6).take (wordAt bs 2 + 1))) ∧ Below w.heap.size w w' := by
  obtain ⟨b, off, rfl, hbl, _⟩ := hr.cell 0 (by omega)
  obtain ⟨V0, hW⟩ : ∃ V0, V0 = (w.alloc (.cells #[.bool false, .bool false, .int .i64 0, .int .i64 0, .int .i64 0, .slice none 0 0] 38)).alloc (.cells #[.int .i64 0, .int .i64 0, .int .i64 0] 103) := ⟨_, rfl⟩
  have B0 : Below w.heap.size w V0 := by rw [hW]; exact (below_alloc w _).alloc (by simp) _
  have A0 : V0.heap[w.heap.size]? = some (.cells #[.bool false, .bool false, .int .i64 0, .int .i64 0, .int .i64 0, .slice none 0 0] 38 (0, 0)) := by
    rw [hW]; exact heap_alloc2_old w _ _
  have A1 : V0.heap[w.heap.size + 1]? = some (.cells #[.int .i64 0, .int .i64 0, .int .i64 0] 103 (0, 0)) := by rw [hW]; exact heap_alloc2_new w _ _
  go_enter Try.func35, Try.ntmps35
  go_wp2_with fail
  rw [← hW]
  clear hW
  refine wp_loop_rounds 4 ?_
  rw [rounds_succ]
  go_wp2_with fail
  have rk := hr.below B0
  obtain ⟨_, _, hab, _, x0⟩ := rk.cell 0 (by omega)
  cases hab
  obtain ⟨_, _, hab, _, x1⟩ := rk.cell 1 (by omega)
  cases hab
  clear rk
  try simp only [Nat.add_zero] at x0
  have y0 := nth_lt hb 0
  have y1 := nth_lt hb 1
  have s3 : IntKind.i64.wrap (nth bs 0 : Int) = (nth bs 0 : Int) := wraps_i64 _ (by omega) (by omega)
  have s4 : IntKind.i64.wrap ((nth bs 0 : Int) * 256) = (nth bs 0 : Int) * 256 := wraps_i64 _ (by omega) (by omega)
  have s5 : IntKind.i64.wrap (nth bs 1 : Int) = (nth bs 1 : Int) := wraps_i64 _ (by omega) (by omega)
  have q : bits .or .i64 ((nth bs 0 : Int) * 256) (nth bs 1) = ((wordAt bs 0 : Nat) : Int) := i64_or_nat (nth bs 0 * 256) (nth bs 1) (by omega) (by omega)
  have l0 : (0 : Int) < n := by omega
  have l1 : (1 : Int) < n := by omega
  have l2 : 0 < n := by omega
  have l3 : 1 < n := by omega
  have s1 : IntKind.i64.wrap 0 = 0 := by decide
  have s2 : IntKind.i64.wrap 1 = 1 := by decide
  refine wp_region_still_tail 17 (by kernel_rfl) (by kernel_rfl) ?_
  simp only [List.take_succ_cons, List.take_zero, List.drop_succ_cons, List.drop_zero]
  repeat still_step
  refine wpStill_nil ?_
  change wpList _ _ _ _ _ V0.drew
  have A0 : V0.drew.heap[w.heap.size]? = _ := A0
  have A1 : V0.drew.heap[w.heap.size + 1]? = _ := A1
  have B0 := B0.drew
  have fA : V0.drew.frozen? ⟨w.heap.size + 1, 0, none⟩ = false := frozen_of_row _ _ _ _ _ A1
  have cA : V0.drew.cell? ⟨w.heap.size + 1, 0, none⟩ = some (.int .i64 0) := by rw [cell_of_row _ _ _ _ _ _ A1]; rfl
  clear x0 x1 s1 s2 s3 s4 s5 q l0 l1 l2 l3 y0 y1
  generalize V0.drew = Vd at *
  go_wp2_with fail
  obtain ⟨V1, hV⟩ : ∃ V1, V1 = Vd.setCell ⟨w.heap.size + 1, 0, none⟩ (.int .i64 (wordAt bs 0 : Nat)) := ⟨_, rfl⟩
  rw [← hV]
  have A0 : V1.heap[w.heap.size]? = some (.cells #[.bool false, .bool false, .int .i64 0, .int .i64 0, .int .i64 0, .slice none 0 0] 38 (0, 0)) := by rw [hV, Below.heap_setCell _ _ _ _ (by simp)]; exact A0
  have A1 : V1.heap[w.heap.size + 1]? = some (.cells #[.int .i64 (wordAt bs 0 : Nat), .int .i64 0, .int .i64 0] 103 (0, 0)) := by rw [hV]; exact heap_setCell_same Vd (w.heap.size + 1) 0 _ 103 _ A1
  have B0 : Below w.heap.size w V1 := by rw [hV]; exact B0.setCell (p := ⟨w.heap.size + 1, 0, none⟩) (by simp) _
  clear hV fA cA
  rw [rounds_succ]
  go_wp2_with fail
  have rk := hr.below B0
  obtain ⟨_, _, hab, _, x0⟩ := rk.cell 2 (by omega)
  cases hab
  obtain ⟨_, _, hab, _, x1⟩ := rk.cell 3 (by omega)
  cases hab
  clear rk
  try simp only [Nat.add_zero] at x0
  have y0 := nth_lt hb 2
  have y1 := nth_lt hb 3
  have s3 : IntKind.i64.wrap (nth bs 2 : Int) = (nth bs 2 : Int) := wraps_i64 _ (by omega) (by omega)
  have s4 : IntKind.i64.wrap ((nth bs 2 : Int) * 256) = (nth bs 2 : Int) * 256 := wraps_i64 _ (by omega) (by omega)
  have s5 : IntKind.i64.wrap (nth bs 3 : Int) = (nth bs 3 : Int) := wraps_i64 _ (by omega) (by omega)
  have q : bits .or .i64 ((nth bs 2 : Int) * 256) (nth bs 3) = ((wordAt bs 1 : Nat) : Int) := i64_or_nat (nth bs 2 * 256) (nth bs 3) (by omega) (by omega)
  have l0 : (2 : Int) < n := by omega
  have l1 : (3 : Int) < n := by omega
  have l2 : 2 < n := by omega
  have l3 : 3 < n := by omega
  have s1 : IntKind.i64.wrap 2 = 2 := by decide
  have s2 : IntKind.i64.wrap 3 = 3 := by decide
  refine wp_region_still_tail 17 (by kernel_rfl) (by kernel_rfl) ?_
  simp only [List.take_succ_cons, List.take_zero, List.drop_succ_cons, List.drop_zero]
  repeat still_step
  refine wpStill_nil ?_
  change wpList _ _ _ _ _ V1.drew
  have A0 : V1.drew.heap[w.heap.size]? = _ := A0
  have A1 : V1.drew.heap[w.heap.size + 1]? = _ := A1
  have B0 := B0.drew
  have fA : V1.drew.frozen? ⟨w.heap.size + 1, 1, none⟩ = false := frozen_of_row _ _ _ _ _ A1
  have cA : V1.drew.cell? ⟨w.heap.size + 1, 1, none⟩ = some (.int .i64 0) := by rw [cell_of_row _ _ _ _ _ _ A1]; rfl
  clear x0 x1 s1 s2 s3 s4 s5 q l0 l1 l2 l3 y0 y1
  generalize V1.drew = Vd at *
  go_wp2_with fail
  obtain ⟨V2, hV⟩ : ∃ V2, V2 = Vd.setCell ⟨w.heap.size + 1, 1, none⟩ (.int .i64 (wordAt bs 1 : Nat)) := ⟨_, rfl⟩
  rw [← hV]
  have A0 : V2.heap[w.heap.size]? = some (.cells #[.bool false, .bool false, .int .i64 0, .int .i64 0, .int .i64 0, .slice none 0 0] 38 (0, 0)) := by rw [hV, Below.heap_setCell _ _ _ _ (by simp)]; exact A0
  have A1 : V2.heap[w.heap.size + 1]? = some (.cells #[.int .i64 (wordAt bs 0 : Nat), .int .i64 (wordAt bs 1 : Nat), .int .i64 0] 103 (0, 0)) := by rw [hV]; exact heap_setCell_same Vd (w.heap.size + 1) 1 _ 103 _ A1
  have B0 : Below w.heap.size w V2 := by rw [hV]; exact B0.setCell (p := ⟨w.heap.size + 1, 1, none⟩) (by simp) _
  clear hV fA cA
  rw [rounds_succ]
  go_wp2_with fail
  have rk := hr.below B0
  obtain ⟨_, _, hab, _, x0⟩ := rk.cell 4 (by omega)
  cases hab
  obtain ⟨_, _, hab, _, x1⟩ := rk.cell 5 (by omega)
  cases hab
  clear rk
  try simp only [Nat.add_zero] at x0
  have y0 := nth_lt hb 4
  have y1 := nth_lt hb 5
  have s3 : IntKind.i64.wrap (nth bs 4 : Int) = (nth bs 4 : Int) := wraps_i64 _ (by omega) (by omega)
  have s4 : IntKind.i64.wrap ((nth bs 4 : Int) * 256) = (nth bs 4 : Int) * 256 := wraps_i64 _ (by omega) (by omega)
  have s5 : IntKind.i64.wrap (nth bs 5 : Int) = (nth bs 5 : Int) := wraps_i64 _ (by omega) (by omega)
  have q : bits .or .i64 ((nth bs 4 : Int) * 256) (nth bs 5) = ((wordAt bs 2 : Nat) : Int) := i64_or_nat (nth bs 4 * 256) (nth bs 5) (by omega) (by omega)
  have l0 : (4 : Int) < n := by omega
  have l1 : (5 : Int) < n := by omega
  have l2 : 4 < n := by omega
  have l3 : 5 < n := by omega
  have s1 : IntKind.i64.wrap 4 = 4 := by decide
  have s2 : IntKind.i64.wrap 5 = 5 := by decide
  refine wp_region_still_tail 17 (by kernel_rfl) (by kernel_rfl) ?_
  simp only [List.take_succ_cons, List.take_zero, List.drop_succ_cons, List.drop_zero]
  repeat still_step
  refine wpStill_nil ?_
  change wpList _ _ _ _ _ V2.drew
  have A0 : V2.drew.heap[w.heap.size]? = _ := A0
  have A1 : V2.drew.heap[w.heap.size + 1]? = _ := A1
  have B0 := B0.drew
  have fA : V2.drew.frozen? ⟨w.heap.size + 1, 2, none⟩ = false := frozen_of_row _ _ _ _ _ A1
  have cA : V2.drew.cell? ⟨w.heap.size + 1, 2, none⟩ = some (.int .i64 0) := by rw [cell_of_row _ _ _ _ _ _ A1]; rfl
  clear x0 x1 s1 s2 s3 s4 s5 q l0 l1 l2 l3 y0 y1
  generalize V2.drew = Vd at *
  go_wp2_with fail
  obtain ⟨V3, hV⟩ : ∃ V3, V3 = Vd.setCell ⟨w.heap.size + 1, 2, none⟩ (.int .i64 (wordAt bs 2 : Nat)) := ⟨_, rfl⟩
  rw [← hV]
  have A0 : V3.heap[w.heap.size]? = some (.cells #[.bool false, .bool false, .int .i64 0, .int .i64 0, .int .i64 0, .slice none 0 0] 38 (0, 0)) := by rw [hV, Below.heap_setCell _ _ _ _ (by simp)]; exact A0
  have A1 : V3.heap[w.heap.size + 1]? = some (.cells #[.int .i64 (wordAt bs 0 : Nat), .int .i64 (wordAt bs 1 : Nat), .int .i64 (wordAt bs 2 : Nat)] 103 (0, 0)) := by rw [hV]; exact heap_setCell_same Vd (w.heap.size + 1) 2 _ 103 _ A1
  have B0 : Below w.heap.size w V3 := by rw [hV]; exact B0.setCell (p := ⟨w.heap.size + 1, 2, none⟩) (by simp) _
  clear hV fA cA
  have k0 : V3.cell? ⟨w.heap.size + 1, 0, none⟩ = some (.int .i64 (wordAt bs 0 : Nat)) := by rw [cell_of_row _ _ _ _ _ _ A1]; rfl
  have k1 : V3.cell? ⟨w.heap.size + 1, 1, none⟩ = some (.int .i64 (wordAt bs 1 : Nat)) := by rw [cell_of_row _ _ _ _ _ _ A1]; rfl
  have k2 : V3.cell? ⟨w.heap.size + 1, 2, none⟩ = some (.int .i64 (wordAt bs 2 : Nat)) := by rw [cell_of_row _ _ _ _ _ _ A1]; rfl
  have w0 := wordAt_lt hb 0
  have w1 := wordAt_lt hb 1
  have w2 := wordAt_lt hb 2
  have m1 : ((wordAt bs 0 : Int) / 8192 != 0) = false := by simp; omega
  have m2 : ¬ ((n : Int) < (wordAt bs 2 : Int) + 7) := by omega
  rw [rounds_succ]
  go_wp2_with fail
  have e0 : V3.drew.cell? ⟨w.heap.size + 1, 0, none⟩ = some (.int .i64 (wordAt bs 0 : Nat)) := k0
  have e1 : V3.drew.cell? ⟨w.heap.size + 1, 1, none⟩ = some (.int .i64 (wordAt bs 1 : Nat)) := k1
  have e2 : V3.drew.cell? ⟨w.heap.size + 1, 2, none⟩ = some (.int .i64 (wordAt bs 2 : Nat)) := k2
  have hz : w.heap.size + 1 < V3.drew.heap.size := (Array.getElem?_eq_some_iff.1 A1).1
  have A0 : V3.drew.heap[w.heap.size]? = some (.cells #[.bool false, .bool false, .int .i64 0, .int .i64 0, .int .i64 0, .slice none 0 0] 38 (0, 0)) := A0
  have B0 := B0.drew
  have hrd := hr.below B0
  have u1 : bits .and .i64 (wordAt bs 0 : Int) 4096 = ((wordAt bs 0 &&& 4096 : Nat) : Int) := i64_and_nat (wordAt bs 0) 4096 (by omega) (by omega)
  have u2 : bits .and .i64 (wordAt bs 0 : Int) 2048 = ((wordAt bs 0 &&& 2048 : Nat) : Int) := i64_and_nat (wordAt bs 0) 2048 (by omega) (by omega)
  have u3 : bits .and .i64 (wordAt bs 0 : Int) 2047 = ((wordAt bs 0 &&& 2047 : Nat) : Int) := i64_and_nat (wordAt bs 0) 2047 (by omega) (by omega)
  have u4 : bits .and .i64 (wordAt bs 1 : Int) 16383 = ((wordAt bs 1 &&& 16383 : Nat) : Int) := i64_and_nat (wordAt bs 1) 16383 (by omega) (by omega)
  have hcn := hr.le
  have p1 : (6 : Int) ≤ (wordAt bs 2 : Int) + 7 := by omega
  have p2 : (wordAt bs 2 : Int) + 7 ≤ (c : Int) := by omega
  have p3 : ((wordAt bs 2 : Int) + 7).toNat = wordAt bs 2 + 7 := by omega
  have p4 : (0 : Int) ≤ (wordAt bs 2 : Int) + 7 := by omega
  refine wp_region_can_all [20, 23] [0, 1, 2, 3, 4, 5, 6, 7, 8, 9, 10, 11, 12, 13, 14, 15, 16, 17, 18, 19, 22, 20, 21, 23, 24, 25] (fun u u' => u.grownBy u' (some w.heap.size)) (fun u => World.grownBy.refl u _) (fun _ _ _ h k => grownBy_trans h k) (by kernel_rfl) (by kernel_rfl) ?_
  clear k0 k1 k2 A1
  generalize V3.drew = wd at *
  have k0 := e0
  have k1 := e1
  have k2 := e2
  clear e0 e1 e2
  simp only [List.map_cons, List.map_nil, List.contains_cons, List.contains_nil, List.getD_cons_zero, List.getD_cons_succ, Nat.reduceBEq, Bool.or_false, Bool.or_true]
  repeat (refine wpL_do rfl (fun w' hw' => (by have k0 := grown_cell hw' hz (by simp) k0; have k1 := grown_cell hw' hz (by simp) k1; have k2 := grown_cell hw' hz (by simp) k2; go_simp; rfl)) ?_; simp only [Act.put, List.setIfInBounds_toArray, List.set_cons_succ, List.set_cons_zero])
  refine wpL_call rfl (fun K hK => ?_)
  go_wp2_with fail
  have hsub := hrd.sub 6 (wordAt bs 2 + 1) (by omega)
  rw [vb_drop, vb_take] at hsub
  refine (clone_any _ _ _ _ _ hsub (by omega)).mono ?_
  rintro e V4 ⟨ao, cc, rfl, o4, b4⟩
  refine hK _ _ (grownBy_of_below b4 _) ?_
  clear hK K hsub
  try simp only [Act.put, List.setIfInBounds_toArray, List.set_cons_succ, List.set_cons_zero]
  have A0 : V4.heap[w.heap.size]? = some (.cells #[.bool false, .bool false, .int .i64 0, .int .i64 0, .int .i64 0, .slice none 0 0] 38 (0, 0)) := (b4.block _ (by omega)).trans A0
  have B0 := B0.trans (b4.mono B0.size)
  have o4 := ownsRow_mono o4 (show w.heap.size + 2 ≤ _ by omega)
  clear k0 k1 k2 hz hrd b4
  repeat (refine wpL_do rfl (fun w' hw' => (by go_simp; rfl)) ?_; simp only [Act.put, List.setIfInBounds_toArray, List.set_cons_succ, List.set_cons_zero])
  have f0 := fun k => cell_of_row V4 w.heap.size k _ _ _ A0
  have c0 : V4.cell? ⟨w.heap.size, 0, none⟩ = some (.bool false) := by rw [f0]; rfl
  have c1 : V4.cell? ⟨w.heap.size, 1, none⟩ = some (.bool false) := by rw [f0]; rfl
  have c2 : V4.cell? ⟨w.heap.size, 2, none⟩ = some (.int .i64 0) := by rw [f0]; rfl
  have c3 : V4.cell? ⟨w.heap.size, 3, none⟩ = some (.int .i64 0) := by rw [f0]; rfl
  have c4 : V4.cell? ⟨w.heap.size, 4, none⟩ = some (.int .i64 0) := by rw [f0]; rfl
  have c5 : V4.cell? ⟨w.heap.size, 5, none⟩ = some (.slice none 0 0) := by rw [f0]; rfl
  have fr : ∀ k, V4.frozen? ⟨w.heap.size, k, none⟩ = false := fun k => frozen_of_row _ _ _ _ _ A0
  clear f0
  refine wpL_call rfl (fun K hK => ?_)
  go_wp2_with fail
  have A0 : (V4.setCell ⟨w.heap.size, 0, none⟩ (.bool (((wordAt bs 0 &&& 4096 : Nat) : Int) != 0))).heap[w.heap.size]? = some (.cells #[(.bool (((wordAt bs 0 &&& 4096 : Nat) : Int) != 0)), (.bool false), (.int .i64 0), (.int .i64 0), (.int .i64 0), (.slice none 0 0)] 38 (0, 0)) := heap_setCell_same V4 w.heap.size 0 _ 38 _ A0
  have A0 : ((V4.setCell ⟨w.heap.size, 0, none⟩ (.bool (((wordAt bs 0 &&& 4096 : Nat) : Int) != 0))).setCell ⟨w.heap.size, 1, none⟩ (.bool (((wordAt bs 0 &&& 2048 : Nat) : Int) != 0))).heap[w.heap.size]? = some (.cells #[(.bool (((wordAt bs 0 &&& 4096 : Nat) : Int) != 0)), (.bool (((wordAt bs 0 &&& 2048 : Nat) : Int) != 0)), (.int .i64 0), (.int .i64 0), (.int .i64 0), (.slice none 0 0)] 38 (0, 0)) := heap_setCell_same (V4.setCell ⟨w.heap.size, 0, none⟩ (.bool (((wordAt bs 0 &&& 4096 : Nat) : Int) != 0))) w.heap.size 1 _ 38 _ A0
  have A0 : (((V4.setCell ⟨w.heap.size, 0, none⟩ (.bool (((wordAt bs 0 &&& 4096 : Nat) : Int) != 0))).setCell ⟨w.heap.size, 1, none⟩ (.bool (((wordAt bs 0 &&& 2048 : Nat) : Int) != 0))).setCell ⟨w.heap.size, 2, none⟩ (.int .i64 (wordAt bs 0 &&& 2047 : Nat))).heap[w.heap.size]? = some (.cells #[(.bool (((wordAt bs 0 &&& 4096 : Nat) : Int) != 0)), (.bool (((wordAt bs 0 &&& 2048 : Nat) : Int) != 0)), (.int .i64 (wordAt bs 0 &&& 2047 : Nat)), (.int .i64 0), (.int .i64 0), (.slice none 0 0)] 38 (0, 0)) := heap_setCell_same ((V4.setCell ⟨w.heap.size, 0, none⟩ (.bool (((wordAt bs 0 &&& 4096 : Nat) : Int) != 0))).setCell ⟨w.heap.size, 1, none⟩ (.bool (((wordAt bs 0 &&& 2048 : Nat) : Int) != 0))) w.heap.size 2 _ 38 _ A0
  have A0 : ((((V4.setCell ⟨w.heap.size, 0, none⟩ (.bool (((wordAt bs 0 &&& 4096 : Nat) : Int) != 0))).setCell ⟨w.heap.size, 1, none⟩ (.bool (((wordAt bs 0 &&& 2048 : Nat) : Int) != 0))).setCell ⟨w.heap.size, 2, none⟩ (.int .i64 (wordAt bs 0 &&& 2047 : Nat))).setCell ⟨w.heap.size, 3, none⟩ (.int .i64 ((wordAt bs 1 : Int) / 16384))).heap[w.heap.size]? = some (.cells #[(.bool (((wordAt bs 0 &&& 4096 : Nat) : Int) != 0)), (.bool (((wordAt bs 0 &&& 2048 : Nat) : Int) != 0)), (.int .i64 (wordAt bs 0 &&& 2047 : Nat)), (.int .i64 ((wordAt bs 1 : Int) / 16384)), (.int .i64 0), (.slice none 0 0)] 38 (0, 0)) := heap_setCell_same (((V4.setCell ⟨w.heap.size, 0, none⟩ (.bool (((wordAt bs 0 &&& 4096 : Nat) : Int) != 0))).setCell ⟨w.heap.size, 1, none⟩ (.bool (((wordAt bs 0 &&& 2048 : Nat) : Int) != 0))).setCell ⟨w.heap.size, 2, none⟩ (.int .i64 (wordAt bs 0 &&& 2047 : Nat))) w.heap.size 3 _ 38 _ A0
  have A0 : (((((V4.setCell ⟨w.heap.size, 0, none⟩ (.bool (((wordAt bs 0 &&& 4096 : Nat) : Int) != 0))).setCell ⟨w.heap.size, 1, none⟩ (.bool (((wordAt bs 0 &&& 2048 : Nat) : Int) != 0))).setCell ⟨w.heap.size, 2, none⟩ (.int .i64 (wordAt bs 0 &&& 2047 : Nat))).setCell ⟨w.heap.size, 3, none⟩ (.int .i64 ((wordAt bs 1 : Int) / 16384))).setCell ⟨w.heap.size, 4, none⟩ (.int .i64 (wordAt bs 1 &&& 16383 : Nat))).heap[w.heap.size]? = some (.cells #[(.bool (((wordAt bs 0 &&& 4096 : Nat) : Int) != 0)), (.bool (((wordAt bs 0 &&& 2048 : Nat) : Int) != 0)), (.int .i64 (wordAt bs 0 &&& 2047 : Nat)), (.int .i64 ((wordAt bs 1 : Int) / 16384)), (.int .i64 (wordAt bs 1 &&& 16383 : Nat)), (.slice none 0 0)] 38 (0, 0)) := heap_setCell_same ((((V4.setCell ⟨w.heap.size, 0, none⟩ (.bool (((wordAt bs 0 &&& 4096 : Nat) : Int) != 0))).setCell ⟨w.heap.size, 1, none⟩ (.bool (((wordAt bs 0 &&& 2048 : Nat) : Int) != 0))).setCell ⟨w.heap.size, 2, none⟩ (.int .i64 (wordAt bs 0 &&& 2047 : Nat))).setCell ⟨w.heap.size, 3, none⟩ (.int .i64 ((wordAt bs 1 : Int) / 16384))) w.heap.size 4 _ 38 _ A0
  have A0 : ((((((V4.setCell ⟨w.heap.size, 0, none⟩ (.bool (((wordAt bs 0 &&& 4096 : Nat) : Int) != 0))).setCell ⟨w.heap.size, 1, none⟩ (.bool (((wordAt bs 0 &&& 2048 : Nat) : Int) != 0))).setCell ⟨w.heap.size, 2, none⟩ (.int .i64 (wordAt bs 0 &&& 2047 : Nat))).setCell ⟨w.heap.size, 3, none⟩ (.int .i64 ((wordAt bs 1 : Int) / 16384))).setCell ⟨w.heap.size, 4, none⟩ (.int .i64 (wordAt bs 1 &&& 16383 : Nat))).setCell ⟨w.heap.size, 5, none⟩ (.slice ao (wordAt bs 2 + 1) cc)).heap[w.heap.size]? = some (.cells #[(.bool (((wordAt bs 0 &&& 4096 : Nat) : Int) != 0)), (.bool (((wordAt bs 0 &&& 2048 : Nat) : Int) != 0)), (.int .i64 (wordAt bs 0 &&& 2047 : Nat)), (.int .i64 ((wordAt bs 1 : Int) / 16384)), (.int .i64 (wordAt bs 1 &&& 16383 : Nat)), (.slice ao (wordAt bs 2 + 1) cc)] 38 (0, 0)) := heap_setCell_same (((((V4.setCell ⟨w.heap.size, 0, none⟩ (.bool (((wordAt bs 0 &&& 4096 : Nat) : Int) != 0))).setCell ⟨w.heap.size, 1, none⟩ (.bool (((wordAt bs 0 &&& 2048 : Nat) : Int) != 0))).setCell ⟨w.heap.size, 2, none⟩ (.int .i64 (wordAt bs 0 &&& 2047 : Nat))).setCell ⟨w.heap.size, 3, none⟩ (.int .i64 ((wordAt bs 1 : Int) / 16384))).setCell ⟨w.heap.size, 4, none⟩ (.int .i64 (wordAt bs 1 &&& 16383 : Nat))) w.heap.size 5 _ 38 _ A0
  have G : V4.grownBy ((((((V4.setCell ⟨w.heap.size, 0, none⟩ (.bool (((wordAt bs 0 &&& 4096 : Nat) : Int) != 0))).setCell ⟨w.heap.size, 1, none⟩ (.bool (((wordAt bs 0 &&& 2048 : Nat) : Int) != 0))).setCell ⟨w.heap.size, 2, none⟩ (.int .i64 (wordAt bs 0 &&& 2047 : Nat))).setCell ⟨w.heap.size, 3, none⟩ (.int .i64 ((wordAt bs 1 : Int) / 16384))).setCell ⟨w.heap.size, 4, none⟩ (.int .i64 (wordAt bs 1 &&& 16383 : Nat))).setCell ⟨w.heap.size, 5, none⟩ (.slice ao (wordAt bs 2 + 1) cc)) (some w.heap.size) := (grownBy_trans (grownBy_trans (grownBy_trans (grownBy_trans (grownBy_trans (grownBy_setAt V4 w.heap.size 0 _) (grownBy_setAt _ w.heap.size 1 _)) (grownBy_setAt _ w.heap.size 2 _)) (grownBy_setAt _ w.heap.size 3 _)) (grownBy_setAt _ w.heap.size 4 _)) (grownBy_setAt _ w.heap.size 5 _))
  refine hK _ _ G ?_
  clear hK K c0 c1 c2 c3 c4 c5 fr
  try simp only [Act.put, List.setIfInBounds_toArray, List.set_cons_succ, List.set_cons_zero]
  generalize ((((((V4.setCell ⟨w.heap.size, 0, none⟩ (.bool (((wordAt bs 0 &&& 4096 : Nat) : Int) != 0))).setCell ⟨w.heap.size, 1, none⟩ (.bool (((wordAt bs 0 &&& 2048 : Nat) : Int) != 0))).setCell ⟨w.heap.size, 2, none⟩ (.int .i64 (wordAt bs 0 &&& 2047 : Nat))).setCell ⟨w.heap.size, 3, none⟩ (.int .i64 ((wordAt bs 1 : Int) / 16384))).setCell ⟨w.heap.size, 4, none⟩ (.int .i64 (wordAt bs 1 &&& 16383 : Nat))).setCell ⟨w.heap.size, 5, none⟩ (.slice ao (wordAt bs 2 + 1) cc)) = V5 at *
  repeat (refine wpL_do rfl (fun w' hw' => (by go_simp; rfl)) ?_; simp only [Act.put, List.setIfInBounds_toArray, List.set_cons_succ, List.set_cons_zero])
  refine wpL_nil ?_
  go_wp2
  have g0 : V5.cell? ⟨w.heap.size, 0, none⟩ = some (.bool (((wordAt bs 0 &&& 4096 : Nat) : Int) != 0)) := by rw [cell_of_row V5 w.heap.size 0 _ _ _ A0]; rfl
  have g1 : V5.cell? ⟨w.heap.size, 1, none⟩ = some (.bool (((wordAt bs 0 &&& 2048 : Nat) : Int) != 0)) := by rw [cell_of_row V5 w.heap.size 1 _ _ _ A0]; rfl
  have g2 : V5.cell? ⟨w.heap.size, 2, none⟩ = some (.int .i64 (wordAt bs 0 &&& 2047 : Nat)) := by rw [cell_of_row V5 w.heap.size 2 _ _ _ A0]; rfl
  have g3 : V5.cell? ⟨w.heap.size, 3, none⟩ = some (.int .i64 ((wordAt bs 1 : Int) / 16384)) := by rw [cell_of_row V5 w.heap.size 3 _ _ _ A0]; rfl
  have g4 : V5.cell? ⟨w.heap.size, 4, none⟩ = some (.int .i64 (wordAt bs 1 &&& 16383 : Nat)) := by rw [cell_of_row V5 w.heap.size 4 _ _ _ A0]; rfl
  have g5 : V5.cell? ⟨w.heap.size, 5, none⟩ = some (.slice ao (wordAt bs 2 + 1) cc) := by rw [cell_of_row V5 w.heap.size 5 _ _ _ A0]; rfl
  try simp only [Exit.inBlock, Exit.then]
  refine bodyPost_ret (by simp only [results, Try.results35, go_sem]; simp [go_sem, g0, g1, g2, g3, g4, g5]; rfl) rfl ?_
  refine ⟨ao, cc, rfl, ?_, B0.grown G B0.size (fun k e => by cases e; exact Nat.le_refl _)⟩
  have hne : Value.ownBlock (.slice ao (wordAt bs 2 + 1) cc) ≠ some w.heap.size := by
    obtain ⟨_, _, _, _, hob⟩ := own_slice o4
    intro e
    have := hob _ e
    omega
  exact ownsRow_mono (o4.kept G (.inr hne)) (by omega)
end Go.Proofs.Ytjiipmalahhcpaa
/- What Decode reads where Encode has written. -/
namespace Go.Proofs.Ytjiipmalahhcpaa
set_option linter.unusedVariables false
open Go.RowKit

set_option maxRecDepth 1000000 in
theorem or_add (a b : Nat) (i : Nat) (hb : b < 2 ^ i) : a * 2 ^ i ||| b = a * 2 ^ i + b := by
  rw [← Nat.shiftLeft_eq, Nat.shiftLeft_add_eq_or_of_lt hb]

set_option maxRecDepth 1000000 in
theorem hl_join (x : Nat) : (x / 256 * 256) ||| (x % 256) = x := by
  rw [show (256 : Nat) = 2 ^ 8 by rfl, or_add _ _ 8 (Nat.mod_lt _ (by decide))]
  omega

set_option maxRecDepth 1000000 in
theorem nth_cons_zero (a : Nat) (l : List Nat) : nth (a :: l) 0 = a := rfl
set_option maxRecDepth 1000000 in
theorem nth_cons_succ (a : Nat) (l : List Nat) (k : Nat) : nth (a :: l) (k + 1) = nth l k := rfl

set_option maxRecDepth 1000000 in
theorem enc_words (up se : Bool) (ap pt ct : Nat) (ds rest : List Nat) :
    wordAt (encB up se ap pt ct ds ++ rest) 0 = firstOf up se ap ∧ wordAt (encB up se ap pt ct ds ++ rest) 1 = pt * 16384 ||| ct ∧ wordAt (encB up se ap pt ct ds ++ rest) 2 = ds.length - 1 := by
  unfold wordAt encB
  refine ⟨?_, ?_, ?_⟩
  · exact hl_join _
  · exact hl_join _
  · exact hl_join _

set_option maxRecDepth 1000000 in
theorem enc_len (up se : Bool) (ap pt ct : Nat) (ds : List Nat) : (encB up se ap pt ct ds).length = 6 + ds.length := by
  simp [encB]; omega

set_option maxRecDepth 1000000 in
theorem enc_data (up se : Bool) (ap pt ct : Nat) (ds rest : List Nat) (h : 0 < ds.length) :
    ((encB up se ap pt ct ds ++ rest).drop 6).take (ds.length - 1 + 1) = ds := by
  rw [show ds.length - 1 + 1 = ds.length by omega]
  simp [encB]

set_option maxRecDepth 1000000 in
theorem enc_all (up se : Bool) (ap pt ct : Nat) (ds : List Nat) (h1 : ap ≤ 2047) (h2 : pt ≤ 3) (h3 : ct ≤ 16383) (h5 : ds.length ≤ 65536) (hd : AllB ds) : AllB (encB up se ap pt ct ds) := by
  have hf := firstOf_lt up se ap h1
  have hs : pt * 16384 ||| ct < 65536 := Nat.or_lt_two_pow (n := 16) (by omega) (by omega)
  unfold encB
  intro x hx
  simp only [List.mem_append, List.mem_cons, List.not_mem_nil, or_false] at hx
  rcases hx with ((h | h) | h) | h
  · rcases h with rfl | rfl <;> omega
  · rcases h with rfl | rfl <;> omega
  · rcases h with rfl | rfl <;> omega
  · exact hd x h

set_option maxRecDepth 1000000 in
theorem second_parts (pt ct : Nat) (h3 : ct ≤ 16383) : (pt * 16384 ||| ct) / 16384 = pt ∧ (pt * 16384 ||| ct) &&& 16383 = ct := by
  have h : pt * 16384 ||| ct = pt * 16384 + ct := or_add pt ct 14 (by omega)
  rw [h]
  refine ⟨by omega, ?_⟩
  rw [show 16383 = 2 ^ 14 - 1 by rfl, Nat.and_two_pow_sub_one_eq_mod]
  omega

set_option maxRecDepth 1000000 in
theorem first_low (up se : Bool) (ap : Nat) (h1 : ap ≤ 2047) : firstOf up se ap &&& 2047 = ap := by
  rw [show 2047 = 2 ^ 11 - 1 by rfl, Nat.and_two_pow_sub_one_eq_mod]
  refine Nat.eq_of_testBit_eq fun i => ?_
  rw [Nat.testBit_mod_two_pow]
  unfold firstOf
  by_cases hi : i < 11
  · have t1 : Nat.testBit 4096 i = false := by rw [show 4096 = 2 ^ 12 by rfl, Nat.testBit_two_pow]; simp; omega
    have t2 : Nat.testBit 2048 i = false := by rw [show 2048 = 2 ^ 11 by rfl, Nat.testBit_two_pow]; simp; omega
    cases up <;> cases se <;> simp [hi, t1, t2]
  · have t : Nat.testBit ap i = false := Nat.testBit_lt_two_pow (Nat.lt_of_lt_of_le (show ap < 2 ^ 11 by omega) (Nat.pow_le_pow_right (by decide) (by omega)))
    simp [hi, t]

set_option maxRecDepth 1000000 in
theorem and_pow (x k : Nat) : x &&& 2 ^ k = (Nat.testBit x k).toNat * 2 ^ k := by
  refine Nat.eq_of_testBit_eq fun i => ?_
  rw [Nat.testBit_and, Nat.testBit_two_pow]
  by_cases e : k = i
  · subst e
    cases h : Nat.testBit x k <;> simp
  · cases h : Nat.testBit x k <;> simp [e]

set_option maxRecDepth 1000000 in
theorem first_bits (up se : Bool) (ap : Nat) (h1 : ap ≤ 2047) : (((firstOf up se ap &&& 4096 : Nat) : Int) != 0) = up ∧ (((firstOf up se ap &&& 2048 : Nat) : Int) != 0) = se := by
  have t1 : Nat.testBit ap 12 = false := Nat.testBit_lt_two_pow (by omega)
  have t2 : Nat.testBit ap 11 = false := Nat.testBit_lt_two_pow (by omega)
  have e1 : firstOf up se ap &&& 4096 = (Nat.testBit (firstOf up se ap) 12).toNat * 2 ^ 12 := and_pow _ 12
  have e2 : firstOf up se ap &&& 2048 = (Nat.testBit (firstOf up se ap) 11).toNat * 2 ^ 11 := and_pow _ 11
  rw [e1, e2]
  unfold firstOf
  have a1 : Nat.testBit 4096 12 = true := by decide
  have a2 : Nat.testBit 4096 11 = false := by decide
  have a3 : Nat.testBit 2048 12 = false := by decide
  have a4 : Nat.testBit 2048 11 = true := by decide
  cases up <;> cases se <;> simp [t1, t2, a1, a2, a3, a4]

set_option maxRecDepth 1000000 in
theorem decode_enc (a : Option Addr) (n c : Nat) (up se : Bool) (ap pt ct : Nat) (ds rest : List Nat) (w : World)
    (hr : Rd w a n c (vb (encB up se ap pt ct ds ++ rest))) (hb : AllB ds) (hrest : AllB rest)
    (h1 : ap ≤ 2047) (h2 : pt ≤ 3) (h3 : ct ≤ 16383) (h4 : 0 < ds.length) (h5 : ds.length ≤ 65536) :
    Calls Try.prog 35 #[.slice a n c] w fun e w' => ∃ ao cc, e = .returned (.tuple #[.agg #[.bool up, .bool se, .int .i64 ap, .int .i64 pt, .int .i64 ct, .slice ao ds.length cc], .int .i64 (6 + ds.length : Nat), .int .i64 0]) ∧
      w'.ownsRow w.heap.size 5 1 (.slice ao ds.length cc) ds.length (vb ds) ∧ Below w.heap.size w w' := by
  obtain ⟨e0, e1, e2⟩ := enc_words up se ap pt ct ds rest
  have hlen : 6 + ds.length + rest.length = n := by have := hr.len; rw [vb_len, List.length_append, enc_len] at this; exact this
  have hall := (enc_all up se ap pt ct ds h1 h2 h3 h5 hb).append hrest
  have hf := firstOf_lt up se ap h1
  refine (decode_ok a n c _ w hr hall (by omega) (by rw [e0]; exact hf) (by rw [e2]; omega)).mono ?_
  rintro e w' ⟨ao, cc, he, ho, hB⟩
  rw [e2, enc_data up se ap pt ct ds rest h4, show ds.length - 1 + 1 = ds.length by omega] at ho
  rw [e0, e1, e2, (first_bits up se ap h1).1, (first_bits up se ap h1).2, first_low up se ap h1, (second_parts pt ct h3).2] at he
  refine ⟨ao, cc, ?_, ho, hB⟩
  rw [he, show ds.length - 1 + 1 = ds.length by omega]
  have q : (((pt * 16384 ||| ct : Nat) : Int) / 16384) = (pt : Int) := by
    have := (second_parts pt ct h3).1
    omega
  have q2 : (((ds.length - 1 : Nat) : Int) + 7) = ((6 + ds.length : Nat) : Int) := by omega
  rw [q, q2]
end Go.Proofs.Ytjiipmalahhcpaa
/- Concat of two rows of bytes. -/
namespace Go.Proofs.Ytjiipmalahhcpaa
set_option linter.unusedVariables false
open Go.RowKit

set_option maxRecDepth 1000000 in
theorem cat_two (aa ba : Option Addr) (an ac bn bc : Nat) (xs ys : List Nat) (G : Nat) (w : World)
    (ha : Rd w aa an ac (vb xs)) (hb : Rd w ba bn bc (vb ys))
    (hG : ∀ j u, [Value.slice aa an ac, .slice ba bn bc][j]? = some u → w.cell? ((⟨G, 0, none⟩ : Addr).add j) = some u)
    (hGl : G < w.heap.size) (hn : an + bn ≤ 140737488355328) :
    Calls Try.prog 16 #[.slice (some ⟨G, 0, none⟩) 2 2] w fun e w' => ∃ ao c, e = .returned (.slice ao (an + bn) c) ∧ w'.ownsRow w.heap.size 5 1 (.slice ao (an + bn) c) (an + bn) (vb (xs ++ ys)) ∧ Below w.heap.size w w' := by
  have g0 : w.cell? ⟨G, 0, none⟩ = some (.slice aa an ac) := by simpa [Addr.add] using hG 0 _ rfl
  have g1 : w.cell? ⟨G, 1, none⟩ = some (.slice ba bn bc) := by simpa [Addr.add] using hG 1 _ rfl
  clear hG
  go_enter Try.func16, Try.ntmps16
  go_wp2_with fail
  refine wp_loop_rounds 3 ?_
  rw [rounds_succ]
  go_wp2_with fail
  rw [rounds_succ]
  go_wp2_with fail
  rw [rounds_succ]
  go_wp2_with fail
  refine (grow_any _ (an + bn) _ (by push_cast; rfl) hn).mono ?_
  rintro e W0 ⟨v, rfl, o0, B0⟩
  obtain ⟨v0a, v0c, rfl, _, _⟩ := own_slice o0
  obtain ⟨i0, hi, hz0, hz1, hz2⟩ := info_parts Try.info5
  have c0 := (B0.cell (p := ⟨G, 0, none⟩) hGl).trans g0
  have c1 := (B0.cell (p := ⟨G, 1, none⟩) hGl).trans g1
  have o0' : W0.ownsRow w.heap.size 5 1 (.slice v0a 0 v0c) 0 (vb []) := o0
  clear o0
  have o0 := o0'
  clear o0'
  go_wp2_with fail
  refine wp_loop_rounds 3 ?_
  rw [rounds_succ]
  go_wp2_with (at_builtin; refine hold ?_)
  unfold Hid
  refine wpList_append_rd rfl _ _ 33 rfl w.heap.size 5 i0 (.int .u8 0) 1 Try.underlying33 hi hz0 hz1 hz2 rfl v0a 0 v0c _ rfl o0 aa an ac _ rfl (ha.below B0) (vb_oneCell _) (by omega) (by unfold maxLen; omega) B0.size ?_
  intro v1a v1c W1 o1 gr B
  rw [← vb_append] at o1
  simp only [Nat.zero_add, List.nil_append] at o1
  have B1 := B0.trans B
  clear gr B o0 c0 c1
  have c0 := (B1.cell (p := ⟨G, 0, none⟩) hGl).trans g0
  have c1 := (B1.cell (p := ⟨G, 1, none⟩) hGl).trans g1
  clear B0
  go_wp2_with fail
  rw [rounds_succ]
  go_wp2_with (at_builtin; refine hold ?_)
  unfold Hid
  refine wpList_append_rd rfl _ _ 33 rfl w.heap.size 5 i0 (.int .u8 0) 1 Try.underlying33 hi hz0 hz1 hz2 rfl v1a an v1c _ rfl o1 ba bn bc _ rfl (hb.below B1) (vb_oneCell _) (by omega) (by unfold maxLen; omega) B1.size ?_
  intro v2a v2c W2 o2 gr B
  rw [← vb_append] at o2
  have B2 := B1.trans B
  clear gr B o1 c0 c1
  have c0 := (B2.cell (p := ⟨G, 0, none⟩) hGl).trans g0
  have c1 := (B2.cell (p := ⟨G, 1, none⟩) hGl).trans g1
  clear B1
  go_wp2_with fail
  rw [rounds_succ]
  go_wp2_with fail
  go_ret
  exact ⟨_, _, rfl, o2, B2⟩
end Go.Proofs.Ytjiipmalahhcpaa
