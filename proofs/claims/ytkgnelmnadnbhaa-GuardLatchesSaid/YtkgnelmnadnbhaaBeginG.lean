/- Clones of rows; how a guard stands at first. -/
import Derived.Test.YtkgnelmnadnbhaaMonG
import Derived.Test.YtkgnelmnadnbhaaOwnAt
import Derived.Test.YtkgnelmnadnbhaaRegionT
namespace Go.Proofs.Ytkgnelmnadnbhaa
set_option linter.unusedVariables false
open Go.RowKit

theorem Try.info3 : (Try.prog.info? 3).map (fun i => (i.zero, i.size, i.bytes)) = some (some (.int .i64 0), 1, 8) := by kernel_rfl
theorem Try.info4 : (Try.prog.info? 4).map (fun i => (i.zero, i.size, i.bytes)) = some (some (.bool false), 1, 1) := by kernel_rfl
/-- the cells of truth values -/
def vt (l : List Bool) : List Value := l.map Value.bool
theorem vt_len (l : List Bool) : (vt l).length = l.length := by simp [vt]
theorem vt_get (l : List Bool) (k : Nat) (h : k < l.length) : (vt l)[k]? = some (.bool (l.getD k false)) := by simp [vt, h]
theorem vt_set (l : List Bool) (k : Nat) (x : Bool) : (vt l).set k (.bool x) = vt (l.set k x) := by simp [vt]
theorem vt_append (a b : List Bool) : vt (a ++ b) = vt a ++ vt b := by simp [vt]
theorem vi_oneCell (l : List Nat) : ∀ u ∈ vi l, u.oneCell' = true := by
  intro u hu
  obtain ⟨_, _, rfl⟩ := List.mem_map.1 hu
  rfl
theorem vt_oneCell (l : List Bool) : ∀ u ∈ vt l, u.oneCell' = true := by
  intro u hu
  obtain ⟨_, _, rfl⟩ := List.mem_map.1 hu
  rfl

theorem clone_i (ao : Option Addr) (n cap : Nat) (xs : List Value) (w : World) (hq : Rd w ao n cap xs) (h1 : ∀ u ∈ xs, u.oneCell' = true) (hn : n ≤ 100000) :
    Calls Try.prog 12 #[.slice ao n cap] w fun e w' => ∃ v, e = .returned v ∧ OwnAt w' w.heap.size 3 v n xs ∧ Below w.heap.size w w' := by
  obtain ⟨i0, hi, hz0, hz1, hz2⟩ := info_parts Try.info3
  cases ao with
  | none =>
    obtain rfl := hq.isnil rfl
    obtain rfl : n = 0 := by have := hq.le; omega
    obtain rfl : xs = [] := List.eq_nil_of_length_eq_zero hq.len
    have hk := fun (w : World) => Lib.run_eql_slice_nil (P := Try.prog) w 22 3 none 0 0 0 0 Try.underlying22
    go_enter Try.func12, Try.ntmps12
    go_wp2
    go_ret
    exact ⟨_, rfl, OwnAt.nil _ _ _, Below.refl _ _⟩
  | some a =>
    have hk := fun (w : World) => Lib.run_eql_slice_nil (P := Try.prog) w 22 3 (some a) n cap 0 0 Try.underlying22
    have hn0 : (w.alloc (.cells #[] 3)).ownsRow w.heap.size 3 1 (.slice (some ⟨w.heap.size, 0, none⟩) 0 0) 0 [] := World.ownsRow_lit (base := w.heap.size) (e := 3) (size := 1) w #[] 0 (Nat.le_refl _) (Nat.zero_le _) rfl
    have hlen := hq.len
    have hcells : ∀ j u, xs[j]? = some u → (w.alloc (.cells #[] 3)).cell? (a.add j) = some u := by
      intro j u hj
      have hjn : j < n := by have := (List.getElem?_eq_some_iff.1 hj).1; omega
      obtain ⟨b, off, ha, hlt, hc⟩ := hq.mem (by omega)
      cases ha
      rw [Addr.add_lit, World.cell?_alloc_past _ _ _ hlt, hc j hjn]
      exact hj
    go_enter Try.func12, Try.ntmps12
    go_wp2_with (at_builtin; refine wpList_append_own _ rfl _ _ 22 rfl w.heap.size 3 i0 (.int .i64 0) 1 8 Try.underlying22 hi hz0 hz1 hz2 rfl (by decide) _ 0 [] rfl hn0 a n cap xs rfl ?c1 hcells h1 ?c2 ?c3 ?c4 ?_)
    case c1 => omega
    case c2 => unfold maxLen; omega
    case c3 => omega
    case c4 => simp
    intro v' w1 hown' hg hnil
    have O := hid (OwnAt.of hown')
    have B := hid (((Below.refl _ w).alloc (Nat.le_refl _) _).grown hg (by simp) (fun k e => by cases e; exact Nat.le_refl _))
    clear hown' hg hnil hcells hq
    go_wp2
    go_ret
    exact ⟨_, rfl, O.out, B.out⟩
theorem clone_b (ao : Option Addr) (n cap : Nat) (xs : List Value) (w : World) (hq : Rd w ao n cap xs) (h1 : ∀ u ∈ xs, u.oneCell' = true) (hn : n ≤ 100000) :
    Calls Try.prog 13 #[.slice ao n cap] w fun e w' => ∃ v, e = .returned v ∧ OwnAt w' w.heap.size 4 v n xs ∧ Below w.heap.size w w' := by
  obtain ⟨i0, hi, hz0, hz1, hz2⟩ := info_parts Try.info4
  cases ao with
  | none =>
    obtain rfl := hq.isnil rfl
    obtain rfl : n = 0 := by have := hq.le; omega
    obtain rfl : xs = [] := List.eq_nil_of_length_eq_zero hq.len
    have hk := fun (w : World) => Lib.run_eql_slice_nil (P := Try.prog) w 31 4 none 0 0 0 0 Try.underlying31
    go_enter Try.func13, Try.ntmps13
    go_wp2
    go_ret
    exact ⟨_, rfl, OwnAt.nil _ _ _, Below.refl _ _⟩
  | some a =>
    have hk := fun (w : World) => Lib.run_eql_slice_nil (P := Try.prog) w 31 4 (some a) n cap 0 0 Try.underlying31
    have hn0 : (w.alloc (.cells #[] 4)).ownsRow w.heap.size 4 1 (.slice (some ⟨w.heap.size, 0, none⟩) 0 0) 0 [] := World.ownsRow_lit (base := w.heap.size) (e := 4) (size := 1) w #[] 0 (Nat.le_refl _) (Nat.zero_le _) rfl
    have hlen := hq.len
    have hcells : ∀ j u, xs[j]? = some u → (w.alloc (.cells #[] 4)).cell? (a.add j) = some u := by
      intro j u hj
      have hjn : j < n := by have := (List.getElem?_eq_some_iff.1 hj).1; omega
      obtain ⟨b, off, ha, hlt, hc⟩ := hq.mem (by omega)
      cases ha
      rw [Addr.add_lit, World.cell?_alloc_past _ _ _ hlt, hc j hjn]
      exact hj
    go_enter Try.func13, Try.ntmps13
    go_wp2_with (at_builtin; refine wpList_append_own _ rfl _ _ 31 rfl w.heap.size 4 i0 (.bool false) 1 1 Try.underlying31 hi hz0 hz1 hz2 rfl (by decide) _ 0 [] rfl hn0 a n cap xs rfl ?c1 hcells h1 ?c2 ?c3 ?c4 ?_)
    case c1 => omega
    case c2 => unfold maxLen; omega
    case c3 => omega
    case c4 => simp
    intro v' w1 hown' hg hnil
    have O := hid (OwnAt.of hown')
    have B := hid (((Below.refl _ w).alloc (Nat.le_refl _) _).grown hg (by simp) (fun k e => by cases e; exact Nat.le_refl _))
    clear hown' hg hnil hcells hq
    go_wp2
    go_ret
    exact ⟨_, rfl, O.out, B.out⟩
/-- 'make([]int, m)', 'make([]bool, m)' -/
theorem run_mkI (m : Nat) (hm : m ≤ 1000000) (u : World) : (Instr.makeSlice 22 (.int .i64 (m : Int)) (.int .i64 (m : Int))).run Try.prog u =
    .ok (.slice (some ⟨u.heap.size, 0, none⟩) m m) (u.alloc (.cells (madeCells #[.int .i64 0] m) 3)) := by
  obtain ⟨i0, hi, hz0, hz1, hz2⟩ := info_parts Try.info3
  have h := run_make (P := Try.prog) u 22 3 i0 (.int .i64 0) Try.underlying22 hi hz0 .i64 .i64 (m : Int) (m : Int) (by omega) (Int.le_refl _) (by rw [hz2]; omega) (by omega)
  simpa [hz1, Value.cells] using h
theorem run_mkT (m : Nat) (hm : m ≤ 1000000) (u : World) : (Instr.makeSlice 31 (.int .i64 (m : Int)) (.int .i64 (m : Int))).run Try.prog u =
    .ok (.slice (some ⟨u.heap.size, 0, none⟩) m m) (u.alloc (.cells (madeCells #[.bool false] m) 4)) := by
  obtain ⟨i0, hi, hz0, hz1, hz2⟩ := info_parts Try.info4
  have h := run_make (P := Try.prog) u 31 4 i0 (.bool false) Try.underlying31 hi hz0 .i64 .i64 (m : Int) (m : Int) (by omega) (Int.le_refl _) (by rw [hz2]; omega) (by omega)
  simpa [hz1, Value.cells] using h
theorem madeI (m : Nat) : madeCells #[.int .i64 0] m = (vi (List.replicate m 0)).toArray := by
  apply Array.toList_inj.1
  rw [toList_madeCells_one]
  simp [vi]
theorem madeT (m : Nat) : madeCells #[.bool false] m = (vt (List.replicate m false)).toArray := by
  apply Array.toList_inj.1
  rw [toList_madeCells_one]
  simp [vt]
theorem ownAt_heap {w : World} {B g n : Nat} {xs : List Value} {e : TypeId} (h : w.heap[g]? = some (.cells xs.toArray e)) (hl : xs.length = n) (hB : B ≤ g) (hn : n ≤ maxLen) : OwnAt w B e (.slice (some ⟨g, 0, none⟩) n n) n xs :=
  ⟨hl, .inr ⟨g, 0, n, xs.toArray, rfl, hB, h, Nat.le_refl _, hn, by simp [hl], fun j hj => by rw [Nat.zero_add, List.getElem?_toArray]⟩⟩

set_option maxRecDepth 100000 in
set_option maxHeartbeats 4000000 in
theorem begin_ok (g n cap sil most win : Nat) (safe : ByteArray) (ms : List Mon) (w : World) (hr : RdM w g n cap ms) (hg : GoodMons ms) (hG : GoodG n sil most win safe) :
    Calls Try.prog 6 #[gv g n cap sil most win safe] w fun e w' => ∃ bv tv, e = .returned (.tuple #[.agg #[.bool false, .int .i64 (-1), bv, tv, .int .i64 0, .slice none 0 0], .int .i64 0]) ∧
      OwnAt w' w.heap.size 3 bv n (vi (List.replicate n 0)) ∧ OwnAt w' w.heap.size 4 tv n (vt (List.replicate n false)) ∧ Below w.heap.size w w' := by
  have hck := fun W hW => check_ok g n cap sil most win safe ms W hW hg hG
  have hn9 := hG.n2
  have hmi := run_mkI n (by omega)
  have hmt := run_mkT n (by omega)
  have HMI := hid (madeI n)
  have HMT := hid (madeT n)
  generalize madeCells #[.int .i64 0] n = MI at *
  generalize madeCells #[.bool false] n = MT at *
  have r1 := heap_alloc_new w (.cells #[.slice (some ⟨g, 0, none⟩) n cap, .int .i64 (sil : Int), .int .i64 (most : Int), .int .i64 (win : Int), .string safe] 27)
  have b1 := below_alloc w (.cells #[.slice (some ⟨g, 0, none⟩) n cap, .int .i64 (sil : Int), .int .i64 (most : Int), .int .i64 (win : Int), .string safe] 27)
  have r2 := heap_alloc_new (w.alloc (.cells #[.slice (some ⟨g, 0, none⟩) n cap, .int .i64 (sil : Int), .int .i64 (most : Int), .int .i64 (win : Int), .string safe] 27)) (.cells #[.bool false, .int .i64 0, .slice none 0 0, .slice none 0 0, .int .i64 0, .slice none 0 0] 33)
  have b2 := below_alloc (w.alloc (.cells #[.slice (some ⟨g, 0, none⟩) n cap, .int .i64 (sil : Int), .int .i64 (most : Int), .int .i64 (win : Int), .string safe] 27)) (.cells #[.bool false, .int .i64 0, .slice none 0 0, .slice none 0 0, .int .i64 0, .slice none 0 0] 33)
  have r1 := hid (row_below r1 b2)
  simp only [World.size_alloc] at r2
  have r2 := hid r2
  have HB := hid (b1.trans (b2.mono b1.size))
  clear b1 b2
  obtain ⟨H, hH⟩ : ∃ H, H = w.heap.size := ⟨_, rfl⟩
  have HH := hid hH
  have hHl : w.heap.size ≤ H := by omega
  rw [← hH] at r1 r2
  clear hH
  go_enter Try.func6, Try.ntmps6
  go_upto_region 1 with (fail)
  rw [← HH.out]
  generalize (w.alloc (.cells #[.slice (some ⟨g, 0, none⟩) n cap, .int .i64 (sil : Int), .int .i64 (most : Int), .int .i64 (win : Int), .string safe] 27)).alloc (.cells #[.bool false, .int .i64 0, .slice none 0 0, .slice none 0 0, .int .i64 0, .slice none 0 0] 33) = U at *
  have hHU : H + 1 < U.heap.size := row_lt r2.out
  have c0 : U.cell? ⟨H, 0, none⟩ = some (.slice (some ⟨g, 0, none⟩) n cap) := by rw [cell_of_row _ _ _ _ _ _ r1.out]; rfl
  have c1 : U.cell? ⟨H, 1, none⟩ = some (.int .i64 (sil : Int)) := by rw [cell_of_row _ _ _ _ _ _ r1.out]; rfl
  have c2 : U.cell? ⟨H, 2, none⟩ = some (.int .i64 (most : Int)) := by rw [cell_of_row _ _ _ _ _ _ r1.out]; rfl
  have c3 : U.cell? ⟨H, 3, none⟩ = some (.int .i64 (win : Int)) := by rw [cell_of_row _ _ _ _ _ _ r1.out]; rfl
  have c4 : U.cell? ⟨H, 4, none⟩ = some (.string safe) := by rw [cell_of_row _ _ _ _ _ _ r1.out]; rfl
  have hck := hck U (hr.ext HB.out)
  go_wp2_with fail
  refine hck.mono ?_
  rintro e W1 ⟨rfl, bc⟩
  have b3 := below_alloc W1 (.cells #[.int .i64 0, .int .i64 0] 45)
  have q1 := row_below (row_below r1.out bc) b3
  have q2 := hid (row_below (row_below r2.out bc) b3)
  have HB3 := hid ((HB.out.trans (bc.mono HB.out.size)).trans (b3.mono (by have := HB.out.size; have := bc.size; omega)))
  have hH1 : H + 1 < W1.heap.size := row_lt (row_below r2.out bc)
  have c0 : (W1.alloc (.cells #[.int .i64 0, .int .i64 0] 45)).cell? ⟨H, 0, none⟩ = some (.slice (some ⟨g, 0, none⟩) n cap) := by rw [cell_of_row _ _ _ _ _ _ q1]; rfl
  clear c1 c2 c3 c4 b3 bc r1 r2 HB hck q1
  go_wp2_with fail
  generalize W1.alloc (.cells #[.int .i64 0, .int .i64 0] 45) = X at *
  clear c0
  have hszX : X.heap.size = X.heap.size := rfl
  refine wp_region_plan [1, 3, 5] (Plan.of [0, 2] (.two 1 (Plan.of [3, 4, 5, 6] .nil) 3 (Plan.of [1, 4, 5, 6] .nil))) (Below (H + 1)) (fun _ => Below.refl _ _) (fun _ _ _ h k => h.trans k) (by kernel_rfl) (by kernel_rfl) ?_
  simp only [Plan.of, Plan.lay, List.contains_cons, List.contains_nil, List.getD_cons_zero, List.getD_cons_succ, Nat.reduceBEq, Bool.or_false, Bool.or_true]
  have q2 : Hid (X.drew.heap[H + 1]? = _) := q2
  have HB3 := hid (HB3.out.trans (Below.refl _ X).drew)
  have hXl : H + 1 < X.drew.heap.size := row_lt q2.out
  clear hszX
  generalize X.drew = Y at *
  repeat (refine wpTL_do rfl (fun w' hw' => (by go_simp; rfl)) ?_; simp only [Act.put, List.setIfInBounds_toArray, List.set_cons_succ, List.set_cons_zero])
  refine wpTL_two ?_ ?_
  · refine wpTL_call rfl (fun K hK => ?_)
    go_wp2_with fail
    refine hK _ _ ((below_alloc Y _).mono (by omega)) ?_
    clear hK K
    try simp only [Act.put, List.setIfInBounds_toArray, List.set_cons_succ, List.set_cons_zero]
    refine wpTL_call rfl (fun K hK => ?_)
    go_wp2_with fail
    refine hK _ _ ((below_alloc (Y.alloc (.cells MI 3)) _).mono (by simp; omega)) ?_
    clear hK K
    try simp only [Act.put, List.setIfInBounds_toArray, List.set_cons_succ, List.set_cons_zero]
    have p1 := row_below (heap_alloc_new Y (.cells MI 3)) (below_alloc (Y.alloc (.cells MI 3)) (.cells MT 4))
    have p2 := heap_alloc_new (Y.alloc (.cells MI 3)) (.cells MT 4)
    simp only [World.size_alloc] at p2
    have p3 := row_below (row_below q2.out (below_alloc Y (.cells MI 3))) (below_alloc (Y.alloc (.cells MI 3)) (.cells MT 4))
    have HB5 := hid ((HB3.out.trans ((below_alloc Y (.cells MI 3)).mono HB3.out.size)).trans ((below_alloc (Y.alloc (.cells MI 3)) (.cells MT 4)).mono (by have := HB3.out.size; simp; omega)))
    have hYs := HB3.out.size
    obtain ⟨y, hy⟩ : ∃ y, y = Y.heap.size := ⟨_, rfl⟩
    rw [← hy] at p1 p2 hXl hYs ⊢
    clear hy
    generalize (Y.alloc (.cells MI 3)).alloc (.cells MT 4) = Z at *
    obtain ⟨p4, g4⟩ := set_cells (b := H + 1) (e := 33) [] [.bool false, .int .i64 (-1), .slice (some ⟨y, 0, none⟩) n n, .slice (some ⟨y + 1, 0, none⟩) n n, .int .i64 0, .slice none 0 0] [] [.bool false, .int .i64 0, .slice none 0 0, .slice none 0 0, .int .i64 0, .slice none 0 0] Z p3 rfl
    have f1 : ∀ i, Z.frozen? ⟨H + 1, i, none⟩ = false := fun i => frozen_row p3 i
    have d0 : Z.cell? ⟨H + 1, 0, none⟩ = some (.bool false) := by rw [cell_of_row _ _ _ _ _ _ p3]; rfl
    have d1 : Z.cell? ⟨H + 1, 1, none⟩ = some (.int .i64 0) := by rw [cell_of_row _ _ _ _ _ _ p3]; rfl
    have d2 : Z.cell? ⟨H + 1, 2, none⟩ = some (.slice none 0 0) := by rw [cell_of_row _ _ _ _ _ _ p3]; rfl
    have d3 : Z.cell? ⟨H + 1, 3, none⟩ = some (.slice none 0 0) := by rw [cell_of_row _ _ _ _ _ _ p3]; rfl
    have d4 : Z.cell? ⟨H + 1, 4, none⟩ = some (.int .i64 0) := by rw [cell_of_row _ _ _ _ _ _ p3]; rfl
    have d5 : Z.cell? ⟨H + 1, 5, none⟩ = some (.slice none 0 0) := by rw [cell_of_row _ _ _ _ _ _ p3]; rfl
    have P1 := hid (row_grown p1 g4 (by omega))
    have P2 := hid (row_grown p2 g4 (by omega))
    have P4 := hid p4
    have G4 := hid (show Below (H + 1) Z _ from (Below.refl _ _).grown g4 (by have := row_lt p3; omega) (fun k e => by cases e; exact Nat.le_refl _))
    have HB6 := hid (HB5.out.grown g4 (by have := HB5.out.size; omega) (fun k e => by cases e; omega))
    clear p1 p2 p3 p4 g4 HB5
    repeat (refine wpTL_do rfl (fun w' hw' => (by go_simp; rfl)) ?_; simp only [Act.put, List.setIfInBounds_toArray, List.set_cons_succ, List.set_cons_zero])
    refine wpTL_call rfl (fun K hK => ?_)
    go_wp2_with fail
    refine hK _ _ G4.out ?_
    clear hK K d0 d1 d2 d3 d4 d5 f1
    try simp only [Act.put, List.setIfInBounds_toArray, List.set_cons_succ, List.set_cons_zero]
    have P1 := hid (show ((((((Z.setCell ⟨H + 1, 0, none⟩ (.bool false)).setCell ⟨H + 1, 1, none⟩ (.int .i64 (-1))).setCell ⟨H + 1, 2, none⟩ (.slice (some ⟨y, 0, none⟩) n n)).setCell ⟨H + 1, 3, none⟩ (.slice (some ⟨y + 1, 0, none⟩) n n)).setCell ⟨H + 1, 4, none⟩ (.int .i64 0)).setCell ⟨H + 1, 5, none⟩ (.slice none 0 0)).heap[y]? = _ from P1.out)
    have P2 := hid (show ((((((Z.setCell ⟨H + 1, 0, none⟩ (.bool false)).setCell ⟨H + 1, 1, none⟩ (.int .i64 (-1))).setCell ⟨H + 1, 2, none⟩ (.slice (some ⟨y, 0, none⟩) n n)).setCell ⟨H + 1, 3, none⟩ (.slice (some ⟨y + 1, 0, none⟩) n n)).setCell ⟨H + 1, 4, none⟩ (.int .i64 0)).setCell ⟨H + 1, 5, none⟩ (.slice none 0 0)).heap[y + 1]? = _ from P2.out)
    have P4 := hid (show ((((((Z.setCell ⟨H + 1, 0, none⟩ (.bool false)).setCell ⟨H + 1, 1, none⟩ (.int .i64 (-1))).setCell ⟨H + 1, 2, none⟩ (.slice (some ⟨y, 0, none⟩) n n)).setCell ⟨H + 1, 3, none⟩ (.slice (some ⟨y + 1, 0, none⟩) n n)).setCell ⟨H + 1, 4, none⟩ (.int .i64 0)).setCell ⟨H + 1, 5, none⟩ (.slice none 0 0)).heap[H + 1]? = some (.cells #[.bool false, .int .i64 (-1), .slice (some ⟨y, 0, none⟩) n n, .slice (some ⟨y + 1, 0, none⟩) n n, .int .i64 0, .slice none 0 0] 33) from P4.out)
    have HB6 := hid (show Below w.heap.size w ((((((Z.setCell ⟨H + 1, 0, none⟩ (.bool false)).setCell ⟨H + 1, 1, none⟩ (.int .i64 (-1))).setCell ⟨H + 1, 2, none⟩ (.slice (some ⟨y, 0, none⟩) n n)).setCell ⟨H + 1, 3, none⟩ (.slice (some ⟨y + 1, 0, none⟩) n n)).setCell ⟨H + 1, 4, none⟩ (.int .i64 0)).setCell ⟨H + 1, 5, none⟩ (.slice none 0 0)) from HB6.out)
    generalize ((((((Z.setCell ⟨H + 1, 0, none⟩ (.bool false)).setCell ⟨H + 1, 1, none⟩ (.int .i64 (-1))).setCell ⟨H + 1, 2, none⟩ (.slice (some ⟨y, 0, none⟩) n n)).setCell ⟨H + 1, 3, none⟩ (.slice (some ⟨y + 1, 0, none⟩) n n)).setCell ⟨H + 1, 4, none⟩ (.int .i64 0)).setCell ⟨H + 1, 5, none⟩ (.slice none 0 0)) = W9 at *
    repeat (refine wpTL_do rfl (fun w' hw' => (by go_simp; rfl)) ?_; simp only [Act.put, List.setIfInBounds_toArray, List.set_cons_succ, List.set_cons_zero])
    refine wpTL_nil ?_
    go_wp2_with fail
    have p4 := P4.out
    have e0 : W9.cell? ⟨H + 1, 0, none⟩ = some (.bool false) := by rw [cell_of_row _ _ _ _ _ _ p4]; rfl
    have e1 : W9.cell? ⟨H + 1, 1, none⟩ = some (.int .i64 (-1)) := by rw [cell_of_row _ _ _ _ _ _ p4]; rfl
    have e2 : W9.cell? ⟨H + 1, 2, none⟩ = some (.slice (some ⟨y, 0, none⟩) n n) := by rw [cell_of_row _ _ _ _ _ _ p4]; rfl
    have e3 : W9.cell? ⟨H + 1, 3, none⟩ = some (.slice (some ⟨y + 1, 0, none⟩) n n) := by rw [cell_of_row _ _ _ _ _ _ p4]; rfl
    have e4 : W9.cell? ⟨H + 1, 4, none⟩ = some (.int .i64 0) := by rw [cell_of_row _ _ _ _ _ _ p4]; rfl
    have e5 : W9.cell? ⟨H + 1, 5, none⟩ = some (.slice none 0 0) := by rw [cell_of_row _ _ _ _ _ _ p4]; rfl
    refine bodyPost_ret (by simp only [results, Try.results6, go_sem]; simp [go_sem, e0, e1, e2, e3, e4, e5]; rfl) rfl ?_
    refine ⟨_, _, rfl, ownAt_heap (by rw [← HMI.out]; exact P1.out) (by rw [vi_len]; simp) (by omega) (by unfold maxLen; omega), ownAt_heap (by rw [← HMT.out]; exact P2.out) (by rw [vt_len]; simp) (by omega) (by unfold maxLen; omega), HB6.out⟩
  · refine wpTL_call rfl (fun K hK => ?_)
    go_wp2_with fail
    refine hK _ _ ((below_alloc Y _).mono (by omega)) ?_
    clear hK K
    try simp only [Act.put, List.setIfInBounds_toArray, List.set_cons_succ, List.set_cons_zero]
    refine wpTL_call rfl (fun K hK => ?_)
    go_wp2_with fail
    refine hK _ _ ((below_alloc (Y.alloc (.cells MT 4)) _).mono (by simp; omega)) ?_
    clear hK K
    try simp only [Act.put, List.setIfInBounds_toArray, List.set_cons_succ, List.set_cons_zero]
    have p1 := row_below (heap_alloc_new Y (.cells MT 4)) (below_alloc (Y.alloc (.cells MT 4)) (.cells MI 3))
    have p2 := heap_alloc_new (Y.alloc (.cells MT 4)) (.cells MI 3)
    simp only [World.size_alloc] at p2
    have p3 := row_below (row_below q2.out (below_alloc Y (.cells MT 4))) (below_alloc (Y.alloc (.cells MT 4)) (.cells MI 3))
    have HB5 := hid ((HB3.out.trans ((below_alloc Y (.cells MT 4)).mono HB3.out.size)).trans ((below_alloc (Y.alloc (.cells MT 4)) (.cells MI 3)).mono (by have := HB3.out.size; simp; omega)))
    have hYs := HB3.out.size
    obtain ⟨y, hy⟩ : ∃ y, y = Y.heap.size := ⟨_, rfl⟩
    rw [← hy] at p1 p2 hXl hYs ⊢
    clear hy
    generalize (Y.alloc (.cells MT 4)).alloc (.cells MI 3) = Z at *
    obtain ⟨p4, g4⟩ := set_cells (b := H + 1) (e := 33) [] [.bool false, .int .i64 (-1), .slice (some ⟨y + 1, 0, none⟩) n n, .slice (some ⟨y, 0, none⟩) n n, .int .i64 0, .slice none 0 0] [] [.bool false, .int .i64 0, .slice none 0 0, .slice none 0 0, .int .i64 0, .slice none 0 0] Z p3 rfl
    have f1 : ∀ i, Z.frozen? ⟨H + 1, i, none⟩ = false := fun i => frozen_row p3 i
    have d0 : Z.cell? ⟨H + 1, 0, none⟩ = some (.bool false) := by rw [cell_of_row _ _ _ _ _ _ p3]; rfl
    have d1 : Z.cell? ⟨H + 1, 1, none⟩ = some (.int .i64 0) := by rw [cell_of_row _ _ _ _ _ _ p3]; rfl
    have d2 : Z.cell? ⟨H + 1, 2, none⟩ = some (.slice none 0 0) := by rw [cell_of_row _ _ _ _ _ _ p3]; rfl
    have d3 : Z.cell? ⟨H + 1, 3, none⟩ = some (.slice none 0 0) := by rw [cell_of_row _ _ _ _ _ _ p3]; rfl
    have d4 : Z.cell? ⟨H + 1, 4, none⟩ = some (.int .i64 0) := by rw [cell_of_row _ _ _ _ _ _ p3]; rfl
    have d5 : Z.cell? ⟨H + 1, 5, none⟩ = some (.slice none 0 0) := by rw [cell_of_row _ _ _ _ _ _ p3]; rfl
    have P1 := hid (row_grown p1 g4 (by omega))
    have P2 := hid (row_grown p2 g4 (by omega))
    have P4 := hid p4
    have G4 := hid (show Below (H + 1) Z _ from (Below.refl _ _).grown g4 (by have := row_lt p3; omega) (fun k e => by cases e; exact Nat.le_refl _))
    have HB6 := hid (HB5.out.grown g4 (by have := HB5.out.size; omega) (fun k e => by cases e; omega))
    clear p1 p2 p3 p4 g4 HB5
    repeat (refine wpTL_do rfl (fun w' hw' => (by go_simp; rfl)) ?_; simp only [Act.put, List.setIfInBounds_toArray, List.set_cons_succ, List.set_cons_zero])
    refine wpTL_call rfl (fun K hK => ?_)
    go_wp2_with fail
    refine hK _ _ G4.out ?_
    clear hK K d0 d1 d2 d3 d4 d5 f1
    try simp only [Act.put, List.setIfInBounds_toArray, List.set_cons_succ, List.set_cons_zero]
    have P1 := hid (show ((((((Z.setCell ⟨H + 1, 0, none⟩ (.bool false)).setCell ⟨H + 1, 1, none⟩ (.int .i64 (-1))).setCell ⟨H + 1, 2, none⟩ (.slice (some ⟨y + 1, 0, none⟩) n n)).setCell ⟨H + 1, 3, none⟩ (.slice (some ⟨y, 0, none⟩) n n)).setCell ⟨H + 1, 4, none⟩ (.int .i64 0)).setCell ⟨H + 1, 5, none⟩ (.slice none 0 0)).heap[y]? = _ from P1.out)
    have P2 := hid (show ((((((Z.setCell ⟨H + 1, 0, none⟩ (.bool false)).setCell ⟨H + 1, 1, none⟩ (.int .i64 (-1))).setCell ⟨H + 1, 2, none⟩ (.slice (some ⟨y + 1, 0, none⟩) n n)).setCell ⟨H + 1, 3, none⟩ (.slice (some ⟨y, 0, none⟩) n n)).setCell ⟨H + 1, 4, none⟩ (.int .i64 0)).setCell ⟨H + 1, 5, none⟩ (.slice none 0 0)).heap[y + 1]? = _ from P2.out)
    have P4 := hid (show ((((((Z.setCell ⟨H + 1, 0, none⟩ (.bool false)).setCell ⟨H + 1, 1, none⟩ (.int .i64 (-1))).setCell ⟨H + 1, 2, none⟩ (.slice (some ⟨y + 1, 0, none⟩) n n)).setCell ⟨H + 1, 3, none⟩ (.slice (some ⟨y, 0, none⟩) n n)).setCell ⟨H + 1, 4, none⟩ (.int .i64 0)).setCell ⟨H + 1, 5, none⟩ (.slice none 0 0)).heap[H + 1]? = some (.cells #[.bool false, .int .i64 (-1), .slice (some ⟨y + 1, 0, none⟩) n n, .slice (some ⟨y, 0, none⟩) n n, .int .i64 0, .slice none 0 0] 33) from P4.out)
    have HB6 := hid (show Below w.heap.size w ((((((Z.setCell ⟨H + 1, 0, none⟩ (.bool false)).setCell ⟨H + 1, 1, none⟩ (.int .i64 (-1))).setCell ⟨H + 1, 2, none⟩ (.slice (some ⟨y + 1, 0, none⟩) n n)).setCell ⟨H + 1, 3, none⟩ (.slice (some ⟨y, 0, none⟩) n n)).setCell ⟨H + 1, 4, none⟩ (.int .i64 0)).setCell ⟨H + 1, 5, none⟩ (.slice none 0 0)) from HB6.out)
    generalize ((((((Z.setCell ⟨H + 1, 0, none⟩ (.bool false)).setCell ⟨H + 1, 1, none⟩ (.int .i64 (-1))).setCell ⟨H + 1, 2, none⟩ (.slice (some ⟨y + 1, 0, none⟩) n n)).setCell ⟨H + 1, 3, none⟩ (.slice (some ⟨y, 0, none⟩) n n)).setCell ⟨H + 1, 4, none⟩ (.int .i64 0)).setCell ⟨H + 1, 5, none⟩ (.slice none 0 0)) = W9 at *
    repeat (refine wpTL_do rfl (fun w' hw' => (by go_simp; rfl)) ?_; simp only [Act.put, List.setIfInBounds_toArray, List.set_cons_succ, List.set_cons_zero])
    refine wpTL_nil ?_
    go_wp2_with fail
    have p4 := P4.out
    have e0 : W9.cell? ⟨H + 1, 0, none⟩ = some (.bool false) := by rw [cell_of_row _ _ _ _ _ _ p4]; rfl
    have e1 : W9.cell? ⟨H + 1, 1, none⟩ = some (.int .i64 (-1)) := by rw [cell_of_row _ _ _ _ _ _ p4]; rfl
    have e2 : W9.cell? ⟨H + 1, 2, none⟩ = some (.slice (some ⟨y + 1, 0, none⟩) n n) := by rw [cell_of_row _ _ _ _ _ _ p4]; rfl
    have e3 : W9.cell? ⟨H + 1, 3, none⟩ = some (.slice (some ⟨y, 0, none⟩) n n) := by rw [cell_of_row _ _ _ _ _ _ p4]; rfl
    have e4 : W9.cell? ⟨H + 1, 4, none⟩ = some (.int .i64 0) := by rw [cell_of_row _ _ _ _ _ _ p4]; rfl
    have e5 : W9.cell? ⟨H + 1, 5, none⟩ = some (.slice none 0 0) := by rw [cell_of_row _ _ _ _ _ _ p4]; rfl
    refine bodyPost_ret (by simp only [results, Try.results6, go_sem]; simp [go_sem, e0, e1, e2, e3, e4, e5]; rfl) rfl ?_
    refine ⟨_, _, rfl, ownAt_heap (by rw [← HMI.out]; exact P2.out) (by rw [vi_len]; simp) (by omega) (by unfold maxLen; omega), ownAt_heap (by rw [← HMT.out]; exact P1.out) (by rw [vt_len]; simp) (by omega) (by unfold maxLen; omega), HB6.out⟩
end Go.Proofs.Ytkgnelmnadnbhaa
