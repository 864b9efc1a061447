/- Accept: the walk. -/
import Derived.Test.YtkngoomkmbkenaaOnce3
import Derived.Test.YtkngoomkmbkenaaOnce2
import Derived.Test.YtkngoomkmbkenaaProg
import Derived.WalkKit
import Derived.Laws.AppendOwnNone
import Derived.OwnWalk
import Derived.Deep.DeepAppendWide
namespace Go.Proofs.Ytkngoomkmbkenaa
set_option linter.unusedVariables false
open Go.RowKit

/-- an order's cells -/
def ocells (cr : Int) (by_ co : Bool) (sq : Int) (a : Option Addr) (n c : Nat) : Array Value := #[.int .i64 cr, .bool by_, .bool co, .int .i64 sq, .slice a n c]


structure OAt (W : World) (b : Nat) (cr : Int) (by_ co : Bool) (sq : Int) (a : Option Addr) (n c : Nat) : Prop where
  c0 : W.cell? ⟨b, 0, none⟩ = some (.int .i64 cr)
  c1 : W.cell? ⟨b, 1, none⟩ = some (.bool by_)
  c2 : W.cell? ⟨b, 2, none⟩ = some (.bool co)
  c3 : W.cell? ⟨b, 3, none⟩ = some (.int .i64 sq)
  c4 : W.cell? ⟨b, 4, none⟩ = some (.slice a n c)
theorem oAt_row {W : World} {b : Nat} {cr : Int} {by_ co : Bool} {sq : Int} {a : Option Addr} {n c : Nat} {e : TypeId} (A : W.heap[b]? = some (.cells #[.int .i64 cr, .bool by_, .bool co, .int .i64 sq, .slice a n c] e)) : OAt W b cr by_ co sq a n c :=
  ⟨by rw [cell_of_row _ _ _ _ _ _ A]; rfl, by rw [cell_of_row _ _ _ _ _ _ A]; rfl, by rw [cell_of_row _ _ _ _ _ _ A]; rfl, by rw [cell_of_row _ _ _ _ _ _ A]; rfl, by rw [cell_of_row _ _ _ _ _ _ A]; rfl⟩

/-- seven cells are written over, one by one -/
theorem seven {W : World} {b : Nat} {e : TypeId} {o0 o1 o2 o3 o4 o5 o6 : Value} (A : W.heap[b]? = some (.cells #[o0, o1, o2, o3, o4, o5, o6] e)) (v0 v1 v2 v3 v4 v5 v6 : Value) :
    (((((((W.setCell ⟨b, 0, none⟩ v0).setCell ⟨b, 1, none⟩ v1).setCell ⟨b, 2, none⟩ v2).setCell ⟨b, 3, none⟩ v3).setCell ⟨b, 4, none⟩ v4).setCell ⟨b, 5, none⟩ v5).setCell ⟨b, 6, none⟩ v6).heap[b]? = some (.cells #[v0, v1, v2, v3, v4, v5, v6] e) := by
  have h0 : (W.setCell ⟨b, 0, none⟩ v0).heap[b]? = some (.cells #[v0, o1, o2, o3, o4, o5, o6] e) := heap_setCell_same W b 0 _ e v0 A
  have h1 : ((W.setCell ⟨b, 0, none⟩ v0).setCell ⟨b, 1, none⟩ v1).heap[b]? = some (.cells #[v0, v1, o2, o3, o4, o5, o6] e) := heap_setCell_same (W.setCell ⟨b, 0, none⟩ v0) b 1 _ e v1 h0
  have h2 : (((W.setCell ⟨b, 0, none⟩ v0).setCell ⟨b, 1, none⟩ v1).setCell ⟨b, 2, none⟩ v2).heap[b]? = some (.cells #[v0, v1, v2, o3, o4, o5, o6] e) := heap_setCell_same ((W.setCell ⟨b, 0, none⟩ v0).setCell ⟨b, 1, none⟩ v1) b 2 _ e v2 h1
  have h3 : ((((W.setCell ⟨b, 0, none⟩ v0).setCell ⟨b, 1, none⟩ v1).setCell ⟨b, 2, none⟩ v2).setCell ⟨b, 3, none⟩ v3).heap[b]? = some (.cells #[v0, v1, v2, v3, o4, o5, o6] e) := heap_setCell_same (((W.setCell ⟨b, 0, none⟩ v0).setCell ⟨b, 1, none⟩ v1).setCell ⟨b, 2, none⟩ v2) b 3 _ e v3 h2
  have h4 : (((((W.setCell ⟨b, 0, none⟩ v0).setCell ⟨b, 1, none⟩ v1).setCell ⟨b, 2, none⟩ v2).setCell ⟨b, 3, none⟩ v3).setCell ⟨b, 4, none⟩ v4).heap[b]? = some (.cells #[v0, v1, v2, v3, v4, o5, o6] e) := heap_setCell_same ((((W.setCell ⟨b, 0, none⟩ v0).setCell ⟨b, 1, none⟩ v1).setCell ⟨b, 2, none⟩ v2).setCell ⟨b, 3, none⟩ v3) b 4 _ e v4 h3
  have h5 : ((((((W.setCell ⟨b, 0, none⟩ v0).setCell ⟨b, 1, none⟩ v1).setCell ⟨b, 2, none⟩ v2).setCell ⟨b, 3, none⟩ v3).setCell ⟨b, 4, none⟩ v4).setCell ⟨b, 5, none⟩ v5).heap[b]? = some (.cells #[v0, v1, v2, v3, v4, v5, o6] e) := heap_setCell_same (((((W.setCell ⟨b, 0, none⟩ v0).setCell ⟨b, 1, none⟩ v1).setCell ⟨b, 2, none⟩ v2).setCell ⟨b, 3, none⟩ v3).setCell ⟨b, 4, none⟩ v4) b 5 _ e v5 h4
  have h6 : (((((((W.setCell ⟨b, 0, none⟩ v0).setCell ⟨b, 1, none⟩ v1).setCell ⟨b, 2, none⟩ v2).setCell ⟨b, 3, none⟩ v3).setCell ⟨b, 4, none⟩ v4).setCell ⟨b, 5, none⟩ v5).setCell ⟨b, 6, none⟩ v6).heap[b]? = some (.cells #[v0, v1, v2, v3, v4, v5, v6] e) := heap_setCell_same ((((((W.setCell ⟨b, 0, none⟩ v0).setCell ⟨b, 1, none⟩ v1).setCell ⟨b, 2, none⟩ v2).setCell ⟨b, 3, none⟩ v3).setCell ⟨b, 4, none⟩ v4).setCell ⟨b, 5, none⟩ v5) b 6 _ e v6 h5
  exact h6
theorem grown7 (W : World) (b : Nat) (v0 v1 v2 v3 v4 v5 v6 : Value) :
    W.grownBy (((((((W.setCell ⟨b, 0, none⟩ v0).setCell ⟨b, 1, none⟩ v1).setCell ⟨b, 2, none⟩ v2).setCell ⟨b, 3, none⟩ v3).setCell ⟨b, 4, none⟩ v4).setCell ⟨b, 5, none⟩ v5).setCell ⟨b, 6, none⟩ v6) (some b) := by
  have h0 := grown1 W b 0 v0
  have h1 := grownBy_trans h0 (grown1 _ b 1 v1)
  have h2 := grownBy_trans h1 (grown1 _ b 2 v2)
  have h3 := grownBy_trans h2 (grown1 _ b 3 v3)
  have h4 := grownBy_trans h3 (grown1 _ b 4 v4)
  have h5 := grownBy_trans h4 (grown1 _ b 5 v5)
  exact grownBy_trans h5 (grown1 _ b 6 v6)

set_option maxHeartbeats 4000000 in
theorem accept_num (g : Gt) (hg : g.ok) (sq : Int) (hs : 0 ≤ sq ∧ sq ≤ 255) (a : Option Addr) (n c : Nat) (hn : 1 ≤ n ∧ n ≤ 1017) (room : Bool) (w : World) :
    Calls Try.prog 7 #[.agg g.cells, .agg (ocells g.cr false false sq a n c), .bool room] w fun e w' => e = .returned (.tuple #[.agg (numG g sq room).1.cells, .bool (numG g sq room).2.1, .int .i64 (numG g sq room).2.2]) ∧ Below w.heap.size w w' := by
  have hg' := hg
  obtain ⟨k1, k2, k3, k4⟩ := hg'
  have A0 := heap_alloc_new w (.cells g.cells 25)
  have B0 := below_alloc w (.cells g.cells 25)
  have A1 := heap_alloc_new (w.alloc (.cells g.cells 25)) (.cells (ocells g.cr false false sq a n c) 33)
  have B1 := below_alloc (w.alloc (.cells g.cells 25)) (.cells (ocells g.cr false false sq a n c) 33)
  have A2 := heap_alloc_new ((w.alloc (.cells g.cells 25)).alloc (.cells (ocells g.cr false false sq a n c) 33)) (.cells (Gt.cells ⟨0, 0, 0, false, false, false, 0⟩) 25)
  have B2 := below_alloc ((w.alloc (.cells g.cells 25)).alloc (.cells (ocells g.cr false false sq a n c) 33)) (.cells (Gt.cells ⟨0, 0, 0, false, false, false, 0⟩) 25)
  have A0 := row_below (row_below A0 B1) B2
  have A1 := row_below A1 B2
  have BW := B0.trans ((B1.trans (B2.mono B1.size)).mono B0.size)
  simp only [World.size_alloc] at A1 A2
  clear B0 B1 B2
  go_enter Try.func7, Try.ntmps7
  unfold Gt.cells ocells at *
  simp only at *
  go_wp2_with fail
  generalize ((w.alloc (.cells #[.int .i64 g.cr, .int .i64 g.nx, .int .i64 g.hf, .bool g.sh, .bool g.wa, .bool g.ag, .int .i64 g.ct] 25)).alloc (.cells #[.int .i64 g.cr, .bool false, .bool false, .int .i64 sq, .slice a n c] 33)).alloc (.cells #[.int .i64 0, .int .i64 0, .int .i64 0, .bool false, .bool false, .bool false, .int .i64 0] 25) = W at *
  refine (stands_ok g hg W).mono ?_
  rintro e V1 ⟨rfl, b1⟩
  have A0 := row_below A0 b1
  have A1 := row_below A1 b1
  have A2 := row_below A2 b1
  have BV := BW.trans (b1.mono BW.size)
  clear b1 BW
  obtain ⟨c0, c1, c2, c3, c4⟩ := oAt_row A1
  go_wp2_with fail
  refine (may_ok g.cr false false sq a n c V1 k1 hs (by simp) hn).mono ?_
  rintro e V2 ⟨rfl, b2⟩
  clear c0 c1 c2 c3 c4
  have A0 := row_below A0 b2
  have A1 := row_below A1 b2
  have A2 := row_below A2 b2
  have BV := BV.trans (b2.mono BV.size)
  clear b2
  obtain ⟨c0, c1, c2, c3, c4⟩ := oAt_row A1
  obtain ⟨_, d0, d1, d2, d3, d4, d5, d6⟩ := gtAt_row (g := g) A0
  have bG := below_alloc V2 (.cells g.cells 56)
  have hH : Holds (V2.alloc (.cells g.cells 56)) V2.heap.size g := heap_alloc_new V2 (.cells g.cells 56)
  have A0 := row_below A0 bG
  have A1 := row_below A1 bG
  have A2 := row_below A2 bG
  have BV := BV.trans (bG.mono BV.size)
  have hlt : w.heap.size + 1 + 1 < V2.heap.size := by
    have h1 := (Array.getElem?_eq_some_iff.1 ‹V2.heap[w.heap.size + 1 + 1]? = _›).1
    exact h1
  unfold Gt.cells at *
  obtain ⟨e0, e1, e2, e3, e4⟩ := oAt_row A1
  go_wp2_with fail
  refine (numbered_ok V2.heap.size g sq room _ hH hg hs).mono ?_
  rintro e V3 ⟨rfl, h3, g3⟩
  have A2 := row_grown A2 g3 (by omega)
  have BV := BV.grown g3 (by have := BV.size; omega) (fun k e => by cases e; omega)
  clear A0 A1 hH bG c0 c1 c2 c3 c4 d0 d1 d2 d3 d4 d5 d6 e0 e1 e2 e3 e4
  generalize hN : numG g sq room = M at *
  obtain ⟨N, le, er⟩ := M
  have HN := hid hN
  clear hN
  simp only at *
  obtain ⟨_, z0, z1, z2, z3, z4, z5, z6⟩ := gtAt_row (g := ⟨0, 0, 0, false, false, false, 0⟩) A2
  have fz := frozen_row A2
  obtain ⟨_, n0, n1, n2, n3, n4, n5, n6⟩ := holds_at h3
  have hne : V2.heap.size ≠ w.heap.size + 1 + 1 := by omega
  go_wp2_with fail
  have A7 := seven A2 (.int .i64 N.cr) (.int .i64 N.nx) (.int .i64 N.hf) (.bool N.sh) (.bool N.wa) (.bool N.ag) (.int .i64 N.ct)
  have BV := BV.grown (grown7 V3 (w.heap.size + 1 + 1) (.int .i64 N.cr) (.int .i64 N.nx) (.int .i64 N.hf) (.bool N.sh) (.bool N.wa) (.bool N.ag) (.int .i64 N.ct)) (by have := g3.size; simp at this; omega) (fun k e => by cases e; omega)
  generalize ((((((V3.setCell ⟨w.heap.size + 1 + 1, 0, none⟩ (.int .i64 N.cr)).setCell ⟨w.heap.size + 1 + 1, 1, none⟩ (.int .i64 N.nx)).setCell ⟨w.heap.size + 1 + 1, 2, none⟩ (.int .i64 N.hf)).setCell ⟨w.heap.size + 1 + 1, 3, none⟩ (.bool N.sh)).setCell ⟨w.heap.size + 1 + 1, 4, none⟩ (.bool N.wa)).setCell ⟨w.heap.size + 1 + 1, 5, none⟩ (.bool N.ag)).setCell ⟨w.heap.size + 1 + 1, 6, none⟩ (.int .i64 N.ct) = V4 at *
  obtain ⟨_, m0, m1, m2, m3, m4, m5, m6⟩ := gtAt_row (g := N) A7
  refine bodyPost_ret (by simp only [results, Try.results7, go_sem]; simp [go_sem, m0, m1, m2, m3, m4, m5, m6]; rfl) rfl ?_
  rw [HN.out]
  exact ⟨rfl, BV⟩

set_option maxHeartbeats 4000000 in
theorem accept_by (g : Gt) (hg : g.ok) (sq : Int) (hs : 0 ≤ sq ∧ sq ≤ 255) (a : Option Addr) (n c : Nat) (hn : 1 ≤ n ∧ n ≤ 1017) (room : Bool) (w : World) :
    Calls Try.prog 7 #[.agg g.cells, .agg (ocells g.cr true false sq a n c), .bool room] w fun e w' => e = .returned (.tuple #[.agg (Gt.cells { g with ct := (g.ct + 1) % 4 }), .bool true, .int .i64 0]) ∧ Below w.heap.size w w' := by
  have hg' := hg
  obtain ⟨k1, k2, k3, k4⟩ := hg'
  have A0 := heap_alloc_new w (.cells g.cells 25)
  have B0 := below_alloc w (.cells g.cells 25)
  have A1 := heap_alloc_new (w.alloc (.cells g.cells 25)) (.cells (ocells g.cr true false sq a n c) 33)
  have B1 := below_alloc (w.alloc (.cells g.cells 25)) (.cells (ocells g.cr true false sq a n c) 33)
  have A2 := heap_alloc_new ((w.alloc (.cells g.cells 25)).alloc (.cells (ocells g.cr true false sq a n c) 33)) (.cells (Gt.cells ⟨0, 0, 0, false, false, false, 0⟩) 25)
  have B2 := below_alloc ((w.alloc (.cells g.cells 25)).alloc (.cells (ocells g.cr true false sq a n c) 33)) (.cells (Gt.cells ⟨0, 0, 0, false, false, false, 0⟩) 25)
  have A0 := row_below (row_below A0 B1) B2
  have A1 := row_below A1 B2
  have BW := B0.trans ((B1.trans (B2.mono B1.size)).mono B0.size)
  simp only [World.size_alloc] at A1 A2
  clear B0 B1 B2
  go_enter Try.func7, Try.ntmps7
  unfold Gt.cells ocells at *
  simp only at *
  go_wp2_with fail
  generalize ((w.alloc (.cells #[.int .i64 g.cr, .int .i64 g.nx, .int .i64 g.hf, .bool g.sh, .bool g.wa, .bool g.ag, .int .i64 g.ct] 25)).alloc (.cells #[.int .i64 g.cr, .bool true, .bool false, .int .i64 sq, .slice a n c] 33)).alloc (.cells #[.int .i64 0, .int .i64 0, .int .i64 0, .bool false, .bool false, .bool false, .int .i64 0] 25) = W at *
  refine (stands_ok g hg W).mono ?_
  rintro e V1 ⟨rfl, b1⟩
  have A0 := row_below A0 b1
  have A1 := row_below A1 b1
  have A2 := row_below A2 b1
  have BV := BW.trans (b1.mono BW.size)
  clear b1 BW
  obtain ⟨c0, c1, c2, c3, c4⟩ := oAt_row A1
  go_wp2_with fail
  refine (may_ok g.cr true false sq a n c V1 k1 hs (by simp) hn).mono ?_
  rintro e V2 ⟨rfl, b2⟩
  clear c0 c1 c2 c3 c4
  have A0 := row_below A0 b2
  have A1 := row_below A1 b2
  have A2 := row_below A2 b2
  have BV := BV.trans (b2.mono BV.size)
  clear b2
  obtain ⟨c0, c1, c2, c3, c4⟩ := oAt_row A1
  obtain ⟨_, d0, d1, d2, d3, d4, d5, d6⟩ := gtAt_row (g := g) A0
  have bG := below_alloc V2 (.cells g.cells 56)
  have hH : Holds (V2.alloc (.cells g.cells 56)) V2.heap.size g := heap_alloc_new V2 (.cells g.cells 56)
  have A0 := row_below A0 bG
  have A1 := row_below A1 bG
  have A2 := row_below A2 bG
  have BV := BV.trans (bG.mono BV.size)
  have hlt : w.heap.size + 1 + 1 < V2.heap.size := by
    have h1 := (Array.getElem?_eq_some_iff.1 ‹V2.heap[w.heap.size + 1 + 1]? = _›).1
    exact h1
  unfold Gt.cells at *
  obtain ⟨e0, e1, e2, e3, e4⟩ := oAt_row A1
  go_wp2_with fail
  refine (counted_ok V2.heap.size g _ hH).mono ?_
  rintro e V3 ⟨rfl, h3, g3⟩
  have A2 := row_grown A2 g3 (by omega)
  have BV := BV.grown g3 (by have := BV.size; omega) (fun k e => by cases e; omega)
  clear A0 A1 hH bG c0 c1 c2 c3 c4 d0 d1 d2 d3 d4 d5 d6 e0 e1 e2 e3 e4
  obtain ⟨N, hN⟩ : ∃ N : Gt, N = { g with ct := (g.ct + 1) % 4 } := ⟨_, rfl⟩
  rw [← hN] at h3
  have HN := hid hN
  clear hN
  obtain ⟨_, z0, z1, z2, z3, z4, z5, z6⟩ := gtAt_row (g := ⟨0, 0, 0, false, false, false, 0⟩) A2
  have fz := frozen_row A2
  obtain ⟨_, n0, n1, n2, n3, n4, n5, n6⟩ := holds_at h3
  have hne : V2.heap.size ≠ w.heap.size + 1 + 1 := by omega
  go_wp2_with fail
  have A7 := seven A2 (.int .i64 N.cr) (.int .i64 N.nx) (.int .i64 N.hf) (.bool N.sh) (.bool N.wa) (.bool N.ag) (.int .i64 N.ct)
  have BV := BV.grown (grown7 V3 (w.heap.size + 1 + 1) (.int .i64 N.cr) (.int .i64 N.nx) (.int .i64 N.hf) (.bool N.sh) (.bool N.wa) (.bool N.ag) (.int .i64 N.ct)) (by have := g3.size; simp at this; omega) (fun k e => by cases e; omega)
  generalize ((((((V3.setCell ⟨w.heap.size + 1 + 1, 0, none⟩ (.int .i64 N.cr)).setCell ⟨w.heap.size + 1 + 1, 1, none⟩ (.int .i64 N.nx)).setCell ⟨w.heap.size + 1 + 1, 2, none⟩ (.int .i64 N.hf)).setCell ⟨w.heap.size + 1 + 1, 3, none⟩ (.bool N.sh)).setCell ⟨w.heap.size + 1 + 1, 4, none⟩ (.bool N.wa)).setCell ⟨w.heap.size + 1 + 1, 5, none⟩ (.bool N.ag)).setCell ⟨w.heap.size + 1 + 1, 6, none⟩ (.int .i64 N.ct) = V4 at *
  obtain ⟨_, m0, m1, m2, m3, m4, m5, m6⟩ := gtAt_row (g := N) A7
  refine bodyPost_ret (by simp only [results, Try.results7, go_sem]; simp [go_sem, m0, m1, m2, m3, m4, m5, m6]; rfl) rfl ?_
  have e := HN.out
  subst e
  exact ⟨rfl, BV⟩

set_option maxHeartbeats 4000000 in
theorem accept_free (g : Gt) (hg : g.ok) (sq : Int) (hs : 0 ≤ sq ∧ sq ≤ 255) (a : Option Addr) (c : Nat) (room : Bool) (w : World) (hr : Rd w a 1 c (vb [0])) :
    Calls Try.prog 7 #[.agg g.cells, .agg (ocells g.cr true true sq a 1 c), .bool room] w fun e w' => e = .returned (.tuple #[.agg (Gt.cells { g with sh := false, wa := false, ag := false, ct := (g.ct + 1) % 4 }), .bool false, .int .i64 0]) ∧ Below w.heap.size w w' := by
  have hg' := hg
  obtain ⟨k1, k2, k3, k4⟩ := hg'
  have A0 := heap_alloc_new w (.cells g.cells 25)
  have B0 := below_alloc w (.cells g.cells 25)
  have A1 := heap_alloc_new (w.alloc (.cells g.cells 25)) (.cells (ocells g.cr true true sq a 1 c) 33)
  have B1 := below_alloc (w.alloc (.cells g.cells 25)) (.cells (ocells g.cr true true sq a 1 c) 33)
  have A2 := heap_alloc_new ((w.alloc (.cells g.cells 25)).alloc (.cells (ocells g.cr true true sq a 1 c) 33)) (.cells (Gt.cells ⟨0, 0, 0, false, false, false, 0⟩) 25)
  have B2 := below_alloc ((w.alloc (.cells g.cells 25)).alloc (.cells (ocells g.cr true true sq a 1 c) 33)) (.cells (Gt.cells ⟨0, 0, 0, false, false, false, 0⟩) 25)
  have A0 := row_below (row_below A0 B1) B2
  have A1 := row_below A1 B2
  have BW := B0.trans ((B1.trans (B2.mono B1.size)).mono B0.size)
  simp only [World.size_alloc] at A1 A2
  clear B0 B1 B2
  go_enter Try.func7, Try.ntmps7
  unfold Gt.cells ocells at *
  simp only at *
  go_wp2_with fail
  generalize ((w.alloc (.cells #[.int .i64 g.cr, .int .i64 g.nx, .int .i64 g.hf, .bool g.sh, .bool g.wa, .bool g.ag, .int .i64 g.ct] 25)).alloc (.cells #[.int .i64 g.cr, .bool true, .bool true, .int .i64 sq, .slice a 1 c] 33)).alloc (.cells #[.int .i64 0, .int .i64 0, .int .i64 0, .bool false, .bool false, .bool false, .int .i64 0] 25) = W at *
  refine (stands_ok g hg W).mono ?_
  rintro e V1 ⟨rfl, b1⟩
  have A0 := row_below A0 b1
  have A1 := row_below A1 b1
  have A2 := row_below A2 b1
  have BV := BW.trans (b1.mono BW.size)
  clear b1 BW
  obtain ⟨c0, c1, c2, c3, c4⟩ := oAt_row A1
  go_wp2_with fail
  refine (may_ok g.cr true true sq a 1 c V1 k1 hs (by simp) (by decide)).mono ?_
  rintro e V2 ⟨rfl, b2⟩
  clear c0 c1 c2 c3 c4
  have A0 := row_below A0 b2
  have A1 := row_below A1 b2
  have A2 := row_below A2 b2
  have BV := BV.trans (b2.mono BV.size)
  clear b2
  obtain ⟨c0, c1, c2, c3, c4⟩ := oAt_row A1
  obtain ⟨_, d0, d1, d2, d3, d4, d5, d6⟩ := gtAt_row (g := g) A0
  have bG := below_alloc V2 (.cells g.cells 56)
  have hH : Holds (V2.alloc (.cells g.cells 56)) V2.heap.size g := heap_alloc_new V2 (.cells g.cells 56)
  have A0 := row_below A0 bG
  have A1 := row_below A1 bG
  have A2 := row_below A2 bG
  have BV := BV.trans (bG.mono BV.size)
  have hlt : w.heap.size + 1 + 1 < V2.heap.size := by
    have h1 := (Array.getElem?_eq_some_iff.1 ‹V2.heap[w.heap.size + 1 + 1]? = _›).1
    exact h1
  unfold Gt.cells at *
  obtain ⟨e0, e1, e2, e3, e4⟩ := oAt_row A1
  go_wp2_with fail
  refine (order_free V2.heap.size g a c _ hH (hr.below BV)).mono ?_
  rintro e V3 ⟨rfl, h3, g3⟩
  have A2 := row_grown A2 g3 (by omega)
  have BV := BV.grown g3 (by have := BV.size; omega) (fun k e => by cases e; omega)
  clear A0 A1 hH bG c0 c1 c2 c3 c4 d0 d1 d2 d3 d4 d5 d6 e0 e1 e2 e3 e4
  obtain ⟨N, hN⟩ : ∃ N : Gt, N = { g with sh := false, wa := false, ag := false, ct := (g.ct + 1) % 4 } := ⟨_, rfl⟩
  rw [← hN] at h3
  have HN := hid hN
  clear hN
  obtain ⟨_, z0, z1, z2, z3, z4, z5, z6⟩ := gtAt_row (g := ⟨0, 0, 0, false, false, false, 0⟩) A2
  have fz := frozen_row A2
  obtain ⟨_, n0, n1, n2, n3, n4, n5, n6⟩ := holds_at h3
  have hne : V2.heap.size ≠ w.heap.size + 1 + 1 := by omega
  go_wp2_with fail
  have A7 := seven A2 (.int .i64 N.cr) (.int .i64 N.nx) (.int .i64 N.hf) (.bool N.sh) (.bool N.wa) (.bool N.ag) (.int .i64 N.ct)
  have BV := BV.grown (grown7 V3 (w.heap.size + 1 + 1) (.int .i64 N.cr) (.int .i64 N.nx) (.int .i64 N.hf) (.bool N.sh) (.bool N.wa) (.bool N.ag) (.int .i64 N.ct)) (by have := g3.size; simp at this; omega) (fun k e => by cases e; omega)
  generalize ((((((V3.setCell ⟨w.heap.size + 1 + 1, 0, none⟩ (.int .i64 N.cr)).setCell ⟨w.heap.size + 1 + 1, 1, none⟩ (.int .i64 N.nx)).setCell ⟨w.heap.size + 1 + 1, 2, none⟩ (.int .i64 N.hf)).setCell ⟨w.heap.size + 1 + 1, 3, none⟩ (.bool N.sh)).setCell ⟨w.heap.size + 1 + 1, 4, none⟩ (.bool N.wa)).setCell ⟨w.heap.size + 1 + 1, 5, none⟩ (.bool N.ag)).setCell ⟨w.heap.size + 1 + 1, 6, none⟩ (.int .i64 N.ct) = V4 at *
  obtain ⟨_, m0, m1, m2, m3, m4, m5, m6⟩ := gtAt_row (g := N) A7
  refine bodyPost_ret (by simp only [results, Try.results7, go_sem]; simp [go_sem, m0, m1, m2, m3, m4, m5, m6]; rfl) rfl ?_
  have e := HN.out
  subst e
  exact ⟨rfl, BV⟩
end Go.Proofs.Ytkngoomkmbkenaa
/- frame.Sum: the walk. -/
namespace Go.Proofs.Ytkngoomkmbkenaa
set_option linter.unusedVariables false
open Go.RowKit

def crcStep (s : Nat) : Nat := if s &&& 32768 ≠ 0 then (s * 2 % 65536) ^^^ 4129 else s * 2 % 65536
def crcN : Nat → Nat → Nat
  | 0, s => s
  | n + 1, s => crcN n (crcStep s)
def crcByte (s x : Nat) : Nat := crcN 8 (s ^^^ x * 256)
def sumN (bs : List Nat) : Nat := bs.foldl crcByte 65535
theorem xor16 {a b : Nat} (ha : a < 65536) (hb : b < 65536) : a ^^^ b < 65536 := Nat.xor_lt_two_pow (n := 16) ha hb
theorem crcStep_lt (s : Nat) : crcStep s < 65536 := by
  unfold crcStep
  split
  · exact xor16 (by omega) (by decide)
  · omega
theorem crcN_lt (n s : Nat) (h : s < 65536) : crcN n s < 65536 := by
  induction n generalizing s with
  | zero => exact h
  | succ n ih => exact ih _ (crcStep_lt s)
theorem crcByte_lt (s x : Nat) (h : s < 65536) (hx : x < 256) : crcByte s x < 65536 := crcN_lt _ _ (xor16 h (by omega))
theorem sumN_lt (bs : List Nat) (h : AllB bs) : sumN bs < 65536 := by
  unfold sumN
  suffices key : ∀ (l : List Nat) (s : Nat), s < 65536 → AllB l → l.foldl crcByte s < 65536 from key bs _ (by decide) h
  intro l
  induction l with
  | nil => intro s hs _; exact hs
  | cons x l ih => intro s hs hl; exact ih _ (crcByte_lt s x hs (hl x List.mem_cons_self)) (fun y hy => hl y (List.mem_cons_of_mem _ hy))

theorem wraps_u16 (n : Int) (h₀ : 0 ≤ n) (h₁ : n < 2 ^ 16) : IntKind.u16.wrap n = n := by
  simp only [IntKind.wrap, IntKind.signed, IntKind.bits]
  simp; omega
theorem wrap_u16' (z : Int) : IntKind.u16.wrap z = z % 65536 := by simp [IntKind.wrap, IntKind.signed, IntKind.bits]
theorem u16_and_nat (a b : Nat) (ha : a < 2 ^ 16) (hb : b < 2 ^ 16) : bits .and .u16 (a : Int) (b : Int) = ((a &&& b : Nat) : Int) :=
  (bits_nat .u16 16 (by decide) wraps_u16 a b ha hb).1
theorem u16_xor_nat (a b : Nat) (ha : a < 2 ^ 16) (hb : b < 2 ^ 16) : bits .xor .u16 (a : Int) (b : Int) = ((a ^^^ b : Nat) : Int) := by
  have ha' : a % 2 ^ 16 = a := Nat.mod_eq_of_lt ha
  have hb' : b % 2 ^ 16 = b := Nat.mod_eq_of_lt hb
  show IntKind.u16.wrap ((BitVec.ofInt 16 (a : Int) ^^^ BitVec.ofInt 16 (b : Int)).toNat : Int) = _
  rw [BitVec.toNat_xor, BitVec.ofInt_natCast, BitVec.ofInt_natCast, BitVec.toNat_ofNat, BitVec.toNat_ofNat, ha', hb']
  have hx := Nat.xor_lt_two_pow ha hb
  exact wraps_u16 _ (Int.natCast_nonneg _) (by exact_mod_cast hx)

set_option maxRecDepth 100000 in
theorem sum_ok (a : Option Addr) (n c : Nat) (bs : List Nat) (hb : AllB bs) (hn : n ≤ 140737488355328) (w : World) (hr : Rd w a n c (vb bs)) :
    Calls Try.prog 21 #[.slice a n c] w fun e w' => ∃ s : Nat, e = .returned (.int .i64 (s : Int)) ∧ s < 65536 ∧ Hid (s = sumN bs) ∧ w = w' := by
  have hl : bs.length = n := by have := hr.len; rwa [vb_len] at this
  have Hl := hid hl
  clear hl
  go_enter Try.func21, Try.ntmps21
  go_wp2_with fail
  go_loop [3, 9] (fun s i => ∃ (k z : Nat), i = .int .i64 k ∧ k ≤ n ∧ s = .int .u16 z ∧ z < 65536 ∧ Hid (z = (bs.take k).foldl crcByte 65535)) (fun _ i => n - (intOf i).toNat)
  case atStart => exact ⟨0, 65535, rfl, Nat.zero_le _, rfl, by decide, rfl⟩
  case round =>
    obtain ⟨k, z, rfl, hk, rfl, hz, HZ⟩ := hrel
    by_cases hlt : k < n
    · have t1 : (k : Int) < (n : Int) := by omega
      obtain ⟨b, off, rfl, hbl, hcell⟩ := hr.cell k hlt
      have hx := nth_lt hb k
      have hstep : (bs.take (k + 1)).foldl crcByte 65535 = crcByte ((bs.take k).foldl crcByte 65535) (nth bs k) := by
        have hkl : k < bs.length := by rw [Hl.out]; exact hlt
        rw [List.take_add_one, List.foldl_append, nth_get hkl]; simp [hkl]
      rw [← HZ.out] at hstep
      have hstep := hid hstep
      generalize nth bs k = x at *
      have e1 : bits .xor .u16 (z : Int) ((x : Int) * 256) = ((z ^^^ x * 256 : Nat) : Int) := by
        have := u16_xor_nat z (x * 256) (by omega) (by omega)
        rwa [Int.natCast_mul] at this
      have hy : z ^^^ x * 256 < 65536 := xor16 hz (by omega)
      have hfin : Hid (crcN 8 (z ^^^ x * 256) = (bs.take (k + 1)).foldl crcByte 65535) := hstep.out.symm
      generalize z ^^^ x * 256 = y at *
      clear HZ
      go_wp2_with fail
      clear hstep
      generalize hF : (bs.take (k + 1)).foldl crcByte 65535 = F at *
      have HF := hid hF
      clear hF
      go_loop [3, 18] (fun s j => ∃ (m v : Nat), j = .int .i64 m ∧ m ≤ 8 ∧ s = .int .u16 v ∧ v < 65536 ∧ Hid (crcN (8 - m) v = F)) (fun _ j => 8 - (intOf j).toNat)
      case atStart => exact ⟨0, y, rfl, by decide, rfl, hy, hfin⟩
      case round =>
        clear hfin
        obtain ⟨m, v, rfl, hm, rfl, hv, HV⟩ := hrel
        by_cases hm8 : m < 8
        · have t2 : (m : Int) < 8 := by omega
          have e2 : bits .and .u16 (v : Int) 32768 = ((v &&& 32768 : Nat) : Int) := u16_and_nat v 32768 (by omega) (by decide)
          have hcs : Hid (crcN (8 - (m + 1)) (crcStep v) = F) := by
            have h := HV.out
            rw [show 8 - m = (8 - (m + 1)) + 1 by omega] at h
            exact h
          have e4 : IntKind.u16.wrap ((v : Int) * 2) = ((v * 2 % 65536 : Nat) : Int) := by rw [wrap_u16']; omega
          have hd : v * 2 % 65536 < 65536 := by omega
          by_cases hv0 : v &&& 32768 = 0
          · have hst : crcStep v = v * 2 % 65536 := by unfold crcStep; rw [if_neg (by simpa using hv0)]
            rw [hst] at hcs
            rw [hv0] at e2
            generalize v * 2 % 65536 = v2 at *
            go_wp2_with fail
            go_round
            case rel => exact ⟨m + 1, v2, by simp, by omega, rfl, hd, hcs⟩
            case measure => simp [intOf]; omega
          · have hst : crcStep v = (v * 2 % 65536) ^^^ 4129 := by unfold crcStep; rw [if_pos hv0]
            rw [hst] at hcs
            have t3 : (((v &&& 32768 : Nat) : Int) != 0) = true := by simp; exact hv0
            have e3 : bits .xor .u16 ((v * 2 % 65536 : Nat) : Int) 4129 = (((v * 2 % 65536) ^^^ 4129 : Nat) : Int) := u16_xor_nat (v * 2 % 65536) 4129 (by omega) (by decide)
            have hx3 := xor16 (a := v * 2 % 65536) (b := 4129) (by omega) (by decide)
            generalize v * 2 % 65536 = v3 at *
            generalize v3 ^^^ 4129 = v2 at *
            generalize v &&& 32768 = va at *
            go_wp2_with fail
            go_round
            case rel => exact ⟨m + 1, v2, by simp, by omega, rfl, hx3, hcs⟩
            case measure => simp [intOf]; omega
        · have hm9 : m = 8 := by omega
          subst hm9
          have hvF : v = F := HV.out
          go_wp2_with fail
          go_round
          case rel => exact ⟨k + 1, v, by simp, by omega, rfl, hv, hvF.trans HF.out.symm⟩
          case measure => simp [intOf]; omega
    · obtain rfl : k = n := by omega
      have hz2 := HZ.out
      rw [List.take_of_length_le (by rw [Hl.out]; exact Nat.le_refl _)] at hz2
      have hz3 : Hid (z = sumN bs) := hz2
      clear hz2 HZ
      go_wp2_with fail
      go_ret
      exact ⟨z, rfl, hz, hz3, rfl⟩
end Go.Proofs.Ytkngoomkmbkenaa
/- append of a row that reads (nil or not) onto an own row: one law for the walk. -/
namespace Go.Proofs.Ytkngoomkmbkenaa
set_option linter.unusedVariables false
open Go.RowKit

theorem own_slice {w : World} {base e size : Nat} {v : Value} {n : Nat} {xs : List Value} (h : w.ownsRow base e size v n xs) :
    ∃ ao cap, v = .slice ao n cap ∧ (v = .slice none 0 0 ↔ ao = none) ∧ ∀ k, v.ownBlock = some k → base ≤ k := by
  rcases h.2 with ⟨rfl, rfl⟩ | ⟨g, cap, cur, rfl, hb, _⟩
  · exact ⟨none, 0, rfl, by simp, fun k h => by simp [Value.ownBlock] at h⟩
  · exact ⟨_, cap, rfl, by simp, fun k h => by simp [Value.ownBlock] at h; omega⟩

theorem wpList_append_rd {P : Program} {w : World} {ops : Array Oper} {rest : List Oper} {o : Oper} {a : Act} {Q : Exit → Act → World → Prop} (hgd : o.guard = none) (s x : Operand) (t : TypeId)
    (ho : o.op = .call { callee := .builtin .append, args := #[s, x], argTypes := #[t, t] })
    (base : Nat) (e : TypeId) (i : TypeInfo) (z : Value) (bytes : Nat) (ht : P.underlying t = some (.slice e)) (hi : P.info? e = some i) (hz : i.zero = some z) (hsize : i.size = 1) (hby : i.bytes = bytes) (hzs : z.cells.size = 1)
    (ao : Option Addr) (n cap : Nat) (xs : List Value) (hs : a.eval s = .slice ao n cap) (hown : w.ownsRow base e 1 (.slice ao n cap) n xs)
    (bo : Option Addr) (m c : Nat) (ys : List Value) (hx : a.eval x = .slice bo m c) (hrd : Rd w bo m c ys) (h1 : ∀ u ∈ ys, u.oneCell' = true)
    (hbytes : (n + m) * bytes ≤ 140737488355328) (h63 : n + m ≤ maxLen) (hbase : base ≤ w.heap.size)
    (h : ∀ ao' cap' w', w'.ownsRow base e 1 (.slice ao' (n + m) cap') (n + m) (xs ++ ys) → w.grownBy w' (Value.slice ao n cap).ownBlock → Below base w w' → wpList P ops Q rest (a.put o.dst (.slice ao' (n + m) cap')) w') : wpList P ops Q (o :: rest) a w := by
  cases bo with
  | none =>
    obtain rfl := hrd.isnil rfl
    obtain rfl : m = 0 := by have := hrd.le; omega
    obtain rfl : ys = [] := List.eq_nil_of_length_eq_zero hrd.len
    refine wpList_append_own_none hgd s x t ho base e i 1 ht hi _ n xs hs hown hx ?_
    refine h _ _ _ (by simpa using hown) ⟨rfl, rfl, rfl, Nat.le_refl _, fun _ _ _ => rfl⟩ (Below.refl _ _)
  | some ad =>
    refine wpList_append_own w hgd s x t ho base e i z 1 bytes ht hi hz hsize hby hzs (by decide) _ n xs hs hown ad m c ys hx (by rw [hrd.len]; omega) ?_ h1 h63 hbytes hbase ?_
    · intro j u hj
      have hjn : j < m := by have h1 := (List.getElem?_eq_some_iff.1 hj).1; have h2 := hrd.len; omega
      obtain ⟨b', off', ha, _, hc⟩ := hrd.mem (by omega)
      cases ha
      rw [Addr.add_lit, hc j hjn]
      exact hj
    · intro v' w' ho' hg hnil
      obtain ⟨ao', cap', rfl, _, _⟩ := own_slice ho'
      obtain ⟨_, _, _, _, hown2⟩ := own_slice hown
      exact h _ _ _ ho' hg ((Below.refl base w).grown hg hbase hown2)

theorem wpList_append_rd_wide {P : Program} {w : World} {ops : Array Oper} {rest : List Oper} {o : Oper} {a : Act} {Q : Exit → Act → World → Prop} (hgd : o.guard = none) (s x : Operand) (t : TypeId)
    (ho : o.op = .call { callee := .builtin .append, args := #[s, x], argTypes := #[t, t] })
    (base : Nat) (e : TypeId) (i : TypeInfo) (z : Value) (bytes : Nat) (ht : P.underlying t = some (.slice e)) (hi : P.info? e = some i) (hz : i.zero = some z) (hsize : i.size = 1) (hby : i.bytes = bytes) (hzs : z.cells.size = 1)
    (ao : Option Addr) (n cap : Nat) (xs : List Value) (hs : a.eval s = .slice ao n cap) (hown : w.ownsRow base e 1 (.slice ao n cap) n xs)
    (bo : Option Addr) (m c : Nat) (ys : List Value) (hx : a.eval x = .slice bo m c) (hrd : Rd w bo m c ys) (h1 : ∀ u ∈ ys, u.oneCell' = true)
    (hbytes : ((n + m) + (n + m) / 4 + 192) * bytes ≤ 281474976710656) (h63 : n + m ≤ maxLen) (hbase : base ≤ w.heap.size)
    (h : ∀ ao' cap' w', w'.ownsRow base e 1 (.slice ao' (n + m) cap') (n + m) (xs ++ ys) → w.grownBy w' (Value.slice ao n cap).ownBlock → Below base w w' → wpList P ops Q rest (a.put o.dst (.slice ao' (n + m) cap')) w') : wpList P ops Q (o :: rest) a w := by
  cases bo with
  | none =>
    obtain rfl := hrd.isnil rfl
    obtain rfl : m = 0 := by have := hrd.le; omega
    obtain rfl : ys = [] := List.eq_nil_of_length_eq_zero hrd.len
    refine wpList_append_own_none hgd s x t ho base e i 1 ht hi _ n xs hs hown hx ?_
    refine h _ _ _ (by simpa using hown) ⟨rfl, rfl, rfl, Nat.le_refl _, fun _ _ _ => rfl⟩ (Below.refl _ _)
  | some ad =>
    refine wpList_append_own_wide w hgd s x t ho base e i z 1 bytes ht hi hz hsize hby hzs (by decide) _ n xs hs hown ad m c ys hx (by rw [hrd.len]; omega) ?_ h1 h63 hbytes hbase ?_
    · intro j u hj
      have hjn : j < m := by have h1 := (List.getElem?_eq_some_iff.1 hj).1; have h2 := hrd.len; omega
      obtain ⟨b', off', ha, _, hc⟩ := hrd.mem (by omega)
      cases ha
      rw [Addr.add_lit, hc j hjn]
      exact hj
    · intro v' w' ho' hg hnil
      obtain ⟨ao', cap', rfl, _, _⟩ := own_slice ho'
      obtain ⟨_, _, _, _, hown2⟩ := own_slice hown
      exact h _ _ _ ho' hg ((Below.refl base w).grown hg hbase hown2)
end Go.Proofs.Ytkngoomkmbkenaa
