/- Accept: the walk. -/
import Derived.Test.YtkngoomkmbkenaaGateOps
namespace Go.Proofs.Ytkngoomkmbkenaa
set_option linter.unusedVariables false
open Go.RowKit

/-- an order's cells -/
def ocells (cr : Int) (by_ co : Bool) (sq : Int) (a : Option Addr) (n c : Nat) : Array Value := #[.int .i64 cr, .bool by_, .bool co, .int .i64 sq, .slice a n c]

theorem frozen_row {W : World} {b : Nat} {cs : Array Value} {e : TypeId} (h : W.heap[b]? = some (.cells cs e)) (i : Nat) : W.frozen? ⟨b, i, none⟩ = false := by simp [World.frozen?, show W.heap[b]? = _ from h]
theorem row_below {W W' : World} {b : Nat} {o : Obj} (h : W.heap[b]? = some o) (hb : Below W.heap.size W W') : W'.heap[b]? = some o := (hb.block b (Array.getElem?_eq_some_iff.1 h).1).trans h
theorem row_grown {W W' : World} {b k : Nat} {o : Obj} (h : W.heap[b]? = some o) (hg : W.grownBy W' (some k)) (hne : b ≠ k) : W'.heap[b]? = some o := (hg.block b (Array.getElem?_eq_some_iff.1 h).1 (fun e => hne (by cases e; rfl))).trans h

structure OAt (W : World) (b : Nat) (cr : Int) (by_ co : Bool) (sq : Int) (a : Option Addr) (n c : Nat) : Prop where
  c0 : W.cell? ⟨b, 0, none⟩ = some (.int .i64 cr)
  c1 : W.cell? ⟨b, 1, none⟩ = some (.bool by_)
  c2 : W.cell? ⟨b, 2, none⟩ = some (.bool co)
  c3 : W.cell? ⟨b, 3, none⟩ = some (.int .i64 sq)
  c4 : W.cell? ⟨b, 4, none⟩ = some (.slice a n c)
theorem oAt_row {W : World} {b : Nat} {cr : Int} {by_ co : Bool} {sq : Int} {a : Option Addr} {n c : Nat} {e : TypeId} (A : W.heap[b]? = some (.cells #[.int .i64 cr, .bool by_, .bool co, .int .i64 sq, .slice a n c] e)) : OAt W b cr by_ co sq a n c :=
  ⟨by rw [cell_of_row _ _ _ _ _ _ A]; rfl, by rw [cell_of_row _ _ _ _ _ _ A]; rfl, by rw [cell_of_row _ _ _ _ _ _ A]; rfl, by rw [cell_of_row _ _ _ _ _ _ A]; rfl, by rw [cell_of_row _ _ _ _ _ _ A]; rfl⟩

/-- seven cells are written over, one by one -/
theorem seven {W : World} {b : Nat} {e : TypeId} {o0 o1 o2 o3 o4 o5 o6 : Value} (A : W.heap[b]? = some (.cells #[o0, o1, o2, o3, o4, o5, o6] e)) (v0 v1 v2 v3 v4 v5 v6 : Value) :
    (((((((W.setCell ⟨b, 0, none⟩ v0).setCell ⟨b, 1, none⟩ v1).setCell ⟨b, 2, none⟩ v2).setCell ⟨b, 3, none⟩ v3).setCell ⟨b, 4, none⟩ v4).setCell ⟨b, 5, none⟩ v5).setCell ⟨b, 6, none⟩ v6).heap[b]? = some (.cells #[v0, v1, v2, v3, v4, v5, v6] e) := by
  have h0 : (W.setCell ⟨b, 0, none⟩ v0).heap[b]? = some (.cells #[v0, o1, o2, o3, o4, o5, o6] e) := heap_setCell_same W b 0 _ e v0 A
  have h1 : ((W.setCell ⟨b, 0, none⟩ v0).setCell ⟨b, 1, none⟩ v1).heap[b]? = some (.cells #[v0, v1, o2, o3, o4, o5, o6] e) := heap_setCell_same (W.setCell ⟨b, 0, none⟩ v0) b 1 _ e v1 h0
  have h2 : (((W.setCell ⟨b, 0, none⟩ v0).setCell ⟨b, 1, none⟩ v1).setCell ⟨b, 2, none⟩ v2).heap[b]? = some (.cells #[v0, v1, v2, o3, o4, o5, o6] e) := heap_setCell_same ((W.setCell ⟨b, 0, none⟩ v0).setCell ⟨b, 1, none⟩ v1) b 2 _ e v2 h1
  have h3 : ((((W.setCell ⟨b, 0, none⟩ v0).setCell ⟨b, 1, none⟩ v1).setCell ⟨b, 2, none⟩ v2).setCell ⟨b, 3, none⟩ v3).heap[b]? = some (.cells #[v0, v1, v2, v3, o4, o5, o6] e) := heap_setCell_same (((W.setCell ⟨b, 0, none⟩ v0).setCell ⟨b, 1, none⟩ v1).setCell ⟨b, 2, none⟩ v2) b 3 _ e v3 h2
  have h4 : (((((W.setCell ⟨b, 0, none⟩ v0).setCell ⟨b, 1, none⟩ v1).setCell ⟨b, 2, none⟩ v2).setCell ⟨b, 3, none⟩ v3).setCell ⟨b, 4, none⟩ v4).heap[b]? = some (.cells #[v0, v1, v2, v3, v4, o5, o6] e) := heap_setCell_same ((((W.setCell ⟨b, 0, none⟩ v0).setCell ⟨b, 1, none⟩ v1).setCell ⟨b, 2, none⟩ v2).setCell ⟨b, 3, none⟩ v3) b 4 _ e v4 h3
  have h5 : ((((((W.setCell ⟨b, 0, none⟩ v0).setCell ⟨b, 1, none⟩ v1).setCell ⟨b, 2, none⟩ v2).setCell ⟨b, 3, none⟩ v3).setCell ⟨b, 4, none⟩ v4).setCell ⟨b, 5, none⟩ v5).heap[b]? = some (.cells #[v0, v1, v2, v3, v4, v5, o6] e) := heap_setCell_same (((((W.setCell ⟨b, 0, none⟩ v0).setCell ⟨b, 1, none⟩ v1).setCell ⟨b, 2, none⟩ v2).setCell ⟨b, 3, none⟩ v3).setCell ⟨b, 4, none⟩ v4) b 5 _ e v5 h4
  have h6 : (((((((W.setCell ⟨b, 0, none⟩ v0).setCell ⟨b, 1, none⟩ v1).setCell ⟨b, 2, none⟩ v2).setCell ⟨b, 3, none⟩ v3).setCell ⟨b, 4, none⟩ v4).setCell ⟨b, 5, none⟩ v5).setCell ⟨b, 6, none⟩ v6).heap[b]? = some (.cells #[v0, v1, v2, v3, v4, v5, v6] e) := heap_setCell_same ((((((W.setCell ⟨b, 0, none⟩ v0).setCell ⟨b, 1, none⟩ v1).setCell ⟨b, 2, none⟩ v2).setCell ⟨b, 3, none⟩ v3).setCell ⟨b, 4, none⟩ v4).setCell ⟨b, 5, none⟩ v5) b 6 _ e v6 h5
  exact h6
theorem grown1 (W : World) (b i : Nat) (v : Value) : W.grownBy (W.setCell ⟨b, i, none⟩ v) (some b) :=
  ⟨rfl, rfl, rfl, by simp, fun k hk hne => heap_setCell_other W ⟨b, i, none⟩ k v (fun e => hne (by rw [e]))⟩
theorem grown7 (W : World) (b : Nat) (v0 v1 v2 v3 v4 v5 v6 : Value) :
    W.grownBy (((((((W.setCell ⟨b, 0, none⟩ v0).setCell ⟨b, 1, none⟩ v1).setCell ⟨b, 2, none⟩ v2).setCell ⟨b, 3, none⟩ v3).setCell ⟨b, 4, none⟩ v4).setCell ⟨b, 5, none⟩ v5).setCell ⟨b, 6, none⟩ v6) (some b) := by
  have h0 := grown1 W b 0 v0
  have h1 := grownBy_trans h0 (grown1 _ b 1 v1)
  have h2 := grownBy_trans h1 (grown1 _ b 2 v2)
  have h3 := grownBy_trans h2 (grown1 _ b 3 v3)
  have h4 := grownBy_trans h3 (grown1 _ b 4 v4)
  have h5 := grownBy_trans h4 (grown1 _ b 5 v5)
  exact grownBy_trans h5 (grown1 _ b 6 v6)

set_option maxHeartbeats 4000000 in
theorem accept_num (g : Gt) (hg : g.ok) (sq : Int) (hs : 0 ≤ sq ∧ sq ≤ 255) (a : Option Addr) (n c : Nat) (hn : 1 ≤ n ∧ n ≤ 1017) (room : Bool) (w : World) :
    Calls Try.prog 7 #[.agg g.cells, .agg (ocells g.cr false false sq a n c), .bool room] w fun e w' => e = .returned (.tuple #[.agg (numG g sq room).1.cells, .bool (numG g sq room).2.1, .int .i64 (numG g sq room).2.2]) ∧ Below w.heap.size w w' := by
  have hg' := hg
  obtain ⟨k1, k2, k3, k4⟩ := hg'
  have A0 := heap_alloc_new w (.cells g.cells 25)
  have B0 := below_alloc w (.cells g.cells 25)
  have A1 := heap_alloc_new (w.alloc (.cells g.cells 25)) (.cells (ocells g.cr false false sq a n c) 33)
  have B1 := below_alloc (w.alloc (.cells g.cells 25)) (.cells (ocells g.cr false false sq a n c) 33)
  have A2 := heap_alloc_new ((w.alloc (.cells g.cells 25)).alloc (.cells (ocells g.cr false false sq a n c) 33)) (.cells (Gt.cells ⟨0, 0, 0, false, false, false, 0⟩) 25)
  have B2 := below_alloc ((w.alloc (.cells g.cells 25)).alloc (.cells (ocells g.cr false false sq a n c) 33)) (.cells (Gt.cells ⟨0, 0, 0, false, false, false, 0⟩) 25)
  have A0 := row_below (row_below A0 B1) B2
  have A1 := row_below A1 B2
  have BW := B0.trans ((B1.trans (B2.mono B1.size)).mono B0.size)
  simp only [World.size_alloc] at A1 A2
  clear B0 B1 B2
  go_enter Try.func7, Try.ntmps7
  unfold Gt.cells ocells at *
  simp only at *
  go_wp2_with fail
  generalize ((w.alloc (.cells #[.int .i64 g.cr, .int .i64 g.nx, .int .i64 g.hf, .bool g.sh, .bool g.wa, .bool g.ag, .int .i64 g.ct] 25)).alloc (.cells #[.int .i64 g.cr, .bool false, .bool false, .int .i64 sq, .slice a n c] 33)).alloc (.cells #[.int .i64 0, .int .i64 0, .int .i64 0, .bool false, .bool false, .bool false, .int .i64 0] 25) = W at *
  refine (stands_ok g hg W).mono ?_
  rintro e V1 ⟨rfl, b1⟩
  have A0 := row_below A0 b1
  have A1 := row_below A1 b1
  have A2 := row_below A2 b1
  have BV := BW.trans (b1.mono BW.size)
  clear b1 BW
  obtain ⟨c0, c1, c2, c3, c4⟩ := oAt_row A1
  go_wp2_with fail
  refine (may_ok g.cr false false sq a n c V1 k1 hs (by simp) hn).mono ?_
  rintro e V2 ⟨rfl, b2⟩
  clear c0 c1 c2 c3 c4
  have A0 := row_below A0 b2
  have A1 := row_below A1 b2
  have A2 := row_below A2 b2
  have BV := BV.trans (b2.mono BV.size)
  clear b2
  obtain ⟨c0, c1, c2, c3, c4⟩ := oAt_row A1
  obtain ⟨_, d0, d1, d2, d3, d4, d5, d6⟩ := gtAt_row (g := g) A0
  have bG := below_alloc V2 (.cells g.cells 56)
  have hH : Holds (V2.alloc (.cells g.cells 56)) V2.heap.size g := heap_alloc_new V2 (.cells g.cells 56)
  have A0 := row_below A0 bG
  have A1 := row_below A1 bG
  have A2 := row_below A2 bG
  have BV := BV.trans (bG.mono BV.size)
  have hlt : w.heap.size + 1 + 1 < V2.heap.size := by
    have h1 := (Array.getElem?_eq_some_iff.1 ‹V2.heap[w.heap.size + 1 + 1]? = _›).1
    exact h1
  unfold Gt.cells at *
  obtain ⟨e0, e1, e2, e3, e4⟩ := oAt_row A1
  go_wp2_with fail
  refine (numbered_ok V2.heap.size g sq room _ hH hg hs).mono ?_
  rintro e V3 ⟨rfl, h3, g3⟩
  have A2 := row_grown A2 g3 (by omega)
  have BV := BV.grown g3 (by have := BV.size; omega) (fun k e => by cases e; omega)
  clear A0 A1 hH bG c0 c1 c2 c3 c4 d0 d1 d2 d3 d4 d5 d6 e0 e1 e2 e3 e4
  generalize hN : numG g sq room = M at *
  obtain ⟨N, le, er⟩ := M
  have HN := hid hN
  clear hN
  simp only at *
  obtain ⟨_, z0, z1, z2, z3, z4, z5, z6⟩ := gtAt_row (g := ⟨0, 0, 0, false, false, false, 0⟩) A2
  have fz := frozen_row A2
  obtain ⟨_, n0, n1, n2, n3, n4, n5, n6⟩ := holds_at h3
  have hne : V2.heap.size ≠ w.heap.size + 1 + 1 := by omega
  go_wp2_with fail
  have A7 := seven A2 (.int .i64 N.cr) (.int .i64 N.nx) (.int .i64 N.hf) (.bool N.sh) (.bool N.wa) (.bool N.ag) (.int .i64 N.ct)
  have BV := BV.grown (grown7 V3 (w.heap.size + 1 + 1) (.int .i64 N.cr) (.int .i64 N.nx) (.int .i64 N.hf) (.bool N.sh) (.bool N.wa) (.bool N.ag) (.int .i64 N.ct)) (by have := g3.size; simp at this; omega) (fun k e => by cases e; omega)
  generalize ((((((V3.setCell ⟨w.heap.size + 1 + 1, 0, none⟩ (.int .i64 N.cr)).setCell ⟨w.heap.size + 1 + 1, 1, none⟩ (.int .i64 N.nx)).setCell ⟨w.heap.size + 1 + 1, 2, none⟩ (.int .i64 N.hf)).setCell ⟨w.heap.size + 1 + 1, 3, none⟩ (.bool N.sh)).setCell ⟨w.heap.size + 1 + 1, 4, none⟩ (.bool N.wa)).setCell ⟨w.heap.size + 1 + 1, 5, none⟩ (.bool N.ag)).setCell ⟨w.heap.size + 1 + 1, 6, none⟩ (.int .i64 N.ct) = V4 at *
  obtain ⟨_, m0, m1, m2, m3, m4, m5, m6⟩ := gtAt_row (g := N) A7
  refine bodyPost_ret (by simp only [results, Try.results7, go_sem]; simp [go_sem, m0, m1, m2, m3, m4, m5, m6]; rfl) rfl ?_
  rw [HN.out]
  exact ⟨rfl, BV⟩

set_option maxHeartbeats 4000000 in
theorem accept_by (g : Gt) (hg : g.ok) (sq : Int) (hs : 0 ≤ sq ∧ sq ≤ 255) (a : Option Addr) (n c : Nat) (hn : 1 ≤ n ∧ n ≤ 1017) (room : Bool) (w : World) :
    Calls Try.prog 7 #[.agg g.cells, .agg (ocells g.cr true false sq a n c), .bool room] w fun e w' => e = .returned (.tuple #[.agg (Gt.cells { g with ct := (g.ct + 1) % 4 }), .bool true, .int .i64 0]) ∧ Below w.heap.size w w' := by
  have hg' := hg
  obtain ⟨k1, k2, k3, k4⟩ := hg'
  have A0 := heap_alloc_new w (.cells g.cells 25)
  have B0 := below_alloc w (.cells g.cells 25)
  have A1 := heap_alloc_new (w.alloc (.cells g.cells 25)) (.cells (ocells g.cr true false sq a n c) 33)
  have B1 := below_alloc (w.alloc (.cells g.cells 25)) (.cells (ocells g.cr true false sq a n c) 33)
  have A2 := heap_alloc_new ((w.alloc (.cells g.cells 25)).alloc (.cells (ocells g.cr true false sq a n c) 33)) (.cells (Gt.cells ⟨0, 0, 0, false, false, false, 0⟩) 25)
  have B2 := below_alloc ((w.alloc (.cells g.cells 25)).alloc (.cells (ocells g.cr true false sq a n c) 33)) (.cells (Gt.cells ⟨0, 0, 0, false, false, false, 0⟩) 25)
  have A0 := row_below (row_below A0 B1) B2
  have A1 := row_below A1 B2
  have BW := B0.trans ((B1.trans (B2.mono B1.size)).mono B0.size)
  simp only [World.size_alloc] at A1 A2
  clear B0 B1 B2
  go_enter Try.func7, Try.ntmps7
  unfold Gt.cells ocells at *
  simp only at *
  go_wp2_with fail
  generalize ((w.alloc (.cells #[.int .i64 g.cr, .int .i64 g.nx, .int .i64 g.hf, .bool g.sh, .bool g.wa, .bool g.ag, .int .i64 g.ct] 25)).alloc (.cells #[.int .i64 g.cr, .bool true, .bool false, .int .i64 sq, .slice a n c] 33)).alloc (.cells #[.int .i64 0, .int .i64 0, .int .i64 0, .bool false, .bool false, .bool false, .int .i64 0] 25) = W at *
  refine (stands_ok g hg W).mono ?_
  rintro e V1 ⟨rfl, b1⟩
  have A0 := row_below A0 b1
  have A1 := row_below A1 b1
  have A2 := row_below A2 b1
  have BV := BW.trans (b1.mono BW.size)
  clear b1 BW
  obtain ⟨c0, c1, c2, c3, c4⟩ := oAt_row A1
  go_wp2_with fail
  refine (may_ok g.cr true false sq a n c V1 k1 hs (by simp) hn).mono ?_
  rintro e V2 ⟨rfl, b2⟩
  clear c0 c1 c2 c3 c4
  have A0 := row_below A0 b2
  have A1 := row_below A1 b2
  have A2 := row_below A2 b2
  have BV := BV.trans (b2.mono BV.size)
  clear b2
  obtain ⟨c0, c1, c2, c3, c4⟩ := oAt_row A1
  obtain ⟨_, d0, d1, d2, d3, d4, d5, d6⟩ := gtAt_row (g := g) A0
  have bG := below_alloc V2 (.cells g.cells 56)
  have hH : Holds (V2.alloc (.cells g.cells 56)) V2.heap.size g := heap_alloc_new V2 (.cells g.cells 56)
  have A0 := row_below A0 bG
  have A1 := row_below A1 bG
  have A2 := row_below A2 bG
  have BV := BV.trans (bG.mono BV.size)
  have hlt : w.heap.size + 1 + 1 < V2.heap.size := by
    have h1 := (Array.getElem?_eq_some_iff.1 ‹V2.heap[w.heap.size + 1 + 1]? = _›).1
    exact h1
  unfold Gt.cells at *
  obtain ⟨e0, e1, e2, e3, e4⟩ := oAt_row A1
  go_wp2_with fail
  refine (counted_ok V2.heap.size g _ hH).mono ?_
  rintro e V3 ⟨rfl, h3, g3⟩
  have A2 := row_grown A2 g3 (by omega)
  have BV := BV.grown g3 (by have := BV.size; omega) (fun k e => by cases e; omega)
  clear A0 A1 hH bG c0 c1 c2 c3 c4 d0 d1 d2 d3 d4 d5 d6 e0 e1 e2 e3 e4
  obtain ⟨N, hN⟩ : ∃ N : Gt, N = { g with ct := (g.ct + 1) % 4 } := ⟨_, rfl⟩
  rw [← hN] at h3
  have HN := hid hN
  clear hN
  obtain ⟨_, z0, z1, z2, z3, z4, z5, z6⟩ := gtAt_row (g := ⟨0, 0, 0, false, false, false, 0⟩) A2
  have fz := frozen_row A2
  obtain ⟨_, n0, n1, n2, n3, n4, n5, n6⟩ := holds_at h3
  have hne : V2.heap.size ≠ w.heap.size + 1 + 1 := by omega
  go_wp2_with fail
  have A7 := seven A2 (.int .i64 N.cr) (.int .i64 N.nx) (.int .i64 N.hf) (.bool N.sh) (.bool N.wa) (.bool N.ag) (.int .i64 N.ct)
  have BV := BV.grown (grown7 V3 (w.heap.size + 1 + 1) (.int .i64 N.cr) (.int .i64 N.nx) (.int .i64 N.hf) (.bool N.sh) (.bool N.wa) (.bool N.ag) (.int .i64 N.ct)) (by have := g3.size; simp at this; omega) (fun k e => by cases e; omega)
  generalize ((((((V3.setCell ⟨w.heap.size + 1 + 1, 0, none⟩ (.int .i64 N.cr)).setCell ⟨w.heap.size + 1 + 1, 1, none⟩ (.int .i64 N.nx)).setCell ⟨w.heap.size + 1 + 1, 2, none⟩ (.int .i64 N.hf)).setCell ⟨w.heap.size + 1 + 1, 3, none⟩ (.bool N.sh)).setCell ⟨w.heap.size + 1 + 1, 4, none⟩ (.bool N.wa)).setCell ⟨w.heap.size + 1 + 1, 5, none⟩ (.bool N.ag)).setCell ⟨w.heap.size + 1 + 1, 6, none⟩ (.int .i64 N.ct) = V4 at *
  obtain ⟨_, m0, m1, m2, m3, m4, m5, m6⟩ := gtAt_row (g := N) A7
  refine bodyPost_ret (by simp only [results, Try.results7, go_sem]; simp [go_sem, m0, m1, m2, m3, m4, m5, m6]; rfl) rfl ?_
  have e := HN.out
  subst e
  exact ⟨rfl, BV⟩

set_option maxHeartbeats 4000000 in
theorem accept_free (g : Gt) (hg : g.ok) (sq : Int) (hs : 0 ≤ sq ∧ sq ≤ 255) (a : Option Addr) (c : Nat) (room : Bool) (w : World) (hr : Rd w a 1 c (vb [0])) :
    Calls Try.prog 7 #[.agg g.cells, .agg (ocells g.cr true true sq a 1 c), .bool room] w fun e w' => e = .returned (.tuple #[.agg (Gt.cells { g with sh := false, wa := false, ag := false, ct := (g.ct + 1) % 4 }), .bool false, .int .i64 0]) ∧ Below w.heap.size w w' := by
  have hg' := hg
  obtain ⟨k1, k2, k3, k4⟩ := hg'
  have A0 := heap_alloc_new w (.cells g.cells 25)
  have B0 := below_alloc w (.cells g.cells 25)
  have A1 := heap_alloc_new (w.alloc (.cells g.cells 25)) (.cells (ocells g.cr true true sq a 1 c) 33)
  have B1 := below_alloc (w.alloc (.cells g.cells 25)) (.cells (ocells g.cr true true sq a 1 c) 33)
  have A2 := heap_alloc_new ((w.alloc (.cells g.cells 25)).alloc (.cells (ocells g.cr true true sq a 1 c) 33)) (.cells (Gt.cells ⟨0, 0, 0, false, false, false, 0⟩) 25)
  have B2 := below_alloc ((w.alloc (.cells g.cells 25)).alloc (.cells (ocells g.cr true true sq a 1 c) 33)) (.cells (Gt.cells ⟨0, 0, 0, false, false, false, 0⟩) 25)
  have A0 := row_below (row_below A0 B1) B2
  have A1 := row_below A1 B2
  have BW := B0.trans ((B1.trans (B2.mono B1.size)).mono B0.size)
  simp only [World.size_alloc] at A1 A2
  clear B0 B1 B2
  go_enter Try.func7, Try.ntmps7
  unfold Gt.cells ocells at *
  simp only at *
  go_wp2_with fail
  generalize ((w.alloc (.cells #[.int .i64 g.cr, .int .i64 g.nx, .int .i64 g.hf, .bool g.sh, .bool g.wa, .bool g.ag, .int .i64 g.ct] 25)).alloc (.cells #[.int .i64 g.cr, .bool true, .bool true, .int .i64 sq, .slice a 1 c] 33)).alloc (.cells #[.int .i64 0, .int .i64 0, .int .i64 0, .bool false, .bool false, .bool false, .int .i64 0] 25) = W at *
  refine (stands_ok g hg W).mono ?_
  rintro e V1 ⟨rfl, b1⟩
  have A0 := row_below A0 b1
  have A1 := row_below A1 b1
  have A2 := row_below A2 b1
  have BV := BW.trans (b1.mono BW.size)
  clear b1 BW
  obtain ⟨c0, c1, c2, c3, c4⟩ := oAt_row A1
  go_wp2_with fail
  refine (may_ok g.cr true true sq a 1 c V1 k1 hs (by simp) (by decide)).mono ?_
  rintro e V2 ⟨rfl, b2⟩
  clear c0 c1 c2 c3 c4
  have A0 := row_below A0 b2
  have A1 := row_below A1 b2
  have A2 := row_below A2 b2
  have BV := BV.trans (b2.mono BV.size)
  clear b2
  obtain ⟨c0, c1, c2, c3, c4⟩ := oAt_row A1
  obtain ⟨_, d0, d1, d2, d3, d4, d5, d6⟩ := gtAt_row (g := g) A0
  have bG := below_alloc V2 (.cells g.cells 56)
  have hH : Holds (V2.alloc (.cells g.cells 56)) V2.heap.size g := heap_alloc_new V2 (.cells g.cells 56)
  have A0 := row_below A0 bG
  have A1 := row_below A1 bG
  have A2 := row_below A2 bG
  have BV := BV.trans (bG.mono BV.size)
  have hlt : w.heap.size + 1 + 1 < V2.heap.size := by
    have h1 := (Array.getElem?_eq_some_iff.1 ‹V2.heap[w.heap.size + 1 + 1]? = _›).1
    exact h1
  unfold Gt.cells at *
  obtain ⟨e0, e1, e2, e3, e4⟩ := oAt_row A1
  go_wp2_with fail
  refine (order_free V2.heap.size g a c _ hH (hr.below BV)).mono ?_
  rintro e V3 ⟨rfl, h3, g3⟩
  have A2 := row_grown A2 g3 (by omega)
  have BV := BV.grown g3 (by have := BV.size; omega) (fun k e => by cases e; omega)
  clear A0 A1 hH bG c0 c1 c2 c3 c4 d0 d1 d2 d3 d4 d5 d6 e0 e1 e2 e3 e4
  obtain ⟨N, hN⟩ : ∃ N : Gt, N = { g with sh := false, wa := false, ag := false, ct := (g.ct + 1) % 4 } := ⟨_, rfl⟩
  rw [← hN] at h3
  have HN := hid hN
  clear hN
  obtain ⟨_, z0, z1, z2, z3, z4, z5, z6⟩ := gtAt_row (g := ⟨0, 0, 0, false, false, false, 0⟩) A2
  have fz := frozen_row A2
  obtain ⟨_, n0, n1, n2, n3, n4, n5, n6⟩ := holds_at h3
  have hne : V2.heap.size ≠ w.heap.size + 1 + 1 := by omega
  go_wp2_with fail
  have A7 := seven A2 (.int .i64 N.cr) (.int .i64 N.nx) (.int .i64 N.hf) (.bool N.sh) (.bool N.wa) (.bool N.ag) (.int .i64 N.ct)
  have BV := BV.grown (grown7 V3 (w.heap.size + 1 + 1) (.int .i64 N.cr) (.int .i64 N.nx) (.int .i64 N.hf) (.bool N.sh) (.bool N.wa) (.bool N.ag) (.int .i64 N.ct)) (by have := g3.size; simp at this; omega) (fun k e => by cases e; omega)
  generalize ((((((V3.setCell ⟨w.heap.size + 1 + 1, 0, none⟩ (.int .i64 N.cr)).setCell ⟨w.heap.size + 1 + 1, 1, none⟩ (.int .i64 N.nx)).setCell ⟨w.heap.size + 1 + 1, 2, none⟩ (.int .i64 N.hf)).setCell ⟨w.heap.size + 1 + 1, 3, none⟩ (.bool N.sh)).setCell ⟨w.heap.size + 1 + 1, 4, none⟩ (.bool N.wa)).setCell ⟨w.heap.size + 1 + 1, 5, none⟩ (.bool N.ag)).setCell ⟨w.heap.size + 1 + 1, 6, none⟩ (.int .i64 N.ct) = V4 at *
  obtain ⟨_, m0, m1, m2, m3, m4, m5, m6⟩ := gtAt_row (g := N) A7
  refine bodyPost_ret (by simp only [results, Try.results7, go_sem]; simp [go_sem, m0, m1, m2, m3, m4, m5, m6]; rfl) rfl ?_
  have e := HN.out
  subst e
  exact ⟨rfl, BV⟩
end Go.Proofs.Ytkngoomkmbkenaa
