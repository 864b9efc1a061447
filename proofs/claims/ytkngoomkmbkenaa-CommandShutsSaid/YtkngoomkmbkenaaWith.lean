/- with, at the hand that is freed: the walk. -/
import Derived.Test.YtkngoomkmbkenaaSend
namespace Go.Proofs.Ytkngoomkmbkenaa
set_option linter.unusedVariables false
open Go.RowKit

/-- nothing below B turns; the hand's own row stays as it is -/
def Keeps (B H : Nat) (u u' : World) : Prop := Below B u u' ∧ (u.heap[H]? = some (.cells h0c 36) → u'.heap[H]? = some (.cells h0c 36))
theorem Keeps.refl (B H : Nat) (u : World) : Keeps B H u u := ⟨Below.refl _ _, id⟩
theorem Keeps.trans (B H : Nat) (a b c : World) (h : Keeps B H a b) (k : Keeps B H b c) : Keeps B H a c := ⟨h.1.trans k.1, fun x => k.2 (h.2 x)⟩

theorem keeps_store {B H : Nat} (u : World) (i : Nat) (v : Value) (hi : h0c.setIfInBounds i v = h0c) (hH : B ≤ H) : Keeps B H u (u.setCell ⟨H, i, none⟩ v) :=
  ⟨(Below.refl B u).setCell (p := ⟨H, i, none⟩) hH v, fun h => (heap_setCell_same u H i _ 36 v h).trans (by rw [hi])⟩

/-- twelve cells are written over, one by one -/
theorem twelve {W : World} {b : Nat} {e : TypeId} {o0 o1 o2 o3 o4 o5 o6 o7 o8 o9 o10 o11 : Value} (A : W.heap[b]? = some (.cells #[o0, o1, o2, o3, o4, o5, o6, o7, o8, o9, o10, o11] e)) (v0 v1 v2 v3 v4 v5 v6 v7 v8 v9 v10 v11 : Value) :
    ((((((((((((W.setCell ⟨b, 0, none⟩ v0).setCell ⟨b, 1, none⟩ v1).setCell ⟨b, 2, none⟩ v2).setCell ⟨b, 3, none⟩ v3).setCell ⟨b, 4, none⟩ v4).setCell ⟨b, 5, none⟩ v5).setCell ⟨b, 6, none⟩ v6).setCell ⟨b, 7, none⟩ v7).setCell ⟨b, 8, none⟩ v8).setCell ⟨b, 9, none⟩ v9).setCell ⟨b, 10, none⟩ v10).setCell ⟨b, 11, none⟩ v11).heap[b]? = some (.cells #[v0, v1, v2, v3, v4, v5, v6, v7, v8, v9, v10, v11] e) ∧ W.grownBy ((((((((((((W.setCell ⟨b, 0, none⟩ v0).setCell ⟨b, 1, none⟩ v1).setCell ⟨b, 2, none⟩ v2).setCell ⟨b, 3, none⟩ v3).setCell ⟨b, 4, none⟩ v4).setCell ⟨b, 5, none⟩ v5).setCell ⟨b, 6, none⟩ v6).setCell ⟨b, 7, none⟩ v7).setCell ⟨b, 8, none⟩ v8).setCell ⟨b, 9, none⟩ v9).setCell ⟨b, 10, none⟩ v10).setCell ⟨b, 11, none⟩ v11) (some b) := by
  have h0 : (W.setCell ⟨b, 0, none⟩ v0).heap[b]? = some (.cells #[v0, o1, o2, o3, o4, o5, o6, o7, o8, o9, o10, o11] e) := heap_setCell_same W b 0 _ e v0 A
  have h1 : ((W.setCell ⟨b, 0, none⟩ v0).setCell ⟨b, 1, none⟩ v1).heap[b]? = some (.cells #[v0, v1, o2, o3, o4, o5, o6, o7, o8, o9, o10, o11] e) := heap_setCell_same (W.setCell ⟨b, 0, none⟩ v0) b 1 _ e v1 h0
  have h2 : (((W.setCell ⟨b, 0, none⟩ v0).setCell ⟨b, 1, none⟩ v1).setCell ⟨b, 2, none⟩ v2).heap[b]? = some (.cells #[v0, v1, v2, o3, o4, o5, o6, o7, o8, o9, o10, o11] e) := heap_setCell_same ((W.setCell ⟨b, 0, none⟩ v0).setCell ⟨b, 1, none⟩ v1) b 2 _ e v2 h1
  have h3 : ((((W.setCell ⟨b, 0, none⟩ v0).setCell ⟨b, 1, none⟩ v1).setCell ⟨b, 2, none⟩ v2).setCell ⟨b, 3, none⟩ v3).heap[b]? = some (.cells #[v0, v1, v2, v3, o4, o5, o6, o7, o8, o9, o10, o11] e) := heap_setCell_same (((W.setCell ⟨b, 0, none⟩ v0).setCell ⟨b, 1, none⟩ v1).setCell ⟨b, 2, none⟩ v2) b 3 _ e v3 h2
  have h4 : (((((W.setCell ⟨b, 0, none⟩ v0).setCell ⟨b, 1, none⟩ v1).setCell ⟨b, 2, none⟩ v2).setCell ⟨b, 3, none⟩ v3).setCell ⟨b, 4, none⟩ v4).heap[b]? = some (.cells #[v0, v1, v2, v3, v4, o5, o6, o7, o8, o9, o10, o11] e) := heap_setCell_same ((((W.setCell ⟨b, 0, none⟩ v0).setCell ⟨b, 1, none⟩ v1).setCell ⟨b, 2, none⟩ v2).setCell ⟨b, 3, none⟩ v3) b 4 _ e v4 h3
  have h5 : ((((((W.setCell ⟨b, 0, none⟩ v0).setCell ⟨b, 1, none⟩ v1).setCell ⟨b, 2, none⟩ v2).setCell ⟨b, 3, none⟩ v3).setCell ⟨b, 4, none⟩ v4).setCell ⟨b, 5, none⟩ v5).heap[b]? = some (.cells #[v0, v1, v2, v3, v4, v5, o6, o7, o8, o9, o10, o11] e) := heap_setCell_same (((((W.setCell ⟨b, 0, none⟩ v0).setCell ⟨b, 1, none⟩ v1).setCell ⟨b, 2, none⟩ v2).setCell ⟨b, 3, none⟩ v3).setCell ⟨b, 4, none⟩ v4) b 5 _ e v5 h4
  have h6 : (((((((W.setCell ⟨b, 0, none⟩ v0).setCell ⟨b, 1, none⟩ v1).setCell ⟨b, 2, none⟩ v2).setCell ⟨b, 3, none⟩ v3).setCell ⟨b, 4, none⟩ v4).setCell ⟨b, 5, none⟩ v5).setCell ⟨b, 6, none⟩ v6).heap[b]? = some (.cells #[v0, v1, v2, v3, v4, v5, v6, o7, o8, o9, o10, o11] e) := heap_setCell_same ((((((W.setCell ⟨b, 0, none⟩ v0).setCell ⟨b, 1, none⟩ v1).setCell ⟨b, 2, none⟩ v2).setCell ⟨b, 3, none⟩ v3).setCell ⟨b, 4, none⟩ v4).setCell ⟨b, 5, none⟩ v5) b 6 _ e v6 h5
  have h7 : ((((((((W.setCell ⟨b, 0, none⟩ v0).setCell ⟨b, 1, none⟩ v1).setCell ⟨b, 2, none⟩ v2).setCell ⟨b, 3, none⟩ v3).setCell ⟨b, 4, none⟩ v4).setCell ⟨b, 5, none⟩ v5).setCell ⟨b, 6, none⟩ v6).setCell ⟨b, 7, none⟩ v7).heap[b]? = some (.cells #[v0, v1, v2, v3, v4, v5, v6, v7, o8, o9, o10, o11] e) := heap_setCell_same (((((((W.setCell ⟨b, 0, none⟩ v0).setCell ⟨b, 1, none⟩ v1).setCell ⟨b, 2, none⟩ v2).setCell ⟨b, 3, none⟩ v3).setCell ⟨b, 4, none⟩ v4).setCell ⟨b, 5, none⟩ v5).setCell ⟨b, 6, none⟩ v6) b 7 _ e v7 h6
  have h8 : (((((((((W.setCell ⟨b, 0, none⟩ v0).setCell ⟨b, 1, none⟩ v1).setCell ⟨b, 2, none⟩ v2).setCell ⟨b, 3, none⟩ v3).setCell ⟨b, 4, none⟩ v4).setCell ⟨b, 5, none⟩ v5).setCell ⟨b, 6, none⟩ v6).setCell ⟨b, 7, none⟩ v7).setCell ⟨b, 8, none⟩ v8).heap[b]? = some (.cells #[v0, v1, v2, v3, v4, v5, v6, v7, v8, o9, o10, o11] e) := heap_setCell_same ((((((((W.setCell ⟨b, 0, none⟩ v0).setCell ⟨b, 1, none⟩ v1).setCell ⟨b, 2, none⟩ v2).setCell ⟨b, 3, none⟩ v3).setCell ⟨b, 4, none⟩ v4).setCell ⟨b, 5, none⟩ v5).setCell ⟨b, 6, none⟩ v6).setCell ⟨b, 7, none⟩ v7) b 8 _ e v8 h7
  have h9 : ((((((((((W.setCell ⟨b, 0, none⟩ v0).setCell ⟨b, 1, none⟩ v1).setCell ⟨b, 2, none⟩ v2).setCell ⟨b, 3, none⟩ v3).setCell ⟨b, 4, none⟩ v4).setCell ⟨b, 5, none⟩ v5).setCell ⟨b, 6, none⟩ v6).setCell ⟨b, 7, none⟩ v7).setCell ⟨b, 8, none⟩ v8).setCell ⟨b, 9, none⟩ v9).heap[b]? = some (.cells #[v0, v1, v2, v3, v4, v5, v6, v7, v8, v9, o10, o11] e) := heap_setCell_same (((((((((W.setCell ⟨b, 0, none⟩ v0).setCell ⟨b, 1, none⟩ v1).setCell ⟨b, 2, none⟩ v2).setCell ⟨b, 3, none⟩ v3).setCell ⟨b, 4, none⟩ v4).setCell ⟨b, 5, none⟩ v5).setCell ⟨b, 6, none⟩ v6).setCell ⟨b, 7, none⟩ v7).setCell ⟨b, 8, none⟩ v8) b 9 _ e v9 h8
  have h10 : (((((((((((W.setCell ⟨b, 0, none⟩ v0).setCell ⟨b, 1, none⟩ v1).setCell ⟨b, 2, none⟩ v2).setCell ⟨b, 3, none⟩ v3).setCell ⟨b, 4, none⟩ v4).setCell ⟨b, 5, none⟩ v5).setCell ⟨b, 6, none⟩ v6).setCell ⟨b, 7, none⟩ v7).setCell ⟨b, 8, none⟩ v8).setCell ⟨b, 9, none⟩ v9).setCell ⟨b, 10, none⟩ v10).heap[b]? = some (.cells #[v0, v1, v2, v3, v4, v5, v6, v7, v8, v9, v10, o11] e) := heap_setCell_same ((((((((((W.setCell ⟨b, 0, none⟩ v0).setCell ⟨b, 1, none⟩ v1).setCell ⟨b, 2, none⟩ v2).setCell ⟨b, 3, none⟩ v3).setCell ⟨b, 4, none⟩ v4).setCell ⟨b, 5, none⟩ v5).setCell ⟨b, 6, none⟩ v6).setCell ⟨b, 7, none⟩ v7).setCell ⟨b, 8, none⟩ v8).setCell ⟨b, 9, none⟩ v9) b 10 _ e v10 h9
  have h11 : ((((((((((((W.setCell ⟨b, 0, none⟩ v0).setCell ⟨b, 1, none⟩ v1).setCell ⟨b, 2, none⟩ v2).setCell ⟨b, 3, none⟩ v3).setCell ⟨b, 4, none⟩ v4).setCell ⟨b, 5, none⟩ v5).setCell ⟨b, 6, none⟩ v6).setCell ⟨b, 7, none⟩ v7).setCell ⟨b, 8, none⟩ v8).setCell ⟨b, 9, none⟩ v9).setCell ⟨b, 10, none⟩ v10).setCell ⟨b, 11, none⟩ v11).heap[b]? = some (.cells #[v0, v1, v2, v3, v4, v5, v6, v7, v8, v9, v10, v11] e) := heap_setCell_same (((((((((((W.setCell ⟨b, 0, none⟩ v0).setCell ⟨b, 1, none⟩ v1).setCell ⟨b, 2, none⟩ v2).setCell ⟨b, 3, none⟩ v3).setCell ⟨b, 4, none⟩ v4).setCell ⟨b, 5, none⟩ v5).setCell ⟨b, 6, none⟩ v6).setCell ⟨b, 7, none⟩ v7).setCell ⟨b, 8, none⟩ v8).setCell ⟨b, 9, none⟩ v9).setCell ⟨b, 10, none⟩ v10) b 11 _ e v11 h10
  have g0 := grown1 W b 0 v0
  have g1 := grownBy_trans g0 (grown1 _ b 1 v1)
  have g2 := grownBy_trans g1 (grown1 _ b 2 v2)
  have g3 := grownBy_trans g2 (grown1 _ b 3 v3)
  have g4 := grownBy_trans g3 (grown1 _ b 4 v4)
  have g5 := grownBy_trans g4 (grown1 _ b 5 v5)
  have g6 := grownBy_trans g5 (grown1 _ b 6 v6)
  have g7 := grownBy_trans g6 (grown1 _ b 7 v7)
  have g8 := grownBy_trans g7 (grown1 _ b 8 v8)
  have g9 := grownBy_trans g8 (grown1 _ b 9 v9)
  have g10 := grownBy_trans g9 (grown1 _ b 10 v10)
  have g11 := grownBy_trans g10 (grown1 _ b 11 v11)
  exact ⟨h11, g11⟩

set_option maxHeartbeats 4000000 in
theorem with_ok (w : World) :
    Calls Try.prog 18 #[.agg h0c, .func (.func 19) #[] #[]] w fun e w' => ∃ gb gc ea ec, e = .returned (.tuple #[.agg (hcells 9 0 1 (.slice none 0 0) (.slice none 0 0) 0 1 0 1 0 0 0), .slice (some ⟨gb, 0, none⟩) 1 gc, .int .i64 0]) ∧
      w'.cell? ⟨gb, 0, none⟩ = some (.slice ea 8 ec) ∧ Rd w' ea 8 ec (vb (encO 9 true true 0 [0])) ∧ w.heap.size ≤ gb ∧ (∀ b' off, ea = some ⟨b', off, none⟩ → w.heap.size ≤ b') ∧ Below w.heap.size w w' := by
  have A0 := heap_alloc_new w (.cells h0c 36)
  have B0 := below_alloc w (.cells h0c 36)
  have A1 := heap_alloc_new (w.alloc (.cells h0c 36)) (.cells (hcells 0 0 0 (.slice none 0 0) (.slice none 0 0) 0 0 0 0 0 0 0) 36)
  have B1 := below_alloc (w.alloc (.cells h0c 36)) (.cells (hcells 0 0 0 (.slice none 0 0) (.slice none 0 0) 0 0 0 0 0 0 0) 36)
  have A0 := row_below A0 B1
  have BW := B0.trans (B1.mono B0.size)
  simp only [World.size_alloc] at A1
  clear B0 B1
  go_enter Try.func18, Try.ntmps18
  unfold h0c hcells at *
  go_wp2_with fail
  generalize (w.alloc (.cells #[.int .i64 9, .int .i64 0, .int .i64 1, .slice none 0 0, .slice none 0 0, .int .i64 0, .int .i64 1, .int .i64 0, .int .i64 1, .int .i64 0, .int .i64 0, .int .i64 15] 36)).alloc (.cells #[.int .i64 0, .int .i64 0, .int .i64 0, .slice none 0 0, .slice none 0 0, .int .i64 0, .int .i64 0, .int .i64 0, .int .i64 0, .int .i64 0, .int .i64 0, .int .i64 0] 36) = W at *
  refine (ready_h0 W).mono ?_
  rintro e V ⟨rfl, b1⟩
  have A0 := row_below A0 b1
  have A1 := row_below A1 b1
  have BV := BW.trans (b1.mono BW.size)
  clear b1 BW
  go_wp2_with fail
  refine wp_region_can_all [2, 5, 7, 9] [0, 1, 3, 4, 2, 6, 5, 7, 8, 9] (Keeps w.heap.size w.heap.size) (Keeps.refl _ _) (Keeps.trans _ _) (by kernel_rfl) (by kernel_rfl) ?_
  have A0 : V.drew.heap[w.heap.size]? = _ := A0
  have A1 : V.drew.heap[w.heap.size + 1]? = _ := A1
  have BV := BV.drew
  generalize V.drew = V at *
  have k3 : ∀ w', Keeps w.heap.size w.heap.size V w' → w'.cell? ⟨w.heap.size, 3, none⟩ = some (.slice none 0 0) := fun w' hk => by rw [cell_of_row _ _ _ _ _ _ (hk.2 A0)]; rfl
  have k4 : ∀ w', Keeps w.heap.size w.heap.size V w' → w'.cell? ⟨w.heap.size, 4, none⟩ = some (.slice none 0 0) := fun w' hk => by rw [cell_of_row _ _ _ _ _ _ (hk.2 A0)]; rfl
  simp only [List.map_cons, List.map_nil, List.contains_cons, List.contains_nil, List.getD_cons_zero, List.getD_cons_succ, Nat.reduceBEq, Bool.or_false, Bool.or_true]
  repeat (refine wpL_do rfl (fun w' hw' => (by go_simp; rfl)) ?_; simp only [Act.put, List.setIfInBounds_toArray, List.set_cons_succ, List.set_cons_zero])
  refine wpL_call rfl (fun K hK => ?_)
  go_wp2_with fail
  refine (clones_nil V).mono ?_
  rintro e w' ⟨rfl, rfl⟩
  refine hK _ _ (Keeps.refl _ _ _) ?_
  clear hK K
  try simp only [Act.put, List.setIfInBounds_toArray, List.set_cons_succ, List.set_cons_zero]
  repeat (refine wpL_do rfl (fun w' hw' => (by go_simp; rfl)) ?_; simp only [Act.put, List.setIfInBounds_toArray, List.set_cons_succ, List.set_cons_zero])
  refine wpL_call rfl (fun K hK => ?_)
  go_wp2_with fail
  refine (clones_nil V).mono ?_
  rintro e w' ⟨rfl, rfl⟩
  refine hK _ _ (Keeps.refl _ _ _) ?_
  clear hK K
  try simp only [Act.put, List.setIfInBounds_toArray, List.set_cons_succ, List.set_cons_zero]
  repeat (refine wpL_do rfl (fun w' hw' => (by go_simp; rfl)) ?_; simp only [Act.put, List.setIfInBounds_toArray, List.set_cons_succ, List.set_cons_zero])
  have c3 := k3 V (Keeps.refl _ _ _)
  have fz := frozen_row A0
  refine wpL_call rfl (fun K hK => ?_)
  go_wp2_with fail
  refine hK _ _ (keeps_store V 3 _ rfl (Nat.le_refl _)) ?_
  clear hK K
  try simp only [Act.put, List.setIfInBounds_toArray, List.set_cons_succ, List.set_cons_zero]
  have BV1 := BV.grown (grown1 V w.heap.size 3 (.slice none 0 0)) BV.size (fun k e => by cases e; exact Nat.le_refl _)
  have A01 := (keeps_store V 3 (.slice none 0 0) rfl (Nat.le_refl w.heap.size)).2 A0
  have A11 := row_grown A1 (grown1 V w.heap.size 3 (.slice none 0 0)) (by omega)
  have q4 : ∀ w', Keeps w.heap.size w.heap.size (V.setCell ⟨w.heap.size, 3, none⟩ (.slice none 0 0)) w' → w'.cell? ⟨w.heap.size, 4, none⟩ = some (.slice none 0 0) := fun w' hk => by rw [cell_of_row _ _ _ _ _ _ (hk.2 A01)]; rfl
  clear A0 A1 BV k3 k4 c3 fz
  generalize V.setCell ⟨w.heap.size, 3, none⟩ (.slice none 0 0) = V1 at *
  repeat (refine wpL_do rfl (fun w' hw' => (by go_simp; rfl)) ?_; simp only [Act.put, List.setIfInBounds_toArray, List.set_cons_succ, List.set_cons_zero])
  have c4 := q4 V1 (Keeps.refl _ _ _)
  have fz := frozen_row A01
  refine wpL_call rfl (fun K hK => ?_)
  go_wp2_with fail
  refine hK _ _ (keeps_store V1 4 _ rfl (Nat.le_refl _)) ?_
  clear hK K
  try simp only [Act.put, List.setIfInBounds_toArray, List.set_cons_succ, List.set_cons_zero]
  have BV := BV1.grown (grown1 V1 w.heap.size 4 (.slice none 0 0)) BV1.size (fun k e => by cases e; exact Nat.le_refl _)
  have A0 := (keeps_store V1 4 (.slice none 0 0) rfl (Nat.le_refl w.heap.size)).2 A01
  have A1 := row_grown A11 (grown1 V1 w.heap.size 4 (.slice none 0 0)) (by omega)
  clear A01 A11 BV1 q4 c4 fz
  generalize V1.setCell ⟨w.heap.size, 4, none⟩ (.slice none 0 0) = V2 at *
  refine wpL_nil ?_
  obtain ⟨c0, c1, c2, c3, c4, c5, c6, c7, c8, c9, c10, c11⟩ := hAt_row (show V2.heap[w.heap.size]? = some (.cells (hcells 9 0 1 (.slice none 0 0) (.slice none 0 0) 0 1 0 1 0 0 15) 36) from A0)
  have bX := below_alloc V2 (.cells (xcells 15 (.slice none 0 0)) 63)
  have aX := heap_alloc_new V2 (.cells (xcells 15 (.slice none 0 0)) 63)
  go_wp2_with fail
  refine (free1_ok V2.heap.size _ aX).mono ?_
  rintro e V3 ⟨gb, gc, ea, ec, rfl, hx, hgb, hge, hlow, hr, gV⟩
  have hHl : w.heap.size + 1 < V2.heap.size := (Array.getElem?_eq_some_iff.1 A1).1
  have A1 := row_grown (row_below A1 bX) gV (by omega)
  have BV := (BV.trans (bX.mono BV.size)).grown gV (by have := BV.size; simp; omega) (fun k e => by cases e; omega)
  have hbne : V2.heap.size ≠ w.heap.size + 1 := by omega
  have hgbl : V2.heap.size < gb := by simp at hge; omega
  have hlow : ∀ b' off, ea = some ⟨b', off, none⟩ → V2.heap.size < b' := fun b' off he => by have := hlow b' off he; simp at this; omega
  clear A0 c0 c1 c2 c3 c4 c5 c6 c7 c8 c9 c10 c11 bX aX gV hge
  generalize hb : V2.heap.size = b at *
  clear hb
  go_wp2_with fail
  refine wp_region_can_all [9] [0, 1, 2, 3, 4, 5, 6, 7, 8, 9, 10, 11] (fun u u' => u.grownBy u' (some (w.heap.size + 1))) (fun u => World.grownBy.refl u _) (fun _ _ _ h k => grownBy_trans h k) (by kernel_rfl) (by kernel_rfl) ?_
  have A1 : V3.drew.heap[w.heap.size + 1]? = _ := A1
  have hx : V3.drew.heap[b]? = _ := hx
  have hgb : V3.drew.cell? ⟨gb, 0, none⟩ = _ := hgb
  have hr := hr.below ((Below.refl _ V3).drew)
  have BV := BV.drew
  generalize V3.drew = V4 at *
  have n0 : ∀ w', V4.grownBy w' (some (w.heap.size + 1)) → w'.cell? ⟨b, 0, none⟩ = some (.int .i64 9) := fun w' hw => by rw [cell_of_row _ _ _ _ _ _ (row_grown hx hw hbne)]; rfl
  have n1 : ∀ w', V4.grownBy w' (some (w.heap.size + 1)) → w'.cell? ⟨b, 1, none⟩ = some (.int .i64 0) := fun w' hw => by rw [cell_of_row _ _ _ _ _ _ (row_grown hx hw hbne)]; rfl
  have n2 : ∀ w', V4.grownBy w' (some (w.heap.size + 1)) → w'.cell? ⟨b, 2, none⟩ = some (.int .i64 1) := fun w' hw => by rw [cell_of_row _ _ _ _ _ _ (row_grown hx hw hbne)]; rfl
  have n3 : ∀ w', V4.grownBy w' (some (w.heap.size + 1)) → w'.cell? ⟨b, 3, none⟩ = some (.slice none 0 0) := fun w' hw => by rw [cell_of_row _ _ _ _ _ _ (row_grown hx hw hbne)]; rfl
  have n4 : ∀ w', V4.grownBy w' (some (w.heap.size + 1)) → w'.cell? ⟨b, 4, none⟩ = some (.slice none 0 0) := fun w' hw => by rw [cell_of_row _ _ _ _ _ _ (row_grown hx hw hbne)]; rfl
  have n5 : ∀ w', V4.grownBy w' (some (w.heap.size + 1)) → w'.cell? ⟨b, 5, none⟩ = some (.int .i64 0) := fun w' hw => by rw [cell_of_row _ _ _ _ _ _ (row_grown hx hw hbne)]; rfl
  have n6 : ∀ w', V4.grownBy w' (some (w.heap.size + 1)) → w'.cell? ⟨b, 6, none⟩ = some (.int .i64 1) := fun w' hw => by rw [cell_of_row _ _ _ _ _ _ (row_grown hx hw hbne)]; rfl
  have n7 : ∀ w', V4.grownBy w' (some (w.heap.size + 1)) → w'.cell? ⟨b, 7, none⟩ = some (.int .i64 0) := fun w' hw => by rw [cell_of_row _ _ _ _ _ _ (row_grown hx hw hbne)]; rfl
  have n8 : ∀ w', V4.grownBy w' (some (w.heap.size + 1)) → w'.cell? ⟨b, 8, none⟩ = some (.int .i64 1) := fun w' hw => by rw [cell_of_row _ _ _ _ _ _ (row_grown hx hw hbne)]; rfl
  have n9 : ∀ w', V4.grownBy w' (some (w.heap.size + 1)) → w'.cell? ⟨b, 9, none⟩ = some (.int .i64 0) := fun w' hw => by rw [cell_of_row _ _ _ _ _ _ (row_grown hx hw hbne)]; rfl
  have n10 : ∀ w', V4.grownBy w' (some (w.heap.size + 1)) → w'.cell? ⟨b, 10, none⟩ = some (.int .i64 0) := fun w' hw => by rw [cell_of_row _ _ _ _ _ _ (row_grown hx hw hbne)]; rfl
  have n11 : ∀ w', V4.grownBy w' (some (w.heap.size + 1)) → w'.cell? ⟨b, 11, none⟩ = some (.int .i64 0) := fun w' hw => by rw [cell_of_row _ _ _ _ _ _ (row_grown hx hw hbne)]; rfl
  have n12 : ∀ w', V4.grownBy w' (some (w.heap.size + 1)) → w'.cell? ⟨b, 12, none⟩ = some (.slice (some ⟨gb, 0, none⟩) 1 gc) := fun w' hw => by rw [cell_of_row _ _ _ _ _ _ (row_grown hx hw hbne)]; rfl
  simp only [List.map_cons, List.map_nil, List.contains_cons, List.contains_nil, List.getD_cons_zero, List.getD_cons_succ, Nat.reduceBEq, Bool.or_false]
  repeat (refine wpL_do rfl (fun w' hw' => (by go_simp; rfl)) ?_; simp only [Act.put, List.setIfInBounds_toArray, List.set_cons_succ, List.set_cons_zero])
  obtain ⟨z0, z1, z2, z3, z4, z5, z6, z7, z8, z9, z10, z11⟩ := hAt_row (show V4.heap[w.heap.size + 1]? = some (.cells (hcells 0 0 0 (.slice none 0 0) (.slice none 0 0) 0 0 0 0 0 0 0) 36) from A1)
  have fz := frozen_row A1
  clear n0 n1 n2 n3 n4 n5 n6 n7 n8 n9 n10 n11 n12
  refine wpL_call rfl (fun K hK => ?_)
  go_wp2_with fail
  obtain ⟨A9, g9⟩ := twelve A1 (.int .i64 9) (.int .i64 0) (.int .i64 1) (.slice none 0 0) (.slice none 0 0) (.int .i64 0) (.int .i64 1) (.int .i64 0) (.int .i64 1) (.int .i64 0) (.int .i64 0) (.int .i64 0)
  refine hK _ _ g9 ?_
  clear hK K
  try simp only [Act.put, List.setIfInBounds_toArray, List.set_cons_succ, List.set_cons_zero]
  have BV9 := BV.grown g9 BV.size (fun k e => by cases e; omega)
  have hgb9 := (World.cell?_of_block (w := V4) (a := ⟨gb, 0, none⟩) (g9.block gb (World.block_lt_of_cell? V4 _ hgb) (by simp; omega))).trans hgb
  have hr9 := hr.grown g9 (fun b' off _ he => by have := hlow b' off he; intro e; cases e; omega)
  clear fz z0 z1 z2 z3 z4 z5 z6 z7 z8 z9 z10 z11 hgb hr BV A1 hx g9
  generalize ((((((((((((V4.setCell ⟨w.heap.size + 1, 0, none⟩ (.int .i64 9)).setCell ⟨w.heap.size + 1, 1, none⟩ (.int .i64 0)).setCell ⟨w.heap.size + 1, 2, none⟩ (.int .i64 1)).setCell ⟨w.heap.size + 1, 3, none⟩ (.slice none 0 0)).setCell ⟨w.heap.size + 1, 4, none⟩ (.slice none 0 0)).setCell ⟨w.heap.size + 1, 5, none⟩ (.int .i64 0)).setCell ⟨w.heap.size + 1, 6, none⟩ (.int .i64 1)).setCell ⟨w.heap.size + 1, 7, none⟩ (.int .i64 0)).setCell ⟨w.heap.size + 1, 8, none⟩ (.int .i64 1)).setCell ⟨w.heap.size + 1, 9, none⟩ (.int .i64 0)).setCell ⟨w.heap.size + 1, 10, none⟩ (.int .i64 0)).setCell ⟨w.heap.size + 1, 11, none⟩ (.int .i64 0)) = V9 at *
  repeat (refine wpL_do rfl (fun w' hw' => (by go_simp; rfl)) ?_; simp only [Act.put, List.setIfInBounds_toArray, List.set_cons_succ, List.set_cons_zero])
  refine wpL_nil ?_
  go_wp2_with fail
  obtain ⟨y0, y1, y2, y3, y4, y5, y6, y7, y8, y9, y10, y11⟩ := hAt_row (show V9.heap[w.heap.size + 1]? = some (.cells (hcells 9 0 1 (.slice none 0 0) (.slice none 0 0) 0 1 0 1 0 0 0) 36) from A9)
  refine bodyPost_ret (by simp only [results, Try.results18, go_sem]; simp [go_sem, y0, y1, y2, y3, y4, y5, y6, y7, y8, y9, y10, y11]; rfl) rfl ?_
  exact ⟨gb, gc, ea, ec, rfl, hgb9, hr9, by omega, (fun b' off he => by have := hlow b' off he; omega), BV9⟩

theorem free_ok (w : World) :
    Calls Try.prog 8 #[.agg h0c] w fun e w' => ∃ gb gc ea ec, e = .returned (.tuple #[.agg (hcells 9 0 1 (.slice none 0 0) (.slice none 0 0) 0 1 0 1 0 0 0), .slice (some ⟨gb, 0, none⟩) 1 gc, .int .i64 0]) ∧
      w'.cell? ⟨gb, 0, none⟩ = some (.slice ea 8 ec) ∧ Rd w' ea 8 ec (vb (encO 9 true true 0 [0])) ∧ Below w.heap.size w w' := by
  have A0 := heap_alloc_new w (.cells h0c 36)
  have B0 := below_alloc w (.cells h0c 36)
  have A1 := heap_alloc_new (w.alloc (.cells h0c 36)) (.cells (hcells 0 0 0 (.slice none 0 0) (.slice none 0 0) 0 0 0 0 0 0 0) 36)
  have B1 := below_alloc (w.alloc (.cells h0c 36)) (.cells (hcells 0 0 0 (.slice none 0 0) (.slice none 0 0) 0 0 0 0 0 0 0) 36)
  have BW := B0.trans (B1.mono B0.size)
  simp only [World.size_alloc] at A1
  clear A0 B0 B1
  go_enter Try.func8, Try.ntmps8
  unfold h0c hcells at *
  go_wp2_with fail
  generalize (w.alloc (.cells #[.int .i64 9, .int .i64 0, .int .i64 1, .slice none 0 0, .slice none 0 0, .int .i64 0, .int .i64 1, .int .i64 0, .int .i64 1, .int .i64 0, .int .i64 0, .int .i64 15] 36)).alloc (.cells #[.int .i64 0, .int .i64 0, .int .i64 0, .slice none 0 0, .slice none 0 0, .int .i64 0, .int .i64 0, .int .i64 0, .int .i64 0, .int .i64 0, .int .i64 0, .int .i64 0] 36) = W at *
  have hWl := (Array.getElem?_eq_some_iff.1 A1).1
  refine (with_ok W).mono ?_
  rintro e V ⟨gb, gc, ea, ec, rfl, hgb, hr, hlo, hlow, b1⟩
  have A1 := row_below A1 b1
  have BV := BW.trans (b1.mono BW.size)
  unfold hcells
  obtain ⟨z0, z1, z2, z3, z4, z5, z6, z7, z8, z9, z10, z11⟩ := hAt_row (show V.heap[w.heap.size + 1]? = some (.cells (hcells 0 0 0 (.slice none 0 0) (.slice none 0 0) 0 0 0 0 0 0 0) 36) from A1)
  have fz := frozen_row A1
  go_wp2_with fail
  obtain ⟨A9, g9⟩ := twelve A1 (.int .i64 9) (.int .i64 0) (.int .i64 1) (.slice none 0 0) (.slice none 0 0) (.int .i64 0) (.int .i64 1) (.int .i64 0) (.int .i64 1) (.int .i64 0) (.int .i64 0) (.int .i64 0)
  have BV9 := BV.grown g9 BV.size (fun k e => by cases e; omega)
  have hgb9 := (World.cell?_of_block (w := V) (a := ⟨gb, 0, none⟩) (g9.block gb (World.block_lt_of_cell? V _ hgb) (by simp; omega))).trans hgb
  have hr9 := hr.grown g9 (fun b' off _ he => by have := hlow b' off he; intro e; cases e; omega)
  clear fz z0 z1 z2 z3 z4 z5 z6 z7 z8 z9 z10 z11 hgb hr BV A1 g9
  generalize ((((((((((((V.setCell ⟨w.heap.size + 1, 0, none⟩ (.int .i64 9)).setCell ⟨w.heap.size + 1, 1, none⟩ (.int .i64 0)).setCell ⟨w.heap.size + 1, 2, none⟩ (.int .i64 1)).setCell ⟨w.heap.size + 1, 3, none⟩ (.slice none 0 0)).setCell ⟨w.heap.size + 1, 4, none⟩ (.slice none 0 0)).setCell ⟨w.heap.size + 1, 5, none⟩ (.int .i64 0)).setCell ⟨w.heap.size + 1, 6, none⟩ (.int .i64 1)).setCell ⟨w.heap.size + 1, 7, none⟩ (.int .i64 0)).setCell ⟨w.heap.size + 1, 8, none⟩ (.int .i64 1)).setCell ⟨w.heap.size + 1, 9, none⟩ (.int .i64 0)).setCell ⟨w.heap.size + 1, 10, none⟩ (.int .i64 0)).setCell ⟨w.heap.size + 1, 11, none⟩ (.int .i64 0)) = V9 at *
  obtain ⟨y0, y1, y2, y3, y4, y5, y6, y7, y8, y9, y10, y11⟩ := hAt_row (show V9.heap[w.heap.size + 1]? = some (.cells (hcells 9 0 1 (.slice none 0 0) (.slice none 0 0) 0 1 0 1 0 0 0) 36) from A9)
  refine bodyPost_ret (by simp only [results, Try.results8, go_sem]; simp [go_sem, y0, y1, y2, y3, y4, y5, y6, y7, y8, y9, y10, y11]; rfl) rfl ?_
  exact ⟨gb, gc, ea, ec, rfl, hgb9, hr9, BV9⟩
end Go.Proofs.Ytkngoomkmbkenaa
