/- send, of the order that frees a gate: the walk. -/
import Derived.Test.YtkngoomkmbkenaaOnce6
namespace Go.Proofs.Ytkngoomkmbkenaa
set_option linter.unusedVariables false
open Go.RowKit

theorem Try.info31s : (Try.prog.info? 31).map (fun i => (i.zero, i.size, i.bytes)) = some (some (.slice none 0 0), 1, 24) := by kernel_rfl
/-- the hand at work -/
def xcells (ha : Int) (go : Value) : Array Value := #[.int .i64 9, .int .i64 0, .int .i64 1, .slice none 0 0, .slice none 0 0, .int .i64 0, .int .i64 1, .int .i64 0, .int .i64 1, .int .i64 0, .int .i64 0, .int .i64 ha, go]

theorem send_ok (b : Nat) (a : Option Addr) (c : Nat) (w : World) (h : w.heap[b]? = some (.cells (xcells 0 (.slice none 0 0)) 63)) (hr : Rd w a 1 c (vb [0])) :
    Calls Try.prog 20 #[.pointer (some ⟨b, 0, none⟩), .agg (ocells 0 true true 0 a 1 c)] w fun e w' => ∃ gb gc ea ec, e = .returned (.tuple #[]) ∧ w'.heap[b]? = some (.cells (xcells 0 (.slice (some ⟨gb, 0, none⟩) 1 gc)) 63) ∧
      w'.cell? ⟨gb, 0, none⟩ = some (.slice ea 8 ec) ∧ w.heap.size ≤ gb ∧ (∀ b' off, ea = some ⟨b', off, none⟩ → w.heap.size ≤ b') ∧ Rd w' ea 8 ec (vb (encO 9 true true 0 [0])) ∧ w.grownBy w' (some b) := by
  obtain ⟨i0, hi0, hz0, hz1, hz2⟩ := info_parts Try.info31s
  have hbl := (Array.getElem?_eq_some_iff.1 h).1
  have A := heap_alloc_new w (.cells (ocells 0 true true 0 a 1 c) 33)
  have BA := below_alloc w (.cells (ocells 0 true true 0 a 1 c) 33)
  have A9 := heap_alloc_new w (.cells (ocells 9 true true 0 a 1 c) 33)
  have B9 := below_alloc w (.cells (ocells 9 true true 0 a 1 c) 33)
  have c0 : w.cell? ⟨b, 0, none⟩ = some (.int .i64 9) := by rw [cell_of_row _ _ _ _ _ _ h]; rfl
  have hx := row_below h BA
  have d0 : (w.alloc (.cells (ocells 0 true true 0 a 1 c) 33)).cell? ⟨b, 0, none⟩ = some (.int .i64 9) := by rw [cell_of_row _ _ _ _ _ _ hx]; rfl
  unfold ocells at *
  go_enter Try.func20, Try.ntmps20
  go_wp2_with fail
  refine (encode_ok 9 true true 0 a 1 c [0] _ (hr.below B9) (fun y hy => by simp at hy; omega) (by decide) (by decide) (fun _ => rfl) (by decide) (by decide)).mono ?_
  rintro e V ⟨ea, ec, rfl, oe, Be⟩
  have hx9 := row_below (row_below h B9) Be
  have BV := B9.trans (Be.mono B9.size)
  have bN := below_alloc V (.cells #[.slice ea 8 ec] 31)
  have hxN := row_below hx9 bN
  have c12 : V.cell? ⟨b, 12, none⟩ = some (.slice none 0 0) := by rw [cell_of_row _ _ _ _ _ _ hx9]; rfl
  clear A BA A9 B9 c0 hx d0 hx9
  go_wp2_with (at_builtin; refine hold ?_)
  unfold Hid
  refine wpList_append_own _ rfl _ _ 34 rfl w.heap.size 31 i0 (.slice none 0 0) 1 24 Try.underlying34 hi0 hz0 hz1 hz2 rfl (by decide) (.slice none 0 0) 0 [] rfl (World.ownsRow_nil _ _ _ _) ⟨V.heap.size, 0, none⟩ 1 1 [.slice ea 8 ec] rfl rfl (one_new V _ 31) (by simp [Value.oneCell']) (by unfold maxLen; omega) (by omega) (by have := BV.size; simp; omega) ?_
  intro v' V2 o2 g2 _
  have g2' : (V.alloc (.cells #[.slice ea 8 ec] 31)).grownBy V2 none := g2
  obtain ⟨ao, gc, rfl, _, _, hf⟩ := own_form o2
  rcases hf with ⟨_, hz, _⟩ | ⟨gb, rfl, hgb, hgl⟩
  · exact absurd hz (by decide)
  have hx2 : V2.heap[b]? = some (.cells (xcells 0 (.slice none 0 0)) 63) := (g2'.block b (Array.getElem?_eq_some_iff.1 hxN).1 (by simp)).trans hxN
  have f12 := frozen_row hx2 12
  have e12 : V2.cell? ⟨b, 12, none⟩ = some (.slice none 0 0) := by rw [cell_of_row _ _ _ _ _ _ hx2]; rfl
  go_wp2_with fail
  go_end0
  have h3 : (V2.setCell ⟨b, 12, none⟩ (.slice (some ⟨gb, 0, none⟩) 1 gc)).heap[b]? = some (.cells (xcells 0 (.slice (some ⟨gb, 0, none⟩) 1 gc)) 63) := heap_setCell_same V2 b 12 _ 63 (.slice (some ⟨gb, 0, none⟩) 1 gc) hx2
  have gS := grown1 V2 b 12 (.slice (some ⟨gb, 0, none⟩) 1 gc)
  have hgc : V2.cell? ⟨gb, 0, none⟩ = some (.slice ea 8 ec) := o2.cellAt 0 (by decide)
  have hgc2 : (V2.setCell ⟨b, 12, none⟩ (.slice (some ⟨gb, 0, none⟩) 1 gc)).cell? ⟨gb, 0, none⟩ = some (.slice ea 8 ec) := (World.cell?_of_block (w := V2) (a := ⟨gb, 0, none⟩) (gS.block gb hgl (by simp; omega))).trans hgc
  have g2b : (V.alloc (.cells #[.slice ea 8 ec] 31)).grownBy V2 (some b) := ⟨g2'.os, g2'.tape, g2'.output, g2'.size, fun k hk _ => g2'.block k hk (by simp)⟩
  have hea : ∀ b' off, 0 < 8 → ea = some ⟨b', off, none⟩ → some b' ≠ some b := fun b' off _ he => by
    obtain ⟨_, _, hv, _, _, hh⟩ := own_form oe
    cases hv
    rcases hh with ⟨h', _⟩ | ⟨g', h', h2, _⟩
    · rw [h'] at he; cases he
    · rw [h'] at he; cases he; simp at h2; intro e; cases e; omega
  have hlow : ∀ b' off, ea = some ⟨b', off, none⟩ → w.heap.size ≤ b' := fun b' off he => by
    obtain ⟨_, _, hv, _, _, hh⟩ := own_form oe
    cases hv
    rcases hh with ⟨h', _⟩ | ⟨g', h', h2, _⟩
    · rw [h'] at he; cases he
    · rw [h'] at he; cases he; simp at h2; omega
  have hr2 := ((((Rd.ofOwn oe).below bN).grown g2b hea).grown gS hea)
  have gw := grownBy_trans (grownBy_trans (grownBy_trans (grownBy_of_below BV (some b)) (grownBy_of_below bN (some b))) g2b) gS
  exact ⟨rfl, gb, ⟨gc, h3⟩, ea, ec, hgc2, hgb, hlow, hr2, gw⟩

/-- what Free does to the hand at work -/
theorem free1_ok (b : Nat) (w : World) (h : w.heap[b]? = some (.cells (xcells 15 (.slice none 0 0)) 63)) :
    Calls Try.prog 19 #[.pointer (some ⟨b, 0, none⟩)] w fun e w' => ∃ gb gc ea ec, e = .returned (.int .i64 0) ∧ w'.heap[b]? = some (.cells (xcells 0 (.slice (some ⟨gb, 0, none⟩) 1 gc)) 63) ∧
      w'.cell? ⟨gb, 0, none⟩ = some (.slice ea 8 ec) ∧ w.heap.size ≤ gb ∧ (∀ b' off, ea = some ⟨b', off, none⟩ → w.heap.size ≤ b') ∧ Rd w' ea 8 ec (vb (encO 9 true true 0 [0])) ∧ w.grownBy w' (some b) := by
  have c11 : w.cell? ⟨b, 11, none⟩ = some (.int .i64 15) := by rw [cell_of_row _ _ _ _ _ _ h]; rfl
  have c5 : w.cell? ⟨b, 5, none⟩ = some (.int .i64 0) := by rw [cell_of_row _ _ _ _ _ _ h]; rfl
  have c7 : w.cell? ⟨b, 7, none⟩ = some (.int .i64 0) := by rw [cell_of_row _ _ _ _ _ _ h]; rfl
  have c9 : w.cell? ⟨b, 9, none⟩ = some (.int .i64 0) := by rw [cell_of_row _ _ _ _ _ _ h]; rfl
  have c10 : w.cell? ⟨b, 10, none⟩ = some (.int .i64 0) := by rw [cell_of_row _ _ _ _ _ _ h]; rfl
  have fz := frozen_row h
  go_enter Try.func19, Try.ntmps19
  go_wp2_with fail
  have h1 : (w.setCell ⟨b, 11, none⟩ (.int .i64 0)).heap[b]? = some (.cells (xcells 0 (.slice none 0 0)) 63) := heap_setCell_same w b 11 _ 63 _ h
  have h2 : ((w.setCell ⟨b, 11, none⟩ (.int .i64 0)).setCell ⟨b, 5, none⟩ (.int .i64 0)).heap[b]? = some (.cells (xcells 0 (.slice none 0 0)) 63) := heap_setCell_same _ b 5 _ 63 _ h1
  have h3 : (((w.setCell ⟨b, 11, none⟩ (.int .i64 0)).setCell ⟨b, 5, none⟩ (.int .i64 0)).setCell ⟨b, 7, none⟩ (.int .i64 0)).heap[b]? = some (.cells (xcells 0 (.slice none 0 0)) 63) := heap_setCell_same _ b 7 _ 63 _ h2
  have h4 : ((((w.setCell ⟨b, 11, none⟩ (.int .i64 0)).setCell ⟨b, 5, none⟩ (.int .i64 0)).setCell ⟨b, 7, none⟩ (.int .i64 0)).setCell ⟨b, 9, none⟩ (.int .i64 0)).heap[b]? = some (.cells (xcells 0 (.slice none 0 0)) 63) := heap_setCell_same _ b 9 _ 63 _ h3
  have g4 := grownBy_trans (grownBy_trans (grownBy_trans (grown1 w b 11 (.int .i64 0)) (grown1 _ b 5 (.int .i64 0))) (grown1 _ b 7 (.int .i64 0))) (grown1 _ b 9 (.int .i64 0))
  have hsz : ((((w.setCell ⟨b, 11, none⟩ (.int .i64 0)).setCell ⟨b, 5, none⟩ (.int .i64 0)).setCell ⟨b, 7, none⟩ (.int .i64 0)).setCell ⟨b, 9, none⟩ (.int .i64 0)).heap.size = w.heap.size := by simp
  generalize (((w.setCell ⟨b, 11, none⟩ (.int .i64 0)).setCell ⟨b, 5, none⟩ (.int .i64 0)).setCell ⟨b, 7, none⟩ (.int .i64 0)).setCell ⟨b, 9, none⟩ (.int .i64 0) = W at *
  clear h1 h2 h3
  have bN := below_alloc W (.cells #[.int .u8 0] 5)
  have hN := row_below h4 bN
  have oN := World.ownsRow_lit (base := W.heap.size) (e := 5) (size := 1) W #[.int .u8 0] 1 (Nat.le_refl _) (by unfold maxLen; omega) rfl
  rw [hsz] at oN
  refine (send_ok b (some ⟨w.heap.size, 0, none⟩) 1 _ hN (Rd.ofOwn oN)).mono ?_
  rintro e V ⟨gb, gc, ea, ec, rfl, hx, hg, hgb, hlow, hr, gV⟩
  go_wp2_with fail
  go_ret
  exact ⟨gb, gc, ea, ec, rfl, hx, hg, by simp at hgb; omega, (fun b' off he => by have := hlow b' off he; simp at this; omega), hr, grownBy_trans (grownBy_trans g4 (grownBy_of_below bN (some b))) gV⟩
end Go.Proofs.Ytkngoomkmbkenaa
/- with, at the hand that is freed: the walk. -/
namespace Go.Proofs.Ytkngoomkmbkenaa
set_option linter.unusedVariables false
open Go.RowKit

/-- nothing below B turns; the hand's own row stays as it is -/
def Keeps (B H : Nat) (u u' : World) : Prop := Below B u u' ∧ (u.heap[H]? = some (.cells h0c 36) → u'.heap[H]? = some (.cells h0c 36))
theorem Keeps.refl (B H : Nat) (u : World) : Keeps B H u u := ⟨Below.refl _ _, id⟩
theorem Keeps.trans (B H : Nat) (a b c : World) (h : Keeps B H a b) (k : Keeps B H b c) : Keeps B H a c := ⟨h.1.trans k.1, fun x => k.2 (h.2 x)⟩

theorem keeps_store {B H : Nat} (u : World) (i : Nat) (v : Value) (hi : h0c.setIfInBounds i v = h0c) (hH : B ≤ H) : Keeps B H u (u.setCell ⟨H, i, none⟩ v) :=
  ⟨(Below.refl B u).setCell (p := ⟨H, i, none⟩) hH v, fun h => (heap_setCell_same u H i _ 36 v h).trans (by rw [hi])⟩

/-- twelve cells are written over, one by one -/
theorem twelve {W : World} {b : Nat} {e : TypeId} {o0 o1 o2 o3 o4 o5 o6 o7 o8 o9 o10 o11 : Value} (A : W.heap[b]? = some (.cells #[o0, o1, o2, o3, o4, o5, o6, o7, o8, o9, o10, o11] e)) (v0 v1 v2 v3 v4 v5 v6 v7 v8 v9 v10 v11 : Value) :
    ((((((((((((W.setCell ⟨b, 0, none⟩ v0).setCell ⟨b, 1, none⟩ v1).setCell ⟨b, 2, none⟩ v2).setCell ⟨b, 3, none⟩ v3).setCell ⟨b, 4, none⟩ v4).setCell ⟨b, 5, none⟩ v5).setCell ⟨b, 6, none⟩ v6).setCell ⟨b, 7, none⟩ v7).setCell ⟨b, 8, none⟩ v8).setCell ⟨b, 9, none⟩ v9).setCell ⟨b, 10, none⟩ v10).setCell ⟨b, 11, none⟩ v11).heap[b]? = some (.cells #[v0, v1, v2, v3, v4, v5, v6, v7, v8, v9, v10, v11] e) ∧ W.grownBy ((((((((((((W.setCell ⟨b, 0, none⟩ v0).setCell ⟨b, 1, none⟩ v1).setCell ⟨b, 2, none⟩ v2).setCell ⟨b, 3, none⟩ v3).setCell ⟨b, 4, none⟩ v4).setCell ⟨b, 5, none⟩ v5).setCell ⟨b, 6, none⟩ v6).setCell ⟨b, 7, none⟩ v7).setCell ⟨b, 8, none⟩ v8).setCell ⟨b, 9, none⟩ v9).setCell ⟨b, 10, none⟩ v10).setCell ⟨b, 11, none⟩ v11) (some b) := by
  have h0 : (W.setCell ⟨b, 0, none⟩ v0).heap[b]? = some (.cells #[v0, o1, o2, o3, o4, o5, o6, o7, o8, o9, o10, o11] e) := heap_setCell_same W b 0 _ e v0 A
  have h1 : ((W.setCell ⟨b, 0, none⟩ v0).setCell ⟨b, 1, none⟩ v1).heap[b]? = some (.cells #[v0, v1, o2, o3, o4, o5, o6, o7, o8, o9, o10, o11] e) := heap_setCell_same (W.setCell ⟨b, 0, none⟩ v0) b 1 _ e v1 h0
  have h2 : (((W.setCell ⟨b, 0, none⟩ v0).setCell ⟨b, 1, none⟩ v1).setCell ⟨b, 2, none⟩ v2).heap[b]? = some (.cells #[v0, v1, v2, o3, o4, o5, o6, o7, o8, o9, o10, o11] e) := heap_setCell_same ((W.setCell ⟨b, 0, none⟩ v0).setCell ⟨b, 1, none⟩ v1) b 2 _ e v2 h1
  have h3 : ((((W.setCell ⟨b, 0, none⟩ v0).setCell ⟨b, 1, none⟩ v1).setCell ⟨b, 2, none⟩ v2).setCell ⟨b, 3, none⟩ v3).heap[b]? = some (.cells #[v0, v1, v2, v3, o4, o5, o6, o7, o8, o9, o10, o11] e) := heap_setCell_same (((W.setCell ⟨b, 0, none⟩ v0).setCell ⟨b, 1, none⟩ v1).setCell ⟨b, 2, none⟩ v2) b 3 _ e v3 h2
  have h4 : (((((W.setCell ⟨b, 0, none⟩ v0).setCell ⟨b, 1, none⟩ v1).setCell ⟨b, 2, none⟩ v2).setCell ⟨b, 3, none⟩ v3).setCell ⟨b, 4, none⟩ v4).heap[b]? = some (.cells #[v0, v1, v2, v3, v4, o5, o6, o7, o8, o9, o10, o11] e) := heap_setCell_same ((((W.setCell ⟨b, 0, none⟩ v0).setCell ⟨b, 1, none⟩ v1).setCell ⟨b, 2, none⟩ v2).setCell ⟨b, 3, none⟩ v3) b 4 _ e v4 h3
  have h5 : ((((((W.setCell ⟨b, 0, none⟩ v0).setCell ⟨b, 1, none⟩ v1).setCell ⟨b, 2, none⟩ v2).setCell ⟨b, 3, none⟩ v3).setCell ⟨b, 4, none⟩ v4).setCell ⟨b, 5, none⟩ v5).heap[b]? = some (.cells #[v0, v1, v2, v3, v4, v5, o6, o7, o8, o9, o10, o11] e) := heap_setCell_same (((((W.setCell ⟨b, 0, none⟩ v0).setCell ⟨b, 1, none⟩ v1).setCell ⟨b, 2, none⟩ v2).setCell ⟨b, 3, none⟩ v3).setCell ⟨b, 4, none⟩ v4) b 5 _ e v5 h4
  have h6 : (((((((W.setCell ⟨b, 0, none⟩ v0).setCell ⟨b, 1, none⟩ v1).setCell ⟨b, 2, none⟩ v2).setCell ⟨b, 3, none⟩ v3).setCell ⟨b, 4, none⟩ v4).setCell ⟨b, 5, none⟩ v5).setCell ⟨b, 6, none⟩ v6).heap[b]? = some (.cells #[v0, v1, v2, v3, v4, v5, v6, o7, o8, o9, o10, o11] e) := heap_setCell_same ((((((W.setCell ⟨b, 0, none⟩ v0).setCell ⟨b, 1, none⟩ v1).setCell ⟨b, 2, none⟩ v2).setCell ⟨b, 3, none⟩ v3).setCell ⟨b, 4, none⟩ v4).setCell ⟨b, 5, none⟩ v5) b 6 _ e v6 h5
  have h7 : ((((((((W.setCell ⟨b, 0, none⟩ v0).setCell ⟨b, 1, none⟩ v1).setCell ⟨b, 2, none⟩ v2).setCell ⟨b, 3, none⟩ v3).setCell ⟨b, 4, none⟩ v4).setCell ⟨b, 5, none⟩ v5).setCell ⟨b, 6, none⟩ v6).setCell ⟨b, 7, none⟩ v7).heap[b]? = some (.cells #[v0, v1, v2, v3, v4, v5, v6, v7, o8, o9, o10, o11] e) := heap_setCell_same (((((((W.setCell ⟨b, 0, none⟩ v0).setCell ⟨b, 1, none⟩ v1).setCell ⟨b, 2, none⟩ v2).setCell ⟨b, 3, none⟩ v3).setCell ⟨b, 4, none⟩ v4).setCell ⟨b, 5, none⟩ v5).setCell ⟨b, 6, none⟩ v6) b 7 _ e v7 h6
  have h8 : (((((((((W.setCell ⟨b, 0, none⟩ v0).setCell ⟨b, 1, none⟩ v1).setCell ⟨b, 2, none⟩ v2).setCell ⟨b, 3, none⟩ v3).setCell ⟨b, 4, none⟩ v4).setCell ⟨b, 5, none⟩ v5).setCell ⟨b, 6, none⟩ v6).setCell ⟨b, 7, none⟩ v7).setCell ⟨b, 8, none⟩ v8).heap[b]? = some (.cells #[v0, v1, v2, v3, v4, v5, v6, v7, v8, o9, o10, o11] e) := heap_setCell_same ((((((((W.setCell ⟨b, 0, none⟩ v0).setCell ⟨b, 1, none⟩ v1).setCell ⟨b, 2, none⟩ v2).setCell ⟨b, 3, none⟩ v3).setCell ⟨b, 4, none⟩ v4).setCell ⟨b, 5, none⟩ v5).setCell ⟨b, 6, none⟩ v6).setCell ⟨b, 7, none⟩ v7) b 8 _ e v8 h7
  have h9 : ((((((((((W.setCell ⟨b, 0, none⟩ v0).setCell ⟨b, 1, none⟩ v1).setCell ⟨b, 2, none⟩ v2).setCell ⟨b, 3, none⟩ v3).setCell ⟨b, 4, none⟩ v4).setCell ⟨b, 5, none⟩ v5).setCell ⟨b, 6, none⟩ v6).setCell ⟨b, 7, none⟩ v7).setCell ⟨b, 8, none⟩ v8).setCell ⟨b, 9, none⟩ v9).heap[b]? = some (.cells #[v0, v1, v2, v3, v4, v5, v6, v7, v8, v9, o10, o11] e) := heap_setCell_same (((((((((W.setCell ⟨b, 0, none⟩ v0).setCell ⟨b, 1, none⟩ v1).setCell ⟨b, 2, none⟩ v2).setCell ⟨b, 3, none⟩ v3).setCell ⟨b, 4, none⟩ v4).setCell ⟨b, 5, none⟩ v5).setCell ⟨b, 6, none⟩ v6).setCell ⟨b, 7, none⟩ v7).setCell ⟨b, 8, none⟩ v8) b 9 _ e v9 h8
  have h10 : (((((((((((W.setCell ⟨b, 0, none⟩ v0).setCell ⟨b, 1, none⟩ v1).setCell ⟨b, 2, none⟩ v2).setCell ⟨b, 3, none⟩ v3).setCell ⟨b, 4, none⟩ v4).setCell ⟨b, 5, none⟩ v5).setCell ⟨b, 6, none⟩ v6).setCell ⟨b, 7, none⟩ v7).setCell ⟨b, 8, none⟩ v8).setCell ⟨b, 9, none⟩ v9).setCell ⟨b, 10, none⟩ v10).heap[b]? = some (.cells #[v0, v1, v2, v3, v4, v5, v6, v7, v8, v9, v10, o11] e) := heap_setCell_same ((((((((((W.setCell ⟨b, 0, none⟩ v0).setCell ⟨b, 1, none⟩ v1).setCell ⟨b, 2, none⟩ v2).setCell ⟨b, 3, none⟩ v3).setCell ⟨b, 4, none⟩ v4).setCell ⟨b, 5, none⟩ v5).setCell ⟨b, 6, none⟩ v6).setCell ⟨b, 7, none⟩ v7).setCell ⟨b, 8, none⟩ v8).setCell ⟨b, 9, none⟩ v9) b 10 _ e v10 h9
  have h11 : ((((((((((((W.setCell ⟨b, 0, none⟩ v0).setCell ⟨b, 1, none⟩ v1).setCell ⟨b, 2, none⟩ v2).setCell ⟨b, 3, none⟩ v3).setCell ⟨b, 4, none⟩ v4).setCell ⟨b, 5, none⟩ v5).setCell ⟨b, 6, none⟩ v6).setCell ⟨b, 7, none⟩ v7).setCell ⟨b, 8, none⟩ v8).setCell ⟨b, 9, none⟩ v9).setCell ⟨b, 10, none⟩ v10).setCell ⟨b, 11, none⟩ v11).heap[b]? = some (.cells #[v0, v1, v2, v3, v4, v5, v6, v7, v8, v9, v10, v11] e) := heap_setCell_same (((((((((((W.setCell ⟨b, 0, none⟩ v0).setCell ⟨b, 1, none⟩ v1).setCell ⟨b, 2, none⟩ v2).setCell ⟨b, 3, none⟩ v3).setCell ⟨b, 4, none⟩ v4).setCell ⟨b, 5, none⟩ v5).setCell ⟨b, 6, none⟩ v6).setCell ⟨b, 7, none⟩ v7).setCell ⟨b, 8, none⟩ v8).setCell ⟨b, 9, none⟩ v9).setCell ⟨b, 10, none⟩ v10) b 11 _ e v11 h10
  have g0 := grown1 W b 0 v0
  have g1 := grownBy_trans g0 (grown1 _ b 1 v1)
  have g2 := grownBy_trans g1 (grown1 _ b 2 v2)
  have g3 := grownBy_trans g2 (grown1 _ b 3 v3)
  have g4 := grownBy_trans g3 (grown1 _ b 4 v4)
  have g5 := grownBy_trans g4 (grown1 _ b 5 v5)
  have g6 := grownBy_trans g5 (grown1 _ b 6 v6)
  have g7 := grownBy_trans g6 (grown1 _ b 7 v7)
  have g8 := grownBy_trans g7 (grown1 _ b 8 v8)
  have g9 := grownBy_trans g8 (grown1 _ b 9 v9)
  have g10 := grownBy_trans g9 (grown1 _ b 10 v10)
  have g11 := grownBy_trans g10 (grown1 _ b 11 v11)
  exact ⟨h11, g11⟩

set_option maxHeartbeats 4000000 in
theorem with_ok (w : World) :
    Calls Try.prog 18 #[.agg h0c, .func (.func 19) #[] #[]] w fun e w' => ∃ gb gc ea ec, e = .returned (.tuple #[.agg (hcells 9 0 1 (.slice none 0 0) (.slice none 0 0) 0 1 0 1 0 0 0), .slice (some ⟨gb, 0, none⟩) 1 gc, .int .i64 0]) ∧
      w'.cell? ⟨gb, 0, none⟩ = some (.slice ea 8 ec) ∧ Rd w' ea 8 ec (vb (encO 9 true true 0 [0])) ∧ w.heap.size ≤ gb ∧ (∀ b' off, ea = some ⟨b', off, none⟩ → w.heap.size ≤ b') ∧ Below w.heap.size w w' := by
  have A0 := heap_alloc_new w (.cells h0c 36)
  have B0 := below_alloc w (.cells h0c 36)
  have A1 := heap_alloc_new (w.alloc (.cells h0c 36)) (.cells (hcells 0 0 0 (.slice none 0 0) (.slice none 0 0) 0 0 0 0 0 0 0) 36)
  have B1 := below_alloc (w.alloc (.cells h0c 36)) (.cells (hcells 0 0 0 (.slice none 0 0) (.slice none 0 0) 0 0 0 0 0 0 0) 36)
  have A0 := row_below A0 B1
  have BW := B0.trans (B1.mono B0.size)
  simp only [World.size_alloc] at A1
  clear B0 B1
  go_enter Try.func18, Try.ntmps18
  unfold h0c hcells at *
  go_wp2_with fail
  generalize (w.alloc (.cells #[.int .i64 9, .int .i64 0, .int .i64 1, .slice none 0 0, .slice none 0 0, .int .i64 0, .int .i64 1, .int .i64 0, .int .i64 1, .int .i64 0, .int .i64 0, .int .i64 15] 36)).alloc (.cells #[.int .i64 0, .int .i64 0, .int .i64 0, .slice none 0 0, .slice none 0 0, .int .i64 0, .int .i64 0, .int .i64 0, .int .i64 0, .int .i64 0, .int .i64 0, .int .i64 0] 36) = W at *
  refine (ready_h0 W).mono ?_
  rintro e V ⟨rfl, b1⟩
  have A0 := row_below A0 b1
  have A1 := row_below A1 b1
  have BV := BW.trans (b1.mono BW.size)
  clear b1 BW
  go_wp2_with fail
  refine wp_region_can_all [2, 5, 7, 9] [0, 1, 3, 4, 2, 6, 5, 7, 8, 9] (Keeps w.heap.size w.heap.size) (Keeps.refl _ _) (Keeps.trans _ _) (by kernel_rfl) (by kernel_rfl) ?_
  have A0 : V.drew.heap[w.heap.size]? = _ := A0
  have A1 : V.drew.heap[w.heap.size + 1]? = _ := A1
  have BV := BV.drew
  generalize V.drew = V at *
  have k3 : ∀ w', Keeps w.heap.size w.heap.size V w' → w'.cell? ⟨w.heap.size, 3, none⟩ = some (.slice none 0 0) := fun w' hk => by rw [cell_of_row _ _ _ _ _ _ (hk.2 A0)]; rfl
  have k4 : ∀ w', Keeps w.heap.size w.heap.size V w' → w'.cell? ⟨w.heap.size, 4, none⟩ = some (.slice none 0 0) := fun w' hk => by rw [cell_of_row _ _ _ _ _ _ (hk.2 A0)]; rfl
  simp only [List.map_cons, List.map_nil, List.contains_cons, List.contains_nil, List.getD_cons_zero, List.getD_cons_succ, Nat.reduceBEq, Bool.or_false, Bool.or_true]
  repeat (refine wpL_do rfl (fun w' hw' => (by go_simp; rfl)) ?_; simp only [Act.put, List.setIfInBounds_toArray, List.set_cons_succ, List.set_cons_zero])
  refine wpL_call rfl (fun K hK => ?_)
  go_wp2_with fail
  refine (clones_nil V).mono ?_
  rintro e w' ⟨rfl, rfl⟩
  refine hK _ _ (Keeps.refl _ _ _) ?_
  clear hK K
  try simp only [Act.put, List.setIfInBounds_toArray, List.set_cons_succ, List.set_cons_zero]
  repeat (refine wpL_do rfl (fun w' hw' => (by go_simp; rfl)) ?_; simp only [Act.put, List.setIfInBounds_toArray, List.set_cons_succ, List.set_cons_zero])
  refine wpL_call rfl (fun K hK => ?_)
  go_wp2_with fail
  refine (clones_nil V).mono ?_
  rintro e w' ⟨rfl, rfl⟩
  refine hK _ _ (Keeps.refl _ _ _) ?_
  clear hK K
  try simp only [Act.put, List.setIfInBounds_toArray, List.set_cons_succ, List.set_cons_zero]
  repeat (refine wpL_do rfl (fun w' hw' => (by go_simp; rfl)) ?_; simp only [Act.put, List.setIfInBounds_toArray, List.set_cons_succ, List.set_cons_zero])
  have c3 := k3 V (Keeps.refl _ _ _)
  have fz := frozen_row A0
  refine wpL_call rfl (fun K hK => ?_)
  go_wp2_with fail
  refine hK _ _ (keeps_store V 3 _ rfl (Nat.le_refl _)) ?_
  clear hK K
  try simp only [Act.put, List.setIfInBounds_toArray, List.set_cons_succ, List.set_cons_zero]
  have BV1 := BV.grown (grown1 V w.heap.size 3 (.slice none 0 0)) BV.size (fun k e => by cases e; exact Nat.le_refl _)
  have A01 := (keeps_store V 3 (.slice none 0 0) rfl (Nat.le_refl w.heap.size)).2 A0
  have A11 := row_grown A1 (grown1 V w.heap.size 3 (.slice none 0 0)) (by omega)
  have q4 : ∀ w', Keeps w.heap.size w.heap.size (V.setCell ⟨w.heap.size, 3, none⟩ (.slice none 0 0)) w' → w'.cell? ⟨w.heap.size, 4, none⟩ = some (.slice none 0 0) := fun w' hk => by rw [cell_of_row _ _ _ _ _ _ (hk.2 A01)]; rfl
  clear A0 A1 BV k3 k4 c3 fz
  generalize V.setCell ⟨w.heap.size, 3, none⟩ (.slice none 0 0) = V1 at *
  repeat (refine wpL_do rfl (fun w' hw' => (by go_simp; rfl)) ?_; simp only [Act.put, List.setIfInBounds_toArray, List.set_cons_succ, List.set_cons_zero])
  have c4 := q4 V1 (Keeps.refl _ _ _)
  have fz := frozen_row A01
  refine wpL_call rfl (fun K hK => ?_)
  go_wp2_with fail
  refine hK _ _ (keeps_store V1 4 _ rfl (Nat.le_refl _)) ?_
  clear hK K
  try simp only [Act.put, List.setIfInBounds_toArray, List.set_cons_succ, List.set_cons_zero]
  have BV := BV1.grown (grown1 V1 w.heap.size 4 (.slice none 0 0)) BV1.size (fun k e => by cases e; exact Nat.le_refl _)
  have A0 := (keeps_store V1 4 (.slice none 0 0) rfl (Nat.le_refl w.heap.size)).2 A01
  have A1 := row_grown A11 (grown1 V1 w.heap.size 4 (.slice none 0 0)) (by omega)
  clear A01 A11 BV1 q4 c4 fz
  generalize V1.setCell ⟨w.heap.size, 4, none⟩ (.slice none 0 0) = V2 at *
  refine wpL_nil ?_
  obtain ⟨c0, c1, c2, c3, c4, c5, c6, c7, c8, c9, c10, c11⟩ := hAt_row (show V2.heap[w.heap.size]? = some (.cells (hcells 9 0 1 (.slice none 0 0) (.slice none 0 0) 0 1 0 1 0 0 15) 36) from A0)
  have bX := below_alloc V2 (.cells (xcells 15 (.slice none 0 0)) 63)
  have aX := heap_alloc_new V2 (.cells (xcells 15 (.slice none 0 0)) 63)
  go_wp2_with fail
  refine (free1_ok V2.heap.size _ aX).mono ?_
  rintro e V3 ⟨gb, gc, ea, ec, rfl, hx, hgb, hge, hlow, hr, gV⟩
  have hHl : w.heap.size + 1 < V2.heap.size := (Array.getElem?_eq_some_iff.1 A1).1
  have A1 := row_grown (row_below A1 bX) gV (by omega)
  have BV := (BV.trans (bX.mono BV.size)).grown gV (by have := BV.size; simp; omega) (fun k e => by cases e; omega)
  have hbne : V2.heap.size ≠ w.heap.size + 1 := by omega
  have hgbl : V2.heap.size < gb := by simp at hge; omega
  have hlow : ∀ b' off, ea = some ⟨b', off, none⟩ → V2.heap.size < b' := fun b' off he => by have := hlow b' off he; simp at this; omega
  clear A0 c0 c1 c2 c3 c4 c5 c6 c7 c8 c9 c10 c11 bX aX gV hge
  generalize hb : V2.heap.size = b at *
  clear hb
  go_wp2_with fail
  refine wp_region_can_all [9] [0, 1, 2, 3, 4, 5, 6, 7, 8, 9, 10, 11] (fun u u' => u.grownBy u' (some (w.heap.size + 1))) (fun u => World.grownBy.refl u _) (fun _ _ _ h k => grownBy_trans h k) (by kernel_rfl) (by kernel_rfl) ?_
  have A1 : V3.drew.heap[w.heap.size + 1]? = _ := A1
  have hx : V3.drew.heap[b]? = _ := hx
  have hgb : V3.drew.cell? ⟨gb, 0, none⟩ = _ := hgb
  have hr := hr.below ((Below.refl _ V3).drew)
  have BV := BV.drew
  generalize V3.drew = V4 at *
  have n0 : ∀ w', V4.grownBy w' (some (w.heap.size + 1)) → w'.cell? ⟨b, 0, none⟩ = some (.int .i64 9) := fun w' hw => by rw [cell_of_row _ _ _ _ _ _ (row_grown hx hw hbne)]; rfl
  have n1 : ∀ w', V4.grownBy w' (some (w.heap.size + 1)) → w'.cell? ⟨b, 1, none⟩ = some (.int .i64 0) := fun w' hw => by rw [cell_of_row _ _ _ _ _ _ (row_grown hx hw hbne)]; rfl
  have n2 : ∀ w', V4.grownBy w' (some (w.heap.size + 1)) → w'.cell? ⟨b, 2, none⟩ = some (.int .i64 1) := fun w' hw => by rw [cell_of_row _ _ _ _ _ _ (row_grown hx hw hbne)]; rfl
  have n3 : ∀ w', V4.grownBy w' (some (w.heap.size + 1)) → w'.cell? ⟨b, 3, none⟩ = some (.slice none 0 0) := fun w' hw => by rw [cell_of_row _ _ _ _ _ _ (row_grown hx hw hbne)]; rfl
  have n4 : ∀ w', V4.grownBy w' (some (w.heap.size + 1)) → w'.cell? ⟨b, 4, none⟩ = some (.slice none 0 0) := fun w' hw => by rw [cell_of_row _ _ _ _ _ _ (row_grown hx hw hbne)]; rfl
  have n5 : ∀ w', V4.grownBy w' (some (w.heap.size + 1)) → w'.cell? ⟨b, 5, none⟩ = some (.int .i64 0) := fun w' hw => by rw [cell_of_row _ _ _ _ _ _ (row_grown hx hw hbne)]; rfl
  have n6 : ∀ w', V4.grownBy w' (some (w.heap.size + 1)) → w'.cell? ⟨b, 6, none⟩ = some (.int .i64 1) := fun w' hw => by rw [cell_of_row _ _ _ _ _ _ (row_grown hx hw hbne)]; rfl
  have n7 : ∀ w', V4.grownBy w' (some (w.heap.size + 1)) → w'.cell? ⟨b, 7, none⟩ = some (.int .i64 0) := fun w' hw => by rw [cell_of_row _ _ _ _ _ _ (row_grown hx hw hbne)]; rfl
  have n8 : ∀ w', V4.grownBy w' (some (w.heap.size + 1)) → w'.cell? ⟨b, 8, none⟩ = some (.int .i64 1) := fun w' hw => by rw [cell_of_row _ _ _ _ _ _ (row_grown hx hw hbne)]; rfl
  have n9 : ∀ w', V4.grownBy w' (some (w.heap.size + 1)) → w'.cell? ⟨b, 9, none⟩ = some (.int .i64 0) := fun w' hw => by rw [cell_of_row _ _ _ _ _ _ (row_grown hx hw hbne)]; rfl
  have n10 : ∀ w', V4.grownBy w' (some (w.heap.size + 1)) → w'.cell? ⟨b, 10, none⟩ = some (.int .i64 0) := fun w' hw => by rw [cell_of_row _ _ _ _ _ _ (row_grown hx hw hbne)]; rfl
  have n11 : ∀ w', V4.grownBy w' (some (w.heap.size + 1)) → w'.cell? ⟨b, 11, none⟩ = some (.int .i64 0) := fun w' hw => by rw [cell_of_row _ _ _ _ _ _ (row_grown hx hw hbne)]; rfl
  have n12 : ∀ w', V4.grownBy w' (some (w.heap.size + 1)) → w'.cell? ⟨b, 12, none⟩ = some (.slice (some ⟨gb, 0, none⟩) 1 gc) := fun w' hw => by rw [cell_of_row _ _ _ _ _ _ (row_grown hx hw hbne)]; rfl
  simp only [List.map_cons, List.map_nil, List.contains_cons, List.contains_nil, List.getD_cons_zero, List.getD_cons_succ, Nat.reduceBEq, Bool.or_false]
  repeat (refine wpL_do rfl (fun w' hw' => (by go_simp; rfl)) ?_; simp only [Act.put, List.setIfInBounds_toArray, List.set_cons_succ, List.set_cons_zero])
  obtain ⟨z0, z1, z2, z3, z4, z5, z6, z7, z8, z9, z10, z11⟩ := hAt_row (show V4.heap[w.heap.size + 1]? = some (.cells (hcells 0 0 0 (.slice none 0 0) (.slice none 0 0) 0 0 0 0 0 0 0) 36) from A1)
  have fz := frozen_row A1
  clear n0 n1 n2 n3 n4 n5 n6 n7 n8 n9 n10 n11 n12
  refine wpL_call rfl (fun K hK => ?_)
  go_wp2_with fail
  obtain ⟨A9, g9⟩ := twelve A1 (.int .i64 9) (.int .i64 0) (.int .i64 1) (.slice none 0 0) (.slice none 0 0) (.int .i64 0) (.int .i64 1) (.int .i64 0) (.int .i64 1) (.int .i64 0) (.int .i64 0) (.int .i64 0)
  refine hK _ _ g9 ?_
  clear hK K
  try simp only [Act.put, List.setIfInBounds_toArray, List.set_cons_succ, List.set_cons_zero]
  have BV9 := BV.grown g9 BV.size (fun k e => by cases e; omega)
  have hgb9 := (World.cell?_of_block (w := V4) (a := ⟨gb, 0, none⟩) (g9.block gb (World.block_lt_of_cell? V4 _ hgb) (by simp; omega))).trans hgb
  have hr9 := hr.grown g9 (fun b' off _ he => by have := hlow b' off he; intro e; cases e; omega)
  clear fz z0 z1 z2 z3 z4 z5 z6 z7 z8 z9 z10 z11 hgb hr BV A1 hx g9
  generalize ((((((((((((V4.setCell ⟨w.heap.size + 1, 0, none⟩ (.int .i64 9)).setCell ⟨w.heap.size + 1, 1, none⟩ (.int .i64 0)).setCell ⟨w.heap.size + 1, 2, none⟩ (.int .i64 1)).setCell ⟨w.heap.size + 1, 3, none⟩ (.slice none 0 0)).setCell ⟨w.heap.size + 1, 4, none⟩ (.slice none 0 0)).setCell ⟨w.heap.size + 1, 5, none⟩ (.int .i64 0)).setCell ⟨w.heap.size + 1, 6, none⟩ (.int .i64 1)).setCell ⟨w.heap.size + 1, 7, none⟩ (.int .i64 0)).setCell ⟨w.heap.size + 1, 8, none⟩ (.int .i64 1)).setCell ⟨w.heap.size + 1, 9, none⟩ (.int .i64 0)).setCell ⟨w.heap.size + 1, 10, none⟩ (.int .i64 0)).setCell ⟨w.heap.size + 1, 11, none⟩ (.int .i64 0)) = V9 at *
  repeat (refine wpL_do rfl (fun w' hw' => (by go_simp; rfl)) ?_; simp only [Act.put, List.setIfInBounds_toArray, List.set_cons_succ, List.set_cons_zero])
  refine wpL_nil ?_
  go_wp2_with fail
  obtain ⟨y0, y1, y2, y3, y4, y5, y6, y7, y8, y9, y10, y11⟩ := hAt_row (show V9.heap[w.heap.size + 1]? = some (.cells (hcells 9 0 1 (.slice none 0 0) (.slice none 0 0) 0 1 0 1 0 0 0) 36) from A9)
  refine bodyPost_ret (by simp only [results, Try.results18, go_sem]; simp [go_sem, y0, y1, y2, y3, y4, y5, y6, y7, y8, y9, y10, y11]; rfl) rfl ?_
  exact ⟨gb, gc, ea, ec, rfl, hgb9, hr9, by omega, (fun b' off he => by have := hlow b' off he; omega), BV9⟩

theorem free_ok (w : World) :
    Calls Try.prog 8 #[.agg h0c] w fun e w' => ∃ gb gc ea ec, e = .returned (.tuple #[.agg (hcells 9 0 1 (.slice none 0 0) (.slice none 0 0) 0 1 0 1 0 0 0), .slice (some ⟨gb, 0, none⟩) 1 gc, .int .i64 0]) ∧
      w'.cell? ⟨gb, 0, none⟩ = some (.slice ea 8 ec) ∧ Rd w' ea 8 ec (vb (encO 9 true true 0 [0])) ∧ Below w.heap.size w w' := by
  have A0 := heap_alloc_new w (.cells h0c 36)
  have B0 := below_alloc w (.cells h0c 36)
  have A1 := heap_alloc_new (w.alloc (.cells h0c 36)) (.cells (hcells 0 0 0 (.slice none 0 0) (.slice none 0 0) 0 0 0 0 0 0 0) 36)
  have B1 := below_alloc (w.alloc (.cells h0c 36)) (.cells (hcells 0 0 0 (.slice none 0 0) (.slice none 0 0) 0 0 0 0 0 0 0) 36)
  have BW := B0.trans (B1.mono B0.size)
  simp only [World.size_alloc] at A1
  clear A0 B0 B1
  go_enter Try.func8, Try.ntmps8
  unfold h0c hcells at *
  go_wp2_with fail
  generalize (w.alloc (.cells #[.int .i64 9, .int .i64 0, .int .i64 1, .slice none 0 0, .slice none 0 0, .int .i64 0, .int .i64 1, .int .i64 0, .int .i64 1, .int .i64 0, .int .i64 0, .int .i64 15] 36)).alloc (.cells #[.int .i64 0, .int .i64 0, .int .i64 0, .slice none 0 0, .slice none 0 0, .int .i64 0, .int .i64 0, .int .i64 0, .int .i64 0, .int .i64 0, .int .i64 0, .int .i64 0] 36) = W at *
  have hWl := (Array.getElem?_eq_some_iff.1 A1).1
  refine (with_ok W).mono ?_
  rintro e V ⟨gb, gc, ea, ec, rfl, hgb, hr, hlo, hlow, b1⟩
  have A1 := row_below A1 b1
  have BV := BW.trans (b1.mono BW.size)
  unfold hcells
  obtain ⟨z0, z1, z2, z3, z4, z5, z6, z7, z8, z9, z10, z11⟩ := hAt_row (show V.heap[w.heap.size + 1]? = some (.cells (hcells 0 0 0 (.slice none 0 0) (.slice none 0 0) 0 0 0 0 0 0 0) 36) from A1)
  have fz := frozen_row A1
  go_wp2_with fail
  obtain ⟨A9, g9⟩ := twelve A1 (.int .i64 9) (.int .i64 0) (.int .i64 1) (.slice none 0 0) (.slice none 0 0) (.int .i64 0) (.int .i64 1) (.int .i64 0) (.int .i64 1) (.int .i64 0) (.int .i64 0) (.int .i64 0)
  have BV9 := BV.grown g9 BV.size (fun k e => by cases e; omega)
  have hgb9 := (World.cell?_of_block (w := V) (a := ⟨gb, 0, none⟩) (g9.block gb (World.block_lt_of_cell? V _ hgb) (by simp; omega))).trans hgb
  have hr9 := hr.grown g9 (fun b' off _ he => by have := hlow b' off he; intro e; cases e; omega)
  clear fz z0 z1 z2 z3 z4 z5 z6 z7 z8 z9 z10 z11 hgb hr BV A1 g9
  generalize ((((((((((((V.setCell ⟨w.heap.size + 1, 0, none⟩ (.int .i64 9)).setCell ⟨w.heap.size + 1, 1, none⟩ (.int .i64 0)).setCell ⟨w.heap.size + 1, 2, none⟩ (.int .i64 1)).setCell ⟨w.heap.size + 1, 3, none⟩ (.slice none 0 0)).setCell ⟨w.heap.size + 1, 4, none⟩ (.slice none 0 0)).setCell ⟨w.heap.size + 1, 5, none⟩ (.int .i64 0)).setCell ⟨w.heap.size + 1, 6, none⟩ (.int .i64 1)).setCell ⟨w.heap.size + 1, 7, none⟩ (.int .i64 0)).setCell ⟨w.heap.size + 1, 8, none⟩ (.int .i64 1)).setCell ⟨w.heap.size + 1, 9, none⟩ (.int .i64 0)).setCell ⟨w.heap.size + 1, 10, none⟩ (.int .i64 0)).setCell ⟨w.heap.size + 1, 11, none⟩ (.int .i64 0)) = V9 at *
  obtain ⟨y0, y1, y2, y3, y4, y5, y6, y7, y8, y9, y10, y11⟩ := hAt_row (show V9.heap[w.heap.size + 1]? = some (.cells (hcells 9 0 1 (.slice none 0 0) (.slice none 0 0) 0 1 0 1 0 0 0) 36) from A9)
  refine bodyPost_ret (by simp only [results, Try.results8, go_sem]; simp [go_sem, y0, y1, y2, y3, y4, y5, y6, y7, y8, y9, y10, y11]; rfl) rfl ?_
  exact ⟨gb, gc, ea, ec, rfl, hgb9, hr9, BV9⟩
end Go.Proofs.Ytkngoomkmbkenaa
/- A hand that may be: ready. -/
namespace Go.Proofs.Ytkngoomkmbkenaa
set_option linter.unusedVariables false
open Go.RowKit

set_option maxRecDepth 1000000 in
theorem fr19 (y : Nat → Value) : fr 19 y = #[y 0, y 1, y 2, y 3, y 4, y 5, y 6, y 7, y 8, y 9, y 10, y 11, y 12, y 13, y 14, y 15, y 16, y 17, y 18] := rfl
theorem odd_ok (a : Option Addr) (n c : Nat) (W : World) (h1 : 1 ≤ n) (h2 : n ≤ 1017) : Calls Try.prog 39 #[.slice a n c] W fun e w' => e = .returned (.bool false) ∧ W = w' := by
  go_enter Try.func39, Try.ntmps39
  go_wp2_with fail
  refine (in_yes _ _ _ _ (by omega)).mono ?_
  rintro e w' ⟨rfl, rfl⟩
  go_wp2_with fail
  go_ret
  exact ⟨rfl, rfl⟩
def IxI (W0 : World) (pa : Option Addr) (pn pc : Nat) (y : Nat → Value) (W : World) : Prop :=
  ∃ k : Nat, k ≤ pn ∧ y 0 = .slice pa pn pc ∧ y 1 = .func (.func 39) #[] #[] ∧ y 7 = .int .i64 (pn : Int) ∧ y 8 = .int .i64 (k : Int) ∧ W = W0
theorem pk_at {W : World} {pa : Option Addr} {pn pc : Nat} {R : List RB} (h : PkT W pa pn pc R) (i : Nat) (hi : i < pn) :
    ∃ b off, pa = some ⟨b, off, none⟩ ∧ b < W.heap.size ∧ ∃ r, R[i]? = some r ∧ r ∈ R ∧ W.cell? ⟨b, off + i, none⟩ = some (.slice r.1.1 r.1.2.1 r.1.2.2) ∧ RdT 5 W r.1.1 r.1.2.1 r.1.2.2 (vb r.2) := by
  obtain ⟨b, off, ra, rn, rc, bs, h1, h2, h3, h4, h5, h6⟩ := h.pk.at_ i hi
  exact ⟨b, off, h1, h2, _, h5, h4, h3, h.rows _ h4⟩
set_option maxRecDepth 1000000 in
set_option maxHeartbeats 4000000 in
theorem contains_ok (pa : Option Addr) (pn pc : Nat) (R : List RB) (W0 : World) (hp : PkT W0 pa pn pc R) (hlen : ∀ r ∈ R, 1 ≤ r.2.length ∧ r.2.length ≤ 1017) (hpn : pn ≤ 1000) :
    Calls Try.prog 40 #[.slice pa pn pc, .func (.func 39) #[] #[]] W0 fun e w' => e = .returned (.bool false) ∧ W0 = w' := by
  go_enter Try.func40, Try.ntmps40
  go_wp2_with fail
  refine (show Calls Try.prog 42 #[.slice pa pn pc, .func (.func 39) #[] #[]] W0 fun e w' => e = .returned (.int .i64 (-1)) ∧ W0 = w' from ?_).mono ?_
  · have HP := hid hp
    have HL := hid hlen
    clear hp hlen
    go_enter Try.func42, Try.ntmps42
    refine wp_seq_k (fun K0 hK0 => ?_)
    go_wp2_with fail
    refine hK0.out _ _ ?_
    refine wp_seq_k (fun K1 hK1 => ?_)
    refine wp_seq_k (fun K2 hK2 => ?_)
    go_wp2_with fail
    refine hK2.out _ _ ?_
    refine wp_block ?_
    refine wp_loop_fr 19 (IxI W0 pa pn pc) (fun y' _ => pn - (intOf (y' 8)).toNat) ⟨rfl, rfl, 0, Nat.zero_le _, rfl, rfl, rfl, rfl, rfl⟩ ?_
    rintro z W ⟨k, hk, s0, s1, s7, s8, rfl⟩
    rw [fr19]
    simp only [s0, s1, s7, s8]
    clear s0 s1 s7 s8
    by_cases hlt : k < pn
    · have d1 : decide ((k : Int) < (pn : Int)) = true := decide_eq_true (by omega)
      have hkI : (k : Int) < (pn : Int) := by omega
      obtain ⟨b, off, rfl, hb, r, hr1, hr2, hr3, hr4⟩ := pk_at HP.out k hlt
      obtain ⟨hl1, hl2⟩ := HL.out r hr2
      have hrn : r.2.length = r.1.2.1 := by have := hr4.rd.len; rwa [vb_len] at this
      have hodd := odd_ok r.1.1 r.1.2.1 r.1.2.2 W (by omega) (by omega)
      clear hr1 hr2 hr4 hl1 hl2 hrn
      obtain ⟨⟨ra, rn, rc⟩, bs⟩ := r
      dsimp only at hr3 hodd
      go_upto_block 1 with (fail)
      refine wp_block ?_
      refine wp_seq_k (fun K3 hK3 => ?_)
      go_wp2_with fail
      refine hK3.out _ _ ?_
      go_wp2_with fail
      refine hodd.mono ?_
      rintro e w' ⟨rfl, hw'⟩
      rw [← hw']
      clear hw' w' hodd
      go_wp2_with fail
      refine ⟨rfl, rfl, ⟨k + 1, by omega, rfl, rfl, rfl, ?_, rfl⟩, ?_⟩
      · show Value.int .i64 _ = Value.int .i64 _
        go_num
      · show pn - (intOf (Value.int .i64 _)).toNat < _
        simp [intOf]
        omega
    · obtain rfl : k = pn := by omega
      have d1 : decide ((k : Int) < (k : Int)) = false := decide_eq_false (by omega)
      go_wp2_with fail
      refine hK1.out _ _ ?_
      go_wp2_with fail
      go_ret
      exact ⟨rfl, rfl⟩
  · rintro e w' ⟨rfl, rfl⟩
    go_wp2_with fail
    go_ret
    exact ⟨rfl, rfl⟩
/-- a hand in a tick -/
structure HN (N ah tm pt tr si pz : Nat) (ha : Int) (sn qn : Nat) : Prop where
  hN : N ≤ 255
  ah1 : 1 ≤ ah
  ah2 : ah ≤ 127
  pt1 : 1 ≤ pt
  pt2 : pt ≤ 1000
  hpz : pz ≤ 1000
  hsn : sn ≤ ah
  hqn : qn ≤ 100
  htm : tm < pt
  htr : tr ≤ 100
  hsi : si ≤ pz
  hha : ha = 0 ∨ ha = 19
set_option maxRecDepth 1000000 in
set_option maxHeartbeats 4000000 in
theorem ready_ok (N ah tm pt tr si pz : Nat) (ha : Int) (sa qa : Option Addr) (sn sc qn qc : Nat) (Rs Rq : List RB) (w : World) (h : HN N ah tm pt tr si pz ha sn qn) (hs : PkT w sa sn sc Rs) (hq : PkT w qa qn qc Rq) (hl1 : ∀ r ∈ Rs, 1 ≤ r.2.length ∧ r.2.length ≤ 1017) (hl2 : ∀ r ∈ Rq, 1 ≤ r.2.length ∧ r.2.length ≤ 1017) :
    Calls Try.prog 30 #[.agg (hcells 3 (N : Int) (ah : Int) (.slice sa sn sc) (.slice qa qn qc) (tm : Int) (pt : Int) (tr : Int) 100 (si : Int) (pz : Int) ha)] w fun e w' => e = .returned (.bool true) ∧ Below w.heap.size w w' := by
  obtain ⟨k1, k2, k3, k4, k5, k6, k7, k8, k9, k10, k11, k12⟩ := h
  have A := heap_alloc_new w (.cells (hcells 3 (N : Int) (ah : Int) (.slice sa sn sc) (.slice qa qn qc) (tm : Int) (pt : Int) (tr : Int) 100 (si : Int) (pz : Int) ha) 36)
  have BA := below_alloc w (.cells (hcells 3 (N : Int) (ah : Int) (.slice sa sn sc) (.slice qa qn qc) (tm : Int) (pt : Int) (tr : Int) 100 (si : Int) (pz : Int) ha) 36)
  have HS := hid hs
  have HQ := hid hq
  have HL1 := hid hl1
  have HL2 := hid hl2
  clear hs hq hl1 hl2
  unfold hcells at *
  go_enter Try.func30, Try.ntmps30
  refine wp_seq_k (fun K0 hK0 => ?_)
  go_wp2_with fail
  refine hK0.out _ _ ?_
  generalize hPe : w.heap.size = P at *
  have HPe := hid hPe
  clear hPe
  have HA := hid A
  have HBA := hid BA
  clear A BA
  generalize w.alloc (.cells #[.int .i64 3, .int .i64 (N : Int), .int .i64 (ah : Int), .slice sa sn sc, .slice qa qn qc, .int .i64 (tm : Int), .int .i64 (pt : Int), .int .i64 (tr : Int), .int .i64 100, .int .i64 (si : Int), .int .i64 (pz : Int), .int .i64 ha] 36) = W at *
  refine wp_seq_k (fun K1 hK1 => ?_)
  go_wp2_with fail
  refine hK1.out _ _ ?_
  obtain ⟨c0, c1, c2, c3, c4, c5, c6, c7, c8, c9, c10, c11⟩ := hAt_row (show W.heap[P]? = some (.cells (hcells 3 (N : Int) (ah : Int) (.slice sa sn sc) (.slice qa qn qc) (tm : Int) (pt : Int) (tr : Int) 100 (si : Int) (pz : Int) ha) 36) from HA.out)
  have hri := ready_is 3 ah pt pz 100 W (by omega) (by omega) (by omega) (by omega) (by omega)
  refine wp_seq_k (fun K2 hK2 => ?_)
  go_wp2_with fail
  refine hri.mono ?_
  rintro e V ⟨rfl, B⟩
  have HB1 := hid (HBA.out.trans (B.mono (by rw [← HPe.out]; exact HBA.out.size)))
  have HA1 := hid (row_below HA.out B)
  clear hri B HA HBA c0 c1 c2 c3 c4 c5 c6 c7 c8 c9 c10 c11
  unfold hcells
  go_wp2_with fail
  refine hK2.out _ _ ?_
  have bN := below_alloc V (.cells #[.int .i64 3, .int .i64 0, .int .i64 (ah : Int), .slice none 0 0, .slice none 0 0, .int .i64 0, .int .i64 (pt : Int), .int .i64 0, .int .i64 100, .int .i64 (pz : Int), .int .i64 (pz : Int), .int .i64 0] 36)
  have HA2 := hid (row_below HA1.out bN)
  have HB2 := hid (HB1.out.trans (bN.mono (by rw [← HPe.out]; exact HB1.out.size)))
  clear bN HA1 HB1
  generalize V.alloc (.cells #[.int .i64 3, .int .i64 0, .int .i64 (ah : Int), .slice none 0 0, .slice none 0 0, .int .i64 0, .int .i64 (pt : Int), .int .i64 0, .int .i64 100, .int .i64 (pz : Int), .int .i64 (pz : Int), .int .i64 0] 36) = W2 at *
  obtain ⟨c0, c1, c2, c3, c4, c5, c6, c7, c8, c9, c10, c11⟩ := hAt_row (show W2.heap[P]? = some (.cells (hcells 3 (N : Int) (ah : Int) (.slice sa sn sc) (.slice qa qn qc) (tm : Int) (pt : Int) (tr : Int) 100 (si : Int) (pz : Int) ha) 36) from HA2.out)
  have d1 : decide ((ah : Int) < (sn : Int)) = false := decide_eq_false (by omega)
  have d2 : decide ((sn : Int) > (ah : Int)) = false := decide_eq_false (by omega)
  have d3 : decide ((100 : Int) < (qn : Int)) = false := decide_eq_false (by omega)
  have d4 : decide ((qn : Int) > 100) = false := decide_eq_false (by omega)
  have d5 : decide (100 < qn) = false := decide_eq_false (by omega)
  have d6 : decide (ah < sn) = false := decide_eq_false (by omega)
  have hc1 := contains_ok sa sn sc Rs W2 (HS.out.below (by rw [HPe.out]; exact HB2.out)) HL1.out (by omega)
  have hc2 := contains_ok qa qn qc Rq W2 (HQ.out.below (by rw [HPe.out]; exact HB2.out)) HL2.out (by omega)
  have a1 : IntKind.i64.wrap ((pt : Int) - 1) = (pt : Int) - 1 := IntWalk.i64_in _ (by omega)
  refine wp_seq_k (fun K3 hK3 => ?_)
  go_wp2_with (first
    | (go_at_call 12; refine (in_yes _ _ _ _ (by omega)).mono ?_; rintro e w' ⟨rfl, hw'⟩; rw [← hw']; clear hw' w')
    | (go_at_call 40; refine hc1.mono ?_; rintro e w' ⟨rfl, hw'⟩; rw [← hw']; clear hw' w')
    | (go_at_call 40; refine hc2.mono ?_; rintro e w' ⟨rfl, hw'⟩; rw [← hw']; clear hw' w'))
  refine hK3.out _ _ ?_
  rcases k12 with rfl | rfl
  · go_wp2_with fail
    go_ret
    exact ⟨rfl, HB2.out⟩
  · go_wp2_with fail
    go_ret
    exact ⟨rfl, HB2.out⟩
end Go.Proofs.Ytkngoomkmbkenaa
