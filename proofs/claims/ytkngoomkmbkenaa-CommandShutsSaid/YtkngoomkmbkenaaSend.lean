/- send, of the order that frees a gate: the walk. -/
import Derived.Test.YtkngoomkmbkenaaFree
namespace Go.Proofs.Ytkngoomkmbkenaa
set_option linter.unusedVariables false
open Go.RowKit

theorem Try.info31 : (Try.prog.info? 31).map (fun i => (i.zero, i.size, i.bytes)) = some (some (.slice none 0 0), 1, 24) := by kernel_rfl
/-- the hand at work -/
def xcells (ha : Int) (go : Value) : Array Value := #[.int .i64 9, .int .i64 0, .int .i64 1, .slice none 0 0, .slice none 0 0, .int .i64 0, .int .i64 1, .int .i64 0, .int .i64 1, .int .i64 0, .int .i64 0, .int .i64 ha, go]

theorem send_ok (b : Nat) (a : Option Addr) (c : Nat) (w : World) (h : w.heap[b]? = some (.cells (xcells 0 (.slice none 0 0)) 63)) (hr : Rd w a 1 c (vb [0])) :
    Calls Try.prog 20 #[.pointer (some ⟨b, 0, none⟩), .agg (ocells 0 true true 0 a 1 c)] w fun e w' => ∃ gb gc ea ec, e = .returned (.tuple #[]) ∧ w'.heap[b]? = some (.cells (xcells 0 (.slice (some ⟨gb, 0, none⟩) 1 gc)) 63) ∧
      w'.cell? ⟨gb, 0, none⟩ = some (.slice ea 8 ec) ∧ w.heap.size ≤ gb ∧ (∀ b' off, ea = some ⟨b', off, none⟩ → w.heap.size ≤ b') ∧ Rd w' ea 8 ec (vb (encO 9 true true 0 [0])) ∧ w.grownBy w' (some b) := by
  obtain ⟨i0, hi0, hz0, hz1, hz2⟩ := info_parts Try.info31
  have hbl := (Array.getElem?_eq_some_iff.1 h).1
  have A := heap_alloc_new w (.cells (ocells 0 true true 0 a 1 c) 33)
  have BA := below_alloc w (.cells (ocells 0 true true 0 a 1 c) 33)
  have A9 := heap_alloc_new w (.cells (ocells 9 true true 0 a 1 c) 33)
  have B9 := below_alloc w (.cells (ocells 9 true true 0 a 1 c) 33)
  have c0 : w.cell? ⟨b, 0, none⟩ = some (.int .i64 9) := by rw [cell_of_row _ _ _ _ _ _ h]; rfl
  have hx := row_below h BA
  have d0 : (w.alloc (.cells (ocells 0 true true 0 a 1 c) 33)).cell? ⟨b, 0, none⟩ = some (.int .i64 9) := by rw [cell_of_row _ _ _ _ _ _ hx]; rfl
  unfold ocells at *
  go_enter Try.func20, Try.ntmps20
  go_wp2_with fail
  refine (encode_ok 9 true true 0 a 1 c [0] _ (hr.below B9) (fun y hy => by simp at hy; omega) (by decide) (by decide) (fun _ => rfl) (by decide) (by decide)).mono ?_
  rintro e V ⟨ea, ec, rfl, oe, Be⟩
  have hx9 := row_below (row_below h B9) Be
  have BV := B9.trans (Be.mono B9.size)
  have bN := below_alloc V (.cells #[.slice ea 8 ec] 31)
  have hxN := row_below hx9 bN
  have c12 : V.cell? ⟨b, 12, none⟩ = some (.slice none 0 0) := by rw [cell_of_row _ _ _ _ _ _ hx9]; rfl
  clear A BA A9 B9 c0 hx d0 hx9
  go_wp2_with (at_builtin; refine hold ?_)
  unfold Hid
  refine wpList_append_own _ rfl _ _ 34 rfl w.heap.size 31 i0 (.slice none 0 0) 1 24 Try.underlying34 hi0 hz0 hz1 hz2 rfl (by decide) (.slice none 0 0) 0 [] rfl (World.ownsRow_nil _ _ _ _) ⟨V.heap.size, 0, none⟩ 1 1 [.slice ea 8 ec] rfl rfl (one_new V _ 31) (by simp [Value.oneCell']) (by unfold maxLen; omega) (by omega) (by have := BV.size; simp; omega) ?_
  intro v' V2 o2 g2 _
  have g2' : (V.alloc (.cells #[.slice ea 8 ec] 31)).grownBy V2 none := g2
  obtain ⟨ao, gc, rfl, _, _, hf⟩ := own_form o2
  rcases hf with ⟨_, hz, _⟩ | ⟨gb, rfl, hgb, hgl⟩
  · exact absurd hz (by decide)
  have hx2 : V2.heap[b]? = some (.cells (xcells 0 (.slice none 0 0)) 63) := (g2'.block b (Array.getElem?_eq_some_iff.1 hxN).1 (by simp)).trans hxN
  have f12 := frozen_row hx2 12
  have e12 : V2.cell? ⟨b, 12, none⟩ = some (.slice none 0 0) := by rw [cell_of_row _ _ _ _ _ _ hx2]; rfl
  go_wp2_with fail
  go_end0
  have h3 : (V2.setCell ⟨b, 12, none⟩ (.slice (some ⟨gb, 0, none⟩) 1 gc)).heap[b]? = some (.cells (xcells 0 (.slice (some ⟨gb, 0, none⟩) 1 gc)) 63) := heap_setCell_same V2 b 12 _ 63 (.slice (some ⟨gb, 0, none⟩) 1 gc) hx2
  have gS := grown1 V2 b 12 (.slice (some ⟨gb, 0, none⟩) 1 gc)
  have hgc : V2.cell? ⟨gb, 0, none⟩ = some (.slice ea 8 ec) := o2.cellAt 0 (by decide)
  have hgc2 : (V2.setCell ⟨b, 12, none⟩ (.slice (some ⟨gb, 0, none⟩) 1 gc)).cell? ⟨gb, 0, none⟩ = some (.slice ea 8 ec) := (World.cell?_of_block (w := V2) (a := ⟨gb, 0, none⟩) (gS.block gb hgl (by simp; omega))).trans hgc
  have g2b : (V.alloc (.cells #[.slice ea 8 ec] 31)).grownBy V2 (some b) := ⟨g2'.os, g2'.tape, g2'.output, g2'.size, fun k hk _ => g2'.block k hk (by simp)⟩
  have hea : ∀ b' off, 0 < 8 → ea = some ⟨b', off, none⟩ → some b' ≠ some b := fun b' off _ he => by
    obtain ⟨_, _, hv, _, _, hh⟩ := own_form oe
    cases hv
    rcases hh with ⟨h', _⟩ | ⟨g', h', h2, _⟩
    · rw [h'] at he; cases he
    · rw [h'] at he; cases he; simp at h2; intro e; cases e; omega
  have hlow : ∀ b' off, ea = some ⟨b', off, none⟩ → w.heap.size ≤ b' := fun b' off he => by
    obtain ⟨_, _, hv, _, _, hh⟩ := own_form oe
    cases hv
    rcases hh with ⟨h', _⟩ | ⟨g', h', h2, _⟩
    · rw [h'] at he; cases he
    · rw [h'] at he; cases he; simp at h2; omega
  have hr2 := ((((Rd.ofOwn oe).below bN).grown g2b hea).grown gS hea)
  have gw := grownBy_trans (grownBy_trans (grownBy_trans (grownBy_of_below BV (some b)) (grownBy_of_below bN (some b))) g2b) gS
  exact ⟨rfl, gb, ⟨gc, h3⟩, ea, ec, hgc2, hgb, hlow, hr2, gw⟩

/-- what Free does to the hand at work -/
theorem free1_ok (b : Nat) (w : World) (h : w.heap[b]? = some (.cells (xcells 15 (.slice none 0 0)) 63)) :
    Calls Try.prog 19 #[.pointer (some ⟨b, 0, none⟩)] w fun e w' => ∃ gb gc ea ec, e = .returned (.int .i64 0) ∧ w'.heap[b]? = some (.cells (xcells 0 (.slice (some ⟨gb, 0, none⟩) 1 gc)) 63) ∧
      w'.cell? ⟨gb, 0, none⟩ = some (.slice ea 8 ec) ∧ w.heap.size ≤ gb ∧ (∀ b' off, ea = some ⟨b', off, none⟩ → w.heap.size ≤ b') ∧ Rd w' ea 8 ec (vb (encO 9 true true 0 [0])) ∧ w.grownBy w' (some b) := by
  have c11 : w.cell? ⟨b, 11, none⟩ = some (.int .i64 15) := by rw [cell_of_row _ _ _ _ _ _ h]; rfl
  have c5 : w.cell? ⟨b, 5, none⟩ = some (.int .i64 0) := by rw [cell_of_row _ _ _ _ _ _ h]; rfl
  have c7 : w.cell? ⟨b, 7, none⟩ = some (.int .i64 0) := by rw [cell_of_row _ _ _ _ _ _ h]; rfl
  have c9 : w.cell? ⟨b, 9, none⟩ = some (.int .i64 0) := by rw [cell_of_row _ _ _ _ _ _ h]; rfl
  have c10 : w.cell? ⟨b, 10, none⟩ = some (.int .i64 0) := by rw [cell_of_row _ _ _ _ _ _ h]; rfl
  have fz := frozen_row h
  go_enter Try.func19, Try.ntmps19
  go_wp2_with fail
  have h1 : (w.setCell ⟨b, 11, none⟩ (.int .i64 0)).heap[b]? = some (.cells (xcells 0 (.slice none 0 0)) 63) := heap_setCell_same w b 11 _ 63 _ h
  have h2 : ((w.setCell ⟨b, 11, none⟩ (.int .i64 0)).setCell ⟨b, 5, none⟩ (.int .i64 0)).heap[b]? = some (.cells (xcells 0 (.slice none 0 0)) 63) := heap_setCell_same _ b 5 _ 63 _ h1
  have h3 : (((w.setCell ⟨b, 11, none⟩ (.int .i64 0)).setCell ⟨b, 5, none⟩ (.int .i64 0)).setCell ⟨b, 7, none⟩ (.int .i64 0)).heap[b]? = some (.cells (xcells 0 (.slice none 0 0)) 63) := heap_setCell_same _ b 7 _ 63 _ h2
  have h4 : ((((w.setCell ⟨b, 11, none⟩ (.int .i64 0)).setCell ⟨b, 5, none⟩ (.int .i64 0)).setCell ⟨b, 7, none⟩ (.int .i64 0)).setCell ⟨b, 9, none⟩ (.int .i64 0)).heap[b]? = some (.cells (xcells 0 (.slice none 0 0)) 63) := heap_setCell_same _ b 9 _ 63 _ h3
  have g4 := grownBy_trans (grownBy_trans (grownBy_trans (grown1 w b 11 (.int .i64 0)) (grown1 _ b 5 (.int .i64 0))) (grown1 _ b 7 (.int .i64 0))) (grown1 _ b 9 (.int .i64 0))
  have hsz : ((((w.setCell ⟨b, 11, none⟩ (.int .i64 0)).setCell ⟨b, 5, none⟩ (.int .i64 0)).setCell ⟨b, 7, none⟩ (.int .i64 0)).setCell ⟨b, 9, none⟩ (.int .i64 0)).heap.size = w.heap.size := by simp
  generalize (((w.setCell ⟨b, 11, none⟩ (.int .i64 0)).setCell ⟨b, 5, none⟩ (.int .i64 0)).setCell ⟨b, 7, none⟩ (.int .i64 0)).setCell ⟨b, 9, none⟩ (.int .i64 0) = W at *
  clear h1 h2 h3
  have bN := below_alloc W (.cells #[.int .u8 0] 5)
  have hN := row_below h4 bN
  have oN := World.ownsRow_lit (base := W.heap.size) (e := 5) (size := 1) W #[.int .u8 0] 1 (Nat.le_refl _) (by unfold maxLen; omega) rfl
  rw [hsz] at oN
  refine (send_ok b (some ⟨w.heap.size, 0, none⟩) 1 _ hN (Rd.ofOwn oN)).mono ?_
  rintro e V ⟨gb, gc, ea, ec, rfl, hx, hg, hgb, hlow, hr, gV⟩
  go_wp2_with fail
  go_ret
  exact ⟨gb, gc, ea, ec, rfl, hx, hg, by simp at hgb; omega, (fun b' off he => by have := hlow b' off he; simp at this; omega), hr, grownBy_trans (grownBy_trans g4 (grownBy_of_below bN (some b))) gV⟩
end Go.Proofs.Ytkngoomkmbkenaa
