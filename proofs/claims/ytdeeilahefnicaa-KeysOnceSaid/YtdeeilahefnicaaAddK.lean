/- Keys: Add, to a ring of no key. -/
import Derived.Test.YtdeeilahefnicaaOwn
import Derived.Test.YtdeeilahefnicaaFlat
import Derived.Maps.AppendAt
namespace Go.Proofs.Ytdeeilahefnicaa
set_option linter.unusedVariables false
open Go.RowKit

set_option maxHeartbeats 1000000 in
set_option maxRecDepth 100000 in
theorem add_none (id top seen : Int) (a : Addr) (wc : Nat) (ws : List Int) (h : KeyOk id top seen ws) (W : World) (hW : Rd W (some a) 8 wc (vz ws)) :
    Calls Try.prog 8 #[.agg #[.slice none 0 0], .agg #[.int .i64 id, .slice (some a) 8 wc, .int .i64 top, .int .i64 seen]] W fun e w' => ∃ (g2 c2 g gc : Nat), e = .returned (.tuple #[.agg #[.slice (some ⟨g2, 0, none⟩) 1 c2], .int .i64 0]) ∧ w'.ownsRow W.heap.size 25 4 (.slice (some ⟨g2, 0, none⟩) 1 c2) 1 [.int .i64 id, .slice (some ⟨g, 0, none⟩) 8 gc, .int .i64 top, .int .i64 seen] ∧ w'.ownsRow W.heap.size 3 1 (.slice (some ⟨g, 0, none⟩) 8 gc) 8 (vz ws) ∧ Below W.heap.size W w' := by
  obtain ⟨i0, hi, hz0, hz1, hz2⟩ := info_parts Try.info25
  have A1 := heap_alloc_new W (.cells #[.slice none 0 0] 33)
  have b1 := below_alloc W (.cells #[.slice none 0 0] 33)
  have z1 : (W.alloc (.cells #[.slice none 0 0] 33)).heap.size = W.heap.size + 1 := by simp
  have A2 := heap_alloc_new (W.alloc (.cells #[.slice none 0 0] 33)) (.cells #[.int .i64 id, .slice (some a) 8 wc, .int .i64 top, .int .i64 seen] 25)
  have b2 := below_alloc (W.alloc (.cells #[.slice none 0 0] 33)) (.cells #[.int .i64 id, .slice (some a) 8 wc, .int .i64 top, .int .i64 seen] 25)
  have z2 : ((W.alloc (.cells #[.slice none 0 0] 33)).alloc (.cells #[.int .i64 id, .slice (some a) 8 wc, .int .i64 top, .int .i64 seen] 25)).heap.size = W.heap.size + 1 + 1 := by simp
  have A3 := heap_alloc_new ((W.alloc (.cells #[.slice none 0 0] 33)).alloc (.cells #[.int .i64 id, .slice (some a) 8 wc, .int .i64 top, .int .i64 seen] 25)) (.cells #[.slice none 0 0] 33)
  have b3 := below_alloc ((W.alloc (.cells #[.slice none 0 0] 33)).alloc (.cells #[.int .i64 id, .slice (some a) 8 wc, .int .i64 top, .int .i64 seen] 25)) (.cells #[.slice none 0 0] 33)
  rw [z1] at A2
  rw [z2] at A3
  have A1 := row_below (row_below A1 b2) b3
  have A2 := row_below A2 b3
  have bb := (b1.trans (b2.mono b1.size)).trans (b3.mono (b1.trans (b2.mono b1.size)).size)
  go_enter Try.func8, Try.ntmps8
  go_wp2_with fail
  refine (own_none _).mono ?_
  rintro e V ⟨rfl, bV⟩
  generalize ((W.alloc (.cells #[.slice none 0 0] 33)).alloc (.cells #[.int .i64 id, .slice (some a) 8 wc, .int .i64 top, .int .i64 seen] 25)).alloc (.cells #[.slice none 0 0] 33) = w2 at *
  have A1 := row_below A1 bV
  have A2 := row_below A2 bV
  have A3 := row_below A3 bV
  have hB := bb.trans (bV.mono bb.size)
  clear b1 b2 b3 z1 z2 bV bb
  have c1 : V.cell? ⟨W.heap.size, 0, none⟩ = some (.slice none 0 0) := by rw [cell_of_row _ _ _ _ _ _ A1]; rfl
  have f1 := frozen_row A1
  have k0 : V.cell? ⟨W.heap.size + 1, 0, none⟩ = some (.int .i64 id) := by rw [cell_of_row _ _ _ _ _ _ A2]; rfl
  have k1 : V.cell? ⟨W.heap.size + 1, 1, none⟩ = some (.slice (some a) 8 wc) := by rw [cell_of_row _ _ _ _ _ _ A2]; rfl
  have k2 : V.cell? ⟨W.heap.size + 1, 2, none⟩ = some (.int .i64 top) := by rw [cell_of_row _ _ _ _ _ _ A2]; rfl
  have k3 : V.cell? ⟨W.heap.size + 1, 3, none⟩ = some (.int .i64 seen) := by rw [cell_of_row _ _ _ _ _ _ A2]; rfl
  go_wp2_with fail
  obtain ⟨B1, g1⟩ := set_row (cs' := #[.slice none 0 0]) A1 0 (.slice none 0 0) rfl
  have B2 := row_grown A2 g1 (by omega)
  have B3 := row_grown A3 g1 (by omega)
  have hB1 := hB.grown g1 hB.size (fun b e => by cases e; exact Nat.le_refl _)
  clear c1 f1 k0 k1 k2 k3 A1 A2 A3 g1 hB
  generalize V.setCell ⟨W.heap.size, 0, none⟩ (.slice none 0 0) = V1 at *
  refine (may_ok id top seen (some a) wc ws h V1 (hW.below hB1)).mono ?_
  rintro e V2 ⟨rfl, b2⟩
  have B1 := row_below B1 b2
  have B2 := row_below B2 b2
  have B3 := row_below B3 b2
  have hB2 := hB1.trans (b2.mono hB1.size)
  clear b2 hB1
  have c1 : V2.cell? ⟨W.heap.size, 0, none⟩ = some (.slice none 0 0) := by rw [cell_of_row _ _ _ _ _ _ B1]; rfl
  have k0 : V2.cell? ⟨W.heap.size + 1, 0, none⟩ = some (.int .i64 id) := by rw [cell_of_row _ _ _ _ _ _ B2]; rfl
  go_wp2_with fail
  refine (find_none none 0 id V2).mono ?_
  rintro e V3 ⟨rfl, b3⟩
  have B1 := row_below B1 b3
  have B2 := row_below B2 b3
  have B3 := row_below B3 b3
  have hB3 := hB2.trans (b3.mono hB2.size)
  clear b3 hB2 c1 k0
  have c1 : V3.cell? ⟨W.heap.size, 0, none⟩ = some (.slice none 0 0) := by rw [cell_of_row _ _ _ _ _ _ B1]; rfl
  have k1 : V3.cell? ⟨W.heap.size + 1, 1, none⟩ = some (.slice (some a) 8 wc) := by rw [cell_of_row _ _ _ _ _ _ B2]; rfl
  go_wp2_with fail
  refine (clone_words a wc ws V3 (hW.below hB3)).mono ?_
  rintro e V4 ⟨g, gc, rfl, oW, b4⟩
  have B1 := row_below B1 b4
  have B2 := row_below B2 b4
  have B3 := row_below B3 b4
  have oW := ownsRow_mono oW hB3.size
  have hB4 := hB3.trans (b4.mono hB3.size)
  clear b4 hB3 c1 k1
  have k1 : V4.cell? ⟨W.heap.size + 1, 1, none⟩ = some (.slice (some a) 8 wc) := by rw [cell_of_row _ _ _ _ _ _ B2]; rfl
  have f1 := frozen_row B2
  obtain ⟨D2, g5⟩ := set_row (cs' := #[.int .i64 id, .slice (some ⟨g, 0, none⟩) 8 gc, .int .i64 top, .int .i64 seen]) B2 1 (.slice (some ⟨g, 0, none⟩) 8 gc) rfl
  have D1 := row_grown B1 g5 (by omega)
  have D3 := row_grown B3 g5 (by omega)
  have oW := oW.kept g5 (own_ne oW B2 (by decide))
  have hB5 := hB4.grown g5 hB4.size (fun b e => by cases e; exact Nat.le_succ _)
  obtain ⟨V5, hV5⟩ : ∃ V5, V5 = V4.setCell ⟨W.heap.size + 1, 1, none⟩ (.slice (some ⟨g, 0, none⟩) 8 gc) := ⟨_, rfl⟩
  rw [← hV5] at D1 D2 D3 oW hB5
  have hV5' := hV5.symm
  clear hV5 g5 B1 B2 B3 hB4
  have c1 : V5.cell? ⟨W.heap.size, 0, none⟩ = some (.slice none 0 0) := by rw [cell_of_row _ _ _ _ _ _ D1]; rfl
  have q0 : V5.cell? ⟨W.heap.size + 1, 0, none⟩ = some (.int .i64 id) := by rw [cell_of_row _ _ _ _ _ _ D2]; rfl
  have q1 : V5.cell? ⟨W.heap.size + 1, 1, none⟩ = some (.slice (some ⟨g, 0, none⟩) 8 gc) := by rw [cell_of_row _ _ _ _ _ _ D2]; rfl
  have q2 : V5.cell? ⟨W.heap.size + 1, 2, none⟩ = some (.int .i64 top) := by rw [cell_of_row _ _ _ _ _ _ D2]; rfl
  have q3 : V5.cell? ⟨W.heap.size + 1, 3, none⟩ = some (.int .i64 seen) := by rw [cell_of_row _ _ _ _ _ _ D2]; rfl
  go_wp2_with (at_builtin; refine hold ?_)
  unfold Hid
  have g7 := below_alloc V5 (.cells #[.int .i64 id, .slice (some ⟨g, 0, none⟩) 8 gc, .int .i64 top, .int .i64 seen] 25)
  have hn7 : ∀ (j : Nat) (x : Value), [Value.int .i64 id, .slice (some ⟨g, 0, none⟩) 8 gc, .int .i64 top, .int .i64 seen][j]? = some x → (V5.alloc (.cells #[.int .i64 id, .slice (some ⟨g, 0, none⟩) 8 gc, .int .i64 top, .int .i64 seen] 25)).cell? ((⟨V5.heap.size, 0, none⟩ : Addr).add j) = some x := new_cells V5 [Value.int .i64 id, .slice (some ⟨g, 0, none⟩) 8 gc, .int .i64 top, .int .i64 seen] 25
  refine wpList_append_own_at _ rfl _ _ 31 rfl W.heap.size 25 i0 _ 4 48 Try.underlying31 hi hz0 hz1 hz2 rfl (by decide) (.slice none 0 0) 0 [] rfl (World.ownsRow_nil _ _ _ _) ⟨V5.heap.size, 0, none⟩ 1 1 [.int .i64 id, .slice (some ⟨g, 0, none⟩) 8 gc, .int .i64 top, .int .i64 seen] rfl rfl hn7 (by simp [Value.oneCell']) (by unfold maxLen; omega) (by omega) (Nat.le_trans hB5.size g7.size) ?_
  intro v' V8 oV gV _ _
  obtain ⟨va', vc', rfl, _, _⟩ := own_slice oV
  obtain ⟨g2, rfl⟩ := own_addr oV (by decide)
  have D1 := row_below D1 g7
  have D3 := row_below D3 g7
  have oW := ownsRow_below oW g7
  have hB7 := hB5.trans (g7.mono hB5.size)
  have D1 : V8.heap[W.heap.size]? = _ := (gV.block _ (row_lt D1) (by simp [Value.ownBlock])).trans D1
  have D3 : V8.heap[W.heap.size + 1 + 1]? = _ := (gV.block _ (row_lt D3) (by simp [Value.ownBlock])).trans D3
  have oW := oW.kept gV (.inr (by simp [Value.ownBlock]))
  have hB8 := hB7.grown gV hB7.size (fun b e => by simp [Value.ownBlock] at e)
  clear c1 q0 q1 q2 q3 g7 hn7 gV hB5 hB7 D2
  obtain ⟨E1, g8⟩ := set_row (cs' := #[.slice (some ⟨g2, 0, none⟩) (0 + 1) vc']) D1 0 (.slice (some ⟨g2, 0, none⟩) (0 + 1) vc') rfl
  have c1 : V8.cell? ⟨W.heap.size, 0, none⟩ = some (.slice none 0 0) := by rw [cell_of_row _ _ _ _ _ _ D1]; rfl
  have f1 := frozen_row D1
  have E3 := row_grown D3 g8 (by omega)
  have oW := oW.kept g8 (own_ne oW D1 (by decide))
  have oV := oV.kept g8 (own_ne oV D1 (by decide))
  have hB9 := hB8.grown g8 hB8.size (fun b e => by cases e; exact Nat.le_refl _)
  obtain ⟨V9, hV9⟩ : ∃ V9, V9 = V8.setCell ⟨W.heap.size, 0, none⟩ (.slice (some ⟨g2, 0, none⟩) (0 + 1) vc') := ⟨_, rfl⟩
  rw [← hV9] at E1 E3 oW oV hB9
  have hV9' : V8.setCell ⟨W.heap.size, 0, none⟩ (.slice (some ⟨g2, 0, none⟩) 1 vc') = V9 := hV9.symm
  clear hV9 g8 D1 D3 hB8
  have d1 : V9.cell? ⟨W.heap.size, 0, none⟩ = some (.slice (some ⟨g2, 0, none⟩) 1 vc') := by rw [cell_of_row _ _ _ _ _ _ E1]; rfl
  have d3 : V9.cell? ⟨W.heap.size + 1 + 1, 0, none⟩ = some (.slice none 0 0) := by rw [cell_of_row _ _ _ _ _ _ E3]; rfl
  have f3 := frozen_row E3
  obtain ⟨F3, g9⟩ := set_row (cs' := #[.slice (some ⟨g2, 0, none⟩) 1 vc']) E3 0 (.slice (some ⟨g2, 0, none⟩) 1 vc') rfl
  have oW := oW.kept g9 (own_ne oW E3 (by decide))
  have oV := oV.kept g9 (own_ne oV E3 (by decide))
  have hBz := hB9.grown g9 hB9.size (fun b e => by cases e; omega)
  have y0 : (V9.setCell ⟨W.heap.size + 1 + 1, 0, none⟩ (.slice (some ⟨g2, 0, none⟩) 1 vc')).cell? ⟨W.heap.size + 1 + 1, 0, none⟩ = some (.slice (some ⟨g2, 0, none⟩) 1 vc') := by rw [cell_of_row _ _ _ _ _ _ F3]; rfl
  go_wp2_with fail
  generalize V9.setCell ⟨W.heap.size + 1 + 1, 0, none⟩ (.slice (some ⟨g2, 0, none⟩) 1 vc') = Vz at *
  refine bodyPost_ret (by simp only [results, Try.results8, go_sem]; simp [go_sem, y0]; rfl) rfl ?_
  exact ⟨g2, vc', rfl, g, gc, oV, oW, hBz⟩
end Go.Proofs.Ytdeeilahefnicaa
