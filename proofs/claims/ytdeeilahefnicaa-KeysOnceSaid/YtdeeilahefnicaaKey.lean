/- Keys: key: the law's own key. -/
import Derived.Test.YtdeeilahefnicaaCloneK
namespace Go.Proofs.Ytdeeilahefnicaa
set_option linter.unusedVariables false
open Go.RowKit

theorem i64_rng (z : Int) : -9223372036854775808 ≤ IntKind.i64.wrap z ∧ IntKind.i64.wrap z ≤ 9223372036854775807 := by rw [IntKind.wrap_i64]; omega
theorem wrap64_rng (z : Int) : -9223372036854775808 ≤ wrap64 z ∧ wrap64 z ≤ 9223372036854775807 := by unfold wrap64; omega

theorem four4 {W : World} {b : Nat} {e : TypeId} {o0 o1 o2 o3 : Value} (A : W.heap[b]? = some (.cells #[o0, o1, o2, o3] e)) (v0 v1 v2 v3 : Value) :
    ((((W.setCell ⟨b, 0, none⟩ v0).setCell ⟨b, 1, none⟩ v1).setCell ⟨b, 2, none⟩ v2).setCell ⟨b, 3, none⟩ v3).heap[b]? = some (.cells #[v0, v1, v2, v3] e) ∧
      W.grownBy ((((W.setCell ⟨b, 0, none⟩ v0).setCell ⟨b, 1, none⟩ v1).setCell ⟨b, 2, none⟩ v2).setCell ⟨b, 3, none⟩ v3) (some b) := by
  obtain ⟨h0, g0⟩ := set_row (cs' := #[v0, o1, o2, o3]) A 0 v0 rfl
  obtain ⟨h1, g1⟩ := set_row (cs' := #[v0, v1, o2, o3]) h0 1 v1 rfl
  obtain ⟨h2, g2⟩ := set_row (cs' := #[v0, v1, v2, o3]) h1 2 v2 rfl
  obtain ⟨h3, g3⟩ := set_row (cs' := #[v0, v1, v2, v3]) h2 3 v3 rfl
  exact ⟨h3, grownBy_trans (grownBy_trans (grownBy_trans g0 g1) g2) g3⟩

set_option maxHeartbeats 4000000 in
set_option maxRecDepth 100000 in
theorem key_ok (id seed : Int) (W : World) (hi : I64 id) (hs : I64 seed) :
    Calls Try.prog 5 #[.int .i64 id, .int .i64 seed] W fun e w' => ∃ (p : Nat) (g c : Nat) (ws : List Int), e = .returned (.agg #[.int .i64 (p : Int), .slice (some ⟨g, 0, none⟩) 8 c, .int .i64 (-1), .int .i64 0]) ∧ p < 256 ∧ Words ws ∧ w'.ownsRow W.heap.size 3 1 (.slice (some ⟨g, 0, none⟩) 8 c) 8 (vz ws) ∧ Below W.heap.size W w' := by
  obtain ⟨i0, hi0, hz0, hz1, hz2⟩ := info_parts Try.info3
  go_enter Try.func5, Try.ntmps5
  have A4 := heap_alloc_new W (.cells #[.int .i64 0, .slice none 0 0, .int .i64 0, .int .i64 0] 25)
  have b4 := below_alloc W (.cells #[.int .i64 0, .slice none 0 0, .int .i64 0, .int .i64 0] 25)
  go_wp2_with fail
  refine (pick_any id 256 _ hi.1 hi.2 (by decide) (by decide)).mono ?_
  rintro e w' ⟨p, rfl, hp, _, rfl⟩
  have hp : p < 256 := hp
  generalize W.alloc (.cells #[.int .i64 0, .slice none 0 0, .int .i64 0, .int .i64 0] 25) = V at *
  have A5 := heap_alloc_new V (.cells #[.int .i64 (p : Int), .slice none 0 0, .int .i64 (-1), .int .i64 0] 25)
  have b5 := below_alloc V (.cells #[.int .i64 (p : Int), .slice none 0 0, .int .i64 (-1), .int .i64 0] 25)
  have A4 := row_below A4 b5
  have hB := b4.trans (b5.mono b4.size)
  have hlt : W.heap.size < V.heap.size := by have := b4.size; exact row_lt (row_below (W := V) (by assumption) (Below.refl _ _))
  go_wp2_with fail
  clear b4 b5
  generalize V.alloc (.cells #[.int .i64 (p : Int), .slice none 0 0, .int .i64 (-1), .int .i64 0] 25) = V1 at *
  generalize V.heap.size = kb at *
  go_loopw [6] (fun k' wr => ∃ (k : Nat) (oa : Option Addr) (oc : Nat) (ws : List Int), k' = .int .i64 (k : Int) ∧ k ≤ 8 ∧ wr.heap[W.heap.size]? = some (.cells #[.int .i64 0, .slice none 0 0, .int .i64 0, .int .i64 0] 25) ∧ wr.heap[kb]? = some (.cells #[.int .i64 (p : Int), .slice oa k oc, .int .i64 (-1), .int .i64 0] 25) ∧
      wr.ownsRow W.heap.size 3 1 (.slice oa k oc) k (vz ws) ∧ (∀ z ∈ ws, 0 ≤ z ∧ z < 4294967296) ∧ Below W.heap.size W wr) (fun k' _ => 8 - (intOf k').toNat)
  case atStart => exact ⟨0, none, 0, [], rfl, by decide, A4, A5, World.ownsRow_nil _ _ _ _, (fun z hz => by cases hz), hB⟩
  case round =>
    clear A4 A5 hB
    obtain ⟨k, oa, oc, ws, rfl, hk, A4, A5, oR, hws, hB⟩ := hrel
    by_cases hk8 : k < 8
    · have t1 : (k : Int) < 8 := by omega
      go_wp2_with fail
      have hkl : kb < wr.heap.size := row_lt A5
      have c1 : wr.drew.cell? ⟨kb, 1, none⟩ = some (.slice oa k oc) := by rw [cell_of_row wr.drew _ _ _ _ _ A5]; rfl
      have A4 := row_drew A4
      have A5 := row_drew A5
      have oR := oR.drew
      have hB := hB.drew
      have hkl : kb < wr.drew.heap.size := hkl
      refine wp_region_can 12 [8, 9, 10] [0, 1, 2, 3, 4, 5, 6, 7, 8, 9, 10, 11] (fun u u' => u'.cell? ⟨kb, 1, none⟩ = u.cell? ⟨kb, 1, none⟩) (fun _ => rfl) (fun _ _ _ h k => k.trans h) (by kernel_rfl) (by kernel_rfl) ?_
      simp only [List.map_cons, List.map_nil, List.contains_cons, List.contains_nil, List.getD_cons_zero, List.getD_cons_succ, Nat.reduceBEq, Bool.or_false]
      generalize wr.drew = U at *
      have n1 : ∀ w' : World, w'.cell? ⟨kb, 1, none⟩ = U.cell? ⟨kb, 1, none⟩ → w'.cell? ⟨kb, 1, none⟩ = some (.slice oa k oc) := fun w' hw => hw.trans c1
      repeat (refine wpL_do rfl (fun w' hw' => (by go_simp; rfl)) ?_; simp only [Act.put, List.setIfInBounds_toArray, List.set_cons_succ, List.set_cons_zero])
      clear n1
      refine wpL_call rfl (fun K hK => ?_)
      go_wp2_with fail
      refine (pick_any _ 4294967296 U (by first | exact (i64_rng _).1 | exact (wrap64_rng _).1) (by first | exact (i64_rng _).2 | exact (wrap64_rng _).2) (by decide) (by decide)).mono ?_
      rintro e w' ⟨x, rfl, hx, _, rfl⟩
      have hx : x < 4294967296 := hx
      refine hK _ _ rfl ?_
      clear hK K
      try simp only [Act.put, List.setIfInBounds_toArray, List.set_cons_succ, List.set_cons_zero]
      refine wpL_call rfl (fun K hK => ?_)
      go_wp2_with fail
      have g7 := below_alloc U (.cells #[.int .i64 (x : Int)] 3)
      refine hK _ _ (g7.cell (p := ⟨kb, 1, none⟩) hkl) ?_
      clear hK K
      try simp only [Act.put, List.setIfInBounds_toArray, List.set_cons_succ, List.set_cons_zero]
      have o7 := ownsRow_below oR g7
      have A4 := row_below A4 g7
      have A5 := row_below A5 g7
      have hB := hB.trans (g7.mono hB.size)
      have hn7 := cell_one_new U (.int .i64 (x : Int)) 3
      have hkl : kb < (U.alloc (.cells #[.int .i64 (x : Int)] 3)).heap.size := row_lt A5
      refine wpL_call rfl (fun K hK => ?_)
      refine wp_append_own _ (.tmp 15) (.tmp 23) 23 rfl W.heap.size 3 i0 _ 1 8 Try.underlying23 hi0 hz0 hz1 hz2 rfl (by decide) _ k (vz ws) rfl o7 ⟨U.heap.size, 0, none⟩ 1 1 [.int .i64 (x : Int)] rfl rfl hn7 (by simp [Value.oneCell']) (by unfold maxLen; omega) (by omega) (Nat.le_trans hB.size (Nat.le_refl _)) ?_
      intro v' W8 oV gV _
      obtain ⟨va', vc', rfl, _, _⟩ := own_slice oV
      have A4 := row_kept A4 o7 gV (by decide)
      have A5 := row_kept A5 o7 gV (by decide)
      refine hK _ _ ((cell_of_row _ _ 1 _ _ _ A5).trans (by rw [cell_of_row _ _ 1 _ _ _ (by assumption)])) ?_
      clear hK K
      try simp only [Act.put, List.setIfInBounds_toArray, List.set_cons_succ, List.set_cons_zero]
      repeat (refine wpL_do rfl (fun w' hw' => (by go_simp; rfl)) ?_; simp only [Act.put, List.setIfInBounds_toArray, List.set_cons_succ, List.set_cons_zero])
      refine wpL_nil ?_
      have c8 : W8.cell? ⟨kb, 1, none⟩ = some (.slice oa k oc) := by rw [cell_of_row _ _ _ _ _ _ A5]; rfl
      have fz := frozen_row A5 1
      obtain ⟨A59, g9⟩ := set_row (cs' := #[.int .i64 (p : Int), .slice va' (k + 1) vc', .int .i64 (-1), .int .i64 0]) A5 1 (.slice va' (k + 1) vc') rfl
      have A49 := row_grown A4 g9 (by omega)
      have oR9 := oV.kept g9 (own_ne oV A5 (by decide))
      have hB7 := hB.grown gV hB.size (fun b e => (o7.lt b e).1)
      have hB9 := hB7.grown g9 hB7.size (fun b e => by cases e; omega)
      have hws9 : ∀ z ∈ ws ++ [(x : Int)], 0 ≤ z ∧ z < 4294967296 := fun z hz => by
        rcases List.mem_append.1 hz with h | h
        · exact hws z h
        · simp at h; subst h; omega
      have HW9 := hid hws9
      rw [show vz ws ++ [Value.int .i64 (x : Int)] = vz (ws ++ [(x : Int)]) by rw [vz_append]; rfl] at oR9
      clear gV o7 g7 hB hB7 oR oV g9 hws9 hws hn7
      go_wp2_with fail
      change Exit.inBlock 1 _ Exit.normal _ _
      go_wp2_with fail
      go_roundw
      case rel => exact ⟨k + 1, va', vc', ws ++ [(x : Int)], by go_num, by omega, A49, A59, oR9, HW9.out, hB9⟩
      case measure => simp [intOf]; omega
    · obtain rfl : k = 8 := by omega
      try rw [show ((8 : Nat) : Int) = 8 from rfl]
      clear hk8
      have c0 : wr.cell? ⟨kb, 0, none⟩ = some (.int .i64 (p : Int)) := by rw [cell_of_row _ _ _ _ _ _ A5]; rfl
      have c1 : wr.cell? ⟨kb, 1, none⟩ = some (.slice oa 8 oc) := by rw [cell_of_row _ _ _ _ _ _ A5]; rfl
      have c2 : wr.cell? ⟨kb, 2, none⟩ = some (.int .i64 (-1)) := by rw [cell_of_row _ _ _ _ _ _ A5]; rfl
      have c3 : wr.cell? ⟨kb, 3, none⟩ = some (.int .i64 0) := by rw [cell_of_row _ _ _ _ _ _ A5]; rfl
      have r0 : wr.cell? ⟨W.heap.size, 0, none⟩ = some (.int .i64 0) := by rw [cell_of_row _ _ _ _ _ _ A4]; rfl
      have r1 : wr.cell? ⟨W.heap.size, 1, none⟩ = some (.slice none 0 0) := by rw [cell_of_row _ _ _ _ _ _ A4]; rfl
      have r2 : wr.cell? ⟨W.heap.size, 2, none⟩ = some (.int .i64 0) := by rw [cell_of_row _ _ _ _ _ _ A4]; rfl
      have r3 : wr.cell? ⟨W.heap.size, 3, none⟩ = some (.int .i64 0) := by rw [cell_of_row _ _ _ _ _ _ A4]; rfl
      have fz := frozen_row A4
      go_wp2_with fail
      obtain ⟨Z, gz⟩ := four4 A4 (.int .i64 (p : Int)) (.slice oa 8 oc) (.int .i64 (-1)) (.int .i64 0)
      have y0 := cell_of_row _ _ 0 _ _ _ Z
      have y1 := cell_of_row _ _ 1 _ _ _ Z
      have y2 := cell_of_row _ _ 2 _ _ _ Z
      have y3 := cell_of_row _ _ 3 _ _ _ Z
      have oR9 := oR.kept gz (own_ne oR A4 (by decide))
      have hB9 := hB.grown gz hB.size (fun b e => by cases e; exact Nat.le_refl _)
      obtain ⟨g, rfl⟩ := own_addr oR (by decide)
      have hwl : ws.length = 8 := by have := oR.1; rw [vz_len] at this; omega
      generalize (((wr.setCell ⟨W.heap.size, 0, none⟩ (.int .i64 (p : Int))).setCell ⟨W.heap.size, 1, none⟩ (.slice (some ⟨g, 0, none⟩) 8 oc)).setCell ⟨W.heap.size, 2, none⟩ (.int .i64 (-1))).setCell ⟨W.heap.size, 3, none⟩ (.int .i64 0) = W9 at *
      replace y0 : W9.cell? ⟨W.heap.size, 0, none⟩ = some (.int .i64 (p : Int)) := y0
      replace y1 : W9.cell? ⟨W.heap.size, 1, none⟩ = some (.slice (some ⟨g, 0, none⟩) 8 oc) := y1
      replace y2 : W9.cell? ⟨W.heap.size, 2, none⟩ = some (.int .i64 (-1)) := y2
      replace y3 : W9.cell? ⟨W.heap.size, 3, none⟩ = some (.int .i64 0) := y3
      refine bodyPost_ret (by simp only [results, Try.results5, go_sem]; simp [go_sem, y0, y1, y2, y3]; rfl) rfl ?_
      exact ⟨p, g, oc, ws, rfl, hp, ⟨hwl, hws⟩, oR9, hB9⟩
end Go.Proofs.Ytdeeilahefnicaa
