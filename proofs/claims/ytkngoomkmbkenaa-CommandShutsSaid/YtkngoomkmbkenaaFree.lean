/- Free, of the hand that CommandShuts frees: the walk. -/
import Derived.Test.YtkngoomkmbkenaaClone
import Derived.Test.YtkngoomkmbkenaaRegionT
namespace Go.Proofs.Ytkngoomkmbkenaa
set_option linter.unusedVariables false
open Go.RowKit

/-- a hand's cells -/
def hcells (cr nx ah : Int) (se ak : Value) (ti pa tr li si pu ha : Int) : Array Value := #[.int .i64 cr, .int .i64 nx, .int .i64 ah, se, ak, .int .i64 ti, .int .i64 pa, .int .i64 tr, .int .i64 li, .int .i64 si, .int .i64 pu, .int .i64 ha]
structure HAt (W : World) (b : Nat) (cr nx ah : Int) (se ak : Value) (ti pa tr li si pu ha : Int) : Prop where
  c0 : W.cell? ⟨b, 0, none⟩ = some (.int .i64 cr)
  c1 : W.cell? ⟨b, 1, none⟩ = some (.int .i64 nx)
  c2 : W.cell? ⟨b, 2, none⟩ = some (.int .i64 ah)
  c3 : W.cell? ⟨b, 3, none⟩ = some se
  c4 : W.cell? ⟨b, 4, none⟩ = some ak
  c5 : W.cell? ⟨b, 5, none⟩ = some (.int .i64 ti)
  c6 : W.cell? ⟨b, 6, none⟩ = some (.int .i64 pa)
  c7 : W.cell? ⟨b, 7, none⟩ = some (.int .i64 tr)
  c8 : W.cell? ⟨b, 8, none⟩ = some (.int .i64 li)
  c9 : W.cell? ⟨b, 9, none⟩ = some (.int .i64 si)
  c10 : W.cell? ⟨b, 10, none⟩ = some (.int .i64 pu)
  c11 : W.cell? ⟨b, 11, none⟩ = some (.int .i64 ha)
theorem hAt_row {W : World} {b : Nat} {cr nx ah : Int} {se ak : Value} {ti pa tr li si pu ha : Int} {e : TypeId} (A : W.heap[b]? = some (.cells (hcells cr nx ah se ak ti pa tr li si pu ha) e)) : HAt W b cr nx ah se ak ti pa tr li si pu ha :=
  ⟨by rw [cell_of_row _ _ _ _ _ _ A]; rfl, by rw [cell_of_row _ _ _ _ _ _ A]; rfl, by rw [cell_of_row _ _ _ _ _ _ A]; rfl, by rw [cell_of_row _ _ _ _ _ _ A]; rfl, by rw [cell_of_row _ _ _ _ _ _ A]; rfl, by rw [cell_of_row _ _ _ _ _ _ A]; rfl, by rw [cell_of_row _ _ _ _ _ _ A]; rfl, by rw [cell_of_row _ _ _ _ _ _ A]; rfl, by rw [cell_of_row _ _ _ _ _ _ A]; rfl, by rw [cell_of_row _ _ _ _ _ _ A]; rfl, by rw [cell_of_row _ _ _ _ _ _ A]; rfl, by rw [cell_of_row _ _ _ _ _ _ A]; rfl⟩

theorem ready_is (cr ah pa pu li : Int) (w : World) (h1 : 0 ≤ cr ∧ cr ≤ 1023) (h2 : 1 ≤ ah ∧ ah ≤ 127) (h3 : 1 ≤ pa ∧ pa ≤ 1000) (h4 : 0 ≤ pu ∧ pu ≤ 1000) (h5 : 1 ≤ li ∧ li ≤ 100) :
    Calls Try.prog 23 #[.int .i64 cr, .int .i64 ah, .int .i64 pa, .int .i64 pu, .int .i64 li] w fun e w' => e = .returned (.tuple #[.agg (hcells cr 0 ah (.slice none 0 0) (.slice none 0 0) 0 pa 0 li pu pu 0), .int .i64 0]) ∧ Below w.heap.size w w' := by
  go_enter Try.func23, Try.ntmps23
  go_wp2_with fail
  refine (in_yes _ _ _ _ h1).mono ?_
  rintro e w' ⟨rfl, rfl⟩
  go_wp2_with fail
  refine (in_yes _ _ _ _ h2).mono ?_
  rintro e w' ⟨rfl, rfl⟩
  go_wp2_with fail
  refine (in_yes _ _ _ _ h3).mono ?_
  rintro e w' ⟨rfl, rfl⟩
  go_wp2_with fail
  refine (in_yes _ _ _ _ h4).mono ?_
  rintro e w' ⟨rfl, rfl⟩
  go_wp2_with fail
  refine (in_yes _ _ _ _ h5).mono ?_
  rintro e w' ⟨rfl, rfl⟩
  go_wp2_with fail
  have A := heap_alloc_new w (.cells (hcells cr 0 ah (.slice none 0 0) (.slice none 0 0) 0 pa 0 li pu pu 0) 36)
  have B := below_alloc w (.cells (hcells cr 0 ah (.slice none 0 0) (.slice none 0 0) 0 pa 0 li pu pu 0) 36)
  obtain ⟨g0, g1, g2, g3, g4, g5, g6, g7, g8, g9, g10, g11⟩ := hAt_row A
  unfold hcells at *
  generalize w.alloc (.cells #[.int .i64 cr, .int .i64 0, .int .i64 ah, .slice none 0 0, .slice none 0 0, .int .i64 0, .int .i64 pa, .int .i64 0, .int .i64 li, .int .i64 pu, .int .i64 pu, .int .i64 0] 36) = V at *
  refine bodyPost_ret (by simp only [results, Try.results23, go_sem]; simp [go_sem, g0, g1, g2, g3, g4, g5, g6, g7, g8, g9, g10, g11]; rfl) rfl ?_
  exact ⟨rfl, B⟩

theorem contains_nil (f : Value) (w : World) : Calls Try.prog 40 #[.slice none 0 0, f] w fun e w' => e = .returned (.bool false) ∧ w = w' := by
  go_enter Try.func40, Try.ntmps40
  go_wp2_with fail
  refine (show Calls Try.prog 42 #[.slice none 0 0, f] w fun e w' => e = .returned (.int .i64 (-1)) ∧ w = w' from ?_).mono ?_
  · go_enter Try.func42, Try.ntmps42
    go_wp2_with fail
    refine wp_loop_rounds 1 ?_
    rw [rounds_succ]
    go_wp2_with fail
    go_ret
    exact ⟨rfl, rfl⟩
  · rintro e w' ⟨rfl, rfl⟩
    go_wp2_with fail
    go_ret
    exact ⟨rfl, rfl⟩
theorem clone_nil34 (w : World) : Calls Try.prog 41 #[.slice none 0 0] w fun e w' => e = .returned (.slice none 0 0) ∧ w = w' := by
  have hk := fun (w : World) => Lib.run_eql_slice_nil (P := Try.prog) w 34 31 none 0 0 0 0 Try.underlying34
  go_enter Try.func41, Try.ntmps41
  go_wp2
  go_ret
  exact ⟨rfl, rfl⟩
theorem clones_nil (w : World) : Calls Try.prog 31 #[.slice none 0 0] w fun e w' => e = .returned (.slice none 0 0) ∧ w = w' := by
  go_enter Try.func31, Try.ntmps31
  go_wp2_with fail
  refine (clone_nil34 w).mono ?_
  rintro e w' ⟨rfl, rfl⟩
  go_wp2_with fail
  refine wp_loop_rounds 1 ?_
  rw [rounds_succ]
  go_wp2_with fail
  go_ret
  exact ⟨rfl, rfl⟩

/-- the hand that is freed -/
def h0c : Array Value := hcells 9 0 1 (.slice none 0 0) (.slice none 0 0) 0 1 0 1 0 0 15

theorem ready_h0 (w : World) : Calls Try.prog 30 #[.agg h0c] w fun e w' => e = .returned (.bool true) ∧ Below w.heap.size w w' := by
  have A := heap_alloc_new w (.cells h0c 36)
  have BA := below_alloc w (.cells h0c 36)
  go_enter Try.func30, Try.ntmps30
  unfold h0c at *
  unfold hcells at *
  go_wp2_with fail
  generalize w.alloc (.cells #[.int .i64 9, .int .i64 0, .int .i64 1, .slice none 0 0, .slice none 0 0, .int .i64 0, .int .i64 1, .int .i64 0, .int .i64 1, .int .i64 0, .int .i64 0, .int .i64 15] 36) = W at *
  refine (ready_is 9 1 1 0 1 W (by decide) (by decide) (by decide) (by decide) (by decide)).mono ?_
  rintro e V ⟨rfl, B⟩
  have A := row_below A B
  have BV := BA.trans (B.mono BA.size)
  unfold hcells
  have bN := below_alloc V (.cells (hcells 9 0 1 (.slice none 0 0) (.slice none 0 0) 0 1 0 1 0 0 0) 36)
  have A := row_below A bN
  have BV := BV.trans (bN.mono BV.size)
  unfold hcells at *
  obtain ⟨c0, c1, c2, c3, c4, c5, c6, c7, c8, c9, c10, c11⟩ := hAt_row A
  clear BA B bN A
  go_wp2_with fail
  generalize V.alloc (.cells #[.int .i64 9, .int .i64 0, .int .i64 1, .slice none 0 0, .slice none 0 0, .int .i64 0, .int .i64 1, .int .i64 0, .int .i64 1, .int .i64 0, .int .i64 0, .int .i64 0] 36) = W2 at *
  refine (in_yes _ _ _ _ (by decide)).mono ?_
  rintro e w' ⟨rfl, rfl⟩
  go_wp2_with fail
  refine (contains_nil _ _).mono ?_
  rintro e w' ⟨rfl, rfl⟩
  go_wp2_with fail
  refine (contains_nil _ _).mono ?_
  rintro e w' ⟨rfl, rfl⟩
  go_wp2_with fail
  refine (in_yes _ _ _ _ (by decide)).mono ?_
  rintro e w' ⟨rfl, rfl⟩
  go_wp2_with fail
  refine (in_yes _ _ _ _ (by decide)).mono ?_
  rintro e w' ⟨rfl, rfl⟩
  go_wp2_with fail
  refine (in_yes _ _ _ _ (by decide)).mono ?_
  rintro e w' ⟨rfl, rfl⟩
  go_wp2_with fail
  go_ret
  exact ⟨rfl, BV⟩
end Go.Proofs.Ytkngoomkmbkenaa
