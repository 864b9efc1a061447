/- Keys: own, of a ring of no key. -/
import Derived.Test.YtdeeilahefnicaaCloneR
import Derived.Carry
namespace Go.Proofs.Ytdeeilahefnicaa
set_option linter.unusedVariables false
open Go.RowKit

set_option maxRecDepth 100000 in
theorem own_none (w : World) : Calls Try.prog 14 #[.agg #[.slice none 0 0]] w fun e w' => e = .returned (.tuple #[.agg #[.slice none 0 0], .bool true]) ∧ Below w.heap.size w w' := by
  have A1 := heap_alloc_new w (.cells #[.slice none 0 0] 33)
  have b1 := below_alloc w (.cells #[.slice none 0 0] 33)
  have A2 := heap_alloc_new (w.alloc (.cells #[.slice none 0 0] 33)) (.cells #[.slice none 0 0] 33)
  have b2 := below_alloc (w.alloc (.cells #[.slice none 0 0] 33)) (.cells #[.slice none 0 0] 33)
  have hm := fun (w : World) => run_makeMap (P := Try.prog) 63 w
  have z1 : (w.alloc (.cells #[.slice none 0 0] 33)).heap.size = w.heap.size + 1 := by simp
  rw [z1] at A2
  have A1 := row_below A1 b2
  have bb := b1.trans (b2.mono b1.size)
  go_enter Try.func14, Try.ntmps14
  go_wp2_with fail
  refine (cloneR_nil _).mono ?_
  rintro e V ⟨rfl, bV⟩
  generalize (w.alloc (.cells #[.slice none 0 0] 33)).alloc (.cells #[.slice none 0 0] 33) = w2 at *
  have b3 := below_alloc w2 (.map #[] 0)
  have b4 := b3.trans (bV.mono b3.size)
  have A1 := row_below A1 b4
  have A2 := row_below A2 b4
  have hB := bb.trans (b4.mono bb.size)
  clear b1 b2 b3 b4 bV bb z1
  have c1 : V.cell? ⟨w.heap.size, 0, none⟩ = some (.slice none 0 0) := by rw [cell_of_row _ _ _ _ _ _ A1]; rfl
  have c2 : V.cell? ⟨w.heap.size + 1, 0, none⟩ = some (.slice none 0 0) := by rw [cell_of_row _ _ _ _ _ _ A2]; rfl
  have f1 := frozen_row A1
  have f2 := frozen_row A2
  go_wp2_with fail
  obtain ⟨B1, g1⟩ := set_row (cs' := #[.slice none 0 0]) A1 0 (.slice none 0 0) rfl
  have B2 := row_grown A2 g1 (by omega)
  have hB1 := hB.grown g1 hB.size (fun b e => by cases e; exact Nat.le_refl _)
  clear c1 c2 f1 f2 A1 A2 g1 hB
  generalize V.setCell ⟨w.heap.size, 0, none⟩ (.slice none 0 0) = V2 at *
  have c1 : V2.cell? ⟨w.heap.size, 0, none⟩ = some (.slice none 0 0) := by rw [cell_of_row _ _ _ _ _ _ B1]; rfl
  have c2 : V2.cell? ⟨w.heap.size + 1, 0, none⟩ = some (.slice none 0 0) := by rw [cell_of_row _ _ _ _ _ _ B2]; rfl
  have f1 := frozen_row B1
  have f2 := frozen_row B2
  go_loop [20] (fun v => v = .int .i64 0) (fun _ => 0)
  case atStart => rfl
  case round =>
    subst hrel
    go_wp2_with fail
    obtain ⟨D2, g2⟩ := set_row (cs' := #[.slice none 0 0]) B2 0 (.slice none 0 0) rfl
    have y0 : (V2.setCell ⟨w.heap.size + 1, 0, none⟩ (.slice none 0 0)).cell? ⟨w.heap.size + 1, 0, none⟩ = some (.slice none 0 0) := by rw [cell_of_row _ _ _ _ _ _ D2]; rfl
    have hB2 := hB1.grown g2 hB1.size (fun b e => by cases e; exact Nat.le_succ _)
    generalize V2.setCell ⟨w.heap.size + 1, 0, none⟩ (.slice none 0 0) = V3 at *
    refine bodyPost_ret (by simp only [results, Try.results14, go_sem]; simp [go_sem, y0]; rfl) rfl ?_
    exact ⟨rfl, hB2⟩
end Go.Proofs.Ytdeeilahefnicaa
