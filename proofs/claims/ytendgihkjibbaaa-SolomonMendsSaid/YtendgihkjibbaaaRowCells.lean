/- Rows that are known whole: bytes. -/
import Derived.Test.YtendgihkjibbaaaCatS
import Derived.Test.YtendgihkjibbaaaRow
namespace Go.Proofs.Ytendgihkjibbaaa
set_option linter.unusedVariables false
open Go.RowKit

/-- 'make([]byte, m)' -/
theorem run_mkB (m : Nat) (hm : m ≤ 140737488355328) (u : World) : (Instr.makeSlice 22 (.int .i64 (m : Int)) (.int .i64 (m : Int))).run Try.prog u =
    .ok (.slice (some ⟨u.heap.size, 0, none⟩) m m) (u.alloc (.cells (madeCells #[.int .u8 0] m) 5)) := by
  obtain ⟨i0, hi, hz0, hz1, hz2⟩ := info_parts Try.info5
  have h := run_make (P := Try.prog) u 22 5 i0 (.int .u8 0) Try.underlying22 hi hz0 .i64 .i64 (m : Int) (m : Int) (by omega) (Int.le_refl _) (by rw [hz2]; omega) (by omega)
  simpa [hz1, Value.cells] using h
theorem made_cellsB (m : Nat) : madeCells #[.int .u8 0] m = (vb (List.replicate m 0)).toArray := by
  apply Array.toList_inj.1
  rw [toList_madeCells_one]
  simp [vb]
theorem own_of_heap {w : World} {B g n : Nat} {xs : List Value} {e : TypeId} (h : w.heap[g]? = some (.cells xs.toArray e)) (hl : xs.length = n) (hB : B ≤ g) (hn : n ≤ maxLen) : w.ownsRow B e 1 (.slice (some ⟨g, 0, none⟩) n n) n xs :=
  ⟨by omega, .inr ⟨g, n, xs.toArray, rfl, hB, h, Nat.le_refl _, hn, by simp [hl], by rw [Nat.mul_one, List.toList_toArray, ← hl, List.take_length]⟩⟩
theorem cell_row8 {w : World} {B : Nat} {r : List Nat} (h : w.heap[B]? = some (.cells (vb r).toArray 5)) (i : Nat) (hi : i < r.length) : w.cell? ⟨B, i, none⟩ = some (.int .u8 (nth r i : Nat)) := by
  rw [cell_of_row _ _ _ _ _ _ h, List.getElem?_toArray, vb_get _ _ hi]
theorem take_snocN (l : List Nat) (k : Nat) (h : k < l.length) : l.take (k + 1) = l.take k ++ [nth l k] := by
  rw [List.take_succ_eq_append_getElem h, nth_get h]
end Go.Proofs.Ytendgihkjibbaaa
