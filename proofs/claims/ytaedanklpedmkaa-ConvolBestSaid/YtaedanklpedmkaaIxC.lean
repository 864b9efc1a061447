/- An element of an array value; one of a list of numbers. -/
import Derived.Test.YtaedanklpedmkaaRankC
import Derived.Laws.PanicsMore
namespace Go.Proofs.Ytaedanklpedmkaa
set_option linter.unusedVariables false
open Go.RowKit

theorem Try.info3 : (Try.prog.info? 3).map (fun i => (i.zero, i.size, i.bytes)) = some (some (.int .i64 0), 1, 8) := by kernel_rfl
theorem Try.info60 : (Try.prog.info? 60).map (fun i => (i.zero, i.size, i.bytes)) = some (some (.int .u64 0), 1, 8) := by kernel_rfl
theorem ix50 (l : List Nat) (k : Nat) (hl : l.length = 64) (hk : k < 64) (w : World) : (Instr.index 50 (.agg (vi l).toArray) (.int .i64 (k : Int))).run Try.prog w = .ok (.int .i64 (nth l k : Nat)) w := by
  have hn : 0 ≤ (k : Int) ∧ (k : Int) < 64 := by omega
  have e := vi_get l k (by omega)
  obtain ⟨i, h1, h2, h3, h4⟩ := info_parts Try.info3
  simp [Instr.index, run_underlying Try.underlying50, asIntOf, hn, hk, go_sem, sizeOf, typeInfo, h1, h3, e]
theorem ix61 (l : List Nat) (k : Nat) (hl : l.length = 128) (hk : k < 128) (w : World) : (Instr.index 61 (.agg (vi l).toArray) (.int .i64 (k : Int))).run Try.prog w = .ok (.int .i64 (nth l k : Nat)) w := by
  have hn : 0 ≤ (k : Int) ∧ (k : Int) < 128 := by omega
  have e := vi_get l k (by omega)
  obtain ⟨i, h1, h2, h3, h4⟩ := info_parts Try.info3
  simp [Instr.index, run_underlying Try.underlying61, asIntOf, hn, hk, go_sem, sizeOf, typeInfo, h1, h3, e]
end Go.Proofs.Ytaedanklpedmkaa
