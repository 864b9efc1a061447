/- Stream: OnesCount32. -/
import Derived.Test.YtlbpmepifegeiaaFrame
import Derived.Deep.QuietTactic
import Derived.BigQuiet
import Derived.Laws.BitsAllLaws
import Derived.Lib.Tables
import Derived.Test.YtlbpmepifegeiaaRegionIn
namespace Go.Proofs.Ytlbpmepifegeiaa
set_option linter.unusedVariables false
open Go.RowKit

theorem idx_op {x ix : Operand} {a : Act} {o : Oper} (y : Nat) (hy : y < 256) {k : IntKind} (ho : o.op = .index 9 x ix) (hx : a.eval x = .string Lib.pop8tab) (hi : a.eval ix = .int k (y : Int)) (w' : World) :
    (execOp a.eval o).run Try.prog w' = .ok (.value (.int .u8 (Lib.pop8 (y : Int)))) w' := by
  unfold execOp
  simp only [ho, hx, hi, Sem.run_bind, Lib.run_index_pop8tab w' 9 k (y : Int) Try.underlying9 (by omega) (by omega), Result.andThen_ok, Sem.run_pure]
theorem pop8_rng (z : Int) (h : 0 ≤ z ∧ z ≤ 255) : 0 ≤ Lib.pop8 z ∧ Lib.pop8 z ≤ 8 := by
  have key : ∀ n : Fin 256, 0 ≤ Lib.pop8 (n.val : Int) ∧ Lib.pop8 (n.val : Int) ≤ 8 := by decide +kernel
  have := key ⟨z.toNat, by omega⟩
  have e : ((z.toNat : Nat) : Int) = z := by omega
  simpa [e] using this
theorem and255 (x : Nat) (hx : x < 4294967296) : bits .and .u32 (x : Int) 255 = ((x % 256 : Nat) : Int) := by
  have h := u32_and_nat x 255 hx (by decide)
  have e : x &&& 255 = x % 256 := Nat.and_two_pow_sub_one_eq_mod x 8
  rw [e] at h
  exact h
/-- how many bits are set -/
def onesN (x : Nat) : Int := Lib.pop8 ((x / 16777216 : Nat) : Int) + Lib.pop8 ((x / 65536 % 256 : Nat) : Int) + Lib.pop8 ((x / 256 % 256 : Nat) : Int) + Lib.pop8 ((x % 256 : Nat) : Int)

set_option maxRecDepth 100000 in
theorem ones_ok (x : Nat) (hx : x < 4294967296) (w : World) : Calls Try.prog 27 #[.int .u32 (x : Int)] w fun e w' => e = .returned (.int .i64 (onesN x)) ∧ ∃ n, w' = w.drewN n := by
  have h1 : (x : Int) / 16777216 = ((x / 16777216 : Nat) : Int) := by omega
  have h2 := and255 (x / 65536) (by omega)
  have h3 := and255 (x / 256) (by omega)
  have h4 := and255 x hx
  have d2 : (x : Int) / 65536 = ((x / 65536 : Nat) : Int) := by omega
  have d3 : (x : Int) / 256 = ((x / 256 : Nat) : Int) := by omega
  have r1 := pop8_rng ((x / 16777216 : Nat) : Int) (by omega)
  have r2 := pop8_rng ((x / 65536 % 256 : Nat) : Int) (by omega)
  have r3 := pop8_rng ((x / 256 % 256 : Nat) : Int) (by omega)
  have r4 := pop8_rng ((x % 256 : Nat) : Int) (by omega)
  have HO : Hid (onesN x = Lib.pop8 ((x / 16777216 : Nat) : Int) + Lib.pop8 ((x / 65536 % 256 : Nat) : Int) + Lib.pop8 ((x / 256 % 256 : Nat) : Int) + Lib.pop8 ((x % 256 : Nat) : Int)) := rfl
  obtain ⟨y1, hy1⟩ : ∃ y, y = x / 16777216 := ⟨_, rfl⟩
  obtain ⟨y2, hy2⟩ : ∃ y, y = x / 65536 % 256 := ⟨_, rfl⟩
  obtain ⟨y3, hy3⟩ : ∃ y, y = x / 256 % 256 := ⟨_, rfl⟩
  obtain ⟨y4, hy4⟩ : ∃ y, y = x % 256 := ⟨_, rfl⟩
  obtain ⟨z2, hz2⟩ : ∃ y, y = x / 65536 := ⟨_, rfl⟩
  obtain ⟨z3, hz3⟩ : ∃ y, y = x / 256 := ⟨_, rfl⟩
  rw [← hy1] at h1 r1 HO
  rw [← hy2] at h2 r2 HO
  rw [← hy3] at h3 r3 HO
  rw [← hy4] at h4 r4 HO
  rw [← hz2] at h2 d2
  rw [← hz3] at h3 d3
  have b1 : y1 < 256 := by omega
  have b2 : y2 < 256 := by omega
  have b3 : y3 < 256 := by omega
  have b4 : y4 < 256 := by omega
  clear hy1 hy2 hy3 hy4 hz2 hz3
  generalize onesN x = o at *
  go_enter Try.func27, Try.ntmps27
  go_wp2_with fail
  refine wp_region_can_all [] [0, 1, 2, 3, 4, 5, 6, 7, 8, 9, 10, 11, 12, 13, 14, 15, 16, 17, 18] (fun a b => a = b) (fun _ => rfl) (fun _ _ _ h k => h.trans k) (by kernel_rfl) (by kernel_rfl) ?_
  simp only [List.map_cons, List.map_nil, List.contains_nil, List.getD_cons_zero, List.getD_cons_succ]
  repeat (refine wpL_do rfl (fun w' hw' => (by go_simp; rfl)) ?_; simp only [Act.put, List.setIfInBounds_toArray, List.set_cons_succ, List.set_cons_zero])
  refine wpL_do (v := .int .u8 (Lib.pop8 (y1 : Int))) rfl (fun w' hw' => idx_op y1 b1 rfl (by kernel_rfl) rfl w') ?_
  simp only [Act.put, List.setIfInBounds_toArray, List.set_cons_succ, List.set_cons_zero]
  repeat (refine wpL_do rfl (fun w' hw' => (by go_simp; rfl)) ?_; simp only [Act.put, List.setIfInBounds_toArray, List.set_cons_succ, List.set_cons_zero])
  refine wpL_do (v := .int .u8 (Lib.pop8 (y2 : Int))) rfl (fun w' hw' => idx_op y2 b2 rfl (by kernel_rfl) rfl w') ?_
  simp only [Act.put, List.setIfInBounds_toArray, List.set_cons_succ, List.set_cons_zero]
  repeat (refine wpL_do rfl (fun w' hw' => (by go_simp; rfl)) ?_; simp only [Act.put, List.setIfInBounds_toArray, List.set_cons_succ, List.set_cons_zero])
  refine wpL_do (v := .int .u8 (Lib.pop8 (y3 : Int))) rfl (fun w' hw' => idx_op y3 b3 rfl (by kernel_rfl) rfl w') ?_
  simp only [Act.put, List.setIfInBounds_toArray, List.set_cons_succ, List.set_cons_zero]
  repeat (refine wpL_do rfl (fun w' hw' => (by go_simp; rfl)) ?_; simp only [Act.put, List.setIfInBounds_toArray, List.set_cons_succ, List.set_cons_zero])
  refine wpL_do (v := .int .u8 (Lib.pop8 (y4 : Int))) rfl (fun w' hw' => idx_op y4 b4 rfl (by kernel_rfl) rfl w') ?_
  simp only [Act.put, List.setIfInBounds_toArray, List.set_cons_succ, List.set_cons_zero]
  repeat (refine wpL_do rfl (fun w' hw' => (by go_simp; rfl)) ?_; simp only [Act.put, List.setIfInBounds_toArray, List.set_cons_succ, List.set_cons_zero])
  refine wpL_nil ?_
  go_wp2_with fail
  go_ret
  refine ⟨?_, 1, rfl⟩
  have e : IntKind.i64.wrap (IntKind.u8.wrap (IntKind.u8.wrap (IntKind.u8.wrap (Lib.pop8 (y1 : Int) + Lib.pop8 (y2 : Int)) + Lib.pop8 (y3 : Int)) + Lib.pop8 (y4 : Int))) = o := by
    rw [HO.out, IntKind.wrap_u8, IntKind.wrap_u8, IntKind.wrap_u8, IntKind.wrap_i64]
    omega
  rw [← e]; rfl
end Go.Proofs.Ytlbpmepifegeiaa
