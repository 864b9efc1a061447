/- Stream: a Sync in memory; has, wrong. -/
import Derived.Test.YtlbpmepifegeiaaOnes
import Derived.Test.YtlbpmepifegeiaaRow
namespace Go.Proofs.Ytlbpmepifegeiaa
set_option linter.unusedVariables false
set_option linter.unusedSimpArgs false
open Go.RowKit

/-- the twelve cells of a Sync -/
structure SyV where
  L : Nat
  F : Nat
  H : Nat
  M : Nat
  ba : Option Addr
  bn : Nat
  bc : Nat
  base : Nat
  pos : Nat
  tu : Bool
  mi : Nat
  st : Nat
  fa : Option Addr
  fn : Nat
  fc : Nat
  lo : Bool
def SyV.cells (s : SyV) : Array Value := #[.int .i64 (s.L : Int), .int .i64 (s.F : Int), .int .i64 (s.H : Int), .int .i64 (s.M : Int), .slice s.ba s.bn s.bc, .int .i64 (s.base : Int), .int .i64 (s.pos : Int), .bool s.tu, .int .i64 (s.mi : Int), .func (.func s.st) #[] #[], .slice s.fa s.fn s.fc, .bool s.lo]
/-- where it lies -/
def SyAt (W : World) (sb : Nat) (s : SyV) : Prop := W.heap[sb]? = some (.cells s.cells 56)
section
variable {W W' : World} {sb : Nat} {s : SyV}
theorem SyAt.below (h : SyAt W sb s) (hb : Below W.heap.size W W') : SyAt W' sb s := row_below h hb
theorem SyAt.cL (h : SyAt W sb s) : W.cell? ⟨sb, 0, none⟩ = some (.int .i64 (s.L : Int)) := by rw [cell_of_row _ _ _ _ _ _ (show W.heap[sb]? = _ from h)]; rfl
theorem SyAt.cF (h : SyAt W sb s) : W.cell? ⟨sb, 1, none⟩ = some (.int .i64 (s.F : Int)) := by rw [cell_of_row _ _ _ _ _ _ (show W.heap[sb]? = _ from h)]; rfl
theorem SyAt.cH (h : SyAt W sb s) : W.cell? ⟨sb, 2, none⟩ = some (.int .i64 (s.H : Int)) := by rw [cell_of_row _ _ _ _ _ _ (show W.heap[sb]? = _ from h)]; rfl
theorem SyAt.cM (h : SyAt W sb s) : W.cell? ⟨sb, 3, none⟩ = some (.int .i64 (s.M : Int)) := by rw [cell_of_row _ _ _ _ _ _ (show W.heap[sb]? = _ from h)]; rfl
theorem SyAt.cb (h : SyAt W sb s) : W.cell? ⟨sb, 4, none⟩ = some (.slice s.ba s.bn s.bc) := by rw [cell_of_row _ _ _ _ _ _ (show W.heap[sb]? = _ from h)]; rfl
theorem SyAt.cbase (h : SyAt W sb s) : W.cell? ⟨sb, 5, none⟩ = some (.int .i64 (s.base : Int)) := by rw [cell_of_row _ _ _ _ _ _ (show W.heap[sb]? = _ from h)]; rfl
theorem SyAt.cpos (h : SyAt W sb s) : W.cell? ⟨sb, 6, none⟩ = some (.int .i64 (s.pos : Int)) := by rw [cell_of_row _ _ _ _ _ _ (show W.heap[sb]? = _ from h)]; rfl
theorem SyAt.ctu (h : SyAt W sb s) : W.cell? ⟨sb, 7, none⟩ = some (.bool s.tu) := by rw [cell_of_row _ _ _ _ _ _ (show W.heap[sb]? = _ from h)]; rfl
theorem SyAt.cmi (h : SyAt W sb s) : W.cell? ⟨sb, 8, none⟩ = some (.int .i64 (s.mi : Int)) := by rw [cell_of_row _ _ _ _ _ _ (show W.heap[sb]? = _ from h)]; rfl
theorem SyAt.cst (h : SyAt W sb s) : W.cell? ⟨sb, 9, none⟩ = some (.func (.func s.st) #[] #[]) := by rw [cell_of_row _ _ _ _ _ _ (show W.heap[sb]? = _ from h)]; rfl
theorem SyAt.cf (h : SyAt W sb s) : W.cell? ⟨sb, 10, none⟩ = some (.slice s.fa s.fn s.fc) := by rw [cell_of_row _ _ _ _ _ _ (show W.heap[sb]? = _ from h)]; rfl
theorem SyAt.clo (h : SyAt W sb s) : W.cell? ⟨sb, 11, none⟩ = some (.bool s.lo) := by rw [cell_of_row _ _ _ _ _ _ (show W.heap[sb]? = _ from h)]; rfl
theorem SyAt.frozen (h : SyAt W sb s) (i : Nat) : W.frozen? ⟨sb, i, none⟩ = false := frozen_row (show W.heap[sb]? = _ from h) i
theorem SyAt.lt (h : SyAt W sb s) : sb < W.heap.size := row_lt (show W.heap[sb]? = _ from h)
/-- a field is stored to -/
theorem SyAt.put (h : SyAt W sb s) (i : Nat) (v : Value) (s' : SyV) (he : s.cells.setIfInBounds i v = s'.cells) : SyAt (W.setCell ⟨sb, i, none⟩ v) sb s' ∧ W.grownBy (W.setCell ⟨sb, i, none⟩ v) (some sb) := set_row (show W.heap[sb]? = _ from h) i v he
end

/-- bits as a number -/
def numB (l : List Nat) : Nat := l.foldl (fun z b => 2 * z + b) 0
theorem numB_snoc (l : List Nat) (b : Nat) : numB (l ++ [b]) = 2 * numB l + b := by simp [numB]
theorem numB_lt (l : List Nat) (h : All1 l) : numB l < 2 ^ l.length := by
  have key : ∀ (l : List Nat) (z : Nat), All1 l → l.foldl (fun z b => 2 * z + b) z < (z + 1) * 2 ^ l.length := by
    intro l
    induction l with
    | nil => intro z _; simp
    | cons b l ih =>
      intro z h
      have hb : b < 2 := h b (by simp)
      have := ih (2 * z + b) (fun y hy => h y (by simp [hy]))
      rw [List.foldl_cons, List.length_cons, Nat.pow_succ]
      refine Nat.lt_of_lt_of_le this ?_
      rw [Nat.mul_comm (2 ^ l.length) 2, ← Nat.mul_assoc]
      exact Nat.mul_le_mul_right _ (by omega)
  have := key l 0 h
  simpa [numB] using this
theorem or_bit (z b : Nat) (hb : b < 2) (hz : 2 * z + b < 4294967296) : bits .or .u32 ((z : Int) * 2) (b : Int) = ((2 * z + b : Nat) : Int) := by
  have h := Nat.shiftLeft_add_eq_or_of_lt (show b < 2 ^ 1 from hb) z
  rw [Nat.shiftLeft_eq, show (2 : Nat) ^ 1 = 2 by decide] at h
  have h3 := u32_or_nat (z * 2) b (by omega) (by omega)
  rw [← h, Int.natCast_mul] at h3
  rw [show 2 * z + b = z * 2 + b by omega]
  exact h3
/-- how many of 32 bits are not the mark's -/
def wrN (x : Nat) (t : Bool) : Int := if t then 32 - onesN (x ^^^ 449838109) else onesN (x ^^^ 449838109)
theorem onesN_rng (x : Nat) (hx : x < 4294967296) : 0 ≤ onesN x ∧ onesN x ≤ 32 := by
  have r1 := pop8_rng ((x / 16777216 : Nat) : Int) (by omega)
  have r2 := pop8_rng ((x / 65536 % 256 : Nat) : Int) (by omega)
  have r3 := pop8_rng ((x / 256 % 256 : Nat) : Int) (by omega)
  have r4 := pop8_rng ((x % 256 : Nat) : Int) (by omega)
  unfold onesN; omega
theorem wrN_rng (x : Nat) (t : Bool) (hx : x < 4294967296) : 0 ≤ wrN x t ∧ wrN x t ≤ 32 := by
  have := onesN_rng (x ^^^ 449838109) (Nat.xor_lt_two_pow (n := 32) hx (by decide))
  unfold wrN; split <;> omega

theorem has_ok (sb : Nat) (s : SyV) (a n : Nat) (W : World) (h : SyAt W sb s) (ha : a < 1125899906842624) (hn : n < 1125899906842624) (hb : s.base < 1125899906842624) (hbn : s.bn < 1125899906842624) :
    Calls Try.prog 22 #[.pointer (some ⟨sb, 0, none⟩), .int .i64 (a : Int), .int .i64 (n : Int)] W fun e w' => e = .returned (.bool (decide (a + n ≤ s.base + s.bn))) ∧ Below W.heap.size W w' := by
  have c4 := h.cb
  have c5 := h.cbase
  have e1 : IntKind.i64.wrap ((a : Int) + (n : Int)) = (a : Int) + (n : Int) := IntWalk.i64_in _ (by omega)
  have e2 : IntKind.i64.wrap ((s.base : Int) + (s.bn : Int)) = (s.base : Int) + (s.bn : Int) := IntWalk.i64_in _ (by omega)
  have e3 : decide ((a : Int) + (n : Int) ≤ (s.base : Int) + (s.bn : Int)) = decide (a + n ≤ s.base + s.bn) := by
    rw [decide_eq_decide]; omega
  go_enter Try.func22, Try.ntmps22
  go_wp2_with fail
  go_quiet (fail)
  go_wp2_with fail
  go_ret
  refine ⟨?_, below_drewN _ _⟩
  rw [← e3]; first | rfl | simp
end Go.Proofs.Ytlbpmepifegeiaa
