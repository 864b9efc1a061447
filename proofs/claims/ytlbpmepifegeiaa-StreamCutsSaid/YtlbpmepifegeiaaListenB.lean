/- Stream: errors.Is, Tell; Listen by a rule that is none. -/
import Derived.Test.YtlbpmepifegeiaaProg
import Derived.Test.YtlbpmepifegeiaaChecked
import Derived.Test.YtlbpmepifegeiaaArith
import Derived.WalkKit
import Derived.LaidEql
import Derived.Stop.Asserts
import Derived.RowKitTokens
import Derived.Lib.IfaceEq
import Derived.Below
import Derived.Test.YtlbpmepifegeiaaListenD
namespace Go.Proofs.Ytlbpmepifegeiaa
set_option linter.unusedVariables false
set_option linter.unusedSimpArgs false
open Go.RowKit Go.Extern.Stop Go.Stop Go.Extern

theorem Try.isTypeOf (v : Value) (w : World) : (Extern.ReflectliteType.typeOf #[.iface 30 v]).run Try.prog w = .ok (.iface 70 (.agg #[.pointer (some ⟨0, 30, none⟩)])) w := by kernel_rfl
theorem Try.isComparable (w : World) : ((Extern.ReflectliteType.method fun t => do Extern.Rtype.noPackHeld "Comparable" t; (fun a => Value.bool a.comparable) <$> typeInfo t) #[.agg #[.pointer (some ⟨0, 30, none⟩)]]).run Try.prog w = .ok (.bool true) w := by kernel_rfl
theorem Try.isMeth (v : Value) (w : World) : (Go.method 217 70 v "Comparable").run Try.prog w = .ok (51, v) w := by kernel_rfl
theorem Try.noIs (v : Value) (xT : TypeId) (w : World) : (Instr.typeAssert (.iface 30 v) xT 72 true).run Try.prog w = .ok (.tuple #[.nilIface, .bool false]) w := run_typeAssert_lacksB Try.underlying72 (by kernel_rfl) (by kernel_rfl) v xT w
theorem Try.noUnwrap (v : Value) (xT : TypeId) (w : World) : (Instr.typeAssert (.iface 30 v) xT 75 true).run Try.prog w = .ok (.tuple #[.nilIface, .bool false]) w := run_typeAssert_lacksB Try.underlying75 (by kernel_rfl) (by kernel_rfl) v xT w
theorem Try.noUnwraps (v : Value) (xT : TypeId) (w : World) : (Instr.typeAssert (.iface 30 v) xT 77 true).run Try.prog w = .ok (.tuple #[.nilIface, .bool false]) w := run_typeAssert_lacksB Try.underlying77 (by kernel_rfl) (by kernel_rfl) v xT w
theorem Try.errComp : (Try.prog.info? 30).map (·.comparable) = some true := by kernel_rfl

set_option maxRecDepth 100000 in
theorem is_core (a b : Int) (w : World) :
    Calls Try.prog 26 #[.iface 30 (.int .i64 a), .iface 30 (.int .i64 b), .bool true] w fun e w' => e = .returned (.bool (a == b)) ∧ w' = w := by
  have nE := Try.noIs
  have uE := Try.noUnwrap
  have vE := Try.noUnwraps
  have heq := Go.Lib.run_eql_iface_int (P := Try.prog) w (k := .i64) a b Try.underlying43 Try.errComp Try.underlying30
  cases hab : (a == b) with
  | true =>
    rw [hab] at heq
    go_enter Try.func26, Try.ntmps26
    go_wp2_with fail
    refine wp_loop_rounds 1 ?_
    rw [rounds_succ]
    go_wp2_with fail
    go_ret
    exact ⟨rfl, rfl⟩
  | false =>
    rw [hab] at heq
    go_enter Try.func26, Try.ntmps26
    go_wp2_with fail
    refine wp_loop_rounds 1 ?_
    rw [rounds_succ]
    go_wp2_with fail
    go_ret
    exact ⟨rfl, rfl⟩

set_option maxRecDepth 100000 in
theorem is_err (a b : Int) (w : World) :
    Calls Try.prog 16 #[.iface 30 (.int .i64 a), .iface 30 (.int .i64 b)] w fun e w' => e = .returned (.bool (a == b)) ∧ w' = w := by
  have h25 := @run_callFunc_extern Try.prog 25 _ Extern.ReflectliteType.typeOf Try.func25 (by kernel_rfl) (by kernel_rfl) (by kernel_rfl) (by kernel_rfl)
  have h51 := @run_callFunc_extern Try.prog 51 _ (Extern.ReflectliteType.method fun t => do Extern.Rtype.noPackHeld "Comparable" t; pure (.bool (← typeInfo t).comparable)) Try.func51 (by kernel_rfl) (by kernel_rfl) (by kernel_rfl) (by kernel_rfl)
  have tT := Try.isTypeOf
  have cT := Try.isComparable
  have mR := Try.isMeth
  have heq := Go.Lib.run_eql_iface_int (P := Try.prog) w (k := .i64) a b Try.underlying43 Try.errComp Try.underlying30
  go_enter Try.func16, Try.ntmps16
  go_wp2_with fail
  refine (is_core a b w).mono ?_
  rintro e w' ⟨rfl, rfl⟩
  go_wp2_with fail
  go_ret
  exact ⟨rfl, rfl⟩

set_option maxRecDepth 100000 in
theorem tell_one (w : World) : Calls Try.prog 10 #[.iface 30 (.int .i64 1)] w fun e w' => e = .returned (.int .i64 1) ∧ w' = w := by
  go_enter Try.func10, Try.ntmps10
  go_wp2_with fail
  refine wp_loop_rounds 1 ?_
  rw [rounds_succ]
  go_wp2_with fail
  refine (is_err 1 1 w).mono ?_
  rintro e w' ⟨rfl, hw'⟩
  rw [hw']
  clear hw' w'
  go_wp2_with fail
  go_ret
  exact ⟨rfl, rfl⟩
set_option maxRecDepth 100000 in
theorem tell_two (w : World) : Calls Try.prog 10 #[.iface 30 (.int .i64 2)] w fun e w' => e = .returned (.int .i64 2) ∧ w' = w := by
  go_enter Try.func10, Try.ntmps10
  go_wp2_with fail
  refine wp_loop_rounds 2 ?_
  rw [rounds_succ]
  go_wp2_with fail
  refine (is_err 2 1 w).mono ?_
  rintro e w' ⟨rfl, hw'⟩
  rw [hw', show ((2 : Int) == 1) = false from rfl]
  clear hw' w'
  go_wp2_with fail
  rw [rounds_succ]
  go_wp2_with fail
  refine (is_err 2 2 w).mono ?_
  rintro e w' ⟨rfl, hw'⟩
  rw [hw', show ((2 : Int) == 2) = true from rfl]
  clear hw' w'
  go_wp2_with fail
  go_ret
  exact ⟨rfl, rfl⟩


theorem fits_int (a b : Int) (w : World) : Calls Try.prog 14 #[.int .i64 a, .int .i64 b] w fun e w' => e = .returned (.bool (decide (0 ≤ a ∧ a ≤ b))) ∧ w' = w := by
  by_cases h0 : 0 ≤ a
  · by_cases h1 : a ≤ b
    · go_enter Try.func14, Try.ntmps14
      go_wp2_with fail
      go_ret
      exact ⟨by simp [h0, h1], rfl⟩
    · go_enter Try.func14, Try.ntmps14
      go_wp2_with fail
      go_ret
      exact ⟨by simp [h0, h1], rfl⟩
  · go_enter Try.func14, Try.ntmps14
    go_wp2_with fail
    go_ret
    exact ⟨by simp [h0]; try omega, rfl⟩

def badS (r0 : Int) : Prop := r0 < 1 ∨ 2048 < r0
def badR (r1 r2 r3 : Int) : Prop := ¬ (0 ≤ r1 ∧ r1 ≤ 8) ∨ ¬ (0 ≤ r2 ∧ r2 ≤ 12) ∨ ¬ (0 ≤ r3 ∧ r3 ≤ 8)

theorem new_size (r0 r1 r2 r3 : Int) (h : badS r0) (w : World) : Calls Try.prog 9 #[.agg #[.int .i64 r0, .int .i64 r1, .int .i64 r2, .int .i64 r3]] w fun e w' => e = .returned (.tuple #[.pointer none, .iface 30 (.int .i64 1)]) ∧ Below w.heap.size w w' := by
  have b0 := below_alloc w (.cells #[.int .i64 r0, .int .i64 r1, .int .i64 r2, .int .i64 r3] 23)
  by_cases h1 : r0 < 1
  · go_enter Try.func9, Try.ntmps9
    go_wp2_with fail
    go_ret2
    exact ⟨rfl, b0⟩
  · have h2 : 2048 < r0 := h.resolve_left h1
    go_enter Try.func9, Try.ntmps9
    go_wp2_with fail
    go_ret2
    exact ⟨rfl, b0⟩

theorem new_range (r0 r1 r2 r3 : Int) (h0 : ¬ badS r0) (h : badR r1 r2 r3) (w : World) : Calls Try.prog 9 #[.agg #[.int .i64 r0, .int .i64 r1, .int .i64 r2, .int .i64 r3]] w fun e w' => e = .returned (.tuple #[.pointer none, .iface 30 (.int .i64 2)]) ∧ Below w.heap.size w w' := by
  have l1 : ¬ r0 < 1 := fun h1 => h0 (.inl h1)
  have l2 : ¬ 2048 < r0 := fun h1 => h0 (.inr h1)
  clear h0
  have A0 := heap_alloc_new w (.cells #[.int .i64 r0, .int .i64 r1, .int .i64 r2, .int .i64 r3] 23)
  have b0 := below_alloc w (.cells #[.int .i64 r0, .int .i64 r1, .int .i64 r2, .int .i64 r3] 23)
  go_enter Try.func9, Try.ntmps9
  go_wp2_with fail
  refine (fits_int r1 8 _).mono ?_
  rintro e w' ⟨rfl, hw'⟩
  rw [hw']
  clear hw' w'
  by_cases h1 : 0 ≤ r1 ∧ r1 ≤ 8
  · rw [decide_eq_true h1]
    go_wp2_with fail
    refine (fits_int r2 12 _).mono ?_
    rintro e w' ⟨rfl, hw'⟩
    rw [hw']
    clear hw' w'
    by_cases h2 : 0 ≤ r2 ∧ r2 ≤ 12
    · rw [decide_eq_true h2]
      have h3 : ¬ (0 ≤ r3 ∧ r3 ≤ 8) := (h.resolve_left (fun h => h h1)).resolve_left (fun h => h h2)
      go_wp2_with fail
      refine (fits_int r3 8 _).mono ?_
      rintro e w' ⟨rfl, hw'⟩
      rw [hw', decide_eq_false h3]
      clear hw' w'
      go_wp2_with fail
      go_ret2
      exact ⟨rfl, b0⟩
    · rw [decide_eq_false h2]
      go_wp2_with fail
      go_ret2
      exact ⟨rfl, b0⟩
  · rw [decide_eq_false h1]
    go_wp2_with fail
    go_ret2
    exact ⟨rfl, b0⟩

set_option maxRecDepth 100000 in
theorem listen_size (r0 r1 r2 r3 : Int) (h : badS r0) (pa : Option Addr) (pn pc : Nat) (w : World) : Calls Try.prog 7 #[.agg #[.int .i64 r0, .int .i64 r1, .int .i64 r2, .int .i64 r3], .slice pa pn pc] w fun e w' => e = .returned (.tuple #[.slice none 0 0, .slice none 0 0, .slice none 0 0, .int .i64 1]) ∧ Below w.heap.size w w' := by
  have b0 := below_alloc w (.cells #[.int .i64 r0, .int .i64 r1, .int .i64 r2, .int .i64 r3] 23)
  go_enter Try.func7, Try.ntmps7
  go_wp2_with fail
  refine (new_size r0 r1 r2 r3 h _).mono ?_
  rintro e V ⟨rfl, b1⟩
  have b2 := b0.trans (b1.mono b0.size)
  clear b1 b0
  go_wp2_with fail
  refine (tell_one V).mono ?_
  rintro e w' ⟨rfl, hw'⟩
  rw [hw']
  clear hw' w'
  go_wp2_with fail
  refine bodyPost_ret (results_tmp4 rfl _ _ _) rfl ?_
  exact ⟨rfl, b2⟩

set_option maxRecDepth 100000 in
theorem listen_range (r0 r1 r2 r3 : Int) (h0 : ¬ badS r0) (h : badR r1 r2 r3) (pa : Option Addr) (pn pc : Nat) (w : World) : Calls Try.prog 7 #[.agg #[.int .i64 r0, .int .i64 r1, .int .i64 r2, .int .i64 r3], .slice pa pn pc] w fun e w' => e = .returned (.tuple #[.slice none 0 0, .slice none 0 0, .slice none 0 0, .int .i64 2]) ∧ Below w.heap.size w w' := by
  have b0 := below_alloc w (.cells #[.int .i64 r0, .int .i64 r1, .int .i64 r2, .int .i64 r3] 23)
  go_enter Try.func7, Try.ntmps7
  go_wp2_with fail
  refine (new_range r0 r1 r2 r3 h0 h _).mono ?_
  rintro e V ⟨rfl, b1⟩
  have b2 := b0.trans (b1.mono b0.size)
  clear b1 b0
  go_wp2_with fail
  refine (tell_two V).mono ?_
  rintro e w' ⟨rfl, hw'⟩
  rw [hw']
  clear hw' w'
  go_wp2_with fail
  refine bodyPost_ret (results_tmp4 rfl _ _ _) rfl ?_
  exact ⟨rfl, b2⟩
end Go.Proofs.Ytlbpmepifegeiaa
