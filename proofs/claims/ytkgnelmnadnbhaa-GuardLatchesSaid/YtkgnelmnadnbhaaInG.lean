/- Small tests of the guard: in, word, name. -/
import Derived.Test.YtkgnelmnadnbhaaProg
import Derived.Test.YtkgnelmnadnbhaaArith
import Derived.Test.YtkgnelmnadnbhaaRow
import Derived.Laws.RangeString
namespace Go.Proofs.Ytkgnelmnadnbhaa
set_option linter.unusedVariables false
open Go.RowKit

theorem in_yes (n low high : Int) (w : World) (h1 : low ≤ n) (h2 : n ≤ high) : Calls Try.prog 20 #[.int .i64 n, .int .i64 low, .int .i64 high] w fun e w' => e = .returned (.bool true) ∧ w' = w := by
  have d1 : decide (low ≤ n) = true := decide_eq_true h1
  have d2 : decide (n ≤ high) = true := decide_eq_true h2
  go_enter Try.func20, Try.ntmps20
  go_wp2
  go_ret
  exact ⟨rfl, rfl⟩
theorem in_no (n low high : Int) (w : World) (h : n < low ∨ high < n) : Calls Try.prog 20 #[.int .i64 n, .int .i64 low, .int .i64 high] w fun e w' => e = .returned (.bool false) ∧ w' = w := by
  by_cases h1 : low ≤ n
  · have d1 : decide (low ≤ n) = true := decide_eq_true h1
    have d2 : decide (n ≤ high) = false := decide_eq_false (by omega)
    clear h h1
    go_enter Try.func20, Try.ntmps20
    go_wp2
    go_ret
    exact ⟨rfl, rfl⟩
  · have d1 : decide (low ≤ n) = false := decide_eq_false h1
    clear h h1
    go_enter Try.func20, Try.ntmps20
    go_wp2
    go_ret
    exact ⟨rfl, rfl⟩
theorem word_ok (n : Int) (w : World) (h1 : -2147483648 ≤ n) (h2 : n ≤ 2147483647) : Calls Try.prog 27 #[.int .i64 n] w fun e w' => e = .returned (.bool true) ∧ w' = w := by
  have e1 : IntKind.i32.wrap n = n := by rw [IntKind.wrap_i32]; omega
  have e2 : IntKind.i64.wrap n = n := by rw [IntWalk.i64_in _ (by omega)]
  go_enter Try.func27, Try.ntmps27
  go_wp2
  go_ret
  exact ⟨by simp, rfl⟩
/-- small letters, behind the first one figures, too; no more than 16 -/
def GoodName (s : ByteArray) : Prop := s.size ≤ 16 ∧ ∀ i, (h : i < s.size) → (97 ≤ (s[i]'h).toNat ∧ (s[i]'h).toNat ≤ 122) ∨ (0 < i ∧ 48 ≤ (s[i]'h).toNat ∧ (s[i]'h).toNat ≤ 57)
set_option maxHeartbeats 1000000 in
theorem name_ok (s : ByteArray) (w : World) (hg : GoodName s) : Calls Try.prog 21 #[.string s] w fun e w' => e = .returned (.bool true) ∧ Below w.heap.size w w' := by
  obtain ⟨hs, hc⟩ := hg
  have Hc := hid hc
  clear hc
  go_enter Try.func21, Try.ntmps21
  go_wp2
  go_loopw [] (fun wr => ∃ k : Nat, k ≤ s.size ∧ wr = w.iter s k) (fun wr => s.size - World.iterPos wr w.heap.size)
  case atStart => exact ⟨0, by omega, rfl⟩
  case round =>
    obtain ⟨k, hk, rfl⟩ := hrel
    by_cases hlt : k < s.size
    · have hch := Hc.out k hlt
      have hnx := fun ty => run_next_ascii (P := Try.prog) w s k ty hlt (by omega)
      generalize (s[k]'hlt).toNat = c at *
      have Hk1 := hid hk
      rcases hch with ⟨g1, g2⟩ | ⟨g0, g1, g2⟩
      · have d1 : decide ((97 : Int) ≤ (c : Int)) = true := decide_eq_true (by omega)
        have d2 : decide ((c : Int) ≤ 122) = true := decide_eq_true (by omega)
        clear g1 g2
        go_wp2_with fail
        go_roundw
        case rel => exact ⟨k + 1, by omega, rfl⟩
        case measure => simp [World.iterPos, World.iter_heap]; omega
      · have d1 : decide ((97 : Int) ≤ (c : Int)) = false := decide_eq_false (by omega)
        have d2 : decide ((48 : Int) ≤ (c : Int)) = true := decide_eq_true (by omega)
        have d3 : decide ((c : Int) ≤ 57) = true := decide_eq_true (by omega)
        have d4 : decide (0 < k) = true := decide_eq_true g0
        clear g1 g2
        go_wp2_with fail
        go_roundw
        case rel => exact ⟨k + 1, by omega, rfl⟩
        case measure => simp [World.iterPos, World.iter_heap]; omega
    · obtain rfl : k = s.size := by omega
      have hnx := fun ty => run_next_end (P := Try.prog) w s s.size ty (by omega)
      have d1 : decide ((s.size : Int) ≤ 16) = true := decide_eq_true (by omega)
      go_wp2_with fail
      go_ret
      exact ⟨rfl, (Below.refl _ _).alloc (Nat.le_refl _) _⟩
end Go.Proofs.Ytkgnelmnadnbhaa
