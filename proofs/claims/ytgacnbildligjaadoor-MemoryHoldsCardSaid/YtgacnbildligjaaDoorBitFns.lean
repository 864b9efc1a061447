/- free, TrailingZeros, Len, places: the walks. -/
import Derived.Test.YtgacnbildligjaaDoorWord
import Derived.Test.YtgacnbildligjaaDoorBits
import Derived.Test.YtgacnbildligjaaDoorArith
import Derived.Test.YtgacnbildligjaaDoorProg
import Derived.WalkKit
import Derived.Laws.Bits64b
import Derived.Lib.BitFns
namespace Go.Proofs.YtgacnbildligjaaDoor
set_option linter.unusedVariables false
open Go.RowKit

/-- deBruijn64tab as it lies -/
def TabAt (w : World) : Prop := ∀ j, j < Lib.deBruijn64tab.length → w.cell? ⟨2, j, none⟩ = some (.int .u8 (Lib.deBruijn64tab.getD j 0))

theorem free_ok (p : Nat) (w : World) (hp : p < 39) :
    Calls Tryd.prog 9 #[.int .i64 p] w fun e w' => e = .returned (.bool (isFree p)) ∧ w = w' := by
  by_cases h0 : p = 0
  · subst h0
    go_enter Tryd.func9, Tryd.ntmps9
    go_wp2
    go_ret
    exact ⟨rfl, rfl⟩
  · have e1 : bits .and .i64 (p : Int) ((p : Int) - 1) = ((p &&& (p - 1) : Nat) : Int) := by
      have := i64_and_nat p (p - 1) (by omega) (by omega)
      rwa [show ((p - 1 : Nat) : Int) = (p : Int) - 1 by omega] at this
    rw [show isFree p = (((p &&& (p - 1) : Nat) : Int) != 0) by unfold isFree; generalize p &&& (p - 1) = x; cases x <;> simp; omega]
    generalize p &&& (p - 1) = x at *
    go_enter Tryd.func9, Tryd.ntmps9
    go_wp2
    go_ret
    exact ⟨rfl, rfl⟩

theorem and_i64_1 (b : Nat) (hb : b < 2 ^ 63) : bits .and .i64 (b : Int) 1 = ((b &&& 1 : Nat) : Int) := i64_and_nat b 1 hb (by decide)
theorem bits_xor_u64 (a b : Nat) (ha : a < 2 ^ 64) (hb : b < 2 ^ 64) : bits .and .u64 (a : Int) (b : Int) = ((a &&& b : Nat) : Int) := bits_and_u64_nat a b ha hb

theorem tz64_key (x a : Nat) (hx : x < 18446744073709551616) (hx0 : x ≠ 0) (hlow : x &&& (18446744073709551616 - x) = a) :
    IntKind.u64.wrap (bits BinOp.and IntKind.u64 (x : Int) (IntKind.u64.wrap (-(x : Int))) * 285870213051353865) / 288230376151711744 = ((a * 285870213051353865 % 18446744073709551616 / 288230376151711744 : Nat) : Int) := by
  have e1 : IntKind.u64.wrap (-(x : Int)) = ((18446744073709551616 - x : Nat) : Int) := by rw [IntKind.wrap_u64]; omega
  rw [e1, bits_and_u64_nat x _ hx (by omega), hlow, IntKind.wrap_u64]
  omega

theorem tz64_core (x k idx : Nat) (w : World) (hx0 : ((x : Int) == 0) = false)
    (key : IntKind.u64.wrap (bits BinOp.and IntKind.u64 (x : Int) (IntKind.u64.wrap (-(x : Int))) * 285870213051353865) / 288230376151711744 = (idx : Int))
    (hi : idx < 64) (hk : k < 64) (hcell : w.cell? ⟨2, idx, none⟩ = some (.int .u8 k)) :
    Calls Tryd.prog 32 #[.int .u64 x] w fun e w' => e = .returned (.int .i64 k) ∧ w' = w := by
  go_enter Tryd.func32, Tryd.ntmps32
  go_wp2_with (simp only [key])
  go_ret
  exact ⟨rfl, rfl⟩

theorem tz_ok (x : Nat) (hx0 : x ≠ 0) (hx : x < 2 ^ 39) (w : World) (hT : TabAt w) :
    Calls Tryd.prog 20 #[.int .u64 x] w fun e w' => e = .returned (.int .i64 (Lib.ctz 64 x : Nat)) ∧ w = w' := by
  obtain ⟨hlow, hk⟩ := Lib.lowest_bit 64 x hx0 (by omega)
  obtain ⟨hi, htab⟩ := Lib.deBruijn64_at _ hk
  have hcell := hT _ hi
  rw [htab] at hcell
  have key := tz64_key x _ (by omega) hx0 hlow
  generalize Lib.ctz 64 x = k at *
  generalize 2 ^ k * 285870213051353865 % 18446744073709551616 / 288230376151711744 = idx at *
  have key := hid key
  have h0 : ((x : Int) == 0) = false := by simp; omega
  clear hlow htab
  go_enter Tryd.func20, Tryd.ntmps20
  go_wp2_with fail
  refine (tz64_core x k idx w h0 key.out hi hk hcell).mono ?_
  rintro e w' ⟨rfl, rfl⟩
  go_wp2_with fail
  go_ret
  exact ⟨rfl, rfl⟩
end Go.Proofs.YtgacnbildligjaaDoor
