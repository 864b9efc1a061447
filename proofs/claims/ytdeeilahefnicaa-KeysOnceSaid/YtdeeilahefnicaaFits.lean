/- Keys: fits, may: keys that may be. -/
import Derived.Test.YtdeeilahefnicaaBlock
import Derived.StillTailTactics
namespace Go.Proofs.Ytdeeilahefnicaa
set_option linter.unusedVariables false
open Go.RowKit

theorem fits1_ok (z : Int) (h : 0 ≤ z ∧ z ≤ 4294967295) (w : World) : Calls Try.prog 30 #[.int .i64 z] w fun e w' => e = .returned (.bool false) ∧ w = w' := by
  go_enter Try.func30, Try.ntmps30
  go_wp2_with fail
  refine (in_yes z 4294967295 w h).mono ?_
  rintro e w' ⟨rfl, rfl⟩
  go_wp2_with fail
  go_ret
  exact ⟨rfl, rfl⟩
theorem index_ok (wa : Option Addr) (wc : Nat) (ws : List Int) (hws : Words ws) (w : World) (hW : Rd w wa 8 wc (vz ws)) : Calls Try.prog 36 #[.slice wa 8 wc, .func (.func 30) #[] #[]] w fun e w' => e = .returned (.int .i64 (-1)) ∧ w = w' := by
  go_enter Try.func36, Try.ntmps36
  go_wp2_with fail
  go_loop [8] (fun v => ∃ k : Nat, v = .int .i64 (k : Int) ∧ k ≤ 8) (fun v => 8 - (intOf v).toNat)
  case atStart => exact ⟨0, rfl, by decide⟩
  case round =>
    obtain ⟨k, rfl, hk⟩ := hrel
    by_cases hk8 : k < 8
    · obtain ⟨wb, wo, rfl, hwb, hwc⟩ := hW.cellz k hk8
      have t1 : (k : Int) < 8 := by omega
      have hwr : 0 ≤ ws.getD k 0 ∧ ws.getD k 0 ≤ 4294967295 := by
        rw [List.getD_eq_getElem?_getD, List.getElem?_eq_getElem (by rw [hws.1]; exact hk8)]
        have hb : ∀ z ∈ ws, 0 ≤ z ∧ z ≤ 4294967295 := fun z hz => ⟨(hws.2 z hz).1, by have := (hws.2 z hz).2; omega⟩
        exact hb _ (List.getElem_mem _)
      generalize ws.getD k 0 = z at *
      go_wp2_with fail
      refine (fits1_ok z hwr w).mono ?_
      rintro e w' ⟨rfl, rfl⟩
      go_wp2_with fail
      go_round
      case rel => exact ⟨k + 1, by go_num, by omega⟩
      case measure => simp [intOf]; omega
    · obtain rfl : k = 8 := by omega
      clear hk8
      go_wp2_with fail
      go_ret
      exact ⟨rfl, rfl⟩
theorem contains_ok (wa : Option Addr) (wc : Nat) (ws : List Int) (hws : Words ws) (w : World) (hW : Rd w wa 8 wc (vz ws)) : Calls Try.prog 29 #[.slice wa 8 wc, .func (.func 30) #[] #[]] w fun e w' => e = .returned (.bool false) ∧ w = w' := by
  go_enter Try.func29, Try.ntmps29
  go_wp2_with fail
  refine (index_ok wa wc ws hws w hW).mono ?_
  rintro e w' ⟨rfl, rfl⟩
  go_wp2_with fail
  go_ret
  exact ⟨rfl, rfl⟩
theorem fits_ok (wa : Option Addr) (wc : Nat) (ws : List Int) (c i : Int) (hws : Words ws) (hc : 0 ≤ c ∧ c ≤ 281474976710655) (hi : 0 ≤ i ∧ i ≤ 1000) (w : World) (hW : Rd w wa 8 wc (vz ws)) : Calls Try.prog 20 #[.slice wa 8 wc, .int .i64 c, .int .i64 i] w fun e w' => e = .returned (.int .i64 0) ∧ w = w' := by
  go_enter Try.func20, Try.ntmps20
  go_wp2_with fail
  refine (contains_ok wa wc ws hws w hW).mono ?_
  rintro e w' ⟨rfl, rfl⟩
  go_wp2_with fail
  refine (in_yes c _ w hc).mono ?_
  rintro e w' ⟨rfl, rfl⟩
  go_wp2_with fail
  refine (in_yes i _ w hi).mono ?_
  rintro e w' ⟨rfl, rfl⟩
  go_wp2_with fail
  go_ret
  exact ⟨rfl, rfl⟩
end Go.Proofs.Ytdeeilahefnicaa
