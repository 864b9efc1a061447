/- Len and places: the walks. -/
import Derived.Test.YtgacnbildligjaaDoorBitFns
namespace Go.Proofs.YtgacnbildligjaaDoor
set_option linter.unusedVariables false
open Go.RowKit

theorem tab_val (n : Nat) (h : n < Lib.len8tab.size) : Lib.len8tab[n].toNat ≤ 8 ∧ (n < 128 → Lib.len8tab[n].toNat ≤ 7) := by
  have h1 : ∀ n : Fin 256, (Lib.len8tab.data.getD n.val 0).toNat ≤ 8 ∧ (n.val < 128 → (Lib.len8tab.data.getD n.val 0).toNat ≤ 7) := by decide +kernel
  have h2 := h1 ⟨n, by rw [Lib.len8tab_size] at h; exact h⟩
  have h3 : Lib.len8tab.data.getD n 0 = Lib.len8tab[n] := by
    have h' : n < Lib.len8tab.data.size := h
    rw [Array.getD, dif_pos h']; rfl
  rw [h3] at h2
  exact h2
theorem w64 (z : Int) (h0 : 0 ≤ z) (h1 : z ≤ 1000) : wrap64 z = z := by unfold wrap64; omega

set_option maxHeartbeats 4000000 in
set_option maxRecDepth 100000 in
theorem len64_ok (x : Int) (w : World) (h0 : 0 ≤ x) (h1 : x ≤ 549755813887) :
    Calls Tryd.prog 22 #[.int .u64 x] w fun e w' => ∃ r : Int, e = .returned (.int .i64 r) ∧ 0 ≤ r ∧ r ≤ 39 ∧ w = w' := by
  have hsz : Lib.len8tab.size = 256 := by kernel_rfl
  go_enter Tryd.func22, Tryd.ntmps22
  go_wp2
  all_goals go_ret
  all_goals refine ⟨_, rfl, ?_⟩
  · have := tab_val (x / 4294967296).toNat (by rw [hsz]; omega)
    have h7 := this.2 (by omega)
    generalize Lib.len8tab[(x / 4294967296).toNat].toNat = v at *
    rw [w64 (v : Int) (by omega) (by omega), w64 _ (by omega) (by omega)]
    exact ⟨by omega, by omega, rfl⟩
  · have := (tab_val (x / 65536 / 256).toNat (by rw [hsz]; omega)).1
    generalize Lib.len8tab[(x / 65536 / 256).toNat].toNat = v at *
    rw [w64 (v : Int) (by omega) (by omega), w64 _ (by omega) (by omega)]
    exact ⟨by omega, by omega, rfl⟩
  · have := (tab_val (x / 65536).toNat (by rw [hsz]; omega)).1
    generalize Lib.len8tab[(x / 65536).toNat].toNat = v at *
    rw [w64 (v : Int) (by omega) (by omega), w64 _ (by omega) (by omega)]
    exact ⟨by omega, by omega, rfl⟩
  · have := (tab_val (x / 256).toNat (by rw [hsz]; omega)).1
    generalize Lib.len8tab[(x / 256).toNat].toNat = v at *
    rw [w64 (v : Int) (by omega) (by omega), w64 _ (by omega) (by omega)]
    exact ⟨by omega, by omega, rfl⟩
  · have := (tab_val x.toNat (by rw [hsz]; omega)).1
    generalize Lib.len8tab[x.toNat].toNat = v at *
    rw [w64 (v : Int) (by omega) (by omega), w64 _ (by omega) (by omega)]
    exact ⟨by omega, by omega, rfl⟩

theorem len_ok (x : Int) (w : World) (h0 : 0 ≤ x) (h1 : x ≤ 549755813887) :
    Calls Tryd.prog 11 #[.int .u64 x] w fun e w' => ∃ r : Int, e = .returned (.int .i64 r) ∧ 0 ≤ r ∧ r ≤ 39 ∧ w = w' := by
  go_enter Tryd.func11, Tryd.ntmps11
  go_wp2_with fail
  refine (len64_ok x w h0 h1).mono ?_
  rintro e w' ⟨r, rfl, hr0, hr1, rfl⟩
  go_wp2_with fail
  go_ret
  exact ⟨r, rfl, hr0, hr1, rfl⟩

theorem places_ok (c : Nat) (hc : c < 2 ^ 39) (w : World) (hT : TabAt w) :
    Calls Tryd.prog 10 #[.int .i64 c] w fun e w' => ∃ (s : Nat), e = .returned (.tuple #[.int .i64 s, .bool (!(od c 39))]) ∧ s < 64 ∧ Hid (s = xs c 39) ∧ w = w' := by
  go_enter Tryd.func10, Tryd.ntmps10
  go_wp2
  go_loop [2, 3, 4] (fun s' b' v' => ∃ (s v : Nat) (b : Bool), s' = .int .i64 s ∧ b' = .bool b ∧ v' = .int .u64 v ∧ v < 2 ^ 39 ∧ s < 64 ∧ Hid (s ^^^ xs v 39 = xs c 39) ∧ Hid (b = (od c 39 == od v 39))) (fun _ _ v' => (intOf v').toNat)
  case atStart => exact ⟨0, c, true, rfl, rfl, rfl, hc, by decide, by simp [Hid], by simp [Hid]⟩
  case round =>
    obtain ⟨s, v, b, rfl, rfl, rfl, hv, hs, H1, H2⟩ := hrel
    by_cases h0 : v = 0
    · subst h0
      go_wp2_with fail
      have e1 := H1.out
      rw [xs_zero, Nat.xor_zero] at e1
      have e2 := H2.out
      rw [od_zero] at e2
      have e3 : b = !(od c 39) := by rw [e2]; cases od c 39 <;> rfl
      go_ret2
      refine ⟨s, ?_, hs, e1, rfl⟩
      rw [← e3]
      rfl
    · have t1 : ((v : Int) != 0) = true := by simp; omega
      obtain ⟨x1, x2⟩ := xs_strike v h0 hv
      have x3 := (strike v h0 (by omega)).2
      have x4 := ctz_lt v 39 h0 hv (by decide)
      go_wp2_with fail
      refine (tz_ok v h0 hv w hT).mono ?_
      rintro e w' ⟨rfl, rfl⟩
      have e1 : bits .xor .i64 (s : Int) ((Lib.ctz 64 v : Nat) : Int) = ((s ^^^ Lib.ctz 64 v : Nat) : Int) := i64_xor_nat s _ (by omega) (by omega)
      have e2 : bits .and .u64 (v : Int) ((v : Int) - 1) = ((v &&& (v - 1) : Nat) : Int) := by
        have := bits_and_u64_nat v (v - 1) (by omega) (by omega)
        rwa [show ((v - 1 : Nat) : Int) = (v : Int) - 1 by omega] at this
      have x5 : s ^^^ Lib.ctz 64 v < 64 := Nat.xor_lt_two_pow (n := 6) hs (by omega)
      have G1 : Hid ((s ^^^ Lib.ctz 64 v) ^^^ xs (v &&& (v - 1)) 39 = xs c 39) := by
        have := H1.out
        rw [x1] at this
        rw [← this]
        simp [Hid, Nat.xor_assoc, Nat.xor_comm]
      have G2 : Hid ((!b) = (od c 39 == od (v &&& (v - 1)) 39)) := by
        have := H2.out
        rw [x2] at this
        rw [this]
        simp only [Hid]
        cases od c 39 <;> cases od (v &&& (v - 1)) 39 <;> rfl
      clear H1 H2 x1 x2
      generalize Lib.ctz 64 v = t at *
      generalize v &&& (v - 1) = u at *
      have hv1 : 1 ≤ v := by omega
      go_wp2_with fail
      go_round
      case rel => exact ⟨s ^^^ t, u, !b, rfl, rfl, rfl, by omega, x5, G1, G2⟩
      case measure => simp [intOf]; omega
end Go.Proofs.YtgacnbildligjaaDoor
