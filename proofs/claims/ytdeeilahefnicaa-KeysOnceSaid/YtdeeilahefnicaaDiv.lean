/- Keys: bits.Div64 by the prime: it answers the same to the same (no more is asked). -/
import Derived.Test.YtdeeilahefnicaaSmall
namespace Go.Proofs.Ytdeeilahefnicaa
set_option linter.unusedVariables false
open Go.RowKit

set_option maxRecDepth 100000 in
theorem len_P (w : World) : Calls Try.prog 38 #[.int .u64 2305843009213693951] w fun e w' => e = .returned (.int .i64 3) ∧ w = w' := by
  go_enter Try.func38, Try.ntmps38
  go_wp2_with fail
  have h : Calls Try.prog 32 #[.int .u64 2305843009213693951] w fun e w' => e = .returned (.int .i64 61) ∧ w = w' := by
    go_enter Try.func32, Try.ntmps32
    go_wp2_with fail
    go_ret
    exact ⟨by kernel_rfl, rfl⟩
  refine h.mono ?_
  rintro e w' ⟨rfl, rfl⟩
  go_wp2_with fail
  go_ret
  exact ⟨rfl, rfl⟩

abbrev W64 (z : Int) : Int := IntKind.u64.wrap z
theorem w64_rng (z : Int) : 0 ≤ IntKind.u64.wrap z ∧ IntKind.u64.wrap z < 18446744073709551616 := by rw [IntKind.wrap_u64]; omega
theorem or_rng (a b : Int) : 0 ≤ bits .or .u64 a b ∧ bits .or .u64 a b < 18446744073709551616 := w64_rng _
theorem and_rng (a b : Int) : 0 ≤ bits .and .u64 a b ∧ bits .and .u64 a b < 18446744073709551616 := w64_rng _
theorem w64_add (a b : Int) : IntKind.u64.wrap (IntKind.u64.wrap a + b) = IntKind.u64.wrap (a + b) := by rw [IntKind.wrap_u64, IntKind.wrap_u64, IntKind.wrap_u64]; omega
/-- the rounds that set a digit right: at most two -/
def dfix (u : Int) : Nat → Int → Int → Int × Int
  | 0, q, r => (q, r)
  | n + 1, q, r => if 4294967296 ≤ q ∨ IntKind.u64.wrap (IntKind.u64.wrap (4294967296 * r) + u) < IntKind.u64.wrap (q * 4294967288) then
      (if 4294967296 ≤ r + 4294967295 then (IntKind.u64.wrap (q - 1), r + 4294967295) else dfix u n (IntKind.u64.wrap (q - 1)) (r + 4294967295)) else (q, r)
/-- how the rounds stand -/
def dst (u q r : Int) (T : Int × Int) : Prop := (∃ n, dfix u n q r = T ∧ (n = 2 ∧ 0 ≤ r ∧ r ≤ 4294967294 ∨ n = 1 ∧ r = 4294967295)) 
theorem dst_stop {u q r : Int} {T : Int × Int} (h : dst u q r T) (h1 : ¬ 4294967296 ≤ q) (h2 : ¬ IntKind.u64.wrap (IntKind.u64.wrap (4294967296 * r) + u) < IntKind.u64.wrap (q * 4294967288)) : q = T.1 ∧ r = T.2 := by
  obtain ⟨n, hT, hn⟩ := h
  obtain ⟨m, rfl⟩ : ∃ m, n = m + 1 := ⟨n - 1, by omega⟩
  unfold dfix at hT
  rw [if_neg (fun h => h.elim h1 h2)] at hT
  rw [← hT]; exact ⟨rfl, rfl⟩
theorem dst_break {u q r : Int} {T : Int × Int} (h : dst u q r T) (h1 : 4294967296 ≤ q ∨ IntKind.u64.wrap (IntKind.u64.wrap (4294967296 * r) + u) < IntKind.u64.wrap (q * 4294967288)) (h2 : 4294967296 ≤ r + 4294967295) : IntKind.u64.wrap (q - 1) = T.1 ∧ r + 4294967295 = T.2 := by
  obtain ⟨n, hT, hn⟩ := h
  obtain ⟨m, rfl⟩ : ∃ m, n = m + 1 := ⟨n - 1, by omega⟩
  unfold dfix at hT
  rw [if_pos h1, if_pos h2] at hT
  rw [← hT]; exact ⟨rfl, rfl⟩
theorem dst_on {u q r : Int} {T : Int × Int} (h : dst u q r T) (h1 : 4294967296 ≤ q ∨ IntKind.u64.wrap (IntKind.u64.wrap (4294967296 * r) + u) < IntKind.u64.wrap (q * 4294967288)) (h2 : ¬ 4294967296 ≤ r + 4294967295) : dst u (IntKind.u64.wrap (q - 1)) (r + 4294967295) T ∧ r = 0 := by
  obtain ⟨n, hT, hn⟩ := h
  obtain ⟨m, rfl⟩ : ∃ m, n = m + 1 := ⟨n - 1, by omega⟩
  unfold dfix at hT
  rw [if_pos h1, if_neg h2] at hT
  exact ⟨⟨m, hT, by omega⟩, by omega⟩
theorem dst_rng {u q r : Int} {T : Int × Int} (h : dst u q r T) : 0 ≤ r ∧ r ≤ 4294967295 := by
  obtain ⟨n, hT, hn⟩ := h
  omega

set_option maxHeartbeats 4000000 in
set_option maxRecDepth 100000 in
theorem div_big (hi lo : Nat) (h1 : hi < 2305843009213693951) (h2 : lo < 18446744073709551616) (h0 : hi ≠ 0) : ∃ z, (0 ≤ z ∧ z < 18446744073709551616) ∧ ∀ w, Calls Try.prog 35 #[.int .u64 (hi : Int), .int .u64 (lo : Int), .int .u64 2305843009213693951] w fun e w' => (∃ q, e = .returned (.tuple #[.int .u64 q, .int .u64 z])) ∧ w = w' := by
  have t1 : ¬ (2305843009213693951 : Int) ≤ (hi : Int) := by omega
  have t2 : ((hi : Int) == 0) = false := by simp; omega
  have e1 : bits BinOp.and IntKind.u64 18446744073709551608 4294967295 = 4294967288 := by kernel_rfl
  have hA := or_rng ((hi : Int) * 8) ((lo : Int) / 2305843009213693952)
  obtain ⟨A, hAe⟩ : ∃ A, A = bits .or .u64 ((hi : Int) * 8) ((lo : Int) / 2305843009213693952) := ⟨_, rfl⟩
  rw [← hAe] at hA
  obtain ⟨U, hUe⟩ : ∃ U, U = IntKind.u64.wrap ((lo : Int) * 8) / 4294967296 := ⟨_, rfl⟩
  obtain ⟨V, hVe⟩ : ∃ V, V = bits .and .u64 (IntKind.u64.wrap ((lo : Int) * 8)) 4294967295 := ⟨_, rfl⟩
  have k1 : IntKind.u64.wrap (A / 4294967295 * 4294967295) = A / 4294967295 * 4294967295 := by rw [IntKind.wrap_u64]; omega
  have k2 : IntKind.u64.wrap (A - A / 4294967295 * 4294967295) = A % 4294967295 := by rw [IntKind.wrap_u64]; omega
  obtain ⟨T, hT⟩ : ∃ T, T = dfix U 2 (A / 4294967295) (A % 4294967295) := ⟨_, rfl⟩
  have hd : dst U (A / 4294967295) (A % 4294967295) T := ⟨2, hT.symm, .inl ⟨rfl, by omega, by omega⟩⟩
  clear hT
  obtain ⟨T1, T2⟩ := T
  obtain ⟨B, hBe⟩ : ∃ B, B = IntKind.u64.wrap (IntKind.u64.wrap (IntKind.u64.wrap (A * 4294967296) + U) - IntKind.u64.wrap (T1 * 18446744073709551608)) := ⟨_, rfl⟩
  have hBr := w64_rng (IntKind.u64.wrap (IntKind.u64.wrap (A * 4294967296) + U) - IntKind.u64.wrap (T1 * 18446744073709551608))
  rw [← hBe] at hBr
  have kb1 : IntKind.u64.wrap (B / 4294967295 * 4294967295) = B / 4294967295 * 4294967295 := by rw [IntKind.wrap_u64]; omega
  have kb2 : IntKind.u64.wrap (B - B / 4294967295 * 4294967295) = B % 4294967295 := by rw [IntKind.wrap_u64]; omega
  obtain ⟨T', hT'⟩ : ∃ T', T' = dfix V 2 (B / 4294967295) (B % 4294967295) := ⟨_, rfl⟩
  have hs : dst V (B / 4294967295) (B % 4294967295) T' := ⟨2, hT'.symm, .inl ⟨rfl, by omega, by omega⟩⟩
  clear hT'
  obtain ⟨S1, S2⟩ := T'
  have HB := hBe.symm
  clear hBe
  apply Exists.intro
  refine ⟨?zr, fun w => ?_⟩
  case zr =>
    have := w64_rng (IntKind.u64.wrap (IntKind.u64.wrap (B * 4294967296) + V) - IntKind.u64.wrap (S1 * 18446744073709551608))
    show 0 ≤ IntKind.u64.wrap (IntKind.u64.wrap (IntKind.u64.wrap (B * 4294967296) + V) - IntKind.u64.wrap (S1 * 18446744073709551608)) / 8 ∧ IntKind.u64.wrap (IntKind.u64.wrap (IntKind.u64.wrap (B * 4294967296) + V) - IntKind.u64.wrap (S1 * 18446744073709551608)) / 8 < _
    omega
  go_enter Try.func35, Try.ntmps35
  go_wp2_with fail
  refine (len_P w).mono ?_
  rintro e w' ⟨rfl, rfl⟩
  have HA := hAe.symm
  have HU := hUe.symm
  have HV := hVe.symm
  clear hAe hUe hVe
  go_wp2_with fail
  go_loop [15, 16] (fun q' r' => ∃ q r, q' = .int .u64 q ∧ r' = .int .u64 r ∧ dst U q r (T1, T2)) (fun _ r' => (8589934592 - intOf r').toNat)
  case atStart => exact ⟨_, _, rfl, rfl, hd⟩
  case round =>
    obtain ⟨q, r, rfl, rfl, hst⟩ := hrel
    obtain ⟨r0, r1⟩ := dst_rng hst
    clear hd k1 k2
    have m1 : IntKind.u64.wrap (r + 4294967295) = r + 4294967295 := by rw [IntKind.wrap_u64]; omega
    by_cases hq : 4294967296 ≤ q
    · by_cases hb : 4294967296 ≤ r + 4294967295
      · obtain ⟨x1, x2⟩ := dst_break hst (.inl hq) hb
        clear hst
        have x1 : IntKind.u64.wrap (q - 1) = T1 := x1
        have x2 : r + 4294967295 = T2 := x2
        have g1 : 4294967296 ≤ T2 := by rw [← x2]; exact hb
        have m2 : IntKind.u64.wrap T2 = T2 := by rw [← x2]; exact m1
        clear hb m1 r0 r1
        go_wp2_with fail
        go_loop [18, 16] (fun q' r' => ∃ q r, q' = .int .u64 q ∧ r' = .int .u64 r ∧ dst V q r (S1, S2)) (fun _ r' => (8589934592 - intOf r').toNat)
        case atStart => exact ⟨_, _, rfl, rfl, hs⟩
        case round =>
          obtain ⟨q, r, rfl, rfl, hst⟩ := hrel
          obtain ⟨r0, r1⟩ := dst_rng hst
          try clear hs kb1 kb2 t1 t2 e1 h0 h1 h2
          have m1 : IntKind.u64.wrap (r + 4294967295) = r + 4294967295 := by rw [IntKind.wrap_u64]; omega
          by_cases hq : 4294967296 ≤ q
          · by_cases hb : 4294967296 ≤ r + 4294967295
            · obtain ⟨x1, x2⟩ := dst_break hst (.inl hq) hb
              clear hst
              have x1 : IntKind.u64.wrap (q - 1) = S1 := x1
              have x2 : r + 4294967295 = S2 := x2
              have g1 : 4294967296 ≤ S2 := by rw [← x2]; exact hb
              have m2 : IntKind.u64.wrap S2 = S2 := by rw [← x2]; exact m1
              clear hb m1 r0 r1
              go_wp2_with fail
              go_ret2
              exact ⟨⟨_, rfl⟩, rfl⟩
            · obtain ⟨x1, e0⟩ := dst_on hst (.inl hq) hb
              have X1 := hid x1
              clear hst e0 x1
              go_wp2_with fail
              go_round
              case rel => exact ⟨_, _, rfl, rfl, X1.out⟩
              case measure => simp [intOf]; omega
          · by_cases hB : IntKind.u64.wrap (IntKind.u64.wrap (4294967296 * r) + V) < IntKind.u64.wrap (q * 4294967288)
            · have hB2 := hB
              rw [w64_add] at hB2
              by_cases hb : 4294967296 ≤ r + 4294967295
              · obtain ⟨x1, x2⟩ := dst_break hst (.inr hB) hb
                clear hst
                have x1 : IntKind.u64.wrap (q - 1) = S1 := x1
                have x2 : r + 4294967295 = S2 := x2
                have g1 : 4294967296 ≤ S2 := by rw [← x2]; exact hb
                have m2 : IntKind.u64.wrap S2 = S2 := by rw [← x2]; exact m1
                clear hb m1 r0 r1
                go_wp2_with fail
                go_ret2
                exact ⟨⟨_, rfl⟩, rfl⟩
              · obtain ⟨x1, e0⟩ := dst_on hst (.inr hB) hb
                have X1 := hid x1
                clear hst e0 x1
                go_wp2_with fail
                go_round
                case rel => exact ⟨_, _, rfl, rfl, X1.out⟩
                case measure => simp [intOf]; omega
            · obtain ⟨x1, x2⟩ : q = S1 ∧ r = S2 := dst_stop hst hq hB
              have hB2 := hB
              rw [w64_add] at hB2
              clear hst m1 r0 r1
              subst x1 x2
              go_wp2_with fail
              go_ret2
              exact ⟨⟨_, rfl⟩, rfl⟩
      · obtain ⟨x1, e0⟩ := dst_on hst (.inl hq) hb
        have X1 := hid x1
        clear hst e0 x1
        go_wp2_with fail
        go_round
        case rel => exact ⟨_, _, rfl, rfl, X1.out⟩
        case measure => simp [intOf]; omega
    · by_cases hB : IntKind.u64.wrap (IntKind.u64.wrap (4294967296 * r) + U) < IntKind.u64.wrap (q * 4294967288)
      · have hB2 := hB
        rw [w64_add] at hB2
        by_cases hb : 4294967296 ≤ r + 4294967295
        · obtain ⟨x1, x2⟩ := dst_break hst (.inr hB) hb
          clear hst
          have x1 : IntKind.u64.wrap (q - 1) = T1 := x1
          have x2 : r + 4294967295 = T2 := x2
          have g1 : 4294967296 ≤ T2 := by rw [← x2]; exact hb
          have m2 : IntKind.u64.wrap T2 = T2 := by rw [← x2]; exact m1
          clear hb m1 r0 r1
          go_wp2_with fail
          go_loop [18, 16] (fun q' r' => ∃ q r, q' = .int .u64 q ∧ r' = .int .u64 r ∧ dst V q r (S1, S2)) (fun _ r' => (8589934592 - intOf r').toNat)
          case atStart => exact ⟨_, _, rfl, rfl, hs⟩
          case round =>
            obtain ⟨q, r, rfl, rfl, hst⟩ := hrel
            obtain ⟨r0, r1⟩ := dst_rng hst
            try clear hs kb1 kb2 t1 t2 e1 h0 h1 h2
            have m1 : IntKind.u64.wrap (r + 4294967295) = r + 4294967295 := by rw [IntKind.wrap_u64]; omega
            by_cases hq : 4294967296 ≤ q
            · by_cases hb : 4294967296 ≤ r + 4294967295
              · obtain ⟨x1, x2⟩ := dst_break hst (.inl hq) hb
                clear hst
                have x1 : IntKind.u64.wrap (q - 1) = S1 := x1
                have x2 : r + 4294967295 = S2 := x2
                have g1 : 4294967296 ≤ S2 := by rw [← x2]; exact hb
                have m2 : IntKind.u64.wrap S2 = S2 := by rw [← x2]; exact m1
                clear hb m1 r0 r1
                go_wp2_with fail
                go_ret2
                exact ⟨⟨_, rfl⟩, rfl⟩
              · obtain ⟨x1, e0⟩ := dst_on hst (.inl hq) hb
                have X1 := hid x1
                clear hst e0 x1
                go_wp2_with fail
                go_round
                case rel => exact ⟨_, _, rfl, rfl, X1.out⟩
                case measure => simp [intOf]; omega
            · by_cases hB : IntKind.u64.wrap (IntKind.u64.wrap (4294967296 * r) + V) < IntKind.u64.wrap (q * 4294967288)
              · have hB2 := hB
                rw [w64_add] at hB2
                by_cases hb : 4294967296 ≤ r + 4294967295
                · obtain ⟨x1, x2⟩ := dst_break hst (.inr hB) hb
                  clear hst
                  have x1 : IntKind.u64.wrap (q - 1) = S1 := x1
                  have x2 : r + 4294967295 = S2 := x2
                  have g1 : 4294967296 ≤ S2 := by rw [← x2]; exact hb
                  have m2 : IntKind.u64.wrap S2 = S2 := by rw [← x2]; exact m1
                  clear hb m1 r0 r1
                  go_wp2_with fail
                  go_ret2
                  exact ⟨⟨_, rfl⟩, rfl⟩
                · obtain ⟨x1, e0⟩ := dst_on hst (.inr hB) hb
                  have X1 := hid x1
                  clear hst e0 x1
                  go_wp2_with fail
                  go_round
                  case rel => exact ⟨_, _, rfl, rfl, X1.out⟩
                  case measure => simp [intOf]; omega
              · obtain ⟨x1, x2⟩ : q = S1 ∧ r = S2 := dst_stop hst hq hB
                have hB2 := hB
                rw [w64_add] at hB2
                clear hst m1 r0 r1
                subst x1 x2
                go_wp2_with fail
                go_ret2
                exact ⟨⟨_, rfl⟩, rfl⟩
        · obtain ⟨x1, e0⟩ := dst_on hst (.inr hB) hb
          have X1 := hid x1
          clear hst e0 x1
          go_wp2_with fail
          go_round
          case rel => exact ⟨_, _, rfl, rfl, X1.out⟩
          case measure => simp [intOf]; omega
      · obtain ⟨x1, x2⟩ : q = T1 ∧ r = T2 := dst_stop hst hq hB
        have hB2 := hB
        rw [w64_add] at hB2
        clear hst m1 r0 r1
        subst x1 x2
        go_wp2_with fail
        go_loop [18, 16] (fun q' r' => ∃ q r, q' = .int .u64 q ∧ r' = .int .u64 r ∧ dst V q r (S1, S2)) (fun _ r' => (8589934592 - intOf r').toNat)
        case atStart => exact ⟨_, _, rfl, rfl, hs⟩
        case round =>
          obtain ⟨q, r, rfl, rfl, hst⟩ := hrel
          obtain ⟨r0, r1⟩ := dst_rng hst
          try clear hs kb1 kb2 t1 t2 e1 h0 h1 h2
          have m1 : IntKind.u64.wrap (r + 4294967295) = r + 4294967295 := by rw [IntKind.wrap_u64]; omega
          by_cases hq : 4294967296 ≤ q
          · by_cases hb : 4294967296 ≤ r + 4294967295
            · obtain ⟨x1, x2⟩ := dst_break hst (.inl hq) hb
              clear hst
              have x1 : IntKind.u64.wrap (q - 1) = S1 := x1
              have x2 : r + 4294967295 = S2 := x2
              have g1 : 4294967296 ≤ S2 := by rw [← x2]; exact hb
              have m2 : IntKind.u64.wrap S2 = S2 := by rw [← x2]; exact m1
              clear hb m1 r0 r1
              go_wp2_with fail
              go_ret2
              exact ⟨⟨_, rfl⟩, rfl⟩
            · obtain ⟨x1, e0⟩ := dst_on hst (.inl hq) hb
              have X1 := hid x1
              clear hst e0 x1
              go_wp2_with fail
              go_round
              case rel => exact ⟨_, _, rfl, rfl, X1.out⟩
              case measure => simp [intOf]; omega
          · by_cases hB : IntKind.u64.wrap (IntKind.u64.wrap (4294967296 * r) + V) < IntKind.u64.wrap (q * 4294967288)
            · have hB2 := hB
              rw [w64_add] at hB2
              by_cases hb : 4294967296 ≤ r + 4294967295
              · obtain ⟨x1, x2⟩ := dst_break hst (.inr hB) hb
                clear hst
                have x1 : IntKind.u64.wrap (q - 1) = S1 := x1
                have x2 : r + 4294967295 = S2 := x2
                have g1 : 4294967296 ≤ S2 := by rw [← x2]; exact hb
                have m2 : IntKind.u64.wrap S2 = S2 := by rw [← x2]; exact m1
                clear hb m1 r0 r1
                go_wp2_with fail
                go_ret2
                exact ⟨⟨_, rfl⟩, rfl⟩
              · obtain ⟨x1, e0⟩ := dst_on hst (.inr hB) hb
                have X1 := hid x1
                clear hst e0 x1
                go_wp2_with fail
                go_round
                case rel => exact ⟨_, _, rfl, rfl, X1.out⟩
                case measure => simp [intOf]; omega
            · obtain ⟨x1, x2⟩ : q = S1 ∧ r = S2 := dst_stop hst hq hB
              have hB2 := hB
              rw [w64_add] at hB2
              clear hst m1 r0 r1
              subst x1 x2
              go_wp2_with fail
              go_ret2
              exact ⟨⟨_, rfl⟩, rfl⟩
end Go.Proofs.Ytdeeilahefnicaa
