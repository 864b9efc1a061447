/- count: how many symbols n bits have. -/
import Derived.Test.YtaedanklpedmkaaSpreadC
namespace Go.Proofs.Ytaedanklpedmkaa
set_option linter.unusedVariables false
open Go.RowKit

def cntTo (r : Nat) : Nat → Nat
  | 0 => 0
  | i + 1 => cntTo r i + (if ka r i = true then 1 else 0) + (if kb r i = true then 1 else 0)
theorem cntTo_le (r : Nat) : ∀ i, cntTo r i ≤ 2 * i
  | 0 => Nat.le_refl _
  | i + 1 => by
    have := cntTo_le r i
    rw [cntTo]
    split <;> split <;> omega
theorem out_cnt (r : Nat) (bs : List Nat) : ∀ i, (outTo r bs i).length = cntTo r i
  | 0 => rfl
  | i + 1 => by
    rw [outTo, cntTo, List.length_append, List.length_append, out_cnt r bs i]
    split <;> split <;> rfl
set_option maxRecDepth 100000 in
theorem count_ok (r n : Nat) (w : World) (h1 : 1 ≤ r) (h5 : r ≤ 5) (hn : n ≤ 16384) : Calls Try.prog 14 #[.agg #[.string (patA r), .string (patB r)], .int .i64 (n : Int)] w fun e w' => e = .returned (.int .i64 (cntTo r (n + 6) : Nat)) ∧ Below w.heap.size w w' := by
  have A := heap_alloc_new w (.cells #[.string (patA r), .string (patB r)] 36)
  have b0 := below_alloc w (.cells #[.string (patA r), .string (patB r)] 36)
  have hat := fun i W (hi : i ≤ 100000) => at_ok r i W h1 h5 hi
  generalize patA r = pa at *
  generalize patB r = pb at *
  obtain ⟨g, hg⟩ : ∃ g, g = w.heap.size := ⟨_, rfl⟩
  have Hg := hid hg
  rw [← hg] at A
  clear hg
  go_enter Try.func14, Try.ntmps14
  go_wp2_with fail
  rw [← Hg.out]
  generalize w.alloc (.cells #[.string pa, .string pb] 36) = V at *
  go_loopw [5, 11] (fun kv i wr => ∃ j : Nat, j ≤ n + 6 ∧ i = .int .i64 j ∧ kv = .int .i64 (cntTo r j : Nat) ∧ Below V.heap.size V wr) (fun _ i _ => n + 6 - (intOf i).toNat)
  case atStart => exact ⟨0, by omega, rfl, rfl, Below.refl _ _⟩
  case round =>
    obtain ⟨j, hj, rfl, rfl, hB⟩ := hrel
    by_cases hlt : j < n + 6
    · have A2 := row_below A hB
      have c0 : wr.cell? ⟨g, 0, none⟩ = some (.string pa) := by rw [cell_of_row _ _ _ _ _ _ A2]; rfl
      have c1 : wr.cell? ⟨g, 1, none⟩ = some (.string pb) := by rw [cell_of_row _ _ _ _ _ _ A2]; rfl
      have hle := cntTo_le r j
      have Hn : Hid (cntTo r (j + 1) = cntTo r j + (if ka r j = true then 1 else 0) + (if kb r j = true then 1 else 0)) := rfl
      have hat := hat j wr (by omega)
      generalize hc' : cntTo r (j + 1) = c' at *
      have Hc' := hid hc'
      clear hc'
      generalize cntTo r j = c at *
      cases hka : ka r j
      · cases hkb : kb r j
        · have Hn : Hid (c' = c) := by
            show _ = _
            have h := Hn.out
            rw [hka, hkb] at h
            simpa using h
          rw [hka, hkb] at hat
          have Hk := hid (And.intro hka hkb)
          clear hka hkb
          go_wp2_with fail
          refine hat.mono ?_
          rintro e W3 ⟨rfl, B3⟩
          have hB3 := hB.trans (B3.mono hB.size)
          go_wp2
          go_roundw
          case rel => exact ⟨j + 1, by omega, by go_num, by rw [Hc'.out, Hn.out], hB3⟩
          case measure => simp [intOf]; omega
        · have Hn : Hid (c' = c + 1) := by
            show _ = _
            have h := Hn.out
            rw [hka, hkb] at h
            simpa using h
          rw [hka, hkb] at hat
          have Hk := hid (And.intro hka hkb)
          clear hka hkb
          go_wp2_with fail
          refine hat.mono ?_
          rintro e W3 ⟨rfl, B3⟩
          have hB3 := hB.trans (B3.mono hB.size)
          go_wp2
          go_roundw
          case rel => exact ⟨j + 1, by omega, by go_num, by rw [Hc'.out, Hn.out]; go_num, hB3⟩
          case measure => simp [intOf]; omega
      · cases hkb : kb r j
        · have Hn : Hid (c' = c + 1) := by
            show _ = _
            have h := Hn.out
            rw [hka, hkb] at h
            simpa using h
          rw [hka, hkb] at hat
          have Hk := hid (And.intro hka hkb)
          clear hka hkb
          go_wp2_with fail
          refine hat.mono ?_
          rintro e W3 ⟨rfl, B3⟩
          have hB3 := hB.trans (B3.mono hB.size)
          go_wp2
          go_roundw
          case rel => exact ⟨j + 1, by omega, by go_num, by rw [Hc'.out, Hn.out]; go_num, hB3⟩
          case measure => simp [intOf]; omega
        · have Hn : Hid (c' = c + 2) := by
            show _ = _
            have h := Hn.out
            rw [hka, hkb] at h
            simpa using h
          rw [hka, hkb] at hat
          have Hk := hid (And.intro hka hkb)
          clear hka hkb
          go_wp2_with fail
          refine hat.mono ?_
          rintro e W3 ⟨rfl, B3⟩
          have hB3 := hB.trans (B3.mono hB.size)
          go_wp2
          go_roundw
          case rel => exact ⟨j + 1, by omega, by go_num, by rw [Hc'.out, Hn.out]; go_num, hB3⟩
          case measure => simp [intOf]; omega
    · obtain rfl : j = n + 6 := by omega
      go_wp2
      go_ret
      exact ⟨rfl, b0.trans (hB.mono b0.size)⟩
end Go.Proofs.Ytaedanklpedmkaa
