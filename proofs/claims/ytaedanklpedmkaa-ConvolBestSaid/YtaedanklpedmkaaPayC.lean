/- what a bit costs behind a state; and symbols that are all in range. -/
import Derived.Test.YtaedanklpedmkaaCountC
import Derived.Test.YtaedanklpedmkaaOpenInts
namespace Go.Proofs.Ytaedanklpedmkaa
set_option linter.unusedVariables false
open Go.RowKit

set_option maxRecDepth 100000 in
theorem pay_ok (b s G H : Nat) (o t : Nat → Nat) (w : World) (hb : b < 2) (hs : s < 64) (ho : ∀ i, i < 2 → w.cell? ⟨G, i, none⟩ = some (.int .i64 (o i : Nat))) (ht : ∀ i, i < 2 → w.cell? ⟨H, i, none⟩ = some (.int .i64 (t i : Nat))) (hol : ∀ i, o i ≤ 100) (htl : ∀ i, t i ≤ 100) :
    Calls Try.prog 18 #[.int .i64 (b : Int), .int .i64 (s : Int), .pointer (some ⟨G, 0, none⟩), .pointer (some ⟨H, 0, none⟩)] w fun e w' => e = .returned (.int .i64 ((o (q1 (2 * s + b)) + t (q2 (2 * s + b)) : Nat) : Int)) ∧ Below w.heap.size w w' := by
  have hp := pair_ok b s w hb hs
  have c1 := ho _ (q1_lt (2 * s + b))
  have c2 := ht _ (q2_lt (2 * s + b))
  have l1 := hol (q1 (2 * s + b))
  have l2 := htl (q2 (2 * s + b))
  have x1 := q1_lt (2 * s + b)
  have x2 := q2_lt (2 * s + b)
  generalize hy1 : q1 (2 * s + b) = y1 at *
  generalize hy2 : q2 (2 * s + b) = y2 at *
  clear hy1 hy2 ho ht hol htl
  generalize o y1 = u at *
  generalize t y2 = v at *
  have s1 : IntKind.i64.wrap ((u : Int) + (v : Int)) = ((u + v : Nat) : Int) := by rw [IntWalk.i64_in _ (by omega)]; omega
  have i1 : (y1 : Int) < 2 := by omega
  have i2 : (y2 : Int) < 2 := by omega
  go_enter Try.func18, Try.ntmps18
  go_wp2_with fail
  refine hp.mono ?_
  rintro e w' ⟨rfl, rfl⟩
  go_wp2_with fail
  refine wp_region_still_lit (by kernel_rfl) (by kernel_rfl) ?_
  repeat still_step
  refine wpStill_nil ?_
  go_wp2
  go_ret
  exact ⟨rfl, (Below.refl _ _).drew⟩
theorem far_fn (x : Int) (w : World) (h0 : -7 ≤ x) (h1 : x ≤ 7) : Calls Try.prog 16 #[.int .i64 x] w fun e w' => e = .returned (.bool false) ∧ w' = w := by
  have t1 : decide (x < -7) = false := decide_eq_false (by omega)
  have t2 : decide (7 < x) = false := decide_eq_false (by omega)
  have Ht := hid (And.intro t1 t2)
  clear t1 t2
  go_enter Try.func16, Try.ntmps16
  go_wp2
  go_ret
  refine ⟨?_, rfl⟩
  show Ending.returned (.bool (decide (x < -7) || decide (7 < x))) = _
  rw [Ht.out.1, Ht.out.2]
  rfl
theorem idxz_ok (sa : Option Addr) (n c : Nat) (zs : List Int) (w : World) (hz : Rd w sa n c (vz zs)) (h1 : ∀ i, -7 ≤ zs.getD i 0 ∧ zs.getD i 0 ≤ 7) (hn : n ≤ 100000) :
    Calls Try.prog 22 #[.slice sa n c, .func (.func 16) #[] #[]] w fun e w' => e = .returned (.int .i64 (-1)) ∧ w' = w := by
  go_enter Try.func22, Try.ntmps22
  go_wp2
  go_loopw [8] (fun i wr => ∃ j : Nat, j ≤ n ∧ i = .int .i64 j ∧ wr = w) (fun i _ => n - (intOf i).toNat)
  case atStart => exact ⟨0, by omega, rfl, rfl⟩
  case round =>
    obtain ⟨j, hj, rfl, rfl⟩ := hrel
    by_cases hlt : j < n
    · obtain ⟨b, off, rfl, hbl, hcell⟩ := hz.cellz j hlt
      obtain ⟨hx1, hx2⟩ := h1 j
      have hf := far_fn (zs.getD j 0) wr hx1 hx2
      generalize zs.getD j 0 = x at *
      go_wp2_with fail
      refine hf.mono ?_
      rintro e w' ⟨rfl, rfl⟩
      go_wp2
      go_roundw
      case rel => exact ⟨j + 1, by omega, by go_num, trivial⟩
      case measure => simp [intOf]; omega
    · obtain rfl : n = j := by omega
      go_wp2
      go_ret
      exact ⟨rfl, rfl⟩
theorem hasz_ok (sa : Option Addr) (n c : Nat) (zs : List Int) (w : World) (hz : Rd w sa n c (vz zs)) (h1 : ∀ i, -7 ≤ zs.getD i 0 ∧ zs.getD i 0 ≤ 7) (hn : n ≤ 100000) :
    Calls Try.prog 15 #[.slice sa n c, .func (.func 16) #[] #[]] w fun e w' => e = .returned (.bool false) ∧ w' = w := by
  go_enter Try.func15, Try.ntmps15
  go_wp2_with fail
  refine (idxz_ok sa n c zs w hz h1 hn).mono ?_
  rintro e w' ⟨rfl, rfl⟩
  go_wp2
  go_ret
  exact ⟨rfl, rfl⟩
end Go.Proofs.Ytaedanklpedmkaa
