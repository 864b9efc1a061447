/- sized, encode, Encode. -/
import Derived.Test.YtendgihkjibbaaaShiftS
namespace Go.Proofs.Ytendgihkjibbaaa
set_option linter.unusedVariables false
open Go.RowKit

theorem sized_yes (n c : Int) (w : World) (h1 : 1 ≤ c) (h2 : c ≤ 64) (h3 : c < n) (h4 : n ≤ 255) :
    Calls Try.prog 9 #[.int .i64 n, .int .i64 c] w fun e w' => e = .returned (.bool true) ∧ w' = w := by
  go_enter Try.func9, Try.ntmps9
  go_wp2
  go_ret
  exact ⟨rfl, rfl⟩
theorem sized_no (n c : Int) (w : World) (h : ¬(1 ≤ c ∧ c ≤ 64 ∧ c < n ∧ n ≤ 255)) :
    Calls Try.prog 9 #[.int .i64 n, .int .i64 c] w fun e w' => e = .returned (.bool false) ∧ w' = w := by
  by_cases h1 : 1 ≤ c
  · by_cases h2 : c ≤ 64
    · by_cases h3 : c < n
      · have h4 : ¬n ≤ 255 := fun h4 => h ⟨h1, h2, h3, h4⟩
        go_enter Try.func9, Try.ntmps9
        go_wp2
        go_ret
        exact ⟨rfl, rfl⟩
      · go_enter Try.func9, Try.ntmps9
        go_wp2
        go_ret
        exact ⟨rfl, rfl⟩
    · go_enter Try.func9, Try.ntmps9
      go_wp2
      go_ret
      exact ⟨rfl, rfl⟩
  · go_enter Try.func9, Try.ntmps9
    go_wp2
    go_ret
    exact ⟨rfl, rfl⟩

/-- a code word -/
def encw (ds : List Nat) (c : Nat) : List Nat := ds ++ regs (prodTo c).tail (List.replicate c 0) ds

theorem allb_tl {l : List Nat} (h : AllB l) : AllB l.tail := fun y hy => h y (List.mem_of_mem_tail hy)

theorem encode_ok (da : Option Addr) (dn dc c : Nat) (ds : List Nat) (w : World) (hd : Rd w da dn dc (vb ds)) (hdb : AllB ds) (hc1 : 1 ≤ c) (hc : c ≤ 64) (hdn : dn ≤ 100000) :
    Calls Try.prog 10 #[.slice da dn dc, .int .i64 (c : Int)] w fun e w' => ∃ ao k, e = .returned (.slice ao (dn + c) k) ∧
      w'.ownsRow w.heap.size 5 1 (.slice ao (dn + c) k) (dn + c) (vb (encw ds c)) ∧ Below w.heap.size w w' := by
  go_enter Try.func10, Try.ntmps10
  go_wp2_with fail
  refine (product_ok c w hc1 hc).mono ?_
  rintro e W1 ⟨ga, gc, rfl, hg, B1⟩
  go_wp2_with fail
  refine (shifted_ok da ga dn dc c gc ds (prodTo c).tail W1 (hd.below B1) hdb hg (allb_tl (prodTo_all c)) hc1 hc hdn).mono ?_
  rintro e W2 ⟨ao, k, rfl, o, B2⟩
  go_wp2
  go_ret
  exact ⟨ao, k, rfl, ownsRow_mono o B1.size, B1.trans (B2.mono B1.size)⟩

theorem enc_ok (da : Option Addr) (dn dc c : Nat) (ds : List Nat) (w : World) (hd : Rd w da dn dc (vb ds)) (hdb : AllB ds) (hc1 : 1 ≤ c) (hc : c ≤ 64) (hdn1 : 1 ≤ dn) (hdn : dn + c ≤ 255) :
    Calls Try.prog 6 #[.slice da dn dc, .int .i64 (c : Int)] w fun e w' => ∃ ao k, e = .returned (.tuple #[.slice ao (dn + c) k, .int .i64 0]) ∧
      w'.ownsRow w.heap.size 5 1 (.slice ao (dn + c) k) (dn + c) (vb (encw ds c)) ∧ Below w.heap.size w w' := by
  have t1 : ((dn : Int) == 0) = false := by simp; omega
  go_enter Try.func6, Try.ntmps6
  go_wp2_with fail
  refine (sized_yes ((dn : Int) + c) c w (by omega) (by omega) (by omega) (by omega)).mono ?_
  rintro e w' ⟨rfl, rfl⟩
  go_wp2_with fail
  refine (encode_ok da dn dc c ds _ hd hdb hc1 hc (by omega)).mono ?_
  rintro e W2 ⟨ao, k, rfl, o, B2⟩
  go_wp2
  go_ret2
  exact ⟨ao, k, rfl, o, B2⟩
end Go.Proofs.Ytendgihkjibbaaa
