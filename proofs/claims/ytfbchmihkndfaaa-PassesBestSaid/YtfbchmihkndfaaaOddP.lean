/- Passes: no pass is odd. -/
import Derived.Test.YtfbchmihkndfaaaCmpP
namespace Go.Proofs.Ytfbchmihkndfaaa
set_option linter.unusedVariables false
open Go.RowKit

set_option maxRecDepth 100000 in
set_option maxHeartbeats 1000000 in
theorem odd_ok (p : Ps) (hp : p.Good) (w : World) : Calls Try.prog 14 #[.agg #[.int .i64 (p.st : Int), .int .i64 (p.fr : Int), .int .i64 (p.tt : Int), .int .i64 (p.wo : Int)]] w fun e w' => e = .returned (.bool false) ∧ Below w.heap.size w w' := by
  obtain ⟨h1, h2, h3, h4⟩ := hp
  obtain ⟨ps, pf, pt, pw⟩ := p
  dsimp only at *
  have b1 := hid (below_alloc w (.cells #[.int .i64 (ps : Int), .int .i64 (pf : Int), .int .i64 (pt : Int), .int .i64 (pw : Int)] 41))
  go_enter Try.func14, Try.ntmps14
  go_wp2_with ((go_at_call 12; refine (in_yes _ _ _ _ (by omega) (by omega)).mono ?_; rintro e w' ⟨rfl, rfl⟩))
  go_ret
  exact ⟨rfl, b1.out⟩
set_option maxRecDepth 100000 in
set_option maxHeartbeats 1000000 in
theorem idx_ok (la : Option Addr) (n cap : Nat) (l : List Ps) (hg : GoodPs l) (hn : n ≤ 9) (w : World) (hr : RdPs w la n cap l) :
    Calls Try.prog 32 #[.slice la n cap, .func (.func 14) #[] #[]] w fun e w' => e = .returned (.int .i64 (-1)) ∧ Below w.heap.size w w' := by
  have Hr := hid hr
  have Hg := hid hg
  clear hr hg
  go_enter Try.func32, Try.ntmps32
  go_wp2_with fail
  go_loopw [8] (fun i wr => ∃ j : Nat, j ≤ n ∧ i = .int .i64 j ∧ Hid (Below w.heap.size w wr)) (fun i _ => n - (intOf i).toNat)
  case atStart => exact ⟨0, by omega, rfl, Below.refl _ _⟩
  case round =>
    obtain ⟨j, hj, rfl, hB⟩ := hrel
    by_cases hlt : j < n
    · have hr1 := Hr.out.below hB.out
      obtain ⟨b, rfl, hbl, c0, c1, c2, c3⟩ := hr1.at_ j hlt
      have ho := odd_ok (pAt l j) (Hg.out j (by rw [Hr.out.len]; exact hlt)) wr
      clear hr1
      generalize pAt l j = p at *
      obtain ⟨ps, pf, pt, pw⟩ := p
      dsimp only at *
      go_wp2_with fail
      refine ho.mono ?_
      rintro e W1 ⟨rfl, b1⟩
      have hB1 : Hid (Below w.heap.size w W1) := hB.out.trans (b1.mono hB.out.size)
      clear b1 hB ho c0 c1 c2 c3
      go_wp2_with fail
      go_roundw
      case rel => exact ⟨j + 1, by omega, by go_num, hB1⟩
      case measure => simp [intOf]; omega
    · obtain rfl : n = j := by omega
      go_wp2_with fail
      go_ret
      exact ⟨rfl, hB.out⟩
theorem has_ok (la : Option Addr) (n cap : Nat) (l : List Ps) (hg : GoodPs l) (hn : n ≤ 9) (w : World) (hr : RdPs w la n cap l) :
    Calls Try.prog 13 #[.slice la n cap, .func (.func 14) #[] #[]] w fun e w' => e = .returned (.bool false) ∧ Below w.heap.size w w' := by
  have hi := idx_ok la n cap l hg hn w hr
  clear hg hr
  go_enter Try.func13, Try.ntmps13
  go_wp2_with fail
  refine hi.mono ?_
  rintro e W1 ⟨rfl, b1⟩
  have B1 := hid b1
  clear b1 hi
  go_wp2_with fail
  go_ret
  exact ⟨rfl, B1.out⟩
end Go.Proofs.Ytfbchmihkndfaaa
