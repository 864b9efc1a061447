/- cost: the walk. -/
import Derived.Test.YtaedanklpedmkaaBestP
import Derived.Test.YtaedanklpedmkaaMendsC
namespace Go.Proofs.Ytaedanklpedmkaa
set_option linter.unusedVariables false
open Go.RowKit

/-- what symbols cost -/
def cstS (o : List Nat) (zs : List Int) (j : Nat) : Nat := nsum (fun j => sy (nth o j) (zs.getD j 0)) j
theorem cstS_le (o : List Nat) (zs : List Int) (hz : Soft zs) : ∀ j, cstS o zs j ≤ 14 * j
  | 0 => Nat.le_refl _
  | j + 1 => by
    have := cstS_le o zs hz j
    have := sy_le (nth o j) (zs.getD j 0) (hz _).1 (hz _).2
    show cstS o zs j + sy (nth o j) (zs.getD j 0) ≤ _
    omega
set_option maxRecDepth 100000 in
set_option maxHeartbeats 4000000 in
theorem cost_ok (ba0 : Option Addr) (n c r : Nat) (bs : List Nat) (za : Option Addr) (m zc : Nat) (zs : List Int) (w : World) (hb : Rd w ba0 n c (vb bs)) (hb1 : ∀ i, nth bs i ≤ 1) (hn : n ≤ 16384) (hr1 : 1 ≤ r) (hr5 : r ≤ 5) (hz : Rd w za m zc (vz zs)) (hs : Soft zs) (hm : m = cntTo r (n + 6)) :
    Calls Try.prog 8 #[.slice ba0 n c, .slice za m zc, .int .i64 (r : Int)] w fun e w' => e = .returned (.tuple #[.int .i64 (sumPay (payS r fun j => zs.getD j 0) bs (n + 6) : Nat), .bool true]) ∧ Below w.heap.size w w' := by
  have hps := hid (pay_sum r (fun j => zs.getD j 0) bs (n + 6))
  have hsp := spread_ok ba0 n c r bs w hb hb1 hn hr1 hr5
  have hol := out_cnt r bs (n + 6)
  have hob := hid (out_bits r bs (n + 6))
  have hml := cntTo_le r (n + 6)
  rw [← hm] at hol hps hml
  rw [hol] at hsp
  generalize outTo r bs (n + 6) = o at *
  generalize sumPay (payS r fun j => zs.getD j 0) bs (n + 6) = tot at *
  have Hm := hid hm
  have Hol := hid hol
  clear hm hol hb hb1
  go_enter Try.func8, Try.ntmps8
  go_wp2_with fail
  refine hsp.mono ?_
  rintro e W2 ⟨oa, oc, rfl, hO, b2⟩
  have HB := hid b2
  have hz2 := hid (hz.below b2)
  have HO := hid (Rd.ofOwn hO)
  clear hsp b2 hO hz
  go_wp2_with fail
  go_loopw [10, 11] (fun cv i wr => ∃ j : Nat, j ≤ m ∧ i = .int .i64 j ∧ cv = .int .i64 (cstS o zs j : Nat) ∧ wr = W2) (fun _ i _ => m - (intOf i).toNat)
  case atStart => exact ⟨0, by omega, rfl, rfl, rfl⟩
  case round =>
    obtain ⟨j, hj, rfl, rfl, rfl⟩ := hrel
    by_cases hlt : j < m
    · have hx := hob.out j
      have hzj := hs j
      have Hs := hid (show cstS o zs (j + 1) = cstS o zs j + sy (nth o j) (zs.getD j 0) from rfl)
      have hcl := cstS_le o zs hs j
      obtain ⟨ob, ooff, rfl, _, hoc⟩ := HO.out.cell j hlt
      obtain ⟨zb, zoff, rfl, _, hzc⟩ := hz2.out.cellz j hlt
      have q1 := sy_zero (zs.getD j 0) hzj.1
      have q2 := sy_one (zs.getD j 0) hzj.2
      generalize hc1 : cstS o zs (j + 1) = c1 at *
      have Hc1 := hid hc1
      generalize cstS o zs j = c0 at *
      generalize zs.getD j 0 = z at *
      obtain ⟨z1, z2⟩ := hzj
      have s1 : IntKind.i64.wrap (7 + z) = 7 + z := by rw [IntWalk.i64_in _ (by omega)]
      have s2 : IntKind.i64.wrap (7 - z) = 7 - z := by rw [IntWalk.i64_in _ (by omega)]
      have s3 : IntKind.i64.wrap ((c0 : Int) + (7 + z)) = (c0 : Int) + (7 + z) := by rw [IntWalk.i64_in _ (by omega)]
      have s4 : IntKind.i64.wrap ((c0 : Int) + (7 - z)) = (c0 : Int) + (7 - z) := by rw [IntWalk.i64_in _ (by omega)]
      clear hc1
      rcases (show nth o j = 0 ∨ nth o j = 1 by omega) with h0 | h0
      · rw [h0] at hoc Hs
        have Hfin : Hid ((c0 : Int) + (7 + z) = (c1 : Int)) := by unfold Hid; rw [Hs.out]; omega
        clear q1 q2 h0 hx
        go_wp2_with fail
        go_roundw
        case rel => exact ⟨j + 1, by omega, by go_num, by rw [Hc1.out, Hfin.out], trivial⟩
        case measure => simp [intOf]; omega
      · rw [h0] at hoc Hs
        have Hfin : Hid ((c0 : Int) + (7 - z) = (c1 : Int)) := by unfold Hid; rw [Hs.out]; omega
        clear q1 q2 h0 hx
        go_wp2_with fail
        go_roundw
        case rel => exact ⟨j + 1, by omega, by go_num, by rw [Hc1.out, Hfin.out], trivial⟩
        case measure => simp [intOf]; omega
    · obtain rfl : m = j := by omega
      have hfin : Hid (cstS o zs m = tot) := hps.out.symm
      generalize cstS o zs m = ct at *
      go_wp2_with fail
      go_ret2
      exact ⟨by rw [← hfin.out]; rfl, HB.out⟩
end Go.Proofs.Ytaedanklpedmkaa
