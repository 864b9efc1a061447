/- Stream: Scramble. -/
import Derived.Test.YtlbpmepifegeiaaClone
import Derived.Test.YtlbpmepifegeiaaAppendAt
import Derived.IntWalk
namespace Go.Proofs.Ytlbpmepifegeiaa
set_option linter.unusedVariables false
open Go.RowKit

/-- the row's next state -/
def lfZ (y : Int) : Int := bits BinOp.or IntKind.u8 (y * 2 % 256) (bits BinOp.and IntKind.u8 (bits BinOp.xor IntKind.u8 (bits BinOp.xor IntKind.u8 (bits BinOp.xor IntKind.u8 y (y / 4)) (y / 16)) (y / 128)) 1)
theorem or_rng (a b : Int) : 0 ≤ bits BinOp.or IntKind.u8 a b ∧ bits BinOp.or IntKind.u8 a b ≤ 255 := by
  show 0 ≤ IntKind.u8.wrap _ ∧ IntKind.u8.wrap _ ≤ 255
  rw [IntKind.wrap_u8]; omega
def lfI (y : Int) : Nat → Int
  | 0 => y
  | j + 1 => lfZ (lfI y j)
theorem lfI_rng (y : Int) (h : 0 ≤ y ∧ y ≤ 255) (j : Nat) : 0 ≤ lfI y j ∧ lfI y j ≤ 255 := by
  cases j with
  | zero => exact h
  | succ j => exact or_rng _ _
/-- the row at a byte -/
def rowZ : Nat → Int
  | 0 => 255
  | k + 1 => lfI (rowZ k) 8
theorem rowZ_rng (k : Nat) : 0 ≤ rowZ k ∧ rowZ k ≤ 255 := by
  induction k with
  | zero => exact ⟨by decide, by decide⟩
  | succ k ih => exact lfI_rng _ ih _
def rowN (k : Nat) : Nat := (rowZ k).toNat
theorem rowN_lt (k : Nat) : rowN k < 256 := by have := rowZ_rng k; unfold rowN; omega
def scrTo (l : List Nat) : Nat → List Nat
  | 0 => l
  | k + 1 => (scrTo l k).set k (nth l k ^^^ rowN k)
/-- bytes by the row -/
def Scr (l : List Nat) : List Nat := scrTo l l.length
theorem scrTo_len (l : List Nat) (k : Nat) : (scrTo l k).length = l.length := by
  induction k with
  | zero => rfl
  | succ k ih => rw [scrTo, List.length_set, ih]
theorem scrTo_nth (l : List Nat) (k j : Nat) (hk : k ≤ l.length) : nth (scrTo l k) j = if j < k then nth l j ^^^ rowN j else nth l j := by
  induction k with
  | zero => rw [if_neg (by omega)]; rfl
  | succ k ih =>
    rw [scrTo, nth_set _ _ _ _ (by rw [scrTo_len]; omega), ih (by omega)]
    by_cases h : j = k
    · subst h; rw [if_pos rfl, if_pos (by omega)]
    · rw [if_neg h]
      by_cases h2 : j < k
      · rw [if_pos h2, if_pos (by omega)]
      · rw [if_neg h2, if_neg (by omega)]
theorem Scr_len (l : List Nat) : (Scr l).length = l.length := scrTo_len l _
theorem Scr_nth (l : List Nat) (j : Nat) (hj : j < l.length) : nth (Scr l) j = nth l j ^^^ rowN j := by
  unfold Scr; rw [scrTo_nth _ _ _ (Nat.le_refl _), if_pos hj]
theorem Scr_b {l : List Nat} (h : AllB l) : AllB (Scr l) := by
  intro x hx
  obtain ⟨i, hi, rfl⟩ := List.getElem_of_mem hx
  rw [← nth_get hi]
  rw [Scr_len] at hi
  rw [Scr_nth _ _ hi]
  exact Nat.xor_lt_two_pow (n := 8) (nth_lt h i) (rowN_lt i)
theorem Scr_Scr (l : List Nat) : Scr (Scr l) = l := by
  apply ext_nth
  · rw [Scr_len, Scr_len]
  · intro j hj
    rw [Scr_len, Scr_len] at hj
    rw [Scr_nth _ _ (by rw [Scr_len]; exact hj), Scr_nth _ _ hj, Nat.xor_assoc, Nat.xor_self, Nat.xor_zero]

set_option maxRecDepth 100000 in
set_option maxHeartbeats 1000000 in
theorem scr_ok (ao : Option Addr) (n cap : Nat) (bs : List Nat) (w : World) (hq : Rd w ao n cap (vb bs)) (hb : AllB bs) (hn : n ≤ 4096) :
    Calls Try.prog 21 #[.slice ao n cap] w fun e w' => ∃ ao' c, e = .returned (.slice ao' n c) ∧ w'.ownsRow w.heap.size 5 1 (.slice ao' n c) n (vb (Scr bs)) ∧ Below w.heap.size w w' := by
  have hbl : bs.length = n := by have := hq.len; rwa [vb_len] at this
  go_enter Try.func21, Try.ntmps21
  go_wp2_with fail
  refine (clone_any ao n cap bs w hq (by omega)).mono ?_
  rintro e V ⟨oa, oc, rfl, oR, bV⟩
  go_wp2_with fail
  have Hbl := hid hbl
  clear hbl
  go_loopw [4, 10] (fun r i wr => ∃ (k : Nat), i = .int .i64 (k : Int) ∧ k ≤ n ∧ r = .int .u8 (rowZ k) ∧ wr.ownsRow w.heap.size 5 1 (.slice oa n oc) n (vb (scrTo bs k)) ∧ Below w.heap.size w wr) (fun _ i _ => n - (intOf i).toNat)
  case atStart => exact ⟨0, rfl, Nat.zero_le _, rfl, oR, bV⟩
  case round =>
    clear oR bV
    obtain ⟨k, rfl, hk, rfl, oR, bW⟩ := hrel
    by_cases hlt : k < n
    · have t1 : (k : Int) < (n : Int) := by omega
      obtain ⟨g, rfl⟩ := own_addr oR (by omega)
      have c1 : wr.cell? ⟨g, k, none⟩ = some (.int .u8 (nth (scrTo bs k) k : Nat)) := by rw [oR.cellAt k (by omega), vb_get _ _ (by rw [scrTo_len, Hbl.out]; omega)]
      rw [scrTo_nth _ _ _ (by rw [Hbl.out]; omega), if_neg (Nat.lt_irrefl _)] at c1
      have f1 := oR.frozenAt k
      have hz := rowZ_rng k
      have hzn : rowZ k = (rowN k : Int) := by unfold rowN; omega
      have hx := nth_lt hb k
      have hr := rowN_lt k
      have e1 := u8_xor_nat (nth bs k) (rowN k) hx hr
      have HS : Hid (scrTo bs (k + 1) = (scrTo bs k).set k (nth bs k ^^^ rowN k)) := rfl
      have HR : Hid (rowZ (k + 1) = lfI (rowN k) 8) := by show _ = _; rw [← hzn]; rfl
      rw [hzn]
      clear hzn hz
      generalize rowN k = r at *
      generalize nth bs k = x at *
      generalize x ^^^ r = y at *
      obtain ⟨oR2, g2⟩ := oR.stored k (.int .u8 (y : Int))
      rw [vb_set, ← HS.out] at oR2
      have bW2 := bW.grown g2 bW.size (fun b e => by cases e; exact (oR.lt g rfl).1)
      obtain ⟨w2, hw2⟩ : ∃ w2, w2 = wr.setCell ⟨g, k, none⟩ (.int .u8 (y : Int)) := ⟨_, rfl⟩
      rw [← hw2] at oR2 bW2
      have hw2' := hw2.symm
      clear hw2 oR bW g2
      go_wp2_with fail
      clear c1 f1 hw2' e1
      go_loop [4, 20] (fun q i => ∃ (j : Nat), i = .int .i64 (j : Int) ∧ j ≤ 8 ∧ q = .int .u8 (lfI r j)) (fun _ i => 8 - (intOf i).toNat)
      case atStart => exact ⟨0, rfl, Nat.zero_le _, rfl⟩
      case round =>
        obtain ⟨j, rfl, hj, rfl⟩ := hrel
        by_cases hlt2 : j < 8
        · have t2 : (j : Int) < 8 := by omega
          obtain ⟨hy0, hy1⟩ := lfI_rng (r : Int) ⟨by omega, by omega⟩ j
          have HL : Hid (lfI (r : Int) (j + 1) = lfZ (lfI (r : Int) j)) := rfl
          generalize lfI (r : Int) j = z at *
          go_wp2_with fail
          go_round
          case rel => exact ⟨j + 1, by go_num, by omega, by rw [HL.out]; rfl⟩
          case measure => simp [intOf]; omega
        · obtain rfl : j = 8 := by omega
          try rw [show ((8 : Nat) : Int) = 8 from rfl]
          rw [← HR.out]
          clear hlt2 hj
          have t3 : 0 ≤ rowZ (k + 1) := (rowZ_rng (k + 1)).1
          go_wp2_with fail
          go_roundw
          case rel => exact ⟨k + 1, by go_num, by omega, rfl, oR2, bW2⟩
          case measure => simp [intOf]; omega
    · obtain rfl : k = n := by omega
      have e9 : scrTo bs k = Scr bs := by unfold Scr; rw [Hbl.out]
      rw [e9] at oR
      clear e9
      go_wp2_with fail
      go_ret
      exact ⟨oa, oc, rfl, oR, bW⟩
end Go.Proofs.Ytlbpmepifegeiaa
