/- frame.Sum: the walk. -/
import Derived.Test.YtkngoomkmbkenaaProg
import Derived.Test.YtkngoomkmbkenaaSl
import Derived.Test.YtkngoomkmbkenaaBits
import Derived.WalkKit
namespace Go.Proofs.Ytkngoomkmbkenaa
set_option linter.unusedVariables false
open Go.RowKit

def crcStep (s : Nat) : Nat := if s &&& 32768 ≠ 0 then (s * 2 % 65536) ^^^ 4129 else s * 2 % 65536
def crcN : Nat → Nat → Nat
  | 0, s => s
  | n + 1, s => crcN n (crcStep s)
def crcByte (s x : Nat) : Nat := crcN 8 (s ^^^ x * 256)
def sumN (bs : List Nat) : Nat := bs.foldl crcByte 65535
theorem xor16 {a b : Nat} (ha : a < 65536) (hb : b < 65536) : a ^^^ b < 65536 := Nat.xor_lt_two_pow (n := 16) ha hb
theorem crcStep_lt (s : Nat) : crcStep s < 65536 := by
  unfold crcStep
  split
  · exact xor16 (by omega) (by decide)
  · omega
theorem crcN_lt (n s : Nat) (h : s < 65536) : crcN n s < 65536 := by
  induction n generalizing s with
  | zero => exact h
  | succ n ih => exact ih _ (crcStep_lt s)
theorem crcByte_lt (s x : Nat) (h : s < 65536) (hx : x < 256) : crcByte s x < 65536 := crcN_lt _ _ (xor16 h (by omega))
theorem sumN_lt (bs : List Nat) (h : AllB bs) : sumN bs < 65536 := by
  unfold sumN
  suffices key : ∀ (l : List Nat) (s : Nat), s < 65536 → AllB l → l.foldl crcByte s < 65536 from key bs _ (by decide) h
  intro l
  induction l with
  | nil => intro s hs _; exact hs
  | cons x l ih => intro s hs hl; exact ih _ (crcByte_lt s x hs (hl x List.mem_cons_self)) (fun y hy => hl y (List.mem_cons_of_mem _ hy))

theorem wraps_u16 (n : Int) (h₀ : 0 ≤ n) (h₁ : n < 2 ^ 16) : IntKind.u16.wrap n = n := by
  simp only [IntKind.wrap, IntKind.signed, IntKind.bits]
  simp; omega
theorem wrap_u16' (z : Int) : IntKind.u16.wrap z = z % 65536 := by simp [IntKind.wrap, IntKind.signed, IntKind.bits]
theorem u16_and_nat (a b : Nat) (ha : a < 2 ^ 16) (hb : b < 2 ^ 16) : bits .and .u16 (a : Int) (b : Int) = ((a &&& b : Nat) : Int) :=
  (bits_nat .u16 16 (by decide) wraps_u16 a b ha hb).1
theorem u16_xor_nat (a b : Nat) (ha : a < 2 ^ 16) (hb : b < 2 ^ 16) : bits .xor .u16 (a : Int) (b : Int) = ((a ^^^ b : Nat) : Int) := by
  have ha' : a % 2 ^ 16 = a := Nat.mod_eq_of_lt ha
  have hb' : b % 2 ^ 16 = b := Nat.mod_eq_of_lt hb
  show IntKind.u16.wrap ((BitVec.ofInt 16 (a : Int) ^^^ BitVec.ofInt 16 (b : Int)).toNat : Int) = _
  rw [BitVec.toNat_xor, BitVec.ofInt_natCast, BitVec.ofInt_natCast, BitVec.toNat_ofNat, BitVec.toNat_ofNat, ha', hb']
  have hx := Nat.xor_lt_two_pow ha hb
  exact wraps_u16 _ (Int.natCast_nonneg _) (by exact_mod_cast hx)

set_option maxRecDepth 100000 in
theorem sum_ok (a : Option Addr) (n c : Nat) (bs : List Nat) (hb : AllB bs) (hn : n ≤ 140737488355328) (w : World) (hr : Rd w a n c (vb bs)) :
    Calls Try.prog 21 #[.slice a n c] w fun e w' => ∃ s : Nat, e = .returned (.int .i64 (s : Int)) ∧ s < 65536 ∧ Hid (s = sumN bs) ∧ w = w' := by
  have hl : bs.length = n := by have := hr.len; rwa [vb_len] at this
  have Hl := hid hl
  clear hl
  go_enter Try.func21, Try.ntmps21
  go_wp2_with fail
  go_loop [3, 9] (fun s i => ∃ (k z : Nat), i = .int .i64 k ∧ k ≤ n ∧ s = .int .u16 z ∧ z < 65536 ∧ Hid (z = (bs.take k).foldl crcByte 65535)) (fun _ i => n - (intOf i).toNat)
  case atStart => exact ⟨0, 65535, rfl, Nat.zero_le _, rfl, by decide, rfl⟩
  case round =>
    obtain ⟨k, z, rfl, hk, rfl, hz, HZ⟩ := hrel
    by_cases hlt : k < n
    · have t1 : (k : Int) < (n : Int) := by omega
      obtain ⟨b, off, rfl, hbl, hcell⟩ := hr.cell k hlt
      have hx := nth_lt hb k
      have hstep : (bs.take (k + 1)).foldl crcByte 65535 = crcByte ((bs.take k).foldl crcByte 65535) (nth bs k) := by
        have hkl : k < bs.length := by rw [Hl.out]; exact hlt
        rw [List.take_add_one, List.foldl_append, nth_get hkl]; simp [hkl]
      rw [← HZ.out] at hstep
      have hstep := hid hstep
      generalize nth bs k = x at *
      have e1 : bits .xor .u16 (z : Int) ((x : Int) * 256) = ((z ^^^ x * 256 : Nat) : Int) := by
        have := u16_xor_nat z (x * 256) (by omega) (by omega)
        rwa [Int.natCast_mul] at this
      have hy : z ^^^ x * 256 < 65536 := xor16 hz (by omega)
      have hfin : Hid (crcN 8 (z ^^^ x * 256) = (bs.take (k + 1)).foldl crcByte 65535) := hstep.out.symm
      generalize z ^^^ x * 256 = y at *
      clear HZ
      go_wp2_with fail
      clear hstep
      generalize hF : (bs.take (k + 1)).foldl crcByte 65535 = F at *
      have HF := hid hF
      clear hF
      go_loop [3, 18] (fun s j => ∃ (m v : Nat), j = .int .i64 m ∧ m ≤ 8 ∧ s = .int .u16 v ∧ v < 65536 ∧ Hid (crcN (8 - m) v = F)) (fun _ j => 8 - (intOf j).toNat)
      case atStart => exact ⟨0, y, rfl, by decide, rfl, hy, hfin⟩
      case round =>
        clear hfin
        obtain ⟨m, v, rfl, hm, rfl, hv, HV⟩ := hrel
        by_cases hm8 : m < 8
        · have t2 : (m : Int) < 8 := by omega
          have e2 : bits .and .u16 (v : Int) 32768 = ((v &&& 32768 : Nat) : Int) := u16_and_nat v 32768 (by omega) (by decide)
          have hcs : Hid (crcN (8 - (m + 1)) (crcStep v) = F) := by
            have h := HV.out
            rw [show 8 - m = (8 - (m + 1)) + 1 by omega] at h
            exact h
          have e4 : IntKind.u16.wrap ((v : Int) * 2) = ((v * 2 % 65536 : Nat) : Int) := by rw [wrap_u16']; omega
          have hd : v * 2 % 65536 < 65536 := by omega
          by_cases hv0 : v &&& 32768 = 0
          · have hst : crcStep v = v * 2 % 65536 := by unfold crcStep; rw [if_neg (by simpa using hv0)]
            rw [hst] at hcs
            rw [hv0] at e2
            generalize v * 2 % 65536 = v2 at *
            go_wp2_with fail
            go_round
            case rel => exact ⟨m + 1, v2, by simp, by omega, rfl, hd, hcs⟩
            case measure => simp [intOf]; omega
          · have hst : crcStep v = (v * 2 % 65536) ^^^ 4129 := by unfold crcStep; rw [if_pos hv0]
            rw [hst] at hcs
            have t3 : (((v &&& 32768 : Nat) : Int) != 0) = true := by simp; exact hv0
            have e3 : bits .xor .u16 ((v * 2 % 65536 : Nat) : Int) 4129 = (((v * 2 % 65536) ^^^ 4129 : Nat) : Int) := u16_xor_nat (v * 2 % 65536) 4129 (by omega) (by decide)
            have hx3 := xor16 (a := v * 2 % 65536) (b := 4129) (by omega) (by decide)
            generalize v * 2 % 65536 = v3 at *
            generalize v3 ^^^ 4129 = v2 at *
            generalize v &&& 32768 = va at *
            go_wp2_with fail
            go_round
            case rel => exact ⟨m + 1, v2, by simp, by omega, rfl, hx3, hcs⟩
            case measure => simp [intOf]; omega
        · have hm9 : m = 8 := by omega
          subst hm9
          have hvF : v = F := HV.out
          go_wp2_with fail
          go_round
          case rel => exact ⟨k + 1, v, by simp, by omega, rfl, hv, hvF.trans HF.out.symm⟩
          case measure => simp [intOf]; omega
    · obtain rfl : k = n := by omega
      have hz2 := HZ.out
      rw [List.take_of_length_le (by rw [Hl.out]; exact Nat.le_refl _)] at hz2
      have hz3 : Hid (z = sumN bs) := hz2
      clear hz2 HZ
      go_wp2_with fail
      go_ret
      exact ⟨z, rfl, hz, hz3, rfl⟩
end Go.Proofs.Ytkngoomkmbkenaa
