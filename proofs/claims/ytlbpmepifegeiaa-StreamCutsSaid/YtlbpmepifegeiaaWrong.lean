/- Stream: wrong. -/
import Derived.Test.YtlbpmepifegeiaaSync
namespace Go.Proofs.Ytlbpmepifegeiaa
set_option linter.unusedVariables false
set_option linter.unusedSimpArgs false
open Go.RowKit

theorem Rd.sub {w : World} {b o n c : Nat} {bs : List Nat} (h : Rd w (some ⟨b, o, none⟩) n c (vb bs)) (i k : Nat) (hik : i + k ≤ n) : Rd w (some ⟨b, o + i, none⟩) k (c - i) (vb ((bs.drop i).take k)) := by
  have hl := h.len
  rw [vb_len] at hl
  have hle := h.le
  have hmx := h.max
  refine ⟨by rw [vb_len, List.length_take, List.length_drop]; omega, by omega, by omega, (fun h => by cases h), fun hk => ?_⟩
  obtain ⟨b', o', ha, hlt, hc⟩ := h.mem (by omega)
  cases ha
  refine ⟨b, o + i, rfl, hlt, fun j hj => ?_⟩
  have h1 := hc (i + j) (by omega)
  rw [← Nat.add_assoc] at h1
  rw [h1]
  simp [vb, List.getElem?_drop, hj]
theorem All1.nth {l : List Nat} (h : All1 l) (k : Nat) : nth l k < 2 := by
  rcases Nat.lt_or_ge k l.length with hk | hk
  · rw [nth_get hk]; exact h _ (List.getElem_mem hk)
  · rw [nth_ge hk]; decide

set_option maxRecDepth 100000 in
set_option maxHeartbeats 1000000 in
theorem wrong_ok (sb : Nat) (s : SyV) (a : Nat) (t : Bool) (B : List Nat) (W : World) (h : SyAt W sb s) (hr : Rd W s.ba s.bn s.bc (vb B)) (h1 : All1 B) (ha : s.base ≤ a ∧ a + 32 ≤ s.base + s.bn) (hbig : s.base + s.bn < 1125899906842624) :
    Calls Try.prog 23 #[.pointer (some ⟨sb, 0, none⟩), .int .i64 (a : Int), .bool t] W fun e w' => e = .returned (.int .i64 (wrN (numB ((B.drop (a - s.base)).take 32)) t)) ∧ Below W.heap.size W w' := by
  have c4 := h.cb
  have c5 := h.cbase
  obtain ⟨bb, bo, hba, hbl, _⟩ := hr.mem (by omega)
  rw [hba] at c4 hr
  have hle := hr.le
  obtain ⟨d, hd⟩ : ∃ d, d = a - s.base := ⟨_, rfl⟩
  have hs := hr.sub d 32 (by omega)
  have hs1 : All1 ((B.drop d).take 32) := (h1.drop _).take _
  have hsl : ((B.drop d).take 32).length = 32 := by have := hs.len; rwa [vb_len] at this
  rw [← hd]
  generalize hx : (B.drop d).take 32 = x at *
  have e1 : (a : Int) - (s.base : Int) = (d : Int) := by omega
  have e2 : IntKind.i64.wrap (d : Int) = (d : Int) := IntWalk.i64_in _ (by omega)
  have e3 : IntKind.i64.wrap ((d : Int) + 32) = (d : Int) + 32 := IntWalk.i64_in _ (by omega)
  have e4 : (0 : Int) ≤ (d : Int) := by omega
  have e5 : (d : Int) ≤ (d : Int) + 32 := by omega
  have e6 : (d : Int) + 32 ≤ (s.bc : Int) := by omega
  have e7 : ((d : Int) + 32).toNat - d = 32 := by omega
  have e8 : ¬ s.bc = d := by omega
  have Hx := hid hx
  have Hsl := hid hsl
  clear hx hd hba hsl hle
  go_enter Try.func23, Try.ntmps23
  go_wp2_with fail
  go_quiet (fail)
  have hs := hs.below ((below_drewN W nq).mono (Nat.le_refl _))
  have hB : Below W.heap.size W (W.drewN nq) := below_drewN _ _
  generalize W.drewN nq = V at *
  clear c4 c5 e1 e2 e3 e4 e5 e6
  go_wp2_with fail
  clear e7
  go_loop [7, 30] (fun z i => ∃ k : Nat, i = .int .i64 (k : Int) ∧ k ≤ 32 ∧ z = .int .u32 (numB (x.take k) : Nat)) (fun _ i => 32 - (intOf i).toNat)
  case atStart => exact ⟨0, rfl, by decide, rfl⟩
  case round =>
    obtain ⟨k, rfl, hk, rfl⟩ := hrel
    by_cases hlt : k < 32
    · have t1 : (k : Int) < 32 := by omega
      obtain ⟨b', o', hae, _, hcell⟩ := hs.cell k hlt
      cases hae
      have hb := hs1.nth k
      have hlt2 := numB_lt (x.take (k + 1)) (hs1.take _)
      have hl2 : (x.take (k + 1)).length = k + 1 := by rw [List.length_take, Hsl.out]; omega
      rw [hl2] at hlt2
      have hp : (2 : Nat) ^ (k + 1) ≤ 2 ^ 32 := Nat.pow_le_pow_right (by decide) (by omega)
      have hsn : x.take (k + 1) = x.take k ++ [nth x k] := take_snocN _ _ (by rw [Hsl.out]; exact hlt)
      have hnb : numB (x.take (k + 1)) = 2 * numB (x.take k) + nth x k := by rw [hsn, numB_snoc]
      have hp2 : (2 : Nat) ^ 32 = 4294967296 := by decide
      have hbound : 2 * numB (x.take k) + nth x k < 4294967296 := by omega
      have e9 := or_bit (numB (x.take k)) (nth x k) hb hbound
      have HN := hid hnb
      clear hnb hsn hlt2 hl2 hp hp2
      generalize numB (x.take k) = z at *
      generalize nth x k = y at *
      have e10 : IntKind.u32.wrap ((z : Int) * 2) = (z : Int) * 2 := by rw [IntKind.wrap_u32]; omega
      have e11 : IntKind.u32.wrap (y : Int) = (y : Int) := by rw [IntKind.wrap_u32]; omega
      go_wp2_with fail
      go_round
      case rel => exact ⟨k + 1, by go_num, by omega, by rw [HN.out]; go_num⟩
      case measure => simp [intOf]; omega
    · obtain rfl : k = 32 := by omega
      rw [List.take_of_length_le (by rw [Hsl.out]; exact Nat.le_refl _)]
      have hz := numB_lt x hs1
      rw [Hsl.out] at hz
      have hz : numB x < 4294967296 := hz
      have e9 := u32_xor_nat (numB x) 449838109 hz (by decide)
      have e9 : bits .xor .u32 (numB x : Int) 449838109 = ((numB x ^^^ 449838109 : Nat) : Int) := e9
      have hq : numB x ^^^ 449838109 < 4294967296 := Nat.xor_lt_two_pow (n := 32) hz (by decide)
      have HW : Hid (wrN (numB x) t = if t then 32 - onesN (numB x ^^^ 449838109) else onesN (numB x ^^^ 449838109)) := rfl
      generalize numB x ^^^ 449838109 = q at *
      have ho := onesN_rng q hq
      try rw [show ((32 : Nat) : Int) = 32 from rfl]
      go_wp2_with fail
      refine (ones_ok q hq V).mono ?_
      rintro e w' ⟨rfl, n2, rfl⟩
      have hB2 : Below W.heap.size W (V.drewN n2) := hB.trans (below_drewN _ _)
      generalize onesN q = o at *
      cases t with
      | false =>
        go_wp2_with fail
        go_ret
        exact ⟨by rw [HW.out]; first | rfl | simp, hB2⟩
      | true =>
        go_wp2_with fail
        go_ret
        exact ⟨by rw [HW.out]; first | rfl | simp, hB2⟩
end Go.Proofs.Ytlbpmepifegeiaa
