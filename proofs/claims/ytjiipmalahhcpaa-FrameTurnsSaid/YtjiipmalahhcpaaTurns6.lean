/- What Decode reads where Encode has written. -/
import Derived.Test.YtjiipmalahhcpaaTurns5
import Derived.Test.YtjiipmalahhcpaaTurns4
namespace Go.Proofs.Ytjiipmalahhcpaa
set_option linter.unusedVariables false
open Go.RowKit

set_option maxRecDepth 1000000 in
theorem or_add (a b : Nat) (i : Nat) (hb : b < 2 ^ i) : a * 2 ^ i ||| b = a * 2 ^ i + b := by
  rw [← Nat.shiftLeft_eq, Nat.shiftLeft_add_eq_or_of_lt hb]

set_option maxRecDepth 1000000 in
theorem hl_join (x : Nat) : (x / 256 * 256) ||| (x % 256) = x := by
  rw [show (256 : Nat) = 2 ^ 8 by rfl, or_add _ _ 8 (Nat.mod_lt _ (by decide))]
  omega

set_option maxRecDepth 1000000 in
theorem nth_cons_zero (a : Nat) (l : List Nat) : nth (a :: l) 0 = a := rfl
set_option maxRecDepth 1000000 in
theorem nth_cons_succ (a : Nat) (l : List Nat) (k : Nat) : nth (a :: l) (k + 1) = nth l k := rfl

set_option maxRecDepth 1000000 in
theorem enc_words (up se : Bool) (ap pt ct : Nat) (ds rest : List Nat) :
    wordAt (encB up se ap pt ct ds ++ rest) 0 = firstOf up se ap ∧ wordAt (encB up se ap pt ct ds ++ rest) 1 = pt * 16384 ||| ct ∧ wordAt (encB up se ap pt ct ds ++ rest) 2 = ds.length - 1 := by
  unfold wordAt encB
  refine ⟨?_, ?_, ?_⟩
  · exact hl_join _
  · exact hl_join _
  · exact hl_join _

set_option maxRecDepth 1000000 in
theorem enc_len (up se : Bool) (ap pt ct : Nat) (ds : List Nat) : (encB up se ap pt ct ds).length = 6 + ds.length := by
  simp [encB]; omega

set_option maxRecDepth 1000000 in
theorem enc_data (up se : Bool) (ap pt ct : Nat) (ds rest : List Nat) (h : 0 < ds.length) :
    ((encB up se ap pt ct ds ++ rest).drop 6).take (ds.length - 1 + 1) = ds := by
  rw [show ds.length - 1 + 1 = ds.length by omega]
  simp [encB]

set_option maxRecDepth 1000000 in
theorem enc_all (up se : Bool) (ap pt ct : Nat) (ds : List Nat) (h1 : ap ≤ 2047) (h2 : pt ≤ 3) (h3 : ct ≤ 16383) (h5 : ds.length ≤ 65536) (hd : AllB ds) : AllB (encB up se ap pt ct ds) := by
  have hf := firstOf_lt up se ap h1
  have hs : pt * 16384 ||| ct < 65536 := Nat.or_lt_two_pow (n := 16) (by omega) (by omega)
  unfold encB
  intro x hx
  simp only [List.mem_append, List.mem_cons, List.not_mem_nil, or_false] at hx
  rcases hx with ((h | h) | h) | h
  · rcases h with rfl | rfl <;> omega
  · rcases h with rfl | rfl <;> omega
  · rcases h with rfl | rfl <;> omega
  · exact hd x h

set_option maxRecDepth 1000000 in
theorem second_parts (pt ct : Nat) (h3 : ct ≤ 16383) : (pt * 16384 ||| ct) / 16384 = pt ∧ (pt * 16384 ||| ct) &&& 16383 = ct := by
  have h : pt * 16384 ||| ct = pt * 16384 + ct := or_add pt ct 14 (by omega)
  rw [h]
  refine ⟨by omega, ?_⟩
  rw [show 16383 = 2 ^ 14 - 1 by rfl, Nat.and_two_pow_sub_one_eq_mod]
  omega

set_option maxRecDepth 1000000 in
theorem first_low (up se : Bool) (ap : Nat) (h1 : ap ≤ 2047) : firstOf up se ap &&& 2047 = ap := by
  rw [show 2047 = 2 ^ 11 - 1 by rfl, Nat.and_two_pow_sub_one_eq_mod]
  refine Nat.eq_of_testBit_eq fun i => ?_
  rw [Nat.testBit_mod_two_pow]
  unfold firstOf
  by_cases hi : i < 11
  · have t1 : Nat.testBit 4096 i = false := by rw [show 4096 = 2 ^ 12 by rfl, Nat.testBit_two_pow]; simp; omega
    have t2 : Nat.testBit 2048 i = false := by rw [show 2048 = 2 ^ 11 by rfl, Nat.testBit_two_pow]; simp; omega
    cases up <;> cases se <;> simp [hi, t1, t2]
  · have t : Nat.testBit ap i = false := Nat.testBit_lt_two_pow (Nat.lt_of_lt_of_le (show ap < 2 ^ 11 by omega) (Nat.pow_le_pow_right (by decide) (by omega)))
    simp [hi, t]

set_option maxRecDepth 1000000 in
theorem and_pow (x k : Nat) : x &&& 2 ^ k = (Nat.testBit x k).toNat * 2 ^ k := by
  refine Nat.eq_of_testBit_eq fun i => ?_
  rw [Nat.testBit_and, Nat.testBit_two_pow]
  by_cases e : k = i
  · subst e
    cases h : Nat.testBit x k <;> simp
  · cases h : Nat.testBit x k <;> simp [e]

set_option maxRecDepth 1000000 in
theorem first_bits (up se : Bool) (ap : Nat) (h1 : ap ≤ 2047) : (((firstOf up se ap &&& 4096 : Nat) : Int) != 0) = up ∧ (((firstOf up se ap &&& 2048 : Nat) : Int) != 0) = se := by
  have t1 : Nat.testBit ap 12 = false := Nat.testBit_lt_two_pow (by omega)
  have t2 : Nat.testBit ap 11 = false := Nat.testBit_lt_two_pow (by omega)
  have e1 : firstOf up se ap &&& 4096 = (Nat.testBit (firstOf up se ap) 12).toNat * 2 ^ 12 := and_pow _ 12
  have e2 : firstOf up se ap &&& 2048 = (Nat.testBit (firstOf up se ap) 11).toNat * 2 ^ 11 := and_pow _ 11
  rw [e1, e2]
  unfold firstOf
  have a1 : Nat.testBit 4096 12 = true := by decide
  have a2 : Nat.testBit 4096 11 = false := by decide
  have a3 : Nat.testBit 2048 12 = false := by decide
  have a4 : Nat.testBit 2048 11 = true := by decide
  cases up <;> cases se <;> simp [t1, t2, a1, a2, a3, a4]

set_option maxRecDepth 1000000 in
theorem decode_enc (a : Option Addr) (n c : Nat) (up se : Bool) (ap pt ct : Nat) (ds rest : List Nat) (w : World)
    (hr : Rd w a n c (vb (encB up se ap pt ct ds ++ rest))) (hb : AllB ds) (hrest : AllB rest)
    (h1 : ap ≤ 2047) (h2 : pt ≤ 3) (h3 : ct ≤ 16383) (h4 : 0 < ds.length) (h5 : ds.length ≤ 65536) :
    Calls Try.prog 35 #[.slice a n c] w fun e w' => ∃ ao cc, e = .returned (.tuple #[.agg #[.bool up, .bool se, .int .i64 ap, .int .i64 pt, .int .i64 ct, .slice ao ds.length cc], .int .i64 (6 + ds.length : Nat), .int .i64 0]) ∧
      w'.ownsRow w.heap.size 5 1 (.slice ao ds.length cc) ds.length (vb ds) ∧ Below w.heap.size w w' := by
  obtain ⟨e0, e1, e2⟩ := enc_words up se ap pt ct ds rest
  have hlen : 6 + ds.length + rest.length = n := by have := hr.len; rw [vb_len, List.length_append, enc_len] at this; exact this
  have hall := (enc_all up se ap pt ct ds h1 h2 h3 h5 hb).append hrest
  have hf := firstOf_lt up se ap h1
  refine (decode_ok a n c _ w hr hall (by omega) (by rw [e0]; exact hf) (by rw [e2]; omega)).mono ?_
  rintro e w' ⟨ao, cc, he, ho, hB⟩
  rw [e2, enc_data up se ap pt ct ds rest h4, show ds.length - 1 + 1 = ds.length by omega] at ho
  rw [e0, e1, e2, (first_bits up se ap h1).1, (first_bits up se ap h1).2, first_low up se ap h1, (second_parts pt ct h3).2] at he
  refine ⟨ao, cc, ?_, ho, hB⟩
  rw [he, show ds.length - 1 + 1 = ds.length by omega]
  have q : (((pt * 16384 ||| ct : Nat) : Int) / 16384) = (pt : Int) := by
    have := (second_parts pt ct h3).1
    omega
  have q2 : (((ds.length - 1 : Nat) : Int) + 7) = ((6 + ds.length : Nat) : Int) := by omega
  rw [q, q2]
end Go.Proofs.Ytjiipmalahhcpaa
/- Concat of two rows of bytes. -/
namespace Go.Proofs.Ytjiipmalahhcpaa
set_option linter.unusedVariables false
open Go.RowKit

set_option maxRecDepth 1000000 in
theorem cat_two (aa ba : Option Addr) (an ac bn bc : Nat) (xs ys : List Nat) (G : Nat) (w : World)
    (ha : Rd w aa an ac (vb xs)) (hb : Rd w ba bn bc (vb ys))
    (hG : ∀ j u, [Value.slice aa an ac, .slice ba bn bc][j]? = some u → w.cell? ((⟨G, 0, none⟩ : Addr).add j) = some u)
    (hGl : G < w.heap.size) (hn : an + bn ≤ 140737488355328) :
    Calls Try.prog 16 #[.slice (some ⟨G, 0, none⟩) 2 2] w fun e w' => ∃ ao c, e = .returned (.slice ao (an + bn) c) ∧ w'.ownsRow w.heap.size 5 1 (.slice ao (an + bn) c) (an + bn) (vb (xs ++ ys)) ∧ Below w.heap.size w w' := by
  have g0 : w.cell? ⟨G, 0, none⟩ = some (.slice aa an ac) := by simpa [Addr.add] using hG 0 _ rfl
  have g1 : w.cell? ⟨G, 1, none⟩ = some (.slice ba bn bc) := by simpa [Addr.add] using hG 1 _ rfl
  clear hG
  go_enter Try.func16, Try.ntmps16
  go_wp2_with fail
  refine wp_loop_rounds 3 ?_
  rw [rounds_succ]
  go_wp2_with fail
  rw [rounds_succ]
  go_wp2_with fail
  rw [rounds_succ]
  go_wp2_with fail
  refine (grow_any _ (an + bn) _ (by push_cast; rfl) hn).mono ?_
  rintro e W0 ⟨v, rfl, o0, B0⟩
  obtain ⟨v0a, v0c, rfl, _, _⟩ := own_slice o0
  obtain ⟨i0, hi, hz0, hz1, hz2⟩ := info_parts Try.info5
  have c0 := (B0.cell (p := ⟨G, 0, none⟩) hGl).trans g0
  have c1 := (B0.cell (p := ⟨G, 1, none⟩) hGl).trans g1
  have o0' : W0.ownsRow w.heap.size 5 1 (.slice v0a 0 v0c) 0 (vb []) := o0
  clear o0
  have o0 := o0'
  clear o0'
  go_wp2_with fail
  refine wp_loop_rounds 3 ?_
  rw [rounds_succ]
  go_wp2_with (at_builtin; refine hold ?_)
  unfold Hid
  refine wpList_append_rd rfl _ _ 33 rfl w.heap.size 5 i0 (.int .u8 0) 1 Try.underlying33 hi hz0 hz1 hz2 rfl v0a 0 v0c _ rfl o0 aa an ac _ rfl (ha.below B0) (vb_oneCell _) (by omega) (by unfold maxLen; omega) B0.size ?_
  intro v1a v1c W1 o1 gr B
  rw [← vb_append] at o1
  simp only [Nat.zero_add, List.nil_append] at o1
  have B1 := B0.trans B
  clear gr B o0 c0 c1
  have c0 := (B1.cell (p := ⟨G, 0, none⟩) hGl).trans g0
  have c1 := (B1.cell (p := ⟨G, 1, none⟩) hGl).trans g1
  clear B0
  go_wp2_with fail
  rw [rounds_succ]
  go_wp2_with (at_builtin; refine hold ?_)
  unfold Hid
  refine wpList_append_rd rfl _ _ 33 rfl w.heap.size 5 i0 (.int .u8 0) 1 Try.underlying33 hi hz0 hz1 hz2 rfl v1a an v1c _ rfl o1 ba bn bc _ rfl (hb.below B1) (vb_oneCell _) (by omega) (by unfold maxLen; omega) B1.size ?_
  intro v2a v2c W2 o2 gr B
  rw [← vb_append] at o2
  have B2 := B1.trans B
  clear gr B o1 c0 c1
  have c0 := (B2.cell (p := ⟨G, 0, none⟩) hGl).trans g0
  have c1 := (B2.cell (p := ⟨G, 1, none⟩) hGl).trans g1
  clear B1
  go_wp2_with fail
  rw [rounds_succ]
  go_wp2_with fail
  go_ret
  exact ⟨_, _, rfl, o2, B2⟩
end Go.Proofs.Ytjiipmalahhcpaa
