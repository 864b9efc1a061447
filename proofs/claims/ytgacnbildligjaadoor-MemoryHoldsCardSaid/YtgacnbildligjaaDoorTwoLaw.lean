/- MemoryTwo: the walk of the law. -/
import Derived.Test.YtgacnbildligjaaDoorMend
import Derived.Test.YtgacnbildligjaaDoorPickd
import Derived.StillTailTactics
namespace Go.Proofs.YtgacnbildligjaaDoor
set_option linter.unusedVariables false
open Go.RowKit

theorem mend_good (c : Nat) (hc : c < 2 ^ 39) (w : World) (hT : TabAt w) (h : lostB c = false) :
    Calls Tryd.prog 7 #[.int .i64 c] w fun e w' => e = .returned (.tuple #[.int .i64 (mendN c : Nat), .bool (od c 39), .int .i64 0]) ∧ w' = w := by
  refine (mend_ok c hc w hT).mono ?_
  rintro e w' ⟨⟨h1, _⟩ | ⟨_, m, he, hm⟩, hw⟩
  · rw [h] at h1; cases h1
  · rw [he, hm.out]; exact ⟨rfl, hw.symm⟩
theorem mend_lost (c : Nat) (hc : c < 2 ^ 39) (w : World) (hT : TabAt w) (h : lostB c = true) :
    Calls Tryd.prog 7 #[.int .i64 c] w fun e w' => e = .returned (.tuple #[.int .i64 0, .bool false, .int .i64 18]) ∧ w' = w := by
  refine (mend_ok c hc w hT).mono ?_
  rintro e w' ⟨⟨_, he⟩ | ⟨h1, _⟩, hw⟩
  · exact ⟨he, hw.symm⟩
  · rw [h] at h1; cases h1
theorem mend_at (c n : Nat) (o : Bool) (hc : c < 2 ^ 39) (w : World) (hT : TabAt w) (h : lostB c = false) (h1 : od c 39 = o) (h2 : mendN c = n) :
    Calls Tryd.prog 7 #[.int .i64 c] w fun e w' => e = .returned (.tuple #[.int .i64 n, .bool o, .int .i64 0]) ∧ w' = w := by
  subst h1 h2; exact mend_good c hc w hT h

theorem mend_it (c n : Nat) (o : Bool) (hc : c < 2 ^ 39) (w : World) (hT : TabAt w) (h : lostB c = false) (h1 : od c 39 = o) (h2 : mendN c = n) :
    Calls Tryd.prog 7 #[.int .i64 c] w fun e w' => e = .returned (.tuple #[.int .i64 n, .bool o, .int .i64 0]) ∧ w = w' :=
  (mend_at c n o hc w hT h h1 h2).mono fun e w' ⟨h1, h2⟩ => ⟨h1, h2.symm⟩

theorem wrap_is (z : Int) : IntKind.i64.wrap z = wrap64 z := by simp [IntKind.wrap, wrap64, IntKind.signed, IntKind.bits]; split <;> omega
theorem pow_shl (p : Nat) (h : p < 39) : wrap64 ((2 : Int) ^ p) = ((2 ^ p : Nat) : Int) ∧ 2 ^ p < 2 ^ 39 := by
  have b2 : (2 : Nat) ^ p < 2 ^ 39 := Nat.pow_lt_pow_right (by decide) h
  have b4 : wrap64 (((1 : Nat) : Int) * 2 ^ p) = ((1 <<< p : Nat) : Int) := shl_small 1 p (by rw [Nat.shiftLeft_eq, Nat.one_mul]; exact b2)
  rw [Nat.shiftLeft_eq, Nat.one_mul, Int.natCast_one, Int.one_mul] at b4
  exact ⟨b4, b2⟩

set_option maxHeartbeats 4000000 in
set_option maxRecDepth 100000 in
theorem law_walk (n a b : Int) (w : World) (hT : TabAt w) (hn0 : -9223372036854775808 ≤ n) (hn1 : n ≤ 9223372036854775807) (ha0 : -9223372036854775808 ≤ a) (ha1 : a ≤ 9223372036854775807) (hb0 : -9223372036854775808 ≤ b) (hb1 : b ≤ 9223372036854775807) :
    Calls Tryd.prog 3 #[.int .i64 n, .int .i64 a, .int .i64 b] w fun e w' => e = .returned (.bool true) ∧ Below w.heap.size w w' := by
  go_enter Tryd.func3, Tryd.ntmps3
  go_wp2_with fail
  refine (pick_any n 4294967296 w hn0 hn1 (by decide) (by decide)).mono ?_
  rintro e w' ⟨x, rfl, hx, _, rfl⟩
  have hx : x < 2 ^ 32 := hx
  go_wp2_with fail
  refine (code_ok x hx w hT).mono ?_
  rintro e w' ⟨c, rfl, hI, rfl⟩
  have hc := hI.lt
  have hI := hid hI
  go_wp2_with fail
  refine (pick_any a 39 w ha0 ha1 (by decide) (by decide)).mono ?_
  rintro e w' ⟨p, rfl, hp, _, rfl⟩
  have hp : p < 39 := hp
  go_wp2_with fail
  refine (pick_any b 39 w hb0 hb1 (by decide) (by decide)).mono ?_
  rintro e w' ⟨q, rfl, hq, _, rfl⟩
  have hq : q < 39 := hq
  clear hn0 hn1 ha0 ha1 hb0 hb1
  obtain ⟨x1, x2, x3⟩ := mend_clean hI.out hx
  go_wp2_with fail
  refine (mend_it c x false hc w hT x1 x2 x3).mono ?_
  rintro e w' ⟨rfl, rfl⟩
  clear x1 x2 x3
  obtain ⟨x1, x2, x3⟩ := mend_one hI.out hx hp
  obtain ⟨y1, y2⟩ := pow_shl p hp
  obtain ⟨z1, z2⟩ := pow_shl q hq
  have e1 : bits .xor .i64 (c : Int) ((2 ^ p : Nat) : Int) = ((c ^^^ 2 ^ p : Nat) : Int) := i64_xor_nat c _ (by omega) (by omega)
  have hc1 : c ^^^ 2 ^ p < 2 ^ 39 := Nat.xor_lt_two_pow hc y2
  have e2 : bits .xor .i64 ((c ^^^ 2 ^ p : Nat) : Int) ((2 ^ q : Nat) : Int) = ((c ^^^ 2 ^ p ^^^ 2 ^ q : Nat) : Int) := i64_xor_nat _ _ (by omega) (by omega)
  have hc2 : c ^^^ 2 ^ p ^^^ 2 ^ q < 2 ^ 39 := Nat.xor_lt_two_pow hc1 z2
  have M : Hid (lostB (c ^^^ 2 ^ p ^^^ 2 ^ q) = true ∧ p ≠ q ∨ (lostB (c ^^^ 2 ^ p ^^^ 2 ^ q) = false ∧ od (c ^^^ 2 ^ p ^^^ 2 ^ q) 39 = false ∧ mendN (c ^^^ 2 ^ p ^^^ 2 ^ q) = x) ∧ p = q) := by
    by_cases h : p = q
    · subst h
      rw [Nat.xor_assoc, Nat.xor_self, Nat.xor_zero]
      exact .inr ⟨mend_clean hI.out hx, rfl⟩
    · exact .inl ⟨mend_two hI.out hp hq h, h⟩
  generalize c ^^^ 2 ^ p ^^^ 2 ^ q = c2 at *
  generalize c ^^^ 2 ^ p = c1 at *
  generalize 2 ^ p = pp at *
  generalize 2 ^ q = qq at *
  go_wp2_with fail
  refine (mend_it c1 x true hc1 w hT x1 x2 x3).mono ?_
  rintro e w' ⟨rfl, rfl⟩
  clear x1 x2 x3
  have eW : TabAt w.drew := hT
  have y3 : IntKind.i64.wrap ((2 : Int) ^ p) = (pp : Int) := (wrap_is _).trans y1
  have z3 : IntKind.i64.wrap ((2 : Int) ^ q) = (qq : Int) := (wrap_is _).trans z1
  go_wp2_with fail
  refine wp_region_still_lit (by kernel_rfl) (by kernel_rfl) ?_
  repeat still_step
  rcases M.out with ⟨m1, m2⟩ | ⟨⟨m1, m2, m3⟩, m4⟩
  · still_call (mend_lost c2 hc2 _ eW m1)
    repeat still_step
    refine wpStill_nil ?_
    change Exit.then _ _ Exit.normal _ w.drew
    have t1 : ((p : Int) == (q : Int)) = false := by simp; omega
    have t2 : ((p : Int) != (q : Int)) = true := by simp; omega
    go_wp2_with fail
    go_ret
    exact ⟨rfl, (Below.refl _ w).drew⟩
  · still_call (mend_at c2 x false hc2 _ eW m1 m2 m3)
    repeat still_step
    refine wpStill_nil ?_
    change Exit.then _ _ Exit.normal _ w.drew
    have t1 : ((p : Int) == (q : Int)) = true := by simp; omega
    have t2 : ((p : Int) != (q : Int)) = false := by simp; omega
    go_wp2_with fail
    go_ret
    exact ⟨rfl, (Below.refl _ w).drew⟩
end Go.Proofs.YtgacnbildligjaaDoor
