/- FieldRing: the walk of the law: it answers true. -/
import Derived.Test.YtiejjjbnhkdfeaaWalkA
namespace Go.Proofs.Ytiejjjbnhkdfeaa
set_option linter.unusedVariables false
open Go.RowKit

theorem ring_walk (a b c : Nat) (ha : a < 256) (hb : b < 256) (hc : c < 256) (w : World) :
    Calls Try.prog 3 #[.int .u8 a, .int .u8 b, .int .u8 c] w fun e w' => e = .returned (.bool true) ∧ w = w' := by
  have eb := u8_xor_nat b c hb hc
  have hbc := Gf.xor_lt hb hc
  go_enter Try.func3, Try.ntmps3
  go_wp2_with fail
  refine (mul_any _ _ _ (by omega) (by omega) (by omega) (by omega)).mono ?_
  rintro e w' ⟨r1, rfl, hr1, H1, rfl⟩
  have t1 : ((r1 : Int) != a) = false := by have := H1.out; simp [Gf.mul_one] at this; simp [this]
  go_wp2_with fail
  refine (mul_any _ _ _ (by omega) (by omega) (by omega) (by omega)).mono ?_
  rintro e w' ⟨r2, rfl, hr2, H2, rfl⟩
  have t2 : ((r2 : Int) != 0) = false := by have := H2.out; simp [Gf.mul_zero] at this; simp [this]
  go_wp2_with fail
  refine (mul_any _ _ _ (by omega) (by omega) (by omega) (by omega)).mono ?_
  rintro e w' ⟨r3, rfl, hr3, H3, rfl⟩
  go_wp2_with fail
  refine (mul_any _ _ _ (by omega) (by omega) (by omega) (by omega)).mono ?_
  rintro e w' ⟨r4, rfl, hr4, H4, rfl⟩
  have t3 : ((r3 : Int) != r4) = false := by have h1 := H3.out; have h2 := H4.out; simp at h1 h2; rw [h1, h2, Gf.mul_comm a b ha hb]; simp
  go_wp2_with fail
  refine (mul_any _ _ _ (by omega) (by omega) (by omega) (by omega)).mono ?_
  rintro e w' ⟨r5, rfl, hr5, H5, rfl⟩
  go_wp2_with fail
  refine (mul_any _ _ _ (by omega) (by omega) (by omega) (by omega)).mono ?_
  rintro e w' ⟨r6, rfl, hr6, H6, rfl⟩
  go_wp2_with fail
  refine (mul_any _ _ _ (by omega) (by omega) (by omega) (by omega)).mono ?_
  rintro e w' ⟨r7, rfl, hr7, H7, rfl⟩
  go_wp2_with fail
  refine (mul_any _ _ _ (by omega) (by omega) (by omega) (by omega)).mono ?_
  rintro e w' ⟨r8, rfl, hr8, H8, rfl⟩
  have t4 : ((r6 : Int) != r8) = false := by
    have h5 := H5.out; have h6 := H6.out; have h7 := H7.out; have h8 := H8.out; simp at h5 h6 h7 h8
    rw [h6, h8, h5, h7, Gf.mul_assoc a b c ha hb hc]; simp
  go_wp2_with fail
  refine (mul_any _ _ _ (by omega) (by omega) (by omega) (by omega)).mono ?_
  rintro e w' ⟨r9, rfl, hr9, H9, rfl⟩
  go_wp2_with fail
  refine (mul_any _ _ _ (by omega) (by omega) (by omega) (by omega)).mono ?_
  rintro e w' ⟨r10, rfl, hr10, H10, rfl⟩
  go_wp2_with fail
  refine (mul_any _ _ _ (by omega) (by omega) (by omega) (by omega)).mono ?_
  rintro e w' ⟨r11, rfl, hr11, H11, rfl⟩
  have ex := u8_xor_nat r10 r11 hr10 hr11
  have t5 : ((r9 : Int) != ((r10 ^^^ r11 : Nat) : Int)) = false := by
    have h5 := H9.out; have h6 := H10.out; have h7 := H11.out; simp at h5 h6 h7
    rw [h5, h6, h7, Gf.mul_xor]; simp
  clear H1 H2 H3 H4 H5 H6 H7 H8 H9 H10 H11
  by_cases h0 : b = 0
  · subst h0
    go_wp2_with fail
    refine (div_zero _ _ _ (by omega) (by omega) (by omega)).mono ?_
    rintro e w' ⟨rfl, rfl⟩
    go_wp2
    go_ret
    exact ⟨rfl, rfl⟩
  · have t6 : ((b : Int) == 0) = false := by simp; omega
    go_wp2_with fail
    refine (div_any _ _ _ (by omega) (by omega) (by omega) (by omega)).mono ?_
    rintro e w' ⟨q, rfl, hq, H1, rfl⟩
    go_wp2_with fail
    refine (div_any _ _ _ (by omega) (by omega) (by omega) (by omega)).mono ?_
    rintro e w' ⟨i, rfl, hi, H2, rfl⟩
    go_wp2_with fail
    refine (mul_any _ _ _ (by omega) (by omega) (by omega) (by omega)).mono ?_
    rintro e w' ⟨s1, rfl, hs1, H3, rfl⟩
    have t7 : ((s1 : Int) == a) = true := by
      have h1 := H1.out; have h3 := H3.out; simp at h1 h3
      rw [h3, h1, Gf.div_mul a b ha hb h0]; simp
    go_wp2_with fail
    refine (mul_any _ _ _ (by omega) (by omega) (by omega) (by omega)).mono ?_
    rintro e w' ⟨s2, rfl, hs2, H4, rfl⟩
    have t8 : ((s2 : Int) == 1) = true := by
      have h1 := H2.out; have h3 := H4.out; simp at h1 h3
      rw [h3, h1, Gf.div_mul 1 b (by omega) hb h0]; simp
    go_wp2
    go_ret
    exact ⟨rfl, rfl⟩
end Go.Proofs.Ytiejjjbnhkdfeaa
