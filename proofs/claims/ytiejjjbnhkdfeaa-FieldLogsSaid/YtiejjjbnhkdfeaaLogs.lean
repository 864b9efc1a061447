/- FieldLogs: the walks of Power and Log, and of the law: it answers true. -/
import Derived.Test.YtiejjjbnhkdfeaaWalkA
import Derived.Test.YtiejjjbnhkdfeaaArith
namespace Go.Proofs.Ytiejjjbnhkdfeaa
set_option linter.unusedVariables false
open Go.RowKit

theorem ret2_i64_bool {a b : Int} {x y : Bool} (h : a = b) (h' : x = y) : Ending.returned (.tuple #[.int .i64 a, .bool x]) = .returned (.tuple #[.int .i64 b, .bool y]) := by rw [h, h']

theorem power_any (x : Int) (w : World) (h0 : -1000000 ≤ x) (h1 : x ≤ 1000000) :
    Calls Try.prog 9 #[.int .i64 x] w fun e w' => ∃ r : Nat, e = .returned (.int .u8 r) ∧ r < 256 ∧ Hid (r = Gf.gp (x % 255).toNat) ∧ w = w' := by
  obtain ⟨hb1, hb2, hb3, _, _⟩ := tmod_facts x 255 (by omega)
  have He : Hid (x.tmod 255 % 255 = x % 255) := hb3
  clear hb3
  go_enter Try.func9, Try.ntmps9
  go_wp2_with fail
  refine (raised_any _ _ _ (by omega) (by omega) (by omega) (by omega)).mono ?_
  rintro e w' ⟨r1, rfl, hr1, H1, rfl⟩
  go_wp2
  go_ret
  refine ⟨r1, rfl, hr1, ?_, rfl⟩
  have h := H1.out
  simp at h
  show r1 = _
  have h3 := He.out
  have h4 : 0 ≤ x % 255 := by omega
  have h5 : x % 255 < 255 := by omega
  rw [h, h3]
  exact Gf.raised_gp _ (by omega)

def left255 (i : Value) : Nat := 255 - (intOf i).toNat
set_option maxRecDepth 100000 in
theorem log_walk (a : Nat) (w : World) (ha : a < 256) :
    Calls Try.prog 10 #[.int .u8 a] w fun e w' => e = .returned (.tuple #[.int .i64 ((Gf.log a).1 : Nat), .bool (Gf.log a).2]) ∧ w = w' := by
  go_enter Try.func10, Try.ntmps10
  go_wp2
  go_loop [4, 6] (fun p i => ∃ f k pk : Nat, k ≤ 255 ∧ pk < 256 ∧ p = .int .u8 pk ∧ i = .int .i64 k ∧ Hid (f + k = 255 ∧ pk = Gf.gp k ∧ Gf.log a = Gf.logF f a k pk)) (fun _ i => left255 i)
  case atStart => exact ⟨255, 0, 1, by omega, by omega, rfl, rfl, rfl, rfl, rfl⟩
  case round =>
    obtain ⟨f, k, pk, hk, hpk, rfl, rfl, H⟩ := hrel
    cases f with
    | succ f =>
      have H2 : Hid (f + 1 + k = 255 ∧ pk = Gf.gp k ∧ Gf.log a = if pk = a then (k, true) else Gf.logF f a (k + 1) (Gf.mul pk 2)) := H
      have hlt : k < 255 := by have := H.out.1; omega
      clear H
      by_cases hp : pk = a
      · have t : ((pk : Int) == a) = true := by simp; omega
        go_wp2
        go_ret2
        have h := H2.out.2.2
        rw [if_pos hp] at h
        rw [h]
        exact ⟨rfl, rfl⟩
      · have t : ((pk : Int) == a) = false := by simp; omega
        go_wp2_with fail
        refine (mul_any _ _ _ (by omega) (by omega) (by omega) (by omega)).mono ?_
        rintro e w' ⟨r1, rfl, hr1, H1, rfl⟩
        go_wp2
        go_round
        case rel =>
          refine ⟨f, k + 1, r1, by omega, hr1, rfl, by go_num, ?_⟩
          have h := H2.out
          have h1 := H1.out
          simp at h1
          rw [if_neg hp, ← h1] at h
          exact ⟨by omega, by rw [h1, h.2.1]; rfl, h.2.2⟩
        case measure => simp [left255, intOf]; omega
    | zero =>
      obtain rfl : k = 255 := by have := H.out.1; omega
      go_wp2
      go_ret2
      have h := H.out.2.2
      simp [Gf.logF] at h
      rw [h]
      exact ⟨rfl, rfl⟩

theorem log_any (x : Int) (w : World) (h0 : 0 ≤ x) (h1 : x < 256) :
    Calls Try.prog 10 #[.int .u8 x] w fun e w' => ∃ (l : Nat) (o : Bool), e = .returned (.tuple #[.int .i64 l, .bool o]) ∧ Hid ((l, o) = Gf.log x.toNat) ∧ w = w' := by
  obtain ⟨a, rfl⟩ := Int.eq_ofNat_of_zero_le h0
  exact (log_walk a w (by omega)).mono fun e w' ⟨he, hw⟩ => ⟨_, _, he, rfl, hw⟩

theorem logs_walk (n m : Int) (w : World) :
    Calls Try.prog 4 #[.int .i64 n, .int .i64 m] w fun e w' => e = .returned (.bool true) ∧ w = w' := by
  obtain ⟨hn1, hn2, _, _, _⟩ := tmod_facts n 100000 (by omega)
  obtain ⟨hm1, hm2, _, _, _⟩ := tmod_facts m 100000 (by omega)
  go_enter Try.func4, Try.ntmps4
  go_wp2_with fail
  generalize n.tmod 100000 = x at *
  generalize m.tmod 100000 = y at *
  refine (power_any _ _ (by omega) (by omega)).mono ?_
  rintro e w' ⟨r1, rfl, hr1, H1, rfl⟩
  go_wp2_with fail
  refine (power_any _ _ (by omega) (by omega)).mono ?_
  rintro e w' ⟨r2, rfl, hr2, H2, rfl⟩
  go_wp2_with fail
  refine (log_any _ _ (by omega) (by omega)).mono ?_
  rintro e w' ⟨l, o, rfl, H3, rfl⟩
  have hx : (x % 255).toNat < 255 := by omega
  have hl : (l, o) = ((x % 255).toNat, true) := by
    have h1 := H1.out
    have h3 := H3.out
    simp at h3
    rw [h3, h1, Gf.log_gp _ hx]
  obtain ⟨e1, rfl⟩ := Prod.mk.inj hl
  obtain ⟨hb1, hb2, hb3, hb4, hb5⟩ := tmod_facts x 255 (by omega)
  have hk : (if x.tmod 255 < 0 then x.tmod 255 + 255 else x.tmod 255) = (l : Int) := by
    split <;> omega
  have Hk := hid hk
  clear hk hb3 hb4 hb5 H3 hl e1
  have hr : r1 ≠ 0 := by rw [H1.out]; exact Gf.gp_ne _
  have t0 : ((r1 : Int) != 0) = true := by simp; omega
  by_cases hneg : x.tmod 255 < 0
  all_goals
    go_wp2_with fail
    refine (log_any _ _ (by omega) (by omega)).mono ?_
    rintro e w' ⟨l2, o2, rfl, H4, rfl⟩
    obtain rfl : o2 = false := by
      have h := congrArg Prod.snd H4.out
      rw [show (0 : Int).toNat = 0 from rfl, Gf.log_zero] at h
      exact h
    go_wp2_with fail
    refine (power_any _ _ (by omega) (by omega)).mono ?_
    rintro e w' ⟨r3, rfl, hr3, H5, rfl⟩
    have t1 : ((r3 : Int) == 1) = true := by
      have h := H5.out
      simp at h
      rw [h]; rfl
    go_wp2_with fail
    refine (mul_any _ _ _ (by omega) (by omega) (by omega) (by omega)).mono ?_
    rintro e w' ⟨r4, rfl, hr4, H6, rfl⟩
    go_wp2_with fail
    refine (power_any _ _ (by omega) (by omega)).mono ?_
    rintro e w' ⟨r5, rfl, hr5, H7, rfl⟩
    have t2 : ((r4 : Int) == r5) = true := by
      have h1 := H1.out
      have h2 := H2.out
      have h6 := H6.out
      have h7 := H7.out
      simp at h6
      rw [h6, h7, h1, h2, ← Gf.gp_add, ← Gf.gp_per, ← Gf.gp_per (((x + y) % 255).toNat)]
      have e : ((x % 255).toNat + (y % 255).toNat) % 255 = ((x + y) % 255).toNat % 255 := by omega
      rw [e]; simp
  · have t3 : ((l : Int) == x.tmod 255 + 255) = true := by have := Hk.out; rw [if_pos (by omega)] at this; simp; omega
    go_wp2
    go_ret
    exact ⟨rfl, rfl⟩
  · have t3 : ((l : Int) == x.tmod 255) = true := by have := Hk.out; rw [if_neg (by omega)] at this; simp; omega
    go_wp2
    go_ret
    exact ⟨rfl, rfl⟩
end Go.Proofs.Ytiejjjbnhkdfeaa
