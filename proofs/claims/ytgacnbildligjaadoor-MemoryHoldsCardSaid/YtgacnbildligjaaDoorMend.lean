/- Mend: the walk. -/
import Derived.Test.YtgacnbildligjaaDoorCode
namespace Go.Proofs.YtgacnbildligjaaDoor
set_option linter.unusedVariables false
open Go.RowKit

theorem rank_lt32 (p : Nat) (h : p < 39) (hf : isFree p = true) : rank p < 32 := rank_lt p h hf

set_option maxRecDepth 100000 in
theorem mend_ok (c : Nat) (hc : c < 2 ^ 39) (w : World) (hT : TabAt w) :
    Calls Tryd.prog 7 #[.int .i64 c] w fun e w' => (lostB c = true ∧ e = .returned (.tuple #[.int .i64 0, .bool false, .int .i64 18]) ∨ lostB c = false ∧ ∃ m : Nat, e = .returned (.tuple #[.int .i64 m, .bool (od c 39), .int .i64 0]) ∧ Hid (m = mendN c)) ∧ w = w' := by
  have HL : Hid (lostB c = (((!(od c 39)) && xs c 39 != 0) || decide (39 ≤ xs c 39))) := rfl
  have HM : Hid (mendN c = dw (if od c 39 then c ^^^ 2 ^ xs c 39 else c) 39) := rfl
  go_enter Tryd.func7, Tryd.ntmps7
  go_wp2_with fail
  refine (len_ok c w (by omega) (by omega)).mono ?_
  rintro e w' ⟨r, rfl, hr0, hr1, rfl⟩
  go_wp2_with fail
  refine (places_ok c hc w hT).mono ?_
  rintro e w' ⟨s, rfl, hs, Hs, rfl⟩
  rw [← Hs.out] at HL HM
  clear Hs
  clear hr0 hr1
  cases ho : od c 39 with
  | false =>
    by_cases h0 : s = 0
    · subst h0
      have hl' : Hid (lostB c = false) := by rw [ho] at HL; exact HL
      have hm' : Hid (mendN c = dw c 39) := by rw [ho] at HM; exact HM
      clear HL HM
      go_wp2_with fail
      go_loop [7, 8, 40] (fun n' a' p' => ∃ (p m r : Nat), p' = .int .i64 p ∧ n' = .int .i64 m ∧ a' = .int .i64 r ∧ p ≤ 39 ∧ m < 2 ^ 39 ∧ r ≤ 32 ∧ Hid (m = dw c p) ∧ Hid (r = rank p)) (fun _ _ p' => 39 - (intOf p').toNat)
      case atStart => exact ⟨0, 0, 0, rfl, rfl, rfl, by decide, by decide, by decide, rfl, rfl⟩
      case round =>
        obtain ⟨p, m, r, rfl, rfl, rfl, hp, hm, hr, H1, H2⟩ := hrel
        by_cases h39 : p < 39
        · have t1 : ((p : Int) < 39) := by omega
          go_wp2_with fail
          refine (free_ok p w h39).mono ?_
          rintro e w' ⟨rfl, rfl⟩
          cases hf : isFree p with
          | false =>
            go_wp2_with fail
            go_round
            case rel =>
              refine ⟨p + 1, m, r, by simp, rfl, rfl, by omega, hm, hr, ?_, ?_⟩
              · have := H1.out; simp only [Hid, dw, hf]; exact this
              · have := H2.out; simp only [Hid, rank_succ, hf]; exact this
            case measure => simp [intOf]; omega
          | true =>
            have hr2 : r < 32 := by rw [H2.out]; exact rank_lt p h39 hf
            have e0 : ((c : Int) / 2 ^ p) = ((c >>> p : Nat) : Int) := by rw [Nat.shiftRight_eq_div_pow]; simp
            have e1 : bits .and .i64 ((c >>> p : Nat) : Int) 1 = (((c >>> p) &&& 1 : Nat) : Int) := and_i64_1 _ (by
              have : c >>> p ≤ c := by rw [Nat.shiftRight_eq_div_pow]; exact Nat.div_le_self _ _
              omega)
            have b1 : (c >>> p) &&& 1 ≤ 1 := Nat.and_le_right
            have G1 : Hid (m ||| (((c >>> p) &&& 1) <<< r) = dw c (p + 1)) := by
              have h1 := H1.out
              have h2 := H2.out
              simp only [Hid, dw, hf, if_true]
              rw [← h1, ← h2]
            generalize c >>> p = cp at *
            generalize hb : cp &&& 1 = bt at *
            have b2 : bt <<< r < 2 ^ 39 := by
              rw [Nat.shiftLeft_eq]
              have : 2 ^ r ≤ 2 ^ 38 := Nat.pow_le_pow_right (by decide) (by omega)
              have : bt * 2 ^ r ≤ 1 * 2 ^ r := Nat.mul_le_mul_right _ b1
              omega
            have e2 : bits .or .i64 (m : Int) ((bt <<< r : Nat) : Int) = ((m ||| bt <<< r : Nat) : Int) := i64_or_nat m _ (by omega) (by omega)
            have b3 : m ||| bt <<< r < 2 ^ 39 := Nat.or_lt_two_pow hm b2
            have b4 : wrap64 ((bt : Int) * 2 ^ r) = ((bt <<< r : Nat) : Int) := shl_small bt r b2
            generalize bt <<< r = y at *
            generalize m ||| y = m2 at *
            go_wp2_with fail
            go_round
            case rel =>
              refine ⟨p + 1, m2, r + 1, by simp, rfl, by simp, by omega, b3, by omega, G1, ?_⟩
              have h2 := H2.out
              simp only [Hid, rank_succ, hf, if_true]
              rw [h2]
            case measure => simp [intOf]; omega
        · have hpe : p = 39 := by omega
          subst hpe
          go_wp2_with fail
          go_ret3
          exact ⟨.inr ⟨hl', m, rfl, H1.out.trans hm'.out.symm⟩, rfl⟩
    · have hl' : Hid (lostB c = true) := by rw [ho] at HL; exact HL.out.trans (by simp; omega)
      clear HL HM
      have t1 : ((s : Int) != 0) = true := by simp; omega
      go_wp2_with fail
      go_ret3
      exact ⟨.inl ⟨hl', rfl⟩, rfl⟩
  | true =>
    by_cases h0 : 39 ≤ s
    · have hl' : Hid (lostB c = true) := by rw [ho] at HL; exact HL.out.trans (by simp; omega)
      clear HL HM
      have t1 : (39 : Int) ≤ s := by omega
      go_wp2_with fail
      go_ret3
      exact ⟨.inl ⟨hl', rfl⟩, rfl⟩
    · have hl' : Hid (lostB c = false) := by rw [ho] at HL; exact HL.out.trans (by simp; omega)
      have hm' : Hid (mendN c = dw (c ^^^ 2 ^ s) 39) := by rw [ho] at HM; exact HM
      clear HL HM
      have b2 : (1 : Nat) <<< s < 2 ^ 39 := by
        rw [Nat.shiftLeft_eq, Nat.one_mul]
        exact Nat.pow_lt_pow_right (by decide) (by omega)
      have b4 : wrap64 (((1 : Nat) : Int) * 2 ^ s) = ((1 <<< s : Nat) : Int) := shl_small 1 s b2
      rw [Nat.shiftLeft_eq, Nat.one_mul] at b2
      rw [Nat.shiftLeft_eq, Nat.one_mul, Int.natCast_one, Int.one_mul] at b4
      have e2 : bits .xor .i64 (c : Int) ((2 ^ s : Nat) : Int) = ((c ^^^ 2 ^ s : Nat) : Int) := i64_xor_nat c _ (by omega) (by omega)
      have hc' : c ^^^ 2 ^ s < 2 ^ 39 := Nat.xor_lt_two_pow hc b2
      have t1 : ¬ ((39 : Int) ≤ s) := by omega
      generalize 2 ^ s = pp at *
      generalize c ^^^ pp = c' at *
      go_wp2_with fail
      clear b4 e2 t1
      go_loop [7, 8, 40] (fun n' a' p' => ∃ (p m r : Nat), p' = .int .i64 p ∧ n' = .int .i64 m ∧ a' = .int .i64 r ∧ p ≤ 39 ∧ m < 2 ^ 39 ∧ r ≤ 32 ∧ Hid (m = dw c' p) ∧ Hid (r = rank p)) (fun _ _ p' => 39 - (intOf p').toNat)
      case atStart => exact ⟨0, 0, 0, rfl, rfl, rfl, by decide, by decide, by decide, rfl, rfl⟩
      case round =>
        obtain ⟨p, m, r, rfl, rfl, rfl, hp, hm, hr, H1, H2⟩ := hrel
        by_cases h39 : p < 39
        · have t1 : ((p : Int) < 39) := by omega
          go_wp2_with fail
          refine (free_ok p w h39).mono ?_
          rintro e w' ⟨rfl, rfl⟩
          cases hf : isFree p with
          | false =>
            go_wp2_with fail
            go_round
            case rel =>
              refine ⟨p + 1, m, r, by simp, rfl, rfl, by omega, hm, hr, ?_, ?_⟩
              · have := H1.out; simp only [Hid, dw, hf]; exact this
              · have := H2.out; simp only [Hid, rank_succ, hf]; exact this
            case measure => simp [intOf]; omega
          | true =>
            have hr2 : r < 32 := by rw [H2.out]; exact rank_lt p h39 hf
            have e0 : ((c' : Int) / 2 ^ p) = ((c' >>> p : Nat) : Int) := by rw [Nat.shiftRight_eq_div_pow]; simp
            have e1 : bits .and .i64 ((c' >>> p : Nat) : Int) 1 = (((c' >>> p) &&& 1 : Nat) : Int) := and_i64_1 _ (by
              have : c' >>> p ≤ c' := by rw [Nat.shiftRight_eq_div_pow]; exact Nat.div_le_self _ _
              omega)
            have b1 : (c' >>> p) &&& 1 ≤ 1 := Nat.and_le_right
            have G1 : Hid (m ||| (((c' >>> p) &&& 1) <<< r) = dw c' (p + 1)) := by
              have h1 := H1.out
              have h2 := H2.out
              simp only [Hid, dw, hf, if_true]
              rw [← h1, ← h2]
            generalize c' >>> p = cp at *
            generalize hb : cp &&& 1 = bt at *
            have b2 : bt <<< r < 2 ^ 39 := by
              rw [Nat.shiftLeft_eq]
              have : 2 ^ r ≤ 2 ^ 38 := Nat.pow_le_pow_right (by decide) (by omega)
              have : bt * 2 ^ r ≤ 1 * 2 ^ r := Nat.mul_le_mul_right _ b1
              omega
            have e2 : bits .or .i64 (m : Int) ((bt <<< r : Nat) : Int) = ((m ||| bt <<< r : Nat) : Int) := i64_or_nat m _ (by omega) (by omega)
            have b3 : m ||| bt <<< r < 2 ^ 39 := Nat.or_lt_two_pow hm b2
            have b4 : wrap64 ((bt : Int) * 2 ^ r) = ((bt <<< r : Nat) : Int) := shl_small bt r b2
            generalize bt <<< r = y at *
            generalize m ||| y = m2 at *
            go_wp2_with fail
            go_round
            case rel =>
              refine ⟨p + 1, m2, r + 1, by simp, rfl, by simp, by omega, b3, by omega, G1, ?_⟩
              have h2 := H2.out
              simp only [Hid, rank_succ, hf, if_true]
              rw [h2]
            case measure => simp [intOf]; omega
        · have hpe : p = 39 := by omega
          subst hpe
          go_wp2_with fail
          go_ret3
          exact ⟨.inr ⟨hl', m, rfl, H1.out.trans hm'.out.symm⟩, rfl⟩
end Go.Proofs.YtgacnbildligjaaDoor
