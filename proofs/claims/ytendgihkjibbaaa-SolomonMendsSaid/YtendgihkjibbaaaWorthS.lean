/- raised, worth: what is to be added at a place. -/
import Derived.Test.YtendgihkjibbaaaSynS
namespace Go.Proofs.Ytendgihkjibbaaa
set_option linter.unusedVariables false
open Go.RowKit

def rz (x : Nat) : Nat → Nat
  | 0 => 1
  | n + 1 => Gf.mul (rz x n) x
theorem rz_lt (x n : Nat) : rz x n < 256 := by
  induction n with
  | zero => exact (by decide : (1 : Nat) < 256)
  | succ n ih => exact Gf.mul_lt _ _ ih

theorem raised_ok (x n : Nat) (w : World) (hx : x < 256) (hn : n ≤ 1000) :
    Calls Try.prog 27 #[.int .u8 (x : Int), .int .i64 (n : Int)] w fun e w' => e = .returned (.int .u8 (rz x n : Nat)) ∧ w' = w := by
  go_enter Try.func27, Try.ntmps27
  go_wp2
  go_loopw [5, 7] (fun p i wr => ∃ k : Nat, k ≤ n ∧ i = .int .i64 k ∧ p = .int .u8 (rz x k : Nat) ∧ wr = w) (fun _ i _ => n - (intOf i).toNat)
  case atStart => exact ⟨0, by omega, rfl, rfl, rfl⟩
  case round =>
    obtain ⟨k, hk, rfl, rfl, rfl⟩ := hrel
    by_cases hlt : k < n
    · have hp := rz_lt x k
      have hm := mul_st (rz x k) x wr hp hx
      have Hs : Hid (rz x (k + 1) = Gf.mul (rz x k) x) := rfl
      generalize rz x k = p at *
      generalize hp' : rz x (k + 1) = p' at *
      have Hp' := hid hp'
      clear hp'
      generalize Gf.mul p x = q at *
      go_wp2_with fail
      refine hm.mono ?_
      rintro e w' ⟨rfl, rfl⟩
      go_wp2
      go_roundw
      case rel => exact ⟨k + 1, by omega, by go_num, by rw [Hp'.out, Hs.out], trivial⟩
      case measure => simp [intOf]; omega
    · obtain rfl : k = n := by omega
      go_wp2
      go_ret
      exact ⟨rfl, rfl⟩

def cin (s l : List Nat) (i n : Nat) : Nat := xsum (fun k => Gf.mul (nth l k) (nth s (i - k))) n
def upw (s l : List Nat) (x n : Nat) : Nat := xsum (fun i => Gf.mul (cin s l i (min l.length (i + 1))) (rz x i)) n
def dnw (l : List Nat) (x n : Nat) : Nat := xsum (fun j => Gf.mul (nth l (2 * j + 1)) (rz x (2 * j))) n
def wth (s l : List Nat) (x : Nat) : Nat := if dnw l x (l.length / 2) = 0 then 0 else Gf.mul (upw s l x s.length) (Gf.inv (dnw l x (l.length / 2)))
theorem xsum_lt {f : Nat → Nat} (h : ∀ i, f i < 256) (n : Nat) : xsum f n < 256 := by
  induction n with
  | zero => exact (by decide : (0 : Nat) < 256)
  | succ n ih => exact Gf.xor_lt ih (h n)
theorem cin_lt {s l : List Nat} (hl : AllB l) (i n : Nat) : cin s l i n < 256 := xsum_lt (fun k => Gf.mul_lt _ _ (nth_lt hl k)) n
theorem upw_lt {s l : List Nat} (hl : AllB l) (x n : Nat) : upw s l x n < 256 := xsum_lt (fun i => Gf.mul_lt _ _ (cin_lt hl _ _)) n
theorem dnw_lt {l : List Nat} (hl : AllB l) (x n : Nat) : dnw l x n < 256 := xsum_lt (fun i => Gf.mul_lt _ _ (nth_lt hl _)) n
theorem wth_lt {s l : List Nat} (hl : AllB l) (x : Nat) : wth s l x < 256 := by
  unfold wth; split
  · decide
  · exact Gf.mul_lt _ _ (upw_lt hl _ _)

set_option maxRecDepth 100000 in
theorem worth_ok (sa la : Option Addr) (sn sc ln lc x : Nat) (ss ls : List Nat) (w : World) (hs : Rd w sa sn sc (vb ss)) (hsb : AllB ss) (hl : Rd w la ln lc (vb ls)) (hlb : AllB ls) (hx : x < 256) (hsn : sn ≤ 64) (hln : ln ≤ 1000) :
    Calls Try.prog 17 #[.slice sa sn sc, .slice la ln lc, .int .u8 (x : Int)] w fun e w' => e = .returned (.int .u8 (wth ss ls x : Nat)) ∧ Below w.heap.size w w' := by
  have hsl : ss.length = sn := by have := hs.len; rwa [vb_len] at this
  have hll : ls.length = ln := by have := hl.len; rwa [vb_len] at this
  have Hsl := hid hsl
  have Hll := hid hll
  clear hsl hll
  go_enter Try.func17, Try.ntmps17
  go_wp2
  go_loopw [7, 17] (fun u i wr => ∃ k : Nat, k ≤ sn ∧ i = .int .i64 k ∧ u = .int .u8 (upw ss ls x k : Nat) ∧ Below w.heap.size w wr) (fun _ i _ => sn - (intOf i).toNat)
  case atStart => exact ⟨0, by omega, rfl, rfl, Below.refl _ _⟩
  case round =>
    obtain ⟨k, hk, rfl, rfl, hB⟩ := hrel
    by_cases hlt : k < sn
    · obtain ⟨mx, hmx⟩ : ∃ mx : Nat, mx = min ln (k + 1) := ⟨_, rfl⟩
      have m1 : mx ≤ ln := by omega
      have m2 : mx ≤ k + 1 := by omega
      have Hmx := hid hmx
      clear hmx
      have hu := upw_lt (s := ss) hlb x k
      have hc := cin_lt (s := ss) hlb k mx
      have Hn : Hid (upw ss ls x (k + 1) = upw ss ls x k ^^^ Gf.mul (cin ss ls k mx) (rz x k)) := by rw [Hmx.out, ← Hll.out]; rfl
      generalize upw ss ls x k = u at *
      generalize hu' : upw ss ls x (k + 1) = u' at *
      have Hu' := hid hu'
      clear hu'
      rcases Nat.lt_or_ge (k + 1) ln with hkl | hkl
      case' inl => have m3 : k + 1 ≤ mx := by have := Hmx.out; omega
      case' inr => have m3 : ln ≤ mx := by have := Hmx.out; omega
      all_goals
        go_wp2
        go_loopw [10, 25] (fun c i wq => ∃ m : Nat, m ≤ mx ∧ i = .int .i64 m ∧ c = .int .u8 (cin ss ls k m : Nat) ∧ Below w.heap.size w wq) (fun _ i _ => mx - (intOf i).toNat)
        case atStart => exact ⟨0, by omega, rfl, rfl, hB⟩
        case round =>
          obtain ⟨m, hm, rfl, rfl, hB⟩ := hrel
          by_cases hltm : m < mx
          · obtain ⟨b, off, rfl, hbl, hcell⟩ := (hl.below hB).cell m (by omega)
            obtain ⟨b2, off2, rfl, hbl2, hcell2⟩ := (hs.below hB).cell (k - m) (by omega)
            have q1 : m < ln := by omega
            have q2 : m ≤ k := by omega
            have hx256 := nth_lt hlb m
            have hy256 := nth_lt hsb (k - m)
            have hcm := cin_lt (s := ss) hlb k m
            have Hst : Hid (cin ss ls k (m + 1) = cin ss ls k m ^^^ Gf.mul (nth ls m) (nth ss (k - m))) := rfl
            generalize cin ss ls k m = cm at *
            generalize hcm' : cin ss ls k (m + 1) = cm' at *
            have Hcm' := hid hcm'
            clear hcm'
            generalize nth ls m = a at *
            generalize nth ss (k - m) = b' at *
            have hmul := Gf.mul_lt a b' hx256
            have e1 := u8_xor_nat cm (Gf.mul a b') hcm hmul
            have s1 : IntKind.i64.wrap ((k : Int) - (m : Int)) = (k : Int) - (m : Int) := IntWalk.i64_in _ (by omega)
            have s2 : (0 : Int) ≤ (k : Int) - (m : Int) := by omega
            have s3 : (k : Int) - (m : Int) < (sn : Int) := by omega
            have s4 : ((k : Int) - (m : Int)).toNat = k - m := by omega
            go_wp2
            refine wp_region_still_lit (by kernel_rfl) (by kernel_rfl) ?_
            repeat still_step
            still_call (mul_st a b' _ hx256 hy256)
            repeat still_step
            refine wpStill_nil ?_
            clear s1 s2 s3 s4
            have hBd : Below w.heap.size w wr.drew := hB.drew
            go_wp2
            go_roundw
            case rel => exact ⟨m + 1, by omega, by go_num, by rw [Hcm'.out, Hst.out], hBd⟩
            case measure => simp [intOf]; omega
          · obtain rfl : m = mx := by omega
            have hr := raised_ok x k
            have hrl := rz_lt x k
            generalize rz x k = rr at *
            generalize cin ss ls k m = cm at *
            have hmul := Gf.mul_lt cm rr hc
            have e1 := u8_xor_nat u (Gf.mul cm rr) hu hmul
            go_wp2_with fail
            refine (hr _ hx (by omega)).mono ?_
            rintro e w' ⟨rfl, rfl⟩
            go_wp2_with fail
            refine (mul_st cm rr _ hc hrl).mono ?_
            rintro e w' ⟨rfl, rfl⟩
            go_wp2
            go_roundw
            case rel => exact ⟨k + 1, by omega, by go_num, by rw [Hu'.out, Hn.out], hB⟩
            case measure => simp [intOf]; omega
    · obtain rfl : k = sn := by omega
      have hU := upw_lt (s := ss) hlb x k
      have HU : Hid (upw ss ls x k = upw ss ls x ss.length) := by rw [Hsl.out]; rfl
      generalize upw ss ls x k = U at *
      go_wp2
      go_loopw [8, 12] (fun d i wr => ∃ j : Nat, 2 * j ≤ ln ∧ i = .int .i64 ((2 * j + 1 : Nat) : Int) ∧ d = .int .u8 (dnw ls x j : Nat) ∧ Below w.heap.size w wr) (fun _ i _ => ln + 1 - (intOf i).toNat)
      case atStart => exact ⟨0, by omega, rfl, rfl, hB⟩
      case round =>
        obtain ⟨j, hj, rfl, rfl, hB⟩ := hrel
        have hd := dnw_lt (x := x) hlb j
        by_cases hltj : 2 * j + 1 < ln
        · obtain ⟨b, off, rfl, hbl, hcell⟩ := (hl.below hB).cell (2 * j + 1) hltj
          have hx256 := nth_lt hlb (2 * j + 1)
          have Hst : Hid (dnw ls x (j + 1) = dnw ls x j ^^^ Gf.mul (nth ls (2 * j + 1)) (rz x (2 * j))) := rfl
          have hr := fun W => raised_ok x (2 * j) W hx (by omega)
          have hrl := rz_lt x (2 * j)
          generalize dnw ls x j = d at *
          generalize hd' : dnw ls x (j + 1) = d' at *
          have Hd' := hid hd'
          clear hd'
          generalize nth ls (2 * j + 1) = a at *
          generalize rz x (2 * j) = rr at *
          have hmul := Gf.mul_lt a rr hx256
          have e1 := u8_xor_nat d (Gf.mul a rr) hd hmul
          obtain ⟨i, hi⟩ : ∃ i, i = 2 * j + 1 := ⟨_, rfl⟩
          have Hi := hid hi
          rw [← hi] at hltj hcell ⊢
          have hj2 : ((2 * j : Nat) : Int) = (i : Int) - 1 := by omega
          rw [hj2] at hr
          have q0 : 1 ≤ i := by omega
          clear hi hj2 hj
          have s1 : IntKind.i64.wrap ((i : Int) - 1) = (i : Int) - 1 := IntWalk.i64_in _ (by omega)
          go_wp2
          refine wp_region_still_lit (by kernel_rfl) (by kernel_rfl) ?_
          repeat still_step
          still_call (hr _)
          repeat still_step
          still_call (mul_st a rr _ hx256 hrl)
          repeat still_step
          refine wpStill_nil ?_
          clear s1
          have hBd : Below w.heap.size w wr.drew := hB.drew
          go_wp2
          go_roundw
          case rel => exact ⟨j + 1, by have := Hi.out; omega, by have := Hi.out; go_num, by rw [Hd'.out, Hst.out], hBd⟩
          case measure => simp [intOf]; omega
        · have HJ : Hid (j = ls.length / 2) := by have := Hll.out; show j = _; omega
          have HD : Hid (dnw ls x j = dnw ls x (ls.length / 2)) := by rw [← HJ.out]; rfl
          generalize dnw ls x j = D at *
          have HW : Hid (wth ss ls x = if D = 0 then 0 else Gf.mul U (Gf.inv D)) := by
            show wth ss ls x = _
            rw [HD.out, HU.out]; rfl
          by_cases hD : D = 0
          · subst hD
            go_wp2_with fail
            refine (div_zero U 0 _ (by omega) (by omega) rfl).mono ?_
            rintro e w' ⟨rfl, rfl⟩
            go_wp2
            go_ret
            exact ⟨by rw [HW.out]; rfl, hB⟩
          · go_wp2_with fail
            refine (div_st U D _ hU hd hD).mono ?_
            rintro e w' ⟨rfl, rfl⟩
            go_wp2
            go_ret
            exact ⟨by rw [HW.out, if_neg hD]; rfl, hB⟩
end Go.Proofs.Ytendgihkjibbaaa
