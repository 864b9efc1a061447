/- frame.Sum: the walk. -/
import Derived.Test.YtjiipmalahhcpaaProg
import Derived.Test.YtjiipmalahhcpaaCarries2
import Derived.Test.YtjiipmalahhcpaaCarries3
import Derived.WalkKit
import Derived.Test.YtjiipmalahhcpaaCarries11
namespace Go.Proofs.Ytjiipmalahhcpaa
set_option linter.unusedVariables false
open Go.RowKit

def crcStep (s : Nat) : Nat := if s &&& 32768 ≠ 0 then (s * 2 % 65536) ^^^ 4129 else s * 2 % 65536
def crcN : Nat → Nat → Nat
  | 0, s => s
  | n + 1, s => crcN n (crcStep s)
def crcByte (s x : Nat) : Nat := crcN 8 (s ^^^ x * 256)
def sumN (bs : List Nat) : Nat := bs.foldl crcByte 65535
theorem xor16 {a b : Nat} (ha : a < 65536) (hb : b < 65536) : a ^^^ b < 65536 := Nat.xor_lt_two_pow (n := 16) ha hb
theorem crcStep_lt (s : Nat) : crcStep s < 65536 := by
  unfold crcStep
  split
  · exact xor16 (by omega) (by decide)
  · omega
theorem crcN_lt (n s : Nat) (h : s < 65536) : crcN n s < 65536 := by
  induction n generalizing s with
  | zero => exact h
  | succ n ih => exact ih _ (crcStep_lt s)
theorem crcByte_lt (s x : Nat) (h : s < 65536) (hx : x < 256) : crcByte s x < 65536 := crcN_lt _ _ (xor16 h (by omega))
theorem sumN_lt (bs : List Nat) (h : AllB bs) : sumN bs < 65536 := by
  unfold sumN
  suffices key : ∀ (l : List Nat) (s : Nat), s < 65536 → AllB l → l.foldl crcByte s < 65536 from key bs _ (by decide) h
  intro l
  induction l with
  | nil => intro s hs _; exact hs
  | cons x l ih => intro s hs hl; exact ih _ (crcByte_lt s x hs (hl x List.mem_cons_self)) (fun y hy => hl y (List.mem_cons_of_mem _ hy))

theorem wraps_u16 (n : Int) (h₀ : 0 ≤ n) (h₁ : n < 2 ^ 16) : IntKind.u16.wrap n = n := by
  simp only [IntKind.wrap, IntKind.signed, IntKind.bits]
  simp; omega
theorem wrap_u16' (z : Int) : IntKind.u16.wrap z = z % 65536 := by simp [IntKind.wrap, IntKind.signed, IntKind.bits]
theorem u16_and_nat (a b : Nat) (ha : a < 2 ^ 16) (hb : b < 2 ^ 16) : bits .and .u16 (a : Int) (b : Int) = ((a &&& b : Nat) : Int) :=
  (bits_nat .u16 16 (by decide) wraps_u16 a b ha hb).1
theorem u16_xor_nat (a b : Nat) (ha : a < 2 ^ 16) (hb : b < 2 ^ 16) : bits .xor .u16 (a : Int) (b : Int) = ((a ^^^ b : Nat) : Int) := by
  have ha' : a % 2 ^ 16 = a := Nat.mod_eq_of_lt ha
  have hb' : b % 2 ^ 16 = b := Nat.mod_eq_of_lt hb
  show IntKind.u16.wrap ((BitVec.ofInt 16 (a : Int) ^^^ BitVec.ofInt 16 (b : Int)).toNat : Int) = _
  rw [BitVec.toNat_xor, BitVec.ofInt_natCast, BitVec.ofInt_natCast, BitVec.toNat_ofNat, BitVec.toNat_ofNat, ha', hb']
  have hx := Nat.xor_lt_two_pow ha hb
  exact wraps_u16 _ (Int.natCast_nonneg _) (by exact_mod_cast hx)

set_option maxRecDepth 1000000 in
theorem sum_ok (a : Option Addr) (n c : Nat) (bs : List Nat) (hb : AllB bs) (hn : n ≤ 140737488355328) (w : World) (hr : Rd w a n c (vb bs)) :
    Calls Try.prog 24 #[.slice a n c] w fun e w' => ∃ s : Nat, e = .returned (.int .i64 (s : Int)) ∧ s < 65536 ∧ Hid (s = sumN bs) ∧ w = w' := by
  have hl : bs.length = n := by have := hr.len; rwa [vb_len] at this
  have Hl := hid hl
  clear hl
  go_enter Try.func24, Try.ntmps24
  go_wp2_with fail
  go_loop [3, 9] (fun s i => ∃ (k z : Nat), i = .int .i64 k ∧ k ≤ n ∧ s = .int .u16 z ∧ z < 65536 ∧ Hid (z = (bs.take k).foldl crcByte 65535)) (fun _ i => n - (intOf i).toNat)
  case atStart => exact ⟨0, 65535, rfl, Nat.zero_le _, rfl, by decide, rfl⟩
  case round =>
    obtain ⟨k, z, rfl, hk, rfl, hz, HZ⟩ := hrel
    by_cases hlt : k < n
    · have t1 : (k : Int) < (n : Int) := by omega
      obtain ⟨b, off, rfl, hbl, hcell⟩ := hr.cell k hlt
      have hx := nth_lt hb k
      have hstep : (bs.take (k + 1)).foldl crcByte 65535 = crcByte ((bs.take k).foldl crcByte 65535) (nth bs k) := by
        have hkl : k < bs.length := by rw [Hl.out]; exact hlt
        rw [List.take_add_one, List.foldl_append, nth_get hkl]; simp [hkl]
      rw [← HZ.out] at hstep
      have hstep := hid hstep
      generalize nth bs k = x at *
      have e1 : bits .xor .u16 (z : Int) ((x : Int) * 256) = ((z ^^^ x * 256 : Nat) : Int) := by
        have := u16_xor_nat z (x * 256) (by omega) (by omega)
        rwa [Int.natCast_mul] at this
      have hy : z ^^^ x * 256 < 65536 := xor16 hz (by omega)
      have hfin : Hid (crcN 8 (z ^^^ x * 256) = (bs.take (k + 1)).foldl crcByte 65535) := hstep.out.symm
      generalize z ^^^ x * 256 = y at *
      clear HZ
      go_wp2_with fail
      clear hstep
      generalize hF : (bs.take (k + 1)).foldl crcByte 65535 = F at *
      have HF := hid hF
      clear hF
      go_loop [3, 18] (fun s j => ∃ (m v : Nat), j = .int .i64 m ∧ m ≤ 8 ∧ s = .int .u16 v ∧ v < 65536 ∧ Hid (crcN (8 - m) v = F)) (fun _ j => 8 - (intOf j).toNat)
      case atStart => exact ⟨0, y, rfl, by decide, rfl, hy, hfin⟩
      case round =>
        clear hfin
        obtain ⟨m, v, rfl, hm, rfl, hv, HV⟩ := hrel
        by_cases hm8 : m < 8
        · have t2 : (m : Int) < 8 := by omega
          have e2 : bits .and .u16 (v : Int) 32768 = ((v &&& 32768 : Nat) : Int) := u16_and_nat v 32768 (by omega) (by decide)
          have hcs : Hid (crcN (8 - (m + 1)) (crcStep v) = F) := by
            have h := HV.out
            rw [show 8 - m = (8 - (m + 1)) + 1 by omega] at h
            exact h
          have e4 : IntKind.u16.wrap ((v : Int) * 2) = ((v * 2 % 65536 : Nat) : Int) := by rw [wrap_u16']; omega
          have hd : v * 2 % 65536 < 65536 := by omega
          by_cases hv0 : v &&& 32768 = 0
          · have hst : crcStep v = v * 2 % 65536 := by unfold crcStep; rw [if_neg (by simpa using hv0)]
            rw [hst] at hcs
            rw [hv0] at e2
            generalize v * 2 % 65536 = v2 at *
            go_wp2_with fail
            go_round
            case rel => exact ⟨m + 1, v2, by simp, by omega, rfl, hd, hcs⟩
            case measure => simp [intOf]; omega
          · have hst : crcStep v = (v * 2 % 65536) ^^^ 4129 := by unfold crcStep; rw [if_pos hv0]
            rw [hst] at hcs
            have t3 : (((v &&& 32768 : Nat) : Int) != 0) = true := by simp; exact hv0
            have e3 : bits .xor .u16 ((v * 2 % 65536 : Nat) : Int) 4129 = (((v * 2 % 65536) ^^^ 4129 : Nat) : Int) := u16_xor_nat (v * 2 % 65536) 4129 (by omega) (by decide)
            have hx3 := xor16 (a := v * 2 % 65536) (b := 4129) (by omega) (by decide)
            generalize v * 2 % 65536 = v3 at *
            generalize v3 ^^^ 4129 = v2 at *
            generalize v &&& 32768 = va at *
            go_wp2_with fail
            go_round
            case rel => exact ⟨m + 1, v2, by simp, by omega, rfl, hx3, hcs⟩
            case measure => simp [intOf]; omega
        · have hm9 : m = 8 := by omega
          subst hm9
          have hvF : v = F := HV.out
          go_wp2_with fail
          go_round
          case rel => exact ⟨k + 1, v, by simp, by omega, rfl, hv, hvF.trans HF.out.symm⟩
          case measure => simp [intOf]; omega
    · obtain rfl : k = n := by omega
      have hz2 := HZ.out
      rw [List.take_of_length_le (by rw [Hl.out]; exact Nat.le_refl _)] at hz2
      have hz3 : Hid (z = sumN bs) := hz2
      clear hz2 HZ
      go_wp2_with fail
      go_ret
      exact ⟨z, rfl, hz, hz3, rfl⟩
theorem sum_st (a : Option Addr) (n c : Nat) (bs : List Nat) (hb : AllB bs) (hn : n ≤ 140737488355328) (w : World) (hr : Rd w a n c (vb bs)) :
    Calls Try.prog 24 #[.slice a n c] w fun e w' => e = .returned (.int .i64 ((sumN bs : Nat) : Int)) ∧ w' = w :=
  (sum_ok a n c bs hb hn w hr).mono fun e w' ⟨s, he, _, hs, hw⟩ => ⟨by rw [he, hs.out], hw.symm⟩
end Go.Proofs.Ytjiipmalahhcpaa
/- frame: number; the bytes of a number. -/
namespace Go.Proofs.Ytjiipmalahhcpaa
set_option linter.unusedVariables false
open Go.RowKit

def numB (bs : List Nat) : Nat := bs.foldl (fun n x => n * 256 + x) 0
theorem numB_snoc (bs : List Nat) (x : Nat) : numB (bs ++ [x]) = numB bs * 256 + x := by unfold numB; rw [List.foldl_append]; rfl
theorem numB_lt : ∀ (k : Nat) (bs : List Nat), bs.length = k → AllB bs → numB bs < 256 ^ k
  | 0, bs, h, _ => by
    have : bs = [] := List.eq_nil_of_length_eq_zero h
    subst this
    decide
  | k + 1, bs, h, ha => by
    have hne : bs ≠ [] := fun e => by subst e; cases h
    have e := List.dropLast_concat_getLast hne
    rw [← e, numB_snoc]
    have h1 := numB_lt k bs.dropLast (by rw [List.length_dropLast, h]; rfl) (fun x hx => ha x (List.dropLast_subset _ hx))
    have h2 := ha _ (List.getLast_mem hne)
    rw [Nat.pow_succ]
    have h3 : (numB bs.dropLast + 1) * 256 ≤ 256 ^ k * 256 := Nat.mul_le_mul_right _ h1
    omega
def NuI (a : Option Addr) (n c : Nat) (bs : List Nat) (W0 : World) (y : Nat → Value) (W : World) : Prop :=
  ∃ i : Nat, i ≤ n ∧ y 2 = .int .i64 (numB (bs.take i) : Nat) ∧ y 5 = .slice a n c ∧ y 6 = .int .i64 (n : Int) ∧ y 7 = .int .i64 (i : Int) ∧ W = W0
set_option maxRecDepth 1000000 in
theorem fr18 (y : Nat → Value) : fr 18 y = #[y 0, y 1, y 2, y 3, y 4, y 5, y 6, y 7, y 8, y 9, y 10, y 11, y 12, y 13, y 14, y 15, y 16, y 17] := rfl
set_option maxRecDepth 1000000 in
set_option maxHeartbeats 2000000 in
theorem number_ok (a : Option Addr) (n c : Nat) (bs : List Nat) (w : World) (hr : Rd w a n c (vb bs)) (hb : AllB bs) (hn : n ≤ 4) :
    Calls Try.prog 25 #[.slice a n c] w fun e w' => e = .returned (.int .i64 (numB bs : Nat)) ∧ w' = w := by
  have hl : bs.length = n := by have := hr.len; rwa [vb_len] at this
  have HR := hid hr
  have HA := hid hb
  have Hl := hid hl
  have hm := Nat.le_trans hr.le hr.max
  unfold maxLen at hm
  clear hr hb hl
  go_enter Try.func25, Try.ntmps25
  go_wp2_with fail
  refine wp_loop_fr 18 (NuI a n c bs w) (fun y' _ => n - (intOf (y' 7)).toNat) ⟨rfl, rfl, 0, Nat.zero_le _, rfl, rfl, rfl, rfl, rfl⟩ ?_
  rintro z W ⟨i, hi, s2, s5, s6, s7, rfl⟩
  rw [fr18]
  simp only [s2, s5, s6, s7]
  clear s2 s5 s6 s7
  by_cases hlt : i < n
  · have d1 : decide ((i : Int) < (n : Int)) = true := decide_eq_true (by omega)
    have d2 : decide (i < n) = true := decide_eq_true hlt
    obtain ⟨b, off, rfl, hbl, c0⟩ := HR.out.cell i hlt
    have hx := nth_lt HA.out i
    have hT : Hid (numB (bs.take (i + 1)) = numB (bs.take i) * 256 + nth bs i) := by
      have hkl : i < bs.length := by rw [Hl.out]; exact hlt
      unfold Hid
      rw [List.take_add_one, List.getElem?_eq_getElem hkl, nth_get hkl, Option.toList_some, numB_snoc]
    have hlt2 : numB (bs.take i) < 16777216 := by
      have h1 := numB_lt i (bs.take i) (by rw [List.length_take, Hl.out]; omega) (fun x hx => HA.out x (List.mem_of_mem_take hx))
      have h2 : 256 ^ i ≤ 256 ^ 3 := Nat.pow_le_pow_right (by decide) (by omega)
      have h3 : (256 : Nat) ^ 3 = 16777216 := by decide
      omega
    generalize nth bs i = x at *
    generalize numB (bs.take i) = v at *
    obtain ⟨q, hq⟩ : ∃ q, q = v * 256 + x := ⟨_, rfl⟩
    have hor : bits .or .i64 ((v : Int) * 256) (x : Int) = (q : Int) := by
      have h1 := i64_or_nat (v * 256) x (by omega) (by omega)
      have h2 : v * 256 ||| x = v * 256 + x := or_add v x 8 (by omega)
      rw [h2, ← hq] at h1
      rw [← h1]
      congr 1
    have w1 : IntKind.i64.wrap ((v : Int) * 256) = (v : Int) * 256 := IntWalk.i64_in _ (by omega)
    rw [← hq] at hT
    clear hq
    go_wp2_with fail
    refine ⟨rfl, rfl, ⟨i + 1, by omega, ?_, rfl, rfl, ?_, rfl⟩, ?_⟩
    · rw [hT.out]; rfl
    · show Value.int .i64 _ = Value.int .i64 _
      go_num
    · show n - (intOf (Value.int .i64 _)).toNat < _
      simp [intOf]
      omega
  · obtain rfl : i = n := by omega
    have d1 : decide ((i : Int) < (i : Int)) = false := decide_eq_false (by omega)
    have ht : bs.take i = bs := List.take_of_length_le (by rw [Hl.out]; exact Nat.le_refl _)
    rw [ht]
    clear ht
    go_wp2_with fail
    go_ret
    exact ⟨rfl, rfl⟩
end Go.Proofs.Ytjiipmalahhcpaa
/- frame: Pack's closure: the bytes of a number are put behind. -/
namespace Go.Proofs.Ytjiipmalahhcpaa
set_option linter.unusedVariables false
open Go.RowKit

def beB (n k j : Nat) : List Nat := (List.range j).map fun t => n / 256 ^ (k - 1 - t) % 256
theorem beB_succ (n k j : Nat) : beB n k (j + 1) = beB n k j ++ [n / 256 ^ (k - 1 - j) % 256] := by unfold beB; rw [List.range_succ, List.map_append]; rfl
theorem beB_len (n k j : Nat) : (beB n k j).length = j := by simp [beB]
theorem beB_all (n k j : Nat) : AllB (beB n k j) := fun x hx => by
  obtain ⟨t, _, rfl⟩ := List.mem_map.1 hx
  exact Nat.mod_lt _ (by decide)
theorem u8_wrap (z : Nat) : IntKind.u8.wrap (z : Int) = ((z % 256 : Nat) : Int) := by simp [IntKind.wrap, IntKind.signed, IntKind.bits]
theorem shr_0 (n : Nat) : IntKind.u8.wrap ((n : Int).fdiv (2 ^ min (IntKind.i64.wrap 0).toNat 64)) = ((n / 256 ^ 0 % 256 : Nat) : Int) := by
  rw [show IntKind.i64.wrap 0 = 0 from IntWalk.i64_in _ (by omega), show ((2 : Int) ^ min (0 : Int).toNat 64) = ((1 : Nat) : Int) from rfl, Int.fdiv_eq_ediv_of_nonneg _ (Int.natCast_nonneg _), ← Int.natCast_ediv, u8_wrap]
theorem shr_1 (n : Nat) : IntKind.u8.wrap ((n : Int).fdiv (2 ^ min (IntKind.i64.wrap 8).toNat 64)) = ((n / 256 ^ 1 % 256 : Nat) : Int) := by
  rw [show IntKind.i64.wrap 8 = 8 from IntWalk.i64_in _ (by omega), show ((2 : Int) ^ min (8 : Int).toNat 64) = ((256 : Nat) : Int) from rfl, Int.fdiv_eq_ediv_of_nonneg _ (Int.natCast_nonneg _), ← Int.natCast_ediv, u8_wrap]
theorem shr_2 (n : Nat) : IntKind.u8.wrap ((n : Int).fdiv (2 ^ min (IntKind.i64.wrap 16).toNat 64)) = ((n / 256 ^ 2 % 256 : Nat) : Int) := by
  rw [show IntKind.i64.wrap 16 = 16 from IntWalk.i64_in _ (by omega), show ((2 : Int) ^ min (16 : Int).toNat 64) = ((65536 : Nat) : Int) from rfl, Int.fdiv_eq_ediv_of_nonneg _ (Int.natCast_nonneg _), ← Int.natCast_ediv, u8_wrap]
theorem shr_3 (n : Nat) : IntKind.u8.wrap ((n : Int).fdiv (2 ^ min (IntKind.i64.wrap 24).toNat 64)) = ((n / 256 ^ 3 % 256 : Nat) : Int) := by
  rw [show IntKind.i64.wrap 24 = 24 from IntWalk.i64_in _ (by omega), show ((2 : Int) ^ min (24 : Int).toNat 64) = ((16777216 : Nat) : Int) from rfl, Int.fdiv_eq_ediv_of_nonneg _ (Int.natCast_nonneg _), ← Int.natCast_ediv, u8_wrap]
set_option maxRecDepth 1000000 in
theorem fr20 (y : Nat → Value) : fr 20 y = #[y 0, y 1, y 2, y 3, y 4, y 5, y 6, y 7, y 8, y 9, y 10, y 11, y 12, y 13, y 14, y 15, y 16, y 17, y 18, y 19] := rfl
/-- the box of the bytes -/
structure BX (W : World) (B X : Nat) (da : Option Addr) (dn dc : Nat) (ds : List Nat) : Prop where
  bx : W.heap[X]? = some (.cells #[.slice da dn dc] 33)
  dt : W.ownsRow B 5 1 (.slice da dn dc) dn (vb ds)
theorem BX.below {W W' : World} {B X : Nat} {da : Option Addr} {dn dc : Nat} {ds : List Nat} (h : BX W B X da dn dc ds) (hb : Below W.heap.size W W') : BX W' B X da dn dc ds := ⟨row_below h.bx hb, ownsRow_below h.dt hb⟩
set_option maxRecDepth 1000000 in
set_option maxHeartbeats 8000000 in
theorem pb_r (B X n i k : Nat) (da : Option Addr) (dn dc : Nat) (ds : List Nat) (W1 : World) (hi : i < 4) (hn : n < 4294967296) (hM : BX W1 B X da dn dc ds) (hB : B ≤ W1.heap.size) (hX : B ≤ X) (hdn : dn ≤ 4000) :
    Tri Try.prog 20 (pieceOf Try.f37 [1, 0, 0, 1, 0, 0]) (fun y w => y 0 = .int .i64 (n : Int) ∧ y 1 = .int .i64 (k : Int) ∧ y 2 = .pointer (some ⟨X, 0, none⟩) ∧ y 5 = .int .i64 (i : Int) ∧ w = W1)
      (fun _ _ y w => y 0 = .int .i64 (n : Int) ∧ y 1 = .int .i64 (k : Int) ∧ y 2 = .pointer (some ⟨X, 0, none⟩) ∧ y 5 = .int .i64 (i : Int) ∧ ∃ da' dc', BX w B X da' (dn + 1) dc' (ds ++ [n / 256 ^ i % 256]) ∧ Below B W1 w) := by
  rintro Q y w ⟨s0, s1, s2, s5, rfl⟩ hQ
  have HQ := hid hQ
  obtain ⟨i5, hi5, hz5, hs5, hb5⟩ := info_parts Try.info5
  have hd : Below w.heap.size w w.drew := (Below.refl _ w).drew
  have hMd := hM.below hd
  have hXd : ∀ w', w.drew.grownBy w' (Value.slice da dn dc).ownBlock → w'.cell? ⟨X, 0, none⟩ = some (.slice da dn dc) := fun w' hw => by
    have h1 : w'.heap[X]? = some (.cells #[.slice da dn dc] 33) := (hw.block X (row_lt hMd.bx) (fun e => by
      rcases own_ne hMd.dt hMd.bx (by decide) with h | h
      · rw [h] at e; cases e
      · exact h e.symm)).trans hMd.bx
    rw [cell_of_row _ _ _ _ _ _ h1]; rfl
  obtain ⟨x, hx⟩ : ∃ x, x = n / 256 ^ i % 256 := ⟨_, rfl⟩
  rw [← hx] at HQ
  have hmx := own_form hM.dt
  obtain ⟨_, dc', hv, hle, hmx, _⟩ := hmx
  have hdc : dc' = dc := by cases hv; rfl
  rw [hdc] at hle hmx
  unfold maxLen at hmx
  have HM := hid hMd
  have HBd := hid (show B ≤ w.drew.heap.size from hB)
  have HD := hid (hd.mono hB)
  clear hQ hM hMd hd hv hdc hB
  conv => arg 2; whnf
  rw [fr20]
  rcases (show i = 0 ∨ i = 1 ∨ i = 2 ∨ i = 3 by omega) with rfl | rfl | rfl | rfl
  all_goals
    simp only [s0, s1, s2, s5]
    clear s0 s1 s2 s5
    have f0 := shr_0 n
    have f1 := shr_1 n
    have f2 := shr_2 n
    have f3 := shr_3 n
    rw [← hx] at *
    have Hx := hid hx
    clear hx
    refine wp_region_late [8] [6, 7, 8] [(true, [0, 1, 2, 3, 4, 5, 6, 7]), (false, [8])] (fun u u' => u.grownBy u' (Value.slice da dn dc).ownBlock) (fun _ _ => True) (fun _ => World.grownBy.refl _ _) (fun _ _ _ h k => grownBy_trans h k) (fun _ => trivial) (fun _ _ _ _ _ => trivial) (fun _ _ _ => trivial) (by kernel_rfl) (by kernel_rfl) ?_
    simp only [wpPh, List.map_cons, List.map_nil, List.contains_cons, List.contains_nil, List.getD_cons_zero, List.getD_cons_succ, Nat.reduceBEq, Bool.or_false, Bool.or_true]
    generalize w.drew = U at *
    iterate 6 (refine wpL_do rfl (fun w' hw' => (by go_simp; rfl)) ?_; simp only [Act.put, List.setIfInBounds_toArray, List.set_cons_succ, List.set_cons_zero])
    clear f0 f1 f2 f3 hXd
    have b6 := below_alloc U (.cells #[.int .u8 (x : Int)] 5)
    have hn6 := one_row U (.int .u8 (x : Int)) 5
    refine wpL_call rfl (fun K hK => ?_)
    go_wp2_with fail
    refine hK _ _ (grownBy_of_below b6 _) ?_
    clear hK K
    try simp only [Act.put, List.setIfInBounds_toArray, List.set_cons_succ, List.set_cons_zero]
    have M6 := hid (HM.out.below b6)
    have HB6 := hid (Nat.le_trans HBd.out b6.size)
    have HD6 := hid (HD.out.trans (b6.mono HBd.out))
    clear b6 HM HBd HD
    obtain ⟨N1, hN1⟩ : ∃ N1, N1 = U.heap.size := ⟨_, rfl⟩
    rw [← hN1] at hn6 ⊢
    clear hN1
    generalize U.alloc (.cells #[.int .u8 (x : Int)] 5) = U2 at *
    refine wpL_call rfl (fun K hK => ?_)
    refine wp_append_wide_at (.tmp 12) (.tmp 18) 33 rfl B 5 i5 _ 1 1 Try.underlying33 hi5 hz5 hs5 hb5 rfl (by decide) (.slice da dn dc) dn (vb ds) rfl M6.out.dt ⟨N1, 0, none⟩ 1 1 [.int .u8 (x : Int)] rfl rfl hn6 (by intro u hu; rw [List.mem_singleton] at hu; subst hu; rfl) (by unfold maxLen; omega) (by omega) HB6.out ?_
    intro v' U3 o3 g3 _
    obtain ⟨va, vc, rfl, _, _, _⟩ := own_form o3
    refine hK _ _ g3 ?_
    clear hK K
    try simp only [Act.put, List.setIfInBounds_toArray, List.set_cons_succ, List.set_cons_zero]
    have hX3 : U3.heap[X]? = some (.cells #[.slice da dn dc] 33) := (g3.block X (row_lt M6.out.bx) (fun e => by
      rcases own_ne M6.out.dt M6.out.bx (by decide) with h | h
      · rw [h] at e; cases e
      · exact h e.symm)).trans M6.out.bx
    have c0 : U3.cell? ⟨X, 0, none⟩ = some (.slice da dn dc) := by rw [cell_of_row _ _ _ _ _ _ hX3]; rfl
    have fz := frozen_row hX3 0
    obtain ⟨m1, m2⟩ := set_row (cs' := #[.slice va (dn + 1) vc]) hX3 0 (.slice va (dn + 1) vc) rfl
    have hvb : vb ds ++ [.int .u8 (x : Int)] = vb (ds ++ [x]) := by rw [vb_append]; rfl
    rw [hvb] at o3
    have O4 := hid (o3.kept m2 (own_ne o3 hX3 (by decide)))
    have M1 := hid m1
    have D3 := HD6.out.grown g3 HB6.out (fun k hk => (M6.out.dt.lt k hk).1)
    have D4 := hid (D3.grown m2 (Nat.le_trans HB6.out g3.size) (fun k e => by cases e; exact hX))
    clear hX3 m1 m2 o3 g3 hn6 M6 HD6 hvb D3
    refine wpL_nil ?_
    refine wpL_call rfl (fun K hK => ?_)
    go_wp2_with fail
    refine hK _ _ trivial ?_
    clear hK K c0 fz
    try simp only [Act.put, List.setIfInBounds_toArray, List.set_cons_succ, List.set_cons_zero]
    refine wpL_nil ?_
    exact q_fr (N := 20) HQ.out rfl ⟨rfl, rfl, rfl, rfl, va, vc, ⟨M1.out, O4.out⟩, D4.out⟩
end Go.Proofs.Ytjiipmalahhcpaa
