/- frame: load, joined. -/
import Derived.Test.YtjiipmalahhcpaaTurns16
import Derived.Test.YtjiipmalahhcpaaProg
import Derived.Test.YtjiipmalahhcpaaTurns2
import Derived.Test.YtjiipmalahhcpaaTurns4
import Derived.WalkKit
namespace Go.Proofs.Ytjiipmalahhcpaa
set_option linter.unusedVariables false
open Go.RowKit

/-- what load gives -/
def ldOf (l : LQ) (room : Nat) : LS := ldN room room ⟨l.ps, l.gone, [], 2047⟩
structure LoadR (Wl W : World) (qb c room : Nat) (q : Nat → QS) (s : LS) (e : Ending) : Prop where
  ex : ∃ x da dc, e = .returned (.tuple #[.slice da room dc, .int .i64 (s.first : Int)]) ∧ W.ownsRow Wl.heap.size 5 1 (.slice da room dc) room (vb s.data) ∧ QB7 W qb (setQ q c x) ∧ PkT W x.pa x.pn x.pc x.R ∧ x.gone = s.gone ∧ conts x.R = s.ps ∧ x.own = (q c).own
  gr : Wl.grownBy W (some qb)
  ok : s.Ok
  len : s.data.length = room
theorem run_mk0 (room : Nat) (hn : room ≤ 70000) (u : World) : (Instr.makeSlice 33 (.int .i64 0) (.int .i64 (room : Int))).run Try.prog u =
    .ok (.slice (some ⟨u.heap.size, 0, none⟩) 0 room) (u.alloc (.cells (madeCells #[.int .u8 0] (room * 1)) 5)) := by
  obtain ⟨i0, hi, hz0, hz1, hz2⟩ := info_parts Try.info5
  have h := run_make (P := Try.prog) u 33 5 i0 (.int .u8 0) Try.underlying33 hi hz0 .i64 .i64 0 (room : Int) (Int.le_refl _) (by omega) (by rw [hz2]; omega) (by omega)
  simpa [hz1, Value.cells] using h
set_option maxRecDepth 1000000 in
set_option maxHeartbeats 4000000 in
theorem load_ok (qb c room : Nat) (q : Nat → QS) (Wl : World) (hc : c < 7) (hQ : QB7 Wl qb q) (hP : PkT Wl (q c).pa (q c).pn (q c).pc (q c).R) (hok : (q c).abs.Ok) (h0 : 0 < room) (hr : room ≤ 2048) :
    Calls Try.prog 22 #[.pointer (some ⟨qb, c * 3, none⟩), .int .i64 (room : Int)] Wl fun e w' => LoadR Wl w' qb c room q (ldOf (q c).abs room) e := by
  have hmk := run_mk0 room (by omega) Wl
  have b1 := below_alloc Wl (.cells (madeCells #[.int .u8 0] (room * 1)) 5)
  have ho : (Wl.alloc (.cells (madeCells #[.int .u8 0] (room * 1)) 5)).ownsRow Wl.heap.size 5 1 (.slice (some ⟨Wl.heap.size, 0, none⟩) 0 room) 0 [] := World.ownsRow_made Wl _ room (Nat.le_refl _) (by unfold maxLen; omega) (by rw [size_madeCells, Nat.mul_one])
  have hM : ML (Wl.alloc (.cells (madeCells #[.int .u8 0] (room * 1)) 5)) Wl.heap.size qb c q ⟨conts (q c).R, (q c).gone, [], 2047⟩ (some ⟨Wl.heap.size, 0, none⟩) room := by
    refine ⟨hQ.below b1, hP.below b1, rfl, rfl, ho, fun r hr b off hp hra e => ?_⟩
    obtain ⟨b', off', cs, h3, h4⟩ := (hP.rows r hr).ty hp
    rw [hra] at h3
    cases h3
    cases e
    exact absurd (row_lt h4) (Nat.lt_irrefl _)
  have hsok : (⟨conts (q c).R, (q c).gone, [], 2047⟩ : LS).Ok := ⟨hok.enc, hok.len, hok.g0, hok.g1, Nat.le_refl _⟩
  have hl := hid (ld_l Wl _ Wl.heap.size qb c room q ⟨conts (q c).R, (q c).gone, [], 2047⟩ (some ⟨Wl.heap.size, 0, none⟩) room hc hM hsok (Nat.zero_le _) hr b1.size rfl (grownBy_of_below b1 _))
  have hT : Hid (ldN room room ⟨conts (q c).R, (q c).gone, [], 2047⟩ = ldOf (q c).abs room) := rfl
  rw [hT.out] at hl
  clear hM hsok ho b1 hQ hP hok hT
  generalize ldOf (q c).abs room = T at *
  generalize madeCells #[.int .u8 0] (room * 1) = MB at *
  go_enter Try.func22, Try.ntmps22
  refine wp_seq_k (fun K0 hK0 => ?_)
  go_wp2_with fail
  refine hK0.out _ _ ?_
  refine wp_seq_k (fun K1 hK1 => ?_)
  go_wp2_with fail
  refine hK1.out _ _ ?_
  refine wp_seq_k (fun K2 hK2 => ?_)
  go_wp2_with fail
  refine hK2.out _ _ ?_
  generalize Wl.alloc (.cells MB 5) = W1 at *
  refine wp_seq_k (fun K3 hK3 => ?_)
  refine Tri.use hl.out rfl ⟨⟨rfl, rfl, rfl, rfl⟩, rfl⟩ ?_
  rintro y5 W5 ⟨s, x, da, dc, rfl, hlen, hok, ⟨t0, t1, t6, t7⟩, hM5, hx, hg⟩
  refine hK3.out _ _ ?_
  have HM := hid hM5
  have HR := hid (And.intro hlen (And.intro hok (And.intro hx hg)))
  clear hM5 hlen hok hx hg hl hmk
  rw [fr95]
  simp only [t0, t1, t6, t7]
  clear t0 t1 t6 t7
  go_wp2_with fail
  go_ret2
  obtain ⟨r1, r2, r3, r4⟩ := HR.out
  have hM := HM.out
  have hgn := hM.gn
  have hcs := hM.cs
  have hpk := hM.pk
  rw [setQ_self] at hgn hcs hpk
  refine ⟨⟨x, da, dc, rfl, ?_, hM.qr, hpk, hgn, hcs, r3⟩, r4, r2, r1⟩
  have h5 := hM.dt
  rw [r1] at h5
  exact h5
end Go.Proofs.Ytjiipmalahhcpaa
/- frame.Sum: the walk. -/
namespace Go.Proofs.Ytjiipmalahhcpaa
set_option linter.unusedVariables false
open Go.RowKit

def crcStep (s : Nat) : Nat := if s &&& 32768 ≠ 0 then (s * 2 % 65536) ^^^ 4129 else s * 2 % 65536
def crcN : Nat → Nat → Nat
  | 0, s => s
  | n + 1, s => crcN n (crcStep s)
def crcByte (s x : Nat) : Nat := crcN 8 (s ^^^ x * 256)
def sumN (bs : List Nat) : Nat := bs.foldl crcByte 65535
theorem xor16 {a b : Nat} (ha : a < 65536) (hb : b < 65536) : a ^^^ b < 65536 := Nat.xor_lt_two_pow (n := 16) ha hb
theorem crcStep_lt (s : Nat) : crcStep s < 65536 := by
  unfold crcStep
  split
  · exact xor16 (by omega) (by decide)
  · omega
theorem crcN_lt (n s : Nat) (h : s < 65536) : crcN n s < 65536 := by
  induction n generalizing s with
  | zero => exact h
  | succ n ih => exact ih _ (crcStep_lt s)
theorem crcByte_lt (s x : Nat) (h : s < 65536) (hx : x < 256) : crcByte s x < 65536 := crcN_lt _ _ (xor16 h (by omega))
theorem sumN_lt (bs : List Nat) (h : AllB bs) : sumN bs < 65536 := by
  unfold sumN
  suffices key : ∀ (l : List Nat) (s : Nat), s < 65536 → AllB l → l.foldl crcByte s < 65536 from key bs _ (by decide) h
  intro l
  induction l with
  | nil => intro s hs _; exact hs
  | cons x l ih => intro s hs hl; exact ih _ (crcByte_lt s x hs (hl x List.mem_cons_self)) (fun y hy => hl y (List.mem_cons_of_mem _ hy))

theorem wraps_u16 (n : Int) (h₀ : 0 ≤ n) (h₁ : n < 2 ^ 16) : IntKind.u16.wrap n = n := by
  simp only [IntKind.wrap, IntKind.signed, IntKind.bits]
  simp; omega
theorem wrap_u16' (z : Int) : IntKind.u16.wrap z = z % 65536 := by simp [IntKind.wrap, IntKind.signed, IntKind.bits]
theorem u16_and_nat (a b : Nat) (ha : a < 2 ^ 16) (hb : b < 2 ^ 16) : bits .and .u16 (a : Int) (b : Int) = ((a &&& b : Nat) : Int) :=
  (bits_nat .u16 16 (by decide) wraps_u16 a b ha hb).1
theorem u16_xor_nat (a b : Nat) (ha : a < 2 ^ 16) (hb : b < 2 ^ 16) : bits .xor .u16 (a : Int) (b : Int) = ((a ^^^ b : Nat) : Int) := by
  have ha' : a % 2 ^ 16 = a := Nat.mod_eq_of_lt ha
  have hb' : b % 2 ^ 16 = b := Nat.mod_eq_of_lt hb
  show IntKind.u16.wrap ((BitVec.ofInt 16 (a : Int) ^^^ BitVec.ofInt 16 (b : Int)).toNat : Int) = _
  rw [BitVec.toNat_xor, BitVec.ofInt_natCast, BitVec.ofInt_natCast, BitVec.toNat_ofNat, BitVec.toNat_ofNat, ha', hb']
  have hx := Nat.xor_lt_two_pow ha hb
  exact wraps_u16 _ (Int.natCast_nonneg _) (by exact_mod_cast hx)

set_option maxRecDepth 1000000 in
theorem sum_ok (a : Option Addr) (n c : Nat) (bs : List Nat) (hb : AllB bs) (hn : n ≤ 140737488355328) (w : World) (hr : Rd w a n c (vb bs)) :
    Calls Try.prog 24 #[.slice a n c] w fun e w' => ∃ s : Nat, e = .returned (.int .i64 (s : Int)) ∧ s < 65536 ∧ Hid (s = sumN bs) ∧ w = w' := by
  have hl : bs.length = n := by have := hr.len; rwa [vb_len] at this
  have Hl := hid hl
  clear hl
  go_enter Try.func24, Try.ntmps24
  go_wp2_with fail
  go_loop [3, 9] (fun s i => ∃ (k z : Nat), i = .int .i64 k ∧ k ≤ n ∧ s = .int .u16 z ∧ z < 65536 ∧ Hid (z = (bs.take k).foldl crcByte 65535)) (fun _ i => n - (intOf i).toNat)
  case atStart => exact ⟨0, 65535, rfl, Nat.zero_le _, rfl, by decide, rfl⟩
  case round =>
    obtain ⟨k, z, rfl, hk, rfl, hz, HZ⟩ := hrel
    by_cases hlt : k < n
    · have t1 : (k : Int) < (n : Int) := by omega
      obtain ⟨b, off, rfl, hbl, hcell⟩ := hr.cell k hlt
      have hx := nth_lt hb k
      have hstep : (bs.take (k + 1)).foldl crcByte 65535 = crcByte ((bs.take k).foldl crcByte 65535) (nth bs k) := by
        have hkl : k < bs.length := by rw [Hl.out]; exact hlt
        rw [List.take_add_one, List.foldl_append, nth_get hkl]; simp [hkl]
      rw [← HZ.out] at hstep
      have hstep := hid hstep
      generalize nth bs k = x at *
      have e1 : bits .xor .u16 (z : Int) ((x : Int) * 256) = ((z ^^^ x * 256 : Nat) : Int) := by
        have := u16_xor_nat z (x * 256) (by omega) (by omega)
        rwa [Int.natCast_mul] at this
      have hy : z ^^^ x * 256 < 65536 := xor16 hz (by omega)
      have hfin : Hid (crcN 8 (z ^^^ x * 256) = (bs.take (k + 1)).foldl crcByte 65535) := hstep.out.symm
      generalize z ^^^ x * 256 = y at *
      clear HZ
      go_wp2_with fail
      clear hstep
      generalize hF : (bs.take (k + 1)).foldl crcByte 65535 = F at *
      have HF := hid hF
      clear hF
      go_loop [3, 18] (fun s j => ∃ (m v : Nat), j = .int .i64 m ∧ m ≤ 8 ∧ s = .int .u16 v ∧ v < 65536 ∧ Hid (crcN (8 - m) v = F)) (fun _ j => 8 - (intOf j).toNat)
      case atStart => exact ⟨0, y, rfl, by decide, rfl, hy, hfin⟩
      case round =>
        clear hfin
        obtain ⟨m, v, rfl, hm, rfl, hv, HV⟩ := hrel
        by_cases hm8 : m < 8
        · have t2 : (m : Int) < 8 := by omega
          have e2 : bits .and .u16 (v : Int) 32768 = ((v &&& 32768 : Nat) : Int) := u16_and_nat v 32768 (by omega) (by decide)
          have hcs : Hid (crcN (8 - (m + 1)) (crcStep v) = F) := by
            have h := HV.out
            rw [show 8 - m = (8 - (m + 1)) + 1 by omega] at h
            exact h
          have e4 : IntKind.u16.wrap ((v : Int) * 2) = ((v * 2 % 65536 : Nat) : Int) := by rw [wrap_u16']; omega
          have hd : v * 2 % 65536 < 65536 := by omega
          by_cases hv0 : v &&& 32768 = 0
          · have hst : crcStep v = v * 2 % 65536 := by unfold crcStep; rw [if_neg (by simpa using hv0)]
            rw [hst] at hcs
            rw [hv0] at e2
            generalize v * 2 % 65536 = v2 at *
            go_wp2_with fail
            go_round
            case rel => exact ⟨m + 1, v2, by simp, by omega, rfl, hd, hcs⟩
            case measure => simp [intOf]; omega
          · have hst : crcStep v = (v * 2 % 65536) ^^^ 4129 := by unfold crcStep; rw [if_pos hv0]
            rw [hst] at hcs
            have t3 : (((v &&& 32768 : Nat) : Int) != 0) = true := by simp; exact hv0
            have e3 : bits .xor .u16 ((v * 2 % 65536 : Nat) : Int) 4129 = (((v * 2 % 65536) ^^^ 4129 : Nat) : Int) := u16_xor_nat (v * 2 % 65536) 4129 (by omega) (by decide)
            have hx3 := xor16 (a := v * 2 % 65536) (b := 4129) (by omega) (by decide)
            generalize v * 2 % 65536 = v3 at *
            generalize v3 ^^^ 4129 = v2 at *
            generalize v &&& 32768 = va at *
            go_wp2_with fail
            go_round
            case rel => exact ⟨m + 1, v2, by simp, by omega, rfl, hx3, hcs⟩
            case measure => simp [intOf]; omega
        · have hm9 : m = 8 := by omega
          subst hm9
          have hvF : v = F := HV.out
          go_wp2_with fail
          go_round
          case rel => exact ⟨k + 1, v, by simp, by omega, rfl, hv, hvF.trans HF.out.symm⟩
          case measure => simp [intOf]; omega
    · obtain rfl : k = n := by omega
      have hz2 := HZ.out
      rw [List.take_of_length_le (by rw [Hl.out]; exact Nat.le_refl _)] at hz2
      have hz3 : Hid (z = sumN bs) := hz2
      clear hz2 HZ
      go_wp2_with fail
      go_ret
      exact ⟨z, rfl, hz, hz3, rfl⟩
theorem sum_st (a : Option Addr) (n c : Nat) (bs : List Nat) (hb : AllB bs) (hn : n ≤ 140737488355328) (w : World) (hr : Rd w a n c (vb bs)) :
    Calls Try.prog 24 #[.slice a n c] w fun e w' => e = .returned (.int .i64 ((sumN bs : Nat) : Int)) ∧ w' = w :=
  (sum_ok a n c bs hb hn w hr).mono fun e w' ⟨s, he, _, hs, hw⟩ => ⟨by rw [he, hs.out], hw.symm⟩
end Go.Proofs.Ytjiipmalahhcpaa
