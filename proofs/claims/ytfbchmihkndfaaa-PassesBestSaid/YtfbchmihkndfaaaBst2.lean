/- PassesBest: the loop that makes the passes. -/
import Derived.Test.YtfbchmihkndfaaaBst1
namespace Go.Proofs.Ytfbchmihkndfaaa
set_option linter.unusedVariables false
open Go.RowKit

def Bst1I (w0 : World) (ra : Option Addr) (rn rc : Nat) (ts : Nat → Int × Int) (za : Option Addr) (ln zc : Nat) (z3 : Int) (zs : List Int) (y : Nat → Value) (W : World) : Prop :=
  ∃ i la cap, i ≤ min rn 9 ∧ (i = 0 → la = none ∧ cap = 0) ∧ SM4 y ra rn rc za ln zc z3 (.slice la i cap) i ∧ W.ownsRow w0.heap.size 41 4 (.slice la i cap) i ((psTo ts zs ln i).flatMap pc) ∧ Below w0.heap.size w0 W
set_option maxRecDepth 1000000 in
set_option maxHeartbeats 2000000 in
theorem bst_l1 (w0 : World) (ra : Option Addr) (rn rc : Nat) (ts : Nat → Int × Int) (za : Option Addr) (ln zc : Nat) (z3 : Int) (zs : List Int) (hR : RawAt w0 ra rn rc ts) (hz : Rd w0 za ln zc (vz zs)) (hzb : ∀ z ∈ zs, I64 z) :
    Tri Try.prog 236 (pieceOf Try.f4 [1, 1, 0, 1]) (fun y w => SM4 y ra rn rc za ln zc z3 (.slice none 0 0) 0 ∧ w = w0)
      (fun _ _ y w => ∃ la cap, (min rn 9 = 0 → la = none ∧ cap = 0) ∧ SM4 y ra rn rc za ln zc z3 (.slice la (min rn 9) cap) (min rn 9) ∧ w.ownsRow w0.heap.size 41 4 (.slice la (min rn 9) cap) (min rn 9) ((psTo ts zs ln (min rn 9)).flatMap pc) ∧ Below w0.heap.size w0 w) := by
  rintro Q y w ⟨⟨s0, s1, s2, s7, s8⟩, rfl⟩ hQ
  have HQ := hid hQ
  have hrm : rn ≤ maxLen := Nat.le_trans hR.le hR.max
  unfold maxLen at hrm
  have HR := hid hR
  have HZ := hid hz
  have HZB := hid hzb
  clear hQ hR hz hzb
  conv => arg 2; whnf
  rw [fr236]
  simp only [s0, s1, s2, s7, s8]
  clear s0 s1 s2 s7 s8
  refine wp_block ?_
  refine wp_loop_fr 236 (Bst1I w ra rn rc ts za ln zc z3 zs) (fun y' _ => 9 - (intOf (y' 8)).toNat) ⟨rfl, rfl, 0, none, 0, Nat.zero_le _, (fun _ => ⟨rfl, rfl⟩), ⟨rfl, rfl, rfl, rfl, rfl⟩, ⟨rfl, .inl ⟨rfl, rfl⟩⟩, Below.refl _ _⟩ ?_
  rintro z W ⟨i, la, cap, hi, hi0, ⟨s0, s1, s2, s7, s8⟩, ho, hb⟩
  have Hi0 := hid hi0
  have HO := hid ho
  have HB := hid hb
  clear ho hb hi0
  rw [fr236]
  simp only [s0, s1, s2, s7, s8]
  clear s0 s1 s2 s7 s8
  by_cases hlt : i < rn ∧ i < 9
  · obtain ⟨hl1, hl2⟩ := hlt
    have d1 : decide ((i : Int) < (rn : Int)) = true := decide_eq_true (by omega)
    have d2 : decide ((i : Int) < 9) = true := decide_eq_true (by omega)
    have d3 : decide (i < rn) = true := decide_eq_true hl1
    have d4 : decide (i < 9) = true := decide_eq_true hl2
    obtain ⟨rb, ro, rfl, hrl, hrc⟩ := HR.out.mem (by omega)
    obtain ⟨c0, _⟩ := hrc i hl1
    have c0 : W.cell? ⟨rb, ro + i * 2, none⟩ = some (.int .i64 (ts i).1) := (HB.out.cell (p := ⟨rb, ro + i * 2, none⟩) hrl).trans c0
    obtain ⟨⟨t1, t2⟩, _⟩ := HR.out.bd i hl1
    have hp := pick_st (ts i).1 60 W t1 t2 (by decide) (by decide)
    rw [show (60 : Int).toNat = 60 from rfl] at hp
    have h7 := hid (bst_7 w W (some ⟨rb, ro, none⟩) rn rc za ln zc z3 (.slice la i cap) i zs (pk (ts i).1 60) hl2 HB.out HZ.out HZB.out)
    have h9 := hid (bst_9 w W (some ⟨rb, ro, none⟩) rn rc ts za ln zc z3 la cap i zs hl2 hl1 HR.out HB.out HO.out)
    clear hrc t1 t2
    generalize pk (ts i).1 60 = f at *
    generalize (ts i).1 = ti at *
    go_upto_block 1 with (fail)
    refine wp_block ?_
    refine wp_seq_k (fun K1 hK1 => ?_)
    go_wp2_with fail
    refine hp.mono ?_
    rintro e w' ⟨rfl, hw'⟩
    rw [hw']
    clear hw' w' hp c0
    go_wp2_with fail
    refine hK1.out _ _ ?_
    refine wp_seq_k (fun K2 hK2 => ?_)
    go_wp2_with fail
    refine hK2.out _ _ ?_
    refine wp_seq_k (fun K3 hK3 => ?_)
    refine Tri.use h7.out rfl ⟨⟨rfl, rfl, rfl, rfl, rfl⟩, rfl, rfl, rfl⟩ ?_
    rintro y5 W5 ⟨⟨s0, s1, s2, s7, s8⟩, s9, s10, rfl⟩
    refine hK3.out _ _ ?_
    rw [fr236]
    simp only [s0, s1, s2, s7, s8, s9, s10]
    clear s0 s1 s2 s7 s8 s9 s10
    refine Tri.use h9.out rfl ⟨⟨rfl, rfl, rfl, rfl, rfl⟩, rfl, rfl, rfl⟩ ?_
    rintro y6 W6 ⟨la2, cap2, ⟨s0, s1, s2, s7, s8⟩, ho6, hb6⟩
    have HO6 := hid ho6
    have HB6 := hid hb6
    clear ho6 hb6
    rw [fr236]
    simp only [s0, s1, s2, s7, s8]
    clear s0 s1 s2 s7 s8
    go_wp2_with fail
    refine ⟨rfl, rfl, ⟨i + 1, la2, cap2, by omega, fun h => by omega, ⟨rfl, rfl, rfl, rfl, ?_⟩, HO6.out, HB6.out⟩, ?_⟩
    · show Value.int .i64 _ = Value.int .i64 _
      go_num
    · show 9 - (intOf (Value.int .i64 _)).toNat < _
      simp [intOf]
      omega
  · obtain rfl : i = min rn 9 := by omega
    have HE := hid (show ∃ la' cap', _ from ⟨la, cap, HO.out⟩)
    by_cases hl1 : min rn 9 < rn
    · have h9 : min rn 9 = 9 := by omega
      have d1 : decide (((min rn 9 : Nat) : Int) < (rn : Int)) = true := decide_eq_true (by omega)
      have d2 : decide (((min rn 9 : Nat) : Int) < 9) = false := decide_eq_false (by omega)
      clear HE
      generalize min rn 9 = i at *
      subst h9
      go_wp2_with fail
      exact q_fr (N := 236) HQ.out rfl ⟨la, cap, Hi0.out, ⟨rfl, rfl, rfl, rfl, rfl⟩, HO.out, HB.out⟩
    · have d1 : decide (((min rn 9 : Nat) : Int) < (rn : Int)) = false := decide_eq_false (by omega)
      clear HE
      generalize min rn 9 = i at *
      go_wp2_with fail
      exact q_fr (N := 236) HQ.out rfl ⟨la, cap, Hi0.out, ⟨rfl, rfl, rfl, rfl, rfl⟩, HO.out, HB.out⟩
end Go.Proofs.Ytfbchmihkndfaaa
