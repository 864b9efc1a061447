/- PassesBest: all sets of passes. -/
import Derived.Test.YtfbchmihkndfaaaBst7
namespace Go.Proofs.Ytfbchmihkndfaaa
set_option linter.unusedVariables false
open Go.RowKit

structure SM8 (y : Nat → Value) (la : Option Addr) (n cap gap tot mm : Nat) : Prop where
  s7 : y 7 = .slice la n cap
  s11 : y 11 = .int .i64 (gap : Int)
  s13 : y 13 = .int .i64 (tot : Int)
  s21 : y 21 = .int .i64 (mm : Int)
set_option maxRecDepth 1000000 in
set_option maxHeartbeats 2000000 in
theorem one_ok (la : Option Addr) (n cap gap tot mm : Nat) (l : List Ps) (out : List Nat) (Wb W0 : World) (hn : n ≤ 9) (hm : mm ≤ 1000) (hgap : gap ≤ 1000) (hr : RdPs Wb la n cap l) (hg : GoodPs l) (hb : Below Wb.heap.size Wb W0) (hC : ChoP l gap n out tot) :
    Tri Try.prog 236 (pieceOf Try.f4 [1, 1, 1, 1, 1, 1, 1, 1, 1, 1, 1, 0, 1, 0, 0, 1, 0, 0]) (fun y w => SM8 y la n cap gap tot mm ∧ w = W0)
      (fun _ _ y w => SM8 y la n cap gap tot mm ∧ Below Wb.heap.size Wb w) := by
  rintro Q y w ⟨⟨s7, s11, s13, s21⟩, rfl⟩ hQ
  have HQ := hid hQ
  have HS := hid (sets_ok la n cap gap tot mm l Wb w hn hm hr hg hb)
  have HR := hid hr
  have HG := hid hg
  have hbig := hC.big
  have HC := hid hC
  clear hQ hr hg hb hC
  conv => arg 2; whnf
  rw [fr236]
  simp only [s7, s11, s13, s21]
  clear s7 s11 s13 s21
  refine wp_seq_k (fun K1 hK1 => ?_)
  go_wp2_with fail
  refine hK1.out _ _ ?_
  refine wp_seq_k (fun K2 hK2 => ?_)
  go_wp2_with fail
  refine hK2.out _ _ ?_
  refine wp_seq_k (fun K3 hK3 => ?_)
  refine wp_seq_k (fun K4 hK4 => ?_)
  go_wp2_with fail
  refine hK4.out _ _ ?_
  refine Tri.use HS.out rfl ⟨⟨rfl, rfl, rfl, rfl, rfl, rfl, rfl⟩, rfl⟩ ?_
  rintro y1 W1 ⟨m, s, av, A, ⟨s7, s11, s13, s21, s22, s23, s24⟩, ho, hA, hmn, hb1⟩
  refine hK3.out _ _ ?_
  obtain ⟨oa, oc, rfl, _, _⟩ := ho.form
  have hsl := hA.le
  have hord := order_ok la n cap gap l oa m oc A W1 HG.out hgap (HR.out.below hb1) ho.rd hn (by omega) (fun k hk => by
    refine hA.lt _ ?_
    rw [nth_get (by rw [hA.len]; exact hk)]
    exact List.getElem_mem _)
  have HB1 := hid hb1
  have hno : Hid (tot < s → ¬ ChnA l gap A) := fun h h2 => by
    have h3 := HC.out.opt A hA.lt (chn_of A h2)
    rw [hA.sum] at h3
    omega
  clear ho hA hb1 HS HR HG HC
  rw [fr236]
  simp only [s7, s11, s13, s21, s22, s23, s24]
  clear s7 s11 s13 s21 s22 s23 s24
  by_cases hlt : tot < s
  · have d1 : decide ((tot : Int) < (s : Int)) = true := decide_eq_true (by omega)
    have d2 : decide (tot < s) = true := decide_eq_true hlt
    have hno2 := hid (hno.out hlt)
    clear hno hlt
    go_wp2_with fail
    refine hord.mono ?_
    rintro e W2 ⟨⟨b, rfl, hbi⟩, hb2⟩
    cases b with
    | true => exact absurd (hbi.1 rfl) hno2.out
    | false =>
      have HB2 := hid (HB1.out.trans (hb2.mono HB1.out.size))
      clear hbi hb2 hord
      go_wp2_with fail
      exact q_fr (N := 236) HQ.out rfl ⟨⟨rfl, rfl, rfl, rfl⟩, HB2.out⟩
  · have d1 : decide ((tot : Int) < (s : Int)) = false := decide_eq_false (by omega)
    have d2 : decide (tot < s) = false := decide_eq_false hlt
    clear hno hord hlt
    go_wp2_with fail
    exact q_fr (N := 236) HQ.out rfl ⟨⟨rfl, rfl, rfl, rfl⟩, HB1.out⟩
def AllI (Wb : World) (la : Option Addr) (n cap gap tot p : Nat) (y : Nat → Value) (W : World) : Prop :=
  ∃ mm : Nat, mm ≤ p ∧ SM8 y la n cap gap tot mm ∧ Below Wb.heap.size Wb W
theorem shl_9 : ∀ k : Nat, k < 10 → IntKind.i64.wrap ((2 : Int) ^ k) = ((2 ^ k : Nat) : Int) ∧ 2 ^ k ≤ 512 := by decide +kernel
set_option maxRecDepth 1000000 in
set_option maxHeartbeats 2000000 in
theorem all_ok (la : Option Addr) (n cap gap tot : Nat) (l : List Ps) (out : List Nat) (Wb W0 : World) (hn : n ≤ 9) (hgap : gap ≤ 1000) (hr : RdPs Wb la n cap l) (hg : GoodPs l) (hb : Below Wb.heap.size Wb W0) (hC : ChoP l gap n out tot) :
    Tri Try.prog 236 (pieceOf Try.f4 [1, 1, 1, 1, 1, 1, 1, 1, 1, 1, 1, 0, 1]) (fun y w => SM8 y la n cap gap tot 0 ∧ w = W0)
      (fun _ _ y w => SM8 y la n cap gap tot (2 ^ n) ∧ Below Wb.heap.size Wb w) := by
  rintro Q y w ⟨⟨s7, s11, s13, s21⟩, rfl⟩ hQ
  have HQ := hid hQ
  have HR := hid hr
  have HG := hid hg
  have HB := hid hb
  have HC := hid hC
  have hcm := Nat.le_trans hr.le hr.max
  unfold maxLen at hcm
  obtain ⟨hsh, hp5⟩ := shl_9 n (by omega)
  obtain ⟨p, hp⟩ : ∃ p, p = 2 ^ n := ⟨_, rfl⟩
  rw [← hp] at hsh hp5 HQ
  clear hQ hr hg hb hC hp
  conv => arg 2; whnf
  rw [fr236]
  simp only [s7, s11, s13, s21]
  clear s7 s11 s13 s21
  refine wp_block ?_
  refine wp_loop_fr 236 (AllI Wb la n cap gap tot p) (fun y' _ => p - (intOf (y' 21)).toNat) ⟨rfl, rfl, 0, Nat.zero_le _, ⟨rfl, rfl, rfl, rfl⟩, HB.out⟩ ?_
  clear HB
  rintro z W ⟨mm, hm, ⟨s7, s11, s13, s21⟩, hb⟩
  have HB := hid hb
  clear hb
  rw [fr236]
  simp only [s7, s11, s13, s21]
  clear s7 s11 s13 s21
  have h1 := hid (fun h => one_ok la n cap gap tot mm l out Wb W hn h hgap HR.out HG.out HB.out HC.out)
  by_cases hlt : mm < p
  · have hone := hid (h1.out (by omega))
    have hm1 : mm + 1 ≤ p := hlt
    have d1 : decide ((mm : Int) < ((p : Nat) : Int)) = true := decide_eq_true (by omega)
    have d2 : decide (mm < p) = true := decide_eq_true hlt
    clear h1 hlt
    go_upto_block 5 with (fail)
    refine wp_block ?_
    refine Tri.use hone.out rfl ⟨⟨rfl, rfl, rfl, rfl⟩, rfl⟩ ?_
    rintro y2 W2 ⟨⟨s7, s11, s13, s21⟩, hb2⟩
    have HB2 := hid hb2
    clear hb2
    rw [fr236]
    simp only [s7, s11, s13, s21]
    clear s7 s11 s13 s21
    go_wp2_with fail
    refine ⟨rfl, rfl, ⟨mm + 1, hm1, ⟨rfl, rfl, rfl, ?_⟩, HB2.out⟩, ?_⟩
    · show Value.int .i64 _ = Value.int .i64 _
      go_num
    · show p - (intOf (Value.int .i64 _)).toNat < _
      simp [intOf]
      omega
  · obtain rfl : mm = p := by omega
    have d1 : decide ((mm : Int) < (mm : Int)) = false := decide_eq_false (by omega)
    go_wp2_with fail
    exact q_fr (N := 236) HQ.out rfl ⟨⟨rfl, rfl, rfl, rfl⟩, HB.out⟩
end Go.Proofs.Ytfbchmihkndfaaa
