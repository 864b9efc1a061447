/- PassesBest: each set of passes: one set. -/
import Derived.Test.YtfbchmihkndfaaaBst6
namespace Go.Proofs.Ytfbchmihkndfaaa
set_option linter.unusedVariables false
open Go.RowKit

theorem SetP.nil (l : List Ps) (n : Nat) : SetP l n [] 0 0 := ⟨rfl, (fun z hz => by cases hz), rfl, Nat.zero_le _⟩
def SetI (Wb : World) (la : Option Addr) (n cap gap tot mm : Nat) (l : List Ps) (y : Nat → Value) (W : World) : Prop :=
  ∃ (i m s : Nat) (av : Value) (A : List Nat), i ≤ n ∧ m ≤ i ∧ SM7 y la n cap gap tot mm av s i ∧ OwnAt W Wb.heap.size 3 av m (vi A) ∧ SetP l n A m s ∧ Below Wb.heap.size Wb W
set_option maxRecDepth 1000000 in
set_option maxHeartbeats 2000000 in
theorem sets_ok (la : Option Addr) (n cap gap tot mm : Nat) (l : List Ps) (Wb W0 : World) (hn : n ≤ 9) (hm : mm ≤ 1000) (hr : RdPs Wb la n cap l) (hg : GoodPs l) (hb : Below Wb.heap.size Wb W0) :
    Tri Try.prog 236 (pieceOf Try.f4 [1, 1, 1, 1, 1, 1, 1, 1, 1, 1, 1, 0, 1, 0, 0, 1, 0, 0, 1, 1, 0, 1]) (fun y w => SM7 y la n cap gap tot mm (.slice none 0 0) 0 0 ∧ w = W0)
      (fun _ _ y w => ∃ (m s : Nat) (av : Value) (A : List Nat), SM7 y la n cap gap tot mm av s n ∧ OwnAt w Wb.heap.size 3 av m (vi A) ∧ SetP l n A m s ∧ m ≤ n ∧ Below Wb.heap.size Wb w) := by
  rintro Q y w ⟨⟨s7, s11, s13, s21, s22, s23, s24⟩, rfl⟩ hQ
  have HQ := hid hQ
  have HR := hid hr
  have HG := hid hg
  have HB := hid hb
  have hcm := Nat.le_trans hr.le hr.max
  unfold maxLen at hcm
  clear hQ hr hg hb
  conv => arg 2; whnf
  rw [fr236]
  simp only [s7, s11, s13, s21, s22, s23, s24]
  clear s7 s11 s13 s21 s22 s23 s24
  refine wp_block ?_
  refine wp_loop_fr 236 (SetI Wb la n cap gap tot mm l) (fun y' _ => n - (intOf (y' 24)).toNat) ⟨rfl, rfl, 0, 0, 0, _, [], Nat.zero_le _, Nat.le_refl _, ⟨rfl, rfl, rfl, rfl, rfl, rfl, rfl⟩, OwnAt.nil _ _ _, SetP.nil l n, HB.out⟩ ?_
  clear HB
  rintro z W ⟨i, m, s, av, A, hi, hmi, ⟨s7, s11, s13, s21, s22, s23, s24⟩, ho, hA, hb⟩
  have HO := hid ho
  have HA := hid hA
  have HB := hid hb
  clear ho hA hb
  rw [fr236]
  simp only [s7, s11, s13, s21, s22, s23, s24]
  clear s7 s11 s13 s21 s22 s23 s24
  by_cases hlt : i < n
  · have hbit := hid (bit_ok la n cap gap tot mm av s i W hm (by omega))
    have hadd := hid (add_ok la n cap gap tot mm m l av s i A Wb W hn hlt HR.out HG.out HB.out HO.out HA.out hmi)
    have d1 : decide ((i : Int) < (n : Int)) = true := decide_eq_true (by omega)
    have d2 : decide (i < n) = true := decide_eq_true hlt
    go_upto_block 7 with (fail)
    refine wp_block ?_
    refine wp_seq_k (fun K1 hK1 => ?_)
    refine wp_seq ?_
    refine Tri.use hbit.out rfl ⟨⟨rfl, rfl, rfl, rfl, rfl, rfl, rfl⟩, rfl⟩ ?_
    rintro y1 W1 ⟨⟨s7, s11, s13, s21, s22, s23, s24⟩, ⟨b, s180⟩, rfl⟩
    show Code.wp _ _ _ _ _
    rw [fr236]
    simp only [s7, s11, s13, s21, s22, s23, s24, s180]
    clear s7 s11 s13 s21 s22 s23 s24 s180
    cases b with
    | true =>
      go_wp2_with fail
      refine ⟨rfl, rfl, ⟨i + 1, m, s, av, A, by omega, by omega, ⟨rfl, rfl, rfl, rfl, rfl, rfl, ?_⟩, HO.out, HA.out, HB.out⟩, ?_⟩
      · show Value.int .i64 _ = Value.int .i64 _
        go_num
      · show n - (intOf (Value.int .i64 _)).toNat < _
        simp [intOf]
        omega
    | false =>
      go_wp2_with fail
      refine hK1.out _ _ ?_
      refine Tri.use hadd.out rfl ⟨⟨rfl, rfl, rfl, rfl, rfl, rfl, rfl⟩, rfl⟩ ?_
      rintro y2 W2 ⟨av2, s2, A2, ⟨s7, s11, s13, s21, s22, s23, s24⟩, ho2, hA2, hb2⟩
      have HO2 := hid ho2
      have HA2 := hid hA2
      have HB2 := hid hb2
      clear ho2 hA2 hb2
      rw [fr236]
      simp only [s7, s11, s13, s21, s22, s23, s24]
      clear s7 s11 s13 s21 s22 s23 s24
      go_wp2_with fail
      refine ⟨rfl, rfl, ⟨i + 1, m + 1, s2, av2, A2, by omega, by omega, ⟨rfl, rfl, rfl, rfl, rfl, rfl, ?_⟩, HO2.out, HA2.out, HB2.out⟩, ?_⟩
      · show Value.int .i64 _ = Value.int .i64 _
        go_num
      · show n - (intOf (Value.int .i64 _)).toNat < _
        simp [intOf]
        omega
  · obtain rfl : i = n := by omega
    have d1 : decide ((i : Int) < (i : Int)) = false := decide_eq_false (by omega)
    go_wp2_with fail
    exact q_fr (N := 236) HQ.out rfl ⟨m, s, av, A, ⟨rfl, rfl, rfl, rfl, rfl, rfl, rfl⟩, HO.out, HA.out, hmi, HB.out⟩
end Go.Proofs.Ytfbchmihkndfaaa
