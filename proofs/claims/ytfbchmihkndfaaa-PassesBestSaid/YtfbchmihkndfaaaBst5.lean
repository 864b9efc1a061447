/- PassesBest: each set of passes: the place of one more, the loop. -/
import Derived.Test.YtfbchmihkndfaaaBst4
namespace Go.Proofs.Ytfbchmihkndfaaa
set_option linter.unusedVariables false
open Go.RowKit

theorem RdPs.gb {W W' : World} {la : Option Addr} {n cap : Nat} {l : List Ps} {B g o c q : Nat} {A : List Nat} (h : RdPs W la n cap l) (ho : OwnAt W B 3 (.slice (some ⟨g, o, none⟩) q c) q (vi A)) (hg : Gb g W W') : RdPs W' la n cap l :=
  h.kept hg fun b cs hr e => by
    rcases ho.ne hr (by decide) with h4 | h4
    · cases h4
    · exact h4 e
def HoleI (W0 : World) (B : Nat) (la : Option Addr) (n cap gap tot mm : Nat) (l : List Ps) (g o c q s i s0 : Nat) (y : Nat → Value) (W : World) : Prop :=
  ∃ (k : Nat) (A : List Nat), SM7 y la n cap gap tot mm (.slice (some ⟨g, o, none⟩) q c) s i ∧ y 25 = .int .i64 (k : Int) ∧ OwnAt W B 3 (.slice (some ⟨g, o, none⟩) q c) q (vi A) ∧ Hole l A k q n s0 ∧ Gb g W0 W
set_option maxRecDepth 1000000 in
set_option maxHeartbeats 1000000 in
theorem hole_ok (B : Nat) (la : Option Addr) (n cap gap tot mm : Nat) (l : List Ps) (g o c q s i k0 s0 : Nat) (A0 : List Nat) (W0 : World) (hn : n ≤ 9) (hi : i < n) (hr : RdPs W0 la n cap l) (hq : q ≤ 9) (ho : OwnAt W0 B 3 (.slice (some ⟨g, o, none⟩) q c) q (vi A0)) (hh : Hole l A0 k0 q n s0) (hg : GoodPs l) :
    Tri Try.prog 236 (pieceOf Try.f4 [1, 1, 1, 1, 1, 1, 1, 1, 1, 1, 1, 0, 1, 0, 0, 1, 0, 0, 1, 1, 0, 1, 0, 0, 1, 0, 0, 1, 1, 1, 1, 0]) (fun y w => SM7 y la n cap gap tot mm (.slice (some ⟨g, o, none⟩) q c) s i ∧ y 25 = .int .i64 (k0 : Int) ∧ w = W0)
      (fun _ _ y w => ∃ (k : Nat) (A : List Nat), SM7 y la n cap gap tot mm (.slice (some ⟨g, o, none⟩) q c) s i ∧ y 25 = .int .i64 (k : Int) ∧ OwnAt w B 3 (.slice (some ⟨g, o, none⟩) q c) q (vi A) ∧ Hole l A k q n s0 ∧ Gb g W0 w) := by
  rintro Q y w ⟨⟨s7, s11, s13, s21, s22, s23, s24⟩, s25, rfl⟩ hQ
  have HQ := hid hQ
  have HO := hid ho
  have HH := hid hh
  have HR := hid hr
  have HG := hid hg
  clear hQ ho hh hr hg
  conv => arg 2; whnf
  rw [fr236]
  simp only [s7, s11, s13, s21, s22, s23, s24, s25]
  clear s7 s11 s13 s21 s22 s23 s24 s25
  refine wp_block ?_
  refine wp_loop_fr 236 (HoleI w B la n cap gap tot mm l g o c q s i s0) (fun y' _ => (intOf (y' 25)).toNat) ⟨rfl, rfl, k0, A0, ⟨rfl, rfl, rfl, rfl, rfl, rfl, rfl⟩, rfl, HO.out, HH.out, Gb.refl _ _⟩ ?_
  rintro z W ⟨k, A, hs, z25, ho1, hh1, hg1⟩
  have hr1 := HR.out.gb HO.out hg1
  have ht := hole_c B la n cap gap tot mm l g o c q s i k s0 A W hn hi hr1 hq ho1 hh1 HG.out
  refine wp_seq (wp_seq (ht _ z W ⟨hs, z25, rfl⟩ ?_))
  rintro y1 W1 ⟨⟨s7, s11, s13, s21, s22, s23, s24⟩, s25, ⟨b, s212, hb⟩, hb1⟩
  show Code.wp _ _ _ _ _
  rw [fr236]
  have ho2 := ho1.below hb1
  have HG2 := hid (grownBy_trans hg1 (Gb.below hb1))
  cases b with
  | true =>
    obtain ⟨j, rfl⟩ : ∃ j, k = j + 1 := ⟨k - 1, by have := hb rfl; omega⟩
    have hkq := hh1.klt
    obtain ⟨hgl, c0, _⟩ := ho2.ati j (by omega)
    obtain ⟨_, c1, f1⟩ := ho2.ati (j + 1) hkq
    obtain ⟨o3, g3⟩ := OwnAt.set ho2 (j + 1) hkq (.int .i64 (nth A j : Nat))
    rw [vi_set] at o3
    have HO3 := hid o3
    have HG3 := hid (grownBy_trans HG2.out g3)
    have HH3 := hid hh1.step
    have Z25 := hid z25
    have hnA : Hid (A.set (j + 1) (nth A j) = A.set (j + 1) (nth A j)) := rfl
    have hnext : Hid (∃ A', OwnAt (W1.setCell ⟨g, o + (j + 1), none⟩ (.int .i64 (nth A j : Nat))) B 3 (.slice (some ⟨g, o, none⟩) q c) q (vi A') ∧ Hole l A' j q n s0) := ⟨_, HO3.out, HH3.out⟩
    have hgq := ho2.form
    obtain ⟨_, _, hfe, hf1, hf2⟩ := hgq
    cases hfe
    unfold maxLen at hf2
    clear HO3 HH3 hnA o3 g3 hb1 ht ho1 hh1 hr1 hg1 hs z25 ho2 HG2 hb
    generalize nth A j = a at *
    generalize nth A (j + 1) = a1 at *
    obtain ⟨k, hk⟩ : ∃ k, k = j + 1 := ⟨_, rfl⟩
    rw [← hk] at s25 c1 f1 hnext HG3 hkq Z25
    have hsub : (k : Int) - 1 = (j : Int) := by omega
    have hwr : IntKind.i64.wrap (j : Int) = (j : Int) := IntWalk.i64_in _ (by omega)
    have hjq : j < q := by omega
    have hjk : j < k := by omega
    clear hk
    simp only [s7, s11, s13, s21, s22, s23, s24, s25, s212]
    clear s7 s11 s13 s21 s22 s23 s24 s25 s212
    go_wp2_with fail
    obtain ⟨A', hA1, hA2⟩ := hnext.out
    refine ⟨rfl, rfl, ⟨j, A', ⟨rfl, rfl, rfl, rfl, rfl, rfl, rfl⟩, rfl, hA1, hA2, HG3.out⟩, ?_⟩
    rw [Z25.out]
    show max (intOf (Value.int .i64 (j : Int))) 0 < intOf (Value.int .i64 (k : Int))
    simp only [intOf]
    omega
  | false =>
    have HO2 := hid ho2
    have HH2 := hid hh1
    simp only [s7, s11, s13, s21, s22, s23, s24, s25, s212]
    clear s7 s11 s13 s21 s22 s23 s24 s25 s212 hb1 ht ho1 hh1 hr1 hg1 hs z25 ho2 hb
    go_wp2_with fail
    exact q_fr (N := 236) HQ.out rfl ⟨k, A, ⟨rfl, rfl, rfl, rfl, rfl, rfl, rfl⟩, rfl, HO2.out, HH2.out, HG2.out⟩
end Go.Proofs.Ytfbchmihkndfaaa
