/- PassesBest: each set of passes: one more, or not. -/
import Derived.Test.YtfbchmihkndfaaaBst5
namespace Go.Proofs.Ytfbchmihkndfaaa
set_option linter.unusedVariables false
open Go.RowKit

set_option maxRecDepth 1000000 in
set_option maxHeartbeats 1000000 in
theorem bit_ok (la : Option Addr) (n cap gap tot mm : Nat) (av : Value) (s i : Nat) (W0 : World) (hm : mm ≤ 1000) (hi : i < 9) :
    Tri Try.prog 236 (pieceOf Try.f4 [1, 1, 1, 1, 1, 1, 1, 1, 1, 1, 1, 0, 1, 0, 0, 1, 0, 0, 1, 1, 0, 1, 0, 0, 1, 0, 0, 0, 0]) (fun y w => SM7 y la n cap gap tot mm av s i ∧ w = W0)
      (fun _ _ y w => SM7 y la n cap gap tot mm av s i ∧ (∃ b, y 180 = .bool b) ∧ w = W0) := by
  rintro Q y w ⟨⟨s7, s11, s13, s21, s22, s23, s24⟩, rfl⟩ hQ
  have HQ := hid hQ
  clear hQ
  conv => arg 2; whnf
  rw [fr236]
  simp only [s7, s11, s13, s21, s22, s23, s24]
  clear s7 s11 s13 s21 s22 s23 s24
  go_wp2_with fail
  exact q_fr (N := 236) HQ.out rfl ⟨⟨rfl, rfl, rfl, rfl, rfl, rfl, rfl⟩, ⟨_, rfl⟩, rfl⟩
/-- a set of passes so far -/
structure SetP (l : List Ps) (n : Nat) (A : List Nat) (m s : Nat) : Prop where
  len : A.length = m
  lt : ∀ z ∈ A, z < n
  sum : sumW l A = s
  le : s ≤ 1000 * m
set_option maxRecDepth 1000000 in
set_option maxHeartbeats 2000000 in
theorem add_ok (la : Option Addr) (n cap gap tot mm m : Nat) (l : List Ps) (av : Value) (s i : Nat) (A : List Nat) (Wb W0 : World) (hn : n ≤ 9) (hi : i < n) (hr : RdPs Wb la n cap l) (hg : GoodPs l) (hb : Below Wb.heap.size Wb W0) (ho : OwnAt W0 Wb.heap.size 3 av m (vi A)) (hA : SetP l n A m s) (hmi : m ≤ i) :
    Tri Try.prog 236 (pieceOf Try.f4 [1, 1, 1, 1, 1, 1, 1, 1, 1, 1, 1, 0, 1, 0, 0, 1, 0, 0, 1, 1, 0, 1, 0, 0, 1, 0, 0, 1]) (fun y w => SM7 y la n cap gap tot mm av s i ∧ w = W0)
      (fun _ _ y w => ∃ av' s' A', SM7 y la n cap gap tot mm av' s' i ∧ OwnAt w Wb.heap.size 3 av' (m + 1) (vi A') ∧ SetP l n A' (m + 1) s' ∧ Below Wb.heap.size Wb w) := by
  rintro Q y w ⟨⟨s7, s11, s13, s21, s22, s23, s24⟩, rfl⟩ hQ
  have HQ := hid hQ
  obtain ⟨oa, oc, rfl, hole, homx⟩ := ho.form
  obtain ⟨i3, hi3, hz3, hs3, hb3⟩ := info_parts Try.info3
  have hwo : wOf l i ≤ 1000 := (hg i (by rw [hr.len]; exact hi)).w
  have hsl := hA.le
  have HR := hid hr
  have HG := hid hg
  have HB := hid hb
  have HA := hid hA
  obtain ⟨lb, hle, hll, _, _, _, a3⟩ := hr.at_ i hi
  subst hle
  have c0 : w.cell? ⟨lb, i * 4 + 3, none⟩ = some (.int .i64 (wOf l i : Nat)) := (hb.cell (p := ⟨lb, i * 4 + 3, none⟩) hll).trans a3
  obtain ⟨wo, hwoe⟩ : ∃ wo, wOf l i = wo := ⟨_, rfl⟩
  rw [hwoe] at c0 hwo
  have Hwo := hid hwoe
  have a1 : (s : Int) + (wo : Int) = ((s + wo : Nat) : Int) := by omega
  have w1 : IntKind.i64.wrap ((s + wo : Nat) : Int) = ((s + wo : Nat) : Int) := IntWalk.i64_in _ (by omega)
  obtain ⟨sp, hsp⟩ : ∃ sp, s + wo = sp := ⟨_, rfl⟩
  rw [hsp] at a1 w1
  have Hsp := hid hsp
  have hbw := hb.size
  have b1 := below_alloc w (.cells #[.int .i64 (i : Int)] 3)
  have r1 := heap_alloc_new w (.cells #[.int .i64 (i : Int)] 3)
  have o1 := ho.below b1
  have hbs := hid b1.size
  have HB2 := hid (hb.trans (b1.mono hbw))
  clear hQ hr hg hb hA a3 ho b1 hwoe hsp
  conv => arg 2; whnf
  rw [fr236]
  simp only [s7, s11, s13, s21, s22, s23, s24]
  clear s7 s11 s13 s21 s22 s23 s24
  refine wp_seq_k (fun K1 hK1 => ?_)
  go_wp2_with fail
  refine hK1.out _ _ ?_
  clear c0 a1 w1
  refine wp_seq_k (fun K2 hK2 => ?_)
  go_wp2_with fail
  refine hK2.out _ _ ?_
  refine wp_seq_k (fun K3 hK3 => ?_)
  go_wp2_with (at_builtin; refine hold ?_)
  unfold Hid
  refine wpList_append_at rfl _ _ 23 rfl Wb.heap.size 3 i3 (.int .i64 0) 8 Try.underlying23 hi3 hz3 hs3 hb3 rfl (.slice oa m oc) m (vi A) rfl o1 ⟨w.heap.size, 0, none⟩ (.int .i64 (i : Int)) rfl (by rw [cell_of_row _ _ _ _ _ _ r1]; rfl) rfl (by unfold maxLen; omega) (by omega) (by have := hbs.out; omega) ?_
  intro v12 W12 o12 g12 fr12
  have hx : vi A ++ [.int .i64 (i : Int)] = vi (A ++ [i]) := by rw [vi_append]; rfl
  rw [hx] at o12
  have HB3 := hid (HB2.out.grown g12 (by have := hbs.out; omega) (fun j hj => (o1.lt j hj).1))
  have O12 := hid o12
  obtain ⟨g, o, c, rfl, hgB, hgl, _⟩ := o12.at_ (by omega)
  have HH : Hid (Hole l (A ++ [i]) m (m + 1) n s) := by
    have := Hole.start (l := l) i HA.out.lt
    rw [HA.out.len, HA.out.sum] at this
    exact this
  have HgB := hid hgB
  clear o12 g12 fr12 hx o1 r1 hgB hgl
  go_wp2_with fail
  refine hK3.out _ _ ?_
  refine wp_seq ?_
  refine Tri.use (hole_ok Wb.heap.size _ n cap gap tot mm l g o c (m + 1) sp i m s (A ++ [i]) W12 hn hi (HR.out.below HB3.out) (by omega) O12.out HH.out HG.out) rfl ⟨⟨rfl, rfl, rfl, rfl, rfl, rfl, rfl⟩, rfl, rfl⟩ ?_
  rintro y5 W5 ⟨k, A5, ⟨s7, s11, s13, s21, s22, s23, s24⟩, s25, ho5, hh5, hg5⟩
  show Code.wp _ _ _ _ _
  have hkq := hh5.klt
  have HB5 := hid (HB3.out.grown hg5 HB3.out.size (fun j hj => by cases hj; exact HgB.out))
  obtain ⟨hgl, c1, f1⟩ := ho5.ati k hkq
  obtain ⟨o6, g6⟩ := OwnAt.set ho5 k hkq (.int .i64 (i : Int))
  rw [vi_set] at o6
  have HO6 := hid o6
  have HB6 := hid (HB5.out.grown g6 HB5.out.size (fun j hj => by cases hj; exact HgB.out))
  have HF := hid (hh5.fill i hi)
  have hgq := ho5.form
  obtain ⟨_, _, hfe, hf1, hf2⟩ := hgq
  cases hfe
  unfold maxLen at hf2
  clear ho5 hh5 hg5 o6 g6
  generalize nth A5 k = ak at *
  rw [fr236]
  simp only [s7, s11, s13, s21, s22, s23, s24, s25]
  clear s7 s11 s13 s21 s22 s23 s24 s25
  have hm1 : m + 1 ≤ 9 := by omega
  obtain ⟨q, hq⟩ : ∃ q, m + 1 = q := ⟨_, rfl⟩
  have Hq := hid hq
  rw [hq] at hkq hf1 hm1 HO6 ⊢
  clear hq
  go_wp2_with fail
  refine q_fr (N := 236) HQ.out rfl ⟨_, sp, _, ⟨rfl, rfl, rfl, rfl, rfl, rfl, rfl⟩, by rw [Hq.out]; exact HO6.out, ⟨HF.out.2.2, HF.out.1, ?_, ?_⟩, HB6.out⟩
  · rw [HF.out.2.1, Hwo.out, Hsp.out]
  · have := Hsp.out; omega
end Go.Proofs.Ytfbchmihkndfaaa
