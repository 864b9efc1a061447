/- Concat of two rows of bytes. -/
import Derived.Test.YtbclokglkcbmkaaCat
namespace Go.Proofs.Ytbclokglkcbmkaa
set_option linter.unusedVariables false
open Go.RowKit

theorem cat_two (aa ba : Option Addr) (an ac bn bc : Nat) (xs ys : List Nat) (G : Nat) (w : World)
    (ha : Rd w aa an ac (vb xs)) (hb : Rd w ba bn bc (vb ys))
    (hG : ∀ j u, [Value.slice aa an ac, .slice ba bn bc][j]? = some u → w.cell? ((⟨G, 0, none⟩ : Addr).add j) = some u)
    (hGl : G < w.heap.size) (hn : an + bn ≤ 140737488355328) :
    Calls Try.prog 12 #[.slice (some ⟨G, 0, none⟩) 2 2] w fun e w' => ∃ ao c, e = .returned (.slice ao (an + bn) c) ∧ w'.ownsRow w.heap.size 5 1 (.slice ao (an + bn) c) (an + bn) (vb (xs ++ ys)) ∧ Below w.heap.size w w' := by
  have g0 : w.cell? ⟨G, 0, none⟩ = some (.slice aa an ac) := by simpa [Addr.add] using hG 0 _ rfl
  have g1 : w.cell? ⟨G, 1, none⟩ = some (.slice ba bn bc) := by simpa [Addr.add] using hG 1 _ rfl
  clear hG
  go_enter Try.func12, Try.ntmps12
  go_wp2_with fail
  refine wp_loop_rounds 3 ?_
  rw [rounds_succ]
  go_wp2_with fail
  rw [rounds_succ]
  go_wp2_with fail
  rw [rounds_succ]
  go_wp2_with fail
  refine (grow_any _ (an + bn) _ (by push_cast; rfl) hn).mono ?_
  rintro e W0 ⟨v, rfl, o0, B0⟩
  obtain ⟨v0a, v0c, rfl, _, _⟩ := own_slice o0
  obtain ⟨i0, hi, hz0, hz1, hz2⟩ := info_parts Try.info5
  have c0 := (B0.cell (p := ⟨G, 0, none⟩) hGl).trans g0
  have c1 := (B0.cell (p := ⟨G, 1, none⟩) hGl).trans g1
  have o0' : W0.ownsRow w.heap.size 5 1 (.slice v0a 0 v0c) 0 (vb []) := o0
  clear o0
  have o0 := o0'
  clear o0'
  go_wp2_with fail
  refine wp_loop_rounds 3 ?_
  rw [rounds_succ]
  go_wp2_with (at_builtin; refine hold ?_)
  unfold Hid
  refine wpList_append_rd rfl _ _ 23 rfl w.heap.size 5 i0 (.int .u8 0) 1 Try.underlying23 hi hz0 hz1 hz2 rfl v0a 0 v0c _ rfl o0 aa an ac _ rfl (ha.below B0) (vb_oneCell _) (by omega) (by unfold maxLen; omega) B0.size ?_
  intro v1a v1c W1 o1 gr B
  rw [← vb_append] at o1
  simp only [Nat.zero_add, List.nil_append] at o1
  have B1 := B0.trans B
  clear gr B o0 c0 c1
  have c0 := (B1.cell (p := ⟨G, 0, none⟩) hGl).trans g0
  have c1 := (B1.cell (p := ⟨G, 1, none⟩) hGl).trans g1
  clear B0
  go_wp2_with fail
  rw [rounds_succ]
  go_wp2_with (at_builtin; refine hold ?_)
  unfold Hid
  refine wpList_append_rd rfl _ _ 23 rfl w.heap.size 5 i0 (.int .u8 0) 1 Try.underlying23 hi hz0 hz1 hz2 rfl v1a an v1c _ rfl o1 ba bn bc _ rfl (hb.below B1) (vb_oneCell _) (by omega) (by unfold maxLen; omega) B1.size ?_
  intro v2a v2c W2 o2 gr B
  rw [← vb_append] at o2
  have B2 := B1.trans B
  clear gr B o1 c0 c1
  have c0 := (B2.cell (p := ⟨G, 0, none⟩) hGl).trans g0
  have c1 := (B2.cell (p := ⟨G, 1, none⟩) hGl).trans g1
  clear B1
  go_wp2_with fail
  rw [rounds_succ]
  go_wp2_with fail
  go_ret
  exact ⟨_, _, rfl, o2, B2⟩
end Go.Proofs.Ytbclokglkcbmkaa
