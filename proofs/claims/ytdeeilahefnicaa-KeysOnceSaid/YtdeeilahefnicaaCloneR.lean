/- Keys: Clone of a row of one key. -/
import Derived.Test.YtdeeilahefnicaaCloneK
namespace Go.Proofs.Ytdeeilahefnicaa
set_option linter.unusedVariables false
open Go.RowKit

theorem Try.info25 : (Try.prog.info? 25).map (fun i => (i.zero, i.size, i.bytes)) = some (some (.agg #[.int .i64 0, .slice none 0 0, .int .i64 0, .int .i64 0]), 4, 48) := by kernel_rfl
theorem cloneR_nil (w : World) : Calls Try.prog 26 #[.slice none 0 0] w fun e w' => e = .returned (.slice none 0 0) ∧ Below w.heap.size w w' := by
  have hk := fun (w : World) => Lib.run_eql_slice_nil (P := Try.prog) w 31 25 none 0 0 0 0 Try.underlying31
  go_enter Try.func26, Try.ntmps26
  go_wp2
  go_ret
  exact ⟨rfl, Below.refl _ _⟩
theorem cloneR_one (kb kc : Nat) (id top seen : Int) (wa : Option Addr) (wc : Nat) (w : World) (h : KCells w kb id top seen wa wc) :
    Calls Try.prog 26 #[.slice (some ⟨kb, 0, none⟩) 1 kc] w fun e w' => ∃ g c, e = .returned (.slice (some ⟨g, 0, none⟩) 1 c) ∧ w'.ownsRow w.heap.size 25 4 (.slice (some ⟨g, 0, none⟩) 1 c) 1 [.int .i64 id, .slice wa 8 wc, .int .i64 top, .int .i64 seen] ∧ Below w.heap.size w w' := by
  obtain ⟨i0, hi, hz0, hz1, hz2⟩ := info_parts Try.info25
  have hk := fun (w : World) => Lib.run_eql_slice_nil (P := Try.prog) w 31 25 (some ⟨kb, 0, none⟩) 1 kc 0 0 Try.underlying31
  have hn0 : (w.alloc (.cells #[] 25)).ownsRow w.heap.size 25 4 (.slice (some ⟨w.heap.size, 0, none⟩) 0 0) 0 [] := World.ownsRow_lit (base := w.heap.size) (e := 25) (size := 4) w #[] 0 (Nat.le_refl _) (Nat.zero_le _) rfl
  have h2 := h.below (below_alloc w (.cells #[] 25))
  have hcells : ∀ (j : Nat) (u : Value), [Value.int .i64 id, .slice wa 8 wc, .int .i64 top, .int .i64 seen][j]? = some u → (w.alloc (.cells #[] 25)).cell? ((⟨kb, 0, none⟩ : Addr).add j) = some u := by
    intro j u hj
    rw [Addr.add_lit, Nat.zero_add]
    match j, hj with
    | 0, hj => rw [← hj]; exact h2.c0
    | 1, hj => rw [← hj]; exact h2.c1
    | 2, hj => rw [← hj]; exact h2.c2
    | 3, hj => rw [← hj]; exact h2.c3
    | j + 4, hj => simp at hj
  go_enter Try.func26, Try.ntmps26
  go_wp2_with (at_builtin; refine wpList_append_own _ rfl _ _ 31 rfl w.heap.size 25 i0 _ 4 48 Try.underlying31 hi hz0 hz1 hz2 rfl (by decide) _ 0 [] rfl hn0 ⟨kb, 0, none⟩ 1 kc [.int .i64 id, .slice wa 8 wc, .int .i64 top, .int .i64 seen] rfl ?c1 hcells (by simp [Value.oneCell']) ?c2 ?c3 ?c4 ?_)
  case c1 => rfl
  case c2 => unfold maxLen; omega
  case c3 => omega
  case c4 => simp
  intro v' w1 hown' hg hnil
  obtain ⟨ao, c, rfl, hc1, hc2, hc3⟩ := own_form hown'
  rcases hc3 with ⟨rfl, h0, h1⟩ | ⟨g, rfl, hg1, hg2⟩
  · exfalso
    simp_all
  go_wp2
  go_ret
  exact ⟨g, c, rfl, hown', ((Below.refl _ w).alloc (Nat.le_refl _) _).grown hg (by simp) (fun k e => by cases e; exact Nat.le_refl _)⟩
end Go.Proofs.Ytdeeilahefnicaa
