/- Keys: Clone of words. -/
import Derived.Test.YtdeeilahefnicaaFind
import Derived.Lib.SliceRun
namespace Go.Proofs.Ytdeeilahefnicaa
set_option linter.unusedVariables false
open Go.RowKit

theorem Try.info3 : (Try.prog.info? 3).map (fun i => (i.zero, i.size, i.bytes)) = some (some (.int .i64 0), 1, 8) := by kernel_rfl
theorem vz_oneCell (l : List Int) : ∀ u ∈ vz l, u.oneCell' = true := by
  intro u hu
  simp only [vz, List.mem_map] at hu
  obtain ⟨z, _, rfl⟩ := hu
  rfl
theorem clone_words (a : Addr) (cap : Nat) (ws : List Int) (w : World) (hq : Rd w (some a) 8 cap (vz ws)) :
    Calls Try.prog 16 #[.slice (some a) 8 cap] w fun e w' => ∃ g c, e = .returned (.slice (some ⟨g, 0, none⟩) 8 c) ∧ w'.ownsRow w.heap.size 3 1 (.slice (some ⟨g, 0, none⟩) 8 c) 8 (vz ws) ∧ Below w.heap.size w w' := by
  obtain ⟨i0, hi, hz0, hz1, hz2⟩ := info_parts Try.info3
  have hk := fun (w : World) => Lib.run_eql_slice_nil (P := Try.prog) w 23 3 (some a) 8 cap 0 0 Try.underlying23
  have hn0 : (w.alloc (.cells #[] 3)).ownsRow w.heap.size 3 1 (.slice (some ⟨w.heap.size, 0, none⟩) 0 0) 0 [] := World.ownsRow_lit (base := w.heap.size) (e := 3) (size := 1) w #[] 0 (Nat.le_refl _) (Nat.zero_le _) rfl
  have hlen := hq.len
  have hcells : ∀ j u, (vz ws)[j]? = some u → (w.alloc (.cells #[] 3)).cell? (a.add j) = some u := by
    intro j u hj
    have hjn : j < 8 := by have := (List.getElem?_eq_some_iff.1 hj).1; omega
    obtain ⟨b, off, ha, hlt, hc⟩ := hq.mem (by omega)
    cases ha
    rw [Addr.add_lit, World.cell?_alloc_past _ _ _ hlt, hc j hjn]
    exact hj
  go_enter Try.func16, Try.ntmps16
  go_wp2_with (at_builtin; refine wpList_append_own _ rfl _ _ 23 rfl w.heap.size 3 i0 (.int .i64 0) 1 8 Try.underlying23 hi hz0 hz1 hz2 rfl (by decide) _ 0 [] rfl hn0 a 8 cap (vz ws) rfl ?c1 hcells (vz_oneCell ws) ?c2 ?c3 ?c4 ?_)
  case c1 => omega
  case c2 => unfold maxLen; omega
  case c3 => omega
  case c4 => simp
  intro v' w1 hown' hg hnil
  obtain ⟨ao, c, rfl, hc1, hc2, hc3⟩ := own_form hown'
  rcases hc3 with ⟨rfl, h0, h1⟩ | ⟨g, rfl, hg1, hg2⟩
  · exfalso
    simp_all
  go_wp2
  go_ret
  exact ⟨g, c, rfl, hown', ((Below.refl _ w).alloc (Nat.le_refl _) _).grown hg (by simp) (fun k e => by cases e; exact Nat.le_refl _)⟩
end Go.Proofs.Ytdeeilahefnicaa
