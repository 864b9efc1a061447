/- Clone of bytes: the walk. -/
import Derived.Test.YtlbpmepifegeiaaProg
import Derived.Test.YtlbpmepifegeiaaAppend
import Derived.WalkSpells
namespace Go.Proofs.Ytlbpmepifegeiaa
set_option linter.unusedVariables false
open Go.RowKit

theorem Try.info5 : (Try.prog.info? 5).map (fun i => (i.zero, i.size, i.bytes)) = some (some (.int .u8 0), 1, 1) := by kernel_rfl
theorem clone_nil (w : World) : Calls Try.prog 17 #[.slice none 0 0] w fun e w' => e = .returned (.slice none 0 0) ∧ Below w.heap.size w w' := by
  have hk := fun (w : World) => Lib.run_eql_slice_nil (P := Try.prog) w 24 5 none 0 0 0 0 Try.underlying24
  go_enter Try.func17, Try.ntmps17
  go_wp2
  go_ret
  exact ⟨rfl, Below.refl _ _⟩

theorem clone_some (a : Addr) (n cap : Nat) (bs : List Nat) (w : World) (hq : Rd w (some a) n cap (vb bs)) (hn : n ≤ 140737488355328) :
    Calls Try.prog 17 #[.slice (some a) n cap] w fun e w' => ∃ g c, e = .returned (.slice (some ⟨g, 0, none⟩) n c) ∧ w'.ownsRow w.heap.size 5 1 (.slice (some ⟨g, 0, none⟩) n c) n (vb bs) ∧ Below w.heap.size w w' := by
  obtain ⟨i0, hi, hz0, hz1, hz2⟩ := info_parts Try.info5
  have hk := fun (w : World) => Lib.run_eql_slice_nil (P := Try.prog) w 24 5 (some a) n cap 0 0 Try.underlying24
  have hn0 : (w.alloc (.cells #[] 5)).ownsRow w.heap.size 5 1 (.slice (some ⟨w.heap.size, 0, none⟩) 0 0) 0 [] := World.ownsRow_lit (base := w.heap.size) (e := 5) (size := 1) w #[] 0 (Nat.le_refl _) (Nat.zero_le _) rfl
  have hlen := hq.len
  have hcells : ∀ j u, (vb bs)[j]? = some u → (w.alloc (.cells #[] 5)).cell? (a.add j) = some u := by
    intro j u hj
    have hjn : j < n := by have := (List.getElem?_eq_some_iff.1 hj).1; omega
    obtain ⟨b, off, ha, hlt, hc⟩ := hq.mem (by omega)
    cases ha
    rw [Addr.add_lit, World.cell?_alloc_past _ _ _ hlt, hc j hjn]
    exact hj
  go_enter Try.func17, Try.ntmps17
  go_wp2_with (at_builtin; refine wpList_append_own _ rfl _ _ 24 rfl w.heap.size 5 i0 (.int .u8 0) 1 1 Try.underlying24 hi hz0 hz1 hz2 rfl (by decide) _ 0 [] rfl hn0 a n cap (vb bs) rfl ?c1 hcells (vb_oneCell bs) ?c2 ?c3 ?c4 ?_)
  case c1 => omega
  case c2 => unfold maxLen; omega
  case c3 => omega
  case c4 => simp
  intro v' w1 hown' hg hnil
  obtain ⟨ao, c, rfl, hc1, hc2, hc3⟩ := own_form hown'
  rcases hc3 with ⟨rfl, h0, h1⟩ | ⟨g, rfl, hg1, hg2⟩
  · exfalso
    simp_all
  go_wp2
  go_ret
  exact ⟨g, c, rfl, hown', ((Below.refl _ w).alloc (Nat.le_refl _) _).grown hg (by simp) (fun k e => by cases e; exact Nat.le_refl _)⟩

/-- Clone of whatever reads: nil of nil, an own row else -/
theorem clone_any (ao : Option Addr) (n cap : Nat) (bs : List Nat) (w : World) (hq : Rd w ao n cap (vb bs)) (hn : n ≤ 140737488355328) :
    Calls Try.prog 17 #[.slice ao n cap] w fun e w' => ∃ ao' c, e = .returned (.slice ao' n c) ∧ w'.ownsRow w.heap.size 5 1 (.slice ao' n c) n (vb bs) ∧ Below w.heap.size w w' := by
  cases ao with
  | none =>
    obtain rfl := hq.isnil rfl
    obtain rfl : n = 0 := by have := hq.le; omega
    have hb : bs = [] := by have := hq.len; rw [vb_len] at this; exact List.eq_nil_of_length_eq_zero this
    subst hb
    exact (clone_nil w).mono fun e w' ⟨he, hb⟩ => ⟨none, 0, he, World.ownsRow_nil _ _ _ _, hb⟩
  | some a => exact (clone_some a n cap bs w hq hn).mono fun e w' ⟨g, c, he, ho, hb⟩ => ⟨_, c, he, ho, hb⟩

end Go.Proofs.Ytlbpmepifegeiaa
