/- times: a polynomial by 1 + k x. -/
import Derived.Test.YtendgihkjibbaaaCatS
import Derived.Test.YtendgihkjibbaaaMulS
import Derived.Test.YtendgihkjibbaaaPoly
import Derived.StillTailTactics
namespace Go.Proofs.Ytendgihkjibbaaa
set_option linter.unusedVariables false
open Go.RowKit

theorem mul_ts (a b : Nat) (w : World) (ha : a < 256) (hb : b < 256) :
    Calls Try.prog 22 #[.int .u8 a, .int .u8 b] w fun e w' => e = .returned (.int .u8 ((Gf.mul b a : Nat) : Int)) ∧ w' = w := by
  rw [Gf.mul_comm b a hb ha]; exact mul_st a b w ha hb

/-- what times answers -/
def tms (p : List Nat) (k : Nat) : List Nat := addTo (p ++ [0]) p k 1 p.length
theorem tms_len (p : List Nat) (k : Nat) : (tms p k).length = p.length + 1 := by simp [tms, addTo_len]
theorem allb_snoc {p : List Nat} (h : AllB p) {x : Nat} (hx : x < 256) : AllB (p ++ [x]) := fun y hy => by
  rcases List.mem_append.1 hy with h1 | h1
  · exact h y h1
  · simp at h1; omega
theorem tms_all {p : List Nat} {k : Nat} (hp : AllB p) (hk : k < 256) : AllB (tms p k) := addTo_all (allb_snoc hp (by decide)) hk _

/-- a byte that was laid -/
theorem rd_lit (W : World) (x : Nat) : Rd (W.alloc (.cells #[.int .u8 (x : Int)] 5)) (some ⟨W.heap.size, 0, none⟩) 1 1 (vb [x]) := by
  have h := World.ownsRow_lit (base := W.heap.size) (e := 5) (size := 1) W #[.int .u8 (x : Int)] 1 (Nat.le_refl _) (by decide) rfl
  exact Rd.ofOwn h
theorem some_own {w : World} {base : Nat} {ao : Option Addr} {n c : Nat} {xs : List Value} (h : w.ownsRow base 5 1 (.slice ao n c) n xs) (hn : 0 < n) : ∃ g, ao = some ⟨g, 0, none⟩ ∧ base ≤ g ∧ g < w.heap.size := by
  obtain ⟨ao', cap, hv, _, _, hh⟩ := own_form h
  cases hv
  rcases hh with ⟨_, h0, _⟩ | ⟨g, h1, h2, h3⟩
  · omega
  · exact ⟨g, h1, h2, h3⟩

set_option maxRecDepth 100000 in
theorem times_ok (pa : Option Addr) (pn pc : Nat) (ps : List Nat) (k : Nat) (w : World) (hp : Rd w pa pn pc (vb ps)) (hpb : AllB ps) (hk : k < 256) (hpn : pn ≤ 100000) :
    Calls Try.prog 24 #[.slice pa pn pc, .int .u8 (k : Int)] w fun e w' => ∃ g c, e = .returned (.slice (some ⟨g, 0, none⟩) (pn + 1) c) ∧
      w'.ownsRow w.heap.size 5 1 (.slice (some ⟨g, 0, none⟩) (pn + 1) c) (pn + 1) (vb (tms ps k)) ∧ Below w.heap.size w w' := by
  have hpl : ps.length = pn := by have := hp.len; rwa [vb_len] at this
  have Hpl := hid hpl
  clear hpl
  obtain ⟨i0, hi, hz0, hz1, hz2⟩ := info_parts Try.info5
  go_enter Try.func24, Try.ntmps24
  go_wp2_with fail
  refine (clone_any pa pn pc ps w hp (by omega)).mono ?_
  rintro e W1 ⟨qa, qc, rfl, o1, B1⟩
  go_wp2_with (at_builtin; refine hold ?_)
  unfold Hid
  refine wpList_append_rd rfl _ _ 22 rfl w.heap.size 5 i0 (.int .u8 0) 1 Try.underlying22 hi hz0 hz1 hz2 rfl qa pn qc _ rfl (ownsRow_below o1 (below_alloc _ _)) (some ⟨W1.heap.size, 0, none⟩) 1 1 (vb [0]) rfl ?c1 (vb_oneCell _) (by omega) (by unfold maxLen; omega) (by have := B1.size; simp; omega) ?_
  case c1 => exact rd_lit W1 0
  intro ga c W2 o2 gr B
  obtain ⟨g, rfl, hg1, hg2⟩ := some_own o2 (by omega)
  rw [← vb_append] at o2
  have B2 := (B1.alloc B1.size _).trans B
  clear gr B o1
  have hp2 := hp.below B2
  have hne : ∀ b off, 0 < pn → pa = some ⟨b, off, none⟩ → b ≠ g := fun b off h0 h => by have := hp.block_lt h0 h; omega
  clear B1
  go_wp2
  go_loopw [14] (fun i wr => ∃ m : Nat, m ≤ pn ∧ i = .int .i64 m ∧ wr.ownsRow w.heap.size 5 1 (.slice (some ⟨g, 0, none⟩) (pn + 1) c) (pn + 1) (vb (addTo (ps ++ [0]) ps k 1 m)) ∧ W2.grownBy wr (some g)) (fun i _ => pn - (intOf i).toNat)
  case atStart => exact ⟨0, by omega, rfl, o2, World.grownBy.refl _ _⟩
  case round =>
    obtain ⟨m, hm, rfl, ho, hg⟩ := hrel
    by_cases hlt : m < pn
    · obtain ⟨b, off, rfl, hbl, hcell⟩ := (hp2.grown hg (fun b off h0 hh e => by cases e; exact hne _ _ h0 hh rfl)).cell m hlt
      have hb256 := nth_lt hpb m
      have hall := addTo_all (qs := ps) (c := k) (at_ := 1) (allb_snoc hpb (by decide : (0 : Nat) < 256)) hk m
      have hlen := addTo_len (ps ++ [0]) ps k 1 m
      have hpl : (ps ++ [0]).length = pn + 1 := by rw [List.length_append, Hpl.out]; rfl
      have hpc : wr.cell? ⟨g, m + 1, none⟩ = some (.int .u8 (nth (addTo (ps ++ [0]) ps k 1 m) (1 + m))) := by
        rw [Nat.add_comm m 1, ho.cellAt (1 + m) (by omega), vb_get _ _ (by omega)]
      have hpf : wr.frozen? ⟨g, m + 1, none⟩ = false := ho.frozenAt _
      have hp256 := nth_lt hall (1 + m)
      generalize hx : nth (addTo (ps ++ [0]) ps k 1 m) (1 + m) = x at *
      generalize hy : nth ps m = y at *
      have Hx := hid hx
      have Hy := hid hy
      clear hx hy hlen hpl
      go_wp2
      have s1 : IntKind.i64.wrap ((m : Int) + 1) = (m : Int) + 1 := IntWalk.i64_in _ (by omega)
      have s2 : (0 : Int) ≤ (m : Int) + 1 := by omega
      have s3 : (m : Int) + 1 < ((pn + 1 : Nat) : Int) := by omega
      have s4 : ((m : Int) + 1).toNat = m + 1 := by omega
      have hm := Gf.mul_lt k y hk
      have s5 := u8_xor_nat x (Gf.mul k y) (by omega) (by omega)
      refine wp_region_still_tail 10 (by kernel_rfl) (by kernel_rfl) ?_
      simp only [List.take_succ_cons, List.take_zero, List.drop_succ_cons, List.drop_zero]
      repeat still_step
      still_call (mul_ts y k _ (by omega) (by omega))
      repeat still_step
      refine wpStill_nil ?_
      change wpList _ _ _ _ _ wr.drew
      clear s1 s2 s3 s4
      go_wp2
      go_roundw
      case rel =>
        have h := (ho.drew.stored (1 + m) (.int .u8 ((x ^^^ Gf.mul k y : Nat) : Int)))
        rw [vb_set, ← Hx.out, ← Hy.out] at h
        rw [← Hx.out, ← Hy.out, Nat.add_comm m 1]
        exact ⟨m + 1, by omega, by go_num, h.1, grownBy_trans (grownBy_trans hg (grownBy_drew _ _)) h.2⟩
      case measure => simp [intOf]; omega
    · obtain rfl : m = pn := by omega
      go_wp2
      go_ret
      exact ⟨g, c, rfl, by unfold tms; rw [Hpl.out]; exact ho, below_of_grown B2 hg hg1⟩
end Go.Proofs.Ytendgihkjibbaaa
