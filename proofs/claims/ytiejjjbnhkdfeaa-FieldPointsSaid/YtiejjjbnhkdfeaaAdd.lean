/- The walk of add: a polynomial in an own row, and what is added to it. -/
import Derived.Test.YtiejjjbnhkdfeaaWalkA
import Derived.Test.YtiejjjbnhkdfeaaPoly
import Derived.Test.YtiejjjbnhkdfeaaSl
import Derived.StillTailTactics
namespace Go.Proofs.Ytiejjjbnhkdfeaa
set_option linter.unusedVariables false
open Go.RowKit

theorem mul_st (a b : Nat) (w : World) (ha : a < 256) (hb : b < 256) :
    Calls Try.prog 7 #[.int .u8 a, .int .u8 b] w fun e w' => e = .returned (.int .u8 ((Gf.mul a b : Nat) : Int)) ∧ w' = w :=
  (mul_walk a b w ha hb).mono fun _ _ h => ⟨h.1, h.2.symm⟩

set_option maxRecDepth 100000 in
theorem add_walk (base g n cap : Nat) (ps qs : List Nat) (qa : Option Addr) (qn qcap c at_ : Nat) (w : World)
    (hown : w.ownsRow base 5 1 (.slice (some ⟨g, 0, none⟩) n cap) n (vb ps)) (hp : AllB ps) (hq : Rd w qa qn qcap (vb qs)) (hqb : AllB qs) (hne : ∀ b off, 0 < qn → qa = some ⟨b, off, none⟩ → b ≠ g) (hc : c < 256) (hfit : at_ + qn ≤ n) (hn : n ≤ 140737488355328) :
    Calls Try.prog 17 #[.slice (some ⟨g, 0, none⟩) n cap, .slice qa qn qcap, .int .u8 c, .int .i64 at_] w fun e w' =>
      e = .returned (.tuple #[]) ∧ w'.ownsRow base 5 1 (.slice (some ⟨g, 0, none⟩) n cap) n (vb (addTo ps qs c at_ qn)) ∧ w.grownBy w' (some g) := by
  go_enter Try.func17, Try.ntmps17
  go_wp2
  go_loopw [12] (fun i wr => ∃ k : Nat, k ≤ qn ∧ i = .int .i64 k ∧ wr.ownsRow base 5 1 (.slice (some ⟨g, 0, none⟩) n cap) n (vb (addTo ps qs c at_ k)) ∧ w.grownBy wr (some g)) (fun i _ => qn - (intOf i).toNat)
  case atStart => exact ⟨0, by omega, rfl, hown, World.grownBy.refl _ _⟩
  case round =>
    obtain ⟨k, hk, rfl, ho, hg⟩ := hrel
    by_cases hlt : k < qn
    · obtain ⟨b, off, rfl, hbl, hcell⟩ := (hq.grown hg (fun b off h0 hh e => by cases e; exact hne _ _ h0 hh rfl)).cell k hlt
      have hb256 := nth_lt hqb k
      have hall := addTo_all (qs := qs) (c := c) (at_ := at_) hp hc k
      have hlen := addTo_len ps qs c at_ k
      have hpl : ps.length = n := by have := hown.1; rw [vb_len] at this; omega
      have hpc : wr.cell? ⟨g, at_ + k, none⟩ = some (.int .u8 (nth (addTo ps qs c at_ k) (at_ + k))) := by
        rw [ho.cellAt (at_ + k) (by omega), vb_get _ _ (by omega)]
      have hpf : wr.frozen? ⟨g, at_ + k, none⟩ = false := ho.frozenAt _
      have hp256 := nth_lt hall (at_ + k)
      generalize hx : nth (addTo ps qs c at_ k) (at_ + k) = x at *
      generalize hy : nth qs k = y at *
      have Hx := hid hx
      have Hy := hid hy
      clear hx hy
      go_wp2
      have s1 : IntKind.i64.wrap ((at_ : Int) + (k : Int)) = (at_ : Int) + (k : Int) := IntWalk.i64_in _ (by omega)
      have s2 : (0 : Int) ≤ (at_ : Int) + (k : Int) := by omega
      have s3 : (at_ : Int) + (k : Int) < (n : Int) := by omega
      have s4 : ((at_ : Int) + (k : Int)).toNat = at_ + k := by omega
      have hm := Gf.mul_lt c y hc
      have s5 := u8_xor_nat x (Gf.mul c y) (by omega) (by omega)
      refine wp_region_still_tail 11 (by kernel_rfl) (by kernel_rfl) ?_
      simp only [List.take_succ_cons, List.take_zero, List.drop_succ_cons, List.drop_zero]
      repeat still_step
      still_call (mul_st c y _ (by omega) (by omega))
      repeat still_step
      refine wpStill_nil ?_
      change wpList _ _ _ _ _ wr.drew
      clear s1 s2 s3 s4
      go_wp2
      go_roundw
      case rel =>
        have h := (ho.drew.stored (at_ + k) (.int .u8 ((x ^^^ Gf.mul c y : Nat) : Int)))
        rw [vb_set, ← Hx.out, ← Hy.out] at h
        rw [← Hx.out, ← Hy.out]
        exact ⟨k + 1, by omega, by go_num, h.1, grownBy_trans (grownBy_trans hg (grownBy_drew _ _)) h.2⟩
      case measure => simp [intOf]; omega
    · obtain rfl : k = qn := by omega
      go_wp2
      go_end0
      exact ⟨rfl, ho, hg⟩
end Go.Proofs.Ytiejjjbnhkdfeaa
