/- Keys: slices.Equal over bytes. -/
import Derived.Test.YtdeeilahefnicaaFits
namespace Go.Proofs.Ytdeeilahefnicaa
set_option linter.unusedVariables false
open Go.RowKit

theorem take_ext {xs ys : List Nat} (hl : xs.length = ys.length) {k : Nat} (h : ∀ j, j < k → nth xs j = nth ys j) (hk : xs.length ≤ k) : xs = ys :=
  ext_nth hl (fun j hj => h j (by omega))

set_option maxHeartbeats 1000000 in
set_option maxRecDepth 100000 in
theorem equal_ok (a b : Option Addr) (n m c d : Nat) (xs ys : List Nat) (w : World) (hx : Rd w a n c (vb xs)) (hy : Rd w b m d (vb ys)) (hn : n ≤ 4000) :
    Calls Try.prog 18 #[.slice a n c, .slice b m d] w fun e w' => e = .returned (.bool (decide (xs = ys))) ∧ Below w.heap.size w w' := by
  have hxl : xs.length = n := by have := hx.len; rwa [vb_len] at this
  have hyl : ys.length = m := by have := hy.len; rwa [vb_len] at this
  have HX := hid hxl
  have HY := hid hyl
  go_enter Try.func18, Try.ntmps18
  by_cases hnm : n = m
  · subst hnm
    have HL : Hid (xs.length = ys.length) := by show _ = _; omega
    have tt : ((n : Int) != (n : Int)) = false := by simp
    clear hxl hyl
    go_wp2_with fail
    clear tt
    go_loopw [13] (fun v wr => ∃ k : Nat, v = .int .i64 (k : Int) ∧ k ≤ n ∧ (∀ j, j < k → nth xs j = nth ys j) ∧ Below w.heap.size w wr) (fun v _ => n - (intOf v).toNat)
    case atStart => exact ⟨0, rfl, Nat.zero_le _, fun j hj => absurd hj (by omega), Below.refl _ _⟩
    case round =>
      obtain ⟨k, rfl, hk, hE, hB⟩ := hrel
      have HE := hid hE
      clear hE
      by_cases hlt : k < n
      · have t1 : (k : Int) < (n : Int) := by omega
        obtain ⟨xb, xo, rfl, hxb, hxc⟩ := hx.cell k hlt
        obtain ⟨yb, yo, rfl, hyb, hyc⟩ := hy.cell k hlt
        have hxc := (hB.cell (p := ⟨xb, xo + k, none⟩) hxb).trans hxc
        have hyc := (hB.cell (p := ⟨yb, yo + k, none⟩) hyb).trans hyc
        obtain ⟨Wd, hWd⟩ : ∃ Wd : World, Wd = { wr with drawn := wr.drawn + 1 } := ⟨_, rfl⟩
        have eW : wr.drew = Wd := hWd.symm
        replace hxc : wr.drew.cell? ⟨xb, xo + k, none⟩ = _ := hxc
        replace hyc : wr.drew.cell? ⟨yb, yo + k, none⟩ = _ := hyc
        have hBd := hB.drew
        rw [eW] at hxc hyc hBd
        clear eW hB
        obtain ⟨x, hx1⟩ : ∃ x, x = nth xs k := ⟨_, rfl⟩
        obtain ⟨y, hy1⟩ : ∃ y, y = nth ys k := ⟨_, rfl⟩
        rw [← hx1] at hxc
        rw [← hy1] at hyc
        have HX1 := hid hx1
        have HY1 := hid hy1
        clear hx1 hy1
        go_wp2_with fail
        refine wp_region_still_lit (by kernel_rfl) (by kernel_rfl) ?_
        rw [← hWd]
        clear hWd
        repeat still_step
        refine wpStill_nil ?_
        by_cases hxy : x = y
        · have t2 : ((x : Int) != (y : Int)) = false := by rw [hxy]; simp
          have hE2 : ∀ j, j < k + 1 → nth xs j = nth ys j := fun j hj => by
            by_cases e : j = k
            · subst e; rw [← HX1.out, ← HY1.out, hxy]
            · exact HE.out j (by omega)
          have HE2 := hid hE2
          clear hE2 hxy
          go_wp2_with fail
          go_roundw
          case rel => exact ⟨k + 1, by go_num, by omega, HE2.out, hBd⟩
          case measure => simp [intOf]; omega
        · have t2 : ((x : Int) != (y : Int)) = true := by simp; omega
          have hne : ¬ xs = ys := fun e => hxy (by rw [HX1.out, HY1.out, e])
          have Hne := hid hne
          clear hne hxy
          go_wp2_with fail
          go_ret
          exact ⟨by rw [decide_eq_false Hne.out]; rfl, hBd⟩
      · obtain rfl : n = k := by omega
        have t1 : ¬ (n : Int) < (n : Int) := by omega
        have heq : xs = ys := take_ext HL.out HE.out (by rw [HX.out]; exact Nat.le_refl _)
        have Heq := hid heq
        clear heq hlt
        go_wp2_with fail
        go_ret
        exact ⟨by rw [decide_eq_true Heq.out]; rfl, hB⟩
  · have tt : ((n : Int) != (m : Int)) = true := by simp; omega
    have hne : ¬ xs = ys := fun e => hnm (by rw [← hxl, ← hyl, e])
    have Hne := hid hne
    clear hne hnm hxl hyl
    go_wp2_with fail
    go_ret
    exact ⟨by rw [decide_eq_false Hne.out]; rfl, Below.refl _ _⟩
end Go.Proofs.Ytdeeilahefnicaa
