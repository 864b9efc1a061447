/- The walk of Vote. -/
import Derived.Test.YtgacnbildligjaaProg
import Derived.Test.YtgacnbildligjaaSl
import Derived.Test.YtgacnbildligjaaBits
import Derived.StillTailTactics
namespace Go.Proofs.Ytgacnbildligjaa
set_option linter.unusedVariables false
open Go.RowKit

theorem Try.info5 : (Try.prog.info? 5).map (fun i => (i.zero, i.size, i.bytes)) = some (some (.int .u8 0), 1, 1) := by kernel_rfl
theorem Try.info3 : (Try.prog.info? 3).map (fun i => (i.zero, i.size, i.bytes)) = some (some (.int .i64 0), 1, 8) := by kernel_rfl

theorem run_mk (m : Nat) (hm : m ≤ 140737488355328) (u : World) : (Instr.makeSlice 22 (.int .i64 (m : Int)) (.int .i64 (m : Int))).run Try.prog u =
    .ok (.slice (some ⟨u.heap.size, 0, none⟩) m m) (u.alloc (.cells (madeCells #[.int .u8 0] m) 5)) := by
  obtain ⟨i0, hi, hz0, hz1, hz2⟩ := info_parts Try.info5
  have h := run_make (P := Try.prog) u 22 5 i0 (.int .u8 0) Try.underlying22 hi hz0 .i64 .i64 (m : Int) (m : Int) (by omega) (Int.le_refl _) (by rw [hz2]; omega) (by omega)
  simpa [hz1, Value.cells] using h
theorem made_own (m : Nat) (hm : m ≤ 140737488355328) (u : World) : (u.alloc (.cells (madeCells #[.int .u8 0] m) 5)).ownsRow u.heap.size 5 1 (.slice (some ⟨u.heap.size, 0, none⟩) m m) m (vb (List.replicate m 0)) := by
  have h := World.ownsRow_lit (base := u.heap.size) (e := 5) (size := 1) u (madeCells #[.int .u8 0] m) m (Nat.le_refl _) (by unfold maxLen; omega) (by rw [size_madeCells, Nat.mul_one])
  rw [toList_madeCells_one] at h
  simpa [vb] using h

/-- what two of three say, bit by bit -/
def maj (x y z : Nat) : Nat := (x &&& y) ||| ((x ||| y) &&& z)
def unlike (x y z : Nat) : Bool := !(x == y) || !(y == z)
def voteTo (a b c : List Nat) : Nat → List Nat
  | 0 => List.replicate a.length 0
  | k + 1 => (voteTo a b c k).set k (maj (nth a k) (nth b k) (nth c k))
def voteAt (a b c : List Nat) : Nat → List Nat
  | 0 => []
  | k + 1 => if unlike (nth a k) (nth b k) (nth c k) then voteAt a b c k ++ [k] else voteAt a b c k
theorem voteTo_len (a b c : List Nat) (k : Nat) : (voteTo a b c k).length = a.length := by
  induction k with
  | zero => simp [voteTo]
  | succ k ih => simp [voteTo, ih]
theorem voteAt_le (a b c : List Nat) (k : Nat) : (voteAt a b c k).length ≤ (voteAt a b c (k + 1)).length := by
  show _ ≤ (if unlike (nth a k) (nth b k) (nth c k) then voteAt a b c k ++ [k] else voteAt a b c k).length
  split <;> simp
theorem voteAt_mono (a b c : List Nat) {k n : Nat} (h : k ≤ n) : (voteAt a b c k).length ≤ (voteAt a b c n).length := by
  induction n with
  | zero => have : k = 0 := by omega
            subst this; exact Nat.le_refl _
  | succ n ih =>
    by_cases hk : k = n + 1
    · subst hk; exact Nat.le_refl _
    · exact Nat.le_trans (ih (by omega)) (voteAt_le a b c n)
theorem maj_lt {x y z : Nat} (hx : x < 256) (hy : y < 256) (hz : z < 256) : maj x y z < 256 := by
  unfold maj
  exact Nat.or_lt_two_pow (n := 8) (Nat.and_lt_two_pow _ hy) (Nat.and_lt_two_pow _ hz)

set_option maxRecDepth 100000 in
set_option maxHeartbeats 1000000 in
theorem vote_any (aa ba ca : Option Addr) (n ac bc cc : Nat) (xs ys zs : List Nat) (w : World) (ha : Rd w aa n ac (vb xs)) (hab : AllB xs) (hb : Rd w ba n bc (vb ys)) (hbb : AllB ys) (hc : Rd w ca n cc (vb zs)) (hcb : AllB zs)
    (hn : n ≤ 140737488355328) (hat : (voteAt xs ys zs n).length ≤ 17592186044415) :
    Calls Try.prog 5 #[.slice aa n ac, .slice ba n bc, .slice ca n cc] w fun e w' => ∃ oo oc ta tn tc, e = .returned (.tuple #[.slice oo n oc, .slice ta tn tc, .int .i64 0]) ∧ tn = (voteAt xs ys zs n).length ∧
      w'.ownsRow w.heap.size 5 1 (.slice oo n oc) n (vb (voteTo xs ys zs n)) ∧ w'.ownsRow w.heap.size 3 1 (.slice ta tn tc) tn (vi (voteAt xs ys zs n)) ∧ Below w.heap.size w w' := by
  have hal : xs.length = n := by have := ha.len; rwa [vb_len] at this
  have Hal := hid hal
  clear hal
  have k1 := run_mk n hn
  have own0 := made_own n hn w
  obtain ⟨i0, hi, hz0, hz1, hz2⟩ := info_parts Try.info3
  have hB0 := below_alloc w (.cells (madeCells #[.int .u8 0] n) 5)
  go_enter Try.func5, Try.ntmps5
  go_wp2_with fail
  go_loopw [10, 32] (fun t i wr => ∃ (k : Nat) (ta : Option Addr) (tn tc : Nat), k ≤ n ∧ i = .int .i64 k ∧ t = .slice ta tn tc ∧ Hid (tn = (voteAt xs ys zs k).length) ∧ tn ≤ 17592186044415 ∧
      wr.ownsRow w.heap.size 5 1 (.slice (some ⟨w.heap.size, 0, none⟩) n n) n (vb (voteTo xs ys zs k)) ∧ wr.ownsRow (w.heap.size + 1) 3 1 (.slice ta tn tc) tn (vi (voteAt xs ys zs k)) ∧ Below w.heap.size w wr ∧ w.heap.size + 1 ≤ wr.heap.size) (fun _ i _ => n - (intOf i).toNat)
  case atStart =>
    exact ⟨0, none, 0, 0, by omega, rfl, rfl, rfl, by omega, by unfold voteTo; rw [Hal.out]; exact own0, World.ownsRow_nil _ _ _ _, hB0, by simp⟩
  case round =>
    obtain ⟨k, ta, tn, tc, hk, rfl, rfl, Htn, htn, ho, ht, hbw, hsz⟩ := hrel
    by_cases hlt : k < n
    · obtain ⟨ab, ao, rfl, _, hx⟩ := (ha.below hbw).cell k hlt
      obtain ⟨bb, bo, rfl, _, hy⟩ := (hb.below hbw).cell k hlt
      obtain ⟨cb, co, rfl, _, hz⟩ := (hc.below hbw).cell k hlt
      have hx256 := nth_lt hab k
      have hy256 := nth_lt hbb k
      have hz256 := nth_lt hcb k
      have hoc : wr.drew.cell? ⟨w.heap.size, k, none⟩ = some (.int .u8 (nth (voteTo xs ys zs k) k)) := by
        show wr.cell? _ = _
        rw [ho.cellAt k (by omega), vb_get _ _ (by rw [voteTo_len, Hal.out]; exact hlt)]
      have hof : wr.drew.frozen? ⟨w.heap.size, k, none⟩ = false := ho.frozenAt _
      have hst : voteTo xs ys zs (k + 1) = (voteTo xs ys zs k).set k (maj (nth xs k) (nth ys k) (nth zs k)) := rfl
      have hsa : voteAt xs ys zs (k + 1) = if unlike (nth xs k) (nth ys k) (nth zs k) then voteAt xs ys zs k ++ [k] else voteAt xs ys zs k := rfl
      have hmono : (voteAt xs ys zs (k + 1)).length ≤ 17592186044415 := Nat.le_trans (voteAt_mono xs ys zs hlt) hat
      have Hst := hid hst
      have Hsa := hid hsa
      have Hmono := hid hmono
      clear hst hsa hmono
      generalize nth xs k = x at *
      generalize nth ys k = y at *
      generalize nth zs k = z at *
      have hmaj := maj_lt hx256 hy256 hz256
      have e1 := u8_and_nat x y hx256 hy256
      have e2 := u8_or_nat x y hx256 hy256
      have e3 := u8_and_nat (x ||| y) z (Nat.or_lt_two_pow (n := 8) hx256 hy256) hz256
      have e4 := u8_or_nat (x &&& y) ((x ||| y) &&& z) (Nat.and_lt_two_pow (n := 8) _ hy256) (Nat.and_lt_two_pow (n := 8) _ hz256)
      have hki : (k : Int) < n := by omega
      go_wp2_with fail
      refine wp_region_still_lit (by kernel_rfl) (by kernel_rfl) ?_
      repeat still_step
      refine wpStill_nil ?_
      change Exit.then _ _ Exit.normal _ wr.drew
      have hod : wr.drew.ownsRow w.heap.size 5 1 (.slice (some ⟨w.heap.size, 0, none⟩) n n) n (vb (voteTo xs ys zs k)) := ho.drew
      have htd : wr.drew.ownsRow (w.heap.size + 1) 3 1 (.slice ta tn tc) tn (vi (voteAt xs ys zs k)) := ht.drew
      have hbd0 : Below w.heap.size w wr.drew := hbw.drew
      have hsz0 : w.heap.size + 1 ≤ wr.drew.heap.size := hsz
      generalize wr.drew = wd at *
      clear ho ht hbw hsz
      have htf : ta = none ∨ ∃ g, ta = some ⟨g, 0, none⟩ ∧ w.heap.size + 1 ≤ g ∧ g < wd.heap.size := by
        rcases own_form htd with ⟨ao, cap, hv, _, _, hh⟩
        cases hv
        rcases hh with ⟨h, _, _⟩ | h
        · exact .inl h
        · exact .inr h
      have hs1 := hod.stored k (.int .u8 ((maj x y z : Nat) : Int))
      rw [vb_set, ← Hst.out] at hs1
      obtain ⟨so, sg⟩ := hs1
      have hst2 := htd.kept sg (by
        rcases htf with rfl | ⟨g, rfl, hg, _⟩
        · exact .inl rfl
        · exact .inr (by simp [Value.ownBlock]; omega))
      have hbd := hbd0.setCell (p := ⟨w.heap.size, k, none⟩) (Nat.le_refl _) (.int .u8 ((maj x y z : Nat) : Int))
      have hszd : w.heap.size + 1 ≤ (wd.setCell ⟨w.heap.size, k, none⟩ (.int .u8 ((maj x y z : Nat) : Int))).heap.size := by have := sg.size; omega
      have em : ((x &&& y ||| (x ||| y) &&& z : Nat) : Int) = ((maj x y z : Nat) : Int) := rfl
      by_cases hu : unlike x y z = true
      · have hone := one_new' (w := wd.setCell ⟨w.heap.size, k, none⟩ (.int .u8 ((maj x y z : Nat) : Int))) (H := wd.heap.size) (by simp) (.int .i64 (k : Int)) 3
        have hlen : (voteAt xs ys zs (k + 1)) = voteAt xs ys zs k ++ [k] := by rw [Hsa.out, if_pos hu]
        have htn1 : tn + 1 ≤ 17592186044415 := by have h1 := Hmono.out; rw [hlen, List.length_append] at h1; have h2 := Htn.out; simp at h1; omega
        have Hlen := hid hlen
        clear hlen
        rw [em] at e4
        have hd : (((x : Int) != y) = true ∧ True) ∨ (((x : Int) != y) = false ∧ ((y : Int) != z) = true) := by
          by_cases h : x = y
          · right
            simp [unlike, h] at hu
            exact ⟨by simp [h], by simp; omega⟩
          · left
            exact ⟨by simp; omega, trivial⟩
        have Hhu := hid hu
        clear hu
        rcases hd with ⟨t1, _⟩ | ⟨t1, t2⟩
        all_goals
          go_wp2_with (at_builtin; refine hold ?_)
          unfold Hid
          refine wpList_append_own _ rfl _ _ 29 rfl (w.heap.size + 1) 3 i0 (.int .i64 0) 1 8 Try.underlying29 hi hz0 hz1 hz2 rfl (by decide) (.slice ta tn tc) tn (vi (voteAt xs ys zs k)) rfl (hst2.alloc _) _ 1 1 [.int .i64 (k : Int)] rfl rfl hone (fun u hu => by simp at hu; subst hu; rfl) (by unfold maxLen; omega) (by omega) (by simp at hszd ⊢; omega) ?_
          intro v' w1 hown' hg _
          obtain ⟨ao, c, rfl, _, _, _⟩ := own_form hown'
          have so1 := (so.alloc (.cells #[.int .i64 (k : Int)] 3)).kept hg (by
            rcases htf with rfl | ⟨g, rfl, hg, _⟩
            · exact .inr (by simp [Value.ownBlock])
            · exact .inr (by simp [Value.ownBlock]; omega))
          have hb1 := (hbd.alloc hbd.size (.cells #[.int .i64 (k : Int)] 3)).grown hg (by have := hbd.size; simp at this ⊢; omega) (fun j hj => by have := (htd.lt j hj).1; omega)
          have hs1 := hg.size
          go_wp2
          go_roundw
          case rel =>
            refine ⟨k + 1, ao, tn + 1, c, by omega, by go_num, rfl, ?_, by omega, so1, by rw [Hlen.out, vi_append]; exact hown', hb1, by simp at hs1 hszd; omega⟩
            show tn + 1 = _
            rw [Hlen.out, List.length_append, Htn.out]
            rfl
          case measure => simp [intOf]; omega
      · have hlen : (voteAt xs ys zs (k + 1)) = voteAt xs ys zs k := by rw [Hsa.out, if_neg hu]
        have Hlen := hid hlen
        clear hlen
        have hxy : x = y ∧ y = z := by simpa [unlike] using hu
        have t1 : ((x : Int) != y) = false := by simp; omega
        have t2 : ((y : Int) != z) = false := by simp; omega
        have Hxy := hid hxy
        clear hu hxy
        rw [em] at e4
        go_wp2
        go_roundw
        case rel =>
          exact ⟨k + 1, ta, tn, tc, by omega, by go_num, rfl, by show tn = _; rw [Hlen.out]; exact Htn.out, htn, so, by rw [Hlen.out]; exact hst2, hbd, hszd⟩
        case measure => simp [intOf]; omega
    · obtain rfl : k = n := by omega
      go_wp2
      go_ret3
      exact ⟨_, _, ta, tn, tc, rfl, Htn.out, ho, ownsRow_mono ht (by omega), hbw⟩
end Go.Proofs.Ytgacnbildligjaa
