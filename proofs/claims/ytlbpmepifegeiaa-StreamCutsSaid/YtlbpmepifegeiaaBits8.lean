/- Stream: Bits. -/
import Derived.Test.YtlbpmepifegeiaaScr
import Derived.Laws.MakeOwn
namespace Go.Proofs.Ytlbpmepifegeiaa
set_option linter.unusedVariables false
open Go.RowKit

theorem run_mk0 (m : Nat) (hm : m ≤ 1000000) (u : World) : (Instr.makeSlice 24 (.int .i64 0) (.int .i64 (m : Int))).run Try.prog u =
    .ok (.slice (some ⟨u.heap.size, 0, none⟩) 0 m) (u.alloc (.cells (madeCells #[.int .u8 0] m) 5)) := by
  obtain ⟨i0, hi, hz0, hz1, hz2⟩ := info_parts Try.info5
  have h := run_make (P := Try.prog) u 24 5 i0 (.int .u8 0) Try.underlying24 hi hz0 .i64 .i64 0 (m : Int) (by omega) (by omega) (by rw [hz2]; omega) (by omega)
  simpa [hz1, Value.cells] using h
theorem made_own0 (m : Nat) (hm : m ≤ 1000000) (u : World) : (u.alloc (.cells (madeCells #[.int .u8 0] m) 5)).ownsRow u.heap.size 5 1 (.slice (some ⟨u.heap.size, 0, none⟩) 0 m) 0 [] :=
  World.ownsRow_made u _ m (Nat.le_refl _) (by unfold maxLen; omega) (by rw [size_madeCells, Nat.mul_one])

/-- a byte's bits, the highest first -/
def b8 (x : Nat) : Nat → List Nat
  | 0 => []
  | k + 1 => b8 x k ++ [x / 2 ^ (7 - k) % 2]
theorem b8_len (x k : Nat) : (b8 x k).length = k := by
  induction k with
  | zero => rfl
  | succ k ih => rw [b8, List.length_append, ih]; rfl
def bitsOf (l : List Nat) : List Nat := l.flatMap fun x => b8 x 8
theorem bitsOf_len (l : List Nat) : (bitsOf l).length = 8 * l.length := by
  induction l with
  | nil => rfl
  | cons x l ih => unfold bitsOf at ih ⊢; rw [List.flatMap_cons, List.length_append, ih, b8_len, List.length_cons]; omega
theorem bitsOf_snoc (l : List Nat) (x : Nat) : bitsOf (l ++ [x]) = bitsOf l ++ b8 x 8 := by simp [bitsOf]
def All1 (l : List Nat) : Prop := ∀ x ∈ l, x < 2
theorem b8_1 (x k : Nat) : All1 (b8 x k) := by
  induction k with
  | zero => intro y hy; cases hy
  | succ k ih =>
    intro y hy
    rcases List.mem_append.1 hy with h | h
    · exact ih y h
    · simp at h; omega
theorem bitsOf_1 (l : List Nat) : All1 (bitsOf l) := by
  intro y hy
  obtain ⟨x, _, hx⟩ := List.mem_flatMap.1 hy
  exact b8_1 x 8 y hx
theorem All1.b {l : List Nat} (h : All1 l) : AllB l := fun x hx => Nat.lt_trans (h x hx) (by decide)
theorem All1.append {a b : List Nat} (h : All1 a) (h' : All1 b) : All1 (a ++ b) := fun x hx => (List.mem_append.1 hx).elim (h x) (h' x)
theorem All1.drop {l : List Nat} (h : All1 l) (k : Nat) : All1 (l.drop k) := fun x hx => h x (List.mem_of_mem_drop hx)
theorem All1.take {l : List Nat} (h : All1 l) (k : Nat) : All1 (l.take k) := fun x hx => h x (List.mem_of_mem_take hx)
theorem take_snocN (l : List Nat) (k : Nat) (h : k < l.length) : l.take (k + 1) = l.take k ++ [nth l k] := by
  rw [List.take_succ_eq_append_getElem h, nth_get h]
theorem u8_and1 (a : Nat) (h : a < 256) : bits BinOp.and IntKind.u8 (a : Int) 1 = ((a % 2 : Nat) : Int) := by
  have := u8_and_nat a 1 h (by decide)
  rwa [Nat.and_one_is_mod] at this

set_option maxRecDepth 100000 in
set_option maxHeartbeats 1000000 in
theorem bits_ok (ao : Option Addr) (n cap : Nat) (bs : List Nat) (w : World) (hq : Rd w ao n cap (vb bs)) (hb : AllB bs) (hn : n ≤ 4096) :
    Calls Try.prog 20 #[.slice ao n cap] w fun e w' => ∃ g c, e = .returned (.slice (some ⟨g, 0, none⟩) (8 * n) c) ∧ w'.ownsRow w.heap.size 5 1 (.slice (some ⟨g, 0, none⟩) (8 * n) c) (8 * n) (vb (bitsOf bs)) ∧ Below w.heap.size w w' := by
  obtain ⟨i0, hi0, hz0, hz1, hz2⟩ := info_parts Try.info5
  have hbl : bs.length = n := by have := hq.len; rwa [vb_len] at this
  obtain ⟨m, hm⟩ : ∃ m, m = 8 * n := ⟨_, rfl⟩
  have km := fun u => run_mk0 m (by omega) u
  have e1 : 8 * (n : Int) = (m : Int) := by omega
  have e2 : IntKind.i64.wrap (m : Int) = (m : Int) := IntWalk.i64_in _ (by omega)
  have oR := made_own0 m (by omega) w
  have bR := below_alloc w (.cells (madeCells #[.int .u8 0] m) 5)
  have Hm := hid hm
  clear hm
  go_enter Try.func20, Try.ntmps20
  go_wp2_with fail
  clear e1 e2 km
  have Hbl := hid hbl
  clear hbl
  generalize w.alloc (.cells (madeCells #[.int .u8 0] m) 5) = V at *
  go_loopw [3, 13] (fun v i wr => ∃ (k : Nat) (g c : Nat), i = .int .i64 (k : Int) ∧ k ≤ n ∧ v = .slice (some ⟨g, 0, none⟩) (8 * k) c ∧ wr.ownsRow w.heap.size 5 1 (.slice (some ⟨g, 0, none⟩) (8 * k) c) (8 * k) (vb (bitsOf (bs.take k))) ∧ Below w.heap.size w wr) (fun _ i _ => n - (intOf i).toNat)
  case atStart => exact ⟨0, _, _, rfl, Nat.zero_le _, rfl, oR, bR⟩
  case round =>
    clear oR bR
    obtain ⟨k, g, c, rfl, hk, rfl, oR, bW⟩ := hrel
    by_cases hlt : k < n
    · have t1 : (k : Int) < (n : Int) := by omega
      obtain ⟨b, off, rfl, hbl, hcell⟩ := (hq.below bW).cell k hlt
      have hx := nth_lt hb k
      have HT : Hid (bitsOf (bs.take (k + 1)) = bitsOf (bs.take k) ++ b8 (nth bs k) 8) := by show _ = _; rw [take_snocN _ _ (by rw [Hbl.out]; exact hlt), bitsOf_snoc]
      generalize nth bs k = x at *
      generalize bitsOf (bs.take k) = O at *
      go_wp2_with fail
      go_loopw [3, 6] (fun v i wr => ∃ (j : Nat) (g c : Nat), i = .int .i64 (7 - (j : Int)) ∧ j ≤ 8 ∧ v = .slice (some ⟨g, 0, none⟩) (8 * k + j) c ∧ wr.ownsRow w.heap.size 5 1 (.slice (some ⟨g, 0, none⟩) (8 * k + j) c) (8 * k + j) (vb (O ++ b8 x j)) ∧ Below w.heap.size w wr) (fun _ i _ => (intOf i + 1).toNat)
      case atStart => exact ⟨0, g, c, rfl, by decide, rfl, by rw [show b8 x 0 = [] from rfl, List.append_nil]; exact oR, bW⟩
      case round =>
        clear oR bW hcell
        obtain ⟨j, g, c, rfl, hj, rfl, oR, bW⟩ := hrel
        by_cases hj8 : j < 8
        · have t2 : (0 : Int) ≤ 7 - (j : Int) := by omega
          have e3 : (7 - (j : Int)).toNat = 7 - j := by omega
          obtain ⟨y, hy⟩ : ∃ y, y = x / 2 ^ (7 - j) := ⟨_, rfl⟩
          have hy2 : (x : Int) / 2 ^ (7 - j) = (y : Int) := by rw [hy]; simp
          have hy3 : y < 256 := by rw [hy]; exact Nat.lt_of_le_of_lt (Nat.div_le_self _ _) hx
          have e4 := u8_and1 y hy3
          have HB : Hid (b8 x (j + 1) = b8 x j ++ [y % 2]) := by show _ = _; rw [hy]; rfl
          clear hy
          have hz2 : y % 2 < 2 := Nat.mod_lt _ (by decide)
          generalize y % 2 = z at *
          go_wp2_with (at_builtin; refine hold ?_)
          unfold Hid
          have g7 := below_alloc wr (.cells #[.int .u8 (z : Nat)] 5)
          have o7 := ownsRow_below oR g7
          refine wpList_append_own_at _ rfl _ _ 24 rfl w.heap.size 5 i0 _ 1 1 Try.underlying24 hi0 hz0 hz1 (by assumption) rfl (by decide) (.slice (some ⟨g, 0, none⟩) (8 * k + j) c) (8 * k + j) (vb (O ++ b8 x j)) rfl o7 ⟨wr.heap.size, 0, none⟩ 1 1 (vb [z]) rfl rfl (cell_one_new _ _ _) (vb_oneCell _) (by unfold maxLen; omega) (by omega) (Nat.le_trans bW.size g7.size) ?_
          intro v' W8 oV gV _ _
          obtain ⟨va', vc', rfl, _, _⟩ := own_slice oV
          rw [← vb_append, List.append_assoc, ← HB.out] at oV
          obtain ⟨g8, rfl⟩ := own_addr oV (by omega)
          have bW8 := (bW.trans (g7.mono bW.size)).grown gV (bW.trans (g7.mono bW.size)).size (fun b e => (o7.lt b e).1)
          clear gV o7 g7 bW oR
          go_wp2_with fail
          go_roundw
          case rel => exact ⟨j + 1, g8, vc', by go_num, by omega, rfl, oV, bW8⟩
          case measure => simp [intOf]; omega
        · obtain rfl : j = 8 := by omega
          have t2 : ¬ (0 : Int) ≤ 7 - ((8 : Nat) : Int) := by omega
          go_wp2_with fail
          go_roundw
          case rel => exact ⟨k + 1, g, c, by go_num, by omega, by rw [show 8 * (k + 1) = 8 * k + 8 by omega], by rw [show 8 * (k + 1) = 8 * k + 8 by omega, HT.out]; exact oR, bW⟩
          case measure => simp [intOf]; omega
    · obtain rfl : k = n := by omega
      rw [List.take_of_length_le (by rw [Hbl.out]; exact Nat.le_refl _)] at oR
      go_wp2_with fail
      go_ret
      exact ⟨g, c, rfl, oR, bW⟩
end Go.Proofs.Ytlbpmepifegeiaa
