/- Stream: mark, Frame. -/
import Derived.Test.YtlbpmepifegeiaaBits8
namespace Go.Proofs.Ytlbpmepifegeiaa
set_option linter.unusedVariables false
open Go.RowKit

def markB : List Nat := bitsOf [26, 207, 252, 29]
theorem markB_len : markB.length = 32 := by unfold markB; rw [bitsOf_len]; rfl
theorem mark_ok (w : World) : Calls Try.prog 19 #[] w fun e w' => ∃ g c, e = .returned (.slice (some ⟨g, 0, none⟩) 32 c) ∧ w'.ownsRow w.heap.size 5 1 (.slice (some ⟨g, 0, none⟩) 32 c) 32 (vb markB) ∧ Below w.heap.size w w' := by
  have b1 := below_alloc w (.cells #[.int .u8 26, .int .u8 207, .int .u8 252, .int .u8 29] 5)
  have oR := World.ownsRow_lit (base := w.heap.size) (e := 5) (size := 1) w #[.int .u8 26, .int .u8 207, .int .u8 252, .int .u8 29] 4 (Nat.le_refl _) (by unfold maxLen; omega) rfl
  have oR : (w.alloc (.cells #[.int .u8 26, .int .u8 207, .int .u8 252, .int .u8 29] 5)).ownsRow w.heap.size 5 1 (.slice (some ⟨w.heap.size, 0, none⟩) 4 4) 4 (vb [26, 207, 252, 29]) := oR
  go_enter Try.func19, Try.ntmps19
  go_wp2_with fail
  refine (bits_ok (some ⟨w.heap.size, 0, none⟩) 4 4 [26, 207, 252, 29] _ (Rd.ofOwn oR) (fun x hx => by simp at hx; omega) (by decide)).mono ?_
  rintro e V ⟨g, c, rfl, oB, bV⟩
  have hB := b1.trans (bV.mono b1.size)
  have oB := ownsRow_mono oB b1.size
  clear b1 oR bV
  go_wp2_with fail
  go_ret
  exact ⟨g, c, rfl, oB, hB⟩

/-- a frame's bits -/
def frB (ds : List Nat) : List Nat := markB ++ bitsOf (Scr ds)
theorem frB_len (ds : List Nat) : (frB ds).length = 32 + 8 * ds.length := by unfold frB; rw [List.length_append, markB_len, bitsOf_len, Scr_len]
theorem frB_1 (ds : List Nat) : All1 (frB ds) := (bitsOf_1 _).append (bitsOf_1 _)
theorem frame_ok (ao : Option Addr) (n cap : Nat) (ds : List Nat) (w : World) (hq : Rd w ao n cap (vb ds)) (hb : AllB ds) (hn : 1 ≤ n ∧ n ≤ 2048) :
    Calls Try.prog 13 #[.slice ao n cap] w fun e w' => ∃ g c, e = .returned (.tuple #[.slice (some ⟨g, 0, none⟩) (32 + 8 * n) c, .int .i64 0]) ∧ w'.ownsRow w.heap.size 5 1 (.slice (some ⟨g, 0, none⟩) (32 + 8 * n) c) (32 + 8 * n) (vb (frB ds)) ∧ Below w.heap.size w w' := by
  obtain ⟨i0, hi0, hz0, hz1, hz2⟩ := info_parts Try.info5
  have t1 : ((n : Int) == 0) = false := by simp; omega
  have t2 : decide ((2048 : Int) < (n : Int)) = false := by simp; omega
  go_enter Try.func13, Try.ntmps13
  go_wp2_with fail
  refine (mark_ok w).mono ?_
  rintro e V ⟨mg, mc, rfl, oM, bV⟩
  clear t1 t2
  go_wp2_with fail
  refine (scr_ok ao n cap ds V (hq.below bV) hb (by omega)).mono ?_
  rintro e V2 ⟨sa, sc, rfl, oS, b2⟩
  have oM := ownsRow_below oM b2
  have hB := bV.trans (b2.mono bV.size)
  clear bV b2
  go_wp2_with fail
  refine (bits_ok sa n sc (Scr ds) V2 (Rd.ofOwn oS) (Scr_b hb) (by omega)).mono ?_
  rintro e V3 ⟨g, c, rfl, oB, b3⟩
  have oM := ownsRow_below oM b3
  have hB := hB.trans (b3.mono hB.size)
  clear b3 oS
  go_wp2_with (at_builtin; refine hold ?_)
  unfold Hid
  refine wpList_append_rd rfl _ _ 24 rfl w.heap.size 5 i0 _ 1 Try.underlying24 hi0 hz0 hz1 hz2 rfl (some ⟨mg, 0, none⟩) 32 mc (vb markB) rfl oM (some ⟨g, 0, none⟩) (8 * n) c (vb (bitsOf (Scr ds))) rfl (Rd.ofOwn oB) (vb_oneCell _) (by omega) (by unfold maxLen; omega) hB.size ?_
  intro ao' cap' w4 oF gF bF
  obtain ⟨fg, rfl⟩ := own_addr oF (by omega)
  rw [← vb_append] at oF
  have hB := hB.trans bF
  clear gF bF oM oB
  go_wp2_with fail
  go_ret2
  exact ⟨fg, cap', rfl, oF, hB⟩
end Go.Proofs.Ytlbpmepifegeiaa
