/- command.Encode: the walk. -/
import Derived.Test.YtkngoomkmbkenaaAccept
import Derived.Test.YtkngoomkmbkenaaSumOf
import Derived.Test.YtkngoomkmbkenaaAppend
import Derived.Maps.AppendAt
namespace Go.Proofs.Ytkngoomkmbkenaa
set_option linter.unusedVariables false
open Go.RowKit

def firstO (cr : Nat) (by_ co : Bool) : Nat := (cr ||| (if by_ then 8192 else 0)) ||| (if co then 4096 else 0)
def headO (cr : Nat) (by_ co : Bool) (sq n : Nat) : List Nat := [firstO cr by_ co / 256, firstO cr by_ co % 256, (n + 6) / 256, (n + 6) % 256, sq]
def bodyO (cr : Nat) (by_ co : Bool) (sq : Nat) (ds : List Nat) : List Nat := headO cr by_ co sq ds.length ++ ds
def encO (cr : Nat) (by_ co : Bool) (sq : Nat) (ds : List Nat) : List Nat := bodyO cr by_ co sq ds ++ [sumN (bodyO cr by_ co sq ds) / 256, sumN (bodyO cr by_ co sq ds) % 256]
theorem firstO_lt (cr : Nat) (by_ co : Bool) (h : cr ≤ 1023) : firstO cr by_ co < 16384 := by
  unfold firstO
  refine Nat.or_lt_two_pow (n := 14) (Nat.or_lt_two_pow (n := 14) (by omega) ?_) ?_
  · split <;> decide
  · split <;> decide
theorem bodyO_all (cr : Nat) (by_ co : Bool) (sq : Nat) (ds : List Nat) (h : cr ≤ 1023) (hs : sq ≤ 255) (hd : AllB ds) (hn : ds.length ≤ 1017) : AllB (bodyO cr by_ co sq ds) := by
  have hf := firstO_lt cr by_ co h
  refine AllB.append ?_ hd
  intro x hx
  simp only [headO, List.mem_cons, List.not_mem_nil, or_false] at hx
  rcases hx with rfl | rfl | rfl | rfl | rfl <;> omega
theorem bodyO_len (cr : Nat) (by_ co : Bool) (sq : Nat) (ds : List Nat) : (bodyO cr by_ co sq ds).length = 5 + ds.length := by simp [bodyO, headO]; omega
theorem Try.info5 : (Try.prog.info? 5).map (fun i => (i.zero, i.size, i.bytes)) = some (some (.int .u8 0), 1, 1) := by kernel_rfl

set_option maxHeartbeats 4000000 in
theorem encode_ok (cr : Nat) (by_ co : Bool) (sq : Nat) (a : Option Addr) (n c : Nat) (ds : List Nat) (w : World) (hr : Rd w a n c (vb ds)) (hd : AllB ds) (h1 : cr ≤ 1023) (h2 : sq ≤ 255) (h3 : co = true → by_ = true) (h4 : 1 ≤ n) (h5 : n ≤ 1017) :
    Calls Try.prog 32 #[.agg (ocells cr by_ co sq a n c)] w fun e w' => ∃ ao cc, e = .returned (.tuple #[.slice ao (n + 7) cc, .int .i64 0]) ∧ w'.ownsRow w.heap.size 5 1 (.slice ao (n + 7) cc) (n + 7) (vb (encO cr by_ co sq ds)) ∧ Below w.heap.size w w' := by
  have hdl : ds.length = n := by have := hr.len; rwa [vb_len] at this
  have Hdl := hid hdl
  clear hdl
  obtain ⟨i0, hi0, hz0, hz1, hz2⟩ := info_parts Try.info5
  have A := heap_alloc_new w (.cells (ocells cr by_ co sq a n c) 33)
  have BA := below_alloc w (.cells (ocells cr by_ co sq a n c) 33)
  unfold ocells at *
  go_enter Try.func32, Try.ntmps32
  generalize hW : w.alloc (.cells #[.int .i64 (cr : Int), .bool by_, .bool co, .int .i64 (sq : Int), .slice a n c] 33) = W at *
  obtain ⟨c0, c1, c2, c3, c4⟩ := oAt_row A
  go_wp2_with fail
  clear hW
  refine (may_ok cr by_ co sq a n c _ (by omega) (by omega) h3 (by omega)).mono ?_
  rintro e W1 ⟨rfl, B1⟩
  have A := row_below A B1
  have B1' := BA.trans (B1.mono BA.size)
  have hr1 := hr.below B1'
  clear c0 c1 c2 c3 c4 B1 BA
  obtain ⟨c0, c1, c2, c3, c4⟩ := oAt_row A
  have hf := firstO_lt cr by_ co h1
  have hfirst : Hid (firstO cr by_ co = (cr ||| (if by_ then 8192 else 0)) ||| (if co then 4096 else 0)) := rfl
  have q1 : bits .or .i64 (cr : Int) 8192 = ((cr ||| 8192 : Nat) : Int) := i64_or_nat cr 8192 (by omega) (by decide)
  have q2 : bits .or .i64 ((cr ||| 8192 : Nat) : Int) 4096 = ((cr ||| 8192 ||| 4096 : Nat) : Int) := i64_or_nat (cr ||| 8192) 4096 (by have := Nat.or_lt_two_pow (n := 14) (x := cr) (y := 8192) (by omega) (by decide); omega) (by decide)
  have hsq : ((sq : Int) % 256) = (sq : Int) := by omega
  cases by_ <;> cases co
  · have hF : Hid (firstO cr false false = cr) := by show (cr ||| 0) ||| 0 = cr; simp
    obtain ⟨b0, hb0⟩ : ∃ b0, b0 = cr / 256 := ⟨_, rfl⟩
    obtain ⟨b1, hb1⟩ : ∃ b1, b1 = cr % 256 := ⟨_, rfl⟩
    obtain ⟨b2, hb2⟩ : ∃ b2, b2 = (n + 6) / 256 := ⟨_, rfl⟩
    obtain ⟨b3, hb3⟩ : ∃ b3, b3 = (n + 6) % 256 := ⟨_, rfl⟩
    have r1 : (cr : Int) / 256 = (b0 : Int) := by omega
    have r1' : b0 < 256 := by omega
    have r2 : (cr : Int) % 256 = (b1 : Int) := by omega
    have r3 : ((n : Int) + 6) / 256 = (b2 : Int) := by omega
    have r3' : b2 < 256 := by omega
    have r4 : ((n : Int) + 6) % 256 = (b3 : Int) := by omega
    have hbody : Hid (vb [b0, b1, b2, b3, sq] ++ vb ds = vb (bodyO cr false false sq ds)) := by
      unfold bodyO headO
      rw [hF.out, Hdl.out, ← hb0, ← hb1, ← hb2, ← hb3, vb_append]; rfl
    clear hb0 hb1 hb2 hb3
    have bA := below_alloc W1 (.cells #[.int .u8 (b0 : Int), .int .u8 (b1 : Int), .int .u8 (b2 : Int), .int .u8 (b3 : Int), .int .u8 (sq : Int)] 5)
    have A := row_below A bA
    have k4 := (oAt_row A).c4
    go_wp2_with (at_builtin; refine hold ?_)
    unfold Hid
    have oA := World.ownsRow_lit (base := W1.heap.size) (e := 5) (size := 1) W1 #[.int .u8 (b0 : Int), .int .u8 (b1 : Int), .int .u8 (b2 : Int), .int .u8 (b3 : Int), .int .u8 (sq : Int)] 5 (Nat.le_refl _) (by unfold maxLen; omega) rfl
    have BA := B1'.trans (bA.mono B1'.size)
    have oA := ownsRow_mono oA B1'.size
    have hr2 := hr1.below bA
    refine wpList_append_rd rfl _ _ 31 rfl w.heap.size 5 i0 (.int .u8 0) 1 Try.underlying31 hi0 hz0 hz1 hz2 rfl _ 5 5 _ rfl oA a n c (vb ds) rfl hr2 (vb_oneCell _) (by omega) (by unfold maxLen; omega) BA.size ?_
    intro xa xc W2 o2 g2 b2'
    rw [show (#[Value.int .u8 (b0 : Int), .int .u8 (b1 : Int), .int .u8 (b2 : Int), .int .u8 (b3 : Int), .int .u8 (sq : Int)] : Array Value).toList ++ vb ds = vb (bodyO cr false false sq ds) from hbody.out] at o2
    have B2 := BA.trans b2'
    clear oA g2 bA A k4 c0 c1 c2 c3 c4 hr2
    have hall := bodyO_all cr false false sq ds h1 h2 hd (by rw [Hdl.out]; exact h5)
    go_wp2_with fail
    refine (sum_ok xa (5 + n) xc _ hall (by omega) W2 (Rd.ofOwn o2)).mono ?_
    rintro e w' ⟨s, rfl, hs, Hs, rfl⟩
    obtain ⟨s0, hs0⟩ : ∃ s0, s0 = s / 256 := ⟨_, rfl⟩
    obtain ⟨s1, hs1⟩ : ∃ s1, s1 = s % 256 := ⟨_, rfl⟩
    have r5 : (s : Int) / 256 = (s0 : Int) := by omega
    have r5' : s0 < 256 := by omega
    have r6 : (s : Int) % 256 = (s1 : Int) := by omega
    have henc : Hid (vb (bodyO cr false false sq ds) ++ vb [s0, s1] = vb (encO cr false false sq ds)) := by
      unfold encO
      rw [← Hs.out, ← hs0, ← hs1, vb_append]
      exact rfl
    clear hs0 hs1
    go_wp2_with (at_builtin; refine hold ?_)
    unfold Hid
    have bA := below_alloc W2 (.cells #[.int .u8 (s0 : Int), .int .u8 (s1 : Int)] 5)
    have oT := World.ownsRow_lit (base := W2.heap.size) (e := 5) (size := 1) W2 #[.int .u8 (s0 : Int), .int .u8 (s1 : Int)] 2 (Nat.le_refl _) (by unfold maxLen; omega) rfl
    have o3 := ownsRow_below o2 bA
    refine wpList_append_rd rfl _ _ 31 rfl w.heap.size 5 i0 (.int .u8 0) 1 Try.underlying31 hi0 hz0 hz1 hz2 rfl xa (5 + n) xc _ rfl o3 _ 2 2 (vb [s0, s1]) rfl (Rd.ofOwn oT) (vb_oneCell _) (by omega) (by unfold maxLen; omega) (by have := B2.size; have := bA.size; omega) ?_
    intro ya yc W3 o4 g4 b4
    rw [henc.out] at o4
    have B3 := (B2.trans (bA.mono B2.size)).trans b4
    go_wp2_with fail
    go_ret2
    rw [show 5 + n + 2 = n + 7 by omega] at o4 ⊢
    exact ⟨ya, yc, rfl, o4, B3⟩
  · exact absurd (h3 rfl) (by simp)
  · have hF : Hid (firstO cr true false = cr ||| 8192) := by show (cr ||| 8192) ||| 0 = _; simp
    have hf : cr ||| 8192 < 16384 := by rw [← hF.out]; exact hf
    generalize cr ||| 8192 = f at *
    obtain ⟨b0, hb0⟩ : ∃ b0, b0 = f / 256 := ⟨_, rfl⟩
    obtain ⟨b1, hb1⟩ : ∃ b1, b1 = f % 256 := ⟨_, rfl⟩
    obtain ⟨b2, hb2⟩ : ∃ b2, b2 = (n + 6) / 256 := ⟨_, rfl⟩
    obtain ⟨b3, hb3⟩ : ∃ b3, b3 = (n + 6) % 256 := ⟨_, rfl⟩
    have r1 : (f : Int) / 256 = (b0 : Int) := by omega
    have r1' : b0 < 256 := by omega
    have r2 : (f : Int) % 256 = (b1 : Int) := by omega
    have r3 : ((n : Int) + 6) / 256 = (b2 : Int) := by omega
    have r3' : b2 < 256 := by omega
    have r4 : ((n : Int) + 6) % 256 = (b3 : Int) := by omega
    have hbody : Hid (vb [b0, b1, b2, b3, sq] ++ vb ds = vb (bodyO cr true false sq ds)) := by
      unfold bodyO headO
      rw [hF.out, Hdl.out, ← hb0, ← hb1, ← hb2, ← hb3, vb_append]; rfl
    clear hb0 hb1 hb2 hb3
    have bA := below_alloc W1 (.cells #[.int .u8 (b0 : Int), .int .u8 (b1 : Int), .int .u8 (b2 : Int), .int .u8 (b3 : Int), .int .u8 (sq : Int)] 5)
    have A := row_below A bA
    have k4 := (oAt_row A).c4
    go_wp2_with (at_builtin; refine hold ?_)
    unfold Hid
    have oA := World.ownsRow_lit (base := W1.heap.size) (e := 5) (size := 1) W1 #[.int .u8 (b0 : Int), .int .u8 (b1 : Int), .int .u8 (b2 : Int), .int .u8 (b3 : Int), .int .u8 (sq : Int)] 5 (Nat.le_refl _) (by unfold maxLen; omega) rfl
    have BA := B1'.trans (bA.mono B1'.size)
    have oA := ownsRow_mono oA B1'.size
    have hr2 := hr1.below bA
    refine wpList_append_rd rfl _ _ 31 rfl w.heap.size 5 i0 (.int .u8 0) 1 Try.underlying31 hi0 hz0 hz1 hz2 rfl _ 5 5 _ rfl oA a n c (vb ds) rfl hr2 (vb_oneCell _) (by omega) (by unfold maxLen; omega) BA.size ?_
    intro xa xc W2 o2 g2 b2'
    rw [show (#[Value.int .u8 (b0 : Int), .int .u8 (b1 : Int), .int .u8 (b2 : Int), .int .u8 (b3 : Int), .int .u8 (sq : Int)] : Array Value).toList ++ vb ds = vb (bodyO cr true false sq ds) from hbody.out] at o2
    have B2 := BA.trans b2'
    clear oA g2 bA A k4 c0 c1 c2 c3 c4 hr2
    have hall := bodyO_all cr true false sq ds h1 h2 hd (by rw [Hdl.out]; exact h5)
    go_wp2_with fail
    refine (sum_ok xa (5 + n) xc _ hall (by omega) W2 (Rd.ofOwn o2)).mono ?_
    rintro e w' ⟨s, rfl, hs, Hs, rfl⟩
    obtain ⟨s0, hs0⟩ : ∃ s0, s0 = s / 256 := ⟨_, rfl⟩
    obtain ⟨s1, hs1⟩ : ∃ s1, s1 = s % 256 := ⟨_, rfl⟩
    have r5 : (s : Int) / 256 = (s0 : Int) := by omega
    have r5' : s0 < 256 := by omega
    have r6 : (s : Int) % 256 = (s1 : Int) := by omega
    have henc : Hid (vb (bodyO cr true false sq ds) ++ vb [s0, s1] = vb (encO cr true false sq ds)) := by
      unfold encO
      rw [← Hs.out, ← hs0, ← hs1, vb_append]
      exact rfl
    clear hs0 hs1
    go_wp2_with (at_builtin; refine hold ?_)
    unfold Hid
    have bA := below_alloc W2 (.cells #[.int .u8 (s0 : Int), .int .u8 (s1 : Int)] 5)
    have oT := World.ownsRow_lit (base := W2.heap.size) (e := 5) (size := 1) W2 #[.int .u8 (s0 : Int), .int .u8 (s1 : Int)] 2 (Nat.le_refl _) (by unfold maxLen; omega) rfl
    have o3 := ownsRow_below o2 bA
    refine wpList_append_rd rfl _ _ 31 rfl w.heap.size 5 i0 (.int .u8 0) 1 Try.underlying31 hi0 hz0 hz1 hz2 rfl xa (5 + n) xc _ rfl o3 _ 2 2 (vb [s0, s1]) rfl (Rd.ofOwn oT) (vb_oneCell _) (by omega) (by unfold maxLen; omega) (by have := B2.size; have := bA.size; omega) ?_
    intro ya yc W3 o4 g4 b4
    rw [henc.out] at o4
    have B3 := (B2.trans (bA.mono B2.size)).trans b4
    go_wp2_with fail
    go_ret2
    rw [show 5 + n + 2 = n + 7 by omega] at o4 ⊢
    exact ⟨ya, yc, rfl, o4, B3⟩
  · have hF : Hid (firstO cr true true = cr ||| 8192 ||| 4096) := rfl
    have hf : cr ||| 8192 ||| 4096 < 16384 := by rw [← hF.out]; exact hf
    generalize cr ||| 8192 ||| 4096 = f at *
    generalize cr ||| 8192 = f0 at *
    obtain ⟨b0, hb0⟩ : ∃ b0, b0 = f / 256 := ⟨_, rfl⟩
    obtain ⟨b1, hb1⟩ : ∃ b1, b1 = f % 256 := ⟨_, rfl⟩
    obtain ⟨b2, hb2⟩ : ∃ b2, b2 = (n + 6) / 256 := ⟨_, rfl⟩
    obtain ⟨b3, hb3⟩ : ∃ b3, b3 = (n + 6) % 256 := ⟨_, rfl⟩
    have r1 : (f : Int) / 256 = (b0 : Int) := by omega
    have r1' : b0 < 256 := by omega
    have r2 : (f : Int) % 256 = (b1 : Int) := by omega
    have r3 : ((n : Int) + 6) / 256 = (b2 : Int) := by omega
    have r3' : b2 < 256 := by omega
    have r4 : ((n : Int) + 6) % 256 = (b3 : Int) := by omega
    have hbody : Hid (vb [b0, b1, b2, b3, sq] ++ vb ds = vb (bodyO cr true true sq ds)) := by
      unfold bodyO headO
      rw [hF.out, Hdl.out, ← hb0, ← hb1, ← hb2, ← hb3, vb_append]; rfl
    clear hb0 hb1 hb2 hb3
    have bA := below_alloc W1 (.cells #[.int .u8 (b0 : Int), .int .u8 (b1 : Int), .int .u8 (b2 : Int), .int .u8 (b3 : Int), .int .u8 (sq : Int)] 5)
    have A := row_below A bA
    have k4 := (oAt_row A).c4
    go_wp2_with (at_builtin; refine hold ?_)
    unfold Hid
    have oA := World.ownsRow_lit (base := W1.heap.size) (e := 5) (size := 1) W1 #[.int .u8 (b0 : Int), .int .u8 (b1 : Int), .int .u8 (b2 : Int), .int .u8 (b3 : Int), .int .u8 (sq : Int)] 5 (Nat.le_refl _) (by unfold maxLen; omega) rfl
    have BA := B1'.trans (bA.mono B1'.size)
    have oA := ownsRow_mono oA B1'.size
    have hr2 := hr1.below bA
    refine wpList_append_rd rfl _ _ 31 rfl w.heap.size 5 i0 (.int .u8 0) 1 Try.underlying31 hi0 hz0 hz1 hz2 rfl _ 5 5 _ rfl oA a n c (vb ds) rfl hr2 (vb_oneCell _) (by omega) (by unfold maxLen; omega) BA.size ?_
    intro xa xc W2 o2 g2 b2'
    rw [show (#[Value.int .u8 (b0 : Int), .int .u8 (b1 : Int), .int .u8 (b2 : Int), .int .u8 (b3 : Int), .int .u8 (sq : Int)] : Array Value).toList ++ vb ds = vb (bodyO cr true true sq ds) from hbody.out] at o2
    have B2 := BA.trans b2'
    clear oA g2 bA A k4 c0 c1 c2 c3 c4 hr2
    have hall := bodyO_all cr true true sq ds h1 h2 hd (by rw [Hdl.out]; exact h5)
    go_wp2_with fail
    refine (sum_ok xa (5 + n) xc _ hall (by omega) W2 (Rd.ofOwn o2)).mono ?_
    rintro e w' ⟨s, rfl, hs, Hs, rfl⟩
    obtain ⟨s0, hs0⟩ : ∃ s0, s0 = s / 256 := ⟨_, rfl⟩
    obtain ⟨s1, hs1⟩ : ∃ s1, s1 = s % 256 := ⟨_, rfl⟩
    have r5 : (s : Int) / 256 = (s0 : Int) := by omega
    have r5' : s0 < 256 := by omega
    have r6 : (s : Int) % 256 = (s1 : Int) := by omega
    have henc : Hid (vb (bodyO cr true true sq ds) ++ vb [s0, s1] = vb (encO cr true true sq ds)) := by
      unfold encO
      rw [← Hs.out, ← hs0, ← hs1, vb_append]
      exact rfl
    clear hs0 hs1
    go_wp2_with (at_builtin; refine hold ?_)
    unfold Hid
    have bA := below_alloc W2 (.cells #[.int .u8 (s0 : Int), .int .u8 (s1 : Int)] 5)
    have oT := World.ownsRow_lit (base := W2.heap.size) (e := 5) (size := 1) W2 #[.int .u8 (s0 : Int), .int .u8 (s1 : Int)] 2 (Nat.le_refl _) (by unfold maxLen; omega) rfl
    have o3 := ownsRow_below o2 bA
    refine wpList_append_rd rfl _ _ 31 rfl w.heap.size 5 i0 (.int .u8 0) 1 Try.underlying31 hi0 hz0 hz1 hz2 rfl xa (5 + n) xc _ rfl o3 _ 2 2 (vb [s0, s1]) rfl (Rd.ofOwn oT) (vb_oneCell _) (by omega) (by unfold maxLen; omega) (by have := B2.size; have := bA.size; omega) ?_
    intro ya yc W3 o4 g4 b4
    rw [henc.out] at o4
    have B3 := (B2.trans (bA.mono B2.size)).trans b4
    go_wp2_with fail
    go_ret2
    rw [show 5 + n + 2 = n + 7 by omega] at o4 ⊢
    exact ⟨ya, yc, rfl, o4, B3⟩
end Go.Proofs.Ytkngoomkmbkenaa
