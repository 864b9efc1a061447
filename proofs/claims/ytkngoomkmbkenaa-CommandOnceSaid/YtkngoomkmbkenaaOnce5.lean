/- command.Encode: the walk. -/
import Derived.Test.YtkngoomkmbkenaaOnce4
import Derived.Maps.AppendAt
import Derived.WalkSpells
import Derived.Test.YtkngoomkmbkenaaOnce2
namespace Go.Proofs.Ytkngoomkmbkenaa
set_option linter.unusedVariables false
open Go.RowKit

def firstO (cr : Nat) (by_ co : Bool) : Nat := (cr ||| (if by_ then 8192 else 0)) ||| (if co then 4096 else 0)
def headO (cr : Nat) (by_ co : Bool) (sq n : Nat) : List Nat := [firstO cr by_ co / 256, firstO cr by_ co % 256, (n + 6) / 256, (n + 6) % 256, sq]
def bodyO (cr : Nat) (by_ co : Bool) (sq : Nat) (ds : List Nat) : List Nat := headO cr by_ co sq ds.length ++ ds
def encO (cr : Nat) (by_ co : Bool) (sq : Nat) (ds : List Nat) : List Nat := bodyO cr by_ co sq ds ++ [sumN (bodyO cr by_ co sq ds) / 256, sumN (bodyO cr by_ co sq ds) % 256]
theorem firstO_lt (cr : Nat) (by_ co : Bool) (h : cr ≤ 1023) : firstO cr by_ co < 16384 := by
  unfold firstO
  refine Nat.or_lt_two_pow (n := 14) (Nat.or_lt_two_pow (n := 14) (by omega) ?_) ?_
  · split <;> decide
  · split <;> decide
theorem bodyO_all (cr : Nat) (by_ co : Bool) (sq : Nat) (ds : List Nat) (h : cr ≤ 1023) (hs : sq ≤ 255) (hd : AllB ds) (hn : ds.length ≤ 1017) : AllB (bodyO cr by_ co sq ds) := by
  have hf := firstO_lt cr by_ co h
  refine AllB.append ?_ hd
  intro x hx
  simp only [headO, List.mem_cons, List.not_mem_nil, or_false] at hx
  rcases hx with rfl | rfl | rfl | rfl | rfl <;> omega
theorem bodyO_len (cr : Nat) (by_ co : Bool) (sq : Nat) (ds : List Nat) : (bodyO cr by_ co sq ds).length = 5 + ds.length := by simp [bodyO, headO]; omega
theorem Try.info5 : (Try.prog.info? 5).map (fun i => (i.zero, i.size, i.bytes)) = some (some (.int .u8 0), 1, 1) := by kernel_rfl

set_option maxHeartbeats 4000000 in
theorem encode_ok (cr : Nat) (by_ co : Bool) (sq : Nat) (a : Option Addr) (n c : Nat) (ds : List Nat) (w : World) (hr : Rd w a n c (vb ds)) (hd : AllB ds) (h1 : cr ≤ 1023) (h2 : sq ≤ 255) (h3 : co = true → by_ = true) (h4 : 1 ≤ n) (h5 : n ≤ 1017) :
    Calls Try.prog 32 #[.agg (ocells cr by_ co sq a n c)] w fun e w' => ∃ ao cc, e = .returned (.tuple #[.slice ao (n + 7) cc, .int .i64 0]) ∧ w'.ownsRow w.heap.size 5 1 (.slice ao (n + 7) cc) (n + 7) (vb (encO cr by_ co sq ds)) ∧ Below w.heap.size w w' := by
  have hdl : ds.length = n := by have := hr.len; rwa [vb_len] at this
  have Hdl := hid hdl
  clear hdl
  obtain ⟨i0, hi0, hz0, hz1, hz2⟩ := info_parts Try.info5
  have A := heap_alloc_new w (.cells (ocells cr by_ co sq a n c) 33)
  have BA := below_alloc w (.cells (ocells cr by_ co sq a n c) 33)
  unfold ocells at *
  go_enter Try.func32, Try.ntmps32
  generalize hW : w.alloc (.cells #[.int .i64 (cr : Int), .bool by_, .bool co, .int .i64 (sq : Int), .slice a n c] 33) = W at *
  obtain ⟨c0, c1, c2, c3, c4⟩ := oAt_row A
  go_wp2_with fail
  clear hW
  refine (may_ok cr by_ co sq a n c _ (by omega) (by omega) h3 (by omega)).mono ?_
  rintro e W1 ⟨rfl, B1⟩
  have A := row_below A B1
  have B1' := BA.trans (B1.mono BA.size)
  have hr1 := hr.below B1'
  clear c0 c1 c2 c3 c4 B1 BA
  obtain ⟨c0, c1, c2, c3, c4⟩ := oAt_row A
  have hf := firstO_lt cr by_ co h1
  have hfirst : Hid (firstO cr by_ co = (cr ||| (if by_ then 8192 else 0)) ||| (if co then 4096 else 0)) := rfl
  have q1 : bits .or .i64 (cr : Int) 8192 = ((cr ||| 8192 : Nat) : Int) := i64_or_nat cr 8192 (by omega) (by decide)
  have q2 : bits .or .i64 ((cr ||| 8192 : Nat) : Int) 4096 = ((cr ||| 8192 ||| 4096 : Nat) : Int) := i64_or_nat (cr ||| 8192) 4096 (by have := Nat.or_lt_two_pow (n := 14) (x := cr) (y := 8192) (by omega) (by decide); omega) (by decide)
  have hsq : ((sq : Int) % 256) = (sq : Int) := by omega
  cases by_ <;> cases co
  · have hF : Hid (firstO cr false false = cr) := by show (cr ||| 0) ||| 0 = cr; simp
    obtain ⟨b0, hb0⟩ : ∃ b0, b0 = cr / 256 := ⟨_, rfl⟩
    obtain ⟨b1, hb1⟩ : ∃ b1, b1 = cr % 256 := ⟨_, rfl⟩
    obtain ⟨b2, hb2⟩ : ∃ b2, b2 = (n + 6) / 256 := ⟨_, rfl⟩
    obtain ⟨b3, hb3⟩ : ∃ b3, b3 = (n + 6) % 256 := ⟨_, rfl⟩
    have r1 : (cr : Int) / 256 = (b0 : Int) := by omega
    have r1' : b0 < 256 := by omega
    have r2 : (cr : Int) % 256 = (b1 : Int) := by omega
    have r3 : ((n : Int) + 6) / 256 = (b2 : Int) := by omega
    have r3' : b2 < 256 := by omega
    have r4 : ((n : Int) + 6) % 256 = (b3 : Int) := by omega
    have hbody : Hid (vb [b0, b1, b2, b3, sq] ++ vb ds = vb (bodyO cr false false sq ds)) := by
      unfold bodyO headO
      rw [hF.out, Hdl.out, ← hb0, ← hb1, ← hb2, ← hb3, vb_append]; rfl
    clear hb0 hb1 hb2 hb3
    have bA := below_alloc W1 (.cells #[.int .u8 (b0 : Int), .int .u8 (b1 : Int), .int .u8 (b2 : Int), .int .u8 (b3 : Int), .int .u8 (sq : Int)] 5)
    have A := row_below A bA
    have k4 := (oAt_row A).c4
    go_wp2_with (at_builtin; refine hold ?_)
    unfold Hid
    have oA := World.ownsRow_lit (base := W1.heap.size) (e := 5) (size := 1) W1 #[.int .u8 (b0 : Int), .int .u8 (b1 : Int), .int .u8 (b2 : Int), .int .u8 (b3 : Int), .int .u8 (sq : Int)] 5 (Nat.le_refl _) (by unfold maxLen; omega) rfl
    have BA := B1'.trans (bA.mono B1'.size)
    have oA := ownsRow_mono oA B1'.size
    have hr2 := hr1.below bA
    refine wpList_append_rd rfl _ _ 31 rfl w.heap.size 5 i0 (.int .u8 0) 1 Try.underlying31 hi0 hz0 hz1 hz2 rfl _ 5 5 _ rfl oA a n c (vb ds) rfl hr2 (vb_oneCell _) (by omega) (by unfold maxLen; omega) BA.size ?_
    intro xa xc W2 o2 g2 b2'
    rw [show (#[Value.int .u8 (b0 : Int), .int .u8 (b1 : Int), .int .u8 (b2 : Int), .int .u8 (b3 : Int), .int .u8 (sq : Int)] : Array Value).toList ++ vb ds = vb (bodyO cr false false sq ds) from hbody.out] at o2
    have B2 := BA.trans b2'
    clear oA g2 bA A k4 c0 c1 c2 c3 c4 hr2
    have hall := bodyO_all cr false false sq ds h1 h2 hd (by rw [Hdl.out]; exact h5)
    go_wp2_with fail
    refine (sum_ok xa (5 + n) xc _ hall (by omega) W2 (Rd.ofOwn o2)).mono ?_
    rintro e w' ⟨s, rfl, hs, Hs, rfl⟩
    obtain ⟨s0, hs0⟩ : ∃ s0, s0 = s / 256 := ⟨_, rfl⟩
    obtain ⟨s1, hs1⟩ : ∃ s1, s1 = s % 256 := ⟨_, rfl⟩
    have r5 : (s : Int) / 256 = (s0 : Int) := by omega
    have r5' : s0 < 256 := by omega
    have r6 : (s : Int) % 256 = (s1 : Int) := by omega
    have henc : Hid (vb (bodyO cr false false sq ds) ++ vb [s0, s1] = vb (encO cr false false sq ds)) := by
      unfold encO
      rw [← Hs.out, ← hs0, ← hs1, vb_append]
      exact rfl
    clear hs0 hs1
    go_wp2_with (at_builtin; refine hold ?_)
    unfold Hid
    have bA := below_alloc W2 (.cells #[.int .u8 (s0 : Int), .int .u8 (s1 : Int)] 5)
    have oT := World.ownsRow_lit (base := W2.heap.size) (e := 5) (size := 1) W2 #[.int .u8 (s0 : Int), .int .u8 (s1 : Int)] 2 (Nat.le_refl _) (by unfold maxLen; omega) rfl
    have o3 := ownsRow_below o2 bA
    refine wpList_append_rd rfl _ _ 31 rfl w.heap.size 5 i0 (.int .u8 0) 1 Try.underlying31 hi0 hz0 hz1 hz2 rfl xa (5 + n) xc _ rfl o3 _ 2 2 (vb [s0, s1]) rfl (Rd.ofOwn oT) (vb_oneCell _) (by omega) (by unfold maxLen; omega) (by have := B2.size; have := bA.size; omega) ?_
    intro ya yc W3 o4 g4 b4
    rw [henc.out] at o4
    have B3 := (B2.trans (bA.mono B2.size)).trans b4
    go_wp2_with fail
    go_ret2
    rw [show 5 + n + 2 = n + 7 by omega] at o4 ⊢
    exact ⟨ya, yc, rfl, o4, B3⟩
  · exact absurd (h3 rfl) (by simp)
  · have hF : Hid (firstO cr true false = cr ||| 8192) := by show (cr ||| 8192) ||| 0 = _; simp
    have hf : cr ||| 8192 < 16384 := by rw [← hF.out]; exact hf
    generalize cr ||| 8192 = f at *
    obtain ⟨b0, hb0⟩ : ∃ b0, b0 = f / 256 := ⟨_, rfl⟩
    obtain ⟨b1, hb1⟩ : ∃ b1, b1 = f % 256 := ⟨_, rfl⟩
    obtain ⟨b2, hb2⟩ : ∃ b2, b2 = (n + 6) / 256 := ⟨_, rfl⟩
    obtain ⟨b3, hb3⟩ : ∃ b3, b3 = (n + 6) % 256 := ⟨_, rfl⟩
    have r1 : (f : Int) / 256 = (b0 : Int) := by omega
    have r1' : b0 < 256 := by omega
    have r2 : (f : Int) % 256 = (b1 : Int) := by omega
    have r3 : ((n : Int) + 6) / 256 = (b2 : Int) := by omega
    have r3' : b2 < 256 := by omega
    have r4 : ((n : Int) + 6) % 256 = (b3 : Int) := by omega
    have hbody : Hid (vb [b0, b1, b2, b3, sq] ++ vb ds = vb (bodyO cr true false sq ds)) := by
      unfold bodyO headO
      rw [hF.out, Hdl.out, ← hb0, ← hb1, ← hb2, ← hb3, vb_append]; rfl
    clear hb0 hb1 hb2 hb3
    have bA := below_alloc W1 (.cells #[.int .u8 (b0 : Int), .int .u8 (b1 : Int), .int .u8 (b2 : Int), .int .u8 (b3 : Int), .int .u8 (sq : Int)] 5)
    have A := row_below A bA
    have k4 := (oAt_row A).c4
    go_wp2_with (at_builtin; refine hold ?_)
    unfold Hid
    have oA := World.ownsRow_lit (base := W1.heap.size) (e := 5) (size := 1) W1 #[.int .u8 (b0 : Int), .int .u8 (b1 : Int), .int .u8 (b2 : Int), .int .u8 (b3 : Int), .int .u8 (sq : Int)] 5 (Nat.le_refl _) (by unfold maxLen; omega) rfl
    have BA := B1'.trans (bA.mono B1'.size)
    have oA := ownsRow_mono oA B1'.size
    have hr2 := hr1.below bA
    refine wpList_append_rd rfl _ _ 31 rfl w.heap.size 5 i0 (.int .u8 0) 1 Try.underlying31 hi0 hz0 hz1 hz2 rfl _ 5 5 _ rfl oA a n c (vb ds) rfl hr2 (vb_oneCell _) (by omega) (by unfold maxLen; omega) BA.size ?_
    intro xa xc W2 o2 g2 b2'
    rw [show (#[Value.int .u8 (b0 : Int), .int .u8 (b1 : Int), .int .u8 (b2 : Int), .int .u8 (b3 : Int), .int .u8 (sq : Int)] : Array Value).toList ++ vb ds = vb (bodyO cr true false sq ds) from hbody.out] at o2
    have B2 := BA.trans b2'
    clear oA g2 bA A k4 c0 c1 c2 c3 c4 hr2
    have hall := bodyO_all cr true false sq ds h1 h2 hd (by rw [Hdl.out]; exact h5)
    go_wp2_with fail
    refine (sum_ok xa (5 + n) xc _ hall (by omega) W2 (Rd.ofOwn o2)).mono ?_
    rintro e w' ⟨s, rfl, hs, Hs, rfl⟩
    obtain ⟨s0, hs0⟩ : ∃ s0, s0 = s / 256 := ⟨_, rfl⟩
    obtain ⟨s1, hs1⟩ : ∃ s1, s1 = s % 256 := ⟨_, rfl⟩
    have r5 : (s : Int) / 256 = (s0 : Int) := by omega
    have r5' : s0 < 256 := by omega
    have r6 : (s : Int) % 256 = (s1 : Int) := by omega
    have henc : Hid (vb (bodyO cr true false sq ds) ++ vb [s0, s1] = vb (encO cr true false sq ds)) := by
      unfold encO
      rw [← Hs.out, ← hs0, ← hs1, vb_append]
      exact rfl
    clear hs0 hs1
    go_wp2_with (at_builtin; refine hold ?_)
    unfold Hid
    have bA := below_alloc W2 (.cells #[.int .u8 (s0 : Int), .int .u8 (s1 : Int)] 5)
    have oT := World.ownsRow_lit (base := W2.heap.size) (e := 5) (size := 1) W2 #[.int .u8 (s0 : Int), .int .u8 (s1 : Int)] 2 (Nat.le_refl _) (by unfold maxLen; omega) rfl
    have o3 := ownsRow_below o2 bA
    refine wpList_append_rd rfl _ _ 31 rfl w.heap.size 5 i0 (.int .u8 0) 1 Try.underlying31 hi0 hz0 hz1 hz2 rfl xa (5 + n) xc _ rfl o3 _ 2 2 (vb [s0, s1]) rfl (Rd.ofOwn oT) (vb_oneCell _) (by omega) (by unfold maxLen; omega) (by have := B2.size; have := bA.size; omega) ?_
    intro ya yc W3 o4 g4 b4
    rw [henc.out] at o4
    have B3 := (B2.trans (bA.mono B2.size)).trans b4
    go_wp2_with fail
    go_ret2
    rw [show 5 + n + 2 = n + 7 by omega] at o4 ⊢
    exact ⟨ya, yc, rfl, o4, B3⟩
  · have hF : Hid (firstO cr true true = cr ||| 8192 ||| 4096) := rfl
    have hf : cr ||| 8192 ||| 4096 < 16384 := by rw [← hF.out]; exact hf
    generalize cr ||| 8192 ||| 4096 = f at *
    generalize cr ||| 8192 = f0 at *
    obtain ⟨b0, hb0⟩ : ∃ b0, b0 = f / 256 := ⟨_, rfl⟩
    obtain ⟨b1, hb1⟩ : ∃ b1, b1 = f % 256 := ⟨_, rfl⟩
    obtain ⟨b2, hb2⟩ : ∃ b2, b2 = (n + 6) / 256 := ⟨_, rfl⟩
    obtain ⟨b3, hb3⟩ : ∃ b3, b3 = (n + 6) % 256 := ⟨_, rfl⟩
    have r1 : (f : Int) / 256 = (b0 : Int) := by omega
    have r1' : b0 < 256 := by omega
    have r2 : (f : Int) % 256 = (b1 : Int) := by omega
    have r3 : ((n : Int) + 6) / 256 = (b2 : Int) := by omega
    have r3' : b2 < 256 := by omega
    have r4 : ((n : Int) + 6) % 256 = (b3 : Int) := by omega
    have hbody : Hid (vb [b0, b1, b2, b3, sq] ++ vb ds = vb (bodyO cr true true sq ds)) := by
      unfold bodyO headO
      rw [hF.out, Hdl.out, ← hb0, ← hb1, ← hb2, ← hb3, vb_append]; rfl
    clear hb0 hb1 hb2 hb3
    have bA := below_alloc W1 (.cells #[.int .u8 (b0 : Int), .int .u8 (b1 : Int), .int .u8 (b2 : Int), .int .u8 (b3 : Int), .int .u8 (sq : Int)] 5)
    have A := row_below A bA
    have k4 := (oAt_row A).c4
    go_wp2_with (at_builtin; refine hold ?_)
    unfold Hid
    have oA := World.ownsRow_lit (base := W1.heap.size) (e := 5) (size := 1) W1 #[.int .u8 (b0 : Int), .int .u8 (b1 : Int), .int .u8 (b2 : Int), .int .u8 (b3 : Int), .int .u8 (sq : Int)] 5 (Nat.le_refl _) (by unfold maxLen; omega) rfl
    have BA := B1'.trans (bA.mono B1'.size)
    have oA := ownsRow_mono oA B1'.size
    have hr2 := hr1.below bA
    refine wpList_append_rd rfl _ _ 31 rfl w.heap.size 5 i0 (.int .u8 0) 1 Try.underlying31 hi0 hz0 hz1 hz2 rfl _ 5 5 _ rfl oA a n c (vb ds) rfl hr2 (vb_oneCell _) (by omega) (by unfold maxLen; omega) BA.size ?_
    intro xa xc W2 o2 g2 b2'
    rw [show (#[Value.int .u8 (b0 : Int), .int .u8 (b1 : Int), .int .u8 (b2 : Int), .int .u8 (b3 : Int), .int .u8 (sq : Int)] : Array Value).toList ++ vb ds = vb (bodyO cr true true sq ds) from hbody.out] at o2
    have B2 := BA.trans b2'
    clear oA g2 bA A k4 c0 c1 c2 c3 c4 hr2
    have hall := bodyO_all cr true true sq ds h1 h2 hd (by rw [Hdl.out]; exact h5)
    go_wp2_with fail
    refine (sum_ok xa (5 + n) xc _ hall (by omega) W2 (Rd.ofOwn o2)).mono ?_
    rintro e w' ⟨s, rfl, hs, Hs, rfl⟩
    obtain ⟨s0, hs0⟩ : ∃ s0, s0 = s / 256 := ⟨_, rfl⟩
    obtain ⟨s1, hs1⟩ : ∃ s1, s1 = s % 256 := ⟨_, rfl⟩
    have r5 : (s : Int) / 256 = (s0 : Int) := by omega
    have r5' : s0 < 256 := by omega
    have r6 : (s : Int) % 256 = (s1 : Int) := by omega
    have henc : Hid (vb (bodyO cr true true sq ds) ++ vb [s0, s1] = vb (encO cr true true sq ds)) := by
      unfold encO
      rw [← Hs.out, ← hs0, ← hs1, vb_append]
      exact rfl
    clear hs0 hs1
    go_wp2_with (at_builtin; refine hold ?_)
    unfold Hid
    have bA := below_alloc W2 (.cells #[.int .u8 (s0 : Int), .int .u8 (s1 : Int)] 5)
    have oT := World.ownsRow_lit (base := W2.heap.size) (e := 5) (size := 1) W2 #[.int .u8 (s0 : Int), .int .u8 (s1 : Int)] 2 (Nat.le_refl _) (by unfold maxLen; omega) rfl
    have o3 := ownsRow_below o2 bA
    refine wpList_append_rd rfl _ _ 31 rfl w.heap.size 5 i0 (.int .u8 0) 1 Try.underlying31 hi0 hz0 hz1 hz2 rfl xa (5 + n) xc _ rfl o3 _ 2 2 (vb [s0, s1]) rfl (Rd.ofOwn oT) (vb_oneCell _) (by omega) (by unfold maxLen; omega) (by have := B2.size; have := bA.size; omega) ?_
    intro ya yc W3 o4 g4 b4
    rw [henc.out] at o4
    have B3 := (B2.trans (bA.mono B2.size)).trans b4
    go_wp2_with fail
    go_ret2
    rw [show 5 + n + 2 = n + 7 by omega] at o4 ⊢
    exact ⟨ya, yc, rfl, o4, B3⟩
end Go.Proofs.Ytkngoomkmbkenaa
/- Clone of bytes: the walk. -/
namespace Go.Proofs.Ytkngoomkmbkenaa
set_option linter.unusedVariables false
open Go.RowKit

theorem clone_nil (w : World) : Calls Try.prog 22 #[.slice none 0 0] w fun e w' => e = .returned (.slice none 0 0) ∧ Below w.heap.size w w' := by
  have hk := fun (w : World) => Lib.run_eql_slice_nil (P := Try.prog) w 31 5 none 0 0 0 0 Try.underlying31
  go_enter Try.func22, Try.ntmps22
  go_wp2
  go_ret
  exact ⟨rfl, Below.refl _ _⟩

theorem clone_some (a : Addr) (n cap : Nat) (bs : List Nat) (w : World) (hq : Rd w (some a) n cap (vb bs)) (hn : n ≤ 140737488355328) :
    Calls Try.prog 22 #[.slice (some a) n cap] w fun e w' => ∃ g c, e = .returned (.slice (some ⟨g, 0, none⟩) n c) ∧ w'.ownsRow w.heap.size 5 1 (.slice (some ⟨g, 0, none⟩) n c) n (vb bs) ∧ Below w.heap.size w w' := by
  obtain ⟨i0, hi, hz0, hz1, hz2⟩ := info_parts Try.info5
  have hk := fun (w : World) => Lib.run_eql_slice_nil (P := Try.prog) w 31 5 (some a) n cap 0 0 Try.underlying31
  have hn0 : (w.alloc (.cells #[] 5)).ownsRow w.heap.size 5 1 (.slice (some ⟨w.heap.size, 0, none⟩) 0 0) 0 [] := World.ownsRow_lit (base := w.heap.size) (e := 5) (size := 1) w #[] 0 (Nat.le_refl _) (Nat.zero_le _) rfl
  have hlen := hq.len
  have hcells : ∀ j u, (vb bs)[j]? = some u → (w.alloc (.cells #[] 5)).cell? (a.add j) = some u := by
    intro j u hj
    have hjn : j < n := by have := (List.getElem?_eq_some_iff.1 hj).1; omega
    obtain ⟨b, off, ha, hlt, hc⟩ := hq.mem (by omega)
    cases ha
    rw [Addr.add_lit, World.cell?_alloc_past _ _ _ hlt, hc j hjn]
    exact hj
  go_enter Try.func22, Try.ntmps22
  go_wp2_with (at_builtin; refine wpList_append_own _ rfl _ _ 31 rfl w.heap.size 5 i0 (.int .u8 0) 1 1 Try.underlying31 hi hz0 hz1 hz2 rfl (by decide) _ 0 [] rfl hn0 a n cap (vb bs) rfl ?c1 hcells (vb_oneCell bs) ?c2 ?c3 ?c4 ?_)
  case c1 => omega
  case c2 => unfold maxLen; omega
  case c3 => omega
  case c4 => simp
  intro v' w1 hown' hg hnil
  obtain ⟨ao, c, rfl, hc1, hc2, hc3⟩ := own_form hown'
  rcases hc3 with ⟨rfl, h0, h1⟩ | ⟨g, rfl, hg1, hg2⟩
  · exfalso
    simp_all
  go_wp2
  go_ret
  exact ⟨g, c, rfl, hown', ((Below.refl _ w).alloc (Nat.le_refl _) _).grown hg (by simp) (fun k e => by cases e; exact Nat.le_refl _)⟩

/-- Clone of whatever reads: nil of nil, an own row else -/
theorem clone_any (ao : Option Addr) (n cap : Nat) (bs : List Nat) (w : World) (hq : Rd w ao n cap (vb bs)) (hn : n ≤ 140737488355328) :
    Calls Try.prog 22 #[.slice ao n cap] w fun e w' => ∃ ao' c, e = .returned (.slice ao' n c) ∧ w'.ownsRow w.heap.size 5 1 (.slice ao' n c) n (vb bs) ∧ Below w.heap.size w w' := by
  cases ao with
  | none =>
    obtain rfl := hq.isnil rfl
    obtain rfl : n = 0 := by have := hq.le; omega
    have hb : bs = [] := by have := hq.len; rw [vb_len] at this; exact List.eq_nil_of_length_eq_zero this
    subst hb
    exact (clone_nil w).mono fun e w' ⟨he, hb⟩ => ⟨none, 0, he, World.ownsRow_nil _ _ _ _, hb⟩
  | some a => exact (clone_some a n cap bs w hq hn).mono fun e w' ⟨g, c, he, ho, hb⟩ => ⟨_, c, he, ho, hb⟩

end Go.Proofs.Ytkngoomkmbkenaa
/- A great function in pieces: a piece of code by its path, what holds of the slots ahead of it and behind it; loops over such. -/
namespace Go.Proofs.Ytkngoomkmbkenaa
set_option linter.unusedVariables false
open Go.RowKit

/-- a frame of N slots -/
def fr (N : Nat) (y : Nat → Value) : Array Value := ((List.range N).map y).toArray
theorem fr_of {t : Array Value} {N : Nat} (h : t.size = N) : t = fr N (fun i => t.getD i undef) := by
  unfold fr
  apply Array.ext
  · simp [h]
  · intro i h1 h2
    simp [h1]
theorem fr_size (N : Nat) (y : Nat → Value) : (fr N y).size = N := by simp [fr]
theorem fr_at (N : Nat) (y : Nat → Value) (i : Nat) (h : i < N) : (fr N y).getD i undef = y i := by
  simp [fr, h]
/-- a piece of code by its path -/
def Code.at_ : List Nat → Code → Code
  | [], c => c
  | 0 :: p, .seq a _ => Code.at_ p a
  | 1 :: p, .seq _ b => Code.at_ p b
  | 0 :: p, .block _ c => Code.at_ p c
  | 0 :: p, .loop c => Code.at_ p c
  | 0 :: p, .scope c => Code.at_ p c
  | 0 :: p, .cond _ a _ => Code.at_ p a
  | 1 :: p, .cond _ _ b => Code.at_ p b
  | _, _ => .skip
def pieceOf (f : Func) (p : List Nat) : Code := Code.at_ p (f.body.getD .skip)
/-- from slots and a world where Pre holds the piece goes on to such where Post holds -/
def Tri (P : Program) (N : Nat) (c : Code) (Pre : (Nat → Value) → World → Prop) (Post : (Nat → Value) → World → (Nat → Value) → World → Prop) : Prop :=
  ∀ (Q : Exit → Act → World → Prop) (y : Nat → Value) (w : World), Pre y w → (∀ y' w', Post y w y' w' → Q .normal ⟨fr N y', []⟩ w') → Code.wp P c Q ⟨fr N y, []⟩ w
theorem Tri.use {P : Program} {N : Nat} {c : Code} {Pre : (Nat → Value) → World → Prop} {Post : (Nat → Value) → World → (Nat → Value) → World → Prop} {Q : Exit → Act → World → Prop} {t : Array Value} {w : World} (h : Tri P N c Pre Post) (hs : t.size = N)
    (hp : Pre (fun i => t.getD i undef) w) (hq : ∀ y' w', Post (fun i => t.getD i undef) w y' w' → Q .normal ⟨fr N y', []⟩ w') : Code.wp P c Q ⟨t, []⟩ w := by
  rw [fr_of hs]
  exact h Q _ w hp hq
theorem q_fr {N : Nat} {Q : Exit → Act → World → Prop} {Post : (Nat → Value) → World → Prop} {t : Array Value} {w : World} (hq : ∀ y' w', Post y' w' → Q .normal ⟨fr N y', []⟩ w') (hs : t.size = N) (hp : Post (fun i => t.getD i undef) w) : Q .normal ⟨t, []⟩ w := by
  rw [fr_of hs]
  exact hq _ w hp
/-- one statement, what follows it hidden -/
theorem wp_seq_k {P : Program} {x y : Code} {Q : Exit → Act → World → Prop} {a : Act} {w : World} (h : ∀ K : Act → World → Prop, Hid (∀ a w, Code.wp P y Q a w → K a w) → Code.wp P x (Exit.then K Q) a w) : Code.wp P (.seq x y) Q a w :=
  wp_seq (h _ (hid (fun _ _ h => h)))
/-- what holds of a frame written out -/
def Holds2 (N : Nat) (I : (Nat → Value) → World → Prop) (a : Act) (w : World) : Prop := a.tmps.size = N ∧ a.defers = [] ∧ I (fun i => a.tmps.getD i undef) w
theorem wp_loop_fr {P : Program} {c : Code} {Q : Exit → Act → World → Prop} {a : Act} {w : World} (N : Nat) (I : (Nat → Value) → World → Prop) (m : (Nat → Value) → World → Nat) (h0 : Holds2 N I a w)
    (round : ∀ (y : Nat → Value) (W : World), I y W → Code.wp P c (Exit.then (fun a' W' => Holds2 N (fun y' W' => I y' W' ∧ m y' W' < m y W) a' W') Q) ⟨fr N y, []⟩ W) : Code.wp P (.loop c) Q a w := by
  refine wp_loop (Holds2 N I) (fun a W => m (fun i => a.tmps.getD i undef) W) h0 ?_
  rintro ⟨t, ds⟩ W ⟨h1, h2, h3⟩
  dsimp only at h1 h2 h3
  subst h2
  have e := fr_of h1
  have := round (fun i => t.getD i undef) W h3
  rw [← e] at this
  intro b k cs
  obtain ⟨e, a', w', h, harr⟩ := this b k cs
  refine ⟨e, a', w', ?_, harr⟩
  cases e with
  | normal => exact ⟨⟨h.1, h.2.1, h.2.2.1⟩, h.2.2.2⟩
  | _ => exact h
end Go.Proofs.Ytkngoomkmbkenaa
