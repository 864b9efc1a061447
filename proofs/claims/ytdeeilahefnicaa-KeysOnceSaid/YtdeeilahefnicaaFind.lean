/- Keys: find, in a ring of no key or of one. -/
import Derived.Test.YtdeeilahefnicaaMay
namespace Go.Proofs.Ytdeeilahefnicaa
set_option linter.unusedVariables false
open Go.RowKit

/-- a key's four cells at the head of a block -/
structure KCells (W : World) (kb : Nat) (id top seen : Int) (wa : Option Addr) (wc : Nat) : Prop where
  c0 : W.cell? ⟨kb, 0, none⟩ = some (.int .i64 id)
  c1 : W.cell? ⟨kb, 1, none⟩ = some (.slice wa 8 wc)
  c2 : W.cell? ⟨kb, 2, none⟩ = some (.int .i64 top)
  c3 : W.cell? ⟨kb, 3, none⟩ = some (.int .i64 seen)
theorem KCells.below {W W' : World} {kb : Nat} {id top seen : Int} {wa : Option Addr} {wc : Nat} (h : KCells W kb id top seen wa wc) (hb : Below W.heap.size W W') : KCells W' kb id top seen wa wc := by
  have hl := World.block_lt_of_cell? W _ h.c0
  exact ⟨(hb.cell (p := ⟨kb, 0, none⟩) hl).trans h.c0, (hb.cell (p := ⟨kb, 1, none⟩) hl).trans h.c1, (hb.cell (p := ⟨kb, 2, none⟩) hl).trans h.c2, (hb.cell (p := ⟨kb, 3, none⟩) hl).trans h.c3⟩

theorem find_same (k : Value) (id : Int) (rest : Array Value) (xb : Nat) (W : World) (wa : Option Addr) (wc : Nat) (top seen : Int) (hx : W.cell? ⟨xb, 0, none⟩ = some (.int .i64 id)) :
    Calls Try.prog 28 #[.agg #[.int .i64 id, .slice wa 8 wc, .int .i64 top, .int .i64 seen], .pointer (some ⟨xb, 0, none⟩)] W fun e w' => e = .returned (.bool true) ∧ Below W.heap.size W w' := by
  have hl : xb < W.heap.size := World.block_lt_of_cell? W ⟨xb, 0, none⟩ hx
  have bA := below_alloc W (.cells #[.int .i64 id, .slice wa 8 wc, .int .i64 top, .int .i64 seen] 25)
  have hx2 := (bA.cell (p := ⟨xb, 0, none⟩) hl).trans hx
  go_enter Try.func28, Try.ntmps28
  go_wp2_with fail
  go_ret
  exact ⟨by first | rfl | simp, bA⟩

theorem indexK_one (kb kc xb : Nat) (id top seen : Int) (wa : Option Addr) (wc : Nat) (W : World) (h : KCells W kb id top seen wa wc) (hx : W.cell? ⟨xb, 0, none⟩ = some (.int .i64 id)) :
    Calls Try.prog 27 #[.slice (some ⟨kb, 0, none⟩) 1 kc, .func (.func 28) #[] #[.pointer (some ⟨xb, 0, none⟩)]] W fun e w' => e = .returned (.int .i64 0) ∧ Below W.heap.size W w' := by
  obtain ⟨c0, c1, c2, c3⟩ := h
  go_enter Try.func27, Try.ntmps27
  go_wp2_with fail
  go_loop [8] (fun v => v = .int .i64 0) (fun v => 0)
  case atStart => rfl
  case round =>
    subst hrel
    go_wp2_with fail
    refine (find_same (.int .i64 0) id #[] xb W wa wc top seen hx).mono ?_
    rintro e w' ⟨rfl, bb⟩
    go_wp2_with fail
    go_ret
    exact ⟨rfl, bb⟩
theorem indexK_none (xb : Nat) (a : Option Addr) (kc : Nat) (W : World) :
    Calls Try.prog 27 #[.slice a 0 kc, .func (.func 28) #[] #[.pointer (some ⟨xb, 0, none⟩)]] W fun e w' => e = .returned (.int .i64 (-1)) ∧ w' = W := by
  go_enter Try.func27, Try.ntmps27
  go_wp2_with fail
  go_loop [8] (fun v => v = .int .i64 0) (fun v => 0)
  case atStart => rfl
  case round =>
    subst hrel
    go_wp2_with fail
    go_ret
    exact ⟨rfl, rfl⟩

theorem find_one (kb kc : Nat) (id top seen : Int) (wa : Option Addr) (wc : Nat) (W : World) (h : KCells W kb id top seen wa wc) :
    Calls Try.prog 15 #[.agg #[.slice (some ⟨kb, 0, none⟩) 1 kc], .int .i64 id] W fun e w' => e = .returned (.int .i64 0) ∧ Below W.heap.size W w' := by
  have b1 := below_alloc W (.cells #[.slice (some ⟨kb, 0, none⟩) 1 kc] 33)
  have b2 := below_alloc (W.alloc (.cells #[.slice (some ⟨kb, 0, none⟩) 1 kc] 33)) (.cells #[.int .i64 id] 3)
  have bb := b1.trans (b2.mono b1.size)
  have A := heap_alloc_new (W.alloc (.cells #[.slice (some ⟨kb, 0, none⟩) 1 kc] 33)) (.cells #[.int .i64 id] 3)
  have hx := cell_of_row _ _ 0 _ _ _ A
  have h2 := h.below bb
  go_enter Try.func15, Try.ntmps15
  go_wp2_with fail
  refine (indexK_one kb kc _ id top seen wa wc _ h2 ?_).mono ?_
  · simp
  rintro e w' ⟨rfl, b3⟩
  go_wp2_with fail
  go_ret
  exact ⟨rfl, bb.trans (b3.mono bb.size)⟩
theorem find_none (a : Option Addr) (kc : Nat) (id : Int) (W : World) :
    Calls Try.prog 15 #[.agg #[.slice a 0 kc], .int .i64 id] W fun e w' => e = .returned (.int .i64 (-1)) ∧ Below W.heap.size W w' := by
  have b1 := below_alloc W (.cells #[.slice a 0 kc] 33)
  have b2 := below_alloc (W.alloc (.cells #[.slice a 0 kc] 33)) (.cells #[.int .i64 id] 3)
  have bb := b1.trans (b2.mono b1.size)
  go_enter Try.func15, Try.ntmps15
  go_wp2_with fail
  refine (indexK_none _ a kc _).mono ?_
  rintro e w' ⟨rfl, rfl⟩
  go_wp2_with fail
  go_ret
  exact ⟨rfl, bb⟩
end Go.Proofs.Ytdeeilahefnicaa
