/- A gate: in, Guard, stands, may: the walks. -/
import Derived.Test.YtkngoomkmbkenaaProg
import Derived.Test.YtkngoomkmbkenaaSl
import Derived.WalkKit
namespace Go.Proofs.Ytkngoomkmbkenaa
set_option linter.unusedVariables false
open Go.RowKit

theorem in_st (n lo hi : Int) (w : World) : Calls Try.prog 12 #[.int .i64 n, .int .i64 lo, .int .i64 hi] w fun e w' => e = .returned (.bool (decide (lo ≤ n) && decide (n ≤ hi))) ∧ w' = w := by
  go_enter Try.func12, Try.ntmps12
  by_cases h : lo ≤ n
  · have h1 : decide (lo ≤ n) = true := by simp [h]
    go_wp2
    go_ret
    simp <;> omega
  · have h1 : decide (lo ≤ n) = false := by simp [h]
    go_wp2
    go_ret
    simp <;> omega
theorem in_yes (n lo hi : Int) (w : World) (h : lo ≤ n ∧ n ≤ hi) : Calls Try.prog 12 #[.int .i64 n, .int .i64 lo, .int .i64 hi] w fun e w' => e = .returned (.bool true) ∧ w = w' :=
  (in_st n lo hi w).mono fun e w' ⟨he, hw⟩ => ⟨by rw [he, decide_eq_true h.1, decide_eq_true h.2]; rfl, hw.symm⟩
theorem in_no (n lo hi : Int) (w : World) (h : ¬ (lo ≤ n ∧ n ≤ hi)) : Calls Try.prog 12 #[.int .i64 n, .int .i64 lo, .int .i64 hi] w fun e w' => e = .returned (.bool false) ∧ w = w' :=
  (in_st n lo hi w).mono fun e w' ⟨he, hw⟩ => ⟨by
    rw [he]
    by_cases h1 : lo ≤ n
    · have h2 : ¬ n ≤ hi := fun h2 => h ⟨h1, h2⟩
      simp [h2]
    · simp [h1], hw.symm⟩

/-- a gate's cells -/
structure Gt where
  cr : Int
  nx : Int
  hf : Int
  sh : Bool
  wa : Bool
  ag : Bool
  ct : Int
def Gt.cells (g : Gt) : Array Value := #[.int .i64 g.cr, .int .i64 g.nx, .int .i64 g.hf, .bool g.sh, .bool g.wa, .bool g.ag, .int .i64 g.ct]

theorem guard_ok (cr hf : Int) (w : World) (h1 : 0 ≤ cr ∧ cr ≤ 1023) (h2 : 1 ≤ hf ∧ hf ≤ 127) :
    Calls Try.prog 6 #[.int .i64 cr, .int .i64 hf] w fun e w' => e = .returned (.tuple #[.agg (Gt.cells ⟨cr, 0, hf, false, false, false, 0⟩), .int .i64 0]) ∧ Below w.heap.size w w' := by
  go_enter Try.func6, Try.ntmps6
  go_wp2_with fail
  refine (in_yes _ _ _ _ h1).mono ?_
  rintro e w' ⟨rfl, rfl⟩
  go_wp2_with fail
  refine (in_yes _ _ _ _ h2).mono ?_
  rintro e w' ⟨rfl, rfl⟩
  go_wp2_with fail
  have A := heap_alloc_new w (.cells #[.int .i64 cr, .int .i64 0, .int .i64 hf, .bool false, .bool false, .bool false, .int .i64 0] 25)
  have B := below_alloc w (.cells #[.int .i64 cr, .int .i64 0, .int .i64 hf, .bool false, .bool false, .bool false, .int .i64 0] 25)
  generalize w.alloc (.cells #[.int .i64 cr, .int .i64 0, .int .i64 hf, .bool false, .bool false, .bool false, .int .i64 0] 25) = V at *
  have g0 : V.cell? ⟨w.heap.size, 0, none⟩ = some (.int .i64 cr) := by rw [cell_of_row _ _ _ _ _ _ A]; rfl
  have g1 : V.cell? ⟨w.heap.size, 1, none⟩ = some (.int .i64 0) := by rw [cell_of_row _ _ _ _ _ _ A]; rfl
  have g2 : V.cell? ⟨w.heap.size, 2, none⟩ = some (.int .i64 hf) := by rw [cell_of_row _ _ _ _ _ _ A]; rfl
  have g3 : V.cell? ⟨w.heap.size, 3, none⟩ = some (.bool false) := by rw [cell_of_row _ _ _ _ _ _ A]; rfl
  have g4 : V.cell? ⟨w.heap.size, 4, none⟩ = some (.bool false) := by rw [cell_of_row _ _ _ _ _ _ A]; rfl
  have g5 : V.cell? ⟨w.heap.size, 5, none⟩ = some (.bool false) := by rw [cell_of_row _ _ _ _ _ _ A]; rfl
  have g6 : V.cell? ⟨w.heap.size, 6, none⟩ = some (.int .i64 0) := by rw [cell_of_row _ _ _ _ _ _ A]; rfl
  refine bodyPost_ret (by simp only [results, Try.results6, go_sem]; simp [go_sem, g0, g1, g2, g3, g4, g5, g6]; rfl) rfl ?_
  exact ⟨rfl, B⟩

/-- a gate that may be -/
def Gt.ok (g : Gt) : Prop := (0 ≤ g.cr ∧ g.cr ≤ 1023) ∧ (1 ≤ g.hf ∧ g.hf ≤ 127) ∧ (0 ≤ g.nx ∧ g.nx ≤ 255) ∧ (0 ≤ g.ct ∧ g.ct ≤ 3)

/-- the gate's cells, one by one -/
structure GtAt (W : World) (b : Nat) (g : Gt) : Prop where
  lt : b < W.heap.size
  c0 : W.cell? ⟨b, 0, none⟩ = some (.int .i64 g.cr)
  c1 : W.cell? ⟨b, 1, none⟩ = some (.int .i64 g.nx)
  c2 : W.cell? ⟨b, 2, none⟩ = some (.int .i64 g.hf)
  c3 : W.cell? ⟨b, 3, none⟩ = some (.bool g.sh)
  c4 : W.cell? ⟨b, 4, none⟩ = some (.bool g.wa)
  c5 : W.cell? ⟨b, 5, none⟩ = some (.bool g.ag)
  c6 : W.cell? ⟨b, 6, none⟩ = some (.int .i64 g.ct)
theorem gtAt_row {W : World} {b : Nat} {g : Gt} {e : TypeId} (A : W.heap[b]? = some (.cells g.cells e)) : GtAt W b g :=
  ⟨(Array.getElem?_eq_some_iff.1 A).1, by rw [cell_of_row _ _ _ _ _ _ A]; rfl, by rw [cell_of_row _ _ _ _ _ _ A]; rfl, by rw [cell_of_row _ _ _ _ _ _ A]; rfl, by rw [cell_of_row _ _ _ _ _ _ A]; rfl, by rw [cell_of_row _ _ _ _ _ _ A]; rfl, by rw [cell_of_row _ _ _ _ _ _ A]; rfl, by rw [cell_of_row _ _ _ _ _ _ A]; rfl⟩
theorem GtAt.below {W W' : World} {b : Nat} {g : Gt} (h : GtAt W b g) (hb : Below W.heap.size W W') : GtAt W' b g :=
  ⟨Nat.lt_of_lt_of_le h.lt hb.size, (hb.cell (p := ⟨b, 0, none⟩) h.lt).trans h.c0, (hb.cell (p := ⟨b, 1, none⟩) h.lt).trans h.c1, (hb.cell (p := ⟨b, 2, none⟩) h.lt).trans h.c2, (hb.cell (p := ⟨b, 3, none⟩) h.lt).trans h.c3, (hb.cell (p := ⟨b, 4, none⟩) h.lt).trans h.c4, (hb.cell (p := ⟨b, 5, none⟩) h.lt).trans h.c5, (hb.cell (p := ⟨b, 6, none⟩) h.lt).trans h.c6⟩

theorem stands_ok (g : Gt) (hg : g.ok) (w : World) : Calls Try.prog 13 #[.agg g.cells] w fun e w' => e = .returned (.bool true) ∧ Below w.heap.size w w' := by
  obtain ⟨cr, nx, hf, sh, wa, ag, ct⟩ := g
  obtain ⟨h1, h2, h3, h4⟩ := hg
  simp only at h1 h2 h3 h4
  have A := heap_alloc_new w (.cells (Gt.cells ⟨cr, nx, hf, sh, wa, ag, ct⟩) 25)
  have BA := below_alloc w (.cells (Gt.cells ⟨cr, nx, hf, sh, wa, ag, ct⟩) 25)
  have G := gtAt_row A
  clear A
  unfold Gt.cells at *
  simp only at *
  go_enter Try.func13, Try.ntmps13
  go_wp2_with fail
  refine (guard_ok _ _ _ h1 h2).mono ?_
  rintro e V ⟨rfl, B⟩
  have G := G.below B
  have BV := BA.trans (B.mono BA.size)
  have BN := below_alloc V (.cells (Gt.cells ⟨cr, 0, hf, false, false, false, 0⟩) 25)
  have G := G.below BN
  have BV := BV.trans (BN.mono BV.size)
  unfold Gt.cells at *
  simp only at *
  obtain ⟨_, c0, c1, c2, c3, c4, c5, c6⟩ := G
  simp only at c0 c1 c2 c3 c4 c5 c6
  clear B BA BN
  go_wp2_with fail
  generalize V.alloc (.cells #[.int .i64 cr, .int .i64 0, .int .i64 hf, .bool false, .bool false, .bool false, .int .i64 0] 25) = W at *
  refine (in_yes _ _ _ _ h3).mono ?_
  rintro e w' ⟨rfl, rfl⟩
  go_wp2_with fail
  refine (in_yes _ _ _ _ h4).mono ?_
  rintro e w' ⟨rfl, rfl⟩
  go_wp2_with fail
  go_ret
  exact ⟨rfl, BV⟩

/-- an order that may be -/
theorem may_ok (cr : Int) (by_ co : Bool) (sq : Int) (a : Option Addr) (n c : Nat) (w : World) (h1 : 0 ≤ cr ∧ cr ≤ 1023) (h2 : 0 ≤ sq ∧ sq ≤ 255) (h3 : co = true → by_ = true) (h4 : 1 ≤ n ∧ n ≤ 1017) :
    Calls Try.prog 14 #[.agg #[.int .i64 cr, .bool by_, .bool co, .int .i64 sq, .slice a n c]] w fun e w' => e = .returned (.int .i64 0) ∧ Below w.heap.size w w' := by
  have A := heap_alloc_new w (.cells #[.int .i64 cr, .bool by_, .bool co, .int .i64 sq, .slice a n c] 33)
  have BA := below_alloc w (.cells #[.int .i64 cr, .bool by_, .bool co, .int .i64 sq, .slice a n c] 33)
  go_enter Try.func14, Try.ntmps14
  obtain ⟨W, hW⟩ : ∃ W, W = w.alloc (.cells #[.int .i64 cr, .bool by_, .bool co, .int .i64 sq, .slice a n c] 33) := ⟨_, rfl⟩
  rw [← hW] at A BA
  have c0 : W.cell? ⟨w.heap.size, 0, none⟩ = some (.int .i64 cr) := by rw [cell_of_row _ _ _ _ _ _ A]; rfl
  have c1 : W.cell? ⟨w.heap.size, 1, none⟩ = some (.bool by_) := by rw [cell_of_row _ _ _ _ _ _ A]; rfl
  have c2 : W.cell? ⟨w.heap.size, 2, none⟩ = some (.bool co) := by rw [cell_of_row _ _ _ _ _ _ A]; rfl
  have c3 : W.cell? ⟨w.heap.size, 3, none⟩ = some (.int .i64 sq) := by rw [cell_of_row _ _ _ _ _ _ A]; rfl
  have c4 : W.cell? ⟨w.heap.size, 4, none⟩ = some (.slice a n c) := by rw [cell_of_row _ _ _ _ _ _ A]; rfl
  have hW' := hW.symm
  clear hW A
  go_wp2_with fail
  clear hW'
  refine (in_yes _ _ _ _ h1).mono ?_
  rintro e w' ⟨rfl, rfl⟩
  go_wp2_with fail
  refine (in_yes _ _ _ _ h2).mono ?_
  rintro e w' ⟨rfl, rfl⟩
  cases co <;> cases by_
  · go_wp2_with fail
    refine (in_yes _ _ _ _ (by omega)).mono ?_
    rintro e w' ⟨rfl, rfl⟩
    go_wp2_with fail
    go_ret
    exact ⟨rfl, BA⟩
  · go_wp2_with fail
    refine (in_yes _ _ _ _ (by omega)).mono ?_
    rintro e w' ⟨rfl, rfl⟩
    go_wp2_with fail
    go_ret
    exact ⟨rfl, BA⟩
  · exact absurd (h3 rfl) (by simp)
  · go_wp2_with fail
    refine (in_yes _ _ _ _ (by omega)).mono ?_
    rintro e w' ⟨rfl, rfl⟩
    go_wp2_with fail
    go_ret
    exact ⟨rfl, BA⟩
end Go.Proofs.Ytkngoomkmbkenaa
