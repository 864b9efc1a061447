/- Passes: a plan in memory; of, fits. -/
import Derived.Test.YtfbchmihkndfaaaSort4P
import Derived.Test.YtfbchmihkndfaaaFlat
namespace Go.Proofs.Ytfbchmihkndfaaa
set_option linter.unusedVariables false
open Go.RowKit

structure Best where
  w : Nat
  c : Nat
  nx : Int
instance : Inhabited Best := ⟨⟨0, 0, -1⟩⟩
def bcl (b : Best) : List Value := [.int .i64 (b.w : Int), .int .i64 (b.c : Int), .int .i64 b.nx]
theorem bcl_len (b : Best) : (bcl b).length = 3 := rfl
def bAt (bs : List Best) (i : Nat) : Best := bs.getD i default
/-- a plan -/
structure PlanM (W : World) (P bb n cap gap : Nat) (la : Option Addr) (l : List Ps) (bs : List Best) : Prop where
  box : W.heap[P]? = some (.cells #[.slice la n cap, .int .i64 (gap : Int), .slice (some ⟨bb, 0, none⟩) n n] 55)
  bst : W.heap[bb]? = some (.cells (bs.flatMap bcl).toArray 59)
  bl : bs.length = n
  ps : RdPs W la n cap l
theorem PlanM.below {W W' : World} {P bb n cap gap : Nat} {la : Option Addr} {l : List Ps} {bs : List Best} (h : PlanM W P bb n cap gap la l bs) (hb : Below W.heap.size W W') : PlanM W' P bb n cap gap la l bs :=
  ⟨row_below h.box hb, row_below h.bst hb, h.bl, h.ps.below hb⟩
theorem PlanM.at_ {W : World} {P bb n cap gap : Nat} {la : Option Addr} {l : List Ps} {bs : List Best} (h : PlanM W P bb n cap gap la l bs) (i : Nat) (hi : i < n) :
    W.cell? ⟨bb, i * 3, none⟩ = some (.int .i64 ((bAt bs i).w : Int)) ∧ W.cell? ⟨bb, i * 3 + 1, none⟩ = some (.int .i64 ((bAt bs i).c : Int)) ∧ W.cell? ⟨bb, i * 3 + 2, none⟩ = some (.int .i64 (bAt bs i).nx) := by
  have hb := h.bl
  have e : bAt bs i = bs[i]'(by omega) := by
    unfold bAt
    rw [List.getD_eq_getElem?_getD, List.getElem?_eq_getElem (by omega)]
    rfl
  have hc := fun k (hk : k < 3) => flat_at bcl 3 bcl_len bs i (by omega) k hk
  rw [e]
  refine ⟨?_, ?_, ?_⟩
  · have := hc 0 (by decide)
    rw [Nat.add_zero] at this
    rw [cell_of_row _ _ _ _ _ _ h.bst, List.getElem?_toArray, this]
    rfl
  · rw [cell_of_row _ _ _ _ _ _ h.bst, List.getElem?_toArray, hc 1 (by decide)]
    rfl
  · rw [cell_of_row _ _ _ _ _ _ h.bst, List.getElem?_toArray, hc 2 (by decide)]
    rfl
def ofB (bs : List Best) (i : Int) : Best := if i < 0 then ⟨0, 0, -1⟩ else bAt bs i.toNat
theorem Try.results19' : True := trivial
set_option maxRecDepth 100000 in
set_option maxHeartbeats 1000000 in
theorem of_ok (P bb n cap gap : Nat) (la : Option Addr) (l : List Ps) (bs : List Best) (i : Int) (hi : i < n) (hn : n ≤ 9) (w : World) (h : PlanM w P bb n cap gap la l bs) :
    Calls Try.prog 19 #[.pointer (some ⟨P, 0, none⟩), .int .i64 i] w fun e w' => e = .returned (.agg #[.int .i64 ((ofB bs i).w : Int), .int .i64 ((ofB bs i).c : Int), .int .i64 (ofB bs i).nx]) ∧ Below w.heap.size w w' := by
  have ho : Hid (ofB bs i = if i < 0 then ⟨0, 0, -1⟩ else bAt bs i.toNat) := rfl
  generalize ofB bs i = o at *
  by_cases h0 : i < 0
  · rw [if_pos h0] at ho
    have d1 : decide (i < 0) = true := decide_eq_true h0
    have b1 := hid (below_alloc w (.cells #[.int .i64 0, .int .i64 0, .int .i64 (-1)] 59))
    have r1 := hid (heap_alloc_new w (.cells #[.int .i64 0, .int .i64 0, .int .i64 (-1)] 59))
    clear h h0
    go_enter Try.func19, Try.ntmps19
    go_wp2_with fail
    generalize w.alloc (.cells #[.int .i64 0, .int .i64 0, .int .i64 (-1)] 59) = U at *
    refine bodyPost_ret (results_cell_row rfl _ _ w.heap.size 59 #[.int .i64 0, .int .i64 0, .int .i64 (-1)] (0, 0) _ rfl r1.out Try.underlying59 rfl (by kernel_rfl)) rfl ⟨?_, b1.out⟩
    rw [ho.out]
    rfl
  · rw [if_neg h0] at ho
    obtain ⟨k, rfl⟩ := Int.eq_ofNat_of_zero_le (by omega : 0 ≤ i)
    rw [Int.toNat_natCast] at ho
    have hk : k < n := by omega
    have d1 : decide ((k : Int) < 0) = false := decide_eq_false h0
    obtain ⟨c0, c1, c2⟩ := h.at_ k hk
    rw [← ho.out] at c0 c1 c2
    have p2 : w.cell? ⟨P, 2, none⟩ = some (.slice (some ⟨bb, 0, none⟩) n n) := by rw [cell_of_row _ _ _ _ _ _ h.box]; rfl
    have hbl := row_lt h.bst
    have hPl := row_lt h.box
    obtain ⟨ow, oc, on⟩ := o
    dsimp only at *
    have b1 := hid (below_alloc w (.cells #[.int .i64 (ow : Int), .int .i64 (oc : Int), .int .i64 on] 59))
    have r1 := hid (heap_alloc_new w (.cells #[.int .i64 (ow : Int), .int .i64 (oc : Int), .int .i64 on] 59))
    clear h h0 ho
    go_enter Try.func19, Try.ntmps19
    go_wp2_with fail
    generalize w.alloc (.cells #[.int .i64 (ow : Int), .int .i64 (oc : Int), .int .i64 on] 59) = U at *
    exact bodyPost_ret (results_cell_row rfl _ _ w.heap.size 59 #[.int .i64 (ow : Int), .int .i64 (oc : Int), .int .i64 on] (0, 0) _ rfl r1.out Try.underlying59 rfl (by kernel_rfl)) rfl ⟨rfl, b1.out⟩
end Go.Proofs.Ytfbchmihkndfaaa
