/- Stream: what Take hands out: the found, one by one, each with bytes of its own. -/
import Derived.Test.YtlbpmepifegeiaaChunk
import Derived.Test.YtlbpmepifegeiaaReadP
import Derived.Test.YtlbpmepifegeiaaRunP
import Derived.Test.YtlbpmepifegeiaaClone
namespace Go.Proofs.Ytlbpmepifegeiaa
set_option linter.unusedVariables false
set_option linter.unusedSimpArgs false
open Go.RowKit Go.Shelf
attribute [local go_sem] Oper.semAt_some

def encFd (x : Fd) : Array Value := #[.agg #[.int .i64 (x.pos : Int), .bool x.tu, .int .i64 (x.mi : Int), .slice x.da x.dn x.dc]]
theorem fd_len (x : Fd) : x.cells.length = 4 := rfl

/-- the found lie there -/
structure FdsAt (W : World) (lb : Nat) (la : Option Addr) (ln lc : Nat) (F : List Fd) : Prop where
  box : W.heap[lb]? = some (.cells #[.slice la ln lc] 33)
  row : W.ownsRow 0 35 4 (.slice la ln lc) ln (fcs F)
  len : ln = F.length
  ins : ∀ f ∈ F, f.In W 0
  big : ln ≤ 140737488355328
  small : ∀ f ∈ F, f.dn ≤ 1048576
theorem FdsAt.below {W W' : World} {lb : Nat} {la : Option Addr} {ln lc : Nat} {F : List Fd} (h : FdsAt W lb la ln lc F) (hb : Below W.heap.size W W') : FdsAt W' lb la ln lc F :=
  ⟨row_below h.box hb, ownsRow_below h.row hb, h.len, fun f hf => ⟨ownsRow_below (h.ins f hf).1 hb, (h.ins f hf).2⟩, h.big, h.small⟩

set_option maxRecDepth 100000 in
set_option maxHeartbeats 2000000 in
theorem found18 (n : Nat) (hn : 1 ≤ n) (l lb : Nat) (la : Option Addr) (ln lc : Nat) (F : List Fd) (W1 : World) (hA : FdsAt W1 lb la ln lc F) (J Jx : List Fd → World → Prop)
    (hJb : ∀ pre A B, J pre A → Below A.heap.size A B → J pre B)
    (hY : ∀ pre x W, J pre W → pre.length < ln → x.In W W1.heap.size → x.fo = (F.getD pre.length x).fo → YieldAt Fence.wide (n - 1) Try.prog l (encFd x) W fun e W' =>
      (e = .returned (.bool true) ∧ J (pre ++ [x]) W' ∧ Below W1.heap.size W W') ∨ (e = .returned (.bool false) ∧ Jx (pre ++ [x]) W'))
    (W : World) (hb : Below W1.heap.size W1 W) (h0 : J [] W) :
    CallsIn Fence.wide n Try.prog 18 #[.func (.yield l) #[] #[], .pointer (some ⟨lb, 0, none⟩)] W fun e W' => (∃ v, e = .returned v) ∧
      ((∃ ys, ys.map Fd.fo = F.map Fd.fo ∧ J ys W') ∨ (∃ pre, pre.map Fd.fo <+: F.map Fd.fo ∧ Jx pre W')) := by
  have hro : Fence.wide.round = none := rfl
  have hbig := hA.big
  have h1 : W.cell? ⟨lb, 0, none⟩ = some (.slice la ln lc) := (hb.cell (p := ⟨lb, 0, none⟩) (row_lt hA.box)).trans (by rw [cell_of_row _ _ _ _ _ _ hA.box]; rfl)
  refine callsIn_of_wp Try.func18 rfl trivial ?_ hro
  simp only [Try.ntmps18, List.size_toArray, List.length_cons, List.length_nil, Nat.reduceAdd, Nat.reduceSub, Array.replicate_succ, Array.replicate_zero, List.push_toArray, List.append_toArray, List.nil_append, List.cons_append]
  gi_wp2
  gi_loopw [4, 7] (fun bx i wr => ∃ (k : Nat) (pre : List Fd), k ≤ ln ∧ i = .int .i64 (k : Int) ∧ pre.map Fd.fo = (F.take k).map Fd.fo ∧ J pre wr ∧ Below W1.heap.size W1 wr)
    (fun _ i _ => (ln - (intOf i).toNat))
  case atStart => exact ⟨0, [], Nat.zero_le _, by simp, rfl, h0, hb⟩
  case round =>
    obtain ⟨k, pre, hk, rfl, hpre, hJs, hnx⟩ := hrel
    by_cases hlt : k < ln
    · have hAr := hA
      have rowW := ownsRow_below hA.row (hnx.mono (Nat.le_refl _))
      obtain ⟨g, rfl⟩ := own_addr rowW (by omega)
      have hkF : k < F.length := by rw [← hA.len]; exact hlt
      obtain ⟨x0, hx0⟩ : ∃ x0, x0 = F[k] := ⟨_, rfl⟩
      have hx0m : x0 ∈ F := by rw [hx0]; exact List.getElem_mem hkF
      have m0 : wr.cell? ⟨g, k * 4, none⟩ = some (.int .i64 (x0.pos : Int)) := by
        have := own_flat Fd.cells fd_len rowW hA.len.symm k hlt 0 (by decide)
        rw [hx0]; simpa [Fd.cells] using this
      have m1 : wr.cell? ⟨g, k * 4 + 1, none⟩ = some (.bool x0.tu) := by
        have := own_flat Fd.cells fd_len rowW hA.len.symm k hlt 1 (by decide)
        rw [hx0]; simpa [Fd.cells] using this
      have m2 : wr.cell? ⟨g, k * 4 + 2, none⟩ = some (.int .i64 (x0.mi : Int)) := by
        have := own_flat Fd.cells fd_len rowW hA.len.symm k hlt 2 (by decide)
        rw [hx0]; simpa [Fd.cells] using this
      have m3 : wr.cell? ⟨g, k * 4 + 3, none⟩ = some (.slice x0.da x0.dn x0.dc) := by
        have := own_flat Fd.cells fd_len rowW hA.len.symm k hlt 3 (by decide)
        rw [hx0]; simpa [Fd.cells] using this
      have hin := hA.ins x0 hx0m
      have hsm := hA.small x0 hx0m
      have t1 : (k : Int) < (ln : Int) := by omega
      have Hx0 := hid hx0
      clear hx0 hA rowW
      gi_wp2
      refine ⟨trivial, callsIn_wide.2 ?_⟩
      have bA := below_alloc wr (.cells #[.int .i64 (x0.pos : Int), .bool x0.tu, .int .i64 (x0.mi : Int), .slice x0.da x0.dn x0.dc] 35)
      have A0 := heap_alloc_new wr (.cells #[.int .i64 (x0.pos : Int), .bool x0.tu, .int .i64 (x0.mi : Int), .slice x0.da x0.dn x0.dc] 35)
      generalize wr.alloc (.cells #[.int .i64 (x0.pos : Int), .bool x0.tu, .int .i64 (x0.mi : Int), .slice x0.da x0.dn x0.dc] 35) = V at *
      have hrd : Rd V x0.da x0.dn x0.dc (vb x0.ds) := ((Rd.ofOwn hin.1).below (hnx.mono (Nat.le_refl _))).below bA
      refine (clone_any _ _ _ _ V hrd (by omega)).mono ?_
      rintro e V2 ⟨ca, cc, rfl, oC, b2⟩
      have A2 := row_below A0 b2
      obtain ⟨A3, g3⟩ := set_row (cs' := #[.int .i64 (x0.pos : Int), .bool x0.tu, .int .i64 (x0.mi : Int), .slice ca x0.dn cc]) A2 3 (.slice ca x0.dn cc) rfl
      have oC3 := oC.kept g3 (own_ne oC A2 (by decide))
      have bV : Below wr.heap.size wr V2 := bA.trans (b2.mono bA.size)
      have bW3 : Below wr.heap.size wr (V2.setCell ⟨wr.heap.size, 3, none⟩ (.slice ca x0.dn cc)) := bV.grown g3 bV.size (fun r e => by cases e; exact Nat.le_refl _)
      have c3 : V2.cell? ⟨wr.heap.size, 3, none⟩ = some (.slice x0.da x0.dn x0.dc) := by rw [cell_of_row _ _ _ _ _ _ A2]; rfl
      have f3 : V2.frozen? ⟨wr.heap.size, 3, none⟩ = false := frozen_row A2 3
      have bxl : wr.heap.size < V2.heap.size := row_lt A2
      obtain ⟨V3, hV3⟩ : ∃ V3, V3 = V2.setCell ⟨wr.heap.size, 3, none⟩ (.slice ca x0.dn cc) := ⟨_, rfl⟩
      rw [← hV3] at A3 oC3 bW3
      have hV3' := hV3.symm
      clear hV3 g3
      have d0 : V3.cell? ⟨wr.heap.size, 0, none⟩ = some (.int .i64 (x0.pos : Int)) := by rw [cell_of_row _ _ _ _ _ _ A3]; rfl
      have d1 : V3.cell? ⟨wr.heap.size, 1, none⟩ = some (.bool x0.tu) := by rw [cell_of_row _ _ _ _ _ _ A3]; rfl
      have d2 : V3.cell? ⟨wr.heap.size, 2, none⟩ = some (.int .i64 (x0.mi : Int)) := by rw [cell_of_row _ _ _ _ _ _ A3]; rfl
      have d3 : V3.cell? ⟨wr.heap.size, 3, none⟩ = some (.slice ca x0.dn cc) := by rw [cell_of_row _ _ _ _ _ _ A3]; rfl
      have hpl : pre.length = k := by
        have := congrArg List.length hpre
        simp at this
        omega
      have hJ3 := hJb _ _ _ hJs bW3
      have hb3 : Below W1.heap.size W1 V3 := hnx.trans (bW3.mono hnx.size)
      have hinx : (Fd.mk x0.pos x0.tu x0.mi ca x0.dn cc x0.ds).In V3 W1.heap.size := ⟨ownsRow_mono oC3 (Nat.le_trans hnx.size bA.size), hin.2⟩
      have hfo : (Fd.mk x0.pos x0.tu x0.mi ca x0.dn cc x0.ds).fo = (F.getD pre.length (Fd.mk x0.pos x0.tu x0.mi ca x0.dn cc x0.ds)).fo := by
        rw [hpl, List.getD_eq_getElem?_getD, List.getElem?_eq_getElem hkF, Option.getD_some, ← Hx0.out]; rfl
      obtain ⟨fn, tmps, assign, body, hy, hR⟩ := hY pre ⟨x0.pos, x0.tu, x0.mi, ca, x0.dn, cc, x0.ds⟩ V3 hJ3 (by omega) hinx hfo
      dsimp only [encFd] at hy
      have HY := hid (show pre.map Fd.fo ++ [(Fd.mk x0.pos x0.tu x0.mi ca x0.dn cc x0.ds).fo] = (F.take (k + 1)).map Fd.fo from by
        rw [List.take_add_one, List.getElem?_eq_getElem hkF, Option.toList_some, List.map_append, hpre, ← Hx0.out]; rfl)
      have HPL := hid hpl
      clear hJs hnx hJb A0 A2 A3 oC oC3 hpl hfo hpre hinx m0 m1 m2 m3
      gi_wp2
      refine hR.mono ?_
      clear hy hR hY hAr
      rintro e W3 (⟨rfl, hJ4, hk4⟩ | ⟨rfl, hJx4⟩)
      · have hb4 := hb3.trans hk4
        clear c3 f3 d0 d1 d2 d3
        gi_wp2
        go_roundw
        case rel => exact ⟨k + 1, _, by omega, by go_num, by rw [List.map_append]; exact HY.out, hJ4, hb4⟩
        case measure => simp [intOf]; omega
      · gi_wp2
        refine bodyPost_ret (results_none rfl _ _ _) rfl ?_
        exact ⟨⟨_, rfl⟩, .inr ⟨_, ⟨(F.drop (k + 1)).map Fd.fo, by rw [List.map_append, List.map_cons, List.map_nil, HY.out, ← List.map_append, List.take_append_drop]⟩, hJx4⟩⟩
    · obtain rfl : k = ln := by omega
      have hl := hA.len
      have hys : pre.map Fd.fo = F.map Fd.fo := by rw [hpre, hl, List.take_length]
      clear hpre hl
      gi_wp2
      go_end0
      exact ⟨⟨_, rfl⟩, .inl ⟨_, hys, hJs⟩⟩
end Go.Proofs.Ytlbpmepifegeiaa
