/- MemoryHolds: New, Tell, and Remember. -/
import Derived.Test.YtgacnbildligjaaDoorPokes
import Derived.Test.YtgacnbildligjaaDoorAppend
import Derived.Maps.AppendAt
import Derived.Laws.MakeOwn
namespace Go.Proofs.YtgacnbildligjaaDoor
set_option linter.unusedVariables false
open Go.RowKit

theorem tell_nil (w : World) : Calls Tryd.prog 13 #[.nilIface] w fun e w' => e = .returned (.int .i64 0) ∧ w = w' := by
  go_enter Tryd.func13, Tryd.ntmps13
  go_wp2_with fail
  go_ret
  exact ⟨rfl, rfl⟩
theorem as_nil (v : Value) (w : World) : Calls Tryd.prog 19 #[.nilIface, v] w fun e w' => e = .returned (.bool false) ∧ w = w' := by
  go_enter Tryd.func19, Tryd.ntmps19
  go_wp2_with fail
  go_ret
  exact ⟨rfl, rfl⟩
theorem Tryd.info3 : (Tryd.prog.info? 3).map (fun i => (i.zero, i.size, i.bytes)) = some (some (.int .i64 0), 1, 8) := by kernel_rfl
theorem Tryd.info38 : (Tryd.prog.info? 38).map (fun i => (i.zero, i.size, i.bytes)) = some (some (.agg #[.int .i64 0, .slice none 0 0, .int .i64 0, .int .i64 0]), 4, 48) := by kernel_rfl
theorem run_mk (m : Nat) (hm : m ≤ 4096) (u : World) : (Instr.makeSlice 29 (.int .i64 (m : Int)) (.int .i64 (m : Int))).run Tryd.prog u =
    .ok (.slice (some ⟨u.heap.size, 0, none⟩) m m) (u.alloc (.cells (madeCells #[.int .i64 0] m) 3)) := by
  obtain ⟨i0, hi, hz0, hz1, hz2⟩ := info_parts Tryd.info3
  have h := run_make (P := Tryd.prog) u 29 3 i0 (.int .i64 0) Tryd.underlying29 hi hz0 .i64 .i64 (m : Int) (m : Int) (by omega) (Int.le_refl _) (by rw [hz2]; omega) (by omega)
  simpa [hz1, Value.cells] using h
theorem made_ci (m : Nat) : madeCells #[.int .i64 0] m = ci (List.replicate m 0) := by
  apply Array.toList_inj.1
  rw [toList_madeCells_one]
  simp [ci]

set_option maxRecDepth 100000 in
theorem new_ok (N : Nat) (hN : 1 ≤ N ∧ N ≤ 4096) (w : World) : Calls Tryd.prog 12 #[.int .i64 (N : Int)] w fun e w' => ∃ mb cb, e = .returned (.tuple #[.pointer (some ⟨mb, 0, none⟩), .nilIface]) ∧ w.heap.size ≤ mb ∧ w.heap.size ≤ cb ∧ Mem w' mb cb (List.replicate N 0) 0 ∧ Below w.heap.size w w' := by
  have t1 : ¬ (N : Int) < 1 := by omega
  have t2 : ¬ (4096 : Int) < (N : Int) := by omega
  have k1 := run_mk N hN.2
  rw [made_ci] at k1
  have hl : (List.replicate N 0).length = N := by simp
  have HL := hid hl
  clear hl
  generalize List.replicate N 0 = cs at *
  go_enter Tryd.func12, Tryd.ntmps12
  go_wp2_with fail
  go_ret2
  have A := heap_alloc_new w (.cells (ci cs) 3)
  have bA := below_alloc w (.cells (ci cs) 3)
  have hsz : (w.alloc (.cells (ci cs) 3)).heap.size = w.heap.size + 1 := by simp
  generalize w.alloc (.cells (ci cs) 3) = w1 at *
  have A2 := heap_alloc_new w1 (.cells #[.slice (some ⟨w.heap.size, 0, none⟩) N N, .int .i64 0] 69)
  have bA2 := below_alloc w1 (.cells #[.slice (some ⟨w.heap.size, 0, none⟩) N N, .int .i64 0] 69)
  refine ⟨_, rfl, Nat.le_succ _, w.heap.size, Nat.le_refl _, ⟨?_, row_below A bA2⟩, bA.trans (bA2.mono bA.size)⟩
  rw [HL.out, ← hsz]; exact A2

/-- the pokes that came in -/
structure RdP (w : World) (ao : Option Addr) (n : Nat) (ps : List Pk) : Prop where
  len : ps.length = n
  mem : 0 < n → ∃ b, ao = some ⟨b, 0, none⟩ ∧ b < w.heap.size ∧ ∀ j (h : j < ps.length) k, k < 3 → w.cell? ⟨b, j * 3 + k, none⟩ = (pk3 ps[j])[k]?

theorem res_snoc {rs : Nat → Option Nat} {R : List Nat} {i r : Nat} (h : ∀ j, j < i → ∀ v, rs j = some v → R.getD j 0 = v) (hl : R.length = i) (hr : ∀ v, rs i = some v → r = v) : ∀ j, j < i + 1 → ∀ v, rs j = some v → (R ++ [r]).getD j 0 = v := by
  intro j hj v hv
  rw [List.getD_eq_getElem?_getD]
  by_cases e : j = i
  · subst e
    rw [List.getElem?_append_right (by omega), hl, Nat.sub_self]
    exact hr v hv
  · rw [List.getElem?_append_left (by omega), ← List.getD_eq_getElem?_getD]
    exact h j (by omega) v hv
theorem new4 (w : World) (r : Nat) : ∀ (j : Nat) (x : Value), (po4 r)[j]? = some x → (w.alloc (.cells #[.int .i64 (r : Int), .slice none 0 0, .int .i64 0, .int .i64 0] 38)).cell? ((⟨w.heap.size, 0, none⟩ : Addr).add j) = some x := new_cells w (po4 r) 38

set_option maxHeartbeats 4000000 in
set_option maxRecDepth 100000 in
theorem remember_ok (N : Nat) (hN : 1 ≤ N ∧ N ≤ 4096) (sa : Option Addr) (n sc : Nat) (ps : List Pk) (rs : Nat → Option Nat) (σ : Wd) (w0 : World) (hP : RdP w0 sa n ps) (hn : n ≤ 100000) (hR : Run N ps rs σ) (hT0 : TabAt w0) :
    Calls Tryd.prog 8 #[.int .i64 (N : Int), .slice sa n sc] w0 fun e w' => ∃ (oa : Option Addr) (oc : Nat) (R : List Nat), e = .returned (.tuple #[.slice oa n oc, .int .i64 0]) ∧ R.length = n ∧ (∀ j, j < n → ∀ v, rs j = some v → R.getD j 0 = v) ∧ w'.ownsRow w0.heap.size 38 4 (.slice oa n oc) n (R.flatMap po4) ∧ Below w0.heap.size w0 w' := by
  obtain ⟨i0, hi, hz0, hz1, hz2⟩ := info_parts Tryd.info38
  obtain ⟨st, hst0, hst1, hok⟩ := hR
  have hlt0 := hT0.lt
  go_enter Tryd.func8, Tryd.ntmps8
  go_wp2_with fail
  refine (new_ok N hN w0).mono ?_
  rintro e W0 ⟨mb, cb, rfl, hmb, hcb, hM0, hB0⟩
  go_wp2_with fail
  go_loopw [8, 30] (fun o' k' wr => ∃ (i : Nat) (cs R : List Nat) (oa : Option Addr) (oc : Nat), o' = .slice oa R.length oc ∧ k' = .int .i64 (i : Int) ∧ i ≤ n ∧ R.length = i ∧ Hid (∀ j, j < i → ∀ v, rs j = some v → R.getD j 0 = v) ∧ AllGood cs N (st i) ∧ Mem wr mb cb cs 0 ∧
      wr.ownsRow w0.heap.size 38 4 (.slice oa R.length oc) R.length (R.flatMap po4) ∧ Below w0.heap.size w0 wr) (fun _ k' _ => n - (intOf k').toNat)
  case atStart => exact ⟨0, List.replicate N 0, [], none, 0, rfl, rfl, Nat.zero_le _, rfl, (fun j hj => absurd hj (by omega)), ⟨by simp, fun j hj => by rw [hst0, show (List.replicate N 0).getD j 0 = 0 by simp [hj]]; exact good_zero⟩, hM0, World.ownsRow_nil _ _ _ _, hB0⟩
  case round =>
    clear hM0 hB0
    obtain ⟨i, cs, R, oa, oc, rfl, rfl, hi1, hRl, hRv, hA, hM, oR, hB⟩ := hrel
    by_cases hlt : i < n
    · have t1 : (i : Int) < (n : Int) := by omega
      have hlt' : i < ps.length := by rw [hP.len]; exact hlt
      have hstep := hok i hlt'
      obtain ⟨sb, rfl, hsb, hcell⟩ := hP.mem (by omega)
      have c0 := hcell i hlt' 0 (by decide)
      have c1 := hcell i hlt' 1 (by decide)
      have c2 := hcell i hlt' 2 (by decide)
      simp only [Nat.add_zero] at c0
      replace c0 := (hB.cell (p := ⟨sb, i * 3, none⟩) hsb).trans c0
      replace c1 := (hB.cell (p := ⟨sb, i * 3 + 1, none⟩) hsb).trans c1
      replace c2 := (hB.cell (p := ⟨sb, i * 3 + 2, none⟩) hsb).trans c2
      have HRl := hid hRl
      have HA := hid hA
      have hRb : R.length ≤ 100000 := by omega
      clear hRl hA
      have hT := hT0.below hB hlt0
      generalize ps[i] = p at *
      obtain ⟨s1, hs1⟩ : ∃ s, s = st i := ⟨_, rfl⟩
      obtain ⟨s2, hs2⟩ : ∃ s, s = st (i + 1) := ⟨_, rfl⟩
      obtain ⟨r, hr⟩ : ∃ r, r = rs i := ⟨_, rfl⟩
      rw [← hs1, ← hs2, ← hr] at hstep
      rw [← hs1] at HA
      have HS2 := hid hs2
      have HR := hid hr
      clear hs1 hs2 hr
      cases hstep with
      | load k x s1 s2 hk hu =>
        replace c0 : wr.cell? ⟨sb, i * 3, none⟩ = some (.int .i64 1) := c0
        replace c1 : wr.cell? ⟨sb, i * 3 + 1, none⟩ = some (.int .i64 (k : Int)) := c1
        replace c2 : wr.cell? ⟨sb, i * 3 + 2, none⟩ = some (.int .i64 (x : Int)) := c2
        have hB1 := hB.trans ((below_alloc wr (.cells #[.int .i64 1, .int .i64 (k : Int), .int .i64 (x : Int)] 33)).mono hB.size)
        have g1 := below_alloc wr (.cells #[.int .i64 1, .int .i64 (k : Int), .int .i64 (x : Int)] 33)
        have A1 := heap_alloc_new wr (.cells #[.int .i64 1, .int .i64 (k : Int), .int .i64 (x : Int)] 33)
        have z1 : (wr.alloc (.cells #[.int .i64 1, .int .i64 (k : Int), .int .i64 (x : Int)] 33)).heap.size = wr.heap.size + 1 := by simp
        have hx := heap_alloc_new (wr.alloc (.cells #[.int .i64 1, .int .i64 (k : Int), .int .i64 (x : Int)] 33)) (.cells #[.int .i64 0, .slice none 0 0, .int .i64 0, .int .i64 0] 38)
        have g2 := below_alloc (wr.alloc (.cells #[.int .i64 1, .int .i64 (k : Int), .int .i64 (x : Int)] 33)) (.cells #[.int .i64 0, .slice none 0 0, .int .i64 0, .int .i64 0] 38)
        rw [z1] at hx
        go_wp2_with fail
        generalize wr.alloc (.cells #[.int .i64 1, .int .i64 (k : Int), .int .i64 (x : Int)] 33) = W1 at *
        generalize W1.alloc (.cells #[.int .i64 0, .slice none 0 0, .int .i64 0, .int .i64 0] 38) = W2 at *
        have gg := g1.trans (g2.mono (by omega))
        have hM2 := hM.below gg
        have oR2 := ownsRow_below oR gg
        have hB2 := hB.trans (gg.mono hB.size)
        have hT2 := hT0.below hB2 hlt0
        have hxl : wr.heap.size + 1 ≠ mb ∧ wr.heap.size + 1 ≠ cb := ⟨fun e => by have := row_lt hM.m; omega, fun e => by have := row_lt hM.c; omega⟩
        have hxR : (Value.slice oa R.length oc).ownBlock ≠ some (wr.heap.size + 1) := fun e => by have := (oR.lt _ e).2; omega
        have hxo : w0.heap.size ≤ wr.heap.size + 1 := Nat.le_trans hB.size (Nat.le_succ _)
        clear g1 A1 z1 g2 gg hB1 hM oR hB hT c0 c1 c2 hcell
        generalize wr.heap.size + 1 = xb at *
        have HG := HA.out
        refine (load_ok mb cb k (s1 k).1 0 (s1 k).2 cs W2 hM2 (by rw [HG.1]; exact hk) (HG.2 k hk) hT2).mono ?_
        rintro e W3 ⟨c, rfl, hc, hM3, g3⟩
        have HA2 := hid (HG.set hk (by rw [hu.1]; exact hc) (fun j _ hj => hu.2 j hj))
        have hx3 := row_grown hx g3 hxl.2
        have K3 := Kept2.right (a := xb) g3
        have x1 : W3.cell? ⟨xb, 1, none⟩ = some (.slice none 0 0) := by rw [cell_of_row _ _ _ _ _ _ hx3]; rfl
        have x2 : W3.cell? ⟨xb, 2, none⟩ = some (.int .i64 0) := by rw [cell_of_row _ _ _ _ _ _ hx3]; rfl
        have x3 : W3.cell? ⟨xb, 3, none⟩ = some (.int .i64 0) := by rw [cell_of_row _ _ _ _ _ _ hx3]; rfl
        have x0 : W3.cell? ⟨xb, 0, none⟩ = some (.int .i64 0) := by rw [cell_of_row _ _ _ _ _ _ hx3]; rfl
        have xs0 := frozen_row hx3
        clear HG
        go_wp2_with fail
        refine (tell_nil _).mono ?_
        rintro e w' ⟨rfl, rfl⟩
        go_wp2_with fail
        refine (as_nil _ _).mono ?_
        rintro e w' ⟨rfl, rfl⟩
        have oR3 := K3.own oR2 hxR (fun e => (own_ne oR2 hM2.c (by decide)).elim (fun h => by rw [h] at e; cases e) (fun h => h e))
        have hB3 := hB2.trans (K3.below (B := w0.heap.size) (by omega) (by omega) hB2.size)
        clear x0 x1 x2 x3 xs0 hx K3 oR2 hM2 hB2 hT2
        obtain ⟨hx4, g4⟩ := set_row (cs' := #[.int .i64 ((s1 k).1 : Nat), .slice none 0 0, .int .i64 0, .int .i64 0]) hx3 0 (.int .i64 ((s1 k).1 : Nat)) rfl
        obtain ⟨hx5, g5⟩ := set_row (cs' := #[.int .i64 ((s1 k).1 : Nat), .slice none 0 0, .int .i64 0, .int .i64 0]) hx4 2 (.int .i64 0) rfl
        have g45 := grownBy_trans g4 g5
        clear g4 g5 hx4 hx3
        have z := Nat.le_refl 0
        generalize (W3.setCell ⟨xb, 0, none⟩ (.int .i64 ((s1 k).1 : Nat))).setCell ⟨xb, 2, none⟩ (.int .i64 0) = W5 at *
        have g6 := below_alloc W5 (.cells #[.pointer none] 59)
        have hx6 := row_below hx5 g6
        have oR6 := ownsRow_below (oR3.kept g45 (.inr hxR)) g6
        have hM6 := (hM3.grown g45 (fun e => hxl.1 e.symm) (fun e => hxl.2 e.symm)).below g6
        have hB5 := hB3.grown g45 hB3.size (fun k e => by cases e; exact hxo)
        have hB6 := hB5.trans (g6.mono hB5.size)
        clear g45 hx5 oR3 hM3 hB3 hB5 g6 hxR hxl
        generalize W5.alloc (.cells #[.pointer none] 59) = W6 at *
        have x0 : W6.cell? ⟨xb, 0, none⟩ = some (.int .i64 ((s1 k).1 : Nat)) := by rw [cell_of_row _ _ _ _ _ _ hx6]; rfl
        have x1 : W6.cell? ⟨xb, 1, none⟩ = some (.slice none 0 0) := by rw [cell_of_row _ _ _ _ _ _ hx6]; rfl
        have x2 : W6.cell? ⟨xb, 2, none⟩ = some (.int .i64 0) := by rw [cell_of_row _ _ _ _ _ _ hx6]; rfl
        have x3 : W6.cell? ⟨xb, 3, none⟩ = some (.int .i64 0) := by rw [cell_of_row _ _ _ _ _ _ hx6]; rfl
        clear hx6
        go_wp2_with (at_builtin; refine hold ?_)
        unfold Hid
        have g7 := below_alloc W6 (.cells #[.int .i64 ((s1 k).1 : Nat), .slice none 0 0, .int .i64 0, .int .i64 0] 38)
        have oR7 := ownsRow_below oR6 g7
        refine wpList_append_own_at _ rfl _ _ 34 rfl w0.heap.size 38 i0 _ 4 48 Tryd.underlying34 hi hz0 hz1 hz2 rfl (by decide) (.slice oa R.length oc) R.length (R.flatMap po4) rfl oR7 ⟨W6.heap.size, 0, none⟩ 1 1 (po4 (s1 k).1) rfl rfl (new4 W6 (s1 k).1) (by simp [po4, Value.oneCell']) (by unfold maxLen; omega) (by omega) (Nat.le_trans hB6.size g7.size) ?_
        intro v' W8 oV gV _ _
        obtain ⟨va', vc', rfl, _, _⟩ := own_slice oV
        have hM8 : Mem W8 mb cb (cs.set k c) 0 := by
          have h7 := hM6.below g7
          exact ⟨row_kept h7.m oR7 gV (by decide), row_kept h7.c oR7 gV (by decide)⟩
        have hB7 := hB6.trans (g7.mono hB6.size)
        have hB8 := hB7.grown gV hB7.size (fun k e => (oR7.lt k e).1)
        rw [← flat_snoc] at oV
        clear gV oR7 g7 hM6 oR6 hB6 hB7 x0 x1 x2 x3
        go_wp2_with fail
        go_roundw
        case rel => exact ⟨i + 1, (cs.set k c), R ++ [(s1 k).1], va', vc', by rw [List.length_append]; rfl, by go_num, by omega, by rw [List.length_append, HRl.out]; rfl, res_snoc hRv.out HRl.out (fun v hv => by rw [← HR.out] at hv; cases hv; rfl), by rw [← HS2.out]; exact HA2.out, hM8, by rw [List.length_append]; exact oV, hB8⟩
        case measure => simp [intOf]; omega

      | store k v s1 s2 hk hv hu =>
        replace c0 : wr.cell? ⟨sb, i * 3, none⟩ = some (.int .i64 2) := c0
        replace c1 : wr.cell? ⟨sb, i * 3 + 1, none⟩ = some (.int .i64 (k : Int)) := c1
        replace c2 : wr.cell? ⟨sb, i * 3 + 2, none⟩ = some (.int .i64 (v : Int)) := c2
        have hB1 := hB.trans ((below_alloc wr (.cells #[.int .i64 2, .int .i64 (k : Int), .int .i64 (v : Int)] 33)).mono hB.size)
        have g1 := below_alloc wr (.cells #[.int .i64 2, .int .i64 (k : Int), .int .i64 (v : Int)] 33)
        have A1 := heap_alloc_new wr (.cells #[.int .i64 2, .int .i64 (k : Int), .int .i64 (v : Int)] 33)
        have z1 : (wr.alloc (.cells #[.int .i64 2, .int .i64 (k : Int), .int .i64 (v : Int)] 33)).heap.size = wr.heap.size + 1 := by simp
        have hx := heap_alloc_new (wr.alloc (.cells #[.int .i64 2, .int .i64 (k : Int), .int .i64 (v : Int)] 33)) (.cells #[.int .i64 0, .slice none 0 0, .int .i64 0, .int .i64 0] 38)
        have g2 := below_alloc (wr.alloc (.cells #[.int .i64 2, .int .i64 (k : Int), .int .i64 (v : Int)] 33)) (.cells #[.int .i64 0, .slice none 0 0, .int .i64 0, .int .i64 0] 38)
        rw [z1] at hx
        go_wp2_with fail
        generalize wr.alloc (.cells #[.int .i64 2, .int .i64 (k : Int), .int .i64 (v : Int)] 33) = W1 at *
        generalize W1.alloc (.cells #[.int .i64 0, .slice none 0 0, .int .i64 0, .int .i64 0] 38) = W2 at *
        have gg := g1.trans (g2.mono (by omega))
        have hM2 := hM.below gg
        have oR2 := ownsRow_below oR gg
        have hB2 := hB.trans (gg.mono hB.size)
        have hT2 := hT0.below hB2 hlt0
        have hxl : wr.heap.size + 1 ≠ mb ∧ wr.heap.size + 1 ≠ cb := ⟨fun e => by have := row_lt hM.m; omega, fun e => by have := row_lt hM.c; omega⟩
        have hxR : (Value.slice oa R.length oc).ownBlock ≠ some (wr.heap.size + 1) := fun e => by have := (oR.lt _ e).2; omega
        have hxo : w0.heap.size ≤ wr.heap.size + 1 := Nat.le_trans hB.size (Nat.le_succ _)
        clear g1 A1 z1 g2 gg hB1 hM oR hB hT c0 c1 c2 hcell
        generalize wr.heap.size + 1 = xb at *
        have HG := HA.out
        refine (store_ok mb cb k v 0 cs W2 hM2 (by rw [HG.1]; exact hk) hv hT2).mono ?_
        rintro e W3 ⟨c, rfl, hc, hM3, g3⟩
        have HA2 := hid (HG.set hk (by rw [hu.1]; exact hc) (fun j _ hj => hu.2 j hj))
        have hx3 := row_grown hx g3 hxl.2
        have K3 := Kept2.right (a := xb) g3
        have x1 : W3.cell? ⟨xb, 1, none⟩ = some (.slice none 0 0) := by rw [cell_of_row _ _ _ _ _ _ hx3]; rfl
        have x2 : W3.cell? ⟨xb, 2, none⟩ = some (.int .i64 0) := by rw [cell_of_row _ _ _ _ _ _ hx3]; rfl
        have x3 : W3.cell? ⟨xb, 3, none⟩ = some (.int .i64 0) := by rw [cell_of_row _ _ _ _ _ _ hx3]; rfl
        have x0 : W3.cell? ⟨xb, 0, none⟩ = some (.int .i64 0) := by rw [cell_of_row _ _ _ _ _ _ hx3]; rfl
        have xs0 := frozen_row hx3
        clear HG
        go_wp2_with fail
        refine (tell_nil _).mono ?_
        rintro e w' ⟨rfl, rfl⟩
        go_wp2_with fail
        refine (as_nil _ _).mono ?_
        rintro e w' ⟨rfl, rfl⟩
        have oR3 := K3.own oR2 hxR (fun e => (own_ne oR2 hM2.c (by decide)).elim (fun h => by rw [h] at e; cases e) (fun h => h e))
        have hB3 := hB2.trans (K3.below (B := w0.heap.size) (by omega) (by omega) hB2.size)
        clear x0 x1 x2 x3 xs0 hx K3 oR2 hM2 hB2 hT2
        have hx4 : W3.heap[xb]? = some (.cells #[.int .i64 (0 : Nat), .slice none 0 0, .int .i64 0, .int .i64 0] 38) := hx3
        have g4 := World.grownBy.refl W3 (some xb)
        obtain ⟨hx5, g5⟩ := set_row (cs' := #[.int .i64 (0 : Nat), .slice none 0 0, .int .i64 0, .int .i64 0]) hx4 2 (.int .i64 0) rfl
        have g45 := grownBy_trans g4 g5
        clear g4 g5 hx4 hx3
        have z := Nat.le_refl 0
        generalize W3.setCell ⟨xb, 2, none⟩ (.int .i64 0) = W5 at *
        have g6 := below_alloc W5 (.cells #[.pointer none] 59)
        have hx6 := row_below hx5 g6
        have oR6 := ownsRow_below (oR3.kept g45 (.inr hxR)) g6
        have hM6 := (hM3.grown g45 (fun e => hxl.1 e.symm) (fun e => hxl.2 e.symm)).below g6
        have hB5 := hB3.grown g45 hB3.size (fun k e => by cases e; exact hxo)
        have hB6 := hB5.trans (g6.mono hB5.size)
        clear g45 hx5 oR3 hM3 hB3 hB5 g6 hxR hxl
        generalize W5.alloc (.cells #[.pointer none] 59) = W6 at *
        have x0 : W6.cell? ⟨xb, 0, none⟩ = some (.int .i64 (0 : Nat)) := by rw [cell_of_row _ _ _ _ _ _ hx6]; rfl
        have x1 : W6.cell? ⟨xb, 1, none⟩ = some (.slice none 0 0) := by rw [cell_of_row _ _ _ _ _ _ hx6]; rfl
        have x2 : W6.cell? ⟨xb, 2, none⟩ = some (.int .i64 0) := by rw [cell_of_row _ _ _ _ _ _ hx6]; rfl
        have x3 : W6.cell? ⟨xb, 3, none⟩ = some (.int .i64 0) := by rw [cell_of_row _ _ _ _ _ _ hx6]; rfl
        clear hx6
        go_wp2_with (at_builtin; refine hold ?_)
        unfold Hid
        have g7 := below_alloc W6 (.cells #[.int .i64 (0 : Nat), .slice none 0 0, .int .i64 0, .int .i64 0] 38)
        have oR7 := ownsRow_below oR6 g7
        refine wpList_append_own_at _ rfl _ _ 34 rfl w0.heap.size 38 i0 _ 4 48 Tryd.underlying34 hi hz0 hz1 hz2 rfl (by decide) (.slice oa R.length oc) R.length (R.flatMap po4) rfl oR7 ⟨W6.heap.size, 0, none⟩ 1 1 (po4 0) rfl rfl (new4 W6 0) (by simp [po4, Value.oneCell']) (by unfold maxLen; omega) (by omega) (Nat.le_trans hB6.size g7.size) ?_
        intro v' W8 oV gV _ _
        obtain ⟨va', vc', rfl, _, _⟩ := own_slice oV
        have hM8 : Mem W8 mb cb (cs.set k c) 0 := by
          have h7 := hM6.below g7
          exact ⟨row_kept h7.m oR7 gV (by decide), row_kept h7.c oR7 gV (by decide)⟩
        have hB7 := hB6.trans (g7.mono hB6.size)
        have hB8 := hB7.grown gV hB7.size (fun k e => (oR7.lt k e).1)
        rw [← flat_snoc] at oV
        clear gV oR7 g7 hM6 oR6 hB6 hB7 x0 x1 x2 x3
        go_wp2_with fail
        go_roundw
        case rel => exact ⟨i + 1, (cs.set k c), R ++ [0], va', vc', by rw [List.length_append]; rfl, by go_num, by omega, by rw [List.length_append, HRl.out]; rfl, res_snoc hRv.out HRl.out (fun v hv => by rw [← HR.out] at hv; cases hv), by rw [← HS2.out]; exact HA2.out, hM8, by rw [List.length_append]; exact oV, hB8⟩
        case measure => simp [intOf]; omega

      | turn k q s1 s2 hk hq hd hu =>
        replace c0 : wr.cell? ⟨sb, i * 3, none⟩ = some (.int .i64 3) := c0
        replace c1 : wr.cell? ⟨sb, i * 3 + 1, none⟩ = some (.int .i64 (k : Int)) := c1
        replace c2 : wr.cell? ⟨sb, i * 3 + 2, none⟩ = some (.int .i64 (q : Int)) := c2
        have hB1 := hB.trans ((below_alloc wr (.cells #[.int .i64 3, .int .i64 (k : Int), .int .i64 (q : Int)] 33)).mono hB.size)
        have g1 := below_alloc wr (.cells #[.int .i64 3, .int .i64 (k : Int), .int .i64 (q : Int)] 33)
        have A1 := heap_alloc_new wr (.cells #[.int .i64 3, .int .i64 (k : Int), .int .i64 (q : Int)] 33)
        have z1 : (wr.alloc (.cells #[.int .i64 3, .int .i64 (k : Int), .int .i64 (q : Int)] 33)).heap.size = wr.heap.size + 1 := by simp
        have hx := heap_alloc_new (wr.alloc (.cells #[.int .i64 3, .int .i64 (k : Int), .int .i64 (q : Int)] 33)) (.cells #[.int .i64 0, .slice none 0 0, .int .i64 0, .int .i64 0] 38)
        have g2 := below_alloc (wr.alloc (.cells #[.int .i64 3, .int .i64 (k : Int), .int .i64 (q : Int)] 33)) (.cells #[.int .i64 0, .slice none 0 0, .int .i64 0, .int .i64 0] 38)
        rw [z1] at hx
        go_wp2_with fail
        generalize wr.alloc (.cells #[.int .i64 3, .int .i64 (k : Int), .int .i64 (q : Int)] 33) = W1 at *
        generalize W1.alloc (.cells #[.int .i64 0, .slice none 0 0, .int .i64 0, .int .i64 0] 38) = W2 at *
        have gg := g1.trans (g2.mono (by omega))
        have hM2 := hM.below gg
        have oR2 := ownsRow_below oR gg
        have hB2 := hB.trans (gg.mono hB.size)
        have hT2 := hT0.below hB2 hlt0
        have hxl : wr.heap.size + 1 ≠ mb ∧ wr.heap.size + 1 ≠ cb := ⟨fun e => by have := row_lt hM.m; omega, fun e => by have := row_lt hM.c; omega⟩
        have hxR : (Value.slice oa R.length oc).ownBlock ≠ some (wr.heap.size + 1) := fun e => by have := (oR.lt _ e).2; omega
        have hxo : w0.heap.size ≤ wr.heap.size + 1 := Nat.le_trans hB.size (Nat.le_succ _)
        clear g1 A1 z1 g2 gg hB1 hM oR hB hT c0 c1 c2 hcell
        generalize wr.heap.size + 1 = xb at *
        have HG := HA.out
        refine (turn_ok mb cb k (s1 k).1 q 0 cs W2 hM2 (by rw [HG.1]; exact hk) (by have := HG.2 k hk; rwa [hd] at this) hq).mono ?_
        rintro e W3 ⟨c, rfl, hc, hM3, g3⟩
        have HA2 := hid (HG.set hk (by rw [hu.1]; exact hc) (fun j _ hj => hu.2 j hj))
        have hx3 := row_grown hx g3 hxl.2
        have K3 := Kept2.right (a := xb) g3
        have x1 : W3.cell? ⟨xb, 1, none⟩ = some (.slice none 0 0) := by rw [cell_of_row _ _ _ _ _ _ hx3]; rfl
        have x2 : W3.cell? ⟨xb, 2, none⟩ = some (.int .i64 0) := by rw [cell_of_row _ _ _ _ _ _ hx3]; rfl
        have x3 : W3.cell? ⟨xb, 3, none⟩ = some (.int .i64 0) := by rw [cell_of_row _ _ _ _ _ _ hx3]; rfl
        have x0 : W3.cell? ⟨xb, 0, none⟩ = some (.int .i64 0) := by rw [cell_of_row _ _ _ _ _ _ hx3]; rfl
        have xs0 := frozen_row hx3
        clear HG
        go_wp2_with fail
        refine (tell_nil _).mono ?_
        rintro e w' ⟨rfl, rfl⟩
        go_wp2_with fail
        refine (as_nil _ _).mono ?_
        rintro e w' ⟨rfl, rfl⟩
        have oR3 := K3.own oR2 hxR (fun e => (own_ne oR2 hM2.c (by decide)).elim (fun h => by rw [h] at e; cases e) (fun h => h e))
        have hB3 := hB2.trans (K3.below (B := w0.heap.size) (by omega) (by omega) hB2.size)
        clear x0 x1 x2 x3 xs0 hx K3 oR2 hM2 hB2 hT2
        have hx4 : W3.heap[xb]? = some (.cells #[.int .i64 (0 : Nat), .slice none 0 0, .int .i64 0, .int .i64 0] 38) := hx3
        have g4 := World.grownBy.refl W3 (some xb)
        obtain ⟨hx5, g5⟩ := set_row (cs' := #[.int .i64 (0 : Nat), .slice none 0 0, .int .i64 0, .int .i64 0]) hx4 2 (.int .i64 0) rfl
        have g45 := grownBy_trans g4 g5
        clear g4 g5 hx4 hx3
        have z := Nat.le_refl 0
        generalize W3.setCell ⟨xb, 2, none⟩ (.int .i64 0) = W5 at *
        have g6 := below_alloc W5 (.cells #[.pointer none] 59)
        have hx6 := row_below hx5 g6
        have oR6 := ownsRow_below (oR3.kept g45 (.inr hxR)) g6
        have hM6 := (hM3.grown g45 (fun e => hxl.1 e.symm) (fun e => hxl.2 e.symm)).below g6
        have hB5 := hB3.grown g45 hB3.size (fun k e => by cases e; exact hxo)
        have hB6 := hB5.trans (g6.mono hB5.size)
        clear g45 hx5 oR3 hM3 hB3 hB5 g6 hxR hxl
        generalize W5.alloc (.cells #[.pointer none] 59) = W6 at *
        have x0 : W6.cell? ⟨xb, 0, none⟩ = some (.int .i64 (0 : Nat)) := by rw [cell_of_row _ _ _ _ _ _ hx6]; rfl
        have x1 : W6.cell? ⟨xb, 1, none⟩ = some (.slice none 0 0) := by rw [cell_of_row _ _ _ _ _ _ hx6]; rfl
        have x2 : W6.cell? ⟨xb, 2, none⟩ = some (.int .i64 0) := by rw [cell_of_row _ _ _ _ _ _ hx6]; rfl
        have x3 : W6.cell? ⟨xb, 3, none⟩ = some (.int .i64 0) := by rw [cell_of_row _ _ _ _ _ _ hx6]; rfl
        clear hx6
        go_wp2_with (at_builtin; refine hold ?_)
        unfold Hid
        have g7 := below_alloc W6 (.cells #[.int .i64 (0 : Nat), .slice none 0 0, .int .i64 0, .int .i64 0] 38)
        have oR7 := ownsRow_below oR6 g7
        refine wpList_append_own_at _ rfl _ _ 34 rfl w0.heap.size 38 i0 _ 4 48 Tryd.underlying34 hi hz0 hz1 hz2 rfl (by decide) (.slice oa R.length oc) R.length (R.flatMap po4) rfl oR7 ⟨W6.heap.size, 0, none⟩ 1 1 (po4 0) rfl rfl (new4 W6 0) (by simp [po4, Value.oneCell']) (by unfold maxLen; omega) (by omega) (Nat.le_trans hB6.size g7.size) ?_
        intro v' W8 oV gV _ _
        obtain ⟨va', vc', rfl, _, _⟩ := own_slice oV
        have hM8 : Mem W8 mb cb (cs.set k c) 0 := by
          have h7 := hM6.below g7
          exact ⟨row_kept h7.m oR7 gV (by decide), row_kept h7.c oR7 gV (by decide)⟩
        have hB7 := hB6.trans (g7.mono hB6.size)
        have hB8 := hB7.grown gV hB7.size (fun k e => (oR7.lt k e).1)
        rw [← flat_snoc] at oV
        clear gV oR7 g7 hM6 oR6 hB6 hB7 x0 x1 x2 x3
        go_wp2_with fail
        go_roundw
        case rel => exact ⟨i + 1, (cs.set k c), R ++ [0], va', vc', by rw [List.length_append]; rfl, by go_num, by omega, by rw [List.length_append, HRl.out]; rfl, res_snoc hRv.out HRl.out (fun v hv => by rw [← HR.out] at hv; cases hv), by rw [← HS2.out]; exact HA2.out, hM8, by rw [List.length_append]; exact oV, hB8⟩
        case measure => simp [intOf]; omega

      | scrub x s1 =>
        replace c0 : wr.cell? ⟨sb, i * 3, none⟩ = some (.int .i64 4) := c0
        replace c1 : wr.cell? ⟨sb, i * 3 + 1, none⟩ = some (.int .i64 (x : Int)) := c1
        replace c2 : wr.cell? ⟨sb, i * 3 + 2, none⟩ = some (.int .i64 (N : Int)) := c2
        have hB1 := hB.trans ((below_alloc wr (.cells #[.int .i64 4, .int .i64 (x : Int), .int .i64 (N : Int)] 33)).mono hB.size)
        have g1 := below_alloc wr (.cells #[.int .i64 4, .int .i64 (x : Int), .int .i64 (N : Int)] 33)
        have A1 := heap_alloc_new wr (.cells #[.int .i64 4, .int .i64 (x : Int), .int .i64 (N : Int)] 33)
        have z1 : (wr.alloc (.cells #[.int .i64 4, .int .i64 (x : Int), .int .i64 (N : Int)] 33)).heap.size = wr.heap.size + 1 := by simp
        have hx := heap_alloc_new (wr.alloc (.cells #[.int .i64 4, .int .i64 (x : Int), .int .i64 (N : Int)] 33)) (.cells #[.int .i64 0, .slice none 0 0, .int .i64 0, .int .i64 0] 38)
        have g2 := below_alloc (wr.alloc (.cells #[.int .i64 4, .int .i64 (x : Int), .int .i64 (N : Int)] 33)) (.cells #[.int .i64 0, .slice none 0 0, .int .i64 0, .int .i64 0] 38)
        rw [z1] at hx
        go_wp2_with fail
        generalize wr.alloc (.cells #[.int .i64 4, .int .i64 (x : Int), .int .i64 (N : Int)] 33) = W1 at *
        generalize W1.alloc (.cells #[.int .i64 0, .slice none 0 0, .int .i64 0, .int .i64 0] 38) = W2 at *
        have gg := g1.trans (g2.mono (by omega))
        have hM2 := hM.below gg
        have oR2 := ownsRow_below oR gg
        have hB2 := hB.trans (gg.mono hB.size)
        have hT2 := hT0.below hB2 hlt0
        have hxl : wr.heap.size + 1 ≠ mb ∧ wr.heap.size + 1 ≠ cb := ⟨fun e => by have := row_lt hM.m; omega, fun e => by have := row_lt hM.c; omega⟩
        have hxR : (Value.slice oa R.length oc).ownBlock ≠ some (wr.heap.size + 1) := fun e => by have := (oR.lt _ e).2; omega
        have hxo : w0.heap.size ≤ wr.heap.size + 1 := Nat.le_trans hB.size (Nat.le_succ _)
        clear g1 A1 z1 g2 gg hB1 hM oR hB hT c0 c1 c2 hcell
        generalize wr.heap.size + 1 = xb at *
        have HG := HA.out
        refine (scrub_ok mb cb N s1 cs W2 hM2 HG hN hT2 (by omega) (by omega)).mono ?_
        rintro e W3 ⟨ct, cs3, rfl, hA3, hM3, K3⟩
        have HA2 := hid hA3
        have hx3 := K3.row hx hxl.1 hxl.2
        have x1 : W3.cell? ⟨xb, 1, none⟩ = some (.slice none 0 0) := by rw [cell_of_row _ _ _ _ _ _ hx3]; rfl
        have x2 : W3.cell? ⟨xb, 2, none⟩ = some (.int .i64 0) := by rw [cell_of_row _ _ _ _ _ _ hx3]; rfl
        have x3 : W3.cell? ⟨xb, 3, none⟩ = some (.int .i64 0) := by rw [cell_of_row _ _ _ _ _ _ hx3]; rfl
        have x0 : W3.cell? ⟨xb, 0, none⟩ = some (.int .i64 0) := by rw [cell_of_row _ _ _ _ _ _ hx3]; rfl
        have xs0 := frozen_row hx3
        clear HG
        go_wp2_with fail
        refine (tell_nil _).mono ?_
        rintro e w' ⟨rfl, rfl⟩
        go_wp2_with fail
        refine (as_nil _ _).mono ?_
        rintro e w' ⟨rfl, rfl⟩
        have oR3 := K3.own oR2 (fun e => (own_ne oR2 hM2.m (by decide)).elim (fun h => by rw [h] at e; cases e) (fun h => h e)) (fun e => (own_ne oR2 hM2.c (by decide)).elim (fun h => by rw [h] at e; cases e) (fun h => h e))
        have hB3 := hB2.trans (K3.below (B := w0.heap.size) (by omega) (by omega) hB2.size)
        clear x0 x1 x2 x3 xs0 hx K3 oR2 hM2 hB2 hT2
        obtain ⟨hx40, g40⟩ := set_row (cs' := #[.int .i64 (ct : Nat), .slice none 0 0, .int .i64 0, .int .i64 0]) hx3 0 (.int .i64 (ct : Nat)) rfl
        obtain ⟨hx4, g41⟩ := set_row (cs' := #[.int .i64 (ct : Nat), .slice none 0 0, .int .i64 0, .int .i64 0]) hx40 1 (.slice none 0 0) rfl
        have g4 := grownBy_trans g40 g41
        clear g40 g41 hx40
        obtain ⟨hx5, g5⟩ := set_row (cs' := #[.int .i64 (ct : Nat), .slice none 0 0, .int .i64 0, .int .i64 0]) hx4 2 (.int .i64 0) rfl
        have g45 := grownBy_trans g4 g5
        clear g4 g5 hx4 hx3
        have z := Nat.le_refl 0
        generalize ((W3.setCell ⟨xb, 0, none⟩ (.int .i64 (ct : Nat))).setCell ⟨xb, 1, none⟩ (.slice none 0 0)).setCell ⟨xb, 2, none⟩ (.int .i64 0) = W5 at *
        have g6 := below_alloc W5 (.cells #[.pointer none] 59)
        have hx6 := row_below hx5 g6
        have oR6 := ownsRow_below (oR3.kept g45 (.inr hxR)) g6
        have hM6 := (hM3.grown g45 (fun e => hxl.1 e.symm) (fun e => hxl.2 e.symm)).below g6
        have hB5 := hB3.grown g45 hB3.size (fun k e => by cases e; exact hxo)
        have hB6 := hB5.trans (g6.mono hB5.size)
        clear g45 hx5 oR3 hM3 hB3 hB5 g6 hxR hxl
        generalize W5.alloc (.cells #[.pointer none] 59) = W6 at *
        have x0 : W6.cell? ⟨xb, 0, none⟩ = some (.int .i64 (ct : Nat)) := by rw [cell_of_row _ _ _ _ _ _ hx6]; rfl
        have x1 : W6.cell? ⟨xb, 1, none⟩ = some (.slice none 0 0) := by rw [cell_of_row _ _ _ _ _ _ hx6]; rfl
        have x2 : W6.cell? ⟨xb, 2, none⟩ = some (.int .i64 0) := by rw [cell_of_row _ _ _ _ _ _ hx6]; rfl
        have x3 : W6.cell? ⟨xb, 3, none⟩ = some (.int .i64 0) := by rw [cell_of_row _ _ _ _ _ _ hx6]; rfl
        clear hx6
        go_wp2_with (at_builtin; refine hold ?_)
        unfold Hid
        have g7 := below_alloc W6 (.cells #[.int .i64 (ct : Nat), .slice none 0 0, .int .i64 0, .int .i64 0] 38)
        have oR7 := ownsRow_below oR6 g7
        refine wpList_append_own_at _ rfl _ _ 34 rfl w0.heap.size 38 i0 _ 4 48 Tryd.underlying34 hi hz0 hz1 hz2 rfl (by decide) (.slice oa R.length oc) R.length (R.flatMap po4) rfl oR7 ⟨W6.heap.size, 0, none⟩ 1 1 (po4 ct) rfl rfl (new4 W6 ct) (by simp [po4, Value.oneCell']) (by unfold maxLen; omega) (by omega) (Nat.le_trans hB6.size g7.size) ?_
        intro v' W8 oV gV _ _
        obtain ⟨va', vc', rfl, _, _⟩ := own_slice oV
        have hM8 : Mem W8 mb cb cs3 0 := by
          have h7 := hM6.below g7
          exact ⟨row_kept h7.m oR7 gV (by decide), row_kept h7.c oR7 gV (by decide)⟩
        have hB7 := hB6.trans (g7.mono hB6.size)
        have hB8 := hB7.grown gV hB7.size (fun k e => (oR7.lt k e).1)
        rw [← flat_snoc] at oV
        clear gV oR7 g7 hM6 oR6 hB6 hB7 x0 x1 x2 x3
        go_wp2_with fail
        go_roundw
        case rel => exact ⟨i + 1, cs3, R ++ [ct], va', vc', by rw [List.length_append]; rfl, by go_num, by omega, by rw [List.length_append, HRl.out]; rfl, res_snoc hRv.out HRl.out (fun v hv => by rw [← HR.out] at hv; cases hv), by rw [← HS2.out]; exact HA2.out, hM8, by rw [List.length_append]; exact oV, hB8⟩
        case measure => simp [intOf]; omega

    · obtain rfl : i = n := by omega
      have t1 : ¬ (i : Int) < (i : Int) := by omega
      have HRl := hid hRl
      clear hRl hA
      go_wp2_with fail
      go_ret2
      rw [HRl.out] at oR
      exact ⟨oa, oc, by rw [HRl.out]; rfl, R, HRl.out, hRv.out, oR, hB⟩
end Go.Proofs.YtgacnbildligjaaDoor
