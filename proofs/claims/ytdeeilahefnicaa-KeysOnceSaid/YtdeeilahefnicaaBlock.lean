/- Keys: block. -/
import Derived.Test.YtdeeilahefnicaaStir
import Derived.Test.YtdeeilahefnicaaOpenInts
import Derived.Maps.AppendAt
import Derived.Deep.DeepCutAuto
namespace Go.Proofs.Ytdeeilahefnicaa
set_option linter.unusedVariables false
open Go.RowKit

theorem Try.info5 : (Try.prog.info? 5).map (fun i => (i.zero, i.size, i.bytes)) = some (some (.int .u8 0), 1, 1) := by kernel_rfl
/-- eight words of 32 bits -/
def Words (ws : List Int) : Prop := ws.length = 8 ∧ ∀ z ∈ ws, 0 ≤ z ∧ z < 4294967296
def f0 : List Int := [1752326502, 745302369, 2036689696, 1684107296, 0, 0, 0, 0, 0, 0, 0, 0, 0, 0, 0, 0]
def fK (ws : List Int) : Nat → List Int
  | 0 => f0
  | k + 1 => (fK ws k).set (4 + k) (ws.getD k 0)
theorem fK_len (ws : List Int) (k : Nat) : (fK ws k).length = 16 := by
  induction k with
  | zero => rfl
  | succ k ih => rw [fK, List.length_set]; exact ih
def F (ws : List Int) (c i : Nat) : List Int := (((fK ws 8).set 12 (i : Int)).set 13 ((c : Int) % 4294967296)).set 14 ((c : Int) / 4294967296)
theorem F_len (ws : List Int) (c i : Nat) : (F ws c i).length = 16 := by simp [F, fK_len]
/-- columns, then diagonals -/
noncomputable def cols (l : List Int) : Nat → List Int
  | 0 => l
  | k + 1 => stirL (cols l k) k (k + 4) (k + 8) (k + 12)
noncomputable def round (l : List Int) : List Int := stirL (stirL (stirL (stirL (cols l 4) 0 5 10 15) 1 6 11 12) 2 7 8 13) 3 4 9 14
noncomputable def rounds (l : List Int) : Nat → List Int
  | 0 => l
  | k + 1 => round (rounds l k)
/-- a word's sum -/
def zs (q f : List Int) (i : Nat) : Nat := ((at_ q i + at_ f i) % 4294967296).toNat
def bytes4 (z : Nat) : Nat → List Nat
  | 0 => []
  | j + 1 => bytes4 z j ++ [z / 256 ^ j % 256]
def outB (q f : List Int) : Nat → List Nat
  | 0 => []
  | i + 1 => outB q f i ++ bytes4 (zs q f i) 4
theorem bytes4_len (z j : Nat) : (bytes4 z j).length = j := by
  induction j with
  | zero => rfl
  | succ j ih => rw [bytes4, List.length_append, ih]; rfl
theorem outB_len (q f : List Int) (i : Nat) : (outB q f i).length = 4 * i := by
  induction i with
  | zero => rfl
  | succ i ih => rw [outB, List.length_append, ih, bytes4_len]; omega
theorem bytes4_b (z j : Nat) : AllB (bytes4 z j) := by
  induction j with
  | zero => exact AllB.nil
  | succ j ih => exact ih.append (fun x hx => by simp at hx; omega)
theorem outB_b (q f : List Int) (i : Nat) : AllB (outB q f i) := by
  induction i with
  | zero => exact AllB.nil
  | succ i ih => exact ih.append (bytes4_b _ _)
/-- 64 bytes of a key -/
noncomputable def Bk (ws : List Int) (c i : Nat) : List Nat := outB (rounds (F ws c i) 6) (F ws c i) 16
theorem Bk_len (ws : List Int) (c i : Nat) : (Bk ws c i).length = 64 := outB_len _ _ _
theorem Bk_b (ws : List Int) (c i : Nat) : AllB (Bk ws c i) := outB_b _ _ _

theorem sq_lit (l : List Int) (h : l.length = 16) : #[Value.int .u32 (at_ l 0), .int .u32 (at_ l 1), .int .u32 (at_ l 2), .int .u32 (at_ l 3), .int .u32 (at_ l 4), .int .u32 (at_ l 5), .int .u32 (at_ l 6), .int .u32 (at_ l 7), .int .u32 (at_ l 8), .int .u32 (at_ l 9), .int .u32 (at_ l 10), .int .u32 (at_ l 11), .int .u32 (at_ l 12), .int .u32 (at_ l 13), .int .u32 (at_ l 14), .int .u32 (at_ l 15)] = sq l := by
  match l, h with
  | [a, b, c, d, e, f, g, h, i, j, k, l, m, n, o, p], _ => rfl
theorem ixq (l : List Int) (k : Nat) (hl : l.length = 16) (hk : k < 16) (w : World) : (Instr.index 73 (.agg (sq l)) (.int .i64 (k : Int))).run Try.prog w = .ok (.int .u32 (at_ l k)) w := by
  match l, hl with
  | [a, b, c, d, e, f, g, h, i, j, k0, l, m, n, o, p], _ =>
    match k, hk with
    | 0, _ => exact (show (Instr.index 73 (.agg (sq [a, b, c, d, e, f, g, h, i, j, k0, l, m, n, o, p])) (.int .i64 0)).run Try.prog w = .ok (.int .u32 a) w by kernel_rfl)
    | 1, _ => exact (show (Instr.index 73 (.agg (sq [a, b, c, d, e, f, g, h, i, j, k0, l, m, n, o, p])) (.int .i64 1)).run Try.prog w = .ok (.int .u32 b) w by kernel_rfl)
    | 2, _ => exact (show (Instr.index 73 (.agg (sq [a, b, c, d, e, f, g, h, i, j, k0, l, m, n, o, p])) (.int .i64 2)).run Try.prog w = .ok (.int .u32 c) w by kernel_rfl)
    | 3, _ => exact (show (Instr.index 73 (.agg (sq [a, b, c, d, e, f, g, h, i, j, k0, l, m, n, o, p])) (.int .i64 3)).run Try.prog w = .ok (.int .u32 d) w by kernel_rfl)
    | 4, _ => exact (show (Instr.index 73 (.agg (sq [a, b, c, d, e, f, g, h, i, j, k0, l, m, n, o, p])) (.int .i64 4)).run Try.prog w = .ok (.int .u32 e) w by kernel_rfl)
    | 5, _ => exact (show (Instr.index 73 (.agg (sq [a, b, c, d, e, f, g, h, i, j, k0, l, m, n, o, p])) (.int .i64 5)).run Try.prog w = .ok (.int .u32 f) w by kernel_rfl)
    | 6, _ => exact (show (Instr.index 73 (.agg (sq [a, b, c, d, e, f, g, h, i, j, k0, l, m, n, o, p])) (.int .i64 6)).run Try.prog w = .ok (.int .u32 g) w by kernel_rfl)
    | 7, _ => exact (show (Instr.index 73 (.agg (sq [a, b, c, d, e, f, g, h, i, j, k0, l, m, n, o, p])) (.int .i64 7)).run Try.prog w = .ok (.int .u32 h) w by kernel_rfl)
    | 8, _ => exact (show (Instr.index 73 (.agg (sq [a, b, c, d, e, f, g, h, i, j, k0, l, m, n, o, p])) (.int .i64 8)).run Try.prog w = .ok (.int .u32 i) w by kernel_rfl)
    | 9, _ => exact (show (Instr.index 73 (.agg (sq [a, b, c, d, e, f, g, h, i, j, k0, l, m, n, o, p])) (.int .i64 9)).run Try.prog w = .ok (.int .u32 j) w by kernel_rfl)
    | 10, _ => exact (show (Instr.index 73 (.agg (sq [a, b, c, d, e, f, g, h, i, j, k0, l, m, n, o, p])) (.int .i64 10)).run Try.prog w = .ok (.int .u32 k0) w by kernel_rfl)
    | 11, _ => exact (show (Instr.index 73 (.agg (sq [a, b, c, d, e, f, g, h, i, j, k0, l, m, n, o, p])) (.int .i64 11)).run Try.prog w = .ok (.int .u32 l) w by kernel_rfl)
    | 12, _ => exact (show (Instr.index 73 (.agg (sq [a, b, c, d, e, f, g, h, i, j, k0, l, m, n, o, p])) (.int .i64 12)).run Try.prog w = .ok (.int .u32 m) w by kernel_rfl)
    | 13, _ => exact (show (Instr.index 73 (.agg (sq [a, b, c, d, e, f, g, h, i, j, k0, l, m, n, o, p])) (.int .i64 13)).run Try.prog w = .ok (.int .u32 n) w by kernel_rfl)
    | 14, _ => exact (show (Instr.index 73 (.agg (sq [a, b, c, d, e, f, g, h, i, j, k0, l, m, n, o, p])) (.int .i64 14)).run Try.prog w = .ok (.int .u32 o) w by kernel_rfl)
    | 15, _ => exact (show (Instr.index 73 (.agg (sq [a, b, c, d, e, f, g, h, i, j, k0, l, m, n, o, p])) (.int .i64 15)).run Try.prog w = .ok (.int .u32 p) w by kernel_rfl)
    | x + 16, h => omega

theorem Sq.grown {W W' : World} {b k : Nat} {l : List Int} (h : Sq W b l) (hg : W.grownBy W' (some k)) (hne : b ≠ k) : Sq W' b l := ⟨h.1, row_grown h.2 hg hne⟩

set_option maxHeartbeats 4000000 in
set_option maxRecDepth 100000 in
theorem block_ok (wa : Option Addr) (wc : Nat) (ws : List Int) (c i : Nat) (W : World) (hW : Rd W wa 8 wc (vz ws)) (hws : Words ws) (hc : c < 281474976710656) (hi : i ≤ 1000) :
    Calls Try.prog 23 #[.slice wa 8 wc, .int .i64 (c : Int), .int .i64 (i : Int)] W fun e w' => ∃ oa oc, e = .returned (.slice oa 64 oc) ∧ w'.ownsRow W.heap.size 5 1 (.slice oa 64 oc) 64 (vb (Bk ws c i)) ∧ Below W.heap.size W w' := by
  obtain ⟨i0, hi0, hz0, hz1, hz2⟩ := info_parts Try.info5
  go_enter Try.func23, Try.ntmps23
  have A := heap_alloc_new W (.cells (sq f0) 73)
  have bA := below_alloc W (.cells (sq f0) 73)
  go_wp2_with fail
  have eF : (W.alloc (.cells #[.int .u32 1752326502, .int .u32 745302369, .int .u32 2036689696, .int .u32 1684107296, .int .u32 0, .int .u32 0, .int .u32 0, .int .u32 0, .int .u32 0, .int .u32 0, .int .u32 0, .int .u32 0, .int .u32 0, .int .u32 0, .int .u32 0, .int .u32 0] 73)) = W.alloc (.cells (sq f0) 73) := rfl
  rw [eF]
  clear eF
  have hS : Sq (W.alloc (.cells (sq f0) 73)) W.heap.size f0 := ⟨rfl, A⟩
  have hf : W.heap.size ≤ W.heap.size := Nat.le_refl _
  generalize W.alloc (.cells (sq f0) 73) = V at *
  have hfl : W.heap.size < V.heap.size := row_lt hS.2
  go_loopw [18] (fun k' wr => ∃ k : Nat, k' = .int .i64 (k : Int) ∧ k ≤ 8 ∧ Sq wr W.heap.size (fK ws k) ∧ Below W.heap.size W wr) (fun k' _ => 8 - (intOf k').toNat)
  case atStart => exact ⟨0, rfl, by decide, hS, bA⟩
  case round =>
    clear hS A bA
    obtain ⟨k, rfl, hk, hS, hB⟩ := hrel
    by_cases hk8 : k < 8
    · have t1 : (k : Int) < 8 := by omega
      obtain ⟨wb, wo, rfl, hwb, hwcell⟩ := hW.cellz k hk8
      have hwc := (hB.cell (p := ⟨wb, wo + k, none⟩) hwb).trans hwcell
      have hwr : 0 ≤ ws.getD k 0 ∧ ws.getD k 0 < 4294967296 := by
        rw [List.getD_eq_getElem?_getD, List.getElem?_eq_getElem (by rw [hws.1]; exact hk8)]
        exact hws.2 _ (List.getElem_mem _)
      have hset := hS.set (4 + k) (ws.getD k 0)
      have fz := frozen_row hS.2 (4 + k)
      have hc4 := hS.cell (4 + k) (by omega)
      have HK : Hid (fK ws (k + 1) = (fK ws k).set (4 + k) (ws.getD k 0)) := rfl
      clear hwcell
      generalize ws.getD k 0 = z at *
      have e1 : IntKind.u32.wrap z = z := by rw [IntKind.wrap_u32]; omega
      have t2 : (4 : Int) + (k : Int) < 16 := by omega
      have t3 : (0 : Int) ≤ (4 : Int) + (k : Int) := by omega
      have t4 : ((4 : Int) + (k : Int)).toNat = 4 + k := by omega
      go_wp2_with fail
      go_roundw
      case rel => exact ⟨k + 1, by go_num, by omega, by rw [HK.out]; exact hset.1, hB.grown hset.2 hB.size (fun b e => by cases e; exact Nat.le_refl _)⟩
      case measure => simp [intOf]; omega
    · obtain rfl : k = 8 := by omega
      try rw [show ((8 : Nat) : Int) = 8 from rfl]
      clear hk8 hfl
      have h12 := hS.set 12 (i : Int)
      have h13 := h12.1.set 13 ((c : Int) % 4294967296)
      have h14 := h13.1.set 14 ((c : Int) / 4294967296)
      have g14 := grownBy_trans (grownBy_trans h12.2 h13.2) h14.2
      have hS14 : Sq (((wr.setCell ⟨W.heap.size, 12, none⟩ (.int .u32 (i : Int))).setCell ⟨W.heap.size, 13, none⟩ (.int .u32 ((c : Int) % 4294967296))).setCell ⟨W.heap.size, 14, none⟩ (.int .u32 ((c : Int) / 4294967296))) W.heap.size (F ws c i) := h14.1
      have c12 := hS.cell 12 (by decide)
      have c13 := hS.cell 13 (by decide)
      have c14 := hS.cell 14 (by decide)
      have z12 := frozen_row hS.2 12
      have z13 := frozen_row hS.2 13
      have z14 := frozen_row hS.2 14
      have e1 : IntKind.u32.wrap (i : Int) = (i : Int) := by rw [IntKind.wrap_u32]; omega
      have e2 : IntKind.u32.wrap (c : Int) = (c : Int) % 4294967296 := by rw [IntKind.wrap_u32]
      have e3 : IntKind.u32.wrap ((c : Int) / 4294967296) = (c : Int) / 4294967296 := by rw [IntKind.wrap_u32]; omega
      clear h12 h13 h14
      go_upto_region 8 with fail
      obtain ⟨L, hL⟩ : ∃ L, L = F ws c i := ⟨_, rfl⟩
      rw [← hL] at hS14
      have HL := hid hL
      have hB2 := hB.grown g14 hB.size (fun b e => by cases e; exact Nat.le_refl _)
      clear hL c12 c13 c14 z12 z13 z14 e1 e2 e3 g14 hS hB
      generalize ((wr.setCell ⟨W.heap.size, 12, none⟩ (.int .u32 (i : Int))).setCell ⟨W.heap.size, 13, none⟩ (.int .u32 ((c : Int) % 4294967296))).setCell ⟨W.heap.size, 14, none⟩ (.int .u32 ((c : Int) / 4294967296)) = V2 at *
      have d0 := hS14.cell 0 (by decide)
      have d1 := hS14.cell 1 (by decide)
      have d2 := hS14.cell 2 (by decide)
      have d3 := hS14.cell 3 (by decide)
      have d4 := hS14.cell 4 (by decide)
      have d5 := hS14.cell 5 (by decide)
      have d6 := hS14.cell 6 (by decide)
      have d7 := hS14.cell 7 (by decide)
      have d8 := hS14.cell 8 (by decide)
      have d9 := hS14.cell 9 (by decide)
      have d10 := hS14.cell 10 (by decide)
      have d11 := hS14.cell 11 (by decide)
      have d12 := hS14.cell 12 (by decide)
      have d13 := hS14.cell 13 (by decide)
      have d14 := hS14.cell 14 (by decide)
      have d15 := hS14.cell 15 (by decide)
      have A2 := heap_alloc_new V2 (.cells (sq L) 73)
      have bA2 := below_alloc V2 (.cells (sq L) 73)
      go_wp2_with fail
      have sl := sq_lit L hS14.1
      rw [sl]
      clear d0 d1 d2 d3 d4 d5 d6 d7 d8 d9 d10 d11 d12 d13 d14 d15 sl
      have hQ : Sq (V2.alloc (.cells (sq L) 73)) V2.heap.size (rounds L 0) := ⟨hS14.1, A2⟩
      have hF := hS14.below bA2
      have hB := hB2.trans (bA2.mono hB2.size)
      have hqf : W.heap.size ≠ V2.heap.size := fun e => by have := row_lt hS14.2; omega
      have hql := hB2.size
      clear A2 bA2 hS14 hB2
      generalize V2.alloc (.cells (sq L) 73) = V3 at *
      generalize V2.heap.size = qb at *
      go_loopw [40] (fun k' wr => ∃ k : Nat, k' = .int .i64 (k : Int) ∧ k ≤ 6 ∧ Sq wr qb (rounds L k) ∧ Sq wr W.heap.size L ∧ Below W.heap.size W wr) (fun k' _ => 6 - (intOf k').toNat)
      case atStart => exact ⟨0, rfl, by decide, hQ, hF, hB⟩
      case round =>
        clear hQ hF hB
        obtain ⟨k, rfl, hk, hQ, hF, hB⟩ := hrel
        by_cases hk6 : k < 6
        · have t1 : (k : Int) < 6 := by omega
          have HR : Hid (rounds L (k + 1) = round (rounds L k)) := rfl
          generalize rounds L k = l at *
          go_wp2_with fail
          go_loopw [42] (fun j' wr => ∃ j : Nat, j' = .int .i64 (j : Int) ∧ j ≤ 4 ∧ Sq wr qb (cols l j) ∧ Sq wr W.heap.size L ∧ Below W.heap.size W wr) (fun j' _ => 4 - (intOf j').toNat)
          case atStart => exact ⟨0, rfl, by decide, hQ, hF, hB⟩
          case round =>
            clear hQ hF hB
            obtain ⟨j, rfl, hj, hQ, hF, hB⟩ := hrel
            by_cases hj4 : j < 4
            · have t2 : (j : Int) < 4 := by omega
              go_wp2_with fail
              refine (stir_ok qb _ j (j + 4) (j + 8) (j + 12) (by first | decide | omega) (by first | decide | omega) (by first | decide | omega) (by first | decide | omega) _ hQ).mono ?_
              rintro e w' ⟨rfl, hQ', g⟩
              have hF := Sq.grown hF g hqf
              have hB := hB.grown g hB.size (fun b e => by cases e; exact hql)
              clear hQ g
              have hQ := hQ'
              clear hQ'
              go_wp2_with fail
              go_roundw
              case rel => exact ⟨j + 1, by go_num, by omega, hQ, hF, hB⟩
              case measure => simp [intOf]; omega
            · obtain rfl : j = 4 := by omega
              try rw [show ((4 : Nat) : Int) = 4 from rfl]
              clear hj4
              go_wp2_with fail
              refine (stir_ok qb _ 0 5 10 15 (by first | decide | omega) (by first | decide | omega) (by first | decide | omega) (by first | decide | omega) _ hQ).mono ?_
              rintro e w' ⟨rfl, hQ', g⟩
              have hF := Sq.grown hF g hqf
              have hB := hB.grown g hB.size (fun b e => by cases e; exact hql)
              clear hQ g
              have hQ := hQ'
              clear hQ'
              go_wp2_with fail
              refine (stir_ok qb _ 1 6 11 12 (by first | decide | omega) (by first | decide | omega) (by first | decide | omega) (by first | decide | omega) _ hQ).mono ?_
              rintro e w' ⟨rfl, hQ', g⟩
              have hF := Sq.grown hF g hqf
              have hB := hB.grown g hB.size (fun b e => by cases e; exact hql)
              clear hQ g
              have hQ := hQ'
              clear hQ'
              go_wp2_with fail
              refine (stir_ok qb _ 2 7 8 13 (by first | decide | omega) (by first | decide | omega) (by first | decide | omega) (by first | decide | omega) _ hQ).mono ?_
              rintro e w' ⟨rfl, hQ', g⟩
              have hF := Sq.grown hF g hqf
              have hB := hB.grown g hB.size (fun b e => by cases e; exact hql)
              clear hQ g
              have hQ := hQ'
              clear hQ'
              go_wp2_with fail
              refine (stir_ok qb _ 3 4 9 14 (by first | decide | omega) (by first | decide | omega) (by first | decide | omega) (by first | decide | omega) _ hQ).mono ?_
              rintro e w' ⟨rfl, hQ', g⟩
              have hF := Sq.grown hF g hqf
              have hB := hB.grown g hB.size (fun b e => by cases e; exact hql)
              clear hQ g
              have hQ := hQ'
              clear hQ'
              go_wp2_with fail
              go_roundw
              case rel => exact ⟨k + 1, by go_num, by omega, by rw [HR.out]; exact hQ, hF, hB⟩
              case measure => simp [intOf]; omega
        · obtain rfl : k = 6 := by omega
          try rw [show ((6 : Nat) : Int) = 6 from rfl]
          clear hk6
          obtain ⟨Q, hQe⟩ : ∃ Q, Q = rounds L 6 := ⟨_, rfl⟩
          rw [← hQe] at hQ
          have HQ := hid hQe
          clear hQe
          have d0 := hQ.cell 0 (by decide)
          have d1 := hQ.cell 1 (by decide)
          have d2 := hQ.cell 2 (by decide)
          have d3 := hQ.cell 3 (by decide)
          have d4 := hQ.cell 4 (by decide)
          have d5 := hQ.cell 5 (by decide)
          have d6 := hQ.cell 6 (by decide)
          have d7 := hQ.cell 7 (by decide)
          have d8 := hQ.cell 8 (by decide)
          have d9 := hQ.cell 9 (by decide)
          have d10 := hQ.cell 10 (by decide)
          have d11 := hQ.cell 11 (by decide)
          have d12 := hQ.cell 12 (by decide)
          have d13 := hQ.cell 13 (by decide)
          have d14 := hQ.cell 14 (by decide)
          have d15 := hQ.cell 15 (by decide)
          have hQl := hQ.1
          have ix := fun (k : Nat) (hk : k < 16) (w : World) => ixq Q k hQl hk w
          have HIX := hid ix
          clear ix hQl
          go_wp2_with fail
          have sl := sq_lit Q hQ.1
          rw [sl]
          clear d0 d1 d2 d3 d4 d5 d6 d7 d8 d9 d10 d11 d12 d13 d14 d15 sl hQ hqf hql
          go_loopw [12, 60] (fun o' k' wr => ∃ (k : Nat) (oa : Option Addr) (oc : Nat), o' = .slice oa (4 * k) oc ∧ k' = .int .i64 (k : Int) ∧ k ≤ 16 ∧ wr.ownsRow W.heap.size 5 1 (.slice oa (4 * k) oc) (4 * k) (vb (outB Q L k)) ∧ Sq wr W.heap.size L ∧ Below W.heap.size W wr) (fun _ k' _ => 16 - (intOf k').toNat)
          case atStart => exact ⟨0, none, 0, rfl, rfl, by decide, World.ownsRow_nil _ _ _ _, hF, hB⟩
          case round =>
            clear hF hB
            obtain ⟨k, oa, oc, rfl, rfl, hk, oR, hF, hB⟩ := hrel
            by_cases hk16 : k < 16
            · have t1 : (k : Int) < 16 := by omega
              have ix := HIX.out k hk16 wr
              have cf := hF.cell k hk16
              obtain ⟨z, hz⟩ : ∃ z, z = zs Q L k := ⟨_, rfl⟩
              have e1 : (at_ Q k + at_ L k) % 4294967296 = (z : Int) := by
                rw [hz]; unfold zs
                omega
              have HO : Hid (outB Q L (k + 1) = outB Q L k ++ bytes4 z 4) := by rw [hz]; rfl
              clear hz
              go_wp2_with fail
              go_loopw [12, 14, 69] (fun o' n' j' wr => ∃ (j : Nat) (oa : Option Addr) (oc : Nat), o' = .slice oa (4 * k + j) oc ∧ n' = .int .u32 ((z / 256 ^ j : Nat) : Int) ∧ j' = .int .i64 (j : Int) ∧ j ≤ 4 ∧ wr.ownsRow W.heap.size 5 1 (.slice oa (4 * k + j) oc) (4 * k + j) (vb (outB Q L k ++ bytes4 z j)) ∧ Sq wr W.heap.size L ∧ Below W.heap.size W wr) (fun _ _ j' _ => 4 - (intOf j').toNat)
              case atStart => exact ⟨0, oa, oc, rfl, by rw [Nat.pow_zero, Nat.div_one]; exact congrArg _ e1, rfl, by decide, by simpa [bytes4] using oR, hF, hB⟩
              case round =>
                clear oR hF hB ix cf e1
                obtain ⟨j, oa, oc, rfl, rfl, rfl, hj, oR, hF, hB⟩ := hrel
                by_cases hj4 : j < 4
                · have t2 : (j : Int) < 4 := by omega
                  have HD : Hid (((z / 256 ^ (j + 1) : Nat) : Int) = ((z / 256 ^ j : Nat) : Int) / 256) := by
                    show _ = _
                    rw [Nat.pow_succ, ← Nat.div_div_eq_div_mul]; rfl
                  have HB4 : Hid (bytes4 z (j + 1) = bytes4 z j ++ [z / 256 ^ j % 256]) := rfl
                  generalize z / 256 ^ j = m at *
                  have e3 : IntKind.u8.wrap (m : Int) = ((m % 256 : Nat) : Int) := by rw [IntKind.wrap_u8]; rfl
                  obtain ⟨y, hy⟩ : ∃ y, y = m % 256 := ⟨_, rfl⟩
                  rw [← hy] at e3 HB4
                  clear hy
                  go_wp2_with (at_builtin; refine hold ?_)
                  unfold Hid
                  have g7 := below_alloc wr (.cells #[.int .u8 (y : Nat)] 5)
                  have o7 := ownsRow_below oR g7
                  refine wpList_append_own_at _ rfl _ _ 22 rfl W.heap.size 5 i0 _ 1 1 Try.underlying22 hi0 hz0 hz1 hz2 rfl (by decide) (.slice oa (4 * k + j) oc) (4 * k + j) (vb (outB Q L k ++ bytes4 z j)) rfl o7 ⟨wr.heap.size, 0, none⟩ 1 1 (vb [y]) rfl rfl (cell_one_new _ _ _) (vb_oneCell _) (by unfold maxLen; omega) (by omega) (Nat.le_trans hB.size g7.size) ?_
                  intro v' W8 oV gV _ _
                  obtain ⟨va', vc', rfl, _, _⟩ := own_slice oV
                  rw [← vb_append, List.append_assoc, ← HB4.out] at oV
                  have hF7 := hF.below g7
                  have hF8 : Sq W8 W.heap.size L := ⟨hF.1, row_kept hF7.2 o7 gV (by decide)⟩
                  have hB7 := hB.trans (g7.mono hB.size)
                  have hB8 := hB7.grown gV hB7.size (fun b e => (o7.lt b e).1)
                  clear gV o7 g7 hB hB7 hF hF7 oR
                  go_wp2_with fail
                  go_roundw
                  case rel => exact ⟨j + 1, va', vc', rfl, by first | (rw [HD.out]; done) | (rw [HD.out]; rfl), by go_num, by omega, oV, hF8, hB8⟩
                  case measure => simp [intOf]; omega
                · obtain rfl : j = 4 := by omega
                  try rw [show ((4 : Nat) : Int) = 4 from rfl]
                  clear hj4
                  go_wp2_with fail
                  go_roundw
                  case rel => exact ⟨k + 1, oa, oc, by rw [show 4 * (k + 1) = 4 * k + 4 by omega], by go_num, by omega, by rw [HO.out, show 4 * (k + 1) = 4 * k + 4 by omega]; exact oR, hF, hB⟩
                  case measure => simp [intOf]; omega
            · obtain rfl : k = 16 := by omega
              try rw [show ((16 : Nat) : Int) = 16 from rfl]
              clear hk16
              go_wp2_with fail
              go_ret
              refine ⟨oa, oc, rfl, ?_, hB⟩
              have e9 : Bk ws c i = outB Q L 16 := by rw [HQ.out, HL.out]; rfl
              rw [e9]; exact oR
end Go.Proofs.Ytdeeilahefnicaa
