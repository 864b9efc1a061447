/- packet.Encode: which bytes it gives. -/
import Derived.Test.YtbclokglkcbmkaaMay
import Derived.Test.YtbclokglkcbmkaaCat
import Derived.Test.YtbclokglkcbmkaaBits
namespace Go.Proofs.Ytbclokglkcbmkaa
set_option linter.unusedVariables false
open Go.RowKit

def firstOf (up se : Bool) (ap : Nat) : Nat := let f := if up then ap ||| 4096 else ap; if se then f ||| 2048 else f
def encB (up se : Bool) (ap pt ct : Nat) (ds : List Nat) : List Nat :=
  [firstOf up se ap / 256, firstOf up se ap % 256] ++ [(pt * 16384 ||| ct) / 256, (pt * 16384 ||| ct) % 256] ++ [(ds.length - 1) / 256, (ds.length - 1) % 256] ++ ds

theorem firstOf_lt (up se : Bool) (ap : Nat) (h : ap ≤ 2047) : firstOf up se ap < 8192 := by
  unfold firstOf
  cases up <;> cases se <;> simp only [if_true, if_false, Bool.false_eq_true]
  · omega
  · exact Nat.or_lt_two_pow (n := 13) (by omega) (by omega)
  · exact Nat.or_lt_two_pow (n := 13) (by omega) (by omega)
  · exact Nat.or_lt_two_pow (n := 13) (Nat.or_lt_two_pow (n := 13) (by omega) (by omega)) (by omega)

set_option maxRecDepth 100000 in
set_option maxHeartbeats 2000000 in
theorem encode_ok (up se : Bool) (ap pt ct : Nat) (a : Option Addr) (n c : Nat) (ds : List Nat) (w : World) (hd : Rd w a n c (vb ds))
    (h1 : ap ≤ 2047) (h2 : pt ≤ 3) (h3 : ct ≤ 16383) (h4 : 0 < n) (h5 : n ≤ 65536) :
    Calls Try.prog 5 #[.agg #[.bool up, .bool se, .int .i64 ap, .int .i64 pt, .int .i64 ct, .slice a n c]] w fun e w' => ∃ ao cc, e = .returned (.tuple #[.slice ao (2 + 2 + 2 + n) cc, .int .i64 0]) ∧
      w'.ownsRow w.heap.size 5 1 (.slice ao (2 + 2 + 2 + n) cc) (2 + 2 + 2 + n) (vb (encB up se ap pt ct ds)) ∧ Below w.heap.size w w' := by
  have hdl : ds.length = n := by have := hd.len; rwa [vb_len] at this
  have Hdl := hid hdl
  clear hdl
  obtain ⟨W, hW⟩ : ∃ W, W = w.alloc (.cells #[.bool up, .bool se, .int .i64 ap, .int .i64 pt, .int .i64 ct, .slice a n c] 29) := ⟨_, rfl⟩
  have B := below_alloc w (.cells #[.bool up, .bool se, .int .i64 ap, .int .i64 pt, .int .i64 ct, .slice a n c] 29)
  have A : W.heap[w.heap.size]? = some (.cells #[.bool up, .bool se, .int .i64 ap, .int .i64 pt, .int .i64 ct, .slice a n c] 29 (0, 0)) := by rw [hW]; exact heap_alloc_new w _
  rw [← hW] at B
  have hBl := (Array.getElem?_eq_some_iff.1 A).1
  have hd := hd.below B
  go_enter Try.func5, Try.ntmps5
  have c0 : W.cell? ⟨w.heap.size, 0, none⟩ = some (.bool up) := by rw [cell_of_row _ _ _ _ _ _ A]; rfl
  have c1 : W.cell? ⟨w.heap.size, 1, none⟩ = some (.bool se) := by rw [cell_of_row _ _ _ _ _ _ A]; rfl
  have c2 : W.cell? ⟨w.heap.size, 2, none⟩ = some (.int .i64 ap) := by rw [cell_of_row _ _ _ _ _ _ A]; rfl
  have c3 : W.cell? ⟨w.heap.size, 3, none⟩ = some (.int .i64 pt) := by rw [cell_of_row _ _ _ _ _ _ A]; rfl
  have c4 : W.cell? ⟨w.heap.size, 4, none⟩ = some (.int .i64 ct) := by rw [cell_of_row _ _ _ _ _ _ A]; rfl
  have c5 : W.cell? ⟨w.heap.size, 5, none⟩ = some (.slice a n c) := by rw [cell_of_row _ _ _ _ _ _ A]; rfl
  have hW' := hW.symm
  clear hW
  go_wp2_with fail
  clear hW'
  refine (may_any _ _ _ _ _ _ _ _ _).mono ?_
  rintro e W1 ⟨rfl, B1⟩
  rw [show mayCode ap pt ct n = 0 by unfold mayCode; rw [if_pos (by omega), if_neg (by omega)]]
  have hd := hd.below B1
  have c0 := (B1.cell (p := ⟨w.heap.size, 0, none⟩) hBl).trans c0
  have c1 := (B1.cell (p := ⟨w.heap.size, 1, none⟩) hBl).trans c1
  have c2 := (B1.cell (p := ⟨w.heap.size, 2, none⟩) hBl).trans c2
  have c3 := (B1.cell (p := ⟨w.heap.size, 3, none⟩) hBl).trans c3
  have c4 := (B1.cell (p := ⟨w.heap.size, 4, none⟩) hBl).trans c4
  have c5 := (B1.cell (p := ⟨w.heap.size, 5, none⟩) hBl).trans c5
  have hBl := Nat.lt_of_lt_of_le hBl B1.size
  have B1 := B.trans (B1.mono B.size)
  clear B A
  have hf := firstOf_lt up se ap h1
  have q1 : bits .or .i64 (ap : Int) 4096 = ((ap ||| 4096 : Nat) : Int) := i64_or_nat ap 4096 (by omega) (by omega)
  have q2 : bits .or .i64 (ap : Int) 2048 = ((ap ||| 2048 : Nat) : Int) := i64_or_nat ap 2048 (by omega) (by omega)
  have q3 : bits .or .i64 ((ap ||| 4096 : Nat) : Int) 2048 = ((ap ||| 4096 ||| 2048 : Nat) : Int) := i64_or_nat (ap ||| 4096) 2048 (by have := firstOf_lt true false ap h1; simp [firstOf] at this; omega) (by omega)
  have q4 : bits .or .i64 ((pt : Int) * 16384) ct = ((pt * 16384 ||| ct : Nat) : Int) := i64_or_nat (pt * 16384) ct (by omega) (by omega)
  have hs : pt * 16384 ||| ct < 65536 := Nat.or_lt_two_pow (n := 16) (by omega) (by omega)
  cases up <;> cases se <;> go_wp2_with fail
  · refine wp_region_can_all [1, 8, 13, 16, 17] [0, 2, 3, 4, 5, 6, 7, 9, 10, 11, 12, 14, 15, 1, 8, 13, 16, 17, 18, 19] Ext Ext.refl Ext.trans (by kernel_rfl) (by kernel_rfl) ?_
    have hd1 : Rd W1.drew a n c (vb ds) := hd.below ((Below.refl _ W1).drew)
    have Bd : Below w.heap.size w W1.drew := B1.drew
    have hBd : w.heap.size < W1.drew.heap.size := hBl
    have d3 : W1.drew.cell? ⟨w.heap.size, 3, none⟩ = some (.int .i64 pt) := c3
    have d4 : W1.drew.cell? ⟨w.heap.size, 4, none⟩ = some (.int .i64 ct) := c4
    have d5 : W1.drew.cell? ⟨w.heap.size, 5, none⟩ = some (.slice a n c) := c5
    generalize W1.drew = wd at *
    clear c0 c1 c2 c3 c4 c5 hd hBl B1
    have c3 := d3
    have c4 := d4
    have c5 := d5
    have hd := hd1
    have hBl := hBd
    clear d3 d4 d5 hd1 hBd
    simp only [List.map_cons, List.map_nil, List.contains_cons, List.contains_nil, List.getD_cons_zero, List.getD_cons_succ, Nat.reduceBEq, Bool.or_false, Bool.or_true]
    repeat (refine wpL_do rfl (fun w' hw' => (by have c3 := (hw'.cell (p := ⟨w.heap.size, 3, none⟩) hBl).trans c3; have c4 := (hw'.cell (p := ⟨w.heap.size, 4, none⟩) hBl).trans c4; have c5 := (hw'.cell (p := ⟨w.heap.size, 5, none⟩) hBl).trans c5; go_simp; rfl)) ?_; simp only [Act.put, List.setIfInBounds_toArray, List.set_cons_succ, List.set_cons_zero])
    clear c3 c4 c5
    refine wpL_call rfl (fun K hK => ?_)
    go_wp2_with fail
    refine (two_any _ (ap) _ rfl (by simp [firstOf] at hf; omega)).mono ?_
    rintro e V1 ⟨g1, rfl, o1, b1⟩
    refine hK _ _ b1 ?_
    clear hK K
    try simp only [Act.put, List.setIfInBounds_toArray, List.set_cons_succ, List.set_cons_zero]
    have hd := hd.below b1
    have Bd := Bd.trans (b1.mono Bd.size)
    refine wpL_call rfl (fun K hK => ?_)
    go_wp2_with fail
    refine (two_any _ (pt * 16384 ||| ct) _ q4 (by omega)).mono ?_
    rintro e V2 ⟨g2, rfl, o2, b2⟩
    refine hK _ _ b2 ?_
    clear hK K
    try simp only [Act.put, List.setIfInBounds_toArray, List.set_cons_succ, List.set_cons_zero]
    have hd := hd.below b2
    have Bd := Bd.trans (b2.mono Bd.size)
    have o1 := ownsRow_below o1 b2
    refine wpL_call rfl (fun K hK => ?_)
    go_wp2_with fail
    refine (two_any _ (ds.length - 1) _ (by have := Hdl.out; omega) (by have := Hdl.out; omega)).mono ?_
    rintro e V3 ⟨g3, rfl, o3, b3⟩
    refine hK _ _ b3 ?_
    clear hK K
    try simp only [Act.put, List.setIfInBounds_toArray, List.set_cons_succ, List.set_cons_zero]
    have hd := hd.below b3
    have Bd := Bd.trans (b3.mono Bd.size)
    have o1 := ownsRow_below o1 b3
    have o2 := ownsRow_below o2 b3
    refine wpL_call rfl (fun K hK => ?_)
    go_wp2_with fail
    refine hK _ _ (below_alloc _ _) ?_
    clear hK K
    try simp only [Act.put, List.setIfInBounds_toArray, List.set_cons_succ, List.set_cons_zero]
    have r1 := (Rd.ofOwn o1).below (below_alloc V3 (.cells #[.slice (some ⟨g1, 0, none⟩) 2 2, .slice (some ⟨g2, 0, none⟩) 2 2, .slice (some ⟨g3, 0, none⟩) 2 2, .slice a n c] 23))
    have r2 := (Rd.ofOwn o2).below (below_alloc V3 (.cells #[.slice (some ⟨g1, 0, none⟩) 2 2, .slice (some ⟨g2, 0, none⟩) 2 2, .slice (some ⟨g3, 0, none⟩) 2 2, .slice a n c] 23))
    have r3 := (Rd.ofOwn o3).below (below_alloc V3 (.cells #[.slice (some ⟨g1, 0, none⟩) 2 2, .slice (some ⟨g2, 0, none⟩) 2 2, .slice (some ⟨g3, 0, none⟩) 2 2, .slice a n c] 23))
    have rd := hd.below (below_alloc V3 (.cells #[.slice (some ⟨g1, 0, none⟩) 2 2, .slice (some ⟨g2, 0, none⟩) 2 2, .slice (some ⟨g3, 0, none⟩) 2 2, .slice a n c] 23))
    have hG : ∀ j u, [Value.slice (some ⟨g1, 0, none⟩) 2 2, .slice (some ⟨g2, 0, none⟩) 2 2, .slice (some ⟨g3, 0, none⟩) 2 2, .slice a n c][j]? = some u → (V3.alloc (.cells #[.slice (some ⟨g1, 0, none⟩) 2 2, .slice (some ⟨g2, 0, none⟩) 2 2, .slice (some ⟨g3, 0, none⟩) 2 2, .slice a n c] 23)).cell? ((⟨V3.heap.size, 0, none⟩ : Addr).add j) = some u := by
      intro j u hj
      rw [Addr.add_lit, cell_of_row _ _ _ _ _ _ (heap_alloc_new V3 _)]
      simpa using hj
    have Bd := Bd.trans ((below_alloc V3 (.cells #[.slice (some ⟨g1, 0, none⟩) 2 2, .slice (some ⟨g2, 0, none⟩) 2 2, .slice (some ⟨g3, 0, none⟩) 2 2, .slice a n c] 23)).mono Bd.size)
    have hGl : V3.heap.size < (V3.alloc (.cells #[.slice (some ⟨g1, 0, none⟩) 2 2, .slice (some ⟨g2, 0, none⟩) 2 2, .slice (some ⟨g3, 0, none⟩) 2 2, .slice a n c] 23)).heap.size := by simp
    refine wpL_call rfl (fun K hK => ?_)
    go_wp2_with fail
    refine (cat_any _ _ _ _ 2 2 2 2 2 2 n c _ _ _ _ V3.heap.size _ r1 r2 r3 rd hG hGl (by omega)).mono ?_
    rintro e V4 ⟨ao, cc, rfl, o4, b4⟩
    refine hK _ _ b4 ?_
    clear hK K
    try simp only [Act.put, List.setIfInBounds_toArray, List.set_cons_succ, List.set_cons_zero]
    have Bd0 := Bd.size
    have Bd := Bd.trans (b4.mono Bd.size)
    repeat (refine wpL_do rfl (fun w' hw' => (by go_simp; rfl)) ?_; simp only [Act.put, List.setIfInBounds_toArray, List.set_cons_succ, List.set_cons_zero])
    refine wpL_nil ?_
    go_wp2
    go_ret2
    exact ⟨ao, cc, rfl, ownsRow_mono o4 Bd0, Bd⟩
  · refine wp_region_can_all [1, 8, 13, 16, 17] [0, 2, 3, 4, 5, 6, 7, 9, 10, 11, 12, 14, 15, 1, 8, 13, 16, 17, 18, 19] Ext Ext.refl Ext.trans (by kernel_rfl) (by kernel_rfl) ?_
    have hd1 : Rd W1.drew a n c (vb ds) := hd.below ((Below.refl _ W1).drew)
    have Bd : Below w.heap.size w W1.drew := B1.drew
    have hBd : w.heap.size < W1.drew.heap.size := hBl
    have d3 : W1.drew.cell? ⟨w.heap.size, 3, none⟩ = some (.int .i64 pt) := c3
    have d4 : W1.drew.cell? ⟨w.heap.size, 4, none⟩ = some (.int .i64 ct) := c4
    have d5 : W1.drew.cell? ⟨w.heap.size, 5, none⟩ = some (.slice a n c) := c5
    generalize W1.drew = wd at *
    clear c0 c1 c2 c3 c4 c5 hd hBl B1
    have c3 := d3
    have c4 := d4
    have c5 := d5
    have hd := hd1
    have hBl := hBd
    clear d3 d4 d5 hd1 hBd
    simp only [List.map_cons, List.map_nil, List.contains_cons, List.contains_nil, List.getD_cons_zero, List.getD_cons_succ, Nat.reduceBEq, Bool.or_false, Bool.or_true]
    repeat (refine wpL_do rfl (fun w' hw' => (by have c3 := (hw'.cell (p := ⟨w.heap.size, 3, none⟩) hBl).trans c3; have c4 := (hw'.cell (p := ⟨w.heap.size, 4, none⟩) hBl).trans c4; have c5 := (hw'.cell (p := ⟨w.heap.size, 5, none⟩) hBl).trans c5; go_simp; rfl)) ?_; simp only [Act.put, List.setIfInBounds_toArray, List.set_cons_succ, List.set_cons_zero])
    clear c3 c4 c5
    refine wpL_call rfl (fun K hK => ?_)
    go_wp2_with fail
    refine (two_any _ (ap ||| 2048) _ rfl (by simp [firstOf] at hf; omega)).mono ?_
    rintro e V1 ⟨g1, rfl, o1, b1⟩
    refine hK _ _ b1 ?_
    clear hK K
    try simp only [Act.put, List.setIfInBounds_toArray, List.set_cons_succ, List.set_cons_zero]
    have hd := hd.below b1
    have Bd := Bd.trans (b1.mono Bd.size)
    refine wpL_call rfl (fun K hK => ?_)
    go_wp2_with fail
    refine (two_any _ (pt * 16384 ||| ct) _ q4 (by omega)).mono ?_
    rintro e V2 ⟨g2, rfl, o2, b2⟩
    refine hK _ _ b2 ?_
    clear hK K
    try simp only [Act.put, List.setIfInBounds_toArray, List.set_cons_succ, List.set_cons_zero]
    have hd := hd.below b2
    have Bd := Bd.trans (b2.mono Bd.size)
    have o1 := ownsRow_below o1 b2
    refine wpL_call rfl (fun K hK => ?_)
    go_wp2_with fail
    refine (two_any _ (ds.length - 1) _ (by have := Hdl.out; omega) (by have := Hdl.out; omega)).mono ?_
    rintro e V3 ⟨g3, rfl, o3, b3⟩
    refine hK _ _ b3 ?_
    clear hK K
    try simp only [Act.put, List.setIfInBounds_toArray, List.set_cons_succ, List.set_cons_zero]
    have hd := hd.below b3
    have Bd := Bd.trans (b3.mono Bd.size)
    have o1 := ownsRow_below o1 b3
    have o2 := ownsRow_below o2 b3
    refine wpL_call rfl (fun K hK => ?_)
    go_wp2_with fail
    refine hK _ _ (below_alloc _ _) ?_
    clear hK K
    try simp only [Act.put, List.setIfInBounds_toArray, List.set_cons_succ, List.set_cons_zero]
    have r1 := (Rd.ofOwn o1).below (below_alloc V3 (.cells #[.slice (some ⟨g1, 0, none⟩) 2 2, .slice (some ⟨g2, 0, none⟩) 2 2, .slice (some ⟨g3, 0, none⟩) 2 2, .slice a n c] 23))
    have r2 := (Rd.ofOwn o2).below (below_alloc V3 (.cells #[.slice (some ⟨g1, 0, none⟩) 2 2, .slice (some ⟨g2, 0, none⟩) 2 2, .slice (some ⟨g3, 0, none⟩) 2 2, .slice a n c] 23))
    have r3 := (Rd.ofOwn o3).below (below_alloc V3 (.cells #[.slice (some ⟨g1, 0, none⟩) 2 2, .slice (some ⟨g2, 0, none⟩) 2 2, .slice (some ⟨g3, 0, none⟩) 2 2, .slice a n c] 23))
    have rd := hd.below (below_alloc V3 (.cells #[.slice (some ⟨g1, 0, none⟩) 2 2, .slice (some ⟨g2, 0, none⟩) 2 2, .slice (some ⟨g3, 0, none⟩) 2 2, .slice a n c] 23))
    have hG : ∀ j u, [Value.slice (some ⟨g1, 0, none⟩) 2 2, .slice (some ⟨g2, 0, none⟩) 2 2, .slice (some ⟨g3, 0, none⟩) 2 2, .slice a n c][j]? = some u → (V3.alloc (.cells #[.slice (some ⟨g1, 0, none⟩) 2 2, .slice (some ⟨g2, 0, none⟩) 2 2, .slice (some ⟨g3, 0, none⟩) 2 2, .slice a n c] 23)).cell? ((⟨V3.heap.size, 0, none⟩ : Addr).add j) = some u := by
      intro j u hj
      rw [Addr.add_lit, cell_of_row _ _ _ _ _ _ (heap_alloc_new V3 _)]
      simpa using hj
    have Bd := Bd.trans ((below_alloc V3 (.cells #[.slice (some ⟨g1, 0, none⟩) 2 2, .slice (some ⟨g2, 0, none⟩) 2 2, .slice (some ⟨g3, 0, none⟩) 2 2, .slice a n c] 23)).mono Bd.size)
    have hGl : V3.heap.size < (V3.alloc (.cells #[.slice (some ⟨g1, 0, none⟩) 2 2, .slice (some ⟨g2, 0, none⟩) 2 2, .slice (some ⟨g3, 0, none⟩) 2 2, .slice a n c] 23)).heap.size := by simp
    refine wpL_call rfl (fun K hK => ?_)
    go_wp2_with fail
    refine (cat_any _ _ _ _ 2 2 2 2 2 2 n c _ _ _ _ V3.heap.size _ r1 r2 r3 rd hG hGl (by omega)).mono ?_
    rintro e V4 ⟨ao, cc, rfl, o4, b4⟩
    refine hK _ _ b4 ?_
    clear hK K
    try simp only [Act.put, List.setIfInBounds_toArray, List.set_cons_succ, List.set_cons_zero]
    have Bd0 := Bd.size
    have Bd := Bd.trans (b4.mono Bd.size)
    repeat (refine wpL_do rfl (fun w' hw' => (by go_simp; rfl)) ?_; simp only [Act.put, List.setIfInBounds_toArray, List.set_cons_succ, List.set_cons_zero])
    refine wpL_nil ?_
    go_wp2
    go_ret2
    exact ⟨ao, cc, rfl, ownsRow_mono o4 Bd0, Bd⟩
  · refine wp_region_can_all [1, 8, 13, 16, 17] [0, 2, 3, 4, 5, 6, 7, 9, 10, 11, 12, 14, 15, 1, 8, 13, 16, 17, 18, 19] Ext Ext.refl Ext.trans (by kernel_rfl) (by kernel_rfl) ?_
    have hd1 : Rd W1.drew a n c (vb ds) := hd.below ((Below.refl _ W1).drew)
    have Bd : Below w.heap.size w W1.drew := B1.drew
    have hBd : w.heap.size < W1.drew.heap.size := hBl
    have d3 : W1.drew.cell? ⟨w.heap.size, 3, none⟩ = some (.int .i64 pt) := c3
    have d4 : W1.drew.cell? ⟨w.heap.size, 4, none⟩ = some (.int .i64 ct) := c4
    have d5 : W1.drew.cell? ⟨w.heap.size, 5, none⟩ = some (.slice a n c) := c5
    generalize W1.drew = wd at *
    clear c0 c1 c2 c3 c4 c5 hd hBl B1
    have c3 := d3
    have c4 := d4
    have c5 := d5
    have hd := hd1
    have hBl := hBd
    clear d3 d4 d5 hd1 hBd
    simp only [List.map_cons, List.map_nil, List.contains_cons, List.contains_nil, List.getD_cons_zero, List.getD_cons_succ, Nat.reduceBEq, Bool.or_false, Bool.or_true]
    repeat (refine wpL_do rfl (fun w' hw' => (by have c3 := (hw'.cell (p := ⟨w.heap.size, 3, none⟩) hBl).trans c3; have c4 := (hw'.cell (p := ⟨w.heap.size, 4, none⟩) hBl).trans c4; have c5 := (hw'.cell (p := ⟨w.heap.size, 5, none⟩) hBl).trans c5; go_simp; rfl)) ?_; simp only [Act.put, List.setIfInBounds_toArray, List.set_cons_succ, List.set_cons_zero])
    clear c3 c4 c5
    refine wpL_call rfl (fun K hK => ?_)
    go_wp2_with fail
    refine (two_any _ (ap ||| 4096) _ rfl (by simp [firstOf] at hf; omega)).mono ?_
    rintro e V1 ⟨g1, rfl, o1, b1⟩
    refine hK _ _ b1 ?_
    clear hK K
    try simp only [Act.put, List.setIfInBounds_toArray, List.set_cons_succ, List.set_cons_zero]
    have hd := hd.below b1
    have Bd := Bd.trans (b1.mono Bd.size)
    refine wpL_call rfl (fun K hK => ?_)
    go_wp2_with fail
    refine (two_any _ (pt * 16384 ||| ct) _ q4 (by omega)).mono ?_
    rintro e V2 ⟨g2, rfl, o2, b2⟩
    refine hK _ _ b2 ?_
    clear hK K
    try simp only [Act.put, List.setIfInBounds_toArray, List.set_cons_succ, List.set_cons_zero]
    have hd := hd.below b2
    have Bd := Bd.trans (b2.mono Bd.size)
    have o1 := ownsRow_below o1 b2
    refine wpL_call rfl (fun K hK => ?_)
    go_wp2_with fail
    refine (two_any _ (ds.length - 1) _ (by have := Hdl.out; omega) (by have := Hdl.out; omega)).mono ?_
    rintro e V3 ⟨g3, rfl, o3, b3⟩
    refine hK _ _ b3 ?_
    clear hK K
    try simp only [Act.put, List.setIfInBounds_toArray, List.set_cons_succ, List.set_cons_zero]
    have hd := hd.below b3
    have Bd := Bd.trans (b3.mono Bd.size)
    have o1 := ownsRow_below o1 b3
    have o2 := ownsRow_below o2 b3
    refine wpL_call rfl (fun K hK => ?_)
    go_wp2_with fail
    refine hK _ _ (below_alloc _ _) ?_
    clear hK K
    try simp only [Act.put, List.setIfInBounds_toArray, List.set_cons_succ, List.set_cons_zero]
    have r1 := (Rd.ofOwn o1).below (below_alloc V3 (.cells #[.slice (some ⟨g1, 0, none⟩) 2 2, .slice (some ⟨g2, 0, none⟩) 2 2, .slice (some ⟨g3, 0, none⟩) 2 2, .slice a n c] 23))
    have r2 := (Rd.ofOwn o2).below (below_alloc V3 (.cells #[.slice (some ⟨g1, 0, none⟩) 2 2, .slice (some ⟨g2, 0, none⟩) 2 2, .slice (some ⟨g3, 0, none⟩) 2 2, .slice a n c] 23))
    have r3 := (Rd.ofOwn o3).below (below_alloc V3 (.cells #[.slice (some ⟨g1, 0, none⟩) 2 2, .slice (some ⟨g2, 0, none⟩) 2 2, .slice (some ⟨g3, 0, none⟩) 2 2, .slice a n c] 23))
    have rd := hd.below (below_alloc V3 (.cells #[.slice (some ⟨g1, 0, none⟩) 2 2, .slice (some ⟨g2, 0, none⟩) 2 2, .slice (some ⟨g3, 0, none⟩) 2 2, .slice a n c] 23))
    have hG : ∀ j u, [Value.slice (some ⟨g1, 0, none⟩) 2 2, .slice (some ⟨g2, 0, none⟩) 2 2, .slice (some ⟨g3, 0, none⟩) 2 2, .slice a n c][j]? = some u → (V3.alloc (.cells #[.slice (some ⟨g1, 0, none⟩) 2 2, .slice (some ⟨g2, 0, none⟩) 2 2, .slice (some ⟨g3, 0, none⟩) 2 2, .slice a n c] 23)).cell? ((⟨V3.heap.size, 0, none⟩ : Addr).add j) = some u := by
      intro j u hj
      rw [Addr.add_lit, cell_of_row _ _ _ _ _ _ (heap_alloc_new V3 _)]
      simpa using hj
    have Bd := Bd.trans ((below_alloc V3 (.cells #[.slice (some ⟨g1, 0, none⟩) 2 2, .slice (some ⟨g2, 0, none⟩) 2 2, .slice (some ⟨g3, 0, none⟩) 2 2, .slice a n c] 23)).mono Bd.size)
    have hGl : V3.heap.size < (V3.alloc (.cells #[.slice (some ⟨g1, 0, none⟩) 2 2, .slice (some ⟨g2, 0, none⟩) 2 2, .slice (some ⟨g3, 0, none⟩) 2 2, .slice a n c] 23)).heap.size := by simp
    refine wpL_call rfl (fun K hK => ?_)
    go_wp2_with fail
    refine (cat_any _ _ _ _ 2 2 2 2 2 2 n c _ _ _ _ V3.heap.size _ r1 r2 r3 rd hG hGl (by omega)).mono ?_
    rintro e V4 ⟨ao, cc, rfl, o4, b4⟩
    refine hK _ _ b4 ?_
    clear hK K
    try simp only [Act.put, List.setIfInBounds_toArray, List.set_cons_succ, List.set_cons_zero]
    have Bd0 := Bd.size
    have Bd := Bd.trans (b4.mono Bd.size)
    repeat (refine wpL_do rfl (fun w' hw' => (by go_simp; rfl)) ?_; simp only [Act.put, List.setIfInBounds_toArray, List.set_cons_succ, List.set_cons_zero])
    refine wpL_nil ?_
    go_wp2
    go_ret2
    exact ⟨ao, cc, rfl, ownsRow_mono o4 Bd0, Bd⟩
  · refine wp_region_can_all [1, 8, 13, 16, 17] [0, 2, 3, 4, 5, 6, 7, 9, 10, 11, 12, 14, 15, 1, 8, 13, 16, 17, 18, 19] Ext Ext.refl Ext.trans (by kernel_rfl) (by kernel_rfl) ?_
    have hd1 : Rd W1.drew a n c (vb ds) := hd.below ((Below.refl _ W1).drew)
    have Bd : Below w.heap.size w W1.drew := B1.drew
    have hBd : w.heap.size < W1.drew.heap.size := hBl
    have d3 : W1.drew.cell? ⟨w.heap.size, 3, none⟩ = some (.int .i64 pt) := c3
    have d4 : W1.drew.cell? ⟨w.heap.size, 4, none⟩ = some (.int .i64 ct) := c4
    have d5 : W1.drew.cell? ⟨w.heap.size, 5, none⟩ = some (.slice a n c) := c5
    generalize W1.drew = wd at *
    clear c0 c1 c2 c3 c4 c5 hd hBl B1
    have c3 := d3
    have c4 := d4
    have c5 := d5
    have hd := hd1
    have hBl := hBd
    clear d3 d4 d5 hd1 hBd
    simp only [List.map_cons, List.map_nil, List.contains_cons, List.contains_nil, List.getD_cons_zero, List.getD_cons_succ, Nat.reduceBEq, Bool.or_false, Bool.or_true]
    repeat (refine wpL_do rfl (fun w' hw' => (by have c3 := (hw'.cell (p := ⟨w.heap.size, 3, none⟩) hBl).trans c3; have c4 := (hw'.cell (p := ⟨w.heap.size, 4, none⟩) hBl).trans c4; have c5 := (hw'.cell (p := ⟨w.heap.size, 5, none⟩) hBl).trans c5; go_simp; rfl)) ?_; simp only [Act.put, List.setIfInBounds_toArray, List.set_cons_succ, List.set_cons_zero])
    clear c3 c4 c5
    refine wpL_call rfl (fun K hK => ?_)
    go_wp2_with fail
    refine (two_any _ (ap ||| 4096 ||| 2048) _ rfl (by simp [firstOf] at hf; omega)).mono ?_
    rintro e V1 ⟨g1, rfl, o1, b1⟩
    refine hK _ _ b1 ?_
    clear hK K
    try simp only [Act.put, List.setIfInBounds_toArray, List.set_cons_succ, List.set_cons_zero]
    have hd := hd.below b1
    have Bd := Bd.trans (b1.mono Bd.size)
    refine wpL_call rfl (fun K hK => ?_)
    go_wp2_with fail
    refine (two_any _ (pt * 16384 ||| ct) _ q4 (by omega)).mono ?_
    rintro e V2 ⟨g2, rfl, o2, b2⟩
    refine hK _ _ b2 ?_
    clear hK K
    try simp only [Act.put, List.setIfInBounds_toArray, List.set_cons_succ, List.set_cons_zero]
    have hd := hd.below b2
    have Bd := Bd.trans (b2.mono Bd.size)
    have o1 := ownsRow_below o1 b2
    refine wpL_call rfl (fun K hK => ?_)
    go_wp2_with fail
    refine (two_any _ (ds.length - 1) _ (by have := Hdl.out; omega) (by have := Hdl.out; omega)).mono ?_
    rintro e V3 ⟨g3, rfl, o3, b3⟩
    refine hK _ _ b3 ?_
    clear hK K
    try simp only [Act.put, List.setIfInBounds_toArray, List.set_cons_succ, List.set_cons_zero]
    have hd := hd.below b3
    have Bd := Bd.trans (b3.mono Bd.size)
    have o1 := ownsRow_below o1 b3
    have o2 := ownsRow_below o2 b3
    refine wpL_call rfl (fun K hK => ?_)
    go_wp2_with fail
    refine hK _ _ (below_alloc _ _) ?_
    clear hK K
    try simp only [Act.put, List.setIfInBounds_toArray, List.set_cons_succ, List.set_cons_zero]
    have r1 := (Rd.ofOwn o1).below (below_alloc V3 (.cells #[.slice (some ⟨g1, 0, none⟩) 2 2, .slice (some ⟨g2, 0, none⟩) 2 2, .slice (some ⟨g3, 0, none⟩) 2 2, .slice a n c] 23))
    have r2 := (Rd.ofOwn o2).below (below_alloc V3 (.cells #[.slice (some ⟨g1, 0, none⟩) 2 2, .slice (some ⟨g2, 0, none⟩) 2 2, .slice (some ⟨g3, 0, none⟩) 2 2, .slice a n c] 23))
    have r3 := (Rd.ofOwn o3).below (below_alloc V3 (.cells #[.slice (some ⟨g1, 0, none⟩) 2 2, .slice (some ⟨g2, 0, none⟩) 2 2, .slice (some ⟨g3, 0, none⟩) 2 2, .slice a n c] 23))
    have rd := hd.below (below_alloc V3 (.cells #[.slice (some ⟨g1, 0, none⟩) 2 2, .slice (some ⟨g2, 0, none⟩) 2 2, .slice (some ⟨g3, 0, none⟩) 2 2, .slice a n c] 23))
    have hG : ∀ j u, [Value.slice (some ⟨g1, 0, none⟩) 2 2, .slice (some ⟨g2, 0, none⟩) 2 2, .slice (some ⟨g3, 0, none⟩) 2 2, .slice a n c][j]? = some u → (V3.alloc (.cells #[.slice (some ⟨g1, 0, none⟩) 2 2, .slice (some ⟨g2, 0, none⟩) 2 2, .slice (some ⟨g3, 0, none⟩) 2 2, .slice a n c] 23)).cell? ((⟨V3.heap.size, 0, none⟩ : Addr).add j) = some u := by
      intro j u hj
      rw [Addr.add_lit, cell_of_row _ _ _ _ _ _ (heap_alloc_new V3 _)]
      simpa using hj
    have Bd := Bd.trans ((below_alloc V3 (.cells #[.slice (some ⟨g1, 0, none⟩) 2 2, .slice (some ⟨g2, 0, none⟩) 2 2, .slice (some ⟨g3, 0, none⟩) 2 2, .slice a n c] 23)).mono Bd.size)
    have hGl : V3.heap.size < (V3.alloc (.cells #[.slice (some ⟨g1, 0, none⟩) 2 2, .slice (some ⟨g2, 0, none⟩) 2 2, .slice (some ⟨g3, 0, none⟩) 2 2, .slice a n c] 23)).heap.size := by simp
    refine wpL_call rfl (fun K hK => ?_)
    go_wp2_with fail
    refine (cat_any _ _ _ _ 2 2 2 2 2 2 n c _ _ _ _ V3.heap.size _ r1 r2 r3 rd hG hGl (by omega)).mono ?_
    rintro e V4 ⟨ao, cc, rfl, o4, b4⟩
    refine hK _ _ b4 ?_
    clear hK K
    try simp only [Act.put, List.setIfInBounds_toArray, List.set_cons_succ, List.set_cons_zero]
    have Bd0 := Bd.size
    have Bd := Bd.trans (b4.mono Bd.size)
    repeat (refine wpL_do rfl (fun w' hw' => (by go_simp; rfl)) ?_; simp only [Act.put, List.setIfInBounds_toArray, List.set_cons_succ, List.set_cons_zero])
    refine wpL_nil ?_
    go_wp2
    go_ret2
    exact ⟨ao, cc, rfl, ownsRow_mono o4 Bd0, Bd⟩

theorem encode_bad (up se : Bool) (ap pt ct : Int) (a : Option Addr) (n c : Nat) (w : World) (h : mayCode ap pt ct n ≠ 0) :
    Calls Try.prog 5 #[.agg #[.bool up, .bool se, .int .i64 ap, .int .i64 pt, .int .i64 ct, .slice a n c]] w fun e w' => e = .returned (.tuple #[.slice none 0 0, .int .i64 (mayCode ap pt ct n)]) ∧ Below w.heap.size w w' := by
  obtain ⟨m, hm⟩ : ∃ m, m = mayCode ap pt ct n := ⟨_, rfl⟩
  rw [← hm] at h ⊢
  obtain ⟨W, hW⟩ : ∃ W, W = w.alloc (.cells #[.bool up, .bool se, .int .i64 ap, .int .i64 pt, .int .i64 ct, .slice a n c] 29) := ⟨_, rfl⟩
  have B := below_alloc w (.cells #[.bool up, .bool se, .int .i64 ap, .int .i64 pt, .int .i64 ct, .slice a n c] 29)
  have A : W.heap[w.heap.size]? = some (.cells #[.bool up, .bool se, .int .i64 ap, .int .i64 pt, .int .i64 ct, .slice a n c] 29 (0, 0)) := by rw [hW]; exact heap_alloc_new w _
  rw [← hW] at B
  go_enter Try.func5, Try.ntmps5
  have c0 : W.cell? ⟨w.heap.size, 0, none⟩ = some (.bool up) := by rw [cell_of_row _ _ _ _ _ _ A]; rfl
  have c1 : W.cell? ⟨w.heap.size, 1, none⟩ = some (.bool se) := by rw [cell_of_row _ _ _ _ _ _ A]; rfl
  have c2 : W.cell? ⟨w.heap.size, 2, none⟩ = some (.int .i64 ap) := by rw [cell_of_row _ _ _ _ _ _ A]; rfl
  have c3 : W.cell? ⟨w.heap.size, 3, none⟩ = some (.int .i64 pt) := by rw [cell_of_row _ _ _ _ _ _ A]; rfl
  have c4 : W.cell? ⟨w.heap.size, 4, none⟩ = some (.int .i64 ct) := by rw [cell_of_row _ _ _ _ _ _ A]; rfl
  have c5 : W.cell? ⟨w.heap.size, 5, none⟩ = some (.slice a n c) := by rw [cell_of_row _ _ _ _ _ _ A]; rfl
  have hW' := hW.symm
  clear hW
  go_wp2_with fail
  clear hW'
  refine (may_any _ _ _ _ _ _ _ _ _).mono ?_
  rintro e W1 ⟨rfl, B1⟩
  have hne : (m != 0) = true := by simpa using h
  rw [← hm]
  have B1 := B.trans (B1.mono B.size)
  clear hm
  go_wp2_with fail
  go_ret2
  exact ⟨rfl, B1⟩
end Go.Proofs.Ytbclokglkcbmkaa
