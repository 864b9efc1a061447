/- packet.Encode: which bytes it gives. -/
import Derived.Test.YtjiipmalahhcpaaTurns3
import Derived.Test.YtjiipmalahhcpaaTurns4
import Derived.StillTailTactics
namespace Go.Proofs.Ytjiipmalahhcpaa
set_option linter.unusedVariables false
open Go.RowKit

def firstOf (up se : Bool) (ap : Nat) : Nat := let f := if up then ap ||| 4096 else ap; if se then f ||| 2048 else f
def encB (up se : Bool) (ap pt ct : Nat) (ds : List Nat) : List Nat :=
  [firstOf up se ap / 256, firstOf up se ap % 256] ++ [(pt * 16384 ||| ct) / 256, (pt * 16384 ||| ct) % 256] ++ [(ds.length - 1) / 256, (ds.length - 1) % 256] ++ ds

set_option maxRecDepth 1000000 in
theorem firstOf_lt (up se : Bool) (ap : Nat) (h : ap ≤ 2047) : firstOf up se ap < 8192 := by
  unfold firstOf
  cases up <;> cases se <;> simp only [if_true, if_false, Bool.false_eq_true]
  · omega
  · exact Nat.or_lt_two_pow (n := 13) (by omega) (by omega)
  · exact Nat.or_lt_two_pow (n := 13) (by omega) (by omega)
  · exact Nat.or_lt_two_pow (n := 13) (Nat.or_lt_two_pow (n := 13) (by omega) (by omega)) (by omega)

set_option maxRecDepth 1000000 in
set_option maxHeartbeats 2000000 in
theorem encode_ok (up se : Bool) (ap pt ct : Nat) (a : Option Addr) (n c : Nat) (ds : List Nat) (w : World) (hd : Rd w a n c (vb ds))
    (h1 : ap ≤ 2047) (h2 : pt ≤ 3) (h3 : ct ≤ 16383) (h4 : 0 < n) (h5 : n ≤ 65536) :
    Calls Try.prog 7 #[.agg #[.bool up, .bool se, .int .i64 ap, .int .i64 pt, .int .i64 ct, .slice a n c]] w fun e w' => ∃ ao cc, e = .returned (.tuple #[.slice ao (2 + 2 + 2 + n) cc, .int .i64 0]) ∧
      w'.ownsRow w.heap.size 5 1 (.slice ao (2 + 2 + 2 + n) cc) (2 + 2 + 2 + n) (vb (encB up se ap pt ct ds)) ∧ Below w.heap.size w w' := by
  have hdl : ds.length = n := by have := hd.len; rwa [vb_len] at this
  have Hdl := hid hdl
  clear hdl
  obtain ⟨W, hW⟩ : ∃ W, W = w.alloc (.cells #[.bool up, .bool se, .int .i64 ap, .int .i64 pt, .int .i64 ct, .slice a n c] 38) := ⟨_, rfl⟩
  have B := below_alloc w (.cells #[.bool up, .bool se, .int .i64 ap, .int .i64 pt, .int .i64 ct, .slice a n c] 38)
  have A : W.heap[w.heap.size]? = some (.cells #[.bool up, .bool se, .int .i64 ap, .int .i64 pt, .int .i64 ct, .slice a n c] 38 (0, 0)) := by rw [hW]; exact heap_alloc_new w _
  rw [← hW] at B
  have hBl := (Array.getElem?_eq_some_iff.1 A).1
  have hd := hd.below B
  go_enter Try.func7, Try.ntmps7
  have c0 : W.cell? ⟨w.heap.size, 0, none⟩ = some (.bool up) := by rw [cell_of_row _ _ _ _ _ _ A]; rfl
  have c1 : W.cell? ⟨w.heap.size, 1, none⟩ = some (.bool se) := by rw [cell_of_row _ _ _ _ _ _ A]; rfl
  have c2 : W.cell? ⟨w.heap.size, 2, none⟩ = some (.int .i64 ap) := by rw [cell_of_row _ _ _ _ _ _ A]; rfl
  have c3 : W.cell? ⟨w.heap.size, 3, none⟩ = some (.int .i64 pt) := by rw [cell_of_row _ _ _ _ _ _ A]; rfl
  have c4 : W.cell? ⟨w.heap.size, 4, none⟩ = some (.int .i64 ct) := by rw [cell_of_row _ _ _ _ _ _ A]; rfl
  have c5 : W.cell? ⟨w.heap.size, 5, none⟩ = some (.slice a n c) := by rw [cell_of_row _ _ _ _ _ _ A]; rfl
  have hW' := hW.symm
  clear hW
  go_wp2_with fail
  clear hW'
  refine (may_any _ _ _ _ _ _ _ _ _).mono ?_
  rintro e W1 ⟨rfl, B1⟩
  rw [show mayCode ap pt ct n = 0 by unfold mayCode; rw [if_pos (by omega), if_neg (by omega)]]
  have hd := hd.below B1
  have c0 := (B1.cell (p := ⟨w.heap.size, 0, none⟩) hBl).trans c0
  have c1 := (B1.cell (p := ⟨w.heap.size, 1, none⟩) hBl).trans c1
  have c2 := (B1.cell (p := ⟨w.heap.size, 2, none⟩) hBl).trans c2
  have c3 := (B1.cell (p := ⟨w.heap.size, 3, none⟩) hBl).trans c3
  have c4 := (B1.cell (p := ⟨w.heap.size, 4, none⟩) hBl).trans c4
  have c5 := (B1.cell (p := ⟨w.heap.size, 5, none⟩) hBl).trans c5
  have hBl := Nat.lt_of_lt_of_le hBl B1.size
  have B1 := B.trans (B1.mono B.size)
  clear B A
  have hf := firstOf_lt up se ap h1
  have q1 : bits .or .i64 (ap : Int) 4096 = ((ap ||| 4096 : Nat) : Int) := i64_or_nat ap 4096 (by omega) (by omega)
  have q2 : bits .or .i64 (ap : Int) 2048 = ((ap ||| 2048 : Nat) : Int) := i64_or_nat ap 2048 (by omega) (by omega)
  have q3 : bits .or .i64 ((ap ||| 4096 : Nat) : Int) 2048 = ((ap ||| 4096 ||| 2048 : Nat) : Int) := i64_or_nat (ap ||| 4096) 2048 (by have := firstOf_lt true false ap h1; simp [firstOf] at this; omega) (by omega)
  have q4 : bits .or .i64 ((pt : Int) * 16384) ct = ((pt * 16384 ||| ct : Nat) : Int) := i64_or_nat (pt * 16384) ct (by omega) (by omega)
  have hs : pt * 16384 ||| ct < 65536 := Nat.or_lt_two_pow (n := 16) (by omega) (by omega)
  cases up <;> cases se <;> go_wp2_with fail
  · refine wp_region_can_all [1, 8, 13, 16, 17] [0, 2, 3, 4, 5, 6, 7, 9, 10, 11, 12, 14, 15, 1, 8, 13, 16, 17, 18, 19] Ext Ext.refl Ext.trans (by kernel_rfl) (by kernel_rfl) ?_
    have hd1 : Rd W1.drew a n c (vb ds) := hd.below ((Below.refl _ W1).drew)
    have Bd : Below w.heap.size w W1.drew := B1.drew
    have hBd : w.heap.size < W1.drew.heap.size := hBl
    have d3 : W1.drew.cell? ⟨w.heap.size, 3, none⟩ = some (.int .i64 pt) := c3
    have d4 : W1.drew.cell? ⟨w.heap.size, 4, none⟩ = some (.int .i64 ct) := c4
    have d5 : W1.drew.cell? ⟨w.heap.size, 5, none⟩ = some (.slice a n c) := c5
    generalize W1.drew = wd at *
    clear c0 c1 c2 c3 c4 c5 hd hBl B1
    have c3 := d3
    have c4 := d4
    have c5 := d5
    have hd := hd1
    have hBl := hBd
    clear d3 d4 d5 hd1 hBd
    simp only [List.map_cons, List.map_nil, List.contains_cons, List.contains_nil, List.getD_cons_zero, List.getD_cons_succ, Nat.reduceBEq, Bool.or_false, Bool.or_true]
    repeat (refine wpL_do rfl (fun w' hw' => (by have c3 := (hw'.cell (p := ⟨w.heap.size, 3, none⟩) hBl).trans c3; have c4 := (hw'.cell (p := ⟨w.heap.size, 4, none⟩) hBl).trans c4; have c5 := (hw'.cell (p := ⟨w.heap.size, 5, none⟩) hBl).trans c5; go_simp; rfl)) ?_; simp only [Act.put, List.setIfInBounds_toArray, List.set_cons_succ, List.set_cons_zero])
    clear c3 c4 c5
    refine wpL_call rfl (fun K hK => ?_)
    go_wp2_with fail
    refine (two_any _ (ap) _ rfl (by simp [firstOf] at hf; omega)).mono ?_
    rintro e V1 ⟨g1, rfl, o1, b1⟩
    refine hK _ _ b1 ?_
    clear hK K
    try simp only [Act.put, List.setIfInBounds_toArray, List.set_cons_succ, List.set_cons_zero]
    have hd := hd.below b1
    have Bd := Bd.trans (b1.mono Bd.size)
    refine wpL_call rfl (fun K hK => ?_)
    go_wp2_with fail
    refine (two_any _ (pt * 16384 ||| ct) _ q4 (by omega)).mono ?_
    rintro e V2 ⟨g2, rfl, o2, b2⟩
    refine hK _ _ b2 ?_
    clear hK K
    try simp only [Act.put, List.setIfInBounds_toArray, List.set_cons_succ, List.set_cons_zero]
    have hd := hd.below b2
    have Bd := Bd.trans (b2.mono Bd.size)
    have o1 := ownsRow_below o1 b2
    refine wpL_call rfl (fun K hK => ?_)
    go_wp2_with fail
    refine (two_any _ (ds.length - 1) _ (by have := Hdl.out; omega) (by have := Hdl.out; omega)).mono ?_
    rintro e V3 ⟨g3, rfl, o3, b3⟩
    refine hK _ _ b3 ?_
    clear hK K
    try simp only [Act.put, List.setIfInBounds_toArray, List.set_cons_succ, List.set_cons_zero]
    have hd := hd.below b3
    have Bd := Bd.trans (b3.mono Bd.size)
    have o1 := ownsRow_below o1 b3
    have o2 := ownsRow_below o2 b3
    refine wpL_call rfl (fun K hK => ?_)
    go_wp2_with fail
    refine hK _ _ (below_alloc _ _) ?_
    clear hK K
    try simp only [Act.put, List.setIfInBounds_toArray, List.set_cons_succ, List.set_cons_zero]
    have r1 := (Rd.ofOwn o1).below (below_alloc V3 (.cells #[.slice (some ⟨g1, 0, none⟩) 2 2, .slice (some ⟨g2, 0, none⟩) 2 2, .slice (some ⟨g3, 0, none⟩) 2 2, .slice a n c] 33))
    have r2 := (Rd.ofOwn o2).below (below_alloc V3 (.cells #[.slice (some ⟨g1, 0, none⟩) 2 2, .slice (some ⟨g2, 0, none⟩) 2 2, .slice (some ⟨g3, 0, none⟩) 2 2, .slice a n c] 33))
    have r3 := (Rd.ofOwn o3).below (below_alloc V3 (.cells #[.slice (some ⟨g1, 0, none⟩) 2 2, .slice (some ⟨g2, 0, none⟩) 2 2, .slice (some ⟨g3, 0, none⟩) 2 2, .slice a n c] 33))
    have rd := hd.below (below_alloc V3 (.cells #[.slice (some ⟨g1, 0, none⟩) 2 2, .slice (some ⟨g2, 0, none⟩) 2 2, .slice (some ⟨g3, 0, none⟩) 2 2, .slice a n c] 33))
    have hG : ∀ j u, [Value.slice (some ⟨g1, 0, none⟩) 2 2, .slice (some ⟨g2, 0, none⟩) 2 2, .slice (some ⟨g3, 0, none⟩) 2 2, .slice a n c][j]? = some u → (V3.alloc (.cells #[.slice (some ⟨g1, 0, none⟩) 2 2, .slice (some ⟨g2, 0, none⟩) 2 2, .slice (some ⟨g3, 0, none⟩) 2 2, .slice a n c] 33)).cell? ((⟨V3.heap.size, 0, none⟩ : Addr).add j) = some u := by
      intro j u hj
      rw [Addr.add_lit, cell_of_row _ _ _ _ _ _ (heap_alloc_new V3 _)]
      simpa using hj
    have Bd := Bd.trans ((below_alloc V3 (.cells #[.slice (some ⟨g1, 0, none⟩) 2 2, .slice (some ⟨g2, 0, none⟩) 2 2, .slice (some ⟨g3, 0, none⟩) 2 2, .slice a n c] 33)).mono Bd.size)
    have hGl : V3.heap.size < (V3.alloc (.cells #[.slice (some ⟨g1, 0, none⟩) 2 2, .slice (some ⟨g2, 0, none⟩) 2 2, .slice (some ⟨g3, 0, none⟩) 2 2, .slice a n c] 33)).heap.size := by simp
    refine wpL_call rfl (fun K hK => ?_)
    go_wp2_with fail
    refine (cat_any _ _ _ _ 2 2 2 2 2 2 n c _ _ _ _ V3.heap.size _ r1 r2 r3 rd hG hGl (by omega)).mono ?_
    rintro e V4 ⟨ao, cc, rfl, o4, b4⟩
    refine hK _ _ b4 ?_
    clear hK K
    try simp only [Act.put, List.setIfInBounds_toArray, List.set_cons_succ, List.set_cons_zero]
    have Bd0 := Bd.size
    have Bd := Bd.trans (b4.mono Bd.size)
    repeat (refine wpL_do rfl (fun w' hw' => (by go_simp; rfl)) ?_; simp only [Act.put, List.setIfInBounds_toArray, List.set_cons_succ, List.set_cons_zero])
    refine wpL_nil ?_
    go_wp2
    go_ret2
    exact ⟨ao, cc, rfl, ownsRow_mono o4 Bd0, Bd⟩
  · refine wp_region_can_all [1, 8, 13, 16, 17] [0, 2, 3, 4, 5, 6, 7, 9, 10, 11, 12, 14, 15, 1, 8, 13, 16, 17, 18, 19] Ext Ext.refl Ext.trans (by kernel_rfl) (by kernel_rfl) ?_
    have hd1 : Rd W1.drew a n c (vb ds) := hd.below ((Below.refl _ W1).drew)
    have Bd : Below w.heap.size w W1.drew := B1.drew
    have hBd : w.heap.size < W1.drew.heap.size := hBl
    have d3 : W1.drew.cell? ⟨w.heap.size, 3, none⟩ = some (.int .i64 pt) := c3
    have d4 : W1.drew.cell? ⟨w.heap.size, 4, none⟩ = some (.int .i64 ct) := c4
    have d5 : W1.drew.cell? ⟨w.heap.size, 5, none⟩ = some (.slice a n c) := c5
    generalize W1.drew = wd at *
    clear c0 c1 c2 c3 c4 c5 hd hBl B1
    have c3 := d3
    have c4 := d4
    have c5 := d5
    have hd := hd1
    have hBl := hBd
    clear d3 d4 d5 hd1 hBd
    simp only [List.map_cons, List.map_nil, List.contains_cons, List.contains_nil, List.getD_cons_zero, List.getD_cons_succ, Nat.reduceBEq, Bool.or_false, Bool.or_true]
    repeat (refine wpL_do rfl (fun w' hw' => (by have c3 := (hw'.cell (p := ⟨w.heap.size, 3, none⟩) hBl).trans c3; have c4 := (hw'.cell (p := ⟨w.heap.size, 4, none⟩) hBl).trans c4; have c5 := (hw'.cell (p := ⟨w.heap.size, 5, none⟩) hBl).trans c5; go_simp; rfl)) ?_; simp only [Act.put, List.setIfInBounds_toArray, List.set_cons_succ, List.set_cons_zero])
    clear c3 c4 c5
    refine wpL_call rfl (fun K hK => ?_)
    go_wp2_with fail
    refine (two_any _ (ap ||| 2048) _ rfl (by simp [firstOf] at hf; omega)).mono ?_
    rintro e V1 ⟨g1, rfl, o1, b1⟩
    refine hK _ _ b1 ?_
    clear hK K
    try simp only [Act.put, List.setIfInBounds_toArray, List.set_cons_succ, List.set_cons_zero]
    have hd := hd.below b1
    have Bd := Bd.trans (b1.mono Bd.size)
    refine wpL_call rfl (fun K hK => ?_)
    go_wp2_with fail
    refine (two_any _ (pt * 16384 ||| ct) _ q4 (by omega)).mono ?_
    rintro e V2 ⟨g2, rfl, o2, b2⟩
    refine hK _ _ b2 ?_
    clear hK K
    try simp only [Act.put, List.setIfInBounds_toArray, List.set_cons_succ, List.set_cons_zero]
    have hd := hd.below b2
    have Bd := Bd.trans (b2.mono Bd.size)
    have o1 := ownsRow_below o1 b2
    refine wpL_call rfl (fun K hK => ?_)
    go_wp2_with fail
    refine (two_any _ (ds.length - 1) _ (by have := Hdl.out; omega) (by have := Hdl.out; omega)).mono ?_
    rintro e V3 ⟨g3, rfl, o3, b3⟩
    refine hK _ _ b3 ?_
    clear hK K
    try simp only [Act.put, List.setIfInBounds_toArray, List.set_cons_succ, List.set_cons_zero]
    have hd := hd.below b3
    have Bd := Bd.trans (b3.mono Bd.size)
    have o1 := ownsRow_below o1 b3
    have o2 := ownsRow_below o2 b3
    refine wpL_call rfl (fun K hK => ?_)
    go_wp2_with fail
    refine hK _ _ (below_alloc _ _) ?_
    clear hK K
    try simp only [Act.put, List.setIfInBounds_toArray, List.set_cons_succ, List.set_cons_zero]
    have r1 := (Rd.ofOwn o1).below (below_alloc V3 (.cells #[.slice (some ⟨g1, 0, none⟩) 2 2, .slice (some ⟨g2, 0, none⟩) 2 2, .slice (some ⟨g3, 0, none⟩) 2 2, .slice a n c] 33))
    have r2 := (Rd.ofOwn o2).below (below_alloc V3 (.cells #[.slice (some ⟨g1, 0, none⟩) 2 2, .slice (some ⟨g2, 0, none⟩) 2 2, .slice (some ⟨g3, 0, none⟩) 2 2, .slice a n c] 33))
    have r3 := (Rd.ofOwn o3).below (below_alloc V3 (.cells #[.slice (some ⟨g1, 0, none⟩) 2 2, .slice (some ⟨g2, 0, none⟩) 2 2, .slice (some ⟨g3, 0, none⟩) 2 2, .slice a n c] 33))
    have rd := hd.below (below_alloc V3 (.cells #[.slice (some ⟨g1, 0, none⟩) 2 2, .slice (some ⟨g2, 0, none⟩) 2 2, .slice (some ⟨g3, 0, none⟩) 2 2, .slice a n c] 33))
    have hG : ∀ j u, [Value.slice (some ⟨g1, 0, none⟩) 2 2, .slice (some ⟨g2, 0, none⟩) 2 2, .slice (some ⟨g3, 0, none⟩) 2 2, .slice a n c][j]? = some u → (V3.alloc (.cells #[.slice (some ⟨g1, 0, none⟩) 2 2, .slice (some ⟨g2, 0, none⟩) 2 2, .slice (some ⟨g3, 0, none⟩) 2 2, .slice a n c] 33)).cell? ((⟨V3.heap.size, 0, none⟩ : Addr).add j) = some u := by
      intro j u hj
      rw [Addr.add_lit, cell_of_row _ _ _ _ _ _ (heap_alloc_new V3 _)]
      simpa using hj
    have Bd := Bd.trans ((below_alloc V3 (.cells #[.slice (some ⟨g1, 0, none⟩) 2 2, .slice (some ⟨g2, 0, none⟩) 2 2, .slice (some ⟨g3, 0, none⟩) 2 2, .slice a n c] 33)).mono Bd.size)
    have hGl : V3.heap.size < (V3.alloc (.cells #[.slice (some ⟨g1, 0, none⟩) 2 2, .slice (some ⟨g2, 0, none⟩) 2 2, .slice (some ⟨g3, 0, none⟩) 2 2, .slice a n c] 33)).heap.size := by simp
    refine wpL_call rfl (fun K hK => ?_)
    go_wp2_with fail
    refine (cat_any _ _ _ _ 2 2 2 2 2 2 n c _ _ _ _ V3.heap.size _ r1 r2 r3 rd hG hGl (by omega)).mono ?_
    rintro e V4 ⟨ao, cc, rfl, o4, b4⟩
    refine hK _ _ b4 ?_
    clear hK K
    try simp only [Act.put, List.setIfInBounds_toArray, List.set_cons_succ, List.set_cons_zero]
    have Bd0 := Bd.size
    have Bd := Bd.trans (b4.mono Bd.size)
    repeat (refine wpL_do rfl (fun w' hw' => (by go_simp; rfl)) ?_; simp only [Act.put, List.setIfInBounds_toArray, List.set_cons_succ, List.set_cons_zero])
    refine wpL_nil ?_
    go_wp2
    go_ret2
    exact ⟨ao, cc, rfl, ownsRow_mono o4 Bd0, Bd⟩
  · refine wp_region_can_all [1, 8, 13, 16, 17] [0, 2, 3, 4, 5, 6, 7, 9, 10, 11, 12, 14, 15, 1, 8, 13, 16, 17, 18, 19] Ext Ext.refl Ext.trans (by kernel_rfl) (by kernel_rfl) ?_
    have hd1 : Rd W1.drew a n c (vb ds) := hd.below ((Below.refl _ W1).drew)
    have Bd : Below w.heap.size w W1.drew := B1.drew
    have hBd : w.heap.size < W1.drew.heap.size := hBl
    have d3 : W1.drew.cell? ⟨w.heap.size, 3, none⟩ = some (.int .i64 pt) := c3
    have d4 : W1.drew.cell? ⟨w.heap.size, 4, none⟩ = some (.int .i64 ct) := c4
    have d5 : W1.drew.cell? ⟨w.heap.size, 5, none⟩ = some (.slice a n c) := c5
    generalize W1.drew = wd at *
    clear c0 c1 c2 c3 c4 c5 hd hBl B1
    have c3 := d3
    have c4 := d4
    have c5 := d5
    have hd := hd1
    have hBl := hBd
    clear d3 d4 d5 hd1 hBd
    simp only [List.map_cons, List.map_nil, List.contains_cons, List.contains_nil, List.getD_cons_zero, List.getD_cons_succ, Nat.reduceBEq, Bool.or_false, Bool.or_true]
    repeat (refine wpL_do rfl (fun w' hw' => (by have c3 := (hw'.cell (p := ⟨w.heap.size, 3, none⟩) hBl).trans c3; have c4 := (hw'.cell (p := ⟨w.heap.size, 4, none⟩) hBl).trans c4; have c5 := (hw'.cell (p := ⟨w.heap.size, 5, none⟩) hBl).trans c5; go_simp; rfl)) ?_; simp only [Act.put, List.setIfInBounds_toArray, List.set_cons_succ, List.set_cons_zero])
    clear c3 c4 c5
    refine wpL_call rfl (fun K hK => ?_)
    go_wp2_with fail
    refine (two_any _ (ap ||| 4096) _ rfl (by simp [firstOf] at hf; omega)).mono ?_
    rintro e V1 ⟨g1, rfl, o1, b1⟩
    refine hK _ _ b1 ?_
    clear hK K
    try simp only [Act.put, List.setIfInBounds_toArray, List.set_cons_succ, List.set_cons_zero]
    have hd := hd.below b1
    have Bd := Bd.trans (b1.mono Bd.size)
    refine wpL_call rfl (fun K hK => ?_)
    go_wp2_with fail
    refine (two_any _ (pt * 16384 ||| ct) _ q4 (by omega)).mono ?_
    rintro e V2 ⟨g2, rfl, o2, b2⟩
    refine hK _ _ b2 ?_
    clear hK K
    try simp only [Act.put, List.setIfInBounds_toArray, List.set_cons_succ, List.set_cons_zero]
    have hd := hd.below b2
    have Bd := Bd.trans (b2.mono Bd.size)
    have o1 := ownsRow_below o1 b2
    refine wpL_call rfl (fun K hK => ?_)
    go_wp2_with fail
    refine (two_any _ (ds.length - 1) _ (by have := Hdl.out; omega) (by have := Hdl.out; omega)).mono ?_
    rintro e V3 ⟨g3, rfl, o3, b3⟩
    refine hK _ _ b3 ?_
    clear hK K
    try simp only [Act.put, List.setIfInBounds_toArray, List.set_cons_succ, List.set_cons_zero]
    have hd := hd.below b3
    have Bd := Bd.trans (b3.mono Bd.size)
    have o1 := ownsRow_below o1 b3
    have o2 := ownsRow_below o2 b3
    refine wpL_call rfl (fun K hK => ?_)
    go_wp2_with fail
    refine hK _ _ (below_alloc _ _) ?_
    clear hK K
    try simp only [Act.put, List.setIfInBounds_toArray, List.set_cons_succ, List.set_cons_zero]
    have r1 := (Rd.ofOwn o1).below (below_alloc V3 (.cells #[.slice (some ⟨g1, 0, none⟩) 2 2, .slice (some ⟨g2, 0, none⟩) 2 2, .slice (some ⟨g3, 0, none⟩) 2 2, .slice a n c] 33))
    have r2 := (Rd.ofOwn o2).below (below_alloc V3 (.cells #[.slice (some ⟨g1, 0, none⟩) 2 2, .slice (some ⟨g2, 0, none⟩) 2 2, .slice (some ⟨g3, 0, none⟩) 2 2, .slice a n c] 33))
    have r3 := (Rd.ofOwn o3).below (below_alloc V3 (.cells #[.slice (some ⟨g1, 0, none⟩) 2 2, .slice (some ⟨g2, 0, none⟩) 2 2, .slice (some ⟨g3, 0, none⟩) 2 2, .slice a n c] 33))
    have rd := hd.below (below_alloc V3 (.cells #[.slice (some ⟨g1, 0, none⟩) 2 2, .slice (some ⟨g2, 0, none⟩) 2 2, .slice (some ⟨g3, 0, none⟩) 2 2, .slice a n c] 33))
    have hG : ∀ j u, [Value.slice (some ⟨g1, 0, none⟩) 2 2, .slice (some ⟨g2, 0, none⟩) 2 2, .slice (some ⟨g3, 0, none⟩) 2 2, .slice a n c][j]? = some u → (V3.alloc (.cells #[.slice (some ⟨g1, 0, none⟩) 2 2, .slice (some ⟨g2, 0, none⟩) 2 2, .slice (some ⟨g3, 0, none⟩) 2 2, .slice a n c] 33)).cell? ((⟨V3.heap.size, 0, none⟩ : Addr).add j) = some u := by
      intro j u hj
      rw [Addr.add_lit, cell_of_row _ _ _ _ _ _ (heap_alloc_new V3 _)]
      simpa using hj
    have Bd := Bd.trans ((below_alloc V3 (.cells #[.slice (some ⟨g1, 0, none⟩) 2 2, .slice (some ⟨g2, 0, none⟩) 2 2, .slice (some ⟨g3, 0, none⟩) 2 2, .slice a n c] 33)).mono Bd.size)
    have hGl : V3.heap.size < (V3.alloc (.cells #[.slice (some ⟨g1, 0, none⟩) 2 2, .slice (some ⟨g2, 0, none⟩) 2 2, .slice (some ⟨g3, 0, none⟩) 2 2, .slice a n c] 33)).heap.size := by simp
    refine wpL_call rfl (fun K hK => ?_)
    go_wp2_with fail
    refine (cat_any _ _ _ _ 2 2 2 2 2 2 n c _ _ _ _ V3.heap.size _ r1 r2 r3 rd hG hGl (by omega)).mono ?_
    rintro e V4 ⟨ao, cc, rfl, o4, b4⟩
    refine hK _ _ b4 ?_
    clear hK K
    try simp only [Act.put, List.setIfInBounds_toArray, List.set_cons_succ, List.set_cons_zero]
    have Bd0 := Bd.size
    have Bd := Bd.trans (b4.mono Bd.size)
    repeat (refine wpL_do rfl (fun w' hw' => (by go_simp; rfl)) ?_; simp only [Act.put, List.setIfInBounds_toArray, List.set_cons_succ, List.set_cons_zero])
    refine wpL_nil ?_
    go_wp2
    go_ret2
    exact ⟨ao, cc, rfl, ownsRow_mono o4 Bd0, Bd⟩
  · refine wp_region_can_all [1, 8, 13, 16, 17] [0, 2, 3, 4, 5, 6, 7, 9, 10, 11, 12, 14, 15, 1, 8, 13, 16, 17, 18, 19] Ext Ext.refl Ext.trans (by kernel_rfl) (by kernel_rfl) ?_
    have hd1 : Rd W1.drew a n c (vb ds) := hd.below ((Below.refl _ W1).drew)
    have Bd : Below w.heap.size w W1.drew := B1.drew
    have hBd : w.heap.size < W1.drew.heap.size := hBl
    have d3 : W1.drew.cell? ⟨w.heap.size, 3, none⟩ = some (.int .i64 pt) := c3
    have d4 : W1.drew.cell? ⟨w.heap.size, 4, none⟩ = some (.int .i64 ct) := c4
    have d5 : W1.drew.cell? ⟨w.heap.size, 5, none⟩ = some (.slice a n c) := c5
    generalize W1.drew = wd at *
    clear c0 c1 c2 c3 c4 c5 hd hBl B1
    have c3 := d3
    have c4 := d4
    have c5 := d5
    have hd := hd1
    have hBl := hBd
    clear d3 d4 d5 hd1 hBd
    simp only [List.map_cons, List.map_nil, List.contains_cons, List.contains_nil, List.getD_cons_zero, List.getD_cons_succ, Nat.reduceBEq, Bool.or_false, Bool.or_true]
    repeat (refine wpL_do rfl (fun w' hw' => (by have c3 := (hw'.cell (p := ⟨w.heap.size, 3, none⟩) hBl).trans c3; have c4 := (hw'.cell (p := ⟨w.heap.size, 4, none⟩) hBl).trans c4; have c5 := (hw'.cell (p := ⟨w.heap.size, 5, none⟩) hBl).trans c5; go_simp; rfl)) ?_; simp only [Act.put, List.setIfInBounds_toArray, List.set_cons_succ, List.set_cons_zero])
    clear c3 c4 c5
    refine wpL_call rfl (fun K hK => ?_)
    go_wp2_with fail
    refine (two_any _ (ap ||| 4096 ||| 2048) _ rfl (by simp [firstOf] at hf; omega)).mono ?_
    rintro e V1 ⟨g1, rfl, o1, b1⟩
    refine hK _ _ b1 ?_
    clear hK K
    try simp only [Act.put, List.setIfInBounds_toArray, List.set_cons_succ, List.set_cons_zero]
    have hd := hd.below b1
    have Bd := Bd.trans (b1.mono Bd.size)
    refine wpL_call rfl (fun K hK => ?_)
    go_wp2_with fail
    refine (two_any _ (pt * 16384 ||| ct) _ q4 (by omega)).mono ?_
    rintro e V2 ⟨g2, rfl, o2, b2⟩
    refine hK _ _ b2 ?_
    clear hK K
    try simp only [Act.put, List.setIfInBounds_toArray, List.set_cons_succ, List.set_cons_zero]
    have hd := hd.below b2
    have Bd := Bd.trans (b2.mono Bd.size)
    have o1 := ownsRow_below o1 b2
    refine wpL_call rfl (fun K hK => ?_)
    go_wp2_with fail
    refine (two_any _ (ds.length - 1) _ (by have := Hdl.out; omega) (by have := Hdl.out; omega)).mono ?_
    rintro e V3 ⟨g3, rfl, o3, b3⟩
    refine hK _ _ b3 ?_
    clear hK K
    try simp only [Act.put, List.setIfInBounds_toArray, List.set_cons_succ, List.set_cons_zero]
    have hd := hd.below b3
    have Bd := Bd.trans (b3.mono Bd.size)
    have o1 := ownsRow_below o1 b3
    have o2 := ownsRow_below o2 b3
    refine wpL_call rfl (fun K hK => ?_)
    go_wp2_with fail
    refine hK _ _ (below_alloc _ _) ?_
    clear hK K
    try simp only [Act.put, List.setIfInBounds_toArray, List.set_cons_succ, List.set_cons_zero]
    have r1 := (Rd.ofOwn o1).below (below_alloc V3 (.cells #[.slice (some ⟨g1, 0, none⟩) 2 2, .slice (some ⟨g2, 0, none⟩) 2 2, .slice (some ⟨g3, 0, none⟩) 2 2, .slice a n c] 33))
    have r2 := (Rd.ofOwn o2).below (below_alloc V3 (.cells #[.slice (some ⟨g1, 0, none⟩) 2 2, .slice (some ⟨g2, 0, none⟩) 2 2, .slice (some ⟨g3, 0, none⟩) 2 2, .slice a n c] 33))
    have r3 := (Rd.ofOwn o3).below (below_alloc V3 (.cells #[.slice (some ⟨g1, 0, none⟩) 2 2, .slice (some ⟨g2, 0, none⟩) 2 2, .slice (some ⟨g3, 0, none⟩) 2 2, .slice a n c] 33))
    have rd := hd.below (below_alloc V3 (.cells #[.slice (some ⟨g1, 0, none⟩) 2 2, .slice (some ⟨g2, 0, none⟩) 2 2, .slice (some ⟨g3, 0, none⟩) 2 2, .slice a n c] 33))
    have hG : ∀ j u, [Value.slice (some ⟨g1, 0, none⟩) 2 2, .slice (some ⟨g2, 0, none⟩) 2 2, .slice (some ⟨g3, 0, none⟩) 2 2, .slice a n c][j]? = some u → (V3.alloc (.cells #[.slice (some ⟨g1, 0, none⟩) 2 2, .slice (some ⟨g2, 0, none⟩) 2 2, .slice (some ⟨g3, 0, none⟩) 2 2, .slice a n c] 33)).cell? ((⟨V3.heap.size, 0, none⟩ : Addr).add j) = some u := by
      intro j u hj
      rw [Addr.add_lit, cell_of_row _ _ _ _ _ _ (heap_alloc_new V3 _)]
      simpa using hj
    have Bd := Bd.trans ((below_alloc V3 (.cells #[.slice (some ⟨g1, 0, none⟩) 2 2, .slice (some ⟨g2, 0, none⟩) 2 2, .slice (some ⟨g3, 0, none⟩) 2 2, .slice a n c] 33)).mono Bd.size)
    have hGl : V3.heap.size < (V3.alloc (.cells #[.slice (some ⟨g1, 0, none⟩) 2 2, .slice (some ⟨g2, 0, none⟩) 2 2, .slice (some ⟨g3, 0, none⟩) 2 2, .slice a n c] 33)).heap.size := by simp
    refine wpL_call rfl (fun K hK => ?_)
    go_wp2_with fail
    refine (cat_any _ _ _ _ 2 2 2 2 2 2 n c _ _ _ _ V3.heap.size _ r1 r2 r3 rd hG hGl (by omega)).mono ?_
    rintro e V4 ⟨ao, cc, rfl, o4, b4⟩
    refine hK _ _ b4 ?_
    clear hK K
    try simp only [Act.put, List.setIfInBounds_toArray, List.set_cons_succ, List.set_cons_zero]
    have Bd0 := Bd.size
    have Bd := Bd.trans (b4.mono Bd.size)
    repeat (refine wpL_do rfl (fun w' hw' => (by go_simp; rfl)) ?_; simp only [Act.put, List.setIfInBounds_toArray, List.set_cons_succ, List.set_cons_zero])
    refine wpL_nil ?_
    go_wp2
    go_ret2
    exact ⟨ao, cc, rfl, ownsRow_mono o4 Bd0, Bd⟩

set_option maxRecDepth 1000000 in
theorem encode_bad (up se : Bool) (ap pt ct : Int) (a : Option Addr) (n c : Nat) (w : World) (h : mayCode ap pt ct n ≠ 0) :
    Calls Try.prog 7 #[.agg #[.bool up, .bool se, .int .i64 ap, .int .i64 pt, .int .i64 ct, .slice a n c]] w fun e w' => e = .returned (.tuple #[.slice none 0 0, .int .i64 (mayCode ap pt ct n)]) ∧ Below w.heap.size w w' := by
  obtain ⟨m, hm⟩ : ∃ m, m = mayCode ap pt ct n := ⟨_, rfl⟩
  rw [← hm] at h ⊢
  obtain ⟨W, hW⟩ : ∃ W, W = w.alloc (.cells #[.bool up, .bool se, .int .i64 ap, .int .i64 pt, .int .i64 ct, .slice a n c] 38) := ⟨_, rfl⟩
  have B := below_alloc w (.cells #[.bool up, .bool se, .int .i64 ap, .int .i64 pt, .int .i64 ct, .slice a n c] 38)
  have A : W.heap[w.heap.size]? = some (.cells #[.bool up, .bool se, .int .i64 ap, .int .i64 pt, .int .i64 ct, .slice a n c] 38 (0, 0)) := by rw [hW]; exact heap_alloc_new w _
  rw [← hW] at B
  go_enter Try.func7, Try.ntmps7
  have c0 : W.cell? ⟨w.heap.size, 0, none⟩ = some (.bool up) := by rw [cell_of_row _ _ _ _ _ _ A]; rfl
  have c1 : W.cell? ⟨w.heap.size, 1, none⟩ = some (.bool se) := by rw [cell_of_row _ _ _ _ _ _ A]; rfl
  have c2 : W.cell? ⟨w.heap.size, 2, none⟩ = some (.int .i64 ap) := by rw [cell_of_row _ _ _ _ _ _ A]; rfl
  have c3 : W.cell? ⟨w.heap.size, 3, none⟩ = some (.int .i64 pt) := by rw [cell_of_row _ _ _ _ _ _ A]; rfl
  have c4 : W.cell? ⟨w.heap.size, 4, none⟩ = some (.int .i64 ct) := by rw [cell_of_row _ _ _ _ _ _ A]; rfl
  have c5 : W.cell? ⟨w.heap.size, 5, none⟩ = some (.slice a n c) := by rw [cell_of_row _ _ _ _ _ _ A]; rfl
  have hW' := hW.symm
  clear hW
  go_wp2_with fail
  clear hW'
  refine (may_any _ _ _ _ _ _ _ _ _).mono ?_
  rintro e W1 ⟨rfl, B1⟩
  have hne : (m != 0) = true := by simpa using h
  rw [← hm]
  have B1 := B.trans (B1.mono B.size)
  clear hm
  go_wp2_with fail
  go_ret2
  exact ⟨rfl, B1⟩
end Go.Proofs.Ytjiipmalahhcpaa
/- packet.Decode, where a packet's bytes stand at the row's head. -/
namespace Go.Proofs.Ytjiipmalahhcpaa
set_option linter.unusedVariables false
open Go.RowKit

def wordAt (bs : List Nat) (k : Nat) : Nat := (nth bs (2 * k) * 256) ||| nth bs (2 * k + 1)
set_option maxRecDepth 1000000 in
theorem wordAt_lt {bs : List Nat} (h : AllB bs) (k : Nat) : wordAt bs k < 65536 :=
  Nat.or_lt_two_pow (n := 16) (by have := nth_lt h (2 * k); omega) (by have := nth_lt h (2 * k + 1); omega)

set_option maxRecDepth 1000000 in
theorem Rd.sub {w : World} {b off n cap : Nat} {xs : List Value} (h : Rd w (some ⟨b, off, none⟩) n cap xs) (k m : Nat) (hkm : k + m ≤ n) : Rd w (some ⟨b, off + k, none⟩) m (cap - k) ((xs.drop k).take m) := by
  have hl := h.len
  have hle := h.le
  have hmx := h.max
  refine ⟨by rw [List.length_take, List.length_drop]; omega, by omega, by omega, (fun h => by cases h), fun hm => ?_⟩
  obtain ⟨b', off', ha, hlt, hc⟩ := h.mem (by omega)
  cases ha
  refine ⟨b, off + k, rfl, hlt, fun j hj => ?_⟩
  rw [List.getElem?_take, if_pos hj, List.getElem?_drop, ← hc (k + j) (by omega), Nat.add_assoc]

set_option maxRecDepth 1000000 in
theorem vb_drop (bs : List Nat) (k : Nat) : (vb bs).drop k = vb (bs.drop k) := by simp [vb]

set_option maxRecDepth 1000000 in
theorem grownBy_setAt (W : World) (b o : Nat) (v : Value) : W.grownBy (W.setCell ⟨b, o, none⟩ v) (some b) :=
  ⟨rfl, rfl, rfl, by simp, fun k hk hne => Below.heap_setCell _ _ _ _ (by intro e; exact hne (by rw [e]))⟩

set_option maxRecDepth 1000000 in
theorem grown_cell {w w' : World} {row : Option Nat} {b o : Nat} {v : Value} (hg : w.grownBy w' row) (hlt : b < w.heap.size) (hne : some b ≠ row) (hc : w.cell? ⟨b, o, none⟩ = some v) : w'.cell? ⟨b, o, none⟩ = some v :=
  (World.cell?_of_block (hg.block b hlt hne)).trans hc

set_option maxRecDepth 1000000 in
set_option maxHeartbeats 2000000 in
theorem decode_ok (a : Option Addr) (n c : Nat) (bs : List Nat) (w : World) (hr : Rd w a n c (vb bs)) (hb : AllB bs)
    (h6 : 6 ≤ n) (hv : wordAt bs 0 < 8192) (hl : wordAt bs 2 + 7 ≤ n) :
    Calls Try.prog 35 #[.slice a n c] w fun e w' => ∃ ao cc, e = .returned (.tuple #[.agg #[.bool (((wordAt bs 0 &&& 4096 : Nat) : Int) != 0), .bool (((wordAt bs 0 &&& 2048 : Nat) : Int) != 0), .int .i64 (wordAt bs 0 &&& 2047 : Nat), .int .i64 ((wordAt bs 1 : Int) / 16384), .int .i64 (wordAt bs 1 &&& 16383 : Nat), .slice ao (wordAt bs 2 + 1) cc], .int .i64 ((wordAt bs 2 : Int) + 7), .int .i64 0]) ∧
      w'.ownsRow w.heap.size 5 1 (.slice ao (wordAt bs 2 + 1) cc) (wordAt bs 2 + 1) (vb ((bs.drop 6).take (wordAt bs 2 + 1))) ∧ Below w.heap.size w w' := by
  obtain ⟨b, off, rfl, hbl, _⟩ := hr.cell 0 (by omega)
  obtain ⟨V0, hW⟩ : ∃ V0, V0 = (w.alloc (.cells #[.bool false, .bool false, .int .i64 0, .int .i64 0, .int .i64 0, .slice none 0 0] 38)).alloc (.cells #[.int .i64 0, .int .i64 0, .int .i64 0] 103) := ⟨_, rfl⟩
  have B0 : Below w.heap.size w V0 := by rw [hW]; exact (below_alloc w _).alloc (by simp) _
  have A0 : V0.heap[w.heap.size]? = some (.cells #[.bool false, .bool false, .int .i64 0, .int .i64 0, .int .i64 0, .slice none 0 0] 38 (0, 0)) := by
    rw [hW]; exact heap_alloc2_old w _ _
  have A1 : V0.heap[w.heap.size + 1]? = some (.cells #[.int .i64 0, .int .i64 0, .int .i64 0] 103 (0, 0)) := by rw [hW]; exact heap_alloc2_new w _ _
  go_enter Try.func35, Try.ntmps35
  go_wp2_with fail
  rw [← hW]
  clear hW
  refine wp_loop_rounds 4 ?_
  rw [rounds_succ]
  go_wp2_with fail
  have rk := hr.below B0
  obtain ⟨_, _, hab, _, x0⟩ := rk.cell 0 (by omega)
  cases hab
  obtain ⟨_, _, hab, _, x1⟩ := rk.cell 1 (by omega)
  cases hab
  clear rk
  try simp only [Nat.add_zero] at x0
  have y0 := nth_lt hb 0
  have y1 := nth_lt hb 1
  have s3 : IntKind.i64.wrap (nth bs 0 : Int) = (nth bs 0 : Int) := wraps_i64 _ (by omega) (by omega)
  have s4 : IntKind.i64.wrap ((nth bs 0 : Int) * 256) = (nth bs 0 : Int) * 256 := wraps_i64 _ (by omega) (by omega)
  have s5 : IntKind.i64.wrap (nth bs 1 : Int) = (nth bs 1 : Int) := wraps_i64 _ (by omega) (by omega)
  have q : bits .or .i64 ((nth bs 0 : Int) * 256) (nth bs 1) = ((wordAt bs 0 : Nat) : Int) := i64_or_nat (nth bs 0 * 256) (nth bs 1) (by omega) (by omega)
  have l0 : (0 : Int) < n := by omega
  have l1 : (1 : Int) < n := by omega
  have l2 : 0 < n := by omega
  have l3 : 1 < n := by omega
  have s1 : IntKind.i64.wrap 0 = 0 := by decide
  have s2 : IntKind.i64.wrap 1 = 1 := by decide
  refine wp_region_still_tail 17 (by kernel_rfl) (by kernel_rfl) ?_
  simp only [List.take_succ_cons, List.take_zero, List.drop_succ_cons, List.drop_zero]
  repeat still_step
  refine wpStill_nil ?_
  change wpList _ _ _ _ _ V0.drew
  have A0 : V0.drew.heap[w.heap.size]? = _ := A0
  have A1 : V0.drew.heap[w.heap.size + 1]? = _ := A1
  have B0 := B0.drew
  have fA : V0.drew.frozen? ⟨w.heap.size + 1, 0, none⟩ = false := frozen_of_row _ _ _ _ _ A1
  have cA : V0.drew.cell? ⟨w.heap.size + 1, 0, none⟩ = some (.int .i64 0) := by rw [cell_of_row _ _ _ _ _ _ A1]; rfl
  clear x0 x1 s1 s2 s3 s4 s5 q l0 l1 l2 l3 y0 y1
  generalize V0.drew = Vd at *
  go_wp2_with fail
  obtain ⟨V1, hV⟩ : ∃ V1, V1 = Vd.setCell ⟨w.heap.size + 1, 0, none⟩ (.int .i64 (wordAt bs 0 : Nat)) := ⟨_, rfl⟩
  rw [← hV]
  have A0 : V1.heap[w.heap.size]? = some (.cells #[.bool false, .bool false, .int .i64 0, .int .i64 0, .int .i64 0, .slice none 0 0] 38 (0, 0)) := by rw [hV, Below.heap_setCell _ _ _ _ (by simp)]; exact A0
  have A1 : V1.heap[w.heap.size + 1]? = some (.cells #[.int .i64 (wordAt bs 0 : Nat), .int .i64 0, .int .i64 0] 103 (0, 0)) := by rw [hV]; exact heap_setCell_same Vd (w.heap.size + 1) 0 _ 103 _ A1
  have B0 : Below w.heap.size w V1 := by rw [hV]; exact B0.setCell (p := ⟨w.heap.size + 1, 0, none⟩) (by simp) _
  clear hV fA cA
  rw [rounds_succ]
  go_wp2_with fail
  have rk := hr.below B0
  obtain ⟨_, _, hab, _, x0⟩ := rk.cell 2 (by omega)
  cases hab
  obtain ⟨_, _, hab, _, x1⟩ := rk.cell 3 (by omega)
  cases hab
  clear rk
  try simp only [Nat.add_zero] at x0
  have y0 := nth_lt hb 2
  have y1 := nth_lt hb 3
  have s3 : IntKind.i64.wrap (nth bs 2 : Int) = (nth bs 2 : Int) := wraps_i64 _ (by omega) (by omega)
  have s4 : IntKind.i64.wrap ((nth bs 2 : Int) * 256) = (nth bs 2 : Int) * 256 := wraps_i64 _ (by omega) (by omega)
  have s5 : IntKind.i64.wrap (nth bs 3 : Int) = (nth bs 3 : Int) := wraps_i64 _ (by omega) (by omega)
  have q : bits .or .i64 ((nth bs 2 : Int) * 256) (nth bs 3) = ((wordAt bs 1 : Nat) : Int) := i64_or_nat (nth bs 2 * 256) (nth bs 3) (by omega) (by omega)
  have l0 : (2 : Int) < n := by omega
  have l1 : (3 : Int) < n := by omega
  have l2 : 2 < n := by omega
  have l3 : 3 < n := by omega
  have s1 : IntKind.i64.wrap 2 = 2 := by decide
  have s2 : IntKind.i64.wrap 3 = 3 := by decide
  refine wp_region_still_tail 17 (by kernel_rfl) (by kernel_rfl) ?_
  simp only [List.take_succ_cons, List.take_zero, List.drop_succ_cons, List.drop_zero]
  repeat still_step
  refine wpStill_nil ?_
  change wpList _ _ _ _ _ V1.drew
  have A0 : V1.drew.heap[w.heap.size]? = _ := A0
  have A1 : V1.drew.heap[w.heap.size + 1]? = _ := A1
  have B0 := B0.drew
  have fA : V1.drew.frozen? ⟨w.heap.size + 1, 1, none⟩ = false := frozen_of_row _ _ _ _ _ A1
  have cA : V1.drew.cell? ⟨w.heap.size + 1, 1, none⟩ = some (.int .i64 0) := by rw [cell_of_row _ _ _ _ _ _ A1]; rfl
  clear x0 x1 s1 s2 s3 s4 s5 q l0 l1 l2 l3 y0 y1
  generalize V1.drew = Vd at *
  go_wp2_with fail
  obtain ⟨V2, hV⟩ : ∃ V2, V2 = Vd.setCell ⟨w.heap.size + 1, 1, none⟩ (.int .i64 (wordAt bs 1 : Nat)) := ⟨_, rfl⟩
  rw [← hV]
  have A0 : V2.heap[w.heap.size]? = some (.cells #[.bool false, .bool false, .int .i64 0, .int .i64 0, .int .i64 0, .slice none 0 0] 38 (0, 0)) := by rw [hV, Below.heap_setCell _ _ _ _ (by simp)]; exact A0
  have A1 : V2.heap[w.heap.size + 1]? = some (.cells #[.int .i64 (wordAt bs 0 : Nat), .int .i64 (wordAt bs 1 : Nat), .int .i64 0] 103 (0, 0)) := by rw [hV]; exact heap_setCell_same Vd (w.heap.size + 1) 1 _ 103 _ A1
  have B0 : Below w.heap.size w V2 := by rw [hV]; exact B0.setCell (p := ⟨w.heap.size + 1, 1, none⟩) (by simp) _
  clear hV fA cA
  rw [rounds_succ]
  go_wp2_with fail
  have rk := hr.below B0
  obtain ⟨_, _, hab, _, x0⟩ := rk.cell 4 (by omega)
  cases hab
  obtain ⟨_, _, hab, _, x1⟩ := rk.cell 5 (by omega)
  cases hab
  clear rk
  try simp only [Nat.add_zero] at x0
  have y0 := nth_lt hb 4
  have y1 := nth_lt hb 5
  have s3 : IntKind.i64.wrap (nth bs 4 : Int) = (nth bs 4 : Int) := wraps_i64 _ (by omega) (by omega)
  have s4 : IntKind.i64.wrap ((nth bs 4 : Int) * 256) = (nth bs 4 : Int) * 256 := wraps_i64 _ (by omega) (by omega)
  have s5 : IntKind.i64.wrap (nth bs 5 : Int) = (nth bs 5 : Int) := wraps_i64 _ (by omega) (by omega)
  have q : bits .or .i64 ((nth bs 4 : Int) * 256) (nth bs 5) = ((wordAt bs 2 : Nat) : Int) := i64_or_nat (nth bs 4 * 256) (nth bs 5) (by omega) (by omega)
  have l0 : (4 : Int) < n := by omega
  have l1 : (5 : Int) < n := by omega
  have l2 : 4 < n := by omega
  have l3 : 5 < n := by omega
  have s1 : IntKind.i64.wrap 4 = 4 := by decide
  have s2 : IntKind.i64.wrap 5 = 5 := by decide
  refine wp_region_still_tail 17 (by kernel_rfl) (by kernel_rfl) ?_
  simp only [List.take_succ_cons, List.take_zero, List.drop_succ_cons, List.drop_zero]
  repeat still_step
  refine wpStill_nil ?_
  change wpList _ _ _ _ _ V2.drew
  have A0 : V2.drew.heap[w.heap.size]? = _ := A0
  have A1 : V2.drew.heap[w.heap.size + 1]? = _ := A1
  have B0 := B0.drew
  have fA : V2.drew.frozen? ⟨w.heap.size + 1, 2, none⟩ = false := frozen_of_row _ _ _ _ _ A1
  have cA : V2.drew.cell? ⟨w.heap.size + 1, 2, none⟩ = some (.int .i64 0) := by rw [cell_of_row _ _ _ _ _ _ A1]; rfl
  clear x0 x1 s1 s2 s3 s4 s5 q l0 l1 l2 l3 y0 y1
  generalize V2.drew = Vd at *
  go_wp2_with fail
  obtain ⟨V3, hV⟩ : ∃ V3, V3 = Vd.setCell ⟨w.heap.size + 1, 2, none⟩ (.int .i64 (wordAt bs 2 : Nat)) := ⟨_, rfl⟩
  rw [← hV]
  have A0 : V3.heap[w.heap.size]? = some (.cells #[.bool false, .bool false, .int .i64 0, .int .i64 0, .int .i64 0, .slice none 0 0] 38 (0, 0)) := by rw [hV, Below.heap_setCell _ _ _ _ (by simp)]; exact A0
  have A1 : V3.heap[w.heap.size + 1]? = some (.cells #[.int .i64 (wordAt bs 0 : Nat), .int .i64 (wordAt bs 1 : Nat), .int .i64 (wordAt bs 2 : Nat)] 103 (0, 0)) := by rw [hV]; exact heap_setCell_same Vd (w.heap.size + 1) 2 _ 103 _ A1
  have B0 : Below w.heap.size w V3 := by rw [hV]; exact B0.setCell (p := ⟨w.heap.size + 1, 2, none⟩) (by simp) _
  clear hV fA cA
  have k0 : V3.cell? ⟨w.heap.size + 1, 0, none⟩ = some (.int .i64 (wordAt bs 0 : Nat)) := by rw [cell_of_row _ _ _ _ _ _ A1]; rfl
  have k1 : V3.cell? ⟨w.heap.size + 1, 1, none⟩ = some (.int .i64 (wordAt bs 1 : Nat)) := by rw [cell_of_row _ _ _ _ _ _ A1]; rfl
  have k2 : V3.cell? ⟨w.heap.size + 1, 2, none⟩ = some (.int .i64 (wordAt bs 2 : Nat)) := by rw [cell_of_row _ _ _ _ _ _ A1]; rfl
  have w0 := wordAt_lt hb 0
  have w1 := wordAt_lt hb 1
  have w2 := wordAt_lt hb 2
  have m1 : ((wordAt bs 0 : Int) / 8192 != 0) = false := by simp; omega
  have m2 : ¬ ((n : Int) < (wordAt bs 2 : Int) + 7) := by omega
  rw [rounds_succ]
  go_wp2_with fail
  have e0 : V3.drew.cell? ⟨w.heap.size + 1, 0, none⟩ = some (.int .i64 (wordAt bs 0 : Nat)) := k0
  have e1 : V3.drew.cell? ⟨w.heap.size + 1, 1, none⟩ = some (.int .i64 (wordAt bs 1 : Nat)) := k1
  have e2 : V3.drew.cell? ⟨w.heap.size + 1, 2, none⟩ = some (.int .i64 (wordAt bs 2 : Nat)) := k2
  have hz : w.heap.size + 1 < V3.drew.heap.size := (Array.getElem?_eq_some_iff.1 A1).1
  have A0 : V3.drew.heap[w.heap.size]? = some (.cells #[.bool false, .bool false, .int .i64 0, .int .i64 0, .int .i64 0, .slice none 0 0] 38 (0, 0)) := A0
  have B0 := B0.drew
  have hrd := hr.below B0
  have u1 : bits .and .i64 (wordAt bs 0 : Int) 4096 = ((wordAt bs 0 &&& 4096 : Nat) : Int) := i64_and_nat (wordAt bs 0) 4096 (by omega) (by omega)
  have u2 : bits .and .i64 (wordAt bs 0 : Int) 2048 = ((wordAt bs 0 &&& 2048 : Nat) : Int) := i64_and_nat (wordAt bs 0) 2048 (by omega) (by omega)
  have u3 : bits .and .i64 (wordAt bs 0 : Int) 2047 = ((wordAt bs 0 &&& 2047 : Nat) : Int) := i64_and_nat (wordAt bs 0) 2047 (by omega) (by omega)
  have u4 : bits .and .i64 (wordAt bs 1 : Int) 16383 = ((wordAt bs 1 &&& 16383 : Nat) : Int) := i64_and_nat (wordAt bs 1) 16383 (by omega) (by omega)
  have hcn := hr.le
  have p1 : (6 : Int) ≤ (wordAt bs 2 : Int) + 7 := by omega
  have p2 : (wordAt bs 2 : Int) + 7 ≤ (c : Int) := by omega
  have p3 : ((wordAt bs 2 : Int) + 7).toNat = wordAt bs 2 + 7 := by omega
  have p4 : (0 : Int) ≤ (wordAt bs 2 : Int) + 7 := by omega
  refine wp_region_can_all [20, 23] [0, 1, 2, 3, 4, 5, 6, 7, 8, 9, 10, 11, 12, 13, 14, 15, 16, 17, 18, 19, 22, 20, 21, 23, 24, 25] (fun u u' => u.grownBy u' (some w.heap.size)) (fun u => World.grownBy.refl u _) (fun _ _ _ h k => grownBy_trans h k) (by kernel_rfl) (by kernel_rfl) ?_
  clear k0 k1 k2 A1
  generalize V3.drew = wd at *
  have k0 := e0
  have k1 := e1
  have k2 := e2
  clear e0 e1 e2
  simp only [List.map_cons, List.map_nil, List.contains_cons, List.contains_nil, List.getD_cons_zero, List.getD_cons_succ, Nat.reduceBEq, Bool.or_false, Bool.or_true]
  repeat (refine wpL_do rfl (fun w' hw' => (by have k0 := grown_cell hw' hz (by simp) k0; have k1 := grown_cell hw' hz (by simp) k1; have k2 := grown_cell hw' hz (by simp) k2; go_simp; rfl)) ?_; simp only [Act.put, List.setIfInBounds_toArray, List.set_cons_succ, List.set_cons_zero])
  refine wpL_call rfl (fun K hK => ?_)
  go_wp2_with fail
  have hsub := hrd.sub 6 (wordAt bs 2 + 1) (by omega)
  rw [vb_drop, vb_take] at hsub
  refine (clone_any _ _ _ _ _ hsub (by omega)).mono ?_
  rintro e V4 ⟨ao, cc, rfl, o4, b4⟩
  refine hK _ _ (grownBy_of_below b4 _) ?_
  clear hK K hsub
  try simp only [Act.put, List.setIfInBounds_toArray, List.set_cons_succ, List.set_cons_zero]
  have A0 : V4.heap[w.heap.size]? = some (.cells #[.bool false, .bool false, .int .i64 0, .int .i64 0, .int .i64 0, .slice none 0 0] 38 (0, 0)) := (b4.block _ (by omega)).trans A0
  have B0 := B0.trans (b4.mono B0.size)
  have o4 := ownsRow_mono o4 (show w.heap.size + 2 ≤ _ by omega)
  clear k0 k1 k2 hz hrd b4
  repeat (refine wpL_do rfl (fun w' hw' => (by go_simp; rfl)) ?_; simp only [Act.put, List.setIfInBounds_toArray, List.set_cons_succ, List.set_cons_zero])
  have f0 := fun k => cell_of_row V4 w.heap.size k _ _ _ A0
  have c0 : V4.cell? ⟨w.heap.size, 0, none⟩ = some (.bool false) := by rw [f0]; rfl
  have c1 : V4.cell? ⟨w.heap.size, 1, none⟩ = some (.bool false) := by rw [f0]; rfl
  have c2 : V4.cell? ⟨w.heap.size, 2, none⟩ = some (.int .i64 0) := by rw [f0]; rfl
  have c3 : V4.cell? ⟨w.heap.size, 3, none⟩ = some (.int .i64 0) := by rw [f0]; rfl
  have c4 : V4.cell? ⟨w.heap.size, 4, none⟩ = some (.int .i64 0) := by rw [f0]; rfl
  have c5 : V4.cell? ⟨w.heap.size, 5, none⟩ = some (.slice none 0 0) := by rw [f0]; rfl
  have fr : ∀ k, V4.frozen? ⟨w.heap.size, k, none⟩ = false := fun k => frozen_of_row _ _ _ _ _ A0
  clear f0
  refine wpL_call rfl (fun K hK => ?_)
  go_wp2_with fail
  have A0 : (V4.setCell ⟨w.heap.size, 0, none⟩ (.bool (((wordAt bs 0 &&& 4096 : Nat) : Int) != 0))).heap[w.heap.size]? = some (.cells #[(.bool (((wordAt bs 0 &&& 4096 : Nat) : Int) != 0)), (.bool false), (.int .i64 0), (.int .i64 0), (.int .i64 0), (.slice none 0 0)] 38 (0, 0)) := heap_setCell_same V4 w.heap.size 0 _ 38 _ A0
  have A0 : ((V4.setCell ⟨w.heap.size, 0, none⟩ (.bool (((wordAt bs 0 &&& 4096 : Nat) : Int) != 0))).setCell ⟨w.heap.size, 1, none⟩ (.bool (((wordAt bs 0 &&& 2048 : Nat) : Int) != 0))).heap[w.heap.size]? = some (.cells #[(.bool (((wordAt bs 0 &&& 4096 : Nat) : Int) != 0)), (.bool (((wordAt bs 0 &&& 2048 : Nat) : Int) != 0)), (.int .i64 0), (.int .i64 0), (.int .i64 0), (.slice none 0 0)] 38 (0, 0)) := heap_setCell_same (V4.setCell ⟨w.heap.size, 0, none⟩ (.bool (((wordAt bs 0 &&& 4096 : Nat) : Int) != 0))) w.heap.size 1 _ 38 _ A0
  have A0 : (((V4.setCell ⟨w.heap.size, 0, none⟩ (.bool (((wordAt bs 0 &&& 4096 : Nat) : Int) != 0))).setCell ⟨w.heap.size, 1, none⟩ (.bool (((wordAt bs 0 &&& 2048 : Nat) : Int) != 0))).setCell ⟨w.heap.size, 2, none⟩ (.int .i64 (wordAt bs 0 &&& 2047 : Nat))).heap[w.heap.size]? = some (.cells #[(.bool (((wordAt bs 0 &&& 4096 : Nat) : Int) != 0)), (.bool (((wordAt bs 0 &&& 2048 : Nat) : Int) != 0)), (.int .i64 (wordAt bs 0 &&& 2047 : Nat)), (.int .i64 0), (.int .i64 0), (.slice none 0 0)] 38 (0, 0)) := heap_setCell_same ((V4.setCell ⟨w.heap.size, 0, none⟩ (.bool (((wordAt bs 0 &&& 4096 : Nat) : Int) != 0))).setCell ⟨w.heap.size, 1, none⟩ (.bool (((wordAt bs 0 &&& 2048 : Nat) : Int) != 0))) w.heap.size 2 _ 38 _ A0
  have A0 : ((((V4.setCell ⟨w.heap.size, 0, none⟩ (.bool (((wordAt bs 0 &&& 4096 : Nat) : Int) != 0))).setCell ⟨w.heap.size, 1, none⟩ (.bool (((wordAt bs 0 &&& 2048 : Nat) : Int) != 0))).setCell ⟨w.heap.size, 2, none⟩ (.int .i64 (wordAt bs 0 &&& 2047 : Nat))).setCell ⟨w.heap.size, 3, none⟩ (.int .i64 ((wordAt bs 1 : Int) / 16384))).heap[w.heap.size]? = some (.cells #[(.bool (((wordAt bs 0 &&& 4096 : Nat) : Int) != 0)), (.bool (((wordAt bs 0 &&& 2048 : Nat) : Int) != 0)), (.int .i64 (wordAt bs 0 &&& 2047 : Nat)), (.int .i64 ((wordAt bs 1 : Int) / 16384)), (.int .i64 0), (.slice none 0 0)] 38 (0, 0)) := heap_setCell_same (((V4.setCell ⟨w.heap.size, 0, none⟩ (.bool (((wordAt bs 0 &&& 4096 : Nat) : Int) != 0))).setCell ⟨w.heap.size, 1, none⟩ (.bool (((wordAt bs 0 &&& 2048 : Nat) : Int) != 0))).setCell ⟨w.heap.size, 2, none⟩ (.int .i64 (wordAt bs 0 &&& 2047 : Nat))) w.heap.size 3 _ 38 _ A0
  have A0 : (((((V4.setCell ⟨w.heap.size, 0, none⟩ (.bool (((wordAt bs 0 &&& 4096 : Nat) : Int) != 0))).setCell ⟨w.heap.size, 1, none⟩ (.bool (((wordAt bs 0 &&& 2048 : Nat) : Int) != 0))).setCell ⟨w.heap.size, 2, none⟩ (.int .i64 (wordAt bs 0 &&& 2047 : Nat))).setCell ⟨w.heap.size, 3, none⟩ (.int .i64 ((wordAt bs 1 : Int) / 16384))).setCell ⟨w.heap.size, 4, none⟩ (.int .i64 (wordAt bs 1 &&& 16383 : Nat))).heap[w.heap.size]? = some (.cells #[(.bool (((wordAt bs 0 &&& 4096 : Nat) : Int) != 0)), (.bool (((wordAt bs 0 &&& 2048 : Nat) : Int) != 0)), (.int .i64 (wordAt bs 0 &&& 2047 : Nat)), (.int .i64 ((wordAt bs 1 : Int) / 16384)), (.int .i64 (wordAt bs 1 &&& 16383 : Nat)), (.slice none 0 0)] 38 (0, 0)) := heap_setCell_same ((((V4.setCell ⟨w.heap.size, 0, none⟩ (.bool (((wordAt bs 0 &&& 4096 : Nat) : Int) != 0))).setCell ⟨w.heap.size, 1, none⟩ (.bool (((wordAt bs 0 &&& 2048 : Nat) : Int) != 0))).setCell ⟨w.heap.size, 2, none⟩ (.int .i64 (wordAt bs 0 &&& 2047 : Nat))).setCell ⟨w.heap.size, 3, none⟩ (.int .i64 ((wordAt bs 1 : Int) / 16384))) w.heap.size 4 _ 38 _ A0
  have A0 : ((((((V4.setCell ⟨w.heap.size, 0, none⟩ (.bool (((wordAt bs 0 &&& 4096 : Nat) : Int) != 0))).setCell ⟨w.heap.size, 1, none⟩ (.bool (((wordAt bs 0 &&& 2048 : Nat) : Int) != 0))).setCell ⟨w.heap.size, 2, none⟩ (.int .i64 (wordAt bs 0 &&& 2047 : Nat))).setCell ⟨w.heap.size, 3, none⟩ (.int .i64 ((wordAt bs 1 : Int) / 16384))).setCell ⟨w.heap.size, 4, none⟩ (.int .i64 (wordAt bs 1 &&& 16383 : Nat))).setCell ⟨w.heap.size, 5, none⟩ (.slice ao (wordAt bs 2 + 1) cc)).heap[w.heap.size]? = some (.cells #[(.bool (((wordAt bs 0 &&& 4096 : Nat) : Int) != 0)), (.bool (((wordAt bs 0 &&& 2048 : Nat) : Int) != 0)), (.int .i64 (wordAt bs 0 &&& 2047 : Nat)), (.int .i64 ((wordAt bs 1 : Int) / 16384)), (.int .i64 (wordAt bs 1 &&& 16383 : Nat)), (.slice ao (wordAt bs 2 + 1) cc)] 38 (0, 0)) := heap_setCell_same (((((V4.setCell ⟨w.heap.size, 0, none⟩ (.bool (((wordAt bs 0 &&& 4096 : Nat) : Int) != 0))).setCell ⟨w.heap.size, 1, none⟩ (.bool (((wordAt bs 0 &&& 2048 : Nat) : Int) != 0))).setCell ⟨w.heap.size, 2, none⟩ (.int .i64 (wordAt bs 0 &&& 2047 : Nat))).setCell ⟨w.heap.size, 3, none⟩ (.int .i64 ((wordAt bs 1 : Int) / 16384))).setCell ⟨w.heap.size, 4, none⟩ (.int .i64 (wordAt bs 1 &&& 16383 : Nat))) w.heap.size 5 _ 38 _ A0
  have G : V4.grownBy ((((((V4.setCell ⟨w.heap.size, 0, none⟩ (.bool (((wordAt bs 0 &&& 4096 : Nat) : Int) != 0))).setCell ⟨w.heap.size, 1, none⟩ (.bool (((wordAt bs 0 &&& 2048 : Nat) : Int) != 0))).setCell ⟨w.heap.size, 2, none⟩ (.int .i64 (wordAt bs 0 &&& 2047 : Nat))).setCell ⟨w.heap.size, 3, none⟩ (.int .i64 ((wordAt bs 1 : Int) / 16384))).setCell ⟨w.heap.size, 4, none⟩ (.int .i64 (wordAt bs 1 &&& 16383 : Nat))).setCell ⟨w.heap.size, 5, none⟩ (.slice ao (wordAt bs 2 + 1) cc)) (some w.heap.size) := (grownBy_trans (grownBy_trans (grownBy_trans (grownBy_trans (grownBy_trans (grownBy_setAt V4 w.heap.size 0 _) (grownBy_setAt _ w.heap.size 1 _)) (grownBy_setAt _ w.heap.size 2 _)) (grownBy_setAt _ w.heap.size 3 _)) (grownBy_setAt _ w.heap.size 4 _)) (grownBy_setAt _ w.heap.size 5 _))
  refine hK _ _ G ?_
  clear hK K c0 c1 c2 c3 c4 c5 fr
  try simp only [Act.put, List.setIfInBounds_toArray, List.set_cons_succ, List.set_cons_zero]
  generalize ((((((V4.setCell ⟨w.heap.size, 0, none⟩ (.bool (((wordAt bs 0 &&& 4096 : Nat) : Int) != 0))).setCell ⟨w.heap.size, 1, none⟩ (.bool (((wordAt bs 0 &&& 2048 : Nat) : Int) != 0))).setCell ⟨w.heap.size, 2, none⟩ (.int .i64 (wordAt bs 0 &&& 2047 : Nat))).setCell ⟨w.heap.size, 3, none⟩ (.int .i64 ((wordAt bs 1 : Int) / 16384))).setCell ⟨w.heap.size, 4, none⟩ (.int .i64 (wordAt bs 1 &&& 16383 : Nat))).setCell ⟨w.heap.size, 5, none⟩ (.slice ao (wordAt bs 2 + 1) cc)) = V5 at *
  repeat (refine wpL_do rfl (fun w' hw' => (by go_simp; rfl)) ?_; simp only [Act.put, List.setIfInBounds_toArray, List.set_cons_succ, List.set_cons_zero])
  refine wpL_nil ?_
  go_wp2
  have g0 : V5.cell? ⟨w.heap.size, 0, none⟩ = some (.bool (((wordAt bs 0 &&& 4096 : Nat) : Int) != 0)) := by rw [cell_of_row V5 w.heap.size 0 _ _ _ A0]; rfl
  have g1 : V5.cell? ⟨w.heap.size, 1, none⟩ = some (.bool (((wordAt bs 0 &&& 2048 : Nat) : Int) != 0)) := by rw [cell_of_row V5 w.heap.size 1 _ _ _ A0]; rfl
  have g2 : V5.cell? ⟨w.heap.size, 2, none⟩ = some (.int .i64 (wordAt bs 0 &&& 2047 : Nat)) := by rw [cell_of_row V5 w.heap.size 2 _ _ _ A0]; rfl
  have g3 : V5.cell? ⟨w.heap.size, 3, none⟩ = some (.int .i64 ((wordAt bs 1 : Int) / 16384)) := by rw [cell_of_row V5 w.heap.size 3 _ _ _ A0]; rfl
  have g4 : V5.cell? ⟨w.heap.size, 4, none⟩ = some (.int .i64 (wordAt bs 1 &&& 16383 : Nat)) := by rw [cell_of_row V5 w.heap.size 4 _ _ _ A0]; rfl
  have g5 : V5.cell? ⟨w.heap.size, 5, none⟩ = some (.slice ao (wordAt bs 2 + 1) cc) := by rw [cell_of_row V5 w.heap.size 5 _ _ _ A0]; rfl
  try simp only [Exit.inBlock, Exit.then]
  refine bodyPost_ret (by simp only [results, Try.results35, go_sem]; simp [go_sem, g0, g1, g2, g3, g4, g5]; rfl) rfl ?_
  refine ⟨ao, cc, rfl, ?_, B0.grown G B0.size (fun k e => by cases e; exact Nat.le_refl _)⟩
  have hne : Value.ownBlock (.slice ao (wordAt bs 2 + 1) cc) ≠ some w.heap.size := by
    obtain ⟨_, _, _, _, hob⟩ := own_slice o4
    intro e
    have := hob _ e
    omega
  exact ownsRow_mono (o4.kept G (.inr hne)) (by omega)
end Go.Proofs.Ytjiipmalahhcpaa
