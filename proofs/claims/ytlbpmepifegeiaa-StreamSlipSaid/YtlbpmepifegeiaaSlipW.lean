/- StreamSlip: the walk. -/
import Derived.Test.YtlbpmepifegeiaaOneL
import Derived.Test.YtlbpmepifegeiaaRowsS
import Derived.Test.YtlbpmepifegeiaaLawQ
import Derived.Test.YtlbpmepifegeiaaPick
import Derived.Test.YtlbpmepifegeiaaRegion
import Derived.Test.YtlbpmepifegeiaaRegionT
import Derived.Test.YtlbpmepifegeiaaAppendRd
import Derived.Test.YtlbpmepifegeiaaLawR
import Derived.Test.YtlbpmepifegeiaaOpenS
namespace Go.Proofs.Ytlbpmepifegeiaa
set_option linter.unusedVariables false
set_option linter.unusedSimpArgs false
open Go.RowKit

/-- a rule in its box -/
theorem four {W : World} {b : Nat} {r0 r1 r2 r3 : Value} (h : W.heap[b]? = some (.cells #[r0, r1, r2, r3] 23)) (x0 x1 x2 x3 : Value) :
    ((((W.setCell ⟨b, 0, none⟩ x0).setCell ⟨b, 1, none⟩ x1).setCell ⟨b, 2, none⟩ x2).setCell ⟨b, 3, none⟩ x3).heap[b]? = some (.cells #[x0, x1, x2, x3] 23) ∧ W.grownBy ((((W.setCell ⟨b, 0, none⟩ x0).setCell ⟨b, 1, none⟩ x1).setCell ⟨b, 2, none⟩ x2).setCell ⟨b, 3, none⟩ x3) (some b) := by
  obtain ⟨h0, g0⟩ := set_row h 0 x0 rfl
  obtain ⟨h1, g1⟩ := set_row h0 1 x1 rfl
  obtain ⟨h2, g2⟩ := set_row h1 2 x2 rfl
  obtain ⟨h3, g3⟩ := set_row h2 3 x3 rfl
  exact ⟨h3, grownBy_trans (grownBy_trans (grownBy_trans g0 g1) g2) g3⟩


theorem cut6 {F : World → Nat → Nat → Nat → Option Addr → Nat → Prop} {A : Prop} (G : World → Nat → Nat → Nat → Option Addr → Nat → Prop) (h1 : (∀ V a b c d e, F V a b c d e → G V a b c d e) → A) (h2 : ∀ V a b c d e, F V a b c d e → G V a b c d e) : A := h1 h2
/-- two frames are put ahead of the others -/
structure SlipF (U : World) (hs : List Hd) (pss : List (List Nat)) (pn : Nat) (V : World) (N1 N2 : Nat) (va : Option Addr) (vc : Nat) : Prop where
  blw : Below U.heap.size U V
  row : V.ownsRow U.heap.size 24 1 (.slice va (2 + pn) vc) (2 + pn) ([.slice (some ⟨N1, 0, none⟩) 1 1, .slice (some ⟨N2, 0, none⟩) 1 1] ++ hs.map hv)
  one : V.heap[N1]? = some (.cells #[.int .u8 1] 5)
  two : V.heap[N2]? = some (.cells #[.int .u8 2] 5)

set_option maxRecDepth 100000 in
set_option maxHeartbeats 4000000 in
theorem slip_ok (r0 r1 r2 r3 : Int) (h0 : I64 r0) (h1 : I64 r1) (h2 : I64 r2) (h3 : I64 r3) (pa : Option Addr) (pn pc : Nat) (hs : List Hd) (pss : List (List Nat)) (ri rp : Int) (hri : I64 ri) (hrp : I64 rp) (mo bi : Bool) (w : World) (hp : PcsAt w pa pn pc hs pss) (hpn : pn * 24 ≤ 140737488351232) :
    Calls Try.prog 5 #[.agg #[.int .i64 r0, .int .i64 r1, .int .i64 r2, .int .i64 r3], .slice pa pn pc, .int .i64 ri, .int .i64 rp, .bool mo, .bool bi] w fun e w' => e = .returned (.bool true) ∧ Below w.heap.size w w' := by
  have bx := below_alloc w (.cells #[.int .i64 r0, .int .i64 r1, .int .i64 r2, .int .i64 r3] 23)
  have hx := heap_alloc_new w (.cells #[.int .i64 r0, .int .i64 r1, .int .i64 r2, .int .i64 r3] 23)
  go_enter Try.func5, Try.ntmps5
  go_upto_region 1 with fail
  obtain ⟨W0, hW0⟩ : ∃ W0, W0 = w.alloc (.cells #[.int .i64 r0, .int .i64 r1, .int .i64 r2, .int .i64 r3] 23) := ⟨_, rfl⟩
  rw [← hW0] at bx hx ⊢
  have HW0 := hid hW0
  clear hW0
  obtain ⟨b, hb⟩ : ∃ b, b = w.heap.size := ⟨_, rfl⟩
  rw [← hb] at hx ⊢
  have Hb := hid hb
  clear hb
  refine wp_region_can 14 [2, 6, 9, 12] [0, 1, 4, 5, 7, 8, 10, 11, 2, 3, 6, 9, 12, 13] (fun u u' => u' = u) (fun _ => rfl) (fun _ _ _ h k => k.trans h) (by kernel_rfl) (by kernel_rfl) ?_
  simp only [List.map_cons, List.map_nil, List.contains_cons, List.contains_nil, List.getD_cons_zero, List.getD_cons_succ, Nat.reduceBEq, Bool.or_false, Bool.or_true]
  have bV : Below w.heap.size w W0.drew := bx.drew
  have hV : W0.drew.heap[b]? = some (.cells #[.int .i64 r0, .int .i64 r1, .int .i64 r2, .int .i64 r3] 23) := hx
  generalize W0.drew = V at *
  clear HW0 bx hx
  have c0 : ∀ w', w' = V → w'.cell? ⟨b, 0, none⟩ = some (.int .i64 r0) := fun w' hw => by rw [hw, cell_of_row _ _ _ _ _ _ hV]; rfl
  have c1 : ∀ w', w' = V → w'.cell? ⟨b, 1, none⟩ = some (.int .i64 r1) := fun w' hw => by rw [hw, cell_of_row _ _ _ _ _ _ hV]; rfl
  have c2 : ∀ w', w' = V → w'.cell? ⟨b, 2, none⟩ = some (.int .i64 r2) := fun w' hw => by rw [hw, cell_of_row _ _ _ _ _ _ hV]; rfl
  have c3 : ∀ w', w' = V → w'.cell? ⟨b, 3, none⟩ = some (.int .i64 r3) := fun w' hw => by rw [hw, cell_of_row _ _ _ _ _ _ hV]; rfl
  repeat (refine wpL_do rfl (fun w' hw' => (by go_simp; rfl)) ?_; simp only [Act.put, List.setIfInBounds_toArray, List.set_cons_succ, List.set_cons_zero])
  clear c0 c1 c2 c3
  refine wpL_call rfl (fun K hK => ?_)
  go_wp2_with fail
  refine (pick_st r0 40 V h0.1 h0.2 (by decide) (by decide)).mono ?_
  rintro e w' ⟨rfl, hw'⟩
  rw [hw']
  clear hw' w'
  refine hK _ _ rfl ?_
  clear hK K
  try simp only [Act.put, List.setIfInBounds_toArray, List.set_cons_succ, List.set_cons_zero]
  have p0 := pk_lt r0 40 (by decide)
  have e0 : (40 : Int).toNat = 40 := rfl
  rw [e0]
  obtain ⟨L, hL⟩ : ∃ L, L = 1 + pk r0 40 := ⟨_, rfl⟩
  have a0 : (1 : Int) + ((pk r0 40 : Nat) : Int) = (L : Int) := by omega
  have a1 : IntKind.i64.wrap (L : Int) = (L : Int) := IntWalk.i64_in _ (by omega)
  have hLL : 1 ≤ L ∧ L ≤ 40 := by omega
  have HL := hid hL
  clear hL p0 e0
  repeat (refine wpL_do rfl (fun w' hw' => (by go_simp; rfl)) ?_; simp only [Act.put, List.setIfInBounds_toArray, List.set_cons_succ, List.set_cons_zero])
  clear a0 a1
  refine wpL_call rfl (fun K hK => ?_)
  go_wp2_with fail
  refine (pick_st r1 4 V h1.1 h1.2 (by decide) (by decide)).mono ?_
  rintro e w' ⟨rfl, hw'⟩
  rw [hw']
  clear hw' w'
  refine hK _ _ rfl ?_
  clear hK K
  try simp only [Act.put, List.setIfInBounds_toArray, List.set_cons_succ, List.set_cons_zero]
  refine wpL_call rfl (fun K hK => ?_)
  go_wp2_with fail
  refine (pick_st r2 8 V h2.1 h2.2 (by decide) (by decide)).mono ?_
  rintro e w' ⟨rfl, hw'⟩
  rw [hw']
  clear hw' w'
  refine hK _ _ rfl ?_
  clear hK K
  try simp only [Act.put, List.setIfInBounds_toArray, List.set_cons_succ, List.set_cons_zero]
  refine wpL_call rfl (fun K hK => ?_)
  go_wp2_with fail
  refine (pick_st r3 9 V h3.1 h3.2 (by decide) (by decide)).mono ?_
  rintro e w' ⟨rfl, hw'⟩
  rw [hw']
  clear hw' w'
  refine hK _ _ rfl ?_
  clear hK K
  try simp only [Act.put, List.setIfInBounds_toArray, List.set_cons_succ, List.set_cons_zero]
  have p1 := pk_lt r1 4 (by decide)
  have p2 := pk_lt r2 8 (by decide)
  have p3 := pk_lt r3 9 (by decide)
  rw [show (4 : Int).toNat = 4 from rfl, show (8 : Int).toNat = 8 from rfl, show (9 : Int).toNat = 9 from rfl]
  generalize pk r1 4 = F_ at *
  generalize pk r2 8 = H_ at *
  generalize pk r3 9 = M_ at *
  repeat (refine wpL_do rfl (fun w' hw' => (by go_simp; rfl)) ?_; simp only [Act.put, List.setIfInBounds_toArray, List.set_cons_succ, List.set_cons_zero])
  try refine wpL_nil ?_
  have n0 : V.cell? ⟨b, 0, none⟩ = some (.int .i64 r0) := by rw [cell_of_row _ _ _ _ _ _ hV]; rfl
  have n1 : V.cell? ⟨b, 1, none⟩ = some (.int .i64 r1) := by rw [cell_of_row _ _ _ _ _ _ hV]; rfl
  have n2 : V.cell? ⟨b, 2, none⟩ = some (.int .i64 r2) := by rw [cell_of_row _ _ _ _ _ _ hV]; rfl
  have n3 : V.cell? ⟨b, 3, none⟩ = some (.int .i64 r3) := by rw [cell_of_row _ _ _ _ _ _ hV]; rfl
  have f0 := frozen_row hV 0
  have f1 := frozen_row hV 1
  have f2 := frozen_row hV 2
  have f3 := frozen_row hV 3
  obtain ⟨hV4, g4⟩ := four hV (.int .i64 (L : Int)) (.int .i64 (F_ : Int)) (.int .i64 (H_ : Int)) (.int .i64 (M_ : Int))
  go_upto_region 2 with fail
  refine onlyOn_normal ?_
  have hB4 : Below w.heap.size w ((((V.setCell ⟨b, 0, none⟩ (.int .i64 (L : Int))).setCell ⟨b, 1, none⟩ (.int .i64 (F_ : Int))).setCell ⟨b, 2, none⟩ (.int .i64 (H_ : Int))).setCell ⟨b, 3, none⟩ (.int .i64 (M_ : Int))) :=
    bV.grown g4 bV.size (fun k e => by cases e; rw [Hb.out]; exact Nat.le_refl _)
  obtain ⟨W1, hW1⟩ : ∃ W1, W1 = (((V.setCell ⟨b, 0, none⟩ (.int .i64 (L : Int))).setCell ⟨b, 1, none⟩ (.int .i64 (F_ : Int))).setCell ⟨b, 2, none⟩ (.int .i64 (H_ : Int))).setCell ⟨b, 3, none⟩ (.int .i64 (M_ : Int)) := ⟨_, rfl⟩
  rw [← hW1] at hV4 hB4 ⊢
  clear hW1 g4 n0 n1 n2 n3 f0 f1 f2 f3 hV bV h0 h1 h2 h3
  go_upto_region 2 with fail
  obtain ⟨U, hUe⟩ : ∃ U, U = W1.drew := ⟨_, rfl⟩
  have hpU : PcsAt U pa pn pc hs pss := by rw [hUe]; exact (hp.below hB4).below (Below.refl _ _).drew
  have hVU : U.heap[b]? = some (.cells #[.int .i64 (L : Int), .int .i64 (F_ : Int), .int .i64 (H_ : Int), .int .i64 (M_ : Int)] 23) := by rw [hUe]; exact hV4
  have hBU : Below w.heap.size w U := by rw [hUe]; exact hB4.drew
  have dL : ∀ w', Below U.heap.size U w' → w'.cell? ⟨b, 0, none⟩ = some (.int .i64 (L : Int)) := fun w' hw => by rw [cell_of_row _ _ _ _ _ _ (row_below hVU hw)]; rfl
  have HUe := hid hUe
  clear hV4 hB4 hp hUe
  obtain ⟨B0, hB0⟩ : ∃ B0, B0 = U.heap.size := ⟨_, rfl⟩
  rw [← hB0] at dL
  have HB0 := hid hB0
  clear hB0
  apply cut6 (F := fun V N1 N2 N3 va vc => SlipF U hs pss pn V N1 N2 va vc)
  · intro HF
    refine wp_region_plan [0, 1, 2, 4, 7] (Plan.of [3, 5, 6] (.two 0 (Plan.of [1, 2, 4, 7, 8, 9, 10, 11, 12, 13, 14] .nil) 1 (Plan.of [0, 2, 4, 7, 8, 9, 10, 11, 12, 13, 14] .nil))) (Below B0) (fun _ => Below.refl _ _) (fun _ _ _ h k => h.trans k) (by kernel_rfl) (by kernel_rfl) ?_
    simp only [Plan.of, Plan.lay, List.contains_cons, List.contains_nil, List.getD_cons_zero, List.getD_cons_succ, Nat.reduceBEq, Bool.or_false, Bool.or_true]
    obtain ⟨i24, hi24, hz24, hs24, hb24⟩ := info_parts Try.info24
    rw [← HUe.out]
    have BU : Below B0 U U := Below.refl _ _
    have BUs : B0 ≤ U.heap.size := by rw [HB0.out]; exact Nat.le_refl _
    repeat (refine wpTL_do rfl (fun w' hw' => (by go_simp; rfl)) ?_; simp only [Act.put, List.setIfInBounds_toArray, List.set_cons_succ, List.set_cons_zero])
    refine wpTL_two ?_ ?_
    · refine wpTL_call rfl (fun K hK => ?_)
      go_wp2_with fail
      have bU1 := below_alloc U (.cells #[.int .u8 1] 5)
      have nU1 := heap_alloc_new U (.cells #[.int .u8 1] 5)
      have BU1 := BU.trans (bU1.mono BUs)
      refine hK _ _ (bU1.mono BUs) ?_
      clear hK K
      try simp only [Act.put, List.setIfInBounds_toArray, List.set_cons_succ, List.set_cons_zero]
      obtain ⟨N1, hN1⟩ : ∃ N1, N1 = U.heap.size := ⟨_, rfl⟩
      rw [← hN1] at nU1 ⊢
      clear hN1
      generalize U.alloc (.cells #[.int .u8 1] 5) = U1 at *
      refine wpTL_call rfl (fun K hK => ?_)
      go_wp2_with fail
      have bU2 := below_alloc U1 (.cells #[.int .u8 2] 5)
      have nU2 := heap_alloc_new U1 (.cells #[.int .u8 2] 5)
      have BU2 := BU1.trans (bU2.mono (Nat.le_trans BUs BU1.size))
      refine hK _ _ (bU2.mono (Nat.le_trans BUs BU1.size)) ?_
      clear hK K
      try simp only [Act.put, List.setIfInBounds_toArray, List.set_cons_succ, List.set_cons_zero]
      obtain ⟨N2, hN2⟩ : ∃ N2, N2 = U1.heap.size := ⟨_, rfl⟩
      rw [← hN2] at nU2 ⊢
      clear hN2
      generalize U1.alloc (.cells #[.int .u8 2] 5) = U2 at *
      have m1 := row_below nU1 bU2
      have m2 := nU2
      refine wpTL_call rfl (fun K hK => ?_)
      go_wp2_with fail
      have bU3 := below_alloc U2 (.cells #[.slice (some ⟨N1, 0, none⟩) 1 1, .slice (some ⟨N2, 0, none⟩) 1 1] 24)
      have nU3 := heap_alloc_new U2 (.cells #[.slice (some ⟨N1, 0, none⟩) 1 1, .slice (some ⟨N2, 0, none⟩) 1 1] 24)
      have B3 := BU2.trans (bU3.mono (Nat.le_trans BUs BU2.size))
      refine hK _ _ (bU3.mono (Nat.le_trans BUs BU2.size)) ?_
      clear hK K
      try simp only [Act.put, List.setIfInBounds_toArray, List.set_cons_succ, List.set_cons_zero]
      have o3 := own_of_heap (B := B0) (n := 2) (xs := [.slice (some ⟨N1, 0, none⟩) 1 1, .slice (some ⟨N2, 0, none⟩) 1 1]) nU3 rfl (Nat.le_trans BUs BU2.size) (by unfold maxLen; omega)
      obtain ⟨N3, hN3⟩ : ∃ N3, N3 = U2.heap.size := ⟨_, rfl⟩
      rw [← hN3] at o3 ⊢
      clear hN3
      generalize U2.alloc (.cells #[.slice (some ⟨N1, 0, none⟩) 1 1, .slice (some ⟨N2, 0, none⟩) 1 1] 24) = U3 at *
      refine wpTL_call rfl (fun K hK => ?_)
      refine wp_append_rd (.tmp 46) (.tmp 47) 26 rfl B0 24 i24 _ 24 Try.underlying26 hi24 hz24 hs24 hb24 rfl (some ⟨N3, 0, none⟩) 2 2 _ rfl o3 pa pn pc (hs.map hv) rfl (hpU.rd.below (by rw [← HB0.out]; exact B3)) (fun u hu => by obtain ⟨_, _, rfl⟩ := List.mem_map.1 hu; rfl) (show (2 + pn) * 24 ≤ 140737488355328 by omega) (show 2 + pn ≤ maxLen by unfold maxLen; omega) (Nat.le_trans BUs B3.size) ?_
      intro va vc V oV gV bV
      refine hK _ _ bV ?_
      clear hK K
      try simp only [Act.put, List.setIfInBounds_toArray, List.set_cons_succ, List.set_cons_zero]
      have BV := B3.trans bV
      have k1 := row_kept (row_below m1 bU3) o3 gV (by decide)
      have k2 := row_kept (row_below m2 bU3) o3 gV (by decide)
      refine HF V N1 N2 N3 va vc ⟨by rw [← HB0.out]; exact BV, by rw [← HB0.out]; exact oV, ?_, ?_⟩
      · exact k1
      · exact k2
    · refine wpTL_call rfl (fun K hK => ?_)
      go_wp2_with fail
      have bU1 := below_alloc U (.cells #[.int .u8 2] 5)
      have nU1 := heap_alloc_new U (.cells #[.int .u8 2] 5)
      have BU1 := BU.trans (bU1.mono BUs)
      refine hK _ _ (bU1.mono BUs) ?_
      clear hK K
      try simp only [Act.put, List.setIfInBounds_toArray, List.set_cons_succ, List.set_cons_zero]
      obtain ⟨N2, hN2⟩ : ∃ N2, N2 = U.heap.size := ⟨_, rfl⟩
      rw [← hN2] at nU1 ⊢
      clear hN2
      generalize U.alloc (.cells #[.int .u8 2] 5) = U1 at *
      refine wpTL_call rfl (fun K hK => ?_)
      go_wp2_with fail
      have bU2 := below_alloc U1 (.cells #[.int .u8 1] 5)
      have nU2 := heap_alloc_new U1 (.cells #[.int .u8 1] 5)
      have BU2 := BU1.trans (bU2.mono (Nat.le_trans BUs BU1.size))
      refine hK _ _ (bU2.mono (Nat.le_trans BUs BU1.size)) ?_
      clear hK K
      try simp only [Act.put, List.setIfInBounds_toArray, List.set_cons_succ, List.set_cons_zero]
      obtain ⟨N1, hN1⟩ : ∃ N1, N1 = U1.heap.size := ⟨_, rfl⟩
      rw [← hN1] at nU2 ⊢
      clear hN1
      generalize U1.alloc (.cells #[.int .u8 1] 5) = U2 at *
      have m2 := row_below nU1 bU2
      have m1 := nU2
      refine wpTL_call rfl (fun K hK => ?_)
      go_wp2_with fail
      have bU3 := below_alloc U2 (.cells #[.slice (some ⟨N1, 0, none⟩) 1 1, .slice (some ⟨N2, 0, none⟩) 1 1] 24)
      have nU3 := heap_alloc_new U2 (.cells #[.slice (some ⟨N1, 0, none⟩) 1 1, .slice (some ⟨N2, 0, none⟩) 1 1] 24)
      have B3 := BU2.trans (bU3.mono (Nat.le_trans BUs BU2.size))
      refine hK _ _ (bU3.mono (Nat.le_trans BUs BU2.size)) ?_
      clear hK K
      try simp only [Act.put, List.setIfInBounds_toArray, List.set_cons_succ, List.set_cons_zero]
      have o3 := own_of_heap (B := B0) (n := 2) (xs := [.slice (some ⟨N1, 0, none⟩) 1 1, .slice (some ⟨N2, 0, none⟩) 1 1]) nU3 rfl (Nat.le_trans BUs BU2.size) (by unfold maxLen; omega)
      obtain ⟨N3, hN3⟩ : ∃ N3, N3 = U2.heap.size := ⟨_, rfl⟩
      rw [← hN3] at o3 ⊢
      clear hN3
      generalize U2.alloc (.cells #[.slice (some ⟨N1, 0, none⟩) 1 1, .slice (some ⟨N2, 0, none⟩) 1 1] 24) = U3 at *
      refine wpTL_call rfl (fun K hK => ?_)
      refine wp_append_rd (.tmp 46) (.tmp 47) 26 rfl B0 24 i24 _ 24 Try.underlying26 hi24 hz24 hs24 hb24 rfl (some ⟨N3, 0, none⟩) 2 2 _ rfl o3 pa pn pc (hs.map hv) rfl (hpU.rd.below (by rw [← HB0.out]; exact B3)) (fun u hu => by obtain ⟨_, _, rfl⟩ := List.mem_map.1 hu; rfl) (show (2 + pn) * 24 ≤ 140737488355328 by omega) (show 2 + pn ≤ maxLen by unfold maxLen; omega) (Nat.le_trans BUs B3.size) ?_
      intro va vc V oV gV bV
      refine hK _ _ bV ?_
      clear hK K
      try simp only [Act.put, List.setIfInBounds_toArray, List.set_cons_succ, List.set_cons_zero]
      have BV := B3.trans bV
      have k1 := row_kept (row_below m1 bU3) o3 gV (by decide)
      have k2 := row_kept (row_below m2 bU3) o3 gV (by decide)
      refine HF V N1 N2 N3 va vc ⟨by rw [← HB0.out]; exact BV, by rw [← HB0.out]; exact oV, ?_, ?_⟩
      · exact k1
      · exact k2
  · intro V N1 N2 N3 va vc hF
    have hPV : PcsAt V va (2 + pn) vc ((some ⟨N1, 0, none⟩, 1, 1) :: (some ⟨N2, 0, none⟩, 1, 1) :: hs) ([1] :: [2] :: pss) :=
      ⟨Rd.ofOwn hF.row, .cons ⟨Rd.ofOwn (own_of_heap (B := 0) (n := 1) (xs := vb [1]) hF.one rfl (Nat.zero_le _) (by unfold maxLen; omega)), fun x hx => by simp at hx; omega⟩
        (.cons ⟨Rd.ofOwn (own_of_heap (B := 0) (n := 1) (xs := vb [2]) hF.two rfl (Nat.zero_le _) (by unfold maxLen; omega)), fun x hx => by simp at hx; omega⟩ (hpU.below hF.blw).each)⟩
    have hVV := row_below hVU hF.blw
    have hBV := hBU.trans (hF.blw.mono hBU.size)
    have hsV : B0 ≤ V.heap.size := by rw [HB0.out]; exact hF.blw.size
    clear hF hpU hVU hBU HUe dL HB0
    refine wpTL_call rfl (fun K hK => ?_)
    go_wp2_with fail
    refine (rows_ok L hLL va (2 + pn) vc _ _ V hPV (by omega)).mono ?_
    rintro e W2 ⟨n, ba, bn, bc, aa, ac, hdsL, rfl, hR⟩
    refine hK _ _ (hR.blw.mono hsV) ?_
    clear hK K
    try simp only [Act.put, List.setIfInBounds_toArray, List.set_cons_succ, List.set_cons_zero]
    repeat (refine wpTL_do rfl (fun w' hw' => (by go_simp; rfl)) ?_; simp only [Act.put, List.setIfInBounds_toArray, List.set_cons_succ, List.set_cons_zero])
    refine wpTL_nil ?_
    have hpb : ∀ q ∈ ([1] :: [2] :: pss), AllB q := fun q hq => by
      obtain ⟨i, hi, rfl⟩ := List.getElem_of_mem hq
      have h9 := hPV.len
      have h8 := hPV.each.len
      exact (hPV.each.get i (by omega) hi).2
    have hD : ∀ d ∈ (([1] :: [2] :: pss).take 20).map (padT L), AllB d ∧ d.length = L := fun d hd => by
      obtain ⟨q, hq, rfl⟩ := List.mem_map.1 hd
      exact ⟨padT_b L (hpb q (List.mem_of_mem_take hq)), padT_len L q⟩
    have hk20 : 2 ≤ ((([1] :: [2] :: pss).take 20).map (padT L)).length ∧ ((([1] :: [2] :: pss).take 20).map (padT L)).length ≤ 20 := by simp; omega
    generalize (([1] :: [2] :: pss).take 20).map (padT L) = D at *
    have hB2 := hBV.trans (hR.blw.mono hBV.size)
    have hV2 := row_below hVV hR.blw
    have hnD : n = D.length := hR.len.symm
    have hbits := flatLen D (fun d hd => (hD d hd).2)
    have hbn : bn = n * (32 + 8 * L) := hR.bl
    have hbo : W2.ownsRow V.heap.size 5 1 (.slice ba bn bc) bn (vb (flat false D)) := hR.bits
    have hrow := hR.row
    have hea : All2 (fun (h : Hd) d => W2.ownsRow V.heap.size 5 1 (hv h) h.2.1 (vb d)) hdsL D := forall2_imp (fun _ _ y => y.1) hR.each
    have hwV : w.heap.size ≤ V.heap.size := hBV.size
    have hbo := ownsRow_mono hbo hwV
    have hrow := ownsRow_mono hrow hwV
    have hea : All2 (fun (h : Hd) d => W2.ownsRow w.heap.size 5 1 (hv h) h.2.1 (vb d)) hdsL D := forall2_imp (fun _ _ y => ownsRow_mono y hwV) hea
    clear hR hPV hpb hVV hBV hsV
    -- the numbers
    obtain ⟨sz, hsz⟩ : ∃ sz, sz = 32 + 8 * L := ⟨_, rfl⟩
    have hkk := pk_lt ri (n - 1) (by omega)
    have hoo := pk_lt rp (8 * L) (by omega)
    obtain ⟨kk, hkke⟩ : ∃ kk, kk = pk ri (n - 1) := ⟨_, rfl⟩
    obtain ⟨oo, hooe⟩ : ∃ oo, oo = pk rp (8 * L) := ⟨_, rfl⟩
    rw [← hkke] at hkk
    rw [← hooe] at hoo
    obtain ⟨q, hq⟩ : ∃ q, q = kk * sz := ⟨_, rfl⟩
    have hqb : q + sz + sz ≤ bn := by
      rw [hq, hbn, ← hsz, ← Nat.add_one_mul, ← Nat.add_one_mul]
      exact Nat.mul_le_mul_right _ (by omega)
    have hbs : bn ≤ 20 * 352 := by rw [hbn]; exact Nat.mul_le_mul (by omega) (by omega)
    obtain ⟨p, hp⟩ : ∃ p, p = q + 32 + oo := ⟨_, rfl⟩
    have a1 : IntKind.i64.wrap (8 * (L : Int)) = 8 * (L : Int) := IntWalk.i64_in _ (by omega)
    have a2 : (32 : Int) + 8 * (L : Int) = (sz : Int) := by omega
    have a3 : IntKind.i64.wrap (sz : Int) = (sz : Int) := IntWalk.i64_in _ (by omega)
    have a4 : IntKind.i64.wrap ((n : Int) - 1) = (n : Int) - 1 := IntWalk.i64_in _ (by omega)
    have a5 : ((n : Int) - 1).toNat = n - 1 := by omega
    have a6 : (kk : Int) * (sz : Int) = (q : Int) := by rw [hq]; simp
    have a7 : IntKind.i64.wrap (q : Int) = (q : Int) := IntWalk.i64_in _ (by omega)
    have a8 : IntKind.i64.wrap ((q : Int) + 32) = (q : Int) + 32 := IntWalk.i64_in _ (by omega)
    have a9 : (q : Int) + 32 + (oo : Int) = (p : Int) := by omega
    have a10 : IntKind.i64.wrap (p : Int) = (p : Int) := IntWalk.i64_in _ (by omega)
    have a11 : (8 * (L : Int)).toNat = 8 * L := by omega
    have c1 : W2.cell? ⟨b, 0, none⟩ = some (.int .i64 (L : Int)) := by rw [cell_of_row _ _ _ _ _ _ hV2]; rfl
    have Hn := hid (⟨hnD, hbits, hbn, hsz, hq, hp, hqb, hbs, hkk, hoo, hk20⟩ : _ ∧ _ ∧ _ ∧ _ ∧ _ ∧ _ ∧ _ ∧ _ ∧ _ ∧ _ ∧ _)
    clear hnD hbits hbn hsz hq hp hqb hbs hkk hoo hk20
    go_wp2_with fail
    refine (pick_st ri ((n : Int) - 1) W2 hri.1 hri.2 (by have := Hn.out; omega) (by have := Hn.out; omega)).mono ?_
    rintro e w' ⟨rfl, hw'⟩
    rw [hw', a5, ← hkke]
    clear hw' w' hkke
    go_wp2_with fail
    refine (pick_st rp (8 * (L : Int)) W2 hrp.1 hrp.2 (by omega) (by omega)).mono ?_
    rintro e w' ⟨rfl, hw'⟩
    rw [hw', a11, ← hooe]
    clear hw' w' hooe
    obtain ⟨i5, hi5, hz5, hs5, hb5⟩ := info_parts Try.info5
    have hbnp : p ≤ bn := by have := Hn.out; omega
    obtain ⟨g, rfl⟩ := own_addr hbo (by have := Hn.out; omega)
    have hcap : bn ≤ bc := (Rd.ofOwn hbo).le
    have s1 : (0 : Int) ≤ (p : Int) := by omega
    have s2 : (p : Int) ≤ (bc : Int) := by omega
    go_wp2_with (at_builtin; refine hold ?_)
    unfold Hid
    have hrdB := Rd.ofOwn hbo
    have hrdp := hrdB.take p hbnp
    rw [vb_take] at hrdp
    refine wpList_append_rd rfl _ _ 24 rfl W2.heap.size 5 i5 _ 1 Try.underlying24 hi5 hz5 hs5 hb5 rfl none 0 0 [] rfl (World.ownsRow_nil _ _ _ _) (some ⟨g, 0, none⟩) p bc (vb ((flat false D).take p)) rfl hrdp (vb_oneCell _) (by have := Hn.out; omega) (by have := Hn.out; unfold maxLen; omega) (Nat.le_refl _) ?_
    intro sa sc W3 oS _ b3
    rw [List.nil_append, Nat.zero_add] at oS
    rw [Nat.zero_add]
    clear a1 a2 a3 a4 a5 a6 a7 a8 a9 a10 a11 s1 hrdp c1
    have Hp := hid (⟨hcap, hbnp⟩ : bn ≤ bc ∧ p ≤ bn)
    clear hcap hbnp s2
    cases mo with
    | true =>
      cases bi with
      | true =>
        have s1 : (0 : Int) ≤ (p : Int) := by omega
        have s2 : (p : Int) ≤ (bn : Int) := by have := Hp.out; omega
        have s3 : ¬ bc = p := by have := Hn.out; have := Hp.out; omega
        go_wp2_with (at_builtin; refine hold ?_)
        unfold Hid
        have b4 := below_alloc W3 (.cells #[.int .u8 1] 5)
        have b34 := b3.trans (b4.mono b3.size)
        refine wpList_append_rd rfl _ _ 24 rfl W2.heap.size 5 i5 _ 1 Try.underlying24 hi5 hz5 hs5 hb5 rfl sa p sc (vb ((flat false D).take p)) rfl (ownsRow_below oS b4) (some ⟨W3.heap.size, 0, none⟩) 1 1 (vb [1]) rfl (Rd.ofOwn (own_of_heap (B := 0) (n := 1) (xs := vb [1]) (heap_alloc_new _ _) rfl (Nat.zero_le _) (by unfold maxLen; omega))) (vb_oneCell _) (by have := Hn.out; have := Hp.out; omega) (by have := Hn.out; have := Hp.out; unfold maxLen; omega) b34.size ?_
        intro sa sc W4 oS _ b4'
        have B4 := b34.trans b4'
        rw [← vb_append] at oS
        go_wp2_with (at_builtin; refine hold ?_)
        unfold Hid
        have hsub := (hrdB.below B4).sub p (bn - p) (by have := Hp.out; omega)
        have hse : ((flat false D).drop p).take (bn - p) = (flat false D).drop p := List.take_of_length_le (by rw [List.length_drop]; have := hbo.1; rw [vb_len] at this; omega)
        rw [hse] at hsub
        try rw [Nat.zero_add] at hsub
        refine wpList_append_rd rfl _ _ 24 rfl W2.heap.size 5 i5 _ 1 Try.underlying24 hi5 hz5 hs5 hb5 rfl sa (p + 1) sc _ rfl oS (some ⟨g, p, none⟩) (bn - p) (bc - p) (vb ((flat false D).drop p)) rfl hsub (vb_oneCell _) (by have := Hn.out; have := Hp.out; omega) (by have := Hn.out; have := Hp.out; unfold maxLen; omega) B4.size ?_
        intro sa sc wr oS _ b5
        have BS := B4.trans b5
        rw [← vb_append] at oS
        obtain ⟨sn, hsn⟩ : ∃ sn, sn = p + 1 + (bn - p) := ⟨_, rfl⟩
        rw [← hsn] at oS ⊢
        have hsnb : sn ≤ 10000 := by have := Hn.out; have := Hp.out; omega
        obtain ⟨S, hSe⟩ : ∃ S, S = (flat false D).take p ++ [1] ++ (flat false D).drop p := ⟨_, rfl⟩
        rw [← hSe] at oS
        have hlaw := slip_all L F_ H_ M_ hLL.1 (by omega) (by omega) D hD kk oo p (by have := Hn.out; omega) (by have := Hn.out; omega) (by have := Hn.out; rw [← this.2.2.2.1, ← this.2.2.2.2.1]; omega) S 1 (.inl ⟨1, by decide, by rw [hSe, List.append_assoc], rfl⟩)
        clear hsn hSe hsub hse b4 b34 b4' b5 B4 s1 s2 s3 b3 hrdB
        have hVr := row_below hV2 BS
        have hBr := hB2.trans (BS.mono hB2.size)
        have hAr := ownsRow_below hrow BS
        have hEr : All2 (fun (h : Hd) d => wr.ownsRow w.heap.size 5 1 (hv h) h.2.1 (vb d)) hdsL D := forall2_imp (fun _ _ y => ownsRow_below y BS) hea
        obtain ⟨hS1, m', fo, hr2, hfl, hget⟩ := hlaw
        have n0 : wr.cell? ⟨b, 0, none⟩ = some (.int .i64 (L : Int)) := by rw [cell_of_row _ _ _ _ _ _ hVr]; rfl
        have n1 : wr.cell? ⟨b, 1, none⟩ = some (.int .i64 (F_ : Int)) := by rw [cell_of_row _ _ _ _ _ _ hVr]; rfl
        have n2 : wr.cell? ⟨b, 2, none⟩ = some (.int .i64 (H_ : Int)) := by rw [cell_of_row _ _ _ _ _ _ hVr]; rfl
        have n3 : wr.cell? ⟨b, 3, none⟩ = some (.int .i64 (M_ : Int)) := by rw [cell_of_row _ _ _ _ _ _ hVr]; rfl
        have bA := below_alloc wr (.cells #[.slice sa sn sc] 24)
        have pA : PcsAt (wr.alloc (.cells #[.slice sa sn sc] 24)) (some ⟨wr.heap.size, 0, none⟩) 1 1 [(sa, sn, sc)] [S] :=
          ⟨Rd.ofOwn (own_of_heap (B := 0) (xs := [.slice sa sn sc]) (heap_alloc_new _ _) rfl (Nat.zero_le _) (by unfold maxLen; omega)), .cons ⟨(Rd.ofOwn oS).below bA, hS1.b⟩ .nil⟩
        have hfS : S.length = sn := by have := oS.1; rw [vb_len] at this; omega
        have hBA := hBr.trans (bA.mono hBr.size)
        have hVA := row_below hVr bA
        have hAA := ownsRow_below hAr bA
        have hEA : All2 (fun (h : Hd) d => (wr.alloc (.cells #[.slice sa sn sc] 24)).ownsRow w.heap.size 5 1 (hv h) h.2.1 (vb d)) hdsL D := forall2_imp (fun _ _ y => ownsRow_below y bA) hEr
        clear hVr hEr hAr hV2 hB2 bA oS hrow hea hbo
        go_wp2_with fail
        refine (listen_ok L F_ H_ M_ (by omega) (by omega) (by omega) (by omega) (some ⟨wr.heap.size, 0, none⟩) 1 1 [(sa, sn, sc)] [S] _ pA (by decide) (by simp only [List.flatten_cons, List.flatten_nil, List.append_nil]; omega)).mono ?_
        rintro e X ⟨ga, qa, la, gc, qc, lc, ha, FA, los, C, m, rfl, hP⟩
        have hPb := hP.blw
        obtain ⟨a1, x1, c1, F1, gx, gl, rfl, rfl, cg, cl, o1, hx1, i1, hrun, hg, hgl⟩ := hP.one
        rw [par_id hS1] at hrun
        obtain ⟨hF, rfl⟩ := Run.det hrun hr2
        subst hF
        have hF1 : F1.length = D.length := by simpa using hfl
        have hAX := ownsRow_below hAA hPb
        have hEX : All2 (fun (h : Hd) d => X.ownsRow w.heap.size 5 1 (hv h) h.2.1 (vb d)) hdsL D := forall2_imp (fun _ _ y => ownsRow_below y hPb) hEA
        have hBX := hBA.trans (hPb.mono hBA.size)
        have hw2 : D.length = hdsL.length := hEX.len.symm
        clear n0 n1 n2 n3 hVA hAA hEA hrun hr2 hP hPb pA hBr hBA
        subst hx1
        have e2 : (F1.length : Int) = (n : Int) := by have := Hn.out; omega
        have HF1 := hid hF1
        have Hw2 := hid hw2
        have HG := hid hget
        clear hF1 hw2 hget hfl cl
        go_wp2_with fail
        go_loopw [26] (fun i wz => ∃ j : Nat, i = .int .i64 (j : Int) ∧ j ≤ n ∧ Below X.heap.size X wz) (fun i _ => n - (intOf i).toNat)
        case atStart => exact ⟨0, rfl, Nat.zero_le _, Below.refl _ _⟩
        case round =>
          obtain ⟨j, rfl, hj, hZ⟩ := hrel
          by_cases hjk : j < n
          · have t2 : (j : Int) < (n : Int) := by omega
            have hjD : j < D.length := by have := Hn.out; omega
            have hjF : j < F1.length := by have := HF1.out; omega
            obtain ⟨f, hf, hpos, htu, hmi, hds⟩ := HG.out j hjD
            rw [List.getElem?_map, List.getElem?_eq_getElem hjF] at hf
            have hf : (F1[j]).fo = f := by simpa using hf
            subst hf
            have hpos : ((F1[j]).pos : Int) = _ := hpos
            have htu : (F1[j]).tu = false := htu
            have hmi : (F1[j]).mi = 0 := hmi
            have hds : j ≠ kk → (F1[j]).ds = D[j] := hds
            obtain ⟨g1, rfl⟩ := own_addr o1 (by omega)
            obtain ⟨q0, q1, q2, q3⟩ := Fd.cellsAt (ownsRow_below o1 hZ) rfl j hjF
            have hinj := i1 _ (List.getElem_mem hjF)
            rw [htu] at q1
            rw [hmi] at q2
            unfold Fd.In at hinj
            generalize (F1[j]).da = da at *
            generalize (F1[j]).dn = dn at *
            generalize (F1[j]).dc = dc at *
            have hjh : j < hdsL.length := by have := Hw2.out; omega
            have hdj := hEX.get j hjh hjD
            obtain ⟨ag, rfl⟩ := own_addr hAX (by omega)
            have hcj : X.cell? ⟨ag, j, none⟩ = some (hv (hdsL[j])) := by
              rw [hAX.cellAt j (by omega), List.getElem?_map, List.getElem?_eq_getElem hjh]; rfl
            obtain ⟨⟨xa, xn, xc⟩, hsd⟩ : ∃ h, h = hdsL[j] := ⟨_, rfl⟩
            rw [← hsd] at hcj hdj
            have hcj : wr.cell? ⟨ag, j, none⟩ = some (.slice xa xn xc) := (hZ.cell (p := ⟨ag, j, none⟩) (own_lt hAX rfl)).trans hcj
            have hdj : X.ownsRow w.heap.size 5 1 (.slice xa xn xc) xn (vb D[j]) := hdj
            have cgz : wr.cell? ⟨gx, 0, none⟩ = some (.slice (some ⟨g1, 0, none⟩) F1.length c1) := (hZ.cell (p := ⟨gx, 0, none⟩) hg).trans cg
            have t3 : (j : Int) < (F1.length : Int) := by omega
            have t20 : j < 20 := by have := Hn.out; omega
            obtain ⟨q, hq⟩ : ∃ q, q = j * (32 + 8 * L) := ⟨_, rfl⟩
            have hqs : q ≤ 20 * 352 := by rw [hq]; exact Nat.mul_le_mul (by have := Hn.out; omega) (by omega)
            have m3 : (j : Int) * (sz : Int) = (q : Int) := by rw [hq, ← Hn.out.2.2.2.1]; simp
            have m4 : IntKind.i64.wrap (q : Int) = (q : Int) := IntWalk.i64_in _ (by omega)
            have m5 : IntKind.i64.wrap ((q : Int) + 1) = (q : Int) + 1 := IntWalk.i64_in _ (by omega)
            rw [← hq] at hpos
            have Hq := hid hq
            clear hq hsd htu hmi
            by_cases hkj : kk < j
            · have t4 : (kk : Int) < (j : Int) := by omega
              have t5 : ((j : Int) != (kk : Int)) = true := bne_iff_ne.2 (by omega)
              rw [if_pos hkj] at hpos
              have q0 : wr.cell? ⟨g1, j * 4, none⟩ = some (.int .i64 ((q : Int) + 1)) := by rw [q0, show ((F1[j]).pos : Int) = _ from hpos]
              go_upto_region 28 with fail
              have bU := (below_alloc wr (.cells #[.int .i64 ((q : Int) + 1), .bool false, .int .i64 0, .slice da dn dc] 35)).drew
              have hU : (wr.alloc (.cells #[.int .i64 ((q : Int) + 1), .bool false, .int .i64 0, .slice da dn dc] 35)).drew.heap[wr.heap.size]? = some (.cells #[.int .i64 ((q : Int) + 1), .bool false, .int .i64 0, .slice da dn dc] 35) := heap_alloc_new wr (.cells #[.int .i64 ((q : Int) + 1), .bool false, .int .i64 0, .slice da dn dc] 35)
              refine wp_region_can_all [] [0, 1, 2, 3, 4, 5, 6, 7, 8, 9, 10, 11, 12, 13, 14, 15, 16, 17, 18, 19, 20, 21, 22, 23, 24, 25, 26, 27, 28] Ext Ext.refl Ext.trans (by kernel_rfl) (by kernel_rfl) ?_
              simp only [List.map_cons, List.map_nil, List.contains_cons, List.contains_nil, List.getD_cons_zero, List.getD_cons_succ, Nat.reduceBEq, Bool.or_false, Bool.or_true]
              obtain ⟨U, hUe⟩ : ∃ U, U = (wr.alloc (.cells #[.int .i64 ((q : Int) + 1), .bool false, .int .i64 0, .slice da dn dc] 35)).drew := ⟨_, rfl⟩
              rw [← hUe] at bU hU ⊢
              clear hUe
              obtain ⟨xb, hxb⟩ : ∃ xb, xb = wr.heap.size := ⟨_, rfl⟩
              have bU' : Below wr.heap.size wr U := bU
              rw [← hxb] at hU ⊢
              clear hxb
              have d0 : ∀ w', Ext U w' → w'.cell? ⟨xb, 0, none⟩ = some (.int .i64 ((q : Int) + 1)) := fun w' hw => by rw [cell_of_row _ _ _ _ _ _ (row_below hU hw)]; rfl
              have d1 : ∀ w', Ext U w' → w'.cell? ⟨xb, 1, none⟩ = some (.bool false) := fun w' hw => by rw [cell_of_row _ _ _ _ _ _ (row_below hU hw)]; rfl
              have d2 : ∀ w', Ext U w' → w'.cell? ⟨xb, 2, none⟩ = some (.int .i64 0) := fun w' hw => by rw [cell_of_row _ _ _ _ _ _ (row_below hU hw)]; rfl
              have hZU : Below X.heap.size X U := hZ.trans (bU'.mono hZ.size)
              have d3 : ∀ w', Ext U w' → w'.cell? ⟨xb, 3, none⟩ = some (.slice da dn dc) := fun w' hw => by rw [cell_of_row _ _ _ _ _ _ (row_below hU hw)]; rfl
              have hcU : U.cell? ⟨ag, j, none⟩ = some (.slice xa xn xc) := (bU'.cell (p := ⟨ag, j, none⟩) (Nat.lt_of_lt_of_le (own_lt hAX rfl) hZ.size)).trans hcj
              have d5 : ∀ w', Ext U w' → w'.cell? ⟨ag, j, none⟩ = some (.slice xa xn xc) := fun w' hw => (hw.cell (p := ⟨ag, j, none⟩) (Nat.lt_of_lt_of_le (own_lt hAX rfl) hZU.size)).trans hcU
              rw [hds (by omega)] at hinj
              have k1 := run_str_ext (P := Try.prog) 24 5 9 Try.underlying24 Try.underlying5 Try.underlying9 (Rd.ofOwn (ownsRow_below hinj.1 hZU))
              have k2 := run_str_ext (P := Try.prog) 24 5 9 Try.underlying24 Try.underlying5 Try.underlying9 (Rd.ofOwn (ownsRow_below hdj hZU))
              generalize strB D[j] = sv at *
              clear q0 q1 q2 q3 hcj hcU cgz hdj hinj hU hds
              iterate 29 (refine wpL_do rfl (fun w' hw' => (by go_simp; rfl)) ?_; simp only [Act.put, List.setIfInBounds_toArray, List.set_cons_succ, List.set_cons_zero])
              clear d3 d5 k1 k2
              refine wpL_nil ?_
              clear d0 d1 d2
              go_wp2_with fail
              go_roundw
              case rel => exact ⟨j + 1, by go_num, by omega, hZU⟩
              case measure => simp [intOf]; omega
            · have t4 : ¬ (kk : Int) < (j : Int) := by omega
              rw [if_neg hkj, Int.add_zero] at hpos
              by_cases hje : j = kk
              · have t5 : ((j : Int) != (kk : Int)) = false := by rw [hje]; exact bne_self_eq_false _
                clear hje
                have q0 : wr.cell? ⟨g1, j * 4, none⟩ = some (.int .i64 ((q : Int))) := by rw [q0, show ((F1[j]).pos : Int) = _ from hpos]
                go_upto_region 28 with fail
                have bU := (below_alloc wr (.cells #[.int .i64 ((q : Int)), .bool false, .int .i64 0, .slice da dn dc] 35)).drew
                have hU : (wr.alloc (.cells #[.int .i64 ((q : Int)), .bool false, .int .i64 0, .slice da dn dc] 35)).drew.heap[wr.heap.size]? = some (.cells #[.int .i64 ((q : Int)), .bool false, .int .i64 0, .slice da dn dc] 35) := heap_alloc_new wr (.cells #[.int .i64 ((q : Int)), .bool false, .int .i64 0, .slice da dn dc] 35)
                refine wp_region_can_all [] [0, 1, 2, 3, 4, 5, 6, 7, 8, 9, 10, 11, 12, 13, 14, 15, 16, 17, 18, 19, 20, 21, 22, 23, 24, 25, 26, 27, 28] Ext Ext.refl Ext.trans (by kernel_rfl) (by kernel_rfl) ?_
                simp only [List.map_cons, List.map_nil, List.contains_cons, List.contains_nil, List.getD_cons_zero, List.getD_cons_succ, Nat.reduceBEq, Bool.or_false, Bool.or_true]
                obtain ⟨U, hUe⟩ : ∃ U, U = (wr.alloc (.cells #[.int .i64 ((q : Int)), .bool false, .int .i64 0, .slice da dn dc] 35)).drew := ⟨_, rfl⟩
                rw [← hUe] at bU hU ⊢
                clear hUe
                obtain ⟨xb, hxb⟩ : ∃ xb, xb = wr.heap.size := ⟨_, rfl⟩
                have bU' : Below wr.heap.size wr U := bU
                rw [← hxb] at hU ⊢
                clear hxb
                have d0 : ∀ w', Ext U w' → w'.cell? ⟨xb, 0, none⟩ = some (.int .i64 ((q : Int))) := fun w' hw => by rw [cell_of_row _ _ _ _ _ _ (row_below hU hw)]; rfl
                have d1 : ∀ w', Ext U w' → w'.cell? ⟨xb, 1, none⟩ = some (.bool false) := fun w' hw => by rw [cell_of_row _ _ _ _ _ _ (row_below hU hw)]; rfl
                have d2 : ∀ w', Ext U w' → w'.cell? ⟨xb, 2, none⟩ = some (.int .i64 0) := fun w' hw => by rw [cell_of_row _ _ _ _ _ _ (row_below hU hw)]; rfl
                have hZU : Below X.heap.size X U := hZ.trans (bU'.mono hZ.size)
                clear q0 q1 q2 q3 hcj cgz hdj hinj hU hds
                iterate 18 (refine wpL_do rfl (fun w' hw' => (by go_simp; rfl)) ?_; simp only [Act.put, List.setIfInBounds_toArray, List.set_cons_succ, List.set_cons_zero])
                iterate 9 ((with_reducible refine wpL_pass ?_ ?_); (· rfl); simp only [Act.put, List.setIfInBounds_toArray, List.set_cons_succ, List.set_cons_zero])
                iterate 2 (refine wpL_do rfl (fun w' hw' => (by go_simp; rfl)) ?_; simp only [Act.put, List.setIfInBounds_toArray, List.set_cons_succ, List.set_cons_zero])
                refine wpL_nil ?_
                clear d0 d1 d2
                go_wp2_with fail
                go_roundw
                case rel => exact ⟨j + 1, by go_num, by omega, hZU⟩
                case measure => simp [intOf]; omega
              · have t5 : ((j : Int) != (kk : Int)) = true := bne_iff_ne.2 (by omega)
                have q0 : wr.cell? ⟨g1, j * 4, none⟩ = some (.int .i64 ((q : Int))) := by rw [q0, show ((F1[j]).pos : Int) = _ from hpos]
                go_upto_region 28 with fail
                have bU := (below_alloc wr (.cells #[.int .i64 ((q : Int)), .bool false, .int .i64 0, .slice da dn dc] 35)).drew
                have hU : (wr.alloc (.cells #[.int .i64 ((q : Int)), .bool false, .int .i64 0, .slice da dn dc] 35)).drew.heap[wr.heap.size]? = some (.cells #[.int .i64 ((q : Int)), .bool false, .int .i64 0, .slice da dn dc] 35) := heap_alloc_new wr (.cells #[.int .i64 ((q : Int)), .bool false, .int .i64 0, .slice da dn dc] 35)
                refine wp_region_can_all [] [0, 1, 2, 3, 4, 5, 6, 7, 8, 9, 10, 11, 12, 13, 14, 15, 16, 17, 18, 19, 20, 21, 22, 23, 24, 25, 26, 27, 28] Ext Ext.refl Ext.trans (by kernel_rfl) (by kernel_rfl) ?_
                simp only [List.map_cons, List.map_nil, List.contains_cons, List.contains_nil, List.getD_cons_zero, List.getD_cons_succ, Nat.reduceBEq, Bool.or_false, Bool.or_true]
                obtain ⟨U, hUe⟩ : ∃ U, U = (wr.alloc (.cells #[.int .i64 ((q : Int)), .bool false, .int .i64 0, .slice da dn dc] 35)).drew := ⟨_, rfl⟩
                rw [← hUe] at bU hU ⊢
                clear hUe
                obtain ⟨xb, hxb⟩ : ∃ xb, xb = wr.heap.size := ⟨_, rfl⟩
                have bU' : Below wr.heap.size wr U := bU
                rw [← hxb] at hU ⊢
                clear hxb
                have d0 : ∀ w', Ext U w' → w'.cell? ⟨xb, 0, none⟩ = some (.int .i64 ((q : Int))) := fun w' hw => by rw [cell_of_row _ _ _ _ _ _ (row_below hU hw)]; rfl
                have d1 : ∀ w', Ext U w' → w'.cell? ⟨xb, 1, none⟩ = some (.bool false) := fun w' hw => by rw [cell_of_row _ _ _ _ _ _ (row_below hU hw)]; rfl
                have d2 : ∀ w', Ext U w' → w'.cell? ⟨xb, 2, none⟩ = some (.int .i64 0) := fun w' hw => by rw [cell_of_row _ _ _ _ _ _ (row_below hU hw)]; rfl
                have hZU : Below X.heap.size X U := hZ.trans (bU'.mono hZ.size)
                have d3 : ∀ w', Ext U w' → w'.cell? ⟨xb, 3, none⟩ = some (.slice da dn dc) := fun w' hw => by rw [cell_of_row _ _ _ _ _ _ (row_below hU hw)]; rfl
                have hcU : U.cell? ⟨ag, j, none⟩ = some (.slice xa xn xc) := (bU'.cell (p := ⟨ag, j, none⟩) (Nat.lt_of_lt_of_le (own_lt hAX rfl) hZ.size)).trans hcj
                have d5 : ∀ w', Ext U w' → w'.cell? ⟨ag, j, none⟩ = some (.slice xa xn xc) := fun w' hw => (hw.cell (p := ⟨ag, j, none⟩) (Nat.lt_of_lt_of_le (own_lt hAX rfl) hZU.size)).trans hcU
                rw [hds (by omega)] at hinj
                have k1 := run_str_ext (P := Try.prog) 24 5 9 Try.underlying24 Try.underlying5 Try.underlying9 (Rd.ofOwn (ownsRow_below hinj.1 hZU))
                have k2 := run_str_ext (P := Try.prog) 24 5 9 Try.underlying24 Try.underlying5 Try.underlying9 (Rd.ofOwn (ownsRow_below hdj hZU))
                generalize strB D[j] = sv at *
                clear q0 q1 q2 q3 hcj hcU cgz hdj hinj hU hds
                iterate 29 (refine wpL_do rfl (fun w' hw' => (by go_simp; rfl)) ?_; simp only [Act.put, List.setIfInBounds_toArray, List.set_cons_succ, List.set_cons_zero])
                clear d3 d5 k1 k2
                refine wpL_nil ?_
                clear d0 d1 d2
                go_wp2_with fail
                go_roundw
                case rel => exact ⟨j + 1, by go_num, by omega, hZU⟩
                case measure => simp [intOf]; omega
          · obtain rfl : n = j := by omega
            go_wp2_with fail
            go_ret
            exact ⟨rfl, hBX.trans (hZ.mono hBX.size)⟩
      | false =>
        have s1 : (0 : Int) ≤ (p : Int) := by omega
        have s2 : (p : Int) ≤ (bn : Int) := by have := Hp.out; omega
        have s3 : ¬ bc = p := by have := Hn.out; have := Hp.out; omega
        go_wp2_with (at_builtin; refine hold ?_)
        unfold Hid
        have b4 := below_alloc W3 (.cells #[.int .u8 0] 5)
        have b34 := b3.trans (b4.mono b3.size)
        refine wpList_append_rd rfl _ _ 24 rfl W2.heap.size 5 i5 _ 1 Try.underlying24 hi5 hz5 hs5 hb5 rfl sa p sc (vb ((flat false D).take p)) rfl (ownsRow_below oS b4) (some ⟨W3.heap.size, 0, none⟩) 1 1 (vb [0]) rfl (Rd.ofOwn (own_of_heap (B := 0) (n := 1) (xs := vb [0]) (heap_alloc_new _ _) rfl (Nat.zero_le _) (by unfold maxLen; omega))) (vb_oneCell _) (by have := Hn.out; have := Hp.out; omega) (by have := Hn.out; have := Hp.out; unfold maxLen; omega) b34.size ?_
        intro sa sc W4 oS _ b4'
        have B4 := b34.trans b4'
        rw [← vb_append] at oS
        go_wp2_with (at_builtin; refine hold ?_)
        unfold Hid
        have hsub := (hrdB.below B4).sub p (bn - p) (by have := Hp.out; omega)
        have hse : ((flat false D).drop p).take (bn - p) = (flat false D).drop p := List.take_of_length_le (by rw [List.length_drop]; have := hbo.1; rw [vb_len] at this; omega)
        rw [hse] at hsub
        try rw [Nat.zero_add] at hsub
        refine wpList_append_rd rfl _ _ 24 rfl W2.heap.size 5 i5 _ 1 Try.underlying24 hi5 hz5 hs5 hb5 rfl sa (p + 1) sc _ rfl oS (some ⟨g, p, none⟩) (bn - p) (bc - p) (vb ((flat false D).drop p)) rfl hsub (vb_oneCell _) (by have := Hn.out; have := Hp.out; omega) (by have := Hn.out; have := Hp.out; unfold maxLen; omega) B4.size ?_
        intro sa sc wr oS _ b5
        have BS := B4.trans b5
        rw [← vb_append] at oS
        obtain ⟨sn, hsn⟩ : ∃ sn, sn = p + 1 + (bn - p) := ⟨_, rfl⟩
        rw [← hsn] at oS ⊢
        have hsnb : sn ≤ 10000 := by have := Hn.out; have := Hp.out; omega
        obtain ⟨S, hSe⟩ : ∃ S, S = (flat false D).take p ++ [0] ++ (flat false D).drop p := ⟨_, rfl⟩
        rw [← hSe] at oS
        have hlaw := slip_all L F_ H_ M_ hLL.1 (by omega) (by omega) D hD kk oo p (by have := Hn.out; omega) (by have := Hn.out; omega) (by have := Hn.out; rw [← this.2.2.2.1, ← this.2.2.2.2.1]; omega) S 1 (.inl ⟨0, by decide, by rw [hSe, List.append_assoc], rfl⟩)
        clear hsn hSe hsub hse b4 b34 b4' b5 B4 s1 s2 s3 b3 hrdB
        have hVr := row_below hV2 BS
        have hBr := hB2.trans (BS.mono hB2.size)
        have hAr := ownsRow_below hrow BS
        have hEr : All2 (fun (h : Hd) d => wr.ownsRow w.heap.size 5 1 (hv h) h.2.1 (vb d)) hdsL D := forall2_imp (fun _ _ y => ownsRow_below y BS) hea
        obtain ⟨hS1, m', fo, hr2, hfl, hget⟩ := hlaw
        have n0 : wr.cell? ⟨b, 0, none⟩ = some (.int .i64 (L : Int)) := by rw [cell_of_row _ _ _ _ _ _ hVr]; rfl
        have n1 : wr.cell? ⟨b, 1, none⟩ = some (.int .i64 (F_ : Int)) := by rw [cell_of_row _ _ _ _ _ _ hVr]; rfl
        have n2 : wr.cell? ⟨b, 2, none⟩ = some (.int .i64 (H_ : Int)) := by rw [cell_of_row _ _ _ _ _ _ hVr]; rfl
        have n3 : wr.cell? ⟨b, 3, none⟩ = some (.int .i64 (M_ : Int)) := by rw [cell_of_row _ _ _ _ _ _ hVr]; rfl
        have bA := below_alloc wr (.cells #[.slice sa sn sc] 24)
        have pA : PcsAt (wr.alloc (.cells #[.slice sa sn sc] 24)) (some ⟨wr.heap.size, 0, none⟩) 1 1 [(sa, sn, sc)] [S] :=
          ⟨Rd.ofOwn (own_of_heap (B := 0) (xs := [.slice sa sn sc]) (heap_alloc_new _ _) rfl (Nat.zero_le _) (by unfold maxLen; omega)), .cons ⟨(Rd.ofOwn oS).below bA, hS1.b⟩ .nil⟩
        have hfS : S.length = sn := by have := oS.1; rw [vb_len] at this; omega
        have hBA := hBr.trans (bA.mono hBr.size)
        have hVA := row_below hVr bA
        have hAA := ownsRow_below hAr bA
        have hEA : All2 (fun (h : Hd) d => (wr.alloc (.cells #[.slice sa sn sc] 24)).ownsRow w.heap.size 5 1 (hv h) h.2.1 (vb d)) hdsL D := forall2_imp (fun _ _ y => ownsRow_below y bA) hEr
        clear hVr hEr hAr hV2 hB2 bA oS hrow hea hbo
        go_wp2_with fail
        refine (listen_ok L F_ H_ M_ (by omega) (by omega) (by omega) (by omega) (some ⟨wr.heap.size, 0, none⟩) 1 1 [(sa, sn, sc)] [S] _ pA (by decide) (by simp only [List.flatten_cons, List.flatten_nil, List.append_nil]; omega)).mono ?_
        rintro e X ⟨ga, qa, la, gc, qc, lc, ha, FA, los, C, m, rfl, hP⟩
        have hPb := hP.blw
        obtain ⟨a1, x1, c1, F1, gx, gl, rfl, rfl, cg, cl, o1, hx1, i1, hrun, hg, hgl⟩ := hP.one
        rw [par_id hS1] at hrun
        obtain ⟨hF, rfl⟩ := Run.det hrun hr2
        subst hF
        have hF1 : F1.length = D.length := by simpa using hfl
        have hAX := ownsRow_below hAA hPb
        have hEX : All2 (fun (h : Hd) d => X.ownsRow w.heap.size 5 1 (hv h) h.2.1 (vb d)) hdsL D := forall2_imp (fun _ _ y => ownsRow_below y hPb) hEA
        have hBX := hBA.trans (hPb.mono hBA.size)
        have hw2 : D.length = hdsL.length := hEX.len.symm
        clear n0 n1 n2 n3 hVA hAA hEA hrun hr2 hP hPb pA hBr hBA
        subst hx1
        have e2 : (F1.length : Int) = (n : Int) := by have := Hn.out; omega
        have HF1 := hid hF1
        have Hw2 := hid hw2
        have HG := hid hget
        clear hF1 hw2 hget hfl cl
        go_wp2_with fail
        go_loopw [26] (fun i wz => ∃ j : Nat, i = .int .i64 (j : Int) ∧ j ≤ n ∧ Below X.heap.size X wz) (fun i _ => n - (intOf i).toNat)
        case atStart => exact ⟨0, rfl, Nat.zero_le _, Below.refl _ _⟩
        case round =>
          obtain ⟨j, rfl, hj, hZ⟩ := hrel
          by_cases hjk : j < n
          · have t2 : (j : Int) < (n : Int) := by omega
            have hjD : j < D.length := by have := Hn.out; omega
            have hjF : j < F1.length := by have := HF1.out; omega
            obtain ⟨f, hf, hpos, htu, hmi, hds⟩ := HG.out j hjD
            rw [List.getElem?_map, List.getElem?_eq_getElem hjF] at hf
            have hf : (F1[j]).fo = f := by simpa using hf
            subst hf
            have hpos : ((F1[j]).pos : Int) = _ := hpos
            have htu : (F1[j]).tu = false := htu
            have hmi : (F1[j]).mi = 0 := hmi
            have hds : j ≠ kk → (F1[j]).ds = D[j] := hds
            obtain ⟨g1, rfl⟩ := own_addr o1 (by omega)
            obtain ⟨q0, q1, q2, q3⟩ := Fd.cellsAt (ownsRow_below o1 hZ) rfl j hjF
            have hinj := i1 _ (List.getElem_mem hjF)
            rw [htu] at q1
            rw [hmi] at q2
            unfold Fd.In at hinj
            generalize (F1[j]).da = da at *
            generalize (F1[j]).dn = dn at *
            generalize (F1[j]).dc = dc at *
            have hjh : j < hdsL.length := by have := Hw2.out; omega
            have hdj := hEX.get j hjh hjD
            obtain ⟨ag, rfl⟩ := own_addr hAX (by omega)
            have hcj : X.cell? ⟨ag, j, none⟩ = some (hv (hdsL[j])) := by
              rw [hAX.cellAt j (by omega), List.getElem?_map, List.getElem?_eq_getElem hjh]; rfl
            obtain ⟨⟨xa, xn, xc⟩, hsd⟩ : ∃ h, h = hdsL[j] := ⟨_, rfl⟩
            rw [← hsd] at hcj hdj
            have hcj : wr.cell? ⟨ag, j, none⟩ = some (.slice xa xn xc) := (hZ.cell (p := ⟨ag, j, none⟩) (own_lt hAX rfl)).trans hcj
            have hdj : X.ownsRow w.heap.size 5 1 (.slice xa xn xc) xn (vb D[j]) := hdj
            have cgz : wr.cell? ⟨gx, 0, none⟩ = some (.slice (some ⟨g1, 0, none⟩) F1.length c1) := (hZ.cell (p := ⟨gx, 0, none⟩) hg).trans cg
            have t3 : (j : Int) < (F1.length : Int) := by omega
            have t20 : j < 20 := by have := Hn.out; omega
            obtain ⟨q, hq⟩ : ∃ q, q = j * (32 + 8 * L) := ⟨_, rfl⟩
            have hqs : q ≤ 20 * 352 := by rw [hq]; exact Nat.mul_le_mul (by have := Hn.out; omega) (by omega)
            have m3 : (j : Int) * (sz : Int) = (q : Int) := by rw [hq, ← Hn.out.2.2.2.1]; simp
            have m4 : IntKind.i64.wrap (q : Int) = (q : Int) := IntWalk.i64_in _ (by omega)
            have m5 : IntKind.i64.wrap ((q : Int) + 1) = (q : Int) + 1 := IntWalk.i64_in _ (by omega)
            rw [← hq] at hpos
            have Hq := hid hq
            clear hq hsd htu hmi
            by_cases hkj : kk < j
            · have t4 : (kk : Int) < (j : Int) := by omega
              have t5 : ((j : Int) != (kk : Int)) = true := bne_iff_ne.2 (by omega)
              rw [if_pos hkj] at hpos
              have q0 : wr.cell? ⟨g1, j * 4, none⟩ = some (.int .i64 ((q : Int) + 1)) := by rw [q0, show ((F1[j]).pos : Int) = _ from hpos]
              go_upto_region 28 with fail
              have bU := (below_alloc wr (.cells #[.int .i64 ((q : Int) + 1), .bool false, .int .i64 0, .slice da dn dc] 35)).drew
              have hU : (wr.alloc (.cells #[.int .i64 ((q : Int) + 1), .bool false, .int .i64 0, .slice da dn dc] 35)).drew.heap[wr.heap.size]? = some (.cells #[.int .i64 ((q : Int) + 1), .bool false, .int .i64 0, .slice da dn dc] 35) := heap_alloc_new wr (.cells #[.int .i64 ((q : Int) + 1), .bool false, .int .i64 0, .slice da dn dc] 35)
              refine wp_region_can_all [] [0, 1, 2, 3, 4, 5, 6, 7, 8, 9, 10, 11, 12, 13, 14, 15, 16, 17, 18, 19, 20, 21, 22, 23, 24, 25, 26, 27, 28] Ext Ext.refl Ext.trans (by kernel_rfl) (by kernel_rfl) ?_
              simp only [List.map_cons, List.map_nil, List.contains_cons, List.contains_nil, List.getD_cons_zero, List.getD_cons_succ, Nat.reduceBEq, Bool.or_false, Bool.or_true]
              obtain ⟨U, hUe⟩ : ∃ U, U = (wr.alloc (.cells #[.int .i64 ((q : Int) + 1), .bool false, .int .i64 0, .slice da dn dc] 35)).drew := ⟨_, rfl⟩
              rw [← hUe] at bU hU ⊢
              clear hUe
              obtain ⟨xb, hxb⟩ : ∃ xb, xb = wr.heap.size := ⟨_, rfl⟩
              have bU' : Below wr.heap.size wr U := bU
              rw [← hxb] at hU ⊢
              clear hxb
              have d0 : ∀ w', Ext U w' → w'.cell? ⟨xb, 0, none⟩ = some (.int .i64 ((q : Int) + 1)) := fun w' hw => by rw [cell_of_row _ _ _ _ _ _ (row_below hU hw)]; rfl
              have d1 : ∀ w', Ext U w' → w'.cell? ⟨xb, 1, none⟩ = some (.bool false) := fun w' hw => by rw [cell_of_row _ _ _ _ _ _ (row_below hU hw)]; rfl
              have d2 : ∀ w', Ext U w' → w'.cell? ⟨xb, 2, none⟩ = some (.int .i64 0) := fun w' hw => by rw [cell_of_row _ _ _ _ _ _ (row_below hU hw)]; rfl
              have hZU : Below X.heap.size X U := hZ.trans (bU'.mono hZ.size)
              have d3 : ∀ w', Ext U w' → w'.cell? ⟨xb, 3, none⟩ = some (.slice da dn dc) := fun w' hw => by rw [cell_of_row _ _ _ _ _ _ (row_below hU hw)]; rfl
              have hcU : U.cell? ⟨ag, j, none⟩ = some (.slice xa xn xc) := (bU'.cell (p := ⟨ag, j, none⟩) (Nat.lt_of_lt_of_le (own_lt hAX rfl) hZ.size)).trans hcj
              have d5 : ∀ w', Ext U w' → w'.cell? ⟨ag, j, none⟩ = some (.slice xa xn xc) := fun w' hw => (hw.cell (p := ⟨ag, j, none⟩) (Nat.lt_of_lt_of_le (own_lt hAX rfl) hZU.size)).trans hcU
              rw [hds (by omega)] at hinj
              have k1 := run_str_ext (P := Try.prog) 24 5 9 Try.underlying24 Try.underlying5 Try.underlying9 (Rd.ofOwn (ownsRow_below hinj.1 hZU))
              have k2 := run_str_ext (P := Try.prog) 24 5 9 Try.underlying24 Try.underlying5 Try.underlying9 (Rd.ofOwn (ownsRow_below hdj hZU))
              generalize strB D[j] = sv at *
              clear q0 q1 q2 q3 hcj hcU cgz hdj hinj hU hds
              iterate 29 (refine wpL_do rfl (fun w' hw' => (by go_simp; rfl)) ?_; simp only [Act.put, List.setIfInBounds_toArray, List.set_cons_succ, List.set_cons_zero])
              clear d3 d5 k1 k2
              refine wpL_nil ?_
              clear d0 d1 d2
              go_wp2_with fail
              go_roundw
              case rel => exact ⟨j + 1, by go_num, by omega, hZU⟩
              case measure => simp [intOf]; omega
            · have t4 : ¬ (kk : Int) < (j : Int) := by omega
              rw [if_neg hkj, Int.add_zero] at hpos
              by_cases hje : j = kk
              · have t5 : ((j : Int) != (kk : Int)) = false := by rw [hje]; exact bne_self_eq_false _
                clear hje
                have q0 : wr.cell? ⟨g1, j * 4, none⟩ = some (.int .i64 ((q : Int))) := by rw [q0, show ((F1[j]).pos : Int) = _ from hpos]
                go_upto_region 28 with fail
                have bU := (below_alloc wr (.cells #[.int .i64 ((q : Int)), .bool false, .int .i64 0, .slice da dn dc] 35)).drew
                have hU : (wr.alloc (.cells #[.int .i64 ((q : Int)), .bool false, .int .i64 0, .slice da dn dc] 35)).drew.heap[wr.heap.size]? = some (.cells #[.int .i64 ((q : Int)), .bool false, .int .i64 0, .slice da dn dc] 35) := heap_alloc_new wr (.cells #[.int .i64 ((q : Int)), .bool false, .int .i64 0, .slice da dn dc] 35)
                refine wp_region_can_all [] [0, 1, 2, 3, 4, 5, 6, 7, 8, 9, 10, 11, 12, 13, 14, 15, 16, 17, 18, 19, 20, 21, 22, 23, 24, 25, 26, 27, 28] Ext Ext.refl Ext.trans (by kernel_rfl) (by kernel_rfl) ?_
                simp only [List.map_cons, List.map_nil, List.contains_cons, List.contains_nil, List.getD_cons_zero, List.getD_cons_succ, Nat.reduceBEq, Bool.or_false, Bool.or_true]
                obtain ⟨U, hUe⟩ : ∃ U, U = (wr.alloc (.cells #[.int .i64 ((q : Int)), .bool false, .int .i64 0, .slice da dn dc] 35)).drew := ⟨_, rfl⟩
                rw [← hUe] at bU hU ⊢
                clear hUe
                obtain ⟨xb, hxb⟩ : ∃ xb, xb = wr.heap.size := ⟨_, rfl⟩
                have bU' : Below wr.heap.size wr U := bU
                rw [← hxb] at hU ⊢
                clear hxb
                have d0 : ∀ w', Ext U w' → w'.cell? ⟨xb, 0, none⟩ = some (.int .i64 ((q : Int))) := fun w' hw => by rw [cell_of_row _ _ _ _ _ _ (row_below hU hw)]; rfl
                have d1 : ∀ w', Ext U w' → w'.cell? ⟨xb, 1, none⟩ = some (.bool false) := fun w' hw => by rw [cell_of_row _ _ _ _ _ _ (row_below hU hw)]; rfl
                have d2 : ∀ w', Ext U w' → w'.cell? ⟨xb, 2, none⟩ = some (.int .i64 0) := fun w' hw => by rw [cell_of_row _ _ _ _ _ _ (row_below hU hw)]; rfl
                have hZU : Below X.heap.size X U := hZ.trans (bU'.mono hZ.size)
                clear q0 q1 q2 q3 hcj cgz hdj hinj hU hds
                iterate 18 (refine wpL_do rfl (fun w' hw' => (by go_simp; rfl)) ?_; simp only [Act.put, List.setIfInBounds_toArray, List.set_cons_succ, List.set_cons_zero])
                iterate 9 ((with_reducible refine wpL_pass ?_ ?_); (· rfl); simp only [Act.put, List.setIfInBounds_toArray, List.set_cons_succ, List.set_cons_zero])
                iterate 2 (refine wpL_do rfl (fun w' hw' => (by go_simp; rfl)) ?_; simp only [Act.put, List.setIfInBounds_toArray, List.set_cons_succ, List.set_cons_zero])
                refine wpL_nil ?_
                clear d0 d1 d2
                go_wp2_with fail
                go_roundw
                case rel => exact ⟨j + 1, by go_num, by omega, hZU⟩
                case measure => simp [intOf]; omega
              · have t5 : ((j : Int) != (kk : Int)) = true := bne_iff_ne.2 (by omega)
                have q0 : wr.cell? ⟨g1, j * 4, none⟩ = some (.int .i64 ((q : Int))) := by rw [q0, show ((F1[j]).pos : Int) = _ from hpos]
                go_upto_region 28 with fail
                have bU := (below_alloc wr (.cells #[.int .i64 ((q : Int)), .bool false, .int .i64 0, .slice da dn dc] 35)).drew
                have hU : (wr.alloc (.cells #[.int .i64 ((q : Int)), .bool false, .int .i64 0, .slice da dn dc] 35)).drew.heap[wr.heap.size]? = some (.cells #[.int .i64 ((q : Int)), .bool false, .int .i64 0, .slice da dn dc] 35) := heap_alloc_new wr (.cells #[.int .i64 ((q : Int)), .bool false, .int .i64 0, .slice da dn dc] 35)
                refine wp_region_can_all [] [0, 1, 2, 3, 4, 5, 6, 7, 8, 9, 10, 11, 12, 13, 14, 15, 16, 17, 18, 19, 20, 21, 22, 23, 24, 25, 26, 27, 28] Ext Ext.refl Ext.trans (by kernel_rfl) (by kernel_rfl) ?_
                simp only [List.map_cons, List.map_nil, List.contains_cons, List.contains_nil, List.getD_cons_zero, List.getD_cons_succ, Nat.reduceBEq, Bool.or_false, Bool.or_true]
                obtain ⟨U, hUe⟩ : ∃ U, U = (wr.alloc (.cells #[.int .i64 ((q : Int)), .bool false, .int .i64 0, .slice da dn dc] 35)).drew := ⟨_, rfl⟩
                rw [← hUe] at bU hU ⊢
                clear hUe
                obtain ⟨xb, hxb⟩ : ∃ xb, xb = wr.heap.size := ⟨_, rfl⟩
                have bU' : Below wr.heap.size wr U := bU
                rw [← hxb] at hU ⊢
                clear hxb
                have d0 : ∀ w', Ext U w' → w'.cell? ⟨xb, 0, none⟩ = some (.int .i64 ((q : Int))) := fun w' hw => by rw [cell_of_row _ _ _ _ _ _ (row_below hU hw)]; rfl
                have d1 : ∀ w', Ext U w' → w'.cell? ⟨xb, 1, none⟩ = some (.bool false) := fun w' hw => by rw [cell_of_row _ _ _ _ _ _ (row_below hU hw)]; rfl
                have d2 : ∀ w', Ext U w' → w'.cell? ⟨xb, 2, none⟩ = some (.int .i64 0) := fun w' hw => by rw [cell_of_row _ _ _ _ _ _ (row_below hU hw)]; rfl
                have hZU : Below X.heap.size X U := hZ.trans (bU'.mono hZ.size)
                have d3 : ∀ w', Ext U w' → w'.cell? ⟨xb, 3, none⟩ = some (.slice da dn dc) := fun w' hw => by rw [cell_of_row _ _ _ _ _ _ (row_below hU hw)]; rfl
                have hcU : U.cell? ⟨ag, j, none⟩ = some (.slice xa xn xc) := (bU'.cell (p := ⟨ag, j, none⟩) (Nat.lt_of_lt_of_le (own_lt hAX rfl) hZ.size)).trans hcj
                have d5 : ∀ w', Ext U w' → w'.cell? ⟨ag, j, none⟩ = some (.slice xa xn xc) := fun w' hw => (hw.cell (p := ⟨ag, j, none⟩) (Nat.lt_of_lt_of_le (own_lt hAX rfl) hZU.size)).trans hcU
                rw [hds (by omega)] at hinj
                have k1 := run_str_ext (P := Try.prog) 24 5 9 Try.underlying24 Try.underlying5 Try.underlying9 (Rd.ofOwn (ownsRow_below hinj.1 hZU))
                have k2 := run_str_ext (P := Try.prog) 24 5 9 Try.underlying24 Try.underlying5 Try.underlying9 (Rd.ofOwn (ownsRow_below hdj hZU))
                generalize strB D[j] = sv at *
                clear q0 q1 q2 q3 hcj hcU cgz hdj hinj hU hds
                iterate 29 (refine wpL_do rfl (fun w' hw' => (by go_simp; rfl)) ?_; simp only [Act.put, List.setIfInBounds_toArray, List.set_cons_succ, List.set_cons_zero])
                clear d3 d5 k1 k2
                refine wpL_nil ?_
                clear d0 d1 d2
                go_wp2_with fail
                go_roundw
                case rel => exact ⟨j + 1, by go_num, by omega, hZU⟩
                case measure => simp [intOf]; omega
          · obtain rfl : n = j := by omega
            go_wp2_with fail
            go_ret
            exact ⟨rfl, hBX.trans (hZ.mono hBX.size)⟩
    | false =>
      have s0 : (p : Int) + 1 = ((p + 1 : Nat) : Int) := by omega
      obtain ⟨p1, hp1⟩ : ∃ p1, p1 = p + 1 := ⟨_, rfl⟩
      rw [← hp1] at s0
      have s00 : IntKind.i64.wrap (p1 : Int) = (p1 : Int) := IntWalk.i64_in _ (by have := Hn.out; have := Hp.out; omega)
      have s1 : (0 : Int) ≤ (p1 : Int) := by omega
      have s2 : (p1 : Int) ≤ (bn : Int) := by have := Hn.out; have := Hp.out; omega
      have s3 : ¬ bc = p1 := by have := Hn.out; have := Hp.out; omega
      have Hp1 := hid hp1
      clear hp1
      go_wp2_with (at_builtin; refine hold ?_)
      unfold Hid
      have hsub := (hrdB.below b3).sub p1 (bn - p1) (by have := Hp.out; omega)
      have hse : ((flat false D).drop p1).take (bn - p1) = (flat false D).drop p1 := List.take_of_length_le (by rw [List.length_drop]; have := hbo.1; rw [vb_len] at this; omega)
      rw [hse] at hsub
      try rw [Nat.zero_add] at hsub
      refine wpList_append_rd rfl _ _ 24 rfl W2.heap.size 5 i5 _ 1 Try.underlying24 hi5 hz5 hs5 hb5 rfl sa p sc (vb ((flat false D).take p)) rfl oS (some ⟨g, p1, none⟩) (bn - p1) (bc - p1) (vb ((flat false D).drop p1)) rfl hsub (vb_oneCell _) (by have := Hn.out; have := Hp.out; omega) (by have := Hn.out; have := Hp.out; unfold maxLen; omega) b3.size ?_
      intro sa sc wr oS _ b5
      have BS := b3.trans b5
      rw [← vb_append] at oS
      obtain ⟨sn, hsn⟩ : ∃ sn, sn = p + (bn - p1) := ⟨_, rfl⟩
      rw [← hsn] at oS ⊢
      have hsnb : sn ≤ 10000 := by have := Hn.out; have := Hp.out; omega
      obtain ⟨S, hSe⟩ : ∃ S, S = (flat false D).take p ++ (flat false D).drop p1 := ⟨_, rfl⟩
      rw [← hSe] at oS
      have hlaw := slip_all L F_ H_ M_ hLL.1 (by omega) (by omega) D hD kk oo p (by have := Hn.out; omega) (by have := Hn.out; omega) (by have := Hn.out; rw [← this.2.2.2.1, ← this.2.2.2.2.1]; omega) S (-1) (.inr ⟨by rw [hSe, Hp1.out], rfl⟩)
      clear hsn hSe hsub hse b5 s0 s00 s1 s2 s3 b3 hrdB
      have hVr := row_below hV2 BS
      have hBr := hB2.trans (BS.mono hB2.size)
      have hAr := ownsRow_below hrow BS
      have hEr : All2 (fun (h : Hd) d => wr.ownsRow w.heap.size 5 1 (hv h) h.2.1 (vb d)) hdsL D := forall2_imp (fun _ _ y => ownsRow_below y BS) hea
      obtain ⟨hS1, m', fo, hr2, hfl, hget⟩ := hlaw
      have n0 : wr.cell? ⟨b, 0, none⟩ = some (.int .i64 (L : Int)) := by rw [cell_of_row _ _ _ _ _ _ hVr]; rfl
      have n1 : wr.cell? ⟨b, 1, none⟩ = some (.int .i64 (F_ : Int)) := by rw [cell_of_row _ _ _ _ _ _ hVr]; rfl
      have n2 : wr.cell? ⟨b, 2, none⟩ = some (.int .i64 (H_ : Int)) := by rw [cell_of_row _ _ _ _ _ _ hVr]; rfl
      have n3 : wr.cell? ⟨b, 3, none⟩ = some (.int .i64 (M_ : Int)) := by rw [cell_of_row _ _ _ _ _ _ hVr]; rfl
      have bA := below_alloc wr (.cells #[.slice sa sn sc] 24)
      have pA : PcsAt (wr.alloc (.cells #[.slice sa sn sc] 24)) (some ⟨wr.heap.size, 0, none⟩) 1 1 [(sa, sn, sc)] [S] :=
        ⟨Rd.ofOwn (own_of_heap (B := 0) (xs := [.slice sa sn sc]) (heap_alloc_new _ _) rfl (Nat.zero_le _) (by unfold maxLen; omega)), .cons ⟨(Rd.ofOwn oS).below bA, hS1.b⟩ .nil⟩
      have hfS : S.length = sn := by have := oS.1; rw [vb_len] at this; omega
      have hBA := hBr.trans (bA.mono hBr.size)
      have hVA := row_below hVr bA
      have hAA := ownsRow_below hAr bA
      have hEA : All2 (fun (h : Hd) d => (wr.alloc (.cells #[.slice sa sn sc] 24)).ownsRow w.heap.size 5 1 (hv h) h.2.1 (vb d)) hdsL D := forall2_imp (fun _ _ y => ownsRow_below y bA) hEr
      clear hVr hEr hAr hV2 hB2 bA oS hrow hea hbo
      go_wp2_with fail
      refine (listen_ok L F_ H_ M_ (by omega) (by omega) (by omega) (by omega) (some ⟨wr.heap.size, 0, none⟩) 1 1 [(sa, sn, sc)] [S] _ pA (by decide) (by simp only [List.flatten_cons, List.flatten_nil, List.append_nil]; omega)).mono ?_
      rintro e X ⟨ga, qa, la, gc, qc, lc, ha, FA, los, C, m, rfl, hP⟩
      have hPb := hP.blw
      obtain ⟨a1, x1, c1, F1, gx, gl, rfl, rfl, cg, cl, o1, hx1, i1, hrun, hg, hgl⟩ := hP.one
      rw [par_id hS1] at hrun
      obtain ⟨hF, rfl⟩ := Run.det hrun hr2
      subst hF
      have hF1 : F1.length = D.length := by simpa using hfl
      have hAX := ownsRow_below hAA hPb
      have hEX : All2 (fun (h : Hd) d => X.ownsRow w.heap.size 5 1 (hv h) h.2.1 (vb d)) hdsL D := forall2_imp (fun _ _ y => ownsRow_below y hPb) hEA
      have hBX := hBA.trans (hPb.mono hBA.size)
      have hw2 : D.length = hdsL.length := hEX.len.symm
      clear n0 n1 n2 n3 hVA hAA hEA hrun hr2 hP hPb pA hBr hBA
      subst hx1
      have e2 : (F1.length : Int) = (n : Int) := by have := Hn.out; omega
      have HF1 := hid hF1
      have Hw2 := hid hw2
      have HG := hid hget
      clear hF1 hw2 hget hfl cl
      go_wp2_with fail
      go_loopw [26] (fun i wz => ∃ j : Nat, i = .int .i64 (j : Int) ∧ j ≤ n ∧ Below X.heap.size X wz) (fun i _ => n - (intOf i).toNat)
      case atStart => exact ⟨0, rfl, Nat.zero_le _, Below.refl _ _⟩
      case round =>
        obtain ⟨j, rfl, hj, hZ⟩ := hrel
        by_cases hjk : j < n
        · have t2 : (j : Int) < (n : Int) := by omega
          have hjD : j < D.length := by have := Hn.out; omega
          have hjF : j < F1.length := by have := HF1.out; omega
          obtain ⟨f, hf, hpos, htu, hmi, hds⟩ := HG.out j hjD
          rw [List.getElem?_map, List.getElem?_eq_getElem hjF] at hf
          have hf : (F1[j]).fo = f := by simpa using hf
          subst hf
          have hpos : ((F1[j]).pos : Int) = _ := hpos
          have htu : (F1[j]).tu = false := htu
          have hmi : (F1[j]).mi = 0 := hmi
          have hds : j ≠ kk → (F1[j]).ds = D[j] := hds
          obtain ⟨g1, rfl⟩ := own_addr o1 (by omega)
          obtain ⟨q0, q1, q2, q3⟩ := Fd.cellsAt (ownsRow_below o1 hZ) rfl j hjF
          have hinj := i1 _ (List.getElem_mem hjF)
          rw [htu] at q1
          rw [hmi] at q2
          unfold Fd.In at hinj
          generalize (F1[j]).da = da at *
          generalize (F1[j]).dn = dn at *
          generalize (F1[j]).dc = dc at *
          have hjh : j < hdsL.length := by have := Hw2.out; omega
          have hdj := hEX.get j hjh hjD
          obtain ⟨ag, rfl⟩ := own_addr hAX (by omega)
          have hcj : X.cell? ⟨ag, j, none⟩ = some (hv (hdsL[j])) := by
            rw [hAX.cellAt j (by omega), List.getElem?_map, List.getElem?_eq_getElem hjh]; rfl
          obtain ⟨⟨xa, xn, xc⟩, hsd⟩ : ∃ h, h = hdsL[j] := ⟨_, rfl⟩
          rw [← hsd] at hcj hdj
          have hcj : wr.cell? ⟨ag, j, none⟩ = some (.slice xa xn xc) := (hZ.cell (p := ⟨ag, j, none⟩) (own_lt hAX rfl)).trans hcj
          have hdj : X.ownsRow w.heap.size 5 1 (.slice xa xn xc) xn (vb D[j]) := hdj
          have cgz : wr.cell? ⟨gx, 0, none⟩ = some (.slice (some ⟨g1, 0, none⟩) F1.length c1) := (hZ.cell (p := ⟨gx, 0, none⟩) hg).trans cg
          have t3 : (j : Int) < (F1.length : Int) := by omega
          have t20 : j < 20 := by have := Hn.out; omega
          obtain ⟨q, hq⟩ : ∃ q, q = j * (32 + 8 * L) := ⟨_, rfl⟩
          have hqs : q ≤ 20 * 352 := by rw [hq]; exact Nat.mul_le_mul (by have := Hn.out; omega) (by omega)
          have m3 : (j : Int) * (sz : Int) = (q : Int) := by rw [hq, ← Hn.out.2.2.2.1]; simp
          have m4 : IntKind.i64.wrap (q : Int) = (q : Int) := IntWalk.i64_in _ (by omega)
          have m5 : IntKind.i64.wrap ((q : Int) + (-1)) = (q : Int) + (-1) := IntWalk.i64_in _ (by omega)
          rw [← hq] at hpos
          have Hq := hid hq
          clear hq hsd htu hmi
          by_cases hkj : kk < j
          · have t4 : (kk : Int) < (j : Int) := by omega
            have t5 : ((j : Int) != (kk : Int)) = true := bne_iff_ne.2 (by omega)
            rw [if_pos hkj] at hpos
            have q0 : wr.cell? ⟨g1, j * 4, none⟩ = some (.int .i64 ((q : Int) + (-1))) := by rw [q0, show ((F1[j]).pos : Int) = _ from hpos]
            go_upto_region 28 with fail
            have bU := (below_alloc wr (.cells #[.int .i64 ((q : Int) + (-1)), .bool false, .int .i64 0, .slice da dn dc] 35)).drew
            have hU : (wr.alloc (.cells #[.int .i64 ((q : Int) + (-1)), .bool false, .int .i64 0, .slice da dn dc] 35)).drew.heap[wr.heap.size]? = some (.cells #[.int .i64 ((q : Int) + (-1)), .bool false, .int .i64 0, .slice da dn dc] 35) := heap_alloc_new wr (.cells #[.int .i64 ((q : Int) + (-1)), .bool false, .int .i64 0, .slice da dn dc] 35)
            refine wp_region_can_all [] [0, 1, 2, 3, 4, 5, 6, 7, 8, 9, 10, 11, 12, 13, 14, 15, 16, 17, 18, 19, 20, 21, 22, 23, 24, 25, 26, 27, 28] Ext Ext.refl Ext.trans (by kernel_rfl) (by kernel_rfl) ?_
            simp only [List.map_cons, List.map_nil, List.contains_cons, List.contains_nil, List.getD_cons_zero, List.getD_cons_succ, Nat.reduceBEq, Bool.or_false, Bool.or_true]
            obtain ⟨U, hUe⟩ : ∃ U, U = (wr.alloc (.cells #[.int .i64 ((q : Int) + (-1)), .bool false, .int .i64 0, .slice da dn dc] 35)).drew := ⟨_, rfl⟩
            rw [← hUe] at bU hU ⊢
            clear hUe
            obtain ⟨xb, hxb⟩ : ∃ xb, xb = wr.heap.size := ⟨_, rfl⟩
            have bU' : Below wr.heap.size wr U := bU
            rw [← hxb] at hU ⊢
            clear hxb
            have d0 : ∀ w', Ext U w' → w'.cell? ⟨xb, 0, none⟩ = some (.int .i64 ((q : Int) + (-1))) := fun w' hw => by rw [cell_of_row _ _ _ _ _ _ (row_below hU hw)]; rfl
            have d1 : ∀ w', Ext U w' → w'.cell? ⟨xb, 1, none⟩ = some (.bool false) := fun w' hw => by rw [cell_of_row _ _ _ _ _ _ (row_below hU hw)]; rfl
            have d2 : ∀ w', Ext U w' → w'.cell? ⟨xb, 2, none⟩ = some (.int .i64 0) := fun w' hw => by rw [cell_of_row _ _ _ _ _ _ (row_below hU hw)]; rfl
            have hZU : Below X.heap.size X U := hZ.trans (bU'.mono hZ.size)
            have d3 : ∀ w', Ext U w' → w'.cell? ⟨xb, 3, none⟩ = some (.slice da dn dc) := fun w' hw => by rw [cell_of_row _ _ _ _ _ _ (row_below hU hw)]; rfl
            have hcU : U.cell? ⟨ag, j, none⟩ = some (.slice xa xn xc) := (bU'.cell (p := ⟨ag, j, none⟩) (Nat.lt_of_lt_of_le (own_lt hAX rfl) hZ.size)).trans hcj
            have d5 : ∀ w', Ext U w' → w'.cell? ⟨ag, j, none⟩ = some (.slice xa xn xc) := fun w' hw => (hw.cell (p := ⟨ag, j, none⟩) (Nat.lt_of_lt_of_le (own_lt hAX rfl) hZU.size)).trans hcU
            rw [hds (by omega)] at hinj
            have k1 := run_str_ext (P := Try.prog) 24 5 9 Try.underlying24 Try.underlying5 Try.underlying9 (Rd.ofOwn (ownsRow_below hinj.1 hZU))
            have k2 := run_str_ext (P := Try.prog) 24 5 9 Try.underlying24 Try.underlying5 Try.underlying9 (Rd.ofOwn (ownsRow_below hdj hZU))
            generalize strB D[j] = sv at *
            clear q0 q1 q2 q3 hcj hcU cgz hdj hinj hU hds
            iterate 29 (refine wpL_do rfl (fun w' hw' => (by go_simp; rfl)) ?_; simp only [Act.put, List.setIfInBounds_toArray, List.set_cons_succ, List.set_cons_zero])
            clear d3 d5 k1 k2
            refine wpL_nil ?_
            clear d0 d1 d2
            go_wp2_with fail
            go_roundw
            case rel => exact ⟨j + 1, by go_num, by omega, hZU⟩
            case measure => simp [intOf]; omega
          · have t4 : ¬ (kk : Int) < (j : Int) := by omega
            rw [if_neg hkj, Int.add_zero] at hpos
            by_cases hje : j = kk
            · have t5 : ((j : Int) != (kk : Int)) = false := by rw [hje]; exact bne_self_eq_false _
              clear hje
              have q0 : wr.cell? ⟨g1, j * 4, none⟩ = some (.int .i64 ((q : Int))) := by rw [q0, show ((F1[j]).pos : Int) = _ from hpos]
              go_upto_region 28 with fail
              have bU := (below_alloc wr (.cells #[.int .i64 ((q : Int)), .bool false, .int .i64 0, .slice da dn dc] 35)).drew
              have hU : (wr.alloc (.cells #[.int .i64 ((q : Int)), .bool false, .int .i64 0, .slice da dn dc] 35)).drew.heap[wr.heap.size]? = some (.cells #[.int .i64 ((q : Int)), .bool false, .int .i64 0, .slice da dn dc] 35) := heap_alloc_new wr (.cells #[.int .i64 ((q : Int)), .bool false, .int .i64 0, .slice da dn dc] 35)
              refine wp_region_can_all [] [0, 1, 2, 3, 4, 5, 6, 7, 8, 9, 10, 11, 12, 13, 14, 15, 16, 17, 18, 19, 20, 21, 22, 23, 24, 25, 26, 27, 28] Ext Ext.refl Ext.trans (by kernel_rfl) (by kernel_rfl) ?_
              simp only [List.map_cons, List.map_nil, List.contains_cons, List.contains_nil, List.getD_cons_zero, List.getD_cons_succ, Nat.reduceBEq, Bool.or_false, Bool.or_true]
              obtain ⟨U, hUe⟩ : ∃ U, U = (wr.alloc (.cells #[.int .i64 ((q : Int)), .bool false, .int .i64 0, .slice da dn dc] 35)).drew := ⟨_, rfl⟩
              rw [← hUe] at bU hU ⊢
              clear hUe
              obtain ⟨xb, hxb⟩ : ∃ xb, xb = wr.heap.size := ⟨_, rfl⟩
              have bU' : Below wr.heap.size wr U := bU
              rw [← hxb] at hU ⊢
              clear hxb
              have d0 : ∀ w', Ext U w' → w'.cell? ⟨xb, 0, none⟩ = some (.int .i64 ((q : Int))) := fun w' hw => by rw [cell_of_row _ _ _ _ _ _ (row_below hU hw)]; rfl
              have d1 : ∀ w', Ext U w' → w'.cell? ⟨xb, 1, none⟩ = some (.bool false) := fun w' hw => by rw [cell_of_row _ _ _ _ _ _ (row_below hU hw)]; rfl
              have d2 : ∀ w', Ext U w' → w'.cell? ⟨xb, 2, none⟩ = some (.int .i64 0) := fun w' hw => by rw [cell_of_row _ _ _ _ _ _ (row_below hU hw)]; rfl
              have hZU : Below X.heap.size X U := hZ.trans (bU'.mono hZ.size)
              clear q0 q1 q2 q3 hcj cgz hdj hinj hU hds
              iterate 18 (refine wpL_do rfl (fun w' hw' => (by go_simp; rfl)) ?_; simp only [Act.put, List.setIfInBounds_toArray, List.set_cons_succ, List.set_cons_zero])
              iterate 9 ((with_reducible refine wpL_pass ?_ ?_); (· rfl); simp only [Act.put, List.setIfInBounds_toArray, List.set_cons_succ, List.set_cons_zero])
              iterate 2 (refine wpL_do rfl (fun w' hw' => (by go_simp; rfl)) ?_; simp only [Act.put, List.setIfInBounds_toArray, List.set_cons_succ, List.set_cons_zero])
              refine wpL_nil ?_
              clear d0 d1 d2
              go_wp2_with fail
              go_roundw
              case rel => exact ⟨j + 1, by go_num, by omega, hZU⟩
              case measure => simp [intOf]; omega
            · have t5 : ((j : Int) != (kk : Int)) = true := bne_iff_ne.2 (by omega)
              have q0 : wr.cell? ⟨g1, j * 4, none⟩ = some (.int .i64 ((q : Int))) := by rw [q0, show ((F1[j]).pos : Int) = _ from hpos]
              go_upto_region 28 with fail
              have bU := (below_alloc wr (.cells #[.int .i64 ((q : Int)), .bool false, .int .i64 0, .slice da dn dc] 35)).drew
              have hU : (wr.alloc (.cells #[.int .i64 ((q : Int)), .bool false, .int .i64 0, .slice da dn dc] 35)).drew.heap[wr.heap.size]? = some (.cells #[.int .i64 ((q : Int)), .bool false, .int .i64 0, .slice da dn dc] 35) := heap_alloc_new wr (.cells #[.int .i64 ((q : Int)), .bool false, .int .i64 0, .slice da dn dc] 35)
              refine wp_region_can_all [] [0, 1, 2, 3, 4, 5, 6, 7, 8, 9, 10, 11, 12, 13, 14, 15, 16, 17, 18, 19, 20, 21, 22, 23, 24, 25, 26, 27, 28] Ext Ext.refl Ext.trans (by kernel_rfl) (by kernel_rfl) ?_
              simp only [List.map_cons, List.map_nil, List.contains_cons, List.contains_nil, List.getD_cons_zero, List.getD_cons_succ, Nat.reduceBEq, Bool.or_false, Bool.or_true]
              obtain ⟨U, hUe⟩ : ∃ U, U = (wr.alloc (.cells #[.int .i64 ((q : Int)), .bool false, .int .i64 0, .slice da dn dc] 35)).drew := ⟨_, rfl⟩
              rw [← hUe] at bU hU ⊢
              clear hUe
              obtain ⟨xb, hxb⟩ : ∃ xb, xb = wr.heap.size := ⟨_, rfl⟩
              have bU' : Below wr.heap.size wr U := bU
              rw [← hxb] at hU ⊢
              clear hxb
              have d0 : ∀ w', Ext U w' → w'.cell? ⟨xb, 0, none⟩ = some (.int .i64 ((q : Int))) := fun w' hw => by rw [cell_of_row _ _ _ _ _ _ (row_below hU hw)]; rfl
              have d1 : ∀ w', Ext U w' → w'.cell? ⟨xb, 1, none⟩ = some (.bool false) := fun w' hw => by rw [cell_of_row _ _ _ _ _ _ (row_below hU hw)]; rfl
              have d2 : ∀ w', Ext U w' → w'.cell? ⟨xb, 2, none⟩ = some (.int .i64 0) := fun w' hw => by rw [cell_of_row _ _ _ _ _ _ (row_below hU hw)]; rfl
              have hZU : Below X.heap.size X U := hZ.trans (bU'.mono hZ.size)
              have d3 : ∀ w', Ext U w' → w'.cell? ⟨xb, 3, none⟩ = some (.slice da dn dc) := fun w' hw => by rw [cell_of_row _ _ _ _ _ _ (row_below hU hw)]; rfl
              have hcU : U.cell? ⟨ag, j, none⟩ = some (.slice xa xn xc) := (bU'.cell (p := ⟨ag, j, none⟩) (Nat.lt_of_lt_of_le (own_lt hAX rfl) hZ.size)).trans hcj
              have d5 : ∀ w', Ext U w' → w'.cell? ⟨ag, j, none⟩ = some (.slice xa xn xc) := fun w' hw => (hw.cell (p := ⟨ag, j, none⟩) (Nat.lt_of_lt_of_le (own_lt hAX rfl) hZU.size)).trans hcU
              rw [hds (by omega)] at hinj
              have k1 := run_str_ext (P := Try.prog) 24 5 9 Try.underlying24 Try.underlying5 Try.underlying9 (Rd.ofOwn (ownsRow_below hinj.1 hZU))
              have k2 := run_str_ext (P := Try.prog) 24 5 9 Try.underlying24 Try.underlying5 Try.underlying9 (Rd.ofOwn (ownsRow_below hdj hZU))
              generalize strB D[j] = sv at *
              clear q0 q1 q2 q3 hcj hcU cgz hdj hinj hU hds
              iterate 29 (refine wpL_do rfl (fun w' hw' => (by go_simp; rfl)) ?_; simp only [Act.put, List.setIfInBounds_toArray, List.set_cons_succ, List.set_cons_zero])
              clear d3 d5 k1 k2
              refine wpL_nil ?_
              clear d0 d1 d2
              go_wp2_with fail
              go_roundw
              case rel => exact ⟨j + 1, by go_num, by omega, hZU⟩
              case measure => simp [intOf]; omega
        · obtain rfl : n = j := by omega
          go_wp2_with fail
          go_ret
          exact ⟨rfl, hBX.trans (hZ.mono hBX.size)⟩
end Go.Proofs.Ytlbpmepifegeiaa
