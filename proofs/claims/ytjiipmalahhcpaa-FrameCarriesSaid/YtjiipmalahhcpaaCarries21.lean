/- frame: hearing. -/
import Derived.Test.YtjiipmalahhcpaaCarries20
namespace Go.Proofs.Ytjiipmalahhcpaa
set_option linter.unusedVariables false
open Go.RowKit

structure HrgR (W0 W : World) (craft size : Nat) (master : Int) (l : Nat → LE) (e : Ending) : Prop where
  ex : ∃ eb ec, e = .returned (.tuple #[lv craft size master eb ec, .bool true]) ∧ HearL W eb ec l ∧ W0.heap.size ≤ eb
  blw : Below W0.heap.size W0 W
set_option maxRecDepth 1000000 in
set_option maxHeartbeats 4000000 in
theorem hearing_ok (craft size : Nat) (master : Int) (eb ec : Nat) (l : Nat → LE) (W0 : World) (hs : HearL W0 eb ec l) (h1 : craft ≤ 1023) (h2 : 13 ≤ size) (h3 : size ≤ 2048) (h4 : -1 ≤ master) (h5 : master ≤ 255) :
    Calls Try.prog 27 #[lv craft size master eb ec] W0 fun e w' => HrgR W0 w' craft size master l e := by
  have b1 := below_alloc W0 (.cells #[.int .i64 (craft : Int), .int .i64 (size : Int), .int .i64 master, .slice (some ⟨eb, 0, none⟩) 7 ec] 52)
  have r1 := heap_alloc_new W0 (.cells #[.int .i64 (craft : Int), .int .i64 (size : Int), .int .i64 master, .slice (some ⟨eb, 0, none⟩) 7 ec] 52)
  have z1 : Hid ((W0.alloc (.cells #[.int .i64 (craft : Int), .int .i64 (size : Int), .int .i64 master, .slice (some ⟨eb, 0, none⟩) 7 ec] 52)).heap.size = W0.heap.size + 1) := World.size_alloc _ _
  obtain ⟨P, hP⟩ : ∃ P, P = W0.heap.size := ⟨_, rfl⟩
  rw [← hP] at r1 b1 z1
  have HP := hid hP
  have HS := hid hs
  have hqc := hs.le
  have hqm := hs.mx
  unfold maxLen at hqm
  clear hs hP
  unfold lv
  go_enter Try.func27, Try.ntmps27
  refine wp_seq_k (fun K0 hK0 => ?_)
  go_wp2_with fail
  rw [← HP.out]
  refine hK0.out _ _ ?_
  generalize W0.alloc (.cells #[.int .i64 (craft : Int), .int .i64 (size : Int), .int .i64 master, .slice (some ⟨eb, 0, none⟩) 7 ec] 52) = V1 at *
  have b2 := below_alloc V1 (.cells #[.int .i64 0, .int .i64 0, .int .i64 0, .slice none 0 0] 52)
  have r2 := heap_alloc_new V1 (.cells #[.int .i64 0, .int .i64 0, .int .i64 0, .slice none 0 0] 52)
  rw [z1.out] at r2
  have R1 := hid (row_below r1 b2)
  have R2 := hid r2
  have B2 := hid (b1.trans (b2.mono (by rw [z1.out]; exact Nat.le_succ _)))
  clear b1 b2 r1 r2
  generalize V1.alloc (.cells #[.int .i64 0, .int .i64 0, .int .i64 0, .slice none 0 0] 52) = V2 at *
  have p0 : V2.cell? ⟨P, 0, none⟩ = some (.int .i64 (craft : Int)) := by rw [cell_of_row _ _ _ _ _ _ R1.out]; rfl
  have p1 : V2.cell? ⟨P, 1, none⟩ = some (.int .i64 (size : Int)) := by rw [cell_of_row _ _ _ _ _ _ R1.out]; rfl
  have p2 : V2.cell? ⟨P, 2, none⟩ = some (.int .i64 master) := by rw [cell_of_row _ _ _ _ _ _ R1.out]; rfl
  have p3 : V2.cell? ⟨P, 3, none⟩ = some (.slice (some ⟨eb, 0, none⟩) 7 ec) := by rw [cell_of_row _ _ _ _ _ _ R1.out]; rfl
  have hS2 := HS.out.below (by rw [← HP.out]; exact B2.out)
  obtain ⟨e0, he0, hr0, ha0⟩ := hS2.ex
  have hcl := cloneE eb ec e0 V2 he0
  have HE0 := hid (And.intro hr0 ha0)
  have fz := frozen_row R1.out 3
  have w1 : IntKind.i64.wrap (master + 1) = master + 1 := IntWalk.i64_in _ (by omega)
  clear hS2 he0 hr0 ha0
  refine wp_seq_k (fun K1 hK1 => ?_)
  go_wp2_with (first
    | (go_at_call 14; refine (makes_ok _ _ _ (by omega) (by omega) (by omega)).mono ?_; rintro e w' ⟨rfl, hw'⟩; rw [hw']; clear hw' w')
    | (go_at_call 19; refine (in_f _ _ _ (by omega) (by omega)).mono ?_; rintro e w' ⟨rfl, hw'⟩; rw [hw']; clear hw' w'))
  refine hK1.out _ _ ?_
  refine wp_seq_k (fun K2 hK2 => ?_)
  go_wp2_with fail
  refine hcl.mono ?_
  rintro e V3 ⟨g, c, rfl, hgc, hgm, hgB, hq3, hb3⟩
  have hr1 := row_below R1.out hb3
  have hr2 := row_below R2.out hb3
  have p3 : V3.cell? ⟨P, 3, none⟩ = some (.slice (some ⟨eb, 0, none⟩) 7 ec) := by rw [cell_of_row _ _ _ _ _ _ hr1]; rfl
  have fz := frozen_row hr1 3
  obtain ⟨hs1, hs2⟩ := set_row (cs' := #[.int .i64 (craft : Int), .int .i64 (size : Int), .int .i64 master, .slice (some ⟨g, 0, none⟩) 7 c]) hr1 3 (.slice (some ⟨g, 0, none⟩) 7 c) rfl
  have hb03 : Below W0.heap.size W0 V3 := by rw [← HP.out]; exact B2.out.trans (hb3.mono (Nat.le_of_lt (row_lt R1.out)))
  have hM : HG W0 (V3.setCell ⟨P, 3, none⟩ (.slice (some ⟨g, 0, none⟩) 7 c)) P g c (.int .i64 (craft : Int)) (.int .i64 (size : Int)) (.int .i64 master) l := by
    refine ⟨hs1, row_grown hr2 hs2 (Nat.succ_ne_self P), ⟨e0, hq3.other hs2 hr1 (by decide), fun x hx => ((HE0.out.1 x hx).below hb3).other hs2 hr1 (by decide), HE0.out.2⟩, hb03.grown hs2 hb03.size (fun k e => by cases e; rw [HP.out]; exact Nat.le_refl _), by rw [HP.out]; exact Nat.le_refl _, ?_⟩
    have := row_lt R1.out
    have := HP.out
    omega
  have HM := hid hM
  have hgm2 := hgm
  unfold maxLen at hgm2
  have HL := hid (hrg_l W0 _ P g c (craft : Int) (size : Int) master l HS.out.k hM ⟨hgc, hgm⟩)
  clear hM hs1 hs2 hr1 hr2 hq3 hb3 hb03 hcl p0 p1 p2
  go_wp2_with fail
  refine hK2.out _ _ ?_
  clear p3 fz
  generalize V3.setCell ⟨P, 3, none⟩ (.slice (some ⟨g, 0, none⟩) 7 c) = V4 at *
  have p3 : V4.cell? ⟨P, 3, none⟩ = some (.slice (some ⟨g, 0, none⟩) 7 c) := by rw [cell_of_row _ _ _ _ _ _ HM.out.p1]; rfl
  refine wp_seq_k (fun K3 hK3 => ?_)
  refine wp_seq_k (fun K4 hK4 => ?_)
  go_wp2_with fail
  refine hK4.out _ _ ?_
  clear p3
  refine Tri.use HL.out rfl ⟨⟨rfl, rfl, rfl, rfl⟩, rfl⟩ ?_
  rintro y5 V5 ⟨⟨s1, s2⟩, hM5⟩
  refine hK3.out _ _ ?_
  have HM5 := hid hM5
  have hr2 := hM5.p2
  have hr1 := hM5.p1
  have p0 : V5.cell? ⟨P, 0, none⟩ = some (.int .i64 (craft : Int)) := by rw [cell_of_row _ _ _ _ _ _ hr1]; rfl
  have p1 : V5.cell? ⟨P, 1, none⟩ = some (.int .i64 (size : Int)) := by rw [cell_of_row _ _ _ _ _ _ hr1]; rfl
  have p2 : V5.cell? ⟨P, 2, none⟩ = some (.int .i64 master) := by rw [cell_of_row _ _ _ _ _ _ hr1]; rfl
  have p3 : V5.cell? ⟨P, 3, none⟩ = some (.slice (some ⟨g, 0, none⟩) 7 c) := by rw [cell_of_row _ _ _ _ _ _ hr1]; rfl
  have t0 : V5.cell? ⟨P + 1, 0, none⟩ = some (.int .i64 0) := by rw [cell_of_row _ _ _ _ _ _ hr2]; rfl
  have t1 : V5.cell? ⟨P + 1, 1, none⟩ = some (.int .i64 0) := by rw [cell_of_row _ _ _ _ _ _ hr2]; rfl
  have t2 : V5.cell? ⟨P + 1, 2, none⟩ = some (.int .i64 0) := by rw [cell_of_row _ _ _ _ _ _ hr2]; rfl
  have t3 : V5.cell? ⟨P + 1, 3, none⟩ = some (.slice none 0 0) := by rw [cell_of_row _ _ _ _ _ _ hr2]; rfl
  have fz := frozen_row hr2
  obtain ⟨f1, f2⟩ := four hr2 (.int .i64 (craft : Int)) (.int .i64 (size : Int)) (.int .i64 master) (.slice (some ⟨g, 0, none⟩) 7 c)
  have HF1 := hid f1
  have HF2 := hid f2
  have HR2 := hid hr2
  clear hM5 hr1 hr2 f1 f2 HM HL
  rw [fr81]
  simp only [s1, s2]
  clear s1 s2
  refine wp_seq_k (fun K5 hK5 => ?_)
  go_wp2_with fail
  refine hK5.out _ _ ?_
  clear p0 p1 p2 p3 t0 t1 t2 t3 fz
  generalize (((V5.setCell ⟨P + 1, 0, none⟩ (.int .i64 (craft : Int))).setCell ⟨P + 1, 1, none⟩ (.int .i64 (size : Int))).setCell ⟨P + 1, 2, none⟩ (.int .i64 master)).setCell ⟨P + 1, 3, none⟩ (.slice (some ⟨g, 0, none⟩) 7 c) = V6 at *
  go_wp2_with fail
  refine bodyPost_ret (results_c1 rfl _ _ (P + 1) 52 #[.int .i64 (craft : Int), .int .i64 (size : Int), .int .i64 master, .slice (some ⟨g, 0, none⟩) 7 c] (0, 0) _ rfl HF1.out Try.underlying52 rfl (by kernel_rfl)) rfl ?_
  have hM := HM5.out
  obtain ⟨e1, he1, hr1, ha1⟩ := hM.ex
  refine ⟨⟨g, c, rfl, ⟨⟨e1, he1.other HF2.out HR2.out (by decide), fun x hx => (hr1 x hx).other HF2.out HR2.out (by decide), ha1⟩, HS.out.k, hgc, hgm⟩, hM.b2⟩, hM.blw.grown HF2.out hM.blw.size (fun k e => by cases e; exact Nat.le_succ_of_le hM.b1)⟩
end Go.Proofs.Ytjiipmalahhcpaa
/- frame: Decode: where bytes are wanting (printed by gendecm.py). -/
namespace Go.Proofs.Ytjiipmalahhcpaa
set_option linter.unusedVariables false
open Go.RowKit

theorem six {W : World} {b : Nat} {e : TypeId} {o0 o1 o2 o3 o4 o5 : Value} (A : W.heap[b]? = some (.cells #[o0, o1, o2, o3, o4, o5] e)) (v0 v1 v2 v3 v4 v5 : Value) :
    ((((((W.setCell ⟨b, 0, none⟩ v0).setCell ⟨b, 1, none⟩ v1).setCell ⟨b, 2, none⟩ v2).setCell ⟨b, 3, none⟩ v3).setCell ⟨b, 4, none⟩ v4).setCell ⟨b, 5, none⟩ v5).heap[b]? = some (.cells #[v0, v1, v2, v3, v4, v5] e) ∧ W.grownBy ((((((W.setCell ⟨b, 0, none⟩ v0).setCell ⟨b, 1, none⟩ v1).setCell ⟨b, 2, none⟩ v2).setCell ⟨b, 3, none⟩ v3).setCell ⟨b, 4, none⟩ v4).setCell ⟨b, 5, none⟩ v5) (some b) := by
  obtain ⟨h0, g0⟩ := set_row (cs' := #[v0, o1, o2, o3, o4, o5]) A 0 v0 rfl
  obtain ⟨h1, g1⟩ := set_row (cs' := #[v0, v1, o2, o3, o4, o5]) h0 1 v1 rfl
  obtain ⟨h2, g2⟩ := set_row (cs' := #[v0, v1, v2, o3, o4, o5]) h1 2 v2 rfl
  obtain ⟨h3, g3⟩ := set_row (cs' := #[v0, v1, v2, v3, o4, o5]) h2 3 v3 rfl
  obtain ⟨h4, g4⟩ := set_row (cs' := #[v0, v1, v2, v3, v4, o5]) h3 4 v4 rfl
  obtain ⟨h5, g5⟩ := set_row (cs' := #[v0, v1, v2, v3, v4, v5]) h4 5 v5 rfl
  exact ⟨h5, grownBy_trans g0 (grownBy_trans g1 (grownBy_trans g2 (grownBy_trans g3 (grownBy_trans g4 g5))))⟩
set_option maxRecDepth 1000000 in
set_option maxHeartbeats 2000000 in
theorem decode_more (a : Option Addr) (n c : Nat) (bs : List Nat) (w : World) (hr : Rd w a n c (vb bs)) (hb : AllB bs)
    (h6 : 6 ≤ n) (hv : wordAt bs 0 < 8192) (hl : n < wordAt bs 2 + 7) :
    Calls Try.prog 35 #[.slice a n c] w fun e w' => e = .returned (.tuple #[.agg #[.bool false, .bool false, .int .i64 0, .int .i64 0, .int .i64 0, .slice none 0 0], .int .i64 0, .int .i64 7]) ∧ Below w.heap.size w w' := by
  obtain ⟨b, off, rfl, hbl, _⟩ := hr.cell 0 (by omega)
  obtain ⟨V0, hW⟩ : ∃ V0, V0 = (w.alloc (.cells #[.bool false, .bool false, .int .i64 0, .int .i64 0, .int .i64 0, .slice none 0 0] 38)).alloc (.cells #[.int .i64 0, .int .i64 0, .int .i64 0] 103) := ⟨_, rfl⟩
  have B0 : Below w.heap.size w V0 := by rw [hW]; exact (below_alloc w _).alloc (by simp) _
  have A0 : V0.heap[w.heap.size]? = some (.cells #[.bool false, .bool false, .int .i64 0, .int .i64 0, .int .i64 0, .slice none 0 0] 38 (0, 0)) := by
    rw [hW]; exact heap_alloc2_old w _ _
  have A1 : V0.heap[w.heap.size + 1]? = some (.cells #[.int .i64 0, .int .i64 0, .int .i64 0] 103 (0, 0)) := by rw [hW]; exact heap_alloc2_new w _ _
  go_enter Try.func35, Try.ntmps35
  go_wp2_with fail
  rw [← hW]
  clear hW
  refine wp_loop_rounds 4 ?_
  rw [rounds_succ]
  go_wp2_with fail
  have rk := hr.below B0
  obtain ⟨_, _, hab, _, x0⟩ := rk.cell 0 (by omega)
  cases hab
  obtain ⟨_, _, hab, _, x1⟩ := rk.cell 1 (by omega)
  cases hab
  clear rk
  try simp only [Nat.add_zero] at x0
  have y0 := nth_lt hb 0
  have y1 := nth_lt hb 1
  have s3 : IntKind.i64.wrap (nth bs 0 : Int) = (nth bs 0 : Int) := wraps_i64 _ (by omega) (by omega)
  have s4 : IntKind.i64.wrap ((nth bs 0 : Int) * 256) = (nth bs 0 : Int) * 256 := wraps_i64 _ (by omega) (by omega)
  have s5 : IntKind.i64.wrap (nth bs 1 : Int) = (nth bs 1 : Int) := wraps_i64 _ (by omega) (by omega)
  have q : bits .or .i64 ((nth bs 0 : Int) * 256) (nth bs 1) = ((wordAt bs 0 : Nat) : Int) := i64_or_nat (nth bs 0 * 256) (nth bs 1) (by omega) (by omega)
  have l0 : (0 : Int) < n := by omega
  have l1 : (1 : Int) < n := by omega
  have l2 : 0 < n := by omega
  have l3 : 1 < n := by omega
  have s1 : IntKind.i64.wrap 0 = 0 := by decide
  have s2 : IntKind.i64.wrap 1 = 1 := by decide
  refine wp_region_still_tail 17 (by kernel_rfl) (by kernel_rfl) ?_
  simp only [List.take_succ_cons, List.take_zero, List.drop_succ_cons, List.drop_zero]
  repeat still_step
  refine wpStill_nil ?_
  change wpList _ _ _ _ _ V0.drew
  have A0 : V0.drew.heap[w.heap.size]? = _ := A0
  have A1 : V0.drew.heap[w.heap.size + 1]? = _ := A1
  have B0 := B0.drew
  have fA : V0.drew.frozen? ⟨w.heap.size + 1, 0, none⟩ = false := frozen_of_row _ _ _ _ _ A1
  have cA : V0.drew.cell? ⟨w.heap.size + 1, 0, none⟩ = some (.int .i64 0) := by rw [cell_of_row _ _ _ _ _ _ A1]; rfl
  clear x0 x1 s1 s2 s3 s4 s5 q l0 l1 l2 l3 y0 y1
  generalize V0.drew = Vd at *
  go_wp2_with fail
  obtain ⟨V1, hV⟩ : ∃ V1, V1 = Vd.setCell ⟨w.heap.size + 1, 0, none⟩ (.int .i64 (wordAt bs 0 : Nat)) := ⟨_, rfl⟩
  rw [← hV]
  have A0 : V1.heap[w.heap.size]? = some (.cells #[.bool false, .bool false, .int .i64 0, .int .i64 0, .int .i64 0, .slice none 0 0] 38 (0, 0)) := by rw [hV, Below.heap_setCell _ _ _ _ (by simp)]; exact A0
  have A1 : V1.heap[w.heap.size + 1]? = some (.cells #[.int .i64 (wordAt bs 0 : Nat), .int .i64 0, .int .i64 0] 103 (0, 0)) := by rw [hV]; exact heap_setCell_same Vd (w.heap.size + 1) 0 _ 103 _ A1
  have B0 : Below w.heap.size w V1 := by rw [hV]; exact B0.setCell (p := ⟨w.heap.size + 1, 0, none⟩) (by simp) _
  clear hV fA cA
  rw [rounds_succ]
  go_wp2_with fail
  have rk := hr.below B0
  obtain ⟨_, _, hab, _, x0⟩ := rk.cell 2 (by omega)
  cases hab
  obtain ⟨_, _, hab, _, x1⟩ := rk.cell 3 (by omega)
  cases hab
  clear rk
  try simp only [Nat.add_zero] at x0
  have y0 := nth_lt hb 2
  have y1 := nth_lt hb 3
  have s3 : IntKind.i64.wrap (nth bs 2 : Int) = (nth bs 2 : Int) := wraps_i64 _ (by omega) (by omega)
  have s4 : IntKind.i64.wrap ((nth bs 2 : Int) * 256) = (nth bs 2 : Int) * 256 := wraps_i64 _ (by omega) (by omega)
  have s5 : IntKind.i64.wrap (nth bs 3 : Int) = (nth bs 3 : Int) := wraps_i64 _ (by omega) (by omega)
  have q : bits .or .i64 ((nth bs 2 : Int) * 256) (nth bs 3) = ((wordAt bs 1 : Nat) : Int) := i64_or_nat (nth bs 2 * 256) (nth bs 3) (by omega) (by omega)
  have l0 : (2 : Int) < n := by omega
  have l1 : (3 : Int) < n := by omega
  have l2 : 2 < n := by omega
  have l3 : 3 < n := by omega
  have s1 : IntKind.i64.wrap 2 = 2 := by decide
  have s2 : IntKind.i64.wrap 3 = 3 := by decide
  refine wp_region_still_tail 17 (by kernel_rfl) (by kernel_rfl) ?_
  simp only [List.take_succ_cons, List.take_zero, List.drop_succ_cons, List.drop_zero]
  repeat still_step
  refine wpStill_nil ?_
  change wpList _ _ _ _ _ V1.drew
  have A0 : V1.drew.heap[w.heap.size]? = _ := A0
  have A1 : V1.drew.heap[w.heap.size + 1]? = _ := A1
  have B0 := B0.drew
  have fA : V1.drew.frozen? ⟨w.heap.size + 1, 1, none⟩ = false := frozen_of_row _ _ _ _ _ A1
  have cA : V1.drew.cell? ⟨w.heap.size + 1, 1, none⟩ = some (.int .i64 0) := by rw [cell_of_row _ _ _ _ _ _ A1]; rfl
  clear x0 x1 s1 s2 s3 s4 s5 q l0 l1 l2 l3 y0 y1
  generalize V1.drew = Vd at *
  go_wp2_with fail
  obtain ⟨V2, hV⟩ : ∃ V2, V2 = Vd.setCell ⟨w.heap.size + 1, 1, none⟩ (.int .i64 (wordAt bs 1 : Nat)) := ⟨_, rfl⟩
  rw [← hV]
  have A0 : V2.heap[w.heap.size]? = some (.cells #[.bool false, .bool false, .int .i64 0, .int .i64 0, .int .i64 0, .slice none 0 0] 38 (0, 0)) := by rw [hV, Below.heap_setCell _ _ _ _ (by simp)]; exact A0
  have A1 : V2.heap[w.heap.size + 1]? = some (.cells #[.int .i64 (wordAt bs 0 : Nat), .int .i64 (wordAt bs 1 : Nat), .int .i64 0] 103 (0, 0)) := by rw [hV]; exact heap_setCell_same Vd (w.heap.size + 1) 1 _ 103 _ A1
  have B0 : Below w.heap.size w V2 := by rw [hV]; exact B0.setCell (p := ⟨w.heap.size + 1, 1, none⟩) (by simp) _
  clear hV fA cA
  rw [rounds_succ]
  go_wp2_with fail
  have rk := hr.below B0
  obtain ⟨_, _, hab, _, x0⟩ := rk.cell 4 (by omega)
  cases hab
  obtain ⟨_, _, hab, _, x1⟩ := rk.cell 5 (by omega)
  cases hab
  clear rk
  try simp only [Nat.add_zero] at x0
  have y0 := nth_lt hb 4
  have y1 := nth_lt hb 5
  have s3 : IntKind.i64.wrap (nth bs 4 : Int) = (nth bs 4 : Int) := wraps_i64 _ (by omega) (by omega)
  have s4 : IntKind.i64.wrap ((nth bs 4 : Int) * 256) = (nth bs 4 : Int) * 256 := wraps_i64 _ (by omega) (by omega)
  have s5 : IntKind.i64.wrap (nth bs 5 : Int) = (nth bs 5 : Int) := wraps_i64 _ (by omega) (by omega)
  have q : bits .or .i64 ((nth bs 4 : Int) * 256) (nth bs 5) = ((wordAt bs 2 : Nat) : Int) := i64_or_nat (nth bs 4 * 256) (nth bs 5) (by omega) (by omega)
  have l0 : (4 : Int) < n := by omega
  have l1 : (5 : Int) < n := by omega
  have l2 : 4 < n := by omega
  have l3 : 5 < n := by omega
  have s1 : IntKind.i64.wrap 4 = 4 := by decide
  have s2 : IntKind.i64.wrap 5 = 5 := by decide
  refine wp_region_still_tail 17 (by kernel_rfl) (by kernel_rfl) ?_
  simp only [List.take_succ_cons, List.take_zero, List.drop_succ_cons, List.drop_zero]
  repeat still_step
  refine wpStill_nil ?_
  change wpList _ _ _ _ _ V2.drew
  have A0 : V2.drew.heap[w.heap.size]? = _ := A0
  have A1 : V2.drew.heap[w.heap.size + 1]? = _ := A1
  have B0 := B0.drew
  have fA : V2.drew.frozen? ⟨w.heap.size + 1, 2, none⟩ = false := frozen_of_row _ _ _ _ _ A1
  have cA : V2.drew.cell? ⟨w.heap.size + 1, 2, none⟩ = some (.int .i64 0) := by rw [cell_of_row _ _ _ _ _ _ A1]; rfl
  clear x0 x1 s1 s2 s3 s4 s5 q l0 l1 l2 l3 y0 y1
  generalize V2.drew = Vd at *
  go_wp2_with fail
  obtain ⟨V3, hV⟩ : ∃ V3, V3 = Vd.setCell ⟨w.heap.size + 1, 2, none⟩ (.int .i64 (wordAt bs 2 : Nat)) := ⟨_, rfl⟩
  rw [← hV]
  have A0 : V3.heap[w.heap.size]? = some (.cells #[.bool false, .bool false, .int .i64 0, .int .i64 0, .int .i64 0, .slice none 0 0] 38 (0, 0)) := by rw [hV, Below.heap_setCell _ _ _ _ (by simp)]; exact A0
  have A1 : V3.heap[w.heap.size + 1]? = some (.cells #[.int .i64 (wordAt bs 0 : Nat), .int .i64 (wordAt bs 1 : Nat), .int .i64 (wordAt bs 2 : Nat)] 103 (0, 0)) := by rw [hV]; exact heap_setCell_same Vd (w.heap.size + 1) 2 _ 103 _ A1
  have B0 : Below w.heap.size w V3 := by rw [hV]; exact B0.setCell (p := ⟨w.heap.size + 1, 2, none⟩) (by simp) _
  clear hV fA cA
  have k0 : V3.cell? ⟨w.heap.size + 1, 0, none⟩ = some (.int .i64 (wordAt bs 0 : Nat)) := by rw [cell_of_row _ _ _ _ _ _ A1]; rfl
  have k1 : V3.cell? ⟨w.heap.size + 1, 1, none⟩ = some (.int .i64 (wordAt bs 1 : Nat)) := by rw [cell_of_row _ _ _ _ _ _ A1]; rfl
  have k2 : V3.cell? ⟨w.heap.size + 1, 2, none⟩ = some (.int .i64 (wordAt bs 2 : Nat)) := by rw [cell_of_row _ _ _ _ _ _ A1]; rfl
  have w0 := wordAt_lt hb 0
  have w1 := wordAt_lt hb 1
  have w2 := wordAt_lt hb 2
  have m1 : ((wordAt bs 0 : Int) / 8192 != 0) = false := by simp; omega
  have m2 : decide ((n : Int) < (wordAt bs 2 : Int) + 7) = true := decide_eq_true (by omega)
  have t0 : V3.cell? ⟨w.heap.size, 0, none⟩ = some (.bool false) := by rw [cell_of_row _ _ _ _ _ _ A0]; rfl
  have t1 : V3.cell? ⟨w.heap.size, 1, none⟩ = some (.bool false) := by rw [cell_of_row _ _ _ _ _ _ A0]; rfl
  have t2 : V3.cell? ⟨w.heap.size, 2, none⟩ = some (.int .i64 0) := by rw [cell_of_row _ _ _ _ _ _ A0]; rfl
  have t3 : V3.cell? ⟨w.heap.size, 3, none⟩ = some (.int .i64 0) := by rw [cell_of_row _ _ _ _ _ _ A0]; rfl
  have t4 : V3.cell? ⟨w.heap.size, 4, none⟩ = some (.int .i64 0) := by rw [cell_of_row _ _ _ _ _ _ A0]; rfl
  have t5 : V3.cell? ⟨w.heap.size, 5, none⟩ = some (.slice none 0 0) := by rw [cell_of_row _ _ _ _ _ _ A0]; rfl
  have fz := frozen_row A0
  obtain ⟨f1, f2⟩ := six A0 (.bool false) (.bool false) (.int .i64 0) (.int .i64 0) (.int .i64 0) (.slice none 0 0)
  have HF1 := hid f1
  have HB := hid (B0.grown f2 (Nat.le_of_lt (row_lt A0)) (fun k e => by cases e; exact Nat.le_refl _))
  clear f1 f2
  rw [rounds_succ]
  go_wp2_with fail
  refine bodyPost_ret (results_c2 rfl _ _ w.heap.size 38 #[.bool false, .bool false, .int .i64 0, .int .i64 0, .int .i64 0, .slice none 0 0] (0, 0) _ rfl HF1.out Try.underlying38 rfl (by kernel_rfl)) rfl ?_
  exact ⟨rfl, HB.out⟩
set_option maxRecDepth 1000000 in
set_option maxHeartbeats 2000000 in
theorem decode_short (a : Option Addr) (n c : Nat) (w : World) (h6 : n < 6) :
    Calls Try.prog 35 #[.slice a n c] w fun e w' => e = .returned (.tuple #[.agg #[.bool false, .bool false, .int .i64 0, .int .i64 0, .int .i64 0, .slice none 0 0], .int .i64 0, .int .i64 7]) ∧ Below w.heap.size w w' := by
  obtain ⟨V0, hW⟩ : ∃ V0, V0 = (w.alloc (.cells #[.bool false, .bool false, .int .i64 0, .int .i64 0, .int .i64 0, .slice none 0 0] 38)).alloc (.cells #[.int .i64 0, .int .i64 0, .int .i64 0] 103) := ⟨_, rfl⟩
  have B0 : Below w.heap.size w V0 := by rw [hW]; exact (below_alloc w _).alloc (by simp) _
  have A0 : V0.heap[w.heap.size]? = some (.cells #[.bool false, .bool false, .int .i64 0, .int .i64 0, .int .i64 0, .slice none 0 0] 38 (0, 0)) := by
    rw [hW]; exact heap_alloc2_old w _ _
  have d1 : decide ((n : Int) < 6) = true := decide_eq_true (by omega)
  have d2 : decide (n < 6) = true := decide_eq_true h6
  go_enter Try.func35, Try.ntmps35
  refine wp_seq_k (fun K0 hK0 => ?_)
  go_wp2_with fail
  refine hK0.out _ _ ?_
  refine wp_seq_k (fun K1 hK1 => ?_)
  go_wp2_with fail
  refine hK1.out _ _ ?_
  rw [← hW]
  clear hW
  have t0 : V0.cell? ⟨w.heap.size, 0, none⟩ = some (.bool false) := by rw [cell_of_row _ _ _ _ _ _ A0]; rfl
  have t1 : V0.cell? ⟨w.heap.size, 1, none⟩ = some (.bool false) := by rw [cell_of_row _ _ _ _ _ _ A0]; rfl
  have t2 : V0.cell? ⟨w.heap.size, 2, none⟩ = some (.int .i64 0) := by rw [cell_of_row _ _ _ _ _ _ A0]; rfl
  have t3 : V0.cell? ⟨w.heap.size, 3, none⟩ = some (.int .i64 0) := by rw [cell_of_row _ _ _ _ _ _ A0]; rfl
  have t4 : V0.cell? ⟨w.heap.size, 4, none⟩ = some (.int .i64 0) := by rw [cell_of_row _ _ _ _ _ _ A0]; rfl
  have t5 : V0.cell? ⟨w.heap.size, 5, none⟩ = some (.slice none 0 0) := by rw [cell_of_row _ _ _ _ _ _ A0]; rfl
  have fz := frozen_row A0
  obtain ⟨f1, f2⟩ := six A0 (.bool false) (.bool false) (.int .i64 0) (.int .i64 0) (.int .i64 0) (.slice none 0 0)
  have HF1 := hid f1
  have HB := hid (B0.grown f2 (Nat.le_of_lt (row_lt A0)) (fun k e => by cases e; exact Nat.le_refl _))
  clear f1 f2
  go_wp2_with fail
  refine bodyPost_ret (results_c2 rfl _ _ w.heap.size 38 #[.bool false, .bool false, .int .i64 0, .int .i64 0, .int .i64 0, .slice none 0 0] (0, 0) _ rfl HF1.out Try.underlying38 rfl (by kernel_rfl)) rfl ?_
  exact ⟨rfl, HB.out⟩
end Go.Proofs.Ytjiipmalahhcpaa
/- frame: packets, plain; Decode of a begun packet. -/
namespace Go.Proofs.Ytjiipmalahhcpaa
set_option linter.unusedVariables false
open Go.RowKit

/-- a packet -/
structure PK where
  up : Bool
  se : Bool
  ap : Nat
  pt : Nat
  ct : Nat
  ds : List Nat
def PK.enc (p : PK) : List Nat := encB p.up p.se p.ap p.pt p.ct p.ds
structure PK.Ok (p : PK) : Prop where
  ds : AllB p.ds
  ap : p.ap ≤ 2047
  pt : p.pt ≤ 3
  ct : p.ct ≤ 16383
  lo : 0 < p.ds.length
  hi : p.ds.length ≤ 65536
theorem PK.len (p : PK) : p.enc.length = 6 + p.ds.length := enc_len _ _ _ _ _ _
theorem PK.Ok.all {p : PK} (h : p.Ok) : AllB p.enc := enc_all _ _ _ _ _ _ h.ap h.pt h.ct h.hi h.ds
def encs (l : List PK) : List Nat := l.flatMap PK.enc
theorem encs_nil : encs [] = [] := rfl
theorem encs_cons (p : PK) (l : List PK) : encs (p :: l) = p.enc ++ encs l := rfl
theorem encs_append (l m : List PK) : encs (l ++ m) = encs l ++ encs m := by unfold encs; rw [List.flatMap_append]
theorem encs_all {l : List PK} (h : ∀ p ∈ l, p.Ok) : AllB (encs l) := fun x hx => by
  obtain ⟨p, hp, hx⟩ := List.mem_flatMap.1 hx
  exact (h p hp).all x hx
/-- the begin of a packet: less than the whole of it -/
def Part (r : List Nat) : Prop := ∃ p : PK, p.Ok ∧ ∃ k, k < p.enc.length ∧ r = p.enc.take k
theorem Part.all {r : List Nat} (h : Part r) : AllB r := by
  obtain ⟨p, h1, k, _, rfl⟩ := h
  exact h1.all.take k
theorem Part.len {r : List Nat} (h : Part r) : r.length ≤ 65541 := by
  obtain ⟨p, h1, k, h2, rfl⟩ := h
  rw [List.length_take]
  rw [p.len] at h2
  have := h1.hi
  omega
theorem nth_take2 {l : List Nat} {k j : Nat} (h : j < k) : nth (l.take k) j = nth l j := by
  unfold nth
  rw [List.getD_eq_getElem?_getD, List.getD_eq_getElem?_getD, List.getElem?_take, if_pos h]
theorem word_take {l : List Nat} {k j : Nat} (h : 2 * j + 1 < k) : wordAt (l.take k) j = wordAt l j := by
  unfold wordAt
  rw [nth_take2 (by omega), nth_take2 h]
theorem decode_part (a : Option Addr) (n c : Nat) (r : List Nat) (w : World) (hr : Rd w a n c (vb r)) (hp : Part r) :
    Calls Try.prog 35 #[.slice a n c] w fun e w' => e = .returned (.tuple #[.agg #[.bool false, .bool false, .int .i64 0, .int .i64 0, .int .i64 0, .slice none 0 0], .int .i64 0, .int .i64 7]) ∧ Below w.heap.size w w' := by
  have hrl : r.length = n := by have := hr.len; rwa [vb_len] at this
  by_cases h6 : n < 6
  · exact decode_short a n c w h6
  · have hall := hp.all
    obtain ⟨p, hok, k, hk, rfl⟩ := hp
    rw [List.length_take] at hrl
    have hkn : k = n := by omega
    subst hkn
    obtain ⟨e0, e1, e2⟩ := enc_words p.up p.se p.ap p.pt p.ct p.ds []
    rw [List.append_nil] at e0 e1 e2
    refine decode_more a k c _ w hr hall (by omega) ?_ ?_
    · rw [word_take (by omega)]
      show wordAt (encB _ _ _ _ _ _) 0 < _
      rw [e0]
      exact firstOf_lt _ _ _ hok.ap
    · rw [word_take (by omega)]
      show k < wordAt (encB _ _ _ _ _ _) 2 + 7
      rw [e2]
      rw [p.len] at hk
      have := hok.lo
      omega
/-- a packet in memory -/
abbrev PB := (Option Addr × Nat × Nat) × PK
def pcl (r : PB) : List Value := [.bool r.2.up, .bool r.2.se, .int .i64 (r.2.ap : Int), .int .i64 (r.2.pt : Int), .int .i64 (r.2.ct : Int), .slice r.1.1 r.1.2.1 r.1.2.2]
theorem pcl_len (r : PB) : (pcl r).length = 6 := rfl
theorem pcl_one (r : PB) : ∀ u ∈ pcl r, u.oneCell' = true := by
  intro u hu
  simp only [pcl, List.mem_cons, List.not_mem_nil, or_false] at hu
  rcases hu with rfl | rfl | rfl | rfl | rfl | rfl <;> rfl
theorem fm_one (L : List PB) : ∀ u ∈ L.flatMap pcl, u.oneCell' = true := by
  intro u hu
  obtain ⟨r, _, hu⟩ := List.mem_flatMap.1 hu
  exact pcl_one r u hu
theorem fm_len (L : List PB) : (L.flatMap pcl).length = L.length * 6 := by
  induction L with
  | nil => rfl
  | cons r L ih =>
    rw [List.flatMap_cons, List.length_append, ih, pcl_len, List.length_cons]
    omega
end Go.Proofs.Ytjiipmalahhcpaa
