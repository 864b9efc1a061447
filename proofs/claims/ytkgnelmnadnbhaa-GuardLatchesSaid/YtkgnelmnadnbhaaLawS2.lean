/- GuardLatches: the law makes its guard: the walk. -/
import Derived.Test.YtkgnelmnadnbhaaLawS
import Derived.Test.YtkgnelmnadnbhaaAppend
namespace Go.Proofs.Ytkgnelmnadnbhaa
set_option linter.unusedVariables false
open Go.RowKit

set_option maxRecDepth 1000000 in
set_option maxHeartbeats 1000000 in
theorem law_4 (w0 W0 : World) (H sil most win : Nat) (zs : List Int) (fa : Option Addr) (fn fc : Nat) (aL : Option Addr) (nL cL : Nat) (hb : Below w0.heap.size w0 W0) (hH : w0.heap.size ≤ H)
    (hr : W0.heap[H]? = some (.cells #[.slice none 0 0, .int .i64 (sil : Int), .int .i64 (most : Int), .int .i64 (win : Int), .string ⟨#[115, 97, 102, 101]⟩] 27)) :
    Tri Try.prog 332 (pieceOf Try.f3 [1, 1, 1, 0]) (fun y w => y 0 = .slice fa fn fc ∧ y 4 = .slice aL nL cL ∧ y 11 = .pointer (some ⟨H, 0, none⟩) ∧ w = W0)
      (fun _ _ y w => y 0 = .slice fa fn fc ∧ y 4 = .slice aL nL cL ∧ y 11 = .pointer (some ⟨H, 0, none⟩) ∧ ∃ g cap, GB w0 w H sil most win zs 0 g cap) := by
  rintro Q y w ⟨s0, s4, s11, rfl⟩ hQ
  have HQ := hid hQ
  obtain ⟨i29, hi29, hz29, hs29, hb29⟩ := info_parts Try.info29
  have c0 : w.cell? ⟨H, 0, none⟩ = some (.slice none 0 0) := by rw [cell_of_row _ _ _ _ _ _ hr]; rfl
  have b1 := below_alloc w (.cells (mc mon0).toArray 29)
  have hnew := new_cells w (mc mon0) 29
  have r1 := hid (row_below hr b1)
  have B1 := hid (hb.trans (b1.mono hb.size))
  clear hQ hr b1
  conv => arg 2; whnf
  rw [fr332]
  simp only [s0, s4, s11]
  clear s0 s4 s11
  go_wp2_with (at_builtin; refine hold ?_)
  unfold Hid
  refine wpList_append_own _ rfl _ _ 25 rfl w0.heap.size 29 i29 _ 6 56 Try.underlying25 hi29 hz29 hs29 hb29 rfl (by decide) (.slice none 0 0) 0 [] rfl (World.ownsRow_nil _ _ _ _) ⟨w.heap.size, 0, none⟩ 1 1 (mc mon0) rfl rfl hnew (mc_one _) (by unfold maxLen; omega) (by omega) B1.out.size ?_
  intro v' W2 o2 g2 _
  obtain ⟨va, vc, rfl, _, _⟩ := own_slice o2
  obtain ⟨g, rfl⟩ := own_addr o2 (by omega)
  have g2' : (w.alloc (.cells (mc mon0).toArray 29)).grownBy W2 none := g2
  have r2 : W2.heap[H]? = _ := (g2'.block H (row_lt r1.out) (fun e => by cases e)).trans r1.out
  have B2 := B1.out.grown g2' B1.out.size (fun k e => by cases e)
  obtain ⟨q1, q2⟩ := set_row (cs' := #[.slice (some ⟨g, 0, none⟩) (0 + 1) vc, .int .i64 (sil : Int), .int .i64 (most : Int), .int .i64 (win : Int), .string ⟨#[115, 97, 102, 101]⟩]) r2 0 (.slice (some ⟨g, 0, none⟩) (0 + 1) vc) rfl
  have hfin : Hid (GB w0 (W2.setCell ⟨H, 0, none⟩ (.slice (some ⟨g, 0, none⟩) (0 + 1) vc)) H sil most win zs 0 g vc) := ⟨B2.grown q2 B2.size (fun k e => by cases e; exact hH), hH, q1, o2.kept q2 (own_ne o2 r2 (by decide))⟩
  have c2 : W2.cell? ⟨H, 0, none⟩ = some (.slice none 0 0) := by rw [cell_of_row _ _ _ _ _ _ r2]; rfl
  have f2 : W2.frozen? ⟨H, 0, none⟩ = false := frozen_row r2 0
  clear q1 q2 r2 B2 g2 g2' o2
  go_wp2_with fail
  exact q_fr (N := 332) HQ.out rfl ⟨rfl, rfl, rfl, g, vc, hfin.out⟩
theorem GB.below {w0 W W' : World} {H sil most win : Nat} {zs : List Int} {j g cap : Nat} (h : GB w0 W H sil most win zs j g cap) (hb : Below W.heap.size W W') : GB w0 W' H sil most win zs j g cap :=
  ⟨h.blw.trans (hb.mono h.blw.size), h.bH, row_below h.row hb, ownsRow_below h.own hb⟩
def KH (B H : Nat) (u u' : World) : Prop := Below B u u' ∧ u'.heap[H]? = u.heap[H]?
theorem KH.refl (B H : Nat) (u : World) : KH B H u u := ⟨Below.refl _ _, rfl⟩
theorem KH.trans {B H : Nat} {a b c : World} (h : KH B H a b) (k : KH B H b c) : KH B H a c := ⟨h.1.trans k.1, k.2.trans h.2⟩
set_option maxRecDepth 1000000 in
set_option maxHeartbeats 1000000 in
theorem law_8 (w0 W0 : World) (H sil most win g cap j : Nat) (zs : List Int) (hz : ∀ z ∈ zs, I64 z) (fa : Option Addr) (fn fc : Nat) (hf : Rd w0 fa fn fc (vz zs)) (aL : Option Addr) (nL cL : Nat) (hj : j < fn) (h8 : j < 8) (hG : GB w0 W0 H sil most win zs j g cap) :
    Tri Try.prog 332 (pieceOf Try.f3 [1, 1, 1, 1, 0, 1, 0, 0, 1, 0, 0]) (fun y w => SF y fa fn fc aL nL cL H j ∧ w = W0)
      (fun _ _ y w => SF y fa fn fc aL nL cL H j ∧ ∃ g' cap', GB w0 w H sil most win zs (j + 1) g' cap') := by
  rintro Q y w ⟨⟨s0, s4, s11, s12⟩, rfl⟩ hQ
  have HQ := hid hQ
  obtain ⟨i29, hi29, hz29, hs29, hb29⟩ := info_parts Try.info29
  obtain ⟨fb, fo, rfl, hfb, hfc⟩ := hf.cellz j hj
  have HG := hid hG
  have hBw := hG.blw.size
  have hHw := row_lt hG.row
  have hgw := (hG.own.lt g rfl).2
  have hgB := (hG.own.lt g rfl).1
  have hHB := hG.bH
  have hfm : fn ≤ maxLen := Nat.le_trans hf.le hf.max
  unfold maxLen at hfm
  obtain ⟨B, hB⟩ : ∃ B, B = w0.heap.size := ⟨_, rfl⟩
  have HB := hid hB
  have e0 : ∀ w', KH B H w.drew w' → w'.cell? ⟨H, 0, none⟩ = some (.slice (some ⟨g, 0, none⟩) (j + 1) cap) := fun w' h => by rw [cell_of_row _ _ _ _ _ _ (h.2.trans HG.out.row)]; rfl
  have e1 : ∀ w', KH B H w.drew w' → w'.cell? ⟨fb, fo + j, none⟩ = some (.int .i64 (zs.getD j 0)) := fun w' h => ((((hG.blw.trans ((Below.refl _ w).drew)).trans (by have := h.1; rw [HB.out] at this; exact this)).cell (p := ⟨fb, fo + j, none⟩) hfb)).trans hfc
  obtain ⟨z1, z2⟩ := getD_i64 hz j
  have hd : Hid (w.drew.heap.size = w.heap.size) := rfl
  have hp6 := pk_lt (zs.getD j 0) 6 (by decide)
  have hp3 := pk_lt ((zs.getD j 0).tdiv 7) 3 (by decide)
  have hmo : Hid (monI zs j = ⟨j % 3, 1 + pk (zs.getD j 0) 6, 1 + pk ((zs.getD j 0).tdiv 7) 3, ⟨#[109]⟩ ++ strB [48 + j]⟩) := rfl
  have hGd := hid (hG.below (Below.refl w.heap.size w).drew)
  have t3 : ((j : Int)).tmod 3 = ((j % 3 : Nat) : Int) := by rw [Int.tmod_eq_emod_of_nonneg (by omega)]; omega
  have j3 : Hid (j % 3 < 3) := Nat.mod_lt _ (by decide)
  generalize j % 3 = m3 at *
  generalize hmj : monI zs j = mj at *
  have HMj := hid hmj
  clear hmj
  generalize zs.getD j 0 = x at *
  have q7 : IntKind.i64.wrap (x.tdiv 7) = x.tdiv 7 := by
    have h1 : -9223372036854775808 ≤ x.tdiv 7 ∧ x.tdiv 7 ≤ 9223372036854775807 := by
      rcases Int.le_total 0 x with h | h
      · rw [Int.tdiv_eq_ediv_of_nonneg h]; omega
      · have : x.tdiv 7 = -((-x).tdiv 7) := by rw [Int.neg_tdiv, Int.neg_neg]
        rw [this, Int.tdiv_eq_ediv_of_nonneg (by omega)]
        omega
    exact IntWalk.i64_in _ (by omega)
  have x7 : -9223372036854775808 ≤ x.tdiv 7 ∧ x.tdiv 7 ≤ 9223372036854775807 := by
    rcases Int.le_total 0 x with h | h
    · rw [Int.tdiv_eq_ediv_of_nonneg h]; omega
    · have : x.tdiv 7 = -((-x).tdiv 7) := by rw [Int.neg_tdiv, Int.neg_neg]
      rw [this, Int.tdiv_eq_ediv_of_nonneg (by omega)]
      omega
  have hpA := fun W => pick_st x 6 W z1 z2 (by decide) (by decide)
  have hpB := fun W => pick_st (x.tdiv 7) 3 W x7.1 x7.2 (by decide) (by decide)
  rw [show (6 : Int).toNat = 6 from rfl] at hpA
  rw [show (3 : Int).toNat = 3 from rfl] at hpB
  have e7 : ∃ x_7, x.tdiv 7 = x_7 := ⟨_, rfl⟩
  obtain ⟨x_7, e7⟩ := e7
  rw [e7] at hpB q7 x7 hmo hp3
  generalize pk x 6 = p6 at *
  generalize pk x_7 3 = p3 at *
  have a6 : IntKind.i64.wrap (1 + (p6 : Int)) = ((1 + p6 : Nat) : Int) := by rw [IntWalk.i64_in _ (by omega)]; omega
  have a3 : IntKind.i64.wrap (1 + (p3 : Int)) = ((1 + p3 : Nat) : Int) := by rw [IntWalk.i64_in _ (by omega)]; omega
  generalize 1 + p6 = f6 at *
  generalize 1 + p3 = f3 at *
  clear hQ hG hfc hf hB x7 z1 z2 hp3
  conv => arg 2; whnf
  rw [fr332]
  simp only [s0, s4, s11, s12]
  clear s0 s4 s11 s12
  refine wp_region_can 24 [8, 15, 18, 21, 22] [0, 1, 2, 3, 4, 5, 6, 7, 10, 11, 12, 13, 14, 17, 8, 9, 15, 16, 18, 19, 20, 21, 22, 23] (KH B H) (KH.refl B H) (fun _ _ _ h k => h.trans k) (by kernel_rfl) (by kernel_rfl) ?_
  simp only [List.map_cons, List.map_nil, List.contains_cons, List.contains_nil, List.getD_cons_zero, List.getD_cons_succ, Nat.reduceBEq, Bool.or_false, Bool.or_true, List.drop_succ_cons, List.drop_zero]
  generalize w.drew = U at *
  repeat (refine wpL_do rfl (fun w' hw' => (by go_simp; rfl)) ?_; simp only [Act.put, List.setIfInBounds_toArray, List.set_cons_succ, List.set_cons_zero])
  refine wpL_call rfl (fun K hK => ?_)
  go_wp2_with fail
  refine (hpA _).mono ?_
  rintro e w' ⟨rfl, hw'⟩
  rw [hw']
  clear hw' w'
  refine hK _ _ (KH.refl _ _ _) ?_
  clear hK K
  try simp only [Act.put, List.setIfInBounds_toArray, List.set_cons_succ, List.set_cons_zero]
  refine wpL_do rfl (fun w' hw' => (by go_simp; rfl)) ?_; simp only [Act.put, List.setIfInBounds_toArray, List.set_cons_succ, List.set_cons_zero]
  refine wpL_call rfl (fun K hK => ?_)
  go_wp2_with fail
  refine (hpB _).mono ?_
  rintro e w' ⟨rfl, hw'⟩
  rw [hw']
  clear hw' w'
  refine hK _ _ (KH.refl _ _ _) ?_
  clear hK K
  try simp only [Act.put, List.setIfInBounds_toArray, List.set_cons_succ, List.set_cons_zero]
  refine wpL_do rfl (fun w' hw' => (by go_simp; rfl)) ?_; simp only [Act.put, List.setIfInBounds_toArray, List.set_cons_succ, List.set_cons_zero]
  refine wpL_call rfl (fun K hK => ?_)
  go_wp2_with fail
  refine (figures_ok j (by omega) _).mono ?_
  rintro e W1 ⟨rfl, b1⟩
  refine hK _ _ ⟨b1.mono (by rw [HB.out, hd.out]; exact hBw), b1.block H (by rw [hd.out]; exact hHw)⟩ ?_
  clear hK K
  try simp only [Act.put, List.setIfInBounds_toArray, List.set_cons_succ, List.set_cons_zero]
  have hG1 := hid (hGd.out.below b1)
  have hs1 := hid b1.size
  clear b1 e0 e1
  refine wpL_do rfl (fun w' hw' => (by go_simp; rfl)) ?_; simp only [Act.put, List.setIfInBounds_toArray, List.set_cons_succ, List.set_cons_zero]
  refine wpL_do rfl (fun w' hw' => (by go_simp; rfl)) ?_; simp only [Act.put, List.setIfInBounds_toArray, List.set_cons_succ, List.set_cons_zero]
  refine wpL_call rfl (fun K hK => ?_)
  go_wp2_with fail
  have b2 := below_alloc W1 (.cells #[.int .i64 (m3 : Int), .int .i64 0, .int .i64 9, .int .i64 (f6 : Int), .int .i64 (f3 : Int), .string (⟨#[109]⟩ ++ strB [48 + j])] 29)
  have hnew := new_cells W1 (mc ⟨m3, f6, f3, ⟨#[109]⟩ ++ strB [48 + j]⟩) 29
  have hB1 : B ≤ W1.heap.size := by have := HB.out; have := hd.out; have := hs1.out; omega
  refine hK _ _ ⟨b2.mono hB1, b2.block H (by have := hd.out; have := hs1.out; omega)⟩ ?_
  clear hK K
  try simp only [Act.put, List.setIfInBounds_toArray, List.set_cons_succ, List.set_cons_zero]
  have hG2 := hid (hG1.out.below b2)
  have hnew : ∀ (k : Nat) (x : Value), (mc mj)[k]? = some x → (W1.alloc (.cells #[.int .i64 (m3 : Int), .int .i64 0, .int .i64 9, .int .i64 (f6 : Int), .int .i64 (f3 : Int), .string (⟨#[109]⟩ ++ strB [48 + j])] 29)).cell? ((⟨W1.heap.size, 0, none⟩ : Addr).add k) = some x := by rw [hmo.out]; exact hnew
  have hs2 := hid b2.size
  clear b2
  obtain ⟨N1, hN1⟩ : ∃ N1, N1 = W1.heap.size := ⟨_, rfl⟩
  rw [← hN1] at hnew ⊢
  have HN1 := hid hN1
  clear hN1
  generalize W1.alloc (.cells #[.int .i64 (m3 : Int), .int .i64 0, .int .i64 9, .int .i64 (f6 : Int), .int .i64 (f3 : Int), .string (⟨#[109]⟩ ++ strB [48 + j])] 29) = W2 at *
  refine wpL_call rfl (fun K hK => ?_)
  refine wp_append_wide_at (.tmp 63) (.tmp 83) 25 rfl w0.heap.size 29 i29 _ 6 56 Try.underlying25 hi29 hz29 hs29 hb29 rfl (by decide) (.slice (some ⟨g, 0, none⟩) (j + 1) cap) (j + 1) ((monsTo zs j).flatMap mc) rfl hG2.out.own ⟨N1, 0, none⟩ 1 1 (mc mj) rfl rfl hnew (mc_one _) (by unfold maxLen; omega) (by omega) hG2.out.blw.size ?_
  intro v' W3 o3 g3 _
  obtain ⟨va, vc, rfl, _, _⟩ := own_slice o3
  obtain ⟨g', rfl⟩ := own_addr o3 (by omega)
  have g3' : W2.grownBy W3 (some g) := g3
  have r3 := row_kept hG2.out.row hG2.out.own g3' (by decide)
  refine hK _ _ ⟨(Below.refl _ _).grown g3' (by have := hs2.out; omega) (fun k e => by cases e; rw [HB.out]; exact hgB), r3.trans hG2.out.row.symm⟩ ?_
  clear hK K
  try simp only [Act.put, List.setIfInBounds_toArray, List.set_cons_succ, List.set_cons_zero]
  have hfin := hid (GB.step hG2.out g3' (by rw [show monI zs j = mj from HMj.out]; exact o3))
  have R3 := hid r3
  clear g3 g3' o3 r3 hnew
  refine wpL_do rfl (fun w' hw' => (by go_simp; rfl)) ?_; simp only [Act.put, List.setIfInBounds_toArray, List.set_cons_succ, List.set_cons_zero]
  refine wpL_nil ?_
  have c3 : W3.cell? ⟨H, 0, none⟩ = some (.slice (some ⟨g, 0, none⟩) (j + 1) cap) := by rw [cell_of_row _ _ _ _ _ _ R3.out]; rfl
  have fz : W3.frozen? ⟨H, 0, none⟩ = false := frozen_row R3.out 0
  go_wp2_with fail
  refine only_on ?_
  exact q_fr (N := 332) HQ.out rfl ⟨⟨rfl, rfl, rfl, rfl⟩, g', vc, hfin.out⟩
end Go.Proofs.Ytkgnelmnadnbhaa
