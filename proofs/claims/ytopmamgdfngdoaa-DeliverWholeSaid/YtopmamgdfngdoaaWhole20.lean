/- deliver: a note comes to a taker at work (printed by gentk1.py). -/
import Derived.Test.YtopmamgdfngdoaaWhole19
import Derived.RangeFuncNested
import Derived.RangeFuncBound
import Derived.RangeFuncCalls
import Derived.RangeFuncLeaves
import Derived.RangeFuncBox
import Derived.WalkKit
import Derived.Below
namespace Go.Proofs.Ytopmamgdfngdoaa
set_option linter.unusedVariables false
open Go.RowKit

set_option maxRecDepth 1000000 in
set_option maxHeartbeats 8000000 in
theorem tak_nm (D : DP) (hD : DOk D) (hSum : SumOk D) (X B N : Nat) (t : TS) (A : TA) (w0 w : World) (hB : B ≤ X) (hB0 : w0.heap.size = B) (hbw : Below B w0 w) (hN0 : w0.heap[N]? = some (.cells #[.int .i64 1, .int .i64 7, .string logS, .int .i64 (D.P.F : Int), .int .i64 0, .int .i64 0, .slice none 0 0, .slice none 0 0, .int .i64 0, .int .i64 0] 60)) (h : TW D w X B t A []) (hoa : A.oa = none) (hT : TI D.P t) :
    Calls Try.prog 29 #[.pointer (some ⟨X, 0, none⟩), .pointer (some ⟨N, 0, none⟩)] w fun e w' => TwR D w w' X B (takeT D.P t (.nm)).1 (takeT D.P t (.nm)).2 e [] (.int .i64 0) := by
  have hF := hD.P.F
  have hNw : ∀ W : World, Below B w0 W → W.heap[N]? = some (.cells #[.int .i64 1, .int .i64 7, .string logS, .int .i64 (D.P.F : Int), .int .i64 0, .int .i64 0, .slice none 0 0, .slice none 0 0, .int .i64 0, .int .i64 0] 60) := fun W hb => row_below hN0 (by rw [hB0]; exact hb)
  have HNW := hid hNw
  have AN := hNw w hbw
  have hmy := hid (may_nm logS D.P.F w (by rw [log_len]; omega) (by omega))
  have H := hid h
  have HBW := hid hbw
  have HR := hid hT.ris
  have HT := hid hT.top
  have hss := hT.st
  clear h hbw hN0 hNw hT
  have n0 : w.cell? ⟨N, 0, none⟩ = some (.int .i64 1) := by rw [cell_of_row _ _ _ _ _ _ AN]; rfl
  go_enter Try.func29, Try.ntmps29
  refine wp_seq_k (fun K0 hK0 => ?_)
  go_wp2_with fail
  refine hK0.out _ _ ?_
  refine wp_seq_k (fun K1 hK1 => ?_)
  go_wp2_with fail
  refine hK1.out _ _ ?_
  clear n0
  refine wp_seq_k (fun K2 hK2 => ?_)
  refine wp_block ?_
  refine wp_seq_k (fun K3 hK3 => ?_)
  go_wp2_with (with_reducible refine wpList_load_row (o := ⟨some 9, _, _, _, _, _⟩) rfl 60 _ rfl N rfl 60 _ _ _ AN Try.underlying60 rfl (by kernel_rfl) ?_)
  refine hmy.out.mono ?_
  rintro e V ⟨rfl, hb⟩
  have H1 := hid (H.out.below hb)
  have S1 := hid ((TwS.refl w B).below (H.out.lt hB) hb)
  clear hb hmy H AN
  go_wp2_with fail
  refine hK3.out _ _ ?_
  refine wp_cond_false rfl ?_
  refine wp_seq_k (fun K4 hK4 => ?_)
  refine wp_region_can_all [] [0, 1, 2, 3, 4, 5, 6, 7, 8] (fun u u' => u' = u) (fun _ => rfl) (fun _ _ _ h k => k.trans h) (by kernel_rfl) (by kernel_rfl) ?_
  simp only [List.map_cons, List.map_nil, List.contains_nil, List.getD_cons_zero, List.getD_cons_succ]
  have hdr := (Below.refl V.heap.size V).drew
  have H2 := hid (H1.out.below hdr)
  have S2 := hid (S1.out.below (H1.out.lt hB) hdr)
  clear hdr H1 S1
  generalize V.drew = U at *
  have AN := HNW.out U (HBW.out.trans S2.out.blw)
  have n0 : U.cell? ⟨N, 0, none⟩ = some (.int .i64 1) := by rw [cell_of_row _ _ _ _ _ _ AN]; rfl
  have n1 : U.cell? ⟨N, 1, none⟩ = some (.int .i64 7) := by rw [cell_of_row _ _ _ _ _ _ AN]; rfl
  have n8 : U.cell? ⟨N, 8, none⟩ = some (.int .i64 0) := by rw [cell_of_row _ _ _ _ _ _ AN]; rfl
  have x0 : U.cell? ⟨X, 0, none⟩ = some (.int .i64 7) := by rw [cell_of_row _ _ _ _ _ _ H2.out.bx]; rfl
  have x9 : U.cell? ⟨X, 9, none⟩ = some (.int .i64 (t.st : Int)) := by rw [cell_of_row _ _ _ _ _ _ H2.out.bx]; rfl
  iterate 9 (refine wpL_do rfl (fun w' hw' => (by cases hw'; go_simp; rfl)) ?_; simp only [Act.put, List.setIfInBounds_toArray, List.set_cons_succ, List.set_cons_zero])
  refine wpL_nil ?_
  refine hK4.out _ _ ?_
  refine wp_cond_false rfl ?_
  clear n1 x0
  refine wp_seq_k (fun K5 hK5 => ?_)
  go_wp2_with fail
  refine hK5.out _ _ ?_
  refine wp_cond_false rfl ?_
  refine wp_seq_k (fun K6 hK6 => ?_)
  rcases hss with h0 | h3
  · rw [h0] at x9
    go_wp2_with fail
    refine hK6.out _ _ ?_
    refine wp_cond_true rfl ?_
    clear x9 n0 n8
    have hgo := hid (going_nm D hD hSum X B t A U hB h0 HR.out HT.out H2.out hoa)
    try unfold emS at hgo
    go_wp2_with (with_reducible refine wpList_load_row (o := ⟨some 38, _, _, _, _, _⟩) rfl 60 _ rfl N rfl 60 _ _ _ AN Try.underlying60 rfl (by kernel_rfl) ?_)
    refine hgo.out.mono ?_
    rintro e W ⟨rfl, ⟨A', vs, e1, e2⟩, e3⟩
    have E1 := hid e1
    have E2 := hid e2
    have E3 := hid (S2.out.trans e3)
    clear e1 e2 e3 hgo AN
    go_wp2_with fail
    refine hK2.out _ _ ?_
    go_wp2_with fail
    go_ret
    exact ⟨rfl, ⟨A', vs, E1.out, E2.out⟩, E3.out⟩
  · rw [h3] at x9
    go_wp2_with fail
    refine hK6.out _ _ ?_
    refine wp_cond_false rfl ?_
    refine wp_seq_k (fun K7 hK7 => ?_)
    go_wp2_with fail
    refine hK7.out _ _ ?_
    refine wp_cond_false rfl ?_
    refine wp_seq_k (fun K8 hK8 => ?_)
    go_wp2_with fail
    refine hK8.out _ _ ?_
    refine wp_cond_false rfl ?_
    refine wp_seq_k (fun K9 hK9 => ?_)
    go_wp2_with fail
    refine hK9.out _ _ ?_
    refine wp_cond_false rfl ?_
    clear x9 n0 n8 AN
    have Ew : Hid (takeT D.P t (.nm) = (t, [])) := hid (by unfold takeT; rw [if_neg (fun h => by omega)])
    go_wp2_with fail
    refine hK2.out _ _ ?_
    go_wp2_with fail
    go_ret
    rw [Ew.out]
    exact ⟨rfl, ⟨A, [], H2.out, rfl⟩, S2.out⟩

set_option maxRecDepth 1000000 in
set_option maxHeartbeats 8000000 in
theorem tak_np (D : DP) (hD : DOk D) (hSum : SumOk D) (X B N : Nat) (t : TS) (A : TA) (x y dn dc : Nat) (da : Option Addr) (w0 w : World) (hB : B ≤ X) (hB0 : w0.heap.size = B) (hbw : Below B w0 w) (hN0 : w0.heap[N]? = some (.cells #[.int .i64 2, .int .i64 7, .string { data := #[] }, .int .i64 0, .int .i64 0, .int .i64 (x : Int), .slice da dn dc, .slice none 0 0, .int .i64 0, .int .i64 0] 60)) (h : TW D w X B t A []) (hoa : A.oa = none) (hT : TI D.P t) (hdn : dn = y - x) (hxy : x < y) (hy : y ≤ D.P.F) (hda : RdT 5 w0 da (y - x) dc (vb (sub D.fl x y))) :
    Calls Try.prog 29 #[.pointer (some ⟨X, 0, none⟩), .pointer (some ⟨N, 0, none⟩)] w fun e w' => TwR D w w' X B (takeT D.P t (.np x y)).1 (takeT D.P t (.np x y)).2 e [] (.int .i64 0) := by
  have hF := hD.P.F
  have hNw : ∀ W : World, Below B w0 W → W.heap[N]? = some (.cells #[.int .i64 2, .int .i64 7, .string { data := #[] }, .int .i64 0, .int .i64 0, .int .i64 (x : Int), .slice da dn dc, .slice none 0 0, .int .i64 0, .int .i64 0] 60) := fun W hb => row_below hN0 (by rw [hB0]; exact hb)
  have HNW := hid hNw
  have AN := hNw w hbw
  have hmy := hid (may_np x da dn dc w (by omega) (by omega))
  have H := hid h
  have HBW := hid hbw
  have HR := hid hT.ris
  have HT := hid hT.top
  have hss := hT.st
  have HDn := hid hdn
  have HDa := hid hda
  clear hdn hda
  clear h hbw hN0 hNw hT
  have n0 : w.cell? ⟨N, 0, none⟩ = some (.int .i64 2) := by rw [cell_of_row _ _ _ _ _ _ AN]; rfl
  go_enter Try.func29, Try.ntmps29
  refine wp_seq_k (fun K0 hK0 => ?_)
  go_wp2_with fail
  refine hK0.out _ _ ?_
  refine wp_seq_k (fun K1 hK1 => ?_)
  go_wp2_with fail
  refine hK1.out _ _ ?_
  clear n0
  refine wp_seq_k (fun K2 hK2 => ?_)
  refine wp_block ?_
  refine wp_seq_k (fun K3 hK3 => ?_)
  go_wp2_with (with_reducible refine wpList_load_row (o := ⟨some 9, _, _, _, _, _⟩) rfl 60 _ rfl N rfl 60 _ _ _ AN Try.underlying60 rfl (by kernel_rfl) ?_)
  refine hmy.out.mono ?_
  rintro e V ⟨rfl, hb⟩
  have H1 := hid (H.out.below hb)
  have S1 := hid ((TwS.refl w B).below (H.out.lt hB) hb)
  clear hb hmy H AN
  go_wp2_with fail
  refine hK3.out _ _ ?_
  refine wp_cond_false rfl ?_
  refine wp_seq_k (fun K4 hK4 => ?_)
  refine wp_region_can_all [] [0, 1, 2, 3, 4, 5, 6, 7, 8] (fun u u' => u' = u) (fun _ => rfl) (fun _ _ _ h k => k.trans h) (by kernel_rfl) (by kernel_rfl) ?_
  simp only [List.map_cons, List.map_nil, List.contains_nil, List.getD_cons_zero, List.getD_cons_succ]
  have hdr := (Below.refl V.heap.size V).drew
  have H2 := hid (H1.out.below hdr)
  have S2 := hid (S1.out.below (H1.out.lt hB) hdr)
  clear hdr H1 S1
  generalize V.drew = U at *
  have AN := HNW.out U (HBW.out.trans S2.out.blw)
  have n0 : U.cell? ⟨N, 0, none⟩ = some (.int .i64 2) := by rw [cell_of_row _ _ _ _ _ _ AN]; rfl
  have n1 : U.cell? ⟨N, 1, none⟩ = some (.int .i64 7) := by rw [cell_of_row _ _ _ _ _ _ AN]; rfl
  have n8 : U.cell? ⟨N, 8, none⟩ = some (.int .i64 0) := by rw [cell_of_row _ _ _ _ _ _ AN]; rfl
  have x0 : U.cell? ⟨X, 0, none⟩ = some (.int .i64 7) := by rw [cell_of_row _ _ _ _ _ _ H2.out.bx]; rfl
  have x9 : U.cell? ⟨X, 9, none⟩ = some (.int .i64 (t.st : Int)) := by rw [cell_of_row _ _ _ _ _ _ H2.out.bx]; rfl
  iterate 9 (refine wpL_do rfl (fun w' hw' => (by cases hw'; go_simp; rfl)) ?_; simp only [Act.put, List.setIfInBounds_toArray, List.set_cons_succ, List.set_cons_zero])
  refine wpL_nil ?_
  refine hK4.out _ _ ?_
  refine wp_cond_false rfl ?_
  clear n1 x0
  refine wp_seq_k (fun K5 hK5 => ?_)
  go_wp2_with fail
  refine hK5.out _ _ ?_
  refine wp_cond_false rfl ?_
  refine wp_seq_k (fun K6 hK6 => ?_)
  rcases hss with h0 | h3
  · rw [h0] at x9
    go_wp2_with fail
    refine hK6.out _ _ ?_
    refine wp_cond_true rfl ?_
    clear x9 n0 n8
    have hgo := hid (going_np D hD hSum X B t A U hB h0 HR.out HT.out H2.out hoa x y dn dc da HDn.out hxy hy (HDa.out.below (by rw [hB0]; exact HBW.out.trans S2.out.blw)))
    try unfold emS at hgo
    go_wp2_with (with_reducible refine wpList_load_row (o := ⟨some 38, _, _, _, _, _⟩) rfl 60 _ rfl N rfl 60 _ _ _ AN Try.underlying60 rfl (by kernel_rfl) ?_)
    refine hgo.out.mono ?_
    rintro e W ⟨rfl, ⟨A', vs, e1, e2⟩, e3⟩
    have E1 := hid e1
    have E2 := hid e2
    have E3 := hid (S2.out.trans e3)
    clear e1 e2 e3 hgo AN
    go_wp2_with fail
    refine hK2.out _ _ ?_
    go_wp2_with fail
    go_ret
    exact ⟨rfl, ⟨A', vs, E1.out, E2.out⟩, E3.out⟩
  · rw [h3] at x9
    go_wp2_with fail
    refine hK6.out _ _ ?_
    refine wp_cond_false rfl ?_
    refine wp_seq_k (fun K7 hK7 => ?_)
    go_wp2_with fail
    refine hK7.out _ _ ?_
    refine wp_cond_false rfl ?_
    refine wp_seq_k (fun K8 hK8 => ?_)
    go_wp2_with fail
    refine hK8.out _ _ ?_
    refine wp_cond_false rfl ?_
    refine wp_seq_k (fun K9 hK9 => ?_)
    go_wp2_with fail
    refine hK9.out _ _ ?_
    refine wp_cond_false rfl ?_
    clear x9 n0 n8 AN
    have Ew : Hid (takeT D.P t (.np x y) = (t, [])) := hid (by unfold takeT; rw [if_neg (fun h => by omega)])
    go_wp2_with fail
    refine hK2.out _ _ ?_
    go_wp2_with fail
    go_ret
    rw [Ew.out]
    exact ⟨rfl, ⟨A, [], H2.out, rfl⟩, S2.out⟩

set_option maxRecDepth 1000000 in
set_option maxHeartbeats 8000000 in
theorem tak_ne (D : DP) (hD : DOk D) (hSum : SumOk D) (X B N : Nat) (t : TS) (A : TA) (w0 w : World) (hB : B ≤ X) (hB0 : w0.heap.size = B) (hbw : Below B w0 w) (hN0 : w0.heap[N]? = some (.cells #[.int .i64 3, .int .i64 7, .string { data := #[] }, .int .i64 (D.P.F : Int), .int .i64 (D.s : Int), .int .i64 0, .slice none 0 0, .slice none 0 0, .int .i64 0, .int .i64 0] 60)) (h : TW D w X B t A []) (hoa : A.oa = none) (hT : TI D.P t) :
    Calls Try.prog 29 #[.pointer (some ⟨X, 0, none⟩), .pointer (some ⟨N, 0, none⟩)] w fun e w' => TwR D w w' X B (takeT D.P t (.ne)).1 (takeT D.P t (.ne)).2 e [] (.int .i64 0) := by
  have hF := hD.P.F
  have hNw : ∀ W : World, Below B w0 W → W.heap[N]? = some (.cells #[.int .i64 3, .int .i64 7, .string { data := #[] }, .int .i64 (D.P.F : Int), .int .i64 (D.s : Int), .int .i64 0, .slice none 0 0, .slice none 0 0, .int .i64 0, .int .i64 0] 60) := fun W hb => row_below hN0 (by rw [hB0]; exact hb)
  have HNW := hid hNw
  have AN := hNw w hbw
  have hmy := hid (may_ne D.P.F D.s w (by omega) hD.s)
  have H := hid h
  have HBW := hid hbw
  have HR := hid hT.ris
  have HT := hid hT.top
  have hss := hT.st
  clear h hbw hN0 hNw hT
  have n0 : w.cell? ⟨N, 0, none⟩ = some (.int .i64 3) := by rw [cell_of_row _ _ _ _ _ _ AN]; rfl
  go_enter Try.func29, Try.ntmps29
  refine wp_seq_k (fun K0 hK0 => ?_)
  go_wp2_with fail
  refine hK0.out _ _ ?_
  refine wp_seq_k (fun K1 hK1 => ?_)
  go_wp2_with fail
  refine hK1.out _ _ ?_
  clear n0
  refine wp_seq_k (fun K2 hK2 => ?_)
  refine wp_block ?_
  refine wp_seq_k (fun K3 hK3 => ?_)
  go_wp2_with (with_reducible refine wpList_load_row (o := ⟨some 9, _, _, _, _, _⟩) rfl 60 _ rfl N rfl 60 _ _ _ AN Try.underlying60 rfl (by kernel_rfl) ?_)
  refine hmy.out.mono ?_
  rintro e V ⟨rfl, hb⟩
  have H1 := hid (H.out.below hb)
  have S1 := hid ((TwS.refl w B).below (H.out.lt hB) hb)
  clear hb hmy H AN
  go_wp2_with fail
  refine hK3.out _ _ ?_
  refine wp_cond_false rfl ?_
  refine wp_seq_k (fun K4 hK4 => ?_)
  refine wp_region_can_all [] [0, 1, 2, 3, 4, 5, 6, 7, 8] (fun u u' => u' = u) (fun _ => rfl) (fun _ _ _ h k => k.trans h) (by kernel_rfl) (by kernel_rfl) ?_
  simp only [List.map_cons, List.map_nil, List.contains_nil, List.getD_cons_zero, List.getD_cons_succ]
  have hdr := (Below.refl V.heap.size V).drew
  have H2 := hid (H1.out.below hdr)
  have S2 := hid (S1.out.below (H1.out.lt hB) hdr)
  clear hdr H1 S1
  generalize V.drew = U at *
  have AN := HNW.out U (HBW.out.trans S2.out.blw)
  have n0 : U.cell? ⟨N, 0, none⟩ = some (.int .i64 3) := by rw [cell_of_row _ _ _ _ _ _ AN]; rfl
  have n1 : U.cell? ⟨N, 1, none⟩ = some (.int .i64 7) := by rw [cell_of_row _ _ _ _ _ _ AN]; rfl
  have n8 : U.cell? ⟨N, 8, none⟩ = some (.int .i64 0) := by rw [cell_of_row _ _ _ _ _ _ AN]; rfl
  have x0 : U.cell? ⟨X, 0, none⟩ = some (.int .i64 7) := by rw [cell_of_row _ _ _ _ _ _ H2.out.bx]; rfl
  have x9 : U.cell? ⟨X, 9, none⟩ = some (.int .i64 (t.st : Int)) := by rw [cell_of_row _ _ _ _ _ _ H2.out.bx]; rfl
  iterate 9 (refine wpL_do rfl (fun w' hw' => (by cases hw'; go_simp; rfl)) ?_; simp only [Act.put, List.setIfInBounds_toArray, List.set_cons_succ, List.set_cons_zero])
  refine wpL_nil ?_
  refine hK4.out _ _ ?_
  refine wp_cond_false rfl ?_
  clear n1 x0
  refine wp_seq_k (fun K5 hK5 => ?_)
  go_wp2_with fail
  refine hK5.out _ _ ?_
  refine wp_cond_false rfl ?_
  refine wp_seq_k (fun K6 hK6 => ?_)
  rcases hss with h0 | h3
  · rw [h0] at x9
    go_wp2_with fail
    refine hK6.out _ _ ?_
    refine wp_cond_true rfl ?_
    clear x9 n0 n8
    have hgo := hid (going_ne D hD hSum X B t A U hB h0 HR.out HT.out H2.out hoa)
    try unfold emS at hgo
    go_wp2_with (with_reducible refine wpList_load_row (o := ⟨some 38, _, _, _, _, _⟩) rfl 60 _ rfl N rfl 60 _ _ _ AN Try.underlying60 rfl (by kernel_rfl) ?_)
    refine hgo.out.mono ?_
    rintro e W ⟨rfl, ⟨A', vs, e1, e2⟩, e3⟩
    have E1 := hid e1
    have E2 := hid e2
    have E3 := hid (S2.out.trans e3)
    clear e1 e2 e3 hgo AN
    go_wp2_with fail
    refine hK2.out _ _ ?_
    go_wp2_with fail
    go_ret
    exact ⟨rfl, ⟨A', vs, E1.out, E2.out⟩, E3.out⟩
  · rw [h3] at x9
    go_wp2_with fail
    refine hK6.out _ _ ?_
    refine wp_cond_false rfl ?_
    refine wp_seq_k (fun K7 hK7 => ?_)
    go_wp2_with fail
    refine hK7.out _ _ ?_
    refine wp_cond_false rfl ?_
    refine wp_seq_k (fun K8 hK8 => ?_)
    go_wp2_with fail
    refine hK8.out _ _ ?_
    refine wp_cond_true rfl ?_
    clear x9 n0 n8 AN
    have Ew : Hid (takeT D.P t .ne = (t, [.se, .nd])) := hid (by unfold takeT; rw [if_neg (fun h => by omega)])
    have hsn := hid (seen_ok D X B t A [] U hB H2.out (Nat.zero_le _))
    refine wp_seq_k (fun K9 hK9 => ?_)
    go_wp2_with fail
    refine hsn.out.mono ?_
    rintro e W ⟨rfl, ⟨oa, oc, vs, e1, e2⟩, e3⟩
    have E1 := hid e1
    have E2 := hid e2
    have E3 := hid (S2.out.trans e3)
    clear e1 e2 e3 hsn H2 S2
    go_wp2_with fail
    refine hK9.out _ _ ?_
    have hvl : ([] ++ vs).length ≤ 100000 := by
      have := congrArg List.length E2.out
      rw [List.length_map] at this
      show vs.length ≤ _
      rw [this]
      show 1 ≤ _
      omega
    have hdn := hid (done_ok D X B t { A with oa := oa, oc := oc } ([] ++ vs) W hB E1.out hvl)
    go_wp2_with fail
    refine hdn.out.mono ?_
    rintro e W2 ⟨rfl, ⟨oa2, oc2, vs2, f1, f2⟩, f3⟩
    have F1 := hid f1
    have F2 := hid f2
    have F3 := hid (E3.out.trans f3)
    clear f1 f2 f3 hdn E1 E3
    go_wp2_with fail
    refine hK2.out _ _ ?_
    go_wp2_with fail
    go_ret
    rw [Ew.out]
    refine ⟨rfl, ⟨_, vs ++ vs2, F1.out, ?_⟩, F3.out⟩
    rw [List.map_append, E2.out, F2.out]
    rfl

set_option maxRecDepth 1000000 in
set_option maxHeartbeats 8000000 in
theorem tak_sd (D : DP) (hD : DOk D) (hSum : SumOk D) (X B N : Nat) (t : TS) (A : TA) (w0 w : World) (hB : B ≤ X) (hB0 : w0.heap.size = B) (hbw : Below B w0 w) (hN0 : w0.heap[N]? = some (.cells #[.int .i64 6, .int .i64 7, .string { data := #[] }, .int .i64 0, .int .i64 0, .int .i64 0, .slice none 0 0, .slice none 0 0, .int .i64 5, .int .i64 0] 60)) (h : TW D w X B t A []) (hoa : A.oa = none) (hT : TI D.P t) :
    Calls Try.prog 29 #[.pointer (some ⟨X, 0, none⟩), .pointer (some ⟨N, 0, none⟩)] w fun e w' => TwR D w w' X B (takeT D.P t (.sd)).1 (takeT D.P t (.sd)).2 e [] (.int .i64 0) := by
  have hF := hD.P.F
  have hNw : ∀ W : World, Below B w0 W → W.heap[N]? = some (.cells #[.int .i64 6, .int .i64 7, .string { data := #[] }, .int .i64 0, .int .i64 0, .int .i64 0, .slice none 0 0, .slice none 0 0, .int .i64 5, .int .i64 0] 60) := fun W hb => row_below hN0 (by rw [hB0]; exact hb)
  have HNW := hid hNw
  have AN := hNw w hbw
  have hmy := hid (may_sd w)
  have H := hid h
  have HBW := hid hbw
  have HR := hid hT.ris
  have HT := hid hT.top
  have hss := hT.st
  clear h hbw hN0 hNw hT
  have n0 : w.cell? ⟨N, 0, none⟩ = some (.int .i64 6) := by rw [cell_of_row _ _ _ _ _ _ AN]; rfl
  go_enter Try.func29, Try.ntmps29
  refine wp_seq_k (fun K0 hK0 => ?_)
  go_wp2_with fail
  refine hK0.out _ _ ?_
  refine wp_seq_k (fun K1 hK1 => ?_)
  go_wp2_with fail
  refine hK1.out _ _ ?_
  clear n0
  refine wp_seq_k (fun K2 hK2 => ?_)
  refine wp_block ?_
  refine wp_seq_k (fun K3 hK3 => ?_)
  go_wp2_with (with_reducible refine wpList_load_row (o := ⟨some 9, _, _, _, _, _⟩) rfl 60 _ rfl N rfl 60 _ _ _ AN Try.underlying60 rfl (by kernel_rfl) ?_)
  refine hmy.out.mono ?_
  rintro e V ⟨rfl, hb⟩
  have H1 := hid (H.out.below hb)
  have S1 := hid ((TwS.refl w B).below (H.out.lt hB) hb)
  clear hb hmy H AN
  go_wp2_with fail
  refine hK3.out _ _ ?_
  refine wp_cond_false rfl ?_
  refine wp_seq_k (fun K4 hK4 => ?_)
  refine wp_region_can_all [] [0, 1, 2, 3, 4, 5, 6, 7, 8] (fun u u' => u' = u) (fun _ => rfl) (fun _ _ _ h k => k.trans h) (by kernel_rfl) (by kernel_rfl) ?_
  simp only [List.map_cons, List.map_nil, List.contains_nil, List.getD_cons_zero, List.getD_cons_succ]
  have hdr := (Below.refl V.heap.size V).drew
  have H2 := hid (H1.out.below hdr)
  have S2 := hid (S1.out.below (H1.out.lt hB) hdr)
  clear hdr H1 S1
  generalize V.drew = U at *
  have AN := HNW.out U (HBW.out.trans S2.out.blw)
  have n0 : U.cell? ⟨N, 0, none⟩ = some (.int .i64 6) := by rw [cell_of_row _ _ _ _ _ _ AN]; rfl
  have n1 : U.cell? ⟨N, 1, none⟩ = some (.int .i64 7) := by rw [cell_of_row _ _ _ _ _ _ AN]; rfl
  have n8 : U.cell? ⟨N, 8, none⟩ = some (.int .i64 5) := by rw [cell_of_row _ _ _ _ _ _ AN]; rfl
  have x0 : U.cell? ⟨X, 0, none⟩ = some (.int .i64 7) := by rw [cell_of_row _ _ _ _ _ _ H2.out.bx]; rfl
  have x9 : U.cell? ⟨X, 9, none⟩ = some (.int .i64 (t.st : Int)) := by rw [cell_of_row _ _ _ _ _ _ H2.out.bx]; rfl
  iterate 9 (refine wpL_do rfl (fun w' hw' => (by cases hw'; go_simp; rfl)) ?_; simp only [Act.put, List.setIfInBounds_toArray, List.set_cons_succ, List.set_cons_zero])
  refine wpL_nil ?_
  refine hK4.out _ _ ?_
  refine wp_cond_false rfl ?_
  clear n1 x0
  refine wp_seq_k (fun K5 hK5 => ?_)
  go_wp2_with fail
  refine hK5.out _ _ ?_
  refine wp_cond_false rfl ?_
  refine wp_seq_k (fun K6 hK6 => ?_)
  rcases hss with h0 | h3
  · rw [h0] at x9
    go_wp2_with fail
    refine hK6.out _ _ ?_
    refine wp_cond_true rfl ?_
    clear x9 n0 n8
    have hgo := hid (going_sd D hD hSum X B t A U hB h0 HR.out HT.out H2.out hoa)
    try unfold emS at hgo
    go_wp2_with (with_reducible refine wpList_load_row (o := ⟨some 38, _, _, _, _, _⟩) rfl 60 _ rfl N rfl 60 _ _ _ AN Try.underlying60 rfl (by kernel_rfl) ?_)
    refine hgo.out.mono ?_
    rintro e W ⟨rfl, ⟨A', vs, e1, e2⟩, e3⟩
    have E1 := hid e1
    have E2 := hid e2
    have E3 := hid (S2.out.trans e3)
    clear e1 e2 e3 hgo AN
    go_wp2_with fail
    refine hK2.out _ _ ?_
    go_wp2_with fail
    go_ret
    exact ⟨rfl, ⟨A', vs, E1.out, E2.out⟩, E3.out⟩
  · rw [h3] at x9
    go_wp2_with fail
    refine hK6.out _ _ ?_
    refine wp_cond_false rfl ?_
    refine wp_seq_k (fun K7 hK7 => ?_)
    go_wp2_with fail
    refine hK7.out _ _ ?_
    refine wp_cond_false rfl ?_
    refine wp_seq_k (fun K8 hK8 => ?_)
    go_wp2_with fail
    refine hK8.out _ _ ?_
    refine wp_cond_false rfl ?_
    refine wp_seq_k (fun K9 hK9 => ?_)
    go_wp2_with fail
    refine hK9.out _ _ ?_
    refine wp_cond_true rfl ?_
    clear x9 n0 n8 AN
    have Ew : Hid (takeT D.P t .sd = ({ t with tm := 0, tr := 100 }, [])) := hid (by unfold takeT; rw [if_neg (fun h => by omega)])
    have c13 : U.cell? ⟨X, 13, none⟩ = some (.int .i64 100) := by rw [cell_of_row _ _ _ _ _ _ H2.out.bx]; rfl
    have c10 : U.cell? ⟨X, 10, none⟩ = some (.int .i64 (t.tm : Int)) := by rw [cell_of_row _ _ _ _ _ _ H2.out.bx]; rfl
    have fz10 := frozen_row H2.out.bx 10
    obtain ⟨k1, k2⟩ := H2.out.num (t' := { t with tm := 0 }) hB 10 (.int .i64 0) rfl rfl
    have c12 : (U.setCell ⟨X, 10, none⟩ (.int .i64 0)).cell? ⟨X, 12, none⟩ = some (.int .i64 (t.tr : Int)) := by rw [cell_of_row _ _ _ _ _ _ k1.bx]; rfl
    have fz12 := frozen_row k1.bx 12
    obtain ⟨l1, l2⟩ := k1.num (t' := { t with tm := 0, tr := 100 }) hB 12 (.int .i64 100) rfl rfl
    have E1 := hid l1
    have E3 := hid (S2.out.trans (k2.trans l2))
    clear k1 k2 l1 l2 H2 S2
    go_wp2_with fail
    refine hK2.out _ _ ?_
    clear c13 c10 c12 fz10 fz12
    go_wp2_with fail
    go_ret
    rw [Ew.out]
    exact ⟨rfl, ⟨A, [], E1.out, rfl⟩, E3.out⟩
end Go.Proofs.Ytopmamgdfngdoaa
/- deliver: Take (printed by genwt.py). -/
namespace Go.Proofs.Ytopmamgdfngdoaa
set_option linter.unusedVariables false
open Go.RowKit

set_option maxRecDepth 1000000 in
set_option maxHeartbeats 8000000 in
theorem Take_nm (D : DP) (hD : DOk D) (hSum : SumOk D) (t : TS) (ha : Option Addr) (hn hc : Nat) (fa : Option Addr) (fn fc : Nat) (w : World) (hT : TI D.P t) (hhn : hn = t.hv.length) (hfn : fn = topH t.hv) (hM : TkT D w t ha hc fa fc) :
    Calls Try.prog 15 #[.agg (tcells D t ha hn hc fa fn fc), .agg #[.int .i64 1, .int .i64 7, .string logS, .int .i64 (D.P.F : Int), .int .i64 0, .int .i64 0, .slice none 0 0, .slice none 0 0, .int .i64 0, .int .i64 0]] w fun e w' => TakeR D w w' (takeT D.P t (.nm)).1 (takeT D.P t (.nm)).2 e := by
  have hgv0 := hid (fun (N : Nat) (W : World) (h : TkT D W t ha hc fa fc) hturn => taking29 D hD t (takeT D.P t (.nm)).1 (takeT D.P t (.nm)).2 ha hn hc fa fn fc N W hT hhn hfn h hturn)
  obtain ⟨t1, ht1⟩ : ∃ t1, t1 = (takeT D.P t (.nm)).1 := ⟨_, rfl⟩
  obtain ⟨ks, hks0⟩ : ∃ ks, ks = (takeT D.P t (.nm)).2 := ⟨_, rfl⟩
  rw [← ht1, ← hks0] at hgv0 ⊢
  have HT1 := hid ht1
  have HK1 := hid hks0
  clear ht1 hks0 hhn hfn
  unfold tcells at hgv0 ⊢
  generalize (if t.kn = true then logS else emS) = nm at *
  generalize (if t.kn = true then (D.P.F : Int) else 0) = sz at *
  generalize (if t.en = true then (D.P.F : Int) else 0) = la at *
  generalize (if t.en = true then (D.s : Int) else 0) = su at *
  have b1 := below_alloc w (.cells #[.int .i64 7, .bool t.kn, .string nm, .int .i64 sz, .bool t.en, .int .i64 la, .int .i64 su, .slice ha hn hc, .slice fa fn fc, .int .i64 (t.st : Int), .int .i64 (t.tm : Int), .int .i64 (D.P.p : Int), .int .i64 (t.tr : Int), .int .i64 100] 33)
  have A1 := heap_alloc_new w (.cells #[.int .i64 7, .bool t.kn, .string nm, .int .i64 sz, .bool t.en, .int .i64 la, .int .i64 su, .slice ha hn hc, .slice fa fn fc, .int .i64 (t.st : Int), .int .i64 (t.tm : Int), .int .i64 (D.P.p : Int), .int .i64 (t.tr : Int), .int .i64 100] 33)
  generalize hV1 : w.alloc (.cells #[.int .i64 7, .bool t.kn, .string nm, .int .i64 sz, .bool t.en, .int .i64 la, .int .i64 su, .slice ha hn hc, .slice fa fn fc, .int .i64 (t.st : Int), .int .i64 (t.tm : Int), .int .i64 (D.P.p : Int), .int .i64 (t.tr : Int), .int .i64 100] 33) = V1 at *
  have bo := below_alloc V1 (.cells #[.int .i64 1, .int .i64 7, .string logS, .int .i64 (D.P.F : Int), .int .i64 0, .int .i64 0, .slice none 0 0, .slice none 0 0, .int .i64 0, .int .i64 0] 60)
  have AO := heap_alloc_new V1 (.cells #[.int .i64 1, .int .i64 7, .string logS, .int .i64 (D.P.F : Int), .int .i64 0, .int .i64 0, .slice none 0 0, .slice none 0 0, .int .i64 0, .int .i64 0] 60)
  generalize hVO : V1.alloc (.cells #[.int .i64 1, .int .i64 7, .string logS, .int .i64 (D.P.F : Int), .int .i64 0, .int .i64 0, .slice none 0 0, .slice none 0 0, .int .i64 0, .int .i64 0] 60) = VO at *
  have b1 := b1.trans (bo.mono b1.size)
  have b2 := below_alloc VO (.cells #[.int .i64 0, .bool false, .string { data := #[] }, .int .i64 0, .bool false, .int .i64 0, .int .i64 0, .slice none 0 0, .slice none 0 0, .int .i64 0, .int .i64 0, .int .i64 0, .int .i64 0, .int .i64 0] 33)
  have A2 := heap_alloc_new VO (.cells #[.int .i64 0, .bool false, .string { data := #[] }, .int .i64 0, .bool false, .int .i64 0, .int .i64 0, .slice none 0 0, .slice none 0 0, .int .i64 0, .int .i64 0, .int .i64 0, .int .i64 0, .int .i64 0] 33)
  have A1' := row_below (row_below A1 bo) b2
  have B2 := hid (b1.trans (b2.mono b1.size))
  have HM := hid (hM.below b1)
  have hs1 := b1.size
  have hZ : w.heap.size ≤ VO.heap.size := hs1
  have AO' := row_below AO b2
  clear hM b1
  go_enter Try.func15, Try.ntmps15
  refine wp_seq_k (fun K0 hK0 => ?_)
  go_wp2_with fail
  refine hK0.out _ _ ?_
  clear hV1 hVO bo
  generalize VO.alloc (.cells #[.int .i64 0, .bool false, .string { data := #[] }, .int .i64 0, .bool false, .int .i64 0, .int .i64 0, .slice none 0 0, .slice none 0 0, .int .i64 0, .int .i64 0, .int .i64 0, .int .i64 0, .int .i64 0] 33) = V2 at *
  have HM2 := hid (HM.out.below b2)
  clear b2 HM A1
  obtain ⟨Y, hY⟩ : ∃ Y, Y = w.heap.size := ⟨_, rfl⟩
  obtain ⟨N, hN⟩ : ∃ N, N = V1.heap.size := ⟨_, rfl⟩
  obtain ⟨Z, hZ'⟩ : ∃ Z, Z = VO.heap.size := ⟨_, rfl⟩
  rw [← hZ'] at A2 hZ ⊢
  rw [← hN] at AO' ⊢
  rw [← hY] at A1' ⊢
  have HY := hid hY
  clear hY hZ' hs1 hN AO
  have hgv := hid (hgv0.out N V2 HM2.out (fun X A W h1 hb h2 hoa => by rw [HT1.out, HK1.out]; exact tak_nm D hD hSum X V2.heap.size N t A V2 W h1 rfl hb AO' h2 hoa hT))
  clear hgv0
  refine wp_seq_k (fun K1 hK1 => ?_)
  go_wp2_with (with_reducible refine wpList_load_row (o := ⟨some 7, _, _, _, _, _⟩) rfl 33 _ rfl Y rfl 33 _ _ _ A1' Try.underlying33 rfl (by kernel_rfl) ?_)
  refine hgv.out.mono ?_
  intro e V3 hr
  obtain ⟨⟨ha', hc', fa', fc', oa, oc, vs, rfl, hm, hn', hk⟩, hb⟩ := hr
  have AZ := row_below A2 hb
  have B3 := hid (B2.out.trans (hb.mono B2.out.size))
  have HN := hid (show NRow D V3 w.heap.size oa oc vs from ⟨ownsRow_mono hn'.ow B2.out.size, hn'.ns⟩)
  have HMr := hid hm
  have HK := hid hk
  clear hm hn' hk hb hgv A1' A2 HM2 B2
  obtain ⟨tc, htc⟩ : ∃ tc, tc = tcells D t1 ha' t1.hv.length hc' fa' (topH t1.hv) fc' := ⟨_, rfl⟩
  have hone : tc.all (fun x => x.oneCell') = true := by rw [htc]; unfold tcells; simp [Value.oneCell']
  have hsz14 : tc.size = 14 := by rw [htc]; rfl
  have Htc := hid htc
  rw [← htc]
  clear htc
  obtain ⟨m1, m2⟩ := set_whole (cs' := tc) AZ
  have s5 := Stays.ofSet m2 AZ (T := 5) (by decide)
  have s84 := Stays.ofSet m2 AZ (T := 84) (by decide)
  have HF := hid (HMr.out.stays s5 s84)
  have HO := hid (show NRow D _ w.heap.size oa oc vs from ⟨row_kept_own AZ HN.out.ow m2 (by decide), fun v hv => (HN.out.ns v hv).stays s5 s84⟩)
  have B14 := hid (B3.out.grown m2 B3.out.size (fun k e => by cases e; exact hZ))
  have HM1 := hid m1
  clear m1 m2 s5 s84 HN HMr B3
  go_wp2_with (with_reducible refine at_store 33 ?_)
  unfold Hid
  refine wpList_store_row rfl 33 _ _ rfl Z tc rfl rfl 33 _ AZ (by rw [hsz14]; rfl) (by rw [hsz14]; rfl) hone ?_
  clear AZ
  generalize V3.setRow Z _ = V4 at *
  go_wp2_with fail
  refine hK1.out _ _ ?_
  go_wp2_with fail
  have hm1 := HM1.out
  rw [Htc.out] at hm1
  refine bodyPost_ret (results_c2 (fn := Try.f15) rfl _ V4 Z 33 _ _ rfl hm1 (by kernel_rfl) (by kernel_rfl)) rfl ?_
  exact ⟨⟨_, _, _, _, _, _, vs, rfl, HF.out, HO.out, HK.out⟩, B14.out⟩
set_option maxRecDepth 1000000 in
set_option maxHeartbeats 8000000 in
theorem Take_np (D : DP) (hD : DOk D) (hSum : SumOk D) (t : TS) (ha : Option Addr) (hn hc : Nat) (fa : Option Addr) (fn fc : Nat) (x y dn dc : Nat) (da : Option Addr) (w : World) (hT : TI D.P t) (hhn : hn = t.hv.length) (hfn : fn = topH t.hv) (hM : TkT D w t ha hc fa fc) (hdn : dn = y - x) (hxy : x < y) (hy : y ≤ D.P.F) (hda : RdT 5 w da (y - x) dc (vb (sub D.fl x y))) :
    Calls Try.prog 15 #[.agg (tcells D t ha hn hc fa fn fc), .agg #[.int .i64 2, .int .i64 7, .string { data := #[] }, .int .i64 0, .int .i64 0, .int .i64 (x : Int), .slice da dn dc, .slice none 0 0, .int .i64 0, .int .i64 0]] w fun e w' => TakeR D w w' (takeT D.P t (.np x y)).1 (takeT D.P t (.np x y)).2 e := by
  have hgv0 := hid (fun (N : Nat) (W : World) (h : TkT D W t ha hc fa fc) hturn => taking29 D hD t (takeT D.P t (.np x y)).1 (takeT D.P t (.np x y)).2 ha hn hc fa fn fc N W hT hhn hfn h hturn)
  obtain ⟨t1, ht1⟩ : ∃ t1, t1 = (takeT D.P t (.np x y)).1 := ⟨_, rfl⟩
  obtain ⟨ks, hks0⟩ : ∃ ks, ks = (takeT D.P t (.np x y)).2 := ⟨_, rfl⟩
  rw [← ht1, ← hks0] at hgv0 ⊢
  have HT1 := hid ht1
  have HK1 := hid hks0
  clear ht1 hks0 hhn hfn
  unfold tcells at hgv0 ⊢
  generalize (if t.kn = true then logS else emS) = nm at *
  generalize (if t.kn = true then (D.P.F : Int) else 0) = sz at *
  generalize (if t.en = true then (D.P.F : Int) else 0) = la at *
  generalize (if t.en = true then (D.s : Int) else 0) = su at *
  have b1 := below_alloc w (.cells #[.int .i64 7, .bool t.kn, .string nm, .int .i64 sz, .bool t.en, .int .i64 la, .int .i64 su, .slice ha hn hc, .slice fa fn fc, .int .i64 (t.st : Int), .int .i64 (t.tm : Int), .int .i64 (D.P.p : Int), .int .i64 (t.tr : Int), .int .i64 100] 33)
  have A1 := heap_alloc_new w (.cells #[.int .i64 7, .bool t.kn, .string nm, .int .i64 sz, .bool t.en, .int .i64 la, .int .i64 su, .slice ha hn hc, .slice fa fn fc, .int .i64 (t.st : Int), .int .i64 (t.tm : Int), .int .i64 (D.P.p : Int), .int .i64 (t.tr : Int), .int .i64 100] 33)
  generalize hV1 : w.alloc (.cells #[.int .i64 7, .bool t.kn, .string nm, .int .i64 sz, .bool t.en, .int .i64 la, .int .i64 su, .slice ha hn hc, .slice fa fn fc, .int .i64 (t.st : Int), .int .i64 (t.tm : Int), .int .i64 (D.P.p : Int), .int .i64 (t.tr : Int), .int .i64 100] 33) = V1 at *
  have bo := below_alloc V1 (.cells #[.int .i64 2, .int .i64 7, .string { data := #[] }, .int .i64 0, .int .i64 0, .int .i64 (x : Int), .slice da dn dc, .slice none 0 0, .int .i64 0, .int .i64 0] 60)
  have AO := heap_alloc_new V1 (.cells #[.int .i64 2, .int .i64 7, .string { data := #[] }, .int .i64 0, .int .i64 0, .int .i64 (x : Int), .slice da dn dc, .slice none 0 0, .int .i64 0, .int .i64 0] 60)
  generalize hVO : V1.alloc (.cells #[.int .i64 2, .int .i64 7, .string { data := #[] }, .int .i64 0, .int .i64 0, .int .i64 (x : Int), .slice da dn dc, .slice none 0 0, .int .i64 0, .int .i64 0] 60) = VO at *
  have b1 := b1.trans (bo.mono b1.size)
  have b2 := below_alloc VO (.cells #[.int .i64 0, .bool false, .string { data := #[] }, .int .i64 0, .bool false, .int .i64 0, .int .i64 0, .slice none 0 0, .slice none 0 0, .int .i64 0, .int .i64 0, .int .i64 0, .int .i64 0, .int .i64 0] 33)
  have A2 := heap_alloc_new VO (.cells #[.int .i64 0, .bool false, .string { data := #[] }, .int .i64 0, .bool false, .int .i64 0, .int .i64 0, .slice none 0 0, .slice none 0 0, .int .i64 0, .int .i64 0, .int .i64 0, .int .i64 0, .int .i64 0] 33)
  have A1' := row_below (row_below A1 bo) b2
  have B2 := hid (b1.trans (b2.mono b1.size))
  have HM := hid (hM.below b1)
  have hs1 := b1.size
  have hZ : w.heap.size ≤ VO.heap.size := hs1
  have AO' := row_below AO b2
  have HDn := hid hdn
  have HDa := hid (hda.below b1)
  clear hdn hda
  clear hM b1
  go_enter Try.func15, Try.ntmps15
  refine wp_seq_k (fun K0 hK0 => ?_)
  go_wp2_with fail
  refine hK0.out _ _ ?_
  clear hV1 hVO bo
  generalize VO.alloc (.cells #[.int .i64 0, .bool false, .string { data := #[] }, .int .i64 0, .bool false, .int .i64 0, .int .i64 0, .slice none 0 0, .slice none 0 0, .int .i64 0, .int .i64 0, .int .i64 0, .int .i64 0, .int .i64 0] 33) = V2 at *
  have HM2 := hid (HM.out.below b2)
  have HDa2 := hid (HDa.out.below b2)
  clear HDa
  clear b2 HM A1
  obtain ⟨Y, hY⟩ : ∃ Y, Y = w.heap.size := ⟨_, rfl⟩
  obtain ⟨N, hN⟩ : ∃ N, N = V1.heap.size := ⟨_, rfl⟩
  obtain ⟨Z, hZ'⟩ : ∃ Z, Z = VO.heap.size := ⟨_, rfl⟩
  rw [← hZ'] at A2 hZ ⊢
  rw [← hN] at AO' ⊢
  rw [← hY] at A1' ⊢
  have HY := hid hY
  clear hY hZ' hs1 hN AO
  have hgv := hid (hgv0.out N V2 HM2.out (fun X A W h1 hb h2 hoa => by rw [HT1.out, HK1.out]; exact tak_np D hD hSum X V2.heap.size N t A x y dn dc da V2 W h1 rfl hb AO' h2 hoa hT HDn.out hxy hy HDa2.out))
  clear hgv0
  refine wp_seq_k (fun K1 hK1 => ?_)
  go_wp2_with (with_reducible refine wpList_load_row (o := ⟨some 7, _, _, _, _, _⟩) rfl 33 _ rfl Y rfl 33 _ _ _ A1' Try.underlying33 rfl (by kernel_rfl) ?_)
  refine hgv.out.mono ?_
  intro e V3 hr
  obtain ⟨⟨ha', hc', fa', fc', oa, oc, vs, rfl, hm, hn', hk⟩, hb⟩ := hr
  have AZ := row_below A2 hb
  have B3 := hid (B2.out.trans (hb.mono B2.out.size))
  have HN := hid (show NRow D V3 w.heap.size oa oc vs from ⟨ownsRow_mono hn'.ow B2.out.size, hn'.ns⟩)
  have HMr := hid hm
  have HK := hid hk
  clear hm hn' hk hb hgv A1' A2 HM2 B2
  obtain ⟨tc, htc⟩ : ∃ tc, tc = tcells D t1 ha' t1.hv.length hc' fa' (topH t1.hv) fc' := ⟨_, rfl⟩
  have hone : tc.all (fun x => x.oneCell') = true := by rw [htc]; unfold tcells; simp [Value.oneCell']
  have hsz14 : tc.size = 14 := by rw [htc]; rfl
  have Htc := hid htc
  rw [← htc]
  clear htc
  obtain ⟨m1, m2⟩ := set_whole (cs' := tc) AZ
  have s5 := Stays.ofSet m2 AZ (T := 5) (by decide)
  have s84 := Stays.ofSet m2 AZ (T := 84) (by decide)
  have HF := hid (HMr.out.stays s5 s84)
  have HO := hid (show NRow D _ w.heap.size oa oc vs from ⟨row_kept_own AZ HN.out.ow m2 (by decide), fun v hv => (HN.out.ns v hv).stays s5 s84⟩)
  have B14 := hid (B3.out.grown m2 B3.out.size (fun k e => by cases e; exact hZ))
  have HM1 := hid m1
  clear m1 m2 s5 s84 HN HMr B3
  go_wp2_with (with_reducible refine at_store 33 ?_)
  unfold Hid
  refine wpList_store_row rfl 33 _ _ rfl Z tc rfl rfl 33 _ AZ (by rw [hsz14]; rfl) (by rw [hsz14]; rfl) hone ?_
  clear AZ
  generalize V3.setRow Z _ = V4 at *
  go_wp2_with fail
  refine hK1.out _ _ ?_
  go_wp2_with fail
  have hm1 := HM1.out
  rw [Htc.out] at hm1
  refine bodyPost_ret (results_c2 (fn := Try.f15) rfl _ V4 Z 33 _ _ rfl hm1 (by kernel_rfl) (by kernel_rfl)) rfl ?_
  exact ⟨⟨_, _, _, _, _, _, vs, rfl, HF.out, HO.out, HK.out⟩, B14.out⟩
set_option maxRecDepth 1000000 in
set_option maxHeartbeats 8000000 in
theorem Take_ne (D : DP) (hD : DOk D) (hSum : SumOk D) (t : TS) (ha : Option Addr) (hn hc : Nat) (fa : Option Addr) (fn fc : Nat) (w : World) (hT : TI D.P t) (hhn : hn = t.hv.length) (hfn : fn = topH t.hv) (hM : TkT D w t ha hc fa fc) :
    Calls Try.prog 15 #[.agg (tcells D t ha hn hc fa fn fc), .agg #[.int .i64 3, .int .i64 7, .string { data := #[] }, .int .i64 (D.P.F : Int), .int .i64 (D.s : Int), .int .i64 0, .slice none 0 0, .slice none 0 0, .int .i64 0, .int .i64 0]] w fun e w' => TakeR D w w' (takeT D.P t (.ne)).1 (takeT D.P t (.ne)).2 e := by
  have hgv0 := hid (fun (N : Nat) (W : World) (h : TkT D W t ha hc fa fc) hturn => taking29 D hD t (takeT D.P t (.ne)).1 (takeT D.P t (.ne)).2 ha hn hc fa fn fc N W hT hhn hfn h hturn)
  obtain ⟨t1, ht1⟩ : ∃ t1, t1 = (takeT D.P t (.ne)).1 := ⟨_, rfl⟩
  obtain ⟨ks, hks0⟩ : ∃ ks, ks = (takeT D.P t (.ne)).2 := ⟨_, rfl⟩
  rw [← ht1, ← hks0] at hgv0 ⊢
  have HT1 := hid ht1
  have HK1 := hid hks0
  clear ht1 hks0 hhn hfn
  unfold tcells at hgv0 ⊢
  generalize (if t.kn = true then logS else emS) = nm at *
  generalize (if t.kn = true then (D.P.F : Int) else 0) = sz at *
  generalize (if t.en = true then (D.P.F : Int) else 0) = la at *
  generalize (if t.en = true then (D.s : Int) else 0) = su at *
  have b1 := below_alloc w (.cells #[.int .i64 7, .bool t.kn, .string nm, .int .i64 sz, .bool t.en, .int .i64 la, .int .i64 su, .slice ha hn hc, .slice fa fn fc, .int .i64 (t.st : Int), .int .i64 (t.tm : Int), .int .i64 (D.P.p : Int), .int .i64 (t.tr : Int), .int .i64 100] 33)
  have A1 := heap_alloc_new w (.cells #[.int .i64 7, .bool t.kn, .string nm, .int .i64 sz, .bool t.en, .int .i64 la, .int .i64 su, .slice ha hn hc, .slice fa fn fc, .int .i64 (t.st : Int), .int .i64 (t.tm : Int), .int .i64 (D.P.p : Int), .int .i64 (t.tr : Int), .int .i64 100] 33)
  generalize hV1 : w.alloc (.cells #[.int .i64 7, .bool t.kn, .string nm, .int .i64 sz, .bool t.en, .int .i64 la, .int .i64 su, .slice ha hn hc, .slice fa fn fc, .int .i64 (t.st : Int), .int .i64 (t.tm : Int), .int .i64 (D.P.p : Int), .int .i64 (t.tr : Int), .int .i64 100] 33) = V1 at *
  have bo := below_alloc V1 (.cells #[.int .i64 3, .int .i64 7, .string { data := #[] }, .int .i64 (D.P.F : Int), .int .i64 (D.s : Int), .int .i64 0, .slice none 0 0, .slice none 0 0, .int .i64 0, .int .i64 0] 60)
  have AO := heap_alloc_new V1 (.cells #[.int .i64 3, .int .i64 7, .string { data := #[] }, .int .i64 (D.P.F : Int), .int .i64 (D.s : Int), .int .i64 0, .slice none 0 0, .slice none 0 0, .int .i64 0, .int .i64 0] 60)
  generalize hVO : V1.alloc (.cells #[.int .i64 3, .int .i64 7, .string { data := #[] }, .int .i64 (D.P.F : Int), .int .i64 (D.s : Int), .int .i64 0, .slice none 0 0, .slice none 0 0, .int .i64 0, .int .i64 0] 60) = VO at *
  have b1 := b1.trans (bo.mono b1.size)
  have b2 := below_alloc VO (.cells #[.int .i64 0, .bool false, .string { data := #[] }, .int .i64 0, .bool false, .int .i64 0, .int .i64 0, .slice none 0 0, .slice none 0 0, .int .i64 0, .int .i64 0, .int .i64 0, .int .i64 0, .int .i64 0] 33)
  have A2 := heap_alloc_new VO (.cells #[.int .i64 0, .bool false, .string { data := #[] }, .int .i64 0, .bool false, .int .i64 0, .int .i64 0, .slice none 0 0, .slice none 0 0, .int .i64 0, .int .i64 0, .int .i64 0, .int .i64 0, .int .i64 0] 33)
  have A1' := row_below (row_below A1 bo) b2
  have B2 := hid (b1.trans (b2.mono b1.size))
  have HM := hid (hM.below b1)
  have hs1 := b1.size
  have hZ : w.heap.size ≤ VO.heap.size := hs1
  have AO' := row_below AO b2
  clear hM b1
  go_enter Try.func15, Try.ntmps15
  refine wp_seq_k (fun K0 hK0 => ?_)
  go_wp2_with fail
  refine hK0.out _ _ ?_
  clear hV1 hVO bo
  generalize VO.alloc (.cells #[.int .i64 0, .bool false, .string { data := #[] }, .int .i64 0, .bool false, .int .i64 0, .int .i64 0, .slice none 0 0, .slice none 0 0, .int .i64 0, .int .i64 0, .int .i64 0, .int .i64 0, .int .i64 0] 33) = V2 at *
  have HM2 := hid (HM.out.below b2)
  clear b2 HM A1
  obtain ⟨Y, hY⟩ : ∃ Y, Y = w.heap.size := ⟨_, rfl⟩
  obtain ⟨N, hN⟩ : ∃ N, N = V1.heap.size := ⟨_, rfl⟩
  obtain ⟨Z, hZ'⟩ : ∃ Z, Z = VO.heap.size := ⟨_, rfl⟩
  rw [← hZ'] at A2 hZ ⊢
  rw [← hN] at AO' ⊢
  rw [← hY] at A1' ⊢
  have HY := hid hY
  clear hY hZ' hs1 hN AO
  have hgv := hid (hgv0.out N V2 HM2.out (fun X A W h1 hb h2 hoa => by rw [HT1.out, HK1.out]; exact tak_ne D hD hSum X V2.heap.size N t A V2 W h1 rfl hb AO' h2 hoa hT))
  clear hgv0
  refine wp_seq_k (fun K1 hK1 => ?_)
  go_wp2_with (with_reducible refine wpList_load_row (o := ⟨some 7, _, _, _, _, _⟩) rfl 33 _ rfl Y rfl 33 _ _ _ A1' Try.underlying33 rfl (by kernel_rfl) ?_)
  refine hgv.out.mono ?_
  intro e V3 hr
  obtain ⟨⟨ha', hc', fa', fc', oa, oc, vs, rfl, hm, hn', hk⟩, hb⟩ := hr
  have AZ := row_below A2 hb
  have B3 := hid (B2.out.trans (hb.mono B2.out.size))
  have HN := hid (show NRow D V3 w.heap.size oa oc vs from ⟨ownsRow_mono hn'.ow B2.out.size, hn'.ns⟩)
  have HMr := hid hm
  have HK := hid hk
  clear hm hn' hk hb hgv A1' A2 HM2 B2
  obtain ⟨tc, htc⟩ : ∃ tc, tc = tcells D t1 ha' t1.hv.length hc' fa' (topH t1.hv) fc' := ⟨_, rfl⟩
  have hone : tc.all (fun x => x.oneCell') = true := by rw [htc]; unfold tcells; simp [Value.oneCell']
  have hsz14 : tc.size = 14 := by rw [htc]; rfl
  have Htc := hid htc
  rw [← htc]
  clear htc
  obtain ⟨m1, m2⟩ := set_whole (cs' := tc) AZ
  have s5 := Stays.ofSet m2 AZ (T := 5) (by decide)
  have s84 := Stays.ofSet m2 AZ (T := 84) (by decide)
  have HF := hid (HMr.out.stays s5 s84)
  have HO := hid (show NRow D _ w.heap.size oa oc vs from ⟨row_kept_own AZ HN.out.ow m2 (by decide), fun v hv => (HN.out.ns v hv).stays s5 s84⟩)
  have B14 := hid (B3.out.grown m2 B3.out.size (fun k e => by cases e; exact hZ))
  have HM1 := hid m1
  clear m1 m2 s5 s84 HN HMr B3
  go_wp2_with (with_reducible refine at_store 33 ?_)
  unfold Hid
  refine wpList_store_row rfl 33 _ _ rfl Z tc rfl rfl 33 _ AZ (by rw [hsz14]; rfl) (by rw [hsz14]; rfl) hone ?_
  clear AZ
  generalize V3.setRow Z _ = V4 at *
  go_wp2_with fail
  refine hK1.out _ _ ?_
  go_wp2_with fail
  have hm1 := HM1.out
  rw [Htc.out] at hm1
  refine bodyPost_ret (results_c2 (fn := Try.f15) rfl _ V4 Z 33 _ _ rfl hm1 (by kernel_rfl) (by kernel_rfl)) rfl ?_
  exact ⟨⟨_, _, _, _, _, _, vs, rfl, HF.out, HO.out, HK.out⟩, B14.out⟩
set_option maxRecDepth 1000000 in
set_option maxHeartbeats 8000000 in
theorem Take_sd (D : DP) (hD : DOk D) (hSum : SumOk D) (t : TS) (ha : Option Addr) (hn hc : Nat) (fa : Option Addr) (fn fc : Nat) (w : World) (hT : TI D.P t) (hhn : hn = t.hv.length) (hfn : fn = topH t.hv) (hM : TkT D w t ha hc fa fc) :
    Calls Try.prog 15 #[.agg (tcells D t ha hn hc fa fn fc), .agg #[.int .i64 6, .int .i64 7, .string { data := #[] }, .int .i64 0, .int .i64 0, .int .i64 0, .slice none 0 0, .slice none 0 0, .int .i64 5, .int .i64 0]] w fun e w' => TakeR D w w' (takeT D.P t (.sd)).1 (takeT D.P t (.sd)).2 e := by
  have hgv0 := hid (fun (N : Nat) (W : World) (h : TkT D W t ha hc fa fc) hturn => taking29 D hD t (takeT D.P t (.sd)).1 (takeT D.P t (.sd)).2 ha hn hc fa fn fc N W hT hhn hfn h hturn)
  obtain ⟨t1, ht1⟩ : ∃ t1, t1 = (takeT D.P t (.sd)).1 := ⟨_, rfl⟩
  obtain ⟨ks, hks0⟩ : ∃ ks, ks = (takeT D.P t (.sd)).2 := ⟨_, rfl⟩
  rw [← ht1, ← hks0] at hgv0 ⊢
  have HT1 := hid ht1
  have HK1 := hid hks0
  clear ht1 hks0 hhn hfn
  unfold tcells at hgv0 ⊢
  generalize (if t.kn = true then logS else emS) = nm at *
  generalize (if t.kn = true then (D.P.F : Int) else 0) = sz at *
  generalize (if t.en = true then (D.P.F : Int) else 0) = la at *
  generalize (if t.en = true then (D.s : Int) else 0) = su at *
  have b1 := below_alloc w (.cells #[.int .i64 7, .bool t.kn, .string nm, .int .i64 sz, .bool t.en, .int .i64 la, .int .i64 su, .slice ha hn hc, .slice fa fn fc, .int .i64 (t.st : Int), .int .i64 (t.tm : Int), .int .i64 (D.P.p : Int), .int .i64 (t.tr : Int), .int .i64 100] 33)
  have A1 := heap_alloc_new w (.cells #[.int .i64 7, .bool t.kn, .string nm, .int .i64 sz, .bool t.en, .int .i64 la, .int .i64 su, .slice ha hn hc, .slice fa fn fc, .int .i64 (t.st : Int), .int .i64 (t.tm : Int), .int .i64 (D.P.p : Int), .int .i64 (t.tr : Int), .int .i64 100] 33)
  generalize hV1 : w.alloc (.cells #[.int .i64 7, .bool t.kn, .string nm, .int .i64 sz, .bool t.en, .int .i64 la, .int .i64 su, .slice ha hn hc, .slice fa fn fc, .int .i64 (t.st : Int), .int .i64 (t.tm : Int), .int .i64 (D.P.p : Int), .int .i64 (t.tr : Int), .int .i64 100] 33) = V1 at *
  have bo := below_alloc V1 (.cells #[.int .i64 6, .int .i64 7, .string { data := #[] }, .int .i64 0, .int .i64 0, .int .i64 0, .slice none 0 0, .slice none 0 0, .int .i64 5, .int .i64 0] 60)
  have AO := heap_alloc_new V1 (.cells #[.int .i64 6, .int .i64 7, .string { data := #[] }, .int .i64 0, .int .i64 0, .int .i64 0, .slice none 0 0, .slice none 0 0, .int .i64 5, .int .i64 0] 60)
  generalize hVO : V1.alloc (.cells #[.int .i64 6, .int .i64 7, .string { data := #[] }, .int .i64 0, .int .i64 0, .int .i64 0, .slice none 0 0, .slice none 0 0, .int .i64 5, .int .i64 0] 60) = VO at *
  have b1 := b1.trans (bo.mono b1.size)
  have b2 := below_alloc VO (.cells #[.int .i64 0, .bool false, .string { data := #[] }, .int .i64 0, .bool false, .int .i64 0, .int .i64 0, .slice none 0 0, .slice none 0 0, .int .i64 0, .int .i64 0, .int .i64 0, .int .i64 0, .int .i64 0] 33)
  have A2 := heap_alloc_new VO (.cells #[.int .i64 0, .bool false, .string { data := #[] }, .int .i64 0, .bool false, .int .i64 0, .int .i64 0, .slice none 0 0, .slice none 0 0, .int .i64 0, .int .i64 0, .int .i64 0, .int .i64 0, .int .i64 0] 33)
  have A1' := row_below (row_below A1 bo) b2
  have B2 := hid (b1.trans (b2.mono b1.size))
  have HM := hid (hM.below b1)
  have hs1 := b1.size
  have hZ : w.heap.size ≤ VO.heap.size := hs1
  have AO' := row_below AO b2
  clear hM b1
  go_enter Try.func15, Try.ntmps15
  refine wp_seq_k (fun K0 hK0 => ?_)
  go_wp2_with fail
  refine hK0.out _ _ ?_
  clear hV1 hVO bo
  generalize VO.alloc (.cells #[.int .i64 0, .bool false, .string { data := #[] }, .int .i64 0, .bool false, .int .i64 0, .int .i64 0, .slice none 0 0, .slice none 0 0, .int .i64 0, .int .i64 0, .int .i64 0, .int .i64 0, .int .i64 0] 33) = V2 at *
  have HM2 := hid (HM.out.below b2)
  clear b2 HM A1
  obtain ⟨Y, hY⟩ : ∃ Y, Y = w.heap.size := ⟨_, rfl⟩
  obtain ⟨N, hN⟩ : ∃ N, N = V1.heap.size := ⟨_, rfl⟩
  obtain ⟨Z, hZ'⟩ : ∃ Z, Z = VO.heap.size := ⟨_, rfl⟩
  rw [← hZ'] at A2 hZ ⊢
  rw [← hN] at AO' ⊢
  rw [← hY] at A1' ⊢
  have HY := hid hY
  clear hY hZ' hs1 hN AO
  have hgv := hid (hgv0.out N V2 HM2.out (fun X A W h1 hb h2 hoa => by rw [HT1.out, HK1.out]; exact tak_sd D hD hSum X V2.heap.size N t A V2 W h1 rfl hb AO' h2 hoa hT))
  clear hgv0
  refine wp_seq_k (fun K1 hK1 => ?_)
  go_wp2_with (with_reducible refine wpList_load_row (o := ⟨some 7, _, _, _, _, _⟩) rfl 33 _ rfl Y rfl 33 _ _ _ A1' Try.underlying33 rfl (by kernel_rfl) ?_)
  refine hgv.out.mono ?_
  intro e V3 hr
  obtain ⟨⟨ha', hc', fa', fc', oa, oc, vs, rfl, hm, hn', hk⟩, hb⟩ := hr
  have AZ := row_below A2 hb
  have B3 := hid (B2.out.trans (hb.mono B2.out.size))
  have HN := hid (show NRow D V3 w.heap.size oa oc vs from ⟨ownsRow_mono hn'.ow B2.out.size, hn'.ns⟩)
  have HMr := hid hm
  have HK := hid hk
  clear hm hn' hk hb hgv A1' A2 HM2 B2
  obtain ⟨tc, htc⟩ : ∃ tc, tc = tcells D t1 ha' t1.hv.length hc' fa' (topH t1.hv) fc' := ⟨_, rfl⟩
  have hone : tc.all (fun x => x.oneCell') = true := by rw [htc]; unfold tcells; simp [Value.oneCell']
  have hsz14 : tc.size = 14 := by rw [htc]; rfl
  have Htc := hid htc
  rw [← htc]
  clear htc
  obtain ⟨m1, m2⟩ := set_whole (cs' := tc) AZ
  have s5 := Stays.ofSet m2 AZ (T := 5) (by decide)
  have s84 := Stays.ofSet m2 AZ (T := 84) (by decide)
  have HF := hid (HMr.out.stays s5 s84)
  have HO := hid (show NRow D _ w.heap.size oa oc vs from ⟨row_kept_own AZ HN.out.ow m2 (by decide), fun v hv => (HN.out.ns v hv).stays s5 s84⟩)
  have B14 := hid (B3.out.grown m2 B3.out.size (fun k e => by cases e; exact hZ))
  have HM1 := hid m1
  clear m1 m2 s5 s84 HN HMr B3
  go_wp2_with (with_reducible refine at_store 33 ?_)
  unfold Hid
  refine wpList_store_row rfl 33 _ _ rfl Z tc rfl rfl 33 _ AZ (by rw [hsz14]; rfl) (by rw [hsz14]; rfl) hone ?_
  clear AZ
  generalize V3.setRow Z _ = V4 at *
  go_wp2_with fail
  refine hK1.out _ _ ?_
  go_wp2_with fail
  have hm1 := HM1.out
  rw [Htc.out] at hm1
  refine bodyPost_ret (results_c2 (fn := Try.f15) rfl _ V4 Z 33 _ _ rfl hm1 (by kernel_rfl) (by kernel_rfl)) rfl ?_
  exact ⟨⟨_, _, _, _, _, _, vs, rfl, HF.out, HO.out, HK.out⟩, B14.out⟩
end Go.Proofs.Ytopmamgdfngdoaa
/- deliver: Whole (walk 8). -/
namespace Go.Proofs.Ytopmamgdfngdoaa
set_option linter.unusedVariables false
open Go.RowKit

theorem results_t3 {P : Program} {fn : Func} {u v x : Tmp} (h : fn.results = #[.tmp u, .tmp v, .tmp x]) (tmps : Array Value) (w : World) : (results fn tmps).run P w = .ok (.tuple #[tmps.getD u undef, tmps.getD v undef, tmps.getD x undef]) w := by
  simp [results, h]
structure WholeR (D : DP) (W0 W : World) (t : TS) (e : Ending) : Prop where
  ex : (t.st = 3 ∧ ∃ a c, e = .returned (.tuple #[.string logS, .slice a D.P.F c, .int .i64 0]) ∧ Rd W a D.P.F c (vb D.fl)) ∨ (t.st = 0 ∧ e = .returned (.tuple #[.string { data := #[] }, .slice none 0 0, .int .i64 7]))
  blw : Below W0.heap.size W0 W
set_option maxRecDepth 1000000 in
set_option maxHeartbeats 8000000 in
theorem Whole_ok (D : DP) (hD : DOk D) (t : TS) (ha : Option Addr) (hn hc : Nat) (fa : Option Addr) (fn fc : Nat) (w : World) (hT : TI D.P t) (hhn : hn = t.hv.length) (hfn : fn = topH t.hv) (hM : TkT D w t ha hc fa fc) :
    Calls Try.prog 8 #[.agg (tcells D t ha hn hc fa fn fc)] w fun e w' => WholeR D w w' t e := by
  have hF := hD.P.F
  have hgv0 := hid (fun W h => takes_ok' D hD t ha hn hc fa fn fc W hT h)
  have HT := hid hT
  have hkn : Hid (t.kn = true → (if t.kn = true then logS else emS) = logS ∧ (if t.kn = true then (D.P.F : Int) else 0) = (D.P.F : Int)) := hid (fun h => by rw [h]; exact ⟨rfl, rfl⟩)
  have hss := hT.st
  unfold tcells at hgv0 ⊢
  generalize (if t.kn = true then logS else emS) = nm at *
  generalize (if t.kn = true then (D.P.F : Int) else 0) = sz at *
  generalize (if t.en = true then (D.P.F : Int) else 0) = la at *
  generalize (if t.en = true then (D.s : Int) else 0) = su at *
  have b1 := below_alloc w (.cells #[.int .i64 7, .bool t.kn, .string nm, .int .i64 sz, .bool t.en, .int .i64 la, .int .i64 su, .slice ha hn hc, .slice fa fn fc, .int .i64 (t.st : Int), .int .i64 (t.tm : Int), .int .i64 (D.P.p : Int), .int .i64 (t.tr : Int), .int .i64 100] 33)
  have A1 := hid (heap_alloc_new w (.cells #[.int .i64 7, .bool t.kn, .string nm, .int .i64 sz, .bool t.en, .int .i64 la, .int .i64 su, .slice ha hn hc, .slice fa fn fc, .int .i64 (t.st : Int), .int .i64 (t.tm : Int), .int .i64 (D.P.p : Int), .int .i64 (t.tr : Int), .int .i64 100] 33))
  have HM := hid (hM.below b1)
  have HB := hid b1
  have Hhn := hid hhn
  have Hfn := hid hfn
  clear hM b1 hhn hfn hT
  go_enter Try.func8, Try.ntmps8
  refine wp_seq_k (fun K0 hK0 => ?_)
  go_wp2_with fail
  refine hK0.out _ _ ?_
  obtain ⟨Y, hY⟩ : ∃ Y, Y = w.heap.size := ⟨_, rfl⟩
  rw [← hY] at A1 ⊢
  clear hY
  generalize w.alloc _ = V at *
  have hgv := hid (hgv0.out V (HM.out.tkm Hhn.out Hfn.out))
  clear hgv0
  refine wp_seq_k (fun K1 hK1 => ?_)
  refine wp_block ?_
  refine wp_seq_k (fun K2 hK2 => ?_)
  have A1' := A1.out
  go_wp2_with (with_reducible refine wpList_load_row (o := ⟨some 6, _, _, _, _, _⟩) rfl 33 _ rfl Y rfl 33 _ _ _ A1' Try.underlying33 rfl (by kernel_rfl) ?_)
  refine hgv.out.mono ?_
  rintro e V2 ⟨rfl, hb⟩
  have A2 := hid (row_below A1.out hb)
  have M2 := hid (HM.out.below hb)
  have B2 := hid (HB.out.trans (hb.mono HB.out.size))
  clear hb hgv A1 A1' HM HB
  go_wp2_with fail
  refine hK2.out _ _ ?_
  refine wp_cond_false rfl ?_
  have c9 : V2.cell? ⟨Y, 9, none⟩ = some (.int .i64 (t.st : Int)) := by rw [cell_of_row _ _ _ _ _ _ A2.out]; rfl
  refine wp_seq_k (fun K3 hK3 => ?_)
  rcases hss with h0 | h3
  · rw [h0] at c9
    go_wp2_with fail
    refine hK3.out _ _ ?_
    refine wp_cond_true rfl ?_
    clear c9
    go_wp2_with fail
    refine bodyPost_ret (results_t3 (fn := Try.f8) rfl _ _) rfl ?_
    exact ⟨.inr ⟨h0, rfl⟩, B2.out⟩
  · rw [h3] at c9
    obtain ⟨k1, k2, k3⟩ := HT.out.ov h3
    obtain ⟨n1, n2⟩ := hkn.out k1
    obtain ⟨f1, f2⟩ := fileT_all k3 HT.out.ris HT.out.top hD.len
    go_wp2_with fail
    refine hK3.out _ _ ?_
    refine wp_cond_false rfl ?_
    clear c9
    go_wp2_with fail
    refine hK1.out _ _ ?_
    have hdr := (Below.refl V2.heap.size V2).drew
    have A3 := hid (row_below A2.out hdr)
    have M3 := M2.out.below hdr
    have B3 := hid (B2.out.trans (hdr.mono B2.out.size))
    have hf := M3.f
    rw [f1, f2] at hf
    have hfF : fn = D.P.F := by rw [Hfn.out, f1]
    have HFr := hid hf
    rw [n1, n2, hfF] at A3
    clear hdr A2 M2 M3 B2 hf hfF f1 f2 n1 n2
    refine wp_seq_k (fun K4 hK4 => ?_)
    refine wp_region_can_all [7] [0, 1, 2, 3, 4, 5, 6, 7, 8, 9, 10] Ext Ext.refl Ext.trans (by kernel_rfl) (by kernel_rfl) ?_
    simp only [List.map_cons, List.map_nil, List.contains_cons, List.contains_nil, List.getD_cons_zero, List.getD_cons_succ, Nat.reduceBEq, Bool.or_false]
    generalize V2.drew = U at *
    have f2 : ∀ w', Ext U w' → w'.cell? ⟨Y, 2, none⟩ = some (.string logS) := fun w' hb => by rw [cell_of_row _ _ _ _ _ _ (row_below A3.out hb)]; rfl
    have f8 : ∀ w', Ext U w' → w'.cell? ⟨Y, 8, none⟩ = some (.slice fa D.P.F fc) := fun w' hb => by rw [cell_of_row _ _ _ _ _ _ (row_below A3.out hb)]; rfl
    have f3 : ∀ w', Ext U w' → w'.cell? ⟨Y, 3, none⟩ = some (.int .i64 (D.P.F : Int)) := fun w' hb => by rw [cell_of_row _ _ _ _ _ _ (row_below A3.out hb)]; rfl
    have hcut := cut_full HFr.out
    iterate 7 (refine wpL_do rfl (fun w' hw' => (by go_simp; rfl)) ?_; simp only [Act.put, List.setIfInBounds_toArray, List.set_cons_succ, List.set_cons_zero])
    clear f2 f8 f3 hcut
    have hcl := hid (cloneB fa D.P.F fc D.fl U HFr.out.rd (by omega))
    refine wpL_call rfl (fun K hK => ?_)
    go_wp2_with fail
    refine hcl.out.mono ?_
    rintro e U2 ⟨ca, cc, rfl, ho, hb⟩
    refine hK _ _ hb ?_
    clear hK K hcl
    try simp only [Act.put, List.setIfInBounds_toArray, List.set_cons_succ, List.set_cons_zero]
    have B4 := hid (B3.out.trans (hb.mono B3.out.size))
    have HO := hid (Rd.ofOwn ho)
    clear hb ho
    iterate 3 (refine wpL_do rfl (fun w' hw' => (by go_simp; rfl)) ?_; simp only [Act.put, List.setIfInBounds_toArray, List.set_cons_succ, List.set_cons_zero])
    refine wpL_nil ?_
    refine hK4.out _ _ ?_
    go_wp2_with fail
    refine bodyPost_ret (results_t3 (fn := Try.f8) rfl _ _) rfl ?_
    exact ⟨.inl ⟨h3, ca, cc, rfl, HO.out⟩, B4.out⟩
end Go.Proofs.Ytopmamgdfngdoaa
/- A function that ranges over functions in a loop leaves with a mark for each range: they are taken over one by one. -/
namespace Go.Proofs.Ytopmamgdfngdoaa
set_option linter.unusedVariables false
open Go.RowKit

/-- the marks of ranges that are over, each with its block from B on -/
def Marks (B : Nat) : List Deferred → World → Prop
  | [], _ => True
  | d :: ds, W => (∃ D, d = { target := .collected D, args := #[] } ∧ B ≤ D ∧ W.heap[D]? = some (.deferred (some []))) ∧ (∀ d' ∈ ds, d' ≠ d) ∧ Marks B ds W

theorem Marks.mono {B : Nat} {ds : List Deferred} {W W' : World} (h : Marks B ds W) (k : ∀ D, B ≤ D → ({ target := .collected D, args := #[] } : Deferred) ∈ ds → W.heap[D]? = some (.deferred (some [])) → W'.heap[D]? = some (.deferred (some []))) : Marks B ds W' := by
  induction ds with
  | nil => trivial
  | cons d ds ih =>
    obtain ⟨⟨D, rfl, hB, hD⟩, hn, hr⟩ := h
    exact ⟨⟨D, rfl, hB, k D hB List.mem_cons_self hD⟩, hn, ih hr (fun E hE hm => k E hE (List.mem_cons_of_mem _ hm))⟩
theorem Marks.below {B : Nat} {ds : List Deferred} {W W' : World} (h : Marks B ds W) (hb : Below W.heap.size W W') : Marks B ds W' :=
  h.mono fun D _ _ hD => (hb.block D (Array.getElem?_eq_some_iff.1 hD).1).trans hD
theorem Marks.grown {B : Nat} {ds : List Deferred} {W W' : World} {g : Nat} {cs : Array Value} {e : TypeId} (h : Marks B ds W) (hg : W.grownBy W' (some g)) (hc : W.heap[g]? = some (.cells cs e)) : Marks B ds W' :=
  h.mono fun D _ _ hD => (hg.block D (Array.getElem?_eq_some_iff.1 hD).1 (fun he => by cases he; rw [hc] at hD; cases hD)).trans hD
theorem Marks.lt {B : Nat} {ds : List Deferred} {W : World} (h : Marks B ds W) {D : Nat} (hD : W.heap.size ≤ D) : ∀ d' ∈ ds, d' ≠ ({ target := .collected D, args := #[] } : Deferred) := by
  induction ds with
  | nil => intro d' hd; cases hd
  | cons d ds ih =>
    obtain ⟨⟨E, rfl, hB, hE⟩, hn, hr⟩ := h
    intro d' hd
    rcases List.mem_cons.1 hd with rfl | h1
    · intro he
      have h2 : E = D := by injection he with h3 h4; injection h3
      have := (Array.getElem?_eq_some_iff.1 hE).1
      omega
    · exact ih hr d' h1

theorem leaves_marks {n B : Nat} {P : Program} {fn : Func} {tmps : Array Value} {R : Ending → World → Prop} : ∀ (ds : List Deferred) (W : World), Marks B ds W →
    (∀ W', Below B W W' → (∀ (g : Nat) (o : Obj), W.heap[g]? = some o → o.isCells = true → W'.heap[g]? = some o) → ∃ v, (results fn tmps).run P W' = .ok v W' ∧ R (.returned v) W') → LeavesInM Fence.wide n P fn tmps R ds .returning W
  | [], W, _, h => h W (Below.refl _ _) (fun _ _ h _ => h)
  | d :: ds, W, hM, h => by
    obtain ⟨⟨D, rfl, hB, hD⟩, hn, hr⟩ := hM
    have hlt := (Array.getElem?_eq_some_iff.1 hD).1
    have hg := grownBy_putObj' W D (.deferred none)
    refine ⟨by simp, .inl ⟨D, W.putObj D (.deferred none), rfl, run_takeDeferred hD, ?_⟩⟩
    refine leaves_marks ds _ (hr.mono fun E _ hm hE => (hg.block E (Array.getElem?_eq_some_iff.1 hE).1 (fun he => by cases he; exact hn _ hm rfl)).trans hE) (fun W' hb hk => ?_)
    refine h W' (((Below.refl B W).grown hg (by omega) (fun k e => by cases e; exact hB)).trans hb) (fun g o ho hc => hk g o ((hg.block g (Array.getElem?_eq_some_iff.1 ho).1 (fun he => ?_)).trans ho) hc)
    cases he
    rw [hD] at ho
    cases ho
    cases hc
end Go.Proofs.Ytopmamgdfngdoaa
