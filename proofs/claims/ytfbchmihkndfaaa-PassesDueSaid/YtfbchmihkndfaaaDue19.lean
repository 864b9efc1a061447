/- Passes: Choose. -/
import Derived.Test.YtfbchmihkndfaaaDue11
import Derived.Test.YtfbchmihkndfaaaDue18
namespace Go.Proofs.Ytfbchmihkndfaaa
set_option linter.unusedVariables false
open Go.RowKit

theorem Try.info59 : (Try.prog.info? 59).map (fun i => (i.zero, i.size, i.bytes)) = some (some (.agg #[.int .i64 0, .int .i64 0, .int .i64 0]), 3, 24) := by kernel_rfl
theorem run_mkB (m : Nat) (hm : m ≤ 1000000) (u : World) : (Instr.makeSlice 53 (.int .i64 (m : Int)) (.int .i64 (m : Int))).run Try.prog u =
    .ok (.slice (some ⟨u.heap.size, 0, none⟩) m m) (u.alloc (.cells (madeCells #[.int .i64 0, .int .i64 0, .int .i64 0] (m * 3)) 59)) := by
  obtain ⟨i0, hi, hz0, hz1, hz2⟩ := info_parts Try.info59
  have h := run_make (P := Try.prog) u 53 59 i0 (.agg #[.int .i64 0, .int .i64 0, .int .i64 0]) Try.underlying53 hi hz0 .i64 .i64 (m : Int) (m : Int) (by omega) (Int.le_refl _) (by rw [hz2]; omega) (by omega)
  simpa [hz1, Value.cells] using h
theorem madeB (n : Nat) (hn : n ≤ 9) : madeCells #[.int .i64 0, .int .i64 0, .int .i64 0] (n * 3) = ((List.replicate n (⟨0, 0, 0⟩ : Best)).flatMap bcl).toArray := by
  rcases (show n = 0 ∨ n = 1 ∨ n = 2 ∨ n = 3 ∨ n = 4 ∨ n = 5 ∨ n = 6 ∨ n = 7 ∨ n = 8 ∨ n = 9 by omega) with rfl | rfl | rfl | rfl | rfl | rfl | rfl | rfl | rfl | rfl <;> (apply Array.toList_inj.1; unfold madeCells; rw [Array.toList_map, Array.toList_range]; rfl)
def OrdI (W0 : World) (B X P bb n cap gap : Nat) (la : Option Addr) (l : List Ps) (bs : List Best) (y : Nat → Value) (W : World) : Prop :=
  ∃ k ov, k ≤ n ∧ y 2 = .pointer (some ⟨X, 0, none⟩) ∧ y 7 = .pointer (some ⟨P, 0, none⟩) ∧ y 8 = ov ∧ y 39 = .int .i64 (n : Int) ∧ y 40 = .int .i64 (k : Int) ∧ OwnAt W B 3 ov k (vi (List.range k)) ∧ W.heap[X]? = some (.cells #[.slice la n cap] 39) ∧ PlanM W P bb n cap gap la l bs ∧ Below B W0 W
set_option maxRecDepth 1000000 in
set_option maxHeartbeats 2000000 in
theorem ord_ok (B X P bb n cap gap : Nat) (la : Option Addr) (l : List Ps) (bs : List Best) (W0 : World) (hn : n ≤ 9) (hx : W0.heap[X]? = some (.cells #[.slice la n cap] 39)) (hM : PlanM W0 P bb n cap gap la l bs) (hB : B ≤ W0.heap.size) :
    Tri Try.prog 128 (pieceOf Try.f8 [1, 1, 1, 1, 0, 1]) (fun y w => y 2 = .pointer (some ⟨X, 0, none⟩) ∧ y 7 = .pointer (some ⟨P, 0, none⟩) ∧ y 8 = .slice none 0 0 ∧ y 39 = .int .i64 (n : Int) ∧ y 40 = .int .i64 0 ∧ w = W0)
      (fun _ _ y w => ∃ ov, y 2 = .pointer (some ⟨X, 0, none⟩) ∧ y 7 = .pointer (some ⟨P, 0, none⟩) ∧ y 8 = ov ∧ OwnAt w B 3 ov n (vi (List.range n)) ∧ w.heap[X]? = some (.cells #[.slice la n cap] 39) ∧ PlanM w P bb n cap gap la l bs ∧ Below B W0 w) := by
  rintro Q y w ⟨s2, s7, s8, s39, s40, rfl⟩ hQ
  have HQ := hid hQ
  have HM := hid hM
  have Hx := hid hx
  have HB := hid hB
  obtain ⟨i3, hi3, hz3, hs3, hb3⟩ := info_parts Try.info3
  clear hQ hM hx hB
  conv => arg 2; whnf
  rw [fr128]
  simp only [s2, s7, s8, s39, s40]
  clear s2 s7 s8 s39 s40
  refine wp_block ?_
  refine wp_loop_fr 128 (OrdI w B X P bb n cap gap la l bs) (fun y' _ => n - (intOf (y' 40)).toNat) ⟨rfl, rfl, 0, _, Nat.zero_le _, rfl, rfl, rfl, rfl, rfl, OwnAt.nil _ _ _, Hx.out, HM.out, Below.refl _ _⟩ ?_
  rintro z W ⟨k, ov, hk, s2, s7, s8, s39, s40, hown, hx1, hM1, hB1⟩
  rw [fr128]
  have hBW : B ≤ W.heap.size := by have := HB.out; have := hB1.size; omega
  by_cases hlt : k < n
  · obtain ⟨oa, oc, hoe, hole, homx⟩ := hown.form
    subst hoe
    have b1 := below_alloc W (.cells #[.int .i64 (k : Int)] 3)
    have r1 := heap_alloc_new W (.cells #[.int .i64 (k : Int)] 3)
    have o1 := hown.below b1
    have HM2 := hid (hM1.below b1)
    have Hx2 := hid (row_below hx1 b1)
    have HB2 := hid (hB1.trans (b1.mono hBW))
    have hbs := hid b1.size
    have d1 : decide ((k : Int) < (n : Int)) = true := decide_eq_true (by omega)
    have d2 : decide (k < n) = true := decide_eq_true hlt
    simp only [s2, s7, s8, s39, s40]
    clear s2 s7 s8 s39 s40 hown b1 hM1 hB1 hx1
    go_wp2_with (at_builtin; refine hold ?_)
    unfold Hid
    refine wpList_append_at rfl _ _ 23 rfl B 3 i3 (.int .i64 0) 8 Try.underlying23 hi3 hz3 hs3 hb3 rfl (.slice oa k oc) k (vi (List.range k)) rfl o1 ⟨W.heap.size, 0, none⟩ (.int .i64 (k : Int)) rfl (by rw [cell_of_row _ _ _ _ _ _ r1]; rfl) rfl (by unfold maxLen; omega) (by omega) (by have := hbs.out; omega) ?_
    intro v12 W12 o12 g12 fr12
    have hx3 : vi (List.range k) ++ [.int .i64 (k : Int)] = vi (List.range (k + 1)) := by rw [List.range_succ, vi_append]; rfl
    rw [hx3] at o12
    obtain ⟨oa2, oc2, hv12, hle2, _⟩ := o12.form
    subst hv12
    have hne : ∀ (b T : Nat) (cs : Array Value), 3 ≠ T → (W.alloc (.cells #[.int .i64 (k : Int)] 3)).heap[b]? = some (.cells cs T) → W12.heap[b]? = some (.cells cs T) := fun b T cs hT hr => (g12.block b (row_lt hr) (fun e => by
      rcases o1.ne hr hT with h4 | h4
      · rw [h4] at e; cases e
      · exact h4 e.symm)).trans hr
    have HM3 : Hid (PlanM W12 P bb n cap gap la l bs) := ⟨hne _ 55 _ (by decide) HM2.out.box, hne _ 59 _ (by decide) HM2.out.bst, HM2.out.bl, HM2.out.ps.kept g12 (fun b cs hr e => by
      rcases o1.ne hr (by decide) with h4 | h4
      · rw [h4] at e; cases e
      · exact h4 e)⟩
    have Hx3 := hid (hne _ 39 _ (by decide) Hx2.out)
    have HB3 := hid (HB2.out.grown g12 (by have := hbs.out; omega) (fun j hj => (o1.lt j hj).1))
    have O12 := hid o12
    clear hne o12 g12 fr12 hx3 o1 r1
    go_wp2_with fail
    refine ⟨rfl, rfl, ⟨k + 1, _, by omega, rfl, rfl, rfl, rfl, ?_, O12.out, Hx3.out, HM3.out, HB3.out⟩, ?_⟩
    · show Value.int .i64 _ = Value.int .i64 _
      go_num
    · show n - (intOf (Value.int .i64 _)).toNat < _
      simp [intOf]
      omega
  · obtain rfl : k = n := by omega
    have d1 : decide ((k : Int) < (k : Int)) = false := decide_eq_false (by omega)
    have HO := hid hown
    have HM1 := hid hM1
    have Hx1 := hid hx1
    have HB1 := hid hB1
    simp only [s2, s7, s8, s39, s40]
    clear s2 s7 s8 s39 s40 hown hM1 hB1 hx1
    go_wp2_with fail
    exact q_fr (N := 128) HQ.out rfl ⟨ov, rfl, rfl, rfl, HO.out, Hx1.out, HM1.out, HB1.out⟩
/-- what comes of Choose -/
structure ChoR (W0 W : World) (l : List Ps) (gap n : Nat) (e : Ending) : Prop where
  ex : ∃ out tot oa oc, e = .returned (.tuple #[.slice oa out.length oc, .int .i64 ((tot : Nat) : Int), .int .i64 0]) ∧ ChoP l gap n out tot ∧ OwnAt W W0.heap.size 3 (.slice oa out.length oc) out.length (vi out)
  blw : Below W0.heap.size W0 W
set_option maxRecDepth 1000000 in
set_option maxHeartbeats 4000000 in
theorem choose_ok (la : Option Addr) (n cap gap : Nat) (l : List Ps) (W0 : World) (hn1 : 1 ≤ n) (hn9 : n ≤ 9) (hg : GoodPs l) (hgap : gap ≤ 1000) (hr : RdPs W0 la n cap l) :
    Calls Try.prog 8 #[.slice la n cap, .int .i64 (gap : Int)] W0 fun e w' => ChoR W0 w' l gap n e := by
  have b1 := below_alloc W0 (.cells #[.slice la n cap] 39)
  have r1 := heap_alloc_new W0 (.cells #[.slice la n cap] 39)
  obtain ⟨X, hX⟩ : ∃ X, X = W0.heap.size := ⟨_, rfl⟩
  rw [← hX] at r1 b1
  have HX := hid hX
  have R1 := hid r1
  have B1 := hid b1
  have Hr1 := hid (hr.below (by rw [HX.out] at b1; exact b1))
  have Hg := hid hg
  have Hlen := hid hr.len
  have c0 : (W0.alloc (.cells #[.slice la n cap] 39)).cell? ⟨X, 0, none⟩ = some (.slice la n cap) := by rw [cell_of_row _ _ _ _ _ _ r1]; rfl
  have hho := has_ok la n cap l hg hn9 (W0.alloc (.cells #[.slice la n cap] 39)) Hr1.out
  clear hr hg r1 b1 hX
  go_enter Try.func8, Try.ntmps8
  refine wp_seq_k (fun K0 hK0 => ?_)
  go_wp2_with fail
  rw [← HX.out]
  refine hK0.out _ _ ?_
  generalize W0.alloc (.cells #[.slice la n cap] 39) = W1 at *
  refine wp_seq_k (fun K1 hK1 => ?_)
  go_wp2_with ((go_at_call 12; refine (in_yes _ _ _ _ (by omega) (by omega)).mono ?_; rintro e w' ⟨rfl, rfl⟩))
  refine hho.mono ?_
  rintro e W2 ⟨rfl, b2⟩
  have R2 := hid (row_below R1.out b2)
  have Hr2 := hid (Hr1.out.below b2)
  have B2 := hid (B1.out.trans (b2.mono (by have := B1.out.size; rw [← HX.out] at this; omega)))
  clear b2 hho c0
  go_wp2_with fail
  refine hK1.out _ _ ?_
  refine wp_seq_k (fun K5 hK5 => ?_)
  have hmb := run_mkB n (by omega)
  have HMB := hid (madeB n hn9)
  generalize madeCells #[.int .i64 0, .int .i64 0, .int .i64 0] (n * 3) = MB at *
  have hd2 : ∀ w', Below W2.heap.size W2.drew w' → Below W2.heap.size W2 w' := fun w' h => (Below.refl _ W2).drew.trans h
  have e0 : ∀ w', Below W2.heap.size W2.drew w' → w'.cell? ⟨X, 0, none⟩ = some (.slice la n cap) := fun w' h => by rw [cell_of_row _ _ _ _ _ _ (row_below R2.out (hd2 w' h))]; rfl
  refine wp_region_can_all [4, 6] [0, 1, 2, 3, 4, 5, 6, 7] (Below W2.heap.size) (fun _ => Below.refl _ _) (fun _ _ _ h k => h.trans k) (by kernel_rfl) (by kernel_rfl) ?_
  simp only [List.map_cons, List.map_nil, List.contains_cons, List.contains_nil, List.getD_cons_zero, List.getD_cons_succ, Nat.reduceBEq, Bool.or_false, Bool.or_true]
  have hdd := hid ((Below.refl W2.heap.size W2).drew)
  have hds : Hid (W2.drew.heap.size = W2.heap.size) := rfl
  clear hd2
  generalize W2.drew = U at *
  repeat (refine wpL_do rfl (fun w' hw' => (by go_simp; rfl)) ?_; simp only [Act.put, List.setIfInBounds_toArray, List.set_cons_succ, List.set_cons_zero])
  clear e0
  have b3 := below_alloc U (.cells MB 59)
  have r3 := heap_alloc_new U (.cells MB 59)
  obtain ⟨bb, hbb⟩ : ∃ bb, bb = U.heap.size := ⟨_, rfl⟩
  rw [← hbb] at r3
  have Hbb := hid hbb
  have HXbb := hid (show X ≤ bb by have h1 := B2.out.size; have h2 := hds.out; have h3 := HX.out; omega)
  clear hbb
  refine wpL_call rfl (fun K hK => ?_)
  go_wp2_with fail
  rw [← Hbb.out]
  refine hK _ _ (b3.mono (Nat.le_of_eq hds.out.symm)) ?_
  clear hK K hmb
  try simp only [Act.put, List.setIfInBounds_toArray, List.set_cons_succ, List.set_cons_zero]
  have B3 := hid b3
  have R3 := hid r3
  clear b3 r3
  generalize U.alloc (.cells MB 59) = U3 at *
  refine wpL_do rfl (fun w' hw' => (by go_simp; rfl)) ?_
  simp only [Act.put, List.setIfInBounds_toArray, List.set_cons_succ, List.set_cons_zero]
  have b4 := below_alloc U3 (.cells #[.slice la n cap, .int .i64 (gap : Int), .slice (some ⟨bb, 0, none⟩) n n] 55)
  have r4 := heap_alloc_new U3 (.cells #[.slice la n cap, .int .i64 (gap : Int), .slice (some ⟨bb, 0, none⟩) n n] 55)
  obtain ⟨P, hP⟩ : ∃ P, P = U3.heap.size := ⟨_, rfl⟩
  rw [← hP] at r4
  have HP := hid hP
  clear hP
  refine wpL_call rfl (fun K hK => ?_)
  go_wp2_with fail
  rw [← HP.out]
  refine hK _ _ (b4.mono (by have := B3.out.size; have := hds.out; omega)) ?_
  clear hK K
  try simp only [Act.put, List.setIfInBounds_toArray, List.set_cons_succ, List.set_cons_zero]
  have B4 := hid b4
  have R4 := hid r4
  clear b4 r4
  generalize U3.alloc (.cells #[.slice la n cap, .int .i64 (gap : Int), .slice (some ⟨bb, 0, none⟩) n n] 55) = U4 at *
  refine wpL_do rfl (fun w' hw' => (by go_simp; rfl)) ?_
  simp only [Act.put, List.setIfInBounds_toArray, List.set_cons_succ, List.set_cons_zero]
  refine wpL_nil ?_
  refine hK5.out _ _ ?_
  have hb24 : Below W2.heap.size W2 U4 := (hdd.out.trans (B3.out.mono (Nat.le_of_eq hds.out.symm))).trans (B4.out.mono (by have := B3.out.size; have := hds.out; omega))
  have HPM : Hid (PlanM U4 P bb n cap gap la l (List.replicate n ⟨0, 0, 0⟩)) := ⟨R4.out, row_below (by rw [← HMB.out]; exact R3.out) B4.out, List.length_replicate, Hr2.out.below hb24⟩
  have Hx4 := hid (row_below R2.out hb24)
  have B24 := hid (B2.out.trans (hb24.mono (by have := B2.out.size; rw [← HX.out] at this; omega)))
  clear hb24 R4 R3 B3 B4 HMB hdd hds
  refine wp_seq_k (fun K6 hK6 => ?_)
  go_wp2_with fail
  refine hK6.out _ _ ?_
  have x0 : U4.cell? ⟨X, 0, none⟩ = some (.slice la n cap) := by rw [cell_of_row _ _ _ _ _ _ Hx4.out]; rfl
  refine wp_seq_k (fun K7 hK7 => ?_)
  refine wp_seq_k (fun K8 hK8 => ?_)
  go_wp2_with fail
  refine hK8.out _ _ ?_
  clear x0
  have hBX : X ≤ U4.heap.size := by have := B24.out.size; rw [← HX.out] at this; exact this
  refine Tri.use (ord_ok X X P bb n cap gap la l (List.replicate n ⟨0, 0, 0⟩) U4 hn9 Hx4.out HPM.out hBX) rfl ⟨rfl, rfl, rfl, rfl, rfl, rfl⟩ ?_
  rintro y5 W5 ⟨ov, s2, s7, s8, hown, hx5, hM5, hb5⟩
  refine hK7.out _ _ ?_
  obtain ⟨g, o, c, rfl, hgX, hgl, _⟩ := hown.at_ (by omega)
  have hsrt := sort_ok X X g o c n cap la l (List.range n) W5 ⟨hn1, hn9, Hg.out, hx5, hM5.ps, hown, fun x hx => List.mem_range.1 hx, List.length_range⟩
  have HM5 := hid hM5
  have Hx5 := hid hx5
  have B5 := hid (B24.out.trans hb5)
  have Hown := hid hown
  have HgX := hid hgX
  clear hown hx5 hM5 hb5 hgl
  rw [fr128]
  simp only [s2, s7, s8]
  clear s2 s7 s8
  refine wp_seq_k (fun K9 hK9 => ?_)
  go_wp2_with fail
  refine hsrt.mono ?_
  intro e W6 hS
  obtain rfl := hS.e
  obtain ⟨⟨L, ho6, hperm, hdesc⟩, _, hg6⟩ := hS
  have hnx : ∀ b cs T, 3 ≠ T → W5.heap[b]? = some (.cells cs T) → b ≠ g := fun b cs T hT hr e => by
    rcases Hown.out.ne hr hT with h4 | h4
    · cases h4
    · exact h4 (by rw [e]; rfl)
  have hM6 : PlanM W6 P bb n cap gap la l (List.replicate n ⟨0, 0, 0⟩) := ⟨row_grown HM5.out.box hg6 (hnx _ _ 55 (by decide) HM5.out.box), row_grown HM5.out.bst hg6 (hnx _ _ 59 (by decide) HM5.out.bst), HM5.out.bl, HM5.out.ps.kept hg6 (fun b cs hr e => hnx b cs 41 (by decide) hr (by cases e; rfl))⟩
  have HCM : Hid (CM W6 X X P bb g o c n cap gap la l L (List.replicate n ⟨0, 0, 0⟩)) := ⟨row_grown Hx5.out hg6 (hnx _ _ 39 (by decide) Hx5.out), hM6, ho6⟩
  have HCO : Hid (CO n gap l L) := ⟨hn1, hn9, Hg.out, Hlen.out, hgap, hperm, hdesc⟩
  have B6 := hid (B5.out.grown hg6 (by have := B5.out.size; rw [← HX.out] at this; exact this) (fun k e => by cases e; exact HgX.out))
  clear ho6 hperm hdesc hg6 hnx hM6 hsrt
  go_wp2_with fail
  refine hK9.out _ _ ?_
  refine wp_seq_k (fun K10 hK10 => ?_)
  go_wp2_with fail
  refine hK10.out _ _ ?_
  refine wp_seq_k (fun K11 hK11 => ?_)
  refine wp_seq_k (fun K12 hK12 => ?_)
  go_wp2_with fail
  refine hK12.out _ _ ?_
  refine Tri.use (rounds_ok X X P bb g o c n cap gap la l L (List.replicate n ⟨0, 0, 0⟩) W6 HCO.out HCM.out List.length_replicate) rfl ⟨⟨rfl, rfl, rfl, rfl, rfl, rfl, rfl⟩, rfl⟩ ?_
  rintro y7 W7 ⟨first, bs, ⟨s2, s7, s8, s10, s51, s52, s53⟩, hM7, hD7, hg7⟩
  refine hK11.out _ _ ?_
  have HM7 := hid hM7
  have HD7 := hid hD7
  have hXbb : X ≤ bb := HXbb.out
  have B7 := hid (B6.out.grown hg7 (by have := B6.out.size; rw [← HX.out] at this; exact this) (fun k e => by cases e; exact hXbb))
  clear hM7 hD7 hg7
  rw [fr128]
  simp only [s2, s7, s8, s10, s51, s52, s53]
  clear s2 s7 s8 s10 s51 s52 s53
  refine wp_seq_k (fun K13 hK13 => ?_)
  go_wp2_with fail
  refine hK13.out _ _ ?_
  refine wp_seq_k (fun K14 hK14 => ?_)
  refine wp_seq_k (fun K15 hK15 => ?_)
  go_wp2_with fail
  refine hK15.out _ _ ?_
  refine Tri.use (tell_ok W7.heap.size P bb n cap gap la l L bs first W7 HCO.out HM7.out.p HD7.out rfl) rfl ⟨rfl, rfl, rfl, rfl, rfl⟩ ?_
  rintro y8 W8 ⟨out, ov8, s7, s10, s17, hC8, hM8, ho8, hb8⟩
  refine hK14.out _ _ ?_
  have hfl : first < (n : Int) := by
    rcases HD7.out.fst with h | ⟨a, ha, h⟩
    · rw [h]; omega
    · have := HCO.out.lt a (by omega); rw [h]; omega
  have hof := of_ok P bb n cap gap la l bs first hfl hn9 W8 hM8
  obtain ⟨oa, oc, rfl, _, _⟩ := ho8.form
  have HC8 := hid hC8
  have HX7 := hid (show X ≤ W7.heap.size by have := B7.out.size; rw [← HX.out] at this; exact this)
  have HO8 := hid (ho8.mono HX7.out)
  have B8 := hid (B7.out.trans (hb8.mono HX7.out))
  clear hC8 hM8 ho8 hb8
  rw [fr128]
  simp only [s7, s10, s17]
  clear s7 s10 s17
  go_wp2_with fail
  refine hof.mono ?_
  rintro e W9 ⟨rfl, b9⟩
  have HO9 := hid (HO8.out.below b9)
  have B9 := hid (B8.out.trans (b9.mono (by have := B8.out.size; rw [← HX.out] at this; exact this)))
  clear b9 hof
  have hfd : ∀ (a b c : Int) (W : World), (Instr.field 59 (.agg #[.int .i64 a, .int .i64 b, .int .i64 c]) 0).run Try.prog W = .ok (.int .i64 a) W := fun _ _ _ _ => by kernel_rfl
  generalize (ofB bs first).w = tot at *
  go_wp2_with fail
  go_ret3
  exact ⟨⟨out, tot, oa, oc, rfl, HC8.out, by rw [← HX.out]; exact HO9.out⟩, by rw [← HX.out]; exact B9.out⟩
end Go.Proofs.Ytfbchmihkndfaaa
/- Passes: Choose of no passes. -/
namespace Go.Proofs.Ytfbchmihkndfaaa
set_option linter.unusedVariables false
open Go.RowKit

set_option maxRecDepth 1000000 in
theorem ins0 (f : Value) (w : World) : Calls Try.prog 42 #[.slice none 0 0, .int .i64 0, .int .i64 0, f] w fun e w' => e = .returned (.tuple #[]) ∧ w' = w := by
  go_enter Try.func42, Try.ntmps42
  go_wp2_with fail
  refine wp_loop_rounds 1 ?_
  rw [rounds_succ]
  go_wp2_with fail
  go_end0
  exact ⟨rfl, rfl⟩
set_option maxRecDepth 1000000 in
theorem pdq0 (r : Int) (f : Value) (w : World) : Calls Try.prog 33 #[.slice none 0 0, .int .i64 0, .int .i64 0, .int .i64 r, f] w fun e w' => e = .returned (.tuple #[]) ∧ w' = w := by
  have hi := ins0 f w
  go_enter Try.func33, Try.ntmps33
  go_wp2_with fail
  refine wp_loop_rounds 1 ?_
  rw [rounds_succ]
  go_wp2_with fail
  refine hi.mono ?_
  rintro e w' ⟨rfl, hw⟩
  rw [hw]
  clear hw w'
  go_wp2_with fail
  exact bodyPost_ret (v := .tuple #[]) (by simp [results, Try.results33, go_sem]) rfl ⟨rfl, rfl⟩
set_option maxRecDepth 1000000 in
theorem sort0 (f : Value) (w : World) : Calls Try.prog 15 #[.slice none 0 0, f] w fun e w' => e = .returned (.tuple #[]) ∧ w' = w := by
  have hi := fun r => pdq0 r f w
  have hle := len_any 0 w (by decide)
  go_enter Try.func15, Try.ntmps15
  go_wp2_with fail
  refine hle.mono ?_
  rintro e w' ⟨r, rfl, hw⟩
  rw [hw]
  clear hw w'
  go_wp2_with fail
  refine (hi r).mono ?_
  rintro e w' ⟨rfl, hw⟩
  rw [hw]
  clear hw w'
  go_wp2_with fail
  go_end0
  exact ⟨rfl, rfl⟩
set_option maxRecDepth 1000000 in
set_option maxHeartbeats 4000000 in
theorem choose_0 (gap : Nat) (W0 : World) (hgap : gap ≤ 1000) :
    Calls Try.prog 8 #[.slice none 0 0, .int .i64 (gap : Int)] W0 fun e w' => e = .returned (.tuple #[.slice none 0 0, .int .i64 0, .int .i64 0]) ∧ Below W0.heap.size W0 w' := by
  have b1 := below_alloc W0 (.cells #[.slice none 0 0] 39)
  have r1 := heap_alloc_new W0 (.cells #[.slice none 0 0] 39)
  obtain ⟨X, hX⟩ : ∃ X, X = W0.heap.size := ⟨_, rfl⟩
  rw [← hX] at r1 b1
  have HX := hid hX
  have R1 := hid r1
  have B1 := hid b1
  have c0 : (W0.alloc (.cells #[.slice none 0 0] 39)).cell? ⟨X, 0, none⟩ = some (.slice none 0 0) := by rw [cell_of_row _ _ _ _ _ _ r1]; rfl
  have hho := has_ok none 0 0 [] (fun i hi => by simp at hi) (by decide) (W0.alloc (.cells #[.slice none 0 0] 39)) ⟨rfl, Nat.le_refl _, by unfold maxLen; omega, fun h => by omega⟩
  clear r1 b1 hX
  go_enter Try.func8, Try.ntmps8
  refine wp_seq_k (fun K0 hK0 => ?_)
  go_wp2_with fail
  rw [← HX.out]
  refine hK0.out _ _ ?_
  generalize W0.alloc (.cells #[.slice none 0 0] 39) = W1 at *
  refine wp_seq_k (fun K1 hK1 => ?_)
  go_wp2_with ((go_at_call 12; refine (in_yes _ _ _ _ (by omega) (by omega)).mono ?_; rintro e w' ⟨rfl, rfl⟩))
  refine hho.mono ?_
  rintro e W2 ⟨rfl, b2⟩
  have R2 := hid (row_below R1.out b2)
  have B2 := hid (B1.out.trans (b2.mono (by have := B1.out.size; rw [← HX.out] at this; omega)))
  clear b2 hho c0
  go_wp2_with fail
  refine hK1.out _ _ ?_
  refine wp_seq_k (fun K5 hK5 => ?_)
  have hmb := run_mkB 0 (by omega)
  have hmb : ∀ (u : World), (Instr.makeSlice 53 (.int .i64 0) (.int .i64 0)).run Try.prog u = .ok (.slice (some ⟨u.heap.size, 0, none⟩) 0 0) (u.alloc (.cells (madeCells #[.int .i64 0, .int .i64 0, .int .i64 0] (0 * 3)) 59)) := hmb
  generalize madeCells #[.int .i64 0, .int .i64 0, .int .i64 0] (0 * 3) = MB at *
  have hd2 : ∀ w', Below W2.heap.size W2.drew w' → Below W2.heap.size W2 w' := fun w' h => (Below.refl _ W2).drew.trans h
  have e0 : ∀ w', Below W2.heap.size W2.drew w' → w'.cell? ⟨X, 0, none⟩ = some (.slice none 0 0) := fun w' h => by rw [cell_of_row _ _ _ _ _ _ (row_below R2.out (hd2 w' h))]; rfl
  refine wp_region_can_all [4, 6] [0, 1, 2, 3, 4, 5, 6, 7] (Below W2.heap.size) (fun _ => Below.refl _ _) (fun _ _ _ h k => h.trans k) (by kernel_rfl) (by kernel_rfl) ?_
  simp only [List.map_cons, List.map_nil, List.contains_cons, List.contains_nil, List.getD_cons_zero, List.getD_cons_succ, Nat.reduceBEq, Bool.or_false, Bool.or_true]
  have hdd := hid ((Below.refl W2.heap.size W2).drew)
  have hds : Hid (W2.drew.heap.size = W2.heap.size) := rfl
  clear hd2
  generalize W2.drew = U at *
  repeat (refine wpL_do rfl (fun w' hw' => (by go_simp; rfl)) ?_; simp only [Act.put, List.setIfInBounds_toArray, List.set_cons_succ, List.set_cons_zero])
  clear e0
  have B3 := hid (below_alloc U (.cells MB 59))
  refine wpL_call rfl (fun K hK => ?_)
  go_wp2_with fail
  refine hK _ _ (B3.out.mono (Nat.le_of_eq hds.out.symm)) ?_
  clear hK K hmb
  try simp only [Act.put, List.setIfInBounds_toArray, List.set_cons_succ, List.set_cons_zero]
  obtain ⟨bb, hbb⟩ : ∃ bb, bb = U.heap.size := ⟨_, rfl⟩
  rw [← hbb]
  clear hbb
  generalize U.alloc (.cells MB 59) = U3 at *
  refine wpL_do rfl (fun w' hw' => (by go_simp; rfl)) ?_
  simp only [Act.put, List.setIfInBounds_toArray, List.set_cons_succ, List.set_cons_zero]
  have B4 := hid (below_alloc U3 (.cells #[.slice none 0 0, .int .i64 (gap : Int), .slice (some ⟨bb, 0, none⟩) 0 0] 55))
  have R4 := hid (heap_alloc_new U3 (.cells #[.slice none 0 0, .int .i64 (gap : Int), .slice (some ⟨bb, 0, none⟩) 0 0] 55))
  refine wpL_call rfl (fun K hK => ?_)
  go_wp2_with fail
  refine hK _ _ (B4.out.mono (by have := B3.out.size; have := hds.out; omega)) ?_
  clear hK K
  try simp only [Act.put, List.setIfInBounds_toArray, List.set_cons_succ, List.set_cons_zero]
  obtain ⟨P, hP⟩ : ∃ P, P = U3.heap.size := ⟨_, rfl⟩
  rw [← hP] at R4 ⊢
  clear hP
  generalize U3.alloc (.cells #[.slice none 0 0, .int .i64 (gap : Int), .slice (some ⟨bb, 0, none⟩) 0 0] 55) = U4 at *
  refine wpL_do rfl (fun w' hw' => (by go_simp; rfl)) ?_
  simp only [Act.put, List.setIfInBounds_toArray, List.set_cons_succ, List.set_cons_zero]
  refine wpL_nil ?_
  refine hK5.out _ _ ?_
  have hb24 : Below W2.heap.size W2 U4 := (hdd.out.trans (B3.out.mono (Nat.le_of_eq hds.out.symm))).trans (B4.out.mono (by have := B3.out.size; have := hds.out; omega))
  have Hx4 := hid (row_below R2.out hb24)
  have B24 := hid (B2.out.trans (hb24.mono (by have := B2.out.size; rw [← HX.out] at this; omega)))
  clear hb24 B3 B4 hdd hds
  have x0 : U4.cell? ⟨X, 0, none⟩ = some (.slice none 0 0) := by rw [cell_of_row _ _ _ _ _ _ Hx4.out]; rfl
  have hs := sort0 (.func (.func 16) #[] #[.pointer (some ⟨X, 0, none⟩)]) U4
  refine wp_seq_k (fun K6 hK6 => ?_)
  go_wp2_with fail
  refine hK6.out _ _ ?_
  refine wp_seq_k (fun K7 hK7 => ?_)
  go_wp2_with fail
  refine wp_loop_rounds 1 ?_
  rw [rounds_succ]
  go_wp2_with fail
  refine hK7.out _ _ ?_
  clear x0
  refine wp_seq_k (fun K9 hK9 => ?_)
  go_wp2_with fail
  refine hs.mono ?_
  rintro e w' ⟨rfl, hw⟩
  rw [hw]
  clear hw w' hs
  go_wp2_with fail
  refine hK9.out _ _ ?_
  refine wp_seq_k (fun K10 hK10 => ?_)
  go_wp2_with fail
  refine hK10.out _ _ ?_
  refine wp_seq_k (fun K11 hK11 => ?_)
  go_wp2_with fail
  refine wp_loop_rounds 1 ?_
  rw [rounds_succ]
  go_wp2_with fail
  refine hK11.out _ _ ?_
  refine wp_seq_k (fun K13 hK13 => ?_)
  go_wp2_with fail
  refine hK13.out _ _ ?_
  refine wp_seq_k (fun K14 hK14 => ?_)
  go_wp2_with fail
  refine wp_loop_rounds 1 ?_
  rw [rounds_succ]
  go_wp2_with fail
  refine hK14.out _ _ ?_
  have hof : Calls Try.prog 19 #[.pointer (some ⟨P, 0, none⟩), .int .i64 (-1)] U4 fun e w' => e = .returned (.agg #[.int .i64 0, .int .i64 0, .int .i64 (-1)]) ∧ Below U4.heap.size U4 w' := by
    have b9 := hid (below_alloc U4 (.cells #[.int .i64 0, .int .i64 0, .int .i64 (-1)] 59))
    have r9 := hid (heap_alloc_new U4 (.cells #[.int .i64 0, .int .i64 0, .int .i64 (-1)] 59))
    clear hK14 hK13 hK11 hK10 hK9 hK7 hK6 hK5 hK1 hK0
    go_enter Try.func19, Try.ntmps19
    go_wp2_with fail
    generalize U4.alloc (.cells #[.int .i64 0, .int .i64 0, .int .i64 (-1)] 59) = U at *
    exact bodyPost_ret (results_cell_row rfl _ _ U4.heap.size 59 #[.int .i64 0, .int .i64 0, .int .i64 (-1)] (0, 0) _ rfl r9.out Try.underlying59 rfl (by kernel_rfl)) rfl ⟨rfl, b9.out⟩
  have hfd : ∀ (a b c : Int) (W : World), (Instr.field 59 (.agg #[.int .i64 a, .int .i64 b, .int .i64 c]) 0).run Try.prog W = .ok (.int .i64 a) W := fun _ _ _ _ => by kernel_rfl
  go_wp2_with fail
  refine hof.mono ?_
  rintro e W9 ⟨rfl, b9⟩
  have B9 := hid (B24.out.trans (b9.mono (by have := B24.out.size; rw [← HX.out] at this; exact this)))
  clear b9 hof
  go_wp2_with fail
  go_ret3
  exact ⟨rfl, by rw [← HX.out]; exact B9.out⟩
end Go.Proofs.Ytfbchmihkndfaaa
/- PassesDue: share: all of it. -/
namespace Go.Proofs.Ytfbchmihkndfaaa
set_option linter.unusedVariables false
open Go.RowKit

set_option maxRecDepth 1000000 in
theorem insE (oa : Option Addr) (oc : Nat) (f : Value) (w : World) : Calls Try.prog 42 #[.slice oa 0 oc, .int .i64 0, .int .i64 0, f] w fun e w' => e = .returned (.tuple #[]) ∧ w' = w := by
  go_enter Try.func42, Try.ntmps42
  go_wp2_with fail
  refine wp_loop_rounds 1 ?_
  rw [rounds_succ]
  go_wp2_with fail
  go_end0
  exact ⟨rfl, rfl⟩
set_option maxRecDepth 1000000 in
theorem stabE (oa : Option Addr) (oc : Nat) (f : Value) (w : World) : Calls Try.prog 39 #[.slice oa 0 oc, .int .i64 0, f] w fun e w' => e = .returned (.tuple #[]) ∧ w' = w := by
  have hi := insE oa oc f w
  go_enter Try.func39, Try.ntmps39
  refine wp_seq_k (fun K1 hK1 => ?_)
  go_wp2_with fail
  refine hK1.out _ _ ?_
  refine wp_seq_k (fun K2 hK2 => ?_)
  go_wp2_with fail
  refine hK2.out _ _ ?_
  refine wp_seq_k (fun K3 hK3 => ?_)
  go_wp2_with fail
  refine wp_loop_rounds 1 ?_
  rw [rounds_succ]
  go_wp2_with fail
  refine hK3.out _ _ ?_
  refine wp_seq_k (fun K4 hK4 => ?_)
  go_wp2_with fail
  refine hi.mono ?_
  rintro e w' ⟨rfl, hw⟩
  rw [hw]
  clear hw w' hi
  go_wp2_with fail
  refine hK4.out _ _ ?_
  go_wp2_with fail
  refine wp_loop_rounds 1 ?_
  rw [rounds_succ]
  go_wp2_with fail
  go_end0
  exact ⟨rfl, rfl⟩
set_option maxRecDepth 1000000 in
theorem sortE (oa : Option Addr) (oc : Nat) (f : Value) (w : World) : Calls Try.prog 26 #[.slice oa 0 oc, f] w fun e w' => e = .returned (.tuple #[]) ∧ w' = w := by
  have hi := stabE oa oc f w
  go_enter Try.func26, Try.ntmps26
  go_wp2_with fail
  refine hi.mono ?_
  rintro e w' ⟨rfl, hw⟩
  rw [hw]
  clear hw w'
  go_wp2_with fail
  go_end0
  exact ⟨rfl, rfl⟩
/-- the sort of the order, be it empty or not -/
structure OrJR (W0 W : World) (B : Nat) (F : Nat → Nat) (L0 : List Nat) (oa : Option Addr) (oc : Nat) (e : Ending) : Prop where
  ex : ∃ L', L'.length = L0.length ∧ OwnAt W B 3 (.slice oa L0.length oc) L0.length (vi L') ∧ L'.Perm L0 ∧ Desc (kf F) L'
  e : e = .returned (.tuple #[])
  kp : Kp B [] W0 W
theorem ord_j (B X m jb nc : Nat) (F Y N : Nat → Nat) (L0 : List Nat) (oa : Option Addr) (oc : Nat) (W0 : World) (hB : B ≤ W0.heap.size) (h9 : L0.length ≤ 9) (hjo : JO W0 X jb m nc F Y N) (ho : OwnAt W0 B 3 (.slice oa L0.length oc) L0.length (vi L0)) (hlt : ∀ x ∈ L0, x < m) :
    Calls Try.prog 26 #[.slice oa L0.length oc, .func (.func 27) #[] #[.pointer (some ⟨X, 0, none⟩)]] W0 fun e w' => OrJR W0 w' B F L0 oa oc e := by
  cases L0 with
  | nil =>
    refine (sortE oa oc _ W0).mono ?_
    rintro e w' ⟨rfl, rfl⟩
    exact ⟨⟨[], rfl, ho, List.Perm.refl _, List.Pairwise.nil⟩, rfl, Kp.refl _ _ _⟩
  | cons x L =>
    obtain ⟨g, o, c, hsl, hgB, hgl, _⟩ := ho.at_ (by simp)
    have hoc : oc = c := by cases hsl; rfl
    have hoa : oa = some ⟨g, o, none⟩ := by cases hsl; rfl
    subst hoc hoa
    refine (sort_j B X g o oc (x :: L).length m jb nc F Y N (x :: L) W0 ⟨by simp, h9, hjo, ho, hlt, rfl⟩).mono ?_
    intro e w' h
    obtain ⟨L', h1, h2, h3⟩ := h.ex
    exact ⟨⟨L', h2.length_eq, h1, h2, h3⟩, h.e, Kp.of_gb h.gb hB (.inl hgB)⟩
theorem desc_kf {F : Nat → Nat} {m : Nat} {L : List Nat} (h : Desc (kf F) L) (hm : ∀ x ∈ L, x < m) (hF : ∀ i, i < m → F i ≤ 1000) : L.Pairwise (fun a b => F a ≤ F b) := by
  refine List.Pairwise.imp_of_mem ?_ h
  intro a b ha hb hab
  have := hF a (hm a ha)
  have := hF b (hm b hb)
  unfold kf at hab
  omega
theorem run_mkM (m : Nat) (hm : m ≤ 9) (u : World) : (Instr.makeSlice 23 (.int .i64 (m : Int)) (.int .i64 (m : Int))).run Try.prog u =
    .ok (.slice (some ⟨u.heap.size, 0, none⟩) m m) (u.alloc (.cells (madeCells #[.int .i64 0] (m * 1)) 3)) := by
  obtain ⟨i0, hi, hz0, hz1, hz2⟩ := info_parts Try.info3
  have h := run_make (P := Try.prog) u 23 3 i0 (.int .i64 0) Try.underlying23 hi hz0 .i64 .i64 (m : Int) (m : Int) (by omega) (Int.le_refl _) (by rw [hz2]; omega) (by omega)
  simpa [hz1, Value.cells] using h
end Go.Proofs.Ytfbchmihkndfaaa
