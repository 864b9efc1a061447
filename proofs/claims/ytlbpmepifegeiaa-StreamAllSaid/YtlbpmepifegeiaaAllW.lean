/- StreamAll: the walk. -/
import Derived.Test.YtlbpmepifegeiaaOneL
import Derived.Test.YtlbpmepifegeiaaRowsS
import Derived.Test.YtlbpmepifegeiaaLawQ
import Derived.Test.YtlbpmepifegeiaaPick
import Derived.Test.YtlbpmepifegeiaaRegion
import Derived.Test.YtlbpmepifegeiaaOpenS
namespace Go.Proofs.Ytlbpmepifegeiaa
set_option linter.unusedVariables false
set_option linter.unusedSimpArgs false
open Go.RowKit

/-- a rule in its box -/
theorem four {W : World} {b : Nat} {r0 r1 r2 r3 : Value} (h : W.heap[b]? = some (.cells #[r0, r1, r2, r3] 23)) (x0 x1 x2 x3 : Value) :
    ((((W.setCell ⟨b, 0, none⟩ x0).setCell ⟨b, 1, none⟩ x1).setCell ⟨b, 2, none⟩ x2).setCell ⟨b, 3, none⟩ x3).heap[b]? = some (.cells #[x0, x1, x2, x3] 23) ∧ W.grownBy ((((W.setCell ⟨b, 0, none⟩ x0).setCell ⟨b, 1, none⟩ x1).setCell ⟨b, 2, none⟩ x2).setCell ⟨b, 3, none⟩ x3) (some b) := by
  obtain ⟨h0, g0⟩ := set_row h 0 x0 rfl
  obtain ⟨h1, g1⟩ := set_row h0 1 x1 rfl
  obtain ⟨h2, g2⟩ := set_row h1 2 x2 rfl
  obtain ⟨h3, g3⟩ := set_row h2 3 x3 rfl
  exact ⟨h3, grownBy_trans (grownBy_trans (grownBy_trans g0 g1) g2) g3⟩

set_option maxRecDepth 100000 in
set_option maxHeartbeats 4000000 in
theorem all_ok (r0 r1 r2 r3 : Int) (h0 : I64 r0) (h1 : I64 r1) (h2 : I64 r2) (h3 : I64 r3) (pa : Option Addr) (pn pc : Nat) (hs : List Hd) (pss : List (List Nat)) (t : Bool) (w : World) (hp : PcsAt w pa pn pc hs pss) (hpn : pn ≤ 140737488355328) :
    Calls Try.prog 4 #[.agg #[.int .i64 r0, .int .i64 r1, .int .i64 r2, .int .i64 r3], .slice pa pn pc, .bool t] w fun e w' => e = .returned (.bool true) ∧ Below w.heap.size w w' := by
  have bx := below_alloc w (.cells #[.int .i64 r0, .int .i64 r1, .int .i64 r2, .int .i64 r3] 23)
  have hx := heap_alloc_new w (.cells #[.int .i64 r0, .int .i64 r1, .int .i64 r2, .int .i64 r3] 23)
  go_enter Try.func4, Try.ntmps4
  go_upto_region 1 with fail
  obtain ⟨W0, hW0⟩ : ∃ W0, W0 = w.alloc (.cells #[.int .i64 r0, .int .i64 r1, .int .i64 r2, .int .i64 r3] 23) := ⟨_, rfl⟩
  rw [← hW0] at bx hx ⊢
  have HW0 := hid hW0
  clear hW0
  obtain ⟨b, hb⟩ : ∃ b, b = w.heap.size := ⟨_, rfl⟩
  rw [← hb] at hx ⊢
  have Hb := hid hb
  clear hb
  refine wp_region_can 14 [2, 6, 9, 12] [0, 1, 4, 5, 7, 8, 10, 11, 2, 3, 6, 9, 12, 13] (fun u u' => u' = u) (fun _ => rfl) (fun _ _ _ h k => k.trans h) (by kernel_rfl) (by kernel_rfl) ?_
  simp only [List.map_cons, List.map_nil, List.contains_cons, List.contains_nil, List.getD_cons_zero, List.getD_cons_succ, Nat.reduceBEq, Bool.or_false, Bool.or_true]
  have bV : Below w.heap.size w W0.drew := bx.drew
  have hV : W0.drew.heap[b]? = some (.cells #[.int .i64 r0, .int .i64 r1, .int .i64 r2, .int .i64 r3] 23) := hx
  generalize W0.drew = V at *
  clear HW0 bx hx
  have c0 : ∀ w', w' = V → w'.cell? ⟨b, 0, none⟩ = some (.int .i64 r0) := fun w' hw => by rw [hw, cell_of_row _ _ _ _ _ _ hV]; rfl
  have c1 : ∀ w', w' = V → w'.cell? ⟨b, 1, none⟩ = some (.int .i64 r1) := fun w' hw => by rw [hw, cell_of_row _ _ _ _ _ _ hV]; rfl
  have c2 : ∀ w', w' = V → w'.cell? ⟨b, 2, none⟩ = some (.int .i64 r2) := fun w' hw => by rw [hw, cell_of_row _ _ _ _ _ _ hV]; rfl
  have c3 : ∀ w', w' = V → w'.cell? ⟨b, 3, none⟩ = some (.int .i64 r3) := fun w' hw => by rw [hw, cell_of_row _ _ _ _ _ _ hV]; rfl
  repeat (refine wpL_do rfl (fun w' hw' => (by go_simp; rfl)) ?_; simp only [Act.put, List.setIfInBounds_toArray, List.set_cons_succ, List.set_cons_zero])
  clear c0 c1 c2 c3
  refine wpL_call rfl (fun K hK => ?_)
  go_wp2_with fail
  refine (pick_st r0 40 V h0.1 h0.2 (by decide) (by decide)).mono ?_
  rintro e w' ⟨rfl, hw'⟩
  rw [hw']
  clear hw' w'
  refine hK _ _ rfl ?_
  clear hK K
  try simp only [Act.put, List.setIfInBounds_toArray, List.set_cons_succ, List.set_cons_zero]
  have p0 := pk_lt r0 40 (by decide)
  have e0 : (40 : Int).toNat = 40 := rfl
  rw [e0]
  obtain ⟨L, hL⟩ : ∃ L, L = 1 + pk r0 40 := ⟨_, rfl⟩
  have a0 : (1 : Int) + ((pk r0 40 : Nat) : Int) = (L : Int) := by omega
  have a1 : IntKind.i64.wrap (L : Int) = (L : Int) := IntWalk.i64_in _ (by omega)
  have hLL : 1 ≤ L ∧ L ≤ 40 := by omega
  have HL := hid hL
  clear hL p0 e0
  repeat (refine wpL_do rfl (fun w' hw' => (by go_simp; rfl)) ?_; simp only [Act.put, List.setIfInBounds_toArray, List.set_cons_succ, List.set_cons_zero])
  clear a0 a1
  refine wpL_call rfl (fun K hK => ?_)
  go_wp2_with fail
  refine (pick_st r1 9 V h1.1 h1.2 (by decide) (by decide)).mono ?_
  rintro e w' ⟨rfl, hw'⟩
  rw [hw']
  clear hw' w'
  refine hK _ _ rfl ?_
  clear hK K
  try simp only [Act.put, List.setIfInBounds_toArray, List.set_cons_succ, List.set_cons_zero]
  refine wpL_call rfl (fun K hK => ?_)
  go_wp2_with fail
  refine (pick_st r2 13 V h2.1 h2.2 (by decide) (by decide)).mono ?_
  rintro e w' ⟨rfl, hw'⟩
  rw [hw']
  clear hw' w'
  refine hK _ _ rfl ?_
  clear hK K
  try simp only [Act.put, List.setIfInBounds_toArray, List.set_cons_succ, List.set_cons_zero]
  refine wpL_call rfl (fun K hK => ?_)
  go_wp2_with fail
  refine (pick_st r3 9 V h3.1 h3.2 (by decide) (by decide)).mono ?_
  rintro e w' ⟨rfl, hw'⟩
  rw [hw']
  clear hw' w'
  refine hK _ _ rfl ?_
  clear hK K
  try simp only [Act.put, List.setIfInBounds_toArray, List.set_cons_succ, List.set_cons_zero]
  have p1 := pk_lt r1 9 (by decide)
  have p2 := pk_lt r2 13 (by decide)
  have p3 := pk_lt r3 9 (by decide)
  rw [show (9 : Int).toNat = 9 from rfl, show (13 : Int).toNat = 13 from rfl]
  generalize pk r1 9 = F_ at *
  generalize pk r2 13 = H_ at *
  generalize pk r3 9 = M_ at *
  repeat (refine wpL_do rfl (fun w' hw' => (by go_simp; rfl)) ?_; simp only [Act.put, List.setIfInBounds_toArray, List.set_cons_succ, List.set_cons_zero])
  try refine wpL_nil ?_
  have n0 : V.cell? ⟨b, 0, none⟩ = some (.int .i64 r0) := by rw [cell_of_row _ _ _ _ _ _ hV]; rfl
  have n1 : V.cell? ⟨b, 1, none⟩ = some (.int .i64 r1) := by rw [cell_of_row _ _ _ _ _ _ hV]; rfl
  have n2 : V.cell? ⟨b, 2, none⟩ = some (.int .i64 r2) := by rw [cell_of_row _ _ _ _ _ _ hV]; rfl
  have n3 : V.cell? ⟨b, 3, none⟩ = some (.int .i64 r3) := by rw [cell_of_row _ _ _ _ _ _ hV]; rfl
  have f0 := frozen_row hV 0
  have f1 := frozen_row hV 1
  have f2 := frozen_row hV 2
  have f3 := frozen_row hV 3
  obtain ⟨hV4, g4⟩ := four hV (.int .i64 (L : Int)) (.int .i64 (F_ : Int)) (.int .i64 (H_ : Int)) (.int .i64 (M_ : Int))
  go_upto_region 2 with fail
  refine onlyOn_normal ?_
  have hB4 : Below w.heap.size w ((((V.setCell ⟨b, 0, none⟩ (.int .i64 (L : Int))).setCell ⟨b, 1, none⟩ (.int .i64 (F_ : Int))).setCell ⟨b, 2, none⟩ (.int .i64 (H_ : Int))).setCell ⟨b, 3, none⟩ (.int .i64 (M_ : Int))) :=
    bV.grown g4 bV.size (fun k e => by cases e; rw [Hb.out]; exact Nat.le_refl _)
  obtain ⟨W1, hW1⟩ : ∃ W1, W1 = (((V.setCell ⟨b, 0, none⟩ (.int .i64 (L : Int))).setCell ⟨b, 1, none⟩ (.int .i64 (F_ : Int))).setCell ⟨b, 2, none⟩ (.int .i64 (H_ : Int))).setCell ⟨b, 3, none⟩ (.int .i64 (M_ : Int)) := ⟨_, rfl⟩
  rw [← hW1] at hV4 hB4 ⊢
  clear hW1 g4 n0 n1 n2 n3 f0 f1 f2 f3 hV bV h0 h1 h2 h3
  have n0 : W1.cell? ⟨b, 0, none⟩ = some (.int .i64 (L : Int)) := by rw [cell_of_row _ _ _ _ _ _ hV4]; rfl
  go_wp2_with fail
  refine (rows_ok L hLL pa pn pc hs pss W1 (hp.below hB4) hpn).mono ?_
  rintro e W2 ⟨k, ba, bn, bc, aa, ac, hds, rfl, hR⟩
  clear n0
  have hpb : ∀ q ∈ pss, AllB q := fun q hq => by
    obtain ⟨i, hi, rfl⟩ := List.getElem_of_mem hq
    have h9 := hp.len
    have h8 := hp.each.len
    exact (hp.each.get i (by omega) hi).2
  have hD : ∀ d ∈ (pss.take 20).map (padT L), AllB d ∧ d.length = L := fun d hd => by
    obtain ⟨q, hq, rfl⟩ := List.mem_map.1 hd
    exact ⟨padT_b L (hpb q (List.mem_of_mem_take hq)), padT_len L q⟩
  have hk20 : ((pss.take 20).map (padT L)).length ≤ 20 := by simp; omega
  generalize (pss.take 20).map (padT L) = D at *
  have hB2 := hB4.trans (hR.blw.mono hB4.size)
  have hV2 := row_below hV4 hR.blw
  have hbits := flatLen D (fun d hd => (hD d hd).2)
  have hbn : bn = (D.flatMap frB).length := by rw [hbits, hR.bl, hR.len]
  have hkD : k = D.length := hR.len.symm
  have hsm : bn ≤ 20 * 352 := by rw [hbn, hbits]; exact Nat.mul_le_mul hk20 (by omega)
  have hB1 : All1 (D.flatMap frB) := fun x hx => by obtain ⟨d, _, h9⟩ := List.mem_flatMap.1 hx; exact frB_1 d x h9
  have Hbn := hid hbn
  have HkD := hid hkD
  have Hbits := hid hbits
  clear hbn hkD hbits hp hpb
  obtain ⟨B, hBe⟩ : ∃ B, B = D.flatMap frB := ⟨_, rfl⟩
  rw [← hBe] at hB1 Hbn
  have hbo := hR.bits
  rw [← hBe] at hbo
  have HBe := hid hBe
  clear hBe
  go_wp2_with fail
  cases t with
  | true =>
    go_loopw [10] (fun i wr => ∃ j : Nat, i = .int .i64 (j : Int) ∧ j ≤ bn ∧ wr.ownsRow W1.heap.size 5 1 (.slice ba bn bc) bn (vb (flipTo B j)) ∧ KeptP (fun q => (Value.slice ba bn bc).ownBlock = some q) W2 wr) (fun i _ => bn - (intOf i).toNat)
    case atStart => exact ⟨0, rfl, Nat.zero_le _, hbo, KeptP.refl _ _⟩
    case round =>
      obtain ⟨j, rfl, hj, hO, hK⟩ := hrel
      by_cases hjl : j < bn
      · have t1 : (j : Int) < (bn : Int) := by omega
        obtain ⟨g, rfl⟩ := own_addr hO (by omega)
        have hx : wr.cell? ⟨g, j, none⟩ = some (.int .u8 (nth (flipTo B j) j : Nat)) := by rw [hO.cellAt j (by omega), vb_get _ _ (by rw [flipTo_len, ← Hbn.out]; exact hjl)]
        have hf := hO.frozenAt j
        have hxb : nth (flipTo B j) j = nth B j := by rw [flipTo_nth _ _ _ (by rw [← Hbn.out]; exact hj), if_neg (by omega)]
        rw [hxb] at hx
        have hx2 := hB1.nth j
        have e1 : bits .xor .u8 ((nth B j : Nat) : Int) 1 = ((nth B j ^^^ 1 : Nat) : Int) := u8_xor_nat (nth B j) 1 (by omega) (by decide)
        obtain ⟨o2, g2⟩ := hO.stored j (.int .u8 ((nth B j ^^^ 1 : Nat) : Int))
        rw [vb_set] at o2
        have o2 : (wr.setCell ⟨g, j, none⟩ (.int .u8 ((nth B j ^^^ 1 : Nat) : Int))).ownsRow W1.heap.size 5 1 (.slice (some ⟨g, 0, none⟩) bn bc) bn (vb (flipTo B (j + 1))) := o2
        have k2 := hK.trans (KeptP.grown (S := fun q => (Value.slice (some ⟨g, 0, none⟩) bn bc).ownBlock = some q) g2 (fun r hr => by cases hr; rfl)) (fun _ _ h => h)
        clear hxb g2 hO hK hbo
        generalize nth B j = x at *
        generalize x ^^^ 1 = y at *
        go_wp2_with fail
        go_roundw
        case rel => exact ⟨j + 1, by go_num, by omega, o2, k2⟩
        case measure => simp [intOf]; omega
      · obtain rfl : bn = j := by omega
        have hfl : flipTo B bn = flat true D := by
          rw [Hbn.out]
          unfold flat
          rw [← HBe.out, ← flipB_fl]
          rfl
        rw [hfl] at hO
        clear hfl hbo hB1
        have hne : ∀ q, (Value.slice ba bn bc).ownBlock = some q → q ≠ b := fun q hq e => by
          subst e
          obtain ⟨cs, hc⟩ := own_block hR.bits hq
          rw [hV2] at hc; cases hc
        have hVr := hK.row hV2 (fun hs => hne b hs rfl)
        have hBr : Below w.heap.size w wr := hB2.trans (hK.toBelow hB2.size (fun q hq hs => by have := (hR.bits.lt q hs).1; have := hB4.size; omega))
        have hAr : wr.ownsRow W1.heap.size 24 1 (.slice aa k ac) k (hds.map hv) := hK.own hR.row (fun q hq hs => by
          rcases own_apart hR.row hR.bits (by decide) with h1 | h1
          · rw [h1] at hq; cases hq
          · exact h1 (hq.trans hs.symm))
        have hEr : All2 (fun (h : Hd) d => wr.ownsRow W1.heap.size 5 1 (hv h) h.2.1 (vb d)) hds D := forall2_imp (fun hh dd y => hK.own y.1 y.2.2.2.2) hR.each
        have n0 : wr.cell? ⟨b, 0, none⟩ = some (.int .i64 (L : Int)) := by rw [cell_of_row _ _ _ _ _ _ hVr]; rfl
        have n1 : wr.cell? ⟨b, 1, none⟩ = some (.int .i64 (F_ : Int)) := by rw [cell_of_row _ _ _ _ _ _ hVr]; rfl
        have n2 : wr.cell? ⟨b, 2, none⟩ = some (.int .i64 (H_ : Int)) := by rw [cell_of_row _ _ _ _ _ _ hVr]; rfl
        have n3 : wr.cell? ⟨b, 3, none⟩ = some (.int .i64 (M_ : Int)) := by rw [cell_of_row _ _ _ _ _ _ hVr]; rfl
        have bA := below_alloc wr (.cells #[.slice ba bn bc] 24)
        have pA : PcsAt (wr.alloc (.cells #[.slice ba bn bc] 24)) (some ⟨wr.heap.size, 0, none⟩) 1 1 [(ba, bn, bc)] [flat true D] :=
          ⟨Rd.ofOwn (own_of_heap (B := 0) (xs := [.slice ba bn bc]) (heap_alloc_new _ _) rfl (Nat.zero_le _) (by unfold maxLen; omega)), .cons ⟨(Rd.ofOwn hO).below bA, (flat_1 true D).b⟩ .nil⟩
        have hfl : (flat true D).length = bn := by have := hO.1; rw [vb_len] at this; omega
        have hBA := hBr.trans (bA.mono hBr.size)
        have hVA := row_below hVr bA
        have hAA := ownsRow_below hAr bA
        have hEA : All2 (fun (h : Hd) d => (wr.alloc (.cells #[.slice ba bn bc] 24)).ownsRow W1.heap.size 5 1 (hv h) h.2.1 (vb d)) hds D := forall2_imp (fun _ _ y => ownsRow_below y bA) hEr
        clear hK hR hVr hEr hAr hV2 hB2 bA hV4 hO
        go_wp2_with fail
        refine (listen_ok L F_ H_ M_ (by omega) (by omega) (by omega) (by omega) (some ⟨wr.heap.size, 0, none⟩) 1 1 [(ba, bn, bc)] [flat true D] _ pA (by decide) (by simp only [List.flatten_cons, List.flatten_nil, List.append_nil]; omega)).mono ?_
        rintro e X ⟨ga, qa, la, gc, qc, lc, ha, FA, los, C, m, rfl, hP⟩
        have hPb := hP.blw
        obtain ⟨a1, x1, c1, F1, g, gl, rfl, rfl, cg, cl, o1, hx1, i1, hrun, hg, hgl⟩ := hP.one
        obtain ⟨m', hr2, hlo⟩ := all_law L F_ H_ M_ (by omega) true D hD
        rw [par_id (flat_1 true D)] at hrun
        obtain ⟨hF, rfl⟩ := Run.det hrun hr2
        rw [hlo] at cl
        have hF1 : F1.length = D.length := by have := congrArg List.length hF; simpa [foL_len] using this
        have hk := HkD.out
        have hVX := row_below hVA hPb
        have hAX := ownsRow_below hAA hPb
        have hEX : All2 (fun (h : Hd) d => X.ownsRow W1.heap.size 5 1 (hv h) h.2.1 (vb d)) hds D := forall2_imp (fun _ _ y => ownsRow_below y hPb) hEA
        have hBX := hBA.trans (hPb.mono hBA.size)
        have hw2 : D.length = hds.length := hEX.len.symm
        clear n0 n1 n2 n3 hVA hAA hEA hrun hr2 hP hPb pA hBr hBA hlo
        subst hx1
        have e1 : decide (0 < D.length) = decide ((0 : Int) < (k : Int)) := by rw [← hk]; simp
        rw [e1] at cl
        have e2 : (F1.length : Int) = (k : Int) := by omega
        have HF1 := hid hF1
        have Hk := hid hk
        have Hw2 := hid hw2
        have HD := hid hF
        clear hF1 hk hw2 hF e1
        go_wp2_with fail
        go_loopw [15] (fun i wz => ∃ j : Nat, i = .int .i64 (j : Int) ∧ j ≤ k ∧ Below X.heap.size X wz) (fun i _ => k - (intOf i).toNat)
        case atStart => exact ⟨0, rfl, Nat.zero_le _, Below.refl _ _⟩
        case round =>
          obtain ⟨j, rfl, hj, hZ⟩ := hrel
          by_cases hjk : j < k
          · have t2 : (j : Int) < (k : Int) := by omega
            have hjD : j < D.length := by have := Hk.out; omega
            obtain ⟨hjF, p1, p2, p3, p4⟩ := Fd.at_ HD.out j hjD
            obtain ⟨g1, rfl⟩ := own_addr o1 (by have := HF1.out; omega)
            obtain ⟨q0, q1, q2, q3⟩ := Fd.cellsAt (ownsRow_below o1 hZ) rfl j hjF
            have hinj := i1 _ (List.getElem_mem hjF)
            rw [p1, Nat.zero_add] at q0
            rw [p2] at q1
            rw [p3] at q2
            unfold Fd.In at hinj
            rw [p4] at hinj
            generalize (F1[j]).da = da at *
            generalize (F1[j]).dn = dn at *
            generalize (F1[j]).dc = dc at *
            have hjh : j < hds.length := by have := Hw2.out; omega
            have hdj := hEX.get j hjh hjD
            obtain ⟨ag, rfl⟩ := own_addr hAX (by omega)
            have hcj : X.cell? ⟨ag, j, none⟩ = some (hv (hds[j])) := by
              rw [hAX.cellAt j (by omega), List.getElem?_map, List.getElem?_eq_getElem hjh]; rfl
            obtain ⟨⟨sa, sn, sc⟩, hsd⟩ : ∃ h, h = hds[j] := ⟨_, rfl⟩
            rw [← hsd] at hcj hdj
            have hcj : wr.cell? ⟨ag, j, none⟩ = some (.slice sa sn sc) := (hZ.cell (p := ⟨ag, j, none⟩) (own_lt hAX rfl)).trans hcj
            have hdj : X.ownsRow W1.heap.size 5 1 (.slice sa sn sc) sn (vb D[j]) := hdj
            have bxz : wr.cell? ⟨b, 0, none⟩ = some (.int .i64 (L : Int)) := (hZ.cell (p := ⟨b, 0, none⟩) (row_lt hVX)).trans (by rw [cell_of_row _ _ _ _ _ _ hVX]; rfl)
            have cgz : wr.cell? ⟨g, 0, none⟩ = some (.slice (some ⟨g1, 0, none⟩) F1.length c1) := (hZ.cell (p := ⟨g, 0, none⟩) hg).trans cg
            have t3 : (j : Int) < (F1.length : Int) := by omega
            obtain ⟨q, hq⟩ : ∃ q, q = j * (32 + 8 * L) := ⟨_, rfl⟩
            have hqs : q ≤ 20 * 352 := by rw [hq]; exact Nat.mul_le_mul (by have := HD.out; omega) (by omega)
            have m1 : IntKind.i64.wrap (8 * (L : Int)) = 8 * (L : Int) := IntWalk.i64_in _ (by omega)
            have m2 : IntKind.i64.wrap (32 + 8 * (L : Int)) = 32 + 8 * (L : Int) := IntWalk.i64_in _ (by omega)
            have m3 : (j : Int) * (32 + 8 * (L : Int)) = (q : Int) := by rw [hq]; simp
            have m4 : IntKind.i64.wrap (q : Int) = (q : Int) := IntWalk.i64_in _ (by omega)
            rw [← hq] at q0
            have Hq := hid hq
            clear hq p1 p2 p3 p4 hsd
            go_upto_region 16 with fail
            have bU := (below_alloc wr (.cells #[.int .i64 (q : Int), .bool true, .int .i64 0, .slice da dn dc] 35)).drew
            have hU : (wr.alloc (.cells #[.int .i64 (q : Int), .bool true, .int .i64 0, .slice da dn dc] 35)).drew.heap[wr.heap.size]? = some (.cells #[.int .i64 (q : Int), .bool true, .int .i64 0, .slice da dn dc] 35) := heap_alloc_new wr (.cells #[.int .i64 (q : Int), .bool true, .int .i64 0, .slice da dn dc] 35)
            refine wp_region_can_all [] [0, 1, 2, 3, 4, 5, 6, 7, 8, 9, 10, 11, 12, 13, 14, 15, 16, 17, 18, 19, 20, 21, 22, 23, 24, 25, 26, 27, 28, 29, 30] Ext Ext.refl Ext.trans (by kernel_rfl) (by kernel_rfl) ?_
            simp only [List.map_cons, List.map_nil, List.contains_cons, List.contains_nil, List.getD_cons_zero, List.getD_cons_succ, Nat.reduceBEq, Bool.or_false, Bool.or_true]
            obtain ⟨U, hUe⟩ : ∃ U, U = (wr.alloc (.cells #[.int .i64 (q : Int), .bool true, .int .i64 0, .slice da dn dc] 35)).drew := ⟨_, rfl⟩
            rw [← hUe] at bU hU ⊢
            clear hUe
            obtain ⟨xb, hxb⟩ : ∃ xb, xb = wr.heap.size := ⟨_, rfl⟩
            have bU' : Below wr.heap.size wr U := bU
            rw [← hxb] at hU ⊢
            clear hxb
            have d0 : ∀ w', Ext U w' → w'.cell? ⟨xb, 0, none⟩ = some (.int .i64 (q : Int)) := fun w' hw => by rw [cell_of_row _ _ _ _ _ _ (row_below hU hw)]; rfl
            have d1 : ∀ w', Ext U w' → w'.cell? ⟨xb, 1, none⟩ = some (.bool true) := fun w' hw => by rw [cell_of_row _ _ _ _ _ _ (row_below hU hw)]; rfl
            have d2 : ∀ w', Ext U w' → w'.cell? ⟨xb, 2, none⟩ = some (.int .i64 0) := fun w' hw => by rw [cell_of_row _ _ _ _ _ _ (row_below hU hw)]; rfl
            have d3 : ∀ w', Ext U w' → w'.cell? ⟨xb, 3, none⟩ = some (.slice da dn dc) := fun w' hw => by rw [cell_of_row _ _ _ _ _ _ (row_below hU hw)]; rfl
            have hZU : Below X.heap.size X U := hZ.trans (bU'.mono hZ.size)
            have d4 : ∀ w', Ext U w' → w'.cell? ⟨b, 0, none⟩ = some (.int .i64 (L : Int)) := fun w' hw => by rw [cell_of_row _ _ _ _ _ _ (row_below (row_below hVX hZU) hw)]; rfl
            have hcU : U.cell? ⟨ag, j, none⟩ = some (.slice sa sn sc) := (bU'.cell (p := ⟨ag, j, none⟩) (Nat.lt_of_lt_of_le (own_lt hAX rfl) hZ.size)).trans hcj
            have d5 : ∀ w', Ext U w' → w'.cell? ⟨ag, j, none⟩ = some (.slice sa sn sc) := fun w' hw => (hw.cell (p := ⟨ag, j, none⟩) (Nat.lt_of_lt_of_le (own_lt hAX rfl) hZU.size)).trans hcU
            have k1 := run_str_ext (P := Try.prog) 24 5 9 Try.underlying24 Try.underlying5 Try.underlying9 (Rd.ofOwn (ownsRow_below hinj.1 hZU))
            have k2 := run_str_ext (P := Try.prog) 24 5 9 Try.underlying24 Try.underlying5 Try.underlying9 (Rd.ofOwn (ownsRow_below hdj hZU))
            generalize strB D[j] = sv at *
            clear q0 q1 q2 q3 hcj hcU bxz cgz hdj hinj hU
            repeat (refine wpL_do rfl (fun w' hw' => (by go_simp; rfl)) ?_; simp only [Act.put, List.setIfInBounds_toArray, List.set_cons_succ, List.set_cons_zero])
            refine wpL_nil ?_
            clear d0 d1 d2 d3 d4 d5 k1 k2
            go_wp2_with fail
            go_roundw
            case rel => exact ⟨j + 1, by go_num, by omega, hZU⟩
            case measure => simp [intOf]; omega
          · obtain rfl : k = j := by omega
            go_wp2_with fail
            go_ret
            exact ⟨rfl, hBX.trans (hZ.mono hBX.size)⟩
  | false =>
    by_cases hz : 0 < bn
    · have t1 : (0 : Int) < (bn : Int) := by omega
      go_loopw [10] (fun i wr => i = .int .i64 0 ∧ wr = W2) (fun i _ => 1)
      case atStart => exact ⟨rfl, rfl⟩
      case round =>
        obtain ⟨rfl, rfl⟩ := hrel
        have hO : wr.ownsRow W1.heap.size 5 1 (.slice ba bn bc) bn (vb (flat false D)) := by have h9 := hbo; rw [HBe.out] at h9; exact h9
        have hK : KeptP (fun q => (Value.slice ba bn bc).ownBlock = some q) wr wr := KeptP.refl _ _
        clear hbo hB1
        have hne : ∀ q, (Value.slice ba bn bc).ownBlock = some q → q ≠ b := fun q hq e => by
          subst e
          obtain ⟨cs, hc⟩ := own_block hR.bits hq
          rw [hV2] at hc; cases hc
        have hVr := hK.row hV2 (fun hs => hne b hs rfl)
        have hBr : Below w.heap.size w wr := hB2.trans (hK.toBelow hB2.size (fun q hq hs => by have := (hR.bits.lt q hs).1; have := hB4.size; omega))
        have hAr : wr.ownsRow W1.heap.size 24 1 (.slice aa k ac) k (hds.map hv) := hK.own hR.row (fun q hq hs => by
          rcases own_apart hR.row hR.bits (by decide) with h1 | h1
          · rw [h1] at hq; cases hq
          · exact h1 (hq.trans hs.symm))
        have hEr : All2 (fun (h : Hd) d => wr.ownsRow W1.heap.size 5 1 (hv h) h.2.1 (vb d)) hds D := forall2_imp (fun hh dd y => hK.own y.1 y.2.2.2.2) hR.each
        have n0 : wr.cell? ⟨b, 0, none⟩ = some (.int .i64 (L : Int)) := by rw [cell_of_row _ _ _ _ _ _ hVr]; rfl
        have n1 : wr.cell? ⟨b, 1, none⟩ = some (.int .i64 (F_ : Int)) := by rw [cell_of_row _ _ _ _ _ _ hVr]; rfl
        have n2 : wr.cell? ⟨b, 2, none⟩ = some (.int .i64 (H_ : Int)) := by rw [cell_of_row _ _ _ _ _ _ hVr]; rfl
        have n3 : wr.cell? ⟨b, 3, none⟩ = some (.int .i64 (M_ : Int)) := by rw [cell_of_row _ _ _ _ _ _ hVr]; rfl
        have bA := below_alloc wr (.cells #[.slice ba bn bc] 24)
        have pA : PcsAt (wr.alloc (.cells #[.slice ba bn bc] 24)) (some ⟨wr.heap.size, 0, none⟩) 1 1 [(ba, bn, bc)] [flat false D] :=
          ⟨Rd.ofOwn (own_of_heap (B := 0) (xs := [.slice ba bn bc]) (heap_alloc_new _ _) rfl (Nat.zero_le _) (by unfold maxLen; omega)), .cons ⟨(Rd.ofOwn hO).below bA, (flat_1 false D).b⟩ .nil⟩
        have hfl : (flat false D).length = bn := by have := hO.1; rw [vb_len] at this; omega
        have hBA := hBr.trans (bA.mono hBr.size)
        have hVA := row_below hVr bA
        have hAA := ownsRow_below hAr bA
        have hEA : All2 (fun (h : Hd) d => (wr.alloc (.cells #[.slice ba bn bc] 24)).ownsRow W1.heap.size 5 1 (hv h) h.2.1 (vb d)) hds D := forall2_imp (fun _ _ y => ownsRow_below y bA) hEr
        clear hK hR hVr hEr hAr hV2 hB2 bA hV4 hO
        go_wp2_with fail
        refine (listen_ok L F_ H_ M_ (by omega) (by omega) (by omega) (by omega) (some ⟨wr.heap.size, 0, none⟩) 1 1 [(ba, bn, bc)] [flat false D] _ pA (by decide) (by simp only [List.flatten_cons, List.flatten_nil, List.append_nil]; omega)).mono ?_
        rintro e X ⟨ga, qa, la, gc, qc, lc, ha, FA, los, C, m, rfl, hP⟩
        have hPb := hP.blw
        obtain ⟨a1, x1, c1, F1, g, gl, rfl, rfl, cg, cl, o1, hx1, i1, hrun, hg, hgl⟩ := hP.one
        obtain ⟨m', hr2, hlo⟩ := all_law L F_ H_ M_ (by omega) false D hD
        rw [par_id (flat_1 false D)] at hrun
        obtain ⟨hF, rfl⟩ := Run.det hrun hr2
        rw [hlo] at cl
        have hF1 : F1.length = D.length := by have := congrArg List.length hF; simpa [foL_len] using this
        have hk := HkD.out
        have hVX := row_below hVA hPb
        have hAX := ownsRow_below hAA hPb
        have hEX : All2 (fun (h : Hd) d => X.ownsRow W1.heap.size 5 1 (hv h) h.2.1 (vb d)) hds D := forall2_imp (fun _ _ y => ownsRow_below y hPb) hEA
        have hBX := hBA.trans (hPb.mono hBA.size)
        have hw2 : D.length = hds.length := hEX.len.symm
        clear n0 n1 n2 n3 hVA hAA hEA hrun hr2 hP hPb pA hBr hBA hlo
        subst hx1
        have e1 : decide (0 < D.length) = decide ((0 : Int) < (k : Int)) := by rw [← hk]; simp
        rw [e1] at cl
        have e2 : (F1.length : Int) = (k : Int) := by omega
        have HF1 := hid hF1
        have Hk := hid hk
        have Hw2 := hid hw2
        have HD := hid hF
        clear hF1 hk hw2 hF e1
        go_wp2_with fail
        go_loopw [15] (fun i wz => ∃ j : Nat, i = .int .i64 (j : Int) ∧ j ≤ k ∧ Below X.heap.size X wz) (fun i _ => k - (intOf i).toNat)
        case atStart => exact ⟨0, rfl, Nat.zero_le _, Below.refl _ _⟩
        case round =>
          obtain ⟨j, rfl, hj, hZ⟩ := hrel
          by_cases hjk : j < k
          · have t2 : (j : Int) < (k : Int) := by omega
            have hjD : j < D.length := by have := Hk.out; omega
            obtain ⟨hjF, p1, p2, p3, p4⟩ := Fd.at_ HD.out j hjD
            obtain ⟨g1, rfl⟩ := own_addr o1 (by have := HF1.out; omega)
            obtain ⟨q0, q1, q2, q3⟩ := Fd.cellsAt (ownsRow_below o1 hZ) rfl j hjF
            have hinj := i1 _ (List.getElem_mem hjF)
            rw [p1, Nat.zero_add] at q0
            rw [p2] at q1
            rw [p3] at q2
            unfold Fd.In at hinj
            rw [p4] at hinj
            generalize (F1[j]).da = da at *
            generalize (F1[j]).dn = dn at *
            generalize (F1[j]).dc = dc at *
            have hjh : j < hds.length := by have := Hw2.out; omega
            have hdj := hEX.get j hjh hjD
            obtain ⟨ag, rfl⟩ := own_addr hAX (by omega)
            have hcj : X.cell? ⟨ag, j, none⟩ = some (hv (hds[j])) := by
              rw [hAX.cellAt j (by omega), List.getElem?_map, List.getElem?_eq_getElem hjh]; rfl
            obtain ⟨⟨sa, sn, sc⟩, hsd⟩ : ∃ h, h = hds[j] := ⟨_, rfl⟩
            rw [← hsd] at hcj hdj
            have hcj : wr.cell? ⟨ag, j, none⟩ = some (.slice sa sn sc) := (hZ.cell (p := ⟨ag, j, none⟩) (own_lt hAX rfl)).trans hcj
            have hdj : X.ownsRow W1.heap.size 5 1 (.slice sa sn sc) sn (vb D[j]) := hdj
            have bxz : wr.cell? ⟨b, 0, none⟩ = some (.int .i64 (L : Int)) := (hZ.cell (p := ⟨b, 0, none⟩) (row_lt hVX)).trans (by rw [cell_of_row _ _ _ _ _ _ hVX]; rfl)
            have cgz : wr.cell? ⟨g, 0, none⟩ = some (.slice (some ⟨g1, 0, none⟩) F1.length c1) := (hZ.cell (p := ⟨g, 0, none⟩) hg).trans cg
            have t3 : (j : Int) < (F1.length : Int) := by omega
            obtain ⟨q, hq⟩ : ∃ q, q = j * (32 + 8 * L) := ⟨_, rfl⟩
            have hqs : q ≤ 20 * 352 := by rw [hq]; exact Nat.mul_le_mul (by have := HD.out; omega) (by omega)
            have m1 : IntKind.i64.wrap (8 * (L : Int)) = 8 * (L : Int) := IntWalk.i64_in _ (by omega)
            have m2 : IntKind.i64.wrap (32 + 8 * (L : Int)) = 32 + 8 * (L : Int) := IntWalk.i64_in _ (by omega)
            have m3 : (j : Int) * (32 + 8 * (L : Int)) = (q : Int) := by rw [hq]; simp
            have m4 : IntKind.i64.wrap (q : Int) = (q : Int) := IntWalk.i64_in _ (by omega)
            rw [← hq] at q0
            have Hq := hid hq
            clear hq p1 p2 p3 p4 hsd
            go_upto_region 16 with fail
            have bU := (below_alloc wr (.cells #[.int .i64 (q : Int), .bool false, .int .i64 0, .slice da dn dc] 35)).drew
            have hU : (wr.alloc (.cells #[.int .i64 (q : Int), .bool false, .int .i64 0, .slice da dn dc] 35)).drew.heap[wr.heap.size]? = some (.cells #[.int .i64 (q : Int), .bool false, .int .i64 0, .slice da dn dc] 35) := heap_alloc_new wr (.cells #[.int .i64 (q : Int), .bool false, .int .i64 0, .slice da dn dc] 35)
            refine wp_region_can_all [] [0, 1, 2, 3, 4, 5, 6, 7, 8, 9, 10, 11, 12, 13, 14, 15, 16, 17, 18, 19, 20, 21, 22, 23, 24, 25, 26, 27, 28, 29, 30] Ext Ext.refl Ext.trans (by kernel_rfl) (by kernel_rfl) ?_
            simp only [List.map_cons, List.map_nil, List.contains_cons, List.contains_nil, List.getD_cons_zero, List.getD_cons_succ, Nat.reduceBEq, Bool.or_false, Bool.or_true]
            obtain ⟨U, hUe⟩ : ∃ U, U = (wr.alloc (.cells #[.int .i64 (q : Int), .bool false, .int .i64 0, .slice da dn dc] 35)).drew := ⟨_, rfl⟩
            rw [← hUe] at bU hU ⊢
            clear hUe
            obtain ⟨xb, hxb⟩ : ∃ xb, xb = wr.heap.size := ⟨_, rfl⟩
            have bU' : Below wr.heap.size wr U := bU
            rw [← hxb] at hU ⊢
            clear hxb
            have d0 : ∀ w', Ext U w' → w'.cell? ⟨xb, 0, none⟩ = some (.int .i64 (q : Int)) := fun w' hw => by rw [cell_of_row _ _ _ _ _ _ (row_below hU hw)]; rfl
            have d1 : ∀ w', Ext U w' → w'.cell? ⟨xb, 1, none⟩ = some (.bool false) := fun w' hw => by rw [cell_of_row _ _ _ _ _ _ (row_below hU hw)]; rfl
            have d2 : ∀ w', Ext U w' → w'.cell? ⟨xb, 2, none⟩ = some (.int .i64 0) := fun w' hw => by rw [cell_of_row _ _ _ _ _ _ (row_below hU hw)]; rfl
            have d3 : ∀ w', Ext U w' → w'.cell? ⟨xb, 3, none⟩ = some (.slice da dn dc) := fun w' hw => by rw [cell_of_row _ _ _ _ _ _ (row_below hU hw)]; rfl
            have hZU : Below X.heap.size X U := hZ.trans (bU'.mono hZ.size)
            have d4 : ∀ w', Ext U w' → w'.cell? ⟨b, 0, none⟩ = some (.int .i64 (L : Int)) := fun w' hw => by rw [cell_of_row _ _ _ _ _ _ (row_below (row_below hVX hZU) hw)]; rfl
            have hcU : U.cell? ⟨ag, j, none⟩ = some (.slice sa sn sc) := (bU'.cell (p := ⟨ag, j, none⟩) (Nat.lt_of_lt_of_le (own_lt hAX rfl) hZ.size)).trans hcj
            have d5 : ∀ w', Ext U w' → w'.cell? ⟨ag, j, none⟩ = some (.slice sa sn sc) := fun w' hw => (hw.cell (p := ⟨ag, j, none⟩) (Nat.lt_of_lt_of_le (own_lt hAX rfl) hZU.size)).trans hcU
            have k1 := run_str_ext (P := Try.prog) 24 5 9 Try.underlying24 Try.underlying5 Try.underlying9 (Rd.ofOwn (ownsRow_below hinj.1 hZU))
            have k2 := run_str_ext (P := Try.prog) 24 5 9 Try.underlying24 Try.underlying5 Try.underlying9 (Rd.ofOwn (ownsRow_below hdj hZU))
            generalize strB D[j] = sv at *
            clear q0 q1 q2 q3 hcj hcU bxz cgz hdj hinj hU
            repeat (refine wpL_do rfl (fun w' hw' => (by go_simp; rfl)) ?_; simp only [Act.put, List.setIfInBounds_toArray, List.set_cons_succ, List.set_cons_zero])
            refine wpL_nil ?_
            clear d0 d1 d2 d3 d4 d5 k1 k2
            go_wp2_with fail
            go_roundw
            case rel => exact ⟨j + 1, by go_num, by omega, hZU⟩
            case measure => simp [intOf]; omega
          · obtain rfl : k = j := by omega
            go_wp2_with fail
            go_ret
            exact ⟨rfl, hBX.trans (hZ.mono hBX.size)⟩
    · have t1 : ¬ (0 : Int) < (bn : Int) := by omega
      go_loopw [10] (fun i wr => i = .int .i64 0 ∧ wr = W2) (fun i _ => 1)
      case atStart => exact ⟨rfl, rfl⟩
      case round =>
        obtain ⟨rfl, rfl⟩ := hrel
        have hO : wr.ownsRow W1.heap.size 5 1 (.slice ba bn bc) bn (vb (flat false D)) := by have h9 := hbo; rw [HBe.out] at h9; exact h9
        have hK : KeptP (fun q => (Value.slice ba bn bc).ownBlock = some q) wr wr := KeptP.refl _ _
        clear hbo hB1
        have hne : ∀ q, (Value.slice ba bn bc).ownBlock = some q → q ≠ b := fun q hq e => by
          subst e
          obtain ⟨cs, hc⟩ := own_block hR.bits hq
          rw [hV2] at hc; cases hc
        have hVr := hK.row hV2 (fun hs => hne b hs rfl)
        have hBr : Below w.heap.size w wr := hB2.trans (hK.toBelow hB2.size (fun q hq hs => by have := (hR.bits.lt q hs).1; have := hB4.size; omega))
        have hAr : wr.ownsRow W1.heap.size 24 1 (.slice aa k ac) k (hds.map hv) := hK.own hR.row (fun q hq hs => by
          rcases own_apart hR.row hR.bits (by decide) with h1 | h1
          · rw [h1] at hq; cases hq
          · exact h1 (hq.trans hs.symm))
        have hEr : All2 (fun (h : Hd) d => wr.ownsRow W1.heap.size 5 1 (hv h) h.2.1 (vb d)) hds D := forall2_imp (fun hh dd y => hK.own y.1 y.2.2.2.2) hR.each
        have n0 : wr.cell? ⟨b, 0, none⟩ = some (.int .i64 (L : Int)) := by rw [cell_of_row _ _ _ _ _ _ hVr]; rfl
        have n1 : wr.cell? ⟨b, 1, none⟩ = some (.int .i64 (F_ : Int)) := by rw [cell_of_row _ _ _ _ _ _ hVr]; rfl
        have n2 : wr.cell? ⟨b, 2, none⟩ = some (.int .i64 (H_ : Int)) := by rw [cell_of_row _ _ _ _ _ _ hVr]; rfl
        have n3 : wr.cell? ⟨b, 3, none⟩ = some (.int .i64 (M_ : Int)) := by rw [cell_of_row _ _ _ _ _ _ hVr]; rfl
        have bA := below_alloc wr (.cells #[.slice ba bn bc] 24)
        have pA : PcsAt (wr.alloc (.cells #[.slice ba bn bc] 24)) (some ⟨wr.heap.size, 0, none⟩) 1 1 [(ba, bn, bc)] [flat false D] :=
          ⟨Rd.ofOwn (own_of_heap (B := 0) (xs := [.slice ba bn bc]) (heap_alloc_new _ _) rfl (Nat.zero_le _) (by unfold maxLen; omega)), .cons ⟨(Rd.ofOwn hO).below bA, (flat_1 false D).b⟩ .nil⟩
        have hfl : (flat false D).length = bn := by have := hO.1; rw [vb_len] at this; omega
        have hBA := hBr.trans (bA.mono hBr.size)
        have hVA := row_below hVr bA
        have hAA := ownsRow_below hAr bA
        have hEA : All2 (fun (h : Hd) d => (wr.alloc (.cells #[.slice ba bn bc] 24)).ownsRow W1.heap.size 5 1 (hv h) h.2.1 (vb d)) hds D := forall2_imp (fun _ _ y => ownsRow_below y bA) hEr
        clear hK hR hVr hEr hAr hV2 hB2 bA hV4 hO
        go_wp2_with fail
        refine (listen_ok L F_ H_ M_ (by omega) (by omega) (by omega) (by omega) (some ⟨wr.heap.size, 0, none⟩) 1 1 [(ba, bn, bc)] [flat false D] _ pA (by decide) (by simp only [List.flatten_cons, List.flatten_nil, List.append_nil]; omega)).mono ?_
        rintro e X ⟨ga, qa, la, gc, qc, lc, ha, FA, los, C, m, rfl, hP⟩
        have hPb := hP.blw
        obtain ⟨a1, x1, c1, F1, g, gl, rfl, rfl, cg, cl, o1, hx1, i1, hrun, hg, hgl⟩ := hP.one
        obtain ⟨m', hr2, hlo⟩ := all_law L F_ H_ M_ (by omega) false D hD
        rw [par_id (flat_1 false D)] at hrun
        obtain ⟨hF, rfl⟩ := Run.det hrun hr2
        rw [hlo] at cl
        have hF1 : F1.length = D.length := by have := congrArg List.length hF; simpa [foL_len] using this
        have hk := HkD.out
        have hVX := row_below hVA hPb
        have hAX := ownsRow_below hAA hPb
        have hEX : All2 (fun (h : Hd) d => X.ownsRow W1.heap.size 5 1 (hv h) h.2.1 (vb d)) hds D := forall2_imp (fun _ _ y => ownsRow_below y hPb) hEA
        have hBX := hBA.trans (hPb.mono hBA.size)
        have hw2 : D.length = hds.length := hEX.len.symm
        clear n0 n1 n2 n3 hVA hAA hEA hrun hr2 hP hPb pA hBr hBA hlo
        subst hx1
        have e1 : decide (0 < D.length) = decide ((0 : Int) < (k : Int)) := by rw [← hk]; simp
        rw [e1] at cl
        have e2 : (F1.length : Int) = (k : Int) := by omega
        have HF1 := hid hF1
        have Hk := hid hk
        have Hw2 := hid hw2
        have HD := hid hF
        clear hF1 hk hw2 hF e1
        go_wp2_with fail
        go_loopw [15] (fun i wz => ∃ j : Nat, i = .int .i64 (j : Int) ∧ j ≤ k ∧ Below X.heap.size X wz) (fun i _ => k - (intOf i).toNat)
        case atStart => exact ⟨0, rfl, Nat.zero_le _, Below.refl _ _⟩
        case round =>
          obtain ⟨j, rfl, hj, hZ⟩ := hrel
          by_cases hjk : j < k
          · have t2 : (j : Int) < (k : Int) := by omega
            have hjD : j < D.length := by have := Hk.out; omega
            obtain ⟨hjF, p1, p2, p3, p4⟩ := Fd.at_ HD.out j hjD
            obtain ⟨g1, rfl⟩ := own_addr o1 (by have := HF1.out; omega)
            obtain ⟨q0, q1, q2, q3⟩ := Fd.cellsAt (ownsRow_below o1 hZ) rfl j hjF
            have hinj := i1 _ (List.getElem_mem hjF)
            rw [p1, Nat.zero_add] at q0
            rw [p2] at q1
            rw [p3] at q2
            unfold Fd.In at hinj
            rw [p4] at hinj
            generalize (F1[j]).da = da at *
            generalize (F1[j]).dn = dn at *
            generalize (F1[j]).dc = dc at *
            have hjh : j < hds.length := by have := Hw2.out; omega
            have hdj := hEX.get j hjh hjD
            obtain ⟨ag, rfl⟩ := own_addr hAX (by omega)
            have hcj : X.cell? ⟨ag, j, none⟩ = some (hv (hds[j])) := by
              rw [hAX.cellAt j (by omega), List.getElem?_map, List.getElem?_eq_getElem hjh]; rfl
            obtain ⟨⟨sa, sn, sc⟩, hsd⟩ : ∃ h, h = hds[j] := ⟨_, rfl⟩
            rw [← hsd] at hcj hdj
            have hcj : wr.cell? ⟨ag, j, none⟩ = some (.slice sa sn sc) := (hZ.cell (p := ⟨ag, j, none⟩) (own_lt hAX rfl)).trans hcj
            have hdj : X.ownsRow W1.heap.size 5 1 (.slice sa sn sc) sn (vb D[j]) := hdj
            have bxz : wr.cell? ⟨b, 0, none⟩ = some (.int .i64 (L : Int)) := (hZ.cell (p := ⟨b, 0, none⟩) (row_lt hVX)).trans (by rw [cell_of_row _ _ _ _ _ _ hVX]; rfl)
            have cgz : wr.cell? ⟨g, 0, none⟩ = some (.slice (some ⟨g1, 0, none⟩) F1.length c1) := (hZ.cell (p := ⟨g, 0, none⟩) hg).trans cg
            have t3 : (j : Int) < (F1.length : Int) := by omega
            obtain ⟨q, hq⟩ : ∃ q, q = j * (32 + 8 * L) := ⟨_, rfl⟩
            have hqs : q ≤ 20 * 352 := by rw [hq]; exact Nat.mul_le_mul (by have := HD.out; omega) (by omega)
            have m1 : IntKind.i64.wrap (8 * (L : Int)) = 8 * (L : Int) := IntWalk.i64_in _ (by omega)
            have m2 : IntKind.i64.wrap (32 + 8 * (L : Int)) = 32 + 8 * (L : Int) := IntWalk.i64_in _ (by omega)
            have m3 : (j : Int) * (32 + 8 * (L : Int)) = (q : Int) := by rw [hq]; simp
            have m4 : IntKind.i64.wrap (q : Int) = (q : Int) := IntWalk.i64_in _ (by omega)
            rw [← hq] at q0
            have Hq := hid hq
            clear hq p1 p2 p3 p4 hsd
            go_upto_region 16 with fail
            have bU := (below_alloc wr (.cells #[.int .i64 (q : Int), .bool false, .int .i64 0, .slice da dn dc] 35)).drew
            have hU : (wr.alloc (.cells #[.int .i64 (q : Int), .bool false, .int .i64 0, .slice da dn dc] 35)).drew.heap[wr.heap.size]? = some (.cells #[.int .i64 (q : Int), .bool false, .int .i64 0, .slice da dn dc] 35) := heap_alloc_new wr (.cells #[.int .i64 (q : Int), .bool false, .int .i64 0, .slice da dn dc] 35)
            refine wp_region_can_all [] [0, 1, 2, 3, 4, 5, 6, 7, 8, 9, 10, 11, 12, 13, 14, 15, 16, 17, 18, 19, 20, 21, 22, 23, 24, 25, 26, 27, 28, 29, 30] Ext Ext.refl Ext.trans (by kernel_rfl) (by kernel_rfl) ?_
            simp only [List.map_cons, List.map_nil, List.contains_cons, List.contains_nil, List.getD_cons_zero, List.getD_cons_succ, Nat.reduceBEq, Bool.or_false, Bool.or_true]
            obtain ⟨U, hUe⟩ : ∃ U, U = (wr.alloc (.cells #[.int .i64 (q : Int), .bool false, .int .i64 0, .slice da dn dc] 35)).drew := ⟨_, rfl⟩
            rw [← hUe] at bU hU ⊢
            clear hUe
            obtain ⟨xb, hxb⟩ : ∃ xb, xb = wr.heap.size := ⟨_, rfl⟩
            have bU' : Below wr.heap.size wr U := bU
            rw [← hxb] at hU ⊢
            clear hxb
            have d0 : ∀ w', Ext U w' → w'.cell? ⟨xb, 0, none⟩ = some (.int .i64 (q : Int)) := fun w' hw => by rw [cell_of_row _ _ _ _ _ _ (row_below hU hw)]; rfl
            have d1 : ∀ w', Ext U w' → w'.cell? ⟨xb, 1, none⟩ = some (.bool false) := fun w' hw => by rw [cell_of_row _ _ _ _ _ _ (row_below hU hw)]; rfl
            have d2 : ∀ w', Ext U w' → w'.cell? ⟨xb, 2, none⟩ = some (.int .i64 0) := fun w' hw => by rw [cell_of_row _ _ _ _ _ _ (row_below hU hw)]; rfl
            have d3 : ∀ w', Ext U w' → w'.cell? ⟨xb, 3, none⟩ = some (.slice da dn dc) := fun w' hw => by rw [cell_of_row _ _ _ _ _ _ (row_below hU hw)]; rfl
            have hZU : Below X.heap.size X U := hZ.trans (bU'.mono hZ.size)
            have d4 : ∀ w', Ext U w' → w'.cell? ⟨b, 0, none⟩ = some (.int .i64 (L : Int)) := fun w' hw => by rw [cell_of_row _ _ _ _ _ _ (row_below (row_below hVX hZU) hw)]; rfl
            have hcU : U.cell? ⟨ag, j, none⟩ = some (.slice sa sn sc) := (bU'.cell (p := ⟨ag, j, none⟩) (Nat.lt_of_lt_of_le (own_lt hAX rfl) hZ.size)).trans hcj
            have d5 : ∀ w', Ext U w' → w'.cell? ⟨ag, j, none⟩ = some (.slice sa sn sc) := fun w' hw => (hw.cell (p := ⟨ag, j, none⟩) (Nat.lt_of_lt_of_le (own_lt hAX rfl) hZU.size)).trans hcU
            have k1 := run_str_ext (P := Try.prog) 24 5 9 Try.underlying24 Try.underlying5 Try.underlying9 (Rd.ofOwn (ownsRow_below hinj.1 hZU))
            have k2 := run_str_ext (P := Try.prog) 24 5 9 Try.underlying24 Try.underlying5 Try.underlying9 (Rd.ofOwn (ownsRow_below hdj hZU))
            generalize strB D[j] = sv at *
            clear q0 q1 q2 q3 hcj hcU bxz cgz hdj hinj hU
            repeat (refine wpL_do rfl (fun w' hw' => (by go_simp; rfl)) ?_; simp only [Act.put, List.setIfInBounds_toArray, List.set_cons_succ, List.set_cons_zero])
            refine wpL_nil ?_
            clear d0 d1 d2 d3 d4 d5 k1 k2
            go_wp2_with fail
            go_roundw
            case rel => exact ⟨j + 1, by go_num, by omega, hZU⟩
            case measure => simp [intOf]; omega
          · obtain rfl : k = j := by omega
            go_wp2_with fail
            go_ret
            exact ⟨rfl, hBX.trans (hZ.mono hBX.size)⟩
end Go.Proofs.Ytlbpmepifegeiaa
