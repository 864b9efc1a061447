/- look: the walk. -/
import Derived.Test.YtkgnelmnadnbhaaVsG
import Derived.Test.YtkgnelmnadnbhaaOpenInts
namespace Go.Proofs.Ytkgnelmnadnbhaa
set_option linter.unusedVariables false
open Go.RowKit

theorem run_cutG (b off n c k : Nat) (hk : k ≤ n) (hc : n ≤ c) (w : World) : (Instr.sliceAt 22 (.slice (some ⟨b, off, none⟩) n c) (some (.int .i64 (k : Int))) none none).run Try.prog w = .ok (.slice (some ⟨b, if c = k then off else off + k, none⟩) (n - k) (c - k)) w := by
  have h1 : (k : Int) ≤ n := by omega
  simp [go_sem, h1, Try.underlying22]
  split <;> rfl
/-- the vigil's row is the same -/
def SameX (X : Nat) (u u' : World) : Prop := u'.heap[X]? = u.heap[X]?
set_option maxRecDepth 100000 in
set_option maxHeartbeats 8000000 in
theorem look_ok (X B : Nat) (p : GP) (s : St) (bv tv pv nv : Value) (ms : List Mon) (va : Option Addr) (vc : Nat) (vals : List Int) (w : World) (h : VS w X B p s bv tv pv nv) (hB : B ≤ w.heap.size) (hr : RdM w p.g p.n p.cap ms) (hgB : p.g < B) (hms : GoodMons ms) (hn1 : 1 ≤ p.n) (hn9 : p.n ≤ 9)
    (hbl : s.bad.length = p.n) (htl : s.trp.length = p.n) (hpl : s.trips.length ≤ 100) (hnl : s.now.length ≤ 100) (hv : Rd w va 3 vc (vz vals)) (hvB : ∀ b off, va = some ⟨b, off, none⟩ → b < B) (hbf : ∀ i, nth s.bad i ≤ 1000) :
    Calls Try.prog 15 #[.pointer (some ⟨X, 0, none⟩), .slice va 3 vc] w fun e w' => e = .returned (.tuple #[]) ∧ ∃ pv' nv', VS w' X B p (lookTo ms vals s p.n) bv tv pv' nv' ∧ Below B w w' := by
  obtain ⟨ib, hib, ib0, ib1, ib2⟩ := info_parts Try.info3
  obtain ⟨g, n, cap, sil, most, win, nam⟩ := p
  dsimp only at *
  have Hlen := hid hr.len
  have hrow := h.row
  have hXl := row_lt hrow
  have c0 : w.cell? ⟨X, 6, none⟩ = some (.slice (some ⟨g, 0, none⟩) n cap) := by rw [cell_of_row _ _ _ _ _ _ hrow]; rfl
  have H0 := hid h
  clear hrow h
  obtain ⟨vb, vo, hva, hvl, hvcell⟩ := hv.mem (by omega)
  subst hva
  have hvB := hvB vb vo rfl
  have Hbl := hid hbl
  have Htl := hid htl
  have Hbf := hid hbf
  clear hbl htl hbf
  go_enter Try.func15, Try.ntmps15
  go_wp2_with fail
  go_loopw [12] (fun i wr => ∃ (j : Nat) (pv nv : Value), j ≤ n ∧ i = .int .i64 j ∧ Hid (VS wr X B ⟨g, n, cap, sil, most, win, nam⟩ (lookTo ms vals s j) bv tv pv nv) ∧ Below B w wr) (fun i _ => n - (intOf i).toNat)
  case atStart => exact ⟨0, pv, nv, by omega, rfl, H0, Below.refl _ _⟩
  case round =>
    obtain ⟨j, pv, nv, hj, rfl, hV, hBw⟩ := hrel
    by_cases hlt : j < n
    · obtain ⟨k0, k1, k2, k3, k4, k5⟩ := (hr.below hBw hgB).at_ j hlt
      have hm := hms j (by rw [Hlen.out]; exact hlt)
      obtain ⟨l1, l2, l3, l4⟩ := lookTo_len ms vals s j
      rw [Hbl.out] at l1
      rw [Htl.out] at l2
      have l3 := l3 hpl
      have Hnext := hid (show lookTo ms vals s (j + 1) = look1 ms vals (lookTo ms vals s j) j from rfl)
      generalize hsn : lookTo ms vals s (j + 1) = sn at *
      have Hsn := hid hsn
      clear hsn
      unfold look1 at Hnext
      have hbj : nth (lookTo ms vals s j).bad j ≤ 1000 := lookTo_bad ms vals s 1000 n Hbf.out (fun i hi => by have := (hms i (by rw [Hlen.out]; exact hi)).f2; omega) j hj j
      generalize lookTo ms vals s j = sj at *
      generalize mAt ms j = m at *
      obtain ⟨mo, mf, mt, mn⟩ := m
      have hmo := hm.o
      have hmf := hm.f2
      have hmf1 := hm.f1
      dsimp only at *
      have hxc : wr.cell? ⟨vb, vo + mo, none⟩ = some (.int .i64 (vals.getD mo 0)) := by
        rw [hBw.cell (p := ⟨vb, vo + mo, none⟩) hvB, hvcell mo (by omega), vz_get]
        have := hv.len
        rw [vz_len] at this
        omega
      have b5 := below_alloc wr (.cells #[.int .i64 (mo : Int), .int .i64 0, .int .i64 9, .int .i64 (mf : Int), .int .i64 (mt : Int), .string mn] 29)
      have A5 := heap_alloc_new wr (.cells #[.int .i64 (mo : Int), .int .i64 0, .int .i64 9, .int .i64 (mf : Int), .int .i64 (mt : Int), .string mn] 29)
      have hwB : B ≤ wr.heap.size := Nat.le_trans hB hBw.size
      have hvw : vb < wr.heap.size := by omega
      have hxc := hid ((b5.cell (p := ⟨vb, vo + mo, none⟩) hvw).trans hxc)
      have hV := hid (hV.out.below b5)
      have HBx := hid (hBw.trans (b5.mono hwB))
      obtain ⟨mb, hmb⟩ : ∃ mb, mb = wr.heap.size := ⟨_, rfl⟩
      have hmbB : B ≤ mb := by omega
      have hXmb : X < mb := by have := hBw.size; omega
      have Hmb := hid hmb
      rw [← hmb] at A5
      have A5 := hid A5
      clear b5 hmb hBw
      generalize vals.getD mo 0 = x at *
      go_upto_region 3 with (fail)
      rw [← Hmb.out]
      generalize wr.alloc (.cells #[.int .i64 (mo : Int), .int .i64 0, .int .i64 9, .int .i64 (mf : Int), .int .i64 (mt : Int), .string mn] 29) = V5 at *
      clear k0 k1 k2 k3 k4 k5 Hmb
      have hvw5 : vb < V5.heap.size := by have := row_lt A5.out; omega
      have e1 : ∀ w', Below V5.heap.size V5.drew w' → w'.cell? ⟨vb, vo + mo, none⟩ = some (.int .i64 x) := fun w' hb => ((((Below.refl V5.heap.size V5).drew).trans hb).cell (p := ⟨vb, vo + mo, none⟩) hvw5).trans hxc.out
      have e2 : ∀ w', Below V5.heap.size V5.drew w' → w'.cell? ⟨mb, 0, none⟩ = some (.int .i64 (mo : Int)) := fun w' hb => by rw [cell_of_row _ _ _ _ _ _ (row_below A5.out (((Below.refl V5.heap.size V5).drew).trans hb))]; rfl
      have e3 : ∀ w', Below V5.heap.size V5.drew w' → w'.cell? ⟨mb, 1, none⟩ = some (.int .i64 0) := fun w' hb => by rw [cell_of_row _ _ _ _ _ _ (row_below A5.out (((Below.refl V5.heap.size V5).drew).trans hb))]; rfl
      have e4 : ∀ w', Below V5.heap.size V5.drew w' → w'.cell? ⟨mb, 2, none⟩ = some (.int .i64 9) := fun w' hb => by rw [cell_of_row _ _ _ _ _ _ (row_below A5.out (((Below.refl V5.heap.size V5).drew).trans hb))]; rfl
      have hmo3 : (mo : Int) < 3 := by omega
      refine wp_region_can_all [9] [0, 1, 2, 3, 4, 5, 6, 7, 8, 9] (Below V5.heap.size) (fun _ => Below.refl _ _) (fun _ _ _ h k => h.trans k) (by kernel_rfl) (by kernel_rfl) ?_
      simp only [List.map_cons, List.map_nil, List.contains_cons, List.contains_nil, List.getD_cons_zero, List.getD_cons_succ, Nat.reduceBEq, Bool.or_false]
      have hV := hid hV.out.drew
      have A5 := hid (show V5.drew.heap[mb]? = _ from A5.out)
      have HBx := hid (HBx.out.trans (Below.refl _ V5).drew)
      generalize V5.drew = V6 at *
      repeat (refine wpL_do rfl (fun w' hw' => (by go_simp; rfl)) ?_; simp only [Act.put, List.setIfInBounds_toArray, List.set_cons_succ, List.set_cons_zero])
      refine wpL_call rfl (fun K hK => ?_)
      by_cases hin : 0 ≤ x ∧ x ≤ 9
      · go_wp2_with fail
        refine (in_yes x 0 9 _ hin.1 hin.2).mono ?_
        rintro e w' ⟨rfl, rfl⟩
        refine hK _ _ (Below.refl _ _) ?_
        clear hK K e1 e2 e3 e4
        try simp only [Act.put, List.setIfInBounds_toArray, List.set_cons_succ, List.set_cons_zero]
        refine wpL_nil ?_
        go_wp2_with fail
        obtain ⟨V7, rfl⟩ : ∃ V7 : World, V7 = w' := ⟨_, rfl⟩
        have hin' : Hid (isIn x = true) := decide_eq_true hin
        rw [if_pos hin'.out] at Hnext
        clear hin
        obtain ⟨bb, bo, bc, hbv, hbbB, hbbl, hbc⟩ := hV.out.b.at_ (by omega)
        obtain ⟨tb, to_, tc, htv, htbB, htbl, htc⟩ := hV.out.t.at_ (by omega)
        have L1 := hid l1
        have L2 := hid l2
        have Hbv := hid hbv
        have Htv := hid htv
        have e2 : ∀ w', SameX X V7.drew w' → w'.cell? ⟨X, 2, none⟩ = some (.slice (some ⟨bb, bo, none⟩) n bc) := fun w' hs => by
          rw [cell_of_row _ _ _ _ _ _ ((hs : w'.heap[X]? = V7.heap[X]?).trans hV.out.row), ← l1, ← hbv]; rfl
        have e3 : ∀ w', SameX X V7.drew w' → w'.cell? ⟨X, 3, none⟩ = some (.slice (some ⟨tb, to_, none⟩) n tc) := fun w' hs => by
          rw [cell_of_row _ _ _ _ _ _ ((hs : w'.heap[X]? = V7.heap[X]?).trans hV.out.row), ← l2, ← htv]; rfl
        have hVd := hV.out.drew
        rw [hbv] at hVd
        obtain ⟨s1, g1⟩ := hVd.setBad j 0 (by omega)
        rw [← hbv, htv] at s1
        have s1' : VS (V7.drew.setCell ⟨bb, bo + j, none⟩ (.int .i64 0)) X B ⟨g, n, cap, sil, most, win, nam⟩ { sj with bad := sj.bad.set j 0 } bv (.slice (some ⟨tb, to_, none⟩) ({ sj with bad := sj.bad.set j 0 } : St).trp.length tc) pv nv := s1
        obtain ⟨s2, g2⟩ := s1'.setTrp j false (by show j < sj.trp.length; omega)
        have S2 : Hid (VS ((V7.drew.setCell ⟨bb, bo + j, none⟩ (.int .i64 0)).setCell ⟨tb, to_ + j, none⟩ (.bool false)) X B ⟨g, n, cap, sil, most, win, nam⟩ sn bv tv pv nv) := by
          unfold Hid
          rw [Hnext.out, htv]
          exact s2
        have x1 : SameX X V7.drew (V7.drew.setCell ⟨bb, bo + j, none⟩ (.int .i64 0)) := by
          have h := hV.out.row
          rw [htv] at h
          exact s1.row.trans h.symm
        have x2 : SameX X (V7.drew.setCell ⟨bb, bo + j, none⟩ (.int .i64 0)) ((V7.drew.setCell ⟨bb, bo + j, none⟩ (.int .i64 0)).setCell ⟨tb, to_ + j, none⟩ (.bool false)) := s2.row.trans s1.row.symm
        have X1 := hid x1
        have X2 := hid x2
        have HB7 : Hid (Below B V7 ((V7.drew.setCell ⟨bb, bo + j, none⟩ (.int .i64 0)).setCell ⟨tb, to_ + j, none⟩ (.bool false))) := (((Below.refl B V7).drew).grown g1 (by have := HBx.out.size; show B ≤ V7.heap.size; omega) (fun k e => by cases e; exact hbbB)).grown g2 (by have := HBx.out.size; have := g1.size; show B ≤ _; have h3 : V7.drew.heap.size = V7.heap.size := rfl; omega) (fun k e => by cases e; exact htbB)
        have HB8 := hid (HBx.out.trans HB7.out)
        have f1 : V7.drew.cell? ⟨bb, bo + j, none⟩ = some (.int .i64 (nth sj.bad j : Nat)) := by
          have h := (hbc j (by omega)).1
          rw [vi_get _ _ (by omega)] at h
          exact h
        have f2 : V7.drew.frozen? ⟨bb, bo + j, none⟩ = false := (hbc j (by omega)).2
        have hneb : tb ≠ bb := fun e => by
          rcases hV.out.t.other hV.out.b (by decide) with h | h
          · rw [htv] at h; cases h
          · apply h; rw [htv, hbv, e]; rfl
        have f3 : (V7.drew.setCell ⟨bb, bo + j, none⟩ (.int .i64 0)).cell? ⟨tb, to_ + j, none⟩ = some (.bool (sj.trp.getD j false)) := by
          have h := (htc j (by omega)).1
          rw [vt_get _ _ (by omega)] at h
          rw [World.cell?_setCell_other _ _ _ _ (by simp)]
          exact h
        have f4 : (V7.drew.setCell ⟨bb, bo + j, none⟩ (.int .i64 0)).frozen? ⟨tb, to_ + j, none⟩ = false := by
          rw [World.frozen?_setCell]; exact (htc j (by omega)).2
        have hjn : (j : Int) < (n : Int) := by omega
        clear s1 s1' s2 g1 g2 x1 x2 hVd HB7 hbc htc hbv htv l1 l2 hV A5
        refine wp_region_can_all [13, 15] [0, 1, 2, 3, 4, 5, 6, 7, 8, 9, 10, 11, 12, 13, 14, 15] (SameX X) (fun _ => rfl) (fun _ _ _ h k => Eq.trans k h) (by kernel_rfl) (by kernel_rfl) ?_
        simp only [List.map_cons, List.map_nil, List.contains_cons, List.contains_nil, List.getD_cons_zero, List.getD_cons_succ, Nat.reduceBEq, Bool.or_false, Bool.or_true]
        generalize V7.drew = V8 at *
        repeat (refine wpL_do rfl (fun w' hw' => (by go_simp; rfl)) ?_; simp only [Act.put, List.setIfInBounds_toArray, List.set_cons_succ, List.set_cons_zero])
        refine wpL_call rfl (fun K hK => ?_)
        go_wp2_with fail
        refine hK _ _ X1.out ?_
        clear hK K
        try simp only [Act.put, List.setIfInBounds_toArray, List.set_cons_succ, List.set_cons_zero]
        clear e2 e3 f1 f2
        generalize V8.setCell ⟨bb, bo + j, none⟩ (.int .i64 0) = V9 at *
        repeat (refine wpL_do rfl (fun w' hw' => (by go_simp; rfl)) ?_; simp only [Act.put, List.setIfInBounds_toArray, List.set_cons_succ, List.set_cons_zero])
        refine wpL_call rfl (fun K hK => ?_)
        go_wp2_with fail
        refine hK _ _ X2.out ?_
        clear hK K
        try simp only [Act.put, List.setIfInBounds_toArray, List.set_cons_succ, List.set_cons_zero]
        refine wpL_nil ?_
        go_wp2_with fail
        go_roundw
        case rel => exact ⟨j + 1, pv, nv, by omega, by go_num, by unfold Hid; rw [Hsn.out]; exact S2.out, HB8.out⟩
        case measure => simp [intOf]; omega
      · go_wp2_with fail
        refine (in_no x 0 9 _ (by omega)).mono ?_
        rintro e w' ⟨rfl, rfl⟩
        refine hK _ _ (Below.refl _ _) ?_
        clear hK K e1 e2 e3 e4
        try simp only [Act.put, List.setIfInBounds_toArray, List.set_cons_succ, List.set_cons_zero]
        refine wpL_nil ?_
        go_wp2_with fail
        obtain ⟨V7, rfl⟩ : ∃ V7 : World, V7 = w' := ⟨_, rfl⟩
        have hin' : isIn x ≠ true := fun h => hin (of_decide_eq_true h)
        rw [if_neg hin'] at Hnext
        clear hin hin'
        obtain ⟨bb, bo, bc, hbv, hbbB, hbbl, hbc⟩ := hV.out.b.at_ (by omega)
        obtain ⟨tb, to_, tc, htv, htbB, htbl, htc⟩ := hV.out.t.at_ (by omega)
        obtain ⟨b2, hb2⟩ : ∃ b2, b2 = min (nth sj.bad j + 1) mf := ⟨_, rfl⟩
        rw [← hb2] at Hnext
        have hb26 : b2 ≤ 6 := by omega
        have hmin : (if (mf : Int) < ((nth sj.bad j : Nat) : Int) + 1 then (mf : Int) else ((nth sj.bad j : Nat) : Int) + 1) = (b2 : Int) := by split <;> omega
        have hw1 : IntKind.i64.wrap (((nth sj.bad j : Nat) : Int) + 1) = ((nth sj.bad j : Nat) : Int) + 1 := by rw [IntWalk.i64_in _ (by omega)]
        clear hb2
        have e2 : ∀ w', Below V7.heap.size V7.drew w' → w'.cell? ⟨X, 2, none⟩ = some (.slice (some ⟨bb, bo, none⟩) n bc) := fun w' hs => by
          rw [cell_of_row _ _ _ _ _ _ (row_below hV.out.row (((Below.refl _ V7).drew).trans hs)), ← l1, ← hbv]; rfl
        have e3 : ∀ w', Below V7.heap.size V7.drew w' → w'.cell? ⟨mb, 3, none⟩ = some (.int .i64 (mf : Int)) := fun w' hs => by
          rw [cell_of_row _ _ _ _ _ _ (row_below A5.out (((Below.refl _ V7).drew).trans hs))]; rfl
        have e4 : ∀ w', Below V7.heap.size V7.drew w' → w'.cell? ⟨bb, bo + j, none⟩ = some (.int .i64 (nth sj.bad j : Nat)) := fun w' hs => by
          rw [(((Below.refl _ V7).drew).trans hs).cell (p := ⟨bb, bo + j, none⟩) hbbl, (hbc j (by omega)).1, vi_get _ _ (by omega)]
        have hVd := hV.out.drew
        rw [hbv] at hVd
        obtain ⟨s1, g1⟩ := hVd.setBad j b2 (by omega)
        rw [← hbv] at s1
        have S1 := hid s1
        have G1 := hid g1
        have f1 : V7.drew.cell? ⟨bb, bo + j, none⟩ = some (.int .i64 (nth sj.bad j : Nat)) := by
          have h := (hbc j (by omega)).1
          rw [vi_get _ _ (by omega)] at h
          exact h
        have f2 : V7.drew.frozen? ⟨bb, bo + j, none⟩ = false := (hbc j (by omega)).2
        have hjn : (j : Int) < (n : Int) := by omega
        have Hbv := hid hbv
        have Htv := hid htv
        have L1 := hid l1
        have L2 := hid l2
        have hrB := row_lt A5.out
        have A5 := hid (row_grown (show V7.drew.heap[mb]? = _ from A5.out) g1 (fun e => by
          have h1 := hV.out.b.ne A5.out (by decide)
          rw [hbv, ← e] at h1
          rcases h1 with h1 | h1
          · cases h1
          · exact h1 rfl))
        have HB8 := hid (HBx.out.trans (((Below.refl B V7).drew).grown g1 (by have := HBx.out.size; show B ≤ V7.heap.size; omega) (fun k e => by cases e; exact hbbB)))
        refine wp_region_can 19 [] [0, 1, 2, 3, 4, 5, 6, 7, 8, 9, 10, 11, 12, 13, 14, 15, 16, 17, 18] (Below V7.heap.size) (fun _ => Below.refl _ _) (fun _ _ _ h k => h.trans k) (by kernel_rfl) (by kernel_rfl) ?_
        simp only [List.map_cons, List.map_nil, List.contains_nil, List.getD_cons_zero, List.getD_cons_succ]
        clear s1 g1 hVd htc hbc hbv htv l1 l2 hV HBx
        generalize nth sj.bad j = ob at *
        repeat (refine wpL_do rfl (fun w' hw' => (by go_simp; rfl)) ?_; simp only [Act.put, List.setIfInBounds_toArray, List.set_cons_succ, List.set_cons_zero])
        refine wpL_nil ?_
        clear e2 e3 e4 hw1 hmin
        go_wp2_with fail
        refine only_on ?_
        have S1 : Hid (VS (V7.setCell ⟨bb, bo + j, none⟩ (.int .i64 (b2 : Int))).drew X B ⟨g, n, cap, sil, most, win, nam⟩ { sj with bad := sj.bad.set j b2 } bv tv pv nv) := S1
        have A5 : Hid ((V7.setCell ⟨bb, bo + j, none⟩ (.int .i64 (b2 : Int))).drew.heap[mb]? = some (.cells #[.int .i64 (mo : Int), .int .i64 0, .int .i64 9, .int .i64 (mf : Int), .int .i64 (mt : Int), .string mn] 29)) := A5
        have HB8 : Hid (Below B w (V7.setCell ⟨bb, bo + j, none⟩ (.int .i64 (b2 : Int))).drew) := HB8
        clear f1 f2 G1
        generalize (V7.setCell ⟨bb, bo + j, none⟩ (.int .i64 (b2 : Int))).drew = W8 at *
        go_wp2_with fail
        have l1' : ({ sj with bad := sj.bad.set j b2 } : St).bad.length = n := by show (sj.bad.set j b2).length = n; rw [List.length_set, L1.out]
        have hnj : nth (sj.bad.set j b2) j = b2 := by
          unfold nth
          rw [List.getD_eq_getElem?_getD, List.getElem?_set_self (by rw [L1.out]; exact hlt)]
          rfl
        obtain ⟨bb1, bo1, bc1, hbv1, _, hbbl1, hbc1⟩ := S1.out.b.at_ (by rw [l1']; omega)
        rw [Hbv.out, l1'] at hbv1
        rw [L1.out] at hbv1
        cases hbv1
        obtain ⟨tb1, to1, tc1, htv1, _, htbl1, htc1⟩ := S1.out.t.at_ (by show 0 < sj.trp.length; rw [L2.out]; omega)
        rw [Htv.out] at htv1
        cases htv1
        have e2 : ∀ w', Below W8.heap.size W8.drew w' → w'.cell? ⟨X, 2, none⟩ = some (.slice (some ⟨bb, bo, none⟩) n bc) := fun w' hs => by
          rw [cell_of_row _ _ _ _ _ _ (row_below S1.out.row (((Below.refl _ W8).drew).trans hs)), ← L1.out, ← Hbv.out]; rfl
        have e3 : ∀ w', Below W8.heap.size W8.drew w' → w'.cell? ⟨mb, 3, none⟩ = some (.int .i64 (mf : Int)) := fun w' hs => by
          rw [cell_of_row _ _ _ _ _ _ (row_below A5.out (((Below.refl _ W8).drew).trans hs))]; rfl
        have e4 : ∀ w', Below W8.heap.size W8.drew w' → w'.cell? ⟨bb, bo + j, none⟩ = some (.int .i64 (b2 : Int)) := fun w' hs => by
          rw [(((Below.refl _ W8).drew).trans hs).cell (p := ⟨bb, bo + j, none⟩) hbbl1, (hbc1 j (by rw [l1']; exact hlt)).1, vi_get _ _ (by show j < (sj.bad.set j b2).length; rw [List.length_set, L1.out]; exact hlt), hnj]
        have e5 : ∀ w', Below W8.heap.size W8.drew w' → w'.cell? ⟨X, 3, none⟩ = some (.slice (some ⟨tb, to_, none⟩) n tc) := fun w' hs => by
          rw [cell_of_row _ _ _ _ _ _ (row_below S1.out.row (((Below.refl _ W8).drew).trans hs)), ← L2.out, ← Htv.out]; rfl
        have e6 : ∀ w', Below W8.heap.size W8.drew w' → w'.cell? ⟨tb, to_ + j, none⟩ = some (.bool (sj.trp.getD j false)) := fun w' hs => by
          rw [(((Below.refl _ W8).drew).trans hs).cell (p := ⟨tb, to_ + j, none⟩) htbl1, (htc1 j (by show j < sj.trp.length; rw [L2.out]; exact hlt)).1]
          exact vt_get _ _ (by rw [L2.out]; exact hlt)
        have hW8l := row_lt A5.out
        clear hbc1 htc1 hnj l1'
        refine wp_region_can_all [] [0, 1, 2, 3, 4, 5, 6, 7, 8, 9, 10, 11, 12, 13, 14, 15, 16, 17, 18, 19, 20] (Below W8.heap.size) (fun _ => Below.refl _ _) (fun _ _ _ h k => h.trans k) (by kernel_rfl) (by kernel_rfl) ?_
        simp only [List.map_cons, List.map_nil, List.contains_nil, List.getD_cons_zero, List.getD_cons_succ]
        have S1 := hid S1.out.drew
        have HB8 := hid (HB8.out.trans (Below.refl _ W8).drew)
        generalize W8.drew = W9 at *
        by_cases hbf : b2 < mf
        · have d1 : decide (b2 < mf) = true := decide_eq_true hbf
          rw [if_pos (.inl hbf)] at Hnext
          clear hbf e5 e6
          iterate 12 (refine wpL_do rfl (fun w' hw' => (by go_simp; rfl)) ?_; simp only [Act.put, List.setIfInBounds_toArray, List.set_cons_succ, List.set_cons_zero])
          iterate 8 ((with_reducible refine wpL_pass ?_ ?_); (· rfl); simp only [Act.put, List.setIfInBounds_toArray, List.set_cons_succ, List.set_cons_zero])
          refine wpL_do rfl (fun w' hw' => (by go_simp; rfl)) ?_
          simp only [Act.put, List.setIfInBounds_toArray, List.set_cons_succ, List.set_cons_zero]
          refine wpL_nil ?_
          clear e2 e3 e4
          go_wp2_with fail
          go_roundw
          case rel => exact ⟨j + 1, pv, nv, by omega, by go_num, by unfold Hid; rw [Hsn.out, Hnext.out]; exact S1.out, HB8.out⟩
          case measure => simp [intOf]; omega
        · have d1 : decide (b2 < mf) = false := decide_eq_false hbf
          iterate 12 (refine wpL_do rfl (fun w' hw' => (by go_simp; rfl)) ?_; simp only [Act.put, List.setIfInBounds_toArray, List.set_cons_succ, List.set_cons_zero])
          cases htj : sj.trp.getD j false
          · rw [htj] at e6
            rw [if_neg (by rw [htj]; rintro (h | h); exact hbf h; cases h)] at Hnext
            iterate 9 (refine wpL_do rfl (fun w' hw' => (by go_simp; rfl)) ?_; simp only [Act.put, List.setIfInBounds_toArray, List.set_cons_succ, List.set_cons_zero])
            refine wpL_nil ?_
            clear e2 e3 e4 e5 e6 hbf d1
            have h7 := S1.out
            obtain ⟨tb2, to2, tc2, htv2, htbB2, htbl2, htc2⟩ := h7.t.at_ (by show 0 < sj.trp.length; rw [L2.out]; omega)
            have htv3 := htv2
            rw [Htv.out] at htv3
            cases htv3
            have hcell := htc2 j (by show j < sj.trp.length; rw [L2.out]; exact hlt)
            have f1 : W9.cell? ⟨tb, to_ + j, none⟩ = some (.bool (sj.trp.getD j false)) := by
              rw [hcell.1]
              exact vt_get _ _ (by rw [L2.out]; exact hlt)
            have f2 := hcell.2
            have c3 : W9.cell? ⟨X, 3, none⟩ = some (.slice (some ⟨tb, to_, none⟩) n tc) := by rw [cell_of_row _ _ _ _ _ _ h7.row, ← L2.out, ← Htv.out]; rfl
            rw [htv2] at h7
            obtain ⟨s7, g7⟩ := h7.setTrp j true (by show j < sj.trp.length; rw [L2.out]; exact hlt)
            have s7' : VS (W9.setCell ⟨tb, to_ + j, none⟩ (.bool true)) X B ⟨g, n, cap, sil, most, win, nam⟩ { sj with bad := sj.bad.set j b2, trp := sj.trp.set j true } bv tv pv nv := by
              rw [htv2]
              exact s7
            have S7 := hid s7'
            have HB9 := hid (HB8.out.grown g7 (by have := HB8.out.size; omega) (fun k e => by cases e; exact htbB2))
            clear h7 s7 s7' g7 hcell htc2 htv2 htj
            go_upto_region 8 with (fail)
            generalize W9.setCell ⟨tb, to_ + j, none⟩ (.bool true) = W10 at *
            clear f1 f2 c3
            -- what trips now
            obtain ⟨na, nc, hnv, hnle, hnmx⟩ := S7.out.n.form
            have hnl4 : ({ sj with bad := sj.bad.set j b2, trp := sj.trp.set j true } : St).now.length = sj.now.length := rfl
            rw [hnl4] at hnv hnle
            have c11 : W10.cell? ⟨X, 11, none⟩ = some (.slice na sj.now.length nc) := by rw [cell_of_row _ _ _ _ _ _ S7.out.row, ← hnv]; rfl
            have b11 := below_alloc W10 (.cells #[.int .i64 (j : Int)] 3)
            have r11 := heap_alloc_new W10 (.cells #[.int .i64 (j : Int)] 3)
            have S8 := hid (S7.out.below b11)
            have HB10 := hid (HB9.out.trans (b11.mono (Nat.le_trans hB HB9.out.size)))
            have hw10 : B ≤ W10.heap.size := Nat.le_trans hB HB9.out.size
            have hX10 : X < W10.heap.size := row_lt S7.out.row
            have hnown := S8.out.n
            rw [hnv] at hnown
            have Hnv := hid hnv
            clear hnv
            go_wp2_with (at_builtin; refine hold ?_)
            unfold Hid
            refine wpList_append_at rfl _ _ 22 rfl B 3 ib (.int .i64 0) 8 Try.underlying22 hib ib0 ib1 ib2 rfl (.slice na sj.now.length nc) sj.now.length (vi sj.now) rfl hnown ⟨W10.heap.size, 0, none⟩ (.int .i64 (j : Int)) rfl (by rw [cell_of_row _ _ _ _ _ _ r11]; rfl) rfl (by unfold maxLen; omega) (by omega) (by simp; omega) ?_
            intro v12 W12 o12 g12 fr12
            obtain ⟨na2, nc2, hv12, hnle2, _⟩ := o12.form
            subst hv12
            have hvi : vi sj.now ++ [.int .i64 (j : Int)] = vi (sj.now ++ [j]) := by rw [vi_append]; rfl
            rw [hvi] at o12
            have hl12 : (sj.now ++ [j]).length = sj.now.length + 1 := by simp
            obtain ⟨s12, g13⟩ := S8.out.setN (l := sj.now ++ [j]) (by rw [Hnv.out]; exact g12) (by rw [hl12]; exact o12) (by rw [Hnv.out]; exact fr12)
            have S12 := hid s12
            have hbk : ∀ k, (Value.slice na sj.now.length nc).ownBlock = some k → B ≤ k := fun k e => (hnown.lt k e).1
            have HB12 := hid ((HB10.out.grown g12 (by simp; omega) hbk).grown g13 (by have := g12.size; simp at this; omega) (fun k e => by cases e; exact S7.out.hX))
            have q12 := S8.out.rowKept S8.out.n (by decide) (by rw [Hnv.out]; exact g12)
            have f1 : W12.cell? ⟨X, 11, none⟩ = some (.slice na sj.now.length nc) := by rw [cell_of_row _ _ _ _ _ _ q12, ← Hnv.out]; rfl
            have f2 : W12.frozen? ⟨X, 11, none⟩ = false := frozen_row q12 11
            clear s12 g13 g12 o12 fr12 hbk hnown q12 b11 r11 c11 hvi hl12 hnle2 hnle hnl4
            go_upto_region 9 with (fail)
            generalize W12.setCell ⟨X, 11, none⟩ (.slice na2 (sj.now.length + 1) nc2) = W13 at *
            clear f1 f2 S8 S7 HB9 HB10 hw10 hX10
            -- the trips
            obtain ⟨pa, pc, hpv, hple, hpmx⟩ := S12.out.p_.form
            have hpl4 : ({ sj with bad := sj.bad.set j b2, trp := sj.trp.set j true, now := sj.now ++ [j] } : St).trips.length = sj.trips.length := rfl
            rw [hpl4] at hpv hple
            have c5 : W13.cell? ⟨X, 5, none⟩ = some (.slice pa sj.trips.length pc) := by rw [cell_of_row _ _ _ _ _ _ S12.out.row, ← hpv]; rfl
            have b13 := below_alloc W13 (.cells #[.int .i64 0] 3)
            have r13 := heap_alloc_new W13 (.cells #[.int .i64 0] 3)
            have hw13 : B ≤ W13.heap.size := Nat.le_trans hB HB12.out.size
            have S13 := hid (S12.out.below b13)
            have HB13 := hid (HB12.out.trans (b13.mono hw13))
            have hpown := S13.out.p_
            rw [hpv] at hpown
            have Hpv := hid hpv
            clear hpv
            go_wp2_with (at_builtin; refine hold ?_)
            unfold Hid
            refine wpList_append_at rfl _ _ 22 rfl B 3 ib (.int .i64 0) 8 Try.underlying22 hib ib0 ib1 ib2 rfl (.slice pa sj.trips.length pc) sj.trips.length (vi sj.trips) rfl hpown ⟨W13.heap.size, 0, none⟩ (.int .i64 0) rfl (by rw [cell_of_row _ _ _ _ _ _ r13]; rfl) rfl (by unfold maxLen; omega) (by omega) (by simp; omega) ?_
            intro v14 W14 o14 g14 fr14
            have hvi : vi sj.trips ++ [.int .i64 0] = vi (sj.trips ++ [0]) := by rw [vi_append]; rfl
            rw [hvi] at o14
            obtain ⟨pb, po, pc2, hv14, hpbB, hpbl, hpbc⟩ := o14.at_ (by omega)
            subst hv14
            have hl14 : (sj.trips ++ [0]).length = sj.trips.length + 1 := by simp
            obtain ⟨s14, g15⟩ := S13.out.setP (l := sj.trips ++ [0]) (by rw [Hpv.out]; exact g14) (by rw [hl14]; exact o14) (by rw [Hpv.out]; exact fr14)
            have S14 := hid s14
            have hbk : ∀ k, (Value.slice pa sj.trips.length pc).ownBlock = some k → B ≤ k := fun k e => (hpown.lt k e).1
            have HB14 := hid ((HB13.out.grown g14 (by simp; omega) hbk).grown g15 (by have := g14.size; simp at this; omega) (fun k e => by cases e; exact S12.out.hX))
            have q14 := S13.out.rowKept S13.out.p_ (by decide) (by rw [Hpv.out]; exact g14)
            have f1 : W14.cell? ⟨X, 5, none⟩ = some (.slice pa sj.trips.length pc) := by rw [cell_of_row _ _ _ _ _ _ q14, ← Hpv.out]; rfl
            have f2 : W14.frozen? ⟨X, 5, none⟩ = false := frozen_row q14 5
            have hle14 : sj.trips.length + 1 ≤ pc2 := by obtain ⟨a, c, hv, h1, _⟩ := o14.form; cases hv; exact h1
            clear s14 g15 g14 o14 fr14 hbk hpown q14 b13 r13 c5 hvi hple hpl4 hpbc
            go_upto_region 10 with (fail)
            generalize W14.setCell ⟨X, 5, none⟩ (.slice (some ⟨pb, po, none⟩) (sj.trips.length + 1) pc2) = W15 at *
            clear f1 f2 S13 S12 HB12 HB13 hw13
            obtain ⟨L, hL⟩ : ∃ L, L = sj.trips.length + 1 := ⟨_, rfl⟩
            obtain ⟨K, hK⟩ : ∃ K, K = L - 100 := ⟨_, rfl⟩
            have e5 : ∀ w', Below W15.heap.size W15.drew w' → w'.cell? ⟨X, 5, none⟩ = some (.slice (some ⟨pb, po, none⟩) L pc2) := fun w' hs => by
              rw [cell_of_row _ _ _ _ _ _ (row_below S14.out.row (((Below.refl _ W15).drew).trans hs)), hL]; rfl
            have q15 := S14.out.row
            have f1 : W15.drew.cell? ⟨X, 5, none⟩ = some (.slice (some ⟨pb, po, none⟩) L pc2) := e5 _ (Below.refl _ _)
            have f2 : W15.drew.frozen? ⟨X, 5, none⟩ = false := frozen_row (show W15.drew.heap[X]? = _ from q15) 5
            have hw1 : IntKind.i64.wrap ((L : Int) - 100) = (L : Int) - 100 := by rw [IntWalk.i64_in _ (by omega)]
            have hmax : (if (0 : Int) < (L : Int) - 100 then (L : Int) - 100 else 0) = (K : Int) := by split <;> omega
            obtain ⟨po2, n2, c2, hsv⟩ : ∃ po2 n2 c2, Value.slice (some ⟨pb, po2, none⟩) n2 c2 = Value.slice (some ⟨pb, if pc2 = K then po else po + K, none⟩) (L - K) (pc2 - K) := ⟨_, _, _, rfl⟩
            have hrun : ∀ w, (Instr.sliceAt 22 (.slice (some ⟨pb, po, none⟩) L pc2) (some (.int .i64 (K : Int))) none none).run Try.prog w = .ok (.slice (some ⟨pb, po2, none⟩) n2 c2) w := fun w => by rw [hsv]; exact run_cutG _ _ _ _ _ (by omega) (by omega) w
            have Hsv := hid hsv
            have HL := hid hL
            have HK := hid hK
            clear hsv hL hK
            refine wp_region_can 18 [] [0, 1, 2, 3, 4, 5, 6, 7, 8, 9, 10, 11, 12, 13, 14, 15, 16, 17] (Below W15.heap.size) (fun _ => Below.refl _ _) (fun _ _ _ h k => h.trans k) (by kernel_rfl) (by kernel_rfl) ?_
            simp only [List.map_cons, List.map_nil, List.contains_nil, List.getD_cons_zero, List.getD_cons_succ]
            iterate 13 (refine wpL_do rfl (fun w' hw' => (by go_simp; rfl)) ?_; simp only [Act.put, List.setIfInBounds_toArray, List.set_cons_succ, List.set_cons_zero])
            refine wpL_do (v := .int .i64 (K : Int)) rfl (fun w' hw' => ?_) ?_
            · have hmm : (if (100 : Int) < (L : Int) then (L : Int) - 100 else 0) = (K : Int) := by have := HK.out; split <;> omega
              go_simp
              first
                | done
                | (rw [hmm]; done)
                | (rw [hmm]; rfl)
                | rfl
            simp only [Act.put, List.setIfInBounds_toArray, List.set_cons_succ, List.set_cons_zero]
            refine wpL_do (v := .slice (some ⟨pb, po2, none⟩) n2 c2) rfl (fun w' hw' => ?_) ?_
            · have hKL : (K : Int) ≤ L := by have := HK.out; omega
              go_simp
            simp only [Act.put, List.setIfInBounds_toArray, List.set_cons_succ, List.set_cons_zero]
            repeat (refine wpL_do rfl (fun w' hw' => (by go_simp; rfl)) ?_; simp only [Act.put, List.setIfInBounds_toArray, List.set_cons_succ, List.set_cons_zero])
            refine wpL_nil ?_
            have hPown := S14.out.p_
            have hl14 : ({ sj with bad := sj.bad.set j b2, trp := sj.trp.set j true, now := sj.now ++ [j], trips := sj.trips ++ [0] } : St).trips.length = L := by rw [HL.out]; simp
            rw [hl14, ← HL.out] at hPown
            have o16 := hPown.drop K (by have := HK.out; omega)
            have hbP : (Value.slice (some ⟨pb, po2, none⟩) n2 c2).ownBlock = (Value.slice (some ⟨pb, po, none⟩) (sj.trips.length + 1) pc2).ownBlock := rfl
            have hcut : cut100 (sj.trips ++ [0]) = (sj.trips ++ [0]).drop K := by unfold cut100; rw [HK.out, ← hl14]
            have hcl : (cut100 (sj.trips ++ [0])).length = L - K := by rw [hcut, List.length_drop, ← hl14]
            have hvd : (vi (sj.trips ++ [0])).drop K = vi (cut100 (sj.trips ++ [0])) := by rw [hcut]; unfold vi; rw [List.map_drop]
            rw [hvd, ← Hsv.out] at o16
            obtain ⟨s16, g16⟩ := (S14.out).setP (l := cut100 (sj.trips ++ [0])) (World.grownBy.refl W15 _) (by rw [hcl]; exact o16) (.inl hbP)
            have S16 := hid s16.drew
            have HB16 := hid ((HB14.out.grown g16 (Nat.le_trans hB HB14.out.size) (fun k e => by cases e; exact S14.out.hX)).trans (Below.refl _ _).drew)
            clear e5 hmax hrun hw1 s16 g16 o16 hvd hPown hcut hcl hbP hl14
            go_wp2_with fail
            refine only_on ?_
            go_wp2_with fail
            clear f1 f2 q15
            go_roundw
            case rel => exact ⟨j + 1, _, _, by omega, by go_num, by unfold Hid; rw [Hsn.out, Hnext.out]; exact S16.out, HB16.out⟩
            case measure => simp [intOf]; omega
          · rw [htj] at e6
            rw [if_pos (.inr htj)] at Hnext
            clear htj hbf
            iterate 9 (refine wpL_do rfl (fun w' hw' => (by go_simp; rfl)) ?_; simp only [Act.put, List.setIfInBounds_toArray, List.set_cons_succ, List.set_cons_zero])
            refine wpL_nil ?_
            clear e2 e3 e4 e5 e6
            go_wp2_with fail
            go_roundw
            case rel => exact ⟨j + 1, pv, nv, by omega, by go_num, by unfold Hid; rw [Hsn.out, Hnext.out]; exact S1.out, HB8.out⟩
            case measure => simp [intOf]; omega
    · obtain rfl : n = j := by omega
      have HBw := hid hBw
      go_wp2_with fail
      go_end0
      exact ⟨rfl, pv, nv, hV.out, HBw.out⟩
end Go.Proofs.Ytkgnelmnadnbhaa
