/- Report. -/
import Derived.Test.YtkngoomkmbkenaaOnce17
import Derived.Test.YtkngoomkmbkenaaOnce16
import Derived.Test.YtkngoomkmbkenaaOnce6
namespace Go.Proofs.Ytkngoomkmbkenaa
set_option linter.unusedVariables false
open Go.RowKit

theorem rep_bits : ∀ dr : Nat, dr < 101 → bits .or .i64 16777216 (dr : Int) = 16777216 + (dr : Int) ∧ bits .or .i64 (16777216 + (dr : Int)) 4096 = 16777216 + (dr : Int) + 4096 ∧ bits .or .i64 (16777216 + (dr : Int)) 2048 = 16777216 + (dr : Int) + 2048 ∧ bits .or .i64 (16777216 + (dr : Int) + 4096) 2048 = 16777216 + (dr : Int) + 4096 + 2048 := by decide +kernel
theorem rep_zero : bits .or .i64 16777216 0 = 16777216 := by decide +kernel
set_option maxRecDepth 1000000 in
set_option maxHeartbeats 1000000 in
theorem report_ok (l : LK) (hr : l.r ≤ 100) (w : World) : Calls Try.prog 27 #[.agg (gateL l).cells] w fun e w' => e = .returned (.tuple #[.int .i64 (stV l.r l.wt l.ag : Int), .int .i64 0]) ∧ Below w.heap.size w w' := by
  obtain ⟨b1, b2, b3, b4⟩ := rep_bits l.r (by omega)
  have b0 := rep_zero
  have hst := fun w => stands_ok (gateL l) (gateL_ok hr) w
  unfold gateL Gt.cells at *
  dsimp only at *
  obtain ⟨h, r, wt, ag, way, old, dr, dw, da, hd⟩ := l
  dsimp only at *
  have A := heap_alloc_new w (.cells #[.int .i64 3, .int .i64 (r : Int), .int .i64 127, .bool false, .bool wt, .bool ag, .int .i64 0] 25)
  have BA := hid (below_alloc w (.cells #[.int .i64 3, .int .i64 (r : Int), .int .i64 127, .bool false, .bool wt, .bool ag, .int .i64 0] 25))
  have HA := hid A
  have HSt := hid hst
  clear A hst
  go_enter Try.func27, Try.ntmps27
  refine wp_seq_k (fun K0 hK0 => ?_)
  go_wp2_with fail
  refine hK0.out _ _ ?_
  obtain ⟨D, hD⟩ : ∃ D, D = w.heap.size := ⟨_, rfl⟩
  rw [← hD] at HA ⊢
  have HD := hid hD
  clear hD
  generalize w.alloc (.cells #[.int .i64 3, .int .i64 (r : Int), .int .i64 127, .bool false, .bool wt, .bool ag, .int .i64 0] 25) = V at *
  obtain ⟨_, g0, g1, g2, g3, g4, g5, g6⟩ := gtAt_row (g := ⟨3, (r : Int), 127, false, wt, ag, 0⟩) HA.out
  refine wp_seq_k (fun K1 hK1 => ?_)
  go_wp2_with fail
  refine (HSt.out V).mono ?_
  rintro e V1 ⟨rfl, hb⟩
  have HA1 := hid (row_below HA.out hb)
  have HB1 := hid (BA.out.trans (hb.mono BA.out.size))
  clear g0 g1 g2 g3 g4 g5 g6 HA BA hb HSt
  go_wp2_with fail
  refine hK1.out _ _ ?_
  obtain ⟨_, g0, g1, g2, g3, g4, g5, g6⟩ := gtAt_row (g := ⟨3, (r : Int), 127, false, wt, ag, 0⟩) HA1.out
  refine wp_seq_k (fun K2 hK2 => ?_)
  go_wp2_with fail
  refine hK2.out _ _ ?_
  refine wp_seq_k (fun K3 hK3 => ?_)
  refine wp_seq_k (fun K4 hK4 => ?_)
  go_wp2_with fail
  refine hK4.out _ _ ?_
  refine wp_block ?_
  refine wp_loop_rounds 4 ?_
  have hV1 : D ≤ V1.heap.size := by rw [HD.out]; exact HB1.out.size
  have HV1 := hid hV1
  clear hV1
  cases wt <;> cases ag
  all_goals
    iterate 4 (rw [rounds_succ]; go_wp2_with fail)
    refine hK3.out _ _ ?_
    go_wp2_with fail
    refine bodyPost_ret (by simp only [results, Try.results27, go_sem]; simp [go_sem]; rfl) rfl ?_
    refine ⟨?_, ?_⟩
    · unfold stV
      congr 3
    · have h1 := HB1.out
      rw [← HD.out] at h1
      have h2 := HV1.out
      exact (((h1.alloc h2 _).alloc (by simp; omega) _).alloc (by simp; omega) _).alloc (by simp; omega) _
end Go.Proofs.Ytkngoomkmbkenaa
/- tick: a command is asked for. Printed by gentck.py. -/
namespace Go.Proofs.Ytkngoomkmbkenaa
set_option linter.unusedVariables false
open Go.RowKit

set_option maxRecDepth 1000000 in
theorem fr196 (y : Nat → Value) : fr 196 y = #[y 0, y 1, y 2, y 3, y 4, y 5, y 6, y 7, y 8, y 9, y 10, y 11, y 12, y 13, y 14, y 15, y 16, y 17, y 18, y 19, y 20, y 21, y 22, y 23, y 24, y 25, y 26, y 27, y 28, y 29, y 30, y 31, y 32, y 33, y 34, y 35, y 36, y 37, y 38, y 39, y 40, y 41, y 42, y 43, y 44, y 45, y 46, y 47, y 48, y 49, y 50, y 51, y 52, y 53, y 54, y 55, y 56, y 57, y 58, y 59, y 60, y 61, y 62, y 63, y 64, y 65, y 66, y 67, y 68, y 69, y 70, y 71, y 72, y 73, y 74, y 75, y 76, y 77, y 78, y 79, y 80, y 81, y 82, y 83, y 84, y 85, y 86, y 87, y 88, y 89, y 90, y 91, y 92, y 93, y 94, y 95, y 96, y 97, y 98, y 99, y 100, y 101, y 102, y 103, y 104, y 105, y 106, y 107, y 108, y 109, y 110, y 111, y 112, y 113, y 114, y 115, y 116, y 117, y 118, y 119, y 120, y 121, y 122, y 123, y 124, y 125, y 126, y 127, y 128, y 129, y 130, y 131, y 132, y 133, y 134, y 135, y 136, y 137, y 138, y 139, y 140, y 141, y 142, y 143, y 144, y 145, y 146, y 147, y 148, y 149, y 150, y 151, y 152, y 153, y 154, y 155, y 156, y 157, y 158, y 159, y 160, y 161, y 162, y 163, y 164, y 165, y 166, y 167, y 168, y 169, y 170, y 171, y 172, y 173, y 174, y 175, y 176, y 177, y 178, y 179, y 180, y 181, y 182, y 183, y 184, y 185, y 186, y 187, y 188, y 189, y 190, y 191, y 192, y 193, y 194, y 195] := rfl

theorem rdT_one (w : World) (d : Nat) : RdT 5 (w.alloc (.cells #[.int .u8 (d : Int)] 5)) (some ⟨w.heap.size, 0, none⟩) 1 1 (vb [d]) := by
  have h := heap_alloc_new w (.cells #[.int .u8 (d : Int)] 5)
  refine ⟨⟨rfl, Nat.le_refl _, by unfold maxLen; omega, (fun h => by cases h), fun _ => ⟨w.heap.size, 0, rfl, row_lt h, fun j hj => ?_⟩⟩, fun _ => ⟨_, _, _, rfl, h⟩⟩
  obtain rfl : j = 0 := by omega
  rw [cell_of_row _ _ _ _ _ _ h]
  rfl
theorem LR.hm {W : World} {B : Nat} {s : LS} (h : LR W B s) : HM W s.x := ⟨⟨RdT.ofAt h.so, fun r hr => (h.sr r hr).1⟩, ⟨RdT.ofAt h.qo, fun r hr => (h.qr r hr).1⟩⟩
theorem setRow_grown {W : World} {b : Nat} {e : TypeId} {cs cs' : Array Value} {B : Nat} (A : W.heap[b]? = some (.cells cs e)) (hb : B ≤ b) : Below B W (W.setRow b cs') :=
  (Below.refl B W).grown (set_whole A).2 (Nat.le_trans hb (Nat.le_of_lt (row_lt A))) (fun k e => by cases e; exact hb)
set_option maxRecDepth 1000000 in
set_option maxHeartbeats 4000000 in
theorem tck_4 (ah pt pz L B : Nat) (s : LS) (l : LK) (hP : LP ah pt pz s l) (hI : Inv ah pt pz l) (hah0 : 0 < ah) (hah1 : ah ≤ 100) (hpt0 : 0 < pt) (hpt : pt ≤ 1000) (hpz : pz ≤ 1000) (hA : l.h.A < 100) :
    Tri Try.prog 196 (pieceOf Try.f11 [1, 0, 1, 0, 0, 1, 0, 0, 0]) (fun y w => y 0 = .pointer (some ⟨L, 0, none⟩) ∧ LM w L B s)
      (fun y w y' w' => y' 0 = .pointer (some ⟨L, 0, none⟩) ∧ y' 3 = y 3 ∧ y' 5 = y 5 ∧ y' 7 = .int .i64 0 ∧ Below w.heap.size w w' ∧ ∃ D x2, y' 6 = .pointer (some ⟨D, 0, none⟩) ∧ w'.heap[D]? = some (.cells x2.hand 36) ∧ RO w' w.heap.size x2 ∧ WL ah pt pz { l.h with A := l.h.A + 1 } x2) := by
  rintro Q y w ⟨s0, hM⟩ hQ
  have HQ := hid hQ
  clear hQ
  dsimp only at HQ
  have hAA := hP.A
  have hu : IntKind.u8.wrap (s.A : Int) = (s.A : Int) := IntWalk.u8_in _ (by omega)
  have HAsk : Hid (∀ (U : World) (a : Option Addr) (c : Nat), HM U s.x → RdT 5 U a 1 c (vb [s.A]) → Calls Try.prog 24 #[.agg #[.int .i64 3, .int .i64 (s.x.N : Int), .int .i64 (s.x.ah : Int), .slice s.x.sa s.x.sn s.x.sc, .slice s.x.qa s.x.qn s.x.qc, .int .i64 (s.x.tm : Int), .int .i64 (s.x.pt : Int), .int .i64 (s.x.tr : Int), .int .i64 100, .int .i64 (s.x.si : Int), .int .i64 (s.x.pz : Int), .int .i64 (s.x.ha : Int)], .slice a 1 c] U fun e w' => AskS ah pt pz U w' l.h e) :=
    fun U a c h1 h2 => ask_ok ah pt pz s.A a c l.h s.x l.r U h1 hP.H hI.hok hah0 hah1 hpt0 hpt hpz hA hAA h2
  clear hAA hP hI hah0 hah1 hpt0 hpt hpz hA
  conv => arg 2; whnf
  rw [fr196]
  simp only [s0]
  clear s0
  refine wp_region_plan [9, 10, 14, 15] (Plan.of [0, 1, 2, 3, 4, 5, 6, 7, 8] (.two 9 (.two 10 (Plan.of [11, 12, 13, 14, 15, 16] .nil) 14 (Plan.of [10, 11, 12, 13, 15, 16] .nil)) 14 (Plan.of [9, 10, 11, 12, 13, 15, 16] .nil))) (Below w.heap.size) (fun _ => Below.refl _ _) (fun _ _ _ h k => h.trans k) (by kernel_rfl) (by kernel_rfl) ?_
  simp only [Plan.of, Plan.lay, List.contains_cons, List.contains_nil, List.getD_cons_zero, List.getD_cons_succ, Nat.reduceBEq, Bool.or_false, Bool.or_true]
  have hk : ∀ w', Below w.heap.size w.drew w' → Below w.heap.size w w' := fun w' h => (Below.refl _ w).drew.trans h
  have l0 : ∀ w', Below w.heap.size w.drew w' → w'.cell? ⟨L, 0, none⟩ = some (.int .i64 3) := fun w' h => by rw [cell_of_row _ _ _ _ _ _ (row_below hM.bx (hk w' h))]; rfl
  have l1 : ∀ w', Below w.heap.size w.drew w' → w'.cell? ⟨L, 1, none⟩ = some (.int .i64 (s.x.N : Int)) := fun w' h => by rw [cell_of_row _ _ _ _ _ _ (row_below hM.bx (hk w' h))]; rfl
  have l2 : ∀ w', Below w.heap.size w.drew w' → w'.cell? ⟨L, 2, none⟩ = some (.int .i64 (s.x.ah : Int)) := fun w' h => by rw [cell_of_row _ _ _ _ _ _ (row_below hM.bx (hk w' h))]; rfl
  have l3 : ∀ w', Below w.heap.size w.drew w' → w'.cell? ⟨L, 3, none⟩ = some (.slice s.x.sa s.x.sn s.x.sc) := fun w' h => by rw [cell_of_row _ _ _ _ _ _ (row_below hM.bx (hk w' h))]; rfl
  have l4 : ∀ w', Below w.heap.size w.drew w' → w'.cell? ⟨L, 4, none⟩ = some (.slice s.x.qa s.x.qn s.x.qc) := fun w' h => by rw [cell_of_row _ _ _ _ _ _ (row_below hM.bx (hk w' h))]; rfl
  have l5 : ∀ w', Below w.heap.size w.drew w' → w'.cell? ⟨L, 5, none⟩ = some (.int .i64 (s.x.tm : Int)) := fun w' h => by rw [cell_of_row _ _ _ _ _ _ (row_below hM.bx (hk w' h))]; rfl
  have l6 : ∀ w', Below w.heap.size w.drew w' → w'.cell? ⟨L, 6, none⟩ = some (.int .i64 (s.x.pt : Int)) := fun w' h => by rw [cell_of_row _ _ _ _ _ _ (row_below hM.bx (hk w' h))]; rfl
  have l7 : ∀ w', Below w.heap.size w.drew w' → w'.cell? ⟨L, 7, none⟩ = some (.int .i64 (s.x.tr : Int)) := fun w' h => by rw [cell_of_row _ _ _ _ _ _ (row_below hM.bx (hk w' h))]; rfl
  have l8 : ∀ w', Below w.heap.size w.drew w' → w'.cell? ⟨L, 8, none⟩ = some (.int .i64 100) := fun w' h => by rw [cell_of_row _ _ _ _ _ _ (row_below hM.bx (hk w' h))]; rfl
  have l9 : ∀ w', Below w.heap.size w.drew w' → w'.cell? ⟨L, 9, none⟩ = some (.int .i64 (s.x.si : Int)) := fun w' h => by rw [cell_of_row _ _ _ _ _ _ (row_below hM.bx (hk w' h))]; rfl
  have l10 : ∀ w', Below w.heap.size w.drew w' → w'.cell? ⟨L, 10, none⟩ = some (.int .i64 (s.x.pz : Int)) := fun w' h => by rw [cell_of_row _ _ _ _ _ _ (row_below hM.bx (hk w' h))]; rfl
  have l11 : ∀ w', Below w.heap.size w.drew w' → w'.cell? ⟨L, 11, none⟩ = some (.int .i64 (s.x.ha : Int)) := fun w' h => by rw [cell_of_row _ _ _ _ _ _ (row_below hM.bx (hk w' h))]; rfl
  have l22 : ∀ w', Below w.heap.size w.drew w' → w'.cell? ⟨L, 22, none⟩ = some (.int .i64 (s.A : Int)) := fun w' h => by rw [cell_of_row _ _ _ _ _ _ (row_below hM.bx (hk w' h))]; rfl
  have HM : Hid (HM w.drew s.x) := (hM.lr.below (Below.refl _ w).drew).hm
  have HB : Hid (Below w.heap.size w w.drew) := (Below.refl _ w).drew
  have HZ : Hid (w.heap.size ≤ w.drew.heap.size) := Nat.le_refl _
  clear hM hk
  generalize hBB : w.heap.size = B0 at *
  clear hBB
  generalize w.drew = U at *
  iterate 9 (refine wpTL_do rfl (fun w' hw' => (by go_simp; rfl)) ?_; simp only [Act.put, List.setIfInBounds_toArray, List.set_cons_succ, List.set_cons_zero])
  clear hu l0 l1 l2 l3 l4 l5 l6 l7 l8 l9 l10 l11 l22
  refine wpTL_two ?_ ?_
  · refine wpTL_call rfl (fun K hK => ?_)
    go_wp2_with fail
    have r1 := rdT_one U s.A
    have b2 := below_alloc U (.cells #[.int .u8 (s.A : Int)] 5)
    have hD0 : B0 ≤ U.heap.size := HZ.out
    refine hK _ _ (b2.mono hD0) ?_
    clear hK K
    try simp only [Act.put, List.setIfInBounds_toArray, List.set_cons_succ, List.set_cons_zero]
    obtain ⟨N1, hN1⟩ : ∃ N1, N1 = U.heap.size := ⟨_, rfl⟩
    rw [← hN1] at r1 ⊢
    clear hN1
    generalize U.alloc (.cells #[.int .u8 (s.A : Int)] 5) = U1 at *
    have HS := hid r1
    have HB2 := hid (HB.out.trans (b2.mono hD0))
    have HZ2 : Hid (B0 ≤ U1.heap.size) := Nat.le_trans hD0 b2.size
    have HM2 := hid (HM.out.below b2)
    clear b2 hD0 HB HZ HM r1
    have HB := HB2
    clear HB2
    have HZ := HZ2
    clear HZ2
    have HM := HM2
    clear HM2
    refine wpTL_two ?_ ?_
    · refine wpTL_call rfl (fun K hK => ?_)
      go_wp2_with fail
      refine (HAsk.out U1 _ _ HM.out HS.out).mono ?_
      rintro e U2 ⟨⟨x2, rfl, ro, wl⟩, b2⟩
      have hD0 : B0 ≤ U1.heap.size := HZ.out
      refine hK _ _ (b2.mono hD0) ?_
      clear hK K
      unfold WS.hand
      try simp only [Act.put, List.setIfInBounds_toArray, List.set_cons_succ, List.set_cons_zero]
      have HR := hid (ro.mono hD0)
      have HW := hid wl
      clear ro wl
      have HB2 := hid (HB.out.trans (b2.mono hD0))
      have HZ2 : Hid (B0 ≤ U2.heap.size) := Nat.le_trans hD0 b2.size
      clear b2 hD0 HB HZ HM HS
      have HB := HB2
      clear HB2
      have HZ := HZ2
      clear HZ2
      iterate 3 (refine wpTL_do rfl (fun w' hw' => (by go_simp; rfl)) ?_; simp only [Act.put, List.setIfInBounds_toArray, List.set_cons_succ, List.set_cons_zero])
      refine wpTL_call rfl (fun K hK => ?_)
      go_wp2_with fail
      have r0 := heap_alloc_new U2 (.cells #[.int .i64 0, .int .i64 0, .int .i64 0, .slice none 0 0, .slice none 0 0, .int .i64 0, .int .i64 0, .int .i64 0, .int .i64 0, .int .i64 0, .int .i64 0, .int .i64 0] 36)
      have b2 := below_alloc U2 (.cells #[.int .i64 0, .int .i64 0, .int .i64 0, .slice none 0 0, .slice none 0 0, .int .i64 0, .int .i64 0, .int .i64 0, .int .i64 0, .int .i64 0, .int .i64 0, .int .i64 0] 36)
      have hD0 : B0 ≤ U2.heap.size := HZ.out
      refine hK _ _ (b2.mono hD0) ?_
      clear hK K
      try simp only [Act.put, List.setIfInBounds_toArray, List.set_cons_succ, List.set_cons_zero]
      obtain ⟨D, hD⟩ : ∃ D, D = U2.heap.size := ⟨_, rfl⟩
      rw [← hD] at r0 hD0 ⊢
      clear hD
      generalize U2.alloc (.cells #[.int .i64 0, .int .i64 0, .int .i64 0, .slice none 0 0, .slice none 0 0, .int .i64 0, .int .i64 0, .int .i64 0, .int .i64 0, .int .i64 0, .int .i64 0, .int .i64 0] 36) = U3 at *
      have HD := hid r0
      have HBD := hid hD0
      have HB2 := hid (HB.out.trans (b2.mono HZ.out))
      have HZ2 : Hid (B0 ≤ U3.heap.size) := Nat.le_trans HZ.out b2.size
      have HR2 := hid (HR.out.below b2)
      clear b2 hD0 HB HZ HR r0
      have HB := HB2
      clear HB2
      have HZ := HZ2
      clear HZ2
      have HR := HR2
      clear HR2
      refine wpTL_call rfl (fun K hK => wp_store_row 36 _ _ rfl D #[.int .i64 3, .int .i64 (x2.N : Int), .int .i64 (x2.ah : Int), .slice x2.sa x2.sn x2.sc, .slice x2.qa x2.qn x2.qc, .int .i64 (x2.tm : Int), .int .i64 (x2.pt : Int), .int .i64 (x2.tr : Int), .int .i64 100, .int .i64 (x2.si : Int), .int .i64 (x2.pz : Int), .int .i64 (x2.ha : Int)] rfl rfl 36 _ HD.out (by kernel_rfl) rfl (by simp [Value.oneCell']) (hK _ _ (setRow_grown HD.out HBD.out) ?_))
      clear hK K
      try simp only [Act.put]
      obtain ⟨m1, m2⟩ := set_whole (cs' := #[.int .i64 3, .int .i64 (x2.N : Int), .int .i64 (x2.ah : Int), .slice x2.sa x2.sn x2.sc, .slice x2.qa x2.qn x2.qc, .int .i64 (x2.tm : Int), .int .i64 (x2.pt : Int), .int .i64 (x2.tr : Int), .int .i64 100, .int .i64 (x2.si : Int), .int .i64 (x2.pz : Int), .int .i64 (x2.ha : Int)]) HD.out
      have HR2 := hid (HR.out.other m2 HD.out (by decide) (by decide))
      have HB2 := hid (HB.out.trans (setRow_grown (cs' := #[.int .i64 3, .int .i64 (x2.N : Int), .int .i64 (x2.ah : Int), .slice x2.sa x2.sn x2.sc, .slice x2.qa x2.qn x2.qc, .int .i64 (x2.tm : Int), .int .i64 (x2.pt : Int), .int .i64 (x2.tr : Int), .int .i64 100, .int .i64 (x2.si : Int), .int .i64 (x2.pz : Int), .int .i64 (x2.ha : Int)]) HD.out HBD.out))
      have HD2 := hid m1
      clear m1 m2 HD HR HB
      generalize U3.setRow D #[.int .i64 3, .int .i64 (x2.N : Int), .int .i64 (x2.ah : Int), .slice x2.sa x2.sn x2.sc, .slice x2.qa x2.qn x2.qc, .int .i64 (x2.tm : Int), .int .i64 (x2.pt : Int), .int .i64 (x2.tr : Int), .int .i64 100, .int .i64 (x2.si : Int), .int .i64 (x2.pz : Int), .int .i64 (x2.ha : Int)] = V at *
      iterate 1 (refine wpTL_do rfl (fun w' hw' => (by go_simp; rfl)) ?_; simp only [Act.put, List.setIfInBounds_toArray, List.set_cons_succ, List.set_cons_zero])
      refine wpTL_nil ?_
      exact q_fr (N := 196) HQ.out rfl ⟨rfl, rfl, rfl, rfl, HB2.out, D, x2, rfl, HD2.out, HR2.out, HW.out⟩
    · refine wpTL_call rfl (fun K hK => ?_)
      go_wp2_with fail
      have r0 := heap_alloc_new U1 (.cells #[.int .i64 0, .int .i64 0, .int .i64 0, .slice none 0 0, .slice none 0 0, .int .i64 0, .int .i64 0, .int .i64 0, .int .i64 0, .int .i64 0, .int .i64 0, .int .i64 0] 36)
      have b2 := below_alloc U1 (.cells #[.int .i64 0, .int .i64 0, .int .i64 0, .slice none 0 0, .slice none 0 0, .int .i64 0, .int .i64 0, .int .i64 0, .int .i64 0, .int .i64 0, .int .i64 0, .int .i64 0] 36)
      have hD0 : B0 ≤ U1.heap.size := HZ.out
      refine hK _ _ (b2.mono hD0) ?_
      clear hK K
      try simp only [Act.put, List.setIfInBounds_toArray, List.set_cons_succ, List.set_cons_zero]
      obtain ⟨D, hD⟩ : ∃ D, D = U1.heap.size := ⟨_, rfl⟩
      rw [← hD] at r0 hD0 ⊢
      clear hD
      generalize U1.alloc (.cells #[.int .i64 0, .int .i64 0, .int .i64 0, .slice none 0 0, .slice none 0 0, .int .i64 0, .int .i64 0, .int .i64 0, .int .i64 0, .int .i64 0, .int .i64 0, .int .i64 0] 36) = U2 at *
      have HD := hid r0
      have HBD := hid hD0
      have HB2 := hid (HB.out.trans (b2.mono HZ.out))
      have HZ2 : Hid (B0 ≤ U2.heap.size) := Nat.le_trans HZ.out b2.size
      have HM2 := hid (HM.out.below b2)
      have HS2 := hid (HS.out.below b2)
      clear b2 hD0 HB HZ HM HS r0
      have HB := HB2
      clear HB2
      have HZ := HZ2
      clear HZ2
      have HM := HM2
      clear HM2
      have HS := HS2
      clear HS2
      refine wpTL_call rfl (fun K hK => ?_)
      go_wp2_with fail
      refine (HAsk.out U2 _ _ HM.out HS.out).mono ?_
      rintro e U3 ⟨⟨x2, rfl, ro, wl⟩, b2⟩
      have hD0 : B0 ≤ U2.heap.size := HZ.out
      refine hK _ _ (b2.mono hD0) ?_
      clear hK K
      unfold WS.hand
      try simp only [Act.put, List.setIfInBounds_toArray, List.set_cons_succ, List.set_cons_zero]
      have HR := hid (ro.mono hD0)
      have HW := hid wl
      clear ro wl
      have HB2 := hid (HB.out.trans (b2.mono hD0))
      have HZ2 : Hid (B0 ≤ U3.heap.size) := Nat.le_trans hD0 b2.size
      have HD2 := hid (row_below HD.out b2)
      clear b2 hD0 HB HZ HM HD HS
      have HB := HB2
      clear HB2
      have HZ := HZ2
      clear HZ2
      have HD := HD2
      clear HD2
      iterate 3 (refine wpTL_do rfl (fun w' hw' => (by go_simp; rfl)) ?_; simp only [Act.put, List.setIfInBounds_toArray, List.set_cons_succ, List.set_cons_zero])
      refine wpTL_call rfl (fun K hK => wp_store_row 36 _ _ rfl D #[.int .i64 3, .int .i64 (x2.N : Int), .int .i64 (x2.ah : Int), .slice x2.sa x2.sn x2.sc, .slice x2.qa x2.qn x2.qc, .int .i64 (x2.tm : Int), .int .i64 (x2.pt : Int), .int .i64 (x2.tr : Int), .int .i64 100, .int .i64 (x2.si : Int), .int .i64 (x2.pz : Int), .int .i64 (x2.ha : Int)] rfl rfl 36 _ HD.out (by kernel_rfl) rfl (by simp [Value.oneCell']) (hK _ _ (setRow_grown HD.out HBD.out) ?_))
      clear hK K
      try simp only [Act.put]
      obtain ⟨m1, m2⟩ := set_whole (cs' := #[.int .i64 3, .int .i64 (x2.N : Int), .int .i64 (x2.ah : Int), .slice x2.sa x2.sn x2.sc, .slice x2.qa x2.qn x2.qc, .int .i64 (x2.tm : Int), .int .i64 (x2.pt : Int), .int .i64 (x2.tr : Int), .int .i64 100, .int .i64 (x2.si : Int), .int .i64 (x2.pz : Int), .int .i64 (x2.ha : Int)]) HD.out
      have HR2 := hid (HR.out.other m2 HD.out (by decide) (by decide))
      have HB2 := hid (HB.out.trans (setRow_grown (cs' := #[.int .i64 3, .int .i64 (x2.N : Int), .int .i64 (x2.ah : Int), .slice x2.sa x2.sn x2.sc, .slice x2.qa x2.qn x2.qc, .int .i64 (x2.tm : Int), .int .i64 (x2.pt : Int), .int .i64 (x2.tr : Int), .int .i64 100, .int .i64 (x2.si : Int), .int .i64 (x2.pz : Int), .int .i64 (x2.ha : Int)]) HD.out HBD.out))
      have HD2 := hid m1
      clear m1 m2 HD HR HB
      generalize U3.setRow D #[.int .i64 3, .int .i64 (x2.N : Int), .int .i64 (x2.ah : Int), .slice x2.sa x2.sn x2.sc, .slice x2.qa x2.qn x2.qc, .int .i64 (x2.tm : Int), .int .i64 (x2.pt : Int), .int .i64 (x2.tr : Int), .int .i64 100, .int .i64 (x2.si : Int), .int .i64 (x2.pz : Int), .int .i64 (x2.ha : Int)] = V at *
      iterate 1 (refine wpTL_do rfl (fun w' hw' => (by go_simp; rfl)) ?_; simp only [Act.put, List.setIfInBounds_toArray, List.set_cons_succ, List.set_cons_zero])
      refine wpTL_nil ?_
      exact q_fr (N := 196) HQ.out rfl ⟨rfl, rfl, rfl, rfl, HB2.out, D, x2, rfl, HD2.out, HR2.out, HW.out⟩
  · refine wpTL_call rfl (fun K hK => ?_)
    go_wp2_with fail
    have r0 := heap_alloc_new U (.cells #[.int .i64 0, .int .i64 0, .int .i64 0, .slice none 0 0, .slice none 0 0, .int .i64 0, .int .i64 0, .int .i64 0, .int .i64 0, .int .i64 0, .int .i64 0, .int .i64 0] 36)
    have b2 := below_alloc U (.cells #[.int .i64 0, .int .i64 0, .int .i64 0, .slice none 0 0, .slice none 0 0, .int .i64 0, .int .i64 0, .int .i64 0, .int .i64 0, .int .i64 0, .int .i64 0, .int .i64 0] 36)
    have hD0 : B0 ≤ U.heap.size := HZ.out
    refine hK _ _ (b2.mono hD0) ?_
    clear hK K
    try simp only [Act.put, List.setIfInBounds_toArray, List.set_cons_succ, List.set_cons_zero]
    obtain ⟨D, hD⟩ : ∃ D, D = U.heap.size := ⟨_, rfl⟩
    rw [← hD] at r0 hD0 ⊢
    clear hD
    generalize U.alloc (.cells #[.int .i64 0, .int .i64 0, .int .i64 0, .slice none 0 0, .slice none 0 0, .int .i64 0, .int .i64 0, .int .i64 0, .int .i64 0, .int .i64 0, .int .i64 0, .int .i64 0] 36) = U1 at *
    have HD := hid r0
    have HBD := hid hD0
    have HB2 := hid (HB.out.trans (b2.mono HZ.out))
    have HZ2 : Hid (B0 ≤ U1.heap.size) := Nat.le_trans HZ.out b2.size
    have HM2 := hid (HM.out.below b2)
    clear b2 hD0 HB HZ HM r0
    have HB := HB2
    clear HB2
    have HZ := HZ2
    clear HZ2
    have HM := HM2
    clear HM2
    refine wpTL_call rfl (fun K hK => ?_)
    go_wp2_with fail
    have r1 := rdT_one U1 s.A
    have b2 := below_alloc U1 (.cells #[.int .u8 (s.A : Int)] 5)
    have hD0 : B0 ≤ U1.heap.size := HZ.out
    refine hK _ _ (b2.mono hD0) ?_
    clear hK K
    try simp only [Act.put, List.setIfInBounds_toArray, List.set_cons_succ, List.set_cons_zero]
    obtain ⟨N1, hN1⟩ : ∃ N1, N1 = U1.heap.size := ⟨_, rfl⟩
    rw [← hN1] at r1 ⊢
    clear hN1
    generalize U1.alloc (.cells #[.int .u8 (s.A : Int)] 5) = U2 at *
    have HS := hid r1
    have HB2 := hid (HB.out.trans (b2.mono hD0))
    have HZ2 : Hid (B0 ≤ U2.heap.size) := Nat.le_trans hD0 b2.size
    have HM2 := hid (HM.out.below b2)
    have HD2 := hid (row_below HD.out b2)
    clear b2 hD0 HB HZ HM HD r1
    have HB := HB2
    clear HB2
    have HZ := HZ2
    clear HZ2
    have HM := HM2
    clear HM2
    have HD := HD2
    clear HD2
    refine wpTL_call rfl (fun K hK => ?_)
    go_wp2_with fail
    refine (HAsk.out U2 _ _ HM.out HS.out).mono ?_
    rintro e U3 ⟨⟨x2, rfl, ro, wl⟩, b2⟩
    have hD0 : B0 ≤ U2.heap.size := HZ.out
    refine hK _ _ (b2.mono hD0) ?_
    clear hK K
    unfold WS.hand
    try simp only [Act.put, List.setIfInBounds_toArray, List.set_cons_succ, List.set_cons_zero]
    have HR := hid (ro.mono hD0)
    have HW := hid wl
    clear ro wl
    have HB2 := hid (HB.out.trans (b2.mono hD0))
    have HZ2 : Hid (B0 ≤ U3.heap.size) := Nat.le_trans hD0 b2.size
    have HD2 := hid (row_below HD.out b2)
    clear b2 hD0 HB HZ HM HD HS
    have HB := HB2
    clear HB2
    have HZ := HZ2
    clear HZ2
    have HD := HD2
    clear HD2
    iterate 3 (refine wpTL_do rfl (fun w' hw' => (by go_simp; rfl)) ?_; simp only [Act.put, List.setIfInBounds_toArray, List.set_cons_succ, List.set_cons_zero])
    refine wpTL_call rfl (fun K hK => wp_store_row 36 _ _ rfl D #[.int .i64 3, .int .i64 (x2.N : Int), .int .i64 (x2.ah : Int), .slice x2.sa x2.sn x2.sc, .slice x2.qa x2.qn x2.qc, .int .i64 (x2.tm : Int), .int .i64 (x2.pt : Int), .int .i64 (x2.tr : Int), .int .i64 100, .int .i64 (x2.si : Int), .int .i64 (x2.pz : Int), .int .i64 (x2.ha : Int)] rfl rfl 36 _ HD.out (by kernel_rfl) rfl (by simp [Value.oneCell']) (hK _ _ (setRow_grown HD.out HBD.out) ?_))
    clear hK K
    try simp only [Act.put]
    obtain ⟨m1, m2⟩ := set_whole (cs' := #[.int .i64 3, .int .i64 (x2.N : Int), .int .i64 (x2.ah : Int), .slice x2.sa x2.sn x2.sc, .slice x2.qa x2.qn x2.qc, .int .i64 (x2.tm : Int), .int .i64 (x2.pt : Int), .int .i64 (x2.tr : Int), .int .i64 100, .int .i64 (x2.si : Int), .int .i64 (x2.pz : Int), .int .i64 (x2.ha : Int)]) HD.out
    have HR2 := hid (HR.out.other m2 HD.out (by decide) (by decide))
    have HB2 := hid (HB.out.trans (setRow_grown (cs' := #[.int .i64 3, .int .i64 (x2.N : Int), .int .i64 (x2.ah : Int), .slice x2.sa x2.sn x2.sc, .slice x2.qa x2.qn x2.qc, .int .i64 (x2.tm : Int), .int .i64 (x2.pt : Int), .int .i64 (x2.tr : Int), .int .i64 100, .int .i64 (x2.si : Int), .int .i64 (x2.pz : Int), .int .i64 (x2.ha : Int)]) HD.out HBD.out))
    have HD2 := hid m1
    clear m1 m2 HD HR HB
    generalize U3.setRow D #[.int .i64 3, .int .i64 (x2.N : Int), .int .i64 (x2.ah : Int), .slice x2.sa x2.sn x2.sc, .slice x2.qa x2.qn x2.qc, .int .i64 (x2.tm : Int), .int .i64 (x2.pt : Int), .int .i64 (x2.tr : Int), .int .i64 100, .int .i64 (x2.si : Int), .int .i64 (x2.pz : Int), .int .i64 (x2.ha : Int)] = V at *
    iterate 1 (refine wpTL_do rfl (fun w' hw' => (by go_simp; rfl)) ?_; simp only [Act.put, List.setIfInBounds_toArray, List.set_cons_succ, List.set_cons_zero])
    refine wpTL_nil ?_
    exact q_fr (N := 196) HQ.out rfl ⟨rfl, rfl, rfl, rfl, HB2.out, D, x2, rfl, HD2.out, HR2.out, HW.out⟩
end Go.Proofs.Ytkngoomkmbkenaa
/- tick: the hand's step. Printed by gentckb.py. -/
namespace Go.Proofs.Ytkngoomkmbkenaa
set_option linter.unusedVariables false
open Go.RowKit

set_option maxRecDepth 1000000 in
set_option maxHeartbeats 4000000 in
theorem tck_9 (ah pt pz L B : Nat) (s : LS) (l : LK) (hP : LP ah pt pz s l) (hI : Inv ah pt pz l) (hah0 : 0 < ah) (hah1 : ah ≤ 100) (hpt0 : 0 < pt) (hpt : pt ≤ 1000) (hpz : pz ≤ 1000) :
    Tri Try.prog 196 (pieceOf Try.f11 [1, 1, 0]) (fun y w => y 0 = .pointer (some ⟨L, 0, none⟩) ∧ LM w L B s)
      (fun y w y' w' => y' 0 = .pointer (some ⟨L, 0, none⟩) ∧ y' 3 = y 3 ∧ y' 10 = .int .i64 0 ∧ Below w.heap.size w w' ∧ ∃ D x2, y' 8 = .pointer (some ⟨D, 0, none⟩) ∧ y' 9 = .slice x2.ga x2.gn x2.gc ∧ w'.heap[D]? = some (.cells x2.hand 36) ∧ RO w' w.heap.size x2 ∧ WL ah pt pz (stepH ah pt pz l.h l.hd l.dr l.dw l.da).1 x2 ∧ conts x2.Rg = cmds (stepH ah pt pz l.h l.hd l.dr l.dw l.da).2 ∧ x2.gn = (stepH ah pt pz l.h l.hd l.dr l.dw l.da).2.length) := by
  rintro Q y w ⟨s0, hM⟩ hQ
  have HQ := hid hQ
  clear hQ
  dsimp only at HQ
  obtain ⟨er, hst, her⟩ := hP.st
  have HAsk : Hid (∀ (U : World), HM U s.x → Calls Try.prog 25 #[.agg #[.int .i64 3, .int .i64 (s.x.N : Int), .int .i64 (s.x.ah : Int), .slice s.x.sa s.x.sn s.x.sc, .slice s.x.qa s.x.qn s.x.qc, .int .i64 (s.x.tm : Int), .int .i64 (s.x.pt : Int), .int .i64 (s.x.tr : Int), .int .i64 100, .int .i64 (s.x.si : Int), .int .i64 (s.x.pz : Int), .int .i64 (s.x.ha : Int)], .int .i64 s.st, .bool s.hd] U fun e w' => StR ah pt pz U w' (stepH ah pt pz l.h l.hd l.dr l.dw l.da) e) :=
    fun U h1 => by
      have h := step_ok ah pt pz l.dr s.st er l.hd l.dw l.da l.h s.x l.r U h1 hP.H hI.hok hah0 hah1 hpt0 hpt hpz hst her hI.dr hI.db
      rw [hP.hd]
      exact h
  clear hst her hP hI hah0 hah1 hpt0 hpt hpz
  generalize stepH ah pt pz l.h l.hd l.dr l.dw l.da = Y at *
  conv => arg 2; whnf
  rw [fr196]
  simp only [s0]
  clear s0
  refine wp_region_plan [12, 17, 18] (Plan.of [0, 1, 2, 3, 4, 5, 6, 7, 8, 9, 10, 11] (.two 12 (Plan.of [13, 14, 15, 16, 17, 18, 19, 20] .nil) 17 (Plan.of [12, 13, 14, 15, 16, 18, 19, 20] .nil))) (Below w.heap.size) (fun _ => Below.refl _ _) (fun _ _ _ h k => h.trans k) (by kernel_rfl) (by kernel_rfl) ?_
  simp only [Plan.of, Plan.lay, List.contains_cons, List.contains_nil, List.getD_cons_zero, List.getD_cons_succ, Nat.reduceBEq, Bool.or_false, Bool.or_true]
  have hk : ∀ w', Below w.heap.size w.drew w' → Below w.heap.size w w' := fun w' h => (Below.refl _ w).drew.trans h
  have l0 : ∀ w', Below w.heap.size w.drew w' → w'.cell? ⟨L, 0, none⟩ = some (.int .i64 3) := fun w' h => by rw [cell_of_row _ _ _ _ _ _ (row_below hM.bx (hk w' h))]; rfl
  have l1 : ∀ w', Below w.heap.size w.drew w' → w'.cell? ⟨L, 1, none⟩ = some (.int .i64 (s.x.N : Int)) := fun w' h => by rw [cell_of_row _ _ _ _ _ _ (row_below hM.bx (hk w' h))]; rfl
  have l2 : ∀ w', Below w.heap.size w.drew w' → w'.cell? ⟨L, 2, none⟩ = some (.int .i64 (s.x.ah : Int)) := fun w' h => by rw [cell_of_row _ _ _ _ _ _ (row_below hM.bx (hk w' h))]; rfl
  have l3 : ∀ w', Below w.heap.size w.drew w' → w'.cell? ⟨L, 3, none⟩ = some (.slice s.x.sa s.x.sn s.x.sc) := fun w' h => by rw [cell_of_row _ _ _ _ _ _ (row_below hM.bx (hk w' h))]; rfl
  have l4 : ∀ w', Below w.heap.size w.drew w' → w'.cell? ⟨L, 4, none⟩ = some (.slice s.x.qa s.x.qn s.x.qc) := fun w' h => by rw [cell_of_row _ _ _ _ _ _ (row_below hM.bx (hk w' h))]; rfl
  have l5 : ∀ w', Below w.heap.size w.drew w' → w'.cell? ⟨L, 5, none⟩ = some (.int .i64 (s.x.tm : Int)) := fun w' h => by rw [cell_of_row _ _ _ _ _ _ (row_below hM.bx (hk w' h))]; rfl
  have l6 : ∀ w', Below w.heap.size w.drew w' → w'.cell? ⟨L, 6, none⟩ = some (.int .i64 (s.x.pt : Int)) := fun w' h => by rw [cell_of_row _ _ _ _ _ _ (row_below hM.bx (hk w' h))]; rfl
  have l7 : ∀ w', Below w.heap.size w.drew w' → w'.cell? ⟨L, 7, none⟩ = some (.int .i64 (s.x.tr : Int)) := fun w' h => by rw [cell_of_row _ _ _ _ _ _ (row_below hM.bx (hk w' h))]; rfl
  have l8 : ∀ w', Below w.heap.size w.drew w' → w'.cell? ⟨L, 8, none⟩ = some (.int .i64 100) := fun w' h => by rw [cell_of_row _ _ _ _ _ _ (row_below hM.bx (hk w' h))]; rfl
  have l9 : ∀ w', Below w.heap.size w.drew w' → w'.cell? ⟨L, 9, none⟩ = some (.int .i64 (s.x.si : Int)) := fun w' h => by rw [cell_of_row _ _ _ _ _ _ (row_below hM.bx (hk w' h))]; rfl
  have l10 : ∀ w', Below w.heap.size w.drew w' → w'.cell? ⟨L, 10, none⟩ = some (.int .i64 (s.x.pz : Int)) := fun w' h => by rw [cell_of_row _ _ _ _ _ _ (row_below hM.bx (hk w' h))]; rfl
  have l11 : ∀ w', Below w.heap.size w.drew w' → w'.cell? ⟨L, 11, none⟩ = some (.int .i64 (s.x.ha : Int)) := fun w' h => by rw [cell_of_row _ _ _ _ _ _ (row_below hM.bx (hk w' h))]; rfl
  have l23 : ∀ w', Below w.heap.size w.drew w' → w'.cell? ⟨L, 23, none⟩ = some (.int .i64 s.st) := fun w' h => by rw [cell_of_row _ _ _ _ _ _ (row_below hM.bx (hk w' h))]; rfl
  have l24 : ∀ w', Below w.heap.size w.drew w' → w'.cell? ⟨L, 24, none⟩ = some (.bool s.hd) := fun w' h => by rw [cell_of_row _ _ _ _ _ _ (row_below hM.bx (hk w' h))]; rfl
  have HM : Hid (HM w.drew s.x) := (hM.lr.below (Below.refl _ w).drew).hm
  have HB : Hid (Below w.heap.size w w.drew) := (Below.refl _ w).drew
  have HZ : Hid (w.heap.size ≤ w.drew.heap.size) := Nat.le_refl _
  clear hM hk
  generalize hBB : w.heap.size = B0 at *
  clear hBB
  generalize w.drew = U at *
  iterate 12 (refine wpTL_do rfl (fun w' hw' => (by go_simp; rfl)) ?_; simp only [Act.put, List.setIfInBounds_toArray, List.set_cons_succ, List.set_cons_zero])
  clear l0 l1 l2 l3 l4 l5 l6 l7 l8 l9 l10 l11 l23 l24
  refine wpTL_two ?_ ?_
  · refine wpTL_call rfl (fun K hK => ?_)
    go_wp2_with fail
    refine (HAsk.out U HM.out).mono ?_
    rintro e U1 ⟨⟨x2, rfl, ro, wl, wc, wg⟩, b2⟩
    have hD0 : B0 ≤ U.heap.size := HZ.out
    refine hK _ _ (b2.mono hD0) ?_
    clear hK K
    unfold WS.hand
    try simp only [Act.put, List.setIfInBounds_toArray, List.set_cons_succ, List.set_cons_zero]
    have HR := hid (ro.mono hD0)
    have HW := hid wl
    have HC := hid wc
    have HG := hid wg
    clear ro wl wc wg
    have HB2 := hid (HB.out.trans (b2.mono hD0))
    have HZ2 : Hid (B0 ≤ U1.heap.size) := Nat.le_trans hD0 b2.size
    clear b2 hD0 HB HZ HM
    have HB := HB2
    clear HB2
    have HZ := HZ2
    clear HZ2
    iterate 4 (refine wpTL_do rfl (fun w' hw' => (by go_simp; rfl)) ?_; simp only [Act.put, List.setIfInBounds_toArray, List.set_cons_succ, List.set_cons_zero])
    refine wpTL_call rfl (fun K hK => ?_)
    go_wp2_with fail
    have r0 := heap_alloc_new U1 (.cells #[.int .i64 0, .int .i64 0, .int .i64 0, .slice none 0 0, .slice none 0 0, .int .i64 0, .int .i64 0, .int .i64 0, .int .i64 0, .int .i64 0, .int .i64 0, .int .i64 0] 36)
    have b2 := below_alloc U1 (.cells #[.int .i64 0, .int .i64 0, .int .i64 0, .slice none 0 0, .slice none 0 0, .int .i64 0, .int .i64 0, .int .i64 0, .int .i64 0, .int .i64 0, .int .i64 0, .int .i64 0] 36)
    have hD0 : B0 ≤ U1.heap.size := HZ.out
    refine hK _ _ (b2.mono hD0) ?_
    clear hK K
    try simp only [Act.put, List.setIfInBounds_toArray, List.set_cons_succ, List.set_cons_zero]
    obtain ⟨D, hD⟩ : ∃ D, D = U1.heap.size := ⟨_, rfl⟩
    rw [← hD] at r0 hD0 ⊢
    clear hD
    generalize U1.alloc (.cells #[.int .i64 0, .int .i64 0, .int .i64 0, .slice none 0 0, .slice none 0 0, .int .i64 0, .int .i64 0, .int .i64 0, .int .i64 0, .int .i64 0, .int .i64 0, .int .i64 0] 36) = U2 at *
    have HD := hid r0
    have HBD := hid hD0
    have HB2 := hid (HB.out.trans (b2.mono HZ.out))
    have HZ2 : Hid (B0 ≤ U2.heap.size) := Nat.le_trans HZ.out b2.size
    have HR2 := hid (HR.out.below b2)
    clear b2 hD0 HB HZ HR r0
    have HB := HB2
    clear HB2
    have HZ := HZ2
    clear HZ2
    have HR := HR2
    clear HR2
    refine wpTL_call rfl (fun K hK => wp_store_row 36 _ _ rfl D #[.int .i64 3, .int .i64 (x2.N : Int), .int .i64 (x2.ah : Int), .slice x2.sa x2.sn x2.sc, .slice x2.qa x2.qn x2.qc, .int .i64 (x2.tm : Int), .int .i64 (x2.pt : Int), .int .i64 (x2.tr : Int), .int .i64 100, .int .i64 (x2.si : Int), .int .i64 (x2.pz : Int), .int .i64 (x2.ha : Int)] rfl rfl 36 _ HD.out (by kernel_rfl) rfl (by simp [Value.oneCell']) (hK _ _ (setRow_grown HD.out HBD.out) ?_))
    clear hK K
    try simp only [Act.put]
    obtain ⟨m1, m2⟩ := set_whole (cs' := #[.int .i64 3, .int .i64 (x2.N : Int), .int .i64 (x2.ah : Int), .slice x2.sa x2.sn x2.sc, .slice x2.qa x2.qn x2.qc, .int .i64 (x2.tm : Int), .int .i64 (x2.pt : Int), .int .i64 (x2.tr : Int), .int .i64 100, .int .i64 (x2.si : Int), .int .i64 (x2.pz : Int), .int .i64 (x2.ha : Int)]) HD.out
    have HR2 := hid (HR.out.other m2 HD.out (by decide) (by decide))
    have HB2 := hid (HB.out.trans (setRow_grown (cs' := #[.int .i64 3, .int .i64 (x2.N : Int), .int .i64 (x2.ah : Int), .slice x2.sa x2.sn x2.sc, .slice x2.qa x2.qn x2.qc, .int .i64 (x2.tm : Int), .int .i64 (x2.pt : Int), .int .i64 (x2.tr : Int), .int .i64 100, .int .i64 (x2.si : Int), .int .i64 (x2.pz : Int), .int .i64 (x2.ha : Int)]) HD.out HBD.out))
    have HD2 := hid m1
    clear m1 m2 HD HR HB
    generalize U2.setRow D #[.int .i64 3, .int .i64 (x2.N : Int), .int .i64 (x2.ah : Int), .slice x2.sa x2.sn x2.sc, .slice x2.qa x2.qn x2.qc, .int .i64 (x2.tm : Int), .int .i64 (x2.pt : Int), .int .i64 (x2.tr : Int), .int .i64 100, .int .i64 (x2.si : Int), .int .i64 (x2.pz : Int), .int .i64 (x2.ha : Int)] = V at *
    iterate 2 (refine wpTL_do rfl (fun w' hw' => (by go_simp; rfl)) ?_; simp only [Act.put, List.setIfInBounds_toArray, List.set_cons_succ, List.set_cons_zero])
    refine wpTL_nil ?_
    exact q_fr (N := 196) HQ.out rfl ⟨rfl, rfl, rfl, HB2.out, D, x2, rfl, rfl, HD2.out, HR2.out, HW.out, HC.out, HG.out⟩
  · refine wpTL_call rfl (fun K hK => ?_)
    go_wp2_with fail
    have r0 := heap_alloc_new U (.cells #[.int .i64 0, .int .i64 0, .int .i64 0, .slice none 0 0, .slice none 0 0, .int .i64 0, .int .i64 0, .int .i64 0, .int .i64 0, .int .i64 0, .int .i64 0, .int .i64 0] 36)
    have b2 := below_alloc U (.cells #[.int .i64 0, .int .i64 0, .int .i64 0, .slice none 0 0, .slice none 0 0, .int .i64 0, .int .i64 0, .int .i64 0, .int .i64 0, .int .i64 0, .int .i64 0, .int .i64 0] 36)
    have hD0 : B0 ≤ U.heap.size := HZ.out
    refine hK _ _ (b2.mono hD0) ?_
    clear hK K
    try simp only [Act.put, List.setIfInBounds_toArray, List.set_cons_succ, List.set_cons_zero]
    obtain ⟨D, hD⟩ : ∃ D, D = U.heap.size := ⟨_, rfl⟩
    rw [← hD] at r0 hD0 ⊢
    clear hD
    generalize U.alloc (.cells #[.int .i64 0, .int .i64 0, .int .i64 0, .slice none 0 0, .slice none 0 0, .int .i64 0, .int .i64 0, .int .i64 0, .int .i64 0, .int .i64 0, .int .i64 0, .int .i64 0] 36) = U1 at *
    have HD := hid r0
    have HBD := hid hD0
    have HB2 := hid (HB.out.trans (b2.mono HZ.out))
    have HZ2 : Hid (B0 ≤ U1.heap.size) := Nat.le_trans HZ.out b2.size
    have HM2 := hid (HM.out.below b2)
    clear b2 hD0 HB HZ HM r0
    have HB := HB2
    clear HB2
    have HZ := HZ2
    clear HZ2
    have HM := HM2
    clear HM2
    refine wpTL_call rfl (fun K hK => ?_)
    go_wp2_with fail
    refine (HAsk.out U1 HM.out).mono ?_
    rintro e U2 ⟨⟨x2, rfl, ro, wl, wc, wg⟩, b2⟩
    have hD0 : B0 ≤ U1.heap.size := HZ.out
    refine hK _ _ (b2.mono hD0) ?_
    clear hK K
    unfold WS.hand
    try simp only [Act.put, List.setIfInBounds_toArray, List.set_cons_succ, List.set_cons_zero]
    have HR := hid (ro.mono hD0)
    have HW := hid wl
    have HC := hid wc
    have HG := hid wg
    clear ro wl wc wg
    have HB2 := hid (HB.out.trans (b2.mono hD0))
    have HZ2 : Hid (B0 ≤ U2.heap.size) := Nat.le_trans hD0 b2.size
    have HD2 := hid (row_below HD.out b2)
    clear b2 hD0 HB HZ HM HD
    have HB := HB2
    clear HB2
    have HZ := HZ2
    clear HZ2
    have HD := HD2
    clear HD2
    iterate 4 (refine wpTL_do rfl (fun w' hw' => (by go_simp; rfl)) ?_; simp only [Act.put, List.setIfInBounds_toArray, List.set_cons_succ, List.set_cons_zero])
    refine wpTL_call rfl (fun K hK => wp_store_row 36 _ _ rfl D #[.int .i64 3, .int .i64 (x2.N : Int), .int .i64 (x2.ah : Int), .slice x2.sa x2.sn x2.sc, .slice x2.qa x2.qn x2.qc, .int .i64 (x2.tm : Int), .int .i64 (x2.pt : Int), .int .i64 (x2.tr : Int), .int .i64 100, .int .i64 (x2.si : Int), .int .i64 (x2.pz : Int), .int .i64 (x2.ha : Int)] rfl rfl 36 _ HD.out (by kernel_rfl) rfl (by simp [Value.oneCell']) (hK _ _ (setRow_grown HD.out HBD.out) ?_))
    clear hK K
    try simp only [Act.put]
    obtain ⟨m1, m2⟩ := set_whole (cs' := #[.int .i64 3, .int .i64 (x2.N : Int), .int .i64 (x2.ah : Int), .slice x2.sa x2.sn x2.sc, .slice x2.qa x2.qn x2.qc, .int .i64 (x2.tm : Int), .int .i64 (x2.pt : Int), .int .i64 (x2.tr : Int), .int .i64 100, .int .i64 (x2.si : Int), .int .i64 (x2.pz : Int), .int .i64 (x2.ha : Int)]) HD.out
    have HR2 := hid (HR.out.other m2 HD.out (by decide) (by decide))
    have HB2 := hid (HB.out.trans (setRow_grown (cs' := #[.int .i64 3, .int .i64 (x2.N : Int), .int .i64 (x2.ah : Int), .slice x2.sa x2.sn x2.sc, .slice x2.qa x2.qn x2.qc, .int .i64 (x2.tm : Int), .int .i64 (x2.pt : Int), .int .i64 (x2.tr : Int), .int .i64 100, .int .i64 (x2.si : Int), .int .i64 (x2.pz : Int), .int .i64 (x2.ha : Int)]) HD.out HBD.out))
    have HD2 := hid m1
    clear m1 m2 HD HR HB
    generalize U2.setRow D #[.int .i64 3, .int .i64 (x2.N : Int), .int .i64 (x2.ah : Int), .slice x2.sa x2.sn x2.sc, .slice x2.qa x2.qn x2.qc, .int .i64 (x2.tm : Int), .int .i64 (x2.pt : Int), .int .i64 (x2.tr : Int), .int .i64 100, .int .i64 (x2.si : Int), .int .i64 (x2.pz : Int), .int .i64 (x2.ha : Int)] = V at *
    iterate 2 (refine wpTL_do rfl (fun w' hw' => (by go_simp; rfl)) ?_; simp only [Act.put, List.setIfInBounds_toArray, List.set_cons_succ, List.set_cons_zero])
    refine wpTL_nil ?_
    exact q_fr (N := 196) HQ.out rfl ⟨rfl, rfl, rfl, HB2.out, D, x2, rfl, rfl, HD2.out, HR2.out, HW.out, HC.out, HG.out⟩
end Go.Proofs.Ytkngoomkmbkenaa
