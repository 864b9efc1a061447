/- A hand's step: wished for, and late. -/
import Derived.Test.YtkngoomkmbkenaaOnce11
namespace Go.Proofs.Ytkngoomkmbkenaa
set_option linter.unusedVariables false
open Go.RowKit

set_option maxRecDepth 1000000 in
theorem fr94 (y : Nat → Value) : fr 94 y = #[y 0, y 1, y 2, y 3, y 4, y 5, y 6, y 7, y 8, y 9, y 10, y 11, y 12, y 13, y 14, y 15, y 16, y 17, y 18, y 19, y 20, y 21, y 22, y 23, y 24, y 25, y 26, y 27, y 28, y 29, y 30, y 31, y 32, y 33, y 34, y 35, y 36, y 37, y 38, y 39, y 40, y 41, y 42, y 43, y 44, y 45, y 46, y 47, y 48, y 49, y 50, y 51, y 52, y 53, y 54, y 55, y 56, y 57, y 58, y 59, y 60, y 61, y 62, y 63, y 64, y 65, y 66, y 67, y 68, y 69, y 70, y 71, y 72, y 73, y 74, y 75, y 76, y 77, y 78, y 79, y 80, y 81, y 82, y 83, y 84, y 85, y 86, y 87, y 88, y 89, y 90, y 91, y 92, y 93] := rfl
def G45 (G : Nat) (u u' : World) : Prop := u'.cell? ⟨G, 4, none⟩ = u.cell? ⟨G, 4, none⟩
set_option maxRecDepth 1000000 in
set_option maxHeartbeats 8000000 in
theorem stp_9 (X B b G dr : Nat) (wa ag : Bool) (x : WS) (hB : B ≤ X) (hN : x.N ≤ 100) (hb : x.N = b + x.sn) (hgn : x.gn ≤ 50000) (hR : conts x.Rs = ones (List.range' b x.sn)) (htm : x.tm < x.pt) (hpt : x.pt ≤ 1000) (htr : x.tr ≤ 100) (hks : (G, #[.int .i64 0, .int .i64 (dr : Int), .int .i64 0, .bool false, .bool wa, .bool ag, .int .i64 0]) ∈ x.ks) :
    Tri Try.prog 94 (pieceOf Try.f34 [1, 1, 1, 1, 1, 0, 0]) (fun y w => y 0 = .pointer (some ⟨X, 0, none⟩) ∧ y 5 = .pointer (some ⟨G, 0, none⟩) ∧ XM w X B x)
      (fun y w y' w' => y' 0 = .pointer (some ⟨X, 0, none⟩) ∧ y' 5 = .pointer (some ⟨G, 0, none⟩) ∧ y' 71 = .bool ((lateO x (ag && !wa && x.si == x.pz)).go && !wa) ∧ LatS w w' X B b x (lateO x (ag && !wa && x.si == x.pz))) := by
  rintro Q y w ⟨s0, s5, hM⟩ hQ
  have HQ := hid hQ
  clear hQ
  have HL := hid (fun wi w h => late_ok X B b x wi w h hB hN hb hgn hR htm hpt htr)
  clear hR hb
  conv => arg 2; whnf
  rw [fr94]
  simp only [s0, s5]
  clear s0 s5
  refine wp_region_can 21 [] [0, 1, 2, 3, 4, 5, 6, 7, 8, 9, 10, 11, 12, 13, 14, 15, 16, 17, 18, 19, 20] (fun u u' => u' = u) (fun u => rfl) (fun _ _ _ h k => Eq.trans k h) (by kernel_rfl) (by kernel_rfl) ?_
  simp only [List.map_cons, List.map_nil, List.contains_nil, List.getD_cons_zero, List.getD_cons_succ]
  have HM := hid (hM.below ((Below.refl _ w).drew))
  have HB := hid ((Below.refl B w).drew)
  clear hM
  generalize w.drew = U at *
  have hg := HM.out.sp _ hks
  have x9 : ∀ w', w' = U → w'.cell? ⟨X, 9, none⟩ = some (.int .i64 (x.si : Int)) := fun w' h => by rw [h, cell_of_row _ _ _ _ _ _ HM.out.bx]; rfl
  have x10 : ∀ w', w' = U → w'.cell? ⟨X, 10, none⟩ = some (.int .i64 (x.pz : Int)) := fun w' h => by rw [h, cell_of_row _ _ _ _ _ _ HM.out.bx]; rfl
  have g4 : ∀ w', w' = U → w'.cell? ⟨G, 4, none⟩ = some (.bool wa) := fun w' h => by rw [h, cell_of_row _ _ _ _ _ _ hg]; rfl
  have g5 : ∀ w', w' = U → w'.cell? ⟨G, 5, none⟩ = some (.bool ag) := fun w' h => by rw [h, cell_of_row _ _ _ _ _ _ hg]; rfl
  have hgU : Hid (U.cell? ⟨G, 4, none⟩ = some (.bool wa)) := by rw [cell_of_row _ _ _ _ _ _ hg]; rfl
  have HK := hid hks
  clear hg hks
  cases ag with
  | false =>
    have e : (false && !wa && x.si == x.pz) = false := rfl
    rw [e] at HQ
    clear e
    iterate 4 (refine wpL_do rfl (fun w' hw' => (by go_simp; rfl)) ?_; simp only [Act.put, List.setIfInBounds_toArray, List.set_cons_succ, List.set_cons_zero])
    iterate 3 ((with_reducible refine wpL_pass ?_ ?_); (· rfl); simp only [Act.put, List.setIfInBounds_toArray, List.set_cons_succ, List.set_cons_zero])
    iterate 2 (refine wpL_do rfl (fun w' hw' => (by go_simp; rfl)) ?_; simp only [Act.put, List.setIfInBounds_toArray, List.set_cons_succ, List.set_cons_zero])
    iterate 11 ((with_reducible refine wpL_pass ?_ ?_); (· rfl); simp only [Act.put, List.setIfInBounds_toArray, List.set_cons_succ, List.set_cons_zero])
    iterate 1 (refine wpL_do rfl (fun w' hw' => (by go_simp; rfl)) ?_; simp only [Act.put, List.setIfInBounds_toArray, List.set_cons_succ, List.set_cons_zero])
    refine wpL_nil ?_
    clear x9 x10 g4 g5
    simp only [List.drop_succ_cons, List.drop_zero]
    have hl := hid (HL.out false U HM.out)
    clear HL
    generalize lateO x false = o at *
    go_wp2_with fail
    refine hl.out.mono ?_
    rintro e V ⟨rfl, hS⟩
    obtain ⟨ga, gn, gc, Rg, hM3, hc3, hn3⟩ := hS.ex
    have hg3 := hM3.sp _ HK.out
    have f4 : V.cell? ⟨G, 4, none⟩ = some (.bool wa) := by rw [cell_of_row _ _ _ _ _ _ hg3]; rfl
    have hB4 := hid hS.blw
    have HS2 : Hid (LatS w V X B b x o) := ⟨⟨ga, gn, gc, Rg, hM3, hc3, hn3⟩, HB.out.trans hS.blw⟩
    clear hS hM3 hc3 hn3 hg3 hl HM HB HK hgU hB4
    obtain ⟨o1, o2, o3, o4, go, o6⟩ := o
    dsimp only
    cases go with
    | true =>
      go_wp2_with fail
      exact q_fr (N := 94) HQ.out rfl ⟨rfl, rfl, rfl, HS2.out⟩
    | false =>
      go_wp2_with fail
      exact q_fr (N := 94) HQ.out rfl ⟨rfl, rfl, rfl, HS2.out⟩
  | true =>
    cases wa with
    | true =>
      have e : (true && !true && x.si == x.pz) = false := rfl
      rw [e] at HQ
      clear e
      iterate 9 (refine wpL_do rfl (fun w' hw' => (by go_simp; rfl)) ?_; simp only [Act.put, List.setIfInBounds_toArray, List.set_cons_succ, List.set_cons_zero])
      iterate 11 ((with_reducible refine wpL_pass ?_ ?_); (· rfl); simp only [Act.put, List.setIfInBounds_toArray, List.set_cons_succ, List.set_cons_zero])
      iterate 1 (refine wpL_do rfl (fun w' hw' => (by go_simp; rfl)) ?_; simp only [Act.put, List.setIfInBounds_toArray, List.set_cons_succ, List.set_cons_zero])
      refine wpL_nil ?_
      clear x9 x10 g4 g5
      simp only [List.drop_succ_cons, List.drop_zero]
      have hl := hid (HL.out false U HM.out)
      clear HL
      generalize lateO x false = o at *
      go_wp2_with fail
      refine hl.out.mono ?_
      rintro e V ⟨rfl, hS⟩
      obtain ⟨ga, gn, gc, Rg, hM3, hc3, hn3⟩ := hS.ex
      have hg3 := hM3.sp _ HK.out
      have f4 : V.cell? ⟨G, 4, none⟩ = some (.bool true) := by rw [cell_of_row _ _ _ _ _ _ hg3]; rfl
      have hB4 := hid hS.blw
      have HS2 : Hid (LatS w V X B b x o) := ⟨⟨ga, gn, gc, Rg, hM3, hc3, hn3⟩, HB.out.trans hS.blw⟩
      clear hS hM3 hc3 hn3 hg3 hl HM HB HK hgU hB4
      obtain ⟨o1, o2, o3, o4, go, o6⟩ := o
      dsimp only
      cases go with
      | true =>
        go_wp2_with fail
        exact q_fr (N := 94) HQ.out rfl ⟨rfl, rfl, rfl, HS2.out⟩
      | false =>
        go_wp2_with fail
        exact q_fr (N := 94) HQ.out rfl ⟨rfl, rfl, rfl, HS2.out⟩
    | false =>
      have e : (true && !false && x.si == x.pz) = (x.si == x.pz) := rfl
      rw [e] at HQ
      clear e
      have d1 : ((x.si : Int) == (x.pz : Int)) = (x.si == x.pz) := by
        rw [Bool.eq_iff_iff, beq_iff_eq, beq_iff_eq]
        omega
      iterate 21 (refine wpL_do rfl (fun w' hw' => (by go_simp; rfl)) ?_; simp only [Act.put, List.setIfInBounds_toArray, List.set_cons_succ, List.set_cons_zero])
      clear d1
      refine wpL_nil ?_
      clear x9 x10 g4 g5
      simp only [List.drop_succ_cons, List.drop_zero]
      have hl := hid (HL.out (x.si == x.pz) U HM.out)
      clear HL
      generalize lateO x (x.si == x.pz) = o at *
      go_wp2_with fail
      refine hl.out.mono ?_
      rintro e V ⟨rfl, hS⟩
      obtain ⟨ga, gn, gc, Rg, hM3, hc3, hn3⟩ := hS.ex
      have hg3 := hM3.sp _ HK.out
      have f4 : V.cell? ⟨G, 4, none⟩ = some (.bool false) := by rw [cell_of_row _ _ _ _ _ _ hg3]; rfl
      have hB4 := hid hS.blw
      have HS2 : Hid (LatS w V X B b x o) := ⟨⟨ga, gn, gc, Rg, hM3, hc3, hn3⟩, HB.out.trans hS.blw⟩
      clear hS hM3 hc3 hn3 hg3 hl HM HB HK hgU hB4
      obtain ⟨o1, o2, o3, o4, go, o6⟩ := o
      dsimp only
      cases go with
      | true =>
        go_wp2_with fail
        exact q_fr (N := 94) HQ.out rfl ⟨rfl, rfl, rfl, HS2.out⟩
      | false =>
        go_wp2_with fail
        exact q_fr (N := 94) HQ.out rfl ⟨rfl, rfl, rfl, HS2.out⟩
end Go.Proofs.Ytkngoomkmbkenaa
/- A hand's step: from late on. -/
namespace Go.Proofs.Ytkngoomkmbkenaa
set_option linter.unusedVariables false
open Go.RowKit

theorem ones_len {R : List RB} {b n : Nat} (h : conts R = ones (List.range' b n)) : ∀ r ∈ R, r.2.length = 1 := fun r hr => by
  have h1 : r.2 ∈ conts R := List.mem_map.2 ⟨r, hr, rfl⟩
  rw [h] at h1
  obtain ⟨i, _, h2⟩ := List.mem_map.1 h1
  rw [← h2]
  rfl
theorem cmds_append (a b : List Nat) : cmds (a ++ b) = cmds a ++ cmds b := List.map_append
/-- from late on, in plain words -/
def tailH (ah pt pz : Nat) (h : HS) (wa ag : Bool) : HS × List Nat :=
  if ((lateH pt h (ag && !wa && h.si == pz)).go && !wa) = true then ((moreH ah (lateH pt h (ag && !wa && h.si == pz)).x).1, (lateH pt h (ag && !wa && h.si == pz)).up ++ (moreH ah (lateH pt h (ag && !wa && h.si == pz)).x).2)
  else ((lateH pt h (ag && !wa && h.si == pz)).x, (lateH pt h (ag && !wa && h.si == pz)).up)
structure StpR (ah pt pz : Nat) (W0 W : World) (X B : Nat) (x : WS) (y : HS × List Nat) : Prop where
  ex : ∃ x', XM W X B x' ∧ WL ah pt pz y.1 x' ∧ conts x'.Rg = conts x.Rg ++ cmds y.2 ∧ x'.gn = x.gn + y.2.length
  blw : Below B W0 W
/-- the rows of sent and queue are fresh -/
theorem RO.fresh {W V : World} {B : Nat} {x : WS} (h : RO W B x) (hb : Below W.heap.size W V) {sa qa : Option Addr} {sc qc M : Nat} {R1 R2 : List RB}
    (ho1 : OwnAt V W.heap.size 31 (.slice sa x.sn sc) x.sn (rcs R1)) (hlt : ∀ k, (Value.slice sa x.sn sc).ownBlock = some k → k < M) (ho2 : OwnAt V M 31 (.slice qa x.qn qc) x.qn (rcs R2)) (hM : W.heap.size ≤ M) (hB : B ≤ W.heap.size) (r1 : RR V B R1) (r2 : RR V B R2) :
    RO V B { x with sa := sa, sc := sc, Rs := R1, qa := qa, qc := qc, Rq := R2 } := by
  refine ⟨ho1.mono hB, ho2.mono (Nat.le_trans hB hM), h.go.below hb, r1, r2, h.gr.below hb, fun k h1 h2 => ?_, fun k h1 h2 => ?_, fun k h1 h2 => ?_⟩
  · have a := hlt k h1
    have b := (ho2.lt k h2).1
    omega
  · have a := (ho1.lt k h1).1
    have b := (h.go.lt k h2).2
    omega
  · have a := (ho2.lt k h1).1
    have b := (h.go.lt k h2).2
    omega
set_option maxRecDepth 1000000 in
set_option maxHeartbeats 8000000 in
/-- what is left when all is sent: the rows are cloned -/
theorem stp_e (ah pt pz X B : Nat) (h2 : HS) (x : WS) (hB : B ≤ X) (H : WL ah pt pz h2 x) (hs : x.sn ≤ 1000) (hq : x.qn ≤ 1000)
    (Q : Exit → Act → World → Prop) (y : Nat → Value) (w : World) (s0 : y 0 = .pointer (some ⟨X, 0, none⟩)) (hM : XM w X B x)
    (hQ : ∀ y' w', y' 4 = .int .i64 0 → (∃ x', XM w' X B x' ∧ WL ah pt pz h2 x' ∧ x'.Rg = x.Rg ∧ x'.gn = x.gn) → Below B w w' → Q .ret ⟨fr 94 y', []⟩ w') :
    Code.wp Try.prog (pieceOf Try.f34 [1, 1, 1, 1, 1, 1]) Q ⟨fr 94 y, []⟩ w := by
  have HQ := hid hQ
  have HH := hid H
  clear hQ H
  conv => arg 2; whnf
  rw [fr94]
  simp only [s0]
  clear s0
  refine wp_seq_k (fun K0 hK0 => ?_)
  refine wp_region_late [17, 21] [7, 13, 17, 21] [(false, [1, 8, 9, 10, 11]), (true, [0, 2, 3, 4, 5, 6, 12, 7, 13]), (false, [14, 15, 16, 17, 18, 19, 20, 21])] Ext (fun _ _ => True) Ext.refl Ext.trans (fun _ => trivial) (fun _ _ _ _ _ => trivial) (fun _ _ _ => trivial) (by kernel_rfl) (by kernel_rfl) ?_
  simp only [wpPh, List.map_cons, List.map_nil, List.contains_cons, List.contains_nil, List.getD_cons_zero, List.getD_cons_succ, Nat.reduceBEq, Bool.or_false, Bool.or_true]
  have HM := hid (hM.below ((Below.refl _ w).drew))
  have HB := hid ((Below.refl B w).drew)
  clear hM
  generalize w.drew = U at *
  have hXl := row_lt HM.out.bx
  have x3 : ∀ w', Ext U w' → w'.cell? ⟨X, 3, none⟩ = some (.slice x.sa x.sn x.sc) := fun w' h => by rw [cell_of_row _ _ _ _ _ _ (row_below HM.out.bx h)]; rfl
  have x4 : ∀ w', Ext U w' → w'.cell? ⟨X, 4, none⟩ = some (.slice x.qa x.qn x.qc) := fun w' h => by rw [cell_of_row _ _ _ _ _ _ (row_below HM.out.bx h)]; rfl
  have HXl := hid hXl
  clear hXl
  iterate 5 (refine wpL_do rfl (fun w' hw' => (by go_simp; rfl)) ?_; simp only [Act.put, List.setIfInBounds_toArray, List.set_cons_succ, List.set_cons_zero])
  refine wpL_nil ?_
  iterate 7 (refine wpL_do rfl (fun w' hw' => (by go_simp; rfl)) ?_; simp only [Act.put, List.setIfInBounds_toArray, List.set_cons_succ, List.set_cons_zero])
  clear x3 x4
  have hc1 := hid (clones_ok x.sa x.sn x.sc x.Rs U HM.out.ro.sp hs (fun r hr => by rw [ones_len HH.out.S r hr]; decide))
  refine wpL_call rfl (fun K hK => ?_)
  go_wp2_with fail
  refine hc1.out.mono ?_
  rintro e V1 ⟨⟨sa, sc, R1, rfl, o1, k1, r1⟩, hb1⟩
  refine hK _ _ hb1 ?_
  clear hK K hc1
  try simp only [Act.put, List.setIfInBounds_toArray, List.set_cons_succ, List.set_cons_zero]
  have HM1 := hid (HM.out.below hb1)
  have Ho1 := hid (OwnAt.of o1)
  have Hk1 := hid k1
  have Hr1 := hid r1
  have Hb1 := hid hb1
  clear o1 k1 r1 hb1
  have hc2 := hid (clones_ok x.qa x.qn x.qc x.Rq V1 HM1.out.ro.qp hq (fun r hr => by rw [ones_len HH.out.Q r hr]; decide))
  refine wpL_call rfl (fun K hK => ?_)
  go_wp2_with fail
  refine hc2.out.mono ?_
  rintro e V2 ⟨⟨qa, qc, R2, rfl, o2, k2, r2⟩, hb2⟩
  refine hK _ _ hb2 ?_
  clear hK K hc2
  try simp only [Act.put, List.setIfInBounds_toArray, List.set_cons_succ, List.set_cons_zero]
  have HM2 := hid (HM1.out.below hb2)
  have hlt1 : ∀ k, (Value.slice sa x.sn sc).ownBlock = some k → k < V1.heap.size := fun k hk => (Ho1.out.lt k hk).2
  have hbUV := Hb1.out.trans (hb2.mono Hb1.out.size)
  have HRO := hid (HM.out.ro.fresh hbUV (Ho1.out.below hb2) hlt1 (OwnAt.of o2) Hb1.out.size (Nat.le_trans hB (Nat.le_of_lt HXl.out)) (fun r hr => ⟨(Hr1.out r hr).1.below hb2, (Hr1.out r hr).2.mono (Nat.le_trans hB (Nat.le_of_lt HXl.out))⟩) (fun r hr => ⟨(r2 r hr).1, (r2 r hr).2.mono (Nat.le_trans (Nat.le_trans hB (Nat.le_of_lt HXl.out)) Hb1.out.size)⟩))
  have HB2 := hid (HB.out.trans (hbUV.mono (Nat.le_trans hB (Nat.le_of_lt HXl.out))))
  have Hk2 := hid k2
  clear o2 k2 r2 hb2 hlt1 hbUV Ho1 Hr1 Hb1 HM1 HM HB
  refine wpL_nil ?_
  iterate 3 (refine wpL_do rfl (fun w' hw' => (by go_simp; rfl)) ?_; simp only [Act.put, List.setIfInBounds_toArray, List.set_cons_succ, List.set_cons_zero])
  have x3 : V2.cell? ⟨X, 3, none⟩ = some (.slice x.sa x.sn x.sc) := by rw [cell_of_row _ _ _ _ _ _ HM2.out.bx]; rfl
  have fz := frozen_row HM2.out.bx 3
  obtain ⟨s1, s2⟩ := set_row (cs' := WS.cells { x with sa := sa, sc := sc, Rs := R1 }) HM2.out.bx 3 (.slice sa x.sn sc) rfl
  obtain ⟨s3, s4⟩ := set_row (cs' := WS.cells { x with sa := sa, sc := sc, Rs := R1, qa := qa, qc := qc, Rq := R2 }) s1 4 (.slice qa x.qn qc) rfl
  refine wpL_call rfl (fun K hK => ?_)
  go_wp2_with fail
  refine hK _ _ trivial ?_
  clear hK K x3 fz
  try simp only [Act.put, List.setIfInBounds_toArray, List.set_cons_succ, List.set_cons_zero]
  iterate 3 (refine wpL_do rfl (fun w' hw' => (by go_simp; rfl)) ?_; simp only [Act.put, List.setIfInBounds_toArray, List.set_cons_succ, List.set_cons_zero])
  have x4 : (V2.setCell ⟨X, 3, none⟩ (.slice sa x.sn sc)).cell? ⟨X, 4, none⟩ = some (.slice x.qa x.qn x.qc) := by rw [cell_of_row _ _ _ _ _ _ s1]; rfl
  have fz := frozen_row s1 4
  have hXs := grownBy_trans s2 s4
  have H5 := hid (HM2.out.set (x' := { x with sa := sa, sc := sc, Rs := R1, qa := qa, qc := qc, Rq := R2 }) hXs s3 HRO.out)
  have HB5 := hid (HB2.out.grown hXs (Nat.le_trans hB (Nat.le_of_lt (row_lt HM2.out.bx))) (fun k e => by cases e; exact hB))
  clear s1 s2 s3 s4 hXs HM2 HRO HB2
  generalize V2.setCell ⟨X, 3, none⟩ (.slice sa x.sn sc) = V3 at *
  refine wpL_call rfl (fun K hK => ?_)
  go_wp2_with fail
  refine hK _ _ trivial ?_
  clear hK K x4 fz
  try simp only [Act.put, List.setIfInBounds_toArray, List.set_cons_succ, List.set_cons_zero]
  refine wpL_nil ?_
  refine hK0.out _ _ ?_
  go_wp2_with fail
  refine q_frX (N := 94) (Post := fun y' w' => y' 4 = .int .i64 0 ∧ (∃ x', XM w' X B x' ∧ WL ah pt pz h2 x' ∧ x'.Rg = x.Rg ∧ x'.gn = x.gn) ∧ Below B w w') (fun y' w' h => HQ.out y' w' h.1 h.2.1 h.2.2) rfl ⟨rfl, ⟨_, H5.out, ?_, rfl, rfl⟩, HB5.out⟩
  obtain ⟨e1, e2, e3, e4, e5, e6, e7, e8, e9, e10, e11, e12⟩ := HH.out
  exact ⟨e1, e2, e3, Hk1.out.trans e4, Hk2.out.trans e5, e6, e7, e8, e9, e10, e11, e12⟩
end Go.Proofs.Ytkngoomkmbkenaa
/- A hand's step, whole. -/
namespace Go.Proofs.Ytkngoomkmbkenaa
set_option linter.unusedVariables false
open Go.RowKit

theorem lateH_sn {pt : Nat} {h : HS} (w : Bool) : (lateH pt h w).x.N = h.N ∧ (lateH pt h w).x.b = h.b ∧ (lateH pt h w).x.A = h.A ∧ (lateH pt h w).up.length ≤ h.N - h.b := by
  unfold lateH
  split
  · exact ⟨rfl, rfl, rfl, Nat.zero_le _⟩
  · split
    · exact ⟨rfl, rfl, rfl, Nat.zero_le _⟩
    · split
      · exact ⟨rfl, rfl, rfl, Nat.zero_le _⟩
      · exact ⟨rfl, rfl, rfl, by show (List.range' _ _).length ≤ _; rw [List.length_range']; exact Nat.le_refl _⟩
set_option maxRecDepth 1000000 in
set_option maxHeartbeats 8000000 in
theorem stp_t (ah pt pz X B G dr : Nat) (wa ag : Bool) (h : HS) (x : WS) (hB : B ≤ X) (H : WL ah pt pz h x) (hbN : h.b ≤ h.N) (hNA : h.N ≤ h.A) (hA : h.A ≤ 100) (hah : h.N - h.b ≤ ah) (hah1 : ah ≤ 100) (htm : h.tm < pt) (hpt : pt ≤ 1000) (htr : h.tr ≤ 100) (hl : h.hl = false) (hgn : x.gn ≤ 40000)
    (hks : (G, #[.int .i64 0, .int .i64 (dr : Int), .int .i64 0, .bool false, .bool wa, .bool ag, .int .i64 0]) ∈ x.ks)
    (Q : Exit → Act → World → Prop) (y : Nat → Value) (w : World) (s0 : y 0 = .pointer (some ⟨X, 0, none⟩)) (s5 : y 5 = .pointer (some ⟨G, 0, none⟩)) (hM : XM w X B x)
    (hQ : ∀ y' w', y' 4 = .int .i64 0 → StpR ah pt pz w w' X B x (tailH ah pt pz h wa ag) → Q .ret ⟨fr 94 y', []⟩ w') :
    Code.wp Try.prog (pieceOf Try.f34 [1, 1, 1, 1, 1]) Q ⟨fr 94 y, []⟩ w := by
  have HQ := hid hQ
  have hsn := H.sn
  have hqn := H.qn
  have hxN := H.N
  have h9 := stp_9 X B h.b G dr wa ag x hB (by omega) (by omega) (by omega) H.S (by rw [H.tm, H.pt]; exact htm) (by rw [H.pt]; exact hpt) (by rw [H.tr]; exact htr) hks
  rw [H.si, H.pz] at h9
  have hwi := H.lateW hbN hl (ag && !wa && h.si == pz)
  have hls := lateH_sn (pt := pt) (h := h) (ag && !wa && h.si == pz)
  unfold tailH at HQ
  generalize (ag && !wa && h.si == pz) = wi at *
  have H9 := hid h9
  have HWi := hid hwi
  clear h9 hwi hQ
  conv => arg 2; whnf
  refine wp_seq_k (fun K0 hK0 => ?_)
  refine wp_seq_k (fun K1 hK1 => ?_)
  refine Tri.use H9.out rfl ⟨s0, s5, hM⟩ ?_
  rintro y1 w1 ⟨t0, t5, t71, ⟨ga, gn, gc, Rg, hM1, hc1, hn1⟩, hb1⟩
  refine hK1.out _ _ ?_
  obtain ⟨W1, g1, g2, g3⟩ := HWi.out ga gn gc Rg
  have hlen : (lateH pt h wi).up.length ≤ 100 := by omega
  rw [g2] at hc1
  rw [g3] at hn1
  rw [g1] at t71
  have hgo : x.gn ≤ gn := by omega
  generalize hx1 : ({ x with tm := (lateO x wi).tm, si := (lateO x wi).si, tr := (lateO x wi).tr, ha := (lateO x wi).ha, ga := ga, gn := gn, gc := gc, Rg := Rg } : WS) = x1 at *
  have hx1g : x1.gn = gn ∧ x1.Rg = Rg := by rw [← hx1]; exact ⟨rfl, rfl⟩
  obtain ⟨hx1a, hx1b⟩ := hx1g
  clear hx1 g1 g2 g3 H9 HWi s0 s5 hM
  generalize lateH pt h wi = t at *
  obtain ⟨th, tu, tg⟩ := t
  dsimp only at *
  obtain ⟨hls1, hls2, hls3, hls4⟩ := hls
  have hxs : x1.sn = th.N - th.b := W1.sn
  have hxq : x1.qn = th.A - th.N := W1.qn
  have hxN1 : x1.N = th.N := W1.N
  by_cases hm : (tg && !wa) = true
  · rw [hm] at t71
    rw [if_pos hm] at HQ
    obtain ⟨n, hn⟩ : ∃ n, n = min (x1.ah - x1.sn) x1.qn := ⟨_, rfl⟩
    have hxa := W1.ah
    have hmo := hid (more_ok X B th.b n x1 w1 hM1 hB hn (by omega) (by omega) (by omega) (by omega) (by omega) (by omega) W1.S (by rw [hxN1]; exact W1.Q))
    have HW1 := hid W1
    have Hn := hid hn
    have Hc1 := hid hc1
    have Hb1 := hid hb1
    have hmW := hid (fun f hf qa qc => W1.moreW (by omega) (by omega) hn f hf qa qc)
    clear hM1 hc1 hb1 W1 hn
    rw [fr94]
    simp only [t0, t71]
    clear t0 t71 t5 hm
    refine wp_cond_true rfl ?_
    go_wp2_with fail
    refine hmo.out.mono ?_
    rintro e w2 ⟨rfl, ⟨f, qa, qc, hM2, hc2⟩, hb2⟩
    go_wp2_with fail
    refine hK0.out _ _ ?_
    obtain ⟨W2, k1, k2⟩ := hmW.out f hc2 qa qc
    refine use_fr (N := 94) rfl ?_
    have hn2 := Hn.out
    refine stp_e ah pt pz X B _ _ hB W2 (by show x1.sn + n ≤ 1000; omega) (by show x1.qn - n ≤ 1000; omega) Q _ w2 rfl hM2 (fun y' w' j4 j5 j6 => ?_)
    obtain ⟨x', j7, j8, j9, j10⟩ := j5
    refine HQ.out y' w' j4 ⟨⟨x', j7, j8, ?_, ?_⟩, Hb1.out.trans (hb2.trans j6)⟩
    · rw [j9]
      show conts f.Rg = _
      rw [k1, hx1b, Hc1.out, cmds_append, List.append_assoc]
    · rw [j10]
      show x1.gn + n = _
      rw [hx1a, hn1, List.length_append, ← k2]
      omega
  · have hm2 : (tg && !wa) = false := by cases h : (tg && !wa) with
      | true => exact absurd h hm
      | false => rfl
    rw [hm2] at t71
    rw [if_neg hm] at HQ
    have HW1 := hid W1
    have Hc1 := hid hc1
    have Hb1 := hid hb1
    have HM1 := hid hM1
    clear hM1 hc1 hb1 W1
    rw [fr94]
    simp only [t0, t71]
    clear t0 t71 t5 hm hm2
    refine wp_cond_false rfl ?_
    go_wp2_with fail
    refine hK0.out _ _ ?_
    refine use_fr (N := 94) rfl ?_
    refine stp_e ah pt pz X B _ _ hB HW1.out (by omega) (by omega) Q _ w1 rfl HM1.out (fun y' w' j4 j5 j6 => ?_)
    obtain ⟨x', j7, j8, j9, j10⟩ := j5
    refine HQ.out y' w' j4 ⟨⟨x', j7, j8, ?_, ?_⟩, Hb1.out.trans j6⟩
    · rw [j9, hx1b, Hc1.out]
    · rw [j10, hx1a, hn1]
end Go.Proofs.Ytkngoomkmbkenaa
