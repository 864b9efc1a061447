/- frame: Hear: pieces. -/
import Derived.Test.YtjiipmalahhcpaaCarries23
import Derived.Test.YtjiipmalahhcpaaCarries22
namespace Go.Proofs.Ytjiipmalahhcpaa
set_option linter.unusedVariables false
open Go.RowKit

set_option maxRecDepth 1000000 in
theorem fr148 (y : Nat → Value) : fr 148 y = #[y 0, y 1, y 2, y 3, y 4, y 5, y 6, y 7, y 8, y 9, y 10, y 11, y 12, y 13, y 14, y 15, y 16, y 17, y 18, y 19, y 20, y 21, y 22, y 23, y 24, y 25, y 26, y 27, y 28, y 29, y 30, y 31, y 32, y 33, y 34, y 35, y 36, y 37, y 38, y 39, y 40, y 41, y 42, y 43, y 44, y 45, y 46, y 47, y 48, y 49, y 50, y 51, y 52, y 53, y 54, y 55, y 56, y 57, y 58, y 59, y 60, y 61, y 62, y 63, y 64, y 65, y 66, y 67, y 68, y 69, y 70, y 71, y 72, y 73, y 74, y 75, y 76, y 77, y 78, y 79, y 80, y 81, y 82, y 83, y 84, y 85, y 86, y 87, y 88, y 89, y 90, y 91, y 92, y 93, y 94, y 95, y 96, y 97, y 98, y 99, y 100, y 101, y 102, y 103, y 104, y 105, y 106, y 107, y 108, y 109, y 110, y 111, y 112, y 113, y 114, y 115, y 116, y 117, y 118, y 119, y 120, y 121, y 122, y 123, y 124, y 125, y 126, y 127, y 128, y 129, y 130, y 131, y 132, y 133, y 134, y 135, y 136, y 137, y 138, y 139, y 140, y 141, y 142, y 143, y 144, y 145, y 146, y 147] := rfl
/-- Hear's slots -/
structure SH (y : Nat → Value) (P H st lost : Nat) (da : Option Addr) (dn dc : Nat) : Prop where
  s2 : y 2 = .pointer (some ⟨P, 0, none⟩)
  s4 : y 4 = .pointer (some ⟨P + 1, 0, none⟩)
  s10 : y 10 = .pointer (some ⟨H, 0, none⟩)
  s11 : y 11 = .slice da dn dc
  s12 : y 12 = .int .i64 (st : Int)
  s14 : y 14 = .int .i64 (lost : Int)
set_option maxRecDepth 1000000 in
set_option maxHeartbeats 2000000 in
theorem her_15 (P H eb ec cr sz : Nat) (ms : Int) (hcr ch ma ow fi : Nat) (e : Nat → ES) (da : Option Addr) (dn dc : Nat) (ds : List Nat) (st lost : Nat) (hma : ma ≤ 255) :
    Tri Try.prog 148 (pieceOf Try.f12 [1, 1, 1, 1, 1, 1, 1, 1, 0]) (fun y w => SH y P H st lost da dn dc ∧ HM w P H eb ec cr sz ms hcr ch ma ow fi e da dn dc ds)
      (fun y w y' w' => SH y' P H st lost da dn dc ∧ HM w' P H eb ec cr sz ((ma + 1) % 256 : Nat) hcr ch ma ow fi e da dn dc ds ∧ Below P w w') := by
  rintro Q y w ⟨⟨s2, s4, s10, s11, s12, s14⟩, hM⟩ hQ
  have HQ := hid hQ
  have HMm := hid hM
  have p2 : w.cell? ⟨P, 2, none⟩ = some (.int .i64 ms) := by rw [cell_of_row _ _ _ _ _ _ hM.bx]; rfl
  have h2 : w.cell? ⟨H, 2, none⟩ = some (.int .i64 (ma : Int)) := by rw [cell_of_row _ _ _ _ _ _ hM.hd]; rfl
  have fz := frozen_row hM.bx 2
  have f1 := and255 (ma + 1) (by omega)
  have f2 : (ma : Int) + 1 = ((ma + 1 : Nat) : Int) := by omega
  have f3 : IntKind.i64.wrap ((ma + 1 : Nat) : Int) = ((ma + 1 : Nat) : Int) := IntWalk.i64_in _ (by omega)
  have f4 := f1
  rw [← f2] at f4
  have f5 := f3
  rw [← f2] at f5
  obtain ⟨m2, hm2⟩ : ∃ m2, m2 = (ma + 1) % 256 := ⟨_, rfl⟩
  rw [← hm2] at f1 f4
  have Hm2 := hid hm2
  clear hm2
  generalize ma + 1 = o1 at f1 f2 f3 f4 f5
  obtain ⟨m1, g1⟩ := set_row (cs' := #[.int .i64 (cr : Int), .int .i64 (sz : Int), .int .i64 (m2 : Int), .slice (some ⟨eb, 0, none⟩) 7 ec]) hM.bx 2 (.int .i64 (m2 : Int)) rfl
  have M1 := hid m1
  have G1 := hid g1
  have HlP := hid (Nat.le_of_lt (row_lt hM.bx))
  clear hQ hM m1 g1
  conv => arg 2; whnf
  rw [fr148]
  simp only [s2, s4, s10, s11, s12, s14]
  clear s2 s4 s10 s11 s12 s14
  go_wp2_with fail
  refine q_fr (N := 148) HQ.out rfl ⟨⟨rfl, rfl, rfl, rfl, rfl, rfl⟩, ?_, (Below.refl P w).grown G1.out HlP.out (fun k e => by cases e; exact Nat.le_refl _)⟩
  rw [← Hm2.out]
  exact HMm.out.box G1.out M1.out
end Go.Proofs.Ytjiipmalahhcpaa
/- frame: Hear: the ear is found; what cannot be gone on with is dropped. -/
namespace Go.Proofs.Ytjiipmalahhcpaa
set_option linter.unusedVariables false
open Go.RowKit

set_option maxRecDepth 1000000 in
set_option maxHeartbeats 2000000 in
theorem her_18 (P H eb ec cr sz : Nat) (ms : Int) (hcr ch ma ow fi : Nat) (e : Nat → ES) (da : Option Addr) (dn dc : Nat) (ds : List Nat) (st lost : Nat) (hch : ch < 7) (hec : ec ≤ maxLen) :
    Tri Try.prog 148 (pieceOf Try.f12 [1, 1, 1, 1, 1, 1, 1, 1, 1, 1, 0]) (fun y w => SH y P H st lost da dn dc ∧ HM w P H eb ec cr sz ms hcr ch ma ow fi e da dn dc ds)
      (fun y w y' w' => SH y' P H st lost da dn dc ∧ y' 15 = .pointer (some ⟨eb, ch * 2, none⟩) ∧ w' = w) := by
  rintro Q y w ⟨⟨s2, s4, s10, s11, s12, s14⟩, hM⟩ hQ
  have HQ := hid hQ
  have p3 : w.cell? ⟨P, 3, none⟩ = some (.slice (some ⟨eb, 0, none⟩) 7 ec) := by rw [cell_of_row _ _ _ _ _ _ hM.bx]; rfl
  have h1 : w.cell? ⟨H, 1, none⟩ = some (.int .i64 (ch : Int)) := by rw [cell_of_row _ _ _ _ _ _ hM.hd]; rfl
  have hc7 : (ch : Int) < 7 := by omega
  unfold maxLen at hec
  clear hQ hM
  conv => arg 2; whnf
  rw [fr148]
  simp only [s2, s4, s10, s11, s12, s14]
  clear s2 s4 s10 s11 s12 s14
  go_wp2_with fail
  exact q_fr (N := 148) HQ.out rfl ⟨⟨rfl, rfl, rfl, rfl, rfl, rfl⟩, rfl, rfl⟩
/-- an ear after what could not be gone on with was dropped -/
def dropE (e : Nat → ES) (ch ow : Nat) : Nat → ES := if 0 ≤ (e ch).nx ∧ (e ch).nx ≠ (ow : Int) then setE e ch ⟨(e ch).nx, none, 0, 0, []⟩ else e
set_option maxRecDepth 1000000 in
set_option maxHeartbeats 2000000 in
theorem her_19 (P H eb ec cr sz : Nat) (ms : Int) (hcr ch ma ow fi : Nat) (e : Nat → ES) (da : Option Addr) (dn dc : Nat) (ds : List Nat) (st lost : Nat) (hch : ch < 7) (hP : P ≤ eb) :
    Tri Try.prog 148 (pieceOf Try.f12 [1, 1, 1, 1, 1, 1, 1, 1, 1, 1, 1, 0]) (fun y w => SH y P H st lost da dn dc ∧ y 15 = .pointer (some ⟨eb, ch * 2, none⟩) ∧ HM w P H eb ec cr sz ms hcr ch ma ow fi e da dn dc ds)
      (fun y w y' w' => SH y' P H st lost da dn dc ∧ y' 15 = .pointer (some ⟨eb, ch * 2, none⟩) ∧ HM w' P H eb ec cr sz ms hcr ch ma ow fi (dropE e ch ow) da dn dc ds ∧ Below P w w') := by
  rintro Q y w ⟨⟨s2, s4, s10, s11, s12, s14⟩, s15, hM⟩ hQ
  have HQ := hid hQ
  have HMm : Hid (HM w.drew P H eb ec cr sz ms hcr ch ma ow fi e da dn dc ds) := hid (hM.below ((Below.refl _ w).drew))
  have HB := hid ((Below.refl P w).drew)
  have p1 : ∀ w', w' = w.drew → w'.cell? ⟨H, 3, none⟩ = some (.int .i64 (ow : Int)) := fun w' h => by rw [h, cell_of_row _ _ _ _ _ _ HMm.out.hd]; rfl
  have q1 : ∀ w', w' = w.drew → w'.cell? ⟨eb, ch * 2, none⟩ = some (.int .i64 (e ch).nx) := fun w' h => by rw [h]; exact (HMm.out.er.cell ch hch).1
  have HlP := hid (show P ≤ w.drew.heap.size from Nat.le_trans hP (Nat.le_of_lt HMm.out.er.lt))
  obtain ⟨nx, hnx⟩ : ∃ nx, nx = (e ch).nx := ⟨_, rfl⟩
  rw [← hnx] at q1
  have Hnx := hid hnx
  clear hQ hM hnx
  conv => arg 2; whnf
  rw [fr148]
  simp only [s2, s4, s10, s11, s12, s14, s15]
  clear s2 s4 s10 s11 s12 s14 s15
  refine wp_seq ?_
  refine wp_region_can_all [] [0, 1, 2, 3, 4, 5, 6, 7, 8, 9, 10, 11, 12, 13] (fun u u' => u' = u) (fun u => rfl) (fun _ _ _ h k => k.trans h) (by kernel_rfl) (by kernel_rfl) ?_
  simp only [List.map_cons, List.map_nil, List.contains_nil, List.getD_cons_zero, List.getD_cons_succ]
  generalize w.drew = U at *
  by_cases h0 : 0 ≤ nx
  · have d1 : decide (0 ≤ nx) = true := decide_eq_true h0
    have d1' : decide (nx ≥ 0) = true := decide_eq_true h0
    by_cases h1 : nx = (ow : Int)
    · have hd : Hid (dropE e ch ow = e) := by
        unfold Hid dropE
        rw [if_neg (fun h => h.2 (by rw [← Hnx.out]; exact h1))]
      have e1 : (nx == (ow : Int)) = true := by rw [h1]; exact beq_self_eq_true _
      have e2 : (nx != (ow : Int)) = false := by rw [bne, e1]; rfl
      have e3 : decide (nx = (ow : Int)) = true := decide_eq_true h1
      clear h1
      iterate 14 (refine wpL_do rfl (fun w' hw' => (by go_simp; rfl)) ?_; simp only [Act.put, List.setIfInBounds_toArray, List.set_cons_succ, List.set_cons_zero])
      refine wpL_nil ?_
      clear p1 q1
      go_wp2_with fail
      refine q_fr (N := 148) HQ.out rfl ⟨⟨rfl, rfl, rfl, rfl, rfl, rfl⟩, rfl, ?_, HB.out⟩
      rw [hd.out]
      exact HMm.out
    · have hd : Hid (dropE e ch ow = setE e ch ⟨(e ch).nx, none, 0, 0, []⟩) := by
        unfold Hid dropE
        rw [if_pos ⟨by rw [← Hnx.out]; exact h0, by rw [← Hnx.out]; exact h1⟩]
      have e1 : (nx == (ow : Int)) = false := by rw [beq_eq_false_iff_ne]; exact h1
      have e2 : (nx != (ow : Int)) = true := by rw [bne, e1]; rfl
      have e3 : decide (nx = (ow : Int)) = false := decide_eq_false h1
      clear h1
      iterate 14 (refine wpL_do rfl (fun w' hw' => (by go_simp; rfl)) ?_; simp only [Act.put, List.setIfInBounds_toArray, List.set_cons_succ, List.set_cons_zero])
      refine wpL_nil ?_
      clear p1 q1
      obtain ⟨k0, k1, kf⟩ := HMm.out.er.cell ch hch
      have kf := kf (ch * 2 + 1)
      obtain ⟨g1, g2⟩ := HMm.out.er.putr hch none 0 0 []
      have G1 := hid g1
      have G2 := hid g2
      clear g1 g2 k0
      go_wp2_with fail
      refine q_fr (N := 148) HQ.out rfl ⟨⟨rfl, rfl, rfl, rfl, rfl, rfl⟩, rfl, ?_, HB.out.grown G2.out HlP.out (fun k e => by cases e; exact hP)⟩
      rw [hd.out]
      refine HMm.out.ear G2.out G1.out (fun c hc => ?_)
      by_cases ec : c = ch
      · subst ec; rw [setE_self]; exact RdT.nil 5 _
      · rw [setE_ne _ _ ec]; exact HMm.out.rd c hc
  · have hd : Hid (dropE e ch ow = e) := by
      unfold Hid dropE
      rw [if_neg (fun h => h0 (by rw [Hnx.out]; exact h.1))]
    have d1 : decide (0 ≤ nx) = false := decide_eq_false h0
    have d1' : decide (nx ≥ 0) = false := decide_eq_false h0
    iterate 6 (refine wpL_do rfl (fun w' hw' => (by go_simp; rfl)) ?_; simp only [Act.put, List.setIfInBounds_toArray, List.set_cons_succ, List.set_cons_zero])
    iterate 7 ((with_reducible refine wpL_pass ?_ ?_); (· rfl); simp only [Act.put, List.setIfInBounds_toArray, List.set_cons_succ, List.set_cons_zero])
    refine wpL_do rfl (fun w' hw' => (by go_simp; rfl)) ?_; simp only [Act.put, List.setIfInBounds_toArray, List.set_cons_succ, List.set_cons_zero]
    refine wpL_nil ?_
    clear p1 q1
    go_wp2_with fail
    refine q_fr (N := 148) HQ.out rfl ⟨⟨rfl, rfl, rfl, rfl, rfl, rfl⟩, rfl, ?_, HB.out⟩
    rw [hd.out]
    exact HMm.out
set_option maxRecDepth 1000000 in
set_option maxHeartbeats 2000000 in
theorem her_21 (P H eb ec cr sz : Nat) (ms : Int) (hcr ch ma ow fi : Nat) (e : Nat → ES) (da : Option Addr) (dn dc : Nat) (ds : List Nat) (st lost : Nat) (hch : ch < 7) (how : ow ≤ 255) (hP : P ≤ eb) :
    Tri Try.prog 148 (pieceOf Try.f12 [1, 1, 1, 1, 1, 1, 1, 1, 1, 1, 1, 1, 0]) (fun y w => SH y P H st lost da dn dc ∧ y 15 = .pointer (some ⟨eb, ch * 2, none⟩) ∧ HM w P H eb ec cr sz ms hcr ch ma ow fi e da dn dc ds)
      (fun y w y' w' => SH y' P H st lost da dn dc ∧ y' 15 = .pointer (some ⟨eb, ch * 2, none⟩) ∧ HM w' P H eb ec cr sz ms hcr ch ma ow fi (setE e ch ⟨((ow + 1) % 256 : Nat), (e ch).ra, (e ch).rn, (e ch).rc, (e ch).rs⟩) da dn dc ds ∧ Below P w w') := by
  rintro Q y w ⟨⟨s2, s4, s10, s11, s12, s14⟩, s15, hM⟩ hQ
  have HQ := hid hQ
  have HMm := hid hM
  have h3 : w.cell? ⟨H, 3, none⟩ = some (.int .i64 (ow : Int)) := by rw [cell_of_row _ _ _ _ _ _ hM.hd]; rfl
  obtain ⟨k0, _, kf⟩ := hM.er.cell ch hch
  have kf := kf (ch * 2)
  have f1 := and255 (ow + 1) (by omega)
  have f2 : (ow : Int) + 1 = ((ow + 1 : Nat) : Int) := by omega
  have f3 : IntKind.i64.wrap ((ow + 1 : Nat) : Int) = ((ow + 1 : Nat) : Int) := IntWalk.i64_in _ (by omega)
  have f4 := f1
  rw [← f2] at f4
  have f5 := f3
  rw [← f2] at f5
  obtain ⟨g1, g2⟩ := hM.er.putn hch (((ow + 1) % 256 : Nat) : Int)
  have G1 := hid g1
  have G2 := hid g2
  have HlP := hid (show P ≤ w.heap.size from Nat.le_trans hP (Nat.le_of_lt hM.er.lt))
  clear hQ hM g1 g2
  conv => arg 2; whnf
  rw [fr148]
  simp only [s2, s4, s10, s11, s12, s14, s15]
  clear s2 s4 s10 s11 s12 s14 s15
  generalize (ow + 1) % 256 = o2 at *
  generalize ow + 1 = o1 at *
  go_wp2_with fail
  refine q_fr (N := 148) HQ.out rfl ⟨⟨rfl, rfl, rfl, rfl, rfl, rfl⟩, rfl, ?_, (Below.refl P w).grown G2.out HlP.out (fun k e => by cases e; exact hP)⟩
  refine HMm.out.ear G2.out G1.out (fun c hc => ?_)
  by_cases ec : c = ch
  · subst ec; rw [setE_self]; exact HMm.out.rd c hc
  · rw [setE_ne _ _ ec]; exact HMm.out.rd c hc
end Go.Proofs.Ytjiipmalahhcpaa
/- frame: Hear: the packets of a frame. -/
namespace Go.Proofs.Ytjiipmalahhcpaa
set_option linter.unusedVariables false
open Go.RowKit

/-- the ways in which a frame's bytes go on with what is left -/
inductive RowC : List Nat → List Nat → Nat → List Nat → Prop where
  | nil (ds : List Nat) : RowC [] ds 2047 []
  | frm (ds : List Nat) (f : Nat) (h : f < ds.length) : RowC [] ds f (ds.drop f)
  | all (rs ds : List Nat) (h : rs ≠ []) : RowC rs ds 2047 (rs ++ ds)
  | join (rs ds : List Nat) (f : Nat) (p : PK) (h : rs ≠ []) (hf : f < ds.length) (hp : p.Ok) (hj : rs ++ ds.take f = p.enc) : RowC rs ds f (rs ++ ds)
theorem RowC.len {rs ds out : List Nat} {f : Nat} (h : RowC rs ds f out) : out.length ≤ rs.length + ds.length := by
  cases h with
  | nil => exact Nat.zero_le _
  | frm _ f h => rw [List.length_drop]; omega
  | all => rw [List.length_append]; exact Nat.le_refl _
  | join => rw [List.length_append]; exact Nat.le_refl _
theorem row_ok (ra : Option Addr) (rn rc : Nat) (da : Option Addr) (dn dc f : Nat) (rs ds out : List Nat) (W0 : World) (hc : RowC rs ds f out) (hr : RdT 5 W0 ra rn rc (vb rs)) (hd : RdT 5 W0 da dn dc (vb ds)) (hr2 : rn ≤ 70000) (hdn : dn ≤ 2036) :
    Calls Try.prog 29 #[.slice ra rn rc, .slice da dn dc, .int .i64 (f : Int)] W0 fun e w' => RowR W0 w' out e := by
  have hrl : rs.length = rn := by have := hr.rd.len; rwa [vb_len] at this
  have hdl : ds.length = dn := by have := hd.rd.len; rwa [vb_len] at this
  cases hc with
  | nil =>
    obtain rfl : rn = 0 := by rw [← hrl]; rfl
    exact row_nil ra rc da dn dc W0
  | frm _ _ h =>
    obtain rfl : rn = 0 := by rw [← hrl]; rfl
    obtain ⟨b, off, rfl, _, _⟩ := hd.rd.mem (by omega)
    exact row_from ra rc b off dn dc f ds W0 hd (by omega) hdn
  | all _ _ h =>
    have := List.length_pos_iff.2 h
    exact row_all ra rn rc da dn dc rs ds W0 hr hd (by omega) hr2 hdn
  | join _ _ _ p h hf hp hj =>
    have := List.length_pos_iff.2 h
    obtain ⟨b, off, rfl, _, _⟩ := hd.rd.mem (by omega)
    exact row_join ra rn rc b off dn dc f rs ds p W0 hr hd (by omega) hr2 (by omega) hdn hp hj
/-- packets in memory -/
structure PL (W : World) (B : Nat) (L : List PB) (la : Option Addr) (lc : Nat) : Prop where
  ow : W.ownsRow B 38 6 (.slice la L.length lc) L.length (L.flatMap pcl)
  rd : ∀ r ∈ L, RdT 5 W r.1.1 r.1.2.1 r.1.2.2 (vb r.2.ds)
  ln : ∀ r ∈ L, r.1.2.1 = r.2.ds.length
theorem PL.below {W W' : World} {B : Nat} {L : List PB} {la : Option Addr} {lc : Nat} (h : PL W B L la lc) (hb : Below W.heap.size W W') : PL W' B L la lc :=
  ⟨ownsRow_below h.ow hb, fun r hr => (h.rd r hr).below hb, h.ln⟩
theorem PL.other {W W' : World} {B k T : Nat} {L : List PB} {la : Option Addr} {lc : Nat} {cs : Array Value} (h : PL W B L la lc) (hg : W.grownBy W' (some k)) (hk : W.heap[k]? = some (.cells cs T)) (h1 : 38 ≠ T) (h2 : 5 ≠ T) : PL W' B L la lc :=
  ⟨h.ow.kept hg (own_ne h.ow hk h1), fun r hr => (h.rd r hr).other hg hk h2, h.ln⟩
/-- the slots behind packets -/
structure SP (y : Nat → Value) (L : List PB) (la : Option Addr) (lc : Nat) : Prop where
  s16 : y 16 = .slice la L.length lc
  s18 : y 18 = .bool false
structure PkE (w w' : World) (y' : Nat → Value) (B P H eb ec cr sz : Nat) (ms : Int) (hcr ch ma ow fi : Nat) (e : Nat → ES) (da : Option Addr) (dn dc : Nat) (ds : List Nat) (ps : List PK) (rest : List Nat) : Prop where
  ex : ∃ (L : List PB) (la : Option Addr) (lc : Nat) (ra : Option Addr) (rc : Nat), SP y' L la lc ∧ y' 17 = .slice ra rest.length rc ∧ L.map (·.2) = ps ∧ PL w' B L la lc ∧ RdT 5 w' ra rest.length rc (vb rest)
  hm : HM w' P H eb ec cr sz ms hcr ch ma ow fi e da dn dc ds
  blw : Below w.heap.size w w'
set_option maxRecDepth 1000000 in
set_option maxHeartbeats 4000000 in
theorem her_22 (B P H eb ec cr sz : Nat) (ms : Int) (hcr ch ma ow fi : Nat) (e : Nat → ES) (da : Option Addr) (dn dc : Nat) (ds : List Nat) (st lost : Nat) (out : List Nat) (ps : List PK) (rest : List Nat) (hch : ch < 7) (hB : B ≤ P)
    (hrc : RowC (e ch).rs ds fi out) (ho : out = encs ps ++ rest) (hps : ∀ p ∈ ps, p.Ok) (hR : Part rest) (hrn : (e ch).rs.length ≤ 65541) (hdn : dn ≤ 2036) :
    Tri Try.prog 148 (pieceOf Try.f12 [1, 1, 1, 1, 1, 1, 1, 1, 1, 1, 1, 1, 1, 0]) (fun y w => SH y P H st lost da dn dc ∧ y 15 = .pointer (some ⟨eb, ch * 2, none⟩) ∧ HM w P H eb ec cr sz ms hcr ch ma ow fi e da dn dc ds)
      (fun y w y' w' => SH y' P H st lost da dn dc ∧ y' 15 = .pointer (some ⟨eb, ch * 2, none⟩) ∧ PkE w w' y' B P H eb ec cr sz ms hcr ch ma ow fi e da dn dc ds ps rest) := by
  rintro Q y w ⟨⟨s2, s4, s10, s11, s12, s14⟩, s15, hM⟩ hQ
  have HQ := hid hQ
  obtain ⟨B0, hB0⟩ : ∃ B0, B0 = w.heap.size := ⟨_, rfl⟩
  have HU : Hid (HM w.drew P H eb ec cr sz ms hcr ch ma ow fi e da dn dc ds) := hid (hM.below ((Below.refl _ w).drew))
  have hsz : Hid (w.drew.heap.size = B0) := hid hB0.symm
  have HB := hid ((Below.refl B0 w).drew)
  have hlt1 : eb < B0 := by rw [hB0]; exact hM.er.lt
  have hlt2 : H < B0 := by rw [hB0]; exact row_lt hM.hd
  have hlt3 : P < B0 := by rw [hB0]; exact row_lt hM.bx
  have q1 : ∀ w', Below B0 w.drew w' → w'.cell? ⟨eb, ch * 2 + 1, none⟩ = some (.slice (e ch).ra (e ch).rn (e ch).rc) := fun w' h => (World.cell?_of_block (h.block eb hlt1)).trans (HU.out.er.cell ch hch).2.1
  have q2 : ∀ w', Below B0 w.drew w' → w'.cell? ⟨H, 4, none⟩ = some (.int .i64 (fi : Int)) := fun w' h => by rw [cell_of_row _ _ _ _ _ _ ((h.block H hlt2).trans HU.out.hd)]; rfl
  have hrl : (e ch).rs.length = (e ch).rn := by have := (hM.rd ch hch).rd.len; rwa [vb_len] at this
  have hdl : ds.length = dn := by have := hM.dt.rd.len; rwa [vb_len] at this
  have hol : out.length ≤ 100000 := by have := hrc.len; omega
  have HBB := hid (show B ≤ B0 by omega)
  have HB0 := hid hB0
  have hrow := hid (row_ok (e ch).ra (e ch).rn (e ch).rc da dn dc fi (e ch).rs ds out w.drew hrc (HU.out.rd ch hch) HU.out.dt (by omega) hdn)
  have Ho := hid ho
  have Hps := hid hps
  have HR := hid hR
  clear hQ hM hB0 hrl hdl hrc ho hps hR hrn hdn hlt1 hlt2 hlt3
  conv => arg 2; whnf
  rw [fr148]
  simp only [s2, s4, s10, s11, s12, s14, s15]
  clear s2 s4 s10 s11 s12 s14 s15
  refine wp_region_can_all [7, 8] [0, 1, 2, 3, 4, 5, 6, 7, 8, 9, 10, 11, 12, 13, 14, 15] (Below B0) (Below.refl B0) (fun _ _ _ h k => h.trans k) (by kernel_rfl) (by kernel_rfl) ?_
  simp only [List.map_cons, List.map_nil, List.contains_cons, List.contains_nil, List.getD_cons_zero, List.getD_cons_succ, Nat.reduceBEq, Bool.or_false, Bool.or_true]
  generalize w.drew = U at *
  iterate 7 (refine wpL_do rfl (fun w' hw' => (by go_simp; rfl)) ?_; simp only [Act.put, List.setIfInBounds_toArray, List.set_cons_succ, List.set_cons_zero])
  clear q1 q2
  refine wpL_call rfl (fun K hK => ?_)
  go_wp2_with fail
  refine hrow.out.mono ?_
  rintro e1 V ⟨⟨xa, xc, rfl, hx⟩, hb⟩
  have hpk := hid (packets_ok ps rest xa out.length xc V (by rw [← Ho.out]; exact hx) Hps.out HR.out hol)
  have hbV : Below B0 U V := hb.mono (Nat.le_of_eq hsz.out.symm)
  have HM1 := hid (HU.out.below hb)
  have HB1 := hid (HB.out.trans hbV)
  have hV : Hid (B0 ≤ V.heap.size) := by have := hb.size; rw [hsz.out] at this; exact this
  refine hK _ _ hbV ?_
  clear hK K hx hb hbV hrow HU HB
  try simp only [Act.put, List.setIfInBounds_toArray, List.set_cons_succ, List.set_cons_zero]
  refine wpL_call rfl (fun K hK => ?_)
  go_wp2_with fail
  refine hpk.out.mono ?_
  rintro e2 X ⟨⟨L, la, lc, ra, rc, rfl, hL, hLo, hLr, hLn, hrd⟩, hb⟩
  have hbX : Below B0 V X := hb.mono hV.out
  have HM2 := hid (HM1.out.below hb)
  have HB2 := hid (HB1.out.trans hbX)
  have HPL : Hid (PL X B L la lc) := ⟨ownsRow_mono hLo (Nat.le_trans HBB.out hV.out), hLr, hLn⟩
  have HL := hid hL
  have HRd := hid hrd
  refine hK _ _ hbX ?_
  clear hK K hb hbX hpk HM1 HB1 hL hLo hLr hLn hrd
  try simp only [Act.put, List.setIfInBounds_toArray, List.set_cons_succ, List.set_cons_zero]
  repeat (refine wpL_do rfl (fun w' hw' => (by go_simp; rfl)) ?_; simp only [Act.put, List.setIfInBounds_toArray, List.set_cons_succ, List.set_cons_zero])
  refine wpL_nil ?_
  refine q_fr (N := 148) HQ.out rfl ⟨⟨rfl, rfl, rfl, rfl, rfl, rfl⟩, rfl, ⟨L, la, lc, ra, rc, ⟨rfl, rfl⟩, rfl, HL.out, HPL.out, HRd.out⟩, HM2.out, ?_⟩
  rw [← HB0.out]
  exact HB2.out
/-- an ear keeps the rest -/
structure RsE (w w' : World) (y' : Nat → Value) (B P H eb ec cr sz : Nat) (ms : Int) (hcr ch ma ow fi : Nat) (e : Nat → ES) (da : Option Addr) (dn dc : Nat) (ds : List Nat) (L : List PB) (la : Option Addr) (lc : Nat) (rest : List Nat) : Prop where
  sp : SP y' L la lc
  pl : PL w' B L la lc
  ex : ∃ (ra : Option Addr) (rc : Nat), HM w' P H eb ec cr sz ms hcr ch ma ow fi (setE e ch ⟨(e ch).nx, ra, rest.length, rc, rest⟩) da dn dc ds
  blw : Below P w w'
set_option maxRecDepth 1000000 in
set_option maxHeartbeats 4000000 in
theorem her_23 (B P H eb ec cr sz : Nat) (ms : Int) (hcr ch ma ow fi : Nat) (e : Nat → ES) (da : Option Addr) (dn dc : Nat) (ds : List Nat) (st lost : Nat) (L : List PB) (la : Option Addr) (lc : Nat) (ra : Option Addr) (rc : Nat) (rest : List Nat) (hch : ch < 7) (hP : P ≤ eb) (hrl : rest.length ≤ 65541) :
    Tri Try.prog 148 (pieceOf Try.f12 [1, 1, 1, 1, 1, 1, 1, 1, 1, 1, 1, 1, 1, 1, 0]) (fun y w => SH y P H st lost da dn dc ∧ y 15 = .pointer (some ⟨eb, ch * 2, none⟩) ∧ SP y L la lc ∧ y 17 = .slice ra rest.length rc ∧ HM w P H eb ec cr sz ms hcr ch ma ow fi e da dn dc ds ∧ PL w B L la lc ∧ RdT 5 w ra rest.length rc (vb rest))
      (fun y w y' w' => SH y' P H st lost da dn dc ∧ y' 15 = .pointer (some ⟨eb, ch * 2, none⟩) ∧ RsE w w' y' B P H eb ec cr sz ms hcr ch ma ow fi e da dn dc ds L la lc rest) := by
  rintro Q y w ⟨⟨s2, s4, s10, s11, s12, s14⟩, s15, ⟨s16, s18⟩, s17, hM, hP1, hrd⟩ hQ
  have HQ := hid hQ
  have HMm := hid hM
  have HPl := hid hP1
  have hcl := hid (clone_any ra rest.length rc rest w hrd.rd (by omega))
  generalize hn : rest.length = n at *
  have Hn := hid hn
  have HlP := hid (show P ≤ w.heap.size from Nat.le_of_lt (row_lt hM.bx))
  clear hQ hM hP1 hrd hn
  conv => arg 2; whnf
  rw [fr148]
  simp only [s2, s4, s10, s11, s12, s14, s15, s16, s17, s18]
  clear s2 s4 s10 s11 s12 s14 s15 s16 s17 s18
  go_wp2_with fail
  refine hcl.out.mono ?_
  rintro e1 V ⟨xa, xc, rfl, ho, hb⟩
  have HM1 := hid (HMm.out.below hb)
  have HP1 := hid (HPl.out.below hb)
  have HB1 := hid (hb.mono HlP.out)
  have HO := hid (RdT.ofOwn ho)
  clear hcl ho hb HMm HPl
  obtain ⟨k0, k1, kf⟩ := HM1.out.er.cell ch hch
  have kf := kf (ch * 2 + 1)
  obtain ⟨g1, g2⟩ := HM1.out.er.putr hch xa n xc rest
  have G1 := hid g1
  have G2 := hid g2
  clear k0 g1 g2
  go_wp2_with fail
  obtain ⟨cq, hq, _⟩ := HM1.out.er.ex
  refine q_fr (N := 148) HQ.out rfl ⟨⟨rfl, rfl, rfl, rfl, rfl, rfl⟩, rfl, ⟨rfl, rfl⟩, HP1.out.other G2.out hq (by decide) (by decide), ⟨xa, xc, ?_⟩, HB1.out.grown G2.out (Nat.le_trans HlP.out HB1.out.size) (fun k e => by cases e; exact hP)⟩
  rw [Hn.out]
  refine HM1.out.ear G2.out G1.out (fun c hc => ?_)
  by_cases ec : c = ch
  · subst ec; rw [setE_self]; exact HO.out
  · rw [setE_ne _ _ ec]; exact HM1.out.rd c hc
end Go.Proofs.Ytjiipmalahhcpaa
