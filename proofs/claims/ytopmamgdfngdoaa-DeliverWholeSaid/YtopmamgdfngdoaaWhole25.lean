/- deliver: the notes are laid on their way (printed by gensnd.py). -/
import Derived.Test.YtopmamgdfngdoaaWhole24
import Derived.Test.YtopmamgdfngdoaaWhole11
namespace Go.Proofs.Ytopmamgdfngdoaa
set_option linter.unusedVariables false
open Go.RowKit

set_option maxRecDepth 1000000 in
set_option maxHeartbeats 8000000 in
theorem tick_s7 (D : DP) (hD : DOk D) (X B B2 : Nat) (g : GS) (t : TS) (A : CA) (oa : Option Addr) (oc : Nat) (vs : List NV) (hv : ∀ v ∈ vs, vN D v.k) (hl : A.db.length + vs.length ≤ 100000) :
    Tri Try.prog 211 (pieceOf Try.f7 [1, 1, 1, 1, 1, 1, 0]) (fun z w => z 0 = .pointer (some ⟨X, 0, none⟩) ∧ z 6 = .slice oa vs.length oc ∧ CB D w X B g t A ∧ NRow D w B2 oa oc vs ∧ B ≤ w.heap.size)
      (fun z w z' w' => (z' 0 = z 0 ∧ z' 3 = z 3 ∧ z' 9 = z 9) ∧ z' 11 = .bool true ∧ ∃ wa wc bs, CB D w' X B g t (A.dn wa wc bs) ∧ bs.map (·.k) = A.db.map (·.k) ++ vs.map (·.k) ∧ Kp B w w') := by
  rintro Q z w ⟨s0, s1, hC, hN, hB⟩ hQ
  have HQ := hid hQ
  have c0 : w.cell? ⟨X, 27, none⟩ = some (.slice A.da A.db.length A.dc) := hC.c27
  have hs := hid (sends_ok D hD B B2 A.da A.dc A.db oa oc vs w hC.dn hB hN hv hl)
  have HC := hid hC
  have S0 := hid s0
  clear hQ hC hN
  obtain ⟨bn, hbn⟩ : ∃ bn, bn = A.db.length := ⟨_, rfl⟩
  obtain ⟨vn, hvn⟩ : ∃ vn, vn = vs.length := ⟨_, rfl⟩
  rw [← hvn] at s1 hs
  rw [← hbn] at c0 hs
  have Hbn := hid hbn
  obtain ⟨wa0, hwa⟩ : ∃ a, a = A.da := ⟨_, rfl⟩
  obtain ⟨wc0, hwc⟩ : ∃ a, a = A.dc := ⟨_, rfl⟩
  rw [← hwa, ← hwc] at c0 hs
  have Hwa := hid hwa
  have Hwc := hid hwc
  clear hbn hvn hwa hwc
  conv => arg 2; whnf
  rw [fr211]
  simp only [s0, s1]
  clear s0 s1
  go_wp2_with ((go_at_call 13; refine hs.out.mono ?_; rintro e W1 ⟨⟨wa, wc, bs, rfl, hS⟩⟩; clear hs c0; rw [Hbn.out, Hwa.out, Hwc.out] at hS; obtain ⟨hX1, hC2, hK⟩ := HC.out.sentD hS; have fz := frozen_row hX1 27; have c1 : W1.cell? ⟨X, 27, none⟩ = some (dvl A) := (box_27 hX1).1; have HF : Hid (∃ wa' wc' bs', CB D (W1.setCell ⟨X, 27, none⟩ (.slice wa bs.length wc)) X B g t (A.dn wa' wc' bs') ∧ bs'.map (·.k) = A.db.map (·.k) ++ vs.map (·.k) ∧ Kp B w (W1.setCell ⟨X, 27, none⟩ (.slice wa bs.length wc))) := hid ⟨wa, wc, bs, hC2, hS.ke, hK⟩; clear hS hC2 hK hX1))
  refine q_fr (N := 211) HQ.out rfl ⟨⟨S0.out.symm, rfl, rfl⟩, rfl, HF.out⟩

set_option maxRecDepth 1000000 in
set_option maxHeartbeats 8000000 in
theorem tick_s8 (D : DP) (hD : DOk D) (X B B2 : Nat) (g : GS) (t : TS) (A : CA) (oa : Option Addr) (oc : Nat) (vs : List NV) (hv : ∀ v ∈ vs, vN D v.k) (hl : A.ub.length + vs.length ≤ 100000) :
    Tri Try.prog 211 (pieceOf Try.f7 [1, 1, 1, 1, 1, 1, 1, 0]) (fun z w => z 0 = .pointer (some ⟨X, 0, none⟩) ∧ z 9 = .slice oa vs.length oc ∧ CB D w X B g t A ∧ NRow D w B2 oa oc vs ∧ B ≤ w.heap.size)
      (fun z w z' w' => (z' 0 = z 0 ∧ z' 3 = z 3 ∧ z' 11 = z 11) ∧ z' 12 = .bool true ∧ ∃ wa wc bs, CB D w' X B g t (A.up wa wc bs) ∧ bs.map (·.k) = A.ub.map (·.k) ++ vs.map (·.k) ∧ Kp B w w') := by
  rintro Q z w ⟨s0, s1, hC, hN, hB⟩ hQ
  have HQ := hid hQ
  have c0 : w.cell? ⟨X, 28, none⟩ = some (.slice A.ua A.ub.length A.uc) := hC.c28
  have hs := hid (sends_ok D hD B B2 A.ua A.uc A.ub oa oc vs w hC.up hB hN hv hl)
  have HC := hid hC
  have S0 := hid s0
  clear hQ hC hN
  obtain ⟨bn, hbn⟩ : ∃ bn, bn = A.ub.length := ⟨_, rfl⟩
  obtain ⟨vn, hvn⟩ : ∃ vn, vn = vs.length := ⟨_, rfl⟩
  rw [← hvn] at s1 hs
  rw [← hbn] at c0 hs
  have Hbn := hid hbn
  obtain ⟨wa0, hwa⟩ : ∃ a, a = A.ua := ⟨_, rfl⟩
  obtain ⟨wc0, hwc⟩ : ∃ a, a = A.uc := ⟨_, rfl⟩
  rw [← hwa, ← hwc] at c0 hs
  have Hwa := hid hwa
  have Hwc := hid hwc
  clear hbn hvn hwa hwc
  conv => arg 2; whnf
  rw [fr211]
  simp only [s0, s1]
  clear s0 s1
  go_wp2_with ((go_at_call 13; refine hs.out.mono ?_; rintro e W1 ⟨⟨wa, wc, bs, rfl, hS⟩⟩; clear hs c0; rw [Hbn.out, Hwa.out, Hwc.out] at hS; obtain ⟨hX1, hC2, hK⟩ := HC.out.sentU hS; have fz := frozen_row hX1 28; have c1 : W1.cell? ⟨X, 28, none⟩ = some (uvl A) := (box_27 hX1).2; have HF : Hid (∃ wa' wc' bs', CB D (W1.setCell ⟨X, 28, none⟩ (.slice wa bs.length wc)) X B g t (A.up wa' wc' bs') ∧ bs'.map (·.k) = A.ub.map (·.k) ++ vs.map (·.k) ∧ Kp B w (W1.setCell ⟨X, 28, none⟩ (.slice wa bs.length wc))) := hid ⟨wa, wc, bs, hC2, hS.ke, hK⟩; clear hS hC2 hK hX1))
  refine q_fr (N := 211) HQ.out rfl ⟨⟨S0.out.symm, rfl, rfl⟩, rfl, HF.out⟩

set_option maxRecDepth 1000000 in
set_option maxHeartbeats 8000000 in
theorem tick_s18 (D : DP) (hD : DOk D) (X B B2 : Nat) (g : GS) (t : TS) (A : CA) (oa : Option Addr) (oc : Nat) (vs : List NV) (hv : ∀ v ∈ vs, vN D v.k) (hl : A.ub.length + vs.length ≤ 100000) :
    Tri Try.prog 211 (pieceOf Try.f7 [1, 1, 1, 1, 1, 1, 1, 1, 1, 1, 1, 0, 1, 0, 0, 1, 0, 0, 1, 1, 0]) (fun z w => z 0 = .pointer (some ⟨X, 0, none⟩) ∧ z 16 = .slice oa vs.length oc ∧ CB D w X B g t A ∧ NRow D w B2 oa oc vs ∧ B ≤ w.heap.size)
      (fun z w z' w' => (z' 0 = z 0 ∧ z' 3 = z 3 ∧ z' 7 = z 7 ∧ z' 13 = z 13 ∧ z' 15 = z 15) ∧ z' 11 = .bool true ∧ ∃ wa wc bs, CB D w' X B g t (A.up wa wc bs) ∧ bs.map (·.k) = A.ub.map (·.k) ++ vs.map (·.k) ∧ Kp B w w') := by
  rintro Q z w ⟨s0, s1, hC, hN, hB⟩ hQ
  have HQ := hid hQ
  have c0 : w.cell? ⟨X, 28, none⟩ = some (.slice A.ua A.ub.length A.uc) := hC.c28
  have hs := hid (sends_ok D hD B B2 A.ua A.uc A.ub oa oc vs w hC.up hB hN hv hl)
  have HC := hid hC
  have S0 := hid s0
  clear hQ hC hN
  obtain ⟨bn, hbn⟩ : ∃ bn, bn = A.ub.length := ⟨_, rfl⟩
  obtain ⟨vn, hvn⟩ : ∃ vn, vn = vs.length := ⟨_, rfl⟩
  rw [← hvn] at s1 hs
  rw [← hbn] at c0 hs
  have Hbn := hid hbn
  obtain ⟨wa0, hwa⟩ : ∃ a, a = A.ua := ⟨_, rfl⟩
  obtain ⟨wc0, hwc⟩ : ∃ a, a = A.uc := ⟨_, rfl⟩
  rw [← hwa, ← hwc] at c0 hs
  have Hwa := hid hwa
  have Hwc := hid hwc
  clear hbn hvn hwa hwc
  conv => arg 2; whnf
  rw [fr211]
  simp only [s0, s1]
  clear s0 s1
  go_wp2_with ((go_at_call 13; refine hs.out.mono ?_; rintro e W1 ⟨⟨wa, wc, bs, rfl, hS⟩⟩; clear hs c0; rw [Hbn.out, Hwa.out, Hwc.out] at hS; obtain ⟨hX1, hC2, hK⟩ := HC.out.sentU hS; have fz := frozen_row hX1 28; have c1 : W1.cell? ⟨X, 28, none⟩ = some (uvl A) := (box_27 hX1).2; have HF : Hid (∃ wa' wc' bs', CB D (W1.setCell ⟨X, 28, none⟩ (.slice wa bs.length wc)) X B g t (A.up wa' wc' bs') ∧ bs'.map (·.k) = A.ub.map (·.k) ++ vs.map (·.k) ∧ Kp B w (W1.setCell ⟨X, 28, none⟩ (.slice wa bs.length wc))) := hid ⟨wa, wc, bs, hC2, hS.ke, hK⟩; clear hS hC2 hK hX1))
  refine q_fr (N := 211) HQ.out rfl ⟨⟨S0.out.symm, rfl, rfl, rfl, rfl⟩, rfl, HF.out⟩

set_option maxRecDepth 1000000 in
set_option maxHeartbeats 8000000 in
theorem tick_s27 (D : DP) (hD : DOk D) (X B B2 : Nat) (g : GS) (t : TS) (A : CA) (oa : Option Addr) (oc : Nat) (vs : List NV) (hv : ∀ v ∈ vs, vN D v.k) (hl : A.db.length + vs.length ≤ 100000) :
    Tri Try.prog 211 (pieceOf Try.f7 [1, 1, 1, 1, 1, 1, 1, 1, 1, 1, 1, 1, 1, 1, 0, 1, 0, 0, 1, 0, 0, 1, 1, 0]) (fun z w => z 0 = .pointer (some ⟨X, 0, none⟩) ∧ z 20 = .slice oa vs.length oc ∧ CB D w X B g t A ∧ NRow D w B2 oa oc vs ∧ B ≤ w.heap.size)
      (fun z w z' w' => (z' 0 = z 0 ∧ z' 3 = z 3 ∧ z' 7 = z 7 ∧ z' 11 = z 11 ∧ z' 17 = z 17 ∧ z' 19 = z 19) ∧ z' 12 = .bool true ∧ ∃ wa wc bs, CB D w' X B g t (A.dn wa wc bs) ∧ bs.map (·.k) = A.db.map (·.k) ++ vs.map (·.k) ∧ Kp B w w') := by
  rintro Q z w ⟨s0, s1, hC, hN, hB⟩ hQ
  have HQ := hid hQ
  have c0 : w.cell? ⟨X, 27, none⟩ = some (.slice A.da A.db.length A.dc) := hC.c27
  have hs := hid (sends_ok D hD B B2 A.da A.dc A.db oa oc vs w hC.dn hB hN hv hl)
  have HC := hid hC
  have S0 := hid s0
  clear hQ hC hN
  obtain ⟨bn, hbn⟩ : ∃ bn, bn = A.db.length := ⟨_, rfl⟩
  obtain ⟨vn, hvn⟩ : ∃ vn, vn = vs.length := ⟨_, rfl⟩
  rw [← hvn] at s1 hs
  rw [← hbn] at c0 hs
  have Hbn := hid hbn
  obtain ⟨wa0, hwa⟩ : ∃ a, a = A.da := ⟨_, rfl⟩
  obtain ⟨wc0, hwc⟩ : ∃ a, a = A.dc := ⟨_, rfl⟩
  rw [← hwa, ← hwc] at c0 hs
  have Hwa := hid hwa
  have Hwc := hid hwc
  clear hbn hvn hwa hwc
  conv => arg 2; whnf
  rw [fr211]
  simp only [s0, s1]
  clear s0 s1
  go_wp2_with ((go_at_call 13; refine hs.out.mono ?_; rintro e W1 ⟨⟨wa, wc, bs, rfl, hS⟩⟩; clear hs c0; rw [Hbn.out, Hwa.out, Hwc.out] at hS; obtain ⟨hX1, hC2, hK⟩ := HC.out.sentD hS; have fz := frozen_row hX1 27; have c1 : W1.cell? ⟨X, 27, none⟩ = some (dvl A) := (box_27 hX1).1; have HF : Hid (∃ wa' wc' bs', CB D (W1.setCell ⟨X, 27, none⟩ (.slice wa bs.length wc)) X B g t (A.dn wa' wc' bs') ∧ bs'.map (·.k) = A.db.map (·.k) ++ vs.map (·.k) ∧ Kp B w (W1.setCell ⟨X, 27, none⟩ (.slice wa bs.length wc))) := hid ⟨wa, wc, bs, hC2, hS.ke, hK⟩; clear hS hC2 hK hX1))
  refine q_fr (N := 211) HQ.out rfl ⟨⟨S0.out.symm, rfl, rfl, rfl, rfl, rfl⟩, rfl, HF.out⟩

end Go.Proofs.Ytopmamgdfngdoaa
/- deliver: notes come down, or up (printed by gencom.py). -/
namespace Go.Proofs.Ytopmamgdfngdoaa
set_option linter.unusedVariables false
open Go.RowKit
/-- what came -/
structure CamP (D : DP) (w W : World) (B : Nat) (ob : Option Nat) (r : List NT × List NT) (v1 v2 : Value) : Prop where
  ex : ∃ la lc vs wa wc bs, v1 = .slice la (vs : List NV).length lc ∧ v2 = .slice wa (bs : List BV).length wc ∧ NRow D W w.heap.size la lc vs ∧ (∀ v ∈ vs, vN D v.k) ∧ vs.map (·.k) = r.1 ∧ Way D W B wa wc bs ∧ bs.map (·.k) = r.2 ∧ (obk wa bs.length wc = ob ∨ ∀ g, obk wa bs.length wc = some g → w.heap.size ≤ g)
  blw : Below w.heap.size w W

set_option maxRecDepth 1000000 in
set_option maxHeartbeats 8000000 in
theorem tick_c11 (D : DP) (hD : DOk D) (X B Ty : Nat) (g : GS) (t : TS) (A : CA) (d u : Nat) (q lo cp : Int) (hN : d ≤ 1000) (hl : A.db.length ≤ 100000) (hq : -9223372036854775808 ≤ q ∧ q ≤ 9223372036854775807) :
    Tri Try.prog 211 (pieceOf Try.f7 [1, 1, 1, 1, 1, 1, 1, 1, 1, 0]) (fun z w => z 0 = .pointer (some ⟨X, 0, none⟩) ∧ z 3 = .pointer (some ⟨Ty, 0, none⟩) ∧ CB D w X B g t A ∧ w.heap[Ty]? = some (.cells #[.int .i64 (d : Int), .int .i64 (u : Int), .int .i64 q, .int .i64 lo, .int .i64 cp] 41) ∧ B ≤ w.heap.size)
      (fun z w z' w' => (z' 0 = z 0 ∧ z' 3 = z 3 ∧ z' 9 = z 9) ∧ z' 11 = .bool true ∧ CamP D w w' B (dvl A).ownBlock (comesL (pkF q) (btF cp) (btF lo) 0 d (A.db.map (·.k))) (z' 13) (z' 14)) := by
  rintro Q z w ⟨s0, s1, hC, hT, hB⟩ hQ
  have HQ := hid hQ
  have S0 := hid s0
  have S1 := hid s1
  refine Hid.out (hid ?_)
  have hdr := (Below.refl w.heap.size w).drew
  have HC := hid (hC.below hdr)
  have HT := hid (row_below hT hdr)
  have hB2 : B ≤ w.drew.heap.size := Nat.le_trans hB hdr.size
  have Hdr := hid hdr
  clear hQ hC hT hdr
  conv => arg 2; whnf
  rw [fr211]
  simp only [s0, s1]
  clear s0 s1
  refine wp_region_can 15 [7] [0, 1, 2, 3, 4, 5, 6, 7, 8, 9, 10, 11, 12, 13, 14] (fun u u' => u'.heap[X]? = u.heap[X]? ∧ u'.heap[Ty]? = u.heap[Ty]?) (fun _ => ⟨rfl, rfl⟩) (fun _ _ _ h k => ⟨k.1.trans h.1, k.2.trans h.2⟩) (by kernel_rfl) (by kernel_rfl) ?_
  simp only [List.map_cons, List.map_nil, List.contains_cons, List.contains_nil, List.getD_cons_zero, List.getD_cons_succ, Nat.reduceBEq, Bool.or_false]
  generalize w.drew = U at *
  obtain ⟨bn, hbn⟩ : ∃ bn, bn = A.db.length := ⟨_, rfl⟩
  obtain ⟨wa0, hwa⟩ : ∃ a, a = A.da := ⟨_, rfl⟩
  obtain ⟨wc0, hwc⟩ : ∃ a, a = A.dc := ⟨_, rfl⟩
  have ld0 : ∀ w' : World, (w'.heap[X]? = U.heap[X]? ∧ w'.heap[Ty]? = U.heap[Ty]?) → w'.cell? ⟨X, 27, none⟩ = some (.slice wa0 bn wc0) := fun w' h => by rw [hbn, hwa, hwc]; exact (box_27 (h.1.trans HC.out.bx)).1
  have ld1 : ∀ w' : World, (w'.heap[X]? = U.heap[X]? ∧ w'.heap[Ty]? = U.heap[Ty]?) → w'.cell? ⟨Ty, 0, none⟩ = some (.int .i64 (d : Int)) := fun w' h => by rw [cell_of_row _ _ _ _ _ _ (h.2.trans HT.out)]; rfl
  have ld2 : ∀ w' : World, (w'.heap[X]? = U.heap[X]? ∧ w'.heap[Ty]? = U.heap[Ty]?) → (Instr.loadAt 41 (.pointer (some ⟨Ty, 0, none⟩))).run Try.prog w' = .ok (.agg #[.int .i64 (d : Int), .int .i64 (u : Int), .int .i64 q, .int .i64 lo, .int .i64 cp]) w' := fun w' h => by
    obtain ⟨ud, hud⟩ : ∃ ud, Try.prog.underlying 41 = some (.struct ud) := ⟨_, Try.underlying41⟩
    exact run_loadAt_mid w' Ty 0 41 [.int .i64 (d : Int), .int .i64 (u : Int), .int .i64 q, .int .i64 lo, .int .i64 cp] (.struct ud) (range_row (a := []) (z := []) (h.2.trans HT.out)) hud rfl (by kernel_rfl)
  have hcm := hid (comes_ok D hD B wa0 wc0 A.db d d u q lo cp U (by rw [hwa, hwc]; exact HC.out.dn) hB2 hN hl hq)
  rw [← hbn] at hcm
  have Hbn := hid hbn
  have Hwa := hid hwa
  have Hwc := hid hwc
  clear hbn hwa hwc
  iterate 6 (refine wpL_do rfl (fun w' hw' => (by go_simp; rfl)) ?_; simp only [Act.put, List.setIfInBounds_toArray, List.set_cons_succ, List.set_cons_zero])
  refine wpL_load 41 _ ⟨Ty, 0, none⟩ _ rfl rfl rfl ld2 ?_
  simp only [Act.put, List.setIfInBounds_toArray, List.set_cons_succ, List.set_cons_zero]
  refine wpL_call rfl (fun K hK => ?_)
  go_wp2_with ((go_at_call 14; refine hcm.out.mono ?_))
  rintro e W1 ⟨⟨la, lc, vs, wa, wc, bs, rfl, hnr, hvv, hvk, hwy, hbk, hob⟩, hb⟩
  have hXs : W1.heap[X]? = U.heap[X]? := hb.block X (row_lt HC.out.bx)
  have hTs : W1.heap[Ty]? = U.heap[Ty]? := hb.block Ty (row_lt HT.out)
  clear ld0 ld1 ld2 hcm
  have HF : Hid (CamP D w W1 B (dvl A).ownBlock (comesL (pkF q) (btF cp) (btF lo) 0 d (A.db.map (·.k))) (.slice la vs.length lc) (.slice wa bs.length wc)) := hid ⟨⟨la, lc, vs, wa, wc, bs, rfl, rfl, ⟨ownsRow_mono hnr.ow Hdr.out.size, hnr.ns⟩, hvv, hvk, hwy, hbk, by
    rcases hob with e | e
    · exact .inl (e.trans (by rw [Hbn.out, Hwa.out, Hwc.out]))
    · exact .inr fun n hn => Nat.le_trans Hdr.out.size (e n hn)⟩, Hdr.out.trans (hb.mono Hdr.out.size)⟩
  clear hnr hvv hvk hwy hbk hob hb
  obtain ⟨vn, hvn⟩ : ∃ vn, vn = vs.length := ⟨_, rfl⟩
  obtain ⟨bn2, hbn2⟩ : ∃ bn2, bn2 = bs.length := ⟨_, rfl⟩
  rw [← hvn, ← hbn2] at HF ⊢
  clear hvn hbn2
  go_wp2_with fail
  refine hK _ _ ⟨hXs, hTs⟩ ?_
  clear hK K
  try simp only [Act.put, List.setIfInBounds_toArray, List.set_cons_succ, List.set_cons_zero]
  iterate 7 (refine wpL_do rfl (fun w' hw' => (by go_simp; rfl)) ?_; simp only [Act.put, List.setIfInBounds_toArray, List.set_cons_succ, List.set_cons_zero])
  refine wpL_nil ?_
  exact q_fr (N := 211) HQ.out rfl ⟨⟨S0.out.symm, S1.out.symm, rfl⟩, rfl, HF.out⟩
set_option maxRecDepth 1000000 in
set_option maxHeartbeats 8000000 in
theorem tick_c12 (D : DP) (X B : Nat) (g : GS) (t : TS) (A : CA) (W0 : World) (wa : Option Addr) (wc : Nat) (bs : List BV) :
    Tri Try.prog 211 (pieceOf Try.f7 [1, 1, 1, 1, 1, 1, 1, 1, 1, 1, 0]) (fun z w => z 0 = .pointer (some ⟨X, 0, none⟩) ∧ z 14 = .slice wa bs.length wc ∧ CB D W0 X B g t A ∧ Below W0.heap.size W0 w ∧ Way D w B wa wc bs ∧ (obk wa bs.length wc = (dvl A).ownBlock ∨ ∀ n, obk wa bs.length wc = some n → W0.heap.size ≤ n))
      (fun z w z' w' => (z' 0 = z 0 ∧ z' 3 = z 3 ∧ z' 9 = z 9 ∧ z' 11 = z 11 ∧ z' 13 = z 13) ∧ CB D w' X B g t (A.dn wa wc bs) ∧ Kp B W0 w' ∧ Kp B w w') := by
  rintro Q z w ⟨s0, s1, hC, hb, hw, ho⟩ hQ
  have HQ := hid hQ
  have S0 := hid s0
  have hC1 := hC.below hb
  have c0 := (box_27 hC1.bx).1
  have fz := frozen_row hC1.bx 27
  have HF := hid (hC.cameD hb hw ho)
  clear hQ hC hb hw ho hC1
  conv => arg 2; whnf
  rw [fr211]
  simp only [s0, s1]
  clear s0 s1
  go_wp2_with fail
  refine q_fr (N := 211) HQ.out rfl ⟨⟨S0.out.symm, rfl, rfl, rfl, rfl⟩, HF.out⟩

set_option maxRecDepth 1000000 in
set_option maxHeartbeats 8000000 in
theorem tick_c20 (D : DP) (hD : DOk D) (X B Ty : Nat) (g : GS) (t : TS) (A : CA) (d u : Nat) (q lo cp : Int) (hN : u ≤ 1000) (hl : A.ub.length ≤ 100000) (hq : -9223372036854775808 ≤ q ∧ q ≤ 9223372036854775807) :
    Tri Try.prog 211 (pieceOf Try.f7 [1, 1, 1, 1, 1, 1, 1, 1, 1, 1, 1, 1, 0]) (fun z w => z 0 = .pointer (some ⟨X, 0, none⟩) ∧ z 3 = .pointer (some ⟨Ty, 0, none⟩) ∧ CB D w X B g t A ∧ w.heap[Ty]? = some (.cells #[.int .i64 (d : Int), .int .i64 (u : Int), .int .i64 q, .int .i64 lo, .int .i64 cp] 41) ∧ B ≤ w.heap.size)
      (fun z w z' w' => (z' 0 = z 0 ∧ z' 3 = z 3 ∧ z' 11 = z 11) ∧ z' 12 = .bool true ∧ CamP D w w' B (uvl A).ownBlock (comesL (pkF q) (btF cp) (btF lo) 0 u (A.ub.map (·.k))) (z' 17) (z' 18)) := by
  rintro Q z w ⟨s0, s1, hC, hT, hB⟩ hQ
  have HQ := hid hQ
  have S0 := hid s0
  have S1 := hid s1
  refine Hid.out (hid ?_)
  have hdr := (Below.refl w.heap.size w).drew
  have HC := hid (hC.below hdr)
  have HT := hid (row_below hT hdr)
  have hB2 : B ≤ w.drew.heap.size := Nat.le_trans hB hdr.size
  have Hdr := hid hdr
  clear hQ hC hT hdr
  conv => arg 2; whnf
  rw [fr211]
  simp only [s0, s1]
  clear s0 s1
  refine wp_region_can 15 [7] [0, 1, 2, 3, 4, 5, 6, 7, 8, 9, 10, 11, 12, 13, 14] (fun u u' => u'.heap[X]? = u.heap[X]? ∧ u'.heap[Ty]? = u.heap[Ty]?) (fun _ => ⟨rfl, rfl⟩) (fun _ _ _ h k => ⟨k.1.trans h.1, k.2.trans h.2⟩) (by kernel_rfl) (by kernel_rfl) ?_
  simp only [List.map_cons, List.map_nil, List.contains_cons, List.contains_nil, List.getD_cons_zero, List.getD_cons_succ, Nat.reduceBEq, Bool.or_false]
  generalize w.drew = U at *
  obtain ⟨bn, hbn⟩ : ∃ bn, bn = A.ub.length := ⟨_, rfl⟩
  obtain ⟨wa0, hwa⟩ : ∃ a, a = A.ua := ⟨_, rfl⟩
  obtain ⟨wc0, hwc⟩ : ∃ a, a = A.uc := ⟨_, rfl⟩
  have ld0 : ∀ w' : World, (w'.heap[X]? = U.heap[X]? ∧ w'.heap[Ty]? = U.heap[Ty]?) → w'.cell? ⟨X, 28, none⟩ = some (.slice wa0 bn wc0) := fun w' h => by rw [hbn, hwa, hwc]; exact (box_27 (h.1.trans HC.out.bx)).2
  have ld1 : ∀ w' : World, (w'.heap[X]? = U.heap[X]? ∧ w'.heap[Ty]? = U.heap[Ty]?) → w'.cell? ⟨Ty, 1, none⟩ = some (.int .i64 (u : Int)) := fun w' h => by rw [cell_of_row _ _ _ _ _ _ (h.2.trans HT.out)]; rfl
  have ld2 : ∀ w' : World, (w'.heap[X]? = U.heap[X]? ∧ w'.heap[Ty]? = U.heap[Ty]?) → (Instr.loadAt 41 (.pointer (some ⟨Ty, 0, none⟩))).run Try.prog w' = .ok (.agg #[.int .i64 (d : Int), .int .i64 (u : Int), .int .i64 q, .int .i64 lo, .int .i64 cp]) w' := fun w' h => by
    obtain ⟨ud, hud⟩ : ∃ ud, Try.prog.underlying 41 = some (.struct ud) := ⟨_, Try.underlying41⟩
    exact run_loadAt_mid w' Ty 0 41 [.int .i64 (d : Int), .int .i64 (u : Int), .int .i64 q, .int .i64 lo, .int .i64 cp] (.struct ud) (range_row (a := []) (z := []) (h.2.trans HT.out)) hud rfl (by kernel_rfl)
  have hcm := hid (comes_ok D hD B wa0 wc0 A.ub u d u q lo cp U (by rw [hwa, hwc]; exact HC.out.up) hB2 hN hl hq)
  rw [← hbn] at hcm
  have Hbn := hid hbn
  have Hwa := hid hwa
  have Hwc := hid hwc
  clear hbn hwa hwc
  iterate 6 (refine wpL_do rfl (fun w' hw' => (by go_simp; rfl)) ?_; simp only [Act.put, List.setIfInBounds_toArray, List.set_cons_succ, List.set_cons_zero])
  refine wpL_load 41 _ ⟨Ty, 0, none⟩ _ rfl rfl rfl ld2 ?_
  simp only [Act.put, List.setIfInBounds_toArray, List.set_cons_succ, List.set_cons_zero]
  refine wpL_call rfl (fun K hK => ?_)
  go_wp2_with ((go_at_call 14; refine hcm.out.mono ?_))
  rintro e W1 ⟨⟨la, lc, vs, wa, wc, bs, rfl, hnr, hvv, hvk, hwy, hbk, hob⟩, hb⟩
  have hXs : W1.heap[X]? = U.heap[X]? := hb.block X (row_lt HC.out.bx)
  have hTs : W1.heap[Ty]? = U.heap[Ty]? := hb.block Ty (row_lt HT.out)
  clear ld0 ld1 ld2 hcm
  have HF : Hid (CamP D w W1 B (uvl A).ownBlock (comesL (pkF q) (btF cp) (btF lo) 0 u (A.ub.map (·.k))) (.slice la vs.length lc) (.slice wa bs.length wc)) := hid ⟨⟨la, lc, vs, wa, wc, bs, rfl, rfl, ⟨ownsRow_mono hnr.ow Hdr.out.size, hnr.ns⟩, hvv, hvk, hwy, hbk, by
    rcases hob with e | e
    · exact .inl (e.trans (by rw [Hbn.out, Hwa.out, Hwc.out]))
    · exact .inr fun n hn => Nat.le_trans Hdr.out.size (e n hn)⟩, Hdr.out.trans (hb.mono Hdr.out.size)⟩
  clear hnr hvv hvk hwy hbk hob hb
  obtain ⟨vn, hvn⟩ : ∃ vn, vn = vs.length := ⟨_, rfl⟩
  obtain ⟨bn2, hbn2⟩ : ∃ bn2, bn2 = bs.length := ⟨_, rfl⟩
  rw [← hvn, ← hbn2] at HF ⊢
  clear hvn hbn2
  go_wp2_with fail
  refine hK _ _ ⟨hXs, hTs⟩ ?_
  clear hK K
  try simp only [Act.put, List.setIfInBounds_toArray, List.set_cons_succ, List.set_cons_zero]
  iterate 7 (refine wpL_do rfl (fun w' hw' => (by go_simp; rfl)) ?_; simp only [Act.put, List.setIfInBounds_toArray, List.set_cons_succ, List.set_cons_zero])
  refine wpL_nil ?_
  exact q_fr (N := 211) HQ.out rfl ⟨⟨S0.out.symm, S1.out.symm, rfl⟩, rfl, HF.out⟩
set_option maxRecDepth 1000000 in
set_option maxHeartbeats 8000000 in
theorem tick_c21 (D : DP) (X B : Nat) (g : GS) (t : TS) (A : CA) (W0 : World) (wa : Option Addr) (wc : Nat) (bs : List BV) :
    Tri Try.prog 211 (pieceOf Try.f7 [1, 1, 1, 1, 1, 1, 1, 1, 1, 1, 1, 1, 1, 0]) (fun z w => z 0 = .pointer (some ⟨X, 0, none⟩) ∧ z 18 = .slice wa bs.length wc ∧ CB D W0 X B g t A ∧ Below W0.heap.size W0 w ∧ Way D w B wa wc bs ∧ (obk wa bs.length wc = (uvl A).ownBlock ∨ ∀ n, obk wa bs.length wc = some n → W0.heap.size ≤ n))
      (fun z w z' w' => (z' 0 = z 0 ∧ z' 3 = z 3 ∧ z' 11 = z 11 ∧ z' 12 = z 12 ∧ z' 17 = z 17) ∧ CB D w' X B g t (A.up wa wc bs) ∧ Kp B W0 w' ∧ Kp B w w') := by
  rintro Q z w ⟨s0, s1, hC, hb, hw, ho⟩ hQ
  have HQ := hid hQ
  have S0 := hid s0
  have hC1 := hC.below hb
  have c0 := (box_27 hC1.bx).2
  have fz := frozen_row hC1.bx 28
  have HF := hid (hC.cameU hb hw ho)
  clear hQ hC hb hw ho hC1
  conv => arg 2; whnf
  rw [fr211]
  simp only [s0, s1]
  clear s0 s1
  go_wp2_with fail
  refine q_fr (N := 211) HQ.out rfl ⟨⟨S0.out.symm, rfl, rfl, rfl, rfl⟩, HF.out⟩

end Go.Proofs.Ytopmamgdfngdoaa
/- deliver: the taker takes, the giver hears (printed by gentk7.py). -/
namespace Go.Proofs.Ytopmamgdfngdoaa
set_option linter.unusedVariables false
open Go.RowKit
theorem xbl_len (gl tl : List Value) (d u : Value) : (xbl gl tl d u).length = gl.length + (tl.length + 2) := by
  unfold xbl
  rw [List.length_append, List.length_append]
  rfl

set_option maxRecDepth 1000000 in
set_option maxHeartbeats 8000000 in
theorem tick_t17 (D : DP) (hD : DOk D) (hSum : SumOk D) (X B B2 : Nat) (g : GS) (t : TS) (A : CA) (gs ts : Nat) (la : Option Addr) (lc : Nat) (vs : List NV) (k : Nat) (hk : k < vs.length) (hk1 : vs.length ≤ 100000) (hT : TI D.P t) (hvk : vD D.P gs (vs[k].k)) :
    Tri Try.prog 211 (pieceOf Try.f7 [1, 1, 1, 1, 1, 1, 1, 1, 1, 1, 1, 0, 1, 0, 0, 1, 0, 0, 1, 0]) (fun z w => z 0 = .pointer (some ⟨X, 0, none⟩) ∧ z 13 = .slice la vs.length lc ∧ z 15 = .int .i64 (k : Int) ∧ CB D w X B g t A ∧ NRow D w B2 la lc vs)
      (fun z w z' w' => (z' 0 = z 0 ∧ z' 3 = z 3 ∧ z' 11 = z 11 ∧ z' 13 = z 13 ∧ z' 15 = z 15) ∧ z' 7 = .int .i64 0 ∧ ∃ a1 c1 a2 c2 oa oc ws, z' 16 = .slice oa (ws : List NV).length oc ∧ CB D w' X B g (takeT D.P t (vs[k].k)).1 (A.tak a1 c1 a2 c2) ∧ NRow D w' w.heap.size oa oc ws ∧ ws.map (·.k) = (takeT D.P t (vs[k].k)).2 ∧ Kp B w w') := by
  rintro Q z w ⟨s0, s1, s2, hC, hN⟩ hQ
  have HQ := hid hQ
  have S0 := hid s0
  have S1 := hid s1
  have S2 := hid s2
  refine Hid.out (hid ?_)
  have hdr := (Below.refl w.heap.size w).drew
  have HC := hid (hC.below hdr)
  have HN := hid (hN.below hdr)
  have Hdr := hid hdr
  have hBw := hC.hB
  clear hQ hC hN hdr
  obtain ⟨gb, hg⟩ : ∃ g, la = some ⟨g, 0, none⟩ := by
    rcases HN.out.ow.2 with ⟨_, h0⟩ | ⟨g, cap, cur, hv, _⟩
    · omega
    · injection hv with hv
      exact ⟨g, hv⟩
  subst hg
  obtain ⟨v, hve⟩ : ∃ v, v = vs[k] := ⟨_, rfl⟩
  have hvm : v ∈ vs := by rw [hve]; exact List.getElem_mem hk
  have hlt : k * 10 < vs.length * 10 := by omega
  rw [← hve] at hvk
  conv => arg 2; whnf
  rw [fr211]
  simp only [s0, s1, s2]
  clear s0 s1 s2
  refine wp_region_late [16] [9, 16] [(true, [0, 1, 2, 3, 4, 5, 6, 7, 8, 9]), (false, [10, 11, 12, 13, 14, 15, 16, 17, 18])] (fun u u' => u'.heap[X]? = u.heap[X]? ∧ u'.heap[gb]? = u.heap[gb]?) (fun _ _ => True) (fun _ => ⟨rfl, rfl⟩) (fun _ _ _ h k => ⟨k.1.trans h.1, k.2.trans h.2⟩) (fun _ => trivial) (fun _ _ _ _ _ => trivial) (fun _ _ _ => trivial) (by kernel_rfl) (by kernel_rfl) ?_
  simp only [wpPh, List.map_cons, List.map_nil, List.contains_cons, List.contains_nil, List.getD_cons_zero, List.getD_cons_succ, Nat.reduceBEq, Bool.or_false, Bool.or_true]
  generalize w.drew = U at *
  have hrg : U.rangeAt gb (k * 10) (ncl D v) := fun j u hj => by
    have hj2 := (List.getElem?_eq_some_iff.1 hj).1
    rw [ncl_len] at hj2
    have hle : k * 10 + j < vs.length * 10 := by omega
    rw [HN.out.ow.cellAt (k * 10 + j) hle, flat_at (ncl D) 10 (ncl_len D) vs k hk j hj2, ← hve]
    exact hj
  have hgb : gb < U.heap.size := (HN.out.ow.lt gb (by rfl)).2
  obtain ⟨tl, htl⟩ : ∃ tl, tl = tcX D t A := ⟨_, rfl⟩
  have htn : tl.length = 14 := by rw [htl]; rfl
  have ld0 : ∀ w' : World, (w'.heap[X]? = U.heap[X]? ∧ w'.heap[gb]? = U.heap[gb]?) → (Instr.loadAt 33 (.pointer (some ⟨X, 13, none⟩))).run Try.prog w' = .ok (.agg tl.toArray) w' := fun w' h => by
    obtain ⟨ud, hud⟩ : ∃ ud, Try.prog.underlying 33 = some (.struct ud) := ⟨_, Try.underlying33⟩
    exact run_loadAt_mid w' X 13 33 tl (.struct ud) (by rw [htl]; exact rng_tak (h.1.trans HC.out.bx) (gcX_len D g A)) hud rfl (by rw [htn]; kernel_rfl)
  obtain ⟨cs, hcs⟩ : ∃ cs, cs = ncl D v := ⟨_, rfl⟩
  have hcl : cs.length = 10 := by rw [hcs]; rfl
  have ld1 : ∀ w' : World, (w'.heap[X]? = U.heap[X]? ∧ w'.heap[gb]? = U.heap[gb]?) → (Instr.loadAt 60 (.pointer (some ⟨gb, k * 10, none⟩))).run Try.prog w' = .ok (.agg cs.toArray) w' := fun w' h => by
    obtain ⟨ud, hud⟩ : ∃ ud, Try.prog.underlying 60 = some (.struct ud) := ⟨_, Try.underlying60⟩
    exact run_loadAt_mid w' gb (k * 10) 60 cs (.struct ud) (by rw [hcs]; exact fun j u hj => (World.cell?_of_block (a := ⟨gb, k * 10 + j, none⟩) h.2).trans (hrg j u hj)) hud rfl (by rw [hcl]; kernel_rfl)
  have hcall := hid (show Calls Try.prog 15 #[.agg (tcX D t A).toArray, .agg (ncl D v).toArray] U (fun e w' => TakeR D U w' (takeT D.P t v.k).1 (takeT D.P t v.k).2 e) from Take_ok D hD hSum t A.ha A.hc A.fa A.fc v gs U hT HC.out.tk hvk (HN.out.ns v hvm))
  rw [← htl, ← hcs] at hcall
  have Htl := hid htl
  have Hve := hid hve
  clear htl hcs hrg hve
  obtain ⟨vn, hvn⟩ : ∃ vn, vn = vs.length := ⟨_, rfl⟩
  have hkI : (k : Int) < (vn : Int) := by omega
  have hkn : k < vn := by omega
  have hk0' : (0 : Int) ≤ (k : Int) := by omega
  rw [← hvn]
  clear hlt
  iterate 4 (refine wpL_do rfl (fun w' hw' => (by go_simp; rfl)) ?_; simp only [Act.put, List.setIfInBounds_toArray, List.set_cons_succ, List.set_cons_zero])
  refine wpL_load 33 _ ⟨X, 13, none⟩ _ rfl rfl rfl ld0 ?_
  simp only [Act.put, List.setIfInBounds_toArray, List.set_cons_succ, List.set_cons_zero]
  iterate 3 (refine wpL_do rfl (fun w' hw' => (by go_simp; rfl)) ?_; simp only [Act.put, List.setIfInBounds_toArray, List.set_cons_succ, List.set_cons_zero])
  refine wpL_load 60 _ ⟨gb, k * 10, none⟩ _ rfl rfl rfl ld1 ?_
  simp only [Act.put, List.setIfInBounds_toArray, List.set_cons_succ, List.set_cons_zero]
  clear ld0 ld1
  refine wpL_call rfl (fun K hK => ?_)
  go_wp2_with ((go_at_call 15; refine hcall.out.mono ?_))
  rintro e W1 ⟨⟨a1, c1, a2, c2, oa, oc, ws, he, hM', hN', hk'⟩, hb⟩
  have hXs : W1.heap[X]? = U.heap[X]? := hb.block X (row_lt HC.out.bx)
  have hgs : W1.heap[gb]? = U.heap[gb]? := hb.block gb hgb
  clear hcall
  obtain ⟨t2, ht2⟩ : ∃ t2, t2 = (takeT D.P t v.k).1 := ⟨_, rfl⟩
  rw [← ht2] at he hM'
  obtain ⟨tl2, htl2⟩ : ∃ tl2, tl2 = (tcells D t2 a1 t2.hv.length c1 a2 (topH t2.hv) c2).toList := ⟨_, rfl⟩
  have htn2 : tl2.length = 14 := by rw [htl2]; rfl
  have he2 : e = .returned (.tuple #[.agg tl2.toArray, .slice oa ws.length oc, .int .i64 0]) := by rw [he, htl2]
  subst he2
  have HC1 := HC.out.below hb
  have ht : W1.there X 13 tl2.toArray.size := there_row HC1.bx 13 _ (by rw [xbl_len, gcX_len, tcX_len]; show 13 + tl2.length ≤ _; omega)
  have hi : (Try.prog.info? 33).map (·.size) = some tl2.toArray.size := by
    show _ = some tl2.length
    rw [htn2]
    kernel_rfl
  have h1 : tl2.toArray.all (·.oneCell') = true := by
    rw [htl2]
    unfold tcells
    simp [Value.oneCell']
  have hset := set_tak (tl' := tl2) HC1.bx (gcX_len D g A) (by rw [tcX_len, htn2])
  have hkp1 : Kp B U W1 := Kp.ofBelow hb HC.out.hB
  have hst : ∀ T, T ≠ 39 → Stays T W1 (W1.setCells X 13 tl2) := fun T hT => Stays.ofSet hset.2 HC1.bx hT
  have hkp2 : Kp B U (W1.setCells X 13 tl2) := hkp1.trans ⟨hset.2.size, fun T a b => hst T a, (Below.refl B W1).grown hset.2 HC1.hB (fun k e => by cases e; exact HC1.bX)⟩
  have h22 : Stays 22 U (W1.setCells X 13 tl2) := (Stays.ofBelow hb : Stays 22 U W1).trans (hst 22 (by decide))
  have hM2 := hM'.stays (hst 5 (by decide)) (hst 84 (by decide))
  have hset1 := hset.1
  rw [htl2] at hset1
  have HCB := hid (HC.out.taken (W1 := W1.setCells X 13 tl2) hkp2 (by rw [htl2]; exact hset1) h22 hM2)
  have HNR : Hid (NRow D (W1.setCells X 13 tl2) w.heap.size oa oc ws) := hid ⟨ownsRow_mono (own_stays hN'.ow (hst 60 (by decide))) Hdr.out.size, fun u hu => (hN'.ns u hu).stays (hst 5 (by decide)) (hst 84 (by decide))⟩
  have HKP := hid ((Kp.ofBelow Hdr.out hBw).trans hkp2)
  have HWK := hid hk'
  clear hset hset1 hkp1 hkp2 hst h22 hM2 hM' hN' hk' hb HC1 htl2 he Htl
  obtain ⟨wn, hwn⟩ : ∃ wn, wn = ws.length := ⟨_, rfl⟩
  rw [← hwn]
  have Hwn := hid hwn
  clear hwn
  have Ht2 := hid ht2
  clear ht2
  go_wp2_with fail
  refine hK _ _ ⟨hXs, hgs⟩ ?_
  clear hK K hXs hgs
  try simp only [Act.put, List.setIfInBounds_toArray, List.set_cons_succ, List.set_cons_zero]
  refine wpL_nil ?_
  iterate 6 (refine wpL_do rfl (fun w' hw' => (by go_simp; rfl)) ?_; simp only [Act.put, List.setIfInBounds_toArray, List.set_cons_succ, List.set_cons_zero])
  refine wpL_call rfl (fun K hK => ?_)
  refine wp_store_mid 33 _ _ rfl X 13 tl2.toArray rfl rfl ht hi h1 ?_
  rw [show tl2.toArray.toList = tl2 from rfl]
  generalize W1.setCells X 13 tl2 = W2 at *
  refine hK _ _ trivial ?_
  clear hK K
  try simp only [Act.put]
  iterate 2 (refine wpL_do rfl (fun w' hw' => (by go_simp; rfl)) ?_; simp only [Act.put, List.setIfInBounds_toArray, List.set_cons_succ, List.set_cons_zero])
  refine wpL_nil ?_
  refine q_fr (N := 211) HQ.out rfl ⟨⟨S0.out.symm, rfl, rfl, S1.out.symm, S2.out.symm⟩, rfl, a1, c1, a2, c2, oa, oc, ws, by rw [← Hwn.out]; rfl, ?_, HNR.out, ?_, HKP.out⟩
  · rw [← Hve.out, ← Ht2.out]; exact HCB.out
  · rw [← Hve.out]; exact HWK.out

set_option maxRecDepth 1000000 in
set_option maxHeartbeats 8000000 in
theorem tick_t26 (D : DP) (hD : DOk D) (X B B2 : Nat) (g : GS) (t : TS) (A : CA) (gs ts : Nat) (la : Option Addr) (lc : Nat) (vs : List NV) (k : Nat) (hk : k < vs.length) (hk1 : vs.length ≤ 100000) (hG : GI D.P g) (hG' : (replyG D.P g (vs[k].k)).1.ag.length ≤ 1000) (hvk : vU D.P gs ts (vs[k].k)) :
    Tri Try.prog 211 (pieceOf Try.f7 [1, 1, 1, 1, 1, 1, 1, 1, 1, 1, 1, 1, 1, 1, 0, 1, 0, 0, 1, 0, 0, 1, 0]) (fun z w => z 0 = .pointer (some ⟨X, 0, none⟩) ∧ z 17 = .slice la vs.length lc ∧ z 19 = .int .i64 (k : Int) ∧ CB D w X B g t A ∧ NRow D w B2 la lc vs)
      (fun z w z' w' => (z' 0 = z 0 ∧ z' 3 = z 3 ∧ z' 11 = z 11 ∧ z' 12 = z 12 ∧ z' 17 = z 17 ∧ z' 19 = z 19) ∧ z' 7 = .int .i64 0 ∧ ∃ a1 c1 a2 c2 oa oc ws, z' 20 = .slice oa (ws : List NV).length oc ∧ CB D w' X B (replyG D.P g (vs[k].k)).1 t (A.giv a1 c1 a2 c2) ∧ NRow D w' w.heap.size oa oc ws ∧ ws.map (·.k) = (replyG D.P g (vs[k].k)).2 ∧ Kp B w w') := by
  rintro Q z w ⟨s0, s1, s2, hC, hN⟩ hQ
  have HQ := hid hQ
  have S0 := hid s0
  have S1 := hid s1
  have S2 := hid s2
  refine Hid.out (hid ?_)
  have hdr := (Below.refl w.heap.size w).drew
  have HC := hid (hC.below hdr)
  have HN := hid (hN.below hdr)
  have Hdr := hid hdr
  have hBw := hC.hB
  clear hQ hC hN hdr
  obtain ⟨gb, hg⟩ : ∃ g, la = some ⟨g, 0, none⟩ := by
    rcases HN.out.ow.2 with ⟨_, h0⟩ | ⟨g, cap, cur, hv, _⟩
    · omega
    · injection hv with hv
      exact ⟨g, hv⟩
  subst hg
  obtain ⟨v, hve⟩ : ∃ v, v = vs[k] := ⟨_, rfl⟩
  have hvm : v ∈ vs := by rw [hve]; exact List.getElem_mem hk
  have hlt : k * 10 < vs.length * 10 := by omega
  rw [← hve] at hvk hG'
  conv => arg 2; whnf
  rw [fr211]
  simp only [s0, s1, s2]
  clear s0 s1 s2
  refine wp_region_late [16] [9, 16] [(true, [0, 1, 2, 3, 4, 5, 6, 7, 8, 9]), (false, [10, 11, 12, 13, 14, 15, 16, 17, 18])] (fun u u' => u'.heap[X]? = u.heap[X]? ∧ u'.heap[gb]? = u.heap[gb]?) (fun _ _ => True) (fun _ => ⟨rfl, rfl⟩) (fun _ _ _ h k => ⟨k.1.trans h.1, k.2.trans h.2⟩) (fun _ => trivial) (fun _ _ _ _ _ => trivial) (fun _ _ _ => trivial) (by kernel_rfl) (by kernel_rfl) ?_
  simp only [wpPh, List.map_cons, List.map_nil, List.contains_cons, List.contains_nil, List.getD_cons_zero, List.getD_cons_succ, Nat.reduceBEq, Bool.or_false, Bool.or_true]
  generalize w.drew = U at *
  have hrg : U.rangeAt gb (k * 10) (ncl D v) := fun j u hj => by
    have hj2 := (List.getElem?_eq_some_iff.1 hj).1
    rw [ncl_len] at hj2
    have hle : k * 10 + j < vs.length * 10 := by omega
    rw [HN.out.ow.cellAt (k * 10 + j) hle, flat_at (ncl D) 10 (ncl_len D) vs k hk j hj2, ← hve]
    exact hj
  have hgb : gb < U.heap.size := (HN.out.ow.lt gb (by rfl)).2
  obtain ⟨tl, htl⟩ : ∃ tl, tl = gcX D g A := ⟨_, rfl⟩
  have htn : tl.length = 13 := by rw [htl]; rfl
  have ld0 : ∀ w' : World, (w'.heap[X]? = U.heap[X]? ∧ w'.heap[gb]? = U.heap[gb]?) → (Instr.loadAt 28 (.pointer (some ⟨X, 0, none⟩))).run Try.prog w' = .ok (.agg tl.toArray) w' := fun w' h => by
    obtain ⟨ud, hud⟩ : ∃ ud, Try.prog.underlying 28 = some (.struct ud) := ⟨_, Try.underlying28⟩
    exact run_loadAt_mid w' X 0 28 tl (.struct ud) (by rw [htl]; exact rng_giv (h.1.trans HC.out.bx)) hud rfl (by rw [htn]; kernel_rfl)
  obtain ⟨cs, hcs⟩ : ∃ cs, cs = ncl D v := ⟨_, rfl⟩
  have hcl : cs.length = 10 := by rw [hcs]; rfl
  have ld1 : ∀ w' : World, (w'.heap[X]? = U.heap[X]? ∧ w'.heap[gb]? = U.heap[gb]?) → (Instr.loadAt 60 (.pointer (some ⟨gb, k * 10, none⟩))).run Try.prog w' = .ok (.agg cs.toArray) w' := fun w' h => by
    obtain ⟨ud, hud⟩ : ∃ ud, Try.prog.underlying 60 = some (.struct ud) := ⟨_, Try.underlying60⟩
    exact run_loadAt_mid w' gb (k * 10) 60 cs (.struct ud) (by rw [hcs]; exact fun j u hj => (World.cell?_of_block (a := ⟨gb, k * 10 + j, none⟩) h.2).trans (hrg j u hj)) hud rfl (by rw [hcl]; kernel_rfl)
  have hcall := hid (show Calls Try.prog 16 #[.agg (gcX D g A).toArray, .agg (ncl D v).toArray] U (fun e w' => GiveR D U w' (replyG D.P g v.k).1 (replyG D.P g v.k).2 e) from Reply_ok D hD g A.ga A.gc A.aa A.ac v gs ts U hG hG' HC.out.gv hvk (HN.out.ns v hvm))
  rw [← htl, ← hcs] at hcall
  have Htl := hid htl
  have Hve := hid hve
  clear htl hcs hrg hve
  obtain ⟨vn, hvn⟩ : ∃ vn, vn = vs.length := ⟨_, rfl⟩
  have hkI : (k : Int) < (vn : Int) := by omega
  have hkn : k < vn := by omega
  have hk0' : (0 : Int) ≤ (k : Int) := by omega
  rw [← hvn]
  clear hlt
  iterate 4 (refine wpL_do rfl (fun w' hw' => (by go_simp; rfl)) ?_; simp only [Act.put, List.setIfInBounds_toArray, List.set_cons_succ, List.set_cons_zero])
  refine wpL_load 28 _ ⟨X, 0, none⟩ _ rfl rfl rfl ld0 ?_
  simp only [Act.put, List.setIfInBounds_toArray, List.set_cons_succ, List.set_cons_zero]
  iterate 3 (refine wpL_do rfl (fun w' hw' => (by go_simp; rfl)) ?_; simp only [Act.put, List.setIfInBounds_toArray, List.set_cons_succ, List.set_cons_zero])
  refine wpL_load 60 _ ⟨gb, k * 10, none⟩ _ rfl rfl rfl ld1 ?_
  simp only [Act.put, List.setIfInBounds_toArray, List.set_cons_succ, List.set_cons_zero]
  clear ld0 ld1
  refine wpL_call rfl (fun K hK => ?_)
  go_wp2_with ((go_at_call 16; refine hcall.out.mono ?_))
  rintro e W1 ⟨⟨a1, c1, a2, c2, oa, oc, ws, he, hM', hN', hk', hng⟩, hb⟩
  have hXs : W1.heap[X]? = U.heap[X]? := hb.block X (row_lt HC.out.bx)
  have hgs : W1.heap[gb]? = U.heap[gb]? := hb.block gb hgb
  clear hcall
  obtain ⟨t2, ht2⟩ : ∃ t2, t2 = (replyG D.P g v.k).1 := ⟨_, rfl⟩
  rw [← ht2] at he hM'
  obtain ⟨tl2, htl2⟩ : ∃ tl2, tl2 = (gcells D t2 a1 D.P.F c1 a2 t2.ag.length c2).toList := ⟨_, rfl⟩
  have htn2 : tl2.length = 13 := by rw [htl2]; rfl
  have he2 : e = .returned (.tuple #[.agg tl2.toArray, .slice oa ws.length oc, .int .i64 0]) := by rw [he, htl2]
  subst he2
  have HC1 := HC.out.below hb
  have ht : W1.there X 0 tl2.toArray.size := there_row HC1.bx 0 _ (by rw [xbl_len, gcX_len, tcX_len]; show 0 + tl2.length ≤ _; omega)
  have hi : (Try.prog.info? 28).map (·.size) = some tl2.toArray.size := by
    show _ = some tl2.length
    rw [htn2]
    kernel_rfl
  have h1 : tl2.toArray.all (·.oneCell') = true := by
    rw [htl2]
    unfold gcells
    simp [Value.oneCell']
  have hset := set_giv (gl' := tl2) HC1.bx (by rw [gcX_len, htn2])
  have hkp1 : Kp B U W1 := Kp.ofBelow hb HC.out.hB
  have hst : ∀ T, T ≠ 39 → Stays T W1 (W1.setCells X 0 tl2) := fun T hT => Stays.ofSet hset.2 HC1.bx hT
  have hkp2 : Kp B U (W1.setCells X 0 tl2) := hkp1.trans ⟨hset.2.size, fun T a b => hst T a, (Below.refl B W1).grown hset.2 HC1.hB (fun k e => by cases e; exact HC1.bX)⟩
  have h22 : Stays 22 U (W1.setCells X 0 tl2) := (Stays.ofBelow hb : Stays 22 U W1).trans (hst 22 (by decide))
  have hM2 := hM'.stays (hst 5 (by decide)) (hst 84 (by decide))
  have hset1 := hset.1
  rw [htl2] at hset1
  have HCB := hid (HC.out.given (W1 := W1.setCells X 0 tl2) hkp2 (by rw [htl2]; exact hset1) h22 hM2)
  have HNR : Hid (NRow D (W1.setCells X 0 tl2) w.heap.size oa oc ws) := hid ⟨ownsRow_mono (own_stays hN'.ow (hst 60 (by decide))) Hdr.out.size, fun u hu => (hN'.ns u hu).stays (hst 5 (by decide)) (hst 84 (by decide))⟩
  have HKP := hid ((Kp.ofBelow Hdr.out hBw).trans hkp2)
  have HWK := hid hk'
  clear hset hset1 hkp1 hkp2 hst h22 hM2 hM' hN' hk' hb HC1 htl2 he Htl
  obtain ⟨wn, hwn⟩ : ∃ wn, wn = ws.length := ⟨_, rfl⟩
  rw [← hwn]
  have Hwn := hid hwn
  clear hwn
  have Ht2 := hid ht2
  clear ht2
  go_wp2_with fail
  refine hK _ _ ⟨hXs, hgs⟩ ?_
  clear hK K hXs hgs
  try simp only [Act.put, List.setIfInBounds_toArray, List.set_cons_succ, List.set_cons_zero]
  refine wpL_nil ?_
  iterate 6 (refine wpL_do rfl (fun w' hw' => (by go_simp; rfl)) ?_; simp only [Act.put, List.setIfInBounds_toArray, List.set_cons_succ, List.set_cons_zero])
  refine wpL_call rfl (fun K hK => ?_)
  refine wp_store_mid 28 _ _ rfl X 0 tl2.toArray rfl rfl ht hi h1 ?_
  rw [show tl2.toArray.toList = tl2 from rfl]
  generalize W1.setCells X 0 tl2 = W2 at *
  refine hK _ _ trivial ?_
  clear hK K
  try simp only [Act.put]
  iterate 2 (refine wpL_do rfl (fun w' hw' => (by go_simp; rfl)) ?_; simp only [Act.put, List.setIfInBounds_toArray, List.set_cons_succ, List.set_cons_zero])
  refine wpL_nil ?_
  refine q_fr (N := 211) HQ.out rfl ⟨⟨S0.out.symm, rfl, rfl, rfl, S1.out.symm, S2.out.symm⟩, rfl, a1, c1, a2, c2, oa, oc, ws, by rw [← Hwn.out]; rfl, ?_, HNR.out, ?_, HKP.out⟩
  · rw [← Hve.out, ← Ht2.out]; exact HCB.out
  · rw [← Hve.out]; exact HWK.out

end Go.Proofs.Ytopmamgdfngdoaa
/- deliver: what came down is taken, what came up is heard (printed by genlp7.py). -/
namespace Go.Proofs.Ytopmamgdfngdoaa
set_option linter.unusedVariables false
open Go.RowKit

/-- how far the notes are taken -/
structure TkSD (D : DP) (w W : World) (X B B2 : Nat) (g : GS) (gs ts : Nat) (la : Option Addr) (lc : Nat) (vs : List NV) (x0 : TS) (A0 : CA) (k : Nat) (x : TS) (A : CA) (o : List NT) : Prop where
  cb : CB D W X B g x A
  nr : NRow D W B2 la lc vs
  ti : TI D.P x
  en : x.en = true → 1 ≤ gs
  keep : A.db.map (·.k) = A0.db.map (·.k)
  out : A.ub.map (·.k) = A0.ub.map (·.k) ++ o
  ol : o.length ≤ 3 * k
  eq : takesL D.P x0 (vs.map (·.k)) = ((takesL D.P x ((vs.drop k).map (·.k))).1, o ++ (takesL D.P x ((vs.drop k).map (·.k))).2)
  kp : Kp B w W
def tkID (D : DP) (w : World) (X B B2 : Nat) (g : GS) (gs ts : Nat) (la : Option Addr) (lc : Nat) (vs : List NV) (x0 : TS) (A0 : CA) (v3 : Value) (y : Nat → Value) (W : World) : Prop :=
  ∃ k x A o, k ≤ vs.length ∧ y 0 = .pointer (some ⟨X, 0, none⟩) ∧ y 3 = v3 ∧ y 11 = .bool true ∧ y 13 = .slice la vs.length lc ∧ y 15 = .int .i64 (k : Int) ∧ TkSD D w W X B B2 g gs ts la lc vs x0 A0 k x A o
set_option maxRecDepth 1000000 in
set_option maxHeartbeats 8000000 in
theorem tick_lD (D : DP) (hD : DOk D) (hSum : SumOk D) (X B B2 : Nat) (g : GS) (gs ts : Nat) (la : Option Addr) (lc : Nat) (vs : List NV) (x0 : TS) (A0 : CA) (v3 : Value) (hI : TI D.P x0) (he : x0.en = true → 1 ≤ gs) (hv : ∀ v ∈ vs, vD D.P gs v.k) (hn : vs.length ≤ 1000) (hu : A0.ub.length ≤ 90000) :
    Tri Try.prog 211 (pieceOf Try.f7 [1, 1, 1, 1, 1, 1, 1, 1, 1, 1, 1, 0]) (fun z w => z 0 = .pointer (some ⟨X, 0, none⟩) ∧ z 3 = v3 ∧ z 11 = .bool true ∧ z 13 = .slice la vs.length lc ∧ CB D w X B g x0 A0 ∧ NRow D w B2 la lc vs ∧ B ≤ w.heap.size)
      (fun z w z' w' => z' 0 = .pointer (some ⟨X, 0, none⟩) ∧ z' 3 = v3 ∧ z' 11 = .bool true ∧ ∃ A, CB D w' X B g (takesL D.P x0 (vs.map (·.k))).1 A ∧ A.db.map (·.k) = A0.db.map (·.k) ∧ A.ub.map (·.k) = A0.ub.map (·.k) ++ (takesL D.P x0 (vs.map (·.k))).2 ∧ Kp B w w') := by
  rintro Q z w ⟨s0, s3, s11, s13, hC, hN, hB⟩ hQ
  have HQ := hid hQ
  have HV := hid hv
  have H0 := hid (show TkSD D w w X B B2 g gs ts la lc vs x0 A0 0 x0 A0 [] from ⟨hC, hN, hI, he, rfl, (List.append_nil _).symm, Nat.zero_le _, rfl, Kp.refl _ _⟩)
  clear hQ hC hN hv hI he
  conv => arg 2; whnf
  rw [fr211]
  simp only [s0, s3, s11, s13]
  clear s0 s3 s11 s13
  refine wp_seq_k (fun K0 hK0 => ?_)
  go_wp2_with fail
  refine hK0.out _ _ ?_
  refine wp_block ?_
  refine wp_loop_fr 211 (tkID D w X B B2 g gs ts la lc vs x0 A0 v3) (fun y' _ => vs.length - (intOf (y' 15)).toNat) ⟨rfl, rfl, 0, x0, A0, [], Nat.zero_le _, rfl, rfl, rfl, rfl, rfl, H0.out⟩ ?_
  clear H0
  rintro z W ⟨k, x, A, o, hk, s0, s3, s11, s13, s15, hS⟩
  have HS := hid hS
  have hBW : B ≤ W.heap.size := Nat.le_trans hB hS.kp.sz
  clear hS
  obtain ⟨vn, hvn⟩ : ∃ vn, vn = vs.length := ⟨_, rfl⟩
  rw [← hvn] at s13 hk hn
  have Hvn := hid hvn
  clear hvn
  rw [fr211]
  simp only [s0, s3, s11, s13, s15]
  clear s0 s3 s11 s13 s15
  refine wp_seq_k (fun L0 hL0 => ?_)
  refine wp_seq_k (fun L1 hL1 => ?_)
  by_cases hlt : k < vn
  · have hkI : (k : Int) < (vn : Int) := by omega
    go_wp2_with fail
    refine hL1.out _ _ ?_
    refine wp_cond_true rfl ?_
    go_wp2_with fail
    refine hL0.out _ _ ?_
    refine wp_seq_k (fun L2 hL2 => ?_)
    refine wp_block ?_
    refine wp_seq_k (fun L3 hL3 => ?_)
    go_wp2_with fail
    refine hL3.out _ _ ?_
    have hkl : k < vs.length := by rw [← Hvn.out]; exact hlt
    have hvn1 : vs.length ≤ 1000 := by rw [← Hvn.out]; exact hn
    have hmem : vs[k] ∈ vs := List.getElem_mem hkl
    have hval : vD D.P gs (vs[k].k) := HV.out _ hmem
    have hdrop : (vs.drop k).map (·.k) = vs[k].k :: (vs.drop (k + 1)).map (·.k) := by rw [List.drop_eq_getElem_cons hkl]; rfl
    have hstep := hid (HS.out.ti.take hD.P.p hval HS.out.en)
    refine wp_seq_k (fun L4 hL4 => ?_)
    refine Tri.use (tick_t17 D hD hSum X B B2 g x A gs ts la lc vs k hkl (by omega) HS.out.ti hval) rfl ⟨rfl, by rw [← Hvn.out]; rfl, rfl, HS.out.cb, HS.out.nr⟩ ?_
    rintro y1 W1 ⟨⟨e0, e3, e11, e13, e15⟩, e7, a1, c1, a2, c2, oa, oc, ws, e16, hC1, hN1, hw1, hK1⟩
    refine hL4.out _ _ ?_
    have hwl : ws.length ≤ 3 := by
      have := congrArg List.length hw1
      rw [List.length_map] at this
      have := hstep.out.len
      omega
    have hub : A.ub.length ≤ 90000 + 3 * k := by
      have h1 := congrArg List.length HS.out.out
      rw [List.length_map, List.length_append, List.length_map] at h1
      have := HS.out.ol
      omega
    have hwv : ∀ v ∈ ws, vN D v.k := fun v hv => by
      have : v.k ∈ (takeT D.P x (vs[k].k)).2 := by rw [← hw1]; exact List.mem_map_of_mem hv
      exact vU_vN (hstep.out.up _ this)
    refine wp_seq_k (fun L5 hL5 => ?_)
    refine Tri.use (tick_s18 D hD X B W.heap.size g (takeT D.P x (vs[k].k)).1 (A.tak a1 c1 a2 c2) oa oc ws hwv (by show A.ub.length + _ ≤ _; omega)) rfl ⟨(fr_at 211 y1 0 (by decide)).trans e0, (fr_at 211 y1 16 (by decide)).trans e16, hC1, hN1, Nat.le_trans hBW hK1.sz⟩ ?_
    rintro y2 W2 ⟨⟨d0, d3, d7, d13, d15⟩, dF, wa, wc, bs, hC2, hks, hK2⟩
    refine hL5.out _ _ ?_
    have HS2 : Hid (TkSD D w W2 X B B2 g gs ts la lc vs x0 A0 (k + 1) (takeT D.P x (vs[k].k)).1 ((A.tak a1 c1 a2 c2).up wa wc bs) (o ++ (takeT D.P x (vs[k].k)).2)) := hid (by
      have h := HS.out
      have hq : takesL D.P x ((vs.drop k).map (·.k)) = ((takesL D.P (takeT D.P x (vs[k].k)).1 ((vs.drop (k + 1)).map (·.k))).1, (takeT D.P x (vs[k].k)).2 ++ (takesL D.P (takeT D.P x (vs[k].k)).1 ((vs.drop (k + 1)).map (·.k))).2) := by
        rw [hdrop]
        rfl
      refine ⟨hC2, h.nr.kp (hK1.trans hK2), hstep.out.ti, hstep.out.en, h.keep, ?_, ?_, ?_, h.kp.trans (hK1.trans hK2)⟩
      · show bs.map (·.k) = _
        rw [hks, hw1]
        show A.ub.map (·.k) ++ _ = _
        rw [h.out, List.append_assoc]
      · rw [List.length_append]
        have := h.ol
        have := hstep.out.len
        omega
      · rw [h.eq, hq]
        refine Prod.ext rfl ?_
        show o ++ (_ ++ _) = (o ++ _) ++ _
        rw [List.append_assoc])
    have f0 := (d0.trans (fr_at 211 y1 0 (by decide))).trans e0
    have f3 := (d3.trans (fr_at 211 y1 3 (by decide))).trans e3
    have f7 := (d7.trans (fr_at 211 y1 7 (by decide))).trans e7
    have f13 := (d13.trans (fr_at 211 y1 13 (by decide))).trans e13
    have f15 := (d15.trans (fr_at 211 y1 15 (by decide))).trans e15
    have f11 := dF
    clear HS hwv hub hwl hC1 hN1 hw1 hK1 hC2 hks hK2 e7 e16 hstep hdrop hval hmem
    rw [fr211]
    simp only [f0, f3, f7, f11, f13, f15]
    clear f0 f3 f7 f11 f13 f15
    go_wp2_with fail
    refine hL2.out _ _ ?_
    go_wp2_with fail
    refine ⟨rfl, rfl, ⟨k + 1, (takeT D.P x (vs[k].k)).1, (A.tak a1 c1 a2 c2).up wa wc bs, o ++ (takeT D.P x (vs[k].k)).2, by omega, rfl, rfl, rfl, by rw [← Hvn.out]; rfl, ?_, HS2.out⟩, ?_⟩
    · show Value.int .i64 _ = Value.int .i64 _
      go_num
    · show _ - (intOf (Value.int .i64 _)).toNat < _
      simp [intOf]
      omega
  · obtain rfl : k = vn := by omega
    go_wp2_with fail
    refine hL1.out _ _ ?_
    refine wp_cond_false rfl ?_
    go_wp2_with fail
    have hdr : (vs.drop k).map (·.k) = [] := by rw [List.drop_eq_nil_of_le (by rw [← Hvn.out]; exact Nat.le_refl _)]; rfl
    have h := HS.out
    have hq := h.eq
    rw [hdr] at hq
    have hq2 : takesL D.P x0 (vs.map (·.k)) = (x, o ++ []) := hq
    refine q_fr (N := 211) HQ.out rfl ⟨rfl, rfl, rfl, A, ?_, h.keep, ?_, h.kp⟩
    · rw [hq2]; exact h.cb
    · rw [hq2, h.out, List.append_nil]

/-- how far the notes are heard -/
structure TkSU (D : DP) (w W : World) (X B B2 : Nat) (t : TS) (gs ts : Nat) (la : Option Addr) (lc : Nat) (vs : List NV) (x0 : GS) (A0 : CA) (k : Nat) (x : GS) (A : CA) (o : List NT) : Prop where
  cb : CB D W X B x t A
  nr : NRow D W B2 la lc vs
  ti : GI D.P x
  en : x0.st ≤ x.st
  keep : A.ub.map (·.k) = A0.ub.map (·.k)
  out : A.db.map (·.k) = A0.db.map (·.k) ++ o
  ol : o.length ≤ 3 * k
  eq : repliesL D.P x0 (vs.map (·.k)) = ((repliesL D.P x ((vs.drop k).map (·.k))).1, o ++ (repliesL D.P x ((vs.drop k).map (·.k))).2)
  kp : Kp B w W
def tkIU (D : DP) (w : World) (X B B2 : Nat) (t : TS) (gs ts : Nat) (la : Option Addr) (lc : Nat) (vs : List NV) (x0 : GS) (A0 : CA) (v3 : Value) (y : Nat → Value) (W : World) : Prop :=
  ∃ k x A o, k ≤ vs.length ∧ y 0 = .pointer (some ⟨X, 0, none⟩) ∧ y 3 = v3 ∧ y 11 = .bool true ∧ y 12 = .bool true ∧ y 17 = .slice la vs.length lc ∧ y 19 = .int .i64 (k : Int) ∧ TkSU D w W X B B2 t gs ts la lc vs x0 A0 k x A o
set_option maxRecDepth 1000000 in
set_option maxHeartbeats 8000000 in
theorem tick_lU (D : DP) (hD : DOk D) (X B B2 : Nat) (t : TS) (gs ts : Nat) (la : Option Addr) (lc : Nat) (vs : List NV) (x0 : GS) (A0 : CA) (v3 : Value) (hI : GI D.P x0) (he : True) (hv : ∀ v ∈ vs, vU D.P x0.st ts v.k) (hn : vs.length ≤ 1000) (hu : A0.db.length ≤ 90000) :
    Tri Try.prog 211 (pieceOf Try.f7 [1, 1, 1, 1, 1, 1, 1, 1, 1, 1, 1, 1, 1, 1, 0]) (fun z w => z 0 = .pointer (some ⟨X, 0, none⟩) ∧ z 3 = v3 ∧ z 11 = .bool true ∧ z 12 = .bool true ∧ z 17 = .slice la vs.length lc ∧ CB D w X B x0 t A0 ∧ NRow D w B2 la lc vs ∧ B ≤ w.heap.size)
      (fun z w z' w' => z' 0 = .pointer (some ⟨X, 0, none⟩) ∧ z' 3 = v3 ∧ z' 11 = .bool true ∧ z' 12 = .bool true ∧ ∃ A, CB D w' X B (repliesL D.P x0 (vs.map (·.k))).1 t A ∧ A.ub.map (·.k) = A0.ub.map (·.k) ∧ A.db.map (·.k) = A0.db.map (·.k) ++ (repliesL D.P x0 (vs.map (·.k))).2 ∧ Kp B w w') := by
  rintro Q z w ⟨s0, s3, s11, s12, s13, hC, hN, hB⟩ hQ
  have HQ := hid hQ
  have HV := hid hv
  have H0 := hid (show TkSU D w w X B B2 t gs ts la lc vs x0 A0 0 x0 A0 [] from ⟨hC, hN, hI, Nat.le_refl _, rfl, (List.append_nil _).symm, Nat.zero_le _, rfl, Kp.refl _ _⟩)
  clear hQ hC hN hv hI he
  conv => arg 2; whnf
  rw [fr211]
  simp only [s0, s3, s11, s12, s13]
  clear s0 s3 s11 s12 s13
  refine wp_seq_k (fun K0 hK0 => ?_)
  go_wp2_with fail
  refine hK0.out _ _ ?_
  refine wp_block ?_
  refine wp_loop_fr 211 (tkIU D w X B B2 t gs ts la lc vs x0 A0 v3) (fun y' _ => vs.length - (intOf (y' 19)).toNat) ⟨rfl, rfl, 0, x0, A0, [], Nat.zero_le _, rfl, rfl, rfl, rfl, rfl, rfl, H0.out⟩ ?_
  clear H0
  rintro z W ⟨k, x, A, o, hk, s0, s3, s11, s12, s13, s15, hS⟩
  have HS := hid hS
  have hBW : B ≤ W.heap.size := Nat.le_trans hB hS.kp.sz
  clear hS
  obtain ⟨vn, hvn⟩ : ∃ vn, vn = vs.length := ⟨_, rfl⟩
  rw [← hvn] at s13 hk hn
  have Hvn := hid hvn
  clear hvn
  rw [fr211]
  simp only [s0, s3, s11, s12, s13, s15]
  clear s0 s3 s11 s12 s13 s15
  refine wp_seq_k (fun L0 hL0 => ?_)
  refine wp_seq_k (fun L1 hL1 => ?_)
  by_cases hlt : k < vn
  · have hkI : (k : Int) < (vn : Int) := by omega
    go_wp2_with fail
    refine hL1.out _ _ ?_
    refine wp_cond_true rfl ?_
    go_wp2_with fail
    refine hL0.out _ _ ?_
    refine wp_seq_k (fun L2 hL2 => ?_)
    refine wp_block ?_
    refine wp_seq_k (fun L3 hL3 => ?_)
    go_wp2_with fail
    refine hL3.out _ _ ?_
    have hkl : k < vs.length := by rw [← Hvn.out]; exact hlt
    have hvn1 : vs.length ≤ 1000 := by rw [← Hvn.out]; exact hn
    have hmem : vs[k] ∈ vs := List.getElem_mem hkl
    have hval : vU D.P x.st ts (vs[k].k) := vU_mono (HV.out _ hmem) HS.out.en id
    have hdrop : (vs.drop k).map (·.k) = vs[k].k :: (vs.drop (k + 1)).map (·.k) := by rw [List.drop_eq_getElem_cons hkl]; rfl
    have hstep := hid (HS.out.ti.reply hD.P.p hval)
    refine wp_seq_k (fun L4 hL4 => ?_)
    refine Tri.use (tick_t26 D hD X B B2 x t A x.st ts la lc vs k hkl (by omega) HS.out.ti (hstep.out.1.len) hval) rfl ⟨rfl, by rw [← Hvn.out]; rfl, rfl, HS.out.cb, HS.out.nr⟩ ?_
    rintro y1 W1 ⟨⟨e0, e3, e11, e12, e17, e19⟩, e7, a1, c1, a2, c2, oa, oc, ws, e16, hC1, hN1, hw1, hK1⟩
    refine hL4.out _ _ ?_
    have hwl : ws.length ≤ 3 := by
      have := congrArg List.length hw1
      rw [List.length_map] at this
      have := hstep.out.2.2.2.2.2.1
      omega
    have hub : A.db.length ≤ 90000 + 3 * k := by
      have h1 := congrArg List.length HS.out.out
      rw [List.length_map, List.length_append, List.length_map] at h1
      have := HS.out.ol
      omega
    have hwv : ∀ v ∈ ws, vN D v.k := fun v hv => by
      have : v.k ∈ (replyG D.P x (vs[k].k)).2 := by rw [← hw1]; exact List.mem_map_of_mem hv
      exact vD_vN hD (hstep.out.2.1 _ this)
    refine wp_seq_k (fun L5 hL5 => ?_)
    refine Tri.use (tick_s27 D hD X B W.heap.size (replyG D.P x (vs[k].k)).1 t (A.giv a1 c1 a2 c2) oa oc ws hwv (by show A.db.length + _ ≤ _; omega)) rfl ⟨(fr_at 211 y1 0 (by decide)).trans e0, (fr_at 211 y1 20 (by decide)).trans e16, hC1, hN1, Nat.le_trans hBW hK1.sz⟩ ?_
    rintro y2 W2 ⟨⟨d0, d3, d7, d11, d17, d19⟩, dF, wa, wc, bs, hC2, hks, hK2⟩
    refine hL5.out _ _ ?_
    have HS2 : Hid (TkSU D w W2 X B B2 t gs ts la lc vs x0 A0 (k + 1) (replyG D.P x (vs[k].k)).1 ((A.giv a1 c1 a2 c2).dn wa wc bs) (o ++ (replyG D.P x (vs[k].k)).2)) := hid (by
      have h := HS.out
      have hq : repliesL D.P x ((vs.drop k).map (·.k)) = ((repliesL D.P (replyG D.P x (vs[k].k)).1 ((vs.drop (k + 1)).map (·.k))).1, (replyG D.P x (vs[k].k)).2 ++ (repliesL D.P (replyG D.P x (vs[k].k)).1 ((vs.drop (k + 1)).map (·.k))).2) := by
        rw [hdrop]
        rfl
      refine ⟨hC2, h.nr.kp (hK1.trans hK2), hstep.out.1, Nat.le_trans h.en hstep.out.2.2.1, h.keep, ?_, ?_, ?_, h.kp.trans (hK1.trans hK2)⟩
      · show bs.map (·.k) = _
        rw [hks, hw1]
        show A.db.map (·.k) ++ _ = _
        rw [h.out, List.append_assoc]
      · rw [List.length_append]
        have := h.ol
        have := hstep.out.2.2.2.2.2.1
        omega
      · rw [h.eq, hq]
        refine Prod.ext rfl ?_
        show o ++ (_ ++ _) = (o ++ _) ++ _
        rw [List.append_assoc])
    have f0 := (d0.trans (fr_at 211 y1 0 (by decide))).trans e0
    have f3 := (d3.trans (fr_at 211 y1 3 (by decide))).trans e3
    have f7 := (d7.trans (fr_at 211 y1 7 (by decide))).trans e7
    have f11 := (d11.trans (fr_at 211 y1 11 (by decide))).trans e11
    have f13 := (d17.trans (fr_at 211 y1 17 (by decide))).trans e17
    have f15 := (d19.trans (fr_at 211 y1 19 (by decide))).trans e19
    have f12 := dF
    clear HS hwv hub hwl hC1 hN1 hw1 hK1 hC2 hks hK2 e7 e16 hstep hdrop hval hmem
    rw [fr211]
    simp only [f0, f3, f7, f11, f12, f13, f15]
    clear f0 f3 f7 f11 f12 f13 f15
    go_wp2_with fail
    refine hL2.out _ _ ?_
    go_wp2_with fail
    refine ⟨rfl, rfl, ⟨k + 1, (replyG D.P x (vs[k].k)).1, (A.giv a1 c1 a2 c2).dn wa wc bs, o ++ (replyG D.P x (vs[k].k)).2, by omega, rfl, rfl, rfl, rfl, by rw [← Hvn.out]; rfl, ?_, HS2.out⟩, ?_⟩
    · show Value.int .i64 _ = Value.int .i64 _
      go_num
    · show _ - (intOf (Value.int .i64 _)).toNat < _
      simp [intOf]
      omega
  · obtain rfl : k = vn := by omega
    go_wp2_with fail
    refine hL1.out _ _ ?_
    refine wp_cond_false rfl ?_
    go_wp2_with fail
    have hdr : (vs.drop k).map (·.k) = [] := by rw [List.drop_eq_nil_of_le (by rw [← Hvn.out]; exact Nat.le_refl _)]; rfl
    have h := HS.out
    have hq := h.eq
    rw [hdr] at hq
    have hq2 : repliesL D.P x0 (vs.map (·.k)) = (x, o ++ []) := hq
    refine q_fr (N := 211) HQ.out rfl ⟨rfl, rfl, rfl, rfl, A, ?_, h.keep, ?_, h.kp⟩
    · rw [hq2]; exact h.cb
    · rw [hq2, h.out, List.append_nil]

end Go.Proofs.Ytopmamgdfngdoaa
