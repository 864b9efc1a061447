/- deliver: Give and Wait in a tick (printed by gengw7.py). -/
import Derived.Test.YtopmamgdfngdoaaWhole25
namespace Go.Proofs.Ytopmamgdfngdoaa
set_option linter.unusedVariables false
open Go.RowKit

set_option maxRecDepth 1000000 in
set_option maxHeartbeats 8000000 in
theorem tick_r1 (D : DP) (hD : DOk D) (hSum : SumOk D) (X B : Nat) (g : GS) (t : TS) (A : CA) (hG : GI D.P g) (htr : g.tr < 100) :
    Tri Try.prog 211 (pieceOf Try.f7 [1, 0]) (fun z w => z 0 = .pointer (some ⟨X, 0, none⟩) ∧ CB D w X B g t A)
      (fun z w z' w' => (z' 0 = z 0 ∧ z' 3 = z 3 ∧ z' 4 = z 4) ∧ z' 7 = .int .i64 0 ∧ ∃ Y a1 c1 a2 c2 oa oc ws, z' 5 = .pointer (some ⟨Y, 0, none⟩) ∧ z' 6 = .slice oa (ws : List NV).length oc ∧ w'.heap[Y]? = some (.cells (gcX D (giveG D.P g).1 (A.giv a1 c1 a2 c2)).toArray 28) ∧ GvT D w' (giveG D.P g).1 a1 c1 a2 c2 ∧ NRow D w' w.heap.size oa oc ws ∧ ws.map (·.k) = (giveG D.P g).2 ∧ Below w.heap.size w w') := by
  rintro Q z w ⟨s0, hC⟩ hQ
  have HQ := hid hQ
  have S0 := hid s0
  have HC := hid hC
  obtain ⟨tl, htl⟩ : ∃ tl, tl = gcX D g A := ⟨_, rfl⟩
  have htn : tl.length = 13 := by rw [htl]; rfl
  have ld0 : w.rangeAt X 0 tl := by rw [htl]; exact rng_giv HC.out.bx
  have hcall := hid (show Calls Try.prog 11 #[.agg (gcX D g A).toArray] w (fun e w' => GiveR D w w' (giveG D.P g).1 (giveG D.P g).2 e) from Give_ok D hD hSum g A.ga A.gc A.aa A.ac w hG htr HC.out.gv)
  rw [← htl] at hcall
  clear hQ hC htl
  conv => arg 2; whnf
  rw [fr211]
  simp only [s0]
  clear s0
  go_wp2_with (with_reducible refine wpList_load_mid (op := ⟨some 25, _, _, _, _, _⟩) rfl 28 _ rfl X 0 rfl tl _ ld0 Try.underlying28 rfl (by rw [htn]; kernel_rfl) ?_)
  refine hcall.out.mono ?_
  rintro e W1 ⟨⟨a1, c1, a2, c2, oa, oc, ws, he, hM', hN', hk', hng⟩, hb⟩
  clear hcall ld0
  obtain ⟨t2, ht2⟩ : ∃ t2, t2 = (giveG D.P g).1 := ⟨_, rfl⟩
  rw [← ht2] at he hM'
  obtain ⟨tl2, htl2⟩ : ∃ tl2, tl2 = (gcells D t2 a1 D.P.F c1 a2 t2.ag.length c2).toList := ⟨_, rfl⟩
  have htn2 : tl2.toArray.size = 13 := by rw [htl2]; rfl
  have he2 : e = .returned (.tuple #[.agg tl2.toArray, .slice oa ws.length oc, .int .i64 0]) := by rw [he, htl2]
  subst he2
  have h1 : tl2.toArray.all (·.oneCell') = true := by
    rw [htl2]
    unfold gcells
    simp [Value.oneCell']
  have bZ := below_alloc W1 (.cells #[.int .i64 0, .string { data := #[] }, .slice none 0 0, .int .i64 0, .int .i64 0, .int .i64 0, .bool false, .int .i64 0, .slice none 0 0, .int .i64 0, .int .i64 0, .int .i64 0, .int .i64 0] 28)
  have AZ := heap_alloc_new W1 (.cells #[.int .i64 0, .string { data := #[] }, .slice none 0 0, .int .i64 0, .int .i64 0, .int .i64 0, .bool false, .int .i64 0, .slice none 0 0, .int .i64 0, .int .i64 0, .int .i64 0, .int .i64 0] 28)
  obtain ⟨z1, z2⟩ := set_whole (cs' := tl2.toArray) AZ
  have bAll : Below w.heap.size w ((W1.alloc (.cells #[.int .i64 0, .string { data := #[] }, .slice none 0 0, .int .i64 0, .int .i64 0, .int .i64 0, .bool false, .int .i64 0, .slice none 0 0, .int .i64 0, .int .i64 0, .int .i64 0, .int .i64 0] 28)).setRow W1.heap.size tl2.toArray) := (hb.trans (bZ.mono hb.size)).grown z2 (Nat.le_trans hb.size bZ.size) (fun j e => by cases e; exact hb.size)
  have st : ∀ T, T ≠ 28 → Stays T W1 ((W1.alloc (.cells #[.int .i64 0, .string { data := #[] }, .slice none 0 0, .int .i64 0, .int .i64 0, .int .i64 0, .bool false, .int .i64 0, .slice none 0 0, .int .i64 0, .int .i64 0, .int .i64 0, .int .i64 0] 28)).setRow W1.heap.size tl2.toArray) := fun T hT => (Stays.ofBelow bZ : Stays T W1 _).trans (Stays.ofSet z2 AZ hT)
  have HM := hid (hM'.stays (st 5 (by decide)) (st 84 (by decide)))
  have HN := hid (show NRow D _ w.heap.size oa oc ws from ⟨own_stays hN'.ow (st 60 (by decide)), fun u hu => (hN'.ns u hu).stays (st 5 (by decide)) (st 84 (by decide))⟩)
  have HB := hid bAll
  have HZ := hid z1
  have HK := hid hk'
  have Htl2 := hid htl2
  have Ht2 := hid ht2
  clear z1 z2 bAll st hM' hN' hb bZ he htl2 ht2 hk'
  obtain ⟨wn, hwn⟩ : ∃ wn, wn = ws.length := ⟨_, rfl⟩
  rw [← hwn]
  have Hwn := hid hwn
  clear hwn
  go_wp2_with (with_reducible refine at_store 28 ?_)
  unfold Hid
  refine wpList_store_row rfl 28 _ _ rfl W1.heap.size tl2.toArray rfl rfl 28 _ AZ (by rw [htn2]; try rfl) (by rw [htn2]; try rfl) h1 ?_
  clear AZ
  generalize (W1.alloc (.cells #[.int .i64 0, .string { data := #[] }, .slice none 0 0, .int .i64 0, .int .i64 0, .int .i64 0, .bool false, .int .i64 0, .slice none 0 0, .int .i64 0, .int .i64 0, .int .i64 0, .int .i64 0] 28)).setRow W1.heap.size tl2.toArray = V2 at *
  generalize W1.heap.size = Y at *
  go_wp2_with fail
  refine q_fr (N := 211) HQ.out rfl ⟨⟨S0.out.symm, rfl, rfl⟩, rfl, Y, a1, c1, a2, c2, oa, oc, ws, rfl, by rw [← Hwn.out]; rfl, ?_, ?_, HN.out, HK.out, HB.out⟩
  · have h := HZ.out
    rw [Htl2.out, Ht2.out] at h
    exact h
  · have h := HM.out
    rw [Ht2.out] at h
    exact h

set_option maxRecDepth 1000000 in
set_option maxHeartbeats 8000000 in
theorem tick_r2 (D : DP) (hD : DOk D) (X B : Nat) (g : GS) (t : TS) (A : CA) (hT : TI D.P t) (htr : t.st = 0 → t.tr < 100) :
    Tri Try.prog 211 (pieceOf Try.f7 [1, 1, 0]) (fun z w => z 0 = .pointer (some ⟨X, 0, none⟩) ∧ CB D w X B g t A)
      (fun z w z' w' => (z' 0 = z 0 ∧ z' 3 = z 3 ∧ z' 4 = z 4 ∧ z' 5 = z 5 ∧ z' 6 = z 6 ∧ z' 7 = z 7) ∧ z' 10 = .int .i64 0 ∧ ∃ Y a1 c1 a2 c2 oa oc ws, z' 8 = .pointer (some ⟨Y, 0, none⟩) ∧ z' 9 = .slice oa (ws : List NV).length oc ∧ w'.heap[Y]? = some (.cells (tcX D (waitT D.P t).1 (A.tak a1 c1 a2 c2)).toArray 33) ∧ TkT D w' (waitT D.P t).1 a1 c1 a2 c2 ∧ NRow D w' w.heap.size oa oc ws ∧ ws.map (·.k) = (waitT D.P t).2 ∧ Below w.heap.size w w') := by
  rintro Q z w ⟨s0, hC⟩ hQ
  have HQ := hid hQ
  have S0 := hid s0
  have HC := hid hC
  obtain ⟨tl, htl⟩ : ∃ tl, tl = tcX D t A := ⟨_, rfl⟩
  have htn : tl.length = 14 := by rw [htl]; rfl
  have ld0 : w.rangeAt X 13 tl := by rw [htl]; exact rng_tak HC.out.bx (gcX_len D g A)
  have hcall := hid (show Calls Try.prog 12 #[.agg (tcX D t A).toArray] w (fun e w' => TakeR D w w' (waitT D.P t).1 (waitT D.P t).2 e) from Wait_ok D hD t A.ha t.hv.length A.hc A.fa (topH t.hv) A.fc w hT rfl rfl HC.out.tk htr)
  rw [← htl] at hcall
  clear hQ hC htl
  conv => arg 2; whnf
  rw [fr211]
  simp only [s0]
  clear s0
  go_wp2_with (with_reducible refine wpList_load_mid (op := ⟨some 34, _, _, _, _, _⟩) rfl 33 _ rfl X 13 rfl tl _ ld0 Try.underlying33 rfl (by rw [htn]; kernel_rfl) ?_)
  refine hcall.out.mono ?_
  rintro e W1 ⟨⟨a1, c1, a2, c2, oa, oc, ws, he, hM', hN', hk'⟩, hb⟩
  clear hcall ld0
  obtain ⟨t2, ht2⟩ : ∃ t2, t2 = (waitT D.P t).1 := ⟨_, rfl⟩
  rw [← ht2] at he hM'
  obtain ⟨tl2, htl2⟩ : ∃ tl2, tl2 = (tcells D t2 a1 t2.hv.length c1 a2 (topH t2.hv) c2).toList := ⟨_, rfl⟩
  have htn2 : tl2.toArray.size = 14 := by rw [htl2]; rfl
  have he2 : e = .returned (.tuple #[.agg tl2.toArray, .slice oa ws.length oc, .int .i64 0]) := by rw [he, htl2]
  subst he2
  have h1 : tl2.toArray.all (·.oneCell') = true := by
    rw [htl2]
    unfold tcells
    simp [Value.oneCell']
  have bZ := below_alloc W1 (.cells #[.int .i64 0, .bool false, .string { data := #[] }, .int .i64 0, .bool false, .int .i64 0, .int .i64 0, .slice none 0 0, .slice none 0 0, .int .i64 0, .int .i64 0, .int .i64 0, .int .i64 0, .int .i64 0] 33)
  have AZ := heap_alloc_new W1 (.cells #[.int .i64 0, .bool false, .string { data := #[] }, .int .i64 0, .bool false, .int .i64 0, .int .i64 0, .slice none 0 0, .slice none 0 0, .int .i64 0, .int .i64 0, .int .i64 0, .int .i64 0, .int .i64 0] 33)
  obtain ⟨z1, z2⟩ := set_whole (cs' := tl2.toArray) AZ
  have bAll : Below w.heap.size w ((W1.alloc (.cells #[.int .i64 0, .bool false, .string { data := #[] }, .int .i64 0, .bool false, .int .i64 0, .int .i64 0, .slice none 0 0, .slice none 0 0, .int .i64 0, .int .i64 0, .int .i64 0, .int .i64 0, .int .i64 0] 33)).setRow W1.heap.size tl2.toArray) := (hb.trans (bZ.mono hb.size)).grown z2 (Nat.le_trans hb.size bZ.size) (fun j e => by cases e; exact hb.size)
  have st : ∀ T, T ≠ 33 → Stays T W1 ((W1.alloc (.cells #[.int .i64 0, .bool false, .string { data := #[] }, .int .i64 0, .bool false, .int .i64 0, .int .i64 0, .slice none 0 0, .slice none 0 0, .int .i64 0, .int .i64 0, .int .i64 0, .int .i64 0, .int .i64 0] 33)).setRow W1.heap.size tl2.toArray) := fun T hT => (Stays.ofBelow bZ : Stays T W1 _).trans (Stays.ofSet z2 AZ hT)
  have HM := hid (hM'.stays (st 5 (by decide)) (st 84 (by decide)))
  have HN := hid (show NRow D _ w.heap.size oa oc ws from ⟨own_stays hN'.ow (st 60 (by decide)), fun u hu => (hN'.ns u hu).stays (st 5 (by decide)) (st 84 (by decide))⟩)
  have HB := hid bAll
  have HZ := hid z1
  have HK := hid hk'
  have Htl2 := hid htl2
  have Ht2 := hid ht2
  clear z1 z2 bAll st hM' hN' hb bZ he htl2 ht2 hk'
  obtain ⟨wn, hwn⟩ : ∃ wn, wn = ws.length := ⟨_, rfl⟩
  rw [← hwn]
  have Hwn := hid hwn
  clear hwn
  go_wp2_with (with_reducible refine at_store 33 ?_)
  unfold Hid
  refine wpList_store_row rfl 33 _ _ rfl W1.heap.size tl2.toArray rfl rfl 33 _ AZ (by rw [htn2]; try rfl) (by rw [htn2]; try rfl) h1 ?_
  clear AZ
  generalize (W1.alloc (.cells #[.int .i64 0, .bool false, .string { data := #[] }, .int .i64 0, .bool false, .int .i64 0, .int .i64 0, .slice none 0 0, .slice none 0 0, .int .i64 0, .int .i64 0, .int .i64 0, .int .i64 0, .int .i64 0] 33)).setRow W1.heap.size tl2.toArray = V2 at *
  generalize W1.heap.size = Y at *
  go_wp2_with fail
  refine q_fr (N := 211) HQ.out rfl ⟨⟨S0.out.symm, rfl, rfl, rfl, rfl, rfl⟩, rfl, Y, a1, c1, a2, c2, oa, oc, ws, rfl, by rw [← Hwn.out]; rfl, ?_, ?_, HN.out, HK.out, HB.out⟩
  · have h := HZ.out
    rw [Htl2.out, Ht2.out] at h
    exact h
  · have h := HM.out
    rw [Ht2.out] at h
    exact h

end Go.Proofs.Ytopmamgdfngdoaa
/- deliver: giver and taker are laid back; the facts of a tick. -/
namespace Go.Proofs.Ytopmamgdfngdoaa
set_option linter.unusedVariables false
open Go.RowKit

set_option maxRecDepth 1000000 in
set_option maxHeartbeats 8000000 in
theorem tick_r5 (D : DP) (X B Y Z : Nat) (g g' : GS) (t t' : TS) (A : CA) (a1 : Option Addr) (c1 : Nat) (a2 : Option Addr) (c2 : Nat) (b1 : Option Addr) (d1 : Nat) (b2 : Option Addr) (d2 : Nat) :
    Tri Try.prog 211 (pieceOf Try.f7 [1, 1, 1, 1, 0]) (fun z w => z 0 = .pointer (some ⟨X, 0, none⟩) ∧ z 5 = .pointer (some ⟨Y, 0, none⟩) ∧ z 8 = .pointer (some ⟨Z, 0, none⟩) ∧ CB D w X B g t A ∧ w.heap[Y]? = some (.cells (gcX D g' (A.giv a1 c1 a2 c2)).toArray 28) ∧ GvT D w g' a1 c1 a2 c2 ∧ w.heap[Z]? = some (.cells (tcX D t' (A.tak b1 d1 b2 d2)).toArray 33) ∧ TkT D w t' b1 d1 b2 d2)
      (fun z w z' w' => (z' 0 = z 0 ∧ z' 3 = z 3 ∧ z' 4 = z 4 ∧ z' 6 = z 6 ∧ z' 9 = z 9) ∧ CB D w' X B g' t' ((A.giv a1 c1 a2 c2).tak b1 d1 b2 d2) ∧ Kp B w w') := by
  rintro Q z w ⟨s0, s5, s8, hC, hY, hG, hZ, hT⟩ hQ
  have HQ := hid hQ
  have S0 := hid s0
  have hdr := (Below.refl w.heap.size w).drew
  have HC := hid (hC.below hdr)
  have HY := hid (row_below hY hdr)
  have HZ := hid (row_below hZ hdr)
  have HG := hid (hG.below hdr)
  have HT := hid (hT.below hdr)
  have Hdr := hid (Kp.ofBelow hdr hC.hB)
  clear hQ hC hY hG hZ hT hdr
  obtain ⟨gl, hgl⟩ : ∃ gl, gl = gcX D g' (A.giv a1 c1 a2 c2) := ⟨_, rfl⟩
  obtain ⟨tl, htl⟩ : ∃ tl, tl = tcX D t' (A.tak b1 d1 b2 d2) := ⟨_, rfl⟩
  have hgn : gl.length = 13 := by rw [hgl]; rfl
  have htn : tl.length = 14 := by rw [htl]; rfl
  have hg1 : gl.toArray.all (·.oneCell') = true := by
    rw [hgl]
    unfold gcX gcells
    simp [Value.oneCell']
  have ht1 : tl.toArray.all (·.oneCell') = true := by
    rw [htl]
    unfold tcX tcells
    simp [Value.oneCell']
  rw [← hgl] at HY
  rw [← htl] at HZ
  have Hgl := hid hgl
  have Htl := hid htl
  clear hgl htl
  conv => arg 2; whnf
  rw [fr211]
  simp only [s0, s5, s8]
  clear s0 s5 s8
  refine wp_region_can 10 [6, 9] [0, 1, 2, 3, 4, 5, 6, 7, 8, 9] (fun u u' => u'.heap[Y]? = u.heap[Y]? ∧ u'.heap[Z]? = u.heap[Z]?) (fun _ => ⟨rfl, rfl⟩) (fun _ _ _ h k => ⟨k.1.trans h.1, k.2.trans h.2⟩) (by kernel_rfl) (by kernel_rfl) ?_
  simp only [List.map_cons, List.map_nil, List.contains_cons, List.contains_nil, List.getD_cons_zero, List.getD_cons_succ, Nat.reduceBEq, Bool.or_false, Bool.or_true]
  generalize w.drew = U at *
  have ld0 : ∀ w' : World, (w'.heap[Y]? = U.heap[Y]? ∧ w'.heap[Z]? = U.heap[Z]?) → (Instr.loadAt 28 (.pointer (some ⟨Y, 0, none⟩))).run Try.prog w' = .ok (.agg gl.toArray) w' := fun w' h => by
    obtain ⟨ud, hud⟩ : ∃ ud, Try.prog.underlying 28 = some (.struct ud) := ⟨_, Try.underlying28⟩
    exact run_loadAt_mid w' Y 0 28 gl (.struct ud) (range_row (a := []) (z := []) (e := 28) (by rw [h.1, HY.out]; simp)) hud rfl (by rw [hgn]; kernel_rfl)
  have ld1 : ∀ w' : World, (w'.heap[Y]? = U.heap[Y]? ∧ w'.heap[Z]? = U.heap[Z]?) → (Instr.loadAt 33 (.pointer (some ⟨Z, 0, none⟩))).run Try.prog w' = .ok (.agg tl.toArray) w' := fun w' h => by
    obtain ⟨ud, hud⟩ : ∃ ud, Try.prog.underlying 33 = some (.struct ud) := ⟨_, Try.underlying33⟩
    exact run_loadAt_mid w' Z 0 33 tl (.struct ud) (range_row (a := []) (z := []) (e := 33) (by rw [h.2, HZ.out]; simp)) hud rfl (by rw [htn]; kernel_rfl)
  have hXY : Y ≠ X := fun e => by
    have h := HC.out.bx
    rw [← e, HY.out] at h
    injection h with h
    injection h with _ h
    exact absurd h (by decide)
  have hXZ : Z ≠ X := fun e => by
    have h := HC.out.bx
    rw [← e, HZ.out] at h
    injection h with h
    injection h with _ h
    exact absurd h (by decide)
  -- the stores
  have hr0 : U.there X 0 gl.toArray.size := there_row HC.out.bx 0 _ (by rw [xbl_len, gcX_len, tcX_len]; show 0 + gl.length ≤ _; omega)
  have hset := set_giv (gl' := gl) HC.out.bx (by rw [gcX_len, hgn])
  have hst : ∀ T, T ≠ 39 → Stays T U (U.setCells X 0 gl) := fun T hT => Stays.ofSet hset.2 HC.out.bx hT
  have hC1 := HC.out.given (W1 := U.setCells X 0 gl) ⟨hset.2.size, fun T a _ => hst T a, (Below.refl B U).grown hset.2 HC.out.hB (fun k e => by cases e; exact HC.out.bX)⟩ (by have h := hset.1; rw [Hgl.out] at h ⊢; exact h) (hst 22 (by decide)) (HG.out.stays (hst 5 (by decide)) (hst 84 (by decide)))
  have hT1 := HT.out.stays (hst 5 (by decide)) (hst 84 (by decide))
  have hr1 : (U.setCells X 0 gl).there X 13 tl.toArray.size := there_row hC1.bx 13 _ (by rw [xbl_len, gcX_len, tcX_len]; show 13 + tl.length ≤ _; omega)
  have hset2 := set_tak (tl' := tl) hC1.bx (gcX_len D g' (A.giv a1 c1 a2 c2)) (by rw [tcX_len, htn])
  have hst2 : ∀ T, T ≠ 39 → Stays T (U.setCells X 0 gl) ((U.setCells X 0 gl).setCells X 13 tl) := fun T hT => Stays.ofSet hset2.2 hC1.bx hT
  have hC2 := hC1.taken (W1 := (U.setCells X 0 gl).setCells X 13 tl) ⟨hset2.2.size, fun T a _ => hst2 T a, (Below.refl B _).grown hset2.2 hC1.hB (fun k e => by cases e; exact hC1.bX)⟩ (by have h := hset2.1; rw [Htl.out] at h ⊢; exact h) (hst2 22 (by decide)) (hT1.stays (hst2 5 (by decide)) (hst2 84 (by decide)))
  have HC2 := hid hC2
  have HKP : Hid (Kp B w ((U.setCells X 0 gl).setCells X 13 tl)) := hid (Hdr.out.trans ⟨Nat.le_trans hset.2.size hset2.2.size, fun T a _ => (hst T a).trans (hst2 T a), ((Below.refl B U).grown hset.2 HC.out.hB (fun k e => by cases e; exact HC.out.bX)).trans ((Below.refl B _).grown hset2.2 hC1.hB (fun k e => by cases e; exact hC1.bX))⟩)
  have hs1 : (U.setCells X 0 gl).heap[Y]? = U.heap[Y]? ∧ (U.setCells X 0 gl).heap[Z]? = U.heap[Z]? := ⟨(row_grown HY.out hset.2 hXY).trans HY.out.symm, (row_grown HZ.out hset.2 hXZ).trans HZ.out.symm⟩
  have hs2 : ((U.setCells X 0 gl).setCells X 13 tl).heap[Y]? = (U.setCells X 0 gl).heap[Y]? ∧ ((U.setCells X 0 gl).setCells X 13 tl).heap[Z]? = (U.setCells X 0 gl).heap[Z]? := ⟨(row_grown (hs1.1.trans HY.out) hset2.2 hXY).trans (hs1.1.trans HY.out).symm, (row_grown (hs1.2.trans HZ.out) hset2.2 hXZ).trans (hs1.2.trans HZ.out).symm⟩
  have hi0 : (Try.prog.info? 28).map (·.size) = some gl.toArray.size := by
    show _ = some gl.length
    rw [hgn]
    kernel_rfl
  have hi1 : (Try.prog.info? 33).map (·.size) = some tl.toArray.size := by
    show _ = some tl.length
    rw [htn]
    kernel_rfl
  clear hset hset2 hst hst2 hC1 hC2 hT1 hgn htn
  iterate 2 (refine wpL_do rfl (fun w' hw' => (by go_simp; rfl)) ?_; simp only [Act.put, List.setIfInBounds_toArray, List.set_cons_succ, List.set_cons_zero])
  refine wpL_load 28 _ ⟨Y, 0, none⟩ _ rfl rfl rfl ld0 ?_
  simp only [Act.put, List.setIfInBounds_toArray, List.set_cons_succ, List.set_cons_zero]
  refine wpL_load 33 _ ⟨Z, 0, none⟩ _ rfl rfl rfl ld1 ?_
  simp only [Act.put, List.setIfInBounds_toArray, List.set_cons_succ, List.set_cons_zero]
  clear ld0 ld1
  iterate 2 (refine wpL_do rfl (fun w' hw' => (by go_simp; rfl)) ?_; simp only [Act.put, List.setIfInBounds_toArray, List.set_cons_succ, List.set_cons_zero])
  refine wpL_call rfl (fun K hK => ?_)
  refine wp_store_mid 28 _ _ rfl X 0 gl.toArray rfl rfl hr0 hi0 hg1 ?_
  rw [show gl.toArray.toList = gl from rfl]
  refine hK _ _ hs1 ?_
  clear hK K hr0 hi0 hg1
  generalize U.setCells X 0 gl = U1 at *
  try simp only [Act.put]
  iterate 2 (refine wpL_do rfl (fun w' hw' => (by go_simp; rfl)) ?_; simp only [Act.put, List.setIfInBounds_toArray, List.set_cons_succ, List.set_cons_zero])
  refine wpL_call rfl (fun K hK => ?_)
  refine wp_store_mid 33 _ _ rfl X 13 tl.toArray rfl rfl hr1 hi1 ht1 ?_
  rw [show tl.toArray.toList = tl from rfl]
  refine hK _ _ hs2 ?_
  clear hK K hr1 hi1 ht1 hs1 hs2
  generalize U1.setCells X 13 tl = U2 at *
  try simp only [Act.put]
  refine wpL_nil ?_
  simp only [List.drop_succ_cons, List.drop_zero]
  go_wp2_with fail
  try unfold OnlyOn
  try go_wp2_with fail
  refine q_fr (N := 211) HQ.out rfl ⟨⟨S0.out.symm, rfl, rfl, rfl, rfl⟩, HC2.out, HKP.out⟩
/-- what holds in a tick -/
structure TFact (P : Par) (h : HW) (c : CS) (a : List NT × List NT) (k : TS × List NT) (e : List NT × List NT) : Prop where
  gi : GI P (giveG P c.g).1
  gv : ∀ n ∈ (giveG P c.g).2, vD P (giveG P c.g).1.st n
  gl : (giveG P c.g).2.length ≤ P.b + 1
  wi : TI P (waitT P c.t).1
  wv : ∀ n ∈ (waitT P c.t).2, vU P c.g.st c.t.st n
  wl : (waitT P c.t).2.length ≤ 1
  en : (waitT P c.t).1.en = true → 1 ≤ (giveG P c.g).1.st
  av : ∀ n ∈ a.1, vD P (giveG P c.g).1.st n
  al : a.1.length ≤ h.d ∧ a.2.length ≤ c.dn.length + (P.b + 1)
  ev : ∀ n ∈ e.1, vU P (giveG P c.g).1.st k.1.st n
  el : e.1.length ≤ h.u
  kl : k.2.length ≤ 3 * h.d
theorem CI.facts {P : Par} {k : Nat} {c : CS} (h : CI P k c) (hm : 0 < P.m) (hp : 0 < P.p) (hk : k < 100) (w : HW) : TFact P w c (comesL w.pick w.cp w.ls 0 w.d (c.dn ++ (giveG P c.g).2)) (takesL P (waitT P c.t).1 (comesL w.pick w.cp w.ls 0 w.d (c.dn ++ (giveG P c.g).2)).1)
    (comesL w.pick w.cp w.ls 0 w.u (c.up ++ (waitT P c.t).2 ++ (takesL P (waitT P c.t).1 (comesL w.pick w.cp w.ls 0 w.d (c.dn ++ (giveG P c.g).2)).1).2)) := by
  obtain ⟨hg, ht, hdn, hup, hen, hgt, hgr, htr⟩ := h
  obtain ⟨a1, a2, a3, a4, a5, a6⟩ := hg.give hm hp (by omega)
  obtain ⟨b1, b2, b3, b4, b5, b6, b7, b8, b9⟩ := ht.wait (gs := c.g.st) hp hen (fun e => by have := htr e; omega)
  obtain ⟨c1, c2, c3, c4⟩ := comes_mem w.pick w.cp w.ls w.d 0 (c.dn ++ (giveG P c.g).2)
  have hv1 : ∀ n ∈ c.dn ++ (giveG P c.g).2, vD P (giveG P c.g).1.st n := fun n hn => by
    rcases List.mem_append.1 hn with k1 | k1
    · exact vD_mono (hdn n k1) a3 (fun e => by have := a1.st; omega)
    · exact a2 n k1
  have hen2 : (waitT P c.t).1.en = true → 1 ≤ (giveG P c.g).1.st := fun e => by rw [b4] at e; exact Nat.le_trans (hen e) a3
  have d := takes_ok hp (giveG P c.g).1.st (comesL w.pick w.cp w.ls 0 w.d (c.dn ++ (giveG P c.g).2)).1 (waitT P c.t).1 b1 hen2 (fun n hn => hv1 n (c1 n hn))
  generalize comesL w.pick w.cp w.ls 0 w.d (c.dn ++ (giveG P c.g).2) = a at *
  generalize takesL P (waitT P c.t).1 a.1 = kk at *
  obtain ⟨e1, e2, e3, e4⟩ := comes_mem w.pick w.cp w.ls w.u 0 (c.up ++ (waitT P c.t).2 ++ kk.2)
  have hv2 : ∀ n ∈ c.up ++ (waitT P c.t).2 ++ kk.2, vU P (giveG P c.g).1.st kk.1.st n := fun n hn => by
    rcases List.mem_append.1 hn with k1 | k1
    · rcases List.mem_append.1 k1 with k2 | k2
      · exact vU_mono (hup n k2) a3 (fun e => d.st (by rw [b3]; exact e))
      · exact vU_mono (b2 n k2) a3 (fun e => d.st (by rw [b3]; exact e))
    · exact d.up n k1
  rw [List.length_append] at c4
  exact ⟨a1, a2, a6, b1, b2, b7, hen2, fun n hn => hv1 n (c1 n hn), ⟨c3, by omega⟩, fun n hn => hv2 n (e1 n hn), e3, by have := d.len; omega⟩
end Go.Proofs.Ytopmamgdfngdoaa
/- deliver: a tick (walk 7). -/
namespace Go.Proofs.Ytopmamgdfngdoaa
set_option linter.unusedVariables false
open Go.RowKit

structure TickR (D : DP) (w W : World) (X B : Nat) (c : CS) (e : Ending) : Prop where
  he : e = .returned (.bool true)
  ex : ∃ A, CB D W X B c.g c.t A ∧ A.db.map (·.k) = c.dn ∧ A.ub.map (·.k) = c.up
  kp : Kp B w W
theorem at211 {y : Nat → Value} {k : Nat} {v : Value} (hk : k < 211) (h : y k = v) : (fr 211 y).getD k undef = v := (fr_at 211 y k hk).trans h
set_option maxRecDepth 1000000 in
set_option maxHeartbeats 8000000 in
theorem tick_ok (D : DP) (hD : DOk D) (hSum : SumOk D) (X B k : Nat) (c : CS) (A : CA) (d u : Nat) (q lo cp : Int) (w : World) (hB : B ≤ w.heap.size) (h : CB D w X B c.g c.t A) (hdn : A.db.map (·.k) = c.dn) (hup : A.ub.map (·.k) = c.up) (hci : CI D.P k c) (hk : k < 100)
    (hd : d ≤ 1000) (hu : u ≤ 1000) (hq : -9223372036854775808 ≤ q ∧ q ≤ 9223372036854775807) (hl1 : c.dn.length ≤ 20000) (hl2 : c.up.length ≤ 20000) (hfin : (tickD D.P ⟨d, u, pkF q, btF cp, btF lo⟩ c).dn.length < 5000) :
    Calls Try.prog 7 #[.pointer (some ⟨X, 0, none⟩), .agg #[.int .i64 (d : Int), .int .i64 (u : Int), .int .i64 q, .int .i64 lo, .int .i64 cp]] w fun e w' => TickR D w w' X B (tickD D.P ⟨d, u, pkF q, btF cp, btF lo⟩ c) e := by
  have F := hid (hci.facts hD.P.m hD.P.p hk ⟨d, u, pkF q, btF cp, btF lo⟩)
  have hb9 := hD.P.b9
  have HF := hid hfin
  have hgtr : c.g.tr < 100 := by have := hci.gr; omega
  have httr : c.t.st = 0 → c.t.tr < 100 := fun e => by have := hci.tr e; omega
  have HI := hid hci
  have Hdn := hid hdn
  have Hup := hid hup
  have Htk : Hid (∀ P' hh cc, tickD P' hh cc = ⟨(repliesL P' (giveG P' cc.g).1 (comesL hh.pick hh.cp hh.ls 0 hh.u (cc.up ++ (waitT P' cc.t).2 ++ (takesL P' (waitT P' cc.t).1 (comesL hh.pick hh.cp hh.ls 0 hh.d (cc.dn ++ (giveG P' cc.g).2)).1).2)).1).1, (takesL P' (waitT P' cc.t).1 (comesL hh.pick hh.cp hh.ls 0 hh.d (cc.dn ++ (giveG P' cc.g).2)).1).1, (comesL hh.pick hh.cp hh.ls 0 hh.d (cc.dn ++ (giveG P' cc.g).2)).2 ++ (repliesL P' (giveG P' cc.g).1 (comesL hh.pick hh.cp hh.ls 0 hh.u (cc.up ++ (waitT P' cc.t).2 ++ (takesL P' (waitT P' cc.t).1 (comesL hh.pick hh.cp hh.ls 0 hh.d (cc.dn ++ (giveG P' cc.g).2)).1).2)).1).2, (comesL hh.pick hh.cp hh.ls 0 hh.u (cc.up ++ (waitT P' cc.t).2 ++ (takesL P' (waitT P' cc.t).1 (comesL hh.pick hh.cp hh.ls 0 hh.d (cc.dn ++ (giveG P' cc.g).2)).1).2)).2⟩) := hid (fun _ _ _ => rfl)
  rw [Htk.out] at HF ⊢
  obtain ⟨la, hla⟩ : ∃ la, la = comesL (pkF q) (btF cp) (btF lo) 0 d (c.dn ++ (giveG D.P c.g).2) := ⟨_, rfl⟩
  dsimp only at F HF ⊢
  rw [← hla] at F HF ⊢
  obtain ⟨lk, hlk⟩ : ∃ lk, lk = takesL D.P (waitT D.P c.t).1 la.1 := ⟨_, rfl⟩
  rw [← hlk] at F HF ⊢
  obtain ⟨le, hle⟩ : ∃ le, le = comesL (pkF q) (btF cp) (btF lo) 0 u (c.up ++ (waitT D.P c.t).2 ++ lk.2) := ⟨_, rfl⟩
  rw [← hle] at F HF ⊢
  have Hla := hid hla
  have Hlk := hid hlk
  have Hle := hid hle
  have bT := below_alloc w (.cells #[.int .i64 (d : Int), .int .i64 (u : Int), .int .i64 q, .int .i64 lo, .int .i64 cp] 41)
  have AT := heap_alloc_new w (.cells #[.int .i64 (d : Int), .int .i64 (u : Int), .int .i64 q, .int .i64 lo, .int .i64 cp] 41)
  have HC := hid (h.below bT)
  have HT := hid AT
  have HK0 := hid (Kp.ofBelow bT hB)
  clear h hdn hup hci hfin hla hlk hle bT AT
  go_enter Try.func7, Try.ntmps7
  refine wp_seq_k (fun K0 hK0 => ?_)
  go_wp2_with fail
  refine hK0.out _ _ ?_
  obtain ⟨T, hTe⟩ : ∃ T, T = w.heap.size := ⟨_, rfl⟩
  rw [← hTe] at HT ⊢
  clear hTe
  generalize w.alloc (.cells #[.int .i64 (d : Int), .int .i64 (u : Int), .int .i64 q, .int .i64 lo, .int .i64 cp] 41) = V at *
  -- Give
  refine wp_seq_k (fun K1 hK1 => ?_)
  refine Tri.use (tick_r1 D hD hSum X B c.g c.t A HI.out.g hgtr) rfl ⟨rfl, HC.out⟩ ?_
  rintro y1 W1 ⟨⟨e0, e3, e4⟩, e7, Y, a1, c1, a2, c2, oa, oc, ws1, e5, e6, hY, hG, hN1, hw1, hb1⟩
  refine hK1.out _ _ ?_
  -- Wait
  refine wp_seq_k (fun K2 hK2 => ?_)
  refine Tri.use (tick_r2 D hD X B c.g c.t A HI.out.t httr) rfl ⟨at211 (by decide) e0, HC.out.below hb1⟩ ?_
  rintro y2 W2 ⟨⟨f0, f3, f4, f5, f6, f7⟩, f10, Z, b1, d1, b2, d2, pa, pc, ws2, f8, f9, hZ, hT2, hN2, hw2, hb2⟩
  refine hK2.out _ _ ?_
  have g0 := f0.trans (at211 (by decide) e0)
  have g3 := f3.trans (at211 (by decide) e3)
  have g4 := f4.trans (at211 (by decide) e4)
  have g5 := f5.trans (at211 (by decide) e5)
  have g6 := f6.trans (at211 (by decide) e6)
  have g7 := f7.trans (at211 (by decide) e7)
  clear e0 e3 e4 e5 e6 e7 f0 f3 f4 f5 f6 f7
  have HK2 := hid (HK0.out.trans ((Kp.ofBelow hb1 HC.out.hB).trans (Kp.ofBelow hb2 (HC.out.below hb1).hB)))
  have hC2 := (HC.out.below hb1).below hb2
  have hT41 := row_below (row_below HT.out hb1) hb2
  have HN1 := hid (hN1.below hb2)
  have hwv1 : ∀ v ∈ ws1, vN D v.k := fun v hv => vD_vN hD (F.out.gv v.k (by rw [← hw1]; exact List.mem_map_of_mem hv))
  have hwv2 : ∀ v ∈ ws2, vN D v.k := fun v hv => vU_vN (F.out.wv v.k (by rw [← hw2]; exact List.mem_map_of_mem hv))
  have hwl1 : ws1.length ≤ 10 := by
    have h1 := congrArg List.length hw1
    rw [List.length_map] at h1
    have := F.out.gl
    omega
  have hwl2 : ws2.length ≤ 1 := by
    have h1 := congrArg List.length hw2
    rw [List.length_map] at h1
    have := F.out.wl
    omega
  have hdl : A.db.length ≤ 20000 := by rw [← Hdn.out, List.length_map] at hl1; exact hl1
  have hul : A.ub.length ≤ 20000 := by rw [← Hup.out, List.length_map] at hl2; exact hl2
  rw [fr211]
  simp only [g0, g3, g4, g5, g6, g7, f8, f9, f10]
  clear g0 g3 g4 g5 g6 g7 f8 f9 f10 HC
  have HN2 := hid hN2
  have Hw1 := hid hw1
  have Hw2 := hid hw2
  have HY2 := hid (row_below hY hb2)
  have HG2 := hid (hG.below hb2)
  have HZ2 := hid hZ
  have HTk := hid hT2
  have HC2 := hid hC2
  have HT2 := hid hT41
  clear hN1 hN2 hw1 hw2 hY hG hZ hT2 hC2 hT41 hb1 hb2 HT HK0
  generalize hz : ws1.length = wn1 at *
  generalize hz2 : ws2.length = wn2 at *
  have Hz := hid hz
  have Hz2 := hid hz2
  clear hz hz2
  refine wp_seq_k (fun K3 hK3 => ?_)
  refine wp_seq_k (fun K4 hK4 => ?_)
  go_wp2_with fail
  refine hK4.out _ _ ?_
  refine wp_cond_false rfl ?_
  go_wp2_with fail
  refine hK3.out _ _ ?_
  -- both are laid back
  refine wp_seq_k (fun K5 hK5 => ?_)
  refine Tri.use (tick_r5 D X B Y Z c.g (giveG D.P c.g).1 c.t (waitT D.P c.t).1 A a1 c1 a2 c2 b1 d1 b2 d2) rfl ⟨rfl, rfl, rfl, HC2.out, HY2.out, HG2.out, HZ2.out, HTk.out⟩ ?_
  rintro y3 W3 ⟨⟨e0, e3, e4, e6, e9⟩, hC3, hk3⟩
  refine hK5.out _ _ ?_
  have HT3 := hid (hk3.st 41 (by decide) (by decide) _ _ HT2.out)
  have HN13 := hid (HN1.out.kp hk3)
  have HN23 := hid (HN2.out.kp hk3)
  have HK3 := hid (HK2.out.trans hk3)
  rw [fr211]
  simp only [e0, e3, e4, e6, e9]
  clear e0 e3 e4 e6 e9 HC2 HY2 HG2 HZ2 HTk HT2 HN1 HN2 HK2
  have HC3 := hid hC3
  clear hC3 hk3
  refine wp_seq_k (fun K6 hK6 => ?_)
  go_wp2_with fail
  refine hK6.out _ _ ?_
  -- what they say is sent
  refine wp_seq_k (fun K7 hK7 => ?_)
  refine Tri.use (tick_s7 D hD X B _ (giveG D.P c.g).1 (waitT D.P c.t).1 ((A.giv a1 c1 a2 c2).tak b1 d1 b2 d2) oa oc ws1 hwv1 (by show A.db.length + _ ≤ _; have := Hz.out; omega)) rfl ⟨rfl, by rw [Hz.out]; rfl, HC3.out, HN13.out, Nat.le_trans hB HK3.out.sz⟩ ?_
  rintro y4 W4 ⟨⟨e0, e3, e9⟩, e11, wa4, wc4, bs4, hC4, hks4, hk4⟩
  refine hK7.out _ _ ?_
  have HK4' := hid (HK3.out.trans hk4)
  refine wp_seq_k (fun K8 hK8 => ?_)
  refine Tri.use (tick_s8 D hD X B _ (giveG D.P c.g).1 (waitT D.P c.t).1 (((A.giv a1 c1 a2 c2).tak b1 d1 b2 d2).dn wa4 wc4 bs4) pa pc ws2 hwv2 (by show A.ub.length + _ ≤ _; have := Hz2.out; omega)) rfl ⟨at211 (by decide) e0, at211 (by decide) (e9.trans (show Value.slice pa wn2 pc = Value.slice pa ws2.length pc from by rw [Hz2.out])), hC4, HN23.out.kp hk4, Nat.le_trans hB HK4'.out.sz⟩ ?_
  rintro y5 W5 ⟨⟨f0, f3, f11⟩, f12, wa5, wc5, bs5, hC5, hks5, hk5⟩
  refine hK8.out _ _ ?_
  have HK5 := hid (HK4'.out.trans hk5)
  have HT5 := hid (hk5.st 41 (by decide) (by decide) _ _ (hk4.st 41 (by decide) (by decide) _ _ HT3.out))
  have g0 := f0.trans (at211 (by decide) e0)
  have g3 := f3.trans (at211 (by decide) e3)
  have g11 := f11.trans (at211 (by decide) e11)
  rw [fr211]
  simp only [g0, g3, g11, f12]
  clear e0 e3 e9 e11 f0 f3 f11 f12 g0 g3 g11 HC3 HT3 HN13 HN23 HK3 HK4'
  have HC5 := hid hC5
  have Hks4 : Hid (bs4.map (·.k) = c.dn ++ (giveG D.P c.g).2) := hid (by
    rw [hks4]
    show A.db.map (·.k) ++ _ = _
    rw [Hdn.out, Hw1.out])
  have Hks5 : Hid (bs5.map (·.k) = c.up ++ (waitT D.P c.t).2) := hid (by
    rw [hks5]
    show A.ub.map (·.k) ++ _ = _
    rw [Hup.out, Hw2.out])
  clear hC4 hC5 hks4 hks5 hk4 hk5
  have hbl4 : bs4.length ≤ 20010 := by
    have h1 := congrArg List.length Hks4.out
    rw [List.length_map, List.length_append] at h1
    have := F.out.gl
    omega
  have hbl5 : bs5.length ≤ 20001 := by
    have h1 := congrArg List.length Hks5.out
    rw [List.length_map, List.length_append] at h1
    have := F.out.wl
    omega
  refine wp_seq_k (fun K9 hK9 => ?_)
  refine wp_seq_k (fun K10 hK10 => ?_)
  go_wp2_with fail
  refine hK10.out _ _ ?_
  refine wp_cond_false rfl ?_
  go_wp2_with fail
  refine hK9.out _ _ ?_
  -- what comes down
  refine wp_seq_k (fun K11 hK11 => ?_)
  refine Tri.use (tick_c11 D hD X B T (giveG D.P c.g).1 (waitT D.P c.t).1 ((((A.giv a1 c1 a2 c2).tak b1 d1 b2 d2).dn wa4 wc4 bs4).up wa5 wc5 bs5) d u q lo cp hd (by show bs4.length ≤ _; omega) hq) rfl ⟨rfl, rfl, HC5.out, HT5.out, Nat.le_trans hB HK5.out.sz⟩ ?_
  rintro y6 W6 ⟨⟨e0, e3, e9⟩, e11, ⟨la6, lc6, vs6, wa6, wc6, bs6, e13, e14, hnr6, hvv6, hvk6, hwy6, hbk6, hob6⟩, hb6⟩
  refine hK11.out _ _ ?_
  rw [show ((((A.giv a1 c1 a2 c2).tak b1 d1 b2 d2).dn wa4 wc4 bs4).up wa5 wc5 bs5).db = bs4 from rfl, Hks4.out, ← Hla.out] at hvk6 hbk6
  refine wp_seq_k (fun K12 hK12 => ?_)
  refine Tri.use (tick_c12 D X B (giveG D.P c.g).1 (waitT D.P c.t).1 ((((A.giv a1 c1 a2 c2).tak b1 d1 b2 d2).dn wa4 wc4 bs4).up wa5 wc5 bs5) W5 wa6 wc6 bs6) rfl ⟨at211 (by decide) e0, at211 (by decide) e14, HC5.out, hb6, hwy6, hob6⟩ ?_
  rintro y7 W7 ⟨⟨f0, f3, f9, f11, f13⟩, hC7, hk7, hk67⟩
  refine hK12.out _ _ ?_
  have HK7 := hid (HK5.out.trans hk7)
  have HT7 := hid (hk7.st 41 (by decide) (by decide) _ _ HT5.out)
  have g0 := f0.trans (at211 (by decide) e0)
  have g3 := f3.trans (at211 (by decide) e3)
  have g11 := f11.trans (at211 (by decide) e11)
  have g13 := f13.trans (at211 (by decide) e13)
  clear e0 e3 e9 e11 e13 e14 f0 f3 f9 f11 f13
  have hnr7 := hnr6.kp hk67
  have hvl6 : vs6.length ≤ d := by
    have h1 := congrArg List.length hvk6
    rw [List.length_map] at h1
    have : la.1.length ≤ d := F.out.al.1
    omega
  have hvd6 : ∀ v ∈ vs6, vD D.P (giveG D.P c.g).1.st v.k := fun v hv => F.out.av v.k (by rw [← hvk6]; exact List.mem_map_of_mem hv)
  have hbl6 : bs6.length ≤ 20010 := by
    have h1 := congrArg List.length hbk6
    rw [List.length_map] at h1
    have := F.out.al.2
    omega
  rw [fr211]
  simp only [g0, g3, g11, g13]
  clear g0 g3 g11 g13
  have HC7 := hid hC7
  have Hnr7 := hid hnr7
  have Hvk6 := hid hvk6
  have Hbk6 := hid hbk6
  have hen := F.out.en
  clear hC7 hnr7 hvk6 hbk6 hnr6 hwy6 hob6 hb6 hk7 hk67 HC5 HT5 HK5 Hks4 hbl4
  -- they are taken
  refine wp_seq_k (fun K13 hK13 => ?_)
  refine Tri.use (tick_lD D hD hSum X B _ (giveG D.P c.g).1 (giveG D.P c.g).1.st 0 la6 lc6 vs6 (waitT D.P c.t).1 (((((A.giv a1 c1 a2 c2).tak b1 d1 b2 d2).dn wa4 wc4 bs4).up wa5 wc5 bs5).dn wa6 wc6 bs6) (.pointer (some ⟨T, 0, none⟩)) F.out.wi hen hvd6 (by omega) (by show bs5.length ≤ _; omega)) rfl ⟨rfl, rfl, rfl, rfl, HC7.out, Hnr7.out, Nat.le_trans hB HK7.out.sz⟩ ?_
  rintro y8 W8 ⟨e0, e3, e11, A8, hC8, hdb8, hub8, hk8⟩
  refine hK13.out _ _ ?_
  rw [Hvk6.out, ← Hlk.out] at hC8 hub8
  have Hdb8 : Hid (A8.db.map (·.k) = la.2) := hid (hdb8.trans Hbk6.out)
  have Hub8 : Hid (A8.ub.map (·.k) = c.up ++ (waitT D.P c.t).2 ++ lk.2) := hid (by
    rw [hub8]
    show bs5.map (·.k) ++ _ = _
    rw [Hks5.out])
  have HK8 := hid (HK7.out.trans hk8)
  have HT8 := hid (hk8.st 41 (by decide) (by decide) _ _ HT7.out)
  rw [fr211]
  simp only [e0, e3, e11]
  clear e0 e3 e11 HC7 Hnr7 HK7 HT7 hdb8 hub8 hk8
  have HC8 := hid hC8
  clear hC8
  have hub8l : A8.ub.length ≤ 24000 := by
    have h1 := congrArg List.length Hub8.out
    rw [List.length_map, List.length_append, List.length_append] at h1
    have := F.out.wl
    have : lk.2.length ≤ 3 * d := F.out.kl
    omega
  have hdb8l : A8.db.length ≤ 20010 := by
    have h1 := congrArg List.length Hdb8.out
    rw [List.length_map] at h1
    have := F.out.al.2
    omega
  -- what comes up
  refine wp_seq_k (fun K14 hK14 => ?_)
  refine Tri.use (tick_c20 D hD X B T (giveG D.P c.g).1 lk.1 A8 d u q lo cp hu (by omega) hq) rfl ⟨rfl, rfl, HC8.out, HT8.out, Nat.le_trans hB HK8.out.sz⟩ ?_
  rintro y9 W9 ⟨⟨e0, e3, e11⟩, e12, ⟨la9, lc9, vs9, wa9, wc9, bs9, e17, e18, hnr9, hvv9, hvk9, hwy9, hbk9, hob9⟩, hb9'⟩
  refine hK14.out _ _ ?_
  rw [Hub8.out, ← Hle.out] at hvk9 hbk9
  refine wp_seq_k (fun K15 hK15 => ?_)
  refine Tri.use (tick_c21 D X B (giveG D.P c.g).1 lk.1 A8 W8 wa9 wc9 bs9) rfl ⟨at211 (by decide) e0, at211 (by decide) e18, HC8.out, hb9', hwy9, hob9⟩ ?_
  rintro y10 W10 ⟨⟨f0, f3, f11, f12, f17⟩, hC10, hk10, hk910⟩
  refine hK15.out _ _ ?_
  have HK10 := hid (HK8.out.trans hk10)
  have g0 := f0.trans (at211 (by decide) e0)
  have g3 := f3.trans (at211 (by decide) e3)
  have g11 := f11.trans (at211 (by decide) e11)
  have g12 := f12.trans (at211 (by decide) e12)
  have g17 := f17.trans (at211 (by decide) e17)
  clear e0 e3 e11 e12 e17 e18 f0 f3 f11 f12 f17
  have hnr10 := hnr9.kp hk910
  have hvl9 : vs9.length ≤ u := by
    have h1 := congrArg List.length hvk9
    rw [List.length_map] at h1
    have : le.1.length ≤ u := F.out.el
    omega
  have hvu9 : ∀ v ∈ vs9, vU D.P (giveG D.P c.g).1.st lk.1.st v.k := fun v hv => F.out.ev v.k (by rw [← hvk9]; exact List.mem_map_of_mem hv)
  rw [fr211]
  simp only [g0, g3, g11, g12, g17]
  clear g0 g3 g11 g12 g17
  have HC10 := hid hC10
  have Hnr10 := hid hnr10
  have Hvk9 := hid hvk9
  have Hbk9 := hid hbk9
  clear hC10 hnr10 hvk9 hbk9 hnr9 hwy9 hob9 hb9' hk10 hk910 HC8 HT8 HK8
  -- they are heard
  refine wp_seq_k (fun K16 hK16 => ?_)
  refine Tri.use (tick_lU D hD X B _ lk.1 0 lk.1.st la9 lc9 vs9 (giveG D.P c.g).1 (A8.up wa9 wc9 bs9) (.pointer (some ⟨T, 0, none⟩)) F.out.gi trivial hvu9 (by omega) (by show A8.db.length ≤ _; omega)) rfl ⟨rfl, rfl, rfl, rfl, rfl, HC10.out, Hnr10.out, Nat.le_trans hB HK10.out.sz⟩ ?_
  rintro y11 W11 ⟨e0, e3, e11, e12, A11, hC11, hub11, hdb11, hk11⟩
  refine hK16.out _ _ ?_
  rw [Hvk9.out] at hC11 hdb11
  have hdb11' : A11.db.map (·.k) = la.2 ++ (repliesL D.P (giveG D.P c.g).1 le.1).2 := by
    rw [hdb11]
    show A8.db.map (·.k) ++ _ = _
    rw [Hdb8.out]
  have hub11' : A11.ub.map (·.k) = le.2 := hub11.trans Hbk9.out
  have hlen : A11.db.length < 5000 := by
    have h1 := congrArg List.length hdb11'
    rw [List.length_map] at h1
    rw [h1]
    exact HF.out
  have c27 := hC11.c27
  have HR : Hid (TickR D w W11 X B ⟨(repliesL D.P (giveG D.P c.g).1 le.1).1, lk.1, la.2 ++ (repliesL D.P (giveG D.P c.g).1 le.1).2, le.2⟩ (.returned (.bool true))) := hid ⟨rfl, ⟨A11, hC11, hdb11', hub11'⟩, HK10.out.trans hk11⟩
  rw [fr211]
  simp only [e0, e3, e11, e12]
  clear e0 e3 e11 e12 hC11 hub11 hdb11 hdb11' hub11' hk11
  obtain ⟨dn11, hdn11⟩ : ∃ n, n = A11.db.length := ⟨_, rfl⟩
  obtain ⟨da11, hda11⟩ : ∃ n, n = A11.da := ⟨_, rfl⟩
  obtain ⟨dc11, hdc11⟩ : ∃ n, n = A11.dc := ⟨_, rfl⟩
  unfold dvl at c27
  rw [← hdn11, ← hda11, ← hdc11] at c27
  rw [← hdn11] at hlen
  clear hdn11 hda11 hdc11
  have hlI : (dn11 : Int) < 5000 := by omega
  refine wp_seq_k (fun K17 hK17 => ?_)
  go_wp2_with fail
  refine hK17.out _ _ ?_
  go_wp2_with fail
  refine bodyPost_ret (results_tmp (fn := Try.f7) rfl _ _ _) rfl ?_
  exact HR.out
end Go.Proofs.Ytopmamgdfngdoaa
/- deliver: Offer of a file that is too long; the pieces of the law. -/
namespace Go.Proofs.Ytopmamgdfngdoaa
set_option linter.unusedVariables false
open Go.RowKit

def zg13 : Array Value := #[.int .i64 0, .string { data := #[] }, .slice none 0 0, .int .i64 0, .int .i64 0, .int .i64 0, .bool false, .int .i64 0, .slice none 0 0, .int .i64 0, .int .i64 0, .int .i64 0, .int .i64 0]
set_option maxRecDepth 1000000 in
set_option maxHeartbeats 4000000 in
theorem offer_big (m b p : Nat) (a : Option Addr) (n c : Nat) (w : World) (hn : 65536 < n) (h1 : 1 ≤ m ∧ m ≤ 1024) (h2 : 1 ≤ b ∧ b ≤ 50) (h3 : 1 ≤ p ∧ p ≤ 1000) :
    Calls Try.prog 5 #[.int .i64 7, .string logS, .slice a n c, .int .i64 (m : Int), .int .i64 (b : Int), .int .i64 (p : Int), .int .i64 100] w fun e w' => e = .returned (.tuple #[.agg zg13, .int .i64 1]) ∧ Below w.heap.size w w' := by
  have bN := hid (below_alloc w (.cells zg13 28))
  have A := hid (heap_alloc_new w (.cells zg13 28))
  have d1 : (65536 : Int) < (n : Int) := by omega
  have hlog : (logS.size : Int) = 3 := by rw [log_len]; rfl
  generalize hlS : logS = lS at *
  clear hlS
  unfold zg13 at *
  go_enter Try.func5, Try.ntmps5
  refine wp_seq_k (fun K0 hK0 => ?_)
  go_wp2_with fail
  refine hK0.out _ _ ?_
  obtain ⟨X, hX⟩ : ∃ X, X = w.heap.size := ⟨_, rfl⟩
  rw [← hX] at A ⊢
  have HX := hid hX
  clear hX
  generalize w.alloc (.cells #[.int .i64 0, .string { data := #[] }, .slice none 0 0, .int .i64 0, .int .i64 0, .int .i64 0, .bool false, .int .i64 0, .slice none 0 0, .int .i64 0, .int .i64 0, .int .i64 0, .int .i64 0] 28) = V at *
  refine wp_seq_k (fun K1 hK1 => ?_)
  refine wp_block ?_
  go_wp2_with (first | (go_at_call 9; refine (in_ok _ _ _ _ (by omega) (by omega)).mono ?_; rintro e w' ⟨rfl, hw'⟩; rw [hw']; clear hw' w') | (with_reducible refine at_store 28 ?_))
  unfold Hid
  obtain ⟨m1, m2⟩ := set_whole (cs' := #[.int .i64 0, .string { data := #[] }, .slice none 0 0, .int .i64 0, .int .i64 0, .int .i64 0, .bool false, .int .i64 0, .slice none 0 0, .int .i64 0, .int .i64 0, .int .i64 0, .int .i64 0]) (Hid.out A)
  refine wpList_store_row rfl 28 _ _ rfl X #[.int .i64 0, .string { data := #[] }, .slice none 0 0, .int .i64 0, .int .i64 0, .int .i64 0, .bool false, .int .i64 0, .slice none 0 0, .int .i64 0, .int .i64 0, .int .i64 0, .int .i64 0] rfl rfl 28 _ (Hid.out A) (by kernel_rfl) rfl (by simp [Value.oneCell']) ?_
  have HF := hid m1
  have HB := hid ((Hid.out bN).grown m2 (Hid.out bN).size (fun k e => by cases e; rw [HX.out]; exact Nat.le_refl _))
  clear m1 m2 A bN
  generalize V.setRow X _ = V2 at *
  go_wp2_with fail
  refine bodyPost_ret (results_c1 (fn := Try.f5) rfl _ V2 X 28 _ _ rfl HF.out (by kernel_rfl) (by kernel_rfl)) rfl ?_
  exact ⟨rfl, by rw [HX.out]; exact HB.out⟩
theorem pk0 (n : Nat) : pk 0 n = 0 := by
  unfold pk
  simp
theorem pkF0 : pkF 0 = fun _ _ => 0 := by
  funext i n
  unfold pkF
  rw [Int.zero_mul]
  rw [show wrap64 0 = 0 from by unfold wrap64; omega]
  exact pk0 n
theorem btF0 : btF 0 = fun _ => false := by
  funext i
  unfold btF
  rw [Int.zero_ediv]
  rfl
theorem quietE : (⟨1000, 1000, pkF 0, btF 0, btF 0⟩ : HW) = quietD := by
  rw [pkF0, btF0]
  rfl
end Go.Proofs.Ytopmamgdfngdoaa
