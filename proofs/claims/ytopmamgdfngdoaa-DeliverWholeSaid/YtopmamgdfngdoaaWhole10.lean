/- deliver: a giver at work: again. -/
import Derived.Test.YtopmamgdfngdoaaWhole9
import Derived.Deep.CutBlock
namespace Go.Proofs.Ytopmamgdfngdoaa
set_option linter.unusedVariables false
open Go.RowKit

/-- the first of what goes once more is written over -/
theorem GW.first {D : DP} {W : World} {X B g0 o0 : Nat} {g : GS} {A : GA} {o : List NV} {s : Sp} {r : List Sp} (h : GW D W X B g A o) (hs : g.ag = s :: r) (ha : A.aa = some ⟨g0, o0, none⟩) (x : Nat) :
    GW D (W.setCell ⟨g0, o0, none⟩ (.int .i64 (x : Int))) X B { g with ag := (x, s.2) :: r } A o ∧ W.grownBy (W.setCell ⟨g0, o0, none⟩ (.int .i64 (x : Int))) (some g0) := by
  have h1 := h.a
  rw [hs, ha] at h1
  obtain ⟨k1, k2⟩ := h1.first x
  obtain ⟨g', o', cur, e1, _, _, hrow, _⟩ := h1.head
  injection e1 with e1
  injection e1 with e1 e2 _
  subst e1 e2
  have s5 : Stays 5 W (W.setCell ⟨g0, o0, none⟩ (.int .i64 (x : Int))) := Stays.ofSet k2 hrow (by decide)
  have hX : X ≠ g0 := fun e => by
    subst e
    have := h.bx
    rw [hrow] at this
    injection this with this
    injection this with _ h3
    cases h3
  refine ⟨⟨?_, h.f.stays s5, by rw [ha]; exact k1, row_kept_own hrow h.ow k2 (by decide), fun v hv => (h.ns v hv).stays5 s5 (h.nog v hv), h.nog⟩, k2⟩
  rw [row_grown h.bx k2 hX, hs]
  rfl
set_option maxRecDepth 1000000 in
set_option maxHeartbeats 8000000 in
theorem again_tail (D : DP) (X B x y g0 o0 : Nat) (g : GS) (A : GA) (o : List NV) (r : List Sp) (hB : B ≤ X) (hA : A.aa = some ⟨g0, o0, none⟩) :
    Tri Try.prog 48 (pieceOf Try.f43 [1, 1]) (fun y' w => y' 0 = .pointer (some ⟨X, 0, none⟩) ∧ y' 2 = .pointer (some ⟨g0, o0, none⟩) ∧ GW D w X B { g with ag := (x, y) :: r } A o)
      (fun _ w _ w' => ∃ A', GW D w' X B { g with ag := if x = y then r else (x, y) :: r } A' o ∧ GwS w w' B) := by
  rintro Q z w ⟨s0, s2, h⟩ hQ
  have HQ := hid hQ
  clear hQ
  dsimp only at HQ
  have hdr := (Below.refl w.heap.size w).drew
  have H := hid (h.below hdr)
  have Hd := hid (((GwS.refl w B).below (h.lt hB) hdr))
  clear h hdr
  conv => arg 2; whnf
  rw [fr48]
  simp only [s0, s2]
  clear s0 s2
  refine wp_seq_k (fun K0 hK0 => ?_)
  refine wp_region_can_all [] [0, 1, 2, 3, 4, 5, 6, 7, 8] (fun u u' => u' = u) (fun _ => rfl) (fun _ _ _ h k => k.trans h) (by kernel_rfl) (by kernel_rfl) ?_
  simp only [List.map_cons, List.map_nil, List.contains_nil, List.getD_cons_zero, List.getD_cons_succ]
  generalize w.drew = U at *
  have hh := H.out.a
  rw [hA] at hh
  obtain ⟨g0', o0', cur, e1, hl, hg0, hrow, hlc, hcm, hsz, hall, k0, k1⟩ := hh.head
  injection e1 with e1
  injection e1 with e1 e2 _
  subst e1 e2
  dsimp only at k0 k1
  have e0 : U.cell? ⟨g0, o0, none⟩ = some (.int .i64 (x : Int)) := by rw [cell_of_row _ _ _ _ _ _ hrow]; exact k0
  have e1 : U.cell? ⟨g0, o0 + 1, none⟩ = some (.int .i64 (y : Int)) := by rw [cell_of_row _ _ _ _ _ _ hrow]; exact k1
  have c8 : U.cell? ⟨X, 8, none⟩ = some (.slice (some ⟨g0, o0, none⟩) (r.length + 1) A.ac) := by rw [cell_of_row _ _ _ _ _ _ H.out.bx, ← hA]; rfl
  have Hh := hid hh
  clear hh hrow hall k0 k1 hl
  by_cases hxy : x = y
  · subst hxy
    rw [if_pos rfl] at HQ
    iterate 8 (refine wpL_do rfl (fun w' hw' => (by cases hw'; go_simp; rfl)) ?_; simp only [Act.put, List.setIfInBounds_toArray, List.set_cons_succ, List.set_cons_zero])
    refine wpL_do (v := .bool true) rfl (fun w' hw' => (by cases hw'; go_simp)) ?_
    simp only [Act.put, List.setIfInBounds_toArray, List.set_cons_succ, List.set_cons_zero]
    refine wpL_nil ?_
    refine hK0.out _ _ ?_
    refine wp_cond_true rfl ?_
    clear e0 e1
    have hcut : ∀ w, (Instr.sliceAt 26 (.slice (some ⟨g0, o0, none⟩) (r.length + 1) A.ac) (some (.int .i64 1)) none none).run Try.prog w = .ok (.slice (some ⟨g0, if A.ac = 1 then o0 else o0 + 2, none⟩) r.length (A.ac - 1)) w := fun w => by
      have := run_cut26 g0 o0 (r.length + 1) A.ac (by omega) w
      rw [Nat.add_sub_cancel] at this
      exact this
    obtain ⟨o1, ho1⟩ : ∃ o1, o1 = if A.ac = 1 then o0 else o0 + 2 := ⟨_, rfl⟩
    rw [← ho1] at hcut
    have htl := Hh.out.tail
    rw [← ho1, show ((x, x) :: r).length - 1 = r.length from rfl] at htl
    have fz := frozen_row H.out.bx 8
    obtain ⟨m1, m2⟩ := set_row (cs' := gwc D { g with ag := r } { A with aa := some ⟨g0, o1, none⟩, ac := A.ac - 1 } r.length o.length) H.out.bx 8 (.slice (some ⟨g0, o1, none⟩) r.length (A.ac - 1)) rfl
    have HG := hid (H.out.set (g' := { g with ag := r }) (A' := { A with aa := some ⟨g0, o1, none⟩, ac := A.ac - 1 }) m2 m1 rfl rfl rfl rfl htl)
    have HS := hid (Hd.out.set hB H.out.bx m2)
    clear m1 m2 htl ho1 H Hd
    go_wp2_with fail
    exact q_fr (N := 48) HQ.out rfl ⟨_, HG.out, HS.out⟩
  · rw [if_neg hxy] at HQ
    have hxy' : ¬ (x : Int) = (y : Int) := by omega
    iterate 8 (refine wpL_do rfl (fun w' hw' => (by cases hw'; go_simp; rfl)) ?_; simp only [Act.put, List.setIfInBounds_toArray, List.set_cons_succ, List.set_cons_zero])
    refine wpL_do (v := .bool false) rfl (fun w' hw' => (by cases hw'; go_simp)) ?_
    simp only [Act.put, List.setIfInBounds_toArray, List.set_cons_succ, List.set_cons_zero]
    refine wpL_nil ?_
    refine hK0.out _ _ ?_
    refine wp_cond_false rfl ?_
    go_wp2_with fail
    exact q_fr (N := 48) HQ.out rfl ⟨A, H.out, Hd.out⟩
set_option maxRecDepth 1000000 in
set_option maxHeartbeats 8000000 in
theorem again_ok (D : DP) (hD : DOk D) (X B : Nat) (g : GS) (A : GA) (o : List NV) (s : Sp) (r : List Sp) (w : World) (hB : B ≤ X) (h : GW D w X B g A o) (hn : o.length ≤ 100000) (ha : g.ag = s :: r) (hs : vSp D.P.F s) :
    Calls Try.prog 43 #[.pointer (some ⟨X, 0, none⟩)] w fun e w' => GwR D w w' X B (againG D.P g s r).1 [(againG D.P g s r).2] e o (.tuple #[]) := by
  have hh := h.a
  rw [ha] at hh
  obtain ⟨g0, o0, cur, hA, hl, hg0, hrow, hlc, hcm, hsz, hall, k0, k1⟩ := hh.head
  obtain ⟨x, y⟩ := s
  dsimp only at k0 k1
  have c8 : w.cell? ⟨X, 8, none⟩ = some (.slice (some ⟨g0, o0, none⟩) (r.length + 1) A.ac) := by
    rw [cell_of_row _ _ _ _ _ _ h.bx, ← hA]
    show some (Value.slice A.aa g.ag.length A.ac) = _
    rw [ha]
    rfl
  have d0 : (0 : Int) < ((r.length + 1 : Nat) : Int) := by omega
  have d0' : (0 : Int) < (r.length : Int) + 1 := by omega
  have H := hid h
  have hF := hD.P.F
  have hm := hD.P.m
  have hm40 := hD.m40
  have heq := eq84
  have HA := hid hA
  have Ha := hid ha
  have Hh := hid hh
  have Hl := hid hl
  have e0 : w.cell? ⟨g0, o0, none⟩ = some (.int .i64 (x : Int)) := by rw [cell_of_row _ _ _ _ _ _ hrow]; exact k0
  have e1 : w.cell? ⟨g0, o0 + 1, none⟩ = some (.int .i64 (y : Int)) := by rw [cell_of_row _ _ _ _ _ _ hrow]; exact k1
  clear h hh hl hrow hall k0 k1 hA ha
  go_enter Try.func43, Try.ntmps43
  refine wp_seq_k (fun K0 hK0 => ?_)
  go_wp2_with fail
  refine hK0.out _ _ ?_
  clear c8
  -- what is left once the first is known
  have hend : ∀ (W : World) (A2 : GA) (x2 : Nat) (o2 : List NV) (t : Array Value), GW D W X B { g with ag := (x2, y) :: r } A2 o2 → A2.aa = some ⟨g0, o0, none⟩ → t.size = 48 → True := fun _ _ _ _ _ _ _ _ => trivial
  refine wp_seq_k (fun K1 hK1 => ?_)
  refine wp_seq_k (fun K2 hK2 => ?_)
  rcases hs with hs | ⟨hs1, hs2⟩
  · obtain ⟨rfl, rfl⟩ : x = 0 ∧ y = 0 := by injection hs with h1 h2; exact ⟨h1, h2⟩
    go_wp2_with fail
    refine hK2.out _ _ ?_
    refine wp_cond_true rfl ?_
    clear e0 e1
    have hnm := hid (name_ok D X B g A o w hB H.out hn)
    go_wp2_with fail
    refine (Calls.mono hnm.out ?_)
    intro e w' hs'
    obtain ⟨rfl, ⟨oa, oc, vs, hg, hks⟩, hsw⟩ := hs'
    have hg2 : GW D w' X B { g with ag := (0, 0) :: r } { A with oa := oa, oc := oc } (o ++ vs) := by
      have e : ({ g with ag := (0, 0) :: r } : GS) = g := by rw [← Ha.out]
      rw [e]
      exact hg
    have HG := hid hg2
    have HS := hid hsw
    have HK := hid hks
    clear hg hg2 hsw hks hnm H hend
    go_wp2_with fail
    refine hK1.out _ _ ?_
    refine use_fr (N := 48) rfl ?_
    refine Tri.use (again_tail D X B 0 0 g0 o0 g { A with oa := oa, oc := oc } (o ++ vs) r hB HA.out) rfl ⟨rfl, rfl, HG.out⟩ ?_
    rintro y2 W2 ⟨A2, hg2, hs2⟩
    rw [if_pos rfl] at hg2
    have HG2 := hid hg2
    have HS2 := hid (HS.out.trans hs2)
    clear hg2 hs2 HG HS
    go_end0
    refine ⟨rfl, ⟨A2, vs, ?_, ?_⟩, HS2.out⟩
    · unfold againG
      rw [if_pos rfl]
      exact HG2.out
    · rw [HK.out]
      unfold againG
      rw [if_pos rfl]
  · have hy : ¬ y = 0 := by have : x < y := hs1; omega
    have dy : ((x : Int) == 0 && (y : Int) == 0) = false := by rw [Bool.and_eq_false_iff]; right; simpa using hy
    have dy2 : ((y : Int) == 0) = false := by simpa using hy
    go_wp2_with fail
    refine hK2.out _ _ ?_
    refine wp_cond_false rfl ?_
    clear dy dy2
    -- a piece goes
    refine wp_region_can 13 [10] [0, 1, 2, 3, 4, 5, 6, 7, 8, 9, 11, 10, 12] (fun u u' => u'.cell? ⟨g0, o0, none⟩ = u.cell? ⟨g0, o0, none⟩ ∧ u'.cell? ⟨g0, o0 + 1, none⟩ = u.cell? ⟨g0, o0 + 1, none⟩) (fun _ => ⟨rfl, rfl⟩) (fun _ _ _ h k => ⟨k.1.trans h.1, k.2.trans h.2⟩) (by kernel_rfl) (by kernel_rfl) ?_
    simp only [List.map_cons, List.map_nil, List.contains_cons, List.contains_nil, List.getD_cons_zero, List.getD_cons_succ, Nat.reduceBEq, Bool.or_false]
    have hdr := (Below.refl w.heap.size w).drew
    have H2 := hid (H.out.below hdr)
    have Hd2 := hid ((GwS.refl w B).below (H.out.lt hB) hdr)
    have e0' : w.drew.cell? ⟨g0, o0, none⟩ = some (.int .i64 (x : Int)) := e0
    have e1' : w.drew.cell? ⟨g0, o0 + 1, none⟩ = some (.int .i64 (y : Int)) := e1
    clear hdr H hend e0 e1
    generalize w.drew = U at *
    have f0 : ∀ w' : World, (w'.cell? ⟨g0, o0, none⟩ = U.cell? ⟨g0, o0, none⟩ ∧ w'.cell? ⟨g0, o0 + 1, none⟩ = U.cell? ⟨g0, o0 + 1, none⟩) → w'.cell? ⟨g0, o0, none⟩ = some (.int .i64 (x : Int)) := fun w' h => h.1.trans e0'
    have f1 : ∀ w' : World, (w'.cell? ⟨g0, o0, none⟩ = U.cell? ⟨g0, o0, none⟩ ∧ w'.cell? ⟨g0, o0 + 1, none⟩ = U.cell? ⟨g0, o0 + 1, none⟩) → w'.cell? ⟨g0, o0 + 1, none⟩ = some (.int .i64 (y : Int)) := fun w' h => h.2.trans e1'
    iterate 11 (refine wpL_do rfl (fun w' hw' => (by go_simp; rfl)) ?_; simp only [Act.put, List.setIfInBounds_toArray, List.set_cons_succ, List.set_cons_zero])
    clear f0 f1
    have hpc := hid (piece_ok D hD X B x y g A o U hB H2.out hn hs1 hs2)
    refine wpL_call rfl (fun K hK => ?_)
    go_wp2_with fail
    refine (Calls.mono hpc.out ?_)
    intro e w' hs'
    obtain ⟨rfl, ⟨oa, oc, vs, hg, hks⟩, hsw⟩ := hs'
    have hg2 : GW D w' X B { g with ag := (x, y) :: r } { A with oa := oa, oc := oc } (o ++ vs) := by
      have e : ({ g with ag := (x, y) :: r } : GS) = g := by rw [← Ha.out]
      rw [e]
      exact hg
    have hh2 := hg2.a
    rw [show ({ A with oa := oa, oc := oc } : GA).aa = some ⟨g0, o0, none⟩ from HA.out] at hh2
    obtain ⟨g0', o0', cur2, q1, _, hgB, hrow2, _, _, _, _, k0, k1⟩ := hh2.head
    injection q1 with q1
    injection q1 with q1 q2 _
    subst q1 q2
    dsimp only at k0 k1
    have n0 : w'.cell? ⟨g0, o0, none⟩ = some (.int .i64 (x : Int)) := by rw [cell_of_row _ _ _ _ _ _ hrow2]; exact k0
    have n1 : w'.cell? ⟨g0, o0 + 1, none⟩ = some (.int .i64 (y : Int)) := by rw [cell_of_row _ _ _ _ _ _ hrow2]; exact k1
    refine hK _ _ ⟨n0.trans e0'.symm, n1.trans e1'.symm⟩ ?_
    clear hK K
    try simp only [Act.put, List.setIfInBounds_toArray, List.set_cons_succ, List.set_cons_zero]
    obtain ⟨z, hz⟩ : ∃ z, z = min y (x + D.P.m) := ⟨_, rfl⟩
    rw [← hz] at hks ⊢
    obtain ⟨hf1, hf2⟩ := hg2.first (A := { A with oa := oa, oc := oc }) rfl HA.out z
    have fz := frozen_row hrow2 o0
    have HG := hid hf1
    have hgX : B ≤ g0 := hgB
    have HS := hid ((Hd2.out.trans hsw).trans (⟨(Below.refl B w').grown hf2 (Nat.le_trans hB (Nat.le_of_lt (row_lt hg2.bx))) (fun k e => by cases e; exact hgX), fun T _ _ h3 => Stays.ofSet hf2 hrow2 h3⟩ : GwS w' _ B))
    have HK := hid hks
    have Hz := hid hz
    clear hf1 hf2 hg hg2 hh2 hrow2 hks hz hsw hpc e0' e1' H2 Hd2 k0 k1 n1
    iterate 1 (refine wpL_do rfl (fun w' hw' => (by go_simp; rfl)) ?_; simp only [Act.put, List.setIfInBounds_toArray, List.set_cons_succ, List.set_cons_zero])
    refine wpL_nil ?_
    simp only [List.drop_succ_cons, List.drop_zero]
    go_wp2_with fail
    unfold OnlyOn
    refine hK1.out _ _ ?_
    refine use_fr (N := 48) rfl ?_
    refine Tri.use (again_tail D X B z y g0 o0 g { A with oa := oa, oc := oc } (o ++ vs) r hB HA.out) rfl ⟨rfl, rfl, HG.out⟩ ?_
    rintro y2 W2 ⟨A2, hg2, hs2⟩
    have HG2 := hid hg2
    have HS2 := hid (HS.out.trans hs2)
    clear hg2 hs2 HG HS
    go_end0
    have e1 : ¬ ((x, y) : Sp) = (0, 0) := fun e => by injection e with _ e2; exact hy e2
    refine ⟨rfl, ⟨A2, vs, ?_, ?_⟩, HS2.out⟩
    · have h2 := HG2.out
      unfold againG
      rw [if_neg e1]
      rw [Hz.out] at h2
      by_cases hzy : min y (x + D.P.m) = y
      · rw [if_pos hzy]
        rw [if_pos hzy] at h2
        exact h2
      · rw [if_neg hzy]
        rw [if_neg hzy] at h2
        exact h2
    · rw [HK.out]
      unfold againG
      rw [if_neg e1, Hz.out]
      split <;> rfl
end Go.Proofs.Ytopmamgdfngdoaa
/- deliver: a giver at work: it waits. -/
namespace Go.Proofs.Ytopmamgdfngdoaa
set_option linter.unusedVariables false
open Go.RowKit

/-- a number of its own is stored -/
theorem GW.num {D : DP} {W : World} {X B : Nat} {g g' : GS} {A : GA} {o : List NV} (h : GW D W X B g A o) (hB : B ≤ X) (i : Nat) (v : Value) (ha : g'.ag = g.ag) (he : (gwc D g A g.ag.length o.length).setIfInBounds i v = gwc D g' A g.ag.length o.length) :
    GW D (W.setCell ⟨X, i, none⟩ v) X B g' A o ∧ GwS W (W.setCell ⟨X, i, none⟩ v) B := by
  obtain ⟨m1, m2⟩ := set_row (cs' := gwc D g' A g.ag.length o.length) h.bx i v he
  refine ⟨h.set m2 (by rw [ha]; exact m1) rfl rfl rfl rfl (by rw [ha]; exact h.a), (GwS.refl W B).set hB h.bx m2⟩
set_option maxRecDepth 1000000 in
set_option maxHeartbeats 8000000 in
theorem wait_ok (D : DP) (hD : DOk D) (hSum : SumOk D) (X B : Nat) (g : GS) (A : GA) (o : List NV) (w : World) (hB : B ≤ X) (h : GW D w X B g A o) (hn : o.length ≤ 100000) (htr : g.tr < 100) (htm : g.tm < D.P.p) :
    Calls Try.prog 21 #[.pointer (some ⟨X, 0, none⟩)] w fun e w' => GwR D w w' X B (waitG D.P g).1 (waitG D.P g).2 e o (.tuple #[]) := by
  have hp9 := hD.P.p9
  have c9 : w.cell? ⟨X, 9, none⟩ = some (.int .i64 (g.tm : Int)) := by rw [cell_of_row _ _ _ _ _ _ h.bx]; rfl
  have fz := frozen_row h.bx 9
  have a1 : IntKind.i64.wrap ((g.tm : Int) + 1) = (g.tm : Int) + 1 := IntWalk.i64_in _ (by omega)
  obtain ⟨k1, k2⟩ := h.num (g' := { g with tm := g.tm + 1 }) hB 9 (.int .i64 ((g.tm : Int) + 1)) rfl (by rfl)
  have H1 := hid k1
  have S1 := hid k2
  clear k1 k2 h
  go_enter Try.func21, Try.ntmps21
  refine wp_seq_k (fun K0 hK0 => ?_)
  refine wp_seq_k (fun K1 hK1 => ?_)
  go_wp2_with fail
  refine hK1.out _ _ ?_
  clear c9 fz a1
  generalize w.setCell ⟨X, 9, none⟩ (.int .i64 ((g.tm : Int) + 1)) = V at *
  refine wp_seq_k (fun K2 hK2 => ?_)
  refine wp_region_can_all [] [0, 1, 2, 3, 4, 5, 6, 7, 8, 9, 10] (fun u u' => u' = u) (fun _ => rfl) (fun _ _ _ h k => k.trans h) (by kernel_rfl) (by kernel_rfl) ?_
  simp only [List.map_cons, List.map_nil, List.contains_nil, List.getD_cons_zero, List.getD_cons_succ]
  have hdr := (Below.refl V.heap.size V).drew
  have H2 := hid (H1.out.below hdr)
  have S2 := hid (S1.out.below (H1.out.lt hB) hdr)
  clear hdr H1 S1
  generalize V.drew = U at *
  have c9 : U.cell? ⟨X, 9, none⟩ = some (.int .i64 ((g.tm : Int) + 1)) := by rw [cell_of_row _ _ _ _ _ _ H2.out.bx]; rfl
  have c10 : U.cell? ⟨X, 10, none⟩ = some (.int .i64 (D.P.p : Int)) := by rw [cell_of_row _ _ _ _ _ _ H2.out.bx]; rfl
  by_cases hlt : g.tm + 1 < D.P.p
  · have d1 : (g.tm : Int) + 1 < (D.P.p : Int) := by omega
    have ew : waitG D.P g = ({ g with tm := g.tm + 1 }, []) := by unfold waitG; rw [if_pos hlt]
    have Ew := hid ew
    clear ew
    iterate 10 (refine wpL_do rfl (fun w' hw' => (by cases hw'; go_simp; rfl)) ?_; simp only [Act.put, List.setIfInBounds_toArray, List.set_cons_succ, List.set_cons_zero])
    refine wpL_do (v := .bool true) rfl (fun w' hw' => (by cases hw'; go_simp)) ?_
    simp only [Act.put, List.setIfInBounds_toArray, List.set_cons_succ, List.set_cons_zero]
    refine wpL_nil ?_
    refine hK2.out _ _ ?_
    refine wp_cond_true rfl ?_
    go_wp2_with fail
    refine bodyPost_ret (v := .tuple #[]) (by simp [results, Try.results21, go_sem]) rfl ?_
    rw [Ew.out]
    exact ⟨rfl, ⟨A, [], by rw [List.append_nil]; exact H2.out, rfl⟩, S2.out⟩
  · have d1 : ¬ (g.tm : Int) + 1 < (D.P.p : Int) := by omega
    have ew : waitG D.P g = ({ g with tm := 0, tr := g.tr + 1 }, [.ne]) := by unfold waitG; rw [if_neg hlt, if_neg (by omega)]
    have Ew := hid ew
    clear ew
    iterate 10 (refine wpL_do rfl (fun w' hw' => (by cases hw'; go_simp; rfl)) ?_; simp only [Act.put, List.setIfInBounds_toArray, List.set_cons_succ, List.set_cons_zero])
    refine wpL_do (v := .bool false) rfl (fun w' hw' => (by cases hw'; go_simp)) ?_
    simp only [Act.put, List.setIfInBounds_toArray, List.set_cons_succ, List.set_cons_zero]
    refine wpL_nil ?_
    refine hK2.out _ _ ?_
    refine wp_cond_false rfl ?_
    clear d1
    go_wp2_with fail
    refine hK0.out _ _ ?_
    clear c10
    -- the timer begins anew
    have fz := frozen_row H2.out.bx 9
    obtain ⟨k1, k2⟩ := H2.out.num (g' := { g with tm := 0 }) hB 9 (.int .i64 0) rfl (by rfl)
    have H3 := hid k1
    have S3 := hid (S2.out.trans k2)
    clear k1 k2 H2 S2
    refine wp_seq_k (fun K3 hK3 => ?_)
    go_wp2_with fail
    refine hK3.out _ _ ?_
    clear c9 fz
    generalize U.setCell ⟨X, 9, none⟩ (.int .i64 0) = V3 at *
    refine wp_seq_k (fun K4 hK4 => ?_)
    refine wp_seq_k (fun K5 hK5 => ?_)
    refine wp_region_can_all [] [0, 1, 2, 3, 4, 5, 6, 7, 8, 9, 10] (fun u u' => u' = u) (fun _ => rfl) (fun _ _ _ h k => k.trans h) (by kernel_rfl) (by kernel_rfl) ?_
    simp only [List.map_cons, List.map_nil, List.contains_nil, List.getD_cons_zero, List.getD_cons_succ]
    have hdr := (Below.refl V3.heap.size V3).drew
    have H4 := hid (H3.out.below hdr)
    have S4 := hid (S3.out.below (H3.out.lt hB) hdr)
    clear hdr H3 S3
    generalize V3.drew = U4 at *
    have c11 : U4.cell? ⟨X, 11, none⟩ = some (.int .i64 (g.tr : Int)) := by rw [cell_of_row _ _ _ _ _ _ H4.out.bx]; rfl
    have c12 : U4.cell? ⟨X, 12, none⟩ = some (.int .i64 100) := by rw [cell_of_row _ _ _ _ _ _ H4.out.bx]; rfl
    have d1 : ¬ (g.tr : Int) = 100 := by omega
    iterate 10 (refine wpL_do rfl (fun w' hw' => (by cases hw'; go_simp; rfl)) ?_; simp only [Act.put, List.setIfInBounds_toArray, List.set_cons_succ, List.set_cons_zero])
    refine wpL_do (v := .bool false) rfl (fun w' hw' => (by cases hw'; go_simp)) ?_
    simp only [Act.put, List.setIfInBounds_toArray, List.set_cons_succ, List.set_cons_zero]
    refine wpL_nil ?_
    refine hK5.out _ _ ?_
    refine wp_cond_false rfl ?_
    clear d1 c12
    go_wp2_with fail
    refine hK4.out _ _ ?_
    have a1 : IntKind.i64.wrap ((g.tr : Int) + 1) = (g.tr : Int) + 1 := IntWalk.i64_in _ (by omega)
    have fz := frozen_row H4.out.bx 11
    obtain ⟨k1, k2⟩ := H4.out.num (g' := { g with tm := 0, tr := g.tr + 1 }) hB 11 (.int .i64 ((g.tr : Int) + 1)) rfl (by rfl)
    have H5 := hid k1
    have S5 := hid (S4.out.trans k2)
    clear k1 k2 H4 S4
    refine wp_seq_k (fun K6 hK6 => ?_)
    go_wp2_with fail
    refine hK6.out _ _ ?_
    clear c11 fz a1
    generalize U4.setCell ⟨X, 11, none⟩ (.int .i64 ((g.tr : Int) + 1)) = V5 at *
    have hen := hid (end_ok D hSum X B { g with tm := 0, tr := g.tr + 1 } A o V5 hB H5.out hn)
    go_wp2_with fail
    refine (Calls.mono hen.out ?_)
    intro e w' hs'
    obtain ⟨rfl, ⟨oa, oc, vs, hg, hks⟩, hsw⟩ := hs'
    have HG := hid hg
    have HS := hid (S5.out.trans hsw)
    have HK := hid hks
    clear hg hsw hks hen H5 S5
    go_wp2_with fail
    go_end0
    rw [Ew.out]
    exact ⟨rfl, ⟨_, vs, HG.out, HK.out⟩, HS.out⟩
end Go.Proofs.Ytopmamgdfngdoaa
/- deliver: a giver at work: the next thing it says. -/
namespace Go.Proofs.Ytopmamgdfngdoaa
set_option linter.unusedVariables false
open Go.RowKit

set_option maxRecDepth 1000000 in
set_option maxHeartbeats 8000000 in
theorem next_ok (D : DP) (hD : DOk D) (hSum : SumOk D) (X B : Nat) (g : GS) (A : GA) (o : List NV) (w : World) (hB : B ≤ X) (h : GW D w X B g A o) (hn : o.length ≤ 100000) (hag : ∀ s ∈ g.ag, vSp D.P.F s) (hpos : g.pos ≤ D.P.F) (hagl : g.ag.length ≤ 1000) :
    Calls Try.prog 20 #[.pointer (some ⟨X, 0, none⟩)] w fun e w' => GwR D w w' X B (nextG D.P g).g (nextG D.P g).o e o (.bool (nextG D.P g).go) := by
  have hF := hD.P.F
  have hm0 := hD.P.m
  have c6 : w.cell? ⟨X, 6, none⟩ = some (.bool g.fi) := by rw [cell_of_row _ _ _ _ _ _ h.bx]; rfl
  have c8 : w.cell? ⟨X, 8, none⟩ = some (.slice A.aa g.ag.length A.ac) := by rw [cell_of_row _ _ _ _ _ _ h.bx]; rfl
  have c5 : w.cell? ⟨X, 5, none⟩ = some (.int .i64 (g.st : Int)) := by rw [cell_of_row _ _ _ _ _ _ h.bx]; rfl
  have fz := frozen_row h.bx 6
  have H := hid h
  clear h
  go_enter Try.func20, Try.ntmps20
  refine wp_seq_k (fun K0 hK0 => ?_)
  go_wp2_with fail
  refine hK0.out _ _ ?_
  refine wp_seq_k (fun K1 hK1 => ?_)
  refine wp_block ?_
  refine wp_seq_k (fun K2 hK2 => ?_)
  go_wp2_with fail
  refine hK2.out _ _ ?_
  by_cases hfi : g.fi = true
  · rw [hfi] at c6 ⊢
    refine wp_cond_true rfl ?_
    have Ew : Hid (nextG D.P g = ⟨{ g with fi := false }, [.nm], true⟩) := hid (by unfold nextG; rw [if_pos hfi])
    obtain ⟨m1, m2⟩ := set_row (cs' := gwc D { g with fi := false } A g.ag.length o.length) H.out.bx 6 (.bool false) rfl
    have H2 := hid (H.out.set (g' := { g with fi := false }) (A' := A) m2 m1 rfl rfl rfl rfl H.out.a)
    have S2 := hid ((GwS.refl w B).set hB H.out.bx m2)
    clear m1 m2 H c8 c5
    refine wp_seq_k (fun K3 hK3 => ?_)
    go_wp2_with fail
    refine hK3.out _ _ ?_
    clear c6 fz
    generalize w.setCell ⟨X, 6, none⟩ (.bool false) = V at *
    have hnm := hid (name_ok D X B { g with fi := false } A o V hB H2.out hn)
    go_wp2_with fail
    refine (Calls.mono hnm.out ?_)
    intro e w' hs'
    obtain ⟨rfl, ⟨oa, oc, vs, hg, hks⟩, hsw⟩ := hs'
    have HG := hid hg
    have HS := hid (S2.out.trans hsw)
    have HK := hid hks
    clear hg hsw hks hnm H2 S2
    go_wp2_with fail
    refine hK1.out _ _ ?_
    go_wp2_with fail
    go_ret
    rw [Ew.out]
    exact ⟨rfl, ⟨_, vs, HG.out, HK.out⟩, HS.out⟩
  · have hfi' : g.fi = false := by simpa using hfi
    rw [hfi'] at c6 ⊢
    refine wp_cond_false rfl ?_
    clear c6 fz
    refine wp_seq_k (fun K3 hK3 => ?_)
    go_wp2_with fail
    refine hK3.out _ _ ?_
    cases hq : g.ag with
    | cons s r =>
      have Ew : Hid (nextG D.P g = ⟨(againG D.P g s r).1, [(againG D.P g s r).2], true⟩) := hid (by unfold nextG; rw [if_neg hfi, hq])
      have hagn := hid (again_ok D hD X B g A o s r w hB H.out hn hq (hag s (by rw [hq]; exact List.mem_cons_self)))
      refine wp_cond_true (by show Value.bool (decide (0 < _)) = _; exact congrArg Value.bool (decide_eq_true (Nat.succ_pos _))) ?_
      clear c8 c5
      go_wp2_with fail
      refine (Calls.mono hagn.out ?_)
      intro e w' hs'
      obtain ⟨rfl, ⟨A2, vs, hg, hks⟩, hsw⟩ := hs'
      have HG := hid hg
      have HS := hid hsw
      have HK := hid hks
      clear hg hsw hks hagn H
      go_wp2_with fail
      refine hK1.out _ _ ?_
      go_wp2_with fail
      go_ret
      rw [Ew.out]
      exact ⟨rfl, ⟨_, vs, HG.out, HK.out⟩, HS.out⟩
    | nil =>
      refine wp_cond_false rfl ?_
      clear c8
      refine wp_seq_k (fun K5 hK5 => ?_)
      by_cases hst : g.st = 0
      · have d1 : ((g.st : Int) != 0) = false := by rw [hst]; rfl
        go_wp2_with fail
        refine hK5.out _ _ ?_
        refine wp_cond_false rfl ?_
        clear c5 d1
        refine wp_seq_k (fun K6 hK6 => ?_)
        refine wp_region_can_all [] [0, 1, 2, 3, 4, 5, 6, 7, 8, 9, 10, 11, 12] (fun u u' => u' = u) (fun _ => rfl) (fun _ _ _ h k => k.trans h) (by kernel_rfl) (by kernel_rfl) ?_
        simp only [List.map_cons, List.map_nil, List.contains_nil, List.getD_cons_zero, List.getD_cons_succ]
        have hdr := (Below.refl w.heap.size w).drew
        have H2 := hid (H.out.below hdr)
        have S2 := hid ((GwS.refl w B).below (H.out.lt hB) hdr)
        clear hdr H
        generalize w.drew = U at *
        have c7 : U.cell? ⟨X, 7, none⟩ = some (.int .i64 (g.pos : Int)) := by rw [cell_of_row _ _ _ _ _ _ H2.out.bx]; rfl
        have c2 : U.cell? ⟨X, 2, none⟩ = some (.slice A.fa D.P.F A.fc) := by rw [cell_of_row _ _ _ _ _ _ H2.out.bx]; rfl
        iterate 12 (refine wpL_do rfl (fun w' hw' => (by cases hw'; go_simp; rfl)) ?_; simp only [Act.put, List.setIfInBounds_toArray, List.set_cons_succ, List.set_cons_zero])
        refine wpL_do (v := .bool (decide ((g.pos : Int) < (D.P.F : Int)))) rfl (fun w' hw' => (by cases hw'; go_simp)) ?_
        simp only [Act.put, List.setIfInBounds_toArray, List.set_cons_succ, List.set_cons_zero]
        refine wpL_nil ?_
        refine hK6.out _ _ ?_
        clear c7 c2
        by_cases hpf : g.pos < D.P.F
        · have d1 : decide ((g.pos : Int) < (D.P.F : Int)) = true := decide_eq_true (by omega)
          refine wp_cond_true (congrArg Value.bool d1) ?_
          clear d1
          have Ew : Hid (nextG D.P g = ⟨{ g with pos := min D.P.F (g.pos + D.P.m) }, [.np g.pos (min D.P.F (g.pos + D.P.m))], true⟩) := hid (by unfold nextG; rw [if_neg hfi, hq]; dsimp only; rw [if_neg (by omega), if_pos hpf])
          refine wp_region_can 17 [13] [0, 1, 2, 3, 4, 5, 6, 7, 8, 9, 10, 11, 12, 13, 14, 15, 16] (fun u u' => u'.cell? ⟨X, 7, none⟩ = u.cell? ⟨X, 7, none⟩ ∧ u'.cell? ⟨X, 2, none⟩ = u.cell? ⟨X, 2, none⟩) (fun _ => ⟨rfl, rfl⟩) (fun _ _ _ h k => ⟨k.1.trans h.1, k.2.trans h.2⟩) (by kernel_rfl) (by kernel_rfl) ?_
          simp only [List.map_cons, List.map_nil, List.contains_cons, List.contains_nil, List.getD_cons_zero, List.getD_cons_succ, Nat.reduceBEq, Bool.or_false]
          have hdr := (Below.refl U.heap.size U).drew
          have H3 := hid (H2.out.below hdr)
          have S3 := hid (S2.out.below (H2.out.lt hB) hdr)
          clear hdr H2 S2
          generalize U.drew = U3 at *
          have c7 : U3.cell? ⟨X, 7, none⟩ = some (.int .i64 (g.pos : Int)) := by rw [cell_of_row _ _ _ _ _ _ H3.out.bx]; rfl
          have c2 : U3.cell? ⟨X, 2, none⟩ = some (.slice A.fa D.P.F A.fc) := by rw [cell_of_row _ _ _ _ _ _ H3.out.bx]; rfl
          have f7 : ∀ w' : World, (w'.cell? ⟨X, 7, none⟩ = U3.cell? ⟨X, 7, none⟩ ∧ w'.cell? ⟨X, 2, none⟩ = U3.cell? ⟨X, 2, none⟩) → w'.cell? ⟨X, 7, none⟩ = some (.int .i64 (g.pos : Int)) := fun w' h => h.1.trans c7
          have f2 : ∀ w' : World, (w'.cell? ⟨X, 7, none⟩ = U3.cell? ⟨X, 7, none⟩ ∧ w'.cell? ⟨X, 2, none⟩ = U3.cell? ⟨X, 2, none⟩) → w'.cell? ⟨X, 2, none⟩ = some (.slice A.fa D.P.F A.fc) := fun w' h => h.2.trans c2
          iterate 13 (refine wpL_do rfl (fun w' hw' => (by go_simp; rfl)) ?_; simp only [Act.put, List.setIfInBounds_toArray, List.set_cons_succ, List.set_cons_zero])
          clear f7 f2
          have hpc := hid (piece_ok D hD X B g.pos D.P.F g A o U3 hB H3.out hn hpf (Nat.le_refl _))
          refine wpL_call rfl (fun K hK => ?_)
          go_wp2_with fail
          refine (Calls.mono hpc.out ?_)
          intro e w' hs'
          obtain ⟨rfl, ⟨oa, oc, vs, hg, hks⟩, hsw⟩ := hs'
          have n7 : w'.cell? ⟨X, 7, none⟩ = some (.int .i64 (g.pos : Int)) := by rw [cell_of_row _ _ _ _ _ _ hg.bx]; rfl
          have n2 : w'.cell? ⟨X, 2, none⟩ = some (.slice A.fa D.P.F A.fc) := by rw [cell_of_row _ _ _ _ _ _ hg.bx]; rfl
          refine hK _ _ ⟨n7.trans c7.symm, n2.trans c2.symm⟩ ?_
          clear hK K n2 c7 c2
          try simp only [Act.put, List.setIfInBounds_toArray, List.set_cons_succ, List.set_cons_zero]
          iterate 3 (refine wpL_do rfl (fun w' hw' => (by go_simp; rfl)) ?_; simp only [Act.put, List.setIfInBounds_toArray, List.set_cons_succ, List.set_cons_zero])
          refine wpL_nil ?_
          simp only [List.drop_succ_cons, List.drop_zero]
          have fz := frozen_row hg.bx 7
          obtain ⟨k1, k2⟩ := hg.num (g' := { g with pos := min D.P.F (g.pos + D.P.m) }) hB 7 (.int .i64 ((min D.P.F (g.pos + D.P.m) : Nat) : Int)) rfl rfl
          have H4 := hid k1
          have S4 := hid ((S3.out.trans hsw).trans k2)
          have HK := hid hks
          clear k1 k2 hg hsw hks hpc H3 S3
          go_wp2_with fail
          unfold OnlyOn
          refine hK1.out _ _ ?_
          go_wp2_with fail
          go_ret
          rw [Ew.out]
          exact ⟨rfl, ⟨_, vs, H4.out, HK.out⟩, S4.out⟩
        · have d1 : decide ((g.pos : Int) < (D.P.F : Int)) = false := decide_eq_false (by omega)
          refine wp_cond_false (congrArg Value.bool d1) ?_
          clear d1
          have Ew : Hid (nextG D.P g = ⟨{ g with st := 1, tm := 0, tr := 0 }, [.ne], false⟩) := hid (by unfold nextG; rw [if_neg hfi, hq]; dsimp only; rw [if_neg (by omega), if_neg hpf])
          have hen := hid (end_ok D hSum X B g A o U hB H2.out hn)
          refine wp_seq_k (fun K7 hK7 => ?_)
          go_wp2_with fail
          refine (Calls.mono hen.out ?_)
          intro e w' hs'
          obtain ⟨rfl, ⟨oa, oc, vs, hg, hks⟩, hsw⟩ := hs'
          have HG := hid hg
          have HS := hid (S2.out.trans hsw)
          have HK := hid hks
          clear hg hsw hks hen H2 S2
          go_wp2_with fail
          refine hK7.out _ _ ?_
          have fz5 := frozen_row HG.out.bx 5
          have c5 : w'.cell? ⟨X, 5, none⟩ = some (.int .i64 (g.st : Int)) := by rw [cell_of_row _ _ _ _ _ _ HG.out.bx]; rfl
          obtain ⟨m1, m2⟩ := set_row (cs' := gwc D { g with st := 1 } { A with oa := oa, oc := oc } g.ag.length (o ++ vs).length) HG.out.bx 5 (.int .i64 1) rfl
          have H3 := hid (HG.out.set (g' := { g with st := 1 }) (A' := { A with oa := oa, oc := oc }) m2 m1 rfl rfl rfl rfl HG.out.a)
          have S3 := hid (HS.out.set hB HG.out.bx m2)
          clear m1 m2
          have fz9 := frozen_row H3.out.bx 9
          have c9 : (w'.setCell ⟨X, 5, none⟩ (.int .i64 1)).cell? ⟨X, 9, none⟩ = some (.int .i64 (g.tm : Int)) := by rw [cell_of_row _ _ _ _ _ _ H3.out.bx]; rfl
          obtain ⟨k1, k2⟩ := H3.out.num (g' := { g with st := 1, tm := 0 }) hB 9 (.int .i64 0) rfl (by rfl)
          have H4 := hid k1
          have S4 := hid (S3.out.trans k2)
          clear k1 k2
          have fz11 := frozen_row H4.out.bx 11
          have c11 : ((w'.setCell ⟨X, 5, none⟩ (.int .i64 1)).setCell ⟨X, 9, none⟩ (.int .i64 0)).cell? ⟨X, 11, none⟩ = some (.int .i64 (g.tr : Int)) := by rw [cell_of_row _ _ _ _ _ _ H4.out.bx]; rfl
          obtain ⟨k1, k2⟩ := H4.out.num (g' := { g with st := 1, tm := 0, tr := 0 }) hB 11 (.int .i64 0) rfl (by rfl)
          have H5 := hid k1
          have S5 := hid (S4.out.trans k2)
          clear k1 k2 HG HS H3 S3 H4 S4
          refine wp_seq_k (fun K8 hK8 => ?_)
          go_wp2_with fail
          refine hK8.out _ _ ?_
          clear fz5 fz9 fz11 c5 c9 c11
          go_wp2_with fail
          go_ret
          rw [Ew.out]
          exact ⟨rfl, ⟨_, vs, H5.out, HK.out⟩, S5.out⟩
      · have d1 : ((g.st : Int) != 0) = true := by
          rw [bne_iff_ne]
          exact fun e => hst (by exact_mod_cast e)
        have Ew : Hid (nextG D.P g = ⟨g, [], false⟩) := hid (by unfold nextG; rw [if_neg hfi, hq]; dsimp only; rw [if_pos hst])
        go_wp2_with fail
        refine hK5.out _ _ ?_
        refine wp_cond_true rfl ?_
        clear c5 d1
        go_wp2_with fail
        go_ret
        rw [Ew.out]
        exact ⟨rfl, ⟨A, [], by rw [List.append_nil]; exact H.out, rfl⟩, GwS.refl w B⟩
end Go.Proofs.Ytopmamgdfngdoaa
/- deliver: a giver at work: a tick of it. -/
namespace Go.Proofs.Ytopmamgdfngdoaa
set_option linter.unusedVariables false
open Go.RowKit

theorem nextG_one (P : Par) (g : GS) (h : (nextG P g).go = true) : (nextG P g).o.length = 1 := by
  revert h
  unfold nextG
  split
  · exact fun _ => rfl
  · split
    · exact fun _ => rfl
    · split
      · intro h; cases h
      · split
        · exact fun _ => rfl
        · intro h; cases h
theorem nextG_le (P : Par) (g : GS) : (nextG P g).o.length ≤ 1 := by
  unfold nextG
  split
  · exact Nat.le_refl _
  · split
    · exact Nat.le_refl _
    · split
      · exact Nat.zero_le _
      · split <;> exact Nat.le_refl _
theorem loopG_len (P : Par) : ∀ (f : Nat) (g : GS), (loopG P f g).2.length ≤ f
  | 0, g => Nat.le_refl _
  | f + 1, g => by
    unfold loopG
    split
    · rw [List.length_append]
      have := loopG_len P f (nextG P g).g
      have := nextG_le P g
      omega
    · exact Nat.le_trans (nextG_le P g) (by omega)
def outN (W : World) (X : Nat) : Nat := match W.cell? ⟨X, 13, none⟩ with | some (.slice _ n _) => n | _ => 0
theorem fr34 (y : Nat → Value) : fr 34 y = #[y 0, y 1, y 2, y 3, y 4, y 5, y 6, y 7, y 8, y 9, y 10, y 11, y 12, y 13, y 14, y 15, y 16, y 17, y 18, y 19, y 20, y 21, y 22, y 23, y 24, y 25, y 26, y 27, y 28, y 29, y 30, y 31, y 32, y 33] := rfl
/-- the turns of the loop -/
def gvI (D : DP) (W0 : World) (X B : Nat) (g0 : GS) (wt : Bool) (y : Nat → Value) (W : World) : Prop :=
  ∃ (g : GS) (A : GA) (vs : List NV), y 0 = .pointer (some ⟨X, 0, none⟩) ∧ y 3 = .bool wt ∧ GW D W X B g A vs ∧ GI D.P g ∧ vs.length ≤ D.P.b ∧ g.tr ≤ g0.tr ∧ loopG D.P D.P.b g0 = ((loopG D.P (D.P.b - vs.length) g).1, vs.map (·.k) ++ (loopG D.P (D.P.b - vs.length) g).2) ∧ GwS W0 W B
set_option maxRecDepth 1000000 in
set_option maxHeartbeats 8000000 in
theorem give_tail (D : DP) (hD : DOk D) (hSum : SumOk D) (X B : Nat) (g g1 : GS) (A : GA) (vs : List NV) (w W : World) (y : Nat → Value) (hB : B ≤ X) (s0 : y 0 = .pointer (some ⟨X, 0, none⟩)) (s3 : y 3 = .bool ((g.st : Int) != 0)) (h3 : ¬ 3 ≤ g.st) (htr : g.st ≠ 0 → g.tr < 100) (h : GW D W X B g1 A vs) (hg : GI D.P g1) (hvb : vs.length ≤ D.P.b) (htr1 : g1.tr ≤ g.tr) (hlp : loopG D.P D.P.b g = (g1, vs.map (·.k))) (hS : GwS w W B) :
    Code.wp Try.prog (pieceOf Try.f19 [1, 1, 1, 1]) (bodyPost Try.prog Try.f19 fun e w' => GwR D w w' X B (giveG D.P g).1 (giveG D.P g).2 e [] (.int .i64 0)) ⟨fr 34 y, []⟩ W := by
  have hb9 := hD.P.b9
  have H := hid h
  have S := hid hS
  have L := hid hlp
  have G := hid hg
  clear h hS hlp hg
  conv => arg 2; whnf
  rw [fr34]
  simp only [s0, s3]
  clear s0 s3
  refine wp_seq_k (fun K0 hK0 => ?_)
  refine wp_seq_k (fun K1 hK1 => ?_)
  by_cases hst : g.st = 0
  · have d1 : ((g.st : Int) != 0) = false := by rw [hst]; rfl
    have Ew : Hid (giveG D.P g = loopG D.P D.P.b g) := hid (by unfold giveG; rw [if_neg h3, if_neg (by omega)])
    rw [d1]
    go_wp2_with fail
    refine hK1.out _ _ ?_
    refine wp_cond_false rfl ?_
    clear d1
    go_wp2_with fail
    refine hK0.out _ _ ?_
    go_wp2_with fail
    go_ret
    rw [Ew.out, L.out]
    exact ⟨rfl, ⟨A, vs, H.out, rfl⟩, S.out⟩
  · have d1 : ((g.st : Int) != 0) = true := by
      rw [bne_iff_ne]
      exact fun e => hst (by exact_mod_cast e)
    have Ew : Hid (giveG D.P g = ((waitG D.P (loopG D.P D.P.b g).1).1, (loopG D.P D.P.b g).2 ++ (waitG D.P (loopG D.P D.P.b g).1).2)) := hid (by unfold giveG; rw [if_neg h3, if_pos hst])
    have htr' := htr hst
    rw [d1]
    go_wp2_with fail
    refine hK1.out _ _ ?_
    refine wp_cond_true rfl ?_
    clear d1
    have hwt := hid (wait_ok D hD hSum X B g1 A vs W hB H.out (by omega) (by omega) G.out.tm)
    go_wp2_with fail
    refine (Calls.mono hwt.out ?_)
    intro e w' hs'
    obtain ⟨rfl, ⟨A2, v2, hg2, hks⟩, hsw⟩ := hs'
    have HG := hid hg2
    have HS := hid (S.out.trans hsw)
    have HK := hid hks
    clear hg2 hsw hks hwt H S
    go_wp2_with fail
    refine hK0.out _ _ ?_
    go_wp2_with fail
    go_ret
    rw [Ew.out, L.out]
    refine ⟨rfl, ⟨A2, vs ++ v2, HG.out, ?_⟩, HS.out⟩
    rw [List.map_append, HK.out]
set_option maxRecDepth 1000000 in
set_option maxHeartbeats 8000000 in
theorem give_ok (D : DP) (hD : DOk D) (hSum : SumOk D) (X B : Nat) (g : GS) (A : GA) (w : World) (hB : B ≤ X) (h : GW D w X B g A []) (hg : GI D.P g) (htr : g.st ≠ 0 → g.tr < 100) :
    Calls Try.prog 19 #[.pointer (some ⟨X, 0, none⟩)] w fun e w' => GwR D w w' X B (giveG D.P g).1 (giveG D.P g).2 e [] (.int .i64 0) := by
  have hb9 := hD.P.b9
  have c5 : w.cell? ⟨X, 5, none⟩ = some (.int .i64 (g.st : Int)) := by rw [cell_of_row _ _ _ _ _ _ h.bx]; rfl
  have H := hid h
  clear h
  go_enter Try.func19, Try.ntmps19
  refine wp_seq_k (fun K0 hK0 => ?_)
  go_wp2_with fail
  refine hK0.out _ _ ?_
  refine wp_seq_k (fun K1 hK1 => ?_)
  refine wp_seq_k (fun K2 hK2 => ?_)
  by_cases h3 : 3 ≤ g.st
  · have d1 : (3 : Int) ≤ (g.st : Int) := by omega
    go_wp2_with fail
    refine hK2.out _ _ ?_
    refine wp_cond_true rfl ?_
    clear d1
    go_wp2_with fail
    go_ret
    have Ew : giveG D.P g = (g, []) := by unfold giveG; rw [if_pos h3]
    rw [Ew]
    exact ⟨rfl, ⟨A, [], H.out, rfl⟩, GwS.refl w B⟩
  · have d1 : ¬ (3 : Int) ≤ (g.st : Int) := by omega
    go_wp2_with fail
    refine hK2.out _ _ ?_
    refine wp_cond_false rfl ?_
    clear d1
    go_wp2_with fail
    refine hK1.out _ _ ?_
    refine wp_seq_k (fun K3 hK3 => ?_)
    go_wp2_with fail
    refine hK3.out _ _ ?_
    clear c5
    refine wp_seq_k (fun K4 hK4 => ?_)
    refine wp_block ?_
    refine wp_loop_fr 34 (gvI D w X B g ((g.st : Int) != 0)) (fun _ W => D.P.b - outN W X) ⟨rfl, rfl, g, A, [], rfl, rfl, H.out, hg, Nat.zero_le _, Nat.le_refl _, by rfl, GwS.refl w B⟩ ?_
    clear H
    rintro z W ⟨g1, A1, vs, s0, s3, h1, hg1, hvb, htr1, hlp, hS1⟩
    have H1 := hid h1
    have S1 := hid hS1
    have G1 := hid hg1
    have L1 := hid hlp
    clear h1 hS1 hg1 hlp
    rw [fr34]
    simp only [s0, s3]
    clear s0 s3
    refine wp_seq_k (fun K5 hK5 => ?_)
    refine wp_seq_k (fun K6 hK6 => ?_)
    refine wp_region_can 13 [] [0, 1, 2, 3, 4, 5, 6, 7, 8, 9, 10, 11, 12] (fun u u' => u' = u) (fun _ => rfl) (fun _ _ _ h k => k.trans h) (by kernel_rfl) (by kernel_rfl) ?_
    simp only [List.map_cons, List.map_nil, List.contains_nil, List.getD_cons_zero, List.getD_cons_succ]
    have on : outN W X = vs.length := by
      unfold outN
      rw [cell_of_row _ _ _ _ _ _ H1.out.bx]
      rfl
    have hdr := (Below.refl W.heap.size W).drew
    have H2 := hid (H1.out.below hdr)
    have S2 := hid (S1.out.below (H1.out.lt hB) hdr)
    clear hdr H1 S1
    have on' := hid on
    clear on
    generalize W.drew = U at *
    have c13 : U.cell? ⟨X, 13, none⟩ = some (.slice A1.oa vs.length A1.oc) := by rw [cell_of_row _ _ _ _ _ _ H2.out.bx]; rfl
    have c4 : U.cell? ⟨X, 4, none⟩ = some (.int .i64 (D.P.b : Int)) := by rw [cell_of_row _ _ _ _ _ _ H2.out.bx]; rfl
    by_cases hlt : vs.length < D.P.b
    · have d1 : (vs.length : Int) < (D.P.b : Int) := by omega
      iterate 10 (refine wpL_do rfl (fun w' hw' => (by cases hw'; go_simp; rfl)) ?_; simp only [Act.put, List.setIfInBounds_toArray, List.set_cons_succ, List.set_cons_zero])
      refine wpL_do (v := .bool true) rfl (fun w' hw' => (by cases hw'; go_simp)) ?_
      simp only [Act.put, List.setIfInBounds_toArray, List.set_cons_succ, List.set_cons_zero]
      iterate 2 (refine wpL_do rfl (fun w' hw' => (by cases hw'; go_simp; rfl)) ?_; simp only [Act.put, List.setIfInBounds_toArray, List.set_cons_succ, List.set_cons_zero])
      refine wpL_nil ?_
      simp only [List.drop_succ_cons, List.drop_zero]
      clear c13 c4 d1
      have hnx := hid (next_ok D hD hSum X B g1 A1 vs U hB H2.out (by omega) G1.out.sp G1.out.pos G1.out.len)
      go_wp2_with fail
      refine (Calls.mono hnx.out ?_)
      intro e w' hs'
      obtain ⟨rfl, ⟨A2, v2, hg2, hks⟩, hsw⟩ := hs'
      obtain ⟨gi1, gi2, gi3, gi4, gi5, gi6⟩ := G1.out.next hD.P.m hD.P.p
      have G2 := hid gi1
      have H3 := hid hg2
      have S3 := hid (S2.out.trans hsw)
      have HK := hid hks
      have HT := hid gi5
      clear hg2 hks hsw gi1 gi2 gi3 gi4 gi5 gi6 hnx H2 S2
      have E1 : Hid (loopG D.P (D.P.b - vs.length) g1 = if (nextG D.P g1).go = true then ((loopG D.P (D.P.b - (vs.length + 1)) (nextG D.P g1).g).1, (nextG D.P g1).o ++ (loopG D.P (D.P.b - (vs.length + 1)) (nextG D.P g1).g).2) else ((nextG D.P g1).g, (nextG D.P g1).o)) := hid (by
        rw [show D.P.b - vs.length = (D.P.b - (vs.length + 1)) + 1 from by omega]
        rfl)
      obtain ⟨go, hgo⟩ : ∃ go, go = (nextG D.P g1).go := ⟨_, rfl⟩
      rw [← hgo]
      have HGo := hid hgo
      clear hgo
      cases go with
      | true =>
        go_wp2_with fail
        unfold OnlyOn
        refine hK6.out _ _ ?_
        refine wp_cond_true rfl ?_
        go_wp2_with fail
        refine hK5.out _ _ ?_
        go_wp2_with fail
        have h1 : v2.length = 1 := by
          have := congrArg List.length HK.out
          rw [List.length_map, nextG_one D.P g1 HGo.out.symm] at this
          exact this
        have hl : (vs ++ v2).length = vs.length + 1 := by rw [List.length_append, h1]
        have hon : outN w' X = vs.length + 1 := by
          unfold outN
          have := cell_of_row _ _ 13 _ _ _ H3.out.bx
          rw [this]
          exact hl
        refine ⟨rfl, rfl, ⟨_, A2, vs ++ v2, rfl, rfl, H3.out, G2.out, by omega, Nat.le_trans HT.out htr1, ?_, S3.out⟩, ?_⟩
        · rw [L1.out, E1.out, if_pos HGo.out.symm, hl, List.map_append, HK.out, List.append_assoc]
        · show D.P.b - outN w' X < D.P.b - outN W X
          rw [hon, on'.out]
          omega
      | false =>
        go_wp2_with fail
        unfold OnlyOn
        refine hK6.out _ _ ?_
        refine wp_cond_false rfl ?_
        go_wp2_with fail
        refine hK4.out _ _ ?_
        refine use_fr (N := 34) rfl ?_
        have hl : v2.length ≤ 1 := by
          have := congrArg List.length HK.out
          rw [List.length_map] at this
          have := nextG_le D.P g1
          omega
        refine give_tail D hD hSum X B g _ A2 (vs ++ v2) w w' _ hB rfl rfl h3 htr H3.out G2.out (by rw [List.length_append]; omega) (Nat.le_trans HT.out htr1) ?_ S3.out
        rw [L1.out, E1.out, if_neg (by rw [← HGo.out]; exact Bool.false_ne_true), List.map_append, HK.out]
    · have d1 : ¬ (vs.length : Int) < (D.P.b : Int) := by omega
      iterate 10 (refine wpL_do rfl (fun w' hw' => (by cases hw'; go_simp; rfl)) ?_; simp only [Act.put, List.setIfInBounds_toArray, List.set_cons_succ, List.set_cons_zero])
      refine wpL_do (v := .bool false) rfl (fun w' hw' => (by cases hw'; go_simp)) ?_
      simp only [Act.put, List.setIfInBounds_toArray, List.set_cons_succ, List.set_cons_zero]
      refine wpL_do rfl (fun w' hw' => (by cases hw'; go_simp; rfl)) ?_
      simp only [Act.put, List.setIfInBounds_toArray, List.set_cons_succ, List.set_cons_zero]
      refine wpL_pass rfl ?_
      simp only [Act.put, List.setIfInBounds_toArray, List.set_cons_succ, List.set_cons_zero]
      refine wpL_nil ?_
      simp only [List.drop_succ_cons, List.drop_zero]
      clear c13 c4 d1
      go_wp2_with fail
      unfold OnlyOn
      refine hK6.out _ _ ?_
      refine wp_cond_false rfl ?_
      go_wp2_with fail
      refine hK4.out _ _ ?_
      refine use_fr (N := 34) rfl ?_
      refine give_tail D hD hSum X B g _ A1 vs w U _ hB rfl rfl h3 htr H2.out G1.out hvb htr1 ?_ S2.out
      rw [L1.out, show D.P.b - vs.length = 0 from by omega]
      unfold loopG
      rw [List.append_nil]
end Go.Proofs.Ytopmamgdfngdoaa
