/- Passes: slices.SortFunc of indices: the test, the loops. -/
import Derived.Test.YtfbchmihkndfaaaSortP
namespace Go.Proofs.Ytfbchmihkndfaaa
set_option linter.unusedVariables false
open Go.RowKit

set_option maxRecDepth 1000000 in
set_option maxHeartbeats 1000000 in
theorem test_ok (B X g o c n j i cap : Nat) (la : Option Addr) (l : List Ps) (L : List Nat) (W0 : World) (hn : n ≤ 9) (hj : j < n) (hg : GoodPs l) (hL : ∀ k, k < n → nth L k < n) (hX : W0.heap[X]? = some (.cells #[.slice la n cap] 39)) (hr : RdPs W0 la n cap l) (ho : OwnAt W0 B 3 (.slice (some ⟨g, o, none⟩) n c) n (vi L)) :
    Tri Try.prog 53 (pieceOf Try.f42 [1, 0, 0, 1, 0, 0, 1, 0, 0, 0, 0]) (fun y w => SlotI y g o c n X ∧ y 8 = .int .i64 (i : Int) ∧ y 9 = .int .i64 (j : Int) ∧ w = W0)
      (fun _ _ y w => SlotI y g o c n X ∧ y 8 = .int .i64 (i : Int) ∧ y 9 = .int .i64 (j : Int) ∧ y 34 = .bool (decide (0 < j) && decide (frOf l (nth L (j - 1)) < frOf l (nth L j))) ∧ Below W0.heap.size W0 w) := by
  rintro Q y w ⟨⟨s0, s1, s2, s3⟩, s8, s9, rfl⟩ hQ
  have HQ := hid hQ
  obtain ⟨hgl, c0, _⟩ := ho.ati j hj
  have e0 : ∀ w', Below w.heap.size w.drew w' → w'.cell? ⟨g, o + j, none⟩ = some (.int .i64 (nth L j : Nat)) := fun w' h => (((Below.refl _ w).drew.trans h).cell (p := ⟨g, o + j, none⟩) hgl).trans c0
  have hd : Hid (Below w.heap.size w w.drew) := (Below.refl _ w).drew
  clear hQ
  by_cases h0 : j = 0
  · subst h0
    have d1 : decide ((0 : Int) < 0) = false := by decide
    clear e0 c0 ho hr hX hL
    conv => arg 2; whnf
    rw [fr53]
    simp only [s0, s1, s2, s3, s8, s9]
    clear s0 s1 s2 s3 s8 s9
    refine wp_region_can_all [14] [0, 1, 2, 3, 4, 5, 6, 7, 8, 9, 10, 11, 12, 13, 14, 15, 16] (Below w.heap.size) (fun _ => Below.refl _ _) (fun _ _ _ h k => h.trans k) (by kernel_rfl) (by kernel_rfl) ?_
    simp only [List.map_cons, List.map_nil, List.contains_cons, List.contains_nil, List.getD_cons_zero, List.getD_cons_succ, Nat.reduceBEq, Bool.or_false]
    generalize w.drew = U at *
    iterate 4 (refine wpL_do rfl (fun w' hw' => (by go_simp; rfl)) ?_; simp only [Act.put, List.setIfInBounds_toArray, List.set_cons_succ, List.set_cons_zero])
    iterate 10 ((with_reducible refine wpL_pass ?_ ?_); (· rfl); simp only [Act.put, List.setIfInBounds_toArray, List.set_cons_succ, List.set_cons_zero])
    (with_reducible refine wpL_hush ?_ ?_ ?_)
    · rfl
    · exact Below.refl _ _
    simp only [Act.put, List.setIfInBounds_toArray, List.set_cons_succ, List.set_cons_zero]
    (with_reducible refine wpL_pass ?_ ?_)
    · rfl
    simp only [Act.put, List.setIfInBounds_toArray, List.set_cons_succ, List.set_cons_zero]
    refine wpL_do rfl (fun w' hw' => (by go_simp; rfl)) ?_
    simp only [Act.put, List.setIfInBounds_toArray, List.set_cons_succ, List.set_cons_zero]
    refine wpL_nil ?_
    exact q_fr (N := 53) HQ.out rfl ⟨⟨rfl, rfl, rfl, rfl⟩, rfl, rfl, rfl, hd.out⟩
  · have d1 : decide ((0 : Int) < (j : Int)) = true := decide_eq_true (by omega)
    have d2 : decide (0 < j) = true := decide_eq_true (by omega)
    obtain ⟨_, c1, _⟩ := ho.ati (j - 1) (by omega)
    have e1 : ∀ w', Below w.heap.size w.drew w' → w'.cell? ⟨g, o + (j - 1), none⟩ = some (.int .i64 (nth L (j - 1) : Nat)) := fun w' h => (((Below.refl _ w).drew.trans h).cell (p := ⟨g, o + (j - 1), none⟩) hgl).trans c1
    have hcl := cl_ok X n cap (nth L j) (nth L (j - 1)) la l hg (hL j hj) (hL (j - 1) (by omega)) hn w.drew hX (hr.below (Below.refl _ w).drew)
    have hfin : Hid (decide ((((pAt l (nth L (j - 1))).fr : Nat) : Int) - (((pAt l (nth L j)).fr : Nat) : Int) < 0) = (true && decide (frOf l (nth L (j - 1)) < frOf l (nth L j)))) := by
      unfold Hid frOf
      rw [Bool.true_and]
      exact decide_eq_decide.2 (by omega)
    rw [d2] at HQ
    generalize (true && decide (frOf l (nth L (j - 1)) < frOf l (nth L j))) = bb at *
    generalize ((((pAt l (nth L (j - 1))).fr : Nat) : Int) - (((pAt l (nth L j)).fr : Nat) : Int)) = df at *
    generalize nth L j = a at *
    generalize nth L (j - 1) = b at *
    obtain ⟨k, hk⟩ : ∃ k, k = j - 1 := ⟨_, rfl⟩
    rw [← hk] at e1
    have hsub : (j : Int) - 1 = (k : Int) := by omega
    have hwr : IntKind.i64.wrap (k : Int) = (k : Int) := IntWalk.i64_in _ (by omega)
    have hkn : k < n := by omega
    clear hk c0 c1 ho hr hX hL h0
    conv => arg 2; whnf
    rw [fr53]
    simp only [s0, s1, s2, s3, s8, s9]
    clear s0 s1 s2 s3 s8 s9
    refine wp_region_can_all [14] [0, 1, 2, 3, 4, 5, 6, 7, 8, 9, 10, 11, 12, 13, 14, 15, 16] (Below w.heap.size) (fun _ => Below.refl _ _) (fun _ _ _ h k => h.trans k) (by kernel_rfl) (by kernel_rfl) ?_
    simp only [List.map_cons, List.map_nil, List.contains_cons, List.contains_nil, List.getD_cons_zero, List.getD_cons_succ, Nat.reduceBEq, Bool.or_false]
    generalize w.drew = U at *
    repeat (refine wpL_do rfl (fun w' hw' => (by go_simp; rfl)) ?_; simp only [Act.put, List.setIfInBounds_toArray, List.set_cons_succ, List.set_cons_zero])
    refine wpL_call rfl (fun K hK => ?_)
    clear e0 e1 hsub hwr
    go_wp2_with fail
    refine hcl.mono ?_
    rintro e W1 ⟨rfl, b1⟩
    refine hK _ _ (b1.mono hd.out.size) ?_
    have hd1 := hid (hd.out.trans (b1.mono hd.out.size))
    clear hK K hcl b1
    try simp only [Act.put, List.setIfInBounds_toArray, List.set_cons_succ, List.set_cons_zero]
    cases bb with
    | true =>
      have hf := hfin.out
      clear hfin
      iterate 2 (refine wpL_do rfl (fun w' hw' => (by go_simp; rfl)) ?_; simp only [Act.put, List.setIfInBounds_toArray, List.set_cons_succ, List.set_cons_zero])
      refine wpL_nil ?_
      exact q_fr (N := 53) HQ.out rfl ⟨⟨rfl, rfl, rfl, rfl⟩, rfl, rfl, rfl, hd1.out⟩
    | false =>
      have hf := hfin.out
      clear hfin
      iterate 2 (refine wpL_do rfl (fun w' hw' => (by go_simp; rfl)) ?_; simp only [Act.put, List.setIfInBounds_toArray, List.set_cons_succ, List.set_cons_zero])
      refine wpL_nil ?_
      exact q_fr (N := 53) HQ.out rfl ⟨⟨rfl, rfl, rfl, rfl⟩, rfl, rfl, rfl, hd1.out⟩
end Go.Proofs.Ytfbchmihkndfaaa
