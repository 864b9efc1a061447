/- PassesBest: each set of passes: the place of one more. -/
import Derived.Test.YtfbchmihkndfaaaBst3
namespace Go.Proofs.Ytfbchmihkndfaaa
set_option linter.unusedVariables false
open Go.RowKit

theorem set_mid : ∀ (P : List Nat) (x y : Nat) (S : List Nat), (P ++ x :: S).set P.length y = P ++ y :: S
  | [], _, _, _ => rfl
  | a :: P, x, y, S => by simp only [List.cons_append, List.length_cons, List.set_cons_succ, set_mid P x y S]
/-- a list with a hole at k -/
structure Hole (l : List Ps) (A : List Nat) (k q n s : Nat) : Prop where
  ex : ∃ (P : List Nat) (x : Nat) (S : List Nat), A = P ++ x :: S ∧ P.length = k ∧ (∀ z ∈ P, z < n) ∧ (∀ z ∈ S, z < n) ∧ sumW l (P ++ S) = s
  len : A.length = q
theorem Hole.start {l : List Ps} {A : List Nat} {n : Nat} (x : Nat) (h : ∀ z ∈ A, z < n) : Hole l (A ++ [x]) A.length (A.length + 1) n (sumW l A) :=
  ⟨⟨A, x, [], rfl, rfl, h, (fun z hz => by cases hz), by rw [List.append_nil]⟩, by simp⟩
theorem Hole.klt {l : List Ps} {A : List Nat} {k q n s : Nat} (h : Hole l A k q n s) : k < q := by
  obtain ⟨⟨P, x, S, rfl, rfl, _, _, _⟩, rfl⟩ := h
  simp
theorem Hole.prev {l : List Ps} {A : List Nat} {k q n s : Nat} (h : Hole l A (k + 1) q n s) : nth A k < n := by
  obtain ⟨⟨P, x, S, rfl, hl, h1, h2, h3⟩, _⟩ := h
  rcases List.eq_nil_or_concat P with rfl | ⟨P', y, rfl⟩
  · cases hl
  · rw [List.length_concat] at hl
    have : P'.length = k := by omega
    subst this
    rw [List.concat_eq_append, List.append_assoc]
    rw [show [y] ++ x :: S = y :: (x :: S) from rfl, nth_mid]
    exact h1 y (by simp)
theorem Hole.step {l : List Ps} {A : List Nat} {k q n s : Nat} (h : Hole l A (k + 1) q n s) : Hole l (A.set (k + 1) (nth A k)) k q n s := by
  obtain ⟨⟨P, x, S, rfl, hl, h1, h2, h3⟩, h4⟩ := h
  rcases List.eq_nil_or_concat P with rfl | ⟨P', y, rfl⟩
  · cases hl
  · rw [List.length_concat] at hl
    have hk : P'.length = k := by omega
    subst hk
    rw [List.concat_eq_append] at *
    have e : nth ((P' ++ [y]) ++ x :: S) P'.length = y := by
      rw [List.append_assoc, show [y] ++ x :: S = y :: (x :: S) from rfl, nth_mid]
    have e2 : ((P' ++ [y]) ++ x :: S).set (P'.length + 1) y = P' ++ y :: (y :: S) := by
      have := set_mid (P' ++ [y]) x y S
      rw [List.length_append] at this
      rw [show P'.length + 1 = P'.length + [y].length from rfl, this, List.append_assoc]
      rfl
    rw [e, e2]
    refine ⟨⟨P', y, y :: S, rfl, rfl, fun z hz => h1 z (by simp [hz]), fun z hz => ?_, ?_⟩, ?_⟩
    · rcases List.mem_cons.1 hz with rfl | hz
      · exact h1 z (by simp)
      · exact h2 z hz
    · rw [List.append_assoc] at h3
      exact h3
    · simp at h4 ⊢
      omega
theorem Hole.fill {l : List Ps} {A : List Nat} {k q n s : Nat} (h : Hole l A k q n s) (i : Nat) (hi : i < n) : (∀ z ∈ A.set k i, z < n) ∧ sumW l (A.set k i) = s + wOf l i ∧ (A.set k i).length = q := by
  obtain ⟨⟨P, x, S, rfl, rfl, h1, h2, h3⟩, h4⟩ := h
  rw [set_mid]
  refine ⟨fun z hz => ?_, ?_, ?_⟩
  · rcases List.mem_append.1 hz with h5 | h5
    · exact h1 z h5
    · rcases List.mem_cons.1 h5 with rfl | h5
      · exact hi
      · exact h2 z h5
  · rw [sumW_append] at h3 ⊢
    show _ + (wOf l i + sumW l S) = _
    omega
  · simp at h4 ⊢
    exact h4
structure SM7 (y : Nat → Value) (la : Option Addr) (n cap gap tot mm : Nat) (av : Value) (s i : Nat) : Prop where
  s7 : y 7 = .slice la n cap
  s11 : y 11 = .int .i64 (gap : Int)
  s13 : y 13 = .int .i64 (tot : Int)
  s21 : y 21 = .int .i64 (mm : Int)
  s22 : y 22 = av
  s23 : y 23 = .int .i64 (s : Int)
  s24 : y 24 = .int .i64 (i : Int)
set_option maxRecDepth 1000000 in
set_option maxHeartbeats 1000000 in
theorem hole_c (B : Nat) (la : Option Addr) (n cap gap tot mm : Nat) (l : List Ps) (g o c q s i k s0 : Nat) (A : List Nat) (W0 : World) (hn : n ≤ 9) (hi : i < n) (hr : RdPs W0 la n cap l) (hq : q ≤ 9) (ho : OwnAt W0 B 3 (.slice (some ⟨g, o, none⟩) q c) q (vi A)) (hh : Hole l A k q n s0) (hg : GoodPs l) :
    Tri Try.prog 236 (pieceOf Try.f4 [1, 1, 1, 1, 1, 1, 1, 1, 1, 1, 1, 0, 1, 0, 0, 1, 0, 0, 1, 1, 0, 1, 0, 0, 1, 0, 0, 1, 1, 1, 1, 0, 0, 0, 0, 0]) (fun y w => SM7 y la n cap gap tot mm (.slice (some ⟨g, o, none⟩) q c) s i ∧ y 25 = .int .i64 (k : Int) ∧ w = W0)
      (fun _ _ y w => SM7 y la n cap gap tot mm (.slice (some ⟨g, o, none⟩) q c) s i ∧ y 25 = .int .i64 (k : Int) ∧ (∃ b, y 212 = .bool b ∧ (b = true → 0 < k)) ∧ Below W0.heap.size W0 w) := by
  rintro Q y w ⟨⟨s7, s11, s13, s21, s22, s23, s24⟩, s25, rfl⟩ hQ
  have HQ := hid hQ
  have hkq := hh.klt
  obtain ⟨lb, rfl, hll, _, a1, _, _⟩ := hr.at_ i hi
  have hd : Hid (Below w.heap.size w w.drew) := (Below.refl _ w).drew
  clear hQ
  by_cases h0 : k = 0
  · subst h0
    have d1 : decide ((0 : Int) < 0) = false := by decide
    clear ho hh hr a1
    conv => arg 2; whnf
    rw [fr236]
    simp only [s7, s11, s13, s21, s22, s23, s24, s25]
    clear s7 s11 s13 s21 s22 s23 s24 s25
    refine wp_region_can_all [] [0, 1, 2, 3, 4, 5, 6, 7, 8, 9, 10, 11, 12, 13, 14, 15, 16, 17, 18] (Below w.heap.size) (fun _ => Below.refl _ _) (fun _ _ _ h k => h.trans k) (by kernel_rfl) (by kernel_rfl) ?_
    simp only [List.map_cons, List.map_nil, List.contains_nil, List.getD_cons_zero, List.getD_cons_succ]
    generalize w.drew = U at *
    iterate 3 (refine wpL_do rfl (fun w' hw' => (by go_simp; rfl)) ?_; simp only [Act.put, List.setIfInBounds_toArray, List.set_cons_succ, List.set_cons_zero])
    iterate 15 ((with_reducible refine wpL_pass ?_ ?_); (· rfl); simp only [Act.put, List.setIfInBounds_toArray, List.set_cons_succ, List.set_cons_zero])
    refine wpL_do rfl (fun w' hw' => (by go_simp; rfl)) ?_
    simp only [Act.put, List.setIfInBounds_toArray, List.set_cons_succ, List.set_cons_zero]
    refine wpL_nil ?_
    exact q_fr (N := 236) HQ.out rfl ⟨⟨rfl, rfl, rfl, rfl, rfl, rfl, rfl⟩, rfl, ⟨false, rfl, fun h => by cases h⟩, hd.out⟩
  · obtain ⟨j, rfl⟩ : ∃ j, k = j + 1 := ⟨k - 1, by omega⟩
    have hp := hh.prev
    obtain ⟨hgl, c0, _⟩ := ho.ati j (by omega)
    obtain ⟨lb2, he, _, _, a2, _, _⟩ := hr.at_ (nth A j) hp
    cases he
    have e0 : ∀ w', Below w.heap.size w.drew w' → w'.cell? ⟨g, o + j, none⟩ = some (.int .i64 (nth A j : Nat)) := fun w' h => ((hd.out.trans h).cell (p := ⟨g, o + j, none⟩) hgl).trans c0
    have e1 : ∀ w', Below w.heap.size w.drew w' → w'.cell? ⟨lb, nth A j * 4 + 1, none⟩ = some (.int .i64 ((pAt l (nth A j)).fr : Int)) := fun w' h => ((hd.out.trans h).cell (p := ⟨lb, nth A j * 4 + 1, none⟩) hll).trans a2
    have e2 : ∀ w', Below w.heap.size w.drew w' → w'.cell? ⟨lb, i * 4 + 1, none⟩ = some (.int .i64 ((pAt l i).fr : Int)) := fun w' h => ((hd.out.trans h).cell (p := ⟨lb, i * 4 + 1, none⟩) hll).trans a1
    generalize (pAt l (nth A j)).fr = fa at *
    generalize (pAt l i).fr = fi at *
    generalize nth A j = a at *
    obtain ⟨k, hk⟩ : ∃ k, k = j + 1 := ⟨_, rfl⟩
    rw [← hk] at s25 HQ
    have hsub : (k : Int) - 1 = (j : Int) := by omega
    have hwr : IntKind.i64.wrap (j : Int) = (j : Int) := IntWalk.i64_in _ (by omega)
    have hjq : j < q := by omega
    have hk0 : 0 < k := by omega
    have d1 : decide ((0 : Int) < (k : Int)) = true := decide_eq_true (by omega)
    have hcap := hr.le
    have hmx := hr.max
    unfold maxLen at hmx
    clear hk c0 a1 a2 ho hr hh h0 hkq
    conv => arg 2; whnf
    rw [fr236]
    simp only [s7, s11, s13, s21, s22, s23, s24, s25]
    clear s7 s11 s13 s21 s22 s23 s24 s25
    refine wp_region_can_all [] [0, 1, 2, 3, 4, 5, 6, 7, 8, 9, 10, 11, 12, 13, 14, 15, 16, 17, 18] (Below w.heap.size) (fun _ => Below.refl _ _) (fun _ _ _ h k => h.trans k) (by kernel_rfl) (by kernel_rfl) ?_
    simp only [List.map_cons, List.map_nil, List.contains_nil, List.getD_cons_zero, List.getD_cons_succ]
    generalize w.drew = U at *
    iterate 18 (refine wpL_do rfl (fun w' hw' => (by go_simp; rfl)) ?_; simp only [Act.put, List.setIfInBounds_toArray, List.set_cons_succ, List.set_cons_zero])
    clear e0 e1 e2
    refine wpL_do rfl (fun w' hw' => (by go_simp; rfl)) ?_
    simp only [Act.put, List.setIfInBounds_toArray, List.set_cons_succ, List.set_cons_zero]
    refine wpL_nil ?_
    exact q_fr (N := 236) HQ.out rfl ⟨⟨rfl, rfl, rfl, rfl, rfl, rfl, rfl⟩, rfl, ⟨_, rfl, fun _ => hk0⟩, hd.out⟩
end Go.Proofs.Ytfbchmihkndfaaa
