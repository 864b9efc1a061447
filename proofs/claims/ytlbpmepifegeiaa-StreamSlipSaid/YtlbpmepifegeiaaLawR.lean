/- Stream: what is found when a bit is lost or came too many. No program in sight. -/
import Derived.Test.YtlbpmepifegeiaaLawQ
namespace Go.Proofs.Ytlbpmepifegeiaa
set_option linter.unusedVariables false

theorem flat_split (t : Bool) (D1 D2 : List (List Nat)) (d : List Nat) : flat t (D1 ++ d :: D2) = flat t D1 ++ (fl t markB ++ (fl t (bitsOf (Scr d)) ++ flat t D2)) := by
  rw [← flat_cons]
  unfold flat
  rw [List.flatMap_append, fl_append]
theorem flat_1' (D : List (List Nat)) : All1 (flat false D) := fun x hx => by
  have hx : x ∈ D.flatMap frB := hx
  obtain ⟨d, _, h9⟩ := List.mem_flatMap.1 hx; exact frB_1 d x h9

theorem slip_all (L F H M : Nat) (hL : 1 ≤ L) (hF : F ≤ 3) (hH : H ≤ 7) (D : List (List Nat)) (hD : ∀ d ∈ D, AllB d ∧ d.length = L) (kk oo p : Nat) (hk : kk + 1 < D.length) (ho : oo < 8 * L) (hp : p = kk * (32 + 8 * L) + 32 + oo) (S : List Nat) (sh : Int)
    (hS : (∃ x, x < 2 ∧ S = (flat false D).take p ++ ([x] ++ (flat false D).drop p) ∧ sh = 1) ∨ (S = (flat false D).take p ++ (flat false D).drop (p + 1) ∧ sh = -1)) :
    All1 S ∧ ∃ m' fo, Run ⟨L, F, H, M⟩ S (core (SyV.new L F H M)) fo m' ∧ fo.length = D.length ∧
      ∀ i (hi : i < D.length), ∃ f, fo[i]? = some f ∧ (f.pos : Int) = (i * (32 + 8 * L) : Nat) + (if kk < i then sh else 0) ∧ f.tu = false ∧ f.mi = 0 ∧ (i ≠ kk → f.ds = D[i]) := by
  have hB1 := flat_1' D
  have hS1 : All1 S := by
    rcases hS with ⟨x, hx, rfl, _⟩ | ⟨rfl, _⟩
    · exact (hB1.take _).append (All1.append (fun y hy => by simp at hy; omega) (hB1.drop _))
    · exact (hB1.take _).append (hB1.drop _)
  refine ⟨hS1, ?_⟩
  obtain ⟨D1, d, D2, hDe, hl1⟩ : ∃ D1 d D2, D = D1 ++ d :: D2 ∧ D1.length = kk := by
    refine ⟨D.take kk, D[kk], D.drop (kk + 1), ?_, by simp; omega⟩
    rw [← List.drop_eq_getElem_cons (by omega), List.take_append_drop]
  have hne : D2 ≠ [] := by rintro rfl; rw [hDe] at hk; simp at hk; omega
  have h1 : ∀ x ∈ D1, AllB x ∧ x.length = L := fun x hx => hD x (by rw [hDe]; simp [hx])
  have h2 : ∀ x ∈ D2, AllB x ∧ x.length = L := fun x hx => hD x (by rw [hDe]; simp [hx])
  have hd := (hD d (by rw [hDe]; simp)).2
  have hX : (bitsOf (Scr d)).length = 8 * L := by rw [bitsOf_len, Scr_len, hd]
  have hX1 := bitsOf_1 (Scr d)
  have hf1 : (flat false D1).length = kk * (32 + 8 * L) := by
    have : (flat false D1).length = (D1.flatMap frB).length := rfl
    rw [this, flatLen D1 (fun x hx => (h1 x hx).2), hl1]
  have hB : flat false D = (flat false D1 ++ markB) ++ (bitsOf (Scr d) ++ flat false D2) := by
    rw [hDe, flat_split, List.append_assoc]; rfl
  have hpl : p = (flat false D1 ++ markB).length + oo := by rw [List.length_append, hf1, markB_len, hp]
  have tk : ∀ k, k ≤ 8 * L → (flat false D).take ((flat false D1 ++ markB).length + k) = (flat false D1 ++ markB) ++ (bitsOf (Scr d)).take k := fun k hk => by
    rw [hB, List.take_length_add_append, List.take_append_of_le_length (by omega)]
  have dr : ∀ k, k ≤ 8 * L → (flat false D).drop ((flat false D1 ++ markB).length + k) = (bitsOf (Scr d)).drop k ++ flat false D2 := fun k hk => by
    rw [hB, List.drop_length_add_append, List.drop_append_of_le_length (by omega)]
  have key : ∃ Y, S = flat false D1 ++ (markB ++ (Y ++ flat false D2)) ∧ All1 Y ∧ (Y.length : Int) = 8 * (L : Int) + sh ∧ (Y.length = 8 * L + 1 ∨ Y.length + 1 = 8 * L) := by
    rcases hS with ⟨x, hx, rfl, rfl⟩ | ⟨rfl, rfl⟩
    · refine ⟨(bitsOf (Scr d)).take oo ++ ([x] ++ (bitsOf (Scr d)).drop oo), ?_, (hX1.take _).append (All1.append (fun y hy => by simp at hy; omega) (hX1.drop _)), ?_, ?_⟩
      · rw [hpl, tk oo (by omega), dr oo (by omega)]; simp
      · simp [hX]; omega
      · left; simp [hX]; omega
    · refine ⟨(bitsOf (Scr d)).take oo ++ (bitsOf (Scr d)).drop (oo + 1), ?_, (hX1.take _).append (hX1.drop _), ?_, ?_⟩
      · rw [hpl, tk oo (by omega), Nat.add_assoc, dr (oo + 1) (by omega)]; simp
      · simp [hX]; omega
      · right; simp [hX]; omega
  obtain ⟨Y, rfl, hY, hYs, hYl⟩ := key
  obtain ⟨m', ds, hrun⟩ := slip_law L F H M hL hF hH D1 D2 Y h1 h2 hne hY hYl
  rw [hl1] at hrun
  refine ⟨m', _, hrun, by rw [hDe]; simp [foL_len], fun i hi => ?_⟩
  have hlD : D.length = kk + 1 + D2.length := by rw [hDe, List.length_append, List.length_cons, hl1]; omega
  by_cases h3 : i < kk
  · refine ⟨_, (List.getElem?_append_left (by rw [foL_len]; omega)).trans (foL_get L false 0 D1 i (by omega)), ?_, rfl, rfl, fun _ => ?_⟩
    · rw [if_neg (by omega)]; simp
    · subst hDe
      rw [List.getElem_append_left (by omega)]
  · by_cases h4 : i = kk
    · subst h4
      refine ⟨⟨i * (32 + 8 * L), false, 0, ds⟩, ?_, ?_, rfl, rfl, fun h => absurd rfl h⟩
      · rw [List.getElem?_append_right (by rw [foL_len]; omega), foL_len, hl1, Nat.sub_self]; rfl
      · rw [if_neg (by omega)]; simp
    · obtain ⟨j, rfl⟩ : ∃ j, i = kk + 1 + j := ⟨i - kk - 1, by omega⟩
      have hj : j < D2.length := by omega
      refine ⟨⟨kk * (32 + 8 * L) + 32 + Y.length + j * (32 + 8 * L), false, 0, D2[j]⟩, ?_, ?_, rfl, rfl, fun _ => ?_⟩
      · rw [List.getElem?_append_right (by rw [foL_len]; omega), foL_len, hl1, show kk + 1 + j - kk = j + 1 by omega, List.getElem?_cons_succ, foL_get _ _ _ _ j hj]
      · rw [if_pos (by omega)]
        have e : (kk + 1 + j) * (32 + 8 * L) = kk * (32 + 8 * L) + (32 + 8 * L) + j * (32 + 8 * L) := by rw [Nat.add_mul, Nat.add_mul, Nat.one_mul]
        rw [e]
        simp only []
        omega
      · subst hDe
        rw [List.getElem_append_right (by omega)]
        have : kk + 1 + j - D1.length = j + 1 := by omega
        simp [this]
end Go.Proofs.Ytlbpmepifegeiaa
