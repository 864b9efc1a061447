/- Units in packets: the plain law of what is joined. -/
import Derived.Test.YtbclokglkcbmkaaJoinB
import Derived.Test.YtbclokglkcbmkaaCut
namespace Go.Proofs.Ytbclokglkcbmkaa
set_option linter.unusedVariables false

/-- what is joined, behind n packets -/
def Inv (c0 n : Nat) (nx : Int) (us : List Nat) : Prop := us.length ≤ 301 ∧ ((nx = -1 ∧ us = []) ∨ ∃ M, M ≤ n ∧ nx = (((c0 + M) % 16384 : Nat) : Int))
/-- the same within a unit of K pieces, behind k of them; b: none of them was lost -/
def InvK (c0 n k K m : Nat) (b : Bool) (u : List Nat) (nx : Int) (us : List Nat) : Prop :=
  Inv c0 n nx us ∧ (b = true → 0 < k → nx = (((c0 + n) % 16384 : Nat) : Int) ∧ us = if k = K then [] else u.take (k * m)) ∧ (b = false → nx = (((c0 + n) % 16384 : Nat) : Int) → us = []) ∧ (b = false → 0 < k)

theorem pv_ptf (K k : Nat) : pv (decide (k = 0)) (decide (k + 1 = K)) = ((ptf K k : Nat) : Int) := by
  unfold pv ptf
  rw [show decide (k + 1 = K) = decide (k + 1 = K) from rfl]
  by_cases h2 : k + 1 = K
  · rw [if_pos h2, decide_eq_true h2]
    by_cases h1 : k = 0 <;> simp [h1]
  · rw [if_neg h2, decide_eq_false h2]
    by_cases h1 : k = 0 <;> simp [h1]
theorem Inv.pre {c0 n : Nat} {nx : Int} {us : List Nat} (h : Inv c0 n nx us) : (-1 ≤ nx ∧ nx ≤ 16383) ∧ us.length ≤ 301 ∧ (us ≠ [] → 0 ≤ nx) := by
  obtain ⟨h1, h2 | ⟨M, hM, h2⟩⟩ := h
  · exact ⟨by omega, h1, fun h => absurd h2.2 h⟩
  · exact ⟨by omega, h1, fun _ => by omega⟩

theorem inv_start (c0 : Nat) : Inv c0 0 (-1) [] := ⟨by simp, .inl ⟨rfl, rfl⟩⟩
theorem invK_start {c0 n K m : Nat} {u us : List Nat} {nx : Int} (h : Inv c0 n nx us) : InvK c0 n 0 K m true u nx us := ⟨h, fun _ h => absurd h (Nat.lt_irrefl 0), (fun h => by cases h), (fun h => by cases h)⟩

theorem invK_lost {c0 n k K m : Nat} {b : Bool} {u us : List Nat} {nx : Int} (h : InvK c0 n k K m b u nx us) (hn : n < 12100) : InvK c0 (n + 1) (k + 1) K m false u nx us := by
  obtain ⟨⟨h1, h2⟩, _, _, _⟩ := h
  refine ⟨⟨h1, ?_⟩, (fun h => by cases h), fun _ he => ?_, fun _ => Nat.succ_pos k⟩
  · rcases h2 with h2 | ⟨M, hM, h2⟩
    · exact .inl h2
    · exact .inr ⟨M, by omega, h2⟩
  · rcases h2 with h2 | ⟨M, hM, h2⟩
    · exact h2.2
    · omega

theorem take_piece (u : List Nat) (m k : Nat) : u.take (k * m) ++ piece u m k = u.take ((k + 1) * m) := by
  unfold piece
  rw [Nat.add_mul, Nat.one_mul, List.take_add]

theorem invK_step {c0 n k K m : Nat} {b : Bool} {u us : List Nat} {nx : Int} (h : InvK c0 n k K m b u nx us) (hk : k < K) (hK : K = pieces u.length m) (hm : 0 < m) (hu : u.length ≤ 301) :
    InvK c0 (n + 1) (k + 1) K m b u (((((c0 + n) % 16384) + 1) % 16384 : Nat) : Int) (un3 (decide (k + 1 = K)) (un2 (decide (k = 0)) (un1 nx ((c0 + n) % 16384) us) (piece u m k))) ∧
      got3 (decide (k + 1 = K)) (un2 (decide (k = 0)) (un1 nx ((c0 + n) % 16384) us) (piece u m k)) = if b = true ∧ k + 1 = K then u else [] := by
  obtain ⟨⟨h1, h2⟩, h3, h4, h40⟩ := h
  have hkm : k * m < u.length := (pieces_lt hm).1 (by rw [← hK]; exact hk)
  have hne : u.take ((k + 1) * m) ≠ [] := by
    have h5 : 0 < (k + 1) * m := Nat.mul_pos (Nat.succ_pos k) hm
    intro he
    have : (u.take ((k + 1) * m)).length = 0 := by rw [he]; rfl
    rw [List.length_take] at this
    omega
  have hall : k + 1 = K → u.take ((k + 1) * m) = u := fun he => by
    apply List.take_of_length_le
    rcases Nat.lt_or_ge ((k + 1) * m) u.length with h | h
    · have := (pieces_lt (len := u.length) (k := k + 1) hm).2 h
      omega
    · exact h
  have key : un2 (decide (k = 0)) (un1 nx ((c0 + n) % 16384) us) (piece u m k) = if b = true ∨ k = 0 then u.take ((k + 1) * m) else [] := by
    by_cases h0 : k = 0
    · subst h0
      rw [if_pos (.inr rfl), show decide (0 = 0) = true from rfl, ← take_piece]
      simp [un2]
    · rw [show decide (k = 0) = false by simpa using h0]
      cases b with
      | true =>
        obtain ⟨h5, h6⟩ := h3 rfl (by omega)
        rw [if_neg (by omega)] at h6
        have hm0 : mism nx ((c0 + n) % 16384) = false := by unfold mism; rw [h5]; simp
        rw [if_pos (.inl rfl), un1, hm0]
        simp only [Bool.false_eq_true, if_false]
        rw [un2_app us _ (by
          rw [h6]
          have h5 : 0 < k * m := Nat.mul_pos (by omega) hm
          intro he
          have : (u.take (k * m)).length = 0 := by rw [he]; rfl
          rw [List.length_take] at this
          omega), h6, take_piece]
      | false =>
        rw [if_neg (by simp [h0])]
        have : un1 nx ((c0 + n) % 16384) us = [] := by
          unfold un1
          cases hm0 : mism nx ((c0 + n) % 16384) with
          | true => rfl
          | false =>
            simp only [Bool.false_eq_true, if_false]
            rcases h2 with h2 | ⟨M, hM, h2⟩
            · exact h2.2
            · apply h4 rfl
              unfold mism at hm0
              simp at hm0
              exact hm0 (by omega)
        rw [this]; rfl
  rw [key]
  have hInv : ∀ xs : List Nat, xs.length ≤ 301 → Inv c0 (n + 1) (((((c0 + n) % 16384) + 1) % 16384 : Nat) : Int) xs := fun xs hx => ⟨hx, .inr ⟨n + 1, Nat.le_refl _, by omega⟩⟩
  have enx : (((((c0 + n) % 16384) + 1) % 16384 : Nat) : Int) = (((c0 + (n + 1)) % 16384 : Nat) : Int) := by omega
  have hb0 : (b = true ∨ k = 0) → b = true := fun h => by
    cases b with
    | true => rfl
    | false => have := h40 rfl; rcases h with h | h <;> first | exact h | omega
  by_cases hla : k + 1 = K
  · rw [show decide (k + 1 = K) = true by simpa using hla]
    by_cases hb : b = true ∨ k = 0
    · have hbt := hb0 hb
      rw [if_pos hb, hall hla, if_pos ⟨hbt, hla⟩]
      exact ⟨⟨hInv _ (by simp [un3]), fun _ _ => ⟨enx, by rw [if_pos hla]; rfl⟩, fun _ _ => rfl, fun _ => Nat.succ_pos k⟩, rfl⟩
    · rw [if_neg hb, if_neg (show ¬ (b = true ∧ k + 1 = K) from fun h => hb (.inl h.1))]
      exact ⟨⟨hInv _ (by simp [un3]), fun hb' => absurd (.inl hb') hb, fun _ _ => rfl, fun _ => Nat.succ_pos k⟩, rfl⟩
  · rw [show decide (k + 1 = K) = false by simpa using hla]
    rw [if_neg (show ¬ (b = true ∧ k + 1 = K) from fun h => hla h.2)]
    by_cases hb : b = true ∨ k = 0
    · have hbt := hb0 hb
      rw [if_pos hb]
      refine ⟨⟨hInv _ ?_, fun _ _ => ⟨enx, by rw [if_neg hla]; rfl⟩, fun h => (by rw [hbt] at h; cases h), fun _ => Nat.succ_pos k⟩, rfl⟩
      have : (u.take ((k + 1) * m)).length ≤ u.length := by rw [List.length_take]; exact Nat.min_le_right _ _
      exact Nat.le_trans this hu
    · rw [if_neg hb]
      exact ⟨⟨hInv _ (by simp [un3]), fun hb' => absurd (.inl hb') hb, fun _ _ => rfl, fun _ => Nat.succ_pos k⟩, rfl⟩
end Go.Proofs.Ytbclokglkcbmkaa
