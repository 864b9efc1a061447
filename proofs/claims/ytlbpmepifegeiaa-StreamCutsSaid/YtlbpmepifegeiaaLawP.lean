/- Stream: what the machine finds in frames one behind the other. No program in sight. -/
import Derived.Test.YtlbpmepifegeiaaRunP
namespace Go.Proofs.Ytlbpmepifegeiaa
set_option linter.unusedVariables false

/-! bits and bytes -/
theorem numB_b8 (x : Nat) : ∀ k, k ≤ 8 → numB (b8 x k) = x / 2 ^ (8 - k) % 2 ^ k
  | 0, _ => by simp [b8, numB]; omega
  | k + 1, h => by
    rw [b8, numB_snoc, numB_b8 x k (by omega)]
    have e : x / 2 ^ (8 - k) = x / 2 ^ (7 - k) / 2 := by rw [Nat.div_div_eq_div_mul, ← Nat.pow_succ]; congr 2; omega
    rw [e, show 8 - (k + 1) = 7 - k by omega]
    generalize x / 2 ^ (7 - k) = y
    rw [Nat.pow_succ]
    have h1 := Nat.mod_mul_left_mod y (2 ^ k) 2
    have : y % (2 ^ k * 2) = y % (2 * 2 ^ k) := by rw [Nat.mul_comm]
    rw [this, Nat.mod_mul]
    omega
theorem numB_byte {x : Nat} (h : x < 256) : numB (b8 x 8) = x := by
  rw [numB_b8 x 8 (Nat.le_refl _)]
  simp
  omega
theorem piece_bits (l : List Nat) (R : List Nat) : ∀ k, k < l.length → piece (bitsOf l ++ R) 8 k = b8 (nth l k) 8 := by
  induction l with
  | nil => intro k hk; simp at hk
  | cons x l ih =>
    intro k hk
    have e : bitsOf (x :: l) = b8 x 8 ++ bitsOf l := rfl
    cases k with
    | zero =>
      unfold piece
      rw [e, Nat.zero_mul, List.drop_zero, List.append_assoc]
      rw [List.take_append_of_le_length (by rw [b8_len]; omega), List.take_of_length_le (by rw [b8_len]; omega)]
      rfl
    | succ k =>
      have h1 := ih k (by simpa using hk)
      unfold piece at h1 ⊢
      rw [e, List.append_assoc, show (k + 1) * 8 = (b8 x 8).length + k * 8 by rw [b8_len]; omega, List.drop_append, List.drop_eq_nil_of_le (by omega), List.nil_append, Nat.add_sub_cancel_left, h1]
      rfl
theorem bytesOf_bits {l : List Nat} (h : AllB l) : bytesOf (bitsOf l) = l := by
  apply ext_nth
  · rw [bytesOf_len, bitsOf_len]; omega
  · intro k hk
    rw [bytesOf_len, bitsOf_len] at hk
    have hk2 : k < l.length := by omega
    rw [nth_get (by rw [bytesOf_len, bitsOf_len]; omega)]
    unfold bytesOf byteL
    rw [List.getElem_map, List.getElem_range]
    have := piece_bits l [] k hk2
    rw [List.append_nil] at this
    rw [this, numB_byte (nth_lt h k)]
/-- turned round -/
def fl (t : Bool) (l : List Nat) : List Nat := if t then l.map (· ^^^ 1) else l
theorem fl_len (t : Bool) (l : List Nat) : (fl t l).length = l.length := by unfold fl; split <;> simp
theorem fl_append (t : Bool) (a b : List Nat) : fl t (a ++ b) = fl t a ++ fl t b := by unfold fl; split <;> simp
theorem flipB_fl (t : Bool) (l : List Nat) : flipB t l = fl t l := by
  unfold flipB fl
  cases t with
  | false => rfl
  | true =>
    simp only [if_true]
    apply ext_nth
    · rw [flipTo_len, List.length_map]
    · intro k hk
      rw [flipTo_len] at hk
      rw [flipTo_nth _ _ _ (Nat.le_refl _), if_pos hk, nth_get (l := l.map (· ^^^ 1)) (by simpa using hk), List.getElem_map, nth_get hk]
theorem fl_fl (t : Bool) (l : List Nat) : fl t (fl t l) = l := by
  unfold fl
  cases t with
  | false => rfl
  | true =>
    simp only [if_true, List.map_map]
    have : ((fun x => x ^^^ 1) ∘ fun x => x ^^^ 1) = (id : Nat → Nat) := by
      funext x
      simp [Nat.xor_assoc]
    rw [this, List.map_id]

/-! windows -/
theorem winN_at (P X R : List Nat) (hX : X.length = 32) : winN (P ++ (X ++ R)) P.length = numB X := by
  unfold winN
  rw [List.drop_left, List.take_append_of_le_length (by omega), List.take_of_length_le (by omega)]
theorem mark_num (t : Bool) : wrN (numB (fl t markB)) t = 0 := by
  cases t
  · kernel_rfl
  · kernel_rfl
theorem mark_not : wrN (numB (fl true markB)) false = 32 := by kernel_rfl
theorem hit_mark {F : Nat} (hF : F ≤ 8) (t : Bool) (P R : List Nat) : hit F (P ++ (fl t markB ++ R)) P.length = some t := by
  unfold hit
  rw [winN_at _ _ _ (by rw [fl_len, markB_len])]
  cases t with
  | false => rw [mark_num, if_pos (by omega)]
  | true => rw [mark_not, if_neg (by omega), mark_num, if_pos (by omega)]

/-! frames -/
def foL (L : Nat) (t : Bool) (q : Nat) : List (List Nat) → List Fo
  | [] => []
  | d :: D => ⟨q, t, 0, d⟩ :: foL L t (q + (32 + 8 * L)) D
theorem foL_len (L : Nat) (t : Bool) (q : Nat) (D : List (List Nat)) : (foL L t q D).length = D.length := by
  induction D generalizing q with
  | nil => rfl
  | cons d D ih => simp [foL, ih]
theorem foL_get (L : Nat) (t : Bool) (q : Nat) (D : List (List Nat)) (i : Nat) (h : i < D.length) : (foL L t q D)[i]? = some ⟨q + i * (32 + 8 * L), t, 0, D[i]⟩ := by
  induction D generalizing q i with
  | nil => simp at h
  | cons d D ih =>
    cases i with
    | zero => simp [foL]
    | succ i => simp only [foL, List.getElem?_cons_succ, List.getElem_cons_succ]; rw [ih _ i (by simpa using h), Nat.add_mul, Nat.one_mul, Nat.add_assoc, Nat.add_comm (32 + 8 * L)]
/-- frames one behind the other -/
def flat (t : Bool) (D : List (List Nat)) : List Nat := fl t (D.flatMap frB)
theorem flat_cons (t : Bool) (d : List Nat) (D : List (List Nat)) : flat t (d :: D) = fl t markB ++ (fl t (bitsOf (Scr d)) ++ flat t D) := by
  unfold flat
  rw [List.flatMap_cons, fl_append]
  unfold frB
  rw [fl_append, List.append_assoc]
theorem frD_at {L : Nat} (t : Bool) (P R : List Nat) {d : List Nat} (hd : AllB d) (hl : d.length = L) : frD L (P ++ (fl t markB ++ (fl t (bitsOf (Scr d)) ++ R))) P.length t = d := by
  unfold frD
  have e1 : (fl t (bitsOf (Scr d))).length = 8 * L := by rw [fl_len, bitsOf_len, Scr_len, hl]
  have e2 : (fl t markB).length = 32 := by rw [fl_len, markB_len]
  rw [← List.drop_drop, List.drop_left, ← e2, List.drop_left, ← e1, List.take_left, flipB_fl, fl_fl, bytesOf_bits (Scr_b hd), Scr_Scr]
theorem flatLen {L : Nat} (D : List (List Nat)) (h : ∀ d ∈ D, d.length = L) : (D.flatMap frB).length = D.length * (32 + 8 * L) := by
  induction D with
  | nil => simp
  | cons d D ih => rw [List.flatMap_cons, List.length_append, frB_len, ih (fun x hx => h x (by simp [hx])), h d (by simp), List.length_cons, Nat.add_mul, Nat.one_mul]; omega
/-- one frame is read -/
theorem read_one {r : Rl} {t : Bool} (P R : List Nat) {d : List Nat} (hd : AllB d) (hl : d.length = r.L) (lo : Bool) :
    Steps r (P ++ (fl t markB ++ (fl t (bitsOf (Scr d)) ++ R))) ⟨P.length, t, 0, 24, lo⟩ [⟨P.length, t, 0, d⟩] ⟨P.length + (32 + 8 * r.L), t, 0, 29, lo⟩ := by
  have h := Steps.one (mstep_read (r := r) (B := P ++ (fl t markB ++ (fl t (bitsOf (Scr d)) ++ R))) (m := ⟨P.length, t, 0, 24, lo⟩) rfl (by
    simp only [List.length_append, fl_len, markB_len, bitsOf_len, Scr_len, hl]; omega))
  rw [frD_at t P R hd hl] at h
  rw [← Nat.add_assoc]
  exact h
/-- a mark that is expected is there -/
theorem exp_mark {r : Rl} {t : Bool} (P R : List Nat) (mi : Nat) (lo : Bool) : Steps r (P ++ (fl t markB ++ R)) ⟨P.length, t, mi, 29, lo⟩ [] ⟨P.length, t, 0, 24, lo⟩ := by
  have e : wrN (winN (P ++ (fl t markB ++ R)) P.length) t = 0 := by rw [winN_at _ _ _ (by rw [fl_len, markB_len]), mark_num]
  have h := Steps.one (mstep_exp (r := r) (B := P ++ (fl t markB ++ R)) (m := ⟨P.length, t, mi, 29, lo⟩) rfl (by simp only [List.length_append, fl_len, markB_len]; omega) (.inl (by rw [e]; omega)))
  have e2 : expM r (P ++ (fl t markB ++ R)) ⟨P.length, t, mi, 29, lo⟩ = ⟨P.length, t, 0, 24, lo⟩ := by
    unfold expM
    dsimp only
    rw [e, if_pos (by omega)]
  rwa [e2] at h
/-- some frames, a mark behind them -/
theorem pre_frames {r : Rl} {t : Bool} {lo : Bool} (R : List Nat) : ∀ (D : List (List Nat)) (P : List Nat), (∀ d ∈ D, AllB d ∧ d.length = r.L) →
    Steps r (P ++ (flat t D ++ (fl t markB ++ R))) ⟨P.length, t, 0, 24, lo⟩ (foL r.L t P.length D) ⟨P.length + D.length * (32 + 8 * r.L), t, 0, 24, lo⟩
  | [], P, _ => by simpa [flat, fl, foL] using Steps.nil _
  | d :: D, P, hD => by
    obtain ⟨h1, h2⟩ := hD d (by simp)
    have hlen : (fl t markB ++ fl t (bitsOf (Scr d))).length = 32 + 8 * r.L := by rw [List.length_append, fl_len, fl_len, markB_len, bitsOf_len, Scr_len, h2]
    have s1 := read_one (r := r) (t := t) P (flat t D ++ (fl t markB ++ R)) h1 h2 lo
    rw [flat_cons]
    simp only [List.append_assoc] at s1 ⊢
    have ih := pre_frames (t := t) (lo := lo) R D (P ++ (fl t markB ++ fl t (bitsOf (Scr d)))) (fun x hx => hD x (by simp [hx]))
    rw [List.length_append, hlen] at ih
    simp only [List.append_assoc] at ih
    have s2 : Steps r (P ++ (fl t markB ++ (fl t (bitsOf (Scr d)) ++ (flat t D ++ (fl t markB ++ R))))) ⟨P.length + (32 + 8 * r.L), t, 0, 29, lo⟩ [] ⟨P.length + (32 + 8 * r.L), t, 0, 24, lo⟩ := by
      have h3 : ∃ R', flat t D ++ (fl t markB ++ R) = fl t markB ++ R' := by
        cases D with
        | nil => exact ⟨R, by simp [flat, fl]⟩
        | cons d' D' => rw [flat_cons]; exact ⟨_, by rw [List.append_assoc]⟩
      obtain ⟨R', hR'⟩ := h3
      rw [hR']
      have := exp_mark (r := r) (t := t) (P ++ (fl t markB ++ fl t (bitsOf (Scr d)))) R' 0 lo
      rw [List.length_append, hlen] at this
      simpa only [List.append_assoc] using this
    have s3 := s1.trans (s2.trans ih)
    rw [List.nil_append] at s3
    have e : P.length + (32 + 8 * r.L) + D.length * (32 + 8 * r.L) = P.length + (d :: D).length * (32 + 8 * r.L) := by rw [List.length_cons, Nat.add_mul, Nat.one_mul]; omega
    rw [e] at s3
    exact s3
/-- frames to the end -/
theorem run_frames {r : Rl} {t : Bool} {lo : Bool} : ∀ (D : List (List Nat)) (P : List Nat), D ≠ [] → (∀ d ∈ D, AllB d ∧ d.length = r.L) →
    ∃ m', Run r (P ++ flat t D) ⟨P.length, t, 0, 24, lo⟩ (foL r.L t P.length D) m' ∧ m'.lo = lo := by
  intro D P hne hD
  obtain ⟨D', d, rfl⟩ : ∃ D' d, D = D' ++ [d] := ⟨D.dropLast, D.getLast hne, (List.dropLast_concat_getLast hne).symm⟩
  obtain ⟨h1, h2⟩ := hD d (by simp)
  have e1 : flat t (D' ++ [d]) = flat t D' ++ (fl t markB ++ (fl t (bitsOf (Scr d)) ++ [])) := by
    have := flat_cons t d []
    have e0 : flat t [] = [] := by unfold flat fl; split <;> rfl
    rw [e0] at this
    rw [← this]
    unfold flat
    rw [List.flatMap_append, fl_append]
  have s1 := pre_frames (r := r) (t := t) (lo := lo) (fl t (bitsOf (Scr d)) ++ []) D' P (fun x hx => hD x (by simp [hx]))
  have hl : (flat t D').length = D'.length * (32 + 8 * r.L) := by
    unfold flat
    rw [fl_len]
    exact flatLen D' (fun x hx => (hD x (by simp [hx])).2)
  have s2 := read_one (r := r) (t := t) (P ++ flat t D') [] h1 h2 lo
  rw [List.length_append, hl] at s2
  simp only [List.append_assoc] at s2
  have s3 := s1.trans s2
  have e2 : foL r.L t P.length D' ++ [⟨P.length + D'.length * (32 + 8 * r.L), t, 0, d⟩] = foL r.L t P.length (D' ++ [d]) := by
    generalize P.length = q
    clear s1 s2 s3 hl e1 hD hne
    induction D' generalizing q with
    | nil => simp [foL]
    | cons x D' ih =>
      simp only [foL, List.cons_append]
      rw [← ih (q + (32 + 8 * r.L)), show q + (32 + 8 * r.L) + D'.length * (32 + 8 * r.L) = q + (x :: D').length * (32 + 8 * r.L) by rw [List.length_cons, Nat.add_mul, Nat.one_mul]; omega]
  rw [e2] at s3
  rw [e1]
  refine ⟨_, ⟨s3, mstep_unexp rfl (.inl ?_)⟩, rfl⟩
  simp only [List.length_append, fl_len, markB_len, bitsOf_len, Scr_len, h2, hl, List.length_nil]
  omega
end Go.Proofs.Ytlbpmepifegeiaa
