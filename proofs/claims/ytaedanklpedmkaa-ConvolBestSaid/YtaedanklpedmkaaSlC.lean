/- soft[1:]; the trellis step by step, in plain numbers. -/
import Derived.Test.YtaedanklpedmkaaBackC
import Derived.Test.YtaedanklpedmkaaHamC
namespace Go.Proofs.Ytaedanklpedmkaa
set_option linter.unusedVariables false
open Go.RowKit

theorem run_sl1 (b off n c : Nat) (hn : 1 ≤ n) (hc : n ≤ c) (w : World) : (Instr.sliceAt 22 (.slice (some ⟨b, off, none⟩) n c) (some (.int .i64 1)) none none).run Try.prog w = .ok (.slice (some ⟨b, if c = 1 then off else off + 1, none⟩) (n - 1) (c - 1)) w := by
  have h1 : (1 : Int) ≤ n := by omega
  simp [go_sem, h1, Try.underlying22]
  split <;> rfl
/-- what came is in range -/
def Soft (zs : List Int) : Prop := ∀ i, -7 ≤ zs.getD i 0 ∧ zs.getD i 0 ≤ 7
theorem sy_le (x : Nat) (z : Int) (h0 : -7 ≤ z) (h1 : z ≤ 7) : sy x z ≤ 14 := by
  unfold sy
  split <;> omega
theorem payS_le (r : Nat) (zs : List Int) (hz : Soft zs) (i b s : Nat) : payS r (fun j => zs.getD j 0) i b s ≤ 28 := by
  have k1 : (if ka r i = true then sy (q1 (2 * s + b)) (zs.getD (cntTo r i) 0) else 0) ≤ 14 := by
    split
    · exact sy_le _ _ (hz _).1 (hz _).2
    · omega
  have k2 : (if kb r i = true then sy (q2 (2 * s + b)) (zs.getD (cntTo r i + (if ka r i = true then 1 else 0)) 0) else 0) ≤ 14 := by
    generalize cntTo r i + (if ka r i = true then 1 else 0) = j
    split
    · exact sy_le _ _ (hz _).1 (hz _).2
    · omega
  unfold payS
  dsimp only
  omega
/-- the trellis behind i bits: costs and ranks -/
def trl (r n : Nat) (zs : List Int) : Nat → List Nat × List Nat
  | 0 => (lst (fun s => if s = 0 then 0 else far), lst (fun s => s))
  | i + 1 => (lst (newC (payS r (fun j => zs.getD j 0) i) (decide (n ≤ i)) (trl r n zs i).1 (trl r n zs i).2), lst (rk (newO (payS r (fun j => zs.getD j 0) i) (trl r n zs i).1 (trl r n zs i).2)))
/-- the choices -/
def chs (r n : Nat) (zs : List Int) (i s : Nat) : Bool := hiK (payS r (fun j => zs.getD j 0) i) (trl r n zs i).1 (trl r n zs i).2 s
theorem trl_len (r n : Nat) (zs : List Int) : ∀ i, (trl r n zs i).1.length = 64 ∧ (trl r n zs i).2.length = 64
  | 0 => ⟨lst_len _, lst_len _⟩
  | i + 1 => ⟨lst_len _, lst_len _⟩
theorem lst_le (f : Nat → Nat) (m : Nat) (h : ∀ s, s < 64 → f s ≤ m) (s : Nat) : nth (lst f) s ≤ m := by
  rcases Nat.lt_or_ge s 64 with h1 | h1
  · rw [lst_nth _ _ h1]; exact h s h1
  · rw [nth_ge (by rw [lst_len]; exact h1)]; exact Nat.zero_le _
theorem trl_cost (r n : Nat) (zs : List Int) (hz : Soft zs) : ∀ i s, nth (trl r n zs i).1 s ≤ far + 28 * i
  | 0, s => lst_le (fun s => if s = 0 then 0 else far) _ (fun s _ => by split <;> omega) s
  | i + 1, s => lst_le (newC (payS r (fun j => zs.getD j 0) i) (decide (n ≤ i)) (trl r n zs i).1 (trl r n zs i).2) _ (fun s _ => by
    have h1 := trl_cost r n zs hz i (s / 2)
    have h2 := trl_cost r n zs hz i (s / 2 + 32)
    have p1 := payS_le r zs hz i (s % 2) (s / 2)
    have p2 := payS_le r zs hz i (s % 2) (s / 2 + 32)
    unfold newC
    split
    · omega
    · split <;> omega) s
theorem trl_ord (r n : Nat) (zs : List Int) : ∀ i, (∀ s, nth (trl r n zs i).2 s ≤ 63) ∧ ∀ a b, a < 64 → b < 64 → nth (trl r n zs i).2 a = nth (trl r n zs i).2 b → a = b
  | 0 => ⟨lst_le (fun s => s) _ (fun s h => by omega), fun a b ha hb h => by rwa [show (trl r n zs 0).2 = lst (fun s => s) from rfl, lst_nth _ _ ha, lst_nth _ _ hb] at h⟩
  | i + 1 => ⟨lst_le (rk (newO (payS r (fun j => zs.getD j 0) i) (trl r n zs i).1 (trl r n zs i).2)) _ (fun s h => by have := rk_lt (newO (payS r (fun j => zs.getD j 0) i) (trl r n zs i).1 (trl r n zs i).2) s h; omega), fun a b ha hb h => by
    rw [show (trl r n zs (i + 1)).2 = lst (rk (newO (payS r (fun j => zs.getD j 0) i) (trl r n zs i).1 (trl r n zs i).2)) from rfl, lst_nth _ _ ha, lst_nth _ _ hb] at h
    exact rk_inj _ (fun a b ha hb => newO_inj (trl_ord r n zs i).2 a b ha hb) a b ha hb h⟩
/-- the trellis is one as the plain law asks it -/
theorem trl_vit (r n : Nat) (zs : List Int) : Vit n (n + 6) (payS r fun j => zs.getD j 0) (fun i s => nth (trl r n zs i).1 s) (chs r n zs) where
  zero := fun s hs => lst_nth (fun s => if s = 0 then 0 else far) _ hs
  no := fun i s _ hs h1 h2 => by
    show nth (lst _) s = _
    rw [lst_nth _ _ hs]
    unfold newC
    rw [if_pos ⟨h1, by simpa using h2⟩]
  yes := fun i s _ hs h => by
    show nth (lst _) s = _
    rw [lst_nth _ _ hs]
    unfold newC
    rw [if_neg (by simpa using h)]
    rfl
  up := fun i s _ hs h => by
    unfold chs hiK at h
    rw [Bool.or_eq_true, Bool.and_eq_true, decide_eq_true_eq, decide_eq_true_eq] at h
    rcases h with h | h
    · exact Nat.le_of_lt h
    · exact Nat.le_of_eq h.1
  lo := fun i s _ hs h => by
    unfold chs hiK at h
    rw [Bool.or_eq_false_iff, decide_eq_false_iff_not] at h
    exact Nat.le_of_not_lt h.1
/-- the numbers of the choices -/
def frL (r n : Nat) (zs : List Int) (k : Nat) : List Nat := (List.range k).map fun i => frTo (chs r n zs i) 64
theorem frL_len (r n : Nat) (zs : List Int) (k : Nat) : (frL r n zs k).length = k := by simp [frL]
theorem frL_succ (r n : Nat) (zs : List Int) (k : Nat) : frL r n zs (k + 1) = frL r n zs k ++ [frTo (chs r n zs k) 64] := by simp [frL, List.range_succ]
theorem frL_nth (r n : Nat) (zs : List Int) (k i : Nat) (h : i < k) : nth (frL r n zs k) i = frTo (chs r n zs i) 64 := by simp [frL, nth, h]
/-- the rest of what came -/
theorem Rd.rest {w : World} {b off n c : Nat} {zs : List Int} (h : Rd w (some ⟨b, off, none⟩) n c (vz zs)) (hn : 1 ≤ n) : Rd w (some ⟨b, if c = 1 then off else off + 1, none⟩) (n - 1) (c - 1) (vz (zs.drop 1)) := by
  have hl := h.len
  rw [vz_len] at hl
  have hle := h.le
  have hmx := h.max
  refine ⟨by rw [vz_len, List.length_drop]; omega, by omega, by omega, (fun h => by cases h), fun hk => ?_⟩
  obtain ⟨b', o', ha, hlt, hc⟩ := h.mem (by omega)
  cases ha
  rw [if_neg (by omega)]
  refine ⟨b, off + 1, rfl, hlt, fun j hj => ?_⟩
  have h1 := hc (1 + j) (by omega)
  rw [← Nat.add_assoc] at h1
  rw [h1, vz, vz, List.map_drop, List.getElem?_drop]
end Go.Proofs.Ytaedanklpedmkaa
