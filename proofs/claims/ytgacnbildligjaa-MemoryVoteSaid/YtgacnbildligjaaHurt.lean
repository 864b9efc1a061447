/- MemoryVote: what is kept of the copies, and the majority, in plain words; what the law's walk asks of memory. -/
import Derived.Test.YtgacnbildligjaaVote
import Derived.Test.YtgacnbildligjaaPick
namespace Go.Proofs.Ytgacnbildligjaa
set_option linter.unusedVariables false
open Go.RowKit

theorem Try.info22 : (Try.prog.info? 22).map (fun i => (i.zero, i.size, i.bytes)) = some (some (.slice none 0 0), 1, 24) := by kernel_rfl

/-- turns that came in: at and by, two cells each -/
structure RdTurn (w : World) (ao : Option Addr) (n cap : Nat) (ts : Nat → Int × Int) : Prop where
  le : n ≤ cap
  max : cap ≤ maxLen
  mem : 0 < n → ∃ b off, ao = some ⟨b, off, none⟩ ∧ b < w.heap.size ∧ ∀ j, j < n → w.cell? ⟨b, off + j * 2, none⟩ = some (.int .i64 (ts j).1) ∧ w.cell? ⟨b, off + j * 2 + 1, none⟩ = some (.int .i64 (ts j).2)
  wf : ∀ j, j < n → -9223372036854775808 ≤ (ts j).1 ∧ (ts j).1 ≤ 9223372036854775807 ∧ -9223372036854775808 ≤ (ts j).2 ∧ (ts j).2 ≤ 9223372036854775807

theorem RdTurn.below {w w' : World} {ao : Option Addr} {n cap : Nat} {ts : Nat → Int × Int} (h : RdTurn w ao n cap ts) (hb : Below w.heap.size w w') : RdTurn w' ao n cap ts :=
  ⟨h.le, h.max, fun hn => by
    obtain ⟨b, off, ha, hlt, hc⟩ := h.mem hn
    exact ⟨b, off, ha, Nat.lt_of_lt_of_le hlt hb.size, fun j hj => ⟨(hb.cell (p := ⟨b, off + j * 2, none⟩) hlt).trans (hc j hj).1, (hb.cell (p := ⟨b, off + j * 2 + 1, none⟩) hlt).trans (hc j hj).2⟩⟩, h.wf⟩

theorem rd_cells {w : World} {b off n cap : Nat} {bs : List Nat} (h : Rd w (some ⟨b, off, none⟩) n cap (vb bs)) : ∀ j u, (vb bs)[j]? = some u → w.cell? ((⟨b, off, none⟩ : Addr).add j) = some u := by
  intro j u hj
  have hjn : j < n := by have h1 := (List.getElem?_eq_some_iff.1 hj).1; have h2 := h.len; omega
  obtain ⟨b', off', ha, _, hc⟩ := h.mem (by omega)
  cases ha
  rw [Addr.add_lit, hc j hjn]
  exact hj

theorem own_some {w : World} {base e size : Nat} {v : Value} {n : Nat} {xs : List Value} (h : w.ownsRow base e size v n xs) (hn : 0 < n) :
    ∃ g cap, v = .slice (some ⟨g, 0, none⟩) n cap ∧ base ≤ g ∧ g < w.heap.size := by
  obtain ⟨ao, cap, hv, _, _, hh⟩ := own_form h
  rcases hh with ⟨_, h0, _⟩ | ⟨g, rfl, h1, h2⟩
  · omega
  · exact ⟨g, cap, hv, h1, h2⟩

/-- what is kept of the three copies: at a place that was hit just one of them is wrong, elsewhere none -/
structure Hurt (bs : List Nat) (n : Nat) (C : Nat → List Nat) (H : List Bool) (k : Nat) : Prop where
  len : ∀ j, j < 3 → (C j).length = n
  all : ∀ j, j < 3 → AllB (C j)
  hlen : H.length = n
  count : (H.filter id).length ≤ k
  well : ∀ p, p < n → H.getD p false = false → ∀ j, j < 3 → nth (C j) p = nth bs p
  ill : ∀ p, p < n → H.getD p false = true → ∃ i, i < 3 ∧ nth (C i) p ≠ nth bs p ∧ ∀ j, j < 3 → j ≠ i → nth (C j) p = nth bs p

theorem hurt_start {bs : List Nat} {n : Nat} (hn : bs.length = n) (hb : AllB bs) : Hurt bs n (fun _ => bs) (List.replicate n false) 0 := by
  refine ⟨fun _ _ => hn, fun _ _ => hb, by simp, ?_, fun _ _ _ _ _ => rfl, fun p _ h => ?_⟩
  · have : (List.replicate n false).filter id = [] := by
      rw [List.filter_eq_nil_iff]
      intro a ha
      rw [List.eq_of_mem_replicate ha]
      simp
    rw [this]; simp
  · rw [List.getD_eq_getElem?_getD, List.getElem?_replicate] at h
    split at h <;> simp at h

theorem getD_set (H : List Bool) (p q : Nat) (b : Bool) (hp : p < H.length) : (H.set p b).getD q false = if q = p then b else H.getD q false := by
  simp only [List.getD_eq_getElem?_getD, List.getElem?_set]
  by_cases h : p = q
  · subst h; simp [hp]
  · have h' : ¬ q = p := fun e => h e.symm
    simp [h, h']

theorem count_set (H : List Bool) (p : Nat) : ((H.set p true).filter id).length ≤ (H.filter id).length + 1 := by
  induction H generalizing p with
  | nil => simp
  | cons b H ih =>
    cases p with
    | zero => cases b <;> simp
    | succ p =>
      have := ih p
      cases b <;> simp at this ⊢ <;> omega

theorem xor_ne {x d : Nat} (hd : d ≠ 0) : x ^^^ d ≠ x := by
  intro h
  have : x ^^^ (x ^^^ d) = 0 := by rw [h]; exact Nat.xor_self x
  rw [← Nat.xor_assoc, Nat.xor_self, Nat.zero_xor] at this
  exact hd this

theorem hurt_hit {bs : List Nat} {n : Nat} {C : Nat → List Nat} {H : List Bool} {k : Nat} (h : Hurt bs n C H k) (p i d : Nat) (hp : p < n) (hi : i < 3) (hd : d ≠ 0) (hd2 : d < 256) (hf : H.getD p false = false) :
    Hurt bs n (fun j => if j = i then (C i).set p (nth (C i) p ^^^ d) else C j) (H.set p true) (k + 1) := by
  have hpl : ∀ j, j < 3 → p < (C j).length := fun j hj => by rw [h.len j hj]; exact hp
  have hph : p < H.length := by rw [h.hlen]; exact hp
  refine ⟨fun j hj => ?_, fun j hj => ?_, by rw [List.length_set]; exact h.hlen, ?_, fun q hq hqf j hj => ?_, fun q hq hqf => ?_⟩
  · split
    · rw [List.length_set]; exact h.len i hi
    · exact h.len j hj
  · split
    · exact (h.all i hi).set _ _ (Nat.xor_lt_two_pow (n := 8) (nth_lt (h.all i hi) p) hd2)
    · exact h.all j hj
  · have := count_set H p
    have := h.count
    omega
  · rw [getD_set _ _ _ _ hph] at hqf
    by_cases hqp : q = p
    · rw [if_pos hqp] at hqf; cases hqf
    · rw [if_neg hqp] at hqf
      split
      · rw [nth_set _ _ _ _ (hpl i hi), if_neg hqp]
        exact h.well q hq hqf i hi
      · exact h.well q hq hqf j hj
  · rw [getD_set _ _ _ _ hph] at hqf
    by_cases hqp : q = p
    · subst hqp
      refine ⟨i, hi, ?_, fun j hj hne => ?_⟩
      · simp only [if_pos]
        rw [nth_set _ _ _ _ (hpl i hi), if_pos rfl, h.well q hp hf i hi]
        exact xor_ne hd
      · simp only [if_neg hne]
        exact h.well q hp hf j hj
    · rw [if_neg hqp] at hqf
      obtain ⟨i0, h1, h2, h3⟩ := h.ill q hq hqf
      have e : ∀ j, nth (if j = i then (C i).set p (nth (C i) p ^^^ d) else C j) q = nth (C j) q := by
        intro j
        split
        · rename_i hj; subst hj; rw [nth_set _ _ _ _ (hpl j hi), if_neg hqp]
        · rfl
      refine ⟨i0, h1, ?_, fun j hj hne => ?_⟩
      · simp only [e]; exact h2
      · simp only [e]; exact h3 j hj hne

theorem maj_two (x y z b : Nat) (i : Nat) (hi : i < 3) (h : ∀ j, j < 3 → j ≠ i → (if j = 0 then x else if j = 1 then y else z) = b) : maj x y z = b := by
  have h0 := h 0
  have h1 := h 1
  have h2 := h 2
  simp at h0 h1 h2
  unfold maj
  rcases (by omega : i = 0 ∨ i = 1 ∨ i = 2) with rfl | rfl | rfl
  · have e1 := h1 (by omega)
    have e2 := h2 (by omega)
    rw [e1, e2]
    apply Nat.eq_of_testBit_eq; intro t
    simp only [Nat.testBit_or, Nat.testBit_and]
    cases x.testBit t <;> cases b.testBit t <;> rfl
  · have e1 := h0 (by omega)
    have e2 := h2 (by omega)
    rw [e1, e2]
    apply Nat.eq_of_testBit_eq; intro t
    simp only [Nat.testBit_or, Nat.testBit_and]
    cases y.testBit t <;> cases b.testBit t <;> rfl
  · have e1 := h0 (by omega)
    have e2 := h1 (by omega)
    rw [e1, e2]
    apply Nat.eq_of_testBit_eq; intro t
    simp only [Nat.testBit_or, Nat.testBit_and]
    cases z.testBit t <;> cases b.testBit t <;> rfl

theorem maj_same (b : Nat) : maj b b b = b := maj_two b b b b 0 (by omega) (fun j _ _ => by split <;> (try split) <;> rfl)

/-- the places that were hit, up to k -/
def hitsTo (H : List Bool) : Nat → List Nat
  | 0 => []
  | k + 1 => if H.getD k false then hitsTo H k ++ [k] else hitsTo H k

theorem voteTo_nth (a b c : List Nat) (k p : Nat) (hk : k ≤ a.length) (hp : p < k) : nth (voteTo a b c k) p = maj (nth a p) (nth b p) (nth c p) := by
  induction k with
  | zero => omega
  | succ k ih =>
    unfold voteTo
    rw [nth_set _ _ _ _ (by rw [voteTo_len]; omega)]
    by_cases h : p = k
    · rw [if_pos h, h]
    · rw [if_neg h]; exact ih (by omega) (by omega)

theorem hurt_vote {bs : List Nat} {n : Nat} {C : Nat → List Nat} {H : List Bool} {k : Nat} (h : Hurt bs n C H k) (hn : bs.length = n) : voteTo (C 0) (C 1) (C 2) n = bs := by
  have h0 := h.len 0 (by omega)
  refine ext_nth (by rw [voteTo_len, h0, hn]) fun p hp => ?_
  rw [voteTo_len, h0] at hp
  rw [voteTo_nth _ _ _ _ _ (by omega) hp]
  cases hh : H.getD p false with
  | false =>
    rw [h.well p hp hh 0 (by omega), h.well p hp hh 1 (by omega), h.well p hp hh 2 (by omega)]
    exact maj_same _
  | true =>
    obtain ⟨i, hi, _, ho⟩ := h.ill p hp hh
    refine maj_two _ _ _ _ i hi fun j hj hne => ?_
    have := ho j hj hne
    rcases (by omega : j = 0 ∨ j = 1 ∨ j = 2) with rfl | rfl | rfl <;> simpa using this

theorem hurt_at {bs : List Nat} {n : Nat} {C : Nat → List Nat} {H : List Bool} {k : Nat} (h : Hurt bs n C H k) : ∀ m, m ≤ n → voteAt (C 0) (C 1) (C 2) m = hitsTo H m := by
  intro m
  induction m with
  | zero => intro _; rfl
  | succ m ih =>
    intro hm
    have hmn : m < n := by omega
    unfold voteAt hitsTo
    rw [ih (by omega)]
    cases hh : H.getD m false with
    | false =>
      have : unlike (nth (C 0) m) (nth (C 1) m) (nth (C 2) m) = false := by
        rw [h.well m hmn hh 0 (by omega), h.well m hmn hh 1 (by omega), h.well m hmn hh 2 (by omega)]
        simp [unlike]
      rw [this]
    | true =>
      obtain ⟨i, hi, hne, ho⟩ := h.ill m hmn hh
      have : unlike (nth (C 0) m) (nth (C 1) m) (nth (C 2) m) = true := by
        have h0 := ho 0 (by omega)
        have h1 := ho 1 (by omega)
        have h2 := ho 2 (by omega)
        unfold unlike
        rcases (by omega : i = 0 ∨ i = 1 ∨ i = 2) with rfl | rfl | rfl
        · have := h1 (by omega)
          simp; left; omega
        · have := h0 (by omega)
          simp; left; omega
        · have := h1 (by omega)
          simp; right; omega
      rw [this]

theorem hitsTo_le (H : List Bool) (m : Nat) : (hitsTo H m).length ≤ ((H.take m).filter id).length := by
  induction m with
  | zero => simp [hitsTo]
  | succ m ih =>
    unfold hitsTo
    rw [List.take_add_one, List.filter_append, List.length_append]
    cases hh : H.getD m false with
    | false => simp; omega
    | true =>
      have : H[m]? = some true := by
        rw [List.getD_eq_getElem?_getD] at hh
        cases hx : H[m]? with
        | none => rw [hx] at hh; simp at hh
        | some b => rw [hx] at hh; simp at hh; rw [hh]
      rw [this]; simp; omega
theorem hitsTo_count {H : List Bool} {n : Nat} (h : H.length = n) : (hitsTo H n).length ≤ (H.filter id).length := by
  have := hitsTo_le H n
  rwa [List.take_of_length_le (by omega)] at this

theorem hitsTo_prefix (H : List Bool) {i n : Nat} (h : i ≤ n) : ∃ t, hitsTo H n = hitsTo H i ++ t := by
  induction n with
  | zero => have : i = 0 := by omega
            subst this; exact ⟨[], by simp⟩
  | succ n ih =>
    by_cases hi : i = n + 1
    · subst hi; exact ⟨[], by simp⟩
    · obtain ⟨t, ht⟩ := ih (by omega)
      show ∃ t, (if H.getD n false then hitsTo H n ++ [n] else hitsTo H n) = hitsTo H i ++ t
      split
      · exact ⟨t ++ [n], by rw [ht, List.append_assoc]⟩
      · exact ⟨t, ht⟩
theorem hitsTo_at {H : List Bool} {i n : Nat} (h : i < n) (hh : H.getD i false = true) : (hitsTo H i).length < (hitsTo H n).length ∧ nth (hitsTo H n) (hitsTo H i).length = i ∧ (hitsTo H (i + 1)).length = (hitsTo H i).length + 1 := by
  have e : hitsTo H (i + 1) = hitsTo H i ++ [i] := by
    show (if H.getD i false then hitsTo H i ++ [i] else hitsTo H i) = _
    rw [if_pos hh]
  obtain ⟨t, ht⟩ := hitsTo_prefix H (show i + 1 ≤ n from h)
  rw [ht, e]
  refine ⟨by simp, ?_, by simp⟩
  unfold nth
  simp
theorem hitsTo_skip {H : List Bool} {i : Nat} (hh : H.getD i false = false) : hitsTo H (i + 1) = hitsTo H i := by
  show (if H.getD i false then hitsTo H i ++ [i] else hitsTo H i) = _
  rw [hh]; rfl

/-- the bools' cells -/
def vbo (l : List Bool) : List Value := l.map Value.bool
theorem vbo_len (l : List Bool) : (vbo l).length = l.length := by simp [vbo]
theorem vbo_get (l : List Bool) (k : Nat) (h : k < l.length) : (vbo l)[k]? = some (.bool (l.getD k false)) := by
  simp [vbo, h]
theorem vbo_set (l : List Bool) (k : Nat) (x : Bool) : (vbo l).set k (.bool x) = vbo (l.set k x) := by simp [vbo]
theorem Try.info4 : (Try.prog.info? 4).map (fun i => (i.zero, i.size, i.bytes)) = some (some (.bool false), 1, 1) := by kernel_rfl
theorem run_mkb (m : Nat) (hm : m ≤ 140737488355328) (u : World) : (Instr.makeSlice 25 (.int .i64 (m : Int)) (.int .i64 (m : Int))).run Try.prog u =
    .ok (.slice (some ⟨u.heap.size, 0, none⟩) m m) (u.alloc (.cells (madeCells #[.bool false] m) 4)) := by
  obtain ⟨i0, hi, hz0, hz1, hz2⟩ := info_parts Try.info4
  have h := run_make (P := Try.prog) u 25 4 i0 (.bool false) Try.underlying25 hi hz0 .i64 .i64 (m : Int) (m : Int) (by omega) (Int.le_refl _) (by rw [hz2]; omega) (by omega)
  simpa [hz1, Value.cells] using h
theorem madeb_own (m : Nat) (hm : m ≤ 140737488355328) (u : World) : (u.alloc (.cells (madeCells #[.bool false] m) 4)).ownsRow u.heap.size 4 1 (.slice (some ⟨u.heap.size, 0, none⟩) m m) m (vbo (List.replicate m false)) := by
  have h := World.ownsRow_lit (base := u.heap.size) (e := 4) (size := 1) u (madeCells #[.bool false] m) m (Nat.le_refl _) (by unfold maxLen; omega) (by rw [size_madeCells, Nat.mul_one])
  rw [toList_madeCells_one] at h
  simpa [vbo] using h
end Go.Proofs.Ytgacnbildligjaa
