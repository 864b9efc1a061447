/- bad, judge. -/
import Derived.Test.YtkgnelmnadnbhaaLookG
import Derived.Deep.CutBlock
namespace Go.Proofs.Ytkgnelmnadnbhaa
set_option linter.unusedVariables false
open Go.RowKit

/-- the first of the highest tier -/
def fb (ms : List Mon) : List Nat → Int
  | [] => -1
  | i :: l => if (mAt ms i).tier = 3 then (i : Int) else fb ms l
theorem fb_none (ms : List Mon) : ∀ l : List Nat, (∀ i, i < l.length → (mAt ms (nth l i)).tier ≠ 3) → fb ms l = -1
  | [], _ => rfl
  | a :: l, h => by
    have h0 : (mAt ms a).tier ≠ 3 := h 0 (by simp)
    unfold fb
    rw [if_neg h0]
    exact fb_none ms l fun i hi => h (i + 1) (by simp; omega)
theorem fb_first (ms : List Mon) : ∀ (l : List Nat) (k : Nat), k < l.length → (∀ i, i < k → (mAt ms (nth l i)).tier ≠ 3) → (mAt ms (nth l k)).tier = 3 → fb ms l = (nth l k : Nat)
  | a :: l, 0, _, _, h3 => by
    unfold fb
    rw [if_pos (show (mAt ms a).tier = 3 from h3)]
    rfl
  | a :: l, k + 1, hk, h, h3 => by
    have h0 : (mAt ms a).tier ≠ 3 := h 0 (by omega)
    unfold fb
    rw [if_neg h0]
    exact fb_first ms l k (by simp at hk; omega) (fun i hi => h (i + 1) (by omega)) h3
theorem fb_cases (ms : List Mon) (n : Nat) : ∀ l : List Nat, (∀ i, i < l.length → nth l i < n) → fb ms l = -1 ∨ (0 ≤ fb ms l ∧ fb ms l < n)
  | [], _ => .inl rfl
  | a :: l, h => by
    unfold fb
    split
    · have := h 0 (by simp)
      refine .inr ⟨by omega, ?_⟩
      have h2 : nth (a :: l) 0 = a := rfl
      omega
    · exact fb_cases ms n l fun i hi => h (i + 1) (by simp; omega)

set_option maxRecDepth 100000 in
set_option maxHeartbeats 4000000 in
theorem bad_ok (X B : Nat) (p : GP) (s : St) (bv tv pv nv : Value) (ms : List Mon) (w : World) (h : VS w X B p s bv tv pv nv) (hr : RdM w p.g p.n p.cap ms)
    (hnow : ∀ i, i < s.now.length → nth s.now i < p.n) (hn9 : p.n ≤ 9) (hnl : s.now.length ≤ 1000) :
    Calls Try.prog 25 #[.pointer (some ⟨X, 0, none⟩)] w fun e w' => e = .returned (.int .i64 (fb ms s.now)) ∧ w' = w := by
  obtain ⟨g, n, cap, sil, most, win, nam⟩ := p
  dsimp only at *
  obtain ⟨na, nc, hnv, hnle, hnmx⟩ := h.n.form
  have c0 : w.cell? ⟨X, 6, none⟩ = some (.slice (some ⟨g, 0, none⟩) n cap) := by rw [cell_of_row _ _ _ _ _ _ h.row]; rfl
  have c1 : w.cell? ⟨X, 11, none⟩ = some (.slice na s.now.length nc) := by rw [cell_of_row _ _ _ _ _ _ h.row, ← hnv]; rfl
  have hnrd := h.n
  rw [hnv] at hnrd
  have hnrd := hid hnrd.rd
  clear h hnv hnle
  generalize s.now = l at *
  obtain ⟨L, hL⟩ : ∃ L, L = l.length := ⟨_, rfl⟩
  rw [← hL] at c1 hnrd hnow hnl
  have HL := hid hL
  have Hnow := hid hnow
  clear hL hnow
  go_enter Try.func25, Try.ntmps25
  go_wp2_with fail
  go_loopw [10] (fun i wr => ∃ j : Nat, j ≤ L ∧ i = .int .i64 j ∧ wr = w ∧ Hid (∀ i, i < j → (mAt ms (nth l i)).tier ≠ 3)) (fun i _ => L - (intOf i).toNat)
  case atStart => exact ⟨0, by omega, rfl, rfl, fun i hi => by omega⟩
  case round =>
    obtain ⟨j, hj, rfl, rfl, hno⟩ := hrel
    by_cases hlt : j < L
    · obtain ⟨nb, no, rfl, hbl, hbc⟩ := hnrd.out.ati j hlt
      have hin := Hnow.out j hlt
      obtain ⟨k0, k1, k2, k3, k4, k5⟩ := hr.at_ (nth l j) hin
      have Hf := hid (fb_first ms l j (by have := HL.out; omega))
      have hno2 : Hid ((mAt ms (nth l j)).tier ≠ 3 → ∀ i, i < j + 1 → (mAt ms (nth l i)).tier ≠ 3) := fun h3 i hi => by
        rcases Nat.lt_or_ge i j with h | h
        · exact hno.out i h
        · obtain rfl : i = j := by omega
          exact h3
      have hno3 := hid (Hf.out hno.out)
      clear Hf k0 k1 k2 k3 k5
      generalize mAt ms (nth l j) = m at *
      generalize nth l j = x at *
      obtain ⟨mo, mf, mt, mn⟩ := m
      dsimp only at *
      by_cases h3 : mt = 3
      · subst h3
        clear hno2 hno
        go_wp2_with fail
        go_ret
        exact ⟨by rw [hno3.out trivial]; rfl, rfl⟩
      · have hno4 := hid (hno2.out h3)
        have h3i : ((mt : Int) == 3) = false := by
          rw [beq_eq_false_iff_ne]; omega
        have h3j : ¬ ((mt : Int) = 3) := by omega
        clear hno2 hno3 hno
        go_wp2_with fail
        go_roundw
        case rel => exact ⟨j + 1, by omega, by go_num, trivial, hno4⟩
        case measure => simp [intOf]; omega
    · obtain rfl : L = j := by omega
      have hf := hid (fb_none ms l (by have := HL.out; rw [← this]; exact hno.out))
      clear hno
      go_wp2_with fail
      go_ret
      exact ⟨by rw [hf.out]; rfl, rfl⟩

/-- why it is safe, or not -/
def jw (sil most : Nat) (ms : List Mon) (s : St) : Int :=
  if fb ms s.now ≠ -1 then fb ms s.now else if most ≤ s.trips.length then -3 else if 0 < sil ∧ s.quiet = sil then -2 else -1
def judged (sil most : Nat) (ms : List Mon) (s : St) : St := { s with why := jw sil most ms s, safe := decide (jw sil most ms s ≠ -1) }
set_option maxRecDepth 100000 in
set_option maxHeartbeats 800000 in
theorem judge_ok (X B : Nat) (p : GP) (s : St) (bv tv pv nv : Value) (ms : List Mon) (w : World) (h : VS w X B p s bv tv pv nv) (hB : B ≤ w.heap.size) (hr : RdM w p.g p.n p.cap ms)
    (hnow : ∀ i, i < s.now.length → nth s.now i < p.n) (hn9 : p.n ≤ 9) (hnl : s.now.length ≤ 1000) (hpl : s.trips.length ≤ 100) (hm : p.most ≤ 100) (hsl : p.sil ≤ 100) (hq : s.quiet ≤ 100) :
    Calls Try.prog 17 #[.pointer (some ⟨X, 0, none⟩)] w fun e w' => e = .returned (.tuple #[]) ∧ VS w' X B p (judged p.sil p.most ms s) bv tv pv nv ∧ Below B w w' ∧ Kx X w w' := by
  have hbad := bad_ok X B p s bv tv pv nv ms w h hr hnow hn9 hnl
  have H0 := hid h
  obtain ⟨g, n, cap, sil, most, win, nam⟩ := p
  have Hj : Hid (judged sil most ms s = { s with why := jw sil most ms s, safe := decide (jw sil most ms s ≠ -1) }) := rfl
  generalize judged sil most ms s = sj at *
  have Hw : Hid (jw sil most ms s = if fb ms s.now ≠ -1 then fb ms s.now else if most ≤ s.trips.length then -3 else if 0 < sil ∧ s.quiet = sil then -2 else -1) := rfl
  generalize jw sil most ms s = jv at *
  generalize fb ms s.now = b at *
  dsimp only at *
  obtain ⟨s1, g1⟩ := h.setWhy b
  have S1 := hid s1
  have hBx := hid ((Below.refl B w).grown g1 hB (fun k e => by cases e; exact h.hX))
  have hKx := hid ((Kx.refl X w).grown g1)
  have f1 : w.cell? ⟨X, 1, none⟩ = some (.int .i64 s.why) := by rw [cell_of_row _ _ _ _ _ _ h.row]; rfl
  have f2 : w.frozen? ⟨X, 1, none⟩ = false := frozen_row h.row 1
  clear s1 g1 h hr hnow
  go_enter Try.func17, Try.ntmps17
  go_upto_block 0 with (first | (go_at_call 25; refine hbad.mono ?_; rintro e w' ⟨rfl, rfl⟩))
  clear hbad
  have h1 : Hid (VS (w'.setCell ⟨X, 1, none⟩ (.int .i64 b)) X B ⟨g, n, cap, sil, most, win, nam⟩ { s with why := b } bv tv pv nv) := S1
  generalize w'.setCell ⟨X, 1, none⟩ (.int .i64 b) = W1 at *
  clear f1 f2 S1
  go_cut [] (fun wx => Hid (VS wx X B ⟨g, n, cap, sil, most, win, nam⟩ { s with why := jv } bv tv pv nv) ∧ Below B W1 wx ∧ Kx X W1 wx)
  case first =>
    by_cases hb : b = -1
    · subst hb
      have c1 : W1.cell? ⟨X, 1, none⟩ = some (.int .i64 (-1)) := by rw [cell_of_row _ _ _ _ _ _ h1.out.row]; rfl
      have Hw : Hid (jv = if most ≤ s.trips.length then -3 else if 0 < sil ∧ s.quiet = sil then -2 else -1) := by
        unfold Hid; rw [Hw.out, if_neg (fun h => h rfl)]
      go_upto_region 2 with (fail)
      obtain ⟨pa, pc, hpv, _, _⟩ := h1.out.p_.form
      have q1 := h1.out.row
      rw [hpv] at q1
      have e1 : ∀ w', Below W1.heap.size W1.drew w' → w'.cell? ⟨X, 5, none⟩ = some (.slice pa s.trips.length pc) := fun w' hs => by
        rw [cell_of_row _ _ _ _ _ _ (row_below q1 (((Below.refl _ W1).drew).trans hs))]; rfl
      have e2 : ∀ w', Below W1.heap.size W1.drew w' → w'.cell? ⟨X, 8, none⟩ = some (.int .i64 (most : Int)) := fun w' hs => by
        rw [cell_of_row _ _ _ _ _ _ (row_below q1 (((Below.refl _ W1).drew).trans hs))]; rfl
      clear q1 hpv
      refine wp_region_can_all [] [0, 1, 2, 3, 4, 5, 6, 7, 8, 9, 10, 11, 12] (Below W1.heap.size) (fun _ => Below.refl _ _) (fun _ _ _ h k => h.trans k) (by kernel_rfl) (by kernel_rfl) ?_
      simp only [List.map_cons, List.map_nil, List.contains_nil, List.getD_cons_zero, List.getD_cons_succ]
      have h2 := hid h1.out.drew
      have hB2 := hid ((Below.refl B W1).drew)
      have hK2 := hid ((Kx.refl X W1).drew)
      generalize W1.drew = W2 at *
      repeat (refine wpL_do rfl (fun w' hw' => (by go_simp; rfl)) ?_; simp only [Act.put, List.setIfInBounds_toArray, List.set_cons_succ, List.set_cons_zero])
      refine wpL_nil ?_
      clear e1 e2
      by_cases hm2 : most ≤ s.trips.length
      · rw [if_pos hm2] at Hw
        obtain ⟨s3, g3⟩ := h2.out.setWhy (-3)
        have f1 : W2.cell? ⟨X, 1, none⟩ = some (.int .i64 (-1)) := by rw [cell_of_row _ _ _ _ _ _ h2.out.row]; rfl
        have f2 : W2.frozen? ⟨X, 1, none⟩ = false := frozen_row h2.out.row 1
        have S3 := hid s3
        have HK3 := hid (hK2.out.grown g3)
        have HB3 := hid (hB2.out.grown g3 (by have := hBx.out.size; have := hB2.out.size; omega) (fun k e => by cases e; exact h2.out.hX))
        clear s3 g3
        go_wp2_with fail
        go_meet
        exact ⟨by unfold Hid; rw [Hw.out]; exact S3.out, HB3.out, HK3.out⟩
      · rw [if_neg hm2] at Hw
        go_upto_region 4 with (fail)
        have q2 := h2.out.row
        have e1 : ∀ w', Below W2.heap.size W2.drew w' → w'.cell? ⟨X, 7, none⟩ = some (.int .i64 (sil : Int)) := fun w' hs => by
          rw [cell_of_row _ _ _ _ _ _ (row_below q2 (((Below.refl _ W2).drew).trans hs))]; rfl
        have e2 : ∀ w', Below W2.heap.size W2.drew w' → w'.cell? ⟨X, 4, none⟩ = some (.int .i64 (s.quiet : Int)) := fun w' hs => by
          rw [cell_of_row _ _ _ _ _ _ (row_below q2 (((Below.refl _ W2).drew).trans hs))]; rfl
        clear q2
        refine wp_region_can_all [] [0, 1, 2, 3, 4, 5, 6, 7, 8, 9, 10, 11, 12, 13, 14, 15, 16, 17, 18, 19] (Below W2.heap.size) (fun _ => Below.refl _ _) (fun _ _ _ h k => h.trans k) (by kernel_rfl) (by kernel_rfl) ?_
        simp only [List.map_cons, List.map_nil, List.contains_nil, List.getD_cons_zero, List.getD_cons_succ]
        have h4 := hid h2.out.drew
        have hB4 := hid (hB2.out.trans (Below.refl B W2).drew)
        have hK4 := hid (hK2.out.drew)
        generalize W2.drew = W3 at *
        clear h2 hB2
        generalize s.quiet = q at *
        by_cases hs0 : 0 < sil
        · have d1 : decide ((0 : Int) < (sil : Int)) = true := decide_eq_true (by omega)
          repeat (refine wpL_do rfl (fun w' hw' => (by go_simp; rfl)) ?_; simp only [Act.put, List.setIfInBounds_toArray, List.set_cons_succ, List.set_cons_zero])
          refine wpL_nil ?_
          clear e1 e2
          by_cases hqs : q = sil
          · have d2 : ((q : Int) == (sil : Int)) = true := by rw [beq_iff_eq]; omega
            have Hw : Hid (jv = -2) := by unfold Hid; rw [Hw.out, if_pos ⟨hs0, hqs⟩]
            obtain ⟨s3, g3⟩ := h4.out.setWhy (-2)
            have f1 : W3.cell? ⟨X, 1, none⟩ = some (.int .i64 (-1)) := by rw [cell_of_row _ _ _ _ _ _ h4.out.row]; rfl
            have f2 : W3.frozen? ⟨X, 1, none⟩ = false := frozen_row h4.out.row 1
            have S3 := hid s3
            have HK3 := hid (hK4.out.grown g3)
            have HB3 := hid (hB4.out.grown g3 (by have := hBx.out.size; have := hB4.out.size; omega) (fun k e => by cases e; exact h4.out.hX))
            clear s3 g3 hqs
            go_wp2_with fail
            go_meet
            exact ⟨by unfold Hid; rw [Hw.out]; exact S3.out, HB3.out, HK3.out⟩
          · have d2 : ((q : Int) == (sil : Int)) = false := by rw [beq_eq_false_iff_ne]; omega
            have Hw : Hid (jv = -1) := by unfold Hid; rw [Hw.out, if_neg (fun h => hqs h.2)]
            clear hqs
            go_wp2_with fail
            go_meet
            exact ⟨by unfold Hid; rw [Hw.out]; exact h4.out, hB4.out, hK4.out⟩
        · have d1 : decide (0 < sil) = false := decide_eq_false hs0
          have Hw : Hid (jv = -1) := by unfold Hid; rw [Hw.out, if_neg (fun h => hs0 h.1)]
          iterate 7 (refine wpL_do rfl (fun w' hw' => (by go_simp; rfl)) ?_; simp only [Act.put, List.setIfInBounds_toArray, List.set_cons_succ, List.set_cons_zero])
          iterate 11 ((with_reducible refine wpL_pass ?_ ?_); (· rfl); simp only [Act.put, List.setIfInBounds_toArray, List.set_cons_succ, List.set_cons_zero])
          iterate 2 (refine wpL_do rfl (fun w' hw' => (by go_simp; rfl)) ?_; simp only [Act.put, List.setIfInBounds_toArray, List.set_cons_succ, List.set_cons_zero])
          refine wpL_nil ?_
          clear e1 e2
          go_wp2_with fail
          go_meet
          exact ⟨by unfold Hid; rw [Hw.out]; exact h4.out, hB4.out, hK4.out⟩
    · have c1 : W1.cell? ⟨X, 1, none⟩ = some (.int .i64 b) := by rw [cell_of_row _ _ _ _ _ _ h1.out.row]; rfl
      have h3 : (b != -1) = true := by simpa using hb
      have Hw : Hid (jv = b) := by unfold Hid; rw [Hw.out, if_pos hb]
      go_wp2_with fail
      go_meet
      exact ⟨by unfold Hid; rw [Hw.out]; exact h1.out, Below.refl _ _, Kx.refl _ _⟩
  case rest =>
    obtain ⟨h5, hB5, hK5⟩ := hcut
    have HB5 := hid (hBx.out.trans hB5)
    have HK5 := hid (hKx.out.trans hK5)
    obtain ⟨s6, g6⟩ := h5.out.setSafe (decide (jv ≠ -1))
    have S6 := hid s6
    have HK6 := hid (HK5.out.grown g6)
    have HB6 := hid (HB5.out.grown g6 (by have := HB5.out.size; omega) (fun k e => by cases e; exact h5.out.hX))
    have c1 : wc.cell? ⟨X, 1, none⟩ = some (.int .i64 jv) := by rw [cell_of_row _ _ _ _ _ _ h5.out.row]; rfl
    have f1 : wc.cell? ⟨X, 0, none⟩ = some (.bool s.safe) := by rw [cell_of_row _ _ _ _ _ _ h5.out.row]; rfl
    have f2 : wc.frozen? ⟨X, 0, none⟩ = false := frozen_row h5.out.row 0
    have hne : (jv != -1) = decide (jv ≠ -1) := by
      by_cases e : jv = -1
      · subst e; rfl
      · simp [e]
    have Hne := hid hne
    clear s6 g6 h5 hB5 hK5 hne h1
    go_wp2_with fail
    go_end0
    exact ⟨rfl, by rw [Hj.out, Hne.out]; exact S6.out, by rw [Hne.out]; exact HB6.out, by rw [Hne.out]; exact HK6.out⟩
end Go.Proofs.Ytkgnelmnadnbhaa
