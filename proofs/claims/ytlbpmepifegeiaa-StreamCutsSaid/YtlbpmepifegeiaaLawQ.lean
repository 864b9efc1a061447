/- Stream: the plain laws. No program in sight. -/
import Derived.Test.YtlbpmepifegeiaaLawP
import Derived.Test.YtlbpmepifegeiaaLis
import Derived.Test.YtlbpmepifegeiaaNew
namespace Go.Proofs.Ytlbpmepifegeiaa
set_option linter.unusedVariables false

theorem core_new (L F H M : Nat) : core (SyV.new L F H M) = ⟨0, false, 0, 15, false⟩ := rfl
theorem start_hit {r : Rl} (hF : r.F ≤ 8) (t : Bool) (R : List Nat) : Steps r (fl t markB ++ R) ⟨0, false, 0, 15, false⟩ [] ⟨0, t, 0, 24, true⟩ := by
  have h := Steps.one (mstep_hit (r := r) (B := fl t markB ++ R) (m := ⟨0, false, 0, 15, false⟩) (t := t) rfl (by simp only [List.length_append, fl_len, markB_len]; omega) (hit_mark hF t [] R))
  exact h
theorem all_law (L F H M : Nat) (hF : F ≤ 8) (t : Bool) (D : List (List Nat)) (hD : ∀ d ∈ D, AllB d ∧ d.length = L) :
    ∃ m', Run ⟨L, F, H, M⟩ (flat t D) (core (SyV.new L F H M)) (foL L t 0 D) m' ∧ m'.lo = decide (0 < D.length) := by
  rw [core_new]
  cases D with
  | nil =>
    refine ⟨⟨0, false, 0, 15, false⟩, ⟨Steps.nil _, mstep_short rfl ?_⟩, rfl⟩
    unfold flat; rw [fl_len]; simp
  | cons d D =>
    obtain ⟨m', h1, h2⟩ := run_frames (r := ⟨L, F, H, M⟩) (t := t) (lo := true) (d :: D) [] (by simp) hD
    have h3 := start_hit (r := ⟨L, F, H, M⟩) hF t (fl t (bitsOf (Scr d)) ++ flat t D)
    rw [← flat_cons] at h3
    exact ⟨m', h3.run h1, by rw [h2]; simp⟩

/-! a bit too many, or too few -/
theorem shift_one : ∀ c, c < 2 → 7 < wrN (numB (c :: markB.take 31)) false := by
  intro c hc
  have : c = 0 ∨ c = 1 := by omega
  rcases this with rfl | rfl
  · have : wrN (numB (0 :: markB.take 31)) false = 11 := by kernel_rfl
    omega
  · have : wrN (numB (1 :: markB.take 31)) false = 12 := by kernel_rfl
    omega
theorem shift_two : ∀ b c, b < 2 → c < 2 → 3 < wrN (numB (b :: c :: markB.take 30)) false := by
  intro b c hb hc
  have h1 : b = 0 ∨ b = 1 := by omega
  have h2 : c = 0 ∨ c = 1 := by omega
  rcases h1 with rfl | rfl <;> rcases h2 with rfl | rfl
  · have : wrN (numB (0 :: 0 :: markB.take 30)) false = 13 := by kernel_rfl
    omega
  · have : wrN (numB (0 :: 1 :: markB.take 30)) false = 14 := by kernel_rfl
    omega
  · have : wrN (numB (1 :: 0 :: markB.take 30)) false = 14 := by kernel_rfl
    omega
  · have : wrN (numB (1 :: 1 :: markB.take 30)) false = 15 := by kernel_rfl
    omega
theorem shift_back : ∀ c, c < 2 → 7 < wrN (numB (markB.drop 1 ++ [c])) false := by
  intro c hc
  have : c = 0 ∨ c = 1 := by omega
  rcases this with rfl | rfl
  · have : wrN (numB (markB.drop 1 ++ [0])) false = 12 := by kernel_rfl
    omega
  · have : wrN (numB (markB.drop 1 ++ [1])) false = 11 := by kernel_rfl
    omega
theorem winN_eq {B : List Nat} (P X R : List Nat) (hB : B = P ++ (X ++ R)) (hX : X.length = 32) {a : Nat} (ha : a = P.length) : winN B a = numB X := by
  subst hB; subst ha; exact winN_at P X R hX
theorem slip_exp {r : Rl} (hF : r.F ≤ 3) (hH : r.H ≤ 7) (P R : List Nat) (q : Nat) (lo : Bool) (Q : List Nat) (hQ1 : All1 Q) (hlen : 2 ≤ Q.length) (hR : ∃ c R', R = c :: R' ∧ c < 2 ∧ 1 ≤ R'.length) (hq : q = P.length + Q.length - 1 ∨ q = P.length + Q.length + 1) :
    Steps r (P ++ (Q ++ (markB ++ R))) ⟨q, false, 0, 29, lo⟩ [] ⟨P.length + Q.length, false, 0, 24, lo⟩ := by
  obtain ⟨c, R', rfl, hc, hR'⟩ := hR
  have hml := markB_len
  have hLen : (P ++ (Q ++ (markB ++ c :: R'))).length = P.length + Q.length + 33 + R'.length := by simp only [List.length_append, List.length_cons, hml]; omega
  have hmark : winN (P ++ (Q ++ (markB ++ c :: R'))) (P.length + Q.length) = numB markB := winN_eq (P ++ Q) markB (c :: R') (by simp) hml (by simp)
  have hm0 : wrN (numB markB) false = 0 := mark_num false
  rcases hq with rfl | rfl
  · -- a bit too many
    obtain ⟨Q0, b, e, rfl⟩ : ∃ Q0 b e, Q = Q0 ++ [b, e] := by
      have h1 : Q ≠ [] := by intro h; rw [h] at hlen; simp at hlen
      have h2 : Q.dropLast ≠ [] := by intro h; have := congrArg List.length h; simp at this; omega
      refine ⟨Q.dropLast.dropLast, Q.dropLast.getLast h2, Q.getLast h1, ?_⟩
      have h3 := List.dropLast_concat_getLast h1
      have h4 := List.dropLast_concat_getLast h2
      have h5 : Q = (Q.dropLast.dropLast ++ [Q.dropLast.getLast h2]) ++ [Q.getLast h1] := by rw [h4, h3]
      rw [List.append_assoc] at h5
      exact h5
    have hb : b < 2 := hQ1 b (by simp)
    have he : e < 2 := hQ1 e (by simp)
    have hl : (Q0 ++ [b, e]).length = Q0.length + 2 := by simp
    rw [hl] at hLen hmark ⊢
    have w1 : winN (P ++ ((Q0 ++ [b, e]) ++ (markB ++ c :: R'))) (P.length + (Q0.length + 2) - 1) = numB (e :: markB.take 31) := by
      refine winN_eq (P ++ Q0 ++ [b]) (e :: markB.take 31) (markB.drop 31 ++ c :: R') ?_ (by simp [hml]) (by simp; try omega)
      rw [show markB ++ c :: R' = markB.take 31 ++ (markB.drop 31 ++ c :: R') by rw [← List.append_assoc, List.take_append_drop]]
      simp
    have w2 : winN (P ++ ((Q0 ++ [b, e]) ++ (markB ++ c :: R'))) (P.length + (Q0.length + 2) - 1 - 1) = numB (b :: e :: markB.take 30) := by
      refine winN_eq (P ++ Q0) (b :: e :: markB.take 30) (markB.drop 30 ++ c :: R') ?_ (by simp [hml]) (by simp; try omega)
      rw [show markB ++ c :: R' = markB.take 30 ++ (markB.drop 30 ++ c :: R') by rw [← List.append_assoc, List.take_append_drop]]
      simp
    have s1 := shift_one e he
    have s2 := shift_two b e hb he
    have h := Steps.one (mstep_exp (r := r) (B := P ++ ((Q0 ++ [b, e]) ++ (markB ++ c :: R'))) (m := ⟨P.length + (Q0.length + 2) - 1, false, 0, 29, lo⟩) rfl (by show P.length + (Q0.length + 2) - 1 + 32 ≤ _; rw [hLen]; omega) (.inr (by show P.length + (Q0.length + 2) - 1 + 33 ≤ _; rw [hLen]; omega)))
    have e2 : expM r (P ++ ((Q0 ++ [b, e]) ++ (markB ++ c :: R'))) ⟨P.length + (Q0.length + 2) - 1, false, 0, 29, lo⟩ = ⟨P.length + (Q0.length + 2), false, 0, 24, lo⟩ := by
      unfold expM
      dsimp only
      rw [w1, if_neg (by omega), w2, if_neg (by omega), show P.length + (Q0.length + 2) - 1 + 1 = P.length + (Q0.length + 2) by omega, hmark, hm0, if_pos (by omega)]
    rwa [e2] at h
  · -- one too few
    have w1 : winN (P ++ (Q ++ (markB ++ c :: R'))) (P.length + Q.length + 1) = numB (markB.drop 1 ++ [c]) := by
      refine winN_eq (P ++ Q ++ markB.take 1) (markB.drop 1 ++ [c]) R' ?_ (by simp [hml]) (by simp [hml]; try omega)
      rw [show markB ++ c :: R' = markB.take 1 ++ (markB.drop 1 ++ c :: R') by rw [← List.append_assoc, List.take_append_drop]]
      simp
    have s1 := shift_back c hc
    have h := Steps.one (mstep_exp (r := r) (B := P ++ (Q ++ (markB ++ c :: R'))) (m := ⟨P.length + Q.length + 1, false, 0, 29, lo⟩) rfl (by show P.length + Q.length + 1 + 32 ≤ _; rw [hLen]; omega) (.inr (by show P.length + Q.length + 1 + 33 ≤ _; rw [hLen]; omega)))
    have e2 : expM r (P ++ (Q ++ (markB ++ c :: R'))) ⟨P.length + Q.length + 1, false, 0, 29, lo⟩ = ⟨P.length + Q.length, false, 0, 24, lo⟩ := by
      unfold expM
      dsimp only
      rw [w1, if_neg (by omega), show P.length + Q.length + 1 - 1 = P.length + Q.length by omega, hmark, hm0, if_pos (by omega)]
    rwa [e2] at h
/-- a frame is hurt by a bit too many or too few -/
theorem slip_law (L F H M : Nat) (hL : 1 ≤ L) (hF : F ≤ 3) (hH : H ≤ 7) (D1 D2 : List (List Nat)) (Y : List Nat) (h1 : ∀ d ∈ D1, AllB d ∧ d.length = L) (h2 : ∀ d ∈ D2, AllB d ∧ d.length = L) (hne : D2 ≠ []) (hY : All1 Y) (hYl : Y.length = 8 * L + 1 ∨ Y.length + 1 = 8 * L) :
    ∃ m' ds, Run ⟨L, F, H, M⟩ (flat false D1 ++ (markB ++ (Y ++ flat false D2))) (core (SyV.new L F H M)) (foL L false 0 D1 ++ ⟨D1.length * (32 + 8 * L), false, 0, ds⟩ :: foL L false (D1.length * (32 + 8 * L) + 32 + Y.length) D2) m' := by
  rw [core_new]
  have f0 : ∀ l, fl false l = l := fun l => rfl
  obtain ⟨d, D3, rfl⟩ : ∃ d D3, D2 = d :: D3 := by cases D2 with | nil => exact absurd rfl hne | cons d D3 => exact ⟨d, D3, rfl⟩
  have e2 : flat false (d :: D3) = markB ++ (bitsOf (Scr d) ++ flat false D3) := by rw [flat_cons, f0, f0]
  have hlD : (flat false D1).length = D1.length * (32 + 8 * L) := by unfold flat; rw [fl_len]; exact flatLen D1 (fun x hx => (h1 x hx).2)
  have hdl := (h2 d (by simp)).2
  have hml := markB_len
  -- the first mark
  have hs : ∃ R, flat false D1 ++ (markB ++ (Y ++ flat false (d :: D3))) = markB ++ R := by
    cases D1 with
    | nil => exact ⟨_, rfl⟩
    | cons x D1 => rw [flat_cons, f0, f0]; exact ⟨_, by rw [List.append_assoc]⟩
  obtain ⟨R, hR⟩ := hs
  have s1 := start_hit (r := ⟨L, F, H, M⟩) (by show F ≤ 8; omega) false R
  rw [f0, ← hR] at s1
  have s2 := pre_frames (r := ⟨L, F, H, M⟩) (t := false) (lo := true) (Y ++ flat false (d :: D3)) D1 [] h1
  rw [f0, List.nil_append, List.length_nil, Nat.zero_add] at s2
  -- the hurt frame
  have hLen : (flat false D1 ++ (markB ++ (Y ++ flat false (d :: D3)))).length = D1.length * (32 + 8 * L) + 32 + Y.length + 32 + 8 * L + (flat false D3).length := by
    rw [e2]; simp only [List.length_append, hlD, hml, bitsOf_len, Scr_len, hdl]; omega
  have s3 := Steps.one (mstep_read (r := ⟨L, F, H, M⟩) (B := flat false D1 ++ (markB ++ (Y ++ flat false (d :: D3)))) (m := ⟨D1.length * (32 + 8 * L), false, 0, 24, true⟩) rfl (by rw [hLen]; show D1.length * (32 + 8 * L) + 32 + 8 * L ≤ _; omega))
  -- the next mark
  have s4 := slip_exp (r := ⟨L, F, H, M⟩) hF hH (flat false D1 ++ markB) (bitsOf (Scr d) ++ flat false D3) (D1.length * (32 + 8 * L) + 32 + 8 * L) true Y hY (by omega)
    (by
      have hl : (bitsOf (Scr d) ++ flat false D3).length ≥ 8 := by rw [List.length_append, bitsOf_len, Scr_len, hdl]; omega
      cases hx : bitsOf (Scr d) with
      | nil => have := congrArg List.length hx; rw [bitsOf_len, Scr_len, hdl] at this; simp at this; omega
      | cons c R' =>
        refine ⟨c, R' ++ flat false D3, rfl, bitsOf_1 _ c (by rw [hx]; simp), ?_⟩
        have := congrArg List.length hx
        rw [bitsOf_len, Scr_len, hdl] at this
        simp at this ⊢
        omega)
    (by rw [List.length_append, hlD, hml]; omega)
  rw [List.length_append, hlD, hml, ← e2, List.append_assoc] at s4
  obtain ⟨m', s5, _⟩ := run_frames (r := ⟨L, F, H, M⟩) (t := false) (lo := true) (d :: D3) (flat false D1 ++ (markB ++ Y)) (by simp) h2
  have hl5 : (flat false D1 ++ (markB ++ Y)).length = D1.length * (32 + 8 * L) + 32 + Y.length := by simp only [List.length_append, hlD, hml]; omega
  rw [hl5, List.append_assoc, List.append_assoc] at s5
  have h6 := (s1.trans (s2.trans (s3.trans s4))).run s5
  refine ⟨m', frD L (flat false D1 ++ (markB ++ (Y ++ flat false (d :: D3)))) (D1.length * (32 + 8 * L)) false, ?_⟩
  rw [List.nil_append, List.append_nil, List.append_assoc] at h6
  exact h6

/-! in which pieces bits are taken -/
theorem winN_more (B C : List Nat) (a : Nat) (h : a + 32 ≤ B.length) : winN (B ++ C) a = winN B a := by
  unfold winN
  rw [List.drop_append_of_le_length (by omega), List.take_append_of_le_length (by rw [List.length_drop]; omega)]
theorem hit_more (F : Nat) (B C : List Nat) (a : Nat) (h : a + 32 ≤ B.length) : hit F (B ++ C) a = hit F B a := by unfold hit; rw [winN_more _ _ _ h]
theorem frD_more (L : Nat) (B C : List Nat) (a : Nat) (t : Bool) (h : a + 32 + 8 * L ≤ B.length) : frD L (B ++ C) a t = frD L B a t := by
  unfold frD
  rw [List.drop_append_of_le_length (by omega), List.take_append_of_le_length (by rw [List.length_drop]; omega)]
theorem mstep_more {r : Rl} {B : List Nat} (C : List Nat) {m : Ms} {x : Ms × List Fo} (h : mstep r B m = some x) : mstep r (B ++ C) m = some x := by
  have hl : (B ++ C).length = B.length + C.length := List.length_append
  unfold mstep at h ⊢
  split at h
  · rename_i hs
    rw [if_pos hs]
    split at h
    · rename_i h32
      rw [if_pos (by omega), hit_more _ _ _ _ h32]
      exact h
    · cases h
  · rename_i hs
    rw [if_neg hs]
    split at h
    · rename_i hs2
      rw [if_pos hs2]
      split at h
      · rename_i h32
        rw [if_pos (by omega), frD_more _ _ _ _ _ h32]
        exact h
      · cases h
    · rename_i hs2
      rw [if_neg hs2]
      split at h
      · rename_i h32
        rw [if_pos (by omega), winN_more _ _ _ h32]
        split at h
        · cases h
        · rename_i h33
          rw [if_neg (by intro hh; exact h33 ⟨hh.1, by omega⟩)]
          have e : expM r (B ++ C) m = expM r B m := by
            unfold expM
            rw [winN_more _ _ _ h32]
            by_cases hw : wrN (winN B m.pos) m.tu ≤ (r.H : Int)
            · rw [if_pos hw, if_pos hw]
            · have h34 : m.pos + 33 ≤ B.length := by
                by_cases h35 : B.length < m.pos + 33
                · exact absurd ⟨hw, h35⟩ h33
                · omega
              rw [if_neg hw, if_neg hw, winN_more _ _ _ (by omega : m.pos - 1 + 32 ≤ B.length), winN_more _ _ _ (by omega : m.pos + 1 + 32 ≤ B.length)]
          rw [e]
          exact h
      · cases h
theorem Steps.more {r : Rl} {B : List Nat} (C : List Nat) {m m1 : Ms} {f : List Fo} (h : Steps r B m f m1) : Steps r (B ++ C) m f m1 := by
  induction h with
  | nil m => exact Steps.nil m
  | cons a _ ih => exact Steps.cons (mstep_more C a) ih
theorem Lis.steps {r : Rl} {B : List Nat} {m : Ms} {pss : List (List Nat)} {fss : List (List Fo)} {los : List Bool} {C : List Nat} {m1 : Ms} (h : Lis r B m pss fss los C m1) :
    Steps r C m fss.flatten m1 ∧ (pss ≠ [] → mstep r C m1 = none ∧ los.getLast? = some m1.lo) ∧ fss.length = pss.length ∧ los.length = pss.length := by
  induction h with
  | nil => exact ⟨Steps.nil _, fun h => absurd rfl h, rfl, rfl⟩
  | snoc h1 h2 ih =>
    obtain ⟨ih, _, ih2, ih3⟩ := ih
    refine ⟨?_, fun _ => ⟨h2.2, by simp⟩, by simp [ih2], by simp [ih3]⟩
    rw [List.flatten_append]
    simpa using (ih.more _).trans h2.1
/-- the same is found in whatever pieces -/
theorem cuts_law {r : Rl} {m0 : Ms} {pss qss : List (List Nat)} {f g : List (List Fo)} {lo lp : List Bool} {B C : List Nat} {m1 m2 : Ms} (h : Lis r [] m0 pss f lo B m1) (k : Lis r [] m0 qss g lp C m2)
    (hn : pss ≠ []) (hn2 : qss ≠ []) (he : par pss.flatten = par qss.flatten) (hB : B = par pss.flatten) (hC : C = par qss.flatten) : f.flatten = g.flatten ∧ lo.getLast? = lp.getLast? := by
  obtain ⟨h1, h2, _⟩ := h.steps
  obtain ⟨k1, k2, _⟩ := k.steps
  have e : B = C := by rw [hB, hC, he]
  subst e
  obtain ⟨h3, h4⟩ := h2 hn
  obtain ⟨k3, k4⟩ := k2 hn2
  obtain ⟨e1, e2⟩ := Run.det ⟨h1, h3⟩ ⟨k1, k3⟩
  exact ⟨e1, by rw [h4, k4, e2]⟩
end Go.Proofs.Ytlbpmepifegeiaa
