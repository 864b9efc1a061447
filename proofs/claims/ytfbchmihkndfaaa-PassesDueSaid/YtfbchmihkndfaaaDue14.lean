/- PassesDue: room: the walk. -/
import Derived.Test.YtfbchmihkndfaaaDue13
namespace Go.Proofs.Ytfbchmihkndfaaa
set_option linter.unusedVariables false
open Go.RowKit

set_option maxRecDepth 1000000 in
theorem fr49 (y : Nat → Value) : fr 49 y = #[y 0, y 1, y 2, y 3, y 4, y 5, y 6, y 7, y 8, y 9, y 10, y 11, y 12, y 13, y 14, y 15, y 16, y 17, y 18, y 19, y 20, y 21, y 22, y 23, y 24, y 25, y 26, y 27, y 28, y 29, y 30, y 31, y 32, y 33, y 34, y 35, y 36, y 37, y 38, y 39, y 40, y 41, y 42, y 43, y 44, y 45, y 46, y 47, y 48] := rfl
structure SR (y : Nat → Value) (rb x : Nat) (wa : Option Addr) (n c i : Nat) : Prop where
  s3 : y 3 = .slice (some ⟨rb, 0, none⟩) 20001 20001
  s5 : y 5 = .pointer (some ⟨x, 0, none⟩)
  s8 : y 8 = .slice wa n c
  s9 : y 9 = .int .i64 (n : Int)
  s10 : y 10 = .int .i64 (i : Int)
set_option maxRecDepth 1000000 in
set_option maxHeartbeats 1000000 in
theorem room_5 (rb x : Nat) (wa : Option Addr) (n c i fr_ tt ra : Nat) (f : Nat → Int) (W0 : World) (hI : Iv W0 rb f) (hx : W0.heap[x]? = some (.cells #[.int .i64 (fr_ : Int), .int .i64 (tt : Int), .int .i64 (ra : Int)] 29)) (hk : fr_ < 20001) (hb : -1000000 ≤ f fr_ ∧ f fr_ ≤ 1000000) (hr : ra ≤ 1000) :
    Tri Try.prog 49 (pieceOf Try.f28 [1, 1, 0, 1, 0, 0, 1, 1, 0, 0, 1, 0]) (fun y w => SR y rb x wa n c i ∧ w = W0)
      (fun _ _ y w => SR y rb x wa n c i ∧ Iv w rb (fun t => if t = fr_ then f fr_ + (ra : Int) else f t) ∧ Gb rb W0 w) := by
  rintro Q y w ⟨⟨s3, s5, s8, s9, s10⟩, rfl⟩ hQ
  have HQ := hid hQ
  have hd : Below w.heap.size w w.drew := (Below.refl _ w).drew
  obtain ⟨cs, h1, h2, h3⟩ := hI
  have hrb := row_lt h1
  have e0 : ∀ w', Below w.heap.size w.drew w' → w'.cell? ⟨x, 0, none⟩ = some (.int .i64 (fr_ : Int)) := fun w' hw => by rw [cell_of_row _ _ _ _ _ _ (row_below hx (hd.trans hw))]; rfl
  have e1 : ∀ w', Below w.heap.size w.drew w' → w'.cell? ⟨x, 2, none⟩ = some (.int .i64 (ra : Int)) := fun w' hw => by rw [cell_of_row _ _ _ _ _ _ (row_below hx (hd.trans hw))]; rfl
  have e2 : ∀ w', Below w.heap.size w.drew w' → w'.cell? ⟨rb, fr_, none⟩ = some (.int .i64 (f fr_)) := fun w' hw => by rw [cell_of_row _ _ _ _ _ _ (row_below h1 (hd.trans hw))]; exact h3 _ hk
  have hd1 := row_below h1 hd
  have hid1 : Iv w.drew rb f := ⟨cs, hd1, h2, h3⟩
  have hset := hid (hid1.set fr_ hk (f fr_ + (ra : Int)))
  have fz := frozen_row hd1
  have c0 := hid1.cell fr_ hk
  have Hd := hid (Gb.below (k := rb) hd)
  obtain ⟨v, hv⟩ : ∃ v, v = f fr_ + (ra : Int) := ⟨_, rfl⟩
  rw [← hv] at hset HQ
  have hkI : (fr_ : Int) < 20001 := by omega
  have hwr : IntKind.i64.wrap (f fr_ + (ra : Int)) = v := by rw [hv]; exact IntWalk.i64_in _ (by omega)
  generalize f fr_ = fv at *
  clear hQ h1 h3 hx hd hd1 hid1 hv
  conv => arg 2; whnf
  rw [fr49]
  simp only [s3, s5, s8, s9, s10]
  clear s3 s5 s8 s9 s10
  refine wp_region_late [9] [9] [(true, [0, 1, 2, 3, 4, 5, 6, 7]), (false, [8, 9])] (Below w.heap.size) (fun _ _ => True) (fun _ => Below.refl _ _) (fun _ _ _ h k => h.trans k) (fun _ => trivial) (fun _ _ _ _ _ => trivial) (fun _ _ _ => trivial) (by kernel_rfl) (by kernel_rfl) ?_
  simp only [wpPh, List.map_cons, List.map_nil, List.contains_cons, List.contains_nil, List.getD_cons_zero, List.getD_cons_succ, Nat.reduceBEq, Bool.or_false]
  generalize w.drew = U at *
  iterate 8 (refine wpL_do rfl (fun w' hw' => (by go_simp; rfl)) ?_; simp only [Act.put, List.setIfInBounds_toArray, List.set_cons_succ, List.set_cons_zero])
  refine wpL_nil ?_
  refine wpL_do rfl (fun w' hw' => (by go_simp; rfl)) ?_
  simp only [Act.put, List.setIfInBounds_toArray, List.set_cons_succ, List.set_cons_zero]
  clear e0 e1 e2 hwr
  refine wpL_call rfl (fun K hK => ?_)
  go_wp2_with fail
  refine hK _ _ trivial ?_
  clear hK K c0 fz
  try simp only [Act.put, List.setIfInBounds_toArray, List.set_cons_succ, List.set_cons_zero]
  refine wpL_nil ?_
  exact q_fr (N := 49) HQ.out rfl ⟨⟨rfl, rfl, rfl, rfl, rfl⟩, hset.out.1, grownBy_trans Hd.out hset.out.2⟩
set_option maxRecDepth 1000000 in
set_option maxHeartbeats 1000000 in
theorem room_6 (rb x : Nat) (wa : Option Addr) (n c i fr_ tt ra : Nat) (f : Nat → Int) (W0 : World) (hI : Iv W0 rb f) (hx : W0.heap[x]? = some (.cells #[.int .i64 (fr_ : Int), .int .i64 (tt : Int), .int .i64 (ra : Int)] 29)) (hk : tt < 20001) (hb : -1000000 ≤ f tt ∧ f tt ≤ 1000000) (hr : ra ≤ 1000) :
    Tri Try.prog 49 (pieceOf Try.f28 [1, 1, 0, 1, 0, 0, 1, 1, 0, 0, 1, 1]) (fun y w => SR y rb x wa n c i ∧ w = W0)
      (fun _ _ y w => SR y rb x wa n c i ∧ Iv w rb (fun t => if t = tt then f tt - (ra : Int) else f t) ∧ Gb rb W0 w) := by
  rintro Q y w ⟨⟨s3, s5, s8, s9, s10⟩, rfl⟩ hQ
  have HQ := hid hQ
  have hd : Below w.heap.size w w.drew := (Below.refl _ w).drew
  obtain ⟨cs, h1, h2, h3⟩ := hI
  have hrb := row_lt h1
  have e0 : ∀ w', Below w.heap.size w.drew w' → w'.cell? ⟨x, 1, none⟩ = some (.int .i64 (tt : Int)) := fun w' hw => by rw [cell_of_row _ _ _ _ _ _ (row_below hx (hd.trans hw))]; rfl
  have e1 : ∀ w', Below w.heap.size w.drew w' → w'.cell? ⟨x, 2, none⟩ = some (.int .i64 (ra : Int)) := fun w' hw => by rw [cell_of_row _ _ _ _ _ _ (row_below hx (hd.trans hw))]; rfl
  have e2 : ∀ w', Below w.heap.size w.drew w' → w'.cell? ⟨rb, tt, none⟩ = some (.int .i64 (f tt)) := fun w' hw => by rw [cell_of_row _ _ _ _ _ _ (row_below h1 (hd.trans hw))]; exact h3 _ hk
  have hd1 := row_below h1 hd
  have hid1 : Iv w.drew rb f := ⟨cs, hd1, h2, h3⟩
  have hset := hid (hid1.set tt hk (f tt - (ra : Int)))
  have fz := frozen_row hd1
  have c0 := hid1.cell tt hk
  have Hd := hid (Gb.below (k := rb) hd)
  obtain ⟨v, hv⟩ : ∃ v, v = f tt - (ra : Int) := ⟨_, rfl⟩
  rw [← hv] at hset HQ
  have hkI : (tt : Int) < 20001 := by omega
  have hwr : IntKind.i64.wrap (f tt - (ra : Int)) = v := by rw [hv]; exact IntWalk.i64_in _ (by omega)
  generalize f tt = fv at *
  clear hQ h1 h3 hx hd hd1 hid1 hv
  conv => arg 2; whnf
  rw [fr49]
  simp only [s3, s5, s8, s9, s10]
  clear s3 s5 s8 s9 s10
  refine wp_region_late [9] [9] [(true, [0, 1, 2, 3, 4, 5, 6, 7]), (false, [8, 9])] (Below w.heap.size) (fun _ _ => True) (fun _ => Below.refl _ _) (fun _ _ _ h k => h.trans k) (fun _ => trivial) (fun _ _ _ _ _ => trivial) (fun _ _ _ => trivial) (by kernel_rfl) (by kernel_rfl) ?_
  simp only [wpPh, List.map_cons, List.map_nil, List.contains_cons, List.contains_nil, List.getD_cons_zero, List.getD_cons_succ, Nat.reduceBEq, Bool.or_false]
  generalize w.drew = U at *
  iterate 8 (refine wpL_do rfl (fun w' hw' => (by go_simp; rfl)) ?_; simp only [Act.put, List.setIfInBounds_toArray, List.set_cons_succ, List.set_cons_zero])
  refine wpL_nil ?_
  refine wpL_do rfl (fun w' hw' => (by go_simp; rfl)) ?_
  simp only [Act.put, List.setIfInBounds_toArray, List.set_cons_succ, List.set_cons_zero]
  clear e0 e1 e2 hwr
  refine wpL_call rfl (fun K hK => ?_)
  go_wp2_with fail
  refine hK _ _ trivial ?_
  clear hK K c0 fz
  try simp only [Act.put, List.setIfInBounds_toArray, List.set_cons_succ, List.set_cons_zero]
  refine wpL_nil ?_
  exact q_fr (N := 49) HQ.out rfl ⟨⟨rfl, rfl, rfl, rfl, rfl⟩, hset.out.1, grownBy_trans Hd.out hset.out.2⟩
end Go.Proofs.Ytfbchmihkndfaaa
/- PassesDue: room: the sums. -/
namespace Go.Proofs.Ytfbchmihkndfaaa
set_option linter.unusedVariables false
open Go.RowKit

set_option maxRecDepth 1000000 in
set_option maxHeartbeats 1000000 in
theorem room_11 (rb t : Nat) (f : Nat → Int) (W0 : World) (hI : Iv W0 rb f) (ht : t < 20000) (hb : -1000000 ≤ f t ∧ f t ≤ 1000000) (hb1 : -1000000 ≤ f (t + 1) ∧ f (t + 1) ≤ 1000000) :
    Tri Try.prog 49 (pieceOf Try.f28 [1, 1, 1, 0, 1, 0, 0, 1, 1, 0, 0, 1]) (fun y w => y 3 = .slice (some ⟨rb, 0, none⟩) 20001 20001 ∧ y 6 = .int .i64 (t : Int) ∧ y 33 = .int .i64 (t : Int) ∧ w = W0)
      (fun _ _ y w => y 3 = .slice (some ⟨rb, 0, none⟩) 20001 20001 ∧ y 33 = .int .i64 (t : Int) ∧ Iv w rb (fun u => if u = t + 1 then f (t + 1) + f t else f u) ∧ Gb rb W0 w) := by
  rintro Q y w ⟨s3, s6, s33, rfl⟩ hQ
  have HQ := hid hQ
  have hd : Below w.heap.size w w.drew := (Below.refl _ w).drew
  obtain ⟨cs, h1, h2, h3⟩ := hI
  obtain ⟨q, hq⟩ : ∃ q, q = t + 1 := ⟨_, rfl⟩
  rw [← hq] at hb1 HQ
  have e0 : ∀ w', Below w.heap.size w.drew w' → w'.cell? ⟨rb, t, none⟩ = some (.int .i64 (f t)) := fun w' hw => by rw [cell_of_row _ _ _ _ _ _ (row_below h1 (hd.trans hw))]; exact h3 _ (by omega)
  have e1 : ∀ w', Below w.heap.size w.drew w' → w'.cell? ⟨rb, q, none⟩ = some (.int .i64 (f q)) := fun w' hw => by rw [cell_of_row _ _ _ _ _ _ (row_below h1 (hd.trans hw))]; exact h3 _ (by omega)
  have hd1 := row_below h1 hd
  have hid1 : Iv w.drew rb f := ⟨cs, hd1, h2, h3⟩
  have hset := hid (hid1.set q (by omega) (f q + f t))
  have fz := frozen_row hd1
  have c0 := hid1.cell q (by omega)
  have Hd := hid (Gb.below (k := rb) hd)
  obtain ⟨v, hv⟩ : ∃ v, v = f q + f t := ⟨_, rfl⟩
  rw [← hv] at hset HQ
  have hqt : (t : Int) + 1 = (q : Int) := by omega
  have wq : IntKind.i64.wrap (q : Int) = (q : Int) := IntWalk.i64_in _ (by omega)
  have hkI : (t : Int) < 20001 := by omega
  have hkQ : (q : Int) < 20001 := by omega
  have hwr : IntKind.i64.wrap (f q + f t) = v := by rw [hv]; exact IntWalk.i64_in _ (by omega)
  generalize f q = fq at *
  generalize f t = ft at *
  clear hQ h1 h3 hd hd1 hid1 hv hq
  conv => arg 2; whnf
  rw [fr49]
  simp only [s3, s6, s33]
  clear s3 s6 s33
  refine wp_region_late [11] [11] [(true, [0, 1, 2, 3, 4, 5, 6, 7, 8, 9]), (false, [10, 11])] (Below w.heap.size) (fun _ _ => True) (fun _ => Below.refl _ _) (fun _ _ _ h k => h.trans k) (fun _ => trivial) (fun _ _ _ _ _ => trivial) (fun _ _ _ => trivial) (by kernel_rfl) (by kernel_rfl) ?_
  simp only [wpPh, List.map_cons, List.map_nil, List.contains_cons, List.contains_nil, List.getD_cons_zero, List.getD_cons_succ, Nat.reduceBEq, Bool.or_false]
  generalize w.drew = U at *
  iterate 10 (refine wpL_do rfl (fun w' hw' => (by go_simp; rfl)) ?_; simp only [Act.put, List.setIfInBounds_toArray, List.set_cons_succ, List.set_cons_zero])
  refine wpL_nil ?_
  refine wpL_do rfl (fun w' hw' => (by go_simp; rfl)) ?_
  simp only [Act.put, List.setIfInBounds_toArray, List.set_cons_succ, List.set_cons_zero]
  clear e0 e1 hwr
  refine wpL_call rfl (fun K hK => ?_)
  go_wp2_with fail
  refine hK _ _ trivial ?_
  clear hK K c0 fz
  try simp only [Act.put, List.setIfInBounds_toArray, List.set_cons_succ, List.set_cons_zero]
  refine wpL_nil ?_
  exact q_fr (N := 49) HQ.out rfl ⟨rfl, rfl, hset.out.1, grownBy_trans Hd.out hset.out.2⟩
/-- how far the sums are -/
def Wins.mid (V : Wins) (s t : Nat) : Int := if t ≤ s then (V.rt V.n t : Int) else V.df V.n t
def SumI (W0 : World) (rb : Nat) (V : Wins) (y : Nat → Value) (W : World) : Prop :=
  ∃ t, t ≤ 20000 ∧ y 3 = .slice (some ⟨rb, 0, none⟩) 20001 20001 ∧ y 33 = .int .i64 ((t : Nat) : Int) ∧ Iv W rb (V.mid t) ∧ Gb rb W0 W
set_option maxRecDepth 1000000 in
set_option maxHeartbeats 1000000 in
theorem room_l2 (rb : Nat) (V : Wins) (W0 : World) (hI : Iv W0 rb (V.df V.n)) (hn : V.n ≤ 6) (hft : ∀ i, i < V.n → V.fr i ≤ V.tt i) (hra : ∀ i, i < V.n → V.ra i ≤ 1000) :
    Tri Try.prog 49 (pieceOf Try.f28 [1, 1, 1, 0, 1]) (fun y w => y 3 = .slice (some ⟨rb, 0, none⟩) 20001 20001 ∧ y 33 = .int .i64 0 ∧ w = W0)
      (fun _ _ y w => y 3 = .slice (some ⟨rb, 0, none⟩) 20001 20001 ∧ Iv w rb (fun t => (V.rt V.n t : Int)) ∧ Gb rb W0 w) := by
  rintro Q y w ⟨s3, s33, rfl⟩ hQ
  have HQ := hid hQ
  have HI := hid (hI.congr (g := V.mid 0) fun t _ => by
    unfold Wins.mid
    split
    · obtain rfl : t = 0 := by omega
      exact (V.rt_zero V.n hft).symm
    · rfl)
  clear hQ hI
  conv => arg 2; whnf
  rw [fr49]
  simp only [s3, s33]
  clear s3 s33
  refine wp_block ?_
  refine wp_loop_fr 49 (SumI w rb V) (fun y' _ => 20000 - (intOf (y' 33)).toNat) ⟨rfl, rfl, 0, Nat.zero_le _, rfl, rfl, HI.out, Gb.refl _ _⟩ ?_
  clear HI
  rintro z W ⟨t, ht, s3, s33, hI, hg⟩
  have HI := hid hI
  have HG := hid hg
  clear hI hg
  rw [fr49]
  simp only [s3, s33]
  clear s3 s33
  by_cases hlt : t < 20000
  · have d1 : decide ((t : Int) < 20000) = true := decide_eq_true (by omega)
    have d2 : decide (t < 20000) = true := decide_eq_true hlt
    have m0 : V.mid t t = (V.rt V.n t : Int) := if_pos (Nat.le_refl _)
    have m1 : V.mid t (t + 1) = V.df V.n (t + 1) := if_neg (by omega)
    have b0 := V.rt_bd hra V.n (Nat.le_refl _) t
    have b1 := V.df_bd hra V.n (Nat.le_refl _) (t + 1)
    have h11 := room_11 rb t (V.mid t) W HI.out hlt (by rw [m0]; omega) (by rw [m1]; omega)
    have hnx : Hid (∀ u, u < 20001 → (if u = t + 1 then V.mid t (t + 1) + V.mid t t else V.mid t u) = V.mid (t + 1) u) := fun u _ => by
      rw [m0, m1]
      by_cases e : u = t + 1
      · subst e
        rw [if_pos rfl]
        unfold Wins.mid
        rw [if_pos (Nat.le_refl _), V.rt_succ t V.n hft]
        omega
      · rw [if_neg e]
        unfold Wins.mid
        by_cases h2 : u ≤ t
        · rw [if_pos h2, if_pos (by omega)]
        · rw [if_neg h2, if_neg (by omega)]
    have H11 := hid h11
    clear h11 m0 m1 b0 b1
    go_upto_block 3 with (fail)
    refine wp_block ?_
    refine wp_seq_k (fun K1 hK1 => ?_)
    go_wp2_with fail
    refine hK1.out _ _ ?_
    refine Tri.use H11.out rfl ⟨rfl, rfl, rfl, rfl⟩ ?_
    rintro y2 W2 ⟨s3, s33, hI2, hg2⟩
    have HI2 := hid (hI2.congr hnx.out)
    have HG2 := hid (grownBy_trans HG.out hg2)
    clear hI2 hg2
    rw [fr49]
    simp only [s3, s33]
    clear s3 s33
    go_wp2_with fail
    refine ⟨rfl, rfl, ⟨t + 1, by omega, rfl, ?_, HI2.out, HG2.out⟩, ?_⟩
    · show Value.int .i64 _ = Value.int .i64 _
      go_num
    · show 20000 - (intOf (Value.int .i64 _)).toNat < _
      simp [intOf]
      omega
  · obtain rfl : t = 20000 := by omega
    have HE := hid (HI.out.congr (g := fun t => (V.rt V.n t : Int)) fun u hu => if_pos (by omega))
    go_wp2_with fail
    exact q_fr (N := 49) HQ.out rfl ⟨rfl, HE.out, HG.out⟩
end Go.Proofs.Ytfbchmihkndfaaa
/- PassesDue: room. -/
namespace Go.Proofs.Ytfbchmihkndfaaa
set_option linter.unusedVariables false
open Go.RowKit

/-- the windows in memory -/
structure WAt (W : World) (wa : Option Addr) (c : Nat) (V : Wins) : Prop where
  le : V.n ≤ c
  mx : c ≤ maxLen
  mem : 0 < V.n → ∃ b, wa = some ⟨b, 0, none⟩ ∧ b < W.heap.size ∧ ∀ i, i < V.n → W.cell? ⟨b, i * 3, none⟩ = some (.int .i64 (V.fr i : Int)) ∧ W.cell? ⟨b, i * 3 + 1, none⟩ = some (.int .i64 (V.tt i : Int)) ∧ W.cell? ⟨b, i * 3 + 2, none⟩ = some (.int .i64 (V.ra i : Int))
theorem WAt.below' {W0 W : World} {wa : Option Addr} {c : Nat} {V : Wins} (h : WAt W0 wa c V) (hb : Below W0.heap.size W0 W) : WAt W wa c V :=
  ⟨h.le, h.mx, fun hn => by
    obtain ⟨b, h1, h2, h3⟩ := h.mem hn
    exact ⟨b, h1, Nat.lt_of_lt_of_le h2 hb.size, fun i hi => ⟨(hb.cell (p := ⟨b, i * 3, none⟩) h2).trans (h3 i hi).1, (hb.cell (p := ⟨b, i * 3 + 1, none⟩) h2).trans (h3 i hi).2.1, (hb.cell (p := ⟨b, i * 3 + 2, none⟩) h2).trans (h3 i hi).2.2⟩⟩⟩
structure WinOk (V : Wins) : Prop where
  n : V.n ≤ 6
  ft : ∀ i, i < V.n → V.fr i ≤ V.tt i
  tt : ∀ i, i < V.n → V.tt i ≤ 1000
  ra : ∀ i, i < V.n → V.ra i ≤ 1000
def DifI (W0 : World) (rb : Nat) (wa : Option Addr) (c : Nat) (V : Wins) (y : Nat → Value) (W : World) : Prop :=
  ∃ i, i ≤ V.n ∧ y 3 = .slice (some ⟨rb, 0, none⟩) 20001 20001 ∧ y 8 = .slice wa V.n c ∧ y 9 = .int .i64 (V.n : Int) ∧ y 10 = .int .i64 ((i : Nat) : Int) ∧ Iv W rb (V.df i) ∧ Below W0.heap.size W0 W
set_option maxRecDepth 1000000 in
set_option maxHeartbeats 2000000 in
theorem room_l1 (rb : Nat) (wa : Option Addr) (c : Nat) (V : Wins) (W0 W1 : World) (hV : WinOk V) (hw : WAt W0 wa c V) (hI : Iv W1 rb (V.df 0)) (hrb : W0.heap.size ≤ rb) (hb : Below W0.heap.size W0 W1) :
    Tri Try.prog 49 (pieceOf Try.f28 [1, 1, 0, 1]) (fun y w => y 3 = .slice (some ⟨rb, 0, none⟩) 20001 20001 ∧ y 8 = .slice wa V.n c ∧ y 9 = .int .i64 (V.n : Int) ∧ y 10 = .int .i64 0 ∧ w = W1)
      (fun _ _ y w => y 3 = .slice (some ⟨rb, 0, none⟩) 20001 20001 ∧ Iv w rb (V.df V.n) ∧ Below W0.heap.size W0 w) := by
  rintro Q y w ⟨s3, s8, s9, s10, rfl⟩ hQ
  have HQ := hid hQ
  have HI := hid hI
  have HB := hid hb
  have HW := hid hw
  have HV := hid hV
  have hn6 := hV.n
  have hcm := Nat.le_trans hw.le hw.mx
  unfold maxLen at hcm
  clear hQ hI hb hw hV
  conv => arg 2; whnf
  rw [fr49]
  simp only [s3, s8, s9, s10]
  clear s3 s8 s9 s10
  refine wp_block ?_
  refine wp_loop_fr 49 (DifI W0 rb wa c V) (fun y' _ => V.n - (intOf (y' 10)).toNat) ⟨rfl, rfl, 0, Nat.zero_le _, rfl, rfl, rfl, rfl, HI.out, HB.out⟩ ?_
  clear HI HB
  rintro z W ⟨i, hi, s3, s8, s9, s10, hI, hb⟩
  have HI := hid hI
  have HB := hid hb
  clear hI hb
  rw [fr49]
  simp only [s3, s8, s9, s10]
  clear s3 s8 s9 s10
  by_cases hlt : i < V.n
  · obtain ⟨b, rfl, hbl, hc⟩ := HW.out.mem (by omega)
    obtain ⟨x0, x1, x2⟩ := hc i hlt
    have c0 : W.cell? ⟨b, i * 3, none⟩ = some (.int .i64 (V.fr i : Int)) := (HB.out.cell (p := ⟨b, i * 3, none⟩) hbl).trans x0
    have c1 : W.cell? ⟨b, i * 3 + 1, none⟩ = some (.int .i64 (V.tt i : Int)) := (HB.out.cell (p := ⟨b, i * 3 + 1, none⟩) hbl).trans x1
    have c2 : W.cell? ⟨b, i * 3 + 2, none⟩ = some (.int .i64 (V.ra i : Int)) := (HB.out.cell (p := ⟨b, i * 3 + 2, none⟩) hbl).trans x2
    have d1 : decide ((i : Int) < (V.n : Int)) = true := decide_eq_true (by omega)
    have d2 : decide (i < V.n) = true := decide_eq_true hlt
    clear x0 x1 x2 hc
    go_upto_block 1 with (fail)
    refine wp_block ?_
    refine wp_seq_k (fun K1 hK1 => ?_)
    go_wp2_with fail
    refine hK1.out _ _ ?_
    clear c0 c1 c2
    have hfrt := HV.out.ft i hlt
    have htt := HV.out.tt i hlt
    have hra := HV.out.ra i hlt
    have hbd := fun t => V.df_bd HV.out.ra i hi t
    have b1 := below_alloc W (.cells #[.int .i64 (V.fr i : Int), .int .i64 (V.tt i : Int), .int .i64 (V.ra i : Int)] 29)
    have r1 := heap_alloc_new W (.cells #[.int .i64 (V.fr i : Int), .int .i64 (V.tt i : Int), .int .i64 (V.ra i : Int)] 29)
    have hI2 := HI.out
    obtain ⟨cs, k1, k2, k3⟩ := hI2
    have hrl := row_lt k1
    have I2 : Iv (W.alloc (.cells #[.int .i64 (V.fr i : Int), .int .i64 (V.tt i : Int), .int .i64 (V.ra i : Int)] 29)) rb (V.df i) := ⟨cs, row_below k1 b1, k2, k3⟩
    have h5 := hid (room_5 rb W.heap.size (some ⟨b, 0, none⟩) V.n c i (V.fr i) (V.tt i) (V.ra i) (V.df i) _ I2 r1 (by omega) (by have := hbd (V.fr i); omega) hra)
    have HB2 := hid (HB.out.trans (b1.mono HB.out.size))
    have R1 := hid r1
    clear b1 I2 k1 k2 k3 r1
    generalize W.alloc (.cells #[.int .i64 (V.fr i : Int), .int .i64 (V.tt i : Int), .int .i64 (V.ra i : Int)] 29) = W2 at *
    refine wp_seq_k (fun K2 hK2 => ?_)
    refine Tri.use h5.out rfl ⟨⟨rfl, rfl, rfl, rfl, rfl⟩, rfl⟩ ?_
    rintro y3 W3 ⟨⟨s3, s5, s8, s9, s10⟩, hI3, hg3⟩
    refine hK2.out _ _ ?_
    have h6 := hid (room_6 rb W.heap.size (some ⟨b, 0, none⟩) V.n c i (V.fr i) (V.tt i) (V.ra i) _ W3 hI3 (row_grown R1.out hg3 (by omega)) (by omega) (by
      have := hbd (V.fr i)
      have := hbd (V.tt i)
      split <;> omega) hra)
    have HB3 := hid (HB2.out.grown hg3 HB2.out.size (fun j e => by cases e; exact hrb))
    have hnx : Hid (∀ t, t < 20001 → (if t = V.tt i then (if V.tt i = V.fr i then V.df i (V.fr i) + (V.ra i : Int) else V.df i (V.tt i)) - (V.ra i : Int) else if t = V.fr i then V.df i (V.fr i) + (V.ra i : Int) else V.df i t) = V.df (i + 1) t) := fun t _ => by
      show _ = V.df i t + (if t = V.fr i then (V.ra i : Int) else 0) - (if t = V.tt i then (V.ra i : Int) else 0)
      by_cases e1 : t = V.tt i
      · subst e1
        rw [if_pos rfl, if_pos rfl]
        by_cases e2 : V.tt i = V.fr i
        · rw [if_pos e2, if_pos e2, e2]
        · rw [if_neg e2, if_neg e2]; omega
      · rw [if_neg e1, if_neg e1]
        by_cases e2 : t = V.fr i
        · subst e2; rw [if_pos rfl, if_pos rfl]; omega
        · rw [if_neg e2, if_neg e2]; omega
    clear hI3 hg3 h5
    rw [fr49]
    simp only [s3, s5, s8, s9, s10]
    clear s3 s5 s8 s9 s10
    refine Tri.use h6.out rfl ⟨⟨rfl, rfl, rfl, rfl, rfl⟩, rfl⟩ ?_
    rintro y4 W4 ⟨⟨s3, s5, s8, s9, s10⟩, hI4, hg4⟩
    have HI4 := hid (hI4.congr hnx.out)
    have HB4 := hid (HB3.out.grown hg4 HB3.out.size (fun j e => by cases e; exact hrb))
    clear hI4 hg4 h6 hnx
    rw [fr49]
    simp only [s3, s5, s8, s9, s10]
    clear s3 s5 s8 s9 s10
    go_wp2_with fail
    refine ⟨rfl, rfl, ⟨i + 1, by omega, rfl, rfl, rfl, ?_, HI4.out, HB4.out⟩, ?_⟩
    · show Value.int .i64 _ = Value.int .i64 _
      go_num
    · show V.n - (intOf (Value.int .i64 _)).toNat < _
      simp [intOf]
      omega
  · obtain rfl : i = V.n := by omega
    go_wp2_with fail
    exact q_fr (N := 49) HQ.out rfl ⟨rfl, HI.out, HB.out⟩
end Go.Proofs.Ytfbchmihkndfaaa
