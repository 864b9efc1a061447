/- deliver: a note comes while bytes come: what is judged and asked at the end. -/
import Derived.Test.YtopmamgdfngdoaaWhole17
namespace Go.Proofs.Ytopmamgdfngdoaa
set_option linter.unusedVariables false
open Go.RowKit

set_option maxRecDepth 1000000 in
theorem fr87 (y : Nat → Value) : fr 87 y = #[y 0, y 1, y 2, y 3, y 4, y 5, y 6, y 7, y 8, y 9, y 10, y 11, y 12, y 13, y 14, y 15, y 16, y 17, y 18, y 19, y 20, y 21, y 22, y 23, y 24, y 25, y 26, y 27, y 28, y 29, y 30, y 31, y 32, y 33, y 34, y 35, y 36, y 37, y 38, y 39, y 40, y 41, y 42, y 43, y 44, y 45, y 46, y 47, y 48, y 49, y 50, y 51, y 52, y 53, y 54, y 55, y 56, y 57, y 58, y 59, y 60, y 61, y 62, y 63, y 64, y 65, y 66, y 67, y 68, y 69, y 70, y 71, y 72, y 73, y 74, y 75, y 76, y 77, y 78, y 79, y 80, y 81, y 82, y 83, y 84, y 85, y 86] := rfl
theorem ris_len {F : Nat} : ∀ {l : List Sp} {b : Nat}, Ris b l → (∀ s ∈ l, s.2 ≤ F) → b ≤ F + 1 → l.length + b ≤ F + 1
  | [], b, _, _, hb => by rw [List.length_nil]; omega
  | s :: r, b, h, ht, hb => by
    have h1 := ht s List.mem_cons_self
    have h2 := ris_len h.2.2 (fun x hx => ht x (List.mem_cons_of_mem _ hx)) (by omega)
    have h3 := h.1
    have h4 := h.2.1
    rw [List.length_cons]
    omega
theorem judge_kn (P : Par) (t : TS) : ((judgeT P t) = (t, []) ∧ (t.kn && t.en && allH P.F t.hv) = false) ∨ ((judgeT P t) = ({ t with st := 3 }, [.nd])) := by
  unfold judgeT
  cases h : (t.kn && t.en && allH P.F t.hv) with
  | true => exact .inr rfl
  | false => exact .inl ⟨rfl, rfl⟩
def endK (P : Par) (t : TS) (k : Int) : List NT := (judgeT P t).2 ++ (if k = 3 ∧ (judgeT P t).1.st = 0 then askT P (judgeT P t).1 else [])
set_option maxRecDepth 1000000 in
set_option maxHeartbeats 8000000 in
theorem going_end (D : DP) (hD : DOk D) (hSum : SumOk D) (X B N : Nat) (k : Int) (t : TS) (A : TA) (o : List NV) (hB : B ≤ X) (hst : t.st = 0) (hr : Ris 0 t.hv) (ht : ∀ s ∈ t.hv, s.2 ≤ D.P.F) (hno : o.length ≤ 100000) (hk3 : k = 3 → t.en = true) :
    Tri Try.prog 87 (pieceOf Try.f31 [1, 1, 1]) (fun z w => z 0 = .pointer (some ⟨X, 0, none⟩) ∧ z 3 = .pointer (some ⟨N, 0, none⟩) ∧ TW D w X B t A o ∧ ∃ cs, w.heap[N]? = some (.cells cs 60) ∧ cs[0]? = some (.int .i64 k))
      (fun z w z' w' => (∃ A' vs, TW D w' X B (judgeT D.P t).1 A' (o ++ vs) ∧ vs.map (·.k) = endK D.P t k) ∧ TwS w w' B) := by
  have hF := hD.P.F
  have hln := ris_len hr ht (Nat.zero_le _)
  rintro Q z w ⟨s0, s3, hT, cs, hN, hN0⟩ hQ
  have HQ := hid hQ
  have H := hid hT
  have HR := hid hr
  have HT := hid ht
  have hj := hid (judge_both D hD hSum X B t A o w hB hT hno hst hr ht)
  clear hQ hT hr ht
  conv => arg 2; whnf
  rw [fr87]
  simp only [s0, s3]
  clear s0 s3
  refine wp_seq_k (fun K0 hK0 => ?_)
  go_wp2_with fail
  refine hj.out.mono ?_
  rintro e W ⟨⟨rfl, ⟨A1, vs1, h1, h2⟩, h3⟩, h4⟩
  rcases judge_kn D.P t with ⟨hq, hf⟩ | hq
  · rw [hq] at h1 h2 h4
    have hb := h4 rfl
    have EK : Hid (endK D.P t k = if k = 3 then askT D.P t else []) := hid (by
      unfold endK
      rw [hq]
      show [] ++ (if k = 3 ∧ t.st = 0 then _ else _) = _
      rw [List.nil_append]
      by_cases hk : k = 3
      · rw [if_pos ⟨hk, hst⟩, if_pos hk]
      · rw [if_neg (fun h => hk h.1), if_neg hk])
    rw [hq, EK.out] at HQ
    have H1 := hid (H.out.below hb)
    have S1 := hid ((TwS.refl w B).below (H.out.lt hB) hb)
    have N1 := hid (row_below hN hb)
    clear h1 h2 h3 h4 hj hb hN H hq hf EK
    go_wp2_with fail
    refine hK0.out _ _ ?_
    have c9 : W.cell? ⟨X, 9, none⟩ = some (.int .i64 0) := by rw [cell_of_row _ _ _ _ _ _ H1.out.bx, show (0 : Int) = (t.st : Int) by omega]; rfl
    have n0 : W.cell? ⟨N, 0, none⟩ = some (.int .i64 k) := by rw [cell_of_row _ _ _ _ _ _ N1.out]; exact hN0
    refine wp_seq_k (fun K1 hK1 => ?_)
    by_cases hk : k = 3
    · subst hk
      have ha := hid (ask_ok D hD X B t A o W hB H1.out (hk3 rfl) (by omega) (fun s hs => ⟨HT.out s hs, by have := HR.out.each s hs; have := HT.out s hs; omega⟩) hno)
      go_wp2_with fail
      refine hK1.out _ _ ?_
      refine wp_cond_true rfl ?_
      clear c9 n0
      go_wp2_with fail
      refine ha.out.mono ?_
      rintro e V ⟨rfl, ⟨oa, oc, vs, k1, k2⟩, k3⟩
      have K1' := hid k1
      have K2' := hid k2
      have K3' := hid (S1.out.trans k3)
      clear k1 k2 k3 ha S1
      go_wp2_with fail
      refine q_fr (N := 87) HQ.out rfl ⟨⟨_, vs, K1'.out, ?_⟩, K3'.out⟩
      rw [if_pos trivial]
      exact K2'.out
    · have d1 : (k == 3) = false := beq_eq_false_iff_ne.2 hk
      go_wp2_with fail
      refine hK1.out _ _ ?_
      refine wp_cond_false rfl ?_
      clear c9 n0
      go_wp2_with fail
      refine q_fr (N := 87) HQ.out rfl ⟨⟨A, [], ?_, ?_⟩, S1.out⟩
      · rw [List.append_nil]
        exact H1.out
      · rw [if_neg hk]
        rfl
  · rw [hq] at h1 h2
    have EK : Hid (endK D.P t k = [.nd]) := hid (by
      unfold endK
      rw [hq]
      show [NT.nd] ++ (if k = 3 ∧ 3 = 0 then _ else _) = _
      rw [if_neg (fun h => by omega)]
      rfl)
    rw [hq, EK.out] at HQ
    have H1 := hid h1
    have H2 := hid h2
    have S1 := hid h3
    clear h1 h2 h3 h4 hj hN H hq EK
    go_wp2_with fail
    refine hK0.out _ _ ?_
    have c9 : W.cell? ⟨X, 9, none⟩ = some (.int .i64 3) := by rw [cell_of_row _ _ _ _ _ _ H1.out.bx]; rfl
    refine wp_seq_k (fun K1 hK1 => ?_)
    go_wp2_with fail
    refine hK1.out _ _ ?_
    refine wp_cond_false rfl ?_
    clear c9
    go_wp2_with fail
    exact q_fr (N := 87) HQ.out rfl ⟨⟨A1, vs1, H1.out, H2.out⟩, S1.out⟩
end Go.Proofs.Ytopmamgdfngdoaa
/- deliver: a note comes while bytes come (walk 31). -/
namespace Go.Proofs.Ytopmamgdfngdoaa
set_option linter.unusedVariables false
open Go.RowKit

theorem keep_row {W : World} {X N T T' i : Nat} {cs cs' : Array Value} {v : Value} (hX : W.heap[X]? = some (.cells cs T)) (hN : W.heap[N]? = some (.cells cs' T')) (hT : T' ≠ T) : (W.setCell ⟨X, i, none⟩ v).heap[N]? = some (.cells cs' T') :=
  Stays.ofSet (set_row (cs' := cs.setIfInBounds i v) hX i v rfl).2 hX hT _ _ hN
set_option maxRecDepth 1000000 in
set_option maxHeartbeats 8000000 in
theorem going_zero (D : DP) (X B N : Nat) (t : TS) (A : TA) (o : List NV) (cs : Array Value) (hB : B ≤ X) :
    Tri Try.prog 87 (pieceOf Try.f31 [1, 0]) (fun z w => z 0 = .pointer (some ⟨X, 0, none⟩) ∧ TW D w X B t A o ∧ w.heap[N]? = some (.cells cs 60))
      (fun z w z' w' => z' 0 = .pointer (some ⟨X, 0, none⟩) ∧ z' 3 = z 3 ∧ TW D w' X B { t with tm := 0, tr := 0 } A o ∧ w'.heap[N]? = some (.cells cs 60) ∧ TwS w w' B) := by
  rintro Q z w ⟨s0, hT, hN⟩ hQ
  have HQ := hid hQ
  have c10 : w.cell? ⟨X, 10, none⟩ = some (.int .i64 (t.tm : Int)) := by rw [cell_of_row _ _ _ _ _ _ hT.bx]; rfl
  have fz10 := frozen_row hT.bx 10
  obtain ⟨k1, k2⟩ := hT.num (t' := { t with tm := 0 }) hB 10 (.int .i64 0) rfl rfl
  have c12 : (w.setCell ⟨X, 10, none⟩ (.int .i64 0)).cell? ⟨X, 12, none⟩ = some (.int .i64 (t.tr : Int)) := by rw [cell_of_row _ _ _ _ _ _ k1.bx]; rfl
  have fz12 := frozen_row k1.bx 12
  obtain ⟨l1, l2⟩ := k1.num (t' := { t with tm := 0, tr := 0 }) hB 12 (.int .i64 0) rfl rfl
  have AN := hid (keep_row (i := 12) (v := .int .i64 0) k1.bx (keep_row (i := 10) (v := .int .i64 0) hT.bx hN (by decide)) (by decide))
  have H1 := hid l1
  have S1 := hid (k2.trans l2)
  clear hQ hT hN k1 k2 l1 l2
  conv => arg 2; whnf
  rw [fr87]
  simp only [s0]
  clear s0
  go_wp2_with fail
  exact q_fr (N := 87) HQ.out rfl ⟨rfl, rfl, H1.out, AN.out, S1.out⟩
set_option maxRecDepth 1000000 in
set_option maxHeartbeats 8000000 in
theorem going_nm (D : DP) (hD : DOk D) (hSum : SumOk D) (X B : Nat) (t : TS) (A : TA) (w : World) (hB : B ≤ X) (hst : t.st = 0) (hr : Ris 0 t.hv) (ht : ∀ s ∈ t.hv, s.2 ≤ D.P.F) (hT : TW D w X B t A []) (hoa : A.oa = none) :
    Calls Try.prog 31 #[.pointer (some ⟨X, 0, none⟩), .agg #[.int .i64 1, .int .i64 7, .string logS, .int .i64 (D.P.F : Int), .int .i64 0, .int .i64 0, .slice none 0 0, .slice none 0 0, .int .i64 0, .int .i64 0]] w fun e w' => TwR D w w' X B (takeT D.P t .nm).1 (takeT D.P t .nm).2 e [] (.tuple #[]) := by
  have hF := hD.P.F
  have bN := below_alloc w (.cells #[.int .i64 1, .int .i64 7, .string logS, .int .i64 (D.P.F : Int), .int .i64 0, .int .i64 0, .slice none 0 0, .slice none 0 0, .int .i64 0, .int .i64 0] 60)
  have AN := hid (heap_alloc_new w (.cells #[.int .i64 1, .int .i64 7, .string logS, .int .i64 (D.P.F : Int), .int .i64 0, .int .i64 0, .slice none 0 0, .slice none 0 0, .int .i64 0, .int .i64 0] 60))
  have H := hid (hT.below bN)
  have S := hid ((TwS.refl w B).below (hT.lt hB) bN)
  have HR := hid hr
  have HT := hid ht
  have ET : Hid (takeT D.P t .nm = judgeT D.P { t with tm := 0, tr := 0, kn := true }) := hid (by unfold takeT; rw [if_pos hst])
  clear hT hr ht bN
  go_enter Try.func31, Try.ntmps31
  refine wp_seq_k (fun K0 hK0 => ?_)
  go_wp2_with fail
  refine hK0.out _ _ ?_
  obtain ⟨N, hN⟩ : ∃ N, N = w.heap.size := ⟨_, rfl⟩
  rw [← hN] at AN ⊢
  clear hN
  generalize w.alloc (.cells #[.int .i64 1, .int .i64 7, .string logS, .int .i64 (D.P.F : Int), .int .i64 0, .int .i64 0, .slice none 0 0, .slice none 0 0, .int .i64 0, .int .i64 0] 60) = V at *
  refine wp_seq_k (fun K1 hK1 => ?_)
  refine use_fr (N := 87) rfl ?_
  refine Tri.use (going_zero D X B N t A [] _ hB) rfl ⟨rfl, H.out, AN.out⟩ ?_
  rintro y1 V1 ⟨q0, q3, h1, h2, h3⟩
  have q3' : y1 3 = .pointer (some ⟨N, 0, none⟩) := q3
  have H1 := hid h1
  have A1 := hid h2
  have S1 := hid (S.out.trans h3)
  clear h1 h2 h3 q3 H S AN
  refine hK1.out _ _ ?_
  rw [fr87]
  simp only [q0, q3']
  clear q0 q3'
  refine wp_seq_k (fun K2 hK2 => ?_)
  have n0 : V1.cell? ⟨N, 0, none⟩ = some (.int .i64 1) := by rw [cell_of_row _ _ _ _ _ _ A1.out]; rfl
  refine wp_seq_k (fun K3 hK3 => ?_)
  go_wp2_with fail
  refine hK3.out _ _ ?_
  clear n0
  refine wp_block ?_
  refine wp_seq_k (fun K4 hK4 => ?_)
  go_wp2_with fail
  refine hK4.out _ _ ?_
  refine wp_cond_true rfl ?_
  have c1 : V1.cell? ⟨X, 1, none⟩ = some (.bool t.kn) := by rw [cell_of_row _ _ _ _ _ _ H1.out.bx]; rfl
  refine wp_seq_k (fun K5 hK5 => ?_)
  cases hkn : t.kn with
  | true =>
    rw [hkn] at c1
    have et : ({ t with tm := 0, tr := 0, kn := true } : TS) = { t with tm := 0, tr := 0 } := by
      rw [← hkn]
    rw [et] at ET
    go_wp2_with fail
    refine hK5.out _ _ ?_
    refine wp_cond_false rfl ?_
    clear c1
    go_wp2_with fail
    refine hK2.out _ _ ?_
    refine use_fr (N := 87) rfl ?_
    refine Tri.use (going_end D hD hSum X B N 1 { t with tm := 0, tr := 0 } A [] hB hst HR.out HT.out (Nat.zero_le _) (fun h => by omega)) rfl ⟨rfl, rfl, H1.out, _, A1.out, rfl⟩ ?_
    rintro y2 V2 ⟨⟨A', vs, e1, e2⟩, e3⟩
    have E1 := hid e1
    have E2 := hid e2
    have E3 := hid (S1.out.trans e3)
    clear e1 e2 e3
    go_end0
    rw [ET.out]
    refine ⟨rfl, ⟨A', vs, E1.out, ?_⟩, E3.out⟩
    rw [E2.out]
    unfold endK
    rw [if_neg (fun h => by omega), List.append_nil]
  | false =>
    rw [hkn] at c1
    go_wp2_with fail
    refine hK5.out _ _ ?_
    refine wp_cond_true rfl ?_
    clear c1
    refine wp_region_can 19 [10, 14, 18] [0, 1, 2, 3, 4, 5, 6, 7, 8, 9, 10, 11, 12, 13, 14, 15, 16, 17, 18] (fun u u' => u.grownBy u' (some X)) (fun u => World.grownBy.refl u _) (fun _ _ _ h k => grownBy_trans h k) (by kernel_rfl) (by kernel_rfl) ?_
    simp only [List.map_cons, List.map_nil, List.contains_cons, List.contains_nil, List.getD_cons_zero, List.getD_cons_succ, Nat.reduceBEq, Bool.or_false, Bool.or_true]
    have hdr := (Below.refl V1.heap.size V1).drew
    have A2 := hid (row_below A1.out hdr)
    have H2 := hid (H1.out.below hdr)
    have S2 := hid (S1.out.below (H1.out.lt hB) hdr)
    clear hdr A1 H1 S1
    generalize V1.drew = U at *
    have hNX : N ≠ X := fun e => by
      have h1 := A2.out
      rw [e, H2.out.bx] at h1
      injection h1 with h1
      injection h1 with _ h1
      cases h1
    have hNU := row_lt A2.out
    have hN3 : ∀ w' : World, U.grownBy w' (some X) → w'.heap[N]? = _ := fun w' h => (h.block N hNU (fun e => by cases e; exact hNX rfl)).trans A2.out
    have n2 : ∀ w' : World, U.grownBy w' (some X) → w'.cell? ⟨N, 2, none⟩ = some (.string logS) := fun w' h => by rw [cell_of_row _ _ _ _ _ _ (hN3 w' h)]; rfl
    have n3 : ∀ w' : World, U.grownBy w' (some X) → w'.cell? ⟨N, 3, none⟩ = some (.int .i64 (D.P.F : Int)) := fun w' h => by rw [cell_of_row _ _ _ _ _ _ (hN3 w' h)]; rfl
    clear hN3
    iterate 10 (refine wpL_do rfl (fun w' hw' => (by go_simp; rfl)) ?_; simp only [Act.put, List.setIfInBounds_toArray, List.set_cons_succ, List.set_cons_zero])
    clear n2 n3
    -- three stores
    have c1 : U.cell? ⟨X, 1, none⟩ = some (.bool false) := by rw [cell_of_row _ _ _ _ _ _ H2.out.bx, ← hkn]; rfl
    have fz := frozen_row H2.out.bx 1
    obtain ⟨m1, m2⟩ := set_row (cs' := (twc D { t with tm := 0, tr := 0 } A t.hv.length (topH t.hv) 0).setIfInBounds 1 (.bool true)) H2.out.bx 1 (.bool true) rfl
    refine wpL_call rfl (fun K hK => ?_)
    go_wp2_with fail
    refine hK _ _ m2 ?_
    clear hK K c1 fz
    try simp only [Act.put, List.setIfInBounds_toArray, List.set_cons_succ, List.set_cons_zero]
    have hU1 : Hid ((U.setCell ⟨X, 1, none⟩ (.bool true)).heap[X]? = _) := hid m1
    have g1 := hid m2
    clear m1 m2
    generalize U.setCell ⟨X, 1, none⟩ (.bool true) = U1 at *
    iterate 3 (refine wpL_do rfl (fun w' hw' => (by go_simp; rfl)) ?_; simp only [Act.put, List.setIfInBounds_toArray, List.set_cons_succ, List.set_cons_zero])
    have c2 : U1.cell? ⟨X, 2, none⟩ = some (.string emS) := by
      rw [cell_of_row _ _ _ _ _ _ hU1.out]
      unfold twc
      dsimp only
      rw [hkn]
      rfl
    have fz := frozen_row hU1.out 2
    obtain ⟨m1, m2⟩ := set_row (cs' := ((twc D { t with tm := 0, tr := 0 } A t.hv.length (topH t.hv) 0).setIfInBounds 1 (.bool true)).setIfInBounds 2 (.string logS)) hU1.out 2 (.string logS) rfl
    refine wpL_call rfl (fun K hK => ?_)
    go_wp2_with fail
    refine hK _ _ m2 ?_
    clear hK K c2 fz
    try simp only [Act.put, List.setIfInBounds_toArray, List.set_cons_succ, List.set_cons_zero]
    have hU2 : Hid ((U1.setCell ⟨X, 2, none⟩ (.string logS)).heap[X]? = _) := hid m1
    have g2 := hid m2
    clear m1 m2 hU1
    generalize U1.setCell ⟨X, 2, none⟩ (.string logS) = U2 at *
    iterate 3 (refine wpL_do rfl (fun w' hw' => (by go_simp; rfl)) ?_; simp only [Act.put, List.setIfInBounds_toArray, List.set_cons_succ, List.set_cons_zero])
    have c3 : U2.cell? ⟨X, 3, none⟩ = some (.int .i64 0) := by
      rw [cell_of_row _ _ _ _ _ _ hU2.out]
      unfold twc
      dsimp only
      rw [hkn]
      rfl
    have fz := frozen_row hU2.out 3
    obtain ⟨m1, m2⟩ := set_row (cs' := twc D { t with tm := 0, tr := 0, kn := true } A t.hv.length (topH t.hv) 0) hU2.out 3 (.int .i64 (D.P.F : Int)) rfl
    refine wpL_call rfl (fun K hK => ?_)
    go_wp2_with fail
    refine hK _ _ m2 ?_
    clear hK K c3 fz
    try simp only [Act.put, List.setIfInBounds_toArray, List.set_cons_succ, List.set_cons_zero]
    have hU3 : Hid ((U2.setCell ⟨X, 3, none⟩ (.int .i64 (D.P.F : Int))).heap[X]? = _) := hid m1
    have g3 := hid (grownBy_trans g1.out (grownBy_trans g2.out m2))
    clear m1 m2 hU2 g1 g2
    generalize U2.setCell ⟨X, 3, none⟩ (.int .i64 (D.P.F : Int)) = U3 at *
    have H3 := hid (H2.out.set (t' := { t with tm := 0, tr := 0, kn := true }) (A' := A) g3.out hU3.out rfl rfl H2.out.f H2.out.h)
    have S3 := hid (S2.out.set hB H2.out.bx g3.out)
    have A3 := hid ((g3.out.block N hNU (fun e => by cases e; exact hNX rfl)).trans A2.out)
    clear hU3 g3 H2 S2 A2
    refine wpL_nil ?_
    refine hK2.out _ _ ?_
    refine use_fr (N := 87) rfl ?_
    refine Tri.use (going_end D hD hSum X B N 1 { t with tm := 0, tr := 0, kn := true } A [] hB hst HR.out HT.out (Nat.zero_le _) (fun h => by omega)) rfl ⟨rfl, rfl, H3.out, _, A3.out, rfl⟩ ?_
    rintro y2 V2 ⟨⟨A', vs, e1, e2⟩, e3⟩
    have E1 := hid e1
    have E2 := hid e2
    have E3 := hid (S3.out.trans e3)
    clear e1 e2 e3
    go_end0
    rw [ET.out]
    refine ⟨rfl, ⟨A', vs, E1.out, ?_⟩, E3.out⟩
    rw [E2.out]
    unfold endK
    rw [if_neg (fun h => by omega), List.append_nil]
set_option maxRecDepth 1000000 in
set_option maxHeartbeats 8000000 in
theorem going_sd (D : DP) (hD : DOk D) (hSum : SumOk D) (X B : Nat) (t : TS) (A : TA) (w : World) (hB : B ≤ X) (hst : t.st = 0) (hr : Ris 0 t.hv) (ht : ∀ s ∈ t.hv, s.2 ≤ D.P.F) (hT : TW D w X B t A []) (hoa : A.oa = none) :
    Calls Try.prog 31 #[.pointer (some ⟨X, 0, none⟩), .agg #[.int .i64 6, .int .i64 7, .string emS, .int .i64 0, .int .i64 0, .int .i64 0, .slice none 0 0, .slice none 0 0, .int .i64 5, .int .i64 0]] w fun e w' => TwR D w w' X B (takeT D.P t .sd).1 (takeT D.P t .sd).2 e [] (.tuple #[]) := by
  have hF := hD.P.F
  have bN := below_alloc w (.cells #[.int .i64 6, .int .i64 7, .string emS, .int .i64 0, .int .i64 0, .int .i64 0, .slice none 0 0, .slice none 0 0, .int .i64 5, .int .i64 0] 60)
  have AN := hid (heap_alloc_new w (.cells #[.int .i64 6, .int .i64 7, .string emS, .int .i64 0, .int .i64 0, .int .i64 0, .slice none 0 0, .slice none 0 0, .int .i64 5, .int .i64 0] 60))
  have H := hid (hT.below bN)
  have S := hid ((TwS.refl w B).below (hT.lt hB) bN)
  have HR := hid hr
  have HT := hid ht
  have ET : Hid (takeT D.P t .sd = judgeT D.P { t with tm := 0, tr := 0 }) := hid (by unfold takeT; rw [if_pos hst])
  clear hT hr ht bN
  go_enter Try.func31, Try.ntmps31
  refine wp_seq_k (fun K0 hK0 => ?_)
  go_wp2_with fail
  refine hK0.out _ _ ?_
  obtain ⟨N, hN⟩ : ∃ N, N = w.heap.size := ⟨_, rfl⟩
  rw [← hN] at AN ⊢
  clear hN
  generalize w.alloc (.cells #[.int .i64 6, .int .i64 7, .string emS, .int .i64 0, .int .i64 0, .int .i64 0, .slice none 0 0, .slice none 0 0, .int .i64 5, .int .i64 0] 60) = V at *
  refine wp_seq_k (fun K1 hK1 => ?_)
  refine use_fr (N := 87) rfl ?_
  refine Tri.use (going_zero D X B N t A [] _ hB) rfl ⟨rfl, H.out, AN.out⟩ ?_
  rintro y1 V1 ⟨q0, q3, h1, h2, h3⟩
  have q3' : y1 3 = .pointer (some ⟨N, 0, none⟩) := q3
  have H1 := hid h1
  have A1 := hid h2
  have S1 := hid (S.out.trans h3)
  clear h1 h2 h3 q3 H S AN
  refine hK1.out _ _ ?_
  rw [fr87]
  simp only [q0, q3']
  clear q0 q3'
  refine wp_seq_k (fun K2 hK2 => ?_)
  have n0 : V1.cell? ⟨N, 0, none⟩ = some (.int .i64 6) := by rw [cell_of_row _ _ _ _ _ _ A1.out]; rfl
  refine wp_seq_k (fun K3 hK3 => ?_)
  go_wp2_with fail
  refine hK3.out _ _ ?_
  clear n0
  refine wp_block ?_
  refine wp_seq_k (fun K4 hK4 => ?_)
  go_wp2_with fail
  refine hK4.out _ _ ?_
  refine wp_cond_false rfl ?_
  refine wp_seq_k (fun K5 hK5 => ?_)
  go_wp2_with fail
  refine hK5.out _ _ ?_
  refine wp_cond_false rfl ?_
  refine wp_seq_k (fun K6 hK6 => ?_)
  go_wp2_with fail
  refine hK6.out _ _ ?_
  refine wp_cond_false rfl ?_
  go_wp2_with fail
  refine hK2.out _ _ ?_
  refine use_fr (N := 87) rfl ?_
  refine Tri.use (going_end D hD hSum X B N 6 { t with tm := 0, tr := 0 } A [] hB hst HR.out HT.out (Nat.zero_le _) (fun h => by omega)) rfl ⟨rfl, rfl, H1.out, _, A1.out, rfl⟩ ?_
  rintro y2 V2 ⟨⟨A', vs, e1, e2⟩, e3⟩
  have E1 := hid e1
  have E2 := hid e2
  have E3 := hid (S1.out.trans e3)
  clear e1 e2 e3
  go_end0
  rw [ET.out]
  refine ⟨rfl, ⟨A', vs, E1.out, ?_⟩, E3.out⟩
  rw [E2.out]
  unfold endK
  rw [if_neg (fun h => by omega), List.append_nil]
end Go.Proofs.Ytopmamgdfngdoaa
/- deliver: a note comes while bytes come (walk 31): a piece, the end. -/
namespace Go.Proofs.Ytopmamgdfngdoaa
set_option linter.unusedVariables false
open Go.RowKit

set_option maxRecDepth 1000000 in
set_option maxHeartbeats 8000000 in
theorem going_np (D : DP) (hD : DOk D) (hSum : SumOk D) (X B : Nat) (t : TS) (A : TA) (w : World) (hB : B ≤ X) (hst : t.st = 0) (hr : Ris 0 t.hv) (ht : ∀ s ∈ t.hv, s.2 ≤ D.P.F) (hT : TW D w X B t A []) (hoa : A.oa = none) (x y dn dc : Nat) (da : Option Addr) (hdn : dn = y - x) (hxy : x < y) (hy : y ≤ D.P.F) (hda : RdT 5 w da (y - x) dc (vb (sub D.fl x y))) :
    Calls Try.prog 31 #[.pointer (some ⟨X, 0, none⟩), .agg #[.int .i64 2, .int .i64 7, .string emS, .int .i64 0, .int .i64 0, .int .i64 (x : Int), .slice da dn dc, .slice none 0 0, .int .i64 0, .int .i64 0]] w fun e w' => TwR D w w' X B (takeT D.P t (.np x y)).1 (takeT D.P t (.np x y)).2 e [] (.tuple #[]) := by
  have hF := hD.P.F
  have bN := below_alloc w (.cells #[.int .i64 2, .int .i64 7, .string emS, .int .i64 0, .int .i64 0, .int .i64 (x : Int), .slice da dn dc, .slice none 0 0, .int .i64 0, .int .i64 0] 60)
  have AN := hid (heap_alloc_new w (.cells #[.int .i64 2, .int .i64 7, .string emS, .int .i64 0, .int .i64 0, .int .i64 (x : Int), .slice da dn dc, .slice none 0 0, .int .i64 0, .int .i64 0] 60))
  have H := hid (hT.below bN)
  have S := hid ((TwS.refl w B).below (hT.lt hB) bN)
  have HR := hid hr
  have HDn := hid hdn
  have HDa := hid hda
  clear hdn hda
  have HT := hid ht
  have ET : Hid (takeT D.P t (.np x y) = judgeT D.P { t with tm := 0, tr := 0, hv := layH (x, y) t.hv }) := hid (by unfold takeT; rw [if_pos hst])
  clear hT hr ht bN
  go_enter Try.func31, Try.ntmps31
  refine wp_seq_k (fun K0 hK0 => ?_)
  go_wp2_with fail
  refine hK0.out _ _ ?_
  obtain ⟨N, hN⟩ : ∃ N, N = w.heap.size := ⟨_, rfl⟩
  rw [← hN] at AN ⊢
  clear hN
  generalize w.alloc (.cells #[.int .i64 2, .int .i64 7, .string emS, .int .i64 0, .int .i64 0, .int .i64 (x : Int), .slice da dn dc, .slice none 0 0, .int .i64 0, .int .i64 0] 60) = V at *
  refine wp_seq_k (fun K1 hK1 => ?_)
  refine use_fr (N := 87) rfl ?_
  refine Tri.use (going_zero D X B N t A [] _ hB) rfl ⟨rfl, H.out, AN.out⟩ ?_
  rintro y1 V1 ⟨q0, q3, h1, h2, h3⟩
  have q3' : y1 3 = .pointer (some ⟨N, 0, none⟩) := q3
  have H1 := hid h1
  have A1 := hid h2
  have S1 := hid (S.out.trans h3)
  clear h1 h2 h3 q3 H S AN
  refine hK1.out _ _ ?_
  rw [fr87]
  simp only [q0, q3']
  clear q0 q3'
  refine wp_seq_k (fun K2 hK2 => ?_)
  have n0 : V1.cell? ⟨N, 0, none⟩ = some (.int .i64 2) := by rw [cell_of_row _ _ _ _ _ _ A1.out]; rfl
  refine wp_seq_k (fun K3 hK3 => ?_)
  go_wp2_with fail
  refine hK3.out _ _ ?_
  clear n0
  refine wp_block ?_
  refine wp_seq_k (fun K4 hK4 => ?_)
  go_wp2_with fail
  refine hK4.out _ _ ?_
  refine wp_cond_false rfl ?_
  refine wp_seq_k (fun K5 hK5 => ?_)
  go_wp2_with fail
  refine hK5.out _ _ ?_
  refine wp_cond_true rfl ?_
  have n5 : V1.cell? ⟨N, 5, none⟩ = some (.int .i64 (x : Int)) := by rw [cell_of_row _ _ _ _ _ _ A1.out]; rfl
  have n6 : V1.cell? ⟨N, 6, none⟩ = some (.slice da dn dc) := by rw [cell_of_row _ _ _ _ _ _ A1.out]; rfl
  have hlen := ris_len HR.out HT.out (Nat.zero_le _)
  have hly := hid (lay_ok D hD X B x y { t with tm := 0, tr := 0 } A [] da dc V1 hB H1.out (HDn.out ▸ HDa.out.stays (S1.out.st 5 (by decide) (by decide))) hxy hy HR.out HT.out (show t.hv.length ≤ 90000 by omega))
  rw [← HDn.out] at hly
  go_wp2_with fail
  refine hly.out.mono ?_
  rintro e V2 ⟨rfl, ⟨ha, hc, fa, fc, e1⟩, e2, e3⟩
  have H2 := hid e1
  have S2 := hid (S1.out.trans e2)
  have A2 := hid (e3 _ _ A1.out)
  have HR2 := hid (lay_ris t.hv (x, y) 0 (Nat.zero_le _) hxy HR.out)
  have HT2 := hid (lay_top t.hv (x, y) D.P.F hy HT.out)
  clear e1 e2 e3 hly H1 S1 A1 n5 n6
  go_wp2_with fail
  refine hK2.out _ _ ?_
  refine use_fr (N := 87) rfl ?_
  refine Tri.use (going_end D hD hSum X B N 2 { t with tm := 0, tr := 0, hv := layH (x, y) t.hv } _ [] hB hst HR2.out HT2.out (Nat.zero_le _) (fun h => by omega)) rfl ⟨rfl, rfl, H2.out, _, A2.out, rfl⟩ ?_
  rintro y2 V2 ⟨⟨A', vs, e1, e2⟩, e3⟩
  have E1 := hid e1
  have E2 := hid e2
  have E3 := hid (S2.out.trans e3)
  clear e1 e2 e3
  go_end0
  rw [ET.out]
  refine ⟨rfl, ⟨A', vs, E1.out, ?_⟩, E3.out⟩
  rw [E2.out]
  unfold endK
  rw [if_neg (fun h => by omega), List.append_nil]
end Go.Proofs.Ytopmamgdfngdoaa
/- deliver: a note comes while bytes come (walk 31): the end. -/
namespace Go.Proofs.Ytopmamgdfngdoaa
set_option linter.unusedVariables false
open Go.RowKit

theorem end_eq (P : Par) (t : TS) : .se :: endK P t 3 = (ending P t).2 := by
  unfold endK ending
  by_cases h : (judgeT P t).1.st = 0
  · rw [if_pos ⟨rfl, h⟩, if_pos h]
  · rw [if_neg (fun k => h k.2), if_neg h]
set_option maxRecDepth 1000000 in
set_option maxHeartbeats 4000000 in
theorem seen_nil (D : DP) (X B : Nat) (t : TS) (A : TA) (w : World) (hB : B ≤ X) (h : TW D w X B t A []) (hoa : A.oa = none) :
    Calls Try.prog 32 #[.pointer (some ⟨X, 0, none⟩)] w fun e w' => (∃ oa oc, TW D w' X B t { A with oa := oa, oc := oc } [⟨.se, none, 0⟩]) ∧ TwS w w' B ∧ (∀ N, N < w.heap.size → N ≠ X → w'.heap[N]? = w.heap[N]?) ∧ e = .returned (.tuple #[]) := by
  have H := hid h
  have hs := hid (say46_ok D X B (twc D t A t.hv.length (topH t.hv) 0) [] ⟨.se, none, 0⟩ A.oa A.oc w hB h.bx rfl rfl h.ow (Nat.zero_le _))
  clear h
  go_enter Try.func32, Try.ntmps32
  go_wp2_with fail
  refine (Calls.mono hs.out ?_)
  intro e w' hs'
  have he := hs'.he
  subst he
  obtain ⟨oa', oc', k1, k2⟩ := H.out.said (v := ⟨.se, none, 0⟩) trivial hs'
  have K1 := hid k1
  have K2 := hid k2
  have K3 := hid (fun N (h1 : N < w.heap.size) (h2 : N ≠ X) => hs'.nb (.slice A.oa 0 A.oc) rfl N h1 h2 (by rw [hoa]; intro e; cases e))
  clear hs' hs k1 k2
  go_wp2_with fail
  go_end0
  exact ⟨⟨oa', oc', K1.out⟩, K2.out, K3.out, rfl⟩
set_option maxRecDepth 1000000 in
set_option maxHeartbeats 8000000 in
theorem going_ne (D : DP) (hD : DOk D) (hSum : SumOk D) (X B : Nat) (t : TS) (A : TA) (w : World) (hB : B ≤ X) (hst : t.st = 0) (hr : Ris 0 t.hv) (ht : ∀ s ∈ t.hv, s.2 ≤ D.P.F) (hT : TW D w X B t A []) (hoa : A.oa = none) :
    Calls Try.prog 31 #[.pointer (some ⟨X, 0, none⟩), .agg #[.int .i64 3, .int .i64 7, .string emS, .int .i64 (D.P.F : Int), .int .i64 (D.s : Int), .int .i64 0, .slice none 0 0, .slice none 0 0, .int .i64 0, .int .i64 0]] w fun e w' => TwR D w w' X B (takeT D.P t .ne).1 (takeT D.P t .ne).2 e [] (.tuple #[]) := by
  have hF := hD.P.F
  have bN := below_alloc w (.cells #[.int .i64 3, .int .i64 7, .string emS, .int .i64 (D.P.F : Int), .int .i64 (D.s : Int), .int .i64 0, .slice none 0 0, .slice none 0 0, .int .i64 0, .int .i64 0] 60)
  have AN := hid (heap_alloc_new w (.cells #[.int .i64 3, .int .i64 7, .string emS, .int .i64 (D.P.F : Int), .int .i64 (D.s : Int), .int .i64 0, .slice none 0 0, .slice none 0 0, .int .i64 0, .int .i64 0] 60))
  have H := hid (hT.below bN)
  have S := hid ((TwS.refl w B).below (hT.lt hB) bN)
  have HR := hid hr
  have HT := hid ht
  have ET : Hid (takeT D.P t .ne = ending D.P { t with tm := 0, tr := 0, en := true }) := hid (by unfold takeT; rw [if_pos hst])
  clear hT hr ht bN
  go_enter Try.func31, Try.ntmps31
  refine wp_seq_k (fun K0 hK0 => ?_)
  go_wp2_with fail
  refine hK0.out _ _ ?_
  obtain ⟨N, hN⟩ : ∃ N, N = w.heap.size := ⟨_, rfl⟩
  rw [← hN] at AN ⊢
  clear hN
  generalize w.alloc (.cells #[.int .i64 3, .int .i64 7, .string emS, .int .i64 (D.P.F : Int), .int .i64 (D.s : Int), .int .i64 0, .slice none 0 0, .slice none 0 0, .int .i64 0, .int .i64 0] 60) = V at *
  refine wp_seq_k (fun K1 hK1 => ?_)
  refine use_fr (N := 87) rfl ?_
  refine Tri.use (going_zero D X B N t A [] _ hB) rfl ⟨rfl, H.out, AN.out⟩ ?_
  rintro y1 V1 ⟨q0, q3, h1, h2, h3⟩
  have q3' : y1 3 = .pointer (some ⟨N, 0, none⟩) := q3
  have H1 := hid h1
  have A1 := hid h2
  have S1 := hid (S.out.trans h3)
  clear h1 h2 h3 q3 H S AN
  refine hK1.out _ _ ?_
  rw [fr87]
  simp only [q0, q3']
  clear q0 q3'
  refine wp_seq_k (fun K2 hK2 => ?_)
  have n0 : V1.cell? ⟨N, 0, none⟩ = some (.int .i64 3) := by rw [cell_of_row _ _ _ _ _ _ A1.out]; rfl
  refine wp_seq_k (fun K3 hK3 => ?_)
  go_wp2_with fail
  refine hK3.out _ _ ?_
  clear n0
  refine wp_block ?_
  refine wp_seq_k (fun K4 hK4 => ?_)
  go_wp2_with fail
  refine hK4.out _ _ ?_
  refine wp_cond_false rfl ?_
  refine wp_seq_k (fun K5 hK5 => ?_)
  go_wp2_with fail
  refine hK5.out _ _ ?_
  refine wp_cond_false rfl ?_
  refine wp_seq_k (fun K6 hK6 => ?_)
  go_wp2_with fail
  refine hK6.out _ _ ?_
  refine wp_cond_true rfl ?_
  refine wp_seq_k (fun K7 hK7 => ?_)
  have hsn := hid (seen_nil D X B { t with tm := 0, tr := 0 } A V1 hB H1.out hoa)
  go_wp2_with fail
  refine hsn.out.mono ?_
  rintro e V2 ⟨⟨oa, oc, e1⟩, e2, e3, rfl⟩
  have hNX : N ≠ X := fun e => by
    have h1 := A1.out
    rw [e, H1.out.bx] at h1
    injection h1 with h1
    injection h1 with _ h1
    cases h1
  have A3 := hid ((e3 N (row_lt A1.out) hNX).trans A1.out)
  have H3 := hid e1
  have S3 := hid (S1.out.trans e2)
  clear e1 e2 e3 hsn A1 H1 S1 hNX
  go_wp2_with fail
  refine hK7.out _ _ ?_
  have c4 : V2.cell? ⟨X, 4, none⟩ = some (.bool t.en) := by rw [cell_of_row _ _ _ _ _ _ H3.out.bx]; rfl
  refine wp_seq_k (fun K8 hK8 => ?_)
  cases hen : t.en with
  | true =>
    rw [hen] at c4
    have et : ({ t with tm := 0, tr := 0, en := true } : TS) = { t with tm := 0, tr := 0 } := by
      rw [← hen]
    rw [et] at ET
    go_wp2_with fail
    refine hK8.out _ _ ?_
    refine wp_cond_false rfl ?_
    clear c4
    go_wp2_with fail
    refine hK2.out _ _ ?_
    refine use_fr (N := 87) rfl ?_
    refine Tri.use (going_end D hD hSum X B N 3 { t with tm := 0, tr := 0 } _ _ hB hst HR.out HT.out (by show 1 ≤ 100000; omega) (fun _ => hen)) rfl ⟨rfl, rfl, H3.out, _, A3.out, rfl⟩ ?_
    rintro y2 W2 ⟨⟨A', vs, e1, e2⟩, e3⟩
    have E1 := hid e1
    have E2 := hid e2
    have E3 := hid (S3.out.trans e3)
    clear e1 e2 e3
    go_end0
    rw [ET.out]
    refine ⟨rfl, ⟨A', ⟨.se, none, 0⟩ :: vs, E1.out, ?_⟩, E3.out⟩
    rw [List.map_cons, E2.out]
    exact end_eq _ _
  | false =>
    rw [hen] at c4
    go_wp2_with fail
    refine hK8.out _ _ ?_
    refine wp_cond_true rfl ?_
    clear c4
    refine wp_region_can 19 [10, 14, 18] [0, 1, 2, 3, 4, 5, 6, 7, 8, 9, 10, 11, 12, 13, 14, 15, 16, 17, 18] (fun u u' => u.grownBy u' (some X)) (fun u => World.grownBy.refl u _) (fun _ _ _ h k => grownBy_trans h k) (by kernel_rfl) (by kernel_rfl) ?_
    simp only [List.map_cons, List.map_nil, List.contains_cons, List.contains_nil, List.getD_cons_zero, List.getD_cons_succ, Nat.reduceBEq, Bool.or_false, Bool.or_true]
    have hdr := (Below.refl V2.heap.size V2).drew
    have A4 := hid (row_below A3.out hdr)
    have H4 := hid (H3.out.below hdr)
    have S4 := hid (S3.out.below (H3.out.lt hB) hdr)
    clear hdr A3 H3 S3
    generalize V2.drew = U at *
    have hNX : N ≠ X := fun e => by
      have h1 := A4.out
      rw [e, H4.out.bx] at h1
      injection h1 with h1
      injection h1 with _ h1
      cases h1
    have hNU := row_lt A4.out
    have hN3 : ∀ w' : World, U.grownBy w' (some X) → w'.heap[N]? = _ := fun w' h => (h.block N hNU (fun e => by cases e; exact hNX rfl)).trans A4.out
    have n3 : ∀ w' : World, U.grownBy w' (some X) → w'.cell? ⟨N, 3, none⟩ = some (.int .i64 (D.P.F : Int)) := fun w' h => by rw [cell_of_row _ _ _ _ _ _ (hN3 w' h)]; rfl
    have n4 : ∀ w' : World, U.grownBy w' (some X) → w'.cell? ⟨N, 4, none⟩ = some (.int .i64 (D.s : Int)) := fun w' h => by rw [cell_of_row _ _ _ _ _ _ (hN3 w' h)]; rfl
    clear hN3
    iterate 10 (refine wpL_do rfl (fun w' hw' => (by go_simp; rfl)) ?_; simp only [Act.put, List.setIfInBounds_toArray, List.set_cons_succ, List.set_cons_zero])
    clear n3 n4
    -- three stores
    have c1 : U.cell? ⟨X, 4, none⟩ = some (.bool false) := by rw [cell_of_row _ _ _ _ _ _ H4.out.bx, ← hen]; rfl
    have fz := frozen_row H4.out.bx 4
    obtain ⟨m1, m2⟩ := set_row (cs' := (twc D { t with tm := 0, tr := 0 } { A with oa := oa, oc := oc } t.hv.length (topH t.hv) 1).setIfInBounds 4 (.bool true)) H4.out.bx 4 (.bool true) rfl
    refine wpL_call rfl (fun K hK => ?_)
    go_wp2_with fail
    refine hK _ _ m2 ?_
    clear hK K c1 fz
    try simp only [Act.put, List.setIfInBounds_toArray, List.set_cons_succ, List.set_cons_zero]
    have hU1 : Hid ((U.setCell ⟨X, 4, none⟩ (.bool true)).heap[X]? = _) := hid m1
    have g1 := hid m2
    clear m1 m2
    generalize U.setCell ⟨X, 4, none⟩ (.bool true) = U1 at *
    iterate 3 (refine wpL_do rfl (fun w' hw' => (by go_simp; rfl)) ?_; simp only [Act.put, List.setIfInBounds_toArray, List.set_cons_succ, List.set_cons_zero])
    have c2 : U1.cell? ⟨X, 5, none⟩ = some (.int .i64 0) := by
      rw [cell_of_row _ _ _ _ _ _ hU1.out]
      unfold twc
      dsimp only
      rw [hen]
      rfl
    have fz := frozen_row hU1.out 5
    obtain ⟨m1, m2⟩ := set_row (cs' := ((twc D { t with tm := 0, tr := 0 } { A with oa := oa, oc := oc } t.hv.length (topH t.hv) 1).setIfInBounds 4 (.bool true)).setIfInBounds 5 (.int .i64 (D.P.F : Int))) hU1.out 5 (.int .i64 (D.P.F : Int)) rfl
    refine wpL_call rfl (fun K hK => ?_)
    go_wp2_with fail
    refine hK _ _ m2 ?_
    clear hK K c2 fz
    try simp only [Act.put, List.setIfInBounds_toArray, List.set_cons_succ, List.set_cons_zero]
    have hU2 : Hid ((U1.setCell ⟨X, 5, none⟩ (.int .i64 (D.P.F : Int))).heap[X]? = _) := hid m1
    have g2 := hid m2
    clear m1 m2 hU1
    generalize U1.setCell ⟨X, 5, none⟩ (.int .i64 (D.P.F : Int)) = U2 at *
    iterate 3 (refine wpL_do rfl (fun w' hw' => (by go_simp; rfl)) ?_; simp only [Act.put, List.setIfInBounds_toArray, List.set_cons_succ, List.set_cons_zero])
    have c3 : U2.cell? ⟨X, 6, none⟩ = some (.int .i64 0) := by
      rw [cell_of_row _ _ _ _ _ _ hU2.out]
      unfold twc
      dsimp only
      rw [hen]
      rfl
    have fz := frozen_row hU2.out 6
    obtain ⟨m1, m2⟩ := set_row (cs' := twc D { t with tm := 0, tr := 0, en := true } { A with oa := oa, oc := oc } t.hv.length (topH t.hv) 1) hU2.out 6 (.int .i64 (D.s : Int)) rfl
    refine wpL_call rfl (fun K hK => ?_)
    go_wp2_with fail
    refine hK _ _ m2 ?_
    clear hK K c3 fz
    try simp only [Act.put, List.setIfInBounds_toArray, List.set_cons_succ, List.set_cons_zero]
    have hU3 : Hid ((U2.setCell ⟨X, 6, none⟩ (.int .i64 (D.s : Int))).heap[X]? = _) := hid m1
    have g3 := hid (grownBy_trans g1.out (grownBy_trans g2.out m2))
    clear m1 m2 hU2 g1 g2
    generalize U2.setCell ⟨X, 6, none⟩ (.int .i64 (D.s : Int)) = U3 at *
    have H5 := hid (H4.out.set (t' := { t with tm := 0, tr := 0, en := true }) (A' := { A with oa := oa, oc := oc }) g3.out hU3.out rfl rfl H4.out.f H4.out.h)
    have S5 := hid (S4.out.set hB H4.out.bx g3.out)
    have A5 := hid ((g3.out.block N hNU (fun e => by cases e; exact hNX rfl)).trans A4.out)
    clear hU3 g3 H4 S4 A4
    refine wpL_nil ?_
    refine hK2.out _ _ ?_
    refine use_fr (N := 87) rfl ?_
    refine Tri.use (going_end D hD hSum X B N 3 { t with tm := 0, tr := 0, en := true } _ _ hB hst HR.out HT.out (by show 1 ≤ 100000; omega) (fun _ => rfl)) rfl ⟨rfl, rfl, H5.out, _, A5.out, rfl⟩ ?_
    rintro y2 W2 ⟨⟨A', vs, e1, e2⟩, e3⟩
    have E1 := hid e1
    have E2 := hid e2
    have E3 := hid (S5.out.trans e3)
    clear e1 e2 e3
    go_end0
    rw [ET.out]
    refine ⟨rfl, ⟨A', ⟨.se, none, 0⟩ :: vs, E1.out, ?_⟩, E3.out⟩
    rw [List.map_cons, E2.out]
    exact end_eq _ _
end Go.Proofs.Ytopmamgdfngdoaa
