/- tick: what the gate reports. -/
import Derived.Test.YtkngoomkmbkenaaOnce20
import Derived.Test.YtkngoomkmbkenaaProg
import Derived.Test.YtkngoomkmbkenaaOnce1
namespace Go.Proofs.Ytkngoomkmbkenaa
set_option linter.unusedVariables false
open Go.RowKit

theorem LP.rep {ah pt pz : Nat} {s : LS} {l : LK} (h : LP ah pt pz s l) (hr : l.r ≤ 100) : LP ah pt pz { s with st := (stV l.r l.wt l.ag : Int), hd := true } (rep l) :=
  ⟨h.H, h.W, h.O, h.g, h.d, h.A, ⟨0, .inr ⟨rfl, hr, rfl⟩, fun _ => rfl⟩, rfl⟩
set_option maxRecDepth 1000000 in
set_option maxHeartbeats 4000000 in
theorem tck_25 (ah pt pz L B X : Nat) (p : PO) (s : LS) (l : LK) (hBL : B ≤ L) (hP : LP ah pt pz s l) (hI : Inv ah pt pz l) :
    Tri Try.prog 196 (pieceOf Try.f11 [1, 1, 1, 1, 1, 1, 1, 1, 1, 0]) (fun y w => y 0 = .pointer (some ⟨L, 0, none⟩) ∧ y 3 = .pointer (some ⟨X, 0, none⟩) ∧ LM w L B s ∧ w.heap[X]? = some (.cells p.cells 49))
      (fun y w y' w' => y' 0 = .pointer (some ⟨L, 0, none⟩) ∧ Below B w w' ∧ ∃ s', LM w' L B s' ∧ LP ah pt pz s' (sureL p.deaf l)) := by
  rintro Q y w ⟨s0, s3, hM, hX⟩ hQ
  have HQ := hid hQ
  clear hQ
  dsimp only at HQ
  have hr100 : l.r ≤ 100 := by have h1 := hI.rN; have h2 := hI.NA; have h3 := hI.A1; omega
  have hrep := report_ok l hr100
  rw [← hP.g] at hrep
  have HM := hid hM
  have HP := hid hP
  have HRep := hid hrep
  have x4 : w.cell? ⟨X, 4, none⟩ = some (.bool p.deaf) := by rw [cell_of_row _ _ _ _ _ _ hX]; rfl
  have HB := hid (Nat.le_trans hBL (Nat.le_of_lt (row_lt hM.bx)))
  clear hM hX hrep hP hI
  conv => arg 2; whnf
  rw [fr196]
  simp only [s0, s3]
  clear s0 s3
  refine wp_seq_k (fun K0 hK0 => ?_)
  go_wp2_with fail
  refine hK0.out _ _ ?_
  clear x4
  by_cases hd : p.deaf = true
  · rw [hd] at HQ ⊢
    refine wp_cond_false rfl ?_
    go_wp2_with fail
    exact q_fr (N := 196) HQ.out rfl ⟨rfl, Below.refl _ _, s, HM.out, HP.out⟩
  · have hd' := Bool.eq_false_iff.2 hd
    rw [hd'] at HQ ⊢
    clear hd hd'
    refine wp_cond_true rfl ?_
    have c0 : w.cell? ⟨L, 12, none⟩ = some (.int .i64 s.g.cr) := by rw [cell_of_row _ _ _ _ _ _ HM.out.bx]; rfl
    have c1 : w.cell? ⟨L, 13, none⟩ = some (.int .i64 s.g.nx) := by rw [cell_of_row _ _ _ _ _ _ HM.out.bx]; rfl
    have c2 : w.cell? ⟨L, 14, none⟩ = some (.int .i64 s.g.hf) := by rw [cell_of_row _ _ _ _ _ _ HM.out.bx]; rfl
    have c3 : w.cell? ⟨L, 15, none⟩ = some (.bool s.g.sh) := by rw [cell_of_row _ _ _ _ _ _ HM.out.bx]; rfl
    have c4 : w.cell? ⟨L, 16, none⟩ = some (.bool s.g.wa) := by rw [cell_of_row _ _ _ _ _ _ HM.out.bx]; rfl
    have c5 : w.cell? ⟨L, 17, none⟩ = some (.bool s.g.ag) := by rw [cell_of_row _ _ _ _ _ _ HM.out.bx]; rfl
    have c6 : w.cell? ⟨L, 18, none⟩ = some (.int .i64 s.g.ct) := by rw [cell_of_row _ _ _ _ _ _ HM.out.bx]; rfl
    obtain ⟨st, hst⟩ : ∃ st : Int, st = (stV l.r l.wt l.ag : Int) := ⟨_, rfl⟩
    rw [← hst] at HRep
    have Hst := hid hst
    clear hst
    unfold Gt.cells at HRep
    refine wp_seq_k (fun K1 hK1 => ?_)
    go_wp2_with fail
    refine (HRep.out w).mono ?_
    rintro e V ⟨rfl, hb⟩
    have HM1 := hid (HM.out.below hb)
    have HB1 := hid (hb.mono HB.out)
    clear hb HRep HM c0 c1 c2 c3 c4 c5 c6
    go_wp2_with fail
    refine hK1.out _ _ ?_
    refine wp_seq_k (fun K2 hK2 => ?_)
    go_wp2_with fail
    refine hK2.out _ _ ?_
    have c0 : V.cell? ⟨L, 23, none⟩ = some (.int .i64 s.st) := by rw [cell_of_row _ _ _ _ _ _ HM1.out.bx]; rfl
    have c1 : V.cell? ⟨L, 24, none⟩ = some (.bool s.hd) := by rw [cell_of_row _ _ _ _ _ _ HM1.out.bx]; rfl
    have fz := frozen_row HM1.out.bx
    obtain ⟨m1, m2⟩ := set_row (cs' := ({ s with st := st } : LS).cells) HM1.out.bx 23 (.int .i64 st) rfl
    obtain ⟨m3, m4⟩ := set_row (cs' := ({ s with st := st, hd := true } : LS).cells) m1 24 (.bool true) rfl
    have m5 := grownBy_trans m2 m4
    have HM2 : Hid (LM ((V.setCell ⟨L, 23, none⟩ (.int .i64 st)).setCell ⟨L, 24, none⟩ (.bool true)) L B { s with st := st, hd := true }) := ⟨m3, (HM1.out.lr.nums s.g s.A st true).other m5 HM1.out.bx (by decide) (by decide)⟩
    have HB2 := hid (HB1.out.grown m5 (Nat.le_trans HB.out HB1.out.size) (fun k e => by cases e; exact hBL))
    clear m1 m2 m3 m4 m5 HM1 HB1
    go_wp2_with fail
    have HP2 := HP.out.rep hr100
    rw [← Hst.out] at HP2
    exact q_fr (N := 196) HQ.out rfl ⟨rfl, HB2.out, _, HM2.out, HP2⟩
end Go.Proofs.Ytkngoomkmbkenaa
/- picked: which of n things a raw number speaks of. -/
namespace Go.Proofs.Ytkngoomkmbkenaa
set_option linter.unusedVariables false
open Go.RowKit

/-- picked, as a natural number -/
def pk (n : Int) (of : Nat) : Nat := (if n < 0 then (-(n + 1)) % (of : Int) else n % (of : Int)).toNat
theorem pk_lt (n : Int) (of : Nat) (h : 0 < of) : pk n of < of := by
  unfold pk
  have h1 : ∀ x : Int, 0 ≤ x % (of : Int) ∧ x % (of : Int) < (of : Int) := fun x => ⟨Int.emod_nonneg _ (by omega), Int.emod_lt_of_pos _ (by omega)⟩
  split
  · have := h1 (-(n + 1)); omega
  · have := h1 n; omega

theorem pick_st (n of : Int) (w : World) (h0 : -9223372036854775808 ≤ n) (h1 : n ≤ 9223372036854775807) (h2 : 0 < of) (h3 : of ≤ 9223372036854775807) :
    Calls Try.prog 5 #[.int .i64 n, .int .i64 of] w fun e w' => e = .returned (.int .i64 ((pk n of.toNat : Nat) : Int)) ∧ w' = w := by
  obtain ⟨m, rfl⟩ := Int.eq_ofNat_of_zero_le (by omega : 0 ≤ of)
  have hb : ∀ x : Int, 0 ≤ x % (m : Int) ∧ x % (m : Int) < (m : Int) := fun x => ⟨Int.emod_nonneg _ (by omega), Int.emod_lt_of_pos _ h2⟩
  by_cases hn : n < 0
  · have e : ((pk n m : Nat) : Int) = (-(n + 1)) % (m : Int) := by
      have := hb (-(n + 1))
      unfold pk
      rw [if_pos hn]; omega
    have e2 : -((n + 1).tmod (m : Int)) = (-(n + 1)) % (m : Int) := by rw [← Int.neg_tmod, Int.tmod_eq_emod_of_nonneg (by omega)]
    have He := hid (e2.trans e.symm)
    clear e e2
    have hb1 := hb (-(n + 1))
    go_enter Try.func5, Try.ntmps5
    go_wp2
    go_ret
    refine ⟨?_, rfl⟩
    rw [Int.toNat_natCast, ← He.out]
    rfl
  · have e : ((pk n m : Nat) : Int) = n % (m : Int) := by
      have := hb n
      unfold pk
      rw [if_neg hn]; omega
    have He := hid e
    clear e
    go_enter Try.func5, Try.ntmps5
    go_wp2
    go_ret
    refine ⟨?_, rfl⟩
    try rw [Int.toNat_natCast]
    rw [He.out]
    rfl
theorem pick_any (n of : Int) (w : World) (h0 : -9223372036854775808 ≤ n) (h1 : n ≤ 9223372036854775807) (h2 : 0 < of) (h3 : of ≤ 9223372036854775807) :
    Calls Try.prog 5 #[.int .i64 n, .int .i64 of] w fun e w' => ∃ r : Nat, e = .returned (.int .i64 (r : Int)) ∧ r < of.toNat ∧ Hid (r = pk n of.toNat) ∧ w = w' :=
  (pick_st n of w h0 h1 h2 h3).mono fun e w' ⟨he, hw⟩ => ⟨_, he, pk_lt _ _ (by omega), rfl, hw.symm⟩
end Go.Proofs.Ytkngoomkmbkenaa
/- tick: commands are asked for. -/
namespace Go.Proofs.Ytkngoomkmbkenaa
set_option linter.unusedVariables false
open Go.RowKit

theorem LP.asked {ah pt pz : Nat} {s : LS} {l : LK} {x2 : WS} (h : LP ah pt pz s l) (hW : WL ah pt pz { l.h with A := l.h.A + 1 } x2) : LP ah pt pz { s with x := x2, A := s.A + 1 } { l with h := { l.h with A := l.h.A + 1 } } :=
  ⟨hW, h.W, h.O, h.g, h.d, by show s.A + 1 = l.h.A + 1; rw [h.A], h.st, h.hd⟩
def askI (ah pt pz L B X k : Nat) (w0 : World) (l : LK) (y : Nat → Value) (W : World) : Prop :=
  y 0 = .pointer (some ⟨L, 0, none⟩) ∧ y 3 = .pointer (some ⟨X, 0, none⟩) ∧ ∃ i s, y 5 = .int .i64 ((i : Nat) : Int) ∧ i ≤ k ∧ LM W L B s ∧ LP ah pt pz s (asksL i l) ∧ Below B w0 W ∧ Stays 49 w0 W
set_option maxRecDepth 1000000 in
set_option maxHeartbeats 4000000 in
theorem tck_1 (ah pt pz L B X : Nat) (p : PO) (s : LS) (l : LK) (hBL : B ≤ L) (hP : LP ah pt pz s l) (hI : Inv ah pt pz l) (hah0 : 0 < ah) (hah1 : ah ≤ 100) (hpt0 : 0 < pt) (hpt : pt ≤ 1000) (hpz : pz ≤ 1000) (ha : -9223372036854775808 ≤ p.ask ∧ p.ask ≤ 9223372036854775807) :
    Tri Try.prog 196 (pieceOf Try.f11 [1, 0]) (fun y w => y 0 = .pointer (some ⟨L, 0, none⟩) ∧ y 3 = .pointer (some ⟨X, 0, none⟩) ∧ LM w L B s ∧ w.heap[X]? = some (.cells p.cells 49))
      (fun y w y' w' => y' 0 = .pointer (some ⟨L, 0, none⟩) ∧ y' 3 = .pointer (some ⟨X, 0, none⟩) ∧ Below B w w' ∧ Stays 49 w w' ∧ ∃ s', LM w' L B s' ∧ LP ah pt pz s' (asksL (pk p.ask 5) l)) := by
  rintro Q y w ⟨s0, s3, hM, hX⟩ hQ
  have HQ := hid hQ
  clear hQ
  dsimp only at HQ
  have HM := hid hM
  have HX := hid hX
  clear hM hX
  have hpick := pick_st p.ask 5
  obtain ⟨k, hk⟩ : ∃ k, k = pk p.ask 5 := ⟨_, rfl⟩
  have hk5 : k < 5 := by rw [hk]; exact pk_lt _ _ (by omega)
  have HPick : Hid (∀ W, Calls Try.prog 5 #[.int .i64 p.ask, .int .i64 5] W fun e w' => e = .returned (.int .i64 (k : Int)) ∧ w' = W) := fun W => by
    rw [hk]
    exact pick_st p.ask 5 W ha.1 ha.2 (by decide) (by decide)
  rw [← hk] at HQ
  clear hk hpick ha
  conv => arg 2; whnf
  rw [fr196]
  simp only [s0, s3]
  clear s0 s3
  refine wp_seq_k (fun K0 hK0 => ?_)
  go_wp2_with fail
  refine hK0.out _ _ ?_
  refine wp_block ?_
  refine wp_loop_fr 196 (askI ah pt pz L B X k w l) (fun y _ => k - (intOf (y 5)).toNat) ⟨rfl, rfl, ⟨rfl, rfl, 0, s, rfl, Nat.zero_le _, HM.out, by rw [asksL_0 hI]; exact hP, Below.refl _ _, Stays.refl _ _⟩⟩ ?_
  clear HM hP
  rintro z W ⟨s0, s3, i, s', s5, hik, hM, hP, hB, hS⟩
  have HM := hid hM
  have HP := hid hP
  have HB := hid hB
  have HS := hid hS
  have HX2 := hid (hS X _ HX.out)
  have HI := hid (hI.asksL i)
  clear hM hP hB hS
  rw [fr196]
  simp only [s0, s3, s5]
  clear s0 s3 s5
  have x0 : W.cell? ⟨X, 0, none⟩ = some (.int .i64 p.ask) := by rw [cell_of_row _ _ _ _ _ _ HX2.out]; rfl
  have l22 : W.cell? ⟨L, 22, none⟩ = some (.int .i64 (s'.A : Int)) := by rw [cell_of_row _ _ _ _ _ _ HM.out.bx]; rfl
  have hAA := hid HP.out.A
  by_cases hlt : i < k
  · have d1 : decide ((i : Int) < (k : Int)) = true := decide_eq_true (by omega)
    have hik' : (i : Int) < (k : Int) := by omega
    by_cases hA : s'.A < 100
    · have d2 : decide ((s'.A : Int) < 100) = true := decide_eq_true (by omega)
      have hA' : (s'.A : Int) < 100 := by omega
      go_upto_block 1 with (first | (go_at_call 5; refine (HPick.out _).mono ?_; rintro e w1 ⟨rfl, rfl⟩) | fail)
      refine wp_block ?_
      refine wp_seq_k (fun K1 hK1 => ?_)
      refine Tri.use (tck_4 ah pt pz L B s' (asksL i l) HP.out HI.out hah0 hah1 hpt0 hpt hpz (by rw [← hAA.out]; exact hA)) rfl ⟨rfl, HM.out⟩ ?_
      rintro y4 W4 ⟨t0, t3, t5, t7, hb4, D, x2, t6, hD, hro, hwl⟩
      refine hK1.out _ _ ?_
      have u3 : y4 3 = .pointer (some ⟨X, 0, none⟩) := t3
      have u5 : y4 5 = .int .i64 (i : Int) := t5
      have HM4 := hid (HM.out.below hb4)
      have HR4 := hid (HM.out.lr.hand hb4 (Nat.le_trans hBL (Nat.le_of_lt (row_lt HM.out.bx))) hro)
      have HB4 := hid (HB.out.trans (hb4.mono (Nat.le_trans hBL (Nat.le_of_lt (row_lt HM.out.bx)))))
      have HS4 := hid (HS.out.below hb4)
      have HD := hid hD
      have HWL := hid hwl
      clear hb4 hD hro hwl t3 t5 x0 l22 HM HB HS HI
      rw [fr196]
      simp only [t0, u3, u5, t6, t7]
      clear t0 u3 u5 t6 t7
      refine wp_seq_k (fun K2 hK2 => ?_)
      go_wp2_with fail
      refine hK2.out _ _ ?_
      refine wp_seq_k (fun K3 hK3 => ?_)
      obtain ⟨c0, c1, c2, c3, c4, c5, c6, c7, c8, c9, c10, c11⟩ := hAt_row (show W4.heap[D]? = some (.cells (hcells 3 (x2.N : Int) (x2.ah : Int) (.slice x2.sa x2.sn x2.sc) (.slice x2.qa x2.qn x2.qc) (x2.tm : Int) (x2.pt : Int) (x2.tr : Int) 100 (x2.si : Int) (x2.pz : Int) (x2.ha : Int)) 36) from HD.out)
      have hth := hid (there_row (show W4.heap[L]? = some (.cells (s'.x.hand.toList ++ s'.rest).toArray 44) from HM4.out.bx) 0 12 (by show 0 + 12 ≤ 25; omega))
      go_wp2_with (with_reducible refine at_store 36 ?_)
      unfold Hid
      clear c0 c1 c2 c3 c4 c5 c6 c7 c8 c9 c10 c11
      refine wpList_store_mid rfl 36 _ _ rfl L 0 x2.hand rfl rfl (Hid.out hth) (by kernel_rfl) (by unfold WS.hand; simp [Value.oneCell']) ?_
      obtain ⟨m1, m2⟩ := lay_hand (x2 := x2) HM4.out.bx
      have HM5 : Hid (LM (W4.setCells L 0 x2.hand.toList) L B { s' with x := x2 }) := ⟨m1, HR4.out.other m2 HM4.out.bx (by decide) (by decide)⟩
      have HB5 := hid (HB4.out.grown m2 (Nat.le_trans hBL (Nat.le_of_lt (row_lt HM4.out.bx))) (fun k e => by cases e; exact hBL))
      have HS5 := hid (HS4.out.grown m2 (row_type HM4.out.bx (by decide)))
      clear m1 m2 HM4 HB4 HS4 HR4 hth HD
      generalize W4.setCells L 0 x2.hand.toList = V at *
      go_wp2_with fail
      refine hK3.out _ _ ?_
      have l22 : V.cell? ⟨L, 22, none⟩ = some (.int .i64 (s'.A : Int)) := by rw [cell_of_row _ _ _ _ _ _ HM5.out.bx]; rfl
      have fz := frozen_row HM5.out.bx 22
      have a1 : IntKind.i64.wrap ((s'.A : Int) + 1) = (s'.A : Int) + 1 := IntWalk.i64_in _ (by omega)
      obtain ⟨m1, m2⟩ := set_row (cs' := ({ s' with x := x2, A := s'.A + 1 } : LS).cells) HM5.out.bx 22 (.int .i64 ((s'.A : Int) + 1)) (by rfl)
      have HM6 : Hid (LM (V.setCell ⟨L, 22, none⟩ (.int .i64 ((s'.A : Int) + 1))) L B { s' with x := x2, A := s'.A + 1 }) := ⟨m1, (HM5.out.lr.nums s'.g (s'.A + 1) s'.st s'.hd).other m2 HM5.out.bx (by decide) (by decide)⟩
      have HB6 := hid (HB5.out.grown m2 (Nat.le_trans hBL (Nat.le_of_lt (row_lt HM5.out.bx))) (fun k e => by cases e; exact hBL))
      have HS6 := hid (HS5.out.grown m2 (row_type HM5.out.bx (by decide)))
      clear m1 m2 HM5 HB5 HS5
      have hP6 := HP.out.asked HWL.out
      rw [← asksL_succ i (by rw [← hAA.out]; exact hA)] at hP6
      have HP6 := hid hP6
      clear hP6 HP HWL
      go_wp2_with fail
      refine ⟨rfl, rfl, ⟨rfl, rfl, i + 1, _, ?_, by omega, HM6.out, HP6.out, HB6.out, HS6.out⟩, ?_⟩
      · show Value.int .i64 _ = Value.int .i64 _
        go_num
      · show k - (intOf (Value.int .i64 _)).toNat < _
        simp [intOf]
        omega
    · have hA' : ¬ (s'.A : Int) < 100 := by omega
      have d2 : decide ((s'.A : Int) < 100) = false := decide_eq_false hA'
      have he := asksL_full hI i k hik (.inr (by have h1 := HI.out.A1; have h2 := hAA.out; omega))
      rw [← he] at HQ
      clear he
      go_wp2_with (first | (go_at_call 5; refine (HPick.out _).mono ?_; rintro e w1 ⟨rfl, rfl⟩) | fail)
      exact q_fr (N := 196) HQ.out rfl ⟨rfl, rfl, HB.out, HS.out, s', HM.out, HP.out⟩
  · have hik' : ¬ (i : Int) < (k : Int) := by omega
    have d1 : decide ((i : Int) < (k : Int)) = false := decide_eq_false hik'
    have he := asksL_full hI i k hik (.inl (by omega))
    rw [← he] at HQ
    clear he
    go_wp2_with (first | (go_at_call 5; refine (HPick.out _).mono ?_; rintro e w1 ⟨rfl, rfl⟩) | fail)
    exact q_fr (N := 196) HQ.out rfl ⟨rfl, rfl, HB.out, HS.out, s', HM.out, HP.out⟩
end Go.Proofs.Ytkngoomkmbkenaa
