/- tick: an old frame may come once more. -/
import Derived.Test.YtkngoomkmbkenaaOnce19
namespace Go.Proofs.Ytkngoomkmbkenaa
set_option linter.unusedVariables false
open Go.RowKit

theorem againL_no {ag : Int} {l : LK} (h : ¬ (0 ≤ ag ∧ 0 < l.old.length)) : againL ag l = l := if_neg h
theorem againL_yes {ag : Int} {l : LK} (h : 0 ≤ ag ∧ 0 < l.old.length) : againL ag l = arrive l (l.old.getD (ag.toNat % l.old.length) 0) true := if_pos h
set_option maxRecDepth 1000000 in
set_option maxHeartbeats 4000000 in
theorem tck_15 (ah pt pz L B X : Nat) (p : PO) (s : LS) (l : LK) (hBL : B ≤ L) (hP : LP ah pt pz s l) (hI : Inv ah pt pz l) (ho : l.old.length ≤ 100000) (ha : -9223372036854775808 ≤ p.again ∧ p.again ≤ 9223372036854775807) :
    Tri Try.prog 196 (pieceOf Try.f11 [1, 1, 1, 1, 1, 1, 1, 0]) (fun y w => y 0 = .pointer (some ⟨L, 0, none⟩) ∧ y 3 = .pointer (some ⟨X, 0, none⟩) ∧ LM w L B s ∧ w.heap[X]? = some (.cells p.cells 49))
      (fun y w y' w' => y' 0 = .pointer (some ⟨L, 0, none⟩) ∧ y' 3 = .pointer (some ⟨X, 0, none⟩) ∧ Below B w w' ∧ Stays 49 w w' ∧ ∃ s', LM w' L B s' ∧ LP ah pt pz s' (againL p.again l)) := by
  rintro Q y w ⟨s0, s3, hM, hX⟩ hQ
  have HQ := hid hQ
  clear hQ
  dsimp only at HQ
  have hon := hP.on hM.lr
  have HM := hid (hM.below (Below.refl _ w).drew)
  have HX := hid (row_below hX (Below.refl _ w).drew)
  have HP := hid hP
  have HI := hid hI
  have HBw := hid ((Below.refl B w).drew)
  have HKw := hid ((Stays.refl 49 w).below (Below.refl _ w).drew)
  clear hM hX hP hI
  conv => arg 2; whnf
  rw [fr196]
  simp only [s0, s3]
  clear s0 s3
  refine wp_seq_k (fun K0 hK0 => ?_)
  refine wp_region_can 27 [] (List.range 27) (fun u u' => u' = u) (fun _ => rfl) (fun _ _ _ h k => k.trans h) (by kernel_rfl) (by kernel_rfl) ?_
  simp only [show List.range 27 = [0, 1, 2, 3, 4, 5, 6, 7, 8, 9, 10, 11, 12, 13, 14, 15, 16, 17, 18, 19, 20, 21, 22, 23, 24, 25, 26] from rfl, List.map_cons, List.map_nil, List.contains_nil, List.getD_cons_zero, List.getD_cons_succ]
  generalize w.drew = U at *
  have x5 : U.cell? ⟨X, 5, none⟩ = some (.int .i64 p.again) := by rw [cell_of_row _ _ _ _ _ _ HX.out]; rfl
  have l20 : U.cell? ⟨L, 20, none⟩ = some (.slice s.oa s.on s.oc) := by rw [cell_of_row _ _ _ _ _ _ HM.out.bx]; rfl
  by_cases hag : 0 ≤ p.again
  · have d0 : decide (p.again ≥ 0) = true := decide_eq_true hag
    have hag' : p.again ≥ 0 := hag
    by_cases hn : 0 < s.on
    · have d1 : decide ((s.on : Int) > 0) = true := decide_eq_true (by omega)
      have hn' : (s.on : Int) > 0 := by omega
      have hn3 : ¬ s.on = 0 := by omega
      have hc : 0 ≤ p.again ∧ 0 < l.old.length := ⟨hag, by omega⟩
      rw [againL_yes hc] at HQ
      obtain ⟨k, hk⟩ : ∃ k, k = p.again.toNat % l.old.length := ⟨_, rfl⟩
      have hkl : k < l.old.length := by rw [hk]; exact Nat.mod_lt _ hc.2
      have e1 : p.again.tmod (s.on : Int) = (k : Int) := by
        have : p.again = (p.again.toNat : Int) := by omega
        rw [hk, this, hon, ← Int.ofNat_tmod]
        simp
      rw [← hk] at HQ
      have HRo := HM.out.lr.oo
      obtain ⟨g, o, cap, hv, hg1, hg2, hcell⟩ := HRo.at_ (by omega)
      have hlen : s.Ro.length = s.on := by have := HRo.1; rw [rcs_len] at this; omega
      have hkR : k < s.Ro.length := by omega
      have hc1 := hcell k (by omega)
      rw [rcs_get _ _ hkR] at hc1
      unfold LS.ov at hv
      injection hv with hv1 hv2 hv3
      rw [hv1] at l20
      obtain ⟨i, hi1, hi2⟩ := cmds_at HP.out.O (List.getElem?_eq_getElem hkR)
      have hrow := (HM.out.lr.or _ (List.getElem_mem hkR)).1
      rw [hi2] at hrow
      obtain ⟨r, hr⟩ : ∃ r, r = s.Ro[k] := ⟨_, rfl⟩
      rw [← hr] at hc1 hi2 hrow
      obtain ⟨⟨ra, rn, rc⟩, bs⟩ := r
      dsimp only at hc1 hi2 hrow
      subst hi2
      have hrn : rn = 8 := by have h8 := hrow.rd.len; rw [vb_len] at h8; rw [← h8]; unfold cmdB; rw [encO_len]; rfl
      subst hrn
      have hi100 : i ≤ 100 := by
        have h1 := HI.out.old i (List.mem_of_getElem? hi1)
        have h2 := HI.out.NA
        have h3 := HI.out.A1
        omega
      have hgd : l.old.getD k 0 = i := by rw [List.getD_eq_getElem?_getD, hi1]; rfl
      rw [hgd] at HQ
      have hr100 : l.r ≤ 100 := by have h1 := HI.out.rN; have h2 := HI.out.NA; have h3 := HI.out.A1; omega
      have Harr := hid (arrives_ok ah pt pz L B i true ra rc s l U hBL HM.out HP.out hr100 hi100 hrow)
      have hc2 : U.cell? ⟨g, o + k, none⟩ = some (.slice ra 8 rc) := hc1.1
      have hki : (0 : Int) ≤ (k : Int) := by omega
      have hkn : (k : Int) < (s.on : Int) := by omega
      have hkt : (k : Int).toNat = k := rfl
      clear hc1 hrow hr hk hi1 hgd hcell HRo hv2 hv3 hkl hc hon ho ha
      iterate 2 (refine wpL_do rfl (fun w' hw' => (by cases hw'; go_simp; rfl)) ?_; simp only [Act.put, List.setIfInBounds_toArray, List.set_cons_succ, List.set_cons_zero])
      iterate 2 (refine wpL_do (v := .bool true) rfl (fun w' hw' => (by cases hw'; go_simp)) ?_; simp only [Act.put, List.setIfInBounds_toArray, List.set_cons_succ, List.set_cons_zero])
      iterate 5 (refine wpL_do rfl (fun w' hw' => (by cases hw'; go_simp; rfl)) ?_; simp only [Act.put, List.setIfInBounds_toArray, List.set_cons_succ, List.set_cons_zero])
      iterate 3 (refine wpL_do (v := .bool true) rfl (fun w' hw' => (by cases hw'; go_simp)) ?_; simp only [Act.put, List.setIfInBounds_toArray, List.set_cons_succ, List.set_cons_zero])
      iterate 12 (refine wpL_do rfl (fun w' hw' => (by cases hw'; go_simp; rfl)) ?_; simp only [Act.put, List.setIfInBounds_toArray, List.set_cons_succ, List.set_cons_zero])
      iterate 1 (refine wpL_do (v := .int .i64 (k : Int)) rfl (fun w' hw' => (by cases hw'; go_simp)) ?_; simp only [Act.put, List.setIfInBounds_toArray, List.set_cons_succ, List.set_cons_zero])
      iterate 2 (refine wpL_do rfl (fun w' hw' => (by cases hw'; go_simp; rfl)) ?_; simp only [Act.put, List.setIfInBounds_toArray, List.set_cons_succ, List.set_cons_zero])
      refine wpL_nil ?_
      simp only [List.drop_succ_cons, List.drop_zero]
      go_wp2_with fail
      refine Harr.out.mono ?_
      rintro e V ⟨rfl, ⟨s', hm, hp⟩, hb, hs⟩
      have HM2 := hid hm
      have HP2 := hid hp
      have HB2 := hid (HBw.out.trans hb)
      have HK2 := hid (HKw.out.trans hs)
      clear hm hp hb hs Harr HM HP HI HX HBw HKw
      go_wp2_with fail
      refine hK0.out _ _ ?_
      go_wp2_with fail
      exact q_fr (N := 196) HQ.out rfl ⟨rfl, rfl, HB2.out, HK2.out, s', HM2.out, HP2.out⟩
    · have d1 : decide ((s.on : Int) > 0) = false := decide_eq_false (by omega)
      have hn' : ¬ (s.on : Int) > 0 := by omega
      have hc : ¬ (0 ≤ p.again ∧ 0 < l.old.length) := fun h => hn (by omega)
      rw [againL_no hc] at HQ
      have hn0 : s.on = 0 := by omega
      clear hc hon hn ho ha
      iterate 2 (refine wpL_do rfl (fun w' hw' => (by cases hw'; go_simp; rfl)) ?_; simp only [Act.put, List.setIfInBounds_toArray, List.set_cons_succ, List.set_cons_zero])
      iterate 2 (refine wpL_do (v := .bool true) rfl (fun w' hw' => (by cases hw'; go_simp)) ?_; simp only [Act.put, List.setIfInBounds_toArray, List.set_cons_succ, List.set_cons_zero])
      iterate 5 (refine wpL_do rfl (fun w' hw' => (by cases hw'; go_simp; rfl)) ?_; simp only [Act.put, List.setIfInBounds_toArray, List.set_cons_succ, List.set_cons_zero])
      iterate 3 (refine wpL_do (v := .bool false) rfl (fun w' hw' => (by cases hw'; go_simp)) ?_; simp only [Act.put, List.setIfInBounds_toArray, List.set_cons_succ, List.set_cons_zero])
      iterate 15 ((with_reducible refine wpL_pass ?_ ?_); (· rfl); simp only [Act.put, List.setIfInBounds_toArray, List.set_cons_succ, List.set_cons_zero])
      refine wpL_nil ?_
      simp only [List.drop_succ_cons, List.drop_zero]
      go_wp2_with fail
      refine hK0.out _ _ ?_
      go_wp2_with fail
      exact q_fr (N := 196) HQ.out rfl ⟨rfl, rfl, HBw.out, HKw.out, s, HM.out, HP.out⟩
  · have d0 : decide (p.again ≥ 0) = false := decide_eq_false hag
    have hag' : ¬ p.again ≥ 0 := hag
    have hc : ¬ (0 ≤ p.again ∧ 0 < l.old.length) := fun h => hag h.1
    rw [againL_no hc] at HQ
    clear hc hon ho ha hag
    iterate 2 (refine wpL_do rfl (fun w' hw' => (by cases hw'; go_simp; rfl)) ?_; simp only [Act.put, List.setIfInBounds_toArray, List.set_cons_succ, List.set_cons_zero])
    iterate 2 (refine wpL_do (v := .bool false) rfl (fun w' hw' => (by cases hw'; go_simp)) ?_; simp only [Act.put, List.setIfInBounds_toArray, List.set_cons_succ, List.set_cons_zero])
    iterate 6 ((with_reducible refine wpL_pass ?_ ?_); (· rfl); simp only [Act.put, List.setIfInBounds_toArray, List.set_cons_succ, List.set_cons_zero])
    iterate 2 (refine wpL_do (v := .bool false) rfl (fun w' hw' => (by cases hw'; go_simp)) ?_; simp only [Act.put, List.setIfInBounds_toArray, List.set_cons_succ, List.set_cons_zero])
    iterate 15 ((with_reducible refine wpL_pass ?_ ?_); (· rfl); simp only [Act.put, List.setIfInBounds_toArray, List.set_cons_succ, List.set_cons_zero])
    refine wpL_nil ?_
    simp only [List.drop_succ_cons, List.drop_zero]
    go_wp2_with fail
    refine hK0.out _ _ ?_
    go_wp2_with fail
    exact q_fr (N := 196) HQ.out rfl ⟨rfl, rfl, HBw.out, HKw.out, s, HM.out, HP.out⟩
end Go.Proofs.Ytkngoomkmbkenaa
/- tick: a frame comes off the way. -/
namespace Go.Proofs.Ytkngoomkmbkenaa
set_option linter.unusedVariables false
open Go.RowKit

def lzF (lose : Int) (i : Nat) : Bool := bits BinOp.and IntKind.i64 (lose / 2 ^ (i % 60)) 1 == 1
theorem lzF_0 (i : Nat) : lzF 0 i = false := by
  unfold lzF
  rw [Int.zero_ediv]
  decide
theorem LP.pop {ah pt pz b : Nat} {ws : List Nat} {s : LS} {l : LK} (h : LP ah pt pz s l) (hw : l.way = b :: ws) (wa : Option Addr) (wn wc : Nat) : LP ah pt pz { s with wa := wa, wn := wn, wc := wc, Rw := s.Rw.drop 1 } { l with way := ws } := by
  refine ⟨h.H, ?_, h.O, h.g, h.d, h.A, h.st, h.hd⟩
  show conts (s.Rw.drop 1) = cmds ws
  have h1 := h.W
  rw [hw] at h1
  have h2 : conts (s.Rw.drop 1) = (conts s.Rw).drop 1 := by unfold conts; rw [List.map_drop]
  rw [h2, h1]
  rfl
set_option maxRecDepth 1000000 in
set_option maxHeartbeats 4000000 in
theorem tck_20 (ah pt pz L B X i b : Nat) (ws : List Nat) (p : PO) (s : LS) (l : LK) (hBL : B ≤ L) (hP : LP ah pt pz s l) (hI : Inv ah pt pz l) (hw : l.way = b :: ws) (hi : i ≤ 100000) (hlo : -9223372036854775808 ≤ p.lose ∧ p.lose ≤ 9223372036854775807) :
    Tri Try.prog 196 (pieceOf Try.f11 [1, 1, 1, 1, 1, 1, 1, 1, 0, 1, 0, 0, 1, 0]) (fun y w => y 0 = .pointer (some ⟨L, 0, none⟩) ∧ y 3 = .pointer (some ⟨X, 0, none⟩) ∧ y 11 = .int .i64 (i : Int) ∧ LM w L B s ∧ w.heap[X]? = some (.cells p.cells 49))
      (fun y w y' w' => y' 0 = .pointer (some ⟨L, 0, none⟩) ∧ y' 3 = .pointer (some ⟨X, 0, none⟩) ∧ y' 11 = .int .i64 (i : Int) ∧ Below B w w' ∧ Stays 49 w w' ∧ ∃ s', LM w' L B s' ∧ LP ah pt pz s' (if lzF p.lose i = true then { l with way := ws } else arrive { l with way := ws } b (!p.full))) := by
  rintro Q y w ⟨s0, s3, s11, hM, hX⟩ hQ
  have HQ := hid hQ
  clear hQ
  dsimp only at HQ
  have hwn := hP.wn hM.lr
  rw [hw, List.length_cons] at hwn
  have HRo := hM.lr.wo
  obtain ⟨g, o, cap, hv, hg1, hg2, hcell⟩ := HRo.at_ (by omega)
  have hlen : s.Rw.length = s.wn := by have := HRo.1; rw [rcs_len] at this; omega
  have hkR : 0 < s.Rw.length := by omega
  have hc1 := hcell 0 (by omega)
  rw [rcs_get _ _ hkR, Nat.add_zero] at hc1
  unfold LS.wv at hv
  injection hv with hv1 hv2 hv3
  obtain ⟨b', hb1, hb2⟩ := cmds_at hP.W (List.getElem?_eq_getElem hkR)
  rw [hw] at hb1
  obtain rfl : b = b' := by simpa using hb1
  have hrow := (hM.lr.wr _ (List.getElem_mem hkR)).1
  rw [hb2] at hrow
  obtain ⟨r, hr⟩ : ∃ r, r = s.Rw[0] := ⟨_, rfl⟩
  rw [← hr] at hc1 hb2 hrow
  obtain ⟨⟨ra, rn, rc⟩, bs⟩ := r
  dsimp only at hc1 hb2 hrow
  subst hb2
  have hrn : rn = 8 := by have h8 := hrow.rd.len; rw [vb_len] at h8; rw [← h8]; unfold cmdB; rw [encO_len]; rfl
  subst hrn
  have hc2 : w.cell? ⟨g, o, none⟩ = some (.slice ra 8 rc) := hc1.1
  have l19 : w.cell? ⟨L, 19, none⟩ = some (.slice (some ⟨g, o, none⟩) s.wn s.wc) := by rw [← hv1, cell_of_row _ _ _ _ _ _ hM.bx]; rfl
  have hn0 : ¬ s.wn = 0 := by omega
  have hn1 : 0 < s.wn := by omega
  have Hwn := hid hwn
  clear hwn
  have HM := hid hM
  have HX := hid hX
  have HP := hid hP
  have HI := hid hI
  have HW := hid hw
  have HRow := hid hrow
  have Hv1 := hid hv1
  clear hM hX hP hI hw hrow hc1 hr hcell HRo hv1 hv2 hv3 hlen hkR hb1
  conv => arg 2; whnf
  rw [fr196]
  simp only [s0, s3, s11]
  clear s0 s3 s11
  refine wp_block ?_
  refine wp_seq_k (fun K0 hK0 => ?_)
  go_wp2_with fail
  refine hK0.out _ _ ?_
  clear hc2 l19
  refine wp_seq_k (fun K1 hK1 => ?_)
  obtain ⟨wa, wc, hcut, hlr⟩ := HM.out.lr.wpop (by have := Hwn.out; omega)
  have l19 : w.cell? ⟨L, 19, none⟩ = some (.slice s.wa s.wn s.wc) := by rw [cell_of_row _ _ _ _ _ _ HM.out.bx]; rfl
  have fz := frozen_row HM.out.bx 19
  obtain ⟨m1, m2⟩ := set_row (cs' := ({ s with wa := wa, wn := s.wn - 1, wc := wc, Rw := s.Rw.drop 1 } : LS).cells) HM.out.bx 19 (.slice wa (s.wn - 1) wc) rfl
  have HM1 : Hid (LM (w.setCell ⟨L, 19, none⟩ (.slice wa (s.wn - 1) wc)) L B { s with wa := wa, wn := s.wn - 1, wc := wc, Rw := s.Rw.drop 1 }) := ⟨m1, hlr.other m2 HM.out.bx (by decide) (by decide)⟩
  have HX1 := hid (row_grown HX.out m2 (ne_tt HX.out HM.out.bx (by decide)))
  have HRow1 := hid (HRow.out.other m2 HM.out.bx (by decide))
  have HB1 := hid ((Below.refl B w).grown m2 (Nat.le_trans hBL (Nat.le_of_lt (row_lt HM.out.bx))) (fun k e => by cases e; exact hBL))
  have HK1 := hid ((Stays.refl 49 w).grown m2 (row_type HM.out.bx (by decide)))
  have HP1 := hid (HP.out.pop HW.out wa (s.wn - 1) wc)
  clear m1 m2 hlr HM HX HRow HP hn0 hn1
  go_wp2_with fail
  refine hK1.out _ _ ?_
  clear hcut l19 fz
  generalize w.setCell ⟨L, 19, none⟩ (.slice wa (s.wn - 1) wc) = V at *
  have x2 : V.cell? ⟨X, 2, none⟩ = some (.int .i64 p.lose) := by rw [cell_of_row _ _ _ _ _ _ HX1.out]; rfl
  refine wp_seq_k (fun K2 hK2 => ?_)
  refine wp_seq_k (fun K3 hK3 => ?_)
  go_wp2_with fail
  rw [show (bits BinOp.and IntKind.i64 (p.lose / 2 ^ (i % 60)) 1 == 1) = lzF p.lose i from rfl]
  refine hK3.out _ _ ?_
  clear x2
  by_cases hlz : lzF p.lose i = true
  · rw [if_pos hlz] at HQ
    rw [hlz]
    clear hlz
    refine wp_cond_true rfl ?_
    go_wp2_with fail
    exact q_fr (N := 196) HQ.out rfl ⟨rfl, rfl, rfl, HB1.out, HK1.out, _, HM1.out, HP1.out⟩
  · rw [if_neg hlz] at HQ
    rw [Bool.eq_false_iff.2 hlz]
    clear hlz
    refine wp_cond_false rfl ?_
    go_wp2_with fail
    refine hK2.out _ _ ?_
    have x3 : V.cell? ⟨X, 3, none⟩ = some (.bool p.full) := by rw [cell_of_row _ _ _ _ _ _ HX1.out]; rfl
    have hb100 : b ≤ 100 ∧ l.r ≤ 100 := by
      have h1 := HI.out.way b (by rw [HW.out]; exact List.mem_cons_self)
      have h2 := HI.out.NA
      have h3 := HI.out.A1
      have h4 := HI.out.rN
      omega
    have Harr := hid (arrives_ok ah pt pz L B b (!p.full) ra rc _ { l with way := ws } V hBL HM1.out HP1.out hb100.2 hb100.1 HRow1.out)
    clear hb100
    refine wp_seq_k (fun K4 hK4 => ?_)
    go_wp2_with fail
    refine Harr.out.mono ?_
    rintro e V2 ⟨rfl, ⟨s', hm, hp⟩, hb, hs⟩
    have HM2 := hid hm
    have HP2 := hid hp
    have HB2 := hid (HB1.out.trans hb)
    have HK2 := hid (HK1.out.trans hs)
    clear hm hp hb hs Harr HM1 HP1 HI HX1 HB1 HK1 x3
    go_wp2_with fail
    refine hK4.out _ _ ?_
    go_wp2_with fail
    exact q_fr (N := 196) HQ.out rfl ⟨rfl, rfl, rfl, HB2.out, HK2.out, s', HM2.out, HP2.out⟩
end Go.Proofs.Ytkngoomkmbkenaa
/- tick: the frames that come. -/
namespace Go.Proofs.Ytkngoomkmbkenaa
set_option linter.unusedVariables false
open Go.RowKit

theorem comes_nil {room : Bool} {lz : Nat → Bool} {i f : Nat} {l : LK} (h : l.way = []) : comes room lz i f l = l := by
  cases f with
  | zero => rfl
  | succ f => unfold comes; rw [h]
theorem comes_cons {room : Bool} {lz : Nat → Bool} {i f b : Nat} {ws : List Nat} {l : LK} (h : l.way = b :: ws) : comes room lz i (f + 1) l = comes room lz (i + 1) f (if lz i = true then { l with way := ws } else arrive { l with way := ws } b room) := by
  conv => lhs; unfold comes
  rw [h]
structure CmI (ah pt pz L B X : Nat) (p : PO) (w0 : World) (l0 : LK) (i : Nat) (W : World) (s : LS) (l : LK) : Prop where
  M : LM W L B s
  P : LP ah pt pz s l
  I : Inv ah pt pz l
  n : i + l.way.length = l0.way.length
  c : comes (!p.full) (lzF p.lose) i (p.come.toNat - i) l = comes (!p.full) (lzF p.lose) 0 p.come.toNat l0
  blw : Below B w0 W
  st : Stays 49 w0 W
def cmI (ah pt pz L B X : Nat) (p : PO) (w0 : World) (l0 : LK) (y : Nat → Value) (W : World) : Prop :=
  y 0 = .pointer (some ⟨L, 0, none⟩) ∧ y 3 = .pointer (some ⟨X, 0, none⟩) ∧ ∃ i s l, y 11 = .int .i64 ((i : Nat) : Int) ∧ i ≤ p.come.toNat ∧ CmI ah pt pz L B X p w0 l0 i W s l
set_option maxRecDepth 1000000 in
set_option maxHeartbeats 4000000 in
theorem tck_17 (ah pt pz L B X : Nat) (p : PO) (s : LS) (l : LK) (hBL : B ≤ L) (hP : LP ah pt pz s l) (hI : Inv ah pt pz l) (hw : l.way.length ≤ 100000) (hc : p.come ≤ 9223372036854775807) (hlo : -9223372036854775808 ≤ p.lose ∧ p.lose ≤ 9223372036854775807) :
    Tri Try.prog 196 (pieceOf Try.f11 [1, 1, 1, 1, 1, 1, 1, 1, 0]) (fun y w => y 0 = .pointer (some ⟨L, 0, none⟩) ∧ y 3 = .pointer (some ⟨X, 0, none⟩) ∧ LM w L B s ∧ w.heap[X]? = some (.cells p.cells 49))
      (fun y w y' w' => y' 0 = .pointer (some ⟨L, 0, none⟩) ∧ y' 3 = .pointer (some ⟨X, 0, none⟩) ∧ Below B w w' ∧ Stays 49 w w' ∧ ∃ s', LM w' L B s' ∧ LP ah pt pz s' (comes (!p.full) (lzF p.lose) 0 p.come.toNat l)) := by
  rintro Q y w ⟨s0, s3, hM, hX⟩ hQ
  have HQ := hid hQ
  clear hQ
  dsimp only at HQ
  have HM := hid hM
  have HX := hid hX
  clear hM hX
  conv => arg 2; whnf
  rw [fr196]
  simp only [s0, s3]
  clear s0 s3
  refine wp_seq_k (fun K0 hK0 => ?_)
  go_wp2_with fail
  refine hK0.out _ _ ?_
  refine wp_block ?_
  refine wp_loop_fr 196 (cmI ah pt pz L B X p w l) (fun y _ => p.come.toNat - (intOf (y 11)).toNat) ⟨rfl, rfl, ⟨rfl, rfl, 0, s, l, rfl, Nat.zero_le _, HM.out, hP, hI, Nat.zero_add _, by rw [Nat.sub_zero], Below.refl _ _, Stays.refl _ _⟩⟩ ?_
  clear HM hP hI
  rintro z W ⟨s0, s3, i, s', l', s11, hiC, HI⟩
  have HX2 := hid (HI.st X _ HX.out)
  have Hs := hid HI
  clear HI
  rw [fr196]
  simp only [s0, s3, s11]
  clear s0 s3 s11
  have hl1 := Hs.out.n
  have hi1 : i ≤ 100000 := by omega
  have x1 : W.cell? ⟨X, 1, none⟩ = some (.int .i64 p.come) := by rw [cell_of_row _ _ _ _ _ _ HX2.out]; rfl
  have l19 : W.cell? ⟨L, 19, none⟩ = some (.slice s'.wa s'.wn s'.wc) := by rw [cell_of_row _ _ _ _ _ _ Hs.out.M.bx]; rfl
  have hwn := Hs.out.P.wn Hs.out.M.lr
  have Hwn := hid hwn
  have Hl1 := hid hl1
  by_cases hlt : (i : Int) < p.come
  · have d1 : decide ((i : Int) < p.come) = true := decide_eq_true hlt
    cases hcs : l'.way with
    | nil =>
      have hn0 : s'.wn = 0 := by rw [hwn, hcs]; rfl
      have he := Hs.out.c
      rw [comes_nil hcs] at he
      rw [← he] at HQ
      have Hcs := hid hcs
      clear hwn hl1 hcs he
      go_wp2_with fail
      exact q_fr (N := 196) HQ.out rfl ⟨rfl, rfl, Hs.out.blw, Hs.out.st, s', Hs.out.M, Hs.out.P⟩
    | cons b ws =>
      have hn1 : 0 < s'.wn := by rw [hwn, hcs]; exact Nat.succ_pos _
      have hcc := Hs.out.c
      rw [show p.come.toNat - i = (p.come.toNat - (i + 1)) + 1 by omega, comes_cons hcs] at hcc
      have Hcc := hid hcc
      have Hcs := hid hcs
      clear hwn hl1 hcs hcc
      go_upto_block 3 with (fail)
      refine Tri.use (tck_20 ah pt pz L B X i b ws p s' l' hBL Hs.out.P Hs.out.I Hcs.out hi1 hlo) rfl ⟨rfl, rfl, rfl, Hs.out.M, HX2.out⟩ ?_
      rintro y4 W4 ⟨t0, t3, t11, hb4, hs4, s4, hm4, hp4⟩
      have HM4 := hid hm4
      have HP4 := hid hp4
      have HB4 := hid (Hs.out.blw.trans hb4)
      have HS4 := hid (Hs.out.st.trans hs4)
      have HI4 := hid (Hs.out.I.one Hcs.out (lzF p.lose i) (!p.full))
      have hn4 : i + 1 + (if lzF p.lose i = true then { l' with way := ws } else arrive { l' with way := ws } b (!p.full)).way.length = l.way.length := by
        have h1 := Hl1.out
        rw [Hcs.out, List.length_cons] at h1
        split
        · show i + 1 + ws.length = _; omega
        · rw [(arrive_facts _ _ _).2.1]; show i + 1 + ws.length = _; omega
      have HN4 := hid hn4
      clear hm4 hp4 hb4 hs4 hn4 x1 l19 hn1
      generalize (if lzF p.lose i = true then { l' with way := ws } else arrive { l' with way := ws } b (!p.full)) = l4 at *
      rw [fr196]
      simp only [t0, t3, t11]
      clear t0 t3 t11
      go_wp2_with fail
      refine ⟨rfl, rfl, ⟨rfl, rfl, i + 1, s4, l4, ?_, by omega, HM4.out, HP4.out, HI4.out, HN4.out, Hcc.out, HB4.out, HS4.out⟩, ?_⟩
      · show Value.int .i64 _ = Value.int .i64 _
        go_num
      · show p.come.toNat - (intOf (Value.int .i64 _)).toNat < _
        simp [intOf]
        omega
  · have d1 : decide ((i : Int) < p.come) = false := decide_eq_false hlt
    have he := Hs.out.c
    rw [show p.come.toNat - i = 0 by omega] at he
    have he2 : l' = comes (!p.full) (lzF p.lose) 0 p.come.toNat l := he
    rw [← he2] at HQ
    clear hwn hl1 he he2
    go_wp2_with fail
    exact q_fr (N := 196) HQ.out rfl ⟨rfl, rfl, Hs.out.blw, Hs.out.st, s', Hs.out.M, Hs.out.P⟩
end Go.Proofs.Ytkngoomkmbkenaa
