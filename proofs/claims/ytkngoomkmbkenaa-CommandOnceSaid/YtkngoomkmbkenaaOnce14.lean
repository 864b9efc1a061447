/- A hand is asked. -/
import Derived.Test.YtkngoomkmbkenaaOnce13
import Derived.Test.YtkngoomkmbkenaaOnce8
import Derived.Test.YtkngoomkmbkenaaOnce4
namespace Go.Proofs.Ytkngoomkmbkenaa
set_option linter.unusedVariables false
open Go.RowKit

/-- something is asked for -/
theorem RO.appQ {W W' : World} {B : Nat} {x : WS} (h : RO W B x) {va : Option Addr} {vc : Nat} {r : RB} (ho : OwnAt W' B 31 (.slice va (x.qn + 1) vc) (x.qn + 1) (rcs x.Rq ++ [.slice r.1.1 r.1.2.1 r.1.2.2])) (hg : W.grownBy W' x.qv.ownBlock) (hw : (Value.slice va (x.qn + 1) vc).ownBlock = x.qv.ownBlock ∨ ∃ k, (Value.slice va (x.qn + 1) vc).ownBlock = some k ∧ W.heap.size ≤ k)
    (hr : RdT 5 W r.1.1 r.1.2.1 r.1.2.2 (vb r.2) ∧ Lo B r) : RO W' B { x with qa := va, qn := x.qn + 1, qc := vc, Rq := x.Rq ++ [r] } := by
  have t5 := at_type h.qo (T' := 5) (by decide)
  refine ⟨h.so.kept hg h.sq.symm.ne, ?_, h.go.kept hg h.qg.ne, h.sr.kept hg t5, (h.qr.kept hg t5).append (fun y hy => ?_), h.gr.kept hg t5, apart_new h.so h.sq hw, h.sg, (apart_new h.go h.qg.symm hw).symm⟩
  · show OwnAt W' B 31 (.slice va (x.qn + 1) vc) (x.qn + 1) (rcs (x.Rq ++ [r]))
    rw [rcs_append]
    exact ho
  · rw [List.mem_singleton] at hy
    subst hy
    exact ⟨hr.1.kept hg t5, hr.2⟩
structure AskR (W0 W : World) (X B : Nat) (x : WS) (d : Nat) (e : Ending) : Prop where
  ex : ∃ qa qc ra rc, e = .returned (.int .i64 0) ∧ XM W X B { x with qa := qa, qn := x.qn + 1, qc := qc, Rq := x.Rq ++ [((ra, 1, rc), [d])] }
  blw : Below B W0 W
set_option maxRecDepth 1000000 in
set_option maxHeartbeats 8000000 in
theorem ask1_ok (X B D d : Nat) (a : Option Addr) (c : Nat) (x : WS) (w : World) (hB : B ≤ X) (hDB : D < B) (hM : XM w X B x) (hks : x.ks = []) (hq : x.qn ≤ 99) (hD : w.heap[D]? = some (.cells #[.slice a 1 c] 31)) (hr : RdT 5 w a 1 c (vb [d])) :
    Calls Try.prog 33 #[.pointer (some ⟨X, 0, none⟩), .pointer (some ⟨D, 0, none⟩)] w fun e w' => AskR w w' X B x d e := by
  obtain ⟨i0, hi0, hz0, hz1, hz2⟩ := info_parts Try.info31
  have HM := hid hM
  have HD := hid hD
  have Hr := hid hr
  have HlB := hid (show B ≤ w.heap.size from Nat.le_trans hB (Nat.le_of_lt (row_lt hM.bx)))
  have d0 : w.cell? ⟨D, 0, none⟩ = some (.slice a 1 c) := by rw [cell_of_row _ _ _ _ _ _ hD]; rfl
  have x4 : w.cell? ⟨X, 4, none⟩ = some (.slice x.qa x.qn x.qc) := by rw [cell_of_row _ _ _ _ _ _ hM.bx]; rfl
  have e1 : ((x.qn : Int) == 100) = false := by rw [beq_eq_false_iff_ne]; omega
  have e2 : decide ((x.qn : Int) = 100) = false := decide_eq_false (by omega)
  have e3 : (x.qn == 100) = false := by rw [beq_eq_false_iff_ne]; omega
  clear hM hD hr
  go_enter Try.func33, Try.ntmps33
  refine wp_seq_k (fun K0 hK0 => ?_)
  go_wp2_with fail
  refine hK0.out _ _ ?_
  refine wp_seq_k (fun K1 hK1 => ?_)
  go_wp2_with (go_at_call 12; refine (in_yes _ _ _ _ (by omega)).mono ?_; rintro e w' ⟨rfl, hw'⟩; rw [← hw']; clear hw' w')
  refine hK1.out _ _ ?_
  clear e1 e2 e3 d0 x4
  refine wp_seq_k (fun K2 hK2 => ?_)
  refine wp_region_late [13] [7, 8, 9, 13] [(true, [0, 1, 2, 3, 4, 5, 6, 7, 8, 9]), (false, [10, 11, 12, 13])] (fun u u' => u.grownBy u' x.qv.ownBlock) (fun _ _ => True) (fun _ => World.grownBy.refl _ _) (fun _ _ _ h k => grownBy_trans h k) (fun _ => trivial) (fun _ _ _ _ _ => trivial) (fun _ _ _ => trivial) (by kernel_rfl) (by kernel_rfl) ?_
  simp only [wpPh, List.map_cons, List.map_nil, List.contains_cons, List.contains_nil, List.getD_cons_zero, List.getD_cons_succ, Nat.reduceBEq, Bool.or_false, Bool.or_true]
  have HMU := hid (HM.out.below ((Below.refl _ w).drew))
  have HBU := hid ((Below.refl B w).drew)
  have HDU : Hid (w.drew.heap[D]? = _) := HD
  have HrU := hid (Hr.out.below ((Below.refl _ w).drew))
  clear HM HD Hr
  generalize w.drew = U at *
  have hXq : x.qv.ownBlock ≠ some X := at_type HMU.out.ro.qo (T' := 63) (by decide) X _ HMU.out.bx
  have hDq : x.qv.ownBlock ≠ some D := fun e => by have := (HMU.out.ro.qo.lt D e).1; omega
  have x4 : ∀ w', U.grownBy w' x.qv.ownBlock → w'.cell? ⟨X, 4, none⟩ = some (.slice x.qa x.qn x.qc) := fun w' h => by rw [cell_of_row _ _ _ _ _ _ ((h.block X (row_lt HMU.out.bx) (fun e => hXq e.symm)).trans HMU.out.bx)]; rfl
  have d0 : ∀ w', U.grownBy w' x.qv.ownBlock → w'.cell? ⟨D, 0, none⟩ = some (.slice a 1 c) := fun w' h => by rw [cell_of_row _ _ _ _ _ _ ((h.block D (row_lt HDU.out) (fun e => hDq e.symm)).trans HDU.out)]; rfl
  iterate 7 (refine wpL_do rfl (fun w' hw' => (by go_simp; rfl)) ?_; simp only [Act.put, List.setIfInBounds_toArray, List.set_cons_succ, List.set_cons_zero])
  clear x4 d0
  have hcl := hid (clone_any a 1 c [d] U HrU.out.rd (by omega))
  refine wpL_call rfl (fun K hK => ?_)
  go_wp2_with fail
  refine hcl.out.mono ?_
  rintro e U1 ⟨ra, rc, rfl, ho1, hb1⟩
  refine hK _ _ (grownBy_of_below hb1 _) ?_
  clear hK K hcl
  try simp only [Act.put, List.setIfInBounds_toArray, List.set_cons_succ, List.set_cons_zero]
  have O1 := hid (RdT.ofOwn ho1)
  have HLo : Hid (Lo B ((ra, 1, rc), [d])) := fun q hq => Nat.le_trans (Nat.le_trans hB (Nat.le_of_lt (row_lt HMU.out.bx))) (ho1.lt q hq).1
  have HM1 := hid (HMU.out.below hb1)
  have HB1 := hid (HBU.out.trans (hb1.mono (Nat.le_trans hB (Nat.le_of_lt (row_lt HMU.out.bx)))))
  clear ho1 hb1 HMU HBU HDU HrU hDq
  have b6 := below_alloc U1 (.cells #[.slice ra 1 rc] 31)
  have hy := heap_alloc_new U1 (.cells #[.slice ra 1 rc] 31)
  refine wpL_call rfl (fun K hK => ?_)
  go_wp2_with fail
  refine hK _ _ (grownBy_of_below b6 _) ?_
  clear hK K
  try simp only [Act.put, List.setIfInBounds_toArray, List.set_cons_succ, List.set_cons_zero]
  have O6 := hid (O1.out.below b6)
  have HM6 := hid (HM1.out.below b6)
  have HB6 := hid (HB1.out.trans (b6.mono (Nat.le_trans hB (Nat.le_of_lt (row_lt HM1.out.bx)))))
  obtain ⟨N1, hN1⟩ : ∃ N1, N1 = U1.heap.size := ⟨_, rfl⟩
  rw [← hN1] at hy ⊢
  clear hN1 b6 O1 HM1 HB1
  generalize U1.alloc (.cells #[.slice ra 1 rc] 31) = U2 at *
  have hy0 : U2.cell? ⟨N1, 0, none⟩ = some (.slice ra 1 rc) := by rw [cell_of_row _ _ _ _ _ _ hy]; rfl
  have hB2 : B ≤ U2.heap.size := Nat.le_trans hB (Nat.le_of_lt (row_lt HM6.out.bx))
  refine wpL_call rfl (fun K hK => ?_)
  refine wp_append_at (.tmp 22) (.tmp 25) 34 rfl B 31 i0 (.slice none 0 0) 24 Try.underlying34 hi0 hz0 hz1 hz2 rfl (.slice x.qa x.qn x.qc) x.qn (rcs x.Rq) rfl HM6.out.ro.qo ⟨N1, 0, none⟩ (.slice ra 1 rc) rfl hy0 rfl (by unfold maxLen; omega) (by omega) hB2 ?_
  intro v' U3 o3 g3 hw3
  obtain ⟨va, vc, rfl, _, _⟩ := o3.form
  refine hK _ _ g3 ?_
  clear hK K
  try simp only [Act.put, List.setIfInBounds_toArray, List.set_cons_succ, List.set_cons_zero]
  have HRO := hid (HM6.out.ro.appQ (r := ((ra, 1, rc), [d])) o3 g3 hw3 ⟨O6.out, HLo.out⟩)
  have HX3 := hid ((g3.block X (row_lt HM6.out.bx) (fun e => hXq e.symm)).trans HM6.out.bx)
  have HB3 := hid (HB6.out.grown g3 hB2 (fun k hk => (HM6.out.ro.qo.lt k hk).1))
  clear o3 g3 hw3 HM6 HB6 O6 hy hy0
  refine wpL_nil ?_
  iterate 3 (refine wpL_do rfl (fun w' hw' => (by go_simp; rfl)) ?_; simp only [Act.put, List.setIfInBounds_toArray, List.set_cons_succ, List.set_cons_zero])
  have x4 : U3.cell? ⟨X, 4, none⟩ = some (.slice x.qa x.qn x.qc) := by rw [cell_of_row _ _ _ _ _ _ HX3.out]; rfl
  have fz := frozen_row HX3.out 4
  obtain ⟨s1, s2⟩ := set_row (cs' := WS.cells { x with qa := va, qn := x.qn + 1, qc := vc, Rq := x.Rq ++ [((ra, 1, rc), [d])] }) HX3.out 4 (.slice va (x.qn + 1) vc) rfl
  have H7 : Hid (XM (U3.setCell ⟨X, 4, none⟩ (.slice va (x.qn + 1) vc)) X B { x with qa := va, qn := x.qn + 1, qc := vc, Rq := x.Rq ++ [((ra, 1, rc), [d])] }) := ⟨s1, HRO.out.other s2 HX3.out (by decide) (by decide), fun p hp => by
    have hp' : p ∈ x.ks := hp
    rw [hks] at hp'
    cases hp'⟩
  have HB7 := hid (HB3.out.grown s2 (Nat.le_trans hB (Nat.le_of_lt (row_lt HX3.out))) (fun k e => by cases e; exact hB))
  clear s1 s2 HRO HX3 HB3
  refine wpL_call rfl (fun K hK => ?_)
  go_wp2_with fail
  refine hK _ _ trivial ?_
  clear hK K x4 fz
  try simp only [Act.put, List.setIfInBounds_toArray, List.set_cons_succ, List.set_cons_zero]
  refine wpL_nil ?_
  refine hK2.out _ _ ?_
  generalize U3.setCell ⟨X, 4, none⟩ (.slice va (x.qn + 1) vc) = U4 at *
  go_wp2_with fail
  go_ret
  exact ⟨⟨va, vc, ra, rc, rfl, H7.out⟩, HB7.out⟩
end Go.Proofs.Ytkngoomkmbkenaa
/- Ask, whole. -/
namespace Go.Proofs.Ytkngoomkmbkenaa
set_option linter.unusedVariables false
open Go.RowKit

theorem ones_app (b k : Nat) {R : List RB} {a : Option Addr} {c d : Nat} (h : conts R = ones (List.range' b k)) (hd : d = b + k) : conts (R ++ [((a, 1, c), [d])]) = ones (List.range' b (k + 1)) := by
  rw [conts_append, h, ones_snoc, hd]
  rfl
structure AskS (ah pt pz : Nat) (W0 W : World) (h : HS) (e : Ending) : Prop where
  ex : ∃ x2, e = .returned (.tuple #[.agg x2.hand, .int .i64 0]) ∧ RO W W0.heap.size x2 ∧ WL ah pt pz { h with A := h.A + 1 } x2
  blw : Below W0.heap.size W0 W
set_option maxRecDepth 1000000 in
set_option maxHeartbeats 8000000 in
theorem ask_ok (ah pt pz d : Nat) (a : Option Addr) (c : Nat) (h : HS) (x : WS) (r : Nat) (w : World) (hM : HM w x) (H : WL ah pt pz h x) (hk : HOk ah pt pz r h) (hah0 : 0 < ah) (hah1 : ah ≤ 100) (hpt0 : 0 < pt) (hpt : pt ≤ 1000) (hpz : pz ≤ 1000)
    (hA : h.A < 100) (hd : d = h.A) (hr : RdT 5 w a 1 c (vb [d])) :
    Calls Try.prog 24 #[.agg x.hand, .slice a 1 c] w fun e w' => AskS ah pt pz w w' h e := by
  have A0 := heap_alloc_new w (.cells x.hand 36)
  have b0 := below_alloc w (.cells x.hand 36)
  generalize hV0 : w.alloc (.cells x.hand 36) = V0 at *
  have A1 := heap_alloc_new V0 (.cells #[.slice a 1 c] 31)
  have b1 := below_alloc V0 (.cells #[.slice a 1 c] 31)
  generalize hV1 : V0.alloc (.cells #[.slice a 1 c] 31) = V1 at *
  have A3 := heap_alloc_new V1 (.cells #[.int .i64 0, .int .i64 0, .int .i64 0, .slice none 0 0, .slice none 0 0, .int .i64 0, .int .i64 0, .int .i64 0, .int .i64 0, .int .i64 0, .int .i64 0, .int .i64 0] 36)
  have b3 := below_alloc V1 (.cells #[.int .i64 0, .int .i64 0, .int .i64 0, .slice none 0 0, .slice none 0 0, .int .i64 0, .int .i64 0, .int .i64 0, .int .i64 0, .int .i64 0, .int .i64 0, .int .i64 0] 36)
  have z1 : V0.heap.size = w.heap.size + 1 := by rw [← hV0]; simp
  have z2 : V1.heap.size = w.heap.size + 2 := by rw [← hV1, World.size_alloc, z1]
  obtain ⟨P, hP⟩ : ∃ P, P = w.heap.size := ⟨_, rfl⟩
  rw [← hP] at z1 z2 A0
  rw [z1] at A1
  rw [z2] at A3
  have HA0 := hid (row_below (row_below A0 b1) b3)
  have HA1 := hid (row_below A1 b3)
  have HA3 := hid A3
  have hB1 := b0.trans (b1.mono b0.size)
  have HB := hid (hB1.trans (b3.mono hB1.size))
  have HM0 := hid hM
  have HH := hid H
  have HK := hid hk
  have HP := hid hP
  have Hr := hid hr
  have Hd := hid hd
  have HV : Hid (V1 = (w.alloc (.cells x.hand 36)).alloc (.cells #[.slice a 1 c] 31)) := by rw [← hV1, ← hV0]; exact rfl
  rw [HV.out] at HA0 HA1 HA3 HB
  clear hV0 hV1 HV A0 A1 A3 b0 b1 b3 hB1 hM H hk hP z1 z2 hr hd V0 V1
  unfold WS.hand at *
  go_enter Try.func24, Try.ntmps24
  refine wp_seq_k (fun K0 hK0 => ?_)
  go_wp2_with fail
  rw [← HP.out]
  refine hK0.out _ _ ?_
  generalize ((w.alloc (.cells #[.int .i64 3, .int .i64 (x.N : Int), .int .i64 (x.ah : Int), .slice x.sa x.sn x.sc, .slice x.qa x.qn x.qc, .int .i64 (x.tm : Int), .int .i64 (x.pt : Int), .int .i64 (x.tr : Int), .int .i64 100, .int .i64 (x.si : Int), .int .i64 (x.pz : Int), .int .i64 (x.ha : Int)] 36)).alloc (.cells #[.slice a 1 c] 31)).alloc (.cells #[.int .i64 0, .int .i64 0, .int .i64 0, .slice none 0 0, .slice none 0 0, .int .i64 0, .int .i64 0, .int .i64 0, .int .i64 0, .int .i64 0, .int .i64 0, .int .i64 0] 36) = W at *
  obtain ⟨c0, c1, c2, c3, c4, c5, c6, c7, c8, c9, c10, c11⟩ := hAt_row (show W.heap[P]? = some (.cells (hcells 3 (x.N : Int) (x.ah : Int) (.slice x.sa x.sn x.sc) (.slice x.qa x.qn x.qc) (x.tm : Int) (x.pt : Int) (x.tr : Int) 100 (x.si : Int) (x.pz : Int) (x.ha : Int)) 36) from HA0.out)
  have hMW := HM0.out.below HB.out
  have hrW := Hr.out.below HB.out
  have hqn : x.qn ≤ 99 := by have := HH.out.qn; omega
  have hlt1 := row_lt HA1.out
  have hg := hid (gen_ok 33 (.inl rfl) #[.pointer (some ⟨P + 1, 0, none⟩)] (fun er' x2 => er' = 0 ∧ WL ah pt pz { h with A := h.A + 1 } x2) x W
    (HH.out.hn HK.out hah0 hah1 hpt0 hpt hpz) hMW.s hMW.q (ones_one HH.out.S) (ones_one HH.out.Q) (fun X B w1 sa sc R1 qa qc R2 hB hBX hb1 hM1 hk1 hk2 => by
      refine (ask1_ok X B (P + 1) d a c (x.begun sa sc R1 qa qc R2) w1 hBX (by omega) hM1 rfl hqn (row_below HA1.out hb1) (hrW.below hb1)).mono ?_
      rintro e w2 ⟨⟨qa2, qc2, ra, rc, rfl, hM2⟩, hb2⟩
      refine ⟨0, _, rfl, ⟨rfl, ?_⟩, hM2, hb2⟩
      obtain ⟨e1, e2, e3, e4, e5, e6, e7, e8, e9, e10, e11, e12⟩ := HH.out
      have hNA := HK.out.NA
      refine ⟨e1, e2, ?_, hk1.trans e4, ones_app _ _ (hk2.trans e5) ?_, e6, e7, e8, e9, e10, e11, e12⟩
      · show x.qn + 1 = h.A + 1 - h.N
        omega
      · show d = h.N + x.qn
        have := Hd.out
        omega))
  clear hMW hrW
  refine wp_seq_k (fun K1 hK1 => ?_)
  have fzP := frozen_row HA0.out
  go_wp2_with fail
  refine hg.out.mono ?_
  rintro e V ⟨⟨er2, x2, rfl, ⟨rfl, hW2⟩, hro⟩, hb⟩
  have HW2 := hid hW2
  have HRO := hid hro
  have HA4 := hid (row_below HA3.out hb)
  have HA04 := hid (row_below HA0.out hb)
  have HB4 := hid (HB.out.trans (hb.mono HB.out.size))
  have hszW := HB.out.size
  clear hW2 hro hb hg c0 c1 c2 c3 c4 c5 c6 c7 c8 c9 c10 c11 HA0 HA1 HA3 HB fzP
  unfold WS.hand
  obtain ⟨c0, c1, c2, c3, c4, c5, c6, c7, c8, c9, c10, c11⟩ := hAt_row (show V.heap[P]? = some (.cells (hcells 3 (x.N : Int) (x.ah : Int) (.slice x.sa x.sn x.sc) (.slice x.qa x.qn x.qc) (x.tm : Int) (x.pt : Int) (x.tr : Int) 100 (x.si : Int) (x.pz : Int) (x.ha : Int)) 36) from HA04.out)
  have fz := frozen_row HA04.out
  obtain ⟨f1, f2⟩ := twelve HA04.out (.int .i64 3) (.int .i64 (x2.N : Int)) (.int .i64 (x2.ah : Int)) (.slice x2.sa x2.sn x2.sc) (.slice x2.qa x2.qn x2.qc) (.int .i64 (x2.tm : Int)) (.int .i64 (x2.pt : Int)) (.int .i64 (x2.tr : Int)) (.int .i64 100) (.int .i64 (x2.si : Int)) (.int .i64 (x2.pz : Int)) (.int .i64 (x2.ha : Int))
  have HF1 := hid f1
  have HF2 := hid f2
  clear f1 f2
  go_wp2_with fail
  refine hK1.out _ _ ?_
  have HRO5 := hid (HRO.out.other HF2.out HA04.out (by decide) (by decide))
  have HA5 := hid (row_grown HA4.out HF2.out (by omega))
  have HB5 := hid (HB4.out.grown HF2.out HB4.out.size (fun k e => by cases e; rw [← HP.out]; exact Nat.le_refl _))
  clear fz c0 c1 c2 c3 c4 c5 c6 c7 c8 c9 c10 c11 HF2 HRO HA4 HB4 HA04
  generalize (((((((((((V.setCell ⟨P, 0, none⟩ (.int .i64 3)).setCell ⟨P, 1, none⟩ (.int .i64 (x2.N : Int))).setCell ⟨P, 2, none⟩ (.int .i64 (x2.ah : Int))).setCell ⟨P, 3, none⟩ (.slice x2.sa x2.sn x2.sc)).setCell ⟨P, 4, none⟩ (.slice x2.qa x2.qn x2.qc)).setCell ⟨P, 5, none⟩ (.int .i64 (x2.tm : Int))).setCell ⟨P, 6, none⟩ (.int .i64 (x2.pt : Int))).setCell ⟨P, 7, none⟩ (.int .i64 (x2.tr : Int))).setCell ⟨P, 8, none⟩ (.int .i64 100)).setCell ⟨P, 9, none⟩ (.int .i64 (x2.si : Int))).setCell ⟨P, 10, none⟩ (.int .i64 (x2.pz : Int))).setCell ⟨P, 11, none⟩ (.int .i64 (x2.ha : Int)) = V5 at *
  obtain ⟨c0, c1, c2, c3, c4, c5, c6, c7, c8, c9, c10, c11⟩ := hAt_row (show V5.heap[P]? = some (.cells (hcells 3 (x2.N : Int) (x2.ah : Int) (.slice x2.sa x2.sn x2.sc) (.slice x2.qa x2.qn x2.qc) (x2.tm : Int) (x2.pt : Int) (x2.tr : Int) 100 (x2.si : Int) (x2.pz : Int) (x2.ha : Int)) 36) from HF1.out)
  obtain ⟨z0, z1, z2, z3, z4, z5, z6, z7, z8, z9, z10, z11⟩ := hAt_row (show V5.heap[P + 2]? = some (.cells (hcells 0 0 0 (.slice none 0 0) (.slice none 0 0) 0 0 0 0 0 0 0) 36) from HA5.out)
  have fz := frozen_row HA5.out
  obtain ⟨f1, f2⟩ := twelve HA5.out (.int .i64 3) (.int .i64 (x2.N : Int)) (.int .i64 (x2.ah : Int)) (.slice x2.sa x2.sn x2.sc) (.slice x2.qa x2.qn x2.qc) (.int .i64 (x2.tm : Int)) (.int .i64 (x2.pt : Int)) (.int .i64 (x2.tr : Int)) (.int .i64 100) (.int .i64 (x2.si : Int)) (.int .i64 (x2.pz : Int)) (.int .i64 (x2.ha : Int))
  have HF3 := hid f1
  have HF4 := hid f2
  clear f1 f2
  go_wp2_with fail
  have HRO8 := hid (HRO5.out.other HF4.out HA5.out (by decide) (by decide))
  have HB8 := hid (HB5.out.grown HF4.out HB5.out.size (fun k e => by cases e; rw [← HP.out]; omega))
  clear fz z0 z1 z2 z3 z4 z5 z6 z7 z8 z9 z10 z11 c0 c1 c2 c3 c4 c5 c6 c7 c8 c9 c10 c11 HF4 HRO5 HA5 HB5
  generalize (((((((((((V5.setCell ⟨P + 2, 0, none⟩ (.int .i64 3)).setCell ⟨P + 2, 1, none⟩ (.int .i64 (x2.N : Int))).setCell ⟨P + 2, 2, none⟩ (.int .i64 (x2.ah : Int))).setCell ⟨P + 2, 3, none⟩ (.slice x2.sa x2.sn x2.sc)).setCell ⟨P + 2, 4, none⟩ (.slice x2.qa x2.qn x2.qc)).setCell ⟨P + 2, 5, none⟩ (.int .i64 (x2.tm : Int))).setCell ⟨P + 2, 6, none⟩ (.int .i64 (x2.pt : Int))).setCell ⟨P + 2, 7, none⟩ (.int .i64 (x2.tr : Int))).setCell ⟨P + 2, 8, none⟩ (.int .i64 100)).setCell ⟨P + 2, 9, none⟩ (.int .i64 (x2.si : Int))).setCell ⟨P + 2, 10, none⟩ (.int .i64 (x2.pz : Int))).setCell ⟨P + 2, 11, none⟩ (.int .i64 (x2.ha : Int)) = V8 at *
  obtain ⟨y0, y1, y2, y3, y4, y5, y6, y7, y8, y9, y10, y11⟩ := hAt_row (show V8.heap[P + 2]? = some (.cells (hcells 3 (x2.N : Int) (x2.ah : Int) (.slice x2.sa x2.sn x2.sc) (.slice x2.qa x2.qn x2.qc) (x2.tm : Int) (x2.pt : Int) (x2.tr : Int) 100 (x2.si : Int) (x2.pz : Int) (x2.ha : Int)) 36) from HF3.out)
  refine bodyPost_ret (by simp only [results, Try.results24, go_sem]; simp [go_sem, y0, y1, y2, y3, y4, y5, y6, y7, y8, y9, y10, y11]; rfl) rfl ?_
  have h9 := HRO8.out
  exact ⟨⟨x2, rfl, h9.mono hszW, HW2.out⟩, HB8.out⟩
end Go.Proofs.Ytkngoomkmbkenaa
/- append of a row that reads onto an own slice that may begin anywhere in its block. -/
namespace Go.Proofs.Ytkngoomkmbkenaa
set_option linter.unusedVariables false
open Go.RowKit

theorem OwnAt.store1 {w : World} {B e n g o cap : Nat} {xs : List Value} (h : OwnAt w B e (.slice (some ⟨g, o, none⟩) n cap) n xs) (hr : n + 1 ≤ cap) (x : Value) :
    OwnAt (w.setCell ⟨g, o + n, none⟩ x) B e (.slice (some ⟨g, o, none⟩) (n + 1) cap) (n + 1) (xs ++ [x]) ∧ w.grownBy (w.setCell ⟨g, o + n, none⟩ x) (some g) := by
  rcases h.2 with ⟨hv, h0⟩ | ⟨g', o', cap', cur, hv, h2, h3, h4, h5, h6, h7⟩
  · cases hv
  · cases hv
    obtain ⟨q1, q2⟩ := set_row (cs' := cur.setIfInBounds (o + n) x) h3 (o + n) x rfl
    refine ⟨⟨by rw [List.length_append, h.1]; rfl, .inr ⟨g, o, cap, cur.setIfInBounds (o + n) x, rfl, h2, q1, hr, h5, by simpa using h6, fun j hj => ?_⟩⟩, q2⟩
    have hl := h.1
    by_cases e : j = n
    · subst e
      rw [Array.getElem?_setIfInBounds_self_of_lt (by omega), List.getElem?_append_right (by omega), hl, Nat.sub_self]
      rfl
    · rw [Array.getElem?_setIfInBounds_ne (by omega), List.getElem?_append_left (by omega)]
      exact h7 j (by omega)
theorem OwnAt.stores {B e g o cap : Nat} : ∀ (vs xs : List Value) (n : Nat) (w : World), OwnAt w B e (.slice (some ⟨g, o, none⟩) n cap) n xs → n + vs.length ≤ cap →
    OwnAt (w.setCells g (o + n) vs) B e (.slice (some ⟨g, o, none⟩) (n + vs.length) cap) (n + vs.length) (xs ++ vs) ∧ w.grownBy (w.setCells g (o + n) vs) (some g)
  | [], xs, n, w, h, _ => ⟨by rw [List.append_nil]; exact h, World.grownBy.refl _ _⟩
  | v :: vs, xs, n, w, h, hr => by
    rw [List.length_cons] at hr
    obtain ⟨h1, h2⟩ := h.store1 (by omega) v
    have h3 := OwnAt.stores vs (xs ++ [v]) (n + 1) _ h1 (by omega)
    rw [← Nat.add_assoc, List.append_assoc] at h3
    rw [List.length_cons, show n + (vs.length + 1) = n + 1 + vs.length by omega]
    exact ⟨h3.1, grownBy_trans h2 h3.2⟩
theorem run_append_many {P : Program} (w : World) (B t ty e : Nat) (i : TypeInfo) (z : Value) (bytes : Nat) (ht : P.underlying t = some (.slice e)) (hi : P.info? e = some i) (hz : i.zero = some z) (hsize : i.size = 1) (hby : i.bytes = bytes) (hzs : z.cells.size = 1)
    (v : Value) (n : Nat) (xs : List Value) (h : OwnAt w B e v n xs) (ad : Addr) (m c : Nat) (ys : List Value) (hrd : Rd w (some ad) m c ys) (h1 : ∀ u ∈ ys, u.oneCell' = true) (h63 : n + m ≤ maxLen) (hbytes : (n + m) * bytes ≤ 140737488355328) (hB : B ≤ w.heap.size) :
    ∃ v' w', (Builtin.append_ #[t, t] ty #[v, .slice (some ad) m c]).run P w = .ok v' w' ∧ OwnAt w' B e v' (n + m) (xs ++ ys) ∧ w.grownBy w' v.ownBlock ∧ (v'.ownBlock = v.ownBlock ∨ ∃ k, v'.ownBlock = some k ∧ w.heap.size ≤ k) := by
  have hlen := hrd.len
  have hnews : ∀ (j : Nat) (u : Value), ys[j]? = some u → w.cell? (ad.add j) = some u := by
    intro j u hj
    have hjn : j < m := by have h1 := (List.getElem?_eq_some_iff.1 hj).1; omega
    obtain ⟨b', off', ha, _, hc⟩ := hrd.mem (by omega)
    cases ha
    rw [Addr.add_lit, hc j hjn]
    exact hj
  rcases h.2 with ⟨hv, h0⟩ | ⟨g, o, cap, cur, hv, h2, h3, h4, h5, h6, h7⟩
  · subst h0
    obtain rfl : xs = [] := List.eq_nil_of_length_eq_zero h.1
    subst hv
    obtain ⟨v', w', hrun, r1, r2, r3⟩ := run_append_own (P := P) w w.heap.size t ty e i z 1 bytes ht hi hz hsize hby hzs (by decide) (.slice none 0 0) 0 [] (World.ownsRow_nil w w.heap.size e 1) ad m c ys (by omega) hnews h1 h63 hbytes (Nat.le_refl _)
    refine ⟨v', w', hrun, (OwnAt.of r1).mono hB, r2, ?_⟩
    rcases r1.2 with ⟨h1, h2⟩ | ⟨g, cap, cur, h1, h2, h3, _⟩
    · rw [h1]; exact .inl rfl
    · exact .inr ⟨g, by rw [h1]; rfl, h2⟩
  · subst hv
    by_cases hr : n + m ≤ cap
    · have hc : ∀ j, j < ys.length → (w.cell? ⟨g, o + n * i.size + j, none⟩).isSome = true := fun j hj => by
        rw [hsize, Nat.mul_one, cell_of_row _ _ _ _ _ _ h3, Array.getElem?_eq_getElem (by omega)]
        rfl
      have hrun := run_append_room_cells (P := P) w t ty e i ht hi g o n cap ad m c ys (by rw [hsize]; omega) hnews h1 hr hc (fun j _ => frozen_row h3 _)
      rw [hsize, Nat.mul_one] at hrun
      obtain ⟨q1, q2⟩ := OwnAt.stores ys xs n w h (by omega)
      rw [hlen] at q1
      exact ⟨_, _, hrun, q1, q2, .inl rfl⟩
    · obtain ⟨v', w', hrun, r1, r2⟩ := run_append_arg_grows (P := P) w t ty e i z 1 bytes ht hi hz hsize hby hzs (by decide) ⟨g, o, none⟩ n cap xs (by rw [h.1, Nat.mul_one]) (fun j u hj => by
        rw [Addr.add_lit, cell_of_row _ _ _ _ _ _ h3, ← hj]
        exact h7 j (by have := (List.getElem?_eq_some_iff.1 hj).1; have := h.1; omega)) ad m c ys (by omega) hnews (by omega) h63 hbytes
      refine ⟨v', w', hrun, (OwnAt.of r1).mono hB, ⟨r2.os, r2.tape, r2.output, r2.size, fun k hk _ => r2.block k hk (by simp)⟩, ?_⟩
      rcases r1.2 with ⟨h1, h2⟩ | ⟨g', cap', cur', h1, h2, h3, _⟩
      · have := h.1
        refine .inl ?_
        omega
      · exact .inr ⟨g', by rw [h1]; rfl, h2⟩
theorem run_append_noneAt {P : Program} (w : World) (B t ty e : Nat) (i : TypeInfo) (ht : P.underlying t = some (.slice e)) (hi : P.info? e = some i) (v : Value) (n : Nat) (xs : List Value) (h : OwnAt w B e v n xs) :
    (Builtin.append_ #[t, t] ty #[v, .slice none 0 0]).run P w = .ok v w := by
  rcases h.2 with ⟨hv, h0⟩ | ⟨g, o, cap, cur, hv, h2, h3, h4, h5, h6, h7⟩
  · subst hv
    simp [Builtin.append_, run_underlying ht, sizeOf, typeInfo, hi, Builtin.lenOf, Builtin.firstCells]
  · subst hv
    simp [Builtin.append_, run_underlying ht, sizeOf, typeInfo, hi, Builtin.lenOf, Builtin.firstCells, h4, storeCells]
theorem wpList_append_many {P : Program} {w : World} {ops : Array Oper} {rest : List Oper} {o : Oper} {a : Act} {Q : Exit → Act → World → Prop} (hgd : o.guard = none) (s x : Operand) (t : TypeId)
    (ho : o.op = .call { callee := .builtin .append, args := #[s, x], argTypes := #[t, t] })
    (B : Nat) (e : TypeId) (i : TypeInfo) (z : Value) (bytes : Nat) (ht : P.underlying t = some (.slice e)) (hi : P.info? e = some i) (hz : i.zero = some z) (hsize : i.size = 1) (hby : i.bytes = bytes) (hzs : z.cells.size = 1)
    (v : Value) (n : Nat) (xs : List Value) (hs : a.eval s = v) (hown : OwnAt w B e v n xs) (bo : Option Addr) (m c : Nat) (ys : List Value) (hx : a.eval x = .slice bo m c) (hrd : Rd w bo m c ys) (h1 : ∀ u ∈ ys, u.oneCell' = true) (h63 : n + m ≤ maxLen) (hbytes : (n + m) * bytes ≤ 140737488355328) (hB : B ≤ w.heap.size)
    (h : ∀ v' w', OwnAt w' B e v' (n + m) (xs ++ ys) → w.grownBy w' v.ownBlock → (v'.ownBlock = v.ownBlock ∨ ∃ k, v'.ownBlock = some k ∧ w.heap.size ≤ k) → wpList P ops Q rest (a.put o.dst v') w') : wpList P ops Q (o :: rest) a w :=
  wpList_plain hgd fun K hK => by
    cases bo with
    | none =>
      obtain rfl := hrd.isnil rfl
      obtain rfl : m = 0 := by have := hrd.le; omega
      obtain rfl : ys = [] := List.eq_nil_of_length_eq_zero hrd.len
      have hrun := run_append_noneAt (P := P) w B t o.type e i ht hi v n xs hown
      unfold Oper.wp
      simp [execOp, ho, resolve, invoke, builtin, hs, hx, hrun, Result.andThen]
      exact hK _ _ (h v w (by rw [List.append_nil]; exact hown) (World.grownBy.refl _ _) (.inl rfl))
    | some ad =>
      obtain ⟨v', w', hrun, r1, r2, r3⟩ := run_append_many (P := P) w B t o.type e i z bytes ht hi hz hsize hby hzs v n xs hown ad m c ys hrd h1 h63 hbytes hB
      unfold Oper.wp
      simp [execOp, ho, resolve, invoke, builtin, hs, hx, hrun, Result.andThen]
      exact hK _ _ (h v' w' r1 r2 r3)
end Go.Proofs.Ytkngoomkmbkenaa
