/- The walk stops at the operation that fills a given slot. -/
import Derived.WalkKit
import Derived.Test.YtkngoomkmbkenaaOnce18
import Derived.Test.YtkngoomkmbkenaaOnce8
namespace Go.Proofs.Ytkngoomkmbkenaa
set_option linter.unusedVariables false
open Go.RowKit

theorem at_dst {P : Program} {ops : Array Oper} {Q : Exit → Act → World → Prop} {rest : List Oper} {a : Act} {w : World} (d : Nat) {op : Op} {t : TypeId} {pos : String} {after : Array Edge} {guard : Option (Nat × Bool)}
    (h : Hid (wpList P ops Q ({ dst := some d, op := op, type := t, pos := pos, after := after, guard := guard } :: rest) a w)) : wpList P ops Q ({ dst := some d, op := op, type := t, pos := pos, after := after, guard := guard } :: rest) a w := h
end Go.Proofs.Ytkngoomkmbkenaa
/- tick: the hand is laid back; what goes up is on its way. -/
namespace Go.Proofs.Ytkngoomkmbkenaa
set_option linter.unusedVariables false
open Go.RowKit

def LS.rest (s : LS) : List Value := [.int .i64 s.g.cr, .int .i64 s.g.nx, .int .i64 s.g.hf, .bool s.g.sh, .bool s.g.wa, .bool s.g.ag, .int .i64 s.g.ct, .slice s.wa s.wn s.wc, .slice s.oa s.on s.oc, .slice s.da s.dn s.dc, .int .i64 (s.A : Int), .int .i64 s.st, .bool s.hd]
theorem LS.cells_eq (s : LS) : s.cells = ([] ++ (s.x.hand.toList ++ s.rest)).toArray := rfl
/-- the hand's cells are stored -/
theorem lay_hand {W : World} {L : Nat} {s : LS} {x2 : WS} (h : W.heap[L]? = some (.cells s.cells 44)) : (W.setCells L 0 x2.hand.toList).heap[L]? = some (.cells ({ s with x := x2 } : LS).cells 44) ∧ W.grownBy (W.setCells L 0 x2.hand.toList) (some L) := by
  rw [LS.cells_eq] at h
  exact set_cells s.rest x2.hand.toList [] s.x.hand.toList W h rfl
structure UpM (W : World) (B : Nat) (s : LS) (x2 : WS) : Prop where
  go : OwnAt W B 31 x2.gv x2.gn (rcs x2.Rg)
  gr : RR W B x2.Rg
  aw : Apart x2.gv s.wv
  ao : Apart x2.gv s.ov
  fd : OffR s.dv x2.Rg
theorem UpM.other {W W' : World} {B k T : Nat} {s : LS} {x2 : WS} {cs : Array Value} (h : UpM W B s x2) (hg : W.grownBy W' (some k)) (hk : W.heap[k]? = some (.cells cs T)) (h1 : 31 ≠ T) (h2 : T ≠ 5) : UpM W' B s x2 :=
  ⟨h.go.kept hg (h.go.ne hk h1), h.gr.kept hg (row_type hk h2), h.aw, h.ao, h.fd⟩
theorem UpM.of {W W' : World} {B : Nat} {s : LS} {x2 : WS} (h : LR W B s) (hB : B ≤ W.heap.size) (ho : RO W' W.heap.size x2) : UpM W' B s x2 := by
  have ap : ∀ {v : Value} {n m : Nat} {ys : List Value}, OwnAt W B 31 v m ys → Apart x2.gv v := fun hv k h1 h2 => by
    have a := (ho.go.lt k h1).1
    have b := (hv.lt k h2).2
    omega
  exact ⟨ho.go.mono hB, ho.gr.mono hB, ap (n := 0) h.wo, ap (n := 0) h.oo, off_new h.dO (fun r hr => (ho.gr r hr).2)⟩
set_option maxRecDepth 1000000 in
set_option maxHeartbeats 4000000 in
theorem tck_12 (L B D : Nat) (s : LS) (x2 : WS) (hBL : B ≤ L) :
    Tri Try.prog 196 (pieceOf Try.f11 [1, 1, 1, 1, 0]) (fun y w => y 0 = .pointer (some ⟨L, 0, none⟩) ∧ y 8 = .pointer (some ⟨D, 0, none⟩) ∧ w.heap[D]? = some (.cells x2.hand 36) ∧ w.heap[L]? = some (.cells s.cells 44) ∧ LR w B { s with x := x2 } ∧ UpM w B s x2)
      (fun y w y' w' => y' 0 = .pointer (some ⟨L, 0, none⟩) ∧ y' 3 = y 3 ∧ y' 9 = y 9 ∧ LM w' L B { s with x := x2, hd := false } ∧ UpM w' B { s with x := x2, hd := false } x2 ∧ w.grownBy w' (some L)) := by
  rintro Q y w ⟨s0, s8, hD, hL, hR, hU⟩ hQ
  have HQ := hid hQ
  clear hQ
  dsimp only at HQ
  have hDL : D ≠ L := ne_tt hD hL (by decide)
  have HH := hid (hAt_row (show w.heap[D]? = some (.cells (hcells 3 (x2.N : Int) (x2.ah : Int) (.slice x2.sa x2.sn x2.sc) (.slice x2.qa x2.qn x2.qc) (x2.tm : Int) (x2.pt : Int) (x2.tr : Int) 100 (x2.si : Int) (x2.pz : Int) (x2.ha : Int)) 36) from hD))
  obtain ⟨c0, c1, c2, c3, c4, c5, c6, c7, c8, c9, c10, c11⟩ := HH.out
  have HL := hid hL
  have HR := hid hR
  have HU := hid hU
  have hth := hid (there_row (show w.heap[L]? = some (.cells (s.x.hand.toList ++ s.rest).toArray 44) from hL) 0 12 (by show 0 + 12 ≤ 25; omega))
  clear hD hL hR hU HH hDL
  conv => arg 2; whnf
  rw [fr196]
  simp only [s0, s8]
  clear s0 s8
  go_wp2_with (with_reducible refine at_store 36 ?_)
  unfold Hid
  clear c0 c1 c2 c3 c4 c5 c6 c7 c8 c9 c10 c11
  refine wpList_store_mid rfl 36 _ _ rfl L 0 x2.hand rfl rfl hth.out (by kernel_rfl) (by unfold WS.hand; simp [Value.oneCell']) ?_
  obtain ⟨m1, m2⟩ := lay_hand (x2 := x2) HL.out
  have HR2 := hid (HR.out.other m2 HL.out (by decide) (by decide))
  have HU2 := hid (HU.out.other m2 HL.out (by decide) (by decide))
  have HL2 := hid m1
  have HG := hid m2
  clear m1 m2 HL HR HU hth
  generalize w.setCells L 0 x2.hand.toList = V at *
  have l24 : V.cell? ⟨L, 24, none⟩ = some (.bool s.hd) := by rw [cell_of_row _ _ _ _ _ _ HL2.out]; rfl
  have fz := frozen_row HL2.out 24
  obtain ⟨m1, m2⟩ := set_row (cs' := ({ s with x := x2, hd := false } : LS).cells) HL2.out 24 (.bool false) rfl
  have HM3 : Hid (LM (V.setCell ⟨L, 24, none⟩ (.bool false)) L B { s with x := x2, hd := false }) := ⟨m1, (HR2.out.nums s.g s.A s.st false).other m2 HL2.out (by decide) (by decide)⟩
  have HU3 := hid (HU2.out.other m2 HL2.out (by decide) (by decide))
  have HG3 := hid (grownBy_trans HG.out m2)
  clear m1 m2 HR2 HU2 HL2 HG
  go_wp2_with fail
  exact q_fr (N := 196) HQ.out rfl ⟨rfl, rfl, rfl, HM3.out, ⟨HU3.out.go, HU3.out.gr, HU3.out.aw, HU3.out.ao, HU3.out.fd⟩, HG3.out⟩
end Go.Proofs.Ytkngoomkmbkenaa
/- tick: what goes up is laid on the way, and kept. -/
namespace Go.Proofs.Ytkngoomkmbkenaa
set_option linter.unusedVariables false
open Go.RowKit
set_option maxRecDepth 1000000 in
set_option maxHeartbeats 4000000 in
theorem tck_13 (L B : Nat) (s sq : LS) (x2 : WS) (hBL : B ≤ L) (hov : sq.wv = s.wv) (hdv : sq.dv = s.dv) (hn : s.wn + x2.gn ≤ 200000) :
    Tri Try.prog 196 (pieceOf Try.f11 [1, 1, 1, 1, 1, 0]) (fun y w => y 0 = .pointer (some ⟨L, 0, none⟩) ∧ y 9 = .slice x2.ga x2.gn x2.gc ∧ LM w L B s ∧ UpM w B sq x2)
      (fun y w y' w' => y' 0 = .pointer (some ⟨L, 0, none⟩) ∧ y' 3 = y 3 ∧ y' 9 = .slice x2.ga x2.gn x2.gc ∧ Below B w w' ∧ Stays 49 w w' ∧ ∃ va vc, LM w' L B { s with wa := va, wn := s.wn + x2.gn, wc := vc, Rw := s.Rw ++ x2.Rg } ∧ UpM w' B sq x2) := by
  rintro Q y w ⟨s0, s9, hM, hU⟩ hQ
  obtain ⟨i0, hi0, hz0, hz1, hz2⟩ := info_parts Try.info31
  have HQ := hid hQ
  clear hQ
  dsimp only at HQ
  have HM := hid hM
  have HU := hid hU
  have hc : w.cell? ⟨L, 19, none⟩ = some (.slice s.wa s.wn s.wc) := by rw [cell_of_row _ _ _ _ _ _ hM.bx]; rfl
  have hBw : B ≤ w.heap.size := Nat.le_trans hBL (Nat.le_of_lt (row_lt hM.bx))
  have hgo := hU.go
  have hap : Apart x2.gv s.wv := hov ▸ hU.aw
  have hfd : OffR s.dv x2.Rg := hdv ▸ hU.fd
  clear hM hU
  conv => arg 2; whnf
  rw [fr196]
  simp only [s0, s9]
  clear s0 s9
  go_wp2_with (with_reducible refine at_dst 90 ?_)
  unfold Hid
  clear hc
  refine wpList_append_many rfl _ _ 34 rfl B 31 i0 (.slice none 0 0) 24 Try.underlying34 hi0 hz0 hz1 hz2 rfl (.slice s.wa s.wn s.wc) s.wn (rcs s.Rw) rfl HM.out.lr.wo x2.ga x2.gn x2.gc (rcs x2.Rg) rfl HU.out.go.rd (rcs_one _) (by unfold maxLen; omega) (by omega) hBw ?_
  intro v' V o3 g3 hw3
  obtain ⟨va, vc, rfl, _, _⟩ := o3.form
  have hLo : s.wv.ownBlock ≠ some L := at_type HM.out.lr.wo (T' := 44) (by decide) L _ HM.out.bx
  have hlr := HM.out.lr.wapp (m := x2.gn) (va := va) (vc := vc) (R := x2.Rg) o3 g3 hw3 HU.out.gr hfd
  have hgo3 := HU.out.go.kept g3 hap.symm.ne
  have hgr3 := HU.out.gr.kept g3 (at_type HM.out.lr.wo (T' := 5) (by decide))
  have hL3 : V.heap[L]? = some (.cells s.cells 44) := (g3.block L (row_lt HM.out.bx) (fun e => hLo e.symm)).trans HM.out.bx
  have hB3 := (Below.refl B w).grown g3 hBw (fun k hk => (HM.out.lr.wo.lt k hk).1)
  have hK3 := (Stays.refl 49 w).grown g3 (at_type HM.out.lr.wo (by decide))
  have l24 : V.cell? ⟨L, 19, none⟩ = some (.slice s.wa s.wn s.wc) := by rw [cell_of_row _ _ _ _ _ _ hL3]; rfl
  have fz := frozen_row hL3 19
  obtain ⟨m1, m2⟩ := set_row (cs' := ({ s with wa := va, wn := s.wn + x2.gn, wc := vc, Rw := s.Rw ++ x2.Rg } : LS).cells) hL3 19 (.slice va (s.wn + x2.gn) vc) rfl
  have HM3 : Hid (LM (V.setCell ⟨L, 19, none⟩ (.slice va (s.wn + x2.gn) vc)) L B { s with wa := va, wn := s.wn + x2.gn, wc := vc, Rw := s.Rw ++ x2.Rg }) := ⟨m1, hlr.other m2 hL3 (by decide) (by decide)⟩
  have HU3 : Hid (UpM (V.setCell ⟨L, 19, none⟩ (.slice va (s.wn + x2.gn) vc)) B sq x2) := (UpM.mk hgo3 hgr3 HU.out.aw HU.out.ao HU.out.fd).other m2 hL3 (by decide) (by decide)
  have HB3 := hid (hB3.grown m2 (Nat.le_trans hBw g3.size) (fun k e => by cases e; exact hBL))
  have HK3 := hid (hK3.grown m2 (row_type hL3 (by decide)))
  clear hap hfd hov hdv m1 m2 hlr hgo3 hgr3 hL3 hB3 hK3 o3 g3 hw3 HM HU hgo hLo
  go_wp2_with fail
  exact q_fr (N := 196) HQ.out rfl ⟨rfl, rfl, rfl, HB3.out, HK3.out, va, vc, HM3.out, HU3.out⟩
set_option maxRecDepth 1000000 in
set_option maxHeartbeats 4000000 in
theorem tck_14 (L B : Nat) (s sq : LS) (x2 : WS) (hBL : B ≤ L) (hov : sq.ov = s.ov) (hdv : sq.dv = s.dv) (hn : s.on + x2.gn ≤ 200000) :
    Tri Try.prog 196 (pieceOf Try.f11 [1, 1, 1, 1, 1, 1, 0]) (fun y w => y 0 = .pointer (some ⟨L, 0, none⟩) ∧ y 9 = .slice x2.ga x2.gn x2.gc ∧ LM w L B s ∧ UpM w B sq x2)
      (fun y w y' w' => y' 0 = .pointer (some ⟨L, 0, none⟩) ∧ y' 3 = y 3 ∧ y' 9 = .slice x2.ga x2.gn x2.gc ∧ Below B w w' ∧ Stays 49 w w' ∧ ∃ va vc, LM w' L B { s with oa := va, on := s.on + x2.gn, oc := vc, Ro := s.Ro ++ x2.Rg } ∧ UpM w' B sq x2) := by
  rintro Q y w ⟨s0, s9, hM, hU⟩ hQ
  obtain ⟨i0, hi0, hz0, hz1, hz2⟩ := info_parts Try.info31
  have HQ := hid hQ
  clear hQ
  dsimp only at HQ
  have HM := hid hM
  have HU := hid hU
  have hc : w.cell? ⟨L, 20, none⟩ = some (.slice s.oa s.on s.oc) := by rw [cell_of_row _ _ _ _ _ _ hM.bx]; rfl
  have hBw : B ≤ w.heap.size := Nat.le_trans hBL (Nat.le_of_lt (row_lt hM.bx))
  have hgo := hU.go
  have hap : Apart x2.gv s.ov := hov ▸ hU.ao
  have hfd : OffR s.dv x2.Rg := hdv ▸ hU.fd
  clear hM hU
  conv => arg 2; whnf
  rw [fr196]
  simp only [s0, s9]
  clear s0 s9
  go_wp2_with (with_reducible refine at_dst 99 ?_)
  unfold Hid
  clear hc
  refine wpList_append_many rfl _ _ 34 rfl B 31 i0 (.slice none 0 0) 24 Try.underlying34 hi0 hz0 hz1 hz2 rfl (.slice s.oa s.on s.oc) s.on (rcs s.Ro) rfl HM.out.lr.oo x2.ga x2.gn x2.gc (rcs x2.Rg) rfl HU.out.go.rd (rcs_one _) (by unfold maxLen; omega) (by omega) hBw ?_
  intro v' V o3 g3 hw3
  obtain ⟨va, vc, rfl, _, _⟩ := o3.form
  have hLo : s.ov.ownBlock ≠ some L := at_type HM.out.lr.oo (T' := 44) (by decide) L _ HM.out.bx
  have hlr := HM.out.lr.oapp (m := x2.gn) (va := va) (vc := vc) (R := x2.Rg) o3 g3 hw3 HU.out.gr hfd
  have hgo3 := HU.out.go.kept g3 hap.symm.ne
  have hgr3 := HU.out.gr.kept g3 (at_type HM.out.lr.oo (T' := 5) (by decide))
  have hL3 : V.heap[L]? = some (.cells s.cells 44) := (g3.block L (row_lt HM.out.bx) (fun e => hLo e.symm)).trans HM.out.bx
  have hB3 := (Below.refl B w).grown g3 hBw (fun k hk => (HM.out.lr.oo.lt k hk).1)
  have hK3 := (Stays.refl 49 w).grown g3 (at_type HM.out.lr.oo (by decide))
  have l24 : V.cell? ⟨L, 20, none⟩ = some (.slice s.oa s.on s.oc) := by rw [cell_of_row _ _ _ _ _ _ hL3]; rfl
  have fz := frozen_row hL3 20
  obtain ⟨m1, m2⟩ := set_row (cs' := ({ s with oa := va, on := s.on + x2.gn, oc := vc, Ro := s.Ro ++ x2.Rg } : LS).cells) hL3 20 (.slice va (s.on + x2.gn) vc) rfl
  have HM3 : Hid (LM (V.setCell ⟨L, 20, none⟩ (.slice va (s.on + x2.gn) vc)) L B { s with oa := va, on := s.on + x2.gn, oc := vc, Ro := s.Ro ++ x2.Rg }) := ⟨m1, hlr.other m2 hL3 (by decide) (by decide)⟩
  have HU3 : Hid (UpM (V.setCell ⟨L, 20, none⟩ (.slice va (s.on + x2.gn) vc)) B sq x2) := (UpM.mk hgo3 hgr3 HU.out.aw HU.out.ao HU.out.fd).other m2 hL3 (by decide) (by decide)
  have HB3 := hid (hB3.grown m2 (Nat.le_trans hBw g3.size) (fun k e => by cases e; exact hBL))
  have HK3 := hid (hK3.grown m2 (row_type hL3 (by decide)))
  clear hap hfd hov hdv m1 m2 hlr hgo3 hgr3 hL3 hB3 hK3 o3 g3 hw3 HM HU hgo hLo
  go_wp2_with fail
  exact q_fr (N := 196) HQ.out rfl ⟨rfl, rfl, rfl, HB3.out, HK3.out, va, vc, HM3.out, HU3.out⟩
end Go.Proofs.Ytkngoomkmbkenaa
