/- A tick of a link. -/
import Derived.Test.YtkngoomkmbkenaaOnce21
import Derived.Test.YtkngoomkmbkenaaOnce18
import Derived.Test.YtkngoomkmbkenaaOnce17
namespace Go.Proofs.Ytkngoomkmbkenaa
set_option linter.unusedVariables false
open Go.RowKit

structure TickR (ah pt pz L B : Nat) (W0 W : World) (l : LK) (e : Ending) : Prop where
  he : e = .returned (.bool true)
  ex : ∃ s', LM W L B s' ∧ LP ah pt pz s' l
  blw : Below B W0 W
set_option maxRecDepth 1000000 in
set_option maxHeartbeats 4000000 in
theorem tick_ok (ah pt pz L B : Nat) (p : PO) (s : LS) (l : LK) (w : World) (hBL : B ≤ L) (hM : LM w L B s) (hP : LP ah pt pz s l) (hI : Inv ah pt pz l) (hah0 : 0 < ah) (hah1 : ah ≤ 100) (hpt0 : 0 < pt) (hpt : pt ≤ 1000) (hpz : pz ≤ 1000)
    (hway : l.way.length ≤ 90000) (hold : l.old.length ≤ 90000)
    (h1 : -9223372036854775808 ≤ p.ask ∧ p.ask ≤ 9223372036854775807) (h2 : p.come ≤ 9223372036854775807) (h3 : -9223372036854775808 ≤ p.lose ∧ p.lose ≤ 9223372036854775807) (h4 : -9223372036854775808 ≤ p.again ∧ p.again ≤ 9223372036854775807) :
    Calls Try.prog 11 #[.pointer (some ⟨L, 0, none⟩), .agg p.cells] w fun e w' => TickR ah pt pz L B w w' (tickL ah pt pz (pk p.ask 5) p (lzF p.lose) l) e := by
  have bN := below_alloc w (.cells p.cells 49)
  have HX0 := hid (heap_alloc_new w (.cells p.cells 49))
  have hBw : B ≤ w.heap.size := Nat.le_trans hBL (Nat.le_of_lt (row_lt hM.bx))
  have HM0 := hid (hM.below bN)
  have HB0 := hid (bN.mono hBw)
  have HP := hid hP
  have HI := hid hI
  clear bN hM hP
  unfold PO.cells at HX0 HM0 HB0 ⊢
  go_enter Try.func11, Try.ntmps11
  refine wp_seq_k (fun K0 hK0 => ?_)
  go_wp2_with fail
  refine hK0.out _ _ ?_
  obtain ⟨X, hX⟩ : ∃ X, X = w.heap.size := ⟨_, rfl⟩
  rw [← hX] at HX0 ⊢
  clear hX
  generalize w.alloc (.cells #[.int .i64 p.ask, .int .i64 p.come, .int .i64 p.lose, .bool p.full, .bool p.deaf, .int .i64 p.again] 49) = V at *
  -- the commands
  refine wp_seq_k (fun K1 hK1 => ?_)
  refine use_fr (N := 196) rfl ?_
  refine Tri.use (tck_1 ah pt pz L B X p s l hBL HP.out hI hah0 hah1 hpt0 hpt hpz h1) rfl ⟨rfl, rfl, HM0.out, HX0.out⟩ ?_
  rintro y1 W1 ⟨s0, s3, hb, hs, sa, hm, hp⟩
  refine hK1.out _ _ ?_
  have HB1 := hid (HB0.out.trans hb)
  have HX1 := hid (hs X _ HX0.out)
  have HM1 := hid hm
  have HP1 := hid hp
  have HI1 := hid (hI.asksL (pk p.ask 5))
  have hw1 : (asksL (pk p.ask 5) l).way.length ≤ 90000 := hway
  have ho1 : (asksL (pk p.ask 5) l).old.length ≤ 90000 := hold
  clear hb hs hm hp HB0 HX0 HM0 HP HI hI hway hold
  unfold tickL
  generalize asksL (pk p.ask 5) l = l1 at *
  -- the step
  refine wp_seq_k (fun K2 hK2 => ?_)
  refine Tri.use (tck_9 ah pt pz L B sa l1 HP1.out HI1.out hah0 hah1 hpt0 hpt hpz) rfl ⟨s0, HM1.out⟩ ?_
  rintro y2 W2 ⟨t0, t3, t10, hb, D, x2, t8, t9, hD, hro, hwl, hco, hgn⟩
  refine hK2.out _ _ ?_
  have hB1 : B ≤ W1.heap.size := Nat.le_trans hBL (Nat.le_of_lt (row_lt HM1.out.bx))
  have u3 := t3.trans s3
  have HR2 := hid (HM1.out.lr.hand hb hB1 hro)
  have HU2 := hid (UpM.of HM1.out.lr hB1 hro)
  have HL2 := hid (row_below HM1.out.bx hb)
  have HX2 := hid (row_below HX1.out hb)
  have HB2 := hid (HB1.out.trans (hb.mono hB1))
  have HD := hid hD
  have HW2 := hid hwl
  have HC2 := hid hco
  have HG2 := hid hgn
  have hst := HI1.out.step hpt0
  have Hst := hid hst
  have hga : x2.gn ≤ ah := by
    rw [hgn]
    have hk := (HI1.out.hok.step hpt0 l1.hd l1.dr l1.dw l1.da HI1.out.dr).2.2.2.2
    exact hk
  clear hb hD hro hwl hco hgn hst s0 s3 t3 HM1 HB1 HX1
  rw [fr196]
  simp only [t0, u3, t8, t9, t10]
  clear t0 u3 t8 t9 t10
  refine wp_seq_k (fun K3 hK3 => ?_)
  go_wp2_with fail
  refine hK3.out _ _ ?_
  refine wp_seq_k (fun K4 hK4 => ?_)
  refine use_fr (N := 196) rfl ?_
  refine Tri.use (tck_12 L B D sa x2 hBL) rfl ⟨rfl, rfl, HD.out, HL2.out, HR2.out, HU2.out⟩ ?_
  rintro y4 W4 ⟨s0, t3, t9, hm, hu, hg⟩
  refine hK4.out _ _ ?_
  have s3 : y4 3 = .pointer (some ⟨X, 0, none⟩) := t3
  have s9 : y4 9 = .slice x2.ga x2.gn x2.gc := t9
  have HX4 := hid (row_grown HX2.out hg (ne_tt HX2.out HL2.out (by decide)))
  have HB4 := hid (HB2.out.grown hg (Nat.le_trans hBL (Nat.le_of_lt (row_lt HL2.out))) (fun k e => by cases e; exact hBL))
  have HM4 := hid hm
  have HU4 := hid hu
  clear hm hu hg t3 t9 HX2 HB2 HL2 HR2 HU2 HD
  have hwn := HP1.out.W
  have hsw : sa.wn ≤ 90000 := by
    have h5 := HM4.out.lr.wo.1
    rw [rcs_len] at h5
    have h6 : sa.Rw.length = sa.wn := h5
    have h7 := congrArg List.length hwn
    unfold conts cmds at h7
    rw [List.length_map, List.length_map] at h7
    omega
  have hso : sa.on ≤ 90000 := by
    have h5 := HM4.out.lr.oo.1
    rw [rcs_len] at h5
    have h6 : sa.Ro.length = sa.on := h5
    have h7 := congrArg List.length HP1.out.O
    unfold conts cmds at h7
    rw [List.length_map, List.length_map] at h7
    omega
  clear hwn
  refine wp_seq_k (fun K5 hK5 => ?_)
  refine Tri.use (tck_13 L B { sa with x := x2, hd := false } { sa with x := x2, hd := false } x2 hBL rfl rfl (by show sa.wn + x2.gn ≤ _; omega)) rfl ⟨s0, s9, HM4.out, HU4.out⟩ ?_
  rintro y5 W5 ⟨t0, t3, t9, hb, hs, va, vc, hm, hu⟩
  refine hK5.out _ _ ?_
  have u3 := t3.trans s3
  have HX5 := hid (hs X _ HX4.out)
  have HB5 := hid (HB4.out.trans hb)
  have HM5 := hid hm
  have HU5 := hid hu
  clear hb hs hm hu t3 s0 s3 s9 HX4 HB4 HM4 HU4
  refine wp_seq_k (fun K6 hK6 => ?_)
  refine Tri.use (tck_14 L B { sa with x := x2, hd := false, wa := va, wn := sa.wn + x2.gn, wc := vc, Rw := sa.Rw ++ x2.Rg } { sa with x := x2, hd := false } x2 hBL rfl rfl (by show sa.on + x2.gn ≤ _; omega)) rfl ⟨t0, t9, HM5.out, HU5.out⟩ ?_
  rintro y6 W6 ⟨s0, s3, s9, hb, hs, ua, uc, hm, hu⟩
  refine hK6.out _ _ ?_
  have v3 := s3.trans u3
  have HX6 := hid (hs X _ HX5.out)
  have HB6 := hid (HB5.out.trans hb)
  have HM6 := hid hm
  have hP6 : LP ah pt pz ({ sa with x := x2, hd := false, wa := va, wn := sa.wn + x2.gn, wc := vc, Rw := sa.Rw ++ x2.Rg, oa := ua, on := sa.on + x2.gn, oc := uc, Ro := sa.Ro ++ x2.Rg } : LS) (stepL ah pt pz l1) := by
    refine ⟨HW2.out, ?_, ?_, HP1.out.g, HP1.out.d, ?_, ?_, rfl⟩
    · show conts (sa.Rw ++ x2.Rg) = cmds (l1.way ++ (stepH ah pt pz l1.h l1.hd l1.dr l1.dw l1.da).2)
      rw [conts_append, HP1.out.W, HC2.out]
      unfold cmds
      rw [List.map_append]
    · show conts (sa.Ro ++ x2.Rg) = cmds (l1.old ++ (stepH ah pt pz l1.h l1.hd l1.dr l1.dw l1.da).2)
      rw [conts_append, HP1.out.O, HC2.out]
      unfold cmds
      rw [List.map_append]
    · show sa.A = (stepL ah pt pz l1).h.A
      rw [Hst.out.2.2.2, HP1.out.A]
    · obtain ⟨er, h5, h6⟩ := HP1.out.st
      exact ⟨er, h5, fun h => by cases h⟩
  have HP6 := hid hP6
  have HI6 := hid Hst.out.1
  have hw6 : (stepL ah pt pz l1).way.length ≤ 100000 := by have := Hst.out.2.1; omega
  have ho6 : (stepL ah pt pz l1).old.length ≤ 100000 := by have := Hst.out.2.2.1; omega
  clear hb hs hm hu hP6 Hst s3 u3 t0 t9 HX5 HB5 HM5 HU5 HW2 HC2 HG2 HI1 HP1 hw1 ho1 hsw hso hga
  generalize stepL ah pt pz l1 = l2 at *
  -- an old one
  refine wp_seq_k (fun K7 hK7 => ?_)
  refine Tri.use (tck_15 ah pt pz L B X p _ l2 hBL HP6.out HI6.out ho6 h4) rfl ⟨s0, v3, HM6.out, HX6.out⟩ ?_
  rintro y7 W7 ⟨t0, t3, hb, hs, s7, hm, hp⟩
  refine hK7.out _ _ ?_
  have HX7 := hid (hs X _ HX6.out)
  have HB7 := hid (HB6.out.trans hb)
  have HM7 := hid hm
  have HP7 := hid hp
  obtain ⟨i7, w7, o7, _⟩ := HI6.out.againL p.again
  have HI7 := hid i7
  have hw7 : (againL p.again l2).way.length ≤ 100000 := by rw [w7]; exact hw6
  clear hb hs hm hp s0 s9 v3 HX6 HB6 HM6 HP6 HI6 i7 w7 o7 hw6 ho6
  generalize againL p.again l2 = l3 at *
  -- what comes
  refine wp_seq_k (fun K8 hK8 => ?_)
  refine Tri.use (tck_17 ah pt pz L B X p s7 l3 hBL HP7.out HI7.out hw7 h2 h3) rfl ⟨t0, t3, HM7.out, HX7.out⟩ ?_
  rintro y8 W8 ⟨s0, s3, hb, hs, s8, hm, hp⟩
  refine hK8.out _ _ ?_
  have HX8 := hid (hs X _ HX7.out)
  have HB8 := hid (HB7.out.trans hb)
  have HM8 := hid hm
  have HP8 := hid hp
  have HI8 := hid (Inv.cms (!p.full) (lzF p.lose) p.come.toNat 0 l3 HI7.out)
  clear hb hs hm hp t0 t3 HX7 HB7 HM7 HP7 HI7 hw7
  generalize comes (!p.full) (lzF p.lose) 0 p.come.toNat l3 = l4 at *
  -- the report
  refine wp_seq_k (fun K9 hK9 => ?_)
  refine Tri.use (tck_25 ah pt pz L B X p s8 l4 hBL HP8.out HI8.out) rfl ⟨s0, s3, HM8.out, HX8.out⟩ ?_
  rintro y9 W9 ⟨t0, hb, s9, hm, hp⟩
  refine hK9.out _ _ ?_
  have HB9 := hid (HB8.out.trans hb)
  have HM9 := hid hm
  have HP9 := hid hp
  have HI9 := hid (HI8.out.sureL p.deaf).1
  clear hb hm hp s0 s3 HX8 HB8 HM8 HP8 HI8
  generalize sureL p.deaf l4 = l5 at *
  have hord := hid (order_ok ah pt pz L B s9 l5 W9 HM9.out HP9.out (by have h5 := HI9.out.rN; have h6 := HI9.out.NA; omega) HI9.out.A1)
  rw [fr196]
  simp only [t0]
  clear t0
  go_wp2_with fail
  refine hord.out.mono ?_
  rintro e V9 ⟨rfl, hb⟩
  have HB10 := hid (HB9.out.trans (hb.mono (Nat.le_trans hBL (Nat.le_of_lt (row_lt HM9.out.bx)))))
  have HM10 := hid (HM9.out.below hb)
  clear hb hord HB9 HM9
  go_wp2_with fail
  go_ret
  exact ⟨rfl, ⟨s9, HM10.out, HP9.out⟩, HB10.out⟩
end Go.Proofs.Ytkngoomkmbkenaa
/- A link begins: what it looks like. -/
namespace Go.Proofs.Ytkngoomkmbkenaa
set_option linter.unusedVariables false
open Go.RowKit

/-- twenty-five cells are written over, one by one -/
theorem twentyfive {W : World} {b : Nat} {e : TypeId} {o0 o1 o2 o3 o4 o5 o6 o7 o8 o9 o10 o11 o12 o13 o14 o15 o16 o17 o18 o19 o20 o21 o22 o23 o24 : Value} (A : W.heap[b]? = some (.cells #[o0, o1, o2, o3, o4, o5, o6, o7, o8, o9, o10, o11, o12, o13, o14, o15, o16, o17, o18, o19, o20, o21, o22, o23, o24] e)) (v0 v1 v2 v3 v4 v5 v6 v7 v8 v9 v10 v11 v12 v13 v14 v15 v16 v17 v18 v19 v20 v21 v22 v23 v24 : Value) :
    (((((((((((((((((((((((((W.setCell ⟨b, 0, none⟩ v0).setCell ⟨b, 1, none⟩ v1).setCell ⟨b, 2, none⟩ v2).setCell ⟨b, 3, none⟩ v3).setCell ⟨b, 4, none⟩ v4).setCell ⟨b, 5, none⟩ v5).setCell ⟨b, 6, none⟩ v6).setCell ⟨b, 7, none⟩ v7).setCell ⟨b, 8, none⟩ v8).setCell ⟨b, 9, none⟩ v9).setCell ⟨b, 10, none⟩ v10).setCell ⟨b, 11, none⟩ v11).setCell ⟨b, 12, none⟩ v12).setCell ⟨b, 13, none⟩ v13).setCell ⟨b, 14, none⟩ v14).setCell ⟨b, 15, none⟩ v15).setCell ⟨b, 16, none⟩ v16).setCell ⟨b, 17, none⟩ v17).setCell ⟨b, 18, none⟩ v18).setCell ⟨b, 19, none⟩ v19).setCell ⟨b, 20, none⟩ v20).setCell ⟨b, 21, none⟩ v21).setCell ⟨b, 22, none⟩ v22).setCell ⟨b, 23, none⟩ v23).setCell ⟨b, 24, none⟩ v24).heap[b]? = some (.cells #[v0, v1, v2, v3, v4, v5, v6, v7, v8, v9, v10, v11, v12, v13, v14, v15, v16, v17, v18, v19, v20, v21, v22, v23, v24] e) ∧ W.grownBy (((((((((((((((((((((((((W.setCell ⟨b, 0, none⟩ v0).setCell ⟨b, 1, none⟩ v1).setCell ⟨b, 2, none⟩ v2).setCell ⟨b, 3, none⟩ v3).setCell ⟨b, 4, none⟩ v4).setCell ⟨b, 5, none⟩ v5).setCell ⟨b, 6, none⟩ v6).setCell ⟨b, 7, none⟩ v7).setCell ⟨b, 8, none⟩ v8).setCell ⟨b, 9, none⟩ v9).setCell ⟨b, 10, none⟩ v10).setCell ⟨b, 11, none⟩ v11).setCell ⟨b, 12, none⟩ v12).setCell ⟨b, 13, none⟩ v13).setCell ⟨b, 14, none⟩ v14).setCell ⟨b, 15, none⟩ v15).setCell ⟨b, 16, none⟩ v16).setCell ⟨b, 17, none⟩ v17).setCell ⟨b, 18, none⟩ v18).setCell ⟨b, 19, none⟩ v19).setCell ⟨b, 20, none⟩ v20).setCell ⟨b, 21, none⟩ v21).setCell ⟨b, 22, none⟩ v22).setCell ⟨b, 23, none⟩ v23).setCell ⟨b, 24, none⟩ v24) (some b) := by
  obtain ⟨a0, b0⟩ := set_row (cs' := #[v0, o1, o2, o3, o4, o5, o6, o7, o8, o9, o10, o11, o12, o13, o14, o15, o16, o17, o18, o19, o20, o21, o22, o23, o24]) A 0 v0 rfl
  obtain ⟨a1, b1⟩ := set_row (cs' := #[v0, v1, o2, o3, o4, o5, o6, o7, o8, o9, o10, o11, o12, o13, o14, o15, o16, o17, o18, o19, o20, o21, o22, o23, o24]) a0 1 v1 rfl
  obtain ⟨a2, b2⟩ := set_row (cs' := #[v0, v1, v2, o3, o4, o5, o6, o7, o8, o9, o10, o11, o12, o13, o14, o15, o16, o17, o18, o19, o20, o21, o22, o23, o24]) a1 2 v2 rfl
  obtain ⟨a3, b3⟩ := set_row (cs' := #[v0, v1, v2, v3, o4, o5, o6, o7, o8, o9, o10, o11, o12, o13, o14, o15, o16, o17, o18, o19, o20, o21, o22, o23, o24]) a2 3 v3 rfl
  obtain ⟨a4, b4⟩ := set_row (cs' := #[v0, v1, v2, v3, v4, o5, o6, o7, o8, o9, o10, o11, o12, o13, o14, o15, o16, o17, o18, o19, o20, o21, o22, o23, o24]) a3 4 v4 rfl
  obtain ⟨a5, b5⟩ := set_row (cs' := #[v0, v1, v2, v3, v4, v5, o6, o7, o8, o9, o10, o11, o12, o13, o14, o15, o16, o17, o18, o19, o20, o21, o22, o23, o24]) a4 5 v5 rfl
  obtain ⟨a6, b6⟩ := set_row (cs' := #[v0, v1, v2, v3, v4, v5, v6, o7, o8, o9, o10, o11, o12, o13, o14, o15, o16, o17, o18, o19, o20, o21, o22, o23, o24]) a5 6 v6 rfl
  obtain ⟨a7, b7⟩ := set_row (cs' := #[v0, v1, v2, v3, v4, v5, v6, v7, o8, o9, o10, o11, o12, o13, o14, o15, o16, o17, o18, o19, o20, o21, o22, o23, o24]) a6 7 v7 rfl
  obtain ⟨a8, b8⟩ := set_row (cs' := #[v0, v1, v2, v3, v4, v5, v6, v7, v8, o9, o10, o11, o12, o13, o14, o15, o16, o17, o18, o19, o20, o21, o22, o23, o24]) a7 8 v8 rfl
  obtain ⟨a9, b9⟩ := set_row (cs' := #[v0, v1, v2, v3, v4, v5, v6, v7, v8, v9, o10, o11, o12, o13, o14, o15, o16, o17, o18, o19, o20, o21, o22, o23, o24]) a8 9 v9 rfl
  obtain ⟨a10, b10⟩ := set_row (cs' := #[v0, v1, v2, v3, v4, v5, v6, v7, v8, v9, v10, o11, o12, o13, o14, o15, o16, o17, o18, o19, o20, o21, o22, o23, o24]) a9 10 v10 rfl
  obtain ⟨a11, b11⟩ := set_row (cs' := #[v0, v1, v2, v3, v4, v5, v6, v7, v8, v9, v10, v11, o12, o13, o14, o15, o16, o17, o18, o19, o20, o21, o22, o23, o24]) a10 11 v11 rfl
  obtain ⟨a12, b12⟩ := set_row (cs' := #[v0, v1, v2, v3, v4, v5, v6, v7, v8, v9, v10, v11, v12, o13, o14, o15, o16, o17, o18, o19, o20, o21, o22, o23, o24]) a11 12 v12 rfl
  obtain ⟨a13, b13⟩ := set_row (cs' := #[v0, v1, v2, v3, v4, v5, v6, v7, v8, v9, v10, v11, v12, v13, o14, o15, o16, o17, o18, o19, o20, o21, o22, o23, o24]) a12 13 v13 rfl
  obtain ⟨a14, b14⟩ := set_row (cs' := #[v0, v1, v2, v3, v4, v5, v6, v7, v8, v9, v10, v11, v12, v13, v14, o15, o16, o17, o18, o19, o20, o21, o22, o23, o24]) a13 14 v14 rfl
  obtain ⟨a15, b15⟩ := set_row (cs' := #[v0, v1, v2, v3, v4, v5, v6, v7, v8, v9, v10, v11, v12, v13, v14, v15, o16, o17, o18, o19, o20, o21, o22, o23, o24]) a14 15 v15 rfl
  obtain ⟨a16, b16⟩ := set_row (cs' := #[v0, v1, v2, v3, v4, v5, v6, v7, v8, v9, v10, v11, v12, v13, v14, v15, v16, o17, o18, o19, o20, o21, o22, o23, o24]) a15 16 v16 rfl
  obtain ⟨a17, b17⟩ := set_row (cs' := #[v0, v1, v2, v3, v4, v5, v6, v7, v8, v9, v10, v11, v12, v13, v14, v15, v16, v17, o18, o19, o20, o21, o22, o23, o24]) a16 17 v17 rfl
  obtain ⟨a18, b18⟩ := set_row (cs' := #[v0, v1, v2, v3, v4, v5, v6, v7, v8, v9, v10, v11, v12, v13, v14, v15, v16, v17, v18, o19, o20, o21, o22, o23, o24]) a17 18 v18 rfl
  obtain ⟨a19, b19⟩ := set_row (cs' := #[v0, v1, v2, v3, v4, v5, v6, v7, v8, v9, v10, v11, v12, v13, v14, v15, v16, v17, v18, v19, o20, o21, o22, o23, o24]) a18 19 v19 rfl
  obtain ⟨a20, b20⟩ := set_row (cs' := #[v0, v1, v2, v3, v4, v5, v6, v7, v8, v9, v10, v11, v12, v13, v14, v15, v16, v17, v18, v19, v20, o21, o22, o23, o24]) a19 20 v20 rfl
  obtain ⟨a21, b21⟩ := set_row (cs' := #[v0, v1, v2, v3, v4, v5, v6, v7, v8, v9, v10, v11, v12, v13, v14, v15, v16, v17, v18, v19, v20, v21, o22, o23, o24]) a20 21 v21 rfl
  obtain ⟨a22, b22⟩ := set_row (cs' := #[v0, v1, v2, v3, v4, v5, v6, v7, v8, v9, v10, v11, v12, v13, v14, v15, v16, v17, v18, v19, v20, v21, v22, o23, o24]) a21 22 v22 rfl
  obtain ⟨a23, b23⟩ := set_row (cs' := #[v0, v1, v2, v3, v4, v5, v6, v7, v8, v9, v10, v11, v12, v13, v14, v15, v16, v17, v18, v19, v20, v21, v22, v23, o24]) a22 23 v23 rfl
  obtain ⟨a24, b24⟩ := set_row (cs' := #[v0, v1, v2, v3, v4, v5, v6, v7, v8, v9, v10, v11, v12, v13, v14, v15, v16, v17, v18, v19, v20, v21, v22, v23, v24]) a23 24 v24 rfl
  have g1 := grownBy_trans b0 b1
  have g2 := grownBy_trans g1 b2
  have g3 := grownBy_trans g2 b3
  have g4 := grownBy_trans g3 b4
  have g5 := grownBy_trans g4 b5
  have g6 := grownBy_trans g5 b6
  have g7 := grownBy_trans g6 b7
  have g8 := grownBy_trans g7 b8
  have g9 := grownBy_trans g8 b9
  have g10 := grownBy_trans g9 b10
  have g11 := grownBy_trans g10 b11
  have g12 := grownBy_trans g11 b12
  have g13 := grownBy_trans g12 b13
  have g14 := grownBy_trans g13 b14
  have g15 := grownBy_trans g14 b15
  have g16 := grownBy_trans g15 b16
  have g17 := grownBy_trans g16 b17
  have g18 := grownBy_trans g17 b18
  have g19 := grownBy_trans g18 b19
  have g20 := grownBy_trans g19 b20
  have g21 := grownBy_trans g20 b21
  have g22 := grownBy_trans g21 b22
  have g23 := grownBy_trans g22 b23
  have g24 := grownBy_trans g23 b24
  exact ⟨a24, g24⟩
end Go.Proofs.Ytkngoomkmbkenaa
/- A link begins. -/
namespace Go.Proofs.Ytkngoomkmbkenaa
set_option linter.unusedVariables false
open Go.RowKit

def ws0 (ah pt pz : Nat) : WS := ⟨0, ah, 0, pt, 0, pz, pz, 0, none, 0, 0, [], none, 0, 0, [], none, 0, 0, [], []⟩
def ls0 (ah pt pz : Nat) : LS := ⟨ws0 ah pt pz, ⟨3, 0, 127, false, false, false, 0⟩, none, 0, 0, [], none, 0, 0, [], none, 0, 0, [], 0, 0, false⟩
set_option maxRecDepth 1000000 in
set_option maxHeartbeats 2000000 in
theorem begins_ok (a b c : Int) (w : World) (ha : -9223372036854775808 ≤ a ∧ a ≤ 9223372036854775807) (hb : -9223372036854775808 ≤ b ∧ b ≤ 9223372036854775807) (hc : -9223372036854775808 ≤ c ∧ c ≤ 9223372036854775807) :
    Calls Try.prog 10 #[.int .i64 a, .int .i64 b, .int .i64 c] w fun e w' => (∃ ah pt pz : Nat, (1 ≤ ah ∧ ah ≤ 40) ∧ (1 ≤ pt ∧ pt ≤ 12) ∧ pz ≤ 11 ∧ e = .returned (.tuple #[.agg (ls0 ah pt pz).cells, .bool true])) ∧ Below w.heap.size w w' := by
  have A := hid (heap_alloc_new w (.cells #[.int .i64 0, .int .i64 0, .int .i64 0, .slice none 0 0, .slice none 0 0, .int .i64 0, .int .i64 0, .int .i64 0, .int .i64 0, .int .i64 0, .int .i64 0, .int .i64 0, .int .i64 0, .int .i64 0, .int .i64 0, .bool false, .bool false, .bool false, .int .i64 0, .slice none 0 0, .slice none 0 0, .slice none 0 0, .int .i64 0, .int .i64 0, .bool false] 44))
  have BA := hid (below_alloc w (.cells #[.int .i64 0, .int .i64 0, .int .i64 0, .slice none 0 0, .slice none 0 0, .int .i64 0, .int .i64 0, .int .i64 0, .int .i64 0, .int .i64 0, .int .i64 0, .int .i64 0, .int .i64 0, .int .i64 0, .int .i64 0, .bool false, .bool false, .bool false, .int .i64 0, .slice none 0 0, .slice none 0 0, .slice none 0 0, .int .i64 0, .int .i64 0, .bool false] 44))
  go_enter Try.func10, Try.ntmps10
  refine wp_seq_k (fun K0 hK0 => ?_)
  go_wp2_with fail
  refine hK0.out _ _ ?_
  generalize w.alloc (.cells #[.int .i64 0, .int .i64 0, .int .i64 0, .slice none 0 0, .slice none 0 0, .int .i64 0, .int .i64 0, .int .i64 0, .int .i64 0, .int .i64 0, .int .i64 0, .int .i64 0, .int .i64 0, .int .i64 0, .int .i64 0, .bool false, .bool false, .bool false, .int .i64 0, .slice none 0 0, .slice none 0 0, .slice none 0 0, .int .i64 0, .int .i64 0, .bool false] 44) = V at *
  refine wp_seq_k (fun K1 hK1 => ?_)
  go_wp2_with fail
  refine (pick_any a 40 _ ha.1 ha.2 (by decide) (by decide)).mono ?_
  rintro e w1 ⟨r1, rfl, k1, _, rfl⟩
  have e1 : IntKind.i64.wrap (1 + (r1 : Int)) = 1 + (r1 : Int) := IntWalk.i64_in _ (by have : r1 < 40 := k1; omega)
  go_wp2_with fail
  refine (pick_any b 12 _ hb.1 hb.2 (by decide) (by decide)).mono ?_
  rintro e w1 ⟨r2, rfl, k2, _, hw1⟩
  rw [← hw1]
  clear hw1 w1
  have e2 : IntKind.i64.wrap (1 + (r2 : Int)) = 1 + (r2 : Int) := IntWalk.i64_in _ (by have : r2 < 12 := k2; omega)
  go_wp2_with fail
  refine (pick_any c 12 _ hc.1 hc.2 (by decide) (by decide)).mono ?_
  rintro e w1 ⟨r3, rfl, k3, _, hw1⟩
  rw [← hw1]
  clear hw1 w1
  have q1 : r1 < 40 := k1
  have q2 : r2 < 12 := k2
  have q3 : r3 < 12 := k3
  clear k1 k2 k3
  go_wp2_with fail
  refine (ready_is 3 (1 + (r1 : Int)) (1 + (r2 : Int)) (r3 : Int) 100 V (by decide) (by omega) (by omega) (by omega) (by decide)).mono ?_
  rintro e V1 ⟨rfl, hb1⟩
  unfold hcells
  go_wp2_with fail
  refine hK1.out _ _ ?_
  have bN := below_alloc V1 (.cells #[.int .i64 3, .int .i64 0, .int .i64 (1 + (r1 : Int)), .slice none 0 0, .slice none 0 0, .int .i64 0, .int .i64 (1 + (r2 : Int)), .int .i64 0, .int .i64 100, .int .i64 (r3 : Int), .int .i64 (r3 : Int), .int .i64 0] 36)
  have HH2 := hid (heap_alloc_new V1 (.cells #[.int .i64 3, .int .i64 0, .int .i64 (1 + (r1 : Int)), .slice none 0 0, .slice none 0 0, .int .i64 0, .int .i64 (1 + (r2 : Int)), .int .i64 0, .int .i64 100, .int .i64 (r3 : Int), .int .i64 (r3 : Int), .int .i64 0] 36))
  have hb2 := hb1.trans (bN.mono hb1.size)
  have HA2 := hid (row_below A.out hb2)
  have HB2 := hid (BA.out.trans (hb2.mono BA.out.size))
  obtain ⟨P, hP⟩ : ∃ P, P = w.heap.size := ⟨_, rfl⟩
  obtain ⟨Hb, hHb⟩ : ∃ Hb, Hb = V1.heap.size := ⟨_, rfl⟩
  rw [← hP, ← hHb]
  rw [← hHb] at HH2
  rw [← hP] at HA2
  have HP := hid hP
  clear hP hHb bN hb1 hb2 A BA e1 e2
  generalize V1.alloc (.cells #[.int .i64 3, .int .i64 0, .int .i64 (1 + (r1 : Int)), .slice none 0 0, .slice none 0 0, .int .i64 0, .int .i64 (1 + (r2 : Int)), .int .i64 0, .int .i64 100, .int .i64 (r3 : Int), .int .i64 (r3 : Int), .int .i64 0] 36) = V2 at *
  have hgd := hid (guard_ok 3 127 V2 (by decide) (by decide))
  unfold Gt.cells at hgd
  refine wp_seq_k (fun K2 hK2 => ?_)
  go_wp2_with fail
  refine hgd.out.mono ?_
  rintro e V3 ⟨rfl, hb3⟩
  have bN := below_alloc V3 (.cells #[.int .i64 3, .int .i64 0, .int .i64 127, .bool false, .bool false, .bool false, .int .i64 0] 25)
  have HG4 := hid (heap_alloc_new V3 (.cells #[.int .i64 3, .int .i64 0, .int .i64 127, .bool false, .bool false, .bool false, .int .i64 0] 25))
  have hb4 := hb3.trans (bN.mono hb3.size)
  have HA4 := hid (row_below HA2.out hb4)
  have HH4 := hid (row_below HH2.out hb4)
  have HB4 := hid (HB2.out.trans (hb4.mono HB2.out.size))
  clear bN hb3 hb4 HA2 HH2 HB2 hgd
  go_wp2_with fail
  refine hK2.out _ _ ?_
  obtain ⟨Gb, hGb⟩ : ∃ Gb, Gb = V3.heap.size := ⟨_, rfl⟩
  rw [← hGb] at HG4 ⊢
  clear hGb
  generalize V3.alloc (.cells #[.int .i64 3, .int .i64 0, .int .i64 127, .bool false, .bool false, .bool false, .int .i64 0] 25) = V4 at *
  have h0 : V4.cell? ⟨Hb, 0, none⟩ = some (.int .i64 3) := by rw [cell_of_row _ _ _ _ _ _ HH4.out]; rfl
  have h1 : V4.cell? ⟨Hb, 1, none⟩ = some (.int .i64 0) := by rw [cell_of_row _ _ _ _ _ _ HH4.out]; rfl
  have h2 : V4.cell? ⟨Hb, 2, none⟩ = some (.int .i64 (1 + (r1 : Int))) := by rw [cell_of_row _ _ _ _ _ _ HH4.out]; rfl
  have h3 : V4.cell? ⟨Hb, 3, none⟩ = some (.slice none 0 0) := by rw [cell_of_row _ _ _ _ _ _ HH4.out]; rfl
  have h4 : V4.cell? ⟨Hb, 4, none⟩ = some (.slice none 0 0) := by rw [cell_of_row _ _ _ _ _ _ HH4.out]; rfl
  have h5 : V4.cell? ⟨Hb, 5, none⟩ = some (.int .i64 0) := by rw [cell_of_row _ _ _ _ _ _ HH4.out]; rfl
  have h6 : V4.cell? ⟨Hb, 6, none⟩ = some (.int .i64 (1 + (r2 : Int))) := by rw [cell_of_row _ _ _ _ _ _ HH4.out]; rfl
  have h7 : V4.cell? ⟨Hb, 7, none⟩ = some (.int .i64 0) := by rw [cell_of_row _ _ _ _ _ _ HH4.out]; rfl
  have h8 : V4.cell? ⟨Hb, 8, none⟩ = some (.int .i64 100) := by rw [cell_of_row _ _ _ _ _ _ HH4.out]; rfl
  have h9 : V4.cell? ⟨Hb, 9, none⟩ = some (.int .i64 (r3 : Int)) := by rw [cell_of_row _ _ _ _ _ _ HH4.out]; rfl
  have h10 : V4.cell? ⟨Hb, 10, none⟩ = some (.int .i64 (r3 : Int)) := by rw [cell_of_row _ _ _ _ _ _ HH4.out]; rfl
  have h11 : V4.cell? ⟨Hb, 11, none⟩ = some (.int .i64 0) := by rw [cell_of_row _ _ _ _ _ _ HH4.out]; rfl
  have g0 : V4.cell? ⟨Gb, 0, none⟩ = some (.int .i64 3) := by rw [cell_of_row _ _ _ _ _ _ HG4.out]; rfl
  have g1 : V4.cell? ⟨Gb, 1, none⟩ = some (.int .i64 0) := by rw [cell_of_row _ _ _ _ _ _ HG4.out]; rfl
  have g2 : V4.cell? ⟨Gb, 2, none⟩ = some (.int .i64 127) := by rw [cell_of_row _ _ _ _ _ _ HG4.out]; rfl
  have g3 : V4.cell? ⟨Gb, 3, none⟩ = some (.bool false) := by rw [cell_of_row _ _ _ _ _ _ HG4.out]; rfl
  have g4 : V4.cell? ⟨Gb, 4, none⟩ = some (.bool false) := by rw [cell_of_row _ _ _ _ _ _ HG4.out]; rfl
  have g5 : V4.cell? ⟨Gb, 5, none⟩ = some (.bool false) := by rw [cell_of_row _ _ _ _ _ _ HG4.out]; rfl
  have g6 : V4.cell? ⟨Gb, 6, none⟩ = some (.int .i64 0) := by rw [cell_of_row _ _ _ _ _ _ HG4.out]; rfl
  refine wp_seq_k (fun K3 hK3 => ?_)
  go_wp2_with (with_reducible refine at_store 44 ?_)
  unfold Hid
  obtain ⟨m1, m2⟩ := set_whole (cs' := (#[.int .i64 3, .int .i64 0, .int .i64 (1 + (r1 : Int)), .slice none 0 0, .slice none 0 0, .int .i64 0, .int .i64 (1 + (r2 : Int)), .int .i64 0, .int .i64 100, .int .i64 (r3 : Int), .int .i64 (r3 : Int), .int .i64 0, .int .i64 3, .int .i64 0, .int .i64 127, .bool false, .bool false, .bool false, .int .i64 0, .slice none 0 0, .slice none 0 0, .slice none 0 0, .int .i64 0, .int .i64 0, .bool false])) HA4.out
  refine wpList_store_row rfl 44 _ _ rfl P (#[.int .i64 3, .int .i64 0, .int .i64 (1 + (r1 : Int)), .slice none 0 0, .slice none 0 0, .int .i64 0, .int .i64 (1 + (r2 : Int)), .int .i64 0, .int .i64 100, .int .i64 (r3 : Int), .int .i64 (r3 : Int), .int .i64 0, .int .i64 3, .int .i64 0, .int .i64 127, .bool false, .bool false, .bool false, .int .i64 0, .slice none 0 0, .slice none 0 0, .slice none 0 0, .int .i64 0, .int .i64 0, .bool false]) rfl rfl 44 _ HA4.out (by kernel_rfl) rfl (by simp [Value.oneCell']) ?_
  have HF := hid m1
  have HB5 := hid (HB4.out.grown m2 HB4.out.size (fun k e => by cases e; rw [HP.out]; exact Nat.le_refl _))
  clear m1 m2 h0 h1 h2 h3 h4 h5 h6 h7 h8 h9 h10 h11 g0 g1 g2 g3 g4 g5 g6 HA4 HH4 HG4 HB4
  generalize V4.setRow P (#[.int .i64 3, .int .i64 0, .int .i64 (1 + (r1 : Int)), .slice none 0 0, .slice none 0 0, .int .i64 0, .int .i64 (1 + (r2 : Int)), .int .i64 0, .int .i64 100, .int .i64 (r3 : Int), .int .i64 (r3 : Int), .int .i64 0, .int .i64 3, .int .i64 0, .int .i64 127, .bool false, .bool false, .bool false, .int .i64 0, .slice none 0 0, .slice none 0 0, .slice none 0 0, .int .i64 0, .int .i64 0, .bool false]) = V5 at *
  go_wp2_with fail
  refine hK3.out _ _ ?_
  go_wp2_with fail
  refine bodyPost_ret (results_c1 (fn := Try.f10) rfl _ V5 P 44 _ _ rfl HF.out (by kernel_rfl) (by kernel_rfl)) rfl ?_
  refine ⟨⟨1 + r1, 1 + r2, r3, by omega, by omega, by omega, ?_⟩, (by rw [HP.out]; exact HB5.out)⟩
  unfold ls0 ws0 LS.cells
  simp
end Go.Proofs.Ytkngoomkmbkenaa
