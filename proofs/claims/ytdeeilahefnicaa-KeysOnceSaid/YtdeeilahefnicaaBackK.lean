/- KeysBack: the walk of the law. -/
import Derived.Test.YtdeeilahefnicaaSealP
import Derived.Test.YtdeeilahefnicaaAddK
import Derived.Test.YtdeeilahefnicaaKey
import Derived.Deep.DeepCutAuto
namespace Go.Proofs.Ytdeeilahefnicaa
set_option linter.unusedVariables false
set_option linter.unusedSimpArgs false
open Go.RowKit Go.Shelf

/-- a body of at most 1000 bytes at hand: the rest of the law -/
def BackB (W0 V : World) (g c p : Nat) (ws : List Int) (kb : Nat) : Prop :=
  V.heap[kb]? = some (.cells #[.int .i64 (p : Int), .slice (some ⟨g, 0, none⟩) 8 c, .int .i64 (-1), .int .i64 0] 25) ∧ V.ownsRow W0.heap.size 3 1 (.slice (some ⟨g, 0, none⟩) 8 c) 8 (vz ws) ∧ Below W0.heap.size W0 V

theorem ok_top (p cn : Nat) (ws : List Int) (hp : p < 256) (hc : cn < 281474976710656) (hw : Words ws) : KeyOk (p : Int) (cn : Int) ((0 : Nat) : Int) ws :=
  ⟨⟨by omega, by omega⟩, hw, ⟨by omega, by omega⟩, ⟨by omega, by omega⟩, min 62 cn, by omega, Nat.pow_pos (by decide)⟩
theorem onlyOn_normal {Q : Exit → Act → World → Prop} {a : Act} {w : World} (h : Q .normal a w) : OnlyOn Q .normal a w := h

set_option maxRecDepth 100000 in
set_option maxHeartbeats 8000000 in
theorem back_walk (id seed counter at_ by_ : Int) (hi : I64 id) (hs : I64 seed) (hc0 : I64 counter) (hat : I64 at_) (hby : I64 by_) (ba : Option Addr) (bn bcap : Nat) (bs : List Nat) (W : World) (hbd : Rd W ba bn bcap (vb bs)) (hb : AllB bs) (hreach : bn ≤ 140737488351232) :
    Calls Try.prog 3 #[.int .i64 id, .int .i64 seed, .int .i64 counter, .slice ba bn bcap, .int .i64 at_, .int .i64 by_] W fun e w' => e = .returned (.bool true) ∧ Below W.heap.size W w' := by
  obtain ⟨i0, hi0, hz0, hz1, hz2⟩ := info_parts Try.info5
  go_enter Try.func3, Try.ntmps3
  go_wp2_with fail
  refine (key_ok id seed W hi hs).mono ?_
  rintro e V ⟨p, g, c, ws, rfl, hp, hws, oW, bV⟩
  go_wp2_with fail
  refine (pick_any counter 281474976710656 V hc0.1 hc0.2 (by decide) (by decide)).mono ?_
  rintro e V' ⟨cn, rfl, hcn, _, rfl⟩
  have hcn : cn < 281474976710656 := hcn
  have K1 := heap_alloc_new V (.cells #[.int .i64 (p : Int), .slice (some ⟨g, 0, none⟩) 8 c, .int .i64 (-1), .int .i64 0] 25)
  have b1 := below_alloc V (.cells #[.int .i64 (p : Int), .slice (some ⟨g, 0, none⟩) 8 c, .int .i64 (-1), .int .i64 0] 25)
  have oW := ownsRow_below oW b1
  have hB := bV.trans (b1.mono bV.size)
  clear bV b1
  go_wp2_with (at_builtin; refine hold ?_)
  unfold Hid
  generalize V.alloc (.cells #[.int .i64 (p : Int), .slice (some ⟨g, 0, none⟩) 8 c, .int .i64 (-1), .int .i64 0] 25) = V1 at *
  generalize V.heap.size = kb at *
  refine wpList_append_rd rfl _ _ 22 rfl W.heap.size 5 i0 _ 1 Try.underlying22 hi0 hz0 hz1 hz2 rfl none 0 0 [] rfl (World.ownsRow_nil _ _ _ _) ba bn bcap (vb bs) rfl (hbd.below hB) (vb_oneCell _) (by omega) (by unfold maxLen; omega) hB.size ?_
  intro ba1 bc1 V2 oB gB bB
  rw [List.nil_append] at oB
  have K1 := (gB.block kb (row_lt K1) (by simp [Value.ownBlock])).trans K1
  have oW := oW.kept gB (.inr (by simp [Value.ownBlock]))
  have hB := hB.trans bB
  clear gB bB
  simp only [Nat.zero_add] at oB ⊢
  have hbl : bs.length = bn := by have := hbd.len; rwa [vb_len] at this
  have hle : bn ≤ bc1 := (Rd.ofOwn oB).le
  by_cases hlong : 1000 < bn
  case' pos =>
    obtain ⟨bg, rfl⟩ := own_addr oB (by omega)
    have hc1 : (1000 : Int) ≤ (bc1 : Int) := by omega
    have rB := (Rd.ofOwn oB).take 1000 (by omega)
    rw [vb_take] at rB
    have hbt : AllB (bs.take 1000) := hb.take 1000
    generalize bs.take 1000 = bd at *
    clear hbl oB
    go_upto_region 5 with fail
    obtain ⟨un, Hun⟩ : ∃ u : Nat, Hid (u = 1000) := ⟨_, rfl⟩
    have hv : Value.slice (some ⟨bg, 0, none⟩) 1000 bc1 = Value.slice (some ⟨bg, 0, none⟩) un bc1 := by rw [Hun.out]
    rw [hv]
    rw [← Hun.out] at rB
    have hun : un ≤ 1000 := Nat.le_of_eq Hun.out
    generalize (some (⟨bg, 0, none⟩ : Addr)) = ua at *
    clear hv hc1 Hun
  case' neg =>
    have rB := Rd.ofOwn oB
    have hbt : AllB bs := hb
    have t1 : decide ((1000 : Int) < (bn : Int)) = false := by simp; omega
    clear hbl oB
    go_upto_region 5 with fail
    have hun : bn ≤ 1000 := by omega
    clear t1
    generalize bs = bd at *
    generalize bn = un at *
    generalize ba1 = ua at *
  all_goals
    have hbl : bd.length = un := by have := rB.len; rwa [vb_len] at this
    have Hbl := hid hbl
    have k0 : V2.cell? ⟨kb, 0, none⟩ = some (.int .i64 (p : Int)) := by rw [cell_of_row _ _ _ _ _ _ K1]; rfl
    have k1 : V2.cell? ⟨kb, 1, none⟩ = some (.slice (some ⟨g, 0, none⟩) 8 c) := by rw [cell_of_row _ _ _ _ _ _ K1]; rfl
    have k2 : V2.cell? ⟨kb, 2, none⟩ = some (.int .i64 (-1)) := by rw [cell_of_row _ _ _ _ _ _ K1]; rfl
    have k3 : V2.cell? ⟨kb, 3, none⟩ = some (.int .i64 0) := by rw [cell_of_row _ _ _ _ _ _ K1]; rfl
    have hok := ok_new p ws hp hws
    obtain ⟨ub, uo, hua⟩ : ∃ ub uo, 0 < un → ua = some ⟨ub, uo, none⟩ := by
      rcases Nat.eq_zero_or_pos un with h | h
      · exact ⟨0, 0, fun h' => by omega⟩
      · obtain ⟨b', o', ha, _⟩ := rB.mem h
        exact ⟨b', o', fun _ => ha⟩
    have Hua := hid hua
    clear hua hlong hle hbl hbd hb hreach
    go_wp2_with fail
    refine (seal_ok p (-1) 0 ⟨g, 0, none⟩ c ws hok cn ua ub uo un bc1 bd V2 (Rd.ofOwn oW) hcn Hua.out rB hbt hun).mono ?_
    rintro e V3 ⟨sg, sc, rfl, oS, b3⟩
    have rS0 := Rd.ofOwn oS
    have hS0 := Sl_zero p ws cn bd
    have hSn := Sl_num p ws cn bd hcn
    have hSp := Sl_pre p ws cn bd
    have hSt := Sl_tag p ws cn bd
    have hSb := Sl_body p ws cn bd
    have hSB : AllB (Sl p ws cn bd) := Sl_b p ws cn (by omega) hbt
    have hSl := Sl_len p ws cn bd
    rw [Hbl.out] at hSp hSt hSb hSl
    have HC := hid (Cv_Cv ws cn bd)
    generalize Sl p ws cn bd = S at *
    have HS0 := hid hS0
    have HSn := hid hSn
    have HSp := hid hSp
    have HSt := hid hSt
    have HSb := hid hSb
    have HSl := hid hSl
    clear hS0 hSn hSp hSt hSb hSl k0 k1 k2 k3
    have oS := ownsRow_mono oS hB.size
    have rB := rB.below b3
    have oW := ownsRow_below oW b3
    have K1 := row_below K1 b3
    have hB := hB.trans (b3.mono hB.size)
    clear b3
    have k0 : V3.cell? ⟨kb, 0, none⟩ = some (.int .i64 (p : Int)) := by rw [cell_of_row _ _ _ _ _ _ K1]; rfl
    have k1 : V3.cell? ⟨kb, 1, none⟩ = some (.slice (some ⟨g, 0, none⟩) 8 c) := by rw [cell_of_row _ _ _ _ _ _ K1]; rfl
    have k2 : V3.cell? ⟨kb, 2, none⟩ = some (.int .i64 (-1)) := by rw [cell_of_row _ _ _ _ _ _ K1]; rfl
    have k3 : V3.cell? ⟨kb, 3, none⟩ = some (.int .i64 0) := by rw [cell_of_row _ _ _ _ _ _ K1]; rfl
    go_wp2_with fail
    refine (add_none (p : Int) (-1) 0 ⟨g, 0, none⟩ c ws hok V3 (Rd.ofOwn oW)).mono ?_
    rintro e V4 ⟨rg, rc, rw_, rwc, rfl, oR, oX, b4⟩
    have K1 := row_below K1 b4
    have oR := ownsRow_mono oR hB.size
    have oX := ownsRow_mono oX hB.size
    have oS := ownsRow_below oS b4
    have rB := rB.below b4
    have hB := hB.trans (b4.mono hB.size)
    clear b4 k0 k1 k2 k3 oW
    have hB4 := hB
    have hub4 : ∀ b off, 0 < un → ua = some ⟨b, off, none⟩ → b < V4.heap.size := fun b off h ha => rB.block_lt h ha
    have R1 := heap_alloc_new V4 (.cells #[.slice (some ⟨rg, 0, none⟩) 1 rc] 33)
    have b5 := below_alloc V4 (.cells #[.slice (some ⟨rg, 0, none⟩) 1 rc] 33)
    have K1 := row_below K1 b5
    have oR := ownsRow_below oR b5
    have oX := ownsRow_below oX b5
    have oS := ownsRow_below oS b5
    have rB := rB.below b5
    have hB := hB.trans (b5.mono hB.size)
    have Hub4 := hid hub4
    have HB4 := hid hB4
    clear b5 hub4 hB4
    go_wp2_with (at_builtin; refine hold ?_)
    unfold Hid
    generalize V4.alloc (.cells #[.slice (some ⟨rg, 0, none⟩) 1 rc] 33) = V5 at *
    have HrW : Hid (W.heap.size ≤ V4.heap.size) := by have := HB4.out.size; exact this
    have Hrb : Hid (∀ b off, 0 < un → ua = some ⟨b, off, none⟩ → b ≠ V4.heap.size) := fun b off h ha e => by have := Hub4.out b off h ha; omega
    generalize V4.heap.size = rb at *
    have hsg : sg < V5.heap.size := (oS.lt sg rfl).2
    have hub : ∀ b off, 0 < un → ua = some ⟨b, off, none⟩ → b < V5.heap.size := fun b off h ha => rB.block_lt h ha
    have HV5 := hB.size
    refine wpList_append_rd rfl _ _ 22 rfl V5.heap.size 5 i0 _ 1 Try.underlying22 hi0 hz0 hz1 hz2 rfl none 0 0 [] rfl (World.ownsRow_nil _ _ _ _) (some ⟨sg, 0, none⟩) (un + 15) sc (vb S) rfl (Rd.ofOwn oS) (vb_oneCell _) (by omega) (by unfold maxLen; omega) (Nat.le_refl _) ?_
    intro wa wc V6 oC gC bC
    rw [List.nil_append, Nat.zero_add] at oC
    simp only [Nat.zero_add]
    obtain ⟨wg, rfl⟩ := own_addr oC (by omega)
    have K1 := (gC.block kb (row_lt K1) (by simp [Value.ownBlock])).trans K1
    have R1 := (gC.block rb (row_lt R1) (by simp [Value.ownBlock])).trans R1
    have oR := oR.kept gC (.inr (by simp [Value.ownBlock]))
    have oX := oX.kept gC (.inr (by simp [Value.ownBlock]))
    have oS := oS.kept gC (.inr (by simp [Value.ownBlock]))
    have rB := rB.grown gC (fun b off _ _ => by simp [Value.ownBlock])
    have hB := hB.trans (bC.mono hB.size)
    have hwg : V5.heap.size ≤ wg := (oC.lt wg rfl).1
    have hub := fun b off h ha => Nat.lt_of_lt_of_le (hub b off h ha) hwg
    have hsg : sg < wg := Nat.lt_of_lt_of_le hsg hwg
    have oC := ownsRow_mono oC HV5
    have hwB : W.heap.size ≤ wg := Nat.le_trans HV5 hwg
    have Hub := hid hub
    clear gC bC rS0 hub hwg HV5
    go_wp2_with fail
    have HB := hid hun
    obtain ⟨sn, hsn⟩ : ∃ sn, sn = un + 15 := ⟨_, rfl⟩
    rw [← hsn] at oC oS HSl ⊢
    obtain ⟨m1, hm1⟩ : ∃ m1, m1 + 1 = sn := ⟨un + 14, by omega⟩
    have e1 : (sn : Int) - 1 = (m1 : Int) := by omega
    have e2 : IntKind.i64.wrap (m1 : Int) = (m1 : Int) := IntWalk.i64_in _ (by omega)
    have hm14 : 14 ≤ m1 ∧ m1 ≤ 1014 := by omega
    have Hsn := hid hsn
    have Hm1 := hid hm1
    clear hsn hm1 hun
    refine wp_region_can 15 [5, 10] [0, 1, 2, 3, 4, 9, 5, 6, 7, 8, 10, 11, 12, 13, 14] (Below V6.heap.size) (fun _ => Below.refl _ _) (fun _ _ _ h k => h.trans k) (by kernel_rfl) (by kernel_rfl) ?_
    simp only [List.map_cons, List.map_nil, List.contains_cons, List.contains_nil, List.getD_cons_zero, List.getD_cons_succ, Nat.reduceBEq, Bool.or_false, Bool.or_true]
    repeat (refine wpL_do rfl (fun w' hw' => (by go_simp; rfl)) ?_; simp only [Act.put, List.setIfInBounds_toArray, List.set_cons_succ, List.set_cons_zero])
    refine wpL_call rfl (fun K hK => ?_)
    go_wp2_with fail
    refine (pick_any at_ 8 V6.drew hat.1 hat.2 (by decide) (by decide)).mono ?_
    rintro e w' ⟨q1, rfl, hq1, _, rfl⟩
    refine hK _ _ (Below.refl _ _) ?_
    clear hK K
    try simp only [Act.put, List.setIfInBounds_toArray, List.set_cons_succ, List.set_cons_zero]
    have hq1 : q1 < 8 := hq1
    obtain ⟨k, hk⟩ : ∃ k, k + q1 = m1 := ⟨m1 - q1, by omega⟩
    have e3 : (m1 : Int) - (q1 : Int) = (k : Int) := by omega
    have e4 : IntKind.i64.wrap (k : Int) = (k : Int) := IntWalk.i64_in _ (by omega)
    have e5 : (k : Int) < (sn : Int) := by omega
    have e6 : (0 : Int) ≤ (k : Int) := by omega
    have e7 : (k : Int).toNat = k := by omega
    have hkS : k < S.length := by rw [HSl.out]; have := Hm1.out; omega
    have hk7 : un + 7 ≤ k := by have := Hsn.out; have := Hm1.out; omega
    have hx := nth_lt hSB k
    have cx : V6.cell? ⟨wg, k, none⟩ = some (.int .u8 (nth S k : Nat)) := by rw [oC.cellAt k (by have := Hm1.out; omega), vb_get _ _ hkS]
    have fx := oC.frozenAt k
    obtain ⟨x, hxx⟩ : ∃ x, x = nth S k := ⟨_, rfl⟩
    rw [← hxx] at hx cx
    have HX := hid hxx
    have Hk := hid hk
    have Hk7 := hid hk7
    have HkS := hid hkS
    clear hk hk7 hkS hxx hq1
    have n0 : ∀ w', Below V6.heap.size V6.drew w' → w'.cell? ⟨wg, k, none⟩ = some (.int .u8 (x : Int)) := fun w' hw => (hw.cell (p := ⟨wg, k, none⟩) (oC.lt wg rfl).2).trans cx
    repeat (refine wpL_do rfl (fun w' hw' => (by go_simp; rfl)) ?_; simp only [Act.put, List.setIfInBounds_toArray, List.set_cons_succ, List.set_cons_zero])
    refine wpL_call rfl (fun K hK => ?_)
    go_wp2_with fail
    refine (pick_any by_ 255 V6.drew hby.1 hby.2 (by decide) (by decide)).mono ?_
    rintro e w' ⟨q2, rfl, hq2, _, rfl⟩
    refine hK _ _ (Below.refl _ _) ?_
    clear hK K
    try simp only [Act.put, List.setIfInBounds_toArray, List.set_cons_succ, List.set_cons_zero]
    have hq2 : q2 < 255 := hq2
    obtain ⟨y, hy⟩ : ∃ y, y = 1 + q2 := ⟨_, rfl⟩
    have e8 : (1 : Int) + (q2 : Int) = (y : Int) := by omega
    have e9 : IntKind.i64.wrap (y : Int) = (y : Int) := IntWalk.i64_in _ (by omega)
    have e10 : IntKind.u8.wrap (y : Int) = (y : Int) := by rw [IntKind.wrap_u8]; omega
    have e11 := u8_xor_nat x y hx (by omega)
    have hy0 : 0 < y ∧ y < 256 := by omega
    obtain ⟨z, hz⟩ : ∃ z, z = x ^^^ y := ⟨_, rfl⟩
    rw [← hz] at e11
    have Hz : Hid (z ≠ nth S k ∧ z < 256) := ⟨by rw [hz, ← HX.out]; exact xor_ne x y hy0.1, by rw [hz]; exact Nat.xor_lt_two_pow (n := 8) hx hy0.2⟩
    clear hz hy hq2
    repeat (refine wpL_do rfl (fun w' hw' => (by go_simp; rfl)) ?_; simp only [Act.put, List.setIfInBounds_toArray, List.set_cons_succ, List.set_cons_zero])
    refine wpL_nil ?_
    clear n0
    obtain ⟨oC7, g7⟩ := oC.drew.stored k (.int .u8 (z : Int))
    have K1 := row_kept (row_drew K1) oC.drew g7 (by decide)
    have R1 := row_kept (row_drew R1) oC.drew g7 (by decide)
    have oR := oR.drew.kept g7 (own_apart oR.drew oC.drew (by decide))
    have oX := oX.drew.kept g7 (own_apart oX.drew oC.drew (by decide))
    have oS := oS.drew.kept g7 (.inr (by simp [Value.ownBlock]; omega))
    have rB := (rB.below ((Below.refl _ V6).drew)).grown g7 (fun b off h ha e => by have := Hub.out b off h ha; cases e; omega)
    have hB := hB.drew.grown g7 hB.size (fun b e => by cases e; exact hwB)
    obtain ⟨V7, hV7⟩ : ∃ V7, V7 = V6.drew.setCell ⟨wg, k, none⟩ (.int .u8 (z : Int)) := ⟨_, rfl⟩
    rw [← hV7] at oC7 K1 R1 oR oX oS rB hB
    have hV7' := hV7.symm
    rw [vb_set] at oC7
    clear hV7 g7 oC
    have r1 : V7.cell? ⟨rb, 0, none⟩ = some (.slice (some ⟨rg, 0, none⟩) 1 rc) := by rw [cell_of_row _ _ _ _ _ _ R1]; rfl
    go_wp2_with fail
    clear hV7' e1 e2 e3 e4 e5 e6 e7 e8 e9 e10 e11 cx fx
    refine onlyOn_normal ?_
    have kR : KCells V7 rg (p : Int) (-1) ((0 : Nat) : Int) (some ⟨rw_, 0, none⟩) rwc := ⟨oR.cellAt 0 (by decide), oR.cellAt 1 (by decide), oR.cellAt 2 (by decide), oR.cellAt 3 (by decide)⟩
    have rW := Rd.ofOwn oC7
    have hS7 : 7 ≤ k := by have := Hk7.out; omega
    have wB : AllB (S.set k z) := hSB.set k z Hz.out.2
    have ew : nth (S.set k z) 0 = p := by rw [set_zero _ _ _ (by omega)]; exact HS0.out
    have en : numN (((S.set k z).drop 1).take 6) = cn := by rw [set_num _ _ _ hS7]; exact HSn.out
    have ed : decide (Tg ws cn ((S.set k z).take (sn - 8)) = (S.set k z).drop (sn - 8)) = false := by
      have e8 : sn - 8 = un + 7 := by have := Hsn.out; omega
      rw [e8, set_cut _ _ _ _ Hk7.out, HSp.out, ← HSt.out]
      exact decide_eq_false fun e => set_tag S k z (un + 7) Hk7.out HkS.out Hz.out.1 e.symm
    have Hew := hid ew
    have Hen := hid en
    have Hed := hid ed
    clear ew en ed
    have hok2 : KeyOk (p : Int) (-1) ((0 : Nat) : Int) ws := hok
    go_wp2_with fail
    refine (open_ok rg rc p (-1) 0 ⟨rw_, 0, none⟩ rwc ws hok2 V7 kR (Rd.ofOwn oX) wg 0 sn wc (S.set k z) rW wB (by have := Hsn.out; have := HB.out; omega) cn hcn Hew.out Hen.out).mono ?_
    unfold OpenE
    rw [Hed.out]
    rintro e V8 ⟨g2, c2, gw, gc, t, s', oa, on, oc, who, err, out, rfl, oR2, _, _, b8, rfl, rfl, rfl, rfl, rfl⟩
    have oR := ownsRow_below oR b8
    have oX := ownsRow_below oX b8
    have oS := ownsRow_below oS b8
    have rB := rB.below b8
    have K1 := row_below K1 b8
    have R1 := row_below R1 b8
    have hB := hB.trans (b8.mono hB.size)
    have Q1 := heap_alloc_new V8 (.cells #[.slice (some ⟨g2, 0, none⟩) 1 c2] 33)
    have b9 := below_alloc V8 (.cells #[.slice (some ⟨g2, 0, none⟩) 1 c2] 33)
    have oR := ownsRow_below oR b9
    have oX := ownsRow_below oX b9
    have oS := ownsRow_below oS b9
    have oR2 := ownsRow_below oR2 b9
    have rB := rB.below b9
    have K1 := row_below K1 b9
    have R1 := row_below R1 b9
    have hB := hB.trans (b9.mono hB.size)
    clear b8 b9 r1 oC7 rW kR Hew Hen Hed
    go_upto_region 14 with fail
    generalize V8.alloc (.cells #[.slice (some ⟨g2, 0, none⟩) 1 c2] 33) = V9 at *
    generalize V8.heap.size = qb at *
    have q0 : V9.cell? ⟨qb, 0, none⟩ = some (.slice (some ⟨g2, 0, none⟩) 1 c2) := by rw [cell_of_row _ _ _ _ _ _ Q1]; rfl
    have q2 : V9.cell? ⟨g2, 2, none⟩ = some (.int .i64 (-1)) := oR2.cellAt 2 (by decide)
    go_upto_region 16 with fail
    clear q0 q2 Q1 oR2
    have r1 : V9.cell? ⟨rb, 0, none⟩ = some (.slice (some ⟨rg, 0, none⟩) 1 rc) := by rw [cell_of_row _ _ _ _ _ _ R1]; rfl
    have kR : KCells V9 rg (p : Int) (-1) ((0 : Nat) : Int) (some ⟨rw_, 0, none⟩) rwc := ⟨oR.cellAt 0 (by decide), oR.cellAt 1 (by decide), oR.cellAt 2 (by decide), oR.cellAt 3 (by decide)⟩
    have hrow : rg ≠ rb := fun e => by
      rcases own_ne oR R1 (by decide) with h | h
      · cases h
      · exact h (by rw [e]; rfl)
    have e8 : sn - 8 = un + 7 := by have := Hsn.out; omega
    have e15 : sn - 15 = un := by have := Hsn.out; omega
    have Hed : Hid (decide (Tg ws cn (S.take (sn - 8)) = S.drop (sn - 8)) = true) := by
      show _ = _
      rw [e8, HSp.out, HSt.out]; exact decide_eq_true rfl
    have Hcv : Hid (Cv ws cn ((S.drop 7).take (sn - 15)) = bd) := by
      show _ = _
      rw [e15, HSb.out]; exact HC.out
    have H15 := hid e15
    have Ho : Hid (onceF (-1) 0 cn = some ((cn : Int), 0)) := by show _ = _; unfold onceF; rw [if_pos (by decide)]
    clear e8 e15
    go_wp2_with fail
    refine (open_ok rg rc p (-1) 0 ⟨rw_, 0, none⟩ rwc ws hok2 V9 kR (Rd.ofOwn oX) sg 0 sn sc S (Rd.ofOwn oS) hSB (by have := Hsn.out; have := HB.out; omega) cn hcn HS0.out HSn.out).mono ?_
    unfold OpenE
    rw [Hed.out, Ho.out, Hcv.out, H15.out]
    rintro e V10 ⟨g3, c3, gv, gvc, t, s', oa3, on3, oc3, who3, err3, out3, rfl, oR3, oX3, oB3, b10, rfl, rfl, hon, hout, rfl, rfl⟩
    obtain rfl := hon.symm
    obtain rfl := hout.symm
    clear hon hout
    have rB := rB.below b10
    have K1 := row_below K1 b10
    have R1 := row_below R1 b10
    have oS := ownsRow_below oS b10
    have hszv := b10.size
    have oR3 := ownsRow_mono oR3 hB.size
    have oX3 := ownsRow_mono oX3 hB.size
    have oB3 := ownsRow_mono oB3 hB.size
    have hB := hB.trans (b10.mono hB.size)
    have r1 : V10.cell? ⟨rb, 0, none⟩ = some (.slice (some ⟨rg, 0, none⟩) 1 rc) := by rw [cell_of_row _ _ _ _ _ _ R1]; rfl
    have f1 := frozen_row R1
    obtain ⟨R2, gR⟩ := set_row (cs' := #[.slice (some ⟨g3, 0, none⟩) 1 c3]) R1 0 (.slice (some ⟨g3, 0, none⟩) 1 c3) rfl
    have hkr : kb ≠ rb := fun e => by rw [e] at K1; rw [K1] at R1; cases R1
    have hrW : W.heap.size ≤ rb := HrW.out
    have K1 := row_grown K1 gR hkr
    have rB := rB.grown gR (fun b off h ha e => Hrb.out b off h ha (by cases e; rfl))
    have oS := oS.kept gR (own_ne oS R1 (by decide))
    have oR3 := oR3.kept gR (own_ne oR3 R1 (by decide))
    have oX3 := oX3.kept gR (own_ne oX3 R1 (by decide))
    have oB3 := oB3.kept gR (own_ne oB3 R1 (by decide))
    have hB := hB.grown gR hB.size (fun b e => by cases e; exact hrW)
    clear b10 hszv kR Hed Hcv Ho H15
    go_upto_region 17 with fail
    clear r1 f1 gR R1
    generalize V10.setCell ⟨rb, 0, none⟩ (.slice (some ⟨g3, 0, none⟩) 1 c3) = V11 at *
    have s1 := run_str (P := Try.prog) 22 5 9 Try.underlying22 Try.underlying5 Try.underlying9 rB
    have s2 := run_str (P := Try.prog) 22 5 9 Try.underlying22 Try.underlying5 Try.underlying9 (Rd.ofOwn oB3)
    have k0 : V11.cell? ⟨kb, 0, none⟩ = some (.int .i64 (p : Int)) := by rw [cell_of_row _ _ _ _ _ _ K1]; rfl
    have r1 : V11.cell? ⟨rb, 0, none⟩ = some (.slice (some ⟨g3, 0, none⟩) 1 c3) := by rw [cell_of_row _ _ _ _ _ _ R2]; rfl
    have q2 : V11.cell? ⟨g3, 2, none⟩ = some (.int .i64 (cn : Int)) := oR3.cellAt 2 (by decide)
    go_upto_region 19 with fail
    clear s1 s2 k0 q2
    have kR : KCells V11 g3 (p : Int) (cn : Int) ((0 : Nat) : Int) (some ⟨gv, 0, none⟩) gvc := ⟨oR3.cellAt 0 (by decide), oR3.cellAt 1 (by decide), oR3.cellAt 2 (by decide), oR3.cellAt 3 (by decide)⟩
    have e8 : sn - 8 = un + 7 := by have := Hsn.out; omega
    have Hed : Hid (decide (Tg ws cn (S.take (sn - 8)) = S.drop (sn - 8)) = true) := by
      show _ = _
      rw [e8, HSp.out, HSt.out]; exact decide_eq_true rfl
    have Ho : Hid (onceF (cn : Int) 0 cn = none) := by show _ = _; unfold onceF; rw [if_neg (by omega), if_pos (.inl rfl)]
    clear e8
    have hok3 := ok_top p cn ws hp hcn hws
    go_wp2_with fail
    refine (open_ok g3 c3 p (cn : Int) 0 ⟨gv, 0, none⟩ gvc ws hok3 V11 kR (Rd.ofOwn oX3) sg 0 sn sc S (Rd.ofOwn oS) hSB (by have := Hsn.out; have := HB.out; omega) cn hcn HS0.out HSn.out).mono ?_
    unfold OpenE
    rw [Hed.out, Ho.out]
    rintro e V12 ⟨g4, c4, gw4, gwc4, t, s', oa4, on4, oc4, who4, err4, out4, rfl, _, _, _, b12, rfl, rfl, rfl, rfl, rfl⟩
    have hB := hB.trans (b12.mono hB.size)
    clear r1
    go_wp2_with fail
    go_ret
    exact ⟨rfl, hB⟩
end Go.Proofs.Ytdeeilahefnicaa
