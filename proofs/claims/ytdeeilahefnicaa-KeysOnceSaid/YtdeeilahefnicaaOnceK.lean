/- KeysOnce: the walk of the law. -/
import Derived.Test.YtdeeilahefnicaaBackK
import Derived.Test.YtdeeilahefnicaaOnceP
namespace Go.Proofs.Ytdeeilahefnicaa
set_option linter.unusedVariables false
set_option linter.unusedSimpArgs false
open Go.RowKit Go.Shelf

theorem Try.info4 : (Try.prog.info? 4).map (fun i => (i.zero, i.size, i.bytes)) = some (some (.bool false), 1, 1) := by kernel_rfl
def vB (l : List Bool) : List Value := l.map Value.bool
theorem run_mkB (u : World) : (Instr.makeSlice 39 (.int .i64 400) (.int .i64 400)).run Try.prog u =
    .ok (.slice (some ⟨u.heap.size, 0, none⟩) 400 400) (u.alloc (.cells (madeCells #[.bool false] 400) 4)) := by
  obtain ⟨i0, hi, hz0, hz1, hz2⟩ := info_parts Try.info4
  have h := run_make (P := Try.prog) u 39 4 i0 (.bool false) Try.underlying39 hi hz0 .i64 .i64 400 400 (by omega) (Int.le_refl _) (by rw [hz2]; omega) (by omega)
  simpa [hz1, Value.cells] using h
theorem made_ownB (m : Nat) (hm : m ≤ 1000) (u : World) : (u.alloc (.cells (madeCells #[.bool false] m) 4)).ownsRow u.heap.size 4 1 (.slice (some ⟨u.heap.size, 0, none⟩) m m) m (vB (List.replicate m false)) := by
  have h := World.ownsRow_lit (base := u.heap.size) (e := 4) (size := 1) u (madeCells #[.bool false] m) m (Nat.le_refl _) (by unfold maxLen; omega) (by rw [size_madeCells, Nat.mul_one])
  rw [toList_madeCells_one] at h
  simpa [vB] using h
theorem vB_get (l : List Bool) (k : Nat) (h : k < l.length) : (vB l)[k]? = some (.bool (l.getD k false)) := by
  simp [vB, h]
theorem vB_set (l : List Bool) (k : Nat) : (vB l).set k (.bool true) = vB (l.set k true) := by simp [vB]

/-- the world at a round's head -/
structure OW (W0 W : World) (p g c : Nat) (ws : List Int) (kb rb db : Nat) (rg rc rw_ rwc : Nat) (T : Int) (s : Nat) (dn : List Bool) : Prop where
  key : W.heap[kb]? = some (.cells #[.int .i64 (p : Int), .slice (some ⟨g, 0, none⟩) 8 c, .int .i64 (-1), .int .i64 0] 25)
  words : W.ownsRow W0.heap.size 3 1 (.slice (some ⟨g, 0, none⟩) 8 c) 8 (vz ws)
  box : W.heap[rb]? = some (.cells #[.slice (some ⟨rg, 0, none⟩) 1 rc] 33)
  ring : W.ownsRow W0.heap.size 25 4 (.slice (some ⟨rg, 0, none⟩) 1 rc) 1 [.int .i64 (p : Int), .slice (some ⟨rw_, 0, none⟩) 8 rwc, .int .i64 T, .int .i64 (s : Int)]
  rwords : W.ownsRow W0.heap.size 3 1 (.slice (some ⟨rw_, 0, none⟩) 8 rwc) 8 (vz ws)
  done : W.ownsRow W0.heap.size 4 1 (.slice (some ⟨db, 0, none⟩) 400 400) 400 (vB dn)
  below : Below W0.heap.size W0 W
theorem OW.next {W0 W W' : World} {p g c : Nat} {ws : List Int} {kb rb db rg rc rw_ rwc : Nat} {T : Int} {s : Nat} {dn : List Bool} (h : OW W0 W p g c ws kb rb db rg rc rw_ rwc T s dn) (hb : Below W.heap.size W W') : OW W0 W' p g c ws kb rb db rg rc rw_ rwc T s dn :=
  ⟨row_below h.key hb, ownsRow_below h.words hb, row_below h.box hb, ownsRow_below h.ring hb, ownsRow_below h.rwords hb, ownsRow_below h.done hb, h.below.trans (hb.mono h.below.size)⟩

theorem OW.put {W0 W W' : World} {p g c : Nat} {ws : List Int} {kb rb db rg rc rw_ rwc : Nat} {T : Int} {s : Nat} {dn : List Bool} (h : OW W0 W p g c ws kb rb db rg rc rw_ rwc T s dn) {g2 c2 gw gc : Nat} {T' : Int} {s' : Nat}
    (oR : W.ownsRow W0.heap.size 25 4 (.slice (some ⟨g2, 0, none⟩) 1 c2) 1 [.int .i64 (p : Int), .slice (some ⟨gw, 0, none⟩) 8 gc, .int .i64 T', .int .i64 (s' : Int)]) (oX : W.ownsRow W0.heap.size 3 1 (.slice (some ⟨gw, 0, none⟩) 8 gc) 8 (vz ws)) (hkr : kb ≠ rb) (hrW : W0.heap.size ≤ rb)
    (hW' : W' = W.setCell ⟨rb, 0, none⟩ (.slice (some ⟨g2, 0, none⟩) 1 c2)) : OW W0 W' p g c ws kb rb db g2 c2 gw gc T' s' dn := by
  subst hW'
  obtain ⟨R2, gR⟩ := set_row (cs' := #[.slice (some ⟨g2, 0, none⟩) 1 c2]) h.box 0 (.slice (some ⟨g2, 0, none⟩) 1 c2) rfl
  exact ⟨row_grown h.key gR hkr, h.words.kept gR (own_ne h.words h.box (by decide)), R2, oR.kept gR (own_ne oR h.box (by decide)), oX.kept gR (own_ne oX h.box (by decide)), h.done.kept gR (own_ne h.done h.box (by decide)), h.below.grown gR h.below.size (fun b e => by cases e; exact hrW)⟩
theorem OW.mark {W0 W W' : World} {p g c : Nat} {ws : List Int} {kb rb db rg rc rw_ rwc : Nat} {T : Int} {s : Nat} {dn : List Bool} (h : OW W0 W p g c ws kb rb db rg rc rw_ rwc T s dn) (n : Nat) (hW' : W' = W.setCell ⟨db, n, none⟩ (.bool true)) : OW W0 W' p g c ws kb rb db rg rc rw_ rwc T s (dn.set n true) ∧ W.grownBy W' (some db) := by
  subst hW'
  obtain ⟨o2, g2⟩ := h.done.stored n (.bool true)
  rw [vB_set] at o2
  exact ⟨⟨row_kept h.key h.done g2 (by decide), h.words.kept g2 (own_apart h.words h.done (by decide)), row_kept h.box h.done g2 (by decide), h.ring.kept g2 (own_apart h.ring h.done (by decide)), h.rwords.kept g2 (own_apart h.rwords h.done (by decide)), o2, h.below.grown g2 h.below.size (fun b e => by cases e; exact (h.done.lt db rfl).1)⟩, g2⟩

set_option maxRecDepth 100000 in
set_option maxHeartbeats 8000000 in
theorem once_walk (seed from_ : Int) (hs : I64 seed) (hf : I64 from_) (la : Option Addr) (ln lc : Nat) (ls : List Int) (W : World) (hl : Rd W la ln lc (vz ls)) (hli : ∀ j, I64 (ls.getD j 0)) :
    Calls Try.prog 4 #[.int .i64 seed, .int .i64 from_, .slice la ln lc] W fun e w' => e = .returned (.bool true) ∧ Below W.heap.size W w' := by
  by_cases hlong : 120 < ln
  · go_enter Try.func4, Try.ntmps4
    go_wp2_with fail
    go_ret
    exact ⟨rfl, Below.refl _ _⟩
  · have t0 : decide ((120 : Int) < (ln : Int)) = false := by simp; omega
    go_enter Try.func4, Try.ntmps4
    go_wp2_with fail
    refine (key_ok 7 seed W ⟨by decide, by decide⟩ hs).mono ?_
    rintro e V ⟨p, g, c, ws, rfl, hp, hws, oW, bV⟩
    have K1 := heap_alloc_new V (.cells #[.int .i64 (p : Int), .slice (some ⟨g, 0, none⟩) 8 c, .int .i64 (-1), .int .i64 0] 25)
    have b1 := below_alloc V (.cells #[.int .i64 (p : Int), .slice (some ⟨g, 0, none⟩) 8 c, .int .i64 (-1), .int .i64 0] 25)
    have oW := ownsRow_below oW b1
    have hB := bV.trans (b1.mono bV.size)
    have hok := ok_new p ws hp hws
    clear bV b1 t0
    go_upto_region 4 with fail
    generalize V.alloc (.cells #[.int .i64 (p : Int), .slice (some ⟨g, 0, none⟩) 8 c, .int .i64 (-1), .int .i64 0] 25) = V1 at *
    generalize V.heap.size = kb at *
    have k0 : V1.cell? ⟨kb, 0, none⟩ = some (.int .i64 (p : Int)) := by rw [cell_of_row _ _ _ _ _ _ K1]; rfl
    have k1 : V1.cell? ⟨kb, 1, none⟩ = some (.slice (some ⟨g, 0, none⟩) 8 c) := by rw [cell_of_row _ _ _ _ _ _ K1]; rfl
    have k2 : V1.cell? ⟨kb, 2, none⟩ = some (.int .i64 (-1)) := by rw [cell_of_row _ _ _ _ _ _ K1]; rfl
    have k3 : V1.cell? ⟨kb, 3, none⟩ = some (.int .i64 0) := by rw [cell_of_row _ _ _ _ _ _ K1]; rfl
    go_wp2_with fail
    refine (add_none (p : Int) (-1) 0 ⟨g, 0, none⟩ c ws hok V1 (Rd.ofOwn oW)).mono ?_
    rintro e V4 ⟨rg, rc, rw_, rwc, rfl, oR, oX, b4⟩
    have K1 := row_below K1 b4
    have oW := ownsRow_below oW b4
    have oR := ownsRow_mono oR hB.size
    have oX := ownsRow_mono oX hB.size
    have hB := hB.trans (b4.mono hB.size)
    clear b4 k0 k1 k2 k3
    have R1 := heap_alloc_new V4 (.cells #[.slice (some ⟨rg, 0, none⟩) 1 rc] 33)
    have b5 := below_alloc V4 (.cells #[.slice (some ⟨rg, 0, none⟩) 1 rc] 33)
    have K1 := row_below K1 b5
    have oR := ownsRow_below oR b5
    have oX := ownsRow_below oX b5
    have oW := ownsRow_below oW b5
    have HrW : Hid (W.heap.size ≤ V4.heap.size) := hB.size
    have hkr : kb < V4.heap.size := row_lt (W := V4) (by assumption)
    have hB := hB.trans (b5.mono hB.size)
    clear b5
    go_upto_region 7 with fail
    generalize V4.alloc (.cells #[.slice (some ⟨rg, 0, none⟩) 1 rc] 33) = V5 at *
    generalize V4.heap.size = rb at *
    go_wp2_with fail
    refine (pick_any from_ 1000000 V5 hf.1 hf.2 (by decide) (by decide)).mono ?_
    rintro e V' ⟨base, rfl, hbase, _, rfl⟩
    have hbase : base < 1000000 := hbase
    have hmk := run_mkB
    go_wp2_with fail
    have oD := made_ownB 400 (by decide) V5
    have bD := below_alloc V5 (.cells (madeCells #[.bool false] 400) 4)
    have K1 := row_below K1 bD
    have R1 := row_below R1 bD
    have oR := ownsRow_below oR bD
    have oX := ownsRow_below oX bD
    have oW := ownsRow_below oW bD
    have oD := ownsRow_mono oD hB.size
    have hB := hB.trans (bD.mono hB.size)
    have hO : OW W (V5.alloc (.cells (madeCells #[.bool false] 400) 4)) p g c ws kb rb V5.heap.size rg rc rw_ rwc (-1) 0 (List.replicate 400 false) := ⟨K1, oW, R1, oR, oX, oD, hB⟩
    clear bD K1 R1 oR oX oW oD hB hmk
    generalize V5.alloc (.cells (madeCells #[.bool false] 400) 4) = V6 at *
    generalize V5.heap.size = db at *
    have hInv := oinv_start base
    have hln : ln ≤ 120 := by omega
    go_loopw [11, 13] (fun tv iv wr => ∃ (i : Nat) (tn T : Int) (s : Nat) (dn : List Bool) (rg rc rw_ rwc : Nat), iv = .int .i64 (i : Int) ∧ tv = .int .i64 tn ∧ i ≤ ln ∧ Hid (OInv base tn dn T s) ∧ OW W wr p g c ws kb rb db rg rc rw_ rwc T s dn) (fun _ iv _ => ln - (intOf iv).toNat)
    case atStart => exact ⟨0, _, _, _, _, _, _, _, _, rfl, rfl, Nat.zero_le _, hInv, hO⟩
    case round =>
      clear hO hInv
      obtain ⟨i, tn, T, s, dn, rg, rc, rw_, rwc, rfl, rfl, hi, HI, hO⟩ := hrel
      by_cases hlt : i < ln
      · have t1 : (i : Int) < (ln : Int) := by omega
        obtain ⟨lb, lo, rfl, hlb, hlc⟩ := (hl.below hO.below).mem (by omega)
        have hx := hlc i hlt
        have hxv : (vz ls)[i]? = some (.int .i64 (ls.getD i 0)) := by
          have hll : i < ls.length := by have := hl.len; simp [vz] at this; omega
          simp [vz, hll]
        rw [hxv] at hx
        have hxi := hli i
        generalize ls.getD i 0 = x at *
        have htn := oinv_tn HI.out
        clear hxv hlc hlb
        go_wp2_with fail
        refine (pick_any x 400 wr hxi.1 hxi.2 (by decide) (by decide)).mono ?_
        rintro e w' ⟨n, rfl, hn, _, rfl⟩
        have hn : n < 400 := hn
        have k0 : wr.cell? ⟨kb, 0, none⟩ = some (.int .i64 (p : Int)) := by rw [cell_of_row _ _ _ _ _ _ hO.key]; rfl
        have k1 : wr.cell? ⟨kb, 1, none⟩ = some (.slice (some ⟨g, 0, none⟩) 8 c) := by rw [cell_of_row _ _ _ _ _ _ hO.key]; rfl
        have k2 : wr.cell? ⟨kb, 2, none⟩ = some (.int .i64 (-1)) := by rw [cell_of_row _ _ _ _ _ _ hO.key]; rfl
        have k3 : wr.cell? ⟨kb, 3, none⟩ = some (.int .i64 0) := by rw [cell_of_row _ _ _ _ _ _ hO.key]; rfl
        obtain ⟨cn, hcn⟩ : ∃ cn, cn = base + n := ⟨_, rfl⟩
        have e1 : (base : Int) + (n : Int) = (cn : Int) := by omega
        have e2 : IntKind.i64.wrap (cn : Int) = (cn : Int) := IntWalk.i64_in _ (by omega)
        have hc48 : cn < 281474976710656 := by omega
        obtain ⟨y, hy⟩ : ∃ y, y = n % 256 := ⟨_, rfl⟩
        have e3 : IntKind.u8.wrap (n : Int) = (y : Int) := by rw [IntKind.wrap_u8]; omega
        have hy256 : y < 256 := by omega
        have Hcn := hid hcn
        clear hcn hy hx
        go_wp2_with fail
        have bY := below_alloc wr (.cells #[.int .u8 (y : Int)] 5)
        have oY := World.ownsRow_lit (base := W.heap.size) (e := 5) (size := 1) wr #[.int .u8 (y : Int)] 1 hO.below.size (by unfold maxLen; omega) rfl
        have oY : (wr.alloc (.cells #[.int .u8 (y : Int)] 5)).ownsRow W.heap.size 5 1 (.slice (some ⟨wr.heap.size, 0, none⟩) 1 1) 1 (vb [y]) := oY
        have hO := hO.next bY
        clear bY k0 k1 k2 k3
        generalize wr.alloc (.cells #[.int .u8 (y : Int)] 5) = w1 at *
        generalize wr.heap.size = yb at *
        have hyB : AllB [y] := fun z hz => by simp at hz; omega
        refine (seal_ok p (-1) 0 ⟨g, 0, none⟩ c ws hok cn (some ⟨yb, 0, none⟩) yb 0 1 1 [y] w1 (Rd.ofOwn hO.words) hc48 (fun _ => rfl) (Rd.ofOwn oY) hyB (by decide)).mono ?_
        rintro e w2 ⟨sg, sc, rfl, oS, b2⟩
        have hS0 := Sl_zero p ws cn [y]
        have hSn := Sl_num p ws cn [y] hc48
        have hSp := Sl_pre p ws cn [y]
        have hSt := Sl_tag p ws cn [y]
        have hSb := Sl_body p ws cn [y]
        have hSB : AllB (Sl p ws cn [y]) := Sl_b p ws cn (by omega) hyB
        have HC := hid (Cv_Cv ws cn [y])
        generalize Sl p ws cn [y] = S at *
        have Hed : Hid (decide (Tg ws cn (S.take (1 + 15 - 8)) = S.drop (1 + 15 - 8)) = true) := by
          show _ = _
          refine decide_eq_true ?_
          have h1 : Tg ws cn (S.take ([y].length + 7)) = S.drop ([y].length + 7) := by rw [hSp, hSt]
          exact h1
        have Hcv : Hid (Cv ws cn ((S.drop 7).take (1 + 15 - 15)) = [y]) := by
          show _ = _
          have h1 : (S.drop 7).take [y].length = Cv ws cn [y] := hSb
          have h2 : (S.drop 7).take (1 + 15 - 15) = Cv ws cn [y] := h1
          rw [h2]; exact HC.out
        have HS0 := hid hS0
        have HSn := hid hSn
        clear hS0 hSn hSp hSt hSb oY
        have oS := ownsRow_mono oS hO.below.size
        have hO := hO.next b2
        clear b2
        have r1 : w2.cell? ⟨rb, 0, none⟩ = some (.slice (some ⟨rg, 0, none⟩) 1 rc) := by rw [cell_of_row _ _ _ _ _ _ hO.box]; rfl
        have kR : KCells w2 rg (p : Int) T (s : Int) (some ⟨rw_, 0, none⟩) rwc := ⟨hO.ring.cellAt 0 (by decide), hO.ring.cellAt 1 (by decide), hO.ring.cellAt 2 (by decide), hO.ring.cellAt 3 (by decide)⟩
        have hokR := oinv_key HI.out hbase p hp ws hws
        go_wp2_with fail
        refine (open_ok rg rc p T s ⟨rw_, 0, none⟩ rwc ws hokR w2 kR (Rd.ofOwn hO.rwords) sg 0 (1 + 15) sc S (Rd.ofOwn oS) hSB (by omega) cn hc48 HS0.out HSn.out).mono ?_
        unfold OpenE
        rw [Hed.out, Hcv.out]
        have Hold := hid (fun h => oinv_old HI.out hn h)
        have Hnew := hid (fun (T' : Int) (s' : Nat) h => oinv_new HI.out hn (T' := T') (s' := s') h)
        rw [← Hcn.out] at Hold Hnew
        clear kR r1 Hed Hcv
        have hO2s := hO.below.size
        cases hr : onceF T s cn with
        | none =>
          rintro e w3 ⟨g2, c2, gw, gc, t, s', oa, on, oc, who, err, out, rfl, oR2, oX2, _, b3, rfl, rfl, rfl, hT, hs'⟩
          obtain rfl := hT.symm
          obtain rfl := hs'.symm
          have hO := hO.next b3
          have oR2 := ownsRow_mono oR2 hO2s
          have oX2 := ownsRow_mono oX2 hO2s
          have Q1 := heap_alloc_new w3 (.cells #[.slice (some ⟨g2, 0, none⟩) 1 c2] 33)
          have b4 := below_alloc w3 (.cells #[.slice (some ⟨g2, 0, none⟩) 1 c2] 33)
          have hO := hO.next b4
          have oR2 := ownsRow_below oR2 b4
          have oX2 := ownsRow_below oX2 b4
          have hcase := Hold.out hr
          clear b3 b4 Hold Hnew
          go_upto_region 18 with fail
          generalize w3.alloc (.cells #[.slice (some ⟨g2, 0, none⟩) 1 c2] 33) = w4 at *
          generalize w3.heap.size = qb at *
          have hdl := HI.out.1
          have q0 : w4.cell? ⟨qb, 0, none⟩ = some (.slice (some ⟨g2, 0, none⟩) 1 c2) := by rw [cell_of_row _ _ _ _ _ _ Q1]; rfl
          have r1 : w4.cell? ⟨rb, 0, none⟩ = some (.slice (some ⟨rg, 0, none⟩) 1 rc) := by rw [cell_of_row _ _ _ _ _ _ hO.box]; rfl
          have f1 := frozen_row hO.box
          have dc : w4.cell? ⟨db, n, none⟩ = some (.bool (dn.getD n false)) := by rw [hO.done.cellAt n (by omega), vB_get _ _ (by omega)]
          have u1 : (n : Int) < 400 := by omega
          obtain ⟨w5, hw5⟩ : ∃ w5, w5 = w4.setCell ⟨rb, 0, none⟩ (.slice (some ⟨g2, 0, none⟩) 1 c2) := ⟨_, rfl⟩
          have hO5 := hO.put oR2 oX2 (by omega) HrW.out hw5
          have hw5' := hw5.symm
          clear hw5 hO oR2 oX2 Q1 hdl
          generalize hdd : dn.getD n false = dd at *
          cases dd with
          | true =>
            clear hcase
            go_wp2_with fail
            go_roundw
            case rel => exact ⟨i + 1, tn, T, s, dn, _, _, _, _, by go_num, rfl, by omega, HI, hO5⟩
            case measure => simp [intOf]; omega
          | false =>
            have hfar : ¬ tn - 62 ≤ (n : Int) := by
              rcases hcase with h | h
              · cases h
              · omega
            clear hcase
            go_wp2_with fail
            go_roundw
            case rel => exact ⟨i + 1, tn, T, s, dn, _, _, _, _, by go_num, rfl, by omega, HI, hO5⟩
            case measure => simp [intOf]; omega
        | some ts =>
          obtain ⟨T', s1⟩ := ts
          rintro e w3 ⟨g2, c2, gw, gc, t, s', oa, on, oc, who, err, out, rfl, oR2, oX2, oB2, b3, rfl, hwho, rfl, rfl, rfl, rfl⟩
          obtain ⟨hdn, hge, hI2⟩ := Hnew.out t s' hr
          have oB2 : w3.ownsRow w2.heap.size 5 1 (.slice oa 1 oc) 1 (vb [y]) := oB2
          simp only [Nat.reduceAdd, Nat.reduceSub]
          obtain ⟨ob, rfl⟩ := own_addr oB2 (by decide)
          have hO := hO.next b3
          have oR2 := ownsRow_mono oR2 hO2s
          have oX2 := ownsRow_mono oX2 hO2s
          have oB2 := ownsRow_mono oB2 hO2s
          have Q1 := heap_alloc_new w3 (.cells #[.slice (some ⟨g2, 0, none⟩) 1 c2] 33)
          have b4 := below_alloc w3 (.cells #[.slice (some ⟨g2, 0, none⟩) 1 c2] 33)
          have hO := hO.next b4
          have oR2 := ownsRow_below oR2 b4
          have oX2 := ownsRow_below oX2 b4
          have oB2 := ownsRow_below oB2 b4
          clear b3 b4 Hold Hnew
          go_upto_region 18 with fail
          generalize w3.alloc (.cells #[.slice (some ⟨g2, 0, none⟩) 1 c2] 33) = w4 at *
          generalize w3.heap.size = qb at *
          have hdl := HI.out.1
          have dc : w4.cell? ⟨db, n, none⟩ = some (.bool false) := by rw [hO.done.cellAt n (by omega), vB_get _ _ (by omega), hdn]
          have df := hO.done.frozenAt n
          have yc : w4.cell? ⟨ob, 0, none⟩ = some (.int .u8 (y : Int)) := oB2.cellAt 0 (by decide)
          have u1 : (n : Int) < 400 := by omega
          obtain ⟨w5, hw5⟩ : ∃ w5, w5 = w4.setCell ⟨db, n, none⟩ (.bool true) := ⟨_, rfl⟩
          obtain ⟨hO5, g5⟩ := hO.mark n hw5
          have Q5 := row_kept Q1 hO.done g5 (by decide)
          have oR5 := oR2.kept g5 (own_apart oR2 hO.done (by decide))
          have oX5 := oX2.kept g5 (own_apart oX2 hO.done (by decide))
          have hw5' := hw5.symm
          have q0 : w5.cell? ⟨qb, 0, none⟩ = some (.slice (some ⟨g2, 0, none⟩) 1 c2) := by rw [cell_of_row _ _ _ _ _ _ Q5]; rfl
          have r1 : w5.cell? ⟨rb, 0, none⟩ = some (.slice (some ⟨rg, 0, none⟩) 1 rc) := by rw [cell_of_row _ _ _ _ _ _ hO5.box]; rfl
          have f1 := frozen_row hO5.box
          obtain ⟨w6, hw6⟩ : ∃ w6, w6 = w5.setCell ⟨rb, 0, none⟩ (.slice (some ⟨g2, 0, none⟩) 1 c2) := ⟨_, rfl⟩
          have hO6 := hO5.put oR5 oX5 (by omega) HrW.out hw6
          have hw6' := hw6.symm
          clear hw5 hw6 hO oR2 oX2 oB2 Q1 Q5 hdl hdn g5 hO5 oR5 oX5 HI
          have HI := hid hI2
          clear hI2
          by_cases hup : tn < (n : Int)
          · rw [if_pos hup] at HI
            go_wp2_with fail
            go_roundw
            case rel => exact ⟨i + 1, _, t, s', _, _, _, _, _, by go_num, rfl, by omega, HI, hO6⟩
            case measure => simp [intOf]; omega
          · rw [if_neg hup] at HI
            go_wp2_with fail
            go_roundw
            case rel => exact ⟨i + 1, _, t, s', _, _, _, _, _, by go_num, rfl, by omega, HI, hO6⟩
            case measure => simp [intOf]; omega
      · obtain rfl : i = ln := by omega
        have r1 : wr.cell? ⟨rb, 0, none⟩ = some (.slice (some ⟨rg, 0, none⟩) 1 rc) := by rw [cell_of_row _ _ _ _ _ _ hO.box]; rfl
        go_wp2_with fail
        go_ret
        exact ⟨rfl, hO.below⟩
end Go.Proofs.Ytdeeilahefnicaa
