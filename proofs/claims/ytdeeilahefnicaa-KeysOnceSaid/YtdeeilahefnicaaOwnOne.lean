/- Keys: own, of a ring of one key. -/
import Derived.Test.YtdeeilahefnicaaOwn
import Derived.Test.YtdeeilahefnicaaFlat
import Derived.Test.YtdeeilahefnicaaRange
import Derived.Maps.OwnOps
import Derived.Maps.Views
namespace Go.Proofs.Ytdeeilahefnicaa
set_option linter.unusedVariables false
open Go.RowKit Go.Maps

theorem law3 : Keyed Try.prog 3 := int_keyed Try.underlying3
theorem zero3 (w : World) : (zeroValue 3).run Try.prog w = .ok (.int .i64 0) w := by kernel_rfl
theorem key_wf (id : Int) (h : 0 ≤ id ∧ id ≤ 255) : (Lit.int .i64 id).wf = true := by
  have := wrap64_wf id
  rwa [show wrap64 id = id by unfold wrap64; omega] at this
theorem put_at (kl : Lit) (d z : DataW Nat) (hk : WideAt.IsKeyLit kl) : ((DataW.map [] : DataW Nat).put kl d).atKey kl z = d := by
  have : Lit.sameKey kl kl = true := by
    cases kl <;> simp_all [Lit.sameKey, WideAt.IsKeyLit]
  simp [DataW.put, DataW.insert, DataW.atKey, this]

set_option maxHeartbeats 1000000 in
set_option maxRecDepth 100000 in
theorem own_one (kb kc : Nat) (id top seen : Int) (a : Addr) (wc : Nat) (ws : List Int) (h : KeyOk id top seen ws) (W : World) (hK : KCells W kb id top seen (some a) wc) (hW : Rd W (some a) 8 wc (vz ws)) :
    Calls Try.prog 14 #[.agg #[.slice (some ⟨kb, 0, none⟩) 1 kc]] W fun e w' => ∃ (g2 c2 g gc : Nat), e = .returned (.tuple #[.agg #[.slice (some ⟨g2, 0, none⟩) 1 c2], .bool true]) ∧ w'.ownsRow W.heap.size 25 4 (.slice (some ⟨g2, 0, none⟩) 1 c2) 1 [.int .i64 id, .slice (some ⟨g, 0, none⟩) 8 gc, .int .i64 top, .int .i64 seen] ∧ w'.ownsRow W.heap.size 3 1 (.slice (some ⟨g, 0, none⟩) 8 gc) 8 (vz ws) ∧ Below W.heap.size W w' := by
  have A1 := heap_alloc_new W (.cells #[.slice (some ⟨kb, 0, none⟩) 1 kc] 33)
  have b1 := below_alloc W (.cells #[.slice (some ⟨kb, 0, none⟩) 1 kc] 33)
  have A2 := heap_alloc_new (W.alloc (.cells #[.slice (some ⟨kb, 0, none⟩) 1 kc] 33)) (.cells #[.slice none 0 0] 33)
  have b2 := below_alloc (W.alloc (.cells #[.slice (some ⟨kb, 0, none⟩) 1 kc] 33)) (.cells #[.slice none 0 0] 33)
  have hmm := fun (w : World) => run_makeMap (P := Try.prog) 63 w
  have z1 : (W.alloc (.cells #[.slice (some ⟨kb, 0, none⟩) 1 kc] 33)).heap.size = W.heap.size + 1 := by simp
  rw [z1] at A2
  have A1 := row_below A1 b2
  have bb := b1.trans (b2.mono b1.size)
  have oM := World.ownsMap_made ((W.alloc (.cells #[.slice (some ⟨kb, 0, none⟩) 1 kc] 33)).alloc (.cells #[.slice none 0 0] 33)) Try.prog 3 (plainElem (H := Nat) Try.prog 3)
  have b3 := below_alloc ((W.alloc (.cells #[.slice (some ⟨kb, 0, none⟩) 1 kc] 33)).alloc (.cells #[.slice none 0 0] 33)) (.map #[] 0)
  have A1 := row_below A1 b3
  have A2 := row_below A2 b3
  have hB := bb.trans (b3.mono bb.size)
  have zM : ((W.alloc (.cells #[.slice (some ⟨kb, 0, none⟩) 1 kc] 33)).alloc (.cells #[.slice none 0 0] 33)).heap.size = W.heap.size + 1 + 1 := by simp
  rw [zM] at oM
  clear b1 b2 b3 bb z1 zM
  go_enter Try.func14, Try.ntmps14
  go_wp2_with fail
  refine (cloneR_one kb kc id top seen (some a) wc _ (hK.below hB)).mono ?_
  rintro e V ⟨g2, c2, rfl, oR, bV⟩
  generalize ((W.alloc (.cells #[.slice (some ⟨kb, 0, none⟩) 1 kc] 33)).alloc (.cells #[.slice none 0 0] 33)).alloc (.map #[] 0) = w2 at *
  have A1 := row_below A1 bV
  have A2 := row_below A2 bV
  have oM := oM.kept (grownBy_of_below bV none) (by simp)
  have oR := ownsRow_mono oR hB.size
  have hB := hB.trans (bV.mono hB.size)
  clear bV
  have c1 : V.cell? ⟨W.heap.size, 0, none⟩ = some (.slice (some ⟨kb, 0, none⟩) 1 kc) := by rw [cell_of_row _ _ _ _ _ _ A1]; rfl
  have f1 := frozen_row A1
  go_wp2_with fail
  obtain ⟨B1, g1⟩ := set_row (cs' := #[.slice (some ⟨g2, 0, none⟩) 1 c2]) A1 0 (.slice (some ⟨g2, 0, none⟩) 1 c2) rfl
  have B2 := row_grown A2 g1 (by omega)
  have oM := oM.kept g1 (sne (by omega))
  have oR := oR.kept g1 (own_ne oR A1 (by decide))
  have hB1 := hB.grown g1 hB.size (fun b e => by cases e; exact Nat.le_refl _)
  clear c1 f1 A1 A2 g1 hB
  generalize V.setCell ⟨W.heap.size, 0, none⟩ (.slice (some ⟨g2, 0, none⟩) 1 c2) = V1 at *
  have c1 : V1.cell? ⟨W.heap.size, 0, none⟩ = some (.slice (some ⟨g2, 0, none⟩) 1 c2) := by rw [cell_of_row _ _ _ _ _ _ B1]; rfl
  go_wp2_with fail
  have o0 : (1 : Int) = 1 := rfl
  go_loopw [20] (fun v wr => (v = .int .i64 0 ∧ wr = V1) ∨ (v = .int .i64 1 ∧ ∃ g gc, wr.heap[W.heap.size]? = some (.cells #[.slice (some ⟨g2, 0, none⟩) 1 c2] 33) ∧ wr.heap[W.heap.size + 1]? = some (.cells #[.slice none 0 0] 33) ∧ wr.ownsRow W.heap.size 25 4 (.slice (some ⟨g2, 0, none⟩) 1 c2) 1 [.int .i64 id, .slice (some ⟨g, 0, none⟩) 8 gc, .int .i64 top, .int .i64 seen] ∧ wr.ownsRow W.heap.size 3 1 (.slice (some ⟨g, 0, none⟩) 8 gc) 8 (vz ws) ∧ Below W.heap.size W wr)) (fun v _ => 1 - (intOf v).toNat)
  case atStart => exact .inl ⟨rfl, rfl⟩
  case round =>
    rcases hrel with ⟨rfl, rfl⟩ | ⟨rfl, g, gc, D1, D2, oS, oT, hB2⟩
    · have hkey : keyOf Try.prog 3 (.int .i64 id) = some (.int .i64 id) := keyOf_int_mk Try.underlying3 (key_wf id h.hid)
      obtain ⟨c0, hrun, hat, hwc⟩ := oM.lookup_int (t := 63) law3 Try.underlying63 Try.underlying3 (zero3 _) hkey
      have hc0 : c0 = 0 := by
        have h' : (DataW.lit (.int .i64 0) : DataW Nat) = .lit (.int .i64 c0) := hat
        cases h'; rfl
      subst hc0
      have k0 : wr.cell? ⟨g2, 0, none⟩ = some (.int .i64 id) := oR.cellAt 0 (by decide)
      have k1 : wr.cell? ⟨g2, 1, none⟩ = some (.slice (some a) 8 wc) := oR.cellAt 1 (by decide)
      have k2 : wr.cell? ⟨g2, 2, none⟩ = some (.int .i64 top) := oR.cellAt 2 (by decide)
      have k3 : wr.cell? ⟨g2, 3, none⟩ = some (.int .i64 seen) := oR.cellAt 3 (by decide)
      clear hat hwc
      go_wp2_with (at_mapUpdate; refine hold ?_)
      unfold Hid
      refine wpList_mapUpdate_own _ rfl _ _ _ 63 rfl 3 3 law3 Try.underlying63 _ (W.heap.size + 1 + 1) 0 _ rfl oM (by unfold maxLen; omega) _ _ _ rfl rfl hkey _ [] (plainElem_int Try.underlying3 (key_wf 1 (by decide))) ?_
      intro w1 oM1 gM
      have hmap : ∃ o : Obj, wr.heap[W.heap.size + 1 + 1]? = some o ∧ o.isCells = false := by
        obtain ⟨es, clock, hb, _⟩ := oM
        exact ⟨_, hb, rfl⟩
      obtain ⟨om, hom, hoc⟩ := hmap
      have oR := oR.kept gM (.inr (own_not oR hom hoc))
      have B1 := row_grown B1 gM (by omega)
      have B2 := row_grown B2 gM (by omega)
      have hB1 := hB1.grown gM hB1.size (fun b e => by cases e; omega)
      clear hrun k0 k1 k2 k3 c1 gM hom oM
      have c1 : w1.cell? ⟨W.heap.size, 0, none⟩ = some (.slice (some ⟨g2, 0, none⟩) 1 c2) := by rw [cell_of_row _ _ _ _ _ _ B1]; rfl
      have k0 : w1.cell? ⟨g2, 0, none⟩ = some (.int .i64 id) := oR.cellAt 0 (by decide)
      have k1 : w1.cell? ⟨g2, 1, none⟩ = some (.slice (some a) 8 wc) := oR.cellAt 1 (by decide)
      have k2 : w1.cell? ⟨g2, 2, none⟩ = some (.int .i64 top) := oR.cellAt 2 (by decide)
      have k3 : w1.cell? ⟨g2, 3, none⟩ = some (.int .i64 seen) := oR.cellAt 3 (by decide)
      go_wp2_with fail
      refine (may_ok id top seen (some a) wc ws h w1 (hW.below hB1)).mono ?_
      rintro e w3 ⟨rfl, b3⟩
      have oR := ownsRow_below oR b3
      have B1 := row_below B1 b3
      have B2 := row_below B2 b3
      have oM3 := oM1.kept (grownBy_of_below b3 none) (by simp)
      have hB3 := hB1.trans (b3.mono hB1.size)
      clear k0 k1 k2 k3 c1 b3 oM1 hB1
      obtain ⟨c0, hrun, hat, hwc⟩ := oM3.lookup_int (t := 63) law3 Try.underlying63 Try.underlying3 (zero3 _) hkey
      have hc0 : c0 = 1 := by
        rw [put_at _ _ _ (by simp [WideAt.IsKeyLit])] at hat
        cases hat; rfl
      subst hc0
      clear hat hwc oM3
      have c1 : w3.cell? ⟨W.heap.size, 0, none⟩ = some (.slice (some ⟨g2, 0, none⟩) 1 c2) := by rw [cell_of_row _ _ _ _ _ _ B1]; rfl
      have k0 : w3.cell? ⟨g2, 0, none⟩ = some (.int .i64 id) := oR.cellAt 0 (by decide)
      have k1 : w3.cell? ⟨g2, 1, none⟩ = some (.slice (some a) 8 wc) := oR.cellAt 1 (by decide)
      go_wp2_with fail
      refine (clone_words a wc ws w3 (hW.below hB3)).mono ?_
      rintro e w4 ⟨g, gc, rfl, oW, b4⟩
      have oR := ownsRow_below oR b4
      have B1 := row_below B1 b4
      have B2 := row_below B2 b4
      have oW := ownsRow_mono oW hB3.size
      have hB4 := hB3.trans (b4.mono hB3.size)
      clear hrun c1 k0 k1 b4 hB3
      have k1 : w4.cell? ⟨g2, 1, none⟩ = some (.slice (some a) 8 wc) := oR.cellAt 1 (by decide)
      have f1 := oR.frozenAt 1
      obtain ⟨oR5, g5⟩ := oR.stored 1 (.slice (some ⟨g, 0, none⟩) 8 gc)
      have B1 := row_kept B1 oR g5 (by decide)
      have B2 := row_kept B2 oR g5 (by decide)
      have oW := oW.kept g5 (own_apart oW oR (by decide))
      have hB5 := hB4.grown g5 hB4.size (fun k e => by cases e; exact (oR.lt g2 rfl).1)
      obtain ⟨w5, hw5⟩ : ∃ w5, w5 = w4.setCell ⟨g2, 1, none⟩ (.slice (some ⟨g, 0, none⟩) 8 gc) := ⟨_, rfl⟩
      rw [← hw5] at oR5 B1 B2 oW hB5
      have hw5' := hw5.symm
      clear hw5 g5 oR hB4
      go_wp2_with fail
      go_roundw
      case rel => exact .inr ⟨by go_num, g, gc, B1, B2, oR5, oW, hB5⟩
      case measure => simp [intOf]
    · have c1 : wr.cell? ⟨W.heap.size, 0, none⟩ = some (.slice (some ⟨g2, 0, none⟩) 1 c2) := by rw [cell_of_row _ _ _ _ _ _ D1]; rfl
      have c2' : wr.cell? ⟨W.heap.size + 1, 0, none⟩ = some (.slice none 0 0) := by rw [cell_of_row _ _ _ _ _ _ D2]; rfl
      have f2 := frozen_row D2
      obtain ⟨E2, g9⟩ := set_row (cs' := #[.slice (some ⟨g2, 0, none⟩) 1 c2]) D2 0 (.slice (some ⟨g2, 0, none⟩) 1 c2) rfl
      have y0 : (wr.setCell ⟨W.heap.size + 1, 0, none⟩ (.slice (some ⟨g2, 0, none⟩) 1 c2)).cell? ⟨W.heap.size + 1, 0, none⟩ = some (.slice (some ⟨g2, 0, none⟩) 1 c2) := by rw [cell_of_row _ _ _ _ _ _ E2]; rfl
      have oS := oS.kept g9 (own_ne oS D2 (by decide))
      have oT := oT.kept g9 (own_ne oT D2 (by decide))
      have hBz := hB2.grown g9 hB2.size (fun b e => by cases e; omega)
      clear g9 E2 hB2 B1 B2 hB1 oM oR
      go_wp2_with fail
      generalize wr.setCell ⟨W.heap.size + 1, 0, none⟩ (.slice (some ⟨g2, 0, none⟩) 1 c2) = Vz at *
      refine bodyPost_ret (by simp only [results, Try.results14, go_sem]; simp [go_sem, y0]; rfl) rfl ?_
      exact ⟨g2, c2, rfl, g, gc, oS, oT, hBz⟩
end Go.Proofs.Ytdeeilahefnicaa
