/- Stream: rows: frames one behind the other as bits. -/
import Derived.Test.YtlbpmepifegeiaaListenI
import Derived.Test.YtlbpmepifegeiaaAppendWide
import Derived.Laws.CopyOwn
import Derived.Test.YtlbpmepifegeiaaAtDst
import Derived.Test.YtlbpmepifegeiaaFrame
namespace Go.Proofs.Ytlbpmepifegeiaa
set_option linter.unusedVariables false
set_option linter.unusedSimpArgs false
open Go.RowKit

/-- as many bytes as a frame has -/
def padT (L : Nat) (f : List Nat) : List Nat := f.take L ++ List.replicate (L - f.length) 0
theorem padT_len (L : Nat) (f : List Nat) : (padT L f).length = L := by simp [padT]; omega
theorem padT_b (L : Nat) {f : List Nat} (h : AllB f) : AllB (padT L f) := by
  intro x hx
  rcases List.mem_append.1 hx with h1 | h1
  · exact h x (List.mem_of_mem_take h1)
  · rw [(List.mem_replicate.1 h1).2]; omega
theorem splice_pad (L n : Nat) (f : List Nat) (hn : f.length = n) : splice (vb (List.replicate L 0)) 0 (vb (f.take (min n L))) = vb (padT L f) := by
  unfold splice padT
  rw [List.take_zero, List.nil_append, Nat.zero_add, vb_len, vb_append]
  have e : f.take (min n L) = f.take L := by
    rw [← hn, Nat.min_comm, ← List.take_take, List.take_length]
  rw [e]
  congr 1
  unfold vb
  rw [← List.map_drop, List.drop_replicate, List.length_take]
  congr 2
  omega
theorem run_mkL (L : Nat) (hL : L ≤ 1000) (u : World) : (Instr.makeSlice 24 (.int .i64 (L : Int)) (.int .i64 (L : Int))).run Try.prog u =
    .ok (.slice (some ⟨u.heap.size, 0, none⟩) L L) (u.alloc (.cells (madeCells #[.int .u8 0] L) 5)) := by
  obtain ⟨i0, hi, hz0, hz1, hz2⟩ := info_parts Try.info5
  have h := run_make (P := Try.prog) u 24 5 i0 (.int .u8 0) Try.underlying24 hi hz0 .i64 .i64 (L : Int) (L : Int) (by omega) (Int.le_refl _) (by rw [hz2]; omega) (by omega)
  simpa [hz1, Value.cells] using h
theorem made_cellsL (L : Nat) : madeCells #[.int .u8 0] L = (vb (List.replicate L 0)).toArray := by
  apply Array.toList_inj.1
  rw [toList_madeCells_one]
  simp [vb]
theorem own_of_heap {w : World} {B g n : Nat} {xs : List Value} {e : TypeId} (h : w.heap[g]? = some (.cells xs.toArray e)) (hl : xs.length = n) (hB : B ≤ g) (hn : n ≤ maxLen) : w.ownsRow B e 1 (.slice (some ⟨g, 0, none⟩) n n) n xs :=
  ⟨by omega, .inr ⟨g, n, xs.toArray, rfl, hB, h, Nat.le_refl _, hn, by simp [hl], by rw [Nat.mul_one, List.toList_toArray, ← hl, List.take_length]⟩⟩
theorem own_news {w : World} {B e g n c : Nat} {xs : List Value} (h : w.ownsRow B e 1 (.slice (some ⟨g, 0, none⟩) n c) n xs) : ∀ j u, xs[j]? = some u → w.cell? ((⟨g, 0, none⟩ : Addr).add j) = some u := by
  intro j u hj
  rw [Addr.add_lit, Nat.zero_add]
  have hlt : j < n := by have := (List.getElem?_eq_some_iff.1 hj).1; have := h.1; omega
  rw [h.cellAt j (by omega)]
  exact hj

/-- the rows so far -/
structure RowsI (L : Nat) (w W : World) (k : Nat) (ba : Option Addr) (bn bc : Nat) (aa : Option Addr) (ac : Nat) (hds : List Hd) (D : List (List Nat)) : Prop where
  bits : W.ownsRow w.heap.size 5 1 (.slice ba bn bc) bn (vb (D.flatMap frB))
  bl : bn = k * (32 + 8 * L)
  row : W.ownsRow w.heap.size 24 1 (.slice aa k ac) k (hds.map hv)
  each : All2 (fun (h : Hd) d => W.ownsRow w.heap.size 5 1 (hv h) h.2.1 (vb d) ∧ h.2.1 = L ∧ AllB d ∧ d.length = L ∧ ∀ j, (hv h).ownBlock = some j → (Value.slice ba bn bc).ownBlock ≠ some j) hds D
  len : D.length = k
  blw : Below w.heap.size w W
theorem RowsI.start (L : Nat) (w : World) : RowsI L w w 0 none 0 0 none 0 [] [] := ⟨World.ownsRow_nil _ _ _ _, by simp, World.ownsRow_nil _ _ _ _, .nil, rfl, Below.refl _ _⟩

theorem Try.info24 : (Try.prog.info? 24).map (fun i => (i.zero, i.size, i.bytes)) = some (some (.slice none 0 0), 1, 24) := by kernel_rfl
theorem All2.snoc {α β : Type} {R : α → β → Prop} {l : List α} {m : List β} (x : All2 R l m) {a : α} {b : β} (h : R a b) : All2 R (l ++ [a]) (m ++ [b]) := forall2_snoc x h
theorem own_blt {W : World} {B e s n : Nat} {v : Value} {xs : List Value} (h : W.ownsRow B e s v n xs) {k : Nat} (hk : v.ownBlock = some k) : k < W.heap.size := own_lt h hk
theorem RowsI.next {L : Nat} {w wr V3 V4 V6 : World} {k : Nat} {ba : Option Addr} {bn bc : Nat} {aa : Option Addr} {ac : Nat} {hds : List Hd} {D : List (List Nat)} (h : RowsI L w wr k ba bn bc aa ac hds D) (bX : Below wr.heap.size wr V3) {d : List Nat} (hd : AllB d) (hdl : d.length = L)
    (oD : V3.ownsRow wr.heap.size 5 1 (.slice (some ⟨wr.heap.size, 0, none⟩) L L) L (vb d)) {ba' aa' : Option Addr} {bn' bc' ac' : Nat} (hbn : bn' = bn + (32 + 8 * L)) (oB : V4.ownsRow w.heap.size 5 1 (.slice ba' bn' bc') bn' (vb (D.flatMap frB) ++ vb (frB d)))
    (gB : V3.grownBy V4 (Value.slice ba bn bc).ownBlock) (hat : (Value.slice ba' bn' bc').ownBlock = (Value.slice ba bn bc).ownBlock ∨ (Value.slice ba' bn' bc').ownBlock = some V3.heap.size) {o : Obj}
    (oA : V6.ownsRow w.heap.size 24 1 (.slice aa' (k + 1) ac') (k + 1) (hds.map hv ++ [.slice (some ⟨wr.heap.size, 0, none⟩) L L])) (gA : (V4.alloc o).grownBy V6 (Value.slice aa k ac).ownBlock) :
    RowsI L w V6 (k + 1) ba' bn' bc' aa' ac' (hds ++ [(some ⟨wr.heap.size, 0, none⟩, L, L)]) (D ++ [d]) := by
  have hwr := h.blw.size
  have b4 := below_alloc V4 o
  have aRow : (V4.alloc o).ownsRow w.heap.size 24 1 (.slice aa k ac) k (hds.map hv) := by
    have h3 := ownsRow_below h.row bX
    have hb3 := ownsRow_below h.bits bX
    exact ownsRow_below (h3.kept gB (own_apart h3 hb3 (by decide))) b4
  have k5 : ∀ {v : Value} {n : Nat} {xs : List Value}, V4.ownsRow w.heap.size 5 1 v n xs → V6.ownsRow w.heap.size 5 1 v n xs := fun ho =>
    (ownsRow_below ho b4).kept gA (own_apart (ownsRow_below ho b4) aRow (by decide))
  have k4 : ∀ {v : Value} {n : Nat} {xs : List Value}, V3.ownsRow w.heap.size 5 1 v n xs → (∀ j, v.ownBlock = some j → (Value.slice ba bn bc).ownBlock ≠ some j) → V6.ownsRow w.heap.size 5 1 v n xs := fun {v n xs} ho hne => by
    refine k5 (ho.kept gB ?_)
    cases hv : v.ownBlock with
    | none => exact .inl rfl
    | some j => exact .inr (fun he => hne j hv he.symm)
  have hbB : ∀ j, (Value.slice ba bn bc).ownBlock = some j → j < wr.heap.size := fun j hj => own_blt h.bits hj
  have hnew : ∀ j, (Value.slice (some ⟨wr.heap.size, 0, none⟩) L L).ownBlock = some j → (Value.slice ba bn bc).ownBlock ≠ some j := fun j hj hb => by
    cases hj
    have := hbB wr.heap.size hb
    omega
  refine ⟨by rw [List.flatMap_append, vb_append]; simpa using k5 oB, by rw [hbn, h.bl, Nat.add_mul, Nat.one_mul], by rw [List.map_append]; exact oA, All2.snoc (forall2_imp (fun hh dd y => ?_) h.each) ?_, by rw [List.length_append, h.len]; rfl, ?_⟩
  · obtain ⟨y1, y2, y3, y4, y5⟩ := y
    refine ⟨k4 (ownsRow_below y1 bX) y5, y2, y3, y4, fun j hj hb => ?_⟩
    rcases hat with h1 | h1
    · exact y5 j hj (h1.symm.trans hb)
    · rw [h1] at hb
      cases hb
      have := own_blt y1 hj
      have := bX.size
      omega
  · refine ⟨k4 (ownsRow_mono oD hwr) hnew, rfl, hd, hdl, fun j hj hb => ?_⟩
    rcases hat with h1 | h1
    · exact hnew j hj (h1.symm.trans hb)
    · rw [h1] at hb
      cases hb
      have := own_blt oD hj
      omega
  · refine ((h.blw.trans (bX.mono hwr)).trans ?_)
    have b34 : Below w.heap.size V3 V4 := (Below.refl _ _).grown gB (Nat.le_trans hwr bX.size) (fun j hj => (h.bits.lt j hj).1)
    have b5 := b34.trans (b4.mono (Nat.le_trans (Nat.le_trans hwr bX.size) gB.size))
    exact b5.grown gA (Nat.le_trans (Nat.le_trans (Nat.le_trans hwr bX.size) gB.size) b4.size) (fun j hj => (h.row.lt j hj).1)

set_option maxRecDepth 100000 in
set_option maxHeartbeats 4000000 in
theorem rows_ok (L : Nat) (hL : 1 ≤ L ∧ L ≤ 40) (pa : Option Addr) (pn pc : Nat) (hs : List Hd) (pss : List (List Nat)) (w : World) (hp : PcsAt w pa pn pc hs pss) (hpn : pn ≤ 140737488355328) :
    Calls Try.prog 8 #[.slice pa pn pc, .int .i64 (L : Int)] w fun e w' => ∃ k ba bn bc aa ac hds, e = .returned (.tuple #[.slice ba bn bc, .slice aa k ac, .bool true]) ∧ RowsI L w w' k ba bn bc aa ac hds ((pss.take 20).map (padT L)) := by
  obtain ⟨i5, hi5, hz5, hs5, hb5⟩ := info_parts Try.info5
  obtain ⟨i24, hi24, hz24, hs24, hb24⟩ := info_parts Try.info24
  have hpl := hp.len
  go_enter Try.func8, Try.ntmps8
  go_wp2_with fail
  go_loopw [7, 8, 9] (fun b a i wr => ∃ (k : Nat) (ba aa : Option Addr) (bn bc ac : Nat) (hds : List Hd), i = .int .i64 (k : Int) ∧ k ≤ pn ∧ k ≤ 20 ∧ b = .slice ba bn bc ∧ a = .slice aa k ac ∧ RowsI L w wr k ba bn bc aa ac hds ((pss.take k).map (padT L))) (fun _ _ i _ => 20 - (intOf i).toNat)
  case atStart => exact ⟨0, none, none, 0, 0, 0, [], rfl, Nat.zero_le _, Nat.zero_le _, rfl, rfl, RowsI.start L w⟩
  case round =>
    obtain ⟨k, ba, aa, bn, bc, ac, hds, rfl, hk, hk2, rfl, rfl, hR⟩ := hrel
    by_cases hlt : k < pn
    · by_cases hlt2 : k < 20
      · have t1 : (k : Int) < (pn : Int) := by omega
        have t2 : (k : Int) < 20 := by omega
        have km := run_mkL L (by omega)
        obtain ⟨pb, po, xa, xn, xc, rfl, hpb, hcell, hx, hxb, hsn, hln⟩ := hp.piece k hlt
        have hxl : (pss.getD k []).length = xn := by have := hx.len; rwa [vb_len] at this
        generalize pss.getD k [] = f at *
        have b1 := below_alloc wr (.cells (madeCells #[.int .u8 0] L) 5)
        have h1 := heap_alloc_new wr (.cells (madeCells #[.int .u8 0] L) 5)
        have hB1 := hR.blw.trans (b1.mono hR.blw.size)
        have hcell := (hB1.cell (p := ⟨pb, po + k, none⟩) hpb).trans hcell
        have hxV := hx.below hB1
        have Hsn := hid hsn
        clear hsn
        go_wp2_with (with_reducible refine at_dst 30 ?_)
        unfold Hid
        obtain ⟨V, hV⟩ : ∃ V, V = wr.alloc (.cells (madeCells #[.int .u8 0] L) 5) := ⟨_, rfl⟩
        rw [← hV] at b1 h1 hB1 hxV ⊢
        rw [made_cellsL] at h1
        clear hV km hcell t1 t2
        refine wpList_copy_splice rfl _ _ 24 24 rfl 5 Try.underlying24 (by kernel_rfl) (some ⟨wr.heap.size, 0, none⟩) xa L L xn xc rfl rfl wr.heap.size 0 (vb (List.replicate L 0)) 5 h1 (vb (f.take (min xn L))) (by rw [vb_len, List.length_take]; show _ = min xn L; omega) (fun h0 => ?cp) (by simp [vb_len, List.length_take]; omega) (vb_oneCell _) wr.heap.size V (Below.refl _ _) (Nat.le_refl _) ?_
        case cp =>
          rw [vb_len, List.length_take] at h0
          obtain ⟨b, off, rfl, _, hc⟩ := hxV.mem (by omega)
          refine ⟨rfl, _, rfl, fun j v hj => ?_⟩
          have hjl := (List.getElem?_eq_some_iff.1 hj).1
          rw [vb_len, List.length_take] at hjl
          rw [Addr.add_lit]
          have hc := hc j (by omega)
          rw [hc, ← hj, ← vb_take, List.getElem?_take, if_pos (by omega)]
        intro V2 HG b2
        have HG : Hid (V2.heap[wr.heap.size]? = some (.cells (vb (padT L f)).toArray 5)) := hid (by have := HG.out; rwa [splice_pad L xn f hxl] at this)
        have hB2 := hR.blw.trans ((b1.trans b2).mono hR.blw.size)
        have oD := own_of_heap (B := wr.heap.size) HG.out (by rw [vb_len, padT_len]) (Nat.le_refl _) (by unfold maxLen; omega)
        generalize (vb (f.take (min xn L))).length = cpn at *
        have hpadb := padT_b L hxb
        go_wp2_with fail
        refine (frame_ok (some ⟨wr.heap.size, 0, none⟩) L L (padT L f) V2 (Rd.ofOwn oD) hpadb (by omega)).mono ?_
        rintro e V3 ⟨g, c, rfl, oF, b3⟩
        have oD := ownsRow_below oD b3
        have hB3 := hB2.trans (b3.mono hB2.size)
        have e1 : IntKind.i64.wrap (8 * (L : Int)) = 8 * (L : Int) := IntWalk.i64_in _ (by omega)
        have e2 : IntKind.i64.wrap (32 + 8 * (L : Int)) = 32 + 8 * (L : Int) := IntWalk.i64_in _ (by omega)
        have e3 : ((32 + 8 * L : Nat) : Int) = 32 + 8 * (L : Int) := by omega
        go_wp2_with (at_builtin; refine hold ?_)
        unfold Hid
        clear e1 e2 e3
        have bX : Below wr.heap.size wr V3 := (b1.trans b2).trans (b3.mono (Nat.le_trans b1.size b2.size))
        refine wpList_append_wide_at rfl _ _ 24 rfl w.heap.size 5 i5 _ 1 1 Try.underlying24 hi5 hz5 hs5 hb5 rfl (by decide) (.slice ba bn bc) bn (vb (((pss.take k).map (padT L)).flatMap frB)) rfl (ownsRow_below hR.bits bX) ⟨g, 0, none⟩ (32 + 8 * L) c (vb (frB (padT L f))) rfl (by rw [vb_len, frB_len, padT_len, Nat.mul_one]) (own_news oF) (vb_oneCell _)
          (by have h9 := hR.bl; have h8 : k * (32 + 8 * L) ≤ 20 * 352 := Nat.mul_le_mul hk2 (by omega); unfold maxLen; omega) (by have h9 := hR.bl; have h8 : k * (32 + 8 * L) ≤ 20 * 352 := Nat.mul_le_mul hk2 (by omega); omega) hB3.size ?_
        intro v' V4 oB gB hat
        obtain ⟨ba', bc', rfl, _, _⟩ := own_slice oB
        obtain ⟨bn', hbn'⟩ : ∃ bn', bn' = bn + (32 + 8 * L) := ⟨_, rfl⟩
        rw [← hbn'] at oB hat ⊢
        have Hbn := hid hbn'
        clear hbn'
        go_wp2_with (at_builtin; refine hold ?_)
        unfold Hid
        have b5 := below_alloc V4 (.cells #[.slice (some ⟨wr.heap.size, 0, none⟩) L L] 24)
        have oR4 : V4.ownsRow w.heap.size 24 1 (.slice aa k ac) k (hds.map hv) := (ownsRow_below hR.row bX).kept gB (own_apart (ownsRow_below hR.row bX) (ownsRow_below hR.bits bX) (by decide))
        refine wpList_append_wide_at rfl _ _ 26 rfl w.heap.size 24 i24 _ 1 24 Try.underlying26 hi24 hz24 hs24 hb24 rfl (by decide) (.slice aa k ac) k (hds.map hv) rfl (ownsRow_below oR4 b5) ⟨V4.heap.size, 0, none⟩ 1 1 [.slice (some ⟨wr.heap.size, 0, none⟩) L L] rfl rfl (one_new _ _ _) (by simp [Value.oneCell']) (by unfold maxLen; omega) (by omega) (Nat.le_trans (Nat.le_trans hB3.size gB.size) b5.size) ?_
        intro v' V6 oA gA _
        obtain ⟨aa', ac', rfl, _, _⟩ := own_slice oA
        have hfin := hR.next bX (padT_b L hxb) (padT_len L f) oD Hbn.out oB gB hat oA gA
        rw [show (pss.take k).map (padT L) ++ [padT L f] = (pss.take (k + 1)).map (padT L) by rw [Hsn.out, List.map_append]; rfl] at hfin
        clear hR oR4 oA gA oB gB hat oF oD HG hcell hx hxV b5 h1
        go_wp2_with fail
        go_roundw
        case rel => exact ⟨k + 1, ba', aa', bn', bc', ac', _, by go_num, by omega, by omega, rfl, rfl, hfin⟩
        case measure => simp [intOf]; omega
      · obtain rfl : k = 20 := by omega
        try rw [show ((20 : Nat) : Int) = 20 from rfl]
        have t1 : (20 : Int) < (pn : Int) := by omega
        go_wp2_with fail
        go_ret3
        exact ⟨20, ba, bn, bc, aa, ac, hds, rfl, hR⟩
    · obtain rfl : k = pn := by omega
      have hR : RowsI L w wr k ba bn bc aa ac hds ((pss.take 20).map (padT L)) := by
        have e : pss.take k = pss.take 20 := by rw [List.take_of_length_le (by omega), List.take_of_length_le (by omega)]
        rwa [e] at hR
      go_wp2_with fail
      go_ret3
      exact ⟨k, ba, bn, bc, aa, ac, hds, rfl, hR⟩
end Go.Proofs.Ytlbpmepifegeiaa
