/- Stream: Listen. -/
import Derived.Test.YtlbpmepifegeiaaListenD
import Derived.Test.YtlbpmepifegeiaaRegionT
import Derived.Deep.DeepCutAuto
namespace Go.Proofs.Ytlbpmepifegeiaa
set_option linter.unusedVariables false
set_option linter.unusedSimpArgs false
open Go.RowKit Go.Shelf
attribute [local go_sem] Oper.semAt_some

set_option maxRecDepth 100000 in
set_option maxHeartbeats 4000000 in
theorem listen_ok (L F H_ M : Nat) (hL : 1 ≤ L ∧ L ≤ 2048) (hF : F ≤ 8) (hH : H_ ≤ 12) (hM : M ≤ 8) (pa : Option Addr) (pn pc : Nat) (hs : List Hd) (pss : List (List Nat)) (w : World) (hp : PcsAt w pa pn pc hs pss) (hpn : pn ≤ 100) (hbig : pss.flatten.length ≤ 140737488351232) :
    Calls Try.prog 7 #[.agg #[.int .i64 (L : Int), .int .i64 (F : Int), .int .i64 (H_ : Int), .int .i64 (M : Int)], .slice pa pn pc] w fun e w' => ∃ aa qa la ac qc lc ha FA los C m, e = .returned (.tuple #[.slice aa pn ac, .slice qa pn qc, .slice la pn lc, .int .i64 0]) ∧ ListenP ⟨L, F, H_, M⟩ pss w w' aa pn ac la lc ha FA los C m := by
  refine (callsIn_wide (n := 8)).1 ?_
  refine callsIn_of_wp_marks Try.func7 rfl trivial ?_ rfl
  simp only [Try.ntmps7, List.size_toArray, List.length_cons, List.length_nil, Nat.reduceAdd, Nat.reduceSub, Array.replicate_succ, Array.replicate_zero, List.push_toArray, List.append_toArray, List.nil_append, List.cons_append]
  refine wpIn_wide.2 ?_
  go_wp2_with fail
  have b1 := below_alloc w (.cells #[.int .i64 (L : Int), .int .i64 (F : Int), .int .i64 (H_ : Int), .int .i64 (M : Int)] 23)
  obtain ⟨W0, hW0⟩ : ∃ W0, W0 = w.alloc (.cells #[.int .i64 (L : Int), .int .i64 (F : Int), .int .i64 (H_ : Int), .int .i64 (M : Int)] 23) := ⟨_, rfl⟩
  rw [← hW0] at b1 ⊢
  clear hW0
  refine (new_sync L F H_ M hL hF hH hM W0).mono ?_
  rintro e W1 ⟨sb, rfl, hsb, hS, b2⟩
  have hsb2 : w.heap.size ≤ sb := Nat.le_trans b1.size hsb
  have b2 := b1.trans (b2.mono b1.size)
  clear b1
  obtain ⟨i35, hi35, hz35, hs35, hb35⟩ := info_parts Try.info35
  go_wp2_with fail
  refine wp_loop (fun a W => ∃ (k : Nat) (aa qa la : Option Addr) (ac qc lc : Nat) (ha hq : List Hd) (FA FQ : List (List Fd)) (los : List Bool) (s : SyV) (C : List Nat), k ≤ pn ∧
      LisI ⟨L, F, H_, M⟩ sb w W pss aa k ac qa qc la lc a.defers ha hq FA FQ los s C ∧
      a.tmps = lisF (.agg #[.int .i64 (L : Int), .int .i64 (F : Int), .int .i64 (H_ : Int), .int .i64 (M : Int)]) pa pn pc w.heap.size sb aa k ac qa qc la lc (fun i => a.tmps.getD i undef)) (fun a _ => pn - (intOf (a.tmps.getD 30 undef)).toNat) ?_ ?_
  · refine ⟨0, none, none, none, 0, 0, 0, [], [], [], [], [], SyV.new L F H_ M, [], Nat.zero_le _, ⟨ColAt.nil _ _ _, ColAt.nil _ _ _, (fun j hj => by cases hj), rfl, World.ownsRow_nil _ _ _ _, hS, rfl, ⟨rfl, rfl, rfl⟩, Lis.nil _ _, mInv_new L F H_ M, (fun j hj => by cases hj), hsb2, b2, trivial⟩, rfl⟩
  · rintro ⟨tm, ds⟩ W ⟨k, aa, qa, la, ac, qc, lc, ha, hq, FA, FQ, los, s, C, hk, hI, htm⟩
    dsimp only at hI htm
    generalize (fun i => tm.getD i undef) = y at htm
    subst htm
    unfold lisF
    by_cases hlt : k < pn
    · have t1 : (k : Int) < (pn : Int) := by omega
      obtain ⟨pb, po, xa, xn, xc, rfl, hpb, hcell, hx, hxb, hsn, hln⟩ := hp.piece k hlt
      have hcell := (hI.blw.cell (p := ⟨pb, po + k, none⟩) hpb).trans hcell
      have hxW := hx.below hI.blw
      generalize hps : pss.getD k [] = ps at *
      have hxl : ps.length = xn := by have := hx.len; rwa [vb_len] at this
      have hCl : C.length = (pss.take k).flatten.length := by rw [hI.lis.cLen, List.nil_append, par, List.length_map]
      have hbg : C.length + xn ≤ 140737488351232 := by omega
      have hSL : s.L = L := by have := congrArg Rl.L hI.rl; exact this
      have hpk : 0 < xn → ∀ b off, xa = some ⟨b, off, none⟩ → ¬ SyB s sb b := fun h0 b off hb hS => by
        have h1 := hx.block_lt h0 hb
        rcases hS with h2 | h2
        · have := hI.sbw; omega
        · have := hI.bw _ h2; omega
      have Hln := hid (⟨hxl, hCl, hbg⟩ : ps.length = xn ∧ C.length = (pss.take k).flatten.length ∧ C.length + xn ≤ 140737488351232)
      have Hsn := hid hsn
      have Hps := hid hps
      clear hps hsn hln hxl hCl
      go_wp2_with fail
      refine (take_ok w.heap.size sb s C W hI.sy (by rw [hI.rl]; exact hI.inv) hI.blw.size hI.fn xa xn xc ps hxW hxb hpk hbg).mono ?_
      rintro e V0 ⟨lb, hT⟩
      obtain rfl := hT.e
      obtain ⟨fa, fn, fc, FF, s', hQ⟩ := takeP_fds hT (by omega) (by rw [List.length_append, par, List.length_map, Hln.out.1]; omega)
      have hfn : 39 * fn ≤ 140737488351232 := by have := hQ.few; rw [List.length_append, par, List.length_map, Hln.out.1] at this; omega
      clear hT hpk hbg hxW hcell
      go_wp2_with fail
      have bx1 := below_alloc V0 (.cells #[.slice none 0 0] 33)
      have bx2 := below_alloc (V0.alloc (.cells #[.slice none 0 0] 33)) (.cells #[.slice none 0 0] 33)
      have B1 := row_below (heap_alloc_new V0 (.cells #[.slice none 0 0] 33)) bx2
      have B2 := heap_alloc_new (V0.alloc (.cells #[.slice none 0 0] 33)) (.cells #[.slice none 0 0] 33)
      rw [World.size_alloc] at B2
      have bV := bx1.trans (bx2.mono bx1.size)
      have hVs : ((V0.alloc (.cells #[.slice none 0 0] 33)).alloc (.cells #[.slice none 0 0] 33)).heap.size = V0.heap.size + 1 + 1 := by rw [World.size_alloc, World.size_alloc]
      clear bx1 bx2
      obtain ⟨V, hV⟩ : ∃ V, V = (V0.alloc (.cells #[.slice none 0 0] 33)).alloc (.cells #[.slice none 0 0] 33) := ⟨_, rfl⟩
      rw [← hV] at B1 B2 bV hVs ⊢
      have HV := hid hV
      clear hV
      obtain ⟨H, hH⟩ : ∃ H, H = V0.heap.size := ⟨_, rfl⟩
      rw [← hH] at B1 B2 bV hVs ⊢
      have HH := hid hH
      have HVs := hid hVs
      clear hH hVs
      refine (wpIn_wide (n := 8)).1 ?_
      refine range_px (α := Fd) (gf := 18) (lb := #[.pointer (some ⟨lb, 0, none⟩)]) (by decide) rfl (enters_of Try.func18 (by kernel_rfl) rfl) encFd (fun _ => rfl)
        (fun pre x W => x.In W H ∧ x.fo = (FF.getD pre.length x).fo) fn (Below H) (fun xs => xs.map Fd.fo = FF.map Fd.fo) (fun xs => xs.map Fd.fo <+: FF.map Fd.fo) (CoI V H H) (fun _ _ => False) 0
        (GAx (lisG (.agg #[.int .i64 (L : Int), .int .i64 (F : Int), .int .i64 (H_ : Int), .int .i64 (M : Int)]) pb po pn pc w.heap.size sb aa k ac qa qc la lc xa xn xc lb H) 15 V H H fn)
        (fun _ _ _ h k => h.trans k) (fun A l o o' hl hA hc => ?kp) (fun _ _ _ h hb => h.below hb) (fun _ _ _ _ _ h hl ho hc => h.put hl ho hc) (fun _ _ _ _ _ h _ _ _ => h) (fun _ _ _ _ _ _ _ h hl ho hc => ?axp)
        (fun l J Jx hJb hY W hb h0 => ?seq) (CoI.start B1) ?assign ?body ?done ?stop
      case kp => exact below_put (by have := HVs.out; omega) hA
      case axp => exact GAx.put ‹_› hl ho hc
      case seq =>
        refine (found18 (8 - 1) (by decide) l lb fa fn fc FF V0 hQ.fds J Jx hJb (fun pre x W1 h1 h2 h3 h4 => ?_) W ?_ h0)
        · have := HH.out
          rw [← this] at h3 ⊢
          exact hY pre x W1 h1 h2 ⟨h3, h4⟩
        · rw [← HH.out]; exact bV.trans (hb.mono (by have := HVs.out; omega))
      case assign =>
        intro l pre x W1 K hC hlt2 hpx hK
        dsimp only [encFd]
        gi_wp2
        refine hK _ _ ((KeepsOthers.alloc _ _).from _) ((Below.refl _ _).alloc (by have := hC.kept.size; have := HVs.out; omega) _) ⟨hC.below (below_alloc _ _), hlt2, ⟨ownsRow_below hpx.1.1 (below_alloc _ _), hpx.1.2⟩, rfl, _, rfl, heap_alloc_new _ _⟩
      case body =>
        rintro l pre x ⟨tm, ds2⟩ W1 hG
        obtain ⟨hC, hlt2, hx2, hfr, cb, hcb, hbx⟩ := hG
        dsimp only at hfr hcb
        generalize hz : (fun i => tm.getD i undef) = z at hfr
        have hz15 : z 15 = .pointer (some ⟨cb, 0, none⟩) := by rw [← hz]; exact hcb
        clear hz hcb
        subst hfr
        obtain ⟨ca, cn, cc, cbox, crow, cln⟩ := hC.row
        have bcl : cb < W1.heap.size := row_lt hbx
        have e0 : W1.cell? ⟨cb, 0, none⟩ = some (.int .i64 (x.pos : Int)) := by rw [cell_of_row _ _ _ _ _ _ hbx]; rfl
        have e1 : W1.cell? ⟨cb, 1, none⟩ = some (.bool x.tu) := by rw [cell_of_row _ _ _ _ _ _ hbx]; rfl
        have e2 : W1.cell? ⟨cb, 2, none⟩ = some (.int .i64 (x.mi : Int)) := by rw [cell_of_row _ _ _ _ _ _ hbx]; rfl
        have e3 : W1.cell? ⟨cb, 3, none⟩ = some (.slice x.da x.dn x.dc) := by rw [cell_of_row _ _ _ _ _ _ hbx]; rfl
        have e4 : W1.cell? ⟨H, 0, none⟩ = some (.slice ca cn cc) := by rw [cell_of_row _ _ _ _ _ _ cbox]; rfl
        unfold lisG
        rw [hz15]
        obtain rfl := cln
        gi_wp2_with (gi_at_builtin; refine hold ?_)
        unfold Hid
        have b7 := below_alloc W1 (.cells #[.int .i64 (x.pos : Int), .bool x.tu, .int .i64 (x.mi : Int), .slice x.da x.dn x.dc] 35)
        have o7 := ownsRow_below crow b7
        have hnew := new_cells W1 x.cells 35
        refine wpListIn_append_wide _ rfl _ _ 33 rfl V.heap.size 35 i35 _ 4 48 Try.underlying33 hi35 hz35 hs35 hb35 rfl (by decide) (.slice ca pre.length cc) pre.length (fcs pre) rfl o7 ⟨W1.heap.size, 0, none⟩ 1 1 x.cells rfl rfl hnew (by simp [Fd.cells, Value.oneCell']) (by unfold maxLen; omega) (by omega) (Nat.le_trans hC.kept.size b7.size) ?_
        intro v' W8 own8 g8
        obtain ⟨va', vc', rfl, _, _⟩ := own_slice own8
        obtain ⟨hC9, hb9, hx9⟩ := hC.step (by have := HVs.out; omega) cbox crow rfl hx2 b7 own8 g8
        have e5 : W8.cell? ⟨H, 0, none⟩ = some (.slice ca pre.length cc) := by rw [cell_of_row _ _ _ _ _ _ hx9]; rfl
        have e6 : W8.frozen? ⟨H, 0, none⟩ = false := frozen_row hx9 0
        have kf : KeepsFrom V.heap.size W1 (W8.setCell ⟨H, 0, none⟩ (.slice va' (pre.length + 1) vc')) := (((KeepsOthers.alloc _ _).trans (KeepsOthers.of_grownBy g8 (own_cells o7))).trans (KeepsOthers.setCell _ _ _)).from _
        clear e0 e1 e2 e3 e4 hbx cbox crow o7 own8 g8 hx9 b7 hnew
        gi_wp2_with fail
        exact ⟨kf, (hb9.mono (B' := H) (by have := HVs.out; omega)).setCell (p := ⟨H, 0, none⟩) (Nat.le_refl _) _, hC9⟩
      case stop => exact fun _ _ _ _ _ h _ => h.elim
      case done =>
        rintro D1 xs W1 hD1 hxs hC1 hK1
        go_wp2_with fail
        refine (wpIn_wide (n := 8)).1 ?_
        refine range_brk (α := Fd) (gf := 18) (lb := #[.pointer (some ⟨lb, 0, none⟩)]) (by decide) rfl (enters_of Try.func18 (by kernel_rfl) rfl) encFd (fun _ => rfl)
          (fun pre x W => x.In W H ∧ x.fo = (FF.getD pre.length x).fo) fn H (by have := HVs.out; have := hC1.kept.size; omega) (fun xs => xs.map Fd.fo = FF.map Fd.fo) (fun xs => xs.map Fd.fo <+: FF.map Fd.fo)
          (fun l J Jx hJb hY W hb h0 => ?seq2) (fun _ _ h => h) (by decide) (fun D2 W2 hD2 hB2 hK2 => ?go2)
        case seq2 =>
          refine (found18 (8 - 1) (by decide) l lb fa fn fc FF V0 hQ.fds J Jx hJb (fun pre x W1 h1 h2 h3 h4 => ?_) W ?_ h0)
          · have := HH.out
            rw [← this] at h3 ⊢
            exact hY pre x W1 h1 h2 ⟨h3, h4⟩
          · rw [← HH.out]
            have hVH : H ≤ V.heap.size := by have := HVs.out; omega
            exact bV.trans ((hC1.kept.toBelow hVH (fun k hk => by omega)).trans (hb.mono (Nat.le_trans hVH hC1.kept.size)))
        case go2 =>
        go_wp2_with fail
        have hVH : H ≤ V.heap.size := by have := HVs.out; omega
        have hVW2 : H + 1 + 1 ≤ W2.heap.size := by have := HVs.out; have := hC1.kept.size; have := hB2.size; omega
        have hbV1 : Below H V W1 := hC1.kept.toBelow hVH (fun k hk => by omega)
        have hbW2 : Below H V0 W2 := bV.trans (hbV1.trans (hB2.mono (Nat.le_trans hVH hC1.kept.size)))
        have B2w : W2.heap[H + 1]? = some (.cells #[.slice none 0 0] 33) := row_below (hC1.kept.row B2 (by omega)) hB2
        refine (wpIn_wide (n := 8)).1 ?_
        refine range_px (α := Fd) (gf := 18) (lb := #[.pointer (some ⟨lb, 0, none⟩)]) (by decide) rfl (enters_of Try.func18 (by kernel_rfl) rfl) encFd (fun _ => rfl)
          (fun pre x W => x.In W H ∧ x.fo = (FF.getD pre.length x).fo) fn (Below H) (fun xs => xs.map Fd.fo = FF.map Fd.fo) (fun xs => xs.map Fd.fo <+: FF.map Fd.fo) (CoI W2 (H + 1) H) (fun _ _ => False) 0
          (GAx (lisG (.agg #[.int .i64 (L : Int), .int .i64 (F : Int), .int .i64 (H_ : Int), .int .i64 (M : Int)]) pb po pn pc w.heap.size sb aa k ac qa qc la lc xa xn xc lb H) 16 W2 (H + 1) H fn)
          (fun _ _ _ h k => h.trans k) (fun A l o o' hl hA hc => ?kp3) (fun _ _ _ h hb => h.below hb) (fun _ _ _ _ _ h hl ho hc => h.put hl ho hc) (fun _ _ _ _ _ h _ _ _ => h) (fun _ _ _ _ _ _ _ h hl ho hc => ?axp3)
          (fun l J Jx hJb hY W hb h0 => ?seq3) (CoI.start B2w) ?assign3 ?body3 ?done3 ?stop3
        case kp3 => exact below_put (by have := hVW2; omega) hA
        case axp3 => exact GAx.put ‹_› hl ho hc
        case seq3 =>
          refine (found18 (8 - 1) (by decide) l lb fa fn fc FF V0 hQ.fds J Jx hJb (fun pre x W1 h1 h2 h3 h4 => ?_) W ?_ h0)
          · have := HH.out
            rw [← this] at h3 ⊢
            exact hY pre x W1 h1 h2 ⟨h3, h4⟩
          · rw [← HH.out]; exact hbW2.trans (hb.mono (by have := hVW2; omega))
        case assign3 =>
          intro l pre x W1 K hC hlt2 hpx hK
          dsimp only [encFd]
          gi_wp2
          refine hK _ _ ((KeepsOthers.alloc _ _).from _) ((Below.refl _ _).alloc (by have := hC.kept.size; have := hVW2; omega) _) ⟨hC.below (below_alloc _ _), hlt2, ⟨ownsRow_below hpx.1.1 (below_alloc _ _), hpx.1.2⟩, rfl, _, rfl, heap_alloc_new _ _⟩
        case body3 =>
          rintro l pre x ⟨tm, ds2⟩ W1 hG
          obtain ⟨hC, hlt2, hx2, hfr, cb, hcb, hbx⟩ := hG
          dsimp only at hfr hcb
          generalize hz : (fun i => tm.getD i undef) = z at hfr
          have hz16 : z 16 = .pointer (some ⟨cb, 0, none⟩) := by rw [← hz]; exact hcb
          clear hz hcb
          subst hfr
          obtain ⟨ca, cn, cc, cbox, crow, cln⟩ := hC.row
          have bcl : cb < W1.heap.size := row_lt hbx
          have e0 : W1.cell? ⟨cb, 0, none⟩ = some (.int .i64 (x.pos : Int)) := by rw [cell_of_row _ _ _ _ _ _ hbx]; rfl
          have e1 : W1.cell? ⟨cb, 1, none⟩ = some (.bool x.tu) := by rw [cell_of_row _ _ _ _ _ _ hbx]; rfl
          have e2 : W1.cell? ⟨cb, 2, none⟩ = some (.int .i64 (x.mi : Int)) := by rw [cell_of_row _ _ _ _ _ _ hbx]; rfl
          have e3 : W1.cell? ⟨cb, 3, none⟩ = some (.slice x.da x.dn x.dc) := by rw [cell_of_row _ _ _ _ _ _ hbx]; rfl
          have e4 : W1.cell? ⟨H + 1, 0, none⟩ = some (.slice ca cn cc) := by rw [cell_of_row _ _ _ _ _ _ cbox]; rfl
          unfold lisG
          rw [hz16]
          obtain rfl := cln
          gi_wp2_with (gi_at_builtin; refine hold ?_)
          unfold Hid
          have b7 := below_alloc W1 (.cells #[.int .i64 (x.pos : Int), .bool x.tu, .int .i64 (x.mi : Int), .slice x.da x.dn x.dc] 35)
          have o7 := ownsRow_below crow b7
          have hnew := new_cells W1 x.cells 35
          refine wpListIn_append_wide _ rfl _ _ 33 rfl W2.heap.size 35 i35 _ 4 48 Try.underlying33 hi35 hz35 hs35 hb35 rfl (by decide) (.slice ca pre.length cc) pre.length (fcs pre) rfl o7 ⟨W1.heap.size, 0, none⟩ 1 1 x.cells rfl rfl hnew (by simp [Fd.cells, Value.oneCell']) (by unfold maxLen; omega) (by omega) (Nat.le_trans hC.kept.size b7.size) ?_
          intro v' W8 own8 g8
          obtain ⟨va', vc', rfl, _, _⟩ := own_slice own8
          obtain ⟨hC9, hb9, hx9⟩ := hC.step (by have := hVW2; omega) cbox crow rfl hx2 b7 own8 g8
          have e5 : W8.cell? ⟨H + 1, 0, none⟩ = some (.slice ca pre.length cc) := by rw [cell_of_row _ _ _ _ _ _ hx9]; rfl
          have e6 : W8.frozen? ⟨H + 1, 0, none⟩ = false := frozen_row hx9 0
          have kf : KeepsFrom W2.heap.size W1 (W8.setCell ⟨H + 1, 0, none⟩ (.slice va' (pre.length + 1) vc')) := (((KeepsOthers.alloc _ _).trans (KeepsOthers.of_grownBy g8 (own_cells o7))).trans (KeepsOthers.setCell _ _ _)).from _
          clear e0 e1 e2 e3 e4 hbx cbox crow o7 own8 g8 hx9 b7 hnew
          gi_wp2_with fail
          exact ⟨kf, (hb9.mono (B' := H) (by have := hVW2; omega)).setCell (p := ⟨H + 1, 0, none⟩) (Nat.le_succ _) _, hC9⟩
        case stop3 => exact fun _ _ _ _ _ h _ => h.elim
        case done3 =>
          rintro D3 xs3 W3 hD3 hxs3 hC3 hK3
          have hM0 := hI.marks0 hQ
          have hbs : w.heap.size ≤ H := by have := HH.out; have := hI.blw.size; have := hQ.kept.size; omega
          have hHV : H ≤ V.heap.size := by have := HVs.out; omega
          have hV1 := hC1.kept.size
          have hb1 : Below H V0 W1 := bV.trans (hbV1)
          have hM1 : Marks w.heap.size ({ target := .collected D1, args := #[] } :: ds) W1 := ⟨⟨D1, rfl, by omega, hK1⟩, hM0.lt (by have := HH.out; omega), hM0.below (by rw [← HH.out]; exact hb1)⟩
          have hM2 : Marks w.heap.size ({ target := .collected D2, args := #[] } :: { target := .collected D1, args := #[] } :: ds) W2 := ⟨⟨D2, rfl, by omega, hK2⟩, hM1.lt hD2, hM1.below hB2⟩
          have hM3 : Marks w.heap.size ({ target := .collected D3, args := #[] } :: { target := .collected D2, args := #[] } :: { target := .collected D1, args := #[] } :: ds) W3 :=
            ⟨⟨D3, rfl, by omega, hK3⟩, hM2.lt hD3, hM2.keptP hC3.kept (fun j o hj ho => by subst hj; rw [B2w] at ho; cases ho; rfl)⟩
          have hb3 : Below H V0 W3 := hbW2.trans (hC3.kept.toBelow (by omega) (fun j hj => by omega))
          obtain ⟨a1, n1, c1, x1, r1, l1⟩ := (hC1.below hB2).row
          obtain ⟨a2, n2, c2, x2, r2, l2⟩ := hC3.row
          have hi1 := (hC1.below hB2).ins
          have x1 : W3.heap[H]? = some (.cells #[.slice a1 n1 c1] 33) := hC3.kept.row x1 (by omega)
          have hw2 : OnlyT W2 (fun j => j = H + 1) := fun j hj => by
            have hj : j = H + 1 := hj
            subst hj
            exact ⟨_, 33, B2w, .inl rfl⟩
          have r1 := hw2.own hC3.kept r1 (by decide) (by decide)
          have hmid := hI.mid (h1 := (a1, n1, c1)) (h2 := (a2, n2, c2)) hQ Hsn.out (by rw [← HH.out]; exact hb3) (ownsRow_mono r1 (by rw [← HH.out]; exact hHV)) l1
            (fun f hf => by rw [← HH.out]; exact ⟨hw2.own hC3.kept (hi1 f hf).1 (by decide) (by decide), (hi1 f hf).2⟩) hxs (ownsRow_mono r2 (by rw [← HH.out]; omega)) l2 (fun f hf => by rw [← HH.out]; exact hC3.ins f hf) hxs3 hM3
          have hla : ∀ j, (Value.slice aa k ac).ownBlock = some j → j < H := fun j hj => by have := own_lt hI.colA.row hj; have := hQ.kept.size; have := HH.out; omega
          have hlq : ∀ j, (Value.slice qa k qc).ownBlock = some j → j < H := fun j hj => by have := own_lt hI.colQ.row hj; have := hQ.kept.size; have := HH.out; omega
          have hll : ∀ j, (Value.slice la k lc).ownBlock = some j → j < H := fun j hj => by have := own_lt hI.lo hj; have := hQ.kept.size; have := HH.out; omega
          clear hI hQ hC1 hC3 hM0 hM1 hM2 hM3 hb3 hb1 hK1 hK2 hK3 r1 r2 l1 l2 hi1 hw2 hxs hxs3 hbW2 hbV1 hB2 B1 B2 B2w bV hfn hV1 hx hxb
          go_upto_region 18 with fail
          -- REGION 18 (printed by genlisten.py)
          obtain ⟨i33, hi33, hz33, hs33, hb33⟩ := info_parts Try.info33
          obtain ⟨i4, hi4, hz4, hs4, hb4⟩ := info_parts Try.info4
          have d1 : ∀ w', Two H W3.drew w' → w'.cell? ⟨H, 0, none⟩ = some (.slice a1 n1 c1) := fun w' hw => by rw [cell_of_row _ _ _ _ _ _ (hw.1.trans (show W3.drew.heap[H]? = _ from x1))]; rfl
          have d2 : ∀ w', Two H W3.drew w' → w'.cell? ⟨H + 1, 0, none⟩ = some (.slice a2 n2 c2) := fun w' hw => by rw [cell_of_row _ _ _ _ _ _ (hw.2.trans (show W3.drew.heap[H + 1]? = _ from x2))]; rfl
          have BU : Below W3.heap.size W3 W3.drew := (Below.refl _ _).drew
          have hws : w.heap.size ≤ W3.heap.size := hmid.blw.size
          have hH3 : H + 1 < W3.heap.size := row_lt x2
          refine wp_region_plan [2, 3, 6, 7, 10, 11, 12] (Plan.of [0, 1, 4, 5, 8, 9] (.two 2 (.two 3 (Plan.of [6, 7, 10, 11, 12, 13, 14, 15] .nil) 6 (Plan.of [3, 7, 10, 11, 12, 13, 14, 15] .nil)) 6 (Plan.of [2, 3, 7, 10, 11, 12, 13, 14, 15] .nil))) (Two H) (Two.refl H) (Two.trans H) (by kernel_rfl) (by kernel_rfl) ?_
          simp only [Plan.of, Plan.lay, List.contains_cons, List.contains_nil, List.getD_cons_zero, List.getD_cons_succ, Nat.reduceBEq, Bool.or_false, Bool.or_true]
          generalize W3.drew = U at *
          repeat (refine wpTL_do rfl (fun w' hw' => (by go_simp; rfl)) ?_; simp only [Act.put, List.setIfInBounds_toArray, List.set_cons_succ, List.set_cons_zero])
          clear d1 d2
          refine wpTL_two ?_ ?_
          · refine wpTL_call rfl (fun K hK => ?_)
            go_wp2_with fail
            have bU1 := below_alloc U (.cells #[.slice a1 n1 c1] 33)
            have nU1 := heap_alloc_new U (.cells #[.slice a1 n1 c1] 33)
            have BU1 := BU.trans (bU1.mono BU.size)
            refine hK _ _ (Two.below bU1 (Nat.lt_of_lt_of_le hH3 BU.size)) ?_
            clear hK K
            try simp only [Act.put, List.setIfInBounds_toArray, List.set_cons_succ, List.set_cons_zero]
            have sU1 : U.heap.size < (U.alloc (.cells #[.slice a1 n1 c1] 33)).heap.size := by rw [World.size_alloc]; omega
            obtain ⟨N1, hN1⟩ : ∃ N1, N1 = U.heap.size := ⟨_, rfl⟩
            rw [← hN1] at nU1 sU1 ⊢
            have HN1 := hid hN1
            clear hN1
            generalize U.alloc (.cells #[.slice a1 n1 c1] 33) = U1 at *
            refine wpTL_two ?_ ?_
            · refine wpTL_call rfl (fun K hK => ?_)
              refine wp_append_own_at (.tmp 51) (.tmp 53) 28 rfl w.heap.size 33 i33 _ 1 24 Try.underlying28 hi33 hz33 hs33 hb33 rfl (by decide) (.slice aa k ac) k (ha.map hv) rfl (ownsRow_below hmid.colA.row BU1) ⟨N1, 0, none⟩ 1 1 [.slice a1 n1 c1] rfl rfl (one_row nU1) (by simp [Value.oneCell']) (by unfold maxLen; omega) (by omega) (Nat.le_trans hws BU1.size) ?_
              intro v' V oV gV hat
              obtain ⟨va, vac, rfl, _, _⟩ := own_slice oV
              refine hK _ _ (Two.grown gV (Nat.lt_of_lt_of_le hH3 BU1.size) hla) ?_
              clear hK K
              try simp only [Act.put, List.setIfInBounds_toArray, List.set_cons_succ, List.set_cons_zero]
              have XV := XF.append BU1 oV gV hat
              have SV := gV.size
              clear oV gV hat
              refine wpTL_call rfl (fun K hK => ?_)
              go_wp2_with fail
              have bX := below_alloc V (.cells #[.slice a2 n2 c2] 33)
              have nX := heap_alloc_new V (.cells #[.slice a2 n2 c2] 33)
              refine hK _ _ (Two.below bX (Nat.lt_of_lt_of_le hH3 XV.kept.size)) ?_
              clear hK K
              try simp only [Act.put, List.setIfInBounds_toArray, List.set_cons_succ, List.set_cons_zero]
              have XX := XV.below bX
              obtain ⟨N2, hN2⟩ : ∃ N2, N2 = V.heap.size := ⟨_, rfl⟩
              rw [← hN2] at nX ⊢
              clear bX XV hN2
              generalize V.alloc (.cells #[.slice a2 n2 c2] 33) = X at *
              refine wpTL_call rfl (fun K hK => ?_)
              refine wp_append_own_at (.tmp 55) (.tmp 57) 28 rfl w.heap.size 33 i33 _ 1 24 Try.underlying28 hi33 hz33 hs33 hb33 rfl (by decide) (.slice qa k qc) k (hq.map hv) rfl (hmid.rowQ XX) ⟨N2, 0, none⟩ 1 1 [.slice a2 n2 c2] rfl rfl (one_row nX) (by simp [Value.oneCell']) (by unfold maxLen; omega) (by omega) (Nat.le_trans hws XX.kept.size) ?_
              intro v' Y oQ gY hatQ
              obtain ⟨vq, vqc, rfl, _, _⟩ := own_slice oQ
              refine hK _ _ (Two.grown gY (Nat.lt_of_lt_of_le hH3 XX.kept.size) hlq) ?_
              clear hK K
              try simp only [Act.put, List.setIfInBounds_toArray, List.set_cons_succ, List.set_cons_zero]
              have kY := hmid.keptY XX gY
              have sy := (hmid.only.sy kY hmid.sy).at_
              have rL := hmid.rowL XX gY
              refine wpTL_call rfl (fun K hK => ?_)
              go_wp2_with fail
              refine (locked_ok sb s' Y sy).mono ?_
              rintro e w' ⟨rfl, rfl⟩
              refine hK _ _ (Two.refl _ _) ?_
              clear hK K
              try simp only [Act.put, List.setIfInBounds_toArray, List.set_cons_succ, List.set_cons_zero]
              refine wpTL_call rfl (fun K hK => ?_)
              go_wp2_with fail
              have bZ := below_alloc Y (.cells #[.bool s'.lo] 4)
              have nZ := heap_alloc_new Y (.cells #[.bool s'.lo] 4)
              refine hK _ _ (Two.below bZ (Nat.lt_of_lt_of_le hH3 kY.size)) ?_
              clear hK K
              try simp only [Act.put, List.setIfInBounds_toArray, List.set_cons_succ, List.set_cons_zero]
              refine wpTL_call rfl (fun K hK => ?_)
              refine wp_append_own_at (.tmp 59) (.tmp 62) 29 rfl w.heap.size 4 i4 _ 1 1 Try.underlying29 hi4 hz4 hs4 hb4 rfl (by decide) (.slice la k lc) k (los.map Value.bool) rfl (ownsRow_below rL bZ) ⟨Y.heap.size, 0, none⟩ 1 1 [.bool s'.lo] rfl rfl (one_row nZ) (by simp [Value.oneCell']) (by unfold maxLen; omega) (by omega) (Nat.le_trans hws (Nat.le_trans kY.size bZ.size)) ?_
              intro v' Z oL gZ _
              obtain ⟨vl, vlc, rfl, _, _⟩ := own_slice oL
              refine hK _ _ (Two.grown gZ (Nat.lt_of_lt_of_le hH3 (Nat.le_trans kY.size bZ.size)) hll) ?_
              clear hK K
              try simp only [Act.put, List.setIfInBounds_toArray, List.set_cons_succ, List.set_cons_zero]
              repeat (refine wpTL_do rfl (fun w' hw' => (by go_simp; rfl)) ?_; simp only [Act.put, List.setIfInBounds_toArray, List.set_cons_succ, List.set_cons_zero])
              refine wpTL_nil ?_
              have hfin := hmid.close XX oQ gY hatQ oL gZ
              clear sy rL kY bZ nZ oL gZ oQ gY hatQ XX hmid
              go_wp2_with fail
              refine ⟨⟨k + 1, va, vq, vl, vac, vqc, vlc, _, _, _, _, _, s', _, by omega, hfin, rfl⟩, ?_⟩
              simp [intOf]
              omega
            · refine wpTL_call rfl (fun K hK => ?_)
              go_wp2_with fail
              have bU2 := below_alloc U1 (.cells #[.slice a2 n2 c2] 33)
              have nU2 := heap_alloc_new U1 (.cells #[.slice a2 n2 c2] 33)
              have BU2 := BU1.trans (bU2.mono BU1.size)
              refine hK _ _ (Two.below bU2 (Nat.lt_of_lt_of_le hH3 BU1.size)) ?_
              clear hK K
              try simp only [Act.put, List.setIfInBounds_toArray, List.set_cons_succ, List.set_cons_zero]
              have sU2 : U1.heap.size < (U1.alloc (.cells #[.slice a2 n2 c2] 33)).heap.size := by rw [World.size_alloc]; omega
              obtain ⟨N2, hN2⟩ : ∃ N2, N2 = U1.heap.size := ⟨_, rfl⟩
              rw [← hN2] at nU2 sU2 ⊢
              have HN2 := hid hN2
              clear hN2
              generalize U1.alloc (.cells #[.slice a2 n2 c2] 33) = U2 at *
              have nU1 := row_below nU1 bU2
              refine wpTL_call rfl (fun K hK => ?_)
              refine wp_append_own_at (.tmp 51) (.tmp 53) 28 rfl w.heap.size 33 i33 _ 1 24 Try.underlying28 hi33 hz33 hs33 hb33 rfl (by decide) (.slice aa k ac) k (ha.map hv) rfl (ownsRow_below hmid.colA.row BU2) ⟨N1, 0, none⟩ 1 1 [.slice a1 n1 c1] rfl rfl (one_row nU1) (by simp [Value.oneCell']) (by unfold maxLen; omega) (by omega) (Nat.le_trans hws BU2.size) ?_
              intro v' V oV gV hat
              obtain ⟨va, vac, rfl, _, _⟩ := own_slice oV
              refine hK _ _ (Two.grown gV (Nat.lt_of_lt_of_le hH3 BU2.size) hla) ?_
              clear hK K
              try simp only [Act.put, List.setIfInBounds_toArray, List.set_cons_succ, List.set_cons_zero]
              have XV := XF.append BU2 oV gV hat
              have SV := gV.size
              have nV : V.heap[N2]? = some (.cells #[.slice a2 n2 c2] 33) := (gV.block N2 (row_lt nU2) (fun e => by have h1 := hla N2 e.symm; have h2 := HN2.out; have h3 := BU1.size; omega)).trans nU2
              clear oV gV hat
              refine wpTL_call rfl (fun K hK => ?_)
              refine wp_append_own_at (.tmp 55) (.tmp 57) 28 rfl w.heap.size 33 i33 _ 1 24 Try.underlying28 hi33 hz33 hs33 hb33 rfl (by decide) (.slice qa k qc) k (hq.map hv) rfl (hmid.rowQ XV) ⟨N2, 0, none⟩ 1 1 [.slice a2 n2 c2] rfl rfl (one_row nV) (by simp [Value.oneCell']) (by unfold maxLen; omega) (by omega) (Nat.le_trans hws XV.kept.size) ?_
              intro v' Y oQ gY hatQ
              obtain ⟨vq, vqc, rfl, _, _⟩ := own_slice oQ
              refine hK _ _ (Two.grown gY (Nat.lt_of_lt_of_le hH3 XV.kept.size) hlq) ?_
              clear hK K
              try simp only [Act.put, List.setIfInBounds_toArray, List.set_cons_succ, List.set_cons_zero]
              have kY := hmid.keptY XV gY
              have sy := (hmid.only.sy kY hmid.sy).at_
              have rL := hmid.rowL XV gY
              refine wpTL_call rfl (fun K hK => ?_)
              go_wp2_with fail
              refine (locked_ok sb s' Y sy).mono ?_
              rintro e w' ⟨rfl, rfl⟩
              refine hK _ _ (Two.refl _ _) ?_
              clear hK K
              try simp only [Act.put, List.setIfInBounds_toArray, List.set_cons_succ, List.set_cons_zero]
              refine wpTL_call rfl (fun K hK => ?_)
              go_wp2_with fail
              have bZ := below_alloc Y (.cells #[.bool s'.lo] 4)
              have nZ := heap_alloc_new Y (.cells #[.bool s'.lo] 4)
              refine hK _ _ (Two.below bZ (Nat.lt_of_lt_of_le hH3 kY.size)) ?_
              clear hK K
              try simp only [Act.put, List.setIfInBounds_toArray, List.set_cons_succ, List.set_cons_zero]
              refine wpTL_call rfl (fun K hK => ?_)
              refine wp_append_own_at (.tmp 59) (.tmp 62) 29 rfl w.heap.size 4 i4 _ 1 1 Try.underlying29 hi4 hz4 hs4 hb4 rfl (by decide) (.slice la k lc) k (los.map Value.bool) rfl (ownsRow_below rL bZ) ⟨Y.heap.size, 0, none⟩ 1 1 [.bool s'.lo] rfl rfl (one_row nZ) (by simp [Value.oneCell']) (by unfold maxLen; omega) (by omega) (Nat.le_trans hws (Nat.le_trans kY.size bZ.size)) ?_
              intro v' Z oL gZ _
              obtain ⟨vl, vlc, rfl, _, _⟩ := own_slice oL
              refine hK _ _ (Two.grown gZ (Nat.lt_of_lt_of_le hH3 (Nat.le_trans kY.size bZ.size)) hll) ?_
              clear hK K
              try simp only [Act.put, List.setIfInBounds_toArray, List.set_cons_succ, List.set_cons_zero]
              repeat (refine wpTL_do rfl (fun w' hw' => (by go_simp; rfl)) ?_; simp only [Act.put, List.setIfInBounds_toArray, List.set_cons_succ, List.set_cons_zero])
              refine wpTL_nil ?_
              have hfin := hmid.close XV oQ gY hatQ oL gZ
              clear sy rL kY bZ nZ oL gZ oQ gY hatQ XV hmid
              go_wp2_with fail
              refine ⟨⟨k + 1, va, vq, vl, vac, vqc, vlc, _, _, _, _, _, s', _, by omega, hfin, rfl⟩, ?_⟩
              simp [intOf]
              omega
          · refine wpTL_call rfl (fun K hK => ?_)
            go_wp2_with fail
            have bU1 := below_alloc U (.cells #[.slice a2 n2 c2] 33)
            have nU1 := heap_alloc_new U (.cells #[.slice a2 n2 c2] 33)
            have BU1 := BU.trans (bU1.mono BU.size)
            refine hK _ _ (Two.below bU1 (Nat.lt_of_lt_of_le hH3 BU.size)) ?_
            clear hK K
            try simp only [Act.put, List.setIfInBounds_toArray, List.set_cons_succ, List.set_cons_zero]
            have sU1 : U.heap.size < (U.alloc (.cells #[.slice a2 n2 c2] 33)).heap.size := by rw [World.size_alloc]; omega
            obtain ⟨N2, hN2⟩ : ∃ N2, N2 = U.heap.size := ⟨_, rfl⟩
            rw [← hN2] at nU1 sU1 ⊢
            have HN2 := hid hN2
            clear hN2
            generalize U.alloc (.cells #[.slice a2 n2 c2] 33) = U1 at *
            refine wpTL_call rfl (fun K hK => ?_)
            go_wp2_with fail
            have bU2 := below_alloc U1 (.cells #[.slice a1 n1 c1] 33)
            have nU2 := heap_alloc_new U1 (.cells #[.slice a1 n1 c1] 33)
            have BU2 := BU1.trans (bU2.mono BU1.size)
            refine hK _ _ (Two.below bU2 (Nat.lt_of_lt_of_le hH3 BU1.size)) ?_
            clear hK K
            try simp only [Act.put, List.setIfInBounds_toArray, List.set_cons_succ, List.set_cons_zero]
            have sU2 : U1.heap.size < (U1.alloc (.cells #[.slice a1 n1 c1] 33)).heap.size := by rw [World.size_alloc]; omega
            obtain ⟨N1, hN1⟩ : ∃ N1, N1 = U1.heap.size := ⟨_, rfl⟩
            rw [← hN1] at nU2 sU2 ⊢
            have HN1 := hid hN1
            clear hN1
            generalize U1.alloc (.cells #[.slice a1 n1 c1] 33) = U2 at *
            have nU1 := row_below nU1 bU2
            refine wpTL_call rfl (fun K hK => ?_)
            refine wp_append_own_at (.tmp 51) (.tmp 53) 28 rfl w.heap.size 33 i33 _ 1 24 Try.underlying28 hi33 hz33 hs33 hb33 rfl (by decide) (.slice aa k ac) k (ha.map hv) rfl (ownsRow_below hmid.colA.row BU2) ⟨N1, 0, none⟩ 1 1 [.slice a1 n1 c1] rfl rfl (one_row nU2) (by simp [Value.oneCell']) (by unfold maxLen; omega) (by omega) (Nat.le_trans hws BU2.size) ?_
            intro v' V oV gV hat
            obtain ⟨va, vac, rfl, _, _⟩ := own_slice oV
            refine hK _ _ (Two.grown gV (Nat.lt_of_lt_of_le hH3 BU2.size) hla) ?_
            clear hK K
            try simp only [Act.put, List.setIfInBounds_toArray, List.set_cons_succ, List.set_cons_zero]
            have XV := XF.append BU2 oV gV hat
            have SV := gV.size
            have nV : V.heap[N2]? = some (.cells #[.slice a2 n2 c2] 33) := (gV.block N2 (row_lt nU1) (fun e => by have h1 := hla N2 e.symm; have h2 := HN2.out; have h3 := BU.size; omega)).trans nU1
            clear oV gV hat
            refine wpTL_call rfl (fun K hK => ?_)
            refine wp_append_own_at (.tmp 55) (.tmp 57) 28 rfl w.heap.size 33 i33 _ 1 24 Try.underlying28 hi33 hz33 hs33 hb33 rfl (by decide) (.slice qa k qc) k (hq.map hv) rfl (hmid.rowQ XV) ⟨N2, 0, none⟩ 1 1 [.slice a2 n2 c2] rfl rfl (one_row nV) (by simp [Value.oneCell']) (by unfold maxLen; omega) (by omega) (Nat.le_trans hws XV.kept.size) ?_
            intro v' Y oQ gY hatQ
            obtain ⟨vq, vqc, rfl, _, _⟩ := own_slice oQ
            refine hK _ _ (Two.grown gY (Nat.lt_of_lt_of_le hH3 XV.kept.size) hlq) ?_
            clear hK K
            try simp only [Act.put, List.setIfInBounds_toArray, List.set_cons_succ, List.set_cons_zero]
            have kY := hmid.keptY XV gY
            have sy := (hmid.only.sy kY hmid.sy).at_
            have rL := hmid.rowL XV gY
            refine wpTL_call rfl (fun K hK => ?_)
            go_wp2_with fail
            refine (locked_ok sb s' Y sy).mono ?_
            rintro e w' ⟨rfl, rfl⟩
            refine hK _ _ (Two.refl _ _) ?_
            clear hK K
            try simp only [Act.put, List.setIfInBounds_toArray, List.set_cons_succ, List.set_cons_zero]
            refine wpTL_call rfl (fun K hK => ?_)
            go_wp2_with fail
            have bZ := below_alloc Y (.cells #[.bool s'.lo] 4)
            have nZ := heap_alloc_new Y (.cells #[.bool s'.lo] 4)
            refine hK _ _ (Two.below bZ (Nat.lt_of_lt_of_le hH3 kY.size)) ?_
            clear hK K
            try simp only [Act.put, List.setIfInBounds_toArray, List.set_cons_succ, List.set_cons_zero]
            refine wpTL_call rfl (fun K hK => ?_)
            refine wp_append_own_at (.tmp 59) (.tmp 62) 29 rfl w.heap.size 4 i4 _ 1 1 Try.underlying29 hi4 hz4 hs4 hb4 rfl (by decide) (.slice la k lc) k (los.map Value.bool) rfl (ownsRow_below rL bZ) ⟨Y.heap.size, 0, none⟩ 1 1 [.bool s'.lo] rfl rfl (one_row nZ) (by simp [Value.oneCell']) (by unfold maxLen; omega) (by omega) (Nat.le_trans hws (Nat.le_trans kY.size bZ.size)) ?_
            intro v' Z oL gZ _
            obtain ⟨vl, vlc, rfl, _, _⟩ := own_slice oL
            refine hK _ _ (Two.grown gZ (Nat.lt_of_lt_of_le hH3 (Nat.le_trans kY.size bZ.size)) hll) ?_
            clear hK K
            try simp only [Act.put, List.setIfInBounds_toArray, List.set_cons_succ, List.set_cons_zero]
            repeat (refine wpTL_do rfl (fun w' hw' => (by go_simp; rfl)) ?_; simp only [Act.put, List.setIfInBounds_toArray, List.set_cons_succ, List.set_cons_zero])
            refine wpTL_nil ?_
            have hfin := hmid.close XV oQ gY hatQ oL gZ
            clear sy rL kY bZ nZ oL gZ oQ gY hatQ XV hmid
            go_wp2_with fail
            refine ⟨⟨k + 1, va, vq, vl, vac, vqc, vlc, _, _, _, _, _, s', _, by omega, hfin, rfl⟩, ?_⟩
            simp [intOf]
            omega
    · obtain rfl : k = pn := by omega
      have hM := hI.marks
      have hpl := hp.len
      go_wp2_with fail
      change LeavesInM Fence.wide 8 Try.prog Try.f7 _ _ ds .returning W
      exact leaves_marks (B := w.heap.size) ds W hM (fun W' hb hk => ⟨_, results_tmp4 rfl _ _ _, aa, qa, la, ac, qc, lc, ha, FA, los, C, core s, rfl, hI.done hpl hb hk⟩)
end Go.Proofs.Ytlbpmepifegeiaa
