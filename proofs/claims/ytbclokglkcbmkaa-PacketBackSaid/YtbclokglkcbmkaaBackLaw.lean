/- PacketBack: the walk of the law. -/
import Derived.Test.YtbclokglkcbmkaaBack
namespace Go.Proofs.Ytbclokglkcbmkaa
set_option linter.unusedVariables false
open Go.RowKit

set_option maxRecDepth 100000 in
set_option maxHeartbeats 4000000 in
theorem law_walk (la ja : Option Addr) (ln lc jn jc : Nat) (it : Nat → Raw) (js : List Nat) (w0 : World) (hl0 : RdPk w0 la ln lc it) (hj0 : Rd w0 ja jn jc (vb js)) (hjb : AllB js) (hln : ln ≤ 2513169434916) (hjn : jn ≤ 140737488351232) :
    Calls Try.prog 3 #[.slice la ln lc, .slice ja jn jc] w0 fun e w' => e = .returned (.bool true) ∧ Below w0.heap.size w0 w' := by
  obtain ⟨i0, hi, hz0, hz1, hz2⟩ := info_parts Try.info5
  obtain ⟨i1, hi', hz0', hz1', hz2'⟩ := info_parts Try.info29
  go_enter Try.func3, Try.ntmps3
  go_wp2_with fail
  go_loopw [5, 6, 7] (fun r g i wr => ∃ (k : Nat) (G : List Pk) (ra ga : Option Addr) (rn rc gn gc : Nat), i = .int .i64 k ∧ k ≤ ln ∧ k ≤ 30 ∧ r = .slice ra rn rc ∧ g = .slice ga gn gc ∧ rn ≤ 65542 * k ∧ gn ≤ k ∧
      wr.ownsRow w0.heap.size 5 1 (.slice ra rn rc) rn (vb (encs G)) ∧ wr.ownsRow w0.heap.size 29 6 (.slice ga gn gc) gn (cells G) ∧ (∀ p ∈ G, p.ok w0) ∧ Below w0.heap.size w0 wr) (fun _ _ i _ => 30 - (intOf i).toNat)
  case atStart =>
    exact ⟨0, [], none, none, 0, 0, 0, 0, rfl, by omega, by omega, rfl, rfl, by omega, by omega, World.ownsRow_nil _ _ _ _, World.ownsRow_nil _ _ _ _, (fun p hp => by cases hp), Below.refl _ _⟩
  case round =>
    obtain ⟨k, G, ra, ga, rn, rc, gn, gc, rfl, hk, hk30, rfl, rfl, hrn, hgn, or0, og0, hG, hB⟩ := hrel
    by_cases hlt : k < ln ∧ k < 30
    · obtain ⟨hlt1, hlt2⟩ := hlt
      have t1 : ((k : Int) < (ln : Int)) := by omega
      have t2 : ((k : Int) < 30) := by omega
      obtain ⟨b, off, rfl, hbl, hm⟩ := hl0.mem (by omega)
      obtain ⟨hrd, hab⟩ := hl0.each k hlt1
      have hl : ∀ {W : World}, Below w0.heap.size w0 W → ∀ j v, (it k).cells[j]? = some v → W.cell? ⟨b, off + k * 6 + j, none⟩ = some v := fun hW j v hv => (hW.cell (p := ⟨b, off + k * 6 + j, none⟩) hbl).trans (hm k hlt1 j v hv)
      clear hm
      obtain ⟨up, se, ap, pt, ct, xa, xn, xc, ds, hx⟩ : ∃ up se ap pt ct xa xn xc ds, it k = ⟨up, se, ap, pt, ct, xa, xn, xc, ds⟩ := ⟨_, _, _, _, _, _, _, _, _, rfl⟩
      rw [hx] at hrd hab hl
      simp only [Raw.cells] at hl hrd hab
      clear hx
      have l0 := hl hB 0 _ rfl
      have l1 := hl hB 1 _ rfl
      have l2 := hl hB 2 _ rfl
      have l3 := hl hB 3 _ rfl
      have l4 := hl hB 4 _ rfl
      have l5 := hl hB 5 _ rfl
      simp only [Nat.add_zero] at l0
      by_cases hmay : mayCode ap pt ct xn = 0
      · obtain ⟨q1, q2, q3, q4, q5, q6, q7, q8⟩ := may_zero hmay
        obtain ⟨ap, rfl⟩ := Int.eq_ofNat_of_zero_le q1
        obtain ⟨pt, rfl⟩ := Int.eq_ofNat_of_zero_le q3
        obtain ⟨ct, rfl⟩ := Int.eq_ofNat_of_zero_le q5
        go_wp2_with fail
        have hdl : ds.length = xn := by have := hrd.len; rwa [vb_len] at this
        refine (encode_ok up se ap pt ct xa xn xc ds wr (hrd.below hB) (by omega) (by omega) (by omega) (by omega) (by omega)).mono ?_
        rintro e V1 ⟨ea, ec, rfl, oe, Be⟩
        clear l0 l1 l2 l3 l4 l5
        have B1 := hB.trans (Be.mono hB.size)
        have or1 := ownsRow_below or0 Be
        have og1 := ownsRow_below og0 Be
        clear or0 og0
        go_wp2_with (at_builtin; refine hold ?_)
        unfold Hid
        refine wpList_append_rd rfl _ _ 23 rfl w0.heap.size 5 i0 (.int .u8 0) 1 Try.underlying23 hi hz0 hz1 hz2 rfl ra rn rc _ rfl or1 ea (2 + 2 + 2 + xn) ec _ rfl (Rd.ofOwn oe) (vb_oneCell _) (by omega) (by unfold maxLen; omega) B1.size ?_
        intro ra2 rc2 V2 or2 gr2 b2
        rw [← vb_append] at or2
        have B2 := B1.trans b2
        have og2 := og1.kept gr2 (own_apart og1 or1 (by decide))
        clear or1 og1 gr2 b2 oe Be
        have l0 := hl B2 0 _ rfl
        have l1 := hl B2 1 _ rfl
        have l2 := hl B2 2 _ rfl
        have l3 := hl B2 3 _ rfl
        have l4 := hl B2 4 _ rfl
        have l5 := hl B2 5 _ rfl
        simp only [Nat.add_zero] at l0
        go_wp2_with (at_builtin; refine hold ?_)
        unfold Hid
        have ON := World.ownsRow_lit (base := V2.heap.size) (e := 29) (size := 6) V2 #[.bool up, .bool se, .int .i64 ap, .int .i64 pt, .int .i64 ct, .slice xa xn xc] 1 (Nat.le_refl _) (by unfold maxLen; omega) rfl
        have BN := below_alloc V2 (.cells #[.bool up, .bool se, .int .i64 ap, .int .i64 pt, .int .i64 ct, .slice xa xn xc] 29)
        have og3 := ownsRow_below og2 BN
        have or3 := ownsRow_below or2 BN
        have B3 := B2.trans (BN.mono B2.size)
        refine wpList_append_own _ rfl _ _ 22 rfl w0.heap.size 29 i1 _ 6 56 Try.underlying22 hi' hz0' hz1' hz2' rfl (by decide) (.slice ga gn gc) gn _ rfl og3 ⟨V2.heap.size, 0, none⟩ 1 1 _ rfl rfl (ON.cells rfl) ?c1 (by unfold maxLen; omega) (by omega) B3.size ?_
        case c1 => intro u hu; simp at hu; rcases hu with rfl | rfl | rfl | rfl | rfl | rfl <;> rfl
        intro v4 V4 og4 gr4 _
        obtain ⟨ga2, gc2, rfl, _, _⟩ := own_slice og4
        obtain ⟨_, _, _, _, hob⟩ := own_slice og3
        have or4 := or3.kept gr4 (own_apart or3 og3 (by decide))
        have B4 := B3.grown gr4 B3.size hob
        clear or3 og3 gr4 hob ON BN or2 og2
        clear l0 l1 l2 l3 l4 l5
        go_wp2_with fail
        go_roundw
        case rel =>
          refine ⟨k + 1, G ++ [⟨up, se, ap, pt, ct, xa, xn, xc, ds⟩], ra2, ga2, rn + (2 + 2 + 2 + xn), rc2, gn + 1, gc2, by simp, by omega, by omega, rfl, rfl, by omega, by omega, ?_, ?_, ?_, B4⟩
          · rw [encs_snoc]; exact or4
          · rw [cells_snoc]; exact og4
          · intro p hp
            rcases List.mem_append.1 hp with h | h
            · exact hG p h
            · rw [List.mem_singleton] at h
              subst h
              exact ⟨hrd, hab, by dsimp only; omega, by dsimp only; omega, by dsimp only; omega, by dsimp only; omega, by dsimp only; omega, hdl⟩
        case measure => simp [intOf]; omega
      · go_wp2_with fail
        refine (encode_bad up se ap pt ct xa xn xc wr hmay).mono ?_
        rintro e V1 ⟨rfl, Be⟩
        have B1 := hB.trans (Be.mono hB.size)
        have or1 := ownsRow_below or0 Be
        have og1 := ownsRow_below og0 Be
        have hne : (mayCode ap pt ct xn == 0) = false := by simpa using hmay
        generalize mayCode ap pt ct xn = m at *
        clear l0 l1 l2 l3 l4 l5 hB or0 og0
        go_wp2_with fail
        go_roundw
        case rel => exact ⟨k + 1, G, ra, ga, rn, rc, gn, gc, by simp, by omega, by omega, rfl, rfl, by omega, by omega, or1, og1, hG, B1⟩
        case measure => simp [intOf]; omega
    · have hgl : gn = G.length := by have h1 := og0.1; rw [cells_len] at h1; omega
      have hfin : k = ln ∨ (k < ln ∧ k = 30) := by omega
      have hrl : rn ≤ 1966260 := by omega
      rcases hfin with h | ⟨h1, h2⟩
      · have t1 : ¬ ((k : Int) < (ln : Int)) := by omega
        have t0 : True := trivial
        clear hl0 h hlt hk hrn
        go_wp2_with (at_builtin; refine hold ?_)
        unfold Hid
        refine wpList_append_rd_wide rfl _ _ 23 rfl w0.heap.size 5 i0 (.int .u8 0) 1 Try.underlying23 hi hz0 hz1 hz2 rfl ra rn rc _ rfl or0 ja jn jc _ rfl (hj0.below hB) (vb_oneCell _) (by omega) (by unfold maxLen; omega) hB.size ?_
        intro ra1 rc1 X1 or1 gr1 b1
        rw [← vb_append] at or1
        have hBx := hB.trans b1
        have og1 := og0.kept gr1 (own_apart og0 or0 (by decide))
        clear or0 og0 gr1 b1 hB
        have hr1 := Rd.ofOwn or1
        clear or1
        go_wp2_with fail
        go_loopw [5, 10] (fun r i wx => ∃ (m : Nat) (ra : Option Addr) (rn rc : Nat), i = .int .i64 m ∧ m ≤ gn ∧ r = .slice ra rn rc ∧ Rd wx ra rn rc (vb (encs (G.drop m) ++ js)) ∧ wx.ownsRow w0.heap.size 29 6 (.slice ga gn gc) gn (cells G) ∧ Below w0.heap.size w0 wx) (fun _ i _ => gn - (intOf i).toNat)
        case atStart => exact ⟨0, ra1, _, rc1, rfl, by omega, rfl, hr1, og1, hBx⟩
        case round =>
          clear hr1 og1 hBx
          obtain ⟨m, ra, rn, rc, rfl, hm, rfl, hr, og, hB⟩ := hrel
          by_cases hmg : m < gn
          · have t2 : ((m : Int) < (gn : Int)) := by omega
            have hmG : m < G.length := by omega
            have hGm := hG G[m] (List.getElem_mem hmG)
            have hdrop : G.drop m = G[m] :: G.drop (m + 1) := List.drop_eq_getElem_cons hmG
            have henc : encs (G.drop m) ++ js = G[m].enc ++ (encs (G.drop (m + 1)) ++ js) := by rw [hdrop]; simp only [encs, List.flatMap_cons, List.append_assoc]
            rw [henc] at hr
            have hrest : AllB (encs (G.drop (m + 1)) ++ js) := by
              refine AllB.append ?_ hjb
              intro x hx
              simp only [encs, List.mem_flatMap] at hx
              obtain ⟨q, hq, hx⟩ := hx
              obtain ⟨_, q1, q2, q3, q4, q5, q6, q7⟩ := hG q (List.mem_of_mem_drop hq)
              exact enc_all _ _ _ _ _ _ q2 q3 q4 (by omega) q1 x hx
            obtain ⟨gb, hga⟩ : ∃ gb, ga = some ⟨gb, 0, none⟩ := by
              rcases og.2 with ⟨h, h0⟩ | ⟨g, cap, cur, h, _⟩
              · omega
              · cases h; exact ⟨_, rfl⟩
            subst hga
            have hgc := og.cells rfl
            have hca := cells_at G m hmG
            generalize G[m] = p at *
            clear hdrop henc hmG
            obtain ⟨hpr, hpb, p1, p2, p3, p4, p5, p6⟩ := hGm
            obtain ⟨rb, ro, rfl, _, _⟩ := hr.cell 0 (by have := hr.len; rw [vb_len, List.length_append, Pk.enc_len] at this; omega)
            have hlen : 6 + p.n + (encs (G.drop (m + 1)) ++ js).length = rn := by have := hr.len; rw [vb_len, List.length_append, Pk.enc_len, p6] at this; exact this
            have hgbl : gb < wr.heap.size := by
              rcases og.2 with ⟨h, _⟩ | ⟨g, cap, cur, h, _, hg, _⟩
              · cases h
              · cases h; exact (Array.getElem?_eq_some_iff.1 hg).1
            go_wp2_with fail
            refine (decode_enc _ rn rc p.up p.se p.ap p.pt p.ct p.ds (encs (G.drop (m + 1)) ++ js) wr hr hpb hrest p1 p2 p3 (by omega) (by omega)).mono ?_
            rintro e V ⟨ao, cc, rfl, oo, Bd⟩
            rw [p6] at oo ⊢
            have hBV := hB.trans (Bd.mono hB.size)
            have ogV := ownsRow_below og Bd
            have hrV := hr.below Bd
            clear hr og hB
            obtain ⟨W, hW⟩ : ∃ W, W = V.alloc (.cells #[.bool p.up, .bool p.se, .int .i64 p.ap, .int .i64 p.pt, .int .i64 p.ct, .slice ao p.n cc] 29) := ⟨_, rfl⟩
            have BW := below_alloc V (.cells #[.bool p.up, .bool p.se, .int .i64 p.ap, .int .i64 p.pt, .int .i64 p.ct, .slice ao p.n cc] 29)
            have A := heap_alloc_new V (.cells #[.bool p.up, .bool p.se, .int .i64 p.ap, .int .i64 p.pt, .int .i64 p.ct, .slice ao p.n cc] 29)
            rw [← hW] at BW A
            have d0 : W.cell? ⟨V.heap.size, 0, none⟩ = some (.bool p.up) := by rw [cell_of_row _ _ _ _ _ _ A]; rfl
            have d1 : W.cell? ⟨V.heap.size, 1, none⟩ = some (.bool p.se) := by rw [cell_of_row _ _ _ _ _ _ A]; rfl
            have d2 : W.cell? ⟨V.heap.size, 2, none⟩ = some (.int .i64 p.ap) := by rw [cell_of_row _ _ _ _ _ _ A]; rfl
            have d3 : W.cell? ⟨V.heap.size, 3, none⟩ = some (.int .i64 p.pt) := by rw [cell_of_row _ _ _ _ _ _ A]; rfl
            have d4 : W.cell? ⟨V.heap.size, 4, none⟩ = some (.int .i64 p.ct) := by rw [cell_of_row _ _ _ _ _ _ A]; rfl
            have d5 : W.cell? ⟨V.heap.size, 5, none⟩ = some (.slice ao p.n cc) := by rw [cell_of_row _ _ _ _ _ _ A]; rfl
            have ogW := ownsRow_below ogV BW
            have hrW := hrV.below BW
            have ooW := ownsRow_below oo BW
            have hBW := hBV.trans (BW.mono hBV.size)
            have hlc : ∀ j v, p.cells[j]? = some v → j < 6 → W.cell? ⟨gb, m * 6 + j, none⟩ = some v := by
              intro j v hv hj
              have h1 := ogW.cells (g := gb) rfl (m * 6 + j) v ((hca j hj).trans hv)
              rw [Addr.add_lit, Nat.zero_add] at h1
              exact h1
            have l0 := hlc 0 _ rfl (by decide)
            have l1 := hlc 1 _ rfl (by decide)
            have l2 := hlc 2 _ rfl (by decide)
            have l3 := hlc 3 _ rfl (by decide)
            have l4 := hlc 4 _ rfl (by decide)
            have l5 := hlc 5 _ rfl (by decide)
            simp only [Nat.add_zero] at l0
            have k1 := run_str_ext (P := Try.prog) 23 5 9 Try.underlying23 Try.underlying5 Try.underlying9 (Rd.ofOwn ooW)
            have k2 := run_str_ext (P := Try.prog) 23 5 9 Try.underlying23 Try.underlying5 Try.underlying9 (hpr.below hBW)
            clear ogV hrV oo hBV BW hlc hca hgc A
            have hW' := hW.symm
            clear hW
            have z1 : ((6 + p.n : Nat) : Int) = (p.n : Int) + 6 := by omega
            rw [z1]
            go_wp2_with fail
            clear hW' z1
            obtain ⟨Wd, hWd⟩ : ∃ Wd : World, Wd = { W with drawn := W.drawn + 1 } := ⟨_, rfl⟩
            have kk1 := k1 Wd (by rw [hWd]; exact ⟨rfl, rfl, rfl, Nat.le_refl _, fun _ _ => rfl⟩)
            have kk2 := k2 Wd (by rw [hWd]; exact ⟨rfl, rfl, rfl, Nat.le_refl _, fun _ _ => rfl⟩)
            have eW : W.drew = Wd := hWd.symm
            have ogW := ogW.drew
            rw [eW] at ogW
            have hrW := hrW.below ((Below.refl _ W).drew)
            rw [eW] at hrW
            have hBW := hBW.drew
            rw [eW] at hBW
            change W.drew.cell? _ = _ at d0
            rw [eW] at d0
            change W.drew.cell? _ = _ at d1
            rw [eW] at d1
            change W.drew.cell? _ = _ at d2
            rw [eW] at d2
            change W.drew.cell? _ = _ at d3
            rw [eW] at d3
            change W.drew.cell? _ = _ at d4
            rw [eW] at d4
            change W.drew.cell? _ = _ at d5
            rw [eW] at d5
            change W.drew.cell? _ = _ at l0
            rw [eW] at l0
            change W.drew.cell? _ = _ at l1
            rw [eW] at l1
            change W.drew.cell? _ = _ at l2
            rw [eW] at l2
            change W.drew.cell? _ = _ at l3
            rw [eW] at l3
            change W.drew.cell? _ = _ at l4
            rw [eW] at l4
            change W.drew.cell? _ = _ at l5
            rw [eW] at l5
            clear eW
            have P1 := hid hG
            have P2 := hid hgl
            have P5 := hid p5
            have P3 := hid hlen
            have P4 := hid hrest
            have P6 := hid p6
            clear k1 k2 hG hlen hrest hpr hpb p1 p2 p3 p4 p6 Bd hj0 hi hz0 hz1 hz2 hi' hz0' hz1' hz2' t1 t0
            have s1 : IntKind.i64.wrap ((p.n : Int) + 6) = (p.n : Int) + 6 := IntWalk.i64_in _ (by omega)
            have t3 : ((m : Int) < (G.length : Int)) := by omega
            have t4 : m < G.length := by omega
            clear p5
            refine wp_region_still_lit (by kernel_rfl) (by kernel_rfl) ?_
            rw [← hWd]
            clear hWd
            repeat still_step
            refine wpStill_nil ?_
            change Exit.then _ _ Exit.normal _ Wd
            have P3' := P3.out
            have v1 : ((p.n : Int) + 6) ≤ (rn : Int) := by omega
            have v2 : ((p.n : Int) + 6).toNat = p.n + 6 := by omega
            have v3 : (0 : Int) ≤ (p.n : Int) + 6 := by omega
            clear P3' d0 d1 d2 d3 d4 d5 l0 l1 l2 l3 l4 l5 kk1 kk2 s1
            go_wp2_with fail
            go_roundw
            case rel =>
              have hs := hrW.sub (p.n + 6) (rn - (p.n + 6)) (by omega)
              have h1 : ((vb (p.enc ++ (encs (G.drop (m + 1)) ++ js))).drop (p.n + 6)).take (rn - (p.n + 6)) = vb (encs (G.drop (m + 1)) ++ js) := by
                rw [vb_drop, vb_take]
                congr 1
                have hpl : p.enc.length = p.n + 6 := by rw [Pk.enc_len, P6.out]; omega
                rw [← hpl, List.drop_left, List.take_of_length_le (by rw [hpl]; have := P3.out; omega)]
              rw [h1] at hs
              have hle := hrW.le
              refine ⟨m + 1, (if rc = p.n + 6 then some ⟨rb, ro, none⟩ else some ⟨rb, ro + (p.n + 6), none⟩), rn - (p.n + 6), rc - (p.n + 6), by simp, by omega, rfl, ?_, ogW, hBW⟩
              by_cases hrc : rc = p.n + 6
              · rw [if_pos hrc]
                exact ⟨hs.len, hs.le, hs.max, (fun h => by cases h), fun h => by omega⟩
              · rw [if_neg hrc]
                exact hs
            case measure => simp [intOf]; omega
          · have hmg' : m = gn := by omega
            have t2 : ¬ ((m : Int) < (G.length : Int)) := by omega
            have hd : G.drop m = [] := by rw [hmg', hgl]; exact List.drop_length
            rw [hd] at hr
            change Rd wr ra rn rc (vb js) at hr
            clear hd og hgl hm hmg hmg'
            go_wp2_with fail
            obtain ⟨W, hW⟩ : ∃ W, W = wr.alloc (.cells #[.int .u8 170, .int .u8 187] 5) := ⟨_, rfl⟩
            have BW := below_alloc wr (.cells #[.int .u8 170, .int .u8 187] 5)
            have ON := World.ownsRow_lit (base := wr.heap.size) (e := 5) (size := 1) wr #[.int .u8 170, .int .u8 187] 2 (Nat.le_refl _) (by unfold maxLen; omega) rfl
            rw [← hW] at BW ON ⊢
            refine (encode_ok false false 5 3 7 _ 2 2 [170, 187] _ (Rd.ofOwn ON) (by decide) (by decide) (by decide) (by decide) (by decide)).mono ?_
            rintro e V1 ⟨ea, ec, rfl, oe, Be⟩
            have BV := hB.trans ((BW.trans (Be.mono BW.size)).mono hB.size)
            have k1 := run_str_ext (P := Try.prog) 23 5 9 Try.underlying23 Try.underlying5 Try.underlying9 (hr.below (BW.trans (Be.mono BW.size)))
            have k2 := run_str_ext (P := Try.prog) 23 5 9 Try.underlying23 Try.underlying5 Try.underlying9 (hj0.below BV)
            have k3 := run_str_ext (P := Try.prog) 23 5 9 Try.underlying23 Try.underlying5 Try.underlying9 (Rd.ofOwn oe)
            have kk1 := k1 V1 ⟨rfl, rfl, rfl, Nat.le_refl _, fun _ _ => rfl⟩
            have kk2 := k2 V1 ⟨rfl, rfl, rfl, Nat.le_refl _, fun _ _ => rfl⟩
            have kk3 := k3 V1 ⟨rfl, rfl, rfl, Nat.le_refl _, fun _ _ => rfl⟩
            have hs : strB (encB false false 5 3 7 [170, 187]) = { data := #[0, 5, 192, 7, 0, 1, 170, 187] } := by rfl
            rw [hs] at kk3
            clear k1 k2 k3 oe ON hr hj0 hW BW Be hB t2
            go_wp2_with fail
            go_ret
            exact ⟨rfl, BV⟩
      · have t1 : (k : Int) < (ln : Int) := by omega
        have t0 : ¬ ((k : Int) < 30) := by omega
        clear hl0 h1 h2 hlt hk hrn
        go_wp2_with (at_builtin; refine hold ?_)
        unfold Hid
        refine wpList_append_rd_wide rfl _ _ 23 rfl w0.heap.size 5 i0 (.int .u8 0) 1 Try.underlying23 hi hz0 hz1 hz2 rfl ra rn rc _ rfl or0 ja jn jc _ rfl (hj0.below hB) (vb_oneCell _) (by omega) (by unfold maxLen; omega) hB.size ?_
        intro ra1 rc1 X1 or1 gr1 b1
        rw [← vb_append] at or1
        have hBx := hB.trans b1
        have og1 := og0.kept gr1 (own_apart og0 or0 (by decide))
        clear or0 og0 gr1 b1 hB
        have hr1 := Rd.ofOwn or1
        clear or1
        go_wp2_with fail
        go_loopw [5, 10] (fun r i wx => ∃ (m : Nat) (ra : Option Addr) (rn rc : Nat), i = .int .i64 m ∧ m ≤ gn ∧ r = .slice ra rn rc ∧ Rd wx ra rn rc (vb (encs (G.drop m) ++ js)) ∧ wx.ownsRow w0.heap.size 29 6 (.slice ga gn gc) gn (cells G) ∧ Below w0.heap.size w0 wx) (fun _ i _ => gn - (intOf i).toNat)
        case atStart => exact ⟨0, ra1, _, rc1, rfl, by omega, rfl, hr1, og1, hBx⟩
        case round =>
          clear hr1 og1 hBx
          obtain ⟨m, ra, rn, rc, rfl, hm, rfl, hr, og, hB⟩ := hrel
          by_cases hmg : m < gn
          · have t2 : ((m : Int) < (gn : Int)) := by omega
            have hmG : m < G.length := by omega
            have hGm := hG G[m] (List.getElem_mem hmG)
            have hdrop : G.drop m = G[m] :: G.drop (m + 1) := List.drop_eq_getElem_cons hmG
            have henc : encs (G.drop m) ++ js = G[m].enc ++ (encs (G.drop (m + 1)) ++ js) := by rw [hdrop]; simp only [encs, List.flatMap_cons, List.append_assoc]
            rw [henc] at hr
            have hrest : AllB (encs (G.drop (m + 1)) ++ js) := by
              refine AllB.append ?_ hjb
              intro x hx
              simp only [encs, List.mem_flatMap] at hx
              obtain ⟨q, hq, hx⟩ := hx
              obtain ⟨_, q1, q2, q3, q4, q5, q6, q7⟩ := hG q (List.mem_of_mem_drop hq)
              exact enc_all _ _ _ _ _ _ q2 q3 q4 (by omega) q1 x hx
            obtain ⟨gb, hga⟩ : ∃ gb, ga = some ⟨gb, 0, none⟩ := by
              rcases og.2 with ⟨h, h0⟩ | ⟨g, cap, cur, h, _⟩
              · omega
              · cases h; exact ⟨_, rfl⟩
            subst hga
            have hgc := og.cells rfl
            have hca := cells_at G m hmG
            generalize G[m] = p at *
            clear hdrop henc hmG
            obtain ⟨hpr, hpb, p1, p2, p3, p4, p5, p6⟩ := hGm
            obtain ⟨rb, ro, rfl, _, _⟩ := hr.cell 0 (by have := hr.len; rw [vb_len, List.length_append, Pk.enc_len] at this; omega)
            have hlen : 6 + p.n + (encs (G.drop (m + 1)) ++ js).length = rn := by have := hr.len; rw [vb_len, List.length_append, Pk.enc_len, p6] at this; exact this
            have hgbl : gb < wr.heap.size := by
              rcases og.2 with ⟨h, _⟩ | ⟨g, cap, cur, h, _, hg, _⟩
              · cases h
              · cases h; exact (Array.getElem?_eq_some_iff.1 hg).1
            go_wp2_with fail
            refine (decode_enc _ rn rc p.up p.se p.ap p.pt p.ct p.ds (encs (G.drop (m + 1)) ++ js) wr hr hpb hrest p1 p2 p3 (by omega) (by omega)).mono ?_
            rintro e V ⟨ao, cc, rfl, oo, Bd⟩
            rw [p6] at oo ⊢
            have hBV := hB.trans (Bd.mono hB.size)
            have ogV := ownsRow_below og Bd
            have hrV := hr.below Bd
            clear hr og hB
            obtain ⟨W, hW⟩ : ∃ W, W = V.alloc (.cells #[.bool p.up, .bool p.se, .int .i64 p.ap, .int .i64 p.pt, .int .i64 p.ct, .slice ao p.n cc] 29) := ⟨_, rfl⟩
            have BW := below_alloc V (.cells #[.bool p.up, .bool p.se, .int .i64 p.ap, .int .i64 p.pt, .int .i64 p.ct, .slice ao p.n cc] 29)
            have A := heap_alloc_new V (.cells #[.bool p.up, .bool p.se, .int .i64 p.ap, .int .i64 p.pt, .int .i64 p.ct, .slice ao p.n cc] 29)
            rw [← hW] at BW A
            have d0 : W.cell? ⟨V.heap.size, 0, none⟩ = some (.bool p.up) := by rw [cell_of_row _ _ _ _ _ _ A]; rfl
            have d1 : W.cell? ⟨V.heap.size, 1, none⟩ = some (.bool p.se) := by rw [cell_of_row _ _ _ _ _ _ A]; rfl
            have d2 : W.cell? ⟨V.heap.size, 2, none⟩ = some (.int .i64 p.ap) := by rw [cell_of_row _ _ _ _ _ _ A]; rfl
            have d3 : W.cell? ⟨V.heap.size, 3, none⟩ = some (.int .i64 p.pt) := by rw [cell_of_row _ _ _ _ _ _ A]; rfl
            have d4 : W.cell? ⟨V.heap.size, 4, none⟩ = some (.int .i64 p.ct) := by rw [cell_of_row _ _ _ _ _ _ A]; rfl
            have d5 : W.cell? ⟨V.heap.size, 5, none⟩ = some (.slice ao p.n cc) := by rw [cell_of_row _ _ _ _ _ _ A]; rfl
            have ogW := ownsRow_below ogV BW
            have hrW := hrV.below BW
            have ooW := ownsRow_below oo BW
            have hBW := hBV.trans (BW.mono hBV.size)
            have hlc : ∀ j v, p.cells[j]? = some v → j < 6 → W.cell? ⟨gb, m * 6 + j, none⟩ = some v := by
              intro j v hv hj
              have h1 := ogW.cells (g := gb) rfl (m * 6 + j) v ((hca j hj).trans hv)
              rw [Addr.add_lit, Nat.zero_add] at h1
              exact h1
            have l0 := hlc 0 _ rfl (by decide)
            have l1 := hlc 1 _ rfl (by decide)
            have l2 := hlc 2 _ rfl (by decide)
            have l3 := hlc 3 _ rfl (by decide)
            have l4 := hlc 4 _ rfl (by decide)
            have l5 := hlc 5 _ rfl (by decide)
            simp only [Nat.add_zero] at l0
            have k1 := run_str_ext (P := Try.prog) 23 5 9 Try.underlying23 Try.underlying5 Try.underlying9 (Rd.ofOwn ooW)
            have k2 := run_str_ext (P := Try.prog) 23 5 9 Try.underlying23 Try.underlying5 Try.underlying9 (hpr.below hBW)
            clear ogV hrV oo hBV BW hlc hca hgc A
            have hW' := hW.symm
            clear hW
            have z1 : ((6 + p.n : Nat) : Int) = (p.n : Int) + 6 := by omega
            rw [z1]
            go_wp2_with fail
            clear hW' z1
            obtain ⟨Wd, hWd⟩ : ∃ Wd : World, Wd = { W with drawn := W.drawn + 1 } := ⟨_, rfl⟩
            have kk1 := k1 Wd (by rw [hWd]; exact ⟨rfl, rfl, rfl, Nat.le_refl _, fun _ _ => rfl⟩)
            have kk2 := k2 Wd (by rw [hWd]; exact ⟨rfl, rfl, rfl, Nat.le_refl _, fun _ _ => rfl⟩)
            have eW : W.drew = Wd := hWd.symm
            have ogW := ogW.drew
            rw [eW] at ogW
            have hrW := hrW.below ((Below.refl _ W).drew)
            rw [eW] at hrW
            have hBW := hBW.drew
            rw [eW] at hBW
            change W.drew.cell? _ = _ at d0
            rw [eW] at d0
            change W.drew.cell? _ = _ at d1
            rw [eW] at d1
            change W.drew.cell? _ = _ at d2
            rw [eW] at d2
            change W.drew.cell? _ = _ at d3
            rw [eW] at d3
            change W.drew.cell? _ = _ at d4
            rw [eW] at d4
            change W.drew.cell? _ = _ at d5
            rw [eW] at d5
            change W.drew.cell? _ = _ at l0
            rw [eW] at l0
            change W.drew.cell? _ = _ at l1
            rw [eW] at l1
            change W.drew.cell? _ = _ at l2
            rw [eW] at l2
            change W.drew.cell? _ = _ at l3
            rw [eW] at l3
            change W.drew.cell? _ = _ at l4
            rw [eW] at l4
            change W.drew.cell? _ = _ at l5
            rw [eW] at l5
            clear eW
            have P1 := hid hG
            have P2 := hid hgl
            have P5 := hid p5
            have P3 := hid hlen
            have P4 := hid hrest
            have P6 := hid p6
            clear k1 k2 hG hlen hrest hpr hpb p1 p2 p3 p4 p6 Bd hj0 hi hz0 hz1 hz2 hi' hz0' hz1' hz2' t1 t0
            have s1 : IntKind.i64.wrap ((p.n : Int) + 6) = (p.n : Int) + 6 := IntWalk.i64_in _ (by omega)
            have t3 : ((m : Int) < (G.length : Int)) := by omega
            have t4 : m < G.length := by omega
            clear p5
            refine wp_region_still_lit (by kernel_rfl) (by kernel_rfl) ?_
            rw [← hWd]
            clear hWd
            repeat still_step
            refine wpStill_nil ?_
            change Exit.then _ _ Exit.normal _ Wd
            have P3' := P3.out
            have v1 : ((p.n : Int) + 6) ≤ (rn : Int) := by omega
            have v2 : ((p.n : Int) + 6).toNat = p.n + 6 := by omega
            have v3 : (0 : Int) ≤ (p.n : Int) + 6 := by omega
            clear P3' d0 d1 d2 d3 d4 d5 l0 l1 l2 l3 l4 l5 kk1 kk2 s1
            go_wp2_with fail
            go_roundw
            case rel =>
              have hs := hrW.sub (p.n + 6) (rn - (p.n + 6)) (by omega)
              have h1 : ((vb (p.enc ++ (encs (G.drop (m + 1)) ++ js))).drop (p.n + 6)).take (rn - (p.n + 6)) = vb (encs (G.drop (m + 1)) ++ js) := by
                rw [vb_drop, vb_take]
                congr 1
                have hpl : p.enc.length = p.n + 6 := by rw [Pk.enc_len, P6.out]; omega
                rw [← hpl, List.drop_left, List.take_of_length_le (by rw [hpl]; have := P3.out; omega)]
              rw [h1] at hs
              have hle := hrW.le
              refine ⟨m + 1, (if rc = p.n + 6 then some ⟨rb, ro, none⟩ else some ⟨rb, ro + (p.n + 6), none⟩), rn - (p.n + 6), rc - (p.n + 6), by simp, by omega, rfl, ?_, ogW, hBW⟩
              by_cases hrc : rc = p.n + 6
              · rw [if_pos hrc]
                exact ⟨hs.len, hs.le, hs.max, (fun h => by cases h), fun h => by omega⟩
              · rw [if_neg hrc]
                exact hs
            case measure => simp [intOf]; omega
          · have hmg' : m = gn := by omega
            have t2 : ¬ ((m : Int) < (G.length : Int)) := by omega
            have hd : G.drop m = [] := by rw [hmg', hgl]; exact List.drop_length
            rw [hd] at hr
            change Rd wr ra rn rc (vb js) at hr
            clear hd og hgl hm hmg hmg'
            go_wp2_with fail
            obtain ⟨W, hW⟩ : ∃ W, W = wr.alloc (.cells #[.int .u8 170, .int .u8 187] 5) := ⟨_, rfl⟩
            have BW := below_alloc wr (.cells #[.int .u8 170, .int .u8 187] 5)
            have ON := World.ownsRow_lit (base := wr.heap.size) (e := 5) (size := 1) wr #[.int .u8 170, .int .u8 187] 2 (Nat.le_refl _) (by unfold maxLen; omega) rfl
            rw [← hW] at BW ON ⊢
            refine (encode_ok false false 5 3 7 _ 2 2 [170, 187] _ (Rd.ofOwn ON) (by decide) (by decide) (by decide) (by decide) (by decide)).mono ?_
            rintro e V1 ⟨ea, ec, rfl, oe, Be⟩
            have BV := hB.trans ((BW.trans (Be.mono BW.size)).mono hB.size)
            have k1 := run_str_ext (P := Try.prog) 23 5 9 Try.underlying23 Try.underlying5 Try.underlying9 (hr.below (BW.trans (Be.mono BW.size)))
            have k2 := run_str_ext (P := Try.prog) 23 5 9 Try.underlying23 Try.underlying5 Try.underlying9 (hj0.below BV)
            have k3 := run_str_ext (P := Try.prog) 23 5 9 Try.underlying23 Try.underlying5 Try.underlying9 (Rd.ofOwn oe)
            have kk1 := k1 V1 ⟨rfl, rfl, rfl, Nat.le_refl _, fun _ _ => rfl⟩
            have kk2 := k2 V1 ⟨rfl, rfl, rfl, Nat.le_refl _, fun _ _ => rfl⟩
            have kk3 := k3 V1 ⟨rfl, rfl, rfl, Nat.le_refl _, fun _ _ => rfl⟩
            have hs : strB (encB false false 5 3 7 [170, 187]) = { data := #[0, 5, 192, 7, 0, 1, 170, 187] } := by rfl
            rw [hs] at kk3
            clear k1 k2 k3 oe ON hr hj0 hW BW Be hB t2
            go_wp2_with fail
            go_ret
            exact ⟨rfl, BV⟩
end Go.Proofs.Ytbclokglkcbmkaa
