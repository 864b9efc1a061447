/- SolomonMends: the walk of the law. -/
import Derived.Test.YtendgihkjibbaaaMenP
import Derived.Test.YtendgihkjibbaaaSpoS
import Derived.Test.YtendgihkjibbaaaHoldS
import Derived.Test.YtendgihkjibbaaaFlat
import Derived.Deep.DeepCutAuto
namespace Go.Proofs.Ytendgihkjibbaaa
set_option linter.unusedVariables false
open Go.RowKit

theorem Try.info32 : (Try.prog.info? 32).map (fun i => (i.zero, i.size, i.bytes)) = some (some (.agg #[.int .i64 0, .int .i64 0]), 2, 16) := by kernel_rfl
def tcs (t : Int × Int) : List Value := [.int .i64 t.1, .int .i64 t.2]
theorem tcs_len (t : Int × Int) : (tcs t).length = 2 := rfl
/-- a turn's numbers are of 64 bits -/
def TW (t : Int × Int) : Prop := -9223372036854775808 ≤ t.1 ∧ t.1 ≤ 9223372036854775807 ∧ -9223372036854775808 ≤ t.2 ∧ t.2 ≤ 9223372036854775807
theorem rdturn_own {w : World} {B n c : Nat} {a : Option Addr} {fl : List (Int × Int)} (h : w.ownsRow B 32 2 (.slice a n c) n (fl.flatMap tcs)) (hl : fl.length = n) (hw : ∀ t, t ∈ fl → TW t) : RdTurn w a n c (fun j => fl.getD j (0, 0)) := by
  have hg : ∀ j, j < n → fl.getD j (0, 0) ∈ fl := fun j hj => by
    rw [List.getD_eq_getElem?_getD, List.getElem?_eq_getElem (by omega)]
    exact List.getElem_mem _
  rcases h.2 with ⟨h1, h2⟩ | ⟨g, cap, cur, h1, h2, h3, h4, h5, _⟩
  · cases h1
    exact ⟨Nat.le_refl _, Nat.zero_le _, fun h => by omega, fun j hj => by omega⟩
  · cases h1
    refine ⟨h4, h5, fun h0 => ⟨g, 0, rfl, (Array.getElem?_eq_some_iff.1 h3).1, fun j hj => ?_⟩, fun j hj => hw _ (hg j hj)⟩
    have e0 := own_flat tcs tcs_len h hl j hj 0 (by omega)
    have e1 := own_flat tcs tcs_len h hl j hj 1 (by omega)
    rw [List.getD_eq_getElem?_getD, List.getElem?_eq_getElem (by omega), Nat.zero_add]
    exact ⟨e0, e1⟩

set_option maxRecDepth 100000 in
set_option maxHeartbeats 4000000 in
theorem mends_walk (da ka ua : Option Addr) (dn dc kn kc un uc : Nat) (ck : Int) (ds : List Nat) (kt ut : Nat → Int × Int) (w : World) (hd : Rd w da dn dc (vb ds)) (hdb : AllB ds) (hk : RdTurn w ka kn kc kt) (hu : RdTurn w ua un uc ut)
    (hck0 : -9223372036854775808 ≤ ck) (hck1 : ck ≤ 9223372036854775807) (hdn : dn ≤ 140737488351232) (hkn : kn ≤ 8796093022208) (hun : un ≤ 8796093022000) :
    Calls Try.prog 3 #[.slice da dn dc, .int .i64 ck, .slice ka kn kc, .slice ua un uc] w fun e w' => e = .returned (.bool true) ∧ Below w.heap.size w w' := by
  obtain ⟨i0, hi, hz0, hz1, hz2⟩ := info_parts Try.info5
  obtain ⟨t0, hti, htz0, htz1, htz2⟩ := info_parts Try.info32
  have hp1 := pick_st ck (64 : Int) w hck0 hck1 (by omega) (by omega)
  have hpl := pk_lt ck (64 : Int).toNat (by decide)
  generalize pk ck (64 : Int).toNat = c' at *
  have hc' : c' < 64 := hpl
  clear hpl
  obtain ⟨c, hc⟩ : ∃ c, c = 1 + c' := ⟨_, rfl⟩
  have hcI : (1 : Int) + (c' : Int) = (c : Int) := by omega
  have hc1 : 1 ≤ c := by omega
  have hc64 : c ≤ 64 := by omega
  have hdl : ds.length = dn := by have := hd.len; rwa [vb_len] at this
  obtain ⟨dm, hdm⟩ : ∃ dm, dm = 1 + dn := ⟨_, rfl⟩
  have h7l : (7 :: ds).length = dm := by rw [List.length_cons]; omega
  have h7b : AllB (7 :: ds) := fun y hy => by
    rcases List.mem_cons.1 hy with e | e
    · omega
    · exact hdb y e
  have hdm1 : 1 ≤ dm := by omega
  have hdmM : dm ≤ 140737488351233 := by omega
  have b1 := below_alloc w (.cells #[.int .u8 ((7 : Nat) : Int)] 5)
  have hlit := rd_lit w 7
  go_enter Try.func3, Try.ntmps3
  have Hc := hid hc
  have HcI := hid hcI
  have Hdm := hid hdm
  clear hc hcI hdl hdm h7l
  go_wp2_with fail
  refine hp1.mono ?_
  rintro e w' ⟨rfl, rfl⟩
  go_wp2_with (at_builtin; refine hold ?_)
  rw [HcI.out]
  clear hc' hp1
  unfold Hid
  refine wpList_append_rd rfl _ _ 22 rfl w'.heap.size 5 i0 (.int .u8 0) 1 Try.underlying22 hi hz0 hz1 hz2 rfl (some ⟨w'.heap.size, 0, none⟩) 1 1 (vb [7]) rfl ?c1 da dn dc (vb ds) rfl (hd.below b1) (vb_oneCell _) (by omega) (by unfold maxLen; omega) (by simp) ?_
  case c1 => exact World.ownsRow_lit (base := w'.heap.size) (e := 5) (size := 1) w' #[.int .u8 ((7 : Nat) : Int)] 1 (Nat.le_refl _) (by decide) rfl
  intro ga gc W1 o1 gr B
  rw [← vb_append] at o1
  rw [← Hdm.out] at o1 ⊢
  have o1 : W1.ownsRow w'.heap.size 5 1 (.slice ga dm gc) dm (vb (7 :: ds)) := o1
  obtain ⟨gb, rfl, g1, g2⟩ := some_own o1 (by omega)
  clear g1 g2
  have h1R := Rd.ofOwn o1
  have B1 := b1.trans B
  clear gr B b1 hlit o1 hdn Hdm Hc
  have hk1 := hk.below B1
  have hu1 := hu.below B1
  clear hk hu hd
  go_upto_if 32 with (fail)
  go_cut [10] (fun v wx => ∃ (n1 nc : Nat) (d : List Nat), v = .slice (some ⟨gb, 0, none⟩) n1 nc ∧ 1 ≤ n1 ∧ n1 + c ≤ 255 ∧ Rd wx (some ⟨gb, 0, none⟩) n1 nc (vb d) ∧ AllB d ∧ wx = W1)
  case first =>
    by_cases h0 : dm + c ≤ 255
    · go_wp2_with fail
      go_meet
      exact ⟨dm, gc, 7 :: ds, rfl, hdm1, h0, h1R, h7b, rfl⟩
    · have e2 : ((255 : Int) - (c : Int)).toNat = 255 - c := by omega
      have e3 := h1R.le
      have hq := h1R.take (255 - c) (by omega)
      rw [vb_take] at hq
      go_wp2_with fail
      go_meet
      exact ⟨255 - c, gc, _, rfl, by omega, by omega, hq, h7b.take _, rfl⟩
  case rest =>
    obtain ⟨n1, nc, d, rfl, hn1, hn1c, hD, hdb1, rfl⟩ := hcut
    clear h1R o1 h7b hdm1 hdmM
    have hxl := encw_len d c (by omega)
    have hdl : d.length = n1 := by have := hD.len; rwa [vb_len] at this
    have hnC := hid (encw_nought d c hdb1 (by omega))
    have htk := hid (encw_take d c)
    have hCb := encw_allb d c hdb1
    rw [hdl] at hxl
    obtain ⟨n, hn⟩ : ∃ n, n = n1 + c := ⟨_, rfl⟩
    have hcv0 := fun W (hW : Below wc.heap.size wc W) => run_str_ext (P := Try.prog) 22 5 9 Try.underlying22 Try.underlying5 Try.underlying9 (hD.below hW)
    have henc := enc_ok _ n1 nc c d wc hD hdb1 hc1 hc64 hn1 hn1c
    rw [← hn] at henc hxl
    have hns : ((n1 : Int) + (c : Int)) = (n : Int) := by omega
    have Hn := hid hn
    have hn255 : n ≤ 255 := by omega
    have hcn : c < n := by omega
    have Hxl := hid hxl
    have Hdl := hid hdl
    generalize encw d c = C at *
    clear hn hxl hdl
    go_wp2_with fail
    refine henc.mono ?_
    rintro e W2 ⟨xa, xc, rfl, ox, B2⟩
    have hx2 := Rd.ofOwn ox
    have hD2 := hD.below B2
    have hk2 := hk1.below B2
    have hu2 := hu1.below B2
    have B2 := B1.trans (B2.mono B1.size)
    clear ox henc hk1 hu1 hD
    have hsp := spoilt_ok xa ka n xc kn kc c C kt W2 hx2 hCb hk2 (by omega) hn255 (by omega) (by omega)
    go_wp2_with fail
    refine hsp.mono ?_
    rintro e V ⟨oa, oc, aa, ac, s1, a1, rfl, hS1, hA1, hSp1, BV⟩
    have hD3 := hD2.below BV
    have hu3 := hu2.below BV
    have BV := B2.trans (BV.mono B2.size)
    have hal := hSp1.cnt
    have hs1b := hSp1.all
    have HSp1 := hid hSp1
    obtain ⟨h, hh⟩ : ∃ h, h = a1.length := ⟨_, rfl⟩
    have Hh := hid hh
    rw [← hh] at hA1 hal ⊢
    clear hsp hSp1 hk2 hu2 hD2 hx2 B2 hh
    go_wp2
    go_loopw [15, 16] (fun fv i wr => ∃ (k fc : Nat) (fa : Option Addr) (fl : List (Int × Int)), k ≤ un ∧ i = .int .i64 k ∧ fv = .slice fa fl.length fc ∧ fl.length ≤ k ∧
      wr.ownsRow V.heap.size 32 2 (.slice fa fl.length fc) fl.length (fl.flatMap tcs) ∧ Hid (∀ t, t ∈ fl → TW t ∧ pk t.1 n ∉ a1) ∧ Below V.heap.size V wr) (fun _ i _ => un - (intOf i).toNat)
    case atStart => exact ⟨0, 0, none, [], by omega, rfl, rfl, Nat.le_refl _, World.ownsRow_nil _ _ _ _, fun t ht => by simp at ht, Below.refl _ _⟩
    case round =>
      obtain ⟨k, fc, fa, fl, hk, rfl, rfl, hfl, ho, hF, hB⟩ := hrel
      by_cases hlt : k < un
      · obtain ⟨tb, toff, rfl, htlt, htc⟩ := (hu3.below hB).mem (by omega)
        obtain ⟨tc1, tc2⟩ := htc k hlt
        obtain ⟨tw1, tw2, tw3, tw4⟩ := hu3.wf k hlt
        have HTW : Hid (TW (ut k)) := ⟨tw1, tw2, tw3, tw4⟩
        have hpick := fun W => pick_st (ut k).1 (n : Int) W tw1 tw2 (by omega) (by omega)
        simp only [Int.toNat_natCast] at hpick
        have hp := pk_lt (ut k).1 n (by omega)
        have Hgood : Hid (pk (ut k).1 n ∉ a1 → ∀ t, t ∈ fl ++ [ut k] → TW t ∧ pk t.1 n ∉ a1) := fun hnot t ht => by
          rcases List.mem_append.1 ht with h1 | h1
          · exact hF.out t h1
          · rw [List.mem_singleton.1 h1]; exact ⟨HTW.out, hnot⟩
        have Hfm : Hid ((fl ++ [ut k]).flatMap tcs = fl.flatMap tcs ++ [.int .i64 (ut k).1, .int .i64 (ut k).2]) := by show _ = _; rw [flat_snoc]; rfl
        clear htc
        generalize hpe : pk (ut k).1 n = p at *
        have Hpe := hid hpe
        clear hpe
        generalize ht1 : (ut k).1 = t1 at *
        have Ht1 := hid ht1
        clear ht1
        generalize ht2 : (ut k).2 = t2 at *
        have Ht2 := hid ht2
        clear ht2
        have hA4 := hA1.below hB
        have hinn : Hid (∀ x, x ∈ a1 → x < n) := HSp1.out.lt
        go_wp2
        obtain ⟨W6, rfl⟩ : ∃ W, W = wr := ⟨_, rfl⟩
        go_loopw [17, 18] (fun kn i wq => ∃ q : Nat, q ≤ h ∧ i = .int .i64 q ∧ kn = .bool (inTo p a1 q) ∧ Below W6.heap.size W6 wq) (fun _ i _ => h - (intOf i).toNat)
        case atStart => exact ⟨0, by omega, rfl, by rw [inTo_zero], Below.refl _ _⟩
        case round =>
          obtain ⟨q, hq, rfl, rfl, hBq⟩ := hrel
          have tcq1 : wr.cell? ⟨tb, toff + k * 2, none⟩ = some (.int .i64 t1) := (hBq.cell (p := ⟨tb, toff + k * 2, none⟩) htlt).trans tc1
          have tcq2 : wr.cell? ⟨tb, toff + k * 2 + 1, none⟩ = some (.int .i64 t2) := (hBq.cell (p := ⟨tb, toff + k * 2 + 1, none⟩) htlt).trans tc2
          have hku : (k : Int) < (un : Int) := by omega
          by_cases hlq : q < h
          · have hBd : Below W6.heap.size W6 wr.drew := hBq.drew
            have hqh : (q : Int) < (h : Int) := by omega
            have hqa : q < a1.length := by rw [← Hh.out]; exact hlq
            cases hin : inTo p a1 q
            · have Hn := hid (inTo_no hqa hin)
              have hu256 := hinn.out _ (show nth a1 q ∈ a1 by rw [nth_get hqa]; exact List.getElem_mem _)
              obtain ⟨xb, xo, rfl, hxlt, hxc⟩ := (hA4.below hBq).celli q hlq
              clear hin
              generalize hkn : inTo p a1 (q + 1) = kn at *
              have Hkn := hid hkn
              clear hkn
              generalize nth a1 q = u at *
              have Hd : Hid (((u : Int) == (p : Int)) = kn) := by
                show _ = _
                rw [Hn.out]
                by_cases hup : u = p
                · rw [decide_eq_true hup]; simp; omega
                · rw [decide_eq_false hup]; simp; omega
              clear Hn
              go_wp2
              refine wp_region_still_lit (by kernel_rfl) (by kernel_rfl) ?_
              repeat still_step
              still_call (hpick _)
              repeat still_step
              refine wpStill_nil ?_
              go_wp2
              go_roundw
              case rel => exact ⟨q + 1, by omega, by go_num, by rw [Hkn.out, ← Hd.out], hBd⟩
              case measure => simp [intOf]; omega
            · have Hn := hid (inTo_yes hqa hin)
              clear hin
              go_wp2
              refine wp_region_can_all [13] [0, 1, 2, 3, 4, 5, 6, 7, 8, 9, 10, 11, 12, 13, 14, 15, 16] (Below wr.heap.size) (fun _ => Below.refl _ _) (fun _ _ _ h k => h.trans k) (by kernel_rfl) (by kernel_rfl) ?_
              simp only [List.map_cons, List.map_nil, List.contains_cons, List.contains_nil, List.getD_cons_zero, List.getD_cons_succ, Nat.reduceBEq, Bool.or_false]
              (refine wpL_do rfl (fun w' hw' => (by go_simp; rfl)) ?_; simp only [Act.put, List.setIfInBounds_toArray, List.set_cons_succ, List.set_cons_zero])
              ((with_reducible refine wpL_do (v := .bool true) ?_ (fun w' hw' => ?_) ?_); (· rfl); (· rfl); simp only [Act.put, List.setIfInBounds_toArray, List.set_cons_succ, List.set_cons_zero])
              iterate 11 ((with_reducible refine wpL_pass ?_ ?_); (· rfl); simp only [Act.put, List.setIfInBounds_toArray, List.set_cons_succ, List.set_cons_zero])
              ((with_reducible refine wpL_hush ?_ (Below.refl _ _) ?_); (· rfl); simp only [Act.put, List.setIfInBounds_toArray, List.set_cons_succ, List.set_cons_zero])
              ((with_reducible refine wpL_pass ?_ ?_); (· rfl); simp only [Act.put, List.setIfInBounds_toArray, List.set_cons_succ, List.set_cons_zero])
              repeat (refine wpL_do rfl (fun w' hw' => (by go_simp; rfl)) ?_; simp only [Act.put, List.setIfInBounds_toArray, List.set_cons_succ, List.set_cons_zero])
              refine wpL_nil ?_
              go_wp2
              go_roundw
              case rel => exact ⟨q + 1, by omega, by go_num, by rw [Hn.out], hBd⟩
              case measure => simp [intOf]; omega
          · obtain rfl : h = q := by omega
            have Hall := hid (inTo_all p a1)
            have ho2 := ownsRow_below ho hBq
            have hB2 := hB.trans (hBq.mono hB.size)
            rw [← Hh.out] at Hall
            cases hin : inTo p a1 h
            · have hnot : Hid (p ∉ a1) := fun hx => by have := Hall.out.2 hx; rw [hin] at this; cases this
              clear hin Hall ho
              have b1 := below_alloc wr (.cells #[.int .i64 t1, .int .i64 t2] 32)
              have hnew : ∀ (j : Nat) (x : Value), [Value.int .i64 t1, .int .i64 t2][j]? = some x → (wr.alloc (.cells #[.int .i64 t1, .int .i64 t2] 32)).cell? ((⟨wr.heap.size, 0, none⟩ : Addr).add j) = some x := new_cells wr [.int .i64 t1, .int .i64 t2] 32
              have hVs := hB2.size
              have o3 := ownsRow_below ho2 b1
              have Hgood2 := hid (Hgood.out hnot.out)
              go_wp2_with (at_builtin; refine hold ?_)
              unfold Hid
              refine wpList_append_own _ rfl _ _ 23 rfl V.heap.size 32 t0 _ 2 16 Try.underlying23 hti htz0 htz1 htz2 rfl (by decide) (.slice fa fl.length fc) fl.length (fl.flatMap tcs) rfl o3 ⟨wr.heap.size, 0, none⟩ 1 1 [.int .i64 t1, .int .i64 t2] rfl rfl hnew (by simp [Value.oneCell']) (by unfold maxLen; omega) (by omega) (by simp; omega) ?_
              intro v' W7 o7 g7 _
              obtain ⟨f2, fc2, rfl, _, _⟩ := own_slice o7
              obtain ⟨_, _, _, _, hob⟩ := own_slice o3
              have B7 := (b1.mono hVs).grown g7 (by simp; omega) hob
              have hB7 := hB2.trans B7
              rw [← Hfm.out] at o7
              have hfl2 : fl.length + 1 = (fl ++ [ut k]).length := by rw [List.length_append]; rfl
              have hfk : fl.length + 1 ≤ k + 1 := by omega
              clear hob B7 g7 o3 b1 hnew hVs ho2 Hfm Hgood hF
              rw [hfl2] at o7 hfk ⊢
              clear hfl2
              generalize fl ++ [ut k] = fl2 at *
              have O7 := hid o7
              have HFK := hid hfk
              clear o7 hfk
              go_wp2
              go_roundw
              case rel => exact ⟨k + 1, fc2, f2, fl2, by omega, by go_num, rfl, HFK.out, O7.out, Hgood2, hB7⟩
              case measure => simp [intOf]; omega
            · clear hin Hall
              go_wp2
              go_roundw
              case rel => exact ⟨k + 1, fc, fa, fl, by omega, by go_num, rfl, by omega, ho2, hF, hB2⟩
              case measure => simp [intOf]; omega
      · obtain rfl : un = k := by omega
        have hfR := rdturn_own ho rfl (fun t ht => (hF.out t ht).1)
        have Hfree : Hid (∀ j, j < fl.length → pk ((fun j => fl.getD j (0, 0)) j).1 n ∉ a1) := fun j hj => (hF.out _ (by
          show fl.getD j (0, 0) ∈ fl
          rw [List.getD_eq_getElem?_getD, List.getElem?_eq_getElem hj]
          exact List.getElem_mem _)).2
        generalize (fun j => fl.getD j ((0, 0) : Int × Int)) = fts at *
        have hS2 := hS1.below hB
        have hA2 := hA1.below hB
        have hD4 := hD3.below hB
        have BB := BV.trans (hB.mono BV.size)
        obtain ⟨m, hm⟩ : ∃ m, m = (c - h) / 2 := ⟨_, rfl⟩
        have hq : ((c : Int) - (h : Int)).tdiv 2 = (m : Int) := by
          rw [Int.tdiv_eq_ediv_of_nonneg (by omega)]
          omega
        have Hm := hid hm
        have hm100 : m ≤ 100 := by omega
        have hsp2 := spoilt_ok oa fa n oc fl.length fc m s1 fts wr hS2 hs1b hfR (by omega) hn255 (by omega) (by omega)
        clear hm hfR ho hF hS1 hA1 hD3 hu3 BV hB hS2
        generalize fl.length = fn at *
        go_wp2_with fail
        refine hsp2.mono ?_
        rintro e W3 ⟨ob, occ, ab, abc, s2, a2, rfl, hS3, hA3, hSp2, B3⟩
        have hA4 := hA2.below B3
        have hD5 := hD4.below B3
        have B4 := BB.trans (B3.mono BB.size)
        have hs2b := hSp2.all
        have hin1 : ∀ x, x ∈ a1 → x < n := HSp1.out.lt
        have hlaw := mends_law C s2 c n a1 a2 hCb hs2b Hxl.out hSp2.len hn255 hc1 hcn hnC.out hin1 hSp2.lt (by
            rw [List.nodup_append]
            refine ⟨HSp1.out.nd, hSp2.nd, fun p hp q hq e => ?_⟩
            obtain ⟨j, hj, hjp⟩ := hSp2.src q hq
            exact Hfree.out j hj (by rw [← hjp, ← e]; exact hp)) (by
            have := hSp2.cnt
            have := Hm.out
            have := Hh.out
            omega) (fun p hp => by
            rw [List.mem_append, ← HSp1.out.dif p, ← hSp2.dif p]
            by_cases h1 : nth s1 p = nth C p
            · rw [h1]
              exact ⟨.inr, fun h => h.elim (fun h => absurd rfl h) id⟩
            · have h2 : nth s2 p = nth s1 p := by
                rcases Nat.decEq (nth s2 p) (nth s1 p) with hh | hh
                · exfalso
                  obtain ⟨j, hj, hjp⟩ := hSp2.src p ((hSp2.dif p).1 hh)
                  exact Hfree.out j hj (by rw [← hjp]; exact (HSp1.out.dif p).1 h1)
                · exact hh
              rw [h2]
              exact ⟨.inl, fun h => h.elim id (fun h => absurd rfl h)⟩)
        obtain ⟨at_, hdec, hatl⟩ := hlaw
        have htd : C.take (n - c) = d := by
          have h1 := htk.out
          rw [Hdl.out] at h1
          rwa [show n - c = n1 by have := Hn.out; omega]
        rw [htd] at hdec
        have hdk := dec_ok ob aa n occ h ac c s2 a1 W3 hS3 hs2b hc1 hc64 hcn hn255 hA4 hin1 hal (fun u hu => held_ok aa h ac n a1 u (hA4.below hu) hin1 HSp1.out.nd (by omega) (by omega))
        rw [hdec, show n - c = n1 by have := Hn.out; omega] at hdk
        have hatI : (at_.length : Int) = (h : Int) + (a2.length : Int) := by
          have := Hh.out
          omega
        have hbn : a2.length ≤ 100 := by have := hSp2.cnt; omega
        have hatE : ((at_.length : Int) == (h : Int) + (a2.length : Int)) = true := by simp; omega
        have hatE := hid hatE
        clear hatl hatI
        clear hdec htd hS3 hA4 hA3 hs2b hSp2 Hfree Hm hsp2 hq hm100 BB hA2 hD4
        generalize a2.length = bn at *
        go_wp2_with fail
        refine hdk.mono ?_
        rintro e W5 ⟨⟨ra, rk, ba, bk, rfl, hG, hAt⟩, B5⟩
        have hD6 := hD5.below B5
        have B6 := B4.trans (B5.mono B4.size)
        have hcv1 := run_str_ext (P := Try.prog) 22 5 9 Try.underlying22 Try.underlying5 Try.underlying9 hG W5 (Ext.refl _)
        have hcv2 := run_str_ext (P := Try.prog) 22 5 9 Try.underlying22 Try.underlying5 Try.underlying9 hD6 W5 (Ext.refl _)
        simp only at hcv1 hAt
        generalize strB d = sd at *
        clear hdk hD5 B4 B5
        go_wp2
        go_ret
        exact ⟨rfl, B6⟩
end Go.Proofs.Ytendgihkjibbaaa
