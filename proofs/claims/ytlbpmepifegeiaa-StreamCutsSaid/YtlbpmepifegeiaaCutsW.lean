/- StreamCuts: the walk. -/
import Derived.Test.YtlbpmepifegeiaaLawS
import Derived.Test.YtlbpmepifegeiaaLawQ
import Derived.Test.YtlbpmepifegeiaaPick
import Derived.Test.YtlbpmepifegeiaaRegion
import Derived.Test.YtlbpmepifegeiaaRegionT
import Derived.Test.YtlbpmepifegeiaaListenB
import Derived.Deep.DeepCutAuto
namespace Go.Proofs.Ytlbpmepifegeiaa
set_option linter.unusedVariables false
set_option linter.unusedSimpArgs false
open Go.RowKit

theorem own_news4 {w : World} {B g n c : Nat} {xs : List Value} (h : w.ownsRow B 35 4 (.slice (some ⟨g, 0, none⟩) n c) n xs) : ∀ j u, xs[j]? = some u → w.cell? ((⟨g, 0, none⟩ : Addr).add j) = some u := by
  intro j u hj
  rw [Addr.add_lit, Nat.zero_add]
  have hlt := (List.getElem?_eq_some_iff.1 hj).1
  have := h.1
  rw [h.cellAt j (by omega)]
  exact hj
theorem fcs_one (F : List Fd) : ∀ u ∈ fcs F, u.oneCell' = true := by
  intro u hu
  obtain ⟨f, _, hf⟩ := List.mem_flatMap.1 hu
  simp [Fd.cells] at hf
  rcases hf with rfl | rfl | rfl | rfl <;> rfl
theorem fcs_app (F G : List Fd) : fcs (F ++ G) = fcs F ++ fcs G := by simp [fcs]
theorem fourE {W : World} {b e : Nat} {r0 r1 r2 r3 : Value} (h : W.heap[b]? = some (.cells #[r0, r1, r2, r3] e)) (x0 x1 x2 x3 : Value) :
    ((((W.setCell ⟨b, 0, none⟩ x0).setCell ⟨b, 1, none⟩ x1).setCell ⟨b, 2, none⟩ x2).setCell ⟨b, 3, none⟩ x3).heap[b]? = some (.cells #[x0, x1, x2, x3] e) ∧ W.grownBy ((((W.setCell ⟨b, 0, none⟩ x0).setCell ⟨b, 1, none⟩ x1).setCell ⟨b, 2, none⟩ x2).setCell ⟨b, 3, none⟩ x3) (some b) := by
  obtain ⟨h0, g0⟩ := set_row h 0 x0 rfl
  obtain ⟨h1, g1⟩ := set_row h0 1 x1 rfl
  obtain ⟨h2, g2⟩ := set_row h1 2 x2 rfl
  obtain ⟨h3, g3⟩ := set_row h2 3 x3 rfl
  exact ⟨h3, grownBy_trans (grownBy_trans (grownBy_trans g0 g1) g2) g3⟩
theorem cut3 {F : World → Nat → Nat → Prop} {A : Prop} (G : World → Nat → Nat → Prop) (h1 : (∀ V a b, F V a b → G V a b) → A) (h2 : ∀ V a b, F V a b → G V a b) : A := h1 h2
/-- two frames lie in boxes -/
structure TwoF (B0 : Nat) (U V : World) (N1 N2 : Nat) (pos : Nat) (tu : Bool) (mi : Nat) (pda : Option Addr) (pdn pdc : Nat) (qda : Option Addr) (qdn qdc : Nat) : Prop where
  blw : Below B0 U V
  one : V.heap[N1]? = some (.cells #[.int .i64 (pos : Int), .bool tu, .int .i64 (mi : Int), .slice pda pdn pdc] 35)
  two : V.heap[N2]? = some (.cells #[.int .i64 (pos : Int), .bool tu, .int .i64 (mi : Int), .slice qda qdn qdc] 35)
/-- the pieces so far -/
structure CutI (w wr : World) (bs : List Nat) (va : Option Addr) (k vc : Nat) (hs : List Hd) (pss : List (List Nat)) (ra : Option Addr) (rn rc : Nat) (rest : List Nat) : Prop where
  blw : Below w.heap.size w wr
  row : wr.ownsRow w.heap.size 24 1 (.slice va k vc) k (hs.map hv)
  each : All2 (fun (h : Hd) ps => Rd w h.1 h.2.1 h.2.2 (vb ps) ∧ AllB ps) hs pss
  rd : Rd w ra rn rc (vb rest)
  all : pss.flatten ++ rest = bs
  rb : AllB rest
  form : ∀ ad, ra = some ad → ∃ b o, ad = ⟨b, o, none⟩
theorem CutI.next {w wr V6 : World} {bs : List Nat} {va va' : Option Addr} {k vc vc' : Nat} {hs : List Hd} {pss : List (List Nat)} {ra : Option Addr} {rn rc : Nat} {rest : List Nat} (h : CutI w wr bs va k vc hs pss ra rn rc rest) {o : Obj} (b5 : Below wr.heap.size wr (wr.alloc o))
    {n : Nat} {hd hr : Hd} (oA : V6.ownsRow w.heap.size 24 1 (.slice va' (k + 1) vc') (k + 1) (hs.map hv ++ [hv hd])) (gA : (wr.alloc o).grownBy V6 (Value.slice va k vc).ownBlock) (hn : n ≤ rn)
    (p1 : Rd w hd.1 hd.2.1 hd.2.2 (vb (rest.take n))) (p2 : Rd w hr.1 hr.2.1 hr.2.2 (vb (rest.drop n))) (hf : ∀ ad, hr.1 = some ad → ∃ b o, ad = ⟨b, o, none⟩) :
    CutI w V6 bs va' (k + 1) vc' (hs ++ [hd]) (pss ++ [rest.take n]) hr.1 hr.2.1 hr.2.2 (rest.drop n) := by
  have b6 := h.blw.trans (b5.mono h.blw.size)
  refine ⟨b6.grown gA b6.size (fun j hj => (h.row.lt j hj).1), by rw [List.map_append]; exact oA, forall2_snoc h.each ⟨p1, h.rb.take n⟩, p2, ?_, h.rb.drop n, hf⟩
  rw [List.flatten_append, List.append_assoc]
  simp only [List.flatten_cons, List.flatten_nil, List.append_nil]
  rw [List.take_append_drop]
  exact h.all

set_option maxRecDepth 100000 in
set_option maxHeartbeats 4000000 in
theorem cuts_ok (r0 r1 r2 r3 : Int) (h0 : I64 r0) (h1 : I64 r1) (h2 : I64 r2) (h3 : I64 r3) (ba : Option Addr) (bn bc : Nat) (bs : List Nat) (ca : Option Addr) (cn cc : Nat) (cs : List Int) (w : World)
    (hb : Rd w ba bn bc (vb bs)) (hbb : AllB bs) (hbn : bn ≤ 140737488351232) (hc : Rd w ca cn cc (vz cs)) (hcb : ∀ z ∈ cs, I64 z) :
    Calls Try.prog 3 #[.agg #[.int .i64 r0, .int .i64 r1, .int .i64 r2, .int .i64 r3], .slice ba bn bc, .slice ca cn cc] w fun e w' => e = .returned (.bool true) ∧ Below w.heap.size w w' := by
  obtain ⟨i5, hi5, hz5, hs5, hb5⟩ := info_parts Try.info5
  obtain ⟨i24, hi24, hz24, hs24, hb24⟩ := info_parts Try.info24
  have hbl : bs.length = bn := by have := hb.len; rwa [vb_len] at this
  have bx := below_alloc w (.cells #[.int .i64 r0, .int .i64 r1, .int .i64 r2, .int .i64 r3] 23)
  have hx := heap_alloc_new w (.cells #[.int .i64 r0, .int .i64 r1, .int .i64 r2, .int .i64 r3] 23)
  go_enter Try.func3, Try.ntmps3
  go_wp2_with (at_builtin; refine hold ?_)
  unfold Hid
  obtain ⟨W0, hW0⟩ : ∃ W0, W0 = w.alloc (.cells #[.int .i64 r0, .int .i64 r1, .int .i64 r2, .int .i64 r3] 23) := ⟨_, rfl⟩
  rw [← hW0] at bx hx ⊢
  clear hW0
  obtain ⟨b, hbx⟩ : ∃ b, b = w.heap.size := ⟨_, rfl⟩
  rw [← hbx] at hx ⊢
  have Hb := hid hbx
  clear hbx
  refine wpList_append_rd_wide rfl _ _ 24 rfl W0.heap.size 5 i5 _ 1 Try.underlying24 hi5 hz5 hs5 hb5 rfl none 0 0 [] rfl (World.ownsRow_nil _ _ _ _) ba bn bc (vb bs) rfl (hb.below bx) (vb_oneCell _) (by omega) (by unfold maxLen; omega) (Nat.le_refl _) ?_
  intro ra rc W1 oR _ b1
  rw [List.nil_append, Nat.zero_add] at oR
  rw [Nat.zero_add]
  have hx1 := row_below hx b1
  have hB1 := bx.trans (b1.mono bx.size)
  have hrd := Rd.ofOwn oR
  have hform : ∀ ad, ra = some ad → ∃ b o, ad = ⟨b, o, none⟩ := fun ad ha => by
    subst ha
    rcases oR.2 with ⟨h9, _⟩ | ⟨g, cap, cur, h9, _⟩
    · cases h9
    · cases h9; exact ⟨g, 0, rfl⟩
  clear oR b1 bx hx
  have hst : CutI W1 W1 bs none 0 0 [] [] ra bn rc bs := ⟨Below.refl _ _, World.ownsRow_nil _ _ _ _, .nil, hrd, rfl, hbb, hform⟩
  clear hrd
  go_wp2_with fail
  go_loopw [7, 8, 9] (fun pv rv i wr => ∃ (k : Nat) (va ra : Option Addr) (vc rn rc : Nat) (hs : List Hd) (pss : List (List Nat)) (rest : List Nat), pv = .slice va k vc ∧ rv = .slice ra rn rc ∧ i = .int .i64 (k : Int) ∧ k ≤ cn ∧ k ≤ 50 ∧ CutI W1 wr bs va k vc hs pss ra rn rc rest) (fun _ _ i _ => 50 - (intOf i).toNat)
  case atStart => exact ⟨0, none, ra, 0, bn, rc, [], [], bs, rfl, rfl, rfl, Nat.zero_le _, Nat.zero_le _, hst⟩
  case round =>
    obtain ⟨k, va, ra, vc, rn, rc, hs, pss, rest, rfl, rfl, rfl, hk, hk5, hI⟩ := hrel
    clear hst
    by_cases hlt : k < cn
    · by_cases hlt2 : k < 50
      · have t1 : (k : Int) < (cn : Int) := by omega
        have t2 : (k : Int) < 50 := by omega
        obtain ⟨cb, co, rfl, hcb2, hcc⟩ := hc.cellz k hlt
        have hcc := ((hB1.trans (hI.blw.mono hB1.size)).cell (p := ⟨cb, co + k, none⟩) hcb2).trans hcc
        have hz := getD_i64 hcb k
        generalize cs.getD k 0 = z at *
        have hrd0 := hI.rd
        have hrl : rest.length = rn := by have := hI.rd.len; rwa [vb_len] at this
        have hrb : rn ≤ bn := by have := congrArg List.length hI.all; rw [List.length_append] at this; omega
        have a1 : IntKind.i64.wrap ((rn : Int) + 1) = (rn : Int) + 1 := IntWalk.i64_in _ (by omega)
        have hn := pk_lt z (rn + 1) (by omega)
        have a2 : ((rn : Int) + 1).toNat = rn + 1 := by omega
        obtain ⟨n, hne⟩ : ∃ n, n = pk z (rn + 1) := ⟨_, rfl⟩
        rw [← hne] at hn
        have Hne := hid hne
        clear hne
        have hrw := ownsRow_mono hI.row (Nat.zero_le _)
        go_wp2_with fail
        refine (pick_st z ((rn : Int) + 1) wr hz.1 hz.2 (by omega) (by omega)).mono ?_
        rintro e w' ⟨rfl, hw'⟩
        rw [hw', a2, ← Hne.out]
        clear hw' w' a1 a2
        have s1 : (0 : Int) ≤ (n : Int) := by omega
        have hle := hI.rd.le
        cases ra with
        | none =>
          obtain rfl : rc = 0 := hI.rd.isnil rfl
          obtain rfl : rn = 0 := by omega
          obtain rfl : n = 0 := by omega
          go_wp2_with (at_builtin; refine hold ?_)
          unfold Hid
          have b5 := below_alloc wr (.cells #[.slice none 0 0] 24)
          refine wpList_append_wide_at rfl _ _ 26 rfl W1.heap.size 24 i24 _ 1 24 Try.underlying26 hi24 hz24 hs24 hb24 rfl (by decide) (.slice va k vc) k (hs.map hv) rfl (ownsRow_below hI.row b5) ⟨wr.heap.size, 0, none⟩ 1 1 [.slice none 0 0] rfl rfl (one_new _ _ _) (by simp [Value.oneCell']) (by unfold maxLen; omega) (by omega) (Nat.le_trans hI.blw.size b5.size) ?_
          intro v' V6 oA gA _
          obtain ⟨va', vc', rfl, _, _⟩ := own_slice oA
          have hfin := hI.next b5 oA gA (n := 0) (hd := (none, 0, 0)) (hr := (none, 0, 0)) (by omega) (by have := hI.rd.take 0 (by omega); rwa [vb_take] at this) (by have := hI.rd; rwa [List.drop_zero]) (fun ad ha => by cases ha; try exact ⟨_, _, rfl⟩)
          clear hrw hcc hI oA gA b5
          go_wp2_with fail
          go_roundw
          case rel => exact ⟨k + 1, va', none, vc', 0, 0, _, _, _, rfl, rfl, by go_num, by omega, by omega, hfin⟩
          case measure => simp [intOf]; omega
        | some ad =>
          obtain ⟨xb, xo, rfl⟩ := hI.form ad rfl
          by_cases hnc : rc = n
          · obtain rfl : rn = rc := by omega
            subst hnc
            have s2 : (rn : Int) ≤ (rn : Int) := Int.le_refl _
            have hrd9 : rest.drop rn = [] := List.drop_of_length_le (by omega)
            go_wp2_with (at_builtin; refine hold ?_)
            unfold Hid
            have b5 := below_alloc wr (.cells #[.slice (some ⟨xb, xo, none⟩) rn rn] 24)
            refine wpList_append_wide_at rfl _ _ 26 rfl W1.heap.size 24 i24 _ 1 24 Try.underlying26 hi24 hz24 hs24 hb24 rfl (by decide) (.slice va k vc) k (hs.map hv) rfl (ownsRow_below hI.row b5) ⟨wr.heap.size, 0, none⟩ 1 1 [.slice (some ⟨xb, xo, none⟩) rn rn] rfl rfl (one_new _ _ _) (by simp [Value.oneCell']) (by unfold maxLen; omega) (by omega) (Nat.le_trans hI.blw.size b5.size) ?_
            intro v' V6 oA gA _
            obtain ⟨va', vc', rfl, _, _⟩ := own_slice oA
            have hfin := hI.next b5 oA gA (n := rn) (hd := (some ⟨xb, xo, none⟩, rn, rn)) (hr := (some ⟨xb, xo, none⟩, 0, 0)) (by omega) (by have := hI.rd.take rn (by omega); rwa [vb_take] at this) (by rw [hrd9]; exact ⟨rfl, Nat.le_refl _, Nat.zero_le _, (fun h => nomatch h), fun h => absurd h (Nat.lt_irrefl 0)⟩) (fun ad ha => by cases ha; try exact ⟨_, _, rfl⟩)
            clear hrw hcc hI oA gA b5
            go_wp2_with fail
            go_roundw
            case rel => exact ⟨k + 1, va', some ⟨xb, xo, none⟩, vc', 0, 0, _, _, _, rfl, rfl, by go_num, by omega, by omega, hfin⟩
            case measure => simp [intOf]; omega
          · have s2 : (n : Int) ≤ (rc : Int) := by omega
            have s3 : (n : Int) ≤ (rn : Int) := by omega
            go_wp2_with (at_builtin; refine hold ?_)
            unfold Hid
            have b5 := below_alloc wr (.cells #[.slice (some ⟨xb, xo, none⟩) n rc] 24)
            refine wpList_append_wide_at rfl _ _ 26 rfl W1.heap.size 24 i24 _ 1 24 Try.underlying26 hi24 hz24 hs24 hb24 rfl (by decide) (.slice va k vc) k (hs.map hv) rfl (ownsRow_below hI.row b5) ⟨wr.heap.size, 0, none⟩ 1 1 [.slice (some ⟨xb, xo, none⟩) n rc] rfl rfl (one_new _ _ _) (by simp [Value.oneCell']) (by unfold maxLen; omega) (by omega) (Nat.le_trans hI.blw.size b5.size) ?_
            intro v' V6 oA gA _
            obtain ⟨va', vc', rfl, _, _⟩ := own_slice oA
            have hfin := hI.next b5 oA gA (n := n) (hd := (some ⟨xb, xo, none⟩, n, rc)) (hr := (some ⟨xb, xo + n, none⟩, rn - n, rc - n)) (by omega) (by have := hI.rd.take n (by omega); rwa [vb_take] at this) (by have := hI.rd.sub n (rn - n) (by omega); rwa [List.take_of_length_le (by rw [List.length_drop]; omega)] at this) (fun ad ha => by cases ha; try exact ⟨_, _, rfl⟩)
            clear hrw hcc hI oA gA b5
            go_wp2_with fail
            go_roundw
            case rel => exact ⟨k + 1, va', some ⟨xb, xo + n, none⟩, vc', (rn - n), (rc - n), _, _, _, rfl, rfl, by go_num, by omega, by omega, hfin⟩
            case measure => simp [intOf]; omega
      · obtain rfl : k = 50 := by omega
        try rw [show ((50 : Nat) : Int) = 50 from rfl]
        have t1 : (50 : Int) < (cn : Int) := by omega
        clear hc hcb
        have hrb := hI.form
        go_wp2_with (at_builtin; refine hold ?_)
        unfold Hid
        have b5 := below_alloc wr (.cells #[.slice ra rn rc] 24)
        refine wpList_append_wide_at rfl _ _ 26 rfl W1.heap.size 24 i24 _ 1 24 Try.underlying26 hi24 hz24 hs24 hb24 rfl (by decide) (.slice va 50 vc) 50 (hs.map hv) rfl (ownsRow_below hI.row b5) ⟨wr.heap.size, 0, none⟩ 1 1 [.slice ra rn rc] rfl rfl (one_new _ _ _) (by simp [Value.oneCell']) (by unfold maxLen; omega) (by omega) (Nat.le_trans hI.blw.size b5.size) ?_
        intro v' V oA gA _
        obtain ⟨va', vc', rfl, _, _⟩ := own_slice oA
        have B6 := hI.blw.trans (b5.mono hI.blw.size)
        have BV : Below W1.heap.size W1 V := B6.grown gA B6.size (fun j hj => (hI.row.lt j hj).1)
        obtain ⟨kp, hkp⟩ : ∃ kp, kp = 50 + 1 := ⟨_, rfl⟩
        rw [← hkp] at oA ⊢
        have hk0 : 0 < kp := by omega
        have hk51 : kp ≤ 51 := by omega
        have oA : V.ownsRow W1.heap.size 24 1 (.slice va' kp vc') kp ((hs ++ [(ra, rn, rc)]).map hv) := by rw [List.map_append]; exact oA
        have hE : All2 (fun (h : Hd) ps => Rd W1 h.1 h.2.1 h.2.2 (vb ps) ∧ AllB ps) (hs ++ [(ra, rn, rc)]) (pss ++ [rest]) := forall2_snoc hI.each ⟨hI.rd, hI.rb⟩
        have hfl : (pss ++ [rest]).flatten = bs := by rw [List.flatten_append]; simpa using hI.all
        have hpl : (pss ++ [rest]).length = kp := by
          have h9 := hE.len
          have h8 := oA.1
          rw [List.length_map] at h8
          omega
        clear hI b5 B6 gA hrb hkp
        generalize hs ++ [(ra, rn, rc)] = hs at *
        generalize pss ++ [rest] = pss at *
        have hVV := row_below hx1 BV
        have hBV := hB1.trans (BV.mono hB1.size)
        have hbV := hb.below hBV
        have n0 : V.cell? ⟨b, 0, none⟩ = some (.int .i64 r0) := by rw [cell_of_row _ _ _ _ _ _ hVV]; rfl
        have n1 : V.cell? ⟨b, 1, none⟩ = some (.int .i64 r1) := by rw [cell_of_row _ _ _ _ _ _ hVV]; rfl
        have n2 : V.cell? ⟨b, 2, none⟩ = some (.int .i64 r2) := by rw [cell_of_row _ _ _ _ _ _ hVV]; rfl
        have n3 : V.cell? ⟨b, 3, none⟩ = some (.int .i64 r3) := by rw [cell_of_row _ _ _ _ _ _ hVV]; rfl
        have bA := below_alloc V (.cells #[.slice ba bn bc] 24)
        have pA : PcsAt (V.alloc (.cells #[.slice ba bn bc] 24)) (some ⟨V.heap.size, 0, none⟩) 1 1 [(ba, bn, bc)] [bs] :=
          ⟨Rd.ofOwn (own_of_heap (B := 0) (xs := [.slice ba bn bc]) (heap_alloc_new _ _) rfl (Nat.zero_le _) (by unfold maxLen; omega)), .cons ⟨hbV.below bA, hbb⟩ .nil⟩
        have hVA := row_below hVV bA
        have hBA := hBV.trans (bA.mono hBV.size)
        have BA := BV.trans (bA.mono BV.size)
        have oAA := ownsRow_below oA bA
        clear oA hVV hBV BV hbV bA
        go_wp2_with fail
        clear n0 n1 n2 n3
        obtain ⟨Y, hYe⟩ : ∃ Y, Y = V.alloc (.cells #[.slice ba bn bc] 24) := ⟨_, rfl⟩
        rw [← hYe] at pA hVA hBA BA oAA ⊢
        clear hYe
        by_cases hbS : badS r0
        · refine (listen_size r0 r1 r2 r3 hbS _ 1 1 Y).mono ?_
          rintro e X ⟨rfl, bX⟩
          have hVX := row_below hVA bX
          have hBX := hBA.trans (bX.mono hBA.size)
          have n0 : X.cell? ⟨b, 0, none⟩ = some (.int .i64 r0) := by rw [cell_of_row _ _ _ _ _ _ hVX]; rfl
          have n1 : X.cell? ⟨b, 1, none⟩ = some (.int .i64 r1) := by rw [cell_of_row _ _ _ _ _ _ hVX]; rfl
          have n2 : X.cell? ⟨b, 2, none⟩ = some (.int .i64 r2) := by rw [cell_of_row _ _ _ _ _ _ hVX]; rfl
          have n3 : X.cell? ⟨b, 3, none⟩ = some (.int .i64 r3) := by rw [cell_of_row _ _ _ _ _ _ hVX]; rfl
          clear hVA pA oAA hBA BA bX hE hfl hpl
          go_wp2_with fail
          refine (listen_size r0 r1 r2 r3 hbS va' kp vc' X).mono ?_
          rintro e X2 ⟨rfl, bX2⟩
          have hBX := hBX.trans (bX2.mono hBX.size)
          clear n0 n1 n2 n3 hVX bX2
          go_wp2_with fail
          refine (listen_size 0 0 0 0 (.inl (by decide)) none 0 0 X2).mono ?_
          rintro e X3 ⟨rfl, bX3⟩
          have hBX := hBX.trans (bX3.mono hBX.size)
          clear bX3
          go_wp2_with fail
          go_ret
          exact ⟨rfl, hBX⟩
        · by_cases hbR : badR r1 r2 r3
          · refine (listen_range r0 r1 r2 r3 hbS hbR _ 1 1 Y).mono ?_
            rintro e X ⟨rfl, bX⟩
            have hVX := row_below hVA bX
            have hBX := hBA.trans (bX.mono hBA.size)
            have n0 : X.cell? ⟨b, 0, none⟩ = some (.int .i64 r0) := by rw [cell_of_row _ _ _ _ _ _ hVX]; rfl
            have n1 : X.cell? ⟨b, 1, none⟩ = some (.int .i64 r1) := by rw [cell_of_row _ _ _ _ _ _ hVX]; rfl
            have n2 : X.cell? ⟨b, 2, none⟩ = some (.int .i64 r2) := by rw [cell_of_row _ _ _ _ _ _ hVX]; rfl
            have n3 : X.cell? ⟨b, 3, none⟩ = some (.int .i64 r3) := by rw [cell_of_row _ _ _ _ _ _ hVX]; rfl
            clear hVA pA oAA hBA BA bX hE hfl hpl
            go_wp2_with fail
            refine (listen_range r0 r1 r2 r3 hbS hbR va' kp vc' X).mono ?_
            rintro e X2 ⟨rfl, bX2⟩
            have hBX := hBX.trans (bX2.mono hBX.size)
            clear n0 n1 n2 n3 hVX bX2
            go_wp2_with fail
            refine (listen_size 0 0 0 0 (.inl (by decide)) none 0 0 X2).mono ?_
            rintro e X3 ⟨rfl, bX3⟩
            have hBX := hBX.trans (bX3.mono hBX.size)
            clear bX3
            go_wp2_with fail
            go_ret
            exact ⟨rfl, hBX⟩
          · have hg0 : 1 ≤ r0 ∧ r0 ≤ 2048 := by unfold badS at hbS; omega
            have hg1 : (0 ≤ r1 ∧ r1 ≤ 8) ∧ (0 ≤ r2 ∧ r2 ≤ 12) ∧ (0 ≤ r3 ∧ r3 ≤ 8) := by unfold badR at hbR; omega
            obtain ⟨L, rfl⟩ := Int.eq_ofNat_of_zero_le (by omega : 0 ≤ r0)
            obtain ⟨F_, rfl⟩ := Int.eq_ofNat_of_zero_le hg1.1.1
            obtain ⟨H_, rfl⟩ := Int.eq_ofNat_of_zero_le hg1.2.1.1
            obtain ⟨M_, rfl⟩ := Int.eq_ofNat_of_zero_le hg1.2.2.1
            clear hbS hbR h0 h1 h2 h3
            have hLL : 1 ≤ L ∧ L ≤ 2048 := by omega
            have hF8 : F_ ≤ 8 ∧ H_ ≤ 12 ∧ M_ ≤ 8 := by omega
            refine (listen_ok L F_ H_ M_ hLL (by omega) (by omega) (by omega) (some ⟨V.heap.size, 0, none⟩) 1 1 [(ba, bn, bc)] [bs] Y pA (by decide) (by simp only [List.flatten_cons, List.flatten_nil, List.append_nil]; omega)).mono ?_
            rintro e X ⟨ga, qa, la, gc, qc, lc, ha, FA, los, C, m, rfl, hP⟩
            have hPb := hP.blw
            obtain ⟨a1, x1, c1, F1, g, gl, rfl, rfl, cg, cl, o1, hx1', i1, hrun, hg, hgl⟩ := hP.one
            have hVX := row_below hVA hPb
            have hBX := hBA.trans (hPb.mono hBA.size)
            have BX := BA.trans (hPb.mono BA.size)
            have oX := ownsRow_below oAA hPb
            have n0 : X.cell? ⟨b, 0, none⟩ = some (.int .i64 (L : Int)) := by rw [cell_of_row _ _ _ _ _ _ hVX]; rfl
            have n1 : X.cell? ⟨b, 1, none⟩ = some (.int .i64 (F_ : Int)) := by rw [cell_of_row _ _ _ _ _ _ hVX]; rfl
            have n2 : X.cell? ⟨b, 2, none⟩ = some (.int .i64 (H_ : Int)) := by rw [cell_of_row _ _ _ _ _ _ hVX]; rfl
            have n3 : X.cell? ⟨b, 3, none⟩ = some (.int .i64 (M_ : Int)) := by rw [cell_of_row _ _ _ _ _ _ hVX]; rfl
            clear hVA pA oAA hBA BA hP hg0 hg1
            subst hx1'
            go_wp2_with fail
            have pB : PcsAt X va' kp vc' hs pss := ⟨Rd.ofOwn oX, forall2_imp (fun _ _ y => ⟨y.1.below BX, y.2⟩) hE⟩
            refine (listen_ok L F_ H_ M_ hLL (by omega) (by omega) (by omega) va' kp vc' hs pss X pB (by omega) (by rw [hfl]; omega)).mono ?_
            rintro e X2 ⟨gb, qb, lb, gbc, qbc, lbc, hb2, FB, los2, C2, m2, rfl, hP2⟩
            have hPb2 := hP2.blw
            obtain ⟨g2, gl2, rfl, rfl, hg2, hgl2, cl2, hFB, hFBl, hfew⟩ := hP2.cuts hLL.1 hfl hpl hk0 hrun
            have hVX2 := row_below hVX hPb2
            have hBX2 := hBX.trans (hPb2.mono hBX.size)
            clear n0 n1 n2 n3 hVX hBX BX oX pB hE hfl hpl
            go_wp2_with fail
            refine (listen_size 0 0 0 0 (.inl (by decide)) none 0 0 X2).mono ?_
            rintro e Z ⟨rfl, bZ⟩
            have hBZ := hBX2.trans (bZ.mono hBX2.size)
            obtain ⟨kq, hkq⟩ : ∃ kq, kp = kq + 1 := ⟨kp - 1, by omega⟩
            have a1 : (kp : Int) - 1 = (kq : Int) := by omega
            have a2 : IntKind.i64.wrap (kq : Int) = (kq : Int) := IntWalk.i64_in _ (by omega)
            have hkq1 : kp - 1 = kq := by omega
            rw [hkq1] at cl2
            have a3 : (kq : Int) < (kp : Int) := by omega
            have a4 : (0 : Int) ≤ (kq : Int) := by omega
            have Hkq := hid hkq
            clear hkq hkq1
            have clZ := (bZ.cell (p := ⟨gl, 0, none⟩) (Nat.lt_of_lt_of_le hgl hPb2.size)).trans ((hPb2.cell (p := ⟨gl, 0, none⟩) hgl).trans cl)
            have clZ2 := (bZ.cell (p := ⟨gl2, kq, none⟩) hgl2).trans cl2
            have cgZ := (bZ.cell (p := ⟨g, 0, none⟩) (Nat.lt_of_lt_of_le hg hPb2.size)).trans ((hPb2.cell (p := ⟨g, 0, none⟩) hg).trans cg)
            have o1Z := ownsRow_below (ownsRow_below o1 hPb2) bZ
            have i1Z : ∀ f ∈ F1, f.In Z Y.heap.size := fun f hf => ⟨ownsRow_below (ownsRow_below (i1 f hf).1 hPb2) bZ, (i1 f hf).2⟩
            have oBZ := ownsRow_below hP2.row bZ
            have eBZ : All2 (fun (h : Hd) F => Z.ownsRow X.heap.size 35 4 (hv h) h.2.1 (fcs F) ∧ h.2.1 = F.length ∧ ∀ f ∈ F, f.In Z X.heap.size) hb2 FB := forall2_imp (fun _ _ y => ⟨ownsRow_below y.1 bZ, y.2.1, fun f hf => ⟨ownsRow_below (y.2.2 f hf).1 bZ, (y.2.2 f hf).2⟩⟩) hP2.each
            have hlb := hP2.len
            have hgZ : g < Z.heap.size := Nat.lt_of_lt_of_le (Nat.lt_of_lt_of_le hg hPb2.size) bZ.size
            have hg2Z : g2 < Z.heap.size := Nat.lt_of_lt_of_le hg2 bZ.size
            have hgl1 : gl < Z.heap.size := Nat.lt_of_lt_of_le (Nat.lt_of_lt_of_le hgl hPb2.size) bZ.size
            have hgl3 : gl2 < Z.heap.size := Nat.lt_of_lt_of_le hgl2 bZ.size
            clear cl cl2 cg o1 i1 bZ hP2 hPb2 hPb hBX2 hVX2 hrun
            go_upto_region 17 with fail
            refine wp_region_can_all [] [0, 1, 2, 3, 4, 5, 6, 7, 8, 9, 10, 11, 12, 13, 14, 15, 16, 17, 18, 19, 20, 21, 22, 23, 24, 25, 26, 27, 28, 29, 30, 31, 32, 33] Ext Ext.refl Ext.trans (by kernel_rfl) (by kernel_rfl) ?_
            simp only [List.map_cons, List.map_nil, List.contains_cons, List.contains_nil, List.getD_cons_zero, List.getD_cons_succ, Nat.reduceBEq, Bool.or_false, Bool.or_true]
            have bD : Below Z.heap.size Z Z.drew := (Below.refl _ _).drew
            have d1 : ∀ w', Ext Z.drew w' → w'.cell? ⟨gl, 0, none⟩ = some (.bool m.lo) := fun w' hw => (hw.cell (p := ⟨gl, 0, none⟩) hgl1).trans clZ
            have d2 : ∀ w', Ext Z.drew w' → w'.cell? ⟨gl2, kq, none⟩ = some (.bool m.lo) := fun w' hw => (hw.cell (p := ⟨gl2, kq, none⟩) hgl3).trans clZ2
            iterate 34 (refine wpL_do rfl (fun w' hw' => (by go_simp; rfl)) ?_; simp only [Act.put, List.setIfInBounds_toArray, List.set_cons_succ, List.set_cons_zero])
            refine wpL_nil ?_
            clear d1 d2 a1 a2 a3 a4
            have hBD := hBZ.trans (bD.mono hBZ.size)
            have cgD := (bD.cell (p := ⟨g, 0, none⟩) hgZ).trans cgZ
            have o1D := ownsRow_below o1Z bD
            have i1D : ∀ f ∈ F1, f.In Z.drew Y.heap.size := fun f hf => ⟨ownsRow_below (i1Z f hf).1 bD, (i1Z f hf).2⟩
            have oBD := ownsRow_below oBZ bD
            have eBD : All2 (fun (h : Hd) F => Z.drew.ownsRow X.heap.size 35 4 (hv h) h.2.1 (fcs F) ∧ h.2.1 = F.length ∧ ∀ f ∈ F, f.In Z.drew X.heap.size) hb2 FB := forall2_imp (fun _ _ y => ⟨ownsRow_below y.1 bD, y.2.1, fun f hf => ⟨ownsRow_below (y.2.2 f hf).1 bD, (y.2.2 f hf).2⟩⟩) eBZ
            clear clZ clZ2 cgZ o1Z i1Z oBZ eBZ hBZ bD
            have hgD : g < Z.drew.heap.size := hgZ
            have hg2D : g2 < Z.drew.heap.size := hg2Z
            clear hgZ hg2Z hgl1 hgl3
            generalize Z.drew = T at *
            have hfl1 : FB.flatten.length = F1.length := by have := congrArg List.length hFB; rwa [List.length_map, List.length_map] at this
            have hf39 : 39 * F1.length ≤ 140737488351232 := by have := hfew; rw [List.length_map] at this; omega
            obtain ⟨i35, hi35, hz35, hs35, hb35⟩ := info_parts Try.info35
            have HFB := hid (⟨hFB, hFBl, hfl1⟩ : _ ∧ _ ∧ _)
            clear hFB hFBl hfl1 hfew
            go_wp2_with fail
            go_loopw [23, 24] (fun av i wr => ∃ (j : Nat) (aa : Option Addr) (an ac : Nat), av = .slice aa an ac ∧ i = .int .i64 (j : Int) ∧ j ≤ kp ∧ wr.ownsRow T.heap.size 35 4 (.slice aa an ac) an (fcs (FB.take j).flatten) ∧ an = (FB.take j).flatten.length ∧ Below T.heap.size T wr) (fun _ i _ => kp - (intOf i).toNat)
            case atStart => exact ⟨0, none, 0, 0, rfl, rfl, Nat.zero_le _, World.ownsRow_nil _ _ _ _, rfl, Below.refl _ _⟩
            case round =>
              obtain ⟨j, aa, an, ac, rfl, rfl, hj, hO, han, hZ⟩ := hrel
              by_cases hjk : j < kp
              · have t2 : (j : Int) < (kp : Int) := by omega
                have hjh : j < hb2.length := by omega
                have hjF : j < FB.length := by have := HFB.out; omega
                obtain ⟨e1, e2, _⟩ := eBD.get j hjh hjF
                have hcj : T.cell? ⟨g2, j, none⟩ = some (hv hb2[j]) := by rw [oBD.cellAt j (by omega), List.getElem?_map, List.getElem?_eq_getElem hjh]; rfl
                obtain ⟨⟨xa, xn, xc⟩, hsd⟩ : ∃ h, h = hb2[j] := ⟨_, rfl⟩
                rw [← hsd] at e1 e2 hcj
                have hcj : wr.cell? ⟨g2, j, none⟩ = some (.slice xa xn xc) := (hZ.cell (p := ⟨g2, j, none⟩) hg2D).trans hcj
                have e1 : wr.ownsRow X.heap.size 35 4 (.slice xa xn xc) xn (fcs FB[j]) := ownsRow_below e1 hZ
                have e2x : xn = FB[j].length := e2
                clear e2
                have htk : (FB.take (j + 1)).flatten = (FB.take j).flatten ++ FB[j] := by rw [List.take_add_one, List.getElem?_eq_getElem hjF, Option.toList_some, List.flatten_append, List.flatten_cons, List.flatten_nil, List.append_nil]
                have hle : (FB.take (j + 1)).flatten.length ≤ F1.length := by
                  have h9 : FB.flatten = (FB.take (j + 1)).flatten ++ (FB.drop (j + 1)).flatten := by rw [← List.flatten_append, List.take_append_drop]
                  have h8 := congrArg List.length h9
                  rw [List.length_append] at h8
                  have := HFB.out; omega
                have hsum : an + xn ≤ F1.length := by rw [htk, List.length_append] at hle; omega
                have Htk := hid htk
                have He2 := hid e2x
                have Han := hid han
                have Hs := hid (show (FB.take (j + 1)).flatten.length = an + xn by rw [htk, List.length_append, han, e2x])
                clear htk hsd e2x han hle
                cases xa with
                | none =>
                  have hnil : xn = 0 ∧ xc = 0 ∧ fcs FB[j] = [] := by
                    rcases e1.2 with ⟨h9, h8⟩ | ⟨_, _, _, h9, _⟩
                    · cases h9; exact ⟨rfl, rfl, List.eq_nil_of_length_eq_zero (by rw [e1.1])⟩
                    · cases h9
                  obtain ⟨rfl, rfl, h8⟩ := hnil
                  have hF0 := hid (show FB[j] = [] from List.eq_nil_of_length_eq_zero He2.out.symm)
                  clear h8 He2
                  go_wp2_with (at_builtin; refine hold ?_)
                  unfold Hid
                  refine wpList_append_own_none rfl _ _ 33 rfl T.heap.size 35 i35 4 Try.underlying33 hi35 (.slice aa an ac) an (fcs (FB.take j).flatten) rfl hO rfl ?_
                  have hO2 : wr.ownsRow T.heap.size 35 4 (.slice aa an ac) an (fcs (FB.take (j + 1)).flatten) := by rw [Htk.out, hF0.out, List.append_nil]; exact hO
                  have han2 : an = (FB.take (j + 1)).flatten.length := by rw [Htk.out, hF0.out, List.append_nil]; exact Han.out
                  clear hO e1 hcj
                  have Han2 := hid han2
                  clear han2
                  go_wp2_with fail
                  go_roundw
                  case rel => exact ⟨j + 1, aa, an, ac, rfl, by go_num, by omega, hO2, Han2.out, hZ⟩
                  case measure => simp [intOf]; omega
                | some ad =>
                  obtain ⟨gx, rfl⟩ : ∃ gx, ad = ⟨gx, 0, none⟩ := by
                    rcases e1.2 with ⟨h9, _⟩ | ⟨gx, _, _, h9, _⟩
                    · cases h9
                    · cases h9; exact ⟨gx, rfl⟩
                  clear He2
                  go_wp2_with (at_builtin; refine hold ?_)
                  unfold Hid
                  refine wpList_append_wide_at rfl _ _ 33 rfl T.heap.size 35 i35 _ 4 48 Try.underlying33 hi35 hz35 hs35 hb35 rfl (by decide) (.slice aa an ac) an (fcs (FB.take j).flatten) rfl hO ⟨gx, 0, none⟩ xn xc (fcs FB[j]) rfl (by have := e1.1; exact this) (own_news4 e1) (fcs_one _) (by unfold maxLen; omega) (by omega) hZ.size ?_
                  intro v' V2 oV gV _
                  obtain ⟨aa', ac', rfl, _, _⟩ := own_slice oV
                  have hB3 : Below T.heap.size T V2 := hZ.grown gV hZ.size (fun q hq => (hO.lt q hq).1)
                  obtain ⟨an', han'⟩ : ∃ an', an' = an + xn := ⟨_, rfl⟩
                  rw [← han'] at oV ⊢
                  have oV : V2.ownsRow T.heap.size 35 4 (.slice aa' an' ac') an' (fcs (FB.take (j + 1)).flatten) := by rw [Htk.out, fcs_app]; exact oV
                  have Han2 := hid (show an' = (FB.take (j + 1)).flatten.length by rw [han']; exact Hs.out.symm)
                  clear han' hO e1 hcj gV
                  go_wp2_with fail
                  go_roundw
                  case rel => exact ⟨j + 1, aa', an', ac', rfl, by go_num, by omega, oV, Han2.out, hB3⟩
                  case measure => simp [intOf]; omega
              · obtain rfl : kp = j := by omega
                have hfull : FB.take kp = FB := List.take_of_length_le (by have := HFB.out; omega)
                rw [hfull] at hO han
                have hBW := hBD.trans (hZ.mono hBD.size)
                have hanF : an = F1.length := by have := HFB.out; omega
                have cgW := (hZ.cell (p := ⟨g, 0, none⟩) hgD).trans cgD
                have hgW : g < wr.heap.size := Nat.lt_of_lt_of_le hgD hZ.size
                have o1W := ownsRow_below o1D hZ
                have i1W : ∀ f ∈ F1, f.In wr Y.heap.size := fun f hf => ⟨ownsRow_below (i1D f hf).1 hZ, (i1D f hf).2⟩
                have iBW : ∀ f ∈ FB.flatten, f.In wr X.heap.size := fun f hf => by
                  obtain ⟨F, hF, hfF⟩ := List.mem_flatten.1 hf
                  obtain ⟨q, hq, rfl⟩ := List.getElem_of_mem hF
                  have := (eBD.get q (by have := eBD.len; omega) hq).2.2 f hfF
                  exact ⟨ownsRow_below this.1 hZ, this.2⟩
                subst hanF
                clear han hfull cgD o1D i1D oBD eBD hZ hBD hgD hg2D
                go_wp2_with fail
                obtain ⟨T2, hT2⟩ : ∃ T2, T2 = wr := ⟨_, rfl⟩
                subst hT2
                go_loopw [25] (fun i wr => ∃ j : Nat, i = .int .i64 (j : Int) ∧ j ≤ F1.length ∧ Below T2.heap.size T2 wr) (fun i _ => F1.length - (intOf i).toNat)
                case atStart => exact ⟨0, rfl, Nat.zero_le _, Below.refl _ _⟩
                case round =>
                  obtain ⟨j, rfl, hj2, hZ⟩ := hrel
                  by_cases hjk2 : j < F1.length
                  · have t2 : (j : Int) < (F1.length : Int) := by omega
                    have hjB : j < FB.flatten.length := by have := HFB.out; omega
                    have hfo : (FB.flatten[j]).fo = (F1[j]).fo := by
                      have h9 := congrArg (fun l => l[j]?) HFB.out.1
                      simp only [List.getElem?_map] at h9
                      rw [List.getElem?_eq_getElem hjB, List.getElem?_eq_getElem hjk2] at h9
                      simpa using h9
                    obtain ⟨gP, rfl⟩ := own_addr hO (by omega)
                    obtain ⟨gQ, rfl⟩ := own_addr o1W (by omega)
                    obtain ⟨p0, p1, p2, p3⟩ := Fd.cellsAt (ownsRow_below hO hZ) HFB.out.2.2.symm j hjB
                    obtain ⟨q0, q1, q2, q3⟩ := Fd.cellsAt (ownsRow_below o1W hZ) rfl j hjk2
                    have iP := iBW _ (List.getElem_mem hjB)
                    have iQ := i1W _ (List.getElem_mem hjk2)
                    unfold Fd.In at iP iQ
                    have f1 : (FB.flatten[j]).pos = (F1[j]).pos := congrArg Fo.pos hfo
                    have f2 : (FB.flatten[j]).tu = (F1[j]).tu := congrArg Fo.tu hfo
                    have f3 : (FB.flatten[j]).mi = (F1[j]).mi := congrArg Fo.mi hfo
                    have f4 : (FB.flatten[j]).ds = (F1[j]).ds := congrArg Fo.ds hfo
                    rw [f1] at p0
                    rw [f2] at p1
                    rw [f3] at p2
                    rw [f4] at iP
                    clear f1 f2 f3 f4 hfo
                    generalize (FB.flatten[j]).da = pda at *
                    generalize (FB.flatten[j]).dn = pdn at *
                    generalize (FB.flatten[j]).dc = pdc at *
                    generalize (F1[j]).da = qda at *
                    generalize (F1[j]).dn = qdn at *
                    generalize (F1[j]).dc = qdc at *
                    generalize (F1[j]).pos = pos at *
                    generalize (F1[j]).tu = tu at *
                    generalize (F1[j]).mi = mi at *
                    generalize (F1[j]).ds = dsv at *
                    have cgZ := (hZ.cell (p := ⟨g, 0, none⟩) hgW).trans cgW
                    go_upto_region 29 with fail
                    obtain ⟨U, hUe⟩ : ∃ U, U = wr.drew := ⟨_, rfl⟩
                    have bU : Below wr.heap.size wr U := by rw [hUe]; exact (Below.refl _ _).drew
                    have hUs : wr.heap.size = U.heap.size := by rw [hUe]; rfl
                    obtain ⟨B0, hB0⟩ : ∃ B0, B0 = wr.heap.size := ⟨_, rfl⟩
                    rw [← hB0] at bU hUs
                    have hBUs : B0 ≤ U.heap.size := Nat.le_of_eq hUs
                    have keep : ∀ {q : Addr} {v : Value} (w' : World), wr.cell? q = some v → q.block < wr.heap.size → Below B0 U w' → w'.cell? q = some v := fun w' hv hl hw => (hw.cell (by rw [hB0]; exact hl)).trans ((bU.cell (by rw [hB0]; exact hl)).trans hv)
                    have lP : gP < wr.heap.size := by have := own_lt (ownsRow_below hO hZ) rfl; exact this
                    have lQ : gQ < wr.heap.size := by have := own_lt (ownsRow_below o1W hZ) rfl; exact this
                    have lG : g < wr.heap.size := Nat.lt_of_lt_of_le hgW hZ.size
                    have D0 : ∀ w', Below B0 U w' → w'.cell? ⟨gP, j * 4, none⟩ = some (.int .i64 (pos : Int)) := fun w' hw => keep w' p0 lP hw
                    have D1 : ∀ w', Below B0 U w' → w'.cell? ⟨gP, j * 4 + 1, none⟩ = some (.bool tu) := fun w' hw => keep w' p1 lP hw
                    have D2 : ∀ w', Below B0 U w' → w'.cell? ⟨gP, j * 4 + 2, none⟩ = some (.int .i64 (mi : Int)) := fun w' hw => keep w' p2 lP hw
                    have D3 : ∀ w', Below B0 U w' → w'.cell? ⟨gP, j * 4 + 3, none⟩ = some (.slice pda pdn pdc) := fun w' hw => keep w' p3 lP hw
                    have E0 : ∀ w', Below B0 U w' → w'.cell? ⟨gQ, j * 4, none⟩ = some (.int .i64 (pos : Int)) := fun w' hw => keep w' q0 lQ hw
                    have E1 : ∀ w', Below B0 U w' → w'.cell? ⟨gQ, j * 4 + 1, none⟩ = some (.bool tu) := fun w' hw => keep w' q1 lQ hw
                    have E2 : ∀ w', Below B0 U w' → w'.cell? ⟨gQ, j * 4 + 2, none⟩ = some (.int .i64 (mi : Int)) := fun w' hw => keep w' q2 lQ hw
                    have E3 : ∀ w', Below B0 U w' → w'.cell? ⟨gQ, j * 4 + 3, none⟩ = some (.slice qda qdn qdc) := fun w' hw => keep w' q3 lQ hw
                    have G0 : ∀ w', Below B0 U w' → w'.cell? ⟨g, 0, none⟩ = some (.slice (some ⟨gQ, 0, none⟩) F1.length c1) := fun w' hw => keep w' cgZ lG hw
                    have HUe := hid hUe
                    have HB0 := hid hB0
                    clear hUe hB0 hUs p0 p1 p2 p3 q0 q1 q2 q3 cgZ keep
                    apply cut3 (F := fun V N1 N2 => TwoF B0 U V N1 N2 pos tu mi pda pdn pdc qda qdn qdc)
                    · intro HF
                      refine wp_region_plan [10, 11, 12, 13] (Plan.of [0, 1, 2, 3, 4, 5, 6, 7, 8, 9] (.two 10 (Plan.of [11, 12, 13] .nil) 11 (Plan.of [10, 12, 13] .nil))) (Below B0) (fun _ => Below.refl _ _) (fun _ _ _ h k => h.trans k) (by kernel_rfl) (by kernel_rfl) ?_
                      simp only [Plan.of, Plan.lay, List.contains_cons, List.contains_nil, List.getD_cons_zero, List.getD_cons_succ, Nat.reduceBEq, Bool.or_false, Bool.or_true]
                      rw [← HUe.out]
                      have BU : Below B0 U U := Below.refl _ _
                      repeat (refine wpTL_do rfl (fun w' hw' => (by go_simp; rfl)) ?_; simp only [Act.put, List.setIfInBounds_toArray, List.set_cons_succ, List.set_cons_zero])
                      refine wpTL_two ?_ ?_
                      · refine wpTL_call rfl (fun K hK => ?_)
                        go_wp2_with fail
                        have bU1 := below_alloc U (.cells #[.int .i64 0, .bool false, .int .i64 0, .slice none 0 0] 35)
                        have rU1 := heap_alloc_new U (.cells #[.int .i64 0, .bool false, .int .i64 0, .slice none 0 0] 35)
                        have BU1 := BU.trans (bU1.mono (Nat.le_trans hBUs BU.size))
                        refine hK _ _ (bU1.mono (Nat.le_trans hBUs BU.size)) ?_
                        clear hK K
                        try simp only [Act.put, List.setIfInBounds_toArray, List.set_cons_succ, List.set_cons_zero]
                        obtain ⟨N1, eN1⟩ : ∃ N1, N1 = U.heap.size := ⟨_, rfl⟩
                        rw [← eN1] at rU1 ⊢
                        have hN1 : Hid (B0 ≤ N1) := hid (by rw [eN1]; exact Nat.le_trans hBUs BU.size)
                        have lN1 : Hid (N1 < (U.alloc (.cells #[.int .i64 0, .bool false, .int .i64 0, .slice none 0 0] 35)).heap.size) := hid (by rw [World.size_alloc, eN1]; omega)
                        have uN1 : Hid (N1 = U.heap.size) := hid eN1
                        clear eN1
                        generalize U.alloc (.cells #[.int .i64 0, .bool false, .int .i64 0, .slice none 0 0] 35) = U1 at *
                        refine wpTL_call rfl (fun K hK => ?_)
                        go_wp2_with fail
                        have bU2 := below_alloc U1 (.cells #[.int .i64 0, .bool false, .int .i64 0, .slice none 0 0] 35)
                        have rU2 := heap_alloc_new U1 (.cells #[.int .i64 0, .bool false, .int .i64 0, .slice none 0 0] 35)
                        have BU2 := BU1.trans (bU2.mono (Nat.le_trans hBUs BU1.size))
                        refine hK _ _ (bU2.mono (Nat.le_trans hBUs BU1.size)) ?_
                        clear hK K
                        try simp only [Act.put, List.setIfInBounds_toArray, List.set_cons_succ, List.set_cons_zero]
                        obtain ⟨N2, eN2⟩ : ∃ N2, N2 = U1.heap.size := ⟨_, rfl⟩
                        rw [← eN2] at rU2 ⊢
                        have hN2 : Hid (B0 ≤ N2) := hid (by rw [eN2]; exact Nat.le_trans hBUs BU1.size)
                        have lN2 : Hid (N2 < (U1.alloc (.cells #[.int .i64 0, .bool false, .int .i64 0, .slice none 0 0] 35)).heap.size) := hid (by rw [World.size_alloc, eN2]; omega)
                        have uN2 : Hid (N2 = U1.heap.size) := hid eN2
                        clear eN2
                        generalize U1.alloc (.cells #[.int .i64 0, .bool false, .int .i64 0, .slice none 0 0] 35) = U2 at *
                        have e1 := row_below rU1 bU2
                        have e2 := rU2
                        have ne : N1 ≠ N2 := by have h1 := lN1.out; have h2 := uN2.out; omega
                        refine wpTL_call rfl (fun K hK => ?_)
                        have z0 : U2.cell? ⟨N1, 0, none⟩ = some (.int .i64 0) := by rw [cell_of_row _ _ _ _ _ _ e1]; rfl
                        have z1 : U2.cell? ⟨N1, 1, none⟩ = some (.bool false) := by rw [cell_of_row _ _ _ _ _ _ e1]; rfl
                        have z2 : U2.cell? ⟨N1, 2, none⟩ = some (.int .i64 0) := by rw [cell_of_row _ _ _ _ _ _ e1]; rfl
                        have z3 : U2.cell? ⟨N1, 3, none⟩ = some (.slice none 0 0) := by rw [cell_of_row _ _ _ _ _ _ e1]; rfl
                        have y0 := frozen_row e1 0
                        have y1 := frozen_row e1 1
                        have y2 := frozen_row e1 2
                        have y3 := frozen_row e1 3
                        obtain ⟨mU3, gU3⟩ := fourE e1 (Value.int .i64 (pos : Int)) (Value.bool tu) (Value.int .i64 (mi : Int)) (Value.slice pda pdn pdc)
                        go_wp2_with fail
                        refine hK _ _ ((Below.refl _ _).grown gU3 (Nat.le_trans hBUs BU2.size) (fun k e => by cases e; exact hN1.out)) ?_
                        clear hK K z0 z1 z2 z3 y0 y1 y2 y3
                        try simp only [Act.put, List.setIfInBounds_toArray, List.set_cons_succ, List.set_cons_zero]
                        have e2 := row_grown e2 gU3 (fun h => ne h.symm)
                        have BU3 := BU2.grown gU3 (Nat.le_trans hBUs BU2.size) (fun k e => by cases e; exact hN1.out)
                        generalize ((((U2.setCell ⟨N1, 0, none⟩ (Value.int .i64 (pos : Int))).setCell ⟨N1, 1, none⟩ (Value.bool tu)).setCell ⟨N1, 2, none⟩ (Value.int .i64 (mi : Int))).setCell ⟨N1, 3, none⟩ (Value.slice pda pdn pdc)) = U3 at *
                        refine wpTL_call rfl (fun K hK => ?_)
                        have z0 : U3.cell? ⟨N2, 0, none⟩ = some (.int .i64 0) := by rw [cell_of_row _ _ _ _ _ _ e2]; rfl
                        have z1 : U3.cell? ⟨N2, 1, none⟩ = some (.bool false) := by rw [cell_of_row _ _ _ _ _ _ e2]; rfl
                        have z2 : U3.cell? ⟨N2, 2, none⟩ = some (.int .i64 0) := by rw [cell_of_row _ _ _ _ _ _ e2]; rfl
                        have z3 : U3.cell? ⟨N2, 3, none⟩ = some (.slice none 0 0) := by rw [cell_of_row _ _ _ _ _ _ e2]; rfl
                        have y0 := frozen_row e2 0
                        have y1 := frozen_row e2 1
                        have y2 := frozen_row e2 2
                        have y3 := frozen_row e2 3
                        obtain ⟨mU4, gU4⟩ := fourE e2 (Value.int .i64 (pos : Int)) (Value.bool tu) (Value.int .i64 (mi : Int)) (Value.slice qda qdn qdc)
                        go_wp2_with fail
                        refine hK _ _ ((Below.refl _ _).grown gU4 (Nat.le_trans hBUs BU3.size) (fun k e => by cases e; exact hN2.out)) ?_
                        clear hK K z0 z1 z2 z3 y0 y1 y2 y3
                        try simp only [Act.put, List.setIfInBounds_toArray, List.set_cons_succ, List.set_cons_zero]
                        have e1 := row_grown mU3 gU4 ne
                        have BU4 := BU3.grown gU4 (Nat.le_trans hBUs BU3.size) (fun k e => by cases e; exact hN2.out)
                        generalize ((((U3.setCell ⟨N2, 0, none⟩ (Value.int .i64 (pos : Int))).setCell ⟨N2, 1, none⟩ (Value.bool tu)).setCell ⟨N2, 2, none⟩ (Value.int .i64 (mi : Int))).setCell ⟨N2, 3, none⟩ (Value.slice qda qdn qdc)) = U4 at *
                        refine wpTL_nil ?_
                        exact HF U4 N1 N2 ⟨BU4, e1, mU4⟩
                      · refine wpTL_call rfl (fun K hK => ?_)
                        go_wp2_with fail
                        have bU1 := below_alloc U (.cells #[.int .i64 0, .bool false, .int .i64 0, .slice none 0 0] 35)
                        have rU1 := heap_alloc_new U (.cells #[.int .i64 0, .bool false, .int .i64 0, .slice none 0 0] 35)
                        have BU1 := BU.trans (bU1.mono (Nat.le_trans hBUs BU.size))
                        refine hK _ _ (bU1.mono (Nat.le_trans hBUs BU.size)) ?_
                        clear hK K
                        try simp only [Act.put, List.setIfInBounds_toArray, List.set_cons_succ, List.set_cons_zero]
                        obtain ⟨N2, eN2⟩ : ∃ N2, N2 = U.heap.size := ⟨_, rfl⟩
                        rw [← eN2] at rU1 ⊢
                        have hN2 : Hid (B0 ≤ N2) := hid (by rw [eN2]; exact Nat.le_trans hBUs BU.size)
                        have lN2 : Hid (N2 < (U.alloc (.cells #[.int .i64 0, .bool false, .int .i64 0, .slice none 0 0] 35)).heap.size) := hid (by rw [World.size_alloc, eN2]; omega)
                        have uN2 : Hid (N2 = U.heap.size) := hid eN2
                        clear eN2
                        generalize U.alloc (.cells #[.int .i64 0, .bool false, .int .i64 0, .slice none 0 0] 35) = U1 at *
                        refine wpTL_call rfl (fun K hK => ?_)
                        go_wp2_with fail
                        have bU2 := below_alloc U1 (.cells #[.int .i64 0, .bool false, .int .i64 0, .slice none 0 0] 35)
                        have rU2 := heap_alloc_new U1 (.cells #[.int .i64 0, .bool false, .int .i64 0, .slice none 0 0] 35)
                        have BU2 := BU1.trans (bU2.mono (Nat.le_trans hBUs BU1.size))
                        refine hK _ _ (bU2.mono (Nat.le_trans hBUs BU1.size)) ?_
                        clear hK K
                        try simp only [Act.put, List.setIfInBounds_toArray, List.set_cons_succ, List.set_cons_zero]
                        obtain ⟨N1, eN1⟩ : ∃ N1, N1 = U1.heap.size := ⟨_, rfl⟩
                        rw [← eN1] at rU2 ⊢
                        have hN1 : Hid (B0 ≤ N1) := hid (by rw [eN1]; exact Nat.le_trans hBUs BU1.size)
                        have lN1 : Hid (N1 < (U1.alloc (.cells #[.int .i64 0, .bool false, .int .i64 0, .slice none 0 0] 35)).heap.size) := hid (by rw [World.size_alloc, eN1]; omega)
                        have uN1 : Hid (N1 = U1.heap.size) := hid eN1
                        clear eN1
                        generalize U1.alloc (.cells #[.int .i64 0, .bool false, .int .i64 0, .slice none 0 0] 35) = U2 at *
                        have e2 := row_below rU1 bU2
                        have e1 := rU2
                        have ne : N1 ≠ N2 := by have h1 := lN2.out; have h2 := uN1.out; omega
                        refine wpTL_call rfl (fun K hK => ?_)
                        have z0 : U2.cell? ⟨N1, 0, none⟩ = some (.int .i64 0) := by rw [cell_of_row _ _ _ _ _ _ e1]; rfl
                        have z1 : U2.cell? ⟨N1, 1, none⟩ = some (.bool false) := by rw [cell_of_row _ _ _ _ _ _ e1]; rfl
                        have z2 : U2.cell? ⟨N1, 2, none⟩ = some (.int .i64 0) := by rw [cell_of_row _ _ _ _ _ _ e1]; rfl
                        have z3 : U2.cell? ⟨N1, 3, none⟩ = some (.slice none 0 0) := by rw [cell_of_row _ _ _ _ _ _ e1]; rfl
                        have y0 := frozen_row e1 0
                        have y1 := frozen_row e1 1
                        have y2 := frozen_row e1 2
                        have y3 := frozen_row e1 3
                        obtain ⟨mU3, gU3⟩ := fourE e1 (Value.int .i64 (pos : Int)) (Value.bool tu) (Value.int .i64 (mi : Int)) (Value.slice pda pdn pdc)
                        go_wp2_with fail
                        refine hK _ _ ((Below.refl _ _).grown gU3 (Nat.le_trans hBUs BU2.size) (fun k e => by cases e; exact hN1.out)) ?_
                        clear hK K z0 z1 z2 z3 y0 y1 y2 y3
                        try simp only [Act.put, List.setIfInBounds_toArray, List.set_cons_succ, List.set_cons_zero]
                        have e2 := row_grown e2 gU3 (fun h => ne h.symm)
                        have BU3 := BU2.grown gU3 (Nat.le_trans hBUs BU2.size) (fun k e => by cases e; exact hN1.out)
                        generalize ((((U2.setCell ⟨N1, 0, none⟩ (Value.int .i64 (pos : Int))).setCell ⟨N1, 1, none⟩ (Value.bool tu)).setCell ⟨N1, 2, none⟩ (Value.int .i64 (mi : Int))).setCell ⟨N1, 3, none⟩ (Value.slice pda pdn pdc)) = U3 at *
                        refine wpTL_call rfl (fun K hK => ?_)
                        have z0 : U3.cell? ⟨N2, 0, none⟩ = some (.int .i64 0) := by rw [cell_of_row _ _ _ _ _ _ e2]; rfl
                        have z1 : U3.cell? ⟨N2, 1, none⟩ = some (.bool false) := by rw [cell_of_row _ _ _ _ _ _ e2]; rfl
                        have z2 : U3.cell? ⟨N2, 2, none⟩ = some (.int .i64 0) := by rw [cell_of_row _ _ _ _ _ _ e2]; rfl
                        have z3 : U3.cell? ⟨N2, 3, none⟩ = some (.slice none 0 0) := by rw [cell_of_row _ _ _ _ _ _ e2]; rfl
                        have y0 := frozen_row e2 0
                        have y1 := frozen_row e2 1
                        have y2 := frozen_row e2 2
                        have y3 := frozen_row e2 3
                        obtain ⟨mU4, gU4⟩ := fourE e2 (Value.int .i64 (pos : Int)) (Value.bool tu) (Value.int .i64 (mi : Int)) (Value.slice qda qdn qdc)
                        go_wp2_with fail
                        refine hK _ _ ((Below.refl _ _).grown gU4 (Nat.le_trans hBUs BU3.size) (fun k e => by cases e; exact hN2.out)) ?_
                        clear hK K z0 z1 z2 z3 y0 y1 y2 y3
                        try simp only [Act.put, List.setIfInBounds_toArray, List.set_cons_succ, List.set_cons_zero]
                        have e1 := row_grown mU3 gU4 ne
                        have BU4 := BU3.grown gU4 (Nat.le_trans hBUs BU3.size) (fun k e => by cases e; exact hN2.out)
                        generalize ((((U3.setCell ⟨N2, 0, none⟩ (Value.int .i64 (pos : Int))).setCell ⟨N2, 1, none⟩ (Value.bool tu)).setCell ⟨N2, 2, none⟩ (Value.int .i64 (mi : Int))).setCell ⟨N2, 3, none⟩ (Value.slice qda qdn qdc)) = U4 at *
                        refine wpTL_nil ?_
                        exact HF U4 N1 N2 ⟨BU4, e1, mU4⟩
                    · intro V N1 N2 hF
                      have hUW : Below wr.heap.size wr V := by rw [← HB0.out]; exact bU.trans hF.blw
                      have hZV : Below T2.heap.size T2 V := hZ.trans (hUW.mono hZ.size)
                      have x0 : V.cell? ⟨N1, 0, none⟩ = some (.int .i64 (pos : Int)) := by rw [cell_of_row _ _ _ _ _ _ hF.one]; rfl
                      have x1 : V.cell? ⟨N1, 1, none⟩ = some (.bool tu) := by rw [cell_of_row _ _ _ _ _ _ hF.one]; rfl
                      have x2 : V.cell? ⟨N1, 2, none⟩ = some (.int .i64 (mi : Int)) := by rw [cell_of_row _ _ _ _ _ _ hF.one]; rfl
                      have x3 : V.cell? ⟨N1, 3, none⟩ = some (.slice pda pdn pdc) := by rw [cell_of_row _ _ _ _ _ _ hF.one]; rfl
                      have y0 : V.cell? ⟨N2, 0, none⟩ = some (.int .i64 (pos : Int)) := by rw [cell_of_row _ _ _ _ _ _ hF.two]; rfl
                      have y1 : V.cell? ⟨N2, 1, none⟩ = some (.bool tu) := by rw [cell_of_row _ _ _ _ _ _ hF.two]; rfl
                      have y2 : V.cell? ⟨N2, 2, none⟩ = some (.int .i64 (mi : Int)) := by rw [cell_of_row _ _ _ _ _ _ hF.two]; rfl
                      have y3 : V.cell? ⟨N2, 3, none⟩ = some (.slice qda qdn qdc) := by rw [cell_of_row _ _ _ _ _ _ hF.two]; rfl
                      have k1 := run_str (P := Try.prog) 24 5 9 Try.underlying24 Try.underlying5 Try.underlying9 (Rd.ofOwn (ownsRow_below iP.1 hZV))
                      have k2 := run_str (P := Try.prog) 24 5 9 Try.underlying24 Try.underlying5 Try.underlying9 (Rd.ofOwn (ownsRow_below iQ.1 hZV))
                      clear D0 D1 D2 D3 E0 E1 E2 E3 G0 iP iQ hF hUW bU
                      generalize strB dsv = sv at *
                      go_wp2_with fail
                      go_roundw
                      case rel => exact ⟨j + 1, by go_num, by omega, hZV⟩
                      case measure => simp [intOf]; omega
                  · obtain rfl : j = F1.length := by omega
                    go_wp2_with fail
                    go_ret
                    exact ⟨rfl, hBW.trans (hZ.mono hBW.size)⟩
    · obtain rfl : cn = k := by omega
      clear hc hcb
      have hrb := hI.form
      go_wp2_with (at_builtin; refine hold ?_)
      unfold Hid
      have b5 := below_alloc wr (.cells #[.slice ra rn rc] 24)
      refine wpList_append_wide_at rfl _ _ 26 rfl W1.heap.size 24 i24 _ 1 24 Try.underlying26 hi24 hz24 hs24 hb24 rfl (by decide) (.slice va cn vc) cn (hs.map hv) rfl (ownsRow_below hI.row b5) ⟨wr.heap.size, 0, none⟩ 1 1 [.slice ra rn rc] rfl rfl (one_new _ _ _) (by simp [Value.oneCell']) (by unfold maxLen; omega) (by omega) (Nat.le_trans hI.blw.size b5.size) ?_
      intro v' V oA gA _
      obtain ⟨va', vc', rfl, _, _⟩ := own_slice oA
      have B6 := hI.blw.trans (b5.mono hI.blw.size)
      have BV : Below W1.heap.size W1 V := B6.grown gA B6.size (fun j hj => (hI.row.lt j hj).1)
      obtain ⟨kp, hkp⟩ : ∃ kp, kp = cn + 1 := ⟨_, rfl⟩
      rw [← hkp] at oA ⊢
      have hk0 : 0 < kp := by omega
      have hk51 : kp ≤ 51 := by omega
      have oA : V.ownsRow W1.heap.size 24 1 (.slice va' kp vc') kp ((hs ++ [(ra, rn, rc)]).map hv) := by rw [List.map_append]; exact oA
      have hE : All2 (fun (h : Hd) ps => Rd W1 h.1 h.2.1 h.2.2 (vb ps) ∧ AllB ps) (hs ++ [(ra, rn, rc)]) (pss ++ [rest]) := forall2_snoc hI.each ⟨hI.rd, hI.rb⟩
      have hfl : (pss ++ [rest]).flatten = bs := by rw [List.flatten_append]; simpa using hI.all
      have hpl : (pss ++ [rest]).length = kp := by
        have h9 := hE.len
        have h8 := oA.1
        rw [List.length_map] at h8
        omega
      clear hI b5 B6 gA hrb hkp
      generalize hs ++ [(ra, rn, rc)] = hs at *
      generalize pss ++ [rest] = pss at *
      have hVV := row_below hx1 BV
      have hBV := hB1.trans (BV.mono hB1.size)
      have hbV := hb.below hBV
      have n0 : V.cell? ⟨b, 0, none⟩ = some (.int .i64 r0) := by rw [cell_of_row _ _ _ _ _ _ hVV]; rfl
      have n1 : V.cell? ⟨b, 1, none⟩ = some (.int .i64 r1) := by rw [cell_of_row _ _ _ _ _ _ hVV]; rfl
      have n2 : V.cell? ⟨b, 2, none⟩ = some (.int .i64 r2) := by rw [cell_of_row _ _ _ _ _ _ hVV]; rfl
      have n3 : V.cell? ⟨b, 3, none⟩ = some (.int .i64 r3) := by rw [cell_of_row _ _ _ _ _ _ hVV]; rfl
      have bA := below_alloc V (.cells #[.slice ba bn bc] 24)
      have pA : PcsAt (V.alloc (.cells #[.slice ba bn bc] 24)) (some ⟨V.heap.size, 0, none⟩) 1 1 [(ba, bn, bc)] [bs] :=
        ⟨Rd.ofOwn (own_of_heap (B := 0) (xs := [.slice ba bn bc]) (heap_alloc_new _ _) rfl (Nat.zero_le _) (by unfold maxLen; omega)), .cons ⟨hbV.below bA, hbb⟩ .nil⟩
      have hVA := row_below hVV bA
      have hBA := hBV.trans (bA.mono hBV.size)
      have BA := BV.trans (bA.mono BV.size)
      have oAA := ownsRow_below oA bA
      clear oA hVV hBV BV hbV bA
      go_wp2_with fail
      clear n0 n1 n2 n3
      obtain ⟨Y, hYe⟩ : ∃ Y, Y = V.alloc (.cells #[.slice ba bn bc] 24) := ⟨_, rfl⟩
      rw [← hYe] at pA hVA hBA BA oAA ⊢
      clear hYe
      by_cases hbS : badS r0
      · refine (listen_size r0 r1 r2 r3 hbS _ 1 1 Y).mono ?_
        rintro e X ⟨rfl, bX⟩
        have hVX := row_below hVA bX
        have hBX := hBA.trans (bX.mono hBA.size)
        have n0 : X.cell? ⟨b, 0, none⟩ = some (.int .i64 r0) := by rw [cell_of_row _ _ _ _ _ _ hVX]; rfl
        have n1 : X.cell? ⟨b, 1, none⟩ = some (.int .i64 r1) := by rw [cell_of_row _ _ _ _ _ _ hVX]; rfl
        have n2 : X.cell? ⟨b, 2, none⟩ = some (.int .i64 r2) := by rw [cell_of_row _ _ _ _ _ _ hVX]; rfl
        have n3 : X.cell? ⟨b, 3, none⟩ = some (.int .i64 r3) := by rw [cell_of_row _ _ _ _ _ _ hVX]; rfl
        clear hVA pA oAA hBA BA bX hE hfl hpl
        go_wp2_with fail
        refine (listen_size r0 r1 r2 r3 hbS va' kp vc' X).mono ?_
        rintro e X2 ⟨rfl, bX2⟩
        have hBX := hBX.trans (bX2.mono hBX.size)
        clear n0 n1 n2 n3 hVX bX2
        go_wp2_with fail
        refine (listen_size 0 0 0 0 (.inl (by decide)) none 0 0 X2).mono ?_
        rintro e X3 ⟨rfl, bX3⟩
        have hBX := hBX.trans (bX3.mono hBX.size)
        clear bX3
        go_wp2_with fail
        go_ret
        exact ⟨rfl, hBX⟩
      · by_cases hbR : badR r1 r2 r3
        · refine (listen_range r0 r1 r2 r3 hbS hbR _ 1 1 Y).mono ?_
          rintro e X ⟨rfl, bX⟩
          have hVX := row_below hVA bX
          have hBX := hBA.trans (bX.mono hBA.size)
          have n0 : X.cell? ⟨b, 0, none⟩ = some (.int .i64 r0) := by rw [cell_of_row _ _ _ _ _ _ hVX]; rfl
          have n1 : X.cell? ⟨b, 1, none⟩ = some (.int .i64 r1) := by rw [cell_of_row _ _ _ _ _ _ hVX]; rfl
          have n2 : X.cell? ⟨b, 2, none⟩ = some (.int .i64 r2) := by rw [cell_of_row _ _ _ _ _ _ hVX]; rfl
          have n3 : X.cell? ⟨b, 3, none⟩ = some (.int .i64 r3) := by rw [cell_of_row _ _ _ _ _ _ hVX]; rfl
          clear hVA pA oAA hBA BA bX hE hfl hpl
          go_wp2_with fail
          refine (listen_range r0 r1 r2 r3 hbS hbR va' kp vc' X).mono ?_
          rintro e X2 ⟨rfl, bX2⟩
          have hBX := hBX.trans (bX2.mono hBX.size)
          clear n0 n1 n2 n3 hVX bX2
          go_wp2_with fail
          refine (listen_size 0 0 0 0 (.inl (by decide)) none 0 0 X2).mono ?_
          rintro e X3 ⟨rfl, bX3⟩
          have hBX := hBX.trans (bX3.mono hBX.size)
          clear bX3
          go_wp2_with fail
          go_ret
          exact ⟨rfl, hBX⟩
        · have hg0 : 1 ≤ r0 ∧ r0 ≤ 2048 := by unfold badS at hbS; omega
          have hg1 : (0 ≤ r1 ∧ r1 ≤ 8) ∧ (0 ≤ r2 ∧ r2 ≤ 12) ∧ (0 ≤ r3 ∧ r3 ≤ 8) := by unfold badR at hbR; omega
          obtain ⟨L, rfl⟩ := Int.eq_ofNat_of_zero_le (by omega : 0 ≤ r0)
          obtain ⟨F_, rfl⟩ := Int.eq_ofNat_of_zero_le hg1.1.1
          obtain ⟨H_, rfl⟩ := Int.eq_ofNat_of_zero_le hg1.2.1.1
          obtain ⟨M_, rfl⟩ := Int.eq_ofNat_of_zero_le hg1.2.2.1
          clear hbS hbR h0 h1 h2 h3
          have hLL : 1 ≤ L ∧ L ≤ 2048 := by omega
          have hF8 : F_ ≤ 8 ∧ H_ ≤ 12 ∧ M_ ≤ 8 := by omega
          refine (listen_ok L F_ H_ M_ hLL (by omega) (by omega) (by omega) (some ⟨V.heap.size, 0, none⟩) 1 1 [(ba, bn, bc)] [bs] Y pA (by decide) (by simp only [List.flatten_cons, List.flatten_nil, List.append_nil]; omega)).mono ?_
          rintro e X ⟨ga, qa, la, gc, qc, lc, ha, FA, los, C, m, rfl, hP⟩
          have hPb := hP.blw
          obtain ⟨a1, x1, c1, F1, g, gl, rfl, rfl, cg, cl, o1, hx1', i1, hrun, hg, hgl⟩ := hP.one
          have hVX := row_below hVA hPb
          have hBX := hBA.trans (hPb.mono hBA.size)
          have BX := BA.trans (hPb.mono BA.size)
          have oX := ownsRow_below oAA hPb
          have n0 : X.cell? ⟨b, 0, none⟩ = some (.int .i64 (L : Int)) := by rw [cell_of_row _ _ _ _ _ _ hVX]; rfl
          have n1 : X.cell? ⟨b, 1, none⟩ = some (.int .i64 (F_ : Int)) := by rw [cell_of_row _ _ _ _ _ _ hVX]; rfl
          have n2 : X.cell? ⟨b, 2, none⟩ = some (.int .i64 (H_ : Int)) := by rw [cell_of_row _ _ _ _ _ _ hVX]; rfl
          have n3 : X.cell? ⟨b, 3, none⟩ = some (.int .i64 (M_ : Int)) := by rw [cell_of_row _ _ _ _ _ _ hVX]; rfl
          clear hVA pA oAA hBA BA hP hg0 hg1
          subst hx1'
          go_wp2_with fail
          have pB : PcsAt X va' kp vc' hs pss := ⟨Rd.ofOwn oX, forall2_imp (fun _ _ y => ⟨y.1.below BX, y.2⟩) hE⟩
          refine (listen_ok L F_ H_ M_ hLL (by omega) (by omega) (by omega) va' kp vc' hs pss X pB (by omega) (by rw [hfl]; omega)).mono ?_
          rintro e X2 ⟨gb, qb, lb, gbc, qbc, lbc, hb2, FB, los2, C2, m2, rfl, hP2⟩
          have hPb2 := hP2.blw
          obtain ⟨g2, gl2, rfl, rfl, hg2, hgl2, cl2, hFB, hFBl, hfew⟩ := hP2.cuts hLL.1 hfl hpl hk0 hrun
          have hVX2 := row_below hVX hPb2
          have hBX2 := hBX.trans (hPb2.mono hBX.size)
          clear n0 n1 n2 n3 hVX hBX BX oX pB hE hfl hpl
          go_wp2_with fail
          refine (listen_size 0 0 0 0 (.inl (by decide)) none 0 0 X2).mono ?_
          rintro e Z ⟨rfl, bZ⟩
          have hBZ := hBX2.trans (bZ.mono hBX2.size)
          obtain ⟨kq, hkq⟩ : ∃ kq, kp = kq + 1 := ⟨kp - 1, by omega⟩
          have a1 : (kp : Int) - 1 = (kq : Int) := by omega
          have a2 : IntKind.i64.wrap (kq : Int) = (kq : Int) := IntWalk.i64_in _ (by omega)
          have hkq1 : kp - 1 = kq := by omega
          rw [hkq1] at cl2
          have a3 : (kq : Int) < (kp : Int) := by omega
          have a4 : (0 : Int) ≤ (kq : Int) := by omega
          have Hkq := hid hkq
          clear hkq hkq1
          have clZ := (bZ.cell (p := ⟨gl, 0, none⟩) (Nat.lt_of_lt_of_le hgl hPb2.size)).trans ((hPb2.cell (p := ⟨gl, 0, none⟩) hgl).trans cl)
          have clZ2 := (bZ.cell (p := ⟨gl2, kq, none⟩) hgl2).trans cl2
          have cgZ := (bZ.cell (p := ⟨g, 0, none⟩) (Nat.lt_of_lt_of_le hg hPb2.size)).trans ((hPb2.cell (p := ⟨g, 0, none⟩) hg).trans cg)
          have o1Z := ownsRow_below (ownsRow_below o1 hPb2) bZ
          have i1Z : ∀ f ∈ F1, f.In Z Y.heap.size := fun f hf => ⟨ownsRow_below (ownsRow_below (i1 f hf).1 hPb2) bZ, (i1 f hf).2⟩
          have oBZ := ownsRow_below hP2.row bZ
          have eBZ : All2 (fun (h : Hd) F => Z.ownsRow X.heap.size 35 4 (hv h) h.2.1 (fcs F) ∧ h.2.1 = F.length ∧ ∀ f ∈ F, f.In Z X.heap.size) hb2 FB := forall2_imp (fun _ _ y => ⟨ownsRow_below y.1 bZ, y.2.1, fun f hf => ⟨ownsRow_below (y.2.2 f hf).1 bZ, (y.2.2 f hf).2⟩⟩) hP2.each
          have hlb := hP2.len
          have hgZ : g < Z.heap.size := Nat.lt_of_lt_of_le (Nat.lt_of_lt_of_le hg hPb2.size) bZ.size
          have hg2Z : g2 < Z.heap.size := Nat.lt_of_lt_of_le hg2 bZ.size
          have hgl1 : gl < Z.heap.size := Nat.lt_of_lt_of_le (Nat.lt_of_lt_of_le hgl hPb2.size) bZ.size
          have hgl3 : gl2 < Z.heap.size := Nat.lt_of_lt_of_le hgl2 bZ.size
          clear cl cl2 cg o1 i1 bZ hP2 hPb2 hPb hBX2 hVX2 hrun
          go_upto_region 17 with fail
          refine wp_region_can_all [] [0, 1, 2, 3, 4, 5, 6, 7, 8, 9, 10, 11, 12, 13, 14, 15, 16, 17, 18, 19, 20, 21, 22, 23, 24, 25, 26, 27, 28, 29, 30, 31, 32, 33] Ext Ext.refl Ext.trans (by kernel_rfl) (by kernel_rfl) ?_
          simp only [List.map_cons, List.map_nil, List.contains_cons, List.contains_nil, List.getD_cons_zero, List.getD_cons_succ, Nat.reduceBEq, Bool.or_false, Bool.or_true]
          have bD : Below Z.heap.size Z Z.drew := (Below.refl _ _).drew
          have d1 : ∀ w', Ext Z.drew w' → w'.cell? ⟨gl, 0, none⟩ = some (.bool m.lo) := fun w' hw => (hw.cell (p := ⟨gl, 0, none⟩) hgl1).trans clZ
          have d2 : ∀ w', Ext Z.drew w' → w'.cell? ⟨gl2, kq, none⟩ = some (.bool m.lo) := fun w' hw => (hw.cell (p := ⟨gl2, kq, none⟩) hgl3).trans clZ2
          iterate 34 (refine wpL_do rfl (fun w' hw' => (by go_simp; rfl)) ?_; simp only [Act.put, List.setIfInBounds_toArray, List.set_cons_succ, List.set_cons_zero])
          refine wpL_nil ?_
          clear d1 d2 a1 a2 a3 a4
          have hBD := hBZ.trans (bD.mono hBZ.size)
          have cgD := (bD.cell (p := ⟨g, 0, none⟩) hgZ).trans cgZ
          have o1D := ownsRow_below o1Z bD
          have i1D : ∀ f ∈ F1, f.In Z.drew Y.heap.size := fun f hf => ⟨ownsRow_below (i1Z f hf).1 bD, (i1Z f hf).2⟩
          have oBD := ownsRow_below oBZ bD
          have eBD : All2 (fun (h : Hd) F => Z.drew.ownsRow X.heap.size 35 4 (hv h) h.2.1 (fcs F) ∧ h.2.1 = F.length ∧ ∀ f ∈ F, f.In Z.drew X.heap.size) hb2 FB := forall2_imp (fun _ _ y => ⟨ownsRow_below y.1 bD, y.2.1, fun f hf => ⟨ownsRow_below (y.2.2 f hf).1 bD, (y.2.2 f hf).2⟩⟩) eBZ
          clear clZ clZ2 cgZ o1Z i1Z oBZ eBZ hBZ bD
          have hgD : g < Z.drew.heap.size := hgZ
          have hg2D : g2 < Z.drew.heap.size := hg2Z
          clear hgZ hg2Z hgl1 hgl3
          generalize Z.drew = T at *
          have hfl1 : FB.flatten.length = F1.length := by have := congrArg List.length hFB; rwa [List.length_map, List.length_map] at this
          have hf39 : 39 * F1.length ≤ 140737488351232 := by have := hfew; rw [List.length_map] at this; omega
          obtain ⟨i35, hi35, hz35, hs35, hb35⟩ := info_parts Try.info35
          have HFB := hid (⟨hFB, hFBl, hfl1⟩ : _ ∧ _ ∧ _)
          clear hFB hFBl hfl1 hfew
          go_wp2_with fail
          go_loopw [23, 24] (fun av i wr => ∃ (j : Nat) (aa : Option Addr) (an ac : Nat), av = .slice aa an ac ∧ i = .int .i64 (j : Int) ∧ j ≤ kp ∧ wr.ownsRow T.heap.size 35 4 (.slice aa an ac) an (fcs (FB.take j).flatten) ∧ an = (FB.take j).flatten.length ∧ Below T.heap.size T wr) (fun _ i _ => kp - (intOf i).toNat)
          case atStart => exact ⟨0, none, 0, 0, rfl, rfl, Nat.zero_le _, World.ownsRow_nil _ _ _ _, rfl, Below.refl _ _⟩
          case round =>
            obtain ⟨j, aa, an, ac, rfl, rfl, hj, hO, han, hZ⟩ := hrel
            by_cases hjk : j < kp
            · have t2 : (j : Int) < (kp : Int) := by omega
              have hjh : j < hb2.length := by omega
              have hjF : j < FB.length := by have := HFB.out; omega
              obtain ⟨e1, e2, _⟩ := eBD.get j hjh hjF
              have hcj : T.cell? ⟨g2, j, none⟩ = some (hv hb2[j]) := by rw [oBD.cellAt j (by omega), List.getElem?_map, List.getElem?_eq_getElem hjh]; rfl
              obtain ⟨⟨xa, xn, xc⟩, hsd⟩ : ∃ h, h = hb2[j] := ⟨_, rfl⟩
              rw [← hsd] at e1 e2 hcj
              have hcj : wr.cell? ⟨g2, j, none⟩ = some (.slice xa xn xc) := (hZ.cell (p := ⟨g2, j, none⟩) hg2D).trans hcj
              have e1 : wr.ownsRow X.heap.size 35 4 (.slice xa xn xc) xn (fcs FB[j]) := ownsRow_below e1 hZ
              have e2x : xn = FB[j].length := e2
              clear e2
              have htk : (FB.take (j + 1)).flatten = (FB.take j).flatten ++ FB[j] := by rw [List.take_add_one, List.getElem?_eq_getElem hjF, Option.toList_some, List.flatten_append, List.flatten_cons, List.flatten_nil, List.append_nil]
              have hle : (FB.take (j + 1)).flatten.length ≤ F1.length := by
                have h9 : FB.flatten = (FB.take (j + 1)).flatten ++ (FB.drop (j + 1)).flatten := by rw [← List.flatten_append, List.take_append_drop]
                have h8 := congrArg List.length h9
                rw [List.length_append] at h8
                have := HFB.out; omega
              have hsum : an + xn ≤ F1.length := by rw [htk, List.length_append] at hle; omega
              have Htk := hid htk
              have He2 := hid e2x
              have Han := hid han
              have Hs := hid (show (FB.take (j + 1)).flatten.length = an + xn by rw [htk, List.length_append, han, e2x])
              clear htk hsd e2x han hle
              cases xa with
              | none =>
                have hnil : xn = 0 ∧ xc = 0 ∧ fcs FB[j] = [] := by
                  rcases e1.2 with ⟨h9, h8⟩ | ⟨_, _, _, h9, _⟩
                  · cases h9; exact ⟨rfl, rfl, List.eq_nil_of_length_eq_zero (by rw [e1.1])⟩
                  · cases h9
                obtain ⟨rfl, rfl, h8⟩ := hnil
                have hF0 := hid (show FB[j] = [] from List.eq_nil_of_length_eq_zero He2.out.symm)
                clear h8 He2
                go_wp2_with (at_builtin; refine hold ?_)
                unfold Hid
                refine wpList_append_own_none rfl _ _ 33 rfl T.heap.size 35 i35 4 Try.underlying33 hi35 (.slice aa an ac) an (fcs (FB.take j).flatten) rfl hO rfl ?_
                have hO2 : wr.ownsRow T.heap.size 35 4 (.slice aa an ac) an (fcs (FB.take (j + 1)).flatten) := by rw [Htk.out, hF0.out, List.append_nil]; exact hO
                have han2 : an = (FB.take (j + 1)).flatten.length := by rw [Htk.out, hF0.out, List.append_nil]; exact Han.out
                clear hO e1 hcj
                have Han2 := hid han2
                clear han2
                go_wp2_with fail
                go_roundw
                case rel => exact ⟨j + 1, aa, an, ac, rfl, by go_num, by omega, hO2, Han2.out, hZ⟩
                case measure => simp [intOf]; omega
              | some ad =>
                obtain ⟨gx, rfl⟩ : ∃ gx, ad = ⟨gx, 0, none⟩ := by
                  rcases e1.2 with ⟨h9, _⟩ | ⟨gx, _, _, h9, _⟩
                  · cases h9
                  · cases h9; exact ⟨gx, rfl⟩
                clear He2
                go_wp2_with (at_builtin; refine hold ?_)
                unfold Hid
                refine wpList_append_wide_at rfl _ _ 33 rfl T.heap.size 35 i35 _ 4 48 Try.underlying33 hi35 hz35 hs35 hb35 rfl (by decide) (.slice aa an ac) an (fcs (FB.take j).flatten) rfl hO ⟨gx, 0, none⟩ xn xc (fcs FB[j]) rfl (by have := e1.1; exact this) (own_news4 e1) (fcs_one _) (by unfold maxLen; omega) (by omega) hZ.size ?_
                intro v' V2 oV gV _
                obtain ⟨aa', ac', rfl, _, _⟩ := own_slice oV
                have hB3 : Below T.heap.size T V2 := hZ.grown gV hZ.size (fun q hq => (hO.lt q hq).1)
                obtain ⟨an', han'⟩ : ∃ an', an' = an + xn := ⟨_, rfl⟩
                rw [← han'] at oV ⊢
                have oV : V2.ownsRow T.heap.size 35 4 (.slice aa' an' ac') an' (fcs (FB.take (j + 1)).flatten) := by rw [Htk.out, fcs_app]; exact oV
                have Han2 := hid (show an' = (FB.take (j + 1)).flatten.length by rw [han']; exact Hs.out.symm)
                clear han' hO e1 hcj gV
                go_wp2_with fail
                go_roundw
                case rel => exact ⟨j + 1, aa', an', ac', rfl, by go_num, by omega, oV, Han2.out, hB3⟩
                case measure => simp [intOf]; omega
            · obtain rfl : kp = j := by omega
              have hfull : FB.take kp = FB := List.take_of_length_le (by have := HFB.out; omega)
              rw [hfull] at hO han
              have hBW := hBD.trans (hZ.mono hBD.size)
              have hanF : an = F1.length := by have := HFB.out; omega
              have cgW := (hZ.cell (p := ⟨g, 0, none⟩) hgD).trans cgD
              have hgW : g < wr.heap.size := Nat.lt_of_lt_of_le hgD hZ.size
              have o1W := ownsRow_below o1D hZ
              have i1W : ∀ f ∈ F1, f.In wr Y.heap.size := fun f hf => ⟨ownsRow_below (i1D f hf).1 hZ, (i1D f hf).2⟩
              have iBW : ∀ f ∈ FB.flatten, f.In wr X.heap.size := fun f hf => by
                obtain ⟨F, hF, hfF⟩ := List.mem_flatten.1 hf
                obtain ⟨q, hq, rfl⟩ := List.getElem_of_mem hF
                have := (eBD.get q (by have := eBD.len; omega) hq).2.2 f hfF
                exact ⟨ownsRow_below this.1 hZ, this.2⟩
              subst hanF
              clear han hfull cgD o1D i1D oBD eBD hZ hBD hgD hg2D
              go_wp2_with fail
              obtain ⟨T2, hT2⟩ : ∃ T2, T2 = wr := ⟨_, rfl⟩
              subst hT2
              go_loopw [25] (fun i wr => ∃ j : Nat, i = .int .i64 (j : Int) ∧ j ≤ F1.length ∧ Below T2.heap.size T2 wr) (fun i _ => F1.length - (intOf i).toNat)
              case atStart => exact ⟨0, rfl, Nat.zero_le _, Below.refl _ _⟩
              case round =>
                obtain ⟨j, rfl, hj2, hZ⟩ := hrel
                by_cases hjk2 : j < F1.length
                · have t2 : (j : Int) < (F1.length : Int) := by omega
                  have hjB : j < FB.flatten.length := by have := HFB.out; omega
                  have hfo : (FB.flatten[j]).fo = (F1[j]).fo := by
                    have h9 := congrArg (fun l => l[j]?) HFB.out.1
                    simp only [List.getElem?_map] at h9
                    rw [List.getElem?_eq_getElem hjB, List.getElem?_eq_getElem hjk2] at h9
                    simpa using h9
                  obtain ⟨gP, rfl⟩ := own_addr hO (by omega)
                  obtain ⟨gQ, rfl⟩ := own_addr o1W (by omega)
                  obtain ⟨p0, p1, p2, p3⟩ := Fd.cellsAt (ownsRow_below hO hZ) HFB.out.2.2.symm j hjB
                  obtain ⟨q0, q1, q2, q3⟩ := Fd.cellsAt (ownsRow_below o1W hZ) rfl j hjk2
                  have iP := iBW _ (List.getElem_mem hjB)
                  have iQ := i1W _ (List.getElem_mem hjk2)
                  unfold Fd.In at iP iQ
                  have f1 : (FB.flatten[j]).pos = (F1[j]).pos := congrArg Fo.pos hfo
                  have f2 : (FB.flatten[j]).tu = (F1[j]).tu := congrArg Fo.tu hfo
                  have f3 : (FB.flatten[j]).mi = (F1[j]).mi := congrArg Fo.mi hfo
                  have f4 : (FB.flatten[j]).ds = (F1[j]).ds := congrArg Fo.ds hfo
                  rw [f1] at p0
                  rw [f2] at p1
                  rw [f3] at p2
                  rw [f4] at iP
                  clear f1 f2 f3 f4 hfo
                  generalize (FB.flatten[j]).da = pda at *
                  generalize (FB.flatten[j]).dn = pdn at *
                  generalize (FB.flatten[j]).dc = pdc at *
                  generalize (F1[j]).da = qda at *
                  generalize (F1[j]).dn = qdn at *
                  generalize (F1[j]).dc = qdc at *
                  generalize (F1[j]).pos = pos at *
                  generalize (F1[j]).tu = tu at *
                  generalize (F1[j]).mi = mi at *
                  generalize (F1[j]).ds = dsv at *
                  have cgZ := (hZ.cell (p := ⟨g, 0, none⟩) hgW).trans cgW
                  go_upto_region 29 with fail
                  obtain ⟨U, hUe⟩ : ∃ U, U = wr.drew := ⟨_, rfl⟩
                  have bU : Below wr.heap.size wr U := by rw [hUe]; exact (Below.refl _ _).drew
                  have hUs : wr.heap.size = U.heap.size := by rw [hUe]; rfl
                  obtain ⟨B0, hB0⟩ : ∃ B0, B0 = wr.heap.size := ⟨_, rfl⟩
                  rw [← hB0] at bU hUs
                  have hBUs : B0 ≤ U.heap.size := Nat.le_of_eq hUs
                  have keep : ∀ {q : Addr} {v : Value} (w' : World), wr.cell? q = some v → q.block < wr.heap.size → Below B0 U w' → w'.cell? q = some v := fun w' hv hl hw => (hw.cell (by rw [hB0]; exact hl)).trans ((bU.cell (by rw [hB0]; exact hl)).trans hv)
                  have lP : gP < wr.heap.size := by have := own_lt (ownsRow_below hO hZ) rfl; exact this
                  have lQ : gQ < wr.heap.size := by have := own_lt (ownsRow_below o1W hZ) rfl; exact this
                  have lG : g < wr.heap.size := Nat.lt_of_lt_of_le hgW hZ.size
                  have D0 : ∀ w', Below B0 U w' → w'.cell? ⟨gP, j * 4, none⟩ = some (.int .i64 (pos : Int)) := fun w' hw => keep w' p0 lP hw
                  have D1 : ∀ w', Below B0 U w' → w'.cell? ⟨gP, j * 4 + 1, none⟩ = some (.bool tu) := fun w' hw => keep w' p1 lP hw
                  have D2 : ∀ w', Below B0 U w' → w'.cell? ⟨gP, j * 4 + 2, none⟩ = some (.int .i64 (mi : Int)) := fun w' hw => keep w' p2 lP hw
                  have D3 : ∀ w', Below B0 U w' → w'.cell? ⟨gP, j * 4 + 3, none⟩ = some (.slice pda pdn pdc) := fun w' hw => keep w' p3 lP hw
                  have E0 : ∀ w', Below B0 U w' → w'.cell? ⟨gQ, j * 4, none⟩ = some (.int .i64 (pos : Int)) := fun w' hw => keep w' q0 lQ hw
                  have E1 : ∀ w', Below B0 U w' → w'.cell? ⟨gQ, j * 4 + 1, none⟩ = some (.bool tu) := fun w' hw => keep w' q1 lQ hw
                  have E2 : ∀ w', Below B0 U w' → w'.cell? ⟨gQ, j * 4 + 2, none⟩ = some (.int .i64 (mi : Int)) := fun w' hw => keep w' q2 lQ hw
                  have E3 : ∀ w', Below B0 U w' → w'.cell? ⟨gQ, j * 4 + 3, none⟩ = some (.slice qda qdn qdc) := fun w' hw => keep w' q3 lQ hw
                  have G0 : ∀ w', Below B0 U w' → w'.cell? ⟨g, 0, none⟩ = some (.slice (some ⟨gQ, 0, none⟩) F1.length c1) := fun w' hw => keep w' cgZ lG hw
                  have HUe := hid hUe
                  have HB0 := hid hB0
                  clear hUe hB0 hUs p0 p1 p2 p3 q0 q1 q2 q3 cgZ keep
                  apply cut3 (F := fun V N1 N2 => TwoF B0 U V N1 N2 pos tu mi pda pdn pdc qda qdn qdc)
                  · intro HF
                    refine wp_region_plan [10, 11, 12, 13] (Plan.of [0, 1, 2, 3, 4, 5, 6, 7, 8, 9] (.two 10 (Plan.of [11, 12, 13] .nil) 11 (Plan.of [10, 12, 13] .nil))) (Below B0) (fun _ => Below.refl _ _) (fun _ _ _ h k => h.trans k) (by kernel_rfl) (by kernel_rfl) ?_
                    simp only [Plan.of, Plan.lay, List.contains_cons, List.contains_nil, List.getD_cons_zero, List.getD_cons_succ, Nat.reduceBEq, Bool.or_false, Bool.or_true]
                    rw [← HUe.out]
                    have BU : Below B0 U U := Below.refl _ _
                    repeat (refine wpTL_do rfl (fun w' hw' => (by go_simp; rfl)) ?_; simp only [Act.put, List.setIfInBounds_toArray, List.set_cons_succ, List.set_cons_zero])
                    refine wpTL_two ?_ ?_
                    · refine wpTL_call rfl (fun K hK => ?_)
                      go_wp2_with fail
                      have bU1 := below_alloc U (.cells #[.int .i64 0, .bool false, .int .i64 0, .slice none 0 0] 35)
                      have rU1 := heap_alloc_new U (.cells #[.int .i64 0, .bool false, .int .i64 0, .slice none 0 0] 35)
                      have BU1 := BU.trans (bU1.mono (Nat.le_trans hBUs BU.size))
                      refine hK _ _ (bU1.mono (Nat.le_trans hBUs BU.size)) ?_
                      clear hK K
                      try simp only [Act.put, List.setIfInBounds_toArray, List.set_cons_succ, List.set_cons_zero]
                      obtain ⟨N1, eN1⟩ : ∃ N1, N1 = U.heap.size := ⟨_, rfl⟩
                      rw [← eN1] at rU1 ⊢
                      have hN1 : Hid (B0 ≤ N1) := hid (by rw [eN1]; exact Nat.le_trans hBUs BU.size)
                      have lN1 : Hid (N1 < (U.alloc (.cells #[.int .i64 0, .bool false, .int .i64 0, .slice none 0 0] 35)).heap.size) := hid (by rw [World.size_alloc, eN1]; omega)
                      have uN1 : Hid (N1 = U.heap.size) := hid eN1
                      clear eN1
                      generalize U.alloc (.cells #[.int .i64 0, .bool false, .int .i64 0, .slice none 0 0] 35) = U1 at *
                      refine wpTL_call rfl (fun K hK => ?_)
                      go_wp2_with fail
                      have bU2 := below_alloc U1 (.cells #[.int .i64 0, .bool false, .int .i64 0, .slice none 0 0] 35)
                      have rU2 := heap_alloc_new U1 (.cells #[.int .i64 0, .bool false, .int .i64 0, .slice none 0 0] 35)
                      have BU2 := BU1.trans (bU2.mono (Nat.le_trans hBUs BU1.size))
                      refine hK _ _ (bU2.mono (Nat.le_trans hBUs BU1.size)) ?_
                      clear hK K
                      try simp only [Act.put, List.setIfInBounds_toArray, List.set_cons_succ, List.set_cons_zero]
                      obtain ⟨N2, eN2⟩ : ∃ N2, N2 = U1.heap.size := ⟨_, rfl⟩
                      rw [← eN2] at rU2 ⊢
                      have hN2 : Hid (B0 ≤ N2) := hid (by rw [eN2]; exact Nat.le_trans hBUs BU1.size)
                      have lN2 : Hid (N2 < (U1.alloc (.cells #[.int .i64 0, .bool false, .int .i64 0, .slice none 0 0] 35)).heap.size) := hid (by rw [World.size_alloc, eN2]; omega)
                      have uN2 : Hid (N2 = U1.heap.size) := hid eN2
                      clear eN2
                      generalize U1.alloc (.cells #[.int .i64 0, .bool false, .int .i64 0, .slice none 0 0] 35) = U2 at *
                      have e1 := row_below rU1 bU2
                      have e2 := rU2
                      have ne : N1 ≠ N2 := by have h1 := lN1.out; have h2 := uN2.out; omega
                      refine wpTL_call rfl (fun K hK => ?_)
                      have z0 : U2.cell? ⟨N1, 0, none⟩ = some (.int .i64 0) := by rw [cell_of_row _ _ _ _ _ _ e1]; rfl
                      have z1 : U2.cell? ⟨N1, 1, none⟩ = some (.bool false) := by rw [cell_of_row _ _ _ _ _ _ e1]; rfl
                      have z2 : U2.cell? ⟨N1, 2, none⟩ = some (.int .i64 0) := by rw [cell_of_row _ _ _ _ _ _ e1]; rfl
                      have z3 : U2.cell? ⟨N1, 3, none⟩ = some (.slice none 0 0) := by rw [cell_of_row _ _ _ _ _ _ e1]; rfl
                      have y0 := frozen_row e1 0
                      have y1 := frozen_row e1 1
                      have y2 := frozen_row e1 2
                      have y3 := frozen_row e1 3
                      obtain ⟨mU3, gU3⟩ := fourE e1 (Value.int .i64 (pos : Int)) (Value.bool tu) (Value.int .i64 (mi : Int)) (Value.slice pda pdn pdc)
                      go_wp2_with fail
                      refine hK _ _ ((Below.refl _ _).grown gU3 (Nat.le_trans hBUs BU2.size) (fun k e => by cases e; exact hN1.out)) ?_
                      clear hK K z0 z1 z2 z3 y0 y1 y2 y3
                      try simp only [Act.put, List.setIfInBounds_toArray, List.set_cons_succ, List.set_cons_zero]
                      have e2 := row_grown e2 gU3 (fun h => ne h.symm)
                      have BU3 := BU2.grown gU3 (Nat.le_trans hBUs BU2.size) (fun k e => by cases e; exact hN1.out)
                      generalize ((((U2.setCell ⟨N1, 0, none⟩ (Value.int .i64 (pos : Int))).setCell ⟨N1, 1, none⟩ (Value.bool tu)).setCell ⟨N1, 2, none⟩ (Value.int .i64 (mi : Int))).setCell ⟨N1, 3, none⟩ (Value.slice pda pdn pdc)) = U3 at *
                      refine wpTL_call rfl (fun K hK => ?_)
                      have z0 : U3.cell? ⟨N2, 0, none⟩ = some (.int .i64 0) := by rw [cell_of_row _ _ _ _ _ _ e2]; rfl
                      have z1 : U3.cell? ⟨N2, 1, none⟩ = some (.bool false) := by rw [cell_of_row _ _ _ _ _ _ e2]; rfl
                      have z2 : U3.cell? ⟨N2, 2, none⟩ = some (.int .i64 0) := by rw [cell_of_row _ _ _ _ _ _ e2]; rfl
                      have z3 : U3.cell? ⟨N2, 3, none⟩ = some (.slice none 0 0) := by rw [cell_of_row _ _ _ _ _ _ e2]; rfl
                      have y0 := frozen_row e2 0
                      have y1 := frozen_row e2 1
                      have y2 := frozen_row e2 2
                      have y3 := frozen_row e2 3
                      obtain ⟨mU4, gU4⟩ := fourE e2 (Value.int .i64 (pos : Int)) (Value.bool tu) (Value.int .i64 (mi : Int)) (Value.slice qda qdn qdc)
                      go_wp2_with fail
                      refine hK _ _ ((Below.refl _ _).grown gU4 (Nat.le_trans hBUs BU3.size) (fun k e => by cases e; exact hN2.out)) ?_
                      clear hK K z0 z1 z2 z3 y0 y1 y2 y3
                      try simp only [Act.put, List.setIfInBounds_toArray, List.set_cons_succ, List.set_cons_zero]
                      have e1 := row_grown mU3 gU4 ne
                      have BU4 := BU3.grown gU4 (Nat.le_trans hBUs BU3.size) (fun k e => by cases e; exact hN2.out)
                      generalize ((((U3.setCell ⟨N2, 0, none⟩ (Value.int .i64 (pos : Int))).setCell ⟨N2, 1, none⟩ (Value.bool tu)).setCell ⟨N2, 2, none⟩ (Value.int .i64 (mi : Int))).setCell ⟨N2, 3, none⟩ (Value.slice qda qdn qdc)) = U4 at *
                      refine wpTL_nil ?_
                      exact HF U4 N1 N2 ⟨BU4, e1, mU4⟩
                    · refine wpTL_call rfl (fun K hK => ?_)
                      go_wp2_with fail
                      have bU1 := below_alloc U (.cells #[.int .i64 0, .bool false, .int .i64 0, .slice none 0 0] 35)
                      have rU1 := heap_alloc_new U (.cells #[.int .i64 0, .bool false, .int .i64 0, .slice none 0 0] 35)
                      have BU1 := BU.trans (bU1.mono (Nat.le_trans hBUs BU.size))
                      refine hK _ _ (bU1.mono (Nat.le_trans hBUs BU.size)) ?_
                      clear hK K
                      try simp only [Act.put, List.setIfInBounds_toArray, List.set_cons_succ, List.set_cons_zero]
                      obtain ⟨N2, eN2⟩ : ∃ N2, N2 = U.heap.size := ⟨_, rfl⟩
                      rw [← eN2] at rU1 ⊢
                      have hN2 : Hid (B0 ≤ N2) := hid (by rw [eN2]; exact Nat.le_trans hBUs BU.size)
                      have lN2 : Hid (N2 < (U.alloc (.cells #[.int .i64 0, .bool false, .int .i64 0, .slice none 0 0] 35)).heap.size) := hid (by rw [World.size_alloc, eN2]; omega)
                      have uN2 : Hid (N2 = U.heap.size) := hid eN2
                      clear eN2
                      generalize U.alloc (.cells #[.int .i64 0, .bool false, .int .i64 0, .slice none 0 0] 35) = U1 at *
                      refine wpTL_call rfl (fun K hK => ?_)
                      go_wp2_with fail
                      have bU2 := below_alloc U1 (.cells #[.int .i64 0, .bool false, .int .i64 0, .slice none 0 0] 35)
                      have rU2 := heap_alloc_new U1 (.cells #[.int .i64 0, .bool false, .int .i64 0, .slice none 0 0] 35)
                      have BU2 := BU1.trans (bU2.mono (Nat.le_trans hBUs BU1.size))
                      refine hK _ _ (bU2.mono (Nat.le_trans hBUs BU1.size)) ?_
                      clear hK K
                      try simp only [Act.put, List.setIfInBounds_toArray, List.set_cons_succ, List.set_cons_zero]
                      obtain ⟨N1, eN1⟩ : ∃ N1, N1 = U1.heap.size := ⟨_, rfl⟩
                      rw [← eN1] at rU2 ⊢
                      have hN1 : Hid (B0 ≤ N1) := hid (by rw [eN1]; exact Nat.le_trans hBUs BU1.size)
                      have lN1 : Hid (N1 < (U1.alloc (.cells #[.int .i64 0, .bool false, .int .i64 0, .slice none 0 0] 35)).heap.size) := hid (by rw [World.size_alloc, eN1]; omega)
                      have uN1 : Hid (N1 = U1.heap.size) := hid eN1
                      clear eN1
                      generalize U1.alloc (.cells #[.int .i64 0, .bool false, .int .i64 0, .slice none 0 0] 35) = U2 at *
                      have e2 := row_below rU1 bU2
                      have e1 := rU2
                      have ne : N1 ≠ N2 := by have h1 := lN2.out; have h2 := uN1.out; omega
                      refine wpTL_call rfl (fun K hK => ?_)
                      have z0 : U2.cell? ⟨N1, 0, none⟩ = some (.int .i64 0) := by rw [cell_of_row _ _ _ _ _ _ e1]; rfl
                      have z1 : U2.cell? ⟨N1, 1, none⟩ = some (.bool false) := by rw [cell_of_row _ _ _ _ _ _ e1]; rfl
                      have z2 : U2.cell? ⟨N1, 2, none⟩ = some (.int .i64 0) := by rw [cell_of_row _ _ _ _ _ _ e1]; rfl
                      have z3 : U2.cell? ⟨N1, 3, none⟩ = some (.slice none 0 0) := by rw [cell_of_row _ _ _ _ _ _ e1]; rfl
                      have y0 := frozen_row e1 0
                      have y1 := frozen_row e1 1
                      have y2 := frozen_row e1 2
                      have y3 := frozen_row e1 3
                      obtain ⟨mU3, gU3⟩ := fourE e1 (Value.int .i64 (pos : Int)) (Value.bool tu) (Value.int .i64 (mi : Int)) (Value.slice pda pdn pdc)
                      go_wp2_with fail
                      refine hK _ _ ((Below.refl _ _).grown gU3 (Nat.le_trans hBUs BU2.size) (fun k e => by cases e; exact hN1.out)) ?_
                      clear hK K z0 z1 z2 z3 y0 y1 y2 y3
                      try simp only [Act.put, List.setIfInBounds_toArray, List.set_cons_succ, List.set_cons_zero]
                      have e2 := row_grown e2 gU3 (fun h => ne h.symm)
                      have BU3 := BU2.grown gU3 (Nat.le_trans hBUs BU2.size) (fun k e => by cases e; exact hN1.out)
                      generalize ((((U2.setCell ⟨N1, 0, none⟩ (Value.int .i64 (pos : Int))).setCell ⟨N1, 1, none⟩ (Value.bool tu)).setCell ⟨N1, 2, none⟩ (Value.int .i64 (mi : Int))).setCell ⟨N1, 3, none⟩ (Value.slice pda pdn pdc)) = U3 at *
                      refine wpTL_call rfl (fun K hK => ?_)
                      have z0 : U3.cell? ⟨N2, 0, none⟩ = some (.int .i64 0) := by rw [cell_of_row _ _ _ _ _ _ e2]; rfl
                      have z1 : U3.cell? ⟨N2, 1, none⟩ = some (.bool false) := by rw [cell_of_row _ _ _ _ _ _ e2]; rfl
                      have z2 : U3.cell? ⟨N2, 2, none⟩ = some (.int .i64 0) := by rw [cell_of_row _ _ _ _ _ _ e2]; rfl
                      have z3 : U3.cell? ⟨N2, 3, none⟩ = some (.slice none 0 0) := by rw [cell_of_row _ _ _ _ _ _ e2]; rfl
                      have y0 := frozen_row e2 0
                      have y1 := frozen_row e2 1
                      have y2 := frozen_row e2 2
                      have y3 := frozen_row e2 3
                      obtain ⟨mU4, gU4⟩ := fourE e2 (Value.int .i64 (pos : Int)) (Value.bool tu) (Value.int .i64 (mi : Int)) (Value.slice qda qdn qdc)
                      go_wp2_with fail
                      refine hK _ _ ((Below.refl _ _).grown gU4 (Nat.le_trans hBUs BU3.size) (fun k e => by cases e; exact hN2.out)) ?_
                      clear hK K z0 z1 z2 z3 y0 y1 y2 y3
                      try simp only [Act.put, List.setIfInBounds_toArray, List.set_cons_succ, List.set_cons_zero]
                      have e1 := row_grown mU3 gU4 ne
                      have BU4 := BU3.grown gU4 (Nat.le_trans hBUs BU3.size) (fun k e => by cases e; exact hN2.out)
                      generalize ((((U3.setCell ⟨N2, 0, none⟩ (Value.int .i64 (pos : Int))).setCell ⟨N2, 1, none⟩ (Value.bool tu)).setCell ⟨N2, 2, none⟩ (Value.int .i64 (mi : Int))).setCell ⟨N2, 3, none⟩ (Value.slice qda qdn qdc)) = U4 at *
                      refine wpTL_nil ?_
                      exact HF U4 N1 N2 ⟨BU4, e1, mU4⟩
                  · intro V N1 N2 hF
                    have hUW : Below wr.heap.size wr V := by rw [← HB0.out]; exact bU.trans hF.blw
                    have hZV : Below T2.heap.size T2 V := hZ.trans (hUW.mono hZ.size)
                    have x0 : V.cell? ⟨N1, 0, none⟩ = some (.int .i64 (pos : Int)) := by rw [cell_of_row _ _ _ _ _ _ hF.one]; rfl
                    have x1 : V.cell? ⟨N1, 1, none⟩ = some (.bool tu) := by rw [cell_of_row _ _ _ _ _ _ hF.one]; rfl
                    have x2 : V.cell? ⟨N1, 2, none⟩ = some (.int .i64 (mi : Int)) := by rw [cell_of_row _ _ _ _ _ _ hF.one]; rfl
                    have x3 : V.cell? ⟨N1, 3, none⟩ = some (.slice pda pdn pdc) := by rw [cell_of_row _ _ _ _ _ _ hF.one]; rfl
                    have y0 : V.cell? ⟨N2, 0, none⟩ = some (.int .i64 (pos : Int)) := by rw [cell_of_row _ _ _ _ _ _ hF.two]; rfl
                    have y1 : V.cell? ⟨N2, 1, none⟩ = some (.bool tu) := by rw [cell_of_row _ _ _ _ _ _ hF.two]; rfl
                    have y2 : V.cell? ⟨N2, 2, none⟩ = some (.int .i64 (mi : Int)) := by rw [cell_of_row _ _ _ _ _ _ hF.two]; rfl
                    have y3 : V.cell? ⟨N2, 3, none⟩ = some (.slice qda qdn qdc) := by rw [cell_of_row _ _ _ _ _ _ hF.two]; rfl
                    have k1 := run_str (P := Try.prog) 24 5 9 Try.underlying24 Try.underlying5 Try.underlying9 (Rd.ofOwn (ownsRow_below iP.1 hZV))
                    have k2 := run_str (P := Try.prog) 24 5 9 Try.underlying24 Try.underlying5 Try.underlying9 (Rd.ofOwn (ownsRow_below iQ.1 hZV))
                    clear D0 D1 D2 D3 E0 E1 E2 E3 G0 iP iQ hF hUW bU
                    generalize strB dsv = sv at *
                    go_wp2_with fail
                    go_roundw
                    case rel => exact ⟨j + 1, by go_num, by omega, hZV⟩
                    case measure => simp [intOf]; omega
                · obtain rfl : j = F1.length := by omega
                  go_wp2_with fail
                  go_ret
                  exact ⟨rfl, hBW.trans (hZ.mono hBW.size)⟩
end Go.Proofs.Ytlbpmepifegeiaa
