/- ConvolMends: the law's walk. -/
import Derived.Test.YtaedanklpedmkaaMenC
import Derived.Test.YtaedanklpedmkaaPickN
namespace Go.Proofs.Ytaedanklpedmkaa
set_option linter.unusedVariables false
open Go.RowKit

/-- the bits: the lowest of each byte -/
def lowTo (bs : List Nat) (k : Nat) : List Nat := (List.range k).map fun i => nth bs i % 2
theorem lowTo_len (bs : List Nat) (k : Nat) : (lowTo bs k).length = k := by simp [lowTo]
theorem lowTo_succ (bs : List Nat) (k : Nat) : lowTo bs (k + 1) = lowTo bs k ++ [nth bs k % 2] := by simp [lowTo, List.range_succ]
theorem lowTo_le (bs : List Nat) (k i : Nat) : nth (lowTo bs k) i ≤ 1 := by
  rcases Nat.lt_or_ge i k with h | h
  · simp [lowTo, nth, h]; omega
  · rw [nth_ge (by rw [lowTo_len]; exact h)]; omega
theorem and_u8 : ∀ x : Nat, x < 256 → bits .and .u8 (x : Int) 1 = ((x % 2 : Nat) : Int) := by decide +kernel
/-- 'make([]int, m)' -/
theorem run_mk22 (m : Nat) (hm : m ≤ 1000000) (u : World) : (Instr.makeSlice 22 (.int .i64 (m : Int)) (.int .i64 (m : Int))).run Try.prog u =
    .ok (.slice (some ⟨u.heap.size, 0, none⟩) m m) (u.alloc (.cells (madeCells #[.int .i64 0] m) 3)) := by
  obtain ⟨i0, hi, hz0, hz1, hz2⟩ := info_parts Try.info3
  have h := run_make (P := Try.prog) u 22 3 i0 (.int .i64 0) Try.underlying22 hi hz0 .i64 .i64 (m : Int) (m : Int) (by omega) (Int.le_refl _) (by rw [hz2]; omega) (by omega)
  simpa [hz1, Value.cells] using h
theorem made_cells22 (m : Nat) : madeCells #[.int .i64 0] m = (vz (List.replicate m 0)).toArray := by
  apply Array.toList_inj.1
  rw [toList_madeCells_one]
  simp [vz]
/-- the soft symbols when k are laid -/
def sfTo (o : List Nat) (L k : Nat) : List Int := (List.range L).map fun j => if j < k then 7 * (2 * (nth o j : Int) - 1) else 0
theorem sfTo_len (o : List Nat) (L k : Nat) : (sfTo o L k).length = L := by simp [sfTo]
theorem sfTo_zero (o : List Nat) (L : Nat) : sfTo o L 0 = List.replicate L 0 := by
  refine List.ext_getElem (by simp [sfTo]) fun i h1 h2 => ?_
  simp [sfTo]
theorem sfTo_set (o : List Nat) (L k : Nat) (h : k < L) : (sfTo o L k).set k (7 * (2 * (nth o k : Int) - 1)) = sfTo o L (k + 1) := by
  refine List.ext_getElem (by simp [sfTo]) fun i h1 h2 => ?_
  rw [List.getElem_set]
  simp only [sfTo, List.getElem_map, List.getElem_range]
  by_cases e : k = i
  · subst e; rw [if_pos rfl, if_pos (by omega)]
  · rw [if_neg e]
    by_cases e2 : i < k
    · rw [if_pos e2, if_pos (by omega)]
    · rw [if_neg e2, if_neg (by omega)]
theorem sfTo_all (o : List Nat) (L : Nat) : sfTo o L L = sf (nth o) L := List.map_congr_left fun i hi => by
  rw [if_pos (by simpa using hi)]
theorem vz_set (l : List Int) (k : Nat) (x : Int) : (vz l).set k (.int .i64 x) = vz (l.set k x) := by simp [vz]

set_option maxRecDepth 100000 in
set_option maxHeartbeats 8000000 in
theorem mends_walk (ba0 : Option Addr) (n c : Nat) (rate : Int) (ta : Option Addr) (tn tc0 : Nat) (bs : List Nat) (ts : List Int) (w : World) (hb : Rd w ba0 n c (vb bs)) (hbb : AllB bs) (hr0 : I64 rate) (ht : Rd w ta tn tc0 (vz ts)) (hti : ∀ z ∈ ts, I64 z) (hn : n ≤ 140737488355328) (htn : tn ≤ 140737488355328) :
    Calls Try.prog 4 #[.slice ba0 n c, .int .i64 rate, .slice ta tn tc0] w fun e w' => e = .returned (.bool true) ∧ Below w.heap.size w w' := by
  obtain ⟨i0, hi, hz0, hz1, hz2⟩ := info_parts Try.info5
  have hp1 := pick_st rate 5 w hr0.1 hr0.2 (by decide) (by decide)
  have hrl := pk_lt rate 5 (by decide)
  rw [show (5 : Int).toNat = 5 from rfl] at hp1
  generalize pk rate 5 = r0 at *
  obtain ⟨r, hr⟩ : ∃ r, r = 1 + r0 := ⟨_, rfl⟩
  have h1 : 1 ≤ r := by omega
  have h5 : r ≤ 5 := by omega
  have er : (1 : Int) + (r0 : Int) = (r : Int) := by omega
  obtain ⟨q, hq⟩ : ∃ q, q = min n 2000 := ⟨_, rfl⟩
  have hq1 : q ≤ n := by omega
  have hq2 : q ≤ 2000 := by omega
  have hq3 : q = n ∨ q = 2000 := by omega
  clear hr hq
  go_enter Try.func4, Try.ntmps4
  go_wp2_with fail
  refine hp1.mono ?_
  rintro e V ⟨rfl, rfl⟩
  clear hp1
  go_wp2_with fail
  go_loopw [8, 9] (fun lv i wr => ∃ (k cp : Nat) (ao : Option Addr), k ≤ q ∧ i = .int .i64 k ∧ lv = .slice ao (lowTo bs k).length cp ∧
    Hid (wr.ownsRow V.heap.size 5 1 (.slice ao (lowTo bs k).length cp) (lowTo bs k).length (vb (lowTo bs k))) ∧ Below V.heap.size V wr) (fun _ i _ => q - (intOf i).toNat)
  case atStart => exact ⟨0, 0, none, by omega, rfl, rfl, World.ownsRow_nil _ _ _ _, Below.refl _ _⟩
  case round =>
    obtain ⟨k, cp, ao, hk, rfl, rfl, ho, hB⟩ := hrel
    have hll := lowTo_len bs k
    by_cases hlt : k < q
    · obtain ⟨b, off, rfl, hbl, hcell⟩ := (hb.below hB).cell k (by omega)
      have hx := nth_lt hbb k
      have Hs := hid (lowTo_succ bs k)
      have ea := and_u8 (nth bs k) hx
      have hx2 : nth bs k % 2 < 2 := Nat.mod_lt _ (by decide)
      generalize nth bs k % 2 = x2 at *
      generalize nth bs k = x at *
      generalize hl1 : lowTo bs (k + 1) = l1 at *
      have Hl1 := hid hl1
      have Hll1 := hid (lowTo_len bs (k + 1))
      rw [hl1] at Hll1
      clear hl1
      generalize lowTo bs k = l at *
      have b1 := below_alloc wr (.cells #[.int .u8 (x2 : Int)] 5)
      have hrd := rd_lit25 wr x2
      have Hll := hid hll
      have HB := hid hB
      have hsz := hB.size
      clear hB hll
      have hkn : k < n := by omega
      go_wp2_with (at_builtin; refine hold ?_)
      unfold Hid
      refine wpList_append_rd rfl _ _ 25 rfl V.heap.size 5 i0 (.int .u8 0) 1 Try.underlying25 hi hz0 hz1 hz2 rfl ao l.length cp _ rfl (ownsRow_below ho.out b1) (some ⟨wr.heap.size, 0, none⟩) 1 1 (vb [x2]) rfl hrd (vb_oneCell _) (by have := Hll.out; omega) (by have := Hll.out; unfold maxLen; omega) (by simp; omega) ?_
      intro ao5 cp5 W5 own5 gr Bx
      rw [← vb_append, ← Hs.out] at own5
      have B5 := hid ((HB.out.alloc hsz _).trans Bx)
      clear gr Bx b1 hrd HB
      have hl5 : l.length + 1 = l1.length := by rw [Hll.out, Hll1.out]
      rw [hl5] at own5 ⊢
      clear hl5 hcell
      have own5 := hid own5
      go_wp2_with fail
      go_roundw
      case rel => exact ⟨k + 1, cp5, ao5, by omega, by go_num, by rw [Hl1.out], by rw [Hl1.out]; exact own5, B5.out⟩
      case measure => simp [intOf]; omega
    · obtain rfl : k = q := by omega
      have HB := hid hB
      have hll2 := hid (lowTo_le bs k)
      have hrdl := hid (Rd.ofOwn ho.out)
      generalize lowTo bs k = l at *
      have Hll := hid hll
      clear hB hll
      have hfork : (decide (k < n) = false) ∨ (decide (k < n) = true ∧ decide ((k : Int) < 2000) = false) := by
        by_cases h : k < n
        · exact .inr ⟨decide_eq_true h, decide_eq_false (by omega)⟩
        · exact .inl (decide_eq_false h)
      have hkk : k ≤ 2000 := hq2
      have hsp := fun W (hW : Rd W ao l.length cp (vb l)) => spread_ok ao l.length cp r l W hW hll2.out (by have := Hll.out; omega) h1 h5
      have hsp := hsp wr hrdl.out
      have hLe : l.length + 6 ≤ cntTo r (l.length + 6) := cnt_ge r h1 h5 _
      have hLu := cntTo_le r (l.length + 6)
      have hlk : l.length ≤ 2000 := by have := Hll.out; omega
      rw [out_cnt] at hsp
      generalize hL : cntTo r (l.length + 6) = L at *
      have HL := hid hL
      clear hL
      have hob := hid (out_bits r l (l.length + 6))
      generalize hoo : outTo r l (l.length + 6) = o at *
      have Hoo := hid hoo
      have Hol := hid (out_cnt r l (l.length + 6))
      rw [hoo, HL.out] at Hol
      clear hoo
      have hL6 : decide (L < 6) = false := decide_eq_false (by omega)
      have hkn' : k = k := rfl
      clear hkn' hb hq3 hi hz0 hz1 hz2 hlt
      rcases hfork with hd | ⟨hd, hd'⟩
      all_goals
        go_wp2_with fail
        refine hsp.mono ?_
        rintro e W2 ⟨oa, oc, rfl, hO, b2⟩
        clear hsp
        have HO := hid hO
        have HB2 := hid (HB.out.trans (b2.mono HB.out.size))
        have HoL := hid (ownsRow_below ho.out b2)
        have hmk := run_mk22 L (by omega)
        have Hmc := hid (made_cells22 L)
        generalize madeCells #[.int .i64 0] L = M at *
        clear hO b2 HB
        go_wp2_with fail
        have HoLL := HoL
        obtain ⟨sb, hsb⟩ : ∃ sb, sb = W2.heap.size := ⟨_, rfl⟩
        have r1 := heap_alloc_new W2 (.cells M 3)
        have b3 := below_alloc W2 (.cells M 3)
        rw [← hsb] at r1 ⊢
        have hsbV : V.heap.size ≤ sb := by rw [hsb]; exact HB2.out.size
        have HO3 := hid (ownsRow_below HO.out b3)
        have HoL3 := hid (ownsRow_below HoL.out b3)
        have HB3 := hid (HB2.out.trans (b3.mono HB2.out.size))
        have Hne := hid (show ∀ (v : Value) (m : Nat) (xs : List Value) (B : Nat), W2.ownsRow B 5 1 v m xs → v.ownBlock = none ∨ v.ownBlock ≠ some sb from fun v m xs B h => by
          rcases h.2 with ⟨h1, _⟩ | ⟨g, cap, cur, h1, _, hg, _⟩
          · rw [h1]; exact .inl rfl
          · rw [h1]
            refine .inr (fun e => ?_)
            simp only [Value.ownBlock, Option.some.injEq] at e
            have := row_lt hg
            omega)
        have HneO := hid (Hne.out _ _ _ _ HO.out)
        have HneL := hid (Hne.out _ _ _ _ HoL.out)
        clear b3 hsb Hne HoL HO HB2 hmk HoLL
        generalize W2.alloc (.cells M 3) = U at *
        rw [Hmc.out] at r1
        have r1 := hid r1
        clear Hmc
        go_loopw [13] (fun i wr => ∃ j : Nat, j ≤ L ∧ i = .int .i64 j ∧ Hid (wr.heap[sb]? = some (.cells (vz (sfTo o L j)).toArray 3)) ∧ U.grownBy wr (some sb)) (fun i _ => L - (intOf i).toNat)
        case atStart => exact ⟨0, by omega, rfl, by unfold Hid; rw [sfTo_zero]; exact r1.out, World.grownBy.refl _ _⟩
        case round =>
          obtain ⟨j, hj, rfl, hR, hG⟩ := hrel
          by_cases hlt : j < L
          · obtain ⟨ob, ooff, rfl, hol2, hoc⟩ := (Rd.ofOwn (HO3.out.kept hG HneO.out)).cell j hlt
            have hx := hob.out j
            have Hset := hid (sfTo_set o L j hlt)
            have f1 : wr.cell? ⟨sb, j, none⟩ = some (.int .i64 ((sfTo o L j).getD j 0)) := by
              rw [cell_of_row _ _ _ _ _ _ hR.out, List.getElem?_toArray, vz_get _ _ (by rw [sfTo_len]; exact hlt)]
            have f2 : wr.frozen? ⟨sb, j, none⟩ = false := frozen_row hR.out j
            generalize nth o j = x at *
            have m1 : IntKind.i64.wrap (2 * (x : Int)) = 2 * (x : Int) := by rw [IntWalk.i64_in _ (by omega)]
            have m2 : IntKind.i64.wrap (2 * (x : Int) - 1) = 2 * (x : Int) - 1 := by rw [IntWalk.i64_in _ (by omega)]
            have m3 : IntKind.i64.wrap (7 * (2 * (x : Int) - 1)) = 7 * (2 * (x : Int) - 1) := by rw [IntWalk.i64_in _ (by omega)]
            obtain ⟨R1, g1⟩ := set_row (cs' := (vz (sfTo o L (j + 1))).toArray) hR.out j (.int .i64 (7 * (2 * (x : Int) - 1))) (by rw [List.setIfInBounds_toArray, vz_set, Hset.out])
            have R1 := hid R1
            have G1 := hid (grownBy_trans hG g1)
            clear hG g1 hol2
            go_wp2_with fail
            go_roundw
            case rel => exact ⟨j + 1, by omega, by go_num, R1, G1.out⟩
            case measure => simp [intOf]; omega
          · obtain rfl : L = j := by omega
            have hR := hR.out
            rw [sfTo_all] at hR
            have hR := hid hR
            have HO4 := hid (HO3.out.kept hG HneO.out)
            have HoL4 := hid (HoL3.out.kept hG HneL.out)
            have HB4 := hid (HB3.out.grown hG (by have := HB3.out.size; omega) (fun k e => by cases e; omega))
            clear hG HO3 HoL3 HB3 r1
            have r2 := heap_alloc_new wr (.cells #[.int .i64 0, .int .i64 4, .int .i64 2, .int .i64 2, .int .i64 1, .int .i64 1] 3)
            have b4 := below_alloc wr (.cells #[.int .i64 0, .int .i64 4, .int .i64 2, .int .i64 2, .int .i64 1, .int .i64 1] 3)
            obtain ⟨fb, hfb⟩ : ∃ fb, fb = wr.heap.size := ⟨_, rfl⟩
            have hsbl : sb < fb := by rw [hfb]; exact row_lt hR.out
            have HO5 := hid (ownsRow_below HO4.out b4)
            have HoL5 := hid (ownsRow_below HoL4.out b4)
            have HB5 := hid (HB4.out.trans (b4.mono HB4.out.size))
            have hR5 := hid (row_below hR.out b4)
            have r2 := hid r2
            have Hfb := hid hfb
            clear b4 HO4 HoL4 HB4 hR hfb
            go_upto_region 16 with (fail)
            rw [← Hfb.out] at r2 ⊢
            generalize wr.alloc (.cells #[.int .i64 0, .int .i64 4, .int .i64 2, .int .i64 2, .int .i64 1, .int .i64 1] 3) = U3 at *
            clear Hfb
            go_wp2_with fail
            go_loopw [15] (fun i wr => ∃ (j : Nat) (h : Nat → Nat), j ≤ tn ∧ j ≤ fw r ∧ i = .int .i64 j ∧ (∀ x, h x ≤ 1) ∧ Hid (ham (nth o) h L ≤ j) ∧ Hid (wr.heap[sb]? = some (.cells (vz (sf h L)).toArray 3)) ∧ U3.grownBy wr (some sb)) (fun i _ => tn - (intOf i).toNat)
            case atStart => exact ⟨0, nth o, by omega, by omega, rfl, hob.out, by unfold Hid; rw [ham_self]; exact Nat.le_refl _, hR5, World.grownBy.refl _ _⟩
            case round =>
              obtain ⟨j, h, hj1, hj2, rfl, hh, hham, hR, hG⟩ := hrel
              have hfw : wr.cell? ⟨fb, r, none⟩ = some (.int .i64 (fw r : Nat)) := by
                rw [cell_of_row _ _ _ _ _ _ (row_grown r2.out hG (by omega))]
                rcases (show r = 1 ∨ r = 2 ∨ r = 3 ∨ r = 4 ∨ r = 5 by omega) with rfl | rfl | rfl | rfl | rfl <;> rfl
              have hfw4 : fw r ≤ 4 := by
                rcases (show r = 1 ∨ r = 2 ∨ r = 3 ∨ r = 4 ∨ r = 5 by omega) with rfl | rfl | rfl | rfl | rfl <;> decide
              have hr6 : (r : Int) < 6 := by omega
              have HBr := hid (HB5.out.grown hG (by have := HB5.out.size; omega) (fun k e => by cases e; omega))
              by_cases hA : j < tn
              · have d1 : decide (j < tn) = true := decide_eq_true hA
                by_cases hF : j < fw r
                · have d2 : decide (j < fw r) = true := decide_eq_true hF
                  obtain ⟨tb, toff, rfl, htl, htc⟩ := (ht.below HBr.out).cellz j hA
                  have hti2 := getD_i64 hti j
                  generalize ts.getD j 0 = z at *
                  have hpk := pick_st z (L : Int) wr hti2.1 hti2.2 (by omega) (by omega)
                  have hpl := pk_lt z L (by omega)
                  rw [Int.toNat_natCast] at hpk
                  generalize pk z L = p at *
                  have f1 : wr.cell? ⟨sb, p, none⟩ = some (.int .i64 (7 * (2 * (h p : Int) - 1))) := by
                    rw [cell_of_row _ _ _ _ _ _ hR.out, List.getElem?_toArray, vz_get _ _ (by rw [sf_len]; exact hpl), sf_getD _ _ _ hpl]
                  have f2 : wr.frozen? ⟨sb, p, none⟩ = false := frozen_row hR.out p
                  have hy := hh p
                  obtain ⟨v, hv⟩ : ∃ v : Int, v = 7 * (2 * ((1 - h p : Nat) : Int) - 1) := ⟨_, rfl⟩
                  have Hset := hid (sf_set h L p hpl v hv)
                  have Hham := hid (Nat.le_trans (ham_turn (nth o) h p L) (Nat.add_le_add_right hham.out 1))
                  obtain ⟨x0, hx0⟩ : ∃ x0 : Int, x0 = 7 * (2 * (h p : Int) - 1) := ⟨_, rfl⟩
                  have m6 : -x0 = v := by omega
                  have x1 : -7 ≤ x0 := by omega
                  have x2 : x0 ≤ 7 := by omega
                  rw [← hx0] at f1
                  have hpi : (p : Int) < (L : Int) := by omega
                  obtain ⟨R1, g1⟩ := set_row (cs' := (vz (sf (turn h p) L)).toArray) hR.out p (.int .i64 v) (by rw [List.setIfInBounds_toArray, vz_set, Hset.out])
                  have R1 := hid R1
                  have G1 := hid (grownBy_trans hG g1)
                  have Hh := hid hh
                  clear hv hx0 hG g1 hti2 htl hh hy
                  go_wp2_with fail
                  refine hpk.mono ?_
                  rintro e w' ⟨rfl, rfl⟩
                  clear hpk
                  go_wp2_with fail
                  go_roundw
                  case rel => exact ⟨j + 1, turn h p, by omega, by omega, by go_num, turn_le h p Hh.out, Hham, R1, G1.out⟩
                  case measure => simp [intOf]; omega
                · have d2 : decide (j < fw r) = false := decide_eq_false hF
                  have hgot := hid (mends_done r l.length h1 h5 l rfl hll2.out h hh (by rw [Hoo.out, HL.out]; have := hham.out; omega))
                  have Hgot : Hid (got (chs r l.length (sf h L)) (l.length + 6) l.length = l) := by
                    have h := hgot.out
                    rw [HL.out] at h
                    exact h
                  have rdS : Rd wr (some ⟨sb, 0, none⟩) L L (vz (sf h L)) := Rd.ofOwn (own_of_heap (B := 0) hR.out (by rw [vz_len, sf_len]) (by omega) (by unfold maxLen; omega))
                  have hga := gather_ok (some ⟨sb, 0, none⟩) L L l.length r (sf h L) wr rdS (sf_soft h L hh) (by omega) HL.out.symm h1 h5
                  rw [Hgot.out] at hga
                  have HoL6 := hid (HoL5.out.kept hG (by
                    rcases HneL.out with h | h
                    · exact .inl h
                    · exact .inr h))
                  generalize nth (trl r l.length (sf h L) (l.length + 6)).1 0 = cst0 at *
                  clear hR hG rdS Hgot hgot hh hham
                  go_wp2_with fail
                  refine hga.mono ?_
                  rintro e W8 ⟨ga, gc, rfl, o8, b8⟩
                  have HB8 := hid (HBr.out.trans (b8.mono HBr.out.size))
                  have hcv1 := run_str (P := Try.prog) 25 5 9 Try.underlying25 Try.underlying5 Try.underlying9 (Rd.ofOwn o8)
                  have hcv2 := run_str (P := Try.prog) 25 5 9 Try.underlying25 Try.underlying5 Try.underlying9 (Rd.ofOwn (ownsRow_below HoL6.out b8))
                  generalize strB l = sl at *
                  clear hga o8 b8
                  go_wp2_with fail
                  go_ret
                  exact ⟨by simp, HB8.out⟩
              · have d1 : decide (j < tn) = false := decide_eq_false hA
                have hgot := hid (mends_done r l.length h1 h5 l rfl hll2.out h hh (by rw [Hoo.out, HL.out]; have := hham.out; omega))
                have Hgot : Hid (got (chs r l.length (sf h L)) (l.length + 6) l.length = l) := by
                  have h := hgot.out
                  rw [HL.out] at h
                  exact h
                have rdS : Rd wr (some ⟨sb, 0, none⟩) L L (vz (sf h L)) := Rd.ofOwn (own_of_heap (B := 0) hR.out (by rw [vz_len, sf_len]) (by omega) (by unfold maxLen; omega))
                have hga := gather_ok (some ⟨sb, 0, none⟩) L L l.length r (sf h L) wr rdS (sf_soft h L hh) (by omega) HL.out.symm h1 h5
                rw [Hgot.out] at hga
                have HoL6 := hid (HoL5.out.kept hG (by
                  rcases HneL.out with h | h
                  · exact .inl h
                  · exact .inr h))
                generalize nth (trl r l.length (sf h L) (l.length + 6)).1 0 = cst0 at *
                clear hR hG rdS Hgot hgot hh hham
                go_wp2_with fail
                refine hga.mono ?_
                rintro e W8 ⟨ga, gc, rfl, o8, b8⟩
                have HB8 := hid (HBr.out.trans (b8.mono HBr.out.size))
                have hcv1 := run_str (P := Try.prog) 25 5 9 Try.underlying25 Try.underlying5 Try.underlying9 (Rd.ofOwn o8)
                have hcv2 := run_str (P := Try.prog) 25 5 9 Try.underlying25 Try.underlying5 Try.underlying9 (Rd.ofOwn (ownsRow_below HoL6.out b8))
                generalize strB l = sl at *
                clear hga o8 b8
                go_wp2_with fail
                go_ret
                exact ⟨by simp, HB8.out⟩
end Go.Proofs.Ytaedanklpedmkaa
