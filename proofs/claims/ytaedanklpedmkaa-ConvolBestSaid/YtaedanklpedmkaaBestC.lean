/- ConvolBest: the law's walk. -/
import Derived.Test.YtaedanklpedmkaaCostC
namespace Go.Proofs.Ytaedanklpedmkaa
set_option linter.unusedVariables false
open Go.RowKit

/-- the soft symbols when k are laid -/
def slTo (ts : List Int) (L k : Nat) : List Int := (List.range L).map fun j => if j < k then (pk (ts.getD j 0) 15 : Int) - 7 else 0
theorem slTo_len (ts : List Int) (L k : Nat) : (slTo ts L k).length = L := by simp [slTo]
theorem slTo_zero (ts : List Int) (L : Nat) : slTo ts L 0 = List.replicate L 0 := by
  refine List.ext_getElem (by simp [slTo]) fun i h1 h2 => ?_
  simp [slTo]
theorem slTo_set (ts : List Int) (L k : Nat) (h : k < L) : (slTo ts L k).set k ((pk (ts.getD k 0) 15 : Int) - 7) = slTo ts L (k + 1) := by
  refine List.ext_getElem (by simp [slTo]) fun i h1 h2 => ?_
  rw [List.getElem_set]
  simp only [slTo, List.getElem_map, List.getElem_range]
  by_cases e : k = i
  · subst e; rw [if_pos rfl, if_pos (by omega)]
  · rw [if_neg e]
    by_cases e2 : i < k
    · rw [if_pos e2, if_pos (by omega)]
    · rw [if_neg e2, if_neg (by omega)]
theorem slTo_soft (ts : List Int) (L k : Nat) : Soft (slTo ts L k) := fun j => by
  rcases Nat.lt_or_ge j L with hj | hj
  · have e : (slTo ts L k).getD j 0 = if j < k then (pk (ts.getD j 0) 15 : Int) - 7 else 0 := by simp [slTo, hj]
    rw [e]
    have := pk_lt (ts.getD j 0) 15 (by decide)
    split <;> omega
  · rw [List.getD_eq_getElem?_getD, List.getElem?_eq_none (by rw [slTo_len]; exact hj)]
    exact ⟨by decide, by decide⟩
/-- the bits of m when j are laid -/
def mb (k m j : Nat) : List Nat := (List.range k).map fun i => if i < j then m / 2 ^ (k - 1 - i) % 2 else 0
theorem mb_len (k m j : Nat) : (mb k m j).length = k := by simp [mb]
theorem mb_zero (k m : Nat) : mb k m 0 = List.replicate k 0 := by
  refine List.ext_getElem (by simp [mb]) fun i h1 h2 => ?_
  simp [mb]
theorem mb_set (k m j : Nat) (h : j < k) : (mb k m j).set j (m / 2 ^ (k - 1 - j) % 2) = mb k m (j + 1) := by
  refine List.ext_getElem (by simp [mb]) fun i h1 h2 => ?_
  rw [List.getElem_set]
  simp only [mb, List.getElem_map, List.getElem_range]
  by_cases e : j = i
  · subst e; rw [if_pos rfl, if_pos (by omega)]
  · rw [if_neg e]
    by_cases e2 : i < j
    · rw [if_pos e2, if_pos (by omega)]
    · rw [if_neg e2, if_neg (by omega)]
theorem mb_nth (k m i : Nat) : nth (mb k m k) i = if i < k then m / 2 ^ (k - 1 - i) % 2 else 0 := by
  by_cases h : i < k
  · simp [mb, nth, h]
  · rw [nth_ge (by rw [mb_len]; omega), if_neg h]
theorem mb_le (k m i : Nat) : nth (mb k m k) i ≤ 1 := by
  rw [mb_nth]
  split <;> omega
theorem num_mb (k m : Nat) (hm : m < 2 ^ k) : ∀ j, j ≤ k → num (mb k m k) j = m / 2 ^ (k - j)
  | 0, _ => by
    show 0 = _
    rw [Nat.sub_zero, Nat.div_eq_of_lt hm]
  | j + 1, h => by
    show 2 * num (mb k m k) j + nth (mb k m k) j = _
    rw [num_mb k m hm j (by omega), mb_nth, if_pos (by omega)]
    have e : k - j = k - (j + 1) + 1 := by omega
    have e2 : k - 1 - j = k - (j + 1) := by omega
    rw [e, e2, Nat.pow_succ, ← Nat.div_div_eq_div_mul]
    omega
theorem num_all (k m : Nat) (hm : m < 2 ^ k) : num (mb k m k) k = m := by
  rw [num_mb k m hm k (Nat.le_refl _), Nat.sub_self, Nat.pow_zero, Nat.div_one]
theorem cnt_seven (r k : Nat) (h1 : 1 ≤ r) (h5 : r ≤ 5) : 7 ≤ cntTo r (k + 6) := by
  have h := cnt_mono r 6 (k + 6) (by omega)
  have key : ∀ r, r < 6 → 1 ≤ r → 7 ≤ cntTo r 6 := by decide +kernel
  have := key r (by omega) h1
  omega
theorem and_256 : ∀ x : Nat, x < 256 → bits .and .i64 (x : Int) 1 = ((x % 2 : Nat) : Int) := by decide +kernel
theorem shl_8 : ∀ k : Nat, k < 9 → IntKind.i64.wrap ((2 : Int) ^ k) = ((2 ^ k : Nat) : Int) := by decide +kernel
theorem pow_8 : ∀ k : Nat, k < 9 → 2 ^ k ≤ 256 := by decide
theorem num_le (a : List Nat) (ha : ∀ i, nth a i ≤ 1) : ∀ i, num a i < 2 ^ i
  | 0 => (by decide : 0 < 1)
  | i + 1 => by
    have := num_le a ha i
    have := ha i
    rw [Nat.pow_succ]
    show 2 * num a i + nth a i < _
    omega

set_option maxRecDepth 100000 in
set_option maxHeartbeats 8000000 in
theorem best_walk (za : Option Addr) (zn zc : Nat) (ni rate : Int) (ts : List Int) (w : World) (hz : Rd w za zn zc (vz ts)) (hti : ∀ z ∈ ts, I64 z) (hn0 : I64 ni) (hr0 : I64 rate) (hzn : zn ≤ 140737488355328) :
    Calls Try.prog 3 #[.slice za zn zc, .int .i64 ni, .int .i64 rate] w fun e w' => e = .returned (.bool true) ∧ Below w.heap.size w w' := by
  have hp1 := pick_st ni 9 w hn0.1 hn0.2 (by decide) (by decide)
  have hp2 := pick_st rate 5 w hr0.1 hr0.2 (by decide) (by decide)
  have hkl := pk_lt ni 9 (by decide)
  have hrl := pk_lt rate 5 (by decide)
  rw [show (5 : Int).toNat = 5 from rfl] at hp2
  rw [show (9 : Int).toNat = 9 from rfl] at hp1
  generalize pk rate 5 = r0 at *
  generalize pk ni 9 = k at *
  obtain ⟨r, hr⟩ : ∃ r, r = 1 + r0 := ⟨_, rfl⟩
  have h1 : 1 ≤ r := by omega
  have h5 : r ≤ 5 := by omega
  have er : (1 : Int) + (r0 : Int) = (r : Int) := by omega
  clear hr
  have hmk := run_mk25 k (by omega)
  have Hmm := hid (made_cells25 k)
  generalize madeCells #[.int .u8 0] k = M at *
  have A := heap_alloc_new w (.cells M 5)
  have b1 := below_alloc w (.cells M 5)
  go_enter Try.func3, Try.ntmps3
  go_wp2_with fail
  refine hp1.mono ?_
  rintro e V ⟨rfl, rfl⟩
  go_wp2_with fail
  refine hp2.mono ?_
  rintro e V2 ⟨rfl, rfl⟩
  clear hp1 hp2
  go_wp2_with fail
  have hzl : ∀ i, nth (List.replicate k 0) i ≤ 1 := fun i => by
    rcases Nat.lt_or_ge i k with h | h
    · simp [nth, h]
    · rw [nth_ge (by simpa using h)]; omega
  have rdZ : Rd (V2.alloc (.cells M 5)) (some ⟨V2.heap.size, 0, none⟩) k k (vb (List.replicate k 0)) := Rd.ofOwn (own_of_heap (B := 0) (by rw [Hmm.out] at *; exact A) (by rw [vb_len]; simp) (by omega) (by unfold maxLen; omega))
  have hsp := spread_ok (some ⟨V2.heap.size, 0, none⟩) k k r (List.replicate k 0) (V2.alloc (.cells M 5)) rdZ hzl (by omega) h1 h5
  have hL7 := cnt_seven r k h1 h5
  have hLu := cntTo_le r (k + 6)
  rw [out_cnt] at hsp
  generalize hL : cntTo r (k + 6) = L at *
  have HL := hid hL
  clear hL
  generalize outTo r (List.replicate k 0) (k + 6) = o at *
  refine hsp.mono ?_
  rintro e W2 ⟨oa, oc, rfl, hO, b2⟩
  have HB2 := hid (b1.trans (b2.mono b1.size))
  clear hsp rdZ hzl A b1 b2 hO hmk
  have hmk := run_mk22 L (by omega)
  have Hmc := hid (made_cells22 L)
  clear Hmm
  generalize madeCells #[.int .i64 0] L = M2 at *
  go_upto_region 6 with (fail)
  obtain ⟨sb, hsb⟩ : ∃ sb, sb = W2.heap.size := ⟨_, rfl⟩
  have r1 := heap_alloc_new W2 (.cells M2 3)
  have b3 := below_alloc W2 (.cells M2 3)
  rw [← hsb] at r1 ⊢
  have hsbV : V2.heap.size ≤ sb := by rw [hsb]; exact HB2.out.size
  have HB3 := hid (HB2.out.trans (b3.mono HB2.out.size))
  clear b3 hsb HB2 hmk
  generalize W2.alloc (.cells M2 3) = U at *
  rw [Hmc.out] at r1
  have r1 := hid r1
  clear Hmc
  obtain ⟨q, hq⟩ : ∃ q, q = min L zn := ⟨_, rfl⟩
  have hq1 : q ≤ L := by omega
  have hq2 : q ≤ zn := by omega
  have hq3 : q = L ∨ q = zn := by omega
  clear hq
  go_wp2_with fail
  go_loopw [12] (fun i wr => ∃ j : Nat, j ≤ q ∧ i = .int .i64 j ∧ Hid (wr.heap[sb]? = some (.cells (vz (slTo ts L j)).toArray 3)) ∧ U.grownBy wr (some sb)) (fun i _ => q - (intOf i).toNat)
  case atStart => exact ⟨0, by omega, rfl, by unfold Hid; rw [slTo_zero]; exact r1.out, World.grownBy.refl _ _⟩
  case round =>
    obtain ⟨j, hj, rfl, hR, hG⟩ := hrel
    have HBr := hid (HB3.out.grown hG (by have := HB3.out.size; omega) (fun k e => by cases e; omega))
    by_cases hlt : j < q
    · have hjL : j < L := by omega
      have hjz : j < zn := by omega
      obtain ⟨tb, toff, rfl, htl, htc⟩ := (hz.below HBr.out).cellz j hjz
      have hti2 := getD_i64 hti j
      have Hset := hid (slTo_set ts L j hjL)
      generalize ts.getD j 0 = z at *
      have hpk := pick_st z 15 wr hti2.1 hti2.2 (by decide) (by decide)
      have hpl := pk_lt z 15 (by decide)
      rw [show (15 : Int).toNat = 15 from rfl] at hpk
      generalize pk z 15 = p at *
      have f1 : wr.cell? ⟨sb, j, none⟩ = some (.int .i64 ((slTo ts L j).getD j 0)) := by
        rw [cell_of_row _ _ _ _ _ _ hR.out, List.getElem?_toArray, vz_get _ _ (by rw [slTo_len]; exact hjL)]
      have f2 : wr.frozen? ⟨sb, j, none⟩ = false := frozen_row hR.out j
      obtain ⟨R1, g1⟩ := set_row (cs' := (vz (slTo ts L (j + 1))).toArray) hR.out j (.int .i64 ((p : Int) - 7)) (by rw [List.setIfInBounds_toArray, vz_set, Hset.out])
      have R1 := hid R1
      have G1 := hid (grownBy_trans hG g1)
      clear hG g1 hti2 htl hlt
      go_wp2_with fail
      refine hpk.mono ?_
      rintro e w' ⟨rfl, rfl⟩
      clear hpk
      go_wp2_with fail
      go_roundw
      case rel => exact ⟨j + 1, by omega, by go_num, R1, G1.out⟩
      case measure => simp [intOf]; omega
    · obtain rfl : q = j := by omega
      have hfork : (decide (q < L) = false) ∨ (decide (q < L) = true ∧ decide (q < zn) = false) := by
        by_cases h : q < L
        · exact .inr ⟨decide_eq_true h, decide_eq_false (by omega)⟩
        · exact .inl (decide_eq_false h)
      have hso := hid (slTo_soft ts L q)
      have hrd := hid (show Rd wr (some ⟨sb, 0, none⟩) L L (vz (slTo ts L q)) from Rd.ofOwn (own_of_heap (B := 0) hR.out (by rw [vz_len, slTo_len]) (by omega) (by unfold maxLen; omega)))
      have hga := gather_ok (some ⟨sb, 0, none⟩) L L k r (slTo ts L q) wr hrd.out hso.out (by omega) HL.out.symm h1 h5
      generalize slTo ts L q = zs at *
      have hgle : ∀ i, nth (got (chs r k zs) (k + 6) k) i ≤ 1 := fun i => by rw [got_nth]; split <;> omega
      have hgc := hid (got_cost r k zs hso.out (by omega))
      have hbf := hid (best_first r k zs hso.out (by omega))
      have hbc := hid (best_cost r k zs)
      have hbnd := trl_cost r k zs hso.out (k + 6) 0
      have hgl : (got (chs r k zs) (k + 6) k).length = k := by simp [got]
      generalize got (chs r k zs) (k + 6) k = gt at *
      generalize nth (trl r k zs (k + 6)).1 0 = ct at *
      unfold far at hbnd
      have Hgl := hid hgl
      have Hgle := hid hgle
      clear hR hG hz hq1 hq2 hq3 hlt hti r1 hgl hgle
      rcases hfork with hd | ⟨hd, hd'⟩
      all_goals
        go_wp2_with fail
        refine hga.mono ?_
        rintro e W4 ⟨ga, gc, rfl, o4, b4⟩
        have HB4 := hid (HBr.out.trans (b4.mono HBr.out.size))
        have hrd4 := hid (hrd.out.below b4)
        have hrg := hid (Rd.ofOwn o4)
        clear hga hrd o4 b4 HBr
        have hco := cost_ok ga k gc r gt (some ⟨sb, 0, none⟩) L L zs W4 hrg.out Hgle.out (by omega) h1 h5 hrd4.out hso.out HL.out.symm
        rw [hgc.out] at hco
        go_wp2_with fail
        refine hco.mono ?_
        rintro e W5 ⟨rfl, b5⟩
        have HB5 := hid (HB4.out.trans (b5.mono HB4.out.size))
        have hrd5 := hid (hrd4.out.below b5)
        have hrg5 := hid (hrg.out.below b5)
        clear hco hrd4 hrg HB4 b5
        go_wp2_with fail
        go_loopw [17, 18] (fun mv i wr => ∃ j : Nat, j ≤ k ∧ i = .int .i64 j ∧ mv = .int .i64 (num gt j : Nat) ∧ wr = W5) (fun _ i _ => k - (intOf i).toNat)
        case atStart => exact ⟨0, by omega, rfl, rfl, rfl⟩
        case round =>
          obtain ⟨j, hj, rfl, rfl, rfl⟩ := hrel
          by_cases hlt : j < k
          · obtain ⟨gb, goff, rfl, _, hgcl⟩ := hrg5.out.cell j hlt
            have hx := Hgle.out j
            have hnl := num_le gt Hgle.out j
            have hpw := pow_8 j (by omega)
            have Hs := hid (show num gt (j + 1) = 2 * num gt j + nth gt j from rfl)
            generalize hn1 : num gt (j + 1) = n1 at *
            have Hn1 := hid hn1
            generalize num gt j = n0 at *
            generalize nth gt j = x at *
            have s1 : IntKind.i64.wrap (2 * (n0 : Int)) = 2 * (n0 : Int) := by rw [IntWalk.i64_in _ (by omega)]
            have s2 : IntKind.i64.wrap (2 * (n0 : Int) + (x : Int)) = (n1 : Int) := by rw [IntWalk.i64_in _ (by omega), Hs.out]; omega
            clear hn1 hnl hpw
            go_wp2_with fail
            go_roundw
            case rel => exact ⟨j + 1, by omega, by go_num, by rw [Hn1.out], trivial⟩
            case measure => simp [intOf]; omega
          · obtain rfl : k = j := by omega
            have hgn := num_le gt Hgle.out k
            have hk2 := pow_8 k (by omega)
            have hsh := shl_8 k (by omega)
            generalize num gt k = mine at *
            obtain ⟨K2, hK2⟩ : ∃ K2, K2 = 2 ^ k := ⟨_, rfl⟩
            have HK2 := hid hK2
            rw [← hK2] at hgn hk2 hsh
            clear hK2
            have hszV : V2.heap.size ≤ wr.heap.size := HB5.out.size
            clear hrg5
            go_wp2_with fail
            obtain ⟨W5, rfl⟩ : ∃ W5 : World, W5 = wr := ⟨_, rfl⟩
            go_loopw [19] (fun i wx => ∃ m : Nat, m ≤ K2 ∧ i = .int .i64 m ∧ Below W5.heap.size W5 wx) (fun i _ => K2 - (intOf i).toNat)
            case atStart => exact ⟨0, by omega, rfl, Below.refl _ _⟩
            case round =>
              obtain ⟨m, hm, rfl, hBm⟩ := hrel
              by_cases hlt2 : m < K2
              · have hmk := run_mk25 k (by omega)
                have Hmm := hid (made_cells25 k)
                generalize madeCells #[.int .u8 0] k = M at *
                have A := heap_alloc_new wr (.cells M 5)
                have b1 := below_alloc wr (.cells M 5)
                have Hsz := hid hBm.size
                have HBm := hid (hBm.trans (b1.mono hBm.size))
                obtain ⟨bb, hbb⟩ : ∃ bb, bb = wr.heap.size := ⟨_, rfl⟩
                have hbbW : W5.heap.size ≤ bb := by rw [hbb]; exact Hsz.out
                have Hbb := hid hbb
                rw [← hbb] at A
                clear hbb b1 hBm
                go_upto_region 25 with (fail)
                rw [← Hbb.out]
                generalize wr.alloc (.cells M 5) = X at *
                rw [Hmm.out] at A
                have A := hid A
                clear Hmm hmk Hbb
                go_wp2_with fail
                have hmk2 : m < 256 := by omega
                go_loopw [21] (fun i wy => ∃ j : Nat, j ≤ k ∧ i = .int .i64 j ∧ Hid (wy.heap[bb]? = some (.cells (vb (mb k m j)).toArray 5)) ∧ X.grownBy wy (some bb)) (fun i _ => k - (intOf i).toNat)
                case atStart => exact ⟨0, by omega, rfl, by unfold Hid; rw [mb_zero]; exact A.out, World.grownBy.refl _ _⟩
                case round =>
                  obtain ⟨j, hj, rfl, hR, hG⟩ := hrel
                  by_cases hlt : j < k
                  · obtain ⟨d, hd0⟩ : ∃ d, d = k - 1 - j := ⟨_, rfl⟩
                    have hdk : (k : Int) - 1 - (j : Int) = (d : Int) := by omega
                    have Hset := hid (mb_set k m j hlt)
                    rw [← hd0] at Hset
                    obtain ⟨y, hy⟩ : ∃ y, y = m / 2 ^ d := ⟨_, rfl⟩
                    have hy2 : y < 256 := by rw [hy]; exact Nat.lt_of_le_of_lt (Nat.div_le_self _ _) hmk2
                    have q3 : (m : Int) / (2 : Int) ^ d = (y : Int) := by rw [hy]; simp
                    have q4 := and_256 y hy2
                    have q5 : y % 2 < 2 := Nat.mod_lt _ (by decide)
                    rw [← hy] at Hset
                    clear hy hd0
                    generalize y % 2 = y2 at *
                    have f1 : wr.cell? ⟨bb, j, none⟩ = some (.int .u8 (nth (mb k m j) j : Nat)) := by
                      rw [cell_of_row _ _ _ _ _ _ hR.out, List.getElem?_toArray, vb_get _ _ (by rw [mb_len]; exact hlt)]
                    have f2 : wr.frozen? ⟨bb, j, none⟩ = false := frozen_row hR.out j
                    obtain ⟨R1, g1⟩ := set_row (cs' := (vb (mb k m (j + 1))).toArray) hR.out j (.int .u8 (y2 : Int)) (by rw [List.setIfInBounds_toArray, vb_set, Hset.out])
                    have R1 := hid R1
                    have G1 := hid (grownBy_trans hG g1)
                    clear hG g1
                    go_wp2_with fail
                    go_roundw
                    case rel => exact ⟨j + 1, by omega, by go_num, R1, G1.out⟩
                    case measure => simp [intOf]; omega
                  · obtain rfl : k = j := by omega
                    have HBx := hid (HBm.out.grown hG (by have := HBm.out.size; omega) (fun k e => by cases e; exact hbbW))
                    have hrdb := hid (show Rd wr (some ⟨bb, 0, none⟩) k k (vb (mb k m k)) from Rd.ofOwn (own_of_heap (B := 0) hR.out (by rw [vb_len, mb_len]) (by omega) (by unfold maxLen; omega)))
                    have hzb : ∀ i, k ≤ i → nth (mb k m k) i = 0 := fun i hi => nth_ge (by rw [mb_len]; exact hi)
                    have hco := cost_ok (some ⟨bb, 0, none⟩) k k r (mb k m k) (some ⟨sb, 0, none⟩) L L zs wr hrdb.out (mb_le k m) (by omega) h1 h5 (hrd5.out.below HBx.out) hso.out HL.out.symm
                    have hcle := hbc.out (mb k m k) (mb_le k m) hzb
                    have hfst := hbf.out (mb k m k) (mb_le k m) hzb
                    have hnm := num_all k m (by rw [← HK2.out]; exact hlt2)
                    rw [hnm] at hfst
                    have Hfst := hid hfst
                    clear hfst hnm hzb hrdb hR hG
                    generalize sumPay (payS r fun j => zs.getD j 0) (mb k m k) (k + 6) = other at *
                    have t1 : decide (other < ct) = false := decide_eq_false (by omega)
                    have hcases : (((other : Int) == ct) = false) ∨ (other = ct ∧ decide (m < mine) = false) := by
                      by_cases e : other = ct
                      · exact .inr ⟨e, decide_eq_false (by have := Hfst.out e; omega)⟩
                      · exact .inl (by simp; omega)
                    clear hcle Hfst
                    go_wp2_with fail
                    refine hco.mono ?_
                    rintro e W7 ⟨rfl, b7⟩
                    have HB7 := hid (HBx.out.trans (b7.mono HBx.out.size))
                    clear hco b7 HBx
                    rcases hcases with t2 | ⟨rfl, t2⟩
                    · go_wp2_with fail
                      go_roundw
                      case rel => exact ⟨m + 1, by omega, by go_num, HB7.out⟩
                      case measure => simp [intOf]; omega
                    · go_wp2_with fail
                      go_roundw
                      case rel => exact ⟨m + 1, by omega, by go_num, HB7.out⟩
                      case measure => simp [intOf]; omega
              · obtain rfl : K2 = m := by omega
                have hL6 : decide ((6 : Int) < (L : Int)) = true := decide_eq_true (by omega)
                have HBf := hid (HB5.out.trans (hBm.mono hszV))
                go_wp2_with fail
                go_ret
                exact ⟨by simp, HBf.out⟩
end Go.Proofs.Ytaedanklpedmkaa
