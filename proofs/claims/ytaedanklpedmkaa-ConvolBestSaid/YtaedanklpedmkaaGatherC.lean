/- Gather: the walk. -/
import Derived.Test.YtaedanklpedmkaaSlC
namespace Go.Proofs.Ytaedanklpedmkaa
set_option linter.unusedVariables false
open Go.RowKit

theorem KeptB.toBelow {B T b : Nat} {W W' : World} (h : KeptB B T W W') (hb : b ≤ T) (hB : b ≤ B) : Below b W W' := ⟨h.os, h.tape, h.output, h.size, fun k hk => h.block k (by omega) (by omega)⟩
theorem cnt_mono (r : Nat) (i j : Nat) (h : i ≤ j) : cntTo r i ≤ cntTo r j := by
  induction j with
  | zero => rw [show i = 0 by omega]; exact Nat.le_refl _
  | succ j ih =>
    by_cases e : i = j + 1
    · rw [e]; exact Nat.le_refl _
    · have := ih (by omega)
      rw [cntTo]
      omega
theorem drop_getD (zs : List Int) (k j : Nat) : (zs.drop k).getD j 0 = zs.getD (k + j) 0 := by
  rw [List.getD_eq_getElem?_getD, List.getD_eq_getElem?_getD, List.getElem?_drop]
theorem sy_zero (z : Int) (h : -7 ≤ z) : ((sy 0 z : Nat) : Int) = 7 + z := by
  unfold sy
  rw [if_pos rfl]
  omega
theorem sy_one (z : Int) (h : z ≤ 7) : ((sy 1 z : Nat) : Int) = 7 - z := by
  unfold sy
  rw [if_neg (by decide)]
  omega
/-- the costs when k states are laid -/
def c0 (k s : Nat) : Nat := if s < k ∧ 0 < s then far else 0
theorem c0_zero : lst (c0 1) = lst (c0 0) := lst_congr fun s _ => by
  unfold c0
  rw [if_neg (by omega), if_neg (by omega)]
theorem c0_set (k : Nat) (h : k < 64) (h0 : 0 < k) : (lst (c0 k)).set k far = lst (c0 (k + 1)) := by
  rw [lst_set _ _ _ h]
  refine lst_congr fun i hi => ?_
  unfold c0
  by_cases e : i = k
  · subst e; rw [if_pos rfl, if_pos (by omega)]
  · rw [if_neg e]
    by_cases e2 : i < k ∧ 0 < i
    · rw [if_pos e2, if_pos (by omega)]
    · rw [if_neg e2, if_neg (by omega)]
theorem c0_all : lst (c0 64) = lst (fun s => if s = 0 then 0 else far) := lst_congr fun s hs => by
  unfold c0
  by_cases e : s = 0
  · rw [if_pos e, if_neg (by omega)]
  · rw [if_neg e, if_pos (by omega)]

set_option maxRecDepth 100000 in
set_option maxHeartbeats 8000000 in
theorem gather_ok (sa : Option Addr) (m c n r : Nat) (zs : List Int) (w : World) (hz : Rd w sa m c (vz zs)) (hs : Soft zs) (hn : n ≤ 16384) (hm : m = cntTo r (n + 6)) (h1 : 1 ≤ r) (h5 : r ≤ 5) :
    Calls Try.prog 7 #[.slice sa m c, .int .i64 (n : Int), .int .i64 (r : Int)] w fun e w' => ∃ ao cp, e = .returned (.tuple #[.slice ao n cp, .int .i64 (nth (trl r n zs (n + 6)).1 0 : Nat), .int .i64 0]) ∧
      w'.ownsRow w.heap.size 5 1 (.slice ao n cp) n (vb (got (chs r n zs) (n + 6) n)) ∧ Below w.heap.size w w' := by
  have hpk := pick_ok r w h1 h5
  have hct := fun W => count_ok r n W h1 h5 hn
  rw [← hm] at hct
  have hml := cntTo_le r (n + 6)
  rw [← hm] at hml
  have Hm := hid hm
  clear hm
  generalize hpa : patA r = pa at *
  generalize hpb : patB r = pb at *
  have Hpa := hid hpa
  have Hpb := hid hpb
  clear hpa hpb
  have h0 : decide ((n : Int) < 0) = false := decide_eq_false (by omega)
  have h2 : decide ((16384 : Int) < (n : Int)) = false := decide_eq_false (by omega)
  go_enter Try.func7, Try.ntmps7
  go_wp2_with fail
  refine hpk.mono ?_
  rintro e W1 ⟨rfl, B1⟩
  have A := heap_alloc_new W1 (.cells #[.string pa, .string pb] 36)
  have b1 := below_alloc W1 (.cells #[.string pa, .string pb] 36)
  clear hpk
  go_wp2_with fail
  refine (hct _).mono ?_
  rintro e W2 ⟨rfl, B2⟩
  have hz1 := hz.below B1
  have hz2 := (hz1.below b1).below B2
  have A2 := row_below A B2
  have hB2 : Below w.heap.size w W2 := B1.trans ((b1.trans (B2.mono b1.size)).mono B1.size)
  obtain ⟨g, hg⟩ : ∃ g, g = W1.heap.size := ⟨_, rfl⟩
  have hgw : w.heap.size ≤ g := by rw [hg]; exact B1.size
  have hgl : g < W2.heap.size := by rw [hg]; exact row_lt A2
  rw [← hg] at A2 ⊢
  clear hz1 B1 b1 B2 hg A hct
  go_wp2_with fail
  refine (hasz_ok sa m c zs _ hz2 hs (by omega)).mono ?_
  rintro e V ⟨rfl, rfl⟩
  have A3 := hid A2
  have hz := zero53
  have hZ : tc (List.replicate 64 0) (List.replicate 64 0) (.slice none 0 0) = tc (lst (c0 0)) (lst (til (fun s => s) 0)) (.slice none 0 0) := by
    congr 1
  rw [hZ] at hz
  generalize hzz : (tc (lst (c0 0)) (lst (til (fun s => s) 0)) (.slice none 0 0)).toArray = Z at *
  have Hzz := hid hzz
  clear hzz hZ
  have A0 := hid (heap_alloc_new V (.cells Z 53))
  have b0 := below_alloc V (.cells Z 53)
  clear A2
  obtain ⟨T, hT⟩ : ∃ T, T = V.heap.size := ⟨_, rfl⟩
  go_upto_region 9 with (fail)
  rw [← hT] at A0 ⊢
  have HA := hid (row_below A3.out b0)
  have hTl : T < (V.alloc (.cells Z 53)).heap.size := row_lt A0.out
  have hgT : g < T := by omega
  have hB3 := hid (hB2.trans (b0.mono hB2.size))
  have A0 : Hid ((V.alloc (.cells Z 53)).heap[T]? = some (.cells (tc (lst (c0 0)) (lst (til (fun s => s) 0)) (.slice none 0 0)).toArray 53)) := by
    unfold Hid
    rw [Hzz.out]
    exact A0.out
  have HT := hid hT
  clear hz A3 hB2 hT b0
  generalize V.alloc (.cells Z 53) = U at *
  go_wp2_with fail
  go_loopw [46] (fun i wr => ∃ k : Nat, k ≤ 64 ∧ i = .int .i64 k ∧ Hid (wr.heap[T]? = some (.cells (tc (lst (c0 k)) (lst (til (fun s => s) k)) (.slice none 0 0)).toArray 53)) ∧ U.grownBy wr (some T)) (fun i _ => 64 - (intOf i).toNat)
  case atStart => exact ⟨0, by omega, rfl, A0, World.grownBy.refl _ _⟩
  case round =>
    obtain ⟨k, hk, rfl, hR, hG⟩ := hrel
    by_cases hlt : k < 64
    · have f1 : wr.cell? ⟨T, 64 + k, none⟩ = some (.int .i64 (nth (lst (til (fun s => s) k)) k : Nat)) := by
        rw [cell_of_row _ _ _ _ _ _ hR.out, List.getElem?_toArray, tc_order (lst_len _) (lst_len _) _ hlt]
      have f2 : wr.frozen? ⟨T, 64 + k, none⟩ = false := frozen_row hR.out _
      obtain ⟨R1, g1⟩ := set_row (cs' := (tc (lst (c0 k)) (lst (til (fun s => s) (k + 1))) (.slice none 0 0)).toArray) hR.out (64 + k) (.int .i64 (k : Int)) (by rw [List.setIfInBounds_toArray, tc_set_order (lst_len _) (lst_len _) _ _ hlt, til_set _ _ hlt])
      have HG := hid (grownBy_trans hG g1)
      have R1 := hid R1
      clear hG g1
      have hk64 : (k : Int) < 64 := by omega
      by_cases hk0 : k = 0
      · subst hk0
        have R1 : Hid ((wr.setCell ⟨T, 64 + 0, none⟩ (.int .i64 ((0 : Nat) : Int))).heap[T]? = some (.cells (tc (lst (c0 1)) (lst (til (fun s => s) 1)) (.slice none 0 0)).toArray 53)) := by
          unfold Hid
          rw [c0_zero]
          exact R1.out
        go_wp2_with fail
        go_roundw
        case rel => exact ⟨1, by omega, by go_num, R1, HG.out⟩
        case measure => simp [intOf]
      · have f3 : (wr.setCell ⟨T, 64 + k, none⟩ (.int .i64 (k : Int))).cell? ⟨T, k, none⟩ = some (.int .i64 (nth (lst (c0 k)) k : Nat)) := by
          rw [cell_of_row _ _ _ _ _ _ R1.out, List.getElem?_toArray, tc_cost (lst_len _) _ hlt]
        have f4 : (wr.setCell ⟨T, 64 + k, none⟩ (.int .i64 (k : Int))).frozen? ⟨T, k, none⟩ = false := frozen_row R1.out _
        obtain ⟨R2, g2⟩ := set_row (cs' := (tc (lst (c0 (k + 1))) (lst (til (fun s => s) (k + 1))) (.slice none 0 0)).toArray) R1.out k (.int .i64 (far : Nat)) (by rw [List.setIfInBounds_toArray, tc_set_cost (lst_len _) _ _ hlt, c0_set _ hlt (by omega)])
        have HG := hid (grownBy_trans HG.out g2)
        have R2 := hid R2
        have hk1 : (0 : Int) < (k : Int) := by omega
        clear g2 hk0
        go_upto_if 56 with (fail)
        generalize wr.setCell ⟨T, 64 + k, none⟩ (.int .i64 (k : Int)) = W7 at *
        go_wp2_with fail
        go_roundw
        case rel => exact ⟨k + 1, by omega, by go_num, R2, HG.out⟩
        case measure => simp [intOf]; omega
    · obtain rfl : k = 64 := by omega
      rw [show ((64 : Nat) : Int) = 64 from rfl]
      have hR : Hid (wr.heap[T]? = some (.cells (tc (trl r n zs 0).1 (trl r n zs 0).2 (.slice none (frL r n zs 0).length 0)).toArray 53)) := by
        have h := hR.out
        rw [c0_all, til_all] at h
        exact h
      have HA := hid (row_grown HA.out hG (by omega))
      have hB4 := hid (hB3.out.grown hG (by have := hB3.out.size; omega) (fun k e => by cases e; omega))
      have hTw := row_lt hR.out
      clear hG
      have hz := hid hz
      go_wp2_with fail
      obtain ⟨U2, rfl⟩ : ∃ U2 : World, U2 = wr := ⟨_, rfl⟩
      go_loopw [0, 65] (fun v0 i wr => ∃ (k cp fc : Nat) (ao fa : Option Addr), k ≤ n + 6 ∧ i = .int .i64 k ∧ v0 = .slice ao (m - cntTo r k) cp ∧ Hid (Rd w ao (m - cntTo r k) cp (vz (zs.drop (cntTo r k)))) ∧
        Hid (wr.heap[T]? = some (.cells (tc (trl r n zs k).1 (trl r n zs k).2 (.slice fa (frL r n zs k).length fc)).toArray 53)) ∧ Hid (wr.ownsRow (T + 1) 60 1 (.slice fa (frL r n zs k).length fc) (frL r n zs k).length (vu (frL r n zs k))) ∧ KeptB (T + 1) T U2 wr) (fun _ i _ => n + 6 - (intOf i).toNat)
      case atStart => exact ⟨0, c, 0, sa, none, by omega, rfl, rfl, hz.out, hR, World.ownsRow_nil _ _ _ _, KeptB.refl _ _ _⟩
      case round =>
        obtain ⟨k, cp, fc, ao, fa, hk, rfl, rfl, hRd, hRT, hOw, hK⟩ := hrel
        by_cases hlt : k < n + 6
        · have hKw := hid (hB4.out.trans (hK.toBelow (b := w.heap.size) (by omega) (by omega)))
          have hA := hid ((hK.block g (by omega) (by omega)).trans HA.out)
          have hK := hid hK
          have hTr := row_lt hRT.out
          have hgr := row_lt hA.out
          have hc0 := hid (show cntTo r (k + 1) = cntTo r k + (if ka r k = true then 1 else 0) + (if kb r k = true then 1 else 0) from rfl)
          have hc1 := cnt_mono r (k + 1) (n + 6) (by omega)
          rw [← Hm.out] at hc1
          have hat := fun W => at_ok r k W h1 h5 (by omega)
          rw [Hpa.out, Hpb.out] at hat
          have r1 := heap_alloc_new wr (.cells #[.int .i64 0, .int .i64 0] 54)
          have b1 := below_alloc wr (.cells #[.int .i64 0, .int .i64 0] 54)
          have r2 := heap_alloc_new (wr.alloc (.cells #[.int .i64 0, .int .i64 0] 54)) (.cells #[.int .i64 0, .int .i64 0] 54)
          have b2 := below_alloc (wr.alloc (.cells #[.int .i64 0, .int .i64 0] 54)) (.cells #[.int .i64 0, .int .i64 0] 54)
          have hA2 := row_below (row_below hA.out b1) b2
          have r1 := row_below r1 b2
          simp only [World.size_alloc] at r2
          have ca : ((wr.alloc (.cells #[.int .i64 0, .int .i64 0] 54)).alloc (.cells #[.int .i64 0, .int .i64 0] 54)).cell? ⟨g, 0, none⟩ = some (.string pa) := by rw [cell_of_row _ _ _ _ _ _ hA2]; rfl
          have cb : ((wr.alloc (.cells #[.int .i64 0, .int .i64 0] 54)).alloc (.cells #[.int .i64 0, .int .i64 0] 54)).cell? ⟨g, 1, none⟩ = some (.string pb) := by rw [cell_of_row _ _ _ _ _ _ hA2]; rfl
          have b12 := hid (b1.trans (b2.mono b1.size))
          have r1 := hid r1
          have r2 := hid r2
          clear b1 b2 hA2
          go_wp2_with fail
          refine (hat _).mono ?_
          rintro e W3 ⟨rfl, b3⟩
          have hK3 := hid (hK.out.trans ((KeptB.below (B := T + 1) (T := T) b12.out (by omega)).trans (KeptB.below b3 (by have := b12.out.size; omega))))
          have hB3 := hid (hKw.out.trans ((b12.out.mono hKw.out.size).trans (b3.mono (by have := b12.out.size; have := hKw.out.size; omega))))
          have r1 := hid (row_below r1.out b3)
          have r2 := hid (row_below r2.out b3)
          have hRT3 := hid (row_below (row_below hRT.out b12.out) b3)
          have hOw3 := hid (ownsRow_below (ownsRow_below hOw.out b12.out) b3)
          obtain ⟨G, hG⟩ : ∃ G, G = wr.heap.size := ⟨_, rfl⟩
          rw [← hG] at r1 r2 ⊢
          have hTG : T < G := by omega
          clear b12 b3 hat ca cb hK hA hRT hOw hKw hG
          obtain ⟨xa, hxa⟩ : ∃ x, x = ka r k := ⟨_, rfl⟩
          obtain ⟨xb, hxb⟩ : ∃ x, x = kb r k := ⟨_, rfl⟩
          have Hxa := hid hxa
          have Hxb := hid hxb
          rw [← hxa, ← hxb] at hc0 ⊢
          clear hxa hxb
          obtain ⟨c1, hc1e⟩ : ∃ c1, c1 = cntTo r k + (if xa = true then 1 else 0) := ⟨_, rfl⟩
          have Hc1 := hid hc1e
          obtain ⟨c2, hc2e⟩ : ∃ c2, c2 = cntTo r (k + 1) := ⟨_, rfl⟩
          have Hc2 : Hid (c2 = c1 + (if xb = true then 1 else 0)) := by unfold Hid; rw [hc2e, hc0.out, hc1e]
          have Hc2e := hid hc2e
          rw [← hc2e] at hc1
          have hcc : c1 ≤ c2 := by rw [Hc2.out]; omega
          clear hc1e hc2e hc0
          obtain ⟨c0', hc0e⟩ : ∃ c0', c0' = cntTo r k := ⟨_, rfl⟩
          have hcd : c0' ≤ c1 := by rw [hc0e, Hc1.out]; omega
          have Hc0e := hid hc0e
          rw [← hc0e] at hRd Hc1 ⊢
          clear hc0e
          obtain ⟨WX, hWX⟩ : ∃ WX, WX = W3 := ⟨_, rfl⟩
          rw [← hWX] at r1 r2 hRT3 hOw3 hK3 hB3 ⊢
          clear hWX
          go_upto_if 74 with (fail)
          go_cut [0] (fun v0 wx => ∃ (cp' : Nat) (ao' : Option Addr), v0 = .slice ao' (m - c1) cp' ∧ Hid (Rd w ao' (m - c1) cp' (vz (zs.drop c1))) ∧
            Hid (wx.heap[G]? = some (.cells #[.int .i64 ((if xa = true then sy 0 (zs.getD c0' 0) else 0 : Nat) : Int), .int .i64 ((if xa = true then sy 1 (zs.getD c0' 0) else 0 : Nat) : Int)] 54)) ∧ WX.grownBy wx (some (G)))
          case first =>
            cases xa
            · have e0 : c1 = c0' := by rw [Hc1.out]; simp
              have E0 := hid e0
              clear e0
              go_wp2_with fail
              go_meet
              exact ⟨cp, ao, by rw [E0.out], by rw [E0.out]; exact hRd, by unfold Hid; rw [if_neg (by simp), if_neg (by simp)]; exact r1.out, World.grownBy.refl _ _⟩
            · have e0 : c1 = c0' + 1 := by rw [Hc1.out]; simp
              have hm1 : 1 ≤ m - c0' := by omega
              have hz0 := hs c0'
              obtain ⟨b, off, rfl, hbl, hcell⟩ := hRd.out.cellz 0 (by omega)
              simp only [drop_getD, Nat.add_zero] at hcell
              have hrest := hid (hRd.out.rest hm1)
              have hle := hRd.out.le
              have hsl := run_sl1 b off (m - c0') cp hm1 hle
              have e1 : m - c0' - 1 = m - c1 := by omega
              rw [List.drop_drop, ← e0, e1] at hrest
              rw [e1] at hsl
              have hn0 : 0 < m - c0' := by omega
              obtain ⟨off', hoff⟩ : ∃ off', off' = (if cp = 1 then off else off + 1) := ⟨_, rfl⟩
              rw [← hoff] at hsl hrest
              clear hoff
              clear e0 e1
              obtain ⟨z, hz⟩ : ∃ z, z = zs.getD c0' 0 := ⟨_, rfl⟩
              rw [← hz] at hcell hz0
              have HZ := hid hz
              clear hz
              have hc7 : Hid (∀ w', WX.drew.grownBy w' (some (G)) → w'.cell? ⟨b, off, none⟩ = some (.int .i64 z)) := fun w' hg => by
                have hg := grownBy_trans (grownBy_drew WX _) hg
                rw [World.cell?_of_block (w := WX) (hg.block b (by have := hB3.out.size; omega) (fun e => by cases e; omega)), hB3.out.cell (p := ⟨b, off, none⟩) hbl]
                exact hcell
              obtain ⟨z1, z2⟩ := hz0
              have s1 : IntKind.i64.wrap (7 + z) = 7 + z := by rw [IntWalk.i64_in _ (by omega)]
              have s2 : IntKind.i64.wrap (7 - z) = 7 - z := by rw [IntWalk.i64_in _ (by omega)]
              obtain ⟨len0, hl0⟩ : ∃ x, x = m - c0' := ⟨_, rfl⟩
              obtain ⟨len1, hl1⟩ : ∃ x, x = m - c1 := ⟨_, rfl⟩
              have HL1 := hid hl1
              rw [← hl0] at hle hsl hn0 ⊢
              rw [← hl1] at hsl hrest
              clear hl0 hl1 hm1
              go_upto_region 22 with (fail)
              refine wp_region_can_all [11] [0, 1, 2, 3, 4, 5, 6, 7, 8, 9, 10, 11, 12] (fun u u' => u.grownBy u' (some (G))) (fun u => World.grownBy.refl u _) (fun _ _ _ h k => grownBy_trans h k) (by kernel_rfl) (by kernel_rfl) ?_
              simp only [List.map_cons, List.map_nil, List.contains_cons, List.contains_nil, List.getD_cons_zero, List.getD_cons_succ, Nat.reduceBEq, Bool.or_false]
              have hc8 := hc7.out
              have hr1 : WX.drew.heap[G]? = some (.cells #[.int .i64 0, .int .i64 0] 54) := r1.out
              have f1 : WX.drew.cell? ⟨G, 0, none⟩ = some (.int .i64 0) := by rw [cell_of_row _ _ _ _ _ _ hr1]; rfl
              have f2 : WX.drew.cell? ⟨G, 1, none⟩ = some (.int .i64 0) := by rw [cell_of_row _ _ _ _ _ _ hr1]; rfl
              have f3 : WX.drew.frozen? ⟨G, 0, none⟩ = false := frozen_row hr1 0
              have f4 : WX.drew.frozen? ⟨G, 1, none⟩ = false := frozen_row hr1 1
              have HR1 := hid hr1
              have HX := hid (grownBy_drew WX (some (G)))
              clear hr1
              generalize WX.drew = Y at *
              repeat (refine wpL_do rfl (fun w' hw' => (by go_simp; rfl)) ?_; simp only [Act.put, List.setIfInBounds_toArray, List.set_cons_succ, List.set_cons_zero])
              obtain ⟨R1, g1⟩ := set_row (cs' := #[.int .i64 (7 + z), .int .i64 0]) HR1.out 0 (.int .i64 (7 + z)) rfl
              obtain ⟨R2, g2⟩ := set_row (cs' := #[.int .i64 (7 + z), .int .i64 (7 - z)]) R1 1 (.int .i64 (7 - z)) rfl
              have R2 := hid R2
              have g12 := hid (grownBy_trans g1 g2)
              clear R1 g1 g2 HR1 hc8 hsl
              refine wpL_call rfl (fun K hK => ?_)
              go_wp2_with fail
              refine hK _ _ g12.out ?_
              clear hK K f1 f2 f3 f4
              try simp only [Act.put, List.setIfInBounds_toArray, List.set_cons_succ, List.set_cons_zero]
              repeat (refine wpL_do rfl (fun w' hw' => (by go_simp; rfl)) ?_; simp only [Act.put, List.setIfInBounds_toArray, List.set_cons_zero])
              refine wpL_nil ?_
              have hfin := hid (grownBy_trans HX.out g12.out)
              clear g12 HX
              go_wp2_with fail
              go_meet
              refine ⟨cp - 1, _, by rw [HL1.out], by rw [← HL1.out]; exact hrest, ?_, hfin.out⟩
              unfold Hid
              simp only [if_true]
              rw [sy_zero _ (by rw [← HZ.out]; exact z1), sy_one _ (by rw [← HZ.out]; exact z2), ← HZ.out]
              exact R2.out
          case rest =>
          obtain ⟨cp, ao, rfl, hRd, rG1, gr1⟩ := hcut
          have r2 := hid (row_grown r2.out gr1 (by omega))
          have hRT3 := hid (row_grown hRT3.out gr1 (by omega))
          have hOw3 := hid (hOw3.out.kept gr1 (by
            rcases own_ne hOw3.out r1.out (by decide) with h | h
            · exact .inl h
            · exact .inr h))
          have hK3 := hid (hK3.out.trans (KeptB.grown (B := T + 1) (T := T) gr1 (by have := row_lt r1.out; omega) (fun k e => by cases e; exact .inl hTG)))
          have hB3 := hid (hB3.out.grown gr1 (by have := hB3.out.size; omega) (fun k e => by cases e; omega))
          have hHl : G + 1 < wc.heap.size := row_lt r2.out
          clear gr1 r1
          obtain ⟨WY, rfl⟩ : ∃ WY : World, WY = wc := ⟨_, rfl⟩
          go_upto_if 86 with (fail)
          go_cut [0] (fun v0 wx => ∃ (cp' : Nat) (ao' : Option Addr), v0 = .slice ao' (m - c2) cp' ∧ Hid (Rd w ao' (m - c2) cp' (vz (zs.drop c2))) ∧
            Hid (wx.heap[G + 1]? = some (.cells #[.int .i64 ((if xb = true then sy 0 (zs.getD c1 0) else 0 : Nat) : Int), .int .i64 ((if xb = true then sy 1 (zs.getD c1 0) else 0 : Nat) : Int)] 54)) ∧ WY.grownBy wx (some (G + 1)))
          case first =>
            cases xb
            · have e0 : c2 = c1 := by rw [Hc2.out]; simp
              have E0 := hid e0
              clear e0
              go_wp2_with fail
              go_meet
              exact ⟨cp, ao, by rw [E0.out], by rw [E0.out]; exact hRd, by unfold Hid; rw [if_neg (by simp), if_neg (by simp)]; exact r2.out, World.grownBy.refl _ _⟩
            · have e0 : c2 = c1 + 1 := by rw [Hc2.out]; simp
              have hm1 : 1 ≤ m - c1 := by omega
              have hz0 := hs c1
              obtain ⟨b, off, rfl, hbl, hcell⟩ := hRd.out.cellz 0 (by omega)
              simp only [drop_getD, Nat.add_zero] at hcell
              have hrest := hid (hRd.out.rest hm1)
              have hle := hRd.out.le
              have hsl := run_sl1 b off (m - c1) cp hm1 hle
              have e1 : m - c1 - 1 = m - c2 := by omega
              rw [List.drop_drop, ← e0, e1] at hrest
              rw [e1] at hsl
              have hn0 : 0 < m - c1 := by omega
              obtain ⟨off', hoff⟩ : ∃ off', off' = (if cp = 1 then off else off + 1) := ⟨_, rfl⟩
              rw [← hoff] at hsl hrest
              clear hoff
              clear e0 e1
              obtain ⟨z, hz⟩ : ∃ z, z = zs.getD c1 0 := ⟨_, rfl⟩
              rw [← hz] at hcell hz0
              have HZ := hid hz
              clear hz
              have hc7 : Hid (∀ w', WY.drew.grownBy w' (some (G + 1)) → w'.cell? ⟨b, off, none⟩ = some (.int .i64 z)) := fun w' hg => by
                have hg := grownBy_trans (grownBy_drew WY _) hg
                rw [World.cell?_of_block (w := WY) (hg.block b (by have := hB3.out.size; omega) (fun e => by cases e; omega)), hB3.out.cell (p := ⟨b, off, none⟩) hbl]
                exact hcell
              obtain ⟨z1, z2⟩ := hz0
              have s1 : IntKind.i64.wrap (7 + z) = 7 + z := by rw [IntWalk.i64_in _ (by omega)]
              have s2 : IntKind.i64.wrap (7 - z) = 7 - z := by rw [IntWalk.i64_in _ (by omega)]
              obtain ⟨len0, hl0⟩ : ∃ x, x = m - c1 := ⟨_, rfl⟩
              obtain ⟨len1, hl1⟩ : ∃ x, x = m - c2 := ⟨_, rfl⟩
              have HL1 := hid hl1
              rw [← hl0] at hle hsl hn0 ⊢
              rw [← hl1] at hsl hrest
              clear hl0 hl1 hm1
              go_upto_region 24 with (fail)
              refine wp_region_can_all [11] [0, 1, 2, 3, 4, 5, 6, 7, 8, 9, 10, 11, 12] (fun u u' => u.grownBy u' (some (G + 1))) (fun u => World.grownBy.refl u _) (fun _ _ _ h k => grownBy_trans h k) (by kernel_rfl) (by kernel_rfl) ?_
              simp only [List.map_cons, List.map_nil, List.contains_cons, List.contains_nil, List.getD_cons_zero, List.getD_cons_succ, Nat.reduceBEq, Bool.or_false]
              have hc8 := hc7.out
              have hr1 : WY.drew.heap[G + 1]? = some (.cells #[.int .i64 0, .int .i64 0] 54) := r2.out
              have f1 : WY.drew.cell? ⟨G + 1, 0, none⟩ = some (.int .i64 0) := by rw [cell_of_row _ _ _ _ _ _ hr1]; rfl
              have f2 : WY.drew.cell? ⟨G + 1, 1, none⟩ = some (.int .i64 0) := by rw [cell_of_row _ _ _ _ _ _ hr1]; rfl
              have f3 : WY.drew.frozen? ⟨G + 1, 0, none⟩ = false := frozen_row hr1 0
              have f4 : WY.drew.frozen? ⟨G + 1, 1, none⟩ = false := frozen_row hr1 1
              have HR1 := hid hr1
              have HX := hid (grownBy_drew WY (some (G + 1)))
              clear hr1
              generalize WY.drew = Y at *
              repeat (refine wpL_do rfl (fun w' hw' => (by go_simp; rfl)) ?_; simp only [Act.put, List.setIfInBounds_toArray, List.set_cons_succ, List.set_cons_zero])
              obtain ⟨R1, g1⟩ := set_row (cs' := #[.int .i64 (7 + z), .int .i64 0]) HR1.out 0 (.int .i64 (7 + z)) rfl
              obtain ⟨R2, g2⟩ := set_row (cs' := #[.int .i64 (7 + z), .int .i64 (7 - z)]) R1 1 (.int .i64 (7 - z)) rfl
              have R2 := hid R2
              have g12 := hid (grownBy_trans g1 g2)
              clear R1 g1 g2 HR1 hc8 hsl
              refine wpL_call rfl (fun K hK => ?_)
              go_wp2_with fail
              refine hK _ _ g12.out ?_
              clear hK K f1 f2 f3 f4
              try simp only [Act.put, List.setIfInBounds_toArray, List.set_cons_succ, List.set_cons_zero]
              repeat (refine wpL_do rfl (fun w' hw' => (by go_simp; rfl)) ?_; simp only [Act.put, List.setIfInBounds_toArray, List.set_cons_zero])
              refine wpL_nil ?_
              have hfin := hid (grownBy_trans HX.out g12.out)
              clear g12 HX
              go_wp2_with fail
              go_meet
              refine ⟨cp - 1, _, by rw [HL1.out], by rw [← HL1.out]; exact hrest, ?_, hfin.out⟩
              unfold Hid
              simp only [if_true]
              rw [sy_zero _ (by rw [← HZ.out]; exact z1), sy_one _ (by rw [← HZ.out]; exact z2), ← HZ.out]
              exact R2.out
          case rest =>
          obtain ⟨cp, ao, rfl, hRd, rG2, gr2⟩ := hcut
          have rG1 := hid (row_grown rG1.out gr2 (by omega))
          have hRT3 := hid (row_grown hRT3.out gr2 (by omega))
          have hOw3 := hid (hOw3.out.kept gr2 (by
            rcases own_ne hOw3.out r2.out (by decide) with h | h
            · exact .inl h
            · exact .inr h))
          have hK3 := hid (hK3.out.trans (KeptB.grown (B := T + 1) (T := T) gr2 (by omega) (fun k e => by cases e; exact .inl (by omega))))
          have hHl : G + 1 < wc.heap.size := row_lt rG2.out
          clear gr2 r2
          obtain ⟨WZ, rfl⟩ : ∃ WZ : World, WZ = wc := ⟨_, rfl⟩
          have hord := trl_ord r n zs k
          have hcost := trl_cost r n zs hs k
          have hlen := trl_len r n zs k
          have hfll := frL_len r n zs k
          have hpy : ∀ (b s : Nat) (W : World), b < 2 → s < 64 → WZ.grownBy W (some WZ.heap.size) → Calls Try.prog 18 #[.int .i64 (b : Int), .int .i64 (s : Int), .pointer (some ⟨G, 0, none⟩), .pointer (some ⟨G + 1, 0, none⟩)] W fun e w' => e = .returned (.int .i64 (payS r (fun j => zs.getD j 0) k b s : Nat)) ∧ Below W.heap.size W w' := fun b s W hb hs' hg => by
            have q1r := row_grown rG1.out hg (by omega)
            have q2r := row_grown rG2.out hg (by omega)
            have h := pay_ok b s G (G + 1) (fun x => if xa = true then sy x (zs.getD c0' 0) else 0) (fun x => if xb = true then sy x (zs.getD c1 0) else 0) W hb hs' (fun i hi => by
              rw [cell_of_row _ _ _ _ _ _ q1r]
              rcases (show i = 0 ∨ i = 1 by omega) with rfl | rfl <;> rfl) (fun i hi => by
              rw [cell_of_row _ _ _ _ _ _ q2r]
              rcases (show i = 0 ∨ i = 1 by omega) with rfl | rfl <;> rfl) (fun i => by
              split
              · have := sy_le i (zs.getD c0' 0) (hs _).1 (hs _).2; omega
              · omega) (fun i => by
              split
              · have := sy_le i (zs.getD c1 0) (hs _).1 (hs _).2; omega
              · omega)
            refine h.mono fun e w' ⟨he, hw⟩ => ⟨he.trans ?_, hw⟩
            rw [Hc1.out, Hc0e.out, Hxa.out, Hxb.out]
            rfl
          have Hpy := hid hpy
          clear hpy
          by_cases hnk : n ≤ k
          · skip
            have hst := step_ok T G (G + 1) (T + 1) true (trl r n zs k).1 (trl r n zs k).2 (frL r n zs k) fa fc (payS r (fun j => zs.getD j 0) k) WZ hRT3.out hlen.1 hlen.2 (fun i => by have := hcost i; unfold far at this; omega) hord.1 hord.2 (fun b s => by have := payS_le r zs hs k b s; omega) (by omega) (by omega) (by omega) hOw3.out Hpy.out
            have hd : decide (n ≤ k) = true := decide_eq_true hnk
            have Ht : Hid ((lst (newC (payS r (fun j => zs.getD j 0) k) true (trl r n zs k).1 (trl r n zs k).2) = (trl r n zs (k + 1)).1 ∧ lst (rk (newO (payS r (fun j => zs.getD j 0) k) (trl r n zs k).1 (trl r n zs k).2)) = (trl r n zs (k + 1)).2) ∧ frL r n zs k ++ [frTo (hiK (payS r (fun j => zs.getD j 0) k) (trl r n zs k).1 (trl r n zs k).2) 64] = frL r n zs (k + 1)) := by
              refine ⟨⟨?_, rfl⟩, (frL_succ r n zs k).symm⟩
              rw [← hd]
              rfl
            have HD := hid hd
            have Hfl := hid hfll
            have Hfl2 := hid (frL_len r n zs (k + 1))
            clear hd hfll hlen hcost hord Hpy
            rw [Ht.out.1.1, Ht.out.1.2, Ht.out.2] at hst
            rw [Hfl.out] at hst
            rw [Hfl.out] at hRT3
            
            generalize htn : trl r n zs (k + 1) = tn at *
            have Htn := hid htn
            generalize hfn : frL r n zs (k + 1) = fn at *
            have Hfn := hid hfn
            clear htn hfn
            go_wp2_with fail
            refine hst.mono ?_
            rintro e W9 ⟨rfl, fa2, fc2, hT9, hO9, hK9⟩
            have hT9 := hid hT9
            have hO9 := hid hO9
            have hK9 := hid (hK3.out.trans hK9)
            clear hK3 hRT3 hOw3 rG1 rG2 hst
            go_wp2_with fail
            go_roundw
            case rel => exact ⟨k + 1, cp, fc2, ao, fa2, by omega, by go_num, by rw [Hc2e.out], by rw [← Hc2e.out]; exact hRd, by unfold Hid; rw [Htn.out, Hfn.out, Hfl2.out]; exact hT9.out, by unfold Hid; rw [Hfn.out, Hfl2.out]; exact hO9.out, hK9.out⟩
            case measure => simp [intOf]; omega
          · skip
            have hst := step_ok T G (G + 1) (T + 1) false (trl r n zs k).1 (trl r n zs k).2 (frL r n zs k) fa fc (payS r (fun j => zs.getD j 0) k) WZ hRT3.out hlen.1 hlen.2 (fun i => by have := hcost i; unfold far at this; omega) hord.1 hord.2 (fun b s => by have := payS_le r zs hs k b s; omega) (by omega) (by omega) (by omega) hOw3.out Hpy.out
            have hd : decide (n ≤ k) = false := decide_eq_false hnk
            have Ht : Hid ((lst (newC (payS r (fun j => zs.getD j 0) k) false (trl r n zs k).1 (trl r n zs k).2) = (trl r n zs (k + 1)).1 ∧ lst (rk (newO (payS r (fun j => zs.getD j 0) k) (trl r n zs k).1 (trl r n zs k).2)) = (trl r n zs (k + 1)).2) ∧ frL r n zs k ++ [frTo (hiK (payS r (fun j => zs.getD j 0) k) (trl r n zs k).1 (trl r n zs k).2) 64] = frL r n zs (k + 1)) := by
              refine ⟨⟨?_, rfl⟩, (frL_succ r n zs k).symm⟩
              rw [← hd]
              rfl
            have HD := hid hd
            have Hfl := hid hfll
            have Hfl2 := hid (frL_len r n zs (k + 1))
            clear hd hfll hlen hcost hord Hpy
            rw [Ht.out.1.1, Ht.out.1.2, Ht.out.2] at hst
            rw [Hfl.out] at hst
            rw [Hfl.out] at hRT3
            have hnk : k < n := by omega
            generalize htn : trl r n zs (k + 1) = tn at *
            have Htn := hid htn
            generalize hfn : frL r n zs (k + 1) = fn at *
            have Hfn := hid hfn
            clear htn hfn
            go_wp2_with fail
            refine hst.mono ?_
            rintro e W9 ⟨rfl, fa2, fc2, hT9, hO9, hK9⟩
            have hT9 := hid hT9
            have hO9 := hid hO9
            have hK9 := hid (hK3.out.trans hK9)
            clear hK3 hRT3 hOw3 rG1 rG2 hst
            go_wp2_with fail
            go_roundw
            case rel => exact ⟨k + 1, cp, fc2, ao, fa2, by omega, by go_num, by rw [Hc2e.out], by rw [← Hc2e.out]; exact hRd, by unfold Hid; rw [Htn.out, Hfn.out, Hfl2.out]; exact hT9.out, by unfold Hid; rw [Hfn.out, Hfl2.out]; exact hO9.out, hK9.out⟩
            case measure => simp [intOf]; omega
        · obtain rfl : k = n + 6 := by omega
          have hKw := hid (hB4.out.trans (hK.toBelow (b := w.heap.size) (by omega) (by omega)))
          have hlen := trl_len r n zs (n + 6)
          have hbk := back_ok T n (frL r n zs (n + 6)) (trl r n zs (n + 6)).1 (trl r n zs (n + 6)).2 fa fc (chs r n zs) wr.drew hRT.out hlen.1 hlen.2 ((Rd.ofOwn hOw.out).below (Below.refl _ wr).drew) (frL_len r n zs (n + 6)) hn (fun i hi => frL_nth r n zs (n + 6) i hi)
          have c8 : ∀ w', Below wr.heap.size wr.drew w' → w'.cell? ⟨T, 0, none⟩ = some (.int .i64 (nth (trl r n zs (n + 6)).1 0 : Nat)) := fun w' hb => by
            rw [cell_of_row _ _ _ _ _ _ (row_below hRT.out ((Below.refl _ wr).drew.trans hb)), List.getElem?_toArray, tc_cost hlen.1 0 (by omega)]
          have hKw2 := hid (hKw.out.trans (Below.refl _ wr).drew)
          have hszw : w.heap.size ≤ wr.drew.heap.size := hKw2.out.size
          have hT0 : T < wr.drew.heap.size := row_lt hRT.out
          clear hlen hRT hOw hK HA hKw hRd
          generalize hcost0 : nth (trl r n zs (n + 6)).1 0 = cost0 at *
          have Hcost0 := hid hcost0
          clear hcost0
          go_upto_region 27 with (fail)
          refine wp_region_can_all [2] [0, 1, 3, 4, 5, 6, 7, 2, 8, 9, 10] (Below wr.heap.size) (fun _ => Below.refl _ _) (fun _ _ _ h k => h.trans k) (by kernel_rfl) (by kernel_rfl) ?_
          simp only [List.map_cons, List.map_nil, List.contains_cons, List.contains_nil, List.getD_cons_zero, List.getD_cons_succ, Nat.reduceBEq, Bool.or_false]
          have hsz : wr.drew.heap.size = wr.heap.size := rfl
          generalize wr.drew = Y at *
          have Hsz := hid hsz
          clear hsz
          repeat (refine wpL_do rfl (fun w' hw' => (by go_simp; rfl)) ?_; simp only [Act.put, List.setIfInBounds_toArray, List.set_cons_succ, List.set_cons_zero])
          refine wpL_call rfl (fun K hK => ?_)
          go_wp2_with fail
          refine hbk.mono ?_
          rintro e W9 ⟨ao9, cp9, rfl, o9, b9⟩
          refine hK _ _ (by rw [← Hsz.out]; exact b9) ?_
          clear hK K c8 hbk
          try simp only [Act.put, List.setIfInBounds_toArray, List.set_cons_succ, List.set_cons_zero]
          have O9 := hid (ownsRow_mono o9 hszw)
          have B9 := hid (hKw2.out.trans (b9.mono hszw))
          clear o9 b9
          repeat (refine wpL_do rfl (fun w' hw' => (by go_simp; rfl)) ?_; simp only [Act.put, List.setIfInBounds_toArray, List.set_cons_succ, List.set_cons_zero])
          refine wpL_nil ?_
          go_wp2_with fail
          go_ret3
          exact ⟨ao9, cp9, by rw [Hcost0.out]; rfl, O9.out, B9.out⟩
end Go.Proofs.Ytaedanklpedmkaa
