/- MemoryHolds: Scrub. -/
import Derived.Test.YtgacnbildligjaaDoorKeep
namespace Go.Proofs.YtgacnbildligjaaDoor
set_option linter.unusedVariables false
open Go.RowKit

theorem TabAt.kept {w w' : World} {a b : Nat} (h : TabAt w) (hk : Kept2 w w' a b) (ha : 2 < a) (hb : 2 < b) : TabAt w' := fun j hj => by
  have hl := h.lt
  rw [← h j hj]
  exact World.cell?_of_block (w := w) (hk.block 2 hl (by omega) (by omega))
/-- all codes are good -/
def AllGood (cs : List Nat) (N : Nat) (σ : Nat → Nat × Bool) : Prop := cs.length = N ∧ ∀ j, j < N → Good (cs.getD j 0) (σ j).1 (σ j).2
theorem getD_set (cs : List Nat) (k j c : Nat) (hk : k < cs.length) : (cs.set k c).getD j 0 = if j = k then c else cs.getD j 0 := by
  rw [List.getD_eq_getElem?_getD, List.getElem?_set]
  by_cases h : j = k
  · subst h; simp [hk]
  · rw [if_neg (fun e => h e.symm), if_neg h, ← List.getD_eq_getElem?_getD]
theorem AllGood.set {cs : List Nat} {N k c : Nat} {σ σ' : Nat → Nat × Bool} (h : AllGood cs N σ) (hk : k < N) (hc : Good c (σ' k).1 (σ' k).2) (ho : ∀ j, j < N → j ≠ k → σ' j = σ j) : AllGood (cs.set k c) N σ' := by
  refine ⟨by rw [List.length_set]; exact h.1, fun j hj => ?_⟩
  rw [getD_set cs k j c (by rw [h.1]; exact hk)]
  by_cases e : j = k
  · subst e; rw [if_pos rfl]; exact hc
  · rw [if_neg e, ho j hj e]; exact h.2 j hj
/-- the first k are clean -/
def clean (σ : Nat → Nat × Bool) (k : Nat) : Nat → Nat × Bool := fun j => ((σ j).1, if j < k then false else (σ j).2)

set_option maxHeartbeats 4000000 in
set_option maxRecDepth 100000 in
theorem scrub_ok (mb cb N : Nat) (σ : Nat → Nat × Bool) (cs : List Nat) (W : World) (hM : Mem W mb cb cs 0) (hG : AllGood cs N σ) (hN : 1 ≤ N ∧ N ≤ 4096) (hT : TabAt W) (hmb : 2 < mb) (hcb : 2 < cb) :
    Calls Tryd.prog 17 #[.pointer (some ⟨mb, 0, none⟩), .int .i64 (N : Int)] W fun e w' => ∃ (ct : Nat) (cs' : List Nat), e = .returned (.tuple #[.int .i64 (ct : Int), .slice none 0 0, .nilIface]) ∧ AllGood cs' N (clean σ N) ∧ Mem w' mb cb cs' 0 ∧ Kept2 W w' mb cb := by
  have h0 := hM.c0
  rw [hG.1] at h0
  have h00 : AllGood cs N (clean σ 0) := ⟨hG.1, fun j hj => hG.2 j hj⟩
  have HG := hid h00
  clear hG h00
  go_enter Tryd.func17, Tryd.ntmps17
  go_wp2_with fail
  clear h0
  go_loopw [4, 5, 23] (fun c' l' k' wr => ∃ (k ct : Nat) (cs' : List Nat), c' = .int .i64 (ct : Int) ∧ l' = .slice none 0 0 ∧ k' = .int .i64 (k : Int) ∧ k ≤ N ∧ ct ≤ k ∧ AllGood cs' N (clean σ k) ∧ Mem wr mb cb cs' (if k = N then 0 else k) ∧ Kept2 W wr mb cb) (fun _ _ k' _ => N - (intOf k').toNat)
  case atStart => exact ⟨0, 0, cs, rfl, rfl, rfl, Nat.zero_le _, Nat.zero_le _, HG.out, by rw [if_neg (by omega)]; exact hM, Kept2.refl _ _ _⟩
  case round =>
    clear hM
    obtain ⟨k, ct, cs', rfl, rfl, rfl, hk, hct, hA, hM, hK⟩ := hrel
    by_cases hlt : k < N
    · have t1 : (k : Int) < (N : Int) := by omega
      rw [if_neg (by omega)] at hM
      have hT2 := hT.kept hK hmb hcb
      have HA := hid hA
      have HL := hid hA.1
      clear hA
      have hl : cs'.length = N := HL.out
      have hMd := hM.drew
      have b0 := hMd.c0
      have b1 := hMd.c1
      rw [hl] at b0
      have hmc := hM.ne
      have hTd := hT2.drew
      have hKd : Kept2 W wr.drew mb cb := hK.trans (Kept2.ofBelow ((Below.refl _ wr).drew))
      clear hl
      go_wp2_with fail
      refine wp_region_can_all [9] [0, 1, 2, 3, 4, 5, 6, 7, 8, 9, 10, 11, 12, 13, 14, 15, 16] (fun u u' => u.grownBy u' (some cb)) (fun u => World.grownBy.refl u _) (fun _ _ _ h k => grownBy_trans h k) (by kernel_rfl) (by kernel_rfl) ?_
      simp only [List.map_cons, List.map_nil, List.contains_cons, List.contains_nil, List.getD_cons_zero, List.getD_cons_succ, Nat.reduceBEq, Bool.or_false]
      generalize wr.drew = V at *
      clear hM hK hT2
      have n0 : ∀ w', V.grownBy w' (some cb) → w'.cell? ⟨mb, 0, none⟩ = some (.slice (some ⟨cb, 0, none⟩) N N) := fun w' hw => (World.cell?_of_block (w := V) (hw.block mb (row_lt hMd.m) (fun e => hmc (by cases e; rfl)))).trans b0
      have n1 : ∀ w', V.grownBy w' (some cb) → w'.cell? ⟨mb, 1, none⟩ = some (.int .i64 (k : Int)) := fun w' hw => (World.cell?_of_block (w := V) (hw.block mb (row_lt hMd.m) (fun e => hmc (by cases e; rfl)))).trans b1
      clear b0 b1
      repeat (refine wpL_do rfl (fun w' hw' => (by go_simp; rfl)) ?_; simp only [Act.put, List.setIfInBounds_toArray, List.set_cons_succ, List.set_cons_zero])
      clear n0 n1
      refine wpL_call rfl (fun K hK => ?_)
      go_wp2_with fail
      refine (visit_ok mb cb k (σ k).1 k (σ k).2 cs' V hMd (by rw [HL.out]; exact hlt) (by have := HA.out.2 k hlt; simpa [clean] using this) hTd).mono ?_
      rintro e V1 ⟨c, rfl, hc, hM1, g1⟩
      have hA1 : AllGood (cs'.set k c) N (clean σ (k + 1)) := HA.out.set hlt (by simpa [clean] using hc) (fun j hj hne => by
        unfold clean
        by_cases h1 : j < k
        · rw [if_pos h1, if_pos (by omega)]
        · rw [if_neg h1, if_neg (by omega)])
      have HA1 := hid hA1
      clear hA1 HA HL hc
      refine hK _ _ g1 ?_
      clear hK K
      try simp only [Act.put, List.setIfInBounds_toArray, List.set_cons_succ, List.set_cons_zero]
      repeat (refine wpL_do rfl (fun w' hw' => (by go_simp; rfl)) ?_; simp only [Act.put, List.setIfInBounds_toArray, List.set_cons_succ, List.set_cons_zero])
      refine wpL_nil ?_
      have hKd := hKd.trans (Kept2.right g1)
      clear g1 hMd
      obtain ⟨nx, hnx⟩ : ∃ nx : Nat, nx = if k + 1 = N then 0 else k + 1 := ⟨_, rfl⟩
      have e1 : ((k : Int) + 1) % (N : Int) = (nx : Int) := by
        rw [hnx]
        by_cases h : k + 1 = N
        · rw [if_pos h, show (k : Int) + 1 = (N : Int) by omega]; simp
        · rw [if_neg h]; exact Int.emod_eq_of_lt (by omega) (by omega)
      have e2 : ((k : Int) + 1).tmod (N : Int) = (nx : Int) := by rw [Int.tmod_eq_emod_of_nonneg (by omega)]; exact e1
      have HNX := hid hnx
      clear hnx
      have hl : (cs'.set k c).length = N := HA1.out.1
      generalize cs'.set k c = cs2 at *
      obtain ⟨Wd, hWd⟩ : ∃ Wd : World, Wd = { V1 with drawn := V1.drawn + 1 } := ⟨_, rfl⟩
      have eW : V1.drew = Wd := hWd.symm
      have hM2 := hM1.drew
      have hK2 := hKd.trans (Kept2.ofBelow ((Below.refl _ V1).drew))
      rw [eW] at hM2 hK2
      clear hM1 hKd
      have b0 := hM2.c0
      have b1 := hM2.c1
      have fz := frozen_row hM2.m 1
      rw [hl] at b0
      have hM3 : Mem (Wd.setCell ⟨mb, 1, none⟩ (.int .i64 (nx : Int))) mb cb cs2 nx ∧ Wd.grownBy (Wd.setCell ⟨mb, 1, none⟩ (.int .i64 (nx : Int))) (some mb) := by
        obtain ⟨h1, h2⟩ := set_row hM2.m 1 (.int .i64 (nx : Int)) rfl
        exact ⟨⟨h1, row_grown hM2.c h2 (fun e => hmc e.symm)⟩, h2⟩
      have t2 : ¬ (N : Int) = 0 := by omega
      have t4 : ¬ N = 0 := by omega
      have t3 : ((N : Int) == 0) = false := by simp; omega
      have hw1 : IntKind.i64.wrap ((k : Int) + 1) = (k : Int) + 1 := IntWalk.i64_in _ (by omega)
      clear hl hM2 eW hTd
      obtain ⟨d, hd⟩ : ∃ d, (σ k).2 = d := ⟨_, rfl⟩
      rw [hd]
      cases d
      · change Exit.then _ _ Exit.normal _ V1
        go_wp2_with fail
        refine wp_region_still_tail 14 (by kernel_rfl) (by kernel_rfl) ?_
        simp only [List.take_succ_cons, List.take_zero, List.drop_succ_cons, List.drop_zero]
        rw [← hWd]
        clear hWd
        repeat still_step
        refine wpStill_nil ?_
        go_wp2_with fail
        go_roundw
        case rel => exact ⟨k + 1, ct, cs2, rfl, rfl, by go_num, by omega, by omega, HA1.out, by rw [← HNX.out]; exact hM3.1, hK2.trans (Kept2.left hM3.2)⟩
        case measure => simp [intOf]; omega
      · change Exit.then _ _ Exit.normal _ V1
        go_wp2_with fail
        refine wp_region_still_tail 14 (by kernel_rfl) (by kernel_rfl) ?_
        simp only [List.take_succ_cons, List.take_zero, List.drop_succ_cons, List.drop_zero]
        rw [← hWd]
        clear hWd
        repeat still_step
        refine wpStill_nil ?_
        go_wp2_with fail
        go_roundw
        case rel => exact ⟨k + 1, ct + 1, cs2, by go_num, rfl, by go_num, by omega, by omega, HA1.out, by rw [← HNX.out]; exact hM3.1, hK2.trans (Kept2.left hM3.2)⟩
        case measure => simp [intOf]; omega
    · obtain rfl : k = N := by omega
      have t1 : ¬ (k : Int) < (k : Int) := by omega
      rw [if_pos rfl] at hM
      have HA := hid hA
      clear hA
      go_wp2_with fail
      go_ret3
      exact ⟨⟨ct, rfl⟩, cs', HA.out, hM, hK⟩
end Go.Proofs.YtgacnbildligjaaDoor
