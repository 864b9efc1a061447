/- MemoryVote: the walk of the law. -/
import Derived.Test.YtgacnbildligjaaHurt
import Derived.Deep.DeepCutAuto
namespace Go.Proofs.Ytgacnbildligjaa
set_option linter.unusedVariables false
open Go.RowKit

set_option maxRecDepth 100000 in
set_option maxHeartbeats 4000000 in
theorem law_walk (ba0 la : Option Addr) (n0 bc0 ln lc : Nat) (bs0 : List Nat) (ts : Nat → Int × Int) (w0 : World) (hb0 : Rd w0 ba0 n0 bc0 (vb bs0)) (hbb0 : AllB bs0) (hl0 : RdTurn w0 la ln lc ts) (hn0 : n0 ≤ 140737488351232) (hln : ln ≤ 8796093022208) :
    Calls Try.prog 3 #[.slice ba0 n0 bc0, .slice la ln lc] w0 fun e w' => e = .returned (.bool true) ∧ Below w0.heap.size w0 w' := by
  obtain ⟨i0, hi, hz0, hz1, hz2⟩ := info_parts Try.info5
  go_enter Try.func3, Try.ntmps3
  go_upto_if 17 with (fail)
  go_cut [0] (fun v wx => ∃ (ba : Option Addr) (n bc : Nat) (bs : List Nat), v = .slice ba n bc ∧ 0 < n ∧ n ≤ 140737488351232 ∧ Rd wx ba n bc (vb bs) ∧ AllB bs ∧ Below w0.heap.size w0 wx)
  case first =>
    by_cases h0 : n0 = 0
    · subst h0
      go_wp2_with fail
      go_meet
      refine ⟨some ⟨w0.heap.size, 0, none⟩, 1, 1, [5], rfl, by omega, by omega, ?_, ?_, below_alloc _ _⟩
      · have h := World.ownsRow_lit (base := w0.heap.size) (e := 5) (size := 1) w0 #[.int .u8 5] 1 (Nat.le_refl _) (by unfold maxLen; omega) rfl
        exact Rd.ofOwn h
      · intro x hx
        simp at hx
        omega
    · have hne : ((n0 : Int) == 0) = false := by simp; omega
      go_wp2_with fail
      go_meet
      exact ⟨ba0, n0, bc0, bs0, rfl, by omega, hn0, hb0, hbb0, Below.refl _ _⟩
  case rest =>
    obtain ⟨ba, n, bc, bs, rfl, h0, hn, hb, hbb, hw0⟩ := hcut
    obtain ⟨w, hw⟩ : ∃ w, w = wc := ⟨_, rfl⟩
    subst hw
    have hl := hl0.below hw0
    clear hl0 hb0 hbb0
    have hbl : bs.length = n := by have := hb.len; rwa [vb_len] at this
    obtain ⟨b0, off0, rfl, hb0, _⟩ := hb.cell 0 (by omega)
    have A0 : (w.alloc (.cells #[.slice none 0 0, .slice none 0 0, .slice none 0 0] 24)).heap[w.heap.size]? = some (.cells #[.slice none 0 0, .slice none 0 0, .slice none 0 0] 24 (0, 0)) := heap_alloc_new w _
    have B0 := below_alloc w (.cells #[.slice none 0 0, .slice none 0 0, .slice none 0 0] 24)
    have Z0 : (w.alloc (.cells #[.slice none 0 0, .slice none 0 0, .slice none 0 0] 24)).heap.size = w.heap.size + 1 := by simp
    have R0 := hb.below B0
    have Z0l := Nat.le_of_eq Z0
    have Z0g := Nat.le_of_eq Z0.symm
    clear Z0
    go_wp2_with fail
    generalize w.alloc (.cells #[.slice none 0 0, .slice none 0 0, .slice none 0 0] 24) = W0 at *
    refine wp_loop_rounds 4 ?_
    rw [rounds_succ]
    go_wp2_with (at_builtin; refine hold ?_)
    unfold Hid
    refine wpList_append_own _ rfl _ _ 22 rfl W0.heap.size 5 i0 (.int .u8 0) 1 1 Try.underlying22 hi hz0 hz1 hz2 rfl (by decide) (.slice none 0 0) 0 [] rfl (World.ownsRow_nil _ _ _ _) ⟨b0, off0, none⟩ n bc (vb bs) rfl (by rw [vb_len]; omega) (rd_cells R0) (vb_oneCell bs) (by unfold maxLen; omega) (by omega) (Nat.le_refl _) ?_
    intro v0 V0 own0 gr0 hn0
    obtain ⟨g0, c0, rfl, hg0a, hg0b⟩ := own_some own0 (by omega)
    simp only [Nat.zero_add, List.nil_append] at own0
    have bA0 : V0.heap[w.heap.size]? = some (.cells #[.slice none 0 0, .slice none 0 0, .slice none 0 0] 24 (0, 0)) := (gr0.block _ (Array.getElem?_eq_some_iff.1 A0).1 (by simp [Value.ownBlock])).trans A0
    have cA0 : V0.cell? ⟨w.heap.size, 0, none⟩ = some (.slice none 0 0) := by rw [cell_of_row _ _ _ _ _ _ bA0]; rfl
    have fA0 : V0.frozen? ⟨w.heap.size, 0, none⟩ = false := frozen_of_row _ _ _ _ _ bA0
    have A1 : (V0.setCell ⟨w.heap.size, 0, none⟩ (.slice (some ⟨g0, 0, none⟩) n c0)).heap[w.heap.size]? = some (.cells #[(.slice (some ⟨g0, 0, none⟩) n c0), .slice none 0 0, .slice none 0 0] 24 (0, 0)) := heap_setCell_same V0 w.heap.size 0 _ 24 _ bA0
    have B1 : Below w.heap.size w (V0.setCell ⟨w.heap.size, 0, none⟩ (.slice (some ⟨g0, 0, none⟩) n c0)) := (B0.grown gr0 B0.size (fun k e => by cases e)).setCell (p := ⟨w.heap.size, 0, none⟩) (Nat.le_refl _) _
    have Z1 : (V0.setCell ⟨w.heap.size, 0, none⟩ (.slice (some ⟨g0, 0, none⟩) n c0)).heap.size = V0.heap.size := by simp
    have gs0 : V0.grownBy (V0.setCell ⟨w.heap.size, 0, none⟩ (.slice (some ⟨g0, 0, none⟩) n c0)) (some w.heap.size) := ⟨rfl, rfl, rfl, by simp, fun k hk hne => Below.heap_setCell _ _ _ _ (by intro e; exact hne (by rw [e]))⟩
    have O0_1 := own0.kept gs0 (.inr (by simp [Value.ownBlock]; omega))
    obtain ⟨W1, hW1⟩ : ∃ W1, W1 = V0.setCell ⟨w.heap.size, 0, none⟩ (.slice (some ⟨g0, 0, none⟩) n c0) := ⟨_, rfl⟩
    rw [← hW1] at A1 B1 Z1 O0_1
    have R1 := hb.below B1
    have Z1l := Nat.le_of_eq Z1
    have Z1g := Nat.le_of_eq Z1.symm
    clear Z1
    have zs0 := gr0.size
    clear gs0 gr0 own0 hn0 B0 R0 A0 bA0
    go_wp2_with fail
    rw [← hW1]
    clear hW1 cA0 fA0
    rw [rounds_succ]
    go_wp2_with (at_builtin; refine hold ?_)
    unfold Hid
    refine wpList_append_own _ rfl _ _ 22 rfl W1.heap.size 5 i0 (.int .u8 0) 1 1 Try.underlying22 hi hz0 hz1 hz2 rfl (by decide) (.slice none 0 0) 0 [] rfl (World.ownsRow_nil _ _ _ _) ⟨b0, off0, none⟩ n bc (vb bs) rfl (by rw [vb_len]; omega) (rd_cells R1) (vb_oneCell bs) (by unfold maxLen; omega) (by omega) (Nat.le_refl _) ?_
    intro v1 V1 own1 gr1 hn1
    obtain ⟨g1, c1, rfl, hg1a, hg1b⟩ := own_some own1 (by omega)
    simp only [Nat.zero_add, List.nil_append] at own1
    have bA1 : V1.heap[w.heap.size]? = some (.cells #[(.slice (some ⟨g0, 0, none⟩) n c0), .slice none 0 0, .slice none 0 0] 24 (0, 0)) := (gr1.block _ (Array.getElem?_eq_some_iff.1 A1).1 (by simp [Value.ownBlock])).trans A1
    have cA1 : V1.cell? ⟨w.heap.size, 1, none⟩ = some (.slice none 0 0) := by rw [cell_of_row _ _ _ _ _ _ bA1]; rfl
    have fA1 : V1.frozen? ⟨w.heap.size, 1, none⟩ = false := frozen_of_row _ _ _ _ _ bA1
    have A2 : (V1.setCell ⟨w.heap.size, 1, none⟩ (.slice (some ⟨g1, 0, none⟩) n c1)).heap[w.heap.size]? = some (.cells #[(.slice (some ⟨g0, 0, none⟩) n c0), (.slice (some ⟨g1, 0, none⟩) n c1), .slice none 0 0] 24 (0, 0)) := heap_setCell_same V1 w.heap.size 1 _ 24 _ bA1
    have B2 : Below w.heap.size w (V1.setCell ⟨w.heap.size, 1, none⟩ (.slice (some ⟨g1, 0, none⟩) n c1)) := (B1.grown gr1 B1.size (fun k e => by cases e)).setCell (p := ⟨w.heap.size, 1, none⟩) (Nat.le_refl _) _
    have Z2 : (V1.setCell ⟨w.heap.size, 1, none⟩ (.slice (some ⟨g1, 0, none⟩) n c1)).heap.size = V1.heap.size := by simp
    have gs1 : V1.grownBy (V1.setCell ⟨w.heap.size, 1, none⟩ (.slice (some ⟨g1, 0, none⟩) n c1)) (some w.heap.size) := ⟨rfl, rfl, rfl, by simp, fun k hk hne => Below.heap_setCell _ _ _ _ (by intro e; exact hne (by rw [e]))⟩
    have O1_2 := own1.kept gs1 (.inr (by simp [Value.ownBlock]; omega))
    have O0_2 := (O0_1.kept gr1 (.inr (by simp [Value.ownBlock]))).kept gs1 (.inr (by simp [Value.ownBlock]; omega))
    obtain ⟨W2, hW2⟩ : ∃ W2, W2 = V1.setCell ⟨w.heap.size, 1, none⟩ (.slice (some ⟨g1, 0, none⟩) n c1) := ⟨_, rfl⟩
    rw [← hW2] at A2 B2 Z2 O1_2 O0_2
    have R2 := hb.below B2
    have Z2l := Nat.le_of_eq Z2
    have Z2g := Nat.le_of_eq Z2.symm
    clear Z2
    have zs1 := gr1.size
    clear gs1 gr1 own1 O0_1 hn1 B1 R1 A1 bA1
    go_wp2_with fail
    rw [← hW2]
    clear hW2 cA1 fA1
    rw [rounds_succ]
    go_wp2_with (at_builtin; refine hold ?_)
    unfold Hid
    refine wpList_append_own _ rfl _ _ 22 rfl W2.heap.size 5 i0 (.int .u8 0) 1 1 Try.underlying22 hi hz0 hz1 hz2 rfl (by decide) (.slice none 0 0) 0 [] rfl (World.ownsRow_nil _ _ _ _) ⟨b0, off0, none⟩ n bc (vb bs) rfl (by rw [vb_len]; omega) (rd_cells R2) (vb_oneCell bs) (by unfold maxLen; omega) (by omega) (Nat.le_refl _) ?_
    intro v2 V2 own2 gr2 hn2
    obtain ⟨g2, c2, rfl, hg2a, hg2b⟩ := own_some own2 (by omega)
    simp only [Nat.zero_add, List.nil_append] at own2
    have bA2 : V2.heap[w.heap.size]? = some (.cells #[(.slice (some ⟨g0, 0, none⟩) n c0), (.slice (some ⟨g1, 0, none⟩) n c1), .slice none 0 0] 24 (0, 0)) := (gr2.block _ (Array.getElem?_eq_some_iff.1 A2).1 (by simp [Value.ownBlock])).trans A2
    have cA2 : V2.cell? ⟨w.heap.size, 2, none⟩ = some (.slice none 0 0) := by rw [cell_of_row _ _ _ _ _ _ bA2]; rfl
    have fA2 : V2.frozen? ⟨w.heap.size, 2, none⟩ = false := frozen_of_row _ _ _ _ _ bA2
    have A3 : (V2.setCell ⟨w.heap.size, 2, none⟩ (.slice (some ⟨g2, 0, none⟩) n c2)).heap[w.heap.size]? = some (.cells #[(.slice (some ⟨g0, 0, none⟩) n c0), (.slice (some ⟨g1, 0, none⟩) n c1), (.slice (some ⟨g2, 0, none⟩) n c2)] 24 (0, 0)) := heap_setCell_same V2 w.heap.size 2 _ 24 _ bA2
    have B3 : Below w.heap.size w (V2.setCell ⟨w.heap.size, 2, none⟩ (.slice (some ⟨g2, 0, none⟩) n c2)) := (B2.grown gr2 B2.size (fun k e => by cases e)).setCell (p := ⟨w.heap.size, 2, none⟩) (Nat.le_refl _) _
    have Z3 : (V2.setCell ⟨w.heap.size, 2, none⟩ (.slice (some ⟨g2, 0, none⟩) n c2)).heap.size = V2.heap.size := by simp
    have gs2 : V2.grownBy (V2.setCell ⟨w.heap.size, 2, none⟩ (.slice (some ⟨g2, 0, none⟩) n c2)) (some w.heap.size) := ⟨rfl, rfl, rfl, by simp, fun k hk hne => Below.heap_setCell _ _ _ _ (by intro e; exact hne (by rw [e]))⟩
    have O2_3 := own2.kept gs2 (.inr (by simp [Value.ownBlock]; omega))
    have O0_3 := (O0_2.kept gr2 (.inr (by simp [Value.ownBlock]))).kept gs2 (.inr (by simp [Value.ownBlock]; omega))
    have O1_3 := (O1_2.kept gr2 (.inr (by simp [Value.ownBlock]))).kept gs2 (.inr (by simp [Value.ownBlock]; omega))
    obtain ⟨W3, hW3⟩ : ∃ W3, W3 = V2.setCell ⟨w.heap.size, 2, none⟩ (.slice (some ⟨g2, 0, none⟩) n c2) := ⟨_, rfl⟩
    rw [← hW3] at A3 B3 Z3 O2_3 O0_3 O1_3
    have R3 := hb.below B3
    have Z3l := Nat.le_of_eq Z3
    have Z3g := Nat.le_of_eq Z3.symm
    clear Z3
    have zs2 := gr2.size
    clear gs2 gr2 own2 O0_2 O1_2 hn2 B2 R2 A2 bA2
    go_wp2_with fail
    rw [← hW3]
    clear hW3 cA2 fA2
    have K3 := run_mkb n (by omega)
    have OH := madeb_own n (by omega) W3
    rw [rounds_succ]
    go_wp2_with fail
    obtain ⟨G, cc, hG0, hG1, hG2, hG3⟩ : ∃ G cc : Nat → Nat, (∀ j, j < 3 → W3.cell? ⟨w.heap.size, j, none⟩ = some (.slice (some ⟨G j, 0, none⟩) n (cc j))) ∧
        (∀ j, j < 3 → W3.ownsRow w.heap.size 5 1 (.slice (some ⟨G j, 0, none⟩) n (cc j)) n (vb bs)) ∧ (∀ i j, i < 3 → j < 3 → i ≠ j → G i ≠ G j) ∧ (∀ j, j < 3 → w.heap.size < G j ∧ G j < W3.heap.size) := by
      refine ⟨fun j => if j = 0 then g0 else if j = 1 then g1 else g2, fun j => if j = 0 then c0 else if j = 1 then c1 else c2, fun j hj => ?_, fun j hj => ?_, fun i j hi hj hij => ?_, fun j hj => ?_⟩
      · rw [cell_of_row _ _ _ _ _ _ A3]
        rcases (by omega : j = 0 ∨ j = 1 ∨ j = 2) with rfl | rfl | rfl <;> rfl
      · rcases (by omega : j = 0 ∨ j = 1 ∨ j = 2) with rfl | rfl | rfl
        · exact ownsRow_mono O0_3 (by omega)
        · exact ownsRow_mono O1_3 (by omega)
        · exact ownsRow_mono O2_3 (by omega)
      · rcases (by omega : i = 0 ∨ i = 1 ∨ i = 2) with rfl | rfl | rfl <;> rcases (by omega : j = 0 ∨ j = 1 ∨ j = 2) with rfl | rfl | rfl <;> simp <;> omega
      · rcases (by omega : j = 0 ∨ j = 1 ∨ j = 2) with rfl | rfl | rfl <;> simp <;> omega
    clear O0_3 O1_3 O2_3 A3 hg0a hg0b hg1a hg1b hg2a hg2b Z0l Z1l Z2l Z3l Z0g Z1g Z2g Z3g zs0 zs1 zs2
    have hsW : w.heap.size < W3.heap.size := by have := hG3 0 (by omega); omega
    go_loopw [8] (fun i wr => ∃ (k : Nat) (C : Nat → List Nat) (H : List Bool), k ≤ ln ∧ i = .int .i64 k ∧ Hurt bs n C H k ∧
        (∀ j, j < 3 → wr.cell? ⟨w.heap.size, j, none⟩ = some (.slice (some ⟨G j, 0, none⟩) n (cc j))) ∧ (∀ j, j < 3 → wr.ownsRow w.heap.size 5 1 (.slice (some ⟨G j, 0, none⟩) n (cc j)) n (vb (C j))) ∧
        wr.ownsRow w.heap.size 4 1 (.slice (some ⟨W3.heap.size, 0, none⟩) n n) n (vbo H) ∧ Below w.heap.size w wr) (fun i _ => ln - (intOf i).toNat)
    case atStart =>
      exact ⟨0, fun _ => bs, List.replicate n false, by omega, rfl, hurt_start hbl hbb, fun j hj => by rw [World.cell?_alloc_past _ _ _ hsW]; exact hG0 j hj, fun j hj => (hG1 j hj).alloc _, ownsRow_mono OH B3.size, B3.alloc B3.size _⟩
    case round =>
      obtain ⟨k, C, H, hk, rfl, hu, hc, ho, hh, hbw⟩ := hrel
      by_cases hlt : k < ln
      · obtain ⟨lb, lo, rfl, hlb, hlc⟩ := (hl.below hbw).mem (by omega)
        obtain ⟨hlc1, hlc2⟩ := hlc k hlt
        obtain ⟨hw1, hw2, hw3, hw4⟩ := hl.wf k hlt
        generalize hat : (ts k).1 = tat at *
        generalize hby : (ts k).2 = tby at *
        clear hat hby hlc
        go_wp2_with fail
        refine (pick_any _ _ _ (by omega) (by omega) (by omega) (by omega)).mono ?_
        rintro e w' ⟨p, rfl, hp, Hp, rfl⟩
        have hpn : p < n := by simpa using hp
        clear hp Hp
        have hcp : wr.cell? ⟨W3.heap.size, p, none⟩ = some (.bool (H.getD p false)) := by
          rw [hh.cellAt p (by omega), vbo_get _ _ (by rw [hu.hlen]; exact hpn)]
        have hcf : wr.frozen? ⟨W3.heap.size, p, none⟩ = false := hh.frozenAt _
        cases hb : H.getD p false with
        | true =>
          rw [hb] at hcp
          go_wp2
          go_roundw
          case rel => exact ⟨k + 1, C, H, by omega, by go_num, ⟨hu.len, hu.all, hu.hlen, by have := hu.count; omega, hu.well, hu.ill⟩, hc, ho, hh, hbw⟩
          case measure => simp [intOf]; omega
        | false =>
          rw [hb] at hcp
          go_wp2_with fail
          have hj3 := pk_lt tby 3 (by omega)
          have hd255 := pk_lt tby 255 (by omega)
          have q1 := pick_st tby 3 wr.drew (by omega) (by omega) (by omega) (by omega)
          have q2 := pick_st tby 255 wr.drew (by omega) (by omega) (by omega) (by omega)
          rw [show (3 : Int).toNat = 3 from rfl] at q1
          rw [show (255 : Int).toNat = 255 from rfl] at q2
          generalize pk tby 3 = j at *
          generalize pk tby 255 = d at *
          have hcj := hc j hj3
          have hcx : wr.cell? ⟨G j, p, none⟩ = some (.int .u8 (nth (C j) p)) := by
            rw [(ho j hj3).cellAt p (by omega), vb_get _ _ (by rw [hu.len j hj3]; exact hpn)]
          have hfx : wr.drew.frozen? ⟨G j, p, none⟩ = false := (ho j hj3).frozenAt _
          have hx256 := nth_lt (hu.all j hj3) p
          generalize hx : nth (C j) p = x at *
          have Hx := hid hx
          clear hx
          have s1 : (j : Int) < 3 := by omega
          have s2 : (p : Int) < (n : Int) := by omega
          have s3 : IntKind.i64.wrap (1 + (d : Int)) = 1 + (d : Int) := IntWalk.i64_in _ (by omega)
          have s4 : IntKind.u8.wrap (1 + (d : Int)) = 1 + (d : Int) := by rw [IntKind.wrap_u8]; omega
          have s5 : bits .xor .u8 (x : Int) (1 + (d : Int)) = ((x ^^^ (1 + d) : Nat) : Int) := by
            have := u8_xor_nat x (1 + d) hx256 (by omega)
            simpa using this
          refine wp_region_still_tail 21 (by kernel_rfl) (by kernel_rfl) ?_
          simp only [List.take_succ_cons, List.take_zero, List.drop_succ_cons, List.drop_zero]
          have Hu := hid hu
          have Hc := hid hc
          have Ho := hid ho
          clear hu hc ho
          repeat still_step
          still_call q1
          repeat still_step
          still_call q2
          repeat still_step
          refine wpStill_nil ?_
          change wpList _ _ _ _ _ wr.drew
          have cd : ∀ i, i < 3 → wr.drew.cell? ⟨w.heap.size, i, none⟩ = some (.slice (some ⟨G i, 0, none⟩) n (cc i)) := Hc.out
          have od : ∀ i, i < 3 → wr.drew.ownsRow w.heap.size 5 1 (.slice (some ⟨G i, 0, none⟩) n (cc i)) n (vb (C i)) := fun i hi => (Ho.out i hi).drew
          have hd : wr.drew.ownsRow w.heap.size 4 1 (.slice (some ⟨W3.heap.size, 0, none⟩) n n) n (vbo H) := hh.drew
          have bd : Below w.heap.size w wr.drew := hbw.drew
          have xd : wr.drew.cell? ⟨G j, p, none⟩ = some (.int .u8 (x : Int)) := hcx
          have pd : wr.drew.cell? ⟨W3.heap.size, p, none⟩ = some (.bool false) := hcp
          have pf : wr.drew.frozen? ⟨W3.heap.size, p, none⟩ = false := hcf
          obtain ⟨hgj1, hgj2⟩ := hG3 j hj3
          clear s1 s2 s3 s4 hcj hcx hcp hcf hh hbw Hc Ho q1 q2
          generalize wr.drew = wd at *
          obtain ⟨st1, st2⟩ := (od j hj3).stored p (.int .u8 ((x ^^^ (1 + d) : Nat) : Int))
          rw [vb_set] at st1
          have p1 : (wd.setCell ⟨G j, p, none⟩ (.int .u8 ((x ^^^ (1 + d) : Nat) : Int))).cell? ⟨W3.heap.size, p, none⟩ = some (.bool false) := by
            rw [World.cell?_setCell_other _ _ _ _ (by simp <;> omega)]; exact pd
          have p2 : (wd.setCell ⟨G j, p, none⟩ (.int .u8 ((x ^^^ (1 + d) : Nat) : Int))).frozen? ⟨W3.heap.size, p, none⟩ = false := by
            rw [World.frozen?_setCell]; exact pf
          have hd1 := hd.kept st2 (.inr (by simp [Value.ownBlock]; omega))
          obtain ⟨st3, st4⟩ := hd1.stored p (.bool true)
          rw [vbo_set] at st3
          have hfin := hurt_hit Hu.out p j (1 + d) hpn hj3 (by omega) (by omega) hb
          have Hcd := hid cd
          have Hod := hid od
          clear cd od
          go_wp2
          go_roundw
          case rel =>
            refine ⟨k + 1, _, H.set p true, by omega, by go_num, hfin, fun i hi => ?_, fun i hi => ?_, st3, (bd.setCell (p := ⟨G j, p, none⟩) (by show w.heap.size ≤ G j; omega) _).setCell (p := ⟨W3.heap.size, p, none⟩) (by show w.heap.size ≤ W3.heap.size; omega) _⟩
            · rw [World.cell?_setCell_other _ _ _ _ (by simp <;> omega), World.cell?_setCell_other _ _ _ _ (by simp <;> omega)]
              exact Hcd.out i hi
            · by_cases hij : i = j
              · subst hij
                simp only [if_pos]
                rw [Hx.out]
                exact st1.kept st4 (.inr (by simp [Value.ownBlock]; omega))
              · simp only [if_neg hij]
                exact ((Hod.out i hi).kept st2 (.inr (by simp [Value.ownBlock]; exact hG2 i j hi hj3 hij))).kept st4 (.inr (by simp [Value.ownBlock]; have := (hG3 i hi).2; omega))
          case measure => simp [intOf]; omega
      · obtain rfl : k = ln := by omega
        have h0c := hc 0 (by omega)
        have h1c := hc 1 (by omega)
        have h2c := hc 2 (by omega)
        have hvote := hurt_vote hu hbl
        have hat := hurt_at hu n (Nat.le_refl _)
        have hcnt := hitsTo_count hu.hlen
        have hcnt2 := hu.count
        have r0 : Rd wr (some ⟨G 0, 0, none⟩) n (cc 0) (vb (C 0)) := Rd.ofOwn (ho 0 (by omega))
        have r1 : Rd wr (some ⟨G 1, 0, none⟩) n (cc 1) (vb (C 1)) := Rd.ofOwn (ho 1 (by omega))
        have r2 : Rd wr (some ⟨G 2, 0, none⟩) n (cc 2) (vb (C 2)) := Rd.ofOwn (ho 2 (by omega))
        have q0 := hu.all 0 (by omega)
        have q1 := hu.all 1 (by omega)
        have q2 := hu.all 2 (by omega)
        have hHl := hu.hlen
        have Hvote := hid hvote
        have Hat := hid hat
        have HHl := hid hHl
        clear hc ho hvote hat hHl hu
        go_wp2_with fail
        refine (vote_any _ _ _ n _ _ _ (C 0) (C 1) (C 2) _ r0 q0 r1 q1 r2 q2 (by omega) (by rw [Hat.out]; omega)).mono ?_
        rintro e w5 ⟨oo, oc, ta, tn, tc, rfl, htn, ow, ot, b5⟩
        rw [Hvote.out] at ow
        rw [Hat.out] at ot htn
        have hb5 := hbw.trans (b5.mono hbw.size)
        have c1 := run_str (P := Try.prog) 22 5 9 Try.underlying22 Try.underlying5 Try.underlying9 (Rd.ofOwn ow)
        have c2 := run_str (P := Try.prog) 22 5 9 Try.underlying22 Try.underlying5 Try.underlying9 (hb.below hb5)
        have hh5 := ownsRow_below hh b5
        have htnb : tn ≤ 8796093022208 := by omega
        have Htn := hid htn
        clear htn ow h0c h1c h2c r0 r1 r2 q0 q1 q2 hh
        go_wp2_with fail
        go_loop [13, 14] (fun a i => ∃ k2 : Nat, k2 ≤ n ∧ i = .int .i64 k2 ∧ a = .int .i64 ((hitsTo H k2).length : Nat)) (fun _ i => n - (intOf i).toNat)
        case atStart => exact ⟨0, by omega, rfl, rfl⟩
        case round =>
          obtain ⟨k2, hk2, rfl, rfl⟩ := hrel
          by_cases hlt2 : k2 < n
          · have hcp : w5.cell? ⟨W3.heap.size, k2, none⟩ = some (.bool (H.getD k2 false)) := by
              rw [hh5.cellAt k2 (by omega), vbo_get _ _ (by rw [HHl.out]; exact hlt2)]
            cases hb2 : H.getD k2 false with
            | true =>
              rw [hb2] at hcp
              obtain ⟨z1, z2, z3⟩ := hitsTo_at hlt2 hb2
              have htn2 : (hitsTo H k2).length < tn := by rw [Htn.out]; exact z1
              obtain ⟨tb, tf, rfl, _, hcA⟩ := (Rd.ofOwn ot).mem (by omega)
              have hct := hcA (hitsTo H k2).length htn2
              clear hcA
              rw [vi_get _ _ z1, z2] at hct
              have Hz3 := hid z3
              clear z1 z2 z3
              generalize hm : (hitsTo H k2).length = m at *
              have t1 : ((k2 : Int) != k2) = false := by simp
              have t2 : decide ((tn : Int) ≤ (m : Int)) = false := by simp; omega
              go_wp2
              go_round
              case rel => exact ⟨k2 + 1, by omega, by go_num, by rw [Hz3.out]; go_num⟩
              case measure => simp [intOf]; omega
            | false =>
              rw [hb2] at hcp
              have z := hid (hitsTo_skip hb2)
              generalize hm : (hitsTo H k2).length = m at *
              have Hm := hid hm
              clear hm
              go_wp2
              go_round
              case rel => exact ⟨k2 + 1, by omega, by go_num, by rw [z.out, Hm.out]⟩
              case measure => simp [intOf]; omega
          · obtain rfl : k2 = n := by omega
            have t3 : (((hitsTo H k2).length : Int) == (tn : Int)) = true := by have := Htn.out; simp; omega
            go_wp2
            go_ret
            exact ⟨rfl, hw0.trans (hb5.mono hw0.size)⟩

end Go.Proofs.Ytgacnbildligjaa
