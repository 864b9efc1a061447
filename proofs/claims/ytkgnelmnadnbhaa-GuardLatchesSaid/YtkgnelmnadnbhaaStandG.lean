/- stands: a vigil that is in order. -/
import Derived.Test.YtkgnelmnadnbhaaBeginG
namespace Go.Proofs.Ytkgnelmnadnbhaa
set_option linter.unusedVariables false
open Go.RowKit

/-- a vigil that is in order -/
structure StdP (ms : List Mon) (sil win : Nat) (safe : Bool) (why : Int) (bad : List Nat) (trp : List Bool) (quiet : Nat) (trips : List Nat) : Prop where
  bl : bad.length = ms.length
  tl : trp.length = ms.length
  pl : trips.length ≤ 100
  q : quiet ≤ sil
  w1 : -3 ≤ why
  w2 : why + 1 ≤ (ms.length : Int)
  sf : safe = decide (why ≠ -1)
  b : ∀ i, i < ms.length → nth bad i ≤ (mAt ms i).fr
  t : ∀ i, i < ms.length → trp.getD i false = true → (mAt ms i).fr ≤ nth bad i
  p0 : ∀ i, i < trips.length → nth trips i + 1 ≤ win
  p : ∀ i, i + 1 < trips.length → nth trips (i + 1) ≤ nth trips i
/-- the value of a vigil -/
abbrev vgv (safe : Bool) (why : Int) (ba : Option Addr) (n bc : Nat) (ta : Option Addr) (tc : Nat) (quiet : Nat) (pa : Option Addr) (pn pc : Nat) : Value := .agg #[.bool safe, .int .i64 why, .slice ba n bc, .slice ta n tc, .int .i64 (quiet : Int), .slice pa pn pc]
theorem Rd.ati {w : World} {ao : Option Addr} {n cap : Nat} {bs : List Nat} (h : Rd w ao n cap (vi bs)) (k : Nat) (hk : k < n) :
    ∃ b off, ao = some ⟨b, off, none⟩ ∧ b < w.heap.size ∧ w.cell? ⟨b, off + k, none⟩ = some (.int .i64 (nth bs k : Nat)) := by
  obtain ⟨b, off, ha, hlt, hc⟩ := h.mem (by omega)
  have hl := h.len
  rw [vi_len] at hl
  exact ⟨b, off, ha, hlt, by rw [hc k hk, vi_get bs k (by omega)]⟩
theorem Rd.att {w : World} {ao : Option Addr} {n cap : Nat} {bs : List Bool} (h : Rd w ao n cap (vt bs)) (k : Nat) (hk : k < n) :
    ∃ b off, ao = some ⟨b, off, none⟩ ∧ b < w.heap.size ∧ w.cell? ⟨b, off + k, none⟩ = some (.bool (bs.getD k false)) := by
  obtain ⟨b, off, ha, hlt, hc⟩ := h.mem (by omega)
  have hl := h.len
  rw [vt_len] at hl
  exact ⟨b, off, ha, hlt, by rw [hc k hk, vt_get bs k (by omega)]⟩
/-- what the last one was -/
def lastT (win : Nat) (trips : List Nat) : Nat → Nat
  | 0 => win - 1
  | j + 1 => nth trips j

set_option maxRecDepth 100000 in
set_option maxHeartbeats 8000000 in
theorem stands_ok (g n cap sil most win : Nat) (nam : ByteArray) (ms : List Mon) (safe : Bool) (why : Int) (ba : Option Addr) (bc : Nat) (ta : Option Addr) (tc : Nat) (quiet : Nat) (pa : Option Addr) (pn pc : Nat) (bad : List Nat) (trp : List Bool) (trips : List Nat) (w : World)
    (hr : RdM w g n cap ms) (hG : GoodG n sil most win nam) (hb : Rd w ba n bc (vi bad)) (ht : Rd w ta n tc (vt trp)) (hp : Rd w pa pn pc (vi trips)) (hS : StdP ms sil win safe why bad trp quiet trips) :
    Calls Try.prog 10 #[gv g n cap sil most win nam, vgv safe why ba n bc ta tc quiet pa pn pc] w fun e w' => e = .returned (.bool true) ∧ Below w.heap.size w w' := by
  have hpl : trips.length = pn := by have := hp.len; rwa [vi_len] at this
  obtain ⟨s1, s2, s3, s4, s5, s6, s7, s8, s9, s10, s11⟩ := hS
  rw [hpl] at s3 s10 s11
  rw [hr.len] at s6 s8 s9
  obtain ⟨n1, n2, n3, n4, n5, n6, n7, n8⟩ := hG
  have S8 := hid s8
  have S9 := hid s9
  have S10 := hid s10
  have S11 := hid s11
  have S7 := hid s7
  clear s1 s2 s7 s8 s9 s10 s11 n8
  have d0 : decide ((100 : Int) < (pn : Int)) = false := decide_eq_false (by omega)
  have r1 := heap_alloc_new w (.cells #[.slice (some ⟨g, 0, none⟩) n cap, .int .i64 (sil : Int), .int .i64 (most : Int), .int .i64 (win : Int), .string nam] 27)
  have b1 := below_alloc w (.cells #[.slice (some ⟨g, 0, none⟩) n cap, .int .i64 (sil : Int), .int .i64 (most : Int), .int .i64 (win : Int), .string nam] 27)
  have r2 := heap_alloc_new (w.alloc (.cells #[.slice (some ⟨g, 0, none⟩) n cap, .int .i64 (sil : Int), .int .i64 (most : Int), .int .i64 (win : Int), .string nam] 27)) (.cells #[.bool safe, .int .i64 why, .slice ba n bc, .slice ta n tc, .int .i64 (quiet : Int), .slice pa pn pc] 33)
  have b2 := below_alloc (w.alloc (.cells #[.slice (some ⟨g, 0, none⟩) n cap, .int .i64 (sil : Int), .int .i64 (most : Int), .int .i64 (win : Int), .string nam] 27)) (.cells #[.bool safe, .int .i64 why, .slice ba n bc, .slice ta n tc, .int .i64 (quiet : Int), .slice pa pn pc] 33)
  have r1 := hid (row_below r1 b2)
  simp only [World.size_alloc] at r2
  have r2 := hid r2
  have HB := hid (b1.trans (b2.mono b1.size))
  clear b1 b2
  obtain ⟨H, hH⟩ : ∃ H, H = w.heap.size := ⟨_, rfl⟩
  have HH := hid hH
  have hHl : w.heap.size ≤ H := by omega
  rw [← hH] at r1 r2
  clear hH
  go_enter Try.func10, Try.ntmps10
  go_upto_region 1 with (fail)
  rw [← HH.out]
  generalize (w.alloc (.cells #[.slice (some ⟨g, 0, none⟩) n cap, .int .i64 (sil : Int), .int .i64 (most : Int), .int .i64 (win : Int), .string nam] 27)).alloc (.cells #[.bool safe, .int .i64 why, .slice ba n bc, .slice ta n tc, .int .i64 (quiet : Int), .slice pa pn pc] 33) = U at *
  have hHU : H + 1 < U.heap.size := row_lt r2.out
  have c0 : U.cell? ⟨H, 0, none⟩ = some (.slice (some ⟨g, 0, none⟩) n cap) := by rw [cell_of_row _ _ _ _ _ _ r1.out]; rfl
  have c1 : U.cell? ⟨H, 1, none⟩ = some (.int .i64 (sil : Int)) := by rw [cell_of_row _ _ _ _ _ _ r1.out]; rfl
  have d1 : U.cell? ⟨H + 1, 0, none⟩ = some (.bool safe) := by rw [cell_of_row _ _ _ _ _ _ r2.out]; rfl
  have d2 : U.cell? ⟨H + 1, 1, none⟩ = some (.int .i64 why) := by rw [cell_of_row _ _ _ _ _ _ r2.out]; rfl
  have d3 : U.cell? ⟨H + 1, 2, none⟩ = some (.slice ba n bc) := by rw [cell_of_row _ _ _ _ _ _ r2.out]; rfl
  have d4 : U.cell? ⟨H + 1, 3, none⟩ = some (.slice ta n tc) := by rw [cell_of_row _ _ _ _ _ _ r2.out]; rfl
  have d5 : U.cell? ⟨H + 1, 4, none⟩ = some (.int .i64 (quiet : Int)) := by rw [cell_of_row _ _ _ _ _ _ r2.out]; rfl
  have d6 : U.cell? ⟨H + 1, 5, none⟩ = some (.slice pa pn pc) := by rw [cell_of_row _ _ _ _ _ _ r2.out]; rfl
  have hfork : (why = -1 ∧ safe = false) ∨ (why ≠ -1 ∧ safe = true) := by
    by_cases e : why = -1
    · exact .inl ⟨e, by rw [S7.out, e]; decide⟩
    · exact .inr ⟨e, by rw [S7.out]; simp [e]⟩
  go_upto_region 4 with (first
        | (go_at_call 20; refine (in_yes _ _ _ _ (by omega) (by omega)).mono ?_; rintro e w' ⟨rfl, rfl⟩))
  obtain ⟨U2, rfl⟩ : ∃ U2 : World, U2 = w' := ⟨_, rfl⟩
  go_cut [53] (fun v wx => v = .bool false ∧ wx = U2)
  case first =>
    rcases hfork with ⟨rfl, rfl⟩ | ⟨h2, rfl⟩
    · go_wp2_with (first
        | (go_at_call 20; refine (in_yes _ _ _ _ (by omega) (by omega)).mono ?_; rintro e w' ⟨rfl, rfl⟩))
      go_meet
      exact ⟨rfl, rfl⟩
    · have h1 : (why != -1) = true := by simpa using h2
      have h2 := hid h2
      go_wp2_with (first
        | (go_at_call 20; refine (in_yes _ _ _ _ (by omega) (by omega)).mono ?_; rintro e w' ⟨rfl, rfl⟩))
      go_meet
      exact ⟨rfl, rfl⟩
  case rest =>
  obtain ⟨rfl, rfl⟩ := hcut
  go_wp2_with fail
  obtain ⟨U3, rfl⟩ : ∃ U3 : World, U3 = wc := ⟨_, rfl⟩
  clear c0 c1 d1 d2 d3 d4 d5 d6
  go_loopw [57] (fun i wr => ∃ j : Nat, j ≤ n ∧ i = .int .i64 j ∧ Below U3.heap.size U3 wr) (fun i _ => n - (intOf i).toNat)
  case atStart => exact ⟨0, by omega, rfl, Below.refl _ _⟩
  case round =>
    obtain ⟨j, hj, rfl, hB⟩ := hrel
    have HBr := hid (HB.out.trans (hB.mono HB.out.size))
    by_cases hlt : j < n
    · obtain ⟨c0, c1, c2, c3, c4, c5⟩ := (hr.ext HBr.out).at_ j hlt
      have q2 := hid (row_below r2.out hB)
      have rb := hid (hb.below HBr.out)
      have rt := hid (ht.below HBr.out)
      obtain ⟨bb, bo, rfl, hbl, hbc⟩ := rb.out.ati j hlt
      obtain ⟨tb, to_, rfl, htl, htc⟩ := rt.out.att j hlt
      have hbf := S8.out j hlt
      have htf := S9.out j hlt
      generalize mAt ms j = m at *
      obtain ⟨mo, mf, mt, mn⟩ := m
      dsimp only at *
      have b5 := below_alloc wr (.cells #[.int .i64 (mo : Int), .int .i64 0, .int .i64 9, .int .i64 (mf : Int), .int .i64 (mt : Int), .string mn] 29)
      have A5 := heap_alloc_new wr (.cells #[.int .i64 (mo : Int), .int .i64 0, .int .i64 9, .int .i64 (mf : Int), .int .i64 (mt : Int), .string mn] 29)
      have q2 := hid (row_below q2.out b5)
      have hbc := hid ((b5.cell (p := ⟨bb, bo + j, none⟩) hbl).trans hbc)
      have htc := hid ((b5.cell (p := ⟨tb, to_ + j, none⟩) htl).trans htc)
      have HBx := hid (hB.trans (b5.mono hB.size))
      have hbl : bb < (wr.alloc (.cells #[.int .i64 (mo : Int), .int .i64 0, .int .i64 9, .int .i64 (mf : Int), .int .i64 (mt : Int), .string mn] 29)).heap.size := Nat.lt_of_lt_of_le hbl b5.size
      have htl : tb < (wr.alloc (.cells #[.int .i64 (mo : Int), .int .i64 0, .int .i64 9, .int .i64 (mf : Int), .int .i64 (mt : Int), .string mn] 29)).heap.size := Nat.lt_of_lt_of_le htl b5.size
      obtain ⟨mb, hmb⟩ : ∃ mb, mb = wr.heap.size := ⟨_, rfl⟩
      have Hmb := hid hmb
      rw [← hmb] at A5
      have A5 := hid A5
      clear hB b5 hmb
      go_upto_region 9 with (fail)
      rw [← Hmb.out]
      generalize wr.alloc (.cells #[.int .i64 (mo : Int), .int .i64 0, .int .i64 9, .int .i64 (mf : Int), .int .i64 (mt : Int), .string mn] 29) = X at *
      clear c0 c1 c2 c3 c4 c5 Hmb
      have hX : ∀ w', Below X.heap.size X.drew w' → Below X.heap.size X w' := fun w' h => ((Below.refl X.heap.size X).drew).trans h
      have e1 : ∀ w', Below X.heap.size X.drew w' → w'.cell? ⟨H + 1, 2, none⟩ = some (.slice (some ⟨bb, bo, none⟩) n bc) := fun w' h => by rw [cell_of_row _ _ _ _ _ _ (row_below q2.out (hX w' h))]; rfl
      have e2 : ∀ w', Below X.heap.size X.drew w' → w'.cell? ⟨H + 1, 3, none⟩ = some (.slice (some ⟨tb, to_, none⟩) n tc) := fun w' h => by rw [cell_of_row _ _ _ _ _ _ (row_below q2.out (hX w' h))]; rfl
      have e3 : ∀ w', Below X.heap.size X.drew w' → w'.cell? ⟨mb, 3, none⟩ = some (.int .i64 (mf : Int)) := fun w' h => by rw [cell_of_row _ _ _ _ _ _ (row_below A5.out (hX w' h))]; rfl
      have e4 : ∀ w', Below X.heap.size X.drew w' → w'.cell? ⟨bb, bo + j, none⟩ = some (.int .i64 (nth bad j : Nat)) := fun w' h => ((hX w' h).cell (p := ⟨bb, bo + j, none⟩) hbl).trans hbc.out
      have e5 : ∀ w', Below X.heap.size X.drew w' → w'.cell? ⟨tb, to_ + j, none⟩ = some (.bool (trp.getD j false)) := fun w' h => ((hX w' h).cell (p := ⟨tb, to_ + j, none⟩) htl).trans htc.out
      generalize nth bad j = bv at *
      have hXr := hid (show Below X.heap.size X X.drew from (Below.refl _ X).drew)
      clear rb rt hX
      have HBy := hid (HBx.out.trans (hXr.out.mono HBx.out.size))
      have hsz : X.drew.heap.size = X.heap.size := rfl
      clear hbl htl q2 A5 hXr
      refine wp_region_can_all [7] [0, 1, 2, 3, 4, 5, 6, 7, 8, 9, 10, 11, 12, 13, 14, 15, 16, 17, 18, 19, 20, 21, 22, 23, 24, 25] (Below X.heap.size) (fun _ => Below.refl _ _) (fun _ _ _ h k => h.trans k) (by kernel_rfl) (by kernel_rfl) ?_
      simp only [List.map_cons, List.map_nil, List.contains_cons, List.contains_nil, List.getD_cons_zero, List.getD_cons_succ, Nat.reduceBEq, Bool.or_false]
      generalize X.drew = Y at *
      have hjn : (j : Int) < (n : Int) := by omega
      cases htv : trp.getD j false
      · rw [htv] at e5
        clear htv htf
        repeat (refine wpL_do rfl (fun w' hw' => (by go_simp; rfl)) ?_; simp only [Act.put, List.setIfInBounds_toArray, List.set_cons_succ, List.set_cons_zero])
        refine wpL_call rfl (fun K hK => ?_)
        go_wp2_with fail
        refine (in_yes _ _ _ _ (by omega) (by omega)).mono ?_
        rintro e w' ⟨rfl, rfl⟩
        refine hK _ _ (Below.refl _ _) ?_
        clear hK K
        try simp only [Act.put, List.setIfInBounds_toArray, List.set_cons_succ, List.set_cons_zero]
        iterate 8 (refine wpL_do rfl (fun w' hw' => (by go_simp; rfl)) ?_; simp only [Act.put, List.setIfInBounds_toArray, List.set_cons_succ, List.set_cons_zero])
        iterate 8 ((with_reducible refine wpL_pass ?_ ?_); (· rfl); simp only [Act.put, List.setIfInBounds_toArray, List.set_cons_succ, List.set_cons_zero])
        iterate 2 (refine wpL_do rfl (fun w' hw' => (by go_simp; rfl)) ?_; simp only [Act.put, List.setIfInBounds_toArray, List.set_cons_succ, List.set_cons_zero])
        refine wpL_nil ?_
        clear e1 e2 e3 e4 e5
        go_wp2_with fail
        go_roundw
        case rel => exact ⟨j + 1, by omega, by go_num, HBy.out⟩
        case measure => simp [intOf]; omega
      · rw [htv] at e5
        have hle := htf htv
        have dl : decide (bv < mf) = false := decide_eq_false (by omega)
        clear htv htf hle
        repeat (refine wpL_do rfl (fun w' hw' => (by go_simp; rfl)) ?_; simp only [Act.put, List.setIfInBounds_toArray, List.set_cons_succ, List.set_cons_zero])
        refine wpL_call rfl (fun K hK => ?_)
        go_wp2_with fail
        refine (in_yes _ _ _ _ (by omega) (by omega)).mono ?_
        rintro e w' ⟨rfl, rfl⟩
        refine hK _ _ (Below.refl _ _) ?_
        clear hK K
        try simp only [Act.put, List.setIfInBounds_toArray, List.set_cons_succ, List.set_cons_zero]
        iterate 18 (refine wpL_do rfl (fun w' hw' => (by go_simp; rfl)) ?_; simp only [Act.put, List.setIfInBounds_toArray, List.set_cons_succ, List.set_cons_zero])
        refine wpL_nil ?_
        clear e1 e2 e3 e4 e5
        go_wp2_with fail
        go_roundw
        case rel => exact ⟨j + 1, by omega, by go_num, HBy.out⟩
        case measure => simp [intOf]; omega
    · obtain rfl : n = j := by omega
      have q1 := row_below r1.out hB
      have q2 := row_below r2.out hB
      have c1 : wr.cell? ⟨H, 3, none⟩ = some (.int .i64 (win : Int)) := by rw [cell_of_row _ _ _ _ _ _ q1]; rfl
      have c2 : wr.cell? ⟨H + 1, 5, none⟩ = some (.slice pa pn pc) := by rw [cell_of_row _ _ _ _ _ _ q2]; rfl
      have rp := hid (hp.below HBr.out)
      have ewin : (win : Int) - 1 = ((win - 1 : Nat) : Int) := by omega
      have hl0 : lastT win trips 0 = win - 1 := rfl
      rw [← hl0] at ewin
      clear hl0 q1 q2 hB
      go_wp2_with fail
      obtain ⟨U4, rfl⟩ : ∃ U4 : World, U4 = wr := ⟨_, rfl⟩
      go_loopw [8, 95] (fun lv i wr => ∃ j : Nat, j ≤ pn ∧ i = .int .i64 j ∧ lv = .int .i64 (lastT win trips j : Nat) ∧ wr = U4) (fun _ i _ => pn - (intOf i).toNat)
      case atStart => exact ⟨0, by omega, rfl, rfl, rfl⟩
      case round =>
        obtain ⟨j, hj, rfl, rfl, rfl⟩ := hrel
        by_cases hlt2 : j < pn
        · obtain ⟨pb, po, rfl, hpl2, hpc⟩ := rp.out.ati j hlt2
          have h1 : nth trips j ≤ lastT win trips j := by
            cases j with
            | zero => have := S10.out 0 hlt2; show _ ≤ win - 1; omega
            | succ j => exact S11.out j hlt2
          generalize htt : nth trips j = t at *
          have Ht := hid htt
          clear htt
          generalize lastT win trips j = l0 at *
          go_wp2_with (first
            | (go_at_call 20; refine (in_yes _ _ _ _ (by omega) (by omega)).mono ?_; rintro e w' ⟨rfl, rfl⟩))
          go_roundw
          case rel => exact ⟨j + 1, by omega, by go_num, by rw [show lastT win trips (j + 1) = nth trips j from rfl, Ht.out], trivial⟩
          case measure => simp [intOf]; omega
        · obtain rfl : pn = j := by omega
          go_wp2_with fail
          go_ret
          exact ⟨rfl, HBr.out⟩
end Go.Proofs.Ytkgnelmnadnbhaa
