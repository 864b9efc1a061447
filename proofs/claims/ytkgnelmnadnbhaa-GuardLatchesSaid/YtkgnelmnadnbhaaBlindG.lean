/- Which monitors look too far; is one tripped? -/
import Derived.Test.YtkgnelmnadnbhaaStandG
namespace Go.Proofs.Ytkgnelmnadnbhaa
set_option linter.unusedVariables false
open Go.RowKit

theorem blind_no (m : Mon) (vb : Nat) (va : Option Addr) (vc : Nat) (w : World) (hm : m.Good) (hc : w.cell? ⟨vb, 0, none⟩ = some (.slice va 3 vc)) :
    Calls Try.prog 9 #[.agg #[.int .i64 (m.of_ : Int), .int .i64 0, .int .i64 9, .int .i64 (m.fr : Int), .int .i64 (m.tier : Int), .string m.name], .pointer (some ⟨vb, 0, none⟩)] w fun e w' => e = .returned (.bool false) ∧ Below w.heap.size w w' := by
  have h3 := hm.o
  have d1 : decide ((3 : Int) ≤ (m.of_ : Int)) = false := decide_eq_false (by omega)
  have hlt := block_lt_of_cell hc
  obtain ⟨o, f, t, s⟩ := m
  dsimp only at *
  have b0 := hid (below_alloc w (.cells #[.int .i64 (o : Int), .int .i64 0, .int .i64 9, .int .i64 (f : Int), .int .i64 (t : Int), .string s] 29))
  go_enter Try.func9, Try.ntmps9
  go_wp2_with fail
  go_ret
  exact ⟨rfl, b0.out⟩
set_option maxRecDepth 100000 in
theorem idxm_no (g n cap vb : Nat) (va : Option Addr) (vc : Nat) (ms : List Mon) (w : World) (hr : RdM w g n cap ms) (hg : GoodMons ms) (hn : n ≤ 9) (hc : w.cell? ⟨vb, 0, none⟩ = some (.slice va 3 vc)) :
    Calls Try.prog 22 #[.slice (some ⟨g, 0, none⟩) n cap, .func (.func 9) #[] #[.pointer (some ⟨vb, 0, none⟩)]] w fun e w' => e = .returned (.int .i64 (-1)) ∧ Below w.heap.size w w' := by
  have Hlen := hid hr.len
  have hlt := block_lt_of_cell hc
  go_enter Try.func22, Try.ntmps22
  go_wp2_with fail
  go_loopw [8] (fun i wr => ∃ j : Nat, j ≤ n ∧ i = .int .i64 j ∧ Below w.heap.size w wr) (fun i _ => n - (intOf i).toNat)
  case atStart => exact ⟨0, by omega, rfl, Below.refl _ _⟩
  case round =>
    obtain ⟨j, hj, rfl, hB⟩ := hrel
    by_cases hlt2 : j < n
    · obtain ⟨c0, c1, c2, c3, c4, c5⟩ := (hr.ext hB).at_ j hlt2
      have hm := hg j (by rw [Hlen.out]; exact hlt2)
      have hb := blind_no (mAt ms j) vb va vc wr hm ((hB.cell (p := ⟨vb, 0, none⟩) hlt).trans hc)
      generalize mAt ms j = m at *
      obtain ⟨mo, mf, mt, mn⟩ := m
      dsimp only at *
      have HB := hid hB
      clear hm hB hc
      go_wp2_with fail
      refine hb.mono ?_
      rintro e W7 ⟨rfl, b7⟩
      have HB7 := hid (HB.out.trans (b7.mono HB.out.size))
      clear hb b7
      go_wp2_with fail
      go_roundw
      case rel => exact ⟨j + 1, by omega, by go_num, HB7.out⟩
      case measure => simp [intOf]; omega
    · obtain rfl : n = j := by omega
      have HB := hid hB
      go_wp2_with fail
      go_ret
      exact ⟨rfl, HB.out⟩
theorem hasm_no (g n cap vb : Nat) (va : Option Addr) (vc : Nat) (ms : List Mon) (w : World) (hr : RdM w g n cap ms) (hg : GoodMons ms) (hn : n ≤ 9) (hc : w.cell? ⟨vb, 0, none⟩ = some (.slice va 3 vc)) :
    Calls Try.prog 11 #[.slice (some ⟨g, 0, none⟩) n cap, .func (.func 9) #[] #[.pointer (some ⟨vb, 0, none⟩)]] w fun e w' => e = .returned (.bool false) ∧ Below w.heap.size w w' := by
  go_enter Try.func11, Try.ntmps11
  go_wp2_with fail
  refine (idxm_no g n cap vb va vc ms w hr hg hn hc).mono ?_
  rintro e w' ⟨rfl, hb⟩
  have HB := hid hb
  clear hb
  go_wp2_with fail
  go_ret
  exact ⟨rfl, HB.out⟩
theorem idxt_no (a : Option Addr) (n cap : Nat) (l : List Bool) (w : World) (hr : Rd w a n cap (vt l)) (hn : n ≤ 100) (h : ∀ i, i < n → l.getD i false = false) :
    Calls Try.prog 26 #[.slice a n cap, .bool true] w fun e w' => e = .returned (.int .i64 (-1)) ∧ w' = w := by
  go_enter Try.func26, Try.ntmps26
  go_wp2_with fail
  go_loopw [8] (fun i wr => ∃ j : Nat, j ≤ n ∧ i = .int .i64 j ∧ wr = w) (fun i _ => n - (intOf i).toNat)
  case atStart => exact ⟨0, by omega, rfl, rfl⟩
  case round =>
    obtain ⟨j, hj, rfl, rfl⟩ := hrel
    by_cases hlt2 : j < n
    · obtain ⟨b, o, rfl, hbl, hbc⟩ := hr.att j hlt2
      rw [h j hlt2] at hbc
      clear hr h
      go_wp2_with fail
      go_roundw
      case rel => exact ⟨j + 1, by omega, by go_num, trivial⟩
      case measure => simp [intOf]; omega
    · obtain rfl : n = j := by omega
      go_wp2_with fail
      go_ret
      exact ⟨rfl, rfl⟩
theorem idxt_yes (a : Option Addr) (n cap k : Nat) (l : List Bool) (w : World) (hr : Rd w a n cap (vt l)) (hn : n ≤ 100) (hk : k < n) (h : l.getD k false = true) :
    Calls Try.prog 26 #[.slice a n cap, .bool true] w fun e w' => ∃ i : Nat, e = .returned (.int .i64 (i : Int)) ∧ w' = w := by
  have H := hid h
  clear h
  go_enter Try.func26, Try.ntmps26
  go_wp2_with fail
  go_loopw [8] (fun i wr => ∃ j : Nat, j ≤ k ∧ i = .int .i64 j ∧ wr = w) (fun i _ => n - (intOf i).toNat)
  case atStart => exact ⟨0, by omega, rfl, rfl⟩
  case round =>
    obtain ⟨j, hj, rfl, rfl⟩ := hrel
    obtain ⟨b, o, rfl, hbl, hbc⟩ := hr.att j (by omega)
    have hjn : j < n := by omega
    cases hv : l.getD j false
    · rw [hv] at hbc
      have hjk : j < k := by
        rcases Nat.lt_or_ge j k with h | h
        · exact h
        · have : j = k := by omega
          rw [this, H.out] at hv
          cases hv
      clear hr hv
      go_wp2_with fail
      go_roundw
      case rel => exact ⟨j + 1, by omega, by go_num, trivial⟩
      case measure => simp [intOf]; omega
    · rw [hv] at hbc
      clear hr hv
      go_wp2_with fail
      go_ret
      exact ⟨j, rfl, rfl⟩
theorem hast_no (a : Option Addr) (n cap : Nat) (l : List Bool) (w : World) (hr : Rd w a n cap (vt l)) (hn : n ≤ 100) (h : ∀ i, i < n → l.getD i false = false) :
    Calls Try.prog 18 #[.slice a n cap, .bool true] w fun e w' => e = .returned (.bool false) ∧ w' = w := by
  have hi := idxt_no a n cap l w hr hn h
  clear h
  go_enter Try.func18, Try.ntmps18
  go_wp2_with fail
  refine hi.mono ?_
  rintro e w' ⟨rfl, rfl⟩
  go_wp2_with fail
  go_ret
  exact ⟨rfl, rfl⟩
theorem hast_yes (a : Option Addr) (n cap k : Nat) (l : List Bool) (w : World) (hr : Rd w a n cap (vt l)) (hn : n ≤ 100) (hk : k < n) (h : l.getD k false = true) :
    Calls Try.prog 18 #[.slice a n cap, .bool true] w fun e w' => e = .returned (.bool true) ∧ w' = w := by
  have hi := idxt_yes a n cap k l w hr hn hk h
  clear h
  go_enter Try.func18, Try.ntmps18
  go_wp2_with fail
  refine hi.mono ?_
  rintro e w' ⟨i, rfl, rfl⟩
  have d1 : decide ((0 : Int) ≤ (i : Int)) = true := decide_eq_true (by omega)
  go_wp2_with fail
  go_ret
  exact ⟨rfl, rfl⟩
end Go.Proofs.Ytkgnelmnadnbhaa
