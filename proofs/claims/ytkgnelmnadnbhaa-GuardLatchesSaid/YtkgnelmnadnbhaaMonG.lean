/- Monitors, and that a guard of such is in order. -/
import Derived.Test.YtkgnelmnadnbhaaInG
import Derived.Deep.DeepCutAuto
namespace Go.Proofs.Ytkgnelmnadnbhaa
set_option linter.unusedVariables false
open Go.RowKit

/-- a monitor between 0 and 9 -/
structure Mon where
  of_ : Nat
  fr : Nat
  tier : Nat
  name : ByteArray
structure Mon.Good (m : Mon) : Prop where
  o : m.of_ < 3
  f1 : 1 ≤ m.fr
  f2 : m.fr ≤ 6
  t1 : 1 ≤ m.tier
  t2 : m.tier ≤ 3
  n : GoodName m.name
def mc (m : Mon) : List Value := [.int .i64 (m.of_ : Int), .int .i64 0, .int .i64 9, .int .i64 (m.fr : Int), .int .i64 (m.tier : Int), .string m.name]
instance : Inhabited Mon := ⟨⟨0, 0, 0, ByteArray.empty⟩⟩
def mAt (ms : List Mon) (i : Nat) : Mon := ms.getD i default
/-- a row of monitors at the head of a block -/
structure RdM (w : World) (g n cap : Nat) (ms : List Mon) : Prop where
  len : ms.length = n
  le : n ≤ cap
  max : cap ≤ maxLen
  lt : g < w.heap.size
  at_ : ∀ j, j < n → w.cell? ⟨g, j * 6, none⟩ = some (.int .i64 ((mAt ms j).of_ : Int)) ∧ w.cell? ⟨g, j * 6 + 1, none⟩ = some (.int .i64 0) ∧ w.cell? ⟨g, j * 6 + 2, none⟩ = some (.int .i64 9) ∧
    w.cell? ⟨g, j * 6 + 3, none⟩ = some (.int .i64 ((mAt ms j).fr : Int)) ∧ w.cell? ⟨g, j * 6 + 4, none⟩ = some (.int .i64 ((mAt ms j).tier : Int)) ∧ w.cell? ⟨g, j * 6 + 5, none⟩ = some (.string (mAt ms j).name)
theorem RdM.below {w w' : World} {g n cap B : Nat} {ms : List Mon} (h : RdM w g n cap ms) (hb : Below B w w') (hg : g < B) : RdM w' g n cap ms :=
  ⟨h.len, h.le, h.max, Nat.lt_of_lt_of_le h.lt hb.size, fun j hj => by
    have e : ∀ o, w'.cell? ⟨g, o, none⟩ = w.cell? ⟨g, o, none⟩ := fun o => hb.cell (p := ⟨g, o, none⟩) hg
    rw [e, e, e, e, e, e]
    exact h.at_ j hj⟩
theorem RdM.ext {w w' : World} {g n cap : Nat} {ms : List Mon} (h : RdM w g n cap ms) (hb : Below w.heap.size w w') : RdM w' g n cap ms := h.below hb h.lt
def GoodMons (ms : List Mon) : Prop := ∀ j, j < ms.length → (mAt ms j).Good

set_option maxRecDepth 100000 in
theorem monitor_ok (m : Mon) (w : World) (hm : m.Good) : Calls Try.prog 19 #[.agg #[.int .i64 (m.of_ : Int), .int .i64 0, .int .i64 9, .int .i64 (m.fr : Int), .int .i64 (m.tier : Int), .string m.name]] w fun e w' => e = .returned (.int .i64 0) ∧ Below w.heap.size w w' := by
  obtain ⟨h1, h2, h3, h4, h5, h6⟩ := hm
  obtain ⟨o, f, t, s⟩ := m
  dsimp only at *
  have b0 := below_alloc w (.cells #[.int .i64 (o : Int), .int .i64 0, .int .i64 9, .int .i64 (f : Int), .int .i64 (t : Int), .string s] 29)
  have Hs := hid h6
  clear h6
  go_enter Try.func19, Try.ntmps19
  go_wp2_with (first
    | (go_at_call 20; refine (in_yes _ _ _ _ (by omega) (by omega)).mono ?_; rintro e w' ⟨rfl, rfl⟩)
    | (go_at_call 27; refine (word_ok _ _ (by omega) (by omega)).mono ?_; rintro e w' ⟨rfl, rfl⟩)
    | (go_at_call 21; refine (name_ok _ _ Hs.out).mono ?_; rintro e w' ⟨rfl, hb⟩))
  go_ret
  exact ⟨rfl, b0.trans (hb.mono b0.size)⟩

/-- the value of a guard -/
abbrev gv (g n cap sil most win : Nat) (safe : ByteArray) : Value := .agg #[.slice (some ⟨g, 0, none⟩) n cap, .int .i64 (sil : Int), .int .i64 (most : Int), .int .i64 (win : Int), .string safe]
structure GoodG (n sil most win : Nat) (safe : ByteArray) : Prop where
  n1 : 1 ≤ n
  n2 : n ≤ 9
  s : sil ≤ 19
  m1 : 1 ≤ most
  m2 : most ≤ 6
  w1 : 1 ≤ win
  w2 : win ≤ 30
  nm : GoodName safe
set_option maxRecDepth 100000 in
set_option maxHeartbeats 4000000 in
theorem check_ok (g n cap sil most win : Nat) (safe : ByteArray) (ms : List Mon) (w : World) (hr : RdM w g n cap ms) (hg : GoodMons ms) (hG : GoodG n sil most win safe) :
    Calls Try.prog 8 #[gv g n cap sil most win safe] w fun e w' => e = .returned (.agg #[.int .i64 0, .int .i64 0]) ∧ Below w.heap.size w w' := by
  obtain ⟨n1, n2, s1, m1, m2, w1, w2, nm⟩ := hG
  have Hnm := hid nm
  clear nm
  have Hlen := hid hr.len
  have d0 : decide ((32 : Int) < (n : Int)) = false := decide_eq_false (by omega)
  have r1 := heap_alloc_new w (.cells #[.slice (some ⟨g, 0, none⟩) n cap, .int .i64 (sil : Int), .int .i64 (most : Int), .int .i64 (win : Int), .string safe] 27)
  have b1 := below_alloc w (.cells #[.slice (some ⟨g, 0, none⟩) n cap, .int .i64 (sil : Int), .int .i64 (most : Int), .int .i64 (win : Int), .string safe] 27)
  have r2 := heap_alloc_new (w.alloc (.cells #[.slice (some ⟨g, 0, none⟩) n cap, .int .i64 (sil : Int), .int .i64 (most : Int), .int .i64 (win : Int), .string safe] 27)) (.cells #[.int .i64 0, .int .i64 0] 45)
  have b2 := below_alloc (w.alloc (.cells #[.slice (some ⟨g, 0, none⟩) n cap, .int .i64 (sil : Int), .int .i64 (most : Int), .int .i64 (win : Int), .string safe] 27)) (.cells #[.int .i64 0, .int .i64 0] 45)
  have r1 := hid (row_below r1 b2)
  simp only [World.size_alloc] at r2
  have r2 := hid r2
  have HB := hid (b1.trans (b2.mono b1.size))
  clear b1 b2
  obtain ⟨H, hH⟩ : ∃ H, H = w.heap.size := ⟨_, rfl⟩
  have hgl := hr.lt
  have HH := hid hH
  have hHl : w.heap.size ≤ H := by omega
  rw [← hH] at r1 r2
  clear hH
  go_enter Try.func8, Try.ntmps8
  go_upto_region 3 with (fail)
  rw [← HH.out]
  generalize (w.alloc (.cells #[.slice (some ⟨g, 0, none⟩) n cap, .int .i64 (sil : Int), .int .i64 (most : Int), .int .i64 (win : Int), .string safe] 27)).alloc (.cells #[.int .i64 0, .int .i64 0] 45) = U at *
  have hHU : H + 1 < U.heap.size := row_lt r2.out
  have c1 : U.cell? ⟨H, 0, none⟩ = some (.slice (some ⟨g, 0, none⟩) n cap) := by rw [cell_of_row _ _ _ _ _ _ r1.out]; rfl
  go_wp2_with fail
  clear c1
  go_loopw [14] (fun i wr => ∃ j : Nat, j ≤ n ∧ i = .int .i64 j ∧ Below U.heap.size U wr) (fun i _ => n - (intOf i).toNat)
  case atStart => exact ⟨0, by omega, rfl, Below.refl _ _⟩
  case round =>
    obtain ⟨j, hj, rfl, hB⟩ := hrel
    have HBr := hid (HB.out.trans (hB.mono HB.out.size))
    by_cases hlt : j < n
    · obtain ⟨c0, c1, c2, c3, c4, c5⟩ := (hr.ext HBr.out).at_ j hlt
      have hm := hg j (by rw [Hlen.out]; exact hlt)
      generalize mAt ms j = m at *
      have hmo := fun W => monitor_ok m W hm
      obtain ⟨mo, mf, mt, mn⟩ := m
      dsimp only at *
      have b5 := below_alloc wr (.cells #[.int .i64 (mo : Int), .int .i64 0, .int .i64 9, .int .i64 (mf : Int), .int .i64 (mt : Int), .string mn] 29)
      have HBx := hid (hB.trans (b5.mono hB.size))
      clear hB b5 hm
      go_wp2_with fail
      refine (hmo _).mono ?_
      rintro e W7 ⟨rfl, b7⟩
      have HB7 := hid (HBx.out.trans (b7.mono HBx.out.size))
      clear hmo HBx b7
      go_wp2_with fail
      go_roundw
      case rel => exact ⟨j + 1, by omega, by go_num, HB7.out⟩
      case measure => simp [intOf]; omega
    · obtain rfl : n = j := by omega
      have r1' := row_below r1.out hB
      have r2' := row_below r2.out hB
      have c1 : wr.cell? ⟨H, 1, none⟩ = some (.int .i64 (sil : Int)) := by rw [cell_of_row _ _ _ _ _ _ r1']; rfl
      have c2 : wr.cell? ⟨H, 2, none⟩ = some (.int .i64 (most : Int)) := by rw [cell_of_row _ _ _ _ _ _ r1']; rfl
      have c3 : wr.cell? ⟨H, 3, none⟩ = some (.int .i64 (win : Int)) := by rw [cell_of_row _ _ _ _ _ _ r1']; rfl
      have c4 : wr.cell? ⟨H, 4, none⟩ = some (.string safe) := by rw [cell_of_row _ _ _ _ _ _ r1']; rfl
      have R2 := hid r2'
      have hHw := row_lt r2'
      clear r1' r2' hB
      go_wp2_with (first
        | (go_at_call 20; refine (in_yes _ _ _ _ (by omega) (by omega)).mono ?_; rintro e w' ⟨rfl, rfl⟩))
      refine (name_ok _ _ Hnm.out).mono ?_
      rintro e W7 ⟨rfl, b7⟩
      have r7 := row_below R2.out b7
      have f1 : W7.cell? ⟨H + 1, 0, none⟩ = some (.int .i64 0) := by rw [cell_of_row _ _ _ _ _ _ r7]; rfl
      have f2 : W7.cell? ⟨H + 1, 1, none⟩ = some (.int .i64 0) := by rw [cell_of_row _ _ _ _ _ _ r7]; rfl
      have f3 : W7.frozen? ⟨H + 1, 0, none⟩ = false := frozen_row r7 0
      have f4 : W7.frozen? ⟨H + 1, 1, none⟩ = false := frozen_row r7 1
      obtain ⟨q1, g1⟩ := set_row (cs' := #[.int .i64 0, .int .i64 0]) r7 0 (.int .i64 0) rfl
      obtain ⟨q2, g2⟩ := set_row (cs' := #[.int .i64 0, .int .i64 0]) q1 1 (.int .i64 0) rfl
      have Q2 := hid q2
      have HB7 := hid ((HBr.out.trans (b7.mono HBr.out.size)).grown (grownBy_trans g1 g2) (by have := (HBr.out.trans (b7.mono HBr.out.size)).size; omega) (fun k e => by cases e; omega))
      clear R2 b7 HBr r7 q1 q2 g1 g2
      go_wp2_with fail
      refine bodyPost_ret (results_cell_row rfl _ _ (H + 1) 45 #[.int .i64 0, .int .i64 0] (0, 0) _ rfl Q2.out Try.underlying45 rfl (by kernel_rfl)) rfl ⟨rfl, HB7.out⟩
end Go.Proofs.Ytkgnelmnadnbhaa
