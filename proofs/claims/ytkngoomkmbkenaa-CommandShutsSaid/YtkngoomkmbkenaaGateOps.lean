/- A gate at work: counted, calm, order, numbered: the walks. -/
import Derived.Test.YtkngoomkmbkenaaGate
import Derived.Test.YtkngoomkmbkenaaBits
namespace Go.Proofs.Ytkngoomkmbkenaa
set_option linter.unusedVariables false
open Go.RowKit

theorem and_mask (z : Int) (k : Nat) (hk : k ≤ 62) : bits .and .i64 z ((2 ^ k - 1 : Nat) : Int) = z % (2 ^ k : Int) := by
  have h2 : (2 : Nat) ^ k ≤ 2 ^ 62 := Nat.pow_le_pow_right (by decide) hk
  have hp := Nat.two_pow_pos k
  show IntKind.i64.wrap ((BitVec.ofInt 64 z &&& BitVec.ofInt 64 ((2 ^ k - 1 : Nat) : Int)).toNat : Int) = _
  have hm : (2 ^ k - 1) % 2 ^ 64 = 2 ^ k - 1 := Nat.mod_eq_of_lt (by omega)
  rw [BitVec.toNat_and, BitVec.ofInt_natCast, BitVec.toNat_ofNat, hm, Nat.and_two_pow_sub_one_eq_mod, BitVec.toNat_ofInt]
  have hd : (2 ^ k : Int) ∣ (2 ^ 64 : Int) := by
    have : (2 : Int) ^ 64 = 2 ^ k * 2 ^ (64 - k) := by rw [← Int.pow_add]; congr 1; omega
    rw [this]; exact Int.dvd_mul_right _ _
  have e1 : (((z % ((2 ^ 64 : Nat) : Int)).toNat % 2 ^ k : Nat) : Int) = z % (2 ^ k : Int) := by
    have h0 : 0 ≤ z % ((2 ^ 64 : Nat) : Int) := Int.emod_nonneg _ (by decide)
    rw [Int.natCast_emod, Int.toNat_of_nonneg h0]
    have e2 : ((2 ^ 64 : Nat) : Int) = (2 : Int) ^ 64 := by decide
    have e3 : ((2 ^ k : Nat) : Int) = (2 : Int) ^ k := by simp
    rw [e2, e3, Int.emod_emod_of_dvd _ hd]
  rw [e1]
  have e3 : ((2 ^ k : Nat) : Int) = (2 : Int) ^ k := by simp
  have hb := Int.emod_nonneg z (b := (2 : Int) ^ k) (by omega)
  have hl := Int.emod_lt_of_pos z (b := (2 : Int) ^ k) (by omega)
  exact IntWalk.i64_in _ (by omega)
theorem and255 (z : Int) : bits .and .i64 z 255 = z % 256 := and_mask z 8 (by decide)
theorem and3 (z : Int) : bits .and .i64 z 3 = z % 4 := and_mask z 2 (by decide)

/-- a gate at work lies in block b -/
def Holds (W : World) (b : Nat) (g : Gt) : Prop := W.heap[b]? = some (.cells g.cells 56)
theorem holds_set {W : World} {b : Nat} {g g' : Gt} (h : Holds W b g) (i : Nat) (v : Value) (hv : g.cells.setIfInBounds i v = g'.cells) : Holds (W.setCell ⟨b, i, none⟩ v) b g' ∧ W.grownBy (W.setCell ⟨b, i, none⟩ v) (some b) := by
  refine ⟨(heap_setCell_same W b i _ 56 v h).trans (by rw [hv]), ?_⟩
  exact ⟨rfl, rfl, rfl, by simp, fun k hk hne => heap_setCell_other W ⟨b, i, none⟩ k v (fun e => hne (by rw [e]))⟩
theorem holds_at {W : World} {b : Nat} {g : Gt} (h : Holds W b g) : GtAt W b g := gtAt_row h
theorem holds_frozen {W : World} {b : Nat} {g : Gt} (h : Holds W b g) (i : Nat) : W.frozen? ⟨b, i, none⟩ = false := by simp [World.frozen?, show W.heap[b]? = _ from h]

theorem counted_ok (b : Nat) (g : Gt) (w : World) (h : Holds w b g) :
    Calls Try.prog 16 #[.pointer (some ⟨b, 0, none⟩)] w fun e w' => e = .returned (.tuple #[]) ∧ Holds w' b { g with ct := (g.ct + 1) % 4 } ∧ w.grownBy w' (some b) := by
  obtain ⟨_, c0, c1, c2, c3, c4, c5, c6⟩ := holds_at h
  have f6 := holds_frozen h 6
  have e1 : bits .and .i64 (wrap64 (g.ct + 1)) 3 = (g.ct + 1) % 4 := by rw [and3]; unfold wrap64; omega
  go_enter Try.func16, Try.ntmps16
  go_wp2_with fail
  go_end0
  obtain ⟨h1, h2⟩ := holds_set (g' := { g with ct := (g.ct + 1) % 4 }) h 6 (.int .i64 ((g.ct + 1) % 4)) rfl
  exact ⟨rfl, h1, h2⟩

theorem calm_ok (b : Nat) (g : Gt) (w : World) (h : Holds w b g) :
    Calls Try.prog 29 #[.pointer (some ⟨b, 0, none⟩)] w fun e w' => e = .returned (.tuple #[]) ∧ Holds w' b { g with wa := false, ag := false } ∧ w.grownBy w' (some b) := by
  obtain ⟨_, c0, c1, c2, c3, c4, c5, c6⟩ := holds_at h
  have f4 := holds_frozen h 4
  obtain ⟨h1, g1⟩ := holds_set (g' := { g with wa := false }) h 4 (.bool false) rfl
  obtain ⟨W1, hW1⟩ : ∃ W1, W1 = w.setCell ⟨b, 4, none⟩ (.bool false) := ⟨_, rfl⟩
  rw [← hW1] at h1 g1
  have d5 := (holds_at h1).c5
  have f5 := holds_frozen h1 5
  obtain ⟨h2, g2⟩ := holds_set (g' := { g with wa := false, ag := false }) h1 5 (.bool false) rfl
  have hW1' := hW1.symm
  clear hW1
  go_enter Try.func29, Try.ntmps29
  go_wp2_with fail
  go_end0
  exact ⟨rfl, h2, grownBy_trans g1 g2⟩

/-- the order that frees a gate -/
theorem order_free (b : Nat) (g : Gt) (a : Option Addr) (c : Nat) (w : World) (h : Holds w b g) (hr : Rd w a 1 c (vb [0])) :
    Calls Try.prog 15 #[.pointer (some ⟨b, 0, none⟩), .slice a 1 c] w fun e w' => e = .returned (.int .i64 0) ∧ Holds w' b { g with sh := false, wa := false, ag := false, ct := (g.ct + 1) % 4 } ∧ w.grownBy w' (some b) := by
  obtain ⟨_, c0, c1, c2, c3, c4, c5, c6⟩ := holds_at h
  have f3 := holds_frozen h 3
  obtain ⟨ab, ao, rfl, _, hc⟩ := hr.cell 0 (by decide)
  have hc : w.cell? ⟨ab, ao, none⟩ = some (.int .u8 0) := hc
  obtain ⟨h1, g1⟩ := holds_set (g' := { g with sh := false }) h 3 (.bool false) rfl
  obtain ⟨W1, hW1⟩ : ∃ W1, W1 = w.setCell ⟨b, 3, none⟩ (.bool false) := ⟨_, rfl⟩
  rw [← hW1] at h1 g1
  have hW1' := hW1.symm
  clear hW1
  go_enter Try.func15, Try.ntmps15
  go_wp2_with fail
  refine (calm_ok b _ _ h1).mono ?_
  rintro e w2 ⟨rfl, h2, g2⟩
  clear hW1'
  go_wp2_with fail
  refine (counted_ok b _ _ h2).mono ?_
  rintro e w3 ⟨rfl, h3, g3⟩
  go_wp2_with fail
  go_ret
  exact ⟨rfl, h3, grownBy_trans (grownBy_trans g1 g2) g3⟩

/-- what numbered does to a gate -/
def numG (g : Gt) (sq : Int) (room : Bool) : Gt × Bool × Int :=
  if g.sh then (g, false, 15)
  else if (sq - g.nx) % 256 = 0 then
    if room then ({ g with nx := (g.nx + 1) % 256, wa := false, ag := false }, true, 0) else ({ g with wa := true, ag := true }, false, 12)
  else if (sq - g.nx) % 256 < g.hf then ({ g with ag := true }, false, 7)
  else if 256 - (sq - g.nx) % 256 ≤ g.hf then (g, false, 13)
  else ({ g with sh := true }, false, 15)

theorem numbered_ok (b : Nat) (g : Gt) (sq : Int) (room : Bool) (w : World) (h : Holds w b g) (hg : g.ok) (hs : 0 ≤ sq ∧ sq ≤ 255) :
    Calls Try.prog 17 #[.pointer (some ⟨b, 0, none⟩), .int .i64 sq, .bool room] w fun e w' => e = .returned (.tuple #[.bool (numG g sq room).2.1, .int .i64 (numG g sq room).2.2]) ∧ Holds w' b (numG g sq room).1 ∧ w.grownBy w' (some b) := by
  obtain ⟨_, c0, c1, c2, c3, c4, c5, c6⟩ := holds_at h
  obtain ⟨k1, k2, k3, k4⟩ := hg
  have e1 : bits .and .i64 (sq - g.nx) 255 = (sq - g.nx) % 256 := and255 _
  have hn : numG g sq room = if g.sh then (g, false, 15)
  else if (sq - g.nx) % 256 = 0 then
    if room then ({ g with nx := (g.nx + 1) % 256, wa := false, ag := false }, true, 0) else ({ g with wa := true, ag := true }, false, 12)
  else if (sq - g.nx) % 256 < g.hf then ({ g with ag := true }, false, 7)
  else if 256 - (sq - g.nx) % 256 ≤ g.hf then (g, false, 13)
  else ({ g with sh := true }, false, 15) := rfl
  have hd0 : 0 ≤ (sq - g.nx) % 256 := Int.emod_nonneg _ (by decide)
  have hd1 : (sq - g.nx) % 256 < 256 := Int.emod_lt_of_pos _ (by decide)
  generalize hN : numG g sq room = N at *
  clear hN
  generalize hd : (sq - g.nx) % 256 = d at *
  clear hd
  by_cases s1 : g.sh = true
  · rw [if_pos s1] at hn
    have Hn := hid hn; clear hn
    rw [s1] at c3
    go_enter Try.func17, Try.ntmps17
    go_wp2_with fail
    go_ret2
    rw [Hn.out]
    exact ⟨rfl, h, World.grownBy.refl _ _⟩
  · rw [if_neg s1] at hn
    have s1' : g.sh = false := by simpa using s1
    rw [s1'] at c3
    clear s1
    by_cases s2 : d = 0
    · subst s2
      rw [if_pos rfl] at hn
      cases room with
      | true =>
        rw [if_pos rfl] at hn
        have Hn := hid hn; clear hn
        have e2 : bits .and .i64 (wrap64 (g.nx + 1)) 255 = (g.nx + 1) % 256 := by rw [and255]; unfold wrap64; omega
        have e3 : g.nx + 1 = wrap64 (g.nx + 1) := by unfold wrap64; omega
        have e2' : bits .and .i64 (g.nx + 1) 255 = (g.nx + 1) % 256 := and255 _
        clear e3
        have f1 := holds_frozen h 1
        obtain ⟨h1, g1⟩ := holds_set (g' := { g with nx := (g.nx + 1) % 256 }) h 1 (.int .i64 ((g.nx + 1) % 256)) rfl
        obtain ⟨W1, hW1⟩ : ∃ W1, W1 = w.setCell ⟨b, 1, none⟩ (.int .i64 ((g.nx + 1) % 256)) := ⟨_, rfl⟩
        rw [← hW1] at h1 g1
        have hW1' := hW1.symm
        clear hW1
        go_enter Try.func17, Try.ntmps17
        go_wp2_with fail
        refine (calm_ok b _ _ h1).mono ?_
        rintro e w2 ⟨rfl, h2, g2⟩
        clear hW1'
        go_wp2_with fail
        go_ret2
        rw [Hn.out]
        exact ⟨rfl, h2, grownBy_trans g1 g2⟩
      | false =>
        rw [if_neg (by simp)] at hn
        have Hn := hid hn; clear hn
        have f4 := holds_frozen h 4
        obtain ⟨h1, g1⟩ := holds_set (g' := { g with wa := true }) h 4 (.bool true) rfl
        obtain ⟨W1, hW1⟩ : ∃ W1, W1 = w.setCell ⟨b, 4, none⟩ (.bool true) := ⟨_, rfl⟩
        rw [← hW1] at h1 g1
        have d5 := (holds_at h1).c5
        have f5 := holds_frozen h1 5
        obtain ⟨h2, g2⟩ := holds_set (g' := { g with wa := true, ag := true }) h1 5 (.bool true) rfl
        have hW1' := hW1.symm
        clear hW1
        go_enter Try.func17, Try.ntmps17
        go_wp2_with fail
        go_ret2
        rw [Hn.out]
        exact ⟨rfl, h2, grownBy_trans g1 g2⟩
    · rw [if_neg s2] at hn
      have s2' : (d == 0) = false := by simpa using s2
      by_cases s3 : d < g.hf
      · rw [if_pos s3] at hn
        have Hn := hid hn; clear hn
        have f5 := holds_frozen h 5
        obtain ⟨h2, g2⟩ := holds_set (g' := { g with ag := true }) h 5 (.bool true) rfl
        go_enter Try.func17, Try.ntmps17
        go_wp2_with fail
        go_ret2
        rw [Hn.out]
        exact ⟨rfl, h2, g2⟩
      · rw [if_neg s3] at hn
        by_cases s4 : 256 - d ≤ g.hf
        · rw [if_pos s4] at hn
          have Hn := hid hn; clear hn
          go_enter Try.func17, Try.ntmps17
          go_wp2_with fail
          go_ret2
          rw [Hn.out]
          exact ⟨rfl, h, World.grownBy.refl _ _⟩
        · rw [if_neg s4] at hn
          have Hn := hid hn; clear hn
          have f3 := holds_frozen h 3
          obtain ⟨h2, g2⟩ := holds_set (g' := { g with sh := true }) h 3 (.bool true) rfl
          go_enter Try.func17, Try.ntmps17
          go_wp2_with fail
          go_ret2
          rw [Hn.out]
          exact ⟨rfl, h2, g2⟩
end Go.Proofs.Ytkngoomkmbkenaa
