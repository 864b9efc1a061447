/- A gate: in, Guard, stands, may: the walks. -/
import Derived.Test.YtkngoomkmbkenaaProg
import Derived.Test.YtkngoomkmbkenaaOnce2
import Derived.WalkKit
namespace Go.Proofs.Ytkngoomkmbkenaa
set_option linter.unusedVariables false
open Go.RowKit

theorem in_st (n lo hi : Int) (w : World) : Calls Try.prog 12 #[.int .i64 n, .int .i64 lo, .int .i64 hi] w fun e w' => e = .returned (.bool (decide (lo ≤ n) && decide (n ≤ hi))) ∧ w' = w := by
  go_enter Try.func12, Try.ntmps12
  by_cases h : lo ≤ n
  · have h1 : decide (lo ≤ n) = true := by simp [h]
    go_wp2
    go_ret
    simp <;> omega
  · have h1 : decide (lo ≤ n) = false := by simp [h]
    go_wp2
    go_ret
    simp <;> omega
theorem in_yes (n lo hi : Int) (w : World) (h : lo ≤ n ∧ n ≤ hi) : Calls Try.prog 12 #[.int .i64 n, .int .i64 lo, .int .i64 hi] w fun e w' => e = .returned (.bool true) ∧ w = w' :=
  (in_st n lo hi w).mono fun e w' ⟨he, hw⟩ => ⟨by rw [he, decide_eq_true h.1, decide_eq_true h.2]; rfl, hw.symm⟩
theorem in_no (n lo hi : Int) (w : World) (h : ¬ (lo ≤ n ∧ n ≤ hi)) : Calls Try.prog 12 #[.int .i64 n, .int .i64 lo, .int .i64 hi] w fun e w' => e = .returned (.bool false) ∧ w = w' :=
  (in_st n lo hi w).mono fun e w' ⟨he, hw⟩ => ⟨by
    rw [he]
    by_cases h1 : lo ≤ n
    · have h2 : ¬ n ≤ hi := fun h2 => h ⟨h1, h2⟩
      simp [h2]
    · simp [h1], hw.symm⟩

/-- a gate's cells -/
structure Gt where
  cr : Int
  nx : Int
  hf : Int
  sh : Bool
  wa : Bool
  ag : Bool
  ct : Int
def Gt.cells (g : Gt) : Array Value := #[.int .i64 g.cr, .int .i64 g.nx, .int .i64 g.hf, .bool g.sh, .bool g.wa, .bool g.ag, .int .i64 g.ct]

theorem guard_ok (cr hf : Int) (w : World) (h1 : 0 ≤ cr ∧ cr ≤ 1023) (h2 : 1 ≤ hf ∧ hf ≤ 127) :
    Calls Try.prog 6 #[.int .i64 cr, .int .i64 hf] w fun e w' => e = .returned (.tuple #[.agg (Gt.cells ⟨cr, 0, hf, false, false, false, 0⟩), .int .i64 0]) ∧ Below w.heap.size w w' := by
  go_enter Try.func6, Try.ntmps6
  go_wp2_with fail
  refine (in_yes _ _ _ _ h1).mono ?_
  rintro e w' ⟨rfl, rfl⟩
  go_wp2_with fail
  refine (in_yes _ _ _ _ h2).mono ?_
  rintro e w' ⟨rfl, rfl⟩
  go_wp2_with fail
  have A := heap_alloc_new w (.cells #[.int .i64 cr, .int .i64 0, .int .i64 hf, .bool false, .bool false, .bool false, .int .i64 0] 25)
  have B := below_alloc w (.cells #[.int .i64 cr, .int .i64 0, .int .i64 hf, .bool false, .bool false, .bool false, .int .i64 0] 25)
  generalize w.alloc (.cells #[.int .i64 cr, .int .i64 0, .int .i64 hf, .bool false, .bool false, .bool false, .int .i64 0] 25) = V at *
  have g0 : V.cell? ⟨w.heap.size, 0, none⟩ = some (.int .i64 cr) := by rw [cell_of_row _ _ _ _ _ _ A]; rfl
  have g1 : V.cell? ⟨w.heap.size, 1, none⟩ = some (.int .i64 0) := by rw [cell_of_row _ _ _ _ _ _ A]; rfl
  have g2 : V.cell? ⟨w.heap.size, 2, none⟩ = some (.int .i64 hf) := by rw [cell_of_row _ _ _ _ _ _ A]; rfl
  have g3 : V.cell? ⟨w.heap.size, 3, none⟩ = some (.bool false) := by rw [cell_of_row _ _ _ _ _ _ A]; rfl
  have g4 : V.cell? ⟨w.heap.size, 4, none⟩ = some (.bool false) := by rw [cell_of_row _ _ _ _ _ _ A]; rfl
  have g5 : V.cell? ⟨w.heap.size, 5, none⟩ = some (.bool false) := by rw [cell_of_row _ _ _ _ _ _ A]; rfl
  have g6 : V.cell? ⟨w.heap.size, 6, none⟩ = some (.int .i64 0) := by rw [cell_of_row _ _ _ _ _ _ A]; rfl
  refine bodyPost_ret (by simp only [results, Try.results6, go_sem]; simp [go_sem, g0, g1, g2, g3, g4, g5, g6]; rfl) rfl ?_
  exact ⟨rfl, B⟩

/-- a gate that may be -/
def Gt.ok (g : Gt) : Prop := (0 ≤ g.cr ∧ g.cr ≤ 1023) ∧ (1 ≤ g.hf ∧ g.hf ≤ 127) ∧ (0 ≤ g.nx ∧ g.nx ≤ 255) ∧ (0 ≤ g.ct ∧ g.ct ≤ 3)

/-- the gate's cells, one by one -/
structure GtAt (W : World) (b : Nat) (g : Gt) : Prop where
  lt : b < W.heap.size
  c0 : W.cell? ⟨b, 0, none⟩ = some (.int .i64 g.cr)
  c1 : W.cell? ⟨b, 1, none⟩ = some (.int .i64 g.nx)
  c2 : W.cell? ⟨b, 2, none⟩ = some (.int .i64 g.hf)
  c3 : W.cell? ⟨b, 3, none⟩ = some (.bool g.sh)
  c4 : W.cell? ⟨b, 4, none⟩ = some (.bool g.wa)
  c5 : W.cell? ⟨b, 5, none⟩ = some (.bool g.ag)
  c6 : W.cell? ⟨b, 6, none⟩ = some (.int .i64 g.ct)
theorem gtAt_row {W : World} {b : Nat} {g : Gt} {e : TypeId} (A : W.heap[b]? = some (.cells g.cells e)) : GtAt W b g :=
  ⟨(Array.getElem?_eq_some_iff.1 A).1, by rw [cell_of_row _ _ _ _ _ _ A]; rfl, by rw [cell_of_row _ _ _ _ _ _ A]; rfl, by rw [cell_of_row _ _ _ _ _ _ A]; rfl, by rw [cell_of_row _ _ _ _ _ _ A]; rfl, by rw [cell_of_row _ _ _ _ _ _ A]; rfl, by rw [cell_of_row _ _ _ _ _ _ A]; rfl, by rw [cell_of_row _ _ _ _ _ _ A]; rfl⟩
theorem GtAt.below {W W' : World} {b : Nat} {g : Gt} (h : GtAt W b g) (hb : Below W.heap.size W W') : GtAt W' b g :=
  ⟨Nat.lt_of_lt_of_le h.lt hb.size, (hb.cell (p := ⟨b, 0, none⟩) h.lt).trans h.c0, (hb.cell (p := ⟨b, 1, none⟩) h.lt).trans h.c1, (hb.cell (p := ⟨b, 2, none⟩) h.lt).trans h.c2, (hb.cell (p := ⟨b, 3, none⟩) h.lt).trans h.c3, (hb.cell (p := ⟨b, 4, none⟩) h.lt).trans h.c4, (hb.cell (p := ⟨b, 5, none⟩) h.lt).trans h.c5, (hb.cell (p := ⟨b, 6, none⟩) h.lt).trans h.c6⟩

theorem stands_ok (g : Gt) (hg : g.ok) (w : World) : Calls Try.prog 13 #[.agg g.cells] w fun e w' => e = .returned (.bool true) ∧ Below w.heap.size w w' := by
  obtain ⟨cr, nx, hf, sh, wa, ag, ct⟩ := g
  obtain ⟨h1, h2, h3, h4⟩ := hg
  simp only at h1 h2 h3 h4
  have A := heap_alloc_new w (.cells (Gt.cells ⟨cr, nx, hf, sh, wa, ag, ct⟩) 25)
  have BA := below_alloc w (.cells (Gt.cells ⟨cr, nx, hf, sh, wa, ag, ct⟩) 25)
  have G := gtAt_row A
  clear A
  unfold Gt.cells at *
  simp only at *
  go_enter Try.func13, Try.ntmps13
  go_wp2_with fail
  refine (guard_ok _ _ _ h1 h2).mono ?_
  rintro e V ⟨rfl, B⟩
  have G := G.below B
  have BV := BA.trans (B.mono BA.size)
  have BN := below_alloc V (.cells (Gt.cells ⟨cr, 0, hf, false, false, false, 0⟩) 25)
  have G := G.below BN
  have BV := BV.trans (BN.mono BV.size)
  unfold Gt.cells at *
  simp only at *
  obtain ⟨_, c0, c1, c2, c3, c4, c5, c6⟩ := G
  simp only at c0 c1 c2 c3 c4 c5 c6
  clear B BA BN
  go_wp2_with fail
  generalize V.alloc (.cells #[.int .i64 cr, .int .i64 0, .int .i64 hf, .bool false, .bool false, .bool false, .int .i64 0] 25) = W at *
  refine (in_yes _ _ _ _ h3).mono ?_
  rintro e w' ⟨rfl, rfl⟩
  go_wp2_with fail
  refine (in_yes _ _ _ _ h4).mono ?_
  rintro e w' ⟨rfl, rfl⟩
  go_wp2_with fail
  go_ret
  exact ⟨rfl, BV⟩

/-- an order that may be -/
theorem may_ok (cr : Int) (by_ co : Bool) (sq : Int) (a : Option Addr) (n c : Nat) (w : World) (h1 : 0 ≤ cr ∧ cr ≤ 1023) (h2 : 0 ≤ sq ∧ sq ≤ 255) (h3 : co = true → by_ = true) (h4 : 1 ≤ n ∧ n ≤ 1017) :
    Calls Try.prog 14 #[.agg #[.int .i64 cr, .bool by_, .bool co, .int .i64 sq, .slice a n c]] w fun e w' => e = .returned (.int .i64 0) ∧ Below w.heap.size w w' := by
  have A := heap_alloc_new w (.cells #[.int .i64 cr, .bool by_, .bool co, .int .i64 sq, .slice a n c] 33)
  have BA := below_alloc w (.cells #[.int .i64 cr, .bool by_, .bool co, .int .i64 sq, .slice a n c] 33)
  go_enter Try.func14, Try.ntmps14
  obtain ⟨W, hW⟩ : ∃ W, W = w.alloc (.cells #[.int .i64 cr, .bool by_, .bool co, .int .i64 sq, .slice a n c] 33) := ⟨_, rfl⟩
  rw [← hW] at A BA
  have c0 : W.cell? ⟨w.heap.size, 0, none⟩ = some (.int .i64 cr) := by rw [cell_of_row _ _ _ _ _ _ A]; rfl
  have c1 : W.cell? ⟨w.heap.size, 1, none⟩ = some (.bool by_) := by rw [cell_of_row _ _ _ _ _ _ A]; rfl
  have c2 : W.cell? ⟨w.heap.size, 2, none⟩ = some (.bool co) := by rw [cell_of_row _ _ _ _ _ _ A]; rfl
  have c3 : W.cell? ⟨w.heap.size, 3, none⟩ = some (.int .i64 sq) := by rw [cell_of_row _ _ _ _ _ _ A]; rfl
  have c4 : W.cell? ⟨w.heap.size, 4, none⟩ = some (.slice a n c) := by rw [cell_of_row _ _ _ _ _ _ A]; rfl
  have hW' := hW.symm
  clear hW A
  go_wp2_with fail
  clear hW'
  refine (in_yes _ _ _ _ h1).mono ?_
  rintro e w' ⟨rfl, rfl⟩
  go_wp2_with fail
  refine (in_yes _ _ _ _ h2).mono ?_
  rintro e w' ⟨rfl, rfl⟩
  cases co <;> cases by_
  · go_wp2_with fail
    refine (in_yes _ _ _ _ (by omega)).mono ?_
    rintro e w' ⟨rfl, rfl⟩
    go_wp2_with fail
    go_ret
    exact ⟨rfl, BA⟩
  · go_wp2_with fail
    refine (in_yes _ _ _ _ (by omega)).mono ?_
    rintro e w' ⟨rfl, rfl⟩
    go_wp2_with fail
    go_ret
    exact ⟨rfl, BA⟩
  · exact absurd (h3 rfl) (by simp)
  · go_wp2_with fail
    refine (in_yes _ _ _ _ (by omega)).mono ?_
    rintro e w' ⟨rfl, rfl⟩
    go_wp2_with fail
    go_ret
    exact ⟨rfl, BA⟩
end Go.Proofs.Ytkngoomkmbkenaa
/- Bit operations of int at numbers that are not negative, in Nat's words. -/
namespace Go.Proofs.Ytkngoomkmbkenaa
theorem wraps_i64 (n : Int) (h₀ : 0 ≤ n) (h₁ : n < 2 ^ 63) : IntKind.i64.wrap n = n := IntWalk.i64_in _ (by omega)
theorem i64_and_nat (a b : Nat) (ha : a < 2 ^ 63) (hb : b < 2 ^ 63) : bits .and .i64 (a : Int) (b : Int) = ((a &&& b : Nat) : Int) :=
  (bits_nat .i64 63 (by decide) wraps_i64 a b ha hb).1
theorem i64_or_nat (a b : Nat) (ha : a < 2 ^ 63) (hb : b < 2 ^ 63) : bits .or .i64 (a : Int) (b : Int) = ((a ||| b : Nat) : Int) :=
  (bits_nat .i64 63 (by decide) wraps_i64 a b ha hb).2
theorem i64_xor_nat (a b : Nat) (ha : a < 2 ^ 63) (hb : b < 2 ^ 63) : bits .xor .i64 (a : Int) (b : Int) = ((a ^^^ b : Nat) : Int) := by
  have hp : (2 : Nat) ^ 63 ≤ 2 ^ 64 := by decide
  have ha' : a % 2 ^ 64 = a := Nat.mod_eq_of_lt (Nat.lt_of_lt_of_le ha hp)
  have hb' : b % 2 ^ 64 = b := Nat.mod_eq_of_lt (Nat.lt_of_lt_of_le hb hp)
  show IntKind.i64.wrap ((BitVec.ofInt 64 (a : Int) ^^^ BitVec.ofInt 64 (b : Int)).toNat : Int) = _
  rw [BitVec.toNat_xor, BitVec.ofInt_natCast, BitVec.ofInt_natCast, BitVec.toNat_ofNat, BitVec.toNat_ofNat, ha', hb']
  have hx := Nat.xor_lt_two_pow ha hb
  exact wraps_i64 _ (Int.natCast_nonneg _) (by exact_mod_cast hx)
end Go.Proofs.Ytkngoomkmbkenaa
/- A gate at work: counted, calm, order, numbered: the walks. -/
namespace Go.Proofs.Ytkngoomkmbkenaa
set_option linter.unusedVariables false
open Go.RowKit

theorem and_mask (z : Int) (k : Nat) (hk : k ≤ 62) : bits .and .i64 z ((2 ^ k - 1 : Nat) : Int) = z % (2 ^ k : Int) := by
  have h2 : (2 : Nat) ^ k ≤ 2 ^ 62 := Nat.pow_le_pow_right (by decide) hk
  have hp := Nat.two_pow_pos k
  show IntKind.i64.wrap ((BitVec.ofInt 64 z &&& BitVec.ofInt 64 ((2 ^ k - 1 : Nat) : Int)).toNat : Int) = _
  have hm : (2 ^ k - 1) % 2 ^ 64 = 2 ^ k - 1 := Nat.mod_eq_of_lt (by omega)
  rw [BitVec.toNat_and, BitVec.ofInt_natCast, BitVec.toNat_ofNat, hm, Nat.and_two_pow_sub_one_eq_mod, BitVec.toNat_ofInt]
  have hd : (2 ^ k : Int) ∣ (2 ^ 64 : Int) := by
    have : (2 : Int) ^ 64 = 2 ^ k * 2 ^ (64 - k) := by rw [← Int.pow_add]; congr 1; omega
    rw [this]; exact Int.dvd_mul_right _ _
  have e1 : (((z % ((2 ^ 64 : Nat) : Int)).toNat % 2 ^ k : Nat) : Int) = z % (2 ^ k : Int) := by
    have h0 : 0 ≤ z % ((2 ^ 64 : Nat) : Int) := Int.emod_nonneg _ (by decide)
    rw [Int.natCast_emod, Int.toNat_of_nonneg h0]
    have e2 : ((2 ^ 64 : Nat) : Int) = (2 : Int) ^ 64 := by decide
    have e3 : ((2 ^ k : Nat) : Int) = (2 : Int) ^ k := by simp
    rw [e2, e3, Int.emod_emod_of_dvd _ hd]
  rw [e1]
  have e3 : ((2 ^ k : Nat) : Int) = (2 : Int) ^ k := by simp
  have hb := Int.emod_nonneg z (b := (2 : Int) ^ k) (by omega)
  have hl := Int.emod_lt_of_pos z (b := (2 : Int) ^ k) (by omega)
  exact IntWalk.i64_in _ (by omega)
theorem and255 (z : Int) : bits .and .i64 z 255 = z % 256 := and_mask z 8 (by decide)
theorem and3 (z : Int) : bits .and .i64 z 3 = z % 4 := and_mask z 2 (by decide)

/-- a gate at work lies in block b -/
def Holds (W : World) (b : Nat) (g : Gt) : Prop := W.heap[b]? = some (.cells g.cells 56)
theorem holds_set {W : World} {b : Nat} {g g' : Gt} (h : Holds W b g) (i : Nat) (v : Value) (hv : g.cells.setIfInBounds i v = g'.cells) : Holds (W.setCell ⟨b, i, none⟩ v) b g' ∧ W.grownBy (W.setCell ⟨b, i, none⟩ v) (some b) := by
  refine ⟨(heap_setCell_same W b i _ 56 v h).trans (by rw [hv]), ?_⟩
  exact ⟨rfl, rfl, rfl, by simp, fun k hk hne => heap_setCell_other W ⟨b, i, none⟩ k v (fun e => hne (by rw [e]))⟩
theorem holds_at {W : World} {b : Nat} {g : Gt} (h : Holds W b g) : GtAt W b g := gtAt_row h
theorem holds_frozen {W : World} {b : Nat} {g : Gt} (h : Holds W b g) (i : Nat) : W.frozen? ⟨b, i, none⟩ = false := by simp [World.frozen?, show W.heap[b]? = _ from h]

theorem counted_ok (b : Nat) (g : Gt) (w : World) (h : Holds w b g) :
    Calls Try.prog 16 #[.pointer (some ⟨b, 0, none⟩)] w fun e w' => e = .returned (.tuple #[]) ∧ Holds w' b { g with ct := (g.ct + 1) % 4 } ∧ w.grownBy w' (some b) := by
  obtain ⟨_, c0, c1, c2, c3, c4, c5, c6⟩ := holds_at h
  have f6 := holds_frozen h 6
  have e1 : bits .and .i64 (wrap64 (g.ct + 1)) 3 = (g.ct + 1) % 4 := by rw [and3]; unfold wrap64; omega
  go_enter Try.func16, Try.ntmps16
  go_wp2_with fail
  go_end0
  obtain ⟨h1, h2⟩ := holds_set (g' := { g with ct := (g.ct + 1) % 4 }) h 6 (.int .i64 ((g.ct + 1) % 4)) rfl
  exact ⟨rfl, h1, h2⟩

theorem calm_ok (b : Nat) (g : Gt) (w : World) (h : Holds w b g) :
    Calls Try.prog 29 #[.pointer (some ⟨b, 0, none⟩)] w fun e w' => e = .returned (.tuple #[]) ∧ Holds w' b { g with wa := false, ag := false } ∧ w.grownBy w' (some b) := by
  obtain ⟨_, c0, c1, c2, c3, c4, c5, c6⟩ := holds_at h
  have f4 := holds_frozen h 4
  obtain ⟨h1, g1⟩ := holds_set (g' := { g with wa := false }) h 4 (.bool false) rfl
  obtain ⟨W1, hW1⟩ : ∃ W1, W1 = w.setCell ⟨b, 4, none⟩ (.bool false) := ⟨_, rfl⟩
  rw [← hW1] at h1 g1
  have d5 := (holds_at h1).c5
  have f5 := holds_frozen h1 5
  obtain ⟨h2, g2⟩ := holds_set (g' := { g with wa := false, ag := false }) h1 5 (.bool false) rfl
  have hW1' := hW1.symm
  clear hW1
  go_enter Try.func29, Try.ntmps29
  go_wp2_with fail
  go_end0
  exact ⟨rfl, h2, grownBy_trans g1 g2⟩

/-- the order that frees a gate -/
theorem order_free (b : Nat) (g : Gt) (a : Option Addr) (c : Nat) (w : World) (h : Holds w b g) (hr : Rd w a 1 c (vb [0])) :
    Calls Try.prog 15 #[.pointer (some ⟨b, 0, none⟩), .slice a 1 c] w fun e w' => e = .returned (.int .i64 0) ∧ Holds w' b { g with sh := false, wa := false, ag := false, ct := (g.ct + 1) % 4 } ∧ w.grownBy w' (some b) := by
  obtain ⟨_, c0, c1, c2, c3, c4, c5, c6⟩ := holds_at h
  have f3 := holds_frozen h 3
  obtain ⟨ab, ao, rfl, _, hc⟩ := hr.cell 0 (by decide)
  have hc : w.cell? ⟨ab, ao, none⟩ = some (.int .u8 0) := hc
  obtain ⟨h1, g1⟩ := holds_set (g' := { g with sh := false }) h 3 (.bool false) rfl
  obtain ⟨W1, hW1⟩ : ∃ W1, W1 = w.setCell ⟨b, 3, none⟩ (.bool false) := ⟨_, rfl⟩
  rw [← hW1] at h1 g1
  have hW1' := hW1.symm
  clear hW1
  go_enter Try.func15, Try.ntmps15
  go_wp2_with fail
  refine (calm_ok b _ _ h1).mono ?_
  rintro e w2 ⟨rfl, h2, g2⟩
  clear hW1'
  go_wp2_with fail
  refine (counted_ok b _ _ h2).mono ?_
  rintro e w3 ⟨rfl, h3, g3⟩
  go_wp2_with fail
  go_ret
  exact ⟨rfl, h3, grownBy_trans (grownBy_trans g1 g2) g3⟩

/-- what numbered does to a gate -/
def numG (g : Gt) (sq : Int) (room : Bool) : Gt × Bool × Int :=
  if g.sh then (g, false, 15)
  else if (sq - g.nx) % 256 = 0 then
    if room then ({ g with nx := (g.nx + 1) % 256, wa := false, ag := false }, true, 0) else ({ g with wa := true, ag := true }, false, 12)
  else if (sq - g.nx) % 256 < g.hf then ({ g with ag := true }, false, 7)
  else if 256 - (sq - g.nx) % 256 ≤ g.hf then (g, false, 13)
  else ({ g with sh := true }, false, 15)

theorem numbered_ok (b : Nat) (g : Gt) (sq : Int) (room : Bool) (w : World) (h : Holds w b g) (hg : g.ok) (hs : 0 ≤ sq ∧ sq ≤ 255) :
    Calls Try.prog 17 #[.pointer (some ⟨b, 0, none⟩), .int .i64 sq, .bool room] w fun e w' => e = .returned (.tuple #[.bool (numG g sq room).2.1, .int .i64 (numG g sq room).2.2]) ∧ Holds w' b (numG g sq room).1 ∧ w.grownBy w' (some b) := by
  obtain ⟨_, c0, c1, c2, c3, c4, c5, c6⟩ := holds_at h
  obtain ⟨k1, k2, k3, k4⟩ := hg
  have e1 : bits .and .i64 (sq - g.nx) 255 = (sq - g.nx) % 256 := and255 _
  have hn : numG g sq room = if g.sh then (g, false, 15)
  else if (sq - g.nx) % 256 = 0 then
    if room then ({ g with nx := (g.nx + 1) % 256, wa := false, ag := false }, true, 0) else ({ g with wa := true, ag := true }, false, 12)
  else if (sq - g.nx) % 256 < g.hf then ({ g with ag := true }, false, 7)
  else if 256 - (sq - g.nx) % 256 ≤ g.hf then (g, false, 13)
  else ({ g with sh := true }, false, 15) := rfl
  have hd0 : 0 ≤ (sq - g.nx) % 256 := Int.emod_nonneg _ (by decide)
  have hd1 : (sq - g.nx) % 256 < 256 := Int.emod_lt_of_pos _ (by decide)
  generalize hN : numG g sq room = N at *
  clear hN
  generalize hd : (sq - g.nx) % 256 = d at *
  clear hd
  by_cases s1 : g.sh = true
  · rw [if_pos s1] at hn
    have Hn := hid hn; clear hn
    rw [s1] at c3
    go_enter Try.func17, Try.ntmps17
    go_wp2_with fail
    go_ret2
    rw [Hn.out]
    exact ⟨rfl, h, World.grownBy.refl _ _⟩
  · rw [if_neg s1] at hn
    have s1' : g.sh = false := by simpa using s1
    rw [s1'] at c3
    clear s1
    by_cases s2 : d = 0
    · subst s2
      rw [if_pos rfl] at hn
      cases room with
      | true =>
        rw [if_pos rfl] at hn
        have Hn := hid hn; clear hn
        have e2 : bits .and .i64 (wrap64 (g.nx + 1)) 255 = (g.nx + 1) % 256 := by rw [and255]; unfold wrap64; omega
        have e3 : g.nx + 1 = wrap64 (g.nx + 1) := by unfold wrap64; omega
        have e2' : bits .and .i64 (g.nx + 1) 255 = (g.nx + 1) % 256 := and255 _
        clear e3
        have f1 := holds_frozen h 1
        obtain ⟨h1, g1⟩ := holds_set (g' := { g with nx := (g.nx + 1) % 256 }) h 1 (.int .i64 ((g.nx + 1) % 256)) rfl
        obtain ⟨W1, hW1⟩ : ∃ W1, W1 = w.setCell ⟨b, 1, none⟩ (.int .i64 ((g.nx + 1) % 256)) := ⟨_, rfl⟩
        rw [← hW1] at h1 g1
        have hW1' := hW1.symm
        clear hW1
        go_enter Try.func17, Try.ntmps17
        go_wp2_with fail
        refine (calm_ok b _ _ h1).mono ?_
        rintro e w2 ⟨rfl, h2, g2⟩
        clear hW1'
        go_wp2_with fail
        go_ret2
        rw [Hn.out]
        exact ⟨rfl, h2, grownBy_trans g1 g2⟩
      | false =>
        rw [if_neg (by simp)] at hn
        have Hn := hid hn; clear hn
        have f4 := holds_frozen h 4
        obtain ⟨h1, g1⟩ := holds_set (g' := { g with wa := true }) h 4 (.bool true) rfl
        obtain ⟨W1, hW1⟩ : ∃ W1, W1 = w.setCell ⟨b, 4, none⟩ (.bool true) := ⟨_, rfl⟩
        rw [← hW1] at h1 g1
        have d5 := (holds_at h1).c5
        have f5 := holds_frozen h1 5
        obtain ⟨h2, g2⟩ := holds_set (g' := { g with wa := true, ag := true }) h1 5 (.bool true) rfl
        have hW1' := hW1.symm
        clear hW1
        go_enter Try.func17, Try.ntmps17
        go_wp2_with fail
        go_ret2
        rw [Hn.out]
        exact ⟨rfl, h2, grownBy_trans g1 g2⟩
    · rw [if_neg s2] at hn
      have s2' : (d == 0) = false := by simpa using s2
      by_cases s3 : d < g.hf
      · rw [if_pos s3] at hn
        have Hn := hid hn; clear hn
        have f5 := holds_frozen h 5
        obtain ⟨h2, g2⟩ := holds_set (g' := { g with ag := true }) h 5 (.bool true) rfl
        go_enter Try.func17, Try.ntmps17
        go_wp2_with fail
        go_ret2
        rw [Hn.out]
        exact ⟨rfl, h2, g2⟩
      · rw [if_neg s3] at hn
        by_cases s4 : 256 - d ≤ g.hf
        · rw [if_pos s4] at hn
          have Hn := hid hn; clear hn
          go_enter Try.func17, Try.ntmps17
          go_wp2_with fail
          go_ret2
          rw [Hn.out]
          exact ⟨rfl, h, World.grownBy.refl _ _⟩
        · rw [if_neg s4] at hn
          have Hn := hid hn; clear hn
          have f3 := holds_frozen h 3
          obtain ⟨h2, g2⟩ := holds_set (g' := { g with sh := true }) h 3 (.bool true) rfl
          go_enter Try.func17, Try.ntmps17
          go_wp2_with fail
          go_ret2
          rw [Hn.out]
          exact ⟨rfl, h2, g2⟩
end Go.Proofs.Ytkngoomkmbkenaa
