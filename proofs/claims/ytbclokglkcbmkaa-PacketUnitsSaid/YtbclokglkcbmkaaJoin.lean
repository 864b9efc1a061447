/- Join and what it calls: the walks. -/
import Derived.Test.YtbclokglkcbmkaaCatTwo
import Derived.Test.YtbclokglkcbmkaaMay
import Derived.Test.YtbclokglkcbmkaaRegionT
namespace Go.Proofs.Ytbclokglkcbmkaa
set_option linter.unusedVariables false
open Go.RowKit

theorem and_mask (z : Int) (k : Nat) (hk : k ≤ 62) : bits .and .i64 z ((2 ^ k - 1 : Nat) : Int) = z % (2 ^ k : Int) := by
  have h2 : (2 : Nat) ^ k ≤ 2 ^ 62 := Nat.pow_le_pow_right (by decide) hk
  have hp := Nat.two_pow_pos k
  show IntKind.i64.wrap ((BitVec.ofInt 64 z &&& BitVec.ofInt 64 ((2 ^ k - 1 : Nat) : Int)).toNat : Int) = _
  have hm : (2 ^ k - 1) % 2 ^ 64 = 2 ^ k - 1 := Nat.mod_eq_of_lt (by omega)
  rw [BitVec.toNat_and, BitVec.ofInt_natCast, BitVec.toNat_ofNat, hm, Nat.and_two_pow_sub_one_eq_mod, BitVec.toNat_ofInt]
  have hd : (2 ^ k : Int) ∣ (2 ^ 64 : Int) := by
    have : (2 : Int) ^ 64 = 2 ^ k * 2 ^ (64 - k) := by rw [← Int.pow_add]; congr 1; omega
    rw [this]; exact Int.dvd_mul_right _ _
  have e1 : (((z % ((2 ^ 64 : Nat) : Int)).toNat % 2 ^ k : Nat) : Int) = z % (2 ^ k : Int) := by
    have h0 : 0 ≤ z % ((2 ^ 64 : Nat) : Int) := Int.emod_nonneg _ (by decide)
    rw [Int.natCast_emod, Int.toNat_of_nonneg h0]
    have e2 : ((2 ^ 64 : Nat) : Int) = (2 : Int) ^ 64 := by decide
    have e3 : ((2 ^ k : Nat) : Int) = (2 : Int) ^ k := by simp
    rw [e2, e3, Int.emod_emod_of_dvd _ hd]
  rw [e1]
  have e3 : ((2 ^ k : Nat) : Int) = (2 : Int) ^ k := by simp
  have hb := Int.emod_nonneg z (b := (2 : Int) ^ k) (by omega)
  have hl := Int.emod_lt_of_pos z (b := (2 : Int) ^ k) (by omega)
  exact IntWalk.i64_in _ (by omega)
theorem and16383 (z : Int) : bits .and .i64 z 16383 = z % 16384 := and_mask z 14 (by decide)

theorem frozen_row {W : World} {b : Nat} {cs : Array Value} {e : TypeId} (h : W.heap[b]? = some (.cells cs e)) (i : Nat) : W.frozen? ⟨b, i, none⟩ = false := by simp [World.frozen?, show W.heap[b]? = _ from h]
theorem row_below {W W' : World} {b : Nat} {o : Obj} (h : W.heap[b]? = some o) (hb : Below W.heap.size W W') : W'.heap[b]? = some o := (hb.block b (Array.getElem?_eq_some_iff.1 h).1).trans h
theorem row_grown {W W' : World} {b k : Nat} {o : Obj} (h : W.heap[b]? = some o) (hg : W.grownBy W' (some k)) (hne : b ≠ k) : W'.heap[b]? = some o := (hg.block b (Array.getElem?_eq_some_iff.1 h).1 (fun e => hne (by cases e; rfl))).trans h
theorem row_lt {W : World} {b : Nat} {o : Obj} (h : W.heap[b]? = some o) : b < W.heap.size := (Array.getElem?_eq_some_iff.1 h).1
theorem grown1 (W : World) (b i : Nat) (v : Value) : W.grownBy (W.setCell ⟨b, i, none⟩ v) (some b) :=
  ⟨rfl, rfl, rfl, by simp, fun k hk hne => heap_setCell_other W ⟨b, i, none⟩ k v (fun e => hne (by rw [e]))⟩
/-- one cell of a row is stored to -/
theorem set_row {W : World} {b : Nat} {cs cs' : Array Value} {e : TypeId} (A : W.heap[b]? = some (.cells cs e)) (i : Nat) (v : Value) (h : cs.setIfInBounds i v = cs') : (W.setCell ⟨b, i, none⟩ v).heap[b]? = some (.cells cs' e) ∧ W.grownBy (W.setCell ⟨b, i, none⟩ v) (some b) :=
  ⟨(heap_setCell_same W b i _ e v A).trans (by rw [h]), grown1 W b i v⟩

/-- an own row lies in no block of another type -/
theorem own_ne {w : World} {base e size n : Nat} {v : Value} {xs : List Value} (h : w.ownsRow base e size v n xs) {b T : Nat} {cs : Array Value} (A : w.heap[b]? = some (.cells cs T)) (hT : e ≠ T) : v.ownBlock = none ∨ v.ownBlock ≠ some b := by
  rcases h.2 with ⟨rfl, _⟩ | ⟨g, cap, cur, rfl, _, hg, _⟩
  · exact .inl rfl
  · refine .inr ?_
    simp only [Value.ownBlock, ne_eq, Option.some.injEq]
    intro he
    subst he
    rw [A] at hg
    injection hg with h1
    injection h1 with h2 h3
    exact hT h3.symm
/-- four cells are written over, one by one -/
theorem four {W : World} {b : Nat} {e : TypeId} {o0 o1 o2 o3 : Value} (A : W.heap[b]? = some (.cells #[o0, o1, o2, o3] e)) (v0 v1 v2 v3 : Value) :
    ((((W.setCell ⟨b, 0, none⟩ v0).setCell ⟨b, 1, none⟩ v1).setCell ⟨b, 2, none⟩ v2).setCell ⟨b, 3, none⟩ v3).heap[b]? = some (.cells #[v0, v1, v2, v3] e) ∧
      W.grownBy ((((W.setCell ⟨b, 0, none⟩ v0).setCell ⟨b, 1, none⟩ v1).setCell ⟨b, 2, none⟩ v2).setCell ⟨b, 3, none⟩ v3) (some b) := by
  obtain ⟨h0, g0⟩ := set_row (cs' := #[v0, o1, o2, o3]) A 0 v0 rfl
  obtain ⟨h1, g1⟩ := set_row (cs' := #[v0, v1, o2, o3]) h0 1 v1 rfl
  obtain ⟨h2, g2⟩ := set_row (cs' := #[v0, v1, v2, o3]) h1 2 v2 rfl
  obtain ⟨h3, g3⟩ := set_row (cs' := #[v0, v1, v2, v3]) h2 3 v3 rfl
  exact ⟨h3, grownBy_trans (grownBy_trans (grownBy_trans g0 g1) g2) g3⟩

/-- a joiner's cells -/
def jc (ap nx : Int) (op : Bool) (u : Value) (ls : Bool) : Array Value := #[.int .i64 ap, .int .i64 nx, .bool op, u, .bool ls]
structure JAt (W : World) (b : Nat) (ap nx : Int) (op : Bool) (u : Value) (ls : Bool) : Prop where
  c0 : W.cell? ⟨b, 0, none⟩ = some (.int .i64 ap)
  c1 : W.cell? ⟨b, 1, none⟩ = some (.int .i64 nx)
  c2 : W.cell? ⟨b, 2, none⟩ = some (.bool op)
  c3 : W.cell? ⟨b, 3, none⟩ = some u
  c4 : W.cell? ⟨b, 4, none⟩ = some (.bool ls)
theorem jAt {W : World} {b : Nat} {ap nx : Int} {op : Bool} {u : Value} {ls : Bool} {e : TypeId} (A : W.heap[b]? = some (.cells (jc ap nx op u ls) e)) : JAt W b ap nx op u ls :=
  ⟨by rw [cell_of_row _ _ _ _ _ _ A]; rfl, by rw [cell_of_row _ _ _ _ _ _ A]; rfl, by rw [cell_of_row _ _ _ _ _ _ A]; rfl, by rw [cell_of_row _ _ _ _ _ _ A]; rfl, by rw [cell_of_row _ _ _ _ _ _ A]; rfl⟩

theorem begin_ok (ap : Int) (w : World) (h : 0 ≤ ap ∧ ap < 2047) :
    Calls Try.prog 8 #[.int .i64 ap] w fun e w' => e = .returned (.tuple #[.agg #[.int .i64 ap, .int .i64 (-1), .bool false, .slice none 0 0], .int .i64 0]) ∧ Below w.heap.size w w' := by
  have h1 : decide (ap < 0) = false := by simp; omega
  have h2 : decide (2047 ≤ ap) = false := by simp; omega
  have A := heap_alloc_new w (.cells #[.int .i64 ap, .int .i64 (-1), .bool false, .slice none 0 0] 37)
  have B := below_alloc w (.cells #[.int .i64 ap, .int .i64 (-1), .bool false, .slice none 0 0] 37)
  go_enter Try.func8, Try.ntmps8
  go_wp2_with fail
  generalize w.alloc (.cells #[.int .i64 ap, .int .i64 (-1), .bool false, .slice none 0 0] 37) = W at *
  have g0 : W.cell? ⟨w.heap.size, 0, none⟩ = some (.int .i64 ap) := by rw [cell_of_row _ _ _ _ _ _ A]; rfl
  have g1 : W.cell? ⟨w.heap.size, 1, none⟩ = some (.int .i64 (-1)) := by rw [cell_of_row _ _ _ _ _ _ A]; rfl
  have g2 : W.cell? ⟨w.heap.size, 2, none⟩ = some (.bool false) := by rw [cell_of_row _ _ _ _ _ _ A]; rfl
  have g3 : W.cell? ⟨w.heap.size, 3, none⟩ = some (.slice none 0 0) := by rw [cell_of_row _ _ _ _ _ _ A]; rfl
  refine bodyPost_ret (by simp only [results, Try.results8, go_sem]; simp [go_sem, g0, g1, g2, g3]; rfl) rfl ?_
  exact ⟨rfl, B⟩

theorem drop_ok (b : Nat) (ap nx : Int) (op : Bool) (u : Value) (ls : Bool) (w : World) (A : w.heap[b]? = some (.cells (jc ap nx op u ls) 57)) :
    Calls Try.prog 17 #[.pointer (some ⟨b, 0, none⟩)] w fun e w' => e = .returned (.tuple #[]) ∧ w'.heap[b]? = some (.cells (jc ap nx false (.slice none 0 0) (ls || op)) 57) ∧ w.grownBy w' (some b) := by
  obtain ⟨c0, c1, c2, c3, c4⟩ := jAt A
  have fz := frozen_row A
  obtain ⟨A1, g1⟩ := set_row (cs' := jc ap nx op u (ls || op)) A 4 (.bool (ls || op)) rfl
  obtain ⟨A2, g2⟩ := set_row (cs' := jc ap nx false u (ls || op)) A1 2 (.bool false) rfl
  obtain ⟨A3, g3⟩ := set_row (cs' := jc ap nx false (.slice none 0 0) (ls || op)) A2 3 (.slice none 0 0) rfl
  have A3 := hid A3
  have g := hid (grownBy_trans (grownBy_trans g1 g2) g3)
  clear A1 A2 g1 g2 g3
  cases ls with
  | true =>
    go_enter Try.func17, Try.ntmps17
    go_wp2_with fail
    go_end0
    exact ⟨rfl, A3.out, g.out⟩
  | false =>
    go_enter Try.func17, Try.ntmps17
    go_wp2_with fail
    go_end0
    exact ⟨rfl, A3.out, g.out⟩

set_option maxHeartbeats 1000000 in
theorem add_ok (b : Nat) (ap nx : Int) (op ls : Bool) (ua da : Option Addr) (un uc dn dc : Nat) (us ds : List Nat) (w : World) (A : w.heap[b]? = some (.cells (jc ap nx op (.slice ua un uc) ls) 57)) (hu : Rd w ua un uc (vb us)) (hd : Rd w da dn dc (vb ds)) (hn : un + dn ≤ 1048576) :
    Calls Try.prog 18 #[.pointer (some ⟨b, 0, none⟩), .slice da dn dc] w fun e w' => ∃ ao c, e = .returned (.tuple #[]) ∧ w'.heap[b]? = some (.cells (jc ap nx true (.slice ao (un + dn) c) ls) 57) ∧ w'.ownsRow w.heap.size 5 1 (.slice ao (un + dn) c) (un + dn) (vb (us ++ ds)) ∧ w.grownBy w' (some b) := by
  obtain ⟨c0, c1, c2, c3, c4⟩ := jAt A
  have fz := frozen_row A
  go_enter Try.func18, Try.ntmps18
  go_wp2_with fail
  have bx := below_alloc w (.cells #[.slice ua un uc, .slice da dn dc] 23)
  have hG : ∀ j u, [Value.slice ua un uc, .slice da dn dc][j]? = some u → (w.alloc (.cells #[.slice ua un uc, .slice da dn dc] 23)).cell? ((⟨w.heap.size, 0, none⟩ : Addr).add j) = some u := by
    intro j u hj
    rw [Addr.add_lit, World.cell?_alloc_at _ _ _ _ rfl, Nat.zero_add]
    simpa using hj
  refine (cat_two ua da un uc dn dc us ds w.heap.size _ (hu.below bx) (hd.below bx) hG (by simp) (by omega)).mono ?_
  rintro e V ⟨ao, c, rfl, oo, bV⟩
  have BV := bx.trans (bV.mono bx.size)
  have A := row_below A BV
  have oo := ownsRow_mono oo (base' := w.heap.size) (by simp)
  clear bx hG bV c0 c1 c2 c3 c4 fz
  obtain ⟨c0, c1, c2, c3, c4⟩ := jAt A
  have fz := frozen_row A
  obtain ⟨A1, g1⟩ := set_row (cs' := jc ap nx op (.slice ao (un + dn) c) ls) A 3 (.slice ao (un + dn) c) rfl
  obtain ⟨A2, g2⟩ := set_row (cs' := jc ap nx true (.slice ao (un + dn) c) ls) A1 2 (.bool true) rfl
  have A2 := hid A2
  have hb : b < w.heap.size := by
    have h1 := row_lt ‹w.heap[b]? = _›
    exact h1
  have g := grownBy_trans (grownBy_of_below BV (some b)) (grownBy_trans g1 g2)
  have o2 := oo.kept (grownBy_trans g1 g2) (by
    obtain ⟨_, _, _, _, h1⟩ := own_slice oo
    rcases h : (Value.slice ao (un + dn) c).ownBlock with _ | k
    · exact .inl rfl
    · exact .inr (by intro he; have := h1 k h; cases he; omega))
  have g := hid g
  have o2 := hid o2
  clear g1 g2 A1
  have hle : ¬ ((1048576 : Int) < (un : Int) + (dn : Int)) := by omega
  go_wp2_with fail
  go_end0
  exact ⟨ao, c, rfl, A2.out, o2.out, g.out⟩
end Go.Proofs.Ytbclokglkcbmkaa
