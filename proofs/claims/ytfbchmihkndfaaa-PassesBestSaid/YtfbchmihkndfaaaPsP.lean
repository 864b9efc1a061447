/- Passes: how passes lie in memory; the closure that compares. -/
import Derived.Test.YtfbchmihkndfaaaLenP
import Derived.Test.YtfbchmihkndfaaaPickP
import Derived.Test.YtfbchmihkndfaaaOwnAt
import Derived.Test.YtfbchmihkndfaaaRegion
import Derived.Deep.DeepCutAuto
namespace Go.Proofs.Ytfbchmihkndfaaa
set_option linter.unusedVariables false
open Go.RowKit

/-- a pass -/
structure Ps where
  st : Nat
  fr : Nat
  tt : Nat
  wo : Nat
instance : Inhabited Ps := ⟨⟨0, 0, 1, 0⟩⟩
def pAt (l : List Ps) (i : Nat) : Ps := l.getD i default
def pc (p : Ps) : List Value := [.int .i64 (p.st : Int), .int .i64 (p.fr : Int), .int .i64 (p.tt : Int), .int .i64 (p.wo : Int)]
structure Ps.Good (p : Ps) : Prop where
  s : p.st ≤ 31
  f : p.fr + 1 ≤ p.tt
  t : p.tt ≤ 1000
  w : p.wo ≤ 1000
def GoodPs (l : List Ps) : Prop := ∀ i, i < l.length → (pAt l i).Good
/-- a row of passes at the head of a block, or nil -/
structure RdPs (w : World) (la : Option Addr) (n cap : Nat) (l : List Ps) : Prop where
  len : l.length = n
  le : n ≤ cap
  max : cap ≤ maxLen
  mem : 0 < n → ∃ b, la = some ⟨b, 0, none⟩ ∧ b < w.heap.size ∧ (∃ cs, w.heap[b]? = some (.cells cs 41)) ∧ ∀ j, j < n → w.cell? ⟨b, j * 4, none⟩ = some (.int .i64 ((pAt l j).st : Int)) ∧ w.cell? ⟨b, j * 4 + 1, none⟩ = some (.int .i64 ((pAt l j).fr : Int)) ∧ w.cell? ⟨b, j * 4 + 2, none⟩ = some (.int .i64 ((pAt l j).tt : Int)) ∧ w.cell? ⟨b, j * 4 + 3, none⟩ = some (.int .i64 ((pAt l j).wo : Int))
theorem RdPs.kept {w w' : World} {la : Option Addr} {n cap : Nat} {l : List Ps} {row : Option Nat} (h : RdPs w la n cap l) (hg : w.grownBy w' row) (hne : ∀ b cs, w.heap[b]? = some (.cells cs 41) → row ≠ some b) : RdPs w' la n cap l :=
  ⟨h.len, h.le, h.max, fun hn => by
    obtain ⟨b, h1, h2, ⟨cs, h3⟩, h4⟩ := h.mem hn
    have hb := hg.block b h2 (fun e => hne b cs h3 e.symm)
    refine ⟨b, h1, Nat.lt_of_lt_of_le h2 hg.size, ⟨cs, hb.trans h3⟩, fun j hj => ?_⟩
    have e : ∀ o, w'.cell? ⟨b, o, none⟩ = w.cell? ⟨b, o, none⟩ := fun o => by
      unfold World.cell?
      simp only
      rw [hb]
    rw [e, e, e, e]
    exact h4 j hj⟩
theorem RdPs.below {w w' : World} {la : Option Addr} {n cap : Nat} {l : List Ps} (h : RdPs w la n cap l) (hb : Below w.heap.size w w') : RdPs w' la n cap l :=
  h.kept (row := none) ⟨hb.os, hb.tape, hb.output, hb.size, fun k hk _ => hb.block k hk⟩ (fun _ _ _ h => by cases h)
theorem RdPs.at_ {w : World} {la : Option Addr} {n cap : Nat} {l : List Ps} (h : RdPs w la n cap l) (j : Nat) (hj : j < n) : ∃ b, la = some ⟨b, 0, none⟩ ∧ b < w.heap.size ∧ w.cell? ⟨b, j * 4, none⟩ = some (.int .i64 ((pAt l j).st : Int)) ∧ w.cell? ⟨b, j * 4 + 1, none⟩ = some (.int .i64 ((pAt l j).fr : Int)) ∧ w.cell? ⟨b, j * 4 + 2, none⟩ = some (.int .i64 ((pAt l j).tt : Int)) ∧ w.cell? ⟨b, j * 4 + 3, none⟩ = some (.int .i64 ((pAt l j).wo : Int)) := by
  obtain ⟨b, h1, h2, _, h4⟩ := h.mem (by omega)
  exact ⟨b, h1, h2, h4 j hj⟩
/-- only block k is turned -/
abbrev Gb (k : Nat) (w w' : World) : Prop := w.grownBy w' (some k)
theorem Gb.refl (k : Nat) (w : World) : Gb k w w := World.grownBy.refl _ _
theorem Gb.below {k : Nat} {w w' : World} (h : Below w.heap.size w w') : Gb k w w' := ⟨h.os, h.tape, h.output, h.size, fun j hj _ => h.block j hj⟩
theorem Gb.row {k b : Nat} {w w' : World} {o : Obj} (h : Gb k w w') (hr : w.heap[b]? = some o) (hne : b ≠ k) : w'.heap[b]? = some o := row_grown hr h hne

set_option maxRecDepth 100000 in
set_option maxHeartbeats 1000000 in
theorem cl_ok (X n cap x y : Nat) (la : Option Addr) (l : List Ps) (hg : GoodPs l) (hx : x < n) (hy : y < n) (hn : n ≤ 9) (w : World) (hX : w.heap[X]? = some (.cells #[.slice la n cap] 39)) (hr : RdPs w la n cap l) :
    Calls Try.prog 16 #[.int .i64 (x : Int), .int .i64 (y : Int), .pointer (some ⟨X, 0, none⟩)] w fun e w' => e = .returned (.int .i64 (((pAt l y).fr : Int) - ((pAt l x).fr : Int))) ∧ Below w.heap.size w w' := by
  obtain ⟨b, rfl, hb, x0, x1, x2, x3⟩ := hr.at_ x hx
  obtain ⟨b2, hb2, _, y0, y1, y2, y3⟩ := hr.at_ y hy
  cases hb2
  have gx := hg x (by rw [hr.len]; exact hx)
  have gy := hg y (by rw [hr.len]; exact hy)
  have gx1 := gx.f
  have gx2 := gx.t
  have gy1 := gy.f
  have gy2 := gy.t
  have hd : ∀ w', Below w.heap.size w.drew w' → Below w.heap.size w w' := fun w' h => (Below.refl _ w).drew.trans h
  have e0 : ∀ w', Below w.heap.size w.drew w' → w'.cell? ⟨X, 0, none⟩ = some (.slice (some ⟨b, 0, none⟩) n cap) := fun w' h => by rw [cell_of_row _ _ _ _ _ _ (row_below hX (hd w' h))]; rfl
  have e1 : ∀ w', Below w.heap.size w.drew w' → w'.cell? ⟨b, x * 4 + 1, none⟩ = some (.int .i64 ((pAt l x).fr : Int)) := fun w' h => ((hd w' h).cell (p := ⟨b, x * 4 + 1, none⟩) hb).trans x1
  have e2 : ∀ w', Below w.heap.size w.drew w' → w'.cell? ⟨b, y * 4 + 1, none⟩ = some (.int .i64 ((pAt l y).fr : Int)) := fun w' h => ((hd w' h).cell (p := ⟨b, y * 4 + 1, none⟩) hb).trans y1
  have hdr := hid ((Below.refl w.heap.size w).drew)
  clear x0 x1 x2 x3 y0 y1 y2 y3 hd hr hX hg gx gy
  generalize (pAt l x).fr = fx at *
  generalize (pAt l y).fr = fy at *
  have hwr : IntKind.i64.wrap ((fy : Int) - (fx : Int)) = (fy : Int) - (fx : Int) := IntWalk.i64_in _ (by omega)
  go_enter Try.func16, Try.ntmps16
  go_wp2_with fail
  refine wp_region_can_all [] [0, 1, 2, 3, 4, 5, 6, 7, 8, 9, 10, 11] (Below w.heap.size) (fun _ => Below.refl _ _) (fun _ _ _ h k => h.trans k) (by kernel_rfl) (by kernel_rfl) ?_
  simp only [List.map_cons, List.map_nil, List.contains_nil, List.getD_cons_zero, List.getD_cons_succ]
  generalize w.drew = U at *
  repeat (refine wpL_do rfl (fun w' hw' => (by go_simp; rfl)) ?_; simp only [Act.put, List.setIfInBounds_toArray, List.set_cons_succ, List.set_cons_zero])
  refine wpL_nil ?_
  clear e0 e1 e2 hwr
  go_wp2_with fail
  go_ret
  exact ⟨rfl, hdr.out⟩
end Go.Proofs.Ytfbchmihkndfaaa
