/- Blocks of cells: read, written, kept. (packet/NJoin and command/NAccept hold older copies of some of these.) -/
import Derived.Test.YtfbchmihkndfaaaSl
namespace Go.Proofs.Ytfbchmihkndfaaa
set_option linter.unusedVariables false
open Go.RowKit

theorem frozen_row {W : World} {b : Nat} {cs : Array Value} {e : TypeId} (h : W.heap[b]? = some (.cells cs e)) (i : Nat) : W.frozen? ⟨b, i, none⟩ = false := by simp [World.frozen?, show W.heap[b]? = _ from h]
theorem row_below {W W' : World} {b : Nat} {o : Obj} (h : W.heap[b]? = some o) (hb : Below W.heap.size W W') : W'.heap[b]? = some o := (hb.block b (Array.getElem?_eq_some_iff.1 h).1).trans h
theorem row_grown {W W' : World} {b k : Nat} {o : Obj} (h : W.heap[b]? = some o) (hg : W.grownBy W' (some k)) (hne : b ≠ k) : W'.heap[b]? = some o := (hg.block b (Array.getElem?_eq_some_iff.1 h).1 (fun e => hne (by cases e; rfl))).trans h
theorem row_lt {W : World} {b : Nat} {o : Obj} (h : W.heap[b]? = some o) : b < W.heap.size := (Array.getElem?_eq_some_iff.1 h).1
theorem grown1 (W : World) (b i : Nat) (v : Value) : W.grownBy (W.setCell ⟨b, i, none⟩ v) (some b) :=
  ⟨rfl, rfl, rfl, by simp, fun k hk hne => heap_setCell_other W ⟨b, i, none⟩ k v (fun e => hne (by rw [e]))⟩
/-- one cell of a row is stored to -/
theorem set_row {W : World} {b : Nat} {cs cs' : Array Value} {e : TypeId} (A : W.heap[b]? = some (.cells cs e)) (i : Nat) (v : Value) (h : cs.setIfInBounds i v = cs') : (W.setCell ⟨b, i, none⟩ v).heap[b]? = some (.cells cs' e) ∧ W.grownBy (W.setCell ⟨b, i, none⟩ v) (some b) :=
  ⟨(heap_setCell_same W b i _ e v A).trans (by rw [h]), grown1 W b i v⟩
/-- an own row lies in no block of another type -/
theorem own_ne {w : World} {base e size n : Nat} {v : Value} {xs : List Value} (h : w.ownsRow base e size v n xs) {b T : Nat} {cs : Array Value} (A : w.heap[b]? = some (.cells cs T)) (hT : e ≠ T) : v.ownBlock = none ∨ v.ownBlock ≠ some b := by
  rcases h.2 with ⟨rfl, _⟩ | ⟨g, cap, cur, rfl, _, hg, _⟩
  · exact .inl rfl
  · refine .inr ?_
    simp only [Value.ownBlock, ne_eq, Option.some.injEq]
    intro he
    subst he
    rw [A] at hg
    injection hg with h1
    injection h1 with h2 h3
    exact hT h3.symm
/-- a block of another type is kept when a row grows -/
theorem row_kept {W W' : World} {base e size n b : Nat} {v : Value} {xs : List Value} {cs : Array Value} {T : TypeId} (A : W.heap[b]? = some (.cells cs T)) (h : W.ownsRow base e size v n xs) (hg : W.grownBy W' v.ownBlock) (hT : e ≠ T) : W'.heap[b]? = some (.cells cs T) := by
  refine (hg.block b (row_lt A) (fun he => ?_)).trans A
  rcases own_ne h A hT with h1 | h1
  · rw [h1] at he; cases he
  · exact h1 he.symm
/-- a block below where the row begins is kept when the row grows -/
theorem row_kept_lo {W W' : World} {base e size n b : Nat} {v : Value} {xs : List Value} {o : Obj} (A : W.heap[b]? = some o) (h : W.ownsRow base e size v n xs) (hg : W.grownBy W' v.ownBlock) (hT : b < base) : W'.heap[b]? = some o := by
  refine (hg.block b (row_lt A) (fun he => ?_)).trans A
  have := (h.lt b he.symm).1
  omega
theorem row_drew {W : World} {b : Nat} {o : Obj} (h : W.heap[b]? = some o) : W.drew.heap[b]? = some o := h
/-- an own slice that is not empty lies in a block -/
theorem own_addr {w : World} {B e s n : Nat} {a : Option Addr} {c : Nat} {xs : List Value} (h : w.ownsRow B e s (.slice a n c) n xs) (hn : 0 < n) : ∃ g, a = some ⟨g, 0, none⟩ := by
  obtain ⟨_, ⟨h1, h2⟩ | ⟨g, cap, cur, h1, _⟩⟩ := h
  · omega
  · cases h1; exact ⟨g, rfl⟩
/-- two blocks may be turned, the others stay -/
structure Kept2 (W W' : World) (a b : Nat) : Prop where
  os : W'.os = W.os
  tape : W'.tape = W.tape
  output : W'.output = W.output
  size : W.heap.size ≤ W'.heap.size
  block : ∀ k, k < W.heap.size → k ≠ a → k ≠ b → W'.heap[k]? = W.heap[k]?
theorem Kept2.refl (W : World) (a b : Nat) : Kept2 W W a b := ⟨rfl, rfl, rfl, Nat.le_refl _, fun _ _ _ _ => rfl⟩
theorem Kept2.trans {W W' W'' : World} {a b : Nat} (h : Kept2 W W' a b) (k : Kept2 W' W'' a b) : Kept2 W W'' a b :=
  ⟨k.os.trans h.os, k.tape.trans h.tape, k.output.trans h.output, Nat.le_trans h.size k.size, fun i hi ha hb => (k.block i (Nat.lt_of_lt_of_le hi h.size) ha hb).trans (h.block i hi ha hb)⟩
theorem Kept2.left {W W' : World} {a b : Nat} (h : W.grownBy W' (some a)) : Kept2 W W' a b := ⟨h.os, h.tape, h.output, h.size, fun k hk ha _ => h.block k hk (fun e => ha (by cases e; rfl))⟩
theorem Kept2.right {W W' : World} {a b : Nat} (h : W.grownBy W' (some b)) : Kept2 W W' a b := ⟨h.os, h.tape, h.output, h.size, fun k hk _ hb => h.block k hk (fun e => hb (by cases e; rfl))⟩
theorem Kept2.ofBelow {W W' : World} {a b : Nat} (h : Below W.heap.size W W') : Kept2 W W' a b := ⟨h.os, h.tape, h.output, h.size, fun k hk _ _ => h.block k hk⟩
theorem Kept2.row {W W' : World} {a b k : Nat} {o : Obj} (h : Kept2 W W' a b) (hr : W.heap[k]? = some o) (ha : k ≠ a) (hb : k ≠ b) : W'.heap[k]? = some o := (h.block k (row_lt hr) ha hb).trans hr
theorem Kept2.below {W W' : World} {a b B : Nat} (h : Kept2 W W' a b) (ha : B ≤ a) (hb : B ≤ b) (hB : B ≤ W.heap.size) : Below B W W' := ⟨h.os, h.tape, h.output, h.size, fun k hk => h.block k (by omega) (by omega) (by omega)⟩
theorem Kept2.own {W W' : World} {a b : Nat} {base e size n : Nat} {v : Value} {xs : List Value} (h : Kept2 W W' a b) (ho : W.ownsRow base e size v n xs) (ha : v.ownBlock ≠ some a) (hb : v.ownBlock ≠ some b) : W'.ownsRow base e size v n xs := by
  refine ⟨ho.1, ho.2.imp id ?_⟩
  rintro ⟨g, cap, cur, hv, hg, hr, hrest⟩
  refine ⟨g, cap, cur, hv, hg, h.row hr (fun e => ha ?_) (fun e => hb ?_), hrest⟩
  · rw [hv, e]; rfl
  · rw [hv, e]; rfl
end Go.Proofs.Ytfbchmihkndfaaa
