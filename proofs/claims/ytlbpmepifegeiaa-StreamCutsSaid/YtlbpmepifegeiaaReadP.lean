/- Stream: what read makes; frames that were found. -/
import Derived.Test.YtlbpmepifegeiaaBytes
namespace Go.Proofs.Ytlbpmepifegeiaa
set_option linter.unusedVariables false
open Go.RowKit

/-- all blocks but some are kept -/
structure KeptP (S : Nat → Prop) (W W' : World) : Prop where
  os : W'.os = W.os
  tape : W'.tape = W.tape
  output : W'.output = W.output
  size : W.heap.size ≤ W'.heap.size
  block : ∀ k, k < W.heap.size → ¬ S k → W'.heap[k]? = W.heap[k]?
theorem KeptP.refl (S : Nat → Prop) (W : World) : KeptP S W W := ⟨rfl, rfl, rfl, Nat.le_refl _, fun _ _ _ => rfl⟩
theorem KeptP.trans {S S' : Nat → Prop} {A B C : World} (h : KeptP S A B) (k : KeptP S' B C) (hs : ∀ i, i < A.heap.size → S' i → S i) : KeptP S A C :=
  ⟨k.os.trans h.os, k.tape.trans h.tape, k.output.trans h.output, Nat.le_trans h.size k.size, fun i hi hn => (k.block i (Nat.lt_of_lt_of_le hi h.size) (fun h' => hn (hs i hi h'))).trans (h.block i hi hn)⟩
theorem KeptP.below {S : Nat → Prop} {A B : World} (h : Below A.heap.size A B) : KeptP S A B := ⟨h.os, h.tape, h.output, h.size, fun k hk _ => h.block k hk⟩
theorem KeptP.grown {S : Nat → Prop} {A B : World} {row : Option Nat} (h : A.grownBy B row) (hr : ∀ r, row = some r → S r) : KeptP S A B := ⟨h.os, h.tape, h.output, h.size, fun k hk hn => h.block k hk (fun e => hn (hr k e.symm))⟩
theorem KeptP.mono {S S' : Nat → Prop} {A B : World} (h : KeptP S A B) (hs : ∀ i, i < A.heap.size → S i → S' i) : KeptP S' A B := ⟨h.os, h.tape, h.output, h.size, fun k hk hn => h.block k hk (fun h' => hn (hs k hk h'))⟩
theorem KeptP.row {S : Nat → Prop} {A B : World} (h : KeptP S A B) {k : Nat} {o : Obj} (hr : A.heap[k]? = some o) (hn : ¬ S k) : B.heap[k]? = some o := (h.block k (row_lt hr) hn).trans hr
theorem KeptP.own {S : Nat → Prop} {A B : World} (h : KeptP S A B) {base e size n : Nat} {v : Value} {xs : List Value} (ho : A.ownsRow base e size v n xs) (hn : ∀ k, v.ownBlock = some k → ¬ S k) : B.ownsRow base e size v n xs := by
  refine ⟨ho.1, ho.2.imp id ?_⟩
  rintro ⟨g, cap, cur, hv, hg, hr, hrest⟩
  exact ⟨g, cap, cur, hv, hg, h.row hr (hn g (by rw [hv]; rfl)), hrest⟩
theorem KeptP.toBelow {S : Nat → Prop} {A B : World} {n : Nat} (h : KeptP S A B) (hn : n ≤ A.heap.size) (hs : ∀ k, k < n → ¬ S k) : Below n A B := ⟨h.os, h.tape, h.output, h.size, fun k hk => h.block k (by omega) (hs k hk)⟩

/-- a frame that was found, as it lies -/
structure Fd where
  pos : Nat
  tu : Bool
  mi : Nat
  da : Option Addr
  dn : Nat
  dc : Nat
  ds : List Nat
def Fd.cells (f : Fd) : List Value := [.int .i64 (f.pos : Int), .bool f.tu, .int .i64 (f.mi : Int), .slice f.da f.dn f.dc]
def fcs (F : List Fd) : List Value := F.flatMap Fd.cells
theorem fcs_snoc (F : List Fd) (f : Fd) : fcs (F ++ [f]) = fcs F ++ f.cells := by simp [fcs]
/-- its bytes lie in a row -/
def Fd.In (f : Fd) (W : World) (B0 : Nat) : Prop := W.ownsRow B0 5 1 (.slice f.da f.dn f.dc) f.dn (vb f.ds) ∧ AllB f.ds

/-- bits are turned round -/
def flipTo (l : List Nat) : Nat → List Nat
  | 0 => l
  | k + 1 => (flipTo l k).set k (nth l k ^^^ 1)
theorem flipTo_len (l : List Nat) (k : Nat) : (flipTo l k).length = l.length := by
  induction k with
  | zero => rfl
  | succ k ih => rw [flipTo, List.length_set, ih]
theorem flipTo_nth (l : List Nat) (k j : Nat) (hk : k ≤ l.length) : nth (flipTo l k) j = if j < k then nth l j ^^^ 1 else nth l j := by
  induction k with
  | zero => rw [if_neg (by omega)]; rfl
  | succ k ih =>
    rw [flipTo, nth_set _ _ _ _ (by rw [flipTo_len]; omega), ih (by omega)]
    by_cases h : j = k
    · subst h; rw [if_pos rfl, if_pos (by omega)]
    · rw [if_neg h]
      by_cases h2 : j < k
      · rw [if_pos h2, if_pos (by omega)]
      · rw [if_neg h2, if_neg (by omega)]
def flipB (t : Bool) (l : List Nat) : List Nat := if t then flipTo l l.length else l
theorem flipB_len (t : Bool) (l : List Nat) : (flipB t l).length = l.length := by unfold flipB; split <;> simp [flipTo_len]
theorem flipB_1 (t : Bool) {l : List Nat} (h : All1 l) : All1 (flipB t l) := by
  unfold flipB
  split
  · intro x hx
    obtain ⟨i, hi, rfl⟩ := List.getElem_of_mem hx
    rw [← nth_get hi]
    rw [flipTo_len] at hi
    rw [flipTo_nth _ _ _ (Nat.le_refl _), if_pos hi]
    exact Nat.xor_lt_two_pow (n := 1) (h.nth i) (by decide)
  · exact h
/-- what a frame's bits say -/
def frD (L : Nat) (B : List Nat) (pos : Nat) (t : Bool) : List Nat := Scr (bytesOf (flipB t ((B.drop (pos + 32)).take (8 * L))))
end Go.Proofs.Ytlbpmepifegeiaa
