/- PacketBack: packets are read, encoded, put behind each other. -/
import Derived.Test.YtbclokglkcbmkaaPlain
import Derived.Deep.DeepCutAuto
namespace Go.Proofs.Ytbclokglkcbmkaa
set_option linter.unusedVariables false
open Go.RowKit

theorem Try.info29 : (Try.prog.info? 29).map (fun i => (i.zero, i.size, i.bytes)) = some (some (.agg #[.bool false, .bool false, .int .i64 0, .int .i64 0, .int .i64 0, .slice none 0 0]), 6, 56) := by kernel_rfl

/-- a packet as it came in -/
structure Raw where
  up : Bool
  se : Bool
  ap : Int
  pt : Int
  ct : Int
  a : Option Addr
  n : Nat
  c : Nat
  ds : List Nat
def Raw.cells (p : Raw) : List Value := [.bool p.up, .bool p.se, .int .i64 p.ap, .int .i64 p.pt, .int .i64 p.ct, .slice p.a p.n p.c]

/-- a row of packets that came in -/
structure RdPk (w : World) (ao : Option Addr) (n cap : Nat) (it : Nat → Raw) : Prop where
  le : n ≤ cap
  max : cap ≤ maxLen
  mem : 0 < n → ∃ b off, ao = some ⟨b, off, none⟩ ∧ b < w.heap.size ∧ ∀ j, j < n → ∀ k v, (it j).cells[k]? = some v → w.cell? ⟨b, off + j * 6 + k, none⟩ = some v
  each : ∀ j, j < n → Rd w (it j).a (it j).n (it j).c (vb (it j).ds) ∧ AllB (it j).ds

/-- a packet that may be encoded -/
structure Pk where
  up : Bool
  se : Bool
  ap : Nat
  pt : Nat
  ct : Nat
  a : Option Addr
  n : Nat
  c : Nat
  ds : List Nat
def Pk.cells (p : Pk) : List Value := [.bool p.up, .bool p.se, .int .i64 p.ap, .int .i64 p.pt, .int .i64 p.ct, .slice p.a p.n p.c]
def Pk.enc (p : Pk) : List Nat := encB p.up p.se p.ap p.pt p.ct p.ds
def Pk.ok (w : World) (p : Pk) : Prop := Rd w p.a p.n p.c (vb p.ds) ∧ AllB p.ds ∧ p.ap ≤ 2047 ∧ p.pt ≤ 3 ∧ p.ct ≤ 16383 ∧ 0 < p.n ∧ p.n ≤ 65536 ∧ p.ds.length = p.n
theorem Pk.enc_len (p : Pk) : p.enc.length = 6 + p.ds.length := Go.Proofs.Ytbclokglkcbmkaa.enc_len _ _ _ _ _ _
def encs (G : List Pk) : List Nat := G.flatMap Pk.enc
def cells (G : List Pk) : List Value := G.flatMap Pk.cells
theorem encs_snoc (G : List Pk) (p : Pk) : encs (G ++ [p]) = encs G ++ p.enc := by simp [encs]
theorem cells_snoc (G : List Pk) (p : Pk) : cells (G ++ [p]) = cells G ++ p.cells := by simp [cells]
theorem cells_len (G : List Pk) : (cells G).length = G.length * 6 := by
  induction G with
  | nil => rfl
  | cons p G ih => simp only [cells, List.flatMap_cons, List.length_append, List.length_cons] at ih ⊢; rw [ih]; simp [Pk.cells]; omega
theorem cells_at (G : List Pk) (j : Nat) (h : j < G.length) (k : Nat) (hk : k < 6) : (cells G)[j * 6 + k]? = (G[j]).cells[k]? := by
  induction G generalizing j with
  | nil => simp at h
  | cons p G ih =>
    have hl : p.cells.length = 6 := rfl
    simp only [cells, List.flatMap_cons]
    cases j with
    | zero => rw [List.getElem?_append_left (by omega)]; simp
    | succ j =>
      rw [List.getElem?_append_right (by omega), hl, show (j + 1) * 6 + k - 6 = j * 6 + k by omega]
      exact (ih j (by simpa using h)).trans (by simp)

theorem own_apart {w : World} {b b' e e' s s' n n' : Nat} {v v' : Value} {xs xs' : List Value} (h : w.ownsRow b e s v n xs) (h' : w.ownsRow b' e' s' v' n' xs') (he : e ≠ e') : v.ownBlock = none ∨ v.ownBlock ≠ v'.ownBlock := by
  rcases h.2 with ⟨rfl, _⟩ | ⟨g, cap, cur, rfl, _, hg, _⟩
  · exact .inl rfl
  · rcases h'.2 with ⟨rfl, _⟩ | ⟨g', cap', cur', rfl, _, hg', _⟩
    · exact .inr (by simp [Value.ownBlock])
    · refine .inr ?_
      simp only [Value.ownBlock, ne_eq, Option.some.injEq]
      rintro rfl
      rw [hg] at hg'
      cases hg'
      exact he rfl

theorem may_zero {ap pt ct : Int} {n : Nat} (h : mayCode ap pt ct n = 0) : 0 ≤ ap ∧ ap ≤ 2047 ∧ 0 ≤ pt ∧ pt ≤ 3 ∧ 0 ≤ ct ∧ ct ≤ 16383 ∧ 0 < n ∧ n ≤ 65536 := by
  unfold mayCode at h
  split at h
  · rename_i h1
    split at h
    · omega
    · omega
  · omega
end Go.Proofs.Ytbclokglkcbmkaa
