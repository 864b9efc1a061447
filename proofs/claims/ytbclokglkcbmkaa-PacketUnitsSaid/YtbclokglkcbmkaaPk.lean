/- Packets in a row: their cells. -/
import Derived.Test.YtbclokglkcbmkaaChunk
namespace Go.Proofs.Ytbclokglkcbmkaa
set_option linter.unusedVariables false
open Go.RowKit

/-- a packet that was cut -/
structure Pc where
  up : Bool
  ap : Nat
  pt : Nat
  ct : Nat
  a : Option Addr
  n : Nat
  c : Nat
  ds : List Nat
def Pc.cells (p : Pc) : List Value := [.bool p.up, .bool false, .int .i64 p.ap, .int .i64 p.pt, .int .i64 p.ct, .slice p.a p.n p.c]
def pcs (G : List Pc) : List Value := G.flatMap Pc.cells
theorem pcs_snoc (G : List Pc) (p : Pc) : pcs (G ++ [p]) = pcs G ++ p.cells := by simp [pcs]
theorem pcs_cons (G : List Pc) (p : Pc) : pcs (p :: G) = p.cells ++ pcs G := by simp [pcs]
theorem pcs_len (G : List Pc) : (pcs G).length = G.length * 6 := by
  induction G with
  | nil => rfl
  | cons p G ih => rw [pcs_cons, List.length_append, ih, List.length_cons]; simp [Pc.cells]; omega
theorem pcs_at (G : List Pc) (j : Nat) (h : j < G.length) (k : Nat) (hk : k < 6) : (pcs G)[j * 6 + k]? = (G[j]).cells[k]? := by
  induction G generalizing j with
  | nil => simp at h
  | cons p G ih =>
    have hl : p.cells.length = 6 := rfl
    rw [pcs_cons]
    cases j with
    | zero => rw [List.getElem?_append_left (by omega)]; simp
    | succ j =>
      rw [List.getElem?_append_right (by omega), hl, show (j + 1) * 6 + k - 6 = j * 6 + k by omega, ih j (by simpa using h)]
      simp
theorem pcs_part (G : List Pc) (j : Nat) (h : j < G.length) (x : Nat) : (pcs G).set (j * 6 + 3) (.int .i64 (x : Int)) = pcs (G.modify j fun p => { p with pt := x }) := by
  induction G generalizing j with
  | nil => simp at h
  | cons p G ih =>
    have hl : p.cells.length = 6 := rfl
    rw [pcs_cons]
    cases j with
    | zero =>
      rw [List.set_append_left _ _ (by omega)]
      simp [pcs_cons, Pc.cells]
    | succ j =>
      rw [List.set_append_right _ _ (by omega), hl, show (j + 1) * 6 + 3 - 6 = j * 6 + 3 by omega, ih j (by simpa using h)]
      simp [pcs_cons]

theorem ownsRow_keeps {w w' : World} {base e size n : Nat} {v : Value} {xs : List Value} {row : Option Nat} (h : w.ownsRow base e size v n xs) (hg : w.grownBy w' row) (hr : ∀ r, row = some r → ∃ o : Obj, w.heap[r]? = some o ∧ o.isCells = false) : w'.ownsRow base e size v n xs := by
  refine ⟨h.1, ?_⟩
  rcases h.2 with hn | ⟨g, cap, cur, rfl, hB, hgg, rest⟩
  · exact .inl hn
  · exact .inr ⟨g, cap, cur, rfl, hB, (grownBy_keeps_cells hg hr hgg rfl).trans hgg, rest⟩

/-- the packets of the pieces pre of u -/
structure Gs (W : World) (B : Nat) (u : List Nat) (m : Nat) (up : Bool) (ap c0 : Nat) (ptf : Nat → Nat) (pre : List Nat) (G : List Pc) : Prop where
  len : G.length = pre.length
  each : ∀ k (h : k < G.length), (G[k]).up = up ∧ (G[k]).ap = ap ∧ (G[k]).pt = ptf k ∧ (G[k]).ct = (c0 + k) % 16384 ∧ (∃ x, pre[k]? = some x ∧ (G[k]).ds = piece u m x) ∧ (G[k]).ds.length = (G[k]).n
  mem : ∀ p ∈ G, W.ownsRow B 5 1 (.slice p.a p.n p.c) p.n (vb p.ds)
theorem Gs.to {W W' : World} {B : Nat} {u : List Nat} {m : Nat} {up : Bool} {ap c0 : Nat} {ptf : Nat → Nat} {pre : List Nat} {G : List Pc} (h : Gs W B u m up ap c0 ptf pre G)
    (hk : ∀ (p : Pc), W.ownsRow B 5 1 (.slice p.a p.n p.c) p.n (vb p.ds) → W'.ownsRow B 5 1 (.slice p.a p.n p.c) p.n (vb p.ds)) : Gs W' B u m up ap c0 ptf pre G :=
  ⟨h.len, h.each, fun p hp => hk p (h.mem p hp)⟩
theorem Gs.snoc {W : World} {B : Nat} {u : List Nat} {m : Nat} {up : Bool} {ap c0 : Nat} {ptf : Nat → Nat} {pre : List Nat} {G : List Pc} (h : Gs W B u m up ap c0 ptf pre G) (x : Nat) (a : Option Addr) (n c : Nat) (hp : ptf pre.length = 0) (hn : (piece u m x).length = n)
    (ho : W.ownsRow B 5 1 (.slice a n c) n (vb (piece u m x))) : Gs W B u m up ap c0 ptf (pre ++ [x]) (G ++ [⟨up, ap, 0, (c0 + pre.length) % 16384, a, n, c, piece u m x⟩]) := by
  refine ⟨by simp [h.len], fun k hk => ?_, fun p hp => ?_⟩
  · by_cases hk2 : k < G.length
    · rw [List.getElem_append_left hk2]
      obtain ⟨h1, h2, h3, h4, ⟨y, hy, h5⟩, h6⟩ := h.each k hk2
      exact ⟨h1, h2, h3, h4, ⟨y, by rw [List.getElem?_append_left (by rw [← h.len]; exact hk2)]; exact hy, h5⟩, h6⟩
    · have hkl : k = G.length := by simp at hk; omega
      subst hkl
      rw [List.getElem_append_right (Nat.le_refl _)]
      simp only [Nat.sub_self, List.getElem_cons_zero]
      refine ⟨trivial, trivial, by rw [h.len, hp], by rw [h.len], ⟨x, ?_, rfl⟩, hn⟩
      rw [h.len, List.getElem?_append_right (Nat.le_refl _)]; simp
  · rcases List.mem_append.1 hp with h1 | h1
    · exact h.mem p h1
    · simp at h1; subst h1; exact ho

/-- a piece of what reads, with no room behind it -/
theorem Rd.piece {w : World} {b off len cap m k : Nat} {u : List Nat} (h : Rd w (some ⟨b, off, none⟩) len cap (vb u)) (hk : k * m < len) : Rd w (some ⟨b, off + k * m, none⟩) (pl len m k) (pl len m k) (vb (piece u m k)) ∧ (Go.Proofs.Ytbclokglkcbmkaa.piece u m k).length = pl len m k := by
  have hl := h.len
  rw [vb_len] at hl
  have hpl : (Go.Proofs.Ytbclokglkcbmkaa.piece u m k).length = pl len m k := by unfold Go.Proofs.Ytbclokglkcbmkaa.piece pl; rw [List.length_take, List.length_drop, hl]
  have hle : pl len m k ≤ len - k * m := Nat.min_le_right _ _
  have hmx := h.max
  have hcp := h.le
  refine ⟨⟨by rw [vb_len, hpl], Nat.le_refl _, by omega, (fun h => by cases h), fun hm => ?_⟩, hpl⟩
  obtain ⟨b', off', ha, hlt, hc⟩ := h.mem (by omega)
  cases ha
  refine ⟨b, off + k * m, rfl, hlt, fun j hj => ?_⟩
  have h1 := hc (k * m + j) (by omega)
  rw [← Nat.add_assoc] at h1
  rw [h1]
  unfold Go.Proofs.Ytbclokglkcbmkaa.piece vb
  rw [List.getElem?_map, List.getElem?_map, List.getElem?_take, if_pos (by unfold pl at hj; omega), List.getElem?_drop]
end Go.Proofs.Ytbclokglkcbmkaa
