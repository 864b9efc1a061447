/- What the frame hands over, opened: a row of structs, or of rows. -/
import Derived.Test.YtkgnelmnadnbhaaOpen
namespace Go.Proofs.Ytkgnelmnadnbhaa
open Go.ChangeShapes Go.WideShapes Go.ChangeAt Go.RowKit
set_option linter.unusedVariables false

/-- a row whose elements have c cells each: f j is what the j-th reads as, cs j are its cells -/
structure RdRow {α : Type} (c : Nat) (w : World) (ao : Option Addr) (n cap : Nat) (want : List Value → α → Prop) (cs : Nat → List Value) (f : Nat → α) : Prop where
  le : n ≤ cap
  max : cap ≤ maxLen
  mem : 0 < n → ∃ b off, ao = some ⟨b, off, none⟩ ∧ b < w.heap.size ∧ ∀ j, j < n → ∀ k v, (cs j)[k]? = some v → w.cell? ⟨b, off + j * c + k, none⟩ = some v
  each : ∀ j, j < n → (cs j).length = c ∧ want (cs j) (f j)

theorem opened_row {H : Type} {α : Type} [Inhabited α] {P : Program} {enc : TypeId × Value → H} {w : World} {t e : TypeId} {d : DataW H} {p : List MemPlace} {a : Option Addr} {len cap : Nat} {c : Nat}
    (want : List Value → α → Prop) (ht : P.underlying t = some (.slice e)) (hc : P.cellsOf e = c) (hc0 : 0 < c)
    (one : ∀ cs fuel x, DataW.trod enc P w 0 (fun _ => true) true fuel e cs = some x → ∃ a, want cs a)
    (h : DataW.Trod enc P w 0 (fun _ => true) true t (.slice a len cap) d p) :
    ∃ cs f, RdRow c w a len cap want cs f ∧ (len = 0 ∨ ∃ es sp, d = .slice es sp ∧ es.length = len) := by
  obtain ⟨fuel, hf⟩ := h
  rcases Go.Deep.open_slice ht hf with ⟨hcs, _⟩ | ⟨x, l, k, m, n, D, Pl, hcs, _, hl, hm, hmm, hd, hx⟩
  · simp [Value.cells] at hcs
    obtain ⟨rfl, rfl, rfl⟩ := hcs
    exact ⟨fun _ => [], fun _ => default, ⟨Nat.le_refl _, Nat.zero_le _, fun h => absurd h (by omega), fun j hj => absurd hj (by omega)⟩, .inl rfl⟩
  · simp [Value.cells] at hcs
    obtain ⟨rfl, rfl, rfl⟩ := hcs
    have hm' : m = cap := by simpa using hmm
    subst hm'
    have each : ∀ j, j < m → ∃ y : List Value × α, w.cells? 0 (x.add (j * c)) c = some y.1 ∧ y.1.length = c ∧ want y.1 y.2 := by
      intro j hj
      obtain ⟨cs, hcs, htr⟩ := hx j hj
      rw [hc] at hcs
      obtain ⟨v, hv⟩ := one cs _ _ htr
      exact ⟨(cs, v), hcs, (World.cells?_some hcs).2.1, hv⟩
    obtain ⟨g, hg⟩ := Go.Deep.choose_lt each
    refine ⟨fun j => (g j).1, fun j => (g j).2, ⟨hl, hm, fun hn => ?_, fun j hj => (hg j (by omega)).2⟩, .inr ⟨_, _, (Prod.mk.inj hd).1, by simp⟩⟩
    have e0 := World.cells?_some (hg 0 (by omega)).1
    have e00 := e0.2.2 0 hc0
    rw [Nat.zero_mul] at e00
    have hpos : 0 < ((g 0).1).length := by rw [(hg 0 (by omega)).2.1]; exact hc0
    have e01 : w.cell? (x.add 0) = some ((g 0).1)[0] := by
      rw [← List.getElem?_eq_getElem hpos, ← e00]
      congr 1
    obtain ⟨b, off, rfl, hlt⟩ := spot_of_cell e01
    refine ⟨b, off, rfl, hlt, fun j hj k v hv => ?_⟩
    have hk : k < c := by
      have := (List.getElem?_eq_some_iff.1 hv).1
      rwa [(hg j (by omega)).2.1] at this
    have := (World.cells?_some (hg j (by omega)).1).2.2 k hk
    rw [Addr.add_lit, Addr.add_lit] at this
    exact this.trans hv

/-- a row of bytes inside another thing -/
theorem inner_bytes {H : Type} {P : Program} {enc : TypeId × Value → H} {w : World} {t e : TypeId} {x : DataW H × List MemPlace} {fuel : Nat} {cs : List Value}
    (ht : P.underlying t = some (.slice e)) (he : P.underlying e = some (.int .u8)) (hc : P.cellsOf e = 1) (h : DataW.trod enc P w 0 (fun _ => true) true fuel t cs = some x) :
    ∃ a len cap bs, cs = [.slice a len cap] ∧ Rd w a len cap (vb bs) ∧ AllB bs := by
  rcases open_ints ht he hc h with ⟨hcs, _⟩ | ⟨x, l, c, zs, hcs, _, hl, hm, hz, hd, hcell, hwz⟩
  · obtain ⟨bs, hr, hb⟩ := rd_of_row (w := w) (a := none) (len := 0) (cap := 0) (zs := []) (.inl ⟨rfl, rfl, rfl, rfl⟩)
    exact ⟨none, 0, 0, bs, hcs, hr, hb⟩
  · have hz' : zs.length = c := by simpa using hz
    obtain ⟨bs, hr, hb⟩ := rd_of_row (w := w) (a := some x) (len := l) (cap := c) (zs := zs) (.inr ⟨_, rfl, hl, hm, hz', hcell, hwz⟩)
    exact ⟨some x, l, c, bs, hcs, hr, hb⟩

/-- a row of rows of bytes -/
def isBytes (w : World) (cs : List Value) (b : (Option Addr × Nat × Nat) × List Nat) : Prop :=
  cs = [.slice b.1.1 b.1.2.1 b.1.2.2] ∧ Rd w b.1.1 b.1.2.1 b.1.2.2 (vb b.2) ∧ AllB b.2

theorem one_bytes {H : Type} {P : Program} {enc : TypeId × Value → H} {w : World} {t e : TypeId} {x : DataW H × List MemPlace} {fuel : Nat} {cs : List Value}
    (ht : P.underlying t = some (.slice e)) (he : P.underlying e = some (.int .u8)) (hc : P.cellsOf e = 1) (h : DataW.trod enc P w 0 (fun _ => true) true fuel t cs = some x) :
    ∃ b, isBytes w cs b := by
  obtain ⟨a, len, cap, bs, h1, h2, h3⟩ := inner_bytes ht he hc h
  exact ⟨((a, len, cap), bs), h1, h2, h3⟩
end Go.Proofs.Ytkgnelmnadnbhaa
