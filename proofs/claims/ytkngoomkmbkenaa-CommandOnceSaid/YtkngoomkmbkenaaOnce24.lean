/- What the frame hands over, opened: slices of bytes, of ints, of pairs of ints. -/
import Derived.Test.YtkngoomkmbkenaaOnce2
import Derived.ChangeSlices
import Derived.ChangeArms
import Derived.Deep.Slices
import Derived.Deep.Strs
import Derived.ProofKit
import Derived.ChangeOld
import Derived.Below
import Derived.Test.YtkngoomkmbkenaaOnce23
namespace Go.Proofs.Ytkngoomkmbkenaa
open Go.ChangeShapes Go.WideShapes Go.ChangeAt Go.RowKit
set_option linter.unusedVariables false

theorem spot_of_cell {w : World} {x : Addr} {v : Value} (h : w.cell? (x.add 0) = some v) : ∃ b off, x = ⟨b, off, none⟩ ∧ b < w.heap.size := by
  have hspot := World.cell?_spot h
  obtain ⟨b, off, spot⟩ := x
  have hsp : spot = none := by
    cases spot with
    | none => rfl
    | some s => simp [Addr.add] at hspot
  subst hsp
  refine ⟨b, off, rfl, ?_⟩
  rw [Addr.add_lit] at h
  exact World.block_lt_of_cell? w _ h

/-- a slice of ints of a kind, that the frame opened -/
theorem opened_ints {H : Type} {P : Program} {enc : TypeId × Value → H} {w : World} {t e : TypeId} {k : IntKind} {d : DataW H} {p : List MemPlace} {a : Option Addr} {len cap : Nat}
    (ht : P.underlying t = some (.slice e)) (he : P.underlying e = some (.int k)) (hc : P.cellsOf e = 1) (h : DataW.Trod enc P w 0 (fun _ => true) true t (.slice a len cap) d p) :
    ∃ zs : List Int, ((a = none ∧ len = 0 ∧ cap = 0 ∧ zs = []) ∨ ∃ x, a = some x ∧ len ≤ cap ∧ cap ≤ maxLen ∧ zs.length = cap ∧ (∀ i, i < zs.length → w.cell? (x.add i) = some (.int k (zs.getD i 0))) ∧ ∀ n ∈ zs, (Lit.int k n).wf = true) ∧
      (len = 0 ∨ ∃ es sp, d = .slice es sp ∧ es.length = len) := by
  obtain ⟨fuel, hf⟩ := h
  rcases open_ints ht he hc hf with ⟨hcs, _⟩ | ⟨x, l, c, zs, hcs, _, hl, hm, hz, hd, hcell, hwz⟩
  · simp [Value.cells] at hcs
    obtain ⟨rfl, rfl, rfl⟩ := hcs
    exact ⟨[], .inl ⟨rfl, rfl, rfl, rfl⟩, .inl rfl⟩
  · simp [Value.cells] at hcs
    obtain ⟨rfl, rfl, rfl⟩ := hcs
    have hz' : zs.length = cap := by simpa using hz
    refine ⟨zs, .inr ⟨_, rfl, hl, hm, hz', hcell, hwz⟩, .inr ⟨_, _, (Prod.mk.inj hd).1, ?_⟩⟩
    simp [lits]
    omega

/-- bytes -/
theorem opened_bytes {H : Type} {P : Program} {enc : TypeId × Value → H} {w : World} {t e : TypeId} {d : DataW H} {p : List MemPlace} {a : Option Addr} {len cap : Nat}
    (ht : P.underlying t = some (.slice e)) (he : P.underlying e = some (.int .u8)) (hc : P.cellsOf e = 1) (h : DataW.Trod enc P w 0 (fun _ => true) true t (.slice a len cap) d p) :
    ∃ bs, Rd w a len cap (vb bs) ∧ AllB bs ∧ (len = 0 ∨ ∃ es sp, d = .slice es sp ∧ es.length = len) := by
  obtain ⟨zs, h1, h2⟩ := opened_ints ht he hc h
  obtain ⟨bs, hr, hb⟩ := rd_of_row h1
  exact ⟨bs, hr, hb, h2⟩

/-- pairs of ints -/
theorem opened_pairs {H : Type} {P : Program} {enc : TypeId × Value → H} {w : World} {t e i : TypeId} {f0 f1 : Field} {d : DataW H} {p : List MemPlace} {a : Option Addr} {len cap : Nat}
    (ht : P.underlying t = some (.slice e)) (he : P.underlying e = some (.struct #[f0, f1])) (hi : P.underlying i = some (.int .i64)) (h0 : f0.type = i) (h1 : f1.type = i) (o0 : f0.offset = 0) (o1 : f1.offset = 1)
    (hc : P.cellsOf e = 2) (hci : P.cellsOf i = 1) (h : DataW.Trod enc P w 0 (fun _ => true) true t (.slice a len cap) d p) :
    ∃ ts : Nat → Int × Int, len ≤ cap ∧ cap ≤ maxLen ∧ (0 < len → ∃ b off, a = some ⟨b, off, none⟩ ∧ b < w.heap.size ∧ ∀ j, j < len → w.cell? ⟨b, off + j * 2, none⟩ = some (.int .i64 (ts j).1) ∧ w.cell? ⟨b, off + j * 2 + 1, none⟩ = some (.int .i64 (ts j).2)) ∧
      (∀ j, j < len → -9223372036854775808 ≤ (ts j).1 ∧ (ts j).1 ≤ 9223372036854775807 ∧ -9223372036854775808 ≤ (ts j).2 ∧ (ts j).2 ≤ 9223372036854775807) ∧
      (len = 0 ∨ ∃ es sp, d = .slice es sp ∧ es.length = len) := by
  obtain ⟨fuel, hf⟩ := h
  rcases Go.Deep.open_slice ht hf with ⟨hcs, _⟩ | ⟨x, l, c, m, n, D, Pl, hcs, _, hl, hm, hmm, hd, hx⟩
  · simp [Value.cells] at hcs
    obtain ⟨rfl, rfl, rfl⟩ := hcs
    exact ⟨fun _ => (0, 0), Nat.le_refl _, Nat.zero_le _, fun h => absurd h (by omega), fun j hj => absurd hj (by omega), .inl rfl⟩
  · simp [Value.cells] at hcs
    obtain ⟨rfl, rfl, rfl⟩ := hcs
    have hm' : m = cap := by simpa using hmm
    subst hm'
    have each : ∀ j, j < m → ∃ t : Int × Int, w.cell? (x.add (j * 2)) = some (.int .i64 t.1) ∧ w.cell? (x.add (j * 2 + 1)) = some (.int .i64 t.2) ∧ (Lit.int .i64 t.1).wf = true ∧ (Lit.int .i64 t.2).wf = true := by
      intro j hj
      obtain ⟨cs, hcs, htr⟩ := hx j hj
      rw [hc] at hcs
      obtain ⟨_, hlen, hget⟩ := World.cells?_some hcs
      obtain ⟨y0, y1, n', _, _, e0, e1⟩ := trod_struct2 he htr
      rw [h0, hci, o0] at e0
      rw [h1, hci, o1] at e1
      obtain ⟨z0, hz0, _, hw0⟩ := DataW.trod_int hi e0
      obtain ⟨z1, hz1, _, hw1⟩ := DataW.trod_int hi e1
      match cs, hlen with
      | [c0, c1], _ =>
        simp at hz0 hz1
        subst hz0 hz1
        have g0 := hget 0 (by omega)
        have g1 := hget 1 (by omega)
        simp [Addr.add] at g0 g1
        exact ⟨(z0, z1), by simpa [Addr.add] using g0, by
          rcases Nat.eq_zero_or_pos j with h | h
          · subst h; simpa [Addr.add] using g1
          · simpa [Addr.add, Nat.add_assoc, show ¬ (j * 2 = 0) by omega] using g1, hw0, hw1⟩
    let ts : Nat → Int × Int := fun j => if h : j < m then (each j h).choose else (0, 0)
    have hts : ∀ j, j < m → w.cell? (x.add (j * 2)) = some (.int .i64 (ts j).1) ∧ w.cell? (x.add (j * 2 + 1)) = some (.int .i64 (ts j).2) ∧ (Lit.int .i64 (ts j).1).wf = true ∧ (Lit.int .i64 (ts j).2).wf = true := by
      intro j hj
      show w.cell? (x.add (j * 2)) = some (.int .i64 (if h : j < m then (each j h).choose else (0, 0)).1) ∧ _
      have : ts j = (each j hj).choose := by simp only [ts, dif_pos hj]
      simp only [dif_pos hj]
      rw [this]
      exact (each j hj).choose_spec
    refine ⟨ts, hl, hm, fun hn => ?_, fun j hj => ?_, .inr ⟨_, _, (Prod.mk.inj hd).1, by simp⟩⟩
    · obtain ⟨b, off, rfl, hlt⟩ := spot_of_cell (by simpa using (hts 0 (by omega)).1)
      refine ⟨b, off, rfl, hlt, fun j hj => ?_⟩
      have := hts j (by omega)
      rw [Addr.add_lit, Addr.add_lit] at this
      exact ⟨this.1, by simpa [Nat.add_assoc] using this.2.1⟩
    · have := hts j (by omega)
      have w0 := this.2.2.1
      have w1 := this.2.2.2
      exact ⟨(bounds_i64 w0).1, (bounds_i64 w0).2, (bounds_i64 w1).1, (bounds_i64 w1).2⟩
end Go.Proofs.Ytkngoomkmbkenaa
/- What the frame hands over, opened: a row of structs, or of rows. -/
namespace Go.Proofs.Ytkngoomkmbkenaa
open Go.ChangeShapes Go.WideShapes Go.ChangeAt Go.RowKit
set_option linter.unusedVariables false

/-- a row whose elements have c cells each: f j is what the j-th reads as, cs j are its cells -/
structure RdRow {α : Type} (c : Nat) (w : World) (ao : Option Addr) (n cap : Nat) (want : List Value → α → Prop) (cs : Nat → List Value) (f : Nat → α) : Prop where
  le : n ≤ cap
  max : cap ≤ maxLen
  mem : 0 < n → ∃ b off, ao = some ⟨b, off, none⟩ ∧ b < w.heap.size ∧ ∀ j, j < n → ∀ k v, (cs j)[k]? = some v → w.cell? ⟨b, off + j * c + k, none⟩ = some v
  each : ∀ j, j < n → (cs j).length = c ∧ want (cs j) (f j)

theorem opened_row {H : Type} {α : Type} [Inhabited α] {P : Program} {enc : TypeId × Value → H} {w : World} {t e : TypeId} {d : DataW H} {p : List MemPlace} {a : Option Addr} {len cap : Nat} {c : Nat}
    (want : List Value → α → Prop) (ht : P.underlying t = some (.slice e)) (hc : P.cellsOf e = c) (hc0 : 0 < c)
    (one : ∀ cs fuel x, DataW.trod enc P w 0 (fun _ => true) true fuel e cs = some x → ∃ a, want cs a)
    (h : DataW.Trod enc P w 0 (fun _ => true) true t (.slice a len cap) d p) :
    ∃ cs f, RdRow c w a len cap want cs f ∧ (len = 0 ∨ ∃ es sp, d = .slice es sp ∧ es.length = len) := by
  obtain ⟨fuel, hf⟩ := h
  rcases Go.Deep.open_slice ht hf with ⟨hcs, _⟩ | ⟨x, l, k, m, n, D, Pl, hcs, _, hl, hm, hmm, hd, hx⟩
  · simp [Value.cells] at hcs
    obtain ⟨rfl, rfl, rfl⟩ := hcs
    exact ⟨fun _ => [], fun _ => default, ⟨Nat.le_refl _, Nat.zero_le _, fun h => absurd h (by omega), fun j hj => absurd hj (by omega)⟩, .inl rfl⟩
  · simp [Value.cells] at hcs
    obtain ⟨rfl, rfl, rfl⟩ := hcs
    have hm' : m = cap := by simpa using hmm
    subst hm'
    have each : ∀ j, j < m → ∃ y : List Value × α, w.cells? 0 (x.add (j * c)) c = some y.1 ∧ y.1.length = c ∧ want y.1 y.2 := by
      intro j hj
      obtain ⟨cs, hcs, htr⟩ := hx j hj
      rw [hc] at hcs
      obtain ⟨v, hv⟩ := one cs _ _ htr
      exact ⟨(cs, v), hcs, (World.cells?_some hcs).2.1, hv⟩
    obtain ⟨g, hg⟩ := Go.Deep.choose_lt each
    refine ⟨fun j => (g j).1, fun j => (g j).2, ⟨hl, hm, fun hn => ?_, fun j hj => (hg j (by omega)).2⟩, .inr ⟨_, _, (Prod.mk.inj hd).1, by simp⟩⟩
    have e0 := World.cells?_some (hg 0 (by omega)).1
    have e00 := e0.2.2 0 hc0
    rw [Nat.zero_mul] at e00
    have hpos : 0 < ((g 0).1).length := by rw [(hg 0 (by omega)).2.1]; exact hc0
    have e01 : w.cell? (x.add 0) = some ((g 0).1)[0] := by
      rw [← List.getElem?_eq_getElem hpos, ← e00]
      congr 1
    obtain ⟨b, off, rfl, hlt⟩ := spot_of_cell e01
    refine ⟨b, off, rfl, hlt, fun j hj k v hv => ?_⟩
    have hk : k < c := by
      have := (List.getElem?_eq_some_iff.1 hv).1
      rwa [(hg j (by omega)).2.1] at this
    have := (World.cells?_some (hg j (by omega)).1).2.2 k hk
    rw [Addr.add_lit, Addr.add_lit] at this
    exact this.trans hv

/-- a row of bytes inside another thing -/
theorem inner_bytes {H : Type} {P : Program} {enc : TypeId × Value → H} {w : World} {t e : TypeId} {x : DataW H × List MemPlace} {fuel : Nat} {cs : List Value}
    (ht : P.underlying t = some (.slice e)) (he : P.underlying e = some (.int .u8)) (hc : P.cellsOf e = 1) (h : DataW.trod enc P w 0 (fun _ => true) true fuel t cs = some x) :
    ∃ a len cap bs, cs = [.slice a len cap] ∧ Rd w a len cap (vb bs) ∧ AllB bs := by
  rcases open_ints ht he hc h with ⟨hcs, _⟩ | ⟨x, l, c, zs, hcs, _, hl, hm, hz, hd, hcell, hwz⟩
  · obtain ⟨bs, hr, hb⟩ := rd_of_row (w := w) (a := none) (len := 0) (cap := 0) (zs := []) (.inl ⟨rfl, rfl, rfl, rfl⟩)
    exact ⟨none, 0, 0, bs, hcs, hr, hb⟩
  · have hz' : zs.length = c := by simpa using hz
    obtain ⟨bs, hr, hb⟩ := rd_of_row (w := w) (a := some x) (len := l) (cap := c) (zs := zs) (.inr ⟨_, rfl, hl, hm, hz', hcell, hwz⟩)
    exact ⟨some x, l, c, bs, hcs, hr, hb⟩

/-- a row of rows of bytes -/
def isBytes (w : World) (cs : List Value) (b : (Option Addr × Nat × Nat) × List Nat) : Prop :=
  cs = [.slice b.1.1 b.1.2.1 b.1.2.2] ∧ Rd w b.1.1 b.1.2.1 b.1.2.2 (vb b.2) ∧ AllB b.2

theorem one_bytes {H : Type} {P : Program} {enc : TypeId × Value → H} {w : World} {t e : TypeId} {x : DataW H × List MemPlace} {fuel : Nat} {cs : List Value}
    (ht : P.underlying t = some (.slice e)) (he : P.underlying e = some (.int .u8)) (hc : P.cellsOf e = 1) (h : DataW.trod enc P w 0 (fun _ => true) true fuel t cs = some x) :
    ∃ b, isBytes w cs b := by
  obtain ⟨a, len, cap, bs, h1, h2, h3⟩ := inner_bytes ht he hc h
  exact ⟨((a, len, cap), bs), h1, h2, h3⟩
end Go.Proofs.Ytkngoomkmbkenaa
/- CommandOnce: the posts that came in. -/
namespace Go.Proofs.Ytkngoomkmbkenaa
open Go.ChangeShapes Go.WideShapes Go.ChangeAt Go.RowKit
set_option linter.unusedVariables false

def isPost (cs : List Value) (r : PO) : Prop := cs = [.int .i64 r.ask, .int .i64 r.come, .int .i64 r.lose, .bool r.full, .bool r.deaf, .int .i64 r.again] ∧ InI r.ask ∧ InI r.come ∧ InI r.lose ∧ InI r.again
theorem ini_of {z : Int} (h : (Lit.int .i64 z).wf = true) : InI z := by
  have := bounds_i64 h
  unfold InI
  omega
theorem one_post {H : Type} {enc : TypeId × Value → H} {w : World} (cs : List Value) (fuel : Nat) (x : DataW H × List MemPlace)
    (h : DataW.trod enc Try.prog w 0 (fun _ => true) true fuel 49 cs = some x) : ∃ r, isPost cs r := by
  obtain ⟨xs, n, _, _, hl, hlen, hf⟩ := DataW.trod_struct Try.underlying49 h
  rw [show Try.prog.cellsOf 49 = 6 from by kernel_rfl] at hl
  have g : ∀ i (hi : i < xs.length), xs[i]? = some xs[i] := fun i hi => List.getElem?_eq_getElem hi
  have hlen : xs.length = 6 := hlen
  have f0 : DataW.trod enc Try.prog w 0 (fun _ => true) true n 3 ((cs.drop 0).take (Try.prog.cellsOf 3)) = _ := (hf 0 _ rfl).trans (g 0 (by omega))
  have f1 : DataW.trod enc Try.prog w 0 (fun _ => true) true n 3 ((cs.drop 1).take (Try.prog.cellsOf 3)) = _ := (hf 1 _ rfl).trans (g 1 (by omega))
  have f2 : DataW.trod enc Try.prog w 0 (fun _ => true) true n 3 ((cs.drop 2).take (Try.prog.cellsOf 3)) = _ := (hf 2 _ rfl).trans (g 2 (by omega))
  have f3 : DataW.trod enc Try.prog w 0 (fun _ => true) true n 4 ((cs.drop 3).take (Try.prog.cellsOf 4)) = _ := (hf 3 _ rfl).trans (g 3 (by omega))
  have f4 : DataW.trod enc Try.prog w 0 (fun _ => true) true n 4 ((cs.drop 4).take (Try.prog.cellsOf 4)) = _ := (hf 4 _ rfl).trans (g 4 (by omega))
  have f5 : DataW.trod enc Try.prog w 0 (fun _ => true) true n 3 ((cs.drop 5).take (Try.prog.cellsOf 3)) = _ := (hf 5 _ rfl).trans (g 5 (by omega))
  simp only [show Try.prog.cellsOf 4 = 1 from by kernel_rfl, show Try.prog.cellsOf 3 = 1 from by kernel_rfl] at f0 f1 f2 f3 f4 f5
  obtain ⟨z0, e0, _, w0⟩ := DataW.trod_int Try.underlying3 f0
  obtain ⟨z1, e1, _, w1⟩ := DataW.trod_int Try.underlying3 f1
  obtain ⟨z2, e2, _, w2⟩ := DataW.trod_int Try.underlying3 f2
  obtain ⟨b3, e3, _⟩ := DataW.trod_bool Try.underlying4 f3
  obtain ⟨b4, e4, _⟩ := DataW.trod_bool Try.underlying4 f4
  obtain ⟨z5, e5, _, w5⟩ := DataW.trod_int Try.underlying3 f5
  have hcs : cs = [.int .i64 z0, .int .i64 z1, .int .i64 z2, .bool b3, .bool b4, .int .i64 z5] := by
    clear w0 w1 w2 w5 hf f0 f1 f2 f3 f4 f5 h
    match cs, hl with
    | [c0, c1, c2, c3, c4, c5], _ =>
      simp at e0 e1 e2 e3 e4 e5
      subst e0 e1 e2 e3 e4 e5
      rfl
  exact ⟨⟨z0, z1, z2, b3, b4, z5⟩, hcs, ini_of w0, ini_of w1, ini_of w2, ini_of w5⟩
theorem opened_posts {H : Type} {enc : TypeId × Value → H} {w : World} {d : DataW H} {p : List MemPlace} {a : Option Addr} {len cap : Nat}
    (h : DataW.Trod enc Try.prog w 0 (fun _ => true) true 42 (.slice a len cap) d p) :
    ∃ f, RdP w a len cap f ∧ (len = 0 ∨ ∃ es sp, d = .slice es sp ∧ es.length = len) := by
  obtain ⟨cs, f, hR, hz⟩ := opened_row isPost Try.underlying42 (by kernel_rfl) (by decide : 0 < 6) one_post h
  refine ⟨f, ⟨hR.le, hR.max, fun hn => ?_, fun j hj => (hR.each j hj).2.2⟩, hz⟩
  obtain ⟨b, off, h1, h2, h3⟩ := hR.mem hn
  refine ⟨b, off, h1, h2, fun j hj => ?_⟩
  have hc : cs j = _ := (hR.each j hj).2.1
  have hk := h3 j hj
  rw [hc] at hk
  exact ⟨hk 0 _ rfl, hk 1 _ rfl, hk 2 _ rfl, hk 3 _ rfl, hk 4 _ rfl, hk 5 _ rfl⟩
end Go.Proofs.Ytkngoomkmbkenaa
