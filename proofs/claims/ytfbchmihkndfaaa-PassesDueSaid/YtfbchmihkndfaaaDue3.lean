/- Blocks of cells: read, written, kept. (packet/NJoin and command/NAccept hold older copies of some of these.) -/
import Derived.Test.YtfbchmihkndfaaaDue2
import Derived.ChangeSlices
import Derived.ChangeArms
import Derived.Deep.Slices
import Derived.Deep.Strs
import Derived.ProofKit
import Derived.ChangeOld
import Derived.Below
namespace Go.Proofs.Ytfbchmihkndfaaa
set_option linter.unusedVariables false
open Go.RowKit

theorem frozen_row {W : World} {b : Nat} {cs : Array Value} {e : TypeId} (h : W.heap[b]? = some (.cells cs e)) (i : Nat) : W.frozen? ⟨b, i, none⟩ = false := by simp [World.frozen?, show W.heap[b]? = _ from h]
theorem row_below {W W' : World} {b : Nat} {o : Obj} (h : W.heap[b]? = some o) (hb : Below W.heap.size W W') : W'.heap[b]? = some o := (hb.block b (Array.getElem?_eq_some_iff.1 h).1).trans h
theorem row_grown {W W' : World} {b k : Nat} {o : Obj} (h : W.heap[b]? = some o) (hg : W.grownBy W' (some k)) (hne : b ≠ k) : W'.heap[b]? = some o := (hg.block b (Array.getElem?_eq_some_iff.1 h).1 (fun e => hne (by cases e; rfl))).trans h
theorem row_lt {W : World} {b : Nat} {o : Obj} (h : W.heap[b]? = some o) : b < W.heap.size := (Array.getElem?_eq_some_iff.1 h).1
theorem grown1 (W : World) (b i : Nat) (v : Value) : W.grownBy (W.setCell ⟨b, i, none⟩ v) (some b) :=
  ⟨rfl, rfl, rfl, by simp, fun k hk hne => heap_setCell_other W ⟨b, i, none⟩ k v (fun e => hne (by rw [e]))⟩
/-- one cell of a row is stored to -/
theorem set_row {W : World} {b : Nat} {cs cs' : Array Value} {e : TypeId} (A : W.heap[b]? = some (.cells cs e)) (i : Nat) (v : Value) (h : cs.setIfInBounds i v = cs') : (W.setCell ⟨b, i, none⟩ v).heap[b]? = some (.cells cs' e) ∧ W.grownBy (W.setCell ⟨b, i, none⟩ v) (some b) :=
  ⟨(heap_setCell_same W b i _ e v A).trans (by rw [h]), grown1 W b i v⟩
/-- an own row lies in no block of another type -/
theorem own_ne {w : World} {base e size n : Nat} {v : Value} {xs : List Value} (h : w.ownsRow base e size v n xs) {b T : Nat} {cs : Array Value} (A : w.heap[b]? = some (.cells cs T)) (hT : e ≠ T) : v.ownBlock = none ∨ v.ownBlock ≠ some b := by
  rcases h.2 with ⟨rfl, _⟩ | ⟨g, cap, cur, rfl, _, hg, _⟩
  · exact .inl rfl
  · refine .inr ?_
    simp only [Value.ownBlock, ne_eq, Option.some.injEq]
    intro he
    subst he
    rw [A] at hg
    injection hg with h1
    injection h1 with h2 h3
    exact hT h3.symm
/-- a block of another type is kept when a row grows -/
theorem row_kept {W W' : World} {base e size n b : Nat} {v : Value} {xs : List Value} {cs : Array Value} {T : TypeId} (A : W.heap[b]? = some (.cells cs T)) (h : W.ownsRow base e size v n xs) (hg : W.grownBy W' v.ownBlock) (hT : e ≠ T) : W'.heap[b]? = some (.cells cs T) := by
  refine (hg.block b (row_lt A) (fun he => ?_)).trans A
  rcases own_ne h A hT with h1 | h1
  · rw [h1] at he; cases he
  · exact h1 he.symm
/-- a block below where the row begins is kept when the row grows -/
theorem row_kept_lo {W W' : World} {base e size n b : Nat} {v : Value} {xs : List Value} {o : Obj} (A : W.heap[b]? = some o) (h : W.ownsRow base e size v n xs) (hg : W.grownBy W' v.ownBlock) (hT : b < base) : W'.heap[b]? = some o := by
  refine (hg.block b (row_lt A) (fun he => ?_)).trans A
  have := (h.lt b he.symm).1
  omega
theorem row_drew {W : World} {b : Nat} {o : Obj} (h : W.heap[b]? = some o) : W.drew.heap[b]? = some o := h
/-- an own slice that is not empty lies in a block -/
theorem own_addr {w : World} {B e s n : Nat} {a : Option Addr} {c : Nat} {xs : List Value} (h : w.ownsRow B e s (.slice a n c) n xs) (hn : 0 < n) : ∃ g, a = some ⟨g, 0, none⟩ := by
  obtain ⟨_, ⟨h1, h2⟩ | ⟨g, cap, cur, h1, _⟩⟩ := h
  · omega
  · cases h1; exact ⟨g, rfl⟩
/-- two blocks may be turned, the others stay -/
structure Kept2 (W W' : World) (a b : Nat) : Prop where
  os : W'.os = W.os
  tape : W'.tape = W.tape
  output : W'.output = W.output
  size : W.heap.size ≤ W'.heap.size
  block : ∀ k, k < W.heap.size → k ≠ a → k ≠ b → W'.heap[k]? = W.heap[k]?
theorem Kept2.refl (W : World) (a b : Nat) : Kept2 W W a b := ⟨rfl, rfl, rfl, Nat.le_refl _, fun _ _ _ _ => rfl⟩
theorem Kept2.trans {W W' W'' : World} {a b : Nat} (h : Kept2 W W' a b) (k : Kept2 W' W'' a b) : Kept2 W W'' a b :=
  ⟨k.os.trans h.os, k.tape.trans h.tape, k.output.trans h.output, Nat.le_trans h.size k.size, fun i hi ha hb => (k.block i (Nat.lt_of_lt_of_le hi h.size) ha hb).trans (h.block i hi ha hb)⟩
theorem Kept2.left {W W' : World} {a b : Nat} (h : W.grownBy W' (some a)) : Kept2 W W' a b := ⟨h.os, h.tape, h.output, h.size, fun k hk ha _ => h.block k hk (fun e => ha (by cases e; rfl))⟩
theorem Kept2.right {W W' : World} {a b : Nat} (h : W.grownBy W' (some b)) : Kept2 W W' a b := ⟨h.os, h.tape, h.output, h.size, fun k hk _ hb => h.block k hk (fun e => hb (by cases e; rfl))⟩
theorem Kept2.ofBelow {W W' : World} {a b : Nat} (h : Below W.heap.size W W') : Kept2 W W' a b := ⟨h.os, h.tape, h.output, h.size, fun k hk _ _ => h.block k hk⟩
theorem Kept2.row {W W' : World} {a b k : Nat} {o : Obj} (h : Kept2 W W' a b) (hr : W.heap[k]? = some o) (ha : k ≠ a) (hb : k ≠ b) : W'.heap[k]? = some o := (h.block k (row_lt hr) ha hb).trans hr
theorem Kept2.below {W W' : World} {a b B : Nat} (h : Kept2 W W' a b) (ha : B ≤ a) (hb : B ≤ b) (hB : B ≤ W.heap.size) : Below B W W' := ⟨h.os, h.tape, h.output, h.size, fun k hk => h.block k (by omega) (by omega) (by omega)⟩
theorem Kept2.own {W W' : World} {a b : Nat} {base e size n : Nat} {v : Value} {xs : List Value} (h : Kept2 W W' a b) (ho : W.ownsRow base e size v n xs) (ha : v.ownBlock ≠ some a) (hb : v.ownBlock ≠ some b) : W'.ownsRow base e size v n xs := by
  refine ⟨ho.1, ho.2.imp id ?_⟩
  rintro ⟨g, cap, cur, hv, hg, hr, hrest⟩
  refine ⟨g, cap, cur, hv, hg, h.row hr (fun e => ha ?_) (fun e => hb ?_), hrest⟩
  · rw [hv, e]; rfl
  · rw [hv, e]; rfl
end Go.Proofs.Ytfbchmihkndfaaa
/- What the frame hands over, opened: slices of bytes, of ints, of pairs of ints. -/
namespace Go.Proofs.Ytfbchmihkndfaaa
open Go.ChangeShapes Go.WideShapes Go.ChangeAt Go.RowKit
set_option linter.unusedVariables false

theorem spot_of_cell {w : World} {x : Addr} {v : Value} (h : w.cell? (x.add 0) = some v) : ∃ b off, x = ⟨b, off, none⟩ ∧ b < w.heap.size := by
  have hspot := World.cell?_spot h
  obtain ⟨b, off, spot⟩ := x
  have hsp : spot = none := by
    cases spot with
    | none => rfl
    | some s => simp [Addr.add] at hspot
  subst hsp
  refine ⟨b, off, rfl, ?_⟩
  rw [Addr.add_lit] at h
  exact World.block_lt_of_cell? w _ h

/-- a slice of ints of a kind, that the frame opened -/
theorem opened_ints {H : Type} {P : Program} {enc : TypeId × Value → H} {w : World} {t e : TypeId} {k : IntKind} {d : DataW H} {p : List MemPlace} {a : Option Addr} {len cap : Nat}
    (ht : P.underlying t = some (.slice e)) (he : P.underlying e = some (.int k)) (hc : P.cellsOf e = 1) (h : DataW.Trod enc P w 0 (fun _ => true) true t (.slice a len cap) d p) :
    ∃ zs : List Int, ((a = none ∧ len = 0 ∧ cap = 0 ∧ zs = []) ∨ ∃ x, a = some x ∧ len ≤ cap ∧ cap ≤ maxLen ∧ zs.length = cap ∧ (∀ i, i < zs.length → w.cell? (x.add i) = some (.int k (zs.getD i 0))) ∧ ∀ n ∈ zs, (Lit.int k n).wf = true) ∧
      (len = 0 ∨ ∃ es sp, d = .slice es sp ∧ es.length = len) := by
  obtain ⟨fuel, hf⟩ := h
  rcases open_ints ht he hc hf with ⟨hcs, _⟩ | ⟨x, l, c, zs, hcs, _, hl, hm, hz, hd, hcell, hwz⟩
  · simp [Value.cells] at hcs
    obtain ⟨rfl, rfl, rfl⟩ := hcs
    exact ⟨[], .inl ⟨rfl, rfl, rfl, rfl⟩, .inl rfl⟩
  · simp [Value.cells] at hcs
    obtain ⟨rfl, rfl, rfl⟩ := hcs
    have hz' : zs.length = cap := by simpa using hz
    refine ⟨zs, .inr ⟨_, rfl, hl, hm, hz', hcell, hwz⟩, .inr ⟨_, _, (Prod.mk.inj hd).1, ?_⟩⟩
    simp [lits]
    omega

/-- bytes -/
theorem opened_bytes {H : Type} {P : Program} {enc : TypeId × Value → H} {w : World} {t e : TypeId} {d : DataW H} {p : List MemPlace} {a : Option Addr} {len cap : Nat}
    (ht : P.underlying t = some (.slice e)) (he : P.underlying e = some (.int .u8)) (hc : P.cellsOf e = 1) (h : DataW.Trod enc P w 0 (fun _ => true) true t (.slice a len cap) d p) :
    ∃ bs, Rd w a len cap (vb bs) ∧ AllB bs ∧ (len = 0 ∨ ∃ es sp, d = .slice es sp ∧ es.length = len) := by
  obtain ⟨zs, h1, h2⟩ := opened_ints ht he hc h
  obtain ⟨bs, hr, hb⟩ := rd_of_row h1
  exact ⟨bs, hr, hb, h2⟩

/-- pairs of ints -/
theorem opened_pairs {H : Type} {P : Program} {enc : TypeId × Value → H} {w : World} {t e i : TypeId} {f0 f1 : Field} {d : DataW H} {p : List MemPlace} {a : Option Addr} {len cap : Nat}
    (ht : P.underlying t = some (.slice e)) (he : P.underlying e = some (.struct #[f0, f1])) (hi : P.underlying i = some (.int .i64)) (h0 : f0.type = i) (h1 : f1.type = i) (o0 : f0.offset = 0) (o1 : f1.offset = 1)
    (hc : P.cellsOf e = 2) (hci : P.cellsOf i = 1) (h : DataW.Trod enc P w 0 (fun _ => true) true t (.slice a len cap) d p) :
    ∃ ts : Nat → Int × Int, len ≤ cap ∧ cap ≤ maxLen ∧ (0 < len → ∃ b off, a = some ⟨b, off, none⟩ ∧ b < w.heap.size ∧ ∀ j, j < len → w.cell? ⟨b, off + j * 2, none⟩ = some (.int .i64 (ts j).1) ∧ w.cell? ⟨b, off + j * 2 + 1, none⟩ = some (.int .i64 (ts j).2)) ∧
      (∀ j, j < len → -9223372036854775808 ≤ (ts j).1 ∧ (ts j).1 ≤ 9223372036854775807 ∧ -9223372036854775808 ≤ (ts j).2 ∧ (ts j).2 ≤ 9223372036854775807) ∧
      (len = 0 ∨ ∃ es sp, d = .slice es sp ∧ es.length = len) := by
  obtain ⟨fuel, hf⟩ := h
  rcases Go.Deep.open_slice ht hf with ⟨hcs, _⟩ | ⟨x, l, c, m, n, D, Pl, hcs, _, hl, hm, hmm, hd, hx⟩
  · simp [Value.cells] at hcs
    obtain ⟨rfl, rfl, rfl⟩ := hcs
    exact ⟨fun _ => (0, 0), Nat.le_refl _, Nat.zero_le _, fun h => absurd h (by omega), fun j hj => absurd hj (by omega), .inl rfl⟩
  · simp [Value.cells] at hcs
    obtain ⟨rfl, rfl, rfl⟩ := hcs
    have hm' : m = cap := by simpa using hmm
    subst hm'
    have each : ∀ j, j < m → ∃ t : Int × Int, w.cell? (x.add (j * 2)) = some (.int .i64 t.1) ∧ w.cell? (x.add (j * 2 + 1)) = some (.int .i64 t.2) ∧ (Lit.int .i64 t.1).wf = true ∧ (Lit.int .i64 t.2).wf = true := by
      intro j hj
      obtain ⟨cs, hcs, htr⟩ := hx j hj
      rw [hc] at hcs
      obtain ⟨_, hlen, hget⟩ := World.cells?_some hcs
      obtain ⟨y0, y1, n', _, _, e0, e1⟩ := trod_struct2 he htr
      rw [h0, hci, o0] at e0
      rw [h1, hci, o1] at e1
      obtain ⟨z0, hz0, _, hw0⟩ := DataW.trod_int hi e0
      obtain ⟨z1, hz1, _, hw1⟩ := DataW.trod_int hi e1
      match cs, hlen with
      | [c0, c1], _ =>
        simp at hz0 hz1
        subst hz0 hz1
        have g0 := hget 0 (by omega)
        have g1 := hget 1 (by omega)
        simp [Addr.add] at g0 g1
        exact ⟨(z0, z1), by simpa [Addr.add] using g0, by
          rcases Nat.eq_zero_or_pos j with h | h
          · subst h; simpa [Addr.add] using g1
          · simpa [Addr.add, Nat.add_assoc, show ¬ (j * 2 = 0) by omega] using g1, hw0, hw1⟩
    let ts : Nat → Int × Int := fun j => if h : j < m then (each j h).choose else (0, 0)
    have hts : ∀ j, j < m → w.cell? (x.add (j * 2)) = some (.int .i64 (ts j).1) ∧ w.cell? (x.add (j * 2 + 1)) = some (.int .i64 (ts j).2) ∧ (Lit.int .i64 (ts j).1).wf = true ∧ (Lit.int .i64 (ts j).2).wf = true := by
      intro j hj
      show w.cell? (x.add (j * 2)) = some (.int .i64 (if h : j < m then (each j h).choose else (0, 0)).1) ∧ _
      have : ts j = (each j hj).choose := by simp only [ts, dif_pos hj]
      simp only [dif_pos hj]
      rw [this]
      exact (each j hj).choose_spec
    refine ⟨ts, hl, hm, fun hn => ?_, fun j hj => ?_, .inr ⟨_, _, (Prod.mk.inj hd).1, by simp⟩⟩
    · obtain ⟨b, off, rfl, hlt⟩ := spot_of_cell (by simpa using (hts 0 (by omega)).1)
      refine ⟨b, off, rfl, hlt, fun j hj => ?_⟩
      have := hts j (by omega)
      rw [Addr.add_lit, Addr.add_lit] at this
      exact ⟨this.1, by simpa [Nat.add_assoc] using this.2.1⟩
    · have := hts j (by omega)
      have w0 := this.2.2.1
      have w1 := this.2.2.2
      exact ⟨(bounds_i64 w0).1, (bounds_i64 w0).2, (bounds_i64 w1).1, (bounds_i64 w1).2⟩
end Go.Proofs.Ytfbchmihkndfaaa
/- What the frame hands over, opened: a row of ints as a list of integers. -/
namespace Go.Proofs.Ytfbchmihkndfaaa
open Go.ChangeShapes Go.WideShapes Go.ChangeAt Go.RowKit
set_option linter.unusedVariables false

/-- an integer of 64 bits -/
def I64 (z : Int) : Prop := -9223372036854775808 ≤ z ∧ z ≤ 9223372036854775807
/-- the cells of integers -/
def vz (l : List Int) : List Value := l.map (Value.int .i64)
theorem vz_len (l : List Int) : (vz l).length = l.length := by simp [vz]
theorem vz_get (l : List Int) (k : Nat) (h : k < l.length) : (vz l)[k]? = some (.int .i64 (l.getD k 0)) := by
  simp [vz, h]
theorem vz_append (a b : List Int) : vz (a ++ b) = vz a ++ vz b := by simp [vz]
theorem getD_i64 {l : List Int} (h : ∀ z ∈ l, I64 z) (k : Nat) : I64 (l.getD k 0) := by
  rw [List.getD_eq_getElem?_getD]
  rcases Nat.lt_or_ge k l.length with hk | hk
  · rw [List.getElem?_eq_getElem hk]; exact h _ (List.getElem_mem hk)
  · rw [List.getElem?_eq_none hk]; exact ⟨by decide, by decide⟩
theorem Rd.cellz {w : World} {ao : Option Addr} {n cap : Nat} {zs : List Int} (h : Rd w ao n cap (vz zs)) (k : Nat) (hk : k < n) :
    ∃ b off, ao = some ⟨b, off, none⟩ ∧ b < w.heap.size ∧ w.cell? ⟨b, off + k, none⟩ = some (.int .i64 (zs.getD k 0)) := by
  obtain ⟨b, off, ha, hlt, hc⟩ := h.mem (by omega)
  have hl := h.len
  rw [vz_len] at hl
  exact ⟨b, off, ha, hlt, by rw [hc k hk, vz_get zs k (by omega)]⟩

/-- a row of ints that came in -/
theorem opened_is {H : Type} {P : Program} {enc : TypeId × Value → H} {w : World} {t e : TypeId} {d : DataW H} {p : List MemPlace} {a : Option Addr} {len cap : Nat}
    (ht : P.underlying t = some (.slice e)) (he : P.underlying e = some (.int .i64)) (hc : P.cellsOf e = 1) (h : DataW.Trod enc P w 0 (fun _ => true) true t (.slice a len cap) d p) :
    ∃ zs : List Int, (Rd w a len cap (vz zs) ∧ ∀ z ∈ zs, I64 z) ∧ (len = 0 ∨ ∃ es sp, d = .slice es sp ∧ es.length = len) := by
  obtain ⟨zs, h1, h2⟩ := opened_ints ht he hc h
  rcases h1 with ⟨rfl, rfl, rfl, rfl⟩ | ⟨x, rfl, hl, hm, hz, hcl, hw⟩
  · exact ⟨[], ⟨⟨rfl, Nat.le_refl _, Nat.zero_le _, fun _ => rfl, fun h => by omega⟩, fun z hz => by cases hz⟩, h2⟩
  · refine ⟨zs.take len, ⟨⟨by rw [vz_len, List.length_take]; omega, hl, hm, (fun h => by cases h), fun hn => ?_⟩, fun z hz => bounds_i64 (hw z (List.mem_of_mem_take hz))⟩, h2⟩
    have h0 := hcl 0 (by omega)
    obtain ⟨b, off, rfl, hlt⟩ := spot_of_cell h0
    refine ⟨b, off, rfl, hlt, fun j hj => ?_⟩
    have h1 := hcl j (by omega)
    rw [Addr.add_lit] at h1
    rw [h1, vz_get _ _ (by rw [List.length_take]; omega)]
    simp [List.getD_eq_getElem?_getD, hj]
end Go.Proofs.Ytfbchmihkndfaaa
