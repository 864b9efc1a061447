/- A vigil at work: what stores do to it. -/
import Derived.Test.YtkgnelmnadnbhaaAgeG
namespace Go.Proofs.Ytkgnelmnadnbhaa
set_option linter.unusedVariables false
open Go.RowKit

theorem VS.below {w w' : World} {X B : Nat} {p : GP} {s : St} {bv tv pv nv : Value} (h : VS w X B p s bv tv pv nv) (hb : Below w.heap.size w w') : VS w' X B p s bv tv pv nv :=
  ⟨row_below h.row hb, h.hX, h.b.below hb, h.t.below hb, h.p_.below hb, h.n.below hb, h.bp, h.bn, h.pn⟩
theorem OwnAt.other {w : World} {B B' e e' n n' : Nat} {u v : Value} {xs ys : List Value} (h : OwnAt w B e u n xs) (h' : OwnAt w B' e' v n' ys) (he : e ≠ e') : u.ownBlock = none ∨ u.ownBlock ≠ v.ownBlock := by
  rcases h.2 with ⟨hu, _⟩ | ⟨g1, o1, c1, cur1, hu, _, h3, _⟩
  · rw [hu]; exact .inl rfl
  · refine .inr (fun e2 => ?_)
    rw [hu] at e2
    rcases h'.ne h3 (Ne.symm he) with h4 | h4
    · rw [h4] at e2; cases e2
    · exact h4 e2.symm
/-- a block that the row's growth may turn is not the vigil's -/
theorem VS.rowKept {w w' : World} {X B : Nat} {p : GP} {s : St} {bv tv pv nv : Value} (h : VS w X B p s bv tv pv nv) {v : Value} {n e : Nat} {xs : List Value} (hv : OwnAt w B e v n xs) (he : e ≠ 52) (hg : w.grownBy w' v.ownBlock) : w'.heap[X]? = some (.cells (rowX p s bv tv pv nv) 52) :=
  (hg.block X (row_lt h.row) (fun e2 => by
    rcases hv.ne h.row he with h4 | h4
    · rw [h4] at e2; cases e2
    · exact h4 e2.symm)).trans h.row
/-- only block X may be turned -/
def Kx (X : Nat) (w w' : World) : Prop := w.heap.size ≤ w'.heap.size ∧ ∀ k, k < w.heap.size → k ≠ X → w'.heap[k]? = w.heap[k]?
theorem Kx.refl (X : Nat) (w : World) : Kx X w w := ⟨Nat.le_refl _, fun _ _ _ => rfl⟩
theorem Kx.trans {X : Nat} {a b c : World} (h : Kx X a b) (k : Kx X b c) : Kx X a c := ⟨Nat.le_trans h.1 k.1, fun i h1 h2 => (k.2 i (Nat.lt_of_lt_of_le h1 h.1) h2).trans (h.2 i h1 h2)⟩
theorem Kx.grown {X : Nat} {a b c : World} (h : Kx X a b) (g : b.grownBy c (some X)) : Kx X a c := h.trans ⟨g.size, fun k h1 h2 => g.block k h1 (fun e => h2 (by cases e; rfl))⟩
theorem Kx.drew {X : Nat} {a b : World} (h : Kx X a b) : Kx X a b.drew := h
theorem Kx.below {X : Nat} {w w' : World} (h : Below w.heap.size w w') : Kx X w w' := ⟨h.size, fun k h1 _ => h.block k h1⟩
/-- an element of Bad is stored to -/
theorem VS.setBad {w : World} {X B : Nat} {p : GP} {s : St} {tv pv nv : Value} {bb bo bc : Nat} (h : VS w X B p s (.slice (some ⟨bb, bo, none⟩) s.bad.length bc) tv pv nv) (i x : Nat) (hi : i < s.bad.length) :
    VS (w.setCell ⟨bb, bo + i, none⟩ (.int .i64 (x : Int))) X B p { s with bad := s.bad.set i x } (.slice (some ⟨bb, bo, none⟩) s.bad.length bc) tv pv nv ∧ w.grownBy (w.setCell ⟨bb, bo + i, none⟩ (.int .i64 (x : Int))) (some bb) := by
  obtain ⟨o1, g1⟩ := h.b.set i hi (.int .i64 (x : Int))
  rw [vi_set] at o1
  have hg : w.grownBy (w.setCell ⟨bb, bo + i, none⟩ (.int .i64 (x : Int))) (Value.slice (some ⟨bb, bo, none⟩) s.bad.length bc).ownBlock := g1
  have hl : (s.bad.set i x).length = s.bad.length := List.length_set
  refine ⟨⟨h.rowKept h.b (by decide) hg, h.hX, ?_, h.t.kept hg (h.t.other h.b (by decide)), h.p_.kept hg h.bp.symm.row, h.n.kept hg h.bn.symm.row, h.bp, h.bn, h.pn⟩, g1⟩
  show OwnAt _ B 3 _ (s.bad.set i x).length _
  rw [hl]
  exact o1
/-- an element of Tripped is stored to -/
theorem VS.setTrp {w : World} {X B : Nat} {p : GP} {s : St} {bv pv nv : Value} {bb bo bc : Nat} (h : VS w X B p s bv (.slice (some ⟨bb, bo, none⟩) s.trp.length bc) pv nv) (i : Nat) (x : Bool) (hi : i < s.trp.length) :
    VS (w.setCell ⟨bb, bo + i, none⟩ (.bool x)) X B p { s with trp := s.trp.set i x } bv (.slice (some ⟨bb, bo, none⟩) s.trp.length bc) pv nv ∧ w.grownBy (w.setCell ⟨bb, bo + i, none⟩ (.bool x)) (some bb) := by
  obtain ⟨o1, g1⟩ := h.t.set i hi (.bool x)
  rw [vt_set] at o1
  have hg : w.grownBy (w.setCell ⟨bb, bo + i, none⟩ (.bool x)) (Value.slice (some ⟨bb, bo, none⟩) s.trp.length bc).ownBlock := g1
  have hl : (s.trp.set i x).length = s.trp.length := List.length_set
  refine ⟨⟨h.rowKept h.t (by decide) hg, h.hX, h.b.kept hg (h.b.other h.t (by decide)), ?_, h.p_.kept hg (h.p_.other h.t (by decide)), h.n.kept hg (h.n.other h.t (by decide)), h.bp, h.bn, h.pn⟩, g1⟩
  show OwnAt _ B 4 _ (s.trp.set i x).length _
  rw [hl]
  exact o1
/-- Trips: a row that grew, stored -/
theorem VS.setP {w w' : World} {X B : Nat} {p : GP} {s : St} {bv tv pv nv : Value} (h : VS w X B p s bv tv pv nv) {pv' : Value} {l : List Nat} (hg : w.grownBy w' pv.ownBlock) (ho : OwnAt w' B 3 pv' l.length (vi l)) (hb : pv'.ownBlock = pv.ownBlock ∨ ∃ k, pv'.ownBlock = some k ∧ w.heap.size ≤ k) :
    VS (w'.setCell ⟨X, 5, none⟩ pv') X B p { s with trips := l } bv tv pv' nv ∧ w'.grownBy (w'.setCell ⟨X, 5, none⟩ pv') (some X) := by
  have hr := h.rowKept h.p_ (by decide) hg
  obtain ⟨q1, q2⟩ := set_row (cs' := rowX p { s with trips := l } bv tv pv' nv) hr 5 pv' rfl
  have hb' := h.b.kept hg h.bp.row
  have ht' := h.t.kept hg (h.t.other h.p_ (by decide))
  have hn' := h.n.kept hg h.pn.symm.row
  refine ⟨⟨q1, h.hX, hb'.kept q2 (hb'.ne hr (by decide)), ht'.kept q2 (ht'.ne hr (by decide)), ho.kept q2 (ho.ne hr (by decide)), hn'.kept q2 (hn'.ne hr (by decide)), ?_, h.bn, ?_⟩, q2⟩
  · rcases hb with hb | ⟨k, hb, hk⟩
    · exact fun k h1 h2 => h.bp k h1 (by rw [← hb]; exact h2)
    · intro k' h1 h2
      rw [hb] at h2
      cases h2
      have := (h.b.lt k h1).2
      omega
  · rcases hb with hb | ⟨k, hb, hk⟩
    · exact fun k h1 h2 => h.pn k (by rw [← hb]; exact h1) h2
    · intro k' h1 h2
      rw [hb] at h1
      cases h1
      have := (h.n.lt k h2).2
      omega
/-- what trips now: a row that grew, stored -/
theorem VS.setN {w w' : World} {X B : Nat} {p : GP} {s : St} {bv tv pv nv : Value} (h : VS w X B p s bv tv pv nv) {nv' : Value} {l : List Nat} (hg : w.grownBy w' nv.ownBlock) (ho : OwnAt w' B 3 nv' l.length (vi l)) (hb : nv'.ownBlock = nv.ownBlock ∨ ∃ k, nv'.ownBlock = some k ∧ w.heap.size ≤ k) :
    VS (w'.setCell ⟨X, 11, none⟩ nv') X B p { s with now := l } bv tv pv nv' ∧ w'.grownBy (w'.setCell ⟨X, 11, none⟩ nv') (some X) := by
  have hr := h.rowKept h.n (by decide) hg
  obtain ⟨q1, q2⟩ := set_row (cs' := rowX p { s with now := l } bv tv pv nv') hr 11 nv' rfl
  have hb' := h.b.kept hg h.bn.row
  have ht' := h.t.kept hg (h.t.other h.n (by decide))
  have hp' := h.p_.kept hg h.pn.row
  refine ⟨⟨q1, h.hX, hb'.kept q2 (hb'.ne hr (by decide)), ht'.kept q2 (ht'.ne hr (by decide)), hp'.kept q2 (hp'.ne hr (by decide)), ho.kept q2 (ho.ne hr (by decide)), h.bp, ?_, ?_⟩, q2⟩
  · rcases hb with hb | ⟨k, hb, hk⟩
    · exact fun k h1 h2 => h.bn k h1 (by rw [← hb]; exact h2)
    · intro k' h1 h2
      rw [hb] at h2
      cases h2
      have := (h.b.lt k h1).2
      omega
  · rcases hb with hb | ⟨k, hb, hk⟩
    · exact fun k h1 h2 => h.pn k h1 (by rw [← hb]; exact h2)
    · intro k' h1 h2
      rw [hb] at h2
      cases h2
      have := (h.p_.lt k h1).2
      omega
/-- Trips: another part of the same row, stored -/
theorem VS.setSafe {w : World} {X B : Nat} {p : GP} {s : St} {bv tv pv nv : Value} (h : VS w X B p s bv tv pv nv) (x : Bool) :
    VS (w.setCell ⟨X, 0, none⟩ (.bool x)) X B p { s with safe := x } bv tv pv nv ∧ w.grownBy (w.setCell ⟨X, 0, none⟩ (.bool x)) (some X) := by
  obtain ⟨q1, q2⟩ := set_row (cs' := rowX p { s with safe := x } bv tv pv nv) h.row 0 (.bool x) rfl
  exact ⟨⟨q1, h.hX, h.b.kept q2 (h.b.ne h.row (by decide)), h.t.kept q2 (h.t.ne h.row (by decide)), h.p_.kept q2 (h.p_.ne h.row (by decide)), h.n.kept q2 (h.n.ne h.row (by decide)), h.bp, h.bn, h.pn⟩, q2⟩
theorem VS.setWhy {w : World} {X B : Nat} {p : GP} {s : St} {bv tv pv nv : Value} (h : VS w X B p s bv tv pv nv) (x : Int) :
    VS (w.setCell ⟨X, 1, none⟩ (.int .i64 x)) X B p { s with why := x } bv tv pv nv ∧ w.grownBy (w.setCell ⟨X, 1, none⟩ (.int .i64 x)) (some X) := by
  obtain ⟨q1, q2⟩ := set_row (cs' := rowX p { s with why := x } bv tv pv nv) h.row 1 (.int .i64 x) rfl
  exact ⟨⟨q1, h.hX, h.b.kept q2 (h.b.ne h.row (by decide)), h.t.kept q2 (h.t.ne h.row (by decide)), h.p_.kept q2 (h.p_.ne h.row (by decide)), h.n.kept q2 (h.n.ne h.row (by decide)), h.bp, h.bn, h.pn⟩, q2⟩
theorem VS.drew {w : World} {X B : Nat} {p : GP} {s : St} {bv tv pv nv : Value} (h : VS w X B p s bv tv pv nv) : VS w.drew X B p s bv tv pv nv := h.below (Below.refl _ w).drew
/-- one monitor is looked at -/
def cut100 (l : List Nat) : List Nat := l.drop (l.length - 100)
def isIn (x : Int) : Bool := decide (0 ≤ x ∧ x ≤ 9)
def look1 (ms : List Mon) (vals : List Int) (s : St) (i : Nat) : St :=
  if isIn (vals.getD (mAt ms i).of_ 0) = true then { s with bad := s.bad.set i 0, trp := s.trp.set i false }
  else if min (nth s.bad i + 1) (mAt ms i).fr < (mAt ms i).fr ∨ s.trp.getD i false = true then { s with bad := s.bad.set i (min (nth s.bad i + 1) (mAt ms i).fr) }
  else { s with bad := s.bad.set i (min (nth s.bad i + 1) (mAt ms i).fr), trp := s.trp.set i true, now := s.now ++ [i], trips := cut100 (s.trips ++ [0]) }
def lookTo (ms : List Mon) (vals : List Int) (s : St) : Nat → St
  | 0 => s
  | i + 1 => look1 ms vals (lookTo ms vals s i) i
theorem cut_len (l : List Nat) : (cut100 l).length ≤ 100 := by
  unfold cut100
  rw [List.length_drop]
  omega
theorem look1_len (ms : List Mon) (vals : List Int) (s : St) (i : Nat) : (look1 ms vals s i).bad.length = s.bad.length ∧ (look1 ms vals s i).trp.length = s.trp.length ∧ (s.trips.length ≤ 100 → (look1 ms vals s i).trips.length ≤ 100) ∧ (look1 ms vals s i).now.length ≤ s.now.length + 1 := by
  unfold look1
  split
  · exact ⟨List.length_set, List.length_set, id, Nat.le_succ _⟩
  · split
    · exact ⟨List.length_set, rfl, id, Nat.le_succ _⟩
    · exact ⟨List.length_set, List.length_set, fun _ => cut_len _, by simp⟩
theorem lookTo_len (ms : List Mon) (vals : List Int) (s : St) : ∀ j, (lookTo ms vals s j).bad.length = s.bad.length ∧ (lookTo ms vals s j).trp.length = s.trp.length ∧ (s.trips.length ≤ 100 → (lookTo ms vals s j).trips.length ≤ 100) ∧ (lookTo ms vals s j).now.length ≤ s.now.length + j
  | 0 => ⟨rfl, rfl, id, Nat.le_refl _⟩
  | j + 1 => by
    obtain ⟨h1, h2, h3, h4⟩ := lookTo_len ms vals s j
    obtain ⟨k1, k2, k3, k4⟩ := look1_len ms vals (lookTo ms vals s j) j
    exact ⟨k1.trans h1, k2.trans h2, fun h => k3 (h3 h), by show (look1 ms vals (lookTo ms vals s j) j).now.length ≤ _; omega⟩
theorem nth_set_le (l : List Nat) (i x m k : Nat) (h : nth l k ≤ m) (hx : x ≤ m) : nth (l.set i x) k ≤ m := by
  unfold nth at *
  rw [List.getD_eq_getElem?_getD] at *
  rw [List.getElem?_set]
  split
  · split
    · exact hx
    · exact Nat.zero_le _
  · exact h
theorem look1_bad (ms : List Mon) (vals : List Int) (s : St) (i m : Nat) (h : ∀ k, nth s.bad k ≤ m) (hm : (mAt ms i).fr ≤ m) (k : Nat) : nth (look1 ms vals s i).bad k ≤ m := by
  unfold look1
  split
  · exact nth_set_le _ _ _ _ _ (h k) (Nat.zero_le _)
  · split
    · exact nth_set_le _ _ _ _ _ (h k) (by omega)
    · exact nth_set_le _ _ _ _ _ (h k) (by omega)
theorem lookTo_bad (ms : List Mon) (vals : List Int) (s : St) (m n : Nat) (h : ∀ k, nth s.bad k ≤ m) (hm : ∀ i, i < n → (mAt ms i).fr ≤ m) : ∀ j, j ≤ n → ∀ k, nth (lookTo ms vals s j).bad k ≤ m
  | 0, _ => h
  | j + 1, hj => look1_bad ms vals _ j m (lookTo_bad ms vals s m n h hm j (by omega)) (hm j (by omega))
end Go.Proofs.Ytkgnelmnadnbhaa
