/- Several cells in the middle of a block are stored to. -/
import Derived.Test.YtkngoomkmbkenaaOnce2
import Derived.Deep.MidRow
import Derived.ArgAppend
import Derived.Laws.AppendOwnNone
import Derived.OwnWalk
import Derived.WalkSpells
import Derived.Test.YtkngoomkmbkenaaOnce7
namespace Go.Proofs.Ytkngoomkmbkenaa
set_option linter.unusedVariables false
open Go.RowKit

theorem set_cells {b : Nat} {e : TypeId} (z : List Value) : ∀ (vs a m : List Value) (W : World), W.heap[b]? = some (.cells (a ++ (m ++ z)).toArray e) → m.length = vs.length →
    (W.setCells b a.length vs).heap[b]? = some (.cells (a ++ (vs ++ z)).toArray e) ∧ W.grownBy (W.setCells b a.length vs) (some b)
  | [], a, m, W, h, hl => by
    obtain rfl : m = [] := List.eq_nil_of_length_eq_zero (by simpa using hl)
    exact ⟨h, World.grownBy.refl _ _⟩
  | v :: vs, a, [], W, h, hl => by simp at hl
  | v :: vs, a, x :: m, W, h, hl => by
    have h1 := set_row (cs' := (a ++ (v :: m ++ z)).toArray) h a.length v (by
      rw [List.setIfInBounds_toArray, List.set_append_right _ _ (Nat.le_refl _), Nat.sub_self]
      rfl)
    obtain ⟨h2, h3⟩ := h1
    have h4 := set_cells (e := e) (b := b) z vs (a ++ [v]) m (W.setCell ⟨b, a.length, none⟩ v) (by rw [h2]; simp) (by simpa using hl)
    rw [show (a ++ [v]).length = a.length + 1 by simp] at h4
    refine ⟨?_, grownBy_trans h3 h4.2⟩
    show ((W.setCell ⟨b, a.length, none⟩ v).setCells b (a.length + 1) vs).heap[b]? = _
    rw [h4.1]
    simp
/-- cells in the middle of a block, as the load's law asks them -/
theorem range_row {W : World} {b : Nat} {e : TypeId} {a m z : List Value} (h : W.heap[b]? = some (.cells (a ++ (m ++ z)).toArray e)) : W.rangeAt b a.length m := fun j v hv => by
  have hj : j < m.length := (List.getElem?_eq_some_iff.1 hv).1
  rw [cell_of_row _ _ _ _ _ _ h, List.getElem?_toArray, List.getElem?_append_right (by omega), Nat.add_sub_cancel_left, List.getElem?_append_left hj, hv]
theorem there_row {W : World} {b : Nat} {e : TypeId} {cs : List Value} (h : W.heap[b]? = some (.cells cs.toArray e)) (o n : Nat) (hn : o + n ≤ cs.length) : W.there b o n := fun j hj => by
  refine ⟨?_, frozen_row h _⟩
  rw [cell_of_row _ _ _ _ _ _ h, List.getElem?_toArray, List.getElem?_eq_getElem (by omega)]
  rfl
end Go.Proofs.Ytkngoomkmbkenaa
/- Own slices of one-cell elements that may begin anywhere in their block: read, stored to, cut, appended to. -/
namespace Go.Proofs.Ytkngoomkmbkenaa
set_option linter.unusedVariables false
open Go.RowKit

/-- the slice v reads as xs and lies in a block from B on of its own (or is nil) -/
def OwnAt (w : World) (B : Nat) (e : TypeId) (v : Value) (n : Nat) (xs : List Value) : Prop :=
  xs.length = n ∧ ((v = .slice none 0 0 ∧ n = 0) ∨ ∃ g o cap cur, v = .slice (some ⟨g, o, none⟩) n cap ∧ B ≤ g ∧ w.heap[g]? = some (.cells cur e) ∧ n ≤ cap ∧ cap ≤ maxLen ∧ o + cap ≤ cur.size ∧ ∀ j, j < n → cur[o + j]? = xs[j]?)
theorem OwnAt.nil (w : World) (B : Nat) (e : TypeId) : OwnAt w B e (.slice none 0 0) 0 [] := ⟨rfl, .inl ⟨rfl, rfl⟩⟩
theorem OwnAt.of {w : World} {B e n : Nat} {v : Value} {xs : List Value} (h : w.ownsRow B e 1 v n xs) : OwnAt w B e v n xs := by
  have hl := h.1
  rw [Nat.mul_one] at hl
  refine ⟨hl, ?_⟩
  rcases h.2 with ⟨h1, h2⟩ | ⟨g, cap, cur, h1, h2, h3, h4, h5, h6, h7⟩
  · exact .inl ⟨h1, h2⟩
  · refine .inr ⟨g, 0, cap, cur, h1, h2, h3, h4, h5, by omega, fun j hj => ?_⟩
    have h8 := h.cells (by rw [h1]; rfl) j
    rw [Nat.zero_add]
    rw [Nat.mul_one] at h7
    rw [← h7, List.getElem?_take, if_pos hj]
    simp
theorem OwnAt.form {w : World} {B e n : Nat} {v : Value} {xs : List Value} (h : OwnAt w B e v n xs) : ∃ ao cap, v = .slice ao n cap ∧ n ≤ cap ∧ cap ≤ maxLen := by
  rcases h.2 with ⟨h1, h2⟩ | ⟨g, o, cap, cur, h1, h2, h3, h4, h5, _⟩
  · subst h2; exact ⟨none, 0, h1, Nat.le_refl _, Nat.zero_le _⟩
  · exact ⟨_, cap, h1, h4, h5⟩
theorem OwnAt.rd {w : World} {B e n cap : Nat} {ao : Option Addr} {xs : List Value} (h : OwnAt w B e (.slice ao n cap) n xs) : Rd w ao n cap xs := by
  rcases h.2 with ⟨h1, h2⟩ | ⟨g, o, cap', cur, h1, h2, h3, h4, h5, h6, h7⟩
  · cases h1
    exact ⟨h.1, Nat.le_refl _, Nat.zero_le _, fun _ => rfl, fun h => by omega⟩
  · cases h1
    exact ⟨h.1, h4, h5, (fun h => by cases h), fun hn => ⟨g, o, rfl, row_lt h3, fun j hj => by rw [cell_of_row _ _ _ _ _ _ h3]; exact h7 j hj⟩⟩
theorem OwnAt.lt {w : World} {B e n : Nat} {v : Value} {xs : List Value} (h : OwnAt w B e v n xs) : ∀ k, v.ownBlock = some k → B ≤ k ∧ k < w.heap.size := by
  intro k hk
  rcases h.2 with ⟨h1, _⟩ | ⟨g, o, cap, cur, h1, h2, h3, _⟩
  · rw [h1] at hk; simp [Value.ownBlock] at hk
  · rw [h1] at hk; simp only [Value.ownBlock, Option.some.injEq] at hk; subst hk; exact ⟨h2, row_lt h3⟩
theorem OwnAt.kept {w w' : World} {B e n : Nat} {v : Value} {xs : List Value} {row : Option Nat} (h : OwnAt w B e v n xs) (hg : w.grownBy w' row) (hne : v.ownBlock = none ∨ v.ownBlock ≠ row) : OwnAt w' B e v n xs := by
  refine ⟨h.1, h.2.imp id ?_⟩
  rintro ⟨g, o, cap, cur, h1, h2, h3, h4⟩
  refine ⟨g, o, cap, cur, h1, h2, (hg.block g (row_lt h3) (fun he => ?_)).trans h3, h4⟩
  rw [h1] at hne
  rcases hne with h | h
  · simp [Value.ownBlock] at h
  · exact h he
theorem OwnAt.below {w w' : World} {B e n : Nat} {v : Value} {xs : List Value} (h : OwnAt w B e v n xs) (hb : Below w.heap.size w w') : OwnAt w' B e v n xs := by
  refine ⟨h.1, h.2.imp id ?_⟩
  rintro ⟨g, o, cap, cur, h1, h2, h3, h4⟩
  exact ⟨g, o, cap, cur, h1, h2, row_below h3 hb, h4⟩
theorem OwnAt.mono {w : World} {B B' e n : Nat} {v : Value} {xs : List Value} (h : OwnAt w B e v n xs) (hb : B' ≤ B) : OwnAt w B' e v n xs := by
  refine ⟨h.1, h.2.imp id ?_⟩
  rintro ⟨g, o, cap, cur, h1, h2, h3⟩
  exact ⟨g, o, cap, cur, h1, Nat.le_trans hb h2, h3⟩
/-- it lies in no block of another type -/
theorem OwnAt.ne {w : World} {B e n : Nat} {v : Value} {xs : List Value} (h : OwnAt w B e v n xs) {b T : Nat} {cs : Array Value} (A : w.heap[b]? = some (.cells cs T)) (hT : e ≠ T) : v.ownBlock = none ∨ v.ownBlock ≠ some b := by
  rcases h.2 with ⟨h1, _⟩ | ⟨g, o, cap, cur, h1, h2, h3, _⟩
  · rw [h1]; exact .inl rfl
  · rw [h1]
    refine .inr (fun e => ?_)
    simp only [Value.ownBlock, Option.some.injEq] at e
    subst e
    rw [A] at h3
    injection h3 with h4
    injection h4 with h5 h6
    exact hT h6.symm
/-- element i: where it lies -/
theorem OwnAt.at_ {w : World} {B e n : Nat} {v : Value} {xs : List Value} (h : OwnAt w B e v n xs) (hn : 0 < n) : ∃ g o cap, v = .slice (some ⟨g, o, none⟩) n cap ∧ B ≤ g ∧ g < w.heap.size ∧ (∀ i, i < n → w.cell? ⟨g, o + i, none⟩ = xs[i]? ∧ w.frozen? ⟨g, o + i, none⟩ = false) := by
  rcases h.2 with ⟨_, h0⟩ | ⟨g, o, cap, cur, h1, h2, h3, h4, h5, h6, h7⟩
  · omega
  · exact ⟨g, o, cap, h1, h2, row_lt h3, fun i hi => ⟨by rw [cell_of_row _ _ _ _ _ _ h3]; exact h7 i hi, frozen_row h3 _⟩⟩
/-- an element is stored to -/
theorem OwnAt.set {w : World} {B e n g o cap : Nat} {xs : List Value} (h : OwnAt w B e (.slice (some ⟨g, o, none⟩) n cap) n xs) (i : Nat) (hi : i < n) (x : Value) :
    OwnAt (w.setCell ⟨g, o + i, none⟩ x) B e (.slice (some ⟨g, o, none⟩) n cap) n (xs.set i x) ∧ w.grownBy (w.setCell ⟨g, o + i, none⟩ x) (some g) := by
  rcases h.2 with ⟨h1, _⟩ | ⟨g', o', cap', cur, h1, h2, h3, h4, h5, h6, h7⟩
  · cases h1
  · cases h1
    obtain ⟨q1, q2⟩ := set_row (cs' := cur.setIfInBounds (o + i) x) h3 (o + i) x rfl
    refine ⟨⟨by rw [List.length_set]; exact h.1, .inr ⟨g, o, cap, _, rfl, h2, q1, h4, h5, by simpa using h6, fun j hj => ?_⟩⟩, q2⟩
    have hl := h.1
    by_cases e : i = j
    · subst e
      rw [Array.getElem?_setIfInBounds_self_of_lt (by omega), List.getElem?_set_self (by omega)]
    · rw [Array.getElem?_setIfInBounds_ne (by omega), List.getElem?_set_ne e]
      exact h7 j hj
/-- cut at the front -/
theorem OwnAt.drop {w : World} {B e n g o cap : Nat} {xs : List Value} (h : OwnAt w B e (.slice (some ⟨g, o, none⟩) n cap) n xs) (k : Nat) (hk : k ≤ n) : OwnAt w B e (.slice (some ⟨g, if cap = k then o else o + k, none⟩) (n - k) (cap - k)) (n - k) (xs.drop k) := by
  rcases h.2 with ⟨h1, _⟩ | ⟨g', o', cap', cur, h1, h2, h3, h4, h5, h6, h7⟩
  · cases h1
  · cases h1
    refine ⟨by rw [List.length_drop, h.1], .inr ⟨g, _, cap - k, cur, rfl, h2, h3, by omega, by omega, ?_, fun j hj => ?_⟩⟩
    · split <;> omega
    · rw [if_neg (by omega), List.getElem?_drop, Nat.add_assoc]
      exact h7 (k + j) (by omega)
/-- cut at the end -/
theorem OwnAt.take {w : World} {B e n g o cap : Nat} {xs : List Value} (h : OwnAt w B e (.slice (some ⟨g, o, none⟩) n cap) n xs) (k : Nat) (hk : k ≤ n) : OwnAt w B e (.slice (some ⟨g, o, none⟩) k cap) k (xs.take k) := by
  rcases h.2 with ⟨h1, _⟩ | ⟨g', o', cap', cur, h1, h2, h3, h4, h5, h6, h7⟩
  · cases h1
  · cases h1
    exact ⟨by rw [List.length_take, h.1]; omega, .inr ⟨g, o, cap, cur, rfl, h2, h3, by omega, h5, h6, fun j hj => by rw [List.getElem?_take, if_pos hj]; exact h7 j (by omega)⟩⟩
/-- what lies behind it is stored to -/
theorem OwnAt.behind {w : World} {B e m g o cap : Nat} {xs : List Value} (h : OwnAt w B e (.slice (some ⟨g, o, none⟩) m cap) m xs) (p : Nat) (hp : m ≤ p) (x : Value) :
    OwnAt (w.setCell ⟨g, o + p, none⟩ x) B e (.slice (some ⟨g, o, none⟩) m cap) m xs ∧ w.grownBy (w.setCell ⟨g, o + p, none⟩ x) (some g) := by
  rcases h.2 with ⟨h1, _⟩ | ⟨g', o', cap', cur, h1, h2, h3, h4, h5, h6, h7⟩
  · cases h1
  · cases h1
    obtain ⟨q1, q2⟩ := set_row (cs' := cur.setIfInBounds (o + p) x) h3 (o + p) x rfl
    refine ⟨⟨h.1, .inr ⟨g, o, cap, _, rfl, h2, q1, h4, h5, by simpa using h6, fun j hj => ?_⟩⟩, q2⟩
    rw [Array.getElem?_setIfInBounds_ne (by omega)]
    exact h7 j hj
theorem OwnAt.behinds {B e m g o cap : Nat} {xs : List Value} : ∀ (vs : List Value) (p : Nat) (w : World), m ≤ p → OwnAt w B e (.slice (some ⟨g, o, none⟩) m cap) m xs →
    OwnAt (w.setCells g (o + p) vs) B e (.slice (some ⟨g, o, none⟩) m cap) m xs ∧ w.grownBy (w.setCells g (o + p) vs) (some g)
  | [], p, w, _, h => ⟨h, World.grownBy.refl _ _⟩
  | v :: vs, p, w, hp, h => by
    obtain ⟨h1, h2⟩ := h.behind p hp v
    have h3 := OwnAt.behinds vs (p + 1) _ (by omega) h1
    rw [← Nat.add_assoc] at h3
    exact ⟨h3.1, grownBy_trans h2 h3.2⟩
/-- one element is appended: in place, or in a new block -/
theorem run_append_at {P : Program} (w : World) (B t ty e : Nat) (i : TypeInfo) (z : Value) (bytes : Nat) (ht : P.underlying t = some (.slice e)) (hi : P.info? e = some i) (hz : i.zero = some z) (hsize : i.size = 1) (hby : i.bytes = bytes) (hzs : z.cells.size = 1)
    (v : Value) (n : Nat) (xs : List Value) (h : OwnAt w B e v n xs) (ad : Addr) (x : Value) (hx : w.cell? ad = some x) (h1 : x.oneCell' = true) (h63 : n + 1 ≤ maxLen) (hbytes : (n + 1) * bytes ≤ 140737488355328) (hB : B ≤ w.heap.size) :
    ∃ v' w', (Builtin.append_ #[t, t] ty #[v, .slice (some ad) 1 1]).run P w = .ok v' w' ∧ OwnAt w' B e v' (n + 1) (xs ++ [x]) ∧ w.grownBy w' v.ownBlock ∧ (v'.ownBlock = v.ownBlock ∨ ∃ k, v'.ownBlock = some k ∧ w.heap.size ≤ k) := by
  have hnews : ∀ (j : Nat) (u : Value), [x][j]? = some u → w.cell? (ad.add j) = some u := by
    intro j u hj
    match j, hj with
    | 0, hj =>
      simp at hj
      subst hj
      have : ad.add 0 = ad := by unfold Addr.add; split <;> simp_all
      rw [this]; exact hx
  have h1' : ∀ u ∈ [x], u.oneCell' = true := by
    intro u hu
    rw [List.mem_singleton] at hu
    subst hu
    exact h1
  rcases h.2 with ⟨hv, h0⟩ | ⟨g, o, cap, cur, hv, h2, h3, h4, h5, h6, h7⟩
  · subst h0
    obtain rfl : xs = [] := List.eq_nil_of_length_eq_zero h.1
    subst hv
    obtain ⟨v', w', hrun, r1, r2, r3⟩ := run_append_own (P := P) w B t ty e i z 1 bytes ht hi hz hsize hby hzs (by decide) (.slice none 0 0) 0 [] (World.ownsRow_nil w B e 1) ad 1 1 [x] rfl hnews h1' h63 hbytes hB
    refine ⟨v', w', hrun, OwnAt.of r1, r2, .inr ?_⟩
    rcases r1.2 with ⟨h1, h2⟩ | ⟨g, cap, cur, h1, h2, h3, _⟩
    · omega
    · refine ⟨g, by rw [h1]; rfl, ?_⟩
      rcases Nat.lt_or_ge g w.heap.size with hlt | hge
      · exfalso
        have hr3 := run_append_own (P := P) w w.heap.size t ty e i z 1 bytes ht hi hz hsize hby hzs (by decide) (.slice none 0 0) 0 [] (World.ownsRow_nil w w.heap.size e 1) ad 1 1 [x] rfl hnews h1' h63 hbytes (Nat.le_refl _)
        obtain ⟨v2, w2, hrun2, r21, _⟩ := hr3
        rw [hrun] at hrun2
        injection hrun2 with e1 e2
        subst e1
        have := r21.lt g (by rw [h1]; rfl)
        omega
      · exact hge
  · subst hv
    by_cases hr : n + 1 ≤ cap
    · have hc : ∀ j, j < [x].length → (w.cell? ⟨g, o + n * i.size + j, none⟩).isSome = true := fun j hj => by
        rw [hsize, Nat.mul_one]
        obtain rfl : j = 0 := by simpa using hj
        rw [cell_of_row _ _ _ _ _ _ h3, Nat.add_zero, Array.getElem?_eq_getElem (by omega)]
        rfl
      have hrun := run_append_room_cells (P := P) w t ty e i ht hi g o n cap ad 1 1 [x] (by rw [hsize]; rfl) hnews h1' hr hc (fun j _ => frozen_row h3 _)
      rw [hsize, Nat.mul_one] at hrun
      obtain ⟨q1, q2⟩ := set_row (cs' := cur.setIfInBounds (o + n) x) h3 (o + n) x rfl
      refine ⟨_, _, hrun, ⟨by rw [List.length_append, h.1]; rfl, .inr ⟨g, o, cap, cur.setIfInBounds (o + n) x, rfl, h2, q1, hr, h5, by simpa using h6, fun j hj => ?_⟩⟩, q2, .inl rfl⟩
      have hl := h.1
      by_cases e : j = n
      · subst e
        rw [Array.getElem?_setIfInBounds_self_of_lt (by omega), List.getElem?_append_right (by omega), hl, Nat.sub_self]
        rfl
      · rw [Array.getElem?_setIfInBounds_ne (by omega), List.getElem?_append_left (by omega)]
        exact h7 j (by omega)
    · obtain ⟨v', w', hrun, r1, r2⟩ := run_append_arg_grows (P := P) w t ty e i z 1 bytes ht hi hz hsize hby hzs (by decide) ⟨g, o, none⟩ n cap xs (by rw [h.1, Nat.mul_one]) (fun j u hj => by
        rw [Addr.add_lit, cell_of_row _ _ _ _ _ _ h3, ← hj]
        exact h7 j (by have := (List.getElem?_eq_some_iff.1 hj).1; have := h.1; omega)) ad 1 1 [x] rfl hnews (by omega) h63 hbytes
      refine ⟨v', w', hrun, (OwnAt.of r1).mono hB, ⟨r2.os, r2.tape, r2.output, r2.size, fun k hk _ => r2.block k hk (by simp)⟩, .inr ?_⟩
      rcases r1.2 with ⟨h1, h2⟩ | ⟨g', cap', cur', h1, h2, h3, _⟩
      · omega
      · exact ⟨g', by rw [h1]; rfl, h2⟩
theorem wp_append_at {P : Program} {w : World} {o : Oper} {a : Act} {K : Act → World → Prop} {Q : Exit → Act → World → Prop} (s x : Operand) (t : TypeId)
    (ho : o.op = .call { callee := .builtin .append, args := #[s, x], argTypes := #[t, t] })
    (B : Nat) (e : TypeId) (i : TypeInfo) (z : Value) (bytes : Nat) (ht : P.underlying t = some (.slice e)) (hi : P.info? e = some i) (hz : i.zero = some z) (hsize : i.size = 1) (hby : i.bytes = bytes) (hzs : z.cells.size = 1)
    (v : Value) (n : Nat) (xs : List Value) (hs : a.eval s = v) (hown : OwnAt w B e v n xs) (ad : Addr) (y : Value) (hx : a.eval x = .slice (some ad) 1 1) (hy : w.cell? ad = some y) (h1 : y.oneCell' = true) (h63 : n + 1 ≤ maxLen) (hbytes : (n + 1) * bytes ≤ 140737488355328) (hB : B ≤ w.heap.size)
    (h : ∀ v' w', OwnAt w' B e v' (n + 1) (xs ++ [y]) → w.grownBy w' v.ownBlock → (v'.ownBlock = v.ownBlock ∨ ∃ k, v'.ownBlock = some k ∧ w.heap.size ≤ k) → K (a.put o.dst v') w') : o.wp P a w K Q := by
  obtain ⟨v', w', hrun, r1, r2, r3⟩ := run_append_at (P := P) w B t o.type e i z bytes ht hi hz hsize hby hzs v n xs hown ad y hy h1 h63 hbytes hB
  unfold Oper.wp
  simp [execOp, ho, resolve, invoke, builtin, hs, hx, hrun, Result.andThen]
  exact h v' w' r1 r2 r3
theorem wpList_append_at {P : Program} {w : World} {ops : Array Oper} {rest : List Oper} {o : Oper} {a : Act} {Q : Exit → Act → World → Prop} (hgd : o.guard = none) (s x : Operand) (t : TypeId)
    (ho : o.op = .call { callee := .builtin .append, args := #[s, x], argTypes := #[t, t] })
    (B : Nat) (e : TypeId) (i : TypeInfo) (z : Value) (bytes : Nat) (ht : P.underlying t = some (.slice e)) (hi : P.info? e = some i) (hz : i.zero = some z) (hsize : i.size = 1) (hby : i.bytes = bytes) (hzs : z.cells.size = 1)
    (v : Value) (n : Nat) (xs : List Value) (hs : a.eval s = v) (hown : OwnAt w B e v n xs) (ad : Addr) (y : Value) (hx : a.eval x = .slice (some ad) 1 1) (hy : w.cell? ad = some y) (h1 : y.oneCell' = true) (h63 : n + 1 ≤ maxLen) (hbytes : (n + 1) * bytes ≤ 140737488355328) (hB : B ≤ w.heap.size)
    (h : ∀ v' w', OwnAt w' B e v' (n + 1) (xs ++ [y]) → w.grownBy w' v.ownBlock → (v'.ownBlock = v.ownBlock ∨ ∃ k, v'.ownBlock = some k ∧ w.heap.size ≤ k) → wpList P ops Q rest (a.put o.dst v') w') : wpList P ops Q (o :: rest) a w :=
  wpList_plain hgd fun _ hK => wp_append_at s x t ho B e i z bytes ht hi hz hsize hby hzs v n xs hs hown ad y hx hy h1 h63 hbytes hB fun v' w' h2 h3 h4 => hK _ _ (h v' w' h2 h3 h4)
end Go.Proofs.Ytkngoomkmbkenaa
/- A hand at work: its memory; send. -/
namespace Go.Proofs.Ytkngoomkmbkenaa
set_option linter.unusedVariables false
open Go.RowKit

/-- a hand at work, with its rows -/
structure WS where
  N : Nat
  ah : Nat
  tm : Nat
  pt : Nat
  tr : Nat
  si : Nat
  pz : Nat
  ha : Nat
  sa : Option Addr
  sn : Nat
  sc : Nat
  Rs : List RB
  qa : Option Addr
  qn : Nat
  qc : Nat
  Rq : List RB
  ga : Option Addr
  gn : Nat
  gc : Nat
  Rg : List RB
  ks : List (Nat × Array Value)
def WS.sv (x : WS) : Value := .slice x.sa x.sn x.sc
def WS.qv (x : WS) : Value := .slice x.qa x.qn x.qc
def WS.gv (x : WS) : Value := .slice x.ga x.gn x.gc
def WS.cells (x : WS) : Array Value := #[.int .i64 3, .int .i64 (x.N : Int), .int .i64 (x.ah : Int), .slice x.sa x.sn x.sc, .slice x.qa x.qn x.qc, .int .i64 (x.tm : Int), .int .i64 (x.pt : Int), .int .i64 (x.tr : Int), .int .i64 100, .int .i64 (x.si : Int), .int .i64 (x.pz : Int), .int .i64 (x.ha : Int), .slice x.ga x.gn x.gc]
def WS.hand (x : WS) : Array Value := #[.int .i64 3, .int .i64 (x.N : Int), .int .i64 (x.ah : Int), .slice x.sa x.sn x.sc, .slice x.qa x.qn x.qc, .int .i64 (x.tm : Int), .int .i64 (x.pt : Int), .int .i64 (x.tr : Int), .int .i64 100, .int .i64 (x.si : Int), .int .i64 (x.pz : Int), .int .i64 (x.ha : Int)]
/-- rows of bytes that all read -/
def RR (W : World) (B : Nat) (R : List RB) : Prop := ∀ r ∈ R, RdT 5 W r.1.1 r.1.2.1 r.1.2.2 (vb r.2) ∧ Lo B r
theorem RR.below {W W' : World} {B : Nat} {R : List RB} (h : RR W B R) (hb : Below W.heap.size W W') : RR W' B R := fun r hr => ⟨(h r hr).1.below hb, (h r hr).2⟩
theorem RR.kept {W W' : World} {B : Nat} {R : List RB} {row : Option Nat} (h : RR W B R) (hg : W.grownBy W' row) (h5 : ∀ b cs, W.heap[b]? = some (.cells cs 5) → row ≠ some b) : RR W' B R := fun r hr => ⟨(h r hr).1.kept hg h5, (h r hr).2⟩
theorem RR.mono {W : World} {B B' : Nat} {R : List RB} (h : RR W B R) (hb : B' ≤ B) : RR W B' R := fun r hr => ⟨(h r hr).1, (h r hr).2.mono hb⟩
theorem RR.append {W : World} {B : Nat} {R S : List RB} (h : RR W B R) (k : RR W B S) : RR W B (R ++ S) := fun r hr => by
  rcases List.mem_append.1 hr with h1 | h1
  · exact h r h1
  · exact k r h1
theorem RR.nil (W : World) (B : Nat) : RR W B [] := fun r hr => by cases hr
/-- two values lie in different blocks -/
def Apart (u v : Value) : Prop := ∀ k, u.ownBlock = some k → v.ownBlock ≠ some k
theorem Apart.ne {u v : Value} (h : Apart u v) : v.ownBlock = none ∨ v.ownBlock ≠ u.ownBlock := by
  cases hu : u.ownBlock with
  | none => cases hv : v.ownBlock with
    | none => exact .inl rfl
    | some k => exact .inr (by simp)
  | some k => exact .inr (h k hu)
theorem Apart.symm {u v : Value} (h : Apart u v) : Apart v u := fun k hv hu => h k hu hv
structure RO (W : World) (B : Nat) (x : WS) : Prop where
  so : OwnAt W B 31 x.sv x.sn (rcs x.Rs)
  qo : OwnAt W B 31 x.qv x.qn (rcs x.Rq)
  go : OwnAt W B 31 x.gv x.gn (rcs x.Rg)
  sr : RR W B x.Rs
  qr : RR W B x.Rq
  gr : RR W B x.Rg
  sq : Apart x.sv x.qv
  sg : Apart x.sv x.gv
  qg : Apart x.qv x.gv
theorem RO.below {W W' : World} {B : Nat} {x : WS} (h : RO W B x) (hb : Below W.heap.size W W') : RO W' B x :=
  ⟨h.so.below hb, h.qo.below hb, h.go.below hb, h.sr.below hb, h.qr.below hb, h.gr.below hb, h.sq, h.sg, h.qg⟩
theorem at_type {W : World} {B T n : Nat} {v : Value} {xs : List Value} (h : OwnAt W B T v n xs) {T' : TypeId} (hT : T ≠ T') : ∀ b cs, W.heap[b]? = some (.cells cs T') → v.ownBlock ≠ some b := fun b cs hb e => by
  rcases h.ne hb hT with h1 | h1
  · rw [h1] at e; cases e
  · exact h1 e
theorem ne_tt {W : World} {a b T1 T2 : Nat} {c1 c2 : Array Value} (h1 : W.heap[a]? = some (.cells c1 T1)) (h2 : W.heap[b]? = some (.cells c2 T2)) (h : T1 ≠ T2) : a ≠ b := fun e => by
  subst e
  rw [h1] at h2
  injection h2 with e1
  injection e1 with e2 e3
  exact h e3
theorem row_type {W : World} {k T : Nat} {cs : Array Value} (h : W.heap[k]? = some (.cells cs T)) {T' : TypeId} (hT : T ≠ T') : ∀ b cs', W.heap[b]? = some (.cells cs' T') → some k ≠ some b := fun b cs' hb e => by
  cases e
  exact ne_tt h hb hT rfl
/-- a block of another type is stored to -/
theorem RO.other {W W' : World} {B k T : Nat} {x : WS} {cs : Array Value} (h : RO W B x) (hg : W.grownBy W' (some k)) (hk : W.heap[k]? = some (.cells cs T)) (h1 : 31 ≠ T) (h2 : T ≠ 5) : RO W' B x :=
  ⟨h.so.kept hg (h.so.ne hk h1), h.qo.kept hg (h.qo.ne hk h1), h.go.kept hg (h.go.ne hk h1), h.sr.kept hg (row_type hk h2), h.qr.kept hg (row_type hk h2), h.gr.kept hg (row_type hk h2), h.sq, h.sg, h.qg⟩
structure XM (W : World) (X B : Nat) (x : WS) : Prop where
  bx : W.heap[X]? = some (.cells x.cells 63)
  ro : RO W B x
  sp : ∀ p ∈ x.ks, W.heap[p.1]? = some (.cells p.2 25)
theorem XM.below {W W' : World} {X B : Nat} {x : WS} (h : XM W X B x) (hb : Below W.heap.size W W') : XM W' X B x := ⟨row_below h.bx hb, h.ro.below hb, fun p hp => row_below (h.sp p hp) hb⟩
/-- its block is written to; the rows of the new state are known -/
theorem XM.set {W W' : World} {X B : Nat} {x x' : WS} (h : XM W X B x) (hg : W.grownBy W' (some X)) (hn : W'.heap[X]? = some (.cells x'.cells 63)) (hr : RO W B x') (hk : x'.ks = x.ks := by rfl) : XM W' X B x' :=
  ⟨hn, hr.other hg h.bx (by decide) (by decide), fun p hp => by
    rw [hk] at hp
    exact row_grown (h.sp p hp) hg (ne_tt (h.sp p hp) h.bx (by decide))⟩
theorem apart_new {W : World} {B T n : Nat} {u v v' : Value} {xs : List Value} (hu : OwnAt W B T u n xs) (h : Apart u v) (hw : v'.ownBlock = v.ownBlock ∨ ∃ k, v'.ownBlock = some k ∧ W.heap.size ≤ k) : Apart u v' := fun k hk e => by
  rcases hw with h1 | ⟨k2, h1, h2⟩
  · exact h k hk (by rw [← h1]; exact e)
  · rw [h1] at e
    cases e
    have := (hu.lt _ hk).2
    omega
/-- something goes up -/
theorem RO.appG {W W' : World} {B : Nat} {x : WS} (h : RO W B x) {va : Option Addr} {vc : Nat} {r : RB} (ho : OwnAt W' B 31 (.slice va (x.gn + 1) vc) (x.gn + 1) (rcs x.Rg ++ [.slice r.1.1 r.1.2.1 r.1.2.2])) (hg : W.grownBy W' x.gv.ownBlock) (hw : (Value.slice va (x.gn + 1) vc).ownBlock = x.gv.ownBlock ∨ ∃ k, (Value.slice va (x.gn + 1) vc).ownBlock = some k ∧ W.heap.size ≤ k)
    (hr : RdT 5 W r.1.1 r.1.2.1 r.1.2.2 (vb r.2) ∧ Lo B r) : RO W' B { x with ga := va, gn := x.gn + 1, gc := vc, Rg := x.Rg ++ [r] } := by
  have t5 := at_type h.go (T' := 5) (by decide)
  refine ⟨h.so.kept hg h.sg.symm.ne, h.qo.kept hg h.qg.symm.ne, ?_, h.sr.kept hg t5, h.qr.kept hg t5, (h.gr.kept hg t5).append (fun y hy => ?_), h.sq, apart_new h.so h.sg hw, apart_new h.qo h.qg hw⟩
  · show OwnAt W' B 31 (.slice va (x.gn + 1) vc) (x.gn + 1) (rcs (x.Rg ++ [r]))
    rw [rcs_append]
    exact ho
  · rw [List.mem_singleton] at hy
    subst hy
    exact ⟨hr.1.kept hg t5, hr.2⟩
theorem RO.appS {W W' : World} {B : Nat} {x : WS} (h : RO W B x) {va : Option Addr} {vc : Nat} {r : RB} (ho : OwnAt W' B 31 (.slice va (x.sn + 1) vc) (x.sn + 1) (rcs x.Rs ++ [.slice r.1.1 r.1.2.1 r.1.2.2])) (hg : W.grownBy W' x.sv.ownBlock) (hw : (Value.slice va (x.sn + 1) vc).ownBlock = x.sv.ownBlock ∨ ∃ k, (Value.slice va (x.sn + 1) vc).ownBlock = some k ∧ W.heap.size ≤ k)
    (hr : RdT 5 W r.1.1 r.1.2.1 r.1.2.2 (vb r.2) ∧ Lo B r) : RO W' B { x with sa := va, sn := x.sn + 1, sc := vc, Rs := x.Rs ++ [r] } := by
  have t5 := at_type h.so (T' := 5) (by decide)
  refine ⟨?_, h.qo.kept hg h.sq.ne, h.go.kept hg h.sg.ne, (h.sr.kept hg t5).append (fun y hy => ?_), h.qr.kept hg t5, h.gr.kept hg t5, (apart_new h.qo h.sq.symm hw).symm, (apart_new h.go h.sg.symm hw).symm, h.qg⟩
  · show OwnAt W' B 31 (.slice va (x.sn + 1) vc) (x.sn + 1) (rcs (x.Rs ++ [r]))
    rw [rcs_append]
    exact ho
  · rw [List.mem_singleton] at hy
    subst hy
    exact ⟨hr.1.kept hg t5, hr.2⟩
theorem RdT.ofAt {T : TypeId} {w : World} {B n c : Nat} {ao : Option Addr} {xs : List Value} (h : OwnAt w B T (.slice ao n c) n xs) : RdT T w ao n c xs := by
  refine ⟨h.rd, fun hn => ?_⟩
  rcases h.2 with ⟨h1, h2⟩ | ⟨g, o, cap, cur, h1, h2, h3, _⟩
  · omega
  · cases h1
    exact ⟨g, o, cur, rfl, h3⟩
theorem RO.mono {W : World} {B B' : Nat} {x : WS} (h : RO W B x) (hb : B' ≤ B) : RO W B' x := ⟨h.so.mono hb, h.qo.mono hb, h.go.mono hb, h.sr.mono hb, h.qr.mono hb, h.gr.mono hb, h.sq, h.sg, h.qg⟩
theorem RO.sp {W : World} {B : Nat} {x : WS} (h : RO W B x) : PkT W x.sa x.sn x.sc x.Rs := ⟨RdT.ofAt h.so, fun r hr => (h.sr r hr).1⟩
theorem RO.qp {W : World} {B : Nat} {x : WS} (h : RO W B x) : PkT W x.qa x.qn x.qc x.Rq := ⟨RdT.ofAt h.qo, fun r hr => (h.qr r hr).1⟩
theorem RO.gp {W : World} {B : Nat} {x : WS} (h : RO W B x) : PkT W x.ga x.gn x.gc x.Rg := ⟨RdT.ofAt h.go, fun r hr => (h.gr r hr).1⟩
/-- a frame of command d -/
def cmdB (d : Nat) : List Nat := encO 3 false false d [d]
structure SndR (W0 W : World) (X B : Nat) (x : WS) (d : Nat) (e : Ending) : Prop where
  ex : ∃ ga gc ea ec, e = .returned (.tuple #[]) ∧ XM W X B { x with ga := ga, gn := x.gn + 1, gc := gc, Rg := x.Rg ++ [((ea, 8, ec), cmdB d)] }
  blw : Below B W0 W
set_option maxRecDepth 1000000 in
set_option maxHeartbeats 8000000 in
theorem snd_ok (X B : Nat) (x : WS) (d : Nat) (a : Option Addr) (c : Nat) (w : World) (h : XM w X B x) (hr : RdT 5 w a 1 c (vb [d])) (hd : d ≤ 100) (hgn : x.gn ≤ 100000) (hB : B ≤ X) :
    Calls Try.prog 20 #[.pointer (some ⟨X, 0, none⟩), .agg #[.int .i64 0, .bool false, .bool false, .int .i64 (d : Int), .slice a 1 c]] w fun e w' => SndR w w' X B x d e := by
  obtain ⟨i0, hi0, hz0, hz1, hz2⟩ := info_parts Try.info31
  have hXl := row_lt h.bx
  have A := heap_alloc_new w (.cells #[.int .i64 0, .bool false, .bool false, .int .i64 (d : Int), .slice a 1 c] 33)
  have BA := below_alloc w (.cells #[.int .i64 0, .bool false, .bool false, .int .i64 (d : Int), .slice a 1 c] 33)
  have H1 := hid (h.below BA)
  have hr1 := hid (hr.below BA)
  have B1 := hid (BA.mono (Nat.le_trans hB (Nat.le_of_lt hXl)))
  obtain ⟨D, hD⟩ : ∃ D, D = w.heap.size := ⟨_, rfl⟩
  rw [← hD] at A
  have HA := hid A
  have hBD : B ≤ D := by rw [hD]; exact Nat.le_trans hB (Nat.le_of_lt hXl)
  have HD := hid hD
  clear A BA h hr hD hXl
  go_enter Try.func20, Try.ntmps20
  refine wp_seq_k (fun K0 hK0 => ?_)
  go_wp2_with fail
  rw [← HD.out]
  refine hK0.out _ _ ?_
  generalize w.alloc (.cells #[.int .i64 0, .bool false, .bool false, .int .i64 (d : Int), .slice a 1 c] 33) = V at *
  have x0 : V.cell? ⟨X, 0, none⟩ = some (.int .i64 3) := by rw [cell_of_row _ _ _ _ _ _ H1.out.bx]; rfl
  have q0 : V.cell? ⟨D, 0, none⟩ = some (.int .i64 0) := by rw [cell_of_row _ _ _ _ _ _ HA.out]; rfl
  have fz := frozen_row HA.out 0
  obtain ⟨s1, s2⟩ := set_row (cs' := #[.int .i64 3, .bool false, .bool false, .int .i64 (d : Int), .slice a 1 c]) HA.out 0 (.int .i64 3) rfl
  have HA2 := hid s1
  have H2 : Hid (XM (V.setCell ⟨D, 0, none⟩ (.int .i64 3)) X B x) := ⟨row_grown H1.out.bx s2 (ne_tt H1.out.bx HA.out (by decide)), H1.out.ro.other s2 HA.out (by decide) (by decide), fun p hp => row_grown (H1.out.sp p hp) s2 (ne_tt (H1.out.sp p hp) HA.out (by decide))⟩
  have B2 := hid (B1.out.grown s2 (Nat.le_trans hBD (Nat.le_of_lt (row_lt HA.out))) (fun k e => by cases e; exact hBD))
  have hr2 := hid (hr1.out.other s2 HA.out (by decide))
  clear s1 s2 H1 B1 hr1 HA
  refine wp_seq_k (fun K1 hK1 => ?_)
  go_wp2_with fail
  refine hK1.out _ _ ?_
  clear x0 q0 fz
  generalize V.setCell ⟨D, 0, none⟩ (.int .i64 3) = V2 at *
  obtain ⟨o0, o1, o2, o3, o4⟩ := oAt_row HA2.out
  have henc := encode_ok 3 false false d a 1 c [d] V2 hr2.out.rd (fun y hy => by rw [List.mem_singleton] at hy; omega) (by decide) (by omega) (fun h => by cases h) (by decide) (by decide)
  unfold ocells at henc
  simp only [Nat.reduceAdd] at henc
  rw [show ((3 : Nat) : Int) = 3 from rfl, show encO 3 false false d [d] = cmdB d from rfl] at henc
  refine wp_seq_k (fun K2 hK2 => ?_)
  go_wp2_with fail
  refine henc.mono ?_
  rintro e V3 ⟨ea, ec, rfl, oe, hb⟩
  have H3 := hid (H2.out.below hb)
  have B3 := hid (B2.out.trans (hb.mono (Nat.le_trans hBD (Nat.le_of_lt (row_lt HA2.out)))))
  have hr3 := hid (RdT.ofOwn oe)
  have HLo : Hid (Lo B ((ea, 8, ec), cmdB d)) := fun q hq => Nat.le_trans (Nat.le_trans hBD (Nat.le_of_lt (row_lt HA2.out))) (oe.lt q hq).1
  clear henc oe hb H2 B2 hr2 HA2 o0 o1 o2 o3 o4
  go_wp2_with fail
  refine hK2.out _ _ ?_
  have c12 : V3.cell? ⟨X, 12, none⟩ = some (.slice x.ga x.gn x.gc) := by rw [cell_of_row _ _ _ _ _ _ H3.out.bx]; rfl
  have bN := below_alloc V3 (.cells #[.slice ea 8 ec] 31)
  have H4 := hid (H3.out.below bN)
  have B4 := hid (B3.out.trans (bN.mono (Nat.le_trans hB (Nat.le_of_lt (row_lt H3.out.bx)))))
  have hr4 := hid (hr3.out.below bN)
  have hy : (V3.alloc (.cells #[.slice ea 8 ec] 31)).cell? ⟨V3.heap.size, 0, none⟩ = some (.slice ea 8 ec) := by rw [cell_of_row _ _ _ _ _ _ (heap_alloc_new V3 _)]; rfl
  have hB4 : B ≤ (V3.alloc (.cells #[.slice ea 8 ec] 31)).heap.size := Nat.le_trans hB (Nat.le_of_lt (row_lt H4.out.bx))
  clear H3 B3 hr3 bN
  go_wp2_with (at_builtin; refine hold ?_)
  unfold Hid
  refine wpList_append_at rfl _ _ 34 rfl B 31 i0 (.slice none 0 0) 24 Try.underlying34 hi0 hz0 hz1 hz2 rfl (.slice x.ga x.gn x.gc) x.gn (rcs x.Rg) rfl H4.out.ro.go ⟨V3.heap.size, 0, none⟩ (.slice ea 8 ec) rfl hy rfl (by unfold maxLen; omega) (by omega) hB4 ?_
  intro v' V5 o5 g5 hw5
  obtain ⟨va, vc, rfl, _, _⟩ := o5.form
  have h5 := H4.out.ro.appG (r := ((ea, 8, ec), cmdB d)) o5 g5 hw5 ⟨hr4.out, HLo.out⟩
  have hX5 : V5.heap[X]? = some (.cells x.cells 63) := (g5.block X (row_lt H4.out.bx) (fun e => at_type H4.out.ro.go (T' := 63) (by decide) X _ H4.out.bx e.symm)).trans H4.out.bx
  have HK5 : Hid (∀ p ∈ x.ks, V5.heap[p.1]? = some (.cells p.2 25)) := fun p hp => (g5.block p.1 (row_lt (H4.out.sp p hp)) (fun e => at_type H4.out.ro.go (T' := 25) (by decide) p.1 _ (H4.out.sp p hp) e.symm)).trans (H4.out.sp p hp)
  have B5 := hid (B4.out.grown g5 hB4 (fun k hk => (H4.out.ro.go.lt k hk).1))
  have H5 := hid h5
  have HX5 := hid hX5
  clear o5 g5 hw5 h5 hX5 H4 B4 hr4 hy hB4 c12
  have c12 : V5.cell? ⟨X, 12, none⟩ = some (.slice x.ga x.gn x.gc) := by rw [cell_of_row _ _ _ _ _ _ HX5.out]; rfl
  have fz := frozen_row HX5.out 12
  obtain ⟨s1, s2⟩ := set_row (cs' := WS.cells { x with ga := va, gn := x.gn + 1, gc := vc, Rg := x.Rg ++ [((ea, 8, ec), cmdB d)] }) HX5.out 12 (.slice va (x.gn + 1) vc) rfl
  have HS1 := hid s1
  have HS2 := hid s2
  clear s1 s2
  go_wp2_with fail
  go_end0
  exact ⟨⟨va, vc, ea, ec, rfl, HS1.out, H5.out.other HS2.out HX5.out (by decide) (by decide), fun p hp => row_grown (HK5.out p hp) HS2.out (ne_tt (HK5.out p hp) HX5.out (by decide))⟩, B5.out.grown HS2.out (Nat.le_trans hB (Nat.le_of_lt (row_lt HX5.out))) (fun k e => by cases e; exact hB)⟩
end Go.Proofs.Ytkngoomkmbkenaa
