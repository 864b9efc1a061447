/- Several cells in the middle of a block are stored to. -/
import Derived.Test.YtfbchmihkndfaaaDue3
import Derived.Deep.MidRow
import Derived.ArgAppend
import Derived.Laws.AppendOwnNone
import Derived.OwnWalk
import Derived.WalkSpells
import Derived.Test.YtfbchmihkndfaaaDue4
import Derived.Test.YtfbchmihkndfaaaDue2
import Derived.Deep.DeepCutAuto
namespace Go.Proofs.Ytfbchmihkndfaaa
set_option linter.unusedVariables false
open Go.RowKit

theorem set_cells {b : Nat} {e : TypeId} (z : List Value) : ∀ (vs a m : List Value) (W : World), W.heap[b]? = some (.cells (a ++ (m ++ z)).toArray e) → m.length = vs.length →
    (W.setCells b a.length vs).heap[b]? = some (.cells (a ++ (vs ++ z)).toArray e) ∧ W.grownBy (W.setCells b a.length vs) (some b)
  | [], a, m, W, h, hl => by
    obtain rfl : m = [] := List.eq_nil_of_length_eq_zero (by simpa using hl)
    exact ⟨h, World.grownBy.refl _ _⟩
  | v :: vs, a, [], W, h, hl => by simp at hl
  | v :: vs, a, x :: m, W, h, hl => by
    have h1 := set_row (cs' := (a ++ (v :: m ++ z)).toArray) h a.length v (by
      rw [List.setIfInBounds_toArray, List.set_append_right _ _ (Nat.le_refl _), Nat.sub_self]
      rfl)
    obtain ⟨h2, h3⟩ := h1
    have h4 := set_cells (e := e) (b := b) z vs (a ++ [v]) m (W.setCell ⟨b, a.length, none⟩ v) (by rw [h2]; simp) (by simpa using hl)
    rw [show (a ++ [v]).length = a.length + 1 by simp] at h4
    refine ⟨?_, grownBy_trans h3 h4.2⟩
    show ((W.setCell ⟨b, a.length, none⟩ v).setCells b (a.length + 1) vs).heap[b]? = _
    rw [h4.1]
    simp
/-- cells in the middle of a block, as the load's law asks them -/
theorem range_row {W : World} {b : Nat} {e : TypeId} {a m z : List Value} (h : W.heap[b]? = some (.cells (a ++ (m ++ z)).toArray e)) : W.rangeAt b a.length m := fun j v hv => by
  have hj : j < m.length := (List.getElem?_eq_some_iff.1 hv).1
  rw [cell_of_row _ _ _ _ _ _ h, List.getElem?_toArray, List.getElem?_append_right (by omega), Nat.add_sub_cancel_left, List.getElem?_append_left hj, hv]
theorem there_row {W : World} {b : Nat} {e : TypeId} {cs : List Value} (h : W.heap[b]? = some (.cells cs.toArray e)) (o n : Nat) (hn : o + n ≤ cs.length) : W.there b o n := fun j hj => by
  refine ⟨?_, frozen_row h _⟩
  rw [cell_of_row _ _ _ _ _ _ h, List.getElem?_toArray, List.getElem?_eq_getElem (by omega)]
  rfl
end Go.Proofs.Ytfbchmihkndfaaa
/- Own slices of one-cell elements that may begin anywhere in their block: read, stored to, cut, appended to. -/
namespace Go.Proofs.Ytfbchmihkndfaaa
set_option linter.unusedVariables false
open Go.RowKit

/-- the slice v reads as xs and lies in a block from B on of its own (or is nil) -/
def OwnAt (w : World) (B : Nat) (e : TypeId) (v : Value) (n : Nat) (xs : List Value) : Prop :=
  xs.length = n ∧ ((v = .slice none 0 0 ∧ n = 0) ∨ ∃ g o cap cur, v = .slice (some ⟨g, o, none⟩) n cap ∧ B ≤ g ∧ w.heap[g]? = some (.cells cur e) ∧ n ≤ cap ∧ cap ≤ maxLen ∧ o + cap ≤ cur.size ∧ ∀ j, j < n → cur[o + j]? = xs[j]?)
theorem OwnAt.nil (w : World) (B : Nat) (e : TypeId) : OwnAt w B e (.slice none 0 0) 0 [] := ⟨rfl, .inl ⟨rfl, rfl⟩⟩
theorem OwnAt.of {w : World} {B e n : Nat} {v : Value} {xs : List Value} (h : w.ownsRow B e 1 v n xs) : OwnAt w B e v n xs := by
  have hl := h.1
  rw [Nat.mul_one] at hl
  refine ⟨hl, ?_⟩
  rcases h.2 with ⟨h1, h2⟩ | ⟨g, cap, cur, h1, h2, h3, h4, h5, h6, h7⟩
  · exact .inl ⟨h1, h2⟩
  · refine .inr ⟨g, 0, cap, cur, h1, h2, h3, h4, h5, by omega, fun j hj => ?_⟩
    have h8 := h.cells (by rw [h1]; rfl) j
    rw [Nat.zero_add]
    rw [Nat.mul_one] at h7
    rw [← h7, List.getElem?_take, if_pos hj]
    simp
theorem OwnAt.form {w : World} {B e n : Nat} {v : Value} {xs : List Value} (h : OwnAt w B e v n xs) : ∃ ao cap, v = .slice ao n cap ∧ n ≤ cap ∧ cap ≤ maxLen := by
  rcases h.2 with ⟨h1, h2⟩ | ⟨g, o, cap, cur, h1, h2, h3, h4, h5, _⟩
  · subst h2; exact ⟨none, 0, h1, Nat.le_refl _, Nat.zero_le _⟩
  · exact ⟨_, cap, h1, h4, h5⟩
theorem OwnAt.rd {w : World} {B e n cap : Nat} {ao : Option Addr} {xs : List Value} (h : OwnAt w B e (.slice ao n cap) n xs) : Rd w ao n cap xs := by
  rcases h.2 with ⟨h1, h2⟩ | ⟨g, o, cap', cur, h1, h2, h3, h4, h5, h6, h7⟩
  · cases h1
    exact ⟨h.1, Nat.le_refl _, Nat.zero_le _, fun _ => rfl, fun h => by omega⟩
  · cases h1
    exact ⟨h.1, h4, h5, (fun h => by cases h), fun hn => ⟨g, o, rfl, row_lt h3, fun j hj => by rw [cell_of_row _ _ _ _ _ _ h3]; exact h7 j hj⟩⟩
theorem OwnAt.lt {w : World} {B e n : Nat} {v : Value} {xs : List Value} (h : OwnAt w B e v n xs) : ∀ k, v.ownBlock = some k → B ≤ k ∧ k < w.heap.size := by
  intro k hk
  rcases h.2 with ⟨h1, _⟩ | ⟨g, o, cap, cur, h1, h2, h3, _⟩
  · rw [h1] at hk; simp [Value.ownBlock] at hk
  · rw [h1] at hk; simp only [Value.ownBlock, Option.some.injEq] at hk; subst hk; exact ⟨h2, row_lt h3⟩
theorem OwnAt.kept {w w' : World} {B e n : Nat} {v : Value} {xs : List Value} {row : Option Nat} (h : OwnAt w B e v n xs) (hg : w.grownBy w' row) (hne : v.ownBlock = none ∨ v.ownBlock ≠ row) : OwnAt w' B e v n xs := by
  refine ⟨h.1, h.2.imp id ?_⟩
  rintro ⟨g, o, cap, cur, h1, h2, h3, h4⟩
  refine ⟨g, o, cap, cur, h1, h2, (hg.block g (row_lt h3) (fun he => ?_)).trans h3, h4⟩
  rw [h1] at hne
  rcases hne with h | h
  · simp [Value.ownBlock] at h
  · exact h he
theorem OwnAt.below {w w' : World} {B e n : Nat} {v : Value} {xs : List Value} (h : OwnAt w B e v n xs) (hb : Below w.heap.size w w') : OwnAt w' B e v n xs := by
  refine ⟨h.1, h.2.imp id ?_⟩
  rintro ⟨g, o, cap, cur, h1, h2, h3, h4⟩
  exact ⟨g, o, cap, cur, h1, h2, row_below h3 hb, h4⟩
theorem OwnAt.mono {w : World} {B B' e n : Nat} {v : Value} {xs : List Value} (h : OwnAt w B e v n xs) (hb : B' ≤ B) : OwnAt w B' e v n xs := by
  refine ⟨h.1, h.2.imp id ?_⟩
  rintro ⟨g, o, cap, cur, h1, h2, h3⟩
  exact ⟨g, o, cap, cur, h1, Nat.le_trans hb h2, h3⟩
/-- it lies in no block of another type -/
theorem OwnAt.ne {w : World} {B e n : Nat} {v : Value} {xs : List Value} (h : OwnAt w B e v n xs) {b T : Nat} {cs : Array Value} (A : w.heap[b]? = some (.cells cs T)) (hT : e ≠ T) : v.ownBlock = none ∨ v.ownBlock ≠ some b := by
  rcases h.2 with ⟨h1, _⟩ | ⟨g, o, cap, cur, h1, h2, h3, _⟩
  · rw [h1]; exact .inl rfl
  · rw [h1]
    refine .inr (fun e => ?_)
    simp only [Value.ownBlock, Option.some.injEq] at e
    subst e
    rw [A] at h3
    injection h3 with h4
    injection h4 with h5 h6
    exact hT h6.symm
/-- element i: where it lies -/
theorem OwnAt.at_ {w : World} {B e n : Nat} {v : Value} {xs : List Value} (h : OwnAt w B e v n xs) (hn : 0 < n) : ∃ g o cap, v = .slice (some ⟨g, o, none⟩) n cap ∧ B ≤ g ∧ g < w.heap.size ∧ (∀ i, i < n → w.cell? ⟨g, o + i, none⟩ = xs[i]? ∧ w.frozen? ⟨g, o + i, none⟩ = false) := by
  rcases h.2 with ⟨_, h0⟩ | ⟨g, o, cap, cur, h1, h2, h3, h4, h5, h6, h7⟩
  · omega
  · exact ⟨g, o, cap, h1, h2, row_lt h3, fun i hi => ⟨by rw [cell_of_row _ _ _ _ _ _ h3]; exact h7 i hi, frozen_row h3 _⟩⟩
/-- an element is stored to -/
theorem OwnAt.set {w : World} {B e n g o cap : Nat} {xs : List Value} (h : OwnAt w B e (.slice (some ⟨g, o, none⟩) n cap) n xs) (i : Nat) (hi : i < n) (x : Value) :
    OwnAt (w.setCell ⟨g, o + i, none⟩ x) B e (.slice (some ⟨g, o, none⟩) n cap) n (xs.set i x) ∧ w.grownBy (w.setCell ⟨g, o + i, none⟩ x) (some g) := by
  rcases h.2 with ⟨h1, _⟩ | ⟨g', o', cap', cur, h1, h2, h3, h4, h5, h6, h7⟩
  · cases h1
  · cases h1
    obtain ⟨q1, q2⟩ := set_row (cs' := cur.setIfInBounds (o + i) x) h3 (o + i) x rfl
    refine ⟨⟨by rw [List.length_set]; exact h.1, .inr ⟨g, o, cap, _, rfl, h2, q1, h4, h5, by simpa using h6, fun j hj => ?_⟩⟩, q2⟩
    have hl := h.1
    by_cases e : i = j
    · subst e
      rw [Array.getElem?_setIfInBounds_self_of_lt (by omega), List.getElem?_set_self (by omega)]
    · rw [Array.getElem?_setIfInBounds_ne (by omega), List.getElem?_set_ne e]
      exact h7 j hj
/-- cut at the front -/
theorem OwnAt.drop {w : World} {B e n g o cap : Nat} {xs : List Value} (h : OwnAt w B e (.slice (some ⟨g, o, none⟩) n cap) n xs) (k : Nat) (hk : k ≤ n) : OwnAt w B e (.slice (some ⟨g, if cap = k then o else o + k, none⟩) (n - k) (cap - k)) (n - k) (xs.drop k) := by
  rcases h.2 with ⟨h1, _⟩ | ⟨g', o', cap', cur, h1, h2, h3, h4, h5, h6, h7⟩
  · cases h1
  · cases h1
    refine ⟨by rw [List.length_drop, h.1], .inr ⟨g, _, cap - k, cur, rfl, h2, h3, by omega, by omega, ?_, fun j hj => ?_⟩⟩
    · split <;> omega
    · rw [if_neg (by omega), List.getElem?_drop, Nat.add_assoc]
      exact h7 (k + j) (by omega)
/-- cut at the end -/
theorem OwnAt.take {w : World} {B e n g o cap : Nat} {xs : List Value} (h : OwnAt w B e (.slice (some ⟨g, o, none⟩) n cap) n xs) (k : Nat) (hk : k ≤ n) : OwnAt w B e (.slice (some ⟨g, o, none⟩) k cap) k (xs.take k) := by
  rcases h.2 with ⟨h1, _⟩ | ⟨g', o', cap', cur, h1, h2, h3, h4, h5, h6, h7⟩
  · cases h1
  · cases h1
    exact ⟨by rw [List.length_take, h.1]; omega, .inr ⟨g, o, cap, cur, rfl, h2, h3, by omega, h5, h6, fun j hj => by rw [List.getElem?_take, if_pos hj]; exact h7 j (by omega)⟩⟩
/-- what lies behind it is stored to -/
theorem OwnAt.behind {w : World} {B e m g o cap : Nat} {xs : List Value} (h : OwnAt w B e (.slice (some ⟨g, o, none⟩) m cap) m xs) (p : Nat) (hp : m ≤ p) (x : Value) :
    OwnAt (w.setCell ⟨g, o + p, none⟩ x) B e (.slice (some ⟨g, o, none⟩) m cap) m xs ∧ w.grownBy (w.setCell ⟨g, o + p, none⟩ x) (some g) := by
  rcases h.2 with ⟨h1, _⟩ | ⟨g', o', cap', cur, h1, h2, h3, h4, h5, h6, h7⟩
  · cases h1
  · cases h1
    obtain ⟨q1, q2⟩ := set_row (cs' := cur.setIfInBounds (o + p) x) h3 (o + p) x rfl
    refine ⟨⟨h.1, .inr ⟨g, o, cap, _, rfl, h2, q1, h4, h5, by simpa using h6, fun j hj => ?_⟩⟩, q2⟩
    rw [Array.getElem?_setIfInBounds_ne (by omega)]
    exact h7 j hj
theorem OwnAt.behinds {B e m g o cap : Nat} {xs : List Value} : ∀ (vs : List Value) (p : Nat) (w : World), m ≤ p → OwnAt w B e (.slice (some ⟨g, o, none⟩) m cap) m xs →
    OwnAt (w.setCells g (o + p) vs) B e (.slice (some ⟨g, o, none⟩) m cap) m xs ∧ w.grownBy (w.setCells g (o + p) vs) (some g)
  | [], p, w, _, h => ⟨h, World.grownBy.refl _ _⟩
  | v :: vs, p, w, hp, h => by
    obtain ⟨h1, h2⟩ := h.behind p hp v
    have h3 := OwnAt.behinds vs (p + 1) _ (by omega) h1
    rw [← Nat.add_assoc] at h3
    exact ⟨h3.1, grownBy_trans h2 h3.2⟩
/-- one element is appended: in place, or in a new block -/
theorem run_append_at {P : Program} (w : World) (B t ty e : Nat) (i : TypeInfo) (z : Value) (bytes : Nat) (ht : P.underlying t = some (.slice e)) (hi : P.info? e = some i) (hz : i.zero = some z) (hsize : i.size = 1) (hby : i.bytes = bytes) (hzs : z.cells.size = 1)
    (v : Value) (n : Nat) (xs : List Value) (h : OwnAt w B e v n xs) (ad : Addr) (x : Value) (hx : w.cell? ad = some x) (h1 : x.oneCell' = true) (h63 : n + 1 ≤ maxLen) (hbytes : (n + 1) * bytes ≤ 140737488355328) (hB : B ≤ w.heap.size) :
    ∃ v' w', (Builtin.append_ #[t, t] ty #[v, .slice (some ad) 1 1]).run P w = .ok v' w' ∧ OwnAt w' B e v' (n + 1) (xs ++ [x]) ∧ w.grownBy w' v.ownBlock ∧ (v'.ownBlock = v.ownBlock ∨ ∃ k, v'.ownBlock = some k ∧ w.heap.size ≤ k) := by
  have hnews : ∀ (j : Nat) (u : Value), [x][j]? = some u → w.cell? (ad.add j) = some u := by
    intro j u hj
    match j, hj with
    | 0, hj =>
      simp at hj
      subst hj
      have : ad.add 0 = ad := by unfold Addr.add; split <;> simp_all
      rw [this]; exact hx
  have h1' : ∀ u ∈ [x], u.oneCell' = true := by
    intro u hu
    rw [List.mem_singleton] at hu
    subst hu
    exact h1
  rcases h.2 with ⟨hv, h0⟩ | ⟨g, o, cap, cur, hv, h2, h3, h4, h5, h6, h7⟩
  · subst h0
    obtain rfl : xs = [] := List.eq_nil_of_length_eq_zero h.1
    subst hv
    obtain ⟨v', w', hrun, r1, r2, r3⟩ := run_append_own (P := P) w B t ty e i z 1 bytes ht hi hz hsize hby hzs (by decide) (.slice none 0 0) 0 [] (World.ownsRow_nil w B e 1) ad 1 1 [x] rfl hnews h1' h63 hbytes hB
    refine ⟨v', w', hrun, OwnAt.of r1, r2, .inr ?_⟩
    rcases r1.2 with ⟨h1, h2⟩ | ⟨g, cap, cur, h1, h2, h3, _⟩
    · omega
    · refine ⟨g, by rw [h1]; rfl, ?_⟩
      rcases Nat.lt_or_ge g w.heap.size with hlt | hge
      · exfalso
        have hr3 := run_append_own (P := P) w w.heap.size t ty e i z 1 bytes ht hi hz hsize hby hzs (by decide) (.slice none 0 0) 0 [] (World.ownsRow_nil w w.heap.size e 1) ad 1 1 [x] rfl hnews h1' h63 hbytes (Nat.le_refl _)
        obtain ⟨v2, w2, hrun2, r21, _⟩ := hr3
        rw [hrun] at hrun2
        injection hrun2 with e1 e2
        subst e1
        have := r21.lt g (by rw [h1]; rfl)
        omega
      · exact hge
  · subst hv
    by_cases hr : n + 1 ≤ cap
    · have hc : ∀ j, j < [x].length → (w.cell? ⟨g, o + n * i.size + j, none⟩).isSome = true := fun j hj => by
        rw [hsize, Nat.mul_one]
        obtain rfl : j = 0 := by simpa using hj
        rw [cell_of_row _ _ _ _ _ _ h3, Nat.add_zero, Array.getElem?_eq_getElem (by omega)]
        rfl
      have hrun := run_append_room_cells (P := P) w t ty e i ht hi g o n cap ad 1 1 [x] (by rw [hsize]; rfl) hnews h1' hr hc (fun j _ => frozen_row h3 _)
      rw [hsize, Nat.mul_one] at hrun
      obtain ⟨q1, q2⟩ := set_row (cs' := cur.setIfInBounds (o + n) x) h3 (o + n) x rfl
      refine ⟨_, _, hrun, ⟨by rw [List.length_append, h.1]; rfl, .inr ⟨g, o, cap, cur.setIfInBounds (o + n) x, rfl, h2, q1, hr, h5, by simpa using h6, fun j hj => ?_⟩⟩, q2, .inl rfl⟩
      have hl := h.1
      by_cases e : j = n
      · subst e
        rw [Array.getElem?_setIfInBounds_self_of_lt (by omega), List.getElem?_append_right (by omega), hl, Nat.sub_self]
        rfl
      · rw [Array.getElem?_setIfInBounds_ne (by omega), List.getElem?_append_left (by omega)]
        exact h7 j (by omega)
    · obtain ⟨v', w', hrun, r1, r2⟩ := run_append_arg_grows (P := P) w t ty e i z 1 bytes ht hi hz hsize hby hzs (by decide) ⟨g, o, none⟩ n cap xs (by rw [h.1, Nat.mul_one]) (fun j u hj => by
        rw [Addr.add_lit, cell_of_row _ _ _ _ _ _ h3, ← hj]
        exact h7 j (by have := (List.getElem?_eq_some_iff.1 hj).1; have := h.1; omega)) ad 1 1 [x] rfl hnews (by omega) h63 hbytes
      refine ⟨v', w', hrun, (OwnAt.of r1).mono hB, ⟨r2.os, r2.tape, r2.output, r2.size, fun k hk _ => r2.block k hk (by simp)⟩, .inr ?_⟩
      rcases r1.2 with ⟨h1, h2⟩ | ⟨g', cap', cur', h1, h2, h3, _⟩
      · omega
      · exact ⟨g', by rw [h1]; rfl, h2⟩
theorem wp_append_at {P : Program} {w : World} {o : Oper} {a : Act} {K : Act → World → Prop} {Q : Exit → Act → World → Prop} (s x : Operand) (t : TypeId)
    (ho : o.op = .call { callee := .builtin .append, args := #[s, x], argTypes := #[t, t] })
    (B : Nat) (e : TypeId) (i : TypeInfo) (z : Value) (bytes : Nat) (ht : P.underlying t = some (.slice e)) (hi : P.info? e = some i) (hz : i.zero = some z) (hsize : i.size = 1) (hby : i.bytes = bytes) (hzs : z.cells.size = 1)
    (v : Value) (n : Nat) (xs : List Value) (hs : a.eval s = v) (hown : OwnAt w B e v n xs) (ad : Addr) (y : Value) (hx : a.eval x = .slice (some ad) 1 1) (hy : w.cell? ad = some y) (h1 : y.oneCell' = true) (h63 : n + 1 ≤ maxLen) (hbytes : (n + 1) * bytes ≤ 140737488355328) (hB : B ≤ w.heap.size)
    (h : ∀ v' w', OwnAt w' B e v' (n + 1) (xs ++ [y]) → w.grownBy w' v.ownBlock → (v'.ownBlock = v.ownBlock ∨ ∃ k, v'.ownBlock = some k ∧ w.heap.size ≤ k) → K (a.put o.dst v') w') : o.wp P a w K Q := by
  obtain ⟨v', w', hrun, r1, r2, r3⟩ := run_append_at (P := P) w B t o.type e i z bytes ht hi hz hsize hby hzs v n xs hown ad y hy h1 h63 hbytes hB
  unfold Oper.wp
  simp [execOp, ho, resolve, invoke, builtin, hs, hx, hrun, Result.andThen]
  exact h v' w' r1 r2 r3
theorem wpList_append_at {P : Program} {w : World} {ops : Array Oper} {rest : List Oper} {o : Oper} {a : Act} {Q : Exit → Act → World → Prop} (hgd : o.guard = none) (s x : Operand) (t : TypeId)
    (ho : o.op = .call { callee := .builtin .append, args := #[s, x], argTypes := #[t, t] })
    (B : Nat) (e : TypeId) (i : TypeInfo) (z : Value) (bytes : Nat) (ht : P.underlying t = some (.slice e)) (hi : P.info? e = some i) (hz : i.zero = some z) (hsize : i.size = 1) (hby : i.bytes = bytes) (hzs : z.cells.size = 1)
    (v : Value) (n : Nat) (xs : List Value) (hs : a.eval s = v) (hown : OwnAt w B e v n xs) (ad : Addr) (y : Value) (hx : a.eval x = .slice (some ad) 1 1) (hy : w.cell? ad = some y) (h1 : y.oneCell' = true) (h63 : n + 1 ≤ maxLen) (hbytes : (n + 1) * bytes ≤ 140737488355328) (hB : B ≤ w.heap.size)
    (h : ∀ v' w', OwnAt w' B e v' (n + 1) (xs ++ [y]) → w.grownBy w' v.ownBlock → (v'.ownBlock = v.ownBlock ∨ ∃ k, v'.ownBlock = some k ∧ w.heap.size ≤ k) → wpList P ops Q rest (a.put o.dst v') w') : wpList P ops Q (o :: rest) a w :=
  wpList_plain hgd fun _ hK => wp_append_at s x t ho B e i z bytes ht hi hz hsize hby hzs v n xs hs hown ad y hx hy h1 h63 hbytes hB fun v' w' h2 h3 h4 => hK _ _ (h v' w' h2 h3 h4)
end Go.Proofs.Ytfbchmihkndfaaa
/- Passes: how passes lie in memory; the closure that compares. -/
namespace Go.Proofs.Ytfbchmihkndfaaa
set_option linter.unusedVariables false
open Go.RowKit

/-- a pass -/
structure Ps where
  st : Nat
  fr : Nat
  tt : Nat
  wo : Nat
instance : Inhabited Ps := ⟨⟨0, 0, 1, 0⟩⟩
def pAt (l : List Ps) (i : Nat) : Ps := l.getD i default
def pc (p : Ps) : List Value := [.int .i64 (p.st : Int), .int .i64 (p.fr : Int), .int .i64 (p.tt : Int), .int .i64 (p.wo : Int)]
structure Ps.Good (p : Ps) : Prop where
  s : p.st ≤ 31
  f : p.fr + 1 ≤ p.tt
  t : p.tt ≤ 1000
  w : p.wo ≤ 1000
def GoodPs (l : List Ps) : Prop := ∀ i, i < l.length → (pAt l i).Good
/-- a row of passes at the head of a block, or nil -/
structure RdPs (w : World) (la : Option Addr) (n cap : Nat) (l : List Ps) : Prop where
  len : l.length = n
  le : n ≤ cap
  max : cap ≤ maxLen
  mem : 0 < n → ∃ b, la = some ⟨b, 0, none⟩ ∧ b < w.heap.size ∧ (∃ cs, w.heap[b]? = some (.cells cs 41)) ∧ ∀ j, j < n → w.cell? ⟨b, j * 4, none⟩ = some (.int .i64 ((pAt l j).st : Int)) ∧ w.cell? ⟨b, j * 4 + 1, none⟩ = some (.int .i64 ((pAt l j).fr : Int)) ∧ w.cell? ⟨b, j * 4 + 2, none⟩ = some (.int .i64 ((pAt l j).tt : Int)) ∧ w.cell? ⟨b, j * 4 + 3, none⟩ = some (.int .i64 ((pAt l j).wo : Int))
theorem RdPs.kept {w w' : World} {la : Option Addr} {n cap : Nat} {l : List Ps} {row : Option Nat} (h : RdPs w la n cap l) (hg : w.grownBy w' row) (hne : ∀ b cs, w.heap[b]? = some (.cells cs 41) → row ≠ some b) : RdPs w' la n cap l :=
  ⟨h.len, h.le, h.max, fun hn => by
    obtain ⟨b, h1, h2, ⟨cs, h3⟩, h4⟩ := h.mem hn
    have hb := hg.block b h2 (fun e => hne b cs h3 e.symm)
    refine ⟨b, h1, Nat.lt_of_lt_of_le h2 hg.size, ⟨cs, hb.trans h3⟩, fun j hj => ?_⟩
    have e : ∀ o, w'.cell? ⟨b, o, none⟩ = w.cell? ⟨b, o, none⟩ := fun o => by
      unfold World.cell?
      simp only
      rw [hb]
    rw [e, e, e, e]
    exact h4 j hj⟩
theorem RdPs.below {w w' : World} {la : Option Addr} {n cap : Nat} {l : List Ps} (h : RdPs w la n cap l) (hb : Below w.heap.size w w') : RdPs w' la n cap l :=
  h.kept (row := none) ⟨hb.os, hb.tape, hb.output, hb.size, fun k hk _ => hb.block k hk⟩ (fun _ _ _ h => by cases h)
theorem RdPs.at_ {w : World} {la : Option Addr} {n cap : Nat} {l : List Ps} (h : RdPs w la n cap l) (j : Nat) (hj : j < n) : ∃ b, la = some ⟨b, 0, none⟩ ∧ b < w.heap.size ∧ w.cell? ⟨b, j * 4, none⟩ = some (.int .i64 ((pAt l j).st : Int)) ∧ w.cell? ⟨b, j * 4 + 1, none⟩ = some (.int .i64 ((pAt l j).fr : Int)) ∧ w.cell? ⟨b, j * 4 + 2, none⟩ = some (.int .i64 ((pAt l j).tt : Int)) ∧ w.cell? ⟨b, j * 4 + 3, none⟩ = some (.int .i64 ((pAt l j).wo : Int)) := by
  obtain ⟨b, h1, h2, _, h4⟩ := h.mem (by omega)
  exact ⟨b, h1, h2, h4 j hj⟩
/-- only block k is turned -/
abbrev Gb (k : Nat) (w w' : World) : Prop := w.grownBy w' (some k)
theorem Gb.refl (k : Nat) (w : World) : Gb k w w := World.grownBy.refl _ _
theorem Gb.below {k : Nat} {w w' : World} (h : Below w.heap.size w w') : Gb k w w' := ⟨h.os, h.tape, h.output, h.size, fun j hj _ => h.block j hj⟩
theorem Gb.row {k b : Nat} {w w' : World} {o : Obj} (h : Gb k w w') (hr : w.heap[b]? = some o) (hne : b ≠ k) : w'.heap[b]? = some o := row_grown hr h hne

set_option maxRecDepth 100000 in
set_option maxHeartbeats 1000000 in
theorem cl_ok (X n cap x y : Nat) (la : Option Addr) (l : List Ps) (hg : GoodPs l) (hx : x < n) (hy : y < n) (hn : n ≤ 9) (w : World) (hX : w.heap[X]? = some (.cells #[.slice la n cap] 39)) (hr : RdPs w la n cap l) :
    Calls Try.prog 16 #[.int .i64 (x : Int), .int .i64 (y : Int), .pointer (some ⟨X, 0, none⟩)] w fun e w' => e = .returned (.int .i64 (((pAt l y).fr : Int) - ((pAt l x).fr : Int))) ∧ Below w.heap.size w w' := by
  obtain ⟨b, rfl, hb, x0, x1, x2, x3⟩ := hr.at_ x hx
  obtain ⟨b2, hb2, _, y0, y1, y2, y3⟩ := hr.at_ y hy
  cases hb2
  have gx := hg x (by rw [hr.len]; exact hx)
  have gy := hg y (by rw [hr.len]; exact hy)
  have gx1 := gx.f
  have gx2 := gx.t
  have gy1 := gy.f
  have gy2 := gy.t
  have hd : ∀ w', Below w.heap.size w.drew w' → Below w.heap.size w w' := fun w' h => (Below.refl _ w).drew.trans h
  have e0 : ∀ w', Below w.heap.size w.drew w' → w'.cell? ⟨X, 0, none⟩ = some (.slice (some ⟨b, 0, none⟩) n cap) := fun w' h => by rw [cell_of_row _ _ _ _ _ _ (row_below hX (hd w' h))]; rfl
  have e1 : ∀ w', Below w.heap.size w.drew w' → w'.cell? ⟨b, x * 4 + 1, none⟩ = some (.int .i64 ((pAt l x).fr : Int)) := fun w' h => ((hd w' h).cell (p := ⟨b, x * 4 + 1, none⟩) hb).trans x1
  have e2 : ∀ w', Below w.heap.size w.drew w' → w'.cell? ⟨b, y * 4 + 1, none⟩ = some (.int .i64 ((pAt l y).fr : Int)) := fun w' h => ((hd w' h).cell (p := ⟨b, y * 4 + 1, none⟩) hb).trans y1
  have hdr := hid ((Below.refl w.heap.size w).drew)
  clear x0 x1 x2 x3 y0 y1 y2 y3 hd hr hX hg gx gy
  generalize (pAt l x).fr = fx at *
  generalize (pAt l y).fr = fy at *
  have hwr : IntKind.i64.wrap ((fy : Int) - (fx : Int)) = (fy : Int) - (fx : Int) := IntWalk.i64_in _ (by omega)
  go_enter Try.func16, Try.ntmps16
  go_wp2_with fail
  refine wp_region_can_all [] [0, 1, 2, 3, 4, 5, 6, 7, 8, 9, 10, 11] (Below w.heap.size) (fun _ => Below.refl _ _) (fun _ _ _ h k => h.trans k) (by kernel_rfl) (by kernel_rfl) ?_
  simp only [List.map_cons, List.map_nil, List.contains_nil, List.getD_cons_zero, List.getD_cons_succ]
  generalize w.drew = U at *
  repeat (refine wpL_do rfl (fun w' hw' => (by go_simp; rfl)) ?_; simp only [Act.put, List.setIfInBounds_toArray, List.set_cons_succ, List.set_cons_zero])
  refine wpL_nil ?_
  clear e0 e1 e2 hwr
  go_wp2_with fail
  go_ret
  exact ⟨rfl, hdr.out⟩
end Go.Proofs.Ytfbchmihkndfaaa
