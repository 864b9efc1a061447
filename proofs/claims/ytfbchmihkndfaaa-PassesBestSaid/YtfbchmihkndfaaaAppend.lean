/- append of a row that reads (nil or not) onto an own row: one law for the walk. -/
import Derived.Test.YtfbchmihkndfaaaSl
import Derived.Laws.AppendOwnNone
import Derived.OwnWalk
import Derived.Deep.DeepAppendWide
namespace Go.Proofs.Ytfbchmihkndfaaa
set_option linter.unusedVariables false
open Go.RowKit

theorem own_slice {w : World} {base e size : Nat} {v : Value} {n : Nat} {xs : List Value} (h : w.ownsRow base e size v n xs) :
    ∃ ao cap, v = .slice ao n cap ∧ (v = .slice none 0 0 ↔ ao = none) ∧ ∀ k, v.ownBlock = some k → base ≤ k := by
  rcases h.2 with ⟨rfl, rfl⟩ | ⟨g, cap, cur, rfl, hb, _⟩
  · exact ⟨none, 0, rfl, by simp, fun k h => by simp [Value.ownBlock] at h⟩
  · exact ⟨_, cap, rfl, by simp, fun k h => by simp [Value.ownBlock] at h; omega⟩

theorem wpList_append_rd {P : Program} {w : World} {ops : Array Oper} {rest : List Oper} {o : Oper} {a : Act} {Q : Exit → Act → World → Prop} (hgd : o.guard = none) (s x : Operand) (t : TypeId)
    (ho : o.op = .call { callee := .builtin .append, args := #[s, x], argTypes := #[t, t] })
    (base : Nat) (e : TypeId) (i : TypeInfo) (z : Value) (bytes : Nat) (ht : P.underlying t = some (.slice e)) (hi : P.info? e = some i) (hz : i.zero = some z) (hsize : i.size = 1) (hby : i.bytes = bytes) (hzs : z.cells.size = 1)
    (ao : Option Addr) (n cap : Nat) (xs : List Value) (hs : a.eval s = .slice ao n cap) (hown : w.ownsRow base e 1 (.slice ao n cap) n xs)
    (bo : Option Addr) (m c : Nat) (ys : List Value) (hx : a.eval x = .slice bo m c) (hrd : Rd w bo m c ys) (h1 : ∀ u ∈ ys, u.oneCell' = true)
    (hbytes : (n + m) * bytes ≤ 140737488355328) (h63 : n + m ≤ maxLen) (hbase : base ≤ w.heap.size)
    (h : ∀ ao' cap' w', w'.ownsRow base e 1 (.slice ao' (n + m) cap') (n + m) (xs ++ ys) → w.grownBy w' (Value.slice ao n cap).ownBlock → Below base w w' → wpList P ops Q rest (a.put o.dst (.slice ao' (n + m) cap')) w') : wpList P ops Q (o :: rest) a w := by
  cases bo with
  | none =>
    obtain rfl := hrd.isnil rfl
    obtain rfl : m = 0 := by have := hrd.le; omega
    obtain rfl : ys = [] := List.eq_nil_of_length_eq_zero hrd.len
    refine wpList_append_own_none hgd s x t ho base e i 1 ht hi _ n xs hs hown hx ?_
    refine h _ _ _ (by simpa using hown) ⟨rfl, rfl, rfl, Nat.le_refl _, fun _ _ _ => rfl⟩ (Below.refl _ _)
  | some ad =>
    refine wpList_append_own w hgd s x t ho base e i z 1 bytes ht hi hz hsize hby hzs (by decide) _ n xs hs hown ad m c ys hx (by rw [hrd.len]; omega) ?_ h1 h63 hbytes hbase ?_
    · intro j u hj
      have hjn : j < m := by have h1 := (List.getElem?_eq_some_iff.1 hj).1; have h2 := hrd.len; omega
      obtain ⟨b', off', ha, _, hc⟩ := hrd.mem (by omega)
      cases ha
      rw [Addr.add_lit, hc j hjn]
      exact hj
    · intro v' w' ho' hg hnil
      obtain ⟨ao', cap', rfl, _, _⟩ := own_slice ho'
      obtain ⟨_, _, _, _, hown2⟩ := own_slice hown
      exact h _ _ _ ho' hg ((Below.refl base w).grown hg hbase hown2)

theorem wpList_append_rd_wide {P : Program} {w : World} {ops : Array Oper} {rest : List Oper} {o : Oper} {a : Act} {Q : Exit → Act → World → Prop} (hgd : o.guard = none) (s x : Operand) (t : TypeId)
    (ho : o.op = .call { callee := .builtin .append, args := #[s, x], argTypes := #[t, t] })
    (base : Nat) (e : TypeId) (i : TypeInfo) (z : Value) (bytes : Nat) (ht : P.underlying t = some (.slice e)) (hi : P.info? e = some i) (hz : i.zero = some z) (hsize : i.size = 1) (hby : i.bytes = bytes) (hzs : z.cells.size = 1)
    (ao : Option Addr) (n cap : Nat) (xs : List Value) (hs : a.eval s = .slice ao n cap) (hown : w.ownsRow base e 1 (.slice ao n cap) n xs)
    (bo : Option Addr) (m c : Nat) (ys : List Value) (hx : a.eval x = .slice bo m c) (hrd : Rd w bo m c ys) (h1 : ∀ u ∈ ys, u.oneCell' = true)
    (hbytes : ((n + m) + (n + m) / 4 + 192) * bytes ≤ 281474976710656) (h63 : n + m ≤ maxLen) (hbase : base ≤ w.heap.size)
    (h : ∀ ao' cap' w', w'.ownsRow base e 1 (.slice ao' (n + m) cap') (n + m) (xs ++ ys) → w.grownBy w' (Value.slice ao n cap).ownBlock → Below base w w' → wpList P ops Q rest (a.put o.dst (.slice ao' (n + m) cap')) w') : wpList P ops Q (o :: rest) a w := by
  cases bo with
  | none =>
    obtain rfl := hrd.isnil rfl
    obtain rfl : m = 0 := by have := hrd.le; omega
    obtain rfl : ys = [] := List.eq_nil_of_length_eq_zero hrd.len
    refine wpList_append_own_none hgd s x t ho base e i 1 ht hi _ n xs hs hown hx ?_
    refine h _ _ _ (by simpa using hown) ⟨rfl, rfl, rfl, Nat.le_refl _, fun _ _ _ => rfl⟩ (Below.refl _ _)
  | some ad =>
    refine wpList_append_own_wide w hgd s x t ho base e i z 1 bytes ht hi hz hsize hby hzs (by decide) _ n xs hs hown ad m c ys hx (by rw [hrd.len]; omega) ?_ h1 h63 hbytes hbase ?_
    · intro j u hj
      have hjn : j < m := by have h1 := (List.getElem?_eq_some_iff.1 hj).1; have h2 := hrd.len; omega
      obtain ⟨b', off', ha, _, hc⟩ := hrd.mem (by omega)
      cases ha
      rw [Addr.add_lit, hc j hjn]
      exact hj
    · intro v' w' ho' hg hnil
      obtain ⟨ao', cap', rfl, _, _⟩ := own_slice ho'
      obtain ⟨_, _, _, _, hown2⟩ := own_slice hown
      exact h _ _ _ ho' hg ((Below.refl base w).grown hg hbase hown2)
end Go.Proofs.Ytfbchmihkndfaaa
