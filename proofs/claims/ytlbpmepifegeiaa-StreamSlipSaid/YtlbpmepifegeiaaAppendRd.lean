/- append of a row that reads (nil or not), at one operation. -/
import Derived.Test.YtlbpmepifegeiaaAppend
import Derived.Test.YtlbpmepifegeiaaAppendAt
namespace Go.Proofs.Ytlbpmepifegeiaa
set_option linter.unusedVariables false
open Go.RowKit

theorem wp_append_rd {P : Program} {w : World} {o : Oper} {a : Act} {K : Act → World → Prop} {Q : Exit → Act → World → Prop} (s x : Operand) (t : TypeId)
    (ho : o.op = .call { callee := .builtin .append, args := #[s, x], argTypes := #[t, t] })
    (base : Nat) (e : TypeId) (i : TypeInfo) (z : Value) (bytes : Nat) (ht : P.underlying t = some (.slice e)) (hi : P.info? e = some i) (hz : i.zero = some z) (hsize : i.size = 1) (hby : i.bytes = bytes) (hzs : z.cells.size = 1)
    (ao : Option Addr) (n cap : Nat) (xs : List Value) (hs : a.eval s = .slice ao n cap) (hown : w.ownsRow base e 1 (.slice ao n cap) n xs)
    (bo : Option Addr) (m c : Nat) (ys : List Value) (hx : a.eval x = .slice bo m c) (hrd : Rd w bo m c ys) (h1 : ∀ u ∈ ys, u.oneCell' = true)
    (hbytes : (n + m) * bytes ≤ 140737488355328) (h63 : n + m ≤ maxLen) (hbase : base ≤ w.heap.size)
    (h : ∀ ao' cap' w', w'.ownsRow base e 1 (.slice ao' (n + m) cap') (n + m) (xs ++ ys) → w.grownBy w' (Value.slice ao n cap).ownBlock → Below base w w' → K (a.put o.dst (.slice ao' (n + m) cap')) w') : o.wp P a w K Q := by
  cases bo with
  | none =>
    obtain rfl := hrd.isnil rfl
    obtain rfl : m = 0 := by have := hrd.le; omega
    obtain rfl : ys = [] := List.eq_nil_of_length_eq_zero hrd.len
    have hrun := run_append_owned_none (P := P) w base t o.type e i 1 ht hi (.slice ao n cap) n xs hown
    unfold Oper.wp execOp
    simp only [ho, resolve, invoke, builtin, Sem.run_bind, Sem.run_pure, Result.andThen_ok, List.map_toArray, List.map_cons, List.map_nil, hs, hx, hrun]
    exact h _ _ _ (by simpa using hown) ⟨rfl, rfl, rfl, Nat.le_refl _, fun _ _ _ => rfl⟩ (Below.refl _ _)
  | some ad =>
    refine wp_append_own_at s x t ho base e i z 1 bytes ht hi hz hsize hby hzs (by decide) _ n xs hs hown ad m c ys hx (by rw [hrd.len]; omega) ?_ h1 h63 hbytes hbase ?_
    · intro j u hj
      have hjn : j < m := by have h1 := (List.getElem?_eq_some_iff.1 hj).1; have h2 := hrd.len; omega
      obtain ⟨b', off', ha, _, hc⟩ := hrd.mem (by omega)
      cases ha
      rw [Addr.add_lit, hc j hjn]
      exact hj
    · intro v' w' ho' hg _
      obtain ⟨ao', cap', rfl, _, _⟩ := own_slice ho'
      obtain ⟨_, _, _, _, hown2⟩ := own_slice hown
      exact h _ _ _ ho' hg ((Below.refl base w).grown hg hbase hown2)
end Go.Proofs.Ytlbpmepifegeiaa
