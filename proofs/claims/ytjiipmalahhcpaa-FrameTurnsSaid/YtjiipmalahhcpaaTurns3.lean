/- packet.may: which error a packet has. -/
import Derived.Test.YtjiipmalahhcpaaProg
import Derived.Test.YtjiipmalahhcpaaTurns2
import Derived.WalkKit
import Derived.Laws.AppendOwnNone
import Derived.OwnWalk
import Derived.Deep.DeepAppendWide
namespace Go.Proofs.Ytjiipmalahhcpaa
set_option linter.unusedVariables false
open Go.RowKit

set_option maxRecDepth 1000000 in
theorem in_st (n m : Int) (w : World) : Calls Try.prog 30 #[.int .i64 n, .int .i64 m] w fun e w' => e = .returned (.bool (decide (0 ≤ n) && decide (n ≤ m))) ∧ w' = w := by
  go_enter Try.func30, Try.ntmps30
  by_cases h : 0 ≤ n
  · have h1 : decide (0 ≤ n) = true := by simp [h]
    go_wp2
    go_ret
    simp <;> omega
  · have h1 : decide (0 ≤ n) = false := by simp [h]
    go_wp2
    go_ret
    simp <;> omega

def mayCode (apid part count : Int) (n : Nat) : Int :=
  if 0 ≤ apid ∧ apid ≤ 2047 ∧ 0 ≤ part ∧ part ≤ 3 ∧ 0 ≤ count ∧ count ≤ 16383 then (if n = 0 ∨ 65536 < n then 1 else 0) else 2

set_option maxRecDepth 1000000 in
theorem may_any (up se : Bool) (apid part count : Int) (a : Option Addr) (n c : Nat) (w : World) :
    Calls Try.prog 15 #[.agg #[.bool up, .bool se, .int .i64 apid, .int .i64 part, .int .i64 count, .slice a n c]] w fun e w' => e = .returned (.int .i64 (mayCode apid part count n)) ∧ Below w.heap.size w w' := by
  have B := below_alloc w (.cells #[.bool up, .bool se, .int .i64 apid, .int .i64 part, .int .i64 count, .slice a n c] 38)
  obtain ⟨W, hW⟩ : ∃ W, W = w.alloc (.cells #[.bool up, .bool se, .int .i64 apid, .int .i64 part, .int .i64 count, .slice a n c] 38) := ⟨_, rfl⟩
  have A : W.heap[w.heap.size]? = some (.cells #[.bool up, .bool se, .int .i64 apid, .int .i64 part, .int .i64 count, .slice a n c] 38 (0, 0)) := by rw [hW]; exact heap_alloc_new w _
  rw [← hW] at B
  go_enter Try.func15, Try.ntmps15
  have hW' := hW.symm
  clear hW
  have c2 : W.cell? ⟨w.heap.size, 2, none⟩ = some (.int .i64 apid) := by rw [cell_of_row _ _ _ _ _ _ A]; rfl
  have c3 : W.cell? ⟨w.heap.size, 3, none⟩ = some (.int .i64 part) := by rw [cell_of_row _ _ _ _ _ _ A]; rfl
  have c4 : W.cell? ⟨w.heap.size, 4, none⟩ = some (.int .i64 count) := by rw [cell_of_row _ _ _ _ _ _ A]; rfl
  have c5 : W.cell? ⟨w.heap.size, 5, none⟩ = some (.slice a n c) := by rw [cell_of_row _ _ _ _ _ _ A]; rfl
  go_wp2_with fail
  clear hW'
  refine (in_st _ _ _).mono ?_
  rintro e w' ⟨rfl, rfl⟩
  by_cases h1 : 0 ≤ apid ∧ apid ≤ 2047
  · have d1 : decide (0 ≤ apid) = true := by simp [h1.1]
    have d2 : decide (apid ≤ 2047) = true := by simp [h1.2]
    rw [d1, d2]
    go_wp2_with fail
    refine (in_st _ _ _).mono ?_
    rintro e w' ⟨rfl, rfl⟩
    by_cases h2 : 0 ≤ part ∧ part ≤ 3
    · have d1 : decide (0 ≤ part) = true := by simp [h2.1]
      have d2 : decide (part ≤ 3) = true := by simp [h2.2]
      rw [d1, d2]
      go_wp2_with fail
      refine (in_st _ _ _).mono ?_
      rintro e w' ⟨rfl, rfl⟩
      by_cases h3 : 0 ≤ count ∧ count ≤ 16383
      · have d1 : decide (0 ≤ count) = true := by simp [h3.1]
        have d2 : decide (count ≤ 16383) = true := by simp [h3.2]
        rw [d1, d2]
        by_cases h4 : n = 0
        · subst h4
          go_wp2_with fail
          go_ret
          exact ⟨by rw [show mayCode apid part count 0 = 1 by unfold mayCode; rw [if_pos (by omega), if_pos (by omega)]] <;> rfl, B⟩
        · have h40 : ((n : Int) == 0) = false := by simp; omega
          by_cases h5 : 65536 < n
          · have h50 : ((65536 : Int) < n) := by omega
            go_wp2_with fail
            go_ret
            exact ⟨by rw [show mayCode apid part count n = 1 by unfold mayCode; rw [if_pos (by omega), if_pos (by omega)]] <;> rfl, B⟩
          · have h50 : ¬ ((65536 : Int) < n) := by omega
            go_wp2_with fail
            go_ret
            exact ⟨by rw [show mayCode apid part count n = 0 by unfold mayCode; rw [if_pos (by omega), if_neg (by omega)]] <;> rfl, B⟩
      · have d1 : (decide (0 ≤ count) && decide (count ≤ 16383)) = false := by simp; omega
        rw [d1]
        go_wp2_with fail
        go_ret
        exact ⟨by rw [show mayCode apid part count n = 2 by unfold mayCode; rw [if_neg (by omega)]] <;> rfl, B⟩
    · have d1 : (decide (0 ≤ part) && decide (part ≤ 3)) = false := by simp; omega
      rw [d1]
      go_wp2_with fail
      go_ret
      exact ⟨by rw [show mayCode apid part count n = 2 by unfold mayCode; rw [if_neg (by omega)]] <;> rfl, B⟩
  · have d1 : (decide (0 ≤ apid) && decide (apid ≤ 2047)) = false := by simp; omega
    rw [d1]
    go_wp2_with fail
    go_ret
    exact ⟨by rw [show mayCode apid part count n = 2 by unfold mayCode; rw [if_neg (by omega)]] <;> rfl, B⟩
end Go.Proofs.Ytjiipmalahhcpaa
/- append of a row that reads (nil or not) onto an own row: one law for the walk. -/
namespace Go.Proofs.Ytjiipmalahhcpaa
set_option linter.unusedVariables false
open Go.RowKit

theorem own_slice {w : World} {base e size : Nat} {v : Value} {n : Nat} {xs : List Value} (h : w.ownsRow base e size v n xs) :
    ∃ ao cap, v = .slice ao n cap ∧ (v = .slice none 0 0 ↔ ao = none) ∧ ∀ k, v.ownBlock = some k → base ≤ k := by
  rcases h.2 with ⟨rfl, rfl⟩ | ⟨g, cap, cur, rfl, hb, _⟩
  · exact ⟨none, 0, rfl, by simp, fun k h => by simp [Value.ownBlock] at h⟩
  · exact ⟨_, cap, rfl, by simp, fun k h => by simp [Value.ownBlock] at h; omega⟩

theorem wpList_append_rd {P : Program} {w : World} {ops : Array Oper} {rest : List Oper} {o : Oper} {a : Act} {Q : Exit → Act → World → Prop} (hgd : o.guard = none) (s x : Operand) (t : TypeId)
    (ho : o.op = .call { callee := .builtin .append, args := #[s, x], argTypes := #[t, t] })
    (base : Nat) (e : TypeId) (i : TypeInfo) (z : Value) (bytes : Nat) (ht : P.underlying t = some (.slice e)) (hi : P.info? e = some i) (hz : i.zero = some z) (hsize : i.size = 1) (hby : i.bytes = bytes) (hzs : z.cells.size = 1)
    (ao : Option Addr) (n cap : Nat) (xs : List Value) (hs : a.eval s = .slice ao n cap) (hown : w.ownsRow base e 1 (.slice ao n cap) n xs)
    (bo : Option Addr) (m c : Nat) (ys : List Value) (hx : a.eval x = .slice bo m c) (hrd : Rd w bo m c ys) (h1 : ∀ u ∈ ys, u.oneCell' = true)
    (hbytes : (n + m) * bytes ≤ 140737488355328) (h63 : n + m ≤ maxLen) (hbase : base ≤ w.heap.size)
    (h : ∀ ao' cap' w', w'.ownsRow base e 1 (.slice ao' (n + m) cap') (n + m) (xs ++ ys) → w.grownBy w' (Value.slice ao n cap).ownBlock → Below base w w' → wpList P ops Q rest (a.put o.dst (.slice ao' (n + m) cap')) w') : wpList P ops Q (o :: rest) a w := by
  cases bo with
  | none =>
    obtain rfl := hrd.isnil rfl
    obtain rfl : m = 0 := by have := hrd.le; omega
    obtain rfl : ys = [] := List.eq_nil_of_length_eq_zero hrd.len
    refine wpList_append_own_none hgd s x t ho base e i 1 ht hi _ n xs hs hown hx ?_
    refine h _ _ _ (by simpa using hown) ⟨rfl, rfl, rfl, Nat.le_refl _, fun _ _ _ => rfl⟩ (Below.refl _ _)
  | some ad =>
    refine wpList_append_own w hgd s x t ho base e i z 1 bytes ht hi hz hsize hby hzs (by decide) _ n xs hs hown ad m c ys hx (by rw [hrd.len]; omega) ?_ h1 h63 hbytes hbase ?_
    · intro j u hj
      have hjn : j < m := by have h1 := (List.getElem?_eq_some_iff.1 hj).1; have h2 := hrd.len; omega
      obtain ⟨b', off', ha, _, hc⟩ := hrd.mem (by omega)
      cases ha
      rw [Addr.add_lit, hc j hjn]
      exact hj
    · intro v' w' ho' hg hnil
      obtain ⟨ao', cap', rfl, _, _⟩ := own_slice ho'
      obtain ⟨_, _, _, _, hown2⟩ := own_slice hown
      exact h _ _ _ ho' hg ((Below.refl base w).grown hg hbase hown2)

theorem wpList_append_rd_wide {P : Program} {w : World} {ops : Array Oper} {rest : List Oper} {o : Oper} {a : Act} {Q : Exit → Act → World → Prop} (hgd : o.guard = none) (s x : Operand) (t : TypeId)
    (ho : o.op = .call { callee := .builtin .append, args := #[s, x], argTypes := #[t, t] })
    (base : Nat) (e : TypeId) (i : TypeInfo) (z : Value) (bytes : Nat) (ht : P.underlying t = some (.slice e)) (hi : P.info? e = some i) (hz : i.zero = some z) (hsize : i.size = 1) (hby : i.bytes = bytes) (hzs : z.cells.size = 1)
    (ao : Option Addr) (n cap : Nat) (xs : List Value) (hs : a.eval s = .slice ao n cap) (hown : w.ownsRow base e 1 (.slice ao n cap) n xs)
    (bo : Option Addr) (m c : Nat) (ys : List Value) (hx : a.eval x = .slice bo m c) (hrd : Rd w bo m c ys) (h1 : ∀ u ∈ ys, u.oneCell' = true)
    (hbytes : ((n + m) + (n + m) / 4 + 192) * bytes ≤ 281474976710656) (h63 : n + m ≤ maxLen) (hbase : base ≤ w.heap.size)
    (h : ∀ ao' cap' w', w'.ownsRow base e 1 (.slice ao' (n + m) cap') (n + m) (xs ++ ys) → w.grownBy w' (Value.slice ao n cap).ownBlock → Below base w w' → wpList P ops Q rest (a.put o.dst (.slice ao' (n + m) cap')) w') : wpList P ops Q (o :: rest) a w := by
  cases bo with
  | none =>
    obtain rfl := hrd.isnil rfl
    obtain rfl : m = 0 := by have := hrd.le; omega
    obtain rfl : ys = [] := List.eq_nil_of_length_eq_zero hrd.len
    refine wpList_append_own_none hgd s x t ho base e i 1 ht hi _ n xs hs hown hx ?_
    refine h _ _ _ (by simpa using hown) ⟨rfl, rfl, rfl, Nat.le_refl _, fun _ _ _ => rfl⟩ (Below.refl _ _)
  | some ad =>
    refine wpList_append_own_wide w hgd s x t ho base e i z 1 bytes ht hi hz hsize hby hzs (by decide) _ n xs hs hown ad m c ys hx (by rw [hrd.len]; omega) ?_ h1 h63 hbytes hbase ?_
    · intro j u hj
      have hjn : j < m := by have h1 := (List.getElem?_eq_some_iff.1 hj).1; have h2 := hrd.len; omega
      obtain ⟨b', off', ha, _, hc⟩ := hrd.mem (by omega)
      cases ha
      rw [Addr.add_lit, hc j hjn]
      exact hj
    · intro v' w' ho' hg hnil
      obtain ⟨ao', cap', rfl, _, _⟩ := own_slice ho'
      obtain ⟨_, _, _, _, hown2⟩ := own_slice hown
      exact h _ _ _ ho' hg ((Below.refl base w).grown hg hbase hown2)
end Go.Proofs.Ytjiipmalahhcpaa
