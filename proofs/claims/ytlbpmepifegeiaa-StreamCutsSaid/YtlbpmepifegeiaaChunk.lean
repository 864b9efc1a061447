/- slices.Chunk over bytes: the iterator's contract. -/
import Derived.RangeFuncNested
import Derived.RangeFuncBound
import Derived.RangeFuncCalls
import Derived.RangeFuncLeaves
import Derived.RangeFuncBox
import Derived.Shelf.Abstract
import Derived.WalkKit
import Derived.OwnWalkIn
import Derived.TacticsInMore
import Derived.LoopNIn
import Derived.LoopIn

import Derived.Test.YtlbpmepifegeiaaRegionIn
import Derived.Test.YtlbpmepifegeiaaSearch
namespace Go.Proofs.Ytlbpmepifegeiaa
set_option linter.unusedVariables false
open Go.RowKit Go.Shelf
attribute [local go_sem] Oper.semAt_some

/-- how many pieces -/
def pieces (len m : Nat) : Nat := (len + m - 1) / m
theorem pieces_lt {len m k : Nat} (hm : 0 < m) : k < pieces len m ↔ k * m < len := by
  unfold pieces
  rw [Nat.lt_div_iff_mul_lt hm]
  omega
/-- the k-th piece -/
def piece (u : List Nat) (m k : Nat) : List Nat := (u.drop (k * m)).take m
abbrev Ck (K : Nat) := { k : Nat // k < K }
def pl (len m k : Nat) : Nat := min m (len - k * m)
def encCk (b off len m : Nat) {K : Nat} (x : Ck K) : Array Value := #[.slice (some ⟨b, off + x.1 * m, none⟩) (pl len m x.1) (pl len m x.1)]
/-- the first k, one behind the other -/
def isRun {K : Nat} (pre : List (Ck K)) (k : Nat) : Prop := pre.map (·.1) = List.range k

/-- what a round keeps: whatever lies below n₀, and the iterator's two boxes -/
def Kc (n₀ B1 B2 : Nat) (A B : World) : Prop := Below n₀ A B ∧ (∀ v, A.cell? ⟨B1, 0, none⟩ = some v → B.cell? ⟨B1, 0, none⟩ = some v) ∧ ∀ v, A.cell? ⟨B2, 0, none⟩ = some v → B.cell? ⟨B2, 0, none⟩ = some v
theorem Kc.refl (n₀ B1 B2 : Nat) (A : World) : Kc n₀ B1 B2 A A := ⟨Below.refl _ _, fun _ h => h, fun _ h => h⟩
theorem Kc.trans {n₀ B1 B2 : Nat} {A B C : World} (h : Kc n₀ B1 B2 A B) (h' : Kc n₀ B1 B2 B C) : Kc n₀ B1 B2 A C := ⟨h.1.trans h'.1, fun v hv => h'.2.1 v (h.2.1 v hv), fun v hv => h'.2.2 v (h.2.2 v hv)⟩
theorem Kc.drewN {n₀ B1 B2 : Nat} {A B : World} (h : Kc n₀ B1 B2 A B) (n : Nat) : Kc n₀ B1 B2 A (B.drewN n) := h.trans ⟨below_drewN _ _, fun _ h => h, fun _ h => h⟩

set_option maxRecDepth 100000 in
set_option maxHeartbeats 2000000 in
theorem chunk31 (n : Nat) (hn : 1 ≤ n) (l B1 B2 n₀ b off len cap m : Nat) (a : Option Addr) (ha : 0 < len → a = some ⟨b, off, none⟩) (hm : 1 ≤ m ∧ m ≤ 65536) (hreach : len ≤ 1048576) (hcap : len ≤ cap ∧ cap ≤ maxLen) (J Jx : List (Ck (pieces len m)) → World → Prop)
    (hJd : ∀ pre W n, J pre W → J pre (W.drewN n))
    (hY : ∀ pre x W, J pre W → pre.length < pieces len m → YieldAt Fence.wide (n - 1) Try.prog l (encCk b off len m x) W fun e W' =>
      (e = .returned (.bool true) ∧ J (pre ++ [x]) W' ∧ Kc n₀ B1 B2 W W') ∨ (e = .returned (.bool false) ∧ Jx (pre ++ [x]) W'))
    (W : World) (h1 : W.cell? ⟨B1, 0, none⟩ = some (.slice a len cap)) (h2 : W.cell? ⟨B2, 0, none⟩ = some (.int .i64 m)) (h0 : J [] W) :
    CallsIn Fence.wide n Try.prog 31 #[.func (.yield l) #[] #[], .pointer (some ⟨B1, 0, none⟩), .pointer (some ⟨B2, 0, none⟩)] W fun e W' => (∃ v, e = .returned v) ∧
      ((∃ ys, isRun ys (pieces len m) ∧ J ys W') ∨ (∃ pre, (∃ k, k ≤ pieces len m ∧ isRun pre k) ∧ Jx pre W')) := by
  have hro : Fence.wide.round = none := rfl
  unfold maxLen at hcap
  refine callsIn_of_wp Try.func31 rfl trivial ?_ hro
  simp only [Try.ntmps31, List.size_toArray, List.length_cons, List.length_nil, Nat.reduceAdd, Nat.reduceSub, Array.replicate_succ, Array.replicate_zero, List.push_toArray, List.append_toArray, List.nil_append, List.cons_append]
  gi_wp2
  gi_loopw [4] (fun i wr => ∃ (k : Nat) (pre : List (Ck (pieces len m))), k ≤ pieces len m ∧ i = .int .i64 ((k * m : Nat) : Int) ∧ isRun pre k ∧ J pre wr ∧ Kc n₀ B1 B2 W wr)
    (fun i _ => (len + m - intOf i).toNat)
  case atStart => exact ⟨0, [], Nat.zero_le _, by simp, rfl, h0, Kc.refl _ _ _ _⟩
  case round =>
    obtain ⟨k, pre, hk, rfl, hpre, hJs, hnx⟩ := hrel
    have c1 := hnx.2.1 _ h1
    have c2 := hnx.2.2 _ h2
    by_cases hlt : k < pieces len m
    · have q1 : k * m < len := (pieces_lt (by omega)).1 hlt
      obtain rfl := ha (by omega)
      clear ha
      obtain ⟨s, hs⟩ : ∃ s, s = k * m := ⟨_, rfl⟩
      have hs1 := hid (show (k + 1) * m = s + m by rw [Nat.add_mul, Nat.one_mul, hs])
      obtain ⟨p, hp⟩ : ∃ p, p = pl len m k := ⟨_, rfl⟩
      have hp2 : p = min m (len - s) := by rw [hp, hs]; rfl
      have hpl : pre.length < pieces len m := by
        have := congrArg List.length hpre
        simp at this
        omega
      have hp3 : isRun (pre ++ [⟨k, hlt⟩]) (k + 1) := by
        unfold isRun at hpre ⊢
        rw [List.map_append, hpre, List.range_succ]; rfl
      rw [← hs] at q1 ⊢
      have Hs := hid hs
      have Hp := hid hp
      have t1 : (s : Int) < (len : Int) := by omega
      have t2 : (0 : Int) ≤ (s : Int) := by omega
      have t3 : (s : Int) ≤ (len : Int) := by omega
      have t4 : ¬ (cap = s) := by omega
      have e1 : (s : Int).toNat = s := by omega
      have hpm := hid hp2
      have p1 : 1 ≤ p ∧ s + p ≤ len ∧ p ≤ m := by omega
      clear hs hp hp2
      by_cases hml : m ≤ len - s
      all_goals
        have u1 : (((m : Int) ≤ ((len - s : Nat) : Int)) ∨ True) := .inr trivial
        gi_wp2
        refine wpIn_wide.2 ?_
        go_quiet (fail)
        have hJ2 := hJd _ _ nq hJs
        have hn2 := hnx.drewN nq
        have c1 : (wr.drewN nq).cell? ⟨B1, 0, none⟩ = some (.slice (some ⟨b, off, none⟩) len cap) := c1
        have c2 : (wr.drewN nq).cell? ⟨B2, 0, none⟩ = some (.int .i64 m) := c2
        obtain ⟨fn, tmps, assign, body, hy, hR⟩ := hY pre ⟨k, hlt⟩ (wr.drewN nq) hJ2 hpl
        dsimp only [encCk] at hy
        rw [← Hp.out, ← Hs.out] at hy
        clear hJs hnx hJd u1
        have hpo := hpm.out
        first
          | (have hpe : p = m := by omega
             rw [hpe] at hy; clear hpe)
          | (have hpe : p = len - s := by omega
             rw [hpe] at hy; clear hpe)
        clear hpo
        have e3 : ((s : Int) + (m : Int)).toNat - s = m := by omega
        have e4 : ((s : Int) + ((len - s : Nat) : Int)).toNat - s = len - s := by omega
        gi_wp2
        refine hR.mono ?_
        rintro e W3 (⟨rfl, hJ3, hk3⟩ | ⟨rfl, hJx3⟩)
        · have hn3 := hn2.trans hk3
          have c1 := hn3.2.1 _ h1
          have c2 := hn3.2.2 _ h2
          clear e3 e4 t4 t3 t2 t1
          gi_wp2
          go_roundw
          case rel => exact ⟨k + 1, _, by omega, by first | rfl | (rw [hs1.out]; simp), hp3, hJ3, hn3⟩
          case measure => simp [intOf]; omega
        · gi_wp2
          refine bodyPost_ret (results_none rfl _ _ _) rfl ?_
          exact ⟨⟨_, rfl⟩, .inr ⟨_, ⟨k + 1, by omega, hp3⟩, hJx3⟩⟩
    · obtain rfl : k = pieces len m := by omega
      have q1 : len ≤ pieces len m * m := by
        rcases Nat.lt_or_ge (pieces len m * m) len with h | h
        · have := (pieces_lt (len := len) (m := m) (k := pieces len m) (by omega)).2 h
          omega
        · exact h
      have t1 : ¬ ((pieces len m * m : Nat) : Int) < (len : Int) := by omega
      generalize pieces len m * m = s at *
      gi_wp2
      go_end0
      exact ⟨⟨_, rfl⟩, .inl ⟨_, hpre, hJs⟩⟩
end Go.Proofs.Ytlbpmepifegeiaa
