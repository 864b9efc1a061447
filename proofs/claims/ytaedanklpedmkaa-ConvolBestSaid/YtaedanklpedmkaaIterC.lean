/- slices.Backward over rows of 64-bit numbers: the iterator's contract. -/
import Derived.RangeFuncNested
import Derived.RangeFuncBound
import Derived.RangeFuncCalls
import Derived.RangeFuncLeaves
import Derived.RangeFuncBox
import Derived.Shelf.Abstract
import Derived.Shelf.RegionOpen
import Derived.WalkKit
import Derived.OwnWalkIn
import Derived.TacticsInMore
import Derived.LoopNIn
import Derived.LoopIn
import Derived.Test.YtaedanklpedmkaaSl
import Derived.Test.YtaedanklpedmkaaProg
namespace Go.Proofs.Ytaedanklpedmkaa
set_option linter.unusedVariables false
open Go.RowKit Go.Shelf
attribute [local go_sem] Oper.semAt_some

/-- numbers of 64 bits -/
def AllU (l : List Nat) : Prop := ∀ x ∈ l, x < 18446744073709551616
theorem nth_ltU {l : List Nat} (h : AllU l) (k : Nat) : nth l k < 18446744073709551616 := by
  rcases Nat.lt_or_ge k l.length with hk | hk
  · rw [nth_get hk]; exact h _ (List.getElem_mem _)
  · rw [nth_ge hk]; decide
/-- the cells of numbers of 64 bits -/
def vu (l : List Nat) : List Value := l.map fun (x : Nat) => Value.int .u64 (x : Int)
theorem vu_len (l : List Nat) : (vu l).length = l.length := by simp [vu]
theorem vu_get (l : List Nat) (k : Nat) (h : k < l.length) : (vu l)[k]? = some (.int .u64 (nth l k)) := by
  simp [vu, nth, h]
theorem vu_append (a b : List Nat) : vu (a ++ b) = vu a ++ vu b := by simp [vu]
theorem Rd.cellu {w : World} {ao : Option Addr} {n cap : Nat} {bs : List Nat} (h : Rd w ao n cap (vu bs)) (k : Nat) (hk : k < n) :
    ∃ b off, ao = some ⟨b, off, none⟩ ∧ b < w.heap.size ∧ w.cell? ⟨b, off + k, none⟩ = some (.int .u64 (nth bs k)) := by
  obtain ⟨b, off, ha, hlt, hc⟩ := h.mem (by omega)
  have hl := h.len
  rw [vu_len] at hl
  exact ⟨b, off, ha, hlt, by rw [hc k hk, vu_get bs k (by omega)]⟩
/-- an index below L and a number -/
abbrev Ib (L : Nat) := { p : Nat × Nat // p.1 < L ∧ p.2 < 18446744073709551616 }
def encIb {L : Nat} (x : Ib L) : Array Value := #[.int .i64 (x.1.1 : Int), .int .u64 (x.1.2 : Int)]
/-- what has come when k rounds are over: the last k, the last first -/
def backL (bs : List Nat) (L k : Nat) : List (Nat × Nat) := (List.range k).map fun j => (L - 1 - j, nth bs (L - 1 - j))
theorem backL_succ (bs : List Nat) (L k : Nat) : backL bs L (k + 1) = backL bs L k ++ [(L - 1 - k, nth bs (L - 1 - k))] := by simp [backL, List.range_succ]
/-- the same, told by the values -/
def isBack (bs : List Nat) {L : Nat} (pre : List (Ib L)) (k : Nat) : Prop := pre.map (·.1) = backL bs L k

/-- what a round keeps: whatever lies below n₀, and the iterator's box -/
def Kb (n₀ Bs : Nat) (A B : World) : Prop := Below n₀ A B ∧ ∀ v, A.cell? ⟨Bs, 0, none⟩ = some v → B.cell? ⟨Bs, 0, none⟩ = some v
theorem Kb.refl (n₀ Bs : Nat) (A : World) : Kb n₀ Bs A A := ⟨Below.refl _ _, fun _ h => h⟩
theorem Kb.trans {n₀ Bs : Nat} {A B C : World} (h : Kb n₀ Bs A B) (h' : Kb n₀ Bs B C) : Kb n₀ Bs A C := ⟨h.1.trans h'.1, fun v hv => h'.2 v (h.2 v hv)⟩

set_option maxRecDepth 100000 in
set_option maxHeartbeats 2000000 in
theorem back22 (F : Fence) (n : Nat) (h7 : F.fn 26) (hro : F.round = none) (hn : 1 ≤ n) (l Bs n₀ b off len cap : Nat) (bs : List Nat) (hbs : AllU bs) (hbl : bs.length = len) (hreach : len ≤ 140737488351232) (hb : b < n₀) (J Jx : List (Ib len) → World → Prop)
    (hY : ∀ pre x W, J pre W → pre.length < len → YieldAt F (n - 1) Try.prog l (encIb x) W fun e W' =>
      (e = .returned (.bool true) ∧ J (pre ++ [x]) W' ∧ Kb n₀ Bs W W') ∨ (e = .returned (.bool false) ∧ Jx (pre ++ [x]) W'))
    (W : World) (hBs : W.cell? ⟨Bs, 0, none⟩ = some (.slice (some ⟨b, off, none⟩) len cap)) (hc : ∀ j, j < len → W.cell? ⟨b, off + j, none⟩ = some (.int .u64 (nth bs j : Nat))) (h0 : J [] W) :
    CallsIn F n Try.prog 26 #[.func (.yield l) #[] #[], .pointer (some ⟨Bs, 0, none⟩)] W fun e W' => (∃ v, e = .returned v) ∧
      ((∃ ys, isBack bs ys len ∧ J ys W') ∨ (∃ pre, (∃ k, k ≤ len ∧ isBack bs pre k) ∧ Jx pre W')) := by
  refine callsIn_of_wp Try.func26 rfl h7 ?_ hro
  simp only [Try.ntmps26, List.size_toArray, List.length_cons, List.length_nil, Nat.reduceAdd, Nat.reduceSub, Array.replicate_succ, Array.replicate_zero, List.push_toArray, List.append_toArray, List.nil_append, List.cons_append]
  gi_wp2
  gi_loopw [3] (fun i wr => ∃ (k : Nat) (pre : List (Ib len)), k ≤ len ∧ i = .int .i64 ((len : Int) - 1 - (k : Int)) ∧ isBack bs pre k ∧ J pre wr ∧ Kb n₀ Bs W wr)
    (fun i _ => (intOf i + 1).toNat)
  case atStart => exact ⟨0, [], Nat.zero_le _, by simp, rfl, h0, Kb.refl _ _ _⟩
  case round =>
    obtain ⟨k, pre, hk, rfl, hpre, hJs, hnx⟩ := hrel
    by_cases hlt : k < len
    · obtain ⟨m, hm⟩ : ∃ m, m = len - 1 - k := ⟨_, rfl⟩
      have q2 : m < len := by omega
      have q1 : ((len : Int) - 1 - (k : Int)) = (m : Int) := by omega
      have q3 : (m : Int) - 1 = (len : Int) - 1 - ((k + 1 : Nat) : Int) := by omega
      have hcx : wr.cell? ⟨b, off + m, none⟩ = some (.int .u64 (nth bs m : Nat)) := (hnx.1.cell (p := ⟨b, off + m, none⟩) hb).trans (hc _ q2)
      have hbx := hnx.2 _ hBs
      have hpl : pre.length < len := by
        have := congrArg List.length hpre
        simp [backL] at this
        omega
      have hp2 : isBack bs (pre ++ [⟨(m, nth bs m), q2, nth_ltU hbs m⟩]) (k + 1) := by
        unfold isBack at hpre ⊢
        rw [List.map_append, hpre, backL_succ, ← hm]; rfl
      obtain ⟨fn, tmps, assign, body, hy, hR⟩ := hY pre ⟨(m, nth bs m), q2, nth_ltU hbs m⟩ wr hJs hpl
      rw [q1]
      dsimp only [encIb] at hy
      clear hc hBs hm q1
      gi_wp2
      refine hR.mono ?_
      rintro e W3 (⟨rfl, hJ3, hk3⟩ | ⟨rfl, hJx3⟩)
      · gi_wp2
        go_roundw
        case rel => exact ⟨k + 1, _, by omega, by simp, hp2, hJ3, hnx.trans hk3⟩
        case measure => simp [intOf]; omega
      · gi_wp2
        refine bodyPost_ret (results_none rfl _ _ _) rfl ?_
        exact ⟨⟨_, rfl⟩, .inr ⟨_, ⟨k + 1, by omega, hp2⟩, hJx3⟩⟩
    · obtain rfl : k = len := by omega
      have q1 : ((k : Int) - 1 - (k : Int)) = -1 := by omega
      rw [q1]
      gi_wp2
      go_end0
      exact ⟨⟨_, rfl⟩, .inl ⟨_, hpre, hJs⟩⟩

set_option maxRecDepth 100000 in
set_option maxHeartbeats 1000000 in
theorem back22_nil (F : Fence) (n : Nat) (h7 : F.fn 26) (hro : F.round = none) (l Bs cap : Nat) (a : Option Addr) {α : Type} (J : List α → World → Prop) (W : World) (hBs : W.cell? ⟨Bs, 0, none⟩ = some (.slice a 0 cap)) (h0 : J [] W) :
    CallsIn F n Try.prog 26 #[.func (.yield l) #[] #[], .pointer (some ⟨Bs, 0, none⟩)] W fun e W' => (∃ v, e = .returned v) ∧ J [] W' := by
  refine callsIn_of_wp Try.func26 rfl h7 ?_ hro
  simp only [Try.ntmps26, List.size_toArray, List.length_cons, List.length_nil, Nat.reduceAdd, Nat.reduceSub, Array.replicate_succ, Array.replicate_zero, List.push_toArray, List.append_toArray, List.nil_append, List.cons_append]
  gi_wp2
  gi_loopw [3] (fun i wr => i = .int .i64 (-1) ∧ J [] wr) (fun _ _ => 0)
  case atStart => exact ⟨by simp, h0⟩
  case round =>
    obtain ⟨rfl, hJs⟩ := hrel
    gi_wp2
    go_end0
    exact ⟨⟨_, rfl⟩, hJs⟩

set_option maxHeartbeats 1000000 in
theorem backward19 (F : Fence) (n : Nat) (h5 : F.fn 23) (hro : F.round = none) (a : Option Addr) (len cap : Nat) (w : World) :
    CallsIn F n Try.prog 23 #[.slice a len cap] w fun e w' => e = .returned (.func (.func 26) #[] #[.pointer (some ⟨w.heap.size, 0, none⟩)]) ∧ w' = w.alloc (.cells #[.slice a len cap] 51) := by
  refine callsIn_of_wp Try.func23 rfl h5 ?_ hro
  simp only [Try.ntmps23, List.size_toArray, List.length_cons, List.length_nil, Nat.reduceAdd, Nat.reduceSub, Array.replicate_succ, Array.replicate_zero, List.push_toArray, List.append_toArray, List.nil_append, List.cons_append]
  gi_wp2
  go_ret
  exact ⟨rfl, rfl⟩

theorem stops22 (F : Fence) (n : Nat) (h8 : F.fn 26) (hro : F.round = none) (hn : 1 ≤ n) (Bs n₀ : Nat) (a : Option Addr) (len cap : Nat) (bs : List Nat) (hbs : AllU bs) (hreach : len ≤ 140737488351232) (w : World) (hBs : Bs < w.heap.size) (hn₀ : n₀ ≤ w.heap.size)
    (hc : w.cell? ⟨Bs, 0, none⟩ = some (.slice a len cap)) (hI : Rd w a len cap (vu bs)) (hlow : 0 < len → ∀ b off, a = some ⟨b, off, none⟩ → b < n₀) :
    SeqStopsK F n Try.prog 26 #[.pointer (some ⟨Bs, 0, none⟩)] (encIb (L := len)) (Kb n₀ Bs) (fun ys => isBack bs ys len) (fun pre => ∃ k, k ≤ len ∧ isBack bs pre k) len w := fun l J Jx W hW _ _ hY h0 => by
  have hc' := (hW.cell (p := ⟨Bs, 0, none⟩) hBs).trans hc
  have hl : bs.length = len := by have := hI.len; rwa [vu_len] at this
  by_cases h00 : len = 0
  · subst h00
    exact (back22_nil F n h8 hro l Bs cap a J W hc' h0).mono fun e W' ⟨he, hj⟩ => ⟨he, .inl ⟨[], rfl, hj⟩⟩
  · obtain ⟨b, off, rfl, _, _⟩ := hI.cellu 0 (by omega)
    refine back22 F n h8 hro hn l Bs n₀ b off len cap bs hbs hl hreach (hlow (by omega) b off rfl) J Jx hY W hc' (fun j hj => ?_) h0
    obtain ⟨b', off', hb', _, h1⟩ := hI.cellu j hj
    cases hb'
    exact (hW.cell (p := ⟨b, off + j, none⟩) (Nat.lt_of_lt_of_le (hlow (by omega) b off rfl) hn₀)).trans h1

end Go.Proofs.Ytaedanklpedmkaa
