/- deliver: slices.Chunk over bytes: the iterator's contract. -/
import Derived.RangeFuncNested
import Derived.RangeFuncBound
import Derived.RangeFuncCalls
import Derived.RangeFuncLeaves
import Derived.RangeFuncBox
import Derived.Shelf.Abstract
import Derived.WalkKit
import Derived.OwnWalkIn
import Derived.TacticsInMore
import Derived.LoopNIn
import Derived.LoopIn
import Derived.Test.YtopmamgdfngdoaaWhole1
import Derived.Test.YtopmamgdfngdoaaWhole20
import Derived.Deep.DeepCutAuto
import Derived.Test.YtopmamgdfngdoaaWhole17
namespace Go.Proofs.Ytopmamgdfngdoaa
set_option linter.unusedVariables false
open Go.RowKit Go.Shelf
attribute [local go_sem] Oper.semAt_some

/-- how many pieces -/
def pieces (len m : Nat) : Nat := (len + m - 1) / m
theorem pieces_lt {len m k : Nat} (hm : 0 < m) : k < pieces len m ↔ k * m < len := by
  unfold pieces
  rw [Nat.lt_div_iff_mul_lt hm]
  omega
/-- the k-th piece -/
def piece (u : List Nat) (m k : Nat) : List Nat := (u.drop (k * m)).take m
abbrev Ck (K : Nat) := { k : Nat // k < K }
def pl (len m k : Nat) : Nat := min m (len - k * m)
def encCk (b off len m : Nat) {K : Nat} (x : Ck K) : Array Value := #[.slice (some ⟨b, off + x.1 * m, none⟩) (pl len m x.1) (pl len m x.1)]
/-- the first k, one behind the other -/
def isRun {K : Nat} (pre : List (Ck K)) (k : Nat) : Prop := pre.map (·.1) = List.range k

/-- what a round keeps: whatever lies below n₀, and the iterator's two boxes -/
def Kc (n₀ B1 B2 : Nat) (A B : World) : Prop := Below n₀ A B ∧ (∀ v, A.cell? ⟨B1, 0, none⟩ = some v → B.cell? ⟨B1, 0, none⟩ = some v) ∧ ∀ v, A.cell? ⟨B2, 0, none⟩ = some v → B.cell? ⟨B2, 0, none⟩ = some v
theorem Kc.refl (n₀ B1 B2 : Nat) (A : World) : Kc n₀ B1 B2 A A := ⟨Below.refl _ _, fun _ h => h, fun _ h => h⟩
theorem Kc.trans {n₀ B1 B2 : Nat} {A B C : World} (h : Kc n₀ B1 B2 A B) (h' : Kc n₀ B1 B2 B C) : Kc n₀ B1 B2 A C := ⟨h.1.trans h'.1, fun v hv => h'.2.1 v (h.2.1 v hv), fun v hv => h'.2.2 v (h.2.2 v hv)⟩
theorem Kc.drewN {n₀ B1 B2 : Nat} {A B : World} (h : Kc n₀ B1 B2 A B) (n : Nat) : Kc n₀ B1 B2 A (B.drewN n) := h.trans ⟨below_drewN _ _, fun _ h => h, fun _ h => h⟩

set_option maxRecDepth 100000 in
set_option maxHeartbeats 2000000 in
theorem chunk66 (n : Nat) (hn : 1 ≤ n) (l B1 B2 n₀ b off len cap m : Nat) (a : Option Addr) (ha : 0 < len → a = some ⟨b, off, none⟩) (hm : 1 ≤ m ∧ m ≤ 65536) (hreach : len ≤ 1048576) (hcap : len ≤ cap ∧ cap ≤ maxLen) (J Jx : List (Ck (pieces len m)) → World → Prop)
    (hJd : ∀ pre W n, J pre W → J pre (W.drewN n))
    (hY : ∀ pre x W, J pre W → pre.length < pieces len m → YieldAt Fence.wide (n - 1) Try.prog l (encCk b off len m x) W fun e W' =>
      (e = .returned (.bool true) ∧ J (pre ++ [x]) W' ∧ Kc n₀ B1 B2 W W') ∨ (e = .returned (.bool false) ∧ Jx (pre ++ [x]) W'))
    (W : World) (h1 : W.cell? ⟨B1, 0, none⟩ = some (.slice a len cap)) (h2 : W.cell? ⟨B2, 0, none⟩ = some (.int .i64 m)) (h0 : J [] W) :
    CallsIn Fence.wide n Try.prog 66 #[.func (.yield l) #[] #[], .pointer (some ⟨B1, 0, none⟩), .pointer (some ⟨B2, 0, none⟩)] W fun e W' => (∃ v, e = .returned v) ∧
      ((∃ ys, isRun ys (pieces len m) ∧ J ys W') ∨ (∃ pre, (∃ k, k ≤ pieces len m ∧ isRun pre k) ∧ Jx pre W')) := by
  have hro : Fence.wide.round = none := rfl
  unfold maxLen at hcap
  refine callsIn_of_wp Try.func66 rfl trivial ?_ hro
  simp only [Try.ntmps66, List.size_toArray, List.length_cons, List.length_nil, Nat.reduceAdd, Nat.reduceSub, Array.replicate_succ, Array.replicate_zero, List.push_toArray, List.append_toArray, List.nil_append, List.cons_append]
  gi_wp2
  gi_loopw [4] (fun i wr => ∃ (k : Nat) (pre : List (Ck (pieces len m))), k ≤ pieces len m ∧ i = .int .i64 ((k * m : Nat) : Int) ∧ isRun pre k ∧ J pre wr ∧ Kc n₀ B1 B2 W wr)
    (fun i _ => (len + m - intOf i).toNat)
  case atStart => exact ⟨0, [], Nat.zero_le _, by simp, rfl, h0, Kc.refl _ _ _ _⟩
  case round =>
    obtain ⟨k, pre, hk, rfl, hpre, hJs, hnx⟩ := hrel
    have c1 := hnx.2.1 _ h1
    have c2 := hnx.2.2 _ h2
    by_cases hlt : k < pieces len m
    · have q1 : k * m < len := (pieces_lt (by omega)).1 hlt
      obtain rfl := ha (by omega)
      clear ha
      obtain ⟨s, hs⟩ : ∃ s, s = k * m := ⟨_, rfl⟩
      have hs1 := hid (show (k + 1) * m = s + m by rw [Nat.add_mul, Nat.one_mul, hs])
      obtain ⟨p, hp⟩ : ∃ p, p = pl len m k := ⟨_, rfl⟩
      have hp2 : p = min m (len - s) := by rw [hp, hs]; rfl
      have hpl : pre.length < pieces len m := by
        have := congrArg List.length hpre
        simp at this
        omega
      have hp3 : isRun (pre ++ [⟨k, hlt⟩]) (k + 1) := by
        unfold isRun at hpre ⊢
        rw [List.map_append, hpre, List.range_succ]; rfl
      rw [← hs] at q1 ⊢
      have Hs := hid hs
      have Hp := hid hp
      have t1 : (s : Int) < (len : Int) := by omega
      have t2 : (0 : Int) ≤ (s : Int) := by omega
      have t3 : (s : Int) ≤ (len : Int) := by omega
      have t4 : ¬ (cap = s) := by omega
      have e1 : (s : Int).toNat = s := by omega
      have hpm := hid hp2
      have p1 : 1 ≤ p ∧ s + p ≤ len ∧ p ≤ m := by omega
      clear hs hp hp2
      by_cases hml : m ≤ len - s
      all_goals
        have u1 : (((m : Int) ≤ ((len - s : Nat) : Int)) ∨ True) := .inr trivial
        gi_wp2
        refine wpIn_wide.2 ?_
        go_quiet (fail)
        have hJ2 := hJd _ _ nq hJs
        have hn2 := hnx.drewN nq
        have c1 : (wr.drewN nq).cell? ⟨B1, 0, none⟩ = some (.slice (some ⟨b, off, none⟩) len cap) := c1
        have c2 : (wr.drewN nq).cell? ⟨B2, 0, none⟩ = some (.int .i64 m) := c2
        obtain ⟨fn, tmps, assign, body, hy, hR⟩ := hY pre ⟨k, hlt⟩ (wr.drewN nq) hJ2 hpl
        dsimp only [encCk] at hy
        rw [← Hp.out, ← Hs.out] at hy
        clear hJs hnx hJd u1
        have hpo := hpm.out
        first
          | (have hpe : p = m := by omega
             rw [hpe] at hy; clear hpe)
          | (have hpe : p = len - s := by omega
             rw [hpe] at hy; clear hpe)
        clear hpo
        have e3 : ((s : Int) + (m : Int)).toNat - s = m := by omega
        have e4 : ((s : Int) + ((len - s : Nat) : Int)).toNat - s = len - s := by omega
        gi_wp2
        refine hR.mono ?_
        rintro e W3 (⟨rfl, hJ3, hk3⟩ | ⟨rfl, hJx3⟩)
        · have hn3 := hn2.trans hk3
          have c1 := hn3.2.1 _ h1
          have c2 := hn3.2.2 _ h2
          clear e3 e4 t4 t3 t2 t1
          gi_wp2
          go_roundw
          case rel => exact ⟨k + 1, _, by omega, by first | rfl | (rw [hs1.out]; simp), hp3, hJ3, hn3⟩
          case measure => simp [intOf]; omega
        · gi_wp2
          refine bodyPost_ret (results_none rfl _ _ _) rfl ?_
          exact ⟨⟨_, rfl⟩, .inr ⟨_, ⟨k + 1, by omega, hp3⟩, hJx3⟩⟩
    · obtain rfl : k = pieces len m := by omega
      have q1 : len ≤ pieces len m * m := by
        rcases Nat.lt_or_ge (pieces len m * m) len with h | h
        · have := (pieces_lt (len := len) (m := m) (k := pieces len m) (by omega)).2 h
          omega
        · exact h
      have t1 : ¬ ((pieces len m * m : Nat) : Int) < (len : Int) := by omega
      generalize pieces len m * m = s at *
      gi_wp2
      go_end0
      exact ⟨⟨_, rfl⟩, .inl ⟨_, hpre, hJs⟩⟩
theorem chunk64 (n : Nat) (a : Option Addr) (len cap m : Nat) (w : World) (hm : 1 ≤ m) (hm2 : m ≤ 65536) :
    CallsIn Fence.wide n Try.prog 64 #[.slice a len cap, .int .i64 m] w fun e w' => e = .returned (.func (.func 66) #[] #[.pointer (some ⟨w.heap.size, 0, none⟩), .pointer (some ⟨w.heap.size + 1, 0, none⟩)]) ∧ w' = (w.alloc (.cells #[.slice a len cap] 22)).alloc (.cells #[.int .i64 m] 3) := by
  refine callsIn_wide.2 ?_
  have t : decide ((m : Int) < 1) = false := by simp; omega
  go_enter Try.func64, Try.ntmps64
  go_wp2_with fail
  go_ret
  exact ⟨rfl, rfl⟩
theorem stops66 (n : Nat) (hn : 1 ≤ n) (B1 B2 n₀ b off len cap m : Nat) (a : Option Addr) (ha : 0 < len → a = some ⟨b, off, none⟩) (hm : 1 ≤ m ∧ m ≤ 65536) (hreach : len ≤ 1048576) (hcap : len ≤ cap ∧ cap ≤ maxLen) (w : World) (hB1 : B1 < w.heap.size) (hB2 : B2 < w.heap.size)
    (h1 : w.cell? ⟨B1, 0, none⟩ = some (.slice a len cap)) (h2 : w.cell? ⟨B2, 0, none⟩ = some (.int .i64 m)) :
    SeqStopsK Fence.wide n Try.prog 66 #[.pointer (some ⟨B1, 0, none⟩), .pointer (some ⟨B2, 0, none⟩)] (encCk b off len m (K := pieces len m)) (Kc n₀ B1 B2) (fun ys => isRun ys (pieces len m)) (fun pre => ∃ k, k ≤ pieces len m ∧ isRun pre k) (pieces len m) w := fun l J Jx W hW hJ _ hY h0 =>
  chunk66 n hn l B1 B2 n₀ b off len cap m a ha hm hreach hcap J Jx (fun pre W1 n hj => hJ pre W1 _ none hj (grownBy_drewN _ _ _) (fun r e => by cases e)) hY W ((hW.cell (p := ⟨B1, 0, none⟩) hB1).trans h1) ((hW.cell (p := ⟨B2, 0, none⟩) hB2).trans h2) h0
theorem kc_b {n₀ B1 B2 : Nat} {w : World} (hn : n₀ ≤ w.heap.size) (hB1 : B1 < w.heap.size) (hB2 : B2 < w.heap.size) (W : World) (l : Nat) (o o' : Obj) (hl : w.heap.size ≤ l) (h : W.heap[l]? = some o) (h1 : o.isCells = false) (h2 : o.isWalk = false) : Kc n₀ B1 B2 W (W.putObj l o') :=
  ⟨belowK_b hn W l o o' hl h h1 h2, fun v hv => (belowK_b (n₀ := B1 + 1) (w := w) (by omega) W l o o' hl h h1 h2).cell (p := ⟨B1, 0, none⟩) (by simp) |>.trans hv, fun v hv => (belowK_b (n₀ := B2 + 1) (w := w) (by omega) W l o o' hl h h1 h2).cell (p := ⟨B2, 0, none⟩) (by simp) |>.trans hv⟩
theorem sne {a b : Nat} (h : a ≠ b) : some a ≠ some b := fun e => h (Option.some.inj e)
theorem own_apart {w : World} {b b' e e' s s' n n' : Nat} {v v' : Value} {xs xs' : List Value} (h : w.ownsRow b e s v n xs) (h' : w.ownsRow b' e' s' v' n' xs') (he : e ≠ e') : v.ownBlock = none ∨ v.ownBlock ≠ v'.ownBlock := by
  rcases h'.2 with ⟨rfl, _⟩ | ⟨g', cap', cur', rfl, _, hg', _⟩
  · rcases hv : v.ownBlock with _ | r
    · exact .inl rfl
    · exact .inr (by simp [Value.ownBlock])
  · exact own_ne h hg' he
theorem Kc.ofBelow {n₀ B1 B2 : Nat} {A B : World} (h : Below A.heap.size A B) (hn : n₀ ≤ A.heap.size) : Kc n₀ B1 B2 A B :=
  ⟨h.mono hn, fun v hv => (h.cell (p := ⟨B1, 0, none⟩) (World.block_lt_of_cell? A _ hv)).trans hv, fun v hv => (h.cell (p := ⟨B2, 0, none⟩) (World.block_lt_of_cell? A _ hv)).trans hv⟩
theorem Kc.ofGrown {n₀ B1 B2 : Nat} {A B : World} {row : Option Nat} (h : A.grownBy B row) (hn : n₀ ≤ A.heap.size) (hr : ∀ r, row = some r → n₀ ≤ r ∧ r ≠ B1 ∧ r ≠ B2) : Kc n₀ B1 B2 A B :=
  ⟨(Below.refl n₀ A).grown h hn (fun k e => (hr k e).1), fun v hv => (World.cell?_of_block (w := A) (a := ⟨B1, 0, none⟩) (h.block B1 (World.block_lt_of_cell? A ⟨B1, 0, none⟩ hv) (fun e => (hr B1 e.symm).2.1 rfl))).trans hv,
    fun v hv => (World.cell?_of_block (w := A) (a := ⟨B2, 0, none⟩) (h.block B2 (World.block_lt_of_cell? A ⟨B2, 0, none⟩ hv) (fun e => (hr B2 e.symm).2.2 rfl))).trans hv⟩
theorem keeps_below {A B : World} (h : Below A.heap.size A B) : KeepsOthers A B := KeepsOthers.of_grownBy (grownBy_of_below h none) (fun j o e => by cases e)
theorem Boxed.below {W W' : World} {B : Nat} {t : TypeId} {v : Value} (h : Boxed W B t v) (hb : Below W.heap.size W W') : Boxed W' B t v := h.kept (grownBy_of_below hb none) (by simp)
theorem keeps_own {A B : World} {base e size n : Nat} {v : Value} {xs : List Value} (h : A.ownsRow base e size v n xs) (hg : A.grownBy B v.ownBlock) : KeepsOthers A B := KeepsOthers.of_grownBy hg fun j o ej hj => by
  rcases h.2 with ⟨rfl, _⟩ | ⟨g, cap, cur, rfl, _, hgb, _⟩
  · simp [Value.ownBlock] at ej
  · obtain rfl : g = j := by simpa [Value.ownBlock] using ej
    rw [hgb] at hj; cases hj; rfl
theorem ownsRow_cells {w w' : World} {base e size : Nat} {v : Value} {n : Nat} {xs : List Value} (h : w.ownsRow base e size v n xs) (hk : ∀ (g : Nat) (o : Obj), w.heap[g]? = some o → o.isCells = true → w'.heap[g]? = some o) : w'.ownsRow base e size v n xs := by
  refine ⟨h.1, ?_⟩
  rcases h.2 with hn | ⟨g, cap, cur, rfl, hB, hgg, rest⟩
  · exact .inl hn
  · exact .inr ⟨g, cap, cur, rfl, hB, hk g _ hgg rfl, rest⟩
theorem own_not {w : World} {base e size n D : Nat} {v : Value} {xs : List Value} {o : Obj} (h : w.ownsRow base e size v n xs) (hD : w.heap[D]? = some o) (ho : o.isCells = false) : v.ownBlock ≠ some D := by
  rcases h.2 with ⟨rfl, _⟩ | ⟨g, cap, cur, rfl, _, hg, _⟩
  · simp [Value.ownBlock]
  · intro he
    obtain rfl : g = D := by simpa [Value.ownBlock] using he
    rw [hD] at hg; cases hg; cases ho
theorem ownsRow_keeps {w w' : World} {base e size n : Nat} {v : Value} {xs : List Value} {row : Option Nat} (h : w.ownsRow base e size v n xs) (hg : w.grownBy w' row) (hr : ∀ r, row = some r → ∃ o : Obj, w.heap[r]? = some o ∧ o.isCells = false) : w'.ownsRow base e size v n xs := by
  refine ⟨h.1, ?_⟩
  rcases h.2 with hn | ⟨g, cap, cur, rfl, hB, hgg, rest⟩
  · exact .inl hn
  · exact .inr ⟨g, cap, cur, rfl, hB, (grownBy_keeps_cells hg hr hgg rfl).trans hgg, rest⟩
theorem Rd.piece {w : World} {b off len cap m k : Nat} {u : List Nat} (h : Rd w (some ⟨b, off, none⟩) len cap (vb u)) (hk : k * m < len) : Rd w (some ⟨b, off + k * m, none⟩) (pl len m k) (pl len m k) (vb (piece u m k)) ∧ (Go.Proofs.Ytopmamgdfngdoaa.piece u m k).length = pl len m k := by
  have hl := h.len
  rw [vb_len] at hl
  have hpl : (Go.Proofs.Ytopmamgdfngdoaa.piece u m k).length = pl len m k := by unfold Go.Proofs.Ytopmamgdfngdoaa.piece pl; rw [List.length_take, List.length_drop, hl]
  have hle : pl len m k ≤ len - k * m := Nat.min_le_right _ _
  have hmx := h.max
  have hcp := h.le
  refine ⟨⟨by rw [vb_len, hpl], Nat.le_refl _, by omega, (fun h => by cases h), fun hm => ?_⟩, hpl⟩
  obtain ⟨b', off', ha, hlt, hc⟩ := h.mem (by omega)
  cases ha
  refine ⟨b, off + k * m, rfl, hlt, fun j hj => ?_⟩
  have h1 := hc (k * m + j) (by omega)
  rw [← Nat.add_assoc] at h1
  rw [h1]
  unfold Go.Proofs.Ytopmamgdfngdoaa.piece vb
  rw [List.getElem?_map, List.getElem?_map, List.getElem?_take, if_pos (by unfold pl at hj; omega), List.getElem?_drop]

end Go.Proofs.Ytopmamgdfngdoaa
/- Bit operations of int at numbers that are not negative, in Nat's words. -/
namespace Go.Proofs.Ytopmamgdfngdoaa
theorem wraps_i64 (n : Int) (h₀ : 0 ≤ n) (h₁ : n < 2 ^ 63) : IntKind.i64.wrap n = n := IntWalk.i64_in _ (by omega)
theorem i64_and_nat (a b : Nat) (ha : a < 2 ^ 63) (hb : b < 2 ^ 63) : bits .and .i64 (a : Int) (b : Int) = ((a &&& b : Nat) : Int) :=
  (bits_nat .i64 63 (by decide) wraps_i64 a b ha hb).1
theorem i64_or_nat (a b : Nat) (ha : a < 2 ^ 63) (hb : b < 2 ^ 63) : bits .or .i64 (a : Int) (b : Int) = ((a ||| b : Nat) : Int) :=
  (bits_nat .i64 63 (by decide) wraps_i64 a b ha hb).2
theorem i64_xor_nat (a b : Nat) (ha : a < 2 ^ 63) (hb : b < 2 ^ 63) : bits .xor .i64 (a : Int) (b : Int) = ((a ^^^ b : Nat) : Int) := by
  have hp : (2 : Nat) ^ 63 ≤ 2 ^ 64 := by decide
  have ha' : a % 2 ^ 64 = a := Nat.mod_eq_of_lt (Nat.lt_of_lt_of_le ha hp)
  have hb' : b % 2 ^ 64 = b := Nat.mod_eq_of_lt (Nat.lt_of_lt_of_le hb hp)
  show IntKind.i64.wrap ((BitVec.ofInt 64 (a : Int) ^^^ BitVec.ofInt 64 (b : Int)).toNat : Int) = _
  rw [BitVec.toNat_xor, BitVec.ofInt_natCast, BitVec.ofInt_natCast, BitVec.toNat_ofNat, BitVec.toNat_ofNat, ha', hb']
  have hx := Nat.xor_lt_two_pow ha hb
  exact wraps_i64 _ (Int.natCast_nonneg _) (by exact_mod_cast hx)
end Go.Proofs.Ytopmamgdfngdoaa
/- deliver: Sum (walk 60). -/
namespace Go.Proofs.Ytopmamgdfngdoaa
set_option linter.unusedVariables false
open Go.RowKit Go.Shelf
attribute [local go_sem] Oper.semAt_some

theorem Try.info115 : (Try.prog.info? 115).map (fun i => (i.zero, i.size, i.bytes)) = some (some (.agg #[.int .u8 0, .int .u8 0, .int .u8 0, .int .u8 0]), 4, 4) := by kernel_rfl
/-- one piece more is added -/
def stepU (s : Int) (x : List Nat) : Int := (s + bits .or .u32 (bits .or .u32 (bits .or .u32 ((nth x 0 : Int) * 16777216) ((nth x 1 : Int) * 65536)) ((nth x 2 : Int) * 256)) (nth x 3 : Int)) % 4294967296
def sumU (bs : List Nat) (l : List Nat) : Int := l.foldl (fun s k => stepU s (piece bs 4 k)) 0
theorem fill4 : ∀ x : List Nat, x.length ≤ 4 → ([.int .u8 0, .int .u8 0, .int .u8 0, .int .u8 0] : List Value).take 0 ++ vb x ++ ([.int .u8 0, .int .u8 0, .int .u8 0, .int .u8 0] : List Value).drop (0 + (vb x).length) = [.int .u8 (nth x 0 : Nat), .int .u8 (nth x 1 : Nat), .int .u8 (nth x 2 : Nat), .int .u8 (nth x 3 : Nat)]
  | [], _ => rfl
  | [_], _ => rfl
  | [_, _], _ => rfl
  | [_, _, _], _ => rfl
  | [_, _, _, _], _ => rfl
  | _ :: _ :: _ :: _ :: _ :: _, h => by simp at h
theorem sumOwn (hb sb : Nat) (v x : Value) (A B : World) (row : Option Nat) (hs : Boxed A hb 111 v ∧ Boxed A sb 3 x)
    (hg : A.grownBy B row) (hr : ∀ r, row = some r → ∃ o : Obj, A.heap[r]? = some o ∧ o.isCells = false) : Boxed B hb 111 v ∧ Boxed B sb 3 x := by
  have key : ∀ (b : Nat) (t : TypeId) (x : Value), Boxed A b t x → Boxed B b t x := fun b t x h => h.kept hg (fun e' => by
    obtain ⟨o, ho, hc⟩ := hr b e'.symm
    rw [show A.heap[b]? = _ from h] at ho; cases ho; cases hc)
  exact ⟨key _ _ _ hs.1, key _ _ _ hs.2⟩
theorem sumU_snoc (bs l : List Nat) (k : Nat) : sumU bs (l ++ [k]) = stepU (sumU bs l) (piece bs 4 k) := by
  unfold sumU
  rw [List.foldl_append]
  rfl
theorem sumU_rng (bs l : List Nat) : 0 ≤ sumU bs l ∧ sumU bs l < 4294967296 := by
  rcases List.eq_nil_or_concat l with h | ⟨r, x, h⟩
  · subst h
    exact ⟨by show (0 : Int) ≤ 0; omega, by show (0 : Int) < _; omega⟩
  · subst h
    rw [List.concat_eq_append, sumU_snoc]
    unfold stepU
    omega
set_option maxRecDepth 100000 in
set_option maxHeartbeats 4000000 in
theorem sum60 (ua : Option Addr) (un uc : Nat) (bs : List Nat) (w : World) (hu : Rd w ua un uc (vb bs)) (hb : AllB bs) (hn : un ≤ 1000) :
    Calls Try.prog 60 #[.slice ua un uc] w fun e w' => e = .returned (.int .i64 (sumU bs (List.range (pieces un 4)))) ∧ Below w.heap.size w w' := by
  have hul : bs.length = un := by have := hu.len; rwa [vb_len] at this
  obtain ⟨ub, uo, hua⟩ : ∃ ub uo, 0 < un → ua = some ⟨ub, uo, none⟩ := by
    by_cases h0 : 0 < un
    · obtain ⟨b, off, ha, _, _⟩ := hu.mem h0
      exact ⟨b, off, fun _ => ha⟩
    · exact ⟨0, 0, fun h => absurd h h0⟩
  have hcap := hu.le
  have hmx := hu.max
  have HU := hid hu
  clear hu
  refine (callsIn_wide (n := 8)).1 ?_
  have hro : Fence.wide.round = none := rfl
  have h1 : 1 ≤ 8 := by decide
  refine callsIn_of_wp_marks Try.func60 rfl trivial ?_ hro
  simp only [Try.ntmps60, List.size_toArray, List.length_cons, List.length_nil, Nat.reduceAdd, Nat.reduceSub, Array.replicate_succ, Array.replicate_zero, List.push_toArray, List.append_toArray, List.nil_append, List.cons_append]
  refine wpIn_wide.2 ?_
  go_wp2_with fail
  refine ((callsIn_wide (n := 8)).1 (chunk64 8 _ _ _ 4 _ (by decide) (by decide))).mono ?_
  rintro e w' ⟨rfl, rfl⟩
  go_wp2_with fail
  have bx0 := ((Boxed.new w 111 (.int .u32 0)).alloc (.cells #[.slice ua un uc] 22)).alloc (.cells #[.int .i64 4] 3)
  have bx4 := (Boxed.new (w.alloc (.cells #[.int .u32 0] 111)) 22 (.slice ua un uc)).alloc (.cells #[.int .i64 4] 3)
  have bx5 := Boxed.new ((w.alloc (.cells #[.int .u32 0] 111)).alloc (.cells #[.slice ua un uc] 22)) 3 (.int .i64 4)
  have hB0 : Below w.heap.size w (((w.alloc (.cells #[.int .u32 0] 111)).alloc (.cells #[.slice ua un uc] 22)).alloc (.cells #[.int .i64 4] 3)) := (((Below.refl _ w).alloc (Nat.le_refl _) _).alloc (by simp) _).alloc (by simp; omega) _
  simp only [World.size_alloc] at bx4 bx5
  obtain ⟨V2, hV2⟩ : ∃ V2, V2 = ((w.alloc (.cells #[.int .u32 0] 111)).alloc (.cells #[.slice ua un uc] 22)).alloc (.cells #[.int .i64 4] 3) := ⟨_, rfl⟩
  rw [← hV2] at bx0 bx4 bx5 hB0 ⊢
  clear hV2
  have hVl := hB0.size
  refine (wpIn_wide (n := 8)).1 ?_
  refine wpIn_rangeFunc_ownG hro h1 (gf := 66) (lb := #[.pointer (some ⟨w.heap.size + 1, 0, none⟩), .pointer (some ⟨w.heap.size + 1 + 1, 0, none⟩)]) rfl trivial (enters_of Try.func66 (by kernel_rfl) rfl)
    (stops66 (8 - 1) (by omega) (w.heap.size + 1) (w.heap.size + 1 + 1) w.heap.size ub uo un uc 4 ua hua (by decide) (by omega) ⟨hcap, hmx⟩ V2 bx4.lt bx5.lt bx4.cell bx5.cell) (fun h k => h.trans k) (kc_b (by omega) bx4.lt bx5.lt) (Below.refl _ _) (fun _ => rfl)
    (fun (pre : List (Ck (pieces un 4))) W' => (Boxed W' w.heap.size 111 (.int .u32 (sumU bs (pre.map (·.1)))) ∧ Boxed W' (w.heap.size + 1 + 1) 3 (.int .i64 4)) ∧ Below w.heap.size w W')
    (fun _ _ _ => False)
    (OwnFrom.and (Own.from (fun s A B row hs hg hr => sumOwn w.heap.size (w.heap.size + 1 + 1) (.int .u32 (sumU bs (s.map (·.1)))) (.int .i64 4) A B row hs hg hr) _) (ownFrom_below (Nat.le_refl _) (by omega)))
    (fun _ _ _ _ _ hs _ _ => hs)
    ⟨⟨bx0, bx5⟩, hB0⟩
    (fun p => { tmps := #[.slice ua un uc, undef, .int .i64 0, .pointer (some ⟨w.heap.size, 0, none⟩), .slice (some ⟨ub, uo + p.1 * 4, none⟩) (pl un 4 p.1) (pl un 4 p.1), undef, .slice ua un uc, .func (.func 66) #[] #[.pointer (some ⟨w.heap.size + 1, 0, none⟩), .pointer (some ⟨w.heap.size + 1 + 1, 0, none⟩)], .slice (some ⟨ub, uo + p.1 * 4, none⟩) (pl un 4 p.1) (pl un 4 p.1), undef, undef, undef, undef, undef, undef, undef, undef, undef, undef, undef, undef, undef, undef, undef, undef, undef, undef, undef, undef, undef, undef, undef, undef, undef], defers := [] }) ?assign ?body ?done ?stop
  case assign =>
    intro l p W K hK
    dsimp only [encCk]
    gi_wp2
    exact hK
  case body =>
    clear bx0 bx4 bx5 hB0
    rintro l pre p W ⟨⟨hb0, hb5⟩, hB⟩ hlt
    obtain ⟨k, hk⟩ := p
    have hkm : k * 4 < un := (pieces_lt (by omega)).1 hk
    obtain rfl := hua (by omega)
    obtain ⟨hrd, hpl⟩ := (HU.out.below hB).piece (m := 4) (k := k) hkm
    have hpn : pl un 4 k ≤ 4 := Nat.min_le_left _ _
    have hpb : AllB (piece bs 4 k) := (hb.drop _).take _
    have hle0 : w.heap.size < W.heap.size := hb0.lt
    have hle5 : w.heap.size + 1 + 1 < W.heap.size := hb5.lt
    obtain ⟨sm, hsm⟩ : ∃ z, z = sumU bs (pre.map (·.1)) := ⟨_, rfl⟩
    rw [← hsm] at hb0
    have Hsm := hid hsm
    clear hsm
    generalize pl un 4 k = pk at *
    generalize uo + k * 4 = qk at *
    dsimp only
    obtain ⟨x, hx⟩ : ∃ x, x = piece bs 4 k := ⟨_, rfl⟩
    rw [← hx] at hrd hpl hpb
    have Hx := hid hx
    clear hx
    have bA := below_alloc W (.cells #[.int .u8 0, .int .u8 0, .int .u8 0, .int .u8 0] 115)
    have hA := heap_alloc_new W (.cells #[.int .u8 0, .int .u8 0, .int .u8 0, .int .u8 0] 115)
    have hrd1 := hrd.below bA
    have hcp := run_copy_wide (P := Try.prog) (W.alloc (.cells #[.int .u8 0, .int .u8 0, .int .u8 0, .int .u8 0] 115)) 22 22 3 5 W.heap.size 0 4 4 1 pk ⟨ub, qk, none⟩ pk pk #[.int .u8 0, .int .u8 0, .int .u8 0, .int .u8 0] 115 (vb x) Try.underlying22 (by kernel_rfl) hA (by rw [show Nat.min pk 4 = min pk 4 from rfl]; omega) (by rw [vb_len, hpl, Nat.mul_one]) (fun j v hj => by
      have hjl := (List.getElem?_eq_some_iff.1 hj).1
      rw [vb_len] at hjl
      obtain ⟨b', o', ha, _, hc⟩ := hrd1.mem (by omega)
      cases ha
      rw [Addr.add_lit, hc j (by omega), ← hj]) (by rw [vb_len, hpl]; show 0 + pk ≤ 4; omega) (vb_oneCell _)
    obtain ⟨m1, m2⟩ := set_whole (cs' := #[.int .u8 (nth x 0 : Nat), .int .u8 (nth x 1 : Nat), .int .u8 (nth x 2 : Nat), .int .u8 (nth x 3 : Nat)]) hA
    rw [show (#[.int .u8 0, .int .u8 0, .int .u8 0, .int .u8 0] : Array Value).toList = [.int .u8 0, .int .u8 0, .int .u8 0, .int .u8 0] from rfl, fill4 x (by omega)] at hcp
    have hb1 := (Boxed.below hb0 bA).kept m2 (fun e => by injection e with e; omega)
    have hb6 := (Boxed.below hb5 bA).kept m2 (fun e => by injection e with e; omega)
    have hB1 := (hB.trans (bA.mono hB.size)).grown m2 (Nat.le_trans hB.size bA.size) (fun j e => by cases e; exact hB.size)
    have kc1 : Kc w.heap.size (w.heap.size + 1) (w.heap.size + 1 + 1) W _ := (Kc.ofBelow bA hB.size).trans (Kc.ofGrown m2 (Nat.le_trans hB.size bA.size) (fun r e => by cases e; exact ⟨hB.size, by omega, by omega⟩))
    have ko1 : KeepsOthers W _ := (keeps_below bA).trans (KeepsOthers.of_grownBy m2 fun j o ej hj => by
      cases ej
      rw [hA] at hj; cases hj; rfl)
    obtain ⟨V, hV⟩ : ∃ V, V = (W.alloc (.cells #[.int .u8 0, .int .u8 0, .int .u8 0, .int .u8 0] 115)).setRow W.heap.size #[.int .u8 (nth x 0 : Nat), .int .u8 (nth x 1 : Nat), .int .u8 (nth x 2 : Nat), .int .u8 (nth x 3 : Nat)] := ⟨_, rfl⟩
    rw [← hV] at hb1 hb6 hB1 kc1 ko1 m1
    rw [show [Value.int .u8 (nth x 0 : Nat), .int .u8 (nth x 1 : Nat), .int .u8 (nth x 2 : Nat), .int .u8 (nth x 3 : Nat)].toArray = #[.int .u8 (nth x 0 : Nat), .int .u8 (nth x 1 : Nat), .int .u8 (nth x 2 : Nat), .int .u8 (nth x 3 : Nat)] from rfl, ← hV] at hcp
    clear hV m2 bA hA hrd1 hrd hb0 hb5 hB
    have hx0 := nth_lt hpb 0
    have hx1 := nth_lt hpb 1
    have hx2 := nth_lt hpb 2
    have hx3 := nth_lt hpb 3
    have w0 : V.cell? ⟨W.heap.size, 0, none⟩ = some (.int .u8 (nth x 0 : Nat)) := by rw [cell_of_row _ _ _ _ _ _ m1]; rfl
    have w1 : V.cell? ⟨W.heap.size, 1, none⟩ = some (.int .u8 (nth x 1 : Nat)) := by rw [cell_of_row _ _ _ _ _ _ m1]; rfl
    have w2 : V.cell? ⟨W.heap.size, 2, none⟩ = some (.int .u8 (nth x 2 : Nat)) := by rw [cell_of_row _ _ _ _ _ _ m1]; rfl
    have w3 : V.cell? ⟨W.heap.size, 3, none⟩ = some (.int .u8 (nth x 3 : Nat)) := by rw [cell_of_row _ _ _ _ _ _ m1]; rfl
    have c1 := hb1.cell
    have f1 := hb1.frozen
    have HS : Hid (stepU sm x = (sm + bits .or .u32 (bits .or .u32 (bits .or .u32 ((nth x 0 : Int) * 16777216) ((nth x 1 : Int) * 65536)) ((nth x 2 : Int) * 256)) (nth x 3 : Int)) % 4294967296) := rfl
    generalize nth x 0 = x0 at *
    generalize nth x 1 = x1 at *
    generalize nth x 2 = x2 at *
    generalize nth x 3 = x3 at *
    have M1 := hid m1
    clear m1
    have hVs := hB1.size
    gi_wp2_with fail
    rw [← HS.out]
    have g5 : V.grownBy (V.setCell ⟨w.heap.size, 0, none⟩ (.int .u32 (stepU sm x))) (some w.heap.size) := grownBy_setCell' V _ _
    refine ⟨(ko1.trans (KeepsOthers.of_grownBy g5 fun j o ej hj => by
        cases ej
        rw [show V.heap[w.heap.size]? = _ from hb1] at hj; cases hj; rfl)).from _, kc1.trans (Kc.ofGrown g5 hVs (fun r e => by cases e; exact ⟨Nat.le_refl _, by omega, by omega⟩)), ⟨⟨?_, hb6.kept g5 (sne (by omega))⟩, hB1.grown g5 hVs (fun r e => by cases e; exact Nat.le_refl _)⟩⟩
    have e : sumU bs ((pre ++ [(⟨k, hk⟩ : Ck (pieces un 4))]).map (·.1)) = stepU sm x := by
      rw [List.map_append]
      show sumU bs (pre.map (·.1) ++ [k]) = _
      rw [sumU_snoc, ← Hsm.out, Hx.out]
    show Boxed _ _ 111 (.int .u32 (sumU bs ((pre ++ [(⟨k, hk⟩ : Ck (pieces un 4))]).map (·.1))))
    rw [e]
    exact hb1.set _
  case done =>
    rintro D ys W hD hys ⟨⟨hb0, hb5⟩, hB⟩ hK
    have hys2 : ys.map (·.1) = List.range (pieces un 4) := hys
    rw [hys2] at hb0
    have hrg := sumU_rng bs (List.range (pieces un 4))
    obtain ⟨sm, hsm⟩ : ∃ sm, sm = sumU bs (List.range (pieces un 4)) := ⟨_, rfl⟩
    rw [← hsm] at hb0 hrg
    have Hsm := hid hsm
    clear hsm
    have c1 := hb0.cell
    have e1 : IntKind.i64.wrap sm = sm := IntWalk.i64_in _ (by omega)
    have HB := hid hB
    have HK := hid hK
    clear hys hys2 hB hK hb5
    go_wp2_with fail
    change LeavesInM Fence.wide 8 Try.prog Try.f60 _ _ [{ target := .collected D, args := #[] }] .returning W
    refine leaves_marks (B := w.heap.size) [{ target := .collected D, args := #[] }] W ⟨⟨D, rfl, by omega, HK.out⟩, (fun _ h => by cases h), trivial⟩ (fun W' hb hk => ⟨_, results_tmp rfl _ _ _, by rw [← Hsm.out]; rfl, HB.out.trans hb⟩)
  case stop =>
    rintro D c pre W _ _ h _
    exact h.elim
end Go.Proofs.Ytopmamgdfngdoaa
/- deliver: a reader of bytes: take, number, rest (walks 65, 61, 62). -/
namespace Go.Proofs.Ytopmamgdfngdoaa
set_option linter.unusedVariables false
open Go.RowKit

set_option maxRecDepth 100000 in
theorem run_cut95m (b off n c m : Nat) (hm : m ≤ n) (hc : n ≤ c) (w : World) : (Instr.sliceAt 95 (.slice (some ⟨b, off, none⟩) n c) none (some (.int .i64 (m : Int))) (some (.int .i64 (m : Int)))).run Try.prog w = .ok (.slice (some ⟨b, off, none⟩) m m) w := by
  have e1 : (0 : Int) ≤ (m : Int) := by omega
  have e2 : (m : Int) ≤ (c : Int) := by omega
  simp [go_sem, e1, e2, Try.underlying95]
set_option maxRecDepth 100000 in
theorem run_cut95l (b off n c l : Nat) (h1 : l ≤ n) (w : World) : (Instr.sliceAt 95 (.slice (some ⟨b, off, none⟩) n c) (some (.int .i64 (l : Int))) none none).run Try.prog w = .ok (.slice (some ⟨b, if c = l then off else off + l, none⟩) (n - l) (c - l)) w := by
  have e1 : (l : Int) ≤ n := by omega
  simp [go_sem, e1, Try.underlying95]
  split <;> rfl
/-- a reader: what is still to come -/
structure RB (W : World) (P : Nat) (bs : List Nat) : Prop where
  ex : ∃ a c, W.heap[P]? = some (.cells #[.slice a bs.length c] 95) ∧ RdT 5 W a bs.length c (vb bs)
theorem RdT.part {W : World} {b off n c k : Nat} {bs : List Nat} (h : RdT 5 W (some ⟨b, off, none⟩) n c (vb bs)) (hk : k ≤ n) (hk0 : 0 < k) : RdT 5 W (some ⟨b, off, none⟩) k k (vb (bs.take k)) ∧ RdT 5 W (some ⟨b, if c = k then off else off + k, none⟩) (n - k) (c - k) (vb (bs.drop k)) := by
  have hl := h.rd.len
  rw [vb_len] at hl
  have hle := h.rd.le
  have hmx := h.rd.max
  obtain ⟨b', off', ha, hlt, hc⟩ := h.rd.mem (by omega)
  cases ha
  obtain ⟨b', off', cs, ha, hr⟩ := h.ty (by omega)
  cases ha
  refine ⟨⟨⟨by rw [vb_len, List.length_take]; omega, Nat.le_refl _, by omega, (fun e => by cases e), fun _ => ⟨b, off, rfl, hlt, fun j hj => ?_⟩⟩, fun _ => ⟨b, off, cs, rfl, hr⟩⟩, ⟨⟨by rw [vb_len, List.length_drop]; omega, by omega, by omega, (fun e => by cases e), fun h0 => ?_⟩, fun h0 => ?_⟩⟩
  · rw [hc j (by omega), ← vb_take, List.getElem?_take, if_pos hj]
  · rw [if_neg (by omega)]
    refine ⟨b, off + k, rfl, hlt, fun j hj => ?_⟩
    rw [Nat.add_assoc, hc (k + j) (by omega), ← vb_drop, List.getElem?_drop]
  · rw [if_neg (by omega)]
    exact ⟨b, off + k, cs, rfl, hr⟩
structure TakR (W0 W : World) (P : Nat) (bs : List Nat) (k : Nat) (e : Ending) : Prop where
  ex : ∃ b off, e = .returned (.slice (some ⟨b, off, none⟩) k k) ∧ RdT 5 W (some ⟨b, off, none⟩) k k (vb (bs.take k))
  rb : RB W P (bs.drop k)
  g : W0.grownBy W (some P)
set_option maxRecDepth 1000000 in
set_option maxHeartbeats 4000000 in
theorem take_ok (P k : Nat) (bs : List Nat) (w : World) (h : RB w P bs) (hk0 : 0 < k) (hk : k ≤ bs.length) (hbl : bs.length ≤ 100000) :
    Calls Try.prog 65 #[.pointer (some ⟨P, 0, none⟩), .int .i64 (k : Int)] w fun e w' => TakR w w' P bs k e := by
  obtain ⟨a, c, hP, hr⟩ := h.ex
  obtain ⟨n, hn⟩ : ∃ n, n = bs.length := ⟨_, rfl⟩
  rw [← hn] at hP hr hk hbl
  obtain ⟨b, off, ha, _⟩ := hr.rd.mem (by omega)
  subst ha
  obtain ⟨h1, h2⟩ := hr.part hk hk0
  have hle := hr.rd.le
  have c0 : w.cell? ⟨P, 0, none⟩ = some (.slice (some ⟨b, off, none⟩) n c) := by rw [cell_of_row _ _ _ _ _ _ hP]; rfl
  have fz := frozen_row hP 0
  have d1 : ¬ (n : Int) < (k : Int) := by omega
  have d2 : ¬ n < k := by omega
  have q1 := run_cut95m b off n c k hk hle
  have q2 := run_cut95l b off n c k hk
  obtain ⟨m1, m2⟩ := set_row (cs' := #[.slice (some ⟨b, if c = k then off else off + k, none⟩) (n - k) (c - k)]) hP 0 (.slice (some ⟨b, if c = k then off else off + k, none⟩) (n - k) (c - k)) rfl
  obtain ⟨off2, hoff⟩ : ∃ off2, off2 = if c = k then off else off + k := ⟨_, rfl⟩
  rw [← hoff] at m1 m2 q2 h2
  have H1 := hid (h1.other m2 hP (by decide))
  have H2 := hid (h2.other m2 hP (by decide))
  have M1 := hid m1
  have M2 := hid m2
  have Hn := hid hn
  clear m1 m2 h1 h2 hr hP hoff h hn
  go_enter Try.func65, Try.ntmps65
  go_wp2_with fail
  go_ret
  exact ⟨⟨b, off, rfl, H1.out⟩, ⟨⟨some ⟨b, off2, none⟩, c - k, by rw [List.length_drop, ← Hn.out]; exact M1.out, by rw [List.length_drop, ← Hn.out]; exact H2.out⟩⟩, M2.out⟩
theorem or_add (a b : Nat) (i : Nat) (hb : b < 2 ^ i) : a * 2 ^ i ||| b = a * 2 ^ i + b := by
  rw [← Nat.shiftLeft_eq, Nat.shiftLeft_add_eq_or_of_lt hb]
def numB (bs : List Nat) : Nat := bs.foldl (fun n x => n * 256 + x) 0
theorem numB_snoc (bs : List Nat) (x : Nat) : numB (bs ++ [x]) = numB bs * 256 + x := by unfold numB; rw [List.foldl_append]; rfl
theorem numB_lt : ∀ (k : Nat) (bs : List Nat), bs.length = k → AllB bs → numB bs < 256 ^ k
  | 0, bs, h, _ => by
    have : bs = [] := List.eq_nil_of_length_eq_zero h
    subst this
    decide
  | k + 1, bs, h, ha => by
    have hne : bs ≠ [] := fun e => by subst e; cases h
    have e := List.dropLast_concat_getLast hne
    rw [← e, numB_snoc]
    have h1 := numB_lt k bs.dropLast (by rw [List.length_dropLast, h]; rfl) (fun x hx => ha x (List.dropLast_subset _ hx))
    have h2 := ha _ (List.getLast_mem hne)
    rw [Nat.pow_succ]
    have h3 : (numB bs.dropLast + 1) * 256 ≤ 256 ^ k * 256 := Nat.mul_le_mul_right _ h1
    omega
def NuI (a : Option Addr) (n c : Nat) (bs : List Nat) (W0 : World) (y : Nat → Value) (W : World) : Prop :=
  ∃ i : Nat, i ≤ n ∧ y 4 = .int .i64 (numB (bs.take i) : Nat) ∧ y 9 = .slice a n c ∧ y 10 = .int .i64 (n : Int) ∧ y 11 = .int .i64 (i : Int) ∧ W = W0
set_option maxRecDepth 1000000 in
theorem fr22 (y : Nat → Value) : fr 22 y = #[y 0, y 1, y 2, y 3, y 4, y 5, y 6, y 7, y 8, y 9, y 10, y 11, y 12, y 13, y 14, y 15, y 16, y 17, y 18, y 19, y 20, y 21] := rfl
structure NumR (W0 W : World) (P : Nat) (bs : List Nat) (k : Nat) (e : Ending) : Prop where
  he : e = .returned (.int .i64 (numB (bs.take k) : Nat))
  rb : RB W P (bs.drop k)
  g : W0.grownBy W (some P)
set_option maxRecDepth 1000000 in
set_option maxHeartbeats 4000000 in
theorem number_ok (P k : Nat) (bs0 : List Nat) (w : World) (h : RB w P bs0) (hk0 : 0 < k) (hk : k ≤ bs0.length) (hk4 : k ≤ 4) (hbl : bs0.length ≤ 100000) (hab : AllB bs0) :
    Calls Try.prog 61 #[.pointer (some ⟨P, 0, none⟩), .int .i64 (k : Int)] w fun e w' => NumR w w' P bs0 k e := by
  have htk := hid (take_ok P k bs0 w h hk0 hk hbl)
  clear h
  go_enter Try.func61, Try.ntmps61
  refine wp_seq_k (fun K0 hK0 => ?_)
  go_wp2_with fail
  refine hK0.out _ _ ?_
  refine wp_seq_k (fun K1 hK1 => ?_)
  refine wp_seq_k (fun K2 hK2 => ?_)
  go_wp2_with fail
  refine htk.out.mono ?_
  rintro e W0 ⟨⟨b, off, rfl, hr⟩, hrb, hg⟩
  have HRB := hid hrb
  have HG := hid hg
  have hb : AllB (bs0.take k) := fun x hx => hab x (List.mem_of_mem_take hx)
  have hl : (bs0.take k).length = k := by rw [List.length_take]; omega
  obtain ⟨bs, hbs⟩ : ∃ bs, bs = bs0.take k := ⟨_, rfl⟩
  rw [← hbs] at hr hb hl
  have HBs := hid hbs
  have HR := hid hr.rd
  have HA := hid hb
  have Hl := hid hl
  clear hr hb hl hrb hg htk hbs
  obtain ⟨a, ha⟩ : ∃ a : Option Addr, a = some ⟨b, off, none⟩ := ⟨_, rfl⟩
  rw [← ha] at HR ⊢
  clear ha
  go_wp2_with fail
  refine hK2.out _ _ ?_
  refine wp_block ?_
  refine wp_loop_fr 22 (NuI a k k bs W0) (fun y' _ => k - (intOf (y' 11)).toNat) ⟨rfl, rfl, 0, Nat.zero_le _, rfl, rfl, rfl, rfl, rfl⟩ ?_
  rintro z W ⟨i, hi, s4, s9, s10, s11, rfl⟩
  rw [fr22]
  simp only [s4, s9, s10, s11]
  clear s4 s9 s10 s11
  by_cases hlt : i < k
  · have d1 : decide ((i : Int) < (k : Int)) = true := decide_eq_true (by omega)
    have d2 : decide (i < k) = true := decide_eq_true hlt
    obtain ⟨b, off, rfl, hbl, c0⟩ := HR.out.cell i hlt
    have hx := nth_lt HA.out i
    have hT : Hid (numB (bs.take (i + 1)) = numB (bs.take i) * 256 + nth bs i) := by
      have hkl : i < bs.length := by rw [Hl.out]; exact hlt
      unfold Hid
      rw [List.take_add_one, List.getElem?_eq_getElem hkl, nth_get hkl, Option.toList_some, numB_snoc]
    have hlt2 : numB (bs.take i) < 16777216 := by
      have h1 := numB_lt i (bs.take i) (by rw [List.length_take, Hl.out]; omega) (fun x hx => HA.out x (List.mem_of_mem_take hx))
      have h2 : 256 ^ i ≤ 256 ^ 3 := Nat.pow_le_pow_right (by decide) (by omega)
      have h3 : (256 : Nat) ^ 3 = 16777216 := by decide
      omega
    generalize nth bs i = x at *
    generalize numB (bs.take i) = v at *
    obtain ⟨q, hq⟩ : ∃ q, q = v * 256 + x := ⟨_, rfl⟩
    have hor : bits .or .i64 ((v : Int) * 256) (x : Int) = (q : Int) := by
      have h1 := i64_or_nat (v * 256) x (by omega) (by omega)
      have h2 : v * 256 ||| x = v * 256 + x := or_add v x 8 (by omega)
      rw [h2, ← hq] at h1
      rw [← h1]
      congr 1
    have w1 : IntKind.i64.wrap ((v : Int) * 256) = (v : Int) * 256 := IntWalk.i64_in _ (by omega)
    rw [← hq] at hT
    clear hq
    go_wp2_with fail
    refine ⟨rfl, rfl, ⟨i + 1, by omega, ?_, rfl, rfl, ?_, rfl⟩, ?_⟩
    · rw [hT.out]; rfl
    · show Value.int .i64 _ = Value.int .i64 _
      go_num
    · show k - (intOf (Value.int .i64 _)).toNat < _
      simp [intOf]
      omega
  · obtain rfl : i = k := by omega
    have d1 : decide ((i : Int) < (i : Int)) = false := decide_eq_false (by omega)
    have ht : bs.take i = bs := List.take_of_length_le (by rw [Hl.out]; exact Nat.le_refl _)
    rw [ht]
    clear ht
    go_wp2_with fail
    refine hK1.out _ _ ?_
    go_wp2_with fail
    go_ret
    exact ⟨by rw [← HBs.out]; rfl, HRB.out, HG.out⟩
structure RestR (W0 W : World) (P : Nat) (bs : List Nat) (e : Ending) : Prop where
  ex : ∃ a c, e = .returned (.slice a bs.length c) ∧ W.ownsRow W0.heap.size 5 1 (.slice a bs.length c) bs.length (vb bs)
  rb : RB W P []
  g : W0.grownBy W (some P)
set_option maxRecDepth 1000000 in
set_option maxHeartbeats 4000000 in
theorem rest_ok (P : Nat) (bs : List Nat) (w : World) (h : RB w P bs) (h0 : 0 < bs.length) (hbl : bs.length ≤ 100000) :
    Calls Try.prog 62 #[.pointer (some ⟨P, 0, none⟩)] w fun e w' => RestR w w' P bs e := by
  obtain ⟨a, c, hP, hr⟩ := h.ex
  have htk := hid (take_ok P bs.length bs w h h0 (Nat.le_refl _) hbl)
  have c0 : w.cell? ⟨P, 0, none⟩ = some (.slice a bs.length c) := by rw [cell_of_row _ _ _ _ _ _ hP]; rfl
  have HP := hid hP
  obtain ⟨n, hn⟩ : ∃ n, n = bs.length := ⟨_, rfl⟩
  rw [← hn] at c0
  rw [← hn] at htk
  have Hn := hid hn
  have hn1 : n ≤ 100000 := by omega
  clear h hr hP hn
  go_enter Try.func62, Try.ntmps62
  refine wp_seq_k (fun K0 hK0 => ?_)
  go_wp2_with fail
  refine hK0.out _ _ ?_
  go_wp2_with fail
  refine htk.out.mono ?_
  rintro e W0 ⟨⟨b, off, rfl, hr⟩, hrb, hg⟩
  rw [Hn.out, List.take_length] at hr
  rw [Hn.out, List.drop_length] at hrb
  have HRB := hid hrb
  have HG := hid hg
  have HR := hid hr
  clear hrb hg hr htk c0
  rw [← Hn.out] at HR
  have hcl := hid (cloneB (some ⟨b, off, none⟩) n n bs W0 HR.out.rd (by omega))
  go_wp2_with fail
  refine hcl.out.mono ?_
  rintro e W1 ⟨ca, cc, rfl, ho, hb⟩
  obtain ⟨a2, c2, hP2, hr2⟩ := HRB.out.ex
  have HRB2 : Hid (RB W1 P []) := hid ⟨⟨a2, c2, row_below hP2 hb, hr2.below hb⟩⟩
  have HG2 := hid (grownBy_trans HG.out (grownBy_of_below hb (some P)))
  have HO := hid (ownsRow_mono ho HG.out.size)
  clear ho hb hcl hP2 hr2 HRB HG HR
  go_wp2_with fail
  go_ret
  refine ⟨⟨ca, cc, by rw [← Hn.out]; rfl, by rw [← Hn.out]; exact HO.out⟩, HRB2.out, HG2.out⟩
end Go.Proofs.Ytopmamgdfngdoaa
