/- Slices whose elements take one cell each: what a slice value reads as in a world; bytes as natural numbers. -/
import Derived.Test.YtjiipmalahhcpaaCarries1
import Derived.WalkKit
import Derived.OpenShut
import Derived.Deep.QuietTactic
import Derived.BigQuiet
import Derived.Test.YtjiipmalahhcpaaProg
import Derived.Laws.AppendOwnNone
import Derived.OwnWalk
import Derived.Deep.DeepAppendWide
namespace Go.Proofs.Ytjiipmalahhcpaa
open Go.RowKit

/-- the bytes' cells -/
def vb (bs : List Nat) : List Value := bs.map fun (x : Nat) => Value.int .u8 (x : Int)
theorem vb_len (bs : List Nat) : (vb bs).length = bs.length := by simp [vb]
theorem vb_get (bs : List Nat) (k : Nat) (h : k < bs.length) : (vb bs)[k]? = some (.int .u8 (nth bs k)) := by
  simp [vb, nth, h]
theorem vb_append (a b : List Nat) : vb (a ++ b) = vb a ++ vb b := by simp [vb]
theorem vb_set (bs : List Nat) (k x : Nat) : (vb bs).set k (.int .u8 (x : Int)) = vb (bs.set k x) := by simp [vb]
theorem vb_take (bs : List Nat) (k : Nat) : (vb bs).take k = vb (bs.take k) := by simp [vb]
theorem vb_oneCell (bs : List Nat) : ∀ u ∈ vb bs, u.oneCell' = true := by
  intro u hu
  obtain ⟨_, _, rfl⟩ := List.mem_map.1 hu
  rfl
/-- the slice (.slice ao n cap) reads as the cells xs -/
structure Rd (w : World) (ao : Option Addr) (n cap : Nat) (xs : List Value) : Prop where
  len : xs.length = n
  le : n ≤ cap
  max : cap ≤ maxLen
  isnil : ao = none → cap = 0
  mem : 0 < n → ∃ b off, ao = some ⟨b, off, none⟩ ∧ b < w.heap.size ∧ ∀ j, j < n → w.cell? ⟨b, off + j, none⟩ = xs[j]?

theorem Rd.below {w w' : World} {ao : Option Addr} {n cap : Nat} {xs : List Value} (h : Rd w ao n cap xs) (hb : Below w.heap.size w w') : Rd w' ao n cap xs :=
  ⟨h.len, h.le, h.max, h.isnil, fun hn => by
    obtain ⟨b, off, ha, hlt, hc⟩ := h.mem hn
    exact ⟨b, off, ha, Nat.lt_of_lt_of_le hlt hb.size, fun j hj => (hb.cell (p := ⟨b, off + j, none⟩) hlt).trans (hc j hj)⟩⟩

/-- kept while only blocks from B on turn -/
theorem Rd.below' {B : Nat} {w0 w' : World} {ao : Option Addr} {n cap : Nat} {xs : List Value} (h : Rd w0 ao n cap xs) (hB : w0.heap.size ≤ B) (h0 : Below B w0 w') : Rd w' ao n cap xs :=
  h.below (h0.mono hB)

theorem Rd.take {w : World} {ao : Option Addr} {n cap : Nat} {xs : List Value} (h : Rd w ao n cap xs) (k : Nat) (hk : k ≤ n) : Rd w ao k cap (xs.take k) :=
  ⟨by rw [List.length_take, h.len]; omega, by have := h.le; omega, h.max, h.isnil, fun hn => by
    obtain ⟨b, off, ha, hlt, hc⟩ := h.mem (by omega)
    exact ⟨b, off, ha, hlt, fun j hj => by rw [hc j (by omega), List.getElem?_take, if_pos hj]⟩⟩

theorem Rd.cell {w : World} {ao : Option Addr} {n cap : Nat} {bs : List Nat} (h : Rd w ao n cap (vb bs)) (k : Nat) (hk : k < n) :
    ∃ b off, ao = some ⟨b, off, none⟩ ∧ b < w.heap.size ∧ w.cell? ⟨b, off + k, none⟩ = some (.int .u8 (nth bs k)) := by
  obtain ⟨b, off, ha, hlt, hc⟩ := h.mem (by omega)
  have hl := h.len
  rw [vb_len] at hl
  exact ⟨b, off, ha, hlt, by rw [hc k hk, vb_get bs k (by omega)]⟩

theorem Rd.nil (w : World) : Rd w none 0 0 (vb []) := ⟨rfl, Nat.le_refl _, Nat.zero_le _, fun _ => rfl, fun h => by omega⟩

/-- an owned row reads -/
theorem Rd.ofOwn {w : World} {base e : Nat} {ao : Option Addr} {n cap : Nat} {xs : List Value} (h : w.ownsRow base e 1 (.slice ao n cap) n xs) : Rd w ao n cap xs := by
  have hl := h.1
  rw [Nat.mul_one] at hl
  rcases h.2 with ⟨h', h0⟩ | ⟨g, cap', cur, h', _, hg, h1, h2, h3, h4⟩
  · cases h'
    exact ⟨hl, Nat.le_refl _, Nat.zero_le _, fun _ => rfl, fun h => by omega⟩
  · cases h'
    refine ⟨hl, h1, h2, (fun h => by cases h), fun hn => ⟨g, 0, rfl, (Array.getElem?_eq_some_iff.1 hg).1, fun j hj => ?_⟩⟩
    rw [Nat.zero_add]
    exact h.cellAt j (by omega)

/-- an owned slice value: its address is a row's head, or it is nil -/
theorem own_form {w : World} {base e size : Nat} {v : Value} {n : Nat} {xs : List Value} (h : w.ownsRow base e size v n xs) :
    ∃ ao cap, v = .slice ao n cap ∧ n ≤ cap ∧ cap ≤ maxLen ∧ ((ao = none ∧ n = 0 ∧ cap = 0) ∨ ∃ g, ao = some ⟨g, 0, none⟩ ∧ base ≤ g ∧ g < w.heap.size) := by
  rcases h.2 with ⟨rfl, rfl⟩ | ⟨g, cap, cur, rfl, hb, hg, h1, h2, _⟩
  · exact ⟨none, 0, rfl, Nat.le_refl _, Nat.zero_le _, .inl ⟨rfl, rfl, rfl⟩⟩
  · exact ⟨_, cap, rfl, h1, h2, .inr ⟨g, rfl, hb, (Array.getElem?_eq_some_iff.1 hg).1⟩⟩

theorem ownsRow_below {w w' : World} {base e size : Nat} {v : Value} {n : Nat} {xs : List Value} (h : w.ownsRow base e size v n xs) (hb : Below w.heap.size w w') : w'.ownsRow base e size v n xs := by
  refine ⟨h.1, ?_⟩
  rcases h.2 with hn | ⟨g, cap, cur, rfl, hB, hgg, rest⟩
  · exact .inl hn
  · refine .inr ⟨g, cap, cur, rfl, hB, ?_, rest⟩
    rw [hb.block g (Array.getElem?_eq_some_iff.1 hgg).1]
    exact hgg

theorem ownsRow_mono {w : World} {base base' e size : Nat} {v : Value} {n : Nat} {xs : List Value} (h : w.ownsRow base e size v n xs) (hb : base' ≤ base) : w.ownsRow base' e size v n xs := by
  refine ⟨h.1, ?_⟩
  rcases h.2 with hn | ⟨g, cap, cur, rfl, hB, rest⟩
  · exact .inl hn
  · exact .inr ⟨g, cap, cur, rfl, Nat.le_trans hb hB, rest⟩

theorem Rd.grown {w w' : World} {row : Option Nat} {ao : Option Addr} {n cap : Nat} {xs : List Value} (h : Rd w ao n cap xs) (hg : w.grownBy w' row) (hne : ∀ b off, 0 < n → ao = some ⟨b, off, none⟩ → some b ≠ row) : Rd w' ao n cap xs :=
  ⟨h.len, h.le, h.max, h.isnil, fun hn => by
    obtain ⟨b, off, ha, hlt, hc⟩ := h.mem hn
    exact ⟨b, off, ha, Nat.lt_of_lt_of_le hlt hg.size, fun j hj => (World.cell?_of_block (w := w) (hg.block b hlt (hne _ _ hn ha))).trans (hc j hj)⟩⟩

theorem grownBy_trans {a b c : World} {row : Option Nat} (h : a.grownBy b row) (k : b.grownBy c row) : a.grownBy c row :=
  ⟨k.os.trans h.os, k.tape.trans h.tape, k.output.trans h.output, Nat.le_trans h.size k.size, fun i hi hne => (k.block i (Nat.lt_of_lt_of_le hi h.size) hne).trans (h.block i hi hne)⟩

theorem grownBy_of_below {w w' : World} (h : Below w.heap.size w w') (row : Option Nat) : w.grownBy w' row :=
  ⟨h.os, h.tape, h.output, h.size, fun k hk _ => h.block k hk⟩

theorem below_of_grown {w0 w w' : World} {g : Nat} (h : Below w0.heap.size w0 w) (hg : w.grownBy w' (some g)) (hle : w0.heap.size ≤ g) : Below w0.heap.size w0 w' :=
  h.grown hg h.size (fun k e => by cases e; exact hle)

theorem grownBy_drew (w : World) (row : Option Nat) : w.grownBy w.drew row := ⟨rfl, rfl, rfl, Nat.le_refl _, fun _ _ _ => rfl⟩
theorem grownBy_drewN (w : World) (n : Nat) (row : Option Nat) : w.grownBy (w.drewN n) row := ⟨rfl, rfl, rfl, Nat.le_refl _, fun _ _ _ => rfl⟩
theorem below_drewN {B : Nat} (w : World) (n : Nat) : Below B w (w.drewN n) := ⟨rfl, rfl, rfl, Nat.le_refl _, fun _ _ => rfl⟩
theorem Rd.block_lt {w : World} {ao : Option Addr} {n cap : Nat} {xs : List Value} (h : Rd w ao n cap xs) {b off : Nat} (hn : 0 < n) (ha : ao = some ⟨b, off, none⟩) : b < w.heap.size := by
  obtain ⟨b', off', ha', hlt, _⟩ := h.mem hn
  rw [ha] at ha'
  cases ha'
  exact hlt
theorem below_alloc (w : World) (o : Obj) : Below w.heap.size w (w.alloc o) := (Below.refl _ _).alloc (Nat.le_refl _) _

/-- the string of bytes -/
def strB (bs : List Nat) : ByteArray := ⟨(bs.map UInt8.ofNat).toArray⟩
theorem run_str {P : Program} {w : World} (src e dst : TypeId) (hs : P.underlying src = some (.slice e)) (he : P.underlying e = some (.int .u8)) (hd : P.underlying dst = some .string)
    {ao : Option Addr} {n cap : Nat} {bs : List Nat} (h : Rd w ao n cap (vb bs)) : (convert src dst (.slice ao n cap)).run P w = .ok (.string (strB bs)) w := by
  have hl := h.len
  rw [vb_len] at hl
  have hnums : strOfNums (bs.map fun (x : Nat) => (x : Int)) = strB bs := by
    unfold strOfNums strB
    congr 2
    rw [List.map_map]
    apply List.map_congr_left
    intro x _
    simp
  cases ao with
  | none =>
    obtain rfl := h.isnil rfl
    have h0 : n = 0 := by have := h.le; omega
    subst h0
    have : bs = [] := List.eq_nil_of_length_eq_zero hl
    subst this
    exact run_convert_bytes_nil w src e hs he 0 0 dst hd
  | some a =>
    rcases Nat.eq_zero_or_pos n with h0 | h0
    · subst h0
      have : bs = [] := List.eq_nil_of_length_eq_zero hl
      subst this
      rw [run_convert_bytes_string w src dst e _ 0 cap hs he hd, run_bytesToString w a 0 cap [] (by simp [loadCells, loadCellsFrom])]
      rfl
    · obtain ⟨b, off, ha, _, hc⟩ := h.mem h0
      cases ha
      rw [run_convert_bytes_arg w src e hs he b off n cap (bs.map fun (x : Nat) => (x : Int)) (by simpa using hl) (fun i hi => by
        rw [hc i hi, vb_get bs i (by omega)]
        simp [nth, hl, hi]) dst hd, hnums]
theorem run_str_ext {P : Program} {w : World} (src e dst : TypeId) (hs : P.underlying src = some (.slice e)) (he : P.underlying e = some (.int .u8)) (hd : P.underlying dst = some .string)
    {ao : Option Addr} {n cap : Nat} {bs : List Nat} (h : Rd w ao n cap (vb bs)) : ∀ w', Ext w w' → (convert src dst (.slice ao n cap)).run P w' = .ok (.string (strB bs)) w' :=
  fun _ hw => run_str src e dst hs he hd (h.below hw)

/-- a slice of bytes that came in, as the row's frame hands it over -/
theorem rd_of_row {w : World} {a : Option Addr} {len cap : Nat} {zs : List Int}
    (h : (a = none ∧ len = 0 ∧ cap = 0 ∧ zs = []) ∨ ∃ x, a = some x ∧ len ≤ cap ∧ cap ≤ maxLen ∧ zs.length = cap ∧ (∀ i, i < zs.length → w.cell? (x.add i) = some (.int .u8 (zs.getD i 0))) ∧ ∀ n ∈ zs, (Lit.int .u8 n).wf = true) :
    ∃ bs, Rd w a len cap (vb bs) ∧ AllB bs := by
  rcases h with ⟨rfl, rfl, rfl, rfl⟩ | ⟨x, rfl, hl, hm, hz, hc, hw⟩
  · exact ⟨[], Rd.nil w, AllB.nil⟩
  · have hb : ∀ n ∈ zs, 0 ≤ n ∧ n ≤ 255 := fun n hn => bounds_u8 (hw n hn)
    refine ⟨(zs.take len).map Int.toNat, ⟨by rw [vb_len, List.length_map, List.length_take]; omega, hl, hm, (fun h => by cases h), fun hn => ?_⟩, fun y hy => ?_⟩
    · have h0 := hc 0 (by omega)
      have hspot := World.cell?_spot h0
      obtain ⟨b, off, spot⟩ := x
      have hsp : spot = none := by
        cases spot with
        | none => rfl
        | some s => simp [Addr.add] at hspot
      subst hsp
      refine ⟨b, off, rfl, ?_, fun j hj => ?_⟩
      · rw [Addr.add_lit] at h0
        exact World.block_lt_of_cell? w _ h0
      · have h1 := hc j (by omega)
        rw [Addr.add_lit] at h1
        rw [h1, vb_get _ _ (by rw [List.length_map, List.length_take]; omega)]
        have hmem : zs[j]'(by omega) ∈ zs := List.getElem_mem _
        have hpos := (hb _ hmem).1
        have e1 : zs.getD j 0 = zs[j]'(by omega) := by rw [List.getD_eq_getElem?_getD, List.getElem?_eq_getElem (by omega)]; rfl
        have e2 : nth ((zs.take len).map Int.toNat) j = (zs[j]'(by omega)).toNat := by
          rw [nth_get (by rw [List.length_map, List.length_take]; omega)]
          simp
        rw [e1, e2, Int.toNat_of_nonneg hpos]
    · obtain ⟨n, hn, rfl⟩ := List.mem_map.1 hy
      have := hb n (List.mem_of_mem_take hn)
      omega

/-- the ints' cells -/
def vi (l : List Nat) : List Value := l.map fun (x : Nat) => Value.int .i64 (x : Int)
theorem vi_len (l : List Nat) : (vi l).length = l.length := by simp [vi]
theorem vi_get (l : List Nat) (k : Nat) (h : k < l.length) : (vi l)[k]? = some (.int .i64 (nth l k)) := by
  simp [vi, nth, h]
theorem vi_append (a b : List Nat) : vi (a ++ b) = vi a ++ vi b := by simp [vi]
theorem vi_set (l : List Nat) (k x : Nat) : (vi l).set k (.int .i64 (x : Int)) = vi (l.set k x) := by simp [vi]
/-- one new cell, where it lies -/
theorem one_new (w : World) (v : Value) (e : TypeId) : ∀ j u, [v][j]? = some u → (w.alloc (.cells #[v] e)).cell? ((⟨w.heap.size, 0, none⟩ : Addr).add j) = some u := by
  intro j u hj
  match j, hj with
  | 0, hj =>
    simp at hj
    subst hj
    rw [Addr.add_lit, World.cell?_alloc_at _ _ _ _ rfl]
    rfl
theorem one_new' {w : World} {H : Nat} (hH : w.heap.size = H) (v : Value) (e : TypeId) : ∀ j u, [v][j]? = some u → (w.alloc (.cells #[v] e)).cell? ((⟨H, 0, none⟩ : Addr).add j) = some u := by
  subst hH
  exact one_new w v e
end Go.Proofs.Ytjiipmalahhcpaa
/- packet.may: which error a packet has. -/
namespace Go.Proofs.Ytjiipmalahhcpaa
set_option linter.unusedVariables false
open Go.RowKit

set_option maxRecDepth 1000000 in
theorem in_st (n m : Int) (w : World) : Calls Try.prog 30 #[.int .i64 n, .int .i64 m] w fun e w' => e = .returned (.bool (decide (0 ≤ n) && decide (n ≤ m))) ∧ w' = w := by
  go_enter Try.func30, Try.ntmps30
  by_cases h : 0 ≤ n
  · have h1 : decide (0 ≤ n) = true := by simp [h]
    go_wp2
    go_ret
    simp <;> omega
  · have h1 : decide (0 ≤ n) = false := by simp [h]
    go_wp2
    go_ret
    simp <;> omega

def mayCode (apid part count : Int) (n : Nat) : Int :=
  if 0 ≤ apid ∧ apid ≤ 2047 ∧ 0 ≤ part ∧ part ≤ 3 ∧ 0 ≤ count ∧ count ≤ 16383 then (if n = 0 ∨ 65536 < n then 1 else 0) else 2

set_option maxRecDepth 1000000 in
theorem may_any (up se : Bool) (apid part count : Int) (a : Option Addr) (n c : Nat) (w : World) :
    Calls Try.prog 15 #[.agg #[.bool up, .bool se, .int .i64 apid, .int .i64 part, .int .i64 count, .slice a n c]] w fun e w' => e = .returned (.int .i64 (mayCode apid part count n)) ∧ Below w.heap.size w w' := by
  have B := below_alloc w (.cells #[.bool up, .bool se, .int .i64 apid, .int .i64 part, .int .i64 count, .slice a n c] 38)
  obtain ⟨W, hW⟩ : ∃ W, W = w.alloc (.cells #[.bool up, .bool se, .int .i64 apid, .int .i64 part, .int .i64 count, .slice a n c] 38) := ⟨_, rfl⟩
  have A : W.heap[w.heap.size]? = some (.cells #[.bool up, .bool se, .int .i64 apid, .int .i64 part, .int .i64 count, .slice a n c] 38 (0, 0)) := by rw [hW]; exact heap_alloc_new w _
  rw [← hW] at B
  go_enter Try.func15, Try.ntmps15
  have hW' := hW.symm
  clear hW
  have c2 : W.cell? ⟨w.heap.size, 2, none⟩ = some (.int .i64 apid) := by rw [cell_of_row _ _ _ _ _ _ A]; rfl
  have c3 : W.cell? ⟨w.heap.size, 3, none⟩ = some (.int .i64 part) := by rw [cell_of_row _ _ _ _ _ _ A]; rfl
  have c4 : W.cell? ⟨w.heap.size, 4, none⟩ = some (.int .i64 count) := by rw [cell_of_row _ _ _ _ _ _ A]; rfl
  have c5 : W.cell? ⟨w.heap.size, 5, none⟩ = some (.slice a n c) := by rw [cell_of_row _ _ _ _ _ _ A]; rfl
  go_wp2_with fail
  clear hW'
  refine (in_st _ _ _).mono ?_
  rintro e w' ⟨rfl, rfl⟩
  by_cases h1 : 0 ≤ apid ∧ apid ≤ 2047
  · have d1 : decide (0 ≤ apid) = true := by simp [h1.1]
    have d2 : decide (apid ≤ 2047) = true := by simp [h1.2]
    rw [d1, d2]
    go_wp2_with fail
    refine (in_st _ _ _).mono ?_
    rintro e w' ⟨rfl, rfl⟩
    by_cases h2 : 0 ≤ part ∧ part ≤ 3
    · have d1 : decide (0 ≤ part) = true := by simp [h2.1]
      have d2 : decide (part ≤ 3) = true := by simp [h2.2]
      rw [d1, d2]
      go_wp2_with fail
      refine (in_st _ _ _).mono ?_
      rintro e w' ⟨rfl, rfl⟩
      by_cases h3 : 0 ≤ count ∧ count ≤ 16383
      · have d1 : decide (0 ≤ count) = true := by simp [h3.1]
        have d2 : decide (count ≤ 16383) = true := by simp [h3.2]
        rw [d1, d2]
        by_cases h4 : n = 0
        · subst h4
          go_wp2_with fail
          go_ret
          exact ⟨by rw [show mayCode apid part count 0 = 1 by unfold mayCode; rw [if_pos (by omega), if_pos (by omega)]] <;> rfl, B⟩
        · have h40 : ((n : Int) == 0) = false := by simp; omega
          by_cases h5 : 65536 < n
          · have h50 : ((65536 : Int) < n) := by omega
            go_wp2_with fail
            go_ret
            exact ⟨by rw [show mayCode apid part count n = 1 by unfold mayCode; rw [if_pos (by omega), if_pos (by omega)]] <;> rfl, B⟩
          · have h50 : ¬ ((65536 : Int) < n) := by omega
            go_wp2_with fail
            go_ret
            exact ⟨by rw [show mayCode apid part count n = 0 by unfold mayCode; rw [if_pos (by omega), if_neg (by omega)]] <;> rfl, B⟩
      · have d1 : (decide (0 ≤ count) && decide (count ≤ 16383)) = false := by simp; omega
        rw [d1]
        go_wp2_with fail
        go_ret
        exact ⟨by rw [show mayCode apid part count n = 2 by unfold mayCode; rw [if_neg (by omega)]] <;> rfl, B⟩
    · have d1 : (decide (0 ≤ part) && decide (part ≤ 3)) = false := by simp; omega
      rw [d1]
      go_wp2_with fail
      go_ret
      exact ⟨by rw [show mayCode apid part count n = 2 by unfold mayCode; rw [if_neg (by omega)]] <;> rfl, B⟩
  · have d1 : (decide (0 ≤ apid) && decide (apid ≤ 2047)) = false := by simp; omega
    rw [d1]
    go_wp2_with fail
    go_ret
    exact ⟨by rw [show mayCode apid part count n = 2 by unfold mayCode; rw [if_neg (by omega)]] <;> rfl, B⟩
end Go.Proofs.Ytjiipmalahhcpaa
/- append of a row that reads (nil or not) onto an own row: one law for the walk. -/
namespace Go.Proofs.Ytjiipmalahhcpaa
set_option linter.unusedVariables false
open Go.RowKit

theorem own_slice {w : World} {base e size : Nat} {v : Value} {n : Nat} {xs : List Value} (h : w.ownsRow base e size v n xs) :
    ∃ ao cap, v = .slice ao n cap ∧ (v = .slice none 0 0 ↔ ao = none) ∧ ∀ k, v.ownBlock = some k → base ≤ k := by
  rcases h.2 with ⟨rfl, rfl⟩ | ⟨g, cap, cur, rfl, hb, _⟩
  · exact ⟨none, 0, rfl, by simp, fun k h => by simp [Value.ownBlock] at h⟩
  · exact ⟨_, cap, rfl, by simp, fun k h => by simp [Value.ownBlock] at h; omega⟩

theorem wpList_append_rd {P : Program} {w : World} {ops : Array Oper} {rest : List Oper} {o : Oper} {a : Act} {Q : Exit → Act → World → Prop} (hgd : o.guard = none) (s x : Operand) (t : TypeId)
    (ho : o.op = .call { callee := .builtin .append, args := #[s, x], argTypes := #[t, t] })
    (base : Nat) (e : TypeId) (i : TypeInfo) (z : Value) (bytes : Nat) (ht : P.underlying t = some (.slice e)) (hi : P.info? e = some i) (hz : i.zero = some z) (hsize : i.size = 1) (hby : i.bytes = bytes) (hzs : z.cells.size = 1)
    (ao : Option Addr) (n cap : Nat) (xs : List Value) (hs : a.eval s = .slice ao n cap) (hown : w.ownsRow base e 1 (.slice ao n cap) n xs)
    (bo : Option Addr) (m c : Nat) (ys : List Value) (hx : a.eval x = .slice bo m c) (hrd : Rd w bo m c ys) (h1 : ∀ u ∈ ys, u.oneCell' = true)
    (hbytes : (n + m) * bytes ≤ 140737488355328) (h63 : n + m ≤ maxLen) (hbase : base ≤ w.heap.size)
    (h : ∀ ao' cap' w', w'.ownsRow base e 1 (.slice ao' (n + m) cap') (n + m) (xs ++ ys) → w.grownBy w' (Value.slice ao n cap).ownBlock → Below base w w' → wpList P ops Q rest (a.put o.dst (.slice ao' (n + m) cap')) w') : wpList P ops Q (o :: rest) a w := by
  cases bo with
  | none =>
    obtain rfl := hrd.isnil rfl
    obtain rfl : m = 0 := by have := hrd.le; omega
    obtain rfl : ys = [] := List.eq_nil_of_length_eq_zero hrd.len
    refine wpList_append_own_none hgd s x t ho base e i 1 ht hi _ n xs hs hown hx ?_
    refine h _ _ _ (by simpa using hown) ⟨rfl, rfl, rfl, Nat.le_refl _, fun _ _ _ => rfl⟩ (Below.refl _ _)
  | some ad =>
    refine wpList_append_own w hgd s x t ho base e i z 1 bytes ht hi hz hsize hby hzs (by decide) _ n xs hs hown ad m c ys hx (by rw [hrd.len]; omega) ?_ h1 h63 hbytes hbase ?_
    · intro j u hj
      have hjn : j < m := by have h1 := (List.getElem?_eq_some_iff.1 hj).1; have h2 := hrd.len; omega
      obtain ⟨b', off', ha, _, hc⟩ := hrd.mem (by omega)
      cases ha
      rw [Addr.add_lit, hc j hjn]
      exact hj
    · intro v' w' ho' hg hnil
      obtain ⟨ao', cap', rfl, _, _⟩ := own_slice ho'
      obtain ⟨_, _, _, _, hown2⟩ := own_slice hown
      exact h _ _ _ ho' hg ((Below.refl base w).grown hg hbase hown2)

theorem wpList_append_rd_wide {P : Program} {w : World} {ops : Array Oper} {rest : List Oper} {o : Oper} {a : Act} {Q : Exit → Act → World → Prop} (hgd : o.guard = none) (s x : Operand) (t : TypeId)
    (ho : o.op = .call { callee := .builtin .append, args := #[s, x], argTypes := #[t, t] })
    (base : Nat) (e : TypeId) (i : TypeInfo) (z : Value) (bytes : Nat) (ht : P.underlying t = some (.slice e)) (hi : P.info? e = some i) (hz : i.zero = some z) (hsize : i.size = 1) (hby : i.bytes = bytes) (hzs : z.cells.size = 1)
    (ao : Option Addr) (n cap : Nat) (xs : List Value) (hs : a.eval s = .slice ao n cap) (hown : w.ownsRow base e 1 (.slice ao n cap) n xs)
    (bo : Option Addr) (m c : Nat) (ys : List Value) (hx : a.eval x = .slice bo m c) (hrd : Rd w bo m c ys) (h1 : ∀ u ∈ ys, u.oneCell' = true)
    (hbytes : ((n + m) + (n + m) / 4 + 192) * bytes ≤ 281474976710656) (h63 : n + m ≤ maxLen) (hbase : base ≤ w.heap.size)
    (h : ∀ ao' cap' w', w'.ownsRow base e 1 (.slice ao' (n + m) cap') (n + m) (xs ++ ys) → w.grownBy w' (Value.slice ao n cap).ownBlock → Below base w w' → wpList P ops Q rest (a.put o.dst (.slice ao' (n + m) cap')) w') : wpList P ops Q (o :: rest) a w := by
  cases bo with
  | none =>
    obtain rfl := hrd.isnil rfl
    obtain rfl : m = 0 := by have := hrd.le; omega
    obtain rfl : ys = [] := List.eq_nil_of_length_eq_zero hrd.len
    refine wpList_append_own_none hgd s x t ho base e i 1 ht hi _ n xs hs hown hx ?_
    refine h _ _ _ (by simpa using hown) ⟨rfl, rfl, rfl, Nat.le_refl _, fun _ _ _ => rfl⟩ (Below.refl _ _)
  | some ad =>
    refine wpList_append_own_wide w hgd s x t ho base e i z 1 bytes ht hi hz hsize hby hzs (by decide) _ n xs hs hown ad m c ys hx (by rw [hrd.len]; omega) ?_ h1 h63 hbytes hbase ?_
    · intro j u hj
      have hjn : j < m := by have h1 := (List.getElem?_eq_some_iff.1 hj).1; have h2 := hrd.len; omega
      obtain ⟨b', off', ha, _, hc⟩ := hrd.mem (by omega)
      cases ha
      rw [Addr.add_lit, hc j hjn]
      exact hj
    · intro v' w' ho' hg hnil
      obtain ⟨ao', cap', rfl, _, _⟩ := own_slice ho'
      obtain ⟨_, _, _, _, hown2⟩ := own_slice hown
      exact h _ _ _ ho' hg ((Below.refl base w).grown hg hbase hown2)
end Go.Proofs.Ytjiipmalahhcpaa
