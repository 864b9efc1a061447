/- picked: which of n things a raw number speaks of. -/
import Derived.Test.YtopmamgdfngdoaaProg
import Derived.Test.YtopmamgdfngdoaaWhole1
import Derived.KernelRfl
import Derived.WalkKit
import Derived.OpenShut
import Derived.Deep.QuietTactic
import Derived.BigQuiet
namespace Go.Proofs.Ytopmamgdfngdoaa
set_option linter.unusedVariables false
open Go.RowKit

/-- picked, as a natural number -/
def pk (n : Int) (of : Nat) : Nat := (if n < 0 then (-(n + 1)) % (of : Int) else n % (of : Int)).toNat
theorem pk_lt (n : Int) (of : Nat) (h : 0 < of) : pk n of < of := by
  unfold pk
  have h1 : ∀ x : Int, 0 ≤ x % (of : Int) ∧ x % (of : Int) < (of : Int) := fun x => ⟨Int.emod_nonneg _ (by omega), Int.emod_lt_of_pos _ (by omega)⟩
  split
  · have := h1 (-(n + 1)); omega
  · have := h1 n; omega

theorem pick_st (n of : Int) (w : World) (h0 : -9223372036854775808 ≤ n) (h1 : n ≤ 9223372036854775807) (h2 : 0 < of) (h3 : of ≤ 9223372036854775807) :
    Calls Try.prog 4 #[.int .i64 n, .int .i64 of] w fun e w' => e = .returned (.int .i64 ((pk n of.toNat : Nat) : Int)) ∧ w' = w := by
  obtain ⟨m, rfl⟩ := Int.eq_ofNat_of_zero_le (by omega : 0 ≤ of)
  have hb : ∀ x : Int, 0 ≤ x % (m : Int) ∧ x % (m : Int) < (m : Int) := fun x => ⟨Int.emod_nonneg _ (by omega), Int.emod_lt_of_pos _ h2⟩
  by_cases hn : n < 0
  · have e : ((pk n m : Nat) : Int) = (-(n + 1)) % (m : Int) := by
      have := hb (-(n + 1))
      unfold pk
      rw [if_pos hn]; omega
    have e2 : -((n + 1).tmod (m : Int)) = (-(n + 1)) % (m : Int) := by rw [← Int.neg_tmod, Int.tmod_eq_emod_of_nonneg (by omega)]
    have He := hid (e2.trans e.symm)
    clear e e2
    have hb1 := hb (-(n + 1))
    go_enter Try.func4, Try.ntmps4
    go_wp2
    go_ret
    refine ⟨?_, rfl⟩
    rw [Int.toNat_natCast, ← He.out]
    rfl
  · have e : ((pk n m : Nat) : Int) = n % (m : Int) := by
      have := hb n
      unfold pk
      rw [if_neg hn]; omega
    have He := hid e
    clear e
    go_enter Try.func4, Try.ntmps4
    go_wp2
    go_ret
    refine ⟨?_, rfl⟩
    try rw [Int.toNat_natCast]
    rw [He.out]
    rfl
theorem pick_any (n of : Int) (w : World) (h0 : -9223372036854775808 ≤ n) (h1 : n ≤ 9223372036854775807) (h2 : 0 < of) (h3 : of ≤ 9223372036854775807) :
    Calls Try.prog 4 #[.int .i64 n, .int .i64 of] w fun e w' => ∃ r : Nat, e = .returned (.int .i64 (r : Int)) ∧ r < of.toNat ∧ Hid (r = pk n of.toNat) ∧ w = w' :=
  (pick_st n of w h0 h1 h2 h3).mono fun e w' ⟨he, hw⟩ => ⟨_, he, pk_lt _ _ (by omega), rfl, hw.symm⟩
end Go.Proofs.Ytopmamgdfngdoaa
/- Lists of natural numbers below 256. No program in sight. -/
namespace Go.Proofs.Ytopmamgdfngdoaa
/-- the k-th number of a list, 0 beyond -/
def nth (l : List Nat) (k : Nat) : Nat := l.getD k 0
def AllB (l : List Nat) : Prop := ∀ x ∈ l, x < 256

theorem nth_lt {l : List Nat} (h : AllB l) (k : Nat) : nth l k < 256 := by
  unfold nth
  rcases Nat.lt_or_ge k l.length with hk | hk
  · rw [List.getD_eq_getElem?_getD, List.getElem?_eq_getElem hk]
    exact h _ (List.getElem_mem hk)
  · rw [List.getD_eq_getElem?_getD, List.getElem?_eq_none hk]
    decide
theorem AllB.set {l : List Nat} (h : AllB l) (k x : Nat) (hx : x < 256) : AllB (l.set k x) := by
  intro y hy
  rcases List.mem_or_eq_of_mem_set hy with h1 | h1
  · exact h y h1
  · omega
theorem AllB.take {l : List Nat} (h : AllB l) (k : Nat) : AllB (l.take k) := fun x hx => h x (List.mem_of_mem_take hx)
theorem AllB.drop {l : List Nat} (h : AllB l) (k : Nat) : AllB (l.drop k) := fun x hx => h x (List.mem_of_mem_drop hx)
theorem AllB.append {a b : List Nat} (h : AllB a) (h' : AllB b) : AllB (a ++ b) := fun x hx => (List.mem_append.1 hx).elim (h x) (h' x)
theorem AllB.replicate (n : Nat) : AllB (List.replicate n 0) := fun x hx => by rw [List.eq_of_mem_replicate hx]; decide
theorem AllB.nil : AllB [] := fun x hx => by cases hx

theorem nth_ge {l : List Nat} {k : Nat} (h : l.length ≤ k) : nth l k = 0 := by
  unfold nth
  rw [List.getD_eq_getElem?_getD, List.getElem?_eq_none h]; rfl
theorem nth_get {l : List Nat} {k : Nat} (h : k < l.length) : nth l k = l[k] := by
  unfold nth
  rw [List.getD_eq_getElem?_getD, List.getElem?_eq_getElem h]; rfl
theorem nth_set (l : List Nat) (i x k : Nat) (hi : i < l.length) : nth (l.set i x) k = if k = i then x else nth l k := by
  unfold nth
  simp only [List.getD_eq_getElem?_getD, List.getElem?_set]
  by_cases h : i = k
  · subst h; simp [hi]
  · have h' : ¬ k = i := fun e => h e.symm
    simp [h, h']
theorem nth_take (l : List Nat) (n k : Nat) : nth (l.take n) k = if k < n then nth l k else 0 := by
  unfold nth
  simp only [List.getD_eq_getElem?_getD, List.getElem?_take]
  split <;> rfl
theorem nth_replicate (n k : Nat) : nth (List.replicate n 0) k = 0 := by
  unfold nth
  simp only [List.getD_eq_getElem?_getD, List.getElem?_replicate]
  split <;> rfl
theorem ext_nth {a b : List Nat} (hl : a.length = b.length) (h : ∀ k, k < a.length → nth a k = nth b k) : a = b := by
  apply List.ext_getElem hl
  intro k h1 h2
  have := h k h1
  rwa [nth_get h1, nth_get h2] at this
end Go.Proofs.Ytopmamgdfngdoaa
/- Slices whose elements take one cell each: what a slice value reads as in a world; bytes as natural numbers. -/
namespace Go.Proofs.Ytopmamgdfngdoaa
open Go.RowKit

/-- the bytes' cells -/
def vb (bs : List Nat) : List Value := bs.map fun (x : Nat) => Value.int .u8 (x : Int)
theorem vb_len (bs : List Nat) : (vb bs).length = bs.length := by simp [vb]
theorem vb_get (bs : List Nat) (k : Nat) (h : k < bs.length) : (vb bs)[k]? = some (.int .u8 (nth bs k)) := by
  simp [vb, nth, h]
theorem vb_append (a b : List Nat) : vb (a ++ b) = vb a ++ vb b := by simp [vb]
theorem vb_set (bs : List Nat) (k x : Nat) : (vb bs).set k (.int .u8 (x : Int)) = vb (bs.set k x) := by simp [vb]
theorem vb_take (bs : List Nat) (k : Nat) : (vb bs).take k = vb (bs.take k) := by simp [vb]
theorem vb_oneCell (bs : List Nat) : ∀ u ∈ vb bs, u.oneCell' = true := by
  intro u hu
  obtain ⟨_, _, rfl⟩ := List.mem_map.1 hu
  rfl
/-- the slice (.slice ao n cap) reads as the cells xs -/
structure Rd (w : World) (ao : Option Addr) (n cap : Nat) (xs : List Value) : Prop where
  len : xs.length = n
  le : n ≤ cap
  max : cap ≤ maxLen
  isnil : ao = none → cap = 0
  mem : 0 < n → ∃ b off, ao = some ⟨b, off, none⟩ ∧ b < w.heap.size ∧ ∀ j, j < n → w.cell? ⟨b, off + j, none⟩ = xs[j]?

theorem Rd.below {w w' : World} {ao : Option Addr} {n cap : Nat} {xs : List Value} (h : Rd w ao n cap xs) (hb : Below w.heap.size w w') : Rd w' ao n cap xs :=
  ⟨h.len, h.le, h.max, h.isnil, fun hn => by
    obtain ⟨b, off, ha, hlt, hc⟩ := h.mem hn
    exact ⟨b, off, ha, Nat.lt_of_lt_of_le hlt hb.size, fun j hj => (hb.cell (p := ⟨b, off + j, none⟩) hlt).trans (hc j hj)⟩⟩

/-- kept while only blocks from B on turn -/
theorem Rd.below' {B : Nat} {w0 w' : World} {ao : Option Addr} {n cap : Nat} {xs : List Value} (h : Rd w0 ao n cap xs) (hB : w0.heap.size ≤ B) (h0 : Below B w0 w') : Rd w' ao n cap xs :=
  h.below (h0.mono hB)

theorem Rd.take {w : World} {ao : Option Addr} {n cap : Nat} {xs : List Value} (h : Rd w ao n cap xs) (k : Nat) (hk : k ≤ n) : Rd w ao k cap (xs.take k) :=
  ⟨by rw [List.length_take, h.len]; omega, by have := h.le; omega, h.max, h.isnil, fun hn => by
    obtain ⟨b, off, ha, hlt, hc⟩ := h.mem (by omega)
    exact ⟨b, off, ha, hlt, fun j hj => by rw [hc j (by omega), List.getElem?_take, if_pos hj]⟩⟩

theorem Rd.cell {w : World} {ao : Option Addr} {n cap : Nat} {bs : List Nat} (h : Rd w ao n cap (vb bs)) (k : Nat) (hk : k < n) :
    ∃ b off, ao = some ⟨b, off, none⟩ ∧ b < w.heap.size ∧ w.cell? ⟨b, off + k, none⟩ = some (.int .u8 (nth bs k)) := by
  obtain ⟨b, off, ha, hlt, hc⟩ := h.mem (by omega)
  have hl := h.len
  rw [vb_len] at hl
  exact ⟨b, off, ha, hlt, by rw [hc k hk, vb_get bs k (by omega)]⟩

theorem Rd.nil (w : World) : Rd w none 0 0 (vb []) := ⟨rfl, Nat.le_refl _, Nat.zero_le _, fun _ => rfl, fun h => by omega⟩

/-- an owned row reads -/
theorem Rd.ofOwn {w : World} {base e : Nat} {ao : Option Addr} {n cap : Nat} {xs : List Value} (h : w.ownsRow base e 1 (.slice ao n cap) n xs) : Rd w ao n cap xs := by
  have hl := h.1
  rw [Nat.mul_one] at hl
  rcases h.2 with ⟨h', h0⟩ | ⟨g, cap', cur, h', _, hg, h1, h2, h3, h4⟩
  · cases h'
    exact ⟨hl, Nat.le_refl _, Nat.zero_le _, fun _ => rfl, fun h => by omega⟩
  · cases h'
    refine ⟨hl, h1, h2, (fun h => by cases h), fun hn => ⟨g, 0, rfl, (Array.getElem?_eq_some_iff.1 hg).1, fun j hj => ?_⟩⟩
    rw [Nat.zero_add]
    exact h.cellAt j (by omega)

/-- an owned slice value: its address is a row's head, or it is nil -/
theorem own_form {w : World} {base e size : Nat} {v : Value} {n : Nat} {xs : List Value} (h : w.ownsRow base e size v n xs) :
    ∃ ao cap, v = .slice ao n cap ∧ n ≤ cap ∧ cap ≤ maxLen ∧ ((ao = none ∧ n = 0 ∧ cap = 0) ∨ ∃ g, ao = some ⟨g, 0, none⟩ ∧ base ≤ g ∧ g < w.heap.size) := by
  rcases h.2 with ⟨rfl, rfl⟩ | ⟨g, cap, cur, rfl, hb, hg, h1, h2, _⟩
  · exact ⟨none, 0, rfl, Nat.le_refl _, Nat.zero_le _, .inl ⟨rfl, rfl, rfl⟩⟩
  · exact ⟨_, cap, rfl, h1, h2, .inr ⟨g, rfl, hb, (Array.getElem?_eq_some_iff.1 hg).1⟩⟩

theorem ownsRow_below {w w' : World} {base e size : Nat} {v : Value} {n : Nat} {xs : List Value} (h : w.ownsRow base e size v n xs) (hb : Below w.heap.size w w') : w'.ownsRow base e size v n xs := by
  refine ⟨h.1, ?_⟩
  rcases h.2 with hn | ⟨g, cap, cur, rfl, hB, hgg, rest⟩
  · exact .inl hn
  · refine .inr ⟨g, cap, cur, rfl, hB, ?_, rest⟩
    rw [hb.block g (Array.getElem?_eq_some_iff.1 hgg).1]
    exact hgg

theorem ownsRow_mono {w : World} {base base' e size : Nat} {v : Value} {n : Nat} {xs : List Value} (h : w.ownsRow base e size v n xs) (hb : base' ≤ base) : w.ownsRow base' e size v n xs := by
  refine ⟨h.1, ?_⟩
  rcases h.2 with hn | ⟨g, cap, cur, rfl, hB, rest⟩
  · exact .inl hn
  · exact .inr ⟨g, cap, cur, rfl, Nat.le_trans hb hB, rest⟩

theorem Rd.grown {w w' : World} {row : Option Nat} {ao : Option Addr} {n cap : Nat} {xs : List Value} (h : Rd w ao n cap xs) (hg : w.grownBy w' row) (hne : ∀ b off, 0 < n → ao = some ⟨b, off, none⟩ → some b ≠ row) : Rd w' ao n cap xs :=
  ⟨h.len, h.le, h.max, h.isnil, fun hn => by
    obtain ⟨b, off, ha, hlt, hc⟩ := h.mem hn
    exact ⟨b, off, ha, Nat.lt_of_lt_of_le hlt hg.size, fun j hj => (World.cell?_of_block (w := w) (hg.block b hlt (hne _ _ hn ha))).trans (hc j hj)⟩⟩

theorem grownBy_trans {a b c : World} {row : Option Nat} (h : a.grownBy b row) (k : b.grownBy c row) : a.grownBy c row :=
  ⟨k.os.trans h.os, k.tape.trans h.tape, k.output.trans h.output, Nat.le_trans h.size k.size, fun i hi hne => (k.block i (Nat.lt_of_lt_of_le hi h.size) hne).trans (h.block i hi hne)⟩

theorem grownBy_of_below {w w' : World} (h : Below w.heap.size w w') (row : Option Nat) : w.grownBy w' row :=
  ⟨h.os, h.tape, h.output, h.size, fun k hk _ => h.block k hk⟩

theorem below_of_grown {w0 w w' : World} {g : Nat} (h : Below w0.heap.size w0 w) (hg : w.grownBy w' (some g)) (hle : w0.heap.size ≤ g) : Below w0.heap.size w0 w' :=
  h.grown hg h.size (fun k e => by cases e; exact hle)

theorem grownBy_drew (w : World) (row : Option Nat) : w.grownBy w.drew row := ⟨rfl, rfl, rfl, Nat.le_refl _, fun _ _ _ => rfl⟩
theorem grownBy_drewN (w : World) (n : Nat) (row : Option Nat) : w.grownBy (w.drewN n) row := ⟨rfl, rfl, rfl, Nat.le_refl _, fun _ _ _ => rfl⟩
theorem below_drewN {B : Nat} (w : World) (n : Nat) : Below B w (w.drewN n) := ⟨rfl, rfl, rfl, Nat.le_refl _, fun _ _ => rfl⟩
theorem Rd.block_lt {w : World} {ao : Option Addr} {n cap : Nat} {xs : List Value} (h : Rd w ao n cap xs) {b off : Nat} (hn : 0 < n) (ha : ao = some ⟨b, off, none⟩) : b < w.heap.size := by
  obtain ⟨b', off', ha', hlt, _⟩ := h.mem hn
  rw [ha] at ha'
  cases ha'
  exact hlt
theorem below_alloc (w : World) (o : Obj) : Below w.heap.size w (w.alloc o) := (Below.refl _ _).alloc (Nat.le_refl _) _

/-- the string of bytes -/
def strB (bs : List Nat) : ByteArray := ⟨(bs.map UInt8.ofNat).toArray⟩
theorem run_str {P : Program} {w : World} (src e dst : TypeId) (hs : P.underlying src = some (.slice e)) (he : P.underlying e = some (.int .u8)) (hd : P.underlying dst = some .string)
    {ao : Option Addr} {n cap : Nat} {bs : List Nat} (h : Rd w ao n cap (vb bs)) : (convert src dst (.slice ao n cap)).run P w = .ok (.string (strB bs)) w := by
  have hl := h.len
  rw [vb_len] at hl
  have hnums : strOfNums (bs.map fun (x : Nat) => (x : Int)) = strB bs := by
    unfold strOfNums strB
    congr 2
    rw [List.map_map]
    apply List.map_congr_left
    intro x _
    simp
  cases ao with
  | none =>
    obtain rfl := h.isnil rfl
    have h0 : n = 0 := by have := h.le; omega
    subst h0
    have : bs = [] := List.eq_nil_of_length_eq_zero hl
    subst this
    exact run_convert_bytes_nil w src e hs he 0 0 dst hd
  | some a =>
    rcases Nat.eq_zero_or_pos n with h0 | h0
    · subst h0
      have : bs = [] := List.eq_nil_of_length_eq_zero hl
      subst this
      rw [run_convert_bytes_string w src dst e _ 0 cap hs he hd, run_bytesToString w a 0 cap [] (by simp [loadCells, loadCellsFrom])]
      rfl
    · obtain ⟨b, off, ha, _, hc⟩ := h.mem h0
      cases ha
      rw [run_convert_bytes_arg w src e hs he b off n cap (bs.map fun (x : Nat) => (x : Int)) (by simpa using hl) (fun i hi => by
        rw [hc i hi, vb_get bs i (by omega)]
        simp [nth, hl, hi]) dst hd, hnums]
theorem run_str_ext {P : Program} {w : World} (src e dst : TypeId) (hs : P.underlying src = some (.slice e)) (he : P.underlying e = some (.int .u8)) (hd : P.underlying dst = some .string)
    {ao : Option Addr} {n cap : Nat} {bs : List Nat} (h : Rd w ao n cap (vb bs)) : ∀ w', Ext w w' → (convert src dst (.slice ao n cap)).run P w' = .ok (.string (strB bs)) w' :=
  fun _ hw => run_str src e dst hs he hd (h.below hw)

/-- a slice of bytes that came in, as the row's frame hands it over -/
theorem rd_of_row {w : World} {a : Option Addr} {len cap : Nat} {zs : List Int}
    (h : (a = none ∧ len = 0 ∧ cap = 0 ∧ zs = []) ∨ ∃ x, a = some x ∧ len ≤ cap ∧ cap ≤ maxLen ∧ zs.length = cap ∧ (∀ i, i < zs.length → w.cell? (x.add i) = some (.int .u8 (zs.getD i 0))) ∧ ∀ n ∈ zs, (Lit.int .u8 n).wf = true) :
    ∃ bs, Rd w a len cap (vb bs) ∧ AllB bs := by
  rcases h with ⟨rfl, rfl, rfl, rfl⟩ | ⟨x, rfl, hl, hm, hz, hc, hw⟩
  · exact ⟨[], Rd.nil w, AllB.nil⟩
  · have hb : ∀ n ∈ zs, 0 ≤ n ∧ n ≤ 255 := fun n hn => bounds_u8 (hw n hn)
    refine ⟨(zs.take len).map Int.toNat, ⟨by rw [vb_len, List.length_map, List.length_take]; omega, hl, hm, (fun h => by cases h), fun hn => ?_⟩, fun y hy => ?_⟩
    · have h0 := hc 0 (by omega)
      have hspot := World.cell?_spot h0
      obtain ⟨b, off, spot⟩ := x
      have hsp : spot = none := by
        cases spot with
        | none => rfl
        | some s => simp [Addr.add] at hspot
      subst hsp
      refine ⟨b, off, rfl, ?_, fun j hj => ?_⟩
      · rw [Addr.add_lit] at h0
        exact World.block_lt_of_cell? w _ h0
      · have h1 := hc j (by omega)
        rw [Addr.add_lit] at h1
        rw [h1, vb_get _ _ (by rw [List.length_map, List.length_take]; omega)]
        have hmem : zs[j]'(by omega) ∈ zs := List.getElem_mem _
        have hpos := (hb _ hmem).1
        have e1 : zs.getD j 0 = zs[j]'(by omega) := by rw [List.getD_eq_getElem?_getD, List.getElem?_eq_getElem (by omega)]; rfl
        have e2 : nth ((zs.take len).map Int.toNat) j = (zs[j]'(by omega)).toNat := by
          rw [nth_get (by rw [List.length_map, List.length_take]; omega)]
          simp
        rw [e1, e2, Int.toNat_of_nonneg hpos]
    · obtain ⟨n, hn, rfl⟩ := List.mem_map.1 hy
      have := hb n (List.mem_of_mem_take hn)
      omega

/-- the ints' cells -/
def vi (l : List Nat) : List Value := l.map fun (x : Nat) => Value.int .i64 (x : Int)
theorem vi_len (l : List Nat) : (vi l).length = l.length := by simp [vi]
theorem vi_get (l : List Nat) (k : Nat) (h : k < l.length) : (vi l)[k]? = some (.int .i64 (nth l k)) := by
  simp [vi, nth, h]
theorem vi_append (a b : List Nat) : vi (a ++ b) = vi a ++ vi b := by simp [vi]
theorem vi_set (l : List Nat) (k x : Nat) : (vi l).set k (.int .i64 (x : Int)) = vi (l.set k x) := by simp [vi]
/-- one new cell, where it lies -/
theorem one_new (w : World) (v : Value) (e : TypeId) : ∀ j u, [v][j]? = some u → (w.alloc (.cells #[v] e)).cell? ((⟨w.heap.size, 0, none⟩ : Addr).add j) = some u := by
  intro j u hj
  match j, hj with
  | 0, hj =>
    simp at hj
    subst hj
    rw [Addr.add_lit, World.cell?_alloc_at _ _ _ _ rfl]
    rfl
theorem one_new' {w : World} {H : Nat} (hH : w.heap.size = H) (v : Value) (e : TypeId) : ∀ j u, [v][j]? = some u → (w.alloc (.cells #[v] e)).cell? ((⟨H, 0, none⟩ : Addr).add j) = some u := by
  subst hH
  exact one_new w v e
end Go.Proofs.Ytopmamgdfngdoaa
/- Blocks of cells: read, written, kept. (packet/NJoin and command/NAccept hold older copies of some of these.) -/
namespace Go.Proofs.Ytopmamgdfngdoaa
set_option linter.unusedVariables false
open Go.RowKit

theorem frozen_row {W : World} {b : Nat} {cs : Array Value} {e : TypeId} (h : W.heap[b]? = some (.cells cs e)) (i : Nat) : W.frozen? ⟨b, i, none⟩ = false := by simp [World.frozen?, show W.heap[b]? = _ from h]
theorem row_below {W W' : World} {b : Nat} {o : Obj} (h : W.heap[b]? = some o) (hb : Below W.heap.size W W') : W'.heap[b]? = some o := (hb.block b (Array.getElem?_eq_some_iff.1 h).1).trans h
theorem row_grown {W W' : World} {b k : Nat} {o : Obj} (h : W.heap[b]? = some o) (hg : W.grownBy W' (some k)) (hne : b ≠ k) : W'.heap[b]? = some o := (hg.block b (Array.getElem?_eq_some_iff.1 h).1 (fun e => hne (by cases e; rfl))).trans h
theorem row_lt {W : World} {b : Nat} {o : Obj} (h : W.heap[b]? = some o) : b < W.heap.size := (Array.getElem?_eq_some_iff.1 h).1
theorem grown1 (W : World) (b i : Nat) (v : Value) : W.grownBy (W.setCell ⟨b, i, none⟩ v) (some b) :=
  ⟨rfl, rfl, rfl, by simp, fun k hk hne => heap_setCell_other W ⟨b, i, none⟩ k v (fun e => hne (by rw [e]))⟩
/-- one cell of a row is stored to -/
theorem set_row {W : World} {b : Nat} {cs cs' : Array Value} {e : TypeId} (A : W.heap[b]? = some (.cells cs e)) (i : Nat) (v : Value) (h : cs.setIfInBounds i v = cs') : (W.setCell ⟨b, i, none⟩ v).heap[b]? = some (.cells cs' e) ∧ W.grownBy (W.setCell ⟨b, i, none⟩ v) (some b) :=
  ⟨(heap_setCell_same W b i _ e v A).trans (by rw [h]), grown1 W b i v⟩
/-- an own row lies in no block of another type -/
theorem own_ne {w : World} {base e size n : Nat} {v : Value} {xs : List Value} (h : w.ownsRow base e size v n xs) {b T : Nat} {cs : Array Value} (A : w.heap[b]? = some (.cells cs T)) (hT : e ≠ T) : v.ownBlock = none ∨ v.ownBlock ≠ some b := by
  rcases h.2 with ⟨rfl, _⟩ | ⟨g, cap, cur, rfl, _, hg, _⟩
  · exact .inl rfl
  · refine .inr ?_
    simp only [Value.ownBlock, ne_eq, Option.some.injEq]
    intro he
    subst he
    rw [A] at hg
    injection hg with h1
    injection h1 with h2 h3
    exact hT h3.symm
/-- a block of another type is kept when a row grows -/
theorem row_kept {W W' : World} {base e size n b : Nat} {v : Value} {xs : List Value} {cs : Array Value} {T : TypeId} (A : W.heap[b]? = some (.cells cs T)) (h : W.ownsRow base e size v n xs) (hg : W.grownBy W' v.ownBlock) (hT : e ≠ T) : W'.heap[b]? = some (.cells cs T) := by
  refine (hg.block b (row_lt A) (fun he => ?_)).trans A
  rcases own_ne h A hT with h1 | h1
  · rw [h1] at he; cases he
  · exact h1 he.symm
/-- a block below where the row begins is kept when the row grows -/
theorem row_kept_lo {W W' : World} {base e size n b : Nat} {v : Value} {xs : List Value} {o : Obj} (A : W.heap[b]? = some o) (h : W.ownsRow base e size v n xs) (hg : W.grownBy W' v.ownBlock) (hT : b < base) : W'.heap[b]? = some o := by
  refine (hg.block b (row_lt A) (fun he => ?_)).trans A
  have := (h.lt b he.symm).1
  omega
theorem row_drew {W : World} {b : Nat} {o : Obj} (h : W.heap[b]? = some o) : W.drew.heap[b]? = some o := h
/-- an own slice that is not empty lies in a block -/
theorem own_addr {w : World} {B e s n : Nat} {a : Option Addr} {c : Nat} {xs : List Value} (h : w.ownsRow B e s (.slice a n c) n xs) (hn : 0 < n) : ∃ g, a = some ⟨g, 0, none⟩ := by
  obtain ⟨_, ⟨h1, h2⟩ | ⟨g, cap, cur, h1, _⟩⟩ := h
  · omega
  · cases h1; exact ⟨g, rfl⟩
/-- two blocks may be turned, the others stay -/
structure Kept2 (W W' : World) (a b : Nat) : Prop where
  os : W'.os = W.os
  tape : W'.tape = W.tape
  output : W'.output = W.output
  size : W.heap.size ≤ W'.heap.size
  block : ∀ k, k < W.heap.size → k ≠ a → k ≠ b → W'.heap[k]? = W.heap[k]?
theorem Kept2.refl (W : World) (a b : Nat) : Kept2 W W a b := ⟨rfl, rfl, rfl, Nat.le_refl _, fun _ _ _ _ => rfl⟩
theorem Kept2.trans {W W' W'' : World} {a b : Nat} (h : Kept2 W W' a b) (k : Kept2 W' W'' a b) : Kept2 W W'' a b :=
  ⟨k.os.trans h.os, k.tape.trans h.tape, k.output.trans h.output, Nat.le_trans h.size k.size, fun i hi ha hb => (k.block i (Nat.lt_of_lt_of_le hi h.size) ha hb).trans (h.block i hi ha hb)⟩
theorem Kept2.left {W W' : World} {a b : Nat} (h : W.grownBy W' (some a)) : Kept2 W W' a b := ⟨h.os, h.tape, h.output, h.size, fun k hk ha _ => h.block k hk (fun e => ha (by cases e; rfl))⟩
theorem Kept2.right {W W' : World} {a b : Nat} (h : W.grownBy W' (some b)) : Kept2 W W' a b := ⟨h.os, h.tape, h.output, h.size, fun k hk _ hb => h.block k hk (fun e => hb (by cases e; rfl))⟩
theorem Kept2.ofBelow {W W' : World} {a b : Nat} (h : Below W.heap.size W W') : Kept2 W W' a b := ⟨h.os, h.tape, h.output, h.size, fun k hk _ _ => h.block k hk⟩
theorem Kept2.row {W W' : World} {a b k : Nat} {o : Obj} (h : Kept2 W W' a b) (hr : W.heap[k]? = some o) (ha : k ≠ a) (hb : k ≠ b) : W'.heap[k]? = some o := (h.block k (row_lt hr) ha hb).trans hr
theorem Kept2.below {W W' : World} {a b B : Nat} (h : Kept2 W W' a b) (ha : B ≤ a) (hb : B ≤ b) (hB : B ≤ W.heap.size) : Below B W W' := ⟨h.os, h.tape, h.output, h.size, fun k hk => h.block k (by omega) (by omega) (by omega)⟩
theorem Kept2.own {W W' : World} {a b : Nat} {base e size n : Nat} {v : Value} {xs : List Value} (h : Kept2 W W' a b) (ho : W.ownsRow base e size v n xs) (ha : v.ownBlock ≠ some a) (hb : v.ownBlock ≠ some b) : W'.ownsRow base e size v n xs := by
  refine ⟨ho.1, ho.2.imp id ?_⟩
  rintro ⟨g, cap, cur, hv, hg, hr, hrest⟩
  refine ⟨g, cap, cur, hv, hg, h.row hr (fun e => ha ?_) (fun e => hb ?_), hrest⟩
  · rw [hv, e]; rfl
  · rw [hv, e]; rfl
end Go.Proofs.Ytopmamgdfngdoaa
