/- deliver: no span of a row is odd; reach; all. -/
import Derived.Test.YtopmamgdfngdoaaWhole4
import Derived.Deep.CutBlock
import Derived.Laws.Rows
import Derived.Laws.Tables
import Derived.Test.YtopmamgdfngdoaaWhole2
namespace Go.Proofs.Ytopmamgdfngdoaa
set_option linter.unusedVariables false
open Go.RowKit

set_option maxRecDepth 1000000 in
theorem fr19 (y : Nat → Value) : fr 19 y = #[y 0, y 1, y 2, y 3, y 4, y 5, y 6, y 7, y 8, y 9, y 10, y 11, y 12, y 13, y 14, y 15, y 16, y 17, y 18] := rfl
set_option maxRecDepth 1000000 in
theorem odd52 (s : Sp) (w : World) (h : vSp 65536 s) : Calls Try.prog 52 #[.agg #[.int .i64 (s.1 : Int), .int .i64 (s.2 : Int)]] w fun e w' => e = .returned (.bool false) ∧ Below w.heap.size w w' := by
  have bN := below_alloc w (.cells #[.int .i64 (s.1 : Int), .int .i64 (s.2 : Int)] 84)
  have A := heap_alloc_new w (.cells #[.int .i64 (s.1 : Int), .int .i64 (s.2 : Int)] 84)
  have hsp := fun w' => span_ok s 65536 w' h (Nat.le_refl _)
  obtain ⟨x, y⟩ := s
  dsimp only at *
  rw [show ((65536 : Nat) : Int) = 65536 from rfl] at hsp
  have c0 : (w.alloc (.cells #[.int .i64 (x : Int), .int .i64 (y : Int)] 84)).cell? ⟨w.heap.size, 0, none⟩ = some (.int .i64 (x : Int)) := by rw [cell_of_row _ _ _ _ _ _ A]; rfl
  have c1 : (w.alloc (.cells #[.int .i64 (x : Int), .int .i64 (y : Int)] 84)).cell? ⟨w.heap.size, 1, none⟩ = some (.int .i64 (y : Int)) := by rw [cell_of_row _ _ _ _ _ _ A]; rfl
  have Hsp := hid hsp
  clear hsp h
  go_enter Try.func52, Try.ntmps52
  go_wp2_with fail
  refine (Hsp.out _).mono ?_
  rintro e w' ⟨rfl, hb⟩
  have HB := hid (bN.trans (hb.mono bN.size))
  clear hb
  go_wp2_with fail
  go_ret
  exact ⟨rfl, HB.out⟩
set_option maxRecDepth 1000000 in
theorem odd59 (s : Sp) (F X : Nat) (w : World) (h : vSp F s) (hF : F ≤ 65536) (hX : w.heap[X]? = some (.cells #[.int .i64 (F : Int)] 3)) : Calls Try.prog 59 #[.agg #[.int .i64 (s.1 : Int), .int .i64 (s.2 : Int)], .pointer (some ⟨X, 0, none⟩)] w fun e w' => e = .returned (.bool false) ∧ Below w.heap.size w w' := by
  have bN := below_alloc w (.cells #[.int .i64 (s.1 : Int), .int .i64 (s.2 : Int)] 84)
  have A := heap_alloc_new w (.cells #[.int .i64 (s.1 : Int), .int .i64 (s.2 : Int)] 84)
  have hsp := fun w' => span_ok s F w' h hF
  obtain ⟨x, y⟩ := s
  dsimp only at *
  have c0 : (w.alloc (.cells #[.int .i64 (x : Int), .int .i64 (y : Int)] 84)).cell? ⟨w.heap.size, 0, none⟩ = some (.int .i64 (x : Int)) := by rw [cell_of_row _ _ _ _ _ _ A]; rfl
  have c1 : (w.alloc (.cells #[.int .i64 (x : Int), .int .i64 (y : Int)] 84)).cell? ⟨w.heap.size, 1, none⟩ = some (.int .i64 (y : Int)) := by rw [cell_of_row _ _ _ _ _ _ A]; rfl
  have c2 : (w.alloc (.cells #[.int .i64 (x : Int), .int .i64 (y : Int)] 84)).cell? ⟨X, 0, none⟩ = some (.int .i64 (F : Int)) := by rw [cell_of_row _ _ _ _ _ _ (row_below hX bN)]; rfl
  have Hsp := hid hsp
  clear hsp h hX
  go_enter Try.func59, Try.ntmps59
  go_wp2_with fail
  refine (Hsp.out _).mono ?_
  rintro e w' ⟨rfl, hb⟩
  have HB := hid (bN.trans (hb.mono bN.size))
  clear hb
  go_wp2_with fail
  go_ret
  exact ⟨rfl, HB.out⟩
def ixI52 (W0 : World) (pa : Option Addr) (pn pc : Nat) (y : Nat → Value) (W : World) : Prop :=
  ∃ k : Nat, k ≤ pn ∧ y 0 = .slice pa pn pc ∧ y 1 = .func (.func 52) #[] #[] ∧ y 7 = .int .i64 (pn : Int) ∧ y 8 = .int .i64 (k : Int) ∧ Below W0.heap.size W0 W
set_option maxRecDepth 1000000 in
set_option maxHeartbeats 4000000 in
theorem none52 (pa : Option Addr) (pn pc : Nat) (l : List Sp) (W0 : World) (hp : RdS W0 pa pn pc l) (hlen : ∀ s ∈ l, vSp 65536 s) :
    Calls Try.prog 54 #[.slice pa pn pc, .func (.func 52) #[] #[]] W0 fun e w' => e = .returned (.bool false) ∧ Below W0.heap.size W0 w' := by
  have hmax := Nat.le_trans hp.le hp.max
  unfold maxLen at hmax
  go_enter Try.func54, Try.ntmps54
  go_wp2_with fail
  refine (show Calls Try.prog 63 #[.slice pa pn pc, .func (.func 52) #[] #[]] W0 fun e w' => e = .returned (.int .i64 (-1)) ∧ Below W0.heap.size W0 w' from ?_).mono ?_
  · have HP := hid hp
    have HL := hid hlen
    clear hp hlen
    go_enter Try.func63, Try.ntmps63
    refine wp_seq_k (fun K0 hK0 => ?_)
    go_wp2_with fail
    refine hK0.out _ _ ?_
    refine wp_seq_k (fun K1 hK1 => ?_)
    refine wp_seq_k (fun K2 hK2 => ?_)
    go_wp2_with fail
    refine hK2.out _ _ ?_
    refine wp_block ?_
    refine wp_loop_fr 19 (ixI52 W0 pa pn pc) (fun y' _ => pn - (intOf (y' 8)).toNat) ⟨rfl, rfl, 0, Nat.zero_le _, rfl, rfl, rfl, rfl, Below.refl _ _⟩ ?_
    rintro z W ⟨k, hk, s0, s1, s7, s8, hB⟩
    have HB := hid hB
    clear hB
    rw [fr19]
    simp only [s0, s1, s7, s8]
    clear s0 s1 s7 s8
    by_cases hlt : k < pn
    · have d1 : decide ((k : Int) < (pn : Int)) = true := decide_eq_true (by omega)
      have hkI : (k : Int) < (pn : Int) := by omega
      have hk0 : (0 : Int) ≤ (k : Int) := by omega
      have hkt : ((k : Nat) : Int).toNat = k := rfl
      obtain ⟨b, off, s, rfl, hb, hs, c0, c1⟩ := (HP.out.below HB.out).at_ k hlt
      have hodd := hid (odd52 s W (HL.out s (List.mem_of_getElem? hs)))
      clear hs hb
      go_upto_block 1 with (fail)
      refine wp_block ?_
      refine wp_seq_k (fun K3 hK3 => ?_)
      go_wp2_with fail
      refine hK3.out _ _ ?_
      go_wp2_with fail
      refine hodd.out.mono ?_
      rintro e w' ⟨rfl, hw'⟩
      have HB2 := hid (HB.out.trans (hw'.mono HB.out.size))
      clear hw' hodd c0 c1
      go_wp2_with fail
      refine ⟨rfl, rfl, ⟨k + 1, by omega, rfl, rfl, rfl, ?_, HB2.out⟩, ?_⟩
      · show Value.int .i64 _ = Value.int .i64 _
        go_num
      · show pn - (intOf (Value.int .i64 _)).toNat < _
        simp [intOf]
        omega
    · obtain rfl : k = pn := by omega
      have d1 : decide ((k : Int) < (k : Int)) = false := decide_eq_false (by omega)
      go_wp2_with fail
      refine hK1.out _ _ ?_
      go_wp2_with fail
      go_ret
      exact ⟨rfl, HB.out⟩
  · rintro e w' ⟨rfl, hb⟩
    have HB := hid hb
    clear hb
    go_wp2_with fail
    go_ret
    exact ⟨rfl, HB.out⟩
def ixI59 (W0 : World) (pa : Option Addr) (pn pc : Nat) (F X : Nat) (y : Nat → Value) (W : World) : Prop :=
  ∃ k : Nat, k ≤ pn ∧ y 0 = .slice pa pn pc ∧ y 1 = .func (.func 59) #[] #[.pointer (some ⟨X, 0, none⟩)] ∧ y 7 = .int .i64 (pn : Int) ∧ y 8 = .int .i64 (k : Int) ∧ Below W0.heap.size W0 W
set_option maxRecDepth 1000000 in
set_option maxHeartbeats 4000000 in
theorem none59 (pa : Option Addr) (pn pc : Nat) (l : List Sp) (F X : Nat) (W0 : World) (hp : RdS W0 pa pn pc l) (hlen : ∀ s ∈ l, vSp F s) (hF : F ≤ 65536) (hX : W0.heap[X]? = some (.cells #[.int .i64 (F : Int)] 3)) :
    Calls Try.prog 54 #[.slice pa pn pc, .func (.func 59) #[] #[.pointer (some ⟨X, 0, none⟩)]] W0 fun e w' => e = .returned (.bool false) ∧ Below W0.heap.size W0 w' := by
  have hmax := Nat.le_trans hp.le hp.max
  unfold maxLen at hmax
  go_enter Try.func54, Try.ntmps54
  go_wp2_with fail
  refine (show Calls Try.prog 63 #[.slice pa pn pc, .func (.func 59) #[] #[.pointer (some ⟨X, 0, none⟩)]] W0 fun e w' => e = .returned (.int .i64 (-1)) ∧ Below W0.heap.size W0 w' from ?_).mono ?_
  · have HP := hid hp
    have HL := hid hlen
    clear hp hlen
    go_enter Try.func63, Try.ntmps63
    refine wp_seq_k (fun K0 hK0 => ?_)
    go_wp2_with fail
    refine hK0.out _ _ ?_
    refine wp_seq_k (fun K1 hK1 => ?_)
    refine wp_seq_k (fun K2 hK2 => ?_)
    go_wp2_with fail
    refine hK2.out _ _ ?_
    refine wp_block ?_
    refine wp_loop_fr 19 (ixI59 W0 pa pn pc F X) (fun y' _ => pn - (intOf (y' 8)).toNat) ⟨rfl, rfl, 0, Nat.zero_le _, rfl, rfl, rfl, rfl, Below.refl _ _⟩ ?_
    rintro z W ⟨k, hk, s0, s1, s7, s8, hB⟩
    have HB := hid hB
    clear hB
    rw [fr19]
    simp only [s0, s1, s7, s8]
    clear s0 s1 s7 s8
    by_cases hlt : k < pn
    · have d1 : decide ((k : Int) < (pn : Int)) = true := decide_eq_true (by omega)
      have hkI : (k : Int) < (pn : Int) := by omega
      have hk0 : (0 : Int) ≤ (k : Int) := by omega
      have hkt : ((k : Nat) : Int).toNat = k := rfl
      obtain ⟨b, off, s, rfl, hb, hs, c0, c1⟩ := (HP.out.below HB.out).at_ k hlt
      have hodd := hid (odd59 s F X W (HL.out s (List.mem_of_getElem? hs)) hF (row_below hX HB.out))
      clear hs hb
      go_upto_block 1 with (fail)
      refine wp_block ?_
      refine wp_seq_k (fun K3 hK3 => ?_)
      go_wp2_with fail
      refine hK3.out _ _ ?_
      go_wp2_with fail
      refine hodd.out.mono ?_
      rintro e w' ⟨rfl, hw'⟩
      have HB2 := hid (HB.out.trans (hw'.mono HB.out.size))
      clear hw' hodd c0 c1
      go_wp2_with fail
      refine ⟨rfl, rfl, ⟨k + 1, by omega, rfl, rfl, rfl, ?_, HB2.out⟩, ?_⟩
      · show Value.int .i64 _ = Value.int .i64 _
        go_num
      · show pn - (intOf (Value.int .i64 _)).toNat < _
        simp [intOf]
        omega
    · obtain rfl : k = pn := by omega
      have d1 : decide ((k : Int) < (k : Int)) = false := decide_eq_false (by omega)
      go_wp2_with fail
      refine hK1.out _ _ ?_
      go_wp2_with fail
      go_ret
      exact ⟨rfl, HB.out⟩
  · rintro e w' ⟨rfl, hb⟩
    have HB := hid hb
    clear hb
    go_wp2_with fail
    go_ret
    exact ⟨rfl, HB.out⟩
end Go.Proofs.Ytopmamgdfngdoaa
/- deliver: reach, all. -/
namespace Go.Proofs.Ytopmamgdfngdoaa
set_option linter.unusedVariables false
open Go.RowKit

theorem fr29 (y : Nat → Value) : fr 29 y = #[y 0, y 1, y 2, y 3, y 4, y 5, y 6, y 7, y 8, y 9, y 10, y 11, y 12, y 13, y 14, y 15, y 16, y 17, y 18, y 19, y 20, y 21, y 22, y 23, y 24, y 25, y 26, y 27, y 28] := rfl
def topH (l : List Sp) : Nat := match l.getLast? with | some s => s.2 | none => 0
theorem Ris.nxt : ∀ {l : List Sp} {b k : Nat} {s s' : Sp}, Ris b l → l[k]? = some s → l[k + 1]? = some s' → s.2 < s'.1
  | [], _, _, _, _, _, h, _ => by simp at h
  | x :: r, b, 0, s, s', h, h1, h2 => by
    obtain rfl : x = s := by simpa using h1
    cases r with
    | nil => simp at h2
    | cons x' r' =>
      obtain rfl : x' = s' := by simpa using h2
      have := h.2.2.1
      omega
  | x :: r, b, k + 1, s, s', h, h1, h2 => h.2.2.nxt (k := k) (by simpa using h1) (by simpa using h2)
def rchI (W0 : World) (a : Option Addr) (n c : Nat) (l : List Sp) (y : Nat → Value) (W : World) : Prop :=
  ∃ (k : Nat) (en : Int), k ≤ n ∧ y 7 = .slice a n c ∧ y 8 = .int .i64 (n : Int) ∧ y 9 = .int .i64 (k : Int) ∧ y 4 = .int .i64 en ∧ ((k = 0 ∧ en = -1) ∨ ∃ k' s, k = k' + 1 ∧ l[k']? = some s ∧ en = (s.2 : Int)) ∧ Below W0.heap.size W0 W
set_option maxRecDepth 1000000 in
set_option maxHeartbeats 4000000 in
theorem reach_ok (a : Option Addr) (n c : Nat) (l : List Sp) (W0 : World) (hr : RdS W0 a n c l) (hl : Ris 0 l) (ht : ∀ s ∈ l, s.2 ≤ 65536) :
    Calls Try.prog 36 #[.slice a n c] W0 fun e w' => e = .returned (.tuple #[.int .i64 (topH l : Int), .bool true]) ∧ Below W0.heap.size W0 w' := by
  have hmax := Nat.le_trans hr.le hr.max
  unfold maxLen at hmax
  have HR := hid hr
  have HL := hid hl
  have HT := hid ht
  clear hr hl ht
  go_enter Try.func36, Try.ntmps36
  refine wp_seq_k (fun K0 hK0 => ?_)
  go_wp2_with fail
  refine hK0.out _ _ ?_
  refine wp_seq_k (fun K1 hK1 => ?_)
  go_wp2_with fail
  refine hK1.out _ _ ?_
  refine wp_seq_k (fun K2 hK2 => ?_)
  refine wp_seq_k (fun K3 hK3 => ?_)
  go_wp2_with fail
  refine hK3.out _ _ ?_
  refine wp_block ?_
  refine wp_loop_fr 29 (rchI W0 a n c l) (fun y' _ => n - (intOf (y' 9)).toNat) ⟨rfl, rfl, 0, -1, Nat.zero_le _, rfl, rfl, rfl, rfl, .inl ⟨rfl, rfl⟩, Below.refl _ _⟩ ?_
  rintro z W ⟨k, en, hk, s7, s8, s9, s4, hen, hB⟩
  have HB := hid hB
  have HE := hid hen
  clear hB hen
  rw [fr29]
  simp only [s7, s8, s9, s4]
  clear s7 s8 s9 s4
  by_cases hlt : k < n
  · have d1 : decide ((k : Int) < (n : Int)) = true := decide_eq_true (by omega)
    have hkI : (k : Int) < (n : Int) := by omega
    have hk0 : (0 : Int) ≤ (k : Int) := by omega
    have hkt : ((k : Nat) : Int).toNat = k := rfl
    obtain ⟨b, off, s, rfl, hb, hs, c0, c1⟩ := (HR.out.below HB.out).at_ k hlt
    have hs12 := HL.out.each s (List.mem_of_getElem? hs)
    have hs2 := HT.out s (List.mem_of_getElem? hs)
    have hsen : en < (s.1 : Int) := by
      rcases HE.out with ⟨_, h⟩ | ⟨k', s', h1, h2, h3⟩
      · omega
      · have := HL.out.nxt h2 (by rw [← h1]; exact hs)
        omega
    obtain ⟨x, y⟩ := s
    dsimp only at c0 c1 hs12 hs2 hsen
    have d2 : ¬ (x : Int) ≤ en := by omega
    have d3 : ¬ (x : Int) ≥ (y : Int) := by omega
    have d4 : ¬ (y : Int) ≤ (x : Int) := by omega
    have d5 : ¬ y ≤ x := by omega
    have Hs := hid hs
    have bN := below_alloc W (.cells #[.int .i64 (x : Int), .int .i64 (y : Int)] 84)
    have A := hid (heap_alloc_new W (.cells #[.int .i64 (x : Int), .int .i64 (y : Int)] 84))
    have HB2 := hid (HB.out.trans (bN.mono HB.out.size))
    clear hs hb hs12 hs2 hsen bN
    go_upto_block 1 with (fail)
    refine wp_block ?_
    refine wp_seq_k (fun K4 hK4 => ?_)
    go_wp2_with fail
    refine hK4.out _ _ ?_
    clear c0 c1
    obtain ⟨X, hX⟩ : ∃ X, X = W.heap.size := ⟨_, rfl⟩
    rw [← hX] at A ⊢
    clear hX
    generalize W.alloc (.cells #[.int .i64 (x : Int), .int .i64 (y : Int)] 84) = V at *
    have e0 : V.cell? ⟨X, 0, none⟩ = some (.int .i64 (x : Int)) := by rw [cell_of_row _ _ _ _ _ _ A.out]; rfl
    have e1 : V.cell? ⟨X, 1, none⟩ = some (.int .i64 (y : Int)) := by rw [cell_of_row _ _ _ _ _ _ A.out]; rfl
    go_wp2_with fail
    refine ⟨rfl, rfl, ⟨k + 1, (y : Int), by omega, rfl, rfl, ?_, rfl, .inr ⟨k, _, rfl, Hs.out, rfl⟩, HB2.out⟩, ?_⟩
    · show Value.int .i64 _ = Value.int .i64 _
      go_num
    · show n - (intOf (Value.int .i64 _)).toNat < _
      simp [intOf]
      omega
  · obtain rfl : k = n := by omega
    have d1 : decide ((k : Int) < (k : Int)) = false := decide_eq_false (by omega)
    have htop : (if en ≤ 0 then (0 : Int) else en) = (topH l : Int) := by
      have hln := HR.out.ln
      rcases HE.out with ⟨h0, h⟩ | ⟨k', s', h1, h2, h3⟩
      · have : l = [] := List.eq_nil_of_length_eq_zero (by omega)
        rw [this, h]
        rfl
      · have e : l.getLast? = some s' := by rw [List.getLast?_eq_getElem?, show l.length - 1 = k' by omega]; exact h2
        unfold topH
        rw [e]
        dsimp only
        split <;> omega
    have hen2 : -1 ≤ en ∧ en ≤ 65536 := by
      rcases HE.out with ⟨h0, h⟩ | ⟨k', s', h1, h2, h3⟩
      · omega
      · have := HT.out s' (List.mem_of_getElem? h2)
        omega
    have Ht := hid htop
    clear htop
    go_wp2_with fail
    refine hK2.out _ _ ?_
    go_wp2_with fail
    all_goals
      refine bodyPost_ret (results_tmp2 rfl _ _ _) rfl ?_
      refine ⟨?_, HB.out⟩
      have h2 := Ht.out
      first
        | (have h3 : (topH l : Int) = en := by rw [← h2]; split <;> omega
           rw [h3]; rfl)
        | (have h3 : (topH l : Int) = 0 := by rw [← h2]; split <;> omega
           rw [h3]; rfl)
set_option maxRecDepth 1000000 in
theorem all_ok (a : Option Addr) (n c : Nat) (l : List Sp) (F : Nat) (W : World) (hr : RdS W a n c l) :
    Calls Try.prog 39 #[.slice a n c, .int .i64 (F : Int)] W fun e w' => e = .returned (.bool (allH F l)) ∧ W = w' := by
  have hmax := Nat.le_trans hr.le hr.max
  unfold maxLen at hmax
  by_cases hF : F = 0
  · subst hF
    go_enter Try.func39, Try.ntmps39
    go_wp2_with fail
    go_ret
    exact ⟨rfl, rfl⟩
  · have hF' : ¬ (F : Int) = 0 := by omega
    have dz : ((F : Int) == 0) = false := by simpa using hF
    cases l with
    | nil =>
      have hn : n = 0 := hr.ln.symm
      subst hn
      have ha : allH F [] = false := by unfold allH; rw [decide_eq_false hF]; rfl
      rw [ha]
      clear hr
      go_enter Try.func39, Try.ntmps39
      go_wp2_with fail
      go_ret
      exact ⟨rfl, rfl⟩
    | cons s r =>
      have hn0 : 0 < n := by have := hr.ln; rw [List.length_cons] at this; omega
      obtain ⟨b, off, s', rfl, hb, hs, c0, c1⟩ := hr.at_ 0 hn0
      obtain rfl : s = s' := by simpa using hs
      rw [Nat.zero_mul, Nat.add_zero] at c0 c1
      have ha : allH F (s :: r) = (decide (s.1 = 0) && decide (F ≤ s.2)) := by unfold allH; rw [decide_eq_false hF]; rfl
      rw [ha]
      obtain ⟨x, y⟩ := s
      dsimp only at c0 c1 ⊢
      have d1 : (0 : Int) < (n : Int) := by omega
      clear hr hb hs ha
      by_cases hx : x = 0
      · subst hx
        by_cases hy : F ≤ y
        · have d2 : (F : Int) ≤ (y : Int) := by omega
          rw [decide_eq_true hy]
          go_enter Try.func39, Try.ntmps39
          go_wp2_with fail
          go_ret
          exact ⟨rfl, rfl⟩
        · have d2 : ¬ (F : Int) ≤ (y : Int) := by omega
          rw [decide_eq_false hy]
          go_enter Try.func39, Try.ntmps39
          go_wp2_with fail
          go_ret
          exact ⟨rfl, rfl⟩
      · have hx' : ¬ (x : Int) = 0 := by omega
        have dx : ((x : Int) == 0) = false := by simpa using hx
        rw [decide_eq_false hx]
        go_enter Try.func39, Try.ntmps39
        go_wp2_with fail
        go_ret
        exact ⟨rfl, rfl⟩
end Go.Proofs.Ytopmamgdfngdoaa
/- deliver: slices of bytes; bytes that are all nought. -/
namespace Go.Proofs.Ytopmamgdfngdoaa
set_option linter.unusedVariables false
open Go.RowKit

set_option maxRecDepth 100000 in
theorem run_cutlh (b off n c l h : Nat) (h1 : l ≤ h) (h2 : h ≤ c) (w : World) : (Instr.sliceAt 22 (.slice (some ⟨b, off, none⟩) n c) (some (.int .i64 (l : Int))) (some (.int .i64 (h : Int))) none).run Try.prog w = .ok (.slice (some ⟨b, if c = l then off else off + l, none⟩) (h - l) (c - l)) w := by
  have e1 : (l : Int) ≤ h := by omega
  have e2 : (h : Int) ≤ c := by omega
  simp [go_sem, e1, e2, Try.underlying22]
  split <;> rfl
set_option maxRecDepth 100000 in
theorem run_cuth (b off n c h : Nat) (h2 : h ≤ c) (w : World) : (Instr.sliceAt 22 (.slice (some ⟨b, off, none⟩) n c) none (some (.int .i64 (h : Int))) none).run Try.prog w = .ok (.slice (some ⟨b, off, none⟩) h c) w := by
  have e2 : (h : Int) ≤ c := by omega
  simp [go_sem, e2, Try.underlying22]
set_option maxRecDepth 100000 in
theorem run_cutlh0 (w : World) : (Instr.sliceAt 22 (.slice none 0 0) (some (.int .i64 0)) (some (.int .i64 0)) none).run Try.prog w = .ok (.slice none 0 0) w := by
  simp [go_sem, Try.underlying22]
set_option maxRecDepth 100000 in
theorem run_cuth0 (w : World) : (Instr.sliceAt 22 (.slice none 0 0) none (some (.int .i64 0)) none).run Try.prog w = .ok (.slice none 0 0) w := by
  simp [go_sem, Try.underlying22]
set_option maxRecDepth 100000 in
theorem run_cut00 (ad : Addr) (c : Nat) (w : World) : (Instr.sliceAt 22 (.slice (some ad) 0 c) (some (.int .i64 0)) (some (.int .i64 0)) none).run Try.prog w = .ok (.slice (some (if c = 0 then ad else ad.add 0)) 0 c) w := by
  have e2 : (0 : Int) ≤ c := by omega
  simp [go_sem, e2, Try.underlying22]
  try (split <;> rfl)
theorem vb_drop (bs : List Nat) (k : Nat) : (vb bs).drop k = vb (bs.drop k) := by simp [vb]
/-- a part of bytes that read -/
theorem cut_rd {W : World} {a : Option Addr} {n c : Nat} {bs : List Nat} (h : Rd W a n c (vb bs)) (lo hi : Nat) (h1 : lo ≤ hi) (h2 : hi ≤ n) : ∃ a' c', (∀ w, (Instr.sliceAt 22 (.slice a n c) (some (.int .i64 (lo : Int))) (some (.int .i64 (hi : Int))) none).run Try.prog w = .ok (.slice a' (hi - lo) c') w) ∧ Rd W a' (hi - lo) c' (vb ((bs.drop lo).take (hi - lo))) := by
  have hl := h.len
  have hle := h.le
  have hmx := h.max
  rw [vb_len] at hl
  have hlen : (vb ((bs.drop lo).take (hi - lo))).length = hi - lo := by rw [vb_len, List.length_take, List.length_drop]; omega
  cases a with
  | none =>
    have hc := h.isnil rfl
    obtain rfl : n = 0 := by omega
    obtain rfl : hi = 0 := by omega
    obtain rfl : lo = 0 := by omega
    subst hc
    exact ⟨none, 0, run_cutlh0, hlen, Nat.le_refl _, Nat.zero_le _, fun _ => rfl, fun h => by omega⟩
  | some ad =>
    obtain ⟨b, off, hb⟩ : ∃ b off, ad = ⟨b, off, none⟩ ∨ n = 0 := by
      rcases Nat.eq_zero_or_pos n with h0 | h0
      · exact ⟨0, 0, .inr h0⟩
      · obtain ⟨b, off, ha, _⟩ := h.mem h0
        injection ha with ha
        exact ⟨b, off, .inl ha⟩
    rcases hb with rfl | h0
    · refine ⟨some ⟨b, if c = lo then off else off + lo, none⟩, c - lo, fun w => run_cutlh b off n c lo hi h1 (by omega) w, hlen, by omega, by omega, (fun h => by cases h), fun hn => ?_⟩
      obtain ⟨b', off', ha, hlt, hc⟩ := h.mem (by omega)
      injection ha with ha
      injection ha with ha1 ha2 ha3
      subst ha1
      subst ha2
      rw [if_neg (by omega)]
      refine ⟨b, off + lo, rfl, hlt, fun j hj => ?_⟩
      rw [Nat.add_assoc, hc (lo + j) (by omega), ← vb_take, ← vb_drop, List.getElem?_take_of_lt hj, List.getElem?_drop]
    · subst h0
      obtain rfl : hi = 0 := by omega
      obtain rfl : lo = 0 := by omega
      exact ⟨_, c, fun w => run_cut00 ad c w, hlen, Nat.zero_le _, hmx, (fun h => by cases h), fun h => by omega⟩
theorem nth_mem_zero {bs : List Nat} (h : ∀ b ∈ bs, b = 0) (k : Nat) (hk : k < bs.length) : nth bs k = 0 := by
  unfold nth
  rw [List.getD_eq_getElem?_getD, List.getElem?_eq_getElem hk]
  exact h _ (List.getElem_mem hk)
set_option maxRecDepth 1000000 in
theorem odd38 (w : World) : Calls Try.prog 38 #[.int .u8 0] w fun e w' => e = .returned (.bool false) ∧ w' = w := by
  go_enter Try.func38, Try.ntmps38
  go_wp2_with fail
  go_ret
  exact ⟨rfl, rfl⟩
def zrI (W0 : World) (pa : Option Addr) (pn pc : Nat) (y : Nat → Value) (W : World) : Prop :=
  ∃ k : Nat, k ≤ pn ∧ y 0 = .slice pa pn pc ∧ y 1 = .func (.func 38) #[] #[] ∧ y 7 = .int .i64 (pn : Int) ∧ y 8 = .int .i64 (k : Int) ∧ W = W0
set_option maxRecDepth 1000000 in
set_option maxHeartbeats 4000000 in
theorem none38 (pa : Option Addr) (pn pc : Nat) (bs : List Nat) (W0 : World) (hp : Rd W0 pa pn pc (vb bs)) (hz : ∀ b ∈ bs, b = 0) :
    Calls Try.prog 37 #[.slice pa pn pc, .func (.func 38) #[] #[]] W0 fun e w' => e = .returned (.bool false) ∧ w' = W0 := by
  have hmax := Nat.le_trans hp.le hp.max
  unfold maxLen at hmax
  have hlen := hp.len
  rw [vb_len] at hlen
  have Hlen := hid hlen
  clear hlen
  go_enter Try.func37, Try.ntmps37
  go_wp2_with fail
  refine (show Calls Try.prog 58 #[.slice pa pn pc, .func (.func 38) #[] #[]] W0 fun e w' => e = .returned (.int .i64 (-1)) ∧ w' = W0 from ?_).mono ?_
  · have HP := hid hp
    have HZ := hid hz
    clear hp hz
    go_enter Try.func58, Try.ntmps58
    refine wp_seq_k (fun K0 hK0 => ?_)
    go_wp2_with fail
    refine hK0.out _ _ ?_
    refine wp_seq_k (fun K1 hK1 => ?_)
    refine wp_seq_k (fun K2 hK2 => ?_)
    go_wp2_with fail
    refine hK2.out _ _ ?_
    refine wp_block ?_
    refine wp_loop_fr 19 (zrI W0 pa pn pc) (fun y' _ => pn - (intOf (y' 8)).toNat) ⟨rfl, rfl, 0, Nat.zero_le _, rfl, rfl, rfl, rfl, rfl⟩ ?_
    rintro z W ⟨k, hk, s0, s1, s7, s8, rfl⟩
    rw [fr19]
    simp only [s0, s1, s7, s8]
    clear s0 s1 s7 s8
    by_cases hlt : k < pn
    · have d1 : decide ((k : Int) < (pn : Int)) = true := decide_eq_true (by omega)
      have hkI : (k : Int) < (pn : Int) := by omega
      have hk0 : (0 : Int) ≤ (k : Int) := by omega
      have hkt : ((k : Nat) : Int).toNat = k := rfl
      obtain ⟨b, off, ha, hb, hc⟩ := HP.out.mem (by omega)
      subst ha
      have c0 := hc k hlt
      rw [vb_get bs k (by rw [Hlen.out]; exact hlt), nth_mem_zero HZ.out k (by rw [Hlen.out]; exact hlt)] at c0
      have c1 : W.cell? ⟨b, off + k, none⟩ = some (.int .u8 0) := c0
      have hodd := hid (odd38 W)
      clear hb hc c0
      go_upto_block 1 with (fail)
      refine wp_block ?_
      refine wp_seq_k (fun K3 hK3 => ?_)
      go_wp2_with fail
      refine hK3.out _ _ ?_
      go_wp2_with fail
      refine hodd.out.mono ?_
      rintro e w' ⟨rfl, hw'⟩
      rw [hw']
      clear hw' w' hodd c1
      go_wp2_with fail
      refine ⟨rfl, rfl, ⟨k + 1, by omega, rfl, rfl, rfl, ?_, rfl⟩, ?_⟩
      · show Value.int .i64 _ = Value.int .i64 _
        go_num
      · show pn - (intOf (Value.int .i64 _)).toNat < _
        simp [intOf]
        omega
    · obtain rfl : k = pn := by omega
      have d1 : decide ((k : Int) < (k : Int)) = false := decide_eq_false (by omega)
      go_wp2_with fail
      refine hK1.out _ _ ?_
      go_wp2_with fail
      go_ret
      exact ⟨rfl, rfl⟩
  · rintro e w' ⟨rfl, rfl⟩
    go_wp2_with fail
    go_ret
    exact ⟨rfl, rfl⟩
end Go.Proofs.Ytopmamgdfngdoaa
/- The walk stops at a store of a given type; a whole block is stored to at once, and loaded. -/
namespace Go.Proofs.Ytopmamgdfngdoaa
set_option linter.unusedVariables false
open Go.RowKit

theorem at_store {P : Program} {ops : Array Oper} {Q : Exit → Act → World → Prop} {rest : List Oper} {a : Act} {w : World} (ty : TypeId) {x y : Operand} {t : TypeId} {pos : String} {after : Array Edge} {guard : Option (Nat × Bool)}
    (h : Hid (wpList P ops Q ({ dst := none, op := .store ty x y, type := t, pos := pos, after := after, guard := guard } :: rest) a w)) : wpList P ops Q ({ dst := none, op := .store ty x y, type := t, pos := pos, after := after, guard := guard } :: rest) a w := h
theorem set_whole {W : World} {b : Nat} {e : TypeId} {cs cs' : Array Value} (A : W.heap[b]? = some (.cells cs e)) : (W.setRow b cs').heap[b]? = some (.cells cs' e) ∧ W.grownBy (W.setRow b cs') (some b) :=
  ⟨setRow_heap W b cs cs' e (0, 0) A, ⟨rfl, rfl, rfl, by simp, fun k hk hne => setRow_other W b k cs' (fun e => hne (by rw [e]))⟩⟩
theorem results_c1 {P : Program} {fn : Func} {p u : Tmp} {ty : TypeId} (h : fn.results = #[.cell p ty, .tmp u]) (tmps : Array Value) (w : World) (g : Nat) (t : TypeId) (cs : Array Value) (fr : Nat × Nat)
    (hp : tmps.getD p undef = .pointer (some ⟨g, 0, none⟩)) (hg : w.heap[g]? = some (.cells cs t fr))
    (hud : (P.underlying ty).map (fun d => match d with | .struct _ | .array _ _ => true | _ => false) = some true) (hi : (P.info? ty).map (·.size) = some cs.size) :
    (results fn tmps).run P w = .ok (.tuple #[.agg cs, tmps.getD u undef]) w := by
  obtain ⟨d, hu, hd⟩ := Option.map_eq_some_iff.1 hud
  have hp' : tmps[p]?.getD undef = .pointer (some ⟨g, 0, none⟩) := by simpa using hp
  simp [results, h, hp', asAddr, run_loadVar_row w g t ty cs fr d hg hu (by cases d <;> first | rfl | cases hd) hi]
end Go.Proofs.Ytopmamgdfngdoaa
