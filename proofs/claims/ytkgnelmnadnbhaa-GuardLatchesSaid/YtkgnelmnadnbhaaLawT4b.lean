/- GuardLatches: the law looks at one monitor, statement by statement. -/
import Derived.Test.YtkgnelmnadnbhaaLawT4
namespace Go.Proofs.Ytkgnelmnadnbhaa
set_option linter.unusedVariables false
open Go.RowKit

def p7 : List Nat := [1, 1, 1, 1, 1, 1, 1, 1, 1, 1, 1, 0, 1, 0, 0, 1, 0, 0, 1, 1, 1, 1, 1, 1, 1, 0, 1, 0, 0, 1, 0]
set_option maxRecDepth 1000000 in
set_option maxHeartbeats 1000000 in
theorem law_34 (C : Cx) (V N vb : Nat) (lv tv nv : Value) (quiet i k : Nat) (why : Int) (wrong : Bool) (W0 : World) (hk : k < C.n) (hn : C.n ≤ 9)
    (hg : W0.heap[C.H]? = some (.cells #[.slice (some ⟨C.gb, 0, none⟩) C.n C.cap, .int .i64 (C.sil : Int), .int .i64 (C.most : Int), .int .i64 (C.win : Int), .string C.nam] 27)) (hr : RdM W0 C.gb C.n C.cap C.ms) :
    Tri Try.prog 332 (pieceOf Try.f3 [1, 1, 1, 1, 1, 1, 1, 1, 1, 1, 1, 0, 1, 0, 0, 1, 0, 0, 1, 1, 1, 1, 1, 1, 1, 0, 1, 0, 0, 1, 0, 0, 0]) (fun y w => SX C y V N vb lv tv nv quiet i k why wrong ∧ w = W0)
      (fun _ _ y w => SX C y V N vb lv tv nv quiet i k why wrong ∧ ∃ mb, y 28 = .pointer (some ⟨mb, 0, none⟩) ∧ w.heap[mb]? = some (.cells (mRow (mAt C.ms k)) 29) ∧ Below W0.heap.size W0 w) := by
  rintro Q y w ⟨hS, rfl⟩ hQ
  obtain ⟨⟨s4, s11, s13, s15, s16, s17, s18, s19⟩, s20, s22, s23, s25, s26, s27⟩ := hS
  have HQ := hid hQ
  obtain ⟨k0, k1, k2, k3, k4, k5⟩ := hr.at_ k hk
  have c0 : w.cell? ⟨C.H, 0, none⟩ = some (.slice (some ⟨C.gb, 0, none⟩) C.n C.cap) := by rw [cell_of_row _ _ _ _ _ _ hg]; rfl
  generalize mAt C.ms k = m at *
  obtain ⟨mo, mf, mt, mn⟩ := m
  dsimp only at *
  have b5 := hid (below_alloc w (.cells #[.int .i64 (mo : Int), .int .i64 0, .int .i64 9, .int .i64 (mf : Int), .int .i64 (mt : Int), .string mn] 29))
  have A5 := hid (heap_alloc_new w (.cells #[.int .i64 (mo : Int), .int .i64 0, .int .i64 9, .int .i64 (mf : Int), .int .i64 (mt : Int), .string mn] 29))
  clear hQ hg hr
  conv => arg 2; whnf
  rw [fr332]
  simp only [s4, s11, s13, s15, s16, s17, s18, s19, s20, s22, s23, s25, s26, s27]
  clear s4 s11 s13 s15 s16 s17 s18 s19 s20 s22 s23 s25 s26 s27
  go_wp2_with fail
  refine q_fr (N := 332) HQ.out rfl ⟨⟨⟨rfl, rfl, rfl, rfl, rfl, rfl, rfl, rfl⟩, rfl, rfl, rfl, rfl, rfl, rfl⟩, _, rfl, A5.out, b5.out⟩
set_option maxRecDepth 1000000 in
set_option maxHeartbeats 1000000 in
theorem law_35 (C : Cx) (V N vb mb : Nat) (lv tv nv : Value) (quiet i k : Nat) (why : Int) (wrong : Bool) (m : Mon) (vals : List Int) (W0 : World) (hm : W0.heap[mb]? = some (.cells (mRow m) 29)) (ho : m.of_ < 3) (hv : W0.heap[vb]? = some (.cells (vz vals).toArray 3)) (hvl : vals.length = 3) :
    Tri Try.prog 332 (pieceOf Try.f3 [1, 1, 1, 1, 1, 1, 1, 1, 1, 1, 1, 0, 1, 0, 0, 1, 0, 0, 1, 1, 1, 1, 1, 1, 1, 0, 1, 0, 0, 1, 0, 0, 1, 0]) (fun y w => SX C y V N vb lv tv nv quiet i k why wrong ∧ y 28 = .pointer (some ⟨mb, 0, none⟩) ∧ w = W0)
      (fun _ _ y w => SX C y V N vb lv tv nv quiet i k why wrong ∧ y 28 = .pointer (some ⟨mb, 0, none⟩) ∧ y 29 = .int .i64 (vals.getD m.of_ 0) ∧ w = W0) := by
  rintro Q y w ⟨hS, h28, rfl⟩ hQ
  obtain ⟨⟨s4, s11, s13, s15, s16, s17, s18, s19⟩, s20, s22, s23, s25, s26, s27⟩ := hS
  have HQ := hid hQ
  have c0 : w.cell? ⟨mb, 0, none⟩ = some (.int .i64 (m.of_ : Int)) := by rw [cell_of_row _ _ _ _ _ _ hm]; rfl
  have c1 : w.cell? ⟨vb, m.of_, none⟩ = some (.int .i64 (vals.getD m.of_ 0)) := by rw [cell_of_row _ _ _ _ _ _ hv, List.getElem?_toArray, vz_get _ _ (by omega)]
  obtain ⟨mo, mf, mt, mn⟩ := m
  dsimp only at *
  generalize vals.getD mo 0 = X at *
  clear hQ hm hv
  conv => arg 2; whnf
  rw [fr332]
  simp only [s4, s11, s13, s15, s16, s17, s18, s19, s20, s22, s23, s25, s26, s27, h28]
  clear s4 s11 s13 s15 s16 s17 s18 s19 s20 s22 s23 s25 s26 s27 h28
  go_wp2_with fail
  refine q_fr (N := 332) HQ.out rfl ⟨⟨⟨rfl, rfl, rfl, rfl, rfl, rfl, rfl, rfl⟩, rfl, rfl, rfl, rfl, rfl, rfl⟩, rfl, rfl, rfl⟩
set_option maxRecDepth 1000000 in
set_option maxHeartbeats 1000000 in
theorem law_36 (C : Cx) (V N vb mb lb lo lc : Nat) (tv nv : Value) (quiet i k : Nat) (why : Int) (wrong : Bool) (X : Int) (long : List Nat) (W0 : World) (hk : k < C.n) (hn : C.n ≤ 9) (hb : nth long k ≤ 1000) (hl : OwnAt W0 C.w0.heap.size 3 (.slice (some ⟨lb, lo, none⟩) C.n lc) C.n (vi long)) :
    Tri Try.prog 332 (pieceOf Try.f3 [1, 1, 1, 1, 1, 1, 1, 1, 1, 1, 1, 0, 1, 0, 0, 1, 0, 0, 1, 1, 1, 1, 1, 1, 1, 0, 1, 0, 0, 1, 0, 0, 1, 1, 0]) (fun y w => SX C y V N vb (.slice (some ⟨lb, lo, none⟩) C.n lc) tv nv quiet i k why wrong ∧ y 28 = .pointer (some ⟨mb, 0, none⟩) ∧ y 29 = .int .i64 X ∧ w = W0)
      (fun _ _ y w => SX C y V N vb (.slice (some ⟨lb, lo, none⟩) C.n lc) tv nv quiet i k why wrong ∧ y 28 = .pointer (some ⟨mb, 0, none⟩) ∧ y 29 = .int .i64 X ∧ w = W0.setCell ⟨lb, lo + k, none⟩ (.int .i64 ((nth long k + 1 : Nat) : Int))) := by
  rintro Q y w ⟨hS, h28, h29, rfl⟩ hQ
  obtain ⟨⟨s4, s11, s13, s15, s16, s17, s18, s19⟩, s20, s22, s23, s25, s26, s27⟩ := hS
  have HQ := hid hQ
  obtain ⟨g, o, cap, hv, hg, hgl, hc⟩ := hl.at_ (by omega)
  cases hv
  have hll := hl.1
  rw [vi_len] at hll
  have c0 := (hc k hk).1
  rw [vi_get _ _ (by omega)] at c0
  have f0 := (hc k hk).2
  generalize nth long k = x at *
  have he : Hid (((x + 1 : Nat) : Int) = (x : Int) + 1) := by unfold Hid; omega
  generalize x + 1 = x1 at *
  clear hQ hc hl
  conv => arg 2; whnf
  rw [fr332]
  simp only [s4, s11, s13, s15, s16, s17, s18, s19, s20, s22, s23, s25, s26, s27, h28, h29]
  clear s4 s11 s13 s15 s16 s17 s18 s19 s20 s22 s23 s25 s26 s27 h28 h29
  go_wp2_with fail
  refine q_fr (N := 332) HQ.out rfl ⟨⟨⟨rfl, rfl, rfl, rfl, rfl, rfl, rfl, rfl⟩, rfl, rfl, rfl, rfl, rfl, rfl⟩, rfl, rfl, ?_⟩
  rw [he.out]
set_option maxRecDepth 1000000 in
set_option maxHeartbeats 1000000 in
theorem law_37 (C : Cx) (V N vb mb lb lo lc : Nat) (tv nv : Value) (quiet i k : Nat) (why : Int) (wrong : Bool) (X : Int) (long : List Nat) (W0 : World) (hk : k < C.n) (hn : C.n ≤ 9) (hl : OwnAt W0 C.w0.heap.size 3 (.slice (some ⟨lb, lo, none⟩) C.n lc) C.n (vi long)) :
    Tri Try.prog 332 (pieceOf Try.f3 [1, 1, 1, 1, 1, 1, 1, 1, 1, 1, 1, 0, 1, 0, 0, 1, 0, 0, 1, 1, 1, 1, 1, 1, 1, 0, 1, 0, 0, 1, 0, 0, 1, 1, 1, 0]) (fun y w => SX C y V N vb (.slice (some ⟨lb, lo, none⟩) C.n lc) tv nv quiet i k why wrong ∧ y 28 = .pointer (some ⟨mb, 0, none⟩) ∧ y 29 = .int .i64 X ∧ w = W0)
      (fun _ _ y w => SX C y V N vb (.slice (some ⟨lb, lo, none⟩) C.n lc) tv nv quiet i k why wrong ∧ y 28 = .pointer (some ⟨mb, 0, none⟩) ∧ w = if isIn X = true then W0.setCell ⟨lb, lo + k, none⟩ (.int .i64 ((0 : Nat) : Int)) else W0) := by
  rintro Q y w ⟨hS, h28, h29, rfl⟩ hQ
  obtain ⟨⟨s4, s11, s13, s15, s16, s17, s18, s19⟩, s20, s22, s23, s25, s26, s27⟩ := hS
  have HQ := hid hQ
  obtain ⟨g, o, cap, hv, hg, hgl, hc⟩ := hl.at_ (by omega)
  cases hv
  have hll := hl.1
  rw [vi_len] at hll
  have c0 := (hc k hk).1
  rw [vi_get _ _ (by omega)] at c0
  have f0 := (hc k hk).2
  generalize nth long k = x at *
  clear hQ hc hl
  conv => arg 2; whnf
  rw [fr332]
  simp only [s4, s11, s13, s15, s16, s17, s18, s19, s20, s22, s23, s25, s26, s27, h28, h29]
  clear s4 s11 s13 s15 s16 s17 s18 s19 s20 s22 s23 s25 s26 s27 h28 h29
  by_cases h1 : 0 ≤ X
  · have d1 : decide (0 ≤ X) = true := decide_eq_true h1
    by_cases h2 : X ≤ 9
    · have d2 : decide (X ≤ 9) = true := decide_eq_true h2
      have hin := hid (show isIn X = true from decide_eq_true ⟨h1, h2⟩)
      clear h1 h2
      go_wp2_with fail
      refine q_fr (N := 332) HQ.out rfl ⟨⟨⟨rfl, rfl, rfl, rfl, rfl, rfl, rfl, rfl⟩, rfl, rfl, rfl, rfl, rfl, rfl⟩, rfl, ?_⟩
      rw [if_pos hin.out]
      rfl
    · have d2 : decide (X ≤ 9) = false := decide_eq_false h2
      have hin := hid (show ¬ isIn X = true from fun h => h2 (of_decide_eq_true h).2)
      clear h1 h2
      go_wp2_with fail
      refine q_fr (N := 332) HQ.out rfl ⟨⟨⟨rfl, rfl, rfl, rfl, rfl, rfl, rfl, rfl⟩, rfl, rfl, rfl, rfl, rfl, rfl⟩, rfl, ?_⟩
      rw [if_neg hin.out]
  · have d1 : decide (0 ≤ X) = false := decide_eq_false h1
    have hin := hid (show ¬ isIn X = true from fun h => h1 (of_decide_eq_true h).1)
    clear h1
    go_wp2_with fail
    refine q_fr (N := 332) HQ.out rfl ⟨⟨⟨rfl, rfl, rfl, rfl, rfl, rfl, rfl, rfl⟩, rfl, rfl, rfl, rfl, rfl, rfl⟩, rfl, ?_⟩
    rw [if_neg hin.out]
end Go.Proofs.Ytkgnelmnadnbhaa
