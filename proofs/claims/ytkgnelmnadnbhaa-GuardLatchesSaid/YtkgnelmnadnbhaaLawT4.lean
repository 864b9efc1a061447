/- GuardLatches: the law looks at one monitor. -/
import Derived.Test.YtkgnelmnadnbhaaLawT24
namespace Go.Proofs.Ytkgnelmnadnbhaa
set_option linter.unusedVariables false
open Go.RowKit

theorem Try.info3b : (Try.prog.info? 3).map (fun i => (i.zero, i.size, i.bytes)) = some (some (.int .i64 0), 1, 8) := by kernel_rfl
/-- the slots inside the loop over the monitors -/
structure SX (C : Cx) (y : Nat → Value) (V N vb : Nat) (lv tv nv : Value) (quiet i k : Nat) (why : Int) (wrong : Bool) : Prop where
  sl : SL C y V lv tv quiet i
  s20 : y 20 = .slice (some ⟨vb, 0, none⟩) 3 3
  s22 : y 22 = .pointer (some ⟨N, 0, none⟩)
  s23 : y 23 = nv
  s25 : y 25 = .int .i64 why
  s26 : y 26 = .bool wrong
  s27 : y 27 = .int .i64 (k : Int)
def mRow (m : Mon) : Array Value := #[.int .i64 (m.of_ : Int), .int .i64 0, .int .i64 9, .int .i64 (m.fr : Int), .int .i64 (m.tier : Int), .string m.name]
set_option maxRecDepth 1000000 in
set_option maxHeartbeats 1000000 in
theorem law_39 (C : Cx) (V N vb mb lb lo lc : Nat) (tv nv : Value) (quiet i k : Nat) (why : Int) (wrong : Bool) (m : Mon) (long : List Nat) (W0 : World) (hk : k < C.n) (hn : C.n ≤ 9) (hm : W0.heap[mb]? = some (.cells (mRow m) 29)) (hl : OwnAt W0 C.w0.heap.size 3 (.slice (some ⟨lb, lo, none⟩) C.n lc) C.n (vi long)) :
    Tri Try.prog 332 (pieceOf Try.f3 [1, 1, 1, 1, 1, 1, 1, 1, 1, 1, 1, 0, 1, 0, 0, 1, 0, 0, 1, 1, 1, 1, 1, 1, 1, 0, 1, 0, 0, 1, 0, 0, 1, 1, 1, 1, 0, 0]) (fun y w => SX C y V N vb (.slice (some ⟨lb, lo, none⟩) C.n lc) tv nv quiet i k why wrong ∧ y 28 = .pointer (some ⟨mb, 0, none⟩) ∧ w = W0)
      (fun _ _ y w => SX C y V N vb (.slice (some ⟨lb, lo, none⟩) C.n lc) tv nv quiet i k why wrong ∧ y 28 = .pointer (some ⟨mb, 0, none⟩) ∧ y 199 = .bool (((nth long k : Nat) : Int) == (m.fr : Int)) ∧ Below W0.heap.size W0 w) := by
  rintro Q y w ⟨hS, h28, rfl⟩ hQ
  obtain ⟨⟨s4, s11, s13, s15, s16, s17, s18, s19⟩, s20, s22, s23, s25, s26, s27⟩ := hS
  have HQ := hid hQ
  obtain ⟨bb, off, hbe, hbl, hc⟩ := hl.rd.ati k hk
  cases hbe
  have e1 : ∀ w', Below w.heap.size w.drew w' → w'.cell? ⟨lb, lo + k, none⟩ = some (.int .i64 (nth long k : Nat)) := fun w' h => (((Below.refl _ w).drew.trans h).cell (p := ⟨lb, lo + k, none⟩) hbl).trans hc
  have e2 : ∀ w', Below w.heap.size w.drew w' → w'.cell? ⟨mb, 3, none⟩ = some (.int .i64 (m.fr : Int)) := fun w' h => by rw [cell_of_row _ _ _ _ _ _ (row_below hm ((Below.refl _ w).drew.trans h))]; rfl
  have hd := hid ((Below.refl w.heap.size w).drew)
  clear hQ hc hm hl
  conv => arg 2; whnf
  rw [fr332]
  simp only [s4, s11, s13, s15, s16, s17, s18, s19, s20, s22, s23, s25, s26, s27, h28]
  clear s4 s11 s13 s15 s16 s17 s18 s19 s20 s22 s23 s25 s26 s27 h28
  refine wp_region_can_all [] [0, 1, 2, 3, 4, 5, 6] (Below w.heap.size) (fun _ => Below.refl _ _) (fun _ _ _ h k => h.trans k) (by kernel_rfl) (by kernel_rfl) ?_
  simp only [List.map_cons, List.map_nil, List.contains_nil, List.getD_cons_zero, List.getD_cons_succ]
  generalize nth long k = x at *
  generalize w.drew = U at *
  repeat (refine wpL_do rfl (fun w' hw' => (by go_simp; rfl)) ?_; simp only [Act.put, List.setIfInBounds_toArray, List.set_cons_succ, List.set_cons_zero])
  refine wpL_nil ?_
  refine q_fr (N := 332) HQ.out rfl ⟨⟨⟨rfl, rfl, rfl, rfl, rfl, rfl, rfl, rfl⟩, rfl, rfl, rfl, rfl, rfl, rfl⟩, rfl, rfl, hd.out⟩
set_option maxRecDepth 1000000 in
set_option maxHeartbeats 1000000 in
theorem law_43 (C : Cx) (V N vb mb lb lo lc : Nat) (tv nv : Value) (quiet i k : Nat) (why : Int) (wrong : Bool) (m : Mon) (long : List Nat) (W0 : World) (hk : k < C.n) (hn : C.n ≤ 9) (hm : W0.heap[mb]? = some (.cells (mRow m) 29)) (hl : OwnAt W0 C.w0.heap.size 3 (.slice (some ⟨lb, lo, none⟩) C.n lc) C.n (vi long)) :
    Tri Try.prog 332 (pieceOf Try.f3 [1, 1, 1, 1, 1, 1, 1, 1, 1, 1, 1, 0, 1, 0, 0, 1, 0, 0, 1, 1, 1, 1, 1, 1, 1, 0, 1, 0, 0, 1, 0, 0, 1, 1, 1, 1, 1]) (fun y w => SX C y V N vb (.slice (some ⟨lb, lo, none⟩) C.n lc) tv nv quiet i k why wrong ∧ y 28 = .pointer (some ⟨mb, 0, none⟩) ∧ w = W0)
      (fun _ _ y w => SX C y V N vb (.slice (some ⟨lb, lo, none⟩) C.n lc) tv nv quiet i k why (wrong || decide (m.fr ≤ nth long k)) ∧ Below W0.heap.size W0 w) := by
  rintro Q y w ⟨hS, h28, rfl⟩ hQ
  obtain ⟨⟨s4, s11, s13, s15, s16, s17, s18, s19⟩, s20, s22, s23, s25, s26, s27⟩ := hS
  have HQ := hid hQ
  obtain ⟨bb, off, hbe, hbl, hc⟩ := hl.rd.ati k hk
  cases hbe
  have e1 : ∀ w', Below w.heap.size w.drew w' → w'.cell? ⟨lb, lo + k, none⟩ = some (.int .i64 (nth long k : Nat)) := fun w' h => (((Below.refl _ w).drew.trans h).cell (p := ⟨lb, lo + k, none⟩) hbl).trans hc
  have e2 : ∀ w', Below w.heap.size w.drew w' → w'.cell? ⟨mb, 3, none⟩ = some (.int .i64 (m.fr : Int)) := fun w' h => by rw [cell_of_row _ _ _ _ _ _ (row_below hm ((Below.refl _ w).drew.trans h))]; rfl
  have hd := hid ((Below.refl w.heap.size w).drew)
  clear hQ hc hm hl
  conv => arg 2; whnf
  rw [fr332]
  simp only [s4, s11, s13, s15, s16, s17, s18, s19, s20, s22, s23, s25, s26, s27, h28]
  clear s4 s11 s13 s15 s16 s17 s18 s19 s20 s22 s23 s25 s26 s27 h28
  refine wp_region_can_all [] [0, 1, 2, 3, 4, 5, 6, 7, 8, 9, 10] (Below w.heap.size) (fun _ => Below.refl _ _) (fun _ _ _ h k => h.trans k) (by kernel_rfl) (by kernel_rfl) ?_
  simp only [List.map_cons, List.map_nil, List.contains_nil, List.getD_cons_zero, List.getD_cons_succ]
  generalize nth long k = x at *
  obtain ⟨mo, mf, mt, mn⟩ := m
  dsimp only at *
  generalize w.drew = U at *
  cases wrong with
  | true =>
    clear e1 e2
    iterate 2 (refine wpL_do rfl (fun w' hw' => (by go_simp; rfl)) ?_; simp only [Act.put, List.setIfInBounds_toArray, List.set_cons_succ, List.set_cons_zero])
    iterate 7 ((with_reducible refine wpL_pass ?_ ?_); (· rfl); simp only [Act.put, List.setIfInBounds_toArray, List.set_cons_succ, List.set_cons_zero])
    iterate 2 (refine wpL_do rfl (fun w' hw' => (by go_simp; rfl)) ?_; simp only [Act.put, List.setIfInBounds_toArray, List.set_cons_succ, List.set_cons_zero])
    refine wpL_nil ?_
    refine q_fr (N := 332) HQ.out rfl ⟨⟨⟨rfl, rfl, rfl, rfl, rfl, rfl, rfl, rfl⟩, rfl, rfl, rfl, rfl, rfl, rfl⟩, hd.out⟩
  | false =>
    have hv : ∃ b, b = decide (mf ≤ x) := ⟨_, rfl⟩
    obtain ⟨b, hb⟩ := hv
    have Hb := hid hb
    cases b with
    | true =>
      have h1 : mf ≤ x := of_decide_eq_true hb.symm
      have d1 : decide ((mf : Int) ≤ (x : Int)) = true := decide_eq_true (by omega)
      have d2 : decide (mf ≤ x) = true := hb.symm
      clear hb h1
      repeat (refine wpL_do rfl (fun w' hw' => (by go_simp; rfl)) ?_; simp only [Act.put, List.setIfInBounds_toArray, List.set_cons_succ, List.set_cons_zero])
      refine wpL_nil ?_
      refine q_fr (N := 332) HQ.out rfl ⟨⟨⟨rfl, rfl, rfl, rfl, rfl, rfl, rfl, rfl⟩, rfl, rfl, rfl, rfl, ?_, rfl⟩, hd.out⟩
      show Value.bool _ = _
      rw [← Hb.out]
      rfl
    | false =>
      have h1 : ¬ mf ≤ x := of_decide_eq_false hb.symm
      have d1 : decide ((mf : Int) ≤ (x : Int)) = false := decide_eq_false (by omega)
      have d2 : decide (mf ≤ x) = false := hb.symm
      clear hb h1
      repeat (refine wpL_do rfl (fun w' hw' => (by go_simp; rfl)) ?_; simp only [Act.put, List.setIfInBounds_toArray, List.set_cons_succ, List.set_cons_zero])
      refine wpL_nil ?_
      refine q_fr (N := 332) HQ.out rfl ⟨⟨⟨rfl, rfl, rfl, rfl, rfl, rfl, rfl, rfl⟩, rfl, rfl, rfl, rfl, ?_, rfl⟩, hd.out⟩
      show Value.bool _ = _
      rw [← Hb.out]
      rfl
end Go.Proofs.Ytkgnelmnadnbhaa
