/- Passes: order. -/
import Derived.Test.YtfbchmihkndfaaaCho0
namespace Go.Proofs.Ytfbchmihkndfaaa
set_option linter.unusedVariables false
open Go.RowKit

theorem Rd.ati {w : World} {ao : Option Addr} {n cap : Nat} {bs : List Nat} (h : Rd w ao n cap (vi bs)) (k : Nat) (hk : k < n) :
    ∃ b off, ao = some ⟨b, off, none⟩ ∧ b < w.heap.size ∧ w.cell? ⟨b, off + k, none⟩ = some (.int .i64 (nth bs k : Nat)) := by
  obtain ⟨b, off, ha, hlt, hc⟩ := h.mem (by omega)
  have hl := h.len
  rw [vi_len] at hl
  exact ⟨b, off, ha, hlt, by rw [hc k hk, vi_get bs k (by omega)]⟩
/-- may these all be taken, in this order? -/
def ChnA (l : List Ps) (gap : Nat) (c : List Nat) : Prop := ∀ i, i + 1 < c.length → fitsB l gap (nth c i) (nth c (i + 1)) = true
theorem chn_of {l : List Ps} {gap : Nat} : ∀ c : List Nat, ChnA l gap c → Chn l gap c
  | [], _ => trivial
  | [_], _ => trivial
  | a :: b :: r, h => ⟨h 0 (by simp), chn_of (b :: r) (fun i hi => h (i + 1) (by simp at hi ⊢; omega))⟩
theorem of_chn {l : List Ps} {gap : Nat} : ∀ c : List Nat, Chn l gap c → ChnA l gap c
  | [], _, i, hi => by simp at hi
  | [_], _, i, hi => by simp at hi
  | a :: b :: r, h, 0, _ => h.1
  | a :: b :: r, h, i + 1, hi => of_chn (b :: r) h.2 i (by simp at hi ⊢; omega)
def pRow (p : Ps) : Array Value := #[.int .i64 (p.st : Int), .int .i64 (p.fr : Int), .int .i64 (p.tt : Int), .int .i64 (p.wo : Int)]
structure SO9 (y : Nat → Value) (la : Option Addr) (n cap gap : Nat) (ca : Option Addr) (m cc i : Nat) : Prop where
  s0 : y 0 = .slice la n cap
  s1 : y 1 = .int .i64 (gap : Int)
  s2 : y 2 = .slice ca m cc
  s7 : y 7 = .int .i64 (i : Int)
set_option maxRecDepth 1000000 in
theorem fr46 (y : Nat → Value) : fr 46 y = #[y 0, y 1, y 2, y 3, y 4, y 5, y 6, y 7, y 8, y 9, y 10, y 11, y 12, y 13, y 14, y 15, y 16, y 17, y 18, y 19, y 20, y 21, y 22, y 23, y 24, y 25, y 26, y 27, y 28, y 29, y 30, y 31, y 32, y 33, y 34, y 35, y 36, y 37, y 38, y 39, y 40, y 41, y 42, y 43, y 44, y 45] := rfl
theorem below22 (U : World) (o1 o2 o3 o4 : Obj) {B : Nat} (hB : B ≤ U.heap.size) : Below B ((U.alloc o1).alloc o2) ((U.alloc o3).alloc o4) :=
  ⟨rfl, rfl, rfl, by simp, fun k hk => by
    have h1 := ((below_alloc U o1).trans ((below_alloc (U.alloc o1) o2).mono (by simp))).block k (by omega)
    have h2 := ((below_alloc U o3).trans ((below_alloc (U.alloc o3) o4).mono (by simp))).block k (by omega)
    exact h2.trans h1.symm⟩
set_option maxRecDepth 1000000 in
set_option maxHeartbeats 2000000 in
theorem two_ok (la : Option Addr) (n cap gap : Nat) (l : List Ps) (ca : Option Addr) (m cc i : Nat) (c : List Nat) (W0 : World) (hr : RdPs W0 la n cap l) (hc : Rd W0 ca m cc (vi c)) (hn : n ≤ 9) (hm : m ≤ 100) (hlt : ∀ k, k < m → nth c k < n) (hi : i + 1 < m) :
    Tri Try.prog 46 (pieceOf Try.f9 [1, 0, 1, 0, 0, 1, 0, 0, 0]) (fun y w => SO9 y la n cap gap ca m cc (i + 1) ∧ w = W0)
      (fun _ _ y w => SO9 y la n cap gap ca m cc (i + 1) ∧ ∃ A B, y 8 = .pointer (some ⟨A, 0, none⟩) ∧ y 9 = .pointer (some ⟨B, 0, none⟩) ∧ w.heap[A]? = some (.cells (pRow (pAt l (nth c i))) 41) ∧ w.heap[B]? = some (.cells (pRow (pAt l (nth c (i + 1)))) 41) ∧ Below W0.heap.size W0 w) := by
  rintro Q y w ⟨⟨s0, s1, s2, s7⟩, rfl⟩ hQ
  have HQ := hid hQ
  have hx := hlt i (by omega)
  have hz := hlt (i + 1) hi
  obtain ⟨cb, co, rfl, hcl, c0⟩ := hc.ati i (by omega)
  obtain ⟨cb2, co2, he, _, c1⟩ := hc.ati (i + 1) hi
  cases he
  obtain ⟨lb, rfl, hll, a0, a1, a2, a3⟩ := hr.at_ (nth c i) hx
  obtain ⟨lb2, he, _, b0, b1, b2, b3⟩ := hr.at_ (nth c (i + 1)) hz
  cases he
  have hd : ∀ w', Below w.heap.size w.drew w' → Below w.heap.size w w' := fun w' h => (Below.refl _ w).drew.trans h
  have f0 : ∀ w', Below w.heap.size w.drew w' → w'.cell? ⟨cb, co + i, none⟩ = some (.int .i64 (nth c i : Nat)) := fun w' h => ((hd w' h).cell (p := ⟨cb, co + i, none⟩) hcl).trans c0
  have f1 : ∀ w', Below w.heap.size w.drew w' → w'.cell? ⟨cb, co + (i + 1), none⟩ = some (.int .i64 (nth c (i + 1) : Nat)) := fun w' h => ((hd w' h).cell (p := ⟨cb, co + (i + 1), none⟩) hcl).trans c1
  have g0 : ∀ w', Below w.heap.size w.drew w' → w'.cell? ⟨lb, nth c i * 4, none⟩ = some (.int .i64 ((pAt l (nth c i)).st : Int)) := fun w' h => ((hd w' h).cell (p := ⟨lb, nth c i * 4, none⟩) hll).trans a0
  have g1 : ∀ w', Below w.heap.size w.drew w' → w'.cell? ⟨lb, nth c i * 4 + 1, none⟩ = some (.int .i64 ((pAt l (nth c i)).fr : Int)) := fun w' h => ((hd w' h).cell (p := ⟨lb, nth c i * 4 + 1, none⟩) hll).trans a1
  have g2 : ∀ w', Below w.heap.size w.drew w' → w'.cell? ⟨lb, nth c i * 4 + 2, none⟩ = some (.int .i64 ((pAt l (nth c i)).tt : Int)) := fun w' h => ((hd w' h).cell (p := ⟨lb, nth c i * 4 + 2, none⟩) hll).trans a2
  have g3 : ∀ w', Below w.heap.size w.drew w' → w'.cell? ⟨lb, nth c i * 4 + 3, none⟩ = some (.int .i64 ((pAt l (nth c i)).wo : Int)) := fun w' h => ((hd w' h).cell (p := ⟨lb, nth c i * 4 + 3, none⟩) hll).trans a3
  have k0 : ∀ w', Below w.heap.size w.drew w' → w'.cell? ⟨lb, nth c (i + 1) * 4, none⟩ = some (.int .i64 ((pAt l (nth c (i + 1))).st : Int)) := fun w' h => ((hd w' h).cell (p := ⟨lb, nth c (i + 1) * 4, none⟩) hll).trans b0
  have k1 : ∀ w', Below w.heap.size w.drew w' → w'.cell? ⟨lb, nth c (i + 1) * 4 + 1, none⟩ = some (.int .i64 ((pAt l (nth c (i + 1))).fr : Int)) := fun w' h => ((hd w' h).cell (p := ⟨lb, nth c (i + 1) * 4 + 1, none⟩) hll).trans b1
  have k2 : ∀ w', Below w.heap.size w.drew w' → w'.cell? ⟨lb, nth c (i + 1) * 4 + 2, none⟩ = some (.int .i64 ((pAt l (nth c (i + 1))).tt : Int)) := fun w' h => ((hd w' h).cell (p := ⟨lb, nth c (i + 1) * 4 + 2, none⟩) hll).trans b2
  have k3 : ∀ w', Below w.heap.size w.drew w' → w'.cell? ⟨lb, nth c (i + 1) * 4 + 3, none⟩ = some (.int .i64 ((pAt l (nth c (i + 1))).wo : Int)) := fun w' h => ((hd w' h).cell (p := ⟨lb, nth c (i + 1) * 4 + 3, none⟩) hll).trans b3
  have hdd := hid ((Below.refl w.heap.size w).drew)
  have hds : Hid (w.drew.heap.size = w.heap.size) := rfl
  clear hQ hlt hd
  generalize pAt l (nth c i) = p at *
  generalize pAt l (nth c (i + 1)) = q at *
  generalize nth c i = x at *
  generalize nth c (i + 1) = z at *
  obtain ⟨k, hk⟩ : ∃ k, k = i + 1 := ⟨_, rfl⟩
  rw [← hk] at f1 s7 hi HQ
  have hsub : (k : Int) - 1 = (i : Int) := by omega
  have hwr : IntKind.i64.wrap (i : Int) = (i : Int) := IntWalk.i64_in _ (by omega)
  have him : i < m := by omega
  have Hk := hid hk
  clear hr hc c0 c1 a0 a1 a2 a3 b0 b1 b2 b3 hk
  obtain ⟨p1, p2, p3, p4⟩ := p
  obtain ⟨q1, q2, q3, q4⟩ := q
  dsimp only at *
  unfold pRow at *
  conv => arg 2; whnf
  rw [fr46]
  simp only [s0, s1, s2, s7]
  clear s0 s1 s2 s7
  refine wp_region_plan [15, 16, 17, 18] (Plan.of [0, 1, 2, 3, 4, 5, 6, 7, 8, 9, 10, 11, 12, 13, 14] (.two 15 (Plan.of [16, 17, 18] .nil) 16 (Plan.of [15, 17, 18] .nil))) (Below w.heap.size) (fun _ => Below.refl _ _) (fun _ _ _ h k => h.trans k) (by kernel_rfl) (by kernel_rfl) ?_
  simp only [Plan.of, Plan.lay, List.contains_cons, List.contains_nil, List.getD_cons_zero, List.getD_cons_succ, Nat.reduceBEq, Bool.or_false, Bool.or_true]
  generalize w.drew = U at *
  repeat (refine wpTL_do rfl (fun w' hw' => (by go_simp; rfl)) ?_; simp only [Act.put, List.setIfInBounds_toArray, List.set_cons_succ, List.set_cons_zero])
  clear f0 f1 g0 g1 g2 g3 k0 k1 k2 k3 hsub hwr
  have hU := hds.out
  refine wpTL_two ?_ ?_
  · refine wpTL_call rfl (fun K hK => ?_)
    go_wp2_with fail
    refine hK _ _ ((below_alloc U _).mono (by omega)) ?_
    clear hK K
    try simp only [Act.put, List.setIfInBounds_toArray, List.set_cons_succ, List.set_cons_zero]
    refine wpTL_call rfl (fun K hK => ?_)
    go_wp2_with fail
    refine hK _ _ ((below_alloc (U.alloc (.cells #[.int .i64 0, .int .i64 0, .int .i64 0, .int .i64 0] 41)) _).mono (by simp; omega)) ?_
    clear hK K
    try simp only [Act.put, List.setIfInBounds_toArray, List.set_cons_succ, List.set_cons_zero]
    refine wpTL_call rfl (fun K hK => ?_)
    go_wp2_with fail
    refine hK _ _ (below22 U _ _ _ _ (by omega)) ?_
    clear hK K
    try simp only [Act.put, List.setIfInBounds_toArray, List.set_cons_succ, List.set_cons_zero]
    refine wpTL_call rfl (fun K hK => ?_)
    go_wp2_with fail
    refine hK _ _ (below22 U _ _ _ _ (by omega)) ?_
    clear hK K
    try simp only [Act.put, List.setIfInBounds_toArray, List.set_cons_succ, List.set_cons_zero]
    refine wpTL_nil ?_
    have rA := row_below (heap_alloc_new U (.cells #[.int .i64 (p1 : Int), .int .i64 (p2 : Int), .int .i64 (p3 : Int), .int .i64 (p4 : Int)] 41)) (below_alloc (U.alloc (.cells #[.int .i64 (p1 : Int), .int .i64 (p2 : Int), .int .i64 (p3 : Int), .int .i64 (p4 : Int)] 41)) (.cells #[.int .i64 (q1 : Int), .int .i64 (q2 : Int), .int .i64 (q3 : Int), .int .i64 (q4 : Int)] 41))
    have rB := heap_alloc_new (U.alloc (.cells #[.int .i64 (p1 : Int), .int .i64 (p2 : Int), .int .i64 (p3 : Int), .int .i64 (p4 : Int)] 41)) (.cells #[.int .i64 (q1 : Int), .int .i64 (q2 : Int), .int .i64 (q3 : Int), .int .i64 (q4 : Int)] 41)
    rw [World.size_alloc] at rB
    have hb := hdd.out.trans (((below_alloc U (.cells #[.int .i64 (p1 : Int), .int .i64 (p2 : Int), .int .i64 (p3 : Int), .int .i64 (p4 : Int)] 41)).trans ((below_alloc (U.alloc (.cells #[.int .i64 (p1 : Int), .int .i64 (p2 : Int), .int .i64 (p3 : Int), .int .i64 (p4 : Int)] 41)) (.cells #[.int .i64 (q1 : Int), .int .i64 (q2 : Int), .int .i64 (q3 : Int), .int .i64 (q4 : Int)] 41)).mono (by simp))).mono (Nat.le_of_eq hU.symm))
    rw [hU] at rA rB
    exact q_fr (N := 46) HQ.out rfl ⟨⟨rfl, rfl, rfl, rfl⟩, _, _, rfl, rfl, rA, rB, hb⟩
  · refine wpTL_call rfl (fun K hK => ?_)
    go_wp2_with fail
    refine hK _ _ ((below_alloc U _).mono (by omega)) ?_
    clear hK K
    try simp only [Act.put, List.setIfInBounds_toArray, List.set_cons_succ, List.set_cons_zero]
    refine wpTL_call rfl (fun K hK => ?_)
    go_wp2_with fail
    refine hK _ _ ((below_alloc (U.alloc (.cells #[.int .i64 0, .int .i64 0, .int .i64 0, .int .i64 0] 41)) _).mono (by simp; omega)) ?_
    clear hK K
    try simp only [Act.put, List.setIfInBounds_toArray, List.set_cons_succ, List.set_cons_zero]
    refine wpTL_call rfl (fun K hK => ?_)
    go_wp2_with fail
    refine hK _ _ (below22 U _ _ _ _ (by omega)) ?_
    clear hK K
    try simp only [Act.put, List.setIfInBounds_toArray, List.set_cons_succ, List.set_cons_zero]
    refine wpTL_call rfl (fun K hK => ?_)
    go_wp2_with fail
    refine hK _ _ (below22 U _ _ _ _ (by omega)) ?_
    clear hK K
    try simp only [Act.put, List.setIfInBounds_toArray, List.set_cons_succ, List.set_cons_zero]
    refine wpTL_nil ?_
    have rA := row_below (heap_alloc_new U (.cells #[.int .i64 (q1 : Int), .int .i64 (q2 : Int), .int .i64 (q3 : Int), .int .i64 (q4 : Int)] 41)) (below_alloc (U.alloc (.cells #[.int .i64 (q1 : Int), .int .i64 (q2 : Int), .int .i64 (q3 : Int), .int .i64 (q4 : Int)] 41)) (.cells #[.int .i64 (p1 : Int), .int .i64 (p2 : Int), .int .i64 (p3 : Int), .int .i64 (p4 : Int)] 41))
    have rB := heap_alloc_new (U.alloc (.cells #[.int .i64 (q1 : Int), .int .i64 (q2 : Int), .int .i64 (q3 : Int), .int .i64 (q4 : Int)] 41)) (.cells #[.int .i64 (p1 : Int), .int .i64 (p2 : Int), .int .i64 (p3 : Int), .int .i64 (p4 : Int)] 41)
    rw [World.size_alloc] at rB
    have hb := hdd.out.trans (((below_alloc U (.cells #[.int .i64 (q1 : Int), .int .i64 (q2 : Int), .int .i64 (q3 : Int), .int .i64 (q4 : Int)] 41)).trans ((below_alloc (U.alloc (.cells #[.int .i64 (q1 : Int), .int .i64 (q2 : Int), .int .i64 (q3 : Int), .int .i64 (q4 : Int)] 41)) (.cells #[.int .i64 (p1 : Int), .int .i64 (p2 : Int), .int .i64 (p3 : Int), .int .i64 (p4 : Int)] 41)).mono (by simp))).mono (Nat.le_of_eq hU.symm))
    rw [hU] at rA rB
    exact q_fr (N := 46) HQ.out rfl ⟨⟨rfl, rfl, rfl, rfl⟩, _, _, rfl, rfl, rB, rA, hb⟩
end Go.Proofs.Ytfbchmihkndfaaa
