/- The walks of Sum and Times. -/
import Derived.Test.YtiejjjbnhkdfeaaTrim
namespace Go.Proofs.Ytiejjjbnhkdfeaa
set_option linter.unusedVariables false
open Go.RowKit

theorem add_any (base g n cap : Nat) (ps qs : List Nat) (qa : Option Addr) (qn qcap : Nat) (c at_ : Int) (w : World)
    (hown : w.ownsRow base 5 1 (.slice (some ⟨g, 0, none⟩) n cap) n (vb ps)) (hp : AllB ps) (hq : Rd w qa qn qcap (vb qs)) (hqb : AllB qs) (hne : ∀ b off, 0 < qn → qa = some ⟨b, off, none⟩ → b ≠ g) (hc0 : 0 ≤ c) (hc : c < 256) (ha : 0 ≤ at_) (hfit : at_ + qn ≤ n) (hn : n ≤ 140737488355328) :
    Calls Try.prog 17 #[.slice (some ⟨g, 0, none⟩) n cap, .slice qa qn qcap, .int .u8 c, .int .i64 at_] w fun e w' =>
      e = .returned (.tuple #[]) ∧ w'.ownsRow base 5 1 (.slice (some ⟨g, 0, none⟩) n cap) n (vb (addTo ps qs c.toNat at_.toNat qn)) ∧ w.grownBy w' (some g) := by
  obtain ⟨c, rfl⟩ := Int.eq_ofNat_of_zero_le hc0
  obtain ⟨at_, rfl⟩ := Int.eq_ofNat_of_zero_le ha
  exact add_walk base g n cap ps qs qa qn qcap c at_ w hown hp hq hqb hne (by omega) (by omega) hn

/-- 'make(poly, m)' -/
theorem run_mk (m : Nat) (hm : m ≤ 140737488355328) (u : World) : (Instr.makeSlice 42 (.int .i64 (m : Int)) (.int .i64 (m : Int))).run Try.prog u =
    .ok (.slice (some ⟨u.heap.size, 0, none⟩) m m) (u.alloc (.cells (madeCells #[.int .u8 0] m) 5)) := by
  obtain ⟨i0, hi, hz0, hz1, hz2⟩ := info_parts Try.info5
  have h := run_make (P := Try.prog) u 42 5 i0 (.int .u8 0) Try.underlying42 hi hz0 .i64 .i64 (m : Int) (m : Int) (by omega) (Int.le_refl _) (by rw [hz2]; omega) (by omega)
  simpa [hz1, Value.cells] using h
theorem made_own (m : Nat) (hm : m ≤ 140737488355328) (u : World) : (u.alloc (.cells (madeCells #[.int .u8 0] m) 5)).ownsRow u.heap.size 5 1 (.slice (some ⟨u.heap.size, 0, none⟩) m m) m (vb (List.replicate m 0)) := by
  have h := World.ownsRow_lit (base := u.heap.size) (e := 5) (size := 1) u (madeCells #[.int .u8 0] m) m (Nat.le_refl _) (by unfold maxLen; omega) (by rw [size_madeCells, Nat.mul_one])
  rw [toList_madeCells_one] at h
  simpa [vb] using h

/-- the tail of Sum behind its make -/
theorem sum_any (pa qa : Option Addr) (pn pc qn qc : Nat) (ps qs : List Nat) (w : World) (hp : Rd w pa pn pc (vb ps)) (hpb : AllB ps) (hq : Rd w qa qn qc (vb qs)) (hqb : AllB qs) (hpn : pn ≤ 140737488355328) (hqn : qn ≤ 140737488355328) :
    Calls Try.prog 11 #[.slice pa pn pc, .slice qa qn qc] w fun e w' => ∃ ao' m c, e = .returned (.slice ao' m c) ∧ m = (sumP ps qs).length ∧ w'.ownsRow w.heap.size 5 1 (.slice ao' m c) m (vb (sumP ps qs)) ∧ Below w.heap.size w w' := by
  have hpl : ps.length = pn := by have := hp.len; rwa [vb_len] at this
  have hql : qs.length = qn := by have := hq.len; rwa [vb_len] at this
  have Hpl := hid hpl
  have Hql := hid hql
  clear hpl hql
  obtain ⟨m, hmx, hm1, hm2, hmle⟩ : ∃ m, m = max pn qn ∧ pn ≤ m ∧ qn ≤ m ∧ m ≤ 140737488355328 := ⟨_, rfl, by omega, by omega, by omega⟩
  have Hm := hid hmx
  have k1 := run_mk m hmle
  have own0 := made_own m hmle w
  have hp1 := hp.below (below_alloc w (.cells (madeCells #[.int .u8 0] m) 5))
  have hq1 := hq.below (below_alloc w (.cells (madeCells #[.int .u8 0] m) 5))
  have nep : ∀ b off, 0 < pn → pa = some ⟨b, off, none⟩ → b ≠ w.heap.size := fun b off h0 h => by have := hp.block_lt h0 h; omega
  have neq : ∀ b off, 0 < qn → qa = some ⟨b, off, none⟩ → b ≠ w.heap.size := fun b off h0 h => by have := hq.block_lt h0 h; omega
  have hfin : ∀ (w1 w2 w3 : World) (ao : Option Addr) (c : Nat) (l : List Nat), l = sumP ps qs → (w.alloc (.cells (madeCells #[.int .u8 0] m) 5)).grownBy w1 (some w.heap.size) → w1.grownBy w2 (some w.heap.size) → w2.heap.size ≥ w.heap.size →
      w3.ownsRow w2.heap.size 5 1 (.slice ao l.length c) l.length (vb l) → Below w2.heap.size w2 w3 →
      w3.ownsRow w.heap.size 5 1 (.slice ao l.length c) l.length (vb (sumP ps qs)) ∧ Below w.heap.size w w3 := by
    intro w1 w2 w3 ao c l hl g1 g2 hs ho hb
    subst hl
    refine ⟨ownsRow_mono ho hs, ?_⟩
    exact (below_of_grown (below_of_grown (below_alloc w _) g1 (Nat.le_refl _)) g2 (Nat.le_refl _)).trans (hb.mono hs)
  by_cases hle : qn ≤ pn
  · obtain rfl : m = pn := by omega
    clear hmx
    go_enter Try.func11, Try.ntmps11
    go_wp2_with fail
    refine (add_any w.heap.size w.heap.size m m (List.replicate m 0) ps pa _ pc _ _ _ own0 (AllB.replicate m) hp1 hpb nep (by omega) (by omega) (by omega) (by omega) (by omega)).mono ?_
    rintro e w1 ⟨rfl, o1, g1⟩
    go_wp2_with fail
    refine (add_any w.heap.size w.heap.size m m _ qs qa _ qc _ _ _ o1 (addTo_all (AllB.replicate m) (by decide) _) (hq1.grown g1 (fun b off h0 hh e => by cases e; exact neq _ _ h0 hh rfl)) hqb neq (by omega) (by omega) (by omega) (by omega) (by omega)).mono ?_
    rintro e w2 ⟨rfl, o2, g2⟩
    go_wp2_with fail
    refine (trimmed_any _ m m _ _ (Rd.ofOwn o2) (addTo_all (addTo_all (AllB.replicate m) (by decide) _) (by decide) _) (by omega)).mono ?_
    rintro e w3 ⟨ao, m3, c3, rfl, rfl, o3, hb3⟩
    go_wp2
    go_ret
    have hs : w2.heap.size ≥ w.heap.size := by have h1 := g1.size; have h2 := g2.size; simp at h1; omega
    have hl : trim (addTo (addTo (List.replicate m 0) ps (Int.toNat 1) (Int.toNat 0) m) qs (Int.toNat 1) (Int.toNat 0) qn) = sumP ps qs := by
      unfold sumP
      rw [Hpl.out, Hql.out, ← Hm.out]
      rfl
    obtain ⟨f1, f2⟩ := hfin w1 w2 w3 ao c3 _ hl g1 g2 hs o3 hb3
    exact ⟨ao, _, c3, rfl, congrArg List.length hl, f1, f2⟩
  · obtain rfl : m = qn := by omega
    clear hmx
    go_enter Try.func11, Try.ntmps11
    go_wp2_with fail
    refine (add_any w.heap.size w.heap.size m m (List.replicate m 0) ps pa _ pc _ _ _ own0 (AllB.replicate m) hp1 hpb nep (by omega) (by omega) (by omega) (by omega) (by omega)).mono ?_
    rintro e w1 ⟨rfl, o1, g1⟩
    go_wp2_with fail
    refine (add_any w.heap.size w.heap.size m m _ qs qa _ qc _ _ _ o1 (addTo_all (AllB.replicate m) (by decide) _) (hq1.grown g1 (fun b off h0 hh e => by cases e; exact neq _ _ h0 hh rfl)) hqb neq (by omega) (by omega) (by omega) (by omega) (by omega)).mono ?_
    rintro e w2 ⟨rfl, o2, g2⟩
    go_wp2_with fail
    refine (trimmed_any _ m m _ _ (Rd.ofOwn o2) (addTo_all (addTo_all (AllB.replicate m) (by decide) _) (by decide) _) (by omega)).mono ?_
    rintro e w3 ⟨ao, m3, c3, rfl, rfl, o3, hb3⟩
    go_wp2
    go_ret
    have hs : w2.heap.size ≥ w.heap.size := by have h1 := g1.size; have h2 := g2.size; simp at h1; omega
    have hl : trim (addTo (addTo (List.replicate m 0) ps (Int.toNat 1) (Int.toNat 0) pn) qs (Int.toNat 1) (Int.toNat 0) m) = sumP ps qs := by
      unfold sumP
      rw [Hpl.out, Hql.out, ← Hm.out]
      rfl
    obtain ⟨f1, f2⟩ := hfin w1 w2 w3 ao c3 _ hl g1 g2 hs o3 hb3
    exact ⟨ao, _, c3, rfl, congrArg List.length hl, f1, f2⟩
end Go.Proofs.Ytiejjjbnhkdfeaa
