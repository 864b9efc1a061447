/- product: all x + Power(j), put together. -/
import Derived.Test.YtendgihkjibbaaaTimesS
namespace Go.Proofs.Ytendgihkjibbaaa
set_option linter.unusedVariables false
open Go.RowKit

/-- product's rounds -/
def prodTo : Nat → List Nat
  | 0 => [1]
  | n + 1 => tms (prodTo n) (Gf.gp (n + 1))
theorem prodTo_len : ∀ n, (prodTo n).length = n + 1
  | 0 => rfl
  | n + 1 => by rw [prodTo, tms_len, prodTo_len n]
theorem prodTo_all : ∀ n, AllB (prodTo n)
  | 0 => fun x hx => by simp [prodTo] at hx; omega
  | n + 1 => tms_all (prodTo_all n) (Gf.gp_lt _)
theorem Rd.tail {w : World} {g n c : Nat} {bs : List Nat} (h : Rd w (some ⟨g, 0, none⟩) (n + 1) c (vb bs)) : Rd w (some ⟨g, 1, none⟩) n (c - 1) (vb bs.tail) := by
  rw [← List.drop_one]
  have hl := h.len
  rw [vb_len] at hl
  have h1 := h.le
  have h2 := h.max
  refine ⟨by rw [vb_len, List.length_drop, hl]; rfl, by omega, by omega, (fun h => by cases h), fun hn => ?_⟩
  obtain ⟨b, off, ha, hlt, hc⟩ := h.mem (by omega)
  cases ha
  refine ⟨g, 1, rfl, hlt, fun j hj => ?_⟩
  have h3 := hc (1 + j) (by omega)
  rw [Nat.zero_add] at h3
  rw [h3]
  unfold vb
  rw [List.getElem?_map, List.getElem?_map, List.getElem?_drop]

set_option maxRecDepth 100000 in
theorem product_ok (n : Nat) (w : World) (hn1 : 1 ≤ n) (hn : n ≤ 64) :
    Calls Try.prog 19 #[.int .i64 (n : Int)] w fun e w' => ∃ ao c, e = .returned (.slice ao n c) ∧ Rd w' ao n c (vb ((prodTo n).tail)) ∧ Below w.heap.size w w' := by
  obtain ⟨i0, hi, hz0, hz1, hz2⟩ := info_parts Try.info5
  go_enter Try.func19, Try.ntmps19
  go_wp2
  go_loopw [3, 10] (fun p j wr => ∃ k g c : Nat, k ≤ n ∧ j = .int .i64 k ∧ p = .slice (some ⟨g, 0, none⟩) (k + 1) c ∧ wr.ownsRow w.heap.size 5 1 (.slice (some ⟨g, 0, none⟩) (k + 1) c) (k + 1) (vb (prodTo k)) ∧ Below w.heap.size w wr) (fun _ j _ => n - (intOf j).toNat)
  case atStart =>
    refine ⟨0, w.heap.size, 1, by omega, rfl, rfl, ?_, below_alloc _ _⟩
    exact World.ownsRow_lit (base := w.heap.size) (e := 5) (size := 1) w #[.int .u8 ((1 : Nat) : Int)] 1 (Nat.le_refl _) (by decide) rfl
  case round =>
    obtain ⟨k, g0, c0, hk, rfl, rfl, ho0, B0⟩ := hrel
    by_cases hlt : k < n
    · have hp := Rd.ofOwn ho0
      have hpb := prodTo_all k
      have Hpl := hid (prodTo_len k)
      have Hps : Hid (prodTo (k + 1) = tms (prodTo k) (Gf.gp (k + 1))) := rfl
      obtain ⟨g0', e0', hg01, hg02⟩ := some_own ho0 (by omega)
      cases e0'
      have hG := Gf.gp_lt (k + 1)
      have hpow := fun u => pow_st ((k : Int) + 1) (k + 1) u (by omega) (by omega) (by omega)
      generalize prodTo k = ps at *
      generalize hps' : prodTo (k + 1) = ps' at *
      have Hps' := hid hps'
      clear hps'
      go_wp2_with fail
      refine (clone_any _ (k + 1) _ ps wr hp (by omega)).mono ?_
      rintro e W1 ⟨qa, qc, rfl, o1, B1⟩
      go_wp2_with (at_builtin; refine hold ?_)
      unfold Hid
      refine wpList_append_rd rfl _ _ 22 rfl wr.heap.size 5 i0 (.int .u8 0) 1 Try.underlying22 hi hz0 hz1 hz2 rfl qa (k + 1) qc _ rfl (ownsRow_below o1 (below_alloc _ _)) (some ⟨W1.heap.size, 0, none⟩) 1 1 (vb [0]) rfl ?c1 (vb_oneCell _) (by omega) (by unfold maxLen; omega) (by have := B1.size; simp; omega) ?_
      case c1 => exact rd_lit W1 0
      intro ga c W2 o2 gr B
      obtain ⟨g, rfl, hg1, hg2⟩ := some_own o2 (by omega)
      rw [← vb_append] at o2
      have B2 := (B1.alloc B1.size _).trans B
      clear gr B o1
      have hp2 := hp.below B2
      have hne : ∀ b off, 0 < k + 1 → some (⟨g0, 0, none⟩ : Addr) = some ⟨b, off, none⟩ → b ≠ g := fun b off h0 h => by cases h; omega
      have hne' : g0 ≠ g := by omega
      clear B1
      go_wp2
      go_loopw [19] (fun i wq => ∃ m : Nat, m ≤ k + 1 ∧ i = .int .i64 m ∧ wq.ownsRow wr.heap.size 5 1 (.slice (some ⟨g, 0, none⟩) (k + 1 + 1) c) (k + 1 + 1) (vb (addTo (ps ++ [0]) ps (Gf.gp (k + 1)) 1 m)) ∧ W2.grownBy wq (some g)) (fun i _ => k + 1 - (intOf i).toNat)
      case atStart => exact ⟨0, by omega, rfl, o2, World.grownBy.refl _ _⟩
      case round =>
        obtain ⟨m, hm, rfl, ho, hg⟩ := hrel
        by_cases hltm : m < k + 1
        · obtain ⟨b, off, e0, hbl, hcell⟩ := (hp2.grown hg (fun b off h0 hh e => by cases e; exact hne _ _ h0 hh rfl)).cell m hltm
          cases e0
          rw [Nat.zero_add] at hcell
          have hb256 := nth_lt hpb m
          have hall := addTo_all (qs := ps) (c := Gf.gp (k + 1)) (at_ := 1) (allb_snoc hpb (by decide : (0 : Nat) < 256)) hG m
          have hlen := addTo_len (ps ++ [0]) ps (Gf.gp (k + 1)) 1 m
          have hpl : (ps ++ [0]).length = k + 1 + 1 := by rw [List.length_append, Hpl.out]; rfl
          have hpc : wr.cell? ⟨g, m + 1, none⟩ = some (.int .u8 (nth (addTo (ps ++ [0]) ps (Gf.gp (k + 1)) 1 m) (1 + m))) := by
            rw [Nat.add_comm m 1, ho.cellAt (1 + m) (by omega), vb_get _ _ (by omega)]
          have hpf : wr.frozen? ⟨g, m + 1, none⟩ = false := ho.frozenAt _
          have hp256 := nth_lt hall (1 + m)
          generalize hGG : Gf.gp (k + 1) = G at *
          have HGG := hid hGG
          clear hGG
          generalize hx : nth (addTo (ps ++ [0]) ps G 1 m) (1 + m) = x at *
          generalize hy : nth ps m = y at *
          have Hx := hid hx
          have Hy := hid hy
          clear hx hy hlen hpl
          go_wp2
          have s1 : IntKind.i64.wrap ((m : Int) + 1) = (m : Int) + 1 := IntWalk.i64_in _ (by omega)
          have t1 : IntKind.i64.wrap ((k : Int) + 1) = (k : Int) + 1 := IntWalk.i64_in _ (by omega)
          have s2 : (0 : Int) ≤ (m : Int) + 1 := by omega
          have s3 : (m : Int) + 1 < ((k + 1 + 1 : Nat) : Int) := by omega
          have s4 : ((m : Int) + 1).toNat = m + 1 := by omega
          have hm := Gf.mul_lt G y hG
          have s5 := u8_xor_nat x (Gf.mul G y) (by omega) (by omega)
          refine wp_region_still_tail 12 (by kernel_rfl) (by kernel_rfl) ?_
          simp only [List.take_succ_cons, List.take_zero, List.drop_succ_cons, List.drop_zero]
          repeat still_step
          still_call (hpow _)
          repeat still_step
          still_call (mul_ts y G _ (by omega) (by omega))
          repeat still_step
          refine wpStill_nil ?_
          change wpList _ _ _ _ _ wr.drew
          clear s1 s2 s3 s4 t1
          go_wp2
          go_roundw
          case rel =>
            have h := (ho.drew.stored (1 + m) (.int .u8 ((x ^^^ Gf.mul G y : Nat) : Int)))
            rw [vb_set, ← Hx.out, ← Hy.out] at h
            rw [← Hx.out, ← Hy.out, Nat.add_comm m 1]
            exact ⟨m + 1, by omega, by go_num, h.1, grownBy_trans (grownBy_trans hg (grownBy_drew _ _)) h.2⟩
          case measure => simp [intOf]; omega
        · obtain rfl : m = k + 1 := by omega
          go_wp2
          go_roundw
          case rel => exact ⟨k + 1, g, c, by omega, by go_num, rfl, by rw [Hps'.out, Hps.out]; unfold tms; rw [Hpl.out]; exact ownsRow_mono ho B0.size, (B0.trans (below_of_grown B2 hg hg1 |>.mono B0.size))⟩
          case measure => simp [intOf]; omega
    · obtain rfl : k = n := by omega
      have hcap := (Rd.ofOwn ho0).le
      have hc1 : ¬c0 = 1 := by omega
      go_wp2
      go_ret
      exact ⟨some ⟨g0, 1, none⟩, c0 - 1, rfl, (Rd.ofOwn ho0).tail, B0⟩
end Go.Proofs.Ytendgihkjibbaaa
