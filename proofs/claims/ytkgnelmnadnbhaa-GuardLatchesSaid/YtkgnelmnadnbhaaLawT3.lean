/- GuardLatches: a tick's variables. -/
import Derived.Test.YtkgnelmnadnbhaaLawM
import Derived.Deep.DeepCutAuto
namespace Go.Proofs.Ytkgnelmnadnbhaa
set_option linter.unusedVariables false
open Go.RowKit

/-- the pieces of the law's loop -/
def bd : List Nat := [1, 1, 1, 1, 1, 1, 1, 1, 1, 1, 1, 0, 1, 0, 0, 1, 0, 0]
/-- the variables, behind k of them -/
def valsTo (zs : List Int) (k : Nat) : Array Value := #[.int .i64 (if 0 < k then valAt zs 0 else 5), .int .i64 (if 1 < k then valAt zs 1 else 5), .int .i64 (if 2 < k then valAt zs 2 else 5)]
set_option maxRecDepth 1000000 in
set_option maxHeartbeats 1000000 in
theorem law_vals (C : Cx) (hC : C.Ok) (V quiet i vb : Nat) (lv tv : Value) (hi : i < C.nL) (W0 : World) (hW0 : W0.heap[vb]? = some (.cells #[.int .i64 5, .int .i64 5, .int .i64 5] 3)) (hvb : C.w0.heap.size ≤ vb) (hb : Below C.w0.heap.size C.w0 W0) :
    Tri Try.prog 332 (pieceOf Try.f3 [1, 1, 1, 1, 1, 1, 1, 1, 1, 1, 1, 0, 1, 0, 0, 1, 0, 0, 1, 0, 1]) (fun y w => SL C y V lv tv quiet i ∧ y 20 = .slice (some ⟨vb, 0, none⟩) 3 3 ∧ y 21 = .int .i64 0 ∧ w = W0)
      (fun _ _ y w => SL C y V lv tv quiet i ∧ y 20 = .slice (some ⟨vb, 0, none⟩) 3 3 ∧ w.heap[vb]? = some (.cells (vz (valsOf (C.lk i).zs)).toArray 3) ∧ W0.grownBy w (some vb)) := by
  rintro Q y w ⟨hS, h20, h21, rfl⟩ hQ
  have hl := hC.lk.below hb
  obtain ⟨lb, lo, hla, hlb, hlc⟩ := hl.mem (by omega)
  obtain ⟨hrd, hz⟩ := hC.lk.rd i hi
  obtain ⟨c0, _, _⟩ := hlc i hi
  have hlen : (C.lk i).zs.length = (C.lk i).n := by have := hrd.len; rwa [vz_len] at this
  have hLb : lb < C.w0.heap.size := by
    obtain ⟨lb2, lo2, h1, h2, _⟩ := hC.lk.mem (by omega)
    rw [hla] at h1
    cases h1
    exact h2
  obtain ⟨s4, s11, s13, s15, s16, s17, s18, s19⟩ := hS
  rw [hla] at s4
  have HQ := hid hQ
  have Hla := hid hla
  clear hQ hlc hla
  obtain ⟨za, zn, zc, zs, hd, lv_, hlk⟩ : ∃ a n c zs h l, C.lk i = ⟨a, n, c, zs, h, l⟩ := ⟨_, _, _, _, _, _, rfl⟩
  have Hlk := hid hlk
  rw [hlk] at c0 hrd hlen hz
  dsimp only at c0 hrd hlen hz
  have Hrd := hid hrd
  have Hz := hid hz
  have Hlen := hid hlen
  have hnm : zn ≤ maxLen := Nat.le_trans hrd.le hrd.max
  have hiL : i < 300 := Nat.lt_of_lt_of_le hi hC.n300
  unfold maxLen at hnm
  clear hlk hrd hz hlen
  conv => arg 2; whnf
  rw [fr332]
  simp only [s4, s11, s13, s15, s16, s17, s18, s19, h20, h21]
  clear s4 s11 s13 s15 s16 s17 s18 s19 h20 h21
  go_wp2_with fail
  refine wp_loop_fr 332 (fun y' W => ∃ k : Nat, k ≤ 3 ∧ k ≤ zn ∧ SL C y' V lv tv quiet i ∧ y' 20 = .slice (some ⟨vb, 0, none⟩) 3 3 ∧ y' 21 = .int .i64 (k : Int) ∧ W.heap[vb]? = some (.cells (valsTo zs k) 3) ∧ w.grownBy W (some vb)) (fun y' _ => 3 - (intOf (y' 21)).toNat)
    ⟨rfl, rfl, 0, by omega, by omega, ⟨by rw [Hla.out]; rfl, rfl, rfl, rfl, rfl, rfl, rfl, rfl⟩, rfl, rfl, hW0, World.grownBy.refl _ _⟩ ?_
  rintro z W ⟨k, hk3, hkn, hS, z20, z21, hrow, hg⟩
  obtain ⟨s4, s11, s13, s15, s16, s17, s18, s19⟩ := hS
  rw [Hla.out] at s4
  rw [fr332]
  simp only [s4, s11, s13, s15, s16, s17, s18, s19, z20, z21]
  clear s4 s11 s13 s15 s16 s17 s18 s19 z20 z21
  have c1 : W.cell? ⟨lb, lo + i * 3, none⟩ = some (.slice za zn zc) := by
    have hb2 : Below C.w0.heap.size w W := ⟨hg.os, hg.tape, hg.output, hg.size, fun j hj => hg.block j (by have := hb.size; omega) (fun e => by cases e; omega)⟩
    exact (hb2.cell (p := ⟨lb, lo + i * 3, none⟩) hLb).trans c0
  by_cases hlt : k < zn ∧ k < 3
  · obtain ⟨h1, h2⟩ := hlt
    obtain ⟨zb, zo, rfl, hzb, hzc⟩ := Hrd.out.cellz k h1
    have c2 : W.cell? ⟨zb, zo + k, none⟩ = some (.int .i64 (zs.getD k 0)) := by
      have hb2 : Below C.w0.heap.size w W := ⟨hg.os, hg.tape, hg.output, hg.size, fun j hj => hg.block j (by have := hb.size; omega) (fun e => by cases e; omega)⟩
      exact ((hb.trans hb2).cell (p := ⟨zb, zo + k, none⟩) hzb).trans hzc
    obtain ⟨g1, g2⟩ := getD_i64 Hz.out k
    have hval : Hid (valAt zs k = (pk (zs.getD k 0) 20 : Int) - 5) := by unfold Hid valAt; rw [if_pos ⟨by rw [Hlen.out]; exact h1, h2⟩]
    have hset : Hid ((W.setCell ⟨vb, k, none⟩ (.int .i64 (valAt zs k))).heap[vb]? = some (.cells (valsTo zs (k + 1)) 3) ∧ w.grownBy (W.setCell ⟨vb, k, none⟩ (.int .i64 (valAt zs k))) (some vb)) := by
      obtain ⟨q1, q2⟩ := set_row (cs' := valsTo zs (k + 1)) hrow k (.int .i64 (valAt zs k)) (by
        unfold valsTo
        rcases (show k = 0 ∨ k = 1 ∨ k = 2 by omega) with rfl | rfl | rfl <;> rfl)
      exact ⟨q1, grownBy_trans hg q2⟩
    rw [hval.out] at hset
    have hp := pk_lt (zs.getD k 0) 20 (by decide)
    have c3 : ∃ v, W.cell? ⟨vb, k, none⟩ = some v := by
      rw [cell_of_row _ _ _ _ _ _ hrow]
      unfold valsTo
      rcases (show k = 0 ∨ k = 1 ∨ k = 2 by omega) with rfl | rfl | rfl <;> exact ⟨_, rfl⟩
    obtain ⟨v3, c3⟩ := c3
    have f3 := frozen_row hrow k
    have d1 : decide ((k : Int) < (zn : Int)) = true := decide_eq_true (by omega)
    have d2 : decide ((k : Int) < 3) = true := decide_eq_true (by omega)
    have hpk := pick_st (zs.getD k 0) 20 W g1 g2 (by decide) (by decide)
    rw [show (20 : Int).toNat = 20 from rfl] at hpk
    clear hrow hg hval g1 g2
    generalize pk (zs.getD k 0) 20 = pv at *
    generalize zs.getD k 0 = zk at *
    go_wp2_with fail
    refine hpk.mono ?_
    rintro e w' ⟨rfl, hw'⟩
    rw [hw']
    clear hw' w'
    go_wp2_with fail
    refine ⟨rfl, rfl, ⟨k + 1, by omega, by omega, ⟨by rw [Hla.out]; rfl, rfl, rfl, rfl, rfl, rfl, rfl, rfl⟩, rfl, ?_, hset.out.1, hset.out.2⟩, ?_⟩
    · show Value.int .i64 _ = Value.int .i64 _
      go_num
    · show 3 - (intOf (Value.int .i64 _)).toNat < _
      simp [intOf]
      omega
  · have hfin : Hid (W.heap[vb]? = some (.cells (vz (valsOf zs)).toArray 3)) := by
      have e : valsTo zs k = (vz (valsOf zs)).toArray := by
        have hge : ∀ j, j < 3 → (if j < k then valAt zs j else 5) = valAt zs j := fun j hj => by
          by_cases h : j < k
          · rw [if_pos h]
          · rw [if_neg h]
            unfold valAt
            rw [if_neg (fun h2 => by have := Hlen.out; omega)]
        unfold valsTo
        rw [hge 0 (by omega), hge 1 (by omega), hge 2 (by omega)]
        rfl
      rw [← e]
      exact hrow
    clear hrow
    have HQ := HQ
    by_cases h1 : k < zn
    · have d1 : decide ((k : Int) < (zn : Int)) = true := decide_eq_true (by omega)
      have d2 : decide ((k : Int) < 3) = false := decide_eq_false (by omega)
      clear hlt
      go_wp2_with fail
      refine q_fr (N := 332) HQ.out rfl ⟨⟨by rw [Hla.out]; rfl, rfl, rfl, rfl, rfl, rfl, rfl, rfl⟩, rfl, by rw [Hlk.out]; exact hfin.out, hg⟩
    · have d1 : decide ((k : Int) < (zn : Int)) = false := decide_eq_false (by omega)
      clear hlt
      go_wp2_with fail
      refine q_fr (N := 332) HQ.out rfl ⟨⟨by rw [Hla.out]; rfl, rfl, rfl, rfl, rfl, rfl, rfl, rfl⟩, rfl, by rw [Hlk.out]; exact hfin.out, hg⟩
end Go.Proofs.Ytkgnelmnadnbhaa
