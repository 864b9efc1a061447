/- frame: Pack's closure. -/
import Derived.Test.YtjiipmalahhcpaaCarries12
namespace Go.Proofs.Ytjiipmalahhcpaa
set_option linter.unusedVariables false
open Go.RowKit

def PbI (W0 : World) (B X n k : Nat) (dn : Nat) (ds : List Nat) (y : Nat → Value) (W : World) : Prop :=
  ∃ (j : Nat) (da : Option Addr) (dc : Nat), j ≤ k ∧ y 0 = .int .i64 (n : Int) ∧ y 1 = .int .i64 (k : Int) ∧ y 2 = .pointer (some ⟨X, 0, none⟩) ∧ y 5 = .int .i64 ((k : Int) - 1 - (j : Int)) ∧ BX W B X da (dn + j) dc (ds ++ beB n k j) ∧ Below B W0 W
structure PbR (W0 W : World) (B X n k dn : Nat) (ds : List Nat) (e : Ending) : Prop where
  e : e = .returned (.tuple #[])
  ex : ∃ da dc, BX W B X da (dn + k) dc (ds ++ beB n k k)
  blw : Below B W0 W
set_option maxRecDepth 1000000 in
set_option maxHeartbeats 4000000 in
theorem pb_ok (B X n k : Nat) (da : Option Addr) (dn dc : Nat) (ds : List Nat) (W0 : World) (hk : k ≤ 4) (hn : n < 4294967296) (hM : BX W0 B X da dn dc ds) (hB : B ≤ W0.heap.size) (hX : B ≤ X) (hdn : dn ≤ 3900) :
    Calls Try.prog 37 #[.int .i64 (n : Int), .int .i64 (k : Int), .pointer (some ⟨X, 0, none⟩)] W0 fun e w' => PbR W0 w' B X n k dn ds e := by
  have HM := hid hM
  have w0 : IntKind.i64.wrap ((k : Int) - 1) = (k : Int) - 1 := IntWalk.i64_in _ (by omega)
  clear hM
  go_enter Try.func37, Try.ntmps37
  refine wp_seq_k (fun K0 hK0 => ?_)
  go_wp2_with fail
  refine hK0.out _ _ ?_
  clear w0
  refine wp_block ?_
  refine wp_loop_fr 20 (PbI W0 B X n k dn ds) (fun y' _ => (intOf (y' 5) + 1).toNat) ⟨rfl, rfl, 0, da, dc, Nat.zero_le _, rfl, rfl, rfl, by show Value.int .i64 _ = Value.int .i64 _; congr 1; omega, by rw [show beB n k 0 = [] from rfl, List.append_nil]; exact HM.out, Below.refl _ _⟩ ?_
  clear HM
  rintro z W ⟨j, da, dc, hj, s0, s1, s2, s5, hM, hb⟩
  have HM := hid hM
  have Hb := hid hb
  clear hM hb
  rw [fr20]
  simp only [s0, s1, s2, s5]
  clear s0 s1 s2 s5
  by_cases hlt : j < k
  · obtain ⟨i, hi⟩ : ∃ i, i = k - 1 - j := ⟨_, rfl⟩
    have e1 : (k : Int) - 1 - (j : Int) = (i : Int) := by omega
    rw [e1]
    have d1 : decide ((0 : Int) ≤ (i : Int)) = true := decide_eq_true (by omega)
    have hr := hid (pb_r B X n i k da (dn + j) dc (ds ++ beB n k j) W (by omega) hn HM.out (Nat.le_trans hB Hb.out.size) hX (by omega))
    have hse : Hid (ds ++ beB n k j ++ [n / 256 ^ i % 256] = ds ++ beB n k (j + 1)) := by unfold Hid; rw [beB_succ, List.append_assoc, hi]
    have w1 : IntKind.i64.wrap ((i : Int) - 1) = (i : Int) - 1 := IntWalk.i64_in _ (by omega)
    have hi2 : Hid (i + 1 + j = k) := by unfold Hid; omega
    clear e1 hi HM
    refine wp_seq_k (fun K1 hK1 => ?_)
    go_wp2_with fail
    refine hK1.out _ _ ?_
    refine wp_seq_k (fun K2 hK2 => ?_)
    refine wp_block ?_
    refine Tri.use hr.out rfl ⟨rfl, rfl, rfl, rfl, rfl⟩ ?_
    rintro y3 W3 ⟨s0, s1, s2, s5, da3, dc3, hM3, hb3⟩
    refine hK2.out _ _ ?_
    have HM3 := hid hM3
    have HB3 := hid (Hb.out.trans hb3)
    clear hM3 hb3 hr
    rw [fr20]
    simp only [s0, s1, s2, s5]
    clear s0 s1 s2 s5
    go_wp2_with fail
    refine ⟨rfl, rfl, ⟨j + 1, da3, dc3, by omega, rfl, rfl, rfl, ?_, by rw [← hse.out]; exact HM3.out, HB3.out⟩, ?_⟩
    · show Value.int .i64 _ = Value.int .i64 _
      congr 1
      have := hi2.out
      omega
    · show ((i : Int) - 1 + 1).toNat < _
      show ((i : Int) - 1 + 1).toNat < ((i : Int) + 1).toNat
      omega
  · obtain rfl : j = k := by omega
    have e1 : (j : Int) - 1 - (j : Int) = -1 := by omega
    rw [e1]
    clear e1
    refine wp_seq_k (fun K1 hK1 => ?_)
    go_wp2_with fail
    go_end0
    exact ⟨rfl, ⟨da, dc, HM.out⟩, Hb.out⟩
end Go.Proofs.Ytjiipmalahhcpaa
/- frame: Pack. -/
namespace Go.Proofs.Ytjiipmalahhcpaa
set_option linter.unusedVariables false
open Go.RowKit

def bodyF (cr ch ma ow fi : Nat) (data : List Nat) (st : Nat) : List Nat :=
  beB (cr * 16 + ch * 2 + 1) 2 2 ++ beB ma 1 1 ++ beB ow 1 1 ++ beB (6144 + fi) 2 2 ++ data ++ beB st 4 4
def frameB (cr ch ma ow fi : Nat) (data : List Nat) (st : Nat) : List Nat := bodyF cr ch ma ow fi data st ++ beB (sumN (bodyF cr ch ma ow fi data st)) 2 2
theorem bodyF_all (cr ch ma ow fi : Nat) (data : List Nat) (st : Nat) (h : AllB data) : AllB (bodyF cr ch ma ow fi data st) := by
  unfold bodyF
  exact (((((beB_all _ _ _).append (beB_all _ _ _)).append (beB_all _ _ _)).append (beB_all _ _ _)).append h).append (beB_all _ _ _)
theorem bodyF_len (cr ch ma ow fi : Nat) (data : List Nat) (st : Nat) : (bodyF cr ch ma ow fi data st).length = 10 + data.length := by
  unfold bodyF
  simp only [List.length_append, beB_len]
  omega
theorem frameB_len (cr ch ma ow fi : Nat) (data : List Nat) (st : Nat) : (frameB cr ch ma ow fi data st).length = 12 + data.length := by
  unfold frameB
  rw [List.length_append, bodyF_len, beB_len]
  omega
structure PackR (W0 W : World) (n : Nat) (bs : List Nat) (e : Ending) : Prop where
  ex : ∃ da dc, e = .returned (.tuple #[.slice da (12 + n) dc, .int .i64 0]) ∧ W.ownsRow W0.heap.size 5 1 (.slice da (12 + n) dc) (12 + n) (vb bs)
  blw : Below W0.heap.size W0 W
theorem head_or (cr ch : Nat) (h1 : cr ≤ 1023) (h2 : ch ≤ 7) : bits .or .i64 (bits .or .i64 ((cr : Int) * 16) ((ch : Int) * 2)) 1 = ((cr * 16 + ch * 2 + 1 : Nat) : Int) := by
  have e1 : bits .or .i64 ((cr : Int) * 16) ((ch : Int) * 2) = ((cr * 16 + ch * 2 : Nat) : Int) := by
    have h := i64_or_nat (cr * 16) (ch * 2) (by omega) (by omega)
    rw [or_add cr (ch * 2) 4 (by omega)] at h
    rw [← h]
    congr 1
  rw [e1]
  have h := i64_or_nat (cr * 16 + ch * 2) 1 (by omega) (by decide)
  rw [show cr * 16 + ch * 2 = (cr * 8 + ch) * 2 ^ 1 by omega, or_add (cr * 8 + ch) 1 1 (by decide)] at h
  rw [show cr * 16 + ch * 2 = (cr * 8 + ch) * 2 ^ 1 by omega]
  exact h
theorem first_or (fi : Nat) (h : fi ≤ 2047) : bits .or .i64 6144 (fi : Int) = ((6144 + fi : Nat) : Int) := by
  have h1 := i64_or_nat (3 * 2 ^ 11) fi (by decide) (by omega)
  rw [or_add 3 fi 11 (by omega)] at h1
  exact h1
set_option maxRecDepth 1000000 in
set_option maxHeartbeats 8000000 in
theorem pack_ok (cr ch ma ow fi : Nat) (aa : Option Addr) (n ac : Nat) (data : List Nat) (st : Nat) (W0 : World) (h1 : cr ≤ 1023) (h2 : ch ≤ 7) (h3 : ma ≤ 255) (h4 : ow ≤ 255) (h5 : fi ≤ 2047) (h6 : st ≤ 4294967295) (hd : Rd W0 aa n ac (vb data)) (ha : AllB data) (hn1 : 1 ≤ n) (hn2 : n ≤ 2036) :
    Calls Try.prog 23 #[.agg #[.int .i64 (cr : Int), .int .i64 (ch : Int), .int .i64 (ma : Int), .int .i64 (ow : Int), .int .i64 (fi : Int)], .slice aa n ac, .int .i64 (st : Int)] W0 fun e w' => PackR W0 w' n (frameB cr ch ma ow fi data st) e := by
  have hdl : data.length = n := by have := hd.len; rwa [vb_len] at this
  have b1 := below_alloc W0 (.cells #[.int .i64 (cr : Int), .int .i64 (ch : Int), .int .i64 (ma : Int), .int .i64 (ow : Int), .int .i64 (fi : Int)] 46)
  have r1 := heap_alloc_new W0 (.cells #[.int .i64 (cr : Int), .int .i64 (ch : Int), .int .i64 (ma : Int), .int .i64 (ow : Int), .int .i64 (fi : Int)] 46)
  have z1 : Hid ((W0.alloc (.cells #[.int .i64 (cr : Int), .int .i64 (ch : Int), .int .i64 (ma : Int), .int .i64 (ow : Int), .int .i64 (fi : Int)] 46)).heap.size = W0.heap.size + 1) := World.size_alloc _ _
  obtain ⟨P, hP⟩ : ∃ P, P = W0.heap.size := ⟨_, rfl⟩
  rw [← hP] at r1 b1 z1
  have HP := hid hP
  have HD := hid hd
  have HA := hid ha
  have Hdl := hid hdl
  have R1 := hid r1
  have B1 := hid b1
  have hh := head_or cr ch h1 h2
  have hf := first_or fi h5
  obtain ⟨q0, hq0⟩ : ∃ q, q = cr * 16 + ch * 2 + 1 := ⟨_, rfl⟩
  obtain ⟨q1, hq1⟩ : ∃ q, q = 6144 + fi := ⟨_, rfl⟩
  rw [← hq0] at hh
  rw [← hq1] at hf
  have hq0l : q0 < 16384 := by omega
  have hq1l : q1 < 8192 := by omega
  have HFr : Hid (frameB cr ch ma ow fi data st = (beB q0 2 2 ++ beB ma 1 1 ++ beB ow 1 1 ++ beB q1 2 2 ++ data ++ beB st 4 4) ++ beB (sumN (beB q0 2 2 ++ beB ma 1 1 ++ beB ow 1 1 ++ beB q1 2 2 ++ data ++ beB st 4 4)) 2 2) := by
    unfold Hid frameB bodyF
    rw [hq0, hq1]
  clear hq0 hq1
  clear hP hd ha hdl r1 b1
  go_enter Try.func23, Try.ntmps23
  refine wp_seq_k (fun K0 hK0 => ?_)
  go_wp2_with fail
  rw [← HP.out]
  refine hK0.out _ _ ?_
  generalize W0.alloc (.cells #[.int .i64 (cr : Int), .int .i64 (ch : Int), .int .i64 (ma : Int), .int .i64 (ow : Int), .int .i64 (fi : Int)] 46) = W1 at *
  have p0 : W1.cell? ⟨P, 0, none⟩ = some (.int .i64 (cr : Int)) := by rw [cell_of_row _ _ _ _ _ _ R1.out]; rfl
  have p1 : W1.cell? ⟨P, 1, none⟩ = some (.int .i64 (ch : Int)) := by rw [cell_of_row _ _ _ _ _ _ R1.out]; rfl
  have p2 : W1.cell? ⟨P, 2, none⟩ = some (.int .i64 (ma : Int)) := by rw [cell_of_row _ _ _ _ _ _ R1.out]; rfl
  have p3 : W1.cell? ⟨P, 3, none⟩ = some (.int .i64 (ow : Int)) := by rw [cell_of_row _ _ _ _ _ _ R1.out]; rfl
  have p4 : W1.cell? ⟨P, 4, none⟩ = some (.int .i64 (fi : Int)) := by rw [cell_of_row _ _ _ _ _ _ R1.out]; rfl
  refine wp_seq_k (fun K1 hK1 => ?_)
  go_wp2_with ((go_at_call 19; refine (in_f _ _ _ (by omega) (by omega)).mono ?_; rintro e w' ⟨rfl, hw'⟩; rw [hw']; clear hw' w'))
  refine hK1.out _ _ ?_
  clear p0 p1 p2 p3 p4
  obtain ⟨m, hm⟩ : ∃ m, m = 12 + n := ⟨_, rfl⟩
  have a1 : (6 : Int) + (n : Int) + 6 = (m : Int) := by omega
  have a2 : (6 : Int) + (n : Int) = ((6 + n : Nat) : Int) := by omega
  have a3 : ((6 + n : Nat) : Int) + 6 = (m : Int) := by omega
  have w1 : IntKind.i64.wrap ((6 + n : Nat) : Int) = ((6 + n : Nat) : Int) := IntWalk.i64_in _ (by omega)
  have w2 : IntKind.i64.wrap (m : Int) = (m : Int) := IntWalk.i64_in _ (by omega)
  have d1 : decide ((m : Int) < 13) = false := decide_eq_false (by omega)
  have d2 : decide ((2048 : Int) < (m : Int)) = false := decide_eq_false (by omega)
  have d3 : decide (m < 13) = false := decide_eq_false (by omega)
  have d4 : decide (2048 < m) = false := decide_eq_false (by omega)
  generalize 6 + n = n6 at *
  have hmk := run_mk0 m (by omega) W1
  have Hm := hid hm
  clear hm
  refine wp_seq_k (fun K2 hK2 => ?_)
  go_wp2_with fail
  refine hK2.out _ _ ?_
  clear d1 d2 d3 d4
  have b2 := below_alloc W1 (.cells (madeCells #[.int .u8 0] (m * 1)) 5)
  have o2 : (W1.alloc (.cells (madeCells #[.int .u8 0] (m * 1)) 5)).ownsRow (P + 1) 5 1 (.slice (some ⟨W1.heap.size, 0, none⟩) 0 m) 0 [] := World.ownsRow_made W1 _ m (by rw [z1.out]; exact Nat.le_refl _) (by unfold maxLen; omega) (by rw [size_madeCells, Nat.mul_one])
  rw [z1.out] at o2 b2
  have z2 : Hid ((W1.alloc (.cells (madeCells #[.int .u8 0] (m * 1)) 5)).heap.size = P + 2) := by unfold Hid; rw [World.size_alloc, z1.out]
  rw [z1.out] at hmk
  generalize madeCells #[.int .u8 0] (m * 1) = MB at *
  have O2 := hid o2
  have B2 := hid b2
  clear o2 b2
  refine wp_seq_k (fun K3 hK3 => ?_)
  go_wp2_with fail
  refine hK3.out _ _ ?_
  have b3 := below_alloc (W1.alloc (.cells MB 5)) (.cells #[.slice (some ⟨P + 1, 0, none⟩) 0 m] 33)
  have r3 := heap_alloc_new (W1.alloc (.cells MB 5)) (.cells #[.slice (some ⟨P + 1, 0, none⟩) 0 m] 33)
  rw [z2.out] at r3 b3
  rw [show W1.heap.size + 1 = P + 2 by rw [z1.out]]
  have M0 : Hid (BX ((W1.alloc (.cells MB 5)).alloc (.cells #[.slice (some ⟨P + 1, 0, none⟩) 0 m] 33)) (P + 1) (P + 2) (some ⟨P + 1, 0, none⟩) 0 m []) := ⟨r3, ownsRow_below O2.out (b3.mono (Nat.le_of_eq z2.out))⟩
  have B3 := hid (B2.out.trans (b3.mono (Nat.le_succ (P + 1))))
  clear b3 r3 O2 B2 hmk
  generalize (W1.alloc (.cells MB 5)).alloc (.cells #[.slice (some ⟨P + 1, 0, none⟩) 0 m] 33) = V0 at *
  refine wp_seq_k (fun K4 hK4 => ?_)
  go_wp2_with fail
  refine hK4.out _ _ ?_
  have HR0 := hid (B3.out.block P (Nat.lt_succ_self P) |>.trans R1.out)
  have hp := pb_ok (P + 1) (P + 2) q0 2 (some ⟨P + 1, 0, none⟩) 0 m ([]) V0 (by decide) (by omega) M0.out (by have := B3.out.size; rw [z1.out] at this; exact this) (Nat.le_succ _) (by omega)
  rw [show ((2 : Nat) : Int) = 2 from rfl] at hp
  have p0 : V0.cell? ⟨P, 0, none⟩ = some (.int .i64 (cr : Int)) := by rw [cell_of_row _ _ _ _ _ _ HR0.out]; rfl
  have p1 : V0.cell? ⟨P, 1, none⟩ = some (.int .i64 (ch : Int)) := by rw [cell_of_row _ _ _ _ _ _ HR0.out]; rfl
  refine wp_seq_k (fun L0 hL0 => ?_)
  go_wp2_with fail
  refine hp.mono ?_
  rintro e V1 ⟨rfl, ⟨da1, dc1, hm1⟩, hb1⟩
  have M1 := hid hm1
  have C1 := hid (B3.out.trans hb1)
  have HR1 := hid ((hb1.block P (Nat.lt_succ_self P)).trans HR0.out)
  clear hp hm1 hb1 p0 p1
  go_wp2_with fail
  refine hL0.out _ _ ?_
  have hp := pb_ok (P + 1) (P + 2) ma 1 da1 (0 + 2) dc1 ([] ++ beB q0 2 2) V1 (by decide) (by omega) M1.out (by have := C1.out.size; rw [z1.out] at this; exact this) (Nat.le_succ _) (by omega)
  rw [show ((1 : Nat) : Int) = 1 from rfl] at hp
  have p2 : V1.cell? ⟨P, 2, none⟩ = some (.int .i64 (ma : Int)) := by rw [cell_of_row _ _ _ _ _ _ HR1.out]; rfl
  refine wp_seq_k (fun L1 hL1 => ?_)
  go_wp2_with fail
  refine hp.mono ?_
  rintro e V2 ⟨rfl, ⟨da2, dc2, hm2⟩, hb2⟩
  have M2 := hid hm2
  have C2 := hid (C1.out.trans hb2)
  have HR2 := hid ((hb2.block P (Nat.lt_succ_self P)).trans HR1.out)
  clear hp hm2 hb2 p2
  go_wp2_with fail
  refine hL1.out _ _ ?_
  have hp := pb_ok (P + 1) (P + 2) ow 1 da2 ((0 + 2) + 1) dc2 ([] ++ beB q0 2 2 ++ beB ma 1 1) V2 (by decide) (by omega) M2.out (by have := C2.out.size; rw [z1.out] at this; exact this) (Nat.le_succ _) (by omega)
  rw [show ((1 : Nat) : Int) = 1 from rfl] at hp
  have p3 : V2.cell? ⟨P, 3, none⟩ = some (.int .i64 (ow : Int)) := by rw [cell_of_row _ _ _ _ _ _ HR2.out]; rfl
  refine wp_seq_k (fun L2 hL2 => ?_)
  go_wp2_with fail
  refine hp.mono ?_
  rintro e V3 ⟨rfl, ⟨da3, dc3, hm3⟩, hb3⟩
  have M3 := hid hm3
  have C3 := hid (C2.out.trans hb3)
  have HR3 := hid ((hb3.block P (Nat.lt_succ_self P)).trans HR2.out)
  clear hp hm3 hb3 p3
  go_wp2_with fail
  refine hL2.out _ _ ?_
  have hp := pb_ok (P + 1) (P + 2) q1 2 da3 (((0 + 2) + 1) + 1) dc3 ([] ++ beB q0 2 2 ++ beB ma 1 1 ++ beB ow 1 1) V3 (by decide) (by omega) M3.out (by have := C3.out.size; rw [z1.out] at this; exact this) (Nat.le_succ _) (by omega)
  rw [show ((2 : Nat) : Int) = 2 from rfl] at hp
  have p4 : V3.cell? ⟨P, 4, none⟩ = some (.int .i64 (fi : Int)) := by rw [cell_of_row _ _ _ _ _ _ HR3.out]; rfl
  refine wp_seq_k (fun L3 hL3 => ?_)
  go_wp2_with fail
  refine hp.mono ?_
  rintro e V4 ⟨rfl, ⟨da4, dc4, hm4⟩, hb4⟩
  have M4 := hid hm4
  have C4 := hid (C3.out.trans hb4)
  have HR4 := hid ((hb4.block P (Nat.lt_succ_self P)).trans HR3.out)
  clear hp hm4 hb4 p4
  go_wp2_with fail
  refine hL3.out _ _ ?_
  obtain ⟨i5, hi5, hz5, hs5, hb5⟩ := info_parts Try.info5
  have hM4 : BX V4 (P + 1) (P + 2) da4 6 dc4 (beB q0 2 2 ++ beB ma 1 1 ++ beB ow 1 1 ++ beB q1 2 2) := M4.out
  have c0 : V4.cell? ⟨P + 2, 0, none⟩ = some (.slice da4 6 dc4) := by rw [cell_of_row _ _ _ _ _ _ hM4.bx]; rfl
  have hB04 : Below W0.heap.size W0 V4 := by rw [← HP.out]; exact B1.out.trans (C4.out.mono (Nat.le_succ P))
  have hdV := HD.out.below hB04
  refine wp_seq_k (fun K5 hK5 => ?_)
  go_wp2_with (at_builtin; refine hold ?_)
  unfold Hid
  refine wpList_append_rd rfl _ _ 33 rfl (P + 1) 5 i5 (.int .u8 0) 1 Try.underlying33 hi5 hz5 hs5 hb5 rfl da4 6 dc4 _ rfl hM4.dt aa n ac _ rfl hdV (vb_oneCell _) (by omega) (by unfold maxLen; omega) (by have := C4.out.size; rw [z1.out] at this; exact this) ?_
  intro da5 dc5 V5 o5 g5 hb5'
  have hX5 : V5.heap[P + 2]? = some (.cells #[.slice da4 6 dc4] 33) := (g5.block (P + 2) (row_lt hM4.bx) (fun e => by
    rcases own_ne hM4.dt hM4.bx (by decide) with h | h
    · rw [h] at e; cases e
    · exact h e.symm)).trans hM4.bx
  have c1 : V5.cell? ⟨P + 2, 0, none⟩ = some (.slice da4 6 dc4) := by rw [cell_of_row _ _ _ _ _ _ hX5]; rfl
  have fz := frozen_row hX5 0
  obtain ⟨m1, m2⟩ := set_row (cs' := #[.slice da5 (6 + n) dc5]) hX5 0 (.slice da5 (6 + n) dc5) rfl
  rw [← vb_append] at o5
  have M5 : Hid (BX (V5.setCell ⟨P + 2, 0, none⟩ (.slice da5 (6 + n) dc5)) (P + 1) (P + 2) da5 (6 + n) dc5 (beB q0 2 2 ++ beB ma 1 1 ++ beB ow 1 1 ++ beB q1 2 2 ++ data)) := ⟨m1, o5.kept m2 (own_ne o5 hX5 (by decide))⟩
  have hC5 := C4.out.trans hb5'
  have C5 := hid (hC5.grown m2 (by have := hC5.size; rw [z1.out] at this; exact this) (fun k e => by cases e; exact Nat.le_succ _))
  have HlV5 := hid (Nat.le_trans (by have := hC5.size; rw [z1.out] at this; exact this : P + 1 ≤ V5.heap.size) m2.size)
  obtain ⟨n6', hn6'⟩ : ∃ n6', n6' = 6 + n := ⟨_, rfl⟩
  rw [← hn6'] at M5 C5 HlV5 ⊢
  have Hn6 := hid hn6'
  have hn6l : n6' ≤ 2042 := by omega
  clear c0 hX5 m1 m2 o5 g5 hb5' hC5 hB04 hdV hM4 hn6' HR4
  go_wp2_with fail
  refine hK5.out _ _ ?_
  clear c1 fz
  generalize V5.setCell ⟨P + 2, 0, none⟩ (.slice da5 n6' dc5) = V6 at *
  have hp := pb_ok (P + 1) (P + 2) st 4 da5 n6' dc5 _ V6 (by decide) (by omega) M5.out HlV5.out (Nat.le_succ _) (by omega)
  rw [show ((4 : Nat) : Int) = 4 from rfl] at hp
  refine wp_seq_k (fun K6 hK6 => ?_)
  go_wp2_with fail
  refine hp.mono ?_
  rintro e V7 ⟨rfl, ⟨da7, dc7, hm7⟩, hb7⟩
  have M7 := hid hm7
  have C7 := hid (C5.out.trans hb7)
  clear hp hm7 hb7
  go_wp2_with fail
  refine hK6.out _ _ ?_
  have hall : AllB (beB q0 2 2 ++ beB ma 1 1 ++ beB ow 1 1 ++ beB q1 2 2 ++ data ++ beB st 4 4) := (((((beB_all _ _ _).append (beB_all _ _ _)).append (beB_all _ _ _)).append (beB_all _ _ _)).append HA.out).append (beB_all _ _ _)
  generalize beB q0 2 2 ++ beB ma 1 1 ++ beB ow 1 1 ++ beB q1 2 2 ++ data ++ beB st 4 4 = body at *
  have hsl := sumN_lt body hall
  have hsum := sum_st da7 (n6' + 4) dc7 body hall (by omega) V7 (Rd.ofOwn M7.out.dt)
  generalize sumN body = sm at *
  have hp := pb_ok (P + 1) (P + 2) sm 2 da7 (n6' + 4) dc7 body V7 (by decide) (by omega) M7.out (by have := C7.out.size; rw [z1.out] at this; exact this) (Nat.le_succ _) (by omega)
  rw [show ((2 : Nat) : Int) = 2 from rfl] at hp
  have c0 : V7.cell? ⟨P + 2, 0, none⟩ = some (.slice da7 (n6' + 4) dc7) := by rw [cell_of_row _ _ _ _ _ _ M7.out.bx]; rfl
  obtain ⟨n10, hn10⟩ : ∃ q, q = n6' + 4 := ⟨_, rfl⟩
  rw [← hn10] at hp c0 hsum
  have Hn10 := hid (show n10 + 2 = 12 + n by have := Hn6.out; omega)
  clear hn10
  refine wp_seq_k (fun K7 hK7 => ?_)
  go_wp2_with fail
  refine hsum.mono ?_
  rintro e w' ⟨rfl, hw'⟩
  rw [hw']
  clear hw' w' hsum c0
  go_wp2_with fail
  refine hp.mono ?_
  rintro e V8 ⟨rfl, ⟨da8, dc8, hm8⟩, hb8⟩
  have M8 := hid hm8
  have C8 := hid (C7.out.trans hb8)
  clear hp hm8 hb8
  go_wp2_with fail
  refine hK7.out _ _ ?_
  have c0 : V8.cell? ⟨P + 2, 0, none⟩ = some (.slice da8 (n10 + 2) dc8) := by rw [cell_of_row _ _ _ _ _ _ M8.out.bx]; rfl
  have HO := hid (ownsRow_mono M8.out.dt (Nat.le_succ P))
  rw [Hn10.out] at c0 HO
  have HBl := hid (B1.out.trans (C8.out.mono (Nat.le_succ P)))
  clear M8 C8
  go_wp2_with fail
  go_ret2
  rw [HFr.out]
  exact ⟨⟨da8, dc8, rfl, by rw [← HP.out]; exact HO.out⟩, by rw [← HP.out]; exact HBl.out⟩
end Go.Proofs.Ytjiipmalahhcpaa
/- frame: Unpack, plain: what a frame's bytes are. -/
namespace Go.Proofs.Ytjiipmalahhcpaa
set_option linter.unusedVariables false
open Go.RowKit

theorem num_be1 (n : Nat) (h : n < 256) : beB n 1 1 = [n] := by
  show [n / 256 ^ 0 % 256] = [n]
  simp
  omega
theorem num_be2 (n : Nat) (h : n < 65536) : numB (beB n 2 2) = n := by
  have e : beB n 2 2 = [n / 256 ^ 1 % 256, n / 256 ^ 0 % 256] := rfl
  rw [e]
  show (0 * 256 + n / 256 ^ 1 % 256) * 256 + n / 256 ^ 0 % 256 = n
  simp
  omega
theorem num_be4 (n : Nat) (h : n < 4294967296) : numB (beB n 4 4) = n := by
  have e : beB n 4 4 = [n / 256 ^ 3 % 256, n / 256 ^ 2 % 256, n / 256 ^ 1 % 256, n / 256 ^ 0 % 256] := rfl
  rw [e]
  show (((0 * 256 + n / 16777216 % 256) * 256 + n / 65536 % 256) * 256 + n / 256 % 256) * 256 + n / 1 % 256 = n
  omega
structure UnpP (cr ch ma ow fi : Nat) (data : List Nat) (st : Nat) (bs : List Nat) (n : Nat) : Prop where
  len : bs.length = 12 + n
  all : AllB bs
  body : bs.take (10 + n) = bodyF cr ch ma ow fi data st
  sum : numB (bs.drop (10 + n)) = sumN (bodyF cr ch ma ow fi data st)
  who : numB (bs.take 2) = cr * 16 + ch * 2 + 1
  wher : numB ((bs.drop 4).take 2) = 6144 + fi
  ma : nth bs 2 = ma
  ow : nth bs 3 = ow
  data : (bs.drop 6).take n = data
  st : numB ((bs.drop (6 + n)).take 4) = st
theorem take_mid {α : Type} (a b c : List α) : ((a ++ (b ++ c)).drop a.length).take b.length = b := by
  rw [List.drop_left, List.take_left]
theorem unp (cr ch ma ow fi : Nat) (data : List Nat) (st : Nat) (h1 : cr ≤ 1023) (h2 : ch ≤ 7) (h3 : ma ≤ 255) (h4 : ow ≤ 255) (h5 : fi ≤ 2047) (h6 : st ≤ 4294967295) (ha : AllB data) :
    UnpP cr ch ma ow fi data st (frameB cr ch ma ow fi data st) data.length := by
  have hba := bodyF_all cr ch ma ow fi data st ha
  have hbl := bodyF_len cr ch ma ow fi data st
  have hsl := sumN_lt _ hba
  have hB : bodyF cr ch ma ow fi data st = beB (cr * 16 + ch * 2 + 1) 2 2 ++ ([ma] ++ ([ow] ++ (beB (6144 + fi) 2 2 ++ (data ++ beB st 4 4)))) := by
    unfold bodyF
    rw [num_be1 ma (by omega), num_be1 ow (by omega)]
    simp only [List.append_assoc]
  have hF : frameB cr ch ma ow fi data st = bodyF cr ch ma ow fi data st ++ beB (sumN (bodyF cr ch ma ow fi data st)) 2 2 := rfl
  refine ⟨frameB_len _ _ _ _ _ _ _, ?_, ?_, ?_, ?_, ?_, ?_, ?_, ?_, ?_⟩
  · rw [hF]; exact hba.append (beB_all _ _ _)
  · rw [hF, ← hbl, List.take_left]
  · rw [hF, ← hbl, List.drop_left]; exact num_be2 _ hsl
  · rw [hF, hB]
    have : ((beB (cr * 16 + ch * 2 + 1) 2 2 ++ ([ma] ++ ([ow] ++ (beB (6144 + fi) 2 2 ++ (data ++ beB st 4 4))))) ++ beB (sumN (beB (cr * 16 + ch * 2 + 1) 2 2 ++ ([ma] ++ ([ow] ++ (beB (6144 + fi) 2 2 ++ (data ++ beB st 4 4)))))) 2 2).take 2 = beB (cr * 16 + ch * 2 + 1) 2 2 := by
      rw [List.append_assoc]
      exact List.take_left (l₁ := beB (cr * 16 + ch * 2 + 1) 2 2)
    rw [this]
    exact num_be2 _ (by omega)
  · rw [hF, hB]
    generalize beB (sumN _) 2 2 = T
    have e : (beB (cr * 16 + ch * 2 + 1) 2 2 ++ ([ma] ++ ([ow] ++ (beB (6144 + fi) 2 2 ++ (data ++ beB st 4 4))))) ++ T = (beB (cr * 16 + ch * 2 + 1) 2 2 ++ [ma] ++ [ow]) ++ (beB (6144 + fi) 2 2 ++ ((data ++ beB st 4 4) ++ T)) := by simp only [List.append_assoc]
    rw [e]
    have := take_mid (beB (cr * 16 + ch * 2 + 1) 2 2 ++ [ma] ++ [ow]) (beB (6144 + fi) 2 2) ((data ++ beB st 4 4) ++ T)
    have hl : (beB (cr * 16 + ch * 2 + 1) 2 2 ++ [ma] ++ [ow]).length = 4 := rfl
    have hl2 : (beB (6144 + fi) 2 2).length = 2 := rfl
    rw [hl, hl2] at this
    rw [this]
    exact num_be2 _ (by omega)
  · rw [hF, hB]; rfl
  · rw [hF, hB]; rfl
  · rw [hF, hB]
    generalize beB (sumN _) 2 2 = T
    have e : (beB (cr * 16 + ch * 2 + 1) 2 2 ++ ([ma] ++ ([ow] ++ (beB (6144 + fi) 2 2 ++ (data ++ beB st 4 4))))) ++ T = (beB (cr * 16 + ch * 2 + 1) 2 2 ++ [ma] ++ [ow] ++ beB (6144 + fi) 2 2) ++ (data ++ (beB st 4 4 ++ T)) := by simp only [List.append_assoc]
    rw [e]
    exact take_mid (beB (cr * 16 + ch * 2 + 1) 2 2 ++ [ma] ++ [ow] ++ beB (6144 + fi) 2 2) data (beB st 4 4 ++ T)
  · rw [hF, hB]
    generalize beB (sumN _) 2 2 = T
    have e : (beB (cr * 16 + ch * 2 + 1) 2 2 ++ ([ma] ++ ([ow] ++ (beB (6144 + fi) 2 2 ++ (data ++ beB st 4 4))))) ++ T = (beB (cr * 16 + ch * 2 + 1) 2 2 ++ [ma] ++ [ow] ++ beB (6144 + fi) 2 2 ++ data) ++ (beB st 4 4 ++ T) := by simp only [List.append_assoc]
    rw [e]
    have := take_mid (beB (cr * 16 + ch * 2 + 1) 2 2 ++ [ma] ++ [ow] ++ beB (6144 + fi) 2 2 ++ data) (beB st 4 4) T
    have hl : (beB (cr * 16 + ch * 2 + 1) 2 2 ++ [ma] ++ [ow] ++ beB (6144 + fi) 2 2 ++ data).length = 6 + data.length := by
      simp only [List.length_append, beB_len, List.length_cons, List.length_nil]
    have hl2 : (beB st 4 4).length = 4 := rfl
    rw [hl, hl2] at this
    rw [this]
    exact num_be4 _ (by omega)
theorem i64_and (a b : Nat) (ha : a < 2 ^ 63) (hb : b < 2 ^ 63) : bits .and .i64 (a : Int) (b : Int) = ((a &&& b : Nat) : Int) := i64_and_nat a b ha hb
end Go.Proofs.Ytjiipmalahhcpaa
