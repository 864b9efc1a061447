/- picked: which of n things a raw number speaks of. -/
import Derived.Test.YtjiipmalahhcpaaProg
import Derived.Test.YtjiipmalahhcpaaCarries1
import Derived.Test.YtjiipmalahhcpaaCarries17
namespace Go.Proofs.Ytjiipmalahhcpaa
set_option linter.unusedVariables false
open Go.RowKit

def pk (n : Int) (of : Nat) : Nat := (if n < 0 then (-(n + 1)) % (of : Int) else n % (of : Int)).toNat
set_option maxRecDepth 1000000 in
theorem pk_lt (n : Int) (of : Nat) (h : 0 < of) : pk n of < of := by
  unfold pk
  have h1 : ∀ x : Int, 0 ≤ x % (of : Int) ∧ x % (of : Int) < (of : Int) := fun x => ⟨Int.emod_nonneg _ (by omega), Int.emod_lt_of_pos _ (by omega)⟩
  split
  · have := h1 (-(n + 1)); omega
  · have := h1 n; omega

set_option maxRecDepth 1000000 in
theorem pick_st (n of : Int) (w : World) (h0 : -9223372036854775808 ≤ n) (h1 : n ≤ 9223372036854775807) (h2 : 0 < of) (h3 : of ≤ 9223372036854775807) :
    Calls Try.prog 5 #[.int .i64 n, .int .i64 of] w fun e w' => e = .returned (.int .i64 ((pk n of.toNat : Nat) : Int)) ∧ w' = w := by
  obtain ⟨m, rfl⟩ := Int.eq_ofNat_of_zero_le (by omega : 0 ≤ of)
  have hb : ∀ x : Int, 0 ≤ x % (m : Int) ∧ x % (m : Int) < (m : Int) := fun x => ⟨Int.emod_nonneg _ (by omega), Int.emod_lt_of_pos _ h2⟩
  by_cases hn : n < 0
  · have e : ((pk n m : Nat) : Int) = (-(n + 1)) % (m : Int) := by
      have := hb (-(n + 1))
      unfold pk
      rw [if_pos hn]; omega
    have e2 : -((n + 1).tmod (m : Int)) = (-(n + 1)) % (m : Int) := by rw [← Int.neg_tmod, Int.tmod_eq_emod_of_nonneg (by omega)]
    have He := hid (e2.trans e.symm)
    clear e e2
    have hb1 := hb (-(n + 1))
    go_enter Try.func5, Try.ntmps5
    go_wp2
    go_ret
    refine ⟨?_, rfl⟩
    rw [Int.toNat_natCast, ← He.out]
    rfl
  · have e : ((pk n m : Nat) : Int) = n % (m : Int) := by
      have := hb n
      unfold pk
      rw [if_neg hn]; omega
    have He := hid e
    clear e
    go_enter Try.func5, Try.ntmps5
    go_wp2
    go_ret
    refine ⟨?_, rfl⟩
    try rw [Int.toNat_natCast]
    rw [He.out]
    rfl
set_option maxRecDepth 1000000 in
theorem pick_any (n of : Int) (w : World) (h0 : -9223372036854775808 ≤ n) (h1 : n ≤ 9223372036854775807) (h2 : 0 < of) (h3 : of ≤ 9223372036854775807) :
    Calls Try.prog 5 #[.int .i64 n, .int .i64 of] w fun e w' => ∃ r : Nat, e = .returned (.int .i64 (r : Int)) ∧ r < of.toNat ∧ Hid (r = pk n of.toNat) ∧ w = w' :=
  (pick_st n of w h0 h1 h2 h3).mono fun e w' ⟨he, hw⟩ => ⟨_, he, pk_lt _ _ (by omega), rfl, hw.symm⟩
end Go.Proofs.Ytjiipmalahhcpaa
/- FrameTurns: the jobs. -/
namespace Go.Proofs.Ytjiipmalahhcpaa
set_option linter.unusedVariables false
open Go.RowKit

def TrI (W0 : World) (ja : Option Addr) (jn jc n S wb : Nat) (y : Nat → Value) (W : World) : Prop :=
  ∃ (i qb qc ms tn : Nat) (l : Nat → LQ) (ws : Nat → Nat), i ≤ jn ∧ SX y ja jn jc n S wb i ∧ TM W S wb qb qc n ms tn l ws ∧ TInv tn ws ∧ ms ≤ 255 ∧ (∀ c, c < 7 → (l c).ps.length ≤ i) ∧ Below W0.heap.size W0 W
set_option maxRecDepth 1000000 in
set_option maxHeartbeats 16000000 in
theorem trn_jobs (W0 : World) (ja : Option Addr) (jn jc n S wb : Nat) (f : Nat → Job) (hJ : RdJ W0 ja jn jc f) (hj : jn ≤ 200) (hBS : W0.heap.size ≤ S) (hBw : W0.heap.size ≤ wb) (hn1 : 13 ≤ n) (hn2 : n ≤ 2048) :
    Tri Try.prog 181 (pieceOf Try.f3 [1, 1, 1, 1, 1, 1, 0, 1]) (fun y w => TrI W0 ja jn jc n S wb y w ∧ y 9 = .int .i64 0)
      (fun y w y' w' => TrI W0 ja jn jc n S wb y' w') := by
  rintro Q y w ⟨hI, t9⟩ hQ
  have HQ := hid hQ
  have HJ := hid hJ
  clear hQ hJ
  conv => arg 2; whnf
  refine wp_block ?_
  obtain ⟨i0, qb0, qc0, ms0, tn0, l0, ws0, j1, ⟨t1, t5, t6, t7, t8, t9'⟩, j2, j3, j4, j5, j6⟩ := hI
  refine wp_loop_fr 181 (TrI W0 ja jn jc n S wb) (fun y' _ => 300 - (intOf (y' 9)).toNat) ⟨rfl, rfl, i0, qb0, qc0, ms0, tn0, l0, ws0, j1, ⟨t1, t5, t6, t7, t8, t9'⟩, j2, j3, j4, j5, j6⟩ ?_
  clear t1 t5 t6 t7 t8 t9 t9' j1 j2 j3 j4 j5 j6
  rintro z W ⟨i, qb, qc, ms, tn, l, ws, hi, ⟨s1, s5, s6, s7, s8, s9⟩, hM, hT, hms, hlen, hb⟩
  have HM := hid hM
  have HT := hid hT
  have HL := hid hlen
  have HB := hid hb
  clear hM hT hlen hb
  rw [fr181]
  simp only [s1, s5, s6, s7, s8, s9]
  clear s1 s5 s6 s7 s8 s9
  by_cases hlt : i < jn
  · have d1 : decide ((i : Int) < (jn : Int)) = true := decide_eq_true (by omega)
    have d2 : decide (i < jn) = true := decide_eq_true hlt
    have hij : (i : Int) < (jn : Int) := by omega
    obtain ⟨b, off, rfl, c0, c1, c2, _⟩ := HJ.out.cells HB.out i hlt
    obtain ⟨v0, v1, v2⟩ := HJ.out.inr i hlt
    have hp0 := pick_st (f i).put 2 W v0.1 v0.2 (by decide) (by decide)
    have hp1 := pick_st (f i).ch 7 W v1.1 v1.2 (by decide) (by decide)
    have hp2 := pick_st (f i).lg 90 W v2.1 v2.2 (by decide) (by decide)
    have hc7 := pk_lt (f i).ch 7 (by decide)
    have hg90 := pk_lt (f i).lg 90 (by decide)
    rw [show (2 : Int).toNat = 2 from rfl] at hp0
    rw [show (7 : Int).toNat = 7 from rfl] at hp1
    rw [show (90 : Int).toNat = 90 from rfl] at hp2
    generalize pk (f i).put 2 = k0 at *
    generalize pk (f i).ch 7 = c at *
    generalize pk (f i).lg 90 = g at *
    generalize (f i).put = z0 at *
    generalize (f i).ch = z1 at *
    generalize (f i).lg = z2 at *
    clear v0 v1 v2
    by_cases hk0 : k0 = 0
    · subst hk0
      rw [show ((0 : Nat) : Int) = 0 from rfl] at hp0
      -- the packet
      obtain ⟨n1, hn1'⟩ : ∃ n1, n1 = 1 + g := ⟨_, rfl⟩
      have a1 : (1 : Int) + (g : Int) = (n1 : Int) := by omega
      have a2 : IntKind.i64.wrap (n1 : Int) = (n1 : Int) := IntWalk.i64_in _ (by omega)
      have a3 : IntKind.i64.wrap ((1 : Int) + (g : Int)) = (n1 : Int) := by rw [a1]; exact a2
      have hn1b : 1 ≤ n1 ∧ n1 ≤ 90 := by omega
      clear hn1' hg90
      have hmk := run_mkB n1 (by omega) W
      have bV := below_alloc W (.cells (madeCells #[.int .u8 0] (n1 * 1)) 5)
      have rV := rd_made W n1 (by omega)
      have HMV := hid (HM.out.below bV)
      have HBV := hid (HB.out.trans (bV.mono HB.out.size))
      generalize W.heap.size = D at *
      generalize W.alloc (.cells (madeCells #[.int .u8 0] (n1 * 1)) 5) = V at *
      have henc := encode_ok false false c 3 0 (some ⟨D, 0, none⟩) n1 n1 (List.replicate n1 0) V rV (by omega) (by decide) (by decide) (by omega) (by omega)
      rw [show ((3 : Nat) : Int) = 3 from rfl, show ((0 : Nat) : Int) = 0 from rfl] at henc
      have HEnc : Hid (IsEnc (encB false false c 3 0 (List.replicate n1 0))) := ⟨⟨false, false, c, 3, 0, _, rfl, fun x hx => by rw [List.eq_of_mem_replicate hx]; omega, by omega, by omega, by omega, by rw [List.length_replicate]; omega, by rw [List.length_replicate]; omega⟩⟩
      generalize encB false false c 3 0 (List.replicate n1 0) = bs at *
      generalize 2 + 2 + 2 + n1 = bl at *
      clear rV bV
      go_upto_block 1 with (fail)
      refine wp_block ?_
      refine wp_seq_k (fun K0 hK0 => ?_)
      refine wp_seq_k (fun K1 hK1 => ?_)
      go_wp2_with fail
      refine hp0.mono ?_
      rintro e w' ⟨rfl, hw'⟩
      rw [hw']
      clear hw' w' hp0
      go_wp2_with fail
      refine hK1.out _ _ ?_
      clear d1 d2
      refine wp_cond_true rfl ?_
      refine wp_seq_k (fun K2 hK2 => ?_)
      go_wp2_with fail
      refine hp1.mono ?_
      rintro e w' ⟨rfl, hw'⟩
      rw [hw']
      clear hw' w' hp1
      go_wp2_with fail
      refine hK2.out _ _ ?_
      refine wp_seq_k (fun K3 hK3 => ?_)
      go_wp2_with fail
      refine hp2.mono ?_
      rintro e w' ⟨rfl, hw'⟩
      rw [hw']
      clear hw' w' hp2
      go_wp2_with fail
      refine henc.mono ?_
      rintro e V2 ⟨ao, cc, rfl, ho, hb2⟩
      have HM2 := hid (HMV.out.below hb2)
      have HB2 := hid (HBV.out.trans (hb2.mono HBV.out.size))
      have HO2 := hid (Rd.ofOwn ho)
      clear henc ho hb2 HMV HBV hmk a1 a2 a3 c0 c1 c2 HM HB
      go_wp2_with fail
      refine hK3.out _ _ ?_
      refine wp_seq_k (fun K4 hK4 => ?_)
      go_wp2_with fail
      refine hK4.out _ _ ?_
      have hput := put_ok 3 n ms tn qb qc c l ao bl cc bs V2 HM2.out.sl (by decide) hn1 hn2 hms HT.out.tn6 hc7 HO2.out HEnc.out (by have := HL.out c hc7; omega)
      unfold sv at hput
      rw [show ((3 : Nat) : Int) = 3 from rfl] at hput
      have t0 : V2.cell? ⟨S, 0, none⟩ = some (.int .i64 3) := by rw [cell_of_row _ _ _ _ _ _ HM2.out.bx]; rfl
      have t1 : V2.cell? ⟨S, 1, none⟩ = some (.int .i64 (n : Int)) := by rw [cell_of_row _ _ _ _ _ _ HM2.out.bx]; rfl
      have t2 : V2.cell? ⟨S, 2, none⟩ = some (.int .i64 (ms : Int)) := by rw [cell_of_row _ _ _ _ _ _ HM2.out.bx]; rfl
      have t3 : V2.cell? ⟨S, 3, none⟩ = some (.int .i64 (tn : Int)) := by rw [cell_of_row _ _ _ _ _ _ HM2.out.bx]; rfl
      have t4 : V2.cell? ⟨S, 4, none⟩ = some (.slice (some ⟨qb, 0, none⟩) 7 qc) := by rw [cell_of_row _ _ _ _ _ _ HM2.out.bx]; rfl
      refine wp_seq_k (fun K5 hK5 => ?_)
      go_wp2_with fail
      refine hput.mono ?_
      rintro e V3 ⟨⟨qb2, qc2, rfl, hs2⟩, hb3⟩
      unfold sv
      rw [show ((3 : Nat) : Int) = 3 from rfl]
      have HM3 := hid (HM2.out.below hb3)
      have HB3 := hid (HB2.out.trans (hb3.mono HB2.out.size))
      have hbx := HM3.out.bx
      have t0 : V3.cell? ⟨S, 0, none⟩ = some (.int .i64 3) := by rw [cell_of_row _ _ _ _ _ _ hbx]; rfl
      have t1 : V3.cell? ⟨S, 1, none⟩ = some (.int .i64 (n : Int)) := by rw [cell_of_row _ _ _ _ _ _ hbx]; rfl
      have t2 : V3.cell? ⟨S, 2, none⟩ = some (.int .i64 (ms : Int)) := by rw [cell_of_row _ _ _ _ _ _ hbx]; rfl
      have t3 : V3.cell? ⟨S, 3, none⟩ = some (.int .i64 (tn : Int)) := by rw [cell_of_row _ _ _ _ _ _ hbx]; rfl
      have t4 : V3.cell? ⟨S, 4, none⟩ = some (.slice (some ⟨qb, 0, none⟩) 7 qc) := by rw [cell_of_row _ _ _ _ _ _ hbx]; rfl
      have fz := frozen_row hbx
      obtain ⟨f1, f2⟩ := five hbx (.int .i64 3) (.int .i64 (n : Int)) (.int .i64 (ms : Int)) (.int .i64 (tn : Int)) (.slice (some ⟨qb2, 0, none⟩) 7 qc2)
      have HM4 := hid (HM3.out.box hs2 f2 f1)
      have HB4 := hid (HB3.out.grown f2 (Nat.le_trans hBS (Nat.le_of_lt (row_lt hbx))) (fun k e => by cases e; exact hBS))
      clear hbx f1 f2 HM3 HB3 hput hs2 hb3 HM2 HB2 HO2
      go_wp2_with fail
      refine hK5.out _ _ ?_
      clear t0 t1 t2 t3 t4 fz
      generalize ((((V3.setCell ⟨S, 0, none⟩ (.int .i64 3)).setCell ⟨S, 1, none⟩ (.int .i64 (n : Int))).setCell ⟨S, 2, none⟩ (.int .i64 (ms : Int))).setCell ⟨S, 3, none⟩ (.int .i64 (tn : Int))).setCell ⟨S, 4, none⟩ (.slice (some ⟨qb2, 0, none⟩) 7 qc2) = V4 at *
      have t4 : V4.cell? ⟨S, 4, none⟩ = some (.slice (some ⟨qb2, 0, none⟩) 7 qc2) := by rw [cell_of_row _ _ _ _ _ _ HM4.out.bx]; rfl
      obtain ⟨pa, pc, k1⟩ := pkl_len HM4.out.sl c hc7
      have hpl : (putL l c bs c).ps.length = (l c).ps.length + 1 := by
        unfold putL
        rw [if_pos rfl]
        show ((l c).ps ++ [bs]).length = _
        rw [List.length_append]
        rfl
      rw [hpl] at k1
      have HL2 : Hid (∀ x, x < 7 → (putL l c bs x).ps.length ≤ i + 1) := fun x hx => by
        by_cases e : x = c
        · subst e
          rw [hpl]
          exact Nat.succ_le_succ (HL.out x hx)
        · unfold putL
          rw [if_neg e]
          exact Nat.le_succ_of_le (HL.out x hx)
      have hcI : (c : Int) < 7 := by omega
      have hqm := HM4.out.sl.mx
      have hqc := HM4.out.sl.le
      unfold maxLen at hqm
      have hll := HL.out c hc7
      obtain ⟨ll, hl2⟩ : ∃ ll, ll = (l c).ps.length + 1 := ⟨_, rfl⟩
      rw [← hl2] at k1
      have hl3 : 1 ≤ ll ∧ ll ≤ 201 := by omega
      clear hl2 hll
      clear hpl
      have e1 : ((ll : Int) == 0) = false := by rw [beq_eq_false_iff_ne]; omega
      have e2 : (ll == 0) = false := by rw [beq_eq_false_iff_ne]; omega
      have e3 : decide ((ll : Int) = 0) = false := decide_eq_false (by omega)
      refine wp_seq_k (fun K6 hK6 => ?_)
      go_wp2_with fail
      refine hK6.out _ _ ?_
      clear t4 k1 e1 e2 e3
      go_wp2_with fail
      refine ⟨rfl, rfl, ⟨i + 1, qb2, qc2, ms, tn, putL l c bs, ws, by omega, ⟨rfl, rfl, rfl, rfl, rfl, ?_⟩, HM4.out, HT.out, hms, HL2.out, HB4.out⟩, ?_⟩
      · show Value.int .i64 _ = Value.int .i64 _
        go_num
      · show 300 - (intOf (Value.int .i64 _)).toNat < _
        simp [intOf]
        omega
    · have e1 : ((k0 : Int) == 0) = false := by rw [beq_eq_false_iff_ne]; omega
      have e2 : (k0 == 0) = false := by rw [beq_eq_false_iff_ne]; omega
      have e3 : decide ((k0 : Int) = 0) = false := decide_eq_false (by omega)
      clear hp1 hp2 hc7 hg90 c1 c2
      go_upto_block 1 with (fail)
      refine wp_block ?_
      refine wp_seq_k (fun K0 hK0 => ?_)
      refine wp_seq_k (fun K1 hK1 => ?_)
      go_wp2_with fail
      refine hp0.mono ?_
      rintro e w' ⟨rfl, hw'⟩
      rw [hw']
      clear hw' w' hp0
      go_wp2_with fail
      refine hK1.out _ _ ?_
      clear d1 d2 e1 e2 e3 c0
      refine wp_cond_false rfl ?_
      go_wp2_with fail
      refine hK0.out _ _ ?_
      have hws : ∀ c, c < 7 → ws c ≤ 6 := fun c hc => by have := HT.out.row c hc; omega
      refine wp_seq_k (fun K2 hK2 => ?_)
      go_wp2_with fail
      refine hK2.out _ _ ?_
      refine wp_seq_k (fun K3 hK3 => ?_)
      refine wp_seq_k (fun K4 hK4 => ?_)
      go_wp2_with fail
      refine hK4.out _ _ ?_
      refine Tri.use (trn_tick W0.heap.size (some ⟨b, off, none⟩) jn jc n S wb i qb qc ms tn l ws hws hBw) rfl ⟨⟨rfl, rfl, rfl, rfl, rfl, rfl⟩, ⟨rfl, rfl⟩, HM.out⟩ ?_
      rintro y1 W1 ⟨⟨s1, s5, s6, s7, s8, s9⟩, s13, hM1, hB1⟩
      refine hK3.out _ _ ?_
      have HM1 := hid hM1
      have HB1 := hid (HB.out.trans hB1)
      clear hM1 hB1 HM HB hws
      rw [fr181]
      simp only [s1, s5, s6, s7, s8, s9, s13]
      clear s1 s5 s6 s7 s8 s9 s13
      refine wp_seq_k (fun K5 hK5 => ?_)
      go_wp2_with fail
      refine hK5.out _ _ ?_
      refine Tri.use (trn_frame W0.heap.size (some ⟨b, off, none⟩) jn jc n S wb i qb qc ms tn l ws HT.out hBS hBw hn1 hn2 hms) rfl ⟨⟨rfl, rfl, rfl, rfl, rfl, rfl⟩, rfl, HM1.out⟩ ?_
      rintro y2 W2 ⟨⟨qb2, qc2, ⟨s1, s5, s6, s7, s8, s9⟩, hM2⟩, hB2⟩
      have hT2 := (turns (l := l) (room := n - 12) HT.out).1
      have hL2 : ∀ x, x < 7 → ((nextOf l tn (n - 12)).l x).ps.length ≤ i + 1 := next_len (by omega) (fun x hx => Nat.le_succ_of_le (HL.out x hx))
      generalize nextOf l tn (n - 12) = nx at *
      have HM2 := hid hM2
      have HB2 := hid (HB1.out.trans hB2)
      have HT2 := hid hT2
      have HL2 := hid hL2
      have hms2 : (ms + 1) % 256 ≤ 255 := by omega
      clear hM2 hB2 hT2 hL2 HM1 HB1
      rw [fr181]
      simp only [s1, s5, s6, s7, s8, s9]
      clear s1 s5 s6 s7 s8 s9
      go_wp2_with fail
      refine ⟨rfl, rfl, ⟨i + 1, qb2, qc2, _, nx.tn, nx.l, _, by omega, ⟨rfl, rfl, rfl, rfl, rfl, ?_⟩, HM2.out, HT2.out, hms2, HL2.out, HB2.out⟩, ?_⟩
      · show Value.int .i64 _ = Value.int .i64 _
        go_num
      · show 300 - (intOf (Value.int .i64 _)).toNat < _
        simp [intOf]
        omega
  · obtain rfl : i = jn := by omega
    have d1 : decide ((i : Int) < (i : Int)) = false := decide_eq_false (by omega)
    go_wp2_with fail
    exact q_fr (N := 181) HQ.out rfl ⟨i, qb, qc, ms, tn, l, ws, Nat.le_refl _, ⟨rfl, rfl, rfl, rfl, rfl, rfl⟩, HM.out, HT.out, hms, HL.out, HB.out⟩
end Go.Proofs.Ytjiipmalahhcpaa
/- FrameTurns: the law. -/
namespace Go.Proofs.Ytjiipmalahhcpaa
set_option linter.unusedVariables false
open Go.RowKit

theorem Try.info3 : (Try.prog.info? 3).map (fun i => (i.zero, i.size, i.bytes)) = some (some (.int .i64 0), 1, 8) := by kernel_rfl
theorem run_mkI7 (u : World) : (Instr.makeSlice 30 (.int .i64 7) (.int .i64 7)).run Try.prog u =
    .ok (.slice (some ⟨u.heap.size, 0, none⟩) 7 7) (u.alloc (.cells (madeCells #[.int .i64 0] (7 * 1)) 3)) := by
  obtain ⟨i0, hi, hz0, hz1, hz2⟩ := info_parts Try.info3
  have h := run_make (P := Try.prog) u 30 3 i0 (.int .i64 0) Try.underlying30 hi hz0 .i64 .i64 7 7 (by decide) (by decide) (by rw [hz2]; decide) (by decide)
  simpa [hz1, Value.cells] using h
theorem madeI7 (W : World) : IR (W.alloc (.cells (madeCells #[.int .i64 0] (7 * 1)) 3)) W.heap.size (fun _ => 0) := by
  refine ⟨_, heap_alloc_new W _, by rw [size_madeCells]; exact Nat.le_refl _, fun j hj => ?_⟩
  have : j = 0 ∨ j = 1 ∨ j = 2 ∨ j = 3 ∨ j = 4 ∨ j = 5 ∨ j = 6 := by omega
  rcases this with rfl | rfl | rfl | rfl | rfl | rfl | rfl <;> simp [madeCells]
set_option maxRecDepth 1000000 in
set_option maxHeartbeats 8000000 in
theorem turns_ok (sz : Int) (ja : Option Addr) (jn jc : Nat) (f : Nat → Job) (W0 : World) (hs : InI sz) (hJ : RdJ W0 ja jn jc f) :
    Calls Try.prog 3 #[.int .i64 sz, .slice ja jn jc] W0 fun e w' => e = .returned (.bool true) ∧ Below W0.heap.size W0 w' := by
  have hmx := Nat.le_trans hJ.le hJ.max
  unfold maxLen at hmx
  have HJ := hid hJ
  clear hJ
  by_cases hj : jn ≤ 200
  · have d1 : decide ((200 : Int) < (jn : Int)) = false := decide_eq_false (by omega)
    have d2 : decide (200 < jn) = false := decide_eq_false (by omega)
    have hp := pick_st sz 60 W0 hs.1 hs.2 (by decide) (by decide)
    rw [show (60 : Int).toNat = 60 from rfl] at hp
    have h60 := pk_lt sz 60 (by decide)
    generalize pk sz 60 = r at *
    obtain ⟨n, hn⟩ : ∃ n, n = 13 + r := ⟨_, rfl⟩
    have a1 : (13 : Int) + (r : Int) = (n : Int) := by omega
    have a2 : IntKind.i64.wrap (n : Int) = (n : Int) := IntWalk.i64_in _ (by omega)
    have a3 : IntKind.i64.wrap ((13 : Int) + (r : Int)) = (n : Int) := by rw [a1]; exact a2
    have hn1 : 13 ≤ n ∧ n ≤ 2048 := by omega
    clear hn h60
    have hop := open_ok 3 n W0 (by decide) hn1.1 hn1.2
    rw [show ((3 : Nat) : Int) = 3 from rfl] at hop
    go_enter Try.func3, Try.ntmps3
    refine wp_seq_k (fun K0 hK0 => ?_)
    go_wp2_with fail
    refine hK0.out _ _ ?_
    refine wp_seq_k (fun K1 hK1 => ?_)
    go_wp2_with fail
    refine hK1.out _ _ ?_
    clear d1 d2
    refine wp_seq_k (fun K2 hK2 => ?_)
    go_wp2_with fail
    refine hp.mono ?_
    rintro e w' ⟨rfl, hw'⟩
    rw [hw']
    clear hw' w' hp
    go_wp2_with fail
    refine hK2.out _ _ ?_
    clear a1 a2 a3
    refine wp_seq_k (fun K3 hK3 => ?_)
    go_wp2_with fail
    refine hop.mono ?_
    rintro e W1 ⟨⟨qb, qc, rfl, hsl⟩, hb1⟩
    unfold sv
    rw [show ((3 : Nat) : Int) = 3 from rfl, show ((0 : Nat) : Int) = 0 from rfl]
    go_wp2_with fail
    refine hK3.out _ _ ?_
    have r2 := heap_alloc_new W1 (.cells #[.int .i64 3, .int .i64 (n : Int), .int .i64 0, .int .i64 0, .slice (some ⟨qb, 0, none⟩) 7 qc] 26)
    have b2 := below_alloc W1 (.cells #[.int .i64 3, .int .i64 (n : Int), .int .i64 0, .int .i64 0, .slice (some ⟨qb, 0, none⟩) 7 qc] 26)
    have hsl2 := hsl.below b2
    have HB2 := hid (hb1.trans (b2.mono hb1.size))
    have hS := hb1.size
    obtain ⟨S, hS'⟩ : ∃ S, S = W1.heap.size := ⟨_, rfl⟩
    rw [← hS'] at r2 hS ⊢
    clear hS' b2 hsl hb1 hop
    generalize W1.alloc (.cells #[.int .i64 3, .int .i64 (n : Int), .int .i64 0, .int .i64 0, .slice (some ⟨qb, 0, none⟩) 7 qc] 26) = W2 at *
    have R2 := hid r2
    have HS2 := hid hsl2
    clear r2 hsl2
    have t4 : W2.cell? ⟨S, 4, none⟩ = some (.slice (some ⟨qb, 0, none⟩) 7 qc) := by rw [cell_of_row _ _ _ _ _ _ R2.out]; rfl
    refine wp_seq_k (fun K4 hK4 => ?_)
    go_wp2_with fail
    refine hK4.out _ _ ?_
    clear t4
    have hmk := run_mkI7 W2
    have b3 := below_alloc W2 (.cells (madeCells #[.int .i64 0] (7 * 1)) 3)
    have hI := madeI7 W2
    have hM : TM (W2.alloc (.cells (madeCells #[.int .i64 0] (7 * 1)) 3)) S W2.heap.size qb qc n 0 0 (fun _ => lq0) (fun _ => 0) := ⟨row_below R2.out b3, HS2.out.below b3, hI⟩
    have HB3 := hid (HB2.out.trans (b3.mono HB2.out.size))
    have hwb := HB2.out.size
    have HM := hid hM
    obtain ⟨wb, hwb'⟩ : ∃ wb, wb = W2.heap.size := ⟨_, rfl⟩
    rw [← hwb'] at hmk HM hwb
    clear hwb' b3 hI hM HB2 R2 HS2
    simp only [Nat.mul_one] at hmk HM HB3
    generalize madeCells #[.int .i64 0] 7 = MB at *
    generalize W2.alloc (.cells MB 3) = W3 at *
    refine wp_seq_k (fun K5 hK5 => ?_)
    go_wp2_with fail
    refine hK5.out _ _ ?_
    clear hmk
    refine wp_seq_k (fun K6 hK6 => ?_)
    refine wp_seq_k (fun K7 hK7 => ?_)
    go_wp2_with fail
    refine hK7.out _ _ ?_
    refine Tri.use (trn_jobs W0 ja jn jc n S wb f HJ.out hj hS hwb hn1.1 hn1.2) rfl ⟨⟨0, qb, qc, 0, 0, fun _ => lq0, fun _ => 0, Nat.zero_le _, ⟨rfl, rfl, rfl, rfl, rfl, rfl⟩, HM.out, ⟨by omega, fun c hc => by omega⟩, by omega, fun c hc => Nat.le_refl _, HB3.out⟩, rfl⟩ ?_
    rintro y4 W4 ⟨i, qb4, qc4, ms, tn, l, ws, hi, ⟨s1, s5, s6, s7, s8, s9⟩, hM4, hT, hms, hL, hB4⟩
    refine hK6.out _ _ ?_
    have t4 : W4.cell? ⟨S, 4, none⟩ = some (.slice (some ⟨qb4, 0, none⟩) 7 qc4) := by rw [cell_of_row _ _ _ _ _ _ hM4.bx]; rfl
    have HB4 := hid hB4
    clear hM4 hT hL hB4
    rw [fr181]
    simp only [s1, s5, s6, s7, s8, s9]
    clear s1 s5 s6 s7 s8 s9
    go_wp2_with fail
    go_ret
    exact ⟨rfl, HB4.out⟩
  · have d1 : decide ((200 : Int) < (jn : Int)) = true := decide_eq_true (by omega)
    have d2 : decide (200 < jn) = true := decide_eq_true (by omega)
    go_enter Try.func3, Try.ntmps3
    go_wp2_with fail
    go_ret
    exact ⟨rfl, Below.refl _ _⟩
end Go.Proofs.Ytjiipmalahhcpaa
