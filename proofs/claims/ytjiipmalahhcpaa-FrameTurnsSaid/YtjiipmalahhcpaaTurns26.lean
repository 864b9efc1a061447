/- FrameTurns: a frame. -/
import Derived.Test.YtjiipmalahhcpaaTurns25
import Derived.Test.YtjiipmalahhcpaaProg
import Derived.Test.YtjiipmalahhcpaaTurns1
namespace Go.Proofs.Ytjiipmalahhcpaa
set_option linter.unusedVariables false
open Go.RowKit

structure FrR (B : Nat) (w w' : World) (ja : Option Addr) (jn jc n S wb i ms : Nat) (nx : NX) (ws : Nat → Nat) (y' : Nat → Value) : Prop where
  ex : ∃ qb qc, SX y' ja jn jc n S wb i ∧ TM w' S wb qb qc n ((ms + 1) % 256) nx.tn nx.l ws
  blw : Below B w w'
theorem TM.box {W W' : World} {S wb qb qc qb2 qc2 n ms tn ms2 tn2 : Nat} {l l2 : Nat → LQ} {ws : Nat → Nat} (h : TM W S wb qb qc n ms tn l ws) (hs : SndL W qb2 qc2 l2) (hg : W.grownBy W' (some S))
    (hn : W'.heap[S]? = some (.cells #[.int .i64 3, .int .i64 (n : Int), .int .i64 (ms2 : Int), .int .i64 (tn2 : Int), .slice (some ⟨qb2, 0, none⟩) 7 qc2] 26)) : TM W' S wb qb2 qc2 n ms2 tn2 l2 ws :=
  ⟨hn, hs.other hg h.bx (by decide) (by decide) (by decide), h.ir.other hg h.bx (by decide)⟩
set_option maxRecDepth 1000000 in
set_option maxHeartbeats 8000000 in
theorem trn_frame (B : Nat) (ja : Option Addr) (jn jc n S wb i qb qc ms tn : Nat) (l : Nat → LQ) (ws : Nat → Nat) (hT : TInv tn ws) (hBS : B ≤ S) (hBw : B ≤ wb) (hn1 : 13 ≤ n) (hn2 : n ≤ 2048) (hms : ms ≤ 255) :
    Tri Try.prog 181 (pieceOf Try.f3 [1, 1, 1, 1, 1, 1, 0, 1, 0, 0, 1, 0, 0, 1, 1, 1, 1]) (fun y w => SX y ja jn jc n S wb i ∧ y 13 = .bool (someQ l 7) ∧ TM w S wb qb qc n ms tn l (tick l ws))
      (fun y w y' w' => FrR B w w' ja jn jc n S wb i ms (nextOf l tn (n - 12)) (upd (tick l ws) (nextOf l tn (n - 12)).ch) y') := by
  rintro Q y w ⟨⟨s1, s5, s6, s7, s8, s9⟩, s13, hM⟩ hQ
  have HQ := hid hQ
  have HM := hid hM
  clear hQ
  have htn := hT.tn6
  obtain ⟨hT2, hcase⟩ := turns (l := l) (room := n - 12) hT
  have hNx := nextOf_ok l tn (n - 12) hM.sl.k htn (by omega)
  have hnx := next_ok 3 n ms tn qb qc 0 l w hM.sl (by decide) hn1 hn2 hms htn (by decide)
  unfold sv at hnx
  rw [show ((3 : Nat) : Int) = 3 from rfl, show ((0 : Nat) : Int) = 0 from rfl] at hnx
  obtain ⟨room, hroom⟩ : ∃ r, r = n - 12 := ⟨_, rfl⟩
  rw [← hroom] at hT2 hcase hNx hnx HQ
  have Hrn := hid (show 12 + room = n by omega)
  have hr0 : 1 ≤ room ∧ room ≤ 2036 := by omega
  clear hroom
  generalize nextOf l tn room = nx at *
  obtain ⟨m1, m2, m3, m4, m5, m6, m7⟩ := hNx
  have HA := hid m6
  have Hdl := hid m5
  have HT2 := hid hT2
  clear m5 m6 m7 hT2
  have t0 : w.cell? ⟨S, 0, none⟩ = some (.int .i64 3) := by rw [cell_of_row _ _ _ _ _ _ hM.bx]; rfl
  have t1 : w.cell? ⟨S, 1, none⟩ = some (.int .i64 (n : Int)) := by rw [cell_of_row _ _ _ _ _ _ hM.bx]; rfl
  have t2 : w.cell? ⟨S, 2, none⟩ = some (.int .i64 (ms : Int)) := by rw [cell_of_row _ _ _ _ _ _ hM.bx]; rfl
  have t3 : w.cell? ⟨S, 3, none⟩ = some (.int .i64 (tn : Int)) := by rw [cell_of_row _ _ _ _ _ _ hM.bx]; rfl
  have t4 : w.cell? ⟨S, 4, none⟩ = some (.slice (some ⟨qb, 0, none⟩) 7 qc) := by rw [cell_of_row _ _ _ _ _ _ hM.bx]; rfl
  have HlS := hid (show B ≤ w.heap.size from Nat.le_trans hBS (Nat.le_of_lt (row_lt hM.bx)))
  clear hM hT
  conv => arg 2; whnf
  rw [fr181]
  simp only [s1, s5, s6, s7, s8, s9, s13]
  clear s1 s5 s6 s7 s8 s9 s13
  refine wp_seq_k (fun K0 hK0 => ?_)
  go_wp2_with fail
  refine hnx.mono ?_
  rintro e W1 ⟨⟨qb2, qc2, da, dc, rfl, hs2, ho⟩, hb1⟩
  unfold sv
  rw [show ((3 : Nat) : Int) = 3 from rfl]
  have HM1 := hid (HM.out.below hb1)
  have hbx := HM1.out.bx
  have t0 : W1.cell? ⟨S, 0, none⟩ = some (.int .i64 3) := by rw [cell_of_row _ _ _ _ _ _ hbx]; rfl
  have t1 : W1.cell? ⟨S, 1, none⟩ = some (.int .i64 (n : Int)) := by rw [cell_of_row _ _ _ _ _ _ hbx]; rfl
  have t2 : W1.cell? ⟨S, 2, none⟩ = some (.int .i64 (ms : Int)) := by rw [cell_of_row _ _ _ _ _ _ hbx]; rfl
  have t3 : W1.cell? ⟨S, 3, none⟩ = some (.int .i64 (tn : Int)) := by rw [cell_of_row _ _ _ _ _ _ hbx]; rfl
  have t4 : W1.cell? ⟨S, 4, none⟩ = some (.slice (some ⟨qb, 0, none⟩) 7 qc) := by rw [cell_of_row _ _ _ _ _ _ hbx]; rfl
  have fz := frozen_row hbx
  obtain ⟨f1, f2⟩ := five hbx (.int .i64 3) (.int .i64 (n : Int)) (.int .i64 (((ms + 1) % 256 : Nat) : Int)) (.int .i64 (nx.tn : Int)) (.slice (some ⟨qb2, 0, none⟩) 7 qc2)
  have HM2 := hid (HM1.out.box hs2 f2 f1)
  have HO2 := hid (ho.kept f2 (own_ne ho hbx (by decide)))
  have HB1 : Below B w W1 := hb1.mono HlS.out
  have HB2 := hid (HB1.grown f2 (Nat.le_trans hBS (Nat.le_of_lt (row_lt hbx))) (fun k e => by cases e; exact hBS))
  have HlS2 := hid (Nat.le_trans (Nat.le_trans HlS.out hb1.size) f2.size)
  obtain ⟨ms2, hms2⟩ : ∃ m, m = (ms + 1) % 256 := ⟨_, rfl⟩
  rw [← hms2] at HM2 HB2 HO2 HlS2 ⊢
  have Hms2 := hid hms2
  clear hbx f1 f2 HM1 HB1 hnx hs2 ho hb1 HM HlS hms2
  go_wp2_with fail
  refine hK0.out _ _ ?_
  clear t0 t1 t2 t3 t4 fz
  generalize ((((W1.setCell ⟨S, 0, none⟩ (.int .i64 3)).setCell ⟨S, 1, none⟩ (.int .i64 (n : Int))).setCell ⟨S, 2, none⟩ (.int .i64 (ms2 : Int))).setCell ⟨S, 3, none⟩ (.int .i64 (nx.tn : Int))).setCell ⟨S, 4, none⟩ (.slice (some ⟨qb2, 0, none⟩) 7 qc2) = W2 at *
  have t4 : W2.cell? ⟨S, 4, none⟩ = some (.slice (some ⟨qb2, 0, none⟩) 7 qc2) := by rw [cell_of_row _ _ _ _ _ _ HM2.out.bx]; rfl
  refine wp_seq_k (fun K1 hK1 => ?_)
  go_wp2_with fail
  refine hK1.out _ _ ?_
  clear t4
  have hup := unpack_ok 3 nx.ch ms nx.ow nx.fi da room dc nx.data 0 W2 (by decide) m1 hms m2 m3 (by decide) (by rw [Hrn.out]; exact Rd.ofOwn HO2.out) HA.out Hdl.out hr0.1 hr0.2
  rw [Hrn.out] at hup
  refine wp_seq_k (fun K2 hK2 => ?_)
  go_wp2_with fail
  refine hup.mono ?_
  rintro e W3 ⟨⟨ua, uc, rfl, _⟩, hb3⟩
  rw [show ((3 : Nat) : Int) = 3 from rfl, show ((0 : Nat) : Int) = 0 from rfl]
  have HM3 := hid (HM2.out.below hb3)
  have HB3 := hid (HB2.out.trans (hb3.mono HlS2.out))
  have HlS3 := hid (Nat.le_trans HlS2.out hb3.size)
  clear hup HM2 HB2 HO2 hb3 HlS2
  go_wp2_with fail
  refine hK2.out _ _ ?_
  have r4 := heap_alloc_new W3 (.cells #[.int .i64 3, .int .i64 (nx.ch : Int), .int .i64 (ms : Int), .int .i64 (nx.ow : Int), .int .i64 (nx.fi : Int)] 46)
  have b4 := below_alloc W3 (.cells #[.int .i64 3, .int .i64 (nx.ch : Int), .int .i64 (ms : Int), .int .i64 (nx.ow : Int), .int .i64 (nx.fi : Int)] 46)
  have HM4 := hid (HM3.out.below b4)
  have HB4 := hid (HB3.out.trans (b4.mono HlS3.out))
  have HlS4 := hid (Nat.le_trans HlS3.out b4.size)
  obtain ⟨H, hH⟩ : ∃ H, H = W3.heap.size := ⟨_, rfl⟩
  rw [← hH] at r4 ⊢
  clear hH b4 HM3 HB3 HlS3
  generalize W3.alloc (.cells #[.int .i64 3, .int .i64 (nx.ch : Int), .int .i64 (ms : Int), .int .i64 (nx.ow : Int), .int .i64 (nx.fi : Int)] 46) = W4 at *
  have c1 : W4.cell? ⟨H, 1, none⟩ = some (.int .i64 (nx.ch : Int)) := by rw [cell_of_row _ _ _ _ _ _ r4]; rfl
  clear r4
  have g1 : decide ((nx.ch : Int) < 0) = false := decide_eq_false (by omega)
  rcases hcase with ⟨hch, hsq⟩ | ⟨hch, hsq⟩
  · rw [hsq]
    have hch' := hch
    rw [hch'] at c1
    rw [show ((7 : Nat) : Int) = 7 from rfl] at c1
    have HE : Hid (∀ c, c < 7 → tick l ws c = upd (tick l ws) nx.ch c) := fun c hc => by unfold upd; rw [if_neg (by omega)]
    have Hch := hid hch
    have HT6 := hid (fun c hc => (by have := HT2.out.row c hc; omega) : ∀ c, c < 7 → upd (tick l ws) nx.ch c ≤ 6)
    clear hch hch' hsq g1
    refine wp_seq_k (fun K3 hK3 => ?_)
    go_wp2_with fail
    refine hK3.out _ _ ?_
    refine wp_seq_k (fun K4 hK4 => ?_)
    go_wp2_with fail
    refine hK4.out _ _ ?_
    clear c1
    refine wp_seq_k (fun K5 hK5 => ?_)
    go_wp2_with fail
    refine hK5.out _ _ ?_
    refine Tri.use (trn_check ja jn jc n S wb i (upd (tick l ws) nx.ch) HT6.out) rfl ⟨⟨rfl, rfl, rfl, rfl, rfl, rfl⟩, rfl, HM4.out.ir.congr HE.out⟩ ?_
    rintro y' w' ⟨h1, rfl⟩
    refine HQ.out y' w' ⟨⟨qb2, qc2, h1, ?_⟩, HB4.out⟩
    rw [← Hms2.out]
    exact ⟨HM4.out.bx, HM4.out.sl, HM4.out.ir.congr HE.out⟩
  · rw [hsq]
    have e1 : ((nx.ch : Int) == 7) = false := by rw [beq_eq_false_iff_ne]; omega
    have e2 : decide ((nx.ch : Int) = 7) = false := decide_eq_false (by omega)
    have e3 : (nx.ch == 7) = false := by rw [beq_eq_false_iff_ne]; omega
    have g2 : decide ((nx.ch : Int) < 7) = true := decide_eq_true (by omega)
    have g3 : decide (nx.ch < 7) = true := decide_eq_true (by omega)
    have g4 : (nx.ch : Int) < 7 := by omega
    obtain ⟨k0, k1⟩ := HM4.out.ir.cell nx.ch hch
    obtain ⟨i1, i2⟩ := HM4.out.ir.set nx.ch 0 hch
    rw [show ((0 : Nat) : Int) = 0 from rfl] at i1 i2
    have HM5 := hid (HM4.out.wait i2 (i1.congr (ws' := upd (tick l ws) nx.ch) (fun c hc => rfl)))
    have HB5 := hid (HB4.out.grown i2 HlS4.out (fun k e => by cases e; exact hBw))
    have HT6 := hid (fun c hc => (by have := HT2.out.row c hc; omega) : ∀ c, c < 7 → upd (tick l ws) nx.ch c ≤ 6)
    clear i1 i2 hsq HM4 HB4
    generalize upd (tick l ws) nx.ch = ws2 at *
    generalize tick l ws nx.ch = wk at *
    refine wp_seq_k (fun K3 hK3 => ?_)
    go_wp2_with fail
    refine hK3.out _ _ ?_
    refine wp_seq_k (fun K4 hK4 => ?_)
    go_wp2_with fail
    refine hK4.out _ _ ?_
    clear c1 e1 e2 e3 g1 g2 g3 g4 k0 k1
    refine wp_seq_k (fun K5 hK5 => ?_)
    go_wp2_with fail
    refine hK5.out _ _ ?_
    refine Tri.use (trn_check ja jn jc n S wb i ws2 HT6.out) rfl ⟨⟨rfl, rfl, rfl, rfl, rfl, rfl⟩, rfl, HM5.out.ir⟩ ?_
    rintro y' w' ⟨h1, rfl⟩
    refine HQ.out y' _ ⟨⟨qb2, qc2, h1, ?_⟩, HB5.out⟩
    rw [← Hms2.out]
    exact HM5.out
end Go.Proofs.Ytjiipmalahhcpaa
/- picked: which of n things a raw number speaks of. -/
namespace Go.Proofs.Ytjiipmalahhcpaa
set_option linter.unusedVariables false
open Go.RowKit

def pk (n : Int) (of : Nat) : Nat := (if n < 0 then (-(n + 1)) % (of : Int) else n % (of : Int)).toNat
set_option maxRecDepth 1000000 in
theorem pk_lt (n : Int) (of : Nat) (h : 0 < of) : pk n of < of := by
  unfold pk
  have h1 : ∀ x : Int, 0 ≤ x % (of : Int) ∧ x % (of : Int) < (of : Int) := fun x => ⟨Int.emod_nonneg _ (by omega), Int.emod_lt_of_pos _ (by omega)⟩
  split
  · have := h1 (-(n + 1)); omega
  · have := h1 n; omega

set_option maxRecDepth 1000000 in
theorem pick_st (n of : Int) (w : World) (h0 : -9223372036854775808 ≤ n) (h1 : n ≤ 9223372036854775807) (h2 : 0 < of) (h3 : of ≤ 9223372036854775807) :
    Calls Try.prog 5 #[.int .i64 n, .int .i64 of] w fun e w' => e = .returned (.int .i64 ((pk n of.toNat : Nat) : Int)) ∧ w' = w := by
  obtain ⟨m, rfl⟩ := Int.eq_ofNat_of_zero_le (by omega : 0 ≤ of)
  have hb : ∀ x : Int, 0 ≤ x % (m : Int) ∧ x % (m : Int) < (m : Int) := fun x => ⟨Int.emod_nonneg _ (by omega), Int.emod_lt_of_pos _ h2⟩
  by_cases hn : n < 0
  · have e : ((pk n m : Nat) : Int) = (-(n + 1)) % (m : Int) := by
      have := hb (-(n + 1))
      unfold pk
      rw [if_pos hn]; omega
    have e2 : -((n + 1).tmod (m : Int)) = (-(n + 1)) % (m : Int) := by rw [← Int.neg_tmod, Int.tmod_eq_emod_of_nonneg (by omega)]
    have He := hid (e2.trans e.symm)
    clear e e2
    have hb1 := hb (-(n + 1))
    go_enter Try.func5, Try.ntmps5
    go_wp2
    go_ret
    refine ⟨?_, rfl⟩
    rw [Int.toNat_natCast, ← He.out]
    rfl
  · have e : ((pk n m : Nat) : Int) = n % (m : Int) := by
      have := hb n
      unfold pk
      rw [if_neg hn]; omega
    have He := hid e
    clear e
    go_enter Try.func5, Try.ntmps5
    go_wp2
    go_ret
    refine ⟨?_, rfl⟩
    try rw [Int.toNat_natCast]
    rw [He.out]
    rfl
set_option maxRecDepth 1000000 in
theorem pick_any (n of : Int) (w : World) (h0 : -9223372036854775808 ≤ n) (h1 : n ≤ 9223372036854775807) (h2 : 0 < of) (h3 : of ≤ 9223372036854775807) :
    Calls Try.prog 5 #[.int .i64 n, .int .i64 of] w fun e w' => ∃ r : Nat, e = .returned (.int .i64 (r : Int)) ∧ r < of.toNat ∧ Hid (r = pk n of.toNat) ∧ w = w' :=
  (pick_st n of w h0 h1 h2 h3).mono fun e w' ⟨he, hw⟩ => ⟨_, he, pk_lt _ _ (by omega), rfl, hw.symm⟩
end Go.Proofs.Ytjiipmalahhcpaa
