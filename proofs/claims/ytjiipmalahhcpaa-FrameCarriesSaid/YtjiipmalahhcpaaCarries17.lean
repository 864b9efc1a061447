/- FrameTurns: how long each channel has waited. -/
import Derived.Test.YtjiipmalahhcpaaCarries16
namespace Go.Proofs.Ytjiipmalahhcpaa
set_option linter.unusedVariables false
open Go.RowKit

def tickTo (l : Nat → LQ) (ws : Nat → Nat) (k c : Nat) : Nat := if c < k then tick l ws c else ws c
theorem tickTo_succ (l : Nat → LQ) (ws : Nat → Nat) (k x : Nat) : tickTo l ws (k + 1) x = if x = k then tick l ws k else tickTo l ws k x := by
  unfold tickTo
  by_cases e : x = k
  · subst e
    rw [if_pos (Nat.lt_succ_self x), if_pos rfl]
  · rw [if_neg e]
    by_cases h : x < k
    · rw [if_pos h, if_pos (by omega)]
    · rw [if_neg h, if_neg (by omega)]
def TkI (B : Nat) (w0 : World) (ja : Option Addr) (jn jc n S wb i qb qc ms tn : Nat) (l : Nat → LQ) (ws : Nat → Nat) (y : Nat → Value) (W : World) : Prop :=
  ∃ k : Nat, k ≤ 7 ∧ SX y ja jn jc n S wb i ∧ y 13 = .bool (someQ l k) ∧ y 14 = .int .i64 (k : Int) ∧ TM W S wb qb qc n ms tn l (tickTo l ws k) ∧ Below B w0 W
theorem pkl_len {W : World} {qb qc : Nat} {l : Nat → LQ} (h : SndL W qb qc l) (c : Nat) (hc : c < 7) : ∃ pa pc, W.cell? ⟨qb, c * 3 + 1, none⟩ = some (.slice pa (l c).ps.length pc) := by
  obtain ⟨q, h1, h2, h3⟩ := h.ex
  obtain ⟨_, k1, _, _⟩ := h1.cell c hc
  have := pk_len (h2 c hc)
  rw [h3 c hc] at this
  rw [this] at k1
  exact ⟨_, _, k1⟩
set_option maxRecDepth 1000000 in
set_option maxHeartbeats 8000000 in
theorem trn_tick (B : Nat) (ja : Option Addr) (jn jc n S wb i qb qc ms tn : Nat) (l : Nat → LQ) (ws : Nat → Nat) (hw : ∀ c, c < 7 → ws c ≤ 6) (hB : B ≤ wb) :
    Tri Try.prog 181 (pieceOf Try.f3 [1, 1, 1, 1, 1, 1, 0, 1, 0, 0, 1, 0, 0, 1, 1, 0, 1]) (fun y w => SX y ja jn jc n S wb i ∧ (y 13 = .bool false ∧ y 14 = .int .i64 0) ∧ TM w S wb qb qc n ms tn l ws)
      (fun y w y' w' => SX y' ja jn jc n S wb i ∧ y' 13 = .bool (someQ l 7) ∧ TM w' S wb qb qc n ms tn l (tick l ws) ∧ Below B w w') := by
  rintro Q y w ⟨⟨t1, t5, t6, t7, t8, t9⟩, ⟨t13, t14⟩, hM⟩ hQ
  have HQ := hid hQ
  have HW := hid hw
  clear hQ hw
  have hqc := hM.sl.le
  have hqm := hM.sl.mx
  unfold maxLen at hqm
  have hlen := hid (fun c hc => (hM.sl.k c hc).len : ∀ c, c < 7 → (l c).ps.length ≤ 200)
  conv => arg 2; whnf
  refine wp_block ?_
  refine wp_loop_fr 181 (TkI B w ja jn jc n S wb i qb qc ms tn l ws) (fun y' _ => 7 - (intOf (y' 14)).toNat) ⟨rfl, rfl, 0, by omega, ⟨t1, t5, t6, t7, t8, t9⟩, t13, t14, ⟨hM.bx, hM.sl, hM.ir.congr (fun c hc => rfl)⟩, Below.refl _ _⟩ ?_
  clear t1 t5 t6 t7 t8 t9 t13 t14 hM
  rintro z W ⟨k, hk, ⟨s1, s5, s6, s7, s8, s9⟩, s13, s14, hM, hb⟩
  have HM := hid hM
  have HB := hid hb
  clear hM hb
  rw [fr181]
  simp only [s1, s5, s6, s7, s8, s9, s13, s14]
  clear s1 s5 s6 s7 s8 s9 s13 s14
  by_cases hlt : k < 7
  · have d1 : decide ((k : Int) < 7) = true := decide_eq_true (by omega)
    have p4 : W.cell? ⟨S, 4, none⟩ = some (.slice (some ⟨qb, 0, none⟩) 7 qc) := by rw [cell_of_row _ _ _ _ _ _ HM.out.bx]; rfl
    obtain ⟨pa, pc, k1⟩ := pkl_len HM.out.sl k hlt
    obtain ⟨c0, fz⟩ := HM.out.ir.cell k hlt
    have hk7 : (k : Int) < 7 := by omega
    have htk : tickTo l ws k k = ws k := by unfold tickTo; rw [if_neg (Nat.lt_irrefl k)]
    rw [htk] at c0
    have hwk := HW.out k hlt
    have hll := hlen.out k hlt
    have hsome := someQ_succ l k
    have HlB := hid (Nat.le_trans hB (Nat.le_of_lt (by obtain ⟨cs, h1, _⟩ := HM.out.ir.ex; exact row_lt h1)))
    obtain ⟨sq, hsq⟩ : ∃ sq, sq = someQ l k := ⟨_, rfl⟩
    rw [← hsq] at hsome ⊢
    have Hsq := hid hsq
    clear hsq
    by_cases he : (l k).ps = []
    · have hl0 : (l k).ps.length = 0 := by rw [he]; rfl
      rw [hl0] at k1 hll
      have Hs2 : Hid (someQ l (k + 1) = sq) := by unfold Hid; rw [hsome, he]; simp
      obtain ⟨i1, i2⟩ := HM.out.ir.set k 0 hlt
      have HM2 := hid (HM.out.wait i2 (i1.congr (ws' := tickTo l ws (k + 1)) (fun c hc => by rw [tickTo_succ]; unfold tick; rw [if_pos he])))
      have HB2 := hid (HB.out.grown i2 HlB.out (fun k e => by cases e; exact hB))
      rw [show ((0 : Nat) : Int) = 0 from rfl] at HM2 HB2
      clear hsome hl0 he htk hwk i1 i2 HM HB
      go_wp2_with fail
      refine ⟨rfl, rfl, ⟨k + 1, by omega, ⟨rfl, rfl, rfl, rfl, rfl, rfl⟩, ?_, ?_, HM2.out, HB2.out⟩, ?_⟩
      · rw [Hs2.out]; rfl
      · show Value.int .i64 _ = Value.int .i64 _
        go_num
      · show 7 - (intOf (Value.int .i64 _)).toNat < _
        simp [intOf]
        omega
    · have hl0 : 0 < (l k).ps.length := List.length_pos_iff.2 he
      have Hs2 : Hid (someQ l (k + 1) = true) := by
        unfold Hid
        rw [hsome]
        cases hp : (l k).ps with
        | nil => exact absurd hp he
        | cons a r => simp
      have Htk : Hid (tick l ws k = ws k + 1) := by unfold Hid tick; rw [if_neg he]
      obtain ⟨i1, i2⟩ := HM.out.ir.set k (ws k + 1) hlt
      have HM2 := hid (HM.out.wait i2 (i1.congr (ws' := tickTo l ws (k + 1)) (fun c hc => by rw [tickTo_succ, Htk.out])))
      have HB2 := hid (HB.out.grown i2 HlB.out (fun k e => by cases e; exact hB))
      have f1 : (ws k : Int) + 1 = ((ws k + 1 : Nat) : Int) := by omega
      have f2 : IntKind.i64.wrap ((ws k + 1 : Nat) : Int) = ((ws k + 1 : Nat) : Int) := IntWalk.i64_in _ (by omega)
      have f3 := f2
      rw [← f1] at f3
      have f4 : IntKind.i64.wrap ((ws k : Int) + 1) = ((ws k + 1 : Nat) : Int) := by rw [f3]; exact f1
      clear f3
      generalize ws k + 1 = wk1 at *
      generalize (l k).ps.length = ll at *
      have d2 : decide (0 < (ll : Int)) = true := decide_eq_true (by omega)
      have d3 : decide (0 < ll) = true := decide_eq_true (by omega)
      clear hsome htk i1 i2 HM HB Htk he
      go_wp2_with fail
      refine ⟨rfl, rfl, ⟨k + 1, by omega, ⟨rfl, rfl, rfl, rfl, rfl, rfl⟩, ?_, ?_, HM2.out, HB2.out⟩, ?_⟩
      · rw [Hs2.out]; rfl
      · show Value.int .i64 _ = Value.int .i64 _
        go_num
      · show 7 - (intOf (Value.int .i64 _)).toNat < _
        simp [intOf]
        omega
  · obtain rfl : k = 7 := by omega
    have HM2 := hid (TM.mk HM.out.bx HM.out.sl (HM.out.ir.congr (ws' := tick l ws) (fun c hc => by unfold tickTo; rw [if_pos hc])))
    rw [show ((7 : Nat) : Int) = 7 from rfl]
    generalize someQ l 7 = sq at *
    go_wp2_with fail
    exact q_fr (N := 181) HQ.out rfl ⟨⟨rfl, rfl, rfl, rfl, rfl, rfl⟩, rfl, HM2.out, HB.out⟩
end Go.Proofs.Ytjiipmalahhcpaa
/- FrameTurns: no channel waited for seven frames; a packet is put. -/
namespace Go.Proofs.Ytjiipmalahhcpaa
set_option linter.unusedVariables false
open Go.RowKit

def CkI (w0 : World) (ja : Option Addr) (jn jc n S wb i : Nat) (y : Nat → Value) (W : World) : Prop :=
  ∃ k : Nat, k ≤ 7 ∧ SX y ja jn jc n S wb i ∧ y 20 = .int .i64 (k : Int) ∧ W = w0
set_option maxRecDepth 1000000 in
set_option maxHeartbeats 8000000 in
theorem trn_check (ja : Option Addr) (jn jc n S wb i : Nat) (ws : Nat → Nat) (hw : ∀ c, c < 7 → ws c ≤ 6) :
    Tri Try.prog 181 (pieceOf Try.f3 [1, 1, 1, 1, 1, 1, 0, 1, 0, 0, 1, 0, 0, 1, 1, 1, 1, 1, 1, 1, 1, 1, 1]) (fun y w => SX y ja jn jc n S wb i ∧ y 20 = .int .i64 0 ∧ IR w wb ws)
      (fun y w y' w' => SX y' ja jn jc n S wb i ∧ w' = w) := by
  rintro Q y w ⟨⟨t1, t5, t6, t7, t8, t9⟩, t20, hM⟩ hQ
  have HQ := hid hQ
  have HW := hid hw
  have HM := hid hM
  clear hQ hw hM
  conv => arg 2; whnf
  refine wp_block ?_
  refine wp_loop_fr 181 (CkI w ja jn jc n S wb i) (fun y' _ => 7 - (intOf (y' 20)).toNat) ⟨rfl, rfl, 0, by omega, ⟨t1, t5, t6, t7, t8, t9⟩, t20, rfl⟩ ?_
  clear t1 t5 t6 t7 t8 t9 t20
  rintro z W ⟨k, hk, ⟨s1, s5, s6, s7, s8, s9⟩, s20, rfl⟩
  rw [fr181]
  simp only [s1, s5, s6, s7, s8, s9, s20]
  clear s1 s5 s6 s7 s8 s9 s20
  by_cases hlt : k < 7
  · have d1 : decide ((k : Int) < 7) = true := decide_eq_true (by omega)
    obtain ⟨c0, _⟩ := HM.out.cell k hlt
    have hk7 : (k : Int) < 7 := by omega
    have hwk := HW.out k hlt
    generalize ws k = wk at *
    have d2 : decide (7 ≤ (wk : Int)) = false := decide_eq_false (by omega)
    have d3 : decide (7 ≤ wk) = false := decide_eq_false (by omega)
    have d4 : decide ((wk : Int) ≥ 7) = false := decide_eq_false (by omega)
    go_wp2_with fail
    refine ⟨rfl, rfl, ⟨k + 1, by omega, ⟨rfl, rfl, rfl, rfl, rfl, rfl⟩, ?_, rfl⟩, ?_⟩
    · show Value.int .i64 _ = Value.int .i64 _
      go_num
    · show 7 - (intOf (Value.int .i64 _)).toNat < _
      simp [intOf]
      omega
  · obtain rfl : k = 7 := by omega
    rw [show ((7 : Nat) : Int) = 7 from rfl]
    go_wp2_with fail
    exact q_fr (N := 181) HQ.out rfl ⟨⟨rfl, rfl, rfl, rfl, rfl, rfl⟩, rfl⟩
/-- a job as it came in -/
structure Job where
  put : Int
  ch : Int
  lg : Int
  lost : Bool
instance : Inhabited Job := ⟨⟨0, 0, 0, false⟩⟩
def InI (z : Int) : Prop := -9223372036854775808 ≤ z ∧ z ≤ 9223372036854775807
structure RdJ (W : World) (a : Option Addr) (n c : Nat) (f : Nat → Job) : Prop where
  le : n ≤ c
  max : c ≤ maxLen
  mem : 0 < n → ∃ b off, a = some ⟨b, off, none⟩ ∧ b < W.heap.size ∧ ∀ j, j < n → W.cell? ⟨b, off + j * 4, none⟩ = some (.int .i64 (f j).put) ∧ W.cell? ⟨b, off + j * 4 + 1, none⟩ = some (.int .i64 (f j).ch) ∧ W.cell? ⟨b, off + j * 4 + 2, none⟩ = some (.int .i64 (f j).lg) ∧ W.cell? ⟨b, off + j * 4 + 3, none⟩ = some (.bool (f j).lost)
  inr : ∀ j, j < n → InI (f j).put ∧ InI (f j).ch ∧ InI (f j).lg
theorem RdJ.cells {W W' : World} {a : Option Addr} {n c : Nat} {f : Nat → Job} (h : RdJ W a n c f) (hb : Below W.heap.size W W') (j : Nat) (hj : j < n) :
    ∃ b off, a = some ⟨b, off, none⟩ ∧ W'.cell? ⟨b, off + j * 4, none⟩ = some (.int .i64 (f j).put) ∧ W'.cell? ⟨b, off + j * 4 + 1, none⟩ = some (.int .i64 (f j).ch) ∧ W'.cell? ⟨b, off + j * 4 + 2, none⟩ = some (.int .i64 (f j).lg) ∧ W'.cell? ⟨b, off + j * 4 + 3, none⟩ = some (.bool (f j).lost) := by
  obtain ⟨b, off, h1, h2, h3⟩ := h.mem (by omega)
  obtain ⟨k0, k1, k2, k3⟩ := h3 j hj
  have hk := fun o => World.cell?_of_block (a := ⟨b, o, none⟩) (hb.block b h2)
  exact ⟨b, off, h1, (hk _).trans k0, (hk _).trans k1, (hk _).trans k2, (hk _).trans k3⟩
end Go.Proofs.Ytjiipmalahhcpaa
/- FrameTurns: a frame. -/
namespace Go.Proofs.Ytjiipmalahhcpaa
set_option linter.unusedVariables false
open Go.RowKit

structure FrR (B : Nat) (w w' : World) (ja : Option Addr) (jn jc n S wb i ms : Nat) (nx : NX) (ws : Nat → Nat) (y' : Nat → Value) : Prop where
  ex : ∃ qb qc, SX y' ja jn jc n S wb i ∧ TM w' S wb qb qc n ((ms + 1) % 256) nx.tn nx.l ws
  blw : Below B w w'
theorem TM.box {W W' : World} {S wb qb qc qb2 qc2 n ms tn ms2 tn2 : Nat} {l l2 : Nat → LQ} {ws : Nat → Nat} (h : TM W S wb qb qc n ms tn l ws) (hs : SndL W qb2 qc2 l2) (hg : W.grownBy W' (some S))
    (hn : W'.heap[S]? = some (.cells #[.int .i64 3, .int .i64 (n : Int), .int .i64 (ms2 : Int), .int .i64 (tn2 : Int), .slice (some ⟨qb2, 0, none⟩) 7 qc2] 26)) : TM W' S wb qb2 qc2 n ms2 tn2 l2 ws :=
  ⟨hn, hs.other hg h.bx (by decide) (by decide) (by decide), h.ir.other hg h.bx (by decide)⟩
set_option maxRecDepth 1000000 in
set_option maxHeartbeats 8000000 in
theorem trn_frame (B : Nat) (ja : Option Addr) (jn jc n S wb i qb qc ms tn : Nat) (l : Nat → LQ) (ws : Nat → Nat) (hT : TInv tn ws) (hBS : B ≤ S) (hBw : B ≤ wb) (hn1 : 13 ≤ n) (hn2 : n ≤ 2048) (hms : ms ≤ 255) :
    Tri Try.prog 181 (pieceOf Try.f3 [1, 1, 1, 1, 1, 1, 0, 1, 0, 0, 1, 0, 0, 1, 1, 1, 1]) (fun y w => SX y ja jn jc n S wb i ∧ y 13 = .bool (someQ l 7) ∧ TM w S wb qb qc n ms tn l (tick l ws))
      (fun y w y' w' => FrR B w w' ja jn jc n S wb i ms (nextOf l tn (n - 12)) (upd (tick l ws) (nextOf l tn (n - 12)).ch) y') := by
  rintro Q y w ⟨⟨s1, s5, s6, s7, s8, s9⟩, s13, hM⟩ hQ
  have HQ := hid hQ
  have HM := hid hM
  clear hQ
  have htn := hT.tn6
  obtain ⟨hT2, hcase⟩ := turns (l := l) (room := n - 12) hT
  have hNx := nextOf_ok l tn (n - 12) hM.sl.k htn (by omega)
  have hnx := next_ok 3 n ms tn qb qc 0 l w hM.sl (by decide) hn1 hn2 hms htn (by decide)
  unfold sv at hnx
  rw [show ((3 : Nat) : Int) = 3 from rfl, show ((0 : Nat) : Int) = 0 from rfl] at hnx
  obtain ⟨room, hroom⟩ : ∃ r, r = n - 12 := ⟨_, rfl⟩
  rw [← hroom] at hT2 hcase hNx hnx HQ
  have Hrn := hid (show 12 + room = n by omega)
  have hr0 : 1 ≤ room ∧ room ≤ 2036 := by omega
  clear hroom
  generalize nextOf l tn room = nx at *
  obtain ⟨m1, m2, m3, m4, m5, m6, m7⟩ := hNx
  have HA := hid m6
  have Hdl := hid m5
  have HT2 := hid hT2
  clear m5 m6 m7 hT2
  have t0 : w.cell? ⟨S, 0, none⟩ = some (.int .i64 3) := by rw [cell_of_row _ _ _ _ _ _ hM.bx]; rfl
  have t1 : w.cell? ⟨S, 1, none⟩ = some (.int .i64 (n : Int)) := by rw [cell_of_row _ _ _ _ _ _ hM.bx]; rfl
  have t2 : w.cell? ⟨S, 2, none⟩ = some (.int .i64 (ms : Int)) := by rw [cell_of_row _ _ _ _ _ _ hM.bx]; rfl
  have t3 : w.cell? ⟨S, 3, none⟩ = some (.int .i64 (tn : Int)) := by rw [cell_of_row _ _ _ _ _ _ hM.bx]; rfl
  have t4 : w.cell? ⟨S, 4, none⟩ = some (.slice (some ⟨qb, 0, none⟩) 7 qc) := by rw [cell_of_row _ _ _ _ _ _ hM.bx]; rfl
  have HlS := hid (show B ≤ w.heap.size from Nat.le_trans hBS (Nat.le_of_lt (row_lt hM.bx)))
  clear hM hT
  conv => arg 2; whnf
  rw [fr181]
  simp only [s1, s5, s6, s7, s8, s9, s13]
  clear s1 s5 s6 s7 s8 s9 s13
  refine wp_seq_k (fun K0 hK0 => ?_)
  go_wp2_with fail
  refine hnx.mono ?_
  rintro e W1 ⟨⟨qb2, qc2, da, dc, rfl, hs2, ho⟩, hb1⟩
  unfold sv
  rw [show ((3 : Nat) : Int) = 3 from rfl]
  have HM1 := hid (HM.out.below hb1)
  have hbx := HM1.out.bx
  have t0 : W1.cell? ⟨S, 0, none⟩ = some (.int .i64 3) := by rw [cell_of_row _ _ _ _ _ _ hbx]; rfl
  have t1 : W1.cell? ⟨S, 1, none⟩ = some (.int .i64 (n : Int)) := by rw [cell_of_row _ _ _ _ _ _ hbx]; rfl
  have t2 : W1.cell? ⟨S, 2, none⟩ = some (.int .i64 (ms : Int)) := by rw [cell_of_row _ _ _ _ _ _ hbx]; rfl
  have t3 : W1.cell? ⟨S, 3, none⟩ = some (.int .i64 (tn : Int)) := by rw [cell_of_row _ _ _ _ _ _ hbx]; rfl
  have t4 : W1.cell? ⟨S, 4, none⟩ = some (.slice (some ⟨qb, 0, none⟩) 7 qc) := by rw [cell_of_row _ _ _ _ _ _ hbx]; rfl
  have fz := frozen_row hbx
  obtain ⟨f1, f2⟩ := five hbx (.int .i64 3) (.int .i64 (n : Int)) (.int .i64 (((ms + 1) % 256 : Nat) : Int)) (.int .i64 (nx.tn : Int)) (.slice (some ⟨qb2, 0, none⟩) 7 qc2)
  have HM2 := hid (HM1.out.box hs2 f2 f1)
  have HO2 := hid (ho.kept f2 (own_ne ho hbx (by decide)))
  have HB1 : Below B w W1 := hb1.mono HlS.out
  have HB2 := hid (HB1.grown f2 (Nat.le_trans hBS (Nat.le_of_lt (row_lt hbx))) (fun k e => by cases e; exact hBS))
  have HlS2 := hid (Nat.le_trans (Nat.le_trans HlS.out hb1.size) f2.size)
  obtain ⟨ms2, hms2⟩ : ∃ m, m = (ms + 1) % 256 := ⟨_, rfl⟩
  rw [← hms2] at HM2 HB2 HO2 HlS2 ⊢
  have Hms2 := hid hms2
  clear hbx f1 f2 HM1 HB1 hnx hs2 ho hb1 HM HlS hms2
  go_wp2_with fail
  refine hK0.out _ _ ?_
  clear t0 t1 t2 t3 t4 fz
  generalize ((((W1.setCell ⟨S, 0, none⟩ (.int .i64 3)).setCell ⟨S, 1, none⟩ (.int .i64 (n : Int))).setCell ⟨S, 2, none⟩ (.int .i64 (ms2 : Int))).setCell ⟨S, 3, none⟩ (.int .i64 (nx.tn : Int))).setCell ⟨S, 4, none⟩ (.slice (some ⟨qb2, 0, none⟩) 7 qc2) = W2 at *
  have t4 : W2.cell? ⟨S, 4, none⟩ = some (.slice (some ⟨qb2, 0, none⟩) 7 qc2) := by rw [cell_of_row _ _ _ _ _ _ HM2.out.bx]; rfl
  refine wp_seq_k (fun K1 hK1 => ?_)
  go_wp2_with fail
  refine hK1.out _ _ ?_
  clear t4
  have hup := unpack_ok 3 nx.ch ms nx.ow nx.fi da room dc nx.data 0 W2 (by decide) m1 hms m2 m3 (by decide) (by rw [Hrn.out]; exact Rd.ofOwn HO2.out) HA.out Hdl.out hr0.1 hr0.2
  rw [Hrn.out] at hup
  refine wp_seq_k (fun K2 hK2 => ?_)
  go_wp2_with fail
  refine hup.mono ?_
  rintro e W3 ⟨⟨ua, uc, rfl, _⟩, hb3⟩
  rw [show ((3 : Nat) : Int) = 3 from rfl, show ((0 : Nat) : Int) = 0 from rfl]
  have HM3 := hid (HM2.out.below hb3)
  have HB3 := hid (HB2.out.trans (hb3.mono HlS2.out))
  have HlS3 := hid (Nat.le_trans HlS2.out hb3.size)
  clear hup HM2 HB2 HO2 hb3 HlS2
  go_wp2_with fail
  refine hK2.out _ _ ?_
  have r4 := heap_alloc_new W3 (.cells #[.int .i64 3, .int .i64 (nx.ch : Int), .int .i64 (ms : Int), .int .i64 (nx.ow : Int), .int .i64 (nx.fi : Int)] 46)
  have b4 := below_alloc W3 (.cells #[.int .i64 3, .int .i64 (nx.ch : Int), .int .i64 (ms : Int), .int .i64 (nx.ow : Int), .int .i64 (nx.fi : Int)] 46)
  have HM4 := hid (HM3.out.below b4)
  have HB4 := hid (HB3.out.trans (b4.mono HlS3.out))
  have HlS4 := hid (Nat.le_trans HlS3.out b4.size)
  obtain ⟨H, hH⟩ : ∃ H, H = W3.heap.size := ⟨_, rfl⟩
  rw [← hH] at r4 ⊢
  clear hH b4 HM3 HB3 HlS3
  generalize W3.alloc (.cells #[.int .i64 3, .int .i64 (nx.ch : Int), .int .i64 (ms : Int), .int .i64 (nx.ow : Int), .int .i64 (nx.fi : Int)] 46) = W4 at *
  have c1 : W4.cell? ⟨H, 1, none⟩ = some (.int .i64 (nx.ch : Int)) := by rw [cell_of_row _ _ _ _ _ _ r4]; rfl
  clear r4
  have g1 : decide ((nx.ch : Int) < 0) = false := decide_eq_false (by omega)
  rcases hcase with ⟨hch, hsq⟩ | ⟨hch, hsq⟩
  · rw [hsq]
    have hch' := hch
    rw [hch'] at c1
    rw [show ((7 : Nat) : Int) = 7 from rfl] at c1
    have HE : Hid (∀ c, c < 7 → tick l ws c = upd (tick l ws) nx.ch c) := fun c hc => by unfold upd; rw [if_neg (by omega)]
    have Hch := hid hch
    have HT6 := hid (fun c hc => (by have := HT2.out.row c hc; omega) : ∀ c, c < 7 → upd (tick l ws) nx.ch c ≤ 6)
    clear hch hch' hsq g1
    refine wp_seq_k (fun K3 hK3 => ?_)
    go_wp2_with fail
    refine hK3.out _ _ ?_
    refine wp_seq_k (fun K4 hK4 => ?_)
    go_wp2_with fail
    refine hK4.out _ _ ?_
    clear c1
    refine wp_seq_k (fun K5 hK5 => ?_)
    go_wp2_with fail
    refine hK5.out _ _ ?_
    refine Tri.use (trn_check ja jn jc n S wb i (upd (tick l ws) nx.ch) HT6.out) rfl ⟨⟨rfl, rfl, rfl, rfl, rfl, rfl⟩, rfl, HM4.out.ir.congr HE.out⟩ ?_
    rintro y' w' ⟨h1, rfl⟩
    refine HQ.out y' w' ⟨⟨qb2, qc2, h1, ?_⟩, HB4.out⟩
    rw [← Hms2.out]
    exact ⟨HM4.out.bx, HM4.out.sl, HM4.out.ir.congr HE.out⟩
  · rw [hsq]
    have e1 : ((nx.ch : Int) == 7) = false := by rw [beq_eq_false_iff_ne]; omega
    have e2 : decide ((nx.ch : Int) = 7) = false := decide_eq_false (by omega)
    have e3 : (nx.ch == 7) = false := by rw [beq_eq_false_iff_ne]; omega
    have g2 : decide ((nx.ch : Int) < 7) = true := decide_eq_true (by omega)
    have g3 : decide (nx.ch < 7) = true := decide_eq_true (by omega)
    have g4 : (nx.ch : Int) < 7 := by omega
    obtain ⟨k0, k1⟩ := HM4.out.ir.cell nx.ch hch
    obtain ⟨i1, i2⟩ := HM4.out.ir.set nx.ch 0 hch
    rw [show ((0 : Nat) : Int) = 0 from rfl] at i1 i2
    have HM5 := hid (HM4.out.wait i2 (i1.congr (ws' := upd (tick l ws) nx.ch) (fun c hc => rfl)))
    have HB5 := hid (HB4.out.grown i2 HlS4.out (fun k e => by cases e; exact hBw))
    have HT6 := hid (fun c hc => (by have := HT2.out.row c hc; omega) : ∀ c, c < 7 → upd (tick l ws) nx.ch c ≤ 6)
    clear i1 i2 hsq HM4 HB4
    generalize upd (tick l ws) nx.ch = ws2 at *
    generalize tick l ws nx.ch = wk at *
    refine wp_seq_k (fun K3 hK3 => ?_)
    go_wp2_with fail
    refine hK3.out _ _ ?_
    refine wp_seq_k (fun K4 hK4 => ?_)
    go_wp2_with fail
    refine hK4.out _ _ ?_
    clear c1 e1 e2 e3 g1 g2 g3 g4 k0 k1
    refine wp_seq_k (fun K5 hK5 => ?_)
    go_wp2_with fail
    refine hK5.out _ _ ?_
    refine Tri.use (trn_check ja jn jc n S wb i ws2 HT6.out) rfl ⟨⟨rfl, rfl, rfl, rfl, rfl, rfl⟩, rfl, HM5.out.ir⟩ ?_
    rintro y' w' ⟨h1, rfl⟩
    refine HQ.out y' _ ⟨⟨qb2, qc2, h1, ?_⟩, HB5.out⟩
    rw [← Hms2.out]
    exact HM5.out
end Go.Proofs.Ytjiipmalahhcpaa
