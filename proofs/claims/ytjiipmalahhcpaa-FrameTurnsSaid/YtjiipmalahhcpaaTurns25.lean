/- FrameTurns: how long each channel has waited. -/
import Derived.Test.YtjiipmalahhcpaaTurns24
namespace Go.Proofs.Ytjiipmalahhcpaa
set_option linter.unusedVariables false
open Go.RowKit

def tickTo (l : Nat → LQ) (ws : Nat → Nat) (k c : Nat) : Nat := if c < k then tick l ws c else ws c
theorem tickTo_succ (l : Nat → LQ) (ws : Nat → Nat) (k x : Nat) : tickTo l ws (k + 1) x = if x = k then tick l ws k else tickTo l ws k x := by
  unfold tickTo
  by_cases e : x = k
  · subst e
    rw [if_pos (Nat.lt_succ_self x), if_pos rfl]
  · rw [if_neg e]
    by_cases h : x < k
    · rw [if_pos h, if_pos (by omega)]
    · rw [if_neg h, if_neg (by omega)]
def TkI (B : Nat) (w0 : World) (ja : Option Addr) (jn jc n S wb i qb qc ms tn : Nat) (l : Nat → LQ) (ws : Nat → Nat) (y : Nat → Value) (W : World) : Prop :=
  ∃ k : Nat, k ≤ 7 ∧ SX y ja jn jc n S wb i ∧ y 13 = .bool (someQ l k) ∧ y 14 = .int .i64 (k : Int) ∧ TM W S wb qb qc n ms tn l (tickTo l ws k) ∧ Below B w0 W
theorem pkl_len {W : World} {qb qc : Nat} {l : Nat → LQ} (h : SndL W qb qc l) (c : Nat) (hc : c < 7) : ∃ pa pc, W.cell? ⟨qb, c * 3 + 1, none⟩ = some (.slice pa (l c).ps.length pc) := by
  obtain ⟨q, h1, h2, h3⟩ := h.ex
  obtain ⟨_, k1, _, _⟩ := h1.cell c hc
  have := pk_len (h2 c hc)
  rw [h3 c hc] at this
  rw [this] at k1
  exact ⟨_, _, k1⟩
set_option maxRecDepth 1000000 in
set_option maxHeartbeats 8000000 in
theorem trn_tick (B : Nat) (ja : Option Addr) (jn jc n S wb i qb qc ms tn : Nat) (l : Nat → LQ) (ws : Nat → Nat) (hw : ∀ c, c < 7 → ws c ≤ 6) (hB : B ≤ wb) :
    Tri Try.prog 181 (pieceOf Try.f3 [1, 1, 1, 1, 1, 1, 0, 1, 0, 0, 1, 0, 0, 1, 1, 0, 1]) (fun y w => SX y ja jn jc n S wb i ∧ (y 13 = .bool false ∧ y 14 = .int .i64 0) ∧ TM w S wb qb qc n ms tn l ws)
      (fun y w y' w' => SX y' ja jn jc n S wb i ∧ y' 13 = .bool (someQ l 7) ∧ TM w' S wb qb qc n ms tn l (tick l ws) ∧ Below B w w') := by
  rintro Q y w ⟨⟨t1, t5, t6, t7, t8, t9⟩, ⟨t13, t14⟩, hM⟩ hQ
  have HQ := hid hQ
  have HW := hid hw
  clear hQ hw
  have hqc := hM.sl.le
  have hqm := hM.sl.mx
  unfold maxLen at hqm
  have hlen := hid (fun c hc => (hM.sl.k c hc).len : ∀ c, c < 7 → (l c).ps.length ≤ 200)
  conv => arg 2; whnf
  refine wp_block ?_
  refine wp_loop_fr 181 (TkI B w ja jn jc n S wb i qb qc ms tn l ws) (fun y' _ => 7 - (intOf (y' 14)).toNat) ⟨rfl, rfl, 0, by omega, ⟨t1, t5, t6, t7, t8, t9⟩, t13, t14, ⟨hM.bx, hM.sl, hM.ir.congr (fun c hc => rfl)⟩, Below.refl _ _⟩ ?_
  clear t1 t5 t6 t7 t8 t9 t13 t14 hM
  rintro z W ⟨k, hk, ⟨s1, s5, s6, s7, s8, s9⟩, s13, s14, hM, hb⟩
  have HM := hid hM
  have HB := hid hb
  clear hM hb
  rw [fr181]
  simp only [s1, s5, s6, s7, s8, s9, s13, s14]
  clear s1 s5 s6 s7 s8 s9 s13 s14
  by_cases hlt : k < 7
  · have d1 : decide ((k : Int) < 7) = true := decide_eq_true (by omega)
    have p4 : W.cell? ⟨S, 4, none⟩ = some (.slice (some ⟨qb, 0, none⟩) 7 qc) := by rw [cell_of_row _ _ _ _ _ _ HM.out.bx]; rfl
    obtain ⟨pa, pc, k1⟩ := pkl_len HM.out.sl k hlt
    obtain ⟨c0, fz⟩ := HM.out.ir.cell k hlt
    have hk7 : (k : Int) < 7 := by omega
    have htk : tickTo l ws k k = ws k := by unfold tickTo; rw [if_neg (Nat.lt_irrefl k)]
    rw [htk] at c0
    have hwk := HW.out k hlt
    have hll := hlen.out k hlt
    have hsome := someQ_succ l k
    have HlB := hid (Nat.le_trans hB (Nat.le_of_lt (by obtain ⟨cs, h1, _⟩ := HM.out.ir.ex; exact row_lt h1)))
    obtain ⟨sq, hsq⟩ : ∃ sq, sq = someQ l k := ⟨_, rfl⟩
    rw [← hsq] at hsome ⊢
    have Hsq := hid hsq
    clear hsq
    by_cases he : (l k).ps = []
    · have hl0 : (l k).ps.length = 0 := by rw [he]; rfl
      rw [hl0] at k1 hll
      have Hs2 : Hid (someQ l (k + 1) = sq) := by unfold Hid; rw [hsome, he]; simp
      obtain ⟨i1, i2⟩ := HM.out.ir.set k 0 hlt
      have HM2 := hid (HM.out.wait i2 (i1.congr (ws' := tickTo l ws (k + 1)) (fun c hc => by rw [tickTo_succ]; unfold tick; rw [if_pos he])))
      have HB2 := hid (HB.out.grown i2 HlB.out (fun k e => by cases e; exact hB))
      rw [show ((0 : Nat) : Int) = 0 from rfl] at HM2 HB2
      clear hsome hl0 he htk hwk i1 i2 HM HB
      go_wp2_with fail
      refine ⟨rfl, rfl, ⟨k + 1, by omega, ⟨rfl, rfl, rfl, rfl, rfl, rfl⟩, ?_, ?_, HM2.out, HB2.out⟩, ?_⟩
      · rw [Hs2.out]; rfl
      · show Value.int .i64 _ = Value.int .i64 _
        go_num
      · show 7 - (intOf (Value.int .i64 _)).toNat < _
        simp [intOf]
        omega
    · have hl0 : 0 < (l k).ps.length := List.length_pos_iff.2 he
      have Hs2 : Hid (someQ l (k + 1) = true) := by
        unfold Hid
        rw [hsome]
        cases hp : (l k).ps with
        | nil => exact absurd hp he
        | cons a r => simp
      have Htk : Hid (tick l ws k = ws k + 1) := by unfold Hid tick; rw [if_neg he]
      obtain ⟨i1, i2⟩ := HM.out.ir.set k (ws k + 1) hlt
      have HM2 := hid (HM.out.wait i2 (i1.congr (ws' := tickTo l ws (k + 1)) (fun c hc => by rw [tickTo_succ, Htk.out])))
      have HB2 := hid (HB.out.grown i2 HlB.out (fun k e => by cases e; exact hB))
      have f1 : (ws k : Int) + 1 = ((ws k + 1 : Nat) : Int) := by omega
      have f2 : IntKind.i64.wrap ((ws k + 1 : Nat) : Int) = ((ws k + 1 : Nat) : Int) := IntWalk.i64_in _ (by omega)
      have f3 := f2
      rw [← f1] at f3
      have f4 : IntKind.i64.wrap ((ws k : Int) + 1) = ((ws k + 1 : Nat) : Int) := by rw [f3]; exact f1
      clear f3
      generalize ws k + 1 = wk1 at *
      generalize (l k).ps.length = ll at *
      have d2 : decide (0 < (ll : Int)) = true := decide_eq_true (by omega)
      have d3 : decide (0 < ll) = true := decide_eq_true (by omega)
      clear hsome htk i1 i2 HM HB Htk he
      go_wp2_with fail
      refine ⟨rfl, rfl, ⟨k + 1, by omega, ⟨rfl, rfl, rfl, rfl, rfl, rfl⟩, ?_, ?_, HM2.out, HB2.out⟩, ?_⟩
      · rw [Hs2.out]; rfl
      · show Value.int .i64 _ = Value.int .i64 _
        go_num
      · show 7 - (intOf (Value.int .i64 _)).toNat < _
        simp [intOf]
        omega
  · obtain rfl : k = 7 := by omega
    have HM2 := hid (TM.mk HM.out.bx HM.out.sl (HM.out.ir.congr (ws' := tick l ws) (fun c hc => by unfold tickTo; rw [if_pos hc])))
    rw [show ((7 : Nat) : Int) = 7 from rfl]
    generalize someQ l 7 = sq at *
    go_wp2_with fail
    exact q_fr (N := 181) HQ.out rfl ⟨⟨rfl, rfl, rfl, rfl, rfl, rfl⟩, rfl, HM2.out, HB.out⟩
end Go.Proofs.Ytjiipmalahhcpaa
/- FrameTurns: no channel waited for seven frames; a packet is put. -/
namespace Go.Proofs.Ytjiipmalahhcpaa
set_option linter.unusedVariables false
open Go.RowKit

def CkI (w0 : World) (ja : Option Addr) (jn jc n S wb i : Nat) (y : Nat → Value) (W : World) : Prop :=
  ∃ k : Nat, k ≤ 7 ∧ SX y ja jn jc n S wb i ∧ y 20 = .int .i64 (k : Int) ∧ W = w0
set_option maxRecDepth 1000000 in
set_option maxHeartbeats 8000000 in
theorem trn_check (ja : Option Addr) (jn jc n S wb i : Nat) (ws : Nat → Nat) (hw : ∀ c, c < 7 → ws c ≤ 6) :
    Tri Try.prog 181 (pieceOf Try.f3 [1, 1, 1, 1, 1, 1, 0, 1, 0, 0, 1, 0, 0, 1, 1, 1, 1, 1, 1, 1, 1, 1, 1]) (fun y w => SX y ja jn jc n S wb i ∧ y 20 = .int .i64 0 ∧ IR w wb ws)
      (fun y w y' w' => SX y' ja jn jc n S wb i ∧ w' = w) := by
  rintro Q y w ⟨⟨t1, t5, t6, t7, t8, t9⟩, t20, hM⟩ hQ
  have HQ := hid hQ
  have HW := hid hw
  have HM := hid hM
  clear hQ hw hM
  conv => arg 2; whnf
  refine wp_block ?_
  refine wp_loop_fr 181 (CkI w ja jn jc n S wb i) (fun y' _ => 7 - (intOf (y' 20)).toNat) ⟨rfl, rfl, 0, by omega, ⟨t1, t5, t6, t7, t8, t9⟩, t20, rfl⟩ ?_
  clear t1 t5 t6 t7 t8 t9 t20
  rintro z W ⟨k, hk, ⟨s1, s5, s6, s7, s8, s9⟩, s20, rfl⟩
  rw [fr181]
  simp only [s1, s5, s6, s7, s8, s9, s20]
  clear s1 s5 s6 s7 s8 s9 s20
  by_cases hlt : k < 7
  · have d1 : decide ((k : Int) < 7) = true := decide_eq_true (by omega)
    obtain ⟨c0, _⟩ := HM.out.cell k hlt
    have hk7 : (k : Int) < 7 := by omega
    have hwk := HW.out k hlt
    generalize ws k = wk at *
    have d2 : decide (7 ≤ (wk : Int)) = false := decide_eq_false (by omega)
    have d3 : decide (7 ≤ wk) = false := decide_eq_false (by omega)
    have d4 : decide ((wk : Int) ≥ 7) = false := decide_eq_false (by omega)
    go_wp2_with fail
    refine ⟨rfl, rfl, ⟨k + 1, by omega, ⟨rfl, rfl, rfl, rfl, rfl, rfl⟩, ?_, rfl⟩, ?_⟩
    · show Value.int .i64 _ = Value.int .i64 _
      go_num
    · show 7 - (intOf (Value.int .i64 _)).toNat < _
      simp [intOf]
      omega
  · obtain rfl : k = 7 := by omega
    rw [show ((7 : Nat) : Int) = 7 from rfl]
    go_wp2_with fail
    exact q_fr (N := 181) HQ.out rfl ⟨⟨rfl, rfl, rfl, rfl, rfl, rfl⟩, rfl⟩
/-- a job as it came in -/
structure Job where
  put : Int
  ch : Int
  lg : Int
  lost : Bool
instance : Inhabited Job := ⟨⟨0, 0, 0, false⟩⟩
def InI (z : Int) : Prop := -9223372036854775808 ≤ z ∧ z ≤ 9223372036854775807
structure RdJ (W : World) (a : Option Addr) (n c : Nat) (f : Nat → Job) : Prop where
  le : n ≤ c
  max : c ≤ maxLen
  mem : 0 < n → ∃ b off, a = some ⟨b, off, none⟩ ∧ b < W.heap.size ∧ ∀ j, j < n → W.cell? ⟨b, off + j * 4, none⟩ = some (.int .i64 (f j).put) ∧ W.cell? ⟨b, off + j * 4 + 1, none⟩ = some (.int .i64 (f j).ch) ∧ W.cell? ⟨b, off + j * 4 + 2, none⟩ = some (.int .i64 (f j).lg) ∧ W.cell? ⟨b, off + j * 4 + 3, none⟩ = some (.bool (f j).lost)
  inr : ∀ j, j < n → InI (f j).put ∧ InI (f j).ch ∧ InI (f j).lg
theorem RdJ.cells {W W' : World} {a : Option Addr} {n c : Nat} {f : Nat → Job} (h : RdJ W a n c f) (hb : Below W.heap.size W W') (j : Nat) (hj : j < n) :
    ∃ b off, a = some ⟨b, off, none⟩ ∧ W'.cell? ⟨b, off + j * 4, none⟩ = some (.int .i64 (f j).put) ∧ W'.cell? ⟨b, off + j * 4 + 1, none⟩ = some (.int .i64 (f j).ch) ∧ W'.cell? ⟨b, off + j * 4 + 2, none⟩ = some (.int .i64 (f j).lg) ∧ W'.cell? ⟨b, off + j * 4 + 3, none⟩ = some (.bool (f j).lost) := by
  obtain ⟨b, off, h1, h2, h3⟩ := h.mem (by omega)
  obtain ⟨k0, k1, k2, k3⟩ := h3 j hj
  have hk := fun o => World.cell?_of_block (a := ⟨b, o, none⟩) (hb.block b h2)
  exact ⟨b, off, h1, (hk _).trans k0, (hk _).trans k1, (hk _).trans k2, (hk _).trans k3⟩
end Go.Proofs.Ytjiipmalahhcpaa
