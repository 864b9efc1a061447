/- frame: Next: the loop over the queues. -/
import Derived.Test.YtjiipmalahhcpaaTurns22
namespace Go.Proofs.Ytjiipmalahhcpaa
set_option linter.unusedVariables false
open Go.RowKit

def NxI (w0 : World) (P H st : Nat) (l : Nat → LQ) (tn : Nat) (da : Option Addr) (room dc : Nat) (y : Nat → Value) (W : World) : Prop :=
  ∃ k : Nat, k ≤ 7 ∧ SN y P H st da room dc ∧ y 46 = .int .i64 7 ∧ y 47 = .int .i64 (k : Int) ∧ W = w0 ∧ firstQ l tn 7 0 = firstQ l tn (7 - k) k
theorem pk_len {W : World} {q : QS} (h : PkT W q.pa q.pn q.pc q.R) : q.pn = q.abs.ps.length := by
  show _ = (conts q.R).length
  rw [conts_len]
  have := h.rd.rd.len
  rw [rcs_len] at this
  exact this.symm
set_option maxRecDepth 1000000 in
set_option maxHeartbeats 8000000 in
theorem nx_l (P H qb qc cr sz ms tn ma st : Nat) (q : Nat → QS) (l : Nat → LQ) (da : Option Addr) (room dc : Nat) (hPq : P ≤ qb) (hPH : P ≤ H) (hl : ∀ x, x < 7 → (q x).abs = l x) (hk : ∀ x, x < 7 → (l x).Ok) (htn : tn ≤ 6) (h0 : 0 < room) (hr : room ≤ 2036) (hqc : 7 ≤ qc) (hqm : qc ≤ maxLen) :
    Tri Try.prog 109 (pieceOf Try.f9 [1, 1, 1, 1, 1, 1, 0, 1]) (fun y w => SN y P H st da room dc ∧ (y 46 = .int .i64 7 ∧ y 47 = .int .i64 0) ∧ NM w P H qb qc cr sz ms tn 7 ma 0 2046 q da room dc (List.replicate room 0))
      (fun y w y' w' => NxE w w' P H qb qc cr sz ms ma st (nextOf l tn room) room y') := by
  rintro Q y w ⟨⟨t1, t2, t4, t8, t9⟩, ⟨t46, t47⟩, hM⟩ hQ
  have HQ := hid hQ
  have HM := hid hM
  have HL := hid hl
  have HK := hid hk
  clear hQ hM hl hk
  unfold maxLen at hqm
  conv => arg 2; whnf
  refine wp_block ?_
  refine wp_loop_fr 109 (NxI w P H st l tn da room dc) (fun y' _ => 7 - (intOf (y' 47)).toNat) ⟨rfl, rfl, 0, by omega, ⟨t1, t2, t4, t8, t9⟩, t46, t47, rfl, rfl⟩ ?_
  clear t1 t2 t4 t8 t9 t46 t47
  rintro z W ⟨k, hk7, ⟨s1, s2, s4, s8, s9⟩, s46, s47, rfl, hf⟩
  have HF := hid hf
  clear hf
  rw [fr109]
  simp only [s1, s2, s4, s8, s9, s46, s47]
  clear s1 s2 s4 s8 s9 s46 s47
  by_cases hlt : k < 7
  · have d1 : decide ((k : Int) < 7) = true := decide_eq_true (by omega)
    obtain ⟨c, hc⟩ : ∃ c, c = (tn + k) % 7 := ⟨_, rfl⟩
    have hc7 : c < 7 := by omega
    have hc7' : (c : Int) < 7 := by omega
    have w1 : IntKind.i64.wrap ((tn : Int) + (k : Int)) = (tn : Int) + (k : Int) := IntWalk.i64_in _ (by omega)
    have w2 : ((tn : Int) + (k : Int)).tmod 7 = (c : Int) := by rw [Int.tmod_eq_emod_of_nonneg (by omega)]; omega
    have w3 : IntKind.i64.wrap (c : Int) = (c : Int) := IntWalk.i64_in _ (by omega)
    have p3 : W.cell? ⟨P, 3, none⟩ = some (.int .i64 (tn : Int)) := by rw [cell_of_row _ _ _ _ _ _ HM.out.bx]; rfl
    have p4 : W.cell? ⟨P, 4, none⟩ = some (.slice (some ⟨qb, 0, none⟩) 7 qc) := by rw [cell_of_row _ _ _ _ _ _ HM.out.bx]; rfl
    obtain ⟨_, k1, _, _⟩ := HM.out.qr.cell c hc7
    have hpn := pk_len (HM.out.pk c hc7)
    rw [HL.out c hc7] at hpn
    have hst : Hid (firstQ l tn (7 - k) k = if (l c).ps = [] then firstQ l tn (7 - (k + 1)) (k + 1) else some c) := by
      unfold Hid
      rw [show 7 - k = (7 - (k + 1)) + 1 by omega, hc]
      rfl
    have Hc := hid hc
    clear hc
    have hpm : (q c).pn ≤ 200 := by rw [hpn]; exact (HK.out c hc7).len
    by_cases he : (l c).ps = []
    · have hp0 : (q c).pn = 0 := by rw [hpn, he]; rfl
      rw [hp0] at k1
      have HF2 : Hid (firstQ l tn 7 0 = firstQ l tn (7 - (k + 1)) (k + 1)) := by
        unfold Hid
        rw [HF.out, hst.out, if_pos he]
      clear hst he hpn hp0 hpm HF
      go_wp2_with fail
      refine ⟨rfl, rfl, ⟨k + 1, by omega, ⟨rfl, rfl, rfl, rfl, rfl⟩, rfl, ?_, rfl, HF2.out⟩, ?_⟩
      · show Value.int .i64 _ = Value.int .i64 _
        go_num
      · show 7 - (intOf (Value.int .i64 _)).toNat < _
        simp [intOf]
        omega
    · have hps : 0 < (q c).pn := by
        rw [hpn]
        exact List.length_pos_iff.2 he
      have e1 : (((q c).pn : Int) == 0) = false := by rw [beq_eq_false_iff_ne]; omega
      have e2 : ((q c).pn == 0) = false := by rw [beq_eq_false_iff_ne]; omega
      have e3 : decide (((q c).pn : Int) = 0) = false := decide_eq_false (by omega)
      have HF2 : Hid (nextOf l tn room = nxSome l room c) := by
        unfold Hid nextOf
        rw [HF.out, hst.out, if_neg he]
      clear hst hpn HF
      have Hpn := hid hps
      clear hps
      go_upto_block 2 with (fail)
      refine wp_block ?_
      refine wp_seq_k (fun K0 hK0 => ?_)
      go_wp2_with fail
      refine hK0.out _ _ ?_
      refine wp_seq_k (fun K1 hK1 => ?_)
      go_wp2_with fail
      refine hK1.out _ _ ?_
      refine wp_seq_k (fun K2 hK2 => ?_)
      go_wp2_with fail
      refine hK2.out _ _ ?_
      refine wp_seq_k (fun K3 hK3 => ?_)
      go_wp2_with fail
      refine hK3.out _ _ ?_
      clear p3 p4 k1 e1 e2 e3 w1 w2 w3 d1
      have hok : (q c).abs.Ok := by rw [HL.out c hc7]; exact HK.out c hc7
      refine wp_seq_k (fun K4 hK4 => ?_)
      refine Tri.use (nx_15 P H qb qc cr sz ms tn 7 ma 0 2046 st c q da room dc (List.replicate room 0) hc7 hPH) rfl ⟨⟨rfl, rfl, rfl, rfl, rfl⟩, ⟨rfl, rfl⟩, HM.out⟩ ?_
      rintro y1 W1 ⟨a1, a2, a3, a4⟩
      refine hK4.out _ _ ?_
      refine wp_seq (nx_16 P H qb qc cr sz ms tn c ma (q c).own 2046 st c q da room dc (List.replicate room 0) hc7 hPq hok.own _ y1 W1 ⟨a1, a2, a3⟩ ?_)
      rintro y2 W2 ⟨b1, b2, b3, b4⟩
      refine wp_seq (nx_17 P H qb qc cr sz ms tn c ma (q c).own 2046 st c _ da room dc (List.replicate room 0) hc7 _ y2 W2 ⟨b1, b2, b3⟩ ?_)
      rintro y3 W3 ⟨c1, c2, c3, c4⟩
      have hq2 : (setQ q c ⟨((q c).own + 1) % 256, (q c).pa, (q c).pn, (q c).pc, (q c).R, (q c).gone⟩ c).abs = ⟨((q c).own + 1) % 256, (q c).gone, conts (q c).R⟩ := by rw [setQ_self]; rfl
      have hok2 : (setQ q c ⟨((q c).own + 1) % 256, (q c).pa, (q c).pn, (q c).pc, (q c).R, (q c).gone⟩ c).abs.Ok := by
        rw [hq2]
        exact ⟨by show ((q c).own + 1) % 256 ≤ 255; omega, hok.len, hok.enc, hok.g0, hok.g1⟩
      refine wp_seq (nx_18 P H qb qc cr sz ms ((c + 1) % 7) c ma (q c).own 2046 st c _ da room dc (List.replicate room 0) hc7 hPq hPH hok2 h0 hr _ y3 W3 ⟨c1, c2, c3⟩ ?_)
      rintro y4 W4 ⟨⟨x, da', dc', f1, f2, f3, f4, f5⟩, f6⟩
      have hld : ldOf (setQ q c ⟨((q c).own + 1) % 256, (q c).pa, (q c).pn, (q c).pc, (q c).R, (q c).gone⟩ c).abs room = ldOf (l c) room := by
        rw [hq2, ← HL.out c hc7]; rfl
      rw [hld] at f2 f3 f4
      have how : (q c).own = (l c).own := by rw [← HL.out c hc7]; rfl
      rw [setQ_self] at f5
      rw [how] at f2 f5
      have HE : Hid (NxE W W4 P H qb qc cr sz ms ma st (nextOf l tn room) room y4) := by
        unfold Hid
        rw [HF2.out]
        refine ⟨⟨_, da', dc', f1, f2, fun z hz => ?_⟩, a4.trans (b4.trans (c4.trans f6))⟩
        unfold nxSome
        dsimp only
        by_cases e : z = c
        · subst e
          rw [setQ_self, if_pos rfl]
          unfold QS.abs
          rw [f3, f4, f5]
        · rw [setQ_ne _ _ e, setQ_ne _ _ e, if_neg e]
          exact HL.out z hz
      show Code.wp Try.prog (Code.exit 1) _ _ _
      go_wp2_with fail
      exact HQ.out y4 W4 HE.out
  · obtain rfl : k = 7 := by omega
    have HF2 : Hid (nextOf l tn room = nxNone l tn room) := by
      unfold Hid nextOf
      rw [HF.out]
      rfl
    rw [show ((7 : Nat) : Int) = 7 from rfl]
    go_wp2_with fail
    refine q_fr (N := 109) HQ.out rfl ?_
    rw [HF2.out]
    exact ⟨⟨q, da, dc, ⟨rfl, rfl, rfl, rfl, rfl⟩, HM.out, HL.out⟩, Below.refl _ _⟩
end Go.Proofs.Ytjiipmalahhcpaa
/- frame: Next. -/
namespace Go.Proofs.Ytjiipmalahhcpaa
set_option linter.unusedVariables false
open Go.RowKit

structure NxOk (nx : NX) (room : Nat) : Prop where
  ch : nx.ch ≤ 7
  ow : nx.ow ≤ 255
  fi : nx.fi ≤ 2047
  tn : nx.tn ≤ 6
  len : nx.data.length = room
  all : AllB nx.data
  k : ∀ x, x < 7 → (nx.l x).Ok
theorem firstQ_some (l : Nat → LQ) (turn : Nat) : ∀ (n k c : Nat), firstQ l turn n k = some c → c < 7 ∧ (l c).ps ≠ []
  | 0, k, c, h => by cases h
  | n + 1, k, c, h => by
    unfold firstQ at h
    split at h
    · exact firstQ_some l turn n (k + 1) c h
    · cases h
      exact ⟨Nat.mod_lt _ (by decide), by assumption⟩
theorem ldN_ok (room : Nat) (hr : room ≤ 2048) : ∀ (f : Nat) (s : LS), s.Ok → s.data.length ≤ room → room - s.data.length ≤ f → (ldN room f s).Ok ∧ (ldN room f s).data.length = room
  | 0, s, h, h1, h2 => ⟨h, by show s.data.length = room; omega⟩
  | f + 1, s, h, h1, h2 => by
    unfold ldN
    by_cases e : s.data.length < room
    · rw [if_pos e]
      obtain ⟨k1, k2, k3⟩ := h.step room hr e
      exact ldN_ok room hr f _ k1 k3 (by omega)
    · rw [if_neg e]
      exact ⟨h, by omega⟩
theorem ldOf_ok (l : LQ) (h : l.Ok) (room : Nat) (hr : room ≤ 2048) : (ldOf l room).Ok ∧ (ldOf l room).data.length = room :=
  ldN_ok room hr room _ ⟨h.enc, h.len, h.g0, h.g1, Nat.le_refl _⟩ (Nat.zero_le _) (by show room - 0 ≤ room; omega)
theorem nextOf_ok (l : Nat → LQ) (turn room : Nat) (hk : ∀ x, x < 7 → (l x).Ok) (htn : turn ≤ 6) (hr : room ≤ 2036) : NxOk (nextOf l turn room) room := by
  unfold nextOf
  cases hf : firstQ l turn 7 0 with
  | none =>
    exact ⟨Nat.le_refl _, Nat.zero_le _, by show 2046 ≤ 2047; omega, htn, List.length_replicate, fun x hx => by have := (List.mem_replicate.1 hx).2; omega, hk⟩
  | some c =>
    obtain ⟨hc, _⟩ := firstQ_some l turn 7 0 c hf
    obtain ⟨h1, h2⟩ := ldOf_ok (l c) (hk c hc) room (by omega)
    refine ⟨by show c ≤ 7; omega, (hk c hc).own, h1.fst, by show (c + 1) % 7 ≤ 6; omega, h2, ldOf_all (l c) (hk c hc) room (by omega), fun x hx => ?_⟩
    show (if x = c then _ else l x : LQ).Ok
    by_cases e : x = c
    · rw [if_pos e]
      exact ⟨by show ((l c).own + 1) % 256 ≤ 255; omega, h1.len, h1.enc, h1.g0, h1.g1⟩
    · rw [if_neg e]
      exact hk x hx
structure NextR (W0 W : World) (craft size master st : Nat) (nx : NX) (e : Ending) : Prop where
  ex : ∃ qb qc da dc, e = .returned (.tuple #[sv craft size ((master + 1) % 256) nx.tn qb qc, .slice da size dc, .int .i64 0]) ∧ SndL W qb qc nx.l ∧ W.ownsRow W0.heap.size 5 1 (.slice da size dc) size (vb (frameB craft nx.ch master nx.ow nx.fi nx.data st))
  blw : Below W0.heap.size W0 W
set_option maxRecDepth 1000000 in
set_option maxHeartbeats 8000000 in
theorem next_ok (craft size master turn qb qc st : Nat) (l : Nat → LQ) (W0 : World) (hs : SndL W0 qb qc l) (h1 : craft ≤ 1023) (h2 : 13 ≤ size) (h3 : size ≤ 2048) (h4 : master ≤ 255) (h5 : turn ≤ 6) (h6 : st ≤ 4294967295) :
    Calls Try.prog 9 #[sv craft size master turn qb qc, .int .i64 (st : Int)] W0 fun e w' => NextR W0 w' craft size master st (nextOf l turn (size - 12)) e := by
  have b1 := below_alloc W0 (.cells #[.int .i64 (craft : Int), .int .i64 (size : Int), .int .i64 (master : Int), .int .i64 (turn : Int), .slice (some ⟨qb, 0, none⟩) 7 qc] 26)
  have r1 := heap_alloc_new W0 (.cells #[.int .i64 (craft : Int), .int .i64 (size : Int), .int .i64 (master : Int), .int .i64 (turn : Int), .slice (some ⟨qb, 0, none⟩) 7 qc] 26)
  have z1 : Hid ((W0.alloc (.cells #[.int .i64 (craft : Int), .int .i64 (size : Int), .int .i64 (master : Int), .int .i64 (turn : Int), .slice (some ⟨qb, 0, none⟩) 7 qc] 26)).heap.size = W0.heap.size + 1) := World.size_alloc _ _
  obtain ⟨P, hP⟩ : ∃ P, P = W0.heap.size := ⟨_, rfl⟩
  rw [← hP] at r1 b1 z1
  have HP := hid hP
  have HS := hid hs
  have HNx := hid (nextOf_ok l turn (size - 12) hs.k h5 (by omega))
  obtain ⟨nx, hnx⟩ : ∃ nx, nx = nextOf l turn (size - 12) := ⟨_, rfl⟩
  rw [← hnx] at HNx ⊢
  have Hnx := hid hnx.symm
  clear hnx
  clear hs hP
  unfold sv
  go_enter Try.func9, Try.ntmps9
  refine wp_seq_k (fun K0 hK0 => ?_)
  go_wp2_with fail
  rw [← HP.out]
  refine hK0.out _ _ ?_
  generalize W0.alloc (.cells #[.int .i64 (craft : Int), .int .i64 (size : Int), .int .i64 (master : Int), .int .i64 (turn : Int), .slice (some ⟨qb, 0, none⟩) 7 qc] 26) = V1 at *
  have b2 := below_alloc V1 (.cells #[.int .i64 0, .int .i64 0, .int .i64 0, .int .i64 0, .slice none 0 0] 26)
  have r2 := heap_alloc_new V1 (.cells #[.int .i64 0, .int .i64 0, .int .i64 0, .int .i64 0, .slice none 0 0] 26)
  rw [z1.out] at r2
  have R1 := hid (row_below r1 b2)
  have R2 := hid r2
  have B2 := hid (b1.trans (b2.mono (by rw [z1.out]; exact Nat.le_succ _)))
  have zs2 : Hid ((V1.alloc (.cells #[.int .i64 0, .int .i64 0, .int .i64 0, .int .i64 0, .slice none 0 0] 26)).heap.size = P + 2) := by
    unfold Hid; rw [World.size_alloc, z1.out]
  clear b1 b2 r1 r2
  generalize V1.alloc (.cells #[.int .i64 0, .int .i64 0, .int .i64 0, .int .i64 0, .slice none 0 0] 26) = V2 at *
  have p0 : V2.cell? ⟨P, 0, none⟩ = some (.int .i64 (craft : Int)) := by rw [cell_of_row _ _ _ _ _ _ R1.out]; rfl
  have p1 : V2.cell? ⟨P, 1, none⟩ = some (.int .i64 (size : Int)) := by rw [cell_of_row _ _ _ _ _ _ R1.out]; rfl
  have p2 : V2.cell? ⟨P, 2, none⟩ = some (.int .i64 (master : Int)) := by rw [cell_of_row _ _ _ _ _ _ R1.out]; rfl
  have p3 : V2.cell? ⟨P, 3, none⟩ = some (.int .i64 (turn : Int)) := by rw [cell_of_row _ _ _ _ _ _ R1.out]; rfl
  have p4 : V2.cell? ⟨P, 4, none⟩ = some (.slice (some ⟨qb, 0, none⟩) 7 qc) := by rw [cell_of_row _ _ _ _ _ _ R1.out]; rfl
  have hs2 := HS.out.below (by rw [← HP.out]; exact B2.out)
  have hown := own_l_ok craft size master turn qb qc l V2 hs2 h1 h2 h3 h4 h5
  unfold sv at hown
  clear hs2
  refine wp_seq_k (fun K1 hK1 => ?_)
  go_wp2_with fail
  refine hown.mono ?_
  rintro e V3 ⟨⟨qb2, qc2, q, rfl, hq1, hq2, hqr, hqB, hoq, hdis⟩, hb3⟩
  unfold sv
  have hr1 := row_below R1.out hb3
  have p0 : V3.cell? ⟨P, 0, none⟩ = some (.int .i64 (craft : Int)) := by rw [cell_of_row _ _ _ _ _ _ hr1]; rfl
  have p1 : V3.cell? ⟨P, 1, none⟩ = some (.int .i64 (size : Int)) := by rw [cell_of_row _ _ _ _ _ _ hr1]; rfl
  have p2 : V3.cell? ⟨P, 2, none⟩ = some (.int .i64 (master : Int)) := by rw [cell_of_row _ _ _ _ _ _ hr1]; rfl
  have p3 : V3.cell? ⟨P, 3, none⟩ = some (.int .i64 (turn : Int)) := by rw [cell_of_row _ _ _ _ _ _ hr1]; rfl
  have p4 : V3.cell? ⟨P, 4, none⟩ = some (.slice (some ⟨qb, 0, none⟩) 7 qc) := by rw [cell_of_row _ _ _ _ _ _ hr1]; rfl
  have fz := frozen_row hr1
  obtain ⟨f1, f2⟩ := five hr1 (.int .i64 (craft : Int)) (.int .i64 (size : Int)) (.int .i64 (master : Int)) (.int .i64 (turn : Int)) (.slice (some ⟨qb2, 0, none⟩) 7 qc2)
  have HF1 := hid f1
  have HR2 := hid (row_grown (row_below R2.out hb3) f2 (Nat.succ_ne_self P))
  have hPl := row_lt R1.out
  have hb03 : Below P W0 V3 := B2.out.trans (hb3.mono (Nat.le_of_lt hPl))
  have HB3 := hid (hb03.grown f2 (by have := hb03.size; have := row_lt hr1; omega) (fun k e => by cases e; exact Nat.le_refl _))
  have HQR := hid (hqr.kept f2 (fun e => by cases e; exact absurd hqB (Nat.not_le.2 hPl)))
  have HPK : Hid (∀ x, x < 7 → PkT ((((((V3.setCell ⟨P, 0, none⟩ (.int .i64 (craft : Int))).setCell ⟨P, 1, none⟩ (.int .i64 (size : Int))).setCell ⟨P, 2, none⟩ (.int .i64 (master : Int))).setCell ⟨P, 3, none⟩ (.int .i64 (turn : Int))).setCell ⟨P, 4, none⟩ (.slice (some ⟨qb2, 0, none⟩) 7 qc2))) (q x).pa (q x).pn (q x).pc (q x).R) := fun x hx => by
    obtain ⟨j1, j2, j3⟩ := hoq x hx
    exact PkT.other ⟨RdT.ofOwn j1, j2⟩ f2 hr1 (by decide) (by decide)
  have HAbs : Hid (∀ x, x < 7 → (q x).abs = l x) := fun x hx => (hoq x hx).2.2
  have Hq := hid (And.intro hq1 hq2)
  have hqm := hq2
  unfold maxLen at hqm
  have hqbP : P + 2 ≤ qb2 := by rw [← zs2.out]; exact hqB
  clear f1 f2 hr1 hqr hqB hoq hdis hb3 hb03 hown
  go_wp2_with fail
  refine hK1.out _ _ ?_
  clear p0 p1 p2 p3 p4 fz
  generalize ((((V3.setCell ⟨P, 0, none⟩ (.int .i64 (craft : Int))).setCell ⟨P, 1, none⟩ (.int .i64 (size : Int))).setCell ⟨P, 2, none⟩ (.int .i64 (master : Int))).setCell ⟨P, 3, none⟩ (.int .i64 (turn : Int))).setCell ⟨P, 4, none⟩ (.slice (some ⟨qb2, 0, none⟩) 7 qc2) = V4 at *
  refine wp_seq_k (fun K2 hK2 => ?_)
  go_wp2_with ((go_at_call 19; refine (in_f _ _ _ (by omega) (by omega)).mono ?_; rintro e w' ⟨rfl, hw'⟩; rw [hw']; clear hw' w'))
  refine hK2.out _ _ ?_
  obtain ⟨room, hroom⟩ : ∃ r, r = size - 12 := ⟨_, rfl⟩
  rw [← hroom] at HNx Hnx
  have Hroom := hid hroom
  have hr0 : 0 < room ∧ room ≤ 2036 := by omega
  have Hrs := hid (show size = 12 + room by omega)
  clear hroom
  have p0 : V4.cell? ⟨P, 0, none⟩ = some (.int .i64 (craft : Int)) := by rw [cell_of_row _ _ _ _ _ _ HF1.out]; rfl
  have p2 : V4.cell? ⟨P, 2, none⟩ = some (.int .i64 (master : Int)) := by rw [cell_of_row _ _ _ _ _ _ HF1.out]; rfl
  refine wp_seq_k (fun K3 hK3 => ?_)
  go_wp2_with fail
  refine hK3.out _ _ ?_
  clear p0 p2
  have b5 := below_alloc V4 (.cells #[.int .i64 (craft : Int), .int .i64 7, .int .i64 (master : Int), .int .i64 0, .int .i64 2046] 46)
  have r5 := heap_alloc_new V4 (.cells #[.int .i64 (craft : Int), .int .i64 7, .int .i64 (master : Int), .int .i64 0, .int .i64 2046] 46)
  obtain ⟨H, hH⟩ : ∃ H, H = V4.heap.size := ⟨_, rfl⟩
  have hPl4 := row_lt HF1.out
  have hPH : P ≤ H := by rw [hH]; exact Nat.le_of_lt hPl4
  have F5 := hid (row_below HF1.out b5)
  have R25 := hid (row_below HR2.out b5)
  have Q5 := hid (HQR.out.below b5)
  have K5 : Hid (∀ x, x < 7 → PkT (V4.alloc (.cells #[.int .i64 (craft : Int), .int .i64 7, .int .i64 (master : Int), .int .i64 0, .int .i64 2046] 46)) (q x).pa (q x).pn (q x).pc (q x).R) := fun x hx => (HPK.out x hx).below b5
  have B5 := hid (HB3.out.trans (b5.mono (Nat.le_of_lt hPl4)))
  rw [← hH] at r5 ⊢
  have H5 := hid r5
  clear b5 r5 hPl4 hH HF1 HR2 HQR HPK HB3
  generalize V4.alloc (.cells #[.int .i64 (craft : Int), .int .i64 7, .int .i64 (master : Int), .int .i64 0, .int .i64 2046] 46) = V5 at *
  have p2 : V5.cell? ⟨P, 2, none⟩ = some (.int .i64 (master : Int)) := by rw [cell_of_row _ _ _ _ _ _ F5.out]; rfl
  have fz := frozen_row F5.out 2
  have f1 := and255 (master + 1) (by omega)
  have f2 : (master : Int) + 1 = ((master + 1 : Nat) : Int) := by omega
  have f3 : IntKind.i64.wrap (((master + 1 : Nat)) : Int) = ((master + 1 : Nat) : Int) := IntWalk.i64_in _ (by omega)
  have f4 := f1
  rw [← f2] at f4
  have f5 := f3
  rw [← f2] at f5
  obtain ⟨ms, hms⟩ : ∃ ms, ms = (master + 1) % 256 := ⟨_, rfl⟩
  rw [← hms] at f1 f4
  have Hms := hid hms
  clear hms
  generalize master + 1 = o1 at f1 f2 f3 f4 f5
  obtain ⟨m1, m2⟩ := set_row (cs' := #[.int .i64 (craft : Int), .int .i64 (size : Int), .int .i64 (ms : Int), .int .i64 (turn : Int), .slice (some ⟨qb2, 0, none⟩) 7 qc2]) F5.out 2 (.int .i64 (ms : Int)) rfl
  obtain ⟨cq, hcq, _⟩ := Q5.out.ex
  have F6 := hid m1
  have R26 := hid (row_grown R25.out m2 (Nat.succ_ne_self P))
  have H6 := hid (row_grown H5.out m2 (ne_tt H5.out F5.out (by decide)))
  have Q6 := hid (Q5.out.kept m2 (ne_type F5.out (by decide) qb2 cq hcq))
  have K6 : Hid (∀ x, x < 7 → PkT (V5.setCell ⟨P, 2, none⟩ (.int .i64 (ms : Int))) (q x).pa (q x).pn (q x).pc (q x).R) := fun x hx => (K5.out x hx).other m2 F5.out (by decide) (by decide)
  have B6 := hid (B5.out.grown m2 (Nat.le_of_lt (row_lt F5.out)) (fun k e => by cases e; exact Nat.le_refl _))
  clear m1 m2 hcq R25 H5 Q5 K5 B5
  refine wp_seq_k (fun L3 hL3 => ?_)
  go_wp2_with fail
  refine hL3.out _ _ ?_
  clear p2 fz f1 f2 f3 f4 f5 F5
  generalize V5.setCell ⟨P, 2, none⟩ (.int .i64 (ms : Int)) = V6 at *
  have p1 : V6.cell? ⟨P, 1, none⟩ = some (.int .i64 (size : Int)) := by rw [cell_of_row _ _ _ _ _ _ F6.out]; rfl
  have a1 : (size : Int) - 6 - 6 = (room : Int) := by have := Hrs.out; omega
  have a2 : IntKind.i64.wrap ((size : Int) - 6) = (size : Int) - 6 := IntWalk.i64_in _ (by omega)
  have a3 : IntKind.i64.wrap ((size : Int) - 6 - 6) = (room : Int) := by rw [a1]; exact IntWalk.i64_in _ (by omega)
  have a4 : IntKind.i64.wrap (room : Int) = (room : Int) := IntWalk.i64_in _ (by omega)
  have hmk := fun u => run_mkB room (by omega) u
  simp only [Nat.mul_one] at hmk
  refine wp_seq_k (fun L4 hL4 => ?_)
  go_wp2_with fail
  refine hL4.out _ _ ?_
  clear p1 a1 a2 a3 a4
  have b7 := below_alloc V6 (.cells (madeCells #[.int .u8 0] room) 5)
  have r7 := heap_alloc_new V6 (.cells (madeCells #[.int .u8 0] room) 5)
  have d7 := rd_made V6 room (by omega)
  rw [Nat.mul_one] at d7
  have HM : Hid (NM (V6.alloc (.cells (madeCells #[.int .u8 0] room) 5)) P H qb2 qc2 craft size ms turn 7 master 0 2046 q (some ⟨V6.heap.size, 0, none⟩) room room (List.replicate room 0)) :=
    ⟨row_below F6.out b7, row_below R26.out b7, row_below H6.out b7, Q6.out.below b7, fun x hx => (K6.out x hx).below b7, ⟨d7, fun _ => ⟨_, _, _, rfl, r7⟩⟩⟩
  have B7 := hid (B6.out.trans (b7.mono (Nat.le_of_lt (row_lt F6.out))))
  obtain ⟨D, hD⟩ : ∃ D, D = V6.heap.size := ⟨_, rfl⟩
  rw [← hD] at HM ⊢
  clear hD b7 r7 d7 hmk F6 R26 H6 Q6 K6 B6
  generalize madeCells #[.int .u8 0] room = MB at *
  generalize V6.alloc (.cells MB 5) = V7 at *
  refine wp_seq_k (fun L5 hL5 => ?_)
  have p4 : V7.cell? ⟨P, 4, none⟩ = some (.slice (some ⟨qb2, 0, none⟩) 7 qc2) := by rw [cell_of_row _ _ _ _ _ _ HM.out.bx]; rfl
  refine wp_seq_k (fun L6 hL6 => ?_)
  go_wp2_with fail
  refine hL6.out _ _ ?_
  clear p4
  refine Tri.use (nx_l P H qb2 qc2 craft size ms turn master st q l (some ⟨D, 0, none⟩) room room (by omega) hPH HAbs.out HS.out.k h5 hr0.1 hr0.2 Hq.out.1 Hq.out.2) rfl ⟨⟨rfl, rfl, rfl, rfl, rfl⟩, ⟨rfl, rfl⟩, HM.out⟩ ?_
  rw [Hnx.out]
  rintro y V8 ⟨⟨q', da, dc, ⟨s1, s2, s4, s8, s9⟩, hM8, hA8⟩, hb8⟩
  refine hL5.out _ _ ?_
  have HM8 := hid hM8
  have HA8 := hid hA8
  have B8 := hid (B7.out.trans hb8)
  clear hM8 hA8 hb8 B7 HM
  rw [fr109]
  simp only [s1, s2, s4, s8, s9]
  clear s1 s2 s4 s8 s9
  obtain ⟨n1, n2, n3, n4, n5, n6, n7⟩ := HNx.out
  have hp := pack_ok craft nx.ch master nx.ow nx.fi da room dc nx.data st V8 h1 n1 h4 n2 n3 h6 HM8.out.dt.rd n6 hr0.1 hr0.2
  have HN6 := hid n6
  have HN7 := hid n7
  clear n6 n7 HNx
  have t0 : V8.cell? ⟨H, 0, none⟩ = some (.int .i64 (craft : Int)) := by rw [cell_of_row _ _ _ _ _ _ HM8.out.hd]; rfl
  have t1 : V8.cell? ⟨H, 1, none⟩ = some (.int .i64 (nx.ch : Int)) := by rw [cell_of_row _ _ _ _ _ _ HM8.out.hd]; rfl
  have t2 : V8.cell? ⟨H, 2, none⟩ = some (.int .i64 (master : Int)) := by rw [cell_of_row _ _ _ _ _ _ HM8.out.hd]; rfl
  have t3 : V8.cell? ⟨H, 3, none⟩ = some (.int .i64 (nx.ow : Int)) := by rw [cell_of_row _ _ _ _ _ _ HM8.out.hd]; rfl
  have t4 : V8.cell? ⟨H, 4, none⟩ = some (.int .i64 (nx.fi : Int)) := by rw [cell_of_row _ _ _ _ _ _ HM8.out.hd]; rfl
  refine wp_seq_k (fun L7 hL7 => ?_)
  go_wp2_with fail
  refine hp.mono ?_
  rintro e V9 ⟨⟨da9, dc9, rfl, ho9⟩, hb9⟩
  have HM9 := hid (HM8.out.below hb9)
  have HlP8 := Nat.le_of_lt (row_lt HM8.out.bx)
  have HO9 := hid (ownsRow_mono ho9 HlP8)
  have B9 := hid (B8.out.trans (hb9.mono HlP8))
  clear hp ho9 hb9 HlP8 t0 t1 t2 t3 t4 HM8 B8
  go_wp2_with fail
  refine hL7.out _ _ ?_
  have hr1 := HM9.out.bx
  have hr2 := HM9.out.rs
  have p0 : V9.cell? ⟨P, 0, none⟩ = some (.int .i64 (craft : Int)) := by rw [cell_of_row _ _ _ _ _ _ hr1]; rfl
  have p1 : V9.cell? ⟨P, 1, none⟩ = some (.int .i64 (size : Int)) := by rw [cell_of_row _ _ _ _ _ _ hr1]; rfl
  have p2 : V9.cell? ⟨P, 2, none⟩ = some (.int .i64 (ms : Int)) := by rw [cell_of_row _ _ _ _ _ _ hr1]; rfl
  have p3 : V9.cell? ⟨P, 3, none⟩ = some (.int .i64 (nx.tn : Int)) := by rw [cell_of_row _ _ _ _ _ _ hr1]; rfl
  have p4 : V9.cell? ⟨P, 4, none⟩ = some (.slice (some ⟨qb2, 0, none⟩) 7 qc2) := by rw [cell_of_row _ _ _ _ _ _ hr1]; rfl
  have t0 : V9.cell? ⟨P + 1, 0, none⟩ = some (.int .i64 0) := by rw [cell_of_row _ _ _ _ _ _ hr2]; rfl
  have t1 : V9.cell? ⟨P + 1, 1, none⟩ = some (.int .i64 0) := by rw [cell_of_row _ _ _ _ _ _ hr2]; rfl
  have t2 : V9.cell? ⟨P + 1, 2, none⟩ = some (.int .i64 0) := by rw [cell_of_row _ _ _ _ _ _ hr2]; rfl
  have t3 : V9.cell? ⟨P + 1, 3, none⟩ = some (.int .i64 0) := by rw [cell_of_row _ _ _ _ _ _ hr2]; rfl
  have t4 : V9.cell? ⟨P + 1, 4, none⟩ = some (.slice none 0 0) := by rw [cell_of_row _ _ _ _ _ _ hr2]; rfl
  have fz := frozen_row hr2
  obtain ⟨f1, f2⟩ := five hr2 (.int .i64 (craft : Int)) (.int .i64 (size : Int)) (.int .i64 (ms : Int)) (.int .i64 (nx.tn : Int)) (.slice (some ⟨qb2, 0, none⟩) 7 qc2)
  have HF1 := hid f1
  have HF2 := hid f2
  have HlP := hid (show P ≤ V9.heap.size from Nat.le_of_lt (row_lt hr1))
  clear hr1 hr2 f1 f2
  refine wp_seq_k (fun L8 hL8 => ?_)
  go_wp2_with fail
  refine hL8.out _ _ ?_
  clear p0 p1 p2 p3 p4 t0 t1 t2 t3 t4 fz
  generalize ((((V9.setCell ⟨P + 1, 0, none⟩ (.int .i64 (craft : Int))).setCell ⟨P + 1, 1, none⟩ (.int .i64 (size : Int))).setCell ⟨P + 1, 2, none⟩ (.int .i64 (ms : Int))).setCell ⟨P + 1, 3, none⟩ (.int .i64 (nx.tn : Int))).setCell ⟨P + 1, 4, none⟩ (.slice (some ⟨qb2, 0, none⟩) 7 qc2) = Z at *
  go_wp2_with fail
  refine bodyPost_ret (results_c2 rfl _ _ (P + 1) 26 #[.int .i64 (craft : Int), .int .i64 (size : Int), .int .i64 (ms : Int), .int .i64 (nx.tn : Int), .slice (some ⟨qb2, 0, none⟩) 7 qc2] (0, 0) _ rfl HF1.out Try.underlying26 rfl (by kernel_rfl)) rfl ?_
  have hM := HM9.out
  obtain ⟨cq, hqr, _⟩ := hM.qr.ex
  rw [HP.out] at HO9 HlP B9 HF2 hM
  refine ⟨⟨qb2, qc2, da9, dc9, ?_, ⟨⟨q', hM.qr.kept HF2.out (ne_type hM.rs (by decide) qb2 cq hqr), fun x hx => (hM.pk x hx).other HF2.out hM.rs (by decide) (by decide), HA8.out⟩, HN7.out, Hq.out.1, Hq.out.2⟩, ?_⟩, B9.out.grown HF2.out HlP.out (fun k e => by cases e; exact Nat.le_succ _)⟩
  · rw [← Hms.out, ← Hrs.out]
    rfl
  · have h := HO9.out.kept HF2.out (own_ne HO9.out hM.rs (by decide))
    rw [← Hrs.out] at h
    exact h
end Go.Proofs.Ytjiipmalahhcpaa
