/- frame: Next. -/
import Derived.Test.YtjiipmalahhcpaaCarries15
namespace Go.Proofs.Ytjiipmalahhcpaa
set_option linter.unusedVariables false
open Go.RowKit

structure NxOk (nx : NX) (room : Nat) : Prop where
  ch : nx.ch ≤ 7
  ow : nx.ow ≤ 255
  fi : nx.fi ≤ 2047
  tn : nx.tn ≤ 6
  len : nx.data.length = room
  all : AllB nx.data
  k : ∀ x, x < 7 → (nx.l x).Ok
theorem firstQ_some (l : Nat → LQ) (turn : Nat) : ∀ (n k c : Nat), firstQ l turn n k = some c → c < 7 ∧ (l c).ps ≠ []
  | 0, k, c, h => by cases h
  | n + 1, k, c, h => by
    unfold firstQ at h
    split at h
    · exact firstQ_some l turn n (k + 1) c h
    · cases h
      exact ⟨Nat.mod_lt _ (by decide), by assumption⟩
theorem ldN_ok (room : Nat) (hr : room ≤ 2048) : ∀ (f : Nat) (s : LS), s.Ok → s.data.length ≤ room → room - s.data.length ≤ f → (ldN room f s).Ok ∧ (ldN room f s).data.length = room
  | 0, s, h, h1, h2 => ⟨h, by show s.data.length = room; omega⟩
  | f + 1, s, h, h1, h2 => by
    unfold ldN
    by_cases e : s.data.length < room
    · rw [if_pos e]
      obtain ⟨k1, k2, k3⟩ := h.step room hr e
      exact ldN_ok room hr f _ k1 k3 (by omega)
    · rw [if_neg e]
      exact ⟨h, by omega⟩
theorem ldOf_ok (l : LQ) (h : l.Ok) (room : Nat) (hr : room ≤ 2048) : (ldOf l room).Ok ∧ (ldOf l room).data.length = room :=
  ldN_ok room hr room _ ⟨h.enc, h.len, h.g0, h.g1, Nat.le_refl _⟩ (Nat.zero_le _) (by show room - 0 ≤ room; omega)
theorem nextOf_ok (l : Nat → LQ) (turn room : Nat) (hk : ∀ x, x < 7 → (l x).Ok) (htn : turn ≤ 6) (hr : room ≤ 2036) : NxOk (nextOf l turn room) room := by
  unfold nextOf
  cases hf : firstQ l turn 7 0 with
  | none =>
    exact ⟨Nat.le_refl _, Nat.zero_le _, by show 2046 ≤ 2047; omega, htn, List.length_replicate, fun x hx => by have := (List.mem_replicate.1 hx).2; omega, hk⟩
  | some c =>
    obtain ⟨hc, _⟩ := firstQ_some l turn 7 0 c hf
    obtain ⟨h1, h2⟩ := ldOf_ok (l c) (hk c hc) room (by omega)
    refine ⟨by show c ≤ 7; omega, (hk c hc).own, h1.fst, by show (c + 1) % 7 ≤ 6; omega, h2, ldOf_all (l c) (hk c hc) room (by omega), fun x hx => ?_⟩
    show (if x = c then _ else l x : LQ).Ok
    by_cases e : x = c
    · rw [if_pos e]
      exact ⟨by show ((l c).own + 1) % 256 ≤ 255; omega, h1.len, h1.enc, h1.g0, h1.g1⟩
    · rw [if_neg e]
      exact hk x hx
structure NextR (W0 W : World) (craft size master st : Nat) (nx : NX) (e : Ending) : Prop where
  ex : ∃ qb qc da dc, e = .returned (.tuple #[sv craft size ((master + 1) % 256) nx.tn qb qc, .slice da size dc, .int .i64 0]) ∧ SndL W qb qc nx.l ∧ W.ownsRow W0.heap.size 5 1 (.slice da size dc) size (vb (frameB craft nx.ch master nx.ow nx.fi nx.data st))
  blw : Below W0.heap.size W0 W
set_option maxRecDepth 1000000 in
set_option maxHeartbeats 8000000 in
theorem next_ok (craft size master turn qb qc st : Nat) (l : Nat → LQ) (W0 : World) (hs : SndL W0 qb qc l) (h1 : craft ≤ 1023) (h2 : 13 ≤ size) (h3 : size ≤ 2048) (h4 : master ≤ 255) (h5 : turn ≤ 6) (h6 : st ≤ 4294967295) :
    Calls Try.prog 9 #[sv craft size master turn qb qc, .int .i64 (st : Int)] W0 fun e w' => NextR W0 w' craft size master st (nextOf l turn (size - 12)) e := by
  have b1 := below_alloc W0 (.cells #[.int .i64 (craft : Int), .int .i64 (size : Int), .int .i64 (master : Int), .int .i64 (turn : Int), .slice (some ⟨qb, 0, none⟩) 7 qc] 26)
  have r1 := heap_alloc_new W0 (.cells #[.int .i64 (craft : Int), .int .i64 (size : Int), .int .i64 (master : Int), .int .i64 (turn : Int), .slice (some ⟨qb, 0, none⟩) 7 qc] 26)
  have z1 : Hid ((W0.alloc (.cells #[.int .i64 (craft : Int), .int .i64 (size : Int), .int .i64 (master : Int), .int .i64 (turn : Int), .slice (some ⟨qb, 0, none⟩) 7 qc] 26)).heap.size = W0.heap.size + 1) := World.size_alloc _ _
  obtain ⟨P, hP⟩ : ∃ P, P = W0.heap.size := ⟨_, rfl⟩
  rw [← hP] at r1 b1 z1
  have HP := hid hP
  have HS := hid hs
  have HNx := hid (nextOf_ok l turn (size - 12) hs.k h5 (by omega))
  obtain ⟨nx, hnx⟩ : ∃ nx, nx = nextOf l turn (size - 12) := ⟨_, rfl⟩
  rw [← hnx] at HNx ⊢
  have Hnx := hid hnx.symm
  clear hnx
  clear hs hP
  unfold sv
  go_enter Try.func9, Try.ntmps9
  refine wp_seq_k (fun K0 hK0 => ?_)
  go_wp2_with fail
  rw [← HP.out]
  refine hK0.out _ _ ?_
  generalize W0.alloc (.cells #[.int .i64 (craft : Int), .int .i64 (size : Int), .int .i64 (master : Int), .int .i64 (turn : Int), .slice (some ⟨qb, 0, none⟩) 7 qc] 26) = V1 at *
  have b2 := below_alloc V1 (.cells #[.int .i64 0, .int .i64 0, .int .i64 0, .int .i64 0, .slice none 0 0] 26)
  have r2 := heap_alloc_new V1 (.cells #[.int .i64 0, .int .i64 0, .int .i64 0, .int .i64 0, .slice none 0 0] 26)
  rw [z1.out] at r2
  have R1 := hid (row_below r1 b2)
  have R2 := hid r2
  have B2 := hid (b1.trans (b2.mono (by rw [z1.out]; exact Nat.le_succ _)))
  have zs2 : Hid ((V1.alloc (.cells #[.int .i64 0, .int .i64 0, .int .i64 0, .int .i64 0, .slice none 0 0] 26)).heap.size = P + 2) := by
    unfold Hid; rw [World.size_alloc, z1.out]
  clear b1 b2 r1 r2
  generalize V1.alloc (.cells #[.int .i64 0, .int .i64 0, .int .i64 0, .int .i64 0, .slice none 0 0] 26) = V2 at *
  have p0 : V2.cell? ⟨P, 0, none⟩ = some (.int .i64 (craft : Int)) := by rw [cell_of_row _ _ _ _ _ _ R1.out]; rfl
  have p1 : V2.cell? ⟨P, 1, none⟩ = some (.int .i64 (size : Int)) := by rw [cell_of_row _ _ _ _ _ _ R1.out]; rfl
  have p2 : V2.cell? ⟨P, 2, none⟩ = some (.int .i64 (master : Int)) := by rw [cell_of_row _ _ _ _ _ _ R1.out]; rfl
  have p3 : V2.cell? ⟨P, 3, none⟩ = some (.int .i64 (turn : Int)) := by rw [cell_of_row _ _ _ _ _ _ R1.out]; rfl
  have p4 : V2.cell? ⟨P, 4, none⟩ = some (.slice (some ⟨qb, 0, none⟩) 7 qc) := by rw [cell_of_row _ _ _ _ _ _ R1.out]; rfl
  have hs2 := HS.out.below (by rw [← HP.out]; exact B2.out)
  have hown := own_l_ok craft size master turn qb qc l V2 hs2 h1 h2 h3 h4 h5
  unfold sv at hown
  clear hs2
  refine wp_seq_k (fun K1 hK1 => ?_)
  go_wp2_with fail
  refine hown.mono ?_
  rintro e V3 ⟨⟨qb2, qc2, q, rfl, hq1, hq2, hqr, hqB, hoq, hdis⟩, hb3⟩
  unfold sv
  have hr1 := row_below R1.out hb3
  have p0 : V3.cell? ⟨P, 0, none⟩ = some (.int .i64 (craft : Int)) := by rw [cell_of_row _ _ _ _ _ _ hr1]; rfl
  have p1 : V3.cell? ⟨P, 1, none⟩ = some (.int .i64 (size : Int)) := by rw [cell_of_row _ _ _ _ _ _ hr1]; rfl
  have p2 : V3.cell? ⟨P, 2, none⟩ = some (.int .i64 (master : Int)) := by rw [cell_of_row _ _ _ _ _ _ hr1]; rfl
  have p3 : V3.cell? ⟨P, 3, none⟩ = some (.int .i64 (turn : Int)) := by rw [cell_of_row _ _ _ _ _ _ hr1]; rfl
  have p4 : V3.cell? ⟨P, 4, none⟩ = some (.slice (some ⟨qb, 0, none⟩) 7 qc) := by rw [cell_of_row _ _ _ _ _ _ hr1]; rfl
  have fz := frozen_row hr1
  obtain ⟨f1, f2⟩ := five hr1 (.int .i64 (craft : Int)) (.int .i64 (size : Int)) (.int .i64 (master : Int)) (.int .i64 (turn : Int)) (.slice (some ⟨qb2, 0, none⟩) 7 qc2)
  have HF1 := hid f1
  have HR2 := hid (row_grown (row_below R2.out hb3) f2 (Nat.succ_ne_self P))
  have hPl := row_lt R1.out
  have hb03 : Below P W0 V3 := B2.out.trans (hb3.mono (Nat.le_of_lt hPl))
  have HB3 := hid (hb03.grown f2 (by have := hb03.size; have := row_lt hr1; omega) (fun k e => by cases e; exact Nat.le_refl _))
  have HQR := hid (hqr.kept f2 (fun e => by cases e; exact absurd hqB (Nat.not_le.2 hPl)))
  have HPK : Hid (∀ x, x < 7 → PkT ((((((V3.setCell ⟨P, 0, none⟩ (.int .i64 (craft : Int))).setCell ⟨P, 1, none⟩ (.int .i64 (size : Int))).setCell ⟨P, 2, none⟩ (.int .i64 (master : Int))).setCell ⟨P, 3, none⟩ (.int .i64 (turn : Int))).setCell ⟨P, 4, none⟩ (.slice (some ⟨qb2, 0, none⟩) 7 qc2))) (q x).pa (q x).pn (q x).pc (q x).R) := fun x hx => by
    obtain ⟨j1, j2, j3⟩ := hoq x hx
    exact PkT.other ⟨RdT.ofOwn j1, j2⟩ f2 hr1 (by decide) (by decide)
  have HAbs : Hid (∀ x, x < 7 → (q x).abs = l x) := fun x hx => (hoq x hx).2.2
  have Hq := hid (And.intro hq1 hq2)
  have hqm := hq2
  unfold maxLen at hqm
  have hqbP : P + 2 ≤ qb2 := by rw [← zs2.out]; exact hqB
  clear f1 f2 hr1 hqr hqB hoq hdis hb3 hb03 hown
  go_wp2_with fail
  refine hK1.out _ _ ?_
  clear p0 p1 p2 p3 p4 fz
  generalize ((((V3.setCell ⟨P, 0, none⟩ (.int .i64 (craft : Int))).setCell ⟨P, 1, none⟩ (.int .i64 (size : Int))).setCell ⟨P, 2, none⟩ (.int .i64 (master : Int))).setCell ⟨P, 3, none⟩ (.int .i64 (turn : Int))).setCell ⟨P, 4, none⟩ (.slice (some ⟨qb2, 0, none⟩) 7 qc2) = V4 at *
  refine wp_seq_k (fun K2 hK2 => ?_)
  go_wp2_with ((go_at_call 19; refine (in_f _ _ _ (by omega) (by omega)).mono ?_; rintro e w' ⟨rfl, hw'⟩; rw [hw']; clear hw' w'))
  refine hK2.out _ _ ?_
  obtain ⟨room, hroom⟩ : ∃ r, r = size - 12 := ⟨_, rfl⟩
  rw [← hroom] at HNx Hnx
  have Hroom := hid hroom
  have hr0 : 0 < room ∧ room ≤ 2036 := by omega
  have Hrs := hid (show size = 12 + room by omega)
  clear hroom
  have p0 : V4.cell? ⟨P, 0, none⟩ = some (.int .i64 (craft : Int)) := by rw [cell_of_row _ _ _ _ _ _ HF1.out]; rfl
  have p2 : V4.cell? ⟨P, 2, none⟩ = some (.int .i64 (master : Int)) := by rw [cell_of_row _ _ _ _ _ _ HF1.out]; rfl
  refine wp_seq_k (fun K3 hK3 => ?_)
  go_wp2_with fail
  refine hK3.out _ _ ?_
  clear p0 p2
  have b5 := below_alloc V4 (.cells #[.int .i64 (craft : Int), .int .i64 7, .int .i64 (master : Int), .int .i64 0, .int .i64 2046] 46)
  have r5 := heap_alloc_new V4 (.cells #[.int .i64 (craft : Int), .int .i64 7, .int .i64 (master : Int), .int .i64 0, .int .i64 2046] 46)
  obtain ⟨H, hH⟩ : ∃ H, H = V4.heap.size := ⟨_, rfl⟩
  have hPl4 := row_lt HF1.out
  have hPH : P ≤ H := by rw [hH]; exact Nat.le_of_lt hPl4
  have F5 := hid (row_below HF1.out b5)
  have R25 := hid (row_below HR2.out b5)
  have Q5 := hid (HQR.out.below b5)
  have K5 : Hid (∀ x, x < 7 → PkT (V4.alloc (.cells #[.int .i64 (craft : Int), .int .i64 7, .int .i64 (master : Int), .int .i64 0, .int .i64 2046] 46)) (q x).pa (q x).pn (q x).pc (q x).R) := fun x hx => (HPK.out x hx).below b5
  have B5 := hid (HB3.out.trans (b5.mono (Nat.le_of_lt hPl4)))
  rw [← hH] at r5 ⊢
  have H5 := hid r5
  clear b5 r5 hPl4 hH HF1 HR2 HQR HPK HB3
  generalize V4.alloc (.cells #[.int .i64 (craft : Int), .int .i64 7, .int .i64 (master : Int), .int .i64 0, .int .i64 2046] 46) = V5 at *
  have p2 : V5.cell? ⟨P, 2, none⟩ = some (.int .i64 (master : Int)) := by rw [cell_of_row _ _ _ _ _ _ F5.out]; rfl
  have fz := frozen_row F5.out 2
  have f1 := and255 (master + 1) (by omega)
  have f2 : (master : Int) + 1 = ((master + 1 : Nat) : Int) := by omega
  have f3 : IntKind.i64.wrap (((master + 1 : Nat)) : Int) = ((master + 1 : Nat) : Int) := IntWalk.i64_in _ (by omega)
  have f4 := f1
  rw [← f2] at f4
  have f5 := f3
  rw [← f2] at f5
  obtain ⟨ms, hms⟩ : ∃ ms, ms = (master + 1) % 256 := ⟨_, rfl⟩
  rw [← hms] at f1 f4
  have Hms := hid hms
  clear hms
  generalize master + 1 = o1 at f1 f2 f3 f4 f5
  obtain ⟨m1, m2⟩ := set_row (cs' := #[.int .i64 (craft : Int), .int .i64 (size : Int), .int .i64 (ms : Int), .int .i64 (turn : Int), .slice (some ⟨qb2, 0, none⟩) 7 qc2]) F5.out 2 (.int .i64 (ms : Int)) rfl
  obtain ⟨cq, hcq, _⟩ := Q5.out.ex
  have F6 := hid m1
  have R26 := hid (row_grown R25.out m2 (Nat.succ_ne_self P))
  have H6 := hid (row_grown H5.out m2 (ne_tt H5.out F5.out (by decide)))
  have Q6 := hid (Q5.out.kept m2 (ne_type F5.out (by decide) qb2 cq hcq))
  have K6 : Hid (∀ x, x < 7 → PkT (V5.setCell ⟨P, 2, none⟩ (.int .i64 (ms : Int))) (q x).pa (q x).pn (q x).pc (q x).R) := fun x hx => (K5.out x hx).other m2 F5.out (by decide) (by decide)
  have B6 := hid (B5.out.grown m2 (Nat.le_of_lt (row_lt F5.out)) (fun k e => by cases e; exact Nat.le_refl _))
  clear m1 m2 hcq R25 H5 Q5 K5 B5
  refine wp_seq_k (fun L3 hL3 => ?_)
  go_wp2_with fail
  refine hL3.out _ _ ?_
  clear p2 fz f1 f2 f3 f4 f5 F5
  generalize V5.setCell ⟨P, 2, none⟩ (.int .i64 (ms : Int)) = V6 at *
  have p1 : V6.cell? ⟨P, 1, none⟩ = some (.int .i64 (size : Int)) := by rw [cell_of_row _ _ _ _ _ _ F6.out]; rfl
  have a1 : (size : Int) - 6 - 6 = (room : Int) := by have := Hrs.out; omega
  have a2 : IntKind.i64.wrap ((size : Int) - 6) = (size : Int) - 6 := IntWalk.i64_in _ (by omega)
  have a3 : IntKind.i64.wrap ((size : Int) - 6 - 6) = (room : Int) := by rw [a1]; exact IntWalk.i64_in _ (by omega)
  have a4 : IntKind.i64.wrap (room : Int) = (room : Int) := IntWalk.i64_in _ (by omega)
  have hmk := fun u => run_mkB room (by omega) u
  simp only [Nat.mul_one] at hmk
  refine wp_seq_k (fun L4 hL4 => ?_)
  go_wp2_with fail
  refine hL4.out _ _ ?_
  clear p1 a1 a2 a3 a4
  have b7 := below_alloc V6 (.cells (madeCells #[.int .u8 0] room) 5)
  have r7 := heap_alloc_new V6 (.cells (madeCells #[.int .u8 0] room) 5)
  have d7 := rd_made V6 room (by omega)
  rw [Nat.mul_one] at d7
  have HM : Hid (NM (V6.alloc (.cells (madeCells #[.int .u8 0] room) 5)) P H qb2 qc2 craft size ms turn 7 master 0 2046 q (some ⟨V6.heap.size, 0, none⟩) room room (List.replicate room 0)) :=
    ⟨row_below F6.out b7, row_below R26.out b7, row_below H6.out b7, Q6.out.below b7, fun x hx => (K6.out x hx).below b7, ⟨d7, fun _ => ⟨_, _, _, rfl, r7⟩⟩⟩
  have B7 := hid (B6.out.trans (b7.mono (Nat.le_of_lt (row_lt F6.out))))
  obtain ⟨D, hD⟩ : ∃ D, D = V6.heap.size := ⟨_, rfl⟩
  rw [← hD] at HM ⊢
  clear hD b7 r7 d7 hmk F6 R26 H6 Q6 K6 B6
  generalize madeCells #[.int .u8 0] room = MB at *
  generalize V6.alloc (.cells MB 5) = V7 at *
  refine wp_seq_k (fun L5 hL5 => ?_)
  have p4 : V7.cell? ⟨P, 4, none⟩ = some (.slice (some ⟨qb2, 0, none⟩) 7 qc2) := by rw [cell_of_row _ _ _ _ _ _ HM.out.bx]; rfl
  refine wp_seq_k (fun L6 hL6 => ?_)
  go_wp2_with fail
  refine hL6.out _ _ ?_
  clear p4
  refine Tri.use (nx_l P H qb2 qc2 craft size ms turn master st q l (some ⟨D, 0, none⟩) room room (by omega) hPH HAbs.out HS.out.k h5 hr0.1 hr0.2 Hq.out.1 Hq.out.2) rfl ⟨⟨rfl, rfl, rfl, rfl, rfl⟩, ⟨rfl, rfl⟩, HM.out⟩ ?_
  rw [Hnx.out]
  rintro y V8 ⟨⟨q', da, dc, ⟨s1, s2, s4, s8, s9⟩, hM8, hA8⟩, hb8⟩
  refine hL5.out _ _ ?_
  have HM8 := hid hM8
  have HA8 := hid hA8
  have B8 := hid (B7.out.trans hb8)
  clear hM8 hA8 hb8 B7 HM
  rw [fr109]
  simp only [s1, s2, s4, s8, s9]
  clear s1 s2 s4 s8 s9
  obtain ⟨n1, n2, n3, n4, n5, n6, n7⟩ := HNx.out
  have hp := pack_ok craft nx.ch master nx.ow nx.fi da room dc nx.data st V8 h1 n1 h4 n2 n3 h6 HM8.out.dt.rd n6 hr0.1 hr0.2
  have HN6 := hid n6
  have HN7 := hid n7
  clear n6 n7 HNx
  have t0 : V8.cell? ⟨H, 0, none⟩ = some (.int .i64 (craft : Int)) := by rw [cell_of_row _ _ _ _ _ _ HM8.out.hd]; rfl
  have t1 : V8.cell? ⟨H, 1, none⟩ = some (.int .i64 (nx.ch : Int)) := by rw [cell_of_row _ _ _ _ _ _ HM8.out.hd]; rfl
  have t2 : V8.cell? ⟨H, 2, none⟩ = some (.int .i64 (master : Int)) := by rw [cell_of_row _ _ _ _ _ _ HM8.out.hd]; rfl
  have t3 : V8.cell? ⟨H, 3, none⟩ = some (.int .i64 (nx.ow : Int)) := by rw [cell_of_row _ _ _ _ _ _ HM8.out.hd]; rfl
  have t4 : V8.cell? ⟨H, 4, none⟩ = some (.int .i64 (nx.fi : Int)) := by rw [cell_of_row _ _ _ _ _ _ HM8.out.hd]; rfl
  refine wp_seq_k (fun L7 hL7 => ?_)
  go_wp2_with fail
  refine hp.mono ?_
  rintro e V9 ⟨⟨da9, dc9, rfl, ho9⟩, hb9⟩
  have HM9 := hid (HM8.out.below hb9)
  have HlP8 := Nat.le_of_lt (row_lt HM8.out.bx)
  have HO9 := hid (ownsRow_mono ho9 HlP8)
  have B9 := hid (B8.out.trans (hb9.mono HlP8))
  clear hp ho9 hb9 HlP8 t0 t1 t2 t3 t4 HM8 B8
  go_wp2_with fail
  refine hL7.out _ _ ?_
  have hr1 := HM9.out.bx
  have hr2 := HM9.out.rs
  have p0 : V9.cell? ⟨P, 0, none⟩ = some (.int .i64 (craft : Int)) := by rw [cell_of_row _ _ _ _ _ _ hr1]; rfl
  have p1 : V9.cell? ⟨P, 1, none⟩ = some (.int .i64 (size : Int)) := by rw [cell_of_row _ _ _ _ _ _ hr1]; rfl
  have p2 : V9.cell? ⟨P, 2, none⟩ = some (.int .i64 (ms : Int)) := by rw [cell_of_row _ _ _ _ _ _ hr1]; rfl
  have p3 : V9.cell? ⟨P, 3, none⟩ = some (.int .i64 (nx.tn : Int)) := by rw [cell_of_row _ _ _ _ _ _ hr1]; rfl
  have p4 : V9.cell? ⟨P, 4, none⟩ = some (.slice (some ⟨qb2, 0, none⟩) 7 qc2) := by rw [cell_of_row _ _ _ _ _ _ hr1]; rfl
  have t0 : V9.cell? ⟨P + 1, 0, none⟩ = some (.int .i64 0) := by rw [cell_of_row _ _ _ _ _ _ hr2]; rfl
  have t1 : V9.cell? ⟨P + 1, 1, none⟩ = some (.int .i64 0) := by rw [cell_of_row _ _ _ _ _ _ hr2]; rfl
  have t2 : V9.cell? ⟨P + 1, 2, none⟩ = some (.int .i64 0) := by rw [cell_of_row _ _ _ _ _ _ hr2]; rfl
  have t3 : V9.cell? ⟨P + 1, 3, none⟩ = some (.int .i64 0) := by rw [cell_of_row _ _ _ _ _ _ hr2]; rfl
  have t4 : V9.cell? ⟨P + 1, 4, none⟩ = some (.slice none 0 0) := by rw [cell_of_row _ _ _ _ _ _ hr2]; rfl
  have fz := frozen_row hr2
  obtain ⟨f1, f2⟩ := five hr2 (.int .i64 (craft : Int)) (.int .i64 (size : Int)) (.int .i64 (ms : Int)) (.int .i64 (nx.tn : Int)) (.slice (some ⟨qb2, 0, none⟩) 7 qc2)
  have HF1 := hid f1
  have HF2 := hid f2
  have HlP := hid (show P ≤ V9.heap.size from Nat.le_of_lt (row_lt hr1))
  clear hr1 hr2 f1 f2
  refine wp_seq_k (fun L8 hL8 => ?_)
  go_wp2_with fail
  refine hL8.out _ _ ?_
  clear p0 p1 p2 p3 p4 t0 t1 t2 t3 t4 fz
  generalize ((((V9.setCell ⟨P + 1, 0, none⟩ (.int .i64 (craft : Int))).setCell ⟨P + 1, 1, none⟩ (.int .i64 (size : Int))).setCell ⟨P + 1, 2, none⟩ (.int .i64 (ms : Int))).setCell ⟨P + 1, 3, none⟩ (.int .i64 (nx.tn : Int))).setCell ⟨P + 1, 4, none⟩ (.slice (some ⟨qb2, 0, none⟩) 7 qc2) = Z at *
  go_wp2_with fail
  refine bodyPost_ret (results_c2 rfl _ _ (P + 1) 26 #[.int .i64 (craft : Int), .int .i64 (size : Int), .int .i64 (ms : Int), .int .i64 (nx.tn : Int), .slice (some ⟨qb2, 0, none⟩) 7 qc2] (0, 0) _ rfl HF1.out Try.underlying26 rfl (by kernel_rfl)) rfl ?_
  have hM := HM9.out
  obtain ⟨cq, hqr, _⟩ := hM.qr.ex
  rw [HP.out] at HO9 HlP B9 HF2 hM
  refine ⟨⟨qb2, qc2, da9, dc9, ?_, ⟨⟨q', hM.qr.kept HF2.out (ne_type hM.rs (by decide) qb2 cq hqr), fun x hx => (hM.pk x hx).other HF2.out hM.rs (by decide) (by decide), HA8.out⟩, HN7.out, Hq.out.1, Hq.out.2⟩, ?_⟩, B9.out.grown HF2.out HlP.out (fun k e => by cases e; exact Nat.le_succ _)⟩
  · rw [← Hms.out, ← Hrs.out]
    rfl
  · have h := HO9.out.kept HF2.out (own_ne HO9.out hM.rs (by decide))
    rw [← Hrs.out] at h
    exact h
end Go.Proofs.Ytjiipmalahhcpaa
/- frame: Open. -/
namespace Go.Proofs.Ytjiipmalahhcpaa
set_option linter.unusedVariables false
open Go.RowKit

def lq0 : LQ := ⟨0, 0, []⟩
theorem lq0_ok : lq0.Ok := ⟨Nat.zero_le _, Nat.zero_le _, fun p hp => (by cases hp), fun _ => rfl, fun p S h => (by cases h)⟩
theorem run_mk7 (u : World) : (Instr.makeSlice 24 (.int .i64 7) (.int .i64 7)).run Try.prog u =
    .ok (.slice (some ⟨u.heap.size, 0, none⟩) 7 7) (u.alloc (.cells (madeCells #[.int .i64 0, .slice none 0 0, .int .i64 0] (7 * 3)) 42)) := by
  obtain ⟨i0, hi, hz0, hz1, hz2⟩ := info_parts Try.info42
  have h := run_make (P := Try.prog) u 24 42 i0 (.agg #[.int .i64 0, .slice none 0 0, .int .i64 0]) Try.underlying24 hi hz0 .i64 .i64 7 7 (by decide) (by decide) (by rw [hz2]; decide) (by decide)
  simpa [hz1, Value.cells] using h
theorem made7 (W : World) : QB7 (W.alloc (.cells (madeCells #[.int .i64 0, .slice none 0 0, .int .i64 0] (7 * 3)) 42)) W.heap.size (fun _ => ⟨0, none, 0, 0, [], 0⟩) := by
  refine ⟨_, heap_alloc_new W _, by rw [size_madeCells]; exact Nat.le_refl _, fun j hj => ?_⟩
  unfold qcell
  have : j = 0 ∨ j = 1 ∨ j = 2 ∨ j = 3 ∨ j = 4 ∨ j = 5 ∨ j = 6 ∨ j = 7 ∨ j = 8 ∨ j = 9 ∨ j = 10 ∨ j = 11 ∨ j = 12 ∨ j = 13 ∨ j = 14 ∨ j = 15 ∨ j = 16 ∨ j = 17 ∨ j = 18 ∨ j = 19 ∨ j = 20 := by omega
  rcases this with rfl | rfl | rfl | rfl | rfl | rfl | rfl | rfl | rfl | rfl | rfl | rfl | rfl | rfl | rfl | rfl | rfl | rfl | rfl | rfl | rfl <;> simp [madeCells]
structure OpenR (W0 W : World) (craft size : Nat) (e : Ending) : Prop where
  ex : ∃ qb qc, e = .returned (.tuple #[sv craft size 0 0 qb qc, .int .i64 0]) ∧ SndL W qb qc (fun _ => lq0)
  blw : Below W0.heap.size W0 W
set_option maxRecDepth 1000000 in
set_option maxHeartbeats 4000000 in
theorem open_ok (craft size : Nat) (W0 : World) (h1 : craft ≤ 1023) (h2 : 13 ≤ size) (h3 : size ≤ 2048) :
    Calls Try.prog 6 #[.int .i64 (craft : Int), .int .i64 (size : Int)] W0 fun e w' => OpenR W0 w' craft size e := by
  have b1 := below_alloc W0 (.cells #[.int .i64 0, .int .i64 0, .int .i64 0, .int .i64 0, .slice none 0 0] 26)
  have r1 := heap_alloc_new W0 (.cells #[.int .i64 0, .int .i64 0, .int .i64 0, .int .i64 0, .slice none 0 0] 26)
  obtain ⟨P, hP⟩ : ∃ P, P = W0.heap.size := ⟨_, rfl⟩
  rw [← hP] at r1 b1
  have HP := hid hP
  have R1 := hid r1
  have B1 := hid b1
  clear hP r1 b1
  go_enter Try.func6, Try.ntmps6
  refine wp_seq_k (fun K0 hK0 => ?_)
  go_wp2_with fail
  rw [← HP.out]
  refine hK0.out _ _ ?_
  generalize W0.alloc (.cells #[.int .i64 0, .int .i64 0, .int .i64 0, .int .i64 0, .slice none 0 0] 26) = V1 at *
  have hmk := makes_ok craft size V1 h1 h2 h3
  refine wp_seq_k (fun K1 hK1 => ?_)
  go_wp2_with fail
  refine hmk.mono ?_
  rintro e w' ⟨rfl, hw'⟩
  rw [hw']
  clear hw' w' hmk
  go_wp2_with fail
  refine hK1.out _ _ ?_
  have hmk := run_mk7 V1
  have b2 := below_alloc V1 (.cells (madeCells #[.int .i64 0, .slice none 0 0, .int .i64 0] (7 * 3)) 42)
  have hq := made7 V1
  have HlP := hid (row_lt R1.out)
  have hr2 := row_below R1.out b2
  have B2 := hid (B1.out.trans (b2.mono (Nat.le_of_lt HlP.out)))
  obtain ⟨qb, hqb⟩ : ∃ qb, qb = V1.heap.size := ⟨_, rfl⟩
  rw [← hqb] at hmk hq
  clear hqb b2
  generalize madeCells #[.int .i64 0, .slice none 0 0, .int .i64 0] (7 * 3) = MB at *
  generalize hV2 : V1.alloc (.cells MB 42) = V2 at *
  clear hV2
  have t0 : V2.cell? ⟨P, 0, none⟩ = some (.int .i64 0) := by rw [cell_of_row _ _ _ _ _ _ hr2]; rfl
  have t1 : V2.cell? ⟨P, 1, none⟩ = some (.int .i64 0) := by rw [cell_of_row _ _ _ _ _ _ hr2]; rfl
  have t2 : V2.cell? ⟨P, 2, none⟩ = some (.int .i64 0) := by rw [cell_of_row _ _ _ _ _ _ hr2]; rfl
  have t3 : V2.cell? ⟨P, 3, none⟩ = some (.int .i64 0) := by rw [cell_of_row _ _ _ _ _ _ hr2]; rfl
  have t4 : V2.cell? ⟨P, 4, none⟩ = some (.slice none 0 0) := by rw [cell_of_row _ _ _ _ _ _ hr2]; rfl
  have fz := frozen_row hr2
  obtain ⟨f1, f2⟩ := five hr2 (.int .i64 (craft : Int)) (.int .i64 (size : Int)) (.int .i64 0) (.int .i64 0) (.slice (some ⟨qb, 0, none⟩) 7 7)
  obtain ⟨cq, hcq, _⟩ := hq.ex
  have HQ := hid (hq.kept f2 (ne_type hr2 (by decide) qb cq hcq))
  have HF1 := hid f1
  have HB := hid (B2.out.grown f2 (Nat.le_of_lt (row_lt hr2)) (fun k e => by cases e; exact Nat.le_refl _))
  clear f1 f2 hr2 hq hcq
  refine wp_seq_k (fun K2 hK2 => ?_)
  go_wp2_with fail
  refine hK2.out _ _ ?_
  clear t0 t1 t2 t3 t4 fz hmk
  generalize ((((V2.setCell ⟨P, 0, none⟩ (.int .i64 (craft : Int))).setCell ⟨P, 1, none⟩ (.int .i64 (size : Int))).setCell ⟨P, 2, none⟩ (.int .i64 0)).setCell ⟨P, 3, none⟩ (.int .i64 0)).setCell ⟨P, 4, none⟩ (.slice (some ⟨qb, 0, none⟩) 7 7) = Z at *
  go_wp2_with fail
  refine bodyPost_ret (results_c1 rfl _ _ P 26 #[.int .i64 (craft : Int), .int .i64 (size : Int), .int .i64 0, .int .i64 0, .slice (some ⟨qb, 0, none⟩) 7 7] (0, 0) _ rfl HF1.out Try.underlying26 rfl (by kernel_rfl)) rfl ?_
  exact ⟨⟨qb, 7, rfl, ⟨⟨_, HQ.out, fun c hc => ⟨RdT.nil 33 _, fun r hr => (by cases hr)⟩, fun c hc => rfl⟩, fun c hc => lq0_ok, Nat.le_refl _, by unfold maxLen; omega⟩⟩, by rw [← HP.out]; exact HB.out⟩
end Go.Proofs.Ytjiipmalahhcpaa
/- FrameTurns: plain, and its memory. -/
namespace Go.Proofs.Ytjiipmalahhcpaa
set_option linter.unusedVariables false
open Go.RowKit

set_option maxRecDepth 1000000 in
theorem fr181 (y : Nat → Value) : fr 181 y = #[y 0, y 1, y 2, y 3, y 4, y 5, y 6, y 7, y 8, y 9, y 10, y 11, y 12, y 13, y 14, y 15, y 16, y 17, y 18, y 19, y 20, y 21, y 22, y 23, y 24, y 25, y 26, y 27, y 28, y 29, y 30, y 31, y 32, y 33, y 34, y 35, y 36, y 37, y 38, y 39, y 40, y 41, y 42, y 43, y 44, y 45, y 46, y 47, y 48, y 49, y 50, y 51, y 52, y 53, y 54, y 55, y 56, y 57, y 58, y 59, y 60, y 61, y 62, y 63, y 64, y 65, y 66, y 67, y 68, y 69, y 70, y 71, y 72, y 73, y 74, y 75, y 76, y 77, y 78, y 79, y 80, y 81, y 82, y 83, y 84, y 85, y 86, y 87, y 88, y 89, y 90, y 91, y 92, y 93, y 94, y 95, y 96, y 97, y 98, y 99, y 100, y 101, y 102, y 103, y 104, y 105, y 106, y 107, y 108, y 109, y 110, y 111, y 112, y 113, y 114, y 115, y 116, y 117, y 118, y 119, y 120, y 121, y 122, y 123, y 124, y 125, y 126, y 127, y 128, y 129, y 130, y 131, y 132, y 133, y 134, y 135, y 136, y 137, y 138, y 139, y 140, y 141, y 142, y 143, y 144, y 145, y 146, y 147, y 148, y 149, y 150, y 151, y 152, y 153, y 154, y 155, y 156, y 157, y 158, y 159, y 160, y 161, y 162, y 163, y 164, y 165, y 166, y 167, y 168, y 169, y 170, y 171, y 172, y 173, y 174, y 175, y 176, y 177, y 178, y 179, y 180] := rfl
theorem firstQ_spec (l : Nat → LQ) (tn : Nat) : ∀ (n k : Nat), (firstQ l tn n k = none → ∀ j, k ≤ j → j < k + n → (l ((tn + j) % 7)).ps = []) ∧
    (∀ c, firstQ l tn n k = some c → ∃ j, k ≤ j ∧ j < k + n ∧ c = (tn + j) % 7 ∧ (l c).ps ≠ [] ∧ ∀ i, k ≤ i → i < j → (l ((tn + i) % 7)).ps = [])
  | 0, k => ⟨fun _ j h1 h2 => by omega, fun c h => by cases h⟩
  | n + 1, k => by
    obtain ⟨ih1, ih2⟩ := firstQ_spec l tn n (k + 1)
    unfold firstQ
    by_cases e : (l ((tn + k) % 7)).ps = []
    · rw [if_pos e]
      refine ⟨fun h j h1 h2 => ?_, fun c h => ?_⟩
      · by_cases ej : j = k
        · rw [ej]; exact e
        · exact ih1 h j (by omega) (by omega)
      · obtain ⟨j, h1, h2, h3, h4, h5⟩ := ih2 c h
        refine ⟨j, by omega, by omega, h3, h4, fun i hi1 hi2 => ?_⟩
        by_cases ei : i = k
        · rw [ei]; exact e
        · exact h5 i (by omega) hi2
    · rw [if_neg e]
      refine ⟨fun h => (by cases h), fun c h => ?_⟩
      cases h
      exact ⟨k, Nat.le_refl _, by omega, rfl, e, fun i h1 h2 => by omega⟩
structure TInv (tn : Nat) (ws : Nat → Nat) : Prop where
  tn6 : tn ≤ 6
  row : ∀ c, c < 7 → ws c + (c + 7 - tn) % 7 ≤ 6
def tick (l : Nat → LQ) (ws : Nat → Nat) (c : Nat) : Nat := if (l c).ps = [] then 0 else ws c + 1
def upd (ws : Nat → Nat) (s c : Nat) : Nat := if c = s then 0 else ws c
def someQ (l : Nat → LQ) (k : Nat) : Bool := (List.range k).any fun c => !(l c).ps.isEmpty
theorem someQ_succ (l : Nat → LQ) (k : Nat) : someQ l (k + 1) = (someQ l k || !(l k).ps.isEmpty) := by
  unfold someQ
  rw [List.range_succ, List.any_append]
  simp
theorem someQ_none {l : Nat → LQ} (h : ∀ c, c < 7 → (l c).ps = []) : someQ l 7 = false := by
  unfold someQ
  rw [List.any_eq_false]
  intro c hc
  rw [h c (List.mem_range.1 hc)]
  decide
theorem someQ_some {l : Nat → LQ} {c : Nat} (hc : c < 7) (h : (l c).ps ≠ []) : someQ l 7 = true := by
  unfold someQ
  rw [List.any_eq_true]
  refine ⟨c, List.mem_range.2 hc, ?_⟩
  cases hp : (l c).ps with
  | nil => exact absurd hp h
  | cons a r => rfl
theorem turns {l : Nat → LQ} {tn room : Nat} {ws : Nat → Nat} (h : TInv tn ws) :
    TInv (nextOf l tn room).tn (upd (tick l ws) (nextOf l tn room).ch) ∧ ((nextOf l tn room).ch = 7 ∧ someQ l 7 = false ∨ (nextOf l tn room).ch < 7 ∧ someQ l 7 = true) := by
  obtain ⟨h1, h2⟩ := firstQ_spec l tn 7 0
  have htn := h.tn6
  unfold nextOf
  cases hf : firstQ l tn 7 0 with
  | none =>
    have hall : ∀ c, c < 7 → (l c).ps = [] := fun c hc => by
      have := h1 hf ((c + 7 - tn) % 7) (Nat.zero_le _) (by omega)
      rwa [show (tn + (c + 7 - tn) % 7) % 7 = c by omega] at this
    refine ⟨⟨htn, fun c hc => ?_⟩, .inl ⟨rfl, someQ_none hall⟩⟩
    show upd (tick l ws) 7 c + (c + 7 - tn) % 7 ≤ 6
    unfold upd tick
    rw [if_neg (by omega), if_pos (hall c hc)]
    omega
  | some s =>
    obtain ⟨k, _, hk, rfl, hne, hlt⟩ := h2 s hf
    refine ⟨⟨by show ((tn + k) % 7 + 1) % 7 ≤ 6; omega, fun c hc => ?_⟩, .inr ⟨by show (tn + k) % 7 < 7; omega, someQ_some (by omega) hne⟩⟩
    show upd (tick l ws) ((tn + k) % 7) c + (c + 7 - ((tn + k) % 7 + 1) % 7) % 7 ≤ 6
    unfold upd tick
    by_cases e : c = (tn + k) % 7
    · rw [if_pos e]; omega
    · rw [if_neg e]
      by_cases ec : (l c).ps = []
      · rw [if_pos ec]; omega
      · rw [if_neg ec]
        have hrow := h.row c hc
        have hj : ¬ (c + 7 - tn) % 7 < k := fun hlt2 => ec (by
          have := hlt ((c + 7 - tn) % 7) (Nat.zero_le _) hlt2
          rwa [show (tn + (c + 7 - tn) % 7) % 7 = c by omega] at this)
        omega
theorem ldStep_len (room : Nat) (s : LS) (m : Nat) (h : s.ps.length ≤ m) (hm : 1 ≤ m) : (s.step room).ps.length ≤ m := by
  have hu : (s.up room).ps.length ≤ m := by
    unfold LS.up
    split
    · exact hm
    · exact h
  unfold LS.step
  generalize s.up room = u at *
  dsimp only
  split
  · rw [List.length_tail]; omega
  · exact hu
theorem ldN_len (room m : Nat) (hm : 1 ≤ m) : ∀ (f : Nat) (s : LS), s.ps.length ≤ m → (ldN room f s).ps.length ≤ m
  | 0, s, h => h
  | f + 1, s, h => by
    unfold ldN
    split
    · exact ldN_len room m hm f _ (ldStep_len room s m h hm)
    · exact h
theorem next_len {l : Nat → LQ} {tn room m : Nat} (hm : 1 ≤ m) (h : ∀ c, c < 7 → (l c).ps.length ≤ m) : ∀ c, c < 7 → ((nextOf l tn room).l c).ps.length ≤ m := by
  intro c hc
  unfold nextOf
  cases hf : firstQ l tn 7 0 with
  | none => exact h c hc
  | some s =>
    show (if c = s then _ else l c : LQ).ps.length ≤ m
    by_cases e : c = s
    · rw [if_pos e]
      subst e
      exact ldN_len room m hm room _ (h c hc)
    · rw [if_neg e]
      exact h c hc
/-- seven numbers in a block -/
structure IR (W : World) (wb : Nat) (ws : Nat → Nat) : Prop where
  ex : ∃ cs : Array Value, W.heap[wb]? = some (.cells cs 3) ∧ 7 ≤ cs.size ∧ ∀ j, j < 7 → cs[j]? = some (.int .i64 (ws j : Int))
theorem IR.cell {W : World} {wb : Nat} {ws : Nat → Nat} (h : IR W wb ws) (c : Nat) (hc : c < 7) : W.cell? ⟨wb, c, none⟩ = some (.int .i64 (ws c : Int)) ∧ W.frozen? ⟨wb, c, none⟩ = false := by
  obtain ⟨cs, h1, _, h2⟩ := h.ex
  exact ⟨by rw [cell_of_row _ _ _ _ _ _ h1, h2 c hc], frozen_row h1 _⟩
theorem IR.below {W W' : World} {wb : Nat} {ws : Nat → Nat} (h : IR W wb ws) (hb : Below W.heap.size W W') : IR W' wb ws := by
  obtain ⟨cs, h1, h2⟩ := h.ex
  exact ⟨cs, row_below h1 hb, h2⟩
theorem IR.other {W W' : World} {wb k T : Nat} {ws : Nat → Nat} {cs : Array Value} (h : IR W wb ws) (hg : W.grownBy W' (some k)) (hk : W.heap[k]? = some (.cells cs T)) (hT : 3 ≠ T) : IR W' wb ws := by
  obtain ⟨c2, h1, h2⟩ := h.ex
  exact ⟨c2, row_grown h1 hg (ne_tt h1 hk hT), h2⟩
theorem IR.set {W : World} {wb : Nat} {ws : Nat → Nat} (h : IR W wb ws) (c v : Nat) (hc : c < 7) : IR (W.setCell ⟨wb, c, none⟩ (.int .i64 (v : Int))) wb (fun x => if x = c then v else ws x) ∧ W.grownBy (W.setCell ⟨wb, c, none⟩ (.int .i64 (v : Int))) (some wb) := by
  obtain ⟨cs, h1, h2, h3⟩ := h.ex
  obtain ⟨m1, m2⟩ := set_row h1 c (.int .i64 (v : Int)) rfl
  refine ⟨⟨_, m1, by rw [Array.size_setIfInBounds]; exact h2, fun j hj => ?_⟩, m2⟩
  by_cases e : j = c
  · subst e
    rw [if_pos rfl, Array.getElem?_setIfInBounds_self_of_lt (by omega)]
  · rw [if_neg e, Array.getElem?_setIfInBounds_ne (fun h => e h.symm)]
    exact h3 j hj
theorem IR.congr {W : World} {wb : Nat} {ws ws' : Nat → Nat} (h : IR W wb ws) (e : ∀ c, c < 7 → ws c = ws' c) : IR W wb ws' := by
  obtain ⟨cs, h1, h2, h3⟩ := h.ex
  exact ⟨cs, h1, h2, fun j hj => by rw [← e j hj]; exact h3 j hj⟩
theorem SndL.other {W W' : World} {qb qc k T : Nat} {l : Nat → LQ} {cs : Array Value} (h : SndL W qb qc l) (hg : W.grownBy W' (some k)) (hk : W.heap[k]? = some (.cells cs T)) (h1 : T ≠ 42) (h2 : 33 ≠ T) (h3 : 5 ≠ T) : SndL W' qb qc l := by
  obtain ⟨q, k1, k2, k3⟩ := h.ex
  obtain ⟨cq, hq, _⟩ := k1.ex
  exact ⟨⟨q, k1.kept hg (ne_type hk h1 qb cq hq), fun c hc => (k2 c hc).other hg hk h2 h3, k3⟩, h.k, h.le, h.mx⟩
/-- what the law has in memory -/
structure TM (W : World) (S wb qb qc n ms tn : Nat) (l : Nat → LQ) (ws : Nat → Nat) : Prop where
  bx : W.heap[S]? = some (.cells #[.int .i64 3, .int .i64 (n : Int), .int .i64 (ms : Int), .int .i64 (tn : Int), .slice (some ⟨qb, 0, none⟩) 7 qc] 26)
  sl : SndL W qb qc l
  ir : IR W wb ws
theorem TM.below {W W' : World} {S wb qb qc n ms tn : Nat} {l : Nat → LQ} {ws : Nat → Nat} (h : TM W S wb qb qc n ms tn l ws) (hb : Below W.heap.size W W') : TM W' S wb qb qc n ms tn l ws :=
  ⟨row_below h.bx hb, h.sl.below hb, h.ir.below hb⟩
theorem TM.wait {W W' : World} {S wb qb qc n ms tn : Nat} {l : Nat → LQ} {ws ws' : Nat → Nat} (h : TM W S wb qb qc n ms tn l ws) (hg : W.grownBy W' (some wb)) (hn : IR W' wb ws') : TM W' S wb qb qc n ms tn l ws' := by
  obtain ⟨cs, h1, _⟩ := h.ir.ex
  exact ⟨row_grown h.bx hg (ne_tt h.bx h1 (by decide)), h.sl.other hg h1 (by decide) (by decide) (by decide), hn⟩
structure SX (y : Nat → Value) (ja : Option Addr) (jn jc n S wb : Nat) (i : Nat) : Prop where
  s1 : y 1 = .slice ja jn jc
  s5 : y 5 = .int .i64 (n : Int)
  s6 : y 6 = .pointer (some ⟨S, 0, none⟩)
  s7 : y 7 = .int .i64 0
  s8 : y 8 = .slice (some ⟨wb, 0, none⟩) 7 7
  s9 : y 9 = .int .i64 (i : Int)
end Go.Proofs.Ytjiipmalahhcpaa
