/- frame: Next: a queue is served. -/
import Derived.Test.YtjiipmalahhcpaaCarries14
import Derived.Deep.CutBlock
namespace Go.Proofs.Ytjiipmalahhcpaa
set_option linter.unusedVariables false
open Go.RowKit

structure SQ (y : Nat → Value) (qb c : Nat) : Prop where
  s11 : y 11 = .int .i64 (c : Int)
  s12 : y 12 = .pointer (some ⟨qb, c * 3, none⟩)
set_option maxRecDepth 1000000 in
set_option maxHeartbeats 2000000 in
theorem nx_15 (P H qb qc cr sz ms tn ch ma ow fi st c : Nat) (q : Nat → QS) (da : Option Addr) (room dc : Nat) (dd : List Nat) (hc : c < 7) (hPH : P ≤ H) :
    Tri Try.prog 109 (pieceOf Try.f9 [1, 1, 1, 1, 1, 1, 0, 1, 0, 0, 1, 1, 0, 0, 1, 1, 1, 1, 0]) (fun y w => SN y P H st da room dc ∧ SQ y qb c ∧ NM w P H qb qc cr sz ms tn ch ma ow fi q da room dc dd)
      (fun y w y' w' => SN y' P H st da room dc ∧ SQ y' qb c ∧ NM w' P H qb qc cr sz ms tn c ma (q c).own fi q da room dc dd ∧ Below P w w') := by
  rintro Q y w ⟨⟨s1, s2, s4, s8, s9⟩, ⟨s11, s12⟩, hM⟩ hQ
  have HQ := hid hQ
  clear hQ
  have HM := hid hM
  obtain ⟨k0, _, _, _⟩ := hM.qr.cell c hc
  have h1 : w.heap[H]? = _ := hM.hd
  have h1' : w.drew.heap[H]? = _ := hM.hd
  have k0' : ∀ w', w.drew.grownBy w' (some H) → w'.cell? ⟨qb, c * 3, none⟩ = some (.int .i64 ((q c).own : Int)) := fun w' hw => by
    obtain ⟨cq, hq, _⟩ := hM.qr.ex
    exact (World.cell?_of_block (hw.block qb hM.qr.lt (fun e => ne_type hM.hd (by decide) qb cq hq e.symm))).trans k0
  have p1 : w.drew.cell? ⟨H, 1, none⟩ = some (.int .i64 (ch : Int)) := by rw [cell_of_row _ _ _ _ _ _ h1']; rfl
  have fz := frozen_row h1' 1
  obtain ⟨m1, m2⟩ := set_row (cs' := #[.int .i64 (cr : Int), .int .i64 (c : Int), .int .i64 (ma : Int), .int .i64 (ow : Int), .int .i64 (fi : Int)]) h1' 1 (.int .i64 (c : Int)) rfl
  have M1 := hid m1
  have G1 := hid m2
  have HDr : Hid (NM w.drew P H qb qc cr sz ms tn ch ma ow fi q da room dc dd) := hM.below ((Below.refl _ w).drew)
  have HB := hid ((Below.refl P w).drew)
  have HlP := hid (show P ≤ w.drew.heap.size from Nat.le_trans hPH (Nat.le_of_lt (row_lt h1')))
  clear hM HM h1 k0 m1 m2 h1'
  conv => arg 2; whnf
  rw [fr109]
  simp only [s1, s2, s4, s8, s9, s11, s12]
  clear s1 s2 s4 s8 s9 s11 s12
  refine wp_region_can_all [6, 8] [0, 1, 2, 3, 4, 5, 6, 7, 8] (fun u u' => u.grownBy u' (some H)) (fun u => World.grownBy.refl u _) (fun _ _ _ h k => grownBy_trans h k) (by kernel_rfl) (by kernel_rfl) ?_
  simp only [List.map_cons, List.map_nil, List.contains_cons, List.contains_nil, List.getD_cons_zero, List.getD_cons_succ, Nat.reduceBEq, Bool.or_false, Bool.or_true]
  generalize w.drew = U at *
  iterate 6 (refine wpL_do rfl (fun w' hw' => (by go_simp; rfl)) ?_; simp only [Act.put, List.setIfInBounds_toArray, List.set_cons_succ, List.set_cons_zero])
  refine wpL_call rfl (fun K hK => ?_)
  go_wp2_with fail
  refine hK _ _ G1.out ?_
  clear hK K p1 fz k0'
  try simp only [Act.put, List.setIfInBounds_toArray, List.set_cons_succ, List.set_cons_zero]
  have HD2 := hid (HDr.out.head G1.out M1.out)
  have HB2 := hid (HB.out.grown G1.out HlP.out (fun k e => by cases e; exact hPH))
  have Hl2 := hid (Nat.le_trans HlP.out G1.out.size)
  clear HDr HB HlP M1 G1
  generalize U.setCell ⟨H, 1, none⟩ (.int .i64 (c : Int)) = V at *
  refine wpL_do rfl (fun w' hw' => (by go_simp; rfl)) ?_
  simp only [Act.put, List.setIfInBounds_toArray, List.set_cons_succ, List.set_cons_zero]
  have p3 : V.cell? ⟨H, 3, none⟩ = some (.int .i64 (ow : Int)) := by rw [cell_of_row _ _ _ _ _ _ HD2.out.hd]; rfl
  have fz := frozen_row HD2.out.hd 3
  obtain ⟨m1, m2⟩ := set_row (cs' := #[.int .i64 (cr : Int), .int .i64 (c : Int), .int .i64 (ma : Int), .int .i64 ((q c).own : Int), .int .i64 (fi : Int)]) HD2.out.hd 3 (.int .i64 ((q c).own : Int)) rfl
  have M1 := hid m1
  have G1 := hid m2
  clear m1 m2
  refine wpL_call rfl (fun K hK => ?_)
  go_wp2_with fail
  refine hK _ _ G1.out ?_
  clear hK K p3 fz
  try simp only [Act.put, List.setIfInBounds_toArray, List.set_cons_succ, List.set_cons_zero]
  refine wpL_nil ?_
  exact q_fr (N := 109) HQ.out rfl ⟨⟨rfl, rfl, rfl, rfl, rfl⟩, ⟨rfl, rfl⟩, HD2.out.head G1.out M1.out, HB2.out.grown G1.out Hl2.out (fun k e => by cases e; exact hPH)⟩
theorem and255 (n : Nat) (h : n ≤ 256) : bits .and .i64 ((n : Int)) 255 = ((n % 256 : Nat) : Int) := by
  have h1 := i64_and n 255 (by omega) (by decide)
  rw [show (255 : Nat) = 2 ^ 8 - 1 by decide, Nat.and_two_pow_sub_one_eq_mod] at h1
  exact h1
set_option maxRecDepth 1000000 in
set_option maxHeartbeats 2000000 in
theorem nx_16 (P H qb qc cr sz ms tn ch ma ow fi st c : Nat) (q : Nat → QS) (da : Option Addr) (room dc : Nat) (dd : List Nat) (hc : c < 7) (hPq : P ≤ qb) (ho : (q c).own ≤ 255) :
    Tri Try.prog 109 (pieceOf Try.f9 [1, 1, 1, 1, 1, 1, 0, 1, 0, 0, 1, 1, 0, 0, 1, 1, 1, 1, 1, 0]) (fun y w => SN y P H st da room dc ∧ SQ y qb c ∧ NM w P H qb qc cr sz ms tn ch ma ow fi q da room dc dd)
      (fun y w y' w' => SN y' P H st da room dc ∧ SQ y' qb c ∧ NM w' P H qb qc cr sz ms tn ch ma ow fi (setQ q c ⟨((q c).own + 1) % 256, (q c).pa, (q c).pn, (q c).pc, (q c).R, (q c).gone⟩) da room dc dd ∧ Below P w w') := by
  rintro Q y w ⟨⟨s1, s2, s4, s8, s9⟩, ⟨s11, s12⟩, hM⟩ hQ
  have HQ := hid hQ
  clear hQ
  have HM := hid hM
  obtain ⟨k0, _, _, kf⟩ := hM.qr.cell c hc
  have kf := kf (c * 3)
  have f1 := and255 ((q c).own + 1) (by omega)
  have f2 : ((q c).own : Int) + 1 = (((q c).own + 1 : Nat) : Int) := by omega
  have f3 : IntKind.i64.wrap ((((q c).own + 1 : Nat)) : Int) = (((q c).own + 1 : Nat) : Int) := IntWalk.i64_in _ (by omega)
  have f4 := f1
  rw [← f2] at f4
  have f5 := f3
  rw [← f2] at f5
  obtain ⟨g1, g2⟩ := hM.qr.puto hc (((q c).own + 1) % 256)
  have G1 := hid g1
  have G2 := hid g2
  have HlP := hid (show P ≤ w.heap.size from Nat.le_trans hPq (Nat.le_of_lt hM.qr.lt))
  clear hM g1 g2
  conv => arg 2; whnf
  rw [fr109]
  simp only [s1, s2, s4, s8, s9, s11, s12]
  clear s1 s2 s4 s8 s9 s11 s12
  generalize ((q c).own + 1) % 256 = o2 at *
  generalize (q c).own + 1 = o1 at *
  go_wp2_with fail
  refine q_fr (N := 109) HQ.out rfl ⟨⟨rfl, rfl, rfl, rfl, rfl⟩, ⟨rfl, rfl⟩, ?_, (Below.refl P w).grown G2.out HlP.out (fun k e => by cases e; exact hPq)⟩
  refine HM.out.queue G2.out G1.out (fun x hx => ?_) (.inl ⟨rfl, rfl, rfl⟩)
  by_cases e : x = c
  · subst e; rw [setQ_self]; exact .inl ⟨rfl, rfl, rfl, rfl⟩
  · rw [setQ_ne _ _ e]; exact .inl ⟨rfl, rfl, rfl, rfl⟩
set_option maxRecDepth 1000000 in
set_option maxHeartbeats 2000000 in
theorem nx_17 (P H qb qc cr sz ms tn ch ma ow fi st c : Nat) (q : Nat → QS) (da : Option Addr) (room dc : Nat) (dd : List Nat) (hc : c < 7) :
    Tri Try.prog 109 (pieceOf Try.f9 [1, 1, 1, 1, 1, 1, 0, 1, 0, 0, 1, 1, 0, 0, 1, 1, 1, 1, 1, 1, 0]) (fun y w => SN y P H st da room dc ∧ SQ y qb c ∧ NM w P H qb qc cr sz ms tn ch ma ow fi q da room dc dd)
      (fun y w y' w' => SN y' P H st da room dc ∧ SQ y' qb c ∧ NM w' P H qb qc cr sz ms ((c + 1) % 7) ch ma ow fi q da room dc dd ∧ Below P w w') := by
  rintro Q y w ⟨⟨s1, s2, s4, s8, s9⟩, ⟨s11, s12⟩, hM⟩ hQ
  have HQ := hid hQ
  clear hQ
  have HM := hid hM
  have p3 : w.cell? ⟨P, 3, none⟩ = some (.int .i64 (tn : Int)) := by rw [cell_of_row _ _ _ _ _ _ hM.bx]; rfl
  have p4 : w.cell? ⟨P, 4, none⟩ = some (.slice (some ⟨qb, 0, none⟩) 7 qc) := by rw [cell_of_row _ _ _ _ _ _ hM.bx]; rfl
  have fz := frozen_row hM.bx 3
  have f1 : IntKind.i64.wrap ((c : Int) + 1) = (c : Int) + 1 := IntWalk.i64_in _ (by omega)
  have f2 : ((c : Int) + 1).tmod 7 = (((c + 1) % 7 : Nat) : Int) := by rw [Int.tmod_eq_emod_of_nonneg (by omega)]; omega
  obtain ⟨m1, m2⟩ := set_row (cs' := #[.int .i64 (cr : Int), .int .i64 (sz : Int), .int .i64 (ms : Int), .int .i64 (((c + 1) % 7 : Nat) : Int), .slice (some ⟨qb, 0, none⟩) 7 qc]) hM.bx 3 (.int .i64 (((c + 1) % 7 : Nat) : Int)) rfl
  have f3 : IntKind.i64.wrap (((c + 1) % 7 : Nat) : Int) = (((c + 1) % 7 : Nat) : Int) := IntWalk.i64_in _ (by omega)
  have M1 := hid m1
  have G1 := hid m2
  have HlP := hid (Nat.le_of_lt (row_lt hM.bx))
  clear hM m1 m2
  conv => arg 2; whnf
  rw [fr109]
  simp only [s1, s2, s4, s8, s9, s11, s12]
  clear s1 s2 s4 s8 s9 s11 s12
  generalize (c + 1) % 7 = t at *
  go_wp2_with fail
  exact q_fr (N := 109) HQ.out rfl ⟨⟨rfl, rfl, rfl, rfl, rfl⟩, ⟨rfl, rfl⟩, HM.out.box G1.out M1.out, (Below.refl P w).grown G1.out HlP.out (fun k e => by cases e; exact Nat.le_refl _)⟩
end Go.Proofs.Ytjiipmalahhcpaa
/- frame: Next: the loop. -/
namespace Go.Proofs.Ytjiipmalahhcpaa
set_option linter.unusedVariables false
open Go.RowKit

structure NxE (w0 w : World) (P H qb qc cr sz ms ma st : Nat) (nx : NX) (room : Nat) (y : Nat → Value) : Prop where
  ex : ∃ q' da' dc', SN y P H st da' room dc' ∧ NM w P H qb qc cr sz ms nx.tn nx.ch ma nx.ow nx.fi q' da' room dc' nx.data ∧ ∀ x, x < 7 → (q' x).abs = nx.l x
  blw : Below P w0 w
/-- the queue's bytes are loaded -/
structure Nx18 (w w' : World) (P H qb qc cr sz ms tn ch ma ow st c room : Nat) (q : Nat → QS) (y' : Nat → Value) : Prop where
  ex : ∃ x da' dc', SN y' P H st da' room dc' ∧ NM w' P H qb qc cr sz ms tn ch ma ow (ldOf (q c).abs room).first (setQ q c x) da' room dc' (ldOf (q c).abs room).data ∧ x.gone = (ldOf (q c).abs room).gone ∧ conts x.R = (ldOf (q c).abs room).ps ∧ x.own = (q c).own
  blw : Below P w w'
set_option maxRecDepth 1000000 in
set_option maxHeartbeats 2000000 in
theorem nx_18 (P H qb qc cr sz ms tn ch ma ow fi st c : Nat) (q : Nat → QS) (da : Option Addr) (room dc : Nat) (dd : List Nat) (hc : c < 7) (hPq : P ≤ qb) (hPH : P ≤ H) (ho : (q c).abs.Ok) (h0 : 0 < room) (hr : room ≤ 2036) :
    Tri Try.prog 109 (pieceOf Try.f9 [1, 1, 1, 1, 1, 1, 0, 1, 0, 0, 1, 1, 0, 0, 1, 1, 1, 1, 1, 1, 1, 0]) (fun y w => SN y P H st da room dc ∧ SQ y qb c ∧ NM w P H qb qc cr sz ms tn ch ma ow fi q da room dc dd)
      (fun y w y' w' => Nx18 w w' P H qb qc cr sz ms tn ch ma ow st c room q y') := by
  rintro Q y w ⟨⟨s1, s2, s4, s8, s9⟩, ⟨s11, s12⟩, hM⟩ hQ
  have HQ := hid hQ
  clear hQ
  have HM := hid hM
  have hl := hid (load_ok qb c room q w hc hM.qr (hM.pk c hc) ho h0 (by omega))
  have HlP := hid (show P ≤ w.heap.size from Nat.le_trans hPq (Nat.le_of_lt hM.qr.lt))
  clear hM
  generalize hS : ldOf (q c).abs room = s at *
  conv => arg 2; whnf
  rw [fr109]
  simp only [s1, s2, s4, s8, s9, s11, s12]
  clear s1 s2 s4 s8 s9 s11 s12
  go_wp2_with fail
  refine hl.out.mono ?_
  rintro e W ⟨⟨x, da', dc', rfl, o1, o2, o3, o4, o5, o6⟩, gr, ok, ln⟩
  have hM2 : NM W P H qb qc cr sz ms tn ch ma ow fi (setQ q c x) da' room dc' s.data := HM.out.queue gr o2 (fun z hz => by
    by_cases e : z = c
    · subst e; rw [setQ_self]; exact .inr o3
    · rw [setQ_ne _ _ e]; exact .inl ⟨rfl, rfl, rfl, rfl⟩) (.inr (RdT.ofOwn o1))
  have HM2 := hid hM2
  have HB := hid ((Below.refl P w).grown gr HlP.out (fun k e => by cases e; exact hPq))
  have HlW := hid (Nat.le_trans HlP.out gr.size)
  have HX := hid (And.intro o4 (And.intro o5 o6))
  have p4 : W.cell? ⟨H, 4, none⟩ = some (.int .i64 (fi : Int)) := by rw [cell_of_row _ _ _ _ _ _ hM2.hd]; rfl
  have fz := frozen_row hM2.hd 4
  obtain ⟨m1, m2⟩ := set_row (cs' := #[.int .i64 (cr : Int), .int .i64 (ch : Int), .int .i64 (ma : Int), .int .i64 (ow : Int), .int .i64 (s.first : Int)]) hM2.hd 4 (.int .i64 (s.first : Int)) rfl
  have M1 := hid m1
  have G1 := hid m2
  clear hM2 gr o1 o2 o3 o4 o5 o6 ok ln m1 m2
  go_wp2_with fail
  exact q_fr (N := 109) HQ.out rfl (show Nx18 w _ P H qb qc cr sz ms tn ch ma ow st c room q _ from by
    refine ⟨⟨x, da', dc', ⟨rfl, rfl, rfl, rfl, rfl⟩, ?_, ?_⟩, HB.out.grown G1.out HlW.out (fun k e => by cases e; exact hPH)⟩
    · rw [hS]; exact HM2.out.head G1.out M1.out
    · rw [hS]; exact HX.out)
end Go.Proofs.Ytjiipmalahhcpaa
/- frame: Next: the loop over the queues. -/
namespace Go.Proofs.Ytjiipmalahhcpaa
set_option linter.unusedVariables false
open Go.RowKit

def NxI (w0 : World) (P H st : Nat) (l : Nat → LQ) (tn : Nat) (da : Option Addr) (room dc : Nat) (y : Nat → Value) (W : World) : Prop :=
  ∃ k : Nat, k ≤ 7 ∧ SN y P H st da room dc ∧ y 46 = .int .i64 7 ∧ y 47 = .int .i64 (k : Int) ∧ W = w0 ∧ firstQ l tn 7 0 = firstQ l tn (7 - k) k
theorem pk_len {W : World} {q : QS} (h : PkT W q.pa q.pn q.pc q.R) : q.pn = q.abs.ps.length := by
  show _ = (conts q.R).length
  rw [conts_len]
  have := h.rd.rd.len
  rw [rcs_len] at this
  exact this.symm
set_option maxRecDepth 1000000 in
set_option maxHeartbeats 8000000 in
theorem nx_l (P H qb qc cr sz ms tn ma st : Nat) (q : Nat → QS) (l : Nat → LQ) (da : Option Addr) (room dc : Nat) (hPq : P ≤ qb) (hPH : P ≤ H) (hl : ∀ x, x < 7 → (q x).abs = l x) (hk : ∀ x, x < 7 → (l x).Ok) (htn : tn ≤ 6) (h0 : 0 < room) (hr : room ≤ 2036) (hqc : 7 ≤ qc) (hqm : qc ≤ maxLen) :
    Tri Try.prog 109 (pieceOf Try.f9 [1, 1, 1, 1, 1, 1, 0, 1]) (fun y w => SN y P H st da room dc ∧ (y 46 = .int .i64 7 ∧ y 47 = .int .i64 0) ∧ NM w P H qb qc cr sz ms tn 7 ma 0 2046 q da room dc (List.replicate room 0))
      (fun y w y' w' => NxE w w' P H qb qc cr sz ms ma st (nextOf l tn room) room y') := by
  rintro Q y w ⟨⟨t1, t2, t4, t8, t9⟩, ⟨t46, t47⟩, hM⟩ hQ
  have HQ := hid hQ
  have HM := hid hM
  have HL := hid hl
  have HK := hid hk
  clear hQ hM hl hk
  unfold maxLen at hqm
  conv => arg 2; whnf
  refine wp_block ?_
  refine wp_loop_fr 109 (NxI w P H st l tn da room dc) (fun y' _ => 7 - (intOf (y' 47)).toNat) ⟨rfl, rfl, 0, by omega, ⟨t1, t2, t4, t8, t9⟩, t46, t47, rfl, rfl⟩ ?_
  clear t1 t2 t4 t8 t9 t46 t47
  rintro z W ⟨k, hk7, ⟨s1, s2, s4, s8, s9⟩, s46, s47, rfl, hf⟩
  have HF := hid hf
  clear hf
  rw [fr109]
  simp only [s1, s2, s4, s8, s9, s46, s47]
  clear s1 s2 s4 s8 s9 s46 s47
  by_cases hlt : k < 7
  · have d1 : decide ((k : Int) < 7) = true := decide_eq_true (by omega)
    obtain ⟨c, hc⟩ : ∃ c, c = (tn + k) % 7 := ⟨_, rfl⟩
    have hc7 : c < 7 := by omega
    have hc7' : (c : Int) < 7 := by omega
    have w1 : IntKind.i64.wrap ((tn : Int) + (k : Int)) = (tn : Int) + (k : Int) := IntWalk.i64_in _ (by omega)
    have w2 : ((tn : Int) + (k : Int)).tmod 7 = (c : Int) := by rw [Int.tmod_eq_emod_of_nonneg (by omega)]; omega
    have w3 : IntKind.i64.wrap (c : Int) = (c : Int) := IntWalk.i64_in _ (by omega)
    have p3 : W.cell? ⟨P, 3, none⟩ = some (.int .i64 (tn : Int)) := by rw [cell_of_row _ _ _ _ _ _ HM.out.bx]; rfl
    have p4 : W.cell? ⟨P, 4, none⟩ = some (.slice (some ⟨qb, 0, none⟩) 7 qc) := by rw [cell_of_row _ _ _ _ _ _ HM.out.bx]; rfl
    obtain ⟨_, k1, _, _⟩ := HM.out.qr.cell c hc7
    have hpn := pk_len (HM.out.pk c hc7)
    rw [HL.out c hc7] at hpn
    have hst : Hid (firstQ l tn (7 - k) k = if (l c).ps = [] then firstQ l tn (7 - (k + 1)) (k + 1) else some c) := by
      unfold Hid
      rw [show 7 - k = (7 - (k + 1)) + 1 by omega, hc]
      rfl
    have Hc := hid hc
    clear hc
    have hpm : (q c).pn ≤ 200 := by rw [hpn]; exact (HK.out c hc7).len
    by_cases he : (l c).ps = []
    · have hp0 : (q c).pn = 0 := by rw [hpn, he]; rfl
      rw [hp0] at k1
      have HF2 : Hid (firstQ l tn 7 0 = firstQ l tn (7 - (k + 1)) (k + 1)) := by
        unfold Hid
        rw [HF.out, hst.out, if_pos he]
      clear hst he hpn hp0 hpm HF
      go_wp2_with fail
      refine ⟨rfl, rfl, ⟨k + 1, by omega, ⟨rfl, rfl, rfl, rfl, rfl⟩, rfl, ?_, rfl, HF2.out⟩, ?_⟩
      · show Value.int .i64 _ = Value.int .i64 _
        go_num
      · show 7 - (intOf (Value.int .i64 _)).toNat < _
        simp [intOf]
        omega
    · have hps : 0 < (q c).pn := by
        rw [hpn]
        exact List.length_pos_iff.2 he
      have e1 : (((q c).pn : Int) == 0) = false := by rw [beq_eq_false_iff_ne]; omega
      have e2 : ((q c).pn == 0) = false := by rw [beq_eq_false_iff_ne]; omega
      have e3 : decide (((q c).pn : Int) = 0) = false := decide_eq_false (by omega)
      have HF2 : Hid (nextOf l tn room = nxSome l room c) := by
        unfold Hid nextOf
        rw [HF.out, hst.out, if_neg he]
      clear hst hpn HF
      have Hpn := hid hps
      clear hps
      go_upto_block 2 with (fail)
      refine wp_block ?_
      refine wp_seq_k (fun K0 hK0 => ?_)
      go_wp2_with fail
      refine hK0.out _ _ ?_
      refine wp_seq_k (fun K1 hK1 => ?_)
      go_wp2_with fail
      refine hK1.out _ _ ?_
      refine wp_seq_k (fun K2 hK2 => ?_)
      go_wp2_with fail
      refine hK2.out _ _ ?_
      refine wp_seq_k (fun K3 hK3 => ?_)
      go_wp2_with fail
      refine hK3.out _ _ ?_
      clear p3 p4 k1 e1 e2 e3 w1 w2 w3 d1
      have hok : (q c).abs.Ok := by rw [HL.out c hc7]; exact HK.out c hc7
      refine wp_seq_k (fun K4 hK4 => ?_)
      refine Tri.use (nx_15 P H qb qc cr sz ms tn 7 ma 0 2046 st c q da room dc (List.replicate room 0) hc7 hPH) rfl ⟨⟨rfl, rfl, rfl, rfl, rfl⟩, ⟨rfl, rfl⟩, HM.out⟩ ?_
      rintro y1 W1 ⟨a1, a2, a3, a4⟩
      refine hK4.out _ _ ?_
      refine wp_seq (nx_16 P H qb qc cr sz ms tn c ma (q c).own 2046 st c q da room dc (List.replicate room 0) hc7 hPq hok.own _ y1 W1 ⟨a1, a2, a3⟩ ?_)
      rintro y2 W2 ⟨b1, b2, b3, b4⟩
      refine wp_seq (nx_17 P H qb qc cr sz ms tn c ma (q c).own 2046 st c _ da room dc (List.replicate room 0) hc7 _ y2 W2 ⟨b1, b2, b3⟩ ?_)
      rintro y3 W3 ⟨c1, c2, c3, c4⟩
      have hq2 : (setQ q c ⟨((q c).own + 1) % 256, (q c).pa, (q c).pn, (q c).pc, (q c).R, (q c).gone⟩ c).abs = ⟨((q c).own + 1) % 256, (q c).gone, conts (q c).R⟩ := by rw [setQ_self]; rfl
      have hok2 : (setQ q c ⟨((q c).own + 1) % 256, (q c).pa, (q c).pn, (q c).pc, (q c).R, (q c).gone⟩ c).abs.Ok := by
        rw [hq2]
        exact ⟨by show ((q c).own + 1) % 256 ≤ 255; omega, hok.len, hok.enc, hok.g0, hok.g1⟩
      refine wp_seq (nx_18 P H qb qc cr sz ms ((c + 1) % 7) c ma (q c).own 2046 st c _ da room dc (List.replicate room 0) hc7 hPq hPH hok2 h0 hr _ y3 W3 ⟨c1, c2, c3⟩ ?_)
      rintro y4 W4 ⟨⟨x, da', dc', f1, f2, f3, f4, f5⟩, f6⟩
      have hld : ldOf (setQ q c ⟨((q c).own + 1) % 256, (q c).pa, (q c).pn, (q c).pc, (q c).R, (q c).gone⟩ c).abs room = ldOf (l c) room := by
        rw [hq2, ← HL.out c hc7]; rfl
      rw [hld] at f2 f3 f4
      have how : (q c).own = (l c).own := by rw [← HL.out c hc7]; rfl
      rw [setQ_self] at f5
      rw [how] at f2 f5
      have HE : Hid (NxE W W4 P H qb qc cr sz ms ma st (nextOf l tn room) room y4) := by
        unfold Hid
        rw [HF2.out]
        refine ⟨⟨_, da', dc', f1, f2, fun z hz => ?_⟩, a4.trans (b4.trans (c4.trans f6))⟩
        unfold nxSome
        dsimp only
        by_cases e : z = c
        · subst e
          rw [setQ_self, if_pos rfl]
          unfold QS.abs
          rw [f3, f4, f5]
        · rw [setQ_ne _ _ e, setQ_ne _ _ e, if_neg e]
          exact HL.out z hz
      show Code.wp Try.prog (Code.exit 1) _ _ _
      go_wp2_with fail
      exact HQ.out y4 W4 HE.out
  · obtain rfl : k = 7 := by omega
    have HF2 : Hid (nextOf l tn room = nxNone l tn room) := by
      unfold Hid nextOf
      rw [HF.out]
      rfl
    rw [show ((7 : Nat) : Int) = 7 from rfl]
    go_wp2_with fail
    refine q_fr (N := 109) HQ.out rfl ?_
    rw [HF2.out]
    exact ⟨⟨q, da, dc, ⟨rfl, rfl, rfl, rfl, rfl⟩, HM.out, HL.out⟩, Below.refl _ _⟩
end Go.Proofs.Ytjiipmalahhcpaa
