/- frame: Next: a queue is served. -/
import Derived.Test.YtjiipmalahhcpaaTurns21
import Derived.Deep.CutBlock
namespace Go.Proofs.Ytjiipmalahhcpaa
set_option linter.unusedVariables false
open Go.RowKit

structure SQ (y : Nat → Value) (qb c : Nat) : Prop where
  s11 : y 11 = .int .i64 (c : Int)
  s12 : y 12 = .pointer (some ⟨qb, c * 3, none⟩)
set_option maxRecDepth 1000000 in
set_option maxHeartbeats 2000000 in
theorem nx_15 (P H qb qc cr sz ms tn ch ma ow fi st c : Nat) (q : Nat → QS) (da : Option Addr) (room dc : Nat) (dd : List Nat) (hc : c < 7) (hPH : P ≤ H) :
    Tri Try.prog 109 (pieceOf Try.f9 [1, 1, 1, 1, 1, 1, 0, 1, 0, 0, 1, 1, 0, 0, 1, 1, 1, 1, 0]) (fun y w => SN y P H st da room dc ∧ SQ y qb c ∧ NM w P H qb qc cr sz ms tn ch ma ow fi q da room dc dd)
      (fun y w y' w' => SN y' P H st da room dc ∧ SQ y' qb c ∧ NM w' P H qb qc cr sz ms tn c ma (q c).own fi q da room dc dd ∧ Below P w w') := by
  rintro Q y w ⟨⟨s1, s2, s4, s8, s9⟩, ⟨s11, s12⟩, hM⟩ hQ
  have HQ := hid hQ
  clear hQ
  have HM := hid hM
  obtain ⟨k0, _, _, _⟩ := hM.qr.cell c hc
  have h1 : w.heap[H]? = _ := hM.hd
  have h1' : w.drew.heap[H]? = _ := hM.hd
  have k0' : ∀ w', w.drew.grownBy w' (some H) → w'.cell? ⟨qb, c * 3, none⟩ = some (.int .i64 ((q c).own : Int)) := fun w' hw => by
    obtain ⟨cq, hq, _⟩ := hM.qr.ex
    exact (World.cell?_of_block (hw.block qb hM.qr.lt (fun e => ne_type hM.hd (by decide) qb cq hq e.symm))).trans k0
  have p1 : w.drew.cell? ⟨H, 1, none⟩ = some (.int .i64 (ch : Int)) := by rw [cell_of_row _ _ _ _ _ _ h1']; rfl
  have fz := frozen_row h1' 1
  obtain ⟨m1, m2⟩ := set_row (cs' := #[.int .i64 (cr : Int), .int .i64 (c : Int), .int .i64 (ma : Int), .int .i64 (ow : Int), .int .i64 (fi : Int)]) h1' 1 (.int .i64 (c : Int)) rfl
  have M1 := hid m1
  have G1 := hid m2
  have HDr : Hid (NM w.drew P H qb qc cr sz ms tn ch ma ow fi q da room dc dd) := hM.below ((Below.refl _ w).drew)
  have HB := hid ((Below.refl P w).drew)
  have HlP := hid (show P ≤ w.drew.heap.size from Nat.le_trans hPH (Nat.le_of_lt (row_lt h1')))
  clear hM HM h1 k0 m1 m2 h1'
  conv => arg 2; whnf
  rw [fr109]
  simp only [s1, s2, s4, s8, s9, s11, s12]
  clear s1 s2 s4 s8 s9 s11 s12
  refine wp_region_can_all [6, 8] [0, 1, 2, 3, 4, 5, 6, 7, 8] (fun u u' => u.grownBy u' (some H)) (fun u => World.grownBy.refl u _) (fun _ _ _ h k => grownBy_trans h k) (by kernel_rfl) (by kernel_rfl) ?_
  simp only [List.map_cons, List.map_nil, List.contains_cons, List.contains_nil, List.getD_cons_zero, List.getD_cons_succ, Nat.reduceBEq, Bool.or_false, Bool.or_true]
  generalize w.drew = U at *
  iterate 6 (refine wpL_do rfl (fun w' hw' => (by go_simp; rfl)) ?_; simp only [Act.put, List.setIfInBounds_toArray, List.set_cons_succ, List.set_cons_zero])
  refine wpL_call rfl (fun K hK => ?_)
  go_wp2_with fail
  refine hK _ _ G1.out ?_
  clear hK K p1 fz k0'
  try simp only [Act.put, List.setIfInBounds_toArray, List.set_cons_succ, List.set_cons_zero]
  have HD2 := hid (HDr.out.head G1.out M1.out)
  have HB2 := hid (HB.out.grown G1.out HlP.out (fun k e => by cases e; exact hPH))
  have Hl2 := hid (Nat.le_trans HlP.out G1.out.size)
  clear HDr HB HlP M1 G1
  generalize U.setCell ⟨H, 1, none⟩ (.int .i64 (c : Int)) = V at *
  refine wpL_do rfl (fun w' hw' => (by go_simp; rfl)) ?_
  simp only [Act.put, List.setIfInBounds_toArray, List.set_cons_succ, List.set_cons_zero]
  have p3 : V.cell? ⟨H, 3, none⟩ = some (.int .i64 (ow : Int)) := by rw [cell_of_row _ _ _ _ _ _ HD2.out.hd]; rfl
  have fz := frozen_row HD2.out.hd 3
  obtain ⟨m1, m2⟩ := set_row (cs' := #[.int .i64 (cr : Int), .int .i64 (c : Int), .int .i64 (ma : Int), .int .i64 ((q c).own : Int), .int .i64 (fi : Int)]) HD2.out.hd 3 (.int .i64 ((q c).own : Int)) rfl
  have M1 := hid m1
  have G1 := hid m2
  clear m1 m2
  refine wpL_call rfl (fun K hK => ?_)
  go_wp2_with fail
  refine hK _ _ G1.out ?_
  clear hK K p3 fz
  try simp only [Act.put, List.setIfInBounds_toArray, List.set_cons_succ, List.set_cons_zero]
  refine wpL_nil ?_
  exact q_fr (N := 109) HQ.out rfl ⟨⟨rfl, rfl, rfl, rfl, rfl⟩, ⟨rfl, rfl⟩, HD2.out.head G1.out M1.out, HB2.out.grown G1.out Hl2.out (fun k e => by cases e; exact hPH)⟩
theorem and255 (n : Nat) (h : n ≤ 256) : bits .and .i64 ((n : Int)) 255 = ((n % 256 : Nat) : Int) := by
  have h1 := i64_and n 255 (by omega) (by decide)
  rw [show (255 : Nat) = 2 ^ 8 - 1 by decide, Nat.and_two_pow_sub_one_eq_mod] at h1
  exact h1
set_option maxRecDepth 1000000 in
set_option maxHeartbeats 2000000 in
theorem nx_16 (P H qb qc cr sz ms tn ch ma ow fi st c : Nat) (q : Nat → QS) (da : Option Addr) (room dc : Nat) (dd : List Nat) (hc : c < 7) (hPq : P ≤ qb) (ho : (q c).own ≤ 255) :
    Tri Try.prog 109 (pieceOf Try.f9 [1, 1, 1, 1, 1, 1, 0, 1, 0, 0, 1, 1, 0, 0, 1, 1, 1, 1, 1, 0]) (fun y w => SN y P H st da room dc ∧ SQ y qb c ∧ NM w P H qb qc cr sz ms tn ch ma ow fi q da room dc dd)
      (fun y w y' w' => SN y' P H st da room dc ∧ SQ y' qb c ∧ NM w' P H qb qc cr sz ms tn ch ma ow fi (setQ q c ⟨((q c).own + 1) % 256, (q c).pa, (q c).pn, (q c).pc, (q c).R, (q c).gone⟩) da room dc dd ∧ Below P w w') := by
  rintro Q y w ⟨⟨s1, s2, s4, s8, s9⟩, ⟨s11, s12⟩, hM⟩ hQ
  have HQ := hid hQ
  clear hQ
  have HM := hid hM
  obtain ⟨k0, _, _, kf⟩ := hM.qr.cell c hc
  have kf := kf (c * 3)
  have f1 := and255 ((q c).own + 1) (by omega)
  have f2 : ((q c).own : Int) + 1 = (((q c).own + 1 : Nat) : Int) := by omega
  have f3 : IntKind.i64.wrap ((((q c).own + 1 : Nat)) : Int) = (((q c).own + 1 : Nat) : Int) := IntWalk.i64_in _ (by omega)
  have f4 := f1
  rw [← f2] at f4
  have f5 := f3
  rw [← f2] at f5
  obtain ⟨g1, g2⟩ := hM.qr.puto hc (((q c).own + 1) % 256)
  have G1 := hid g1
  have G2 := hid g2
  have HlP := hid (show P ≤ w.heap.size from Nat.le_trans hPq (Nat.le_of_lt hM.qr.lt))
  clear hM g1 g2
  conv => arg 2; whnf
  rw [fr109]
  simp only [s1, s2, s4, s8, s9, s11, s12]
  clear s1 s2 s4 s8 s9 s11 s12
  generalize ((q c).own + 1) % 256 = o2 at *
  generalize (q c).own + 1 = o1 at *
  go_wp2_with fail
  refine q_fr (N := 109) HQ.out rfl ⟨⟨rfl, rfl, rfl, rfl, rfl⟩, ⟨rfl, rfl⟩, ?_, (Below.refl P w).grown G2.out HlP.out (fun k e => by cases e; exact hPq)⟩
  refine HM.out.queue G2.out G1.out (fun x hx => ?_) (.inl ⟨rfl, rfl, rfl⟩)
  by_cases e : x = c
  · subst e; rw [setQ_self]; exact .inl ⟨rfl, rfl, rfl, rfl⟩
  · rw [setQ_ne _ _ e]; exact .inl ⟨rfl, rfl, rfl, rfl⟩
set_option maxRecDepth 1000000 in
set_option maxHeartbeats 2000000 in
theorem nx_17 (P H qb qc cr sz ms tn ch ma ow fi st c : Nat) (q : Nat → QS) (da : Option Addr) (room dc : Nat) (dd : List Nat) (hc : c < 7) :
    Tri Try.prog 109 (pieceOf Try.f9 [1, 1, 1, 1, 1, 1, 0, 1, 0, 0, 1, 1, 0, 0, 1, 1, 1, 1, 1, 1, 0]) (fun y w => SN y P H st da room dc ∧ SQ y qb c ∧ NM w P H qb qc cr sz ms tn ch ma ow fi q da room dc dd)
      (fun y w y' w' => SN y' P H st da room dc ∧ SQ y' qb c ∧ NM w' P H qb qc cr sz ms ((c + 1) % 7) ch ma ow fi q da room dc dd ∧ Below P w w') := by
  rintro Q y w ⟨⟨s1, s2, s4, s8, s9⟩, ⟨s11, s12⟩, hM⟩ hQ
  have HQ := hid hQ
  clear hQ
  have HM := hid hM
  have p3 : w.cell? ⟨P, 3, none⟩ = some (.int .i64 (tn : Int)) := by rw [cell_of_row _ _ _ _ _ _ hM.bx]; rfl
  have p4 : w.cell? ⟨P, 4, none⟩ = some (.slice (some ⟨qb, 0, none⟩) 7 qc) := by rw [cell_of_row _ _ _ _ _ _ hM.bx]; rfl
  have fz := frozen_row hM.bx 3
  have f1 : IntKind.i64.wrap ((c : Int) + 1) = (c : Int) + 1 := IntWalk.i64_in _ (by omega)
  have f2 : ((c : Int) + 1).tmod 7 = (((c + 1) % 7 : Nat) : Int) := by rw [Int.tmod_eq_emod_of_nonneg (by omega)]; omega
  obtain ⟨m1, m2⟩ := set_row (cs' := #[.int .i64 (cr : Int), .int .i64 (sz : Int), .int .i64 (ms : Int), .int .i64 (((c + 1) % 7 : Nat) : Int), .slice (some ⟨qb, 0, none⟩) 7 qc]) hM.bx 3 (.int .i64 (((c + 1) % 7 : Nat) : Int)) rfl
  have f3 : IntKind.i64.wrap (((c + 1) % 7 : Nat) : Int) = (((c + 1) % 7 : Nat) : Int) := IntWalk.i64_in _ (by omega)
  have M1 := hid m1
  have G1 := hid m2
  have HlP := hid (Nat.le_of_lt (row_lt hM.bx))
  clear hM m1 m2
  conv => arg 2; whnf
  rw [fr109]
  simp only [s1, s2, s4, s8, s9, s11, s12]
  clear s1 s2 s4 s8 s9 s11 s12
  generalize (c + 1) % 7 = t at *
  go_wp2_with fail
  exact q_fr (N := 109) HQ.out rfl ⟨⟨rfl, rfl, rfl, rfl, rfl⟩, ⟨rfl, rfl⟩, HM.out.box G1.out M1.out, (Below.refl P w).grown G1.out HlP.out (fun k e => by cases e; exact Nat.le_refl _)⟩
end Go.Proofs.Ytjiipmalahhcpaa
/- frame: Next: the loop. -/
namespace Go.Proofs.Ytjiipmalahhcpaa
set_option linter.unusedVariables false
open Go.RowKit

structure NxE (w0 w : World) (P H qb qc cr sz ms ma st : Nat) (nx : NX) (room : Nat) (y : Nat → Value) : Prop where
  ex : ∃ q' da' dc', SN y P H st da' room dc' ∧ NM w P H qb qc cr sz ms nx.tn nx.ch ma nx.ow nx.fi q' da' room dc' nx.data ∧ ∀ x, x < 7 → (q' x).abs = nx.l x
  blw : Below P w0 w
/-- the queue's bytes are loaded -/
structure Nx18 (w w' : World) (P H qb qc cr sz ms tn ch ma ow st c room : Nat) (q : Nat → QS) (y' : Nat → Value) : Prop where
  ex : ∃ x da' dc', SN y' P H st da' room dc' ∧ NM w' P H qb qc cr sz ms tn ch ma ow (ldOf (q c).abs room).first (setQ q c x) da' room dc' (ldOf (q c).abs room).data ∧ x.gone = (ldOf (q c).abs room).gone ∧ conts x.R = (ldOf (q c).abs room).ps ∧ x.own = (q c).own
  blw : Below P w w'
set_option maxRecDepth 1000000 in
set_option maxHeartbeats 2000000 in
theorem nx_18 (P H qb qc cr sz ms tn ch ma ow fi st c : Nat) (q : Nat → QS) (da : Option Addr) (room dc : Nat) (dd : List Nat) (hc : c < 7) (hPq : P ≤ qb) (hPH : P ≤ H) (ho : (q c).abs.Ok) (h0 : 0 < room) (hr : room ≤ 2036) :
    Tri Try.prog 109 (pieceOf Try.f9 [1, 1, 1, 1, 1, 1, 0, 1, 0, 0, 1, 1, 0, 0, 1, 1, 1, 1, 1, 1, 1, 0]) (fun y w => SN y P H st da room dc ∧ SQ y qb c ∧ NM w P H qb qc cr sz ms tn ch ma ow fi q da room dc dd)
      (fun y w y' w' => Nx18 w w' P H qb qc cr sz ms tn ch ma ow st c room q y') := by
  rintro Q y w ⟨⟨s1, s2, s4, s8, s9⟩, ⟨s11, s12⟩, hM⟩ hQ
  have HQ := hid hQ
  clear hQ
  have HM := hid hM
  have hl := hid (load_ok qb c room q w hc hM.qr (hM.pk c hc) ho h0 (by omega))
  have HlP := hid (show P ≤ w.heap.size from Nat.le_trans hPq (Nat.le_of_lt hM.qr.lt))
  clear hM
  generalize hS : ldOf (q c).abs room = s at *
  conv => arg 2; whnf
  rw [fr109]
  simp only [s1, s2, s4, s8, s9, s11, s12]
  clear s1 s2 s4 s8 s9 s11 s12
  go_wp2_with fail
  refine hl.out.mono ?_
  rintro e W ⟨⟨x, da', dc', rfl, o1, o2, o3, o4, o5, o6⟩, gr, ok, ln⟩
  have hM2 : NM W P H qb qc cr sz ms tn ch ma ow fi (setQ q c x) da' room dc' s.data := HM.out.queue gr o2 (fun z hz => by
    by_cases e : z = c
    · subst e; rw [setQ_self]; exact .inr o3
    · rw [setQ_ne _ _ e]; exact .inl ⟨rfl, rfl, rfl, rfl⟩) (.inr (RdT.ofOwn o1))
  have HM2 := hid hM2
  have HB := hid ((Below.refl P w).grown gr HlP.out (fun k e => by cases e; exact hPq))
  have HlW := hid (Nat.le_trans HlP.out gr.size)
  have HX := hid (And.intro o4 (And.intro o5 o6))
  have p4 : W.cell? ⟨H, 4, none⟩ = some (.int .i64 (fi : Int)) := by rw [cell_of_row _ _ _ _ _ _ hM2.hd]; rfl
  have fz := frozen_row hM2.hd 4
  obtain ⟨m1, m2⟩ := set_row (cs' := #[.int .i64 (cr : Int), .int .i64 (ch : Int), .int .i64 (ma : Int), .int .i64 (ow : Int), .int .i64 (s.first : Int)]) hM2.hd 4 (.int .i64 (s.first : Int)) rfl
  have M1 := hid m1
  have G1 := hid m2
  clear hM2 gr o1 o2 o3 o4 o5 o6 ok ln m1 m2
  go_wp2_with fail
  exact q_fr (N := 109) HQ.out rfl (show Nx18 w _ P H qb qc cr sz ms tn ch ma ow st c room q _ from by
    refine ⟨⟨x, da', dc', ⟨rfl, rfl, rfl, rfl, rfl⟩, ?_, ?_⟩, HB.out.grown G1.out HlW.out (fun k e => by cases e; exact hPH)⟩
    · rw [hS]; exact HM2.out.head G1.out M1.out
    · rw [hS]; exact HX.out)
end Go.Proofs.Ytjiipmalahhcpaa
