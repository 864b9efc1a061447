/- frame: own. -/
import Derived.Test.YtjiipmalahhcpaaTurns11
namespace Go.Proofs.Ytjiipmalahhcpaa
set_option linter.unusedVariables false
open Go.RowKit

theorem five {W : World} {b : Nat} {e : TypeId} {o0 o1 o2 o3 o4 : Value} (A : W.heap[b]? = some (.cells #[o0, o1, o2, o3, o4] e)) (v0 v1 v2 v3 v4 : Value) :
    (((((W.setCell ⟨b, 0, none⟩ v0).setCell ⟨b, 1, none⟩ v1).setCell ⟨b, 2, none⟩ v2).setCell ⟨b, 3, none⟩ v3).setCell ⟨b, 4, none⟩ v4).heap[b]? = some (.cells #[v0, v1, v2, v3, v4] e) ∧ W.grownBy (((((W.setCell ⟨b, 0, none⟩ v0).setCell ⟨b, 1, none⟩ v1).setCell ⟨b, 2, none⟩ v2).setCell ⟨b, 3, none⟩ v3).setCell ⟨b, 4, none⟩ v4) (some b) := by
  obtain ⟨h0, g0⟩ := set_row (cs' := #[v0, o1, o2, o3, o4]) A 0 v0 rfl
  obtain ⟨h1, g1⟩ := set_row (cs' := #[v0, v1, o2, o3, o4]) h0 1 v1 rfl
  obtain ⟨h2, g2⟩ := set_row (cs' := #[v0, v1, v2, o3, o4]) h1 2 v2 rfl
  obtain ⟨h3, g3⟩ := set_row (cs' := #[v0, v1, v2, v3, o4]) h2 3 v3 rfl
  obtain ⟨h4, g4⟩ := set_row (cs' := #[v0, v1, v2, v3, v4]) h3 4 v4 rfl
  exact ⟨h4, grownBy_trans g0 (grownBy_trans g1 (grownBy_trans g2 (grownBy_trans g3 g4)))⟩
theorem size5 {cs : Array Value} (h : cs.size = 5) : ∃ a b c d e, cs = #[a, b, c, d, e] := by
  obtain ⟨l⟩ := cs
  match l, h with
  | [a, b, c, d, e], _ => exact ⟨a, b, c, d, e, rfl⟩
theorem results_c1 {P : Program} {fn : Func} {p u : Tmp} {ty : TypeId} (h : fn.results = #[.cell p ty, .tmp u]) (tmps : Array Value) (w : World) (g : Nat) (t : TypeId) (cs : Array Value) (fr : Nat × Nat) (d : TypeDesc)
    (hp : tmps.getD p undef = .pointer (some ⟨g, 0, none⟩)) (hg : w.heap[g]? = some (.cells cs t fr))
    (hu : P.underlying ty = some d) (hd : (match d with | .struct _ | .array _ _ => true | _ => false) = true) (hi : (P.info? ty).map (·.size) = some cs.size) :
    (results fn tmps).run P w = .ok (.tuple #[.agg cs, tmps.getD u undef]) w := by
  have hp' : tmps[p]?.getD undef = .pointer (some ⟨g, 0, none⟩) := by simpa using hp
  simp [results, h, hp', asAddr, run_loadVar_row w g t ty cs fr d hg hu hd hi]
/-- what own answers -/
structure OwnR (W0 W : World) (c0 c1 c2 c3 : Int) (q : Nat → QS) (e : Ending) : Prop where
  ex : ∃ qb qc q', e = .returned (.tuple #[.agg #[.int .i64 c0, .int .i64 c1, .int .i64 c2, .int .i64 c3, .slice (some ⟨qb, 0, none⟩) 7 qc], .bool true]) ∧ 7 ≤ qc ∧ qc ≤ maxLen ∧ QB7 W qb q' ∧ W0.heap.size ≤ qb ∧ (∀ c, c < 7 → OwnQ W W0.heap.size (q' c) (q c)) ∧
    (∀ a b, a < 7 → b < 7 → a ≠ b → ∀ k, (Value.slice (q' a).pa (q' a).pn (q' a).pc).ownBlock = some k → (Value.slice (q' b).pa (q' b).pn (q' b).pc).ownBlock ≠ some k)
  blw : Below W0.heap.size W0 W
set_option maxRecDepth 1000000 in
set_option maxHeartbeats 4000000 in
theorem own_ok (craft size master turn qb qc : Nat) (q : Nat → QS) (W0 : World) (hs : SndQ W0 qb qc q) (h1 : craft ≤ 1023) (h2 : 13 ≤ size) (h3 : size ≤ 2048) (h4 : master ≤ 255) (h5 : turn ≤ 6) :
    Calls Try.prog 18 #[.agg #[.int .i64 (craft : Int), .int .i64 (size : Int), .int .i64 (master : Int), .int .i64 (turn : Int), .slice (some ⟨qb, 0, none⟩) 7 qc]] W0 fun e w' => OwnR W0 w' (craft : Int) (size : Int) (master : Int) (turn : Int) q e := by
  have b1 := below_alloc W0 (.cells #[.int .i64 (craft : Int), .int .i64 (size : Int), .int .i64 (master : Int), .int .i64 (turn : Int), .slice (some ⟨qb, 0, none⟩) 7 qc] 26)
  have r1 := heap_alloc_new W0 (.cells #[.int .i64 (craft : Int), .int .i64 (size : Int), .int .i64 (master : Int), .int .i64 (turn : Int), .slice (some ⟨qb, 0, none⟩) 7 qc] 26)
  have z1 : Hid ((W0.alloc (.cells #[.int .i64 (craft : Int), .int .i64 (size : Int), .int .i64 (master : Int), .int .i64 (turn : Int), .slice (some ⟨qb, 0, none⟩) 7 qc] 26)).heap.size = W0.heap.size + 1) := World.size_alloc _ _
  obtain ⟨P1, hP1⟩ : ∃ P1, P1 = W0.heap.size := ⟨_, rfl⟩
  rw [← hP1] at r1 b1 z1
  have HP1 := hid hP1
  have HS := hid hs
  have hqc := hs.le
  have hqm := hs.mx
  unfold maxLen at hqm
  clear hs hP1
  go_enter Try.func18, Try.ntmps18
  refine wp_seq_k (fun K0 hK0 => ?_)
  go_wp2_with fail
  rw [← HP1.out]
  refine hK0.out _ _ ?_
  generalize W0.alloc (.cells #[.int .i64 (craft : Int), .int .i64 (size : Int), .int .i64 (master : Int), .int .i64 (turn : Int), .slice (some ⟨qb, 0, none⟩) 7 qc] 26) = V1 at *
  have b2 := below_alloc V1 (.cells #[.int .i64 0, .int .i64 0, .int .i64 0, .int .i64 0, .slice none 0 0] 26)
  have r2 := heap_alloc_new V1 (.cells #[.int .i64 0, .int .i64 0, .int .i64 0, .int .i64 0, .slice none 0 0] 26)
  rw [z1.out] at r2
  have R1 := hid (row_below r1 b2)
  have R2 := hid r2
  have B2 := hid (b1.trans (b2.mono (by rw [z1.out]; exact Nat.le_succ _)))
  clear b1 b2 r1 r2
  generalize V1.alloc (.cells #[.int .i64 0, .int .i64 0, .int .i64 0, .int .i64 0, .slice none 0 0] 26) = V2 at *
  have p0 : V2.cell? ⟨P1, 0, none⟩ = some (.int .i64 (craft : Int)) := by rw [cell_of_row _ _ _ _ _ _ R1.out]; rfl
  have p1 : V2.cell? ⟨P1, 1, none⟩ = some (.int .i64 (size : Int)) := by rw [cell_of_row _ _ _ _ _ _ R1.out]; rfl
  have p2 : V2.cell? ⟨P1, 2, none⟩ = some (.int .i64 (master : Int)) := by rw [cell_of_row _ _ _ _ _ _ R1.out]; rfl
  have p3 : V2.cell? ⟨P1, 3, none⟩ = some (.int .i64 (turn : Int)) := by rw [cell_of_row _ _ _ _ _ _ R1.out]; rfl
  have p4 : V2.cell? ⟨P1, 4, none⟩ = some (.slice (some ⟨qb, 0, none⟩) 7 qc) := by rw [cell_of_row _ _ _ _ _ _ R1.out]; rfl
  have hQ2 : QB7 V2 qb q := HS.out.b.below (by rw [← HP1.out]; exact B2.out)
  have hcl := cloneQ qb qc q V2 hQ2
  have fz := frozen_row R1.out 4
  clear hQ2
  refine wp_seq_k (fun K1 hK1 => ?_)
  go_wp2_with (first
    | (go_at_call 14; refine (makes_ok _ _ _ (by omega) (by omega) (by omega)).mono ?_; rintro e w' ⟨rfl, hw'⟩; rw [hw']; clear hw' w')
    | (go_at_call 19; refine (in_f _ _ _ (by omega) (by omega)).mono ?_; rintro e w' ⟨rfl, hw'⟩; rw [hw']; clear hw' w'))
  refine hK1.out _ _ ?_
  refine wp_seq_k (fun K2 hK2 => ?_)
  go_wp2_with fail
  refine hcl.mono ?_
  rintro e V3 ⟨g, c, rfl, hgc, hgm, hgB, hq3, hb3⟩
  have hr1 := row_below R1.out hb3
  have hr2 := row_below R2.out hb3
  have p4 : V3.cell? ⟨P1, 4, none⟩ = some (.slice (some ⟨qb, 0, none⟩) 7 qc) := by rw [cell_of_row _ _ _ _ _ _ hr1]; rfl
  have fz := frozen_row hr1 4
  have hgP : g ≠ P1 := by have := row_lt R1.out; omega
  obtain ⟨hs1, hs2⟩ := set_row (cs' := #[.int .i64 (craft : Int), .int .i64 (size : Int), .int .i64 (master : Int), .int .i64 (turn : Int), .slice (some ⟨g, 0, none⟩) 7 c]) hr1 4 (.slice (some ⟨g, 0, none⟩) 7 c) rfl
  have hb03 : Below W0.heap.size W0 V3 := by rw [← HP1.out]; exact B2.out.trans (hb3.mono (by have := row_lt R1.out; omega))
  have hM : OM W0 (V3.setCell ⟨P1, 4, none⟩ (.slice (some ⟨g, 0, none⟩) 7 c)) P1 (P1 + 1) g c 0 (.int .i64 (craft : Int)) (.int .i64 (size : Int)) (.int .i64 (master : Int)) (.int .i64 (turn : Int)) q q := by
    refine ⟨hs1, ⟨_, row_grown hr2 hs2 (by omega), rfl⟩, by omega, (hq3.kept hs2 (fun e => by cases e; exact hgP rfl)).congr (fun c _ => by rw [if_neg (Nat.not_lt_zero c)]), fun c h => absurd h (Nat.not_lt_zero c), fun a b h => absurd h (Nat.not_lt_zero a), hb03.grown hs2 hb03.size (fun k e => by cases e; rw [HP1.out]; exact Nat.le_refl _), by rw [HP1.out]; exact Nat.le_refl _, by rw [HP1.out]; exact Nat.le_succ _, ?_⟩
    have := row_lt R1.out
    have := HP1.out
    omega
  have HM := hid hM
  have hgm2 := hgm
  unfold maxLen at hgm2
  have HL := hid (own_l W0 _ P1 (P1 + 1) qb qc g c (craft : Int) (size : Int) (master : Int) (turn : Int) q HS.out hM ⟨hgc, hgm⟩)
  clear hM hs1 hs2 hr1 hr2 hq3 hb3 hb03 hcl p0 p1 p2 p3
  go_wp2_with fail
  refine hK2.out _ _ ?_
  clear p4 fz
  generalize V3.setCell ⟨P1, 4, none⟩ (.slice (some ⟨g, 0, none⟩) 7 c) = V4 at *
  have p4 : V4.cell? ⟨P1, 4, none⟩ = some (.slice (some ⟨g, 0, none⟩) 7 c) := by rw [cell_of_row _ _ _ _ _ _ HM.out.p1]; rfl
  refine wp_seq_k (fun K3 hK3 => ?_)
  refine wp_seq_k (fun K4 hK4 => ?_)
  go_wp2_with fail
  refine hK4.out _ _ ?_
  clear p4
  refine Tri.use HL.out rfl ⟨rfl, rfl, rfl, rfl, rfl⟩ ?_
  rintro y5 V5 ⟨s1, s2, q', hM5⟩
  refine hK3.out _ _ ?_
  have HM5 := hid hM5
  obtain ⟨cs2, hr2, hsz⟩ := hM5.p2
  obtain ⟨o0, o1, o2, o3, o4, rfl⟩ := size5 hsz
  have hr1 := hM5.p1
  have p0 : V5.cell? ⟨P1, 0, none⟩ = some (.int .i64 (craft : Int)) := by rw [cell_of_row _ _ _ _ _ _ hr1]; rfl
  have p1 : V5.cell? ⟨P1, 1, none⟩ = some (.int .i64 (size : Int)) := by rw [cell_of_row _ _ _ _ _ _ hr1]; rfl
  have p2 : V5.cell? ⟨P1, 2, none⟩ = some (.int .i64 (master : Int)) := by rw [cell_of_row _ _ _ _ _ _ hr1]; rfl
  have p3 : V5.cell? ⟨P1, 3, none⟩ = some (.int .i64 (turn : Int)) := by rw [cell_of_row _ _ _ _ _ _ hr1]; rfl
  have p4 : V5.cell? ⟨P1, 4, none⟩ = some (.slice (some ⟨g, 0, none⟩) 7 c) := by rw [cell_of_row _ _ _ _ _ _ hr1]; rfl
  have t0 : V5.cell? ⟨P1 + 1, 0, none⟩ = some o0 := by rw [cell_of_row _ _ _ _ _ _ hr2]; rfl
  have t1 : V5.cell? ⟨P1 + 1, 1, none⟩ = some o1 := by rw [cell_of_row _ _ _ _ _ _ hr2]; rfl
  have t2 : V5.cell? ⟨P1 + 1, 2, none⟩ = some o2 := by rw [cell_of_row _ _ _ _ _ _ hr2]; rfl
  have t3 : V5.cell? ⟨P1 + 1, 3, none⟩ = some o3 := by rw [cell_of_row _ _ _ _ _ _ hr2]; rfl
  have t4 : V5.cell? ⟨P1 + 1, 4, none⟩ = some o4 := by rw [cell_of_row _ _ _ _ _ _ hr2]; rfl
  have fz := frozen_row hr2
  obtain ⟨f1, f2⟩ := five hr2 (.int .i64 (craft : Int)) (.int .i64 (size : Int)) (.int .i64 (master : Int)) (.int .i64 (turn : Int)) (.slice (some ⟨g, 0, none⟩) 7 c)
  have HF1 := hid f1
  have HF2 := hid f2
  have HR2 := hid hr2
  clear hM5 hr1 hr2 hsz f1 f2 HM HL
  rw [fr85]
  simp only [s1, s2]
  clear s1 s2
  refine wp_seq_k (fun K5 hK5 => ?_)
  go_wp2_with fail
  refine hK5.out _ _ ?_
  clear p0 p1 p2 p3 p4 t0 t1 t2 t3 t4 fz
  generalize ((((V5.setCell ⟨P1 + 1, 0, none⟩ (.int .i64 (craft : Int))).setCell ⟨P1 + 1, 1, none⟩ (.int .i64 (size : Int))).setCell ⟨P1 + 1, 2, none⟩ (.int .i64 (master : Int))).setCell ⟨P1 + 1, 3, none⟩ (.int .i64 (turn : Int))).setCell ⟨P1 + 1, 4, none⟩ (.slice (some ⟨g, 0, none⟩) 7 c) = V6 at *
  go_wp2_with fail
  refine bodyPost_ret (results_c1 rfl _ _ (P1 + 1) 26 #[.int .i64 (craft : Int), .int .i64 (size : Int), .int .i64 (master : Int), .int .i64 (turn : Int), .slice (some ⟨g, 0, none⟩) 7 c] (0, 0) _ rfl HF1.out Try.underlying26 rfl (by kernel_rfl)) rfl ?_
  have hM := HM5.out
  have hq6 : QB7 V6 g q' := by
    obtain ⟨cq, hqr, _⟩ := hM.qr.ex
    exact (hM.qr.kept HF2.out (ne_type HR2.out (by decide) g cq hqr)).congr (fun c hc => by rw [if_pos hc])
  refine ⟨⟨g, c, q', rfl, hgc, hgm, hq6, hM.b3, fun c hc => ?_, hM.dis⟩, hM.blw.grown HF2.out hM.blw.size (fun k e => by cases e; exact hM.b2)⟩
  refine (hM.oq c hc).kept HF2.out ?_ (ne_type HR2.out (by decide))
  rcases own_ne (hM.oq c hc).o HR2.out (by decide) with h | h
  · exact .inl h
  · exact .inr h
end Go.Proofs.Ytjiipmalahhcpaa
/- frame: what a queue is, without memory. -/
namespace Go.Proofs.Ytjiipmalahhcpaa
set_option linter.unusedVariables false
open Go.RowKit

structure LQ where
  own : Nat
  gone : Nat
  ps : List (List Nat)
def QS.abs (q : QS) : LQ := ⟨q.own, q.gone, conts q.R⟩
structure LQ.Ok (l : LQ) : Prop where
  own : l.own ≤ 255
  len : l.ps.length ≤ 200
  enc : ∀ p ∈ l.ps, IsEnc p
  g0 : l.ps = [] → l.gone = 0
  g1 : ∀ p S, l.ps = p :: S → l.gone < p.length
theorem QS.ok_of {q : QS} (h : q.abs.Ok) : q.Ok := by
  refine ⟨h.own, ?_, fun r hr => h.enc _ (List.mem_map_of_mem hr), fun e => h.g0 ?_, fun r S e => ?_⟩
  · have := h.len
    unfold QS.abs conts at this
    rwa [List.length_map] at this
  · show conts q.R = []
    rw [e]; rfl
  · exact h.g1 r.2 (conts S) (by show conts q.R = _; rw [e]; rfl)
theorem conts_len (R : List RB) : (conts R).length = R.length := by unfold conts; rw [List.length_map]
theorem OwnQ.abs {W : World} {B : Nat} {q' q : QS} (h : OwnQ W B q' q) : q'.abs = q.abs := by
  unfold QS.abs
  rw [h.w, h.g, h.c]
theorem OwnQ.pk {W : World} {B : Nat} {q' q : QS} (h : OwnQ W B q' q) : PkT W q'.pa q'.pn q'.pc q'.R := ⟨RdT.ofOwn h.o, h.r⟩
/-- a sender's queues read as l -/
structure SndL (W : World) (qb qc : Nat) (l : Nat → LQ) : Prop where
  ex : ∃ q, QB7 W qb q ∧ (∀ c, c < 7 → PkT W (q c).pa (q c).pn (q c).pc (q c).R) ∧ ∀ c, c < 7 → (q c).abs = l c
  k : ∀ c, c < 7 → (l c).Ok
  le : 7 ≤ qc
  mx : qc ≤ maxLen
theorem SndL.below {W W' : World} {qb qc : Nat} {l : Nat → LQ} (h : SndL W qb qc l) (hb : Below W.heap.size W W') : SndL W' qb qc l := by
  obtain ⟨q, h1, h2, h3⟩ := h.ex
  exact ⟨⟨q, h1.below hb, fun c hc => (h2 c hc).below hb, h3⟩, h.k, h.le, h.mx⟩
/-- a sender's value -/
def sv (craft size master turn qb qc : Nat) : Value := .agg #[.int .i64 (craft : Int), .int .i64 (size : Int), .int .i64 (master : Int), .int .i64 (turn : Int), .slice (some ⟨qb, 0, none⟩) 7 qc]
/-- what own answers, of l -/
structure OwnL (W0 W : World) (craft size master turn : Nat) (l : Nat → LQ) (e : Ending) : Prop where
  ex : ∃ qb qc q', e = .returned (.tuple #[sv craft size master turn qb qc, .bool true]) ∧ 7 ≤ qc ∧ qc ≤ maxLen ∧ QB7 W qb q' ∧ W0.heap.size ≤ qb ∧ (∀ c, c < 7 → W.ownsRow W0.heap.size 33 1 (.slice (q' c).pa (q' c).pn (q' c).pc) (q' c).pn (rcs (q' c).R) ∧ (∀ r ∈ (q' c).R, RdT 5 W r.1.1 r.1.2.1 r.1.2.2 (vb r.2)) ∧ (q' c).abs = l c) ∧
    (∀ a b, a < 7 → b < 7 → a ≠ b → ∀ k, (Value.slice (q' a).pa (q' a).pn (q' a).pc).ownBlock = some k → (Value.slice (q' b).pa (q' b).pn (q' b).pc).ownBlock ≠ some k)
  blw : Below W0.heap.size W0 W
theorem own_l_ok (craft size master turn qb qc : Nat) (l : Nat → LQ) (W0 : World) (hs : SndL W0 qb qc l) (h1 : craft ≤ 1023) (h2 : 13 ≤ size) (h3 : size ≤ 2048) (h4 : master ≤ 255) (h5 : turn ≤ 6) :
    Calls Try.prog 18 #[sv craft size master turn qb qc] W0 fun e w' => OwnL W0 w' craft size master turn l e := by
  obtain ⟨q, k1, k2, k3⟩ := hs.ex
  refine (own_ok craft size master turn qb qc q W0 ⟨k1, k2, fun c hc => QS.ok_of (by rw [k3 c hc]; exact hs.k c hc), hs.le, hs.mx⟩ h1 h2 h3 h4 h5).mono ?_
  rintro e w' ⟨⟨qb', qc', q', he, j1, j2, j3, j4, j5, j6⟩, hb⟩
  exact ⟨⟨qb', qc', q', he, j1, j2, j3, j4, fun c hc => ⟨(j5 c hc).o, (j5 c hc).r, (j5 c hc).abs.trans (k3 c hc)⟩, j6⟩, hb⟩
end Go.Proofs.Ytjiipmalahhcpaa
