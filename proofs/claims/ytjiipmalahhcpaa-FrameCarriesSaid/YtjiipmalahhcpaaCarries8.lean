/- frame: own: the walk. -/
import Derived.Test.YtjiipmalahhcpaaCarries7
namespace Go.Proofs.Ytjiipmalahhcpaa
set_option linter.unusedVariables false
open Go.RowKit

/-- what a queue's block reads as, and the packets -/
structure SndQ (W : World) (qb qc : Nat) (q : Nat → QS) : Prop where
  b : QB7 W qb q
  p : ∀ c, c < 7 → PkT W (q c).pa (q c).pn (q c).pc (q c).R
  k : ∀ c, c < 7 → (q c).Ok
  le : 7 ≤ qc
  mx : qc ≤ maxLen
theorem SndQ.below {W W' : World} {qb qc : Nat} {q : Nat → QS} (h : SndQ W qb qc q) (hb : Below W.heap.size W W') : SndQ W' qb qc q := ⟨h.b.below hb, fun c hc => (h.p c hc).below hb, h.k, h.le, h.mx⟩
def OwI (w0 : World) (P1 P2 qb qc : Nat) (c0 c1 c2 c3 : Value) (q : Nat → QS) (y : Nat → Value) (W : World) : Prop :=
  ∃ (i : Nat) (q' : Nat → QS), i ≤ 7 ∧ y 1 = .pointer (some ⟨P1, 0, none⟩) ∧ y 2 = .pointer (some ⟨P2, 0, none⟩) ∧ y 38 = .int .i64 7 ∧ y 39 = .int .i64 (i : Int) ∧ OM w0 W P1 P2 qb qc i c0 c1 c2 c3 q q'
theorem QS.rlen {W : World} {q : QS} (hp : PkT W q.pa q.pn q.pc q.R) (hk : q.Ok) : q.pn ≤ 200 ∧ q.pc ≤ maxLen ∧ q.pn ≤ q.pc := by
  have h1 := hp.pk.len
  have h2 := hk.len
  exact ⟨by omega, hp.rd.rd.max, hp.rd.rd.le⟩
set_option maxRecDepth 1000000 in
set_option maxHeartbeats 4000000 in
theorem own_l (w0 W1 : World) (P1 P2 qb0 qc0 qb qc : Nat) (a0 a1 a2 a3 : Int) (q : Nat → QS) (hs : SndQ w0 qb0 qc0 q) (hM : OM w0 W1 P1 P2 qb qc 0 (.int .i64 a0) (.int .i64 a1) (.int .i64 a2) (.int .i64 a3) q q) (hqc : 7 ≤ qc ∧ qc ≤ maxLen) :
    Tri Try.prog 85 (pieceOf Try.f18 [1, 1, 1, 0, 1]) (fun y w => y 1 = .pointer (some ⟨P1, 0, none⟩) ∧ y 2 = .pointer (some ⟨P2, 0, none⟩) ∧ y 38 = .int .i64 7 ∧ y 39 = .int .i64 0 ∧ w = W1)
      (fun _ _ y w => y 1 = .pointer (some ⟨P1, 0, none⟩) ∧ y 2 = .pointer (some ⟨P2, 0, none⟩) ∧ ∃ q', OM w0 w P1 P2 qb qc 7 (.int .i64 a0) (.int .i64 a1) (.int .i64 a2) (.int .i64 a3) q q') := by
  rintro Q y w ⟨s1, s2, s38, s39, rfl⟩ hQ
  have HQ := hid hQ
  have HS := hid hs
  have HM := hid hM
  obtain ⟨hqc1, hqc2⟩ := hqc
  unfold maxLen at hqc2
  clear hQ hs hM
  conv => arg 2; whnf
  rw [fr85]
  simp only [s1, s2, s38, s39]
  clear s1 s2 s38 s39
  refine wp_block ?_
  refine wp_loop_fr 85 (OwI w0 P1 P2 qb qc (.int .i64 a0) (.int .i64 a1) (.int .i64 a2) (.int .i64 a3) q) (fun y' _ => 7 - (intOf (y' 39)).toNat) ⟨rfl, rfl, 0, q, Nat.zero_le _, rfl, rfl, rfl, rfl, HM.out⟩ ?_
  clear HM
  rintro z W ⟨i, q', hi, s1, s2, s38, s39, hM⟩
  have HM := hid hM
  rw [fr85]
  simp only [s1, s2, s38, s39]
  clear s1 s2 s38 s39
  by_cases hlt : i < 7
  · have d1 : decide ((i : Int) < 7) = true := decide_eq_true (by omega)
    have d2 : decide (i < 7) = true := decide_eq_true hlt
    have hi7 : (i : Int) < 7 := by omega
    have p4 : W.cell? ⟨P1, 4, none⟩ = some (.slice (some ⟨qb, 0, none⟩) 7 qc) := by rw [cell_of_row _ _ _ _ _ _ hM.p1]; rfl
    obtain ⟨k0, k1, k2, kf⟩ := hM.qr.cell i hlt
    simp only [if_neg (Nat.lt_irrefl i)] at k0 k1 k2
    have kf := kf (i * 3 + 1)
    have hpk := (HS.out.p i hlt).below hM.blw
    have hok := HS.out.k i hlt
    obtain ⟨hpn, hpc, hpl⟩ := QS.rlen hpk hok
    unfold maxLen at hpc
    have hw := waits_ok (q i) W hok hpk.pk
    have hcl := hid (fun W' (hb : Below W.heap.size W W') => cloneR_any (q i).pa (q i).pn (q i).pc (q i).R W' (hpk.pk.rd.below hb) (by omega))
    have HSt := hid (fun W1 W2 ao c (h1 : Below W.heap.size W W1) (h2 : Below W1.heap.size W1 W2) (ho : W2.ownsRow W1.heap.size 33 1 (.slice ao (q i).pn c) (q i).pn (rcs (q i).R)) => (hM.below h1).store hlt h2 ho)
    have HR5 : Hid (∀ r ∈ (q i).R, RdT 5 w0 r.1.1 r.1.2.1 r.1.2.2 (vb r.2)) := fun r hr => (HS.out.p i hlt).rows r hr
    have HRl : Hid (∀ r ∈ (q i).R, r.2.length ≤ 100000) := fun r hr => by have := (hok.enc r hr).len; omega
    have hM2 := hid (fun W' (hb : Below W.heap.size W W') => hM.below hb)
    clear hM hpk hok
    go_upto_block 1 with (fail)
    refine wp_block ?_
    refine wp_seq_k (fun K1 hK1 => ?_)
    go_wp2_with fail
    refine hK1.out _ _ ?_
    refine wp_seq_k (fun K2 hK2 => ?_)
    go_wp2_with fail
    refine hK2.out _ _ ?_
    refine wp_seq_k (fun K3 hK3 => ?_)
    go_wp2_with fail
    refine hw.mono ?_
    rintro e W2 ⟨rfl, hb2⟩
    have HB2 := hid hb2
    have k1' := (hM2.out W2 hb2).qr.cell i hlt
    simp only [if_neg (Nat.lt_irrefl i)] at k1'
    obtain ⟨_, k1, _, kf⟩ := k1'
    have kf := kf (i * 3 + 1)
    clear hw hb2 k0 k2 p4 hM2
    go_wp2_with fail
    refine hK3.out _ _ ?_
    refine wp_seq_k (fun K4 hK4 => ?_)
    go_wp2_with fail
    refine (hcl.out W2 HB2.out).mono ?_
    rintro e W3 ⟨ao, c, rfl, ho3, hb3⟩
    have h1 := HSt.out W2 W3 ao c HB2.out hb3 ho3
    have k1' := ((HM.out.below HB2.out).below hb3).qr.cell i hlt
    simp only [if_neg (Nat.lt_irrefl i)] at k1'
    obtain ⟨_, k1, _, kf⟩ := k1'
    have kf := kf (i * 3 + 1)
    have H1 := hid h1
    clear h1 ho3 hb3 hcl HSt HM
    go_wp2_with fail
    refine hK4.out _ _ ?_
    clear k1 kf
    generalize W3.setCell ⟨qb, i * 3 + 1, none⟩ (.slice ao (q i).pn c) = W4 at *
    have k1 := (H1.out.qr.cell i hlt).2.1
    unfold putP at k1
    simp only [if_neg (Nat.lt_irrefl i), if_pos] at k1
    have hin := hid (own_in w0 W4 w0.heap.size P1 P2 qb i 7 ao (q i).pn c (q i).R (putP q q' i ao c) hlt hpn rfl H1.out.blw H1.out.qr (by unfold putP; rw [if_neg (Nat.lt_irrefl i), if_pos rfl]; exact ⟨rfl, rfl, rfl⟩) H1.out.own HR5.out HRl.out)
    have HNx := hid (fun W' R' hg ho hc hr => H1.out.next (W' := W') hlt R' hg ho hc hr)
    generalize (q i).pn = pn at *
    clear HR5 HRl H1
    refine wp_seq_k (fun K5 hK5 => ?_)
    go_wp2_with fail
    refine hK5.out _ _ ?_
    clear k1
    refine Tri.use hin.out rfl ⟨⟨rfl, rfl, rfl⟩, rfl, rfl, rfl, rfl, rfl⟩ ?_
    rintro y6 W6 ⟨⟨s1, s2, s5⟩, s38, s39, R', ho6, hc6, hr6, hg6⟩
    have HM6 := hid (HNx.out W6 R' hg6 ho6 hc6 hr6)
    clear ho6 hc6 hr6 hg6 hin HNx
    rw [fr85]
    simp only [s1, s2, s38, s39]
    clear s1 s2 s5 s38 s39
    go_wp2_with fail
    refine ⟨rfl, rfl, ⟨i + 1, _, by omega, rfl, rfl, rfl, ?_, HM6.out⟩, ?_⟩
    · show Value.int .i64 _ = Value.int .i64 _
      go_num
    · show 7 - (intOf (Value.int .i64 _)).toNat < _
      simp [intOf]
      omega
  · obtain rfl : i = 7 := by omega
    clear hM
    go_wp2_with fail
    exact q_fr (N := 85) HQ.out rfl ⟨rfl, rfl, q', HM.out⟩
end Go.Proofs.Ytjiipmalahhcpaa
/- frame: own. -/
namespace Go.Proofs.Ytjiipmalahhcpaa
set_option linter.unusedVariables false
open Go.RowKit

theorem five {W : World} {b : Nat} {e : TypeId} {o0 o1 o2 o3 o4 : Value} (A : W.heap[b]? = some (.cells #[o0, o1, o2, o3, o4] e)) (v0 v1 v2 v3 v4 : Value) :
    (((((W.setCell ⟨b, 0, none⟩ v0).setCell ⟨b, 1, none⟩ v1).setCell ⟨b, 2, none⟩ v2).setCell ⟨b, 3, none⟩ v3).setCell ⟨b, 4, none⟩ v4).heap[b]? = some (.cells #[v0, v1, v2, v3, v4] e) ∧ W.grownBy (((((W.setCell ⟨b, 0, none⟩ v0).setCell ⟨b, 1, none⟩ v1).setCell ⟨b, 2, none⟩ v2).setCell ⟨b, 3, none⟩ v3).setCell ⟨b, 4, none⟩ v4) (some b) := by
  obtain ⟨h0, g0⟩ := set_row (cs' := #[v0, o1, o2, o3, o4]) A 0 v0 rfl
  obtain ⟨h1, g1⟩ := set_row (cs' := #[v0, v1, o2, o3, o4]) h0 1 v1 rfl
  obtain ⟨h2, g2⟩ := set_row (cs' := #[v0, v1, v2, o3, o4]) h1 2 v2 rfl
  obtain ⟨h3, g3⟩ := set_row (cs' := #[v0, v1, v2, v3, o4]) h2 3 v3 rfl
  obtain ⟨h4, g4⟩ := set_row (cs' := #[v0, v1, v2, v3, v4]) h3 4 v4 rfl
  exact ⟨h4, grownBy_trans g0 (grownBy_trans g1 (grownBy_trans g2 (grownBy_trans g3 g4)))⟩
theorem size5 {cs : Array Value} (h : cs.size = 5) : ∃ a b c d e, cs = #[a, b, c, d, e] := by
  obtain ⟨l⟩ := cs
  match l, h with
  | [a, b, c, d, e], _ => exact ⟨a, b, c, d, e, rfl⟩
theorem results_c1 {P : Program} {fn : Func} {p u : Tmp} {ty : TypeId} (h : fn.results = #[.cell p ty, .tmp u]) (tmps : Array Value) (w : World) (g : Nat) (t : TypeId) (cs : Array Value) (fr : Nat × Nat) (d : TypeDesc)
    (hp : tmps.getD p undef = .pointer (some ⟨g, 0, none⟩)) (hg : w.heap[g]? = some (.cells cs t fr))
    (hu : P.underlying ty = some d) (hd : (match d with | .struct _ | .array _ _ => true | _ => false) = true) (hi : (P.info? ty).map (·.size) = some cs.size) :
    (results fn tmps).run P w = .ok (.tuple #[.agg cs, tmps.getD u undef]) w := by
  have hp' : tmps[p]?.getD undef = .pointer (some ⟨g, 0, none⟩) := by simpa using hp
  simp [results, h, hp', asAddr, run_loadVar_row w g t ty cs fr d hg hu hd hi]
/-- what own answers -/
structure OwnR (W0 W : World) (c0 c1 c2 c3 : Int) (q : Nat → QS) (e : Ending) : Prop where
  ex : ∃ qb qc q', e = .returned (.tuple #[.agg #[.int .i64 c0, .int .i64 c1, .int .i64 c2, .int .i64 c3, .slice (some ⟨qb, 0, none⟩) 7 qc], .bool true]) ∧ 7 ≤ qc ∧ qc ≤ maxLen ∧ QB7 W qb q' ∧ W0.heap.size ≤ qb ∧ (∀ c, c < 7 → OwnQ W W0.heap.size (q' c) (q c)) ∧
    (∀ a b, a < 7 → b < 7 → a ≠ b → ∀ k, (Value.slice (q' a).pa (q' a).pn (q' a).pc).ownBlock = some k → (Value.slice (q' b).pa (q' b).pn (q' b).pc).ownBlock ≠ some k)
  blw : Below W0.heap.size W0 W
set_option maxRecDepth 1000000 in
set_option maxHeartbeats 4000000 in
theorem own_ok (craft size master turn qb qc : Nat) (q : Nat → QS) (W0 : World) (hs : SndQ W0 qb qc q) (h1 : craft ≤ 1023) (h2 : 13 ≤ size) (h3 : size ≤ 2048) (h4 : master ≤ 255) (h5 : turn ≤ 6) :
    Calls Try.prog 18 #[.agg #[.int .i64 (craft : Int), .int .i64 (size : Int), .int .i64 (master : Int), .int .i64 (turn : Int), .slice (some ⟨qb, 0, none⟩) 7 qc]] W0 fun e w' => OwnR W0 w' (craft : Int) (size : Int) (master : Int) (turn : Int) q e := by
  have b1 := below_alloc W0 (.cells #[.int .i64 (craft : Int), .int .i64 (size : Int), .int .i64 (master : Int), .int .i64 (turn : Int), .slice (some ⟨qb, 0, none⟩) 7 qc] 26)
  have r1 := heap_alloc_new W0 (.cells #[.int .i64 (craft : Int), .int .i64 (size : Int), .int .i64 (master : Int), .int .i64 (turn : Int), .slice (some ⟨qb, 0, none⟩) 7 qc] 26)
  have z1 : Hid ((W0.alloc (.cells #[.int .i64 (craft : Int), .int .i64 (size : Int), .int .i64 (master : Int), .int .i64 (turn : Int), .slice (some ⟨qb, 0, none⟩) 7 qc] 26)).heap.size = W0.heap.size + 1) := World.size_alloc _ _
  obtain ⟨P1, hP1⟩ : ∃ P1, P1 = W0.heap.size := ⟨_, rfl⟩
  rw [← hP1] at r1 b1 z1
  have HP1 := hid hP1
  have HS := hid hs
  have hqc := hs.le
  have hqm := hs.mx
  unfold maxLen at hqm
  clear hs hP1
  go_enter Try.func18, Try.ntmps18
  refine wp_seq_k (fun K0 hK0 => ?_)
  go_wp2_with fail
  rw [← HP1.out]
  refine hK0.out _ _ ?_
  generalize W0.alloc (.cells #[.int .i64 (craft : Int), .int .i64 (size : Int), .int .i64 (master : Int), .int .i64 (turn : Int), .slice (some ⟨qb, 0, none⟩) 7 qc] 26) = V1 at *
  have b2 := below_alloc V1 (.cells #[.int .i64 0, .int .i64 0, .int .i64 0, .int .i64 0, .slice none 0 0] 26)
  have r2 := heap_alloc_new V1 (.cells #[.int .i64 0, .int .i64 0, .int .i64 0, .int .i64 0, .slice none 0 0] 26)
  rw [z1.out] at r2
  have R1 := hid (row_below r1 b2)
  have R2 := hid r2
  have B2 := hid (b1.trans (b2.mono (by rw [z1.out]; exact Nat.le_succ _)))
  clear b1 b2 r1 r2
  generalize V1.alloc (.cells #[.int .i64 0, .int .i64 0, .int .i64 0, .int .i64 0, .slice none 0 0] 26) = V2 at *
  have p0 : V2.cell? ⟨P1, 0, none⟩ = some (.int .i64 (craft : Int)) := by rw [cell_of_row _ _ _ _ _ _ R1.out]; rfl
  have p1 : V2.cell? ⟨P1, 1, none⟩ = some (.int .i64 (size : Int)) := by rw [cell_of_row _ _ _ _ _ _ R1.out]; rfl
  have p2 : V2.cell? ⟨P1, 2, none⟩ = some (.int .i64 (master : Int)) := by rw [cell_of_row _ _ _ _ _ _ R1.out]; rfl
  have p3 : V2.cell? ⟨P1, 3, none⟩ = some (.int .i64 (turn : Int)) := by rw [cell_of_row _ _ _ _ _ _ R1.out]; rfl
  have p4 : V2.cell? ⟨P1, 4, none⟩ = some (.slice (some ⟨qb, 0, none⟩) 7 qc) := by rw [cell_of_row _ _ _ _ _ _ R1.out]; rfl
  have hQ2 : QB7 V2 qb q := HS.out.b.below (by rw [← HP1.out]; exact B2.out)
  have hcl := cloneQ qb qc q V2 hQ2
  have fz := frozen_row R1.out 4
  clear hQ2
  refine wp_seq_k (fun K1 hK1 => ?_)
  go_wp2_with (first
    | (go_at_call 14; refine (makes_ok _ _ _ (by omega) (by omega) (by omega)).mono ?_; rintro e w' ⟨rfl, hw'⟩; rw [hw']; clear hw' w')
    | (go_at_call 19; refine (in_f _ _ _ (by omega) (by omega)).mono ?_; rintro e w' ⟨rfl, hw'⟩; rw [hw']; clear hw' w'))
  refine hK1.out _ _ ?_
  refine wp_seq_k (fun K2 hK2 => ?_)
  go_wp2_with fail
  refine hcl.mono ?_
  rintro e V3 ⟨g, c, rfl, hgc, hgm, hgB, hq3, hb3⟩
  have hr1 := row_below R1.out hb3
  have hr2 := row_below R2.out hb3
  have p4 : V3.cell? ⟨P1, 4, none⟩ = some (.slice (some ⟨qb, 0, none⟩) 7 qc) := by rw [cell_of_row _ _ _ _ _ _ hr1]; rfl
  have fz := frozen_row hr1 4
  have hgP : g ≠ P1 := by have := row_lt R1.out; omega
  obtain ⟨hs1, hs2⟩ := set_row (cs' := #[.int .i64 (craft : Int), .int .i64 (size : Int), .int .i64 (master : Int), .int .i64 (turn : Int), .slice (some ⟨g, 0, none⟩) 7 c]) hr1 4 (.slice (some ⟨g, 0, none⟩) 7 c) rfl
  have hb03 : Below W0.heap.size W0 V3 := by rw [← HP1.out]; exact B2.out.trans (hb3.mono (by have := row_lt R1.out; omega))
  have hM : OM W0 (V3.setCell ⟨P1, 4, none⟩ (.slice (some ⟨g, 0, none⟩) 7 c)) P1 (P1 + 1) g c 0 (.int .i64 (craft : Int)) (.int .i64 (size : Int)) (.int .i64 (master : Int)) (.int .i64 (turn : Int)) q q := by
    refine ⟨hs1, ⟨_, row_grown hr2 hs2 (by omega), rfl⟩, by omega, (hq3.kept hs2 (fun e => by cases e; exact hgP rfl)).congr (fun c _ => by rw [if_neg (Nat.not_lt_zero c)]), fun c h => absurd h (Nat.not_lt_zero c), fun a b h => absurd h (Nat.not_lt_zero a), hb03.grown hs2 hb03.size (fun k e => by cases e; rw [HP1.out]; exact Nat.le_refl _), by rw [HP1.out]; exact Nat.le_refl _, by rw [HP1.out]; exact Nat.le_succ _, ?_⟩
    have := row_lt R1.out
    have := HP1.out
    omega
  have HM := hid hM
  have hgm2 := hgm
  unfold maxLen at hgm2
  have HL := hid (own_l W0 _ P1 (P1 + 1) qb qc g c (craft : Int) (size : Int) (master : Int) (turn : Int) q HS.out hM ⟨hgc, hgm⟩)
  clear hM hs1 hs2 hr1 hr2 hq3 hb3 hb03 hcl p0 p1 p2 p3
  go_wp2_with fail
  refine hK2.out _ _ ?_
  clear p4 fz
  generalize V3.setCell ⟨P1, 4, none⟩ (.slice (some ⟨g, 0, none⟩) 7 c) = V4 at *
  have p4 : V4.cell? ⟨P1, 4, none⟩ = some (.slice (some ⟨g, 0, none⟩) 7 c) := by rw [cell_of_row _ _ _ _ _ _ HM.out.p1]; rfl
  refine wp_seq_k (fun K3 hK3 => ?_)
  refine wp_seq_k (fun K4 hK4 => ?_)
  go_wp2_with fail
  refine hK4.out _ _ ?_
  clear p4
  refine Tri.use HL.out rfl ⟨rfl, rfl, rfl, rfl, rfl⟩ ?_
  rintro y5 V5 ⟨s1, s2, q', hM5⟩
  refine hK3.out _ _ ?_
  have HM5 := hid hM5
  obtain ⟨cs2, hr2, hsz⟩ := hM5.p2
  obtain ⟨o0, o1, o2, o3, o4, rfl⟩ := size5 hsz
  have hr1 := hM5.p1
  have p0 : V5.cell? ⟨P1, 0, none⟩ = some (.int .i64 (craft : Int)) := by rw [cell_of_row _ _ _ _ _ _ hr1]; rfl
  have p1 : V5.cell? ⟨P1, 1, none⟩ = some (.int .i64 (size : Int)) := by rw [cell_of_row _ _ _ _ _ _ hr1]; rfl
  have p2 : V5.cell? ⟨P1, 2, none⟩ = some (.int .i64 (master : Int)) := by rw [cell_of_row _ _ _ _ _ _ hr1]; rfl
  have p3 : V5.cell? ⟨P1, 3, none⟩ = some (.int .i64 (turn : Int)) := by rw [cell_of_row _ _ _ _ _ _ hr1]; rfl
  have p4 : V5.cell? ⟨P1, 4, none⟩ = some (.slice (some ⟨g, 0, none⟩) 7 c) := by rw [cell_of_row _ _ _ _ _ _ hr1]; rfl
  have t0 : V5.cell? ⟨P1 + 1, 0, none⟩ = some o0 := by rw [cell_of_row _ _ _ _ _ _ hr2]; rfl
  have t1 : V5.cell? ⟨P1 + 1, 1, none⟩ = some o1 := by rw [cell_of_row _ _ _ _ _ _ hr2]; rfl
  have t2 : V5.cell? ⟨P1 + 1, 2, none⟩ = some o2 := by rw [cell_of_row _ _ _ _ _ _ hr2]; rfl
  have t3 : V5.cell? ⟨P1 + 1, 3, none⟩ = some o3 := by rw [cell_of_row _ _ _ _ _ _ hr2]; rfl
  have t4 : V5.cell? ⟨P1 + 1, 4, none⟩ = some o4 := by rw [cell_of_row _ _ _ _ _ _ hr2]; rfl
  have fz := frozen_row hr2
  obtain ⟨f1, f2⟩ := five hr2 (.int .i64 (craft : Int)) (.int .i64 (size : Int)) (.int .i64 (master : Int)) (.int .i64 (turn : Int)) (.slice (some ⟨g, 0, none⟩) 7 c)
  have HF1 := hid f1
  have HF2 := hid f2
  have HR2 := hid hr2
  clear hM5 hr1 hr2 hsz f1 f2 HM HL
  rw [fr85]
  simp only [s1, s2]
  clear s1 s2
  refine wp_seq_k (fun K5 hK5 => ?_)
  go_wp2_with fail
  refine hK5.out _ _ ?_
  clear p0 p1 p2 p3 p4 t0 t1 t2 t3 t4 fz
  generalize ((((V5.setCell ⟨P1 + 1, 0, none⟩ (.int .i64 (craft : Int))).setCell ⟨P1 + 1, 1, none⟩ (.int .i64 (size : Int))).setCell ⟨P1 + 1, 2, none⟩ (.int .i64 (master : Int))).setCell ⟨P1 + 1, 3, none⟩ (.int .i64 (turn : Int))).setCell ⟨P1 + 1, 4, none⟩ (.slice (some ⟨g, 0, none⟩) 7 c) = V6 at *
  go_wp2_with fail
  refine bodyPost_ret (results_c1 rfl _ _ (P1 + 1) 26 #[.int .i64 (craft : Int), .int .i64 (size : Int), .int .i64 (master : Int), .int .i64 (turn : Int), .slice (some ⟨g, 0, none⟩) 7 c] (0, 0) _ rfl HF1.out Try.underlying26 rfl (by kernel_rfl)) rfl ?_
  have hM := HM5.out
  have hq6 : QB7 V6 g q' := by
    obtain ⟨cq, hqr, _⟩ := hM.qr.ex
    exact (hM.qr.kept HF2.out (ne_type HR2.out (by decide) g cq hqr)).congr (fun c hc => by rw [if_pos hc])
  refine ⟨⟨g, c, q', rfl, hgc, hgm, hq6, hM.b3, fun c hc => ?_, hM.dis⟩, hM.blw.grown HF2.out hM.blw.size (fun k e => by cases e; exact hM.b2)⟩
  refine (hM.oq c hc).kept HF2.out ?_ (ne_type HR2.out (by decide))
  rcases own_ne (hM.oq c hc).o HR2.out (by decide) with h | h
  · exact .inl h
  · exact .inr h
end Go.Proofs.Ytjiipmalahhcpaa
/- frame: what a queue is, without memory. -/
namespace Go.Proofs.Ytjiipmalahhcpaa
set_option linter.unusedVariables false
open Go.RowKit

structure LQ where
  own : Nat
  gone : Nat
  ps : List (List Nat)
def QS.abs (q : QS) : LQ := ⟨q.own, q.gone, conts q.R⟩
structure LQ.Ok (l : LQ) : Prop where
  own : l.own ≤ 255
  len : l.ps.length ≤ 200
  enc : ∀ p ∈ l.ps, IsEnc p
  g0 : l.ps = [] → l.gone = 0
  g1 : ∀ p S, l.ps = p :: S → l.gone < p.length
theorem QS.ok_of {q : QS} (h : q.abs.Ok) : q.Ok := by
  refine ⟨h.own, ?_, fun r hr => h.enc _ (List.mem_map_of_mem hr), fun e => h.g0 ?_, fun r S e => ?_⟩
  · have := h.len
    unfold QS.abs conts at this
    rwa [List.length_map] at this
  · show conts q.R = []
    rw [e]; rfl
  · exact h.g1 r.2 (conts S) (by show conts q.R = _; rw [e]; rfl)
theorem conts_len (R : List RB) : (conts R).length = R.length := by unfold conts; rw [List.length_map]
theorem OwnQ.abs {W : World} {B : Nat} {q' q : QS} (h : OwnQ W B q' q) : q'.abs = q.abs := by
  unfold QS.abs
  rw [h.w, h.g, h.c]
theorem OwnQ.pk {W : World} {B : Nat} {q' q : QS} (h : OwnQ W B q' q) : PkT W q'.pa q'.pn q'.pc q'.R := ⟨RdT.ofOwn h.o, h.r⟩
/-- a sender's queues read as l -/
structure SndL (W : World) (qb qc : Nat) (l : Nat → LQ) : Prop where
  ex : ∃ q, QB7 W qb q ∧ (∀ c, c < 7 → PkT W (q c).pa (q c).pn (q c).pc (q c).R) ∧ ∀ c, c < 7 → (q c).abs = l c
  k : ∀ c, c < 7 → (l c).Ok
  le : 7 ≤ qc
  mx : qc ≤ maxLen
theorem SndL.below {W W' : World} {qb qc : Nat} {l : Nat → LQ} (h : SndL W qb qc l) (hb : Below W.heap.size W W') : SndL W' qb qc l := by
  obtain ⟨q, h1, h2, h3⟩ := h.ex
  exact ⟨⟨q, h1.below hb, fun c hc => (h2 c hc).below hb, h3⟩, h.k, h.le, h.mx⟩
/-- a sender's value -/
def sv (craft size master turn qb qc : Nat) : Value := .agg #[.int .i64 (craft : Int), .int .i64 (size : Int), .int .i64 (master : Int), .int .i64 (turn : Int), .slice (some ⟨qb, 0, none⟩) 7 qc]
/-- what own answers, of l -/
structure OwnL (W0 W : World) (craft size master turn : Nat) (l : Nat → LQ) (e : Ending) : Prop where
  ex : ∃ qb qc q', e = .returned (.tuple #[sv craft size master turn qb qc, .bool true]) ∧ 7 ≤ qc ∧ qc ≤ maxLen ∧ QB7 W qb q' ∧ W0.heap.size ≤ qb ∧ (∀ c, c < 7 → W.ownsRow W0.heap.size 33 1 (.slice (q' c).pa (q' c).pn (q' c).pc) (q' c).pn (rcs (q' c).R) ∧ (∀ r ∈ (q' c).R, RdT 5 W r.1.1 r.1.2.1 r.1.2.2 (vb r.2)) ∧ (q' c).abs = l c) ∧
    (∀ a b, a < 7 → b < 7 → a ≠ b → ∀ k, (Value.slice (q' a).pa (q' a).pn (q' a).pc).ownBlock = some k → (Value.slice (q' b).pa (q' b).pn (q' b).pc).ownBlock ≠ some k)
  blw : Below W0.heap.size W0 W
theorem own_l_ok (craft size master turn qb qc : Nat) (l : Nat → LQ) (W0 : World) (hs : SndL W0 qb qc l) (h1 : craft ≤ 1023) (h2 : 13 ≤ size) (h3 : size ≤ 2048) (h4 : master ≤ 255) (h5 : turn ≤ 6) :
    Calls Try.prog 18 #[sv craft size master turn qb qc] W0 fun e w' => OwnL W0 w' craft size master turn l e := by
  obtain ⟨q, k1, k2, k3⟩ := hs.ex
  refine (own_ok craft size master turn qb qc q W0 ⟨k1, k2, fun c hc => QS.ok_of (by rw [k3 c hc]; exact hs.k c hc), hs.le, hs.mx⟩ h1 h2 h3 h4 h5).mono ?_
  rintro e w' ⟨⟨qb', qc', q', he, j1, j2, j3, j4, j5, j6⟩, hb⟩
  exact ⟨⟨qb', qc', q', he, j1, j2, j3, j4, fun c hc => ⟨(j5 c hc).o, (j5 c hc).r, (j5 c hc).abs.trans (k3 c hc)⟩, j6⟩, hb⟩
end Go.Proofs.Ytjiipmalahhcpaa
