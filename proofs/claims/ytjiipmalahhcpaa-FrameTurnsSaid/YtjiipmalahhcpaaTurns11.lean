/- frame: own: the loop over the queues. -/
import Derived.Test.YtjiipmalahhcpaaTurns10
namespace Go.Proofs.Ytjiipmalahhcpaa
set_option linter.unusedVariables false
open Go.RowKit

/-- a queue whose row of packets is one's own, beside the queue it was made of -/
structure OwnQ (W : World) (B : Nat) (q' q : QS) : Prop where
  o : W.ownsRow B 33 1 (.slice q'.pa q'.pn q'.pc) q'.pn (rcs q'.R)
  c : conts q'.R = conts q.R
  w : q'.own = q.own
  g : q'.gone = q.gone
  r : ∀ r ∈ q'.R, RdT 5 W r.1.1 r.1.2.1 r.1.2.2 (vb r.2)
theorem OwnQ.below {W W' : World} {B : Nat} {q' q : QS} (h : OwnQ W B q' q) (hb : Below W.heap.size W W') : OwnQ W' B q' q := ⟨ownsRow_below h.o hb, h.c, h.w, h.g, fun r hr => (h.r r hr).below hb⟩
theorem OwnQ.kept {W W' : World} {B : Nat} {q' q : QS} {row : Option Nat} (h : OwnQ W B q' q) (hg : W.grownBy W' row) (hne : (Value.slice q'.pa q'.pn q'.pc).ownBlock = none ∨ (Value.slice q'.pa q'.pn q'.pc).ownBlock ≠ row) (h5 : ∀ b cs, W.heap[b]? = some (.cells cs 5) → row ≠ some b) : OwnQ W' B q' q :=
  ⟨h.o.kept hg hne, h.c, h.w, h.g, fun r hr => (h.r r hr).kept hg h5⟩
theorem ne_type {W : World} {k T T' : Nat} {cs : Array Value} (hk : W.heap[k]? = some (.cells cs T)) (hT : T ≠ T') : ∀ b cs', W.heap[b]? = some (.cells cs' T') → some k ≠ some b := fun b cs' hb e => by
  cases e
  rw [hk] at hb
  injection hb with h1
  injection h1 with h2 h3
  exact hT h3
theorem own_ne5 {W : World} {B n T : Nat} {v : Value} {xs : List Value} (h : W.ownsRow B 33 1 v n xs) (hT : 33 ≠ T) : ∀ b cs, W.heap[b]? = some (.cells cs T) → v.ownBlock ≠ some b := fun b cs hb e => by
  rcases own_ne h hb hT with h1 | h1
  · rw [h1] at e; cases e
  · exact h1 e
theorem QB7.congrC {W : World} {qb : Nat} {q q' : Nat → QS} (h : QB7 W qb q) (e : ∀ c, c < 7 → (q c).own = (q' c).own ∧ (q c).pa = (q' c).pa ∧ (q c).pn = (q' c).pn ∧ (q c).pc = (q' c).pc ∧ (q c).gone = (q' c).gone) : QB7 W qb q' := by
  obtain ⟨cs, h1, h2, h3⟩ := h.ex
  refine ⟨cs, h1, h2, fun j hj => ?_⟩
  rw [h3 j hj]
  obtain ⟨e1, e2, e3, e4, e5⟩ := e (j / 3) (by omega)
  unfold qcell
  rw [e1, e2, e3, e4, e5]
/-- how far it is -/
structure OM (w0 W : World) (P1 P2 qb qc i : Nat) (c0 c1 c2 c3 : Value) (q q' : Nat → QS) : Prop where
  p1 : W.heap[P1]? = some (.cells #[c0, c1, c2, c3, .slice (some ⟨qb, 0, none⟩) 7 qc] 26)
  p2 : ∃ cs : Array Value, W.heap[P2]? = some (.cells cs 26) ∧ cs.size = 5
  n12 : P1 ≠ P2
  qr : QB7 W qb (fun c => if c < i then q' c else q c)
  oq : ∀ c, c < i → OwnQ W w0.heap.size (q' c) (q c)
  dis : ∀ a b, a < i → b < i → a ≠ b → ∀ k, (Value.slice (q' a).pa (q' a).pn (q' a).pc).ownBlock = some k → (Value.slice (q' b).pa (q' b).pn (q' b).pc).ownBlock ≠ some k
  blw : Below w0.heap.size w0 W
  b1 : w0.heap.size ≤ P1
  b2 : w0.heap.size ≤ P2
  b3 : w0.heap.size ≤ qb
theorem OM.below {w0 W W' : World} {P1 P2 qb qc i : Nat} {c0 c1 c2 c3 : Value} {q q' : Nat → QS} (h : OM w0 W P1 P2 qb qc i c0 c1 c2 c3 q q') (hb : Below W.heap.size W W') : OM w0 W' P1 P2 qb qc i c0 c1 c2 c3 q q' := by
  obtain ⟨cs, h2, h3⟩ := h.p2
  exact ⟨row_below h.p1 hb, ⟨cs, row_below h2 hb, h3⟩, h.n12, h.qr.below hb, fun c hc => (h.oq c hc).below hb, h.dis, h.blw.trans (hb.mono h.blw.size), h.b1, h.b2, h.b3⟩
/-- the queue's field is stored to -/
def putP (q q' : Nat → QS) (i : Nat) (ao : Option Addr) (c : Nat) : Nat → QS := fun x => if x < i then q' x else if x = i then ⟨(q i).own, ao, (q i).pn, c, (q i).R, (q i).gone⟩ else q x
structure OM1 (w0 W : World) (P1 P2 qb qc i : Nat) (c0 c1 c2 c3 : Value) (q q' : Nat → QS) (ao : Option Addr) (c : Nat) : Prop where
  p1 : W.heap[P1]? = some (.cells #[c0, c1, c2, c3, .slice (some ⟨qb, 0, none⟩) 7 qc] 26)
  p2 : ∃ cs : Array Value, W.heap[P2]? = some (.cells cs 26) ∧ cs.size = 5
  n12 : P1 ≠ P2
  qr : QB7 W qb (putP q q' i ao c)
  own : W.ownsRow w0.heap.size 33 1 (.slice ao (q i).pn c) (q i).pn (rcs (q i).R)
  oq : ∀ c, c < i → OwnQ W w0.heap.size (q' c) (q c)
  dis : ∀ a b, a < i → b < i → a ≠ b → ∀ k, (Value.slice (q' a).pa (q' a).pn (q' a).pc).ownBlock = some k → (Value.slice (q' b).pa (q' b).pn (q' b).pc).ownBlock ≠ some k
  new : ∀ a, a < i → ∀ k, (Value.slice (q' a).pa (q' a).pn (q' a).pc).ownBlock = some k → (Value.slice ao (q i).pn c).ownBlock ≠ some k
  blw : Below w0.heap.size w0 W
  b1 : w0.heap.size ≤ P1
  b2 : w0.heap.size ≤ P2
  b3 : w0.heap.size ≤ qb
theorem OM.store {w0 W W1 : World} {P1 P2 qb qc i : Nat} {c0 c1 c2 c3 : Value} {q q' : Nat → QS} {ao : Option Addr} {c : Nat} (h : OM w0 W P1 P2 qb qc i c0 c1 c2 c3 q q') (hi : i < 7) (hb : Below W.heap.size W W1) (ho : W1.ownsRow W.heap.size 33 1 (.slice ao (q i).pn c) (q i).pn (rcs (q i).R)) :
    OM1 w0 (W1.setCell ⟨qb, i * 3 + 1, none⟩ (.slice ao (q i).pn c)) P1 P2 qb qc i c0 c1 c2 c3 q q' ao c := by
  have h1 := h.below hb
  obtain ⟨hs1, hs2⟩ := h1.qr.set i 1 hi (by omega) (putP q q' i ao c) (.slice ao (q i).pn c) (by
    unfold qcell putP
    rw [if_neg (by omega), if_pos (by omega), show (i * 3 + 1) / 3 = i by omega, if_neg (Nat.lt_irrefl i), if_pos rfl]) (fun j hj hne => by
    unfold qcell putP
    dsimp only
    by_cases e1 : j / 3 < i
    · simp only [if_pos e1]
    · simp only [if_neg e1]
      by_cases e2 : j / 3 = i
      · rw [e2, if_pos rfl]
        by_cases e3 : j % 3 = 0
        · simp only [if_pos e3]
        · simp only [if_neg e3, if_neg (show ¬ j % 3 = 1 by omega)]
      · simp only [if_neg e2])
  obtain ⟨cq, hqr, _⟩ := h1.qr.ex
  obtain ⟨cs, h2, h3⟩ := h1.p2
  have hP1 : P1 ≠ qb := fun e => by
    rw [← e, h1.p1] at hqr
    injection hqr with e1
    injection e1 with e2 e3
    exact absurd e3 (by decide)
  have hP2 : P2 ≠ qb := fun e => by
    rw [← e, h2] at hqr
    injection hqr with e1
    injection e1 with e2 e3
    exact absurd e3 (by decide)
  have hnew : ∀ v : Value, ∀ n xs, W1.ownsRow w0.heap.size 33 1 v n xs → v.ownBlock = none ∨ v.ownBlock ≠ some qb := fun v n xs hv => own_ne hv hqr (by decide)
  refine ⟨row_grown h1.p1 hs2 hP1, ⟨cs, row_grown h2 hs2 hP2, h3⟩, h.n12, hs1, ?_, fun c' hc => (h1.oq c' hc).kept hs2 (hnew _ _ _ (h1.oq c' hc).o) (ne_type hqr (by decide)), h.dis, fun a ha k hk e => ?_, h1.blw.grown hs2 h1.blw.size (fun j e => by cases e; exact h.b3), h.b1, h.b2, h.b3⟩
  · have ho' := ownsRow_mono ho h.blw.size
    exact ho'.kept hs2 (hnew _ _ _ ho')
  · have hk1 := ((h.oq a ha).o.lt k hk).2
    have hk2 := (ho.lt k e).1
    omega
/-- the rows of the queue are cloned, too -/
theorem OM1.next {w0 W W' : World} {P1 P2 qb qc i : Nat} {c0 c1 c2 c3 : Value} {q q' : Nat → QS} {ao : Option Addr} {c : Nat} (h : OM1 w0 W P1 P2 qb qc i c0 c1 c2 c3 q q' ao c) (hi : i < 7) (R' : List RB) (hg : W.grownBy W' (Value.slice ao (q i).pn c).ownBlock)
    (ho : W'.ownsRow w0.heap.size 33 1 (.slice ao (q i).pn c) (q i).pn (rcs R')) (hc : conts R' = conts (q i).R) (hr : ∀ r ∈ R', RdT 5 W' r.1.1 r.1.2.1 r.1.2.2 (vb r.2)) :
    OM w0 W' P1 P2 qb qc (i + 1) c0 c1 c2 c3 q (fun x => if x = i then ⟨(q i).own, ao, (q i).pn, c, R', (q i).gone⟩ else q' x) := by
  obtain ⟨cs, h2, h3⟩ := h.p2
  have hk : ∀ (k : Nat) (cs : Array Value) (T : TypeId), 33 ≠ T → W.heap[k]? = some (.cells cs T) → W'.heap[k]? = some (.cells cs T) := fun k cs T hT hk => (hg.block k (row_lt hk) (fun e => own_ne5 h.own hT k cs hk e.symm)).trans hk
  refine ⟨hk _ _ _ (by decide) h.p1, ⟨cs, hk _ _ _ (by decide) h2, h3⟩, h.n12, ?_, fun x hx => ?_, fun a b ha hb hab k hka => ?_, h.blw.grown hg h.blw.size (fun k hk => (h.own.lt k hk).1), h.b1, h.b2, h.b3⟩
  · obtain ⟨cq, hqr, _⟩ := h.qr.ex
    refine (h.qr.kept hg (fun e => own_ne5 h.own (by decide) qb cq hqr e)).congrC (fun x hx => ?_)
    unfold putP
    by_cases e1 : x < i
    · rw [if_pos e1, if_pos (show x < i + 1 by omega)]
      rw [if_neg (show ¬ x = i by omega)]
      exact ⟨rfl, rfl, rfl, rfl, rfl⟩
    · rw [if_neg e1]
      by_cases e2 : x = i
      · subst e2
        rw [if_pos rfl, if_pos (Nat.lt_succ_self x)]
        rw [if_pos rfl]
        exact ⟨rfl, rfl, rfl, rfl, rfl⟩
      · rw [if_neg e2, if_neg (show ¬ x < i + 1 by omega)]
        exact ⟨rfl, rfl, rfl, rfl, rfl⟩
  · by_cases e : x = i
    · subst e
      rw [if_pos rfl]
      exact ⟨ho, hc, rfl, rfl, hr⟩
    · rw [if_neg e]
      refine (h.oq x (by omega)).kept hg ?_ (fun b cs hb => own_ne5 h.own (by decide) b cs hb)
      rcases e2 : (Value.slice (q' x).pa (q' x).pn (q' x).pc).ownBlock with _ | k
      · exact .inl rfl
      · exact .inr (fun e3 => h.new x (by omega) k e2 e3.symm)
  · by_cases e1 : a = i
    · rw [if_pos e1] at hka
      have e2 : b ≠ i := fun e => hab (e1.trans e.symm)
      rw [if_neg e2]
      exact fun e3 => h.new b (by omega) k e3 hka
    · rw [if_neg e1] at hka
      by_cases e2 : b = i
      · rw [if_pos e2]
        exact h.new a (by omega) k hka
      · rw [if_neg e2]
        exact h.dis a b (by omega) (by omega) hab k hka
end Go.Proofs.Ytjiipmalahhcpaa
/- frame: own: the walk. -/
namespace Go.Proofs.Ytjiipmalahhcpaa
set_option linter.unusedVariables false
open Go.RowKit

/-- what a queue's block reads as, and the packets -/
structure SndQ (W : World) (qb qc : Nat) (q : Nat → QS) : Prop where
  b : QB7 W qb q
  p : ∀ c, c < 7 → PkT W (q c).pa (q c).pn (q c).pc (q c).R
  k : ∀ c, c < 7 → (q c).Ok
  le : 7 ≤ qc
  mx : qc ≤ maxLen
theorem SndQ.below {W W' : World} {qb qc : Nat} {q : Nat → QS} (h : SndQ W qb qc q) (hb : Below W.heap.size W W') : SndQ W' qb qc q := ⟨h.b.below hb, fun c hc => (h.p c hc).below hb, h.k, h.le, h.mx⟩
def OwI (w0 : World) (P1 P2 qb qc : Nat) (c0 c1 c2 c3 : Value) (q : Nat → QS) (y : Nat → Value) (W : World) : Prop :=
  ∃ (i : Nat) (q' : Nat → QS), i ≤ 7 ∧ y 1 = .pointer (some ⟨P1, 0, none⟩) ∧ y 2 = .pointer (some ⟨P2, 0, none⟩) ∧ y 38 = .int .i64 7 ∧ y 39 = .int .i64 (i : Int) ∧ OM w0 W P1 P2 qb qc i c0 c1 c2 c3 q q'
theorem QS.rlen {W : World} {q : QS} (hp : PkT W q.pa q.pn q.pc q.R) (hk : q.Ok) : q.pn ≤ 200 ∧ q.pc ≤ maxLen ∧ q.pn ≤ q.pc := by
  have h1 := hp.pk.len
  have h2 := hk.len
  exact ⟨by omega, hp.rd.rd.max, hp.rd.rd.le⟩
set_option maxRecDepth 1000000 in
set_option maxHeartbeats 4000000 in
theorem own_l (w0 W1 : World) (P1 P2 qb0 qc0 qb qc : Nat) (a0 a1 a2 a3 : Int) (q : Nat → QS) (hs : SndQ w0 qb0 qc0 q) (hM : OM w0 W1 P1 P2 qb qc 0 (.int .i64 a0) (.int .i64 a1) (.int .i64 a2) (.int .i64 a3) q q) (hqc : 7 ≤ qc ∧ qc ≤ maxLen) :
    Tri Try.prog 85 (pieceOf Try.f18 [1, 1, 1, 0, 1]) (fun y w => y 1 = .pointer (some ⟨P1, 0, none⟩) ∧ y 2 = .pointer (some ⟨P2, 0, none⟩) ∧ y 38 = .int .i64 7 ∧ y 39 = .int .i64 0 ∧ w = W1)
      (fun _ _ y w => y 1 = .pointer (some ⟨P1, 0, none⟩) ∧ y 2 = .pointer (some ⟨P2, 0, none⟩) ∧ ∃ q', OM w0 w P1 P2 qb qc 7 (.int .i64 a0) (.int .i64 a1) (.int .i64 a2) (.int .i64 a3) q q') := by
  rintro Q y w ⟨s1, s2, s38, s39, rfl⟩ hQ
  have HQ := hid hQ
  have HS := hid hs
  have HM := hid hM
  obtain ⟨hqc1, hqc2⟩ := hqc
  unfold maxLen at hqc2
  clear hQ hs hM
  conv => arg 2; whnf
  rw [fr85]
  simp only [s1, s2, s38, s39]
  clear s1 s2 s38 s39
  refine wp_block ?_
  refine wp_loop_fr 85 (OwI w0 P1 P2 qb qc (.int .i64 a0) (.int .i64 a1) (.int .i64 a2) (.int .i64 a3) q) (fun y' _ => 7 - (intOf (y' 39)).toNat) ⟨rfl, rfl, 0, q, Nat.zero_le _, rfl, rfl, rfl, rfl, HM.out⟩ ?_
  clear HM
  rintro z W ⟨i, q', hi, s1, s2, s38, s39, hM⟩
  have HM := hid hM
  rw [fr85]
  simp only [s1, s2, s38, s39]
  clear s1 s2 s38 s39
  by_cases hlt : i < 7
  · have d1 : decide ((i : Int) < 7) = true := decide_eq_true (by omega)
    have d2 : decide (i < 7) = true := decide_eq_true hlt
    have hi7 : (i : Int) < 7 := by omega
    have p4 : W.cell? ⟨P1, 4, none⟩ = some (.slice (some ⟨qb, 0, none⟩) 7 qc) := by rw [cell_of_row _ _ _ _ _ _ hM.p1]; rfl
    obtain ⟨k0, k1, k2, kf⟩ := hM.qr.cell i hlt
    simp only [if_neg (Nat.lt_irrefl i)] at k0 k1 k2
    have kf := kf (i * 3 + 1)
    have hpk := (HS.out.p i hlt).below hM.blw
    have hok := HS.out.k i hlt
    obtain ⟨hpn, hpc, hpl⟩ := QS.rlen hpk hok
    unfold maxLen at hpc
    have hw := waits_ok (q i) W hok hpk.pk
    have hcl := hid (fun W' (hb : Below W.heap.size W W') => cloneR_any (q i).pa (q i).pn (q i).pc (q i).R W' (hpk.pk.rd.below hb) (by omega))
    have HSt := hid (fun W1 W2 ao c (h1 : Below W.heap.size W W1) (h2 : Below W1.heap.size W1 W2) (ho : W2.ownsRow W1.heap.size 33 1 (.slice ao (q i).pn c) (q i).pn (rcs (q i).R)) => (hM.below h1).store hlt h2 ho)
    have HR5 : Hid (∀ r ∈ (q i).R, RdT 5 w0 r.1.1 r.1.2.1 r.1.2.2 (vb r.2)) := fun r hr => (HS.out.p i hlt).rows r hr
    have HRl : Hid (∀ r ∈ (q i).R, r.2.length ≤ 100000) := fun r hr => by have := (hok.enc r hr).len; omega
    have hM2 := hid (fun W' (hb : Below W.heap.size W W') => hM.below hb)
    clear hM hpk hok
    go_upto_block 1 with (fail)
    refine wp_block ?_
    refine wp_seq_k (fun K1 hK1 => ?_)
    go_wp2_with fail
    refine hK1.out _ _ ?_
    refine wp_seq_k (fun K2 hK2 => ?_)
    go_wp2_with fail
    refine hK2.out _ _ ?_
    refine wp_seq_k (fun K3 hK3 => ?_)
    go_wp2_with fail
    refine hw.mono ?_
    rintro e W2 ⟨rfl, hb2⟩
    have HB2 := hid hb2
    have k1' := (hM2.out W2 hb2).qr.cell i hlt
    simp only [if_neg (Nat.lt_irrefl i)] at k1'
    obtain ⟨_, k1, _, kf⟩ := k1'
    have kf := kf (i * 3 + 1)
    clear hw hb2 k0 k2 p4 hM2
    go_wp2_with fail
    refine hK3.out _ _ ?_
    refine wp_seq_k (fun K4 hK4 => ?_)
    go_wp2_with fail
    refine (hcl.out W2 HB2.out).mono ?_
    rintro e W3 ⟨ao, c, rfl, ho3, hb3⟩
    have h1 := HSt.out W2 W3 ao c HB2.out hb3 ho3
    have k1' := ((HM.out.below HB2.out).below hb3).qr.cell i hlt
    simp only [if_neg (Nat.lt_irrefl i)] at k1'
    obtain ⟨_, k1, _, kf⟩ := k1'
    have kf := kf (i * 3 + 1)
    have H1 := hid h1
    clear h1 ho3 hb3 hcl HSt HM
    go_wp2_with fail
    refine hK4.out _ _ ?_
    clear k1 kf
    generalize W3.setCell ⟨qb, i * 3 + 1, none⟩ (.slice ao (q i).pn c) = W4 at *
    have k1 := (H1.out.qr.cell i hlt).2.1
    unfold putP at k1
    simp only [if_neg (Nat.lt_irrefl i), if_pos] at k1
    have hin := hid (own_in w0 W4 w0.heap.size P1 P2 qb i 7 ao (q i).pn c (q i).R (putP q q' i ao c) hlt hpn rfl H1.out.blw H1.out.qr (by unfold putP; rw [if_neg (Nat.lt_irrefl i), if_pos rfl]; exact ⟨rfl, rfl, rfl⟩) H1.out.own HR5.out HRl.out)
    have HNx := hid (fun W' R' hg ho hc hr => H1.out.next (W' := W') hlt R' hg ho hc hr)
    generalize (q i).pn = pn at *
    clear HR5 HRl H1
    refine wp_seq_k (fun K5 hK5 => ?_)
    go_wp2_with fail
    refine hK5.out _ _ ?_
    clear k1
    refine Tri.use hin.out rfl ⟨⟨rfl, rfl, rfl⟩, rfl, rfl, rfl, rfl, rfl⟩ ?_
    rintro y6 W6 ⟨⟨s1, s2, s5⟩, s38, s39, R', ho6, hc6, hr6, hg6⟩
    have HM6 := hid (HNx.out W6 R' hg6 ho6 hc6 hr6)
    clear ho6 hc6 hr6 hg6 hin HNx
    rw [fr85]
    simp only [s1, s2, s38, s39]
    clear s1 s2 s5 s38 s39
    go_wp2_with fail
    refine ⟨rfl, rfl, ⟨i + 1, _, by omega, rfl, rfl, rfl, ?_, HM6.out⟩, ?_⟩
    · show Value.int .i64 _ = Value.int .i64 _
      go_num
    · show 7 - (intOf (Value.int .i64 _)).toNat < _
      simp [intOf]
      omega
  · obtain rfl : i = 7 := by omega
    clear hM
    go_wp2_with fail
    exact q_fr (N := 85) HQ.out rfl ⟨rfl, rfl, q', HM.out⟩
end Go.Proofs.Ytjiipmalahhcpaa
