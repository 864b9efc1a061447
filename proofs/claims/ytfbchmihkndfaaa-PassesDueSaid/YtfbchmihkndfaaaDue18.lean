/- PassesDue: share: a tick: the walk of the serving. -/
import Derived.Test.YtfbchmihkndfaaaDue17
namespace Go.Proofs.Ytfbchmihkndfaaa
set_option linter.unusedVariables false
open Go.RowKit

def SeI (W2 : World) (B B2 X gb m QB jb2 rb nc2 t n0 : Nat) (F Y N rem0 : Nat → Nat) (L : List Nat) (oa : Option Addr) (oc : Nat) (gone0 : Nat → Int) (nb : Nat) (y : Nat → Value) (W : World) : Prop :=
  ∃ n rem A av gone, n ≤ nb ∧ ST y X gb m QB rb (.slice oa L.length oc) t ∧ y 10 = .int .i64 (t : Int) ∧ y 11 = .int .i64 (n : Int) ∧ TK W2 W B B2 gb m QB jb2 nc2 t n0 n F Y N rem0 rem A L av (.slice oa L.length oc) gone0 gone
set_option maxRecDepth 1000000 in
set_option maxHeartbeats 4000000 in
theorem shr_s (W2 W : World) (B B2 X jb gb QB jb2 rb m nc nc2 t n0 n : Nat) (F Y N r rem0 rem : Nat → Nat) (A L : List Nat) (av : Value) (oa : Option Addr) (oc : Nat) (gone0 gone : Nat → Int) (hS : SW W2 B B2 X jb gb QB jb2 rb m nc F Y N r)
    (hK : TK W2 W B B2 gb m QB jb2 nc2 t n0 n F Y N rem0 rem A L av (.slice oa L.length oc) gone0 gone) (hn : 0 < n) (hn2 : n ≤ 10000) (h0 : 0 < A.length) (ht : t ≤ 20000) :
    Tri Try.prog 130 (pieceOf Try.f11 [1, 1, 1, 1, 1, 1, 0, 1, 0, 0, 1, 1, 0, 0, 1, 1, 0, 0, 1, 0]) (fun y w => ST y X gb m QB rb (.slice oa L.length oc) t ∧ y 10 = .int .i64 (t : Int) ∧ y 11 = .int .i64 (n : Int) ∧ w = W)
      (fun _ _ y w => SeI W2 B B2 X gb m QB jb2 rb nc2 t n0 F Y N rem0 L oa oc gone0 (n - 1) y w) := by
  rintro Q y w ⟨⟨s3, s5, s6, s7, s49, s50, s51⟩, s10, s11, rfl⟩ hQ
  have HQ := hid hQ
  have HS := hid hS
  have HK := hid hK
  have hm9 := hS.m9
  obtain ⟨g, o, c, hav, hgB, hgl, hci⟩ := hK.mt.q.own.at_ h0
  have ca : w.cell? ⟨g, o, none⟩ = some (.int .i64 (nth A 0 : Nat)) := by
    have := (hci 0 h0).1
    rw [Nat.add_zero] at this
    rw [this]
    exact vi_get A 0 h0
  have hbox := hK.mt.q.box
  have c0 : w.cell? ⟨QB, 0, none⟩ = some (.slice (some ⟨jb2, 0, none⟩) m nc2) := by rw [cell_of_row _ _ _ _ _ _ hbox]; rfl
  have c1 : w.cell? ⟨QB, 1, none⟩ = some (.slice (some ⟨g, o, none⟩) A.length c) := by rw [cell_of_row _ _ _ _ _ _ hbox, hav]; rfl
  have hmem : nth A 0 ∈ A := by rw [nth_get h0]; exact List.getElem_mem _
  have hk : nth A 0 < m := hK.ti.lt _ (List.mem_append_left _ hmem)
  have hps := hK.ti.ps _ (List.mem_append_left L hmem)
  have hle := hK.rl _ hk
  have cr := (hK.mt.q.jobs.cell _ hk).2.2
  obtain ⟨jcs, hjr, _⟩ := id hK.mt.q.jobs
  have fz := frozen_row hjr
  have hmc := hK.mt.q.le
  have hmc2 := hK.mt.q.mx
  unfold maxLen at hmc2
  have h100 := hK.mt.q.len
  have HP1 := hid (fun q hq hr => hK.part hS h0 hn q hq hr)
  have HP2 := hid (fun q hr => hK.done hS h0 q hr)
  have Hpop := hid (fun q W' (hW : TP W2 W' B B2 gb m QB jb2 nc2 t n0 q F Y N rem0 rem A L av (.slice oa L.length oc) gone0 gone) => heap_pop hW.mt.q hW.mt.hp (A.length - 1) (by omega) (by omega) (fun i hi => by have := hS.y i hi; omega))
  have HPP := hid (fun q W' W'' (hW : TP W2 W' B B2 gb m QB jb2 nc2 t n0 q F Y N rem0 rem A L av (.slice oa L.length oc) gone0 gone) hp => hW.pop (W' := W'') hS hp)
  clear hQ hS hK hci hbox hmem hav hjr
  obtain ⟨k, hkn⟩ : ∃ k, k = nth A 0 := ⟨_, rfl⟩
  rw [← hkn] at ca hk hps hle cr HP1 HP2 Hpop HPP
  clear hkn
  conv => arg 2; whnf
  rw [fr130]
  simp only [s3, s5, s6, s7, s49, s50, s51, s10, s11]
  clear s3 s5 s6 s7 s49 s50 s51 s10 s11
  refine wp_seq_k (fun K1 hK1 => ?_)
  go_wp2_with fail
  refine hK1.out _ _ ?_
  refine wp_seq_k (fun K2 hK2 => ?_)
  go_wp2_with fail
  refine hK2.out _ _ ?_
  refine wp_seq_k (fun K3 hK3 => ?_)
  rcases Nat.lt_or_ge n (rem k) with hlt | hge
  · have hmin : (if (rem k : Int) < (n : Int) then (rem k : Int) else (n : Int)) = (n : Int) := if_neg (by omega)
    have hmin2 : (if (n : Int) < (rem k : Int) then (n : Int) else (rem k : Int)) = (n : Int) := if_pos (by omega)
    obtain ⟨q, hq⟩ : ∃ q, rem k = n + q := ⟨rem k - n, by omega⟩
    have hq0 : 0 < q := by omega
    have a1 : (rem k : Int) - (n : Int) = (q : Int) := by omega
    have w1 : IntKind.i64.wrap (q : Int) = (q : Int) := IntWalk.i64_in _ (by omega)
    have HT := hid (HP1.out q hq0 hq)
    have d1 : ((q : Int) == 0) = false := by rw [beq_eq_false_iff_ne]; omega
    have d2 : (q == 0) = false := by rw [beq_eq_false_iff_ne]; omega
    have d3 : decide ((q : Int) = 0) = false := decide_eq_false (by omega)
    have d4 : decide (q = 0) = false := decide_eq_false (by omega)
    have cq : (w.setCell ⟨jb2, k * 3 + 2, none⟩ (.int .i64 (q : Int))).cell? ⟨jb2, k * 3 + 2, none⟩ = some (.int .i64 (q : Int)) := (HT.out.mt.q.jobs.cell _ hk).2.2.trans (by rw [upd_self])
    clear hq HP1 HP2 Hpop HPP hle hps hlt
    generalize rem k = rk at *
    go_wp2_with fail
    refine hK3.out _ _ ?_
    clear hmin hmin2
    refine wp_seq_k (fun K4 hK4 => ?_)
    go_wp2_with fail
    refine hK4.out _ _ ?_
    generalize w.setCell ⟨jb2, k * 3 + 2, none⟩ (.int .i64 (q : Int)) = U at *
    clear ca c0 c1 cr fz a1
    go_wp2_with fail
    exact q_fr (N := 130) HQ.out rfl ⟨0, _, A, av, gone, Nat.zero_le _, ⟨rfl, rfl, rfl, rfl, rfl, rfl, rfl⟩, rfl, rfl, HT.out⟩
  · have hmin : (if (rem k : Int) < (n : Int) then (rem k : Int) else (n : Int)) = (rem k : Int) := by split <;> omega
    have hmin2 : (if (n : Int) < (rem k : Int) then (n : Int) else (rem k : Int)) = (rem k : Int) := by split <;> omega
    have hmin3 : (if rem k < n then (rem k : Int) else (n : Int)) = (rem k : Int) := by split <;> omega
    have hmin4 : (if n < rem k then (n : Int) else (rem k : Int)) = (rem k : Int) := by split <;> omega
    have hmin5 : (if rem k < n then Value.int .i64 (rem k : Int) else Value.int .i64 (n : Int)) = Value.int .i64 (rem k : Int) := by
      split
      · rfl
      · rw [show n = rem k by omega]
    obtain ⟨q, hq⟩ : ∃ q, n = rem k + q := ⟨n - rem k, by omega⟩
    have hqn : q ≤ n - 1 := by omega
    have hq9 : q ≤ 10000 := by omega
    have a1 : (rem k : Int) - (rem k : Int) = ((0 : Nat) : Int) := by omega
    have a2 : (n : Int) - (rem k : Int) = (q : Int) := by omega
    have w2 : IntKind.i64.wrap (q : Int) = (q : Int) := IntWalk.i64_in _ (by omega)
    have HT := hid (HP2.out q hq)
    have HPo := hid (Hpop.out q)
    have HPQ := hid (HPP.out q)
    obtain ⟨t1, ht1⟩ : ∃ t1, t1 = t + 1 := ⟨_, rfl⟩
    have a3 : (t : Int) + 1 = (t1 : Int) := by omega
    have w3 : IntKind.i64.wrap (t1 : Int) = (t1 : Int) := IntWalk.i64_in _ (by omega)
    rw [← ht1] at HT
    obtain ⟨hq1, _⟩ := HK.out.mt.q.serve k hk 0
    obtain ⟨hgg, hff⟩ : (w.setCell ⟨jb2, k * 3 + 2, none⟩ (.int .i64 ((0 : Nat) : Int))).cell? ⟨gb, k, none⟩ = some (.int .i64 (gone k)) ∧ (w.setCell ⟨jb2, k * 3 + 2, none⟩ (.int .i64 ((0 : Nat) : Int))).frozen? ⟨gb, k, none⟩ = false := by
      obtain ⟨cs, g1, g2, g3⟩ := HK.out.mt.g.ex
      have g4 := row_grown g1 (HK.out.mt.q.serve k hk 0).2 HS.out.gj
      exact ⟨by rw [cell_of_row _ _ _ _ _ _ g4]; exact g3 k hk, frozen_row g4 _⟩
    have cq : (w.setCell ⟨jb2, k * 3 + 2, none⟩ (.int .i64 ((0 : Nat) : Int))).cell? ⟨jb2, k * 3 + 2, none⟩ = some (.int .i64 ((0 : Nat) : Int)) := (hq1.jobs.cell _ hk).2.2.trans (by rw [upd_self])
    clear hq HP1 HP2 Hpop HPP hle hps hge hq1 HK ht1
    generalize gone k = gk at *
    generalize rem k = rk at *
    go_wp2_with fail
    refine hK3.out _ _ ?_
    clear hmin hmin2 hmin3 hmin4 hmin5
    refine wp_seq_k (fun K4 hK4 => ?_)
    go_wp2_with fail
    refine hK4.out _ _ ?_
    generalize w.setCell ⟨jb2, k * 3 + 2, none⟩ (.int .i64 ((0 : Nat) : Int)) = U at *
    clear ca c0 c1 cr fz a1
    refine wp_seq_k (fun K5 hK5 => ?_)
    go_wp2_with fail
    refine hK5.out _ _ ?_
    refine wp_seq_k (fun K6 hK6 => ?_)
    go_wp2_with fail
    refine hK6.out _ _ ?_
    clear cq
    go_wp2_with fail
    refine (HPo.out _ HT.out).mono ?_
    rintro e W8 ⟨hp8, v8, rfl⟩
    obtain ⟨A8, av8, hT8⟩ := HPQ.out _ W8 HT.out hp8
    have HT8 := hid hT8
    clear hp8 hT8 hgg hff
    go_wp2_with fail
    exact q_fr (N := 130) HQ.out rfl ⟨q, _, A8, av8, _, hqn, ⟨rfl, rfl, rfl, rfl, rfl, rfl, rfl⟩, rfl, rfl, HT8.out⟩
end Go.Proofs.Ytfbchmihkndfaaa
/- PassesDue: share: a tick: all that can go goes. -/
namespace Go.Proofs.Ytfbchmihkndfaaa
set_option linter.unusedVariables false
open Go.RowKit

set_option maxRecDepth 1000000 in
set_option maxHeartbeats 4000000 in
theorem shr_q (W2 : World) (B B2 X jb gb QB jb2 rb m nc nc2 t n0 : Nat) (F Y N r rem0 : Nat → Nat) (L : List Nat) (oa : Option Addr) (oc : Nat) (gone0 : Nat → Int) (hS : SW W2 B B2 X jb gb QB jb2 rb m nc F Y N r) (hn0 : n0 ≤ 10000) (ht : t ≤ 20000) :
    Tri Try.prog 130 (pieceOf Try.f11 [1, 1, 1, 1, 1, 1, 0, 1, 0, 0, 1, 1, 0, 0, 1, 1]) (SeI W2 B B2 X gb m QB jb2 rb nc2 t n0 F Y N rem0 L oa oc gone0 n0)
      (fun _ _ y w => ∃ n rem A av gone, ST y X gb m QB rb (.slice oa L.length oc) t ∧ TK W2 w B B2 gb m QB jb2 nc2 t n0 n F Y N rem0 rem A L av (.slice oa L.length oc) gone0 gone ∧ (n = 0 ∨ A = [])) := by
  rintro Q y w hP hQ
  have HQ := hid hQ
  have HS := hid hS
  clear hQ hS
  conv => arg 2; whnf
  refine wp_block ?_
  refine wp_loop_fr 130 (SeI W2 B B2 X gb m QB jb2 rb nc2 t n0 F Y N rem0 L oa oc gone0 n0) (fun y' _ => (intOf (y' 11)).toNat) ⟨fr_size _ _, rfl, by
    obtain ⟨n, rem, A, av, gone, h0, h1, h2, h3, h4⟩ := hP
    exact ⟨n, rem, A, av, gone, h0, ⟨(fr_at _ _ _ (by decide)).trans h1.s3, (fr_at _ _ _ (by decide)).trans h1.s5, (fr_at _ _ _ (by decide)).trans h1.s6, (fr_at _ _ _ (by decide)).trans h1.s7, (fr_at _ _ _ (by decide)).trans h1.s49, (fr_at _ _ _ (by decide)).trans h1.s50, (fr_at _ _ _ (by decide)).trans h1.s51⟩, (fr_at _ _ _ (by decide)).trans h2, (fr_at _ _ _ (by decide)).trans h3, h4⟩⟩ ?_
  clear hP
  rintro z W ⟨n, rem, A, av, gone, hnb, ⟨s3, s5, s6, s7, s49, s50, s51⟩, s10, s11, hK⟩
  have HK := hid hK
  have Hs11 := hid s11
  rw [fr130]
  simp only [s3, s5, s6, s7, s49, s50, s51, s10, s11]
  clear s3 s5 s6 s7 s49 s50 s51 s10 s11
  have hlen := len_q hK.mt.q
  have h100 := hK.mt.q.len
  by_cases hn : n = 0
  · subst hn
    clear hlen hK
    refine wp_seq_k (fun K1 hK1 => ?_)
    go_wp2_with fail
    exact q_fr (N := 130) HQ.out rfl ⟨0, rem, A, av, gone, ⟨rfl, rfl, rfl, rfl, rfl, rfl, rfl⟩, HK.out, .inl rfl⟩
  · have d1 : decide ((0 : Int) < (n : Int)) = true := decide_eq_true (by omega)
    have d2 : decide (0 < n) = true := decide_eq_true (by omega)
    have hn1 : 0 < n := by omega
    by_cases hA : A = []
    · subst hA
      have hl0 : ([] : List Nat).length = 0 := rfl
      rw [hl0] at hlen
      clear hK hn hl0
      refine wp_seq_k (fun K1 hK1 => ?_)
      go_wp2_with fail
      refine hlen.mono ?_
      rintro e w' ⟨rfl, hw'⟩
      rw [hw']
      clear hw' w' hlen
      go_wp2_with fail
      exact q_fr (N := 130) HQ.out rfl ⟨n, rem, [], av, gone, ⟨rfl, rfl, rfl, rfl, rfl, rfl, rfl⟩, HK.out, .inr rfl⟩
    · have hA0 : 0 < A.length := List.length_pos_iff.2 hA
      have hs := hid (shr_s W2 W B B2 X jb gb QB jb2 rb m nc nc2 t n0 n F Y N r rem0 rem A L av oa oc gone0 gone HS.out HK.out hn1 (by omega) hA0 ht)
      obtain ⟨la, hla⟩ : ∃ la, la = A.length := ⟨_, rfl⟩
      rw [← hla] at hlen hA0
      have d3 : decide ((0 : Int) < (la : Int)) = true := decide_eq_true (by omega)
      have d4 : decide (0 < la) = true := decide_eq_true (by omega)
      clear hK hn hla hA
      refine wp_seq_k (fun K1 hK1 => ?_)
      go_wp2_with fail
      refine hlen.mono ?_
      rintro e w' ⟨rfl, hw'⟩
      rw [hw']
      clear hw' w' hlen
      go_wp2_with fail
      refine hK1.out _ _ ?_
      refine wp_block ?_
      refine Tri.use hs.out rfl ⟨⟨rfl, rfl, rfl, rfl, rfl, rfl, rfl⟩, rfl, rfl, rfl⟩ ?_
      rintro y3 W3 ⟨n3, rem3, A3, av3, gone3, hn3, hst3, h10, h11, hK3⟩
      refine ⟨fr_size _ _, rfl, ⟨n3, rem3, A3, av3, gone3, by omega, ⟨(fr_at _ _ _ (by decide)).trans hst3.s3, (fr_at _ _ _ (by decide)).trans hst3.s5, (fr_at _ _ _ (by decide)).trans hst3.s6, (fr_at _ _ _ (by decide)).trans hst3.s7, (fr_at _ _ _ (by decide)).trans hst3.s49, (fr_at _ _ _ (by decide)).trans hst3.s50, (fr_at _ _ _ (by decide)).trans hst3.s51⟩, (fr_at _ _ _ (by decide)).trans h10, (fr_at _ _ _ (by decide)).trans h11, hK3⟩, ?_⟩
      show (intOf ((fr 130 y3).getD 11 undef)).toNat < (intOf (Value.int .i64 (n : Int))).toNat
      rw [fr_at _ _ _ (by decide), h11]
      simp [intOf]
      omega
end Go.Proofs.Ytfbchmihkndfaaa
/- PassesDue: share: tick by tick. -/
namespace Go.Proofs.Ytfbchmihkndfaaa
set_option linter.unusedVariables false
open Go.RowKit

theorem ST.fr {y : Nat → Value} {X gb m QB rb t : Nat} {ov : Value} (h : ST y X gb m QB rb ov t) : ST (fun i => (fr 130 y).getD i undef) X gb m QB rb ov t :=
  ⟨(fr_at _ _ _ (by decide)).trans h.s3, (fr_at _ _ _ (by decide)).trans h.s5, (fr_at _ _ _ (by decide)).trans h.s6, (fr_at _ _ _ (by decide)).trans h.s7, (fr_at _ _ _ (by decide)).trans h.s49, (fr_at _ _ _ (by decide)).trans h.s50, (fr_at _ _ _ (by decide)).trans h.s51⟩
def TcI (W2 : World) (B B2 X gb m QB jb2 rb nc2 : Nat) (F Y N r : Nat → Nat) (y : Nat → Value) (W : World) : Prop :=
  ∃ t rem A L av oa oc gone, t ≤ 20001 ∧ ST y X gb m QB rb (.slice oa L.length oc) t ∧ MT W2 W B B2 gb m QB jb2 nc2 F Y rem A L av (.slice oa L.length oc) gone ∧ TI ⟨m, F, Y, N⟩ A L rem ∧ DInv ⟨m, F, Y, N⟩ r t rem gone ∧ ∀ x ∈ A, F x ≤ t
set_option maxRecDepth 1000000 in
set_option maxHeartbeats 4000000 in
theorem shr_t (W2 : World) (B B2 X jb gb QB jb2 rb m nc nc2 : Nat) (F Y N r : Nat → Nat) (hS : SW W2 B B2 X jb gb QB jb2 rb m nc F Y N r) (hr : ∀ t, r t ≤ 10000) :
    Tri Try.prog 130 (pieceOf Try.f11 [1, 1, 1, 1, 1, 1, 0, 1]) (TcI W2 B B2 X gb m QB jb2 rb nc2 F Y N r)
      (fun _ _ y w => ∃ rem gone, y 5 = .slice (some ⟨gb, 0, none⟩) m m ∧ Gn w gb m gone ∧ DInv ⟨m, F, Y, N⟩ r 20001 rem gone ∧ Kp B2 [gb, QB, jb2] W2 w) := by
  rintro Q y w hP hQ
  have HQ := hid hQ
  have HS := hid hS
  have HR := hid hr
  clear hQ hS hr
  conv => arg 2; whnf
  refine wp_block ?_
  refine wp_loop_fr 130 (TcI W2 B B2 X gb m QB jb2 rb nc2 F Y N r) (fun y' _ => 20001 - (intOf (y' 51)).toNat) ⟨fr_size _ _, rfl, by
    obtain ⟨t, rem, A, L, av, oa, oc, gone, h0, h1, h2⟩ := hP
    exact ⟨t, rem, A, L, av, oa, oc, gone, h0, h1.fr, h2⟩⟩ ?_
  clear hP
  rintro z W ⟨t, rem, A, L, av, oa, oc, gone, htb, ⟨s3, s5, s6, s7, s49, s50, s51⟩, hM, hT, hD, hA⟩
  have HM := hid hM
  have HT := hid hT
  have HD := hid hD
  have HA := hid hA
  clear hT hD hA
  rw [fr130]
  simp only [s3, s5, s6, s7, s49, s50, s51]
  clear s3 s5 s6 s7 s49 s50 s51
  by_cases hlt : t < 20001
  · have d1 : decide ((t : Int) < 20001) = true := decide_eq_true (by omega)
    have d2 : decide (t < 20001) = true := decide_eq_true hlt
    have hiv : Iv W rb (fun t => (r t : Int)) := by
      obtain ⟨cs, h1, h2⟩ := HS.out.iv
      exact ⟨cs, hM.kp.row h1 HS.out.rB HS.out.rn, h2⟩
    have c0 := hiv.cell t hlt
    have hrt := HR.out t
    have hrt2 := hid hrt
    have hp := hid (shr_p W2 B B2 X jb gb QB jb2 rb m nc nc2 t (r t) F Y N r rem gone HS.out)
    have HTK := hid (fun A' L' av' ov' W' (hm : MT W2 W' B B2 gb m QB jb2 nc2 F Y rem A' L' av' ov' gone) (ht : TI ⟨m, F, Y, N⟩ A' L' rem) (ha : ∀ x ∈ A', F x ≤ t) (hl : ∀ x ∈ L', t < F x) =>
      (⟨hm, ht, Srv.start _ _ _ _ _, ha, hl, fun i hi => Nat.le_trans (HD.out.le i hi) (HS.out.n i hi)⟩ : TK W2 W' B B2 gb m QB jb2 nc2 t (r t) (r t) F Y N rem rem A' L' av' ov' gone gone))
    have HTick := hid (fun n rem' gone' (hs : Srv ⟨m, F, Y, N⟩ t (r t) n rem rem' gone gone') hend => DInv.tick HD.out hs hend)
    have hq := hid (fun L' oa' oc' => shr_q W2 B B2 X jb gb QB jb2 rb m nc nc2 t (r t) F Y N r rem L' oa' oc' gone HS.out hrt (by omega))
    clear hiv hM
    generalize r t = rt at *
    go_upto_block 3 with (fail)
    refine wp_block ?_
    refine wp_seq_k (fun K1 hK1 => ?_)
    go_wp2_with fail
    refine hK1.out _ _ ?_
    clear c0
    refine wp_seq_k (fun K2 hK2 => ?_)
    refine Tri.use hp.out rfl ⟨A, L, av, oa, oc, ⟨rfl, rfl, rfl, rfl, rfl, rfl, rfl⟩, rfl, rfl, HM.out, HT.out, HA.out⟩ ?_
    rintro y3 W3 ⟨A3, L3, av3, oa3, oc3, hst3, h10, h11, hm3, ht3, ha3, hl3⟩
    refine hK2.out _ _ ?_
    refine Tri.use (hq.out L3 oa3 oc3) (fr_size _ _) ⟨rt, rem, A3, av3, gone, Nat.le_refl _, hst3.fr, (fr_at _ _ _ (by decide)).trans h10, (fr_at _ _ _ (by decide)).trans h11, HTK.out _ _ _ _ _ hm3 ht3 ha3 hl3⟩ ?_
    rintro y4 W4 ⟨n4, rem4, A4, av4, gone4, ⟨s3, s5, s6, s7, s49, s50, s51⟩, hk4, hend⟩
    have HK4 := hid hk4
    have HD4 := hid (HTick.out n4 rem4 gone4 hk4.sv (hend.imp id (fun e => by subst e; exact hk4.ti.none hk4.lf)))
    clear hk4 hend hm3 ht3 ha3 hl3 h10 h11 hst3 HTK HTick hp hq
    rw [fr130]
    simp only [s3, s5, s6, s7, s49, s50, s51]
    clear s3 s5 s6 s7 s49 s50 s51
    go_wp2_with fail
    refine ⟨rfl, rfl, ⟨t + 1, rem4, A4, L3, av4, oa3, oc3, gone4, by omega, ⟨rfl, rfl, rfl, rfl, rfl, rfl, ?_⟩, HK4.out.mt, HK4.out.ti, HD4.out, fun x hx => Nat.le_succ_of_le (HK4.out.af x hx)⟩, ?_⟩
    · show Value.int .i64 _ = Value.int .i64 _
      go_num
    · show 20001 - (intOf (Value.int .i64 _)).toNat < _
      simp [intOf]
      omega
  · obtain rfl : t = 20001 := by omega
    go_wp2_with fail
    exact q_fr (N := 130) HQ.out rfl ⟨rem, gone, rfl, HM.out.g, HD.out, HM.out.kp⟩
end Go.Proofs.Ytfbchmihkndfaaa
