/- frame: packet.Fill. -/
import Derived.Test.YtjiipmalahhcpaaCarries9
namespace Go.Proofs.Ytjiipmalahhcpaa
set_option linter.unusedVariables false
open Go.RowKit

def fillB (k : Nat) : List Nat := encB false false 2047 3 0 (List.replicate (k - 6) 0)
theorem fillB_len (k : Nat) (h : 7 ≤ k) : (fillB k).length = k := by
  unfold fillB
  rw [enc_len, List.length_replicate]
  omega
theorem fillB_enc (k : Nat) (h : 7 ≤ k) (h2 : k ≤ 65542) : IsEnc (fillB k) :=
  ⟨false, false, 2047, 3, 0, _, rfl, fun x hx => by rw [List.eq_of_mem_replicate hx]; omega, by omega, by omega, by omega, by rw [List.length_replicate]; omega, by rw [List.length_replicate]; omega⟩
theorem rd_made (w : World) (n : Nat) (hn : n ≤ 70000) : Rd (w.alloc (.cells (madeCells #[.int .u8 0] (n * 1)) 5)) (some ⟨w.heap.size, 0, none⟩) n n (vb (List.replicate n 0)) := by
  refine ⟨by rw [vb_len, List.length_replicate], Nat.le_refl _, by unfold maxLen; omega, (fun h => by cases h), fun hp => ⟨w.heap.size, 0, rfl, by rw [World.size_alloc]; exact Nat.lt_succ_self _, fun j hj => ?_⟩⟩
  rw [Nat.zero_add, cell_of_row _ _ _ _ _ _ (heap_alloc_new w _)]
  have h1 : (vb (List.replicate n 0))[j]? = some (.int .u8 0) := by
    rw [vb_get _ j (by rw [List.length_replicate]; exact hj)]
    unfold nth
    rw [List.getD_eq_getElem?_getD, List.getElem?_replicate, if_pos hj]
    rfl
  rw [h1]
  simp [madeCells, Nat.mod_one, hj]
theorem run_mkB (n : Nat) (hn : n ≤ 70000) (u : World) : (Instr.makeSlice 33 (.int .i64 (n : Int)) (.int .i64 (n : Int))).run Try.prog u =
    .ok (.slice (some ⟨u.heap.size, 0, none⟩) n n) (u.alloc (.cells (madeCells #[.int .u8 0] (n * 1)) 5)) := by
  obtain ⟨i0, hi, hz0, hz1, hz2⟩ := info_parts Try.info5
  have h := run_make (P := Try.prog) u 33 5 i0 (.int .u8 0) Try.underlying33 hi hz0 .i64 .i64 (n : Int) (n : Int) (by omega) (Int.le_refl _) (by rw [hz2]; omega) (by omega)
  simpa [hz1, Value.cells] using h
structure FillR (W0 W : World) (k : Nat) (e : Ending) : Prop where
  ex : ∃ fa fc, e = .returned (.tuple #[.slice fa k fc, .int .i64 0]) ∧ W.ownsRow W0.heap.size 5 1 (.slice fa k fc) k (vb (fillB k))
  blw : Below W0.heap.size W0 W
set_option maxRecDepth 1000000 in
set_option maxHeartbeats 2000000 in
theorem fill_ok (k : Nat) (h7 : 7 ≤ k) (hk : k ≤ 3000) (w : World) : Calls Try.prog 36 #[.int .i64 (k : Int)] w fun e w' => FillR w w' k e := by
  have d1 : decide ((k : Int) < 7) = false := decide_eq_false (by omega)
  have d2 : decide ((65542 : Int) < (k : Int)) = false := decide_eq_false (by omega)
  have d3 : decide (k < 7) = false := decide_eq_false (by omega)
  have d4 : decide (65542 < k) = false := decide_eq_false (by omega)
  obtain ⟨n, hn⟩ : ∃ n, n = k - 6 := ⟨_, rfl⟩
  have a1 : (k : Int) - 6 = (n : Int) := by omega
  have w1 : IntKind.i64.wrap (n : Int) = (n : Int) := IntWalk.i64_in _ (by omega)
  have hm := run_mkB n (by omega)
  have hb := below_alloc w (.cells (madeCells #[.int .u8 0] (n * 1)) 5)
  have hr := rd_made w n (by omega)
  have henc := encode_ok false false 2047 3 0 (some ⟨w.heap.size, 0, none⟩) n n (List.replicate n 0) _ hr (by omega) (by omega) (by omega) (by omega) (by omega)
  have hn6 : 2 + 2 + 2 + n = k := by omega
  have HF : Hid (encB false false 2047 3 0 (List.replicate n 0) = fillB k) := by unfold Hid; rw [hn]; rfl
  have HB := hid hb
  rw [hn6] at henc
  generalize madeCells #[.int .u8 0] (n * 1) = MB at *
  clear hr hb hn hn6
  go_enter Try.func36, Try.ntmps36
  refine wp_seq_k (fun K0 hK0 => ?_)
  go_wp2_with fail
  refine hK0.out _ _ ?_
  refine wp_seq_k (fun K1 hK1 => ?_)
  go_wp2_with fail
  refine hK1.out _ _ ?_
  refine wp_seq_k (fun K2 hK2 => ?_)
  go_wp2_with fail
  refine henc.mono ?_
  rintro e W1 ⟨fa, fc, rfl, ho, hb1⟩
  have HO := hid (ownsRow_mono ho HB.out.size)
  have HB1 := hid (HB.out.trans (hb1.mono HB.out.size))
  clear ho hb1 henc
  go_wp2_with fail
  refine hK2.out _ _ ?_
  go_wp2_with fail
  go_ret2
  exact ⟨⟨fa, fc, rfl, by rw [← HF.out]; exact HO.out⟩, HB1.out⟩
end Go.Proofs.Ytjiipmalahhcpaa
/- frame: load: plain; a packet that fills. -/
namespace Go.Proofs.Ytjiipmalahhcpaa
set_option linter.unusedVariables false
open Go.RowKit

set_option maxRecDepth 1000000 in
theorem fr95 (y : Nat → Value) : fr 95 y = #[y 0, y 1, y 2, y 3, y 4, y 5, y 6, y 7, y 8, y 9, y 10, y 11, y 12, y 13, y 14, y 15, y 16, y 17, y 18, y 19, y 20, y 21, y 22, y 23, y 24, y 25, y 26, y 27, y 28, y 29, y 30, y 31, y 32, y 33, y 34, y 35, y 36, y 37, y 38, y 39, y 40, y 41, y 42, y 43, y 44, y 45, y 46, y 47, y 48, y 49, y 50, y 51, y 52, y 53, y 54, y 55, y 56, y 57, y 58, y 59, y 60, y 61, y 62, y 63, y 64, y 65, y 66, y 67, y 68, y 69, y 70, y 71, y 72, y 73, y 74, y 75, y 76, y 77, y 78, y 79, y 80, y 81, y 82, y 83, y 84, y 85, y 86, y 87, y 88, y 89, y 90, y 91, y 92, y 93, y 94] := rfl
/-- what load has so far -/
structure LS where
  ps : List (List Nat)
  gone : Nat
  data : List Nat
  first : Nat
def LS.up (room : Nat) (s : LS) : LS := if s.ps = [] then ⟨[fillB (max 7 (room - s.data.length))], s.gone, s.data, s.first⟩ else s
def LS.step (room : Nat) (s0 : LS) : LS :=
  let s := s0.up room
  let p := (s.ps.headD []).drop s.gone
  let n := min p.length (room - s.data.length)
  ⟨if n = p.length then s.ps.tail else s.ps, if n = p.length then 0 else s.gone + n, s.data ++ p.take n, if s.gone = 0 then min s.first s.data.length else s.first⟩
structure LS.Ok (s : LS) : Prop where
  enc : ∀ p ∈ s.ps, IsEnc p
  len : s.ps.length ≤ 200
  g0 : s.ps = [] → s.gone = 0
  g1 : ∀ p S, s.ps = p :: S → s.gone < p.length
  fst : s.first ≤ 2047
theorem LS.Ok.up {s : LS} (h : s.Ok) (room : Nat) (hr : room ≤ 2048) : (s.up room).Ok ∧ (s.up room).ps ≠ [] := by
  unfold LS.up
  by_cases e : s.ps = []
  · rw [if_pos e]
    have h7 : 7 ≤ max 7 (room - s.data.length) := Nat.le_max_left _ _
    have h8 : max 7 (room - s.data.length) ≤ 2048 := by omega
    have h9 := h.g0 e
    refine ⟨⟨fun p hp => ?_, by simp, fun h => by simp at h, fun p S h2 => ?_, h.fst⟩, by simp⟩
    · have hp' : p ∈ [fillB (max 7 (room - s.data.length))] := hp
      rw [List.mem_singleton] at hp'
      rw [hp']
      exact fillB_enc _ h7 (by omega)
    · have h2' : [fillB (max 7 (room - s.data.length))] = p :: S := h2
      simp only [List.cons.injEq] at h2'
      rw [← h2'.1, fillB_len _ h7]
      show s.gone < _
      omega
  · rw [if_neg e]
    exact ⟨h, e⟩
theorem LS.Ok.step {s : LS} (h : s.Ok) (room : Nat) (hr : room ≤ 2048) (hd : s.data.length < room) : (s.step room).Ok ∧ s.data.length < (s.step room).data.length ∧ (s.step room).data.length ≤ room := by
  obtain ⟨h1, h2⟩ := h.up room hr
  have hdu : (s.up room).data = s.data := by unfold LS.up; split <;> rfl
  unfold LS.step
  generalize s.up room = u at *
  obtain ⟨p, S, hps⟩ : ∃ p S, u.ps = p :: S := by
    cases hp : u.ps with
    | nil => exact absurd hp h2
    | cons p S => exact ⟨p, S, rfl⟩
  have hg := h1.g1 p S hps
  dsimp only
  rw [hps, hdu]
  have hpl : (p.drop u.gone).length = p.length - u.gone := List.length_drop
  simp only [List.headD_cons, List.tail_cons, hpl]
  refine ⟨⟨fun x hx => ?_, ?_, fun e => ?_, fun x T e => ?_, ?_⟩, ?_, ?_⟩
  · dsimp only at hx
    refine h1.enc x ?_
    rw [hps]
    split at hx
    · exact List.mem_cons_of_mem _ hx
    · exact hx
  · have := h1.len
    rw [hps] at this
    simp only [List.length_cons] at this
    dsimp only
    split
    · omega
    · simp only [List.length_cons]; omega
  · dsimp only at e ⊢
    split at e
    · rename_i h5; rw [if_pos h5]
    · cases e
  · dsimp only at e ⊢
    split at e
    · rename_i h5
      rw [if_pos h5]
      have := (h1.enc x (by rw [hps, e]; exact List.mem_cons_of_mem _ List.mem_cons_self)).len
      omega
    · rename_i h5
      rw [if_neg h5]
      simp only [List.cons.injEq] at e
      rw [← e.1]
      omega
  · have := h1.fst
    dsimp only
    split
    · omega
    · exact this
  · rw [List.length_append, List.length_take, hpl]
    omega
  · rw [List.length_append, List.length_take, hpl]
    omega
/-- memory while load goes on -/
structure ML (W : World) (B qb c : Nat) (q : Nat → QS) (s : LS) (da : Option Addr) (dc : Nat) : Prop where
  qr : QB7 W qb q
  pk : PkT W (q c).pa (q c).pn (q c).pc (q c).R
  gn : (q c).gone = s.gone
  cs : conts (q c).R = s.ps
  dt : W.ownsRow B 5 1 (.slice da s.data.length dc) s.data.length (vb s.data)
  ap : ∀ r ∈ (q c).R, ∀ b off, 0 < r.1.2.1 → r.1.1 = some ⟨b, off, none⟩ → (Value.slice da s.data.length dc).ownBlock ≠ some b
structure SLd (y : Nat → Value) (qb c room first : Nat) (da : Option Addr) (dn dc : Nat) : Prop where
  s0 : y 0 = .pointer (some ⟨qb, c * 3, none⟩)
  s1 : y 1 = .int .i64 (room : Int)
  s6 : y 6 = .int .i64 (first : Int)
  s7 : y 7 = .slice da dn dc
def setQ (q : Nat → QS) (c : Nat) (x : QS) : Nat → QS := fun i => if i = c then x else q i
theorem setQ_self (q : Nat → QS) (c : Nat) (x : QS) : setQ q c x c = x := if_pos rfl
theorem setQ_ne (q : Nat → QS) {c i : Nat} (x : QS) (h : i ≠ c) : setQ q c x i = q i := if_neg h
/-- the queue's packets are stored to -/
theorem QB7.putp {W : World} {qb c : Nat} {q : Nat → QS} (h : QB7 W qb q) (hc : c < 7) (pa : Option Addr) (pn pc : Nat) (R : List RB) :
    QB7 (W.setCell ⟨qb, c * 3 + 1, none⟩ (.slice pa pn pc)) qb (setQ q c ⟨(q c).own, pa, pn, pc, R, (q c).gone⟩) ∧ W.grownBy (W.setCell ⟨qb, c * 3 + 1, none⟩ (.slice pa pn pc)) (some qb) :=
  h.set c 1 hc (by omega) _ _ (by
    unfold qcell
    rw [if_neg (by omega), if_pos (by omega), show (c * 3 + 1) / 3 = c by omega, setQ_self]) (fun j hj hne => by
    unfold qcell
    by_cases e : j / 3 = c
    · rw [e, setQ_self]
      by_cases e3 : j % 3 = 0
      · rw [if_pos e3, if_pos e3]
      · rw [if_neg e3, if_neg e3, if_neg (by omega), if_neg (by omega)]
    · rw [setQ_ne _ _ e])
theorem QB7.putg {W : World} {qb c : Nat} {q : Nat → QS} (h : QB7 W qb q) (hc : c < 7) (g : Nat) :
    QB7 (W.setCell ⟨qb, c * 3 + 2, none⟩ (.int .i64 (g : Int))) qb (setQ q c ⟨(q c).own, (q c).pa, (q c).pn, (q c).pc, (q c).R, g⟩) ∧ W.grownBy (W.setCell ⟨qb, c * 3 + 2, none⟩ (.int .i64 (g : Int))) (some qb) :=
  h.set c 2 hc (by omega) _ _ (by
    unfold qcell
    rw [if_neg (by omega), if_neg (by omega), show (c * 3 + 2) / 3 = c by omega, setQ_self]) (fun j hj hne => by
    unfold qcell
    by_cases e : j / 3 = c
    · rw [e, setQ_self]
      by_cases e3 : j % 3 = 0
      · rw [if_pos e3, if_pos e3]
      · rw [if_neg e3, if_neg e3, if_pos (by omega), if_pos (by omega)]
    · rw [setQ_ne _ _ e])
theorem conts_nil {R : List RB} (h : conts R = []) : R = [] := by
  cases R with
  | nil => rfl
  | cons a r => cases h
set_option maxRecDepth 1000000 in
set_option maxHeartbeats 4000000 in
theorem ld_a (W1 : World) (B qb c room : Nat) (q : Nat → QS) (s : LS) (da : Option Addr) (dc : Nat) (hc : c < 7) (hM : ML W1 B qb c q s da dc) (hs : s.Ok) (hd : s.data.length < room) (hr : room ≤ 2048) (hB : B ≤ W1.heap.size) :
    Tri Try.prog 95 (pieceOf Try.f22 [1, 1, 1, 0, 0, 0, 1, 0, 0]) (fun y w => SLd y qb c room s.first da s.data.length dc ∧ w = W1)
      (fun _ _ y w => SLd y qb c room s.first da s.data.length dc ∧ ∃ x, ML w B qb c (setQ q c x) (s.up room) da dc ∧ x.own = (q c).own ∧ W1.grownBy w (some qb)) := by
  rintro Q y w ⟨⟨s0, s1, s6, s7⟩, rfl⟩ hQ
  have HQ := hid hQ
  have HM := hid hM
  obtain ⟨k0, k1, k2, kf⟩ := hM.qr.cell c hc
  have kf := kf (c * 3 + 1)
  have hpn : (q c).pn = s.ps.length := by rw [← hM.cs, conts_len]; exact hM.pk.pk.len.symm
  have hpm := Nat.le_trans hM.pk.rd.rd.le hM.pk.rd.rd.max
  unfold maxLen at hpm
  have hqB := hM.qr.lt
  clear hQ hM
  conv => arg 2; whnf
  rw [fr95]
  simp only [s0, s1, s6, s7]
  clear s0 s1 s6 s7
  by_cases e : s.ps = []
  · have hpn0 : (q c).pn = 0 := by rw [hpn, e]; rfl
    rw [hpn0] at k1
    have hup : Hid (s.up room = ⟨[fillB (max 7 (room - s.data.length))], s.gone, s.data, s.first⟩) := if_pos e
    obtain ⟨k, hk⟩ : ∃ k, k = max 7 (room - s.data.length) := ⟨_, rfl⟩
    rw [← hk] at hup
    obtain ⟨dn, hdn⟩ : ∃ dn, dn = s.data.length := ⟨_, rfl⟩
    have a1 : (room : Int) - (dn : Int) = ((room - dn : Nat) : Int) := by omega
    have w1 : IntKind.i64.wrap ((room - dn : Nat) : Int) = ((room - dn : Nat) : Int) := IntWalk.i64_in _ (by omega)
    have hmx1 : (if (7 : Int) < ((room - dn : Nat) : Int) then ((room - dn : Nat) : Int) else 7) = (k : Int) := by split <;> omega
    have hmx2 : (if ((room - dn : Nat) : Int) < 7 then (7 : Int) else ((room - dn : Nat) : Int)) = (k : Int) := by split <;> omega
    have hmx3 : (if 7 < room - dn then ((room - dn : Nat) : Int) else 7) = (k : Int) := by split <;> omega
    have hmx4 : (if room - dn < 7 then (7 : Int) else ((room - dn : Nat) : Int)) = (k : Int) := by split <;> omega
    have hfl := fill_ok k (by omega) (by omega) w
    rw [← hdn] at HQ ⊢
    have Hdn := hid hdn
    generalize room - dn = rd at *
    clear hk hdn hpn0
    go_wp2_with fail
    refine hfl.mono ?_
    rintro e W2 ⟨⟨fa, fc, rfl, hof⟩, hb2⟩
    have b3 := below_alloc W2 (.cells #[.slice fa k fc] 33)
    have r3 := heap_alloc_new W2 (.cells #[.slice fa k fc] 33)
    have hQ3 := (HM.out.qr.below hb2).below b3
    have hD3 := ownsRow_below (ownsRow_below HM.out.dt hb2) b3
    have hF3 := (RdT.ofOwn hof).below b3
    have hg3 : w.grownBy (W2.alloc (.cells #[.slice fa k fc] 33)) (some qb) := grownBy_of_below (hb2.trans (b3.mono hb2.size)) _
    have hrd : RdT 33 (W2.alloc (.cells #[.slice fa k fc] 33)) (some ⟨W2.heap.size, 0, none⟩) 1 1 (rcs [((fa, k, fc), fillB k)]) := ⟨⟨rfl, Nat.le_refl _, by unfold maxLen; omega, (fun h => by cases h), fun _ => ⟨_, 0, rfl, row_lt r3, fun j hj => by
      obtain rfl : j = 0 := by omega
      rw [cell_of_row _ _ _ _ _ _ r3]; rfl⟩⟩, fun _ => ⟨_, 0, _, rfl, r3⟩⟩
    obtain ⟨N1, hN1⟩ : ∃ N1, N1 = W2.heap.size := ⟨_, rfl⟩
    rw [← hN1] at hrd
    obtain ⟨m1, m2⟩ := hQ3.putp hc (some ⟨N1, 0, none⟩) 1 1 [((fa, k, fc), fillB k)]
    obtain ⟨cq, hqr, _⟩ := hQ3.ex
    have hD4 := hD3.kept m2 (own_ne hD3 hqr (by decide))
    have hF4 := hF3.other m2 hqr (by decide)
    have hrd4 := hrd.other m2 hqr (by decide)
    have HML : Hid (ML ((W2.alloc (.cells #[.slice fa k fc] 33)).setCell ⟨qb, c * 3 + 1, none⟩ (.slice (some ⟨N1, 0, none⟩) 1 1)) B qb c (setQ q c ⟨(q c).own, some ⟨N1, 0, none⟩, 1, 1, [((fa, k, fc), fillB k)], (q c).gone⟩) (s.up room) da dc) := by
      unfold Hid
      rw [hup.out]
      refine ⟨m1, ?_, ?_, ?_, hD4, fun r hr b off hp hra e => ?_⟩
      · rw [setQ_self]
        exact ⟨hrd4, fun r hr => by rw [List.mem_singleton] at hr; rw [hr]; exact hF4⟩
      · rw [setQ_self]; exact HM.out.gn
      · rw [setQ_self]; rfl
      · rw [setQ_self] at hr
        rw [List.mem_singleton] at hr
        rw [hr] at hra
        have h1 := (HM.out.dt.lt b e).2
        have h2 : (Value.slice fa k fc).ownBlock = some b := by
          dsimp only at hra
          rw [hra]
          rcases own_form hof with ⟨_, _, hv, _, _, ⟨hn, _⟩ | ⟨g, hg, _⟩⟩
          · cases hv; rw [hn] at hra; cases hra
          · cases hv; rw [hg] at hra; cases hra; rfl
        have h3 := (hof.lt b h2).1
        omega
    have HG4 := hid (grownBy_trans hg3 m2)
    obtain ⟨_, k1, _, kf⟩ := hQ3.cell c hc
    have kf := kf (c * 3 + 1)
    have HN1 := hid hN1
    clear b3 r3 hQ3 hD3 hF3 hg3 hrd m1 m2 hqr hD4 hF4 hrd4 hb2 hof hfl HM hN1 hmx1 hmx2 hmx3 hmx4
    go_wp2_with fail
    rw [← HN1.out]
    exact q_fr (N := 95) HQ.out rfl ⟨⟨rfl, rfl, rfl, rfl⟩, _, HML.out, rfl, HG4.out⟩
  · have hpn1 : (q c).pn ≠ 0 := by rw [hpn]; intro h; exact e (List.eq_nil_of_length_eq_zero h)
    have e1 : (((q c).pn : Int) == 0) = false := by rw [beq_eq_false_iff_ne]; omega
    have e2 : ((q c).pn == 0) = false := by rw [beq_eq_false_iff_ne]; omega
    have e3 : decide (((q c).pn : Int) = 0) = false := decide_eq_false (by omega)
    have hup : Hid (s.up room = s) := if_neg e
    clear e hpn hpn1
    go_wp2_with fail
    refine q_fr (N := 95) HQ.out rfl ⟨⟨rfl, rfl, rfl, rfl⟩, q c, ?_, rfl, World.grownBy.refl _ _⟩
    have hsq : setQ q c (q c) = q := by funext i; unfold setQ; split <;> simp_all
    rw [hsq, hup.out]
    exact HM.out
end Go.Proofs.Ytjiipmalahhcpaa
/- frame: load: the first packet is taken from. -/
namespace Go.Proofs.Ytjiipmalahhcpaa
set_option linter.unusedVariables false
open Go.RowKit

def LS.serve (room : Nat) (s : LS) : LS :=
  let p := (s.ps.headD []).drop s.gone
  let n := min p.length (room - s.data.length)
  ⟨if n = p.length then s.ps.tail else s.ps, if n = p.length then 0 else s.gone + n, s.data ++ p.take n, if s.gone = 0 then min s.first s.data.length else s.first⟩
theorem LS.step_eq (room : Nat) (s : LS) : s.step room = (s.up room).serve room := by
  have hdu : (s.up room).data = s.data := by unfold LS.up; split <;> rfl
  unfold LS.step LS.serve
  simp only [hdu]
set_option maxRecDepth 100000 in
theorem run_cut33 (b off n c k : Nat) (hk : k ≤ n) (w : World) : (Instr.sliceAt 33 (.slice (some ⟨b, off, none⟩) n c) (some (.int .i64 (k : Int))) none none).run Try.prog w = .ok (.slice (some ⟨b, if c = k then off else off + k, none⟩) (n - k) (c - k)) w := by
  have h1 : (k : Int) ≤ n := by omega
  simp [go_sem, h1, Try.underlying33]
  split <;> rfl
set_option maxRecDepth 100000 in
theorem run_cut40 (b off n c k : Nat) (hk : k ≤ n) (w : World) : (Instr.sliceAt 40 (.slice (some ⟨b, off, none⟩) n c) (some (.int .i64 (k : Int))) none none).run Try.prog w = .ok (.slice (some ⟨b, if c = k then off else off + k, none⟩) (n - k) (c - k)) w := by
  have h1 : (k : Int) ≤ n := by omega
  simp [go_sem, h1, Try.underlying40]
  split <;> rfl
theorem RdT.drop {T : TypeId} {w : World} {b off n c : Nat} {xs : List Value} (h : RdT T w (some ⟨b, off, none⟩) n c xs) (k : Nat) (hk : k ≤ n) : RdT T w (some ⟨b, if c = k then off else off + k, none⟩) (n - k) (c - k) (xs.drop k) := by
  have hl := h.rd.len
  have hle := h.rd.le
  have hmx := h.rd.max
  refine ⟨⟨by rw [List.length_drop, hl], by omega, by omega, (fun h => by cases h), fun hn => ?_⟩, fun hn => ?_⟩
  · obtain ⟨b', off', ha, hlt, hc⟩ := h.rd.mem (by omega)
    cases ha
    rw [if_neg (by omega)]
    refine ⟨b, off + k, rfl, hlt, fun j hj => ?_⟩
    rw [List.getElem?_drop, ← hc (k + j) (by omega), Nat.add_assoc]
  · obtain ⟨b', off', cs, ha, hr⟩ := h.ty (by omega)
    cases ha
    exact ⟨b, _, cs, rfl, hr⟩
theorem rcs_drop (R : List RB) (k : Nat) : (rcs R).drop k = rcs (R.drop k) := by unfold rcs; rw [List.map_drop]
theorem conts_drop (R : List RB) (k : Nat) : conts (R.drop k) = (conts R).drop k := by unfold conts; rw [List.map_drop]
end Go.Proofs.Ytjiipmalahhcpaa
