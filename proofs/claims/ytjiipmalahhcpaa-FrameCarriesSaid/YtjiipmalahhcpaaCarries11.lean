/- frame: load: the walk of the taking. -/
import Derived.Test.YtjiipmalahhcpaaCarries10
namespace Go.Proofs.Ytjiipmalahhcpaa
set_option linter.unusedVariables false
open Go.RowKit

set_option maxRecDepth 1000000 in
set_option maxHeartbeats 4000000 in
theorem ld_b1 (W1 : World) (B qb c room : Nat) (q : Nat → QS) (s : LS) (da : Option Addr) (dc : Nat) (hc : c < 7) (hM : ML W1 B qb c q s da dc) (hs : s.Ok) (hd : s.data.length < room) (hr : room ≤ 2048) :
    Tri Try.prog 95 (pieceOf Try.f22 [1, 1, 1, 0, 0, 0, 1, 0, 1, 0]) (fun y w => SLd y qb c room s.first da s.data.length dc ∧ w = W1)
      (fun _ _ y w => SLd y qb c room (if s.gone = 0 then min s.first s.data.length else s.first) da s.data.length dc ∧ w = W1) := by
  rintro Q y w ⟨⟨s0, s1, s6, s7⟩, rfl⟩ hQ
  have HQ := hid hQ
  obtain ⟨k0, k1, k2, kf⟩ := hM.qr.cell c hc
  rw [hM.gn] at k2
  have hfs := hs.fst
  clear hQ hM hs k0 k1 kf
  generalize s.data.length = dn at *
  generalize s.first = fs at *
  conv => arg 2; whnf
  rw [fr95]
  simp only [s0, s1, s6, s7]
  clear s0 s1 s6 s7
  by_cases e : s.gone = 0
  · rw [if_pos e] at HQ
    rw [e] at k2
    have h1 : (if (dn : Int) < (fs : Int) then (dn : Int) else (fs : Int)) = ((min fs dn : Nat) : Int) := by split <;> omega
    have h2 : (if (fs : Int) < (dn : Int) then (fs : Int) else (dn : Int)) = ((min fs dn : Nat) : Int) := by split <;> omega
    have h3 : (if dn < fs then (dn : Int) else (fs : Int)) = ((min fs dn : Nat) : Int) := by split <;> omega
    have h4 : (if fs < dn then (fs : Int) else (dn : Int)) = ((min fs dn : Nat) : Int) := by split <;> omega
    have h5 : (if fs ≤ dn then (fs : Int) else (dn : Int)) = ((min fs dn : Nat) : Int) := by split <;> omega
    generalize min fs dn = mn at *
    clear e
    go_wp2_with fail
    exact q_fr (N := 95) HQ.out rfl ⟨⟨rfl, rfl, rfl, rfl⟩, rfl⟩
  · rw [if_neg e] at HQ
    have e1 : ((s.gone : Int) == 0) = false := by rw [beq_eq_false_iff_ne]; omega
    have e2 : (s.gone == 0) = false := by rw [beq_eq_false_iff_ne]; omega
    have e3 : decide ((s.gone : Int) = 0) = false := decide_eq_false (by omega)
    clear e
    go_wp2_with fail
    exact q_fr (N := 95) HQ.out rfl ⟨⟨rfl, rfl, rfl, rfl⟩, rfl⟩
theorem RdT.apart {T : TypeId} {w w' : World} {ao : Option Addr} {n c : Nat} {xs : List Value} {row : Option Nat} (h : RdT T w ao n c xs) (hg : w.grownBy w' row) (hne : ∀ b off, 0 < n → ao = some ⟨b, off, none⟩ → row ≠ some b) : RdT T w' ao n c xs := by
  refine ⟨h.rd.grown hg (fun b off hn ha e => hne b off hn ha e.symm), fun hn => ?_⟩
  obtain ⟨b, off, cs, h1, h2⟩ := h.ty hn
  exact ⟨b, off, cs, h1, (hg.block b (row_lt h2) (fun e => hne b off hn h1 e.symm)).trans h2⟩
theorem setQ_setQ (q : Nat → QS) (c : Nat) (x y : QS) : setQ (setQ q c x) c y = setQ q c y := by
  funext i
  unfold setQ
  split <;> rfl
/-- the first packet is there still -/
theorem serve_part {s : LS} {p : List Nat} {S : List (List Nat)} (room : Nat) (h : s.ps = p :: S) (n : Nat) (hn : n = min (p.length - s.gone) (room - s.data.length)) (hne : n ≠ p.length - s.gone) :
    (s.serve room).ps = s.ps ∧ (s.serve room).gone = s.gone + n ∧ (s.serve room).data = s.data ++ (p.drop s.gone).take n := by
  unfold LS.serve
  simp only [h, List.headD_cons, List.length_drop, ← hn]
  rw [if_neg hne, if_neg hne]
  refine ⟨?_, ?_, ?_⟩ <;> first | rfl | trivial
theorem serve_full {s : LS} {p : List Nat} {S : List (List Nat)} (room : Nat) (h : s.ps = p :: S) (n : Nat) (hn : n = min (p.length - s.gone) (room - s.data.length)) (he : n = p.length - s.gone) :
    (s.serve room).ps = S ∧ (s.serve room).gone = 0 ∧ (s.serve room).data = s.data ++ (p.drop s.gone).take n := by
  unfold LS.serve
  simp only [h, List.headD_cons, List.length_drop, List.tail_cons, ← hn]
  rw [if_pos he, if_pos he]
  refine ⟨?_, ?_, ?_⟩ <;> first | rfl | trivial
set_option maxRecDepth 1000000 in
set_option maxHeartbeats 8000000 in
theorem ld_b2 (W1 : World) (B qb c room fs : Nat) (q : Nat → QS) (s : LS) (da : Option Addr) (dc : Nat) (hc : c < 7) (hM : ML W1 B qb c q s da dc) (hs : s.Ok) (hne : s.ps ≠ []) (hd : s.data.length < room) (hr : room ≤ 2048) (hB : B ≤ W1.heap.size) :
    Tri Try.prog 95 (pieceOf Try.f22 [1, 1, 1, 0, 0, 0, 1, 0, 1, 1]) (fun y w => SLd y qb c room fs da s.data.length dc ∧ w = W1)
      (fun _ _ y w => ∃ x da' dc', SLd y qb c room fs da' (s.serve room).data.length dc' ∧ ML w B qb c (setQ q c x) (s.serve room) da' dc' ∧ x.own = (q c).own ∧ ∀ Wl : World, Wl.heap.size = B → Wl.grownBy W1 (some qb) → Wl.grownBy w (some qb)) := by
  rintro Q y w ⟨⟨s0, s1, s6, s7⟩, rfl⟩ hQ
  have HQ := hid hQ
  have HM := hid hM
  obtain ⟨i5, hi5, hz5, hs5, hb5⟩ := info_parts Try.info5
  obtain ⟨p, S, hps⟩ : ∃ p S, s.ps = p :: S := by
    cases hp : s.ps with
    | nil => exact absurd hp hne
    | cons p S => exact ⟨p, S, rfl⟩
  have hgl := hs.g1 p S hps
  have hpE := hs.enc p (by rw [hps]; exact List.mem_cons_self)
  have hplen := hpE.len
  obtain ⟨r0, R0, hR⟩ : ∃ r0 R0, (q c).R = r0 :: R0 := by
    cases hRR : (q c).R with
    | nil => have := hM.cs; rw [hRR, hps] at this; cases this
    | cons a b => exact ⟨a, b, rfl⟩
  have hr0 : r0.2 = p ∧ conts R0 = S := by
    have := hM.cs
    rw [hR, hps] at this
    simp only [conts, List.map_cons, List.cons.injEq] at this
    exact this
  obtain ⟨⟨ra, rn, rc⟩, bs⟩ := r0
  obtain ⟨hbp, hcS⟩ := hr0
  dsimp only at hbp
  subst hbp
  have hrT := hM.pk.rows ((ra, rn, rc), bs) (by rw [hR]; exact List.mem_cons_self)
  dsimp only at hrT
  have hrn : bs.length = rn := by have := hrT.rd.len; rwa [vb_len] at this
  have hpn : (q c).pn = R0.length + 1 := by have := hM.pk.pk.len; rw [hR] at this; simpa using this.symm
  obtain ⟨b, off, csr, hra, hrb⟩ := hrT.ty (by omega)
  subst hra
  have hpk := hM.pk.rd
  rw [hR] at hpk
  obtain ⟨pb, po, csp, hpa, hpb⟩ := hpk.ty (by omega)
  obtain ⟨k0, k1, k2, kf⟩ := hM.qr.cell c hc
  rw [hM.gn] at k2
  rw [hpa, hpn] at k1
  rw [hpa, hpn] at hpk
  have hcp : w.cell? ⟨pb, po, none⟩ = some (.slice (some ⟨b, off, none⟩) rn rc) := by
    obtain ⟨b', o', e1, _, e3⟩ := hpk.rd.mem (by omega)
    cases e1
    have := e3 0 (by omega)
    rw [Nat.add_zero] at this
    rw [this]; rfl
  have hple := hpk.rd.le
  have hpmx := hpk.rd.max
  have hrle := hrT.rd.le
  have hrmx := hrT.rd.max
  unfold maxLen at hpmx hrmx
  have hrl := row_lt hrb
  have hpl := row_lt hpb
  have hql := hM.qr.lt
  have hap := hM.ap ((some ⟨b, off, none⟩, rn, rc), bs) (by rw [hR]; exact List.mem_cons_self) b off (by show 0 < rn; omega) rfl
  have hdt := hM.dt
  -- the worlds
  have hdU : Below w.heap.size w w.drew := (Below.refl _ w).drew
  have e1 : ∀ w', Below w.heap.size w.drew w' → w'.cell? ⟨qb, c * 3 + 1, none⟩ = some (.slice (some ⟨pb, po, none⟩) (R0.length + 1) (q c).pc) := fun w' hw => ((hdU.trans hw).cell (p := ⟨qb, c * 3 + 1, none⟩) hql).trans k1
  have e2 : ∀ w', Below w.heap.size w.drew w' → w'.cell? ⟨pb, po, none⟩ = some (.slice (some ⟨b, off, none⟩) rn rc) := fun w' hw => ((hdU.trans hw).cell (p := ⟨pb, po, none⟩) hpl).trans hcp
  have e3 : ∀ w', Below w.heap.size w.drew w' → w'.cell? ⟨qb, c * 3 + 2, none⟩ = some (.int .i64 (s.gone : Int)) := fun w' hw => ((hdU.trans hw).cell (p := ⟨qb, c * 3 + 2, none⟩) hql).trans k2
  have hcut := run_cut33 b off rn rc s.gone (by omega)
  rw [if_neg (show ¬ rc = s.gone by omega)] at hcut
  have hQU := hM.qr.below hdU
  have hpkU := hM.pk.below hdU
  have hdtU := ownsRow_below hdt hdU
  have hsub := (hrT.below hdU).rd.sub s.gone (min (rn - s.gone) (room - s.data.length)) (by omega)
  rw [vb_drop, vb_take] at hsub
  have hgU : ∀ Wl : World, Wl.heap.size = B → Wl.grownBy w (some qb) → Wl.grownBy w.drew (some qb) := fun Wl _ h => grownBy_trans h (grownBy_drew _ _)
  obtain ⟨n, hn⟩ : ∃ n, n = min (rn - s.gone) (room - s.data.length) := ⟨_, rfl⟩
  rw [← hn] at hsub
  have hpart := hid (serve_part room hps n (by rw [hrn]; exact hn))
  have hfull := hid (serve_full room hps n (by rw [hrn]; exact hn))
  rw [hrn] at hpart hfull
  have hn0 : 0 < n := by omega
  obtain ⟨dn, hdn⟩ : ∃ dn, dn = s.data.length := ⟨_, rfl⟩
  obtain ⟨pl, hpl2⟩ : ∃ pl, pl = rn - s.gone := ⟨_, rfl⟩
  obtain ⟨rd, hrd⟩ : ∃ rd, rd = room - dn := ⟨_, rfl⟩
  obtain ⟨cp, hcp2⟩ : ∃ cp, cp = rc - s.gone := ⟨_, rfl⟩
  rw [← hpl2, ← hcp2] at hcut
  rw [← hpl2] at hpart hfull
  have a1 : (room : Int) - (dn : Int) = (rd : Int) := by omega
  have w1 : IntKind.i64.wrap (rd : Int) = (rd : Int) := IntWalk.i64_in _ (by omega)
  have hm1 : (if (rd : Int) < (pl : Int) then (rd : Int) else (pl : Int)) = (n : Int) := by split <;> omega
  have hm2 : (if rd < pl then (rd : Int) else (pl : Int)) = (n : Int) := by split <;> omega
  have hm3 : (if (pl : Int) < (rd : Int) then (pl : Int) else (rd : Int)) = (n : Int) := by split <;> omega
  have hm4 : (if pl < rd then (pl : Int) else (rd : Int)) = (n : Int) := by split <;> omega
  have hncp : n ≤ cp := by omega
  have hncp2 : (n : Int) ≤ (cp : Int) := by omega
  have hnpl : n ≤ pl := by omega
  have hnrd : dn + n ≤ 2048 := by omega
  rw [← hcp2] at hsub
  have HRr := hid hR
  have HcS := hid hcS
  have HpkW := hid hpk
  have Hpl := hid hpl2
  have Hn := hid hn
  have Hsub := hid hsub
  have HapR := hid hap
  have HQU := hid hQU
  have HpkU := hid hpkU
  have HdtU := hid hdtU
  have HgU := hid hgU
  have HcsR := hid hM.cs
  have Hdn := hid hdn
  have HBU := hid (show B ≤ w.drew.heap.size from hB)
  have Hbnd : Hid (s.gone + n ≤ 100000) := by unfold Hid; omega
  rw [← hdn] at s7
  clear hQ hM hs hne hgl hpE hR hrT hrb hpb hpk k0 k1 k2 kf hcp hrl hpl hql hap hdt hdU hQU hpkU hdtU hsub hgU hn hdn hpl2 hcp2 hrd hd hB hps hcS hplen hrn
  conv => arg 2; whnf
  rw [fr95]
  simp only [s0, s1, s6, s7]
  clear s0 s1 s6 s7
  refine wp_seq_k (fun K1 hK1 => ?_)
  refine wp_region_can_all [] [0, 1, 2, 3, 4, 5, 6, 7, 8, 9, 10, 11] (Below w.heap.size) (fun _ => Below.refl _ _) (fun _ _ _ h k => h.trans k) (by kernel_rfl) (by kernel_rfl) ?_
  simp only [List.map_cons, List.map_nil, List.contains_nil, List.getD_cons_zero, List.getD_cons_succ]
  generalize w.drew = U at *
  iterate 12 (refine wpL_do rfl (fun w' hw' => (by go_simp; rfl)) ?_; simp only [Act.put, List.setIfInBounds_toArray, List.set_cons_succ, List.set_cons_zero])
  refine wpL_nil ?_
  refine hK1.out _ _ ?_
  clear e1 e2 e3 hcut
  refine wp_seq_k (fun K2 hK2 => ?_)
  go_wp2_with fail
  refine hK2.out _ _ ?_
  clear hm1 hm2 hm3 hm4 a1
  refine wp_seq_k (fun K3 hK3 => ?_)
  go_wp2_with (at_builtin; refine hold ?_)
  unfold Hid
  have hdt := HdtU.out
  rw [← Hdn.out] at hdt
  have hnl : ((bs.drop s.gone).take n).length = n := by have := Hsub.out.len; rwa [vb_len] at this
  refine wpList_append_own_at _ rfl _ _ 33 rfl B 5 i5 (.int .u8 0) 1 1 Try.underlying33 hi5 hz5 hs5 hb5 rfl (by decide) (.slice da dn dc) dn (vb s.data) rfl hdt ⟨b, off + s.gone, none⟩ n cp (vb ((bs.drop s.gone).take n)) rfl (by rw [vb_len, hnl]; omega) (fun j u hj => by
    have hjn : j < n := by have h1 := (List.getElem?_eq_some_iff.1 hj).1; rw [vb_len, hnl] at h1; exact h1
    obtain ⟨b', off', ha, _, hc⟩ := Hsub.out.mem (by omega)
    cases ha
    rw [Addr.add_lit, hc j hjn]
    exact hj) (vb_oneCell _) (by unfold maxLen; omega) (by omega) HBU.out ?_
  intro v' W3 o3 g3 _ hblk
  obtain ⟨da3, dc3, rfl, _, _, _⟩ := own_form o3
  have hne42 : ∀ k cs, U.heap[k]? = some (.cells cs 42) → (Value.slice da dn dc).ownBlock ≠ some k := fun k cs hk e => by
    rcases own_ne hdt hk (by decide) with h | h
    · rw [h] at e; cases e
    · exact h e
  have hne33 : ∀ k cs, U.heap[k]? = some (.cells cs 33) → (Value.slice da dn dc).ownBlock ≠ some k := fun k cs hk e => by
    rcases own_ne hdt hk (by decide) with h | h
    · rw [h] at e; cases e
    · exact h e
  have hQ3 : QB7 W3 qb q := by
    obtain ⟨cq, hqr, _⟩ := HQU.out.ex
    exact HQU.out.kept g3 (hne42 qb cq hqr)
  have hap : ∀ r ∈ (q c).R, ∀ b off, 0 < r.1.2.1 → r.1.1 = some ⟨b, off, none⟩ → (Value.slice da dn dc).ownBlock ≠ some b := fun r hr b off h1 h2 => by rw [Hdn.out]; exact HM.out.ap r hr b off h1 h2
  have hpk3 : PkT W3 (q c).pa (q c).pn (q c).pc (q c).R := ⟨HpkU.out.rd.kept g3 hne33, fun r hr => (HpkU.out.rows r hr).apart g3 (hap r hr)⟩
  have hap3 : ∀ r ∈ (q c).R, ∀ b off, 0 < r.1.2.1 → r.1.1 = some ⟨b, off, none⟩ → (Value.slice da3 (dn + n) dc3).ownBlock ≠ some b := fun r hr b off h1 h2 e => by
    rcases hblk with h | h
    · rw [h] at e; exact hap r hr b off h1 h2 e
    · rw [h] at e
      cases e
      obtain ⟨b', off', cs, h3, h4⟩ := (HpkU.out.rows r hr).ty h1
      rw [h2] at h3
      cases h3
      exact absurd (row_lt h4) (Nat.lt_irrefl _)
  have hg3 : ∀ Wl : World, Wl.heap.size = B → Wl.grownBy w (some qb) → Wl.grownBy W3 (some qb) := fun Wl h1 h2 => by
    have h3 := HgU.out Wl h1 h2
    refine ⟨g3.os.trans h3.os, g3.tape.trans h3.tape, g3.output.trans h3.output, Nat.le_trans h3.size g3.size, fun k hk hne => ?_⟩
    refine (g3.block k (Nat.lt_of_lt_of_le hk h3.size) (fun e => ?_)).trans (h3.block k hk hne)
    have := (hdt.lt k e.symm).1
    omega
  rw [← vb_append] at o3
  obtain ⟨k0, k1, k2, kf⟩ := hQ3.cell c hc
  rw [HM.out.gn] at k2
  have kf2 := kf (c * 3 + 2)
  obtain ⟨m1, m2⟩ := hQ3.putg hc (s.gone + n)
  obtain ⟨gn, hgn⟩ : ∃ gn, gn = s.gone + n := ⟨_, rfl⟩
  rw [← hgn] at m1 m2
  have a2 : (s.gone : Int) + (n : Int) = (gn : Int) := by omega
  have w2 : IntKind.i64.wrap (gn : Int) = (gn : Int) := IntWalk.i64_in _ (by have := Hbnd.out; omega)
  obtain ⟨cq3, hqr3, _⟩ := hQ3.ex
  have HQ4 := hid m1
  have Hpk4 := hid (hpk3.other m2 hqr3 (by decide) (by decide))
  have Hdt4 := hid (o3.kept m2 (own_ne o3 hqr3 (by decide)))
  have Hg4 : Hid (∀ Wl : World, Wl.heap.size = B → Wl.grownBy w (some qb) → Wl.grownBy (W3.setCell ⟨qb, c * 3 + 2, none⟩ (.int .i64 (gn : Int))) (some qb)) := fun Wl h1 h2 => grownBy_trans (hg3 Wl h1 h2) m2
  have Hap3 := hid hap3
  have Hgn := hid hgn
  clear m1 m2 hqr3 o3 g3 hblk hne42 hne33 hQ3 hap hpk3 hap3 hg3 k0 k1 kf hdt hgn HQU HpkU HdtU HgU Hsub
  go_wp2_with fail
  refine hK3.out _ _ ?_
  refine wp_seq_k (fun K4 hK4 => ?_)
  go_wp2_with fail
  refine hK4.out _ _ ?_
  clear k2 kf2 a2 w2
  generalize W3.setCell ⟨qb, c * 3 + 2, none⟩ (.int .i64 (gn : Int)) = W4 at *
  by_cases hfe : n = pl
  · obtain ⟨f1, f2, f3⟩ := hfull.out hfe
    have d1 : ((n : Int) == (pl : Int)) = true := by rw [hfe]; simp
    have d2 : (n == pl) = true := by rw [hfe]; simp
    have d3 : decide ((n : Int) = (pl : Int)) = true := decide_eq_true (by omega)
    have hlen : (s.serve room).data.length = dn + n := by rw [f3, List.length_append, hnl, ← Hdn.out]
    have hcut := run_cut40 pb po (R0.length + 1) (q c).pc 1 (by omega)
    rw [show ((1 : Nat) : Int) = 1 from rfl] at hcut
    have hdr := Hpk4.out.rd
    rw [hpa, hpn] at hdr
    have hdr := hdr.drop 1 (by omega)
    rw [rcs_drop, HRr.out] at hdr
    rw [show R0.length + 1 - 1 = R0.length from rfl] at hcut hdr
    rw [show List.drop 1 (((some ⟨b, off, none⟩, rn, rc), bs) :: R0) = R0 from rfl] at hdr
    generalize (if (q c).pc = 1 then po else po + 1) = po2 at hcut hdr
    obtain ⟨_, k1, k2, kf⟩ := HQ4.out.cell c hc
    rw [setQ_self] at k1 k2
    dsimp only at k1 k2
    rw [hpa, hpn] at k1
    have kf1 := kf (c * 3 + 1)
    obtain ⟨m1, m2⟩ := HQ4.out.putp hc (some ⟨pb, po2, none⟩) R0.length ((q c).pc - 1) R0
    obtain ⟨m3, m4⟩ := m1.putg hc 0
    obtain ⟨_, _, k3, kf'⟩ := m1.cell c hc
    rw [setQ_self] at k3
    dsimp only at k3
    rw [setQ_self] at k3
    dsimp only at k3
    have kf2 := kf' (c * 3 + 2)
    obtain ⟨cq4, hqr4, _⟩ := HQ4.out.ex
    obtain ⟨cq5, hqr5, _⟩ := m1.ex
    have hdr6 := (hdr.other m2 hqr4 (by decide)).other m4 hqr5 (by decide)
    have hro6 : ∀ r ∈ R0, RdT 5 ((W4.setCell ⟨qb, c * 3 + 1, none⟩ (.slice (some ⟨pb, po2, none⟩) R0.length ((q c).pc - 1))).setCell ⟨qb, c * 3 + 2, none⟩ (.int .i64 ((0 : Nat) : Int))) r.1.1 r.1.2.1 r.1.2.2 (vb r.2) := fun r hr => ((Hpk4.out.rows r (by rw [HRr.out]; exact List.mem_cons_of_mem _ hr)).other m2 hqr4 (by decide)).other m4 hqr5 (by decide)
    have hdt6 := (Hdt4.out.kept m2 (own_ne Hdt4.out hqr4 (by decide)))
    have hdt6 := hdt6.kept m4 (own_ne hdt6 hqr5 (by decide))
    have HQ6 : Hid (QB7 ((W4.setCell ⟨qb, c * 3 + 1, none⟩ (.slice (some ⟨pb, po2, none⟩) R0.length ((q c).pc - 1))).setCell ⟨qb, c * 3 + 2, none⟩ (.int .i64 ((0 : Nat) : Int))) qb (setQ q c ⟨(q c).own, some ⟨pb, po2, none⟩, R0.length, (q c).pc - 1, R0, 0⟩)) := by
      rw [setQ_setQ, setQ_setQ, setQ_self, setQ_self] at m3
      exact m3
    have HD6 := hid hdr6
    have HRo6 := hid hro6
    have HDt6 := hid hdt6
    have Hg6 : Hid (∀ Wl : World, Wl.heap.size = B → Wl.grownBy w (some qb) → Wl.grownBy ((W4.setCell ⟨qb, c * 3 + 1, none⟩ (.slice (some ⟨pb, po2, none⟩) R0.length ((q c).pc - 1))).setCell ⟨qb, c * 3 + 2, none⟩ (.int .i64 ((0 : Nat) : Int))) (some qb)) := fun Wl h1 h2 => grownBy_trans (Hg4.out Wl h1 h2) (grownBy_trans m2 m4)
    have Hlen := hid hlen
    have Hf := hid (And.intro f1 (And.intro f2 f3))
    have hpcm := Nat.le_trans hdr.rd.le hdr.rd.max
    clear f1 f2 f3 hlen hpart hfull hfe m1 m2 m3 m4 hqr4 hqr5 hdr hdr6 hro6 hdt6 kf kf' HQ4 Hpk4 Hdt4 Hg4
    have HRW := hid hpa
    have HRW2 := hid hpn
    clear hpa hpn
    go_wp2_with fail
    refine q_fr (N := 95) HQ.out rfl ⟨⟨(q c).own, some ⟨pb, po2, none⟩, R0.length, (q c).pc - 1, R0, 0⟩, da3, dc3, ⟨rfl, rfl, rfl, ?_⟩, ⟨HQ6.out, ?_, ?_, ?_, ?_, ?_⟩, rfl, Hg6.out⟩
    · rw [Hlen.out]; rfl
    · rw [setQ_self]; exact ⟨HD6.out, HRo6.out⟩
    · rw [setQ_self, Hf.out.2.1]
    · rw [setQ_self, Hf.out.1]; exact HcS.out
    · rw [Hlen.out, Hf.out.2.2]; exact HDt6.out
    · rw [setQ_self, Hlen.out]; exact fun r hr => Hap3.out r (by rw [HRr.out]; exact List.mem_cons_of_mem _ hr)
  · obtain ⟨f1, f2, f3⟩ := hpart.out hfe
    have d1 : ((n : Int) == (pl : Int)) = false := by rw [beq_eq_false_iff_ne]; omega
    have d2 : (n == pl) = false := by rw [beq_eq_false_iff_ne]; omega
    have d3 : decide ((n : Int) = (pl : Int)) = false := decide_eq_false (by omega)
    have hlen : (s.serve room).data.length = dn + n := by rw [f3, List.length_append, hnl, ← Hdn.out]
    have Hlen := hid hlen
    have Hf := hid (And.intro f1 (And.intro f2 f3))
    clear f1 f2 f3 hlen hpart hfull hfe
    go_wp2_with fail
    refine q_fr (N := 95) HQ.out rfl ⟨⟨(q c).own, (q c).pa, (q c).pn, (q c).pc, (q c).R, gn⟩, da3, dc3, ⟨rfl, rfl, rfl, ?_⟩, ⟨HQ4.out, ?_, ?_, ?_, ?_, ?_⟩, rfl, Hg4.out⟩
    · rw [Hlen.out]; rfl
    · rw [setQ_self]; exact Hpk4.out
    · rw [setQ_self, Hf.out.2.1]; exact Hgn.out
    · rw [setQ_self, Hf.out.1]; exact HcsR.out
    · rw [Hlen.out, Hf.out.2.2]; exact Hdt4.out
    · rw [setQ_self, Hlen.out]; exact Hap3.out
end Go.Proofs.Ytjiipmalahhcpaa
/- frame: load. -/
namespace Go.Proofs.Ytjiipmalahhcpaa
set_option linter.unusedVariables false
open Go.RowKit

def lenV : Value → Nat
  | .slice _ k _ => k
  | _ => 0
def ldN (room : Nat) : Nat → LS → LS
  | 0, s => s
  | f + 1, s => if s.data.length < room then ldN room f (s.step room) else s
theorem ldN_full (room : Nat) : ∀ f (s : LS), ¬ s.data.length < room → ldN room f s = s
  | 0, s, _ => rfl
  | f + 1, s, h => if_neg h
theorem ldN_step (room f : Nat) (s : LS) (h : s.data.length < room) : ldN room (f + 1) s = ldN room f (s.step room) := if_pos h
def LdI (Wl : World) (B qb c room : Nat) (q : Nat → QS) (G : LS) (y : Nat → Value) (W : World) : Prop :=
  ∃ s x da dc f, SLd y qb c room s.first da s.data.length dc ∧ ML W B qb c (setQ q c x) s da dc ∧ s.Ok ∧ s.data.length ≤ room ∧ x.own = (q c).own ∧ Wl.grownBy W (some qb) ∧ ldN room f s = G ∧ room - s.data.length ≤ f ∧ B ≤ W.heap.size
set_option maxRecDepth 1000000 in
set_option maxHeartbeats 4000000 in
theorem ld_l (Wl W1 : World) (B qb c room : Nat) (q : Nat → QS) (s0 : LS) (da0 : Option Addr) (dc0 : Nat) (hc : c < 7) (hM : ML W1 B qb c q s0 da0 dc0) (hs : s0.Ok) (hd : s0.data.length ≤ room) (hr : room ≤ 2048) (hB : B ≤ W1.heap.size) (hWl : Wl.heap.size = B) (hg : Wl.grownBy W1 (some qb)) :
    Tri Try.prog 95 (pieceOf Try.f22 [1, 1, 1, 0]) (fun y w => SLd y qb c room s0.first da0 s0.data.length dc0 ∧ w = W1)
      (fun _ _ y w => ∃ s x da dc, s = ldN room room s0 ∧ s.data.length = room ∧ s.Ok ∧ SLd y qb c room s.first da room dc ∧ ML w B qb c (setQ q c x) s da dc ∧ x.own = (q c).own ∧ Wl.grownBy w (some qb)) := by
  rintro Q y w ⟨⟨t0, t1, t6, t7⟩, rfl⟩ hQ
  have HQ := hid hQ
  have hsq : setQ q c (q c) = q := by funext i; unfold setQ; split <;> simp_all
  have HM := hid hM
  have HS := hid hs
  have HG := hid hg
  have HW := hid hWl
  clear hQ hM hs hg hWl
  conv => arg 2; whnf
  rw [fr95]
  simp only [t0, t1, t6, t7]
  clear t0 t1 t6 t7
  refine wp_block ?_
  refine wp_loop_fr 95 (LdI Wl B qb c room q (ldN room room s0)) (fun y' _ => room - lenV (y' 7)) ⟨rfl, rfl, s0, q c, da0, dc0, room, ⟨rfl, rfl, rfl, rfl⟩, by rw [hsq]; exact HM.out, HS.out, hd, rfl, HG.out, rfl, by omega, hB⟩ ?_
  clear HM HS HG hsq hB hd
  rintro z W ⟨s, x, da, dc, f, ⟨t0, t1, t6, t7⟩, hM, hs, hd, hx, hg, hG, hf, hB⟩
  have HM := hid hM
  have HS := hid hs
  have Hx := hid hx
  have HG := hid hg
  have HGo := hid hG
  have Ht7 := hid t7
  clear hM hs hx hg hG
  rw [fr95]
  simp only [t0, t1, t6, t7]
  clear t0 t1 t6 t7
  by_cases hlt : s.data.length < room
  · obtain ⟨f', rfl⟩ : ∃ f', f = f' + 1 := ⟨f - 1, by omega⟩
    have hG2 : ldN room f' (s.step room) = ldN room room s0 := by
      have := HGo.out
      rwa [ldN_step room f' s hlt] at this
    have HG2 := hid hG2
    obtain ⟨hok2, hl1, hl2⟩ := HS.out.step room hr hlt
    obtain ⟨hu1, hu2⟩ := HS.out.up room hr
    have hud : (s.up room).data = s.data := by unfold LS.up; split <;> rfl
    have huf : (s.up room).first = s.first := by unfold LS.up; split <;> rfl
    have hse : s.step room = (s.up room).serve room := LS.step_eq room s
    have ha := hid (ld_a W B qb c room (setQ q c x) s da dc hc HM.out HS.out hlt hr hB)
    have hb1 := hid (fun W' q' (hM' : ML W' B qb c q' (s.up room) da dc) => ld_b1 W' B qb c room q' (s.up room) da dc hc hM' hu1 (by rw [hud]; exact hlt) hr)
    have hb2 := hid (fun W' q' fs (hM' : ML W' B qb c q' (s.up room) da dc) hB' => ld_b2 W' B qb c room fs q' (s.up room) da dc hc hM' hu1 hu2 (by rw [hud]; exact hlt) hr hB')
    rw [hud, huf] at hb1
    rw [hud] at hb2
    rw [← hse] at hb2
    have hfi : Hid ((if (s.up room).gone = 0 then min s.first s.data.length else s.first) = (s.step room).first) := by
      unfold Hid
      rw [hse]
      unfold LS.serve
      dsimp only
      rw [hud, huf]
    rw [hfi.out] at hb1
    have Hok2 := hid hok2
    obtain ⟨dn, hdn⟩ : ∃ dn, dn = s.data.length := ⟨_, rfl⟩
    rw [← hdn] at ha hb1 hb2 hlt hl1 hf ⊢
    have d1 : decide ((dn : Int) < (room : Int)) = true := decide_eq_true (by omega)
    have d2 : decide (dn < room) = true := decide_eq_true hlt
    have Hdn := hid hdn
    have Hl := hid (And.intro hl1 hl2)
    have Hf := hid hf
    clear hG2 hok2 hu1 hu2 hud huf hse hdn hl1 hl2 hf
    refine wp_seq_k (fun K0 hK0 => ?_)
    go_wp2_with fail
    refine hK0.out _ _ ?_
    refine wp_block ?_
    refine wp_seq_k (fun K1 hK1 => ?_)
    refine Tri.use ha.out rfl ⟨⟨rfl, rfl, rfl, rfl⟩, rfl⟩ ?_
    rintro y3 W3 ⟨hs3, x3, hM3, hx3, hg3⟩
    rw [setQ_setQ] at hM3
    rw [setQ_self] at hx3
    refine hK1.out _ _ ?_
    have hB3 := Nat.le_trans hB hg3.size
    refine wp_seq (Tri.use (hb1.out W3 _ hM3) (fr_size _ _) ⟨⟨(fr_at _ _ _ (by decide)).trans hs3.s0, (fr_at _ _ _ (by decide)).trans hs3.s1, (fr_at _ _ _ (by decide)).trans hs3.s6, (fr_at _ _ _ (by decide)).trans hs3.s7⟩, rfl⟩ ?_)
    rintro y4 W4 ⟨hs4, rfl⟩
    refine Tri.use (hb2.out W4 _ _ hM3 hB3) (fr_size _ _) ⟨⟨(fr_at _ _ _ (by decide)).trans hs4.s0, (fr_at _ _ _ (by decide)).trans hs4.s1, (fr_at _ _ _ (by decide)).trans hs4.s6, (fr_at _ _ _ (by decide)).trans hs4.s7⟩, rfl⟩ ?_
    rintro y5 W5 ⟨x5, da5, dc5, hs5, hM5, hx5, hg5⟩
    rw [setQ_setQ] at hM5
    rw [setQ_self] at hx5
    have hgg := hg5 Wl HW.out (grownBy_trans HG.out hg3)
    refine ⟨fr_size _ _, rfl, ⟨s.step room, x5, da5, dc5, f', ⟨(fr_at _ _ _ (by decide)).trans hs5.s0, (fr_at _ _ _ (by decide)).trans hs5.s1, (fr_at _ _ _ (by decide)).trans hs5.s6, (fr_at _ _ _ (by decide)).trans hs5.s7⟩, hM5, Hok2.out, Hl.out.2, (hx5.trans hx3).trans Hx.out, hgg, HG2.out, by have := Hl.out.1; have := Hf.out; omega, by rw [← HW.out]; exact hgg.size⟩, ?_⟩
    show room - lenV ((fr 95 y5).getD 7 undef) < room - lenV (Value.slice da dn dc)
    rw [fr_at _ _ _ (by decide), hs5.s7]
    show room - (s.step room).data.length < room - dn
    have := Hl.out.1
    have := Hl.out.2
    omega
  · have hl : s.data.length = room := by omega
    have hgo : s = ldN room room s0 := by have := HGo.out; rwa [ldN_full room f s hlt] at this
    have Hgo := hid hgo
    have Hl := hid hl
    rw [hl]
    have d1 : decide ((room : Int) < (room : Int)) = false := decide_eq_false (by omega)
    clear hlt hgo hl hd hf HGo
    go_wp2_with fail
    exact q_fr (N := 95) HQ.out rfl ⟨s, x, da, dc, Hgo.out, Hl.out, HS.out, ⟨rfl, rfl, rfl, rfl⟩, HM.out, Hx.out, HG.out⟩
end Go.Proofs.Ytjiipmalahhcpaa
/- frame: load, joined. -/
namespace Go.Proofs.Ytjiipmalahhcpaa
set_option linter.unusedVariables false
open Go.RowKit

/-- what load gives -/
def ldOf (l : LQ) (room : Nat) : LS := ldN room room ⟨l.ps, l.gone, [], 2047⟩
structure LoadR (Wl W : World) (qb c room : Nat) (q : Nat → QS) (s : LS) (e : Ending) : Prop where
  ex : ∃ x da dc, e = .returned (.tuple #[.slice da room dc, .int .i64 (s.first : Int)]) ∧ W.ownsRow Wl.heap.size 5 1 (.slice da room dc) room (vb s.data) ∧ QB7 W qb (setQ q c x) ∧ PkT W x.pa x.pn x.pc x.R ∧ x.gone = s.gone ∧ conts x.R = s.ps ∧ x.own = (q c).own
  gr : Wl.grownBy W (some qb)
  ok : s.Ok
  len : s.data.length = room
theorem run_mk0 (room : Nat) (hn : room ≤ 70000) (u : World) : (Instr.makeSlice 33 (.int .i64 0) (.int .i64 (room : Int))).run Try.prog u =
    .ok (.slice (some ⟨u.heap.size, 0, none⟩) 0 room) (u.alloc (.cells (madeCells #[.int .u8 0] (room * 1)) 5)) := by
  obtain ⟨i0, hi, hz0, hz1, hz2⟩ := info_parts Try.info5
  have h := run_make (P := Try.prog) u 33 5 i0 (.int .u8 0) Try.underlying33 hi hz0 .i64 .i64 0 (room : Int) (Int.le_refl _) (by omega) (by rw [hz2]; omega) (by omega)
  simpa [hz1, Value.cells] using h
set_option maxRecDepth 1000000 in
set_option maxHeartbeats 4000000 in
theorem load_ok (qb c room : Nat) (q : Nat → QS) (Wl : World) (hc : c < 7) (hQ : QB7 Wl qb q) (hP : PkT Wl (q c).pa (q c).pn (q c).pc (q c).R) (hok : (q c).abs.Ok) (h0 : 0 < room) (hr : room ≤ 2048) :
    Calls Try.prog 22 #[.pointer (some ⟨qb, c * 3, none⟩), .int .i64 (room : Int)] Wl fun e w' => LoadR Wl w' qb c room q (ldOf (q c).abs room) e := by
  have hmk := run_mk0 room (by omega) Wl
  have b1 := below_alloc Wl (.cells (madeCells #[.int .u8 0] (room * 1)) 5)
  have ho : (Wl.alloc (.cells (madeCells #[.int .u8 0] (room * 1)) 5)).ownsRow Wl.heap.size 5 1 (.slice (some ⟨Wl.heap.size, 0, none⟩) 0 room) 0 [] := World.ownsRow_made Wl _ room (Nat.le_refl _) (by unfold maxLen; omega) (by rw [size_madeCells, Nat.mul_one])
  have hM : ML (Wl.alloc (.cells (madeCells #[.int .u8 0] (room * 1)) 5)) Wl.heap.size qb c q ⟨conts (q c).R, (q c).gone, [], 2047⟩ (some ⟨Wl.heap.size, 0, none⟩) room := by
    refine ⟨hQ.below b1, hP.below b1, rfl, rfl, ho, fun r hr b off hp hra e => ?_⟩
    obtain ⟨b', off', cs, h3, h4⟩ := (hP.rows r hr).ty hp
    rw [hra] at h3
    cases h3
    cases e
    exact absurd (row_lt h4) (Nat.lt_irrefl _)
  have hsok : (⟨conts (q c).R, (q c).gone, [], 2047⟩ : LS).Ok := ⟨hok.enc, hok.len, hok.g0, hok.g1, Nat.le_refl _⟩
  have hl := hid (ld_l Wl _ Wl.heap.size qb c room q ⟨conts (q c).R, (q c).gone, [], 2047⟩ (some ⟨Wl.heap.size, 0, none⟩) room hc hM hsok (Nat.zero_le _) hr b1.size rfl (grownBy_of_below b1 _))
  have hT : Hid (ldN room room ⟨conts (q c).R, (q c).gone, [], 2047⟩ = ldOf (q c).abs room) := rfl
  rw [hT.out] at hl
  clear hM hsok ho b1 hQ hP hok hT
  generalize ldOf (q c).abs room = T at *
  generalize madeCells #[.int .u8 0] (room * 1) = MB at *
  go_enter Try.func22, Try.ntmps22
  refine wp_seq_k (fun K0 hK0 => ?_)
  go_wp2_with fail
  refine hK0.out _ _ ?_
  refine wp_seq_k (fun K1 hK1 => ?_)
  go_wp2_with fail
  refine hK1.out _ _ ?_
  refine wp_seq_k (fun K2 hK2 => ?_)
  go_wp2_with fail
  refine hK2.out _ _ ?_
  generalize Wl.alloc (.cells MB 5) = W1 at *
  refine wp_seq_k (fun K3 hK3 => ?_)
  refine Tri.use hl.out rfl ⟨⟨rfl, rfl, rfl, rfl⟩, rfl⟩ ?_
  rintro y5 W5 ⟨s, x, da, dc, rfl, hlen, hok, ⟨t0, t1, t6, t7⟩, hM5, hx, hg⟩
  refine hK3.out _ _ ?_
  have HM := hid hM5
  have HR := hid (And.intro hlen (And.intro hok (And.intro hx hg)))
  clear hM5 hlen hok hx hg hl hmk
  rw [fr95]
  simp only [t0, t1, t6, t7]
  clear t0 t1 t6 t7
  go_wp2_with fail
  go_ret2
  obtain ⟨r1, r2, r3, r4⟩ := HR.out
  have hM := HM.out
  have hgn := hM.gn
  have hcs := hM.cs
  have hpk := hM.pk
  rw [setQ_self] at hgn hcs hpk
  refine ⟨⟨x, da, dc, rfl, ?_, hM.qr, hpk, hgn, hcs, r3⟩, r4, r2, r1⟩
  have h5 := hM.dt
  rw [r1] at h5
  exact h5
end Go.Proofs.Ytjiipmalahhcpaa
