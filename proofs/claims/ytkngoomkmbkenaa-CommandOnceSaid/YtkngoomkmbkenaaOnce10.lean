/- What is new is sent: the loop. -/
import Derived.Test.YtkngoomkmbkenaaOnce9
namespace Go.Proofs.Ytkngoomkmbkenaa
set_option linter.unusedVariables false
open Go.RowKit

set_option maxRecDepth 1000000 in
theorem fr80 (y : Nat → Value) : fr 80 y = #[y 0, y 1, y 2, y 3, y 4, y 5, y 6, y 7, y 8, y 9, y 10, y 11, y 12, y 13, y 14, y 15, y 16, y 17, y 18, y 19, y 20, y 21, y 22, y 23, y 24, y 25, y 26, y 27, y 28, y 29, y 30, y 31, y 32, y 33, y 34, y 35, y 36, y 37, y 38, y 39, y 40, y 41, y 42, y 43, y 44, y 45, y 46, y 47, y 48, y 49, y 50, y 51, y 52, y 53, y 54, y 55, y 56, y 57, y 58, y 59, y 60, y 61, y 62, y 63, y 64, y 65, y 66, y 67, y 68, y 69, y 70, y 71, y 72, y 73, y 74, y 75, y 76, y 77, y 78, y 79] := rfl
set_option maxRecDepth 100000 in
theorem run_head34 (b off n c k : Nat) (hk : k ≤ n) (hc : n ≤ c) (w : World) : (Instr.sliceAt 34 (.slice (some ⟨b, off, none⟩) n c) none (some (.int .i64 (k : Int))) none).run Try.prog w = .ok (.slice (some ⟨b, off, none⟩) k c) w := by
  have e1 : (k : Int) ≤ c := by omega
  simp [go_sem, e1]
set_option maxRecDepth 100000 in
theorem run_head34n (w : World) : (Instr.sliceAt 34 (.slice none 0 0) none (some (.int .i64 0)) none).run Try.prog w = .ok (.slice none 0 0) w := by
  simp [go_sem]
theorem ones_snoc (b k : Nat) : ones (List.range' b (k + 1)) = ones (List.range' b k) ++ [[b + k]] := by
  unfold ones
  rw [List.range'_concat, List.map_append, Nat.one_mul]
  rfl
/-- the head of what was asked for -/
theorem head_q {W : World} {B : Nat} {x : WS} (h : RO W B x) (t : Nat) (ht : t ≤ x.qn) : ∀ w, (Instr.sliceAt 34 (.slice x.qa x.qn x.qc) none (some (.int .i64 (t : Int))) none).run Try.prog w = .ok (.slice x.qa t x.qc) w := by
  have hqo := h.qo
  unfold WS.qv at hqo
  intro w
  cases hqa : x.qa with
  | none =>
    rw [hqa] at hqo
    rcases hqo.2 with ⟨h1, h2⟩ | ⟨g, o, cap, cur, h1, _⟩
    · have hqc : x.qc = 0 := by injection h1
      have h0 : t = 0 := by omega
      subst h0
      rw [h2, hqc]
      exact run_head34n w
    · cases h1
  | some a =>
    rw [hqa] at hqo
    obtain ⟨b, o, fr⟩ := a
    have hfr : fr = none ∧ x.qn ≤ x.qc := by
      rcases hqo.2 with ⟨h1, _⟩ | ⟨g, o', cap, cur, h1, _, _, h4, _⟩
      · cases h1
      · cases h1; exact ⟨rfl, h4⟩
    obtain ⟨rfl, hc⟩ := hfr
    exact run_head34 b o x.qn x.qc t ht hc w
/-- the rows when some of them were sent for the first time -/
theorem cut_q {W : World} {B : Nat} {x : WS} (h : RO W B x) (t : Nat) (ht : t ≤ x.qn) : ∃ qa qc, (∀ w, (Instr.sliceAt 34 (.slice x.qa x.qn x.qc) (some (.int .i64 (t : Int))) none none).run Try.prog w = .ok (.slice qa (x.qn - t) qc) w) ∧ RO W B { x with qa := qa, qn := x.qn - t, qc := qc, Rq := x.Rq.drop t } := by
  have hrow : rcs (x.Rq.drop t) = (rcs x.Rq).drop t := by unfold rcs; rw [List.map_drop]
  have hsr : RR W B (x.Rq.drop t) := fun r hr => h.qr r (List.mem_of_mem_drop hr)
  have hqo := h.qo
  unfold WS.qv at hqo
  cases hqa : x.qa with
  | none =>
    rw [hqa] at hqo
    rcases hqo.2 with ⟨h1, h2⟩ | ⟨g, o, cap, cur, h1, _⟩
    · have h0 : t = 0 := by omega
      subst h0
      have hqc : x.qc = 0 := by injection h1
      refine ⟨none, 0, fun w => by rw [h2, hqc]; exact run_cut34n w, ?_⟩
      have hR : x.Rq.drop 0 = x.Rq := List.drop_zero
      rw [hR, Nat.sub_zero]
      have e : ({ x with qa := none, qn := x.qn, qc := 0, Rq := x.Rq } : WS) = x := by
        obtain ⟨a1, a2, a3, a4, a5, a6, a7, a8, a9, a10, a11, a12, a13, a14, a15, a16, a17, a18, a19, a20, a21⟩ := x
        dsimp only at hqa hqc
        subst hqa hqc
        rfl
      rw [e]
      exact h
    · cases h1
  | some a =>
    rw [hqa] at hqo
    obtain ⟨b, o, fr⟩ := a
    have hfr : fr = none := by
      rcases hqo.2 with ⟨h1, _⟩ | ⟨g, o', cap, cur, h1, _⟩
      · cases h1
      · cases h1; rfl
    subst hfr
    refine ⟨some ⟨b, if x.qc = t then o else o + t, none⟩, x.qc - t, fun w => run_cut34 b o x.qn x.qc t ht w, ?_⟩
    have hd := hqo.drop t ht
    have hob : (Value.slice (some ⟨b, if x.qc = t then o else o + t, none⟩) (x.qn - t) (x.qc - t)).ownBlock = x.qv.ownBlock := by unfold WS.qv; rw [hqa]; rfl
    refine ⟨h.so, by rw [hrow]; exact hd, h.go, h.sr, hsr, h.gr, fun k hk e => h.sq k hk (by rw [← hob]; exact e), h.sg, fun k hk => h.qg k (by rw [← hob]; exact hk)⟩
structure MoF where
  sa : Option Addr
  sc : Nat
  Rs : List RB
  ga : Option Addr
  gc : Nat
  Rg : List RB
def moX (x : WS) (k : Nat) (f : MoF) : WS := { x with N := x.N + k, sa := f.sa, sn := x.sn + k, sc := f.sc, Rs := f.Rs, ga := f.ga, gn := x.gn + k, gc := f.gc, Rg := f.Rg }
structure MoC (x : WS) (b k : Nat) (f : MoF) : Prop where
  s : conts f.Rs = ones (List.range' b (x.sn + k))
  g : conts f.Rg = conts x.Rg ++ cmds (List.range' x.N k)
def MoI (W0 : World) (X B b n : Nat) (x : WS) (y : Nat → Value) (W : World) : Prop :=
  ∃ (k : Nat) (f : MoF), k ≤ n ∧ y 0 = .pointer (some ⟨X, 0, none⟩) ∧ y 2 = .int .i64 (n : Int) ∧ y 30 = .slice x.qa n x.qc ∧ y 31 = .int .i64 (n : Int) ∧ y 32 = .int .i64 (k : Int) ∧
    XM W X B (moX x k f) ∧ MoC x b k f ∧ Below B W0 W
theorem RO.numS {W : World} {B : Nat} {x x' : WS} (h : RO W B x) (e1 : x'.sv = x.sv) (e2 : x'.qv = x.qv) (e3 : x'.gv = x.gv) (e4 : x'.sn = x.sn) (e5 : x'.qn = x.qn) (e6 : x'.gn = x.gn) (e7 : x'.Rs = x.Rs) (e8 : x'.Rq = x.Rq) (e9 : x'.Rg = x.Rg) : RO W B x' :=
  ⟨by rw [e1, e4, e7]; exact h.so, by rw [e2, e5, e8]; exact h.qo, by rw [e3, e6, e9]; exact h.go, by rw [e7]; exact h.sr, by rw [e8]; exact h.qr, by rw [e9]; exact h.gr, by rw [e1, e2]; exact h.sq, by rw [e1, e3]; exact h.sg, by rw [e2, e3]; exact h.qg⟩
set_option maxRecDepth 1000000 in
set_option maxHeartbeats 8000000 in
theorem more_l (X B b n : Nat) (x : WS) (hB : B ≤ X) (hN : x.N + n ≤ 100) (hb : x.N = b + x.sn) (hgn : x.gn ≤ 50000) (hn : n ≤ x.qn) (hR : conts x.Rs = ones (List.range' b x.sn)) (hRq : conts x.Rq = ones (List.range' x.N x.qn)) :
    Tri Try.prog 80 (pieceOf Try.f38 [1, 0]) (fun y w => y 0 = .pointer (some ⟨X, 0, none⟩) ∧ y 2 = .int .i64 (n : Int) ∧ XM w X B x)
      (fun y w y' w' => y' 0 = .pointer (some ⟨X, 0, none⟩) ∧ y' 2 = .int .i64 (n : Int) ∧ Below B w w' ∧ ∃ f, XM w' X B (moX x n f) ∧ MoC x b n f) := by
  rintro Q y w ⟨s0, s2, hM⟩ hQ
  obtain ⟨i0, hi0, hz0, hz1, hz2⟩ := info_parts Try.info31
  have HQ := hid hQ
  have HM := hid hM
  have HR := hid hR
  have HRq := hid hRq
  have Hb := hid hb
  have Hn := hid hn
  have hcut := head_q hM.ro n hn
  have x4 : w.cell? ⟨X, 4, none⟩ = some (.slice x.qa x.qn x.qc) := by rw [cell_of_row _ _ _ _ _ _ hM.bx]; rfl
  have hsb : x.N ≤ 100 ∧ n ≤ 100 ∧ x.sn ≤ 100 ∧ b ≤ 100 := by omega
  clear hQ hM hR hb hRq hn
  conv => arg 2; whnf
  refine wp_seq_k (fun K0 hK0 => ?_)
  rw [fr80]
  simp only [s0, s2]
  clear s0 s2
  go_wp2_with fail
  refine hK0.out _ _ ?_
  clear x4 hcut
  refine wp_block ?_
  refine wp_loop_fr 80 (MoI w X B b n x) (fun y' _ => n - (intOf (y' 32)).toNat) ⟨rfl, rfl, 0, ⟨x.sa, x.sc, x.Rs, x.ga, x.gc, x.Rg⟩, Nat.zero_le _, rfl, rfl, rfl, rfl, rfl, HM.out, ⟨HR.out, (by show _ = conts x.Rg ++ []; rw [List.append_nil])⟩, Below.refl _ _⟩ ?_
  clear HM
  rintro z W ⟨k, f, hk, s0, s2, s30, s31, s32, hM, hco, hbl⟩
  have HM := hid hM
  have HCo := hid hco
  have HB := hid hbl
  clear hM hco hbl
  rw [fr80]
  simp only [s0, s2, s30, s31, s32]
  clear s0 s2 s30 s31 s32
  by_cases hlt : k < n
  · have d1 : decide ((k : Int) < (n : Int)) = true := decide_eq_true (by omega)
    have hkI : (k : Int) < (n : Int) := by omega
    have hqp := HM.out.ro.qp
    obtain ⟨g, o, hqa, hgl, r, hr1, hr2, hr3, hr4⟩ := pk_at hqp k (by show k < x.qn; exact Nat.lt_of_lt_of_le hlt Hn.out)
    have hqa' : x.qa = some ⟨g, o, none⟩ := hqa
    have hr1' : x.Rq[k]? = some r := hr1
    have hr5 := ones_at HRq.out (Nat.lt_of_lt_of_le hlt Hn.out) hr1'
    obtain ⟨⟨ra, rn, rc⟩, bs⟩ := r
    dsimp only at hr3 hr4 hr5
    subst hr5
    have hrn : rn = 1 := by have := hr4.rd.len; rw [vb_len] at this; exact this.symm
    subst hrn
    have Hr4 := hid hr4
    have Hqa := hid hqa'
    rw [hqa']
    obtain ⟨d, hd⟩ : ∃ d, d = x.N + k := ⟨_, rfl⟩
    rw [← hd] at Hr4
    have hd100 : d + 1 ≤ 100 := by omega
    have Hd := hid hd
    have hr2' : ((ra, 1, rc), [x.N + k]) ∈ x.Rq := hr2
    rw [← hd] at hr2'
    have Hr2 := hid hr2'
    clear hqp hr1 hr1' hr2 hr2' hr4 hqa hqa' hd
    go_upto_block 1 with (fail)
    refine wp_block ?_
    refine wp_seq_k (fun K1 hK1 => ?_)
    go_wp2_with fail
    refine hK1.out _ _ ?_
    clear hr3
    have x1 : W.cell? ⟨X, 1, none⟩ = some (.int .i64 (d : Int)) := by rw [cell_of_row _ _ _ _ _ _ HM.out.bx, Hd.out]; rfl
    have hsnd := hid (snd_ok X B (moX x k f) d ra rc W HM.out Hr4.out (by omega) (by show x.gn + k ≤ _; omega) hB)
    refine wp_seq_k (fun K3 hK3 => ?_)
    go_wp2_with fail
    refine hsnd.out.mono ?_
    rintro e V ⟨⟨ga2, gc2, ea, ec, rfl, hM3⟩, hb3⟩
    obtain ⟨x2, hx2⟩ : ∃ x2 : WS, x2 = { moX x k f with ga := ga2, gn := (moX x k f).gn + 1, gc := gc2, Rg := (moX x k f).Rg ++ [((ea, 8, ec), cmdB d)] } := ⟨_, rfl⟩
    rw [← hx2] at hM3
    have hs2 : x2.sn = x.sn + k := by subst hx2; rfl
    have hsn2 : x2.sn ≤ 1000 := by omega
    clear hs2
    have HX2 := hid hx2
    have HM3 := hid hM3
    have HB3 := hid (HB.out.trans hb3)
    have hq2 : x2.Rq = x.Rq := by rw [HX2.out]; rfl
    have hp5 := hM3.ro.qr ((ra, 1, rc), [d]) (by rw [hq2]; exact Hr2.out)
    have Hr5 : Hid (RdT 5 V ra 1 rc (vb [d])) := hp5.1
    have HLo : Hid (Lo B ((ra, 1, rc), [d])) := hp5.2
    clear hp5
    clear hq2 Hr2 hx2 hM3 hb3 hsnd HM HB Hr4 x1
    go_wp2_with fail
    refine hK3.out _ _ ?_
    have x3 : V.cell? ⟨X, 3, none⟩ = some (.slice x2.sa x2.sn x2.sc) := by rw [cell_of_row _ _ _ _ _ _ HM3.out.bx]; rfl
    have bN := below_alloc V (.cells #[.slice ra 1 rc] 31)
    have H4 := hid (HM3.out.below bN)
    have B4 := hid (HB3.out.trans (bN.mono (Nat.le_trans hB (Nat.le_of_lt (row_lt HM3.out.bx)))))
    have hr6 := hid (Hr5.out.below bN)
    have hy : (V.alloc (.cells #[.slice ra 1 rc] 31)).cell? ⟨V.heap.size, 0, none⟩ = some (.slice ra 1 rc) := by rw [cell_of_row _ _ _ _ _ _ (heap_alloc_new V _)]; rfl
    have hB4 : B ≤ (V.alloc (.cells #[.slice ra 1 rc] 31)).heap.size := Nat.le_trans hB (Nat.le_of_lt (row_lt H4.out.bx))
    clear HM3 HB3 Hr5 bN
    refine wp_seq_k (fun K4 hK4 => ?_)
    go_wp2_with (at_builtin; refine hold ?_)
    unfold Hid
    refine wpList_append_at rfl _ _ 34 rfl B 31 i0 (.slice none 0 0) 24 Try.underlying34 hi0 hz0 hz1 hz2 rfl (.slice x2.sa x2.sn x2.sc) x2.sn (rcs x2.Rs) rfl H4.out.ro.so ⟨V.heap.size, 0, none⟩ (.slice ra 1 rc) rfl hy rfl (by unfold maxLen; omega) (by omega) hB4 ?_
    intro v' V5 o5 g5 hw5
    obtain ⟨va, vc, rfl, _, _⟩ := o5.form
    have h5 := H4.out.ro.appS (r := ((ra, 1, rc), [d])) o5 g5 hw5 ⟨hr6.out, HLo.out⟩
    have hX5 : V5.heap[X]? = some (.cells x2.cells 63) := (g5.block X (row_lt H4.out.bx) (fun e => at_type H4.out.ro.so (T' := 63) (by decide) X _ H4.out.bx e.symm)).trans H4.out.bx
    have HK5 : Hid (∀ p ∈ x2.ks, V5.heap[p.1]? = some (.cells p.2 25)) := fun p hp => (g5.block p.1 (row_lt (H4.out.sp p hp)) (fun e => at_type H4.out.ro.so (T' := 25) (by decide) p.1 _ (H4.out.sp p hp) e.symm)).trans (H4.out.sp p hp)
    have B5 := hid (B4.out.grown g5 hB4 (fun k hk => (H4.out.ro.so.lt k hk).1))
    have H5 := hid h5
    have HX5 := hid hX5
    clear o5 g5 hw5 h5 hX5 H4 B4 hr6 hy hB4 x3
    have x3 : V5.cell? ⟨X, 3, none⟩ = some (.slice x2.sa x2.sn x2.sc) := by rw [cell_of_row _ _ _ _ _ _ HX5.out]; rfl
    have fz := frozen_row HX5.out 3
    obtain ⟨s1, s2⟩ := set_row (cs' := WS.cells { x2 with sa := va, sn := x2.sn + 1, sc := vc, Rs := x2.Rs ++ [((ra, 1, rc), [d])] }) HX5.out 3 (.slice va (x2.sn + 1) vc) rfl
    have H6 : Hid (XM (V5.setCell ⟨X, 3, none⟩ (.slice va (x2.sn + 1) vc)) X B { x2 with sa := va, sn := x2.sn + 1, sc := vc, Rs := x2.Rs ++ [((ra, 1, rc), [d])] }) := ⟨s1, H5.out.other s2 HX5.out (by decide) (by decide), fun p hp => row_grown (HK5.out p hp) s2 (ne_tt (HK5.out p hp) HX5.out (by decide))⟩
    have B6 := hid (B5.out.grown s2 (Nat.le_trans hB (Nat.le_of_lt (row_lt HX5.out))) (fun k e => by cases e; exact hB))
    clear s1 s2
    go_wp2_with fail
    refine hK4.out _ _ ?_
    clear x3 fz H5 HX5 B5
    generalize V5.setCell ⟨X, 3, none⟩ (.slice va (x2.sn + 1) vc) = V6 at *
    have hN2 : x2.N = d := by rw [HX2.out, Hd.out]; rfl
    have x1 : V6.cell? ⟨X, 1, none⟩ = some (.int .i64 (d : Int)) := by rw [cell_of_row _ _ _ _ _ _ H6.out.bx, ← hN2]; rfl
    have fz := frozen_row H6.out.bx 1
    have a1 : IntKind.i64.wrap ((d : Int) + 1) = (d : Int) + 1 := IntWalk.i64_in _ (by omega)
    have a2 := and255h (d + 1) (by omega)
    rw [Nat.mod_eq_of_lt (by omega)] at a2
    have a3 : (d : Int) + 1 = ((d + 1 : Nat) : Int) := by omega
    rw [← a3] at a2
    obtain ⟨s1, s2⟩ := H6.out.num 1 (.int .i64 ((d : Int) + 1)) { x2 with N := d + 1, sa := va, sn := x2.sn + 1, sc := vc, Rs := x2.Rs ++ [((ra, 1, rc), [d])] } (by rw [a3]; rfl) rfl rfl rfl rfl rfl rfl rfl rfl rfl
    have B7 := hid (B6.out.grown s2 (Nat.le_trans hB (Nat.le_of_lt (row_lt H6.out.bx))) (fun k e => by cases e; exact hB))
    have H7 : Hid (XM (V6.setCell ⟨X, 1, none⟩ (.int .i64 ((d : Int) + 1))) X B (moX x (k + 1) ⟨va, vc, f.Rs ++ [((ra, 1, rc), [d])], ga2, gc2, f.Rg ++ [((ea, 8, ec), cmdB d)]⟩)) := by
      have e : ({ x2 with N := d + 1, sa := va, sn := x2.sn + 1, sc := vc, Rs := x2.Rs ++ [((ra, 1, rc), [d])] } : WS) = moX x (k + 1) ⟨va, vc, f.Rs ++ [((ra, 1, rc), [d])], ga2, gc2, f.Rg ++ [((ea, 8, ec), cmdB d)]⟩ := by
        rw [HX2.out, Hd.out]
        rfl
      rw [← e]
      exact s1
    have HCo2 : Hid (MoC x b (k + 1) ⟨va, vc, f.Rs ++ [((ra, 1, rc), [d])], ga2, gc2, f.Rg ++ [((ea, 8, ec), cmdB d)]⟩) := by
      refine ⟨?_, ?_⟩
      · show conts (f.Rs ++ _) = _
        rw [conts_append, HCo.out.s, ← Nat.add_assoc, ones_snoc]
        have e : b + (x.sn + k) = d := by rw [Hd.out, Hb.out]; omega
        rw [e]
        rfl
      · show conts (f.Rg ++ _) = _
        rw [conts_append, HCo.out.g, cmds_snoc, ← Hd.out, List.append_assoc]
        rfl
    clear s1 s2 B6 a3
    go_wp2_with fail
    refine ⟨rfl, rfl, ⟨k + 1, _, by omega, rfl, rfl, ?_, ?_, ?_, H7.out, HCo2.out, B7.out⟩, ?_⟩
    · rw [Hqa.out]; rfl
    · rfl
    · show Value.int .i64 _ = Value.int .i64 _
      go_num
    · show n - (intOf (Value.int .i64 _)).toNat < _
      simp [intOf]
      omega
  · obtain rfl : k = n := by omega
    have d1 : decide ((k : Int) < (k : Int)) = false := decide_eq_false (by omega)
    go_wp2_with fail
    exact q_fr (N := 80) HQ.out rfl ⟨rfl, rfl, HB.out, f, HM.out, HCo.out⟩
end Go.Proofs.Ytkngoomkmbkenaa
/- What is new is sent: more. -/
namespace Go.Proofs.Ytkngoomkmbkenaa
set_option linter.unusedVariables false
open Go.RowKit

structure MorR (W0 W : World) (X B b n : Nat) (x : WS) (e : Ending) : Prop where
  he : e = .returned (.tuple #[])
  ex : ∃ f qa qc, XM W X B { moX x n f with qa := qa, qn := x.qn - n, qc := qc, Rq := x.Rq.drop n } ∧ MoC x b n f
  blw : Below B W0 W
set_option maxRecDepth 1000000 in
set_option maxHeartbeats 8000000 in
theorem more_ok (X B b n : Nat) (x : WS) (w : World) (h : XM w X B x) (hB : B ≤ X) (hn : n = min (x.ah - x.sn) x.qn) (hN : x.N + n ≤ 100) (hah : x.ah ≤ 100) (hsn : x.sn ≤ x.ah) (hqn : x.qn ≤ 100) (hb : x.N = b + x.sn) (hgn : x.gn ≤ 50000) (hR : conts x.Rs = ones (List.range' b x.sn)) (hRq : conts x.Rq = ones (List.range' x.N x.qn)) :
    Calls Try.prog 38 #[.pointer (some ⟨X, 0, none⟩)] w fun e w' => MorR w w' X B b n x e := by
  have HX := hid h
  have HlB := hid (show B ≤ w.heap.size from Nat.le_trans hB (Nat.le_of_lt (row_lt h.bx)))
  have hnq : n ≤ x.qn := by rw [hn]; exact Nat.min_le_right _ _
  have hloop := hid (more_l X B b n x hB hN hb hgn hnq hR hRq)
  have a2 : IntKind.i64.wrap ((x.ah : Int) - (x.sn : Int)) = (x.ah : Int) - (x.sn : Int) := IntWalk.i64_in _ (by omega)
  have a1 : (if (x.qn : Int) < (x.ah : Int) - (x.sn : Int) then (x.qn : Int) else (x.ah : Int) - (x.sn : Int)) = (n : Int) := by split <;> omega
  clear h hR hRq hb hn
  go_enter Try.func38, Try.ntmps38
  refine wp_seq_k (fun K0 hK0 => ?_)
  refine wp_region_can_all [] [0, 1, 2, 3, 4, 5, 6, 7, 8, 9, 10, 11, 12, 13, 14, 15, 16, 17, 18, 19] (fun u u' => u' = u) (fun u => rfl) (fun _ _ _ h k => k.trans h) (by kernel_rfl) (by kernel_rfl) ?_
  simp only [List.map_cons, List.map_nil, List.contains_nil, List.getD_cons_zero, List.getD_cons_succ]
  have H2 := hid (HX.out.below ((Below.refl _ w).drew))
  have B2 := hid ((Below.refl B w).drew)
  clear HX
  generalize w.drew = U at *
  have x2 : ∀ w', w' = U → w'.cell? ⟨X, 2, none⟩ = some (.int .i64 (x.ah : Int)) := fun w' h => by rw [h, cell_of_row _ _ _ _ _ _ H2.out.bx]; rfl
  have x3 : ∀ w', w' = U → w'.cell? ⟨X, 3, none⟩ = some (.slice x.sa x.sn x.sc) := fun w' h => by rw [h, cell_of_row _ _ _ _ _ _ H2.out.bx]; rfl
  have x4 : ∀ w', w' = U → w'.cell? ⟨X, 4, none⟩ = some (.slice x.qa x.qn x.qc) := fun w' h => by rw [h, cell_of_row _ _ _ _ _ _ H2.out.bx]; rfl
  iterate 20 (refine wpL_do rfl (fun w' hw' => (by go_simp; rfl)) ?_; simp only [Act.put, List.setIfInBounds_toArray, List.set_cons_succ, List.set_cons_zero])
  refine wpL_nil ?_
  refine hK0.out _ _ ?_
  clear x2 x3 x4 a1 a2
  refine wp_seq_k (fun K1 hK1 => ?_)
  refine use_fr (N := 80) rfl ?_
  refine Tri.use hloop.out rfl ⟨rfl, rfl, H2.out⟩ ?_
  rintro y4 W4 ⟨s0, s2, hb4, f, hM4, hc4⟩
  refine hK1.out _ _ ?_
  have HM4 := hid hM4
  have HC4 := hid hc4
  have B5 := hid (B2.out.trans hb4)
  clear hM4 hc4 hb4 hloop
  rw [fr80]
  simp only [s0, s2]
  clear s0 s2
  obtain ⟨qa, qc, hcut, hro⟩ := cut_q HM4.out.ro n hnq
  have x4 : W4.cell? ⟨X, 4, none⟩ = some (.slice x.qa x.qn x.qc) := by rw [cell_of_row _ _ _ _ _ _ HM4.out.bx]; rfl
  have hcut2 : ∀ w, (Instr.sliceAt 34 (.slice x.qa x.qn x.qc) (some (.int .i64 (n : Int))) none none).run Try.prog w = .ok (.slice qa (x.qn - n) qc) w := hcut
  have fz := frozen_row HM4.out.bx 4
  obtain ⟨s1, s2⟩ := set_row (cs' := WS.cells { moX x n f with qa := qa, qn := x.qn - n, qc := qc, Rq := x.Rq.drop n }) HM4.out.bx 4 (.slice qa (x.qn - n) qc) rfl
  have H3 := hid (HM4.out.set s2 s1 hro)
  have B6 := hid (B5.out.grown s2 (Nat.le_trans HlB.out B5.out.size) (fun k e => by cases e; exact hB))
  clear s1 s2 hro hcut
  go_wp2_with fail
  go_end0
  exact ⟨rfl, ⟨f, qa, qc, H3.out, HC4.out⟩, B6.out⟩
end Go.Proofs.Ytkngoomkmbkenaa
/- A status is read. -/
namespace Go.Proofs.Ytkngoomkmbkenaa
set_option linter.unusedVariables false
open Go.RowKit

/-- a status, as sent -/
def stV (dr : Nat) (wa ag : Bool) : Nat := 16777216 + dr + (if wa then 4096 else 0) + (if ag then 2048 else 0)
theorem stV_bits : ∀ dr, dr < 101 → ∀ wa ag : Bool, stV dr wa ag &&& 255 = dr ∧ (stV dr wa ag >>> 9) &&& 3 = 0 ∧ (stV dr wa ag &&& 8192) = 0 ∧ (stV dr wa ag &&& 4096) = (if wa then 4096 else 0) ∧ (stV dr wa ag &&& 2048) = (if ag then 2048 else 0) ∧ stV dr wa ag / 512 % 4 = 0 ∧ stV dr wa ag ≤ 4294967295 := by decide +kernel
theorem stV_not : ∀ dr, dr < 101 → ∀ wa ag : Bool, bits .andNot .i64 (stV dr wa ag : Int) 16127 = 16777216 := by decide +kernel
def stG (dr : Nat) (wa ag : Bool) : Value := .agg #[.int .i64 0, .int .i64 (dr : Int), .int .i64 0, .bool false, .bool wa, .bool ag, .int .i64 0]
set_option maxRecDepth 1000000 in
set_option maxHeartbeats 4000000 in
theorem read_st (dr : Nat) (wa ag : Bool) (h : dr ≤ 100) (w : World) :
    Calls Try.prog 35 #[.int .i64 (stV dr wa ag : Int)] w fun e w' => e = .returned (.tuple #[stG dr wa ag, .int .i64 0]) ∧ Below w.heap.size w w' := by
  obtain ⟨b1, b2, b3, b4, b5, b6, b7⟩ := stV_bits dr (by omega) wa ag
  have c1 : bits .and .i64 (stV dr wa ag : Int) 255 = (dr : Int) := (i64_and_nat (stV dr wa ag) 255 (by omega) (by decide)).trans (congrArg _ b1)
  have c3 : bits .and .i64 (stV dr wa ag : Int) 8192 = 0 := (i64_and_nat (stV dr wa ag) 8192 (by omega) (by decide)).trans (congrArg _ b3)
  have c4 : bits .and .i64 (stV dr wa ag : Int) 4096 = ((if wa then 4096 else 0 : Nat) : Int) := (i64_and_nat (stV dr wa ag) 4096 (by omega) (by decide)).trans (congrArg _ b4)
  have c5 : bits .and .i64 (stV dr wa ag : Int) 2048 = ((if ag then 2048 else 0 : Nat) : Int) := (i64_and_nat (stV dr wa ag) 2048 (by omega) (by decide)).trans (congrArg _ b5)
  have c6 : bits .and .i64 ((stV dr wa ag : Int) / 512) 3 = 0 := by rw [and3]; omega
  have c2 := stV_not dr (by omega) wa ag
  generalize hv : stV dr wa ag = v at *
  have Hv := hid hv
  clear hv
  have A := hid (heap_alloc_new w (.cells #[.int .i64 0, .int .i64 (dr : Int), .int .i64 0, .bool false, .bool wa, .bool ag, .int .i64 0] 25))
  have BA := hid (below_alloc w (.cells #[.int .i64 0, .int .i64 (dr : Int), .int .i64 0, .bool false, .bool wa, .bool ag, .int .i64 0] 25))
  have hb : (((if wa then 4096 else 0 : Nat) : Int) != 0) = wa ∧ (((if ag then 2048 else 0 : Nat) : Int) != 0) = ag := by cases wa <;> cases ag <;> exact ⟨rfl, rfl⟩
  obtain ⟨e4, e5⟩ := hb
  generalize ((if wa then 4096 else 0 : Nat) : Int) = v4 at *
  generalize ((if ag then 2048 else 0 : Nat) : Int) = v5 at *
  clear b1 b2 b3 b4 b5 b6
  go_enter Try.func35, Try.ntmps35
  refine wp_seq_k (fun K0 hK0 => ?_)
  go_wp2_with fail
  refine hK0.out _ _ ?_
  refine wp_seq_k (fun K1 hK1 => ?_)
  go_wp2_with (go_at_call 12; refine (in_yes _ _ _ _ (by omega)).mono ?_; rintro e w' ⟨rfl, hw'⟩; rw [← hw']; clear hw' w')
  refine hK1.out _ _ ?_
  go_wp2_with fail
  generalize w.alloc (.cells #[.int .i64 0, .int .i64 (dr : Int), .int .i64 0, .bool false, .bool wa, .bool ag, .int .i64 0] 25) = V at *
  obtain ⟨_, g0, g1, g2, g3, g4, g5, g6⟩ := gtAt_row (g := ⟨0, (dr : Int), 0, false, wa, ag, 0⟩) A.out
  refine bodyPost_ret (by simp only [results, Try.results35, go_sem]; simp [go_sem, g0, g1, g2, g3, g4, g5, g6]; rfl) rfl ?_
  exact ⟨rfl, BA.out⟩
set_option maxRecDepth 1000000 in
set_option maxHeartbeats 4000000 in
theorem read_0 (w : World) :
    Calls Try.prog 35 #[.int .i64 0] w fun e w' => e = .returned (.tuple #[stG 0 false false, .int .i64 8]) ∧ Below w.heap.size w w' := by
  go_enter Try.func35, Try.ntmps35
  refine wp_seq_k (fun K0 hK0 => ?_)
  go_wp2_with fail
  refine hK0.out _ _ ?_
  have bN := hid (below_alloc w (.cells #[.int .i64 0, .int .i64 0, .int .i64 0, .bool false, .bool false, .bool false, .int .i64 0] 25))
  have A := hid (heap_alloc_new w (.cells #[.int .i64 0, .int .i64 0, .int .i64 0, .bool false, .bool false, .bool false, .int .i64 0] 25))
  refine wp_seq_k (fun K1 hK1 => ?_)
  go_wp2_with (go_at_call 12; refine (in_yes _ _ _ _ (by omega)).mono ?_; rintro e w' ⟨rfl, hw'⟩; rw [← hw']; clear hw' w')
  generalize w.alloc (.cells #[.int .i64 0, .int .i64 0, .int .i64 0, .bool false, .bool false, .bool false, .int .i64 0] 25) = V at *
  obtain ⟨_, g0, g1, g2, g3, g4, g5, g6⟩ := gtAt_row (g := ⟨0, 0, 0, false, false, false, 0⟩) A.out
  refine bodyPost_ret (by simp only [results, Try.results35, go_sem]; simp [go_sem, g0, g1, g2, g3, g4, g5, g6]; rfl) rfl ?_
  exact ⟨rfl, bN.out⟩
end Go.Proofs.Ytkngoomkmbkenaa
