/- GuardLatches: a tick of the law. -/
import Derived.Test.YtkgnelmnadnbhaaLawR
namespace Go.Proofs.Ytkgnelmnadnbhaa
set_option linter.unusedVariables false
open Go.RowKit

theorem nextN_len (sil most win : Nat) (nam : ByteArray) (ms : List Mon) (vals : List Int) (heard leave : Bool) (n : Nat) (safe : Bool) (why : Int) (bad : List Nat) (trp : List Bool) (quiet : Nat) (trips : List Nat) :
    (nextN sil most win nam ms vals heard leave n safe why bad trp quiet trips).length ≤ 1 + n := by
  unfold nextN
  have h1 := (stepS_same sil most ms heard leave (lookTo ms vals (St.mk safe why bad trp (ageQ sil quiet heard) (ageT win trips) []) n)).1
  have h2 := (lookTo_len ms vals (St.mk safe why bad trp (ageQ sil quiet heard) (ageT win trips) []) n).2.2.2
  have h3 := stepN_len sil most ms nam (lookTo ms vals (St.mk safe why bad trp (ageQ sil quiet heard) (ageT win trips) []) n)
  have h4 : (nextS sil most win ms vals heard leave n safe why bad trp quiet trips).now = (lookTo ms vals (St.mk safe why bad trp (ageQ sil quiet heard) (ageT win trips) []) n).now := h1
  refine Nat.le_trans (saysTo_len ..) ?_
  rw [h4]
  have h5 : ([] : List Nat).length = 0 := rfl
  have h6 : (lookTo ms vals (St.mk safe why bad trp (ageQ sil quiet heard) (ageT win trips) []) n).now.length ≤ 0 + n := h2
  omega
/-- between two ticks: memory and numbers -/
structure LI (C : Cx) (V i : Nat) (lv tv : Value) (s : St) (v : Vs) (long : List Nat) (quiet : Nat) (trips : List Nat) (W : World) : Prop where
  mi : MI C W lv long tv trips
  va : VA W C.w0.heap.size C.n V s v lv tv
  jg : JG C.ms C.n C.sil C.win i s long quiet trips
  q : quiet ≤ i
def LawI (C : Cx) (V i : Nat) (lv : Value) (y : Nat → Value) (W : World) : Prop := ∃ tv s v long quiet trips, SL C y V lv tv quiet i ∧ LI C V i lv tv s v long quiet trips W
set_option maxRecDepth 1000000 in
set_option maxHeartbeats 1000000 in
theorem law_28 (C : Cx) (hC : C.Ok) (V N vb i quiet : Nat) (lv tv nv : Value) (W0 : World) (hi : i < C.nL) (hb : Below C.w0.heap.size C.w0 W0) :
    Tri Try.prog 332 (pieceOf Try.f3 [1, 1, 1, 1, 1, 1, 1, 1, 1, 1, 1, 0, 1, 0, 0, 1, 0, 0, 1, 1, 1, 1, 1, 0]) (fun y w => SL C y V lv tv (quiet + 1) i ∧ y 20 = .slice (some ⟨vb, 0, none⟩) 3 3 ∧ y 22 = .pointer (some ⟨N, 0, none⟩) ∧ y 23 = nv ∧ w = W0)
      (fun _ _ y w => SL C y V lv tv (quiet1 (C.lk i).heard quiet) i ∧ y 20 = .slice (some ⟨vb, 0, none⟩) 3 3 ∧ y 22 = .pointer (some ⟨N, 0, none⟩) ∧ y 23 = nv ∧ w = W0) := by
  rintro Q y w ⟨hS, h20, h22, h23, rfl⟩ hQ
  have HQ := hid hQ
  have hl := hC.lk.below hb
  obtain ⟨lb, lo, hla, hlb, hlc⟩ := hl.mem (by omega)
  obtain ⟨_, c1, _⟩ := hlc i hi
  obtain ⟨s4, s11, s13, s15, s16, s17, s18, s19⟩ := hS
  rw [hla] at s4
  have Hla := hid hla
  have hiL : i < 300 := Nat.lt_of_lt_of_le hi hC.n300
  have Hq1 : Hid (quiet1 (C.lk i).heard quiet = if (C.lk i).heard = true then 0 else quiet + 1) := rfl
  generalize quiet1 (C.lk i).heard quiet = q1 at *
  generalize (C.lk i).heard = b2 at *
  clear hQ hlc hla hl
  conv => arg 2; whnf
  rw [fr332]
  simp only [s4, s11, s13, s15, s16, s17, s18, s19, h20, h22, h23]
  clear s4 s11 s13 s15 s16 s17 s18 s19 h20 h22 h23
  cases b2 with
  | false =>
    rw [if_neg (by decide)] at Hq1
    go_wp2_with fail
    refine q_fr (N := 332) HQ.out rfl ⟨⟨by rw [Hla.out]; rfl, rfl, rfl, rfl, rfl, ?_, rfl, rfl⟩, rfl, rfl, rfl, rfl⟩
    rw [Hq1.out]; rfl
  | true =>
    rw [if_pos rfl] at Hq1
    go_wp2_with fail
    refine q_fr (N := 332) HQ.out rfl ⟨⟨by rw [Hla.out]; rfl, rfl, rfl, rfl, rfl, ?_, rfl, rfl⟩, rfl, rfl, rfl, rfl⟩
    rw [Hq1.out]; rfl
set_option maxRecDepth 1000000 in
set_option maxHeartbeats 2000000 in
theorem law_round (C : Cx) (hC : C.Ok) (V i : Nat) (lv : Value) (hi : i < C.nL) :
    Tri Try.prog 332 (pieceOf Try.f3 [1, 1, 1, 1, 1, 1, 1, 1, 1, 1, 1, 0, 1, 0, 0]) (LawI C V i lv) (fun _ _ y w => LawI C V (i + 1) lv y w) := by
  rintro Q y w ⟨tv, s, v, long, quiet, trips, hSL, hLI⟩ hQ
  have HQ := hid hQ
  have hiL : i < 300 := Nat.lt_of_lt_of_le hi hC.n300
  have hn1 := hC.gg.n1
  have hn9 := hC.gg.n2
  have hcL : C.cL ≤ maxLen := hC.lk.max
  have hlc : C.nL ≤ C.cL := hC.lk.le
  unfold maxLen at hcL
  have Htick := hid (jg_tick C.ms C.n C.sil C.most C.win i C.nam (valsOf (C.lk i).zs) (C.lk i).heard (C.lk i).leave s long quiet trips hC.len (fun k hk => (hC.gm k (by rw [hC.len]; exact hk)).f1) hC.gg.w1 hC.gg.m2 hC.gg.m1 hC.nm hC.ne (fun h => hC.ne h) hLI.jg)
  have Hnl := hid (nextN_len C.sil C.most C.win C.nam C.ms (valsOf (C.lk i).zs) (C.lk i).heard (C.lk i).leave C.n s.safe s.why s.bad s.trp s.quiet s.trips)
  have Hstd := hid (hLI.jg.std hC.len (fun k hk => (hC.gm k (by rw [hC.len]; exact hk)).f1))
  have HJ := hid hLI.jg
  have hqi := hLI.q
  have HM := hid hLI.mi
  have HV := hid hLI.va
  clear hQ hLI
  have hQ : True := trivial
  conv => arg 2; whnf
  obtain ⟨s4, s11, s13, s15, s16, s17, s18, s19⟩ := hSL
  rw [fr332]
  simp only [s4, s11, s13, s15, s16, s17, s18, s19]
  clear s4 s11 s13 s15 s16 s17 s18 s19
  refine wp_seq_k (fun K1 hK1 => ?_)
  go_wp2_with fail
  refine hK1.out _ _ ?_
  refine wp_seq_k (fun K2 hK2 => ?_)
  refine wp_block ?_
  refine wp_seq_k (fun K3 hK3 => ?_)
  have b20 := below_alloc w (.cells #[.int .i64 5, .int .i64 5, .int .i64 5] 3)
  have r20 := heap_alloc_new w (.cells #[.int .i64 5, .int .i64 5, .int .i64 5] 3)
  have HM20 := hid (HM.out.below b20)
  have HV20 := hid (HV.out.below b20)
  obtain ⟨vb, hvb⟩ : ∃ vb, vb = w.heap.size := ⟨_, rfl⟩
  have Hvb := hid hvb
  rw [← hvb] at r20
  have R20 := hid r20
  have B1 := hid b20
  clear b20 r20 hvb
  go_wp2_with fail
  rw [← Hvb.out]
  refine hK3.out _ _ ?_
  generalize w.alloc (.cells #[.int .i64 5, .int .i64 5, .int .i64 5] 3) = W1 at *
  refine wp_seq_k (fun K4 hK4 => ?_)
  refine wp_seq_k (fun K5 hK5 => ?_)
  go_wp2_with fail
  refine hK5.out _ _ ?_
  refine Tri.use (law_vals C hC V quiet i vb lv tv hi W1 R20.out (by have := HM.out.blw.size; have := Hvb.out; omega) HM20.out.blw) rfl ⟨⟨rfl, rfl, rfl, rfl, rfl, rfl, rfl, rfl⟩, rfl, rfl, rfl⟩ ?_
  rintro y2 W2 ⟨hS2, h20, r2, g2⟩
  refine hK4.out _ _ ?_
  have hne : ∀ u : Value, ∀ m xs, OwnAt w C.w0.heap.size 3 u m xs → u.ownBlock ≠ some vb := fun u m xs h e => by
    have := (h.lt vb e).2
    have := Hvb.out
    omega
  have hb2 : Below w.heap.size w W2 := B1.out.grown g2 B1.out.size (fun k e => by cases e; rw [Hvb.out]; exact Nat.le_refl _)
  have HM2 := HM.out.below hb2
  have HV2 := HV.out.below hb2
  refine wp_seq (law_step C hC V quiet i vb lv tv long trips s v (valsOf (C.lk i).zs) rfl hi Hstd.out _ y2 W2 ⟨hS2, h20, HM2, HV2, r2, hne _ _ _ HM.out.lo, hne _ _ _ HM.out.tr⟩ ?_)
  rintro y3 W3 ⟨⟨s4, s11, s13, s15, s16, s17, s18, s19⟩, s20, N, v', na, nc, s22, s23, s24, hA3⟩
  have Htk := Htick.out
  generalize hS' : nextS C.sil C.most C.win C.ms (valsOf (C.lk i).zs) (C.lk i).heard (C.lk i).leave C.n s.safe s.why s.bad s.trp s.quiet s.trips = s' at *
  generalize hN' : nextN C.sil C.most C.win C.nam C.ms (valsOf (C.lk i).zs) (C.lk i).heard (C.lk i).leave C.n s.safe s.why s.bad s.trp s.quiet s.trips = names at *
  clear hS' hN' Htick hS2 h20 r2 g2 HM2 HV2 hb2 hne HM20 HV20 R20
  have HA3 := hid hA3
  have HTk := hid Htk
  clear hA3 Htk
  rw [fr332]
  simp only [s4, s11, s13, s15, s16, s17, s18, s19, s20, s22, s23, s24]
  clear s4 s11 s13 s15 s16 s17 s18 s19 s20 s22 s23 s24
  refine wp_seq_k (fun K6 hK6 => ?_)
  go_wp2_with fail
  refine hK6.out _ _ ?_
  refine wp_seq_k (fun K7 hK7 => ?_)
  go_wp2_with fail
  refine hK7.out _ _ ?_
  refine wp_seq ?_
  refine Tri.use (law_28 C hC V N vb i quiet lv tv (.slice na names.length nc) W3 hi HA3.out.mi.blw) rfl ⟨⟨rfl, rfl, rfl, rfl, rfl, rfl, rfl, rfl⟩, rfl, rfl, rfl, rfl⟩ ?_
  rintro y4 W4 ⟨⟨s4, s11, s13, s15, s16, s17, s18, s19⟩, s20, s22, s23, rfl⟩
  show Code.wp _ _ _ _ _
  rw [fr332]
  simp only [s4, s11, s13, s15, s16, s17, s18, s19, s20, s22, s23]
  clear s4 s11 s13 s15 s16 s17 s18 s19 s20 s22 s23
  refine wp_seq_k (fun K8 hK8 => ?_)
  go_wp2_with fail
  refine hK8.out _ _ ?_
  refine wp_seq_k (fun K9 hK9 => ?_)
  refine wp_seq_k (fun K10 hK10 => ?_)
  go_wp2_with fail
  refine hK10.out _ _ ?_
  refine Tri.use (law_mons C hC V N vb lv tv (.slice na names.length nc) (quiet1 (C.lk i).heard quiet) i ⟨long, trips, -1, false⟩ s s' v v' names na nc (valsOf (C.lk i).zs) W4 hiL HJ.out.tmax HJ.out.lmax rfl HA3.out) rfl ⟨⟨⟨rfl, rfl, rfl, rfl, rfl, rfl, rfl, rfl⟩, rfl, rfl, rfl, rfl, rfl, rfl⟩, rfl⟩ ?_
  rintro y5 W5 ⟨tv5, ⟨⟨s4, s11, s13, s15, s16, s17, s18, s19⟩, s20, s22, s23, s25, s26, s27⟩, hA5⟩
  have HA5 := hid hA5
  clear hA5
  refine hK9.out _ _ ?_
  have hUt := HTk.out.utl
  have hUl : (lwTo C.ms (valsOf (C.lk i).zs) i ⟨long, trips, -1, false⟩ C.n).trips.length ≤ 3000 := by
    have : (i + 1) * C.n ≤ 300 * 9 := Nat.mul_le_mul (by omega) hn9
    omega
  generalize hU : lwTo C.ms (valsOf (C.lk i).zs) i ⟨long, trips, -1, false⟩ C.n = U at *
  clear hU
  rw [fr332]
  simp only [s4, s11, s13, s15, s16, s17, s18, s19, s20, s22, s23, s25, s26, s27]
  clear s4 s11 s13 s15 s16 s17 s18 s19 s20 s22 s23 s25 s26 s27
  refine wp_seq_k (fun K11 hK11 => ?_)
  go_wp2_with fail
  refine hK11.out _ _ ?_
  refine wp_seq_k (fun K12 hK12 => ?_)
  refine wp_seq_k (fun K13 hK13 => ?_)
  go_wp2_with fail
  refine hK13.out _ _ ?_
  refine Tri.use (law_cnt C hC V N vb lv tv5 (.slice na names.length nc) (quiet1 (C.lk i).heard quiet) i U.why U.wrong U.trips W5 hiL hUl HTk.out.ule HA5.out.mi.hg HA5.out.mi.tr) rfl ⟨⟨⟨rfl, rfl, rfl, rfl, rfl, rfl, rfl, rfl⟩, rfl, rfl, rfl, rfl, rfl, rfl⟩, rfl, rfl, rfl⟩ ?_
  rintro y6 W6 ⟨hS6, h30, hb6⟩
  refine hK12.out _ _ ?_
  have hA6 := HA5.out.below hb6
  have hcn := agesT_len C.win i U.trips
  have hq1 : quiet1 (C.lk i).heard quiet ≤ i + 1 := by unfold quiet1; split <;> omega
  refine law_tail C hC V N vb lv tv5 (.slice na names.length nc) (quiet1 (C.lk i).heard quiet) i (agesT C.win i U.trips).length U.why U.wrong s s' v v' names na nc W6 hi hA6.mi.blw (by omega) (by omega) hA6.mi.hg hA6.va.row hA6.vn.row rfl hA6.nm.rd (by have := Hnl.out; omega)
    HTk.out.stay HTk.out.free HTk.out.turn HTk.out.made _ y6 W6 ⟨hS6, h30, rfl⟩ ?_
  rintro y7 W7 ⟨⟨s4, s11, s13, s15, s16, s17, s18, s19⟩, h7, g7⟩
  refine hK2.out _ _ ?_
  have hNV : C.w0.heap.size ≤ V := hA6.va.bV
  have hM7 := hA6.mi.box hA6.va.row g7 hNV
  have hVn : VA W7 C.w0.heap.size C.n V s' v' lv tv5 :=
    ⟨h7, hNV, hA6.vn.b.kept g7 (hA6.vn.b.ne hA6.va.row (by decide)), hA6.vn.t.kept g7 (hA6.vn.t.ne hA6.va.row (by decide)), hA6.vn.p.kept g7 (hA6.vn.p.ne hA6.va.row (by decide)), hA6.vn.a1, hA6.vn.a2, hA6.vn.a3, hA6.vn.a4⟩
  have hjg := HTk.out.jg
  have hend : LI C V (i + 1) lv (if leavesL s.safe (C.lk i).leave (C.lk i).heard U.wrong = true then .slice none 0 0 else tv5) s' v' U.long (quiet1 (C.lk i).heard quiet) (if leavesL s.safe (C.lk i).leave (C.lk i).heard U.wrong = true then [] else U.trips) W7 := by
    by_cases hle : leavesL s.safe (C.lk i).leave (C.lk i).heard U.wrong = true
    · rw [if_pos hle] at hjg ⊢
      rw [if_pos hle]
      exact ⟨⟨hM7.blw, hM7.hg, hM7.rm, hM7.gr, hM7.lo, OwnAt.nil _ _ _, (fun k _ h2 => by cases h2)⟩, ⟨hVn.row, hVn.bV, hVn.b, hVn.t, hVn.p, hVn.a1, hVn.a2, (fun k h1 _ => by cases h1), (fun k h1 _ => by cases h1)⟩, hjg, hq1⟩
    · rw [if_neg hle] at hjg ⊢
      rw [if_neg hle]
      exact ⟨hM7, hVn, hjg, hq1⟩
  have HE := hid hend
  generalize (if leavesL s.safe (C.lk i).leave (C.lk i).heard U.wrong = true then [] else U.trips) = trips7 at *
  generalize (if leavesL s.safe (C.lk i).leave (C.lk i).heard U.wrong = true then Value.slice none 0 0 else tv5) = tv7 at *
  generalize quiet1 (C.lk i).heard quiet = q7 at *
  clear hM7 hVn hjg hend h7 g7 hS6 h30 hb6 hA6 hcn hUt hUl
  rw [fr332]
  simp only [s4, s11, s13, s15, s16, s17, s18, s19]
  clear s4 s11 s13 s15 s16 s17 s18 s19
  go_wp2_with fail
  refine q_fr (N := 332) HQ.out rfl ⟨tv7, s', v', U.long, q7, trips7, ⟨rfl, rfl, rfl, rfl, rfl, rfl, rfl, ?_⟩, HE.out⟩
  show Value.int .i64 _ = Value.int .i64 _
  go_num
end Go.Proofs.Ytkgnelmnadnbhaa
