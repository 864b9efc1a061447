/- FrameCarries: the jobs. -/
import Derived.Test.YtjiipmalahhcpaaCarries28
namespace Go.Proofs.Ytjiipmalahhcpaa
set_option linter.unusedVariables false
open Go.RowKit

theorem use_fr {P : Program} {N : Nat} {c : Code} {Q : Exit → Act → World → Prop} {t : Array Value} {w : World} (hs : t.size = N) (h : Code.wp P c Q ⟨fr N (fun i => t.getD i undef), []⟩ w) : Code.wp P c Q ⟨t, []⟩ w := by
  rw [fr_of hs]
  exact h
theorem in_block_exit {K : Act → World → Prop} {Q : Exit → Act → World → Prop} {id : Nat} {a : Act} {w : World} (h : K a w) : Exit.inBlock id (Exit.then K Q) (.exit id) a w := by
  unfold Exit.inBlock
  simp only [if_true]
  exact h
theorem then_block_exit {K1 K : Act → World → Prop} {Q : Exit → Act → World → Prop} {id : Nat} {a : Act} {w : World} (h : K a w) : Exit.then K1 (Exit.inBlock id (Exit.then K Q)) (.exit id) a w := in_block_exit h
/-- what is put bears no flags -/
def PutF (s : ST) : Prop := ∀ x ∈ s.put, x.2.up = false ∧ x.2.se = false ∧ x.2.pt = 3
structure LpC (W0 W : World) (y : Nat → Value) (ja : Option Addr) (jn jc n S X Y i : Nat) (k : Nat) : Prop where
  ex : ∃ s m, SC y ja jn jc n S X Y i s m ∧ CM W W0.heap.size S X Y n s m ∧ RelC s m ∧ CI (n - 12) jn k s ∧ PutF s
  blw : Below W0.heap.size W0 W
def LpI (W0 : World) (ja : Option Addr) (jn jc n S X Y : Nat) (y : Nat → Value) (W : World) : Prop :=
  ∃ i, i ≤ jn + 40 ∧ LpC W0 W y ja jn jc n S X Y i i
set_option maxRecDepth 1000000 in
set_option maxHeartbeats 16000000 in
theorem car_jobs (W0 : World) (ja : Option Addr) (jn jc n S X Y : Nat) (f : Nat → Job) (s0 : ST) (m0 : MA) (hJ : RdJ W0 ja jn jc f) (hjn : jn ≤ 200) (hn1 : 13 ≤ n) (hn2 : n ≤ 2048) (hBS : W0.heap.size ≤ S) (hBX : W0.heap.size ≤ X) (hBY : W0.heap.size ≤ Y) (hC0 : CI (n - 12) jn 0 s0) (hR0 : RelC s0 m0) (hP0 : PutF s0) (k0 : Nat) :
    Tri Try.prog 486 (pieceOf Try.f4 [1, 1, 1, 1, 1, 1, 1, 1, 1, 1, 1, 1, 0]) (fun y w => (∀ j, SC (fun q => if q = 18 then .int .i64 (j : Nat) else y q) ja jn jc n S X Y j s0 m0) ∧ CM w W0.heap.size S X Y n s0 m0 ∧ Below W0.heap.size W0 w)
      (fun y w y' w' => LpC W0 w' y' ja jn jc n S X Y (jn + 40) (jn + 40)) := by
  rintro Q y w ⟨hS, hM, hb⟩ hQ
  have HQ := hid hQ
  have HJ := hid hJ
  have HM := hid hM
  have HB := hid hb
  have HC0 := hid hC0
  have HR0 := hid hR0
  have HP0 := hid hP0
  have hj63 := hJ.max
  have hjl := hJ.le
  clear hQ hJ hM hb hC0 hR0 hP0
  obtain ⟨t1, t5, t6, t8, t10, t12, t13, t14, t15, t16, t17, _⟩ := hS 0
  simp only [Nat.reduceEqDiff, if_false] at t1 t5 t6 t8 t10 t12 t13 t14 t15 t16 t17
  clear hS
  conv => arg 2; whnf
  refine wp_seq_k (fun K0 hK0 => ?_)
  rw [fr486]
  simp only [t1, t5, t6, t8, t10, t12, t13, t14, t15, t16, t17]
  clear t1 t5 t6 t8 t10 t12 t13 t14 t15 t16 t17
  go_wp2_with fail
  refine hK0.out _ _ ?_
  refine wp_block ?_
  refine wp_loop_fr 486 (LpI W0 ja jn jc n S X Y) (fun y' _ => 300 - (intOf (y' 18)).toNat) ⟨rfl, rfl, 0, Nat.zero_le _, ⟨s0, m0, ⟨rfl, rfl, rfl, rfl, rfl, rfl, rfl, rfl, rfl, rfl, rfl, rfl⟩, HM.out, HR0.out, HC0.out, HP0.out⟩, HB.out⟩ ?_
  clear HM HB HC0 HR0 HP0
  rintro z W ⟨i, hi, ⟨s, m, ⟨s1, s5, s6, s8, s10, s12, s13, s14, s15, s16, s17, s18⟩, hM, hR, hC, hP⟩, hb⟩
  have HM := hid hM
  have HR := hid hR
  have HC := hid hC
  have HP := hid hP
  have HB := hid hb
  clear hM hR hC hP hb
  rw [fr486]
  simp only [s1, s5, s6, s8, s10, s12, s13, s14, s15, s16, s17, s18]
  clear s1 s5 s6 s8 s10 s12 s13 s14 s15 s16 s17 s18
  obtain ⟨je, hje⟩ : ∃ je, je = jn + 40 := ⟨_, rfl⟩
  have a1 : (jn : Int) + 40 = (je : Int) := by omega
  have a2 : IntKind.i64.wrap (je : Int) = (je : Int) := IntWalk.i64_in _ (by omega)
  have a3 : IntKind.i64.wrap ((jn : Int) + 40) = (je : Int) := by rw [a1]; exact a2
  have Hje := hid hje
  by_cases hlt : i < je
  · have d1 : decide ((i : Int) < (je : Int)) = true := decide_eq_true (by omega)
    have hi40 : i < jn + 40 := by omega
    have hi300 : i < 300 := by omega
    clear hje
    refine wp_seq_k (fun K9 hK9 => ?_)
    go_wp2_with fail
    refine hK9.out _ _ ?_
    clear d1 a1 a2 a3
    refine wp_seq_k (fun K8 hK8 => ?_)
    have hfin : ∀ y' w', LpC W0 w' y' ja jn jc n S X Y i (i + 1) → K8 ⟨fr 486 y', []⟩ w' := by
      rintro y' w' ⟨⟨s', m', ⟨s1, s5, s6, s8, s10, s12, s13, s14, s15, s16, s17, s18⟩, hM', hR', hC', hP'⟩, hb'⟩
      have HM' := hid hM'
      have HR' := hid hR'
      have HC' := hid hC'
      have HP' := hid hP'
      have HB' := hid hb'
      clear hM' hR' hC' hP' hb' HM HR HC HP HB
      refine hK8.out _ _ ?_
      rw [fr486]
      simp only [s1, s5, s6, s8, s10, s12, s13, s14, s15, s16, s17, s18]
      clear s1 s5 s6 s8 s10 s12 s13 s14 s15 s16 s17 s18
      go_wp2_with fail
      refine ⟨rfl, rfl, ⟨i + 1, by omega, ⟨s', m', ⟨rfl, rfl, rfl, rfl, rfl, rfl, rfl, rfl, rfl, rfl, rfl, ?_⟩, HM'.out, HR'.out, HC'.out, HP'.out⟩, HB'.out⟩, ?_⟩
      · show Value.int .i64 _ = Value.int .i64 _
        go_num
      · show 300 - (intOf (Value.int .i64 _)).toNat < _
        simp [intOf]
        omega
    refine wp_block ?_
    have hfrm : ∀ drop : Bool, ((i < jn ∧ ∃ b off, ja = some ⟨b, off, none⟩ ∧ b < W0.heap.size ∧ W.cell? ⟨b, off + i * 4 + 3, none⟩ = some (.bool drop)) ∨ (jn ≤ i ∧ drop = false)) → ∀ y2, SC y2 ja jn jc n S X Y i s m → ∀ (Q2 : Exit → Act → World → Prop), (∀ y' w', LpC W0 w' y' ja jn jc n S X Y i (i + 1) → Q2 .normal ⟨fr 486 y', []⟩ w' ∧ Q2 (.exit 1) ⟨fr 486 y', []⟩ w') → Code.wp Try.prog (pieceOf Try.f4 [1, 1, 1, 1, 1, 1, 1, 1, 1, 1, 1, 1, 0, 1, 0, 0, 1, 0, 0, 1]) Q2 ⟨fr 486 y2, []⟩ W := by
      intro drop hJ y2 hS2 Q2 hQ2
      refine car_frame ja jn jc n S X Y i W0.heap.size s m drop hjn hi40 hn1 hn2 hBS hBX hBY HC.out HR.out Q2 y2 W hS2 HM.out hJ (fun y' w' h => hQ2 y' w' ?_)
      obtain ⟨⟨s', m', h1, h2, h3, h4, h5⟩, h6⟩ := h
      exact ⟨⟨s', m', h1, h2, h3, h4, fun x hx => HP.out x (by rw [← h5]; exact hx)⟩, HB.out.trans h6⟩
    refine wp_seq_k (fun K1 hK1 => ?_)
    by_cases hj : i < jn
    · have e1 : decide ((i : Int) < (jn : Int)) = true := decide_eq_true (by omega)
      have hij : (i : Int) < (jn : Int) := by omega
      obtain ⟨b, off, rfl, c0, c1, c2, c3⟩ := HJ.out.cells HB.out i hj
      obtain ⟨b2, off2, h2, hblt, _⟩ := HJ.out.mem (by omega)
      cases h2
      obtain ⟨v0, v1, v2⟩ := HJ.out.inr i hj
      have hp0 := pick_st (f i).put 2 W v0.1 v0.2 (by decide) (by decide)
      rw [show (2 : Int).toNat = 2 from rfl] at hp0
      generalize pk (f i).put 2 = kk at *
      by_cases hk0 : kk = 0
      · subst hk0
        rw [show ((0 : Nat) : Int) = 0 from rfl] at hp0
        refine wp_seq_k (fun K2 hK2 => ?_)
        go_wp2_with fail
        refine hp0.mono ?_
        rintro e w' ⟨rfl, hw'⟩
        rw [hw']
        clear hw' w' hp0
        go_wp2_with fail
        refine hK2.out _ _ ?_
        refine wp_cond_true rfl ?_
        refine use_fr (N := 486) rfl ?_
        refine car_put b off jn jc n S X Y i W0.heap.size s m (f i).ch (f i).lg v1 v2 hj hjn hn1 hn2 hBS HC.out HR.out _ _ W ⟨rfl, rfl, rfl, rfl, rfl, rfl, rfl, rfl, rfl, rfl, rfl, rfl⟩ HM.out c1 c2 (fun y' w' h => ?_)
        refine then_block_exit (hfin y' w' ?_)
        obtain ⟨⟨m', h1, h2, h3⟩, h4⟩ := h
        have hc7 := pk_lt (f i).ch 7 (by decide)
        have hg90 := pk_lt (f i).lg 90 (by decide)
        refine ⟨⟨_, m', h1, h2, h3, HC.out.puts _ _ hc7 (jobPK_ok _ _ _ hc7 hg90 (by omega)) rfl (jobPK_real _ _ _ hc7) hj hjn, fun x hx => ?_⟩, HB.out.trans h4⟩
        rcases List.mem_append.1 hx with h | h
        · exact HP.out x h
        · rw [List.mem_singleton] at h
          subst h
          exact ⟨rfl, rfl, rfl⟩
      · have e2 : ((kk : Int) == 0) = false := by rw [beq_eq_false_iff_ne]; omega
        have e3 : (kk == 0) = false := by rw [beq_eq_false_iff_ne]; omega
        have e4 : decide ((kk : Int) = 0) = false := decide_eq_false (by omega)
        refine wp_seq_k (fun K2 hK2 => ?_)
        go_wp2_with fail
        refine hp0.mono ?_
        rintro e w' ⟨rfl, hw'⟩
        rw [hw']
        clear hw' w' hp0
        go_wp2_with fail
        refine hK2.out _ _ ?_
        clear e1 e2 e3 e4
        refine wp_cond_false rfl ?_
        go_wp2_with fail
        refine hK1.out _ _ ?_
        refine use_fr (N := 486) rfl ?_
        exact hfrm (f i).lost (.inl ⟨hj, b, off, rfl, hblt, c3⟩) _ ⟨rfl, rfl, rfl, rfl, rfl, rfl, rfl, rfl, rfl, rfl, rfl, rfl⟩ _ (fun y' w' h => ⟨hfin y' w' h, in_block_exit (hfin y' w' h)⟩)
    · have e1 : decide ((i : Int) < (jn : Int)) = false := decide_eq_false (by omega)
      refine wp_seq_k (fun K2 hK2 => ?_)
      go_wp2_with fail
      refine hK2.out _ _ ?_
      clear e1
      refine wp_cond_false rfl ?_
      go_wp2_with fail
      refine hK1.out _ _ ?_
      refine use_fr (N := 486) rfl ?_
      exact hfrm false (.inr ⟨by omega, rfl⟩) _ ⟨rfl, rfl, rfl, rfl, rfl, rfl, rfl, rfl, rfl, rfl, rfl, rfl⟩ _ (fun y' w' h => ⟨hfin y' w' h, in_block_exit (hfin y' w' h)⟩)
  · obtain rfl : i = je := by omega
    have d1 : decide ((i : Int) < (i : Int)) = false := decide_eq_false (by omega)
    clear hje
    go_wp2_with fail
    refine q_fr (N := 486) HQ.out rfl ?_
    rw [← Hje.out]
    exact ⟨⟨s, m, ⟨rfl, rfl, rfl, rfl, rfl, rfl, rfl, rfl, rfl, rfl, rfl, rfl⟩, HM.out, HR.out, HC.out, HP.out⟩, HB.out⟩
end Go.Proofs.Ytjiipmalahhcpaa
/- FrameCarries: what was heard of each channel is what was put, in order: the inner loop. -/
namespace Go.Proofs.Ytjiipmalahhcpaa
set_option linter.unusedVariables false
open Go.RowKit

theorem rel_p {s : ST} {m : MA} (h : RelC s m) (j : Nat) (hj : j < m.P.length) : ∃ hs : j < s.put.length, s.put[j] = ((m.P[j]).1, (m.P[j]).2.2) := by
  have hl : s.put.length = m.P.length := by rw [← h.p, List.length_map]
  refine ⟨by omega, ?_⟩
  have h1 : s.put[j]? = some ((m.P[j]).1, (m.P[j]).2.2) := by
    rw [← h.p, List.getElem?_map, List.getElem?_eq_getElem hj]
    rfl
  rw [List.getElem?_eq_getElem (by omega)] at h1
  exact Option.some.inj h1
theorem rel_a {s : ST} {m : MA} (h : RelC s m) (j : Nat) (hj : j < m.A.length) : ∃ hs : j < s.E.length, (m.A[j]).1 = (s.E[j]).fr ∧ (m.A[j]).2.1 = (s.E[j]).ch ∧ (m.A[j]).2.2.2 = (s.E[j]).pk := by
  have hl : s.E.length = m.A.length := by have := congrArg List.length h.a; rw [List.length_map, List.length_map] at this; exact this.symm
  refine ⟨by omega, ?_⟩
  have h1 : (s.E.map (fun e => (e.fr, e.ch, e.pk)))[j]? = some ((m.A[j]).1, (m.A[j]).2.1, (m.A[j]).2.2.2) := by
    rw [← h.a, List.getElem?_map, List.getElem?_eq_getElem hj]
    rfl
  rw [List.getElem?_map, List.getElem?_eq_getElem (show j < s.E.length by omega)] at h1
  have h2 := Option.some.inj h1
  simp only [Prod.mk.injEq] at h2
  exact ⟨h2.1.symm, h2.2.1.symm, h2.2.2.symm⟩
theorem rel_b {s : ST} {m : MA} (h : RelC s m) (j : Nat) (hj : j < m.B.length) : ∃ hs : j < (flg s.E).length, (m.B[j]).1 = ((flg s.E)[j]).fr ∧ (m.B[j]).2.1 = ((flg s.E)[j]).ch ∧ (m.B[j]).2.2.2 = ((flg s.E)[j]).pk := by
  have hl : (flg s.E).length = m.B.length := by have := congrArg List.length h.b; rw [List.length_map, List.length_map] at this; exact this.symm
  refine ⟨by omega, ?_⟩
  have h1 : ((flg s.E).map (fun e => (e.fr, e.ch, e.pk)))[j]? = some ((m.B[j]).1, (m.B[j]).2.1, (m.B[j]).2.2.2) := by
    rw [← h.b, List.getElem?_map, List.getElem?_eq_getElem hj]
    rfl
  rw [List.getElem?_map, List.getElem?_eq_getElem (show j < (flg s.E).length by omega)] at h1
  have h2 := Option.some.inj h1
  simp only [Prod.mk.injEq] at h2
  exact ⟨h2.1.symm, h2.2.1.symm, h2.2.2.symm⟩
/-- slots of the second loop -/
structure SA (y : Nat → Value) (ab k c : Nat) : Prop where
  s35 : y 35 = .slice (some ⟨ab, 0, none⟩) 7 7
  s36 : y 36 = .int .i64 (k : Int)
  s37 : y 37 = .int .i64 (c : Int)
def atU (at_ : Nat → Nat) (c j : Nat) : Nat → Nat := fun x => if x = c then j else at_ x
def AtE (w : World) (ja : Option Addr) (jn jc n S X Y i : Nat) (s : ST) (m : MA) (B0 ab k c : Nat) (at_ : Nat → Nat) (y : Nat → Value) (W : World) : Prop :=
  ∃ j, j ≤ m.P.length ∧ SC y ja jn jc n S X Y i s m ∧ SA y ab k c ∧ IR W ab (atU at_ c j) ∧ chP c (s.put.take j) = chE c (s.E.take k) ∧ Below B0 w W
set_option maxRecDepth 1000000 in
set_option maxHeartbeats 8000000 in
theorem car_8 (W1 : World) (B1 : Nat) (ja : Option Addr) (jn jc n S X Y i : Nat) (s : ST) (m : MA) (ab k c : Nat) (at_ : Nat → Nat) (hM1 : CM W1 B1 S X Y n s m) (hR : RelC s m) (hc7 : c < 7) (hab : W1.heap.size ≤ ab) (h0 : chP c (s.put.take (at_ c)) = chE c (s.E.take k)) (hle : at_ c ≤ m.P.length) (hP : m.P.length ≤ 200) :
    Tri Try.prog 486 (pieceOf Try.f4 [1, 1, 1, 1, 1, 1, 1, 1, 1, 1, 1, 1, 1, 1, 0, 1, 0, 0, 1, 0, 0, 1, 0]) (fun y w => SC y ja jn jc n S X Y i s m ∧ SA y ab k c ∧ IR w ab at_ ∧ Below W1.heap.size W1 w)
      (fun y w y' w' => AtE W1 ja jn jc n S X Y i s m W1.heap.size ab k c at_ y' w' ∧ ∀ j, IR w' ab (atU at_ c j) → ∀ hj : j < m.P.length, (m.P[j]).1 = c) := by
  rintro Q y w ⟨⟨t1, t5, t6, t8, t10, t12, t13, t14, t15, t16, t17, t18⟩, ⟨t35, t36, t37⟩, hI, hb⟩ hQ
  have HQ := hid hQ
  have HM1 := hid hM1
  have HR := hid hR
  have HI : Hid (IR w ab (atU at_ c (at_ c))) := hI.congr (fun x hx => by unfold atU; split <;> simp_all)
  have HB := hid hb
  have H0 := hid h0
  clear hQ hM1 hR hI hb h0
  conv => arg 2; whnf
  refine wp_block ?_
  refine wp_loop_fr 486 (AtE W1 ja jn jc n S X Y i s m W1.heap.size ab k c at_) (fun y' W' => match W'.cell? ⟨ab, c, none⟩ with | some (.int _ v) => 300 - v.toNat | _ => 0) ⟨rfl, rfl, at_ c, hle, ⟨t1, t5, t6, t8, t10, t12, t13, t14, t15, t16, t17, t18⟩, ⟨t35, t36, t37⟩, HI.out, H0.out, HB.out⟩ ?_
  clear t1 t5 t6 t8 t10 t12 t13 t14 t15 t16 t17 t18 t35 t36 t37 HI HB H0 hle
  rintro z W ⟨j, hj, ⟨s1, s5, s6, s8, s10, s12, s13, s14, s15, s16, s17, s18⟩, ⟨s35, s36, s37⟩, hI, h0, hb⟩
  have HI := hid hI
  have HB := hid hb
  have H0 := hid h0
  obtain ⟨k0, kf⟩ := hI.cell c hc7
  have hself : atU at_ c j c = j := if_pos rfl
  rw [hself] at k0
  have hcI : (c : Int) < 7 := by omega
  have hmeas : ∀ (W' : World) (v : Nat), W'.cell? ⟨ab, c, none⟩ = some (.int .i64 (v : Int)) → (match W'.cell? ⟨ab, c, none⟩ with | some (.int _ v) => 300 - v.toNat | _ => 0) = 300 - v := fun W' v h => by rw [h]; rfl
  have Hme := hid hmeas
  clear hI hb h0 hmeas hself
  rw [fr486]
  simp only [s1, s5, s6, s8, s10, s12, s13, s14, s15, s16, s17, s18, s35, s36, s37]
  clear s1 s5 s6 s8 s10 s12 s13 s14 s15 s16 s17 s18 s35 s36 s37
  by_cases hlt : j < m.P.length
  · have d1 : decide ((j : Int) < (m.P.length : Int)) = true := decide_eq_true (by omega)
    have hM := HM1.out.below HB.out
    obtain ⟨g, hg⟩ := own_addr hM.rp.ow (by omega)
    have hrow := hM.rp.ow
    rw [hg] at hrow
    have hcel : ∀ q, q < 7 → W.cell? ⟨g, j * 7 + q, none⟩ = (hcl2 m.P[j])[q]? := fun q hq => own_flat hcl2 hcl2_len hrow rfl j hlt q hq
    have x0 : W.cell? ⟨g, j * 7, none⟩ = some (.int .i64 ((m.P[j]).1 : Int)) := hcel 0 (by omega)
    obtain ⟨hps, hpj⟩ := rel_p HR.out j hlt
    have Hpj := hid hpj
    obtain ⟨pc, hpc⟩ : ∃ pc, pc = (m.P[j]).1 := ⟨_, rfl⟩
    rw [← hpc] at x0 Hpj
    have Hpc := hid hpc
    have Hg := hid hg
    obtain ⟨pn, hpn⟩ : ∃ pn, pn = m.P.length := ⟨_, rfl⟩
    rw [← hpn] at d1 hlt
    have Hpn := hid hpn
    have hlt2 : (j : Int) < (pn : Int) := by omega
    have hpn200 : pn ≤ 200 := by omega
    rw [hg, ← hpn]
    clear hM hrow hcel hpj hpc hg hpn hj hP
    by_cases hpe : pc = c
    · subst hpe
      have e1 : ((pc : Int) == (pc : Int)) = true := beq_self_eq_true _
      have e2 : ((pc : Int) != (pc : Int)) = false := by rw [bne, e1]; rfl
      go_wp2_with fail
      refine q_fr (N := 486) HQ.out rfl ⟨⟨j, by rw [← Hpn.out]; omega, ⟨rfl, rfl, rfl, rfl, rfl, ?_, rfl, rfl, rfl, rfl, rfl, rfl⟩, ⟨rfl, rfl, rfl⟩, HI.out, H0.out, HB.out⟩, fun j2 h2 hj2 => ?_⟩
      · rw [Hg.out, ← Hpn.out]; rfl
      · obtain ⟨h3, _⟩ := h2.cell pc hc7
        rw [k0] at h3
        have h4 : atU at_ pc j2 pc = j2 := if_pos rfl
        rw [h4] at h3
        simp only [Option.some.injEq, Value.int.injEq, true_and] at h3
        obtain rfl : j = j2 := by omega
        exact Hpc.out.symm
    · have e1 : ((pc : Int) == (c : Int)) = false := by rw [beq_eq_false_iff_ne]; omega
      have e2 : ((pc : Int) != (c : Int)) = true := by rw [bne, e1]; rfl
      have e3 : decide ((pc : Int) = (c : Int)) = false := decide_eq_false (by omega)
      have a1 : IntKind.i64.wrap ((j : Int) + 1) = (j : Int) + 1 := IntWalk.i64_in _ (by omega)
      have a2 : (j : Int) + 1 = ((j + 1 : Nat) : Int) := by omega
      obtain ⟨g1, g2⟩ := HI.out.set c (j + 1) hc7
      rw [← a2] at g1 g2
      have G1 := hid g1
      have G2 := hid g2
      have Hpe := hid hpe
      clear g1 g2 hpe a2
      go_wp2_with fail
      have hI2 : IR (W.setCell ⟨ab, c, none⟩ (.int .i64 ((j : Int) + 1))) ab (atU at_ c (j + 1)) := G1.out.congr (fun x hx => by unfold atU; split <;> rfl)
      refine ⟨rfl, rfl, ⟨j + 1, by rw [← Hpn.out]; omega, ⟨rfl, rfl, rfl, rfl, rfl, ?_, rfl, rfl, rfl, rfl, rfl, rfl⟩, ⟨rfl, rfl, rfl⟩, hI2, ?_, ?_⟩, ?_⟩
      · rw [Hg.out, ← Hpn.out]; rfl
      · exact at_skip hps H0.out (by rw [Hpj.out]; exact Hpe.out)
      · exact HB.out.grown G2.out HB.out.size (fun k e => by cases e; exact hab)
      · obtain ⟨h3, _⟩ := hI2.cell c hc7
        have h4 : atU at_ c (j + 1) c = j + 1 := if_pos rfl
        rw [h4] at h3
        rw [Hme.out _ _ h3]
        omega
  · obtain rfl : j = m.P.length := by omega
    have d1 : decide (((m.P.length : Nat) : Int) < (m.P.length : Int)) = false := decide_eq_false (by omega)
    go_wp2_with fail
    refine q_fr (N := 486) HQ.out rfl ⟨⟨m.P.length, Nat.le_refl _, ⟨rfl, rfl, rfl, rfl, rfl, rfl, rfl, rfl, rfl, rfl, rfl, rfl⟩, ⟨rfl, rfl, rfl⟩, HI.out, H0.out, HB.out⟩, fun j2 h2 hj2 => ?_⟩
    obtain ⟨h3, _⟩ := h2.cell c hc7
    rw [k0] at h3
    have h4 : atU at_ c j2 c = j2 := if_pos rfl
    rw [h4] at h3
    simp only [Option.some.injEq, Value.int.injEq, true_and] at h3
    omega
end Go.Proofs.Ytjiipmalahhcpaa
/- FrameCarries: a packet that was heard is the one that was put. -/
namespace Go.Proofs.Ytjiipmalahhcpaa
set_option linter.unusedVariables false
open Go.RowKit

/-- a packet in cells at an address -/
structure PkAt (W : World) (g o : Nat) (a : Option Addr) (n c : Nat) (p : PK) : Prop where
  x0 : W.cell? ⟨g, o, none⟩ = some (.bool p.up)
  x1 : W.cell? ⟨g, o + 1, none⟩ = some (.bool p.se)
  x2 : W.cell? ⟨g, o + 2, none⟩ = some (.int .i64 (p.ap : Int))
  x3 : W.cell? ⟨g, o + 3, none⟩ = some (.int .i64 (p.pt : Int))
  x4 : W.cell? ⟨g, o + 4, none⟩ = some (.int .i64 (p.ct : Int))
  x5 : W.cell? ⟨g, o + 5, none⟩ = some (.slice a n c)
theorem PkAt.below {W W' : World} {g o n c : Nat} {a : Option Addr} {p : PK} (h : PkAt W g o a n c p) (hb : ∀ q, W'.cell? ⟨g, q, none⟩ = W.cell? ⟨g, q, none⟩) : PkAt W' g o a n c p :=
  ⟨(hb _).trans h.x0, (hb _).trans h.x1, (hb _).trans h.x2, (hb _).trans h.x3, (hb _).trans h.x4, (hb _).trans h.x5⟩
set_option maxRecDepth 1000000 in
set_option maxHeartbeats 8000000 in
theorem car_64 (ja : Option Addr) (jn jc n S X Y i : Nat) (s : ST) (m : MA) (ab k c j gp ga : Nat) (pa sa : Option Addr) (pn pc sn sc : Nat) (p : PK) (hc7 : c < 7) (hj : j < m.P.length) (hk : k < m.A.length) (hP : m.P.length ≤ 200) (hA : m.A.length ≤ 200) (hga : m.aa = some ⟨ga, 0, none⟩) (hgp : m.pa = some ⟨gp, 0, none⟩) :
    Tri Try.prog 486 (pieceOf Try.f4 [1, 1, 1, 1, 1, 1, 1, 1, 1, 1, 1, 1, 1, 1, 0, 1, 0, 0, 1, 0, 0, 1, 1, 0])
      (fun y w => SC y ja jn jc n S X Y i s m ∧ SA y ab k c ∧ (w.cell? ⟨ab, c, none⟩ = some (.int .i64 (j : Int)) ∧ ab < w.heap.size ∧ gp < w.heap.size ∧ ga < w.heap.size) ∧ PkAt w gp (j * 7 + 1) pa pn pc p ∧ PkAt w ga (k * 8 + 1 + 1) sa sn sc p ∧ Rd w pa pn pc (vb p.ds) ∧ Rd w sa sn sc (vb p.ds))
      (fun y w y' w' => SC y' ja jn jc n S X Y i s m ∧ SA y' ab k c ∧ Below w.heap.size w w') := by
  rintro Q y w ⟨⟨s1, s5, s6, s8, s10, s12, s13, s14, s15, s16, s17, s18⟩, ⟨s35, s36, s37⟩, ⟨k0, l1, l2, l3⟩, hp, ha, hr1, hr2⟩ hQ
  have HQ := hid hQ
  obtain ⟨B0, hB0⟩ : ∃ B0, B0 = w.heap.size := ⟨_, rfl⟩
  rw [← hB0] at l1 l2 l3
  have hsz : Hid (w.drew.heap.size = B0) := hid hB0.symm
  have HB := hid ((Below.refl B0 w).drew)
  have cellk : ∀ (g q : Nat) (w' : World), g < B0 → Below B0 w.drew w' → w'.cell? ⟨g, q, none⟩ = w.cell? ⟨g, q, none⟩ := fun g q w' hg hb => World.cell?_of_block ((hb.block g hg).trans (HB.out.block g hg))
  have k0 : ∀ w', Below B0 w.drew w' → w'.cell? ⟨ab, c, none⟩ = some (.int .i64 (j : Int)) := fun w' h => (cellk ab c w' l1 h).trans k0
  have p0 : ∀ w', Below B0 w.drew w' → w'.cell? ⟨gp, j * 7 + 1, none⟩ = some (.bool p.up) := fun w' h => (cellk gp _ w' l2 h).trans hp.x0
  have p1 : ∀ w', Below B0 w.drew w' → w'.cell? ⟨gp, j * 7 + 1 + 1, none⟩ = some (.bool p.se) := fun w' h => (cellk gp _ w' l2 h).trans hp.x1
  have p2 : ∀ w', Below B0 w.drew w' → w'.cell? ⟨gp, j * 7 + 1 + 2, none⟩ = some (.int .i64 (p.ap : Int)) := fun w' h => (cellk gp _ w' l2 h).trans hp.x2
  have p3 : ∀ w', Below B0 w.drew w' → w'.cell? ⟨gp, j * 7 + 1 + 3, none⟩ = some (.int .i64 (p.pt : Int)) := fun w' h => (cellk gp _ w' l2 h).trans hp.x3
  have p4 : ∀ w', Below B0 w.drew w' → w'.cell? ⟨gp, j * 7 + 1 + 4, none⟩ = some (.int .i64 (p.ct : Int)) := fun w' h => (cellk gp _ w' l2 h).trans hp.x4
  have p5 : ∀ w', Below B0 w.drew w' → w'.cell? ⟨gp, j * 7 + 1 + 5, none⟩ = some (.slice pa pn pc) := fun w' h => (cellk gp _ w' l2 h).trans hp.x5
  have a0 : ∀ w', Below B0 w.drew w' → w'.cell? ⟨ga, k * 8 + 1 + 1, none⟩ = some (.bool p.up) := fun w' h => (cellk ga _ w' l3 h).trans ha.x0
  have a1 : ∀ w', Below B0 w.drew w' → w'.cell? ⟨ga, k * 8 + 1 + 1 + 1, none⟩ = some (.bool p.se) := fun w' h => (cellk ga _ w' l3 h).trans ha.x1
  have a2 : ∀ w', Below B0 w.drew w' → w'.cell? ⟨ga, k * 8 + 1 + 1 + 2, none⟩ = some (.int .i64 (p.ap : Int)) := fun w' h => (cellk ga _ w' l3 h).trans ha.x2
  have a3 : ∀ w', Below B0 w.drew w' → w'.cell? ⟨ga, k * 8 + 1 + 1 + 3, none⟩ = some (.int .i64 (p.pt : Int)) := fun w' h => (cellk ga _ w' l3 h).trans ha.x3
  have a4 : ∀ w', Below B0 w.drew w' → w'.cell? ⟨ga, k * 8 + 1 + 1 + 4, none⟩ = some (.int .i64 (p.ct : Int)) := fun w' h => (cellk ga _ w' l3 h).trans ha.x4
  have a5 : ∀ w', Below B0 w.drew w' → w'.cell? ⟨ga, k * 8 + 1 + 1 + 5, none⟩ = some (.slice sa sn sc) := fun w' h => (cellk ga _ w' l3 h).trans ha.x5
  have hsm := hid (same_eq p pa sa pn pc sn sc w.drew (hr1.below ((Below.refl w.heap.size w).drew)) (hr2.below ((Below.refl w.heap.size w).drew)))
  have HB0 := hid hB0
  rw [hga] at s13
  rw [hgp] at s12
  have Hga := hid hga
  have Hgp := hid hgp
  have hcI : (c : Int) < 7 := by omega
  obtain ⟨an, han⟩ : ∃ an, an = m.A.length := ⟨_, rfl⟩
  obtain ⟨pm, hpm⟩ : ∃ pm, pm = m.P.length := ⟨_, rfl⟩
  rw [← han] at s13 hk hA
  rw [← hpm] at s12 hj hP
  have Han := hid han
  have Hpm := hid hpm
  have hjI : (j : Int) < (pm : Int) := by omega
  have hkI : (k : Int) < (an : Int) := by omega
  have e1 : ((j : Int) == (pm : Int)) = false := by rw [beq_eq_false_iff_ne]; omega
  have e2 : decide ((j : Int) = (pm : Int)) = false := decide_eq_false (by omega)
  unfold pagg at hsm
  dsimp only at hsm
  clear hQ hp ha hr1 hr2 cellk hB0 hga hgp han hpm l1 l2 l3
  conv => arg 2; whnf
  rw [fr486]
  simp only [s1, s5, s6, s8, s10, s12, s13, s14, s15, s16, s17, s18, s35, s36, s37]
  clear s1 s5 s6 s8 s10 s12 s13 s14 s15 s16 s17 s18 s35 s36 s37
  refine wp_seq ?_
  refine wp_region_can_all [22] [0, 1, 2, 3, 4, 5, 6, 7, 8, 9, 10, 11, 12, 13, 14, 15, 16, 17, 18, 19, 20, 21, 22, 23, 24] (Below B0) (Below.refl B0) (fun _ _ _ h k => h.trans k) (by kernel_rfl) (by kernel_rfl) ?_
  simp only [List.map_cons, List.map_nil, List.contains_cons, List.contains_nil, List.getD_cons_zero, List.getD_cons_succ, Nat.reduceBEq, Bool.or_false]
  generalize w.drew = U at *
  iterate 22 (refine wpL_do rfl (fun w' hw' => (by go_simp; rfl)) ?_; simp only [Act.put, List.setIfInBounds_toArray, List.set_cons_succ, List.set_cons_zero])
  clear k0 p0 p1 p2 p3 p4 p5 a0 a1 a2 a3 a4 a5
  refine wpL_call rfl (fun K hK => ?_)
  go_wp2_with fail
  refine hsm.out.mono ?_
  rintro e V ⟨rfl, hb⟩
  have hbV : Below B0 U V := hb.mono (Nat.le_of_eq hsz.out.symm)
  have HB1 := hid (HB.out.trans hbV)
  refine hK _ _ hbV ?_
  clear hK K hb hbV hsm HB
  try simp only [Act.put, List.setIfInBounds_toArray, List.set_cons_succ, List.set_cons_zero]
  repeat (refine wpL_do rfl (fun w' hw' => (by go_simp; rfl)) ?_; simp only [Act.put, List.setIfInBounds_toArray, List.set_cons_succ, List.set_cons_zero])
  refine wpL_nil ?_
  go_wp2_with fail
  refine q_fr (N := 486) HQ.out rfl ⟨⟨rfl, rfl, rfl, rfl, rfl, ?_, ?_, rfl, rfl, rfl, rfl, rfl⟩, ⟨rfl, rfl, rfl⟩, ?_⟩
  · rw [Hgp.out, ← Hpm.out]; rfl
  · rw [Hga.out, ← Han.out]; rfl
  · rw [← HB0.out]; exact HB1.out
end Go.Proofs.Ytjiipmalahhcpaa
