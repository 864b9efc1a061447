/- PassesDue: share: the loop over the jobs. -/
import Derived.Test.YtfbchmihkndfaaaDue16
namespace Go.Proofs.Ytfbchmihkndfaaa
set_option linter.unusedVariables false
open Go.RowKit

def ShI (W0 : World) (wa : Option Addr) (wn wc X gb m QB jb nc B : Nat) (F N : Nat → Nat) (y : Nat → Value) (W : World) : Prop :=
  ∃ i ov, i ≤ m ∧ SA y wa wn wc X gb m QB jb nc ov i ∧ OwnAt W B 3 ov (some_ N i).length (vi (some_ N i)) ∧ Gn W gb m (g1 F N i) ∧ Kp B [gb] W0 W
set_option maxRecDepth 1000000 in
set_option maxHeartbeats 2000000 in
theorem shr_l1 (wa : Option Addr) (wn wc X gb m QB jb nc B : Nat) (F Y N : Nat → Nat) (W0 : World) (hm : m ≤ 9) (hnc : m ≤ nc ∧ nc ≤ maxLen) (hF : ∀ i, i < m → F i ≤ 1000)
    (hj : JbAt W0 jb m F Y N) (hjB : jb < B) (hjg : jb ≠ gb) (hG : Gn W0 gb m (fun _ => 0)) (hB : B ≤ W0.heap.size) (hgB : gb < B) :
    Tri Try.prog 130 (pieceOf Try.f11 [1, 1, 1, 1, 0, 1]) (fun y w => SA y wa wn wc X gb m QB jb nc (.slice none 0 0) 0 ∧ w = W0)
      (fun _ _ y w => ∃ ov, SA y wa wn wc X gb m QB jb nc ov m ∧ OwnAt w B 3 ov (some_ N m).length (vi (some_ N m)) ∧ Gn w gb m (g1 F N m) ∧ Kp B [gb] W0 w) := by
  rintro Q y w ⟨⟨s0, s3, s5, s6, s7, s22, s23, s24⟩, rfl⟩ hQ
  have HQ := hid hQ
  have HJ := hid hj
  have HG := hid (hG.congr (g' := g1 F N 0) (fun t _ => by unfold g1; rw [if_neg (by omega)]))
  have HF := hid hF
  have HB := hid hB
  clear hQ hj hG hF
  conv => arg 2; whnf
  rw [fr130]
  simp only [s0, s3, s5, s6, s7, s22, s23, s24]
  clear s0 s3 s5 s6 s7 s22 s23 s24
  refine wp_block ?_
  refine wp_loop_fr 130 (ShI w wa wn wc X gb m QB jb nc B F N) (fun y' _ => m - (intOf (y' 24)).toNat) ⟨rfl, rfl, 0, _, Nat.zero_le _, ⟨rfl, rfl, rfl, rfl, rfl, rfl, rfl, rfl⟩, OwnAt.nil _ _ _, HG.out, Kp.refl _ _ _⟩ ?_
  rintro z W ⟨i, ov, hi, ⟨s0, s3, s5, s6, s7, s22, s23, s24⟩, ho, hG1, hK1⟩
  have HO := hid ho
  have HG1 := hid hG1
  have HK1 := hid hK1
  obtain ⟨oa, oc, rfl, _, _⟩ := ho.form
  clear ho hG1 hK1
  rw [fr130]
  simp only [s0, s3, s5, s6, s7, s22, s23, s24]
  clear s0 s3 s5 s6 s7 s22 s23 s24
  by_cases hlt : i < m
  · have d1 : decide ((i : Int) < (m : Int)) = true := decide_eq_true (by omega)
    have d2 : decide (i < m) = true := decide_eq_true hlt
    have hr := hid (shr_r wa wn wc X gb m QB jb nc B F Y N (.slice oa (some_ N i).length oc) i w W hlt hm hnc HF.out (HJ.out.kept HK1.out hjB (by simpa using hjg)) HO.out HG1.out HK1.out (Nat.le_trans HB.out HK1.out.size) hgB)
    clear HO HG1 HK1
    go_upto_block 1 with (fail)
    refine wp_block ?_
    refine Tri.use hr.out rfl ⟨⟨rfl, rfl, rfl, rfl, rfl, rfl, rfl, rfl⟩, rfl⟩ ?_
    rintro y2 W2 ⟨ov2, ⟨s0, s3, s5, s6, s7, s22, s23, s24⟩, ho2, hG2, hK2⟩
    obtain ⟨oa2, oc2, rfl, _, _⟩ := ho2.form
    have HO2 := hid ho2
    have HG2 := hid hG2
    have HK2 := hid hK2
    clear ho2 hG2 hK2 hr
    rw [fr130]
    simp only [s0, s3, s5, s6, s7, s22, s23, s24]
    clear s0 s3 s5 s6 s7 s22 s23 s24
    go_wp2_with fail
    refine ⟨rfl, rfl, ⟨i + 1, _, by omega, ⟨rfl, rfl, rfl, rfl, rfl, rfl, rfl, ?_⟩, HO2.out, HG2.out, HK2.out⟩, ?_⟩
    · show Value.int .i64 _ = Value.int .i64 _
      go_num
    · show m - (intOf (Value.int .i64 _)).toNat < _
      simp [intOf]
      omega
  · obtain rfl : i = m := by omega
    have d1 : decide ((i : Int) < (i : Int)) = false := decide_eq_false (by omega)
    have d2 : decide (i < i) = false := decide_eq_false (by omega)
    go_wp2_with fail
    exact q_fr (N := 130) HQ.out rfl ⟨_, ⟨rfl, rfl, rfl, rfl, rfl, rfl, rfl, rfl⟩, HO.out, HG1.out, HK1.out⟩
end Go.Proofs.Ytfbchmihkndfaaa
/- PassesDue: share: a tick: who comes is put into the queue. -/
namespace Go.Proofs.Ytfbchmihkndfaaa
set_option linter.unusedVariables false
open Go.RowKit

theorem run_cut1 (b off n c : Nat) (hk : 1 ≤ n) (hc : n ≤ c) (w : World) : (Instr.sliceAt 23 (.slice (some ⟨b, off, none⟩) n c) (some (.int .i64 1)) none none).run Try.prog w = .ok (.slice (some ⟨b, if c = 1 then off else off + 1, none⟩) (n - 1) (c - 1)) w := by
  have h1 : (1 : Int) ≤ n := by omega
  simp [go_sem, h1, Try.underlying23]
  split <;> rfl
structure ST (y : Nat → Value) (X gb m QB rb : Nat) (ov : Value) (t : Nat) : Prop where
  s3 : y 3 = .pointer (some ⟨X, 0, none⟩)
  s5 : y 5 = .slice (some ⟨gb, 0, none⟩) m m
  s6 : y 6 = .pointer (some ⟨QB, 0, none⟩)
  s7 : y 7 = ov
  s49 : y 49 = .slice (some ⟨rb, 0, none⟩) 20001 20001
  s50 : y 50 = .int .i64 20001
  s51 : y 51 = .int .i64 (t : Int)
/-- what stands while the ticks go -/
structure SW (W : World) (B B2 X jb gb QB jb2 rb m nc : Nat) (F Y N r : Nat → Nat) : Prop where
  x : W.heap[X]? = some (.cells #[.slice (some ⟨jb, 0, none⟩) m nc] 30)
  jobs : JbAt W jb m F Y N
  iv : Iv W rb (fun t => (r t : Int))
  gB : gb < B
  qB : QB < B
  jB : jb2 < B
  xB : X < B2
  jbB : jb < B2
  rB : rb < B2
  xn : X ∉ [gb, QB, jb2]
  jn : jb ∉ [gb, QB, jb2]
  rn : rb ∉ [gb, QB, jb2]
  gq : gb ≠ QB
  gj : gb ≠ jb2
  qj : QB ≠ jb2
  b2 : B ≤ B2
  bw : B2 ≤ W.heap.size
  m9 : m ≤ 9
  le : m ≤ nc
  mx : nc ≤ maxLen
  f : ∀ i, i < m → F i ≤ 1000
  y : ∀ i, i < m → Y i ≤ 1000
  n : ∀ i, i < m → N i ≤ 1000
structure MT (W2 W : World) (B B2 gb m QB jb2 nc2 : Nat) (F Y rem : Nat → Nat) (A L : List Nat) (av ov : Value) (gone : Nat → Int) : Prop where
  q : Qu W B2 QB jb2 m nc2 av F Y rem A
  hp : Hp (keyJ Y) A A.length
  o : OwnAt W B 3 ov L.length (vi L)
  ob : ∀ k, ov.ownBlock = some k → k < B2
  g : Gn W gb m gone
  kp : Kp B2 [gb, QB, jb2] W2 W
theorem own_kp {W W' : World} {B B2 n : Nat} {X : List Nat} {v : Value} {xs : List Value} (h : OwnAt W B 3 v n xs) (ob : ∀ k, v.ownBlock = some k → k < B2) (hk : Kp B2 X W W') (hX : ∀ x ∈ X, x < B) : OwnAt W' B 3 v n xs := by
  refine ⟨h.1, h.2.imp id ?_⟩
  rintro ⟨g, o, cap, cur, h1, h2, h3, h4⟩
  exact ⟨g, o, cap, cur, h1, h2, hk.row h3 (ob g (by rw [h1]; rfl)) (fun hm => by have := hX g hm; omega), h4⟩
def PuI (W2 : World) (B B2 X gb m QB jb2 rb nc2 t n : Nat) (F Y N rem : Nat → Nat) (gone : Nat → Int) (y : Nat → Value) (W : World) : Prop :=
  ∃ A L av oa oc, ST y X gb m QB rb (.slice oa L.length oc) t ∧ y 10 = .int .i64 (t : Int) ∧ y 11 = .int .i64 (n : Int) ∧ MT W2 W B B2 gb m QB jb2 nc2 F Y rem A L av (.slice oa L.length oc) gone ∧ TI ⟨m, F, Y, N⟩ A L rem ∧ ∀ x ∈ A, F x ≤ t
set_option maxRecDepth 1000000 in
set_option maxHeartbeats 4000000 in
theorem shr_p (W2 : World) (B B2 X jb gb QB jb2 rb m nc nc2 t n : Nat) (F Y N r rem : Nat → Nat) (gone : Nat → Int) (hS : SW W2 B B2 X jb gb QB jb2 rb m nc F Y N r) :
    Tri Try.prog 130 (pieceOf Try.f11 [1, 1, 1, 1, 1, 1, 0, 1, 0, 0, 1, 1, 0, 0, 1, 0]) (PuI W2 B B2 X gb m QB jb2 rb nc2 t n F Y N rem gone)
      (fun _ _ y w => ∃ A L av oa oc, ST y X gb m QB rb (.slice oa L.length oc) t ∧ y 10 = .int .i64 (t : Int) ∧ y 11 = .int .i64 (n : Int) ∧ MT W2 w B B2 gb m QB jb2 nc2 F Y rem A L av (.slice oa L.length oc) gone ∧ TI ⟨m, F, Y, N⟩ A L rem ∧ (∀ x ∈ A, F x ≤ t) ∧ ∀ x ∈ L, t < F x) := by
  rintro Q y w hP hQ
  have HQ := hid hQ
  have HS := hid hS
  have hm9 := hS.m9
  have hnc := hS.le
  have hncm := hS.mx
  unfold maxLen at hncm
  clear hQ hS
  conv => arg 2; whnf
  refine wp_block ?_
  refine wp_loop_fr 130 (PuI W2 B B2 X gb m QB jb2 rb nc2 t n F Y N rem gone) (fun y' _ => lenV (y' 7)) ⟨fr_size _ _, rfl, by
    obtain ⟨A, L, av, oa, oc, h1, h2, h3, h4, h5, h6⟩ := hP
    exact ⟨A, L, av, oa, oc, ⟨(fr_at _ _ _ (by decide)).trans h1.s3, (fr_at _ _ _ (by decide)).trans h1.s5, (fr_at _ _ _ (by decide)).trans h1.s6, (fr_at _ _ _ (by decide)).trans h1.s7, (fr_at _ _ _ (by decide)).trans h1.s49, (fr_at _ _ _ (by decide)).trans h1.s50, (fr_at _ _ _ (by decide)).trans h1.s51⟩, (fr_at _ _ _ (by decide)).trans h2, (fr_at _ _ _ (by decide)).trans h3, h4, h5, h6⟩⟩ ?_
  clear hP
  rintro z W ⟨A, L, av, oa, oc, ⟨s3, s5, s6, s7, s49, s50, s51⟩, s10, s11, hM, hT, hA⟩
  have HM := hid hM
  have HT := hid hT
  have HA := hid hA
  clear hM hT hA
  rw [fr130]
  have Hs7 := hid s7
  simp only [s3, s5, s6, s7, s49, s50, s51, s10, s11]
  clear s3 s5 s6 s7 s49 s50 s51 s10 s11
  have hd : Below W.heap.size W W.drew := (Below.refl _ W).drew
  have hMd : MT W2 W.drew B B2 gb m QB jb2 nc2 F Y rem A L av (.slice oa L.length oc) gone := ⟨HM.out.q.below hd, HM.out.hp, HM.out.o.below hd, HM.out.ob, HM.out.g.below hd, HM.out.kp.trans (Kp.of_below hd HM.out.q.bW)⟩
  have hWd : W.drew.heap.size = W.heap.size := rfl
  cases L with
  | nil =>
    have HMd := hid hMd
    have d1 : decide ((0 : Int) < ((0 : Nat) : Int)) = false := rfl
    clear hMd HM hd
    refine wp_seq_k (fun K1 hK1 => ?_)
    refine wp_seq_k (fun K2 hK2 => ?_)
    refine wp_region_can_all [] [0, 1, 2, 3, 4, 5, 6, 7, 8, 9, 10, 11, 12, 13] (Below W.heap.size) (fun _ => Below.refl _ _) (fun _ _ _ h k => h.trans k) (by kernel_rfl) (by kernel_rfl) ?_
    simp only [List.map_cons, List.map_nil, List.contains_nil, List.getD_cons_zero, List.getD_cons_succ, List.length_nil]
    generalize W.drew = U at *
    iterate 4 (refine wpL_do rfl (fun w' hw' => (by go_simp; rfl)) ?_; simp only [Act.put, List.setIfInBounds_toArray, List.set_cons_succ, List.set_cons_zero])
    iterate 9 ((with_reducible refine wpL_pass ?_ ?_); (· rfl); simp only [Act.put, List.setIfInBounds_toArray, List.set_cons_succ, List.set_cons_zero])
    iterate 1 (refine wpL_do rfl (fun w' hw' => (by go_simp; rfl)) ?_; simp only [Act.put, List.setIfInBounds_toArray, List.set_cons_succ, List.set_cons_zero])
    refine wpL_nil ?_
    refine hK2.out _ _ ?_
    go_wp2_with fail
    exact q_fr (N := 130) HQ.out rfl ⟨A, [], av, oa, oc, ⟨rfl, rfl, rfl, rfl, rfl, rfl, rfl⟩, rfl, rfl, HMd.out, HT.out, HA.out, fun x hx => by simp at hx⟩
  | cons x L =>
    have hTs := HT.out
    have hx : x < m := hTs.lt x (List.mem_append_right _ List.mem_cons_self)
    have hAl := hTs.len
    have hAl : A.length + (L.length + 1) ≤ m := hAl
    obtain ⟨g, o, c, hsl, hgB, hgl, hci⟩ := hMd.o.at_ (by simp)
    cases hsl
    obtain ⟨_, c1, hfe, hle, hmx⟩ := hMd.o.form
    have hoc : c1 = oc := by cases hfe; rfl
    rw [hoc] at hle hmx
    clear hfe hoc
    unfold maxLen at hmx
    have c0 : W.drew.cell? ⟨g, o, none⟩ = some (.int .i64 (x : Int)) := (hci 0 (by simp)).1
    have hjb := HS.out.jobs.kept hMd.kp HS.out.jbB HS.out.jn
    obtain ⟨jcs, hjr, _⟩ := id hjb
    have hjl := row_lt hjr
    have e0 : ∀ w', Below W.heap.size W.drew w' → w'.cell? ⟨X, 0, none⟩ = some (.slice (some ⟨jb, 0, none⟩) m nc) := fun w' hw => by rw [cell_of_row _ _ _ _ _ _ (row_below (hMd.kp.row HS.out.x HS.out.xB HS.out.xn) hw)]; rfl
    have e1 : ∀ w', Below W.heap.size W.drew w' → w'.cell? ⟨g, o, none⟩ = some (.int .i64 (x : Int)) := fun w' hw => (hw.cell (p := ⟨g, o, none⟩) hgl).trans c0
    have e2 : ∀ w', Below W.heap.size W.drew w' → w'.cell? ⟨jb, x * 3, none⟩ = some (.int .i64 (F x : Int)) := fun w' hw => (hw.cell (p := ⟨jb, x * 3, none⟩) hjl).trans (hjb.cell x hx).1
    have hpush := heap_push hMd.q hMd.hp x hx (by omega) (by omega) (fun i hi => by have := HS.out.y i hi; omega)
    have hdrop := OwnAt.drop hMd.o 1 (by simp)
    have hob := hMd.ob g rfl
    rw [List.length_cons] at hle
    have hcut := run_cut1 g o (L.length + 1) oc (by omega) hle
    rw [List.length_cons] at hdrop
    rw [show L.length + 1 - 1 = L.length from rfl] at hcut hdrop
    generalize (if oc = 1 then o else o + 1) = o2 at hcut hdrop
    rw [show (vi (x :: L)).drop 1 = vi L from rfl] at hdrop
    have HD := hid hdrop
    have HMd := hid hMd
    have d1 : decide ((0 : Int) < ((L.length + 1 : Nat) : Int)) = true := decide_eq_true (by omega)
    have hpt := hid (fun (h : F x ≤ t) A' hp => (hTs.push (A' := A') hp))
    have hlate := hid (fun (h : t < F x) => TI.late (t := t) hTs h)
    clear hdrop hTs hci c0 hjb hjr hMd hd HM
    have hsl : (x :: L).length = L.length + 1 := rfl
    rw [hsl] at Hs7 ⊢
    obtain ⟨p, hp⟩ : ∃ p, p = L.length + 1 := ⟨_, rfl⟩
    rw [← hp] at Hs7 hcut hle d1 ⊢
    have d0 : decide (0 < p) = true := decide_eq_true (by omega)
    have hp0 : 0 < p := by omega
    have Hp := hid hp
    clear hsl hp hAl
    refine wp_seq_k (fun K1 hK1 => ?_)
    refine wp_seq_k (fun K2 hK2 => ?_)
    refine wp_region_can_all [] [0, 1, 2, 3, 4, 5, 6, 7, 8, 9, 10, 11, 12, 13] (Below W.heap.size) (fun _ => Below.refl _ _) (fun _ _ _ h k => h.trans k) (by kernel_rfl) (by kernel_rfl) ?_
    simp only [List.map_cons, List.map_nil, List.contains_nil, List.getD_cons_zero, List.getD_cons_succ]
    generalize W.drew = U at *
    by_cases hft : F x ≤ t
    · have d2 : decide ((F x : Int) ≤ (t : Int)) = true := decide_eq_true (by omega)
      have d3 : decide (F x ≤ t) = true := decide_eq_true hft
      have HFT := hid hft
      have HAp : Hid (∀ A3 : List Nat, A3.Perm (A ++ [x]) → ∀ y ∈ A3, F y ≤ t) := fun A3 hp3 y hy => by
        rcases List.mem_append.1 (hp3.mem_iff.1 hy) with h1 | h1
        · exact HA.out y h1
        · rw [List.mem_singleton] at h1
          rw [h1]; exact hft
      clear hlate hft
      generalize F x = fx at *
      iterate 14 (refine wpL_do rfl (fun w' hw' => (by go_simp; rfl)) ?_; simp only [Act.put, List.setIfInBounds_toArray, List.set_cons_succ, List.set_cons_zero])
      refine wpL_nil ?_
      refine hK2.out _ _ ?_
      clear e0 e2
      have e1' := e1 U (Below.refl _ _)
      clear e1
      go_wp2_with fail
      refine hK1.out _ _ ?_
      refine wp_block ?_
      refine wp_seq_k (fun K4 hK4 => ?_)
      go_wp2_with fail
      refine hpush.mono ?_
      rintro e W3 ⟨⟨⟨av3, A3, hq3, hp3, hh3⟩, hk3⟩, rfl⟩
      have M3 : MT W2 W3 B B2 gb m QB jb2 nc2 F Y rem A3 L av3 (.slice (some ⟨g, o2, none⟩) L.length (oc - 1)) gone := by
        have hkp : Kp B2 [gb, QB, jb2] U W3 := hk3.mono (by simp)
        have hX : ∀ x ∈ [gb, QB, jb2], x < B := by
          intro x hx
          simp only [List.mem_cons, List.not_mem_nil, or_false] at hx
          rcases hx with rfl | rfl | rfl
          · exact HS.out.gB
          · exact HS.out.qB
          · exact HS.out.jB
        have hob2 : ∀ k, (Value.slice (some ⟨g, o2, none⟩) L.length (oc - 1)).ownBlock = some k → k < B2 := fun k hk => by
          simp only [Value.ownBlock, Option.some.injEq] at hk; subst hk; exact hob
        exact ⟨hq3, hh3, own_kp HD.out hob2 hkp hX, hob2, HMd.out.g.kept hk3 (by have := HS.out.gB; have := HS.out.b2; omega) (by simpa using HS.out.gq), HMd.out.kp.trans hkp⟩
      have HM3 := hid M3
      have HT3 := hid (hpt.out HFT.out A3 hp3)
      have HA3 := hid (HAp.out A3 hp3)
      clear M3 hpush hq3 hp3 hh3 hk3 e1'
      go_wp2_with fail
      refine hK4.out _ _ ?_
      go_wp2_with fail
      refine ⟨rfl, rfl, ⟨A3, L, av3, _, _, ⟨rfl, rfl, rfl, rfl, rfl, rfl, rfl⟩, rfl, rfl, HM3.out, HT3.out, HA3.out⟩, ?_⟩
      show L.length < p
      rw [Hp.out]
      omega
    · have d2 : decide ((F x : Int) ≤ (t : Int)) = false := decide_eq_false (by omega)
      have d3 : decide (F x ≤ t) = false := decide_eq_false hft
      have HL2 := hid (hlate.out (by omega))
      clear hpush hft hlate
      generalize F x = fx at *
      iterate 14 (refine wpL_do rfl (fun w' hw' => (by go_simp; rfl)) ?_; simp only [Act.put, List.setIfInBounds_toArray, List.set_cons_succ, List.set_cons_zero])
      refine wpL_nil ?_
      refine hK2.out _ _ ?_
      clear e0 e1 e2
      go_wp2_with fail
      exact q_fr (N := 130) HQ.out rfl ⟨A, x :: L, av, _, _, ⟨rfl, rfl, rfl, by rw [List.length_cons, ← Hp.out]; rfl, rfl, rfl, rfl⟩, rfl, rfl, HMd.out, HT.out, HA.out, HL2.out⟩
end Go.Proofs.Ytfbchmihkndfaaa
/- PassesDue: share: a tick: the first one is served. -/
namespace Go.Proofs.Ytfbchmihkndfaaa
set_option linter.unusedVariables false
open Go.RowKit

theorem JbAt.set {W : World} {jb n : Nat} {F Y rem : Nat → Nat} (h : JbAt W jb n F Y rem) (k : Nat) (hk : k < n) (v : Nat) : JbAt (W.setCell ⟨jb, k * 3 + 2, none⟩ (.int .i64 (v : Int))) jb n F Y (upd rem k v) ∧ Gb jb W (W.setCell ⟨jb, k * 3 + 2, none⟩ (.int .i64 (v : Int))) := by
  obtain ⟨cs, h1, h2⟩ := h
  obtain ⟨h4, h5⟩ := set_row h1 (k * 3 + 2) (.int .i64 (v : Int)) rfl
  refine ⟨⟨_, h4, fun i hi => ?_⟩, h5⟩
  obtain ⟨g0, g1, g2⟩ := h2 i hi
  have hs := (Array.getElem?_eq_some_iff.1 (h2 k hk).2.2).1
  refine ⟨?_, ?_, ?_⟩
  · rw [Array.getElem?_setIfInBounds_ne (by omega)]; exact g0
  · rw [Array.getElem?_setIfInBounds_ne (by omega)]; exact g1
  · by_cases e : i = k
    · subst e
      rw [Array.getElem?_setIfInBounds_self_of_lt hs, upd_self]
    · rw [Array.getElem?_setIfInBounds_ne (by omega), upd_ne _ _ e]; exact g2
theorem Qu.serve {W : World} {B QB jb n nc : Nat} {av : Value} {F Y rem : Nat → Nat} {a : List Nat} (h : Qu W B QB jb n nc av F Y rem a) (k : Nat) (hk : k < n) (v : Nat) : Qu (W.setCell ⟨jb, k * 3 + 2, none⟩ (.int .i64 (v : Int))) B QB jb n nc av F Y (upd rem k v) a ∧ Gb jb W (W.setCell ⟨jb, k * 3 + 2, none⟩ (.int .i64 (v : Int))) := by
  obtain ⟨h1, h2⟩ := h.jobs.set k hk v
  refine ⟨⟨row_grown h.box h2 (fun e => h.ne e.symm), h1, h.own.kept h2 ?_, h.le, h.mx, h.lt, h.qB, h.jB, Nat.le_trans h.bW h2.size, h.len⟩, h2⟩
  rcases e : av.ownBlock with _ | j
  · exact .inl rfl
  · have := (h.own.lt j e).1
    have := h.jB
    exact .inr (fun e => by cases e; omega)
theorem Qu.put {W : World} {B QB jb n nc gb m : Nat} {av : Value} {F Y rem : Nat → Nat} {a : List Nat} {g : Nat → Int} (h : Qu W B QB jb n nc av F Y rem a) (hG : Gn W gb m g) (hB : gb < B) (h1 : gb ≠ QB) (h2 : gb ≠ jb) (k : Nat) (hk : k < m) (v : Int) : Qu (W.setCell ⟨gb, k, none⟩ (.int .i64 v)) B QB jb n nc av F Y rem a := by
  obtain ⟨_, h3⟩ := hG.set k hk v
  obtain ⟨cs, h4, h5⟩ := h.jobs
  refine ⟨row_grown h.box h3 (fun e => h1 e.symm), ⟨cs, row_grown h4 h3 (fun e => h2 e.symm), h5⟩, h.own.kept h3 ?_, h.le, h.mx, h.lt, h.qB, h.jB, Nat.le_trans h.bW h3.size, h.len⟩
  rcases e : av.ownBlock with _ | j
  · exact .inl rfl
  · have := (h.own.lt j e).1
    exact .inr (fun e => by cases e; omega)
/-- one tick, so far -/
structure TK (W2 W : World) (B B2 gb m QB jb2 nc2 t n0 n : Nat) (F Y N rem0 rem : Nat → Nat) (A L : List Nat) (av ov : Value) (gone0 gone : Nat → Int) : Prop where
  mt : MT W2 W B B2 gb m QB jb2 nc2 F Y rem A L av ov gone
  ti : TI ⟨m, F, Y, N⟩ A L rem
  sv : Srv ⟨m, F, Y, N⟩ t n0 n rem0 rem gone0 gone
  af : ∀ x ∈ A, F x ≤ t
  lf : ∀ x ∈ L, t < F x
  rl : ∀ i, i < m → rem i ≤ 1000
/-- the first one is served, but is not done -/
theorem TK.part {W2 W : World} {B B2 X jb gb m QB jb2 rb nc nc2 t n0 n : Nat} {F Y N r rem0 rem : Nat → Nat} {A L : List Nat} {av ov : Value} {gone0 gone : Nat → Int} (hS : SW W2 B B2 X jb gb QB jb2 rb m nc F Y N r) (h : TK W2 W B B2 gb m QB jb2 nc2 t n0 n F Y N rem0 rem A L av ov gone0 gone) (h0 : 0 < A.length) (hn : 0 < n) (q : Nat) (hq : 0 < q) (hr : rem (nth A 0) = n + q) :
    TK W2 (W.setCell ⟨jb2, nth A 0 * 3 + 2, none⟩ (.int .i64 (q : Int))) B B2 gb m QB jb2 nc2 t n0 0 F Y N rem0 (upd rem (nth A 0) q) A L av ov gone0 gone := by
  have hmem : nth A 0 ∈ A := by rw [nth_get h0]; exact List.getElem_mem _
  have hk : nth A 0 < m := h.ti.lt _ (List.mem_append_left _ hmem)
  obtain ⟨hq1, hq2⟩ := h.mt.q.serve _ hk q
  have hkp : Kp B2 [gb, QB, jb2] W (W.setCell ⟨jb2, nth A 0 * 3 + 2, none⟩ (.int .i64 (q : Int))) := Kp.of_gb hq2 h.mt.q.bW (.inr (by simp))
  have hX : ∀ x ∈ [gb, QB, jb2], x < B := by
    intro x hx
    simp only [List.mem_cons, List.not_mem_nil, or_false] at hx
    rcases hx with rfl | rfl | rfl
    · exact hS.gB
    · exact hS.qB
    · exact hS.jB
  refine ⟨⟨hq1, h.mt.hp, own_kp h.mt.o h.mt.ob hkp hX, h.mt.ob, ?_, h.mt.kp.trans hkp⟩, h.ti.part _ q (List.mem_append_left _ hmem) hq, ?_, h.af, h.lf, fun i hi => ?_⟩
  · obtain ⟨cs, g1, g2⟩ := h.mt.g.ex
    exact ⟨cs, row_grown g1 hq2 hS.gj, g2⟩
  · have h5 := h.sv.step (nth A 0) hk (h.af _ hmem) (by omega) hn (h.ti.first hS.m9 h.lf h.mt.hp) n (Nat.le_refl _) (by omega) hn gone (fun i hi => by rw [if_neg (fun h7 => by omega)])
    rw [Nat.sub_self, hr, Nat.add_sub_cancel_left] at h5
    exact h5
  · by_cases e : i = nth A 0
    · subst e; rw [upd_self]; have := h.rl _ hk; omega
    · rw [upd_ne _ _ e]; exact h.rl i hi
/-- the first one is done: ahead of the queue's Pop -/
structure TP (W2 W : World) (B B2 gb m QB jb2 nc2 t n0 n : Nat) (F Y N rem0 rem : Nat → Nat) (A L : List Nat) (av ov : Value) (gone0 gone : Nat → Int) : Prop where
  mt : MT W2 W B B2 gb m QB jb2 nc2 F Y (upd rem (nth A 0) 0) A L av ov (fun i => if i = nth A 0 then ((t + 1 : Nat) : Int) else gone i)
  ti : ∀ A', A.Perm (A' ++ [nth A 0]) → TI ⟨m, F, Y, N⟩ A' L (upd rem (nth A 0) 0)
  sv : Srv ⟨m, F, Y, N⟩ t n0 n rem0 (upd rem (nth A 0) 0) gone0 (fun i => if i = nth A 0 then ((t + 1 : Nat) : Int) else gone i)
  af : ∀ x ∈ A, F x ≤ t
  lf : ∀ x ∈ L, t < F x
  rl : ∀ i, i < m → upd rem (nth A 0) 0 i ≤ 1000
theorem TK.done {W2 W : World} {B B2 X jb gb m QB jb2 rb nc nc2 t n0 n : Nat} {F Y N r rem0 rem : Nat → Nat} {A L : List Nat} {av ov : Value} {gone0 gone : Nat → Int} (hS : SW W2 B B2 X jb gb QB jb2 rb m nc F Y N r) (h : TK W2 W B B2 gb m QB jb2 nc2 t n0 n F Y N rem0 rem A L av ov gone0 gone) (h0 : 0 < A.length) (q : Nat) (hr : n = rem (nth A 0) + q) :
    TP W2 ((W.setCell ⟨jb2, nth A 0 * 3 + 2, none⟩ (.int .i64 ((0 : Nat) : Int))).setCell ⟨gb, nth A 0, none⟩ (.int .i64 ((t + 1 : Nat) : Int))) B B2 gb m QB jb2 nc2 t n0 q F Y N rem0 rem A L av ov gone0 gone := by
  have hmem : nth A 0 ∈ A := by rw [nth_get h0]; exact List.getElem_mem _
  have hk : nth A 0 < m := h.ti.lt _ (List.mem_append_left _ hmem)
  have hps := h.ti.ps _ (List.mem_append_left L hmem)
  obtain ⟨hq1, hq2⟩ := h.mt.q.serve _ hk 0
  have hg1 : Gn (W.setCell ⟨jb2, nth A 0 * 3 + 2, none⟩ (.int .i64 ((0 : Nat) : Int))) gb m gone := by
    obtain ⟨cs, g1, g2⟩ := h.mt.g.ex
    exact ⟨cs, row_grown g1 hq2 hS.gj, g2⟩
  obtain ⟨hg2, hg3⟩ := hg1.set (nth A 0) hk ((t + 1 : Nat) : Int)
  have hgB2 : gb < B2 := Nat.lt_of_lt_of_le hS.gB hS.b2
  have hq3 := hq1.put hg1 hgB2 hS.gq hS.gj (nth A 0) hk ((t + 1 : Nat) : Int)
  have hkp : Kp B2 [gb, QB, jb2] W ((W.setCell ⟨jb2, nth A 0 * 3 + 2, none⟩ (.int .i64 ((0 : Nat) : Int))).setCell ⟨gb, nth A 0, none⟩ (.int .i64 ((t + 1 : Nat) : Int))) := (Kp.of_gb hq2 h.mt.q.bW (.inr (by simp))).trans (Kp.of_gb hg3 hq1.bW (.inr (by simp)))
  have hX : ∀ x ∈ [gb, QB, jb2], x < B := by
    intro x hx
    simp only [List.mem_cons, List.not_mem_nil, or_false] at hx
    rcases hx with rfl | rfl | rfl
    · exact hS.gB
    · exact hS.qB
    · exact hS.jB
  refine ⟨⟨hq3, h.mt.hp, own_kp h.mt.o h.mt.ob hkp hX, h.mt.ob, hg2, h.mt.kp.trans hkp⟩, fun A' hp => h.ti.pop _ hp, ?_, h.af, h.lf, fun i hi => ?_⟩
  · have h5 := h.sv.step (nth A 0) hk (h.af _ hmem) hps (by omega) (h.ti.first hS.m9 h.lf h.mt.hp) (rem (nth A 0)) (by omega) (Nat.le_refl _) hps (fun i => if i = nth A 0 then ((t + 1 : Nat) : Int) else gone i) (fun i hi => by
      rw [Nat.sub_self]
      by_cases e : i = nth A 0
      · rw [if_pos e, if_pos ⟨e, rfl⟩]
      · rw [if_neg e, if_neg (fun h7 => e h7.1)])
    rw [Nat.sub_self, hr, Nat.add_sub_cancel_left] at h5
    exact h5
  · by_cases e : i = nth A 0
    · subst e; rw [upd_self]; omega
    · rw [upd_ne _ _ e]; exact h.rl i hi
/-- Pop -/
theorem TP.pop {W2 W W' : World} {B B2 X jb gb m QB jb2 rb nc nc2 t n0 n : Nat} {F Y N r rem0 rem : Nat → Nat} {A L : List Nat} {av ov : Value} {gone0 gone : Nat → Int} (hS : SW W2 B B2 X jb gb QB jb2 rb m nc F Y N r) (h : TP W2 W B B2 gb m QB jb2 nc2 t n0 n F Y N rem0 rem A L av ov gone0 gone) (hp : PopR W W' B2 QB jb2 m nc2 F Y (upd rem (nth A 0) 0) A) :
    ∃ A' av', TK W2 W' B B2 gb m QB jb2 nc2 t n0 n F Y N rem0 (upd rem (nth A 0) 0) A' L av' ov gone0 (fun i => if i = nth A 0 then ((t + 1 : Nat) : Int) else gone i) := by
  obtain ⟨⟨av', A', hq, hpm, hH⟩, hk⟩ := hp
  have hkp : Kp B2 [gb, QB, jb2] W W' := hk.mono (by simp)
  have hX : ∀ x ∈ [gb, QB, jb2], x < B := by
    intro x hx
    simp only [List.mem_cons, List.not_mem_nil, or_false] at hx
    rcases hx with rfl | rfl | rfl
    · exact hS.gB
    · exact hS.qB
    · exact hS.jB
  refine ⟨A', av', ⟨hq, hH, own_kp h.mt.o h.mt.ob hkp hX, h.mt.ob, h.mt.g.kept hk (Nat.lt_of_lt_of_le hS.gB hS.b2) (by simpa using hS.gq), h.mt.kp.trans hkp⟩, h.ti A' hpm, h.sv, fun x hx => h.af x (hpm.mem_iff.2 (List.mem_append_left _ hx)), h.lf, h.rl⟩
end Go.Proofs.Ytfbchmihkndfaaa
