/- PassesDue: share. -/
import Derived.Test.YtfbchmihkndfaaaDue19
namespace Go.Proofs.Ytfbchmihkndfaaa
set_option linter.unusedVariables false
open Go.RowKit

/-- what share answers -/
structure ShareR (W0 W : World) (m : Nat) (F Y N r : Nat → Nat) (e : Ending) : Prop where
  ex : ∃ gb rem gone, e = .returned (.slice (some ⟨gb, 0, none⟩) m m) ∧ W0.heap.size ≤ gb ∧ Gn W gb m gone ∧ DInv ⟨m, F, Y, N⟩ r 20001 rem gone
  blw : Below W0.heap.size W0 W
/-- the four blocks of share's head -/
structure ShH (W0 W : World) (jb m nc X gb QB j2 n2 : Nat) (F Y N : Nat → Nat) : Prop where
  x : W.heap[X]? = some (.cells #[.slice (some ⟨jb, 0, none⟩) m nc] 30)
  g : Gn W gb m (fun _ => 0)
  q : W.heap[QB]? = some (.cells #[.slice (some ⟨j2, 0, none⟩) m n2, .slice none 0 0] 68)
  jt : JbAt W j2 m F Y N
  jo : JbAt W jb m F Y N
  hj : jb < W0.heap.size
  hx : X = W0.heap.size
  hg : X < gb
  h2 : gb < j2
  hq : j2 < QB
  hw : QB < W.heap.size
  le : m ≤ n2
  mx : n2 ≤ maxLen
  b : Below W0.heap.size W0 W
set_option maxRecDepth 1000000 in
set_option maxHeartbeats 4000000 in
theorem shr_h (wa : Option Addr) (wn wc jb m nc : Nat) (F Y N : Nat → Nat) (W0 : World) (hm1 : 1 ≤ m) (hm9 : m ≤ 9) (hle : m ≤ nc) (hmx : nc ≤ maxLen) (hj : JbAt W0 jb m F Y N) (P : Ending → World → Prop)
    (h : ∀ X gb QB j2 n2 W (t : Array Value), ShH W0 W jb m nc X gb QB j2 n2 F Y N → t.size = 130 → SA (fun i => t.getD i undef) wa wn wc X gb m QB jb nc (.slice none 0 0) 0 → Code.wp Try.prog (pieceOf Try.f11 [1, 1, 1, 1, 0, 1]) (Exit.then (fun a w => Code.wp Try.prog (pieceOf Try.f11 [1, 1, 1, 1, 1]) (bodyPost Try.prog Try.f11 P) a w) (bodyPost Try.prog Try.f11 P)) ⟨t, []⟩ W) :
    Calls Try.prog 11 #[.slice wa wn wc, .slice (some ⟨jb, 0, none⟩) m nc] W0 P := by
  have H := hid h
  clear h
  have hjl : jb < W0.heap.size := by obtain ⟨cs, h1, _⟩ := hj; exact row_lt h1
  have b1 := below_alloc W0 (.cells #[.slice (some ⟨jb, 0, none⟩) m nc] 30)
  have r1 := heap_alloc_new W0 (.cells #[.slice (some ⟨jb, 0, none⟩) m nc] 30)
  have hs1 : Hid ((W0.alloc (.cells #[.slice (some ⟨jb, 0, none⟩) m nc] 30)).heap.size = W0.heap.size + 1) := World.size_alloc _ _
  have hj1 := hj.below b1
  have hmk := run_mkM m hm9
  have hgs := fun u => Gn.start u m
  have hbs := fun u => below_alloc u (.cells (madeCells #[.int .i64 0] (m * 1)) 3)
  have hss : ∀ u : World, (u.alloc (.cells (madeCells #[.int .i64 0] (m * 1)) 3)).heap.size = u.heap.size + 1 := fun u => World.size_alloc _ _
  obtain ⟨X, hX⟩ : ∃ X, X = W0.heap.size := ⟨_, rfl⟩
  rw [← hX] at r1 hs1 b1 hjl
  have HX := hid hX
  generalize madeCells #[.int .i64 0] (m * 1) = MB at *
  unfold maxLen at hmx
  clear hX hj
  go_enter Try.func11, Try.ntmps11
  refine wp_seq_k (fun K0 hK0 => ?_)
  go_wp2_with fail
  rw [← HX.out]
  refine hK0.out _ _ ?_
  have c1 : (W0.alloc (.cells #[.slice (some ⟨jb, 0, none⟩) m nc] 30)).cell? ⟨X, 0, none⟩ = some (.slice (some ⟨jb, 0, none⟩) m nc) := by rw [cell_of_row _ _ _ _ _ _ r1]; rfl
  have B1 := hid b1
  have R1 := hid r1
  have J1 := hid hj1
  clear b1 r1 hj1
  generalize W0.alloc (.cells #[.slice (some ⟨jb, 0, none⟩) m nc] 30) = W1 at *
  refine wp_seq_k (fun K1 hK1 => ?_)
  go_wp2_with fail
  refine hK1.out _ _ ?_
  have G2 := hid (hgs W1)
  have B2 := hid (B1.out.trans ((hbs W1).mono (by rw [hs1.out]; omega)))
  have R2 := hid (row_below R1.out (hbs W1))
  have J2 := hid (J1.out.below (hbs W1))
  have hs2 := hid (hss W1)
  obtain ⟨gb, hgb⟩ : ∃ gb, gb = W1.heap.size := ⟨_, rfl⟩
  rw [← hgb] at G2 hs2 ⊢
  have hgX := hgb.trans hs1.out
  have HgX := hid hgX
  clear hgX hgb hgs hbs hss hmk c1 R1 J1 B1
  generalize W1.alloc (.cells MB 3) = V2 at *
  have c2 : V2.cell? ⟨X, 0, none⟩ = some (.slice (some ⟨jb, 0, none⟩) m nc) := by rw [cell_of_row _ _ _ _ _ _ R2.out]; rfl
  have hcl := clone_j (nc := nc) J2.out hm1 hm9
  refine wp_seq_k (fun K2 hK2 => ?_)
  go_wp2_with fail
  refine hcl.mono ?_
  rintro e W3 ⟨⟨j2, n2, rfl, hj2, hj2l, hle2, hmx2, hjj⟩, hb3⟩
  have R3 := hid (row_below R2.out hb3)
  have G3 := hid (G2.out.below hb3)
  have J3 := hid (J2.out.below hb3)
  have J32 := hid hjj
  have B3 := hid (B2.out.trans (hb3.mono (by rw [hs2.out, HgX.out]; omega)))
  have Hmx2 := hid hmx2
  have hs3 := hid hb3.size
  clear hcl hjj hb3 c2 R2 G2 J2 B2 hmx2
  go_wp2_with fail
  refine hK2.out _ _ ?_
  have b4 := below_alloc W3 (.cells #[.slice (some ⟨j2, 0, none⟩) m n2, .slice none 0 0] 68)
  have r4 := hid (heap_alloc_new W3 (.cells #[.slice (some ⟨j2, 0, none⟩) m n2, .slice none 0 0] 68))
  have hs4 : Hid ((W3.alloc (.cells #[.slice (some ⟨j2, 0, none⟩) m n2, .slice none 0 0] 68)).heap.size = W3.heap.size + 1) := World.size_alloc _ _
  have R4 := hid (row_below R3.out b4)
  have G4 := hid (G3.out.below b4)
  have J4 := hid (J3.out.below b4)
  have J42 := hid (J32.out.below b4)
  have B4 := hid (B3.out.trans (b4.mono (by have := hs3.out; rw [hs2.out, HgX.out] at this; omega)))
  obtain ⟨QB, hQB⟩ : ∃ QB, QB = W3.heap.size := ⟨_, rfl⟩
  rw [← hQB] at r4 hs4 ⊢
  have HQB := hid hQB
  clear hQB b4 R3 G3 J3 J32 B3
  generalize W3.alloc (.cells #[.slice (some ⟨j2, 0, none⟩) m n2, .slice none 0 0] 68) = W4 at *
  have HH : ShH W0 W4 jb m nc X gb QB j2 n2 F Y N := ⟨R4.out, G4.out, r4.out, J42.out, J4.out, by rw [← HX.out]; exact hjl, HX.out, by rw [HgX.out]; omega, by rw [hs2.out] at hj2; omega, by rw [HQB.out]; exact hj2l, by rw [hs4.out]; exact Nat.lt_succ_self _, hle2, Hmx2.out, by rw [← HX.out]; exact B4.out⟩
  have HHH := hid HH
  clear HH R4 G4 J4 J42 B4 r4 hs4 hs3 hs2 hs1
  refine wp_seq_k (fun K3 hK3 => ?_)
  go_wp2_with fail
  refine hK3.out _ _ ?_
  have c4 : W4.cell? ⟨X, 0, none⟩ = some (.slice (some ⟨jb, 0, none⟩) m nc) := by rw [cell_of_row _ _ _ _ _ _ HHH.out.x]; rfl
  refine wp_seq ?_
  refine wp_seq_k (fun K5 hK5 => ?_)
  go_wp2_with fail
  refine hK5.out _ _ ?_
  exact H.out X gb QB j2 n2 W4 _ HHH.out rfl ⟨rfl, rfl, rfl, rfl, rfl, rfl, rfl, rfl⟩
end Go.Proofs.Ytfbchmihkndfaaa
/- PassesDue: share, all joined. -/
namespace Go.Proofs.Ytfbchmihkndfaaa
set_option linter.unusedVariables false
open Go.RowKit

theorem Hp.nil (K : Nat → Nat) : Hp K [] 0 := fun j h1 h2 => by omega
set_option maxRecDepth 1000000 in
set_option maxHeartbeats 4000000 in
theorem share_ok (wa : Option Addr) (wc jb m nc : Nat) (V : Wins) (F Y N : Nat → Nat) (W0 : World) (hV : WinOk V) (hw : WAt W0 wa wc V) (hJ : JobOk m F Y N) (hm1 : 1 ≤ m) (hle : m ≤ nc) (hmx : nc ≤ maxLen) (hj : JbAt W0 jb m F Y N) :
    Calls Try.prog 11 #[.slice wa V.n wc, .slice (some ⟨jb, 0, none⟩) m nc] W0 fun e w' => ShareR W0 w' m F Y N (V.rt V.n) e := by
  have hF : ∀ i, i < m → F i ≤ 1000 := fun i hi => Nat.le_trans (hJ.fy i hi) (hJ.y i hi)
  have hm9 := hJ.n
  refine shr_h wa V.n wc jb m nc F Y N W0 hm1 hm9 hle hmx hj _ ?_
  intro X gb QB j2 n2 W4 t hH ht hSA
  have hjX : jb < X := by have := hH.hj; have := hH.hx; omega
  have hlt : X < gb ∧ gb < j2 ∧ j2 < QB ∧ QB < W4.heap.size := ⟨hH.hg, hH.h2, hH.hq, hH.hw⟩
  obtain ⟨l1, l2, l3, l4⟩ := hlt
  refine Tri.use (shr_l1 wa V.n wc X gb m QB jb nc W4.heap.size F Y N W4 hm9 ⟨hle, hmx⟩ hF hH.jo (by omega) (by omega) hH.g (Nat.le_refl _) (by omega)) ht ⟨hSA, rfl⟩ ?_
  rintro y5 W5 ⟨ov, ⟨s0, s3, s5, s6, s7, s22, s23, s24⟩, ho5, hG5, hk5⟩
  show Code.wp Try.prog (pieceOf Try.f11 [1, 1, 1, 1, 1]) _ _ _
  obtain ⟨oa, oc, rfl, _, _⟩ := ho5.form
  have hL9 : (some_ N m).length ≤ 9 := Nat.le_trans (some_len N m) hm9
  have hord := ord_j W4.heap.size X m jb nc F Y N (some_ N m) oa oc W5 hk5.size hL9 ⟨hk5.row hH.x (by omega) (by simp; omega), hH.jo.kept hk5 (by omega) (by simp; omega), hle, hmx, hF⟩ ho5 (fun x hx => ((some_mem N m x).1 hx).1)
  have HSm := hid (fun x => some_mem N m x)
  have HV := hid hV
  have HW := hid hw
  have HJ := hid hJ
  have HH := hid hH
  have HF := hid hF
  have HG5 := hid hG5
  have HK5 := hid hk5
  clear hw hV hj hF hJ hH ho5 hG5 hk5 hSA
  conv => arg 2; whnf
  rw [fr130]
  simp only [s0, s3, s5, s6, s7, s22, s23, s24]
  clear s0 s3 s5 s6 s7 s22 s23 s24
  refine wp_seq_k (fun K1 hK1 => ?_)
  generalize hsm : some_ N m = S at *
  have Hsm := hid hsm
  clear hsm
  go_wp2_with fail
  refine hord.mono ?_
  intro e W6 h6
  obtain rfl := h6.e
  have H6 := hid h6
  clear h6 hord
  go_wp2_with fail
  refine hK1.out _ _ ?_
  have hb06 : Below W0.heap.size W0 W6 := by
    have h1 := HH.out.b
    have h2 := HK5.out.below (b0 := W0.heap.size) (by have := HH.out.hx; omega) (fun k hk => by rw [List.mem_singleton] at hk; have := HH.out.hx; omega)
    have h3 := H6.out.kp.below (b0 := W0.heap.size) (by have := HH.out.hx; omega) (fun k hk => by simp at hk)
    exact (h1.trans h2).trans h3
  have hroom := room_ok wa wc V W6 HV.out (HW.out.below' hb06)
  have HB06 := hid hb06
  clear hb06 HW
  refine wp_seq_k (fun K2 hK2 => ?_)
  refine wp_seq_k (fun K3 hK3 => ?_)
  go_wp2_with fail
  refine hroom.mono ?_
  rintro e W7 ⟨⟨rb, rfl, hrb, hIv⟩, hb7⟩
  have HI := hid hIv
  have HB7 := hid hb7
  have HRB := hid hrb
  clear hroom hIv hb7 hrb
  go_wp2_with fail
  refine hK3.out _ _ ?_
  have hrl : rb < W7.heap.size := by obtain ⟨cs, h1, _⟩ := HI.out; exact row_lt h1
  obtain ⟨L', hll, hown, hperm, hdesc⟩ := H6.out.ex
  have hk46 : Kp W4.heap.size [gb] W4 W6 := HK5.out.trans (H6.out.kp.mono (by simp))
  have hk47 : Kp W4.heap.size [gb] W4 W7 := hk46.trans (Kp.of_below HB7.out hk46.size)
  have hS : SW W7 W4.heap.size W7.heap.size X jb gb QB j2 rb m nc F Y N (V.rt V.n) := by
    have := hk47.size
    have := hk46.size
    have := HRB.out
    have hj := HJ.out
    exact {
      x := hk47.row HH.out.x (by omega) (by simp; omega)
      jobs := HH.out.jo.kept hk47 (by omega) (by simp; omega)
      iv := HI.out
      gB := by omega
      qB := by omega
      jB := by omega
      xB := by omega
      jbB := by omega
      rB := hrl
      xn := by simp; omega
      jn := by simp; omega
      rn := by simp; omega
      gq := by omega
      gj := by omega
      qj := by omega
      b2 := by omega
      bw := Nat.le_refl _
      m9 := hm9
      le := hle
      mx := hmx
      f := HF.out
      y := hj.y
      n := hj.b }
  have hown7 := hown.below HB7.out
  have hM : MT W7 W7 W4.heap.size W7.heap.size gb m QB j2 n2 F Y N [] L' (.slice none 0 0) (.slice oa L'.length oc) (g1 F N m) := by
    have := hk47.size
    refine ⟨⟨hk47.row HH.out.q (by omega) (by simp; omega), HH.out.jt.kept hk47 (by omega) (by simp; omega), OwnAt.nil _ _ _, HH.out.le, HH.out.mx, fun x hx => by simp at hx, by omega, by omega, Nat.le_refl _, by simp⟩, Hp.nil _, by rw [hll]; exact hown7, fun k hk => by rw [hll] at hk; exact (hown7.lt k hk).2, (HG5.out.kept H6.out.kp (by omega) (by simp)).below HB7.out, Kp.refl _ _ _⟩
  have hltL : ∀ x ∈ L', x < m := fun x hx => ((HSm.out x).1 (hperm.mem_iff.1 hx)).1
  have hT : TI ⟨m, F, Y, N⟩ [] L' N := TI.start ⟨m, F, Y, N⟩ L' (by show L'.Perm (some_ N m); rw [Hsm.out]; exact hperm) (desc_kf hdesc hltL HF.out)
  have hD : DInv ⟨m, F, Y, N⟩ (V.rt V.n) 0 N (g1 F N m) := DInv.start _ _ _ (fun i hi => by show g1 F N m i = _; unfold g1; rw [if_pos hi]) HJ.out.fy
  have hr : ∀ t, V.rt V.n t ≤ 10000 := fun t => by
    have h1 := V.rt_bd HV.out.ra V.n (Nat.le_refl _) t
    have h2 := HV.out.n
    omega
  have HM := hid hM
  have HT := hid hT
  have HD := hid hD
  have ht9 := hid (shr_t W7 W4.heap.size W7.heap.size X jb gb QB j2 rb m nc n2 F Y N (V.rt V.n) hS hr)
  have hll2 : S.length = L'.length := hll.symm
  rw [hll2]
  clear hM hT hD hr hS hown hown7 hdesc hperm hltL hll hll2
  refine Tri.use ht9.out rfl ⟨0, N, [], L', .slice none 0 0, oa, oc, g1 F N m, Nat.zero_le _, ⟨rfl, rfl, rfl, rfl, rfl, rfl, rfl⟩, HM.out, HT.out, HD.out, fun x hx => by simp at hx⟩ ?_
  rintro y9 W9 ⟨rem, gone, s5, hg9, hd9, hk9⟩
  refine hK2.out _ _ ?_
  have HG9 := hid hg9
  have HD9 := hid hd9
  have HB9 := hid ((HB06.out.trans (HB7.out.mono HB06.out.size)).trans (hk9.below (b0 := W0.heap.size) (by have := HB06.out.size; have := HB7.out.size; omega) (fun k hk => by
    have := HH.out.hx
    simp only [List.mem_cons, List.not_mem_nil, or_false] at hk
    rcases hk with rfl | rfl | rfl <;> omega)))
  have hgx : W0.heap.size ≤ gb := by have := HH.out.hx; omega
  clear hg9 hd9 hk9 ht9 HM HT HD
  rw [fr130]
  simp only [s5]
  clear s5
  go_wp2_with fail
  go_ret
  exact ⟨⟨gb, rem, gone, rfl, hgx, HG9.out, HD9.out⟩, HB9.out⟩
end Go.Proofs.Ytfbchmihkndfaaa
/- PassesDue: share of no jobs. -/
namespace Go.Proofs.Ytfbchmihkndfaaa
set_option linter.unusedVariables false
open Go.RowKit

theorem DInv.empty (F Y N r : Nat → Nat) (t : Nat) (rem : Nat → Nat) (gone : Nat → Int) : DInv ⟨0, F, Y, N⟩ r t rem gone :=
  ⟨fun i h => absurd h (Nat.not_lt_zero i), fun i h => absurd h (Nat.not_lt_zero i), fun D => ⟨t, Nat.le_refl _, by rw [rm_none _ _ _ (Nat.le_refl _)]; exact Nat.le_refl _⟩, fun a b => Nat.zero_le _, fun i h => absurd h (Nat.not_lt_zero i), fun i h => absurd h (Nat.not_lt_zero i), fun i h => absurd h (Nat.not_lt_zero i), fun a b _ _ _ => Nat.zero_le _, fun t' D _ _ i h => absurd h (Nat.not_lt_zero i)⟩
set_option maxRecDepth 100000 in
theorem clone_jnil (w : World) : Calls Try.prog 25 #[.slice none 0 0] w fun e w' => e = .returned (.slice none 0 0) ∧ w' = w := by
  have hk := fun (w : World) => Lib.run_eql_slice_nil (P := Try.prog) w 30 32 none 0 0 0 0 Try.underlying30
  go_enter Try.func25, Try.ntmps25
  go_wp2
  go_ret
  exact ⟨rfl, rfl⟩
set_option maxRecDepth 1000000 in
theorem lenE (QB : Nat) (w : World) (h : w.heap[QB]? = some (.cells #[.slice none 0 0, .slice none 0 0] 68)) : Calls Try.prog 30 #[.pointer (some ⟨QB, 0, none⟩)] w fun e w' => e = .returned (.int .i64 0) ∧ w' = w := by
  have c1 : w.cell? ⟨QB, 1, none⟩ = some (.slice none 0 0) := by rw [cell_of_row _ _ _ _ _ _ h]; rfl
  clear h
  go_enter Try.func30, Try.ntmps30
  go_wp2_with fail
  go_ret
  exact ⟨rfl, rfl⟩
def E0I (W7 : World) (X gb QB rb : Nat) (y : Nat → Value) (W : World) : Prop :=
  ∃ t : Nat, t ≤ 20001 ∧ ST y X gb 0 QB rb (.slice none 0 0) t ∧ Below W7.heap.size W7 W
set_option maxRecDepth 1000000 in
set_option maxHeartbeats 4000000 in
theorem shr_t0 (W7 : World) (X gb QB rb : Nat) (r : Nat → Nat) (hq : W7.heap[QB]? = some (.cells #[.slice none 0 0, .slice none 0 0] 68)) (hI : Iv W7 rb (fun t => (r t : Int))) :
    Tri Try.prog 130 (pieceOf Try.f11 [1, 1, 1, 1, 1, 1, 0, 1]) (E0I W7 X gb QB rb)
      (fun _ _ y w => y 5 = .slice (some ⟨gb, 0, none⟩) 0 0 ∧ Below W7.heap.size W7 w) := by
  rintro Q y w hP hQ
  have HQ := hid hQ
  have Hq := hid hq
  have HI := hid hI
  clear hQ hq hI
  conv => arg 2; whnf
  refine wp_block ?_
  refine wp_loop_fr 130 (E0I W7 X gb QB rb) (fun y' _ => 20001 - (intOf (y' 51)).toNat) ⟨fr_size _ _, rfl, by
    obtain ⟨t, h0, h1, h2⟩ := hP
    exact ⟨t, h0, h1.fr, h2⟩⟩ ?_
  clear hP
  rintro z W ⟨t, htb, ⟨s3, s5, s6, s7, s49, s50, s51⟩, hB⟩
  have HB := hid hB
  rw [fr130]
  simp only [s3, s5, s6, s7, s49, s50, s51]
  clear s3 s5 s6 s7 s49 s50 s51
  by_cases hlt : t < 20001
  · have d1 : decide ((t : Int) < 20001) = true := decide_eq_true (by omega)
    have d2 : decide (t < 20001) = true := decide_eq_true hlt
    have hiv : Iv W rb (fun t => (r t : Int)) := by
      obtain ⟨cs, h1, h2⟩ := HI.out
      exact ⟨cs, row_below h1 hB, h2⟩
    have c0 := hiv.cell t hlt
    have d0 : decide ((0 : Int) < ((0 : Nat) : Int)) = false := rfl
    have hBd : Below W7.heap.size W7 W.drew := hB.drew
    have HBd := hid hBd
    have hlen := lenE QB W.drew (row_below Hq.out hBd)
    clear hiv hB hBd
    generalize r t = rt at *
    go_upto_block 3 with (fail)
    refine wp_block ?_
    refine wp_seq_k (fun K1 hK1 => ?_)
    go_wp2_with fail
    refine hK1.out _ _ ?_
    clear c0
    refine wp_seq_k (fun K2 hK2 => ?_)
    refine wp_block ?_
    refine wp_loop_rounds 1 ?_
    rw [rounds_succ]
    refine wp_seq_k (fun K3 hK3 => ?_)
    refine wp_seq_k (fun K4 hK4 => ?_)
    refine wp_region_can_all [] [0, 1, 2, 3, 4, 5, 6, 7, 8, 9, 10, 11, 12, 13] (Below W.heap.size) (fun _ => Below.refl _ _) (fun _ _ _ h k => h.trans k) (by kernel_rfl) (by kernel_rfl) ?_
    simp only [List.map_cons, List.map_nil, List.contains_nil, List.getD_cons_zero, List.getD_cons_succ]
    generalize W.drew = U at *
    iterate 4 (refine wpL_do rfl (fun w' hw' => (by go_simp; rfl)) ?_; simp only [Act.put, List.setIfInBounds_toArray, List.set_cons_succ, List.set_cons_zero])
    iterate 9 ((with_reducible refine wpL_pass ?_ ?_); (· rfl); simp only [Act.put, List.setIfInBounds_toArray, List.set_cons_succ, List.set_cons_zero])
    iterate 1 (refine wpL_do rfl (fun w' hw' => (by go_simp; rfl)) ?_; simp only [Act.put, List.setIfInBounds_toArray, List.set_cons_succ, List.set_cons_zero])
    refine wpL_nil ?_
    refine hK4.out _ _ ?_
    go_wp2_with fail
    refine hK2.out _ _ ?_
    refine wp_block ?_
    refine wp_loop_rounds 1 ?_
    rw [rounds_succ]
    refine wp_seq_k (fun K5 hK5 => ?_)
    by_cases hr0 : rt = 0
    · subst hr0
      go_wp2_with fail
      refine ⟨rfl, rfl, ⟨t + 1, by omega, ⟨rfl, rfl, rfl, rfl, rfl, rfl, ?_⟩, HBd.out⟩, ?_⟩
      · show Value.int .i64 _ = Value.int .i64 _
        go_num
      · show 20001 - (intOf (Value.int .i64 _)).toNat < _
        simp [intOf]
        omega
    · have d3 : decide ((0 : Int) < (rt : Int)) = true := decide_eq_true (by omega)
      have d4 : decide (0 < rt) = true := decide_eq_true (by omega)
      have d5 : 0 < rt := by omega
      clear hr0
      go_wp2_with fail
      refine hlen.mono ?_
      rintro e w' ⟨rfl, hw'⟩
      rw [hw']
      clear hw' w' hlen
      go_wp2_with fail
      refine ⟨rfl, rfl, ⟨t + 1, by omega, ⟨rfl, rfl, rfl, rfl, rfl, rfl, ?_⟩, HBd.out⟩, ?_⟩
      · show Value.int .i64 _ = Value.int .i64 _
        go_num
      · show 20001 - (intOf (Value.int .i64 _)).toNat < _
        simp [intOf]
        omega
  · obtain rfl : t = 20001 := by omega
    go_wp2_with fail
    exact q_fr (N := 130) HQ.out rfl ⟨rfl, HB.out⟩
end Go.Proofs.Ytfbchmihkndfaaa
