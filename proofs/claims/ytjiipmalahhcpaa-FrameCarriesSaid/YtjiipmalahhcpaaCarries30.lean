/- FrameCarries: what was heard of each channel is what was put, in order. -/
import Derived.Test.YtjiipmalahhcpaaCarries29
namespace Go.Proofs.Ytjiipmalahhcpaa
set_option linter.unusedVariables false
open Go.RowKit

def AoI (W1 : World) (ja : Option Addr) (jn jc n S X Y i : Nat) (s : ST) (m : MA) (ab : Nat) (y : Nat → Value) (W : World) : Prop :=
  ∃ k at_, k ≤ m.A.length ∧ SC y ja jn jc n S X Y i s m ∧ y 35 = .slice (some ⟨ab, 0, none⟩) 7 7 ∧ y 36 = .int .i64 (k : Int) ∧ IR W ab at_ ∧ AtI s k at_ ∧ Below W1.heap.size W1 W
set_option maxRecDepth 1000000 in
set_option maxHeartbeats 8000000 in
theorem car_o (W1 : World) (B1 : Nat) (ja : Option Addr) (jn jc n S X Y i : Nat) (s : ST) (m : MA) (ab room i0 : Nat) (hM1 : CM W1 B1 S X Y n s m) (hR : RelC s m) (hC : CI room jn i0 s) (hab : W1.heap.size ≤ ab) (hj : jn ≤ 200) :
    Tri Try.prog 486 (pieceOf Try.f4 [1, 1, 1, 1, 1, 1, 1, 1, 1, 1, 1, 1, 1, 1, 0]) (fun y w => SC y ja jn jc n S X Y i s m ∧ y 35 = .slice (some ⟨ab, 0, none⟩) 7 7 ∧ IR w ab (fun _ => 0) ∧ Below W1.heap.size W1 w)
      (fun y w y' w' => SC y' ja jn jc n S X Y i s m ∧ Below W1.heap.size W1 w') := by
  rintro Q y w ⟨⟨t1, t5, t6, t8, t10, t12, t13, t14, t15, t16, t17, t18⟩, t35, hI, hb⟩ hQ
  have HQ := hid hQ
  have hPl : m.P.length = s.put.length := by rw [← hR.p, List.length_map]
  have hAl : m.A.length = s.E.length := by have := congrArg List.length hR.a; rwa [List.length_map, List.length_map] at this
  have hP200 : m.P.length ≤ 200 := by have := hC.lp; omega
  have hA200 : m.A.length ≤ 200 := by have := sub_len hC; omega
  have HPl := hid hPl
  have HAl := hid hAl
  have HM1 := hid hM1
  have HR := hid hR
  have HC := hid hC
  have HI := hid hI
  have HB := hid hb
  clear hQ hM1 hR hC hI hb hPl hAl
  conv => arg 2; whnf
  refine wp_seq_k (fun K0 hK0 => ?_)
  rw [fr486]
  simp only [t1, t5, t6, t8, t10, t12, t13, t14, t15, t16, t17, t18, t35]
  clear t1 t5 t6 t8 t10 t12 t13 t14 t15 t16 t17 t18 t35
  go_wp2_with fail
  refine hK0.out _ _ ?_
  refine wp_block ?_
  refine wp_loop_fr 486 (AoI W1 ja jn jc n S X Y i s m ab) (fun y' _ => 300 - (intOf (y' 36)).toNat) ⟨rfl, rfl, 0, (fun _ => 0), Nat.zero_le _, ⟨rfl, rfl, rfl, rfl, rfl, rfl, rfl, rfl, rfl, rfl, rfl, rfl⟩, rfl, rfl, HI.out, at_zero s, HB.out⟩ ?_
  clear HI HB
  rintro z W ⟨k, at_, hk, ⟨s1, s5, s6, s8, s10, s12, s13, s14, s15, s16, s17, s18⟩, s35, s36, hI, hA, hb⟩
  have HI := hid hI
  have HA := hid hA
  have HB := hid hb
  clear hI hA hb
  rw [fr486]
  simp only [s1, s5, s6, s8, s10, s12, s13, s14, s15, s16, s17, s18, s35, s36]
  clear s1 s5 s6 s8 s10 s12 s13 s14 s15 s16 s17 s18 s35 s36
  by_cases hlt : k < m.A.length
  · have d1 : decide ((k : Int) < (m.A.length : Int)) = true := decide_eq_true (by omega)
    have hM := HM1.out.below HB.out
    obtain ⟨ga, hga⟩ := own_addr hM.ra.ow (by omega)
    have hrow := hM.ra.ow
    rw [hga] at hrow
    have hcel : ∀ q, q < 8 → W.cell? ⟨ga, k * 8 + q, none⟩ = (tcl m.A[k])[q]? := fun q hq => own_flat tcl tcl_len hrow rfl k hlt q hq
    have x1 : W.cell? ⟨ga, k * 8 + 1, none⟩ = some (.int .i64 ((m.A[k]).2.1 : Int)) := hcel 1 (by omega)
    obtain ⟨hek, ha1, ha2, ha3⟩ := rel_a HR.out k hlt
    have hE := HC.out.ec s.E[k] (List.getElem_mem _)
    have hc7 := hE.ch
    rw [ha2] at x1
    obtain ⟨c, hc⟩ : ∃ c, c = (s.E[k]).ch := ⟨_, rfl⟩
    rw [← hc] at x1 hc7
    have Hc := hid hc
    have Ha3 := hid ha3
    have Hga := hid hga
    have Hcel := hid hcel
    have hkA : (k : Int) < (m.A.length : Int) := by omega
    have hfind := fun (j : Nat) (h1 : chP c (s.put.take j) = chE c (s.E.take k)) (h2 : j ≤ s.put.length) (h3 : ∀ hk : j < s.put.length, s.put[j].1 = c) => at_find HC.out hek hc.symm hc7 h1 h2 h3
    have Hfind := hid hfind
    have hat0 := HA.out.eq c hc7
    have hat1 := HA.out.le c hc7
    rw [← HPl.out] at hat1
    obtain ⟨an, han⟩ : ∃ an, an = m.A.length := ⟨_, rfl⟩
    rw [hga, ← han]
    rw [← han] at d1 hlt hA200 hkA
    have Han := hid han
    have hcI : (c : Int) < 7 := by omega
    have Hcy := hid hc
    clear hM hrow hcel hE hc ha1 ha2 ha3 hga hfind han hk
    go_upto_block 7 with (fail)
    refine wp_block ?_
    refine wp_seq_k (fun K1 hK1 => ?_)
    go_wp2_with fail
    refine hK1.out _ _ ?_
    clear x1 d1
    refine wp_seq_k (fun K2 hK2 => ?_)
    refine Tri.use (car_8 W1 B1 ja jn jc n S X Y i s m ab k c at_ HM1.out HR.out hc7 hab hat0 hat1 hP200) rfl ⟨⟨rfl, rfl, rfl, rfl, rfl, rfl, ?_, rfl, rfl, rfl, rfl, rfl⟩, ⟨rfl, rfl, rfl⟩, HI.out, HB.out⟩ ?_
    · rw [Hga.out, ← Han.out]; rfl
    rintro y2 W2 ⟨⟨j, hj, ⟨s1, s5, s6, s8, s10, s12, s13, s14, s15, s16, s17, s18⟩, ⟨s35, s36, s37⟩, hI2, hch, hb2⟩, hstop⟩
    refine hK2.out _ _ ?_
    have hstop2 := hstop j hI2
    obtain ⟨hjp, hpj⟩ := Hfind.out j hch (by rw [← HPl.out]; exact hj) (fun hk => by
      obtain ⟨h1, h2⟩ := rel_p HR.out j (by rw [HPl.out]; exact hk)
      rw [h2]
      exact hstop2 _)
    have hjl : j < m.P.length := by rw [HPl.out]; exact hjp
    obtain ⟨_, hpj2⟩ := rel_p HR.out j hjl
    have hMd := HM1.out.below hb2
    obtain ⟨gp, hgp⟩ := own_addr hMd.rp.ow (by omega)
    have hrow := hMd.rp.ow
    rw [hgp] at hrow
    have hcP : ∀ q, q < 7 → W2.cell? ⟨gp, j * 7 + q, none⟩ = (hcl2 m.P[j])[q]? := fun q hq => own_flat hcl2 hcl2_len hrow rfl j hjl q hq
    have hrow2 := hMd.ra.ow
    rw [Hga.out] at hrow2
    have hcA : ∀ q, q < 8 → W2.cell? ⟨ga, k * 8 + q, none⟩ = (tcl (m.A[k]'(by rw [← Han.out]; exact hlt)))[q]? := fun q hq => own_flat tcl tcl_len hrow2 rfl k (by rw [← Han.out]; exact hlt) q hq
    have hrdP := hMd.rp.rd m.P[j] (List.getElem_mem _)
    have hrdA := hMd.ra.rd (m.A[k]'(by rw [← Han.out]; exact hlt)) (List.getElem_mem _)
    have hpk : (m.P[j]).2.2 = (s.E[k]).pk := by
      have h5 := hpj2.symm.trans hpj
      exact (Prod.mk.inj h5).2
    have hak : (m.A[k]'(by rw [← Han.out]; exact hlt)).2.2.2 = (s.E[k]).pk := Ha3.out
    have hkl : k < m.A.length := by rw [← Han.out]; exact hlt
    have hPP : PkAt W2 gp (j * 7 + 1) (m.P[j]).2.1.1 (m.P[j]).2.1.2.1 (m.P[j]).2.1.2.2 (s.E[k]).pk := by
      rw [← hpk]
      exact ⟨hcP 1 (by omega), hcP 2 (by omega), hcP 3 (by omega), hcP 4 (by omega), hcP 5 (by omega), hcP 6 (by omega)⟩
    have hAA : PkAt W2 ga (k * 8 + 1 + 1) (m.A[k]).2.2.1.1 (m.A[k]).2.2.1.2.1 (m.A[k]).2.2.1.2.2 (s.E[k]).pk := by
      rw [← hak]
      exact ⟨hcA 2 (by omega), hcA 3 (by omega), hcA 4 (by omega), hcA 5 (by omega), hcA 6 (by omega), hcA 7 (by omega)⟩
    rw [hpk] at hrdP
    rw [hak] at hrdA
    obtain ⟨q0, _⟩ := hI2.cell c hc7
    rw [show atU at_ c j c = j from if_pos rfl] at q0
    have hlg : gp < W2.heap.size := by
      rcases hrow.2 with ⟨h0, _⟩ | ⟨g1, c1, cu, h0, _, h3, _⟩
      · cases h0
      · cases h0; exact row_lt h3
    have hlg2 : ga < W2.heap.size := by
      rcases hrow2.2 with ⟨h0, _⟩ | ⟨g1, c1, cu, h0, _, h3, _⟩
      · cases h0
      · cases h0; exact row_lt h3
    have hlab : ab < W2.heap.size := by
      obtain ⟨cs, h1, _⟩ := hI2.ex
      exact row_lt h1
    have HI2 := hid hI2
    have HB2 := hid hb2
    have Hch := hid hch
    have Hpj := hid hpj
    have Hjp := hid hjp
    have h64 := hid (car_64 ja jn jc n S X Y i s m ab k c j gp ga (m.P[j]).2.1.1 (m.A[k]).2.2.1.1 (m.P[j]).2.1.2.1 (m.P[j]).2.1.2.2 (m.A[k]).2.2.1.2.1 (m.A[k]).2.2.1.2.2 (s.E[k]).pk hc7 hjl hkl hP200 (by rw [← Han.out]; exact hA200) Hga.out hgp)
    refine wp_seq_k (fun K3 hK3 => ?_)
    refine h64.out _ y2 W2 ⟨⟨s1, s5, s6, s8, s10, s12, s13, s14, s15, s16, s17, s18⟩, ⟨s35, s36, s37⟩, ⟨q0, hlab, hlg, hlg2⟩, hPP, hAA, hrdP.rd, hrdA.rd⟩ ?_
    clear h64 hPP hAA hrdP hrdA q0 hcP hcA hrow hrow2 hMd hpj2 hstop hstop2 hI2 hb2 hch hpj s1 s5 s6 s8 s10 s12 s13 s14 s15 s16 s17 s18 s35 s36 s37
    rintro y3 W3 ⟨⟨s1, s5, s6, s8, s10, s12, s13, s14, s15, s16, s17, s18⟩, ⟨s35, s36, s37⟩, hb3⟩
    refine hK3.out _ _ ?_
    have HI3 := hid (HI2.out.below hb3)
    have HB3 := hid (HB2.out.trans (hb3.mono HB2.out.size))
    obtain ⟨k0, kf⟩ := HI3.out.cell c hc7
    rw [show atU at_ c j c = j from if_pos rfl] at k0
    have a1 : IntKind.i64.wrap ((j : Int) + 1) = (j : Int) + 1 := IntWalk.i64_in _ (by omega)
    have a2 : (j : Int) + 1 = ((j + 1 : Nat) : Int) := by omega
    obtain ⟨g1, g2⟩ := HI3.out.set c (j + 1) hc7
    rw [← a2] at g1 g2
    have G1 := hid g1
    have G2 := hid g2
    clear g1 g2 a2 hb3
    rw [fr486]
    simp only [s1, s5, s6, s8, s10, s12, s13, s14, s15, s16, s17, s18, s35, s36, s37]
    clear s1 s5 s6 s8 s10 s12 s13 s14 s15 s16 s17 s18 s35 s36 s37
    go_wp2_with fail
    have hA2 := at_next HA.out hek Hcy.out.symm Hjp.out Hch.out Hpj.out
    refine ⟨rfl, rfl, ⟨k + 1, _, by omega, ⟨rfl, rfl, rfl, rfl, rfl, rfl, rfl, rfl, rfl, rfl, rfl, rfl⟩, rfl, ?_, ?_, hA2, HB3.out.grown G2.out HB3.out.size (fun k e => by cases e; exact hab)⟩, ?_⟩
    · show Value.int .i64 _ = Value.int .i64 _
      go_num
    · exact G1.out.congr (fun x hx => by unfold atU; split <;> rfl)
    · show 300 - (intOf (Value.int .i64 _)).toNat < _
      simp [intOf]
      omega
  · obtain rfl : k = m.A.length := by omega
    have d1 : decide (((m.A.length : Nat) : Int) < (m.A.length : Int)) = false := decide_eq_false (by omega)
    go_wp2_with fail
    exact q_fr (N := 486) HQ.out rfl ⟨⟨rfl, rfl, rfl, rfl, rfl, rfl, rfl, rfl, rfl, rfl, rfl, rfl⟩, HB.out⟩
end Go.Proofs.Ytjiipmalahhcpaa
/- FrameCarries: nothing waits any more. -/
namespace Go.Proofs.Ytjiipmalahhcpaa
set_option linter.unusedVariables false
open Go.RowKit

def QuI (ja : Option Addr) (jn jc n S X Y i : Nat) (s : ST) (m : MA) (w : World) (y : Nat → Value) (W : World) : Prop :=
  ∃ (k : Nat) (b : Bool), k ≤ 7 ∧ SC y ja jn jc n S X Y i s m ∧ y 38 = .bool b ∧ y 39 = .int .i64 (k : Int) ∧ (b = true → ∀ c, c < k → (s.l c).ps = []) ∧ W = w
set_option maxRecDepth 1000000 in
set_option maxHeartbeats 8000000 in
theorem car_q (B1 : Nat) (ja : Option Addr) (jn jc n S X Y i : Nat) (s : ST) (m : MA) :
    Tri Try.prog 486 (pieceOf Try.f4 [1, 1, 1, 1, 1, 1, 1, 1, 1, 1, 1, 1, 1, 1, 1, 1, 0]) (fun y w => SC y ja jn jc n S X Y i s m ∧ y 38 = .bool true ∧ CM w B1 S X Y n s m)
      (fun y w y' w' => SC y' ja jn jc n S X Y i s m ∧ (∃ b, y' 38 = .bool b ∧ (b = true → ∀ c, c < 7 → (s.l c).ps = [])) ∧ w' = w) := by
  rintro Q y w ⟨⟨t1, t5, t6, t8, t10, t12, t13, t14, t15, t16, t17, t18⟩, t38, hM⟩ hQ
  have HQ := hid hQ
  obtain ⟨q, hq, hpk, hab⟩ := hM.sl.ex
  have hqm := hM.sl.mx
  have hqc := hM.sl.le
  unfold maxLen at hqm
  have Hq := hid hq
  have Hpk := hid hpk
  have Hab := hid hab
  have p4 : w.cell? ⟨S, 4, none⟩ = some (.slice (some ⟨m.qb, 0, none⟩) 7 m.qc) := by rw [cell_of_row _ _ _ _ _ _ hM.sx]; rfl
  have Hlen := hid (fun c hc => ((hM.sl.k c hc).len : (s.l c).ps.length ≤ 200))
  clear hQ hM hq hpk hab
  conv => arg 2; whnf
  refine wp_seq_k (fun K0 hK0 => ?_)
  rw [fr486]
  simp only [t1, t5, t6, t8, t10, t12, t13, t14, t15, t16, t17, t18, t38]
  clear t1 t5 t6 t8 t10 t12 t13 t14 t15 t16 t17 t18 t38
  go_wp2_with fail
  refine hK0.out _ _ ?_
  refine wp_block ?_
  refine wp_loop_fr 486 (QuI ja jn jc n S X Y i s m w) (fun y' _ => 7 - (intOf (y' 39)).toNat) ⟨rfl, rfl, 0, true, Nat.zero_le _, ⟨rfl, rfl, rfl, rfl, rfl, rfl, rfl, rfl, rfl, rfl, rfl, rfl⟩, rfl, rfl, (fun _ c hc => by omega), rfl⟩ ?_
  rintro z W ⟨k, b, hk, ⟨s1, s5, s6, s8, s10, s12, s13, s14, s15, s16, s17, s18⟩, s38, s39, hal, rfl⟩
  have Hal := hid hal
  clear hal
  rw [fr486]
  simp only [s1, s5, s6, s8, s10, s12, s13, s14, s15, s16, s17, s18, s38, s39]
  clear s1 s5 s6 s8 s10 s12 s13 s14 s15 s16 s17 s18 s38 s39
  by_cases hlt : k < 7
  · have d1 : decide ((k : Int) < 7) = true := decide_eq_true (by omega)
    have hk7 : (k : Int) < 7 := by omega
    obtain ⟨_, k1, _, _⟩ := Hq.out.cell k hlt
    have hpn := pk_len (Hpk.out k hlt)
    rw [Hab.out k hlt] at hpn
    have hpm : (q k).pn ≤ 200 := by rw [hpn]; exact Hlen.out k hlt
    have Hpn := hid hpn
    clear hpn
    cases b with
    | true =>
      by_cases he : (q k).pn = 0
      · rw [he] at k1
        have HE : Hid ((s.l k).ps = []) := by
          have := Hpn.out
          rw [he] at this
          exact List.eq_nil_of_length_eq_zero this.symm
        clear he hpm
        go_wp2_with fail
        refine ⟨rfl, rfl, ⟨k + 1, true, by omega, ⟨rfl, rfl, rfl, rfl, rfl, rfl, rfl, rfl, rfl, rfl, rfl, rfl⟩, rfl, ?_, (fun _ c hc => ?_), rfl⟩, ?_⟩
        · show Value.int .i64 _ = Value.int .i64 _
          go_num
        · by_cases e : c = k
          · subst e; exact HE.out
          · exact Hal.out trivial c (by omega)
        · show 7 - (intOf (Value.int .i64 _)).toNat < _
          simp [intOf]
          omega
      · have e1 : (((q k).pn : Int) == 0) = false := by rw [beq_eq_false_iff_ne]; omega
        have e2 : ((q k).pn == 0) = false := by rw [beq_eq_false_iff_ne]; omega
        have e3 : decide (((q k).pn : Int) = 0) = false := decide_eq_false (by omega)
        go_wp2_with fail
        refine ⟨rfl, rfl, ⟨k + 1, false, by omega, ⟨rfl, rfl, rfl, rfl, rfl, rfl, rfl, rfl, rfl, rfl, rfl, rfl⟩, rfl, ?_, (fun h => by cases h), rfl⟩, ?_⟩
        · show Value.int .i64 _ = Value.int .i64 _
          go_num
        · show 7 - (intOf (Value.int .i64 _)).toNat < _
          simp [intOf]
          omega
    | false =>
      go_wp2_with fail
      refine ⟨rfl, rfl, ⟨k + 1, false, by omega, ⟨rfl, rfl, rfl, rfl, rfl, rfl, rfl, rfl, rfl, rfl, rfl, rfl⟩, rfl, ?_, (fun h => by cases h), rfl⟩, ?_⟩
      · show Value.int .i64 _ = Value.int .i64 _
        go_num
      · show 7 - (intOf (Value.int .i64 _)).toNat < _
        simp [intOf]
        omega
  · obtain rfl : k = 7 := by omega
    rw [show ((7 : Nat) : Int) = 7 from rfl]
    go_wp2_with fail
    exact q_fr (N := 486) HQ.out rfl ⟨⟨rfl, rfl, rfl, rfl, rfl, rfl, rfl, rfl, rfl, rfl, rfl, rfl⟩, ⟨b, rfl, Hal.out⟩, rfl⟩
set_option maxRecDepth 1000000 in
set_option maxHeartbeats 8000000 in
theorem car_72 (ja : Option Addr) (jn jc n S X Y i : Nat) (s : ST) (m : MA) (b : Bool) (hb : b = true → m.A.length = m.P.length) :
    Tri Try.prog 486 (pieceOf Try.f4 [1, 1, 1, 1, 1, 1, 1, 1, 1, 1, 1, 1, 1, 1, 1, 1, 1, 0]) (fun y w => SC y ja jn jc n S X Y i s m ∧ y 38 = .bool b)
      (fun y w y' w' => SC y' ja jn jc n S X Y i s m ∧ w' = w) := by
  rintro Q y w ⟨⟨t1, t5, t6, t8, t10, t12, t13, t14, t15, t16, t17, t18⟩, t38⟩ hQ
  have HQ := hid hQ
  clear hQ
  obtain ⟨an, han⟩ : ∃ an, an = m.A.length := ⟨_, rfl⟩
  obtain ⟨pm, hpm⟩ : ∃ pm, pm = m.P.length := ⟨_, rfl⟩
  rw [← han] at t13 hb
  rw [← hpm] at t12 hb
  have Han := hid han
  have Hpm := hid hpm
  have Hb := hid hb
  clear han hpm hb
  conv => arg 2; whnf
  rw [fr486]
  simp only [t1, t5, t6, t8, t10, t12, t13, t14, t15, t16, t17, t18, t38]
  clear t1 t5 t6 t8 t10 t12 t13 t14 t15 t16 t17 t18 t38
  cases b with
  | true =>
    obtain rfl := Hb.out rfl
    go_wp2_with fail
    refine q_fr (N := 486) HQ.out rfl ⟨⟨rfl, rfl, rfl, rfl, rfl, ?_, ?_, rfl, rfl, rfl, rfl, rfl⟩, rfl⟩
    · rw [← Hpm.out]; rfl
    · rw [← Han.out]; rfl
  | false =>
    go_wp2_with fail
    refine q_fr (N := 486) HQ.out rfl ⟨⟨rfl, rfl, rfl, rfl, rfl, ?_, ?_, rfl, rfl, rfl, rfl, rfl⟩, rfl⟩
    · rw [← Hpm.out]; rfl
    · rw [← Han.out]; rfl
end Go.Proofs.Ytjiipmalahhcpaa
/- FrameCarries: was it told by the other one, too? -/
namespace Go.Proofs.Ytjiipmalahhcpaa
set_option linter.unusedVariables false
open Go.RowKit

/-- slots of the last loop -/
structure SZ (y : Nat → Value) (k i c : Nat) : Prop where
  s40 : y 40 = .int .i64 (k : Int)
  s41 : y 41 = .int .i64 (i : Int)
  s42 : y 42 = .int .i64 (c : Int)
/-- a told packet in cells -/
structure TlAt (W : World) (g j : Nat) (fr : Nat) (a : Option Addr) (n c : Nat) (p : PK) : Prop where
  fr : W.cell? ⟨g, j * 8, none⟩ = some (.int .i64 (fr : Int))
  pk : PkAt W g (j * 8 + 1 + 1) a n c p
  rd : Rd W a n c (vb p.ds)
  lt : g < W.heap.size
set_option maxRecDepth 1000000 in
set_option maxHeartbeats 8000000 in
theorem car_79n (ja : Option Addr) (jn jc n S X Y i0 : Nat) (s : ST) (m : MA) (k i c : Nat) (hk : k = m.B.length) :
    Tri Try.prog 486 (pieceOf Try.f4 [1, 1, 1, 1, 1, 1, 1, 1, 1, 1, 1, 1, 1, 1, 1, 1, 1, 1, 1, 0, 1, 0, 0, 1, 0, 0, 1, 0])
      (fun y w => SC y ja jn jc n S X Y i0 s m ∧ SZ y k i c)
      (fun y w y' w' => SC y' ja jn jc n S X Y i0 s m ∧ SZ y' k i c ∧ y' 43 = .bool false ∧ Below w.heap.size w w') := by
  rintro Q y w ⟨⟨s1, s5, s6, s8, s10, s12, s13, s14, s15, s16, s17, s18⟩, ⟨s40, s41, s42⟩⟩ hQ
  have HQ := hid hQ
  subst hk
  have HB := hid ((Below.refl w.heap.size w).drew)
  have e1 : decide (((m.B.length : Nat) : Int) < (m.B.length : Int)) = false := decide_eq_false (by omega)
  clear hQ
  conv => arg 2; whnf
  rw [fr486]
  simp only [s1, s5, s6, s8, s10, s12, s13, s14, s15, s16, s17, s18, s40, s41, s42]
  clear s1 s5 s6 s8 s10 s12 s13 s14 s15 s16 s17 s18 s40 s41 s42
  obtain ⟨B0, hB0⟩ : ∃ B0, B0 = w.heap.size := ⟨_, rfl⟩
  rw [← hB0] at HB
  have HB0 := hid hB0
  clear hB0
  refine wp_region_can_all [30] [0, 1, 2, 3, 4, 5, 6, 7, 8, 9, 10, 11, 12, 13, 14, 15, 16, 17, 18, 19, 20, 21, 22, 23, 24, 25, 26, 27, 28, 29, 30, 31, 32] (Below B0) (Below.refl B0) (fun _ _ _ h k => h.trans k) (by kernel_rfl) (by kernel_rfl) ?_
  simp only [List.map_cons, List.map_nil, List.contains_cons, List.contains_nil, List.getD_cons_zero, List.getD_cons_succ, Nat.reduceBEq, Bool.or_false]
  generalize w.drew = U at *
  iterate 5 (refine wpL_do rfl (fun w' hw' => (by go_simp; rfl)) ?_; simp only [Act.put, List.setIfInBounds_toArray, List.set_cons_succ, List.set_cons_zero])
  iterate 11 ((with_reducible refine wpL_pass ?_ ?_); (· rfl); simp only [Act.put, List.setIfInBounds_toArray, List.set_cons_succ, List.set_cons_zero])
  iterate 2 (refine wpL_do rfl (fun w' hw' => (by go_simp; rfl)) ?_; simp only [Act.put, List.setIfInBounds_toArray, List.set_cons_succ, List.set_cons_zero])
  iterate 12 ((with_reducible refine wpL_pass ?_ ?_); (· rfl); simp only [Act.put, List.setIfInBounds_toArray, List.set_cons_succ, List.set_cons_zero])
  (with_reducible refine wpL_hush ?_ ?_ ?_); (· rfl); (· exact Below.refl _ _)
  try simp only [Act.put, List.setIfInBounds_toArray, List.set_cons_succ, List.set_cons_zero]
  repeat (refine wpL_do rfl (fun w' hw' => (by go_simp; rfl)) ?_; simp only [Act.put, List.setIfInBounds_toArray, List.set_cons_succ, List.set_cons_zero])
  refine wpL_nil ?_
  refine q_fr (N := 486) HQ.out rfl ⟨⟨rfl, rfl, rfl, rfl, rfl, rfl, rfl, rfl, rfl, rfl, rfl, rfl⟩, ⟨rfl, rfl, rfl⟩, rfl, ?_⟩
  rw [← HB0.out]; exact HB.out
set_option maxRecDepth 1000000 in
set_option maxHeartbeats 8000000 in
theorem car_79f (ja : Option Addr) (jn jc n S X Y i0 : Nat) (s : ST) (m : MA) (k i c gb ga fb fa : Nat) (pa sa : Option Addr) (pn pc sn sc : Nat) (p p2 : PK) (hk : k < m.B.length) (hi : i < m.A.length) (hB : m.B.length ≤ 200) (hA : m.A.length ≤ 200) (hga : m.aa = some ⟨ga, 0, none⟩) (hgb : m.ba = some ⟨gb, 0, none⟩) (hf : fb ≠ fa) :
    Tri Try.prog 486 (pieceOf Try.f4 [1, 1, 1, 1, 1, 1, 1, 1, 1, 1, 1, 1, 1, 1, 1, 1, 1, 1, 1, 0, 1, 0, 0, 1, 0, 0, 1, 0])
      (fun y w => SC y ja jn jc n S X Y i0 s m ∧ SZ y k i c ∧ TlAt w gb k fb pa pn pc p ∧ TlAt w ga i fa sa sn sc p2)
      (fun y w y' w' => SC y' ja jn jc n S X Y i0 s m ∧ SZ y' k i c ∧ y' 43 = .bool false ∧ Below w.heap.size w w') := by
  rintro Q y w ⟨⟨s1, s5, s6, s8, s10, s12, s13, s14, s15, s16, s17, s18⟩, ⟨s40, s41, s42⟩, hp, ha⟩ hQ
  have HQ := hid hQ
  obtain ⟨B0, hB0⟩ : ∃ B0, B0 = w.heap.size := ⟨_, rfl⟩
  have l2 := hp.lt
  have l3 := ha.lt
  rw [← hB0] at l2 l3
  have hsz : Hid (w.drew.heap.size = B0) := hid hB0.symm
  have HB := hid ((Below.refl B0 w).drew)
  have cellk : ∀ (g q : Nat) (w' : World), g < B0 → Below B0 w.drew w' → w'.cell? ⟨g, q, none⟩ = w.cell? ⟨g, q, none⟩ := fun g q w' hg hb => World.cell?_of_block ((hb.block g hg).trans (HB.out.block g hg))
  have f0 : ∀ w', Below B0 w.drew w' → w'.cell? ⟨gb, k * 8, none⟩ = some (.int .i64 (fb : Int)) := fun w' h => (cellk gb _ w' l2 h).trans hp.fr
  have f1 : ∀ w', Below B0 w.drew w' → w'.cell? ⟨ga, i * 8, none⟩ = some (.int .i64 (fa : Int)) := fun w' h => (cellk ga _ w' l3 h).trans ha.fr
  have HB0 := hid hB0
  rw [hga] at s13
  rw [hgb] at s14
  have Hga := hid hga
  have Hgb := hid hgb
  obtain ⟨an, han⟩ : ∃ an, an = m.A.length := ⟨_, rfl⟩
  obtain ⟨bn, hbn⟩ : ∃ bn, bn = m.B.length := ⟨_, rfl⟩
  rw [← han] at s13 hi hA
  rw [← hbn] at s14 hk hB
  have Han := hid han
  have Hbn := hid hbn
  have hkI : (k : Int) < (bn : Int) := by omega
  have hiI : (i : Int) < (an : Int) := by omega
  have e1 : decide ((k : Int) < (bn : Int)) = true := decide_eq_true (by omega)
  have e2 : ((fb : Int) == (fa : Int)) = false := by rw [beq_eq_false_iff_ne]; omega
  have e3 : decide ((fb : Int) = (fa : Int)) = false := decide_eq_false (by omega)
  have e4 : (fb == fa) = false := by rw [beq_eq_false_iff_ne]; exact hf
  clear hQ hp ha cellk hB0 hga hgb han hbn l2 l3
  conv => arg 2; whnf
  rw [fr486]
  simp only [s1, s5, s6, s8, s10, s12, s13, s14, s15, s16, s17, s18, s40, s41, s42]
  clear s1 s5 s6 s8 s10 s12 s13 s14 s15 s16 s17 s18 s40 s41 s42
  refine wp_region_can_all [30] [0, 1, 2, 3, 4, 5, 6, 7, 8, 9, 10, 11, 12, 13, 14, 15, 16, 17, 18, 19, 20, 21, 22, 23, 24, 25, 26, 27, 28, 29, 30, 31, 32] (Below B0) (Below.refl B0) (fun _ _ _ h k => h.trans k) (by kernel_rfl) (by kernel_rfl) ?_
  simp only [List.map_cons, List.map_nil, List.contains_cons, List.contains_nil, List.getD_cons_zero, List.getD_cons_succ, Nat.reduceBEq, Bool.or_false]
  generalize w.drew = U at *
  iterate 18 (refine wpL_do rfl (fun w' hw' => (by go_simp; rfl)) ?_; simp only [Act.put, List.setIfInBounds_toArray, List.set_cons_succ, List.set_cons_zero])
  iterate 12 ((with_reducible refine wpL_pass ?_ ?_); (· rfl); simp only [Act.put, List.setIfInBounds_toArray, List.set_cons_succ, List.set_cons_zero])
  (with_reducible refine wpL_hush ?_ ?_ ?_); (· rfl); (· exact Below.refl _ _)
  try simp only [Act.put, List.setIfInBounds_toArray, List.set_cons_succ, List.set_cons_zero]
  repeat (refine wpL_do rfl (fun w' hw' => (by go_simp; rfl)) ?_; simp only [Act.put, List.setIfInBounds_toArray, List.set_cons_succ, List.set_cons_zero])
  refine wpL_nil ?_
  refine q_fr (N := 486) HQ.out rfl ⟨⟨rfl, rfl, rfl, rfl, rfl, rfl, ?_, ?_, rfl, rfl, rfl, rfl⟩, ⟨rfl, rfl, rfl⟩, rfl, ?_⟩
  · rw [Hga.out, ← Han.out]; rfl
  · rw [Hgb.out, ← Hbn.out]; rfl
  · rw [← HB0.out]; exact HB.out
set_option maxRecDepth 1000000 in
set_option maxHeartbeats 8000000 in
theorem car_79s (ja : Option Addr) (jn jc n S X Y i0 : Nat) (s : ST) (m : MA) (k i c gb ga fb fa : Nat) (pa sa : Option Addr) (pn pc sn sc : Nat) (p p2 : PK) (hk : k < m.B.length) (hi : i < m.A.length) (hB : m.B.length ≤ 200) (hA : m.A.length ≤ 200) (hga : m.aa = some ⟨ga, 0, none⟩) (hgb : m.ba = some ⟨gb, 0, none⟩) (r : Bool) (hf : fb = fa) (hsame : ∀ W, Rd W pa pn pc (vb p.ds) → Rd W sa sn sc (vb p2.ds) → Calls Try.prog 13 #[pagg ((pa, pn, pc), p), pagg ((sa, sn, sc), p2)] W fun e w' => e = .returned (.bool r) ∧ Below W.heap.size W w') :
    Tri Try.prog 486 (pieceOf Try.f4 [1, 1, 1, 1, 1, 1, 1, 1, 1, 1, 1, 1, 1, 1, 1, 1, 1, 1, 1, 0, 1, 0, 0, 1, 0, 0, 1, 0])
      (fun y w => SC y ja jn jc n S X Y i0 s m ∧ SZ y k i c ∧ TlAt w gb k fb pa pn pc p ∧ TlAt w ga i fa sa sn sc p2)
      (fun y w y' w' => SC y' ja jn jc n S X Y i0 s m ∧ SZ y' k i c ∧ y' 43 = .bool r ∧ Below w.heap.size w w') := by
  rintro Q y w ⟨⟨s1, s5, s6, s8, s10, s12, s13, s14, s15, s16, s17, s18⟩, ⟨s40, s41, s42⟩, hp, ha⟩ hQ
  have HQ := hid hQ
  obtain ⟨B0, hB0⟩ : ∃ B0, B0 = w.heap.size := ⟨_, rfl⟩
  have l2 := hp.lt
  have l3 := ha.lt
  rw [← hB0] at l2 l3
  have hsz : Hid (w.drew.heap.size = B0) := hid hB0.symm
  have HB := hid ((Below.refl B0 w).drew)
  have cellk : ∀ (g q : Nat) (w' : World), g < B0 → Below B0 w.drew w' → w'.cell? ⟨g, q, none⟩ = w.cell? ⟨g, q, none⟩ := fun g q w' hg hb => World.cell?_of_block ((hb.block g hg).trans (HB.out.block g hg))
  have f0 : ∀ w', Below B0 w.drew w' → w'.cell? ⟨gb, k * 8, none⟩ = some (.int .i64 (fb : Int)) := fun w' h => (cellk gb _ w' l2 h).trans hp.fr
  have f1 : ∀ w', Below B0 w.drew w' → w'.cell? ⟨ga, i * 8, none⟩ = some (.int .i64 (fa : Int)) := fun w' h => (cellk ga _ w' l3 h).trans ha.fr
  have xp0 : ∀ w', Below B0 w.drew w' → w'.cell? ⟨gb, k * 8 + 1 + 1, none⟩ = some (.bool p.up) := fun w' h => (cellk gb _ w' l2 h).trans hp.pk.x0
  have xp1 : ∀ w', Below B0 w.drew w' → w'.cell? ⟨gb, k * 8 + 1 + 1 + 1, none⟩ = some (.bool p.se) := fun w' h => (cellk gb _ w' l2 h).trans hp.pk.x1
  have xp2 : ∀ w', Below B0 w.drew w' → w'.cell? ⟨gb, k * 8 + 1 + 1 + 2, none⟩ = some (.int .i64 (p.ap : Int)) := fun w' h => (cellk gb _ w' l2 h).trans hp.pk.x2
  have xp3 : ∀ w', Below B0 w.drew w' → w'.cell? ⟨gb, k * 8 + 1 + 1 + 3, none⟩ = some (.int .i64 (p.pt : Int)) := fun w' h => (cellk gb _ w' l2 h).trans hp.pk.x3
  have xp4 : ∀ w', Below B0 w.drew w' → w'.cell? ⟨gb, k * 8 + 1 + 1 + 4, none⟩ = some (.int .i64 (p.ct : Int)) := fun w' h => (cellk gb _ w' l2 h).trans hp.pk.x4
  have xp5 : ∀ w', Below B0 w.drew w' → w'.cell? ⟨gb, k * 8 + 1 + 1 + 5, none⟩ = some (.slice pa pn pc) := fun w' h => (cellk gb _ w' l2 h).trans hp.pk.x5
  have xa0 : ∀ w', Below B0 w.drew w' → w'.cell? ⟨ga, i * 8 + 1 + 1, none⟩ = some (.bool p2.up) := fun w' h => (cellk ga _ w' l3 h).trans ha.pk.x0
  have xa1 : ∀ w', Below B0 w.drew w' → w'.cell? ⟨ga, i * 8 + 1 + 1 + 1, none⟩ = some (.bool p2.se) := fun w' h => (cellk ga _ w' l3 h).trans ha.pk.x1
  have xa2 : ∀ w', Below B0 w.drew w' → w'.cell? ⟨ga, i * 8 + 1 + 1 + 2, none⟩ = some (.int .i64 (p2.ap : Int)) := fun w' h => (cellk ga _ w' l3 h).trans ha.pk.x2
  have xa3 : ∀ w', Below B0 w.drew w' → w'.cell? ⟨ga, i * 8 + 1 + 1 + 3, none⟩ = some (.int .i64 (p2.pt : Int)) := fun w' h => (cellk ga _ w' l3 h).trans ha.pk.x3
  have xa4 : ∀ w', Below B0 w.drew w' → w'.cell? ⟨ga, i * 8 + 1 + 1 + 4, none⟩ = some (.int .i64 (p2.ct : Int)) := fun w' h => (cellk ga _ w' l3 h).trans ha.pk.x4
  have xa5 : ∀ w', Below B0 w.drew w' → w'.cell? ⟨ga, i * 8 + 1 + 1 + 5, none⟩ = some (.slice sa sn sc) := fun w' h => (cellk ga _ w' l3 h).trans ha.pk.x5
  have HB0 := hid hB0
  rw [hga] at s13
  rw [hgb] at s14
  have Hga := hid hga
  have Hgb := hid hgb
  obtain ⟨an, han⟩ : ∃ an, an = m.A.length := ⟨_, rfl⟩
  obtain ⟨bn, hbn⟩ : ∃ bn, bn = m.B.length := ⟨_, rfl⟩
  rw [← han] at s13 hi hA
  rw [← hbn] at s14 hk hB
  have Han := hid han
  have Hbn := hid hbn
  have hkI : (k : Int) < (bn : Int) := by omega
  have hiI : (i : Int) < (an : Int) := by omega
  have e1 : decide ((k : Int) < (bn : Int)) = true := decide_eq_true (by omega)
  subst hf
  have hsm := hid (hsame w.drew (hp.rd.below ((Below.refl w.heap.size w).drew)) (ha.rd.below ((Below.refl w.heap.size w).drew)))
  unfold pagg at hsm
  dsimp only at hsm
  clear hQ hp ha cellk hB0 hga hgb han hbn l2 l3
  conv => arg 2; whnf
  rw [fr486]
  simp only [s1, s5, s6, s8, s10, s12, s13, s14, s15, s16, s17, s18, s40, s41, s42]
  clear s1 s5 s6 s8 s10 s12 s13 s14 s15 s16 s17 s18 s40 s41 s42
  refine wp_region_can_all [30] [0, 1, 2, 3, 4, 5, 6, 7, 8, 9, 10, 11, 12, 13, 14, 15, 16, 17, 18, 19, 20, 21, 22, 23, 24, 25, 26, 27, 28, 29, 30, 31, 32] (Below B0) (Below.refl B0) (fun _ _ _ h k => h.trans k) (by kernel_rfl) (by kernel_rfl) ?_
  simp only [List.map_cons, List.map_nil, List.contains_cons, List.contains_nil, List.getD_cons_zero, List.getD_cons_succ, Nat.reduceBEq, Bool.or_false]
  generalize w.drew = U at *
  iterate 30 (refine wpL_do rfl (fun w' hw' => (by go_simp; rfl)) ?_; simp only [Act.put, List.setIfInBounds_toArray, List.set_cons_succ, List.set_cons_zero])
  clear f0 f1 xp0 xp1 xp2 xp3 xp4 xp5 xa0 xa1 xa2 xa3 xa4 xa5
  refine wpL_call rfl (fun K hK => ?_)
  go_wp2_with fail
  refine hsm.out.mono ?_
  rintro e V ⟨rfl, hb⟩
  have hbV : Below B0 U V := hb.mono (Nat.le_of_eq hsz.out.symm)
  have HB1 := hid (HB.out.trans hbV)
  refine hK _ _ hbV ?_
  clear hK K hb hbV hsm HB
  try simp only [Act.put, List.setIfInBounds_toArray, List.set_cons_succ, List.set_cons_zero]
  repeat (refine wpL_do rfl (fun w' hw' => (by go_simp; rfl)) ?_; simp only [Act.put, List.setIfInBounds_toArray, List.set_cons_succ, List.set_cons_zero])
  refine wpL_nil ?_
  refine q_fr (N := 486) HQ.out rfl ⟨⟨rfl, rfl, rfl, rfl, rfl, rfl, ?_, ?_, rfl, rfl, rfl, rfl⟩, ⟨rfl, rfl, rfl⟩, rfl, ?_⟩
  · rw [Hga.out, ← Han.out]; rfl
  · rw [Hgb.out, ← Hbn.out]; rfl
  · rw [← HB0.out]; exact HB1.out
end Go.Proofs.Ytjiipmalahhcpaa
