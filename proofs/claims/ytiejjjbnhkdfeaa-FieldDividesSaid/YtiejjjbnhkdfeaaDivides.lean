/- FieldDivides: the walk of the law: it answers true. -/
import Derived.Test.YtiejjjbnhkdfeaaOver
namespace Go.Proofs.Ytiejjjbnhkdfeaa
set_option linter.unusedVariables false
open Go.RowKit

set_option maxRecDepth 100000 in
set_option maxHeartbeats 2000000 in
theorem divides_main (pa qa : Option Addr) (pn pc qn qc : Nat) (ps qs : List Nat) (w : World) (hp : Rd w pa pn pc (vb ps)) (hpb : AllB ps) (hq : Rd w qa qn qc (vb qs)) (hqb : AllB qs) (hpn : pn ≤ 256) (hqn : qn ≤ 256) (h : trim qs ≠ []) :
    Calls Try.prog 5 #[.slice pa pn pc, .slice qa qn qc] w fun e w' => e = .returned (.bool true) ∧ Below w.heap.size w w' := by
  have hpl : ps.length = pn := by have := hp.len; rwa [vb_len] at this
  have hql : qs.length = qn := by have := hq.len; rwa [vb_len] at this
  have Hpl := hid hpl
  have Hql := hid hql
  clear hpl hql
  go_enter Try.func5, Try.ntmps5
  go_wp2_with fail
  refine (sum_any qa none qn qc 0 0 qs [] _ hq hqb (Rd.nil _) AllB.nil (by omega) (by omega)).mono ?_
  rintro e w1 ⟨na, nn, nc, rfl, hnn, o1, b1⟩
  have Hnn := hid hnn
  clear hnn
  go_wp2_with fail
  refine (over_any pa qa pn pc qn qc ps qs _ (hp.below b1) hpb (hq.below b1) hqb (by omega) (by omega) h).mono ?_
  rintro e w2 ⟨aqs, ars, aa, an, ac, ra, rn, rc, rfl, hG, hlt, han, hrn, oa, orr, b2⟩
  have hal : an ≤ 256 := by have h1 := trimN_le aqs aqs.length; have h2 := hG.qlen; have h3 := Hpl.out; rw [han, trim_len]; omega
  have hrl : rn ≤ 256 := by have h1 := hG.rle; have h3 := Hpl.out; omega
  have hra := hG.rall
  have haa := trim_all hG.qall
  have hb12 := b1.trans (b2.mono b1.size)
  have hrn2 : (rn : Int) < nn := by
    have h1 := Hnn.out
    rw [sumP_nil qs hqb] at h1
    omega
  have Han := hid han
  have Hrn := hid hrn
  have HG := hid hG
  clear hG han hrn hlt
  go_wp2_with fail
  refine (times_any aa qa an ac qn qc (trim aqs) qs _ (Rd.ofOwn oa) haa (hq.below hb12) hqb (by omega) (by omega)).mono ?_
  rintro e w3 ⟨ba, bn, bc, rfl, hbn, ob, b3⟩
  have hbl : bn ≤ 512 := by have h1 := timesP_len_le qs (trim aqs); have h2 := Han.out; have h3 := Hql.out; omega
  have Hbn := hid hbn
  clear hbn
  have hb13 := hb12.trans (b3.mono hb12.size)
  go_wp2_with fail
  refine (times_any pa qa pn pc qn qc ps qs _ (hp.below hb13) hpb (hq.below hb13) hqb (by omega) (by omega)).mono ?_
  rintro e w4 ⟨ca, cn, cc, rfl, hcn, oc, b4⟩
  have hcl : cn ≤ 512 := by have h1 := timesP_len_le qs ps; have h2 := Hpl.out; have h3 := Hql.out; omega
  have Hcn := hid hcn
  clear hcn
  have hb14 := hb13.trans (b4.mono hb13.size)
  go_wp2_with fail
  refine (over_any ca qa cn cc qn qc (timesP qs ps) qs _ (Rd.ofOwn oc) (timesP_all hpb) (hq.below hb14) hqb (by omega) (by omega) h).mono ?_
  rintro e w5 ⟨bqs, brs, da, dn, dc, ea, en, ec, rfl, hG2, hlt2, hdn, hen, od, oe, b5⟩
  obtain ⟨hback, hrest⟩ := law_back hpb hqb h hG2 hlt2
  have hen0 : en = 0 := by rw [hen, hrest]; rfl
  subst hen0
  have hb15 := hb14.trans (b5.mono hb14.size)
  have ob5 := ownsRow_below (ownsRow_below ob b4) b5
  have or5 := ownsRow_below (ownsRow_below (ownsRow_below orr b3) b4) b5
  have hba := timesP_all (ps := qs) haa
  have Hforth := hid (law_forth hpb hqb HG.out)
  rw [hback] at od
  clear hG2 hlt2 hdn hen hrest hback oe oc oa o1 ob orr HG Han
  go_wp2_with fail
  have hd5 : w5.drew.heap.size = w5.heap.size := rfl
  have odd : w5.drew.ownsRow w4.heap.size 5 1 (.slice da dn dc) dn (vb (sumP ps [])) := od.drew
  have obd : w5.drew.ownsRow w2.heap.size 5 1 (.slice ba bn bc) bn (vb (timesP qs (trim aqs))) := ob5.drew
  have ord : w5.drew.ownsRow w1.heap.size 5 1 (.slice ra rn rc) rn (vb ars) := or5.drew
  have hbd : Below w.heap.size w w5.drew := hb15.drew
  refine wp_region_can_all [24, 27, 35] [0, 1, 2, 3, 4, 5, 6, 7, 8, 9, 10, 11, 12, 13, 14, 15, 16, 17, 18, 19, 20, 21, 22, 23, 26, 24, 25, 27, 28, 29, 30, 31, 32, 33, 34, 35, 36, 37, 38, 39, 40, 41, 42, 43, 44] Ext Ext.refl Ext.trans (by kernel_rfl) (by kernel_rfl) ?_
  generalize w5.drew = wd at *
  clear od ob5 or5 hb15
  simp only [List.map_cons, List.map_nil, List.contains_cons, List.contains_nil, List.getD_cons_zero, List.getD_cons_succ, Nat.reduceBEq, Bool.or_false, Bool.or_true]
  have hrd : Rd wd ra rn rc (vb ars) := Rd.ofOwn ord
  have hbr : Rd wd ba bn bc (vb (timesP qs (trim aqs))) := Rd.ofOwn obd
  have hpd := hp.below hbd
  repeat (refine wpL_do rfl (fun w' hw' => (by go_simp; rfl)) ?_; simp only [Act.put, List.setIfInBounds_toArray, List.set_cons_succ, List.set_cons_zero])
  refine wpL_call rfl (fun K hK => ?_)
  go_wp2_with fail
  refine (sum_any ba ra bn bc rn rc _ _ _ hbr hba hrd hra (by omega) (by omega)).mono ?_
  rintro e w6 ⟨sa, sn, sc, rfl, hsn, o6, b6⟩
  rw [Hforth.out] at o6
  refine hK _ _ b6 ?_
  clear hK K hsn
  try simp only [Act.put, List.setIfInBounds_toArray, List.set_cons_succ, List.set_cons_zero]
  have hcv1 := run_str_ext (P := Try.prog) 30 5 9 Try.underlying30 Try.underlying5 Try.underlying9 (Rd.ofOwn o6)
  have hp6 := hpd.below b6
  have od6 := ownsRow_below odd b6
  clear o6 odd obd ord hrd hbr
  repeat (refine wpL_do rfl (fun w' hw' => (by go_simp; rfl)) ?_; simp only [Act.put, List.setIfInBounds_toArray, List.set_cons_succ, List.set_cons_zero])
  clear hcv1
  refine wpL_call rfl (fun K hK => ?_)
  go_wp2_with fail
  refine (sum_any pa none pn pc 0 0 ps [] _ hp6 hpb (Rd.nil _) AllB.nil (by omega) (by omega)).mono ?_
  rintro e w7 ⟨ta, tn, tc, rfl, htn, o7, b7⟩
  refine hK _ _ b7 ?_
  clear hK K htn
  try simp only [Act.put, List.setIfInBounds_toArray, List.set_cons_succ, List.set_cons_zero]
  have hcv2 := run_str_ext (P := Try.prog) 30 5 9 Try.underlying30 Try.underlying5 Try.underlying9 (Rd.ofOwn o7)
  have od7 := ownsRow_below od6 b7
  have hcv3 := run_str_ext (P := Try.prog) 30 5 9 Try.underlying30 Try.underlying5 Try.underlying9 (Rd.ofOwn od7)
  have hp7 := hp6.below b7
  clear o7 od6
  repeat (refine wpL_do rfl (fun w' hw' => (by go_simp; rfl)) ?_; simp only [Act.put, List.setIfInBounds_toArray, List.set_cons_succ, List.set_cons_zero])
  clear hcv2 hcv3
  refine wpL_call rfl (fun K hK => ?_)
  go_wp2_with fail
  refine (sum_any pa none pn pc 0 0 ps [] _ hp7 hpb (Rd.nil _) AllB.nil (by omega) (by omega)).mono ?_
  rintro e w8 ⟨ua, un, uc, rfl, hun, o8, b8⟩
  refine hK _ _ b8 ?_
  clear hK K hun
  try simp only [Act.put, List.setIfInBounds_toArray, List.set_cons_succ, List.set_cons_zero]
  have hcv2 := run_str_ext (P := Try.prog) 30 5 9 Try.underlying30 Try.underlying5 Try.underlying9 (Rd.ofOwn o8)
  repeat (refine wpL_do rfl (fun w' hw' => (by go_simp; rfl)) ?_; simp only [Act.put, List.setIfInBounds_toArray, List.set_cons_succ, List.set_cons_zero])
  refine wpL_nil ?_
  go_wp2
  go_ret
  exact ⟨rfl, hbd.trans ((b6.trans ((b7.trans (b8.mono b7.size)).mono b6.size)).mono hbd.size)⟩

theorem divides_big (pa qa : Option Addr) (pn pc qn qc : Nat) (w : World) (hpn : pn ≤ 9223372036854775807) (hqn : qn ≤ 9223372036854775807) (h : 256 < pn ∨ 256 < qn) :
    Calls Try.prog 5 #[.slice pa pn pc, .slice qa qn qc] w fun e w' => e = .returned (.bool true) ∧ Below w.heap.size w w' := by
  by_cases h1 : 256 < pn
  · go_enter Try.func5, Try.ntmps5
    go_wp2
    go_ret
    exact ⟨rfl, Below.refl _ _⟩
  · have h2 : 256 < qn := by omega
    have h3 : decide (256 < (pn : Int)) = false := by simp; omega
    go_enter Try.func5, Try.ntmps5
    go_wp2
    go_ret
    exact ⟨rfl, Below.refl _ _⟩

theorem divides_zero (pa qa : Option Addr) (pn pc qn qc : Nat) (ps qs : List Nat) (w : World) (hp : Rd w pa pn pc (vb ps)) (hpb : AllB ps) (hq : Rd w qa qn qc (vb qs)) (hqb : AllB qs) (hpn : pn ≤ 256) (hqn : qn ≤ 256) (h : trim qs = []) :
    Calls Try.prog 5 #[.slice pa pn pc, .slice qa qn qc] w fun e w' => e = .returned (.bool true) ∧ Below w.heap.size w w' := by
  have hs : (sumP qs []).length = 0 := by rw [sumP_nil qs hqb, h]; rfl
  have Hs := hid hs
  clear hs
  go_enter Try.func5, Try.ntmps5
  go_wp2_with fail
  refine (sum_any qa none qn qc 0 0 qs [] _ hq hqb (Rd.nil _) AllB.nil (by omega) (by omega)).mono ?_
  rintro e w1 ⟨na, nn, nc, rfl, hnn, o1, b1⟩
  rw [Hs.out] at hnn
  subst hnn
  go_wp2_with fail
  refine (over_zero pa qa pn pc qn qc ps qs _ (hp.below b1) hpb (hq.below b1) hqb (by omega) (by omega) h).mono ?_
  rintro e w2 ⟨rfl, b2⟩
  go_wp2_with fail
  refine (mul_any _ _ _ (by omega) (by omega) (by omega) (by omega)).mono ?_
  rintro e w' ⟨r1, rfl, hr1, H1, rfl⟩
  have t : ((r1 : Int) == 2) = true := by have h := H1.out; simp at h; rw [h]; rfl
  go_wp2
  go_ret
  exact ⟨rfl, b1.trans (b2.mono b1.size)⟩

theorem divides_walk (pa qa : Option Addr) (pn pc qn qc : Nat) (ps qs : List Nat) (w : World) (hp : Rd w pa pn pc (vb ps)) (hpb : AllB ps) (hq : Rd w qa qn qc (vb qs)) (hqb : AllB qs) :
    Calls Try.prog 5 #[.slice pa pn pc, .slice qa qn qc] w fun e w' => e = .returned (.bool true) ∧ Below w.heap.size w w' := by
  by_cases hb : 256 < pn ∨ 256 < qn
  · have h1 := hp.max
    have h2 := hp.le
    have h3 := hq.max
    have h4 := hq.le
    unfold maxLen at h1 h3
    exact divides_big pa qa pn pc qn qc w (by omega) (by omega) hb
  · by_cases h : trim qs = []
    · exact divides_zero pa qa pn pc qn qc ps qs w hp hpb hq hqb (by omega) (by omega) h
    · exact divides_main pa qa pn pc qn qc ps qs w hp hpb hq hqb (by omega) (by omega) h
end Go.Proofs.Ytiejjjbnhkdfeaa
