/- PassesBest: the law. -/
import Derived.Test.YtfbchmihkndfaaaBst8
namespace Go.Proofs.Ytfbchmihkndfaaa
set_option linter.unusedVariables false
open Go.RowKit

theorem cho_any (la : Option Addr) (n cap gap : Nat) (l : List Ps) (W0 : World) (hn9 : n ≤ 9) (hg : GoodPs l) (hgap : gap ≤ 1000) (hr : RdPs W0 la n cap l) (h0 : n = 0 → la = none ∧ cap = 0) :
    Calls Try.prog 8 #[.slice la n cap, .int .i64 (gap : Int)] W0 fun e w' => ChoR W0 w' l gap n e := by
  rcases Nat.eq_zero_or_pos n with rfl | hn
  · obtain ⟨rfl, rfl⟩ := h0 rfl
    refine (choose_0 gap W0 hgap).mono ?_
    rintro e w' ⟨rfl, hb⟩
    refine ⟨⟨[], 0, none, 0, rfl, ⟨(fun x hx => by cases hx), List.nodup_nil, trivial, rfl, (fun c hc _ => ?_), Nat.le_refl _, by omega⟩, OwnAt.nil _ _ _⟩, hb⟩
    cases c with
    | nil => exact Nat.le_refl _
    | cons a r => exact absurd (hc a (List.mem_cons_self ..)) (Nat.not_lt_zero _)
  · exact choose_ok la n cap gap l W0 hn hn9 hg hgap hr
/-- the one pass of the law -/
theorem cho_one {out : List Nat} {tot : Nat} (h : ChoP [⟨0, 1, 2, 5⟩] 0 1 out tot) : out.length = 1 ∧ tot = 5 := by
  have h1 := h.opt [0] (fun x hx => by rw [List.mem_singleton] at hx; omega) trivial
  have h2 : sumW [⟨0, 1, 2, 5⟩] [0] = 5 := rfl
  have hs := h.sum
  have hl := h.len
  match out, hs, hl, h.lt with
  | [], hs, _, _ =>
    have : sumW [⟨0, 1, 2, 5⟩] [] = 0 := rfl
    omega
  | [a], hs, _, hlt =>
    have := hlt a (List.mem_cons_self ..)
    obtain rfl : a = 0 := by omega
    exact ⟨rfl, by omega⟩
  | a :: b :: r, _, hl, _ => simp at hl
theorem rd_one (U : World) : RdPs (U.alloc (.cells #[.int .i64 0, .int .i64 1, .int .i64 2, .int .i64 5] 41)) (some ⟨U.heap.size, 0, none⟩) 1 1 [⟨0, 1, 2, 5⟩] := by
  have r := heap_alloc_new U (.cells #[.int .i64 0, .int .i64 1, .int .i64 2, .int .i64 5] 41)
  refine ⟨rfl, Nat.le_refl _, by unfold maxLen; omega, fun _ => ⟨_, rfl, row_lt r, ⟨_, r⟩, fun j hj => ?_⟩⟩
  obtain rfl : j = 0 := by omega
  refine ⟨?_, ?_, ?_, ?_⟩ <;> (rw [cell_of_row _ _ _ _ _ _ r]; rfl)
theorem good_one : GoodPs [⟨0, 1, 2, 5⟩] := by
  intro i hi
  have hi' : i < 1 := hi
  obtain rfl : i = 0 := by omega
  exact ⟨by decide, by decide, by decide, by decide⟩
set_option maxRecDepth 1000000 in
set_option maxHeartbeats 4000000 in
theorem best_ok (ra : Option Addr) (rn rc : Nat) (ts : Nat → Int × Int) (za : Option Addr) (ln zc : Nat) (zs : List Int) (z3 : Int) (w0 : World) (hR : RawAt w0 ra rn rc ts) (hz : Rd w0 za ln zc (vz zs)) (hzb : ∀ z ∈ zs, I64 z) (h3 : I64 z3) :
    Calls Try.prog 4 #[.slice ra rn rc, .slice za ln zc, .int .i64 z3] w0 fun e w' => e = .returned (.bool true) ∧ Below w0.heap.size w0 w' := by
  have HL := hid (bst_l1 w0 ra rn rc ts za ln zc z3 zs hR hz hzb)
  have hlen := psTo_len ts zs ln (min rn 9)
  have hgood := hid (psTo_good ts zs ln (min rn 9))
  have hn9 : min rn 9 ≤ 9 := Nat.min_le_right _ _
  have hp3 := fun W => pick_st z3 8 W h3.1 h3.2 (by decide) (by decide)
  rw [show (8 : Int).toNat = 8 from rfl] at hp3
  have hgl := pk_lt z3 8 (by decide)
  generalize psTo ts zs ln (min rn 9) = l at *
  generalize min rn 9 = n at *
  generalize pk z3 8 = gap at *
  clear hR hz hzb h3
  go_enter Try.func4, Try.ntmps4
  refine wp_seq_k (fun K0 hK0 => ?_)
  go_wp2_with fail
  refine hK0.out _ _ ?_
  refine wp_seq_k (fun K1 hK1 => ?_)
  go_wp2_with fail
  refine hK1.out _ _ ?_
  refine wp_seq_k (fun K2 hK2 => ?_)
  refine wp_seq_k (fun K3 hK3 => ?_)
  go_wp2_with fail
  refine hK3.out _ _ ?_
  refine Tri.use HL.out rfl ⟨⟨rfl, rfl, rfl, rfl, rfl⟩, rfl⟩ ?_
  rintro y1 W1 ⟨la, cap, hn0, ⟨s0, s1, s2, s7, s8⟩, ho1, hb1⟩
  refine hK2.out _ _ ?_
  have HR1 := hid (rd_own ho1 hlen)
  have HB1 := hid hb1
  have hcm := Nat.le_trans HR1.out.le HR1.out.max
  unfold maxLen at hcm
  clear ho1 hb1 HL
  rw [fr236]
  simp only [s2, s7]
  clear s0 s1 s2 s7 s8
  refine wp_seq_k (fun K4 hK4 => ?_)
  go_wp2_with fail
  refine (hp3 _).mono ?_
  rintro e w' ⟨rfl, hw'⟩
  rw [hw']
  clear hw' w' hp3
  go_wp2_with fail
  refine hK4.out _ _ ?_
  have hc1 := cho_any la n cap gap l W1 hn9 hgood.out (by omega) HR1.out hn0
  refine wp_seq_k (fun K5 hK5 => ?_)
  go_wp2_with fail
  refine hc1.mono ?_
  rintro e W2 ⟨⟨out, tot, oa, oc, rfl, hC, ho2⟩, hb2⟩
  have HC := hid hC
  have HO2 := hid ho2.rd
  have HR2 := hid (HR1.out.below hb2)
  have HB2 := hid (HB1.out.trans (hb2.mono HB1.out.size))
  have hocm := Nat.le_trans ho2.rd.le ho2.rd.max
  unfold maxLen at hocm
  have htot := hC.big
  have hol := hC.len
  clear hC ho2 hb2 hc1 hn0
  go_wp2_with fail
  refine hK5.out _ _ ?_
  have b3 := below_alloc W2 (.cells #[.int .i64 0, .int .i64 1, .int .i64 2, .int .i64 5] 41)
  have hr3 := rd_one W2
  have hc3 := choose_ok _ 1 1 0 _ _ (by decide) (by decide) good_one (by decide) hr3
  have HO3 := hid (HO2.out.below b3)
  have HR3 := hid (HR2.out.below b3)
  have HB3 := hid (HB2.out.trans (b3.mono HB2.out.size))
  clear b3 hr3
  refine wp_seq_k (fun K6 hK6 => ?_)
  go_wp2_with fail
  refine hc3.mono ?_
  rintro e W4 ⟨⟨out1, tot1, oa1, oc1, rfl, hC1, ho4⟩, hb4⟩
  obtain ⟨hl1, rfl⟩ := cho_one hC1
  rw [hl1]
  have HO4 := hid (HO3.out.below hb4)
  have HR4 := hid (HR3.out.below hb4)
  have HB4 := hid (HB3.out.trans (hb4.mono HB3.out.size))
  clear hC1 ho4 hb4 hc3 hl1
  go_wp2_with fail
  refine hK6.out _ _ ?_
  refine wp_seq_k (fun K7 hK7 => ?_)
  go_wp2_with fail
  refine hK7.out _ _ ?_
  refine wp_seq_k (fun K8 hK8 => ?_)
  go_wp2_with fail
  refine hK8.out _ _ ?_
  have hmu := run_mkU n (by omega)
  have hu := hid (used0 W4 n out)
  have b5 := hid (below_alloc W4 (.cells (madeCells #[.bool false] (n * 1)) 4))
  have hl2 := hid (bst_l2 la n cap gap l oa oc tot out W4 (W4.alloc (.cells (madeCells #[.bool false] (n * 1)) 4)) hn9 HC.out HR4.out HO4.out hu.out b5.out)
  generalize madeCells #[.bool false] (n * 1) = MB at *
  refine wp_seq_k (fun K9 hK9 => ?_)
  go_wp2_with fail
  refine hK9.out _ _ ?_
  refine wp_seq_k (fun K10 hK10 => ?_)
  refine wp_seq_k (fun K11 hK11 => ?_)
  go_wp2_with fail
  refine hK11.out _ _ ?_
  refine Tri.use hl2.out rfl ⟨⟨rfl, rfl, rfl, rfl⟩, rfl, rfl, rfl, rfl⟩ ?_
  rintro y6 W6 ⟨⟨s7, s11, s12, s13⟩, s18, hb6⟩
  refine hK10.out _ _ ?_
  have HO6 := hid (HO4.out.below hb6)
  have HR6 := hid (HR4.out.below hb6)
  have HB6 := hid (HB4.out.trans (hb6.mono HB4.out.size))
  clear hb6 hu b5 hl2 hmu
  rw [fr236]
  simp only [s7, s11, s12, s13, s18]
  clear s7 s11 s12 s13 s18
  have hord := order_ok la n cap gap l oa out.length oc out W6 hgood.out (by omega) HR6.out HO6.out hn9 (by omega) (fun k hk => by
    refine HC.out.lt _ ?_
    rw [nth_get hk]
    exact List.getElem_mem _)
  refine wp_seq_k (fun K12 hK12 => ?_)
  go_wp2_with fail
  refine hord.mono ?_
  rintro e W7 ⟨⟨b, rfl, hbi⟩, hb7⟩
  obtain rfl : b = true := hbi.2 (of_chn out HC.out.ch)
  have HR7 := hid (HR6.out.below hb7)
  have HB7 := hid (HB6.out.trans (hb7.mono HB6.out.size))
  clear hbi hb7 hord
  go_wp2_with fail
  refine hK12.out _ _ ?_
  have hall := hid (all_ok la n cap gap tot l out W7 W7 hn9 (by omega) HR7.out hgood.out (Below.refl _ _) HC.out)
  refine wp_seq_k (fun K13 hK13 => ?_)
  refine wp_seq_k (fun K14 hK14 => ?_)
  go_wp2_with fail
  refine hK14.out _ _ ?_
  refine Tri.use hall.out rfl ⟨⟨rfl, rfl, rfl, rfl⟩, rfl⟩ ?_
  rintro y8 W8 ⟨⟨s7, s11, s13, s21⟩, hb8⟩
  refine hK13.out _ _ ?_
  have HB8 := hid (HB7.out.trans (hb8.mono HB7.out.size))
  clear hb8 hall
  rw [fr236]
  go_wp2_with fail
  go_ret
  exact ⟨rfl, HB8.out⟩
end Go.Proofs.Ytfbchmihkndfaaa
