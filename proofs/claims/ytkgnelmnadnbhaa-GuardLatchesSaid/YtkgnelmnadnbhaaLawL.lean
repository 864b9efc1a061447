/- GuardLatches: the law. -/
import Derived.Test.YtkgnelmnadnbhaaLawS2
namespace Go.Proofs.Ytkgnelmnadnbhaa
set_option linter.unusedVariables false
open Go.RowKit

def MakeI (w0 : World) (H sil most win : Nat) (zs : List Int) (fa : Option Addr) (fn fc : Nat) (aL : Option Addr) (nL cL : Nat) (y : Nat → Value) (W : World) : Prop :=
  ∃ j g cap, j ≤ fn ∧ j ≤ 8 ∧ SF y fa fn fc aL nL cL H j ∧ GB w0 W H sil most win zs j g cap
set_option maxRecDepth 1000000 in
set_option maxHeartbeats 1000000 in
theorem law_make (w0 W0 : World) (H sil most win g cap : Nat) (zs : List Int) (hz : ∀ z ∈ zs, I64 z) (fa : Option Addr) (fn fc : Nat) (hf : Rd w0 fa fn fc (vz zs)) (aL : Option Addr) (nL cL : Nat) (hG : GB w0 W0 H sil most win zs 0 g cap) :
    Tri Try.prog 332 (pieceOf Try.f3 [1, 1, 1, 1, 0, 1]) (fun y w => SF y fa fn fc aL nL cL H 0 ∧ w = W0)
      (fun _ _ y w => ∃ j g' cap', j ≤ 8 ∧ y 4 = .slice aL nL cL ∧ y 11 = .pointer (some ⟨H, 0, none⟩) ∧ GB w0 w H sil most win zs j g' cap') := by
  rintro Q y w ⟨⟨s0, s4, s11, s12⟩, rfl⟩ hQ
  have HQ := hid hQ
  have hfm : fn ≤ maxLen := Nat.le_trans hf.le hf.max
  unfold maxLen at hfm
  clear hQ
  conv => arg 2; whnf
  rw [fr332]
  simp only [s0, s4, s11, s12]
  clear s0 s4 s11 s12
  refine wp_block ?_
  refine wp_loop_fr 332 (MakeI w0 H sil most win zs fa fn fc aL nL cL) (fun y' _ => 8 - (intOf (y' 12)).toNat) ⟨rfl, rfl, 0, g, cap, Nat.zero_le _, by omega, ⟨rfl, rfl, rfl, rfl⟩, hG⟩ ?_
  clear hG
  rintro z W ⟨j, g1, cap1, hj, hj8, ⟨s0, s4, s11, s12⟩, hG1⟩
  have HG := hid hG1
  rw [fr332]
  simp only [s0, s4, s11, s12]
  clear s0 s4 s11 s12
  by_cases hlt : j < fn ∧ j < 8
  · obtain ⟨h1, h2⟩ := hlt
    have h8 := hid (law_8 w0 W H sil most win g1 cap1 j zs hz fa fn fc hf aL nL cL h1 h2 hG1)
    have d1 : decide ((j : Int) < (fn : Int)) = true := decide_eq_true (by omega)
    have d2 : decide ((j : Int) < 8) = true := decide_eq_true (by omega)
    have d3 : decide (j < fn) = true := decide_eq_true h1
    clear hG1
    go_upto_block 1 with (fail)
    refine wp_block ?_
    refine Tri.use h8.out rfl ⟨⟨rfl, rfl, rfl, rfl⟩, rfl⟩ ?_
    rintro y' w' ⟨⟨s0, s4, s11, s12⟩, g2, cap2, hG2⟩
    have HG2 := hid hG2
    clear hG2
    rw [fr332]
    simp only [s0, s4, s11, s12]
    clear s0 s4 s11 s12
    go_wp2_with fail
    refine ⟨rfl, rfl, ⟨j + 1, g2, cap2, by omega, by omega, ⟨rfl, rfl, rfl, ?_⟩, HG2.out⟩, ?_⟩
    · show Value.int .i64 _ = Value.int .i64 _
      go_num
    · show 8 - (intOf (Value.int .i64 _)).toNat < _
      simp [intOf]
      omega
  · clear hG1
    by_cases h1 : j < fn
    · have d1 : decide ((j : Int) < (fn : Int)) = true := decide_eq_true (by omega)
      have d2 : decide ((j : Int) < 8) = false := decide_eq_false (by omega)
      have d3 : decide (j < fn) = true := decide_eq_true h1
      clear hlt
      go_wp2_with fail
      exact q_fr (N := 332) HQ.out rfl ⟨j, g1, cap1, hj8, rfl, rfl, HG.out⟩
    · have d1 : decide ((j : Int) < (fn : Int)) = false := decide_eq_false (by omega)
      have d3 : decide (j < fn) = false := decide_eq_false h1
      clear hlt
      go_wp2_with fail
      exact q_fr (N := 332) HQ.out rfl ⟨j, g1, cap1, hj8, rfl, rfl, HG.out⟩
/-- a guard that is made reads as a row of monitors -/
theorem GB.rd {w0 W : World} {H sil most win : Nat} {zs : List Int} {j g cap : Nat} (h : GB w0 W H sil most win zs j g cap) : RdM W g (j + 1) cap (monsTo zs j) ∧ w0.heap.size ≤ g ∧ ∃ cs, W.heap[g]? = some (.cells cs 29) := by
  have hl := monsTo_len zs j
  have hc := fun k (hk : k < j + 1) i (hi : i < 6) => own_flat mc mc_len h.own hl k hk i hi
  obtain ⟨_, h2⟩ := h.own
  rcases h2 with ⟨h3, _⟩ | ⟨g1, cap1, cur, h3, h4, h5, h6, h7, _⟩
  · cases h3
  · cases h3
    refine ⟨⟨hl, h6, h7, row_lt h5, fun k hk => ?_⟩, h4, cur, h5⟩
    have e : mAt (monsTo zs j) k = (monsTo zs j)[k]'(by omega) := by
      unfold mAt
      rw [List.getD_eq_getElem?_getD, List.getElem?_eq_getElem (by omega)]
      rfl
    rw [e]
    exact ⟨(by have h9 := hc k hk 0 (by decide); rw [Nat.add_zero] at h9; exact h9), hc k hk 1 (by decide), hc k hk 2 (by decide), hc k hk 3 (by decide), hc k hk 4 (by decide), hc k hk 5 (by decide)⟩
def LoopI (C : Cx) (V : Nat) (lv : Value) (y : Nat → Value) (W : World) : Prop := ∃ i, i ≤ C.nL ∧ LawI C V i lv y W
theorem nth_rep (n k : Nat) : nth (List.replicate n 0) k = 0 := by
  unfold nth
  rw [List.getD_eq_getElem?_getD, List.getElem?_replicate]
  split <;> rfl
theorem getB_rep (n k : Nat) : (List.replicate n false).getD k false = false := by
  rw [List.getD_eq_getElem?_getD, List.getElem?_replicate]
  split <;> rfl
theorem LawI.fr {C : Cx} {V i : Nat} {lv : Value} {y : Nat → Value} {W : World} (h : LawI C V i lv y W) : LawI C V i lv (fun i => (Go.Proofs.Ytkgnelmnadnbhaa.fr 332 y).getD i undef) W := by
  obtain ⟨tv, s, v, long, quiet, trips, ⟨s4, s11, s13, s15, s16, s17, s18, s19⟩, hI⟩ := h
  exact ⟨tv, s, v, long, quiet, trips, ⟨(fr_at _ _ _ (by decide)).trans s4, (fr_at _ _ _ (by decide)).trans s11, (fr_at _ _ _ (by decide)).trans s13, (fr_at _ _ _ (by decide)).trans s15, (fr_at _ _ _ (by decide)).trans s16, (fr_at _ _ _ (by decide)).trans s17, (fr_at _ _ _ (by decide)).trans s18, (fr_at _ _ _ (by decide)).trans s19⟩, hI⟩
/-- at first -/
theorem jg_start (ms : List Mon) (n sil win : Nat) (hf : ∀ k, k < n → 1 ≤ (mAt ms k).fr) : JG ms n sil win 0 (St.mk false (-1) (List.replicate n 0) (List.replicate n false) 0 [] []) (List.replicate n 0) 0 [] :=
  ⟨List.length_replicate, List.length_replicate, List.length_replicate, fun k hk => by rw [nth_rep]; omega, fun k hk => by
    rw [getB_rep, nth_rep]
    exact (decide_eq_false (by have := hf k hk; omega)).symm, ⟨[], rfl, .inl rfl⟩, Nat.zero_le _, List.Pairwise.nil, (fun t ht => by cases ht), (by show 0 = min 0 sil; omega), rfl, (by show (-3 : Int) ≤ -1; omega), (by show (-1 : Int) + 1 ≤ (n : Int); omega), fun k => by rw [nth_rep]; omega, Nat.zero_le _⟩
set_option maxRecDepth 1000000 in
set_option maxHeartbeats 4000000 in
theorem law_ok (fa : Option Addr) (fn fc : Nat) (zs : List Int) (z1 z2 z3 : Int) (aL : Option Addr) (nL cL : Nat) (lk : Nat → Lk) (w : World) (hf : Rd w fa fn fc (vz zs)) (hz : ∀ z ∈ zs, I64 z) (h1 : I64 z1) (h2 : I64 z2) (h3 : I64 z3) (hl : LkAt w aL nL cL lk) (hnL : nL ≤ 9223372036854775807) :
    Calls Try.prog 3 #[.slice fa fn fc, .int .i64 z1, .int .i64 z2, .int .i64 z3, .slice aL nL cL] w fun e w' => e = .returned (.bool true) ∧ Below w.heap.size w w' := by
  by_cases hn3 : 300 < nL
  · have d1 : decide ((300 : Int) < (nL : Int)) = true := decide_eq_true (by omega)
    have d2 : decide (300 < nL) = true := decide_eq_true hn3
    clear hf hz hl
    go_enter Try.func3, Try.ntmps3
    go_wp2_with fail
    go_ret
    exact ⟨rfl, Below.refl _ _⟩
  · have d1 : decide ((300 : Int) < (nL : Int)) = false := decide_eq_false (by omega)
    have d2 : decide (300 < nL) = false := decide_eq_false hn3
    have hpA := pick_st z1 20 w h1.1 h1.2 (by decide) (by decide)
    have hpB := pick_st z2 6 w h2.1 h2.2 (by decide) (by decide)
    have hpC := pick_st z3 30 w h3.1 h3.2 (by decide) (by decide)
    rw [show (20 : Int).toNat = 20 from rfl] at hpA
    rw [show (6 : Int).toNat = 6 from rfl] at hpB
    rw [show (30 : Int).toNat = 30 from rfl] at hpC
    have p1 := pk_lt z1 20 (by decide)
    have p2 := pk_lt z2 6 (by decide)
    have p3 := pk_lt z3 30 (by decide)
    generalize pk z1 20 = sil at *
    generalize pk z2 6 = m0 at *
    generalize pk z3 30 = w0_ at *
    have Hz := hid hz
    clear hz hnL h1 h2 h3
    go_enter Try.func3, Try.ntmps3
    refine wp_seq_k (fun K0 hK0 => ?_)
    go_wp2_with fail
    refine hK0.out _ _ ?_
    refine wp_seq_k (fun K1 hK1 => ?_)
    go_wp2_with fail
    refine hK1.out _ _ ?_
    refine wp_seq_k (fun K3 hK3 => ?_)
    go_wp2_with fail
    refine hpA.mono ?_
    rintro e w' ⟨rfl, hw'⟩
    rw [hw']
    clear hw' w'
    go_wp2_with fail
    refine hpB.mono ?_
    rintro e w' ⟨rfl, hw'⟩
    rw [hw']
    clear hw' w'
    obtain ⟨most, hmost⟩ : ∃ most, most = 1 + m0 := ⟨_, rfl⟩
    have em : (1 : Int) + (m0 : Int) = (most : Int) := by omega
    have hm16 : 1 ≤ most ∧ most ≤ 6 := by omega
    clear hmost
    go_wp2_with fail
    refine hpC.mono ?_
    rintro e w' ⟨rfl, hw'⟩
    rw [hw']
    clear hw' w'
    obtain ⟨win, hwin⟩ : ∃ win, win = 1 + w0_ := ⟨_, rfl⟩
    have ew : (1 : Int) + (w0_ : Int) = (win : Int) := by omega
    have hw130 : 1 ≤ win ∧ win ≤ 30 := by omega
    clear hwin
    go_wp2_with fail
    refine hK3.out _ _ ?_
    clear em ew hpA hpB hpC
    have b3 := below_alloc w (.cells #[.slice none 0 0, .int .i64 (sil : Int), .int .i64 (most : Int), .int .i64 (win : Int), .string ⟨#[115, 97, 102, 101]⟩] 27)
    have r3 := heap_alloc_new w (.cells #[.slice none 0 0, .int .i64 (sil : Int), .int .i64 (most : Int), .int .i64 (win : Int), .string ⟨#[115, 97, 102, 101]⟩] 27)
    obtain ⟨H, hH⟩ : ∃ H, H = w.heap.size := ⟨_, rfl⟩
    rw [← hH] at r3 ⊢
    have HH := hid hH
    clear hH
    generalize w.alloc (.cells #[.slice none 0 0, .int .i64 (sil : Int), .int .i64 (most : Int), .int .i64 (win : Int), .string ⟨#[115, 97, 102, 101]⟩] 27) = W3 at *
    refine wp_seq ?_
    refine Tri.use (law_4 w W3 H sil most win zs fa fn fc aL nL cL b3 (by rw [HH.out]; exact Nat.le_refl _) r3) rfl ⟨rfl, rfl, rfl, rfl⟩ ?_
    rintro y4 W4 ⟨s0, s4, s11, g4, cap4, hG4⟩
    show Code.wp _ _ _ _ _
    clear b3 r3
    have HG4 := hid hG4
    clear hG4
    rw [fr332]
    simp only [s0, s4, s11]
    clear s0 s4 s11
    refine wp_seq_k (fun K5 hK5 => ?_)
    refine wp_seq_k (fun K6 hK6 => ?_)
    go_wp2_with fail
    refine hK6.out _ _ ?_
    refine Tri.use (law_make w W4 H sil most win g4 cap4 zs Hz.out fa fn fc hf aL nL cL HG4.out) rfl ⟨⟨rfl, rfl, rfl, rfl⟩, rfl⟩ ?_
    rintro y5 W5 ⟨j, g, cap, hj8, s4, s11, hG5⟩
    refine hK5.out _ _ ?_
    obtain ⟨hrm, hgB, hgr⟩ := hG5.rd
    have hrow := hG5.row
    have hlen := monsTo_len zs j
    have hgm : GoodMons (monsTo zs j) := fun k hk => mon_good zs j hj8 k (by rw [hlen] at hk; exact hk)
    have hnm := mon_name zs j hj8
    have hmg := mon_good zs j hj8
    obtain ⟨n, hn⟩ : ∃ n, n = j + 1 := ⟨_, rfl⟩
    rw [← hn] at hrm hrow hlen hnm hmg
    have hn9 : 1 ≤ n ∧ n ≤ 9 := by omega
    have Hb5 := hid hG5.blw
    generalize monsTo zs j = ms at *
    clear hn hG5 HG4 Hz
    have hgg : GoodG n sil most win ⟨#[115, 97, 102, 101]⟩ := ⟨by omega, by omega, by omega, hm16.1, hm16.2, hw130.1, hw130.2, by unfold GoodName; decide⟩
    have hbg := begin_ok g n cap sil most win ⟨#[115, 97, 102, 101]⟩ ms W5 hrm hgm hgg
    have Hgm := hid hgm
    have Hgg := hid hgg
    have Hgr := hid hgr
    have HgB := hid hgB
    have Hrm := hid hrm
    have Hrow := hid hrow
    have Hnm := hid hnm
    have Hmg := hid hmg
    have Hlen := hid hlen
    have c0 : W5.cell? ⟨H, 0, none⟩ = some (.slice (some ⟨g, 0, none⟩) n cap) := by rw [cell_of_row _ _ _ _ _ _ hrow]; rfl
    have c1 : W5.cell? ⟨H, 1, none⟩ = some (.int .i64 (sil : Int)) := by rw [cell_of_row _ _ _ _ _ _ hrow]; rfl
    have c2 : W5.cell? ⟨H, 2, none⟩ = some (.int .i64 (most : Int)) := by rw [cell_of_row _ _ _ _ _ _ hrow]; rfl
    have c3 : W5.cell? ⟨H, 3, none⟩ = some (.int .i64 (win : Int)) := by rw [cell_of_row _ _ _ _ _ _ hrow]; rfl
    have c4 : W5.cell? ⟨H, 4, none⟩ = some (.string ⟨#[115, 97, 102, 101]⟩) := by rw [cell_of_row _ _ _ _ _ _ hrow]; rfl
    clear hgm hgg hgr hgB hrm hrow hnm hmg hlen
    rw [fr332]
    simp only [s4, s11]
    clear s4 s11
    refine wp_seq_k (fun K9 hK9 => ?_)
    go_wp2_with fail
    refine hbg.mono ?_
    rintro e W6 ⟨bv, tv, rfl, hbv, htv, hb6⟩
    obtain ⟨ba, bc, rfl, _, _⟩ := hbv.form
    obtain ⟨ta, tc, rfl, _, _⟩ := htv.form
    have Hbv := hid hbv
    have Htv := hid htv
    have Hb6 := hid hb6
    clear hbv htv hb6 c0 c1 c2 c3 c4 hbg
    go_wp2_with fail
    refine hK9.out _ _ ?_
    have b7 := below_alloc W6 (.cells #[.bool false, .int .i64 (-1), .slice ba n bc, .slice ta n tc, .int .i64 0, .slice none 0 0] 33)
    have r7 := heap_alloc_new W6 (.cells #[.bool false, .int .i64 (-1), .slice ba n bc, .slice ta n tc, .int .i64 0, .slice none 0 0] 33)
    obtain ⟨V, hV⟩ : ∃ V, V = W6.heap.size := ⟨_, rfl⟩
    rw [← hV] at r7 ⊢
    have HV := hid hV
    clear hV
    have Hb7 := hid (Hb6.out.trans (b7.mono Hb6.out.size))
    have Hbv7 := hid (Hbv.out.below b7)
    have Htv7 := hid (Htv.out.below b7)
    have HW56 := hid Hb6.out.size
    generalize W6.alloc (.cells #[.bool false, .int .i64 (-1), .slice ba n bc, .slice ta n tc, .int .i64 0, .slice none 0 0] 33) = W7 at *
    have v0 : W7.cell? ⟨V, 0, none⟩ = some (.bool false) := by rw [cell_of_row _ _ _ _ _ _ r7]; rfl
    have c0 : W7.cell? ⟨H, 0, none⟩ = some (.slice (some ⟨g, 0, none⟩) n cap) := by rw [cell_of_row _ _ _ _ _ _ (row_below Hrow.out Hb7.out)]; rfl
    have R7 := hid r7
    clear b7 r7
    refine wp_seq_k (fun K10 hK10 => ?_)
    go_wp2_with fail
    refine hK10.out _ _ ?_
    refine wp_seq_k (fun K12 hK12 => ?_)
    go_wp2_with fail
    refine hK12.out _ _ ?_
    have hmi := run_mkI n (by omega)
    have HMI := hid (madeI n)
    generalize madeCells #[.int .i64 0] n = MI at *
    have b8 := below_alloc W7 (.cells MI 3)
    have r8 := heap_alloc_new W7 (.cells MI 3)
    obtain ⟨lb, hlb⟩ : ∃ lb, lb = W7.heap.size := ⟨_, rfl⟩
    rw [← hlb] at r8
    have Hlb := hid hlb
    have R8 := hid r8
    have Hb8 := hid b8
    clear c0 v0 hlb b8 r8
    refine wp_seq_k (fun K13 hK13 => ?_)
    go_wp2_with fail
    rw [← Hlb.out]
    refine hK13.out _ _ ?_
    clear hmi
    generalize W7.alloc (.cells MI 3) = W8 at *
    refine wp_seq_k (fun K14 hK14 => ?_)
    go_wp2_with fail
    refine hK14.out _ _ ?_
    refine wp_seq_k (fun K15 hK15 => ?_)
    go_wp2_with fail
    refine hK15.out _ _ ?_
    refine wp_seq_k (fun K16 hK16 => ?_)
    refine wp_seq_k (fun K17 hK17 => ?_)
    go_wp2_with fail
    refine hK17.out _ _ ?_
    have hwH : w.heap.size ≤ H := by have := HH.out; omega
    have hb8 : Below w.heap.size w W8 := (Hb5.out.trans (Hb7.out.mono Hb5.out.size)).trans (Hb8.out.mono (by have := Hb5.out.size; have := Hb7.out.size; omega))
    obtain ⟨C, hCe⟩ : ∃ C : Cx, C = ⟨w, aL, nL, cL, lk, H, g, n, cap, sil, most, win, ⟨#[115, 97, 102, 101]⟩, ms⟩ := ⟨_, rfl⟩
    have hC : C.Ok := by
      subst hCe
      exact ⟨hl, by show nL ≤ 300; omega, Hlen.out, Hgm.out, Hgg.out, hwH, HgB.out, Hnm.out, (by show (⟨#[115, 97, 102, 101]⟩ : ByteArray) ≠ ⟨#[]⟩; decide), rfl⟩
    have hLI : LI C V 0 (.slice (some ⟨lb, 0, none⟩) n n) (.slice none 0 0) (St.mk false (-1) (List.replicate n 0) (List.replicate n false) 0 [] []) ⟨ba, bc, ta, tc, none, 0⟩ (List.replicate n 0) 0 [] W8 := by
      subst hCe
      have hlo : OwnAt W8 w.heap.size 3 (.slice (some ⟨lb, 0, none⟩) n n) n (vi (List.replicate n 0)) := ownAt_heap (by rw [← HMI.out]; exact R8.out) (by rw [vi_len]; simp) (by have := Hlb.out; have := Hb5.out.size; have := Hb7.out.size; omega) (by unfold maxLen; omega)
      have hB5 := Hb5.out.size
      refine ⟨⟨hb8, row_below (row_below Hrow.out Hb7.out) Hb8.out, (Hrm.out.ext Hb7.out).ext Hb8.out, ?_, hlo, OwnAt.nil _ _ _, (fun k _ h => by cases h)⟩, ⟨row_below R7.out Hb8.out, ?_, (Hbv7.out.mono hB5).below Hb8.out, (Htv7.out.mono hB5).below Hb8.out, OwnAt.nil _ _ _, ?_, (fun k _ h => by cases h), (fun k h _ => by cases h), (fun k h _ => by cases h)⟩, jg_start ms n sil win (fun k hk => (Hmg.out k hk).f1), Nat.zero_le _⟩
      · obtain ⟨cs, hcs⟩ := Hgr.out
        exact ⟨cs, row_below (row_below hcs Hb7.out) Hb8.out⟩
      · show w.heap.size ≤ V
        have := HV.out
        have := HW56.out
        omega
      · intro k h1 h2
        have h3 := (Hbv7.out.lt k h2).2
        have h4 : lb = k := by injection h1
        have h5 := Hlb.out
        rw [h5] at h4
        exact absurd h3 (by rw [← h4]; exact Nat.lt_irrefl _)
    have HL := hid hLI
    have HC := hid hC
    have HCe := hid hCe
    have e1 : C.aL = aL := by rw [hCe]
    have e2 : C.nL = nL := by rw [hCe]
    have e3 : C.cL = cL := by rw [hCe]
    have e4 : C.H = H := by rw [hCe]
    have e5 : C.n = n := by rw [hCe]
    have e6 : C.w0 = w := by rw [hCe]
    have hcL : cL ≤ maxLen := hl.max
    have hlc : nL ≤ cL := hl.le
    unfold maxLen at hcL
    clear hLI hC hCe hb8 hf hl
    refine wp_block ?_
    refine wp_loop_fr 332 (LoopI C V (.slice (some ⟨lb, 0, none⟩) n n)) (fun y' _ => nL - (intOf (y' 19)).toNat) ⟨rfl, rfl, 0, Nat.zero_le _, _, _, _, _, _, _, ⟨by rw [e1, e2, e3]; rfl, by rw [e4]; rfl, rfl, by rw [e5]; rfl, rfl, rfl, rfl, rfl⟩, HL.out⟩ ?_
    rintro z W ⟨i, hi, hI⟩
    rw [e2] at hi
    by_cases hlt : i < nL
    · refine law_round C HC.out V i _ (by rw [e2]; exact hlt) _ z W hI ?_
      rintro y' w' hI'
      have hz : z 19 = .int .i64 (i : Int) := by obtain ⟨_, _, _, _, _, _, hs, _⟩ := hI; exact hs.s19
      have hy : y' 19 = .int .i64 ((i + 1 : Nat) : Int) := by obtain ⟨_, _, _, _, _, _, hs, _⟩ := hI'; exact hs.s19
      refine ⟨fr_size _ _, rfl, ⟨i + 1, by rw [e2]; omega, hI'.fr⟩, ?_⟩
      show nL - (intOf ((fr 332 y').getD 19 undef)).toNat < nL - (intOf (z 19)).toNat
      rw [fr_at _ _ _ (by decide), hy, hz]
      simp [intOf]
      omega
    · obtain rfl : i = nL := by omega
      obtain ⟨tv, s, v, long, quiet, trips, ⟨s4, s11, s13, s15, s16, s17, s18, s19⟩, hI⟩ := hI
      have hfin := hid hI.mi.blw
      rw [e6] at hfin
      rw [e1, e2, e3] at s4
      clear hI
      rw [fr332]
      simp only [s4, s19]
      clear s4 s11 s13 s15 s16 s17 s18 s19 e1 e2 e3 e4 e5 e6
      go_wp2_with fail
      refine hK16.out _ _ ?_
      go_wp2_with fail
      trace_state
      go_ret
      exact ⟨rfl, by first | exact hfin.out | (rw [HH.out]; exact hfin.out)⟩
end Go.Proofs.Ytkgnelmnadnbhaa
