/- GuardLatches: the law looks at one monitor, joined. -/
import Derived.Test.YtkgnelmnadnbhaaLawT4b
namespace Go.Proofs.Ytkgnelmnadnbhaa
set_option linter.unusedVariables false
open Go.RowKit

set_option maxRecDepth 1000000 in
set_option maxHeartbeats 1000000 in
theorem law_40 (C : Cx) (hC : C.Ok) (V N vb mb : Nat) (lv tv nv : Value) (quiet i k : Nat) (why : Int) (wrong b : Bool) (m : Mon) (s s' : St) (v v' : Vs) (names : List ByteArray) (na : Option Addr) (nc : Nat) (vals : List Int) (long trips : List Nat) (W0 : World) (hk : k < C.n) (hi : i < 300) (ht : trips.length ≤ 3000)
    (hm : W0.heap[mb]? = some (.cells (mRow m) 29)) (hA : AfterStep C W0 V N s s' v v' names na nc vb vals lv long tv trips) :
    Tri Try.prog 332 (pieceOf Try.f3 [1, 1, 1, 1, 1, 1, 1, 1, 1, 1, 1, 0, 1, 0, 0, 1, 0, 0, 1, 1, 1, 1, 1, 1, 1, 0, 1, 0, 0, 1, 0, 0, 1, 1, 1, 1, 0, 1]) (fun y w => SX C y V N vb lv tv nv quiet i k why wrong ∧ y 28 = .pointer (some ⟨mb, 0, none⟩) ∧ y 199 = .bool b ∧ w = W0)
      (fun _ _ y w => ∃ tv', SX C y V N vb lv tv' nv quiet i k (if b = true ∧ m.tier = 3 ∧ why = -1 then (k : Int) else why) wrong ∧ y 28 = .pointer (some ⟨mb, 0, none⟩) ∧ AfterStep C w V N s s' v v' names na nc vb vals lv long tv' (if b = true then trips ++ [i] else trips) ∧ w.heap[mb]? = some (.cells (mRow m) 29)) := by
  rintro Q y w ⟨hS, h28, h199, rfl⟩ hQ
  obtain ⟨⟨s4, s11, s13, s15, s16, s17, s18, s19⟩, s20, s22, s23, s25, s26, s27⟩ := hS
  have HQ := hid hQ
  have hn := hC.gg.n2
  conv => arg 2; whnf
  rw [fr332]
  cases b with
  | false =>
    have HA := hid hA
    have Hm := hid hm
    clear hQ hA hm
    simp only [s4, s11, s13, s15, s16, s17, s18, s19, s20, s22, s23, s25, s26, s27, h28, h199]
    clear s4 s11 s13 s15 s16 s17 s18 s19 s20 s22 s23 s25 s26 s27 h28 h199
    go_wp2_with fail
    refine q_fr (N := 332) HQ.out rfl ⟨_, ⟨⟨rfl, rfl, rfl, rfl, rfl, rfl, rfl, rfl⟩, rfl, rfl, rfl, ?_, rfl, rfl⟩, rfl, HA.out, Hm.out⟩
    rw [if_neg (fun h => by cases h.1)]
    rfl
  | true =>
    obtain ⟨i3, hi3, hz3, hs3, hb3⟩ := info_parts Try.info3b
    obtain ⟨ta, tc, htv, htle, htmx⟩ := hA.mi.tr.form
    subst htv
    have b40 := below_alloc w (.cells #[.int .i64 (i : Int)] 3)
    have r40 := heap_alloc_new w (.cells #[.int .i64 (i : Int)] 3)
    have A40 := hid (hA.below b40)
    have m40 := hid (row_below hm b40)
    have hsz := hid (hA.mi.blw.size)
    have hbz := hid b40.size
    have c4 : w.cell? ⟨mb, 4, none⟩ = some (.int .i64 (m.tier : Int)) := by rw [cell_of_row _ _ _ _ _ _ hm]; rfl
    obtain ⟨mo, mf, mt, mn⟩ := m
    dsimp only at *
    clear hQ hA hm b40
    simp only [s4, s11, s13, s15, s16, s17, s18, s19, s20, s22, s23, s25, s26, s27, h28, h199]
    clear s4 s11 s13 s15 s16 s17 s18 s19 s20 s22 s23 s25 s26 s27 h28 h199
    go_wp2_with (at_builtin; refine hold ?_)
    unfold Hid
    refine wpList_append_at rfl _ _ 22 rfl C.w0.heap.size 3 i3 (.int .i64 0) 8 Try.underlying22 hi3 hz3 hs3 hb3 rfl (.slice ta trips.length tc) trips.length (vi trips) rfl A40.out.mi.tr ⟨w.heap.size, 0, none⟩ (.int .i64 (i : Int)) rfl (by rw [cell_of_row _ _ _ _ _ _ r40]; rfl) rfl (by unfold maxLen; omega) (by omega) (by have := hsz.out; have := hbz.out; omega) ?_
    intro v12 W12 o12 g12 fr12
    have hx : vi trips ++ [.int .i64 (i : Int)] = vi (trips ++ [i]) := by rw [vi_append]; rfl
    rw [hx] at o12
    have A12 := hid (A40.out.grow (trips' := trips ++ [i]) g12 (by rw [List.length_append]; exact o12) fr12)
    have m12 := hid ((g12.block mb (row_lt m40.out) (fun e => by
      rcases A40.out.mi.tr.ne m40.out (by decide) with h4 | h4
      · rw [h4] at e; cases e
      · exact h4 e.symm)).trans m40.out)
    obtain ⟨ta2, tc2, hv12, hle2, _⟩ := o12.form
    subst hv12
    have c4 : W12.cell? ⟨mb, 4, none⟩ = some (.int .i64 (mt : Int)) := by rw [cell_of_row _ _ _ _ _ _ m12.out]; rfl
    clear o12 g12 fr12 hx htle hle2 r40
    by_cases h3 : mt = 3
    · subst h3
      by_cases hw : why = -1
      · subst hw
        go_wp2_with fail
        refine q_fr (N := 332) HQ.out rfl ⟨_, ⟨⟨rfl, rfl, rfl, rfl, rfl, rfl, rfl, rfl⟩, rfl, rfl, rfl, ?_, rfl, rfl⟩, rfl, A12.out, m12.out⟩
        rw [if_pos (by simp)]
        rfl
      · have h2 : (why == -1) = false := by rw [beq_eq_false_iff_ne]; exact hw
        have Hw := hid hw
        clear hw
        go_wp2_with fail
        refine q_fr (N := 332) HQ.out rfl ⟨_, ⟨⟨rfl, rfl, rfl, rfl, rfl, rfl, rfl, rfl⟩, rfl, rfl, rfl, ?_, rfl, rfl⟩, rfl, A12.out, m12.out⟩
        rw [if_neg (fun h => Hw.out h.2.2)]
        rfl
    · have h2 : ((mt : Int) == 3) = false := by rw [beq_eq_false_iff_ne]; omega
      have Hw := hid h3
      clear h3
      go_wp2_with fail
      refine q_fr (N := 332) HQ.out rfl ⟨_, ⟨⟨rfl, rfl, rfl, rfl, rfl, rfl, rfl, rfl⟩, rfl, rfl, rfl, ?_, rfl, rfl⟩, rfl, A12.out, m12.out⟩
      rw [if_neg (fun h => Hw.out h.2.1)]
      rfl
/-- one monitor -/
theorem law_mon (C : Cx) (hC : C.Ok) (V N vb : Nat) (lv tv nv : Value) (quiet i k : Nat) (u : LW) (s s' : St) (v v' : Vs) (names : List ByteArray) (na : Option Addr) (nc : Nat) (vals : List Int) (W0 : World) (hk : k < C.n) (hi : i < 300) (ht : u.trips.length ≤ 3000) (hb : nth u.long k ≤ 1000) (hvl : vals.length = 3)
    (hA : AfterStep C W0 V N s s' v v' names na nc vb vals lv u.long tv u.trips) :
    Tri Try.prog 332 (pieceOf Try.f3 [1, 1, 1, 1, 1, 1, 1, 1, 1, 1, 1, 0, 1, 0, 0, 1, 0, 0, 1, 1, 1, 1, 1, 1, 1, 0, 1, 0, 0, 1, 0, 0]) (fun y w => SX C y V N vb lv tv nv quiet i k u.why u.wrong ∧ w = W0)
      (fun _ _ y w => ∃ tv', SX C y V N vb lv tv' nv quiet i k (lw1 C.ms vals i u k).why (lw1 C.ms vals i u k).wrong ∧ AfterStep C w V N s s' v v' names na nc vb vals lv (lw1 C.ms vals i u k).long tv' (lw1 C.ms vals i u k).trips) := by
  rintro Q y w ⟨hS, rfl⟩ hQ
  have hn := hC.gg.n2
  have hG := hC.gm k (by rw [hC.len]; exact hk)
  obtain ⟨lb, lo, lc, hlv, _, _, _⟩ := hA.mi.lo.at_ (by omega)
  subst hlv
  have hll := hA.mi.lo.1
  rw [vi_len] at hll
  refine wp_seq (law_34 C V N vb _ tv nv quiet i k u.why u.wrong w hk hn hA.mi.hg hA.mi.rm _ y w ⟨hS, rfl⟩ ?_)
  rintro y1 w1 ⟨hS1, mb, h28, hm1, hb1⟩
  have hA1 := hA.below hb1
  refine wp_seq (law_35 C V N vb mb _ tv nv quiet i k u.why u.wrong (mAt C.ms k) vals w1 hm1 hG.o hA1.vl hvl _ y1 w1 ⟨hS1, h28, rfl⟩ ?_)
  rintro y2 w2 ⟨hS2, h28, h29, rfl⟩
  refine wp_seq (law_36 C V N vb mb lb lo lc tv nv quiet i k u.why u.wrong _ u.long w2 hk hn hb hA1.mi.lo _ y2 w2 ⟨hS2, h28, h29, rfl⟩ ?_)
  rintro y3 w3 ⟨hS3, h28, h29, rfl⟩
  have hA3 := hA1.setLong k (nth u.long k + 1) hk
  have hm3 := row_grown hm1 (hA1.mi.setLong k (nth u.long k + 1) hk).2 (fun e => by
    subst e
    rcases hA1.mi.lo.ne hm1 (by decide) with h4 | h4
    · cases h4
    · exact h4 rfl)
  generalize w2.setCell ⟨lb, lo + k, none⟩ (.int .i64 ((nth u.long k + 1 : Nat) : Int)) = w3 at *
  refine wp_seq (law_37 C V N vb mb lb lo lc tv nv quiet i k u.why u.wrong _ _ w3 hk hn hA3.mi.lo _ y3 w3 ⟨hS3, h28, h29, rfl⟩ ?_)
  rintro y4 w4 ⟨hS4, h28, hw4⟩
  have h4 : AfterStep C w4 V N s s' v v' names na nc vb vals (.slice (some ⟨lb, lo, none⟩) C.n lc) (u.long.set k (xk C.ms vals u k)) tv u.trips ∧ w4.heap[mb]? = some (.cells (mRow (mAt C.ms k)) 29) := by
    unfold xk
    by_cases hin : isIn (vals.getD (mAt C.ms k).of_ 0) = true
    · rw [if_pos hin] at hw4 ⊢
      subst hw4
      have h := hA3.setLong k 0 hk
      rw [List.set_set] at h
      exact ⟨h, row_grown hm3 (hA3.mi.setLong k 0 hk).2 (fun e => by
        subst e
        rcases hA3.mi.lo.ne hm3 (by decide) with h4 | h4
        · cases h4
        · exact h4 rfl)⟩
    · rw [if_neg hin] at hw4 ⊢
      subst hw4
      exact ⟨hA3, hm3⟩
  obtain ⟨hA4, hm4⟩ := h4
  have hx : nth (u.long.set k (xk C.ms vals u k)) k = xk C.ms vals u k := by rw [nth_setM _ _ _ _ (by omega), if_pos rfl]
  have hb39 : (((xk C.ms vals u k : Nat) : Int) == ((mAt C.ms k).fr : Int)) = decide (xk C.ms vals u k = (mAt C.ms k).fr) := by
    by_cases e : xk C.ms vals u k = (mAt C.ms k).fr
    · rw [decide_eq_true e, e]; exact beq_self_eq_true _
    · rw [decide_eq_false e, beq_eq_false_iff_ne]; omega
  refine wp_seq (wp_seq (law_39 C V N vb mb lb lo lc tv nv quiet i k u.why u.wrong (mAt C.ms k) _ w4 hk hn hm4 hA4.mi.lo _ y4 w4 ⟨hS4, h28, rfl⟩ ?_))
  rintro y5 w5 ⟨hS5, h28, h199, hb5⟩
  rw [hx, hb39] at h199
  refine law_40 C hC V N vb mb _ tv nv quiet i k u.why u.wrong _ (mAt C.ms k) s s' v v' names na nc vals _ u.trips w5 hk hi ht (row_below hm4 hb5) (hA4.below hb5) _ y5 w5 ⟨hS5, h28, h199, rfl⟩ ?_
  rintro y6 w6 ⟨tv6, hS6, h28, hA6, hm6⟩
  refine law_43 C V N vb mb lb lo lc tv6 nv quiet i k _ u.wrong (mAt C.ms k) _ w6 hk hn hm6 hA6.mi.lo _ y6 w6 ⟨hS6, h28, rfl⟩ ?_
  rintro y7 w7 ⟨hS7, hb7⟩
  rw [hx] at hS7
  refine hQ y7 w7 ⟨tv6, ?_, ?_⟩
  · simp only [decide_eq_true_eq] at hS7
    exact hS7
  · have h := hA6.below hb7
    simp only [decide_eq_true_eq] at h
    exact h
end Go.Proofs.Ytkgnelmnadnbhaa
