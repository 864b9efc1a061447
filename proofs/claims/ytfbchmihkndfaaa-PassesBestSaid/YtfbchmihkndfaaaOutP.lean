/- Passes: Choose: what is told. -/
import Derived.Test.YtfbchmihkndfaaaChoL
namespace Go.Proofs.Ytfbchmihkndfaaa
set_option linter.unusedVariables false
open Go.RowKit

theorem Try.info3 : (Try.prog.info? 3).map (fun i => (i.zero, i.size, i.bytes)) = some (some (.int .i64 0), 1, 8) := by kernel_rfl
theorem dec_len : ∀ (p : List Nat) (n : Nat), p.Pairwise (fun a b => b < a) → (∀ q ∈ p, q < n) → p.length ≤ n
  | [], _, _, _ => Nat.zero_le _
  | x :: t, n, h, h2 => by
    obtain ⟨h3, h4⟩ := List.pairwise_cons.1 h
    have h5 := dec_len t x h4 h3
    have h6 := h2 x (List.mem_cons_self ..)
    rw [List.length_cons]
    omega
theorem chn_snoc (l : List Ps) (gap : Nat) : ∀ (r : List Nat) (a b : Nat), Chn l gap (r ++ [a]) → fitsB l gap a b = true → Chn l gap (r ++ [a] ++ [b])
  | [], a, b, _, hf => ⟨hf, trivial⟩
  | [x], a, b, h, hf => ⟨h.1, hf, trivial⟩
  | x :: y :: r, a, b, h, hf => ⟨h.1, chn_snoc l gap (y :: r) a b h.2 hf⟩
theorem chn_init (l : List Ps) (gap : Nat) : ∀ (r : List Nat) (a : Nat), Chn l gap (r ++ [a]) → Chn l gap r
  | [], _, _ => trivial
  | [_], _, _ => trivial
  | x :: y :: r, a, h => ⟨h.1, chn_init l gap (y :: r) a h.2⟩
/-- what is told so far, and what is next -/
structure OutP (l : List Ps) (gap n : Nat) (L : List Nat) (bs : List Best) (tot : Nat) (out : List Nat) (i : Int) : Prop where
  ex : ∃ ps : List Nat, out = ps.map (nth L) ∧ ps.Pairwise (fun a b => b < a) ∧ (∀ q ∈ ps, q < n) ∧ ((i = -1 ∧ Chn l gap out) ∨ ∃ a, a < n ∧ i = (nth L a : Nat) ∧ (∀ q ∈ ps, a < q) ∧ Chn l gap (out ++ [nth L a]))
  sum : sumW l out + (ofB bs i).w = tot
theorem OutP.start {l : List Ps} {gap n : Nat} {L : List Nat} {bs : List Best} {first : Int} (h : DP l gap n L n bs first) : OutP l gap n L bs (ofB bs first).w [] first :=
  ⟨⟨[], rfl, List.Pairwise.nil, (fun q hq => by cases hq), h.fst.imp (fun h => ⟨h, trivial⟩) (fun ⟨a, h1, h2⟩ => ⟨a, h1, h2, (fun q hq => by cases hq), trivial⟩)⟩, Nat.zero_add _⟩
theorem OutP.next {l : List Ps} {gap n : Nat} {L : List Nat} {bs : List Best} {first : Int} {tot : Nat} {out : List Nat} {i : Int} (h : OutP l gap n L bs tot out i) (hC : CO n gap l L) (hD : DP l gap n L n bs first) (hi : 0 ≤ i) :
    ∃ k : Nat, i = (k : Int) ∧ k < n ∧ out.length + 1 ≤ n ∧ OutP l gap n L bs tot (out ++ [k]) (bAt bs k).nx := by
  obtain ⟨⟨ps, rfl, h1, h2, h3⟩, hs⟩ := h
  rcases h3 with ⟨h4, _⟩ | ⟨a, ha, rfl, hq, hch⟩
  · omega
  · have hdec : (ps ++ [a]).Pairwise (fun a b => b < a) := by
      rw [List.pairwise_append]
      exact ⟨h1, List.pairwise_singleton _ _, fun x hx y hy => by rw [List.mem_singleton] at hy; subst hy; exact hq x hx⟩
    have hlt : ∀ q ∈ ps ++ [a], q < n := fun q hq2 => by
      rcases List.mem_append.1 hq2 with h5 | h5
      · exact h2 q h5
      · rw [List.mem_singleton] at h5; omega
    have hlen := dec_len _ _ hdec hlt
    refine ⟨nth L a, rfl, hC.lt a ha, by simpa using hlen, ⟨ps ++ [a], by simp, hdec, hlt, ?_⟩, ?_⟩
    · rcases (hD.made a ha).nx with ⟨k1, _⟩ | ⟨a', k1, k2, k3, _⟩
      · exact .inl ⟨k1, hch⟩
      · refine .inr ⟨a', by omega, k2, fun q hq2 => ?_, chn_snoc l gap _ _ _ hch k3⟩
        rcases List.mem_append.1 hq2 with h5 | h5
        · have := hq q h5; omega
        · rw [List.mem_singleton] at h5; omega
    · rw [ofB_nat] at hs
      rw [sumW_append]
      have e : sumW l [nth L a] = wOf l (nth L a) := Nat.add_zero _
      rw [e]
      rcases (hD.made a ha).nx with ⟨k1, k2⟩ | ⟨a', k1, k2, k3, k4⟩
      · rw [k1]
        have : (ofB bs (-1)).w = 0 := rfl
        omega
      · rw [k2, ofB_nat]
        omega
/-- what Choose answers -/
structure ChoP (l : List Ps) (gap n : Nat) (out : List Nat) (tot : Nat) : Prop where
  lt : ∀ x ∈ out, x < n
  nd : out.Nodup
  ch : Chn l gap out
  sum : sumW l out = tot
  opt : ∀ c : List Nat, (∀ x ∈ c, x < n) → Chn l gap c → sumW l c ≤ tot
  len : out.length ≤ n
  big : tot ≤ 10000
theorem OutP.done {l : List Ps} {gap n : Nat} {L : List Nat} {bs : List Best} {first : Int} {out : List Nat} {i : Int} (h : OutP l gap n L bs (ofB bs first).w out i) (hC : CO n gap l L) (hD : DP l gap n L n bs first) (hi : i < 0) : ChoP l gap n out (ofB bs first).w := by
  have hopt := chain_le hC.g hC.len hC.perm hC.desc hD
  obtain ⟨⟨ps, rfl, h1, h2, h3⟩, hs⟩ := h
  rcases h3 with ⟨rfl, h4⟩ | ⟨a, ha, rfl, _⟩
  · have : (ofB bs (-1)).w = 0 := rfl
    refine ⟨fun x hx => ?_, ?_, h4, by omega, hopt, by rw [List.length_map]; exact dec_len _ _ h1 h2, ?_⟩
    · obtain ⟨q, hq, rfl⟩ := List.mem_map.1 hx
      exact hC.lt q (h2 q hq)
    · refine List.pairwise_map.2 ?_
      refine h1.imp_of_mem fun ha hb hab e => ?_
      have := nth_inj hC.nd (by rw [hC.ln]; exact h2 _ ha) (by rw [hC.ln]; exact h2 _ hb) e
      omega
    · have hn9 := hC.n9
      rcases hD.fst with h5 | ⟨a, ha, h5⟩
      · rw [h5, this]; omega
      · rw [h5, ofB_nat]
        have := (hD.made a ha).wb
        have : 1000 * (a + 1) ≤ 1000 * 9 := Nat.mul_le_mul_left _ (by omega)
        omega
  · omega
def lenV : Value → Nat
  | .slice _ k _ => k
  | _ => 0
def TellI (W0 : World) (B P bb n cap gap : Nat) (la : Option Addr) (l : List Ps) (L : List Nat) (bs : List Best) (first : Int) (y : Nat → Value) (W : World) : Prop :=
  ∃ out i ov, y 7 = .pointer (some ⟨P, 0, none⟩) ∧ y 10 = .int .i64 first ∧ y 17 = ov ∧ lenV ov = out.length ∧ y 18 = .int .i64 i ∧ OutP l gap n L bs (ofB bs first).w out i ∧ PlanM W P bb n cap gap la l bs ∧ OwnAt W B 3 ov out.length (vi out) ∧ Below B W0 W
set_option maxRecDepth 1000000 in
set_option maxHeartbeats 2000000 in
theorem tell_ok (B P bb n cap gap : Nat) (la : Option Addr) (l : List Ps) (L : List Nat) (bs : List Best) (first : Int) (W0 : World) (hC : CO n gap l L) (hM : PlanM W0 P bb n cap gap la l bs) (hD : DP l gap n L n bs first) (hB : B = W0.heap.size) :
    Tri Try.prog 128 (pieceOf Try.f8 [1, 1, 1, 1, 1, 1, 1, 1, 1, 0, 1]) (fun y w => y 7 = .pointer (some ⟨P, 0, none⟩) ∧ y 10 = .int .i64 first ∧ y 17 = .slice none 0 0 ∧ y 18 = .int .i64 first ∧ w = W0)
      (fun _ _ y w => ∃ out ov, y 7 = .pointer (some ⟨P, 0, none⟩) ∧ y 10 = .int .i64 first ∧ y 17 = ov ∧ ChoP l gap n out (ofB bs first).w ∧ PlanM w P bb n cap gap la l bs ∧ OwnAt w B 3 ov out.length (vi out) ∧ Below B W0 w) := by
  rintro Q y w ⟨s7, s10, s17, s18, rfl⟩ hQ
  have HQ := hid hQ
  have hn9 := hC.n9
  have HC := hid hC
  have HM := hid hM
  have HD := hid hD
  have HB := hid hB
  obtain ⟨i3, hi3, hz3, hs3, hb3⟩ := info_parts Try.info3
  clear hQ hC hM hD hB
  conv => arg 2; whnf
  rw [fr128]
  simp only [s7, s10, s17, s18]
  clear s7 s10 s17 s18
  refine wp_block ?_
  refine wp_loop_fr 128 (TellI w B P bb n cap gap la l L bs first) (fun y' _ => n - lenV (y' 17)) ⟨rfl, rfl, [], first, _, rfl, rfl, rfl, rfl, rfl, OutP.start HD.out, HM.out, OwnAt.nil _ _ _, Below.refl _ _⟩ ?_
  rintro z W ⟨out, i, ov, s7, s10, s17, hov, s18, hO, hM1, hown, hB1⟩
  rw [fr128]
  by_cases h0 : 0 ≤ i
  · obtain ⟨k, rfl, hk, hlen, hO2⟩ := hO.next HC.out HD.out h0
    obtain ⟨oa, oc, hoe, hole, homx⟩ := hown.form
    subst hoe
    obtain ⟨_, _, c2⟩ := hM1.at_ k hk
    have p2 : W.cell? ⟨P, 2, none⟩ = some (.slice (some ⟨bb, 0, none⟩) n n) := by rw [cell_of_row _ _ _ _ _ _ hM1.box]; rfl
    have b1 := below_alloc W (.cells #[.int .i64 (k : Int)] 3)
    have r1 := heap_alloc_new W (.cells #[.int .i64 (k : Int)] 3)
    have o1 := hown.below b1
    have hBW : B ≤ W.heap.size := by have := HB.out; have := hB1.size; omega
    have HM2 := hid (hM1.below b1)
    have HB2 := hid (hB1.trans (b1.mono hBW))
    have HO2 := hid hO2
    have d1 : decide ((0 : Int) ≤ (k : Int)) = true := decide_eq_true (by omega)
    have hbl := row_lt hM1.bst
    have hPl := row_lt hM1.box
    have hbs := hid b1.size
    simp only [s7, s10, s17, s18]
    clear s7 s10 s17 s18 hO hO2 hown b1 hM1 hB1 h0
    go_wp2_with (at_builtin; refine hold ?_)
    unfold Hid
    refine wpList_append_at rfl _ _ 23 rfl B 3 i3 (.int .i64 0) 8 Try.underlying23 hi3 hz3 hs3 hb3 rfl (.slice oa out.length oc) out.length (vi out) rfl o1 ⟨W.heap.size, 0, none⟩ (.int .i64 (k : Int)) rfl (by rw [cell_of_row _ _ _ _ _ _ r1]; rfl) rfl (by unfold maxLen; omega) (by omega) (by have := hbs.out; omega) ?_
    intro v12 W12 o12 g12 fr12
    have hx : vi out ++ [.int .i64 (k : Int)] = vi (out ++ [k]) := by rw [vi_append]; rfl
    rw [hx] at o12
    obtain ⟨oa2, oc2, hv12, hle2, _⟩ := o12.form
    subst hv12
    have hne : ∀ (b T : Nat) (cs : Array Value), 3 ≠ T → (W.alloc (.cells #[.int .i64 (k : Int)] 3)).heap[b]? = some (.cells cs T) → W12.heap[b]? = some (.cells cs T) := fun b T cs hT hr => (g12.block b (row_lt hr) (fun e => by
      rcases o1.ne hr hT with h4 | h4
      · rw [h4] at e; cases e
      · exact h4 e.symm)).trans hr
    have hM3 : PlanM W12 P bb n cap gap la l bs := ⟨hne _ 55 _ (by decide) HM2.out.box, hne _ 59 _ (by decide) HM2.out.bst, HM2.out.bl, HM2.out.ps.kept g12 (fun b cs hr e => by
      rcases o1.ne hr (by decide) with h4 | h4
      · rw [h4] at e; cases e
      · exact h4 e)⟩
    have HM3 := hid hM3
    have HB3 := hid (HB2.out.grown g12 (by have := hbs.out; omega) (fun j hj => (o1.lt j hj).1))
    have O12 := hid o12
    obtain ⟨_, _, c2⟩ := hM3.at_ k hk
    have p2 : W12.cell? ⟨P, 2, none⟩ = some (.slice (some ⟨bb, 0, none⟩) n n) := by rw [cell_of_row _ _ _ _ _ _ hM3.box]; rfl
    clear hM3 hne o12 g12 fr12 hx o1 r1
    generalize (bAt bs k).nx = nx at *
    go_wp2_with fail
    refine ⟨rfl, rfl, ⟨out ++ [k], nx, _, rfl, rfl, rfl, ?_, rfl, HO2.out, HM3.out, ?_, HB3.out⟩, ?_⟩
    · show out.length + 1 = _
      simp
    · rw [List.length_append]; exact O12.out
    · show n - (out.length + 1) < n - out.length
      omega
  · have h1 : i < 0 := by omega
    have d1 : decide (0 ≤ i) = false := decide_eq_false h0
    have HF := hid (hO.done HC.out HD.out h1)
    have HM1 := hid hM1
    have HO := hid hown
    have HB1 := hid hB1
    simp only [s7, s10, s17, s18]
    clear s7 s10 s17 s18 hO hown hM1 hB1 h0 h1
    go_wp2_with fail
    exact q_fr (N := 128) HQ.out rfl ⟨out, ov, rfl, rfl, rfl, HF.out, HM1.out, HO.out, HB1.out⟩
end Go.Proofs.Ytfbchmihkndfaaa
