/- PassesBest: the loop that looks at what was chosen. -/
import Derived.Test.YtfbchmihkndfaaaBst2
namespace Go.Proofs.Ytfbchmihkndfaaa
set_option linter.unusedVariables false
open Go.RowKit

theorem Try.info4 : (Try.prog.info? 4).map (fun i => (i.zero, i.size, i.bytes)) = some (some (.bool false), 1, 1) := by kernel_rfl
theorem run_mkU (m : Nat) (hm : m ≤ 1000000) (u : World) : (Instr.makeSlice 44 (.int .i64 (m : Int)) (.int .i64 (m : Int))).run Try.prog u =
    .ok (.slice (some ⟨u.heap.size, 0, none⟩) m m) (u.alloc (.cells (madeCells #[.bool false] (m * 1)) 4)) := by
  obtain ⟨i0, hi, hz0, hz1, hz2⟩ := info_parts Try.info4
  have h := run_make (P := Try.prog) u 44 4 i0 (.bool false) Try.underlying44 hi hz0 .i64 .i64 (m : Int) (m : Int) (by omega) (Int.le_refl _) (by rw [hz2]; omega) (by omega)
  simpa [hz1, Value.cells] using h
/-- which were seen among the first i -/
def UsedAt (W : World) (B n : Nat) (out : List Nat) (i : Nat) : Prop :=
  ∃ us : Array Value, W.heap[B]? = some (.cells us 4) ∧ us.size = n ∧ ∀ x, x < n → us[x]? = some (.bool (decide (x ∈ out.take i)))
theorem used0 (W : World) (n : Nat) (out : List Nat) : UsedAt (W.alloc (.cells (madeCells #[.bool false] (n * 1)) 4)) W.heap.size n out 0 := by
  refine ⟨_, heap_alloc_new W _, by simp [madeCells], fun x hx => ?_⟩
  rw [List.take_zero]
  simp [madeCells, hx, Nat.mod_one]
theorem take_nth {l : List Nat} {i : Nat} (h : i < l.length) : l.take (i + 1) = l.take i ++ [nth l i] := by
  rw [nth_get h, List.take_succ_eq_append_getElem h]
theorem UsedAt.set {W : World} {B n : Nat} {out : List Nat} {i : Nat} (h : UsedAt W B n out i) (hi : i < out.length) (hk : nth out i < n) :
    UsedAt (W.setCell ⟨B, nth out i, none⟩ (.bool true)) B n out (i + 1) ∧ Gb B W (W.setCell ⟨B, nth out i, none⟩ (.bool true)) := by
  obtain ⟨us, h1, h2, h3⟩ := h
  obtain ⟨h4, h5⟩ := set_row h1 (nth out i) (.bool true) rfl
  refine ⟨⟨_, h4, by simp [h2], fun x hx => ?_⟩, h5⟩
  rw [take_nth hi, Array.getElem?_setIfInBounds]
  by_cases e : nth out i = x
  · rw [if_pos e, if_pos (by omega), ← e]
    simp
  · rw [if_neg e, h3 x hx]
    congr 2
    rw [decide_eq_decide]
    simp [Ne.symm e]
theorem UsedAt.no {W : World} {B n : Nat} {out : List Nat} {i : Nat} (h : UsedAt W B n out i) (hi : i < out.length) (hk : nth out i < n) (hnd : out.Nodup) :
    W.cell? ⟨B, nth out i, none⟩ = some (.bool false) ∧ ∃ us, W.heap[B]? = some (.cells us 4) := by
  obtain ⟨us, h1, h2, h3⟩ := h
  refine ⟨?_, us, h1⟩
  rw [cell_of_row _ _ _ _ _ _ h1, h3 _ hk]
  have : nth out i ∉ out.take i := fun hm => by
    have e : out = out.take i ++ (nth out i :: out.drop (i + 1)) := by
      rw [nth_get hi, ← List.drop_eq_getElem_cons hi, List.take_append_drop]
    rw [e] at hnd
    exact (List.nodup_append.1 hnd).2.2 _ hm _ (List.mem_cons_self ..) rfl
  rw [decide_eq_false this]
structure SM5 (y : Nat → Value) (la : Option Addr) (n cap gap : Nat) (oa : Option Addr) (m oc tot : Nat) : Prop where
  s7 : y 7 = .slice la n cap
  s11 : y 11 = .int .i64 (gap : Int)
  s12 : y 12 = .slice oa m oc
  s13 : y 13 = .int .i64 (tot : Int)
def Bst2I (W0 : World) (la : Option Addr) (n cap gap : Nat) (l : List Ps) (oa : Option Addr) (oc tot : Nat) (out : List Nat) (y : Nat → Value) (W : World) : Prop :=
  ∃ i, i ≤ out.length ∧ SM5 y la n cap gap oa out.length oc tot ∧ y 18 = .int .i64 (sumW l (out.take i) : Nat) ∧ y 19 = .slice (some ⟨W0.heap.size, 0, none⟩) n n ∧ y 20 = .int .i64 (i : Int) ∧ UsedAt W W0.heap.size n out i ∧ Below W0.heap.size W0 W
set_option maxRecDepth 1000000 in
set_option maxHeartbeats 2000000 in
theorem bst_l2 (la : Option Addr) (n cap gap : Nat) (l : List Ps) (oa : Option Addr) (oc tot : Nat) (out : List Nat) (W0 W1 : World) (hn : n ≤ 9) (hC : ChoP l gap n out tot) (hr : RdPs W0 la n cap l) (ho : Rd W0 oa out.length oc (vi out)) (hu : UsedAt W1 W0.heap.size n out 0) (hb : Below W0.heap.size W0 W1) :
    Tri Try.prog 236 (pieceOf Try.f4 [1, 1, 1, 1, 1, 1, 1, 1, 1, 0, 1]) (fun y w => SM5 y la n cap gap oa out.length oc tot ∧ y 18 = .int .i64 0 ∧ y 19 = .slice (some ⟨W0.heap.size, 0, none⟩) n n ∧ y 20 = .int .i64 0 ∧ w = W1)
      (fun _ _ y w => SM5 y la n cap gap oa out.length oc tot ∧ y 18 = .int .i64 (tot : Int) ∧ Below W0.heap.size W0 w) := by
  rintro Q y w ⟨⟨s7, s11, s12, s13⟩, s18, s19, s20, rfl⟩ hQ
  have HQ := hid hQ
  have hol := hC.len
  have hbig := hC.big
  have HC := hid hC
  have HR := hid hr
  have HO := hid ho
  have HU := hid hu
  have HB := hid hb
  clear hQ hC hr ho hu hb
  conv => arg 2; whnf
  rw [fr236]
  simp only [s7, s11, s12, s13, s18, s19, s20]
  clear s7 s11 s12 s13 s18 s19 s20
  refine wp_block ?_
  refine wp_loop_fr 236 (Bst2I W0 la n cap gap l oa oc tot out) (fun y' _ => out.length - (intOf (y' 20)).toNat) ⟨rfl, rfl, 0, Nat.zero_le _, ⟨rfl, rfl, rfl, rfl⟩, rfl, rfl, rfl, HU.out, HB.out⟩ ?_
  clear HU HB
  rintro z W ⟨i, hi, ⟨s7, s11, s12, s13⟩, s18, s19, s20, hu, hb⟩
  have HU := hid hu
  have HB := hid hb
  clear hu hb
  rw [fr236]
  simp only [s7, s11, s12, s13, s18, s19, s20]
  clear s7 s11 s12 s13 s18 s19 s20
  by_cases hlt : i < out.length
  · have hk : nth out i < n := by rw [nth_get hlt]; exact HC.out.lt _ (List.getElem_mem _)
    obtain ⟨cb, co, rfl, hcl, c0⟩ := HO.out.ati i hlt
    obtain ⟨lb, rfl, hll, _, _, _, a3⟩ := HR.out.at_ (nth out i) hk
    obtain ⟨hus, us, hur⟩ := HU.out.no hlt hk HC.out.nd
    have fz := frozen_row hur
    obtain ⟨hu2, hg2⟩ := HU.out.set hlt hk
    have hb2 := HB.out.grown hg2 HB.out.size (fun k e => by cases e; exact Nat.le_refl _)
    have HU2 := hid hu2
    have HB2 := hid hb2
    have c0 : W.cell? ⟨cb, co + i, none⟩ = some (.int .i64 (nth out i : Nat)) := (HB.out.cell (p := ⟨cb, co + i, none⟩) hcl).trans (by assumption)
    have c2 : (W.setCell ⟨W0.heap.size, nth out i, none⟩ (.bool true)).cell? ⟨cb, co + i, none⟩ = some (.int .i64 (nth out i : Nat)) := (hb2.cell (p := ⟨cb, co + i, none⟩) hcl).trans (by assumption)
    have c3 : (W.setCell ⟨W0.heap.size, nth out i, none⟩ (.bool true)).cell? ⟨lb, nth out i * 4 + 3, none⟩ = some (.int .i64 ((pAt l (nth out i)).wo : Int)) := (hb2.cell (p := ⟨lb, nth out i * 4 + 3, none⟩) hll).trans a3
    have hsum : Hid (sumW l (out.take (i + 1)) = sumW l (out.take i) + (pAt l (nth out i)).wo) := by
      rw [take_nth hlt, sumW_append]
      rfl
    have hle : sumW l (out.take i) + (pAt l (nth out i)).wo ≤ tot := by
      have h1 := hsum.out
      have h2 := HC.out.sum
      have h3 : sumW l out = sumW l (out.take (i + 1)) + sumW l (out.drop (i + 1)) := by rw [← sumW_append, List.take_append_drop]
      omega
    clear hu2 hg2 hb2 a3 hur
    obtain ⟨s, hs⟩ : ∃ s, sumW l (out.take i) = s := ⟨_, rfl⟩
    rw [hs] at hle hsum ⊢
    clear hs
    generalize (pAt l (nth out i)).wo = p at *
    have hin := HO.out.max
    have hin2 := HO.out.le
    unfold maxLen at hin
    generalize nth out i = k at *
    have d1 : decide ((i : Int) < (out.length : Int)) = true := decide_eq_true (by omega)
    have d2 : decide (i < out.length) = true := decide_eq_true hlt
    have d3 : decide ((k : Int) < 0) = false := decide_eq_false (by omega)
    have d4 : decide ((n : Int) ≤ (k : Int)) = false := decide_eq_false (by omega)
    have d5 : decide (n ≤ k) = false := decide_eq_false (by omega)
    have a1 : (s : Int) + (p : Int) = ((s + p : Nat) : Int) := by omega
    have w1 : IntKind.i64.wrap ((s + p : Nat) : Int) = ((s + p : Nat) : Int) := IntWalk.i64_in _ (by omega)
    generalize s + p = sp at *
    go_wp2_with fail
    refine ⟨rfl, rfl, ⟨i + 1, by omega, ⟨rfl, rfl, rfl, rfl⟩, ?_, rfl, ?_, HU2.out, HB2.out⟩, ?_⟩
    · rw [hsum.out]
      rfl
    · show Value.int .i64 _ = Value.int .i64 _
      go_num
    · show out.length - (intOf (Value.int .i64 _)).toNat < _
      simp [intOf]
      omega
  · obtain rfl : i = out.length := by omega
    have hsum : Hid (sumW l (out.take out.length) = tot) := by rw [List.take_length]; exact HC.out.sum
    generalize sumW l (out.take out.length) = s at *
    have hbb := HB
    generalize out.length = m at *
    have d1 : decide ((m : Int) < (m : Int)) = false := decide_eq_false (by omega)
    go_wp2_with fail
    exact q_fr (N := 236) HQ.out rfl ⟨⟨rfl, rfl, rfl, rfl⟩, by rw [← hsum.out]; rfl, HB.out⟩
end Go.Proofs.Ytfbchmihkndfaaa
