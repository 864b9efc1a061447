/- Passes: slices.SortFunc of indices, joined. -/
import Derived.Test.YtfbchmihkndfaaaSort2P
namespace Go.Proofs.Ytfbchmihkndfaaa
set_option linter.unusedVariables false
open Go.RowKit

theorem perm_lt {L L0 : List Nat} {n : Nat} (h : L.Perm L0) (h0 : ∀ x ∈ L0, x < n) (hl : L0.length = n) : ∀ k, k < n → nth L k < n := fun k hk => by
  have : nth L k ∈ L := by
    unfold nth
    rw [List.getD_eq_getElem?_getD, List.getElem?_eq_getElem (by rw [h.length_eq]; omega)]
    exact List.getElem_mem _
  exact h0 _ (h.mem_iff.1 this)
/-- what the sort stands on -/
structure SO (W0 : World) (B X g o c n cap : Nat) (la : Option Addr) (l : List Ps) (L0 : List Nat) : Prop where
  n1 : 1 ≤ n
  n9 : n ≤ 9
  gp : GoodPs l
  x : W0.heap[X]? = some (.cells #[.slice la n cap] 39)
  r : RdPs W0 la n cap l
  own : OwnAt W0 B 3 (.slice (some ⟨g, o, none⟩) n c) n (vi L0)
  lt : ∀ x ∈ L0, x < n
  len : L0.length = n
theorem SO.at_ {W0 W : World} {B X g o c n cap : Nat} {la : Option Addr} {l : List Ps} {L0 : List Nat} (h : SO W0 B X g o c n cap la l L0) (hg : Gb g W0 W) : W.heap[X]? = some (.cells #[.slice la n cap] 39) ∧ RdPs W la n cap l := by
  have hx : ∀ b cs T, 3 ≠ T → W0.heap[b]? = some (.cells cs T) → (some g : Option Nat) ≠ some b := fun b cs T hT hr e => by
    rcases h.own.ne hr hT with h4 | h4
    · cases h4
    · exact h4 e
  exact ⟨row_grown h.x hg (fun e => hx X _ 39 (by decide) h.x (by rw [e])), h.r.kept hg (fun b cs hr => hx b cs 41 (by decide) hr)⟩
set_option maxRecDepth 1000000 in
set_option maxHeartbeats 1000000 in
/-- one more is put in its place -/
theorem put_ok (B X g o c n i cap : Nat) (la : Option Addr) (l : List Ps) (L0 L : List Nat) (W0 W1 : World) (hO : SO W0 B X g o c n cap la l L0) (hi : i < n) (hM : SM W0 W1 B X g o c n la cap l L) (hS : Srt (frOf l) L0 L i) :
    Tri Try.prog 53 (pieceOf Try.f42 [1, 0, 0, 1, 0, 0]) (fun y w => SlotI y g o c n X ∧ y 8 = .int .i64 (i : Int) ∧ w = W1)
      (fun _ _ y w => ∃ L', SlotI y g o c n X ∧ y 8 = .int .i64 (i : Int) ∧ SM W0 w B X g o c n la cap l L' ∧ Srt (frOf l) L0 L' (i + 1)) := by
  rintro Q y w ⟨⟨s0, s1, s2, s3⟩, s8, rfl⟩ hQ
  have HQ := hid hQ
  have hn9 := hO.n9
  have hLl : L.length = n := hS.perm.length_eq.trans hO.len
  have HI := hid (hS.start (by rw [hLl]; exact hi))
  have HM := hid hM
  clear hQ hM hS
  conv => arg 2; whnf
  rw [fr53]
  simp only [s0, s1, s2, s3, s8]
  clear s0 s1 s2 s3 s8
  refine wp_seq_k (fun K1 hK1 => ?_)
  go_wp2_with fail
  refine hK1.out _ _ ?_
  refine wp_block ?_
  refine wp_loop_fr 53 (InI W0 B X g o c n la cap l L0 i) (fun y' _ => (intOf (y' 9)).toNat) ⟨rfl, rfl, i, L, Nat.le_refl _, ⟨rfl, rfl, rfl, rfl⟩, rfl, rfl, HM.out, HI.out⟩ ?_
  rintro z W ⟨j, L1, hj, hsl, z8, z9, hM1, hI1⟩
  obtain ⟨hX, hr⟩ := hO.at_ hM1.gb
  have hlt := perm_lt hI1.perm hO.lt hO.len
  have ht := test_ok B X g o c n j i cap la l L1 W hn9 (by omega) hO.gp hlt hX hr hM1.own
  refine wp_seq (wp_seq (ht _ z W ⟨hsl, z8, z9, rfl⟩ ?_))
  rintro y1 W1' ⟨⟨t0, t1, t2, t3⟩, t8, t9, t34, hb1⟩
  show Code.wp _ _ _ _ _
  rw [fr53]
  cases hb : (decide (0 < j) && decide (frOf l (nth L1 (j - 1)) < frOf l (nth L1 j))) with
  | true =>
    rw [hb] at t34
    rw [Bool.and_eq_true, decide_eq_true_eq, decide_eq_true_eq] at hb
    obtain ⟨j', rfl⟩ : ∃ j', j = j' + 1 := ⟨j - 1, by omega⟩
    have hM2 := hM1.below hb1
    have hsw := hid (swap_ok B X g o c n j' i L1 W1' hn9 (by omega) hM2.own)
    have hst := hid (hI1.step (by have := hb.2; simpa using this))
    have HGb := hid hM2.gb
    simp only [t0, t1, t2, t3, t8, t9, t34]
    have Z9 := hid z9
    clear t0 t1 t2 t3 t8 t9 t34 hb hb1 ht hI1 hM1 hM2 hX hr hlt z8 z9 hsl
    go_upto_block 3 with (fail)
    refine wp_block ?_
    refine Tri.use hsw.out rfl ⟨⟨rfl, rfl, rfl, rfl⟩, rfl, rfl, rfl⟩ ?_
    rintro y2 W2 ⟨⟨t0, t1, t2, t3⟩, t8, t9, ho2, hg2⟩
    have hfin : Hid (SM W0 W2 B X g o c n la cap l ((L1.set (j' + 1) (nth L1 j')).set j' (nth L1 (j' + 1)))) := ⟨ho2, grownBy_trans HGb.out hg2⟩
    clear ho2 hg2
    rw [fr53]
    simp only [t0, t1, t2, t3, t8, t9]
    clear t0 t1 t2 t3 t8 t9
    go_wp2_with fail
    refine ⟨rfl, rfl, ⟨j', _, by omega, ⟨rfl, rfl, rfl, rfl⟩, rfl, ?_, hfin.out, hst.out⟩, ?_⟩
    · show Value.int .i64 _ = Value.int .i64 _
      congr 1
      try omega
    · show (intOf (Value.int .i64 _)).toNat < _
      rw [Z9.out]
      simp [intOf]
      try omega
  | false =>
    rw [hb] at t34
    have hst := hid (hI1.stop (by
      rw [Bool.and_eq_false_iff, decide_eq_false_iff_not, decide_eq_false_iff_not] at hb
      rcases hb with h | h
      · exact .inl (by omega)
      · exact .inr (by omega)))
    have hM2 := hid (hM1.below hb1)
    simp only [t0, t1, t2, t3, t8, t9, t34]
    clear t0 t1 t2 t3 t8 t9 t34 hb hb1 ht hI1 hM1 hX hr hlt z8 z9 hsl
    go_wp2_with fail
    exact q_fr (N := 53) HQ.out rfl ⟨_, ⟨rfl, rfl, rfl, rfl⟩, rfl, hM2.out, hst.out⟩
end Go.Proofs.Ytfbchmihkndfaaa
