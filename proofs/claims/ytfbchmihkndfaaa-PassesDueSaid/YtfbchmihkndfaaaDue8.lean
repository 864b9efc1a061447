/- Passes: slices.SortFunc of indices, joined. -/
import Derived.Test.YtfbchmihkndfaaaDue7
import Derived.Test.YtfbchmihkndfaaaDue3
namespace Go.Proofs.Ytfbchmihkndfaaa
set_option linter.unusedVariables false
open Go.RowKit

theorem perm_lt {L L0 : List Nat} {n : Nat} (h : L.Perm L0) (h0 : ∀ x ∈ L0, x < n) (hl : L0.length = n) : ∀ k, k < n → nth L k < n := fun k hk => by
  have : nth L k ∈ L := by
    unfold nth
    rw [List.getD_eq_getElem?_getD, List.getElem?_eq_getElem (by rw [h.length_eq]; omega)]
    exact List.getElem_mem _
  exact h0 _ (h.mem_iff.1 this)
/-- what the sort stands on -/
structure SO (W0 : World) (B X g o c n cap : Nat) (la : Option Addr) (l : List Ps) (L0 : List Nat) : Prop where
  n1 : 1 ≤ n
  n9 : n ≤ 9
  gp : GoodPs l
  x : W0.heap[X]? = some (.cells #[.slice la n cap] 39)
  r : RdPs W0 la n cap l
  own : OwnAt W0 B 3 (.slice (some ⟨g, o, none⟩) n c) n (vi L0)
  lt : ∀ x ∈ L0, x < n
  len : L0.length = n
theorem SO.at_ {W0 W : World} {B X g o c n cap : Nat} {la : Option Addr} {l : List Ps} {L0 : List Nat} (h : SO W0 B X g o c n cap la l L0) (hg : Gb g W0 W) : W.heap[X]? = some (.cells #[.slice la n cap] 39) ∧ RdPs W la n cap l := by
  have hx : ∀ b cs T, 3 ≠ T → W0.heap[b]? = some (.cells cs T) → (some g : Option Nat) ≠ some b := fun b cs T hT hr e => by
    rcases h.own.ne hr hT with h4 | h4
    · cases h4
    · exact h4 e
  exact ⟨row_grown h.x hg (fun e => hx X _ 39 (by decide) h.x (by rw [e])), h.r.kept hg (fun b cs hr => hx b cs 41 (by decide) hr)⟩
set_option maxRecDepth 1000000 in
set_option maxHeartbeats 1000000 in
/-- one more is put in its place -/
theorem put_ok (B X g o c n i cap : Nat) (la : Option Addr) (l : List Ps) (L0 L : List Nat) (W0 W1 : World) (hO : SO W0 B X g o c n cap la l L0) (hi : i < n) (hM : SM W0 W1 B X g o c n la cap l L) (hS : Srt (frOf l) L0 L i) :
    Tri Try.prog 53 (pieceOf Try.f42 [1, 0, 0, 1, 0, 0]) (fun y w => SlotI y g o c n X ∧ y 8 = .int .i64 (i : Int) ∧ w = W1)
      (fun _ _ y w => ∃ L', SlotI y g o c n X ∧ y 8 = .int .i64 (i : Int) ∧ SM W0 w B X g o c n la cap l L' ∧ Srt (frOf l) L0 L' (i + 1)) := by
  rintro Q y w ⟨⟨s0, s1, s2, s3⟩, s8, rfl⟩ hQ
  have HQ := hid hQ
  have hn9 := hO.n9
  have hLl : L.length = n := hS.perm.length_eq.trans hO.len
  have HI := hid (hS.start (by rw [hLl]; exact hi))
  have HM := hid hM
  clear hQ hM hS
  conv => arg 2; whnf
  rw [fr53]
  simp only [s0, s1, s2, s3, s8]
  clear s0 s1 s2 s3 s8
  refine wp_seq_k (fun K1 hK1 => ?_)
  go_wp2_with fail
  refine hK1.out _ _ ?_
  refine wp_block ?_
  refine wp_loop_fr 53 (InI W0 B X g o c n la cap l L0 i) (fun y' _ => (intOf (y' 9)).toNat) ⟨rfl, rfl, i, L, Nat.le_refl _, ⟨rfl, rfl, rfl, rfl⟩, rfl, rfl, HM.out, HI.out⟩ ?_
  rintro z W ⟨j, L1, hj, hsl, z8, z9, hM1, hI1⟩
  obtain ⟨hX, hr⟩ := hO.at_ hM1.gb
  have hlt := perm_lt hI1.perm hO.lt hO.len
  have ht := test_ok B X g o c n j i cap la l L1 W hn9 (by omega) hO.gp hlt hX hr hM1.own
  refine wp_seq (wp_seq (ht _ z W ⟨hsl, z8, z9, rfl⟩ ?_))
  rintro y1 W1' ⟨⟨t0, t1, t2, t3⟩, t8, t9, t34, hb1⟩
  show Code.wp _ _ _ _ _
  rw [fr53]
  cases hb : (decide (0 < j) && decide (frOf l (nth L1 (j - 1)) < frOf l (nth L1 j))) with
  | true =>
    rw [hb] at t34
    rw [Bool.and_eq_true, decide_eq_true_eq, decide_eq_true_eq] at hb
    obtain ⟨j', rfl⟩ : ∃ j', j = j' + 1 := ⟨j - 1, by omega⟩
    have hM2 := hM1.below hb1
    have hsw := hid (swap_ok B X g o c n j' i L1 W1' hn9 (by omega) hM2.own)
    have hst := hid (hI1.step (by have := hb.2; simpa using this))
    have HGb := hid hM2.gb
    simp only [t0, t1, t2, t3, t8, t9, t34]
    have Z9 := hid z9
    clear t0 t1 t2 t3 t8 t9 t34 hb hb1 ht hI1 hM1 hM2 hX hr hlt z8 z9 hsl
    go_upto_block 3 with (fail)
    refine wp_block ?_
    refine Tri.use hsw.out rfl ⟨⟨rfl, rfl, rfl, rfl⟩, rfl, rfl, rfl⟩ ?_
    rintro y2 W2 ⟨⟨t0, t1, t2, t3⟩, t8, t9, ho2, hg2⟩
    have hfin : Hid (SM W0 W2 B X g o c n la cap l ((L1.set (j' + 1) (nth L1 j')).set j' (nth L1 (j' + 1)))) := ⟨ho2, grownBy_trans HGb.out hg2⟩
    clear ho2 hg2
    rw [fr53]
    simp only [t0, t1, t2, t3, t8, t9]
    clear t0 t1 t2 t3 t8 t9
    go_wp2_with fail
    refine ⟨rfl, rfl, ⟨j', _, by omega, ⟨rfl, rfl, rfl, rfl⟩, rfl, ?_, hfin.out, hst.out⟩, ?_⟩
    · show Value.int .i64 _ = Value.int .i64 _
      congr 1
      try omega
    · show (intOf (Value.int .i64 _)).toNat < _
      rw [Z9.out]
      simp [intOf]
      try omega
  | false =>
    rw [hb] at t34
    have hst := hid (hI1.stop (by
      rw [Bool.and_eq_false_iff, decide_eq_false_iff_not, decide_eq_false_iff_not] at hb
      rcases hb with h | h
      · exact .inl (by omega)
      · exact .inr (by omega)))
    have hM2 := hid (hM1.below hb1)
    simp only [t0, t1, t2, t3, t8, t9, t34]
    clear t0 t1 t2 t3 t8 t9 t34 hb hb1 ht hI1 hM1 hX hr hlt z8 z9 hsl
    go_wp2_with fail
    exact q_fr (N := 53) HQ.out rfl ⟨_, ⟨rfl, rfl, rfl, rfl⟩, rfl, hM2.out, hst.out⟩
end Go.Proofs.Ytfbchmihkndfaaa
/- Passes: slices.SortFunc of indices. -/
namespace Go.Proofs.Ytfbchmihkndfaaa
set_option linter.unusedVariables false
open Go.RowKit

/-- sorted -/
structure SortedP (W0 W : World) (B g o c n : Nat) (l : List Ps) (L0 : List Nat) (e : Ending) : Prop where
  ex : ∃ L', OwnAt W B 3 (.slice (some ⟨g, o, none⟩) n c) n (vi L') ∧ L'.Perm L0 ∧ Desc (frOf l) L'
  e : e = .returned (.tuple #[])
  gb : Gb g W0 W
set_option maxRecDepth 1000000 in
set_option maxHeartbeats 1000000 in
theorem ins_ok (B X g o c n cap : Nat) (la : Option Addr) (l : List Ps) (L0 : List Nat) (W0 : World) (hO : SO W0 B X g o c n cap la l L0) :
    Calls Try.prog 42 #[.slice (some ⟨g, o, none⟩) n c, .int .i64 0, .int .i64 (n : Int), .func (.func 16) #[] #[.pointer (some ⟨X, 0, none⟩)]] W0 fun e w' => SortedP W0 w' B g o c n l L0 e := by
  have hn1 := hO.n1
  have hn9 := hO.n9
  have HO := hid hO
  clear hO
  go_enter Try.func42, Try.ntmps42
  refine wp_seq_k (fun K1 hK1 => ?_)
  go_wp2_with fail
  refine hK1.out _ _ ?_
  refine wp_block ?_
  refine wp_loop_fr 53 (OutI W0 B X g o c n la cap l L0) (fun y' _ => n - (intOf (y' 8)).toNat) ⟨rfl, rfl, 1, L0, Nat.le_refl _, hn1, ⟨rfl, rfl, rfl, rfl⟩, rfl, ⟨HO.out.own, Gb.refl _ _⟩, ⟨List.Perm.refl _, ?_⟩⟩ ?_
  · cases L0 with
    | nil => exact List.Pairwise.nil
    | cons a t => exact List.pairwise_singleton _ _
  rintro z W ⟨i, L1, hi1, hi, ⟨s0, s1, s2, s3⟩, z8, hM1, hS1⟩
  have HM1 := hid hM1
  have HS1 := hid hS1
  clear hM1 hS1
  rw [fr53]
  simp only [s0, s1, s2, s3, z8]
  clear s0 s1 s2 s3 z8
  by_cases hlt : i < n
  · have hp := hid (put_ok B X g o c n i cap la l L0 L1 W0 W HO.out hlt HM1.out HS1.out)
    go_upto_block 1 with (fail)
    refine wp_block ?_
    refine Tri.use hp.out rfl ⟨⟨rfl, rfl, rfl, rfl⟩, rfl, rfl⟩ ?_
    rintro y2 W2 ⟨L2, ⟨t0, t1, t2, t3⟩, t8, hM2, hS2⟩
    have HM2 := hid hM2
    have HS2 := hid hS2
    clear hM2 hS2
    rw [fr53]
    simp only [t0, t1, t2, t3, t8]
    clear t0 t1 t2 t3 t8
    go_wp2_with fail
    refine ⟨rfl, rfl, ⟨i + 1, L2, by omega, by omega, ⟨rfl, rfl, rfl, rfl⟩, ?_, HM2.out, HS2.out⟩, ?_⟩
    · show Value.int .i64 _ = Value.int .i64 _
      go_num
    · show n - (intOf (Value.int .i64 _)).toNat < _
      simp [intOf]
      omega
  · obtain rfl : i = n := by omega
    go_wp2_with fail
    go_end0
    have h := HS1.out.ord
    rw [List.take_of_length_le (by rw [HS1.out.perm.length_eq, HO.out.len]; exact Nat.le_refl _)] at h
    exact ⟨⟨L1, HM1.out.own, HS1.out.perm, h⟩, rfl, HM1.out.gb⟩
set_option maxRecDepth 1000000 in
set_option maxHeartbeats 1000000 in
theorem pdq_ok (B X g o c n cap : Nat) (la : Option Addr) (l : List Ps) (L0 : List Nat) (r : Int) (W0 : World) (hO : SO W0 B X g o c n cap la l L0) :
    Calls Try.prog 33 #[.slice (some ⟨g, o, none⟩) n c, .int .i64 0, .int .i64 (n : Int), .int .i64 r, .func (.func 16) #[] #[.pointer (some ⟨X, 0, none⟩)]] W0 fun e w' => SortedP W0 w' B g o c n l L0 e := by
  have hn9 := hO.n9
  have hi := ins_ok B X g o c n cap la l L0 W0 hO
  have d1 : decide ((n : Int) ≤ 12) = true := decide_eq_true (by omega)
  clear hO
  go_enter Try.func33, Try.ntmps33
  go_wp2_with fail
  refine wp_loop_rounds 1 ?_
  rw [rounds_succ]
  go_wp2_with fail
  refine hi.mono ?_
  intro e W1 h
  obtain rfl := h.e
  have H := hid h
  clear h
  go_wp2_with fail
  exact bodyPost_ret (v := .tuple #[]) (by simp [results, Try.results33, go_sem]) rfl H.out
set_option maxRecDepth 1000000 in
set_option maxHeartbeats 1000000 in
theorem sort_ok (B X g o c n cap : Nat) (la : Option Addr) (l : List Ps) (L0 : List Nat) (W0 : World) (hO : SO W0 B X g o c n cap la l L0) :
    Calls Try.prog 15 #[.slice (some ⟨g, o, none⟩) n c, .func (.func 16) #[] #[.pointer (some ⟨X, 0, none⟩)]] W0 fun e w' => SortedP W0 w' B g o c n l L0 e := by
  have hn9 := hO.n9
  have hi := fun r => pdq_ok B X g o c n cap la l L0 r W0 hO
  have hle := len_any n W0 hn9
  have hwr : IntKind.u64.wrap (n : Int) = (n : Int) := by rw [IntKind.wrap_u64]; omega
  clear hO
  go_enter Try.func15, Try.ntmps15
  go_wp2_with fail
  refine hle.mono ?_
  rintro e w' ⟨r, rfl, hw⟩
  rw [hw]
  clear hw w' hwr
  go_wp2_with fail
  refine (hi r).mono ?_
  intro e W1 h
  obtain rfl := h.e
  have H := hid h
  clear h
  go_wp2_with fail
  go_end0
  exact H.out
end Go.Proofs.Ytfbchmihkndfaaa
/- Rows whose elements have c cells each, as one list of cells. -/
namespace Go.Proofs.Ytfbchmihkndfaaa
set_option linter.unusedVariables false
open Go.RowKit

theorem flat_len {α : Type} (f : α → List Value) (c : Nat) (hf : ∀ x, (f x).length = c) (l : List α) : (l.flatMap f).length = l.length * c := by
  induction l with
  | nil => simp
  | cons x l ih => rw [List.flatMap_cons, List.length_append, ih, hf, List.length_cons, Nat.add_mul, Nat.one_mul, Nat.add_comm]
theorem flat_snoc {α : Type} (f : α → List Value) (l : List α) (x : α) : (l ++ [x]).flatMap f = l.flatMap f ++ f x := by simp
theorem flat_at {α : Type} (f : α → List Value) (c : Nat) (hf : ∀ x, (f x).length = c) (l : List α) (j : Nat) (h : j < l.length) (k : Nat) (hk : k < c) : (l.flatMap f)[j * c + k]? = (f (l[j]))[k]? := by
  induction l generalizing j with
  | nil => simp at h
  | cons x l ih =>
    rw [List.flatMap_cons]
    cases j with
    | zero => rw [List.getElem?_append_left (by rw [hf]; omega)]; simp
    | succ j =>
      have e : (j + 1) * c + k = c + (j * c + k) := by rw [Nat.add_mul, Nat.one_mul]; omega
      rw [List.getElem?_append_right (by rw [hf]; omega), hf, e, Nat.add_sub_cancel_left, ih j (by simpa using h)]
      simp
/-- a row of an own block, read at element j, cell k -/
theorem own_flat {α : Type} {w : World} {B e c n cap : Nat} {g : Nat} (f : α → List Value) (hf : ∀ x, (f x).length = c) {l : List α} (h : w.ownsRow B e c (.slice (some ⟨g, 0, none⟩) n cap) n (l.flatMap f)) (hl : l.length = n) (j : Nat) (hj : j < n) (k : Nat) (hk : k < c) :
    w.cell? ⟨g, j * c + k, none⟩ = (f (l[j]'(by omega)))[k]? := by
  have h1 : (j + 1) * c ≤ n * c := Nat.mul_le_mul_right _ hj
  rw [Nat.add_mul, Nat.one_mul] at h1
  rw [h.cellAt _ (by omega), flat_at f c hf l j (by omega) k hk]
/-- a block made of a list of cells, read -/
theorem new_cells (w : World) (l : List Value) (e : TypeId) : ∀ (j : Nat) (x : Value), l[j]? = some x → (w.alloc (.cells l.toArray e)).cell? ((⟨w.heap.size, 0, none⟩ : Addr).add j) = some x := by
  intro j x hj
  rw [Addr.add_lit, World.cell?_alloc_at _ _ _ _ rfl, Nat.zero_add]
  simpa using hj
end Go.Proofs.Ytfbchmihkndfaaa
