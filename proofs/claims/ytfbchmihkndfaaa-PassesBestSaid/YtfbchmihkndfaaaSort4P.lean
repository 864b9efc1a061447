/- Passes: slices.SortFunc of indices. -/
import Derived.Test.YtfbchmihkndfaaaSort3P
namespace Go.Proofs.Ytfbchmihkndfaaa
set_option linter.unusedVariables false
open Go.RowKit

/-- sorted -/
structure SortedP (W0 W : World) (B g o c n : Nat) (l : List Ps) (L0 : List Nat) (e : Ending) : Prop where
  ex : ∃ L', OwnAt W B 3 (.slice (some ⟨g, o, none⟩) n c) n (vi L') ∧ L'.Perm L0 ∧ Desc (frOf l) L'
  e : e = .returned (.tuple #[])
  gb : Gb g W0 W
set_option maxRecDepth 1000000 in
set_option maxHeartbeats 1000000 in
theorem ins_ok (B X g o c n cap : Nat) (la : Option Addr) (l : List Ps) (L0 : List Nat) (W0 : World) (hO : SO W0 B X g o c n cap la l L0) :
    Calls Try.prog 42 #[.slice (some ⟨g, o, none⟩) n c, .int .i64 0, .int .i64 (n : Int), .func (.func 16) #[] #[.pointer (some ⟨X, 0, none⟩)]] W0 fun e w' => SortedP W0 w' B g o c n l L0 e := by
  have hn1 := hO.n1
  have hn9 := hO.n9
  have HO := hid hO
  clear hO
  go_enter Try.func42, Try.ntmps42
  refine wp_seq_k (fun K1 hK1 => ?_)
  go_wp2_with fail
  refine hK1.out _ _ ?_
  refine wp_block ?_
  refine wp_loop_fr 53 (OutI W0 B X g o c n la cap l L0) (fun y' _ => n - (intOf (y' 8)).toNat) ⟨rfl, rfl, 1, L0, Nat.le_refl _, hn1, ⟨rfl, rfl, rfl, rfl⟩, rfl, ⟨HO.out.own, Gb.refl _ _⟩, ⟨List.Perm.refl _, ?_⟩⟩ ?_
  · cases L0 with
    | nil => exact List.Pairwise.nil
    | cons a t => exact List.pairwise_singleton _ _
  rintro z W ⟨i, L1, hi1, hi, ⟨s0, s1, s2, s3⟩, z8, hM1, hS1⟩
  have HM1 := hid hM1
  have HS1 := hid hS1
  clear hM1 hS1
  rw [fr53]
  simp only [s0, s1, s2, s3, z8]
  clear s0 s1 s2 s3 z8
  by_cases hlt : i < n
  · have hp := hid (put_ok B X g o c n i cap la l L0 L1 W0 W HO.out hlt HM1.out HS1.out)
    go_upto_block 1 with (fail)
    refine wp_block ?_
    refine Tri.use hp.out rfl ⟨⟨rfl, rfl, rfl, rfl⟩, rfl, rfl⟩ ?_
    rintro y2 W2 ⟨L2, ⟨t0, t1, t2, t3⟩, t8, hM2, hS2⟩
    have HM2 := hid hM2
    have HS2 := hid hS2
    clear hM2 hS2
    rw [fr53]
    simp only [t0, t1, t2, t3, t8]
    clear t0 t1 t2 t3 t8
    go_wp2_with fail
    refine ⟨rfl, rfl, ⟨i + 1, L2, by omega, by omega, ⟨rfl, rfl, rfl, rfl⟩, ?_, HM2.out, HS2.out⟩, ?_⟩
    · show Value.int .i64 _ = Value.int .i64 _
      go_num
    · show n - (intOf (Value.int .i64 _)).toNat < _
      simp [intOf]
      omega
  · obtain rfl : i = n := by omega
    go_wp2_with fail
    go_end0
    have h := HS1.out.ord
    rw [List.take_of_length_le (by rw [HS1.out.perm.length_eq, HO.out.len]; exact Nat.le_refl _)] at h
    exact ⟨⟨L1, HM1.out.own, HS1.out.perm, h⟩, rfl, HM1.out.gb⟩
set_option maxRecDepth 1000000 in
set_option maxHeartbeats 1000000 in
theorem pdq_ok (B X g o c n cap : Nat) (la : Option Addr) (l : List Ps) (L0 : List Nat) (r : Int) (W0 : World) (hO : SO W0 B X g o c n cap la l L0) :
    Calls Try.prog 33 #[.slice (some ⟨g, o, none⟩) n c, .int .i64 0, .int .i64 (n : Int), .int .i64 r, .func (.func 16) #[] #[.pointer (some ⟨X, 0, none⟩)]] W0 fun e w' => SortedP W0 w' B g o c n l L0 e := by
  have hn9 := hO.n9
  have hi := ins_ok B X g o c n cap la l L0 W0 hO
  have d1 : decide ((n : Int) ≤ 12) = true := decide_eq_true (by omega)
  clear hO
  go_enter Try.func33, Try.ntmps33
  go_wp2_with fail
  refine wp_loop_rounds 1 ?_
  rw [rounds_succ]
  go_wp2_with fail
  refine hi.mono ?_
  intro e W1 h
  obtain rfl := h.e
  have H := hid h
  clear h
  go_wp2_with fail
  exact bodyPost_ret (v := .tuple #[]) (by simp [results, Try.results33, go_sem]) rfl H.out
set_option maxRecDepth 1000000 in
set_option maxHeartbeats 1000000 in
theorem sort_ok (B X g o c n cap : Nat) (la : Option Addr) (l : List Ps) (L0 : List Nat) (W0 : World) (hO : SO W0 B X g o c n cap la l L0) :
    Calls Try.prog 15 #[.slice (some ⟨g, o, none⟩) n c, .func (.func 16) #[] #[.pointer (some ⟨X, 0, none⟩)]] W0 fun e w' => SortedP W0 w' B g o c n l L0 e := by
  have hn9 := hO.n9
  have hi := fun r => pdq_ok B X g o c n cap la l L0 r W0 hO
  have hle := len_any n W0 hn9
  have hwr : IntKind.u64.wrap (n : Int) = (n : Int) := by rw [IntKind.wrap_u64]; omega
  clear hO
  go_enter Try.func15, Try.ntmps15
  go_wp2_with fail
  refine hle.mono ?_
  rintro e w' ⟨r, rfl, hw⟩
  rw [hw]
  clear hw w' hwr
  go_wp2_with fail
  refine (hi r).mono ?_
  intro e W1 h
  obtain rfl := h.e
  have H := hid h
  clear h
  go_wp2_with fail
  go_end0
  exact H.out
end Go.Proofs.Ytfbchmihkndfaaa
