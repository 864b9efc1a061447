/- deliver: how a tick of the law is to go. -/
import Derived.Test.YtopmamgdfngdoaaWhole26
import Derived.Test.YtopmamgdfngdoaaWhole7
import Derived.Test.YtopmamgdfngdoaaWhole21
namespace Go.Proofs.Ytopmamgdfngdoaa
set_option linter.unusedVariables false
open Go.RowKit

structure W5 where
  d : Int
  u : Int
  q : Int
  l : Int
  k : Int
def wcl (f : W5) : List Value := [.int .i64 f.d, .int .i64 f.u, .int .i64 f.q, .int .i64 f.l, .int .i64 f.k]
def in64 (x : Int) : Prop := -9223372036854775808 ≤ x ∧ x ≤ 9223372036854775807
structure RdW (w : World) (B : Nat) (la : Option Addr) (ln lc : Nat) (f : Nat → W5) : Prop where
  le : ln ≤ lc
  mem : 0 < ln → ∃ b off, la = some ⟨b, off, none⟩ ∧ b < B ∧ ∀ j, j < ln → w.rangeAt b (off + j * 5) (wcl (f j))
  rng : ∀ j, j < ln → in64 (f j).d ∧ in64 (f j).u ∧ in64 (f j).q
theorem RdW.below {w w' : World} {B : Nat} {la : Option Addr} {ln lc : Nat} {f : Nat → W5} (h : RdW w B la ln lc f) (hb : Below B w w') (hB : B ≤ w.heap.size) : RdW w' B la ln lc f :=
  ⟨h.le, fun h0 => by
    obtain ⟨b, off, ha, hlt, hc⟩ := h.mem h0
    exact ⟨b, off, ha, hlt, fun j hj k v hv => (World.cell?_of_block (a := ⟨b, off + j * 5 + k, none⟩) (hb.block b hlt)).trans (hc j hj k v hv)⟩, h.rng⟩
/-- the way of a tick -/
structure WayP (w w' : World) (T ln i : Nat) (f : Nat → W5) : Prop where
  ex : ∃ (d u : Nat) (q l k : Int), w'.heap[T]? = some (.cells #[.int .i64 (d : Int), .int .i64 (u : Int), .int .i64 q, .int .i64 l, .int .i64 k] 41) ∧ d ≤ 1000 ∧ u ≤ 1000 ∧ in64 q ∧ (i < ln → d ≤ 11 ∧ u ≤ 11) ∧ (ln ≤ i → d = 1000 ∧ u = 1000 ∧ q = 0 ∧ l = 0 ∧ k = 0)
  g : w.grownBy w' (some T)
set_option maxRecDepth 1000000 in
theorem fr168 (y : Nat → Value) : fr 168 y = #[y 0, y 1, y 2, y 3, y 4, y 5, y 6, y 7, y 8, y 9, y 10, y 11, y 12, y 13, y 14, y 15, y 16, y 17, y 18, y 19, y 20, y 21, y 22, y 23, y 24, y 25, y 26, y 27, y 28, y 29, y 30, y 31, y 32, y 33, y 34, y 35, y 36, y 37, y 38, y 39, y 40, y 41, y 42, y 43, y 44, y 45, y 46, y 47, y 48, y 49, y 50, y 51, y 52, y 53, y 54, y 55, y 56, y 57, y 58, y 59, y 60, y 61, y 62, y 63, y 64, y 65, y 66, y 67, y 68, y 69, y 70, y 71, y 72, y 73, y 74, y 75, y 76, y 77, y 78, y 79, y 80, y 81, y 82, y 83, y 84, y 85, y 86, y 87, y 88, y 89, y 90, y 91, y 92, y 93, y 94, y 95, y 96, y 97, y 98, y 99, y 100, y 101, y 102, y 103, y 104, y 105, y 106, y 107, y 108, y 109, y 110, y 111, y 112, y 113, y 114, y 115, y 116, y 117, y 118, y 119, y 120, y 121, y 122, y 123, y 124, y 125, y 126, y 127, y 128, y 129, y 130, y 131, y 132, y 133, y 134, y 135, y 136, y 137, y 138, y 139, y 140, y 141, y 142, y 143, y 144, y 145, y 146, y 147, y 148, y 149, y 150, y 151, y 152, y 153, y 154, y 155, y 156, y 157, y 158, y 159, y 160, y 161, y 162, y 163, y 164, y 165, y 166, y 167] := rfl
set_option maxRecDepth 1000000 in
set_option maxHeartbeats 8000000 in
theorem law_w15 (B T ln lc i : Nat) (la : Option Addr) (f : Nat → W5) (hT : B ≤ T) (hln : ln ≤ 60) (hi : i ≤ 200000) :
    Tri Try.prog 168 (pieceOf Try.f3 [1, 1, 1, 1, 1, 1, 1, 1, 0, 1, 0, 0, 1, 0, 0, 1, 0]) (fun z w => z 4 = .slice la ln lc ∧ z 17 = .int .i64 (i : Int) ∧ z 18 = .pointer (some ⟨T, 0, none⟩) ∧ w.heap[T]? = some (.cells #[.int .i64 1000, .int .i64 1000, .int .i64 0, .int .i64 0, .int .i64 0] 41) ∧ RdW w B la ln lc f)
      (fun z w z' w' => (z' 0 = z 0 ∧ z' 4 = z 4 ∧ z' 16 = z 16 ∧ z' 17 = z 17 ∧ z' 18 = z 18) ∧ WayP w w' T ln i f) := by
  rintro Q z w ⟨s4, s17, s18, hTb, hL⟩ hQ
  have HQ := hid hQ
  have S4 := hid s4
  have S17 := hid s17
  have S18 := hid s18
  have HL := hid hL
  have HT := hid hTb
  clear hQ hTb hL
  conv => arg 2; whnf
  rw [fr168]
  simp only [s4, s17, s18]
  clear s4 s17 s18
  refine wp_seq_k (fun K0 hK0 => ?_)
  by_cases hlt : i < ln
  · have hkI : (i : Int) < (ln : Int) := by omega
    have hk0' : (0 : Int) ≤ (i : Int) := by omega
    obtain ⟨b, off, hab, hbB, hc⟩ := HL.out.mem (by omega)
    have hrg := hid (hc i hlt)
    have hr := hid (HL.out.rng i hlt)
    subst hab
    have hle := HL.out.le
    clear hc
    obtain ⟨x, hx⟩ : ∃ x, x = f i := ⟨_, rfl⟩
    rw [← hx] at hrg hr
    clear hx
    obtain ⟨d, u, q, l, k⟩ := x
    have hrg2 := hrg.out
    unfold wcl at hrg2
    dsimp only at hrg2
    go_wp2_with fail
    refine hK0.out _ _ ?_
    refine wp_cond_true rfl ?_
    have hT1 := HT.out
    obtain ⟨m1, m2⟩ := set_whole (cs' := #[.int .i64 d, .int .i64 u, .int .i64 q, .int .i64 l, .int .i64 k]) hT1
    refine wp_seq_k (fun K1 hK1 => ?_)
    go_wp2_with (first | (with_reducible refine wpList_load_mid (op := ⟨some 80, _, _, _, _, _⟩) rfl 41 _ rfl b (off + i * 5) rfl _ _ hrg2 Try.underlying41 rfl (by kernel_rfl) ?_) | (with_reducible refine at_store 41 ?_))
    unfold Hid
    refine wpList_store_row rfl 41 _ _ rfl T #[.int .i64 d, .int .i64 u, .int .i64 q, .int .i64 l, .int .i64 k] rfl rfl 41 _ hT1 (by kernel_rfl) rfl (by simp [Value.oneCell']) ?_
    have M1 := hid m1
    have M2 := hid m2
    clear m1 m2 hT1 hrg hrg2
    generalize w.setRow T #[.int .i64 d, .int .i64 u, .int .i64 q, .int .i64 l, .int .i64 k] = W1 at *
    go_wp2_with fail
    refine hK1.out _ _ ?_
    simp only [Act.put]
    have hdr := (Below.refl W1.heap.size W1).drew
    have HM := hid (row_below M1.out hdr)
    have G0 := hid (grownBy_trans M2.out (grownBy_of_below hdr (some T)))
    clear hdr M1 M2
    refine wp_region_late [7, 9] [2, 5, 7, 9] [(true, [0, 1, 3, 4, 2, 6, 5]), (false, [7, 8, 9])] (fun u u' => u'.heap[T]? = u.heap[T]?) (fun _ _ => True) (fun _ => rfl) (fun _ _ _ h k => k.trans h) (fun _ => trivial) (fun _ _ _ _ _ => trivial) (fun _ _ _ => trivial) (by kernel_rfl) (by kernel_rfl) ?_
    simp only [wpPh, List.map_cons, List.map_nil, List.contains_cons, List.contains_nil, List.getD_cons_zero, List.getD_cons_succ, Nat.reduceBEq, Bool.or_false, Bool.or_true]
    generalize W1.drew = U at *
    have ld0 : ∀ w' : World, w'.heap[T]? = U.heap[T]? → w'.cell? ⟨T, 0, none⟩ = some (.int .i64 d) := fun w' h => by rw [cell_of_row _ _ _ _ _ _ (h.trans HM.out)]; rfl
    have ld1 : ∀ w' : World, w'.heap[T]? = U.heap[T]? → w'.cell? ⟨T, 1, none⟩ = some (.int .i64 u) := fun w' h => by rw [cell_of_row _ _ _ _ _ _ (h.trans HM.out)]; rfl
    have hp1 := hid (pick_st d 12 U hr.out.1.1 hr.out.1.2 (by decide) (by decide))
    have hp2 := hid (pick_st u 12 U hr.out.2.1.1 hr.out.2.1.2 (by decide) (by decide))
    iterate 4 (refine wpL_do rfl (fun w' hw' => (by go_simp; rfl)) ?_; simp only [Act.put, List.setIfInBounds_toArray, List.set_cons_succ, List.set_cons_zero])
    clear ld0 ld1
    refine wpL_call rfl (fun K hK => ?_)
    go_wp2_with ((go_at_call 4; refine hp1.out.mono ?_))
    rintro e w' ⟨rfl, hw'⟩
    rw [hw']
    clear hw' w' hp1
    obtain ⟨d1, hd1⟩ : ∃ d1, d1 = pk d (12 : Int).toNat := ⟨_, rfl⟩
    rw [← hd1]
    have hd11 : d1 < 12 := by rw [hd1]; exact pk_lt d 12 (by decide)
    clear hd1
    go_wp2_with fail
    refine hK _ _ rfl ?_
    clear hK K
    try simp only [Act.put, List.setIfInBounds_toArray, List.set_cons_succ, List.set_cons_zero]
    refine wpL_do rfl (fun w' hw' => (by go_simp; rfl)) ?_
    simp only [Act.put, List.setIfInBounds_toArray, List.set_cons_succ, List.set_cons_zero]
    refine wpL_call rfl (fun K hK => ?_)
    go_wp2_with ((go_at_call 4; refine hp2.out.mono ?_))
    rintro e w' ⟨rfl, hw'⟩
    rw [hw']
    clear hw' w' hp2
    obtain ⟨u1, hu1⟩ : ∃ u1, u1 = pk u (12 : Int).toNat := ⟨_, rfl⟩
    rw [← hu1]
    have hu11 : u1 < 12 := by rw [hu1]; exact pk_lt u 12 (by decide)
    clear hu1
    go_wp2_with fail
    refine hK _ _ rfl ?_
    clear hK K
    try simp only [Act.put, List.setIfInBounds_toArray, List.set_cons_succ, List.set_cons_zero]
    refine wpL_nil ?_
    have c0 : U.cell? ⟨T, 0, none⟩ = some (.int .i64 d) := by rw [cell_of_row _ _ _ _ _ _ HM.out]; rfl
    have fz := frozen_row HM.out 0
    obtain ⟨m1, m2⟩ := set_row (cs' := #[.int .i64 (d1 : Int), .int .i64 u, .int .i64 q, .int .i64 l, .int .i64 k]) HM.out 0 (.int .i64 (d1 : Int)) rfl
    refine wpL_call rfl (fun K hK => ?_)
    go_wp2_with fail
    refine hK _ _ trivial ?_
    clear hK K c0 fz
    try simp only [Act.put]
    have M1 := hid m1
    have G1 := hid (grownBy_trans G0.out m2)
    clear m1 m2 G0 HM
    generalize U.setCell ⟨T, 0, none⟩ (.int .i64 (d1 : Int)) = U1 at *
    refine wpL_do rfl (fun w' hw' => (by go_simp; rfl)) ?_
    simp only [Act.put, List.setIfInBounds_toArray, List.set_cons_succ, List.set_cons_zero]
    have c1 : U1.cell? ⟨T, 1, none⟩ = some (.int .i64 u) := by rw [cell_of_row _ _ _ _ _ _ M1.out]; rfl
    have fz := frozen_row M1.out 1
    obtain ⟨m1, m2⟩ := set_row (cs' := #[.int .i64 (d1 : Int), .int .i64 (u1 : Int), .int .i64 q, .int .i64 l, .int .i64 k]) M1.out 1 (.int .i64 (u1 : Int)) rfl
    refine wpL_call rfl (fun K hK => ?_)
    go_wp2_with fail
    refine hK _ _ trivial ?_
    clear hK K c1 fz
    try simp only [Act.put]
    have M2 := hid m1
    have G2 := hid (grownBy_trans G1.out m2)
    clear m1 m2 G1 M1
    generalize U1.setCell ⟨T, 1, none⟩ (.int .i64 (u1 : Int)) = U2 at *
    refine wpL_nil ?_
    exact q_fr (N := 168) HQ.out rfl ⟨⟨rfl, S4.out.symm, rfl, S17.out.symm, S18.out.symm⟩, ⟨⟨d1, u1, q, l, k, M2.out, by omega, by omega, hr.out.2.2, fun _ => ⟨by omega, by omega⟩, fun h => absurd hlt (by omega)⟩, G2.out⟩⟩
  · have hkI : ¬ (i : Int) < (ln : Int) := by omega
    go_wp2_with fail
    refine hK0.out _ _ ?_
    refine wp_cond_false rfl ?_
    go_wp2_with fail
    refine q_fr (N := 168) HQ.out rfl ⟨⟨rfl, S4.out.symm, rfl, S17.out.symm, S18.out.symm⟩, ⟨⟨1000, 1000, 0, 0, 0, HT.out, Nat.le_refl _, Nat.le_refl _, ⟨by decide, by decide⟩, fun h => absurd h hlt, fun _ => ⟨rfl, rfl, rfl, rfl, rfl⟩⟩, World.grownBy.refl _ _⟩⟩
end Go.Proofs.Ytopmamgdfngdoaa
/- deliver: what the law asks after a tick. -/
namespace Go.Proofs.Ytopmamgdfngdoaa
set_option linter.unusedVariables false
open Go.RowKit

def LQ (P : Par) (ln i : Nat) (c : CS) : Prop := (i ≤ ln ∧ LI P i c) ∨ (ln < i ∧ QI P (i - ln) c)
theorem LQ.lt {P : Par} {ln i : Nat} {c : CS} (h : LQ P ln i c) : i < ln + 130000 := by
  rcases h with h | ⟨_, h⟩
  · omega
  · have := h.lt; omega
structure LStep (P : Par) (ln i : Nat) (c c' : CS) : Prop where
  ex : ∃ k, CI P k c ∧ k < 100 ∧ CI P (k + 1) c'
  dn : c.dn.length ≤ 20000
  up : c.up.length ≤ 20000
  fin : c'.dn.length < 5000
  nx : (ln < i ∧ c'.g.st = 3) ∨ LQ P ln (i + 1) c'
theorem LQ.step {P : Par} {ln i : Nat} {c : CS} (hP : Pok P) (hln : ln ≤ 60) (h : LQ P ln i c) (w : HW) (h1 : i < ln → w.d ≤ 11 ∧ w.u ≤ 11) (h2 : ln ≤ i → w = quietD) : LStep P ln i c (tickD P w c) := by
  rcases h with ⟨hi, h⟩ | ⟨hi, h⟩
  · have hdn := h.dn
    have hup := h.up
    by_cases hlt : i < ln
    · obtain ⟨hd, hu⟩ := h1 hlt
      have h3 := h.tick hP (by omega) w hd hu
      exact ⟨⟨i, h.ci, by omega, h3.ci⟩, by omega, by omega, by have := h3.dn; omega, .inr (.inl ⟨by omega, h3⟩)⟩
    · have e := h2 (by omega)
      subst e
      obtain ⟨h3, h4⟩ := QI.first hP h (by omega)
      have hil : i = ln := by omega
      refine ⟨⟨i, h.ci, by omega, (h.ci.tick hP.m hP.p (by omega) quietD).1⟩, by omega, by omega, h4, .inr (.inr ⟨by omega, ?_⟩)⟩
      rw [show i + 1 - ln = 1 by omega]
      exact h3
  · have e := h2 (by omega)
    subst e
    obtain ⟨h3, h4⟩ := h.step hP (by omega)
    obtain ⟨k, hk, hk1⟩ := h.st
    refine ⟨⟨k, hk, hk1, (hk.tick hP.m hP.p hk1 quietD).1⟩, ?_, ?_, h3, ?_⟩
    · rcases h with h | h
      · have := h.2; omega
      · rw [h.1.dn]; exact Nat.zero_le _
    · rcases h with h | h
      · have := h.2; omega
      · rw [h.1.up]; exact Nat.zero_le _
    · rcases h4 with h4 | h4
      · exact .inl ⟨hi, h4⟩
      · refine .inr (.inr ⟨by omega, ?_⟩)
        rw [show i + 1 - ln = i - ln + 1 by omega]
        exact h4
theorem ret_fr {Q : Exit → Act → World → Prop} {w : World} {t : Array Value} (h : ∀ y' : Nat → Value, y' 10 = .bool true → Q .ret ⟨fr 168 y', []⟩ w) (hs : t.size = 168) (h10 : t.getD 10 undef = .bool true) : Q .ret ⟨t, []⟩ w := by
  rw [fr_of hs]
  exact h _ h10
theorem con_fr {Q : Exit → Act → World → Prop} {w : World} {t : Array Value} {z : Nat → Value} (h : ∀ y' : Nat → Value, y' 0 = z 0 → y' 4 = z 4 → y' 16 = z 16 → y' 17 = z 17 → Q .normal ⟨fr 168 y', []⟩ w) (hs : t.size = 168) (h0 : t.getD 0 undef = z 0) (h4 : t.getD 4 undef = z 4) (h16 : t.getD 16 undef = z 16) (h17 : t.getD 17 undef = z 17) : Q .normal ⟨t, []⟩ w := by
  rw [fr_of hs]
  exact h _ h0 h4 h16 h17
set_option maxRecDepth 1000000 in
set_option maxHeartbeats 8000000 in
theorem law_tail (X gst tst i ln lc : Nat) (fa la : Option Addr) (fn fc : Nat) (ga : Option Addr) (gn gc : Nat) (nm S : ByteArray) (er : Int) (Q : Exit → Act → World → Prop) (z : Nat → Value) (w : World) (hg : gst ≤ 3)
    (hc : (tst = 3 ∧ nm = logS ∧ er = 0 ∧ (convert 22 9 (.slice ga gn gc)).run Try.prog w = .ok (.string S) w) ∨ (tst = 0 ∧ gst ≠ 3 ∧ er = 7))
    (hf : (convert 22 9 (.slice fa fn fc)).run Try.prog w = .ok (.string S) w)
    (s0 : z 0 = .slice fa fn fc) (s4 : z 4 = .slice la ln lc) (s16 : z 16 = .pointer (some ⟨X, 0, none⟩)) (s17 : z 17 = .int .i64 (i : Int)) (s19 : z 19 = .string nm) (s20 : z 20 = .slice ga gn gc) (s21 : z 21 = .int .i64 er)
    (c5 : w.cell? ⟨X, 5, none⟩ = some (.int .i64 (gst : Int))) (c22 : w.cell? ⟨X, 22, none⟩ = some (.int .i64 (tst : Int)))
    (hret : ln < i → gst = 3 → ∀ y', y' 10 = .bool true → Q .ret ⟨fr 168 y', []⟩ w)
    (hcon : ¬ (ln < i ∧ gst = 3) → ∀ y', y' 0 = z 0 → y' 4 = z 4 → y' 16 = z 16 → y' 17 = z 17 → Q .normal ⟨fr 168 y', []⟩ w) :
    Code.wp Try.prog (pieceOf Try.f3 [1, 1, 1, 1, 1, 1, 1, 1, 0, 1, 0, 0, 1, 0, 0, 1, 1, 1, 1]) Q ⟨fr 168 z, []⟩ w := by
  have HR := hid hret
  have HC := hid hcon
  have S0 := hid s0
  have S4 := hid s4
  have S16 := hid s16
  have S17 := hid s17
  have g4 : ¬ (gst : Int) = 4 := by omega
  have HI := hid (show True from trivial)
  clear hret hcon
  unfold logS at hc
  conv => arg 2; whnf
  rw [fr168]
  simp only [s0, s4, s16, s17, s19, s20, s21]
  clear s0 s4 s16 s17 s19 s20 s21
  have key : (tst = 3 ∧ gst = 3) ∨ (tst = 3 ∧ gst ≠ 3) ∨ (tst = 0 ∧ gst ≠ 3) := by
    rcases hc with ⟨h, _⟩ | ⟨h, h2, _⟩
    · by_cases hg3 : gst = 3
      · exact .inl ⟨h, hg3⟩
      · exact .inr (.inl ⟨h, hg3⟩)
    · exact .inr (.inr ⟨h, h2⟩)
  rcases key with ⟨rfl, rfl⟩ | ⟨rfl, hne⟩ | ⟨rfl, hne⟩
  · rcases hc with ⟨_, rfl, rfl, hcv⟩ | ⟨h, _⟩
    · skip
      refine wp_seq_k (fun K0 hK0 => ?_)
      refine wp_seq_k (fun K1 hK1 => ?_)
      go_wp2_with fail
      refine hK1.out _ _ ?_
      refine wp_cond_false rfl ?_
      go_wp2_with fail
      refine hK0.out _ _ ?_
      refine wp_seq_k (fun K2 hK2 => ?_)
      refine wp_seq_k (fun K3 hK3 => ?_)
      go_wp2_with fail
      refine hK3.out _ _ ?_
      refine wp_cond_false rfl ?_
      go_wp2_with fail
      refine hK2.out _ _ ?_
      refine wp_seq_k (fun K4 hK4 => ?_)
      by_cases hli : ln < i
      · have hlI : (ln : Int) < (i : Int) := by omega
        go_wp2_with fail
        refine hK4.out _ _ ?_
        refine wp_cond_true rfl ?_
        go_wp2_with fail
        exact ret_fr (HR.out hli trivial) rfl rfl
      · have hlI : ¬ (ln : Int) < (i : Int) := by omega
        go_wp2_with fail
        refine hK4.out _ _ ?_
        refine wp_cond_false rfl ?_
        go_wp2_with fail
        exact con_fr (HC.out (fun h => hli h.1)) rfl S0.out.symm S4.out.symm S16.out.symm S17.out.symm
    · omega
  · rcases hc with ⟨_, rfl, rfl, hcv⟩ | ⟨h, _⟩
    · have g3 : ¬ (gst : Int) = 3 := by omega
      have g3b : ((gst : Int) == 3) = false := beq_eq_false_iff_ne.2 g3
      have g4b : ((gst : Int) == 4) = false := beq_eq_false_iff_ne.2 g4
      refine wp_seq_k (fun K0 hK0 => ?_)
      refine wp_seq_k (fun K1 hK1 => ?_)
      go_wp2_with fail
      refine hK1.out _ _ ?_
      refine wp_cond_false rfl ?_
      go_wp2_with fail
      refine hK0.out _ _ ?_
      refine wp_seq_k (fun K2 hK2 => ?_)
      refine wp_seq_k (fun K3 hK3 => ?_)
      go_wp2_with fail
      refine hK3.out _ _ ?_
      refine wp_cond_false rfl ?_
      go_wp2_with fail
      refine hK2.out _ _ ?_
      refine wp_seq_k (fun K4 hK4 => ?_)
      by_cases hli : ln < i
      · have hlI : (ln : Int) < (i : Int) := by omega
        go_wp2_with fail
        refine hK4.out _ _ ?_
        refine wp_cond_false rfl ?_
        go_wp2_with fail
        exact con_fr (HC.out (fun h => hne h.2)) rfl S0.out.symm S4.out.symm S16.out.symm S17.out.symm
      · have hlI : ¬ (ln : Int) < (i : Int) := by omega
        go_wp2_with fail
        refine hK4.out _ _ ?_
        refine wp_cond_false rfl ?_
        go_wp2_with fail
        exact con_fr (HC.out (fun h => hli h.1)) rfl S0.out.symm S4.out.symm S16.out.symm S17.out.symm
    · omega
  · rcases hc with ⟨h, _⟩ | ⟨_, _, rfl⟩
    · omega
    · have g3 : ¬ (gst : Int) = 3 := by omega
      have g3b : ((gst : Int) == 3) = false := beq_eq_false_iff_ne.2 g3
      have g4b : ((gst : Int) == 4) = false := beq_eq_false_iff_ne.2 g4
      refine wp_seq_k (fun K0 hK0 => ?_)
      refine wp_seq_k (fun K1 hK1 => ?_)
      go_wp2_with fail
      refine hK1.out _ _ ?_
      refine wp_cond_false rfl ?_
      go_wp2_with fail
      refine hK0.out _ _ ?_
      refine wp_seq_k (fun K2 hK2 => ?_)
      refine wp_seq_k (fun K3 hK3 => ?_)
      go_wp2_with fail
      refine hK3.out _ _ ?_
      refine wp_cond_false rfl ?_
      go_wp2_with fail
      refine hK2.out _ _ ?_
      refine wp_seq_k (fun K4 hK4 => ?_)
      by_cases hli : ln < i
      · have hlI : (ln : Int) < (i : Int) := by omega
        go_wp2_with fail
        refine hK4.out _ _ ?_
        refine wp_cond_false rfl ?_
        go_wp2_with fail
        exact con_fr (HC.out (fun h => hne h.2)) rfl S0.out.symm S4.out.symm S16.out.symm S17.out.symm
      · have hlI : ¬ (ln : Int) < (i : Int) := by omega
        go_wp2_with fail
        refine hK4.out _ _ ?_
        refine wp_cond_false rfl ?_
        go_wp2_with fail
        exact con_fr (HC.out (fun h => hli h.1)) rfl S0.out.symm S4.out.symm S16.out.symm S17.out.symm
end Go.Proofs.Ytopmamgdfngdoaa
/- deliver: the law's loop (walk 3). -/
namespace Go.Proofs.Ytopmamgdfngdoaa
set_option linter.unusedVariables false
open Go.RowKit

theorem wp_fr168 {P : Program} {c : Code} {Q : Exit → Act → World → Prop} {t : Array Value} {w : World} (hs : t.size = 168) (h : Code.wp P c Q ⟨fr 168 (fun i => t.getD i undef), []⟩ w) : Code.wp P c Q ⟨t, []⟩ w := by
  rw [fr_of hs]
  exact h
def lawI (D : DP) (w0 : World) (X ln lc : Nat) (fa : Option Addr) (fc : Nat) (la : Option Addr) (y : Nat → Value) (W : World) : Prop :=
  ∃ (i : Nat) (c : CS) (A : CA), y 0 = .slice fa D.P.F fc ∧ y 4 = .slice la ln lc ∧ y 16 = .pointer (some ⟨X, 0, none⟩) ∧ y 17 = .int .i64 (i : Int) ∧ CB D W X w0.heap.size c.g c.t A ∧ A.db.map (·.k) = c.dn ∧ A.ub.map (·.k) = c.up ∧ Below w0.heap.size w0 W ∧ LQ D.P ln i c
theorem CB.c5 {D : DP} {W : World} {X B : Nat} {g : GS} {t : TS} {A : CA} (h : CB D W X B g t A) : W.cell? ⟨X, 5, none⟩ = some (.int .i64 (g.st : Int)) := by
  rw [cell_of_row _ _ _ _ _ _ h.bx]
  rfl
theorem CB.c22 {D : DP} {W : World} {X B : Nat} {g : GS} {t : TS} {A : CA} (h : CB D W X B g t A) : W.cell? ⟨X, 22, none⟩ = some (.int .i64 (t.st : Int)) := by
  rw [cell_of_row _ _ _ _ _ _ h.bx]
  rfl
set_option maxRecDepth 1000000 in
set_option maxHeartbeats 8000000 in
theorem law_loop (D : DP) (hD : DOk D) (hSum : SumOk D) (w0 : World) (X ln lc : Nat) (fa : Option Addr) (fc : Nat) (la : Option Addr) (f : Nat → W5) (hln : ln ≤ 60) (hL : RdW w0 w0.heap.size la ln lc f) (hF : Rd w0 fa D.P.F fc (vb D.fl))
    (Q : Exit → Act → World → Prop) (hret : ∀ y' W', Below w0.heap.size w0 W' → y' 10 = .bool true → Q .ret ⟨fr 168 y', []⟩ W') (z : Nat → Value) (w : World) (A0 : CA)
    (s0 : z 0 = .slice fa D.P.F fc) (s4 : z 4 = .slice la ln lc) (s16 : z 16 = .pointer (some ⟨X, 0, none⟩)) (hC : CB D w X w0.heap.size cs0.g cs0.t A0) (hdn : A0.db = []) (hup : A0.ub = []) (hb : Below w0.heap.size w0 w) :
    Code.wp Try.prog (pieceOf Try.f3 [1, 1, 1, 1, 1, 1, 1, 1, 0]) Q ⟨fr 168 z, []⟩ w := by
  obtain ⟨S, hS⟩ : ∃ S, ∀ (W : World) (a : Option Addr) (n c : Nat), Rd W a n c (vb D.fl) → (convert 22 9 (.slice a n c)).run Try.prog W = .ok (.string S) W := ⟨_, fun W a n c h => run_str 22 5 9 Try.underlying22 Try.underlying5 Try.underlying9 h⟩
  have HSt := hid hS
  have HRet := hid hret
  have HLw := hid hL
  have HFw := hid hF
  have H0 := hid (show CB D w X w0.heap.size cs0.g cs0.t A0 ∧ A0.db.map (·.k) = cs0.dn ∧ A0.ub.map (·.k) = cs0.up ∧ Below w0.heap.size w0 w ∧ LQ D.P ln 0 cs0 from ⟨hC, by rw [hdn]; rfl, by rw [hup]; rfl, hb, .inl ⟨Nat.zero_le _, LI.zero hD.P⟩⟩)
  clear hS hret hL hF hC hdn hup hb
  conv => arg 2; whnf
  rw [fr168]
  simp only [s0, s4, s16]
  clear s0 s4 s16
  refine wp_seq_k (fun K0 hK0 => ?_)
  go_wp2_with fail
  refine hK0.out _ _ ?_
  refine wp_block ?_
  refine wp_loop_fr 168 (lawI D w0 X ln lc fa fc la) (fun y' _ => ln + 130000 - (intOf (y' 17)).toNat) ⟨rfl, rfl, 0, cs0, A0, rfl, rfl, rfl, rfl, H0.out⟩ ?_
  clear H0
  rintro z W ⟨i, c, A, s0, s4, s16, s17, hC, hdn, hup, hb, hq⟩
  have hlt := hq.lt
  have HC := hid hC
  have Hdn := hid hdn
  have Hup := hid hup
  have Hb := hid hb
  have Hq := hid hq
  clear hC hdn hup hb hq
  obtain ⟨n, hn⟩ : ∃ n, n = D.P.F := ⟨_, rfl⟩
  rw [← hn] at s0
  have Hn := hid hn
  clear hn
  rw [fr168]
  simp only [s0, s4, s16, s17]
  clear s0 s4 s16 s17
  have a1 : IntKind.i64.wrap ((ln : Int) + 130000) = (ln : Int) + 130000 := IntWalk.i64_in _ (by omega)
  have hkI : (i : Int) < (ln : Int) + 130000 := by omega
  refine wp_seq_k (fun L0 hL0 => ?_)
  refine wp_seq_k (fun L1 hL1 => ?_)
  go_wp2_with fail
  refine hL1.out _ _ ?_
  refine wp_cond_true rfl ?_
  go_wp2_with fail
  refine hL0.out _ _ ?_
  clear a1
  refine wp_seq_k (fun L2 hL2 => ?_)
  refine wp_block ?_
  -- how it is to go
  have bT := below_alloc W (.cells #[.int .i64 0, .int .i64 0, .int .i64 0, .int .i64 0, .int .i64 0] 41)
  have AT := heap_alloc_new W (.cells #[.int .i64 0, .int .i64 0, .int .i64 0, .int .i64 0, .int .i64 0] 41)
  obtain ⟨m1, m2⟩ := set_whole (cs' := #[.int .i64 1000, .int .i64 1000, .int .i64 0, .int .i64 0, .int .i64 0]) AT
  refine wp_seq_k (fun L3 hL3 => ?_)
  go_wp2_with (with_reducible refine at_store 41 ?_)
  unfold Hid
  refine wpList_store_row rfl 41 _ _ rfl W.heap.size #[.int .i64 1000, .int .i64 1000, .int .i64 0, .int .i64 0, .int .i64 0] rfl rfl 41 _ AT (by kernel_rfl) rfl (by simp [Value.oneCell']) ?_
  have hWX := HC.out.hB
  have bT2 : Below W.heap.size W ((W.alloc (.cells #[.int .i64 0, .int .i64 0, .int .i64 0, .int .i64 0, .int .i64 0] 41)).setRow W.heap.size #[.int .i64 1000, .int .i64 1000, .int .i64 0, .int .i64 0, .int .i64 0]) := bT.grown m2 bT.size (fun j e => by cases e; exact Nat.le_refl _)
  have HT := hid m1
  have HC1 := hid (HC.out.below bT2)
  have Hb1 := hid (Hb.out.trans (bT2.mono hWX))
  clear bT AT m1 m2 bT2 HC Hb
  generalize (W.alloc (.cells #[.int .i64 0, .int .i64 0, .int .i64 0, .int .i64 0, .int .i64 0] 41)).setRow W.heap.size #[.int .i64 1000, .int .i64 1000, .int .i64 0, .int .i64 0, .int .i64 0] = W1 at *
  generalize W.heap.size = T at *
  go_wp2_with fail
  refine hL3.out _ _ ?_
  refine wp_seq_k (fun L4 hL4 => ?_)
  refine Tri.use (law_w15 w0.heap.size T ln lc i la f hWX hln (by omega)) rfl ⟨rfl, rfl, rfl, HT.out, HLw.out.below Hb1.out (Nat.le_refl _)⟩ ?_
  rintro y1 W2 ⟨⟨e0, e4, e16, e17, e18⟩, ⟨d, u, q, l, k, hrow, hd, hu, hq64, hlo, hqu⟩, hg2⟩
  refine hL4.out _ _ ?_
  have hTX : T ≠ X := fun e => by
    have h := HC1.out.bx
    rw [← e, HT.out] at h
    injection h with h
    injection h with _ h
    exact absurd h (by decide)
  have st2 : ∀ t, t ≠ 41 → Stays t W1 W2 := fun t ht => Stays.ofSet hg2 HT.out ht
  have hC2 : CB D W2 X w0.heap.size c.g c.t A := by
    have h := HC1.out
    exact ⟨st2 39 (by decide) _ _ h.bx, h.gv.stays (st2 5 (by decide)) (st2 84 (by decide)), h.tk.stays (st2 5 (by decide)) (st2 84 (by decide)), h.dn.stays (st2 22 (by decide)) (st2 5 (by decide)), h.up.stays (st2 22 (by decide)) (st2 5 (by decide)), h.ne, h.bX⟩
  have hb2 : Below w0.heap.size w0 W2 := Hb1.out.grown hg2 Hb1.out.size (fun j e => by cases e; exact hWX)
  have hstep := Hq.out.step hD.P hln ⟨d, u, pkF q, btF k, btF l⟩ hlo (fun h => by
    obtain ⟨rfl, rfl, rfl, rfl, rfl⟩ := hqu h
    exact quietE)
  obtain ⟨kk, hck, hk100, hck1⟩ := hstep.ex
  have htick := hid (tick_ok D hD hSum X w0.heap.size kk c A d u q l k W2 hb2.size hC2 Hdn.out Hup.out hck hk100 hd hu hq64 hstep.dn hstep.up hstep.fin)
  have Hnx := hid hstep.nx
  have Hck1 := hid hck1
  have Hrow := hid hrow
  have Hb2 := hid hb2
  clear hC2 hb2 hstep hck hck1 hlo hqu hg2 st2 HC1 Hb1 HT Hdn Hup Hq hq64
  rw [fr168]
  simp only [e0, e4, e16, e17, e18]
  clear e0 e4 e16 e17 e18
  have hrow0 := Hrow.out
  refine wp_seq_k (fun L5 hL5 => ?_)
  refine wp_seq_k (fun L6 hL6 => ?_)
  go_wp2_with (first | (with_reducible refine wpList_load_row (o := ⟨some 90, _, _, _, _, _⟩) rfl 41 _ rfl T rfl 41 _ _ _ hrow0 Try.underlying41 rfl (by kernel_rfl) ?_) | (go_at_call 7; refine htick.out.mono ?_))
  rintro e W3 ⟨rfl, ⟨A3, hC3, hdn3, hup3⟩, hk3⟩
  have Hb3 := hid (Hb2.out.trans hk3.bl)
  obtain ⟨c3, hc3⟩ : ∃ c3, c3 = tickD D.P ⟨d, u, pkF q, btF k, btF l⟩ c := ⟨_, rfl⟩
  rw [← hc3] at hC3 hdn3 hup3 Hnx Hck1
  have HC3 := hid hC3
  have Hdn3 := hid hdn3
  have Hup3 := hid hup3
  clear hC3 hdn3 hup3 hk3 htick hc3 hrow0 Hrow Hb2
  go_wp2_with fail
  refine hL6.out _ _ ?_
  refine wp_cond_false rfl ?_
  go_wp2_with fail
  refine hL5.out _ _ ?_
  -- what there is now
  obtain ⟨tl, htl⟩ : ∃ tl, tl = tcX D c3.t A3 := ⟨_, rfl⟩
  have htn : tl.length = 14 := by rw [htl]; rfl
  have ld0 : W3.rangeAt X 13 tl := by rw [htl]; exact rng_tak HC3.out.bx (gcX_len D c3.g A3)
  have hcall := hid (show Calls Try.prog 8 #[.agg (tcX D c3.t A3).toArray] W3 (fun e w' => WholeR D W3 w' c3.t e) from Whole_ok D hD c3.t A3.ha c3.t.hv.length A3.hc A3.fa (topH c3.t.hv) A3.fc W3 Hck1.out.t rfl rfl HC3.out.tk)
  rw [← htl] at hcall
  clear htl
  refine wp_seq_k (fun L7 hL7 => ?_)
  go_wp2_with (with_reducible refine wpList_load_mid (op := ⟨some 97, _, _, _, _, _⟩) rfl 33 _ rfl X 13 rfl tl _ ld0 Try.underlying33 rfl (by rw [htn]; kernel_rfl) ?_)
  refine hcall.out.mono ?_
  rintro e W4 ⟨hex, hb4⟩
  have hgt := Hck1.out.gt
  have hg3 := Hck1.out.g.st
  obtain ⟨nm, ga, gn, gc, er, he, hcc⟩ : ∃ (nm : ByteArray) (ga : Option Addr) (gn gc : Nat) (er : Int), e = .returned (.tuple #[.string nm, .slice ga gn gc, .int .i64 er]) ∧ ((c3.t.st = 3 ∧ nm = logS ∧ er = 0 ∧ (convert 22 9 (.slice ga gn gc)).run Try.prog W4 = .ok (.string S) W4) ∨ (c3.t.st = 0 ∧ c3.g.st ≠ 3 ∧ er = 7)) := by
    rcases hex with ⟨h3, a, c', he, hr⟩ | ⟨h0, he⟩
    · exact ⟨logS, a, D.P.F, c', 0, he, .inl ⟨h3, rfl, rfl, HSt.out _ _ _ _ hr⟩⟩
    · exact ⟨_, none, 0, 0, 7, he, .inr ⟨h0, fun h => by have := hgt h; omega, rfl⟩⟩
  subst he
  have Hcc := hid hcc
  have HC4 := hid (HC3.out.below hb4)
  have Hb4 := hid (Hb3.out.trans (hb4.mono HC3.out.hB))
  clear hcc hex hb4 hcall ld0 htn HC3 Hb3 hgt
  go_wp2_with fail
  refine hL7.out _ _ ?_
  refine wp_fr168 rfl ?_
  refine law_tail X c3.g.st c3.t.st i ln lc fa la n fc ga gn gc nm S er _ _ W4 hg3 Hcc.out ?_ rfl rfl rfl rfl rfl rfl rfl HC4.out.c5 HC4.out.c22 ?_ ?_
  · rw [Hn.out]
    exact HSt.out _ _ _ _ (HFw.out.below Hb4.out)
  · intro _ _ y' h10
    exact HRet.out y' W4 Hb4.out h10
  · intro hno y' f0 f4 f16 f17
    have hq' : LQ D.P ln (i + 1) c3 := by
      rcases Hnx.out with h | h
      · exact absurd h hno
      · exact h
    have Hq' := hid hq'
    clear hq' hno hg3
    have g0 : y' 0 = .slice fa n fc := f0
    have g4 : y' 4 = .slice la ln lc := f4
    have g16 : y' 16 = .pointer (some ⟨X, 0, none⟩) := f16
    have g17 : y' 17 = .int .i64 (i : Int) := f17
    clear f0 f4 f16 f17
    refine hL2.out _ _ ?_
    rw [fr168]
    simp only [g0, g4, g16, g17]
    clear g0 g4 g16 g17
    have a2 : IntKind.i64.wrap ((i : Int) + 1) = (i : Int) + 1 := IntWalk.i64_in _ (by omega)
    go_wp2_with fail
    refine ⟨rfl, rfl, ⟨i + 1, c3, A3, by rw [← Hn.out]; rfl, rfl, rfl, ?_, HC4.out, Hdn3.out, Hup3.out, Hb4.out, Hq'.out⟩, ?_⟩
    · show Value.int .i64 _ = Value.int .i64 _
      go_num
    · show _ - (intOf (Value.int .i64 _)).toNat < _
      simp [intOf]
      omega
end Go.Proofs.Ytopmamgdfngdoaa
/- deliver: the law (walk 3). -/
namespace Go.Proofs.Ytopmamgdfngdoaa
set_option linter.unusedVariables false
open Go.RowKit

def LawR (w : World) (e : Ending) (W : World) : Prop := e = .returned (.bool true) ∧ Below w.heap.size w W
set_option maxRecDepth 1000000 in
set_option maxHeartbeats 8000000 in
theorem law_60 (fa : Option Addr) (fn fc : Nat) (m b p : Int) (la : Option Addr) (ln lc : Nat) (w : World) (hl : 60 < ln) :
    Calls Try.prog 3 #[.slice fa fn fc, .int .i64 m, .int .i64 b, .int .i64 p, .slice la ln lc] w (LawR w) := by
  have hlI : (60 : Int) < (ln : Int) := by omega
  go_enter Try.func3, Try.ntmps3
  refine wp_seq_k (fun K0 hK0 => ?_)
  go_wp2_with fail
  refine hK0.out _ _ ?_
  refine wp_seq_k (fun K1 hK1 => ?_)
  refine wp_seq_k (fun K2 hK2 => ?_)
  go_wp2_with fail
  refine hK2.out _ _ ?_
  refine wp_cond_true rfl ?_
  go_wp2_with fail
  refine bodyPost_ret (results_tmp (fn := Try.f3) rfl _ _ _) rfl ?_
  exact ⟨rfl, Below.refl _ _⟩
def e6 (p : Nat) : Array Value := #[.int .i64 7, .bool false, .string { data := #[] }, .int .i64 0, .bool false, .int .i64 0, .int .i64 0, .slice none 0 0, .slice none 0 0, .int .i64 0, .int .i64 0, .int .i64 (p : Int), .int .i64 0, .int .i64 100]
theorem expect2 (p : Nat) (w : World) (h1 : 1 ≤ p) (h2 : p ≤ 1000) : Calls Try.prog 6 #[.int .i64 7, .int .i64 (p : Int), .int .i64 100] w fun e w' => e = .returned (.tuple #[.agg (e6 p), .int .i64 0]) ∧ Below w.heap.size w w' := expect_ok p w h1 h2
theorem pick_k (n : Int) (of : Nat) (h : in64 n) (h0 : 0 < of) (h1 : of ≤ 1000) : ∃ k, k < of ∧ ∀ W : World, Calls Try.prog 4 #[.int .i64 n, .int .i64 (of : Int)] W fun e w' => e = .returned (.int .i64 (k : Int)) ∧ w' = W :=
  ⟨pk n of, pk_lt n of h0, fun W => pick_st n of W h.1 h.2 (by omega) (by omega)⟩
set_option maxRecDepth 1000000 in
set_option maxHeartbeats 800000 in
theorem law_120 (fa : Option Addr) (fn fc : Nat) (m b p : Int) (la : Option Addr) (ln lc : Nat) (bs : List Nat) (w : World) (hl : ln ≤ 60) (hm : in64 m) (hb : in64 b) (hp : in64 p) (hF : Rd w fa fn fc (vb bs)) (hn : 120 < fn) :
    Calls Try.prog 3 #[.slice fa fn fc, .int .i64 m, .int .i64 b, .int .i64 p, .slice la ln lc] w (LawR w) := by
  have hnI : (120 : Int) < (fn : Int) := by omega
  obtain ⟨kp, hkp, hp1⟩ := pick_k p 9 hp (by decide) (by decide)
  obtain ⟨km, hkm, hp2⟩ := pick_k m 40 hm (by decide) (by decide)
  obtain ⟨kb, hkb, hp3⟩ := pick_k b 9 hb (by decide) (by decide)
  have hp1 := hid hp1
  have hp2 := hid hp2
  have hp3 := hid hp3
  have ap : IntKind.i64.wrap (1 + (kp : Int)) = ((1 + kp : Nat) : Int) := by rw [IntWalk.i64_in _ (by omega)]; omega
  have am : IntKind.i64.wrap (1 + (km : Int)) = ((1 + km : Nat) : Int) := by rw [IntWalk.i64_in _ (by omega)]; omega
  have ab : IntKind.i64.wrap (1 + (kb : Int)) = ((1 + kb : Nat) : Int) := by rw [IntWalk.i64_in _ (by omega)]; omega
  obtain ⟨p1, hp1e⟩ : ∃ p1, p1 = 1 + kp := ⟨_, rfl⟩
  obtain ⟨m1, hm1e⟩ : ∃ m1, m1 = 1 + km := ⟨_, rfl⟩
  obtain ⟨b1, hb1e⟩ : ∃ b1, b1 = 1 + kb := ⟨_, rfl⟩
  have hpb : 1 ≤ p1 ∧ p1 ≤ 9 := by omega
  have hmb : 1 ≤ m1 ∧ m1 ≤ 40 := by omega
  have hbb : 1 ≤ b1 ∧ b1 ≤ 9 := by omega
  rw [← hp1e] at ap
  rw [← hm1e] at am
  rw [← hb1e] at ab
  clear hp1e hm1e hb1e
  have HF := hid hF
  clear hF hm hb hp hkp hkm hkb
  go_enter Try.func3, Try.ntmps3
  have hlI : ¬ (60 : Int) < (ln : Int) := by omega
  refine wp_seq_k (fun K0 hK0 => ?_)
  go_wp2_with fail
  refine hK0.out _ _ ?_
  refine wp_seq_k (fun K1 hK1 => ?_)
  refine wp_seq_k (fun K2 hK2 => ?_)
  go_wp2_with fail
  refine hK2.out _ _ ?_
  refine wp_cond_false (by show Value.bool (decide ((60 : Int) < (ln : Int))) = _; rw [decide_eq_false (by omega)]) ?_
  go_wp2_with fail
  refine hK1.out _ _ ?_
  refine wp_seq_k (fun K3 hK3 => ?_)
  go_wp2_with ((go_at_call 4; refine (hp1.out _).mono ?_))
  rintro e w' ⟨rfl, hw'⟩
  rw [hw']
  clear hw' w' hp1
  go_wp2_with fail
  refine hK3.out _ _ ?_
  -- Offer
  refine wp_seq_k (fun K4 hK4 => ?_)
  go_wp2_with ((go_at_call 4; refine (hp2.out _).mono ?_))
  rintro e w' ⟨rfl, hw'⟩
  rw [hw']
  clear hw' w' hp2
  go_wp2_with ((go_at_call 4; refine (hp3.out _).mono ?_))
  rintro e w' ⟨rfl, hw'⟩
  rw [hw']
  clear hw' w' hp3
  have hoff : Hid (Calls Try.prog 5 #[.int .i64 7, .string { data := #[108, 111, 103] }, .slice fa fn fc, .int .i64 (m1 : Int), .int .i64 (b1 : Int), .int .i64 (p1 : Int), .int .i64 100] w fun e w' => ∃ cs k, e = .returned (.tuple #[.agg cs, .int .i64 k]) ∧ cs.size = 13 ∧ cs.all (fun x => x.oneCell') = true ∧ Below w.heap.size w w' ∧ (k = 0 ∨ (k = 1 ∧ 65536 < fn))) := by
    by_cases h6 : fn ≤ 65536
    · refine hid ((offer_ok m1 b1 p1 fa fn fc bs w HF.out h6 ⟨hmb.1, by omega⟩ ⟨hbb.1, by omega⟩ ⟨hpb.1, by omega⟩).mono ?_)
      rintro e W ⟨⟨a', c', rfl, ho⟩, hb⟩
      exact ⟨_, 0, rfl, rfl, by simp [Value.oneCell'], hb, .inl rfl⟩
    · refine hid ((offer_big m1 b1 p1 fa fn fc w (by omega) ⟨hmb.1, by omega⟩ ⟨hbb.1, by omega⟩ ⟨hpb.1, by omega⟩).mono ?_)
      rintro e W ⟨rfl, hb⟩
      exact ⟨zg13, 1, rfl, rfl, by unfold zg13; simp [Value.oneCell'], hb, .inr ⟨rfl, by omega⟩⟩
  go_wp2_with ((go_at_call 5; refine hoff.out.mono ?_))
  rintro e W1 ⟨cs, k, rfl, hsz, hone, hb1, hk⟩
  clear hoff ab ap am
  have bZ := below_alloc W1 (.cells zg13 28)
  have AZ := heap_alloc_new W1 (.cells zg13 28)
  obtain ⟨z1, z2⟩ := set_whole (cs' := cs) AZ
  have bAll : Below w.heap.size w ((W1.alloc (.cells zg13 28)).setRow W1.heap.size cs) := (hb1.trans (bZ.mono hb1.size)).grown z2 (Nat.le_trans hb1.size bZ.size) (fun j e => by cases e; exact hb1.size)
  have HB := hid bAll
  unfold zg13 at *
  clear bAll z1 z2 hb1 bZ
  go_wp2_with (with_reducible refine at_store 28 ?_)
  unfold Hid
  refine wpList_store_row rfl 28 _ _ rfl W1.heap.size cs rfl rfl 28 _ AZ (by rw [hsz]; try rfl) (by rw [hsz]; try rfl) hone ?_
  clear AZ
  generalize (W1.alloc (.cells #[.int .i64 0, .string { data := #[] }, .slice none 0 0, .int .i64 0, .int .i64 0, .int .i64 0, .bool false, .int .i64 0, .slice none 0 0, .int .i64 0, .int .i64 0, .int .i64 0, .int .i64 0] 28)).setRow W1.heap.size cs = W2 at *
  generalize W1.heap.size = Y at *
  go_wp2_with fail
  refine hK4.out _ _ ?_
  -- Expect
  have hexp := hid (expect2 p1 W2 hpb.1 (by omega))
  refine wp_seq_k (fun K5 hK5 => ?_)
  go_wp2_with ((go_at_call 6; refine hexp.out.mono ?_))
  rintro e W3 ⟨rfl, hb3⟩
  clear hexp
  obtain ⟨tc, htc⟩ : ∃ tc, tc = e6 p1 := ⟨_, rfl⟩
  rw [← htc]
  have htn : tc.size = 14 := by rw [htc]; rfl
  have htone : tc.all (fun x => x.oneCell') = true := by rw [htc]; unfold e6; simp [Value.oneCell']
  clear htc
  have bZ := below_alloc W3 (.cells #[.int .i64 0, .bool false, .string { data := #[] }, .int .i64 0, .bool false, .int .i64 0, .int .i64 0, .slice none 0 0, .slice none 0 0, .int .i64 0, .int .i64 0, .int .i64 0, .int .i64 0, .int .i64 0] 33)
  have AZ := heap_alloc_new W3 (.cells #[.int .i64 0, .bool false, .string { data := #[] }, .int .i64 0, .bool false, .int .i64 0, .int .i64 0, .slice none 0 0, .slice none 0 0, .int .i64 0, .int .i64 0, .int .i64 0, .int .i64 0, .int .i64 0] 33)
  obtain ⟨z1, z2⟩ := set_whole (cs' := tc) AZ
  have hYW : w.heap.size ≤ W3.heap.size := Nat.le_trans HB.out.size hb3.size
  have bAll : Below w.heap.size w ((W3.alloc (.cells #[.int .i64 0, .bool false, .string { data := #[] }, .int .i64 0, .bool false, .int .i64 0, .int .i64 0, .slice none 0 0, .slice none 0 0, .int .i64 0, .int .i64 0, .int .i64 0, .int .i64 0, .int .i64 0] 33)).setRow W3.heap.size tc) := ((HB.out.trans (hb3.mono HB.out.size)).trans (bZ.mono hYW)).grown z2 (Nat.le_trans hYW bZ.size) (fun j e => by cases e; exact hYW)
  have HB2 := hid bAll
  clear bAll z1 z2 hb3 bZ HB
  go_wp2_with (with_reducible refine at_store 33 ?_)
  unfold Hid
  refine wpList_store_row rfl 33 _ _ rfl W3.heap.size tc rfl rfl 33 _ AZ (by rw [htn]; try rfl) (by rw [htn]; try rfl) htone ?_
  clear AZ
  generalize (W3.alloc (.cells #[.int .i64 0, .bool false, .string { data := #[] }, .int .i64 0, .bool false, .int .i64 0, .int .i64 0, .slice none 0 0, .slice none 0 0, .int .i64 0, .int .i64 0, .int .i64 0, .int .i64 0, .int .i64 0] 33)).setRow W3.heap.size tc = W4 at *
  generalize W3.heap.size = Z at *
  go_wp2_with fail
  refine hK5.out _ _ ?_
  refine wp_seq_k (fun K6 hK6 => ?_)
  refine wp_seq_k (fun K7 hK7 => ?_)
  go_wp2_with fail
  refine hK7.out _ _ ?_
  refine wp_cond_true rfl ?_
  rcases hk with rfl | ⟨rfl, h6⟩
  · go_wp2_with fail
    refine bodyPost_ret (results_tmp (fn := Try.f3) rfl _ _ _) rfl ?_
    exact ⟨rfl, HB2.out⟩
  · have h6I : (65536 : Int) < (fn : Int) := by omega
    go_wp2_with fail
    refine bodyPost_ret (results_tmp (fn := Try.f3) rfl _ _ _) rfl ?_
    exact ⟨rfl, HB2.out⟩
end Go.Proofs.Ytopmamgdfngdoaa
