/- PassesDue: container/heap over the queue: Push, Pop. -/
import Derived.Test.YtfbchmihkndfaaaDue12
namespace Go.Proofs.Ytfbchmihkndfaaa
set_option linter.unusedVariables false
open Go.RowKit

structure PushR (W0 W : World) (B QB jb n nc : Nat) (F Y rem : Nat → Nat) (a : List Nat) : Prop where
  ex : ∃ av A, Qu W B QB jb n nc av F Y rem A ∧ A.Perm a ∧ Hp (keyJ Y) A A.length
  kp : Kp B [QB] W0 W
set_option maxRecDepth 1000000 in
set_option maxHeartbeats 1000000 in
theorem heap_push {B QB jb n nc : Nat} {av : Value} {F Y rem : Nat → Nat} {a : List Nat} {W0 : World} (h : Qu W0 B QB jb n nc av F Y rem a) (hH : Hp (keyJ Y) a a.length) (x : Nat) (hx : x < n) (hl : a.length < 100) (hn : n ≤ 100) (hY : ∀ i, i < n → Y i ≤ 1000000) :
    Calls Try.prog 29 #[.iface 65 (.pointer (some ⟨QB, 0, none⟩)), .iface 3 (.int .i64 (x : Int))] W0 fun e w' => PushR W0 w' B QB jb n nc F Y rem (a ++ [x]) ∧ e = .returned (.tuple #[]) := by
  have hpush := push_q h x hx hl
  have hbW := h.bW
  have HU := hid (UpI.start hH x)
  have HY := hid hY
  have mP := m_push
  have mL := m_len
  clear h hH hY
  go_enter Try.func29, Try.ntmps29
  refine wp_seq_k (fun K0 hK0 => ?_)
  go_wp2_with fail
  refine hpush.mono ?_
  rintro e W1 ⟨⟨av1, hq1⟩, rfl, hk1⟩
  have Q1 := hid hq1
  have K1 := hid hk1
  clear hpush hq1 hk1
  go_wp2_with fail
  refine hK0.out _ _ ?_
  have hlen := len_q Q1.out
  have hal : (a ++ [x]).length = a.length + 1 := by simp
  have hup := up_ok Q1.out a.length (by rw [hal]; exact HU.out) hn HY.out
  rw [hal] at hlen
  have e1 : ((a.length + 1 : Nat) : Int) - 1 = (a.length : Int) := by omega
  have w1 : IntKind.i64.wrap (a.length : Int) = (a.length : Int) := IntWalk.i64_in _ (by omega)
  obtain ⟨q, hq⟩ : ∃ q, q = a.length + 1 := ⟨_, rfl⟩
  rw [← hq] at hlen e1
  clear hq
  have Hal := hid hal
  clear hal
  go_wp2_with fail
  refine hlen.mono ?_
  rintro e w' ⟨rfl, hw'⟩
  rw [hw']
  clear hw' w' hlen
  go_wp2_with fail
  refine hup.mono ?_
  rintro e W2 ⟨⟨A, ⟨hq2, hp2, hk2⟩, hH2⟩, rfl⟩
  have Q2 := hid hq2
  have HH2 := hid hH2
  have HP2 := hid hp2
  have K2 := hid (K1.out.trans (hk2.mono (by simp)))
  clear hup hq2 hp2 hk2 hH2
  go_wp2_with fail
  go_end0
  exact ⟨⟨⟨av1, A, Q2.out, HP2.out, by rw [HP2.out.length_eq]; exact HH2.out⟩, K2.out⟩, rfl⟩
structure PopR (W0 W : World) (B QB jb n nc : Nat) (F Y rem : Nat → Nat) (a : List Nat) : Prop where
  ex : ∃ av A, Qu W B QB jb n nc av F Y rem A ∧ a.Perm (A ++ [nth a 0]) ∧ Hp (keyJ Y) A A.length
  kp : Kp B [QB] W0 W
set_option maxRecDepth 1000000 in
set_option maxHeartbeats 1000000 in
theorem heap_pop {B QB jb n nc : Nat} {av : Value} {F Y rem : Nat → Nat} {a : List Nat} {W0 : World} (h : Qu W0 B QB jb n nc av F Y rem a) (hH : Hp (keyJ Y) a a.length) (k : Nat) (hk : a.length = k + 1) (hn : n ≤ 100) (hY : ∀ i, i < n → Y i ≤ 1000000) :
    Calls Try.prog 31 #[.iface 65 (.pointer (some ⟨QB, 0, none⟩))] W0 fun e w' => PopR W0 w' B QB jb n nc F Y rem a ∧ ∃ v, e = .returned v := by
  have hlen := len_q h
  have hsw := swap_q h 0 k (by omega) (by omega)
  have hbW := h.bW
  have h100 := h.len
  have HD := hid (DnI.start hH hk)
  have hsl := swp_len a 0 k
  have hlast := hid (show nth (swp a 0 k) k = nth a 0 from by rw [swp_nth a 0 k k (by omega) (by omega), if_pos rfl])
  have hsp := hid (swp_perm a 0 k (by omega) (by omega))
  have HY := hid hY
  have Hk := hid hk
  have mS := m_swap
  have mP := m_pop
  have mL := m_len
  rw [hk] at hlen hsl
  have e1 : ((k + 1 : Nat) : Int) - 1 = (k : Int) := by omega
  have w1 : IntKind.i64.wrap (k : Int) = (k : Int) := IntWalk.i64_in _ (by omega)
  obtain ⟨q, hq⟩ : ∃ q, q = k + 1 := ⟨_, rfl⟩
  rw [← hq] at hlen e1
  have Hsl := hid hsl
  clear h hH hY hk hq hsl
  go_enter Try.func31, Try.ntmps31
  refine wp_seq_k (fun K0 hK0 => ?_)
  go_wp2_with fail
  refine hK0.out _ _ ?_
  refine wp_seq_k (fun K1 hK1 => ?_)
  go_wp2_with fail
  refine hlen.mono ?_
  rintro e w' ⟨rfl, hw'⟩
  rw [hw']
  clear hw' w' hlen
  go_wp2_with fail
  refine hK1.out _ _ ?_
  clear e1
  refine wp_seq_k (fun K2 hK2 => ?_)
  go_wp2_with fail
  refine hsw.mono ?_
  rintro e W1 ⟨rfl, hq1, hk1⟩
  have Q1 := hid hq1
  have KK1 := hid (hk1.mono (X' := [QB]) (by simp))
  clear hsw hq1 hk1
  go_wp2_with fail
  refine hK2.out _ _ ?_
  have hdown := down_ok Q1.out k Hsl.out HD.out hn HY.out
  refine wp_seq_k (fun K3 hK3 => ?_)
  go_wp2_with fail
  refine hdown.mono ?_
  rintro e W2 ⟨A, b, ⟨⟨hq2, hp2, hk2⟩, hH2, hl2⟩, rfl⟩
  have hAl : A.length = k + 1 := by rw [hp2.length_eq, Hsl.out]
  have hpop := pop_q hq2 k hAl
  have HP := hid (pop_perm Hk.out (hp2.trans hsp.out) (hl2.trans hlast.out))
  have HT := hid (show Hp (keyJ Y) (A.take k) (A.take k).length from by
    rw [List.length_take, Nat.min_eq_left (by omega)]; exact hH2.take)
  have KK2 := hid (KK1.out.trans (hk2.mono (by simp)))
  clear hdown hq2 hp2 hk2 hH2 hl2 hAl
  go_wp2_with fail
  refine hK3.out _ _ ?_
  go_wp2_with fail
  refine hpop.mono ?_
  rintro e W3 ⟨⟨av3, hq3⟩, rfl, hk3⟩
  have Q3 := hid hq3
  have KK3 := hid (KK2.out.trans hk3)
  clear hpop hq3 hk3
  go_wp2_with fail
  go_ret
  exact ⟨⟨⟨av3, _, Q3.out, HP.out, HT.out⟩, KK3.out⟩, _, rfl⟩
end Go.Proofs.Ytfbchmihkndfaaa
/- PassesDue: slices.SortStableFunc of places by when jobs begin. -/
namespace Go.Proofs.Ytfbchmihkndfaaa
set_option linter.unusedVariables false
open Go.RowKit

/-- the jobs as they came -/
structure JO (W : World) (X jb m nc : Nat) (F Y N : Nat → Nat) : Prop where
  x : W.heap[X]? = some (.cells #[.slice (some ⟨jb, 0, none⟩) m nc] 30)
  jobs : JbAt W jb m F Y N
  le : m ≤ nc
  mx : nc ≤ maxLen
  fb : ∀ i, i < m → F i ≤ 1000
theorem JbAt.below {W W' : World} {jb n : Nat} {F Y rem : Nat → Nat} (h : JbAt W jb n F Y rem) (hb : Below W.heap.size W W') : JbAt W' jb n F Y rem := by
  obtain ⟨cs, h1, h2⟩ := h
  exact ⟨cs, row_below h1 hb, h2⟩
theorem JO.below {W W' : World} {X jb m nc : Nat} {F Y N : Nat → Nat} (h : JO W X jb m nc F Y N) (hb : Below W.heap.size W W') : JO W' X jb m nc F Y N :=
  ⟨row_below h.x hb, h.jobs.below hb, h.le, h.mx, h.fb⟩
theorem JO.gb {W W' : World} {X jb m nc B g o c n : Nat} {F Y N : Nat → Nat} {L : List Nat} (h : JO W X jb m nc F Y N) (ho : OwnAt W B 3 (.slice (some ⟨g, o, none⟩) n c) n (vi L)) (hg : Gb g W W') : JO W' X jb m nc F Y N := by
  have hx : ∀ b cs T, 3 ≠ T → W.heap[b]? = some (.cells cs T) → b ≠ g := fun b cs T hT hr e => by
    rcases ho.ne hr hT with h4 | h4
    · cases h4
    · exact h4 (by rw [e]; rfl)
  obtain ⟨cs, h1, h2⟩ := h.jobs
  exact ⟨row_grown h.x hg (hx _ _ 30 (by decide) h.x), ⟨cs, row_grown h1 hg (hx _ _ 32 (by decide) h1), h2⟩, h.le, h.mx, h.fb⟩
def kf (F : Nat → Nat) (x : Nat) : Nat := 1000 - F x
theorem cl_j {X jb m nc : Nat} {F Y N : Nat → Nat} {w : World} (h : JO w X jb m nc F Y N) (x y : Nat) (hx : x < m) (hy : y < m) :
    Calls Try.prog 27 #[.int .i64 (x : Int), .int .i64 (y : Int), .pointer (some ⟨X, 0, none⟩)] w fun e w' => e = .returned (.int .i64 ((F x : Int) - (F y : Int))) ∧ Below w.heap.size w w' := by
  have hd : Below w.heap.size w w.drew := (Below.refl _ w).drew
  obtain ⟨cs, hcs, _⟩ := h.jobs
  have hjl := row_lt hcs
  have e0 : ∀ w', Below w.heap.size w.drew w' → w'.cell? ⟨X, 0, none⟩ = some (.slice (some ⟨jb, 0, none⟩) m nc) := fun w' hw => by rw [cell_of_row _ _ _ _ _ _ (row_below h.x (hd.trans hw))]; rfl
  have e1 : ∀ w', Below w.heap.size w.drew w' → w'.cell? ⟨jb, x * 3, none⟩ = some (.int .i64 (F x : Int)) := fun w' hw => ((hd.trans hw).cell (p := ⟨jb, x * 3, none⟩) hjl).trans (h.jobs.cell x hx).1
  have e2 : ∀ w', Below w.heap.size w.drew w' → w'.cell? ⟨jb, y * 3, none⟩ = some (.int .i64 (F y : Int)) := fun w' hw => ((hd.trans hw).cell (p := ⟨jb, y * 3, none⟩) hjl).trans (h.jobs.cell y hy).1
  have hfx := h.fb x hx
  have hfy := h.fb y hy
  have hle := h.le
  have hmx := h.mx
  unfold maxLen at hmx
  have Hd := hid hd
  generalize F x = fx at *
  generalize F y = fy at *
  have hwr : IntKind.i64.wrap ((fx : Int) - (fy : Int)) = (fx : Int) - (fy : Int) := IntWalk.i64_in _ (by omega)
  clear h hd hcs
  go_enter Try.func27, Try.ntmps27
  go_wp2_with fail
  refine wp_region_can_all [] [0, 1, 2, 3, 4, 5, 6, 7, 8, 9, 10, 11] (Below w.heap.size) (fun _ => Below.refl _ _) (fun _ _ _ h k => h.trans k) (by kernel_rfl) (by kernel_rfl) ?_
  simp only [List.map_cons, List.map_nil, List.contains_nil, List.getD_cons_zero, List.getD_cons_succ]
  generalize w.drew = U at *
  repeat (refine wpL_do rfl (fun w' hw' => (by go_simp; rfl)) ?_; simp only [Act.put, List.setIfInBounds_toArray, List.set_cons_succ, List.set_cons_zero])
  refine wpL_nil ?_
  clear e0 e1 e2 hwr
  go_wp2_with fail
  go_ret
  exact ⟨rfl, Hd.out⟩
def SlotJ (y : Nat → Value) (g o c n X : Nat) : Prop := y 0 = .slice (some ⟨g, o, none⟩) n c ∧ y 1 = .int .i64 0 ∧ y 2 = .int .i64 (n : Int) ∧ y 3 = .func (.func 27) #[] #[.pointer (some ⟨X, 0, none⟩)]
/-- memory while it is sorted -/
structure SMj (W0 W : World) (B X g o c n : Nat) (L : List Nat) : Prop where
  own : OwnAt W B 3 (.slice (some ⟨g, o, none⟩) n c) n (vi L)
  gb : Gb g W0 W
theorem SMj.below {W0 W W' : World} {B X g o c n : Nat} {L : List Nat} (h : SMj W0 W B X g o c n L) (hb : Below W.heap.size W W') : SMj W0 W' B X g o c n L :=
  ⟨h.own.below hb, grownBy_trans h.gb (Gb.below hb)⟩
def OutJ (W0 : World) (B X g o c n : Nat) (F : Nat → Nat) (L0 : List Nat) (y : Nat → Value) (W : World) : Prop :=
  ∃ i L, 1 ≤ i ∧ i ≤ n ∧ SlotJ y g o c n X ∧ y 8 = .int .i64 (i : Int) ∧ SMj W0 W B X g o c n L ∧ Srt (kf F) L0 L i
def InJ (W0 : World) (B X g o c n : Nat) (F : Nat → Nat) (L0 : List Nat) (i : Nat) (y : Nat → Value) (W : World) : Prop :=
  ∃ j L, j ≤ i ∧ SlotJ y g o c n X ∧ y 8 = .int .i64 (i : Int) ∧ y 9 = .int .i64 (j : Int) ∧ SMj W0 W B X g o c n L ∧ Ins (kf F) L0 L i j
set_option maxRecDepth 1000000 in
set_option maxHeartbeats 1000000 in
theorem swap_j (B X g o c n j i : Nat) (L : List Nat) (W0 : World) (hn : n ≤ 9) (hj : j + 1 < n) (ho : OwnAt W0 B 3 (.slice (some ⟨g, o, none⟩) n c) n (vi L)) :
    Tri Try.prog 53 (pieceOf Try.f42 [1, 0, 0, 1, 0, 0, 1, 0, 0, 1, 0, 0]) (fun y w => SlotJ y g o c n X ∧ y 8 = .int .i64 (i : Int) ∧ y 9 = .int .i64 ((j + 1 : Nat) : Int) ∧ w = W0)
      (fun _ _ y w => SlotJ y g o c n X ∧ y 8 = .int .i64 (i : Int) ∧ y 9 = .int .i64 ((j + 1 : Nat) : Int) ∧ OwnAt w B 3 (.slice (some ⟨g, o, none⟩) n c) n (vi ((L.set (j + 1) (nth L j)).set j (nth L (j + 1)))) ∧ Gb g W0 w) := by
  rintro Q y w ⟨⟨s0, s1, s2, s3⟩, s8, s9, rfl⟩ hQ
  have HQ := hid hQ
  obtain ⟨hgl, c0, f0⟩ := ho.ati j (by omega)
  obtain ⟨_, c1, f1⟩ := ho.ati (j + 1) hj
  have e0 : ∀ w', Below w.heap.size w.drew w' → w'.cell? ⟨g, o + j, none⟩ = some (.int .i64 (nth L j : Nat)) := fun w' h => (((Below.refl _ w).drew.trans h).cell (p := ⟨g, o + j, none⟩) hgl).trans c0
  have e1 : ∀ w', Below w.heap.size w.drew w' → w'.cell? ⟨g, o + (j + 1), none⟩ = some (.int .i64 (nth L (j + 1) : Nat)) := fun w' h => (((Below.refl _ w).drew.trans h).cell (p := ⟨g, o + (j + 1), none⟩) hgl).trans c1
  have hod := hid (ho.below ((Below.refl _ w).drew))
  have hgd : Hid (Gb g w w.drew) := Gb.below ((Below.refl _ w).drew)
  generalize nth L j = a at *
  generalize nth L (j + 1) = b at *
  obtain ⟨k, hk⟩ : ∃ k, k = j + 1 := ⟨_, rfl⟩
  rw [← hk] at e1 s9 hj HQ
  have hsub : (k : Int) - 1 = (j : Int) := by omega
  have hwr : IntKind.i64.wrap (j : Int) = (j : Int) := IntWalk.i64_in _ (by omega)
  have Hk := hid hk
  have hjn : j < n := by omega
  clear hQ ho c0 c1 f0 f1 hk
  conv => arg 2; whnf
  rw [fr53]
  simp only [s0, s1, s2, s3, s8, s9]
  clear s0 s1 s2 s3 s8 s9
  refine wp_region_late [15, 17] [15, 17] [(false, [0, 1, 2, 3, 4, 5, 6, 7, 8]), (true, [9]), (false, [10, 11, 12]), (true, [13]), (false, [14, 15, 16, 17])] (Below w.heap.size) (fun _ _ => True) (fun _ => Below.refl _ _) (fun _ _ _ h k => h.trans k) (fun _ => trivial) (fun _ _ _ _ _ => trivial) (fun _ _ _ => trivial) (by kernel_rfl) (by kernel_rfl) ?_
  simp only [wpPh, List.map_cons, List.map_nil, List.contains_cons, List.contains_nil, List.getD_cons_zero, List.getD_cons_succ, Nat.reduceBEq, Bool.or_false, Bool.or_true]
  generalize w.drew = U at *
  repeat (refine wpL_do rfl (fun w' hw' => (by go_simp; rfl)) ?_; simp only [Act.put, List.setIfInBounds_toArray, List.set_cons_succ, List.set_cons_zero])
  try refine wpL_nil ?_
  repeat (refine wpL_do rfl (fun w' hw' => (by go_simp; rfl)) ?_; simp only [Act.put, List.setIfInBounds_toArray, List.set_cons_succ, List.set_cons_zero])
  try refine wpL_nil ?_
  repeat (refine wpL_do rfl (fun w' hw' => (by go_simp; rfl)) ?_; simp only [Act.put, List.setIfInBounds_toArray, List.set_cons_succ, List.set_cons_zero])
  try refine wpL_nil ?_
  repeat (refine wpL_do rfl (fun w' hw' => (by go_simp; rfl)) ?_; simp only [Act.put, List.setIfInBounds_toArray, List.set_cons_succ, List.set_cons_zero])
  try refine wpL_nil ?_
  repeat (refine wpL_do rfl (fun w' hw' => (by go_simp; rfl)) ?_; simp only [Act.put, List.setIfInBounds_toArray, List.set_cons_succ, List.set_cons_zero])
  clear e0 e1 hsub hwr
  obtain ⟨o1, g1⟩ := OwnAt.set hod.out k (by omega) (.int .i64 (a : Int))
  rw [vi_set] at o1
  obtain ⟨o2, g2⟩ := o1.set j (by have := Hk.out; omega) (.int .i64 (b : Int))
  rw [vi_set] at o2
  obtain ⟨_, x1, f1⟩ := hod.out.ati k (by omega)
  obtain ⟨_, x2, f2⟩ := o1.ati j (by have := Hk.out; omega)
  have O2 := hid o2
  have G1 := hid g1
  have G2 := hid g2
  clear o2 g1 g2 o1
  refine wpL_call rfl (fun K hK => ?_)
  go_wp2_with fail
  refine hK _ _ trivial ?_
  clear hK K x1 f1
  try simp only [Act.put, List.setIfInBounds_toArray, List.set_cons_succ, List.set_cons_zero]
  refine wpL_do rfl (fun w' hw' => (by go_simp; rfl)) ?_
  simp only [Act.put, List.setIfInBounds_toArray, List.set_cons_succ, List.set_cons_zero]
  refine wpL_call rfl (fun K hK => ?_)
  go_wp2_with fail
  refine hK _ _ trivial ?_
  clear hK K x2 f2
  try simp only [Act.put, List.setIfInBounds_toArray, List.set_cons_succ, List.set_cons_zero]
  refine wpL_nil ?_
  exact q_fr (N := 53) HQ.out rfl ⟨⟨rfl, rfl, rfl, rfl⟩, rfl, rfl, O2.out, grownBy_trans hgd (grownBy_trans G1.out G2.out)⟩
set_option maxRecDepth 1000000 in
set_option maxHeartbeats 1000000 in
theorem test_j (B X g o c n j i m jb nc : Nat) (F Y N : Nat → Nat) (L : List Nat) (W0 : World) (hn : n ≤ 9) (hj : j < n) (hL : ∀ k, k < n → nth L k < m) (hJ : JO W0 X jb m nc F Y N) (ho : OwnAt W0 B 3 (.slice (some ⟨g, o, none⟩) n c) n (vi L)) :
    Tri Try.prog 53 (pieceOf Try.f42 [1, 0, 0, 1, 0, 0, 1, 0, 0, 0, 0]) (fun y w => SlotJ y g o c n X ∧ y 8 = .int .i64 (i : Int) ∧ y 9 = .int .i64 (j : Int) ∧ w = W0)
      (fun _ _ y w => SlotJ y g o c n X ∧ y 8 = .int .i64 (i : Int) ∧ y 9 = .int .i64 (j : Int) ∧ y 34 = .bool (decide (0 < j) && decide (kf F (nth L (j - 1)) < kf F (nth L j))) ∧ Below W0.heap.size W0 w) := by
  rintro Q y w ⟨⟨s0, s1, s2, s3⟩, s8, s9, rfl⟩ hQ
  have HQ := hid hQ
  obtain ⟨hgl, c0, _⟩ := ho.ati j hj
  have e0 : ∀ w', Below w.heap.size w.drew w' → w'.cell? ⟨g, o + j, none⟩ = some (.int .i64 (nth L j : Nat)) := fun w' h => (((Below.refl _ w).drew.trans h).cell (p := ⟨g, o + j, none⟩) hgl).trans c0
  have hd : Hid (Below w.heap.size w w.drew) := (Below.refl _ w).drew
  clear hQ
  by_cases h0 : j = 0
  · subst h0
    have d1 : decide ((0 : Int) < 0) = false := by decide
    clear e0 c0 ho hJ hL
    conv => arg 2; whnf
    rw [fr53]
    simp only [s0, s1, s2, s3, s8, s9]
    clear s0 s1 s2 s3 s8 s9
    refine wp_region_can_all [14] [0, 1, 2, 3, 4, 5, 6, 7, 8, 9, 10, 11, 12, 13, 14, 15, 16] (Below w.heap.size) (fun _ => Below.refl _ _) (fun _ _ _ h k => h.trans k) (by kernel_rfl) (by kernel_rfl) ?_
    simp only [List.map_cons, List.map_nil, List.contains_cons, List.contains_nil, List.getD_cons_zero, List.getD_cons_succ, Nat.reduceBEq, Bool.or_false]
    generalize w.drew = U at *
    iterate 4 (refine wpL_do rfl (fun w' hw' => (by go_simp; rfl)) ?_; simp only [Act.put, List.setIfInBounds_toArray, List.set_cons_succ, List.set_cons_zero])
    iterate 10 ((with_reducible refine wpL_pass ?_ ?_); (· rfl); simp only [Act.put, List.setIfInBounds_toArray, List.set_cons_succ, List.set_cons_zero])
    (with_reducible refine wpL_hush ?_ ?_ ?_)
    · rfl
    · exact Below.refl _ _
    simp only [Act.put, List.setIfInBounds_toArray, List.set_cons_succ, List.set_cons_zero]
    (with_reducible refine wpL_pass ?_ ?_)
    · rfl
    simp only [Act.put, List.setIfInBounds_toArray, List.set_cons_succ, List.set_cons_zero]
    refine wpL_do rfl (fun w' hw' => (by go_simp; rfl)) ?_
    simp only [Act.put, List.setIfInBounds_toArray, List.set_cons_succ, List.set_cons_zero]
    refine wpL_nil ?_
    exact q_fr (N := 53) HQ.out rfl ⟨⟨rfl, rfl, rfl, rfl⟩, rfl, rfl, rfl, hd.out⟩
  · have d1 : decide ((0 : Int) < (j : Int)) = true := decide_eq_true (by omega)
    have d2 : decide (0 < j) = true := decide_eq_true (by omega)
    obtain ⟨_, c1, _⟩ := ho.ati (j - 1) (by omega)
    have e1 : ∀ w', Below w.heap.size w.drew w' → w'.cell? ⟨g, o + (j - 1), none⟩ = some (.int .i64 (nth L (j - 1) : Nat)) := fun w' h => (((Below.refl _ w).drew.trans h).cell (p := ⟨g, o + (j - 1), none⟩) hgl).trans c1
    have hcl := cl_j (hJ.below (Below.refl _ w).drew) (nth L j) (nth L (j - 1)) (hL j hj) (hL (j - 1) (by omega))
    have hf1 := hJ.fb (nth L j) (hL j hj)
    have hf2 := hJ.fb (nth L (j - 1)) (hL (j - 1) (by omega))
    have hfin : Hid (decide (((F (nth L j) : Nat) : Int) - ((F (nth L (j - 1)) : Nat) : Int) < 0) = (true && decide (kf F (nth L (j - 1)) < kf F (nth L j)))) := by
      unfold Hid kf
      rw [Bool.true_and]
      exact decide_eq_decide.2 (by omega)
    clear hf1 hf2
    rw [d2] at HQ
    generalize (true && decide (kf F (nth L (j - 1)) < kf F (nth L j))) = bb at *
    generalize (((F (nth L j) : Nat) : Int) - ((F (nth L (j - 1)) : Nat) : Int)) = df at *
    generalize nth L j = a at *
    generalize nth L (j - 1) = b at *
    obtain ⟨k, hk⟩ : ∃ k, k = j - 1 := ⟨_, rfl⟩
    rw [← hk] at e1
    have hsub : (j : Int) - 1 = (k : Int) := by omega
    have hwr : IntKind.i64.wrap (k : Int) = (k : Int) := IntWalk.i64_in _ (by omega)
    have hkn : k < n := by omega
    clear hk c0 c1 ho hJ hL h0
    conv => arg 2; whnf
    rw [fr53]
    simp only [s0, s1, s2, s3, s8, s9]
    clear s0 s1 s2 s3 s8 s9
    refine wp_region_can_all [14] [0, 1, 2, 3, 4, 5, 6, 7, 8, 9, 10, 11, 12, 13, 14, 15, 16] (Below w.heap.size) (fun _ => Below.refl _ _) (fun _ _ _ h k => h.trans k) (by kernel_rfl) (by kernel_rfl) ?_
    simp only [List.map_cons, List.map_nil, List.contains_cons, List.contains_nil, List.getD_cons_zero, List.getD_cons_succ, Nat.reduceBEq, Bool.or_false]
    generalize w.drew = U at *
    repeat (refine wpL_do rfl (fun w' hw' => (by go_simp; rfl)) ?_; simp only [Act.put, List.setIfInBounds_toArray, List.set_cons_succ, List.set_cons_zero])
    refine wpL_call rfl (fun K hK => ?_)
    clear e0 e1 hsub hwr
    go_wp2_with fail
    refine hcl.mono ?_
    rintro e W1 ⟨rfl, b1⟩
    refine hK _ _ (b1.mono hd.out.size) ?_
    have hd1 := hid (hd.out.trans (b1.mono hd.out.size))
    clear hK K hcl b1
    try simp only [Act.put, List.setIfInBounds_toArray, List.set_cons_succ, List.set_cons_zero]
    cases bb with
    | true =>
      have hf := hfin.out
      clear hfin
      iterate 2 (refine wpL_do rfl (fun w' hw' => (by go_simp; rfl)) ?_; simp only [Act.put, List.setIfInBounds_toArray, List.set_cons_succ, List.set_cons_zero])
      refine wpL_nil ?_
      exact q_fr (N := 53) HQ.out rfl ⟨⟨rfl, rfl, rfl, rfl⟩, rfl, rfl, rfl, hd1.out⟩
    | false =>
      have hf := hfin.out
      clear hfin
      iterate 2 (refine wpL_do rfl (fun w' hw' => (by go_simp; rfl)) ?_; simp only [Act.put, List.setIfInBounds_toArray, List.set_cons_succ, List.set_cons_zero])
      refine wpL_nil ?_
      exact q_fr (N := 53) HQ.out rfl ⟨⟨rfl, rfl, rfl, rfl⟩, rfl, rfl, rfl, hd1.out⟩
/-- what the sort stands on -/
structure SJ (W0 : World) (B X g o c n m jb nc : Nat) (F Y N : Nat → Nat) (L0 : List Nat) : Prop where
  n1 : 1 ≤ n
  n9 : n ≤ 9
  jo : JO W0 X jb m nc F Y N
  own : OwnAt W0 B 3 (.slice (some ⟨g, o, none⟩) n c) n (vi L0)
  lt : ∀ x ∈ L0, x < m
  len : L0.length = n
theorem perm_ltj {L L0 : List Nat} {n m : Nat} (h : L.Perm L0) (h0 : ∀ x ∈ L0, x < m) (hl : L0.length = n) : ∀ k, k < n → nth L k < m := fun k hk => by
  have : nth L k ∈ L := by
    unfold nth
    rw [List.getD_eq_getElem?_getD, List.getElem?_eq_getElem (by rw [h.length_eq]; omega)]
    exact List.getElem_mem _
  exact h0 _ (h.mem_iff.1 this)
set_option maxRecDepth 1000000 in
set_option maxHeartbeats 1000000 in
/-- one more is put in its place -/
theorem put_j (B X g o c n i m jb nc : Nat) (F Y N : Nat → Nat) (L0 L : List Nat) (W0 W1 : World) (hO : SJ W0 B X g o c n m jb nc F Y N L0) (hi : i < n) (hM : SMj W0 W1 B X g o c n L) (hS : Srt (kf F) L0 L i) :
    Tri Try.prog 53 (pieceOf Try.f42 [1, 0, 0, 1, 0, 0]) (fun y w => SlotJ y g o c n X ∧ y 8 = .int .i64 (i : Int) ∧ w = W1)
      (fun _ _ y w => ∃ L', SlotJ y g o c n X ∧ y 8 = .int .i64 (i : Int) ∧ SMj W0 w B X g o c n L' ∧ Srt (kf F) L0 L' (i + 1)) := by
  rintro Q y w ⟨⟨s0, s1, s2, s3⟩, s8, rfl⟩ hQ
  have HQ := hid hQ
  have hn9 := hO.n9
  have hLl : L.length = n := hS.perm.length_eq.trans hO.len
  have HI := hid (hS.start (by rw [hLl]; exact hi))
  have HM := hid hM
  clear hQ hM hS
  conv => arg 2; whnf
  rw [fr53]
  simp only [s0, s1, s2, s3, s8]
  clear s0 s1 s2 s3 s8
  refine wp_seq_k (fun K1 hK1 => ?_)
  go_wp2_with fail
  refine hK1.out _ _ ?_
  refine wp_block ?_
  refine wp_loop_fr 53 (InJ W0 B X g o c n F L0 i) (fun y' _ => (intOf (y' 9)).toNat) ⟨rfl, rfl, i, L, Nat.le_refl _, ⟨rfl, rfl, rfl, rfl⟩, rfl, rfl, HM.out, HI.out⟩ ?_
  rintro z W ⟨j, L1, hj, hsl, z8, z9, hM1, hI1⟩
  have hJ := hO.jo.gb hO.own hM1.gb
  have hlt := perm_ltj hI1.perm hO.lt hO.len
  have ht := test_j B X g o c n j i m jb nc F Y N L1 W hn9 (by omega) hlt hJ hM1.own
  refine wp_seq (wp_seq (ht _ z W ⟨hsl, z8, z9, rfl⟩ ?_))
  rintro y1 W1' ⟨⟨t0, t1, t2, t3⟩, t8, t9, t34, hb1⟩
  show Code.wp _ _ _ _ _
  rw [fr53]
  cases hb : (decide (0 < j) && decide (kf F (nth L1 (j - 1)) < kf F (nth L1 j))) with
  | true =>
    rw [hb] at t34
    rw [Bool.and_eq_true, decide_eq_true_eq, decide_eq_true_eq] at hb
    obtain ⟨j', rfl⟩ : ∃ j', j = j' + 1 := ⟨j - 1, by omega⟩
    have hM2 := hM1.below hb1
    have hsw := hid (swap_j B X g o c n j' i L1 W1' hn9 (by omega) hM2.own)
    have hst := hid (hI1.step (by have := hb.2; simpa using this))
    have HGb := hid hM2.gb
    simp only [t0, t1, t2, t3, t8, t9, t34]
    have Z9 := hid z9
    clear t0 t1 t2 t3 t8 t9 t34 hb hb1 ht hI1 hM1 hM2 hJ hlt z8 z9 hsl
    go_upto_block 3 with (fail)
    refine wp_block ?_
    refine Tri.use hsw.out rfl ⟨⟨rfl, rfl, rfl, rfl⟩, rfl, rfl, rfl⟩ ?_
    rintro y2 W2 ⟨⟨t0, t1, t2, t3⟩, t8, t9, ho2, hg2⟩
    have hfin : Hid (SMj W0 W2 B X g o c n ((L1.set (j' + 1) (nth L1 j')).set j' (nth L1 (j' + 1)))) := ⟨ho2, grownBy_trans HGb.out hg2⟩
    clear ho2 hg2
    rw [fr53]
    simp only [t0, t1, t2, t3, t8, t9]
    clear t0 t1 t2 t3 t8 t9
    go_wp2_with fail
    refine ⟨rfl, rfl, ⟨j', _, by omega, ⟨rfl, rfl, rfl, rfl⟩, rfl, ?_, hfin.out, hst.out⟩, ?_⟩
    · show Value.int .i64 _ = Value.int .i64 _
      congr 1
      try omega
    · show (intOf (Value.int .i64 _)).toNat < _
      rw [Z9.out]
      simp [intOf]
      try omega
  | false =>
    rw [hb] at t34
    have hst := hid (hI1.stop (by
      rw [Bool.and_eq_false_iff, decide_eq_false_iff_not, decide_eq_false_iff_not] at hb
      rcases hb with h | h
      · exact .inl (by omega)
      · exact .inr (by omega)))
    have hM2 := hid (hM1.below hb1)
    simp only [t0, t1, t2, t3, t8, t9, t34]
    clear t0 t1 t2 t3 t8 t9 t34 hb hb1 ht hI1 hM1 hJ hlt z8 z9 hsl
    go_wp2_with fail
    exact q_fr (N := 53) HQ.out rfl ⟨_, ⟨rfl, rfl, rfl, rfl⟩, rfl, hM2.out, hst.out⟩
/-- sorted -/
structure SortedJ (W0 W : World) (B g o c n : Nat) (F : Nat → Nat) (L0 : List Nat) (e : Ending) : Prop where
  ex : ∃ L', OwnAt W B 3 (.slice (some ⟨g, o, none⟩) n c) n (vi L') ∧ L'.Perm L0 ∧ Desc (kf F) L'
  e : e = .returned (.tuple #[])
  gb : Gb g W0 W
set_option maxRecDepth 1000000 in
set_option maxHeartbeats 1000000 in
theorem ins_j (B X g o c n m jb nc : Nat) (F Y N : Nat → Nat) (L0 : List Nat) (W0 : World) (hO : SJ W0 B X g o c n m jb nc F Y N L0) :
    Calls Try.prog 42 #[.slice (some ⟨g, o, none⟩) n c, .int .i64 0, .int .i64 (n : Int), .func (.func 27) #[] #[.pointer (some ⟨X, 0, none⟩)]] W0 fun e w' => SortedJ W0 w' B g o c n F L0 e := by
  have hn1 := hO.n1
  have hn9 := hO.n9
  have HO := hid hO
  clear hO
  go_enter Try.func42, Try.ntmps42
  refine wp_seq_k (fun K1 hK1 => ?_)
  go_wp2_with fail
  refine hK1.out _ _ ?_
  refine wp_block ?_
  refine wp_loop_fr 53 (OutJ W0 B X g o c n F L0) (fun y' _ => n - (intOf (y' 8)).toNat) ⟨rfl, rfl, 1, L0, Nat.le_refl _, hn1, ⟨rfl, rfl, rfl, rfl⟩, rfl, ⟨HO.out.own, Gb.refl _ _⟩, ⟨List.Perm.refl _, ?_⟩⟩ ?_
  · cases L0 with
    | nil => exact List.Pairwise.nil
    | cons a t => exact List.pairwise_singleton _ _
  rintro z W ⟨i, L1, hi1, hi, ⟨s0, s1, s2, s3⟩, z8, hM1, hS1⟩
  have HM1 := hid hM1
  have HS1 := hid hS1
  clear hM1 hS1
  rw [fr53]
  simp only [s0, s1, s2, s3, z8]
  clear s0 s1 s2 s3 z8
  by_cases hlt : i < n
  · have hp := hid (put_j B X g o c n i m jb nc F Y N L0 L1 W0 W HO.out hlt HM1.out HS1.out)
    go_upto_block 1 with (fail)
    refine wp_block ?_
    refine Tri.use hp.out rfl ⟨⟨rfl, rfl, rfl, rfl⟩, rfl, rfl⟩ ?_
    rintro y2 W2 ⟨L2, ⟨t0, t1, t2, t3⟩, t8, hM2, hS2⟩
    have HM2 := hid hM2
    have HS2 := hid hS2
    clear hM2 hS2
    rw [fr53]
    simp only [t0, t1, t2, t3, t8]
    clear t0 t1 t2 t3 t8
    go_wp2_with fail
    refine ⟨rfl, rfl, ⟨i + 1, L2, by omega, by omega, ⟨rfl, rfl, rfl, rfl⟩, ?_, HM2.out, HS2.out⟩, ?_⟩
    · show Value.int .i64 _ = Value.int .i64 _
      go_num
    · show n - (intOf (Value.int .i64 _)).toNat < _
      simp [intOf]
      omega
  · obtain rfl : i = n := by omega
    go_wp2_with fail
    go_end0
    have h := HS1.out.ord
    rw [List.take_of_length_le (by rw [HS1.out.perm.length_eq, HO.out.len]; exact Nat.le_refl _)] at h
    exact ⟨⟨L1, HM1.out.own, HS1.out.perm, h⟩, rfl, HM1.out.gb⟩
set_option maxRecDepth 1000000 in
set_option maxHeartbeats 1000000 in
theorem stab_j (B X g o c n m jb nc : Nat) (F Y N : Nat → Nat) (L0 : List Nat) (W0 : World) (hO : SJ W0 B X g o c n m jb nc F Y N L0) :
    Calls Try.prog 39 #[.slice (some ⟨g, o, none⟩) n c, .int .i64 (n : Int), .func (.func 27) #[] #[.pointer (some ⟨X, 0, none⟩)]] W0 fun e w' => SortedJ W0 w' B g o c n F L0 e := by
  have hn9 := hO.n9
  have hi := ins_j B X g o c n m jb nc F Y N L0 W0 hO
  have d1 : decide ((20 : Int) ≤ (n : Int)) = false := decide_eq_false (by omega)
  have d2 : decide ((20 : Int) < (n : Int)) = false := decide_eq_false (by omega)
  have d3 : decide (20 ≤ n) = false := decide_eq_false (by omega)
  have d4 : decide (20 < n) = false := decide_eq_false (by omega)
  clear hO
  go_enter Try.func39, Try.ntmps39
  refine wp_seq_k (fun K0 hK0 => ?_)
  go_wp2_with fail
  refine hK0.out _ _ ?_
  refine wp_seq_k (fun K1 hK1 => ?_)
  go_wp2_with fail
  refine hK1.out _ _ ?_
  refine wp_seq_k (fun K2 hK2 => ?_)
  go_wp2_with fail
  refine wp_loop_rounds 1 ?_
  rw [rounds_succ]
  go_wp2_with fail
  refine hK2.out _ _ ?_
  refine wp_seq_k (fun K3 hK3 => ?_)
  go_wp2_with fail
  refine hi.mono ?_
  intro e W1 h
  obtain rfl := h.e
  have H := hid h
  clear h hi
  go_wp2_with fail
  refine hK3.out _ _ ?_
  go_wp2_with fail
  refine wp_loop_rounds 1 ?_
  rw [rounds_succ]
  go_wp2_with fail
  go_end0
  exact H.out
set_option maxRecDepth 1000000 in
set_option maxHeartbeats 1000000 in
theorem sort_j (B X g o c n m jb nc : Nat) (F Y N : Nat → Nat) (L0 : List Nat) (W0 : World) (hO : SJ W0 B X g o c n m jb nc F Y N L0) :
    Calls Try.prog 26 #[.slice (some ⟨g, o, none⟩) n c, .func (.func 27) #[] #[.pointer (some ⟨X, 0, none⟩)]] W0 fun e w' => SortedJ W0 w' B g o c n F L0 e := by
  have hn9 := hO.n9
  have hi := stab_j B X g o c n m jb nc F Y N L0 W0 hO
  clear hO
  go_enter Try.func26, Try.ntmps26
  go_wp2_with fail
  refine hi.mono ?_
  intro e W1 h
  obtain rfl := h.e
  have H := hid h
  clear h hi
  go_wp2_with fail
  go_end0
  exact H.out
end Go.Proofs.Ytfbchmihkndfaaa
/- PassesDue: room, plain: from differences to sums. -/
namespace Go.Proofs.Ytfbchmihkndfaaa
set_option linter.unusedVariables false
open Go.RowKit

/-- the windows: from, to, rate -/
structure Wins where
  n : Nat
  fr : Nat → Nat
  tt : Nat → Nat
  ra : Nat → Nat
/-- what the first k change at t -/
def Wins.df (V : Wins) : Nat → Nat → Int
  | 0, _ => 0
  | k + 1, t => V.df k t + (if t = V.fr k then (V.ra k : Int) else 0) - (if t = V.tt k then (V.ra k : Int) else 0)
/-- the rate of the first k at t -/
def Wins.rt (V : Wins) : Nat → Nat → Nat
  | 0, _ => 0
  | k + 1, t => V.rt k t + if V.fr k ≤ t ∧ t < V.tt k then V.ra k else 0
theorem Wins.rt_zero (V : Wins) : ∀ k, (∀ i, i < k → V.fr i ≤ V.tt i) → (V.rt k 0 : Int) = V.df k 0
  | 0, _ => rfl
  | k + 1, h => by
    have ih := V.rt_zero k (fun i hi => h i (by omega))
    have hk := h k (by omega)
    show ((V.rt k 0 + _ : Nat) : Int) = V.df k 0 + _ - _
    by_cases h1 : V.fr k = 0 <;> by_cases h2 : V.tt k = 0
    · rw [if_neg (by omega), if_pos h1.symm, if_pos h2.symm]; omega
    · rw [if_pos (by omega), if_pos h1.symm, if_neg (by omega)]; omega
    · omega
    · rw [if_neg (by omega), if_neg (by omega), if_neg (by omega)]; omega
theorem Wins.rt_succ (V : Wins) (t : Nat) : ∀ k, (∀ i, i < k → V.fr i ≤ V.tt i) → (V.rt k (t + 1) : Int) = V.rt k t + V.df k (t + 1)
  | 0, _ => rfl
  | k + 1, h => by
    have ih := V.rt_succ t k (fun i hi => h i (by omega))
    have hk := h k (by omega)
    show ((V.rt k (t + 1) + _ : Nat) : Int) = ((V.rt k t + _ : Nat) : Int) + (V.df k (t + 1) + _ - _)
    by_cases h1 : t + 1 = V.fr k <;> by_cases h2 : t + 1 = V.tt k
    · rw [if_neg (by omega), if_neg (by omega), if_pos h1, if_pos h2]; omega
    · rw [if_pos (by omega), if_neg (by omega), if_pos h1, if_neg h2]; omega
    · rw [if_neg (by omega), if_neg h1, if_pos h2]
      by_cases h3 : V.fr k ≤ t
      · rw [if_pos (by omega)]; omega
      · omega
    · rw [if_neg h1, if_neg h2]
      by_cases h3 : V.fr k ≤ t ∧ t < V.tt k
      · rw [if_pos h3, if_pos (by omega)]; omega
      · rw [if_neg h3, if_neg (by omega)]; omega
theorem Wins.df_bd (V : Wins) (h : ∀ i, i < V.n → V.ra i ≤ 1000) : ∀ k, k ≤ V.n → ∀ t, -(1000 * (k : Int)) ≤ V.df k t ∧ V.df k t ≤ 1000 * (k : Int)
  | 0, _, _ => ⟨Int.le_refl _, Int.le_refl _⟩
  | k + 1, hk, t => by
    have ih := V.df_bd h k (by omega) t
    have hr := h k (by omega)
    show _ ≤ V.df k t + _ - _ ∧ V.df k t + _ - _ ≤ _
    split <;> split <;> omega
theorem Wins.rt_bd (V : Wins) (h : ∀ i, i < V.n → V.ra i ≤ 1000) : ∀ k, k ≤ V.n → ∀ t, V.rt k t ≤ 1000 * k
  | 0, _, _ => Nat.le_refl _
  | k + 1, hk, t => by
    have ih := V.rt_bd h k (by omega) t
    have hr := h k (by omega)
    show V.rt k t + _ ≤ _
    split <;> omega
/-- a row of ticks -/
def Iv (W : World) (rb : Nat) (f : Nat → Int) : Prop := ∃ cs : Array Value, W.heap[rb]? = some (.cells cs 3) ∧ cs.size = 20001 ∧ ∀ t, t < 20001 → cs[t]? = some (.int .i64 (f t))
theorem Iv.cell {W : World} {rb : Nat} {f : Nat → Int} (h : Iv W rb f) (t : Nat) (ht : t < 20001) : W.cell? ⟨rb, t, none⟩ = some (.int .i64 (f t)) := by
  obtain ⟨cs, h1, _, h2⟩ := h
  rw [cell_of_row _ _ _ _ _ _ h1]
  exact h2 t ht
theorem Iv.set {W : World} {rb : Nat} {f : Nat → Int} (h : Iv W rb f) (k : Nat) (hk : k < 20001) (v : Int) : Iv (W.setCell ⟨rb, k, none⟩ (.int .i64 v)) rb (fun t => if t = k then v else f t) ∧ Gb rb W (W.setCell ⟨rb, k, none⟩ (.int .i64 v)) := by
  obtain ⟨cs, h1, hs, h2⟩ := h
  obtain ⟨h4, h5⟩ := set_row h1 k (.int .i64 v) rfl
  refine ⟨⟨_, h4, by simp [hs], fun t ht => ?_⟩, h5⟩
  rw [Array.getElem?_setIfInBounds]
  by_cases e : k = t
  · rw [if_pos e, if_pos (by omega)]
    simp [e]
  · rw [if_neg e, h2 t ht]
    simp [Ne.symm e]
theorem Iv.congr {W : World} {rb : Nat} {f g : Nat → Int} (h : Iv W rb f) (e : ∀ t, t < 20001 → f t = g t) : Iv W rb g := by
  obtain ⟨cs, h1, hs, h2⟩ := h
  exact ⟨cs, h1, hs, fun t ht => by rw [← e t ht]; exact h2 t ht⟩
theorem Iv.start (W : World) : Iv (W.alloc (.cells (madeCells #[.int .i64 0] (20001 * 1)) 3)) W.heap.size (fun _ => 0) := by
  refine ⟨_, heap_alloc_new W _, by simp [madeCells], fun t ht => ?_⟩
  simp [madeCells, Nat.mod_one, ht]
end Go.Proofs.Ytfbchmihkndfaaa
