/- PassesDue: the queue's methods: Less, Pop, Push. -/
import Derived.Test.YtfbchmihkndfaaaDue7
import Derived.Test.YtfbchmihkndfaaaDue11
namespace Go.Proofs.Ytfbchmihkndfaaa
set_option linter.unusedVariables false
open Go.RowKit

/-- who has to be gone first; of two alike the first one -/
def keyJ (Y : Nat → Nat) (x : Nat) : Nat := Y x * 1000 + x
theorem keyJ_lt (Y : Nat → Nat) {x z : Nat} (hx : x < 1000) (hz : z < 1000) : (keyJ Y x < keyJ Y z) ↔ (Y x < Y z ∨ (Y x = Y z ∧ x < z)) := by
  unfold keyJ
  rcases Nat.lt_trichotomy (Y x) (Y z) with h | h | h
  · have : Y x * 1000 + 1000 ≤ Y z * 1000 := by omega
    constructor
    · intro _; exact .inl h
    · intro _; omega
  · rw [h]
    constructor
    · intro _; exact .inr ⟨rfl, by omega⟩
    · intro _; omega
  · have : Y z * 1000 + 1000 ≤ Y x * 1000 := by omega
    constructor
    · intro _; omega
    · rintro (h1 | ⟨h1, _⟩) <;> omega
set_option maxRecDepth 1000000 in
theorem fr64 (y : Nat → Value) : fr 64 y = #[y 0, y 1, y 2, y 3, y 4, y 5, y 6, y 7, y 8, y 9, y 10, y 11, y 12, y 13, y 14, y 15, y 16, y 17, y 18, y 19, y 20, y 21, y 22, y 23, y 24, y 25, y 26, y 27, y 28, y 29, y 30, y 31, y 32, y 33, y 34, y 35, y 36, y 37, y 38, y 39, y 40, y 41, y 42, y 43, y 44, y 45, y 46, y 47, y 48, y 49, y 50, y 51, y 52, y 53, y 54, y 55, y 56, y 57, y 58, y 59, y 60, y 61, y 62, y 63] := rfl
set_option maxRecDepth 1000000 in
set_option maxHeartbeats 1000000 in
/-- the first half: which two -/
theorem less_1 {B QB jb n nc : Nat} {av : Value} {F Y rem : Nat → Nat} {a : List Nat} {W0 : World} (h : Qu W0 B QB jb n nc av F Y rem a) (i j : Nat) (hi : i < a.length) (hj : j < a.length) :
    Tri Try.prog 64 (pieceOf Try.f79 [1, 0]) (fun y w => y 0 = .pointer (some ⟨QB, 0, none⟩) ∧ y 1 = .int .i64 (i : Int) ∧ y 2 = .int .i64 (j : Int) ∧ w = W0)
      (fun _ _ y w => y 0 = .pointer (some ⟨QB, 0, none⟩) ∧ y 7 = .int .i64 (nth a i : Nat) ∧ y 8 = .int .i64 (nth a j : Nat) ∧ Below W0.heap.size W0 w) := by
  rintro Q y w ⟨s0, s1, s2, rfl⟩ hQ
  have HQ := hid hQ
  obtain ⟨g, o, c, rfl, hgB, hgl, _⟩ := h.own.at_ (by omega)
  have hd : Below w.heap.size w w.drew := (Below.refl _ w).drew
  have Hd := hid hd
  have e0 : ∀ w', Below w.heap.size w.drew w' → w'.cell? ⟨QB, 1, none⟩ = some (.slice (some ⟨g, o, none⟩) a.length c) := fun w' hw => by rw [cell_of_row _ _ _ _ _ _ (row_below h.box (hd.trans hw))]; rfl
  obtain ⟨_, ci, _⟩ := h.own.ati i hi
  obtain ⟨_, cj, _⟩ := h.own.ati j hj
  have e1 : ∀ w', Below w.heap.size w.drew w' → w'.cell? ⟨g, o + i, none⟩ = some (.int .i64 (nth a i : Nat)) := fun w' hw => ((hd.trans hw).cell (p := ⟨g, o + i, none⟩) hgl).trans ci
  have e2 : ∀ w', Below w.heap.size w.drew w' → w'.cell? ⟨g, o + j, none⟩ = some (.int .i64 (nth a j : Nat)) := fun w' hw => ((hd.trans hw).cell (p := ⟨g, o + j, none⟩) hgl).trans cj
  have hl100 := h.len
  obtain ⟨_, _, hfe, hf1, hf2⟩ := h.own.form
  cases hfe
  unfold maxLen at hf2
  generalize nth a i = x at *
  generalize nth a j = z at *
  clear hQ h ci cj hd
  conv => arg 2; whnf
  rw [fr64]
  simp only [s0, s1, s2]
  clear s0 s1 s2
  refine wp_region_can_all [] [0, 1, 2, 3, 4, 5, 6, 7, 8, 9, 10, 11, 12, 13, 14, 15] (Below w.heap.size) (fun _ => Below.refl _ _) (fun _ _ _ h k => h.trans k) (by kernel_rfl) (by kernel_rfl) ?_
  simp only [List.map_cons, List.map_nil, List.contains_nil, List.getD_cons_zero, List.getD_cons_succ]
  generalize w.drew = U at *
  iterate 16 (refine wpL_do rfl (fun w' hw' => (by go_simp; rfl)) ?_; simp only [Act.put, List.setIfInBounds_toArray, List.set_cons_succ, List.set_cons_zero])
  refine wpL_nil ?_
  exact q_fr (N := 64) HQ.out rfl ⟨rfl, rfl, rfl, Hd.out⟩
set_option maxRecDepth 1000000 in
set_option maxHeartbeats 2000000 in
/-- the second half: which is first -/
theorem less_2 {B QB jb n nc : Nat} {av : Value} {F Y rem : Nat → Nat} {a : List Nat} {W0 : World} (h : Qu W0 B QB jb n nc av F Y rem a) (x z : Nat) (hx : x < n) (hz : z < n) (hn : n ≤ 100) (hY : ∀ i, i < n → Y i ≤ 1000000) :
    Tri Try.prog 64 (pieceOf Try.f79 [1, 1, 0]) (fun y w => y 0 = .pointer (some ⟨QB, 0, none⟩) ∧ y 7 = .int .i64 (x : Int) ∧ y 8 = .int .i64 (z : Int) ∧ w = W0)
      (fun _ _ y w => y 6 = .bool (decide (keyJ Y x < keyJ Y z)) ∧ Below W0.heap.size W0 w) := by
  rintro Q y w ⟨s0, s7, s8, rfl⟩ hQ
  have HQ := hid hQ
  have hd : Below w.heap.size w w.drew := (Below.refl _ w).drew
  have Hd := hid hd
  have hjl : jb < w.heap.size := Nat.lt_of_lt_of_le h.jB h.bW
  have e0 : ∀ w', Below w.heap.size w.drew w' → w'.cell? ⟨QB, 0, none⟩ = some (.slice (some ⟨jb, 0, none⟩) n nc) := fun w' hw => by rw [cell_of_row _ _ _ _ _ _ (row_below h.box (hd.trans hw))]; rfl
  have e1 : ∀ w', Below w.heap.size w.drew w' → w'.cell? ⟨jb, x * 3 + 1, none⟩ = some (.int .i64 (Y x : Int)) := fun w' hw => ((hd.trans hw).cell (p := ⟨jb, x * 3 + 1, none⟩) hjl).trans (h.jobs.cell x hx).2.1
  have e2 : ∀ w', Below w.heap.size w.drew w' → w'.cell? ⟨jb, z * 3 + 1, none⟩ = some (.int .i64 (Y z : Int)) := fun w' hw => ((hd.trans hw).cell (p := ⟨jb, z * 3 + 1, none⟩) hjl).trans (h.jobs.cell z hz).2.1
  have hyx := hY x hx
  have hyz := hY z hz
  have hnle := h.le
  have hncm := h.mx
  unfold maxLen at hncm
  have hk := hid (keyJ_lt Y (x := x) (z := z) (by omega) (by omega))
  obtain ⟨kb, hkb⟩ : ∃ kb, decide (keyJ Y x < keyJ Y z) = kb := ⟨_, rfl⟩
  rw [hkb] at HQ
  have Hkb := hid hkb
  generalize Y x = yx at *
  generalize Y z = yz at *
  clear hQ h hd hY hkb
  conv => arg 2; whnf
  rw [fr64]
  simp only [s0, s7, s8]
  clear s0 s7 s8
  refine wp_region_can_all [] [0, 1, 2, 3, 4, 5, 6, 7, 8, 9, 10, 11, 12, 13, 14, 15, 16, 17, 18, 19, 20, 21, 22, 23, 24, 25, 26, 27, 28, 29, 30, 31, 32, 33, 34, 35, 36, 37, 38, 39, 40, 41] (Below w.heap.size) (fun _ => Below.refl _ _) (fun _ _ _ h k => h.trans k) (by kernel_rfl) (by kernel_rfl) ?_
  simp only [List.map_cons, List.map_nil, List.contains_nil, List.getD_cons_zero, List.getD_cons_succ]
  generalize w.drew = U at *
  rcases Nat.lt_trichotomy yx yz with hlt | heq | hgt
  · have d1 : decide ((yx : Int) < (yz : Int)) = true := decide_eq_true (by omega)
    have d2 : decide (yx < yz) = true := decide_eq_true hlt
    have hb : kb = true := by rw [← Hkb.out]; exact decide_eq_true (hk.out.2 (.inl hlt))
    subst hb
    clear Hkb hk hlt
    iterate 18 (refine wpL_do rfl (fun w' hw' => (by go_simp; rfl)) ?_; simp only [Act.put, List.setIfInBounds_toArray, List.set_cons_succ, List.set_cons_zero])
    iterate 22 ((with_reducible refine wpL_pass ?_ ?_); (· rfl); simp only [Act.put, List.setIfInBounds_toArray, List.set_cons_succ, List.set_cons_zero])
    iterate 2 (refine wpL_do rfl (fun w' hw' => (by go_simp; rfl)) ?_; simp only [Act.put, List.setIfInBounds_toArray, List.set_cons_succ, List.set_cons_zero])
    refine wpL_nil ?_
    exact q_fr (N := 64) HQ.out rfl ⟨rfl, Hd.out⟩
  · subst heq
    have d1 : decide ((yx : Int) < (yx : Int)) = false := decide_eq_false (by omega)
    have d3 : decide ((yx : Int) = (yx : Int)) = true := decide_eq_true rfl
    have hb : decide (x < z) = kb := by
      rw [← Hkb.out]
      exact decide_eq_decide.2 ⟨fun h => hk.out.2 (.inr ⟨rfl, h⟩), fun h => by
        rcases hk.out.1 h with h1 | h1
        · omega
        · exact h1.2⟩
    have hb2 : decide ((x : Int) < (z : Int)) = kb := by rw [← hb]; exact decide_eq_decide.2 (by omega)
    clear Hkb hk
    iterate 36 (refine wpL_do rfl (fun w' hw' => (by go_simp; rfl)) ?_; simp only [Act.put, List.setIfInBounds_toArray, List.set_cons_succ, List.set_cons_zero])
    iterate 6 (refine wpL_do rfl (fun w' hw' => (by go_simp; rfl)) ?_; simp only [Act.put, List.setIfInBounds_toArray, List.set_cons_succ, List.set_cons_zero])
    refine wpL_nil ?_
    exact q_fr (N := 64) HQ.out rfl ⟨rfl, Hd.out⟩
  · have d1 : decide ((yx : Int) < (yz : Int)) = false := decide_eq_false (by omega)
    have d2 : decide (yx < yz) = false := decide_eq_false (by omega)
    have d3 : decide ((yx : Int) = (yz : Int)) = false := decide_eq_false (by omega)
    have d4 : decide (yx = yz) = false := decide_eq_false (by omega)
    have d5 : ((yx : Int) == (yz : Int)) = false := by rw [beq_eq_false_iff_ne]; omega
    have d6 : (yx == yz) = false := by rw [beq_eq_false_iff_ne]; omega
    have hb : kb = false := by
      rw [← Hkb.out]
      refine decide_eq_false fun h => ?_
      rcases hk.out.1 h with h1 | h1 <;> omega
    subst hb
    clear Hkb hk hgt
    iterate 36 (refine wpL_do rfl (fun w' hw' => (by go_simp; rfl)) ?_; simp only [Act.put, List.setIfInBounds_toArray, List.set_cons_succ, List.set_cons_zero])
    iterate 3 ((with_reducible refine wpL_pass ?_ ?_); (· rfl); simp only [Act.put, List.setIfInBounds_toArray, List.set_cons_succ, List.set_cons_zero])
    iterate 3 (refine wpL_do rfl (fun w' hw' => (by go_simp; rfl)) ?_; simp only [Act.put, List.setIfInBounds_toArray, List.set_cons_succ, List.set_cons_zero])
    refine wpL_nil ?_
    exact q_fr (N := 64) HQ.out rfl ⟨rfl, Hd.out⟩
set_option maxRecDepth 1000000 in
set_option maxHeartbeats 1000000 in
theorem less_q {B QB jb n nc : Nat} {av : Value} {F Y rem : Nat → Nat} {a : List Nat} {w : World} (h : Qu w B QB jb n nc av F Y rem a) (i j : Nat) (hi : i < a.length) (hj : j < a.length) (hn : n ≤ 100) (hY : ∀ i, i < n → Y i ≤ 1000000) :
    Calls Try.prog 79 #[.pointer (some ⟨QB, 0, none⟩), .int .i64 (i : Int), .int .i64 (j : Int)] w fun e w' => e = .returned (.bool (decide (keyJ Y (nth a i) < keyJ Y (nth a j)))) ∧ Below w.heap.size w w' := by
  have H1 := hid (less_1 h i j hi hj)
  have H2 := hid (fun W (hb : Below w.heap.size w W) => less_2 (h.below hb) (nth a i) (nth a j) (h.nthlt i hi) (h.nthlt j hj) hn hY)
  clear h hY
  generalize decide (keyJ Y (nth a i) < keyJ Y (nth a j)) = kb at *
  go_enter Try.func79, Try.ntmps79
  refine wp_seq_k (fun K0 hK0 => ?_)
  go_wp2_with fail
  refine hK0.out _ _ ?_
  refine wp_seq_k (fun K1 hK1 => ?_)
  refine Tri.use H1.out rfl ⟨rfl, rfl, rfl, rfl⟩ ?_
  rintro y1 W1 ⟨s0, s7, s8, hb1⟩
  refine hK1.out _ _ ?_
  have Hb1 := hid hb1
  rw [fr64]
  simp only [s0, s7, s8]
  clear s0 s7 s8 hb1
  refine wp_seq_k (fun K2 hK2 => ?_)
  refine Tri.use (H2.out W1 Hb1.out) rfl ⟨rfl, rfl, rfl, rfl⟩ ?_
  rintro y2 W2 ⟨s6, hb2⟩
  refine hK2.out _ _ ?_
  have Hb2 := hid (Hb1.out.trans (hb2.mono Hb1.out.size))
  clear hb2
  rw [fr64]
  simp only [s6]
  clear s6
  go_wp2_with fail
  go_ret
  exact ⟨rfl, Hb2.out⟩
set_option maxRecDepth 1000000 in
set_option maxHeartbeats 1000000 in
theorem pop_q {B QB jb n nc : Nat} {av : Value} {F Y rem : Nat → Nat} {a : List Nat} {w : World} (h : Qu w B QB jb n nc av F Y rem a) (k : Nat) (hk : a.length = k + 1) :
    Calls Try.prog 80 #[.pointer (some ⟨QB, 0, none⟩)] w fun e w' => (∃ av', Qu w' B QB jb n nc av' F Y rem (a.take k)) ∧ e = .returned (.iface 3 (.int .i64 (nth a k : Nat))) ∧ Kp B [QB] w w' := by
  obtain ⟨g, o, c, rfl, hgB, hgl, _⟩ := h.own.at_ (by omega)
  have c1 : w.cell? ⟨QB, 1, none⟩ = some (.slice (some ⟨g, o, none⟩) a.length c) := by rw [cell_of_row _ _ _ _ _ _ h.box]; rfl
  obtain ⟨_, ck, _⟩ := h.own.ati k (by omega)
  have fz := frozen_row h.box
  obtain ⟨hs1, hs2⟩ := set_row h.box 1 (.slice (some ⟨g, o, none⟩) k c) rfl
  have Hg := hid hs2
  have Hr := hid hs1
  have ho := h.own.take k (by omega)
  have H := hid h
  have HO := hid ho
  obtain ⟨_, _, hfe, hf1, hf2⟩ := h.own.form
  cases hfe
  unfold maxLen at hf2
  have hkl : Hid ((a.take k).length = k) := by unfold Hid; rw [List.length_take]; omega
  rw [hk] at c1 hf1
  have hkk : ((k + 1 : Nat) : Int) - 1 = (k : Int) := by omega
  have hsub : (k : Int) + 1 - 1 = (k : Int) := by omega
  have hwr : IntKind.i64.wrap (k : Int) = (k : Int) := IntWalk.i64_in _ (by omega)
  obtain ⟨q, hq⟩ : ∃ q, k + 1 = q := ⟨_, rfl⟩
  rw [hq] at c1 hf1 hkk
  have hkq : k < q := by omega
  have hkq2 : k ≤ c := by omega
  have hk100 : k ≤ 100 := by have := h.len; omega
  generalize nth a k = x at *
  clear h ho hs1 hs2 hk hq hsub
  go_enter Try.func80, Try.ntmps80
  go_wp2_with fail
  go_ret
  have k1 : Kp B [QB] w (w.setCell ⟨QB, 1, none⟩ (.slice (some ⟨g, o, none⟩) k c)) := Kp.of_gb Hg.out H.out.bW (.inr (by simp))
  have hvt : (vi a).take k = vi (a.take k) := by unfold vi; rw [List.map_take]
  have hQB := H.out.qB
  refine ⟨⟨_, ⟨Hr.out, H.out.jobs.kept k1 H.out.jB (by have := H.out.ne; simpa using this), ?_, H.out.le, H.out.mx, fun x hx => H.out.lt x (List.mem_of_mem_take hx), H.out.qB, H.out.jB, Nat.le_trans H.out.bW k1.size, by rw [hkl.out]; exact hk100⟩⟩, rfl, k1⟩
  rw [hkl.out, ← hvt]
  exact HO.out.kept Hg.out (.inr (fun e => by simp only [Value.ownBlock, Option.some.injEq] at e; omega))
set_option maxRecDepth 1000000 in
set_option maxHeartbeats 1000000 in
theorem push_q {B QB jb n nc : Nat} {av : Value} {F Y rem : Nat → Nat} {a : List Nat} {w : World} (h : Qu w B QB jb n nc av F Y rem a) (x : Nat) (hx : x < n) (hl : a.length < 100) :
    Calls Try.prog 81 #[.pointer (some ⟨QB, 0, none⟩), .iface 3 (.int .i64 (x : Int))] w fun e w' => (∃ av', Qu w' B QB jb n nc av' F Y rem (a ++ [x])) ∧ e = .returned (.tuple #[]) ∧ Kp B [QB] w w' := by
  obtain ⟨oa, oc, rfl, hole, homx⟩ := h.own.form
  obtain ⟨i3, hi3, hz3, hs3, hb3⟩ := info_parts Try.info3
  have hd : Below w.heap.size w w.drew := (Below.refl _ w).drew
  have H2 := hid (h.below hd)
  have Hd := hid hd
  have e0 : ∀ w', Below B w.drew w' → w'.cell? ⟨QB, 1, none⟩ = some (.slice oa a.length oc) := fun w' hw => (hw.cell (p := ⟨QB, 1, none⟩) h.qB).trans (by rw [cell_of_row _ _ _ _ _ _ (row_below h.box hd)]; rfl)
  have HbW := hid h.bW
  clear h hd
  go_enter Try.func81, Try.ntmps81
  refine wp_region_late [11] [7, 8, 11] [(true, [0, 1, 2, 3, 4, 5, 6, 7, 8]), (false, [9, 10, 11])] (Below B) (fun _ _ => True) (fun _ => Below.refl _ _) (fun _ _ _ h k => h.trans k) (fun _ => trivial) (fun _ _ _ _ _ => trivial) (fun _ _ _ => trivial) (by kernel_rfl) (by kernel_rfl) ?_
  simp only [wpPh, List.map_cons, List.map_nil, List.contains_cons, List.contains_nil, List.getD_cons_zero, List.getD_cons_succ, Nat.reduceBEq, Bool.or_false, Bool.or_true]
  generalize w.drew = U at *
  iterate 7 (refine wpL_do rfl (fun w' hw' => (by go_simp; rfl)) ?_; simp only [Act.put, List.setIfInBounds_toArray, List.set_cons_succ, List.set_cons_zero])
  clear e0
  have b1 := below_alloc U (.cells #[.int .i64 (x : Int)] 3)
  have r1 := heap_alloc_new U (.cells #[.int .i64 (x : Int)] 3)
  have H3 := hid (H2.out.below b1)
  have B1 := hid b1
  refine wpL_call rfl (fun K hK => ?_)
  go_wp2_with fail
  refine hK _ _ (b1.mono H2.out.bW) ?_
  clear hK K b1
  try simp only [Act.put, List.setIfInBounds_toArray, List.set_cons_succ, List.set_cons_zero]
  refine wpL_call rfl (fun K hK => ?_)
  refine wp_append_at _ _ 23 rfl B 3 i3 (.int .i64 0) 8 Try.underlying23 hi3 hz3 hs3 hb3 rfl (.slice oa a.length oc) a.length (vi a) rfl H3.out.own ⟨U.heap.size, 0, none⟩ (.int .i64 (x : Int)) rfl (by rw [cell_of_row _ _ _ _ _ _ r1]; rfl) rfl (by unfold maxLen; omega) (by omega) H3.out.bW ?_
  intro v12 W12 o12 g12 _
  have hx2 : vi a ++ [.int .i64 (x : Int)] = vi (a ++ [x]) := by rw [vi_append]; rfl
  rw [hx2] at o12
  have k12 : Kp B [] (U.alloc (.cells #[.int .i64 (x : Int)] 3)) W12 := Kp.of_own g12 H3.out.bW (fun k hk => (H3.out.own.lt k hk).1)
  obtain ⟨oa2, oc2, hv12, _, _⟩ := o12.form
  subst hv12
  refine hK _ _ (k12.below (Nat.le_refl _) (by simp)) ?_
  have hbox : W12.heap[QB]? = some (.cells #[.slice (some ⟨jb, 0, none⟩) n nc, .slice oa a.length oc] 68) := k12.row H3.out.box H3.out.qB (by simp)
  have fz := frozen_row hbox
  have c1 : W12.cell? ⟨QB, 1, none⟩ = some (.slice oa a.length oc) := by rw [cell_of_row _ _ _ _ _ _ hbox]; rfl
  obtain ⟨hs1, hs2⟩ := set_row hbox 1 (.slice oa2 (a.length + 1) oc2) rfl
  have HJ := hid (H3.out.jobs.kept k12 H3.out.jB (by simp))
  have hQB := H3.out.qB
  have K0 := hid ((Kp.of_below (X := [QB]) Hd.out HbW.out).trans ((Kp.of_below B1.out H2.out.bW).trans (k12.mono (by simp))))
  have HbW12 := hid (Nat.le_trans H3.out.bW k12.size)
  have HS1 := hid hs1
  have HS2 := hid hs2
  have O12 := hid o12
  have H4 := H3
  clear hK K hs1 hs2 o12 g12 k12 r1 hbox hx2 H3 H2
  try simp only [Act.put, List.setIfInBounds_toArray, List.set_cons_succ, List.set_cons_zero]
  refine wpL_nil ?_
  iterate 2 (refine wpL_do rfl (fun w' hw' => (by go_simp; rfl)) ?_; simp only [Act.put, List.setIfInBounds_toArray, List.set_cons_succ, List.set_cons_zero])
  refine wpL_call rfl (fun K hK => ?_)
  go_wp2_with fail
  refine hK _ _ trivial ?_
  clear hK K
  try simp only [Act.put, List.setIfInBounds_toArray, List.set_cons_succ, List.set_cons_zero]
  refine wpL_nil ?_
  go_end0
  have k1 := Kp.of_gb (X := [QB]) HS2.out HbW12.out (.inr (by simp))
  refine ⟨⟨_, ⟨HS1.out, HJ.out.kept k1 H4.out.jB (by have := H4.out.ne; simpa using this), ?_, H4.out.le, H4.out.mx, fun z hz => ?_, hQB, H4.out.jB, Nat.le_trans HbW12.out k1.size, by rw [List.length_append]; simp; omega⟩⟩, rfl, K0.out.trans k1⟩
  · rw [List.length_append]
    exact O12.out.kept HS2.out (by
      rcases h : (Value.slice oa2 (a.length + 1) oc2).ownBlock with _ | k
      · exact .inl rfl
      · have := (O12.out.lt k h).1
        exact .inr (fun e => by cases e; omega))
  · rcases List.mem_append.1 hz with h1 | h1
    · exact H4.out.lt z h1
    · rw [List.mem_singleton] at h1; omega
end Go.Proofs.Ytfbchmihkndfaaa
/- PassesDue: container/heap over the queue: up. -/
namespace Go.Proofs.Ytfbchmihkndfaaa
set_option linter.unusedVariables false
open Go.RowKit

theorem fr23 (y : Nat → Value) : fr 23 y = #[y 0, y 1, y 2, y 3, y 4, y 5, y 6, y 7, y 8, y 9, y 10, y 11, y 12, y 13, y 14, y 15, y 16, y 17, y 18, y 19, y 20, y 21, y 22] := rfl
theorem fr48 (y : Nat → Value) : fr 48 y = #[y 0, y 1, y 2, y 3, y 4, y 5, y 6, y 7, y 8, y 9, y 10, y 11, y 12, y 13, y 14, y 15, y 16, y 17, y 18, y 19, y 20, y 21, y 22, y 23, y 24, y 25, y 26, y 27, y 28, y 29, y 30, y 31, y 32, y 33, y 34, y 35, y 36, y 37, y 38, y 39, y 40, y 41, y 42, y 43, y 44, y 45, y 46, y 47] := rfl
theorem m_len (v : Value) (w : World) : (method 226 65 v "Len").run Try.prog w = .ok (30, v) w := by kernel_rfl
theorem m_less (v : Value) (w : World) : (method 226 65 v "Less").run Try.prog w = .ok (79, v) w := by kernel_rfl
theorem m_swap (v : Value) (w : World) : (method 226 65 v "Swap").run Try.prog w = .ok (82, v) w := by kernel_rfl
theorem m_push (v : Value) (w : World) : (method 226 65 v "Push").run Try.prog w = .ok (81, v) w := by kernel_rfl
theorem m_pop (v : Value) (w : World) : (method 226 65 v "Pop").run Try.prog w = .ok (80, v) w := by kernel_rfl
/-- what stays the same while the heap is worked upon -/
structure HQ (W0 W : World) (B QB jb n nc : Nat) (av : Value) (F Y rem : Nat → Nat) (a0 A : List Nat) : Prop where
  qu : Qu W B QB jb n nc av F Y rem A
  perm : A.Perm a0
  kp : Kp B [] W0 W
def UpL (W0 : World) (B QB jb n nc : Nat) (av : Value) (F Y rem : Nat → Nat) (a0 : List Nat) (y : Nat → Value) (W : World) : Prop :=
  ∃ (j : Nat) (A : List Nat), y 0 = .iface 65 (.pointer (some ⟨QB, 0, none⟩)) ∧ y 1 = .int .i64 (j : Int) ∧ HQ W0 W B QB jb n nc av F Y rem a0 A ∧ UpI (keyJ Y) A a0.length j
set_option maxRecDepth 1000000 in
set_option maxHeartbeats 1000000 in
theorem up_ok {B QB jb n nc : Nat} {av : Value} {F Y rem : Nat → Nat} {a0 : List Nat} {W0 : World} (h : Qu W0 B QB jb n nc av F Y rem a0) (j0 : Nat) (hU : UpI (keyJ Y) a0 a0.length j0) (hn : n ≤ 100) (hY : ∀ i, i < n → Y i ≤ 1000000) :
    Calls Try.prog 40 #[.iface 65 (.pointer (some ⟨QB, 0, none⟩)), .int .i64 (j0 : Int)] W0 fun e w' => (∃ A, HQ W0 w' B QB jb n nc av F Y rem a0 A ∧ Hp (keyJ Y) A a0.length) ∧ e = .returned (.tuple #[]) := by
  have H := hid h
  have HU := hid hU
  have HY := hid hY
  clear h hU hY
  go_enter Try.func40, Try.ntmps40
  refine wp_block ?_
  refine wp_loop_fr 23 (UpL W0 B QB jb n nc av F Y rem a0) (fun y' _ => (intOf (y' 1)).toNat) ⟨rfl, rfl, j0, a0, rfl, rfl, ⟨H.out, List.Perm.refl _, Kp.refl _ _ _⟩, HU.out⟩ ?_
  clear H HU
  rintro z W ⟨j, A, s0, s1, hq, hu⟩
  have hql := hq.qu.len
  have hAl := hq.perm.length_eq
  have hjl := hu.lt
  have Z1 := hid s1
  rw [fr23]
  simp only [s0, s1]
  clear s0 s1
  rcases Nat.eq_zero_or_pos j with rfl | hj0
  · have hend : Hid (∃ A, HQ W0 W B QB jb n nc av F Y rem a0 A ∧ Hp (keyJ Y) A a0.length) := ⟨A, hq, hu.stop (.inl rfl)⟩
    have hq0 : (-1 : Int).tdiv 2 = 0 := by decide
    clear hq hu Z1 HY
    go_wp2_with fail
    go_end0
    exact ⟨hend.out, rfl⟩
  · have hless := less_q hq.qu j ((j - 1) / 2) (by omega) (by omega) hn HY.out
    have hswap := hid (fun W2 (hb : Below W.heap.size W W2) => swap_q (hq.qu.below hb) ((j - 1) / 2) j (by omega) (by omega))
    have hup := hid (fun hlt => hu.step (by omega) hj0 hlt)
    have hst := hid (fun hlt => hu.stop (.inr hlt))
    have hperm := hid (swp_perm A ((j - 1) / 2) j (by omega) (by omega))
    have hpj : (j - 1) / 2 < j := by omega
    have HQ0 := hid hq
    obtain ⟨p, hp⟩ : ∃ p, p = (j - 1) / 2 := ⟨_, rfl⟩
    rw [← hp] at hless hswap hup hst hperm hpj
    have e1 : ((j : Int) - 1).tdiv 2 = (p : Int) := by
      rw [Int.tdiv_eq_ediv_of_nonneg (by omega)]; omega
    have w0 : IntKind.i64.wrap ((j : Int) - 1) = (j : Int) - 1 := IntWalk.i64_in _ (by omega)
    have w1 : IntKind.i64.wrap (p : Int) = (p : Int) := IntWalk.i64_in _ (by omega)
    have d1 : ((p : Int) == (j : Int)) = false := by rw [beq_eq_false_iff_ne]; omega
    have d2 : (p == j) = false := by rw [beq_eq_false_iff_ne]; omega
    have mL := m_less
    have mS := m_swap
    obtain ⟨kb, hkb⟩ : ∃ kb, decide (keyJ Y (nth A j) < keyJ Y (nth A p)) = kb := ⟨_, rfl⟩
    rw [hkb] at hless
    clear hq hu hp HY
    cases kb with
    | true =>
      have hup2 := hid (hup.out (of_decide_eq_true hkb))
      clear hup hst hkb
      go_wp2_with fail
      refine hless.mono ?_
      rintro e W2 ⟨rfl, hb2⟩
      have hsw2 := hswap.out W2 hb2
      have K2 := hid (HQ0.out.kp.trans (Kp.of_below hb2 HQ0.out.qu.bW))
      clear hb2 hless
      go_wp2_with fail
      refine hsw2.mono ?_
      rintro e W3 ⟨rfl, hq3, hk3⟩
      have Q3 := hid hq3
      have K3 := hid (K2.out.trans hk3)
      clear hq3 hk3 hsw2
      go_wp2_with fail
      refine ⟨rfl, rfl, ⟨p, _, rfl, rfl, ⟨Q3.out, hperm.out.trans HQ0.out.perm, K3.out⟩, hup2.out⟩, ?_⟩
      show (intOf (Value.int .i64 (p : Int))).toNat < (intOf (Value.int .i64 (j : Int))).toNat
      simp only [intOf]
      omega
    | false =>
      have hst2 := hid (hst.out (by have := of_decide_eq_false hkb; omega))
      clear hup hst hkb
      go_wp2_with fail
      refine hless.mono ?_
      rintro e W2 ⟨rfl, hb2⟩
      have K2 := hid (HQ0.out.kp.trans (Kp.of_below hb2 HQ0.out.qu.bW))
      have Q2 := hid (HQ0.out.qu.below hb2)
      clear hb2 hless
      go_wp2_with fail
      go_end0
      exact ⟨⟨A, ⟨Q2.out, HQ0.out.perm, K2.out⟩, hst2.out⟩, rfl⟩
end Go.Proofs.Ytfbchmihkndfaaa
/- PassesDue: container/heap over the queue: down. -/
namespace Go.Proofs.Ytfbchmihkndfaaa
set_option linter.unusedVariables false
open Go.RowKit

structure SD (y : Nat → Value) (QB m i : Nat) : Prop where
  s0 : y 0 = .iface 65 (.pointer (some ⟨QB, 0, none⟩))
  s1 : y 1 = .int .i64 0
  s2 : y 2 = .int .i64 (m : Int)
  s6 : y 6 = .bool false
  s7 : y 7 = .int .i64 (i : Int)
set_option maxRecDepth 1000000 in
set_option maxHeartbeats 1000000 in
/-- the child that is first -/
theorem child_ok {B QB jb n nc : Nat} {av : Value} {F Y rem : Nat → Nat} {A : List Nat} {W0 : World} (h : Qu W0 B QB jb n nc av F Y rem A) (m i : Nat) (hm : m ≤ A.length) (hi : 2 * i + 1 < m) (hn : n ≤ 100) (hY : ∀ i, i < n → Y i ≤ 1000000) :
    Tri Try.prog 48 (pieceOf Try.f41 [1, 1, 0, 0, 0, 0, 1, 1, 1, 0]) (fun y w => SD y QB m i ∧ y 8 = .int .i64 ((2 * i + 1 : Nat) : Int) ∧ y 9 = .int .i64 ((2 * i + 1 : Nat) : Int) ∧ w = W0)
      (fun _ _ y w => ∃ j, SD y QB m i ∧ y 9 = .int .i64 ((j : Nat) : Int) ∧ 0 < j ∧ j < m ∧ (j - 1) / 2 = i ∧ (∀ c, 0 < c → c < m → (c - 1) / 2 = i → keyJ Y (nth A j) ≤ keyJ Y (nth A c)) ∧ Below W0.heap.size W0 w) := by
  rintro Q y w ⟨⟨s0, s1, s2, s6, s7⟩, s8, s9, rfl⟩ hQ
  have HQ := hid hQ
  have hAl := h.len
  have mL := m_less
  obtain ⟨p, hp⟩ : ∃ p, p = 2 * i + 1 := ⟨_, rfl⟩
  rw [← hp] at s8 s9 hi
  by_cases h2 : p + 1 < m
  · have hless := less_q h (p + 1) p (by omega) (by omega) hn hY
    obtain ⟨q, hq⟩ : ∃ q, q = p + 1 := ⟨_, rfl⟩
    rw [← hq] at hless h2
    have Hpq := hid (And.intro hp hq)
    have hpq1 : (p : Int) + 1 = (q : Int) := by omega
    have w1 : IntKind.i64.wrap (q : Int) = (q : Int) := IntWalk.i64_in _ (by omega)
    have d1 : decide ((q : Int) < (m : Int)) = true := decide_eq_true (by omega)
    have d2 : decide (q < m) = true := decide_eq_true h2
    have hE1 : Hid (keyJ Y (nth A q) < keyJ Y (nth A p) → ∀ c, 0 < c → c < m → (c - 1) / 2 = i → keyJ Y (nth A q) ≤ keyJ Y (nth A c)) := fun hl c c1 c2 c3 => by
      rcases (show c = p ∨ c = q by omega) with rfl | rfl
      · omega
      · exact Nat.le_refl _
    have hE2 : Hid (¬ keyJ Y (nth A q) < keyJ Y (nth A p) → ∀ c, 0 < c → c < m → (c - 1) / 2 = i → keyJ Y (nth A p) ≤ keyJ Y (nth A c)) := fun hl c c1 c2 c3 => by
      rcases (show c = p ∨ c = q by omega) with rfl | rfl
      · exact Nat.le_refl _
      · omega
    obtain ⟨kb, hkb⟩ : ∃ kb, decide (keyJ Y (nth A q) < keyJ Y (nth A p)) = kb := ⟨_, rfl⟩
    rw [hkb] at hless
    clear hQ h hY hp hq
    conv => arg 2; whnf
    rw [fr48]
    simp only [s0, s1, s2, s6, s7, s8, s9]
    clear s0 s1 s2 s6 s7 s8 s9
    cases kb with
    | true =>
      have hE := hid (hE1.out (of_decide_eq_true hkb))
      clear hE1 hE2 hkb
      go_wp2_with fail
      refine hless.mono ?_
      rintro e W2 ⟨rfl, hb2⟩
      have Hb2 := hid hb2
      clear hb2 hless
      go_wp2_with fail
      exact q_fr (N := 48) HQ.out rfl ⟨q, ⟨rfl, rfl, rfl, rfl, rfl⟩, rfl, by have := Hpq.out; omega, h2, by have := Hpq.out; omega, hE.out, Hb2.out⟩
    | false =>
      have hE := hid (hE2.out (of_decide_eq_false hkb))
      clear hE1 hE2 hkb
      go_wp2_with fail
      refine hless.mono ?_
      rintro e W2 ⟨rfl, hb2⟩
      have Hb2 := hid hb2
      clear hb2 hless
      go_wp2_with fail
      exact q_fr (N := 48) HQ.out rfl ⟨p, ⟨rfl, rfl, rfl, rfl, rfl⟩, rfl, by have := Hpq.out; omega, hi, by have := Hpq.out; omega, hE.out, Hb2.out⟩
  · have hE : Hid (∀ c, 0 < c → c < m → (c - 1) / 2 = i → keyJ Y (nth A p) ≤ keyJ Y (nth A c)) := fun c c1 c2 c3 => by
      obtain rfl : c = p := by omega
      exact Nat.le_refl _
    obtain ⟨q, hq⟩ : ∃ q, q = p + 1 := ⟨_, rfl⟩
    rw [← hq] at h2
    have Hpq := hid (And.intro hp hq)
    have hpq1 : (p : Int) + 1 = (q : Int) := by omega
    have w1 : IntKind.i64.wrap (q : Int) = (q : Int) := IntWalk.i64_in _ (by omega)
    have d1 : decide ((q : Int) < (m : Int)) = false := decide_eq_false (by omega)
    have d2 : decide (q < m) = false := decide_eq_false h2
    clear hQ h hY hp hq
    conv => arg 2; whnf
    rw [fr48]
    simp only [s0, s1, s2, s6, s7, s8, s9]
    clear s0 s1 s2 s6 s7 s8 s9
    go_wp2_with fail
    exact q_fr (N := 48) HQ.out rfl ⟨p, ⟨rfl, rfl, rfl, rfl, rfl⟩, rfl, by have := Hpq.out; omega, hi, by have := Hpq.out; omega, hE.out, Below.refl _ _⟩
def DnL (W0 : World) (B QB jb n nc : Nat) (av : Value) (F Y rem : Nat → Nat) (a0 : List Nat) (m : Nat) (y : Nat → Value) (W : World) : Prop :=
  ∃ (i : Nat) (A : List Nat), SD y QB m i ∧ HQ W0 W B QB jb n nc av F Y rem a0 A ∧ DnI (keyJ Y) A m i ∧ nth A m = nth a0 m ∧ i ≤ m
set_option maxRecDepth 1000000 in
set_option maxHeartbeats 2000000 in
theorem down_ok {B QB jb n nc : Nat} {av : Value} {F Y rem : Nat → Nat} {a0 : List Nat} {W0 : World} (h : Qu W0 B QB jb n nc av F Y rem a0) (m : Nat) (hm : a0.length = m + 1) (hD : DnI (keyJ Y) a0 m 0) (hn : n ≤ 100) (hY : ∀ i, i < n → Y i ≤ 1000000) :
    Calls Try.prog 41 #[.iface 65 (.pointer (some ⟨QB, 0, none⟩)), .int .i64 0, .int .i64 (m : Int)] W0 fun e w' => ∃ A b, (HQ W0 w' B QB jb n nc av F Y rem a0 A ∧ Hp (keyJ Y) A m ∧ nth A m = nth a0 m) ∧ e = .returned (.bool b) := by
  have H := hid h
  have HD := hid hD
  have HY := hid hY
  have Hm := hid hm
  have hm100 : m < 100 := by have := h.len; omega
  clear h hD hY hm
  go_enter Try.func41, Try.ntmps41
  refine wp_seq_k (fun K0 hK0 => ?_)
  go_wp2_with fail
  refine hK0.out _ _ ?_
  refine wp_seq_k (fun K1 hK1 => ?_)
  go_wp2_with fail
  refine hK1.out _ _ ?_
  refine wp_seq_k (fun K2 hK2 => ?_)
  refine wp_block ?_
  refine wp_loop_fr 48 (DnL W0 B QB jb n nc av F Y rem a0 m) (fun y' _ => 100 - (intOf (y' 7)).toNat) ⟨rfl, rfl, 0, a0, ⟨rfl, rfl, rfl, rfl, rfl⟩, ⟨H.out, List.Perm.refl _, Kp.refl _ _ _⟩, HD.out, rfl, Nat.zero_le _⟩ ?_
  clear H HD
  rintro z W ⟨i, A, ⟨s0, s1, s2, s6, s7⟩, hq, hd, hlast, him⟩
  have hAl : A.length = m + 1 := by rw [hq.perm.length_eq, Hm.out]
  rw [fr48]
  simp only [s0, s1, s2, s6, s7]
  clear s0 s1 s2 s6 s7
  have e1 : (2 : Int) * (i : Int) + 1 = ((2 * i + 1 : Nat) : Int) := by omega
  have w0 : IntKind.i64.wrap (2 * (i : Int)) = 2 * (i : Int) := IntWalk.i64_in _ (by omega)
  have w1 : IntKind.i64.wrap ((2 * i + 1 : Nat) : Int) = ((2 * i + 1 : Nat) : Int) := IntWalk.i64_in _ (by omega)
  have hch := hid (fun h2 => child_ok hq.qu m i (by omega) h2 hn HY.out)
  have hleaf := hid (fun h2 => hd.leaf (by have : m ≤ 2 * i + 1 := h2; omega))
  obtain ⟨p, hp⟩ : ∃ p, p = 2 * i + 1 := ⟨_, rfl⟩
  rw [← hp] at e1 w1 hch hleaf
  by_cases h2 : p < m
  · have d1 : decide ((m : Int) ≤ (p : Int)) = false := decide_eq_false (by omega)
    have d2 : decide (m ≤ p) = false := decide_eq_false (by omega)
    have d3 : decide ((p : Int) < 0) = false := decide_eq_false (by omega)
    have hc := hid (hch.out h2)
    have Hq := hid hq
    have Hd := hid hd
    have HY2 := HY
    clear hch hleaf hq hd hp
    go_upto_block 1 with (fail)
    refine wp_block ?_
    refine wp_seq_k (fun K3 hK3 => ?_)
    go_wp2_with fail
    refine hK3.out _ _ ?_
    refine wp_seq_k (fun K4 hK4 => ?_)
    go_wp2_with fail
    refine hK4.out _ _ ?_
    refine wp_seq_k (fun K5 hK5 => ?_)
    go_wp2_with fail
    refine hK5.out _ _ ?_
    refine wp_seq_k (fun K6 hK6 => ?_)
    refine Tri.use hc.out rfl ⟨⟨rfl, rfl, rfl, rfl, rfl⟩, rfl, rfl, rfl⟩ ?_
    rintro y1 W1 ⟨j, ⟨s0, s1, s2, s6, s7⟩, s9, hj0, hjm, hji, hmin, hb1⟩
    refine hK6.out _ _ ?_
    have hij : i < j := by omega
    have hq1 := Hq.out.qu.below hb1
    have hless := less_q hq1 j i (by omega) (by omega) hn HY2.out
    have hswap := hid (fun W2 (hb : Below W1.heap.size W1 W2) => swap_q (hq1.below hb) i j (by omega) (by omega))
    have hstep := hid (fun hlt => Hd.out.step (by omega) hj0 hjm hji hlt hmin)
    have hstop := hid (fun (hlt : keyJ Y (nth A i) ≤ keyJ Y (nth A j)) => Hd.out.stop (fun c c1 c2 c3 => Nat.le_trans hlt (hmin c c1 c2 c3)))
    have hperm := hid ((swp_perm A i j (by omega) (by omega)).trans Hq.out.perm)
    have hlast2 : Hid (nth (swp A i j) m = nth a0 m) := by
      unfold Hid
      rw [swp_nth A i j m (by omega) (by omega), if_neg (by omega), if_neg (by omega)]
      exact hlast
    have K1' := hid (Hq.out.kp.trans (Kp.of_below hb1 Hq.out.qu.bW))
    have Q1 := hid hq1
    have Hlast := hid hlast
    have mL := m_less
    have mS := m_swap
    rw [fr48]
    simp only [s0, s1, s2, s6, s7, s9]
    clear s0 s1 s2 s6 s7 s9 hb1 hq1 hmin hlast
    obtain ⟨kb, hkb⟩ : ∃ kb, decide (keyJ Y (nth A j) < keyJ Y (nth A i)) = kb := ⟨_, rfl⟩
    rw [hkb] at hless
    cases kb with
    | true =>
      have hst := hid (hstep.out (of_decide_eq_true hkb))
      clear hstep hstop hkb
      go_wp2_with fail
      refine hless.mono ?_
      rintro e W2 ⟨rfl, hb2⟩
      have hsw2 := hswap.out W2 hb2
      have K2' := hid (K1'.out.trans (Kp.of_below hb2 Q1.out.bW))
      clear hb2 hless
      go_wp2_with fail
      refine hsw2.mono ?_
      rintro e W3 ⟨rfl, hq3, hk3⟩
      have Q3 := hid hq3
      have K3' := hid (K2'.out.trans hk3)
      clear hq3 hk3 hsw2
      go_wp2_with fail
      refine ⟨rfl, rfl, ⟨j, _, ⟨rfl, rfl, rfl, rfl, rfl⟩, ⟨Q3.out, hperm.out, K3'.out⟩, hst.out, hlast2.out, by omega⟩, ?_⟩
      show 100 - (intOf (Value.int .i64 (j : Int))).toNat < 100 - (intOf (Value.int .i64 (i : Int))).toNat
      simp only [intOf]
      omega
    | false =>
      have hst := hid (hstop.out (by have := of_decide_eq_false hkb; omega))
      clear hstep hstop hkb
      go_wp2_with fail
      refine hless.mono ?_
      rintro e W2 ⟨rfl, hb2⟩
      have K2' := hid (K1'.out.trans (Kp.of_below hb2 Q1.out.bW))
      have Q2 := hid (Q1.out.below hb2)
      clear hb2 hless
      go_wp2_with fail
      refine hK2.out _ _ ?_
      go_wp2_with fail
      go_ret
      exact ⟨A, _, ⟨⟨Q2.out, Hq.out.perm, K2'.out⟩, hst.out, Hlast.out⟩, rfl⟩
  · have d1 : decide ((m : Int) ≤ (p : Int)) = true := decide_eq_true (by omega)
    have d2 : decide (m ≤ p) = true := decide_eq_true (by omega)
    have hL := hid (hleaf.out (by omega))
    have Hq := hid hq
    clear hch hleaf hq hd hp
    go_wp2_with fail
    refine hK2.out _ _ ?_
    go_wp2_with fail
    go_ret
    exact ⟨A, _, ⟨Hq.out, hL.out, hlast⟩, rfl⟩
end Go.Proofs.Ytfbchmihkndfaaa
