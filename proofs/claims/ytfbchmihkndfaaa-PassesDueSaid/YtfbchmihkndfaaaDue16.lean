/- PassesDue: Clone of jobs. -/
import Derived.Test.YtfbchmihkndfaaaDue15
import Derived.Test.YtfbchmihkndfaaaDue13
import Derived.Test.YtfbchmihkndfaaaDue1
import Derived.Test.YtfbchmihkndfaaaDue12
namespace Go.Proofs.Ytfbchmihkndfaaa
set_option linter.unusedVariables false
open Go.RowKit

theorem Try.info32 : (Try.prog.info? 32).map (fun i => (i.zero, i.size, i.bytes)) = some (some (.agg #[.int .i64 0, .int .i64 0, .int .i64 0]), 3, 24) := by kernel_rfl
/-- the cells of jobs -/
def jcell (F Y N : Nat → Nat) (j : Nat) : Value := if j % 3 = 0 then .int .i64 (F (j / 3) : Int) else if j % 3 = 1 then .int .i64 (Y (j / 3) : Int) else .int .i64 (N (j / 3) : Int)
def jcs (F Y N : Nat → Nat) (m : Nat) : List Value := (List.range (m * 3)).map (jcell F Y N)
theorem jcs_len (F Y N : Nat → Nat) (m : Nat) : (jcs F Y N m).length = m * 3 := by simp [jcs]
theorem jcs_one (F Y N : Nat → Nat) (m : Nat) : ∀ u ∈ jcs F Y N m, u.oneCell' = true := by
  intro u hu
  obtain ⟨j, _, rfl⟩ := List.mem_map.1 hu
  unfold jcell
  split
  · rfl
  · split <;> rfl
theorem jcs_get (F Y N : Nat → Nat) (m i : Nat) (hi : i < m) : (jcs F Y N m)[i * 3]? = some (.int .i64 (F i : Int)) ∧ (jcs F Y N m)[i * 3 + 1]? = some (.int .i64 (Y i : Int)) ∧ (jcs F Y N m)[i * 3 + 2]? = some (.int .i64 (N i : Int)) := by
  unfold jcs
  refine ⟨?_, ?_, ?_⟩
  · rw [List.getElem?_map, List.getElem?_range (by omega)]
    show some (jcell F Y N (i * 3)) = _
    unfold jcell
    rw [if_pos (by omega), show i * 3 / 3 = i by omega]
  · rw [List.getElem?_map, List.getElem?_range (by omega)]
    show some (jcell F Y N (i * 3 + 1)) = _
    unfold jcell
    rw [if_neg (by omega), if_pos (by omega), show (i * 3 + 1) / 3 = i by omega]
  · rw [List.getElem?_map, List.getElem?_range (by omega)]
    show some (jcell F Y N (i * 3 + 2)) = _
    unfold jcell
    rw [if_neg (by omega), if_neg (by omega), show (i * 3 + 2) / 3 = i by omega]
theorem JbAt.jc_at {W : World} {jb m : Nat} {F Y N : Nat → Nat} (h : JbAt W jb m F Y N) (j : Nat) (u : Value) (hj : (jcs F Y N m)[j]? = some u) : W.cell? ⟨jb, j, none⟩ = some u := by
  have hl := (List.getElem?_eq_some_iff.1 hj).1
  rw [jcs_len] at hl
  obtain ⟨c0, c1, c2⟩ := h.cell (j / 3) (by omega)
  obtain ⟨g0, g1, g2⟩ := jcs_get F Y N m (j / 3) (by omega)
  have h3 : j % 3 = 0 ∨ j % 3 = 1 ∨ j % 3 = 2 := by omega
  rcases h3 with h3 | h3 | h3
  · have e : j = j / 3 * 3 := by omega
    rw [e] at hj ⊢
    rw [c0, ← hj]; exact g0.symm
  · have e : j = j / 3 * 3 + 1 := by omega
    rw [e] at hj ⊢
    rw [c1, ← hj]; exact g1.symm
  · have e : j = j / 3 * 3 + 2 := by omega
    rw [e] at hj ⊢
    rw [c2, ← hj]; exact g2.symm
theorem JbAt.of_own {W : World} {B g c m : Nat} {F Y N : Nat → Nat} (h : W.ownsRow B 32 3 (.slice (some ⟨g, 0, none⟩) m c) m (jcs F Y N m)) : B ≤ g ∧ g < W.heap.size ∧ m ≤ c ∧ c ≤ maxLen ∧ JbAt W g m F Y N := by
  rcases h.2 with ⟨h3, h0⟩ | ⟨g1, cap1, cur, h3, h4, h5, h6, h7, _⟩
  · cases h3
  · cases h3
    refine ⟨h4, row_lt h5, h6, h7, cur, h5, fun i hi => ?_⟩
    obtain ⟨g0, g1, g2⟩ := jcs_get F Y N m i hi
    have hc : ∀ j, j < m * 3 → cur[j]? = (jcs F Y N m)[j]? := fun j hj => by
      have := h.cellAt j hj
      rwa [cell_of_row _ _ _ _ _ _ h5] at this
    exact ⟨(hc _ (by omega)).trans g0, (hc _ (by omega)).trans g1, (hc _ (by omega)).trans g2⟩
structure ClnR (W0 W : World) (m : Nat) (F Y N : Nat → Nat) (e : Ending) : Prop where
  ex : ∃ g c, e = .returned (.slice (some ⟨g, 0, none⟩) m c) ∧ W0.heap.size ≤ g ∧ g < W.heap.size ∧ m ≤ c ∧ c ≤ maxLen ∧ JbAt W g m F Y N
  blw : Below W0.heap.size W0 W
set_option maxRecDepth 100000 in
theorem clone_j {jb m nc : Nat} {F Y N : Nat → Nat} {w : World} (h : JbAt w jb m F Y N) (h1 : 1 ≤ m) (h9 : m ≤ 9) :
    Calls Try.prog 25 #[.slice (some ⟨jb, 0, none⟩) m nc] w fun e w' => ClnR w w' m F Y N e := by
  obtain ⟨i0, hi, hz0, hz1, hz2⟩ := info_parts Try.info32
  have hk := fun (w : World) => Lib.run_eql_slice_nil (P := Try.prog) w 30 32 (some ⟨jb, 0, none⟩) m nc 0 0 Try.underlying30
  have hn0 : (w.alloc (.cells #[] 32)).ownsRow w.heap.size 32 3 (.slice (some ⟨w.heap.size, 0, none⟩) 0 0) 0 [] := World.ownsRow_lit (base := w.heap.size) (e := 32) (size := 3) w #[] 0 (Nat.le_refl _) (Nat.zero_le _) rfl
  have h2 := h.below (below_alloc w (.cells #[] 32))
  have hlen := jcs_len F Y N m
  have hone := jcs_one F Y N m
  have hcells : ∀ (j : Nat) (u : Value), (jcs F Y N m)[j]? = some u → (w.alloc (.cells #[] 32)).cell? ((⟨jb, 0, none⟩ : Addr).add j) = some u := by
    intro j u hj
    rw [Addr.add_lit, Nat.zero_add]
    exact h2.jc_at j u hj
  have HO := hid (fun (W : World) (g c : Nat) (h : W.ownsRow w.heap.size 32 3 (.slice (some ⟨g, 0, none⟩) m c) m (jcs F Y N m)) => JbAt.of_own h)
  generalize jcs F Y N m = xs at *
  clear h h2
  go_enter Try.func25, Try.ntmps25
  go_wp2_with (at_builtin; refine wpList_append_own _ rfl _ _ 30 rfl w.heap.size 32 i0 _ 3 24 Try.underlying30 hi hz0 hz1 hz2 rfl (by decide) _ 0 [] rfl hn0 ⟨jb, 0, none⟩ m nc xs rfl ?c1 hcells hone ?c2 ?c3 ?c4 ?_)
  case c1 => exact hlen
  case c2 => unfold maxLen; omega
  case c3 => omega
  case c4 => simp
  intro v' w1 hown' hg hnil
  skip
  obtain ⟨ao, c, rfl, hc1, hc2, hc3⟩ := own_form hown'
  rcases hc3 with ⟨rfl, h0, h1⟩ | ⟨g, rfl, hg1, hg2⟩
  · exfalso
    omega
  have HG := hid (((Below.refl w.heap.size w).alloc (Nat.le_refl _) (.cells #[] 32)).grown hg (by simp) (fun k e => by cases e; exact Nat.le_refl _))
  have HOw := hid (HO.out _ _ _ hown')
  clear hown' hg hnil HO
  go_wp2
  go_ret
  obtain ⟨k1, k2, k3, k4, k5⟩ := HOw.out
  exact ⟨⟨g, c, rfl, k1, k2, k3, k4, k5⟩, HG.out⟩
end Go.Proofs.Ytfbchmihkndfaaa
/- PassesDue, plain: who waits, who is still to come, tick by tick. -/
namespace Go.Proofs.Ytfbchmihkndfaaa
set_option linter.unusedVariables false

structure TI (J : Jobs) (A L : List Nat) (rem : Nat → Nat) : Prop where
  nd : (A ++ L).Nodup
  lt : ∀ x ∈ A ++ L, x < J.m
  len : A.length + L.length ≤ J.m
  ps : ∀ x ∈ A ++ L, 0 < rem x
  all : ∀ i, i < J.m → 0 < rem i → i ∈ A ++ L
  srt : L.Pairwise (fun a b => J.F a ≤ J.F b)
theorem TI.push {J : Jobs} {A A' L : List Nat} {x : Nat} {rem : Nat → Nat} (h : TI J A (x :: L) rem) (hp : A'.Perm (A ++ [x])) : TI J A' L rem := by
  have hq : (A' ++ L).Perm (A ++ x :: L) := by
    have h1 := hp.append_right L
    rwa [List.append_assoc] at h1
  have hl := hp.length_eq
  have hlen := h.len
  rw [List.length_append] at hl
  simp only [List.length_cons, List.length_nil] at hl hlen
  refine ⟨hq.nodup_iff.2 h.nd, fun y hy => h.lt y (hq.mem_iff.1 hy), by omega, fun y hy => h.ps y (hq.mem_iff.1 hy), fun i hi hr => hq.mem_iff.2 (h.all i hi hr), (List.pairwise_cons.1 h.srt).2⟩
theorem TI.part {J : Jobs} {A L : List Nat} {rem : Nat → Nat} (h : TI J A L rem) (k v : Nat) (hk : k ∈ A ++ L) (hv : 0 < v) : TI J A L (upd rem k v) := by
  refine ⟨h.nd, h.lt, h.len, fun x hx => ?_, fun i hi hr => ?_, h.srt⟩
  · by_cases e : x = k
    · subst e; rw [upd_self]; exact hv
    · rw [upd_ne _ _ e]; exact h.ps x hx
  · by_cases e : i = k
    · subst e; exact hk
    · rw [upd_ne _ _ e] at hr; exact h.all i hi hr
theorem TI.pop {J : Jobs} {A A' L : List Nat} {rem : Nat → Nat} (h : TI J A L rem) (k : Nat) (hp : A.Perm (A' ++ [k])) : TI J A' L (upd rem k 0) := by
  have hq : (A ++ L).Perm (k :: (A' ++ L)) := by
    have h1 := hp.append_right L
    rw [List.append_assoc] at h1
    refine h1.trans ?_
    rw [List.singleton_append]
    exact List.perm_middle
  have hn := hq.nodup_iff.1 h.nd
  obtain ⟨hk, hn2⟩ := List.nodup_cons.1 hn
  have hl := hp.length_eq
  have hlen := h.len
  rw [List.length_append] at hl
  simp only [List.length_cons, List.length_nil] at hl
  refine ⟨hn2, fun y hy => h.lt y (hq.mem_iff.2 (List.mem_cons_of_mem _ hy)), by omega, fun y hy => ?_, fun i hi hr => ?_, h.srt⟩
  · rw [upd_ne _ _ (fun (e : y = k) => by subst e; exact hk hy)]
    exact h.ps y (hq.mem_iff.2 (List.mem_cons_of_mem _ hy))
  · have e : i ≠ k := fun e => by subst e; rw [upd_self] at hr; omega
    rw [upd_ne _ _ e] at hr
    rcases List.mem_cons.1 (hq.mem_iff.1 (h.all i hi hr)) with h1 | h1
    · exact absurd h1 e
    · exact h1
theorem TI.late {J : Jobs} {A L : List Nat} {x t : Nat} {rem : Nat → Nat} (h : TI J A (x :: L) rem) (hx : t < J.F x) : ∀ y ∈ x :: L, t < J.F y := by
  intro y hy
  rcases List.mem_cons.1 hy with rfl | h1
  · exact hx
  · have := (List.pairwise_cons.1 h.srt).1 y h1
    omega
/-- the head of the queue has to be gone first -/
theorem TI.first {J : Jobs} {A L : List Nat} {t : Nat} {rem : Nat → Nat} (h : TI J A L rem) (hm : J.m ≤ 9) (hl : ∀ y ∈ L, t < J.F y) (hH : Hp (keyJ J.Y) A A.length) :
    ∀ i, i < J.m → J.F i ≤ t → 0 < rem i → J.Y (nth A 0) ≤ J.Y i := by
  intro i hi hf hr
  rcases List.mem_append.1 (h.all i hi hr) with h1 | h1
  · obtain ⟨j, hj, e⟩ := List.getElem_of_mem h1
    have h2 := hH.min j hj
    have e2 : nth A j = i := by rw [nth_get hj]; exact e
    rw [e2] at h2
    have h3 : nth A 0 < J.m := by
      rw [nth_get (by omega)]
      exact h.lt _ (List.mem_append_left _ (List.getElem_mem _))
    unfold keyJ at h2
    rcases Nat.lt_or_ge (J.Y i) (J.Y (nth A 0)) with h4 | h4
    · have h5 : (J.Y i + 1) * 1000 ≤ J.Y (nth A 0) * 1000 := Nat.mul_le_mul_right 1000 h4
      rw [Nat.add_mul] at h5
      omega
    · exact h4
  · have := hl i h1
    omega
set_option maxRecDepth 100000 in
theorem TI.none {J : Jobs} {L : List Nat} {t : Nat} {rem : Nat → Nat} (h : TI J [] L rem) (hl : ∀ y ∈ L, t < J.F y) : ∀ i, i < J.m → J.F i ≤ t → rem i = 0 := by
  intro i hi hf
  rcases Nat.eq_zero_or_pos (rem i) with h1 | h1
  · exact h1
  · have h2 := h.all i hi h1
    rw [List.nil_append] at h2
    exact absurd hf (Nat.not_le.2 (hl i h2))
/-- of the first i those that have something to send -/
def some_ (N : Nat → Nat) (i : Nat) : List Nat := (List.range i).filter (fun j => decide (N j ≠ 0))
theorem some_zero (N : Nat → Nat) : some_ N 0 = [] := rfl
theorem some_skip (N : Nat → Nat) (i : Nat) (h : N i = 0) : some_ N (i + 1) = some_ N i := by
  unfold some_
  rw [List.range_succ, List.filter_append]
  simp [h]
theorem some_take (N : Nat → Nat) (i : Nat) (h : N i ≠ 0) : some_ N (i + 1) = some_ N i ++ [i] := by
  unfold some_
  rw [List.range_succ, List.filter_append]
  simp [h]
theorem some_mem (N : Nat → Nat) (m x : Nat) : x ∈ some_ N m ↔ x < m ∧ 0 < N x := by
  unfold some_
  rw [List.mem_filter, List.mem_range]
  simp
  omega
theorem some_len (N : Nat → Nat) (m : Nat) : (some_ N m).length ≤ m := by
  unfold some_
  have := List.length_filter_le (fun j => decide (N j ≠ 0)) (List.range m)
  rwa [List.length_range] at this
theorem some_nd (N : Nat → Nat) (m : Nat) : (some_ N m).Nodup := List.Nodup.sublist List.filter_sublist List.nodup_range
theorem TI.start (J : Jobs) (L : List Nat) (hp : L.Perm (some_ J.N J.m)) (hs : L.Pairwise (fun a b => J.F a ≤ J.F b)) : TI J [] L J.N := by
  refine ⟨hp.nodup_iff.2 (some_nd _ _), fun x hx => ((some_mem _ _ _).1 (hp.mem_iff.1 hx)).1, ?_, fun x hx => ((some_mem _ _ _).1 (hp.mem_iff.1 hx)).2, fun i hi hr => hp.mem_iff.2 ((some_mem _ _ _).2 ⟨hi, hr⟩), hs⟩
  have := some_len J.N J.m
  rw [hp.length_eq]
  simp only [List.length_nil]
  omega
end Go.Proofs.Ytfbchmihkndfaaa
/- PassesDue: share: the jobs as they came in: what has nothing to send is gone at once. -/
namespace Go.Proofs.Ytfbchmihkndfaaa
set_option linter.unusedVariables false
open Go.RowKit

set_option maxRecDepth 1000000 in
theorem fr130 (y : Nat → Value) : fr 130 y = #[y 0, y 1, y 2, y 3, y 4, y 5, y 6, y 7, y 8, y 9, y 10, y 11, y 12, y 13, y 14, y 15, y 16, y 17, y 18, y 19, y 20, y 21, y 22, y 23, y 24, y 25, y 26, y 27, y 28, y 29, y 30, y 31, y 32, y 33, y 34, y 35, y 36, y 37, y 38, y 39, y 40, y 41, y 42, y 43, y 44, y 45, y 46, y 47, y 48, y 49, y 50, y 51, y 52, y 53, y 54, y 55, y 56, y 57, y 58, y 59, y 60, y 61, y 62, y 63, y 64, y 65, y 66, y 67, y 68, y 69, y 70, y 71, y 72, y 73, y 74, y 75, y 76, y 77, y 78, y 79, y 80, y 81, y 82, y 83, y 84, y 85, y 86, y 87, y 88, y 89, y 90, y 91, y 92, y 93, y 94, y 95, y 96, y 97, y 98, y 99, y 100, y 101, y 102, y 103, y 104, y 105, y 106, y 107, y 108, y 109, y 110, y 111, y 112, y 113, y 114, y 115, y 116, y 117, y 118, y 119, y 120, y 121, y 122, y 123, y 124, y 125, y 126, y 127, y 128, y 129] := rfl
/-- a row of m ints -/
structure Gn (W : World) (gb m : Nat) (g : Nat → Int) : Prop where
  ex : ∃ cs : Array Value, W.heap[gb]? = some (.cells cs 3) ∧ cs.size = m ∧ ∀ i, i < m → cs[i]? = some (.int .i64 (g i))
theorem Gn.cell {W : World} {gb m : Nat} {g : Nat → Int} (h : Gn W gb m g) (i : Nat) (hi : i < m) : W.cell? ⟨gb, i, none⟩ = some (.int .i64 (g i)) ∧ W.frozen? ⟨gb, i, none⟩ = false := by
  obtain ⟨cs, h1, _, h2⟩ := h.ex
  exact ⟨by rw [cell_of_row _ _ _ _ _ _ h1]; exact h2 i hi, frozen_row h1 _⟩
theorem Gn.lt {W : World} {gb m : Nat} {g : Nat → Int} (h : Gn W gb m g) : gb < W.heap.size := by
  obtain ⟨cs, h1, _⟩ := h.ex
  exact row_lt h1
theorem Gn.set {W : World} {gb m : Nat} {g : Nat → Int} (h : Gn W gb m g) (k : Nat) (hk : k < m) (v : Int) : Gn (W.setCell ⟨gb, k, none⟩ (.int .i64 v)) gb m (fun t => if t = k then v else g t) ∧ Gb gb W (W.setCell ⟨gb, k, none⟩ (.int .i64 v)) := by
  obtain ⟨cs, h1, hs, h2⟩ := h.ex
  obtain ⟨h4, h5⟩ := set_row h1 k (.int .i64 v) rfl
  refine ⟨⟨_, h4, by simp [hs], fun t ht => ?_⟩, h5⟩
  rw [Array.getElem?_setIfInBounds]
  by_cases e : k = t
  · subst e
    rw [if_pos rfl, if_pos (by omega), if_pos rfl]
  · rw [if_neg e, if_neg (fun h => e h.symm)]
    exact h2 t ht
theorem Gn.kept {W W' : World} {gb m B : Nat} {X : List Nat} {g : Nat → Int} (h : Gn W gb m g) (hk : Kp B X W W') (hb : gb < B) (hx : gb ∉ X) : Gn W' gb m g := by
  obtain ⟨cs, h1, h2⟩ := h.ex
  exact ⟨cs, hk.row h1 hb hx, h2⟩
theorem Gn.below {W W' : World} {gb m : Nat} {g : Nat → Int} (h : Gn W gb m g) (hb : Below W.heap.size W W') : Gn W' gb m g := by
  obtain ⟨cs, h1, h2⟩ := h.ex
  exact ⟨cs, row_below h1 hb, h2⟩
theorem Gn.congr {W : World} {gb m : Nat} {g g' : Nat → Int} (h : Gn W gb m g) (e : ∀ t, t < m → g t = g' t) : Gn W gb m g' := by
  obtain ⟨cs, h1, hs, h2⟩ := h.ex
  exact ⟨cs, h1, hs, fun t ht => by rw [← e t ht]; exact h2 t ht⟩
theorem Gn.start (W : World) (m : Nat) : Gn (W.alloc (.cells (madeCells #[.int .i64 0] (m * 1)) 3)) W.heap.size m (fun _ => 0) := by
  refine ⟨_, heap_alloc_new W _, by simp [madeCells], fun t ht => ?_⟩
  simp [madeCells, Nat.mod_one, ht]
/-- when those of the first i are gone that have nothing to send -/
def g1 (F N : Nat → Nat) (i j : Nat) : Int := if j < i then (if N j = 0 then (F j : Int) else -1) else 0
structure SA (y : Nat → Value) (wa : Option Addr) (wn wc X gb m QB jb nc : Nat) (ov : Value) (i : Nat) : Prop where
  s0 : y 0 = .slice wa wn wc
  s3 : y 3 = .pointer (some ⟨X, 0, none⟩)
  s5 : y 5 = .slice (some ⟨gb, 0, none⟩) m m
  s6 : y 6 = .pointer (some ⟨QB, 0, none⟩)
  s7 : y 7 = ov
  s22 : y 22 = .slice (some ⟨jb, 0, none⟩) m nc
  s23 : y 23 = .int .i64 (m : Int)
  s24 : y 24 = .int .i64 (i : Int)
set_option maxRecDepth 1000000 in
set_option maxHeartbeats 2000000 in
theorem shr_r (wa : Option Addr) (wn wc X gb m QB jb nc B : Nat) (F Y N : Nat → Nat) (ov : Value) (i : Nat) (W0 W1 : World) (hi : i < m) (hm : m ≤ 9) (hnc : m ≤ nc ∧ nc ≤ maxLen) (hF : ∀ i, i < m → F i ≤ 1000)
    (hj : JbAt W1 jb m F Y N) (ho : OwnAt W1 B 3 ov (some_ N i).length (vi (some_ N i))) (hG : Gn W1 gb m (g1 F N i)) (hK : Kp B [gb] W0 W1) (hB : B ≤ W1.heap.size) (hgB : gb < B) :
    Tri Try.prog 130 (pieceOf Try.f11 [1, 1, 1, 1, 0, 1, 0, 0, 1, 1, 0, 0]) (fun y w => SA y wa wn wc X gb m QB jb nc ov i ∧ w = W1)
      (fun _ _ y w => ∃ ov', SA y wa wn wc X gb m QB jb nc ov' i ∧ OwnAt w B 3 ov' (some_ N (i + 1)).length (vi (some_ N (i + 1))) ∧ Gn w gb m (g1 F N (i + 1)) ∧ Kp B [gb] W0 w) := by
  rintro Q y w ⟨⟨s0, s3, s5, s6, s7, s22, s23, s24⟩, rfl⟩ hQ
  have HQ := hid hQ
  obtain ⟨i3, hi3, hz3, hs3, hb3⟩ := info_parts Try.info3
  obtain ⟨oa, oc, rfl, hole, homx⟩ := ho.form
  obtain ⟨c0, c1, c2⟩ := hj.cell i hi
  have b1 := below_alloc w (.cells #[.int .i64 (F i : Int), .int .i64 (Y i : Int), .int .i64 (N i : Int)] 32)
  have r1 := heap_alloc_new w (.cells #[.int .i64 (F i : Int), .int .i64 (Y i : Int), .int .i64 (N i : Int)] 32)
  have G1 := hG.below b1
  have O1 := hid (ho.below b1)
  have K1 := hid (hK.trans (Kp.of_below b1 hB))
  have hgl := hG.lt
  have HB := hid (show B ≤ (w.alloc (.cells #[.int .i64 (F i : Int), .int .i64 (Y i : Int), .int .i64 (N i : Int)] 32)).heap.size from Nat.le_trans hB b1.size)
  have hFi := hF i hi
  unfold maxLen at hnc
  obtain ⟨_, hnc2⟩ := hnc
  have HG1 := hid G1
  have R1 := hid r1
  have hsl := some_len N i
  have hsz := hid (show gb < w.heap.size from hgl)
  clear hQ hj ho hG hK b1 r1 G1 hF hgl
  conv => arg 2; whnf
  rw [fr130]
  simp only [s0, s3, s5, s6, s7, s22, s23, s24]
  clear s0 s3 s5 s6 s7 s22 s23 s24
  refine wp_seq_k (fun K2 hK2 => ?_)
  go_wp2_with fail
  refine hK2.out _ _ ?_
  clear c0 c1 c2
  obtain ⟨P, hP⟩ : ∃ P, P = w.heap.size := ⟨_, rfl⟩
  rw [← hP] at R1 hsz ⊢
  clear hP
  generalize w.alloc (.cells #[.int .i64 (F i : Int), .int .i64 (Y i : Int), .int .i64 (N i : Int)] 32) = U at *
  have hl := hid (row_lt R1.out)
  obtain ⟨c1, f1⟩ := HG1.out.cell i hi
  obtain ⟨hs1, hs2⟩ := HG1.out.set i hi (-1)
  have R2 := hid (row_grown R1.out hs2 (by have := hsz.out; omega))
  have O2 := hid (O1.out.kept hs2 (by
    rcases h : (Value.slice oa (some_ N i).length oc).ownBlock with _ | k
    · exact .inl rfl
    · have := (O1.out.lt k h).1
      exact .inr (fun e => by cases e; omega)))
  have K2' := hid (K1.out.trans (Kp.of_gb hs2 HB.out (.inr (by simp))))
  have HB2 := hid (Nat.le_trans HB.out hs2.size)
  have HS1 := hid hs1
  clear hs1 hs2 HG1 R1 O1 K1
  refine wp_seq_k (fun K3 hK3 => ?_)
  go_wp2_with fail
  refine hK3.out _ _ ?_
  clear c1 f1
  generalize U.setCell ⟨gb, i, none⟩ (.int .i64 (-1)) = V at *
  have p0 : V.cell? ⟨P, 0, none⟩ = some (.int .i64 (F i : Int)) := by rw [cell_of_row _ _ _ _ _ _ R2.out]; rfl
  have p2 : V.cell? ⟨P, 2, none⟩ = some (.int .i64 (N i : Int)) := by rw [cell_of_row _ _ _ _ _ _ R2.out]; rfl
  by_cases h0 : N i = 0
  · have e1 := some_skip N i h0
    rw [h0] at p2
    obtain ⟨c1, f1⟩ := HS1.out.cell i hi
    obtain ⟨hs1, hs2⟩ := HS1.out.set i hi (F i : Int)
    have O3 := hid (O2.out.kept hs2 (by
      rcases h : (Value.slice oa (some_ N i).length oc).ownBlock with _ | k
      · exact .inl rfl
      · have := (O2.out.lt k h).1
        exact .inr (fun e => by cases e; omega)))
    have K3' := hid (K2'.out.trans (Kp.of_gb hs2 HB2.out (.inr (by simp))))
    have HS2 := hid (hs1.congr (g' := g1 F N (i + 1)) (fun t ht => by
      unfold g1
      by_cases e : t = i
      · subst e; rw [if_pos rfl, if_pos (show t < t + 1 by omega), if_pos h0]
      · rw [if_neg e, if_neg e]
        by_cases e2 : t < i
        · rw [if_pos e2, if_pos (show t < i + 1 by omega)]
        · rw [if_neg e2, if_neg (show ¬ t < i + 1 by omega)]))
    rw [e1] at HQ
    rw [if_pos rfl] at c1
    have He0 := hid h0
    clear hs1 hs2 e1 h0
    generalize some_ N i = S at *
    generalize F i = fi at *
    go_wp2_with fail
    exact q_fr (N := 130) HQ.out rfl ⟨_, ⟨rfl, rfl, rfl, rfl, rfl, rfl, rfl, rfl⟩, O3.out, HS2.out, K3'.out⟩
  · have e1 := some_take N i h0
    have d1 : ((N i : Int) == 0) = false := by rw [beq_eq_false_iff_ne]; omega
    have d2 : (N i == 0) = false := by rw [beq_eq_false_iff_ne]; omega
    have d3 : decide ((N i : Int) = 0) = false := decide_eq_false (by omega)
    have d4 : decide (N i = 0) = false := decide_eq_false h0
    have HS2 := hid (HS1.out.congr (g' := g1 F N (i + 1)) (fun t ht => by
      unfold g1
      by_cases e : t = i
      · subst e; rw [if_pos rfl, if_pos (show t < t + 1 by omega), if_neg h0]
      · rw [if_neg e]
        by_cases e2 : t < i
        · rw [if_pos e2, if_pos (show t < i + 1 by omega)]
        · rw [if_neg e2, if_neg (show ¬ t < i + 1 by omega)]))
    rw [e1] at HQ
    clear e1 h0 HS1
    generalize some_ N i = S at *
    generalize N i = ni at *
    have b4 := below_alloc V (.cells #[.int .i64 (i : Int)] 3)
    have r4 := heap_alloc_new V (.cells #[.int .i64 (i : Int)] 3)
    have o4 := O2.out.below b4
    have HS4 := hid (HS2.out.below b4)
    have K4 := hid (K2'.out.trans (Kp.of_below b4 HB2.out))
    have HB4 := hid (Nat.le_trans HB2.out b4.size)
    clear b4 O2 HS2 K2'
    go_wp2_with (at_builtin; refine hold ?_)
    unfold Hid
    refine wpList_append_at rfl _ _ 23 rfl B 3 i3 (.int .i64 0) 8 Try.underlying23 hi3 hz3 hs3 hb3 rfl (.slice oa S.length oc) S.length (vi S) rfl o4 ⟨V.heap.size, 0, none⟩ (.int .i64 (i : Int)) rfl (by rw [cell_of_row _ _ _ _ _ _ r4]; rfl) rfl (by unfold maxLen; omega) (by omega) HB4.out ?_
    intro v12 W12 o12 g12 fr12
    have hx : vi S ++ [.int .i64 (i : Int)] = vi (S ++ [i]) := by rw [vi_append]; rfl
    rw [hx] at o12
    have O12 := hid o12
    have k12 := Kp.of_own (X := [gb]) g12 HB4.out (fun k hk => (o4.lt k hk).1)
    have HS5 := hid (HS4.out.kept (Kp.of_own (X := []) g12 HB4.out (fun k hk => (o4.lt k hk).1)) hgB (by simp))
    have K5 := hid (K4.out.trans k12)
    clear hx o12 g12 fr12 k12 o4 r4
    go_wp2_with fail
    exact q_fr (N := 130) HQ.out rfl ⟨_, ⟨rfl, rfl, rfl, rfl, rfl, rfl, rfl, rfl⟩, by rw [List.length_append]; exact O12.out, HS5.out, K5.out⟩
end Go.Proofs.Ytfbchmihkndfaaa
