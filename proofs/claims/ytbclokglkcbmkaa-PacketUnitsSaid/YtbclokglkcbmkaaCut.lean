/- Cut: the walk. -/
import Derived.Test.YtbclokglkcbmkaaPk
import Derived.Test.YtbclokglkcbmkaaMarks
import Derived.Deep.DeepCutAuto
namespace Go.Proofs.Ytbclokglkcbmkaa
set_option linter.unusedVariables false
open Go.RowKit Go.Shelf
attribute [local go_sem] Oper.semAt_some

theorem Try.info29 : (Try.prog.info? 29).map (fun i => (i.zero, i.size, i.bytes)) = some (some (.agg #[.bool false, .bool false, .int .i64 0, .int .i64 0, .int .i64 0, .slice none 0 0]), 6, 56) := by kernel_rfl

theorem chunk15 (n : Nat) (a : Option Addr) (len cap m : Nat) (w : World) (hm : 1 ≤ m) (hm2 : m ≤ 65536) :
    CallsIn Fence.wide n Try.prog 15 #[.slice a len cap, .int .i64 m] w fun e w' => e = .returned (.func (.func 22) #[] #[.pointer (some ⟨w.heap.size, 0, none⟩), .pointer (some ⟨w.heap.size + 1, 0, none⟩)]) ∧ w' = (w.alloc (.cells #[.slice a len cap] 23)).alloc (.cells #[.int .i64 m] 3) := by
  refine callsIn_wide.2 ?_
  have t : decide ((m : Int) < 1) = false := by simp; omega
  go_enter Try.func15, Try.ntmps15
  go_wp2_with fail
  go_ret
  exact ⟨rfl, rfl⟩

theorem stops22 (n : Nat) (hn : 1 ≤ n) (B1 B2 n₀ b off len cap m : Nat) (hm : 1 ≤ m ∧ m ≤ 65536) (hreach : len ≤ 1048576) (hcap : len ≤ cap ∧ cap ≤ maxLen) (w : World) (hB1 : B1 < w.heap.size) (hB2 : B2 < w.heap.size)
    (h1 : w.cell? ⟨B1, 0, none⟩ = some (.slice (some ⟨b, off, none⟩) len cap)) (h2 : w.cell? ⟨B2, 0, none⟩ = some (.int .i64 m)) :
    SeqStopsK Fence.wide n Try.prog 22 #[.pointer (some ⟨B1, 0, none⟩), .pointer (some ⟨B2, 0, none⟩)] (encCk b off len m (K := pieces len m)) (Kc n₀ B1 B2) (fun ys => isRun ys (pieces len m)) (fun pre => ∃ k, k ≤ pieces len m ∧ isRun pre k) (pieces len m) w := fun l J Jx W hW hJ _ hY h0 =>
  chunk22 n hn l B1 B2 n₀ b off len cap m hm hreach hcap J Jx (fun pre W1 n hj => hJ pre W1 _ none hj (grownBy_drewN _ _ _) (fun r e => by cases e)) hY W ((hW.cell (p := ⟨B1, 0, none⟩) hB1).trans h1) ((hW.cell (p := ⟨B2, 0, none⟩) hB2).trans h2) h0

theorem kc_b {n₀ B1 B2 : Nat} {w : World} (hn : n₀ ≤ w.heap.size) (hB1 : B1 < w.heap.size) (hB2 : B2 < w.heap.size) (W : World) (l : Nat) (o o' : Obj) (hl : w.heap.size ≤ l) (h : W.heap[l]? = some o) (h1 : o.isCells = false) (h2 : o.isWalk = false) : Kc n₀ B1 B2 W (W.putObj l o') :=
  ⟨belowK_b hn W l o o' hl h h1 h2, fun v hv => (belowK_b (n₀ := B1 + 1) (w := w) (by omega) W l o o' hl h h1 h2).cell (p := ⟨B1, 0, none⟩) (by simp) |>.trans hv, fun v hv => (belowK_b (n₀ := B2 + 1) (w := w) (by omega) W l o o' hl h h1 h2).cell (p := ⟨B2, 0, none⟩) (by simp) |>.trans hv⟩

theorem cutOwn (H : Nat) (u : List Nat) (m : Nat) (up : Bool) (ap c0 : Nat) {K : Nat} (s : List (Ck K)) (A B : World) (row : Option Nat)
    (hs : (Boxed A H 4 (.bool up) ∧ Boxed A (H + 1) 3 (.int .i64 (ap : Int)) ∧ Boxed A (H + 1 + 1) 3 (.int .i64 (c0 : Int)) ∧ Boxed A (H + 1 + 1 + 1 + 1 + 1) 3 (.int .i64 (m : Int))) ∧ ∃ v G, Boxed A (H + 1 + 1 + 1) 22 v ∧ A.ownsRow (H + 6) 29 6 v s.length (pcs G) ∧ Gs A (H + 6) u m up ap c0 (fun _ => 0) (s.map (·.1)) G)
    (hg : A.grownBy B row) (hr : ∀ r, row = some r → ∃ o : Obj, A.heap[r]? = some o ∧ o.isCells = false) :
    (Boxed B H 4 (.bool up) ∧ Boxed B (H + 1) 3 (.int .i64 (ap : Int)) ∧ Boxed B (H + 1 + 1) 3 (.int .i64 (c0 : Int)) ∧ Boxed B (H + 1 + 1 + 1 + 1 + 1) 3 (.int .i64 (m : Int))) ∧ ∃ v G, Boxed B (H + 1 + 1 + 1) 22 v ∧ B.ownsRow (H + 6) 29 6 v s.length (pcs G) ∧ Gs B (H + 6) u m up ap c0 (fun _ => 0) (s.map (·.1)) G := by
  have key : ∀ (b : Nat) (t : TypeId) (x : Value), Boxed A b t x → Boxed B b t x := fun b t x h => h.kept hg (fun e' => by
    obtain ⟨o, ho, hc⟩ := hr b e'.symm
    rw [show A.heap[b]? = _ from h] at ho; cases ho; cases hc)
  obtain ⟨⟨h0, h1, h2, h5⟩, v, G, h3, ho, hG⟩ := hs
  exact ⟨⟨key _ _ _ h0, key _ _ _ h1, key _ _ _ h2, key _ _ _ h5⟩, v, G, key _ _ _ h3, ownsRow_keeps ho hg hr, hG.to fun p hp => ownsRow_keeps hp hg hr⟩

theorem sne {a b : Nat} (h : a ≠ b) : some a ≠ some b := fun e => h (Option.some.inj e)
theorem own_apart {w : World} {b b' e e' s s' n n' : Nat} {v v' : Value} {xs xs' : List Value} (h : w.ownsRow b e s v n xs) (h' : w.ownsRow b' e' s' v' n' xs') (he : e ≠ e') : v.ownBlock = none ∨ v.ownBlock ≠ v'.ownBlock := by
  rcases h'.2 with ⟨rfl, _⟩ | ⟨g', cap', cur', rfl, _, hg', _⟩
  · rcases hv : v.ownBlock with _ | r
    · exact .inl rfl
    · exact .inr (by simp [Value.ownBlock])
  · exact own_ne h hg' he
theorem Kc.ofBelow {n₀ B1 B2 : Nat} {A B : World} (h : Below A.heap.size A B) (hn : n₀ ≤ A.heap.size) : Kc n₀ B1 B2 A B :=
  ⟨h.mono hn, fun v hv => (h.cell (p := ⟨B1, 0, none⟩) (World.block_lt_of_cell? A _ hv)).trans hv, fun v hv => (h.cell (p := ⟨B2, 0, none⟩) (World.block_lt_of_cell? A _ hv)).trans hv⟩
theorem Kc.ofGrown {n₀ B1 B2 : Nat} {A B : World} {row : Option Nat} (h : A.grownBy B row) (hn : n₀ ≤ A.heap.size) (hr : ∀ r, row = some r → n₀ ≤ r ∧ r ≠ B1 ∧ r ≠ B2) : Kc n₀ B1 B2 A B :=
  ⟨(Below.refl n₀ A).grown h hn (fun k e => (hr k e).1), fun v hv => (World.cell?_of_block (w := A) (a := ⟨B1, 0, none⟩) (h.block B1 (World.block_lt_of_cell? A ⟨B1, 0, none⟩ hv) (fun e => (hr B1 e.symm).2.1 rfl))).trans hv,
    fun v hv => (World.cell?_of_block (w := A) (a := ⟨B2, 0, none⟩) (h.block B2 (World.block_lt_of_cell? A ⟨B2, 0, none⟩ hv) (fun e => (hr B2 e.symm).2.2 rfl))).trans hv⟩
theorem keeps_below {A B : World} (h : Below A.heap.size A B) : KeepsOthers A B := KeepsOthers.of_grownBy (grownBy_of_below h none) (fun j o e => by cases e)
theorem Boxed.below {W W' : World} {B : Nat} {t : TypeId} {v : Value} (h : Boxed W B t v) (hb : Below W.heap.size W W') : Boxed W' B t v := h.kept (grownBy_of_below hb none) (by simp)
theorem keeps_own {A B : World} {base e size n : Nat} {v : Value} {xs : List Value} (h : A.ownsRow base e size v n xs) (hg : A.grownBy B v.ownBlock) : KeepsOthers A B := KeepsOthers.of_grownBy hg fun j o ej hj => by
  rcases h.2 with ⟨rfl, _⟩ | ⟨g, cap, cur, rfl, _, hgb, _⟩
  · simp [Value.ownBlock] at ej
  · obtain rfl : g = j := by simpa [Value.ownBlock] using ej
    rw [hgb] at hj; cases hj; rfl

theorem ownsRow_cells {w w' : World} {base e size : Nat} {v : Value} {n : Nat} {xs : List Value} (h : w.ownsRow base e size v n xs) (hk : ∀ (g : Nat) (o : Obj), w.heap[g]? = some o → o.isCells = true → w'.heap[g]? = some o) : w'.ownsRow base e size v n xs := by
  refine ⟨h.1, ?_⟩
  rcases h.2 with hn | ⟨g, cap, cur, rfl, hB, hgg, rest⟩
  · exact .inl hn
  · exact .inr ⟨g, cap, cur, rfl, hB, hk g _ hgg rfl, rest⟩
theorem own_not {w : World} {base e size n D : Nat} {v : Value} {xs : List Value} {o : Obj} (h : w.ownsRow base e size v n xs) (hD : w.heap[D]? = some o) (ho : o.isCells = false) : v.ownBlock ≠ some D := by
  rcases h.2 with ⟨rfl, _⟩ | ⟨g, cap, cur, rfl, _, hg, _⟩
  · simp [Value.ownBlock]
  · intro he
    obtain rfl : g = D := by simpa [Value.ownBlock] using he
    rw [hD] at hg; cases hg; cases ho
theorem Gs.to2 {W W' : World} {B B' : Nat} {u : List Nat} {m : Nat} {up : Bool} {ap c0 : Nat} {pf : Nat → Nat} {pre : List Nat} {G : List Pc} (h : Gs W B u m up ap c0 pf pre G) (hB : B' ≤ B)
    (hk : ∀ (p : Pc), W.ownsRow B 5 1 (.slice p.a p.n p.c) p.n (vb p.ds) → W'.ownsRow B 5 1 (.slice p.a p.n p.c) p.n (vb p.ds)) : Gs W' B' u m up ap c0 pf pre G :=
  ⟨h.len, h.each, fun p hp => ownsRow_mono (hk p (h.mem p hp)) hB⟩
theorem Gs.part {W W' : World} {B : Nat} {u : List Nat} {m : Nat} {up : Bool} {ap c0 : Nat} {pf pf' : Nat → Nat} {pre : List Nat} {G : List Pc} (h : Gs W B u m up ap c0 pf pre G) (j x : Nat) (hj : j < G.length) (hx : pf' j = x) (hp : ∀ k, k ≠ j → pf' k = pf k)
    (hk : ∀ (p : Pc), W.ownsRow B 5 1 (.slice p.a p.n p.c) p.n (vb p.ds) → W'.ownsRow B 5 1 (.slice p.a p.n p.c) p.n (vb p.ds)) : Gs W' B u m up ap c0 pf' pre (G.modify j fun p => { p with pt := x }) := by
  refine ⟨by rw [List.length_modify]; exact h.len, fun k hk2 => ?_, fun p hp2 => ?_⟩
  · have hk3 : k < G.length := by rw [List.length_modify] at hk2; exact hk2
    obtain ⟨h1, h2, h3, h4, h5, h6⟩ := h.each k hk3
    by_cases hkj : j = k
    · subst hkj
      rw [List.getElem_modify, if_pos rfl]
      exact ⟨h1, h2, hx.symm, h4, h5, h6⟩
    · rw [List.getElem_modify, if_neg hkj]
      exact ⟨h1, h2, by rw [h3, hp k (fun e => hkj e.symm)], h4, h5, h6⟩
  · obtain ⟨k, hk2, rfl⟩ := List.getElem_of_mem hp2
    have hk3 : k < G.length := by rw [List.length_modify] at hk2; exact hk2
    have h0 := hk _ (h.mem _ (List.getElem_mem hk3))
    by_cases hkj : j = k
    · subst hkj; rw [List.getElem_modify, if_pos rfl]; exact h0
    · rw [List.getElem_modify, if_neg hkj]; exact h0

def ptf (K k : Nat) : Nat := (if k = 0 then 1 else 0) + (if k + 1 = K then 2 else 0)

set_option maxRecDepth 100000 in
set_option maxHeartbeats 4000000 in
theorem cut_ok (up : Bool) (ap c0 m un uc : Nat) (ua : Option Addr) (u : List Nat) (w : World) (hap : ap < 2047) (hc0 : c0 ≤ 16383) (hm : 1 ≤ m ∧ m ≤ 65536) (hun : 0 < un ∧ un ≤ 12100) (hu : Rd w ua un uc (vb u)) :
    Calls Try.prog 9 #[.bool up, .int .i64 ap, .int .i64 c0, .slice ua un uc, .int .i64 m] w fun e w' => (∃ g c G, e = .returned (.tuple #[.slice (some ⟨g, 0, none⟩) (pieces un m) c, .int .i64 0]) ∧
      w'.ownsRow w.heap.size 29 6 (.slice (some ⟨g, 0, none⟩) (pieces un m) c) (pieces un m) (pcs G) ∧ Gs w' w.heap.size u m up ap c0 (ptf (pieces un m)) (List.range (pieces un m)) G) ∧ Below w.heap.size w w' := by
  have hul : u.length = un := by have := hu.len; rwa [vb_len] at this
  obtain ⟨ub, uo, rfl, hubl, _⟩ := hu.cell 0 hun.1
  have hcap := hu.le
  have hmx := hu.max
  obtain ⟨i0, hi, hz0, hz1, hz2⟩ := info_parts Try.info29
  refine (callsIn_wide (n := 8)).1 ?_
  have hro : Fence.wide.round = none := rfl
  have h1 : 1 ≤ 8 := by decide
  refine callsIn_of_wp_marks Try.func9 rfl trivial ?_ hro
  simp only [Try.ntmps9, List.size_toArray, List.length_cons, List.length_nil, Nat.reduceAdd, Nat.reduceSub, Array.replicate_succ, Array.replicate_zero, List.push_toArray, List.append_toArray, List.nil_append, List.cons_append]
  refine wpIn_wide.2 ?_
  have t1 : decide ((ap : Int) < 0) = false := by simp
  have t2 : decide ((2047 : Int) ≤ (ap : Int)) = false := by simp; omega
  have t3 : decide ((c0 : Int) < 0) = false := by simp
  have t4 : decide ((16383 : Int) < (c0 : Int)) = false := by simp; omega
  have t5 : ((un : Int) == 0) = false := by simp; omega
  have t6 : decide ((1048576 : Int) < (un : Int)) = false := by simp; omega
  have t7 : decide ((m : Int) < 1) = false := by simp; omega
  have t8 : decide ((65536 : Int) < (m : Int)) = false := by simp; omega
  have hq : (un - 1) / m ≤ un - 1 := Nat.div_le_self _ _
  obtain ⟨q, hqe⟩ : ∃ q, q = (un - 1) / m := ⟨_, rfl⟩
  rw [← hqe] at hq
  have t9 : ((un : Int) - 1) / (m : Int) = (q : Int) := by rw [show ((un : Int) - 1) = ((un - 1 : Nat) : Int) by omega, hqe]; rfl
  have t9' : ((un : Int) - 1).tdiv (m : Int) = (q : Int) := by rw [Int.tdiv_eq_ediv_of_nonneg (by omega)]; exact t9
  have t10 : decide ((16383 : Int) < (q : Int)) = false := by simp; omega
  clear hqe
  go_upto_region 6 with fail
  clear t1 t2 t3 t4 t5 t6 t7 t8 t9 t9' t10 hq
  go_wp2_with fail
  refine ((callsIn_wide (n := 8)).1 (chunk15 8 _ _ _ m _ hm.1 hm.2)).mono ?_
  rintro e w' ⟨rfl, rfl⟩
  go_wp2_with fail
  obtain ⟨V, hV⟩ : ∃ V, V = (((((w.alloc (.cells #[.bool up] 4)).alloc (.cells #[.int .i64 (ap : Int)] 3)).alloc (.cells #[.int .i64 (c0 : Int)] 3)).alloc (.cells #[.slice none 0 0] 22)).alloc (.cells #[.slice (some ⟨ub, uo, none⟩) un uc] 23)).alloc (.cells #[.int .i64 (m : Int)] 3) := ⟨_, rfl⟩
  have bx0 := ((((Boxed.new w 4 (.bool up)).alloc (.cells #[.int .i64 (ap : Int)] 3)).alloc (.cells #[.int .i64 (c0 : Int)] 3)).alloc (.cells #[.slice none 0 0] 22)).alloc (.cells #[.slice (some ⟨ub, uo, none⟩) un uc] 23) |>.alloc (.cells #[.int .i64 (m : Int)] 3)
  have bx1 := (((Boxed.new (w.alloc (.cells #[.bool up] 4)) 3 (.int .i64 (ap : Int))).alloc (.cells #[.int .i64 (c0 : Int)] 3)).alloc (.cells #[.slice none 0 0] 22)).alloc (.cells #[.slice (some ⟨ub, uo, none⟩) un uc] 23) |>.alloc (.cells #[.int .i64 (m : Int)] 3)
  have bx2 := ((Boxed.new ((w.alloc (.cells #[.bool up] 4)).alloc (.cells #[.int .i64 (ap : Int)] 3)) 3 (.int .i64 (c0 : Int))).alloc (.cells #[.slice none 0 0] 22)).alloc (.cells #[.slice (some ⟨ub, uo, none⟩) un uc] 23) |>.alloc (.cells #[.int .i64 (m : Int)] 3)
  have bx3 := (Boxed.new (((w.alloc (.cells #[.bool up] 4)).alloc (.cells #[.int .i64 (ap : Int)] 3)).alloc (.cells #[.int .i64 (c0 : Int)] 3)) 22 (.slice none 0 0)).alloc (.cells #[.slice (some ⟨ub, uo, none⟩) un uc] 23) |>.alloc (.cells #[.int .i64 (m : Int)] 3)
  have bx4 := (Boxed.new ((((w.alloc (.cells #[.bool up] 4)).alloc (.cells #[.int .i64 (ap : Int)] 3)).alloc (.cells #[.int .i64 (c0 : Int)] 3)).alloc (.cells #[.slice none 0 0] 22)) 23 (.slice (some ⟨ub, uo, none⟩) un uc)).alloc (.cells #[.int .i64 (m : Int)] 3)
  have bx5 := Boxed.new (((((w.alloc (.cells #[.bool up] 4)).alloc (.cells #[.int .i64 (ap : Int)] 3)).alloc (.cells #[.int .i64 (c0 : Int)] 3)).alloc (.cells #[.slice none 0 0] 22)).alloc (.cells #[.slice (some ⟨ub, uo, none⟩) un uc] 23)) 3 (.int .i64 (m : Int))
  have hB0 : Below w.heap.size w ((((((w.alloc (.cells #[.bool up] 4)).alloc (.cells #[.int .i64 (ap : Int)] 3)).alloc (.cells #[.int .i64 (c0 : Int)] 3)).alloc (.cells #[.slice none 0 0] 22)).alloc (.cells #[.slice (some ⟨ub, uo, none⟩) un uc] 23)).alloc (.cells #[.int .i64 (m : Int)] 3)) := (((((((Below.refl _ w).alloc (Nat.le_refl _) _).alloc (by simp) _).alloc (by simp; omega) _).alloc (by simp; omega) _).alloc (by simp; omega) _).alloc (by simp; omega) _)
  have hVs : ((((((w.alloc (.cells #[.bool up] 4)).alloc (.cells #[.int .i64 (ap : Int)] 3)).alloc (.cells #[.int .i64 (c0 : Int)] 3)).alloc (.cells #[.slice none 0 0] 22)).alloc (.cells #[.slice (some ⟨ub, uo, none⟩) un uc] 23)).alloc (.cells #[.int .i64 (m : Int)] 3)).heap.size = w.heap.size + 6 := by simp
  simp only [World.size_alloc] at bx0 bx1 bx2 bx3 bx4 bx5
  rw [← hV] at bx0 bx1 bx2 bx3 bx4 bx5 hB0 hVs ⊢
  clear hV
  have hVs' := hid hVs
  have hVle : w.heap.size + 6 ≤ V.heap.size := by omega
  have hVge : V.heap.size ≤ w.heap.size + 6 := by omega
  clear hVs
  refine (wpIn_wide (n := 8)).1 ?_
  refine wpIn_rangeFunc_ownG hro h1 (gf := 22) (lb := #[.pointer (some ⟨w.heap.size + 1 + 1 + 1 + 1, 0, none⟩), .pointer (some ⟨w.heap.size + 1 + 1 + 1 + 1 + 1, 0, none⟩)]) rfl trivial (enters_of Try.func22 (by kernel_rfl) rfl)
    (stops22 (8 - 1) (by omega) (w.heap.size + 1 + 1 + 1 + 1) (w.heap.size + 1 + 1 + 1 + 1 + 1) w.heap.size ub uo un uc m hm (by omega) ⟨hcap, hmx⟩ V (by omega) (by omega) bx4.cell bx5.cell) (fun h k => h.trans k) (kc_b (by omega) (by omega) (by omega)) (Below.refl _ _) (fun _ => rfl)
    (fun (pre : List (Ck (pieces un m))) W' => ((Boxed W' w.heap.size 4 (.bool up) ∧ Boxed W' (w.heap.size + 1) 3 (.int .i64 (ap : Int)) ∧ Boxed W' (w.heap.size + 1 + 1) 3 (.int .i64 (c0 : Int)) ∧ Boxed W' (w.heap.size + 1 + 1 + 1 + 1 + 1) 3 (.int .i64 (m : Int))) ∧ ∃ v G, Boxed W' (w.heap.size + 1 + 1 + 1) 22 v ∧ W'.ownsRow (w.heap.size + 6) 29 6 v pre.length (pcs G) ∧ Gs W' (w.heap.size + 6) u m up ap c0 (fun _ => 0) (pre.map (·.1)) G) ∧ Below w.heap.size w W')
    (fun _ _ _ => False)
    (OwnFrom.and (Own.from (fun s A B row hs hg hr => cutOwn w.heap.size u m up ap c0 s A B row hs hg hr) _) (ownFrom_below (Nat.le_refl _) (by omega)))
    (fun _ _ _ _ _ hs _ _ => hs)
    ⟨⟨⟨bx0, bx1, bx2, bx5⟩, ⟨_, [], bx3, World.ownsRow_nil _ _ _ _, ⟨rfl, fun k h => absurd h (Nat.not_lt_zero _), fun p hp => by cases hp⟩⟩⟩, hB0⟩
    (fun p => { tmps := #[.bool up, .int .i64 (ap : Int), .int .i64 (c0 : Int), .slice (some ⟨ub, uo, none⟩) un uc, .int .i64 (m : Int), .pointer (some ⟨w.heap.size, 0, none⟩), .pointer (some ⟨w.heap.size + 1, 0, none⟩), .pointer (some ⟨w.heap.size + 1 + 1, 0, none⟩), undef, undef, .slice none 0 0, .int .i64 0, .pointer (some ⟨w.heap.size + 1 + 1 + 1, 0, none⟩), .slice (some ⟨ub, uo + p.1 * m, none⟩) (pl un m p.1) (pl un m p.1), .int .i64 (ap : Int), .bool false, .bool false, .int .i64 (ap : Int), .bool false, .bool false, .bool false, .int .i64 (c0 : Int), .bool false, .bool false, .bool false, .int .i64 (c0 : Int), .bool false, .bool false, .slice (some ⟨ub, uo, none⟩) un uc, .int .i64 (un : Int), .bool false, .bool false, .slice (some ⟨ub, uo, none⟩) un uc, .int .i64 (un : Int), .bool false, .bool false, .bool false, .int .i64 (m : Int), .bool false, .bool false, .bool false, .int .i64 (m : Int), .bool false, .bool false, .bool false, .slice (some ⟨ub, uo, none⟩) un uc, .int .i64 (un : Int), .int .i64 ((un : Int) - 1), .int .i64 (m : Int), .int .i64 (q : Int), .bool false, .bool false, .slice (some ⟨ub, uo, none⟩) un uc, .int .i64 (m : Int), .func (.func 22) #[] #[.pointer (some ⟨w.heap.size + 1 + 1 + 1 + 1, 0, none⟩), .pointer (some ⟨w.heap.size + 1 + 1 + 1 + 1 + 1, 0, none⟩)], .slice (some ⟨ub, uo + p.1 * m, none⟩) (pl un m p.1) (pl un m p.1), undef, undef, undef, undef, undef, undef, undef, undef, undef, undef, undef, undef, undef, undef, undef, undef, undef, undef, undef, undef, undef, undef, undef, undef, undef, undef, undef, undef, undef, undef, undef], defers := [] }) ?assign ?body ?done ?stop
  case assign =>
    intro l p W K hK
    dsimp only [encCk]
    gi_wp2
    exact hK
  case body =>
    rintro l pre p W ⟨⟨⟨hb0, hb1, hb2, hb5⟩, ⟨v, G, hb3, own, hG⟩⟩, hB⟩ hlt
    obtain ⟨k, hk⟩ := p
    have hkm : k * m < un := (pieces_lt (by omega)).1 hk
    obtain ⟨hrd, hpl⟩ := (hu.below hB).piece (m := m) (k := k) hkm
    obtain ⟨va, vc, rfl, hvc, hvm, hvb⟩ := own_form own
    have hplm : pl un m k ≤ 65536 := Nat.le_trans (Nat.min_le_left _ _) hm.2
    have hpn : pre.length < 12100 := by
      have h1 : pieces un m ≤ un := by
        rcases Nat.lt_or_ge un (pieces un m) with h | h
        · have h2 := (pieces_lt (len := un) (m := m) (k := un) (by omega)).1 h
          have := Nat.le_mul_of_pos_right un (show 0 < m by omega)
          omega
        · exact h
      omega
    have e1 : bits .and .i64 ((c0 : Int) + (pre.length : Int)) 16383 = (((c0 + pre.length) % 16384 : Nat) : Int) := by rw [and16383]; omega
    generalize hct : (c0 + pre.length) % 16384 = ct at *
    have hct := hid hct
    generalize hqk : uo + k * m = qk at *
    generalize hpk : pl un m k = pk at *
    have hpk := hid hpk
    gi_wp2_with fail
    refine wpIn_region_can 13 [9, 11, 12] [0, 1, 2, 3, 4, 5, 6, 7, 8, 9, 10, 11, 12] (Low (w.heap.size + 6)) (Low.refl _) (fun _ _ _ h k => h.trans k) (by kernel_rfl) (by kernel_rfl) (by kernel_rfl) ?_
    have hWs : w.heap.size + 6 ≤ W.heap.size := by have := hb5.lt; omega
    have ko : KeepsOthers W W.drew := KeepsOthers.drew W
    have kc : Kc w.heap.size (w.heap.size + 1 + 1 + 1 + 1) (w.heap.size + 1 + 1 + 1 + 1 + 1) W W.drew := ⟨(Below.refl _ W).drew, fun _ h => h, fun _ h => h⟩
    have hb0 : Boxed W.drew _ _ _ := hb0
    have hb1 : Boxed W.drew _ _ _ := hb1
    have hb2 : Boxed W.drew _ _ _ := hb2
    have hb3 : Boxed W.drew _ _ _ := hb3
    have hb5 : Boxed W.drew _ _ _ := hb5
    have own := own.drew
    have hG := hG.to (W' := W.drew) fun p h => h.drew
    have hrd := hrd.below ((Below.refl _ W).drew)
    have hB := hB.drew
    have hWs : w.heap.size + 6 ≤ W.drew.heap.size := hWs
    generalize W.drew = V1 at *
    have n0 : ∀ w', Low (w.heap.size + 6) V1 w' → w'.cell? ⟨w.heap.size, 0, none⟩ = some (.bool up) := fun w' hw => Boxed.cell (hw _ (by omega) _ hb0)
    have n1 : ∀ w', Low (w.heap.size + 6) V1 w' → w'.cell? ⟨w.heap.size + 1, 0, none⟩ = some (.int .i64 ap) := fun w' hw => Boxed.cell (hw _ (by omega) _ hb1)
    have n2 : ∀ w', Low (w.heap.size + 6) V1 w' → w'.cell? ⟨w.heap.size + 1 + 1, 0, none⟩ = some (.int .i64 c0) := fun w' hw => Boxed.cell (hw _ (by omega) _ hb2)
    have n3 : ∀ w', Low (w.heap.size + 6) V1 w' → w'.cell? ⟨w.heap.size + 1 + 1 + 1, 0, none⟩ = some (.slice va pre.length vc) := fun w' hw => Boxed.cell (hw _ (by omega) _ hb3)
    simp only [List.map_cons, List.map_nil, List.contains_cons, List.contains_nil, List.getD_cons_zero, List.getD_cons_succ, Nat.reduceBEq, Bool.or_false, Bool.or_true]
    have e2 : IntKind.i64.wrap ((c0 : Int) + (pre.length : Int)) = (c0 : Int) + (pre.length : Int) := IntWalk.i64_in _ (by omega)
    repeat (refine wpL_do rfl (fun w' hw' => (by go_simp; rfl)) ?_; simp only [Act.put, List.setIfInBounds_toArray, List.set_cons_succ, List.set_cons_zero])
    clear n0 n1 n2 n3 e1 e2
    refine wpL_call rfl (fun K hK => ?_)
    go_wp2_with fail
    refine (clone_any (some ⟨ub, qk, none⟩) pk pk _ V1 hrd (by omega)).mono ?_
    rintro e V2 ⟨xa, xc, rfl, ox, b2⟩
    refine hK _ _ (Low.below b2) ?_
    clear hK K
    try simp only [Act.put, List.setIfInBounds_toArray, List.set_cons_succ, List.set_cons_zero]
    have hb0 := Boxed.below hb0 b2
    have hb1 := Boxed.below hb1 b2
    have hb2 := Boxed.below hb2 b2
    have hb3 := Boxed.below hb3 b2
    have hb5 := Boxed.below hb5 b2
    have own := ownsRow_below own b2
    have hG := hG.to (W' := V2) fun p h => ownsRow_below h b2
    have hB := hB.trans (b2.mono hB.size)
    have ko := ko.trans (keeps_below b2)
    have kc := kc.trans (Kc.ofBelow b2 (by omega))
    have ox := ownsRow_mono ox hWs
    have hWs : w.heap.size + 6 ≤ V2.heap.size := Nat.le_trans hWs b2.size
    clear b2
    repeat (refine wpL_do rfl (fun w' hw' => (by go_simp; rfl)) ?_; simp only [Act.put, List.setIfInBounds_toArray, List.set_cons_succ, List.set_cons_zero])
    refine wpL_call rfl (fun K hK => ?_)
    go_wp2_with fail
    refine hK _ _ (Low.below (below_alloc _ _)) ?_
    clear hK K
    try simp only [Act.put, List.setIfInBounds_toArray, List.set_cons_succ, List.set_cons_zero]
    have hnew : ∀ (j : Nat) (x : Value), (Pc.cells ⟨up, ap, 0, ct, xa, pk, xc, piece u m k⟩)[j]? = some x → (V2.alloc (.cells #[.bool up, .bool false, .int .i64 ap, .int .i64 0, .int .i64 ct, .slice xa pk xc] 29)).cell? ((⟨V2.heap.size, 0, none⟩ : Addr).add j) = some x := by
      intro j x hj
      rw [Addr.add_lit, World.cell?_alloc_at _ _ _ _ rfl, Nat.zero_add]
      simpa [Pc.cells] using hj
    have b2 := below_alloc V2 (.cells #[.bool up, .bool false, .int .i64 ap, .int .i64 0, .int .i64 ct, .slice xa pk xc] 29)
    have hb0 := Boxed.below hb0 b2
    have hb1 := Boxed.below hb1 b2
    have hb2 := Boxed.below hb2 b2
    have hb3 := Boxed.below hb3 b2
    have hb5 := Boxed.below hb5 b2
    have own := ownsRow_below own b2
    have ox := ownsRow_below ox b2
    have hG := hG.to (W' := V2.alloc (.cells #[.bool up, .bool false, .int .i64 ap, .int .i64 0, .int .i64 ct, .slice xa pk xc] 29)) fun p h => ownsRow_below h b2
    have hB := hB.trans (b2.mono hB.size)
    have ko := ko.trans (keeps_below b2)
    have kc := kc.trans (Kc.ofBelow b2 (by omega))
    have hWs3 : w.heap.size + 6 ≤ (V2.alloc (.cells #[.bool up, .bool false, .int .i64 ap, .int .i64 0, .int .i64 ct, .slice xa pk xc] 29)).heap.size := Nat.le_trans hWs b2.size
    clear b2
    generalize V2.alloc (.cells #[.bool up, .bool false, .int .i64 ap, .int .i64 0, .int .i64 ct, .slice xa pk xc] 29) = V3 at *
    generalize V2.heap.size = nb at *
    refine wpL_call rfl (fun K hK => ?_)
    refine wp_append_own _ (.tmp 56) (.tmp 67) 22 rfl (w.heap.size + 6) 29 i0 _ 6 56 Try.underlying22 hi hz0 hz1 hz2 rfl (by decide) _ pre.length (pcs G) rfl own ⟨nb, 0, none⟩ 1 1 (Pc.cells ⟨up, ap, 0, ct, xa, pk, xc, piece u m k⟩) rfl rfl hnew (by simp [Pc.cells, Value.oneCell']) (by unfold maxLen; omega) (by omega) hWs3 ?_
    intro v' V4 own4 g4 _
    obtain ⟨va', vc', rfl, _, _⟩ := own_slice own4
    have hob : ∀ r, (Value.slice va pre.length vc).ownBlock = some r → w.heap.size + 6 ≤ r := fun r h => (own.lt r h).1
    have hne : ∀ b, b < w.heap.size + 6 → some b ≠ (Value.slice va pre.length vc).ownBlock := fun b hb h => by have := hob b h.symm; omega
    refine hK _ _ (Low.grown g4 hob) ?_
    clear hK K
    try simp only [Act.put, List.setIfInBounds_toArray, List.set_cons_succ, List.set_cons_zero]
    have hb0 := hb0.kept g4 (hne _ (by omega))
    have hb1 := hb1.kept g4 (hne _ (by omega))
    have hb2 := hb2.kept g4 (hne _ (by omega))
    have hb3 := hb3.kept g4 (hne _ (by omega))
    have hb5 := hb5.kept g4 (hne _ (by omega))
    have hG := hG.to (W' := V4) fun p h => h.kept g4 (own_apart h own (by decide))
    have ox := ox.kept g4 (own_apart ox own (by decide))
    have hB := hB.grown g4 hB.size (fun r h => by have := hob r h; omega)
    have ko := ko.trans (keeps_own own g4)
    have kc := kc.trans (Kc.ofGrown g4 (by omega) (fun r h => by have := hob r h; omega))
    have hWs4 : w.heap.size + 6 ≤ V4.heap.size := Nat.le_trans hWs3 g4.size
    clear hob hne g4 own hnew
    refine wpL_nil ?_
    have c3 := hb3.cell
    have f3 := hb3.frozen
    obtain ⟨V5, hV5⟩ : ∃ V5, V5 = V4.setCell ⟨w.heap.size + 1 + 1 + 1, 0, none⟩ (.slice va' (pre.length + 1) vc') := ⟨_, rfl⟩
    have g5 : V4.grownBy V5 (some (w.heap.size + 1 + 1 + 1)) := by rw [hV5]; exact grownBy_setCell' V4 _ _
    have hb3 : Boxed V5 (w.heap.size + 1 + 1 + 1) 22 (.slice va' (pre.length + 1) vc') := by rw [hV5]; exact hb3.set _
    have hb0 := hb0.kept g5 (sne (by omega))
    have hb1 := hb1.kept g5 (sne (by omega))
    have hb2 := hb2.kept g5 (sne (by omega))
    have hb5 := hb5.kept g5 (sne (by omega))
    have own5 := own4.kept g5 (by
      rcases h : (Value.slice va' (pre.length + 1) vc').ownBlock with _ | r
      · exact .inl rfl
      · exact .inr (fun e => by have := (own4.lt r h).1; cases e; omega))
    have hG := hG.to (W' := V5) fun p h => h.kept g5 (by
      rcases h' : (Value.slice p.a p.n p.c).ownBlock with _ | r
      · exact .inl rfl
      · exact .inr (fun e => by have := (h.lt r h').1; cases e; omega))
    have ox := ox.kept g5 (by
      rcases h' : (Value.slice xa pk xc).ownBlock with _ | r
      · exact .inl rfl
      · exact .inr (fun e => by have := (ox.lt r h').1; cases e; omega))
    have hB := hB.grown g5 hB.size (fun r h => by cases h; omega)
    have ko := ko.trans (KeepsOthers.of_grownBy g5 fun j o ej hj => by
      cases ej
      rw [show V4.heap[w.heap.size + 1 + 1 + 1]? = _ from ‹Boxed V4 (w.heap.size + 1 + 1 + 1) 22 _›] at hj; cases hj; rfl)
    have kc := kc.trans (Kc.ofGrown g5 (by omega) (fun r h => by cases h; omega))
    rw [← pcs_snoc, ← hct.out] at own5
    have hG2 := hG.snoc k xa pk xc rfl hpl ox
    clear hG ox g5 own4
    have hV5' := hV5.symm
    clear hV5
    go_wp2_with fail
    refine ⟨ko.from _, kc, ⟨⟨hb0, hb1, hb2, hb5⟩, _, G ++ [⟨up, ap, 0, (c0 + pre.length) % 16384, xa, pk, xc, piece u m k⟩], hb3, ?_, ?_⟩, hB⟩
    · rw [List.length_append]; exact own5
    · rw [List.map_append]; rw [List.length_map] at hG2; exact hG2
  case done =>
    rintro D ys W hD hys ⟨⟨⟨_, _, _, _⟩, ⟨v, G, hb3, own, hG⟩⟩, hB⟩ hK
    have hyl : ys.length = pieces un m := by
      have := congrArg List.length hys
      simpa using this
    have hG : Gs W (w.heap.size + 6) u m up ap c0 (fun _ => 0) (List.range (pieces un m)) G := by
      have h : ys.map (·.1) = List.range (pieces un m) := hys
      rw [h] at hG; exact hG
    rw [hyl] at own
    have hK0 : 0 < pieces un m := (pieces_lt (by omega)).2 (by omega)
    have hKle : pieces un m ≤ un := by
      rcases Nat.lt_or_ge un (pieces un m) with h | h
      · have h2 := (pieces_lt (len := un) (m := m) (k := un) (by omega)).1 h
        have := Nat.le_mul_of_pos_right un (show 0 < m by omega)
        omega
      · exact h
    obtain ⟨N, hN⟩ : ∃ N, N = pieces un m := ⟨_, rfl⟩
    rw [← hN] at hG own hK0 hKle
    obtain ⟨va, vc, rfl, hvc, hvm, hvb⟩ := own_form own
    obtain ⟨g, rfl, hgb, hgl⟩ : ∃ g, va = some ⟨g, 0, none⟩ ∧ w.heap.size + 6 ≤ g ∧ g < W.heap.size := by
      rcases hvb with ⟨_, h, _⟩ | h
      · omega
      · exact h
    have hNe := hid hN
    clear hN hys hyl hcap hmx hu hubl
    obtain ⟨n1, rfl⟩ : ∃ n1, N = n1 + 1 := ⟨N - 1, by omega⟩
    have hGl : G.length = n1 + 1 := by rw [hG.len, List.length_range]
    have hdg : D ≠ g := fun h => own_not own hK rfl (by rw [h]; rfl)
    have hat : ∀ (G : List Pc) (j : Nat) (hj : j < G.length), (pcs G)[j * 6 + 3]? = some (.int .i64 ((G[j]).pt : Int)) := fun G j hj => by rw [pcs_at G j hj 3 (by omega)]; rfl
    have p0 : W.cell? ⟨g, 3, none⟩ = some (.int .i64 0) := by
      have h1 := hat G 0 (by omega)
      rw [(hG.each 0 (by omega)).2.2.1] at h1
      rw [own.cellAt 3 (by omega)]; simpa using h1
    have q0 := own.frozenAt 3
    have c3 := hb3.cell
    obtain ⟨own1, g1⟩ := own.stored 3 (.int .i64 ((1 : Nat) : Int))
    have hset := pcs_part G 0 (by omega) 1
    rw [Nat.zero_mul, Nat.zero_add] at hset
    rw [hset] at own1
    have hG1 := hG.part (W' := W.setCell ⟨g, 3, none⟩ (.int .i64 ((1 : Nat) : Int))) (pf' := fun k => if k = 0 then 1 else 0) 0 1 (by omega) rfl (fun k hk => if_neg hk) (fun p h => h.kept g1 (own_apart h own (by decide)))
    have hGl1 : (G.modify 0 fun p => { p with pt := 1 }).length = n1 + 1 := by rw [List.length_modify]; exact hGl
    have hB1 := hB.grown g1 hB.size (fun k e => by cases e; omega)
    have hK1 : (W.setCell ⟨g, 3, none⟩ (.int .i64 ((1 : Nat) : Int))).heap[D]? = some (.deferred (some [])) := (g1.block D (Array.getElem?_eq_some_iff.1 hK).1 (fun e => hdg (by cases e; rfl))).trans hK
    have hb31 := hb3.kept g1 (sne (by omega))
    obtain ⟨W1, hW1⟩ : ∃ W1, W1 = W.setCell ⟨g, 3, none⟩ (.int .i64 ((1 : Nat) : Int)) := ⟨_, rfl⟩
    rw [← hW1] at own1 hG1 hB1 hK1 hb31
    generalize (G.modify 0 fun p => { p with pt := 1 }) = G1 at *
    have c31 := hb31.cell
    obtain ⟨p1, hp1⟩ : ∃ p1 : Nat, p1 = if n1 = 0 then 1 else 0 := ⟨_, rfl⟩
    have hp12 : p1 = 0 ∨ p1 = 1 := by rw [hp1]; split <;> simp
    have pn : W1.cell? ⟨g, n1 * 6 + 3, none⟩ = some (.int .i64 (p1 : Int)) := by
      rw [own1.cellAt (n1 * 6 + 3) (by omega), hat G1 n1 (by omega), (hG1.each n1 (by omega)).2.2.1, hp1]
    have qn := own1.frozenAt (n1 * 6 + 3)
    obtain ⟨p2, hp2⟩ : ∃ p2 : Nat, p2 = p1 + 2 := ⟨_, rfl⟩
    have eor : bits .or .i64 (p1 : Int) 2 = (p2 : Int) := by rw [hp2]; rcases hp12 with h | h <;> rw [h] <;> rfl
    obtain ⟨own2, g2⟩ := own1.stored (n1 * 6 + 3) (.int .i64 (p2 : Int))
    rw [pcs_part G1 n1 (by omega) p2] at own2
    have hG2 := hG1.part (W' := W1.setCell ⟨g, n1 * 6 + 3, none⟩ (.int .i64 (p2 : Int))) (pf' := ptf (n1 + 1)) n1 p2 (by omega) (by unfold ptf; rw [if_pos rfl, hp2, hp1]) (fun k hk => by unfold ptf; rw [if_neg (by omega : ¬ k + 1 = n1 + 1), Nat.add_zero]) (fun p h => h.kept g2 (own_apart h own1 (by decide)))
    have hB2 := hB1.grown g2 hB1.size (fun k e => by cases e; omega)
    have hK2 : (W1.setCell ⟨g, n1 * 6 + 3, none⟩ (.int .i64 (p2 : Int))).heap[D]? = some (.deferred (some [])) := (g2.block D (Array.getElem?_eq_some_iff.1 hK1).1 (fun e => hdg (by cases e; rfl))).trans hK1
    have hb32 := hb31.kept g2 (sne (by omega))
    obtain ⟨W2, hW2⟩ : ∃ W2, W2 = W1.setCell ⟨g, n1 * 6 + 3, none⟩ (.int .i64 (p2 : Int)) := ⟨_, rfl⟩
    rw [← hW2] at own2 hG2 hB2 hK2 hb32
    have c32 := hb32.cell
    have hW1' : W.setCell ⟨g, 3, none⟩ (.int .i64 1) = W1 := hW1.symm
    have hW2' := hW2.symm
    have eo1 : bits .or .i64 0 1 = 1 := rfl
    clear hW1 hW2 hp1 hp12 hp2 hG hG1 own own1 hat hset g1 g2 hb3 hb31 hb32 hB hB1 hK hK1
    go_wp2_with fail
    change LeavesInM Fence.wide 8 Try.prog Try.f9 _ _ [{ target := .collected D, args := #[] }] .returning W2
    rw [← hNe.out]
    refine leaves_marks (B := w.heap.size) [{ target := .collected D, args := #[] }] W2 ⟨⟨D, rfl, by omega, hK2⟩, (fun _ h => by cases h), trivial⟩ (fun W' hb hk => ⟨_, results_tmp2 rfl _ _ _, ⟨g, vc, _, rfl, ?_, hG2.to2 (by omega) fun p h => ownsRow_cells h hk⟩, hB2.trans hb⟩)
    exact ownsRow_mono (ownsRow_cells own2 hk) (by omega)
  case stop =>
    rintro D c pre W _ _ h _
    exact h.elim
end Go.Proofs.Ytbclokglkcbmkaa
