/- Keys: a range over Chunk: what is asked of the rounds. -/
import Derived.Test.YtlbpmepifegeiaaSearch
import Derived.Test.YtlbpmepifegeiaaChunk
import Derived.Test.YtlbpmepifegeiaaMarks
import Derived.Deep.DeepCutAuto
namespace Go.Proofs.Ytlbpmepifegeiaa
set_option linter.unusedVariables false
open Go.RowKit Go.Shelf
attribute [local go_sem] Oper.semAt_some

theorem chunk30 (n : Nat) (a : Option Addr) (len cap m : Nat) (w : World) (hm : 1 ≤ m) (hm2 : m ≤ 65536) :
    CallsIn Fence.wide n Try.prog 30 #[.slice a len cap, .int .i64 m] w fun e w' => e = .returned (.func (.func 31) #[] #[.pointer (some ⟨w.heap.size, 0, none⟩), .pointer (some ⟨w.heap.size + 1, 0, none⟩)]) ∧ w' = (w.alloc (.cells #[.slice a len cap] 24)).alloc (.cells #[.int .i64 m] 3) := by
  refine callsIn_wide.2 ?_
  have t : decide ((m : Int) < 1) = false := by simp; omega
  go_enter Try.func30, Try.ntmps30
  go_wp2_with fail
  go_ret
  exact ⟨rfl, rfl⟩
theorem stops31 (n : Nat) (hn : 1 ≤ n) (B1 B2 n₀ b off len cap m : Nat) (a : Option Addr) (ha : 0 < len → a = some ⟨b, off, none⟩) (hm : 1 ≤ m ∧ m ≤ 65536) (hreach : len ≤ 1048576) (hcap : len ≤ cap ∧ cap ≤ maxLen) (w : World) (hB1 : B1 < w.heap.size) (hB2 : B2 < w.heap.size)
    (h1 : w.cell? ⟨B1, 0, none⟩ = some (.slice a len cap)) (h2 : w.cell? ⟨B2, 0, none⟩ = some (.int .i64 m)) :
    SeqStopsK Fence.wide n Try.prog 31 #[.pointer (some ⟨B1, 0, none⟩), .pointer (some ⟨B2, 0, none⟩)] (encCk b off len m (K := pieces len m)) (Kc n₀ B1 B2) (fun ys => isRun ys (pieces len m)) (fun pre => ∃ k, k ≤ pieces len m ∧ isRun pre k) (pieces len m) w := fun l J Jx W hW hJ _ hY h0 =>
  chunk31 n hn l B1 B2 n₀ b off len cap m a ha hm hreach hcap J Jx (fun pre W1 n hj => hJ pre W1 _ none hj (grownBy_drewN _ _ _) (fun r e => by cases e)) hY W ((hW.cell (p := ⟨B1, 0, none⟩) hB1).trans h1) ((hW.cell (p := ⟨B2, 0, none⟩) hB2).trans h2) h0
theorem kc_b {n₀ B1 B2 : Nat} {w : World} (hn : n₀ ≤ w.heap.size) (hB1 : B1 < w.heap.size) (hB2 : B2 < w.heap.size) (W : World) (l : Nat) (o o' : Obj) (hl : w.heap.size ≤ l) (h : W.heap[l]? = some o) (h1 : o.isCells = false) (h2 : o.isWalk = false) : Kc n₀ B1 B2 W (W.putObj l o') :=
  ⟨belowK_b hn W l o o' hl h h1 h2, fun v hv => (belowK_b (n₀ := B1 + 1) (w := w) (by omega) W l o o' hl h h1 h2).cell (p := ⟨B1, 0, none⟩) (by simp) |>.trans hv, fun v hv => (belowK_b (n₀ := B2 + 1) (w := w) (by omega) W l o o' hl h h1 h2).cell (p := ⟨B2, 0, none⟩) (by simp) |>.trans hv⟩
theorem sne {a b : Nat} (h : a ≠ b) : some a ≠ some b := fun e => h (Option.some.inj e)
theorem own_apart {w : World} {b b' e e' s s' n n' : Nat} {v v' : Value} {xs xs' : List Value} (h : w.ownsRow b e s v n xs) (h' : w.ownsRow b' e' s' v' n' xs') (he : e ≠ e') : v.ownBlock = none ∨ v.ownBlock ≠ v'.ownBlock := by
  rcases h'.2 with ⟨rfl, _⟩ | ⟨g', cap', cur', rfl, _, hg', _⟩
  · rcases hv : v.ownBlock with _ | r
    · exact .inl rfl
    · exact .inr (by simp [Value.ownBlock])
  · exact own_ne h hg' he
theorem Kc.ofBelow {n₀ B1 B2 : Nat} {A B : World} (h : Below A.heap.size A B) (hn : n₀ ≤ A.heap.size) : Kc n₀ B1 B2 A B :=
  ⟨h.mono hn, fun v hv => (h.cell (p := ⟨B1, 0, none⟩) (World.block_lt_of_cell? A _ hv)).trans hv, fun v hv => (h.cell (p := ⟨B2, 0, none⟩) (World.block_lt_of_cell? A _ hv)).trans hv⟩
theorem Kc.ofGrown {n₀ B1 B2 : Nat} {A B : World} {row : Option Nat} (h : A.grownBy B row) (hn : n₀ ≤ A.heap.size) (hr : ∀ r, row = some r → n₀ ≤ r ∧ r ≠ B1 ∧ r ≠ B2) : Kc n₀ B1 B2 A B :=
  ⟨(Below.refl n₀ A).grown h hn (fun k e => (hr k e).1), fun v hv => (World.cell?_of_block (w := A) (a := ⟨B1, 0, none⟩) (h.block B1 (World.block_lt_of_cell? A ⟨B1, 0, none⟩ hv) (fun e => (hr B1 e.symm).2.1 rfl))).trans hv,
    fun v hv => (World.cell?_of_block (w := A) (a := ⟨B2, 0, none⟩) (h.block B2 (World.block_lt_of_cell? A ⟨B2, 0, none⟩ hv) (fun e => (hr B2 e.symm).2.2 rfl))).trans hv⟩
theorem keeps_below {A B : World} (h : Below A.heap.size A B) : KeepsOthers A B := KeepsOthers.of_grownBy (grownBy_of_below h none) (fun j o e => by cases e)
theorem Boxed.below {W W' : World} {B : Nat} {t : TypeId} {v : Value} (h : Boxed W B t v) (hb : Below W.heap.size W W') : Boxed W' B t v := h.kept (grownBy_of_below hb none) (by simp)
theorem keeps_own {A B : World} {base e size n : Nat} {v : Value} {xs : List Value} (h : A.ownsRow base e size v n xs) (hg : A.grownBy B v.ownBlock) : KeepsOthers A B := KeepsOthers.of_grownBy hg fun j o ej hj => by
  rcases h.2 with ⟨rfl, _⟩ | ⟨g, cap, cur, rfl, _, hgb, _⟩
  · simp [Value.ownBlock] at ej
  · obtain rfl : g = j := by simpa [Value.ownBlock] using ej
    rw [hgb] at hj; cases hj; rfl
theorem ownsRow_cells {w w' : World} {base e size : Nat} {v : Value} {n : Nat} {xs : List Value} (h : w.ownsRow base e size v n xs) (hk : ∀ (g : Nat) (o : Obj), w.heap[g]? = some o → o.isCells = true → w'.heap[g]? = some o) : w'.ownsRow base e size v n xs := by
  refine ⟨h.1, ?_⟩
  rcases h.2 with hn | ⟨g, cap, cur, rfl, hB, hgg, rest⟩
  · exact .inl hn
  · exact .inr ⟨g, cap, cur, rfl, hB, hk g _ hgg rfl, rest⟩
theorem own_not {w : World} {base e size n D : Nat} {v : Value} {xs : List Value} {o : Obj} (h : w.ownsRow base e size v n xs) (hD : w.heap[D]? = some o) (ho : o.isCells = false) : v.ownBlock ≠ some D := by
  rcases h.2 with ⟨rfl, _⟩ | ⟨g, cap, cur, rfl, _, hg, _⟩
  · simp [Value.ownBlock]
  · intro he
    obtain rfl : g = D := by simpa [Value.ownBlock] using he
    rw [hD] at hg; cases hg; cases ho
theorem ownsRow_keeps {w w' : World} {base e size n : Nat} {v : Value} {xs : List Value} {row : Option Nat} (h : w.ownsRow base e size v n xs) (hg : w.grownBy w' row) (hr : ∀ r, row = some r → ∃ o : Obj, w.heap[r]? = some o ∧ o.isCells = false) : w'.ownsRow base e size v n xs := by
  refine ⟨h.1, ?_⟩
  rcases h.2 with hn | ⟨g, cap, cur, rfl, hB, hgg, rest⟩
  · exact .inl hn
  · exact .inr ⟨g, cap, cur, rfl, hB, (grownBy_keeps_cells hg hr hgg rfl).trans hgg, rest⟩
theorem Rd.piece {w : World} {b off len cap m k : Nat} {u : List Nat} (h : Rd w (some ⟨b, off, none⟩) len cap (vb u)) (hk : k * m < len) : Rd w (some ⟨b, off + k * m, none⟩) (pl len m k) (pl len m k) (vb (piece u m k)) ∧ (Go.Proofs.Ytlbpmepifegeiaa.piece u m k).length = pl len m k := by
  have hl := h.len
  rw [vb_len] at hl
  have hpl : (Go.Proofs.Ytlbpmepifegeiaa.piece u m k).length = pl len m k := by unfold Go.Proofs.Ytlbpmepifegeiaa.piece pl; rw [List.length_take, List.length_drop, hl]
  have hle : pl len m k ≤ len - k * m := Nat.min_le_right _ _
  have hmx := h.max
  have hcp := h.le
  refine ⟨⟨by rw [vb_len, hpl], Nat.le_refl _, by omega, (fun h => by cases h), fun hm => ?_⟩, hpl⟩
  obtain ⟨b', off', ha, hlt, hc⟩ := h.mem (by omega)
  cases ha
  refine ⟨b, off + k * m, rfl, hlt, fun j hj => ?_⟩
  have h1 := hc (k * m + j) (by omega)
  rw [← Nat.add_assoc] at h1
  rw [h1]
  unfold Go.Proofs.Ytlbpmepifegeiaa.piece vb
  rw [List.getElem?_map, List.getElem?_map, List.getElem?_take, if_pos (by unfold pl at hj; omega), List.getElem?_drop]

end Go.Proofs.Ytlbpmepifegeiaa
