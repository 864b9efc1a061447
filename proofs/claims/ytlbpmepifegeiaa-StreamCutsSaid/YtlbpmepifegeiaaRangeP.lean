/- A range over a function whose values come with memory of their own: what is known of a value in the world where it comes (Px). -/
import Derived.RangeFuncNested
import Derived.RangeFuncBound
import Derived.RangeFuncCalls
import Derived.RangeFuncLeaves
import Derived.RangeFuncBox
import Derived.Test.YtlbpmepifegeiaaRow
namespace Go.Proofs.Ytlbpmepifegeiaa
set_option linter.unusedVariables false
open Go.RowKit

/-- how a round ends -/
def rpPost {α : Type} (B : Nat) (Kp : World → World → Prop) (I Ix : List α → World → Prop) (id : Nat) (xs : List α) (W : World) : Exit → Act → World → Prop
  | .normal, _, W' => KeepsFrom B W W' ∧ Kp W W' ∧ I xs W'
  | .exit i, _, W' => i = id ∧ KeepsFrom B W W' ∧ Ix xs W'
  | _, _, _ => False

theorem range_px {P : Program} {α : Type} {n : Nat} {g : Operand} {ps : Array Tmp} {assign body : Code} {Q : Exit → Act → World → Prop} {a : Act} {w : World} {gf : Nat} {lb : Array Value} (h1 : 1 ≤ n)
    (hg : a.eval g = .func (.func gf) #[] lb) (eg : ∀ args w, (callFunc gf args).run P w = .ok (.enter gf args) w) (encs : α → Array Value) (hps : ∀ x, (encs x).size = ps.size)
    (Px : List α → α → World → Prop) (N : Nat) (Kp : World → World → Prop) (S Sp : List α → Prop) (I Ix : List α → World → Prop) (id : Nat) (Ax : List α → α → Act → World → Prop)
    (hKt : ∀ A B C, Kp A B → Kp B C → Kp A C) (hKp : ∀ (A : World) (l : Nat) (o o' : Obj), w.heap.size ≤ l → A.heap[l]? = some o → o.isCells = false → Kp A (A.putObj l o'))
    (hIb : ∀ pre A B, I pre A → Below A.heap.size A B → I pre B) (hIp : ∀ pre (A : World) (l : Nat) (o o' : Obj), I pre A → w.heap.size ≤ l → A.heap[l]? = some o → o.isCells = false → I pre (A.putObj l o'))
    (hIxp : ∀ pre (A : World) (l : Nat) (o o' : Obj), Ix pre A → w.heap.size ≤ l → A.heap[l]? = some o → o.isCells = false → Ix pre (A.putObj l o'))
    (hAxp : ∀ pre x a' (A : World) (l : Nat) (o o' : Obj), Ax pre x a' A → w.heap.size ≤ l → A.heap[l]? = some o → o.isCells = false → Ax pre x a' (A.putObj l o'))
    (hseq : ∀ (l : Nat) (J Jx : List α → World → Prop), (∀ pre A B, J pre A → Below A.heap.size A B → J pre B) →
      (∀ pre x W, J pre W → pre.length < N → Px pre x W → YieldAt Fence.wide (n - 1 - 1) P l (encs x) W fun e W' => (e = .returned (.bool true) ∧ J (pre ++ [x]) W' ∧ Kp W W') ∨ (e = .returned (.bool false) ∧ Jx (pre ++ [x]) W')) →
      ∀ W, Below w.heap.size w W → J [] W → CallsIn Fence.wide (n - 1) P gf (#[.func (.yield l) #[] #[]] ++ lb) W fun e W' => (∃ v, e = .returned v) ∧ ((∃ xs, S xs ∧ J xs W') ∨ (∃ pre, Sp pre ∧ Jx pre W')))
    (h0 : I [] w)
    (hassign : ∀ (l : Nat) (pre : List α) (x : α) (W : World) (K : Act → World → Prop), I pre W → pre.length < N → Px pre x W → (∀ a' W', KeepsFrom w.heap.size W W' → Kp W W' → Ax pre x a' W' → K a' W') →
      assign.wpIn (Fence.wide.inRound l) (n - 1 - 1) P (Exit.then K (fun _ _ _ => False)) { tmps := (ps.zip (encs x)).foldl (fun t (p, v) => t.setIfInBounds p v) a.tmps, defers := [] } W)
    (hbody : ∀ (l : Nat) (pre : List α) (x : α) (a' : Act) (W : World), Ax pre x a' W → body.wpIn (Fence.wide.inRound l) (n - 1 - 1) P (rpPost w.heap.size Kp I Ix id (pre ++ [x]) W) a' W)
    (hdone : ∀ (D : Nat) (xs : List α) (W : World), w.heap.size ≤ D → S xs → I xs W → W.heap[D]? = some (.deferred (some [])) → Q .normal { a with defers := { target := .collected D, args := #[] } :: a.defers } W)
    (hstop : ∀ (D : Nat) (pre : List α) (W : World), w.heap.size ≤ D → Sp pre → Ix pre W → W.heap[D]? = some (.deferred (some [])) → (Code.exit id).wpIn Fence.wide n P Q { a with defers := { target := .collected D, args := #[] } :: a.defers } W) :
    (Code.rangeFunc g ps assign body).wpIn Fence.wide n P Q a w := by
  refine wpIn_rangeFunc fun fn hfn => ?_
  -- the loop's record
  let rec_ : LoopState → Option Code → Loop := fun st pe => { state := st, pending := pe, fn, tmps := a.tmps, params := ps, assign, body, defers := w.heap.size }
  have put1 : ∀ {A : World} {r : LoopState} {pe : Option Code} (r' : LoopState) (pe' : Option Code), A.heap[w.heap.size + 1]? = some (.loop (rec_ r pe)) → A.heap[w.heap.size]? = some (.deferred (some [])) →
      (A.putObj (w.heap.size + 1) (.loop (rec_ r' pe'))).heap[w.heap.size + 1]? = some (.loop (rec_ r' pe')) ∧ (A.putObj (w.heap.size + 1) (.loop (rec_ r' pe'))).heap[w.heap.size]? = some (.deferred (some [])) := fun r' pe' hl hk =>
    ⟨World.putObj_heap_same (Array.getElem?_eq_some_iff.1 hl).1, (World.putObj_heap_other (by omega)).trans hk⟩
  have b1 := below_alloc w (.deferred (some []))
  have b2 := below_alloc (w.alloc (.deferred (some []))) (.loop (rec_ .ready none))
  have hD := World.alloc_heap_new w (.deferred (some []))
  have hL := World.alloc_heap_new (w.alloc (.deferred (some []))) (.loop (rec_ .ready none))
  rw [World.size_alloc] at hL
  have bb := b1.trans (b2.mono b1.size)
  obtain ⟨W1, hW1⟩ : ∃ W1, W1 = (w.alloc (.deferred (some []))).alloc (.loop (rec_ .ready none)) := ⟨_, rfl⟩
  have hD1 := row_below hD b2
  have henter := run_enterLoop_outer (P := P) (w := w) fn a.tmps ps assign body
  rw [show (w.alloc (.deferred (some []))).alloc (.loop { state := .ready, pending := none, fn, tmps := a.tmps, params := ps, assign, body, defers := w.heap.size }) = W1 from hW1.symm] at henter
  rw [← hW1] at hL bb hD1
  refine ⟨w.heap.size + 1, [{ target := .collected w.heap.size, args := #[] }], W1, { target := .fn (.func gf) lb, args := #[.func (.yield (w.heap.size + 1)) #[] #[]] }, W1, gf,
    #[.func (.yield (w.heap.size + 1)) #[] #[]] ++ lb, W1, henter, ?_, fun _ _ => trivial, ?_, fun _ => h1, ?_⟩
  · simp only [resolve, hg]; simp [go_sem]
  · simp [invoke, go_sem, eg]
  refine (hseq (w.heap.size + 1) (fun pre W => I pre W ∧ W.heap[w.heap.size + 1]? = some (.loop (rec_ .ready none)) ∧ W.heap[w.heap.size]? = some (.deferred (some [])))
    (fun pre W => Ix pre W ∧ W.heap[w.heap.size + 1]? = some (.loop (rec_ .done (some (.exit id)))) ∧ W.heap[w.heap.size]? = some (.deferred (some [])))
    (fun pre A B hJ hb => ⟨hIb _ _ _ hJ.1 hb, row_below hJ.2.1 hb, row_below hJ.2.2 hb⟩) ?_ _ bb ⟨hIb _ _ _ h0 bb, hL, hD1⟩).mono ?_
  · rintro pre x W ⟨hi, hl, hk⟩ hlen hpx
    have hy := run_yield (P := P) (args := encs x) hl (hps x)
    refine ⟨fn, _, assign, body, hy, roundIn_of_wpIn hfn (hassign _ pre x W _ hi hlen hpx fun a' Wa hkf hkp hax => ?_)⟩
    have hl := hkf.same _ _ (by omega) hl rfl
    have hk := hkf.same _ _ (Nat.le_refl _) hk rfl
    refine ⟨_, run_beginRound hl rfl, ?_⟩
    obtain ⟨hl2, hk2⟩ := put1 .busy none hl hk
    have hkp2 := hKt _ _ _ hkp (hKp Wa (w.heap.size + 1) _ (.loop (rec_ .busy none)) (by omega) hl rfl)
    refine wpIn_mono (hbody _ pre x a' _ (hAxp _ _ _ _ _ _ (.loop (rec_ .busy none)) hax (by omega) hl rfl)) ?_
    rintro e a3 W3 hp
    cases e with
    | normal =>
      obtain ⟨hf3, hk3, hi3⟩ := hp
      have hl3 := hf3.same _ _ (by omega) hl2 rfl
      have hd3 := hf3.same _ _ (Nat.le_refl _) hk2 rfl
      exact ⟨_, _, run_endRound (P := P) none hl3, .inl ⟨rfl, ⟨hIp _ _ _ _ _ hi3 (by omega) hl3 rfl, put1 .ready none hl3 hd3⟩, hKt _ _ _ hkp2 (hKt _ _ _ hk3 (hKp _ _ _ _ (by omega) hl3 rfl))⟩⟩
    | exit i =>
      obtain ⟨rfl, hf3, hi3⟩ := hp
      have hl3 := hf3.same _ _ (by omega) hl2 rfl
      have hd3 := hf3.same _ _ (Nat.le_refl _) hk2 rfl
      exact ⟨_, _, run_endRound (P := P) (some (.exit i)) hl3, .inr ⟨rfl, hIxp _ _ _ _ _ hi3 (by omega) hl3 rfl, put1 .done (some (.exit i)) hl3 hd3⟩⟩
    | ret => exact hp.elim
    | goto t => exact hp.elim
    | panic c => exact hp.elim
    | outgrown => exact hp.elim
  · rintro e W2 ⟨⟨v, rfl⟩, (⟨xs, hS, hi, hl, hk⟩ | ⟨pre, hS, hi, hl, hk⟩)⟩
    · exact ⟨none, _, run_endLoop (P := P) hl (by simp [rec_]), hdone _ xs _ (Nat.le_refl _) hS (hIp _ _ _ _ _ hi (by omega) hl rfl) (put1 .exhausted none hl hk).2⟩
    · exact ⟨some (.exit id), _, run_endLoop (P := P) hl (by simp [rec_]), hstop _ pre _ (Nat.le_refl _) hS (hIxp _ _ _ _ _ hi (by omega) hl rfl) (put1 .exhausted (some (.exit id)) hl hk).2⟩
end Go.Proofs.Ytlbpmepifegeiaa
