/- A function that ranges over functions in a loop leaves with a mark for each range: they are taken over one by one. -/
import Derived.RangeFuncNested
import Derived.RangeFuncBound
import Derived.RangeFuncCalls
import Derived.RangeFuncLeaves
import Derived.RangeFuncBox
import Derived.WalkKit
import Derived.Below
namespace Go.Proofs.Ytlbpmepifegeiaa
set_option linter.unusedVariables false
open Go.RowKit

/-- the marks of ranges that are over, each with its block from B on -/
def Marks (B : Nat) : List Deferred → World → Prop
  | [], _ => True
  | d :: ds, W => (∃ D, d = { target := .collected D, args := #[] } ∧ B ≤ D ∧ W.heap[D]? = some (.deferred (some []))) ∧ (∀ d' ∈ ds, d' ≠ d) ∧ Marks B ds W

theorem Marks.mono {B : Nat} {ds : List Deferred} {W W' : World} (h : Marks B ds W) (k : ∀ D, B ≤ D → ({ target := .collected D, args := #[] } : Deferred) ∈ ds → W.heap[D]? = some (.deferred (some [])) → W'.heap[D]? = some (.deferred (some []))) : Marks B ds W' := by
  induction ds with
  | nil => trivial
  | cons d ds ih =>
    obtain ⟨⟨D, rfl, hB, hD⟩, hn, hr⟩ := h
    exact ⟨⟨D, rfl, hB, k D hB List.mem_cons_self hD⟩, hn, ih hr (fun E hE hm => k E hE (List.mem_cons_of_mem _ hm))⟩
theorem Marks.below {B : Nat} {ds : List Deferred} {W W' : World} (h : Marks B ds W) (hb : Below W.heap.size W W') : Marks B ds W' :=
  h.mono fun D _ _ hD => (hb.block D (Array.getElem?_eq_some_iff.1 hD).1).trans hD
theorem Marks.grown {B : Nat} {ds : List Deferred} {W W' : World} {g : Nat} {cs : Array Value} {e : TypeId} (h : Marks B ds W) (hg : W.grownBy W' (some g)) (hc : W.heap[g]? = some (.cells cs e)) : Marks B ds W' :=
  h.mono fun D _ _ hD => (hg.block D (Array.getElem?_eq_some_iff.1 hD).1 (fun he => by cases he; rw [hc] at hD; cases hD)).trans hD
theorem Marks.lt {B : Nat} {ds : List Deferred} {W : World} (h : Marks B ds W) {D : Nat} (hD : W.heap.size ≤ D) : ∀ d' ∈ ds, d' ≠ ({ target := .collected D, args := #[] } : Deferred) := by
  induction ds with
  | nil => intro d' hd; cases hd
  | cons d ds ih =>
    obtain ⟨⟨E, rfl, hB, hE⟩, hn, hr⟩ := h
    intro d' hd
    rcases List.mem_cons.1 hd with rfl | h1
    · intro he
      have h2 : E = D := by injection he with h3 h4; injection h3
      have := (Array.getElem?_eq_some_iff.1 hE).1
      omega
    · exact ih hr d' h1

theorem leaves_marks {n B : Nat} {P : Program} {fn : Func} {tmps : Array Value} {R : Ending → World → Prop} : ∀ (ds : List Deferred) (W : World), Marks B ds W →
    (∀ W', Below B W W' → (∀ (g : Nat) (o : Obj), W.heap[g]? = some o → o.isCells = true → W'.heap[g]? = some o) → ∃ v, (results fn tmps).run P W' = .ok v W' ∧ R (.returned v) W') → LeavesInM Fence.wide n P fn tmps R ds .returning W
  | [], W, _, h => h W (Below.refl _ _) (fun _ _ h _ => h)
  | d :: ds, W, hM, h => by
    obtain ⟨⟨D, rfl, hB, hD⟩, hn, hr⟩ := hM
    have hlt := (Array.getElem?_eq_some_iff.1 hD).1
    have hg := grownBy_putObj' W D (.deferred none)
    refine ⟨by simp, .inl ⟨D, W.putObj D (.deferred none), rfl, run_takeDeferred hD, ?_⟩⟩
    refine leaves_marks ds _ (hr.mono fun E _ hm hE => (hg.block E (Array.getElem?_eq_some_iff.1 hE).1 (fun he => by cases he; exact hn _ hm rfl)).trans hE) (fun W' hb hk => ?_)
    refine h W' (((Below.refl B W).grown hg (by omega) (fun k e => by cases e; exact hB)).trans hb) (fun g o ho hc => hk g o ((hg.block g (Array.getElem?_eq_some_iff.1 ho).1 (fun he => ?_)).trans ho) hc)
    cases he
    rw [hD] at ho
    cases ho
    cases hc
end Go.Proofs.Ytlbpmepifegeiaa
