/- MemoryHolds: rows of pokes, and what they do to words (no program in sight). -/
import Derived.Test.YtgacnbildligjaaDoorScrub
import Derived.Test.YtgacnbildligjaaDoorFlat
namespace Go.Proofs.YtgacnbildligjaaDoor
set_option linter.unusedVariables false
open Go.RowKit

/-- a poke: what is done, where, with which number -/
abbrev Pk := Nat × Nat × Nat
def pk3 (p : Pk) : List Value := [.int .i64 (p.1 : Int), .int .i64 (p.2.1 : Int), .int .i64 (p.2.2 : Int)]
theorem pk3_len (p : Pk) : (pk3 p).length = 3 := rfl
/-- what came of a poke: a number, nothing lost, not refused -/
def po4 (r : Nat) : List Value := [.int .i64 (r : Int), .slice none 0 0, .int .i64 0, .int .i64 0]
theorem po4_len (r : Nat) : (po4 r).length = 4 := rfl

/-- the words, and which of them have a bit turned -/
abbrev Wd := Nat → Nat × Bool
def Upd (σ σ' : Wd) (k v : Nat) (d : Bool) : Prop := σ' k = (v, d) ∧ ∀ j, j ≠ k → σ' j = σ j
/-- a poke that goes well, and what it tells -/
inductive Ok (N : Nat) : Pk → Wd → Wd → Option Nat → Prop
  | load (k x : Nat) (σ σ' : Wd) : k < N → Upd σ σ' k (σ k).1 false → Ok N (1, k, x) σ σ' (some (σ k).1)
  | store (k v : Nat) (σ σ' : Wd) : k < N → v < 2 ^ 32 → Upd σ σ' k v false → Ok N (2, k, v) σ σ' none
  | turn (k p : Nat) (σ σ' : Wd) : k < N → p < 39 → (σ k).2 = false → Upd σ σ' k (σ k).1 true → Ok N (3, k, p) σ σ' none
  | scrub (x : Nat) (σ : Wd) : Ok N (4, x, N) σ (clean σ N) none

/-- pokes one behind the other -/
def Run (N : Nat) (ps : List Pk) (rs : Nat → Option Nat) (σ : Wd) : Prop :=
  ∃ st : Nat → Wd, st 0 = (fun _ => (0, false)) ∧ st ps.length = σ ∧ ∀ k (h : k < ps.length), Ok N ps[k] (st k) (st (k + 1)) (rs k)
theorem run_nil (N : Nat) (rs : Nat → Option Nat) : Run N [] rs (fun _ => (0, false)) := ⟨fun _ _ => (0, false), rfl, rfl, fun k h => absurd h (by simp)⟩
theorem run_snoc {N : Nat} {ps : List Pk} {rs : Nat → Option Nat} {σ σ' : Wd} {p : Pk} {r : Option Nat} (h : Run N ps rs σ) (hp : Ok N p σ σ' r) :
    Run N (ps ++ [p]) (fun k => if k = ps.length then r else rs k) σ' := by
  obtain ⟨st, h0, h1, h2⟩ := h
  refine ⟨fun k => if k ≤ ps.length then st k else σ', by simpa using h0, by rw [List.length_append, List.length_singleton]; exact if_neg (by omega), fun k hk => ?_⟩
  simp only [List.length_append, List.length_singleton] at hk
  by_cases e : k = ps.length
  · subst e
    simp only [Nat.le_refl, if_true]
    rw [if_neg (by omega), List.getElem_append_right (Nat.le_refl _), h1]
    simpa using hp
  · have hk' : k < ps.length := by omega
    simp only [if_pos (show k ≤ ps.length by omega), if_pos (show k + 1 ≤ ps.length by omega), if_neg e]
    rw [List.getElem_append_left hk']
    exact h2 k hk'
theorem run_ext {N : Nat} {ps : List Pk} {rs rs' : Nat → Option Nat} {σ : Wd} (h : Run N ps rs σ) (he : ∀ k, k < ps.length → rs' k = rs k) : Run N ps rs' σ := by
  obtain ⟨st, h0, h1, h2⟩ := h
  exact ⟨st, h0, h1, fun k hk => by rw [he k hk]; exact h2 k hk⟩
def upd (σ : Wd) (k v : Nat) (d : Bool) : Wd := fun j => if j = k then (v, d) else σ j
theorem upd_upd (σ : Wd) (k v : Nat) (d : Bool) : Upd σ (upd σ k v d) k v d := ⟨by simp [upd], fun j hj => by simp [upd, hj]⟩
end Go.Proofs.YtgacnbildligjaaDoor
