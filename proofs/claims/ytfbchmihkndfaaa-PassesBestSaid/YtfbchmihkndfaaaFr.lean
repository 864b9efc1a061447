/- A great function in pieces: a piece of code by its path, what holds of the slots ahead of it and behind it; loops over such. -/
import Derived.Test.YtfbchmihkndfaaaSl
namespace Go.Proofs.Ytfbchmihkndfaaa
set_option linter.unusedVariables false
open Go.RowKit

/-- a frame of N slots -/
def fr (N : Nat) (y : Nat → Value) : Array Value := ((List.range N).map y).toArray
theorem fr_of {t : Array Value} {N : Nat} (h : t.size = N) : t = fr N (fun i => t.getD i undef) := by
  unfold fr
  apply Array.ext
  · simp [h]
  · intro i h1 h2
    simp [h1]
theorem fr_size (N : Nat) (y : Nat → Value) : (fr N y).size = N := by simp [fr]
theorem fr_at (N : Nat) (y : Nat → Value) (i : Nat) (h : i < N) : (fr N y).getD i undef = y i := by
  simp [fr, h]
/-- a piece of code by its path -/
def Code.at_ : List Nat → Code → Code
  | [], c => c
  | 0 :: p, .seq a _ => Code.at_ p a
  | 1 :: p, .seq _ b => Code.at_ p b
  | 0 :: p, .block _ c => Code.at_ p c
  | 0 :: p, .loop c => Code.at_ p c
  | 0 :: p, .scope c => Code.at_ p c
  | 0 :: p, .cond _ a _ => Code.at_ p a
  | 1 :: p, .cond _ _ b => Code.at_ p b
  | _, _ => .skip
def pieceOf (f : Func) (p : List Nat) : Code := Code.at_ p (f.body.getD .skip)
/-- from slots and a world where Pre holds the piece goes on to such where Post holds -/
def Tri (P : Program) (N : Nat) (c : Code) (Pre : (Nat → Value) → World → Prop) (Post : (Nat → Value) → World → (Nat → Value) → World → Prop) : Prop :=
  ∀ (Q : Exit → Act → World → Prop) (y : Nat → Value) (w : World), Pre y w → (∀ y' w', Post y w y' w' → Q .normal ⟨fr N y', []⟩ w') → Code.wp P c Q ⟨fr N y, []⟩ w
theorem Tri.use {P : Program} {N : Nat} {c : Code} {Pre : (Nat → Value) → World → Prop} {Post : (Nat → Value) → World → (Nat → Value) → World → Prop} {Q : Exit → Act → World → Prop} {t : Array Value} {w : World} (h : Tri P N c Pre Post) (hs : t.size = N)
    (hp : Pre (fun i => t.getD i undef) w) (hq : ∀ y' w', Post (fun i => t.getD i undef) w y' w' → Q .normal ⟨fr N y', []⟩ w') : Code.wp P c Q ⟨t, []⟩ w := by
  rw [fr_of hs]
  exact h Q _ w hp hq
theorem q_fr {N : Nat} {Q : Exit → Act → World → Prop} {Post : (Nat → Value) → World → Prop} {t : Array Value} {w : World} (hq : ∀ y' w', Post y' w' → Q .normal ⟨fr N y', []⟩ w') (hs : t.size = N) (hp : Post (fun i => t.getD i undef) w) : Q .normal ⟨t, []⟩ w := by
  rw [fr_of hs]
  exact hq _ w hp
/-- one statement, what follows it hidden -/
theorem wp_seq_k {P : Program} {x y : Code} {Q : Exit → Act → World → Prop} {a : Act} {w : World} (h : ∀ K : Act → World → Prop, Hid (∀ a w, Code.wp P y Q a w → K a w) → Code.wp P x (Exit.then K Q) a w) : Code.wp P (.seq x y) Q a w :=
  wp_seq (h _ (hid (fun _ _ h => h)))
/-- what holds of a frame written out -/
def Holds2 (N : Nat) (I : (Nat → Value) → World → Prop) (a : Act) (w : World) : Prop := a.tmps.size = N ∧ a.defers = [] ∧ I (fun i => a.tmps.getD i undef) w
theorem wp_loop_fr {P : Program} {c : Code} {Q : Exit → Act → World → Prop} {a : Act} {w : World} (N : Nat) (I : (Nat → Value) → World → Prop) (m : (Nat → Value) → World → Nat) (h0 : Holds2 N I a w)
    (round : ∀ (y : Nat → Value) (W : World), I y W → Code.wp P c (Exit.then (fun a' W' => Holds2 N (fun y' W' => I y' W' ∧ m y' W' < m y W) a' W') Q) ⟨fr N y, []⟩ W) : Code.wp P (.loop c) Q a w := by
  refine wp_loop (Holds2 N I) (fun a W => m (fun i => a.tmps.getD i undef) W) h0 ?_
  rintro ⟨t, ds⟩ W ⟨h1, h2, h3⟩
  dsimp only at h1 h2 h3
  subst h2
  have e := fr_of h1
  have := round (fun i => t.getD i undef) W h3
  rw [← e] at this
  intro b k cs
  obtain ⟨e, a', w', h, harr⟩ := this b k cs
  refine ⟨e, a', w', ?_, harr⟩
  cases e with
  | normal => exact ⟨⟨h.1, h.2.1, h.2.2.1⟩, h.2.2.2⟩
  | _ => exact h
end Go.Proofs.Ytfbchmihkndfaaa
