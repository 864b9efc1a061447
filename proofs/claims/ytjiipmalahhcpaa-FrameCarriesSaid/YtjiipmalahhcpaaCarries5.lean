/- A great function in pieces: a piece of code by its path, what holds of the slots ahead of it and behind it; loops over such. -/
import Derived.Test.YtjiipmalahhcpaaCarries2
namespace Go.Proofs.Ytjiipmalahhcpaa
set_option linter.unusedVariables false
open Go.RowKit

/-- a frame of N slots -/
def fr (N : Nat) (y : Nat → Value) : Array Value := ((List.range N).map y).toArray
theorem fr_of {t : Array Value} {N : Nat} (h : t.size = N) : t = fr N (fun i => t.getD i undef) := by
  unfold fr
  apply Array.ext
  · simp [h]
  · intro i h1 h2
    simp [h1]
theorem fr_size (N : Nat) (y : Nat → Value) : (fr N y).size = N := by simp [fr]
theorem fr_at (N : Nat) (y : Nat → Value) (i : Nat) (h : i < N) : (fr N y).getD i undef = y i := by
  simp [fr, h]
/-- a piece of code by its path -/
def Code.at_ : List Nat → Code → Code
  | [], c => c
  | 0 :: p, .seq a _ => Code.at_ p a
  | 1 :: p, .seq _ b => Code.at_ p b
  | 0 :: p, .block _ c => Code.at_ p c
  | 0 :: p, .loop c => Code.at_ p c
  | 0 :: p, .scope c => Code.at_ p c
  | 0 :: p, .cond _ a _ => Code.at_ p a
  | 1 :: p, .cond _ _ b => Code.at_ p b
  | _, _ => .skip
def pieceOf (f : Func) (p : List Nat) : Code := Code.at_ p (f.body.getD .skip)
/-- from slots and a world where Pre holds the piece goes on to such where Post holds -/
def Tri (P : Program) (N : Nat) (c : Code) (Pre : (Nat → Value) → World → Prop) (Post : (Nat → Value) → World → (Nat → Value) → World → Prop) : Prop :=
  ∀ (Q : Exit → Act → World → Prop) (y : Nat → Value) (w : World), Pre y w → (∀ y' w', Post y w y' w' → Q .normal ⟨fr N y', []⟩ w') → Code.wp P c Q ⟨fr N y, []⟩ w
theorem Tri.use {P : Program} {N : Nat} {c : Code} {Pre : (Nat → Value) → World → Prop} {Post : (Nat → Value) → World → (Nat → Value) → World → Prop} {Q : Exit → Act → World → Prop} {t : Array Value} {w : World} (h : Tri P N c Pre Post) (hs : t.size = N)
    (hp : Pre (fun i => t.getD i undef) w) (hq : ∀ y' w', Post (fun i => t.getD i undef) w y' w' → Q .normal ⟨fr N y', []⟩ w') : Code.wp P c Q ⟨t, []⟩ w := by
  rw [fr_of hs]
  exact h Q _ w hp hq
theorem q_fr {N : Nat} {Q : Exit → Act → World → Prop} {Post : (Nat → Value) → World → Prop} {t : Array Value} {w : World} (hq : ∀ y' w', Post y' w' → Q .normal ⟨fr N y', []⟩ w') (hs : t.size = N) (hp : Post (fun i => t.getD i undef) w) : Q .normal ⟨t, []⟩ w := by
  rw [fr_of hs]
  exact hq _ w hp
/-- one statement, what follows it hidden -/
theorem wp_seq_k {P : Program} {x y : Code} {Q : Exit → Act → World → Prop} {a : Act} {w : World} (h : ∀ K : Act → World → Prop, Hid (∀ a w, Code.wp P y Q a w → K a w) → Code.wp P x (Exit.then K Q) a w) : Code.wp P (.seq x y) Q a w :=
  wp_seq (h _ (hid (fun _ _ h => h)))
/-- what holds of a frame written out -/
def Holds2 (N : Nat) (I : (Nat → Value) → World → Prop) (a : Act) (w : World) : Prop := a.tmps.size = N ∧ a.defers = [] ∧ I (fun i => a.tmps.getD i undef) w
theorem wp_loop_fr {P : Program} {c : Code} {Q : Exit → Act → World → Prop} {a : Act} {w : World} (N : Nat) (I : (Nat → Value) → World → Prop) (m : (Nat → Value) → World → Nat) (h0 : Holds2 N I a w)
    (round : ∀ (y : Nat → Value) (W : World), I y W → Code.wp P c (Exit.then (fun a' W' => Holds2 N (fun y' W' => I y' W' ∧ m y' W' < m y W) a' W') Q) ⟨fr N y, []⟩ W) : Code.wp P (.loop c) Q a w := by
  refine wp_loop (Holds2 N I) (fun a W => m (fun i => a.tmps.getD i undef) W) h0 ?_
  rintro ⟨t, ds⟩ W ⟨h1, h2, h3⟩
  dsimp only at h1 h2 h3
  subst h2
  have e := fr_of h1
  have := round (fun i => t.getD i undef) W h3
  rw [← e] at this
  intro b k cs
  obtain ⟨e, a', w', h, harr⟩ := this b k cs
  refine ⟨e, a', w', ?_, harr⟩
  cases e with
  | normal => exact ⟨⟨h.1, h.2.1, h.2.2.1⟩, h.2.2.2⟩
  | _ => exact h
end Go.Proofs.Ytjiipmalahhcpaa
/- Blocks of cells: read, written, kept. (packet/NJoin and command/NAccept hold older copies of some of these.) -/
namespace Go.Proofs.Ytjiipmalahhcpaa
set_option linter.unusedVariables false
open Go.RowKit

theorem frozen_row {W : World} {b : Nat} {cs : Array Value} {e : TypeId} (h : W.heap[b]? = some (.cells cs e)) (i : Nat) : W.frozen? ⟨b, i, none⟩ = false := by simp [World.frozen?, show W.heap[b]? = _ from h]
theorem row_below {W W' : World} {b : Nat} {o : Obj} (h : W.heap[b]? = some o) (hb : Below W.heap.size W W') : W'.heap[b]? = some o := (hb.block b (Array.getElem?_eq_some_iff.1 h).1).trans h
theorem row_grown {W W' : World} {b k : Nat} {o : Obj} (h : W.heap[b]? = some o) (hg : W.grownBy W' (some k)) (hne : b ≠ k) : W'.heap[b]? = some o := (hg.block b (Array.getElem?_eq_some_iff.1 h).1 (fun e => hne (by cases e; rfl))).trans h
theorem row_lt {W : World} {b : Nat} {o : Obj} (h : W.heap[b]? = some o) : b < W.heap.size := (Array.getElem?_eq_some_iff.1 h).1
theorem grown1 (W : World) (b i : Nat) (v : Value) : W.grownBy (W.setCell ⟨b, i, none⟩ v) (some b) :=
  ⟨rfl, rfl, rfl, by simp, fun k hk hne => heap_setCell_other W ⟨b, i, none⟩ k v (fun e => hne (by rw [e]))⟩
/-- one cell of a row is stored to -/
theorem set_row {W : World} {b : Nat} {cs cs' : Array Value} {e : TypeId} (A : W.heap[b]? = some (.cells cs e)) (i : Nat) (v : Value) (h : cs.setIfInBounds i v = cs') : (W.setCell ⟨b, i, none⟩ v).heap[b]? = some (.cells cs' e) ∧ W.grownBy (W.setCell ⟨b, i, none⟩ v) (some b) :=
  ⟨(heap_setCell_same W b i _ e v A).trans (by rw [h]), grown1 W b i v⟩
/-- an own row lies in no block of another type -/
theorem own_ne {w : World} {base e size n : Nat} {v : Value} {xs : List Value} (h : w.ownsRow base e size v n xs) {b T : Nat} {cs : Array Value} (A : w.heap[b]? = some (.cells cs T)) (hT : e ≠ T) : v.ownBlock = none ∨ v.ownBlock ≠ some b := by
  rcases h.2 with ⟨rfl, _⟩ | ⟨g, cap, cur, rfl, _, hg, _⟩
  · exact .inl rfl
  · refine .inr ?_
    simp only [Value.ownBlock, ne_eq, Option.some.injEq]
    intro he
    subst he
    rw [A] at hg
    injection hg with h1
    injection h1 with h2 h3
    exact hT h3.symm
/-- a block of another type is kept when a row grows -/
theorem row_kept {W W' : World} {base e size n b : Nat} {v : Value} {xs : List Value} {cs : Array Value} {T : TypeId} (A : W.heap[b]? = some (.cells cs T)) (h : W.ownsRow base e size v n xs) (hg : W.grownBy W' v.ownBlock) (hT : e ≠ T) : W'.heap[b]? = some (.cells cs T) := by
  refine (hg.block b (row_lt A) (fun he => ?_)).trans A
  rcases own_ne h A hT with h1 | h1
  · rw [h1] at he; cases he
  · exact h1 he.symm
/-- a block below where the row begins is kept when the row grows -/
theorem row_kept_lo {W W' : World} {base e size n b : Nat} {v : Value} {xs : List Value} {o : Obj} (A : W.heap[b]? = some o) (h : W.ownsRow base e size v n xs) (hg : W.grownBy W' v.ownBlock) (hT : b < base) : W'.heap[b]? = some o := by
  refine (hg.block b (row_lt A) (fun he => ?_)).trans A
  have := (h.lt b he.symm).1
  omega
theorem row_drew {W : World} {b : Nat} {o : Obj} (h : W.heap[b]? = some o) : W.drew.heap[b]? = some o := h
/-- an own slice that is not empty lies in a block -/
theorem own_addr {w : World} {B e s n : Nat} {a : Option Addr} {c : Nat} {xs : List Value} (h : w.ownsRow B e s (.slice a n c) n xs) (hn : 0 < n) : ∃ g, a = some ⟨g, 0, none⟩ := by
  obtain ⟨_, ⟨h1, h2⟩ | ⟨g, cap, cur, h1, _⟩⟩ := h
  · omega
  · cases h1; exact ⟨g, rfl⟩
/-- two blocks may be turned, the others stay -/
structure Kept2 (W W' : World) (a b : Nat) : Prop where
  os : W'.os = W.os
  tape : W'.tape = W.tape
  output : W'.output = W.output
  size : W.heap.size ≤ W'.heap.size
  block : ∀ k, k < W.heap.size → k ≠ a → k ≠ b → W'.heap[k]? = W.heap[k]?
theorem Kept2.refl (W : World) (a b : Nat) : Kept2 W W a b := ⟨rfl, rfl, rfl, Nat.le_refl _, fun _ _ _ _ => rfl⟩
theorem Kept2.trans {W W' W'' : World} {a b : Nat} (h : Kept2 W W' a b) (k : Kept2 W' W'' a b) : Kept2 W W'' a b :=
  ⟨k.os.trans h.os, k.tape.trans h.tape, k.output.trans h.output, Nat.le_trans h.size k.size, fun i hi ha hb => (k.block i (Nat.lt_of_lt_of_le hi h.size) ha hb).trans (h.block i hi ha hb)⟩
theorem Kept2.left {W W' : World} {a b : Nat} (h : W.grownBy W' (some a)) : Kept2 W W' a b := ⟨h.os, h.tape, h.output, h.size, fun k hk ha _ => h.block k hk (fun e => ha (by cases e; rfl))⟩
theorem Kept2.right {W W' : World} {a b : Nat} (h : W.grownBy W' (some b)) : Kept2 W W' a b := ⟨h.os, h.tape, h.output, h.size, fun k hk _ hb => h.block k hk (fun e => hb (by cases e; rfl))⟩
theorem Kept2.ofBelow {W W' : World} {a b : Nat} (h : Below W.heap.size W W') : Kept2 W W' a b := ⟨h.os, h.tape, h.output, h.size, fun k hk _ _ => h.block k hk⟩
theorem Kept2.row {W W' : World} {a b k : Nat} {o : Obj} (h : Kept2 W W' a b) (hr : W.heap[k]? = some o) (ha : k ≠ a) (hb : k ≠ b) : W'.heap[k]? = some o := (h.block k (row_lt hr) ha hb).trans hr
theorem Kept2.below {W W' : World} {a b B : Nat} (h : Kept2 W W' a b) (ha : B ≤ a) (hb : B ≤ b) (hB : B ≤ W.heap.size) : Below B W W' := ⟨h.os, h.tape, h.output, h.size, fun k hk => h.block k (by omega) (by omega) (by omega)⟩
theorem Kept2.own {W W' : World} {a b : Nat} {base e size n : Nat} {v : Value} {xs : List Value} (h : Kept2 W W' a b) (ho : W.ownsRow base e size v n xs) (ha : v.ownBlock ≠ some a) (hb : v.ownBlock ≠ some b) : W'.ownsRow base e size v n xs := by
  refine ⟨ho.1, ho.2.imp id ?_⟩
  rintro ⟨g, cap, cur, hv, hg, hr, hrest⟩
  refine ⟨g, cap, cur, hv, hg, h.row hr (fun e => ha ?_) (fun e => hb ?_), hrest⟩
  · rw [hv, e]; rfl
  · rw [hv, e]; rfl
end Go.Proofs.Ytjiipmalahhcpaa
/- Rows whose elements have c cells each, as one list of cells. -/
namespace Go.Proofs.Ytjiipmalahhcpaa
set_option linter.unusedVariables false
open Go.RowKit

theorem flat_len {α : Type} (f : α → List Value) (c : Nat) (hf : ∀ x, (f x).length = c) (l : List α) : (l.flatMap f).length = l.length * c := by
  induction l with
  | nil => simp
  | cons x l ih => rw [List.flatMap_cons, List.length_append, ih, hf, List.length_cons, Nat.add_mul, Nat.one_mul, Nat.add_comm]
theorem flat_snoc {α : Type} (f : α → List Value) (l : List α) (x : α) : (l ++ [x]).flatMap f = l.flatMap f ++ f x := by simp
theorem flat_at {α : Type} (f : α → List Value) (c : Nat) (hf : ∀ x, (f x).length = c) (l : List α) (j : Nat) (h : j < l.length) (k : Nat) (hk : k < c) : (l.flatMap f)[j * c + k]? = (f (l[j]))[k]? := by
  induction l generalizing j with
  | nil => simp at h
  | cons x l ih =>
    rw [List.flatMap_cons]
    cases j with
    | zero => rw [List.getElem?_append_left (by rw [hf]; omega)]; simp
    | succ j =>
      have e : (j + 1) * c + k = c + (j * c + k) := by rw [Nat.add_mul, Nat.one_mul]; omega
      rw [List.getElem?_append_right (by rw [hf]; omega), hf, e, Nat.add_sub_cancel_left, ih j (by simpa using h)]
      simp
/-- a row of an own block, read at element j, cell k -/
theorem own_flat {α : Type} {w : World} {B e c n cap : Nat} {g : Nat} (f : α → List Value) (hf : ∀ x, (f x).length = c) {l : List α} (h : w.ownsRow B e c (.slice (some ⟨g, 0, none⟩) n cap) n (l.flatMap f)) (hl : l.length = n) (j : Nat) (hj : j < n) (k : Nat) (hk : k < c) :
    w.cell? ⟨g, j * c + k, none⟩ = (f (l[j]'(by omega)))[k]? := by
  have h1 : (j + 1) * c ≤ n * c := Nat.mul_le_mul_right _ hj
  rw [Nat.add_mul, Nat.one_mul] at h1
  rw [h.cellAt _ (by omega), flat_at f c hf l j (by omega) k hk]
/-- a block made of a list of cells, read -/
theorem new_cells (w : World) (l : List Value) (e : TypeId) : ∀ (j : Nat) (x : Value), l[j]? = some x → (w.alloc (.cells l.toArray e)).cell? ((⟨w.heap.size, 0, none⟩ : Addr).add j) = some x := by
  intro j x hj
  rw [Addr.add_lit, World.cell?_alloc_at _ _ _ _ rfl, Nat.zero_add]
  simpa using hj
end Go.Proofs.Ytjiipmalahhcpaa
