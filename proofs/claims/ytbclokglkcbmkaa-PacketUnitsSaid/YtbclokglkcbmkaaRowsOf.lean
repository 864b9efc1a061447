/- Rows of rows of bytes, and how it stands while units are joined. -/
import Derived.Test.YtbclokglkcbmkaaUnits
import Derived.Test.YtbclokglkcbmkaaOpenInts
import Derived.Test.YtbclokglkcbmkaaOpenRow
import Derived.Maps.AppendAt
namespace Go.Proofs.Ytbclokglkcbmkaa
set_option linter.unusedVariables false
open Go.RowKit

abbrev RB := (Option Addr × Nat × Nat) × List Nat
def rcs (R : List RB) : List Value := R.map fun r => .slice r.1.1 r.1.2.1 r.1.2.2
theorem rcs_len (R : List RB) : (rcs R).length = R.length := by simp [rcs]
theorem rcs_snoc (R : List RB) (r : RB) : rcs (R ++ [r]) = rcs R ++ [.slice r.1.1 r.1.2.1 r.1.2.2] := by simp [rcs]
def ROk (W : World) (B : Nat) (R : List RB) : Prop := ∀ r ∈ R, W.ownsRow B 5 1 (.slice r.1.1 r.1.2.1 r.1.2.2) r.1.2.1 (vb r.2)
theorem ROk.snoc {W : World} {B : Nat} {R : List RB} (h : ROk W B R) (r : RB) (hr : W.ownsRow B 5 1 (.slice r.1.1 r.1.2.1 r.1.2.2) r.1.2.1 (vb r.2)) : ROk W B (R ++ [r]) := fun x hx => by
  rcases List.mem_append.1 hx with h1 | h1
  · exact h x h1
  · simp at h1; subst h1; exact hr
def conts (R : List RB) : List (List Nat) := R.map (·.2)
theorem conts_snoc (R : List RB) (r : RB) : conts (R ++ [r]) = conts R ++ [r.2] := by simp [conts]

/-- how it stands: what was joined (got), what is wanted, what is open -/
structure St (w0 W : World) (jb : Nat) (ga wa : Option Addr) (gc wc : Nat) (R Q : List RB) (nx : Int) (us : List Nat) : Prop where
  bel : Below w0.heap.size w0 W
  og : W.ownsRow w0.heap.size 23 1 (.slice ga R.length gc) R.length (rcs R)
  ow : W.ownsRow w0.heap.size 23 1 (.slice wa Q.length wc) Q.length (rcs Q)
  apart : ∀ b, (Value.slice ga R.length gc).ownBlock = some b → (Value.slice wa Q.length wc).ownBlock = some b → False
  rg : ROk W w0.heap.size R
  rw_ : ROk W w0.heap.size Q
  jrow : ∃ ja jn jcp, us.length = jn ∧ W.heap[jb]? = some (.cells #[.int .i64 9, .int .i64 nx, .bool (opn us), .slice ja jn jcp] 37) ∧ W.ownsRow w0.heap.size 5 1 (.slice ja jn jcp) jn (vb us)
  jlo : w0.heap.size ≤ jb

theorem St.below {w0 W W' : World} {jb : Nat} {ga wa : Option Addr} {gc wc : Nat} {R Q : List RB} {nx : Int} {us : List Nat} (h : St w0 W jb ga wa gc wc R Q nx us) (hb : Below W.heap.size W W') : St w0 W' jb ga wa gc wc R Q nx us := by
  obtain ⟨ja, jn, jcp, h1, h2, h3⟩ := h.jrow
  exact ⟨h.bel.trans (hb.mono h.bel.size), ownsRow_below h.og hb, ownsRow_below h.ow hb, h.apart, fun r hr => ownsRow_below (h.rg r hr) hb, fun r hr => ownsRow_below (h.rw_ r hr) hb, ⟨ja, jn, jcp, h1, row_below h2 hb, ownsRow_below h3 hb⟩, h.jlo⟩

theorem own_ne' {w : World} {base e size n : Nat} {v : Value} {xs : List Value} (h : w.ownsRow base e size v n xs) {b T : Nat} {cs : Array Value} (A : w.heap[b]? = some (.cells cs T)) (hT : e ≠ T) : v.ownBlock = none ∨ v.ownBlock ≠ some b := own_ne h A hT

/-- the joined one is stored anew -/
theorem St.join {w0 W W' : World} {jb : Nat} {ga wa : Option Addr} {gc wc : Nat} {R Q : List RB} {nx nx' : Int} {us us' : List Nat} {ja : Option Addr} {jn jcp : Nat} (h : St w0 W jb ga wa gc wc R Q nx us) (hl : us'.length = jn)
    (hr : W'.heap[jb]? = some (.cells #[.int .i64 9, .int .i64 nx', .bool (opn us'), .slice ja jn jcp] 37)) (ho : W.ownsRow w0.heap.size 5 1 (.slice ja jn jcp) jn (vb us')) (hg : W.grownBy W' (some jb)) : St w0 W' jb ga wa gc wc R Q nx' us' := by
  obtain ⟨_, _, _, _, h2, _⟩ := h.jrow
  exact ⟨h.bel.grown hg h.bel.size (fun k e => by cases e; exact h.jlo), h.og.kept hg (own_ne h.og h2 (by decide)), h.ow.kept hg (own_ne h.ow h2 (by decide)), h.apart,
    fun r hr => (h.rg r hr).kept hg (own_ne (h.rg r hr) h2 (by decide)), fun r hr => (h.rw_ r hr).kept hg (own_ne (h.rw_ r hr) h2 (by decide)), ⟨ja, jn, jcp, hl, hr, ho.kept hg (own_ne ho h2 (by decide))⟩, h.jlo⟩

theorem row_kept {W W' : World} {base e size n b : Nat} {v : Value} {xs : List Value} {cs : Array Value} {T : TypeId} (A : W.heap[b]? = some (.cells cs T)) (h : W.ownsRow base e size v n xs) (hg : W.grownBy W' v.ownBlock) (hT : e ≠ T) : W'.heap[b]? = some (.cells cs T) := by
  refine (hg.block b (row_lt A) (fun he => ?_)).trans A
  rcases own_ne h A hT with h1 | h1
  · rw [h1] at he; cases he
  · exact h1 he.symm

/-- one more was joined -/
theorem St.addGot {w0 W W' : World} {jb : Nat} {ga wa ga' : Option Addr} {gc wc gc' : Nat} {R Q : List RB} {nx : Int} {us : List Nat} (h : St w0 W jb ga wa gc wc R Q nx us) (r : RB)
    (ho : W'.ownsRow w0.heap.size 23 1 (.slice ga' (R.length + 1) gc') (R.length + 1) (rcs R ++ [.slice r.1.1 r.1.2.1 r.1.2.2])) (hg : W.grownBy W' (Value.slice ga R.length gc).ownBlock)
    (hat : (Value.slice ga' (R.length + 1) gc').ownBlock = (Value.slice ga R.length gc).ownBlock ∨ (Value.slice ga' (R.length + 1) gc').ownBlock = some W.heap.size)
    (hr : W.ownsRow w0.heap.size 5 1 (.slice r.1.1 r.1.2.1 r.1.2.2) r.1.2.1 (vb r.2)) : St w0 W' jb ga' wa gc' wc (R ++ [r]) Q nx us := by
  obtain ⟨ja, jn, jcp, h1, h2, h3⟩ := h.jrow
  have hlen : (R ++ [r]).length = R.length + 1 := by simp
  refine ⟨h.bel.grown hg h.bel.size (fun k e => (h.og.lt k e).1), by rw [hlen, rcs_snoc]; exact ho, h.ow.kept hg ?_, fun b e1 e2 => ?_, ?_, fun x hx => (h.rw_ x hx).kept hg (own_apart (h.rw_ x hx) h.og (by decide)), ⟨ja, jn, jcp, h1, row_kept h2 h.og hg (by decide), h3.kept hg (own_apart h3 h.og (by decide))⟩, h.jlo⟩
  · rcases hb : (Value.slice wa Q.length wc).ownBlock with _ | b
    · exact .inl rfl
    · exact .inr (fun e => h.apart b e.symm hb)
  · have e1 : (Value.slice ga' (R.length + 1) gc').ownBlock = some b := by
      rw [hlen] at e1; exact e1
    rcases hat with hat | hat
    · exact h.apart b (hat.symm.trans e1) e2
    · have h9 := (h.ow.lt b e2).2
      rw [hat] at e1
      cases e1
      omega
  · exact ROk.snoc (fun x hx => (h.rg x hx).kept hg (own_apart (h.rg x hx) h.og (by decide))) r (hr.kept hg (own_apart hr h.og (by decide)))

/-- one more is wanted -/
theorem St.addWant {w0 W W' : World} {jb : Nat} {ga wa wa' : Option Addr} {gc wc wc' : Nat} {R Q : List RB} {nx : Int} {us : List Nat} (h : St w0 W jb ga wa gc wc R Q nx us) (r : RB)
    (ho : W'.ownsRow w0.heap.size 23 1 (.slice wa' (Q.length + 1) wc') (Q.length + 1) (rcs Q ++ [.slice r.1.1 r.1.2.1 r.1.2.2])) (hg : W.grownBy W' (Value.slice wa Q.length wc).ownBlock)
    (hat : (Value.slice wa' (Q.length + 1) wc').ownBlock = (Value.slice wa Q.length wc).ownBlock ∨ (Value.slice wa' (Q.length + 1) wc').ownBlock = some W.heap.size)
    (hr : W.ownsRow w0.heap.size 5 1 (.slice r.1.1 r.1.2.1 r.1.2.2) r.1.2.1 (vb r.2)) : St w0 W' jb ga wa' gc wc' R (Q ++ [r]) nx us := by
  obtain ⟨ja, jn, jcp, h1, h2, h3⟩ := h.jrow
  have hlen : (Q ++ [r]).length = Q.length + 1 := by simp
  refine ⟨h.bel.grown hg h.bel.size (fun k e => (h.ow.lt k e).1), h.og.kept hg ?_, by rw [hlen, rcs_snoc]; exact ho, fun b e2 e1 => ?_, fun x hx => (h.rg x hx).kept hg (own_apart (h.rg x hx) h.ow (by decide)), ?_, ⟨ja, jn, jcp, h1, row_kept h2 h.ow hg (by decide), h3.kept hg (own_apart h3 h.ow (by decide))⟩, h.jlo⟩
  · rcases hb : (Value.slice ga R.length gc).ownBlock with _ | b
    · exact .inl rfl
    · exact .inr (fun e => h.apart b hb e.symm)
  · have e1 : (Value.slice wa' (Q.length + 1) wc').ownBlock = some b := by
      rw [hlen] at e1; exact e1
    rcases hat with hat | hat
    · exact h.apart b e2 (hat.symm.trans e1)
    · have h9 := (h.og.lt b e2).2
      rw [hat] at e1
      cases e1
      omega
  · exact ROk.snoc (fun x hx => (h.rw_ x hx).kept hg (own_apart (h.rw_ x hx) h.ow (by decide))) r (hr.kept hg (own_apart hr h.ow (by decide)))
end Go.Proofs.Ytbclokglkcbmkaa
