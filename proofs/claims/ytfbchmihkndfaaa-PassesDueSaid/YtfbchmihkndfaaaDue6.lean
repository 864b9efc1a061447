/- Passes: insertion sort in plain words. -/
import Derived.Test.YtfbchmihkndfaaaDue5
import Derived.Test.YtfbchmihkndfaaaDue2
namespace Go.Proofs.Ytfbchmihkndfaaa
set_option linter.unusedVariables false
open Go.RowKit

def Desc (f : Nat → Nat) (l : List Nat) : Prop := l.Pairwise (fun a b => f b ≤ f a)
/-- the first i are in order -/
structure Srt (f : Nat → Nat) (L0 L : List Nat) (i : Nat) : Prop where
  perm : L.Perm L0
  ord : Desc f (L.take i)
/-- the i-th is on its way, at place j -/
structure Ins (f : Nat → Nat) (L0 L : List Nat) (i j : Nat) : Prop where
  ex : ∃ P x S R, L = P ++ x :: (S ++ R) ∧ P.length = j ∧ j + S.length = i ∧ Desc f (P ++ S) ∧ ∀ s ∈ S, f s < f x
  perm : L.Perm L0
theorem Srt.start {f : Nat → Nat} {L0 L : List Nat} {i : Nat} (h : Srt f L0 L i) (hi : i < L.length) : Ins f L0 L i i :=
  ⟨⟨L.take i, L[i], [], L.drop (i + 1), by rw [List.nil_append, ← List.drop_eq_getElem_cons hi, List.take_append_drop], by rw [List.length_take]; omega, rfl, by rw [List.append_nil]; exact h.ord, fun s hs => by cases hs⟩, h.perm⟩
theorem nth_mid (P : List Nat) (x : Nat) (T : List Nat) : nth (P ++ x :: T) P.length = x := by
  unfold nth
  rw [List.getD_eq_getElem?_getD, List.getElem?_append_right (Nat.le_refl _), Nat.sub_self]
  rfl
theorem Ins.step {f : Nat → Nat} {L0 L : List Nat} {i j : Nat} (h : Ins f L0 L i (j + 1)) (hlt : f (nth L j) < f (nth L (j + 1))) : Ins f L0 ((L.set (j + 1) (nth L j)).set j (nth L (j + 1))) i j := by
  obtain ⟨⟨P, x, S, R, rfl, hP, hS, hD, hx⟩, hp⟩ := h
  obtain ⟨P', p, rfl⟩ : ∃ P' p, P = P' ++ [p] := by
    rcases List.eq_nil_or_concat P with h | ⟨P', p, h⟩
    · rw [h] at hP; simp at hP
    · exact ⟨P', p, by rw [h]; simp⟩
  have hl : P'.length = j := by simp at hP; omega
  subst hl
  have e0 : P' ++ [p] ++ x :: (S ++ R) = P' ++ p :: (x :: (S ++ R)) := by simp
  have n1 : nth (P' ++ [p] ++ x :: (S ++ R)) (P'.length + 1) = x := by
    have := nth_mid (P' ++ [p]) x (S ++ R)
    rwa [hP] at this
  have n0 : nth (P' ++ [p] ++ x :: (S ++ R)) P'.length = p := by rw [e0]; exact nth_mid _ _ _
  rw [n0, n1] at hlt ⊢
  have e1 : ((P' ++ [p] ++ x :: (S ++ R)).set (P'.length + 1) p).set P'.length x = P' ++ x :: (p :: S ++ R) := by
    rw [e0]
    simp
  rw [e1]
  refine ⟨⟨P', x, p :: S, R, by simp, rfl, by rw [List.length_cons]; omega, ?_, ?_⟩, ?_⟩
  · have : P' ++ p :: S = P' ++ [p] ++ S := by simp
    rw [this]; exact hD
  · intro s hs
    rcases List.mem_cons.1 hs with h | h
    · rw [h]; exact hlt
    · exact hx s h
  · refine List.Perm.trans ?_ hp
    rw [e0]
    exact List.Perm.append_left _ (List.Perm.swap _ _ _)
theorem Ins.stop {f : Nat → Nat} {L0 L : List Nat} {i j : Nat} (h : Ins f L0 L i j) (hs : j = 0 ∨ f (nth L j) ≤ f (nth L (j - 1))) : Srt f L0 L (i + 1) := by
  obtain ⟨⟨P, x, S, R, rfl, hP, hS, hD, hx⟩, hp⟩ := h
  refine ⟨hp, ?_⟩
  have e : (P ++ x :: (S ++ R)).take (i + 1) = P ++ x :: S := by
    rw [List.take_append]
    have h1 : i + 1 - P.length = S.length + 1 := by omega
    rw [List.take_of_length_le (by omega), h1, List.take_succ_cons, List.take_left]
  unfold Desc at *
  rw [e]
  rw [List.pairwise_append] at hD ⊢
  obtain ⟨d1, d2, d3⟩ := hD
  refine ⟨d1, List.pairwise_cons.2 ⟨fun s hs => Nat.le_of_lt (hx s hs), d2⟩, fun a ha b hb => ?_⟩
  rcases List.mem_cons.1 hb with hb | hb
  · subst hb
    rcases hs with hs | hs
    · subst hs
      rw [List.eq_nil_of_length_eq_zero hP] at ha
      cases ha
    · rcases List.eq_nil_or_concat P with h | ⟨P', p, h⟩
      · rw [h] at ha; cases ha
      · rw [List.concat_eq_append] at h
        subst h
        have hj : j - 1 = P'.length := by simp at hP; omega
        have e0 : P' ++ [p] ++ b :: (S ++ R) = P' ++ p :: (b :: (S ++ R)) := by simp
        have n1 : nth (P' ++ [p] ++ b :: (S ++ R)) j = b := by
          have := nth_mid (P' ++ [p]) b (S ++ R)
          rwa [hP] at this
        have n0 : nth (P' ++ [p] ++ b :: (S ++ R)) (j - 1) = p := by rw [hj, e0]; exact nth_mid _ _ _
        rw [n0, n1] at hs
        rcases List.mem_append.1 ha with h1 | h1
        · exact Nat.le_trans hs ((List.pairwise_append.1 d1).2.2 a h1 p (by simp))
        · rw [List.mem_singleton] at h1; subst h1; exact hs
  · exact d3 a ha b hb
end Go.Proofs.Ytfbchmihkndfaaa
/- A great function in pieces: a piece of code by its path, what holds of the slots ahead of it and behind it; loops over such. -/
namespace Go.Proofs.Ytfbchmihkndfaaa
set_option linter.unusedVariables false
open Go.RowKit

/-- a frame of N slots -/
def fr (N : Nat) (y : Nat → Value) : Array Value := ((List.range N).map y).toArray
theorem fr_of {t : Array Value} {N : Nat} (h : t.size = N) : t = fr N (fun i => t.getD i undef) := by
  unfold fr
  apply Array.ext
  · simp [h]
  · intro i h1 h2
    simp [h1]
theorem fr_size (N : Nat) (y : Nat → Value) : (fr N y).size = N := by simp [fr]
theorem fr_at (N : Nat) (y : Nat → Value) (i : Nat) (h : i < N) : (fr N y).getD i undef = y i := by
  simp [fr, h]
/-- a piece of code by its path -/
def Code.at_ : List Nat → Code → Code
  | [], c => c
  | 0 :: p, .seq a _ => Code.at_ p a
  | 1 :: p, .seq _ b => Code.at_ p b
  | 0 :: p, .block _ c => Code.at_ p c
  | 0 :: p, .loop c => Code.at_ p c
  | 0 :: p, .scope c => Code.at_ p c
  | 0 :: p, .cond _ a _ => Code.at_ p a
  | 1 :: p, .cond _ _ b => Code.at_ p b
  | _, _ => .skip
def pieceOf (f : Func) (p : List Nat) : Code := Code.at_ p (f.body.getD .skip)
/-- from slots and a world where Pre holds the piece goes on to such where Post holds -/
def Tri (P : Program) (N : Nat) (c : Code) (Pre : (Nat → Value) → World → Prop) (Post : (Nat → Value) → World → (Nat → Value) → World → Prop) : Prop :=
  ∀ (Q : Exit → Act → World → Prop) (y : Nat → Value) (w : World), Pre y w → (∀ y' w', Post y w y' w' → Q .normal ⟨fr N y', []⟩ w') → Code.wp P c Q ⟨fr N y, []⟩ w
theorem Tri.use {P : Program} {N : Nat} {c : Code} {Pre : (Nat → Value) → World → Prop} {Post : (Nat → Value) → World → (Nat → Value) → World → Prop} {Q : Exit → Act → World → Prop} {t : Array Value} {w : World} (h : Tri P N c Pre Post) (hs : t.size = N)
    (hp : Pre (fun i => t.getD i undef) w) (hq : ∀ y' w', Post (fun i => t.getD i undef) w y' w' → Q .normal ⟨fr N y', []⟩ w') : Code.wp P c Q ⟨t, []⟩ w := by
  rw [fr_of hs]
  exact h Q _ w hp hq
theorem q_fr {N : Nat} {Q : Exit → Act → World → Prop} {Post : (Nat → Value) → World → Prop} {t : Array Value} {w : World} (hq : ∀ y' w', Post y' w' → Q .normal ⟨fr N y', []⟩ w') (hs : t.size = N) (hp : Post (fun i => t.getD i undef) w) : Q .normal ⟨t, []⟩ w := by
  rw [fr_of hs]
  exact hq _ w hp
/-- one statement, what follows it hidden -/
theorem wp_seq_k {P : Program} {x y : Code} {Q : Exit → Act → World → Prop} {a : Act} {w : World} (h : ∀ K : Act → World → Prop, Hid (∀ a w, Code.wp P y Q a w → K a w) → Code.wp P x (Exit.then K Q) a w) : Code.wp P (.seq x y) Q a w :=
  wp_seq (h _ (hid (fun _ _ h => h)))
/-- what holds of a frame written out -/
def Holds2 (N : Nat) (I : (Nat → Value) → World → Prop) (a : Act) (w : World) : Prop := a.tmps.size = N ∧ a.defers = [] ∧ I (fun i => a.tmps.getD i undef) w
theorem wp_loop_fr {P : Program} {c : Code} {Q : Exit → Act → World → Prop} {a : Act} {w : World} (N : Nat) (I : (Nat → Value) → World → Prop) (m : (Nat → Value) → World → Nat) (h0 : Holds2 N I a w)
    (round : ∀ (y : Nat → Value) (W : World), I y W → Code.wp P c (Exit.then (fun a' W' => Holds2 N (fun y' W' => I y' W' ∧ m y' W' < m y W) a' W') Q) ⟨fr N y, []⟩ W) : Code.wp P (.loop c) Q a w := by
  refine wp_loop (Holds2 N I) (fun a W => m (fun i => a.tmps.getD i undef) W) h0 ?_
  rintro ⟨t, ds⟩ W ⟨h1, h2, h3⟩
  dsimp only at h1 h2 h3
  subst h2
  have e := fr_of h1
  have := round (fun i => t.getD i undef) W h3
  rw [← e] at this
  intro b k cs
  obtain ⟨e, a', w', h, harr⟩ := this b k cs
  refine ⟨e, a', w', ?_, harr⟩
  cases e with
  | normal => exact ⟨⟨h.1, h.2.1, h.2.2.1⟩, h.2.2.2⟩
  | _ => exact h
end Go.Proofs.Ytfbchmihkndfaaa
/- Regions that draw their order, in two parts that need not be parted in the text: what is loud in the second part waits for all that looks at memory in the first. -/
namespace Go.Proofs.Ytfbchmihkndfaaa
set_option linter.unusedVariables false
section
variable {P : Program} {ops : Array Oper} {md : Region.Mode} {Q : Exit → Act → World → Prop} {S1 S2 : World → World → Prop}

def wpY (P : Program) (md : Region.Mode) (ops : Array Oper) (Q : Exit → Act → World → Prop) (T : Nat → World → World → Prop) (E : Act → World → Prop) : Nat → Array Bool → Act → World → Prop
  | 0, listed, a, w => Region.ready md ops listed = [] ∧ E a w
  | f + 1, listed, a, w => Region.ready md ops listed ≠ [] ∧
    ∀ i ∈ Region.ready md ops listed, wpOp P ops Q i (fun a' w' => T i w w' ∧ wpY P md ops Q T E f (listed.setIfInBounds i true) a' w') a w

theorem wpAny_of_Y {T : Nat → World → World → Prop} {E : Act → World → Prop} (hE : ∀ a w, E a w → Q .normal a w) :
    ∀ (f : Nat) (listed : Array Bool) (a : Act) (w : World), wpY P md ops Q T E f listed a w → wpAny P md ops Q f listed a w
  | 0, listed, a, w, h => ⟨h.1, hE _ _ h.2⟩
  | f + 1, listed, a, w, h => ⟨fun h0 => absurd h0 h.1, fun i hi => wpOp_mono (fun a' w' h' => wpAny_of_Y hE f _ a' w' h'.2) (h.2 i hi)⟩

theorem wpY_first {T : Nat → World → World → Prop} {R : World → World → Prop} {E : Act → World → Prop} {i : Nat} {oi : Oper} {v : Value} (hi : ops[i]? = some oi) (hsel : ∀ (j : Nat) (o : Oper) cs b, ops[j]? = some o → o.op ≠ .select cs b)
    (hQ : ∀ c a d v w, Q (.panic c) (a.put d v) w → Q (.panic c) a w) (hTrefl : ∀ j w, T j w w) (hrefl : ∀ w, R w w) (htrans : ∀ a b c, R a b → R b c → R a c)
    (hTR : ∀ (j : Nat) (oj : Oper), ops[j]? = some oj → j ≠ i → (∀ e ∈ oj.after, Region.binds md e = true → e.on ≠ i) → ∀ w w', T j w w' → R w w') :
    ∀ (f : Nat) (listed : Array Bool) (a : Act) (w : World),
      (∀ j oj, ops[j]? = some oj → j ≠ i → listed.getD j true = false → (∀ e ∈ oj.after, Region.binds md e = true → e.on ≠ i) → oi.apart ops oj = true) →
      i ∈ Region.ready md ops listed → YieldsIf P ops (R w) oi v a →
      wpY P md ops Q T E f (listed.setIfInBounds i true) (a.put oi.dst v) w → wpY P md ops Q T E (f + 1) listed a w := by
  intro f
  induction f with
  | zero =>
    intro listed a w _ hr hy H
    refine ⟨fun h => (by rw [h] at hr; cases hr), fun j hj => ?_⟩
    by_cases hji : j = i
    · subst hji; exact hy.wpOp hi (hrefl w) ⟨hTrefl j w, H⟩
    · have h1 := ready_mono hj hji
      rw [H.1] at h1
      cases h1
  | succ f ih =>
    intro listed a w hfree hr hy H
    refine ⟨fun h => (by rw [h] at hr; cases hr), fun j hj => ?_⟩
    by_cases hji : j = i
    · subst hji; exact hy.wpOp hi (hrefl w) ⟨hTrefl j w, H⟩
    · have h1 := H.2 j (ready_mono hj hji)
      obtain ⟨hjun, oj, hoj, hall⟩ := mem_ready.1 hj
      have hnot : ∀ e ∈ oj.after, Region.binds md e = true → e.on ≠ i := fun e he hb heq => by
        have h1 := hall e he hb
        rw [heq, getD_both (mem_ready.1 hr).1] at h1
        cases h1
      have h2 := wpOp_putIf hoj (hfree j oj hoj hji hjun hnot) (fun cs b => hsel i oi cs b hi) (fun cs b => hsel j oj cs b hoj) (fun c a w => hQ c a _ _ w) hy h1
      have hfree' : ∀ k ok, ops[k]? = some ok → k ≠ i → (listed.setIfInBounds j true).getD k true = false →
          (∀ e ∈ ok.after, Region.binds md e = true → e.on ≠ i) → oi.apart ops ok = true := fun k ok hk hki hun hno => by
        refine hfree k ok hk hki ?_ hno
        by_cases hjk : j = k
        · subst hjk; exact hjun
        · rw [getD_set_ne true hjk] at hun; exact hun
      refine wpOp_mono (fun a' w' h3 => ⟨h3.2.1, ih (listed.setIfInBounds j true) a' w' hfree' (ready_mono hr (Ne.symm hji)) (yieldsIf_mono h3.1 fun w2 h => htrans _ _ _ (hTR j oj hoj hji hnot _ _ h3.2.1) h) ?_⟩) h2
      rw [Array.setIfInBounds_comm _ _ hji]
      exact h3.2.2

def okD (md : Region.Mode) (ops : Array Oper) (late loud : List Nat) (first : Bool) (k : Array Bool → Bool) : List Nat → Array Bool → Bool
  | [], listed => k listed
  | i :: rest, listed => decide (i < ops.size) && (Region.ready md ops listed).contains i && (if loud.contains i then decide (Region.ready md ops listed = [i]) && (late.contains i == !first) else Region.free md ops listed i && (!first || late.all fun j => Region.waitsFor md ops j i)) &&
      okD md ops late loud first k rest (listed.setIfInBounds i true)

theorem wpY_of_D {late loud : List Nat} {E : Act → World → Prop} (hsel : ∀ (j : Nat) (o : Oper) cs b, ops[j]? = some o → o.op ≠ .select cs b)
    (hQ : ∀ c a d v w, Q (.panic c) (a.put d v) w → Q (.panic c) a w) (first : Bool) {S : World → World → Prop} (hS : S = if first then S1 else S2) (hr1 : ∀ w, S1 w w) (hr2 : ∀ w, S2 w w) (hrefl : ∀ w, S w w) (htrans : ∀ a b c, S a b → S b c → S a c) (h12 : ∀ a b, S1 a b → S2 a b)
    {g : Nat} {k : Array Bool → Bool} {K : Act → World → Prop} (hk : ∀ listed a w, k listed = true → K a w → wpY P md ops Q (fun j w w' => if late.contains j = true then S2 w w' else S1 w w') E g listed a w) :
    ∀ (order : List Nat) (listed : Array Bool) (a : Act) (w : World), okD md ops late loud first k order listed = true → wpC P ops Q S loud K order a w →
      wpY P md ops Q (fun j w w' => if late.contains j = true then S2 w w' else S1 w w') E (order.length + g) listed a w
  | [], listed, a, w, hok, h => by
    rw [List.length_nil, Nat.zero_add]
    exact hk _ _ _ hok h
  | i :: rest, listed, a, w, hok, h => by
    simp only [okD, Bool.and_eq_true, decide_eq_true_eq] at hok
    obtain ⟨⟨⟨hin, hr⟩, hc⟩, hok'⟩ := hok
    have hr' : i ∈ Region.ready md ops listed := by simpa using hr
    rw [List.length_cons, Nat.add_right_comm]
    unfold wpC at h
    cases hi : ops[i]? with
    | none => simp only [hi] at h
    | some oi =>
      simp only [hi] at h
      by_cases hl : loud.contains i = true
      · rw [if_pos hl] at h hc
        simp only [Bool.and_eq_true, decide_eq_true_eq, beq_iff_eq] at hc
        obtain ⟨hone, hlate⟩ := hc
        refine ⟨fun e => (by rw [e] at hr'; cases hr'), fun j hj => ?_⟩
        obtain rfl : j = i := by rw [hone] at hj; simpa using hj
        refine wpOp_mono (fun a' w' h' => ⟨?_, wpY_of_D hsel hQ first hS hr1 hr2 hrefl htrans h12 hk rest _ a' w' hok' h'.2⟩) h
        have h1 := h'.1
        rw [hS] at h1
        dsimp only
        rw [hlate]
        cases first
        · exact h1
        · exact h1
      · rw [if_neg hl] at h hc
        simp only [Bool.and_eq_true, Bool.or_eq_true, List.all_eq_true] at hc
        obtain ⟨hfr, hlt⟩ := hc
        obtain ⟨v, hy, hrest⟩ := h
        refine wpY_first (R := S) hi hsel hQ (fun j w => ?_) hrefl htrans (fun j oj hoj hji hno u u' hT => ?_) (rest.length + g) listed a w (Region.free_spec hi hfr) hr' hy
          (wpY_of_D hsel hQ first hS hr1 hr2 hrefl htrans h12 hk rest _ _ w hok' hrest)
        · split
          · exact hr2 w
          · exact hr1 w
        · rw [hS]
          by_cases hj : late.contains j = true
          · rw [if_pos hj] at hT
            cases first
            · exact hT
            · exfalso
              rcases hlt with h1 | h1
              · simp at h1
              · obtain ⟨oj', hoj', e, he, hb, hon⟩ := Region.waitsFor_spec (h1 j (by simpa using hj))
                obtain rfl := Option.some.inj (hoj'.symm.trans hoj)
                exact hno e he hb hon
          · rw [if_neg hj] at hT
            cases first
            · exact h12 _ _ hT
            · exact hT

/-- the parts, written out -/
def wpPh (P : Program) (l : List Oper) (Q : Exit → Act → World → Prop) (S1 S2 : World → World → Prop) (loud : List Nat) (E : Act → World → Prop) : List (Bool × List Nat) → Act → World → Prop
  | [], a, w => E a w
  | (true, order) :: rest, a, w => wpL P l.toArray Q S1 (fun a' w' => wpPh P l Q S1 S2 loud E rest a' w') (order.map fun i => (loud.contains i, l.getD i default)) a w
  | (false, order) :: rest, a, w => wpL P l.toArray Q S2 (fun a' w' => wpPh P l Q S1 S2 loud E rest a' w') (order.map fun i => (loud.contains i, l.getD i default)) a w
def okPh (ops : Array Oper) (late loud : List Nat) : List (Bool × List Nat) → Array Bool → Bool
  | [], listed => decide (Region.ready .any ops listed = [])
  | (f, order) :: rest, listed => order.all (fun i => decide (i < ops.size)) && okD .any ops late loud f (okPh ops late loud rest) order listed
def lenPh : List (Bool × List Nat) → Nat
  | [] => 0
  | (_, order) :: rest => order.length + lenPh rest
/-- the checks on a region -/
def canD (ops : Array Oper) (late loud : List Nat) (ph : List (Bool × List Nat)) : Bool :=
  Region.noSelect ops && decide (lenPh ph = ops.size) && okPh ops late loud ph (Array.replicate ops.size false)

theorem wpY_of_Ph {l : List Oper} {late loud : List Nat} {E : Act → World → Prop} (hsel : ∀ (j : Nat) (o : Oper) cs b, l.toArray[j]? = some o → o.op ≠ .select cs b)
    (hQ : ∀ c a d v w, Q (.panic c) (a.put d v) w → Q (.panic c) a w) (hr1 : ∀ w, S1 w w) (ht1 : ∀ a b c, S1 a b → S1 b c → S1 a c) (hr2 : ∀ w, S2 w w) (ht2 : ∀ a b c, S2 a b → S2 b c → S2 a c) (h12 : ∀ a b, S1 a b → S2 a b) :
    ∀ (ph : List (Bool × List Nat)) (listed : Array Bool) (a : Act) (w : World), okPh l.toArray late loud ph listed = true → wpPh P l Q S1 S2 loud E ph a w →
      wpY P .any l.toArray Q (fun j w w' => if late.contains j = true then S2 w w' else S1 w w') E (lenPh ph) listed a w
  | [], listed, a, w, hok, h => ⟨by simpa [okPh] using hok, h⟩
  | (f, order) :: rest, listed, a, w, hok, h => by
    simp only [okPh, Bool.and_eq_true, List.all_eq_true, decide_eq_true_eq] at hok
    obtain ⟨hin, hok⟩ := hok
    have hs : l.toArray.size = l.length := by simp
    have hin' : ∀ i ∈ order, i < l.length := fun i hi => by have := hin i hi; omega
    cases f
    · exact wpY_of_D (S := S2) hsel hQ false rfl hr1 hr2 hr2 ht2 h12 (fun listed a w hk hK => wpY_of_Ph hsel hQ hr1 ht1 hr2 ht2 h12 rest listed a w hk hK) order listed a w hok (wpC_of_L order a w hin' h)
    · exact wpY_of_D (S := S1) hsel hQ true rfl hr1 hr2 hr1 ht1 h12 (fun listed a w hk hK => wpY_of_Ph hsel hQ hr1 ht1 hr2 ht2 h12 rest listed a w hk hK) order listed a w hok (wpC_of_L order a w hin' h)

/-- all operations of the region in parts; those marked 'true' look at memory, and what is late waits for them -/
theorem wp_region_late {id : Nat} {a : Act} {w : World} {l : List Oper} (late loud : List Nat) (ph : List (Bool × List Nat)) (S1 S2 : World → World → Prop) (hr1 : ∀ w, S1 w w) (ht1 : ∀ a b c, S1 a b → S1 b c → S1 a c) (hr2 : ∀ w, S2 w w) (ht2 : ∀ a b c, S2 a b → S2 b c → S2 a c) (h12 : ∀ a b, S1 a b → S2 a b)
    (hm : P.follows .mixedOrders = true) (hB : canD l.toArray late loud ph = true)
    (h : wpPh P l (OnlyOn Q) S1 S2 loud (Q .normal) ph a w.drew) : (Code.region id l.toArray true).wp P Q a w := by
  simp only [canD, Bool.and_eq_true, decide_eq_true_eq] at hB
  obtain ⟨⟨hsel, hlen⟩, hok⟩ := hB
  have H := wpY_of_Ph (Region.noSelect_spec hsel) (fun _ _ _ _ _ h => h) hr1 ht1 hr2 ht2 h12 ph _ a w.drew hok h
  refine Code.wp_mono OnlyOn.imp (wp_region_any hm ?_)
  have H2 := wpAny_of_Y (Q := OnlyOn Q) (fun a w hE => hE) _ _ _ _ H
  rw [hlen] at H2
  exact H2
end
end Go.Proofs.Ytfbchmihkndfaaa
