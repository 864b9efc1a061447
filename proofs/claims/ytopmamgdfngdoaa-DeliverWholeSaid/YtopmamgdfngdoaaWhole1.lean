/- Regions that draw their order: one order serves for all, if each operation is either quiet (its value is the same in every world that the others may lead to) or the only one that may come up. -/
import Derived.OrdersHeld
import Derived.StillTail
import Derived.KernelRfl
import Derived.WalkKit
import Derived.OrdersIn
import Derived.TacticsIn
import Derived.RangeFuncCalls
import Derived.Below
namespace Go.Proofs.Ytopmamgdfngdoaa

section
variable {P : Program} {ops : Array Oper} {md : Region.Mode} {Q : Exit → Act → World → Prop} {S : World → World → Prop}

/-- the first f operations come up in whatever order; each leads from a world to one that S allows; then L -/
def wpX (P : Program) (md : Region.Mode) (ops : Array Oper) (Q : Exit → Act → World → Prop) (S : World → World → Prop) (L : Array Bool → Act → World → Prop) : Nat → Array Bool → Act → World → Prop
  | 0, listed, a, w => L listed a w
  | f + 1, listed, a, w => Region.ready md ops listed ≠ [] ∧
    ∀ i ∈ Region.ready md ops listed, wpOp P ops Q i (fun a' w' => S w w' ∧ wpX P md ops Q S L f (listed.setIfInBounds i true) a' w') a w

theorem wpAny_of_X {L : Array Bool → Act → World → Prop} {g : Nat} (hL : ∀ listed a w, L listed a w → wpAny P md ops Q g listed a w) :
    ∀ (f : Nat) (listed : Array Bool) (a : Act) (w : World), wpX P md ops Q S L f listed a w → wpAny P md ops Q (f + g) listed a w
  | 0, listed, a, w, h => by rw [Nat.zero_add]; exact hL _ _ _ h
  | f + 1, listed, a, w, h => by
    rw [show f + 1 + g = (f + g) + 1 by omega]
    exact ⟨fun h0 => absurd h0 h.1, fun i hi => wpOp_mono (fun a' w' h' => wpAny_of_X hL f _ a' w' h'.2) (h.2 i hi)⟩

theorem yieldsIf_mono {S S' : World → Prop} {o : Oper} {v : Value} {a : Act} (h : YieldsIf P ops S o v a) (hs : ∀ w, S' w → S w) : YieldsIf P ops S' o v a :=
  h.imp (fun ⟨h1, h2⟩ => ⟨h1, fun w hw => h2 w (hs w hw)⟩) id

theorem wpX_first {i n : Nat} {oi : Oper} {v : Value} {L : Array Bool → Act → World → Prop} (hi : ops[i]? = some oi) (hsel : ∀ (j : Nat) (o : Oper) cs b, ops[j]? = some o → o.op ≠ .select cs b)
    (hQ : ∀ c a d v w, Q (.panic c) (a.put d v) w → Q (.panic c) a w) (hrefl : ∀ w, S w w) (htrans : ∀ a b c, S a b → S b c → S a c)
    (hL0 : ∀ listed a w, L listed a w → ∀ j ∈ Region.ready md ops listed, n ≤ j)
    (htail : ∀ listed, HeadInv md ops n listed → listed.getD i true = false → ∀ t, n ≤ t → t ∉ Region.ready md ops listed) :
    ∀ (f : Nat) (listed : Array Bool) (a : Act) (w : World), HeadInv md ops n listed →
      (∀ j oj, ops[j]? = some oj → j ≠ i → listed.getD j true = false → (∀ e ∈ oj.after, Region.binds md e = true → e.on ≠ i) → oi.apart ops oj = true) →
      i ∈ Region.ready md ops listed → YieldsIf P ops (S w) oi v a →
      wpX P md ops Q S L f (listed.setIfInBounds i true) (a.put oi.dst v) w → wpX P md ops Q S L (f + 1) listed a w := by
  intro f
  induction f with
  | zero =>
    intro listed a w inv _ hr hy H
    refine ⟨fun h => (by rw [h] at hr; cases hr), fun j hj => ?_⟩
    by_cases hji : j = i
    · subst hji; exact hy.wpOp hi (hrefl w) ⟨hrefl w, H⟩
    · exact absurd hj (htail listed inv (mem_ready.1 hr).1 j (hL0 _ _ _ H j (ready_mono hj hji)))
  | succ f ih =>
    intro listed a w inv hfree hr hy H
    refine ⟨fun h => (by rw [h] at hr; cases hr), fun j hj => ?_⟩
    by_cases hji : j = i
    · subst hji; exact hy.wpOp hi (hrefl w) ⟨hrefl w, H⟩
    · have hjn : j < n := by
        rcases Nat.lt_or_ge j n with h | h
        · exact h
        · exact absurd hj (htail listed inv (mem_ready.1 hr).1 j h)
      have h1 := H.2 j (ready_mono hj hji)
      obtain ⟨hjun, oj, hoj, hall⟩ := mem_ready.1 hj
      have hnot : ∀ e ∈ oj.after, Region.binds md e = true → e.on ≠ i := fun e he hb heq => by
        have h1 := hall e he hb
        rw [heq, getD_both (mem_ready.1 hr).1] at h1
        cases h1
      have h2 := wpOp_putIf hoj (hfree j oj hoj hji hjun hnot) (fun cs b => hsel i oi cs b hi) (fun cs b => hsel j oj cs b hoj) (fun c a w => hQ c a _ _ w) hy h1
      have hfree' : ∀ k ok, ops[k]? = some ok → k ≠ i → (listed.setIfInBounds j true).getD k true = false →
          (∀ e ∈ ok.after, Region.binds md e = true → e.on ≠ i) → oi.apart ops ok = true := fun k ok hk hki hun hno => by
        refine hfree k ok hk hki ?_ hno
        by_cases hjk : j = k
        · subst hjk; exact hjun
        · rw [getD_set_ne true hjk] at hun; exact hun
      refine wpOp_mono (fun a' w' h3 => ⟨h3.2.1, ih (listed.setIfInBounds j true) a' w' (inv.set hj hjn) hfree' (ready_mono hr (Ne.symm hji)) (yieldsIf_mono h3.1 fun w2 h => htrans _ _ _ h3.2.1 h) ?_⟩) h2
      rw [Array.setIfInBounds_comm _ _ hji]
      exact h3.2.2

/-- the operations in one order: the loud ones as they stand, the others by their value -/
def wpC (P : Program) (ops : Array Oper) (Q : Exit → Act → World → Prop) (S : World → World → Prop) (loud : List Nat) (E : Act → World → Prop) : List Nat → Act → World → Prop
  | [], a, w => E a w
  | i :: rest, a, w => match ops[i]? with
    | none => False
    | some o => if loud.contains i then wpOp P ops Q i (fun a' w' => S w w' ∧ wpC P ops Q S loud E rest a' w') a w
      else ∃ v, YieldsIf P ops (S w) o v a ∧ wpC P ops Q S loud E rest (a.put o.dst v) w

/-- is that order one of those that may come up, and does it serve for all? -/
def okC (md : Region.Mode) (ops : Array Oper) (n : Nat) (loud : List Nat) : List Nat → Array Bool → Bool
  | [], listed => Region.seqB md ops (ops.size - n) n listed
  | i :: rest, listed => decide (i < n) && (Region.ready md ops listed).contains i && (if loud.contains i then decide (Region.ready md ops listed = [i]) else Region.free md ops listed i) &&
      okC md ops n loud rest (listed.setIfInBounds i true)

theorem wpX_of_C {n : Nat} {loud : List Nat} {E : Act → World → Prop} (hsel : ∀ (j : Nat) (o : Oper) cs b, ops[j]? = some o → o.op ≠ .select cs b)
    (hQ : ∀ c a d v w, Q (.panic c) (a.put d v) w → Q (.panic c) a w) (hrefl : ∀ w, S w w) (htrans : ∀ a b c, S a b → S b c → S a c)
    (htail : ∀ i, i < n → ∀ listed, HeadInv md ops n listed → listed.getD i true = false → ∀ t, n ≤ t → t ∉ Region.ready md ops listed) :
    ∀ (order : List Nat) (listed : Array Bool) (a : Act) (w : World), HeadInv md ops n listed → okC md ops n loud order listed = true → wpC P ops Q S loud E order a w →
      wpX P md ops Q S (fun listed' a' w' => Region.seqB md ops (ops.size - n) n listed' = true ∧ E a' w') order.length listed a w
  | [], listed, a, w, _, hok, h => ⟨hok, h⟩
  | i :: rest, listed, a, w, inv, hok, h => by
    simp only [okC, Bool.and_eq_true, decide_eq_true_eq] at hok
    obtain ⟨⟨⟨hin, hr⟩, hc⟩, hok'⟩ := hok
    have hr' : i ∈ Region.ready md ops listed := by simpa using hr
    unfold wpC at h
    cases hi : ops[i]? with
    | none => simp only [hi] at h
    | some oi =>
      simp only [hi] at h
      by_cases hl : loud.contains i = true
      · rw [if_pos hl] at h hc
        have hone : Region.ready md ops listed = [i] := by simpa using hc
        refine ⟨fun e => (by rw [e] at hr'; cases hr'), fun j hj => ?_⟩
        obtain rfl : j = i := by rw [hone] at hj; simpa using hj
        exact wpOp_mono (fun a' w' h' => ⟨h'.1, wpX_of_C hsel hQ hrefl htrans htail rest _ a' w' (inv.set hr' hin) hok' h'.2⟩) h
      · rw [if_neg hl] at h hc
        obtain ⟨v, hy, hrest⟩ := h
        exact wpX_first hi hsel hQ hrefl htrans (fun listed' a' w' hL => seqB_ready hL.1) (htail i hin) rest.length listed a w inv (Region.free_spec hi hc) hr' hy
          (wpX_of_C hsel hQ hrefl htrans htail rest _ _ w (inv.set hr' hin) hok' hrest)

/-- the checks on a region: n operations in this order, the rest of them behind, one by one -/
def canB (ops : Array Oper) (n : Nat) (loud order : List Nat) : Bool :=
  Region.noSelect ops && (decide (n = ops.size) || (decide (n < ops.size) && Region.sinkB .any ops n && Region.chainB .any ops n)) && decide (order.length = n) && okC .any ops n loud order (Array.replicate ops.size false)

/-- the operations in one order, written out, each with the mark 'loud' -/
def wpL (P : Program) (ops : Array Oper) (Q : Exit → Act → World → Prop) (S : World → World → Prop) (E : Act → World → Prop) : List (Bool × Oper) → Act → World → Prop
  | [], a, w => E a w
  | (true, o) :: rest, a, w => if Region.wanted o (yielded ops a.tmps) then o.wp P a w (fun a' w' => S w w' ∧ wpL P ops Q S E rest a' w') Q else S w w ∧ wpL P ops Q S E rest (a.put o.dst undef) w
  | (false, o) :: rest, a, w => if Region.wanted o (yielded ops a.tmps) then ∃ v, (∀ w', S w w' → (execOp a.eval o).run P w' = .ok (.value v) w') ∧ wpL P ops Q S E rest (a.put o.dst v) w else wpL P ops Q S E rest (a.put o.dst undef) w

theorem wpOp_mono2 {i : Nat} {o : Oper} {K K' : Act → World → Prop} {a : Act} {w : World} (hi : ops[i]? = some o) (hw : Region.wanted o (yielded ops a.tmps) = true) (h : o.wp P a w K Q) (hk : ∀ a w, K a w → K' a w) : wpOp P ops Q i K' a w := by
  refine wpOp_mono hk ?_
  unfold wpOp
  simp only [hi, hw, if_true]
  exact .inl h

theorem wpC_of_L {l : List Oper} {loud : List Nat} {E : Act → World → Prop} : ∀ (order : List Nat) (a : Act) (w : World), (∀ i ∈ order, i < l.length) →
    wpL P l.toArray Q S E (order.map fun i => (loud.contains i, l.getD i default)) a w → wpC P l.toArray Q S loud E order a w
  | [], _, _, _, h => h
  | i :: rest, a, w, hin, h => by
    have hil := hin i (List.mem_cons_self ..)
    have hi : l.toArray[i]? = some (l.getD i default) := by
      rw [List.getElem?_toArray, List.getElem?_eq_getElem hil, List.getD_eq_getElem?_getD, List.getElem?_eq_getElem hil]; rfl
    have hin' : ∀ j ∈ rest, j < l.length := fun j hj => hin j (List.mem_cons_of_mem _ hj)
    have h1 : wpL P l.toArray Q S E ((loud.contains i, l.getD i default) :: rest.map fun i => (loud.contains i, l.getD i default)) a w := h
    generalize l.getD i default = o at hi h1
    unfold wpC
    simp only [hi]
    cases hl : loud.contains i with
    | true =>
      rw [hl] at h1
      rw [if_pos rfl]
      unfold wpL at h1
      by_cases hw : Region.wanted o (yielded l.toArray a.tmps) = true
      · rw [if_pos hw] at h1
        exact wpOp_mono2 hi hw h1 fun a' w' h' => ⟨h'.1, wpC_of_L rest a' w' hin' h'.2⟩
      · rw [if_neg hw] at h1
        unfold wpOp
        simp only [hi]
        rw [if_neg hw]
        exact ⟨h1.1, wpC_of_L rest _ _ hin' h1.2⟩
    | false =>
      rw [hl] at h1
      rw [if_neg (by simp)]
      unfold wpL at h1
      by_cases hw : Region.wanted o (yielded l.toArray a.tmps) = true
      · rw [if_pos hw] at h1
        obtain ⟨v, h2, h3⟩ := h1
        exact ⟨v, .inl ⟨hw, h2⟩, wpC_of_L rest _ _ hin' h3⟩
      · rw [if_neg hw] at h1
        exact ⟨undef, .inr ⟨by simpa using hw, rfl⟩, wpC_of_L rest _ _ hin' h1⟩

/-- Q, and nothing but the way on -/
def OnlyOn (Q : Exit → Act → World → Prop) : Exit → Act → World → Prop
  | .normal, a, w => Q .normal a w
  | _, _, _ => False
theorem OnlyOn.imp {Q : Exit → Act → World → Prop} : ∀ (e : Exit) (a : Act) (w : World), OnlyOn Q e a w → Q e a w := fun e a w h => by
  cases e <;> first | exact h | exact (h : False).elim

theorem okC_lt {n : Nat} {loud : List Nat} : ∀ (order : List Nat) (listed : Array Bool), okC md ops n loud order listed = true → ∀ i ∈ order, i < n
  | [], _, _, _, hi => by cases hi
  | j :: rest, listed, h, i, hi => by
    simp only [okC, Bool.and_eq_true, decide_eq_true_eq] at h
    rcases List.mem_cons.1 hi with h1 | h1
    · subst h1; exact h.1.1.1
    · exact okC_lt rest _ h.2 i h1

theorem wp_region_can {id : Nat} {a : Act} {w : World} {l : List Oper} (n : Nat) (loud order : List Nat) (S : World → World → Prop) (hrefl : ∀ w, S w w) (htrans : ∀ a b c, S a b → S b c → S a c)
    (hm : P.follows .mixedOrders = true) (hB : canB l.toArray n loud order = true)
    (h : wpL P l.toArray (OnlyOn Q) S (fun a' w' => wpList P l.toArray (OnlyOn Q) (l.drop n) a' w') (order.map fun i => (loud.contains i, l.getD i default)) a w.drew) : (Code.region id l.toArray true).wp P Q a w := by
  simp only [canB, Bool.and_eq_true, Bool.or_eq_true, decide_eq_true_eq] at hB
  obtain ⟨⟨⟨hsel, hn⟩, hlen⟩, hok⟩ := hB
  have hnl : n ≤ l.length := by
    rcases hn with h | h
    · simp at h; omega
    · have := h.1.1; simp at this; omega
  have hin : ∀ i ∈ order, i < l.length := fun i hi => Nat.lt_of_lt_of_le (okC_lt order _ hok i hi) hnl
  replace h := wpC_of_L order a w.drew hin h
  have htail : ∀ i, i < n → ∀ listed, HeadInv .any l.toArray n listed → listed.getD i true = false → ∀ t, n ≤ t → t ∉ Region.ready .any l.toArray listed := by
    intro i hin listed inv hun t ht hr
    rcases hn with h | h
    · obtain ⟨_, ot, hot, _⟩ := mem_ready.1 hr
      have := (Array.getElem?_eq_some_iff.1 hot).1
      omega
    · exact tail_waits h.1.2 h.2 h.1.1 inv _ i rfl hin hun t ht hr
  have inv0 : HeadInv .any l.toArray n (Array.replicate l.toArray.size false) :=
    ⟨by simp, fun j oj _ hl => (by rw [getD_replicate_false] at hl; cases hl), fun t _ ht => getD_in (by simpa using ht) (getD_replicate_false _ _)⟩
  have H := wpX_of_C (md := .any) (Region.noSelect_spec hsel) (fun _ _ _ _ _ h => h) hrefl htrans htail order _ a w.drew inv0 hok h
  refine Code.wp_mono OnlyOn.imp (wp_region_any hm ?_)
  have hdl : (l.drop n).length = l.toArray.size - n := by simp
  have H2 := wpAny_of_X (g := l.toArray.size - n) (fun listed a' w' hL => by
    have := wpAny_of_seq (md := .any) (Q' := OnlyOn Q) (l.drop n) n listed a' w' (fun j => by simp [List.getElem?_drop]) (by rw [hdl]; exact hL.1) hL.2
    rwa [hdl] at this) _ _ _ _ H
  rw [hlen, show n + (l.toArray.size - n) = l.toArray.size by simp; omega] at H2
  exact H2

/-- all operations of the region in one order -/
theorem wp_region_can_all {id : Nat} {a : Act} {w : World} {l : List Oper} (loud order : List Nat) (S : World → World → Prop) (hrefl : ∀ w, S w w) (htrans : ∀ a b c, S a b → S b c → S a c)
    (hm : P.follows .mixedOrders = true) (hB : canB l.toArray l.length loud order = true)
    (h : wpL P l.toArray (OnlyOn Q) S (Q .normal) (order.map fun i => (loud.contains i, l.getD i default)) a w.drew) : (Code.region id l.toArray true).wp P Q a w := by
  refine wp_region_can l.length loud order S hrefl htrans hm hB ?_
  have e : (fun a' w' => wpList P l.toArray (OnlyOn Q) (l.drop l.length) a' w') = Q .normal := by
    funext a' w'
    rw [List.drop_length]
    rfl
  rw [e]
  exact h

variable {E : Act → World → Prop} {rest : List (Bool × Oper)} {o : Oper} {a : Act} {w : World}

/-- a quiet operation that is carried out -/
theorem wpL_do {v : Value} (hw : Region.wanted o (yielded ops a.tmps) = true)
    (hv : ∀ w', S w w' → (execOp a.eval o).run P w' = .ok (.value v) w') (h : wpL P ops Q S E rest (a.put o.dst v) w) : wpL P ops Q S E ((false, o) :: rest) a w := by
  unfold wpL; rw [if_pos hw]; exact ⟨v, hv, h⟩

/-- an operation whose guard says no -/
theorem wpL_pass (hw : Region.wanted o (yielded ops a.tmps) = false)
    (h : wpL P ops Q S E rest (a.put o.dst undef) w) : wpL P ops Q S E ((false, o) :: rest) a w := by
  unfold wpL; rw [if_neg (by rw [hw]; simp)]; exact h

/-- a loud operation that is carried out -/
theorem wpL_call (hw : Region.wanted o (yielded ops a.tmps) = true)
    (h : ∀ K : Act → World → Prop, (∀ a' w', S w w' → wpL P ops Q S E rest a' w' → K a' w') → o.wp P a w K Q) : wpL P ops Q S E ((true, o) :: rest) a w := by
  unfold wpL; rw [if_pos hw]; exact h _ fun _ _ h1 h2 => ⟨h1, h2⟩

/-- a loud operation whose guard says no -/
theorem wpL_hush (hw : Region.wanted o (yielded ops a.tmps) = false) (hr : S w w)
    (h : wpL P ops Q S E rest (a.put o.dst undef) w) : wpL P ops Q S E ((true, o) :: rest) a w := by
  unfold wpL; rw [if_neg (by rw [hw]; simp)]; exact ⟨hr, h⟩

theorem wpL_nil (h : E a w) : wpL P ops Q S E [] a w := h
end
/-- nothing that is there turns -/
def Ext (w w' : World) : Prop := RowKit.Below w.heap.size w w'
theorem Ext.refl (w : World) : Ext w w := RowKit.Below.refl _ _
theorem Ext.trans (a b c : World) (h : Ext a b) (k : Ext b c) : Ext a c := RowKit.Below.trans h (RowKit.Below.mono k h.size)
end Go.Proofs.Ytopmamgdfngdoaa
/- Regions that draw their order, where two loud operations may come up at once: both ways are walked. -/
namespace Go.Proofs.Ytopmamgdfngdoaa

/-- in which order the operations are taken: one, or two ways -/
inductive Plan
  | nil
  | one (i : Nat) (p : Plan)
  | two (i : Nat) (p : Plan) (j : Nat) (q : Plan)
def Plan.len : Plan → Nat
  | .nil => 0
  | .one _ p => p.len + 1
  | .two _ p _ _ => p.len + 1
def Plan.of : List Nat → Plan → Plan
  | [], p => p
  | i :: r, p => .one i (Plan.of r p)

section
variable {P : Program} {ops : Array Oper} {md : Region.Mode} {Q : Exit → Act → World → Prop} {S : World → World → Prop}

def wpT (P : Program) (ops : Array Oper) (Q : Exit → Act → World → Prop) (S : World → World → Prop) (loud : List Nat) (E : Act → World → Prop) : Plan → Act → World → Prop
  | .nil, a, w => E a w
  | .one i rest, a, w => match ops[i]? with
    | none => False
    | some o => if loud.contains i then wpOp P ops Q i (fun a' w' => S w w' ∧ wpT P ops Q S loud E rest a' w') a w
      else ∃ v, YieldsIf P ops (S w) o v a ∧ wpT P ops Q S loud E rest (a.put o.dst v) w
  | .two i p j q, a, w => wpOp P ops Q i (fun a' w' => S w w' ∧ wpT P ops Q S loud E p a' w') a w ∧ wpOp P ops Q j (fun a' w' => S w w' ∧ wpT P ops Q S loud E q a' w') a w

def okT (md : Region.Mode) (ops : Array Oper) (n : Nat) (loud : List Nat) : Plan → Array Bool → Bool
  | .nil, listed => Region.seqB md ops (ops.size - n) n listed
  | .one i rest, listed => decide (i < n) && (Region.ready md ops listed).contains i && (if loud.contains i then decide (Region.ready md ops listed = [i]) else Region.free md ops listed i) &&
      okT md ops n loud rest (listed.setIfInBounds i true)
  | .two i p j q, listed => decide (i < n) && decide (j < n) && decide (Region.ready md ops listed = [i, j]) && decide (p.len = q.len) && okT md ops n loud p (listed.setIfInBounds i true) && okT md ops n loud q (listed.setIfInBounds j true)

theorem wpX_of_T {n : Nat} {loud : List Nat} {E : Act → World → Prop} (hsel : ∀ (j : Nat) (o : Oper) cs b, ops[j]? = some o → o.op ≠ .select cs b)
    (hQ : ∀ c a d v w, Q (.panic c) (a.put d v) w → Q (.panic c) a w) (hrefl : ∀ w, S w w) (htrans : ∀ a b c, S a b → S b c → S a c)
    (htail : ∀ i, i < n → ∀ listed, HeadInv md ops n listed → listed.getD i true = false → ∀ t, n ≤ t → t ∉ Region.ready md ops listed) :
    ∀ (p : Plan) (listed : Array Bool) (a : Act) (w : World), HeadInv md ops n listed → okT md ops n loud p listed = true → wpT P ops Q S loud E p a w →
      wpX P md ops Q S (fun listed' a' w' => Region.seqB md ops (ops.size - n) n listed' = true ∧ E a' w') p.len listed a w
  | .nil, listed, a, w, _, hok, h => ⟨hok, h⟩
  | .one i rest, listed, a, w, inv, hok, h => by
    simp only [okT, Bool.and_eq_true, decide_eq_true_eq] at hok
    obtain ⟨⟨⟨hin, hr⟩, hc⟩, hok'⟩ := hok
    have hr' : i ∈ Region.ready md ops listed := by simpa using hr
    unfold wpT at h
    cases hi : ops[i]? with
    | none => simp only [hi] at h
    | some oi =>
      simp only [hi] at h
      by_cases hl : loud.contains i = true
      · rw [if_pos hl] at h hc
        have hone : Region.ready md ops listed = [i] := by simpa using hc
        refine ⟨fun e => (by rw [e] at hr'; cases hr'), fun j hj => ?_⟩
        obtain rfl : j = i := by rw [hone] at hj; simpa using hj
        exact wpOp_mono (fun a' w' h' => ⟨h'.1, wpX_of_T hsel hQ hrefl htrans htail rest _ a' w' (inv.set hr' hin) hok' h'.2⟩) h
      · rw [if_neg hl] at h hc
        obtain ⟨v, hy, hrest⟩ := h
        exact wpX_first hi hsel hQ hrefl htrans (fun listed' a' w' hL => seqB_ready hL.1) (htail i hin) rest.len listed a w inv (Region.free_spec hi hc) hr' hy
          (wpX_of_T hsel hQ hrefl htrans htail rest _ _ w (inv.set hr' hin) hok' hrest)
  | .two i p j q, listed, a, w, inv, hok, h => by
    simp only [okT, Bool.and_eq_true, decide_eq_true_eq] at hok
    obtain ⟨⟨⟨⟨⟨hin, hjn⟩, hr⟩, hlen⟩, hok1⟩, hok2⟩ := hok
    have hri : i ∈ Region.ready md ops listed := by rw [hr]; simp
    have hrj : j ∈ Region.ready md ops listed := by rw [hr]; simp
    refine ⟨fun e => (by rw [e] at hri; cases hri), fun k hk => ?_⟩
    have hk' : k = i ∨ k = j := by rw [hr] at hk; simpa using hk
    by_cases hki : k = i
    · subst hki
      exact wpOp_mono (fun a' w' h' => ⟨h'.1, wpX_of_T hsel hQ hrefl htrans htail p _ a' w' (inv.set hri hin) hok1 h'.2⟩) h.1
    · obtain rfl : k = j := hk'.resolve_left hki
      rw [hlen]
      exact wpOp_mono (fun a' w' h' => ⟨h'.1, wpX_of_T hsel hQ hrefl htrans htail q _ a' w' (inv.set hrj hjn) hok2 h'.2⟩) h.2

/-- the checks on a region -/
def canT (ops : Array Oper) (loud : List Nat) (p : Plan) : Bool :=
  Region.noSelect ops && decide (p.len = ops.size) && okT .any ops ops.size loud p (Array.replicate ops.size false)

/-- the operations written out -/
inductive OpT
  | nil
  | one (b : Bool) (o : Oper) (t : OpT)
  | two (o : Oper) (t : OpT) (o' : Oper) (t' : OpT)
def Plan.lay (l : List Oper) (loud : List Nat) : Plan → OpT
  | .nil => .nil
  | .one i p => .one (loud.contains i) (l.getD i default) (p.lay l loud)
  | .two i p j q => .two (l.getD i default) (p.lay l loud) (l.getD j default) (q.lay l loud)

def wpTL (P : Program) (ops : Array Oper) (Q : Exit → Act → World → Prop) (S : World → World → Prop) (E : Act → World → Prop) : OpT → Act → World → Prop
  | .nil, a, w => E a w
  | .one true o rest, a, w => if Region.wanted o (yielded ops a.tmps) then o.wp P a w (fun a' w' => S w w' ∧ wpTL P ops Q S E rest a' w') Q else S w w ∧ wpTL P ops Q S E rest (a.put o.dst undef) w
  | .one false o rest, a, w => if Region.wanted o (yielded ops a.tmps) then ∃ v, (∀ w', S w w' → (execOp a.eval o).run P w' = .ok (.value v) w') ∧ wpTL P ops Q S E rest (a.put o.dst v) w else wpTL P ops Q S E rest (a.put o.dst undef) w
  | .two o t o' t', a, w => (if Region.wanted o (yielded ops a.tmps) then o.wp P a w (fun a' w' => S w w' ∧ wpTL P ops Q S E t a' w') Q else S w w ∧ wpTL P ops Q S E t (a.put o.dst undef) w) ∧
      (if Region.wanted o' (yielded ops a.tmps) then o'.wp P a w (fun a' w' => S w w' ∧ wpTL P ops Q S E t' a' w') Q else S w w ∧ wpTL P ops Q S E t' (a.put o'.dst undef) w)

theorem okT_lt {n : Nat} {loud : List Nat} {i : Nat} {p : Plan} {listed : Array Bool} (h : okT md ops n loud (.one i p) listed = true) : i < n := by
  simp only [okT, Bool.and_eq_true, decide_eq_true_eq] at h
  exact h.1.1.1

theorem loud_one {l : List Oper} {E : Act → World → Prop} {i : Nat} {t : OpT} {K : Act → World → Prop} (hil : i < l.length) {a : Act} {w : World} (hK : ∀ a' w', wpTL P l.toArray Q S E t a' w' → K a' w')
    (h : wpTL P l.toArray Q S E (.one true (l.getD i default) t) a w) : wpOp P l.toArray Q i (fun a' w' => S w w' ∧ K a' w') a w := by
  have hi : l.toArray[i]? = some (l.getD i default) := by
    rw [List.getElem?_toArray, List.getElem?_eq_getElem hil, List.getD_eq_getElem?_getD, List.getElem?_eq_getElem hil]; rfl
  generalize l.getD i default = o at hi h
  unfold wpTL at h
  by_cases hw : Region.wanted o (yielded l.toArray a.tmps) = true
  · rw [if_pos hw] at h
    exact wpOp_mono2 hi hw h fun a' w' h' => ⟨h'.1, hK _ _ h'.2⟩
  · rw [if_neg hw] at h
    unfold wpOp
    simp only [hi]
    rw [if_neg hw]
    exact ⟨h.1, hK _ _ h.2⟩

theorem wpT_of_L {l : List Oper} {loud : List Nat} {E : Act → World → Prop} : ∀ (p : Plan) (listed : Array Bool) (a : Act) (w : World), okT md l.toArray l.length loud p listed = true →
    wpTL P l.toArray Q S E (p.lay l loud) a w → wpT P l.toArray Q S loud E p a w
  | .nil, _, _, _, _, h => h
  | .one i rest, listed, a, w, hok, h => by
    have hil := okT_lt hok
    have hok' : okT md l.toArray l.length loud rest (listed.setIfInBounds i true) = true := by
      simp only [okT, Bool.and_eq_true] at hok
      exact hok.2
    have hi : l.toArray[i]? = some (l.getD i default) := by
      rw [List.getElem?_toArray, List.getElem?_eq_getElem hil, List.getD_eq_getElem?_getD, List.getElem?_eq_getElem hil]; rfl
    have h1 : wpTL P l.toArray Q S E (.one (loud.contains i) (l.getD i default) (rest.lay l loud)) a w := h
    unfold wpT
    simp only [hi]
    cases hl : loud.contains i with
    | true =>
      rw [hl] at h1
      rw [if_pos rfl]
      exact loud_one hil (fun a' w' h' => wpT_of_L rest _ a' w' hok' h') h1
    | false =>
      rw [hl] at h1
      rw [if_neg (by simp)]
      generalize l.getD i default = o at hi h1
      unfold wpTL at h1
      by_cases hw : Region.wanted o (yielded l.toArray a.tmps) = true
      · rw [if_pos hw] at h1
        obtain ⟨v, h2, h3⟩ := h1
        exact ⟨v, .inl ⟨hw, h2⟩, wpT_of_L rest _ _ _ hok' h3⟩
      · rw [if_neg hw] at h1
        exact ⟨undef, .inr ⟨by simpa using hw, rfl⟩, wpT_of_L rest _ _ _ hok' h1⟩
  | .two i p j q, listed, a, w, hok, h => by
    simp only [okT, Bool.and_eq_true, decide_eq_true_eq] at hok
    obtain ⟨⟨⟨⟨⟨hin, hjn⟩, _⟩, _⟩, hok1⟩, hok2⟩ := hok
    have h1 : wpTL P l.toArray Q S E (.two (l.getD i default) (p.lay l loud) (l.getD j default) (q.lay l loud)) a w := h
    unfold wpTL at h1
    exact ⟨loud_one hin (fun a' w' h' => wpT_of_L p _ a' w' hok1 h') h1.1, loud_one hjn (fun a' w' h' => wpT_of_L q _ a' w' hok2 h') h1.2⟩

/-- all operations of the region by a plan -/
theorem wp_region_plan {id : Nat} {a : Act} {w : World} {l : List Oper} (loud : List Nat) (p : Plan) (S : World → World → Prop) (hrefl : ∀ w, S w w) (htrans : ∀ a b c, S a b → S b c → S a c)
    (hm : P.follows .mixedOrders = true) (hB : canT l.toArray loud p = true)
    (h : wpTL P l.toArray (OnlyOn Q) S (Q .normal) (p.lay l loud) a w.drew) : (Code.region id l.toArray true).wp P Q a w := by
  simp only [canT, Bool.and_eq_true, decide_eq_true_eq] at hB
  obtain ⟨⟨hsel, hlen⟩, hok⟩ := hB
  have hs : l.toArray.size = l.length := by simp
  rw [hs] at hlen
  have hok2 : okT .any l.toArray l.length loud p (Array.replicate l.toArray.size false) = true := by rw [← hs]; exact hok
  have h' := wpT_of_L (md := .any) (loud := loud) p (Array.replicate l.toArray.size false) a w.drew hok2 h
  have htail : ∀ i, i < l.length → ∀ listed, HeadInv .any l.toArray l.length listed → listed.getD i true = false → ∀ t, l.length ≤ t → t ∉ Region.ready .any l.toArray listed := by
    intro i hin listed inv hun t ht hr
    obtain ⟨_, ot, hot, _⟩ := mem_ready.1 hr
    have := (Array.getElem?_eq_some_iff.1 hot).1
    omega
  have inv0 : HeadInv .any l.toArray l.length (Array.replicate l.toArray.size false) :=
    ⟨by simp, fun j oj _ hl => (by rw [getD_replicate_false] at hl; cases hl), fun t _ ht => getD_in (by simpa using ht) (getD_replicate_false _ _)⟩
  have H := wpX_of_T (md := .any) (Region.noSelect_spec hsel) (fun _ _ _ _ _ h => h) hrefl htrans htail p _ a w.drew inv0 hok2 h'
  refine Code.wp_mono OnlyOn.imp (wp_region_any hm ?_)
  have hdl : (l.drop l.length).length = l.toArray.size - l.length := by simp
  have H2 := wpAny_of_X (g := l.toArray.size - l.length) (fun listed a' w' hL => by
    have hE : wpList P l.toArray (OnlyOn Q) (l.drop l.length) a' w' := by rw [List.drop_length]; exact hL.2
    have := wpAny_of_seq (md := .any) (Q' := OnlyOn Q) (l.drop l.length) l.length listed a' w' (fun j => by simp) (by rw [hdl]; exact hL.1) hE
    rwa [hdl] at this) _ _ _ _ H
  rw [hlen, show l.length + (l.toArray.size - l.length) = l.toArray.size by simp] at H2
  exact H2

variable {E : Act → World → Prop} {rest rest' : OpT} {o o' : Oper} {a : Act} {w : World}
theorem wpTL_do {v : Value} (hw : Region.wanted o (yielded ops a.tmps) = true)
    (hv : ∀ w', S w w' → (execOp a.eval o).run P w' = .ok (.value v) w') (h : wpTL P ops Q S E rest (a.put o.dst v) w) : wpTL P ops Q S E (.one false o rest) a w := by
  unfold wpTL; rw [if_pos hw]; exact ⟨v, hv, h⟩
theorem wpTL_pass (hw : Region.wanted o (yielded ops a.tmps) = false)
    (h : wpTL P ops Q S E rest (a.put o.dst undef) w) : wpTL P ops Q S E (.one false o rest) a w := by
  unfold wpTL; rw [if_neg (by rw [hw]; simp)]; exact h
theorem wpTL_call (hw : Region.wanted o (yielded ops a.tmps) = true)
    (h : ∀ K : Act → World → Prop, (∀ a' w', S w w' → wpTL P ops Q S E rest a' w' → K a' w') → o.wp P a w K Q) : wpTL P ops Q S E (.one true o rest) a w := by
  unfold wpTL; rw [if_pos hw]; exact h _ fun _ _ h1 h2 => ⟨h1, h2⟩
theorem wpTL_hush (hw : Region.wanted o (yielded ops a.tmps) = false) (hr : S w w)
    (h : wpTL P ops Q S E rest (a.put o.dst undef) w) : wpTL P ops Q S E (.one true o rest) a w := by
  unfold wpTL; rw [if_neg (by rw [hw]; simp)]; exact ⟨hr, h⟩
theorem wpTL_nil (h : E a w) : wpTL P ops Q S E .nil a w := h
theorem wpTL_two (h : wpTL P ops Q S E (.one true o rest) a w) (h' : wpTL P ops Q S E (.one true o' rest') a w) : wpTL P ops Q S E (.two o rest o' rest') a w := by
  unfold wpTL; exact ⟨h, h'⟩
end
end Go.Proofs.Ytopmamgdfngdoaa
/- A region that draws its order, inside a round of a range over a function: one order serves for all there, too. -/
namespace Go.Proofs.Ytopmamgdfngdoaa
open Go.RowKit
set_option linter.unusedVariables false
section
variable {P : Program} {ops : Array Oper} {md : Region.Mode} {Q : Exit → Act → World → Prop} {S : World → World → Prop}

theorem oper_in_round {l n : Nat} {o : Oper} {a : Act} {w : World} {K : Act → World → Prop} (hd : ∀ c, o.op ≠ .defer c) (h : o.wp P a w K Q) : o.wpIn (Fence.wide.inRound l) n P a w K Q := by
  refine ⟨fun _ _ => trivial, ?_⟩
  rw [show (Fence.wide.inRound l).round = some l from rfl, Oper.semAt_some l _ _ hd]
  unfold Oper.wp at h
  generalize (execOp a.eval o).run P w = r at *
  cases r with
  | ok x w' =>
    cases x
    case enter f args => exact ⟨(fun h' => by cases h'), CallsIn.inRound l (callsIn_wide.2 (Calls.mono h (fun e w'' he => by cases e <;> exact he)))⟩
    case row row args =>
      exact ⟨(fun h' => by cases h'), fun c cs _ => (by
        obtain ⟨v, w'', r, s⟩ := h c cs
        exact ⟨v, w'', r, stepsIn_wide.2 s⟩)⟩
    all_goals first | exact h | exact h.elim
  | halt x w' => cases x <;> first | exact h | exact h.elim

theorem wpOp_in_round {l n i : Nat} {K K' : Act → World → Prop} {a : Act} {w : World} (hd : ∀ (j : Nat) (o : Oper), ops[j]? = some o → ∀ c, o.op ≠ .defer c) (hlo : ¬ LetsOut Q) (hK : ∀ a w, K a w → K' a w) (h : wpOp P ops Q i K a w) :
    wpOpIn (Fence.wide.inRound l) n P ops Q i K' a w := by
  unfold wpOp at h
  unfold wpOpIn
  cases ho : ops[i]? with
  | none => simp only [ho] at h ⊢; exact hK _ _ h
  | some o =>
    simp only [ho] at h ⊢
    by_cases hw : Region.wanted o (yielded ops a.tmps) = true
    · rw [if_pos hw] at h
      rw [if_pos hw]
      exact Oper.wpIn_mono hK (oper_in_round (hd i o ho) (h.resolve_right fun h' => hlo h'.2))
    · rw [if_neg hw] at h
      rw [if_neg hw]
      exact ⟨fun _ _ => trivial, hK _ _ h⟩

theorem wpAny_in_round {l n : Nat} (hlo : ¬ LetsOut Q) (hd : ∀ (j : Nat) (o : Oper), ops[j]? = some o → ∀ c, o.op ≠ .defer c) : ∀ (fuel : Nat) (listed : Array Bool) (a : Act) (w : World), wpAny P md ops Q fuel listed a w → wpAnyIn (Fence.wide.inRound l) n P md ops Q fuel listed a w
  | 0, _, _, _, h => h
  | fuel + 1, _, _, _, h => ⟨h.1, fun i hi => wpOp_in_round hd hlo (fun a w h' => wpAny_in_round hlo hd fuel _ a w h') (h.2 i hi)⟩

theorem onlyOn_lets : ¬ LetsOut (OnlyOn Q) := fun ⟨_, _, h⟩ => h

def noDefer (ops : Array Oper) : Bool := ops.toList.all fun o => match o.op with | .defer _ => false | _ => true
theorem noDefer_spec (h : noDefer ops = true) : ∀ (j : Nat) (o : Oper), ops[j]? = some o → ∀ c, o.op ≠ .defer c := by
  intro j o ho c he
  have h1 := List.all_eq_true.1 h o (by
    obtain ⟨hj, rfl⟩ := Array.getElem?_eq_some_iff.1 ho
    exact Array.getElem_mem_toList hj)
  rw [he] at h1
  cases h1

theorem any_of_can {a : Act} {w : World} {l : List Oper} (n : Nat) (loud order : List Nat) (S : World → World → Prop) (hrefl : ∀ w, S w w) (htrans : ∀ a b c, S a b → S b c → S a c)
    (hB : canB l.toArray n loud order = true)
    (h : wpL P l.toArray (OnlyOn Q) S (fun a' w' => wpList P l.toArray (OnlyOn Q) (l.drop n) a' w') (order.map fun i => (loud.contains i, l.getD i default)) a w) : wpAny P .any l.toArray (OnlyOn Q) l.toArray.size (Array.replicate l.toArray.size false) a w := by
  simp only [canB, Bool.and_eq_true, Bool.or_eq_true, decide_eq_true_eq] at hB
  obtain ⟨⟨⟨hsel, hn⟩, hlen⟩, hok⟩ := hB
  have hnl : n ≤ l.length := by
    rcases hn with h | h
    · simp at h; omega
    · have := h.1.1; simp at this; omega
  have hin : ∀ i ∈ order, i < l.length := fun i hi => Nat.lt_of_lt_of_le (okC_lt order _ hok i hi) hnl
  replace h := wpC_of_L order a w hin h
  have htail : ∀ i, i < n → ∀ listed, HeadInv .any l.toArray n listed → listed.getD i true = false → ∀ t, n ≤ t → t ∉ Region.ready .any l.toArray listed := by
    intro i hin listed inv hun t ht hr
    rcases hn with h | h
    · obtain ⟨_, ot, hot, _⟩ := mem_ready.1 hr
      have := (Array.getElem?_eq_some_iff.1 hot).1
      omega
    · exact tail_waits h.1.2 h.2 h.1.1 inv _ i rfl hin hun t ht hr
  have inv0 : HeadInv .any l.toArray n (Array.replicate l.toArray.size false) :=
    ⟨by simp, fun j oj _ hl => (by rw [getD_replicate_false] at hl; cases hl), fun t _ ht => getD_in (by simpa using ht) (getD_replicate_false _ _)⟩
  have H := wpX_of_C (md := .any) (Region.noSelect_spec hsel) (fun _ _ _ _ _ h => h) hrefl htrans htail order _ a w inv0 hok h
  have hdl : (l.drop n).length = l.toArray.size - n := by simp
  have H2 := wpAny_of_X (g := l.toArray.size - n) (fun listed a' w' hL => by
    have := wpAny_of_seq (md := .any) (Q' := OnlyOn Q) (l.drop n) n listed a' w' (fun j => by simp [List.getElem?_drop]) (by rw [hdl]; exact hL.1) hL.2
    rwa [hdl] at this) _ _ _ _ H
  rw [hlen, show n + (l.toArray.size - n) = l.toArray.size by simp; omega] at H2
  exact H2

/-- the first n operations in one order, then the others, in a round -/
theorem wpIn_region_can {id lr nr : Nat} {a : Act} {w : World} {l : List Oper} (n : Nat) (loud order : List Nat) (S : World → World → Prop) (hrefl : ∀ w, S w w) (htrans : ∀ a b c, S a b → S b c → S a c)
    (hm : P.follows .mixedOrders = true) (hB : canB l.toArray n loud order = true) (hd : noDefer l.toArray = true)
    (h : wpL P l.toArray (OnlyOn Q) S (fun a' w' => wpList P l.toArray (OnlyOn Q) (l.drop n) a' w') (order.map fun i => (loud.contains i, l.getD i default)) a w.drew) : (Code.region id l.toArray true).wpIn (Fence.wide.inRound lr) nr P Q a w := by
  refine Code.wpIn_mono OnlyOn.imp (wpIn_region_any hm ?_)
  refine wpAny_in_round onlyOn_lets (noDefer_spec hd) _ _ _ _ ?_
  exact any_of_can n loud order S hrefl htrans hB h

/-- the blocks below B are kept -/
def Low (B : Nat) (u u' : World) : Prop := ∀ b, b < B → ∀ o, u.heap[b]? = some o → u'.heap[b]? = some o
theorem Low.refl (B : Nat) (u : World) : Low B u u := fun _ _ _ h => h
theorem Low.trans {B : Nat} {a b c : World} (h : Low B a b) (k : Low B b c) : Low B a c := fun i hi o ho => k i hi o (h i hi o ho)
theorem Low.below {B : Nat} {a b : World} (h : Below a.heap.size a b) : Low B a b := fun i _ o ho => (h.block i (Array.getElem?_eq_some_iff.1 ho).1).trans ho
theorem Low.grown {B : Nat} {a b : World} {row : Option Nat} (h : a.grownBy b row) (hr : ∀ r, row = some r → B ≤ r) : Low B a b := fun i hi o ho => (h.block i (Array.getElem?_eq_some_iff.1 ho).1 (fun e => by have := hr i e.symm; omega)).trans ho

/-- all operations of the region in one order, in a round -/
theorem wpIn_region_can_all {id lr nr : Nat} {a : Act} {w : World} {l : List Oper} (loud order : List Nat) (S : World → World → Prop) (hrefl : ∀ w, S w w) (htrans : ∀ a b c, S a b → S b c → S a c)
    (hm : P.follows .mixedOrders = true) (hB : canB l.toArray l.length loud order = true) (hd : noDefer l.toArray = true)
    (h : wpL P l.toArray (OnlyOn Q) S (Q .normal) (order.map fun i => (loud.contains i, l.getD i default)) a w.drew) : (Code.region id l.toArray true).wpIn (Fence.wide.inRound lr) nr P Q a w := by
  refine Code.wpIn_mono OnlyOn.imp (wpIn_region_any hm ?_)
  refine wpAny_in_round onlyOn_lets (noDefer_spec hd) _ _ _ _ ?_
  refine any_of_can l.length loud order S hrefl htrans hB ?_
  have e : (fun a' w' => wpList P l.toArray (OnlyOn Q) (l.drop l.length) a' w') = OnlyOn Q .normal := by
    funext a' w'
    rw [List.drop_length]
    rfl
  rw [e]
  exact h
end
end Go.Proofs.Ytopmamgdfngdoaa
/- Go's rest of a division, and small facts on integers. -/
namespace Go.Proofs.Ytopmamgdfngdoaa
theorem hid {p : Prop} (h : p) : RowKit.Hid p := h
/-- the walk stands still behind this -/
theorem hold {p : Prop} (h : RowKit.Hid p) : p := h
theorem tmod_facts (x k : Int) (hk : 0 < k) : -k < x.tmod k ∧ x.tmod k < k ∧ (x.tmod k) % k = x % k ∧ (0 ≤ x → x.tmod k = x % k) ∧ (x < 0 → x.tmod k = -((-x) % k)) := by
  have hneg : x < 0 → x.tmod k = -((-x) % k) := fun h => by
    have e : x = -(-x) := by omega
    conv => lhs; rw [e]
    rw [Int.neg_tmod, Int.tmod_eq_emod_of_nonneg (by omega)]
  rcases Int.lt_or_le x 0 with h | h
  · have h1 := Int.emod_nonneg (-x) (by omega : k ≠ 0)
    have h2 := Int.emod_lt_of_pos (-x) hk
    refine ⟨by rw [hneg h]; omega, by rw [hneg h]; omega, ?_, fun h' => by omega, hneg⟩
    rw [hneg h]
    have h3 := Int.emod_add_mul_ediv (-x) k
    have e : -((-x) % k) = x + k * (-x / k) := by omega
    rw [e, Int.add_mul_emod_self_left]
  · have e : x.tmod k = x % k := Int.tmod_eq_emod_of_nonneg h
    have h1 := Int.emod_nonneg x (by omega : k ≠ 0)
    have h2 := Int.emod_lt_of_pos x hk
    exact ⟨by rw [e]; omega, by rw [e]; omega, by rw [e, Int.emod_emod], fun _ => e, hneg⟩
end Go.Proofs.Ytopmamgdfngdoaa
