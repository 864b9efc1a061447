/- Regions that draw their order: one order serves for all, if each operation is either quiet (its value is the same in every world that the others may lead to) or the only one that may come up. -/
import Derived.OrdersHeld
import Derived.StillTail
import Derived.KernelRfl
import Derived.WalkKit
import Derived.Test.YtjiipmalahhcpaaTurns1
import Derived.OpenShut
import Derived.Deep.QuietTactic
import Derived.BigQuiet
namespace Go.Proofs.Ytjiipmalahhcpaa

section
variable {P : Program} {ops : Array Oper} {md : Region.Mode} {Q : Exit → Act → World → Prop} {S : World → World → Prop}

/-- the first f operations come up in whatever order; each leads from a world to one that S allows; then L -/
def wpX (P : Program) (md : Region.Mode) (ops : Array Oper) (Q : Exit → Act → World → Prop) (S : World → World → Prop) (L : Array Bool → Act → World → Prop) : Nat → Array Bool → Act → World → Prop
  | 0, listed, a, w => L listed a w
  | f + 1, listed, a, w => Region.ready md ops listed ≠ [] ∧
    ∀ i ∈ Region.ready md ops listed, wpOp P ops Q i (fun a' w' => S w w' ∧ wpX P md ops Q S L f (listed.setIfInBounds i true) a' w') a w

theorem wpAny_of_X {L : Array Bool → Act → World → Prop} {g : Nat} (hL : ∀ listed a w, L listed a w → wpAny P md ops Q g listed a w) :
    ∀ (f : Nat) (listed : Array Bool) (a : Act) (w : World), wpX P md ops Q S L f listed a w → wpAny P md ops Q (f + g) listed a w
  | 0, listed, a, w, h => by rw [Nat.zero_add]; exact hL _ _ _ h
  | f + 1, listed, a, w, h => by
    rw [show f + 1 + g = (f + g) + 1 by omega]
    exact ⟨fun h0 => absurd h0 h.1, fun i hi => wpOp_mono (fun a' w' h' => wpAny_of_X hL f _ a' w' h'.2) (h.2 i hi)⟩

theorem yieldsIf_mono {S S' : World → Prop} {o : Oper} {v : Value} {a : Act} (h : YieldsIf P ops S o v a) (hs : ∀ w, S' w → S w) : YieldsIf P ops S' o v a :=
  h.imp (fun ⟨h1, h2⟩ => ⟨h1, fun w hw => h2 w (hs w hw)⟩) id

theorem wpX_first {i n : Nat} {oi : Oper} {v : Value} {L : Array Bool → Act → World → Prop} (hi : ops[i]? = some oi) (hsel : ∀ (j : Nat) (o : Oper) cs b, ops[j]? = some o → o.op ≠ .select cs b)
    (hQ : ∀ c a d v w, Q (.panic c) (a.put d v) w → Q (.panic c) a w) (hrefl : ∀ w, S w w) (htrans : ∀ a b c, S a b → S b c → S a c)
    (hL0 : ∀ listed a w, L listed a w → ∀ j ∈ Region.ready md ops listed, n ≤ j)
    (htail : ∀ listed, HeadInv md ops n listed → listed.getD i true = false → ∀ t, n ≤ t → t ∉ Region.ready md ops listed) :
    ∀ (f : Nat) (listed : Array Bool) (a : Act) (w : World), HeadInv md ops n listed →
      (∀ j oj, ops[j]? = some oj → j ≠ i → listed.getD j true = false → (∀ e ∈ oj.after, Region.binds md e = true → e.on ≠ i) → oi.apart ops oj = true) →
      i ∈ Region.ready md ops listed → YieldsIf P ops (S w) oi v a →
      wpX P md ops Q S L f (listed.setIfInBounds i true) (a.put oi.dst v) w → wpX P md ops Q S L (f + 1) listed a w := by
  intro f
  induction f with
  | zero =>
    intro listed a w inv _ hr hy H
    refine ⟨fun h => (by rw [h] at hr; cases hr), fun j hj => ?_⟩
    by_cases hji : j = i
    · subst hji; exact hy.wpOp hi (hrefl w) ⟨hrefl w, H⟩
    · exact absurd hj (htail listed inv (mem_ready.1 hr).1 j (hL0 _ _ _ H j (ready_mono hj hji)))
  | succ f ih =>
    intro listed a w inv hfree hr hy H
    refine ⟨fun h => (by rw [h] at hr; cases hr), fun j hj => ?_⟩
    by_cases hji : j = i
    · subst hji; exact hy.wpOp hi (hrefl w) ⟨hrefl w, H⟩
    · have hjn : j < n := by
        rcases Nat.lt_or_ge j n with h | h
        · exact h
        · exact absurd hj (htail listed inv (mem_ready.1 hr).1 j h)
      have h1 := H.2 j (ready_mono hj hji)
      obtain ⟨hjun, oj, hoj, hall⟩ := mem_ready.1 hj
      have hnot : ∀ e ∈ oj.after, Region.binds md e = true → e.on ≠ i := fun e he hb heq => by
        have h1 := hall e he hb
        rw [heq, getD_both (mem_ready.1 hr).1] at h1
        cases h1
      have h2 := wpOp_putIf hoj (hfree j oj hoj hji hjun hnot) (fun cs b => hsel i oi cs b hi) (fun cs b => hsel j oj cs b hoj) (fun c a w => hQ c a _ _ w) hy h1
      have hfree' : ∀ k ok, ops[k]? = some ok → k ≠ i → (listed.setIfInBounds j true).getD k true = false →
          (∀ e ∈ ok.after, Region.binds md e = true → e.on ≠ i) → oi.apart ops ok = true := fun k ok hk hki hun hno => by
        refine hfree k ok hk hki ?_ hno
        by_cases hjk : j = k
        · subst hjk; exact hjun
        · rw [getD_set_ne true hjk] at hun; exact hun
      refine wpOp_mono (fun a' w' h3 => ⟨h3.2.1, ih (listed.setIfInBounds j true) a' w' (inv.set hj hjn) hfree' (ready_mono hr (Ne.symm hji)) (yieldsIf_mono h3.1 fun w2 h => htrans _ _ _ h3.2.1 h) ?_⟩) h2
      rw [Array.setIfInBounds_comm _ _ hji]
      exact h3.2.2

/-- the operations in one order: the loud ones as they stand, the others by their value -/
def wpC (P : Program) (ops : Array Oper) (Q : Exit → Act → World → Prop) (S : World → World → Prop) (loud : List Nat) (E : Act → World → Prop) : List Nat → Act → World → Prop
  | [], a, w => E a w
  | i :: rest, a, w => match ops[i]? with
    | none => False
    | some o => if loud.contains i then wpOp P ops Q i (fun a' w' => S w w' ∧ wpC P ops Q S loud E rest a' w') a w
      else ∃ v, YieldsIf P ops (S w) o v a ∧ wpC P ops Q S loud E rest (a.put o.dst v) w

/-- is that order one of those that may come up, and does it serve for all? -/
def okC (md : Region.Mode) (ops : Array Oper) (n : Nat) (loud : List Nat) : List Nat → Array Bool → Bool
  | [], listed => Region.seqB md ops (ops.size - n) n listed
  | i :: rest, listed => decide (i < n) && (Region.ready md ops listed).contains i && (if loud.contains i then decide (Region.ready md ops listed = [i]) else Region.free md ops listed i) &&
      okC md ops n loud rest (listed.setIfInBounds i true)

theorem wpX_of_C {n : Nat} {loud : List Nat} {E : Act → World → Prop} (hsel : ∀ (j : Nat) (o : Oper) cs b, ops[j]? = some o → o.op ≠ .select cs b)
    (hQ : ∀ c a d v w, Q (.panic c) (a.put d v) w → Q (.panic c) a w) (hrefl : ∀ w, S w w) (htrans : ∀ a b c, S a b → S b c → S a c)
    (htail : ∀ i, i < n → ∀ listed, HeadInv md ops n listed → listed.getD i true = false → ∀ t, n ≤ t → t ∉ Region.ready md ops listed) :
    ∀ (order : List Nat) (listed : Array Bool) (a : Act) (w : World), HeadInv md ops n listed → okC md ops n loud order listed = true → wpC P ops Q S loud E order a w →
      wpX P md ops Q S (fun listed' a' w' => Region.seqB md ops (ops.size - n) n listed' = true ∧ E a' w') order.length listed a w
  | [], listed, a, w, _, hok, h => ⟨hok, h⟩
  | i :: rest, listed, a, w, inv, hok, h => by
    simp only [okC, Bool.and_eq_true, decide_eq_true_eq] at hok
    obtain ⟨⟨⟨hin, hr⟩, hc⟩, hok'⟩ := hok
    have hr' : i ∈ Region.ready md ops listed := by simpa using hr
    unfold wpC at h
    cases hi : ops[i]? with
    | none => simp only [hi] at h
    | some oi =>
      simp only [hi] at h
      by_cases hl : loud.contains i = true
      · rw [if_pos hl] at h hc
        have hone : Region.ready md ops listed = [i] := by simpa using hc
        refine ⟨fun e => (by rw [e] at hr'; cases hr'), fun j hj => ?_⟩
        obtain rfl : j = i := by rw [hone] at hj; simpa using hj
        exact wpOp_mono (fun a' w' h' => ⟨h'.1, wpX_of_C hsel hQ hrefl htrans htail rest _ a' w' (inv.set hr' hin) hok' h'.2⟩) h
      · rw [if_neg hl] at h hc
        obtain ⟨v, hy, hrest⟩ := h
        exact wpX_first hi hsel hQ hrefl htrans (fun listed' a' w' hL => seqB_ready hL.1) (htail i hin) rest.length listed a w inv (Region.free_spec hi hc) hr' hy
          (wpX_of_C hsel hQ hrefl htrans htail rest _ _ w (inv.set hr' hin) hok' hrest)

/-- the checks on a region: n operations in this order, the rest of them behind, one by one -/
def canB (ops : Array Oper) (n : Nat) (loud order : List Nat) : Bool :=
  Region.noSelect ops && (decide (n = ops.size) || (decide (n < ops.size) && Region.sinkB .any ops n && Region.chainB .any ops n)) && decide (order.length = n) && okC .any ops n loud order (Array.replicate ops.size false)

/-- the operations in one order, written out, each with the mark 'loud' -/
def wpL (P : Program) (ops : Array Oper) (Q : Exit → Act → World → Prop) (S : World → World → Prop) (E : Act → World → Prop) : List (Bool × Oper) → Act → World → Prop
  | [], a, w => E a w
  | (true, o) :: rest, a, w => if Region.wanted o (yielded ops a.tmps) then o.wp P a w (fun a' w' => S w w' ∧ wpL P ops Q S E rest a' w') Q else S w w ∧ wpL P ops Q S E rest (a.put o.dst undef) w
  | (false, o) :: rest, a, w => if Region.wanted o (yielded ops a.tmps) then ∃ v, (∀ w', S w w' → (execOp a.eval o).run P w' = .ok (.value v) w') ∧ wpL P ops Q S E rest (a.put o.dst v) w else wpL P ops Q S E rest (a.put o.dst undef) w

theorem wpOp_mono2 {i : Nat} {o : Oper} {K K' : Act → World → Prop} {a : Act} {w : World} (hi : ops[i]? = some o) (hw : Region.wanted o (yielded ops a.tmps) = true) (h : o.wp P a w K Q) (hk : ∀ a w, K a w → K' a w) : wpOp P ops Q i K' a w := by
  refine wpOp_mono hk ?_
  unfold wpOp
  simp only [hi, hw, if_true]
  exact .inl h

theorem wpC_of_L {l : List Oper} {loud : List Nat} {E : Act → World → Prop} : ∀ (order : List Nat) (a : Act) (w : World), (∀ i ∈ order, i < l.length) →
    wpL P l.toArray Q S E (order.map fun i => (loud.contains i, l.getD i default)) a w → wpC P l.toArray Q S loud E order a w
  | [], _, _, _, h => h
  | i :: rest, a, w, hin, h => by
    have hil := hin i (List.mem_cons_self ..)
    have hi : l.toArray[i]? = some (l.getD i default) := by
      rw [List.getElem?_toArray, List.getElem?_eq_getElem hil, List.getD_eq_getElem?_getD, List.getElem?_eq_getElem hil]; rfl
    have hin' : ∀ j ∈ rest, j < l.length := fun j hj => hin j (List.mem_cons_of_mem _ hj)
    have h1 : wpL P l.toArray Q S E ((loud.contains i, l.getD i default) :: rest.map fun i => (loud.contains i, l.getD i default)) a w := h
    generalize l.getD i default = o at hi h1
    unfold wpC
    simp only [hi]
    cases hl : loud.contains i with
    | true =>
      rw [hl] at h1
      rw [if_pos rfl]
      unfold wpL at h1
      by_cases hw : Region.wanted o (yielded l.toArray a.tmps) = true
      · rw [if_pos hw] at h1
        exact wpOp_mono2 hi hw h1 fun a' w' h' => ⟨h'.1, wpC_of_L rest a' w' hin' h'.2⟩
      · rw [if_neg hw] at h1
        unfold wpOp
        simp only [hi]
        rw [if_neg hw]
        exact ⟨h1.1, wpC_of_L rest _ _ hin' h1.2⟩
    | false =>
      rw [hl] at h1
      rw [if_neg (by simp)]
      unfold wpL at h1
      by_cases hw : Region.wanted o (yielded l.toArray a.tmps) = true
      · rw [if_pos hw] at h1
        obtain ⟨v, h2, h3⟩ := h1
        exact ⟨v, .inl ⟨hw, h2⟩, wpC_of_L rest _ _ hin' h3⟩
      · rw [if_neg hw] at h1
        exact ⟨undef, .inr ⟨by simpa using hw, rfl⟩, wpC_of_L rest _ _ hin' h1⟩

/-- Q, and nothing but the way on -/
def OnlyOn (Q : Exit → Act → World → Prop) : Exit → Act → World → Prop
  | .normal, a, w => Q .normal a w
  | _, _, _ => False
theorem OnlyOn.imp {Q : Exit → Act → World → Prop} : ∀ (e : Exit) (a : Act) (w : World), OnlyOn Q e a w → Q e a w := fun e a w h => by
  cases e <;> first | exact h | exact (h : False).elim

theorem okC_lt {n : Nat} {loud : List Nat} : ∀ (order : List Nat) (listed : Array Bool), okC md ops n loud order listed = true → ∀ i ∈ order, i < n
  | [], _, _, _, hi => by cases hi
  | j :: rest, listed, h, i, hi => by
    simp only [okC, Bool.and_eq_true, decide_eq_true_eq] at h
    rcases List.mem_cons.1 hi with h1 | h1
    · subst h1; exact h.1.1.1
    · exact okC_lt rest _ h.2 i h1

theorem wp_region_can {id : Nat} {a : Act} {w : World} {l : List Oper} (n : Nat) (loud order : List Nat) (S : World → World → Prop) (hrefl : ∀ w, S w w) (htrans : ∀ a b c, S a b → S b c → S a c)
    (hm : P.follows .mixedOrders = true) (hB : canB l.toArray n loud order = true)
    (h : wpL P l.toArray (OnlyOn Q) S (fun a' w' => wpList P l.toArray (OnlyOn Q) (l.drop n) a' w') (order.map fun i => (loud.contains i, l.getD i default)) a w.drew) : (Code.region id l.toArray true).wp P Q a w := by
  simp only [canB, Bool.and_eq_true, Bool.or_eq_true, decide_eq_true_eq] at hB
  obtain ⟨⟨⟨hsel, hn⟩, hlen⟩, hok⟩ := hB
  have hnl : n ≤ l.length := by
    rcases hn with h | h
    · simp at h; omega
    · have := h.1.1; simp at this; omega
  have hin : ∀ i ∈ order, i < l.length := fun i hi => Nat.lt_of_lt_of_le (okC_lt order _ hok i hi) hnl
  replace h := wpC_of_L order a w.drew hin h
  have htail : ∀ i, i < n → ∀ listed, HeadInv .any l.toArray n listed → listed.getD i true = false → ∀ t, n ≤ t → t ∉ Region.ready .any l.toArray listed := by
    intro i hin listed inv hun t ht hr
    rcases hn with h | h
    · obtain ⟨_, ot, hot, _⟩ := mem_ready.1 hr
      have := (Array.getElem?_eq_some_iff.1 hot).1
      omega
    · exact tail_waits h.1.2 h.2 h.1.1 inv _ i rfl hin hun t ht hr
  have inv0 : HeadInv .any l.toArray n (Array.replicate l.toArray.size false) :=
    ⟨by simp, fun j oj _ hl => (by rw [getD_replicate_false] at hl; cases hl), fun t _ ht => getD_in (by simpa using ht) (getD_replicate_false _ _)⟩
  have H := wpX_of_C (md := .any) (Region.noSelect_spec hsel) (fun _ _ _ _ _ h => h) hrefl htrans htail order _ a w.drew inv0 hok h
  refine Code.wp_mono OnlyOn.imp (wp_region_any hm ?_)
  have hdl : (l.drop n).length = l.toArray.size - n := by simp
  have H2 := wpAny_of_X (g := l.toArray.size - n) (fun listed a' w' hL => by
    have := wpAny_of_seq (md := .any) (Q' := OnlyOn Q) (l.drop n) n listed a' w' (fun j => by simp [List.getElem?_drop]) (by rw [hdl]; exact hL.1) hL.2
    rwa [hdl] at this) _ _ _ _ H
  rw [hlen, show n + (l.toArray.size - n) = l.toArray.size by simp; omega] at H2
  exact H2

/-- all operations of the region in one order -/
theorem wp_region_can_all {id : Nat} {a : Act} {w : World} {l : List Oper} (loud order : List Nat) (S : World → World → Prop) (hrefl : ∀ w, S w w) (htrans : ∀ a b c, S a b → S b c → S a c)
    (hm : P.follows .mixedOrders = true) (hB : canB l.toArray l.length loud order = true)
    (h : wpL P l.toArray (OnlyOn Q) S (Q .normal) (order.map fun i => (loud.contains i, l.getD i default)) a w.drew) : (Code.region id l.toArray true).wp P Q a w := by
  refine wp_region_can l.length loud order S hrefl htrans hm hB ?_
  have e : (fun a' w' => wpList P l.toArray (OnlyOn Q) (l.drop l.length) a' w') = Q .normal := by
    funext a' w'
    rw [List.drop_length]
    rfl
  rw [e]
  exact h

variable {E : Act → World → Prop} {rest : List (Bool × Oper)} {o : Oper} {a : Act} {w : World}

/-- a quiet operation that is carried out -/
theorem wpL_do {v : Value} (hw : Region.wanted o (yielded ops a.tmps) = true)
    (hv : ∀ w', S w w' → (execOp a.eval o).run P w' = .ok (.value v) w') (h : wpL P ops Q S E rest (a.put o.dst v) w) : wpL P ops Q S E ((false, o) :: rest) a w := by
  unfold wpL; rw [if_pos hw]; exact ⟨v, hv, h⟩

/-- an operation whose guard says no -/
theorem wpL_pass (hw : Region.wanted o (yielded ops a.tmps) = false)
    (h : wpL P ops Q S E rest (a.put o.dst undef) w) : wpL P ops Q S E ((false, o) :: rest) a w := by
  unfold wpL; rw [if_neg (by rw [hw]; simp)]; exact h

/-- a loud operation that is carried out -/
theorem wpL_call (hw : Region.wanted o (yielded ops a.tmps) = true)
    (h : ∀ K : Act → World → Prop, (∀ a' w', S w w' → wpL P ops Q S E rest a' w' → K a' w') → o.wp P a w K Q) : wpL P ops Q S E ((true, o) :: rest) a w := by
  unfold wpL; rw [if_pos hw]; exact h _ fun _ _ h1 h2 => ⟨h1, h2⟩

/-- a loud operation whose guard says no -/
theorem wpL_hush (hw : Region.wanted o (yielded ops a.tmps) = false) (hr : S w w)
    (h : wpL P ops Q S E rest (a.put o.dst undef) w) : wpL P ops Q S E ((true, o) :: rest) a w := by
  unfold wpL; rw [if_neg (by rw [hw]; simp)]; exact ⟨hr, h⟩

theorem wpL_nil (h : E a w) : wpL P ops Q S E [] a w := h
end
/-- nothing that is there turns -/
def Ext (w w' : World) : Prop := RowKit.Below w.heap.size w w'
theorem Ext.refl (w : World) : Ext w w := RowKit.Below.refl _ _
theorem Ext.trans (a b c : World) (h : Ext a b) (k : Ext b c) : Ext a c := RowKit.Below.trans h (RowKit.Below.mono k h.size)
end Go.Proofs.Ytjiipmalahhcpaa
/- Slices whose elements take one cell each: what a slice value reads as in a world; bytes as natural numbers. -/
namespace Go.Proofs.Ytjiipmalahhcpaa
open Go.RowKit

/-- the bytes' cells -/
def vb (bs : List Nat) : List Value := bs.map fun (x : Nat) => Value.int .u8 (x : Int)
theorem vb_len (bs : List Nat) : (vb bs).length = bs.length := by simp [vb]
theorem vb_get (bs : List Nat) (k : Nat) (h : k < bs.length) : (vb bs)[k]? = some (.int .u8 (nth bs k)) := by
  simp [vb, nth, h]
theorem vb_append (a b : List Nat) : vb (a ++ b) = vb a ++ vb b := by simp [vb]
theorem vb_set (bs : List Nat) (k x : Nat) : (vb bs).set k (.int .u8 (x : Int)) = vb (bs.set k x) := by simp [vb]
theorem vb_take (bs : List Nat) (k : Nat) : (vb bs).take k = vb (bs.take k) := by simp [vb]
theorem vb_oneCell (bs : List Nat) : ∀ u ∈ vb bs, u.oneCell' = true := by
  intro u hu
  obtain ⟨_, _, rfl⟩ := List.mem_map.1 hu
  rfl
/-- the slice (.slice ao n cap) reads as the cells xs -/
structure Rd (w : World) (ao : Option Addr) (n cap : Nat) (xs : List Value) : Prop where
  len : xs.length = n
  le : n ≤ cap
  max : cap ≤ maxLen
  isnil : ao = none → cap = 0
  mem : 0 < n → ∃ b off, ao = some ⟨b, off, none⟩ ∧ b < w.heap.size ∧ ∀ j, j < n → w.cell? ⟨b, off + j, none⟩ = xs[j]?

theorem Rd.below {w w' : World} {ao : Option Addr} {n cap : Nat} {xs : List Value} (h : Rd w ao n cap xs) (hb : Below w.heap.size w w') : Rd w' ao n cap xs :=
  ⟨h.len, h.le, h.max, h.isnil, fun hn => by
    obtain ⟨b, off, ha, hlt, hc⟩ := h.mem hn
    exact ⟨b, off, ha, Nat.lt_of_lt_of_le hlt hb.size, fun j hj => (hb.cell (p := ⟨b, off + j, none⟩) hlt).trans (hc j hj)⟩⟩

/-- kept while only blocks from B on turn -/
theorem Rd.below' {B : Nat} {w0 w' : World} {ao : Option Addr} {n cap : Nat} {xs : List Value} (h : Rd w0 ao n cap xs) (hB : w0.heap.size ≤ B) (h0 : Below B w0 w') : Rd w' ao n cap xs :=
  h.below (h0.mono hB)

theorem Rd.take {w : World} {ao : Option Addr} {n cap : Nat} {xs : List Value} (h : Rd w ao n cap xs) (k : Nat) (hk : k ≤ n) : Rd w ao k cap (xs.take k) :=
  ⟨by rw [List.length_take, h.len]; omega, by have := h.le; omega, h.max, h.isnil, fun hn => by
    obtain ⟨b, off, ha, hlt, hc⟩ := h.mem (by omega)
    exact ⟨b, off, ha, hlt, fun j hj => by rw [hc j (by omega), List.getElem?_take, if_pos hj]⟩⟩

theorem Rd.cell {w : World} {ao : Option Addr} {n cap : Nat} {bs : List Nat} (h : Rd w ao n cap (vb bs)) (k : Nat) (hk : k < n) :
    ∃ b off, ao = some ⟨b, off, none⟩ ∧ b < w.heap.size ∧ w.cell? ⟨b, off + k, none⟩ = some (.int .u8 (nth bs k)) := by
  obtain ⟨b, off, ha, hlt, hc⟩ := h.mem (by omega)
  have hl := h.len
  rw [vb_len] at hl
  exact ⟨b, off, ha, hlt, by rw [hc k hk, vb_get bs k (by omega)]⟩

theorem Rd.nil (w : World) : Rd w none 0 0 (vb []) := ⟨rfl, Nat.le_refl _, Nat.zero_le _, fun _ => rfl, fun h => by omega⟩

/-- an owned row reads -/
theorem Rd.ofOwn {w : World} {base e : Nat} {ao : Option Addr} {n cap : Nat} {xs : List Value} (h : w.ownsRow base e 1 (.slice ao n cap) n xs) : Rd w ao n cap xs := by
  have hl := h.1
  rw [Nat.mul_one] at hl
  rcases h.2 with ⟨h', h0⟩ | ⟨g, cap', cur, h', _, hg, h1, h2, h3, h4⟩
  · cases h'
    exact ⟨hl, Nat.le_refl _, Nat.zero_le _, fun _ => rfl, fun h => by omega⟩
  · cases h'
    refine ⟨hl, h1, h2, (fun h => by cases h), fun hn => ⟨g, 0, rfl, (Array.getElem?_eq_some_iff.1 hg).1, fun j hj => ?_⟩⟩
    rw [Nat.zero_add]
    exact h.cellAt j (by omega)

/-- an owned slice value: its address is a row's head, or it is nil -/
theorem own_form {w : World} {base e size : Nat} {v : Value} {n : Nat} {xs : List Value} (h : w.ownsRow base e size v n xs) :
    ∃ ao cap, v = .slice ao n cap ∧ n ≤ cap ∧ cap ≤ maxLen ∧ ((ao = none ∧ n = 0 ∧ cap = 0) ∨ ∃ g, ao = some ⟨g, 0, none⟩ ∧ base ≤ g ∧ g < w.heap.size) := by
  rcases h.2 with ⟨rfl, rfl⟩ | ⟨g, cap, cur, rfl, hb, hg, h1, h2, _⟩
  · exact ⟨none, 0, rfl, Nat.le_refl _, Nat.zero_le _, .inl ⟨rfl, rfl, rfl⟩⟩
  · exact ⟨_, cap, rfl, h1, h2, .inr ⟨g, rfl, hb, (Array.getElem?_eq_some_iff.1 hg).1⟩⟩

theorem ownsRow_below {w w' : World} {base e size : Nat} {v : Value} {n : Nat} {xs : List Value} (h : w.ownsRow base e size v n xs) (hb : Below w.heap.size w w') : w'.ownsRow base e size v n xs := by
  refine ⟨h.1, ?_⟩
  rcases h.2 with hn | ⟨g, cap, cur, rfl, hB, hgg, rest⟩
  · exact .inl hn
  · refine .inr ⟨g, cap, cur, rfl, hB, ?_, rest⟩
    rw [hb.block g (Array.getElem?_eq_some_iff.1 hgg).1]
    exact hgg

theorem ownsRow_mono {w : World} {base base' e size : Nat} {v : Value} {n : Nat} {xs : List Value} (h : w.ownsRow base e size v n xs) (hb : base' ≤ base) : w.ownsRow base' e size v n xs := by
  refine ⟨h.1, ?_⟩
  rcases h.2 with hn | ⟨g, cap, cur, rfl, hB, rest⟩
  · exact .inl hn
  · exact .inr ⟨g, cap, cur, rfl, Nat.le_trans hb hB, rest⟩

theorem Rd.grown {w w' : World} {row : Option Nat} {ao : Option Addr} {n cap : Nat} {xs : List Value} (h : Rd w ao n cap xs) (hg : w.grownBy w' row) (hne : ∀ b off, 0 < n → ao = some ⟨b, off, none⟩ → some b ≠ row) : Rd w' ao n cap xs :=
  ⟨h.len, h.le, h.max, h.isnil, fun hn => by
    obtain ⟨b, off, ha, hlt, hc⟩ := h.mem hn
    exact ⟨b, off, ha, Nat.lt_of_lt_of_le hlt hg.size, fun j hj => (World.cell?_of_block (w := w) (hg.block b hlt (hne _ _ hn ha))).trans (hc j hj)⟩⟩

theorem grownBy_trans {a b c : World} {row : Option Nat} (h : a.grownBy b row) (k : b.grownBy c row) : a.grownBy c row :=
  ⟨k.os.trans h.os, k.tape.trans h.tape, k.output.trans h.output, Nat.le_trans h.size k.size, fun i hi hne => (k.block i (Nat.lt_of_lt_of_le hi h.size) hne).trans (h.block i hi hne)⟩

theorem grownBy_of_below {w w' : World} (h : Below w.heap.size w w') (row : Option Nat) : w.grownBy w' row :=
  ⟨h.os, h.tape, h.output, h.size, fun k hk _ => h.block k hk⟩

theorem below_of_grown {w0 w w' : World} {g : Nat} (h : Below w0.heap.size w0 w) (hg : w.grownBy w' (some g)) (hle : w0.heap.size ≤ g) : Below w0.heap.size w0 w' :=
  h.grown hg h.size (fun k e => by cases e; exact hle)

theorem grownBy_drew (w : World) (row : Option Nat) : w.grownBy w.drew row := ⟨rfl, rfl, rfl, Nat.le_refl _, fun _ _ _ => rfl⟩
theorem grownBy_drewN (w : World) (n : Nat) (row : Option Nat) : w.grownBy (w.drewN n) row := ⟨rfl, rfl, rfl, Nat.le_refl _, fun _ _ _ => rfl⟩
theorem below_drewN {B : Nat} (w : World) (n : Nat) : Below B w (w.drewN n) := ⟨rfl, rfl, rfl, Nat.le_refl _, fun _ _ => rfl⟩
theorem Rd.block_lt {w : World} {ao : Option Addr} {n cap : Nat} {xs : List Value} (h : Rd w ao n cap xs) {b off : Nat} (hn : 0 < n) (ha : ao = some ⟨b, off, none⟩) : b < w.heap.size := by
  obtain ⟨b', off', ha', hlt, _⟩ := h.mem hn
  rw [ha] at ha'
  cases ha'
  exact hlt
theorem below_alloc (w : World) (o : Obj) : Below w.heap.size w (w.alloc o) := (Below.refl _ _).alloc (Nat.le_refl _) _

/-- the string of bytes -/
def strB (bs : List Nat) : ByteArray := ⟨(bs.map UInt8.ofNat).toArray⟩
theorem run_str {P : Program} {w : World} (src e dst : TypeId) (hs : P.underlying src = some (.slice e)) (he : P.underlying e = some (.int .u8)) (hd : P.underlying dst = some .string)
    {ao : Option Addr} {n cap : Nat} {bs : List Nat} (h : Rd w ao n cap (vb bs)) : (convert src dst (.slice ao n cap)).run P w = .ok (.string (strB bs)) w := by
  have hl := h.len
  rw [vb_len] at hl
  have hnums : strOfNums (bs.map fun (x : Nat) => (x : Int)) = strB bs := by
    unfold strOfNums strB
    congr 2
    rw [List.map_map]
    apply List.map_congr_left
    intro x _
    simp
  cases ao with
  | none =>
    obtain rfl := h.isnil rfl
    have h0 : n = 0 := by have := h.le; omega
    subst h0
    have : bs = [] := List.eq_nil_of_length_eq_zero hl
    subst this
    exact run_convert_bytes_nil w src e hs he 0 0 dst hd
  | some a =>
    rcases Nat.eq_zero_or_pos n with h0 | h0
    · subst h0
      have : bs = [] := List.eq_nil_of_length_eq_zero hl
      subst this
      rw [run_convert_bytes_string w src dst e _ 0 cap hs he hd, run_bytesToString w a 0 cap [] (by simp [loadCells, loadCellsFrom])]
      rfl
    · obtain ⟨b, off, ha, _, hc⟩ := h.mem h0
      cases ha
      rw [run_convert_bytes_arg w src e hs he b off n cap (bs.map fun (x : Nat) => (x : Int)) (by simpa using hl) (fun i hi => by
        rw [hc i hi, vb_get bs i (by omega)]
        simp [nth, hl, hi]) dst hd, hnums]
theorem run_str_ext {P : Program} {w : World} (src e dst : TypeId) (hs : P.underlying src = some (.slice e)) (he : P.underlying e = some (.int .u8)) (hd : P.underlying dst = some .string)
    {ao : Option Addr} {n cap : Nat} {bs : List Nat} (h : Rd w ao n cap (vb bs)) : ∀ w', Ext w w' → (convert src dst (.slice ao n cap)).run P w' = .ok (.string (strB bs)) w' :=
  fun _ hw => run_str src e dst hs he hd (h.below hw)

/-- a slice of bytes that came in, as the row's frame hands it over -/
theorem rd_of_row {w : World} {a : Option Addr} {len cap : Nat} {zs : List Int}
    (h : (a = none ∧ len = 0 ∧ cap = 0 ∧ zs = []) ∨ ∃ x, a = some x ∧ len ≤ cap ∧ cap ≤ maxLen ∧ zs.length = cap ∧ (∀ i, i < zs.length → w.cell? (x.add i) = some (.int .u8 (zs.getD i 0))) ∧ ∀ n ∈ zs, (Lit.int .u8 n).wf = true) :
    ∃ bs, Rd w a len cap (vb bs) ∧ AllB bs := by
  rcases h with ⟨rfl, rfl, rfl, rfl⟩ | ⟨x, rfl, hl, hm, hz, hc, hw⟩
  · exact ⟨[], Rd.nil w, AllB.nil⟩
  · have hb : ∀ n ∈ zs, 0 ≤ n ∧ n ≤ 255 := fun n hn => bounds_u8 (hw n hn)
    refine ⟨(zs.take len).map Int.toNat, ⟨by rw [vb_len, List.length_map, List.length_take]; omega, hl, hm, (fun h => by cases h), fun hn => ?_⟩, fun y hy => ?_⟩
    · have h0 := hc 0 (by omega)
      have hspot := World.cell?_spot h0
      obtain ⟨b, off, spot⟩ := x
      have hsp : spot = none := by
        cases spot with
        | none => rfl
        | some s => simp [Addr.add] at hspot
      subst hsp
      refine ⟨b, off, rfl, ?_, fun j hj => ?_⟩
      · rw [Addr.add_lit] at h0
        exact World.block_lt_of_cell? w _ h0
      · have h1 := hc j (by omega)
        rw [Addr.add_lit] at h1
        rw [h1, vb_get _ _ (by rw [List.length_map, List.length_take]; omega)]
        have hmem : zs[j]'(by omega) ∈ zs := List.getElem_mem _
        have hpos := (hb _ hmem).1
        have e1 : zs.getD j 0 = zs[j]'(by omega) := by rw [List.getD_eq_getElem?_getD, List.getElem?_eq_getElem (by omega)]; rfl
        have e2 : nth ((zs.take len).map Int.toNat) j = (zs[j]'(by omega)).toNat := by
          rw [nth_get (by rw [List.length_map, List.length_take]; omega)]
          simp
        rw [e1, e2, Int.toNat_of_nonneg hpos]
    · obtain ⟨n, hn, rfl⟩ := List.mem_map.1 hy
      have := hb n (List.mem_of_mem_take hn)
      omega

/-- the ints' cells -/
def vi (l : List Nat) : List Value := l.map fun (x : Nat) => Value.int .i64 (x : Int)
theorem vi_len (l : List Nat) : (vi l).length = l.length := by simp [vi]
theorem vi_get (l : List Nat) (k : Nat) (h : k < l.length) : (vi l)[k]? = some (.int .i64 (nth l k)) := by
  simp [vi, nth, h]
theorem vi_append (a b : List Nat) : vi (a ++ b) = vi a ++ vi b := by simp [vi]
theorem vi_set (l : List Nat) (k x : Nat) : (vi l).set k (.int .i64 (x : Int)) = vi (l.set k x) := by simp [vi]
/-- one new cell, where it lies -/
theorem one_new (w : World) (v : Value) (e : TypeId) : ∀ j u, [v][j]? = some u → (w.alloc (.cells #[v] e)).cell? ((⟨w.heap.size, 0, none⟩ : Addr).add j) = some u := by
  intro j u hj
  match j, hj with
  | 0, hj =>
    simp at hj
    subst hj
    rw [Addr.add_lit, World.cell?_alloc_at _ _ _ _ rfl]
    rfl
theorem one_new' {w : World} {H : Nat} (hH : w.heap.size = H) (v : Value) (e : TypeId) : ∀ j u, [v][j]? = some u → (w.alloc (.cells #[v] e)).cell? ((⟨H, 0, none⟩ : Addr).add j) = some u := by
  subst hH
  exact one_new w v e
end Go.Proofs.Ytjiipmalahhcpaa
