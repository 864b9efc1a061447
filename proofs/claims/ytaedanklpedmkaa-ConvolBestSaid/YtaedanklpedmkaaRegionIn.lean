/- A region that draws its order, inside a round of a range over a function: one order serves for all there, too. -/
import Derived.Test.YtaedanklpedmkaaRegionT
import Derived.OrdersIn
import Derived.TacticsIn
import Derived.RangeFuncCalls
import Derived.Below
namespace Go.Proofs.Ytaedanklpedmkaa
open Go.RowKit
set_option linter.unusedVariables false
section
variable {P : Program} {ops : Array Oper} {md : Region.Mode} {Q : Exit → Act → World → Prop} {S : World → World → Prop}

theorem oper_in_round {l n : Nat} {o : Oper} {a : Act} {w : World} {K : Act → World → Prop} (hd : ∀ c, o.op ≠ .defer c) (h : o.wp P a w K Q) : o.wpIn (Fence.wide.inRound l) n P a w K Q := by
  refine ⟨fun _ _ => trivial, ?_⟩
  rw [show (Fence.wide.inRound l).round = some l from rfl, Oper.semAt_some l _ _ hd]
  unfold Oper.wp at h
  generalize (execOp a.eval o).run P w = r at *
  cases r with
  | ok x w' =>
    cases x
    case enter f args => exact ⟨(fun h' => by cases h'), CallsIn.inRound l (callsIn_wide.2 (Calls.mono h (fun e w'' he => by cases e <;> exact he)))⟩
    case row row args =>
      exact ⟨(fun h' => by cases h'), fun c cs _ => (by
        obtain ⟨v, w'', r, s⟩ := h c cs
        exact ⟨v, w'', r, stepsIn_wide.2 s⟩)⟩
    all_goals first | exact h | exact h.elim
  | halt x w' => cases x <;> first | exact h | exact h.elim

theorem wpOp_in_round {l n i : Nat} {K K' : Act → World → Prop} {a : Act} {w : World} (hd : ∀ (j : Nat) (o : Oper), ops[j]? = some o → ∀ c, o.op ≠ .defer c) (hlo : ¬ LetsOut Q) (hK : ∀ a w, K a w → K' a w) (h : wpOp P ops Q i K a w) :
    wpOpIn (Fence.wide.inRound l) n P ops Q i K' a w := by
  unfold wpOp at h
  unfold wpOpIn
  cases ho : ops[i]? with
  | none => simp only [ho] at h ⊢; exact hK _ _ h
  | some o =>
    simp only [ho] at h ⊢
    by_cases hw : Region.wanted o (yielded ops a.tmps) = true
    · rw [if_pos hw] at h
      rw [if_pos hw]
      exact Oper.wpIn_mono hK (oper_in_round (hd i o ho) (h.resolve_right fun h' => hlo h'.2))
    · rw [if_neg hw] at h
      rw [if_neg hw]
      exact ⟨fun _ _ => trivial, hK _ _ h⟩

theorem wpAny_in_round {l n : Nat} (hlo : ¬ LetsOut Q) (hd : ∀ (j : Nat) (o : Oper), ops[j]? = some o → ∀ c, o.op ≠ .defer c) : ∀ (fuel : Nat) (listed : Array Bool) (a : Act) (w : World), wpAny P md ops Q fuel listed a w → wpAnyIn (Fence.wide.inRound l) n P md ops Q fuel listed a w
  | 0, _, _, _, h => h
  | fuel + 1, _, _, _, h => ⟨h.1, fun i hi => wpOp_in_round hd hlo (fun a w h' => wpAny_in_round hlo hd fuel _ a w h') (h.2 i hi)⟩

theorem onlyOn_lets : ¬ LetsOut (OnlyOn Q) := fun ⟨_, _, h⟩ => h

def noDefer (ops : Array Oper) : Bool := ops.toList.all fun o => match o.op with | .defer _ => false | _ => true
theorem noDefer_spec (h : noDefer ops = true) : ∀ (j : Nat) (o : Oper), ops[j]? = some o → ∀ c, o.op ≠ .defer c := by
  intro j o ho c he
  have h1 := List.all_eq_true.1 h o (by
    obtain ⟨hj, rfl⟩ := Array.getElem?_eq_some_iff.1 ho
    exact Array.getElem_mem_toList hj)
  rw [he] at h1
  cases h1

theorem any_of_can {a : Act} {w : World} {l : List Oper} (n : Nat) (loud order : List Nat) (S : World → World → Prop) (hrefl : ∀ w, S w w) (htrans : ∀ a b c, S a b → S b c → S a c)
    (hB : canB l.toArray n loud order = true)
    (h : wpL P l.toArray (OnlyOn Q) S (fun a' w' => wpList P l.toArray (OnlyOn Q) (l.drop n) a' w') (order.map fun i => (loud.contains i, l.getD i default)) a w) : wpAny P .any l.toArray (OnlyOn Q) l.toArray.size (Array.replicate l.toArray.size false) a w := by
  simp only [canB, Bool.and_eq_true, Bool.or_eq_true, decide_eq_true_eq] at hB
  obtain ⟨⟨⟨hsel, hn⟩, hlen⟩, hok⟩ := hB
  have hnl : n ≤ l.length := by
    rcases hn with h | h
    · simp at h; omega
    · have := h.1.1; simp at this; omega
  have hin : ∀ i ∈ order, i < l.length := fun i hi => Nat.lt_of_lt_of_le (okC_lt order _ hok i hi) hnl
  replace h := wpC_of_L order a w hin h
  have htail : ∀ i, i < n → ∀ listed, HeadInv .any l.toArray n listed → listed.getD i true = false → ∀ t, n ≤ t → t ∉ Region.ready .any l.toArray listed := by
    intro i hin listed inv hun t ht hr
    rcases hn with h | h
    · obtain ⟨_, ot, hot, _⟩ := mem_ready.1 hr
      have := (Array.getElem?_eq_some_iff.1 hot).1
      omega
    · exact tail_waits h.1.2 h.2 h.1.1 inv _ i rfl hin hun t ht hr
  have inv0 : HeadInv .any l.toArray n (Array.replicate l.toArray.size false) :=
    ⟨by simp, fun j oj _ hl => (by rw [getD_replicate_false] at hl; cases hl), fun t _ ht => getD_in (by simpa using ht) (getD_replicate_false _ _)⟩
  have H := wpX_of_C (md := .any) (Region.noSelect_spec hsel) (fun _ _ _ _ _ h => h) hrefl htrans htail order _ a w inv0 hok h
  have hdl : (l.drop n).length = l.toArray.size - n := by simp
  have H2 := wpAny_of_X (g := l.toArray.size - n) (fun listed a' w' hL => by
    have := wpAny_of_seq (md := .any) (Q' := OnlyOn Q) (l.drop n) n listed a' w' (fun j => by simp [List.getElem?_drop]) (by rw [hdl]; exact hL.1) hL.2
    rwa [hdl] at this) _ _ _ _ H
  rw [hlen, show n + (l.toArray.size - n) = l.toArray.size by simp; omega] at H2
  exact H2

/-- the first n operations in one order, then the others, in a round -/
theorem wpIn_region_can {id lr nr : Nat} {a : Act} {w : World} {l : List Oper} (n : Nat) (loud order : List Nat) (S : World → World → Prop) (hrefl : ∀ w, S w w) (htrans : ∀ a b c, S a b → S b c → S a c)
    (hm : P.follows .mixedOrders = true) (hB : canB l.toArray n loud order = true) (hd : noDefer l.toArray = true)
    (h : wpL P l.toArray (OnlyOn Q) S (fun a' w' => wpList P l.toArray (OnlyOn Q) (l.drop n) a' w') (order.map fun i => (loud.contains i, l.getD i default)) a w.drew) : (Code.region id l.toArray true).wpIn (Fence.wide.inRound lr) nr P Q a w := by
  refine Code.wpIn_mono OnlyOn.imp (wpIn_region_any hm ?_)
  refine wpAny_in_round onlyOn_lets (noDefer_spec hd) _ _ _ _ ?_
  exact any_of_can n loud order S hrefl htrans hB h

/-- the blocks below B are kept -/
def Low (B : Nat) (u u' : World) : Prop := ∀ b, b < B → ∀ o, u.heap[b]? = some o → u'.heap[b]? = some o
theorem Low.refl (B : Nat) (u : World) : Low B u u := fun _ _ _ h => h
theorem Low.trans {B : Nat} {a b c : World} (h : Low B a b) (k : Low B b c) : Low B a c := fun i hi o ho => k i hi o (h i hi o ho)
theorem Low.below {B : Nat} {a b : World} (h : Below a.heap.size a b) : Low B a b := fun i _ o ho => (h.block i (Array.getElem?_eq_some_iff.1 ho).1).trans ho
theorem Low.grown {B : Nat} {a b : World} {row : Option Nat} (h : a.grownBy b row) (hr : ∀ r, row = some r → B ≤ r) : Low B a b := fun i hi o ho => (h.block i (Array.getElem?_eq_some_iff.1 ho).1 (fun e => by have := hr i e.symm; omega)).trans ho

/-- all operations of the region in one order, in a round -/
theorem wpIn_region_can_all {id lr nr : Nat} {a : Act} {w : World} {l : List Oper} (loud order : List Nat) (S : World → World → Prop) (hrefl : ∀ w, S w w) (htrans : ∀ a b c, S a b → S b c → S a c)
    (hm : P.follows .mixedOrders = true) (hB : canB l.toArray l.length loud order = true) (hd : noDefer l.toArray = true)
    (h : wpL P l.toArray (OnlyOn Q) S (Q .normal) (order.map fun i => (loud.contains i, l.getD i default)) a w.drew) : (Code.region id l.toArray true).wpIn (Fence.wide.inRound lr) nr P Q a w := by
  refine Code.wpIn_mono OnlyOn.imp (wpIn_region_any hm ?_)
  refine wpAny_in_round onlyOn_lets (noDefer_spec hd) _ _ _ _ ?_
  refine any_of_can l.length loud order S hrefl htrans hB ?_
  have e : (fun a' w' => wpList P l.toArray (OnlyOn Q) (l.drop l.length) a' w') = OnlyOn Q .normal := by
    funext a' w'
    rw [List.drop_length]
    rfl
  rw [e]
  exact h
end
end Go.Proofs.Ytaedanklpedmkaa
