/- Go's rest of a division, and small facts on integers. -/
import Derived.WalkKit
import Derived.KernelRfl
import Derived.OrdersHeld
import Derived.StillTail
namespace Go.Proofs.Ytkngoomkmbkenaa
theorem hid {p : Prop} (h : p) : RowKit.Hid p := h
/-- the walk stands still behind this -/
theorem hold {p : Prop} (h : RowKit.Hid p) : p := h
theorem tmod_facts (x k : Int) (hk : 0 < k) : -k < x.tmod k ∧ x.tmod k < k ∧ (x.tmod k) % k = x % k ∧ (0 ≤ x → x.tmod k = x % k) ∧ (x < 0 → x.tmod k = -((-x) % k)) := by
  have hneg : x < 0 → x.tmod k = -((-x) % k) := fun h => by
    have e : x = -(-x) := by omega
    conv => lhs; rw [e]
    rw [Int.neg_tmod, Int.tmod_eq_emod_of_nonneg (by omega)]
  rcases Int.lt_or_le x 0 with h | h
  · have h1 := Int.emod_nonneg (-x) (by omega : k ≠ 0)
    have h2 := Int.emod_lt_of_pos (-x) hk
    refine ⟨by rw [hneg h]; omega, by rw [hneg h]; omega, ?_, fun h' => by omega, hneg⟩
    rw [hneg h]
    have h3 := Int.emod_add_mul_ediv (-x) k
    have e : -((-x) % k) = x + k * (-x / k) := by omega
    rw [e, Int.add_mul_emod_self_left]
  · have e : x.tmod k = x % k := Int.tmod_eq_emod_of_nonneg h
    have h1 := Int.emod_nonneg x (by omega : k ≠ 0)
    have h2 := Int.emod_lt_of_pos x hk
    exact ⟨by rw [e]; omega, by rw [e]; omega, by rw [e, Int.emod_emod], fun _ => e, hneg⟩
end Go.Proofs.Ytkngoomkmbkenaa
/- Lists of natural numbers below 256. No program in sight. -/
namespace Go.Proofs.Ytkngoomkmbkenaa
/-- the k-th number of a list, 0 beyond -/
def nth (l : List Nat) (k : Nat) : Nat := l.getD k 0
def AllB (l : List Nat) : Prop := ∀ x ∈ l, x < 256

theorem nth_lt {l : List Nat} (h : AllB l) (k : Nat) : nth l k < 256 := by
  unfold nth
  rcases Nat.lt_or_ge k l.length with hk | hk
  · rw [List.getD_eq_getElem?_getD, List.getElem?_eq_getElem hk]
    exact h _ (List.getElem_mem hk)
  · rw [List.getD_eq_getElem?_getD, List.getElem?_eq_none hk]
    decide
theorem AllB.set {l : List Nat} (h : AllB l) (k x : Nat) (hx : x < 256) : AllB (l.set k x) := by
  intro y hy
  rcases List.mem_or_eq_of_mem_set hy with h1 | h1
  · exact h y h1
  · omega
theorem AllB.take {l : List Nat} (h : AllB l) (k : Nat) : AllB (l.take k) := fun x hx => h x (List.mem_of_mem_take hx)
theorem AllB.drop {l : List Nat} (h : AllB l) (k : Nat) : AllB (l.drop k) := fun x hx => h x (List.mem_of_mem_drop hx)
theorem AllB.append {a b : List Nat} (h : AllB a) (h' : AllB b) : AllB (a ++ b) := fun x hx => (List.mem_append.1 hx).elim (h x) (h' x)
theorem AllB.replicate (n : Nat) : AllB (List.replicate n 0) := fun x hx => by rw [List.eq_of_mem_replicate hx]; decide
theorem AllB.nil : AllB [] := fun x hx => by cases hx

theorem nth_ge {l : List Nat} {k : Nat} (h : l.length ≤ k) : nth l k = 0 := by
  unfold nth
  rw [List.getD_eq_getElem?_getD, List.getElem?_eq_none h]; rfl
theorem nth_get {l : List Nat} {k : Nat} (h : k < l.length) : nth l k = l[k] := by
  unfold nth
  rw [List.getD_eq_getElem?_getD, List.getElem?_eq_getElem h]; rfl
theorem nth_set (l : List Nat) (i x k : Nat) (hi : i < l.length) : nth (l.set i x) k = if k = i then x else nth l k := by
  unfold nth
  simp only [List.getD_eq_getElem?_getD, List.getElem?_set]
  by_cases h : i = k
  · subst h; simp [hi]
  · have h' : ¬ k = i := fun e => h e.symm
    simp [h, h']
theorem nth_take (l : List Nat) (n k : Nat) : nth (l.take n) k = if k < n then nth l k else 0 := by
  unfold nth
  simp only [List.getD_eq_getElem?_getD, List.getElem?_take]
  split <;> rfl
theorem nth_replicate (n k : Nat) : nth (List.replicate n 0) k = 0 := by
  unfold nth
  simp only [List.getD_eq_getElem?_getD, List.getElem?_replicate]
  split <;> rfl
theorem ext_nth {a b : List Nat} (hl : a.length = b.length) (h : ∀ k, k < a.length → nth a k = nth b k) : a = b := by
  apply List.ext_getElem hl
  intro k h1 h2
  have := h k h1
  rwa [nth_get h1, nth_get h2] at this
end Go.Proofs.Ytkngoomkmbkenaa
/- Regions that draw their order: one order serves for all, if each operation is either quiet (its value is the same in every world that the others may lead to) or the only one that may come up. -/
namespace Go.Proofs.Ytkngoomkmbkenaa

section
variable {P : Program} {ops : Array Oper} {md : Region.Mode} {Q : Exit → Act → World → Prop} {S : World → World → Prop}

/-- the first f operations come up in whatever order; each leads from a world to one that S allows; then L -/
def wpX (P : Program) (md : Region.Mode) (ops : Array Oper) (Q : Exit → Act → World → Prop) (S : World → World → Prop) (L : Array Bool → Act → World → Prop) : Nat → Array Bool → Act → World → Prop
  | 0, listed, a, w => L listed a w
  | f + 1, listed, a, w => Region.ready md ops listed ≠ [] ∧
    ∀ i ∈ Region.ready md ops listed, wpOp P ops Q i (fun a' w' => S w w' ∧ wpX P md ops Q S L f (listed.setIfInBounds i true) a' w') a w

theorem wpAny_of_X {L : Array Bool → Act → World → Prop} {g : Nat} (hL : ∀ listed a w, L listed a w → wpAny P md ops Q g listed a w) :
    ∀ (f : Nat) (listed : Array Bool) (a : Act) (w : World), wpX P md ops Q S L f listed a w → wpAny P md ops Q (f + g) listed a w
  | 0, listed, a, w, h => by rw [Nat.zero_add]; exact hL _ _ _ h
  | f + 1, listed, a, w, h => by
    rw [show f + 1 + g = (f + g) + 1 by omega]
    exact ⟨fun h0 => absurd h0 h.1, fun i hi => wpOp_mono (fun a' w' h' => wpAny_of_X hL f _ a' w' h'.2) (h.2 i hi)⟩

theorem yieldsIf_mono {S S' : World → Prop} {o : Oper} {v : Value} {a : Act} (h : YieldsIf P ops S o v a) (hs : ∀ w, S' w → S w) : YieldsIf P ops S' o v a :=
  h.imp (fun ⟨h1, h2⟩ => ⟨h1, fun w hw => h2 w (hs w hw)⟩) id

theorem wpX_first {i n : Nat} {oi : Oper} {v : Value} {L : Array Bool → Act → World → Prop} (hi : ops[i]? = some oi) (hsel : ∀ (j : Nat) (o : Oper) cs b, ops[j]? = some o → o.op ≠ .select cs b)
    (hQ : ∀ c a d v w, Q (.panic c) (a.put d v) w → Q (.panic c) a w) (hrefl : ∀ w, S w w) (htrans : ∀ a b c, S a b → S b c → S a c)
    (hL0 : ∀ listed a w, L listed a w → ∀ j ∈ Region.ready md ops listed, n ≤ j)
    (htail : ∀ listed, HeadInv md ops n listed → listed.getD i true = false → ∀ t, n ≤ t → t ∉ Region.ready md ops listed) :
    ∀ (f : Nat) (listed : Array Bool) (a : Act) (w : World), HeadInv md ops n listed →
      (∀ j oj, ops[j]? = some oj → j ≠ i → listed.getD j true = false → (∀ e ∈ oj.after, Region.binds md e = true → e.on ≠ i) → oi.apart ops oj = true) →
      i ∈ Region.ready md ops listed → YieldsIf P ops (S w) oi v a →
      wpX P md ops Q S L f (listed.setIfInBounds i true) (a.put oi.dst v) w → wpX P md ops Q S L (f + 1) listed a w := by
  intro f
  induction f with
  | zero =>
    intro listed a w inv _ hr hy H
    refine ⟨fun h => (by rw [h] at hr; cases hr), fun j hj => ?_⟩
    by_cases hji : j = i
    · subst hji; exact hy.wpOp hi (hrefl w) ⟨hrefl w, H⟩
    · exact absurd hj (htail listed inv (mem_ready.1 hr).1 j (hL0 _ _ _ H j (ready_mono hj hji)))
  | succ f ih =>
    intro listed a w inv hfree hr hy H
    refine ⟨fun h => (by rw [h] at hr; cases hr), fun j hj => ?_⟩
    by_cases hji : j = i
    · subst hji; exact hy.wpOp hi (hrefl w) ⟨hrefl w, H⟩
    · have hjn : j < n := by
        rcases Nat.lt_or_ge j n with h | h
        · exact h
        · exact absurd hj (htail listed inv (mem_ready.1 hr).1 j h)
      have h1 := H.2 j (ready_mono hj hji)
      obtain ⟨hjun, oj, hoj, hall⟩ := mem_ready.1 hj
      have hnot : ∀ e ∈ oj.after, Region.binds md e = true → e.on ≠ i := fun e he hb heq => by
        have h1 := hall e he hb
        rw [heq, getD_both (mem_ready.1 hr).1] at h1
        cases h1
      have h2 := wpOp_putIf hoj (hfree j oj hoj hji hjun hnot) (fun cs b => hsel i oi cs b hi) (fun cs b => hsel j oj cs b hoj) (fun c a w => hQ c a _ _ w) hy h1
      have hfree' : ∀ k ok, ops[k]? = some ok → k ≠ i → (listed.setIfInBounds j true).getD k true = false →
          (∀ e ∈ ok.after, Region.binds md e = true → e.on ≠ i) → oi.apart ops ok = true := fun k ok hk hki hun hno => by
        refine hfree k ok hk hki ?_ hno
        by_cases hjk : j = k
        · subst hjk; exact hjun
        · rw [getD_set_ne true hjk] at hun; exact hun
      refine wpOp_mono (fun a' w' h3 => ⟨h3.2.1, ih (listed.setIfInBounds j true) a' w' (inv.set hj hjn) hfree' (ready_mono hr (Ne.symm hji)) (yieldsIf_mono h3.1 fun w2 h => htrans _ _ _ h3.2.1 h) ?_⟩) h2
      rw [Array.setIfInBounds_comm _ _ hji]
      exact h3.2.2

/-- the operations in one order: the loud ones as they stand, the others by their value -/
def wpC (P : Program) (ops : Array Oper) (Q : Exit → Act → World → Prop) (S : World → World → Prop) (loud : List Nat) (E : Act → World → Prop) : List Nat → Act → World → Prop
  | [], a, w => E a w
  | i :: rest, a, w => match ops[i]? with
    | none => False
    | some o => if loud.contains i then wpOp P ops Q i (fun a' w' => S w w' ∧ wpC P ops Q S loud E rest a' w') a w
      else ∃ v, YieldsIf P ops (S w) o v a ∧ wpC P ops Q S loud E rest (a.put o.dst v) w

/-- is that order one of those that may come up, and does it serve for all? -/
def okC (md : Region.Mode) (ops : Array Oper) (n : Nat) (loud : List Nat) : List Nat → Array Bool → Bool
  | [], listed => Region.seqB md ops (ops.size - n) n listed
  | i :: rest, listed => decide (i < n) && (Region.ready md ops listed).contains i && (if loud.contains i then decide (Region.ready md ops listed = [i]) else Region.free md ops listed i) &&
      okC md ops n loud rest (listed.setIfInBounds i true)

theorem wpX_of_C {n : Nat} {loud : List Nat} {E : Act → World → Prop} (hsel : ∀ (j : Nat) (o : Oper) cs b, ops[j]? = some o → o.op ≠ .select cs b)
    (hQ : ∀ c a d v w, Q (.panic c) (a.put d v) w → Q (.panic c) a w) (hrefl : ∀ w, S w w) (htrans : ∀ a b c, S a b → S b c → S a c)
    (htail : ∀ i, i < n → ∀ listed, HeadInv md ops n listed → listed.getD i true = false → ∀ t, n ≤ t → t ∉ Region.ready md ops listed) :
    ∀ (order : List Nat) (listed : Array Bool) (a : Act) (w : World), HeadInv md ops n listed → okC md ops n loud order listed = true → wpC P ops Q S loud E order a w →
      wpX P md ops Q S (fun listed' a' w' => Region.seqB md ops (ops.size - n) n listed' = true ∧ E a' w') order.length listed a w
  | [], listed, a, w, _, hok, h => ⟨hok, h⟩
  | i :: rest, listed, a, w, inv, hok, h => by
    simp only [okC, Bool.and_eq_true, decide_eq_true_eq] at hok
    obtain ⟨⟨⟨hin, hr⟩, hc⟩, hok'⟩ := hok
    have hr' : i ∈ Region.ready md ops listed := by simpa using hr
    unfold wpC at h
    cases hi : ops[i]? with
    | none => simp only [hi] at h
    | some oi =>
      simp only [hi] at h
      by_cases hl : loud.contains i = true
      · rw [if_pos hl] at h hc
        have hone : Region.ready md ops listed = [i] := by simpa using hc
        refine ⟨fun e => (by rw [e] at hr'; cases hr'), fun j hj => ?_⟩
        obtain rfl : j = i := by rw [hone] at hj; simpa using hj
        exact wpOp_mono (fun a' w' h' => ⟨h'.1, wpX_of_C hsel hQ hrefl htrans htail rest _ a' w' (inv.set hr' hin) hok' h'.2⟩) h
      · rw [if_neg hl] at h hc
        obtain ⟨v, hy, hrest⟩ := h
        exact wpX_first hi hsel hQ hrefl htrans (fun listed' a' w' hL => seqB_ready hL.1) (htail i hin) rest.length listed a w inv (Region.free_spec hi hc) hr' hy
          (wpX_of_C hsel hQ hrefl htrans htail rest _ _ w (inv.set hr' hin) hok' hrest)

/-- the checks on a region: n operations in this order, the rest of them behind, one by one -/
def canB (ops : Array Oper) (n : Nat) (loud order : List Nat) : Bool :=
  Region.noSelect ops && (decide (n = ops.size) || (decide (n < ops.size) && Region.sinkB .any ops n && Region.chainB .any ops n)) && decide (order.length = n) && okC .any ops n loud order (Array.replicate ops.size false)

/-- the operations in one order, written out, each with the mark 'loud' -/
def wpL (P : Program) (ops : Array Oper) (Q : Exit → Act → World → Prop) (S : World → World → Prop) (E : Act → World → Prop) : List (Bool × Oper) → Act → World → Prop
  | [], a, w => E a w
  | (true, o) :: rest, a, w => if Region.wanted o (yielded ops a.tmps) then o.wp P a w (fun a' w' => S w w' ∧ wpL P ops Q S E rest a' w') Q else S w w ∧ wpL P ops Q S E rest (a.put o.dst undef) w
  | (false, o) :: rest, a, w => if Region.wanted o (yielded ops a.tmps) then ∃ v, (∀ w', S w w' → (execOp a.eval o).run P w' = .ok (.value v) w') ∧ wpL P ops Q S E rest (a.put o.dst v) w else wpL P ops Q S E rest (a.put o.dst undef) w

theorem wpOp_mono2 {i : Nat} {o : Oper} {K K' : Act → World → Prop} {a : Act} {w : World} (hi : ops[i]? = some o) (hw : Region.wanted o (yielded ops a.tmps) = true) (h : o.wp P a w K Q) (hk : ∀ a w, K a w → K' a w) : wpOp P ops Q i K' a w := by
  refine wpOp_mono hk ?_
  unfold wpOp
  simp only [hi, hw, if_true]
  exact .inl h

theorem wpC_of_L {l : List Oper} {loud : List Nat} {E : Act → World → Prop} : ∀ (order : List Nat) (a : Act) (w : World), (∀ i ∈ order, i < l.length) →
    wpL P l.toArray Q S E (order.map fun i => (loud.contains i, l.getD i default)) a w → wpC P l.toArray Q S loud E order a w
  | [], _, _, _, h => h
  | i :: rest, a, w, hin, h => by
    have hil := hin i (List.mem_cons_self ..)
    have hi : l.toArray[i]? = some (l.getD i default) := by
      rw [List.getElem?_toArray, List.getElem?_eq_getElem hil, List.getD_eq_getElem?_getD, List.getElem?_eq_getElem hil]; rfl
    have hin' : ∀ j ∈ rest, j < l.length := fun j hj => hin j (List.mem_cons_of_mem _ hj)
    have h1 : wpL P l.toArray Q S E ((loud.contains i, l.getD i default) :: rest.map fun i => (loud.contains i, l.getD i default)) a w := h
    generalize l.getD i default = o at hi h1
    unfold wpC
    simp only [hi]
    cases hl : loud.contains i with
    | true =>
      rw [hl] at h1
      rw [if_pos rfl]
      unfold wpL at h1
      by_cases hw : Region.wanted o (yielded l.toArray a.tmps) = true
      · rw [if_pos hw] at h1
        exact wpOp_mono2 hi hw h1 fun a' w' h' => ⟨h'.1, wpC_of_L rest a' w' hin' h'.2⟩
      · rw [if_neg hw] at h1
        unfold wpOp
        simp only [hi]
        rw [if_neg hw]
        exact ⟨h1.1, wpC_of_L rest _ _ hin' h1.2⟩
    | false =>
      rw [hl] at h1
      rw [if_neg (by simp)]
      unfold wpL at h1
      by_cases hw : Region.wanted o (yielded l.toArray a.tmps) = true
      · rw [if_pos hw] at h1
        obtain ⟨v, h2, h3⟩ := h1
        exact ⟨v, .inl ⟨hw, h2⟩, wpC_of_L rest _ _ hin' h3⟩
      · rw [if_neg hw] at h1
        exact ⟨undef, .inr ⟨by simpa using hw, rfl⟩, wpC_of_L rest _ _ hin' h1⟩

/-- Q, and nothing but the way on -/
def OnlyOn (Q : Exit → Act → World → Prop) : Exit → Act → World → Prop
  | .normal, a, w => Q .normal a w
  | _, _, _ => False
theorem OnlyOn.imp {Q : Exit → Act → World → Prop} : ∀ (e : Exit) (a : Act) (w : World), OnlyOn Q e a w → Q e a w := fun e a w h => by
  cases e <;> first | exact h | exact (h : False).elim

theorem okC_lt {n : Nat} {loud : List Nat} : ∀ (order : List Nat) (listed : Array Bool), okC md ops n loud order listed = true → ∀ i ∈ order, i < n
  | [], _, _, _, hi => by cases hi
  | j :: rest, listed, h, i, hi => by
    simp only [okC, Bool.and_eq_true, decide_eq_true_eq] at h
    rcases List.mem_cons.1 hi with h1 | h1
    · subst h1; exact h.1.1.1
    · exact okC_lt rest _ h.2 i h1

theorem wp_region_can {id : Nat} {a : Act} {w : World} {l : List Oper} (n : Nat) (loud order : List Nat) (S : World → World → Prop) (hrefl : ∀ w, S w w) (htrans : ∀ a b c, S a b → S b c → S a c)
    (hm : P.follows .mixedOrders = true) (hB : canB l.toArray n loud order = true)
    (h : wpL P l.toArray (OnlyOn Q) S (fun a' w' => wpList P l.toArray (OnlyOn Q) (l.drop n) a' w') (order.map fun i => (loud.contains i, l.getD i default)) a w.drew) : (Code.region id l.toArray true).wp P Q a w := by
  simp only [canB, Bool.and_eq_true, Bool.or_eq_true, decide_eq_true_eq] at hB
  obtain ⟨⟨⟨hsel, hn⟩, hlen⟩, hok⟩ := hB
  have hnl : n ≤ l.length := by
    rcases hn with h | h
    · simp at h; omega
    · have := h.1.1; simp at this; omega
  have hin : ∀ i ∈ order, i < l.length := fun i hi => Nat.lt_of_lt_of_le (okC_lt order _ hok i hi) hnl
  replace h := wpC_of_L order a w.drew hin h
  have htail : ∀ i, i < n → ∀ listed, HeadInv .any l.toArray n listed → listed.getD i true = false → ∀ t, n ≤ t → t ∉ Region.ready .any l.toArray listed := by
    intro i hin listed inv hun t ht hr
    rcases hn with h | h
    · obtain ⟨_, ot, hot, _⟩ := mem_ready.1 hr
      have := (Array.getElem?_eq_some_iff.1 hot).1
      omega
    · exact tail_waits h.1.2 h.2 h.1.1 inv _ i rfl hin hun t ht hr
  have inv0 : HeadInv .any l.toArray n (Array.replicate l.toArray.size false) :=
    ⟨by simp, fun j oj _ hl => (by rw [getD_replicate_false] at hl; cases hl), fun t _ ht => getD_in (by simpa using ht) (getD_replicate_false _ _)⟩
  have H := wpX_of_C (md := .any) (Region.noSelect_spec hsel) (fun _ _ _ _ _ h => h) hrefl htrans htail order _ a w.drew inv0 hok h
  refine Code.wp_mono OnlyOn.imp (wp_region_any hm ?_)
  have hdl : (l.drop n).length = l.toArray.size - n := by simp
  have H2 := wpAny_of_X (g := l.toArray.size - n) (fun listed a' w' hL => by
    have := wpAny_of_seq (md := .any) (Q' := OnlyOn Q) (l.drop n) n listed a' w' (fun j => by simp [List.getElem?_drop]) (by rw [hdl]; exact hL.1) hL.2
    rwa [hdl] at this) _ _ _ _ H
  rw [hlen, show n + (l.toArray.size - n) = l.toArray.size by simp; omega] at H2
  exact H2

/-- all operations of the region in one order -/
theorem wp_region_can_all {id : Nat} {a : Act} {w : World} {l : List Oper} (loud order : List Nat) (S : World → World → Prop) (hrefl : ∀ w, S w w) (htrans : ∀ a b c, S a b → S b c → S a c)
    (hm : P.follows .mixedOrders = true) (hB : canB l.toArray l.length loud order = true)
    (h : wpL P l.toArray (OnlyOn Q) S (Q .normal) (order.map fun i => (loud.contains i, l.getD i default)) a w.drew) : (Code.region id l.toArray true).wp P Q a w := by
  refine wp_region_can l.length loud order S hrefl htrans hm hB ?_
  have e : (fun a' w' => wpList P l.toArray (OnlyOn Q) (l.drop l.length) a' w') = Q .normal := by
    funext a' w'
    rw [List.drop_length]
    rfl
  rw [e]
  exact h

variable {E : Act → World → Prop} {rest : List (Bool × Oper)} {o : Oper} {a : Act} {w : World}

/-- a quiet operation that is carried out -/
theorem wpL_do {v : Value} (hw : Region.wanted o (yielded ops a.tmps) = true)
    (hv : ∀ w', S w w' → (execOp a.eval o).run P w' = .ok (.value v) w') (h : wpL P ops Q S E rest (a.put o.dst v) w) : wpL P ops Q S E ((false, o) :: rest) a w := by
  unfold wpL; rw [if_pos hw]; exact ⟨v, hv, h⟩

/-- an operation whose guard says no -/
theorem wpL_pass (hw : Region.wanted o (yielded ops a.tmps) = false)
    (h : wpL P ops Q S E rest (a.put o.dst undef) w) : wpL P ops Q S E ((false, o) :: rest) a w := by
  unfold wpL; rw [if_neg (by rw [hw]; simp)]; exact h

/-- a loud operation that is carried out -/
theorem wpL_call (hw : Region.wanted o (yielded ops a.tmps) = true)
    (h : ∀ K : Act → World → Prop, (∀ a' w', S w w' → wpL P ops Q S E rest a' w' → K a' w') → o.wp P a w K Q) : wpL P ops Q S E ((true, o) :: rest) a w := by
  unfold wpL; rw [if_pos hw]; exact h _ fun _ _ h1 h2 => ⟨h1, h2⟩

/-- a loud operation whose guard says no -/
theorem wpL_hush (hw : Region.wanted o (yielded ops a.tmps) = false) (hr : S w w)
    (h : wpL P ops Q S E rest (a.put o.dst undef) w) : wpL P ops Q S E ((true, o) :: rest) a w := by
  unfold wpL; rw [if_neg (by rw [hw]; simp)]; exact ⟨hr, h⟩

theorem wpL_nil (h : E a w) : wpL P ops Q S E [] a w := h
end
/-- nothing that is there turns -/
def Ext (w w' : World) : Prop := RowKit.Below w.heap.size w w'
theorem Ext.refl (w : World) : Ext w w := RowKit.Below.refl _ _
theorem Ext.trans (a b c : World) (h : Ext a b) (k : Ext b c) : Ext a c := RowKit.Below.trans h (RowKit.Below.mono k h.size)
end Go.Proofs.Ytkngoomkmbkenaa
