/- Regions that draw their order, with moves that nothing behind them waits for at once: those first. -/
import Derived.Test.YtkgnelmnadnbhaaRegion
namespace Go.Proofs.Ytkgnelmnadnbhaa

section
variable {P : Program} {ops : Array Oper} {md : Region.Mode} {Q : Exit → Act → World → Prop} {S : World → World → Prop}

def sinkP (md : Region.Mode) (ops : Array Oper) (pre : List Nat) (n : Nat) : Bool :=
  (List.range n).all fun i => pre.contains i || (List.range (n + 1)).any fun j => decide (i < j) && !pre.contains j && Region.waitsFor md ops j i

theorem tail_waitsP {n : Nat} {pre : List Nat} {listed : Array Bool} (hs : sinkP md ops pre n = true) (hc : Region.chainB md ops n = true) (hn : n < ops.size) (inv : HeadInv md ops n listed) :
    ∀ (d i : Nat), n - i = d → i < n → pre.contains i = false → listed.getD i true = false → ∀ t, n ≤ t → t ∉ Region.ready md ops listed := by
  intro d
  induction d using Nat.strongRecOn with
  | _ d ih =>
    intro i hd hi hp hun t ht hr
    obtain ⟨_, ot, hot, hall⟩ := mem_ready.1 hr
    have htlt : t < ops.size := (Array.getElem?_eq_some_iff.1 hot).1
    by_cases htn : t = n
    · subst htn
      have h1 := List.all_eq_true.1 hs i (List.mem_range.2 hi)
      rw [hp, Bool.false_or] at h1
      obtain ⟨j, hj, hj2⟩ := List.any_eq_true.1 h1
      simp only [Bool.and_eq_true, decide_eq_true_eq, Bool.not_eq_true'] at hj2
      obtain ⟨oj, hoj, e, he, hb, hon⟩ := Region.waitsFor_spec hj2.2
      have hjle : j ≤ t := by have := List.mem_range.1 hj; omega
      have hij := hj2.1.1
      by_cases hjt : j = t
      · subst hjt
        have : oj = ot := Option.some.inj (hoj.symm.trans hot)
        subst this
        have h2 := hall e he hb
        rw [hon, getD_both hun] at h2
        cases h2
      · cases hl : listed.getD j false with
        | true =>
          have h2 := inv.closed j oj hoj hl e he hb
          rw [hon, getD_both hun] at h2
          cases h2
        | false =>
          have hjs : j < listed.size := by rw [inv.size]; omega
          exact ih (t - j) (by omega) j rfl (by omega) hj2.1.2 (getD_in hjs hl) t (Nat.le_refl _) hr
    · have h1 := List.all_eq_true.1 hc t (List.mem_range.2 htlt)
      simp only [Bool.or_eq_true, decide_eq_true_eq] at h1
      rcases h1 with h1 | h1
      · omega
      · obtain ⟨o', ho', e, he, hb, hon⟩ := Region.waitsFor_spec h1
        have : o' = ot := Option.some.inj (ho'.symm.trans hot)
        subst this
        have h2 := hall e he hb
        rw [hon, getD_both (inv.tail (t - 1) (by omega) (by omega))] at h2
        cases h2

def okP (md : Region.Mode) (ops : Array Oper) (n : Nat) (pre loud : List Nat) : List Nat → Array Bool → Bool
  | [], listed => Region.seqB md ops (ops.size - n) n listed
  | i :: rest, listed => !pre.contains i && decide (i < n) && (Region.ready md ops listed).contains i && (if loud.contains i then decide (Region.ready md ops listed = [i]) else Region.free md ops listed i) &&
      okP md ops n pre loud rest (listed.setIfInBounds i true)

theorem wpX_of_P {n : Nat} {pre loud : List Nat} {E : Act → World → Prop} (hsel : ∀ (j : Nat) (o : Oper) cs b, ops[j]? = some o → o.op ≠ .select cs b)
    (hQ : ∀ c a d v w, Q (.panic c) (a.put d v) w → Q (.panic c) a w) (hrefl : ∀ w, S w w) (htrans : ∀ a b c, S a b → S b c → S a c)
    (htail : ∀ i, i < n → pre.contains i = false → ∀ listed, HeadInv md ops n listed → listed.getD i true = false → ∀ t, n ≤ t → t ∉ Region.ready md ops listed) :
    ∀ (order : List Nat) (listed : Array Bool) (a : Act) (w : World), HeadInv md ops n listed → okP md ops n pre loud order listed = true → wpC P ops Q S loud E order a w →
      wpX P md ops Q S (fun listed' a' w' => Region.seqB md ops (ops.size - n) n listed' = true ∧ E a' w') order.length listed a w
  | [], listed, a, w, _, hok, h => ⟨hok, h⟩
  | i :: rest, listed, a, w, inv, hok, h => by
    simp only [okP, Bool.and_eq_true, decide_eq_true_eq, Bool.not_eq_true'] at hok
    obtain ⟨⟨⟨⟨hpi, hin⟩, hr⟩, hc⟩, hok'⟩ := hok
    have hr' : i ∈ Region.ready md ops listed := by simpa using hr
    unfold wpC at h
    cases hi : ops[i]? with
    | none => simp only [hi] at h
    | some oi =>
      simp only [hi] at h
      by_cases hl : loud.contains i = true
      · rw [if_pos hl] at h hc
        have hone : Region.ready md ops listed = [i] := by simpa using hc
        refine ⟨fun e => (by rw [e] at hr'; cases hr'), fun j hj => ?_⟩
        obtain rfl : j = i := by rw [hone] at hj; simpa using hj
        exact wpOp_mono (fun a' w' h' => ⟨h'.1, wpX_of_P hsel hQ hrefl htrans htail rest _ a' w' (inv.set hr' hin) hok' h'.2⟩) h
      · rw [if_neg hl] at h hc
        obtain ⟨v, hy, hrest⟩ := h
        exact wpX_first hi hsel hQ hrefl htrans (fun listed' a' w' hL => seqB_ready hL.1) (htail i hin hpi) rest.length listed a w inv (Region.free_spec hi hc) hr' hy
          (wpX_of_P hsel hQ hrefl htrans htail rest _ _ w (inv.set hr' hin) hok' hrest)

def okPre (md : Region.Mode) (ops : Array Oper) (n : Nat) (pre0 loud order : List Nat) : List Nat → Array Bool → Bool
  | [], listed => okP md ops n pre0 loud order listed
  | i :: r, listed => decide (i < n) && (Region.ready md ops listed).contains i && Region.free md ops listed i && okPre md ops n pre0 loud order r (listed.setIfInBounds i true)
def canP (ops : Array Oper) (n : Nat) (pre loud order : List Nat) : Bool :=
  Region.noSelect ops && decide (n < ops.size) && sinkP .any ops pre n && Region.chainB .any ops n && decide (order.length + pre.length = n) && okPre .any ops n pre loud order pre (Array.replicate ops.size false)

/-- the moves first: by their values in every world -/
def wpPre (P : Program) (ops : Array Oper) (K : Act → Prop) : List Oper → Act → Prop
  | [], a => K a
  | o :: r, a => ∃ v, Yields P ops o v a ∧ wpPre P ops K r (a.put o.dst v)

theorem wpAny_of_pre {n : Nat} {pre0 loud order : List Nat} {l : List Oper} {S : World → World → Prop} {w : World} (hsel : Region.noSelect l.toArray = true) (hrefl : ∀ w, S w w) (htrans : ∀ a b c, S a b → S b c → S a c) (hn : n ≤ l.length)
    (htail : ∀ i, i < n → pre0.contains i = false → ∀ listed, HeadInv .any l.toArray n listed → listed.getD i true = false → ∀ t, n ≤ t → t ∉ Region.ready .any l.toArray listed)
    (hord : ∀ i ∈ order, i < l.length) :
    ∀ (pre : List Nat) (listed : Array Bool) (a : Act), (∀ i ∈ pre, i < l.length) → HeadInv .any l.toArray n listed → okPre .any l.toArray n pre0 loud order pre listed = true →
      wpPre P l.toArray (fun a => wpL P l.toArray (OnlyOn Q) S (fun a' w' => wpList P l.toArray (OnlyOn Q) (l.drop n) a' w') (order.map fun i => (loud.contains i, l.getD i default)) a w) (pre.map fun i => l.getD i default) a →
      wpAny P .any l.toArray (OnlyOn Q) (pre.length + (order.length + (l.length - n))) listed a w
  | [], listed, a, _, inv, hok, h => by
    have h := wpC_of_L order a w hord h
    have H := wpX_of_P (md := .any) (Region.noSelect_spec hsel) (fun _ _ _ _ _ h => h) hrefl htrans htail order _ a w inv hok h
    have hdl : (l.drop n).length = l.toArray.size - n := by simp
    have H2 := wpAny_of_X (g := l.toArray.size - n) (fun listed a' w' hL => by
      have := wpAny_of_seq (md := .any) (Q' := OnlyOn Q) (l.drop n) n listed a' w' (fun j => by simp [List.getElem?_drop]) (by rw [hdl]; exact hL.1) hL.2
      rwa [hdl] at this) _ _ _ _ H
    rw [show ([] : List Nat).length + (order.length + (l.length - n)) = order.length + (l.toArray.size - n) by simp]
    exact H2
  | i :: r, listed, a, hin, inv, hok, h => by
    simp only [okPre, Bool.and_eq_true, decide_eq_true_eq] at hok
    obtain ⟨⟨⟨hi, hr⟩, hf⟩, hok'⟩ := hok
    have hil := hin i (List.mem_cons_self ..)
    have hio : l.toArray[i]? = some (l.getD i default) := by
      rw [List.getElem?_toArray, List.getElem?_eq_getElem hil, List.getD_eq_getElem?_getD, List.getElem?_eq_getElem hil]; rfl
    obtain ⟨v, hy, hrest⟩ := h
    rw [show (i :: r).length + (order.length + (l.length - n)) = (r.length + (order.length + (l.length - n))) + 1 by simp; omega]
    exact wpAny_take hio hsel hf hr (fun _ _ _ h => h) hy
      (wpAny_of_pre hsel hrefl htrans hn htail hord r _ _ (fun j hj => hin j (List.mem_cons_of_mem _ hj)) (inv.set (by simpa using hr) hi) hok' hrest)

theorem okP_lt {n : Nat} {pre loud : List Nat} : ∀ (order : List Nat) (listed : Array Bool), okP md ops n pre loud order listed = true → ∀ i ∈ order, i < n
  | [], _, _, _, hi => by cases hi
  | j :: rest, listed, h, i, hi => by
    simp only [okP, Bool.and_eq_true, decide_eq_true_eq] at h
    rcases List.mem_cons.1 hi with h1 | h1
    · subst h1; exact h.1.1.1.2
    · exact okP_lt rest _ h.2 i h1
theorem okPre_lt {n : Nat} {pre0 loud order : List Nat} : ∀ (pre : List Nat) (listed : Array Bool), okPre md ops n pre0 loud order pre listed = true → (∀ i ∈ pre, i < n) ∧ ∀ i ∈ order, i < n
  | [], _, h => ⟨(fun _ hi => by cases hi), okP_lt order _ h⟩
  | j :: rest, listed, h => by
    simp only [okPre, Bool.and_eq_true, decide_eq_true_eq] at h
    obtain ⟨h1, h2⟩ := okPre_lt rest _ h.2
    refine ⟨fun i hi => ?_, h2⟩
    rcases List.mem_cons.1 hi with e | e
    · subst e; exact h.1.1.1
    · exact h1 i e

theorem wp_region_pre {id : Nat} {a : Act} {w : World} {l : List Oper} (n : Nat) (pre loud order : List Nat) (S : World → World → Prop) (hrefl : ∀ w, S w w) (htrans : ∀ a b c, S a b → S b c → S a c)
    (hm : P.follows .mixedOrders = true) (hB : canP l.toArray n pre loud order = true)
    (h : wpPre P l.toArray (fun a => wpL P l.toArray (OnlyOn Q) S (fun a' w' => wpList P l.toArray (OnlyOn Q) (l.drop n) a' w') (order.map fun i => (loud.contains i, l.getD i default)) a w.drew) (pre.map fun i => l.getD i default) a) : (Code.region id l.toArray true).wp P Q a w := by
  simp only [canP, Bool.and_eq_true, decide_eq_true_eq] at hB
  obtain ⟨⟨⟨⟨⟨hsel, hn⟩, hs⟩, hc⟩, hlen⟩, hok⟩ := hB
  have hnl : n ≤ l.length := by simp at hn; omega
  obtain ⟨hp1, hp2⟩ := okPre_lt pre _ hok
  have inv0 : HeadInv .any l.toArray n (Array.replicate l.toArray.size false) :=
    ⟨by simp, fun j oj _ hl => (by rw [getD_replicate_false] at hl; cases hl), fun t _ ht => getD_in (by simpa using ht) (getD_replicate_false _ _)⟩
  have H := wpAny_of_pre (P := P) (Q := Q) (w := w.drew) hsel hrefl htrans hnl (fun i hi hp listed inv hun t ht hr => tail_waitsP hs hc hn inv _ i rfl hi hp hun t ht hr) (fun i hi => Nat.lt_of_lt_of_le (hp2 i hi) hnl)
    pre _ a (fun i hi => Nat.lt_of_lt_of_le (hp1 i hi) hnl) inv0 hok h
  refine Code.wp_mono OnlyOn.imp (wp_region_any hm ?_)
  rw [show pre.length + (order.length + (l.length - n)) = l.toArray.size by simp; omega] at H
  exact H
end
end Go.Proofs.Ytkgnelmnadnbhaa
