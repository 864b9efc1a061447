/- Regions that draw their order, where two loud operations may come up at once: both ways are walked. -/
import Derived.Test.YtfbchmihkndfaaaRegion
namespace Go.Proofs.Ytfbchmihkndfaaa

/-- in which order the operations are taken: one, or two ways -/
inductive Plan
  | nil
  | one (i : Nat) (p : Plan)
  | two (i : Nat) (p : Plan) (j : Nat) (q : Plan)
def Plan.len : Plan → Nat
  | .nil => 0
  | .one _ p => p.len + 1
  | .two _ p _ _ => p.len + 1
def Plan.of : List Nat → Plan → Plan
  | [], p => p
  | i :: r, p => .one i (Plan.of r p)

section
variable {P : Program} {ops : Array Oper} {md : Region.Mode} {Q : Exit → Act → World → Prop} {S : World → World → Prop}

def wpT (P : Program) (ops : Array Oper) (Q : Exit → Act → World → Prop) (S : World → World → Prop) (loud : List Nat) (E : Act → World → Prop) : Plan → Act → World → Prop
  | .nil, a, w => E a w
  | .one i rest, a, w => match ops[i]? with
    | none => False
    | some o => if loud.contains i then wpOp P ops Q i (fun a' w' => S w w' ∧ wpT P ops Q S loud E rest a' w') a w
      else ∃ v, YieldsIf P ops (S w) o v a ∧ wpT P ops Q S loud E rest (a.put o.dst v) w
  | .two i p j q, a, w => wpOp P ops Q i (fun a' w' => S w w' ∧ wpT P ops Q S loud E p a' w') a w ∧ wpOp P ops Q j (fun a' w' => S w w' ∧ wpT P ops Q S loud E q a' w') a w

def okT (md : Region.Mode) (ops : Array Oper) (n : Nat) (loud : List Nat) : Plan → Array Bool → Bool
  | .nil, listed => Region.seqB md ops (ops.size - n) n listed
  | .one i rest, listed => decide (i < n) && (Region.ready md ops listed).contains i && (if loud.contains i then decide (Region.ready md ops listed = [i]) else Region.free md ops listed i) &&
      okT md ops n loud rest (listed.setIfInBounds i true)
  | .two i p j q, listed => decide (i < n) && decide (j < n) && decide (Region.ready md ops listed = [i, j]) && decide (p.len = q.len) && okT md ops n loud p (listed.setIfInBounds i true) && okT md ops n loud q (listed.setIfInBounds j true)

theorem wpX_of_T {n : Nat} {loud : List Nat} {E : Act → World → Prop} (hsel : ∀ (j : Nat) (o : Oper) cs b, ops[j]? = some o → o.op ≠ .select cs b)
    (hQ : ∀ c a d v w, Q (.panic c) (a.put d v) w → Q (.panic c) a w) (hrefl : ∀ w, S w w) (htrans : ∀ a b c, S a b → S b c → S a c)
    (htail : ∀ i, i < n → ∀ listed, HeadInv md ops n listed → listed.getD i true = false → ∀ t, n ≤ t → t ∉ Region.ready md ops listed) :
    ∀ (p : Plan) (listed : Array Bool) (a : Act) (w : World), HeadInv md ops n listed → okT md ops n loud p listed = true → wpT P ops Q S loud E p a w →
      wpX P md ops Q S (fun listed' a' w' => Region.seqB md ops (ops.size - n) n listed' = true ∧ E a' w') p.len listed a w
  | .nil, listed, a, w, _, hok, h => ⟨hok, h⟩
  | .one i rest, listed, a, w, inv, hok, h => by
    simp only [okT, Bool.and_eq_true, decide_eq_true_eq] at hok
    obtain ⟨⟨⟨hin, hr⟩, hc⟩, hok'⟩ := hok
    have hr' : i ∈ Region.ready md ops listed := by simpa using hr
    unfold wpT at h
    cases hi : ops[i]? with
    | none => simp only [hi] at h
    | some oi =>
      simp only [hi] at h
      by_cases hl : loud.contains i = true
      · rw [if_pos hl] at h hc
        have hone : Region.ready md ops listed = [i] := by simpa using hc
        refine ⟨fun e => (by rw [e] at hr'; cases hr'), fun j hj => ?_⟩
        obtain rfl : j = i := by rw [hone] at hj; simpa using hj
        exact wpOp_mono (fun a' w' h' => ⟨h'.1, wpX_of_T hsel hQ hrefl htrans htail rest _ a' w' (inv.set hr' hin) hok' h'.2⟩) h
      · rw [if_neg hl] at h hc
        obtain ⟨v, hy, hrest⟩ := h
        exact wpX_first hi hsel hQ hrefl htrans (fun listed' a' w' hL => seqB_ready hL.1) (htail i hin) rest.len listed a w inv (Region.free_spec hi hc) hr' hy
          (wpX_of_T hsel hQ hrefl htrans htail rest _ _ w (inv.set hr' hin) hok' hrest)
  | .two i p j q, listed, a, w, inv, hok, h => by
    simp only [okT, Bool.and_eq_true, decide_eq_true_eq] at hok
    obtain ⟨⟨⟨⟨⟨hin, hjn⟩, hr⟩, hlen⟩, hok1⟩, hok2⟩ := hok
    have hri : i ∈ Region.ready md ops listed := by rw [hr]; simp
    have hrj : j ∈ Region.ready md ops listed := by rw [hr]; simp
    refine ⟨fun e => (by rw [e] at hri; cases hri), fun k hk => ?_⟩
    have hk' : k = i ∨ k = j := by rw [hr] at hk; simpa using hk
    by_cases hki : k = i
    · subst hki
      exact wpOp_mono (fun a' w' h' => ⟨h'.1, wpX_of_T hsel hQ hrefl htrans htail p _ a' w' (inv.set hri hin) hok1 h'.2⟩) h.1
    · obtain rfl : k = j := hk'.resolve_left hki
      rw [hlen]
      exact wpOp_mono (fun a' w' h' => ⟨h'.1, wpX_of_T hsel hQ hrefl htrans htail q _ a' w' (inv.set hrj hjn) hok2 h'.2⟩) h.2

/-- the checks on a region -/
def canT (ops : Array Oper) (loud : List Nat) (p : Plan) : Bool :=
  Region.noSelect ops && decide (p.len = ops.size) && okT .any ops ops.size loud p (Array.replicate ops.size false)

/-- the operations written out -/
inductive OpT
  | nil
  | one (b : Bool) (o : Oper) (t : OpT)
  | two (o : Oper) (t : OpT) (o' : Oper) (t' : OpT)
def Plan.lay (l : List Oper) (loud : List Nat) : Plan → OpT
  | .nil => .nil
  | .one i p => .one (loud.contains i) (l.getD i default) (p.lay l loud)
  | .two i p j q => .two (l.getD i default) (p.lay l loud) (l.getD j default) (q.lay l loud)

def wpTL (P : Program) (ops : Array Oper) (Q : Exit → Act → World → Prop) (S : World → World → Prop) (E : Act → World → Prop) : OpT → Act → World → Prop
  | .nil, a, w => E a w
  | .one true o rest, a, w => if Region.wanted o (yielded ops a.tmps) then o.wp P a w (fun a' w' => S w w' ∧ wpTL P ops Q S E rest a' w') Q else S w w ∧ wpTL P ops Q S E rest (a.put o.dst undef) w
  | .one false o rest, a, w => if Region.wanted o (yielded ops a.tmps) then ∃ v, (∀ w', S w w' → (execOp a.eval o).run P w' = .ok (.value v) w') ∧ wpTL P ops Q S E rest (a.put o.dst v) w else wpTL P ops Q S E rest (a.put o.dst undef) w
  | .two o t o' t', a, w => (if Region.wanted o (yielded ops a.tmps) then o.wp P a w (fun a' w' => S w w' ∧ wpTL P ops Q S E t a' w') Q else S w w ∧ wpTL P ops Q S E t (a.put o.dst undef) w) ∧
      (if Region.wanted o' (yielded ops a.tmps) then o'.wp P a w (fun a' w' => S w w' ∧ wpTL P ops Q S E t' a' w') Q else S w w ∧ wpTL P ops Q S E t' (a.put o'.dst undef) w)

theorem okT_lt {n : Nat} {loud : List Nat} {i : Nat} {p : Plan} {listed : Array Bool} (h : okT md ops n loud (.one i p) listed = true) : i < n := by
  simp only [okT, Bool.and_eq_true, decide_eq_true_eq] at h
  exact h.1.1.1

theorem loud_one {l : List Oper} {E : Act → World → Prop} {i : Nat} {t : OpT} {K : Act → World → Prop} (hil : i < l.length) {a : Act} {w : World} (hK : ∀ a' w', wpTL P l.toArray Q S E t a' w' → K a' w')
    (h : wpTL P l.toArray Q S E (.one true (l.getD i default) t) a w) : wpOp P l.toArray Q i (fun a' w' => S w w' ∧ K a' w') a w := by
  have hi : l.toArray[i]? = some (l.getD i default) := by
    rw [List.getElem?_toArray, List.getElem?_eq_getElem hil, List.getD_eq_getElem?_getD, List.getElem?_eq_getElem hil]; rfl
  generalize l.getD i default = o at hi h
  unfold wpTL at h
  by_cases hw : Region.wanted o (yielded l.toArray a.tmps) = true
  · rw [if_pos hw] at h
    exact wpOp_mono2 hi hw h fun a' w' h' => ⟨h'.1, hK _ _ h'.2⟩
  · rw [if_neg hw] at h
    unfold wpOp
    simp only [hi]
    rw [if_neg hw]
    exact ⟨h.1, hK _ _ h.2⟩

theorem wpT_of_L {l : List Oper} {loud : List Nat} {E : Act → World → Prop} : ∀ (p : Plan) (listed : Array Bool) (a : Act) (w : World), okT md l.toArray l.length loud p listed = true →
    wpTL P l.toArray Q S E (p.lay l loud) a w → wpT P l.toArray Q S loud E p a w
  | .nil, _, _, _, _, h => h
  | .one i rest, listed, a, w, hok, h => by
    have hil := okT_lt hok
    have hok' : okT md l.toArray l.length loud rest (listed.setIfInBounds i true) = true := by
      simp only [okT, Bool.and_eq_true] at hok
      exact hok.2
    have hi : l.toArray[i]? = some (l.getD i default) := by
      rw [List.getElem?_toArray, List.getElem?_eq_getElem hil, List.getD_eq_getElem?_getD, List.getElem?_eq_getElem hil]; rfl
    have h1 : wpTL P l.toArray Q S E (.one (loud.contains i) (l.getD i default) (rest.lay l loud)) a w := h
    unfold wpT
    simp only [hi]
    cases hl : loud.contains i with
    | true =>
      rw [hl] at h1
      rw [if_pos rfl]
      exact loud_one hil (fun a' w' h' => wpT_of_L rest _ a' w' hok' h') h1
    | false =>
      rw [hl] at h1
      rw [if_neg (by simp)]
      generalize l.getD i default = o at hi h1
      unfold wpTL at h1
      by_cases hw : Region.wanted o (yielded l.toArray a.tmps) = true
      · rw [if_pos hw] at h1
        obtain ⟨v, h2, h3⟩ := h1
        exact ⟨v, .inl ⟨hw, h2⟩, wpT_of_L rest _ _ _ hok' h3⟩
      · rw [if_neg hw] at h1
        exact ⟨undef, .inr ⟨by simpa using hw, rfl⟩, wpT_of_L rest _ _ _ hok' h1⟩
  | .two i p j q, listed, a, w, hok, h => by
    simp only [okT, Bool.and_eq_true, decide_eq_true_eq] at hok
    obtain ⟨⟨⟨⟨⟨hin, hjn⟩, _⟩, _⟩, hok1⟩, hok2⟩ := hok
    have h1 : wpTL P l.toArray Q S E (.two (l.getD i default) (p.lay l loud) (l.getD j default) (q.lay l loud)) a w := h
    unfold wpTL at h1
    exact ⟨loud_one hin (fun a' w' h' => wpT_of_L p _ a' w' hok1 h') h1.1, loud_one hjn (fun a' w' h' => wpT_of_L q _ a' w' hok2 h') h1.2⟩

/-- all operations of the region by a plan -/
theorem wp_region_plan {id : Nat} {a : Act} {w : World} {l : List Oper} (loud : List Nat) (p : Plan) (S : World → World → Prop) (hrefl : ∀ w, S w w) (htrans : ∀ a b c, S a b → S b c → S a c)
    (hm : P.follows .mixedOrders = true) (hB : canT l.toArray loud p = true)
    (h : wpTL P l.toArray (OnlyOn Q) S (Q .normal) (p.lay l loud) a w.drew) : (Code.region id l.toArray true).wp P Q a w := by
  simp only [canT, Bool.and_eq_true, decide_eq_true_eq] at hB
  obtain ⟨⟨hsel, hlen⟩, hok⟩ := hB
  have hs : l.toArray.size = l.length := by simp
  rw [hs] at hlen
  have hok2 : okT .any l.toArray l.length loud p (Array.replicate l.toArray.size false) = true := by rw [← hs]; exact hok
  have h' := wpT_of_L (md := .any) (loud := loud) p (Array.replicate l.toArray.size false) a w.drew hok2 h
  have htail : ∀ i, i < l.length → ∀ listed, HeadInv .any l.toArray l.length listed → listed.getD i true = false → ∀ t, l.length ≤ t → t ∉ Region.ready .any l.toArray listed := by
    intro i hin listed inv hun t ht hr
    obtain ⟨_, ot, hot, _⟩ := mem_ready.1 hr
    have := (Array.getElem?_eq_some_iff.1 hot).1
    omega
  have inv0 : HeadInv .any l.toArray l.length (Array.replicate l.toArray.size false) :=
    ⟨by simp, fun j oj _ hl => (by rw [getD_replicate_false] at hl; cases hl), fun t _ ht => getD_in (by simpa using ht) (getD_replicate_false _ _)⟩
  have H := wpX_of_T (md := .any) (Region.noSelect_spec hsel) (fun _ _ _ _ _ h => h) hrefl htrans htail p _ a w.drew inv0 hok2 h'
  refine Code.wp_mono OnlyOn.imp (wp_region_any hm ?_)
  have hdl : (l.drop l.length).length = l.toArray.size - l.length := by simp
  have H2 := wpAny_of_X (g := l.toArray.size - l.length) (fun listed a' w' hL => by
    have hE : wpList P l.toArray (OnlyOn Q) (l.drop l.length) a' w' := by rw [List.drop_length]; exact hL.2
    have := wpAny_of_seq (md := .any) (Q' := OnlyOn Q) (l.drop l.length) l.length listed a' w' (fun j => by simp) (by rw [hdl]; exact hL.1) hE
    rwa [hdl] at this) _ _ _ _ H
  rw [hlen, show l.length + (l.toArray.size - l.length) = l.toArray.size by simp] at H2
  exact H2

variable {E : Act → World → Prop} {rest rest' : OpT} {o o' : Oper} {a : Act} {w : World}
theorem wpTL_do {v : Value} (hw : Region.wanted o (yielded ops a.tmps) = true)
    (hv : ∀ w', S w w' → (execOp a.eval o).run P w' = .ok (.value v) w') (h : wpTL P ops Q S E rest (a.put o.dst v) w) : wpTL P ops Q S E (.one false o rest) a w := by
  unfold wpTL; rw [if_pos hw]; exact ⟨v, hv, h⟩
theorem wpTL_pass (hw : Region.wanted o (yielded ops a.tmps) = false)
    (h : wpTL P ops Q S E rest (a.put o.dst undef) w) : wpTL P ops Q S E (.one false o rest) a w := by
  unfold wpTL; rw [if_neg (by rw [hw]; simp)]; exact h
theorem wpTL_call (hw : Region.wanted o (yielded ops a.tmps) = true)
    (h : ∀ K : Act → World → Prop, (∀ a' w', S w w' → wpTL P ops Q S E rest a' w' → K a' w') → o.wp P a w K Q) : wpTL P ops Q S E (.one true o rest) a w := by
  unfold wpTL; rw [if_pos hw]; exact h _ fun _ _ h1 h2 => ⟨h1, h2⟩
theorem wpTL_hush (hw : Region.wanted o (yielded ops a.tmps) = false) (hr : S w w)
    (h : wpTL P ops Q S E rest (a.put o.dst undef) w) : wpTL P ops Q S E (.one true o rest) a w := by
  unfold wpTL; rw [if_neg (by rw [hw]; simp)]; exact ⟨hr, h⟩
theorem wpTL_nil (h : E a w) : wpTL P ops Q S E .nil a w := h
theorem wpTL_two (h : wpTL P ops Q S E (.one true o rest) a w) (h' : wpTL P ops Q S E (.one true o' rest') a w) : wpTL P ops Q S E (.two o rest o' rest') a w := by
  unfold wpTL; exact ⟨h, h'⟩
end
end Go.Proofs.Ytfbchmihkndfaaa
