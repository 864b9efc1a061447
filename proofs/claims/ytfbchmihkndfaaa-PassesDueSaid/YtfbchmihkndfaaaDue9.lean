/- Passes: a plan in memory; of, fits. -/
import Derived.Test.YtfbchmihkndfaaaDue8
import Derived.Test.YtfbchmihkndfaaaDue2
namespace Go.Proofs.Ytfbchmihkndfaaa
set_option linter.unusedVariables false
open Go.RowKit

structure Best where
  w : Nat
  c : Nat
  nx : Int
instance : Inhabited Best := ⟨⟨0, 0, -1⟩⟩
def bcl (b : Best) : List Value := [.int .i64 (b.w : Int), .int .i64 (b.c : Int), .int .i64 b.nx]
theorem bcl_len (b : Best) : (bcl b).length = 3 := rfl
def bAt (bs : List Best) (i : Nat) : Best := bs.getD i default
/-- a plan -/
structure PlanM (W : World) (P bb n cap gap : Nat) (la : Option Addr) (l : List Ps) (bs : List Best) : Prop where
  box : W.heap[P]? = some (.cells #[.slice la n cap, .int .i64 (gap : Int), .slice (some ⟨bb, 0, none⟩) n n] 55)
  bst : W.heap[bb]? = some (.cells (bs.flatMap bcl).toArray 59)
  bl : bs.length = n
  ps : RdPs W la n cap l
theorem PlanM.below {W W' : World} {P bb n cap gap : Nat} {la : Option Addr} {l : List Ps} {bs : List Best} (h : PlanM W P bb n cap gap la l bs) (hb : Below W.heap.size W W') : PlanM W' P bb n cap gap la l bs :=
  ⟨row_below h.box hb, row_below h.bst hb, h.bl, h.ps.below hb⟩
theorem PlanM.at_ {W : World} {P bb n cap gap : Nat} {la : Option Addr} {l : List Ps} {bs : List Best} (h : PlanM W P bb n cap gap la l bs) (i : Nat) (hi : i < n) :
    W.cell? ⟨bb, i * 3, none⟩ = some (.int .i64 ((bAt bs i).w : Int)) ∧ W.cell? ⟨bb, i * 3 + 1, none⟩ = some (.int .i64 ((bAt bs i).c : Int)) ∧ W.cell? ⟨bb, i * 3 + 2, none⟩ = some (.int .i64 (bAt bs i).nx) := by
  have hb := h.bl
  have e : bAt bs i = bs[i]'(by omega) := by
    unfold bAt
    rw [List.getD_eq_getElem?_getD, List.getElem?_eq_getElem (by omega)]
    rfl
  have hc := fun k (hk : k < 3) => flat_at bcl 3 bcl_len bs i (by omega) k hk
  rw [e]
  refine ⟨?_, ?_, ?_⟩
  · have := hc 0 (by decide)
    rw [Nat.add_zero] at this
    rw [cell_of_row _ _ _ _ _ _ h.bst, List.getElem?_toArray, this]
    rfl
  · rw [cell_of_row _ _ _ _ _ _ h.bst, List.getElem?_toArray, hc 1 (by decide)]
    rfl
  · rw [cell_of_row _ _ _ _ _ _ h.bst, List.getElem?_toArray, hc 2 (by decide)]
    rfl
def ofB (bs : List Best) (i : Int) : Best := if i < 0 then ⟨0, 0, -1⟩ else bAt bs i.toNat
theorem Try.results19' : True := trivial
set_option maxRecDepth 100000 in
set_option maxHeartbeats 1000000 in
theorem of_ok (P bb n cap gap : Nat) (la : Option Addr) (l : List Ps) (bs : List Best) (i : Int) (hi : i < n) (hn : n ≤ 9) (w : World) (h : PlanM w P bb n cap gap la l bs) :
    Calls Try.prog 19 #[.pointer (some ⟨P, 0, none⟩), .int .i64 i] w fun e w' => e = .returned (.agg #[.int .i64 ((ofB bs i).w : Int), .int .i64 ((ofB bs i).c : Int), .int .i64 (ofB bs i).nx]) ∧ Below w.heap.size w w' := by
  have ho : Hid (ofB bs i = if i < 0 then ⟨0, 0, -1⟩ else bAt bs i.toNat) := rfl
  generalize ofB bs i = o at *
  by_cases h0 : i < 0
  · rw [if_pos h0] at ho
    have d1 : decide (i < 0) = true := decide_eq_true h0
    have b1 := hid (below_alloc w (.cells #[.int .i64 0, .int .i64 0, .int .i64 (-1)] 59))
    have r1 := hid (heap_alloc_new w (.cells #[.int .i64 0, .int .i64 0, .int .i64 (-1)] 59))
    clear h h0
    go_enter Try.func19, Try.ntmps19
    go_wp2_with fail
    generalize w.alloc (.cells #[.int .i64 0, .int .i64 0, .int .i64 (-1)] 59) = U at *
    refine bodyPost_ret (results_cell_row rfl _ _ w.heap.size 59 #[.int .i64 0, .int .i64 0, .int .i64 (-1)] (0, 0) _ rfl r1.out Try.underlying59 rfl (by kernel_rfl)) rfl ⟨?_, b1.out⟩
    rw [ho.out]
    rfl
  · rw [if_neg h0] at ho
    obtain ⟨k, rfl⟩ := Int.eq_ofNat_of_zero_le (by omega : 0 ≤ i)
    rw [Int.toNat_natCast] at ho
    have hk : k < n := by omega
    have d1 : decide ((k : Int) < 0) = false := decide_eq_false h0
    obtain ⟨c0, c1, c2⟩ := h.at_ k hk
    rw [← ho.out] at c0 c1 c2
    have p2 : w.cell? ⟨P, 2, none⟩ = some (.slice (some ⟨bb, 0, none⟩) n n) := by rw [cell_of_row _ _ _ _ _ _ h.box]; rfl
    have hbl := row_lt h.bst
    have hPl := row_lt h.box
    obtain ⟨ow, oc, on⟩ := o
    dsimp only at *
    have b1 := hid (below_alloc w (.cells #[.int .i64 (ow : Int), .int .i64 (oc : Int), .int .i64 on] 59))
    have r1 := hid (heap_alloc_new w (.cells #[.int .i64 (ow : Int), .int .i64 (oc : Int), .int .i64 on] 59))
    clear h h0 ho
    go_enter Try.func19, Try.ntmps19
    go_wp2_with fail
    generalize w.alloc (.cells #[.int .i64 (ow : Int), .int .i64 (oc : Int), .int .i64 on] 59) = U at *
    exact bodyPost_ret (results_cell_row rfl _ _ w.heap.size 59 #[.int .i64 (ow : Int), .int .i64 (oc : Int), .int .i64 on] (0, 0) _ rfl r1.out Try.underlying59 rfl (by kernel_rfl)) rfl ⟨rfl, b1.out⟩
end Go.Proofs.Ytfbchmihkndfaaa
/- Regions that draw their order, where two loud operations may come up at once: both ways are walked. -/
namespace Go.Proofs.Ytfbchmihkndfaaa

/-- in which order the operations are taken: one, or two ways -/
inductive Plan
  | nil
  | one (i : Nat) (p : Plan)
  | two (i : Nat) (p : Plan) (j : Nat) (q : Plan)
def Plan.len : Plan → Nat
  | .nil => 0
  | .one _ p => p.len + 1
  | .two _ p _ _ => p.len + 1
def Plan.of : List Nat → Plan → Plan
  | [], p => p
  | i :: r, p => .one i (Plan.of r p)

section
variable {P : Program} {ops : Array Oper} {md : Region.Mode} {Q : Exit → Act → World → Prop} {S : World → World → Prop}

def wpT (P : Program) (ops : Array Oper) (Q : Exit → Act → World → Prop) (S : World → World → Prop) (loud : List Nat) (E : Act → World → Prop) : Plan → Act → World → Prop
  | .nil, a, w => E a w
  | .one i rest, a, w => match ops[i]? with
    | none => False
    | some o => if loud.contains i then wpOp P ops Q i (fun a' w' => S w w' ∧ wpT P ops Q S loud E rest a' w') a w
      else ∃ v, YieldsIf P ops (S w) o v a ∧ wpT P ops Q S loud E rest (a.put o.dst v) w
  | .two i p j q, a, w => wpOp P ops Q i (fun a' w' => S w w' ∧ wpT P ops Q S loud E p a' w') a w ∧ wpOp P ops Q j (fun a' w' => S w w' ∧ wpT P ops Q S loud E q a' w') a w

def okT (md : Region.Mode) (ops : Array Oper) (n : Nat) (loud : List Nat) : Plan → Array Bool → Bool
  | .nil, listed => Region.seqB md ops (ops.size - n) n listed
  | .one i rest, listed => decide (i < n) && (Region.ready md ops listed).contains i && (if loud.contains i then decide (Region.ready md ops listed = [i]) else Region.free md ops listed i) &&
      okT md ops n loud rest (listed.setIfInBounds i true)
  | .two i p j q, listed => decide (i < n) && decide (j < n) && decide (Region.ready md ops listed = [i, j]) && decide (p.len = q.len) && okT md ops n loud p (listed.setIfInBounds i true) && okT md ops n loud q (listed.setIfInBounds j true)

theorem wpX_of_T {n : Nat} {loud : List Nat} {E : Act → World → Prop} (hsel : ∀ (j : Nat) (o : Oper) cs b, ops[j]? = some o → o.op ≠ .select cs b)
    (hQ : ∀ c a d v w, Q (.panic c) (a.put d v) w → Q (.panic c) a w) (hrefl : ∀ w, S w w) (htrans : ∀ a b c, S a b → S b c → S a c)
    (htail : ∀ i, i < n → ∀ listed, HeadInv md ops n listed → listed.getD i true = false → ∀ t, n ≤ t → t ∉ Region.ready md ops listed) :
    ∀ (p : Plan) (listed : Array Bool) (a : Act) (w : World), HeadInv md ops n listed → okT md ops n loud p listed = true → wpT P ops Q S loud E p a w →
      wpX P md ops Q S (fun listed' a' w' => Region.seqB md ops (ops.size - n) n listed' = true ∧ E a' w') p.len listed a w
  | .nil, listed, a, w, _, hok, h => ⟨hok, h⟩
  | .one i rest, listed, a, w, inv, hok, h => by
    simp only [okT, Bool.and_eq_true, decide_eq_true_eq] at hok
    obtain ⟨⟨⟨hin, hr⟩, hc⟩, hok'⟩ := hok
    have hr' : i ∈ Region.ready md ops listed := by simpa using hr
    unfold wpT at h
    cases hi : ops[i]? with
    | none => simp only [hi] at h
    | some oi =>
      simp only [hi] at h
      by_cases hl : loud.contains i = true
      · rw [if_pos hl] at h hc
        have hone : Region.ready md ops listed = [i] := by simpa using hc
        refine ⟨fun e => (by rw [e] at hr'; cases hr'), fun j hj => ?_⟩
        obtain rfl : j = i := by rw [hone] at hj; simpa using hj
        exact wpOp_mono (fun a' w' h' => ⟨h'.1, wpX_of_T hsel hQ hrefl htrans htail rest _ a' w' (inv.set hr' hin) hok' h'.2⟩) h
      · rw [if_neg hl] at h hc
        obtain ⟨v, hy, hrest⟩ := h
        exact wpX_first hi hsel hQ hrefl htrans (fun listed' a' w' hL => seqB_ready hL.1) (htail i hin) rest.len listed a w inv (Region.free_spec hi hc) hr' hy
          (wpX_of_T hsel hQ hrefl htrans htail rest _ _ w (inv.set hr' hin) hok' hrest)
  | .two i p j q, listed, a, w, inv, hok, h => by
    simp only [okT, Bool.and_eq_true, decide_eq_true_eq] at hok
    obtain ⟨⟨⟨⟨⟨hin, hjn⟩, hr⟩, hlen⟩, hok1⟩, hok2⟩ := hok
    have hri : i ∈ Region.ready md ops listed := by rw [hr]; simp
    have hrj : j ∈ Region.ready md ops listed := by rw [hr]; simp
    refine ⟨fun e => (by rw [e] at hri; cases hri), fun k hk => ?_⟩
    have hk' : k = i ∨ k = j := by rw [hr] at hk; simpa using hk
    by_cases hki : k = i
    · subst hki
      exact wpOp_mono (fun a' w' h' => ⟨h'.1, wpX_of_T hsel hQ hrefl htrans htail p _ a' w' (inv.set hri hin) hok1 h'.2⟩) h.1
    · obtain rfl : k = j := hk'.resolve_left hki
      rw [hlen]
      exact wpOp_mono (fun a' w' h' => ⟨h'.1, wpX_of_T hsel hQ hrefl htrans htail q _ a' w' (inv.set hrj hjn) hok2 h'.2⟩) h.2

/-- the checks on a region -/
def canT (ops : Array Oper) (loud : List Nat) (p : Plan) : Bool :=
  Region.noSelect ops && decide (p.len = ops.size) && okT .any ops ops.size loud p (Array.replicate ops.size false)

/-- the operations written out -/
inductive OpT
  | nil
  | one (b : Bool) (o : Oper) (t : OpT)
  | two (o : Oper) (t : OpT) (o' : Oper) (t' : OpT)
def Plan.lay (l : List Oper) (loud : List Nat) : Plan → OpT
  | .nil => .nil
  | .one i p => .one (loud.contains i) (l.getD i default) (p.lay l loud)
  | .two i p j q => .two (l.getD i default) (p.lay l loud) (l.getD j default) (q.lay l loud)

def wpTL (P : Program) (ops : Array Oper) (Q : Exit → Act → World → Prop) (S : World → World → Prop) (E : Act → World → Prop) : OpT → Act → World → Prop
  | .nil, a, w => E a w
  | .one true o rest, a, w => if Region.wanted o (yielded ops a.tmps) then o.wp P a w (fun a' w' => S w w' ∧ wpTL P ops Q S E rest a' w') Q else S w w ∧ wpTL P ops Q S E rest (a.put o.dst undef) w
  | .one false o rest, a, w => if Region.wanted o (yielded ops a.tmps) then ∃ v, (∀ w', S w w' → (execOp a.eval o).run P w' = .ok (.value v) w') ∧ wpTL P ops Q S E rest (a.put o.dst v) w else wpTL P ops Q S E rest (a.put o.dst undef) w
  | .two o t o' t', a, w => (if Region.wanted o (yielded ops a.tmps) then o.wp P a w (fun a' w' => S w w' ∧ wpTL P ops Q S E t a' w') Q else S w w ∧ wpTL P ops Q S E t (a.put o.dst undef) w) ∧
      (if Region.wanted o' (yielded ops a.tmps) then o'.wp P a w (fun a' w' => S w w' ∧ wpTL P ops Q S E t' a' w') Q else S w w ∧ wpTL P ops Q S E t' (a.put o'.dst undef) w)

theorem okT_lt {n : Nat} {loud : List Nat} {i : Nat} {p : Plan} {listed : Array Bool} (h : okT md ops n loud (.one i p) listed = true) : i < n := by
  simp only [okT, Bool.and_eq_true, decide_eq_true_eq] at h
  exact h.1.1.1

theorem loud_one {l : List Oper} {E : Act → World → Prop} {i : Nat} {t : OpT} {K : Act → World → Prop} (hil : i < l.length) {a : Act} {w : World} (hK : ∀ a' w', wpTL P l.toArray Q S E t a' w' → K a' w')
    (h : wpTL P l.toArray Q S E (.one true (l.getD i default) t) a w) : wpOp P l.toArray Q i (fun a' w' => S w w' ∧ K a' w') a w := by
  have hi : l.toArray[i]? = some (l.getD i default) := by
    rw [List.getElem?_toArray, List.getElem?_eq_getElem hil, List.getD_eq_getElem?_getD, List.getElem?_eq_getElem hil]; rfl
  generalize l.getD i default = o at hi h
  unfold wpTL at h
  by_cases hw : Region.wanted o (yielded l.toArray a.tmps) = true
  · rw [if_pos hw] at h
    exact wpOp_mono2 hi hw h fun a' w' h' => ⟨h'.1, hK _ _ h'.2⟩
  · rw [if_neg hw] at h
    unfold wpOp
    simp only [hi]
    rw [if_neg hw]
    exact ⟨h.1, hK _ _ h.2⟩

theorem wpT_of_L {l : List Oper} {loud : List Nat} {E : Act → World → Prop} : ∀ (p : Plan) (listed : Array Bool) (a : Act) (w : World), okT md l.toArray l.length loud p listed = true →
    wpTL P l.toArray Q S E (p.lay l loud) a w → wpT P l.toArray Q S loud E p a w
  | .nil, _, _, _, _, h => h
  | .one i rest, listed, a, w, hok, h => by
    have hil := okT_lt hok
    have hok' : okT md l.toArray l.length loud rest (listed.setIfInBounds i true) = true := by
      simp only [okT, Bool.and_eq_true] at hok
      exact hok.2
    have hi : l.toArray[i]? = some (l.getD i default) := by
      rw [List.getElem?_toArray, List.getElem?_eq_getElem hil, List.getD_eq_getElem?_getD, List.getElem?_eq_getElem hil]; rfl
    have h1 : wpTL P l.toArray Q S E (.one (loud.contains i) (l.getD i default) (rest.lay l loud)) a w := h
    unfold wpT
    simp only [hi]
    cases hl : loud.contains i with
    | true =>
      rw [hl] at h1
      rw [if_pos rfl]
      exact loud_one hil (fun a' w' h' => wpT_of_L rest _ a' w' hok' h') h1
    | false =>
      rw [hl] at h1
      rw [if_neg (by simp)]
      generalize l.getD i default = o at hi h1
      unfold wpTL at h1
      by_cases hw : Region.wanted o (yielded l.toArray a.tmps) = true
      · rw [if_pos hw] at h1
        obtain ⟨v, h2, h3⟩ := h1
        exact ⟨v, .inl ⟨hw, h2⟩, wpT_of_L rest _ _ _ hok' h3⟩
      · rw [if_neg hw] at h1
        exact ⟨undef, .inr ⟨by simpa using hw, rfl⟩, wpT_of_L rest _ _ _ hok' h1⟩
  | .two i p j q, listed, a, w, hok, h => by
    simp only [okT, Bool.and_eq_true, decide_eq_true_eq] at hok
    obtain ⟨⟨⟨⟨⟨hin, hjn⟩, _⟩, _⟩, hok1⟩, hok2⟩ := hok
    have h1 : wpTL P l.toArray Q S E (.two (l.getD i default) (p.lay l loud) (l.getD j default) (q.lay l loud)) a w := h
    unfold wpTL at h1
    exact ⟨loud_one hin (fun a' w' h' => wpT_of_L p _ a' w' hok1 h') h1.1, loud_one hjn (fun a' w' h' => wpT_of_L q _ a' w' hok2 h') h1.2⟩

/-- all operations of the region by a plan -/
theorem wp_region_plan {id : Nat} {a : Act} {w : World} {l : List Oper} (loud : List Nat) (p : Plan) (S : World → World → Prop) (hrefl : ∀ w, S w w) (htrans : ∀ a b c, S a b → S b c → S a c)
    (hm : P.follows .mixedOrders = true) (hB : canT l.toArray loud p = true)
    (h : wpTL P l.toArray (OnlyOn Q) S (Q .normal) (p.lay l loud) a w.drew) : (Code.region id l.toArray true).wp P Q a w := by
  simp only [canT, Bool.and_eq_true, decide_eq_true_eq] at hB
  obtain ⟨⟨hsel, hlen⟩, hok⟩ := hB
  have hs : l.toArray.size = l.length := by simp
  rw [hs] at hlen
  have hok2 : okT .any l.toArray l.length loud p (Array.replicate l.toArray.size false) = true := by rw [← hs]; exact hok
  have h' := wpT_of_L (md := .any) (loud := loud) p (Array.replicate l.toArray.size false) a w.drew hok2 h
  have htail : ∀ i, i < l.length → ∀ listed, HeadInv .any l.toArray l.length listed → listed.getD i true = false → ∀ t, l.length ≤ t → t ∉ Region.ready .any l.toArray listed := by
    intro i hin listed inv hun t ht hr
    obtain ⟨_, ot, hot, _⟩ := mem_ready.1 hr
    have := (Array.getElem?_eq_some_iff.1 hot).1
    omega
  have inv0 : HeadInv .any l.toArray l.length (Array.replicate l.toArray.size false) :=
    ⟨by simp, fun j oj _ hl => (by rw [getD_replicate_false] at hl; cases hl), fun t _ ht => getD_in (by simpa using ht) (getD_replicate_false _ _)⟩
  have H := wpX_of_T (md := .any) (Region.noSelect_spec hsel) (fun _ _ _ _ _ h => h) hrefl htrans htail p _ a w.drew inv0 hok2 h'
  refine Code.wp_mono OnlyOn.imp (wp_region_any hm ?_)
  have hdl : (l.drop l.length).length = l.toArray.size - l.length := by simp
  have H2 := wpAny_of_X (g := l.toArray.size - l.length) (fun listed a' w' hL => by
    have hE : wpList P l.toArray (OnlyOn Q) (l.drop l.length) a' w' := by rw [List.drop_length]; exact hL.2
    have := wpAny_of_seq (md := .any) (Q' := OnlyOn Q) (l.drop l.length) l.length listed a' w' (fun j => by simp) (by rw [hdl]; exact hL.1) hE
    rwa [hdl] at this) _ _ _ _ H
  rw [hlen, show l.length + (l.toArray.size - l.length) = l.toArray.size by simp] at H2
  exact H2

variable {E : Act → World → Prop} {rest rest' : OpT} {o o' : Oper} {a : Act} {w : World}
theorem wpTL_do {v : Value} (hw : Region.wanted o (yielded ops a.tmps) = true)
    (hv : ∀ w', S w w' → (execOp a.eval o).run P w' = .ok (.value v) w') (h : wpTL P ops Q S E rest (a.put o.dst v) w) : wpTL P ops Q S E (.one false o rest) a w := by
  unfold wpTL; rw [if_pos hw]; exact ⟨v, hv, h⟩
theorem wpTL_pass (hw : Region.wanted o (yielded ops a.tmps) = false)
    (h : wpTL P ops Q S E rest (a.put o.dst undef) w) : wpTL P ops Q S E (.one false o rest) a w := by
  unfold wpTL; rw [if_neg (by rw [hw]; simp)]; exact h
theorem wpTL_call (hw : Region.wanted o (yielded ops a.tmps) = true)
    (h : ∀ K : Act → World → Prop, (∀ a' w', S w w' → wpTL P ops Q S E rest a' w' → K a' w') → o.wp P a w K Q) : wpTL P ops Q S E (.one true o rest) a w := by
  unfold wpTL; rw [if_pos hw]; exact h _ fun _ _ h1 h2 => ⟨h1, h2⟩
theorem wpTL_hush (hw : Region.wanted o (yielded ops a.tmps) = false) (hr : S w w)
    (h : wpTL P ops Q S E rest (a.put o.dst undef) w) : wpTL P ops Q S E (.one true o rest) a w := by
  unfold wpTL; rw [if_neg (by rw [hw]; simp)]; exact ⟨hr, h⟩
theorem wpTL_nil (h : E a w) : wpTL P ops Q S E .nil a w := h
theorem wpTL_two (h : wpTL P ops Q S E (.one true o rest) a w) (h' : wpTL P ops Q S E (.one true o' rest') a w) : wpTL P ops Q S E (.two o rest o' rest') a w := by
  unfold wpTL; exact ⟨h, h'⟩
end
end Go.Proofs.Ytfbchmihkndfaaa
/- Passes: fits, compare. -/
namespace Go.Proofs.Ytfbchmihkndfaaa
set_option linter.unusedVariables false
open Go.RowKit

/-- from when on another pass may follow -/
def ends (l : List Ps) (gap a b : Nat) : Nat := (pAt l a).tt + (if (pAt l a).st ≠ (pAt l b).st then gap else 0)
def fitsB (l : List Ps) (gap a b : Nat) : Bool := decide (ends l gap a b ≤ (pAt l b).fr)
set_option maxRecDepth 100000 in
set_option maxHeartbeats 1000000 in
theorem fits_ok (P bb n cap gap a b : Nat) (la : Option Addr) (l : List Ps) (bs : List Best) (hg : GoodPs l) (hgap : gap ≤ 1000) (ha : a < n) (hb : b < n) (hn : n ≤ 9) (w : World) (h : PlanM w P bb n cap gap la l bs) :
    Calls Try.prog 17 #[.pointer (some ⟨P, 0, none⟩), .int .i64 (a : Int), .int .i64 (b : Int)] w fun e w' => e = .returned (.bool (fitsB l gap a b)) ∧ Below w.heap.size w w' := by
  obtain ⟨blk, rfl, hbl, a0, a1, a2, a3⟩ := h.ps.at_ a ha
  obtain ⟨blk2, he, _, b0, b1, b2, b3⟩ := h.ps.at_ b hb
  cases he
  have ga := hg a (by rw [h.ps.len]; exact ha)
  have gb := hg b (by rw [h.ps.len]; exact hb)
  have ga1 := ga.t
  have gb1 := gb.t
  have gb2 := gb.f
  have p0 : w.cell? ⟨P, 0, none⟩ = some (.slice (some ⟨blk, 0, none⟩) n cap) := by rw [cell_of_row _ _ _ _ _ _ h.box]; rfl
  have p1 : w.cell? ⟨P, 1, none⟩ = some (.int .i64 (gap : Int)) := by rw [cell_of_row _ _ _ _ _ _ h.box]; rfl
  have hPl := row_lt h.box
  have hd : ∀ w', Below w.heap.size w.drew w' → Below w.heap.size w w' := fun w' h => (Below.refl _ w).drew.trans h
  have e0 : ∀ w', Below w.heap.size w.drew w' → w'.cell? ⟨P, 0, none⟩ = some (.slice (some ⟨blk, 0, none⟩) n cap) := fun w' k => ((hd w' k).cell (p := ⟨P, 0, none⟩) hPl).trans p0
  have e1 : ∀ w', Below w.heap.size w.drew w' → w'.cell? ⟨blk, a * 4, none⟩ = some (.int .i64 ((pAt l a).st : Int)) := fun w' k => ((hd w' k).cell (p := ⟨blk, a * 4, none⟩) hbl).trans a0
  have e2 : ∀ w', Below w.heap.size w.drew w' → w'.cell? ⟨blk, b * 4, none⟩ = some (.int .i64 ((pAt l b).st : Int)) := fun w' k => ((hd w' k).cell (p := ⟨blk, b * 4, none⟩) hbl).trans b0
  have hdr := hid ((Below.refl w.heap.size w).drew)
  have q0 := ((Below.refl w.heap.size w).drew.cell (p := ⟨P, 0, none⟩) hPl).trans p0
  have q1 := ((Below.refl w.heap.size w).drew.cell (p := ⟨P, 1, none⟩) hPl).trans p1
  have q3 := ((Below.refl w.heap.size w).drew.cell (p := ⟨blk, b * 4 + 1, none⟩) hbl).trans b1
  have Q0 := hid q0
  have Q1 := hid q1
  have Q3 := hid q3
  have hfit : Hid (fitsB l gap a b = decide ((pAt l a).tt + (if (pAt l a).st ≠ (pAt l b).st then gap else 0) ≤ (pAt l b).fr)) := rfl
  clear hd h hg ga gb q0 q1 q3 a0 a1 a3 b0 b1 b2 b3 p1
  generalize fitsB l gap a b = fb at *
  generalize (pAt l a).st = sa at *
  generalize (pAt l b).st = sb at *
  generalize (pAt l a).tt = ta at *
  generalize (pAt l b).fr = fr_b at *
  generalize (pAt l b).tt = tb at *
  go_enter Try.func17, Try.ntmps17
  go_wp2_with fail
  refine wp_region_can_all [] [0, 1, 2, 3, 4, 5, 6, 7, 8, 9, 10, 11, 12, 13, 14, 15, 16] (Below w.heap.size) (fun _ => Below.refl _ _) (fun _ _ _ h k => h.trans k) (by kernel_rfl) (by kernel_rfl) ?_
  simp only [List.map_cons, List.map_nil, List.contains_nil, List.getD_cons_zero, List.getD_cons_succ]
  clear p0 a2
  generalize w.drew = U at *
  by_cases hs : sa = sb
  · subst hs
    rw [if_neg (fun h => h rfl), Nat.add_zero] at hfit
    repeat (refine wpL_do rfl (fun w' hw' => (by go_simp; rfl)) ?_; simp only [Act.put, List.setIfInBounds_toArray, List.set_cons_succ, List.set_cons_zero])
    refine wpL_nil ?_
    clear e0 e1 e2
    have c0 := Q0.out
    have c3 := Q3.out
    by_cases hf : ta ≤ fr_b
    · have d1 : decide ((ta : Int) ≤ (fr_b : Int)) = true := decide_eq_true (by omega)
      have d2 : decide (ta ≤ fr_b) = true := decide_eq_true hf
      rw [d2] at hfit
      clear hf
      go_wp2_with fail
      go_ret
      exact ⟨by rw [hfit.out]; rfl, hdr.out⟩
    · have d1 : decide ((ta : Int) ≤ (fr_b : Int)) = false := decide_eq_false (by omega)
      have d2 : decide (ta ≤ fr_b) = false := decide_eq_false hf
      rw [d2] at hfit
      clear hf
      go_wp2_with fail
      go_ret
      exact ⟨by rw [hfit.out]; rfl, hdr.out⟩
  · rw [if_pos hs] at hfit
    have dn : ((sa : Int) != (sb : Int)) = true := by rw [bne_iff_ne]; omega
    repeat (refine wpL_do rfl (fun w' hw' => (by go_simp; rfl)) ?_; simp only [Act.put, List.setIfInBounds_toArray, List.set_cons_succ, List.set_cons_zero])
    refine wpL_nil ?_
    clear e0 e1 e2 hs
    have c0 := Q0.out
    have c1 := Q1.out
    have c3 := Q3.out
    obtain ⟨t2, ht2⟩ : ∃ t2, t2 = ta + gap := ⟨_, rfl⟩
    have es : (ta : Int) + (gap : Int) = (t2 : Int) := by omega
    rw [← ht2] at hfit
    clear ht2
    by_cases hf : t2 ≤ fr_b
    · have d1 : decide ((t2 : Int) ≤ (fr_b : Int)) = true := decide_eq_true (by omega)
      have d2 : decide (t2 ≤ fr_b) = true := decide_eq_true hf
      rw [d2] at hfit
      clear hf
      go_wp2_with fail
      go_ret
      exact ⟨by rw [hfit.out]; rfl, hdr.out⟩
    · have d1 : decide ((t2 : Int) ≤ (fr_b : Int)) = false := decide_eq_false (by omega)
      have d2 : decide (t2 ≤ fr_b) = false := decide_eq_false hf
      rw [d2] at hfit
      clear hf
      go_wp2_with fail
      go_ret
      exact ⟨by rw [hfit.out]; rfl, hdr.out⟩
/-- which of two beginnings is ahead -/
def cmpR (x y : Best) (a b : Int) : Int := if orI (cmpI (y.w : Int) (x.w : Int)) (cmpI (x.c : Int) (y.c : Int)) ≠ 0 then orI (cmpI (y.w : Int) (x.w : Int)) (cmpI (x.c : Int) (y.c : Int)) else cmpI a b
theorem cmpR_lt (x y : Best) (a b : Int) (h : cmpR x y a b < 0) : y.w ≤ x.w := by
  unfold cmpR orI cmpI at h
  by_cases h1 : (y.w : Int) < (x.w : Int)
  · omega
  · by_cases h2 : (x.w : Int) < (y.w : Int)
    · rw [if_neg h1, if_pos h2] at h
      simp at h
    · omega
theorem cmpR_ge (x y : Best) (a b : Int) (h : ¬ cmpR x y a b < 0) : x.w ≤ y.w := by
  unfold cmpR orI cmpI at h
  by_cases h1 : (y.w : Int) < (x.w : Int)
  · rw [if_pos h1] at h
    simp at h
  · omega
set_option maxRecDepth 100000 in
set_option maxHeartbeats 1000000 in
theorem compare_ok (P bb n cap gap : Nat) (la : Option Addr) (l : List Ps) (bs : List Best) (a b : Int) (ha : a < n) (hb : b < n) (hn : n ≤ 9) (w : World) (h : PlanM w P bb n cap gap la l bs) :
    Calls Try.prog 18 #[.pointer (some ⟨P, 0, none⟩), .int .i64 a, .int .i64 b] w fun e w' => e = .returned (.int .i64 (cmpR (ofB bs a) (ofB bs b) a b)) ∧ Below w.heap.size w w' := by
  have hx := of_ok P bb n cap gap la l bs a ha hn w h
  have hy := fun W (hW : Below w.heap.size w W) => of_ok P bb n cap gap la l bs b hb hn W (h.below hW)
  have Hy := hid hy
  have hc : Hid (cmpR (ofB bs a) (ofB bs b) a b = if orI (cmpI ((ofB bs b).w : Int) ((ofB bs a).w : Int)) (cmpI ((ofB bs a).c : Int) ((ofB bs b).c : Int)) ≠ 0 then orI (cmpI ((ofB bs b).w : Int) ((ofB bs a).w : Int)) (cmpI ((ofB bs a).c : Int) ((ofB bs b).c : Int)) else cmpI a b) := rfl
  generalize cmpR (ofB bs a) (ofB bs b) a b = cr at *
  generalize ofB bs a = x at *
  generalize ofB bs b = y at *
  obtain ⟨xw, xc, xn⟩ := x
  obtain ⟨yw, yc, yn⟩ := y
  dsimp only at *
  clear hy h
  go_enter Try.func18, Try.ntmps18
  go_wp2_with fail
  refine hx.mono ?_
  rintro e W1 ⟨rfl, b1⟩
  have hy := Hy.out W1 b1
  have B1 := hid b1
  clear b1 hx
  go_wp2_with fail
  refine hy.mono ?_
  rintro e W2 ⟨rfl, b2⟩
  have B2 := hid (B1.out.trans (b2.mono B1.out.size))
  clear b2 hy
  go_upto_region 2 with (fail)
  have b3 := below_alloc W2 (.cells #[.int .i64 (xw : Int), .int .i64 (xc : Int), .int .i64 xn] 59)
  have b4 := below_alloc (W2.alloc (.cells #[.int .i64 (xw : Int), .int .i64 (xc : Int), .int .i64 xn] 59)) (.cells #[.int .i64 (yw : Int), .int .i64 (yc : Int), .int .i64 yn] 59)
  have r3 := row_below (heap_alloc_new W2 (.cells #[.int .i64 (xw : Int), .int .i64 (xc : Int), .int .i64 xn] 59)) b4
  have r4 := heap_alloc_new (W2.alloc (.cells #[.int .i64 (xw : Int), .int .i64 (xc : Int), .int .i64 xn] 59)) (.cells #[.int .i64 (yw : Int), .int .i64 (yc : Int), .int .i64 yn] 59)
  simp only [World.size_alloc] at r4
  have B4 := hid (B2.out.trans ((b3.trans (b4.mono b3.size)).mono B2.out.size))
  obtain ⟨H, hH⟩ : ∃ H, H = W2.heap.size := ⟨_, rfl⟩
  rw [← hH] at r3 r4 ⊢
  have r3 := hid r3
  have r4 := hid r4
  clear b3 b4 hH
  generalize (W2.alloc (.cells #[.int .i64 (xw : Int), .int .i64 (xc : Int), .int .i64 xn] 59)).alloc (.cells #[.int .i64 (yw : Int), .int .i64 (yc : Int), .int .i64 yn] 59) = U at *
  have hd : ∀ w', Below U.heap.size U.drew w' → Below U.heap.size U w' := fun w' h => (Below.refl _ U).drew.trans h
  have e0 : ∀ w', Below U.heap.size U.drew w' → w'.cell? ⟨H, 0, none⟩ = some (.int .i64 (xw : Int)) := fun w' k => by rw [cell_of_row _ _ _ _ _ _ (row_below r3.out (hd w' k))]; rfl
  have e1 : ∀ w', Below U.heap.size U.drew w' → w'.cell? ⟨H, 1, none⟩ = some (.int .i64 (xc : Int)) := fun w' k => by rw [cell_of_row _ _ _ _ _ _ (row_below r3.out (hd w' k))]; rfl
  have e2 : ∀ w', Below U.heap.size U.drew w' → w'.cell? ⟨H + 1, 0, none⟩ = some (.int .i64 (yw : Int)) := fun w' k => by rw [cell_of_row _ _ _ _ _ _ (row_below r4.out (hd w' k))]; rfl
  have e3 : ∀ w', Below U.heap.size U.drew w' → w'.cell? ⟨H + 1, 1, none⟩ = some (.int .i64 (yc : Int)) := fun w' k => by rw [cell_of_row _ _ _ _ _ _ (row_below r4.out (hd w' k))]; rfl
  refine wp_region_can_all [4, 9, 10, 11] [0, 1, 2, 3, 5, 6, 7, 8, 4, 9, 10, 11, 12] (Below U.heap.size) (fun _ => Below.refl _ _) (fun _ _ _ h k => h.trans k) (by kernel_rfl) (by kernel_rfl) ?_
  simp only [List.map_cons, List.map_nil, List.contains_cons, List.contains_nil, List.getD_cons_zero, List.getD_cons_succ, Nat.reduceBEq, Bool.or_false, Bool.or_true]
  have hdr := hid ((Below.refl U.heap.size U).drew)
  have hds : Hid (U.drew.heap.size = U.heap.size) := rfl
  clear hd
  generalize U.drew = Z at *
  repeat (refine wpL_do rfl (fun w' hw' => (by go_simp; rfl)) ?_; simp only [Act.put, List.setIfInBounds_toArray, List.set_cons_succ, List.set_cons_zero])
  clear e0 e1 e2 e3
  refine wpL_call rfl (fun K hK => ?_)
  go_wp2_with fail
  refine (cmp_ok _ _ _).mono ?_
  rintro e w' ⟨rfl, hw'⟩
  rw [hw']
  clear hw' w'
  refine hK _ _ (Below.refl _ _) ?_
  clear hK K
  try simp only [Act.put, List.setIfInBounds_toArray, List.set_cons_succ, List.set_cons_zero]
  refine wpL_call rfl (fun K hK => ?_)
  go_wp2_with fail
  refine (cmp_ok _ _ _).mono ?_
  rintro e w' ⟨rfl, hw'⟩
  rw [hw']
  clear hw' w'
  refine hK _ _ (Below.refl _ _) ?_
  clear hK K
  try simp only [Act.put, List.setIfInBounds_toArray, List.set_cons_succ, List.set_cons_zero]
  generalize cmpI (yw : Int) (xw : Int) = c1 at *
  generalize cmpI (xc : Int) (yc : Int) = c2 at *
  have b5 := below_alloc Z (.cells #[.int .i64 c1, .int .i64 c2] 3)
  have r5 := heap_alloc_new Z (.cells #[.int .i64 c1, .int .i64 c2] 3)
  have hor := or_ok c1 c2 _ _ r5
  have B5 := hid b5
  refine wpL_call rfl (fun K hK => ?_)
  go_wp2_with fail
  refine hK _ _ (B5.out.mono (Nat.le_of_eq hds.out.symm)) ?_
  clear hK K r5 b5
  try simp only [Act.put, List.setIfInBounds_toArray, List.set_cons_succ, List.set_cons_zero]
  refine wpL_call rfl (fun K hK => ?_)
  go_wp2_with fail
  refine hor.mono ?_
  rintro e w' ⟨rfl, hw'⟩
  rw [hw']
  clear hw' w'
  refine hK _ _ (Below.refl _ _) ?_
  clear hK K hor
  try simp only [Act.put, List.setIfInBounds_toArray, List.set_cons_succ, List.set_cons_zero]
  refine wpL_do rfl (fun w' hw' => (by go_simp; rfl)) ?_
  simp only [Act.put, List.setIfInBounds_toArray, List.set_cons_succ, List.set_cons_zero]
  refine wpL_nil ?_
  have hend := hid (B4.out.trans ((hdr.out.trans (B5.out.mono (by rw [hds.out]; exact Nat.le_refl _))).mono B4.out.size))
  clear B5 hdr
  generalize Z.alloc (.cells #[.int .i64 c1, .int .i64 c2] 3) = Y at *
  generalize orI c1 c2 = oo at *
  by_cases h0 : oo = 0
  · subst h0
    rw [if_neg (fun h => h rfl)] at hc
    go_wp2_with ((go_at_call 36; refine (cmp_ok _ _ _).mono ?_; rintro e w' ⟨rfl, rfl⟩))
    go_ret
    exact ⟨by rw [hc.out]; rfl, hend.out⟩
  · rw [if_pos h0] at hc
    have d1 : (oo != 0) = true := by rw [bne_iff_ne]; exact h0
    clear h0
    go_wp2_with fail
    go_ret
    exact ⟨by rw [hc.out]; rfl, hend.out⟩
end Go.Proofs.Ytfbchmihkndfaaa
