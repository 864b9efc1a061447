/- Regions that draw their order by two plans, one behind the other, each with its own relation of worlds. -/
import Derived.Test.YtdeeilahefnicaaRegionN
namespace Go.Proofs.Ytdeeilahefnicaa
section
variable {P : Program} {ops : Array Oper} {md : Region.Mode} {Q : Exit → Act → World → Prop} {S : World → World → Prop}

def okF (md : Region.Mode) (ops : Array Oper) (n : Nat) (fin : Array Bool → Bool) (loud : List Nat) : Plan → Array Bool → Bool
  | .nil, listed => fin listed
  | .one i rest, listed => decide (i < n) && (Region.ready md ops listed).contains i && (if loud.contains i then decide (Region.ready md ops listed = [i]) else Region.free md ops listed i) &&
      okF md ops n fin loud rest (listed.setIfInBounds i true)
  | .two i p j q, listed => decide (i < n) && decide (j < n) && decide (Region.ready md ops listed = [i, j]) && decide (p.len = q.len) && okF md ops n fin loud p (listed.setIfInBounds i true) && okF md ops n fin loud q (listed.setIfInBounds j true)

theorem wpX_of_F {n : Nat} {fin : Array Bool → Bool} {loud : List Nat} {E : Act → World → Prop} (hsel : ∀ (j : Nat) (o : Oper) cs b, ops[j]? = some o → o.op ≠ .select cs b)
    (hQ : ∀ c a d v w, Q (.panic c) (a.put d v) w → Q (.panic c) a w) (hrefl : ∀ w, S w w) (htrans : ∀ a b c, S a b → S b c → S a c)
    (hfin : ∀ listed, fin listed = true → ∀ j ∈ Region.ready md ops listed, n ≤ j)
    (htail : ∀ i, i < n → ∀ listed, HeadInv md ops n listed → listed.getD i true = false → ∀ t, n ≤ t → t ∉ Region.ready md ops listed) :
    ∀ (p : Plan) (listed : Array Bool) (a : Act) (w : World), HeadInv md ops n listed → okF md ops n fin loud p listed = true → wpT P ops Q S loud E p a w →
      wpX P md ops Q S (fun listed' a' w' => (fin listed' = true ∧ HeadInv md ops n listed') ∧ E a' w') p.len listed a w
  | .nil, listed, a, w, inv, hok, h => ⟨⟨hok, inv⟩, h⟩
  | .one i rest, listed, a, w, inv, hok, h => by
    simp only [okF, Bool.and_eq_true, decide_eq_true_eq] at hok
    obtain ⟨⟨⟨hin, hr⟩, hc⟩, hok'⟩ := hok
    have hr' : i ∈ Region.ready md ops listed := by simpa using hr
    unfold wpT at h
    cases hi : ops[i]? with
    | none => simp only [hi] at h
    | some oi =>
      simp only [hi] at h
      by_cases hl : loud.contains i = true
      · rw [if_pos hl] at h hc
        have hone : Region.ready md ops listed = [i] := by simpa using hc
        refine ⟨fun e => (by rw [e] at hr'; cases hr'), fun j hj => ?_⟩
        obtain rfl : j = i := by rw [hone] at hj; simpa using hj
        exact wpOp_mono (fun a' w' h' => ⟨h'.1, wpX_of_F hsel hQ hrefl htrans hfin htail rest _ a' w' (inv.set hr' hin) hok' h'.2⟩) h
      · rw [if_neg hl] at h hc
        obtain ⟨v, hy, hrest⟩ := h
        exact wpX_first hi hsel hQ hrefl htrans (fun listed' a' w' hL => hfin _ hL.1.1) (htail i hin) rest.len listed a w inv (Region.free_spec hi hc) hr' hy
          (wpX_of_F hsel hQ hrefl htrans hfin htail rest _ _ w (inv.set hr' hin) hok' hrest)
  | .two i p j q, listed, a, w, inv, hok, h => by
    simp only [okF, Bool.and_eq_true, decide_eq_true_eq] at hok
    obtain ⟨⟨⟨⟨⟨hin, hjn⟩, hr⟩, hlen⟩, hok1⟩, hok2⟩ := hok
    have hri : i ∈ Region.ready md ops listed := by rw [hr]; simp
    have hrj : j ∈ Region.ready md ops listed := by rw [hr]; simp
    refine ⟨fun e => (by rw [e] at hri; cases hri), fun k hk => ?_⟩
    have hk' : k = i ∨ k = j := by rw [hr] at hk; simpa using hk
    by_cases hki : k = i
    · subst hki
      exact wpOp_mono (fun a' w' h' => ⟨h'.1, wpX_of_F hsel hQ hrefl htrans hfin htail p _ a' w' (inv.set hri hin) hok1 h'.2⟩) h.1
    · obtain rfl : k = j := hk'.resolve_left hki
      rw [hlen]
      exact wpOp_mono (fun a' w' h' => ⟨h'.1, wpX_of_F hsel hQ hrefl htrans hfin htail q _ a' w' (inv.set hrj hjn) hok2 h'.2⟩) h.2

theorem wpT_of_Lf {n : Nat} {fin : Array Bool → Bool} {l : List Oper} (hnl : n ≤ l.length) {loud : List Nat} {E : Act → World → Prop} : ∀ (p : Plan) (listed : Array Bool) (a : Act) (w : World), okF md l.toArray n fin loud p listed = true →
    wpTL P l.toArray Q S E (p.lay l loud) a w → wpT P l.toArray Q S loud E p a w
  | .nil, _, _, _, _, h => h
  | .one i rest, listed, a, w, hok, h => by
    have hok2 := hok
    simp only [okF, Bool.and_eq_true, decide_eq_true_eq] at hok2
    have hil : i < l.length := Nat.lt_of_lt_of_le hok2.1.1.1 hnl
    have hok' := hok2.2
    have hi : l.toArray[i]? = some (l.getD i default) := by
      rw [List.getElem?_toArray, List.getElem?_eq_getElem hil, List.getD_eq_getElem?_getD, List.getElem?_eq_getElem hil]; rfl
    have h1 : wpTL P l.toArray Q S E (.one (loud.contains i) (l.getD i default) (rest.lay l loud)) a w := h
    unfold wpT
    simp only [hi]
    cases hl : loud.contains i with
    | true =>
      rw [hl] at h1
      rw [if_pos rfl]
      exact loud_one hil (fun a' w' h' => wpT_of_Lf hnl rest _ a' w' hok' h') h1
    | false =>
      rw [hl] at h1
      rw [if_neg (by simp)]
      generalize l.getD i default = o at hi h1
      unfold wpTL at h1
      by_cases hw : Region.wanted o (yielded l.toArray a.tmps) = true
      · rw [if_pos hw] at h1
        obtain ⟨v, h2, h3⟩ := h1
        exact ⟨v, .inl ⟨hw, h2⟩, wpT_of_Lf hnl rest _ _ _ hok' h3⟩
      · rw [if_neg hw] at h1
        exact ⟨undef, .inr ⟨by simpa using hw, rfl⟩, wpT_of_Lf hnl rest _ _ _ hok' h1⟩
  | .two i p j q, listed, a, w, hok, h => by
    simp only [okF, Bool.and_eq_true, decide_eq_true_eq] at hok
    obtain ⟨⟨⟨⟨⟨hin, hjn⟩, _⟩, _⟩, hok1⟩, hok2⟩ := hok
    have h1 : wpTL P l.toArray Q S E (.two (l.getD i default) (p.lay l loud) (l.getD j default) (q.lay l loud)) a w := h
    unfold wpTL at h1
    exact ⟨loud_one (Nat.lt_of_lt_of_le hin hnl) (fun a' w' h' => wpT_of_Lf hnl p _ a' w' hok1 h') h1.1, loud_one (Nat.lt_of_lt_of_le hjn hnl) (fun a' w' h' => wpT_of_Lf hnl q _ a' w' hok2 h') h1.2⟩

/-- the first n are done, no other -/
def half (m n : Nat) : Array Bool := (List.replicate n true ++ List.replicate (m - n) false).toArray

/-- each of the first n but the last is waited for by a later one of them; each of the others waits for the last of the first n, or for one of the others ahead of it -/
def gapB (md : Region.Mode) (ops : Array Oper) (n : Nat) : Bool :=
  ((List.range n).all fun i => decide (i + 1 = n) || (List.range n).any fun j => decide (i < j) && Region.waitsFor md ops j i) &&
  ((List.range ops.size).all fun t => decide (t < n) || Region.waitsFor md ops t (n - 1) || (List.range t).any fun u => decide (n ≤ u) && Region.waitsFor md ops t u)

def canP (ops : Array Oper) (n : Nat) (loud : List Nat) (p : Plan) (loud2 : List Nat) (q : Plan) : Bool :=
  Region.noSelect ops && decide (0 < n) && decide (n ≤ ops.size) && gapB .any ops n && decide (p.len = n) && decide (q.len + n = ops.size) &&
    okF .any ops n (fun l => l == half ops.size n) loud p (Array.replicate ops.size false) && okT .any ops ops.size loud2 q (half ops.size n)

theorem gap_waits {n : Nat} {listed : Array Bool} (hg : gapB md ops n = true) (_h0 : 0 < n) (inv : HeadInv md ops n listed) {i : Nat} (hin : i < n) (hun : listed.getD i true = false) :
    ∀ t, n ≤ t → t ∉ Region.ready md ops listed := by
  simp only [gapB, Bool.and_eq_true] at hg
  have hlast : ∀ (d i : Nat), n - i = d → i < n → listed.getD i true = false → listed.getD (n - 1) true = false := by
    intro d
    induction d using Nat.strongRecOn with
    | _ d ih =>
      intro i hd hi hun
      have h1 := List.all_eq_true.1 hg.1 i (List.mem_range.2 hi)
      simp only [Bool.or_eq_true, decide_eq_true_eq, List.any_eq_true, List.mem_range, Bool.and_eq_true] at h1
      rcases h1 with h1 | ⟨j, hj, hij, hw⟩
      · rw [show n - 1 = i by omega]; exact hun
      · refine ih (n - j) (by omega) j rfl hj ?_
        obtain ⟨oj, hoj, e, he, hb, hon⟩ := Region.waitsFor_spec hw
        have hjs : j < listed.size := by rw [inv.size]; exact (Array.getElem?_eq_some_iff.1 hoj).1
        cases hl : listed.getD j false with
        | true =>
          have h2 := inv.closed j oj hoj hl e he hb
          rw [hon, getD_both hun] at h2
          cases h2
        | false => exact getD_in hjs hl
  have hl := hlast _ i rfl hin hun
  intro t ht hr
  obtain ⟨_, ot, hot, hall⟩ := mem_ready.1 hr
  have htlt : t < ops.size := (Array.getElem?_eq_some_iff.1 hot).1
  have h1 := List.all_eq_true.1 hg.2 t (List.mem_range.2 htlt)
  simp only [Bool.or_eq_true, decide_eq_true_eq, List.any_eq_true, List.mem_range, Bool.and_eq_true] at h1
  have key : ∀ u, listed.getD u true = false → Region.waitsFor md ops t u = true → False := by
    intro u hu hw
    obtain ⟨o', ho', e, he, hb, hon⟩ := Region.waitsFor_spec hw
    have : o' = ot := Option.some.inj (ho'.symm.trans hot)
    subst this
    have h2 := hall e he hb
    rw [hon, getD_both hu] at h2
    cases h2
  rcases h1 with (h1 | h1) | ⟨u, hu, hnu, hw⟩
  · omega
  · exact key _ hl h1
  · exact key _ (inv.tail u hnu (by omega)) hw

theorem half_get {m n i : Nat} (h : (half m n).getD i true = false) : n ≤ i := by
  unfold half at h
  rcases Nat.lt_or_ge i n with h' | h'
  · rw [Array.getD_eq_getD_getElem?, List.getElem?_toArray, List.getElem?_append_left (by simpa using h'), List.getElem?_replicate, if_pos h'] at h
    cases h
  · exact h'

/-- the first n operations by the plan p with the relation S, the others by the plan q with the relation S2 -/
theorem wp_region_plans {id : Nat} {a : Act} {w : World} {l : List Oper} (n : Nat) (loud : List Nat) (p : Plan) (S : World → World → Prop) (loud2 : List Nat) (q : Plan) (S2 : World → World → Prop)
    (hrefl : ∀ w, S w w) (htrans : ∀ a b c, S a b → S b c → S a c) (hrefl2 : ∀ w, S2 w w) (htrans2 : ∀ a b c, S2 a b → S2 b c → S2 a c)
    (hm : P.follows .mixedOrders = true) (hB : canP l.toArray n loud p loud2 q = true)
    (h : wpTL P l.toArray (OnlyOn Q) S (fun a' w' => wpTL P l.toArray (OnlyOn Q) S2 (Q .normal) (q.lay l loud2) a' w') (p.lay l loud) a w.drew) : (Code.region id l.toArray true).wp P Q a w := by
  simp only [canP, Bool.and_eq_true, decide_eq_true_eq] at hB
  obtain ⟨⟨⟨⟨⟨⟨⟨hsel, hn0⟩, hn⟩, hgap⟩, hlen⟩, hlen2⟩, hok⟩, hok2⟩ := hB
  have hs : l.toArray.size = l.length := by simp
  have hnl : n ≤ l.length := by omega
  have h' := wpT_of_Lf (md := .any) hnl p (Array.replicate l.toArray.size false) a w.drew hok h
  have inv0 : HeadInv .any l.toArray n (Array.replicate l.toArray.size false) :=
    ⟨by simp, fun j oj _ hl => (by rw [getD_replicate_false] at hl; cases hl), fun t _ ht => getD_in (by simpa using ht) (getD_replicate_false _ _)⟩
  have H := wpX_of_F (md := .any) (Region.noSelect_spec hsel) (fun _ _ _ _ _ h => h) hrefl htrans
    (fun listed hf j hj => (by
      have hf' : listed = half l.toArray.size n := by simpa using hf
      subst hf'
      exact half_get (mem_ready.1 hj).1))
    (fun i hin listed inv hun => gap_waits hgap hn0 inv hin hun) p _ a w.drew inv0 hok h'
  refine Code.wp_mono OnlyOn.imp (wp_region_any hm ?_)
  have H2 := wpAny_of_X (g := q.len) (fun listed a' w' hL => by
    obtain ⟨⟨hf, inv⟩, hE⟩ := hL
    have hf' : listed = half l.toArray.size n := by simpa using hf
    have hokq : okT .any l.toArray l.length loud2 q listed = true := by rw [hf', ← hs]; exact hok2
    have hq := wpT_of_L (md := .any) (loud := loud2) q listed a' w' hokq hE
    have htail : ∀ i, i < l.length → ∀ listed, HeadInv .any l.toArray l.length listed → listed.getD i true = false → ∀ t, l.length ≤ t → t ∉ Region.ready .any l.toArray listed := by
      intro i hin listed inv hun t ht hr
      obtain ⟨_, ot, hot, _⟩ := mem_ready.1 hr
      have := (Array.getElem?_eq_some_iff.1 hot).1
      omega
    have inv1 : HeadInv .any l.toArray l.length listed := ⟨inv.size, inv.closed, fun t h1 h2 => by omega⟩
    have Hq := wpX_of_T (md := .any) (Region.noSelect_spec hsel) (fun _ _ _ _ _ h => h) hrefl2 htrans2 htail q _ a' w' inv1 hokq hq
    have hdl : (l.drop l.length).length = l.toArray.size - l.length := by simp
    have H2 := wpAny_of_X (g := l.toArray.size - l.length) (fun listed a' w' hL => by
      have hE : wpList P l.toArray (OnlyOn Q) (l.drop l.length) a' w' := by rw [List.drop_length]; exact hL.2
      have := wpAny_of_seq (md := .any) (Q' := OnlyOn Q) (l.drop l.length) l.length listed a' w' (fun j => by simp) (by rw [hdl]; exact hL.1) hE
      rwa [hdl] at this) _ _ _ _ Hq
    rwa [show q.len + (l.toArray.size - l.length) = q.len by simp] at H2) _ _ _ _ H
  rw [show p.len + q.len = l.toArray.size by omega] at H2
  exact H2
end
end Go.Proofs.Ytdeeilahefnicaa
