/- Regions that draw their order by a plan for the first n operations; the others come behind, one by one. -/
import Derived.Test.YtkgnelmnadnbhaaRegionT
namespace Go.Proofs.Ytkgnelmnadnbhaa
section
variable {P : Program} {ops : Array Oper} {md : Region.Mode} {Q : Exit → Act → World → Prop} {S : World → World → Prop}

theorem wpT_of_Ln {n : Nat} {l : List Oper} (hnl : n ≤ l.length) {loud : List Nat} {E : Act → World → Prop} : ∀ (p : Plan) (listed : Array Bool) (a : Act) (w : World), okT md l.toArray n loud p listed = true →
    wpTL P l.toArray Q S E (p.lay l loud) a w → wpT P l.toArray Q S loud E p a w
  | .nil, _, _, _, _, h => h
  | .one i rest, listed, a, w, hok, h => by
    have hil := Nat.lt_of_lt_of_le (okT_lt hok) hnl
    have hok' : okT md l.toArray n loud rest (listed.setIfInBounds i true) = true := by
      simp only [okT, Bool.and_eq_true] at hok
      exact hok.2
    have hi : l.toArray[i]? = some (l.getD i default) := by
      rw [List.getElem?_toArray, List.getElem?_eq_getElem hil, List.getD_eq_getElem?_getD, List.getElem?_eq_getElem hil]; rfl
    have h1 : wpTL P l.toArray Q S E (.one (loud.contains i) (l.getD i default) (rest.lay l loud)) a w := h
    unfold wpT
    simp only [hi]
    cases hl : loud.contains i with
    | true =>
      rw [hl] at h1
      rw [if_pos rfl]
      exact loud_one hil (fun a' w' h' => wpT_of_Ln hnl rest _ a' w' hok' h') h1
    | false =>
      rw [hl] at h1
      rw [if_neg (by simp)]
      generalize l.getD i default = o at hi h1
      unfold wpTL at h1
      by_cases hw : Region.wanted o (yielded l.toArray a.tmps) = true
      · rw [if_pos hw] at h1
        obtain ⟨v, h2, h3⟩ := h1
        exact ⟨v, .inl ⟨hw, h2⟩, wpT_of_Ln hnl rest _ _ _ hok' h3⟩
      · rw [if_neg hw] at h1
        exact ⟨undef, .inr ⟨by simpa using hw, rfl⟩, wpT_of_Ln hnl rest _ _ _ hok' h1⟩
  | .two i p j q, listed, a, w, hok, h => by
    simp only [okT, Bool.and_eq_true, decide_eq_true_eq] at hok
    obtain ⟨⟨⟨⟨⟨hin, hjn⟩, _⟩, _⟩, hok1⟩, hok2⟩ := hok
    have h1 : wpTL P l.toArray Q S E (.two (l.getD i default) (p.lay l loud) (l.getD j default) (q.lay l loud)) a w := h
    unfold wpTL at h1
    exact ⟨loud_one (Nat.lt_of_lt_of_le hin hnl) (fun a' w' h' => wpT_of_Ln hnl p _ a' w' hok1 h') h1.1, loud_one (Nat.lt_of_lt_of_le hjn hnl) (fun a' w' h' => wpT_of_Ln hnl q _ a' w' hok2 h') h1.2⟩

/-- the checks: n operations by the plan, the rest of them behind, one by one -/
def canTn (ops : Array Oper) (n : Nat) (loud : List Nat) (p : Plan) : Bool :=
  Region.noSelect ops && decide (n < ops.size) && Region.sinkB .any ops n && Region.chainB .any ops n && decide (p.len = n) && okT .any ops n loud p (Array.replicate ops.size false)

theorem wp_region_plan_tail {id : Nat} {a : Act} {w : World} {l : List Oper} (n : Nat) (loud : List Nat) (p : Plan) (S : World → World → Prop) (hrefl : ∀ w, S w w) (htrans : ∀ a b c, S a b → S b c → S a c)
    (hm : P.follows .mixedOrders = true) (hB : canTn l.toArray n loud p = true)
    (h : wpTL P l.toArray (OnlyOn Q) S (fun a' w' => wpList P l.toArray (OnlyOn Q) (l.drop n) a' w') (p.lay l loud) a w.drew) : (Code.region id l.toArray true).wp P Q a w := by
  simp only [canTn, Bool.and_eq_true, decide_eq_true_eq] at hB
  obtain ⟨⟨⟨⟨⟨hsel, hn⟩, hsink⟩, hchain⟩, hlen⟩, hok⟩ := hB
  have hs : l.toArray.size = l.length := by simp
  have hnl : n ≤ l.length := by omega
  have h' := wpT_of_Ln (md := .any) hnl p (Array.replicate l.toArray.size false) a w.drew hok h
  have htail : ∀ i, i < n → ∀ listed, HeadInv .any l.toArray n listed → listed.getD i true = false → ∀ t, n ≤ t → t ∉ Region.ready .any l.toArray listed := by
    intro i hin listed inv hun t ht hr
    exact tail_waits hsink hchain hn inv _ i rfl hin hun t ht hr
  have inv0 : HeadInv .any l.toArray n (Array.replicate l.toArray.size false) :=
    ⟨by simp, fun j oj _ hl => (by rw [getD_replicate_false] at hl; cases hl), fun t _ ht => getD_in (by simpa using ht) (getD_replicate_false _ _)⟩
  have H := wpX_of_T (md := .any) (Region.noSelect_spec hsel) (fun _ _ _ _ _ h => h) hrefl htrans htail p _ a w.drew inv0 hok h'
  refine Code.wp_mono OnlyOn.imp (wp_region_any hm ?_)
  have hdl : (l.drop n).length = l.toArray.size - n := by simp
  have H2 := wpAny_of_X (g := l.toArray.size - n) (fun listed a' w' hL => by
    have := wpAny_of_seq (md := .any) (Q' := OnlyOn Q) (l.drop n) n listed a' w' (fun j => by simp [List.getElem?_drop]) (by rw [hdl]; exact hL.1) hL.2
    rwa [hdl] at this) _ _ _ _ H
  rw [hlen, show n + (l.toArray.size - n) = l.toArray.size by omega] at H2
  exact H2
end
end Go.Proofs.Ytkgnelmnadnbhaa
