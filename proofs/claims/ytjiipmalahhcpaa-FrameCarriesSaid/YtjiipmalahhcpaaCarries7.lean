/- Regions that draw their order, in two parts that need not be parted in the text: what is loud in the second part waits for all that looks at memory in the first. -/
import Derived.Test.YtjiipmalahhcpaaCarries1
import Derived.Test.YtjiipmalahhcpaaCarries6
import Derived.Deep.CutBlock
import Derived.Deep.DeepCutAuto
namespace Go.Proofs.Ytjiipmalahhcpaa
set_option linter.unusedVariables false
section
variable {P : Program} {ops : Array Oper} {md : Region.Mode} {Q : Exit → Act → World → Prop} {S1 S2 : World → World → Prop}

def wpY (P : Program) (md : Region.Mode) (ops : Array Oper) (Q : Exit → Act → World → Prop) (T : Nat → World → World → Prop) (E : Act → World → Prop) : Nat → Array Bool → Act → World → Prop
  | 0, listed, a, w => Region.ready md ops listed = [] ∧ E a w
  | f + 1, listed, a, w => Region.ready md ops listed ≠ [] ∧
    ∀ i ∈ Region.ready md ops listed, wpOp P ops Q i (fun a' w' => T i w w' ∧ wpY P md ops Q T E f (listed.setIfInBounds i true) a' w') a w

theorem wpAny_of_Y {T : Nat → World → World → Prop} {E : Act → World → Prop} (hE : ∀ a w, E a w → Q .normal a w) :
    ∀ (f : Nat) (listed : Array Bool) (a : Act) (w : World), wpY P md ops Q T E f listed a w → wpAny P md ops Q f listed a w
  | 0, listed, a, w, h => ⟨h.1, hE _ _ h.2⟩
  | f + 1, listed, a, w, h => ⟨fun h0 => absurd h0 h.1, fun i hi => wpOp_mono (fun a' w' h' => wpAny_of_Y hE f _ a' w' h'.2) (h.2 i hi)⟩

theorem wpY_first {T : Nat → World → World → Prop} {R : World → World → Prop} {E : Act → World → Prop} {i : Nat} {oi : Oper} {v : Value} (hi : ops[i]? = some oi) (hsel : ∀ (j : Nat) (o : Oper) cs b, ops[j]? = some o → o.op ≠ .select cs b)
    (hQ : ∀ c a d v w, Q (.panic c) (a.put d v) w → Q (.panic c) a w) (hTrefl : ∀ j w, T j w w) (hrefl : ∀ w, R w w) (htrans : ∀ a b c, R a b → R b c → R a c)
    (hTR : ∀ (j : Nat) (oj : Oper), ops[j]? = some oj → j ≠ i → (∀ e ∈ oj.after, Region.binds md e = true → e.on ≠ i) → ∀ w w', T j w w' → R w w') :
    ∀ (f : Nat) (listed : Array Bool) (a : Act) (w : World),
      (∀ j oj, ops[j]? = some oj → j ≠ i → listed.getD j true = false → (∀ e ∈ oj.after, Region.binds md e = true → e.on ≠ i) → oi.apart ops oj = true) →
      i ∈ Region.ready md ops listed → YieldsIf P ops (R w) oi v a →
      wpY P md ops Q T E f (listed.setIfInBounds i true) (a.put oi.dst v) w → wpY P md ops Q T E (f + 1) listed a w := by
  intro f
  induction f with
  | zero =>
    intro listed a w _ hr hy H
    refine ⟨fun h => (by rw [h] at hr; cases hr), fun j hj => ?_⟩
    by_cases hji : j = i
    · subst hji; exact hy.wpOp hi (hrefl w) ⟨hTrefl j w, H⟩
    · have h1 := ready_mono hj hji
      rw [H.1] at h1
      cases h1
  | succ f ih =>
    intro listed a w hfree hr hy H
    refine ⟨fun h => (by rw [h] at hr; cases hr), fun j hj => ?_⟩
    by_cases hji : j = i
    · subst hji; exact hy.wpOp hi (hrefl w) ⟨hTrefl j w, H⟩
    · have h1 := H.2 j (ready_mono hj hji)
      obtain ⟨hjun, oj, hoj, hall⟩ := mem_ready.1 hj
      have hnot : ∀ e ∈ oj.after, Region.binds md e = true → e.on ≠ i := fun e he hb heq => by
        have h1 := hall e he hb
        rw [heq, getD_both (mem_ready.1 hr).1] at h1
        cases h1
      have h2 := wpOp_putIf hoj (hfree j oj hoj hji hjun hnot) (fun cs b => hsel i oi cs b hi) (fun cs b => hsel j oj cs b hoj) (fun c a w => hQ c a _ _ w) hy h1
      have hfree' : ∀ k ok, ops[k]? = some ok → k ≠ i → (listed.setIfInBounds j true).getD k true = false →
          (∀ e ∈ ok.after, Region.binds md e = true → e.on ≠ i) → oi.apart ops ok = true := fun k ok hk hki hun hno => by
        refine hfree k ok hk hki ?_ hno
        by_cases hjk : j = k
        · subst hjk; exact hjun
        · rw [getD_set_ne true hjk] at hun; exact hun
      refine wpOp_mono (fun a' w' h3 => ⟨h3.2.1, ih (listed.setIfInBounds j true) a' w' hfree' (ready_mono hr (Ne.symm hji)) (yieldsIf_mono h3.1 fun w2 h => htrans _ _ _ (hTR j oj hoj hji hnot _ _ h3.2.1) h) ?_⟩) h2
      rw [Array.setIfInBounds_comm _ _ hji]
      exact h3.2.2

def okD (md : Region.Mode) (ops : Array Oper) (late loud : List Nat) (first : Bool) (k : Array Bool → Bool) : List Nat → Array Bool → Bool
  | [], listed => k listed
  | i :: rest, listed => decide (i < ops.size) && (Region.ready md ops listed).contains i && (if loud.contains i then decide (Region.ready md ops listed = [i]) && (late.contains i == !first) else Region.free md ops listed i && (!first || late.all fun j => Region.waitsFor md ops j i)) &&
      okD md ops late loud first k rest (listed.setIfInBounds i true)

theorem wpY_of_D {late loud : List Nat} {E : Act → World → Prop} (hsel : ∀ (j : Nat) (o : Oper) cs b, ops[j]? = some o → o.op ≠ .select cs b)
    (hQ : ∀ c a d v w, Q (.panic c) (a.put d v) w → Q (.panic c) a w) (first : Bool) {S : World → World → Prop} (hS : S = if first then S1 else S2) (hr1 : ∀ w, S1 w w) (hr2 : ∀ w, S2 w w) (hrefl : ∀ w, S w w) (htrans : ∀ a b c, S a b → S b c → S a c) (h12 : ∀ a b, S1 a b → S2 a b)
    {g : Nat} {k : Array Bool → Bool} {K : Act → World → Prop} (hk : ∀ listed a w, k listed = true → K a w → wpY P md ops Q (fun j w w' => if late.contains j = true then S2 w w' else S1 w w') E g listed a w) :
    ∀ (order : List Nat) (listed : Array Bool) (a : Act) (w : World), okD md ops late loud first k order listed = true → wpC P ops Q S loud K order a w →
      wpY P md ops Q (fun j w w' => if late.contains j = true then S2 w w' else S1 w w') E (order.length + g) listed a w
  | [], listed, a, w, hok, h => by
    rw [List.length_nil, Nat.zero_add]
    exact hk _ _ _ hok h
  | i :: rest, listed, a, w, hok, h => by
    simp only [okD, Bool.and_eq_true, decide_eq_true_eq] at hok
    obtain ⟨⟨⟨hin, hr⟩, hc⟩, hok'⟩ := hok
    have hr' : i ∈ Region.ready md ops listed := by simpa using hr
    rw [List.length_cons, Nat.add_right_comm]
    unfold wpC at h
    cases hi : ops[i]? with
    | none => simp only [hi] at h
    | some oi =>
      simp only [hi] at h
      by_cases hl : loud.contains i = true
      · rw [if_pos hl] at h hc
        simp only [Bool.and_eq_true, decide_eq_true_eq, beq_iff_eq] at hc
        obtain ⟨hone, hlate⟩ := hc
        refine ⟨fun e => (by rw [e] at hr'; cases hr'), fun j hj => ?_⟩
        obtain rfl : j = i := by rw [hone] at hj; simpa using hj
        refine wpOp_mono (fun a' w' h' => ⟨?_, wpY_of_D hsel hQ first hS hr1 hr2 hrefl htrans h12 hk rest _ a' w' hok' h'.2⟩) h
        have h1 := h'.1
        rw [hS] at h1
        dsimp only
        rw [hlate]
        cases first
        · exact h1
        · exact h1
      · rw [if_neg hl] at h hc
        simp only [Bool.and_eq_true, Bool.or_eq_true, List.all_eq_true] at hc
        obtain ⟨hfr, hlt⟩ := hc
        obtain ⟨v, hy, hrest⟩ := h
        refine wpY_first (R := S) hi hsel hQ (fun j w => ?_) hrefl htrans (fun j oj hoj hji hno u u' hT => ?_) (rest.length + g) listed a w (Region.free_spec hi hfr) hr' hy
          (wpY_of_D hsel hQ first hS hr1 hr2 hrefl htrans h12 hk rest _ _ w hok' hrest)
        · split
          · exact hr2 w
          · exact hr1 w
        · rw [hS]
          by_cases hj : late.contains j = true
          · rw [if_pos hj] at hT
            cases first
            · exact hT
            · exfalso
              rcases hlt with h1 | h1
              · simp at h1
              · obtain ⟨oj', hoj', e, he, hb, hon⟩ := Region.waitsFor_spec (h1 j (by simpa using hj))
                obtain rfl := Option.some.inj (hoj'.symm.trans hoj)
                exact hno e he hb hon
          · rw [if_neg hj] at hT
            cases first
            · exact h12 _ _ hT
            · exact hT

/-- the parts, written out -/
def wpPh (P : Program) (l : List Oper) (Q : Exit → Act → World → Prop) (S1 S2 : World → World → Prop) (loud : List Nat) (E : Act → World → Prop) : List (Bool × List Nat) → Act → World → Prop
  | [], a, w => E a w
  | (true, order) :: rest, a, w => wpL P l.toArray Q S1 (fun a' w' => wpPh P l Q S1 S2 loud E rest a' w') (order.map fun i => (loud.contains i, l.getD i default)) a w
  | (false, order) :: rest, a, w => wpL P l.toArray Q S2 (fun a' w' => wpPh P l Q S1 S2 loud E rest a' w') (order.map fun i => (loud.contains i, l.getD i default)) a w
def okPh (ops : Array Oper) (late loud : List Nat) : List (Bool × List Nat) → Array Bool → Bool
  | [], listed => decide (Region.ready .any ops listed = [])
  | (f, order) :: rest, listed => order.all (fun i => decide (i < ops.size)) && okD .any ops late loud f (okPh ops late loud rest) order listed
def lenPh : List (Bool × List Nat) → Nat
  | [] => 0
  | (_, order) :: rest => order.length + lenPh rest
/-- the checks on a region -/
def canD (ops : Array Oper) (late loud : List Nat) (ph : List (Bool × List Nat)) : Bool :=
  Region.noSelect ops && decide (lenPh ph = ops.size) && okPh ops late loud ph (Array.replicate ops.size false)

theorem wpY_of_Ph {l : List Oper} {late loud : List Nat} {E : Act → World → Prop} (hsel : ∀ (j : Nat) (o : Oper) cs b, l.toArray[j]? = some o → o.op ≠ .select cs b)
    (hQ : ∀ c a d v w, Q (.panic c) (a.put d v) w → Q (.panic c) a w) (hr1 : ∀ w, S1 w w) (ht1 : ∀ a b c, S1 a b → S1 b c → S1 a c) (hr2 : ∀ w, S2 w w) (ht2 : ∀ a b c, S2 a b → S2 b c → S2 a c) (h12 : ∀ a b, S1 a b → S2 a b) :
    ∀ (ph : List (Bool × List Nat)) (listed : Array Bool) (a : Act) (w : World), okPh l.toArray late loud ph listed = true → wpPh P l Q S1 S2 loud E ph a w →
      wpY P .any l.toArray Q (fun j w w' => if late.contains j = true then S2 w w' else S1 w w') E (lenPh ph) listed a w
  | [], listed, a, w, hok, h => ⟨by simpa [okPh] using hok, h⟩
  | (f, order) :: rest, listed, a, w, hok, h => by
    simp only [okPh, Bool.and_eq_true, List.all_eq_true, decide_eq_true_eq] at hok
    obtain ⟨hin, hok⟩ := hok
    have hs : l.toArray.size = l.length := by simp
    have hin' : ∀ i ∈ order, i < l.length := fun i hi => by have := hin i hi; omega
    cases f
    · exact wpY_of_D (S := S2) hsel hQ false rfl hr1 hr2 hr2 ht2 h12 (fun listed a w hk hK => wpY_of_Ph hsel hQ hr1 ht1 hr2 ht2 h12 rest listed a w hk hK) order listed a w hok (wpC_of_L order a w hin' h)
    · exact wpY_of_D (S := S1) hsel hQ true rfl hr1 hr2 hr1 ht1 h12 (fun listed a w hk hK => wpY_of_Ph hsel hQ hr1 ht1 hr2 ht2 h12 rest listed a w hk hK) order listed a w hok (wpC_of_L order a w hin' h)

/-- all operations of the region in parts; those marked 'true' look at memory, and what is late waits for them -/
theorem wp_region_late {id : Nat} {a : Act} {w : World} {l : List Oper} (late loud : List Nat) (ph : List (Bool × List Nat)) (S1 S2 : World → World → Prop) (hr1 : ∀ w, S1 w w) (ht1 : ∀ a b c, S1 a b → S1 b c → S1 a c) (hr2 : ∀ w, S2 w w) (ht2 : ∀ a b c, S2 a b → S2 b c → S2 a c) (h12 : ∀ a b, S1 a b → S2 a b)
    (hm : P.follows .mixedOrders = true) (hB : canD l.toArray late loud ph = true)
    (h : wpPh P l (OnlyOn Q) S1 S2 loud (Q .normal) ph a w.drew) : (Code.region id l.toArray true).wp P Q a w := by
  simp only [canD, Bool.and_eq_true, decide_eq_true_eq] at hB
  obtain ⟨⟨hsel, hlen⟩, hok⟩ := hB
  have H := wpY_of_Ph (Region.noSelect_spec hsel) (fun _ _ _ _ _ h => h) hr1 ht1 hr2 ht2 h12 ph _ a w.drew hok h
  refine Code.wp_mono OnlyOn.imp (wp_region_any hm ?_)
  have H2 := wpAny_of_Y (Q := OnlyOn Q) (fun a w hE => hE) _ _ _ _ H
  rw [hlen] at H2
  exact H2
end
end Go.Proofs.Ytjiipmalahhcpaa
/- frame: own: the rows of one queue are cloned. -/
namespace Go.Proofs.Ytjiipmalahhcpaa
set_option linter.unusedVariables false
open Go.RowKit

set_option maxRecDepth 1000000 in
theorem fr85 (y : Nat → Value) : fr 85 y = #[y 0, y 1, y 2, y 3, y 4, y 5, y 6, y 7, y 8, y 9, y 10, y 11, y 12, y 13, y 14, y 15, y 16, y 17, y 18, y 19, y 20, y 21, y 22, y 23, y 24, y 25, y 26, y 27, y 28, y 29, y 30, y 31, y 32, y 33, y 34, y 35, y 36, y 37, y 38, y 39, y 40, y 41, y 42, y 43, y 44, y 45, y 46, y 47, y 48, y 49, y 50, y 51, y 52, y 53, y 54, y 55, y 56, y 57, y 58, y 59, y 60, y 61, y 62, y 63, y 64, y 65, y 66, y 67, y 68, y 69, y 70, y 71, y 72, y 73, y 74, y 75, y 76, y 77, y 78, y 79, y 80, y 81, y 82, y 83, y 84] := rfl
def conts (R : List RB) : List (List Nat) := R.map (·.2)
theorem conts_set (R : List RB) (k : Nat) (r : RB) (h : R[k]?.map (·.2) = some r.2) : conts (R.set k r) = conts R := by
  unfold conts
  rw [List.map_set]
  apply List.ext_getElem?
  intro j
  rw [List.getElem?_set]
  by_cases e : k = j
  · subst e
    rw [if_pos rfl]
    have hl : k < R.length := by
      rcases Nat.lt_or_ge k R.length with h1 | h1
      · exact h1
      · rw [List.getElem?_eq_none h1] at h; cases h
    rw [if_pos (by rw [List.length_map]; exact hl), List.getElem?_map, h]
  · rw [if_neg e]
theorem rcs_set (R : List RB) (k : Nat) (r : RB) : (rcs R).set k (.slice r.1.1 r.1.2.1 r.1.2.2) = rcs (R.set k r) := by
  unfold rcs
  rw [List.map_set]
structure SO (y : Nat → Value) (P1 P2 qb i : Nat) : Prop where
  s1 : y 1 = .pointer (some ⟨P1, 0, none⟩)
  s2 : y 2 = .pointer (some ⟨P2, 0, none⟩)
  s5 : y 5 = .pointer (some ⟨qb, i * 3, none⟩)
def KI (w0 W1 : World) (B P1 P2 qb i : Nat) (s38 : Value) (pa : Option Addr) (pn pc : Nat) (R : List RB) (y : Nat → Value) (W : World) : Prop :=
  ∃ (k : Nat) (R' : List RB), k ≤ pn ∧ SO y P1 P2 qb i ∧ y 38 = s38 ∧ y 39 = .int .i64 (i : Int) ∧ y 64 = .int .i64 (pn : Int) ∧ y 65 = .int .i64 (k : Int) ∧ W.ownsRow B 33 1 (.slice pa pn pc) pn (rcs R') ∧ conts R' = conts R ∧ R'.length = R.length ∧
    (∀ j, k ≤ j → R'[j]? = R[j]?) ∧ (∀ j r, j < k → R'[j]? = some r → RdT 5 W r.1.1 r.1.2.1 r.1.2.2 (vb r.2)) ∧ W1.grownBy W (Value.slice pa pn pc).ownBlock
set_option maxRecDepth 1000000 in
set_option maxHeartbeats 4000000 in
theorem own_in (w0 W1 : World) (B P1 P2 qb i n38 : Nat) (pa : Option Addr) (pn pc : Nat) (R : List RB) (q1 : Nat → QS) (hi : i < 7) (hpn : pn ≤ 200) (hB : B = w0.heap.size) (hb : Below w0.heap.size w0 W1) (hq : QB7 W1 qb q1) (hq1 : (q1 i).pa = pa ∧ (q1 i).pn = pn ∧ (q1 i).pc = pc)
    (ho : W1.ownsRow B 33 1 (.slice pa pn pc) pn (rcs R)) (hR : ∀ r ∈ R, RdT 5 w0 r.1.1 r.1.2.1 r.1.2.2 (vb r.2)) (hlen : ∀ r ∈ R, r.2.length ≤ 100000) :
    Tri Try.prog 85 (pieceOf Try.f18 [1, 1, 1, 0, 1, 0, 0, 1, 1, 0, 0, 1, 1, 1, 1, 1]) (fun y w => SO y P1 P2 qb i ∧ y 38 = .int .i64 (n38 : Int) ∧ y 39 = .int .i64 (i : Int) ∧ y 64 = .int .i64 (pn : Int) ∧ y 65 = .int .i64 0 ∧ w = W1)
      (fun _ _ y w => SO y P1 P2 qb i ∧ y 38 = .int .i64 (n38 : Int) ∧ y 39 = .int .i64 (i : Int) ∧ ∃ R', w.ownsRow B 33 1 (.slice pa pn pc) pn (rcs R') ∧ conts R' = conts R ∧ (∀ r ∈ R', RdT 5 w r.1.1 r.1.2.1 r.1.2.2 (vb r.2)) ∧ W1.grownBy w (Value.slice pa pn pc).ownBlock) := by
  rintro Q y w ⟨⟨s1, s2, s5⟩, s38, s39, s64, s65, rfl⟩ hQ
  have HQ := hid hQ
  have HB0 := hid hb
  have HQ7 := hid hq
  have HO := hid ho
  have HR := hid hR
  have HBe := hid hB
  have HL := hid hlen
  have hRl : R.length = pn := by have := ho.1; rw [rcs_len, Nat.mul_one] at this; exact this
  have HRl := hid hRl
  obtain ⟨q1a, q1b, q1c⟩ := hq1
  have Hq1 := hid (And.intro q1a (And.intro q1b q1c))
  clear hQ hb hq ho hR hB hRl hlen q1a q1b q1c
  conv => arg 2; whnf
  rw [fr85]
  simp only [s1, s2, s5, s38, s39, s64, s65]
  clear s1 s2 s5 s38 s39 s64 s65
  refine wp_block ?_
  refine wp_loop_fr 85 (KI w0 w B P1 P2 qb i (.int .i64 (n38 : Int)) pa pn pc R) (fun y' _ => pn - (intOf (y' 65)).toNat) ⟨rfl, rfl, 0, R, Nat.zero_le _, ⟨rfl, rfl, rfl⟩, rfl, rfl, rfl, rfl, HO.out, rfl, rfl, fun _ _ => rfl, fun j r h => absurd h (Nat.not_lt_zero j), World.grownBy.refl _ _⟩ ?_
  rintro z W ⟨k, R', hk, ⟨s1, s2, s5⟩, s38, s39, s64, s65, ho, hco, hln, hge, hlt', hg⟩
  have HO' := hid ho
  have HCo := hid hco
  have HLn := hid hln
  have HGe := hid hge
  have HLt := hid hlt'
  have HG := hid hg
  clear ho hco hln hge hlt' hg
  rw [fr85]
  simp only [s1, s2, s5, s38, s39, s64, s65]
  clear s1 s2 s5 s38 s39 s64 s65
  by_cases hlt : k < pn
  · have d1 : decide ((k : Int) < (pn : Int)) = true := decide_eq_true (by omega)
    have d2 : decide (k < pn) = true := decide_eq_true hlt
    obtain ⟨g, hpa⟩ := own_addr HO'.out (by omega)
    subst hpa
    have hRl := HRl.out
    have hgW : w.grownBy W (some g) := HG.out
    obtain ⟨_, hgl⟩ := HO'.out.lt g rfl
    have hgB := (HO'.out.lt g rfl).1
    have hR'k : R'[k]? = some (R[k]'(by omega)) := by rw [HGe.out k (Nat.le_refl _), List.getElem?_eq_getElem (by omega)]
    have hmem : R[k]'(by omega) ∈ R := List.getElem_mem _
    have hrd := HR.out _ hmem
    have hll := HL.out _ hmem
    have hlb : R.length = R'.length := HLn.out.symm
    obtain ⟨x, hx⟩ : ∃ x, x = R[k]'(by omega) := ⟨_, rfl⟩
    rw [← hx] at hR'k hrd hll
    clear hx hmem
    obtain ⟨⟨ra, rn, rc⟩, bs⟩ := x
    dsimp only at hrd hll
    have hrn : rn ≤ 100000 := by have := hrd.rd.len; rw [vb_len] at this; omega
    have cg : W.cell? ⟨g, k, none⟩ = some (.slice ra rn rc) := by
      rw [HO'.out.cellAt k (by omega), rcs_get R' k (by omega)]
      have := List.getElem?_eq_some_iff.1 hR'k
      obtain ⟨h1, h2⟩ := this
      rw [h2]
    have hqg : qb ≠ g := fun e => by
      obtain ⟨cs, h1, _⟩ := HQ7.out.ex
      rw [e] at h1
      rcases own_ne HO.out h1 (by decide) with h2 | h2
      · simp [Value.ownBlock] at h2
      · exact h2 rfl
    have hq7 : QB7 W qb q1 := HQ7.out.kept hgW (fun e => by cases e; exact hqg rfl)
    have c1 := (hq7.cell i hi).2.1
    have hqa := Hq1.out
    rw [hqa.1, hqa.2.1, hqa.2.2] at c1
    clear hqa
    have hql := hq7.lt
    have hd : Below W.heap.size W W.drew := (Below.refl _ W).drew
    have e1 : ∀ w', Below W.heap.size W.drew w' → w'.cell? ⟨qb, i * 3 + 1, none⟩ = some (.slice (some ⟨g, 0, none⟩) pn pc) := fun w' hw => ((hd.trans hw).cell (p := ⟨qb, i * 3 + 1, none⟩) hql).trans c1
    have e2 : ∀ w', Below W.heap.size W.drew w' → w'.cell? ⟨g, k, none⟩ = some (.slice ra rn rc) := fun w' hw => ((hd.trans hw).cell (p := ⟨g, k, none⟩) hgl).trans cg
    have hB0W : Below w0.heap.size w0 W := HB0.out.grown hgW HB0.out.size (fun j e => by cases e; rw [← HBe.out]; exact hgB)
    have hcl := hid (fun w' (hw : Below W.heap.size W.drew w') => clone_any ra rn rc bs w' (hrd.rd.below (hB0W.trans ((hd.trans hw).mono hB0W.size))) (by omega))
    obtain ⟨_, cc, hv, hle, hmx, _⟩ := own_form HO'.out
    have hcc : cc = pc := by cases hv; rfl
    rw [hcc] at hle hmx
    unfold maxLen at hmx
    have HOd := hid (ownsRow_below HO'.out hd)
    have HN : Hid (∀ (V : World) (ao' : Option Addr) (c' : Nat), Below W.heap.size W.drew V → V.ownsRow W.heap.size 5 1 (.slice ao' rn c') rn (vb bs) →
        V.cell? ⟨g, k, none⟩ = some (.slice ra rn rc) ∧ V.frozen? ⟨g, k, none⟩ = false ∧
        ∃ R'' : List RB, (V.setCell ⟨g, k, none⟩ (.slice ao' rn c')).ownsRow B 33 1 (.slice (some ⟨g, 0, none⟩) pn pc) pn (rcs R'') ∧ conts R'' = conts R ∧ R''.length = R.length ∧ (∀ j, k + 1 ≤ j → R''[j]? = R[j]?) ∧
          (∀ j r, j < k + 1 → R''[j]? = some r → RdT 5 (V.setCell ⟨g, k, none⟩ (.slice ao' rn c')) r.1.1 r.1.2.1 r.1.2.2 (vb r.2)) ∧ w.grownBy (V.setCell ⟨g, k, none⟩ (.slice ao' rn c')) (Value.slice (some ⟨g, 0, none⟩) pn pc).ownBlock) := fun V ao' c' hV hc5 => by
      have hoV := ownsRow_below HOd.out hV
      obtain ⟨hs1, hs2⟩ := hoV.stored k (.slice ao' rn c')
      have hgr : ∃ cs : Array Value, V.heap[g]? = some (.cells cs 33) := by
        rcases hoV.2 with ⟨h1, _⟩ | ⟨g', cap', cur, h1, _, h3, _⟩
        · cases h1
        · cases h1; exact ⟨cur, h3⟩
      obtain ⟨csg, hgr⟩ := hgr
      refine ⟨e2 V hV, hoV.frozenAt k, R'.set k ((ao', rn, c'), bs), ?_, ?_, ?_, ?_, ?_, ?_⟩
      · rw [← rcs_set]; exact hs1
      · rw [conts_set R' k ((ao', rn, c'), bs) (by rw [hR'k]; rfl)]; exact HCo.out
      · rw [List.length_set]; exact HLn.out
      · intro j hj
        rw [List.getElem?_set_ne (by omega)]
        exact HGe.out j (by omega)
      · intro j r hj hr
        by_cases e : j = k
        · subst e
          rw [List.getElem?_set_self (by omega)] at hr
          cases hr
          exact (RdT.ofOwn hc5).other hs2 hgr (by decide)
        · rw [List.getElem?_set_ne (fun h => e h.symm)] at hr
          exact ((HLt.out j r (by omega) hr).below (hd.trans hV)).other hs2 hgr (by decide)
      · exact grownBy_trans hgW (grownBy_trans (grownBy_of_below (hd.trans hV) _) hs2)
    clear hR'k hrd cg hq7 c1 hd hB0W hv hcc hlb
    go_upto_block 3 with (fail)
    refine wp_block ?_
    refine wp_seq_k (fun K1 hK1 => ?_)
    go_wp2_with fail
    refine hK1.out _ _ ?_
    refine wp_region_late [14] [12, 14] [(true, [0, 1, 2, 3, 4, 5, 6, 7, 8, 9, 10, 11, 12, 13]), (false, [14])] (Below W.heap.size) (fun _ _ => True) (fun _ => Below.refl _ _) (fun _ _ _ h k => h.trans k) (fun _ => trivial) (fun _ _ _ _ _ => trivial) (fun _ _ _ => trivial) (by kernel_rfl) (by kernel_rfl) ?_
    simp only [wpPh, List.map_cons, List.map_nil, List.contains_cons, List.contains_nil, List.getD_cons_zero, List.getD_cons_succ, Nat.reduceBEq, Bool.or_false, Bool.or_true]
    have hDs : Hid (W.drew.heap.size = W.heap.size) := rfl
    generalize W.drew = U at *
    iterate 12 (refine wpL_do rfl (fun w' hw' => (by go_simp; rfl)) ?_; simp only [Act.put, List.setIfInBounds_toArray, List.set_cons_succ, List.set_cons_zero])
    refine wpL_call rfl (fun K hK => ?_)
    go_wp2_with fail
    refine (hcl.out U (Below.refl _ _)).mono ?_
    rintro e V ⟨ao', c', rfl, ho5, hbV⟩
    obtain ⟨cgV, fgV, R2, r1, r2, r3, r4, r5, r6⟩ := HN.out V ao' c' (hbV.mono (Nat.le_of_eq hDs.out.symm)) (by rw [← hDs.out]; exact ho5)
    have HR1 := hid r1
    have HR2 := hid r2
    have HR3 := hid r3
    have HR4 := hid r4
    have HR5 := hid r5
    have HR6 := hid r6
    have HbV := hid (hbV.mono (Nat.le_of_eq hDs.out.symm))
    clear r1 r2 r3 r4 r5 r6 ho5 hbV hcl HN
    refine hK _ _ HbV.out ?_
    clear hK K e1 e2
    try simp only [Act.put, List.setIfInBounds_toArray, List.set_cons_succ, List.set_cons_zero]
    refine wpL_do rfl (fun w' hw' => (by go_simp; rfl)) ?_
    simp only [Act.put, List.setIfInBounds_toArray, List.set_cons_succ, List.set_cons_zero]
    refine wpL_nil ?_
    refine wpL_call rfl (fun K hK => ?_)
    go_wp2_with fail
    refine hK _ _ trivial ?_
    clear hK K cgV fgV
    try simp only [Act.put, List.setIfInBounds_toArray, List.set_cons_succ, List.set_cons_zero]
    refine wpL_nil ?_
    go_wp2_with fail
    refine ⟨rfl, rfl, ⟨k + 1, R2, by omega, ⟨rfl, rfl, rfl⟩, rfl, rfl, rfl, ?_, HR1.out, HR2.out, HR3.out, HR4.out, HR5.out, HR6.out⟩, ?_⟩
    · show Value.int .i64 _ = Value.int .i64 _
      go_num
    · show pn - (intOf (Value.int .i64 _)).toNat < _
      simp [intOf]
      omega
  · obtain rfl : k = pn := by omega
    have d1 : decide ((k : Int) < (k : Int)) = false := decide_eq_false (by omega)
    have HE : Hid (∀ r ∈ R', RdT 5 W r.1.1 r.1.2.1 r.1.2.2 (vb r.2)) := fun r hr => by
      obtain ⟨j, hj, rfl⟩ := List.getElem_of_mem hr
      exact HLt.out j _ (by rw [← HRl.out, ← HLn.out]; exact hj) (List.getElem?_eq_getElem hj)
    go_wp2_with fail
    exact q_fr (N := 85) HQ.out rfl ⟨⟨rfl, rfl, rfl⟩, rfl, rfl, R', HO'.out, HCo.out, HE.out, HG.out⟩
end Go.Proofs.Ytjiipmalahhcpaa
/- frame: own: the loop over the queues. -/
namespace Go.Proofs.Ytjiipmalahhcpaa
set_option linter.unusedVariables false
open Go.RowKit

/-- a queue whose row of packets is one's own, beside the queue it was made of -/
structure OwnQ (W : World) (B : Nat) (q' q : QS) : Prop where
  o : W.ownsRow B 33 1 (.slice q'.pa q'.pn q'.pc) q'.pn (rcs q'.R)
  c : conts q'.R = conts q.R
  w : q'.own = q.own
  g : q'.gone = q.gone
  r : ∀ r ∈ q'.R, RdT 5 W r.1.1 r.1.2.1 r.1.2.2 (vb r.2)
theorem OwnQ.below {W W' : World} {B : Nat} {q' q : QS} (h : OwnQ W B q' q) (hb : Below W.heap.size W W') : OwnQ W' B q' q := ⟨ownsRow_below h.o hb, h.c, h.w, h.g, fun r hr => (h.r r hr).below hb⟩
theorem OwnQ.kept {W W' : World} {B : Nat} {q' q : QS} {row : Option Nat} (h : OwnQ W B q' q) (hg : W.grownBy W' row) (hne : (Value.slice q'.pa q'.pn q'.pc).ownBlock = none ∨ (Value.slice q'.pa q'.pn q'.pc).ownBlock ≠ row) (h5 : ∀ b cs, W.heap[b]? = some (.cells cs 5) → row ≠ some b) : OwnQ W' B q' q :=
  ⟨h.o.kept hg hne, h.c, h.w, h.g, fun r hr => (h.r r hr).kept hg h5⟩
theorem ne_type {W : World} {k T T' : Nat} {cs : Array Value} (hk : W.heap[k]? = some (.cells cs T)) (hT : T ≠ T') : ∀ b cs', W.heap[b]? = some (.cells cs' T') → some k ≠ some b := fun b cs' hb e => by
  cases e
  rw [hk] at hb
  injection hb with h1
  injection h1 with h2 h3
  exact hT h3
theorem own_ne5 {W : World} {B n T : Nat} {v : Value} {xs : List Value} (h : W.ownsRow B 33 1 v n xs) (hT : 33 ≠ T) : ∀ b cs, W.heap[b]? = some (.cells cs T) → v.ownBlock ≠ some b := fun b cs hb e => by
  rcases own_ne h hb hT with h1 | h1
  · rw [h1] at e; cases e
  · exact h1 e
theorem QB7.congrC {W : World} {qb : Nat} {q q' : Nat → QS} (h : QB7 W qb q) (e : ∀ c, c < 7 → (q c).own = (q' c).own ∧ (q c).pa = (q' c).pa ∧ (q c).pn = (q' c).pn ∧ (q c).pc = (q' c).pc ∧ (q c).gone = (q' c).gone) : QB7 W qb q' := by
  obtain ⟨cs, h1, h2, h3⟩ := h.ex
  refine ⟨cs, h1, h2, fun j hj => ?_⟩
  rw [h3 j hj]
  obtain ⟨e1, e2, e3, e4, e5⟩ := e (j / 3) (by omega)
  unfold qcell
  rw [e1, e2, e3, e4, e5]
/-- how far it is -/
structure OM (w0 W : World) (P1 P2 qb qc i : Nat) (c0 c1 c2 c3 : Value) (q q' : Nat → QS) : Prop where
  p1 : W.heap[P1]? = some (.cells #[c0, c1, c2, c3, .slice (some ⟨qb, 0, none⟩) 7 qc] 26)
  p2 : ∃ cs : Array Value, W.heap[P2]? = some (.cells cs 26) ∧ cs.size = 5
  n12 : P1 ≠ P2
  qr : QB7 W qb (fun c => if c < i then q' c else q c)
  oq : ∀ c, c < i → OwnQ W w0.heap.size (q' c) (q c)
  dis : ∀ a b, a < i → b < i → a ≠ b → ∀ k, (Value.slice (q' a).pa (q' a).pn (q' a).pc).ownBlock = some k → (Value.slice (q' b).pa (q' b).pn (q' b).pc).ownBlock ≠ some k
  blw : Below w0.heap.size w0 W
  b1 : w0.heap.size ≤ P1
  b2 : w0.heap.size ≤ P2
  b3 : w0.heap.size ≤ qb
theorem OM.below {w0 W W' : World} {P1 P2 qb qc i : Nat} {c0 c1 c2 c3 : Value} {q q' : Nat → QS} (h : OM w0 W P1 P2 qb qc i c0 c1 c2 c3 q q') (hb : Below W.heap.size W W') : OM w0 W' P1 P2 qb qc i c0 c1 c2 c3 q q' := by
  obtain ⟨cs, h2, h3⟩ := h.p2
  exact ⟨row_below h.p1 hb, ⟨cs, row_below h2 hb, h3⟩, h.n12, h.qr.below hb, fun c hc => (h.oq c hc).below hb, h.dis, h.blw.trans (hb.mono h.blw.size), h.b1, h.b2, h.b3⟩
/-- the queue's field is stored to -/
def putP (q q' : Nat → QS) (i : Nat) (ao : Option Addr) (c : Nat) : Nat → QS := fun x => if x < i then q' x else if x = i then ⟨(q i).own, ao, (q i).pn, c, (q i).R, (q i).gone⟩ else q x
structure OM1 (w0 W : World) (P1 P2 qb qc i : Nat) (c0 c1 c2 c3 : Value) (q q' : Nat → QS) (ao : Option Addr) (c : Nat) : Prop where
  p1 : W.heap[P1]? = some (.cells #[c0, c1, c2, c3, .slice (some ⟨qb, 0, none⟩) 7 qc] 26)
  p2 : ∃ cs : Array Value, W.heap[P2]? = some (.cells cs 26) ∧ cs.size = 5
  n12 : P1 ≠ P2
  qr : QB7 W qb (putP q q' i ao c)
  own : W.ownsRow w0.heap.size 33 1 (.slice ao (q i).pn c) (q i).pn (rcs (q i).R)
  oq : ∀ c, c < i → OwnQ W w0.heap.size (q' c) (q c)
  dis : ∀ a b, a < i → b < i → a ≠ b → ∀ k, (Value.slice (q' a).pa (q' a).pn (q' a).pc).ownBlock = some k → (Value.slice (q' b).pa (q' b).pn (q' b).pc).ownBlock ≠ some k
  new : ∀ a, a < i → ∀ k, (Value.slice (q' a).pa (q' a).pn (q' a).pc).ownBlock = some k → (Value.slice ao (q i).pn c).ownBlock ≠ some k
  blw : Below w0.heap.size w0 W
  b1 : w0.heap.size ≤ P1
  b2 : w0.heap.size ≤ P2
  b3 : w0.heap.size ≤ qb
theorem OM.store {w0 W W1 : World} {P1 P2 qb qc i : Nat} {c0 c1 c2 c3 : Value} {q q' : Nat → QS} {ao : Option Addr} {c : Nat} (h : OM w0 W P1 P2 qb qc i c0 c1 c2 c3 q q') (hi : i < 7) (hb : Below W.heap.size W W1) (ho : W1.ownsRow W.heap.size 33 1 (.slice ao (q i).pn c) (q i).pn (rcs (q i).R)) :
    OM1 w0 (W1.setCell ⟨qb, i * 3 + 1, none⟩ (.slice ao (q i).pn c)) P1 P2 qb qc i c0 c1 c2 c3 q q' ao c := by
  have h1 := h.below hb
  obtain ⟨hs1, hs2⟩ := h1.qr.set i 1 hi (by omega) (putP q q' i ao c) (.slice ao (q i).pn c) (by
    unfold qcell putP
    rw [if_neg (by omega), if_pos (by omega), show (i * 3 + 1) / 3 = i by omega, if_neg (Nat.lt_irrefl i), if_pos rfl]) (fun j hj hne => by
    unfold qcell putP
    dsimp only
    by_cases e1 : j / 3 < i
    · simp only [if_pos e1]
    · simp only [if_neg e1]
      by_cases e2 : j / 3 = i
      · rw [e2, if_pos rfl]
        by_cases e3 : j % 3 = 0
        · simp only [if_pos e3]
        · simp only [if_neg e3, if_neg (show ¬ j % 3 = 1 by omega)]
      · simp only [if_neg e2])
  obtain ⟨cq, hqr, _⟩ := h1.qr.ex
  obtain ⟨cs, h2, h3⟩ := h1.p2
  have hP1 : P1 ≠ qb := fun e => by
    rw [← e, h1.p1] at hqr
    injection hqr with e1
    injection e1 with e2 e3
    exact absurd e3 (by decide)
  have hP2 : P2 ≠ qb := fun e => by
    rw [← e, h2] at hqr
    injection hqr with e1
    injection e1 with e2 e3
    exact absurd e3 (by decide)
  have hnew : ∀ v : Value, ∀ n xs, W1.ownsRow w0.heap.size 33 1 v n xs → v.ownBlock = none ∨ v.ownBlock ≠ some qb := fun v n xs hv => own_ne hv hqr (by decide)
  refine ⟨row_grown h1.p1 hs2 hP1, ⟨cs, row_grown h2 hs2 hP2, h3⟩, h.n12, hs1, ?_, fun c' hc => (h1.oq c' hc).kept hs2 (hnew _ _ _ (h1.oq c' hc).o) (ne_type hqr (by decide)), h.dis, fun a ha k hk e => ?_, h1.blw.grown hs2 h1.blw.size (fun j e => by cases e; exact h.b3), h.b1, h.b2, h.b3⟩
  · have ho' := ownsRow_mono ho h.blw.size
    exact ho'.kept hs2 (hnew _ _ _ ho')
  · have hk1 := ((h.oq a ha).o.lt k hk).2
    have hk2 := (ho.lt k e).1
    omega
/-- the rows of the queue are cloned, too -/
theorem OM1.next {w0 W W' : World} {P1 P2 qb qc i : Nat} {c0 c1 c2 c3 : Value} {q q' : Nat → QS} {ao : Option Addr} {c : Nat} (h : OM1 w0 W P1 P2 qb qc i c0 c1 c2 c3 q q' ao c) (hi : i < 7) (R' : List RB) (hg : W.grownBy W' (Value.slice ao (q i).pn c).ownBlock)
    (ho : W'.ownsRow w0.heap.size 33 1 (.slice ao (q i).pn c) (q i).pn (rcs R')) (hc : conts R' = conts (q i).R) (hr : ∀ r ∈ R', RdT 5 W' r.1.1 r.1.2.1 r.1.2.2 (vb r.2)) :
    OM w0 W' P1 P2 qb qc (i + 1) c0 c1 c2 c3 q (fun x => if x = i then ⟨(q i).own, ao, (q i).pn, c, R', (q i).gone⟩ else q' x) := by
  obtain ⟨cs, h2, h3⟩ := h.p2
  have hk : ∀ (k : Nat) (cs : Array Value) (T : TypeId), 33 ≠ T → W.heap[k]? = some (.cells cs T) → W'.heap[k]? = some (.cells cs T) := fun k cs T hT hk => (hg.block k (row_lt hk) (fun e => own_ne5 h.own hT k cs hk e.symm)).trans hk
  refine ⟨hk _ _ _ (by decide) h.p1, ⟨cs, hk _ _ _ (by decide) h2, h3⟩, h.n12, ?_, fun x hx => ?_, fun a b ha hb hab k hka => ?_, h.blw.grown hg h.blw.size (fun k hk => (h.own.lt k hk).1), h.b1, h.b2, h.b3⟩
  · obtain ⟨cq, hqr, _⟩ := h.qr.ex
    refine (h.qr.kept hg (fun e => own_ne5 h.own (by decide) qb cq hqr e)).congrC (fun x hx => ?_)
    unfold putP
    by_cases e1 : x < i
    · rw [if_pos e1, if_pos (show x < i + 1 by omega)]
      rw [if_neg (show ¬ x = i by omega)]
      exact ⟨rfl, rfl, rfl, rfl, rfl⟩
    · rw [if_neg e1]
      by_cases e2 : x = i
      · subst e2
        rw [if_pos rfl, if_pos (Nat.lt_succ_self x)]
        rw [if_pos rfl]
        exact ⟨rfl, rfl, rfl, rfl, rfl⟩
      · rw [if_neg e2, if_neg (show ¬ x < i + 1 by omega)]
        exact ⟨rfl, rfl, rfl, rfl, rfl⟩
  · by_cases e : x = i
    · subst e
      rw [if_pos rfl]
      exact ⟨ho, hc, rfl, rfl, hr⟩
    · rw [if_neg e]
      refine (h.oq x (by omega)).kept hg ?_ (fun b cs hb => own_ne5 h.own (by decide) b cs hb)
      rcases e2 : (Value.slice (q' x).pa (q' x).pn (q' x).pc).ownBlock with _ | k
      · exact .inl rfl
      · exact .inr (fun e3 => h.new x (by omega) k e2 e3.symm)
  · by_cases e1 : a = i
    · rw [if_pos e1] at hka
      have e2 : b ≠ i := fun e => hab (e1.trans e.symm)
      rw [if_neg e2]
      exact fun e3 => h.new b (by omega) k e3 hka
    · rw [if_neg e1] at hka
      by_cases e2 : b = i
      · rw [if_pos e2]
        exact h.new a (by omega) k hka
      · rw [if_neg e2]
        exact h.dis a b (by omega) (by omega) hab k hka
end Go.Proofs.Ytjiipmalahhcpaa
