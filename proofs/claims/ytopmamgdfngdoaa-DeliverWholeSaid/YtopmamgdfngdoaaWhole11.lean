/- Regions that draw their order, in two parts that need not be parted in the text: what is loud in the second part waits for all that looks at memory in the first. -/
import Derived.Test.YtopmamgdfngdoaaWhole1
import Derived.Test.YtopmamgdfngdoaaWhole2
import Derived.Deep.MidRow
import Derived.Test.YtopmamgdfngdoaaWhole10
import Derived.Test.YtopmamgdfngdoaaWhole8
namespace Go.Proofs.Ytopmamgdfngdoaa
set_option linter.unusedVariables false
section
variable {P : Program} {ops : Array Oper} {md : Region.Mode} {Q : Exit → Act → World → Prop} {S1 S2 : World → World → Prop}

def wpY (P : Program) (md : Region.Mode) (ops : Array Oper) (Q : Exit → Act → World → Prop) (T : Nat → World → World → Prop) (E : Act → World → Prop) : Nat → Array Bool → Act → World → Prop
  | 0, listed, a, w => Region.ready md ops listed = [] ∧ E a w
  | f + 1, listed, a, w => Region.ready md ops listed ≠ [] ∧
    ∀ i ∈ Region.ready md ops listed, wpOp P ops Q i (fun a' w' => T i w w' ∧ wpY P md ops Q T E f (listed.setIfInBounds i true) a' w') a w

theorem wpAny_of_Y {T : Nat → World → World → Prop} {E : Act → World → Prop} (hE : ∀ a w, E a w → Q .normal a w) :
    ∀ (f : Nat) (listed : Array Bool) (a : Act) (w : World), wpY P md ops Q T E f listed a w → wpAny P md ops Q f listed a w
  | 0, listed, a, w, h => ⟨h.1, hE _ _ h.2⟩
  | f + 1, listed, a, w, h => ⟨fun h0 => absurd h0 h.1, fun i hi => wpOp_mono (fun a' w' h' => wpAny_of_Y hE f _ a' w' h'.2) (h.2 i hi)⟩

theorem wpY_first {T : Nat → World → World → Prop} {R : World → World → Prop} {E : Act → World → Prop} {i : Nat} {oi : Oper} {v : Value} (hi : ops[i]? = some oi) (hsel : ∀ (j : Nat) (o : Oper) cs b, ops[j]? = some o → o.op ≠ .select cs b)
    (hQ : ∀ c a d v w, Q (.panic c) (a.put d v) w → Q (.panic c) a w) (hTrefl : ∀ j w, T j w w) (hrefl : ∀ w, R w w) (htrans : ∀ a b c, R a b → R b c → R a c)
    (hTR : ∀ (j : Nat) (oj : Oper), ops[j]? = some oj → j ≠ i → (∀ e ∈ oj.after, Region.binds md e = true → e.on ≠ i) → ∀ w w', T j w w' → R w w') :
    ∀ (f : Nat) (listed : Array Bool) (a : Act) (w : World),
      (∀ j oj, ops[j]? = some oj → j ≠ i → listed.getD j true = false → (∀ e ∈ oj.after, Region.binds md e = true → e.on ≠ i) → oi.apart ops oj = true) →
      i ∈ Region.ready md ops listed → YieldsIf P ops (R w) oi v a →
      wpY P md ops Q T E f (listed.setIfInBounds i true) (a.put oi.dst v) w → wpY P md ops Q T E (f + 1) listed a w := by
  intro f
  induction f with
  | zero =>
    intro listed a w _ hr hy H
    refine ⟨fun h => (by rw [h] at hr; cases hr), fun j hj => ?_⟩
    by_cases hji : j = i
    · subst hji; exact hy.wpOp hi (hrefl w) ⟨hTrefl j w, H⟩
    · have h1 := ready_mono hj hji
      rw [H.1] at h1
      cases h1
  | succ f ih =>
    intro listed a w hfree hr hy H
    refine ⟨fun h => (by rw [h] at hr; cases hr), fun j hj => ?_⟩
    by_cases hji : j = i
    · subst hji; exact hy.wpOp hi (hrefl w) ⟨hTrefl j w, H⟩
    · have h1 := H.2 j (ready_mono hj hji)
      obtain ⟨hjun, oj, hoj, hall⟩ := mem_ready.1 hj
      have hnot : ∀ e ∈ oj.after, Region.binds md e = true → e.on ≠ i := fun e he hb heq => by
        have h1 := hall e he hb
        rw [heq, getD_both (mem_ready.1 hr).1] at h1
        cases h1
      have h2 := wpOp_putIf hoj (hfree j oj hoj hji hjun hnot) (fun cs b => hsel i oi cs b hi) (fun cs b => hsel j oj cs b hoj) (fun c a w => hQ c a _ _ w) hy h1
      have hfree' : ∀ k ok, ops[k]? = some ok → k ≠ i → (listed.setIfInBounds j true).getD k true = false →
          (∀ e ∈ ok.after, Region.binds md e = true → e.on ≠ i) → oi.apart ops ok = true := fun k ok hk hki hun hno => by
        refine hfree k ok hk hki ?_ hno
        by_cases hjk : j = k
        · subst hjk; exact hjun
        · rw [getD_set_ne true hjk] at hun; exact hun
      refine wpOp_mono (fun a' w' h3 => ⟨h3.2.1, ih (listed.setIfInBounds j true) a' w' hfree' (ready_mono hr (Ne.symm hji)) (yieldsIf_mono h3.1 fun w2 h => htrans _ _ _ (hTR j oj hoj hji hnot _ _ h3.2.1) h) ?_⟩) h2
      rw [Array.setIfInBounds_comm _ _ hji]
      exact h3.2.2

def okD (md : Region.Mode) (ops : Array Oper) (late loud : List Nat) (first : Bool) (k : Array Bool → Bool) : List Nat → Array Bool → Bool
  | [], listed => k listed
  | i :: rest, listed => decide (i < ops.size) && (Region.ready md ops listed).contains i && (if loud.contains i then decide (Region.ready md ops listed = [i]) && (late.contains i == !first) else Region.free md ops listed i && (!first || late.all fun j => Region.waitsFor md ops j i)) &&
      okD md ops late loud first k rest (listed.setIfInBounds i true)

theorem wpY_of_D {late loud : List Nat} {E : Act → World → Prop} (hsel : ∀ (j : Nat) (o : Oper) cs b, ops[j]? = some o → o.op ≠ .select cs b)
    (hQ : ∀ c a d v w, Q (.panic c) (a.put d v) w → Q (.panic c) a w) (first : Bool) {S : World → World → Prop} (hS : S = if first then S1 else S2) (hr1 : ∀ w, S1 w w) (hr2 : ∀ w, S2 w w) (hrefl : ∀ w, S w w) (htrans : ∀ a b c, S a b → S b c → S a c) (h12 : ∀ a b, S1 a b → S2 a b)
    {g : Nat} {k : Array Bool → Bool} {K : Act → World → Prop} (hk : ∀ listed a w, k listed = true → K a w → wpY P md ops Q (fun j w w' => if late.contains j = true then S2 w w' else S1 w w') E g listed a w) :
    ∀ (order : List Nat) (listed : Array Bool) (a : Act) (w : World), okD md ops late loud first k order listed = true → wpC P ops Q S loud K order a w →
      wpY P md ops Q (fun j w w' => if late.contains j = true then S2 w w' else S1 w w') E (order.length + g) listed a w
  | [], listed, a, w, hok, h => by
    rw [List.length_nil, Nat.zero_add]
    exact hk _ _ _ hok h
  | i :: rest, listed, a, w, hok, h => by
    simp only [okD, Bool.and_eq_true, decide_eq_true_eq] at hok
    obtain ⟨⟨⟨hin, hr⟩, hc⟩, hok'⟩ := hok
    have hr' : i ∈ Region.ready md ops listed := by simpa using hr
    rw [List.length_cons, Nat.add_right_comm]
    unfold wpC at h
    cases hi : ops[i]? with
    | none => simp only [hi] at h
    | some oi =>
      simp only [hi] at h
      by_cases hl : loud.contains i = true
      · rw [if_pos hl] at h hc
        simp only [Bool.and_eq_true, decide_eq_true_eq, beq_iff_eq] at hc
        obtain ⟨hone, hlate⟩ := hc
        refine ⟨fun e => (by rw [e] at hr'; cases hr'), fun j hj => ?_⟩
        obtain rfl : j = i := by rw [hone] at hj; simpa using hj
        refine wpOp_mono (fun a' w' h' => ⟨?_, wpY_of_D hsel hQ first hS hr1 hr2 hrefl htrans h12 hk rest _ a' w' hok' h'.2⟩) h
        have h1 := h'.1
        rw [hS] at h1
        dsimp only
        rw [hlate]
        cases first
        · exact h1
        · exact h1
      · rw [if_neg hl] at h hc
        simp only [Bool.and_eq_true, Bool.or_eq_true, List.all_eq_true] at hc
        obtain ⟨hfr, hlt⟩ := hc
        obtain ⟨v, hy, hrest⟩ := h
        refine wpY_first (R := S) hi hsel hQ (fun j w => ?_) hrefl htrans (fun j oj hoj hji hno u u' hT => ?_) (rest.length + g) listed a w (Region.free_spec hi hfr) hr' hy
          (wpY_of_D hsel hQ first hS hr1 hr2 hrefl htrans h12 hk rest _ _ w hok' hrest)
        · split
          · exact hr2 w
          · exact hr1 w
        · rw [hS]
          by_cases hj : late.contains j = true
          · rw [if_pos hj] at hT
            cases first
            · exact hT
            · exfalso
              rcases hlt with h1 | h1
              · simp at h1
              · obtain ⟨oj', hoj', e, he, hb, hon⟩ := Region.waitsFor_spec (h1 j (by simpa using hj))
                obtain rfl := Option.some.inj (hoj'.symm.trans hoj)
                exact hno e he hb hon
          · rw [if_neg hj] at hT
            cases first
            · exact h12 _ _ hT
            · exact hT

/-- the parts, written out -/
def wpPh (P : Program) (l : List Oper) (Q : Exit → Act → World → Prop) (S1 S2 : World → World → Prop) (loud : List Nat) (E : Act → World → Prop) : List (Bool × List Nat) → Act → World → Prop
  | [], a, w => E a w
  | (true, order) :: rest, a, w => wpL P l.toArray Q S1 (fun a' w' => wpPh P l Q S1 S2 loud E rest a' w') (order.map fun i => (loud.contains i, l.getD i default)) a w
  | (false, order) :: rest, a, w => wpL P l.toArray Q S2 (fun a' w' => wpPh P l Q S1 S2 loud E rest a' w') (order.map fun i => (loud.contains i, l.getD i default)) a w
def okPh (ops : Array Oper) (late loud : List Nat) : List (Bool × List Nat) → Array Bool → Bool
  | [], listed => decide (Region.ready .any ops listed = [])
  | (f, order) :: rest, listed => order.all (fun i => decide (i < ops.size)) && okD .any ops late loud f (okPh ops late loud rest) order listed
def lenPh : List (Bool × List Nat) → Nat
  | [] => 0
  | (_, order) :: rest => order.length + lenPh rest
/-- the checks on a region -/
def canD (ops : Array Oper) (late loud : List Nat) (ph : List (Bool × List Nat)) : Bool :=
  Region.noSelect ops && decide (lenPh ph = ops.size) && okPh ops late loud ph (Array.replicate ops.size false)

theorem wpY_of_Ph {l : List Oper} {late loud : List Nat} {E : Act → World → Prop} (hsel : ∀ (j : Nat) (o : Oper) cs b, l.toArray[j]? = some o → o.op ≠ .select cs b)
    (hQ : ∀ c a d v w, Q (.panic c) (a.put d v) w → Q (.panic c) a w) (hr1 : ∀ w, S1 w w) (ht1 : ∀ a b c, S1 a b → S1 b c → S1 a c) (hr2 : ∀ w, S2 w w) (ht2 : ∀ a b c, S2 a b → S2 b c → S2 a c) (h12 : ∀ a b, S1 a b → S2 a b) :
    ∀ (ph : List (Bool × List Nat)) (listed : Array Bool) (a : Act) (w : World), okPh l.toArray late loud ph listed = true → wpPh P l Q S1 S2 loud E ph a w →
      wpY P .any l.toArray Q (fun j w w' => if late.contains j = true then S2 w w' else S1 w w') E (lenPh ph) listed a w
  | [], listed, a, w, hok, h => ⟨by simpa [okPh] using hok, h⟩
  | (f, order) :: rest, listed, a, w, hok, h => by
    simp only [okPh, Bool.and_eq_true, List.all_eq_true, decide_eq_true_eq] at hok
    obtain ⟨hin, hok⟩ := hok
    have hs : l.toArray.size = l.length := by simp
    have hin' : ∀ i ∈ order, i < l.length := fun i hi => by have := hin i hi; omega
    cases f
    · exact wpY_of_D (S := S2) hsel hQ false rfl hr1 hr2 hr2 ht2 h12 (fun listed a w hk hK => wpY_of_Ph hsel hQ hr1 ht1 hr2 ht2 h12 rest listed a w hk hK) order listed a w hok (wpC_of_L order a w hin' h)
    · exact wpY_of_D (S := S1) hsel hQ true rfl hr1 hr2 hr1 ht1 h12 (fun listed a w hk hK => wpY_of_Ph hsel hQ hr1 ht1 hr2 ht2 h12 rest listed a w hk hK) order listed a w hok (wpC_of_L order a w hin' h)

/-- all operations of the region in parts; those marked 'true' look at memory, and what is late waits for them -/
theorem wp_region_late {id : Nat} {a : Act} {w : World} {l : List Oper} (late loud : List Nat) (ph : List (Bool × List Nat)) (S1 S2 : World → World → Prop) (hr1 : ∀ w, S1 w w) (ht1 : ∀ a b c, S1 a b → S1 b c → S1 a c) (hr2 : ∀ w, S2 w w) (ht2 : ∀ a b c, S2 a b → S2 b c → S2 a c) (h12 : ∀ a b, S1 a b → S2 a b)
    (hm : P.follows .mixedOrders = true) (hB : canD l.toArray late loud ph = true)
    (h : wpPh P l (OnlyOn Q) S1 S2 loud (Q .normal) ph a w.drew) : (Code.region id l.toArray true).wp P Q a w := by
  simp only [canD, Bool.and_eq_true, decide_eq_true_eq] at hB
  obtain ⟨⟨hsel, hlen⟩, hok⟩ := hB
  have H := wpY_of_Ph (Region.noSelect_spec hsel) (fun _ _ _ _ _ h => h) hr1 ht1 hr2 ht2 h12 ph _ a w.drew hok h
  refine Code.wp_mono OnlyOn.imp (wp_region_any hm ?_)
  have H2 := wpAny_of_Y (Q := OnlyOn Q) (fun a w hE => hE) _ _ _ _ H
  rw [hlen] at H2
  exact H2
end
end Go.Proofs.Ytopmamgdfngdoaa
/- Several cells in the middle of a block are stored to. -/
namespace Go.Proofs.Ytopmamgdfngdoaa
set_option linter.unusedVariables false
open Go.RowKit

theorem set_cells {b : Nat} {e : TypeId} (z : List Value) : ∀ (vs a m : List Value) (W : World), W.heap[b]? = some (.cells (a ++ (m ++ z)).toArray e) → m.length = vs.length →
    (W.setCells b a.length vs).heap[b]? = some (.cells (a ++ (vs ++ z)).toArray e) ∧ W.grownBy (W.setCells b a.length vs) (some b)
  | [], a, m, W, h, hl => by
    obtain rfl : m = [] := List.eq_nil_of_length_eq_zero (by simpa using hl)
    exact ⟨h, World.grownBy.refl _ _⟩
  | v :: vs, a, [], W, h, hl => by simp at hl
  | v :: vs, a, x :: m, W, h, hl => by
    have h1 := set_row (cs' := (a ++ (v :: m ++ z)).toArray) h a.length v (by
      rw [List.setIfInBounds_toArray, List.set_append_right _ _ (Nat.le_refl _), Nat.sub_self]
      rfl)
    obtain ⟨h2, h3⟩ := h1
    have h4 := set_cells (e := e) (b := b) z vs (a ++ [v]) m (W.setCell ⟨b, a.length, none⟩ v) (by rw [h2]; simp) (by simpa using hl)
    rw [show (a ++ [v]).length = a.length + 1 by simp] at h4
    refine ⟨?_, grownBy_trans h3 h4.2⟩
    show ((W.setCell ⟨b, a.length, none⟩ v).setCells b (a.length + 1) vs).heap[b]? = _
    rw [h4.1]
    simp
/-- cells in the middle of a block, as the load's law asks them -/
theorem range_row {W : World} {b : Nat} {e : TypeId} {a m z : List Value} (h : W.heap[b]? = some (.cells (a ++ (m ++ z)).toArray e)) : W.rangeAt b a.length m := fun j v hv => by
  have hj : j < m.length := (List.getElem?_eq_some_iff.1 hv).1
  rw [cell_of_row _ _ _ _ _ _ h, List.getElem?_toArray, List.getElem?_append_right (by omega), Nat.add_sub_cancel_left, List.getElem?_append_left hj, hv]
theorem there_row {W : World} {b : Nat} {e : TypeId} {cs : List Value} (h : W.heap[b]? = some (.cells cs.toArray e)) (o n : Nat) (hn : o + n ≤ cs.length) : W.there b o n := fun j hj => by
  refine ⟨?_, frozen_row h _⟩
  rw [cell_of_row _ _ _ _ _ _ h, List.getElem?_toArray, List.getElem?_eq_getElem (by omega)]
  rfl
end Go.Proofs.Ytopmamgdfngdoaa
/- deliver: what giving answers. -/
namespace Go.Proofs.Ytopmamgdfngdoaa
set_option linter.unusedVariables false
open Go.RowKit

/-- the memory of a giver that is held -/
structure GvT (D : DP) (W : World) (g : GS) (fa : Option Addr) (fc : Nat) (aa : Option Addr) (ac : Nat) : Prop where
  f : RdT 5 W fa D.P.F fc (vb D.fl)
  a : RdS W aa g.ag.length ac g.ag
theorem GvT.below {D : DP} {W W' : World} {g : GS} {fa : Option Addr} {fc : Nat} {aa : Option Addr} {ac : Nat} (h : GvT D W g fa fc aa ac) (hb : Below W.heap.size W W') : GvT D W' g fa fc aa ac := ⟨h.f.below hb, h.a.below hb⟩
theorem GvT.stays {D : DP} {W W' : World} {g : GS} {fa : Option Addr} {fc : Nat} {aa : Option Addr} {ac : Nat} (h : GvT D W g fa fc aa ac) (h5 : Stays 5 W W') (h84 : Stays 84 W W') : GvT D W' g fa fc aa ac := ⟨h.f.stays h5, h.a.stays h84⟩
theorem GvT.gvm {D : DP} {W : World} {g : GS} {fa : Option Addr} {fc : Nat} {aa : Option Addr} {ac : Nat} (h : GvT D W g fa fc aa ac) : GvM D W g fa D.P.F fc aa g.ag.length ac := ⟨h.f.rd, h.a⟩
/-- a row of notes that is there -/
structure NRow (D : DP) (W : World) (B : Nat) (oa : Option Addr) (oc : Nat) (vs : List NV) : Prop where
  ow : W.ownsRow B 60 10 (.slice oa vs.length oc) vs.length (vs.flatMap (ncl D))
  ns : ∀ v ∈ vs, NVM D W v
theorem NRow.below {D : DP} {W W' : World} {B : Nat} {oa : Option Addr} {oc : Nat} {vs : List NV} (h : NRow D W B oa oc vs) (hb : Below W.heap.size W W') : NRow D W' B oa oc vs := ⟨ownsRow_below h.ow hb, fun v hv => (h.ns v hv).below hb⟩
/-- what Give and Reply answer -/
structure GiveR (D : DP) (W0 W : World) (g : GS) (ks : List NT) (e : Ending) : Prop where
  ex : ∃ fa fc aa ac oa oc vs, e = .returned (.tuple #[.agg (gcells D g fa D.P.F fc aa g.ag.length ac), .slice oa (vs : List NV).length oc, .int .i64 0]) ∧ GvT D W g fa fc aa ac ∧ NRow D W W0.heap.size oa oc vs ∧ vs.map (·.k) = ks ∧ ∀ v ∈ vs, ∀ l, v.k ≠ .ng l
  blw : Below W0.heap.size W0 W
theorem results_c2 {P : Program} {fn : Func} {p u v : Tmp} {ty : TypeId} (h : fn.results = #[.cell p ty, .tmp u, .tmp v]) (tmps : Array Value) (w : World) (g : Nat) (t : TypeId) (cs : Array Value) (fr : Nat × Nat)
    (hp : tmps.getD p undef = .pointer (some ⟨g, 0, none⟩)) (hg : w.heap[g]? = some (.cells cs t fr))
    (hud : (P.underlying ty).map (fun d => match d with | .struct _ | .array _ _ => true | _ => false) = some true) (hi : (P.info? ty).map (·.size) = some cs.size) :
    (results fn tmps).run P w = .ok (.tuple #[.agg cs, tmps.getD u undef, tmps.getD v undef]) w := by
  obtain ⟨d, hu, hd⟩ := Option.map_eq_some_iff.1 hud
  have hp' : tmps[p]?.getD undef = .pointer (some ⟨g, 0, none⟩) := by simpa using hp
  simp [results, h, hp', asAddr, run_loadVar_row w g t ty cs fr d hg hu (by cases d <;> first | rfl | cases hd) hi]
/-- a whole block is read -/
theorem run_load_block {P : Program} {W : World} {b : Nat} {t ty : TypeId} {cs : Array Value} {d : TypeDesc} (A : W.heap[b]? = some (.cells cs t)) (hu : P.underlying ty = some d) (hd : d.isRow = true) (hi : (P.info? ty).map (·.size) = some cs.size) :
    (Instr.loadAt ty (.pointer (some ⟨b, 0, none⟩))).run P W = .ok (.agg cs) W := by
  have := run_loadAt_mid (P := P) W b 0 ty cs.toList d (fun j v hv => by
    rw [Nat.zero_add, cell_of_row _ _ _ _ _ _ A]
    rw [← hv, Array.getElem?_toList]) hu hd (by rw [hi, Array.length_toList])
  rw [Array.toArray_toList] at this
  exact this
/-- a load of many cells in a region that draws its order -/
theorem wpL_load {P : Program} {ops : Array Oper} {Q : Exit → Act → World → Prop} {S : World → World → Prop} {E : Act → World → Prop} {rest : List (Bool × Oper)} {o : Oper} {a : Act} {w : World} (ty : TypeId) (x : Operand) (p : Addr) (v : Value) (hw : Region.wanted o (yielded ops a.tmps) = true) (ho : o.op = .load ty x) (hx : a.eval x = .pointer (some p))
    (hl : ∀ w', S w w' → (Instr.loadAt ty (.pointer (some p))).run P w' = .ok v w') (h : wpL P ops Q S E rest (a.put o.dst v) w) : wpL P ops Q S E ((false, o) :: rest) a w := by
  refine wpL_do hw (fun w' hw' => ?_) h
  have := hl w' hw'
  unfold execOp
  simp only [ho, hx, Sem.run_bind, Sem.run_pure, this, Result.andThen_ok]
end Go.Proofs.Ytopmamgdfngdoaa
/- deliver: giving, around the closure of function 19 (printed by gengiv.py). -/
namespace Go.Proofs.Ytopmamgdfngdoaa
set_option linter.unusedVariables false
open Go.RowKit

set_option maxRecDepth 1000000 in
set_option maxHeartbeats 8000000 in
theorem giving19 (D : DP) (hD : DOk D) (g g' : GS) (ks : List NT) (fa : Option Addr) (fc : Nat) (aa : Option Addr) (ac : Nat) (w : World) (hG : GI D.P g) (hM : GvT D w g fa fc aa ac)
    (hturn : ∀ (X : Nat) (A : GA) (W : World), w.heap.size ≤ X → Below w.heap.size w W → GW D W X w.heap.size g A [] → W.ownsRow w.heap.size 84 2 (.slice A.aa g.ag.length A.ac) g.ag.length (spv g.ag) → Calls Try.prog 19 #[.pointer (some ⟨X, 0, none⟩)] W fun e w' => GwR D W w' X w.heap.size g' ks e [] (.int .i64 0)) (hl' : g'.ag.length ≤ 1000) :
    Calls Try.prog 18 #[.agg (gcells D g fa D.P.F fc aa g.ag.length ac), .func (.func 19) #[] #[]] w fun e w' => GiveR D w w' g' ks e := by
  have b1 := below_alloc w (.cells (gcells D g fa D.P.F fc aa g.ag.length ac) 28)
  have A1 := heap_alloc_new w (.cells (gcells D g fa D.P.F fc aa g.ag.length ac) 28)
  generalize hV1 : w.alloc (.cells (gcells D g fa D.P.F fc aa g.ag.length ac) 28) = V1 at *
  have b2 := below_alloc V1 (.cells #[.int .i64 0, .string { data := #[] }, .slice none 0 0, .int .i64 0, .int .i64 0, .int .i64 0, .bool false, .int .i64 0, .slice none 0 0, .int .i64 0, .int .i64 0, .int .i64 0, .int .i64 0] 28)
  have A2 := heap_alloc_new V1 (.cells #[.int .i64 0, .string { data := #[] }, .slice none 0 0, .int .i64 0, .int .i64 0, .int .i64 0, .bool false, .int .i64 0, .slice none 0 0, .int .i64 0, .int .i64 0, .int .i64 0, .int .i64 0] 28)
  have A1' := row_below A1 b2
  have B2 := hid (b1.trans (b2.mono b1.size))
  have HM := hid (hM.below b1)
  have HT := hid hturn
  have hs1 := b1.size
  have hZ : w.heap.size ≤ V1.heap.size := hs1
  have hVs : w.heap.size < V1.heap.size := row_lt A1
  clear hM hturn b1
  unfold gcells at A1 A1' hV1 ⊢
  go_enter Try.func18, Try.ntmps18
  refine wp_seq_k (fun K0 hK0 => ?_)
  go_wp2_with fail
  refine hK0.out _ _ ?_
  clear hV1
  generalize V1.alloc (.cells #[.int .i64 0, .string { data := #[] }, .slice none 0 0, .int .i64 0, .int .i64 0, .int .i64 0, .bool false, .int .i64 0, .slice none 0 0, .int .i64 0, .int .i64 0, .int .i64 0, .int .i64 0] 28) = V2 at *
  have HM2 := hid (HM.out.below b2)
  clear b2 HM A1
  obtain ⟨Y, hY⟩ : ∃ Y, Y = w.heap.size := ⟨_, rfl⟩
  obtain ⟨Z, hZ'⟩ : ∃ Z, Z = V1.heap.size := ⟨_, rfl⟩
  rw [← hZ'] at A2 hZ hVs ⊢
  rw [← hY] at A1' ⊢
  have HY := hid hY
  clear hY hZ' hs1
  have hgv := hid (gives_ok D hD g fa D.P.F fc aa g.ag.length ac V2 hG HM2.out.gvm)
  unfold gcells at hgv
  refine wp_seq_k (fun K1 hK1 => ?_)
  refine wp_seq_k (fun K2 hK2 => ?_)
  go_wp2_with (with_reducible refine wpList_load_row (o := ⟨some 9, _, _, _, _, _⟩) rfl 28 _ rfl Y rfl 28 _ _ _ A1' Try.underlying28 rfl (by kernel_rfl) ?_)
  refine hgv.out.mono ?_
  rintro e V3 ⟨rfl, hb⟩
  have HB3 := hid (B2.out.trans (hb.mono B2.out.size))
  have AY := row_below A1' hb
  have AZ := row_below A2 hb
  have HM3 := hid (HM2.out.below hb)
  clear hb hgv A1' A2 HM2 B2
  go_wp2_with fail
  refine hK2.out _ _ ?_
  refine wp_cond_false rfl ?_
  go_wp2_with fail
  refine hK1.out _ _ ?_
  refine wp_seq_k (fun K3 hK3 => ?_)
  go_wp2_with (with_reducible refine wpList_load_row (o := ⟨some 13, _, _, _, _, _⟩) rfl 28 _ rfl Y rfl 28 _ _ _ AY Try.underlying28 rfl (by kernel_rfl) ?_)
  refine hK3.out _ _ ?_
  obtain ⟨X, hX⟩ : ∃ X, X = V3.heap.size := ⟨_, rfl⟩
  rw [← hX]
  have b4 := below_alloc V3 (.cells (gwc D g ⟨fa, fc, aa, ac, none, 0⟩ g.ag.length 0) 66)
  have A4 := heap_alloc_new V3 (.cells (gwc D g ⟨fa, fc, aa, ac, none, 0⟩ g.ag.length 0) 66)
  rw [← hX] at A4
  unfold gwc at b4 A4
  dsimp only at b4 A4
  have hYX : Y < X := by rw [hX]; exact row_lt AY
  have hZX : Z < X := by rw [hX]; exact row_lt AZ
  have hwX : w.heap.size ≤ X := by rw [hX]; exact HB3.out.size
  have AZ4 := row_below AZ b4
  have B4 := HB3.out.trans (b4.mono HB3.out.size)
  have HM4 := hid (HM3.out.below b4)
  generalize V3.alloc (.cells #[.int .i64 7, .string logS, .slice fa D.P.F fc, .int .i64 (D.P.m : Int), .int .i64 (D.P.b : Int), .int .i64 (g.st : Int), .bool g.fi, .int .i64 (g.pos : Int), .slice aa g.ag.length ac, .int .i64 (g.tm : Int), .int .i64 (D.P.p : Int), .int .i64 (g.tr : Int), .int .i64 100, .slice none 0 0] 66) = V4 at *
  clear b4 AY AZ hX HM3 HB3
  refine wp_seq_k (fun K4 hK4 => ?_)
  have hdr := (Below.refl V4.heap.size V4).drew
  have A5 := row_below A4 hdr
  have AZ5 := hid (row_below AZ4 hdr)
  have B5 := hid (B4.trans (hdr.mono B4.size))
  have HM5 := hid (HM4.out.below hdr)
  clear hdr A4 AZ4 B4 HM4
  refine wp_region_late [17, 21] [7, 13, 17, 21] [(false, [0, 1, 2, 3, 4, 5, 8, 9, 10, 11]), (true, [6, 12, 7, 13]), (false, [14, 15, 16, 17, 18, 19, 20, 21])] Ext (fun _ _ => True) Ext.refl Ext.trans (fun _ => trivial) (fun _ _ _ _ _ => trivial) (fun _ _ _ => trivial) (by kernel_rfl) (by kernel_rfl) ?_
  simp only [wpPh, List.map_cons, List.map_nil, List.contains_cons, List.contains_nil, List.getD_cons_zero, List.getD_cons_succ, Nat.reduceBEq, Bool.or_false, Bool.or_true]
  generalize V4.drew = U at *
  have f2 : ∀ w', Ext U w' → w'.cell? ⟨X, 2, none⟩ = some (.slice fa D.P.F fc) := fun w' hb => by rw [cell_of_row _ _ _ _ _ _ (row_below A5 hb)]; rfl
  have f8 : ∀ w', Ext U w' → w'.cell? ⟨X, 8, none⟩ = some (.slice aa g.ag.length ac) := fun w' hb => by rw [cell_of_row _ _ _ _ _ _ (row_below A5 hb)]; rfl
  iterate 10 (refine wpL_do rfl (fun w' hw' => (by go_simp; rfl)) ?_; simp only [Act.put, List.setIfInBounds_toArray, List.set_cons_succ, List.set_cons_zero])
  refine wpL_nil ?_
  iterate 2 (refine wpL_do rfl (fun w' hw' => (by go_simp; rfl)) ?_; simp only [Act.put, List.setIfInBounds_toArray, List.set_cons_succ, List.set_cons_zero])
  clear f2 f8
  have hF := hD.P.F
  have hcl := hid (cloneB fa D.P.F fc D.fl U HM5.out.f.rd (by omega))
  refine wpL_call rfl (fun K hK => ?_)
  go_wp2_with fail
  refine hcl.out.mono ?_
  rintro e U6 ⟨fa', fc', rfl, ho, hb⟩
  refine hK _ _ hb ?_
  clear hK K hcl
  try simp only [Act.put, List.setIfInBounds_toArray, List.set_cons_succ, List.set_cons_zero]
  have A6 := row_below A5 hb
  have AZ6 := hid (row_below AZ5.out hb)
  have HM6 := hid (HM5.out.below hb)
  have HO6 := hid (ownsRow_mono ho B5.out.size)
  have B6 := hid (B5.out.trans (hb.mono B5.out.size))
  clear A5 AZ5 HM5 B5 hb ho
  have hcl := hid (cloneS aa g.ag.length ac g.ag U6 HM6.out.a (Nat.le_trans hG.len (by decide)))
  refine wpL_call rfl (fun K hK => ?_)
  go_wp2_with fail
  refine hcl.out.mono ?_
  rintro e U7 ⟨aa', ac', rfl, ho, hb⟩
  refine hK _ _ hb ?_
  clear hK K hcl
  try simp only [Act.put, List.setIfInBounds_toArray, List.set_cons_succ, List.set_cons_zero]
  try refine wpL_nil ?_
  have A7 := row_below A6 hb
  have AZ7 := hid (row_below AZ6.out hb)
  have HO7 := hid (ownsRow_below HO6.out hb)
  have HS7 := hid (ownsRow_mono ho B6.out.size)
  have B7 := hid (B6.out.trans (hb.mono B6.out.size))
  clear A6 AZ6 HM6 B6 HO6 hb ho
  have c2 : U7.cell? ⟨X, 2, none⟩ = some (.slice fa D.P.F fc) := by rw [cell_of_row _ _ _ _ _ _ A7]; rfl
  have fz2 := frozen_row A7 2
  obtain ⟨m1, m2⟩ := set_row (cs' := #[.int .i64 7, .string logS, .slice fa' D.P.F fc', .int .i64 (D.P.m : Int), .int .i64 (D.P.b : Int), .int .i64 (g.st : Int), .bool g.fi, .int .i64 (g.pos : Int), .slice aa g.ag.length ac, .int .i64 (g.tm : Int), .int .i64 (D.P.p : Int), .int .i64 (g.tr : Int), .int .i64 100, .slice none 0 0]) A7 2 (.slice fa' D.P.F fc') rfl
  have AZ8 := hid (row_grown AZ7.out m2 (fun e => by rw [e] at hZX; exact Nat.lt_irrefl _ hZX))
  have HO8 := hid (row_kept_own A7 HO7.out m2 (by decide))
  have HS8 := hid (row_kept_own A7 HS7.out m2 (by decide))
  have B8 := hid (B7.out.grown m2 B7.out.size (fun k e => by cases e; exact hwX))
  have A8 := hid m2
  clear m2 AZ7 HO7 HS7 B7
  iterate 3 (refine wpL_do rfl (fun w' hw' => (by go_simp; rfl)) ?_; simp only [Act.put, List.setIfInBounds_toArray, List.set_cons_succ, List.set_cons_zero])
  refine wpL_call rfl (fun K hK => ?_)
  go_wp2_with fail
  refine hK _ _ trivial ?_
  clear hK K c2 fz2 A7
  try simp only [Act.put, List.setIfInBounds_toArray, List.set_cons_succ, List.set_cons_zero]
  generalize U7.setCell ⟨X, 2, none⟩ (.slice fa' D.P.F fc') = U8 at *
  have c8 : U8.cell? ⟨X, 8, none⟩ = some (.slice aa g.ag.length ac) := by rw [cell_of_row _ _ _ _ _ _ m1]; rfl
  have fz8 := frozen_row m1 8
  obtain ⟨k1, k2⟩ := set_row (cs' := gwc D g ⟨fa', fc', aa', ac', none, 0⟩ g.ag.length 0) m1 8 (.slice aa' g.ag.length ac') rfl
  have AZ9 := hid (row_grown AZ8.out k2 (fun e => by rw [e] at hZX; exact Nat.lt_irrefl _ hZX))
  have HO9 := hid (row_kept_own m1 HO8.out k2 (by decide))
  have HS9 := hid (row_kept_own m1 HS8.out k2 (by decide))
  have B9 := hid (B8.out.grown k2 B8.out.size (fun k e => by cases e; exact hwX))
  have A9 := hid k1
  clear k1 k2 AZ8 HO8 HS8 B8 A8
  iterate 3 (refine wpL_do rfl (fun w' hw' => (by go_simp; rfl)) ?_; simp only [Act.put, List.setIfInBounds_toArray, List.set_cons_succ, List.set_cons_zero])
  refine wpL_call rfl (fun K hK => ?_)
  go_wp2_with fail
  refine hK _ _ trivial ?_
  clear hK K c8 fz8 m1
  try simp only [Act.put, List.setIfInBounds_toArray, List.set_cons_succ, List.set_cons_zero]
  try refine wpL_nil ?_
  generalize U8.setCell ⟨X, 8, none⟩ (.slice aa' g.ag.length ac') = U9 at *
  refine hK4.out _ _ ?_
  have hgw := hid (show GW D U9 X w.heap.size g ⟨fa', fc', aa', ac', none, 0⟩ [] from ⟨A9.out, RdT.ofOwn HO9.out, OwnS.ofOwn HS9.out, ⟨rfl, .inl ⟨rfl, rfl⟩⟩, fun v hv => (by cases hv), fun v hv => (by cases hv)⟩)
  have htn := hid (HT.out X ⟨fa', fc', aa', ac', none, 0⟩ U9 hwX B9.out hgw.out HS9.out)
  clear HO9 HS9 A9 hgw HT
  refine wp_seq_k (fun K5 hK5 => ?_)
  go_wp2_with fail
  refine htn.out.mono ?_
  intro e W hs'
  obtain ⟨rfl, ⟨A, vs, hg2, hks⟩, hsw⟩ := hs'
  rw [List.nil_append] at hg2
  have HG := hid hg2
  have HK := hid hks
  have AZ10 := hid (hsw.st 28 (by decide) (by decide) (by decide) _ _ AZ9.out)
  have B10 := hid (B9.out.trans hsw.blw)
  clear hg2 hks hsw htn AZ9 B9
  go_wp2_with fail
  refine hK5.out _ _ ?_
  refine wp_seq_k (fun K6 hK6 => ?_)
  have c8 : W.cell? ⟨X, 8, none⟩ = some (.slice A.aa g'.ag.length A.ac) := by rw [cell_of_row _ _ _ _ _ _ HG.out.bx]; rfl
  have hcl := hid (cloneS A.aa g'.ag.length A.ac g'.ag W HG.out.a.rds (Nat.le_trans hl' (by decide)))
  go_wp2_with fail
  refine hcl.out.mono ?_
  rintro e W2 ⟨aa2, ac2, rfl, ho, hb⟩
  have HG2 := hid (HG.out.below hb)
  have HS2 := hid (ownsRow_mono ho B10.out.size)
  have AZ11 := hid (row_below AZ10.out hb)
  have B11 := hid (B10.out.trans (hb.mono B10.out.size))
  clear hb ho hcl HG AZ10 B10 c8
  have c8 : W2.cell? ⟨X, 8, none⟩ = some (.slice A.aa g'.ag.length A.ac) := by rw [cell_of_row _ _ _ _ _ _ HG2.out.bx]; rfl
  have fz8 := frozen_row HG2.out.bx 8
  obtain ⟨k1, k2⟩ := set_row (cs' := gwc D g' { A with aa := aa2, ac := ac2 } g'.ag.length vs.length) HG2.out.bx 8 (.slice aa2 g'.ag.length ac2) rfl
  have HG3 := hid (HG2.out.set (g' := g') (A' := { A with aa := aa2, ac := ac2 }) k2 k1 rfl rfl rfl rfl (OwnS.ofOwn HS2.out))
  have AZ12 := hid (row_grown AZ11.out k2 (fun e => by rw [e] at hZX; exact Nat.lt_irrefl _ hZX))
  have B12 := hid (B11.out.grown k2 B11.out.size (fun k e => by cases e; exact hwX))
  clear k1 k2 HG2 HS2 AZ11 B11
  go_wp2_with fail
  refine hK6.out _ _ ?_
  clear c8 fz8
  generalize W2.setCell ⟨X, 8, none⟩ (.slice aa2 g'.ag.length ac2) = W3 at *
  have hdr := (Below.refl W3.heap.size W3).drew
  have HG4 := hid (HG3.out.below hdr)
  have AZ13 := row_below AZ12.out hdr
  have B13 := hid (B12.out.trans (hdr.mono B12.out.size))
  clear hdr HG3 AZ12 B12
  refine wp_seq_k (fun K7 hK7 => ?_)
  refine wp_region_can_all [9] [0, 1, 2, 3, 4, 5, 6, 7, 8, 9, 10, 11] (fun u u' => u'.heap[X]? = u.heap[X]?) (fun _ => rfl) (fun _ _ _ h k => k.trans h) (by kernel_rfl) (by kernel_rfl) ?_
  simp only [List.map_cons, List.map_nil, List.contains_cons, List.contains_nil, List.getD_cons_zero, List.getD_cons_succ, Nat.reduceBEq, Bool.or_false]
  generalize W3.drew = W4 at *
  have f13 : ∀ w' : World, w'.heap[X]? = W4.heap[X]? → w'.cell? ⟨X, 13, none⟩ = some (.slice A.oa vs.length A.oc) := fun w' hb => by rw [cell_of_row _ _ _ _ _ _ (hb.trans HG4.out.bx)]; rfl
  have fld : ∀ w' : World, w'.heap[X]? = W4.heap[X]? → (Instr.loadAt 28 (.pointer (some ⟨X, 0, none⟩))).run Try.prog w' = .ok (.agg (gcells D g' A.fa D.P.F A.fc aa2 g'.ag.length ac2)) w' := fun w' hb => run_loadAt_mid w' X 0 28 (gcells D g' A.fa D.P.F A.fc aa2 g'.ag.length ac2).toList _ (range_row (a := []) (z := [.slice A.oa vs.length A.oc]) (e := 66) (by rw [hb]; exact HG4.out.bx)) Try.underlying28 rfl (by kernel_rfl)
  iterate 3 (refine wpL_do rfl (fun w' hw' => (by go_simp; rfl)) ?_; simp only [Act.put, List.setIfInBounds_toArray, List.set_cons_succ, List.set_cons_zero])
  refine wpL_load 28 _ ⟨X, 0, none⟩ _ rfl rfl rfl fld ?_
  simp only [Act.put, List.setIfInBounds_toArray, List.set_cons_succ, List.set_cons_zero]
  iterate 5 (refine wpL_do rfl (fun w' hw' => (by go_simp; rfl)) ?_; simp only [Act.put, List.setIfInBounds_toArray, List.set_cons_succ, List.set_cons_zero])
  clear f13 fld
  obtain ⟨m1, m2⟩ := set_whole (cs' := gcells D g' A.fa D.P.F A.fc aa2 g'.ag.length ac2) AZ13
  have hXk : (W4.setRow Z (gcells D g' A.fa D.P.F A.fc aa2 g'.ag.length ac2)).heap[X]? = W4.heap[X]? := (row_grown HG4.out.bx m2 (fun e => by rw [e] at hZX; exact Nat.lt_irrefl _ hZX)).trans HG4.out.bx.symm
  have s5 := Stays.ofSet m2 AZ13 (T := 5) (by decide)
  have s84 := Stays.ofSet m2 AZ13 (T := 84) (by decide)
  have HF := hid (HG4.out.f.stays s5)
  have HA := hid (HG4.out.a.rds.stays s84)
  have HO := hid (row_kept_own AZ13 HG4.out.ow m2 (by decide))
  have HN := hid (fun v hv => (HG4.out.ns v hv).stays s5 s84)
  have HNG := hid HG4.out.nog
  have B14 := hid (B13.out.grown m2 B13.out.size (fun k e => by cases e; exact hZ))
  have HM1 := hid m1
  refine wpL_call rfl (fun K hK => ?_)
  refine wp_store_row 28 _ _ rfl Z (gcells D g' A.fa D.P.F A.fc aa2 g'.ag.length ac2) rfl rfl 28 _ AZ13 (by kernel_rfl) rfl (by unfold gcells; simp [Value.oneCell']) ?_
  refine hK _ _ hXk ?_
  clear hK K m1 m2 s5 s84 AZ13 hXk HG4 B13
  try simp only [Act.put]
  generalize W4.setRow Z _ = W5 at *
  iterate 2 (refine wpL_do rfl (fun w' hw' => (by go_simp; rfl)) ?_; simp only [Act.put, List.setIfInBounds_toArray, List.set_cons_succ, List.set_cons_zero])
  refine wpL_nil ?_
  refine hK7.out _ _ ?_
  go_wp2_with fail
  refine bodyPost_ret (results_c2 (fn := Try.f18) rfl _ W5 Z 28 _ _ rfl HM1.out (by kernel_rfl) (by kernel_rfl)) rfl ?_
  exact ⟨⟨_, _, _, _, _, _, vs, rfl, ⟨HF.out, HA.out⟩, ⟨HO.out, HN.out⟩, HK.out, HNG.out⟩, B14.out⟩
end Go.Proofs.Ytopmamgdfngdoaa
