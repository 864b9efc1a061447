/- clones: rows of bytes, each cloned. -/
import Derived.Test.YtkngoomkmbkenaaOnce2
import Derived.Test.YtkngoomkmbkenaaOnce5
import Derived.Deep.DeepCutAuto
import Derived.Deep.CutBlock
import Derived.Test.YtkngoomkmbkenaaOnce1
namespace Go.Proofs.Ytkngoomkmbkenaa
set_option linter.unusedVariables false
open Go.RowKit

set_option maxRecDepth 1000000 in
theorem fr21 (y : Nat → Value) : fr 21 y = #[y 0, y 1, y 2, y 3, y 4, y 5, y 6, y 7, y 8, y 9, y 10, y 11, y 12, y 13, y 14, y 15, y 16, y 17, y 18, y 19, y 20] := rfl
theorem Try.info31 : (Try.prog.info? 31).map (fun i => (i.zero, i.size, i.bytes)) = some (some (.slice none 0 0), 1, 24) := by kernel_rfl
theorem Try.underlying34 : Try.prog.underlying 34 = some (.slice 31) := by kernel_rfl
set_option maxRecDepth 1000000 in
theorem cloneR_nil (w : World) : Calls Try.prog 41 #[.slice none 0 0] w fun e w' => e = .returned (.slice none 0 0) ∧ Below w.heap.size w w' := by
  have hk := fun (w : World) => Lib.run_eql_slice_nil (P := Try.prog) w 34 31 none 0 0 0 0 Try.underlying34
  go_enter Try.func41, Try.ntmps41
  go_wp2
  go_ret
  exact ⟨rfl, Below.refl _ _⟩
set_option maxRecDepth 1000000 in
theorem cloneR_some (a : Addr) (n cap : Nat) (R : List RB) (w : World) (hq : Rd w (some a) n cap (rcs R)) (hn : n ≤ 100000) :
    Calls Try.prog 41 #[.slice (some a) n cap] w fun e w' => ∃ g c, e = .returned (.slice (some ⟨g, 0, none⟩) n c) ∧ w'.ownsRow w.heap.size 31 1 (.slice (some ⟨g, 0, none⟩) n c) n (rcs R) ∧ Below w.heap.size w w' := by
  obtain ⟨i0, hi, hz0, hz1, hz2⟩ := info_parts Try.info31
  have hk := fun (w : World) => Lib.run_eql_slice_nil (P := Try.prog) w 34 31 (some a) n cap 0 0 Try.underlying34
  have hn0 : (w.alloc (.cells #[] 31)).ownsRow w.heap.size 31 1 (.slice (some ⟨w.heap.size, 0, none⟩) 0 0) 0 [] := World.ownsRow_lit (base := w.heap.size) (e := 31) (size := 1) w #[] 0 (Nat.le_refl _) (Nat.zero_le _) rfl
  have hlen := hq.len
  have hone := rcs_one R
  have hcells : ∀ j u, (rcs R)[j]? = some u → (w.alloc (.cells #[] 31)).cell? (a.add j) = some u := by
    intro j u hj
    have hjn : j < n := by have := (List.getElem?_eq_some_iff.1 hj).1; omega
    obtain ⟨b, off, ha, hlt, hc⟩ := hq.mem (by omega)
    cases ha
    rw [Addr.add_lit, World.cell?_alloc_past _ _ _ hlt, hc j hjn]
    exact hj
  generalize rcs R = xs at *
  go_enter Try.func41, Try.ntmps41
  go_wp2_with (at_builtin; refine wpList_append_own _ rfl _ _ 34 rfl w.heap.size 31 i0 (.slice none 0 0) 1 24 Try.underlying34 hi hz0 hz1 hz2 rfl (by decide) _ 0 [] rfl hn0 a n cap xs rfl ?c1 hcells hone ?c2 ?c3 ?c4 ?_)
  case c1 => omega
  case c2 => unfold maxLen; omega
  case c3 => omega
  case c4 => simp
  intro v' w1 hown' hg hnil
  obtain ⟨ao, c, rfl, hc1, hc2, hc3⟩ := own_form hown'
  rcases hc3 with ⟨rfl, h0, h1⟩ | ⟨g, rfl, hg1, hg2⟩
  · exfalso
    simp_all
  go_wp2
  go_ret
  exact ⟨g, c, rfl, hown', ((Below.refl _ w).alloc (Nat.le_refl _) _).grown hg (by simp) (fun k e => by cases e; exact Nat.le_refl _)⟩
theorem cloneR_any (ao : Option Addr) (n cap : Nat) (R : List RB) (w : World) (hq : Rd w ao n cap (rcs R)) (hn : n ≤ 100000) :
    Calls Try.prog 41 #[.slice ao n cap] w fun e w' => ∃ ao' c, e = .returned (.slice ao' n c) ∧ w'.ownsRow w.heap.size 31 1 (.slice ao' n c) n (rcs R) ∧ Below w.heap.size w w' := by
  cases ao with
  | none =>
    obtain rfl := hq.isnil rfl
    obtain rfl : n = 0 := by have := hq.le; omega
    have hb : R = [] := by have := hq.len; rw [rcs_len] at this; exact List.eq_nil_of_length_eq_zero this
    subst hb
    exact (cloneR_nil w).mono fun e w' ⟨he, hb⟩ => ⟨none, 0, he, World.ownsRow_nil _ _ _ _, hb⟩
  | some a => exact (cloneR_some a n cap R w hq hn).mono fun e w' ⟨g, c, he, ho, hb⟩ => ⟨_, c, he, ho, hb⟩

def ClI (W0 : World) (pa : Option Addr) (pn pc : Nat) (R : List RB) (y : Nat → Value) (W : World) : Prop :=
  ∃ (k : Nat) (R' : List RB), k ≤ pn ∧ y 0 = .slice pa pn pc ∧ y 7 = .int .i64 (pn : Int) ∧ y 8 = .int .i64 (k : Int) ∧ W.ownsRow W0.heap.size 31 1 (.slice pa pn pc) pn (rcs R') ∧ conts R' = conts R ∧ R'.length = R.length ∧
    (∀ j, k ≤ j → R'[j]? = R[j]?) ∧ (∀ j r, j < k → R'[j]? = some r → RdT 5 W r.1.1 r.1.2.1 r.1.2.2 (vb r.2) ∧ Lo W0.heap.size r) ∧ Below W0.heap.size W0 W
structure ClR (W0 W : World) (pn : Nat) (R : List RB) (e : Ending) : Prop where
  ex : ∃ pa pc R', e = .returned (.slice pa pn pc) ∧ W.ownsRow W0.heap.size 31 1 (.slice pa pn pc) pn (rcs R') ∧ conts R' = conts R ∧ (∀ r ∈ R', RdT 5 W r.1.1 r.1.2.1 r.1.2.2 (vb r.2) ∧ Lo W0.heap.size r)
  blw : Below W0.heap.size W0 W
set_option maxRecDepth 1000000 in
set_option maxHeartbeats 4000000 in
theorem clones_ok (qa : Option Addr) (pn qc : Nat) (R : List RB) (W0 : World) (hp : PkT W0 qa pn qc R) (hpn : pn ≤ 1000) (hlen : ∀ r ∈ R, r.2.length ≤ 100000) :
    Calls Try.prog 31 #[.slice qa pn qc] W0 fun e w' => ClR W0 w' pn R e := by
  have hcl := cloneR_any qa pn qc R W0 hp.rd.rd (by omega)
  have HR := hid hp.rows
  have hRl : R.length = pn := by have := hp.rd.rd.len; rwa [rcs_len] at this
  have HRl := hid hRl
  have HL := hid hlen
  clear hp hRl hlen
  go_enter Try.func31, Try.ntmps31
  refine wp_seq_k (fun K0 hK0 => ?_)
  go_wp2_with fail
  refine hK0.out _ _ ?_
  refine wp_seq_k (fun K1 hK1 => ?_)
  go_wp2_with fail
  refine hcl.mono ?_
  rintro e W1 ⟨pa, pc, rfl, ho, hb⟩
  have HO := hid ho
  have HB := hid hb
  clear ho hb hcl
  go_wp2_with fail
  refine hK1.out _ _ ?_
  refine wp_seq_k (fun K2 hK2 => ?_)
  refine wp_seq_k (fun K3 hK3 => ?_)
  go_wp2_with fail
  refine hK3.out _ _ ?_
  refine wp_block ?_
  refine wp_loop_fr 21 (ClI W0 pa pn pc R) (fun y' _ => pn - (intOf (y' 8)).toNat) ⟨rfl, rfl, 0, R, Nat.zero_le _, rfl, rfl, rfl, HO.out, rfl, rfl, fun _ _ => rfl, fun j r h => absurd h (Nat.not_lt_zero j), HB.out⟩ ?_
  clear HO HB
  rintro z W ⟨k, R', hk, s0, s7, s8, ho, hco, hln, hge, hlt', hb⟩
  have HO := hid ho
  have HCo := hid hco
  have HLn := hid hln
  have HGe := hid hge
  have HLt := hid hlt'
  have HB := hid hb
  clear ho hco hln hge hlt' hb
  rw [fr21]
  simp only [s0, s7, s8]
  clear s0 s7 s8
  by_cases hlt : k < pn
  · have d1 : decide ((k : Int) < (pn : Int)) = true := decide_eq_true (by omega)
    have hkI : (k : Int) < (pn : Int) := by omega
    obtain ⟨g, rfl⟩ := own_addr HO.out (by omega)
    have hRl := HRl.out
    obtain ⟨hgB, hgl⟩ := HO.out.lt g rfl
    have hR'k : R'[k]? = some (R[k]'(by omega)) := by rw [HGe.out k (Nat.le_refl _), List.getElem?_eq_getElem (by omega)]
    have hmem : R[k]'(by omega) ∈ R := List.getElem_mem _
    have hrd := (HR.out _ hmem).below HB.out
    have hll := HL.out _ hmem
    have hlb : R'.length = R.length := HLn.out
    obtain ⟨x, hx⟩ : ∃ x, x = R[k]'(by omega) := ⟨_, rfl⟩
    rw [← hx] at hR'k hrd hll
    clear hx hmem
    obtain ⟨⟨ra, rn, rc⟩, bs⟩ := x
    dsimp only at hrd hll
    have hrn : rn ≤ 100000 := by have := hrd.rd.len; rw [vb_len] at this; omega
    have cg : W.cell? ⟨g, k, none⟩ = some (.slice ra rn rc) := by
      rw [HO.out.cellAt k (by omega), rcs_get R' k (by omega)]
      obtain ⟨h1, h2⟩ := List.getElem?_eq_some_iff.1 hR'k
      rw [h2]
    have hcl := hid (clone_any ra rn rc bs W hrd.rd (by omega))
    obtain ⟨_, cc, hv, hle, hmx, _⟩ := own_form HO.out
    have hcc : cc = pc := by cases hv; rfl
    rw [hcc] at hle hmx
    unfold maxLen at hmx
    have HRk := hid hR'k
    clear hv hcc hR'k hrd hlb hRl
    go_upto_block 1 with (fail)
    refine wp_block ?_
    refine wp_seq_k (fun K4 hK4 => ?_)
    go_wp2_with fail
    refine hK4.out _ _ ?_
    go_wp2_with fail
    refine hcl.out.mono ?_
    rintro e V ⟨na, nc, rfl, ho5, hbV⟩
    have hoV := ownsRow_below HO.out hbV
    obtain ⟨hs1, hs2⟩ := hoV.stored k (.slice na rn nc)
    have hgr : ∃ cs : Array Value, V.heap[g]? = some (.cells cs 31) := by
      rcases hoV.2 with ⟨h1, _⟩ | ⟨g', cap', cur, h1, _, h3, _⟩
      · cases h1
      · cases h1; exact ⟨cur, h3⟩
    obtain ⟨csg, hgr⟩ := hgr
    have cgV : V.cell? ⟨g, k, none⟩ = some (.slice ra rn rc) := ((hbV.cell (p := ⟨g, k, none⟩) hgl)).trans cg
    have fgV := hoV.frozenAt k
    have r1 : (V.setCell ⟨g, k, none⟩ (.slice na rn nc)).ownsRow W0.heap.size 31 1 (.slice (some ⟨g, 0, none⟩) pn pc) pn (rcs (R'.set k ((na, rn, nc), bs))) := by rw [← rcs_set]; exact hs1
    have r2 : conts (R'.set k ((na, rn, nc), bs)) = conts R := by rw [conts_set R' k ((na, rn, nc), bs) (by rw [HRk.out]; rfl)]; exact HCo.out
    have r3 : (R'.set k ((na, rn, nc), bs)).length = R.length := by rw [List.length_set]; exact HLn.out
    have r4 : ∀ j, k + 1 ≤ j → (R'.set k ((na, rn, nc), bs))[j]? = R[j]? := by
      intro j hj
      rw [List.getElem?_set_ne (by omega)]
      exact HGe.out j (by omega)
    have r5 : ∀ j r, j < k + 1 → (R'.set k ((na, rn, nc), bs))[j]? = some r → RdT 5 (V.setCell ⟨g, k, none⟩ (.slice na rn nc)) r.1.1 r.1.2.1 r.1.2.2 (vb r.2) ∧ Lo W0.heap.size r := by
      intro j r hj hr
      by_cases e : j = k
      · subst e
        rw [List.getElem?_set_self (by have := HLn.out; have := HRl.out; omega)] at hr
        cases hr
        exact ⟨(RdT.ofOwn ho5).other hs2 hgr (by decide), fun q hq => Nat.le_trans HB.out.size (ho5.lt q hq).1⟩
      · rw [List.getElem?_set_ne (fun h => e h.symm)] at hr
        obtain ⟨q1, q2⟩ := HLt.out j r (by omega) hr
        exact ⟨(q1.below hbV).other hs2 hgr (by decide), q2⟩
    have r6 := (HB.out.trans (hbV.mono HB.out.size)).grown hs2 (Nat.le_trans HB.out.size hbV.size) (fun q e => by cases e; exact hgB)
    obtain ⟨R2, hR2⟩ : ∃ R2, R2 = R'.set k ((na, rn, nc), bs) := ⟨_, rfl⟩
    rw [← hR2] at r1 r2 r3 r4 r5
    have HR1 := hid r1
    have HR2 := hid r2
    have HR3 := hid r3
    have HR4 := hid r4
    have HR5 := hid r5
    have HR6 := hid r6
    clear r1 r2 r3 r4 r5 r6 ho5 hbV hcl hoV hs1 hs2 hgr hR2 cg
    go_wp2_with fail
    refine ⟨rfl, rfl, ⟨k + 1, R2, by omega, rfl, rfl, ?_, HR1.out, HR2.out, HR3.out, HR4.out, HR5.out, HR6.out⟩, ?_⟩
    · show Value.int .i64 _ = Value.int .i64 _
      go_num
    · show pn - (intOf (Value.int .i64 _)).toNat < _
      simp [intOf]
      omega
  · obtain rfl : k = pn := by omega
    have d1 : decide ((k : Int) < (k : Int)) = false := decide_eq_false (by omega)
    have HE : Hid (∀ r ∈ R', RdT 5 W r.1.1 r.1.2.1 r.1.2.2 (vb r.2) ∧ Lo W0.heap.size r) := fun r hr => by
      obtain ⟨j, hj, rfl⟩ := List.getElem_of_mem hr
      exact HLt.out j _ (by rw [← HRl.out, ← HLn.out]; exact hj) (List.getElem?_eq_getElem hj)
    go_wp2_with fail
    refine hK2.out _ _ ?_
    go_wp2_with fail
    go_ret
    exact ⟨⟨pa, pc, R', rfl, HO.out, HCo.out, HE.out⟩, HB.out⟩
end Go.Proofs.Ytkngoomkmbkenaa
/- Regions that draw their order, where two loud operations may come up at once: both ways are walked. -/
namespace Go.Proofs.Ytkngoomkmbkenaa

/-- in which order the operations are taken: one, or two ways -/
inductive Plan
  | nil
  | one (i : Nat) (p : Plan)
  | two (i : Nat) (p : Plan) (j : Nat) (q : Plan)
def Plan.len : Plan → Nat
  | .nil => 0
  | .one _ p => p.len + 1
  | .two _ p _ _ => p.len + 1
def Plan.of : List Nat → Plan → Plan
  | [], p => p
  | i :: r, p => .one i (Plan.of r p)

section
variable {P : Program} {ops : Array Oper} {md : Region.Mode} {Q : Exit → Act → World → Prop} {S : World → World → Prop}

def wpT (P : Program) (ops : Array Oper) (Q : Exit → Act → World → Prop) (S : World → World → Prop) (loud : List Nat) (E : Act → World → Prop) : Plan → Act → World → Prop
  | .nil, a, w => E a w
  | .one i rest, a, w => match ops[i]? with
    | none => False
    | some o => if loud.contains i then wpOp P ops Q i (fun a' w' => S w w' ∧ wpT P ops Q S loud E rest a' w') a w
      else ∃ v, YieldsIf P ops (S w) o v a ∧ wpT P ops Q S loud E rest (a.put o.dst v) w
  | .two i p j q, a, w => wpOp P ops Q i (fun a' w' => S w w' ∧ wpT P ops Q S loud E p a' w') a w ∧ wpOp P ops Q j (fun a' w' => S w w' ∧ wpT P ops Q S loud E q a' w') a w

def okT (md : Region.Mode) (ops : Array Oper) (n : Nat) (loud : List Nat) : Plan → Array Bool → Bool
  | .nil, listed => Region.seqB md ops (ops.size - n) n listed
  | .one i rest, listed => decide (i < n) && (Region.ready md ops listed).contains i && (if loud.contains i then decide (Region.ready md ops listed = [i]) else Region.free md ops listed i) &&
      okT md ops n loud rest (listed.setIfInBounds i true)
  | .two i p j q, listed => decide (i < n) && decide (j < n) && decide (Region.ready md ops listed = [i, j]) && decide (p.len = q.len) && okT md ops n loud p (listed.setIfInBounds i true) && okT md ops n loud q (listed.setIfInBounds j true)

theorem wpX_of_T {n : Nat} {loud : List Nat} {E : Act → World → Prop} (hsel : ∀ (j : Nat) (o : Oper) cs b, ops[j]? = some o → o.op ≠ .select cs b)
    (hQ : ∀ c a d v w, Q (.panic c) (a.put d v) w → Q (.panic c) a w) (hrefl : ∀ w, S w w) (htrans : ∀ a b c, S a b → S b c → S a c)
    (htail : ∀ i, i < n → ∀ listed, HeadInv md ops n listed → listed.getD i true = false → ∀ t, n ≤ t → t ∉ Region.ready md ops listed) :
    ∀ (p : Plan) (listed : Array Bool) (a : Act) (w : World), HeadInv md ops n listed → okT md ops n loud p listed = true → wpT P ops Q S loud E p a w →
      wpX P md ops Q S (fun listed' a' w' => Region.seqB md ops (ops.size - n) n listed' = true ∧ E a' w') p.len listed a w
  | .nil, listed, a, w, _, hok, h => ⟨hok, h⟩
  | .one i rest, listed, a, w, inv, hok, h => by
    simp only [okT, Bool.and_eq_true, decide_eq_true_eq] at hok
    obtain ⟨⟨⟨hin, hr⟩, hc⟩, hok'⟩ := hok
    have hr' : i ∈ Region.ready md ops listed := by simpa using hr
    unfold wpT at h
    cases hi : ops[i]? with
    | none => simp only [hi] at h
    | some oi =>
      simp only [hi] at h
      by_cases hl : loud.contains i = true
      · rw [if_pos hl] at h hc
        have hone : Region.ready md ops listed = [i] := by simpa using hc
        refine ⟨fun e => (by rw [e] at hr'; cases hr'), fun j hj => ?_⟩
        obtain rfl : j = i := by rw [hone] at hj; simpa using hj
        exact wpOp_mono (fun a' w' h' => ⟨h'.1, wpX_of_T hsel hQ hrefl htrans htail rest _ a' w' (inv.set hr' hin) hok' h'.2⟩) h
      · rw [if_neg hl] at h hc
        obtain ⟨v, hy, hrest⟩ := h
        exact wpX_first hi hsel hQ hrefl htrans (fun listed' a' w' hL => seqB_ready hL.1) (htail i hin) rest.len listed a w inv (Region.free_spec hi hc) hr' hy
          (wpX_of_T hsel hQ hrefl htrans htail rest _ _ w (inv.set hr' hin) hok' hrest)
  | .two i p j q, listed, a, w, inv, hok, h => by
    simp only [okT, Bool.and_eq_true, decide_eq_true_eq] at hok
    obtain ⟨⟨⟨⟨⟨hin, hjn⟩, hr⟩, hlen⟩, hok1⟩, hok2⟩ := hok
    have hri : i ∈ Region.ready md ops listed := by rw [hr]; simp
    have hrj : j ∈ Region.ready md ops listed := by rw [hr]; simp
    refine ⟨fun e => (by rw [e] at hri; cases hri), fun k hk => ?_⟩
    have hk' : k = i ∨ k = j := by rw [hr] at hk; simpa using hk
    by_cases hki : k = i
    · subst hki
      exact wpOp_mono (fun a' w' h' => ⟨h'.1, wpX_of_T hsel hQ hrefl htrans htail p _ a' w' (inv.set hri hin) hok1 h'.2⟩) h.1
    · obtain rfl : k = j := hk'.resolve_left hki
      rw [hlen]
      exact wpOp_mono (fun a' w' h' => ⟨h'.1, wpX_of_T hsel hQ hrefl htrans htail q _ a' w' (inv.set hrj hjn) hok2 h'.2⟩) h.2

/-- the checks on a region -/
def canT (ops : Array Oper) (loud : List Nat) (p : Plan) : Bool :=
  Region.noSelect ops && decide (p.len = ops.size) && okT .any ops ops.size loud p (Array.replicate ops.size false)

/-- the operations written out -/
inductive OpT
  | nil
  | one (b : Bool) (o : Oper) (t : OpT)
  | two (o : Oper) (t : OpT) (o' : Oper) (t' : OpT)
def Plan.lay (l : List Oper) (loud : List Nat) : Plan → OpT
  | .nil => .nil
  | .one i p => .one (loud.contains i) (l.getD i default) (p.lay l loud)
  | .two i p j q => .two (l.getD i default) (p.lay l loud) (l.getD j default) (q.lay l loud)

def wpTL (P : Program) (ops : Array Oper) (Q : Exit → Act → World → Prop) (S : World → World → Prop) (E : Act → World → Prop) : OpT → Act → World → Prop
  | .nil, a, w => E a w
  | .one true o rest, a, w => if Region.wanted o (yielded ops a.tmps) then o.wp P a w (fun a' w' => S w w' ∧ wpTL P ops Q S E rest a' w') Q else S w w ∧ wpTL P ops Q S E rest (a.put o.dst undef) w
  | .one false o rest, a, w => if Region.wanted o (yielded ops a.tmps) then ∃ v, (∀ w', S w w' → (execOp a.eval o).run P w' = .ok (.value v) w') ∧ wpTL P ops Q S E rest (a.put o.dst v) w else wpTL P ops Q S E rest (a.put o.dst undef) w
  | .two o t o' t', a, w => (if Region.wanted o (yielded ops a.tmps) then o.wp P a w (fun a' w' => S w w' ∧ wpTL P ops Q S E t a' w') Q else S w w ∧ wpTL P ops Q S E t (a.put o.dst undef) w) ∧
      (if Region.wanted o' (yielded ops a.tmps) then o'.wp P a w (fun a' w' => S w w' ∧ wpTL P ops Q S E t' a' w') Q else S w w ∧ wpTL P ops Q S E t' (a.put o'.dst undef) w)

theorem okT_lt {n : Nat} {loud : List Nat} {i : Nat} {p : Plan} {listed : Array Bool} (h : okT md ops n loud (.one i p) listed = true) : i < n := by
  simp only [okT, Bool.and_eq_true, decide_eq_true_eq] at h
  exact h.1.1.1

theorem loud_one {l : List Oper} {E : Act → World → Prop} {i : Nat} {t : OpT} {K : Act → World → Prop} (hil : i < l.length) {a : Act} {w : World} (hK : ∀ a' w', wpTL P l.toArray Q S E t a' w' → K a' w')
    (h : wpTL P l.toArray Q S E (.one true (l.getD i default) t) a w) : wpOp P l.toArray Q i (fun a' w' => S w w' ∧ K a' w') a w := by
  have hi : l.toArray[i]? = some (l.getD i default) := by
    rw [List.getElem?_toArray, List.getElem?_eq_getElem hil, List.getD_eq_getElem?_getD, List.getElem?_eq_getElem hil]; rfl
  generalize l.getD i default = o at hi h
  unfold wpTL at h
  by_cases hw : Region.wanted o (yielded l.toArray a.tmps) = true
  · rw [if_pos hw] at h
    exact wpOp_mono2 hi hw h fun a' w' h' => ⟨h'.1, hK _ _ h'.2⟩
  · rw [if_neg hw] at h
    unfold wpOp
    simp only [hi]
    rw [if_neg hw]
    exact ⟨h.1, hK _ _ h.2⟩

theorem wpT_of_L {l : List Oper} {loud : List Nat} {E : Act → World → Prop} : ∀ (p : Plan) (listed : Array Bool) (a : Act) (w : World), okT md l.toArray l.length loud p listed = true →
    wpTL P l.toArray Q S E (p.lay l loud) a w → wpT P l.toArray Q S loud E p a w
  | .nil, _, _, _, _, h => h
  | .one i rest, listed, a, w, hok, h => by
    have hil := okT_lt hok
    have hok' : okT md l.toArray l.length loud rest (listed.setIfInBounds i true) = true := by
      simp only [okT, Bool.and_eq_true] at hok
      exact hok.2
    have hi : l.toArray[i]? = some (l.getD i default) := by
      rw [List.getElem?_toArray, List.getElem?_eq_getElem hil, List.getD_eq_getElem?_getD, List.getElem?_eq_getElem hil]; rfl
    have h1 : wpTL P l.toArray Q S E (.one (loud.contains i) (l.getD i default) (rest.lay l loud)) a w := h
    unfold wpT
    simp only [hi]
    cases hl : loud.contains i with
    | true =>
      rw [hl] at h1
      rw [if_pos rfl]
      exact loud_one hil (fun a' w' h' => wpT_of_L rest _ a' w' hok' h') h1
    | false =>
      rw [hl] at h1
      rw [if_neg (by simp)]
      generalize l.getD i default = o at hi h1
      unfold wpTL at h1
      by_cases hw : Region.wanted o (yielded l.toArray a.tmps) = true
      · rw [if_pos hw] at h1
        obtain ⟨v, h2, h3⟩ := h1
        exact ⟨v, .inl ⟨hw, h2⟩, wpT_of_L rest _ _ _ hok' h3⟩
      · rw [if_neg hw] at h1
        exact ⟨undef, .inr ⟨by simpa using hw, rfl⟩, wpT_of_L rest _ _ _ hok' h1⟩
  | .two i p j q, listed, a, w, hok, h => by
    simp only [okT, Bool.and_eq_true, decide_eq_true_eq] at hok
    obtain ⟨⟨⟨⟨⟨hin, hjn⟩, _⟩, _⟩, hok1⟩, hok2⟩ := hok
    have h1 : wpTL P l.toArray Q S E (.two (l.getD i default) (p.lay l loud) (l.getD j default) (q.lay l loud)) a w := h
    unfold wpTL at h1
    exact ⟨loud_one hin (fun a' w' h' => wpT_of_L p _ a' w' hok1 h') h1.1, loud_one hjn (fun a' w' h' => wpT_of_L q _ a' w' hok2 h') h1.2⟩

/-- all operations of the region by a plan -/
theorem wp_region_plan {id : Nat} {a : Act} {w : World} {l : List Oper} (loud : List Nat) (p : Plan) (S : World → World → Prop) (hrefl : ∀ w, S w w) (htrans : ∀ a b c, S a b → S b c → S a c)
    (hm : P.follows .mixedOrders = true) (hB : canT l.toArray loud p = true)
    (h : wpTL P l.toArray (OnlyOn Q) S (Q .normal) (p.lay l loud) a w.drew) : (Code.region id l.toArray true).wp P Q a w := by
  simp only [canT, Bool.and_eq_true, decide_eq_true_eq] at hB
  obtain ⟨⟨hsel, hlen⟩, hok⟩ := hB
  have hs : l.toArray.size = l.length := by simp
  rw [hs] at hlen
  have hok2 : okT .any l.toArray l.length loud p (Array.replicate l.toArray.size false) = true := by rw [← hs]; exact hok
  have h' := wpT_of_L (md := .any) (loud := loud) p (Array.replicate l.toArray.size false) a w.drew hok2 h
  have htail : ∀ i, i < l.length → ∀ listed, HeadInv .any l.toArray l.length listed → listed.getD i true = false → ∀ t, l.length ≤ t → t ∉ Region.ready .any l.toArray listed := by
    intro i hin listed inv hun t ht hr
    obtain ⟨_, ot, hot, _⟩ := mem_ready.1 hr
    have := (Array.getElem?_eq_some_iff.1 hot).1
    omega
  have inv0 : HeadInv .any l.toArray l.length (Array.replicate l.toArray.size false) :=
    ⟨by simp, fun j oj _ hl => (by rw [getD_replicate_false] at hl; cases hl), fun t _ ht => getD_in (by simpa using ht) (getD_replicate_false _ _)⟩
  have H := wpX_of_T (md := .any) (Region.noSelect_spec hsel) (fun _ _ _ _ _ h => h) hrefl htrans htail p _ a w.drew inv0 hok2 h'
  refine Code.wp_mono OnlyOn.imp (wp_region_any hm ?_)
  have hdl : (l.drop l.length).length = l.toArray.size - l.length := by simp
  have H2 := wpAny_of_X (g := l.toArray.size - l.length) (fun listed a' w' hL => by
    have hE : wpList P l.toArray (OnlyOn Q) (l.drop l.length) a' w' := by rw [List.drop_length]; exact hL.2
    have := wpAny_of_seq (md := .any) (Q' := OnlyOn Q) (l.drop l.length) l.length listed a' w' (fun j => by simp) (by rw [hdl]; exact hL.1) hE
    rwa [hdl] at this) _ _ _ _ H
  rw [hlen, show l.length + (l.toArray.size - l.length) = l.toArray.size by simp] at H2
  exact H2

variable {E : Act → World → Prop} {rest rest' : OpT} {o o' : Oper} {a : Act} {w : World}
theorem wpTL_do {v : Value} (hw : Region.wanted o (yielded ops a.tmps) = true)
    (hv : ∀ w', S w w' → (execOp a.eval o).run P w' = .ok (.value v) w') (h : wpTL P ops Q S E rest (a.put o.dst v) w) : wpTL P ops Q S E (.one false o rest) a w := by
  unfold wpTL; rw [if_pos hw]; exact ⟨v, hv, h⟩
theorem wpTL_pass (hw : Region.wanted o (yielded ops a.tmps) = false)
    (h : wpTL P ops Q S E rest (a.put o.dst undef) w) : wpTL P ops Q S E (.one false o rest) a w := by
  unfold wpTL; rw [if_neg (by rw [hw]; simp)]; exact h
theorem wpTL_call (hw : Region.wanted o (yielded ops a.tmps) = true)
    (h : ∀ K : Act → World → Prop, (∀ a' w', S w w' → wpTL P ops Q S E rest a' w' → K a' w') → o.wp P a w K Q) : wpTL P ops Q S E (.one true o rest) a w := by
  unfold wpTL; rw [if_pos hw]; exact h _ fun _ _ h1 h2 => ⟨h1, h2⟩
theorem wpTL_hush (hw : Region.wanted o (yielded ops a.tmps) = false) (hr : S w w)
    (h : wpTL P ops Q S E rest (a.put o.dst undef) w) : wpTL P ops Q S E (.one true o rest) a w := by
  unfold wpTL; rw [if_neg (by rw [hw]; simp)]; exact ⟨hr, h⟩
theorem wpTL_nil (h : E a w) : wpTL P ops Q S E .nil a w := h
theorem wpTL_two (h : wpTL P ops Q S E (.one true o rest) a w) (h' : wpTL P ops Q S E (.one true o' rest') a w) : wpTL P ops Q S E (.two o rest o' rest') a w := by
  unfold wpTL; exact ⟨h, h'⟩
end
end Go.Proofs.Ytkngoomkmbkenaa
/- Free, of the hand that CommandShuts frees: the walk. -/
namespace Go.Proofs.Ytkngoomkmbkenaa
set_option linter.unusedVariables false
open Go.RowKit

/-- a hand's cells -/
def hcells (cr nx ah : Int) (se ak : Value) (ti pa tr li si pu ha : Int) : Array Value := #[.int .i64 cr, .int .i64 nx, .int .i64 ah, se, ak, .int .i64 ti, .int .i64 pa, .int .i64 tr, .int .i64 li, .int .i64 si, .int .i64 pu, .int .i64 ha]
structure HAt (W : World) (b : Nat) (cr nx ah : Int) (se ak : Value) (ti pa tr li si pu ha : Int) : Prop where
  c0 : W.cell? ⟨b, 0, none⟩ = some (.int .i64 cr)
  c1 : W.cell? ⟨b, 1, none⟩ = some (.int .i64 nx)
  c2 : W.cell? ⟨b, 2, none⟩ = some (.int .i64 ah)
  c3 : W.cell? ⟨b, 3, none⟩ = some se
  c4 : W.cell? ⟨b, 4, none⟩ = some ak
  c5 : W.cell? ⟨b, 5, none⟩ = some (.int .i64 ti)
  c6 : W.cell? ⟨b, 6, none⟩ = some (.int .i64 pa)
  c7 : W.cell? ⟨b, 7, none⟩ = some (.int .i64 tr)
  c8 : W.cell? ⟨b, 8, none⟩ = some (.int .i64 li)
  c9 : W.cell? ⟨b, 9, none⟩ = some (.int .i64 si)
  c10 : W.cell? ⟨b, 10, none⟩ = some (.int .i64 pu)
  c11 : W.cell? ⟨b, 11, none⟩ = some (.int .i64 ha)
theorem hAt_row {W : World} {b : Nat} {cr nx ah : Int} {se ak : Value} {ti pa tr li si pu ha : Int} {e : TypeId} (A : W.heap[b]? = some (.cells (hcells cr nx ah se ak ti pa tr li si pu ha) e)) : HAt W b cr nx ah se ak ti pa tr li si pu ha :=
  ⟨by rw [cell_of_row _ _ _ _ _ _ A]; rfl, by rw [cell_of_row _ _ _ _ _ _ A]; rfl, by rw [cell_of_row _ _ _ _ _ _ A]; rfl, by rw [cell_of_row _ _ _ _ _ _ A]; rfl, by rw [cell_of_row _ _ _ _ _ _ A]; rfl, by rw [cell_of_row _ _ _ _ _ _ A]; rfl, by rw [cell_of_row _ _ _ _ _ _ A]; rfl, by rw [cell_of_row _ _ _ _ _ _ A]; rfl, by rw [cell_of_row _ _ _ _ _ _ A]; rfl, by rw [cell_of_row _ _ _ _ _ _ A]; rfl, by rw [cell_of_row _ _ _ _ _ _ A]; rfl, by rw [cell_of_row _ _ _ _ _ _ A]; rfl⟩

theorem ready_is (cr ah pa pu li : Int) (w : World) (h1 : 0 ≤ cr ∧ cr ≤ 1023) (h2 : 1 ≤ ah ∧ ah ≤ 127) (h3 : 1 ≤ pa ∧ pa ≤ 1000) (h4 : 0 ≤ pu ∧ pu ≤ 1000) (h5 : 1 ≤ li ∧ li ≤ 100) :
    Calls Try.prog 23 #[.int .i64 cr, .int .i64 ah, .int .i64 pa, .int .i64 pu, .int .i64 li] w fun e w' => e = .returned (.tuple #[.agg (hcells cr 0 ah (.slice none 0 0) (.slice none 0 0) 0 pa 0 li pu pu 0), .int .i64 0]) ∧ Below w.heap.size w w' := by
  go_enter Try.func23, Try.ntmps23
  go_wp2_with fail
  refine (in_yes _ _ _ _ h1).mono ?_
  rintro e w' ⟨rfl, rfl⟩
  go_wp2_with fail
  refine (in_yes _ _ _ _ h2).mono ?_
  rintro e w' ⟨rfl, rfl⟩
  go_wp2_with fail
  refine (in_yes _ _ _ _ h3).mono ?_
  rintro e w' ⟨rfl, rfl⟩
  go_wp2_with fail
  refine (in_yes _ _ _ _ h4).mono ?_
  rintro e w' ⟨rfl, rfl⟩
  go_wp2_with fail
  refine (in_yes _ _ _ _ h5).mono ?_
  rintro e w' ⟨rfl, rfl⟩
  go_wp2_with fail
  have A := heap_alloc_new w (.cells (hcells cr 0 ah (.slice none 0 0) (.slice none 0 0) 0 pa 0 li pu pu 0) 36)
  have B := below_alloc w (.cells (hcells cr 0 ah (.slice none 0 0) (.slice none 0 0) 0 pa 0 li pu pu 0) 36)
  obtain ⟨g0, g1, g2, g3, g4, g5, g6, g7, g8, g9, g10, g11⟩ := hAt_row A
  unfold hcells at *
  generalize w.alloc (.cells #[.int .i64 cr, .int .i64 0, .int .i64 ah, .slice none 0 0, .slice none 0 0, .int .i64 0, .int .i64 pa, .int .i64 0, .int .i64 li, .int .i64 pu, .int .i64 pu, .int .i64 0] 36) = V at *
  refine bodyPost_ret (by simp only [results, Try.results23, go_sem]; simp [go_sem, g0, g1, g2, g3, g4, g5, g6, g7, g8, g9, g10, g11]; rfl) rfl ?_
  exact ⟨rfl, B⟩

theorem contains_nil (f : Value) (w : World) : Calls Try.prog 40 #[.slice none 0 0, f] w fun e w' => e = .returned (.bool false) ∧ w = w' := by
  go_enter Try.func40, Try.ntmps40
  go_wp2_with fail
  refine (show Calls Try.prog 42 #[.slice none 0 0, f] w fun e w' => e = .returned (.int .i64 (-1)) ∧ w = w' from ?_).mono ?_
  · go_enter Try.func42, Try.ntmps42
    go_wp2_with fail
    refine wp_loop_rounds 1 ?_
    rw [rounds_succ]
    go_wp2_with fail
    go_ret
    exact ⟨rfl, rfl⟩
  · rintro e w' ⟨rfl, rfl⟩
    go_wp2_with fail
    go_ret
    exact ⟨rfl, rfl⟩
theorem clone_nil34 (w : World) : Calls Try.prog 41 #[.slice none 0 0] w fun e w' => e = .returned (.slice none 0 0) ∧ w = w' := by
  have hk := fun (w : World) => Lib.run_eql_slice_nil (P := Try.prog) w 34 31 none 0 0 0 0 Try.underlying34
  go_enter Try.func41, Try.ntmps41
  go_wp2
  go_ret
  exact ⟨rfl, rfl⟩
theorem clones_nil (w : World) : Calls Try.prog 31 #[.slice none 0 0] w fun e w' => e = .returned (.slice none 0 0) ∧ w = w' := by
  go_enter Try.func31, Try.ntmps31
  go_wp2_with fail
  refine (clone_nil34 w).mono ?_
  rintro e w' ⟨rfl, rfl⟩
  go_wp2_with fail
  refine wp_loop_rounds 1 ?_
  rw [rounds_succ]
  go_wp2_with fail
  go_ret
  exact ⟨rfl, rfl⟩

/-- the hand that is freed -/
def h0c : Array Value := hcells 9 0 1 (.slice none 0 0) (.slice none 0 0) 0 1 0 1 0 0 15

theorem ready_h0 (w : World) : Calls Try.prog 30 #[.agg h0c] w fun e w' => e = .returned (.bool true) ∧ Below w.heap.size w w' := by
  have A := heap_alloc_new w (.cells h0c 36)
  have BA := below_alloc w (.cells h0c 36)
  go_enter Try.func30, Try.ntmps30
  unfold h0c at *
  unfold hcells at *
  go_wp2_with fail
  generalize w.alloc (.cells #[.int .i64 9, .int .i64 0, .int .i64 1, .slice none 0 0, .slice none 0 0, .int .i64 0, .int .i64 1, .int .i64 0, .int .i64 1, .int .i64 0, .int .i64 0, .int .i64 15] 36) = W at *
  refine (ready_is 9 1 1 0 1 W (by decide) (by decide) (by decide) (by decide) (by decide)).mono ?_
  rintro e V ⟨rfl, B⟩
  have A := row_below A B
  have BV := BA.trans (B.mono BA.size)
  unfold hcells
  have bN := below_alloc V (.cells (hcells 9 0 1 (.slice none 0 0) (.slice none 0 0) 0 1 0 1 0 0 0) 36)
  have A := row_below A bN
  have BV := BV.trans (bN.mono BV.size)
  unfold hcells at *
  obtain ⟨c0, c1, c2, c3, c4, c5, c6, c7, c8, c9, c10, c11⟩ := hAt_row A
  clear BA B bN A
  go_wp2_with fail
  generalize V.alloc (.cells #[.int .i64 9, .int .i64 0, .int .i64 1, .slice none 0 0, .slice none 0 0, .int .i64 0, .int .i64 1, .int .i64 0, .int .i64 1, .int .i64 0, .int .i64 0, .int .i64 0] 36) = W2 at *
  refine (in_yes _ _ _ _ (by decide)).mono ?_
  rintro e w' ⟨rfl, rfl⟩
  go_wp2_with fail
  refine (contains_nil _ _).mono ?_
  rintro e w' ⟨rfl, rfl⟩
  go_wp2_with fail
  refine (contains_nil _ _).mono ?_
  rintro e w' ⟨rfl, rfl⟩
  go_wp2_with fail
  refine (in_yes _ _ _ _ (by decide)).mono ?_
  rintro e w' ⟨rfl, rfl⟩
  go_wp2_with fail
  refine (in_yes _ _ _ _ (by decide)).mono ?_
  rintro e w' ⟨rfl, rfl⟩
  go_wp2_with fail
  refine (in_yes _ _ _ _ (by decide)).mono ?_
  rintro e w' ⟨rfl, rfl⟩
  go_wp2_with fail
  go_ret
  exact ⟨rfl, BV⟩
end Go.Proofs.Ytkngoomkmbkenaa
