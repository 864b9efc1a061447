/- frame: the ears of a listener. -/
import Derived.Test.YtjiipmalahhcpaaCarries18
import Derived.Laws.CopyOwn
import Derived.WalkKit
namespace Go.Proofs.Ytjiipmalahhcpaa
set_option linter.unusedVariables false
open Go.RowKit

structure ES where
  nx : Int
  ra : Option Addr
  rn : Nat
  rc : Nat
  rs : List Nat
structure LE where
  nx : Int
  rs : List Nat
def ES.abs (e : ES) : LE := ⟨e.nx, e.rs⟩
structure LE.Ok (x : LE) : Prop where
  lo : -1 ≤ x.nx
  hi : x.nx ≤ 255
  len : x.rs.length ≤ 65541
  nil : x.nx < 0 → x.rs = []
  all : AllB x.rs
def ecell (e : Nat → ES) (j : Nat) : Value := if j % 2 = 0 then .int .i64 (e (j / 2)).nx else .slice (e (j / 2)).ra (e (j / 2)).rn (e (j / 2)).rc
/-- a block that holds seven ears -/
structure EB7 (W : World) (eb : Nat) (e : Nat → ES) : Prop where
  ex : ∃ cs : Array Value, W.heap[eb]? = some (.cells cs 83) ∧ 14 ≤ cs.size ∧ ∀ j, j < 14 → cs[j]? = some (ecell e j)
theorem EB7.cell {W : World} {eb : Nat} {e : Nat → ES} (h : EB7 W eb e) (c : Nat) (hc : c < 7) :
    W.cell? ⟨eb, c * 2, none⟩ = some (.int .i64 (e c).nx) ∧ W.cell? ⟨eb, c * 2 + 1, none⟩ = some (.slice (e c).ra (e c).rn (e c).rc) ∧ (∀ o, W.frozen? ⟨eb, o, none⟩ = false) := by
  obtain ⟨cs, h1, _, h2⟩ := h.ex
  refine ⟨?_, ?_, frozen_row h1⟩
  · rw [cell_of_row _ _ _ _ _ _ h1, h2 _ (by omega)]
    unfold ecell
    rw [if_pos (by omega), show c * 2 / 2 = c by omega]
  · rw [cell_of_row _ _ _ _ _ _ h1, h2 _ (by omega)]
    unfold ecell
    rw [if_neg (by omega), show (c * 2 + 1) / 2 = c by omega]
theorem EB7.lt {W : World} {eb : Nat} {e : Nat → ES} (h : EB7 W eb e) : eb < W.heap.size := by
  obtain ⟨cs, h1, _⟩ := h.ex
  exact row_lt h1
theorem EB7.below {W W' : World} {eb : Nat} {e : Nat → ES} (h : EB7 W eb e) (hb : Below W.heap.size W W') : EB7 W' eb e := by
  obtain ⟨cs, h1, h2⟩ := h.ex
  exact ⟨cs, row_below h1 hb, h2⟩
theorem EB7.kept {W W' : World} {eb : Nat} {e : Nat → ES} {row : Option Nat} (h : EB7 W eb e) (hg : W.grownBy W' row) (hne : row ≠ some eb) : EB7 W' eb e := by
  obtain ⟨cs, h1, h2⟩ := h.ex
  exact ⟨cs, (hg.block eb (row_lt h1) (fun e => hne e.symm)).trans h1, h2⟩
theorem EB7.other {W W' : World} {eb k T : Nat} {e : Nat → ES} {cs : Array Value} (h : EB7 W eb e) (hg : W.grownBy W' (some k)) (hk : W.heap[k]? = some (.cells cs T)) (hT : T ≠ 83) : EB7 W' eb e := by
  obtain ⟨c2, h1, h2⟩ := h.ex
  exact ⟨c2, row_grown h1 hg (ne_tt h1 hk (fun e => hT e.symm)), h2⟩
theorem EB7.congr {W : World} {eb : Nat} {e e' : Nat → ES} (h : EB7 W eb e) (he : ∀ c, c < 7 → (e c).nx = (e' c).nx ∧ (e c).ra = (e' c).ra ∧ (e c).rn = (e' c).rn ∧ (e c).rc = (e' c).rc) : EB7 W eb e' := by
  obtain ⟨cs, h1, h2, h3⟩ := h.ex
  refine ⟨cs, h1, h2, fun j hj => ?_⟩
  rw [h3 j hj]
  obtain ⟨e1, e2, e3, e4⟩ := he (j / 2) (by omega)
  unfold ecell
  rw [e1, e2, e3, e4]
theorem EB7.set {W : World} {eb : Nat} {e : Nat → ES} (h : EB7 W eb e) (c k : Nat) (hc : c < 7) (hk : k < 2) (e' : Nat → ES) (v : Value) (hv : v = ecell e' (c * 2 + k)) (hq : ∀ j, j < 14 → j ≠ c * 2 + k → ecell e' j = ecell e j) :
    EB7 (W.setCell ⟨eb, c * 2 + k, none⟩ v) eb e' ∧ W.grownBy (W.setCell ⟨eb, c * 2 + k, none⟩ v) (some eb) := by
  obtain ⟨cs, h1, h2, h3⟩ := h.ex
  obtain ⟨h4, h5⟩ := set_row h1 (c * 2 + k) v rfl
  refine ⟨⟨_, h4, by simpa using h2, fun j hj => ?_⟩, h5⟩
  rw [Array.getElem?_setIfInBounds]
  by_cases ej : c * 2 + k = j
  · subst ej
    rw [if_pos rfl, if_pos (by omega), hv]
  · rw [if_neg ej, hq j hj (fun h => ej h.symm)]
    exact h3 j hj
def setE (e : Nat → ES) (c : Nat) (x : ES) : Nat → ES := fun i => if i = c then x else e i
theorem setE_self (e : Nat → ES) (c : Nat) (x : ES) : setE e c x c = x := if_pos rfl
theorem setE_ne (e : Nat → ES) {c i : Nat} (x : ES) (h : i ≠ c) : setE e c x i = e i := if_neg h
theorem EB7.putn {W : World} {eb c : Nat} {e : Nat → ES} (h : EB7 W eb e) (hc : c < 7) (n : Int) :
    EB7 (W.setCell ⟨eb, c * 2, none⟩ (.int .i64 n)) eb (setE e c ⟨n, (e c).ra, (e c).rn, (e c).rc, (e c).rs⟩) ∧ W.grownBy (W.setCell ⟨eb, c * 2, none⟩ (.int .i64 n)) (some eb) :=
  h.set c 0 hc (by omega) _ _ (by
    unfold ecell
    rw [if_pos (by omega), show (c * 2 + 0) / 2 = c by omega, setE_self]) (fun j hj hne => by
    unfold ecell
    by_cases ej : j / 2 = c
    · rw [ej, setE_self]
      have h3 : ¬ j % 2 = 0 := by omega
      rw [if_neg h3, if_neg h3]
    · rw [setE_ne _ _ ej])
theorem EB7.putr {W : World} {eb c : Nat} {e : Nat → ES} (h : EB7 W eb e) (hc : c < 7) (ra : Option Addr) (rn rc : Nat) (rs : List Nat) :
    EB7 (W.setCell ⟨eb, c * 2 + 1, none⟩ (.slice ra rn rc)) eb (setE e c ⟨(e c).nx, ra, rn, rc, rs⟩) ∧ W.grownBy (W.setCell ⟨eb, c * 2 + 1, none⟩ (.slice ra rn rc)) (some eb) :=
  h.set c 1 hc (by omega) _ _ (by
    unfold ecell
    rw [if_neg (by omega), show (c * 2 + 1) / 2 = c by omega, setE_self]) (fun j hj hne => by
    unfold ecell
    by_cases ej : j / 2 = c
    · rw [ej, setE_self]
      have h3 : j % 2 = 0 := by omega
      rw [if_pos h3, if_pos h3]
    · rw [setE_ne _ _ ej])
theorem Try.info83 : (Try.prog.info? 83).map (fun i => (i.zero, i.size, i.bytes)) = some (some (.agg #[.int .i64 0, .slice none 0 0]), 2, 32) := by kernel_rfl
theorem Try.underlying50 : Try.prog.underlying 50 = some (.slice 83) := by kernel_rfl
set_option maxRecDepth 1000000 in
theorem cloneE (eb cap : Nat) (e : Nat → ES) (w : World) (hq : EB7 w eb e) :
    Calls Try.prog 39 #[.slice (some ⟨eb, 0, none⟩) 7 cap] w fun en w' => ∃ g c, en = .returned (.slice (some ⟨g, 0, none⟩) 7 c) ∧ 7 ≤ c ∧ c ≤ maxLen ∧ w.heap.size ≤ g ∧ EB7 w' g e ∧ Below w.heap.size w w' := by
  obtain ⟨i0, hi, hz0, hz1, hz2⟩ := info_parts Try.info83
  have hk := fun (w : World) => Lib.run_eql_slice_nil (P := Try.prog) w 50 83 (some ⟨eb, 0, none⟩) 7 cap 0 0 Try.underlying50
  have hn0 : (w.alloc (.cells #[] 83)).ownsRow w.heap.size 83 2 (.slice (some ⟨w.heap.size, 0, none⟩) 0 0) 0 [] := World.ownsRow_lit (base := w.heap.size) (e := 83) (size := 2) w #[] 0 (Nat.le_refl _) (Nat.zero_le _) rfl
  obtain ⟨xs, hxs⟩ : ∃ xs, xs = (List.range 14).map (ecell e) := ⟨_, rfl⟩
  have hlen : xs.length = 7 * 2 := by rw [hxs]; simp
  have hone : ∀ u ∈ xs, u.oneCell' = true := by
    intro u hu
    rw [hxs] at hu
    obtain ⟨j, _, rfl⟩ := List.mem_map.1 hu
    unfold ecell
    split <;> rfl
  have hget : ∀ j, j < 14 → xs[j]? = some (ecell e j) := fun j hj => by rw [hxs, List.getElem?_map, List.getElem?_range hj]; rfl
  have hcells : ∀ (j : Nat) (u : Value), xs[j]? = some u → (w.alloc (.cells #[] 83)).cell? ((⟨eb, 0, none⟩ : Addr).add j) = some u := by
    intro j u hj
    have hl := (List.getElem?_eq_some_iff.1 hj).1
    rw [hget j (by omega)] at hj
    obtain ⟨cs, h1, _, h2⟩ := hq.ex
    rw [Addr.add_lit, Nat.zero_add, cell_of_row _ _ _ _ _ _ (row_below h1 (below_alloc w (.cells #[] 83))), h2 j (by omega)]
    exact hj
  have HQ : Hid (∀ (W : World) (g c : Nat), W.ownsRow w.heap.size 83 2 (.slice (some ⟨g, 0, none⟩) 7 c) 7 xs → 7 ≤ c ∧ c ≤ maxLen ∧ w.heap.size ≤ g ∧ EB7 W g e) := fun W g c h => by
    rcases h.2 with ⟨h3, h0⟩ | ⟨g1, cap1, cur, h3, h4, h5, h6, h7, h8, _⟩
    · cases h3
    · cases h3
      refine ⟨h6, h7, h4, cur, h5, by omega, fun j hj => ?_⟩
      have := h.cellAt j (by omega)
      rw [cell_of_row _ _ _ _ _ _ h5] at this
      rw [this, hget j hj]
  clear hq hxs hget
  go_enter Try.func39, Try.ntmps39
  go_wp2_with (at_builtin; refine wpList_append_own _ rfl _ _ 50 rfl w.heap.size 83 i0 _ 2 32 Try.underlying50 hi hz0 hz1 hz2 rfl (by decide) _ 0 [] rfl hn0 ⟨eb, 0, none⟩ 7 cap xs rfl ?c1 hcells hone ?c2 ?c3 ?c4 ?_)
  case c1 => exact hlen
  case c2 => unfold maxLen; omega
  case c3 => omega
  case c4 => simp
  intro v' w1 hown' hg hnil
  obtain ⟨ao, c, rfl, hc1, hc2, hc3⟩ := own_form hown'
  rcases hc3 with ⟨rfl, h0, h1⟩ | ⟨g, rfl, hg1, hg2⟩
  · exfalso
    omega
  have HG := hid (((Below.refl w.heap.size w).alloc (Nat.le_refl _) (.cells #[] 83)).grown hg (by simp) (fun k e => by cases e; exact Nat.le_refl _))
  have HOw := hid (HQ.out _ _ _ hown')
  clear hown' hg hnil HQ
  go_wp2
  go_ret
  obtain ⟨k1, k2, k3, k4⟩ := HOw.out
  exact ⟨g, c, rfl, k1, k2, k3, k4, HG.out⟩
end Go.Proofs.Ytjiipmalahhcpaa
/- copy of elements of several cells each. -/
namespace Go.Proofs.Ytjiipmalahhcpaa
set_option linter.unusedVariables false
open Go.RowKit

theorem run_copy_wide {P : Program} (w : World) (dT sT ty elem : TypeId) (g o dLen dCap k n : Nat) (a : Addr) (sLen sCap : Nat) (cur : Array Value) (t : TypeId) (cs : List Value)
    (hu : P.underlying dT = some (.slice elem)) (hs : (P.info? elem).map (·.size) = some k)
    (hg : w.heap[g]? = some (.cells cur t (0, 0))) (hn : n = Nat.min sLen dLen) (hc : cs.length = n * k)
    (hsrc : ∀ j v, cs[j]? = some v → w.cell? (a.add j) = some v) (hfit : o + cs.length ≤ cur.size) (h1 : ∀ v ∈ cs, v.oneCell' = true) :
    (Builtin.copy_ #[dT, sT] ty #[.slice (some ⟨g, o, none⟩) dLen dCap, .slice (some a) sLen sCap]).run P w =
      .ok (goInt n) (w.setRow g (cur.toList.take o ++ cs ++ cur.toList.drop (o + cs.length)).toArray) := by
  have hl := run_loadCells_list (P := P) w a cs hsrc
  have hst := run_storeCells_at P g o t cs 0 cur w hg (by simpa using hfit) h1
  rw [Nat.add_zero] at hst
  cases hq : P.info? elem with
  | none => simp [hq] at hs
  | some i =>
    have hi : i.size = k := by simpa [hq] using hs
    rw [hc] at hl
    simp [Builtin.copy_, run_underlying hu, Builtin.lenOf, Builtin.firstCells, sizeOf, typeInfo, hq, hi, ← hn, hl, hst]
theorem wp_copy_wide {P : Program} {w : World} {o : Oper} {a : Act} {K : Act → World → Prop} {Q : Exit → Act → World → Prop} (d s : Operand) (dT sT : TypeId)
    (ho : o.op = .call { callee := .builtin .copy, args := #[d, s], argTypes := #[dT, sT] }) (elem : TypeId) (k n : Nat) (hu : P.underlying dT = some (.slice elem)) (hsz : (P.info? elem).map (·.size) = some k)
    (g off dLen dCap : Nat) (ad : Addr) (sLen sCap : Nat) (hd : a.eval d = .slice (some ⟨g, off, none⟩) dLen dCap) (hs : a.eval s = .slice (some ad) sLen sCap)
    (cur : Array Value) (t : TypeId) (hg : w.heap[g]? = some (.cells cur t (0, 0))) (cs : List Value) (hn : n = Nat.min sLen dLen) (hc : cs.length = n * k)
    (hsrc : ∀ j v, cs[j]? = some v → w.cell? (ad.add j) = some v) (hfit : off + cs.length ≤ cur.size) (h1 : ∀ v ∈ cs, v.oneCell' = true)
    (h : K (a.put o.dst (goInt n)) (w.setRow g (cur.toList.take off ++ cs ++ cur.toList.drop (off + cs.length)).toArray)) : o.wp P a w K Q := by
  have hrun := run_copy_wide (P := P) w dT sT o.type elem g off dLen dCap k n ad sLen sCap cur t cs hu hsz hg hn hc hsrc hfit h1
  unfold Oper.wp
  simp [execOp, ho, resolve, invoke, builtin, hd, hs, hrun, Result.andThen]
  show K _ _
  simpa using h
theorem wpList_copy_wide {P : Program} {w : World} {ops : Array Oper} {rest : List Oper} {o : Oper} {a : Act} {Q : Exit → Act → World → Prop} (hgd : o.guard = none) (d s : Operand) (dT sT : TypeId)
    (ho : o.op = .call { callee := .builtin .copy, args := #[d, s], argTypes := #[dT, sT] }) (elem : TypeId) (k n : Nat) (hu : P.underlying dT = some (.slice elem)) (hsz : (P.info? elem).map (·.size) = some k)
    (g off dLen dCap : Nat) (ad : Addr) (sLen sCap : Nat) (hd : a.eval d = .slice (some ⟨g, off, none⟩) dLen dCap) (hs : a.eval s = .slice (some ad) sLen sCap)
    (cur : Array Value) (t : TypeId) (hg : w.heap[g]? = some (.cells cur t (0, 0))) (cs : List Value) (hn : n = Nat.min sLen dLen) (hc : cs.length = n * k)
    (hsrc : ∀ j v, cs[j]? = some v → w.cell? (ad.add j) = some v) (hfit : off + cs.length ≤ cur.size) (h1 : ∀ v ∈ cs, v.oneCell' = true)
    (h : wpList P ops Q rest (a.put o.dst (goInt n)) (w.setRow g (cur.toList.take off ++ cs ++ cur.toList.drop (off + cs.length)).toArray)) : wpList P ops Q (o :: rest) a w := by
  refine wpList_plain hgd fun K hK => ?_
  exact wp_copy_wide d s dT sT ho elem k n hu hsz g off dLen dCap ad sLen sCap hd hs cur t hg cs hn hc hsrc hfit h1 (hK _ _ h)
end Go.Proofs.Ytjiipmalahhcpaa
/- The walk stops at the operation that fills a given slot. -/
namespace Go.Proofs.Ytjiipmalahhcpaa
set_option linter.unusedVariables false
open Go.RowKit

theorem at_dst {P : Program} {ops : Array Oper} {Q : Exit → Act → World → Prop} {rest : List Oper} {a : Act} {w : World} (d : Nat) {op : Op} {t : TypeId} {pos : String} {after : Array Edge} {guard : Option (Nat × Bool)}
    (h : Hid (wpList P ops Q ({ dst := some d, op := op, type := t, pos := pos, after := after, guard := guard } :: rest) a w)) : wpList P ops Q ({ dst := some d, op := op, type := t, pos := pos, after := after, guard := guard } :: rest) a w := h
end Go.Proofs.Ytjiipmalahhcpaa
