/- Stream: what Listen keeps from piece to piece. -/
import Derived.Test.YtlbpmepifegeiaaLis
import Derived.Test.YtlbpmepifegeiaaNewI
import Derived.Test.YtlbpmepifegeiaaMarks
namespace Go.Proofs.Ytlbpmepifegeiaa
set_option linter.unusedVariables false
set_option linter.unusedSimpArgs false
open Go.RowKit

/-- Listen's frame at the head of its loop -/
def lisF (AG : Value) (pa : Option Addr) (pn pc b sb : Nat) (aa : Option Addr) (k ac : Nat) (qa : Option Addr) (qc : Nat) (la : Option Addr) (lc : Nat) (y : Nat → Value) : Array Value :=
  #[AG, .slice pa pn pc, .pointer (some ⟨b, 0, none⟩), undef, .slice aa k ac, .slice qa k qc, .slice la k lc, .int .i64 0, .pointer (some ⟨sb, 0, none⟩), .nilIface, undef, y 11, y 12, y 13, y 14, y 15, y 16,
    .tuple #[.pointer (some ⟨sb, 0, none⟩), .nilIface], AG, .tuple #[.pointer (some ⟨sb, 0, none⟩), .nilIface], .pointer (some ⟨sb, 0, none⟩), .nilIface, .nilIface, .bool false, undef, undef, .pointer (some ⟨sb, 0, none⟩), .bool false, .slice pa pn pc, .int .i64 (pn : Int), .int .i64 (k : Int),
    y 31, y 32, y 33, y 34, y 35, y 36, y 37, y 38, y 39, y 40, y 41, y 42, y 43, y 44, y 45, y 46, y 47, y 48, y 49, y 50, y 51, y 52, y 53, y 54, y 55, y 56, y 57, y 58, y 59, y 60, y 61, y 62, y 63, y 64, undef, undef, undef]

/-- what Listen keeps -/
structure LisI (r : Rl) (sb : Nat) (w W : World) (pss : List (List Nat)) (aa : Option Addr) (k ac : Nat) (qa : Option Addr) (qc : Nat) (la : Option Addr) (lc : Nat) (ds : List Deferred)
    (ha hq : List Hd) (FA FQ : List (List Fd)) (los : List Bool) (s : SyV) (C : List Nat) : Prop where
  colA : ColAt W w.heap.size (SyB s sb) aa k ac ha FA
  colQ : ColAt W w.heap.size (SyB s sb) qa k qc hq FQ
  apart : ∀ j, (Value.slice aa k ac).ownBlock = some j → (Value.slice qa k qc).ownBlock ≠ some j
  same : FA.map (·.map Fd.fo) = FQ.map (·.map Fd.fo)
  lo : W.ownsRow w.heap.size 4 1 (.slice la k lc) k (los.map Value.bool)
  sy : SyIn W sb s C
  rl : rl s = r
  fn : s.fa = none ∧ s.fn = 0 ∧ s.fc = 0
  lis : Lis r [] (core (SyV.new r.L r.F r.H r.M)) (pss.take k) (FA.map (·.map Fd.fo)) los C (core s)
  inv : MInv r C s.base 0 (core s)
  bw : ∀ j, (Value.slice s.ba s.bn s.bc).ownBlock = some j → w.heap.size ≤ j
  sbw : w.heap.size ≤ sb
  blw : Below w.heap.size w W
  marks : Marks w.heap.size ds W

theorem Lis.cLen {r : Rl} {B : List Nat} {m : Ms} {pss : List (List Nat)} {fss : List (List Fo)} {los : List Bool} {C : List Nat} {m1 : Ms} (h : Lis r B m pss fss los C m1) : C = B ++ par pss.flatten := by
  induction h with
  | nil => simp [par]
  | snoc h1 h2 ih => rw [ih]; simp [par]
theorem All2.len {α β : Type} {R : α → β → Prop} {l : List α} {m : List β} (h : All2 R l m) : l.length = m.length := by
  induction h with
  | nil => rfl
  | cons _ _ ih => simp [ih]
theorem All2.get {α β : Type} {R : α → β → Prop} {l : List α} {m : List β} (h : All2 R l m) : ∀ (k : Nat) (hk : k < l.length) (hm : k < m.length), R l[k] m[k] := by
  induction h with
  | nil => intro k hk; simp at hk
  | cons h1 _ ih =>
    intro k hk hm
    cases k with
    | zero => exact h1
    | succ k => exact ih k (by simpa using hk) (by simpa using hm)
theorem PcsAt.len {W : World} {pa : Option Addr} {pn pc : Nat} {hs : List Hd} {pss : List (List Nat)} (h : PcsAt W pa pn pc hs pss) : pss.length = pn := by
  have h1 := h.rd.len
  rw [List.length_map, h.each.len] at h1
  exact h1
theorem PcsAt.piece {W : World} {pa : Option Addr} {pn pc : Nat} {hs : List Hd} {pss : List (List Nat)} (h : PcsAt W pa pn pc hs pss) (k : Nat) (hk : k < pn) :
    ∃ b off qa qn qc, pa = some ⟨b, off, none⟩ ∧ b < W.heap.size ∧ W.cell? ⟨b, off + k, none⟩ = some (.slice qa qn qc) ∧ Rd W qa qn qc (vb (pss.getD k [])) ∧ AllB (pss.getD k []) ∧ pss.take (k + 1) = pss.take k ++ [pss.getD k []] ∧ (pss.take k).flatten.length + (pss.getD k []).length ≤ pss.flatten.length := by
  have hl := h.len
  have hl2 := h.each.len
  obtain ⟨b, off, h1, h2, h3⟩ := h.rd.mem (by omega)
  have h4 := h.each.get k (by omega) (by omega)
  have h5 := h3 k (by omega)
  rw [List.getElem?_map, List.getElem?_eq_getElem (by omega)] at h5
  have e : pss.getD k [] = pss[k] := by rw [List.getD_eq_getElem?_getD, List.getElem?_eq_getElem (by omega)]; rfl
  have e2 : pss.take (k + 1) = pss.take k ++ [pss.getD k []] := by rw [List.take_add_one, e, List.getElem?_eq_getElem (by omega)]; rfl
  refine ⟨b, off, hs[k].1, hs[k].2.1, hs[k].2.2, h1, h2, h5, by rw [e]; exact h4.1, by rw [e]; exact h4.2, e2, ?_⟩
  have h6 : pss.flatten = (pss.take (k + 1)).flatten ++ (pss.drop (k + 1)).flatten := by rw [← List.flatten_append, List.take_append_drop]
  rw [h6, e2]
  simp
theorem PcsAt.below {W W' : World} {pa : Option Addr} {pn pc : Nat} {hs : List Hd} {pss : List (List Nat)} (h : PcsAt W pa pn pc hs pss) (hb : Below W.heap.size W W') : PcsAt W' pa pn pc hs pss :=
  ⟨h.rd.below hb, forall2_imp (fun _ _ y => ⟨y.1.below hb, y.2⟩) h.each⟩
end Go.Proofs.Ytlbpmepifegeiaa
