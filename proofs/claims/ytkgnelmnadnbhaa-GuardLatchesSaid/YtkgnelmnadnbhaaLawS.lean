/- GuardLatches: the law makes its guard. -/
import Derived.Test.YtkgnelmnadnbhaaFigG
import Derived.Test.YtkgnelmnadnbhaaRegionN
namespace Go.Proofs.Ytkgnelmnadnbhaa
set_option linter.unusedVariables false
open Go.RowKit

def mon0 : Mon := ⟨0, 2, 3, ⟨#[98, 97, 100]⟩⟩
def monI (zs : List Int) (i : Nat) : Mon := ⟨i % 3, 1 + pk (zs.getD i 0) 6, 1 + pk ((zs.getD i 0).tdiv 7) 3, ⟨#[109]⟩ ++ strB [48 + i]⟩
def monsTo (zs : List Int) : Nat → List Mon
  | 0 => [mon0]
  | j + 1 => monsTo zs j ++ [monI zs j]
theorem monsTo_len (zs : List Int) : ∀ j, (monsTo zs j).length = j + 1
  | 0 => rfl
  | j + 1 => by unfold monsTo; rw [List.length_append, monsTo_len zs j]; rfl
theorem monsTo_all {p : Mon → Prop} (zs : List Int) (h0 : p mon0) (h : ∀ i, i < 8 → p (monI zs i)) : ∀ j, j ≤ 8 → ∀ k, k < j + 1 → p (mAt (monsTo zs j) k)
  | 0, _, k, hk => by
    obtain rfl : k = 0 := by omega
    exact h0
  | j + 1, hj, k, hk => by
    unfold mAt
    have hl := monsTo_len zs j
    rw [List.getD_eq_getElem?_getD]
    unfold monsTo
    by_cases e : k < j + 1
    · rw [List.getElem?_append_left (by omega), ← List.getD_eq_getElem?_getD]
      exact monsTo_all zs h0 h j (by omega) k e
    · obtain rfl : k = j + 1 := by omega
      rw [List.getElem?_append_right (by omega), hl, Nat.sub_self]
      exact h j (by omega)
theorem good_name (i : Nat) (hi : i < 8) : GoodName (⟨#[109]⟩ ++ strB [48 + i]) := by
  rcases (show i = 0 ∨ i = 1 ∨ i = 2 ∨ i = 3 ∨ i = 4 ∨ i = 5 ∨ i = 6 ∨ i = 7 by omega) with rfl | rfl | rfl | rfl | rfl | rfl | rfl | rfl <;> (unfold GoodName; decide)
theorem mon_good (zs : List Int) : ∀ j, j ≤ 8 → ∀ k, k < j + 1 → (mAt (monsTo zs j) k).Good :=
  monsTo_all (p := Mon.Good) zs ⟨by decide, by decide, by decide, by decide, by decide, by
    show GoodName ⟨#[98, 97, 100]⟩
    unfold GoodName
    decide⟩ (fun i hi => by
    have h1 := pk_lt (zs.getD i 0) 6 (by decide)
    have h2 := pk_lt ((zs.getD i 0).tdiv 7) 3 (by decide)
    exact ⟨Nat.mod_lt _ (by decide), by show 1 ≤ 1 + _; omega, by show 1 + _ ≤ 6; omega, by show 1 ≤ 1 + _; omega, by show 1 + _ ≤ 3; omega, good_name i hi⟩)
theorem mon_name (zs : List Int) : ∀ j, j ≤ 8 → ∀ k, k < j + 1 → (mAt (monsTo zs j) k).name ≠ ⟨#[115, 97, 102, 101]⟩ :=
  monsTo_all (p := fun m => m.name ≠ ⟨#[115, 97, 102, 101]⟩) zs (by decide) (fun i hi h => by
    have e : (⟨#[109]⟩ ++ strB [48 + i] : ByteArray) = ⟨#[109, UInt8.ofNat (48 + i)]⟩ := rfl
    have h1 : (⟨#[109]⟩ ++ strB [48 + i] : ByteArray) = ⟨#[115, 97, 102, 101]⟩ := h
    rw [e] at h1
    have := congrArg ByteArray.size h1
    simp [ByteArray.size] at this)
theorem mc_len (m : Mon) : (mc m).length = 6 := rfl
theorem mc_one (m : Mon) : ∀ u ∈ mc m, u.oneCell' = true := by
  intro u hu
  simp only [mc, List.mem_cons, List.not_mem_nil, or_false] at hu
  rcases hu with rfl | rfl | rfl | rfl | rfl | rfl <;> rfl
/-- the guard while it is made -/
structure GB (w0 W : World) (H sil most win : Nat) (zs : List Int) (j : Nat) (g cap : Nat) : Prop where
  blw : Below w0.heap.size w0 W
  bH : w0.heap.size ≤ H
  row : W.heap[H]? = some (.cells #[.slice (some ⟨g, 0, none⟩) (j + 1) cap, .int .i64 (sil : Int), .int .i64 (most : Int), .int .i64 (win : Int), .string ⟨#[115, 97, 102, 101]⟩] 27)
  own : W.ownsRow w0.heap.size 29 6 (.slice (some ⟨g, 0, none⟩) (j + 1) cap) (j + 1) ((monsTo zs j).flatMap mc)
/-- the slots -/
structure SF (y : Nat → Value) (fa : Option Addr) (fn fc : Nat) (aL : Option Addr) (nL cL H i : Nat) : Prop where
  s0 : y 0 = .slice fa fn fc
  s4 : y 4 = .slice aL nL cL
  s11 : y 11 = .pointer (some ⟨H, 0, none⟩)
  s12 : y 12 = .int .i64 (i : Int)
/-- a monitor was added, its header stored -/
theorem GB.step {w0 W W' : World} {H sil most win : Nat} {zs : List Int} {j g cap g2 cap2 : Nat} (h : GB w0 W H sil most win zs j g cap) (hg : W.grownBy W' (some g)) (ho : W'.ownsRow w0.heap.size 29 6 (.slice (some ⟨g2, 0, none⟩) (j + 1 + 1) cap2) (j + 1 + 1) ((monsTo zs j).flatMap mc ++ mc (monI zs j))) :
    GB w0 (W'.setCell ⟨H, 0, none⟩ (.slice (some ⟨g2, 0, none⟩) (j + 1 + 1) cap2)) H sil most win zs (j + 1) g2 cap2 := by
  have hr : W'.heap[H]? = _ := row_kept h.row h.own hg (by decide)
  obtain ⟨q1, q2⟩ := set_row (cs' := #[.slice (some ⟨g2, 0, none⟩) (j + 1 + 1) cap2, .int .i64 (sil : Int), .int .i64 (most : Int), .int .i64 (win : Int), .string ⟨#[115, 97, 102, 101]⟩]) hr 0 (.slice (some ⟨g2, 0, none⟩) (j + 1 + 1) cap2) rfl
  have hgb : ∀ k, (some g : Option Nat) = some k → w0.heap.size ≤ k := fun k e => (h.own.lt k e).1
  refine ⟨(h.blw.grown hg h.blw.size hgb).grown q2 (h.blw.grown hg h.blw.size hgb).size (fun k e => by cases e; exact h.bH), h.bH, q1, ?_⟩
  have e : (monsTo zs (j + 1)).flatMap mc = (monsTo zs j).flatMap mc ++ mc (monI zs j) := flat_snoc mc _ _
  rw [e]
  exact ho.kept q2 (own_ne ho hr (by decide))
end Go.Proofs.Ytkgnelmnadnbhaa
