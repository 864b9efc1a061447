/- What the frame hands over, opened: a row of ints as a list of integers. -/
import Derived.Test.YtfbchmihkndfaaaOpen
namespace Go.Proofs.Ytfbchmihkndfaaa
open Go.ChangeShapes Go.WideShapes Go.ChangeAt Go.RowKit
set_option linter.unusedVariables false

/-- an integer of 64 bits -/
def I64 (z : Int) : Prop := -9223372036854775808 ≤ z ∧ z ≤ 9223372036854775807
/-- the cells of integers -/
def vz (l : List Int) : List Value := l.map (Value.int .i64)
theorem vz_len (l : List Int) : (vz l).length = l.length := by simp [vz]
theorem vz_get (l : List Int) (k : Nat) (h : k < l.length) : (vz l)[k]? = some (.int .i64 (l.getD k 0)) := by
  simp [vz, h]
theorem vz_append (a b : List Int) : vz (a ++ b) = vz a ++ vz b := by simp [vz]
theorem getD_i64 {l : List Int} (h : ∀ z ∈ l, I64 z) (k : Nat) : I64 (l.getD k 0) := by
  rw [List.getD_eq_getElem?_getD]
  rcases Nat.lt_or_ge k l.length with hk | hk
  · rw [List.getElem?_eq_getElem hk]; exact h _ (List.getElem_mem hk)
  · rw [List.getElem?_eq_none hk]; exact ⟨by decide, by decide⟩
theorem Rd.cellz {w : World} {ao : Option Addr} {n cap : Nat} {zs : List Int} (h : Rd w ao n cap (vz zs)) (k : Nat) (hk : k < n) :
    ∃ b off, ao = some ⟨b, off, none⟩ ∧ b < w.heap.size ∧ w.cell? ⟨b, off + k, none⟩ = some (.int .i64 (zs.getD k 0)) := by
  obtain ⟨b, off, ha, hlt, hc⟩ := h.mem (by omega)
  have hl := h.len
  rw [vz_len] at hl
  exact ⟨b, off, ha, hlt, by rw [hc k hk, vz_get zs k (by omega)]⟩

/-- a row of ints that came in -/
theorem opened_is {H : Type} {P : Program} {enc : TypeId × Value → H} {w : World} {t e : TypeId} {d : DataW H} {p : List MemPlace} {a : Option Addr} {len cap : Nat}
    (ht : P.underlying t = some (.slice e)) (he : P.underlying e = some (.int .i64)) (hc : P.cellsOf e = 1) (h : DataW.Trod enc P w 0 (fun _ => true) true t (.slice a len cap) d p) :
    ∃ zs : List Int, (Rd w a len cap (vz zs) ∧ ∀ z ∈ zs, I64 z) ∧ (len = 0 ∨ ∃ es sp, d = .slice es sp ∧ es.length = len) := by
  obtain ⟨zs, h1, h2⟩ := opened_ints ht he hc h
  rcases h1 with ⟨rfl, rfl, rfl, rfl⟩ | ⟨x, rfl, hl, hm, hz, hcl, hw⟩
  · exact ⟨[], ⟨⟨rfl, Nat.le_refl _, Nat.zero_le _, fun _ => rfl, fun h => by omega⟩, fun z hz => by cases hz⟩, h2⟩
  · refine ⟨zs.take len, ⟨⟨by rw [vz_len, List.length_take]; omega, hl, hm, (fun h => by cases h), fun hn => ?_⟩, fun z hz => bounds_i64 (hw z (List.mem_of_mem_take hz))⟩, h2⟩
    have h0 := hcl 0 (by omega)
    obtain ⟨b, off, rfl, hlt⟩ := spot_of_cell h0
    refine ⟨b, off, rfl, hlt, fun j hj => ?_⟩
    have h1 := hcl j (by omega)
    rw [Addr.add_lit] at h1
    rw [h1, vz_get _ _ (by rw [List.length_take]; omega)]
    simp [List.getD_eq_getElem?_getD, hj]
end Go.Proofs.Ytfbchmihkndfaaa
