/- MemoryHolds: the hits that came in. -/
import Derived.Test.YtgacnbildligjaaDoorHoldsLaw
namespace Go.Proofs.YtgacnbildligjaaDoor
open Go.ChangeShapes Go.WideShapes Go.ChangeAt Go.RowKit
set_option linter.unusedVariables false

theorem inner_ints {H : Type} {P : Program} {enc : TypeId × Value → H} {w : World} {t e : TypeId} {x : DataW H × List MemPlace} {fuel : Nat} {cs : List Value}
    (ht : P.underlying t = some (.slice e)) (he : P.underlying e = some (.int .i64)) (hc : P.cellsOf e = 1) (h : DataW.trod enc P w 0 (fun _ => true) true fuel t cs = some x) :
    ∃ a len cap zs, cs = [.slice a len cap] ∧ Rd w a len cap (vz zs) ∧ ∀ z ∈ zs, I64 z := by
  rcases open_ints ht he hc h with ⟨hcs, _⟩ | ⟨x, l, c, zs, hcs, _, hl, hm, hz, hd, hcell, hwz⟩
  · exact ⟨none, 0, 0, [], hcs, ⟨rfl, Nat.le_refl _, Nat.zero_le _, fun _ => rfl, fun h => by omega⟩, fun z hz => by cases hz⟩
  · have hz' : zs.length = c := by simpa using hz
    refine ⟨some x, l, c, zs.take l, hcs, ⟨by rw [vz_len, List.length_take]; omega, hl, hm, (fun h => by cases h), fun hn => ?_⟩, fun z hz => bounds_i64 (hwz z (List.mem_of_mem_take hz))⟩
    have h0 := hcell 0 (by omega)
    obtain ⟨b, off, rfl, hlt⟩ := spot_of_cell h0
    refine ⟨b, off, rfl, hlt, fun j hj => ?_⟩
    have h1 := hcell j (by omega)
    rw [Addr.add_lit] at h1
    rw [h1, vz_get _ _ (by rw [List.length_take]; omega)]
    simp [List.getD_eq_getElem?_getD, hj]
/-- a row of rows of ints -/
def isInts (w : World) (cs : List Value) (b : (Option Addr × Nat × Nat) × List Int) : Prop :=
  cs = [.slice b.1.1 b.1.2.1 b.1.2.2] ∧ Rd w b.1.1 b.1.2.1 b.1.2.2 (vz b.2) ∧ ∀ z ∈ b.2, I64 z
theorem one_ints {H : Type} {P : Program} {enc : TypeId × Value → H} {w : World} {t e : TypeId} {x : DataW H × List MemPlace} {fuel : Nat} {cs : List Value}
    (ht : P.underlying t = some (.slice e)) (he : P.underlying e = some (.int .i64)) (hc : P.cellsOf e = 1) (h : DataW.trod enc P w 0 (fun _ => true) true fuel t cs = some x) : ∃ b, isInts w cs b := by
  obtain ⟨a, len, cap, zs, h1, h2, h3⟩ := inner_ints ht he hc h
  exact ⟨((a, len, cap), zs), h1, h2, h3⟩
theorem opened_hits {H : Type} {enc : TypeId × Value → H} {w : World} {d : DataW H} {p : List MemPlace} {a : Option Addr} {len cap : Nat}
    (h : DataW.Trod enc Tryd.prog w 0 (fun _ => true) true 30 (.slice a len cap) d p) :
    ∃ f, RdH w a len f ∧ (len = 0 ∨ ∃ es sp, d = .slice es sp ∧ es.length = len) := by
  obtain ⟨cs, f, hR, hz⟩ := opened_row (isInts w) Tryd.underlying30 (by kernel_rfl) (by decide : 0 < 1) (fun cs fuel x h => one_ints Tryd.underlying29 Tryd.underlying3 (by kernel_rfl) h) h
  refine ⟨f, ⟨fun hn => ?_, fun j hj => (hR.each j hj).2.2⟩, hz⟩
  obtain ⟨b, off, h1, h2, h3⟩ := hR.mem hn
  refine ⟨b, off, h1, h2, fun j hj => ?_⟩
  have := h3 j hj 0 (.slice (f j).1.1 (f j).1.2.1 (f j).1.2.2) (by rw [(hR.each j hj).2.1]; rfl)
  rwa [Nat.mul_one, Nat.add_zero] at this
end Go.Proofs.YtgacnbildligjaaDoor
