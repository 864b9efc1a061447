/- GuardLatches: what the frame hands over: Looks. -/
import Derived.Test.YtkgnelmnadnbhaaLawL
import Derived.Test.YtkgnelmnadnbhaaOpenRow
namespace Go.Proofs.Ytkgnelmnadnbhaa
open Go.ChangeShapes Go.WideShapes Go.ChangeAt Go.RowKit
set_option linter.unusedVariables false

/-- a row of ints inside another thing -/
theorem inner_ints {H : Type} {P : Program} {enc : TypeId × Value → H} {w : World} {t e : TypeId} {x : DataW H × List MemPlace} {fuel : Nat} {cs : List Value}
    (ht : P.underlying t = some (.slice e)) (he : P.underlying e = some (.int .i64)) (hc : P.cellsOf e = 1) (h : DataW.trod enc P w 0 (fun _ => true) true fuel t cs = some x) :
    ∃ a len cap zs, cs = [.slice a len cap] ∧ Rd w a len cap (vz zs) ∧ ∀ z ∈ zs, I64 z := by
  rcases open_ints ht he hc h with ⟨hcs, _⟩ | ⟨x, l, c, zs, hcs, _, hl, hm, hz, hd, hcell, hwz⟩
  · exact ⟨none, 0, 0, [], hcs, ⟨rfl, Nat.le_refl _, Nat.zero_le _, fun _ => rfl, fun h => by omega⟩, fun z hz => by cases hz⟩
  · have hz' : zs.length = c := by simpa using hz
    refine ⟨some x, l, c, zs.take l, hcs, ⟨by rw [vz_len, List.length_take]; omega, hl, hm, (fun h => by cases h), fun hn => ?_⟩, fun z hz => bounds_i64 (hwz z (List.mem_of_mem_take hz))⟩
    have h0 := hcell 0 (by omega)
    obtain ⟨b, off, rfl, hlt⟩ := spot_of_cell h0
    refine ⟨b, off, rfl, hlt, fun j hj => ?_⟩
    have h1 := hcell j (by omega)
    rw [Addr.add_lit] at h1
    rw [h1, vz_get _ _ (by rw [List.length_take]; omega)]
    simp [List.getD_eq_getElem?_getD, hj]
def isLook (w : World) (cs : List Value) (l : Lk) : Prop := cs = [.slice l.a l.n l.c, .bool l.heard, .bool l.leave] ∧ Rd w l.a l.n l.c (vz l.zs) ∧ ∀ z ∈ l.zs, I64 z
instance : Inhabited Lk := ⟨⟨none, 0, 0, [], false, false⟩⟩
theorem opened_looks {H : Type} {enc : TypeId × Value → H} {w : World} {d : DataW H} {p : List MemPlace} {a : Option Addr} {len cap : Nat}
    (h : DataW.Trod enc Try.prog w 0 (fun _ => true) true 23 (.slice a len cap) d p) : ∃ lk, LkAt w a len cap lk ∧ (len = 0 ∨ ∃ es sp, d = .slice es sp ∧ es.length = len) := by
  obtain ⟨cs, f, ⟨h1, h2, h3, h4⟩, h5⟩ := opened_row (α := Lk) (c := 3) (isLook w) Try.underlying23 (by kernel_rfl) (by decide) (fun cs fuel x hx => by
    obtain ⟨y0, y1, y2, n, _, hl, e0, e1, e2⟩ := Go.Deep.trod_struct3 Try.underlying38 hx
    rw [show Try.prog.cellsOf 38 = 3 from by kernel_rfl] at hl
    simp only [show Try.prog.cellsOf 22 = 1 from by kernel_rfl, show Try.prog.cellsOf 4 = 1 from by kernel_rfl] at e0 e1 e2
    obtain ⟨aa, ln, cp, zs, k0, k1, k2⟩ := inner_ints Try.underlying22 Try.underlying3 (by kernel_rfl) e0
    obtain ⟨b1, k3, _⟩ := DataW.trod_bool Try.underlying4 e1
    obtain ⟨b2, k4, _⟩ := DataW.trod_bool Try.underlying4 e2
    refine ⟨⟨aa, ln, cp, zs, b1, b2⟩, ?_, k1, k2⟩
    match cs, hl with
    | [c0, c1, c2], _ =>
      simp at k0 k3 k4
      subst k0 k3 k4
      rfl) h
  refine ⟨f, ⟨h1, h2, fun hn => ?_, fun i hi => (h4 i hi).2.2⟩, h5⟩
  obtain ⟨b, off, k1, k2, k3⟩ := h3 hn
  refine ⟨b, off, k1, k2, fun i hi => ?_⟩
  have e := (h4 i hi).2.1
  exact ⟨by have := k3 i hi 0 (.slice (f i).a (f i).n (f i).c) (by rw [e]; rfl); rwa [Nat.add_zero] at this, k3 i hi 1 (.bool (f i).heard) (by rw [e]; rfl), k3 i hi 2 (.bool (f i).leave) (by rw [e]; rfl)⟩
end Go.Proofs.Ytkgnelmnadnbhaa
