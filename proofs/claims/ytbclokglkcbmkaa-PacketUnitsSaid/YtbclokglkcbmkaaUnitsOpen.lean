/- PacketUnits: the units that came in. -/
import Derived.Test.YtbclokglkcbmkaaUnitsLaw
namespace Go.Proofs.Ytbclokglkcbmkaa
open Go.ChangeShapes Go.WideShapes Go.ChangeAt Go.RowKit
set_option linter.unusedVariables false

theorem opened_rows {H : Type} {enc : TypeId × Value → H} {w : World} {d : DataW H} {p : List MemPlace} {a : Option Addr} {len cap : Nat}
    (h : DataW.Trod enc Try.prog w 0 (fun _ => true) true 33 (.slice a len cap) d p) :
    ∃ f, RdU w a len f ∧ (len = 0 ∨ ∃ es sp, d = .slice es sp ∧ es.length = len) := by
  obtain ⟨cs, f, hR, hz⟩ := opened_row (isBytes w) Try.underlying33 (by kernel_rfl) (by decide : 0 < 1) (fun cs fuel x h => one_bytes Try.underlying23 Try.underlying5 (by kernel_rfl) h) h
  refine ⟨f, ⟨fun hn => ?_, fun j hj => (hR.each j hj).2.2.1⟩, hz⟩
  obtain ⟨b, off, h1, h2, h3⟩ := hR.mem hn
  refine ⟨b, off, h1, h2, fun j hj => ?_⟩
  have := h3 j hj 0 (.slice (f j).1.1 (f j).1.2.1 (f j).1.2.2) (by rw [(hR.each j hj).2.1]; rfl)
  rwa [Nat.mul_one, Nat.add_zero] at this
end Go.Proofs.Ytbclokglkcbmkaa
