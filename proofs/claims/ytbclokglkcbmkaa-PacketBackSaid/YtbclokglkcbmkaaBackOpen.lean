/- PacketBack: the packets that came in. -/
import Derived.Test.YtbclokglkcbmkaaBack
import Derived.Test.YtbclokglkcbmkaaOpenRow
namespace Go.Proofs.Ytbclokglkcbmkaa
open Go.ChangeShapes Go.WideShapes Go.ChangeAt Go.RowKit
set_option linter.unusedVariables false

def isPk (w : World) (cs : List Value) (r : Raw) : Prop := cs = r.cells ∧ Rd w r.a r.n r.c (vb r.ds) ∧ AllB r.ds
instance : Inhabited Raw := ⟨⟨false, false, 0, 0, 0, none, 0, 0, []⟩⟩

theorem one_pk {H : Type} {enc : TypeId × Value → H} {w : World} (cs : List Value) (fuel : Nat) (x : DataW H × List MemPlace)
    (h : DataW.trod enc Try.prog w 0 (fun _ => true) true fuel 29 cs = some x) : ∃ r, isPk w cs r := by
  obtain ⟨xs, n, _, _, hl, hlen, hf⟩ := DataW.trod_struct Try.underlying29 h
  rw [show Try.prog.cellsOf 29 = 6 from by kernel_rfl] at hl
  have g : ∀ i (hi : i < xs.length), xs[i]? = some xs[i] := fun i hi => List.getElem?_eq_getElem hi
  have hlen : xs.length = 6 := hlen
  have f0 : DataW.trod enc Try.prog w 0 (fun _ => true) true n 4 ((cs.drop 0).take (Try.prog.cellsOf 4)) = _ := (hf 0 _ rfl).trans (g 0 (by omega))
  have f1 : DataW.trod enc Try.prog w 0 (fun _ => true) true n 4 ((cs.drop 1).take (Try.prog.cellsOf 4)) = _ := (hf 1 _ rfl).trans (g 1 (by omega))
  have f2 : DataW.trod enc Try.prog w 0 (fun _ => true) true n 3 ((cs.drop 2).take (Try.prog.cellsOf 3)) = _ := (hf 2 _ rfl).trans (g 2 (by omega))
  have f3 : DataW.trod enc Try.prog w 0 (fun _ => true) true n 27 ((cs.drop 3).take (Try.prog.cellsOf 27)) = _ := (hf 3 _ rfl).trans (g 3 (by omega))
  have f4 : DataW.trod enc Try.prog w 0 (fun _ => true) true n 3 ((cs.drop 4).take (Try.prog.cellsOf 3)) = _ := (hf 4 _ rfl).trans (g 4 (by omega))
  have f5 : DataW.trod enc Try.prog w 0 (fun _ => true) true n 23 ((cs.drop 5).take (Try.prog.cellsOf 23)) = _ := (hf 5 _ rfl).trans (g 5 (by omega))
  simp only [show Try.prog.cellsOf 4 = 1 from by kernel_rfl, show Try.prog.cellsOf 3 = 1 from by kernel_rfl, show Try.prog.cellsOf 27 = 1 from by kernel_rfl, show Try.prog.cellsOf 23 = 1 from by kernel_rfl] at f0 f1 f2 f3 f4 f5
  obtain ⟨b0, e0, _⟩ := DataW.trod_bool Try.underlying4 f0
  obtain ⟨b1, e1, _⟩ := DataW.trod_bool Try.underlying4 f1
  obtain ⟨z2, e2, _, _⟩ := DataW.trod_int Try.underlying3 f2
  obtain ⟨z3, e3, _, _⟩ := DataW.trod_int Try.underlying27 f3
  obtain ⟨z4, e4, _, _⟩ := DataW.trod_int Try.underlying3 f4
  obtain ⟨a, len, cap, bs, e5, hr, hb⟩ := inner_bytes Try.underlying23 Try.underlying5 (by kernel_rfl) f5
  refine ⟨⟨b0, b1, z2, z3, z4, a, len, cap, bs⟩, ?_, hr, hb⟩
  match cs, hl with
  | [c0, c1, c2, c3, c4, c5], _ =>
    simp at e0 e1 e2 e3 e4 e5
    subst e0 e1 e2 e3 e4 e5
    rfl

theorem opened_pk {H : Type} {enc : TypeId × Value → H} {w : World} {d : DataW H} {p : List MemPlace} {a : Option Addr} {len cap : Nat}
    (h : DataW.Trod enc Try.prog w 0 (fun _ => true) true 22 (.slice a len cap) d p) :
    ∃ it, RdPk w a len cap it ∧ (len = 0 ∨ ∃ es sp, d = .slice es sp ∧ es.length = len) := by
  obtain ⟨cs, f, hR, hz⟩ := opened_row (isPk w) Try.underlying22 (by kernel_rfl) (by decide : 0 < 6) one_pk h
  refine ⟨f, ⟨hR.le, hR.max, fun hn => ?_, fun j hj => (hR.each j hj).2.2⟩, hz⟩
  obtain ⟨b, off, h1, h2, h3⟩ := hR.mem hn
  refine ⟨b, off, h1, h2, fun j hj k v hv => h3 j hj k v ?_⟩
  rw [(hR.each j hj).2.1]
  exact hv
end Go.Proofs.Ytbclokglkcbmkaa
