/- Stream: what the frame hands over, opened: a rule, a row of rows of bytes. -/
import Derived.Test.YtlbpmepifegeiaaListenI
import Derived.Test.YtlbpmepifegeiaaOpenRow
namespace Go.Proofs.Ytlbpmepifegeiaa
open Go.ChangeShapes Go.WideShapes Go.ChangeAt Go.RowKit
set_option linter.unusedVariables false

def I64 (x : Int) : Prop := -9223372036854775808 ≤ x ∧ x ≤ 9223372036854775807
theorem opened_rule {H : Type} {enc : TypeId × Value → H} {w : World} {v : Value} {d : DataW H} {p : List MemPlace} {r : Reach} {b0 : Nat} (hval : Value.okWide Try.prog w r b0 23 v)
    (h : DataW.Trod enc Try.prog w 0 (fun _ => true) true 23 v d p) : ∃ r0 r1 r2 r3, v = .agg #[.int .i64 r0, .int .i64 r1, .int .i64 r2, .int .i64 r3] ∧ I64 r0 ∧ I64 r1 ∧ I64 r2 ∧ I64 r3 := by
  obtain ⟨cs, rfl, hsz⟩ := okWide_struct Try.underlying23 hval
  obtain ⟨fuel, hf⟩ := h
  obtain ⟨xs, n, _, _, hl, hlen, hf⟩ := DataW.trod_struct Try.underlying23 hf
  rw [show Try.prog.cellsOf 23 = 4 from by kernel_rfl] at hl hsz
  have g : ∀ i (hi : i < xs.length), xs[i]? = some xs[i] := fun i hi => List.getElem?_eq_getElem hi
  have hlen : xs.length = 4 := hlen
  have f0 : DataW.trod enc Try.prog w 0 (fun _ => true) true n 3 (((Value.agg cs).cells.toList.drop 0).take (Try.prog.cellsOf 3)) = _ := (hf 0 _ rfl).trans (g 0 (by omega))
  have f1 : DataW.trod enc Try.prog w 0 (fun _ => true) true n 3 (((Value.agg cs).cells.toList.drop 1).take (Try.prog.cellsOf 3)) = _ := (hf 1 _ rfl).trans (g 1 (by omega))
  have f2 : DataW.trod enc Try.prog w 0 (fun _ => true) true n 3 (((Value.agg cs).cells.toList.drop 2).take (Try.prog.cellsOf 3)) = _ := (hf 2 _ rfl).trans (g 2 (by omega))
  have f3 : DataW.trod enc Try.prog w 0 (fun _ => true) true n 3 (((Value.agg cs).cells.toList.drop 3).take (Try.prog.cellsOf 3)) = _ := (hf 3 _ rfl).trans (g 3 (by omega))
  simp only [show Try.prog.cellsOf 3 = 1 from by kernel_rfl] at f0 f1 f2 f3
  obtain ⟨r0, e0, _, w0⟩ := DataW.trod_int Try.underlying3 f0
  obtain ⟨r1, e1, _, w1⟩ := DataW.trod_int Try.underlying3 f1
  obtain ⟨r2, e2, _, w2⟩ := DataW.trod_int Try.underlying3 f2
  obtain ⟨r3, e3, _, w3⟩ := DataW.trod_int Try.underlying3 f3
  refine ⟨r0, r1, r2, r3, ?_, bounds_i64 w0, bounds_i64 w1, bounds_i64 w2, bounds_i64 w3⟩
  obtain ⟨l⟩ := cs
  match l, hsz with
  | [c0, c1, c2, c3], _ =>
    simp [Value.cells] at e0 e1 e2 e3
    subst e0 e1 e2 e3
    rfl
theorem opened_rows {H : Type} {enc : TypeId × Value → H} {w : World} {d : DataW H} {p : List MemPlace} {a : Option Addr} {len cap : Nat}
    (h : DataW.Trod enc Try.prog w 0 (fun _ => true) true 26 (.slice a len cap) d p) :
    ∃ b : List Hd × List (List Nat), PcsAt w a len cap b.1 b.2 ∧ (len = 0 ∨ ∃ es sp, d = .slice es sp ∧ es.length = len) := by
  have hnil : a = none → cap = 0 := by
    rintro rfl
    obtain ⟨fuel, hf⟩ := h
    rcases Go.Deep.open_slice Try.underlying26 hf with ⟨hcs, _⟩ | ⟨x, l, k, m, n, D, Pl, hcs, _⟩
    · simp [Value.cells] at hcs; exact hcs.2
    · simp [Value.cells] at hcs
  obtain ⟨cs, f, hR, hz⟩ := opened_row (isBytes w) Try.underlying26 (by kernel_rfl) (by decide : 0 < 1) (fun cs fuel x h => one_bytes Try.underlying24 Try.underlying5 (by kernel_rfl) h) h
  refine ⟨((List.range len).map (fun j => (f j).1), (List.range len).map (fun j => (f j).2)), ⟨⟨by simp, hR.le, hR.max, hnil, fun hn => ?_⟩, ?_⟩, hz⟩
  · obtain ⟨b, off, h1, h2, h3⟩ := hR.mem hn
    refine ⟨b, off, h1, h2, fun j hj => ?_⟩
    have := h3 j hj 0 (.slice (f j).1.1 (f j).1.2.1 (f j).1.2.2) (by rw [(hR.each j hj).2.1]; rfl)
    rw [Nat.mul_one, Nat.add_zero] at this
    rw [this]
    simp [hj, hv]
  · have : ∀ l : List Nat, (∀ j ∈ l, j < len) → All2 (fun (h : Hd) ps => Rd w h.1 h.2.1 h.2.2 (vb ps) ∧ AllB ps) (l.map (fun j => (f j).1)) (l.map (fun j => (f j).2)) := by
      intro l
      induction l with
      | nil => intro _; exact .nil
      | cons j l ih => intro hl; exact .cons (hR.each j (hl j (by simp))).2.2 (ih (fun x hx => hl x (by simp [hx])))
    exact this _ (fun j hj => by simpa using hj)
end Go.Proofs.Ytlbpmepifegeiaa
