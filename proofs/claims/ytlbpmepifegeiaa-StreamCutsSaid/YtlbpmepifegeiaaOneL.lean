/- Stream: what Listen answers to one piece. -/
import Derived.Test.YtlbpmepifegeiaaListen
import Derived.Test.YtlbpmepifegeiaaLawQ
import Derived.Test.YtlbpmepifegeiaaRowsS
namespace Go.Proofs.Ytlbpmepifegeiaa
set_option linter.unusedVariables false
open Go.RowKit

theorem par_id {l : List Nat} (h : All1 l) : par l = l := by
  unfold par
  conv => rhs; rw [← List.map_id l]
  apply List.map_congr_left
  intro x hx
  have := h x hx
  simp
  omega
theorem fl_1 (t : Bool) {l : List Nat} (h : All1 l) : All1 (fl t l) := by rw [← flipB_fl]; exact flipB_1 t h
theorem flatB_1 (D : List (List Nat)) : All1 (D.flatMap frB) := fun x hx => by obtain ⟨d, _, h9⟩ := List.mem_flatMap.1 hx; exact frB_1 d x h9
theorem flat_1 (t : Bool) (D : List (List Nat)) : All1 (flat t D) := fl_1 t (flatB_1 D)
theorem Lis.one {r : Rl} {m0 m : Ms} {ps : List Nat} {fss : List (List Fo)} {los : List Bool} {C : List Nat} (h : Lis r [] m0 [ps] fss los C m) : ∃ f, fss = [f] ∧ los = [m.lo] ∧ Run r (par ps) m0 f m := by
  obtain ⟨h1, h2, h3, h4⟩ := h.steps
  obtain ⟨h5, h6⟩ := h2 (by simp)
  have hC := h.cLen
  match fss, h3 with
  | [f], _ =>
    match los, h4 with
    | [b], _ =>
      refine ⟨f, rfl, ?_, ?_⟩
      · simp at h6; rw [h6]
      · rw [hC] at h1 h5
        simpa [Run] using And.intro h1 h5
theorem ListenP.one {r : Rl} {ps : List Nat} {w w' : World} {aa : Option Addr} {ac : Nat} {la : Option Addr} {lc : Nat} {ha : List Hd} {FA : List (List Fd)} {los : List Bool} {C : List Nat} {m : Ms} (h : ListenP r [ps] w w' aa 1 ac la lc ha FA los C m) :
    ∃ a1 n1 c1 F1 g gl, aa = some ⟨g, 0, none⟩ ∧ la = some ⟨gl, 0, none⟩ ∧ w'.cell? ⟨g, 0, none⟩ = some (.slice a1 n1 c1) ∧ w'.cell? ⟨gl, 0, none⟩ = some (.bool m.lo) ∧ w'.ownsRow w.heap.size 35 4 (.slice a1 n1 c1) n1 (fcs F1) ∧ n1 = F1.length ∧ (∀ f ∈ F1, f.In w' w.heap.size) ∧
      Run r (par ps) (core (SyV.new r.L r.F r.H r.M)) (F1.map Fd.fo) m ∧ g < w'.heap.size ∧ gl < w'.heap.size := by
  obtain ⟨f, h1, h2, h3⟩ := h.lis.one
  have hl := h.len
  match ha, hl, FA, h.each with
  | [(a1, n1, c1)], _, [F1], .cons ⟨e1, e2, e3⟩ .nil =>
    have hf : F1.map Fd.fo = f := by simpa using h1
    obtain ⟨g, rfl⟩ := own_addr h.row (by omega)
    obtain ⟨gl, rfl⟩ := own_addr h.lo (by omega)
    refine ⟨a1, n1, c1, F1, g, gl, rfl, rfl, ?_, ?_, e1, e2, e3, by rw [hf]; exact h3, own_lt h.row rfl, own_lt h.lo rfl⟩
    · rw [h.row.cellAt 0 (by omega)]; rfl
    · have := h.lo.cellAt 0 (by omega)
      rw [this, h2]; rfl
/-- its k-th frame -/
theorem Fd.at_ {L : Nat} {t : Bool} {q : Nat} {D : List (List Nat)} {F : List Fd} (h : F.map Fd.fo = foL L t q D) (j : Nat) (hj : j < D.length) : ∃ hF : j < F.length, (F[j]).pos = q + j * (32 + 8 * L) ∧ (F[j]).tu = t ∧ (F[j]).mi = 0 ∧ (F[j]).ds = D[j] := by
  have hl : F.length = D.length := by have := congrArg List.length h; simpa [foL_len] using this
  refine ⟨by omega, ?_⟩
  have h1 := congrArg (fun l => l[j]?) h
  rw [List.getElem?_map, List.getElem?_eq_getElem (by omega), foL_get L t q D j hj] at h1
  simp only [Option.map_some, Option.some.injEq] at h1
  have h2 : (F[j]).fo = ⟨(F[j]).pos, (F[j]).tu, (F[j]).mi, (F[j]).ds⟩ := rfl
  rw [h2] at h1
  injection h1 with a b c d
  exact ⟨a, b, c, d⟩
/-- a frame of a row, its cells -/
theorem Fd.cellsAt {W : World} {B n c g : Nat} {F : List Fd} (h : W.ownsRow B 35 4 (.slice (some ⟨g, 0, none⟩) n c) n (fcs F)) (hl : n = F.length) (j : Nat) (hj : j < F.length) :
    W.cell? ⟨g, j * 4, none⟩ = some (.int .i64 ((F[j]).pos : Int)) ∧ W.cell? ⟨g, j * 4 + 1, none⟩ = some (.bool (F[j]).tu) ∧ W.cell? ⟨g, j * 4 + 2, none⟩ = some (.int .i64 ((F[j]).mi : Int)) ∧ W.cell? ⟨g, j * 4 + 3, none⟩ = some (.slice (F[j]).da (F[j]).dn (F[j]).dc) := by
  refine ⟨?_, ?_, ?_, ?_⟩
  · have := own_flat Fd.cells fd_len h hl.symm j (by omega) 0 (by decide); simpa [Fd.cells] using this
  · have := own_flat Fd.cells fd_len h hl.symm j (by omega) 1 (by decide); simpa [Fd.cells] using this
  · have := own_flat Fd.cells fd_len h hl.symm j (by omega) 2 (by decide); simpa [Fd.cells] using this
  · have := own_flat Fd.cells fd_len h hl.symm j (by omega) 3 (by decide); simpa [Fd.cells] using this
end Go.Proofs.Ytlbpmepifegeiaa
