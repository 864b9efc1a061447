/- Stream: how many frames can be found; what is found in pieces, piece by piece; a row of ints that came in. -/
import Derived.Test.YtlbpmepifegeiaaOneL
import Derived.Test.YtlbpmepifegeiaaOpenS
namespace Go.Proofs.Ytlbpmepifegeiaa
set_option linter.unusedVariables false
open Go.RowKit

section
open Go.ChangeShapes Go.WideShapes Go.ChangeAt
/-- the cells of integers -/
def vz (l : List Int) : List Value := l.map (Value.int .i64)
theorem vz_len (l : List Int) : (vz l).length = l.length := by simp [vz]
theorem vz_get (l : List Int) (k : Nat) (h : k < l.length) : (vz l)[k]? = some (.int .i64 (l.getD k 0)) := by
  simp [vz, h]
theorem vz_append (a b : List Int) : vz (a ++ b) = vz a ++ vz b := by simp [vz]
theorem getD_i64 {l : List Int} (h : ∀ z ∈ l, I64 z) (k : Nat) : I64 (l.getD k 0) := by
  rw [List.getD_eq_getElem?_getD]
  rcases Nat.lt_or_ge k l.length with hk | hk
  · rw [List.getElem?_eq_getElem hk]; exact h _ (List.getElem_mem hk)
  · rw [List.getElem?_eq_none hk]; exact ⟨by decide, by decide⟩
theorem Rd.cellz {w : World} {ao : Option Addr} {n cap : Nat} {zs : List Int} (h : Rd w ao n cap (vz zs)) (k : Nat) (hk : k < n) :
    ∃ b off, ao = some ⟨b, off, none⟩ ∧ b < w.heap.size ∧ w.cell? ⟨b, off + k, none⟩ = some (.int .i64 (zs.getD k 0)) := by
  obtain ⟨b, off, ha, hlt, hc⟩ := h.mem (by omega)
  have hl := h.len
  rw [vz_len] at hl
  exact ⟨b, off, ha, hlt, by rw [hc k hk, vz_get zs k (by omega)]⟩

/-- a row of ints that came in -/
theorem opened_is {H : Type} {P : Program} {enc : TypeId × Value → H} {w : World} {t e : TypeId} {d : DataW H} {p : List MemPlace} {a : Option Addr} {len cap : Nat}
    (ht : P.underlying t = some (.slice e)) (he : P.underlying e = some (.int .i64)) (hc : P.cellsOf e = 1) (h : DataW.Trod enc P w 0 (fun _ => true) true t (.slice a len cap) d p) :
    ∃ zs : List Int, (Rd w a len cap (vz zs) ∧ ∀ z ∈ zs, I64 z) ∧ (len = 0 ∨ ∃ es sp, d = .slice es sp ∧ es.length = len) := by
  obtain ⟨zs, h1, h2⟩ := opened_ints ht he hc h
  rcases h1 with ⟨rfl, rfl, rfl, rfl⟩ | ⟨x, rfl, hl, hm, hz, hcl, hw⟩
  · exact ⟨[], ⟨⟨rfl, Nat.le_refl _, Nat.zero_le _, fun _ => rfl, fun h => by omega⟩, fun z hz => by cases hz⟩, h2⟩
  · refine ⟨zs.take len, ⟨⟨by rw [vz_len, List.length_take]; omega, hl, hm, (fun h => by cases h), fun hn => ?_⟩, fun z hz => bounds_i64 (hw z (List.mem_of_mem_take hz))⟩, h2⟩
    have h0 := hcl 0 (by omega)
    obtain ⟨b, off, rfl, hlt⟩ := spot_of_cell h0
    refine ⟨b, off, rfl, hlt, fun j hj => ?_⟩
    have h1 := hcl j (by omega)
    rw [Addr.add_lit] at h1
    rw [h1, vz_get _ _ (by rw [List.length_take]; omega)]
    simp [List.getD_eq_getElem?_getD, hj]
end

structure Few (B : List Nat) (m : Ms) (n : Nat) : Prop where
  a : 39 * n ≤ m.pos
  b : m.st = 29 → 39 * n + 1 ≤ m.pos
  c : m.pos ≤ B.length
  d : m.st = 15 ∨ m.st = 24 ∨ m.st = 29
theorem few_step {r : Rl} (hL : 1 ≤ r.L) {B : List Nat} {m m1 : Ms} {f : List Fo} {n : Nat} (h : mstep r B m = some (m1, f)) (J : Few B m n) : Few B m1 (n + f.length) := by
  obtain ⟨a, b, c, d⟩ := J
  unfold mstep at h
  split at h
  · rename_i hs
    split at h
    · split at h
      · cases h
        exact ⟨a, fun h => by simp at h, c, .inr (.inl rfl)⟩
      · cases h
        exact ⟨by show 39 * n ≤ m.pos + 1; omega, fun h => by have h9 : m.st = 29 := h; omega, by show m.pos + 1 ≤ _; omega, .inl hs⟩
    · cases h
  · split at h
    · split at h
      · cases h
        refine ⟨?_, fun _ => ?_, ?_, .inr (.inr rfl)⟩
        · show 39 * (n + 1) ≤ m.pos + 32 + 8 * r.L; omega
        · show 39 * (n + 1) + 1 ≤ m.pos + 32 + 8 * r.L; omega
        · assumption
      · cases h
    · have b1 := b (by omega)
      split at h
      · split at h
        · cases h
        · rename_i h33
          cases h
          unfold expM
          split
          · exact ⟨a, fun h => by simp at h, c, .inr (.inl rfl)⟩
          · rename_i hno
            have h34 : m.pos + 33 ≤ B.length := by
              by_cases h35 : B.length < m.pos + 33
              · exact absurd ⟨hno, h35⟩ h33
              · omega
            split
            · exact ⟨by show 39 * n ≤ m.pos - 1; omega, fun h => by simp at h, by show m.pos - 1 ≤ _; omega, .inr (.inl rfl)⟩
            · split
              · exact ⟨by show 39 * n ≤ m.pos + 1; omega, fun h => by simp at h, by show m.pos + 1 ≤ _; omega, .inr (.inl rfl)⟩
              · split
                · exact ⟨a, fun h => by simp at h, c, .inr (.inl rfl)⟩
                · split
                  · exact ⟨a, fun h => by simp at h, c, .inl rfl⟩
                  · exact ⟨a, fun h => by simp at h, c, .inr (.inl rfl)⟩
      · cases h
theorem few_steps {r : Rl} (hL : 1 ≤ r.L) {B : List Nat} {m m1 : Ms} {f : List Fo} (h : Steps r B m f m1) : ∀ n, Few B m n → Few B m1 (n + f.length) := by
  induction h with
  | nil => intro n J; exact J
  | cons a _ ih =>
    intro n J
    have := ih _ (few_step hL a J)
    rwa [Nat.add_assoc, ← List.length_append] at this
theorem few_run {r : Rl} (hL : 1 ≤ r.L) {B : List Nat} {f : List Fo} {m1 : Ms} {L F H M : Nat} (h : Run r B (core (SyV.new L F H M)) f m1) : 39 * f.length ≤ B.length := by
  have := few_steps hL h.1 0 ⟨Nat.zero_le _, fun h => absurd (show (15 : Nat) = 29 from h) (by decide), Nat.zero_le _, .inl rfl⟩
  have h1 := this.a
  have h2 := this.c
  omega

/-- what two who listened tell, the second in pieces -/
theorem ListenP.cuts {r : Rl} (hL : 1 ≤ r.L) {ps : List Nat} {pss : List (List Nat)} (he : pss.flatten = ps) {n : Nat} (hn : pss.length = n) (hn0 : 0 < n) {w w' : World} {aa : Option Addr} {ac : Nat} {la : Option Addr} {lc : Nat} {ha : List Hd} {FA : List (List Fd)} {los : List Bool} {C : List Nat} {m : Ms}
    (h : ListenP r pss w w' aa n ac la lc ha FA los C m) {f1 : List Fo} {m1 : Ms} (k : Run r (par ps) (core (SyV.new r.L r.F r.H r.M)) f1 m1) :
    ∃ g gl, aa = some ⟨g, 0, none⟩ ∧ la = some ⟨gl, 0, none⟩ ∧ g < w'.heap.size ∧ gl < w'.heap.size ∧ w'.cell? ⟨gl, n - 1, none⟩ = some (.bool m1.lo) ∧ FA.flatten.map Fd.fo = f1 ∧ FA.length = n ∧ 39 * f1.length ≤ ps.length := by
  obtain ⟨g, rfl⟩ := own_addr h.row (by omega)
  obtain ⟨gl, rfl⟩ := own_addr h.lo (by omega)
  obtain ⟨h1, h2, h3, h4⟩ := h.lis.steps
  obtain ⟨h5, h6⟩ := h2 (by intro h9; rw [h9] at hn; simp at hn; omega)
  have hC := h.lis.cLen
  rw [List.nil_append, he] at hC
  rw [hC] at h1 h5
  obtain ⟨e1, e2⟩ := Run.det ⟨h1, h5⟩ k
  have hl : los.length = n := by omega
  refine ⟨g, gl, rfl, rfl, own_lt h.row rfl, own_lt h.lo rfl, ?_, ?_, by have := h.each.len; have := h.len; omega, ?_⟩
  · rw [h.lo.cellAt (n - 1) (by omega), List.getElem?_map]
    rw [List.getLast?_eq_getElem?, hl] at h6
    rw [h6, e2]
    rfl
  · rw [← e1, List.map_flatten]
  · have := few_run hL k
    simpa [par] using this
end Go.Proofs.Ytlbpmepifegeiaa
