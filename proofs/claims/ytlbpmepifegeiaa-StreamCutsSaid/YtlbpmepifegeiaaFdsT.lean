/- Stream: what Take leaves is what the iterator needs. -/
import Derived.Test.YtlbpmepifegeiaaTake
import Derived.Test.YtlbpmepifegeiaaIterT
import Derived.Test.YtlbpmepifegeiaaLock
namespace Go.Proofs.Ytlbpmepifegeiaa
set_option linter.unusedVariables false
open Go.RowKit

theorem frD_le (L : Nat) (B : List Nat) (pos : Nat) (t : Bool) : (frD L B pos t).length ≤ L := by
  unfold frD
  rw [Scr_len, bytesOf_len, flipB_len, List.length_take]
  omega
theorem mstep_small {r : Rl} {B : List Nat} {m m1 : Ms} {f : List Fo} (h : mstep r B m = some (m1, f)) : ∀ x ∈ f, x.ds.length ≤ r.L := by
  unfold mstep at h
  intro x hx
  split at h
  · split at h
    · split at h <;> (cases h; cases hx)
    · cases h
  · split at h
    · split at h
      · cases h
        obtain rfl := List.mem_singleton.1 hx
        exact frD_le _ _ _ _
      · cases h
    · split at h
      · split at h
        · cases h
        · cases h; cases hx
      · cases h
theorem steps_small {r : Rl} {B : List Nat} {m m1 : Ms} {f : List Fo} (h : Steps r B m f m1) : ∀ x ∈ f, x.ds.length ≤ r.L := by
  induction h with
  | nil => intro x hx; cases hx
  | cons a b ih =>
    intro x hx
    rcases List.mem_append.1 hx with h1 | h1
    · exact mstep_small a x h1
    · exact ih x h1
theorem In_len {f : Fd} {W : World} {b : Nat} (h : f.In W b) : f.dn = f.ds.length := by
  have := (Rd.ofOwn h.1).len
  rw [vb_len] at this
  exact this.symm

/-- what Take leaves, for Listen -/
structure TakeQ (sb : Nat) (s : SyV) (C : List Nat) (W w' : World) (lb : Nat) (la : Option Addr) (ln lc : Nat) (F : List Fd) (s' : SyV) : Prop where
  fds : FdsAt w' lb la ln lc F
  lb : W.heap.size ≤ lb
  row : w'.ownsRow W.heap.size 35 4 (.slice la ln lc) ln (fcs F)
  ins : ∀ f ∈ F, f.In w' W.heap.size
  sy : SyIn w' sb s' C
  rl : rl s' = rl s
  fn : s'.fa = none ∧ s'.fn = 0 ∧ s'.fc = 0
  run : Run (Go.Proofs.Ytlbpmepifegeiaa.rl s) C (core s) (F.map Fd.fo) (core s')
  inv : MInv (Go.Proofs.Ytlbpmepifegeiaa.rl s) C s'.base 0 (core s')
  bw : ∀ k, (Value.slice s'.ba s'.bn s'.bc).ownBlock = some k → (Value.slice s.ba s.bn s.bc).ownBlock = some k ∨ W.heap.size ≤ k
  few : 39 * ln ≤ C.length
  kept : KeptP (SyB s sb) W w'

theorem takeP_fds {sb lb : Nat} {s : SyV} {B ps : List Nat} {W w' : World} {e : Ending} (h : TakeP sb s B ps W w' lb e) (hL : s.L ≤ 2048) (hb : (B ++ par ps).length ≤ 140737488355328) :
    ∃ (la : Option Addr) (ln lc : Nat) (F : List Fd) (s' : SyV), TakeQ sb s (B ++ par ps) W w' lb la ln lc F s' := by
  obtain ⟨la, ln, lc, F, s', h1, h2, h3, h4, h5, h6, h7, h8, h9, h10, h11⟩ := h.ex
  refine ⟨la, ln, lc, F, s', ⟨h1, ownsRow_mono h2 (Nat.zero_le _), h3, fun f hf => ⟨ownsRow_mono (h4 f hf).1 (Nat.zero_le _), (h4 f hf).2⟩, by omega, fun f hf => ?_⟩, h.ab, h2, h4, h5, h6, h7, h8, h9, h10, h11, h.kept⟩
  have h12 := steps_small h8.1 f.fo (List.mem_map_of_mem hf)
  have h13 := In_len (h4 f hf)
  have h14 : f.fo.ds = f.ds := rfl
  have h15 : (rl s).L = s.L := rfl
  rw [h14, h15] at h12
  omega
end Go.Proofs.Ytlbpmepifegeiaa
