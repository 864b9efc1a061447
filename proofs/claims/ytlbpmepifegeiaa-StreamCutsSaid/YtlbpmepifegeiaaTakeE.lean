/- Stream: how Take ends. -/
import Derived.Test.YtlbpmepifegeiaaStep
namespace Go.Proofs.Ytlbpmepifegeiaa
set_option linter.unusedVariables false
set_option linter.unusedSimpArgs false
open Go.RowKit

theorem MInv.more {r : Rl} {B C : List Nat} {base fn : Nat} {m : Ms} (h : MInv r B base fn m) (hl : B.length ≤ C.length) : MInv r C base fn m := { h with le := Nat.le_trans h.le hl }
def par (ps : List Nat) : List Nat := ps.map (· % 2)
theorem par_1 (ps : List Nat) : All1 (par ps) := by
  intro x hx
  obtain ⟨y, _, rfl⟩ := List.mem_map.1 hx
  exact Nat.mod_lt _ (by decide)
/-- the blocks that a Sync may turn -/
def SyB (s : SyV) (sb : Nat) (k : Nat) : Prop := k = sb ∨ (Value.slice s.ba s.bn s.bc).ownBlock = some k

/-- where the bits' row and that of the found lie -/
structure TakeI (B0 sb : Nat) (s0 : SyV) (W0 W : World) (s : SyV) : Prop where
  kept : KeptP (SyB s0 sb) W0 W
  bw : ∀ k, (Value.slice s.ba s.bn s.bc).ownBlock = some k → (Value.slice s0.ba s0.bn s0.bc).ownBlock = some k ∨ W0.heap.size ≤ k
  fw : ∀ k, (Value.slice s.fa s.fn s.fc).ownBlock = some k → W0.heap.size ≤ k

/-- the measure, read off the world -/
def stOf (v : Option Value) : Nat := match v with | some (.func (.func k) _ _) => k | _ => 0
def muW (C : List Nat) (sb : Nat) (w : World) : Nat := mu C ⟨(intOf ((w.cell? ⟨sb, 6, none⟩).getD undef)).toNat, false, 0, stOf (w.cell? ⟨sb, 9, none⟩), false⟩
theorem muW_eq (C : List Nat) {sb : Nat} {w : World} {s : SyV} (h : SyAt w sb s) : muW C sb w = mu C (core s) := by
  unfold muW
  rw [h.cpos, h.cst]
  rfl
theorem Fd.In.kept {f : Fd} {A A' : World} {b sb B0 : Nat} {s : SyV} (h : f.In A b) (hs : SyAt A sb s) {F : List Value} {v : Value} {n : Nat} (hf : A.ownsRow B0 35 4 v n F) (hk : KeptP (fun k => k = sb ∨ v.ownBlock = some k) A A') : f.In A' b := by
  refine ⟨hk.own h.1 (fun k he hn => ?_), h.2⟩
  rcases hn with hn | hn
  · subst hn
    rcases own_ne h.1 (show A.heap[k]? = _ from hs) (by decide) with h1 | h1
    · rw [h1] at he; cases he
    · exact h1 he
  · rcases own_apart h.1 hf (by decide) with h1 | h1
    · rw [h1] at he; cases he
    · exact h1 (he.trans hn.symm)

/-- how Take ends -/
structure TakeP (sb : Nat) (s : SyV) (B : List Nat) (ps : List Nat) (W w' : World) (lb : Nat) (e : Ending) : Prop where
  e : e = .returned (.func (.func 18) #[] #[.pointer (some ⟨lb, 0, none⟩)])
  ab : W.heap.size ≤ lb
  ex : ∃ (la : Option Addr) (ln lc : Nat) (F : List Fd) (s' : SyV), w'.heap[lb]? = some (.cells #[.slice la ln lc] 33) ∧ w'.ownsRow W.heap.size 35 4 (.slice la ln lc) ln (fcs F) ∧ ln = F.length ∧ (∀ f ∈ F, f.In w' W.heap.size) ∧
      SyIn w' sb s' (B ++ par ps) ∧ rl s' = rl s ∧ (s'.fa = none ∧ s'.fn = 0 ∧ s'.fc = 0) ∧ Run (rl s) (B ++ par ps) (core s) (F.map Fd.fo) (core s') ∧ MInv (rl s) (B ++ par ps) s'.base 0 (core s') ∧
      (∀ k, (Value.slice s'.ba s'.bn s'.bc).ownBlock = some k → (Value.slice s.ba s.bn s.bc).ownBlock = some k ∨ W.heap.size ≤ k) ∧ 39 * ln ≤ (B ++ par ps).length
  kept : KeptP (SyB s sb) W w'

/-- what is left when the steps are done -/
structure TakeL (sb lb : Nat) (s s3 : SyV) (C : List Nat) (F : List Fd) (W V : World) : Prop where
  box : V.heap[lb]? = some (.cells #[.slice s3.fa s3.fn s3.fc] 33)
  ab : W.heap.size ≤ lb
  row : V.ownsRow W.heap.size 35 4 (.slice s3.fa s3.fn s3.fc) s3.fn (fcs F)
  len : s3.fn = F.length
  ins : ∀ f ∈ F, f.In V W.heap.size
  sy : SyIn V sb { s3 with fa := none, fn := 0, fc := 0 } C
  rl : rl s3 = rl s
  run : Run (Go.Proofs.Ytlbpmepifegeiaa.rl s) C (core s) (F.map Fd.fo) (core s3)
  inv : MInv (Go.Proofs.Ytlbpmepifegeiaa.rl s) C s3.base s3.fn (core s3)
  bw : ∀ k, (Value.slice s3.ba s3.bn s3.bc).ownBlock = some k → (Value.slice s.ba s.bn s.bc).ownBlock = some k ∨ W.heap.size ≤ k
  kept : KeptP (SyB s sb) W V

/-- the box is made, the found are let go -/
theorem takeL_mk {sb : Nat} {s s3 : SyV} {C : List Nat} {F : List Fd} {W w2 : World} (hS3 : SyIn w2 sb s3 C) (hrl : rl s3 = rl s) (hrun : Run (rl s) C (core s) (F.map Fd.fo) (core s3)) (hM3 : MInv (rl s) C s3.base s3.fn (core s3))
    (hF3 : w2.ownsRow W.heap.size 35 4 (.slice s3.fa s3.fn s3.fc) s3.fn (fcs F)) (hFn : s3.fn = F.length) (hFi : ∀ f ∈ F, f.In w2 W.heap.size) (hk : KeptP (SyB s sb) W w2)
    (hbw : ∀ k, (Value.slice s3.ba s3.bn s3.bc).ownBlock = some k → (Value.slice s.ba s.bn s.bc).ownBlock = some k ∨ W.heap.size ≤ k) :
    TakeL sb w2.heap.size s s3 C F W ((w2.alloc (.cells #[.slice s3.fa s3.fn s3.fc] 33)).setCell ⟨sb, 10, none⟩ (.slice none 0 0)) := by
  have b1 := below_alloc w2 (.cells #[.slice s3.fa s3.fn s3.fc] 33)
  have hS4 := hS3.below b1
  obtain ⟨h5, g5⟩ := hS4.put 10 (.slice none 0 0) { s3 with fa := none, fn := 0, fc := 0 } rfl ⟨rfl, rfl, rfl, rfl, rfl, rfl, rfl, rfl⟩ hS4.rmi
  have hlt : sb < w2.heap.size := hS3.at_.lt
  have hbox : (w2.alloc (.cells #[.slice s3.fa s3.fn s3.fc] 33)).heap[w2.heap.size]? = some (.cells #[.slice s3.fa s3.fn s3.fc] 33) := heap_alloc_new w2 _
  have hF4 := ownsRow_below hF3 b1
  refine ⟨(g5.block _ (row_lt hbox) (fun e => by cases e; omega)).trans hbox, hk.size, hF4.kept g5 (own_ne hF4 (show (w2.alloc (.cells #[.slice s3.fa s3.fn s3.fc] 33)).heap[sb]? = _ from hS4.at_) (by decide)), hFn, fun f hf => ?_, h5, hrl, hrun, hM3, hbw, ?_⟩
  · have h1 := ownsRow_below (hFi f hf).1 b1
    exact ⟨h1.kept g5 (own_ne h1 (show (w2.alloc (.cells #[.slice s3.fa s3.fn s3.fc] 33)).heap[sb]? = _ from hS4.at_) (by decide)), (hFi f hf).2⟩
  · exact (hk.trans (KeptP.below (S := fun _ => False) b1) (fun i _ hi => hi.elim)).trans (KeptP.grown (S := fun i => i = sb) g5 (fun r hr => by cases hr; rfl)) (fun i _ hi => .inl hi)

/-- nothing is dropped -/
theorem TakeL.stay {sb lb : Nat} {s s3 : SyV} {B ps : List Nat} {F : List Fd} {W V : World} (h : TakeL sb lb s s3 (B ++ par ps) F W V) {w' : World} (hw : Below V.heap.size V w') :
    TakeP sb s B ps W w' lb (.returned (.func (.func 18) #[] #[.pointer (some ⟨lb, 0, none⟩)])) :=
  ⟨rfl, h.ab, ⟨_, _, _, F, { s3 with fa := none, fn := 0, fc := 0 }, row_below h.box hw, ownsRow_below h.row hw, h.len, fun f hf => ⟨ownsRow_below (h.ins f hf).1 hw, (h.ins f hf).2⟩, h.sy.below hw, h.rl, ⟨rfl, rfl, rfl⟩, h.run, { h.inv with fc := by omega, fn1 := fun e => by have h1 : 39 * s3.fn + 1 ≤ s3.pos := h.inv.fn1 e; show 39 * 0 + 1 ≤ s3.pos; omega }, h.bw, Nat.le_trans h.inv.fc h.inv.le⟩, h.kept.trans (KeptP.below (S := fun _ => False) hw) (fun i _ hi => hi.elim)⟩

/-- the bits that are behind are dropped -/
theorem TakeL.cut {sb lb : Nat} {s s3 : SyV} {B ps : List Nat} {F : List Fd} {W V : World} (h : TakeL sb lb s s3 (B ++ par ps) F W V) (o : Nat) (ho : s3.base + o + 1 = s3.pos) {V2 : World} {ca : Option Addr} {cc : Nat}
    (hb : Below V.heap.size V V2) (hc : V2.ownsRow V.heap.size 5 1 (.slice ca (s3.bn - o) cc) (s3.bn - o) (vb (((B ++ par ps).drop s3.base).drop o))) {w' : World} (hw : Below V2.heap.size ((V2.setCell ⟨sb, 4, none⟩ (.slice ca (s3.bn - o) cc)).setCell ⟨sb, 5, none⟩ (.int .i64 ((s3.base + o : Nat) : Int))) w') :
    TakeP sb s B ps W w' lb (.returned (.func (.func 18) #[] #[.pointer (some ⟨lb, 0, none⟩)])) := by
  have hS2 := h.sy.below hb
  obtain ⟨h4, g4⟩ := hS2.at_.put 4 (.slice ca (s3.bn - o) cc) { s3 with fa := none, fn := 0, fc := 0, ba := ca, bn := s3.bn - o, bc := cc } rfl
  obtain ⟨h5, g5⟩ := h4.put 5 (.int .i64 ((s3.base + o : Nat) : Int)) { s3 with fa := none, fn := 0, fc := 0, ba := ca, bn := s3.bn - o, bc := cc, base := s3.base + o } rfl
  have gg := grownBy_trans g4 g5
  have hw : Below ((V2.setCell ⟨sb, 4, none⟩ (.slice ca (s3.bn - o) cc)).setCell ⟨sb, 5, none⟩ (.int .i64 ((s3.base + o : Nat) : Int))).heap.size ((V2.setCell ⟨sb, 4, none⟩ (.slice ca (s3.bn - o) cc)).setCell ⟨sb, 5, none⟩ (.int .i64 ((s3.base + o : Nat) : Int))) w' := by simpa using hw
  have at2 : V2.heap[sb]? = some (.cells _ 56) := hS2.at_
  have hne : ∀ {b : Nat} {v : Value} {n : Nat} {xs : List Value} {e sz : Nat}, V2.ownsRow b e sz v n xs → e ≠ 56 → w'.ownsRow b e sz v n xs := fun ho he => ownsRow_below (ho.kept gg (own_ne ho at2 he)) hw
  have hbox := row_below h.box hb
  have hlt : sb < V.heap.size := h.sy.at_.lt
  have hlen : s3.base + s3.bn = (B ++ par ps).length := h.sy.len
  have hpl : s3.pos ≤ (B ++ par ps).length := h.inv.le
  have hle := h.kept.size
  refine ⟨rfl, h.ab, ⟨_, _, _, F, { s3 with fa := none, fn := 0, fc := 0, ba := ca, bn := s3.bn - o, bc := cc, base := s3.base + o }, ?_, hne (ownsRow_below h.row hb) (by decide), h.len, fun f hf => ⟨hne (ownsRow_below (h.ins f hf).1 hb) (by decide), (h.ins f hf).2⟩, ?_, h.rl, ⟨rfl, rfl, rfl⟩, h.run, ?_, ?_, Nat.le_trans h.inv.fc h.inv.le⟩, ?_⟩
  · refine row_below ((gg.block lb (row_lt hbox) (fun e => ?_)).trans hbox) hw
    rw [Option.some.inj e, show V2.heap[sb]? = _ from hS2.at_] at hbox
    simp at hbox
  · have hc2 := hne hc (by decide)
    have := ownsRow_mono hc2 (Nat.zero_le _)
    rw [List.drop_drop] at this
    exact ⟨h5.below hw, this, by show s3.base + o + (s3.bn - o) = _; omega, h.sy.one, h.sy.big, h.sy.rF, h.sy.rH, h.sy.rM, h.sy.rL, h.sy.rmi⟩
  · exact { h.inv with ba := by show s3.base + o ≤ s3.pos; omega, base1 := fun _ => by show s3.base + o + 1 ≤ s3.pos; omega, fc := by omega, fn1 := fun e => by have h1 : 39 * s3.fn + 1 ≤ s3.pos := h.inv.fn1 e; show 39 * 0 + 1 ≤ s3.pos; omega }
  · intro k hk
    right
    have := hc.2
    obtain ⟨_, _, h1, _, h2⟩ := own_slice hc
    cases h1
    have := h2 k hk
    omega
  · exact ((h.kept.trans (KeptP.below (S := fun _ => False) hb) (fun i _ hi => hi.elim)).trans (KeptP.grown (S := fun i => i = sb) gg (fun r hr => by cases hr; rfl)) (fun i _ hi => .inl hi)).trans (KeptP.below (S := fun _ => False) hw) (fun i _ hi => hi.elim)
end Go.Proofs.Ytlbpmepifegeiaa
