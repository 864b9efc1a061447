/- Passes: slices.SortFunc of indices by the closure of Choose: the walk. -/
import Derived.Test.YtfbchmihkndfaaaInsP
import Derived.Test.YtfbchmihkndfaaaFr
import Derived.Deep.CutBlock
import Derived.Test.YtfbchmihkndfaaaRegionL
namespace Go.Proofs.Ytfbchmihkndfaaa
set_option linter.unusedVariables false
open Go.RowKit

def frOf (l : List Ps) (x : Nat) : Nat := (pAt l x).fr
/-- memory while it is sorted -/
structure SM (W0 W : World) (B X g o c n : Nat) (la : Option Addr) (cap : Nat) (l : List Ps) (L : List Nat) : Prop where
  own : OwnAt W B 3 (.slice (some ⟨g, o, none⟩) n c) n (vi L)
  gb : Gb g W0 W
theorem SM.below {W0 W W' : World} {B X g o c n cap : Nat} {la : Option Addr} {l : List Ps} {L : List Nat} (h : SM W0 W B X g o c n la cap l L) (hb : Below W.heap.size W W') : SM W0 W' B X g o c n la cap l L :=
  ⟨h.own.below hb, grownBy_trans h.gb (Gb.below hb)⟩
def SlotI (y : Nat → Value) (g o c n X : Nat) : Prop := y 0 = .slice (some ⟨g, o, none⟩) n c ∧ y 1 = .int .i64 0 ∧ y 2 = .int .i64 (n : Int) ∧ y 3 = .func (.func 16) #[] #[.pointer (some ⟨X, 0, none⟩)]
def OutI (W0 : World) (B X g o c n : Nat) (la : Option Addr) (cap : Nat) (l : List Ps) (L0 : List Nat) (y : Nat → Value) (W : World) : Prop :=
  ∃ i L, 1 ≤ i ∧ i ≤ n ∧ SlotI y g o c n X ∧ y 8 = .int .i64 (i : Int) ∧ SM W0 W B X g o c n la cap l L ∧ Srt (frOf l) L0 L i
def InI (W0 : World) (B X g o c n : Nat) (la : Option Addr) (cap : Nat) (l : List Ps) (L0 : List Nat) (i : Nat) (y : Nat → Value) (W : World) : Prop :=
  ∃ j L, j ≤ i ∧ SlotI y g o c n X ∧ y 8 = .int .i64 (i : Int) ∧ y 9 = .int .i64 (j : Int) ∧ SM W0 W B X g o c n la cap l L ∧ Ins (frOf l) L0 L i j
set_option maxRecDepth 1000000 in
theorem fr53 (y : Nat → Value) : fr 53 y = #[y 0, y 1, y 2, y 3, y 4, y 5, y 6, y 7, y 8, y 9, y 10, y 11, y 12, y 13, y 14, y 15, y 16, y 17, y 18, y 19, y 20, y 21, y 22, y 23, y 24, y 25, y 26, y 27, y 28, y 29, y 30, y 31, y 32, y 33, y 34, y 35, y 36, y 37, y 38, y 39, y 40, y 41, y 42, y 43, y 44, y 45, y 46, y 47, y 48, y 49, y 50, y 51, y 52] := rfl
/-- two neighbours change places -/
theorem OwnAt.swap {W : World} {B n g o c : Nat} {L : List Nat} (h : OwnAt W B 3 (.slice (some ⟨g, o, none⟩) n c) n (vi L)) (j a b : Nat) (hj : j + 1 < n) :
    OwnAt ((W.setCell ⟨g, o + (j + 1), none⟩ (.int .i64 (a : Int))).setCell ⟨g, o + j, none⟩ (.int .i64 (b : Int))) B 3 (.slice (some ⟨g, o, none⟩) n c) n (vi ((L.set (j + 1) a).set j b)) ∧ Gb g W ((W.setCell ⟨g, o + (j + 1), none⟩ (.int .i64 (a : Int))).setCell ⟨g, o + j, none⟩ (.int .i64 (b : Int))) := by
  obtain ⟨o1, g1⟩ := h.set (j + 1) hj (.int .i64 (a : Int))
  rw [vi_set] at o1
  obtain ⟨o2, g2⟩ := o1.set j (by omega) (.int .i64 (b : Int))
  rw [vi_set] at o2
  exact ⟨o2, grownBy_trans g1 g2⟩
theorem OwnAt.ati {W : World} {B n g o c : Nat} {L : List Nat} (h : OwnAt W B 3 (.slice (some ⟨g, o, none⟩) n c) n (vi L)) (k : Nat) (hk : k < n) : g < W.heap.size ∧ W.cell? ⟨g, o + k, none⟩ = some (.int .i64 (nth L k : Nat)) ∧ W.frozen? ⟨g, o + k, none⟩ = false := by
  obtain ⟨g', o', c', he, _, hl, hc⟩ := h.at_ (by omega)
  cases he
  have hll := h.1
  rw [vi_len] at hll
  have h1 := (hc k hk).1
  rw [vi_get _ _ (by omega)] at h1
  exact ⟨hl, h1, (hc k hk).2⟩
set_option maxRecDepth 1000000 in
set_option maxHeartbeats 1000000 in
theorem swap_ok (B X g o c n j i : Nat) (L : List Nat) (W0 : World) (hn : n ≤ 9) (hj : j + 1 < n) (ho : OwnAt W0 B 3 (.slice (some ⟨g, o, none⟩) n c) n (vi L)) :
    Tri Try.prog 53 (pieceOf Try.f42 [1, 0, 0, 1, 0, 0, 1, 0, 0, 1, 0, 0]) (fun y w => SlotI y g o c n X ∧ y 8 = .int .i64 (i : Int) ∧ y 9 = .int .i64 ((j + 1 : Nat) : Int) ∧ w = W0)
      (fun _ _ y w => SlotI y g o c n X ∧ y 8 = .int .i64 (i : Int) ∧ y 9 = .int .i64 ((j + 1 : Nat) : Int) ∧ OwnAt w B 3 (.slice (some ⟨g, o, none⟩) n c) n (vi ((L.set (j + 1) (nth L j)).set j (nth L (j + 1)))) ∧ Gb g W0 w) := by
  rintro Q y w ⟨⟨s0, s1, s2, s3⟩, s8, s9, rfl⟩ hQ
  have HQ := hid hQ
  obtain ⟨hgl, c0, f0⟩ := ho.ati j (by omega)
  obtain ⟨_, c1, f1⟩ := ho.ati (j + 1) hj
  have e0 : ∀ w', Below w.heap.size w.drew w' → w'.cell? ⟨g, o + j, none⟩ = some (.int .i64 (nth L j : Nat)) := fun w' h => (((Below.refl _ w).drew.trans h).cell (p := ⟨g, o + j, none⟩) hgl).trans c0
  have e1 : ∀ w', Below w.heap.size w.drew w' → w'.cell? ⟨g, o + (j + 1), none⟩ = some (.int .i64 (nth L (j + 1) : Nat)) := fun w' h => (((Below.refl _ w).drew.trans h).cell (p := ⟨g, o + (j + 1), none⟩) hgl).trans c1
  have hod := hid (ho.below ((Below.refl _ w).drew))
  have hgd : Hid (Gb g w w.drew) := Gb.below ((Below.refl _ w).drew)
  generalize nth L j = a at *
  generalize nth L (j + 1) = b at *
  obtain ⟨k, hk⟩ : ∃ k, k = j + 1 := ⟨_, rfl⟩
  rw [← hk] at e1 s9 hj HQ
  have hsub : (k : Int) - 1 = (j : Int) := by omega
  have hwr : IntKind.i64.wrap (j : Int) = (j : Int) := IntWalk.i64_in _ (by omega)
  have Hk := hid hk
  have hjn : j < n := by omega
  clear hQ ho c0 c1 f0 f1 hk
  conv => arg 2; whnf
  rw [fr53]
  simp only [s0, s1, s2, s3, s8, s9]
  clear s0 s1 s2 s3 s8 s9
  refine wp_region_late [15, 17] [15, 17] [(false, [0, 1, 2, 3, 4, 5, 6, 7, 8]), (true, [9]), (false, [10, 11, 12]), (true, [13]), (false, [14, 15, 16, 17])] (Below w.heap.size) (fun _ _ => True) (fun _ => Below.refl _ _) (fun _ _ _ h k => h.trans k) (fun _ => trivial) (fun _ _ _ _ _ => trivial) (fun _ _ _ => trivial) (by kernel_rfl) (by kernel_rfl) ?_
  simp only [wpPh, List.map_cons, List.map_nil, List.contains_cons, List.contains_nil, List.getD_cons_zero, List.getD_cons_succ, Nat.reduceBEq, Bool.or_false, Bool.or_true]
  generalize w.drew = U at *
  repeat (refine wpL_do rfl (fun w' hw' => (by go_simp; rfl)) ?_; simp only [Act.put, List.setIfInBounds_toArray, List.set_cons_succ, List.set_cons_zero])
  try refine wpL_nil ?_
  repeat (refine wpL_do rfl (fun w' hw' => (by go_simp; rfl)) ?_; simp only [Act.put, List.setIfInBounds_toArray, List.set_cons_succ, List.set_cons_zero])
  try refine wpL_nil ?_
  repeat (refine wpL_do rfl (fun w' hw' => (by go_simp; rfl)) ?_; simp only [Act.put, List.setIfInBounds_toArray, List.set_cons_succ, List.set_cons_zero])
  try refine wpL_nil ?_
  repeat (refine wpL_do rfl (fun w' hw' => (by go_simp; rfl)) ?_; simp only [Act.put, List.setIfInBounds_toArray, List.set_cons_succ, List.set_cons_zero])
  try refine wpL_nil ?_
  repeat (refine wpL_do rfl (fun w' hw' => (by go_simp; rfl)) ?_; simp only [Act.put, List.setIfInBounds_toArray, List.set_cons_succ, List.set_cons_zero])
  clear e0 e1 hsub hwr
  obtain ⟨o1, g1⟩ := OwnAt.set hod.out k (by omega) (.int .i64 (a : Int))
  rw [vi_set] at o1
  obtain ⟨o2, g2⟩ := o1.set j (by have := Hk.out; omega) (.int .i64 (b : Int))
  rw [vi_set] at o2
  obtain ⟨_, x1, f1⟩ := hod.out.ati k (by omega)
  obtain ⟨_, x2, f2⟩ := o1.ati j (by have := Hk.out; omega)
  have O2 := hid o2
  have G1 := hid g1
  have G2 := hid g2
  clear o2 g1 g2 o1
  refine wpL_call rfl (fun K hK => ?_)
  go_wp2_with fail
  refine hK _ _ trivial ?_
  clear hK K x1 f1
  try simp only [Act.put, List.setIfInBounds_toArray, List.set_cons_succ, List.set_cons_zero]
  refine wpL_do rfl (fun w' hw' => (by go_simp; rfl)) ?_
  simp only [Act.put, List.setIfInBounds_toArray, List.set_cons_succ, List.set_cons_zero]
  refine wpL_call rfl (fun K hK => ?_)
  go_wp2_with fail
  refine hK _ _ trivial ?_
  clear hK K x2 f2
  try simp only [Act.put, List.setIfInBounds_toArray, List.set_cons_succ, List.set_cons_zero]
  refine wpL_nil ?_
  exact q_fr (N := 53) HQ.out rfl ⟨⟨rfl, rfl, rfl, rfl⟩, rfl, rfl, O2.out, grownBy_trans hgd (grownBy_trans G1.out G2.out)⟩
end Go.Proofs.Ytfbchmihkndfaaa
