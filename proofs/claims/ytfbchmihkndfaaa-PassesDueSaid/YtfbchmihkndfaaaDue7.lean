/- Passes: slices.SortFunc of indices by the closure of Choose: the walk. -/
import Derived.Test.YtfbchmihkndfaaaDue6
import Derived.Deep.CutBlock
import Derived.Test.YtfbchmihkndfaaaDue1
namespace Go.Proofs.Ytfbchmihkndfaaa
set_option linter.unusedVariables false
open Go.RowKit

def frOf (l : List Ps) (x : Nat) : Nat := (pAt l x).fr
/-- memory while it is sorted -/
structure SM (W0 W : World) (B X g o c n : Nat) (la : Option Addr) (cap : Nat) (l : List Ps) (L : List Nat) : Prop where
  own : OwnAt W B 3 (.slice (some ⟨g, o, none⟩) n c) n (vi L)
  gb : Gb g W0 W
theorem SM.below {W0 W W' : World} {B X g o c n cap : Nat} {la : Option Addr} {l : List Ps} {L : List Nat} (h : SM W0 W B X g o c n la cap l L) (hb : Below W.heap.size W W') : SM W0 W' B X g o c n la cap l L :=
  ⟨h.own.below hb, grownBy_trans h.gb (Gb.below hb)⟩
def SlotI (y : Nat → Value) (g o c n X : Nat) : Prop := y 0 = .slice (some ⟨g, o, none⟩) n c ∧ y 1 = .int .i64 0 ∧ y 2 = .int .i64 (n : Int) ∧ y 3 = .func (.func 16) #[] #[.pointer (some ⟨X, 0, none⟩)]
def OutI (W0 : World) (B X g o c n : Nat) (la : Option Addr) (cap : Nat) (l : List Ps) (L0 : List Nat) (y : Nat → Value) (W : World) : Prop :=
  ∃ i L, 1 ≤ i ∧ i ≤ n ∧ SlotI y g o c n X ∧ y 8 = .int .i64 (i : Int) ∧ SM W0 W B X g o c n la cap l L ∧ Srt (frOf l) L0 L i
def InI (W0 : World) (B X g o c n : Nat) (la : Option Addr) (cap : Nat) (l : List Ps) (L0 : List Nat) (i : Nat) (y : Nat → Value) (W : World) : Prop :=
  ∃ j L, j ≤ i ∧ SlotI y g o c n X ∧ y 8 = .int .i64 (i : Int) ∧ y 9 = .int .i64 (j : Int) ∧ SM W0 W B X g o c n la cap l L ∧ Ins (frOf l) L0 L i j
set_option maxRecDepth 1000000 in
theorem fr53 (y : Nat → Value) : fr 53 y = #[y 0, y 1, y 2, y 3, y 4, y 5, y 6, y 7, y 8, y 9, y 10, y 11, y 12, y 13, y 14, y 15, y 16, y 17, y 18, y 19, y 20, y 21, y 22, y 23, y 24, y 25, y 26, y 27, y 28, y 29, y 30, y 31, y 32, y 33, y 34, y 35, y 36, y 37, y 38, y 39, y 40, y 41, y 42, y 43, y 44, y 45, y 46, y 47, y 48, y 49, y 50, y 51, y 52] := rfl
/-- two neighbours change places -/
theorem OwnAt.swap {W : World} {B n g o c : Nat} {L : List Nat} (h : OwnAt W B 3 (.slice (some ⟨g, o, none⟩) n c) n (vi L)) (j a b : Nat) (hj : j + 1 < n) :
    OwnAt ((W.setCell ⟨g, o + (j + 1), none⟩ (.int .i64 (a : Int))).setCell ⟨g, o + j, none⟩ (.int .i64 (b : Int))) B 3 (.slice (some ⟨g, o, none⟩) n c) n (vi ((L.set (j + 1) a).set j b)) ∧ Gb g W ((W.setCell ⟨g, o + (j + 1), none⟩ (.int .i64 (a : Int))).setCell ⟨g, o + j, none⟩ (.int .i64 (b : Int))) := by
  obtain ⟨o1, g1⟩ := h.set (j + 1) hj (.int .i64 (a : Int))
  rw [vi_set] at o1
  obtain ⟨o2, g2⟩ := o1.set j (by omega) (.int .i64 (b : Int))
  rw [vi_set] at o2
  exact ⟨o2, grownBy_trans g1 g2⟩
theorem OwnAt.ati {W : World} {B n g o c : Nat} {L : List Nat} (h : OwnAt W B 3 (.slice (some ⟨g, o, none⟩) n c) n (vi L)) (k : Nat) (hk : k < n) : g < W.heap.size ∧ W.cell? ⟨g, o + k, none⟩ = some (.int .i64 (nth L k : Nat)) ∧ W.frozen? ⟨g, o + k, none⟩ = false := by
  obtain ⟨g', o', c', he, _, hl, hc⟩ := h.at_ (by omega)
  cases he
  have hll := h.1
  rw [vi_len] at hll
  have h1 := (hc k hk).1
  rw [vi_get _ _ (by omega)] at h1
  exact ⟨hl, h1, (hc k hk).2⟩
set_option maxRecDepth 1000000 in
set_option maxHeartbeats 1000000 in
theorem swap_ok (B X g o c n j i : Nat) (L : List Nat) (W0 : World) (hn : n ≤ 9) (hj : j + 1 < n) (ho : OwnAt W0 B 3 (.slice (some ⟨g, o, none⟩) n c) n (vi L)) :
    Tri Try.prog 53 (pieceOf Try.f42 [1, 0, 0, 1, 0, 0, 1, 0, 0, 1, 0, 0]) (fun y w => SlotI y g o c n X ∧ y 8 = .int .i64 (i : Int) ∧ y 9 = .int .i64 ((j + 1 : Nat) : Int) ∧ w = W0)
      (fun _ _ y w => SlotI y g o c n X ∧ y 8 = .int .i64 (i : Int) ∧ y 9 = .int .i64 ((j + 1 : Nat) : Int) ∧ OwnAt w B 3 (.slice (some ⟨g, o, none⟩) n c) n (vi ((L.set (j + 1) (nth L j)).set j (nth L (j + 1)))) ∧ Gb g W0 w) := by
  rintro Q y w ⟨⟨s0, s1, s2, s3⟩, s8, s9, rfl⟩ hQ
  have HQ := hid hQ
  obtain ⟨hgl, c0, f0⟩ := ho.ati j (by omega)
  obtain ⟨_, c1, f1⟩ := ho.ati (j + 1) hj
  have e0 : ∀ w', Below w.heap.size w.drew w' → w'.cell? ⟨g, o + j, none⟩ = some (.int .i64 (nth L j : Nat)) := fun w' h => (((Below.refl _ w).drew.trans h).cell (p := ⟨g, o + j, none⟩) hgl).trans c0
  have e1 : ∀ w', Below w.heap.size w.drew w' → w'.cell? ⟨g, o + (j + 1), none⟩ = some (.int .i64 (nth L (j + 1) : Nat)) := fun w' h => (((Below.refl _ w).drew.trans h).cell (p := ⟨g, o + (j + 1), none⟩) hgl).trans c1
  have hod := hid (ho.below ((Below.refl _ w).drew))
  have hgd : Hid (Gb g w w.drew) := Gb.below ((Below.refl _ w).drew)
  generalize nth L j = a at *
  generalize nth L (j + 1) = b at *
  obtain ⟨k, hk⟩ : ∃ k, k = j + 1 := ⟨_, rfl⟩
  rw [← hk] at e1 s9 hj HQ
  have hsub : (k : Int) - 1 = (j : Int) := by omega
  have hwr : IntKind.i64.wrap (j : Int) = (j : Int) := IntWalk.i64_in _ (by omega)
  have Hk := hid hk
  have hjn : j < n := by omega
  clear hQ ho c0 c1 f0 f1 hk
  conv => arg 2; whnf
  rw [fr53]
  simp only [s0, s1, s2, s3, s8, s9]
  clear s0 s1 s2 s3 s8 s9
  refine wp_region_late [15, 17] [15, 17] [(false, [0, 1, 2, 3, 4, 5, 6, 7, 8]), (true, [9]), (false, [10, 11, 12]), (true, [13]), (false, [14, 15, 16, 17])] (Below w.heap.size) (fun _ _ => True) (fun _ => Below.refl _ _) (fun _ _ _ h k => h.trans k) (fun _ => trivial) (fun _ _ _ _ _ => trivial) (fun _ _ _ => trivial) (by kernel_rfl) (by kernel_rfl) ?_
  simp only [wpPh, List.map_cons, List.map_nil, List.contains_cons, List.contains_nil, List.getD_cons_zero, List.getD_cons_succ, Nat.reduceBEq, Bool.or_false, Bool.or_true]
  generalize w.drew = U at *
  repeat (refine wpL_do rfl (fun w' hw' => (by go_simp; rfl)) ?_; simp only [Act.put, List.setIfInBounds_toArray, List.set_cons_succ, List.set_cons_zero])
  try refine wpL_nil ?_
  repeat (refine wpL_do rfl (fun w' hw' => (by go_simp; rfl)) ?_; simp only [Act.put, List.setIfInBounds_toArray, List.set_cons_succ, List.set_cons_zero])
  try refine wpL_nil ?_
  repeat (refine wpL_do rfl (fun w' hw' => (by go_simp; rfl)) ?_; simp only [Act.put, List.setIfInBounds_toArray, List.set_cons_succ, List.set_cons_zero])
  try refine wpL_nil ?_
  repeat (refine wpL_do rfl (fun w' hw' => (by go_simp; rfl)) ?_; simp only [Act.put, List.setIfInBounds_toArray, List.set_cons_succ, List.set_cons_zero])
  try refine wpL_nil ?_
  repeat (refine wpL_do rfl (fun w' hw' => (by go_simp; rfl)) ?_; simp only [Act.put, List.setIfInBounds_toArray, List.set_cons_succ, List.set_cons_zero])
  clear e0 e1 hsub hwr
  obtain ⟨o1, g1⟩ := OwnAt.set hod.out k (by omega) (.int .i64 (a : Int))
  rw [vi_set] at o1
  obtain ⟨o2, g2⟩ := o1.set j (by have := Hk.out; omega) (.int .i64 (b : Int))
  rw [vi_set] at o2
  obtain ⟨_, x1, f1⟩ := hod.out.ati k (by omega)
  obtain ⟨_, x2, f2⟩ := o1.ati j (by have := Hk.out; omega)
  have O2 := hid o2
  have G1 := hid g1
  have G2 := hid g2
  clear o2 g1 g2 o1
  refine wpL_call rfl (fun K hK => ?_)
  go_wp2_with fail
  refine hK _ _ trivial ?_
  clear hK K x1 f1
  try simp only [Act.put, List.setIfInBounds_toArray, List.set_cons_succ, List.set_cons_zero]
  refine wpL_do rfl (fun w' hw' => (by go_simp; rfl)) ?_
  simp only [Act.put, List.setIfInBounds_toArray, List.set_cons_succ, List.set_cons_zero]
  refine wpL_call rfl (fun K hK => ?_)
  go_wp2_with fail
  refine hK _ _ trivial ?_
  clear hK K x2 f2
  try simp only [Act.put, List.setIfInBounds_toArray, List.set_cons_succ, List.set_cons_zero]
  refine wpL_nil ?_
  exact q_fr (N := 53) HQ.out rfl ⟨⟨rfl, rfl, rfl, rfl⟩, rfl, rfl, O2.out, grownBy_trans hgd (grownBy_trans G1.out G2.out)⟩
end Go.Proofs.Ytfbchmihkndfaaa
/- PassesDue: the queue and its methods. -/
namespace Go.Proofs.Ytfbchmihkndfaaa
set_option linter.unusedVariables false
open Go.RowKit

/-- all below B stands, but what X names -/
structure Kp (B : Nat) (X : List Nat) (W W' : World) : Prop where
  os : W'.os = W.os
  tape : W'.tape = W.tape
  output : W'.output = W.output
  size : W.heap.size ≤ W'.heap.size
  block : ∀ k, k < B → k ∉ X → W'.heap[k]? = W.heap[k]?
theorem Kp.refl (B : Nat) (X : List Nat) (W : World) : Kp B X W W := ⟨rfl, rfl, rfl, Nat.le_refl _, fun _ _ _ => rfl⟩
theorem Kp.trans {B : Nat} {X : List Nat} {A W C : World} (h : Kp B X A W) (k : Kp B X W C) : Kp B X A C :=
  ⟨k.os.trans h.os, k.tape.trans h.tape, k.output.trans h.output, Nat.le_trans h.size k.size, fun j hj hx => (k.block j hj hx).trans (h.block j hj hx)⟩
theorem Kp.mono {B : Nat} {X X' : List Nat} {A W : World} (h : Kp B X A W) (hx : ∀ k ∈ X, k ∈ X') : Kp B X' A W :=
  ⟨h.os, h.tape, h.output, h.size, fun j hj hn => h.block j hj (fun hm => hn (hx j hm))⟩
theorem Kp.of_below {B : Nat} {X : List Nat} {A W : World} (h : Below A.heap.size A W) (hB : B ≤ A.heap.size) : Kp B X A W :=
  ⟨h.os, h.tape, h.output, h.size, fun j hj _ => h.block j (by omega)⟩
theorem Kp.of_gb {B k : Nat} {X : List Nat} {A W : World} (h : Gb k A W) (hB : B ≤ A.heap.size) (hk : B ≤ k ∨ k ∈ X) : Kp B X A W :=
  ⟨h.os, h.tape, h.output, h.size, fun j hj hn => h.block j (by omega) (fun e => by
    cases e
    rcases hk with h1 | h1
    · omega
    · exact hn h1)⟩
theorem Kp.of_own {B : Nat} {X : List Nat} {A W : World} {row : Option Nat} (h : A.grownBy W row) (hB : B ≤ A.heap.size) (hk : ∀ k, row = some k → B ≤ k) : Kp B X A W :=
  ⟨h.os, h.tape, h.output, h.size, fun j hj hn => h.block j (by omega) (fun e => by have := hk j e.symm; omega)⟩
theorem Kp.row {B : Nat} {X : List Nat} {A W : World} (h : Kp B X A W) {b : Nat} {o : Obj} (hr : A.heap[b]? = some o) (hb : b < B) (hx : b ∉ X) : W.heap[b]? = some o := (h.block b hb hx).trans hr
theorem Kp.below {B b0 : Nat} {X : List Nat} {A W : World} (h : Kp B X A W) (hb : b0 ≤ B) (hx : ∀ k ∈ X, b0 ≤ k) : Below b0 A W :=
  ⟨h.os, h.tape, h.output, h.size, fun j hj => h.block j (by omega) (fun hm => by have := hx j hm; omega)⟩
def JbAt (W : World) (jb n : Nat) (F Y rem : Nat → Nat) : Prop :=
  ∃ cs : Array Value, W.heap[jb]? = some (.cells cs 32) ∧ ∀ i, i < n → cs[i * 3]? = some (.int .i64 (F i : Int)) ∧ cs[i * 3 + 1]? = some (.int .i64 (Y i : Int)) ∧ cs[i * 3 + 2]? = some (.int .i64 (rem i : Int))
theorem JbAt.cell {W : World} {jb n : Nat} {F Y rem : Nat → Nat} (h : JbAt W jb n F Y rem) (i : Nat) (hi : i < n) :
    W.cell? ⟨jb, i * 3, none⟩ = some (.int .i64 (F i : Int)) ∧ W.cell? ⟨jb, i * 3 + 1, none⟩ = some (.int .i64 (Y i : Int)) ∧ W.cell? ⟨jb, i * 3 + 2, none⟩ = some (.int .i64 (rem i : Int)) := by
  obtain ⟨cs, h1, h2⟩ := h
  rw [cell_of_row _ _ _ _ _ _ h1, cell_of_row _ _ _ _ _ _ h1, cell_of_row _ _ _ _ _ _ h1]
  exact h2 i hi
theorem JbAt.kept {W W' : World} {jb n B : Nat} {X : List Nat} {F Y rem : Nat → Nat} (h : JbAt W jb n F Y rem) (hk : Kp B X W W') (hb : jb < B) (hx : jb ∉ X) : JbAt W' jb n F Y rem := by
  obtain ⟨cs, h1, h2⟩ := h
  exact ⟨cs, hk.row h1 hb hx, h2⟩
/-- the queue: its box at QB, its jobs at jb, the places at_ in a row of its own -/
structure Qu (W : World) (B QB jb n nc : Nat) (av : Value) (F Y rem : Nat → Nat) (at_ : List Nat) : Prop where
  box : W.heap[QB]? = some (.cells #[.slice (some ⟨jb, 0, none⟩) n nc, av] 68)
  jobs : JbAt W jb n F Y rem
  own : OwnAt W B 3 av at_.length (vi at_)
  le : n ≤ nc
  mx : nc ≤ maxLen
  lt : ∀ x ∈ at_, x < n
  qB : QB < B
  jB : jb < B
  bW : B ≤ W.heap.size
  len : at_.length ≤ 100
theorem Qu.nthlt {W : World} {B QB jb n nc : Nat} {av : Value} {F Y rem : Nat → Nat} {a : List Nat} (h : Qu W B QB jb n nc av F Y rem a) (i : Nat) (hi : i < a.length) : nth a i < n := by
  rw [nth_get hi]; exact h.lt _ (List.getElem_mem _)
theorem Qu.ne {W : World} {B QB jb n nc : Nat} {av : Value} {F Y rem : Nat → Nat} {a : List Nat} (h : Qu W B QB jb n nc av F Y rem a) : jb ≠ QB := fun e => by
  obtain ⟨cs, h1, _⟩ := h.jobs
  rw [e, h.box] at h1
  cases h1
theorem Qu.below {W W' : World} {B QB jb n nc : Nat} {av : Value} {F Y rem : Nat → Nat} {a : List Nat} (h : Qu W B QB jb n nc av F Y rem a) (hb : Below W.heap.size W W') : Qu W' B QB jb n nc av F Y rem a :=
  ⟨row_below h.box hb, h.jobs.kept (Kp.of_below (X := []) hb h.bW) h.jB (by simp), h.own.below hb, h.le, h.mx, h.lt, h.qB, h.jB, Nat.le_trans h.bW hb.size, h.len⟩
set_option maxRecDepth 1000000 in
theorem len_q {B QB jb n nc : Nat} {av : Value} {F Y rem : Nat → Nat} {a : List Nat} {w : World} (h : Qu w B QB jb n nc av F Y rem a) :
    Calls Try.prog 30 #[.pointer (some ⟨QB, 0, none⟩)] w fun e w' => e = .returned (.int .i64 (a.length : Int)) ∧ w' = w := by
  obtain ⟨oa, oc, rfl, _, _⟩ := h.own.form
  have c1 : w.cell? ⟨QB, 1, none⟩ = some (.slice oa a.length oc) := by rw [cell_of_row _ _ _ _ _ _ h.box]; rfl
  clear h
  go_enter Try.func30, Try.ntmps30
  go_wp2_with fail
  go_ret
  exact ⟨rfl, rfl⟩
set_option maxRecDepth 1000000 in
set_option maxHeartbeats 1000000 in
theorem swap_q {B QB jb n nc : Nat} {av : Value} {F Y rem : Nat → Nat} {a : List Nat} {w : World} (h : Qu w B QB jb n nc av F Y rem a) (i j : Nat) (hi : i < a.length) (hj : j < a.length) :
    Calls Try.prog 82 #[.pointer (some ⟨QB, 0, none⟩), .int .i64 (i : Int), .int .i64 (j : Int)] w fun e w' => e = .returned (.tuple #[]) ∧ Qu w' B QB jb n nc av F Y rem (swp a i j) ∧ Kp B [] w w' := by
  obtain ⟨g, o, c, rfl, hgB, hgl, _⟩ := h.own.at_ (by omega)
  have hd : Below w.heap.size w w.drew := (Below.refl _ w).drew
  have H2 := hid (h.below hd)
  have Hd := hid hd
  have hlt := row_lt h.box
  have e0 : ∀ w', Below w.heap.size w.drew w' → w'.cell? ⟨QB, 1, none⟩ = some (.slice (some ⟨g, o, none⟩) a.length c) := fun w' hw => by rw [cell_of_row _ _ _ _ _ _ (row_below h.box (hd.trans hw))]; rfl
  obtain ⟨_, ci, _⟩ := h.own.ati i hi
  obtain ⟨_, cj, _⟩ := h.own.ati j hj
  have e1 : ∀ w', Below w.heap.size w.drew w' → w'.cell? ⟨g, o + i, none⟩ = some (.int .i64 (nth a i : Nat)) := fun w' hw => ((hd.trans hw).cell (p := ⟨g, o + i, none⟩) hgl).trans ci
  have e2 : ∀ w', Below w.heap.size w.drew w' → w'.cell? ⟨g, o + j, none⟩ = some (.int .i64 (nth a j : Nat)) := fun w' hw => ((hd.trans hw).cell (p := ⟨g, o + j, none⟩) hgl).trans cj
  have hl100 := h.len
  have HgB := hid hgB
  have hsw : Hid (swp a i j = (a.set i (nth a j)).set j (nth a i)) := rfl
  obtain ⟨_, _, hfe, hf1, hf2⟩ := h.own.form
  cases hfe
  unfold maxLen at hf2
  have HN : Hid (∀ x ∈ swp a i j, x < n) := fun x hx => by
    have := (swp_perm a i j hi hj).mem_iff.1 hx
    exact h.lt x this
  have HL : Hid ((swp a i j).length = a.length) := swp_len a i j
  generalize swp a i j = a2 at *
  generalize nth a i = x at *
  generalize nth a j = z at *
  clear h ci cj hd
  go_enter Try.func82, Try.ntmps82
  refine wp_region_late [25, 27] [25, 27] [(false, [0, 1, 2]), (true, [3]), (false, [4, 5, 6, 7]), (true, [8]), (false, [9, 10, 11, 12]), (true, [13]), (false, [14, 15]), (true, [16]), (false, [17, 18, 19]), (true, [20]), (false, [21, 22]), (true, [23]), (false, [24, 25, 26, 27])] (Below w.heap.size) (fun _ _ => True) (fun _ => Below.refl _ _) (fun _ _ _ h k => h.trans k) (fun _ => trivial) (fun _ _ _ _ _ => trivial) (fun _ _ _ => trivial) (by kernel_rfl) (by kernel_rfl) ?_
  simp only [wpPh, List.map_cons, List.map_nil, List.contains_cons, List.contains_nil, List.getD_cons_zero, List.getD_cons_succ, Nat.reduceBEq, Bool.or_false, Bool.or_true]
  generalize w.drew = U at *
  iterate 12 (repeat (refine wpL_do rfl (fun w' hw' => (by go_simp; rfl)) ?_; simp only [Act.put, List.setIfInBounds_toArray, List.set_cons_succ, List.set_cons_zero]); try refine wpL_nil ?_)
  repeat (refine wpL_do rfl (fun w' hw' => (by go_simp; rfl)) ?_; simp only [Act.put, List.setIfInBounds_toArray, List.set_cons_succ, List.set_cons_zero])
  clear e0 e1 e2
  obtain ⟨o1, g1⟩ := OwnAt.set H2.out.own i hi (.int .i64 (z : Int))
  rw [vi_set] at o1
  obtain ⟨o2, g2⟩ := o1.set j hj (.int .i64 (x : Int))
  rw [vi_set] at o2
  obtain ⟨_, x1, f1⟩ := H2.out.own.ati i hi
  obtain ⟨_, x2, f2⟩ := o1.ati j hj
  have O2 := hid o2
  have G1 := hid g1
  have G2 := hid g2
  clear o2 g1 g2 o1
  refine wpL_call rfl (fun K hK => ?_)
  go_wp2_with fail
  refine hK _ _ trivial ?_
  clear hK K x1 f1
  try simp only [Act.put, List.setIfInBounds_toArray, List.set_cons_succ, List.set_cons_zero]
  refine wpL_do rfl (fun w' hw' => (by go_simp; rfl)) ?_
  simp only [Act.put, List.setIfInBounds_toArray, List.set_cons_succ, List.set_cons_zero]
  refine wpL_call rfl (fun K hK => ?_)
  go_wp2_with fail
  refine hK _ _ trivial ?_
  clear hK K x2 f2
  try simp only [Act.put, List.setIfInBounds_toArray, List.set_cons_succ, List.set_cons_zero]
  refine wpL_nil ?_
  have hbU : B ≤ U.heap.size := H2.out.bW
  have k1 : Kp B [] U ((U.setCell ⟨g, o + i, none⟩ (.int .i64 (z : Int))).setCell ⟨g, o + j, none⟩ (.int .i64 (x : Int))) := Kp.of_gb (grownBy_trans G1.out G2.out) hbU (.inl HgB.out)
  have k0 : Kp B [] w U := Kp.of_below Hd.out (by omega)
  go_end0
  refine ⟨rfl, ⟨k1.row H2.out.box H2.out.qB (by simp), H2.out.jobs.kept k1 H2.out.jB (by simp), ?_, H2.out.le, H2.out.mx, HN.out, H2.out.qB, H2.out.jB, Nat.le_trans hbU k1.size, by rw [HL.out]; exact hl100⟩, k0.trans k1⟩
  rw [HL.out, hsw.out]
  exact O2.out
end Go.Proofs.Ytfbchmihkndfaaa
/- Passes: slices.SortFunc of indices: the test, the loops. -/
namespace Go.Proofs.Ytfbchmihkndfaaa
set_option linter.unusedVariables false
open Go.RowKit

set_option maxRecDepth 1000000 in
set_option maxHeartbeats 1000000 in
theorem test_ok (B X g o c n j i cap : Nat) (la : Option Addr) (l : List Ps) (L : List Nat) (W0 : World) (hn : n ≤ 9) (hj : j < n) (hg : GoodPs l) (hL : ∀ k, k < n → nth L k < n) (hX : W0.heap[X]? = some (.cells #[.slice la n cap] 39)) (hr : RdPs W0 la n cap l) (ho : OwnAt W0 B 3 (.slice (some ⟨g, o, none⟩) n c) n (vi L)) :
    Tri Try.prog 53 (pieceOf Try.f42 [1, 0, 0, 1, 0, 0, 1, 0, 0, 0, 0]) (fun y w => SlotI y g o c n X ∧ y 8 = .int .i64 (i : Int) ∧ y 9 = .int .i64 (j : Int) ∧ w = W0)
      (fun _ _ y w => SlotI y g o c n X ∧ y 8 = .int .i64 (i : Int) ∧ y 9 = .int .i64 (j : Int) ∧ y 34 = .bool (decide (0 < j) && decide (frOf l (nth L (j - 1)) < frOf l (nth L j))) ∧ Below W0.heap.size W0 w) := by
  rintro Q y w ⟨⟨s0, s1, s2, s3⟩, s8, s9, rfl⟩ hQ
  have HQ := hid hQ
  obtain ⟨hgl, c0, _⟩ := ho.ati j hj
  have e0 : ∀ w', Below w.heap.size w.drew w' → w'.cell? ⟨g, o + j, none⟩ = some (.int .i64 (nth L j : Nat)) := fun w' h => (((Below.refl _ w).drew.trans h).cell (p := ⟨g, o + j, none⟩) hgl).trans c0
  have hd : Hid (Below w.heap.size w w.drew) := (Below.refl _ w).drew
  clear hQ
  by_cases h0 : j = 0
  · subst h0
    have d1 : decide ((0 : Int) < 0) = false := by decide
    clear e0 c0 ho hr hX hL
    conv => arg 2; whnf
    rw [fr53]
    simp only [s0, s1, s2, s3, s8, s9]
    clear s0 s1 s2 s3 s8 s9
    refine wp_region_can_all [14] [0, 1, 2, 3, 4, 5, 6, 7, 8, 9, 10, 11, 12, 13, 14, 15, 16] (Below w.heap.size) (fun _ => Below.refl _ _) (fun _ _ _ h k => h.trans k) (by kernel_rfl) (by kernel_rfl) ?_
    simp only [List.map_cons, List.map_nil, List.contains_cons, List.contains_nil, List.getD_cons_zero, List.getD_cons_succ, Nat.reduceBEq, Bool.or_false]
    generalize w.drew = U at *
    iterate 4 (refine wpL_do rfl (fun w' hw' => (by go_simp; rfl)) ?_; simp only [Act.put, List.setIfInBounds_toArray, List.set_cons_succ, List.set_cons_zero])
    iterate 10 ((with_reducible refine wpL_pass ?_ ?_); (· rfl); simp only [Act.put, List.setIfInBounds_toArray, List.set_cons_succ, List.set_cons_zero])
    (with_reducible refine wpL_hush ?_ ?_ ?_)
    · rfl
    · exact Below.refl _ _
    simp only [Act.put, List.setIfInBounds_toArray, List.set_cons_succ, List.set_cons_zero]
    (with_reducible refine wpL_pass ?_ ?_)
    · rfl
    simp only [Act.put, List.setIfInBounds_toArray, List.set_cons_succ, List.set_cons_zero]
    refine wpL_do rfl (fun w' hw' => (by go_simp; rfl)) ?_
    simp only [Act.put, List.setIfInBounds_toArray, List.set_cons_succ, List.set_cons_zero]
    refine wpL_nil ?_
    exact q_fr (N := 53) HQ.out rfl ⟨⟨rfl, rfl, rfl, rfl⟩, rfl, rfl, rfl, hd.out⟩
  · have d1 : decide ((0 : Int) < (j : Int)) = true := decide_eq_true (by omega)
    have d2 : decide (0 < j) = true := decide_eq_true (by omega)
    obtain ⟨_, c1, _⟩ := ho.ati (j - 1) (by omega)
    have e1 : ∀ w', Below w.heap.size w.drew w' → w'.cell? ⟨g, o + (j - 1), none⟩ = some (.int .i64 (nth L (j - 1) : Nat)) := fun w' h => (((Below.refl _ w).drew.trans h).cell (p := ⟨g, o + (j - 1), none⟩) hgl).trans c1
    have hcl := cl_ok X n cap (nth L j) (nth L (j - 1)) la l hg (hL j hj) (hL (j - 1) (by omega)) hn w.drew hX (hr.below (Below.refl _ w).drew)
    have hfin : Hid (decide ((((pAt l (nth L (j - 1))).fr : Nat) : Int) - (((pAt l (nth L j)).fr : Nat) : Int) < 0) = (true && decide (frOf l (nth L (j - 1)) < frOf l (nth L j)))) := by
      unfold Hid frOf
      rw [Bool.true_and]
      exact decide_eq_decide.2 (by omega)
    rw [d2] at HQ
    generalize (true && decide (frOf l (nth L (j - 1)) < frOf l (nth L j))) = bb at *
    generalize ((((pAt l (nth L (j - 1))).fr : Nat) : Int) - (((pAt l (nth L j)).fr : Nat) : Int)) = df at *
    generalize nth L j = a at *
    generalize nth L (j - 1) = b at *
    obtain ⟨k, hk⟩ : ∃ k, k = j - 1 := ⟨_, rfl⟩
    rw [← hk] at e1
    have hsub : (j : Int) - 1 = (k : Int) := by omega
    have hwr : IntKind.i64.wrap (k : Int) = (k : Int) := IntWalk.i64_in _ (by omega)
    have hkn : k < n := by omega
    clear hk c0 c1 ho hr hX hL h0
    conv => arg 2; whnf
    rw [fr53]
    simp only [s0, s1, s2, s3, s8, s9]
    clear s0 s1 s2 s3 s8 s9
    refine wp_region_can_all [14] [0, 1, 2, 3, 4, 5, 6, 7, 8, 9, 10, 11, 12, 13, 14, 15, 16] (Below w.heap.size) (fun _ => Below.refl _ _) (fun _ _ _ h k => h.trans k) (by kernel_rfl) (by kernel_rfl) ?_
    simp only [List.map_cons, List.map_nil, List.contains_cons, List.contains_nil, List.getD_cons_zero, List.getD_cons_succ, Nat.reduceBEq, Bool.or_false]
    generalize w.drew = U at *
    repeat (refine wpL_do rfl (fun w' hw' => (by go_simp; rfl)) ?_; simp only [Act.put, List.setIfInBounds_toArray, List.set_cons_succ, List.set_cons_zero])
    refine wpL_call rfl (fun K hK => ?_)
    clear e0 e1 hsub hwr
    go_wp2_with fail
    refine hcl.mono ?_
    rintro e W1 ⟨rfl, b1⟩
    refine hK _ _ (b1.mono hd.out.size) ?_
    have hd1 := hid (hd.out.trans (b1.mono hd.out.size))
    clear hK K hcl b1
    try simp only [Act.put, List.setIfInBounds_toArray, List.set_cons_succ, List.set_cons_zero]
    cases bb with
    | true =>
      have hf := hfin.out
      clear hfin
      iterate 2 (refine wpL_do rfl (fun w' hw' => (by go_simp; rfl)) ?_; simp only [Act.put, List.setIfInBounds_toArray, List.set_cons_succ, List.set_cons_zero])
      refine wpL_nil ?_
      exact q_fr (N := 53) HQ.out rfl ⟨⟨rfl, rfl, rfl, rfl⟩, rfl, rfl, rfl, hd1.out⟩
    | false =>
      have hf := hfin.out
      clear hfin
      iterate 2 (refine wpL_do rfl (fun w' hw' => (by go_simp; rfl)) ?_; simp only [Act.put, List.setIfInBounds_toArray, List.set_cons_succ, List.set_cons_zero])
      refine wpL_nil ?_
      exact q_fr (N := 53) HQ.out rfl ⟨⟨rfl, rfl, rfl, rfl⟩, rfl, rfl, rfl, hd1.out⟩
end Go.Proofs.Ytfbchmihkndfaaa
