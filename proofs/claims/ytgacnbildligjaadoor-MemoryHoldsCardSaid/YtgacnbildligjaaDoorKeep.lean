/- MemoryHolds: a memory's codes, and what visit, at, Load, Store and Turn do to them. -/
import Derived.Test.YtgacnbildligjaaDoorTwoLaw
import Derived.Test.YtgacnbildligjaaDoorRegionP
import Derived.Test.YtgacnbildligjaaDoorRow
namespace Go.Proofs.YtgacnbildligjaaDoor
set_option linter.unusedVariables false
open Go.RowKit

/-- the cells of codes -/
def ci (cs : List Nat) : Array Value := (cs.map fun c : Nat => Value.int .i64 (c : Int)).toArray
theorem ci_size (cs : List Nat) : (ci cs).size = cs.length := by simp [ci]
theorem ci_get (cs : List Nat) (k : Nat) (h : k < cs.length) : (ci cs)[k]? = some (.int .i64 (cs.getD k 0 : Nat)) := by
  simp [ci, h]
theorem ci_set (cs : List Nat) (k c : Nat) : (ci cs).setIfInBounds k (.int .i64 (c : Int)) = ci (cs.set k c) := by
  unfold ci
  rw [List.setIfInBounds_toArray, List.map_set]

/-- a code that keeps a word; d: one of its bits is turned -/
def Good (c v : Nat) (d : Bool) : Prop := v < 2 ^ 32 ∧ (d = false → IsCode c v) ∧ (d = true → ∃ c0 p, p < 39 ∧ IsCode c0 v ∧ c = c0 ^^^ 2 ^ p)
theorem Good.lt {c v : Nat} {d : Bool} (h : Good c v d) : c < 2 ^ 39 := by
  cases d with
  | false => exact (h.2.1 rfl).lt
  | true => obtain ⟨c0, p, hp, hc, rfl⟩ := h.2.2 rfl; exact Nat.xor_lt_two_pow hc.lt (Nat.pow_lt_pow_right (by decide) hp)
theorem Good.mends {c v : Nat} {d : Bool} (h : Good c v d) : lostB c = false ∧ od c 39 = d ∧ mendN c = v := by
  cases d with
  | false => exact mend_clean (h.2.1 rfl) h.1
  | true => obtain ⟨c0, p, hp, hc, rfl⟩ := h.2.2 rfl; exact mend_one hc h.1 hp
theorem good_zero : Good 0 0 false := ⟨by decide, fun _ => ⟨by decide, xs_zero _, od_zero _, by simp⟩, fun h => by cases h⟩
theorem good_code {c v : Nat} (h : IsCode c v) (hv : v < 2 ^ 32) : Good c v false := ⟨hv, fun _ => h, fun h => by cases h⟩
theorem good_turn {c v p : Nat} (h : Good c v false) (hp : p < 39) : Good (c ^^^ 2 ^ p) v true := ⟨h.1, (fun h => by cases h), fun _ => ⟨c, p, hp, h.2.1 rfl, rfl⟩⟩

/-- a memory: where it lies, its codes, where a Scrub goes on -/
structure Mem (W : World) (mb cb : Nat) (cs : List Nat) (nx : Nat) : Prop where
  m : W.heap[mb]? = some (.cells #[.slice (some ⟨cb, 0, none⟩) cs.length cs.length, .int .i64 (nx : Int)] 69)
  c : W.heap[cb]? = some (.cells (ci cs) 3)
theorem Mem.ne {W : World} {mb cb : Nat} {cs : List Nat} {nx : Nat} (h : Mem W mb cb cs nx) : mb ≠ cb := fun e => by
  have h1 := h.m
  rw [e, h.c] at h1
  injection h1 with h2
  injection h2 with h3 h4
  exact absurd h4 (by decide)
theorem Mem.drew {W : World} {mb cb : Nat} {cs : List Nat} {nx : Nat} (h : Mem W mb cb cs nx) : Mem W.drew mb cb cs nx := ⟨h.m, h.c⟩
theorem Mem.below {W W' : World} {mb cb : Nat} {cs : List Nat} {nx : Nat} (h : Mem W mb cb cs nx) (hb : Below W.heap.size W W') : Mem W' mb cb cs nx := ⟨row_below h.m hb, row_below h.c hb⟩
theorem Mem.grown {W W' : World} {mb cb : Nat} {cs : List Nat} {nx b : Nat} (h : Mem W mb cb cs nx) (hb : W.grownBy W' (some b)) (h1 : mb ≠ b) (h2 : cb ≠ b) : Mem W' mb cb cs nx := ⟨row_grown h.m hb h1, row_grown h.c hb h2⟩
theorem Mem.code {W : World} {mb cb : Nat} {cs : List Nat} {nx : Nat} (h : Mem W mb cb cs nx) (k : Nat) (hk : k < cs.length) : W.cell? ⟨cb, k, none⟩ = some (.int .i64 (cs.getD k 0 : Nat)) := by
  rw [cell_of_row _ _ _ _ _ _ h.c, ci_get cs k hk]
theorem Mem.c0 {W : World} {mb cb : Nat} {cs : List Nat} {nx : Nat} (h : Mem W mb cb cs nx) : W.cell? ⟨mb, 0, none⟩ = some (.slice (some ⟨cb, 0, none⟩) cs.length cs.length) := by
  rw [cell_of_row _ _ _ _ _ _ h.m]; rfl
theorem Mem.c1 {W : World} {mb cb : Nat} {cs : List Nat} {nx : Nat} (h : Mem W mb cb cs nx) : W.cell? ⟨mb, 1, none⟩ = some (.int .i64 (nx : Int)) := by
  rw [cell_of_row _ _ _ _ _ _ h.m]; rfl
/-- a code is stored -/
theorem Mem.set {W : World} {mb cb : Nat} {cs : List Nat} {nx : Nat} (h : Mem W mb cb cs nx) (k c : Nat) : Mem (W.setCell ⟨cb, k, none⟩ (.int .i64 (c : Int))) mb cb (cs.set k c) nx ∧ W.grownBy (W.setCell ⟨cb, k, none⟩ (.int .i64 (c : Int))) (some cb) := by
  obtain ⟨h1, h2⟩ := set_row h.c k (.int .i64 (c : Int)) (ci_set cs k c)
  refine ⟨⟨?_, h1⟩, h2⟩
  rw [List.length_set]
  exact row_grown h.m h2 h.ne
theorem TabAt.lt {w : World} (h : TabAt w) : 2 < w.heap.size := by
  have h0 := h 0 (of_decide_eq_true (by kernel_rfl))
  exact World.block_lt_of_cell? w ⟨2, 0, none⟩ h0
theorem TabAt.below {w w' : World} {B : Nat} (h : TabAt w) (hb : Below B w w') (hB : 2 < B) : TabAt w' := fun j hj => (hb.cell (p := ⟨2, j, none⟩) hB).trans (h j hj)
theorem TabAt.drew {w : World} (h : TabAt w) : TabAt w.drew := h

theorem visit_ok (mb cb k v nx : Nat) (d : Bool) (cs : List Nat) (W : World) (hM : Mem W mb cb cs nx) (hk : k < cs.length) (hG : Good (cs.getD k 0) v d) (hT : TabAt W) :
    Calls Tryd.prog 25 #[.pointer (some ⟨cb, k, none⟩)] W fun e w' => ∃ c, e = .returned (.tuple #[.int .i64 (v : Int), .bool d, .bool true]) ∧ Good c v false ∧ Mem w' mb cb (cs.set k c) nx ∧ W.grownBy w' (some cb) := by
  obtain ⟨x1, x2, x3⟩ := hG.mends
  have hc := hG.lt
  have hcell := hM.code k hk
  have fz := frozen_row hM.c k
  have HV := hid hG.1
  have hv := hG.1
  have hset : cs.set k (cs.getD k 0) = cs := by
    rw [List.getD_eq_getElem?_getD, List.getElem?_eq_getElem hk]; exact List.set_getElem_self hk
  have hset := hid hset
  have hG := hid hG
  clear hk
  generalize cs.getD k 0 = c0 at *
  go_enter Tryd.func25, Tryd.ntmps25
  go_wp2_with fail
  refine (mend_it c0 v d hc W hT x1 x2 x3).mono ?_
  rintro e w' ⟨rfl, rfl⟩
  cases d with
  | false =>
    clear x1 x2 x3 hv
    go_wp2_with fail
    go_ret3
    exact ⟨c0, rfl, hG.out, by rw [hset.out]; exact hM, World.grownBy.refl _ _⟩
  | true =>
    clear x1 x2 x3
    go_wp2_with fail
    refine (code_ok v hv W hT).mono ?_
    rintro e w' ⟨c, rfl, hI, rfl⟩
    have hI := hid hI
    clear hv
    go_wp2_with fail
    go_ret3
    exact ⟨c, rfl, good_code hI.out HV.out, (hM.set k c).1, (hM.set k c).2⟩

theorem at_ok (mb cb k nx : Nat) (cs : List Nat) (W : World) (hM : Mem W mb cb cs nx) (hk : k < cs.length) :
    Calls Tryd.prog 24 #[.pointer (some ⟨mb, 0, none⟩), .int .i64 (k : Int)] W fun e w' => e = .returned (.tuple #[.pointer (some ⟨cb, k, none⟩), .nilIface]) ∧ w' = W := by
  have h0 := hM.c0
  generalize cs.length = n at *
  have t1 : (k : Int) < (n : Int) := by omega
  have t2 : ¬ (n : Int) ≤ (k : Int) := by omega
  go_enter Tryd.func24, Tryd.ntmps24
  go_wp2_with fail
  go_ret2
  exact ⟨rfl, rfl⟩

theorem load_ok (mb cb k v nx : Nat) (d : Bool) (cs : List Nat) (W : World) (hM : Mem W mb cb cs nx) (hk : k < cs.length) (hG : Good (cs.getD k 0) v d) (hT : TabAt W) :
    Calls Tryd.prog 14 #[.pointer (some ⟨mb, 0, none⟩), .int .i64 (k : Int)] W fun e w' => ∃ c, e = .returned (.tuple #[.int .i64 (v : Int), .nilIface]) ∧ Good c v false ∧ Mem w' mb cb (cs.set k c) nx ∧ W.grownBy w' (some cb) := by
  have HK := hid hk
  clear hk
  have HG := hid hG
  clear hG
  go_enter Tryd.func14, Tryd.ntmps14
  go_wp2_with fail
  refine (at_ok mb cb k nx cs W hM HK.out).mono ?_
  rintro e w' ⟨rfl, rfl⟩
  go_wp2_with fail
  refine (visit_ok mb cb k v nx d cs _ hM HK.out HG.out hT).mono ?_
  rintro e w1 ⟨c, rfl, hc, hM1, g1⟩
  have hc := hid hc
  go_wp2_with fail
  go_ret2
  exact ⟨c, rfl, hc.out, hM1, g1⟩

theorem store_ok (mb cb k v nx : Nat) (cs : List Nat) (W : World) (hM : Mem W mb cb cs nx) (hk : k < cs.length) (hv : v < 2 ^ 32) (hT : TabAt W) :
    Calls Tryd.prog 15 #[.pointer (some ⟨mb, 0, none⟩), .int .i64 (k : Int), .int .i64 (v : Int)] W fun e w' => ∃ c, e = .returned .nilIface ∧ Good c v false ∧ Mem w' mb cb (cs.set k c) nx ∧ W.grownBy w' (some cb) := by
  have hcell := hM.code k hk
  have fz := frozen_row hM.c k
  have HK := hid hk
  have HV := hid hv
  clear hk
  generalize cs.getD k 0 = c0 at *
  go_enter Tryd.func15, Tryd.ntmps15
  go_wp2_with fail
  refine (at_ok mb cb k nx cs W hM HK.out).mono ?_
  rintro e w' ⟨rfl, rfl⟩
  go_wp2_with fail
  refine (code_ok v HV.out _ hT).mono ?_
  rintro e w' ⟨c, rfl, hI, rfl⟩
  have hI := hid hI
  clear hv
  go_wp2_with fail
  go_ret
  exact ⟨c, rfl, good_code hI.out HV.out, (hM.set k c).1, (hM.set k c).2⟩

set_option maxRecDepth 100000 in
theorem turn_ok (mb cb k v p nx : Nat) (cs : List Nat) (W : World) (hM : Mem W mb cb cs nx) (hk : k < cs.length) (hG : Good (cs.getD k 0) v false) (hp : p < 39) :
    Calls Tryd.prog 16 #[.pointer (some ⟨mb, 0, none⟩), .int .i64 (k : Int), .int .i64 (p : Int)] W fun e w' => ∃ c, e = .returned .nilIface ∧ Good c v true ∧ Mem w' mb cb (cs.set k c) nx ∧ W.grownBy w' (some cb) := by
  have hcell := (hM.code k hk)
  have fz := frozen_row hM.c k
  have HK := hid hk
  clear hk
  have hc := hG.lt
  have HG := hid (good_turn hG hp)
  clear hG
  generalize cs.getD k 0 = c0 at *
  obtain ⟨y1, y2⟩ := pow_shl p hp
  have e1 : bits .xor .i64 (c0 : Int) ((2 ^ p : Nat) : Int) = ((c0 ^^^ 2 ^ p : Nat) : Int) := i64_xor_nat c0 _ (by omega) (by omega)
  generalize c0 ^^^ 2 ^ p = c1 at *
  generalize 2 ^ p = pp at *
  have y3 : IntKind.i64.wrap ((2 : Int) ^ p) = (pp : Int) := (wrap_is _).trans y1
  have t1 : (p : Int) < 39 := by omega
  go_enter Tryd.func16, Tryd.ntmps16
  go_wp2_with fail
  refine (at_ok mb cb k nx cs W hM HK.out).mono ?_
  rintro e w' ⟨rfl, rfl⟩
  obtain ⟨Wd, hWd⟩ : ∃ Wd : World, Wd = { w' with drawn := w'.drawn + 1 } := ⟨_, rfl⟩
  have eW : w'.drew = Wd := hWd.symm
  have hMd := hM.drew
  have gd := grownBy_drew w' (some cb)
  have hcell : w'.drew.cell? ⟨cb, k, none⟩ = _ := hcell
  have fz : w'.drew.frozen? ⟨cb, k, none⟩ = false := fz
  rw [eW] at hMd gd hcell fz
  go_wp2_with fail
  refine wp_region_still_tail 7 (by kernel_rfl) (by kernel_rfl) ?_
  simp only [List.take_succ_cons, List.take_zero, List.drop_succ_cons, List.drop_zero]
  rw [← hWd]
  clear hWd eW hM
  repeat still_step
  refine wpStill_nil ?_
  go_wp2_with fail
  go_ret
  obtain ⟨m1, g1⟩ := hMd.set k c1
  exact ⟨c1, rfl, HG.out, m1, grownBy_trans gd g1⟩
end Go.Proofs.YtgacnbildligjaaDoor
