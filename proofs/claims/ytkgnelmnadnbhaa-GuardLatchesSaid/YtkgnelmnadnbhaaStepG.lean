/- Step: the walk. -/
import Derived.Test.YtkgnelmnadnbhaaSayG
import Derived.Test.YtkgnelmnadnbhaaRegionPre
import Derived.Test.YtkgnelmnadnbhaaNowG
namespace Go.Proofs.Ytkgnelmnadnbhaa
set_option linter.unusedVariables false
open Go.RowKit

/-- what a tick makes of the vigil that was looked at -/
def stepS (sil most : Nat) (ms : List Mon) (heard leave : Bool) (s : St) : St :=
  if s.safe = false then judged sil most ms s else if leave = true ∧ heard = true ∧ s.trp.contains true = false then { s with safe := false, why := -1, trips := [] } else s
def stepN (sil most : Nat) (ms : List Mon) (nam : ByteArray) (s : St) : List ByteArray :=
  if s.safe = false ∧ (judged sil most ms s).safe = true then say [] nam else []
theorem stepS_same (sil most : Nat) (ms : List Mon) (heard leave : Bool) (s : St) : (stepS sil most ms heard leave s).now = s.now ∧ (stepS sil most ms heard leave s).bad = s.bad ∧ (stepS sil most ms heard leave s).trp = s.trp := by
  unfold stepS judged
  split
  · exact ⟨rfl, rfl, rfl⟩
  · split
    · exact ⟨rfl, rfl, rfl⟩
    · exact ⟨rfl, rfl, rfl⟩
theorem stepN_len (sil most : Nat) (ms : List Mon) (nam : ByteArray) (s : St) : (stepN sil most ms nam s).length ≤ 1 := by
  unfold stepN
  split
  · exact say_len [] nam
  · simp
/-- the state behind a tick, and what is said -/
def nextS (sil most win : Nat) (ms : List Mon) (vals : List Int) (heard leave : Bool) (n : Nat) (safe : Bool) (why : Int) (bad : List Nat) (trp : List Bool) (quiet : Nat) (trips : List Nat) : St :=
  stepS sil most ms heard leave (lookTo ms vals (St.mk safe why bad trp (ageQ sil quiet heard) (ageT win trips) []) n)
def nextN (sil most win : Nat) (nam : ByteArray) (ms : List Mon) (vals : List Int) (heard leave : Bool) (n : Nat) (safe : Bool) (why : Int) (bad : List Nat) (trp : List Bool) (quiet : Nat) (trips : List Nat) : List ByteArray :=
  saysTo ms (nextS sil most win ms vals heard leave n safe why bad trp quiet trips).safe (stepN sil most ms nam (lookTo ms vals (St.mk safe why bad trp (ageQ sil quiet heard) (ageT win trips) []) n)) (nextS sil most win ms vals heard leave n safe why bad trp quiet trips).now (nextS sil most win ms vals heard leave n safe why bad trp quiet trips).now.length
/-- what Step answers -/
structure StepR (w w' : World) (n : Nat) (s : St) (l : List ByteArray) (e : Ending) : Prop where
  ex : ∃ a1 p1 a2 p2 pa pc na nc, e = .returned (.tuple #[vgv s.safe s.why a1 n p1 a2 p2 s.quiet pa s.trips.length pc, .slice na l.length nc, .int .i64 0]) ∧ OwnAt w' w.heap.size 3 (.slice a1 n p1) n (vi s.bad) ∧ OwnAt w' w.heap.size 4 (.slice a2 n p2) n (vt s.trp) ∧ OwnAt w' w.heap.size 3 (.slice pa s.trips.length pc) s.trips.length (vi s.trips) ∧ OwnAt w' w.heap.size 9 (.slice na l.length nc) l.length (vsS l)
  below : Below w.heap.size w w'
set_option maxRecDepth 100000 in
set_option maxHeartbeats 1000000 in
theorem step_ok (g n cap sil most win : Nat) (nam : ByteArray) (ms : List Mon) (safe : Bool) (why : Int) (ba : Option Addr) (bc : Nat) (ta : Option Addr) (tc : Nat) (quiet : Nat) (pa : Option Addr) (pn pc : Nat) (bad : List Nat) (trp : List Bool) (trips : List Nat)
    (va : Option Addr) (vc : Nat) (vals : List Int) (heard leave : Bool) (w : World)
    (hr : RdM w g n cap ms) (hg : GoodMons ms) (hG : GoodG n sil most win nam) (hb : Rd w ba n bc (vi bad)) (ht : Rd w ta n tc (vt trp)) (hp : Rd w pa pn pc (vi trips)) (hS : StdP ms sil win safe why bad trp quiet trips)
    (hv : Rd w va 3 vc (vz vals)) :
    Calls Try.prog 7 #[gv g n cap sil most win nam, vgv safe why ba n bc ta tc quiet pa pn pc, .slice va 3 vc, .bool heard, .bool leave] w fun e w' => StepR w w' n (nextS sil most win ms vals heard leave n safe why bad trp quiet trips) (nextN sil most win nam ms vals heard leave n safe why bad trp quiet trips) e := by
  have hck := fun W hW => check_ok g n cap sil most win nam ms W hW hg hG
  have hst := fun W h1 h2 h3 h4 => stands_ok g n cap sil most win nam ms safe why ba bc ta tc quiet pa pn pc bad trp trips W h1 hG h2 h3 h4 hS
  have hn9 := hG.n2
  have hhm := fun vb W h1 h2 => hasm_no g n cap vb va vc ms W h1 hg hn9 h2
  obtain ⟨H, hH⟩ : ∃ H, H = w.heap.size := ⟨_, rfl⟩
  have HH := hid hH
  have r1 := heap_alloc_new w (.cells #[.slice (some ⟨g, 0, none⟩) n cap, .int .i64 (sil : Int), .int .i64 (most : Int), .int .i64 (win : Int), .string nam] 27)
  have b1 := below_alloc w (.cells #[.slice (some ⟨g, 0, none⟩) n cap, .int .i64 (sil : Int), .int .i64 (most : Int), .int .i64 (win : Int), .string nam] 27)
  have s1 : (w.alloc (.cells #[.slice (some ⟨g, 0, none⟩) n cap, .int .i64 (sil : Int), .int .i64 (most : Int), .int .i64 (win : Int), .string nam] 27)).heap.size = H + 1 := by simp [hH]
  obtain ⟨U1, hU1⟩ : ∃ U1, U1 = w.alloc (.cells #[.slice (some ⟨g, 0, none⟩) n cap, .int .i64 (sil : Int), .int .i64 (most : Int), .int .i64 (win : Int), .string nam] 27) := ⟨_, rfl⟩
  rw [← hU1] at r1 b1 s1
  have r2 := heap_alloc_new U1 (.cells #[.bool safe, .int .i64 why, .slice ba n bc, .slice ta n tc, .int .i64 (quiet : Int), .slice pa pn pc] 33)
  have b2 := below_alloc U1 (.cells #[.bool safe, .int .i64 why, .slice ba n bc, .slice ta n tc, .int .i64 (quiet : Int), .slice pa pn pc] 33)
  have s2 : (U1.alloc (.cells #[.bool safe, .int .i64 why, .slice ba n bc, .slice ta n tc, .int .i64 (quiet : Int), .slice pa pn pc] 33)).heap.size = H + 2 := by simp [s1]
  obtain ⟨U2, hU2⟩ : ∃ U2, U2 = U1.alloc (.cells #[.bool safe, .int .i64 why, .slice ba n bc, .slice ta n tc, .int .i64 (quiet : Int), .slice pa pn pc] 33) := ⟨_, rfl⟩
  rw [← hU2] at r2 b2 s2
  have r3 := heap_alloc_new U2 (.cells #[.slice va 3 vc] 22)
  have b3 := below_alloc U2 (.cells #[.slice va 3 vc] 22)
  have s3 : (U2.alloc (.cells #[.slice va 3 vc] 22)).heap.size = H + 3 := by simp [s2]
  obtain ⟨U3, hU3⟩ : ∃ U3, U3 = U2.alloc (.cells #[.slice va 3 vc] 22) := ⟨_, rfl⟩
  rw [← hU3] at r3 b3 s3
  have r4 := heap_alloc_new U3 (.cells #[.bool false, .int .i64 0, .slice none 0 0, .slice none 0 0, .int .i64 0, .slice none 0 0] 33)
  have b4 := below_alloc U3 (.cells #[.bool false, .int .i64 0, .slice none 0 0, .slice none 0 0, .int .i64 0, .slice none 0 0] 33)
  have s4 : (U3.alloc (.cells #[.bool false, .int .i64 0, .slice none 0 0, .slice none 0 0, .int .i64 0, .slice none 0 0] 33)).heap.size = H + 4 := by simp [s3]
  obtain ⟨U4, hU4⟩ : ∃ U4, U4 = U3.alloc (.cells #[.bool false, .int .i64 0, .slice none 0 0, .slice none 0 0, .int .i64 0, .slice none 0 0] 33) := ⟨_, rfl⟩
  rw [← hU4] at r4 b4 s4
  rw [← hH] at r1 b1
  rw [s1] at r2 b2
  rw [s2] at r3 b3
  rw [s3] at r4 b4
  have r1 := hid (row_below (row_below (row_below r1 (by rw [s1]; exact b2)) (by rw [s2]; exact b3)) (by rw [s3]; exact b4))
  have r2 := hid (row_below (row_below r2 (by rw [s2]; exact b3)) (by rw [s3]; exact b4))
  have r3 := hid (row_below r3 (by rw [s3]; exact b4))
  have r4 := hid r4
  have HB := hid (b1.trans ((b2.mono (by omega)).trans ((b3.mono (by omega)).trans (b4.mono (by omega)))))
  have HU := hid (And.intro hU1 (And.intro hU2 (And.intro hU3 hU4)))
  have S4 := hid s4
  have Ss := hid (And.intro s1 (And.intro s2 s3))
  clear b1 b2 b3 b4 s1 s2 s3 s4 hU1 hU2 hU3 hU4 hH
  go_enter Try.func7, Try.ntmps7
  go_upto_region 1 with (fail)
  rw [← HU.out.1, ← HU.out.2.1, ← HU.out.2.2.1, ← HU.out.2.2.2, ← HH.out]
  rw [show H + 1 + 1 + 1 = H + 3 from rfl, show H + 1 + 1 = H + 2 from rfl]
  have cg : ∀ W', Below U4.heap.size U4 W' → W'.cell? ⟨H, 0, none⟩ = some (.slice (some ⟨g, 0, none⟩) n cap) ∧ W'.cell? ⟨H, 1, none⟩ = some (.int .i64 (sil : Int)) ∧ W'.cell? ⟨H, 2, none⟩ = some (.int .i64 (most : Int)) ∧ W'.cell? ⟨H, 3, none⟩ = some (.int .i64 (win : Int)) ∧ W'.cell? ⟨H, 4, none⟩ = some (.string nam) := fun W' h => by
    have q := row_below r1.out h
    rw [cell_of_row _ _ _ _ _ _ q, cell_of_row _ _ _ _ _ _ q, cell_of_row _ _ _ _ _ _ q, cell_of_row _ _ _ _ _ _ q, cell_of_row _ _ _ _ _ _ q]
    exact ⟨rfl, rfl, rfl, rfl, rfl⟩
  have cv : ∀ W', Below U4.heap.size U4 W' → W'.cell? ⟨H + 1, 0, none⟩ = some (.bool safe) ∧ W'.cell? ⟨H + 1, 1, none⟩ = some (.int .i64 why) ∧ W'.cell? ⟨H + 1, 2, none⟩ = some (.slice ba n bc) ∧ W'.cell? ⟨H + 1, 3, none⟩ = some (.slice ta n tc) ∧ W'.cell? ⟨H + 1, 4, none⟩ = some (.int .i64 (quiet : Int)) ∧ W'.cell? ⟨H + 1, 5, none⟩ = some (.slice pa pn pc) := fun W' h => by
    have q := row_below r2.out h
    rw [cell_of_row _ _ _ _ _ _ q, cell_of_row _ _ _ _ _ _ q, cell_of_row _ _ _ _ _ _ q, cell_of_row _ _ _ _ _ _ q, cell_of_row _ _ _ _ _ _ q, cell_of_row _ _ _ _ _ _ q]
    exact ⟨rfl, rfl, rfl, rfl, rfl, rfl⟩
  have cx : ∀ W', Below U4.heap.size U4 W' → W'.cell? ⟨H + 2, 0, none⟩ = some (.slice va 3 vc) := fun W' h => by
    rw [cell_of_row _ _ _ _ _ _ (row_below r3.out h)]; rfl
  have Cg := hid cg
  have Cv := hid cv
  have Cx := hid cx
  clear cg cv cx Ss HU
  obtain ⟨c0, c1, c2, c3, c4⟩ := Cg.out U4 (Below.refl _ _)
  have hrB : g < H := by have := hr.lt; have := HH.out; omega
  have hck := hck U4 (hr.below HB.out hrB)
  go_wp2_with fail
  refine hck.mono ?_
  rintro e W1 ⟨rfl, hB1⟩
  have b3 := below_alloc W1 (.cells #[.int .i64 0, .int .i64 0] 45)
  have HB1 := hid (hB1.trans (b3.mono hB1.size))
  clear c0 c1 c2 c3 c4 b3 hB1 hck
  go_upto_region 4 with (fail)
  generalize W1.alloc (.cells #[.int .i64 0, .int .i64 0] 45) = U5 at *
  have hU4 := S4.out
  have HBw : ∀ W', Below U4.heap.size U4 W' → Below w.heap.size w W' := fun W' h => by
    have e := HH.out
    rw [← e]
    exact HB.out.trans (h.mono (by omega))
  have HBw := hid HBw
  obtain ⟨c0, c1, c2, c3, c4⟩ := Cg.out U5 HB1.out
  obtain ⟨d0, d1, d2, d3, d4, d5⟩ := Cv.out U5 HB1.out
  have hst := hst U5 (hr.ext (HBw.out _ HB1.out)) (hb.below (HBw.out _ HB1.out)) (ht.below (HBw.out _ HB1.out)) (hp.below (HBw.out _ HB1.out))
  go_wp2_with fail
  refine hst.mono ?_
  rintro e W6 ⟨rfl, hB6⟩
  have HB6 := hid (HB1.out.trans (hB6.mono HB1.out.size))
  clear c0 c1 c2 c3 c4 d0 d1 d2 d3 d4 d5 hst hB6 HB1
  obtain ⟨c0, c1, c2, c3, c4⟩ := Cg.out W6 HB6.out
  have hhm := hhm (H + 2) W6 (hr.ext (HBw.out _ HB6.out)) (Cx.out _ HB6.out)
  go_wp2_with fail
  refine hhm.mono ?_
  rintro e W7 ⟨rfl, hB7⟩
  have HB7 := hid (HB6.out.trans (hB7.mono HB6.out.size))
  clear c0 c1 c2 c3 c4 hhm hB7 HB6
  obtain ⟨c0, c1, c2, c3, c4⟩ := Cg.out W7 HB7.out
  obtain ⟨d0, d1, d2, d3, d4, d5⟩ := Cv.out W7 HB7.out
  go_upto_region 8 with (fail)
  clear c0 c1 c2 c3 c4 d0 d1 d2 d3 d4 d5
  have hpn : trips.length = pn := by have := hp.len; rwa [vi_len] at this
  have hbn : bad.length = n := by have := hb.len; rwa [vi_len] at this
  have htn : trp.length = n := by have := ht.len; rwa [vt_len] at this
  have r8 := heap_alloc_new W7 (.cells (rowX ⟨g, n, cap, sil, most, win, nam⟩ ⟨safe, why, bad, trp, quiet, trips, []⟩ (.slice ba n bc) (.slice ta n tc) (.slice pa pn pc) (.slice none 0 0)) 52)
  have b8 := below_alloc W7 (.cells (rowX ⟨g, n, cap, sil, most, win, nam⟩ ⟨safe, why, bad, trp, quiet, trips, []⟩ (.slice ba n bc) (.slice ta n tc) (.slice pa pn pc) (.slice none 0 0)) 52)
  have hsz : (W7.alloc (.cells (rowX ⟨g, n, cap, sil, most, win, nam⟩ ⟨safe, why, bad, trp, quiet, trips, []⟩ (.slice ba n bc) (.slice ta n tc) (.slice pa pn pc) (.slice none 0 0)) 52)).heap.size = W7.heap.size + 1 := by simp
  show Code.wp _ _ _ _ (W7.alloc (.cells (rowX ⟨g, n, cap, sil, most, win, nam⟩ ⟨safe, why, bad, trp, quiet, trips, []⟩ (.slice ba n bc) (.slice ta n tc) (.slice pa pn pc) (.slice none 0 0)) 52))
  obtain ⟨W8, hW8⟩ : ∃ W8, W8 = W7.alloc (.cells (rowX ⟨g, n, cap, sil, most, win, nam⟩ ⟨safe, why, bad, trp, quiet, trips, []⟩ (.slice ba n bc) (.slice ta n tc) (.slice pa pn pc) (.slice none 0 0)) 52) := ⟨_, rfl⟩
  rw [← hW8] at r8 b8 hsz
  rw [← hW8]
  clear hW8
  obtain ⟨X, hX⟩ : ∃ X, X = W7.heap.size := ⟨_, rfl⟩
  have hXU : H + 4 ≤ X := by rw [hX, ← hU4]; exact HB7.out.size
  rw [← hX] at r8 b8 hsz
  rw [← hX]
  have HB8 := hid (HB7.out.trans (b8.mono (by omega)))
  have Hpn := hid hpn
  have Hbn := hid hbn
  have Htn := hid htn
  have R8 := hid r8
  have Hsz := hid hsz
  clear hX b8 HB7 hpn hbn htn r8 hsz
  have e2 : ∀ w', Below W8.heap.size W8.drew w' → w'.cell? ⟨X, 2, none⟩ = some (.slice ba n bc) := fun w' hs => by
    rw [cell_of_row _ _ _ _ _ _ (row_below R8.out (((Below.refl _ W8).drew).trans hs))]; rfl
  have e3 : ∀ w', Below W8.heap.size W8.drew w' → w'.cell? ⟨X, 3, none⟩ = some (.slice ta n tc) := fun w' hs => by
    rw [cell_of_row _ _ _ _ _ _ (row_below R8.out (((Below.refl _ W8).drew).trans hs))]; rfl
  have e5 : ∀ w', Below W8.heap.size W8.drew w' → w'.cell? ⟨X, 5, none⟩ = some (.slice pa pn pc) := fun w' hs => by
    rw [cell_of_row _ _ _ _ _ _ (row_below R8.out (((Below.refl _ W8).drew).trans hs))]; rfl
  refine wp_region_pre 21 [1, 2] [8, 14, 20] [0, 3, 4, 5, 6, 7, 9, 10, 11, 12, 13, 15, 16, 17, 18, 19, 8, 14, 20] (Below W8.heap.size) (fun _ => Below.refl _ _) (fun _ _ _ h k => h.trans k) (by kernel_rfl) (by kernel_rfl) ?_
  simp only [List.map_cons, List.map_nil, List.contains_cons, List.contains_nil, List.getD_cons_zero, List.getD_cons_succ, Nat.reduceBEq, Bool.or_false, Bool.or_true]
  have R9 := hid (show W8.drew.heap[X]? = _ from R8.out)
  have HB9 := hid (HB8.out.trans (Below.refl _ W8).drew)
  have hs9 : Hid (W8.drew.heap.size = W8.heap.size) := rfl
  generalize W8.drew = W9 at *
  clear HB8 R8
  refine ⟨_, .inl ⟨rfl, fun w => (by go_simp; rfl)⟩, ?_⟩
  simp only [Act.put, List.setIfInBounds_toArray, List.set_cons_succ, List.set_cons_zero]
  refine ⟨_, .inl ⟨rfl, fun w => (by go_simp; rfl)⟩, ?_⟩
  simp only [Act.put, List.setIfInBounds_toArray, List.set_cons_succ, List.set_cons_zero]
  unfold wpPre
  repeat (refine wpL_do rfl (fun w' hw' => (by go_simp; rfl)) ?_; simp only [Act.put, List.setIfInBounds_toArray, List.set_cons_succ, List.set_cons_zero])
  clear e2 e3 e5
  have hci := clone_i ba n bc (vi bad) W9 (hb.below (HBw.out _ HB9.out)) (vi_oneCell _) (by omega)
  refine wpL_call rfl (fun K hK => ?_)
  go_wp2_with fail
  refine hci.mono ?_
  rintro e W10 ⟨v1, rfl, o1, b1⟩
  obtain ⟨a1, p1, hv1, hle1, hmx1⟩ := o1.form
  subst hv1
  refine hK _ _ (b1.mono (Nat.le_of_eq hs9.out.symm)) ?_
  clear hK K hci
  try simp only [Act.put, List.setIfInBounds_toArray, List.set_cons_succ, List.set_cons_zero]
  have HB10 := hid (HB9.out.trans (b1.mono (by have := HB9.out.size; omega)))
  have o1 := hid (o1.mono (show X ≤ W9.heap.size by rw [hs9.out, Hsz.out]; omega))
  have R10 := hid (row_below R9.out b1)
  have hct := clone_b ta n tc (vt trp) W10 (ht.below (HBw.out _ HB10.out)) (vt_oneCell _) (by omega)
  have L10 := hid b1.size
  clear R9 b1 HB9
  refine wpL_call rfl (fun K hK => ?_)
  go_wp2_with fail
  refine hct.mono ?_
  rintro e W11 ⟨v2, rfl, o2, b2⟩
  obtain ⟨a2, p2, hv2, hle2, hmx2⟩ := o2.form
  subst hv2
  refine hK _ _ (b2.mono (by have := L10.out; rw [hs9.out] at this; exact this)) ?_
  clear hK K hct
  try simp only [Act.put, List.setIfInBounds_toArray, List.set_cons_succ, List.set_cons_zero]
  have HB11 := hid (HB10.out.trans (b2.mono (by have := HB10.out.size; omega)))
  have o2 := hid (o2.mono (show X ≤ W10.heap.size by have := L10.out; rw [hs9.out, Hsz.out] at this; omega))
  have o1 := hid (o1.out.below b2)
  have R11 := hid (row_below R10.out b2)
  have hcp := clone_i pa pn pc (vi trips) W11 (hp.below (HBw.out _ HB11.out)) (vi_oneCell _) (by have := hS.pl; rw [Hpn.out] at this; omega)
  have L11 := hid b2.size
  clear R10 b2 HB10
  refine wpL_call rfl (fun K hK => ?_)
  go_wp2_with fail
  refine hcp.mono ?_
  rintro e W12 ⟨v3, rfl, o3, b3⟩
  obtain ⟨a3, p3, hv3, hle3, hmx3⟩ := o3.form
  subst hv3
  refine hK _ _ (b3.mono (by have := L10.out; have := L11.out; have := hs9.out; omega)) ?_
  clear hK K hcp
  try simp only [Act.put, List.setIfInBounds_toArray, List.set_cons_succ, List.set_cons_zero]
  have HB12 := hid (HB11.out.trans (b3.mono (by have := HB11.out.size; omega)))
  have A13 : Hid (Apart (.slice a1 n p1) (.slice a3 pn p3)) := fun k h1 h3 => by
    have := (o1.out.lt k h1).2
    have := (o3.lt k h3).1
    omega
  have o3 := hid (o3.mono (show X ≤ W11.heap.size by have := L10.out; have := L11.out; rw [hs9.out, Hsz.out] at *; omega))
  have o1 := hid (o1.out.below b3)
  have o2 := hid (o2.out.below b3)
  have R12 := hid (row_below R11.out b3)
  clear R11 b3 HB11
  refine wpL_nil ?_
  obtain ⟨q13, g13⟩ := set_row (cs' := rowX ⟨g, n, cap, sil, most, win, nam⟩ ⟨safe, why, bad, trp, quiet, trips, []⟩ (.slice a1 n p1) (.slice ta n tc) (.slice pa pn pc) (.slice none 0 0)) R12.out 2 (.slice a1 n p1) rfl
  obtain ⟨q14, g14⟩ := set_row (cs' := rowX ⟨g, n, cap, sil, most, win, nam⟩ ⟨safe, why, bad, trp, quiet, trips, []⟩ (.slice a1 n p1) (.slice a2 n p2) (.slice pa pn pc) (.slice none 0 0)) q13 3 (.slice a2 n p2) rfl
  obtain ⟨q15, g15⟩ := set_row (cs' := rowX ⟨g, n, cap, sil, most, win, nam⟩ ⟨safe, why, bad, trp, quiet, trips, []⟩ (.slice a1 n p1) (.slice a2 n p2) (.slice a3 pn p3) (.slice none 0 0)) q14 5 (.slice a3 pn p3) rfl
  have f1 : W12.cell? ⟨X, 2, none⟩ = some (.slice ba n bc) := by rw [cell_of_row _ _ _ _ _ _ R12.out]; rfl
  have f2 : W12.frozen? ⟨X, 2, none⟩ = false := frozen_row R12.out 2
  have f3 : (W12.setCell ⟨X, 2, none⟩ (.slice a1 n p1)).cell? ⟨X, 3, none⟩ = some (.slice ta n tc) := by rw [cell_of_row _ _ _ _ _ _ q13]; rfl
  have f4 : (W12.setCell ⟨X, 2, none⟩ (.slice a1 n p1)).frozen? ⟨X, 3, none⟩ = false := frozen_row q13 3
  have f5 : ((W12.setCell ⟨X, 2, none⟩ (.slice a1 n p1)).setCell ⟨X, 3, none⟩ (.slice a2 n p2)).cell? ⟨X, 5, none⟩ = some (.slice pa pn pc) := by rw [cell_of_row _ _ _ _ _ _ q14]; rfl
  have f6 : ((W12.setCell ⟨X, 2, none⟩ (.slice a1 n p1)).setCell ⟨X, 3, none⟩ (.slice a2 n p2)).frozen? ⟨X, 5, none⟩ = false := frozen_row q14 5
  have G := grownBy_trans (grownBy_trans g13 g14) g15
  have o1 := o1.out.kept G (o1.out.ne R12.out (by decide))
  have o2 := o2.out.kept G (o2.out.ne R12.out (by decide))
  have o3 := o3.out.kept G (o3.out.ne R12.out (by decide))
  have hV : VS (((W12.setCell ⟨X, 2, none⟩ (.slice a1 n p1)).setCell ⟨X, 3, none⟩ (.slice a2 n p2)).setCell ⟨X, 5, none⟩ (.slice a3 pn p3)) X X ⟨g, n, cap, sil, most, win, nam⟩ ⟨safe, why, bad, trp, quiet, trips, []⟩ (.slice a1 n p1) (.slice a2 n p2) (.slice a3 pn p3) (.slice none 0 0) :=
    ⟨q15, Nat.le_refl _, by show OwnAt _ _ _ _ bad.length _; rw [Hbn.out]; exact o1, by show OwnAt _ _ _ _ trp.length _; rw [Htn.out]; exact o2, by show OwnAt _ _ _ _ trips.length _; rw [Hpn.out]; exact o3, OwnAt.nil _ _ _, A13.out, (fun k _ h => by cases h), (fun k _ h => by cases h)⟩
  have hV := hid hV
  have HB15 := hid (HB12.out.grown G (by have := HB12.out.size; omega) (fun k e => by cases e; omega))
  clear q13 q14 q15 g13 g14 g15 G o1 o2 o3 R12 HB12 A13
  go_wp2_with fail
  refine only_on ?_
  clear f1 f2 f3 f4 f5 f6
  generalize ((W12.setCell ⟨X, 2, none⟩ (.slice a1 n p1)).setCell ⟨X, 3, none⟩ (.slice a2 n p2)).setCell ⟨X, 5, none⟩ (.slice a3 pn p3) = V0 at *
  go_upto_region 9 with (fail)
  have hptl : ∀ i, nth trips i ≤ 1000 := fun i => by
    rcases Nat.lt_or_ge i trips.length with h | h
    · have := hS.p0 i h
      have := hG.w2
      omega
    · rw [nth_ge h]; omega
  have hXV : X ≤ V0.heap.size := Nat.le_of_lt (row_lt hV.out.row)
  have hag := age_ok X X _ _ _ _ _ _ heard V0 hV.out hXV hS.q hG.s hS.pl hptl
  clear hptl
  go_wp2_with fail
  refine hag.mono ?_
  rintro e V1 ⟨rfl, pv1, hV1, hB1⟩
  have HV1 := hid (HB15.out.trans (hB1.mono (by have := HB15.out.size; omega)))
  have hV1 := hid hV1
  have hXV1 : X ≤ V1.heap.size := Nat.le_of_lt (row_lt hV1.out.row)
  clear hag hV HB15 hB1 hXV
  have hbf : ∀ i, nth bad i ≤ 1000 := fun i => by
    rcases Nat.lt_or_ge i bad.length with h | h
    · rw [Hbn.out] at h
      have h2 := hS.b i (by rw [hr.len]; exact h)
      have := (hg i (by rw [hr.len]; exact h)).f2
      omega
    · rw [nth_ge h]; omega
  have hvlt : ∀ b off, va = some ⟨b, off, none⟩ → b < X := fun b off e => by
    obtain ⟨b2, o2, e2, hl2, _⟩ := hv.mem (by omega)
    rw [e] at e2
    cases e2
    have := HH.out
    omega
  have hlk := look_ok X X _ _ _ _ _ _ ms va vc vals V1 hV1.out hXV1 (hr.ext (HBw.out _ HV1.out)) (show g < X by omega) hg hG.n1 hG.n2 Hbn.out Htn.out
    (show (ageT win trips).length ≤ 100 by
      unfold ageT
      have h1 := kp_len win (trips.map (· + 1))
      rw [List.length_map] at h1
      have := hS.pl
      omega) (Nat.zero_le _) (hv.below (HBw.out _ HV1.out)) hvlt hbf
  have cx := Cx.out V1 HV1.out
  clear hbf hvlt
  go_wp2_with fail
  refine hlk.mono ?_
  rintro e V2 ⟨rfl, pv2, nv2, hV2, hB2⟩
  have HV2 := hid (HV1.out.trans (hB2.mono (by have := HV1.out.size; omega)))
  have hV2 := hid hV2
  clear hlk cx hV1 hB2 hXV1
  have hnw := lookTo_now ms vals (St.mk safe why bad trp (ageQ sil quiet heard) (ageT win trips) []) rfl n
  obtain ⟨hsf, hwy, hqt⟩ := lookTo_same ms vals (St.mk safe why bad trp (ageQ sil quiet heard) (ageT win trips) []) n
  obtain ⟨hl1, hl2, hl3, hl4⟩ := lookTo_len ms vals (St.mk safe why bad trp (ageQ sil quiet heard) (ageT win trips) []) n
  have hV2 : Hid (VS V2 X X ⟨g, n, cap, sil, most, win, nam⟩ (lookTo ms vals (St.mk safe why bad trp (ageQ sil quiet heard) (ageT win trips) []) n) (.slice a1 n p1) (.slice a2 n p2) pv2 nv2) := hV2
  generalize hs2 : lookTo ms vals (St.mk safe why bad trp (ageQ sil quiet heard) (ageT win trips) []) n = s2 at *
  have Hs2 := hid hs2
  have Hnw := hid hnw
  have Hsf := hid hsf
  have Hl := hid (And.intro hl1 (And.intro hl2 (And.intro hl3 (And.intro hl4 hqt))))
  clear hs2 hnw hsf hwy hqt hl1 hl2 hl3 hl4
  go_upto_block 0 with (fail)
  have b3 := below_alloc V2 (.cells #[.slice none 0 0] 39)
  have r3n := heap_alloc_new V2 (.cells #[.slice none 0 0] 39)
  have hV3 := hid (hV2.out.below b3)
  have hX2 : X ≤ V2.heap.size := Nat.le_of_lt (row_lt hV2.out.row)
  have HV3 := hid (HV2.out.trans (b3.mono (by have := HV2.out.size; omega)))
  obtain ⟨nb, hnb⟩ : ∃ nb, nb = V2.heap.size := ⟨_, rfl⟩
  rw [← hnb] at r3n
  rw [← hnb]
  have hXnb : X ≤ nb := by omega
  have hSB : Hid (SB (V2.alloc (.cells #[.slice none 0 0] 39)) nb X []) := ⟨⟨_, r3n, OwnAt.nil _ _ _⟩, hXnb⟩
  clear b3 r3n hV2 HV2 hnb hX2
  generalize V2.alloc (.cells #[.slice none 0 0] 39) = V3 at *
  have hXV3 : X ≤ V3.heap.size := Nat.le_of_lt (row_lt hV3.out.row)
  go_cut [] (fun wx => ∃ pv3, Hid (VS wx X X ⟨g, n, cap, sil, most, win, nam⟩ (stepS sil most ms heard leave s2) (.slice a1 n p1) (.slice a2 n p2) pv3 nv2) ∧ Hid (SB wx nb X (stepN sil most ms nam s2)) ∧ Below U4.heap.size U4 wx)
  case first =>
    have cs : V3.cell? ⟨X, 0, none⟩ = some (.bool s2.safe) := by rw [cell_of_row _ _ _ _ _ _ hV3.out.row]; rfl
    rw [Hsf.out] at cs
    cases safe with
    | false =>
      have hj := judge_ok X X _ _ _ _ _ _ ms V3 hV3.out hXV3 (hr.ext (HBw.out _ HV3.out)) (fun i hi => Hnw.out i hi) hG.n2 (by have h4 : s2.now.length ≤ 0 + n := Hl.out.2.2.2.1; have := hG.n2; omega) (Hl.out.2.2.1 (by
        show (ageT win trips).length ≤ 100
        unfold ageT
        have h1 := kp_len win (trips.map (· + 1))
        rw [List.length_map] at h1
        have := hS.pl
        omega)) (by have := hG.m2; show most ≤ 100; omega) (by have := hG.s; show sil ≤ 100; omega) (by rw [Hl.out.2.2.2.2]; show ageQ sil quiet heard ≤ 100; unfold ageQ; have := hG.s; split <;> omega)
      have hS1 : Hid (stepS sil most ms heard leave s2 = judged sil most ms s2) := by unfold Hid stepS; rw [if_pos Hsf.out]
      have hN1 : Hid (stepN sil most ms nam s2 = if (judged sil most ms s2).safe = true then say [] nam else []) := by
        unfold Hid stepN
        simp [Hsf.out]
      dsimp only at hj
      generalize judged sil most ms s2 = sj at *
      cases hjs : sj.safe
      · rw [hjs] at hN1
        go_upto_region 15 with (first | (go_at_call 17; refine hj.mono ?_; rintro e V4 ⟨rfl, hV4, hB4, hK4⟩))
        have c4 : V4.cell? ⟨X, 0, none⟩ = some (.bool false) := by rw [cell_of_row _ _ _ _ _ _ hV4.row, ← hjs]; rfl
        have Hfin : Hid (VS V4 X X ⟨g, n, cap, sil, most, win, nam⟩ (stepS sil most ms heard leave s2) (.slice a1 n p1) (.slice a2 n p2) pv2 nv2) := by unfold Hid; rw [hS1.out]; exact hV4
        have Hfn : Hid (SB V4 nb X (stepN sil most ms nam s2)) := by unfold Hid; rw [hN1.out, if_neg (by decide)]; exact hSB.out.kx hV3.out.row hK4
        have HfB := hid (HV3.out.trans (hB4.mono (by omega)))
        clear hV4 hB4 hK4 hS1 hN1 hj hjs
        go_wp2_with fail
        go_meet
        exact ⟨_, Hfin, Hfn, HfB.out⟩
      · rw [hjs] at hN1
        go_upto_region 15 with (first | (go_at_call 17; refine hj.mono ?_; rintro e V4 ⟨rfl, hV4, hB4, hK4⟩))
        have c4 : V4.cell? ⟨X, 0, none⟩ = some (.bool true) := by rw [cell_of_row _ _ _ _ _ _ hV4.row, ← hjs]; rfl
        have hV4 := hid hV4
        have hSB4 := hid (hSB.out.kx hV3.out.row hK4)
        have HfB := hid (HV3.out.trans (hB4.mono (by omega)))
        obtain ⟨d0, d1, d2, d3, d4⟩ := Cg.out V4 HfB.out
        have hsy := say_ok nb X [] nam V4 hSB4.out (by have := row_lt hV4.out.row; omega) (by simp)
        clear hB4 hK4 hj hjs d0 d1 d2 d3
        go_wp2_with fail
        refine hsy.mono ?_
        rintro e V5 ⟨rfl, hS5, hK5, hB5⟩
        have Hfin : Hid (VS V5 X X ⟨g, n, cap, sil, most, win, nam⟩ (stepS sil most ms heard leave s2) (.slice a1 n p1) (.slice a2 n p2) pv2 nv2) := by unfold Hid; rw [hS1.out]; exact hV4.out.keeps hK5
        have Hfn : Hid (SB V5 nb X (stepN sil most ms nam s2)) := by unfold Hid; rw [hN1.out, if_pos trivial]; exact hS5
        have HfB5 := hid (HfB.out.trans (hB5.mono (by omega)))
        clear hS5 hK5 hB5 hS1 hN1 hsy
        go_wp2_with fail
        go_meet
        exact ⟨_, Hfin, Hfn, HfB5.out⟩
    | true =>
      have hN1 : Hid (stepN sil most ms nam s2 = []) := by
        unfold Hid stepN
        rw [if_neg (fun h => by rw [Hsf.out] at h; cases h.1)]
      have Hfn : Hid (SB V3 nb X (stepN sil most ms nam s2)) := by unfold Hid; rw [hN1.out]; exact hSB.out
      by_cases hlh : leave = true ∧ heard = true
      · obtain ⟨rfl, rfl⟩ := hlh
        have ct : V3.cell? ⟨X, 3, none⟩ = some (.slice a2 n p2) := by rw [cell_of_row _ _ _ _ _ _ hV3.out.row]; rfl
        have htl : s2.trp.length = n := by rw [Hl.out.2.1]; exact Htn.out
        have htr := hV3.out.t
        rw [htl] at htr
        have htr := htr.rd
        by_cases hc : ∃ k, k < n ∧ s2.trp.getD k false = true
        · obtain ⟨k, hk, hk2⟩ := hc
          have hy := hast_yes a2 n p2 k s2.trp V3 htr (by have := hG.n2; omega) hk hk2
          have hc2 : s2.trp.contains true = true := by
            rw [List.contains_iff_mem]
            have : s2.trp[k]? = some true := by
              rw [List.getD_eq_getElem?_getD] at hk2
              cases h : s2.trp[k]? with
              | none => rw [h] at hk2; cases hk2
              | some b => rw [h] at hk2; simp at hk2; rw [hk2]
            exact List.mem_of_getElem? this
          have hS1 : Hid (stepS sil most ms true true s2 = s2) := by
            unfold Hid stepS
            rw [if_neg (by rw [Hsf.out]; decide), if_neg (fun h => by rw [hc2] at h; cases h.2.2)]
          have Hfin : Hid (VS V3 X X ⟨g, n, cap, sil, most, win, nam⟩ (stepS sil most ms true true s2) (.slice a1 n p1) (.slice a2 n p2) pv2 nv2) := by unfold Hid; rw [hS1.out]; exact hV3.out
          clear hS1 hN1 htr htl hk hk2 hc2
          go_wp2_with fail
          refine hy.mono ?_
          rintro e V5 ⟨rfl, rfl⟩
          go_wp2_with fail
          go_meet
          exact ⟨_, Hfin, Hfn, HV3.out⟩
        · have hno : ∀ i, i < n → s2.trp.getD i false = false := fun i hi => by
            cases h : s2.trp.getD i false
            · rfl
            · exact absurd ⟨i, hi, h⟩ hc
          have hy := hast_no a2 n p2 s2.trp V3 htr (by have := hG.n2; omega) hno
          have hc2 : s2.trp.contains true = false := by
            cases h : s2.trp.contains true
            · rfl
            · rw [List.contains_iff_mem] at h
              obtain ⟨i, hi⟩ := List.mem_iff_getElem?.1 h
              have h2 := (List.getElem?_eq_some_iff.1 hi).1
              have h3 := hno i (by omega)
              rw [List.getD_eq_getElem?_getD, hi] at h3
              cases h3
          have hS1 : Hid (stepS sil most ms true true s2 = { s2 with safe := false, why := -1, trips := [] }) := by
            unfold Hid stepS
            rw [if_neg (by rw [Hsf.out]; decide), if_pos ⟨rfl, rfl, hc2⟩]
          obtain ⟨qv, qg⟩ := cut3G hV3.out
          have Hfin : Hid (VS (((V3.setCell ⟨X, 0, none⟩ (.bool false)).setCell ⟨X, 1, none⟩ (.int .i64 (-1))).setCell ⟨X, 5, none⟩ (.slice none 0 0)) X X ⟨g, n, cap, sil, most, win, nam⟩ (stepS sil most ms true true s2) (.slice a1 n p1) (.slice a2 n p2) (.slice none 0 0) nv2) := by unfold Hid; rw [hS1.out]; exact qv
          have Hfn2 := hid (Hfn.out.kx hV3.out.row ((Kx.refl _ _).grown qg))
          have HfB5 := hid (HV3.out.grown qg (by omega) (fun k e => by cases e; omega))
          obtain ⟨m1, m2⟩ := hV3.out.setSafe false
          obtain ⟨m3, m4⟩ := m1.setWhy (-1)
          have f1 : V3.frozen? ⟨X, 0, none⟩ = false := frozen_row hV3.out.row 0
          have f2 : (V3.setCell ⟨X, 0, none⟩ (.bool false)).frozen? ⟨X, 1, none⟩ = false := frozen_row m1.row 1
          have f3 : ((V3.setCell ⟨X, 0, none⟩ (.bool false)).setCell ⟨X, 1, none⟩ (.int .i64 (-1))).frozen? ⟨X, 5, none⟩ = false := frozen_row m3.row 5
          have k2 : (V3.setCell ⟨X, 0, none⟩ (.bool false)).cell? ⟨X, 1, none⟩ = some (.int .i64 s2.why) := by rw [cell_of_row _ _ _ _ _ _ m1.row]; rfl
          have k3 : ((V3.setCell ⟨X, 0, none⟩ (.bool false)).setCell ⟨X, 1, none⟩ (.int .i64 (-1))).cell? ⟨X, 5, none⟩ = some pv2 := by rw [cell_of_row _ _ _ _ _ _ m3.row]; rfl
          clear hS1 hN1 htr htl hc2 hno hc qv qg m1 m2 m3 m4 Hfn
          go_wp2_with fail
          refine hy.mono ?_
          rintro e V5 ⟨rfl, rfl⟩
          go_wp2_with fail
          go_meet
          exact ⟨_, Hfin, Hfn2, HfB5.out⟩
      · have hS1 : Hid (stepS sil most ms heard leave s2 = s2) := by
          unfold Hid stepS
          rw [if_neg (by rw [Hsf.out]; decide), if_neg (fun h => hlh ⟨h.1, h.2.1⟩)]
        have Hfin : Hid (VS V3 X X ⟨g, n, cap, sil, most, win, nam⟩ (stepS sil most ms heard leave s2) (.slice a1 n p1) (.slice a2 n p2) pv2 nv2) := by unfold Hid; rw [hS1.out]; exact hV3.out
        clear hS1 hN1
        cases leave with
        | false =>
          clear hlh
          go_wp2_with fail
          go_meet
          exact ⟨_, Hfin, Hfn, HV3.out⟩
        | true =>
          cases heard with
          | true => exact absurd ⟨rfl, rfl⟩ hlh
          | false =>
            clear hlh
            go_wp2_with fail
            go_meet
            exact ⟨_, Hfin, Hfn, HV3.out⟩
  case rest =>
    obtain ⟨pv3, hVc, hSc, hBc⟩ := hcut
    have hBc := hid hBc
    obtain ⟨hnowS, hbadS, htrpS⟩ := stepS_same sil most ms heard leave s2
    have hnl : s2.now.length ≤ 0 + n := Hl.out.2.2.2.1
    have hNl : (stepN sil most ms nam s2).length ≤ 1 := stepN_len _ _ _ _ _
    have hfb : (stepS sil most ms heard leave s2).bad.length = n := by rw [hbadS, Hl.out.1]; exact Hbn.out
    have hft : (stepS sil most ms heard leave s2).trp.length = n := by rw [htrpS, Hl.out.2.1]; exact Htn.out
    have Hfb := hid hfb
    have Hft := hid hft
    have Hend : Hid (nextS sil most win ms vals heard leave n safe why bad trp quiet trips = stepS sil most ms heard leave s2) := by unfold Hid nextS; rw [Hs2.out]
    have HendN : Hid (nextN sil most win nam ms vals heard leave n safe why bad trp quiet trips = saysTo ms (stepS sil most ms heard leave s2).safe (stepN sil most ms nam s2) (stepS sil most ms heard leave s2).now (stepS sil most ms heard leave s2).now.length) := by unfold Hid nextN; rw [Hend.out, Hs2.out]
    clear hbadS htrpS hfb hft hV3 HV3 hSB hXV3 Hs2 Hsf
    generalize hs3 : stepS sil most ms heard leave s2 = s3 at *
    generalize hN3 : stepN sil most ms nam s2 = N0 at *
    have Hs3 := hid hs3
    have HN3 := hid hN3
    have HnS := hid hnowS
    clear hs3 hN3
    have Hnw2 : Hid (∀ i, i < s3.now.length → nth s3.now i < n) := by unfold Hid; rw [hnowS]; exact Hnw.out
    have hnl3 : s3.now.length ≤ n := by rw [hnowS]; omega
    clear hnowS Hnw hnl
    obtain ⟨na, nc, hnv, hnle, hnmx⟩ := hVc.out.n.form
    subst hnv
    have cn : wc.cell? ⟨X, 11, none⟩ = some (.slice na s3.now.length nc) := by rw [cell_of_row _ _ _ _ _ _ hVc.out.row]; rfl
    obtain ⟨L, hL⟩ : ∃ L, L = s3.now.length := ⟨_, rfl⟩
    have HL := hid hL
    rw [← hL] at cn hnle hnl3
    clear hL
    go_wp2_with fail
    clear cn
    go_loopw [131] (fun i wr => ∃ j : Nat, j ≤ L ∧ i = .int .i64 j ∧ Hid (VS wr X X ⟨g, n, cap, sil, most, win, nam⟩ s3 (.slice a1 n p1) (.slice a2 n p2) pv3 (.slice na s3.now.length nc)) ∧ Hid (SB wr nb X (saysTo ms s3.safe N0 s3.now j)) ∧ Hid (Below U4.heap.size U4 wr)) (fun i _ => L - (intOf i).toNat)
    case atStart => exact ⟨0, by omega, rfl, hVc, hSc, hBc⟩
    case round =>
      obtain ⟨j, hj, rfl, hVr, hSr, hBr⟩ := hrel
      by_cases hlt : j < L
      · have hin : nth s3.now j < n := Hnw2.out j (by have := HL.out; omega)
        have hrd := hVr.out.n.rd
        obtain ⟨ab, ao, rfl, hal, hac⟩ := hrd.ati j (by have := HL.out; omega)
        obtain ⟨c0, _, _, _, _⟩ := Cg.out wr hBr.out
        obtain ⟨k0, k1, k2, k3, k4, k5⟩ := (hr.ext (HBw.out _ hBr.out)).at_ (nth s3.now j) hin
        have Hst : Hid (saysTo ms s3.safe N0 s3.now (j + 1) = if s3.safe = false ∨ (mAt ms (nth s3.now j)).tier = 3 then say (saysTo ms s3.safe N0 s3.now j) (mAt ms (nth s3.now j)).name else saysTo ms s3.safe N0 s3.now j) := rfl
        have hln := saysTo_len ms s3.safe N0 s3.now j
        generalize hq2 : saysTo ms s3.safe N0 s3.now (j + 1) = l2 at *
        have Hq2 := hid hq2
        clear hq2
        generalize saysTo ms s3.safe N0 s3.now j = l1 at *
        generalize nth s3.now j = x at *
        generalize mAt ms x = m at *
        obtain ⟨mo, mf, mt, mn⟩ := m
        dsimp only at *
        have b5 := below_alloc wr (.cells #[.int .i64 (mo : Int), .int .i64 0, .int .i64 9, .int .i64 (mf : Int), .int .i64 (mt : Int), .string mn] 29)
        have A5 := heap_alloc_new wr (.cells #[.int .i64 (mo : Int), .int .i64 0, .int .i64 9, .int .i64 (mf : Int), .int .i64 (mt : Int), .string mn] 29)
        have hV5 := hid (hVr.out.below b5)
        have hS5 := hid (hSr.out.below b5)
        have hB5 := hid (hBr.out.trans (b5.mono hBr.out.size))
        obtain ⟨mb, hmb⟩ : ∃ mb, mb = wr.heap.size := ⟨_, rfl⟩
        have Hmb := hid hmb
        rw [← hmb] at A5
        have A5 := hid A5
        clear b5 hmb hrd
        go_upto_region 23 with (fail)
        rw [← Hmb.out]
        clear c0 k0 k1 k2 k3 k4 k5 hal hac
        generalize wr.alloc (.cells #[.int .i64 (mo : Int), .int .i64 0, .int .i64 9, .int .i64 (mf : Int), .int .i64 (mt : Int), .string mn] 29) = Y at *
        clear hVr hSr hBr Hmb
        have c0 : Y.cell? ⟨X, 0, none⟩ = some (.bool s3.safe) := by rw [cell_of_row _ _ _ _ _ _ hV5.out.row]; rfl
        have c4 : Y.cell? ⟨mb, 4, none⟩ = some (.int .i64 (mt : Int)) := by rw [cell_of_row _ _ _ _ _ _ A5.out]; rfl
        have c5 : Y.cell? ⟨mb, 5, none⟩ = some (.string mn) := by rw [cell_of_row _ _ _ _ _ _ A5.out]; rfl
        have hsy := say_ok nb X l1 mn Y hS5.out (by have := row_lt hV5.out.row; omega) (by have := hG.n2; omega)
        by_cases hw : s3.safe = false ∨ mt = 3
        · have hl2 : Hid (l2 = say l1 mn) := by unfold Hid; rw [Hst.out, if_pos hw]
          clear Hst
          generalize hsf3 : s3.safe = sf at *
          have Hsf3 := hid hsf3
          clear hsf3
          cases sf with
          | false =>
            clear hw
            go_wp2_with fail
            refine hsy.mono ?_
            rintro e V5 ⟨rfl, hS6, hK6, hB6⟩
            have hV6 := hid (hV5.out.keeps hK6)
            have hS6 : Hid (SB V5 nb X l2) := by unfold Hid; rw [hl2.out]; exact hS6
            have hB7 := hid (hB5.out.trans (hB6.mono (by have := hB5.out.size; omega)))
            clear hK6 hB6 hsy hl2
            go_wp2_with fail
            go_roundw
            case rel => exact ⟨j + 1, by omega, by go_num, hV6, by (first | rw [Hq2.out] | rw [Hsf3.out, Hq2.out]); exact hS6, hB7⟩
            case measure => simp [intOf]; omega
          | true =>
            obtain rfl : mt = 3 := by simpa using hw
            clear hw
            go_wp2_with fail
            refine hsy.mono ?_
            rintro e V5 ⟨rfl, hS6, hK6, hB6⟩
            have hV6 := hid (hV5.out.keeps hK6)
            have hS6 : Hid (SB V5 nb X l2) := by unfold Hid; rw [hl2.out]; exact hS6
            have hB7 := hid (hB5.out.trans (hB6.mono (by have := hB5.out.size; omega)))
            clear hK6 hB6 hsy hl2
            go_wp2_with fail
            go_roundw
            case rel => exact ⟨j + 1, by omega, by go_num, hV6, by (first | rw [Hq2.out] | rw [Hsf3.out, Hq2.out]); exact hS6, hB7⟩
            case measure => simp [intOf]; omega
        · have hS6 : Hid (SB Y nb X l2) := by unfold Hid; rw [Hst.out, if_neg hw]; exact hS5.out
          have hsf3 : s3.safe = true := by
            cases h : s3.safe
            · exact absurd (.inl h) hw
            · rfl
          have hm3 : ((mt : Int) == 3) = false := by
            rw [beq_eq_false_iff_ne]
            exact fun h => hw (.inr (by omega))
          rw [hsf3] at c0
          clear hw Hst hsf3 hS5
          go_wp2_with fail
          go_roundw
          case rel => exact ⟨j + 1, by omega, by go_num, hV5, by rw [Hq2.out]; exact hS6, hB5⟩
          case measure => simp [intOf]; omega
      · obtain rfl : L = j := by omega
        go_upto_region 26 with (fail)
        obtain ⟨⟨nv, hrn, hon⟩, _⟩ := hSr.out
        obtain ⟨ua, uc, hnv, hule, humx⟩ := hon.form
        subst hnv
        obtain ⟨pa3, pc3, hpv3, _, _⟩ := hVr.out.p_.form
        have hpv3 := hpv3; subst hpv3
        have hX1 : ∀ w', Kx (H + 3) wr.drew w' → w'.heap[X]? = some (.cells #[.bool s3.safe, .int .i64 s3.why, .slice a1 n p1, .slice a2 n p2, .int .i64 (s3.quiet : Int), .slice pa3 s3.trips.length pc3, .slice (some ⟨g, 0, none⟩) n cap, .int .i64 (sil : Int), .int .i64 (most : Int), .int .i64 (win : Int), .string nam, .slice na s3.now.length nc] 52) := fun w' hs => (hs.2 X (row_lt (W := wr.drew) hVr.out.row) (by omega)).trans hVr.out.row
        have hX2 : ∀ w', Kx (H + 3) wr.drew w' → w'.heap[nb]? = some (.cells #[.slice ua (saysTo ms s3.safe N0 s3.now L).length uc] 39) := fun w' hs => (hs.2 nb (row_lt (W := wr.drew) hrn) (by omega)).trans hrn
        have e0 : ∀ w', Kx (H + 3) wr.drew w' → w'.cell? ⟨X, 0, none⟩ = some (.bool s3.safe) := fun w' hs => by rw [cell_of_row _ _ _ _ _ _ (hX1 w' hs)]; rfl
        have e1 : ∀ w', Kx (H + 3) wr.drew w' → w'.cell? ⟨X, 1, none⟩ = some (.int .i64 s3.why) := fun w' hs => by rw [cell_of_row _ _ _ _ _ _ (hX1 w' hs)]; rfl
        have e2 : ∀ w', Kx (H + 3) wr.drew w' → w'.cell? ⟨X, 2, none⟩ = some (.slice a1 n p1) := fun w' hs => by rw [cell_of_row _ _ _ _ _ _ (hX1 w' hs)]; rfl
        have e3 : ∀ w', Kx (H + 3) wr.drew w' → w'.cell? ⟨X, 3, none⟩ = some (.slice a2 n p2) := fun w' hs => by rw [cell_of_row _ _ _ _ _ _ (hX1 w' hs)]; rfl
        have e4 : ∀ w', Kx (H + 3) wr.drew w' → w'.cell? ⟨X, 4, none⟩ = some (.int .i64 (s3.quiet : Int)) := fun w' hs => by rw [cell_of_row _ _ _ _ _ _ (hX1 w' hs)]; rfl
        have e5 : ∀ w', Kx (H + 3) wr.drew w' → w'.cell? ⟨X, 5, none⟩ = some (.slice pa3 s3.trips.length pc3) := fun w' hs => by rw [cell_of_row _ _ _ _ _ _ (hX1 w' hs)]; rfl
        have e6 : ∀ w', Kx (H + 3) wr.drew w' → w'.cell? ⟨nb, 0, none⟩ = some (.slice ua (saysTo ms s3.safe N0 s3.now L).length uc) := fun w' hs => by rw [cell_of_row _ _ _ _ _ _ (hX2 w' hs)]; rfl
        have q4 := hid (row_below r4.out (hBr.out.trans (Below.refl _ wr).drew))
        have hVd := hid hVr.out.drew
        have hSd := hid (hSr.out.below (Below.refl _ wr).drew)
        have hod := hid (hon.below (Below.refl _ wr).drew)
        have hBd := hid (hBr.out.trans (Below.refl _ wr).drew)
        have hU4 := S4.out
        clear hX1 hX2 hrn hon hVr hSr hBr hVc hSc hBc
        refine wp_region_can_all [5] [0, 1, 2, 3, 4, 5, 6, 7] (Kx (H + 3)) (fun _ => Kx.refl _ _) (fun _ _ _ h k => h.trans k) (by kernel_rfl) (by kernel_rfl) ?_
        simp only [List.map_cons, List.map_nil, List.contains_cons, List.contains_nil, List.getD_cons_zero, List.getD_cons_succ, Nat.reduceBEq, Bool.or_false]
        generalize wr.drew = Y at *
        repeat (refine wpL_do rfl (fun w' hw' => (by go_simp; rfl)) ?_; simp only [Act.put, List.setIfInBounds_toArray, List.set_cons_succ, List.set_cons_zero])
        clear e0 e1 e2 e3 e4 e5 e6
        obtain ⟨q6, g6⟩ := sixG q4.out (.bool s3.safe) (.int .i64 s3.why) (.slice a1 n p1) (.slice a2 n p2) (.int .i64 (s3.quiet : Int)) (.slice pa3 s3.trips.length pc3)
        have z0 : Y.cell? ⟨H + 3, 0, none⟩ = some (.bool false) := by rw [cell_of_row _ _ _ _ _ _ q4.out]; rfl
        have z1 : Y.cell? ⟨H + 3, 1, none⟩ = some (.int .i64 0) := by rw [cell_of_row _ _ _ _ _ _ q4.out]; rfl
        have z2 : Y.cell? ⟨H + 3, 2, none⟩ = some (.slice none 0 0) := by rw [cell_of_row _ _ _ _ _ _ q4.out]; rfl
        have z3 : Y.cell? ⟨H + 3, 3, none⟩ = some (.slice none 0 0) := by rw [cell_of_row _ _ _ _ _ _ q4.out]; rfl
        have z4 : Y.cell? ⟨H + 3, 4, none⟩ = some (.int .i64 0) := by rw [cell_of_row _ _ _ _ _ _ q4.out]; rfl
        have z5 : Y.cell? ⟨H + 3, 5, none⟩ = some (.slice none 0 0) := by rw [cell_of_row _ _ _ _ _ _ q4.out]; rfl
        have fz := frozen_row q4.out
        have Q6 := hid q6
        have G6 := hid g6
        clear q6 g6
        refine wpL_call rfl (fun K hK => ?_)
        go_wp2_with fail
        refine hK _ _ ((Kx.refl _ _).grown G6.out) ?_
        clear hK K z0 z1 z2 z3 z4 z5 fz
        try simp only [Act.put, List.setIfInBounds_toArray, List.set_cons_succ, List.set_cons_zero]
        have ob := hid (hVd.out.b.kept G6.out (hVd.out.b.ne q4.out (by decide)))
        have ot := hid (hVd.out.t.kept G6.out (hVd.out.t.ne q4.out (by decide)))
        have op := hid (hVd.out.p_.kept G6.out (hVd.out.p_.ne q4.out (by decide)))
        have on := hid (hod.out.kept G6.out (hod.out.ne q4.out (by decide)))
        have HBz := hid ((HBw.out Y hBd.out).grown G6.out (HBw.out Y hBd.out).size (fun k e => by cases e; have := HH.out; omega))
        generalize (((((Y.setCell ⟨H + 3, 0, none⟩ (.bool s3.safe)).setCell ⟨H + 3, 1, none⟩ (.int .i64 s3.why)).setCell ⟨H + 3, 2, none⟩ (.slice a1 n p1)).setCell ⟨H + 3, 3, none⟩ (.slice a2 n p2)).setCell ⟨H + 3, 4, none⟩ (.int .i64 (s3.quiet : Int))).setCell ⟨H + 3, 5, none⟩ (.slice pa3 s3.trips.length pc3) = Z at *
        clear G6 q4
        iterate 2 (refine wpL_do rfl (fun w' hw' => (by go_simp; rfl)) ?_; simp only [Act.put, List.setIfInBounds_toArray, List.set_cons_succ, List.set_cons_zero])
        refine wpL_nil ?_
        have m0 : Z.cell? ⟨H + 3, 0, none⟩ = some (.bool s3.safe) := by rw [cell_of_row _ _ _ _ _ _ Q6.out]; rfl
        have m1 : Z.cell? ⟨H + 3, 1, none⟩ = some (.int .i64 s3.why) := by rw [cell_of_row _ _ _ _ _ _ Q6.out]; rfl
        have m2 : Z.cell? ⟨H + 3, 2, none⟩ = some (.slice a1 n p1) := by rw [cell_of_row _ _ _ _ _ _ Q6.out]; rfl
        have m3 : Z.cell? ⟨H + 3, 3, none⟩ = some (.slice a2 n p2) := by rw [cell_of_row _ _ _ _ _ _ Q6.out]; rfl
        have m4 : Z.cell? ⟨H + 3, 4, none⟩ = some (.int .i64 (s3.quiet : Int)) := by rw [cell_of_row _ _ _ _ _ _ Q6.out]; rfl
        have m5 : Z.cell? ⟨H + 3, 5, none⟩ = some (.slice pa3 s3.trips.length pc3) := by rw [cell_of_row _ _ _ _ _ _ Q6.out]; rfl
        go_wp2_with fail
        refine bodyPost_ret (by simp only [results, Try.results7, go_sem]; simp [go_sem, m0, m1, m2, m3, m4, m5]; rfl) rfl ?_
        rw [Hend.out, HendN.out, ← HL.out]
        have ob := ob.out
        have ot := ot.out
        rw [Hfb.out] at ob
        rw [Hft.out] at ot
        exact ⟨⟨a1, p1, a2, p2, pa3, pc3, ua, uc, rfl, ob.mono (by have := HH.out; omega), ot.mono (by have := HH.out; omega), op.out.mono (by have := HH.out; omega), on.out.mono (by have := HH.out; omega)⟩, HBz.out⟩
end Go.Proofs.Ytkgnelmnadnbhaa
