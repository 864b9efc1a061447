/- frame: Unpack. -/
import Derived.Test.YtjiipmalahhcpaaCarries13
namespace Go.Proofs.Ytjiipmalahhcpaa
set_option linter.unusedVariables false
open Go.RowKit

set_option maxRecDepth 100000 in
theorem run_cutlh (b off n c l h : Nat) (h1 : l ≤ h) (h2 : h ≤ c) (w : World) : (Instr.sliceAt 33 (.slice (some ⟨b, off, none⟩) n c) (some (.int .i64 (l : Int))) (some (.int .i64 (h : Int))) none).run Try.prog w = .ok (.slice (some ⟨b, if c = l then off else off + l, none⟩) (h - l) (c - l)) w := by
  have e1 : (l : Int) ≤ h := by omega
  have e2 : (h : Int) ≤ c := by omega
  simp [go_sem, e1, e2, Try.underlying33]
  split <;> rfl
set_option maxRecDepth 100000 in
theorem run_cuth (b off n c h : Nat) (h2 : h ≤ c) (w : World) : (Instr.sliceAt 33 (.slice (some ⟨b, off, none⟩) n c) none (some (.int .i64 (h : Int))) none).run Try.prog w = .ok (.slice (some ⟨b, if c = 0 then off else off, none⟩) h c) w := by
  have e2 : (h : Int) ≤ c := by omega
  simp [go_sem, e2, Try.underlying33]
theorem and_lo (a b k : Nat) (h : a < 2 ^ k) : a &&& b = a &&& (b % 2 ^ k) := by
  apply Nat.eq_of_testBit_eq
  intro i
  rw [Nat.testBit_and, Nat.testBit_and, Nat.testBit_mod_two_pow]
  by_cases hi : i < k
  · simp [hi]
  · rw [Nat.testBit_lt_two_pow (Nat.lt_of_lt_of_le h (Nat.pow_le_pow_right (by decide) (by omega)))]
    simp
theorem and_hi (x c k : Nat) : x &&& (c * 2 ^ k) = ((x / 2 ^ k) &&& c) * 2 ^ k := by
  apply Nat.eq_of_testBit_eq
  intro i
  rw [Nat.testBit_and, Nat.testBit_mul_two_pow, Nat.testBit_mul_two_pow, Nat.testBit_and, Nat.testBit_div_two_pow]
  by_cases hi : k ≤ i
  · rw [Nat.sub_add_cancel hi]
    simp [hi]
  · simp [hi]
theorem results_c3 {P : Program} {fn : Func} {p u v x : Tmp} {ty : TypeId} (h : fn.results = #[.cell p ty, .tmp u, .tmp v, .tmp x]) (tmps : Array Value) (w : World) (g : Nat) (t : TypeId) (cs : Array Value) (fr : Nat × Nat) (d : TypeDesc)
    (hp : tmps.getD p undef = .pointer (some ⟨g, 0, none⟩)) (hg : w.heap[g]? = some (.cells cs t fr))
    (hu : P.underlying ty = some d) (hd : (match d with | .struct _ | .array _ _ => true | _ => false) = true) (hi : (P.info? ty).map (·.size) = some cs.size) :
    (results fn tmps).run P w = .ok (.tuple #[.agg cs, tmps.getD u undef, tmps.getD v undef, tmps.getD x undef]) w := by
  have hp' : tmps[p]?.getD undef = .pointer (some ⟨g, 0, none⟩) := by simpa using hp
  simp [results, h, hp', asAddr, run_loadVar_row w g t ty cs fr d hg hu hd hi]
theorem results_c2 {P : Program} {fn : Func} {p u v : Tmp} {ty : TypeId} (h : fn.results = #[.cell p ty, .tmp u, .tmp v]) (tmps : Array Value) (w : World) (g : Nat) (t : TypeId) (cs : Array Value) (fr : Nat × Nat) (d : TypeDesc)
    (hp : tmps.getD p undef = .pointer (some ⟨g, 0, none⟩)) (hg : w.heap[g]? = some (.cells cs t fr))
    (hu : P.underlying ty = some d) (hd : (match d with | .struct _ | .array _ _ => true | _ => false) = true) (hi : (P.info? ty).map (·.size) = some cs.size) :
    (results fn tmps).run P w = .ok (.tuple #[.agg cs, tmps.getD u undef, tmps.getD v undef]) w := by
  have hp' : tmps[p]?.getD undef = .pointer (some ⟨g, 0, none⟩) := by simpa using hp
  simp [results, h, hp', asAddr, run_loadVar_row w g t ty cs fr d hg hu hd hi]
set_option maxRecDepth 1000000 in
theorem fr75 (y : Nat → Value) : fr 75 y = #[y 0, y 1, y 2, y 3, y 4, y 5, y 6, y 7, y 8, y 9, y 10, y 11, y 12, y 13, y 14, y 15, y 16, y 17, y 18, y 19, y 20, y 21, y 22, y 23, y 24, y 25, y 26, y 27, y 28, y 29, y 30, y 31, y 32, y 33, y 34, y 35, y 36, y 37, y 38, y 39, y 40, y 41, y 42, y 43, y 44, y 45, y 46, y 47, y 48, y 49, y 50, y 51, y 52, y 53, y 54, y 55, y 56, y 57, y 58, y 59, y 60, y 61, y 62, y 63, y 64, y 65, y 66, y 67, y 68, y 69, y 70, y 71, y 72, y 73, y 74] := rfl
end Go.Proofs.Ytjiipmalahhcpaa
/- frame: Unpack: the walk. -/
namespace Go.Proofs.Ytjiipmalahhcpaa
set_option linter.unusedVariables false
open Go.RowKit

theorem and_form (cr ch : Nat) (h1 : cr ≤ 1023) (h2 : ch ≤ 7) : bits .and .i64 ((cr * 16 + ch * 2 + 1 : Nat) : Int) 49153 = 1 := by
  have h := i64_and (cr * 16 + ch * 2 + 1) 49153 (by omega) (by decide)
  rw [and_lo _ 49153 14 (by omega), show 49153 % 2 ^ 14 = 1 by decide, Nat.and_one_is_mod, show (cr * 16 + ch * 2 + 1) % 2 = 1 by omega] at h
  exact h
theorem and_first (fi : Nat) (h : fi ≤ 2047) : bits .and .i64 ((6144 + fi : Nat) : Int) 63488 = 6144 := by
  have h1 := i64_and (6144 + fi) 63488 (by omega) (by decide)
  rw [show (63488 : Nat) = 31 * 2 ^ 11 by decide, and_hi, show (6144 + fi) / 2 ^ 11 = 3 by omega] at h1
  exact h1
theorem and_craft (cr ch : Nat) (h1 : cr ≤ 1023) (h2 : ch ≤ 7) : bits .and .i64 (((cr * 16 + ch * 2 + 1 : Nat) : Int) / 16) 1023 = (cr : Int) := by
  have h := i64_and ((cr * 16 + ch * 2 + 1) / 16) 1023 (by omega) (by decide)
  rw [show (1023 : Nat) = 2 ^ 10 - 1 by decide, Nat.and_two_pow_sub_one_eq_mod, show (cr * 16 + ch * 2 + 1) / 16 % 2 ^ 10 = cr by omega] at h
  rw [← h]
  rfl
theorem and_chan (cr ch : Nat) (h1 : cr ≤ 1023) (h2 : ch ≤ 7) : bits .and .i64 (((cr * 16 + ch * 2 + 1 : Nat) : Int) / 2) 7 = (ch : Int) := by
  have h := i64_and ((cr * 16 + ch * 2 + 1) / 2) 7 (by omega) (by decide)
  rw [show (7 : Nat) = 2 ^ 3 - 1 by decide, Nat.and_two_pow_sub_one_eq_mod, show (cr * 16 + ch * 2 + 1) / 2 % 2 ^ 3 = ch by omega] at h
  rw [← h]
  rfl
theorem and_fi (fi : Nat) (h : fi ≤ 2047) : bits .and .i64 ((6144 + fi : Nat) : Int) 2047 = (fi : Int) := by
  have h1 := i64_and (6144 + fi) 2047 (by omega) (by decide)
  rw [show (2047 : Nat) = 2 ^ 11 - 1 by decide, Nat.and_two_pow_sub_one_eq_mod, show (6144 + fi) % 2 ^ 11 = fi by omega] at h1
  exact h1
structure UnpR (W0 W : World) (cr ch ma ow fi n : Nat) (data : List Nat) (st : Nat) (e : Ending) : Prop where
  ex : ∃ da dc, e = .returned (.tuple #[.agg #[.int .i64 (cr : Int), .int .i64 (ch : Int), .int .i64 (ma : Int), .int .i64 (ow : Int), .int .i64 (fi : Int)], .slice da n dc, .int .i64 (st : Int), .int .i64 0]) ∧ W.ownsRow W0.heap.size 5 1 (.slice da n dc) n (vb data)
  blw : Below W0.heap.size W0 W
def SameB (P : Nat) (u u' : World) : Prop := Below P u u' ∧ u'.heap[P]? = u.heap[P]?
theorem SameB.refl (P : Nat) (u : World) : SameB P u u := ⟨Below.refl _ _, rfl⟩
theorem SameB.trans (P : Nat) (u v w : World) (h : SameB P u v) (k : SameB P v w) : SameB P u w := ⟨h.1.trans k.1, k.2.trans h.2⟩
theorem SameB.ofBelow {P : Nat} {u v : World} (h : Below (P + 1) u v) : SameB P u v := ⟨h.mono (Nat.le_succ P), h.block P (Nat.lt_succ_self P)⟩
theorem cut_if {c k off : Nat} (h : k < c) : (if c = k then off else off + k) = off + k := if_neg (by omega)
set_option maxRecDepth 1000000 in
set_option maxHeartbeats 8000000 in
theorem unpack_ok (cr ch ma ow fi : Nat) (aa : Option Addr) (n ac : Nat) (data : List Nat) (st : Nat) (W0 : World) (h1 : cr ≤ 1023) (h2 : ch ≤ 7) (h3 : ma ≤ 255) (h4 : ow ≤ 255) (h5 : fi ≤ 2047) (h6 : st ≤ 4294967295) (hd : Rd W0 aa (12 + n) ac (vb (frameB cr ch ma ow fi data st))) (ha : AllB data) (hnl : data.length = n) (hn1 : 1 ≤ n) (hn2 : n ≤ 2036) :
    Calls Try.prog 10 #[.slice aa (12 + n) ac] W0 fun e w' => UnpR W0 w' cr ch ma ow fi n data st e := by
  have hu := unp cr ch ma ow fi data st h1 h2 h3 h4 h5 h6 ha
  rw [hnl] at hu
  have hsl := sumN_lt _ (bodyF_all cr ch ma ow fi data st ha)
  generalize frameB cr ch ma ow fi data st = bs at *
  obtain ⟨b, off, rfl, hbl, hcell⟩ := hd.mem (by omega)
  have hle := hd.le
  have hmx := hd.max
  unfold maxLen at hmx
  obtain ⟨L, hL⟩ : ∃ L, L = 12 + n := ⟨_, rfl⟩
  obtain ⟨n10, hn10⟩ : ∃ q, q = 10 + n := ⟨_, rfl⟩
  obtain ⟨n6, hn6⟩ : ∃ q, q = 6 + n := ⟨_, rfl⟩
  rw [← hL] at hd ⊢
  rw [← hL] at hle
  have b1 := below_alloc W0 (.cells #[.int .i64 0, .int .i64 0, .int .i64 0, .int .i64 0, .int .i64 0] 46)
  have r1 := heap_alloc_new W0 (.cells #[.int .i64 0, .int .i64 0, .int .i64 0, .int .i64 0, .int .i64 0] 46)
  have z1 : Hid ((W0.alloc (.cells #[.int .i64 0, .int .i64 0, .int .i64 0, .int .i64 0, .int .i64 0] 46)).heap.size = W0.heap.size + 1) := World.size_alloc _ _
  obtain ⟨P, hP⟩ : ∃ P, P = W0.heap.size := ⟨_, rfl⟩
  rw [← hP] at r1 b1 z1
  have HP := hid hP
  have HU := hid hu
  have R1 := hid r1
  have B1 := hid b1
  have hma := hu.ma
  have how := hu.ow
  have hall := hid hu.all
  have hbsl := hid hu.len
  -- the parts
  have s1 := hd.sub 0 n10 (by omega)
  have s2 := hd.sub n10 2 (by omega)
  have s3 := hd.sub 0 2 (by omega)
  have s4 := hd.sub 4 2 (by omega)
  have s5 := hd.sub 6 n (by omega)
  have s6 := hd.sub n6 4 (by omega)
  rw [vb_drop, vb_take] at s1 s2 s3 s4 s5 s6
  rw [List.drop_zero, Nat.add_zero, Nat.sub_zero] at s1 s3
  have e1 : bs.take n10 = bodyF cr ch ma ow fi data st := by rw [hn10]; exact hu.body
  have e2 : (bs.drop n10).take 2 = bs.drop n10 := List.take_of_length_le (by rw [List.length_drop, hu.len]; omega)
  have e5 : (bs.drop 6).take n = data := hu.data
  have e6 : (bs.drop n6).take 4 = (bs.drop (6 + n)).take 4 := by rw [hn6]
  rw [e1] at s1
  rw [e2] at s2
  rw [e5] at s5
  rw [e6] at s6
  have hallD : ∀ k, AllB (bs.drop k) := fun k x hx => hu.all x (List.drop_subset _ _ hx)
  have hallT : ∀ k (l : List Nat), AllB l → AllB (l.take k) := fun k l hl x hx => hl x (List.take_subset _ _ hx)
  have HB := hid (bodyF_all cr ch ma ow fi data st ha)
  have vs := hu.sum
  have v3 := hu.who
  have v4 := hu.wher
  have v6 := hu.st
  rw [← hn10] at vs
  have f1 := and_form cr ch h1 h2
  have f2 := and_first fi h5
  have f3 := and_craft cr ch h1 h2
  have f4 := and_chan cr ch h1 h2
  have f5 := and_fi fi h5
  obtain ⟨q0, hq0⟩ : ∃ q, q = cr * 16 + ch * 2 + 1 := ⟨_, rfl⟩
  obtain ⟨q1, hq1⟩ : ∃ q, q = 6144 + fi := ⟨_, rfl⟩
  rw [← hq0] at v3 f1 f3 f4
  rw [← hq1] at v4 f2 f5
  have hq0l : q0 < 65536 := by omega
  have hq1l : q1 < 65536 := by omega
  clear hq0 hq1
  have k1 := fun w => run_cuth b off L ac n10 (by omega) w
  have k2 := fun w => run_cut33 b off L ac n10 (by omega) w
  have k3 := fun w => run_cuth b off L ac 2 (by omega) w
  have k4 := fun w => run_cutlh b off L ac 4 6 (by omega) (by omega) w
  have k5 := fun w => run_cutlh b off L ac 6 n6 (by omega) (by omega) w
  have k6 := fun w => run_cutlh b off L ac n6 n10 (by omega) (by omega) w
  rw [cut_if (by omega), show L - n10 = 2 by omega] at k2
  rw [cut_if (by omega), show ((4 : Nat) : Int) = 4 from rfl, show ((6 : Nat) : Int) = 6 from rfl] at k4
  rw [cut_if (by omega), show n6 - 6 = n by omega, show ((6 : Nat) : Int) = 6 from rfl] at k5
  rw [cut_if (by omega), show n10 - n6 = 4 by omega] at k6
  rw [ite_self] at k1 k3
  rw [show ((2 : Nat) : Int) = 2 from rfl] at k3
  have c1 := fun (w : World) (hw : Below P W0 w) => sum_st _ _ _ _ HB.out (by omega) w (s1.below' (Nat.le_of_eq hP.symm) hw)
  have c2 := fun (w : World) (hw : Below P W0 w) => number_ok _ _ _ _ w (s2.below' (Nat.le_of_eq hP.symm) hw) (hallD _) (by omega)
  have c3 := fun (w : World) (hw : Below P W0 w) => number_ok _ _ _ _ w (s3.below' (Nat.le_of_eq hP.symm) hw) (hallT _ _ hu.all) (by omega)
  have c4 := fun (w : World) (hw : Below P W0 w) => number_ok _ _ _ _ w (s4.below' (Nat.le_of_eq hP.symm) hw) (hallT _ _ (hallD _)) (by omega)
  have c5 := fun (w : World) (hw : Below P W0 w) => clone_any _ _ _ _ w (s5.below' (Nat.le_of_eq hP.symm) hw) (by omega)
  have c6 := fun (w : World) (hw : Below P W0 w) => number_ok _ _ _ _ w (s6.below' (Nat.le_of_eq hP.symm) hw) (hallT _ _ (hallD _)) (by omega)
  rw [vs] at c2
  rw [v3] at c3
  rw [v4] at c4
  rw [v6] at c6
  generalize sumN (bodyF cr ch ma ow fi data st) = sm at *
  have C1 := hid c1
  have C2 := hid c2
  have C3 := hid c3
  have C4 := hid c4
  have C5 := hid c5
  have C6 := hid c6
  have x2 := hd.cell 2 (by omega)
  have x3 := hd.cell 3 (by omega)
  obtain ⟨b', off', hb', hlt2, x2⟩ := x2
  cases hb'
  obtain ⟨b', off', hb', _, x3⟩ := x3
  cases hb'
  rw [hma] at x2
  rw [how] at x3
  have X2 := hid x2
  have Hb : Hid (b < P) := by rw [hP]; exact hlt2
  clear hlt2
  have X3 := hid x3
  have g1 : decide ((L : Int) < 13) = false := decide_eq_false (by omega)
  have g2 : decide ((2048 : Int) < (L : Int)) = false := decide_eq_false (by omega)
  have g3 : decide (L < 13) = false := decide_eq_false (by omega)
  have g4 : decide (2048 < L) = false := decide_eq_false (by omega)
  have a1 : (L : Int) - 2 = (n10 : Int) := by omega
  have a2 : (L : Int) - 6 = (n6 : Int) := by omega
  have a3 : IntKind.i64.wrap ((L : Int) - 2) = (n10 : Int) := by rw [a1]; exact IntWalk.i64_in _ (by omega)
  have a4 : IntKind.i64.wrap ((L : Int) - 6) = (n6 : Int) := by rw [a2]; exact IntWalk.i64_in _ (by omega)
  have a5 : IntKind.i64.wrap (n10 : Int) = (n10 : Int) := IntWalk.i64_in _ (by omega)
  have a6 : IntKind.i64.wrap (n6 : Int) = (n6 : Int) := IntWalk.i64_in _ (by omega)
  have i2 : (2 : Int) < (L : Int) := by omega
  have i3 : (3 : Int) < (L : Int) := by omega
  have hL2 : 13 ≤ L ∧ L ≤ 2048 := by omega
  have hn10l : n10 ≤ 2046 := by omega
  have hn6l : n6 ≤ 2042 := by omega
  have HcL := hid hle
  clear hd hu hP r1 b1 s1 s2 s3 s4 s5 s6 e1 e2 e5 e6 hallD hallT vs v3 v4 v6 hma how x2 x3 c1 c2 c3 c4 c5 c6 hL hn10 hn6 hsl hcell hbl hle
  go_enter Try.func10, Try.ntmps10
  refine wp_seq_k (fun K0 hK0 => ?_)
  go_wp2_with fail
  rw [← HP.out]
  refine hK0.out _ _ ?_
  generalize W0.alloc (.cells #[.int .i64 0, .int .i64 0, .int .i64 0, .int .i64 0, .int .i64 0] 46) = W1 at *
  refine wp_seq_k (fun K1 hK1 => ?_)
  go_wp2_with fail
  refine hK1.out _ _ ?_
  refine wp_seq_k (fun K9 hK9 => ?_)
  go_wp2_with fail
  refine hK9.out _ _ ?_
  clear g1 g2 g3 g4
  refine wp_seq_k (fun K2 hK2 => ?_)
  refine wp_seq ?_
  refine wp_region_can_all [4, 9] [0, 1, 2, 3, 5, 6, 7, 8, 4, 9, 10] (Below (P + 1)) (fun _ => Below.refl _ _) (fun _ _ _ h k => h.trans k) (by kernel_rfl) (by kernel_rfl) ?_
  have D0 := hid ((Below.refl (P + 1) W1).drew)
  generalize W1.drew = U at *
  simp only [List.map_cons, List.map_nil, List.contains_cons, List.contains_nil, List.getD_cons_zero, List.getD_cons_succ, Nat.reduceBEq, Bool.or_false, Bool.or_true]
  repeat (refine wpL_do rfl (fun w' hw' => (by go_simp; rfl)) ?_; simp only [Act.put, List.setIfInBounds_toArray, List.set_cons_succ, List.set_cons_zero])
  refine wpL_call rfl (fun K hK => ?_)
  go_wp2_with fail
  refine (C1.out U (B1.out.trans (D0.out.mono (Nat.le_succ P)))).mono ?_
  rintro e w' ⟨rfl, hw'⟩
  rw [hw']
  clear hw' w'
  refine hK _ _ (Below.refl _ _) ?_
  clear hK K
  try simp only [Act.put, List.setIfInBounds_toArray, List.set_cons_succ, List.set_cons_zero]
  refine wpL_call rfl (fun K hK => ?_)
  go_wp2_with fail
  refine (C2.out U (B1.out.trans (D0.out.mono (Nat.le_succ P)))).mono ?_
  rintro e w' ⟨rfl, hw'⟩
  rw [hw']
  clear hw' w'
  refine hK _ _ (Below.refl _ _) ?_
  clear hK K
  try simp only [Act.put, List.setIfInBounds_toArray, List.set_cons_succ, List.set_cons_zero]
  repeat (refine wpL_do rfl (fun w' hw' => (by go_simp; rfl)) ?_; simp only [Act.put, List.setIfInBounds_toArray, List.set_cons_succ, List.set_cons_zero])
  refine wpL_nil ?_
  go_wp2_with fail
  refine hK2.out _ _ ?_
  clear k1 k2 C1 C2
  refine wp_seq_k (fun K3 hK3 => ?_)
  refine wp_region_can_all [2, 5] [0, 1, 3, 4, 2, 5, 6, 7] (Below (P + 1)) (fun _ => Below.refl _ _) (fun _ _ _ h k => h.trans k) (by kernel_rfl) (by kernel_rfl) ?_
  have D1 := hid (D0.out.trans ((Below.refl (P + 1) U).drew))
  clear D0
  generalize U.drew = V at *
  simp only [List.map_cons, List.map_nil, List.contains_cons, List.contains_nil, List.getD_cons_zero, List.getD_cons_succ, Nat.reduceBEq, Bool.or_false, Bool.or_true]
  repeat (refine wpL_do rfl (fun w' hw' => (by go_simp; rfl)) ?_; simp only [Act.put, List.setIfInBounds_toArray, List.set_cons_succ, List.set_cons_zero])
  refine wpL_call rfl (fun K hK => ?_)
  go_wp2_with fail
  refine (C3.out V (B1.out.trans (D1.out.mono (Nat.le_succ P)))).mono ?_
  rintro e w' ⟨rfl, hw'⟩
  rw [hw']
  clear hw' w'
  refine hK _ _ (Below.refl _ _) ?_
  clear hK K
  try simp only [Act.put, List.setIfInBounds_toArray, List.set_cons_succ, List.set_cons_zero]
  refine wpL_call rfl (fun K hK => ?_)
  go_wp2_with fail
  refine (C4.out V (B1.out.trans (D1.out.mono (Nat.le_succ P)))).mono ?_
  rintro e w' ⟨rfl, hw'⟩
  rw [hw']
  clear hw' w'
  refine hK _ _ (Below.refl _ _) ?_
  clear hK K
  try simp only [Act.put, List.setIfInBounds_toArray, List.set_cons_succ, List.set_cons_zero]
  repeat (refine wpL_do rfl (fun w' hw' => (by go_simp; rfl)) ?_; simp only [Act.put, List.setIfInBounds_toArray, List.set_cons_succ, List.set_cons_zero])
  refine wpL_nil ?_
  refine hK3.out _ _ ?_
  clear k3 k4 C3 C4
  refine wp_seq_k (fun K4 hK4 => ?_)
  go_wp2_with fail
  refine hK4.out _ _ ?_
  clear f1 f2
  have hXV := (D1.out.block P (Nat.lt_succ_self P)).trans R1.out
  have t2 : ∀ w', Below (P + 1) V.drew w' → w'.cell? ⟨b, off + 2, none⟩ = some (.int .u8 (ma : Int)) := fun w' hw => (World.cell?_of_block ((B1.out.trans ((D1.out.trans ((Below.refl (P + 1) V).drew.trans hw)).mono (Nat.le_succ P))).block b Hb.out)).trans X2.out
  have t3 : ∀ w', Below (P + 1) V.drew w' → w'.cell? ⟨b, off + 3, none⟩ = some (.int .u8 (ow : Int)) := fun w' hw => (World.cell?_of_block ((B1.out.trans ((D1.out.trans ((Below.refl (P + 1) V).drew.trans hw)).mono (Nat.le_succ P))).block b Hb.out)).trans X3.out
  refine wp_seq_k (fun K5 hK5 => ?_)
  refine wp_region_late [17] [17] [(true, [0, 1, 2, 3, 4, 5, 6, 7, 8, 9, 10, 11, 12, 13, 14, 15, 16]), (false, [17])] (Below (P + 1)) (fun _ _ => True) (fun _ => Below.refl _ _) (fun _ _ _ h k => h.trans k) (fun _ => trivial) (fun _ _ _ _ _ => trivial) (fun _ _ _ => trivial) (by kernel_rfl) (by kernel_rfl) ?_
  simp only [wpPh, List.map_cons, List.map_nil, List.contains_cons, List.contains_nil, List.getD_cons_zero, List.getD_cons_succ, Nat.reduceBEq, Bool.or_false]
  have D2 := hid (D1.out.trans ((Below.refl (P + 1) V).drew))
  clear D1
  generalize V.drew = X at *
  repeat (refine wpL_do rfl (fun w' hw' => (by go_simp; rfl)) ?_; simp only [Act.put, List.setIfInBounds_toArray, List.set_cons_succ, List.set_cons_zero])
  have HX := hid ((D2.out.block P (Nat.lt_succ_self P)).trans R1.out)
  clear t2 t3 hXV f3 f4 f5
  refine wpL_nil ?_
  have p0 : X.cell? ⟨P, 0, none⟩ = some (.int .i64 0) := by rw [cell_of_row _ _ _ _ _ _ HX.out]; rfl
  have p1 : X.cell? ⟨P, 1, none⟩ = some (.int .i64 0) := by rw [cell_of_row _ _ _ _ _ _ HX.out]; rfl
  have p2 : X.cell? ⟨P, 2, none⟩ = some (.int .i64 0) := by rw [cell_of_row _ _ _ _ _ _ HX.out]; rfl
  have p3 : X.cell? ⟨P, 3, none⟩ = some (.int .i64 0) := by rw [cell_of_row _ _ _ _ _ _ HX.out]; rfl
  have p4 : X.cell? ⟨P, 4, none⟩ = some (.int .i64 0) := by rw [cell_of_row _ _ _ _ _ _ HX.out]; rfl
  have fz : ∀ k, X.frozen? ⟨P, k, none⟩ = false := fun k => frozen_of_row _ _ _ _ _ HX.out
  obtain ⟨m1, m2⟩ := five HX.out (.int .i64 (cr : Int)) (.int .i64 (ch : Int)) (.int .i64 (ma : Int)) (.int .i64 (ow : Int)) (.int .i64 (fi : Int))
  refine wpL_call rfl (fun K hK => ?_)
  go_wp2_with fail
  refine hK _ _ trivial ?_
  clear hK K p0 p1 p2 p3 p4 fz
  try simp only [Act.put, List.setIfInBounds_toArray, List.set_cons_succ, List.set_cons_zero]
  refine wpL_nil ?_
  refine hK5.out _ _ ?_
  have M1 := hid m1
  have D5 := hid ((B1.out.trans (D2.out.mono (Nat.le_succ P))).grown m2 (Nat.le_of_lt (row_lt HX.out)) (fun k e => by cases e; exact Nat.le_refl _))
  clear m1 m2 HX D2
  generalize ((((X.setCell ⟨P, 0, none⟩ (.int .i64 (cr : Int))).setCell ⟨P, 1, none⟩ (.int .i64 (ch : Int))).setCell ⟨P, 2, none⟩ (.int .i64 (ma : Int))).setCell ⟨P, 3, none⟩ (.int .i64 (ow : Int))).setCell ⟨P, 4, none⟩ (.int .i64 (fi : Int)) = Y at *
  refine wp_seq_k (fun K6 hK6 => ?_)
  refine wp_region_can_all [5, 12, 13] [0, 1, 2, 3, 4, 6, 7, 8, 9, 10, 11, 5, 12, 13, 14, 15, 16] (SameB P) (SameB.refl P) (SameB.trans P) (by kernel_rfl) (by kernel_rfl) ?_
  simp only [List.map_cons, List.map_nil, List.contains_cons, List.contains_nil, List.getD_cons_zero, List.getD_cons_succ, Nat.reduceBEq, Bool.or_false, Bool.or_true]
  have D6 := hid (D5.out.trans ((Below.refl P Y).drew))
  have M6 := hid (((Below.refl (P + 1) Y).drew.block P (Nat.lt_succ_self P)).trans M1.out)
  clear D5 M1
  generalize Y.drew = Z at *
  have q0c : ∀ w', SameB P Z w' → w'.cell? ⟨P, 0, none⟩ = some (.int .i64 (cr : Int)) := fun w' hw => by rw [cell_of_row _ _ _ _ _ _ (hw.2.trans M6.out)]; rfl
  have q1c : ∀ w', SameB P Z w' → w'.cell? ⟨P, 1, none⟩ = some (.int .i64 (ch : Int)) := fun w' hw => by rw [cell_of_row _ _ _ _ _ _ (hw.2.trans M6.out)]; rfl
  have q2c : ∀ w', SameB P Z w' → w'.cell? ⟨P, 2, none⟩ = some (.int .i64 (ma : Int)) := fun w' hw => by rw [cell_of_row _ _ _ _ _ _ (hw.2.trans M6.out)]; rfl
  have q3c : ∀ w', SameB P Z w' → w'.cell? ⟨P, 3, none⟩ = some (.int .i64 (ow : Int)) := fun w' hw => by rw [cell_of_row _ _ _ _ _ _ (hw.2.trans M6.out)]; rfl
  have q4c : ∀ w', SameB P Z w' → w'.cell? ⟨P, 4, none⟩ = some (.int .i64 (fi : Int)) := fun w' hw => by rw [cell_of_row _ _ _ _ _ _ (hw.2.trans M6.out)]; rfl
  iterate 11 (refine wpL_do rfl (fun w' hw' => (by go_simp; rfl)) ?_; simp only [Act.put, List.setIfInBounds_toArray, List.set_cons_succ, List.set_cons_zero])
  clear q0c q1c q2c q3c q4c k5 k6
  refine wpL_call rfl (fun K hK => ?_)
  go_wp2_with fail
  refine (C5.out Z D6.out).mono ?_
  rintro e Z1 ⟨da, dc, rfl, ho, hb⟩
  have HO := hid (ownsRow_mono ho (show P ≤ Z.heap.size from Nat.le_of_lt (row_lt M6.out)))
  have D7 := hid (D6.out.trans (hb.mono (Nat.le_of_lt (row_lt M6.out))))
  have M7 := hid (row_below M6.out hb)
  refine hK _ _ (SameB.ofBelow (hb.mono (row_lt M6.out))) ?_
  clear hK K ho hb M6 D6
  try simp only [Act.put, List.setIfInBounds_toArray, List.set_cons_succ, List.set_cons_zero]
  refine wpL_call rfl (fun K hK => ?_)
  go_wp2_with fail
  refine (C6.out Z1 D7.out).mono ?_
  rintro e w' ⟨rfl, hw'⟩
  rw [hw']
  clear hw' w'
  refine hK _ _ (SameB.refl _ _) ?_
  clear hK K
  try simp only [Act.put, List.setIfInBounds_toArray, List.set_cons_succ, List.set_cons_zero]
  clear C5 C6
  have p0 : Z1.cell? ⟨P, 0, none⟩ = some (.int .i64 (cr : Int)) := by rw [cell_of_row _ _ _ _ _ _ M7.out]; rfl
  have p1 : Z1.cell? ⟨P, 1, none⟩ = some (.int .i64 (ch : Int)) := by rw [cell_of_row _ _ _ _ _ _ M7.out]; rfl
  have p2 : Z1.cell? ⟨P, 2, none⟩ = some (.int .i64 (ma : Int)) := by rw [cell_of_row _ _ _ _ _ _ M7.out]; rfl
  have p3 : Z1.cell? ⟨P, 3, none⟩ = some (.int .i64 (ow : Int)) := by rw [cell_of_row _ _ _ _ _ _ M7.out]; rfl
  have p4 : Z1.cell? ⟨P, 4, none⟩ = some (.int .i64 (fi : Int)) := by rw [cell_of_row _ _ _ _ _ _ M7.out]; rfl
  have fz : ∀ k, Z1.frozen? ⟨P, k, none⟩ = false := fun k => frozen_of_row _ _ _ _ _ M7.out
  obtain ⟨m1, m2⟩ := five M7.out (.int .i64 (cr : Int)) (.int .i64 (ch : Int)) (.int .i64 (ma : Int)) (.int .i64 (ow : Int)) (.int .i64 (fi : Int))
  have D8' := hid ((Below.refl P Z1).grown m2 (Nat.le_of_lt (row_lt M7.out)) (fun k e => by cases e; exact Nat.le_refl _))
  refine wpL_call rfl (fun K hK => ?_)
  go_wp2_with fail
  refine hK _ _ ⟨D8'.out, m1.trans M7.out.symm⟩ ?_
  clear hK K p0 p1 p2 p3 p4 fz
  try simp only [Act.put, List.setIfInBounds_toArray, List.set_cons_succ, List.set_cons_zero]
  have M8 := hid m1
  have D8 := hid (D7.out.grown m2 (Nat.le_of_lt (row_lt M7.out)) (fun k e => by cases e; exact Nat.le_refl _))
  have O8 := hid (HO.out.kept m2 (own_ne HO.out M7.out (by decide)))
  clear m1 m2 M7 D7 HO D8'
  generalize ((((Z1.setCell ⟨P, 0, none⟩ (.int .i64 (cr : Int))).setCell ⟨P, 1, none⟩ (.int .i64 (ch : Int))).setCell ⟨P, 2, none⟩ (.int .i64 (ma : Int))).setCell ⟨P, 3, none⟩ (.int .i64 (ow : Int))).setCell ⟨P, 4, none⟩ (.int .i64 (fi : Int)) = Z2 at *
  repeat (refine wpL_do rfl (fun w' hw' => (by go_simp; rfl)) ?_; simp only [Act.put, List.setIfInBounds_toArray, List.set_cons_succ, List.set_cons_zero])
  refine wpL_nil ?_
  refine hK6.out _ _ ?_
  go_wp2_with fail
  refine bodyPost_ret (results_c3 rfl _ _ P 46 #[.int .i64 (cr : Int), .int .i64 (ch : Int), .int .i64 (ma : Int), .int .i64 (ow : Int), .int .i64 (fi : Int)] (0, 0) _ rfl M8.out Try.underlying46 rfl (by kernel_rfl)) rfl ?_
  exact ⟨⟨da, dc, rfl, by rw [← HP.out]; exact O8.out⟩, by rw [← HP.out]; exact D8.out⟩
end Go.Proofs.Ytjiipmalahhcpaa
/- frame: Next: plain, and its memory. -/
namespace Go.Proofs.Ytjiipmalahhcpaa
set_option linter.unusedVariables false
open Go.RowKit

set_option maxRecDepth 1000000 in
theorem fr109 (y : Nat → Value) : fr 109 y = #[y 0, y 1, y 2, y 3, y 4, y 5, y 6, y 7, y 8, y 9, y 10, y 11, y 12, y 13, y 14, y 15, y 16, y 17, y 18, y 19, y 20, y 21, y 22, y 23, y 24, y 25, y 26, y 27, y 28, y 29, y 30, y 31, y 32, y 33, y 34, y 35, y 36, y 37, y 38, y 39, y 40, y 41, y 42, y 43, y 44, y 45, y 46, y 47, y 48, y 49, y 50, y 51, y 52, y 53, y 54, y 55, y 56, y 57, y 58, y 59, y 60, y 61, y 62, y 63, y 64, y 65, y 66, y 67, y 68, y 69, y 70, y 71, y 72, y 73, y 74, y 75, y 76, y 77, y 78, y 79, y 80, y 81, y 82, y 83, y 84, y 85, y 86, y 87, y 88, y 89, y 90, y 91, y 92, y 93, y 94, y 95, y 96, y 97, y 98, y 99, y 100, y 101, y 102, y 103, y 104, y 105, y 106, y 107, y 108] := rfl
theorem ldStep_all (room : Nat) (s : LS) (h : s.Ok) (hr : room ≤ 2048) (ha : AllB s.data) : AllB (s.step room).data := by
  obtain ⟨h1, h2⟩ := h.up room hr
  have hdu : (s.up room).data = s.data := by unfold LS.up; split <;> rfl
  unfold LS.step
  generalize s.up room = u at *
  obtain ⟨p, S, hps⟩ : ∃ p S, u.ps = p :: S := by
    cases hp : u.ps with
    | nil => exact absurd hp h2
    | cons p S => exact ⟨p, S, rfl⟩
  have hpa : AllB p := (h1.enc p (by rw [hps]; exact List.mem_cons_self)).allB
  dsimp only
  rw [hps, hdu]
  exact ha.append ((hpa.drop _).take _)
theorem ldN_all (room : Nat) (hr : room ≤ 2048) : ∀ (f : Nat) (s : LS), s.Ok → AllB s.data → AllB (ldN room f s).data
  | 0, s, _, ha => ha
  | f + 1, s, h, ha => by
    unfold ldN
    by_cases e : s.data.length < room
    · rw [if_pos e]
      exact ldN_all room hr f _ (h.step room hr e).1 (ldStep_all room s h hr ha)
    · rw [if_neg e]
      exact ha
theorem ldOf_all (l : LQ) (h : l.Ok) (room : Nat) (hr : room ≤ 2048) : AllB (ldOf l room).data :=
  ldN_all room hr room _ ⟨h.enc, h.len, h.g0, h.g1, Nat.le_refl _⟩ (fun x hx => by cases hx)
/-- the first queue from turn on in which something waits -/
def firstQ (l : Nat → LQ) (turn : Nat) : Nat → Nat → Option Nat
  | 0, _ => none
  | n + 1, k => if (l ((turn + k) % 7)).ps = [] then firstQ l turn n (k + 1) else some ((turn + k) % 7)
structure NX where
  ch : Nat
  ow : Nat
  fi : Nat
  tn : Nat
  data : List Nat
  l : Nat → LQ
def nxSome (l : Nat → LQ) (room c : Nat) : NX := ⟨c, (l c).own, (ldOf (l c) room).first, (c + 1) % 7, (ldOf (l c) room).data, fun x => if x = c then ⟨((l c).own + 1) % 256, (ldOf (l c) room).gone, (ldOf (l c) room).ps⟩ else l x⟩
def nxNone (l : Nat → LQ) (turn room : Nat) : NX := ⟨7, 0, 2046, turn, List.replicate room 0, l⟩
def nextOf (l : Nat → LQ) (turn room : Nat) : NX := match firstQ l turn 7 0 with
  | none => nxNone l turn room
  | some c => nxSome l room c
theorem ne_tt {W : World} {a b T1 T2 : Nat} {c1 c2 : Array Value} (h1 : W.heap[a]? = some (.cells c1 T1)) (h2 : W.heap[b]? = some (.cells c2 T2)) (h : T1 ≠ T2) : a ≠ b := fun e => by
  subst e
  exact ne_type h1 h _ _ h2 rfl
/-- what Next has in memory -/
structure NM (W : World) (P H qb qc cr sz ms tn ch ma ow fi : Nat) (q : Nat → QS) (da : Option Addr) (room dc : Nat) (dd : List Nat) : Prop where
  bx : W.heap[P]? = some (.cells #[.int .i64 (cr : Int), .int .i64 (sz : Int), .int .i64 (ms : Int), .int .i64 (tn : Int), .slice (some ⟨qb, 0, none⟩) 7 qc] 26)
  rs : W.heap[P + 1]? = some (.cells #[.int .i64 0, .int .i64 0, .int .i64 0, .int .i64 0, .slice none 0 0] 26)
  hd : W.heap[H]? = some (.cells #[.int .i64 (cr : Int), .int .i64 (ch : Int), .int .i64 (ma : Int), .int .i64 (ow : Int), .int .i64 (fi : Int)] 46)
  qr : QB7 W qb q
  pk : ∀ x, x < 7 → PkT W (q x).pa (q x).pn (q x).pc (q x).R
  dt : RdT 5 W da room dc (vb dd)
theorem NM.below {W W' : World} {P H qb qc cr sz ms tn ch ma ow fi : Nat} {q : Nat → QS} {da : Option Addr} {room dc : Nat} {dd : List Nat} (h : NM W P H qb qc cr sz ms tn ch ma ow fi q da room dc dd) (hb : Below W.heap.size W W') : NM W' P H qb qc cr sz ms tn ch ma ow fi q da room dc dd :=
  ⟨row_below h.bx hb, row_below h.rs hb, row_below h.hd hb, h.qr.below hb, fun x hx => (h.pk x hx).below hb, h.dt.below hb⟩
theorem NM.head {W W' : World} {P H qb qc cr sz ms tn ch ma ow fi ch' ma' ow' fi' : Nat} {q : Nat → QS} {da : Option Addr} {room dc : Nat} {dd : List Nat} (h : NM W P H qb qc cr sz ms tn ch ma ow fi q da room dc dd)
    (hg : W.grownBy W' (some H)) (hn : W'.heap[H]? = some (.cells #[.int .i64 (cr : Int), .int .i64 (ch' : Int), .int .i64 (ma' : Int), .int .i64 (ow' : Int), .int .i64 (fi' : Int)] 46)) : NM W' P H qb qc cr sz ms tn ch' ma' ow' fi' q da room dc dd := by
  obtain ⟨cq, hq, _⟩ := h.qr.ex
  exact ⟨row_grown h.bx hg (ne_tt h.bx h.hd (by decide)), row_grown h.rs hg (ne_tt h.rs h.hd (by decide)), hn, h.qr.kept hg (ne_type h.hd (by decide) qb cq hq), fun x hx => (h.pk x hx).other hg h.hd (by decide) (by decide), h.dt.other hg h.hd (by decide)⟩
theorem NM.box {W W' : World} {P H qb qc cr sz ms tn ch ma ow fi ms' tn' : Nat} {q : Nat → QS} {da : Option Addr} {room dc : Nat} {dd : List Nat} (h : NM W P H qb qc cr sz ms tn ch ma ow fi q da room dc dd)
    (hg : W.grownBy W' (some P)) (hn : W'.heap[P]? = some (.cells #[.int .i64 (cr : Int), .int .i64 (sz : Int), .int .i64 (ms' : Int), .int .i64 (tn' : Int), .slice (some ⟨qb, 0, none⟩) 7 qc] 26)) : NM W' P H qb qc cr sz ms' tn' ch ma ow fi q da room dc dd := by
  obtain ⟨cq, hq, _⟩ := h.qr.ex
  exact ⟨hn, row_grown h.rs hg (Nat.succ_ne_self P), row_grown h.hd hg (ne_tt h.hd h.bx (by decide)), h.qr.kept hg (ne_type h.bx (by decide) qb cq hq), fun x hx => (h.pk x hx).other hg h.bx (by decide) (by decide), h.dt.other hg h.bx (by decide)⟩
theorem NM.queue {W W' : World} {P H qb qc cr sz ms tn ch ma ow fi : Nat} {q q' : Nat → QS} {da da' : Option Addr} {room dc dc' : Nat} {dd dd' : List Nat} (h : NM W P H qb qc cr sz ms tn ch ma ow fi q da room dc dd)
    (hg : W.grownBy W' (some qb)) (hq' : QB7 W' qb q') (hpk : ∀ x, x < 7 → (q' x).pa = (q x).pa ∧ (q' x).pn = (q x).pn ∧ (q' x).pc = (q x).pc ∧ (q' x).R = (q x).R ∨ PkT W' (q' x).pa (q' x).pn (q' x).pc (q' x).R) (hd : (da' = da ∧ dc' = dc ∧ dd' = dd) ∨ RdT 5 W' da' room dc' (vb dd')) : NM W' P H qb qc cr sz ms tn ch ma ow fi q' da' room dc' dd' := by
  obtain ⟨cq, hq, _⟩ := h.qr.ex
  refine ⟨row_grown h.bx hg (ne_tt h.bx hq (by decide)), row_grown h.rs hg (ne_tt h.rs hq (by decide)), row_grown h.hd hg (ne_tt h.hd hq (by decide)), hq', fun x hx => ?_, ?_⟩
  · rcases hpk x hx with ⟨e1, e2, e3, e4⟩ | h1
    · rw [e1, e2, e3, e4]
      exact (h.pk x hx).other hg hq (by decide) (by decide)
    · exact h1
  · rcases hd with ⟨rfl, rfl, rfl⟩ | h1
    · exact h.dt.other hg hq (by decide)
    · exact h1
theorem QB7.puto {W : World} {qb c : Nat} {q : Nat → QS} (h : QB7 W qb q) (hc : c < 7) (g : Nat) :
    QB7 (W.setCell ⟨qb, c * 3, none⟩ (.int .i64 (g : Int))) qb (setQ q c ⟨g, (q c).pa, (q c).pn, (q c).pc, (q c).R, (q c).gone⟩) ∧ W.grownBy (W.setCell ⟨qb, c * 3, none⟩ (.int .i64 (g : Int))) (some qb) :=
  h.set c 0 hc (by omega) _ _ (by
    unfold qcell
    rw [if_pos (by omega), show (c * 3 + 0) / 3 = c by omega, setQ_self]) (fun j hj hne => by
    unfold qcell
    by_cases e : j / 3 = c
    · rw [e, setQ_self]
      have h3 : ¬ j % 3 = 0 := by omega
      rw [if_neg h3, if_neg h3]
    · rw [setQ_ne _ _ e])
structure SN (y : Nat → Value) (P H st : Nat) (da : Option Addr) (room dc : Nat) : Prop where
  s1 : y 1 = .int .i64 (st : Int)
  s2 : y 2 = .pointer (some ⟨P, 0, none⟩)
  s4 : y 4 = .pointer (some ⟨P + 1, 0, none⟩)
  s8 : y 8 = .pointer (some ⟨H, 0, none⟩)
  s9 : y 9 = .slice da room dc
end Go.Proofs.Ytjiipmalahhcpaa
