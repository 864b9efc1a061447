/- deliver: notes in memory; say. -/
import Derived.Test.YtopmamgdfngdoaaWhole8
import Derived.Test.YtopmamgdfngdoaaWhole1
namespace Go.Proofs.Ytopmamgdfngdoaa
set_option linter.unusedVariables false
open Go.RowKit

/-- a note, and where its bytes or spans lie -/
structure NV where
  k : NT
  a : Option Addr
  c : Nat
def sub (l : List Nat) (x y : Nat) : List Nat := (l.drop x).take (y - x)
def nkind : NT → Int
  | .nm => 1 | .np _ _ => 2 | .ne => 3 | .ng _ => 4 | .nd => 5 | .se => 6 | .sd => 6
def nname : NT → ByteArray
  | .nm => logS | _ => emS
def nsize (D : DP) : NT → Int
  | .nm => D.P.F | .ne => D.P.F | _ => 0
def nsum (D : DP) : NT → Int
  | .ne => D.s | _ => 0
def nat_ : NT → Int
  | .np x _ => x | _ => 0
def ndata : NV → Value
  | ⟨.np x y, a, c⟩ => .slice a (y - x) c
  | _ => .slice none 0 0
def ngaps : NV → Value
  | ⟨.ng l, a, c⟩ => .slice a l.length c
  | _ => .slice none 0 0
def nof : NT → Int
  | .se => 3 | .sd => 5 | _ => 0
/-- the cells of a note -/
def ncI (D : DP) (id : Int) (v : NV) : List Value := [.int .i64 (nkind v.k), .int .i64 id, .string (nname v.k), .int .i64 (nsize D v.k), .int .i64 (nsum D v.k), .int .i64 (nat_ v.k), ndata v, ngaps v, .int .i64 (nof v.k), .int .i64 0]
def ncl (D : DP) (v : NV) : List Value := ncI D 7 v
theorem ncl_len (D : DP) (v : NV) : (ncl D v).length = 10 := rfl
/-- its bytes and spans read -/
def NVM (D : DP) (W : World) : NV → Prop
  | ⟨.np x y, a, c⟩ => RdT 5 W a (y - x) c (vb (sub D.fl x y))
  | ⟨.ng l, a, c⟩ => RdS W a l.length c l
  | _ => True
theorem NVM.stays {D : DP} {W W' : World} {v : NV} (h : NVM D W v) (h5 : Stays 5 W W') (h84 : Stays 84 W W') : NVM D W' v := by
  obtain ⟨k, a, c⟩ := v
  cases k with
  | np x y => exact RdT.stays h h5
  | ng l => exact RdS.stays h h84
  | nm => trivial
  | ne => trivial
  | nd => trivial
  | se => trivial
  | sd => trivial
theorem NVM.below {D : DP} {W W' : World} {v : NV} (h : NVM D W v) (hb : Below W.heap.size W W') : NVM D W' v := h.stays (Stays.ofBelow hb) (Stays.ofBelow hb)
theorem ndata_slice (v : NV) : ∃ a n c, ndata v = .slice a n c := by
  obtain ⟨k, a, c⟩ := v
  cases k <;> exact ⟨_, _, _, rfl⟩
theorem ngaps_slice (v : NV) : ∃ a n c, ngaps v = .slice a n c := by
  obtain ⟨k, a, c⟩ := v
  cases k <;> exact ⟨_, _, _, rfl⟩
theorem Try.info60 : (Try.prog.info? 60).map (fun i => (i.zero, i.size, i.bytes)) = some (some (.agg #[.int .i64 0, .int .i64 0, .string { data := #[] }, .int .i64 0, .int .i64 0, .int .i64 0, .slice none 0 0, .slice none 0 0, .int .i64 0, .int .i64 0]), 10, 120) := by kernel_rfl
/-- something is said -/
structure Say57 (D : DP) (W0 W : World) (X B : Nat) (cs : Array Value) (o : List NV) (v : NV) (e : Ending) : Prop where
  he : e = .returned (.tuple #[])
  ex : ∃ oa oc, W.heap[X]? = some (.cells (cs.setIfInBounds 13 (.slice oa (o.length + 1) oc)) 66) ∧ W.ownsRow B 60 10 (.slice oa (o.length + 1) oc) (o.length + 1) ((o ++ [v]).flatMap (ncl D))
  blw : Below B W0 W
  st : ∀ T, T ≠ 66 → T ≠ 60 → Stays T W0 W
set_option maxRecDepth 1000000 in
set_option maxHeartbeats 8000000 in
theorem say57_ok (D : DP) (X B : Nat) (cs : Array Value) (o : List NV) (v : NV) (oa : Option Addr) (oc : Nat) (w : World) (hB : B ≤ X) (hX : w.heap[X]? = some (.cells cs 66)) (h0 : cs[0]? = some (.int .i64 7)) (h13 : cs[13]? = some (.slice oa o.length oc)) (ho : w.ownsRow B 60 10 (.slice oa o.length oc) o.length (o.flatMap (ncl D))) (hn : o.length ≤ 100000) :
    Calls Try.prog 57 #[.pointer (some ⟨X, 0, none⟩), .agg (ncI D 0 v).toArray] w fun e w' => Say57 D w w' X B cs o v e := by
  obtain ⟨i0, hi, hz0, hz1, hz2⟩ := info_parts Try.info60
  obtain ⟨da, dn, dc, hda⟩ := ndata_slice v
  obtain ⟨ga, gn, gc, hga⟩ := ngaps_slice v
  have E1 : Hid ((o ++ [v]).flatMap (ncl D) = o.flatMap (ncl D) ++ [.int .i64 (nkind v.k), .int .i64 7, .string (nname v.k), .int .i64 (nsize D v.k), .int .i64 (nsum D v.k), .int .i64 (nat_ v.k), .slice da dn dc, .slice ga gn gc, .int .i64 (nof v.k), .int .i64 0]) := by
    show (o ++ [v]).flatMap (ncl D) = _
    rw [flat_snoc]
    unfold ncl ncI
    rw [hda, hga]
  unfold ncI
  rw [hda, hga]
  have bN := below_alloc w (.cells #[.int .i64 (nkind v.k), .int .i64 0, .string (nname v.k), .int .i64 (nsize D v.k), .int .i64 (nsum D v.k), .int .i64 (nat_ v.k), .slice da dn dc, .slice ga gn gc, .int .i64 (nof v.k), .int .i64 0] 60)
  have A := hid (heap_alloc_new w (.cells #[.int .i64 (nkind v.k), .int .i64 0, .string (nname v.k), .int .i64 (nsize D v.k), .int .i64 (nsum D v.k), .int .i64 (nat_ v.k), .slice da dn dc, .slice ga gn gc, .int .i64 (nof v.k), .int .i64 0] 60))
  have hXw := row_lt hX
  have hob : ∀ k, (Value.slice oa o.length oc).ownBlock = some k → B ≤ k ∧ k < w.heap.size := ho.lt
  have HX := hid (row_below hX bN)
  have HO := hid (ownsRow_below ho bN)
  have HB := hid (bN.mono (Nat.le_trans hB (Nat.le_of_lt hXw)))
  have HS := hid (fun T (_ : T ≠ 66) (_ : T ≠ 60) => (Stays.ofBelow bN : Stays T w _))
  obtain ⟨l, hl⟩ : ∃ l, l = o.flatMap (ncl D) := ⟨_, rfl⟩
  have hol : (o.flatMap (ncl D)).length = o.length * 10 := flat_len (ncl D) 10 (ncl_len D) o
  obtain ⟨on, hon⟩ : ∃ on, on = o.length := ⟨_, rfl⟩
  rw [← hl, ← hon] at HO
  rw [← hl] at E1
  rw [← hon] at h13 hn hob
  have Hon := hid hon
  generalize nkind v.k = f0 at *
  generalize nname v.k = f2 at *
  generalize nsize D v.k = f3 at *
  generalize nsum D v.k = f4 at *
  generalize nat_ v.k = f5 at *
  generalize nof v.k = f8 at *
  clear bN hX ho hda hga hl hol hon
  go_enter Try.func57, Try.ntmps57
  refine wp_seq_k (fun K0 hK0 => ?_)
  go_wp2_with fail
  refine hK0.out _ _ ?_
  obtain ⟨Y, hY⟩ : ∃ Y, Y = w.heap.size := ⟨_, rfl⟩
  rw [← hY] at A hXw hob ⊢
  have hYB : B ≤ Y := by omega
  clear hY
  generalize w.alloc (.cells #[.int .i64 f0, .int .i64 0, .string f2, .int .i64 f3, .int .i64 f4, .int .i64 f5, .slice da dn dc, .slice ga gn gc, .int .i64 f8, .int .i64 0] 60) = V at *
  -- the number
  have c0 : V.cell? ⟨X, 0, none⟩ = some (.int .i64 7) := by rw [cell_of_row _ _ _ _ _ _ HX.out]; exact h0
  have y1 : V.cell? ⟨Y, 1, none⟩ = some (.int .i64 0) := by rw [cell_of_row _ _ _ _ _ _ (Hid.out A)]; rfl
  have fz := frozen_row (Hid.out A) 1
  obtain ⟨m1, m2⟩ := set_row (cs' := #[.int .i64 f0, .int .i64 7, .string f2, .int .i64 f3, .int .i64 f4, .int .i64 f5, .slice da dn dc, .slice ga gn gc, .int .i64 f8, .int .i64 0]) (Hid.out A) 1 (.int .i64 7) rfl
  have HX1 := hid (row_grown HX.out m2 (by omega))
  have HS1 := hid (fun T (h1 : T ≠ 66) (h2 : T ≠ 60) => (HS.out T h1 h2).trans (Stays.ofSet m2 (Hid.out A) h2))
  have HB1 := hid (HB.out.grown m2 (by have := HB.out.size; have := row_lt HX.out; omega) (fun k e => by cases e; exact hYB))
  have A1 := hid m1
  have HO1 := hid (HO.out.kept m2 (.inr (fun e => by have := (hob _ e).2; omega)))
  clear m1 m2 HX HS HB A HO
  refine wp_seq_k (fun K1 hK1 => ?_)
  go_wp2_with fail
  refine hK1.out _ _ ?_
  clear c0 y1 fz
  generalize V.setCell ⟨Y, 1, none⟩ (.int .i64 7) = V2 at *
  -- it is laid behind the others
  refine wp_region_can 10 [6, 7] [0, 1, 2, 3, 4, 5, 6, 7, 8, 9] (fun u u' => u'.heap[Y]? = u.heap[Y]? ∧ u'.cell? ⟨X, 13, none⟩ = u.cell? ⟨X, 13, none⟩) (fun _ => ⟨rfl, rfl⟩) (fun _ _ _ h k => ⟨k.1.trans h.1, k.2.trans h.2⟩) (by kernel_rfl) (by kernel_rfl) ?_
  simp only [List.map_cons, List.map_nil, List.contains_cons, List.contains_nil, List.getD_cons_zero, List.getD_cons_succ, Nat.reduceBEq, Bool.or_false, Bool.or_true]
  have hdr := (Below.refl V2.heap.size V2).drew
  have HX2 := hid (row_below HX1.out hdr)
  have HS2 := hid (fun T (h1 : T ≠ 66) (h2 : T ≠ 60) => (HS1.out T h1 h2).trans (Stays.ofBelow hdr))
  have HB2 := hid (HB1.out.trans (hdr.mono (by have := row_lt HX1.out; omega)))
  have A2 := hid (row_below A1.out hdr)
  have HO2 := hid (ownsRow_below HO1.out hdr)
  clear hdr HX1 HS1 HB1 A1 HO1
  generalize V2.drew = U at *
  have x13 : ∀ w' : World, (w'.heap[Y]? = U.heap[Y]? ∧ w'.cell? ⟨X, 13, none⟩ = U.cell? ⟨X, 13, none⟩) → w'.cell? ⟨X, 13, none⟩ = some (.slice oa on oc) := fun w' h => by rw [h.2, cell_of_row _ _ _ _ _ _ HX2.out]; exact h13
  have y0 : ∀ w' : World, (w'.heap[Y]? = U.heap[Y]? ∧ w'.cell? ⟨X, 13, none⟩ = U.cell? ⟨X, 13, none⟩) → w'.cell? ⟨Y, 0, none⟩ = some (.int .i64 f0) := fun w' h => by rw [cell_of_row _ _ _ _ _ _ (h.1.trans A2.out)]; rfl
  have y1 : ∀ w' : World, (w'.heap[Y]? = U.heap[Y]? ∧ w'.cell? ⟨X, 13, none⟩ = U.cell? ⟨X, 13, none⟩) → w'.cell? ⟨Y, 1, none⟩ = some (.int .i64 7) := fun w' h => by rw [cell_of_row _ _ _ _ _ _ (h.1.trans A2.out)]; rfl
  have y2 : ∀ w' : World, (w'.heap[Y]? = U.heap[Y]? ∧ w'.cell? ⟨X, 13, none⟩ = U.cell? ⟨X, 13, none⟩) → w'.cell? ⟨Y, 2, none⟩ = some (.string f2) := fun w' h => by rw [cell_of_row _ _ _ _ _ _ (h.1.trans A2.out)]; rfl
  have y3 : ∀ w' : World, (w'.heap[Y]? = U.heap[Y]? ∧ w'.cell? ⟨X, 13, none⟩ = U.cell? ⟨X, 13, none⟩) → w'.cell? ⟨Y, 3, none⟩ = some (.int .i64 f3) := fun w' h => by rw [cell_of_row _ _ _ _ _ _ (h.1.trans A2.out)]; rfl
  have y4 : ∀ w' : World, (w'.heap[Y]? = U.heap[Y]? ∧ w'.cell? ⟨X, 13, none⟩ = U.cell? ⟨X, 13, none⟩) → w'.cell? ⟨Y, 4, none⟩ = some (.int .i64 f4) := fun w' h => by rw [cell_of_row _ _ _ _ _ _ (h.1.trans A2.out)]; rfl
  have y5 : ∀ w' : World, (w'.heap[Y]? = U.heap[Y]? ∧ w'.cell? ⟨X, 13, none⟩ = U.cell? ⟨X, 13, none⟩) → w'.cell? ⟨Y, 5, none⟩ = some (.int .i64 f5) := fun w' h => by rw [cell_of_row _ _ _ _ _ _ (h.1.trans A2.out)]; rfl
  have y6 : ∀ w' : World, (w'.heap[Y]? = U.heap[Y]? ∧ w'.cell? ⟨X, 13, none⟩ = U.cell? ⟨X, 13, none⟩) → w'.cell? ⟨Y, 6, none⟩ = some (.slice da dn dc) := fun w' h => by rw [cell_of_row _ _ _ _ _ _ (h.1.trans A2.out)]; rfl
  have y7 : ∀ w' : World, (w'.heap[Y]? = U.heap[Y]? ∧ w'.cell? ⟨X, 13, none⟩ = U.cell? ⟨X, 13, none⟩) → w'.cell? ⟨Y, 7, none⟩ = some (.slice ga gn gc) := fun w' h => by rw [cell_of_row _ _ _ _ _ _ (h.1.trans A2.out)]; rfl
  have y8 : ∀ w' : World, (w'.heap[Y]? = U.heap[Y]? ∧ w'.cell? ⟨X, 13, none⟩ = U.cell? ⟨X, 13, none⟩) → w'.cell? ⟨Y, 8, none⟩ = some (.int .i64 f8) := fun w' h => by rw [cell_of_row _ _ _ _ _ _ (h.1.trans A2.out)]; rfl
  have y9 : ∀ w' : World, (w'.heap[Y]? = U.heap[Y]? ∧ w'.cell? ⟨X, 13, none⟩ = U.cell? ⟨X, 13, none⟩) → w'.cell? ⟨Y, 9, none⟩ = some (.int .i64 0) := fun w' h => by rw [cell_of_row _ _ _ _ _ _ (h.1.trans A2.out)]; rfl
  iterate 6 (refine wpL_do rfl (fun w' hw' => (by go_simp; rfl)) ?_; simp only [Act.put, List.setIfInBounds_toArray, List.set_cons_succ, List.set_cons_zero])
  clear y0 y1 y2 y3 y4 y5 y6 y7 y8 y9 x13
  have hXU := row_lt HX2.out
  have hYU := row_lt A2.out
  have b3 := below_alloc U (.cells #[.int .i64 f0, .int .i64 7, .string f2, .int .i64 f3, .int .i64 f4, .int .i64 f5, .slice da dn dc, .slice ga gn gc, .int .i64 f8, .int .i64 0] 60)
  have N3 := heap_alloc_new U (.cells #[.int .i64 f0, .int .i64 7, .string f2, .int .i64 f3, .int .i64 f4, .int .i64 f5, .slice da dn dc, .slice ga gn gc, .int .i64 f8, .int .i64 0] 60)
  refine wpL_call rfl (fun K hK => ?_)
  go_wp2_with fail
  refine hK _ _ ⟨b3.block _ hYU, World.cell?_of_block (a := ⟨X, 13, none⟩) (b3.block _ hXU)⟩ ?_
  clear hK K
  try simp only [Act.put, List.setIfInBounds_toArray, List.set_cons_succ, List.set_cons_zero]
  have hnew : ∀ (j : Nat) (u : Value), ([.int .i64 f0, .int .i64 7, .string f2, .int .i64 f3, .int .i64 f4, .int .i64 f5, .slice da dn dc, .slice ga gn gc, .int .i64 f8, .int .i64 0] : List Value)[j]? = some u → (U.alloc (.cells #[.int .i64 f0, .int .i64 7, .string f2, .int .i64 f3, .int .i64 f4, .int .i64 f5, .slice da dn dc, .slice ga gn gc, .int .i64 f8, .int .i64 0] 60)).cell? ((⟨U.heap.size, 0, none⟩ : Addr).add j) = some u := new_cells U [.int .i64 f0, .int .i64 7, .string f2, .int .i64 f3, .int .i64 f4, .int .i64 f5, .slice da dn dc, .slice ga gn gc, .int .i64 f8, .int .i64 0] 60
  have HX3 := hid (row_below HX2.out b3)
  have HS3 := hid (fun T (h1 : T ≠ 66) (h2 : T ≠ 60) => (HS2.out T h1 h2).trans (Stays.ofBelow b3))
  have HB3 := hid (HB2.out.trans (b3.mono (by have := row_lt HX2.out; omega)))
  have A3 := hid (row_below A2.out b3)
  have HO3 := hid (ownsRow_below HO2.out b3)
  have hYU3 : Y < (U.alloc (.cells #[.int .i64 f0, .int .i64 7, .string f2, .int .i64 f3, .int .i64 f4, .int .i64 f5, .slice da dn dc, .slice ga gn gc, .int .i64 f8, .int .i64 0] 60)).heap.size := Nat.lt_of_lt_of_le hYU b3.size
  have hXU3 : X < (U.alloc (.cells #[.int .i64 f0, .int .i64 7, .string f2, .int .i64 f3, .int .i64 f4, .int .i64 f5, .slice da dn dc, .slice ga gn gc, .int .i64 f8, .int .i64 0] 60)).heap.size := Nat.lt_of_lt_of_le hXU b3.size
  obtain ⟨Z, hZ⟩ : ∃ Z, Z = U.heap.size := ⟨_, rfl⟩
  rw [← hZ] at hnew ⊢
  clear hZ b3 N3 HX2 HS2 HB2 A2 HO2 hXU hYU
  generalize U.alloc (.cells #[.int .i64 f0, .int .i64 7, .string f2, .int .i64 f3, .int .i64 f4, .int .i64 f5, .slice da dn dc, .slice ga gn gc, .int .i64 f8, .int .i64 0] 60) = U3 at *
  have hB3 : B ≤ U3.heap.size := by omega
  have hXn : (Value.slice oa on oc).ownBlock = none ∨ (Value.slice oa on oc).ownBlock ≠ some X := own_ne HO3.out HX3.out (by decide)
  refine wpL_call rfl (fun K hK => ?_)
  refine wp_append_own _ (.tmp 14) (.tmp 16) 48 rfl B 60 i0 _ 10 120 Try.underlying48 hi hz0 hz1 hz2 rfl (by decide) (.slice oa on oc) on l rfl HO3.out ⟨Z, 0, none⟩ 1 1 [.int .i64 f0, .int .i64 7, .string f2, .int .i64 f3, .int .i64 f4, .int .i64 f5, .slice da dn dc, .slice ga gn gc, .int .i64 f8, .int .i64 0] rfl rfl hnew (by simp [Value.oneCell']) (by unfold maxLen; omega) (by omega) hB3 ?_
  intro v' U4 own4 g4 _
  obtain ⟨va, vc, rfl, _, _⟩ := own_slice own4
  have hXx : X ≠ X → False := fun h => h rfl
  have hX4 := (g4.block X hXU3 (fun e => by rcases hXn with h | h; (rw [h] at e; cases e); exact h e.symm)).trans HX3.out
  have hY4 := g4.block Y hYU3 (fun e => by have := (hob Y e.symm).2; omega)
  refine hK _ _ ⟨hY4, World.cell?_of_block (a := ⟨X, 13, none⟩) (g4.block X hXU3 (fun e => by rcases hXn with h | h; (rw [h] at e; cases e); exact h e.symm))⟩ ?_
  clear hK K
  try simp only [Act.put, List.setIfInBounds_toArray, List.set_cons_succ, List.set_cons_zero]
  have HX4 := hid hX4
  have HS4 := hid (fun T (h1 : T ≠ 66) (h2 : T ≠ 60) => (HS3.out T h1 h2).trans (Stays.ofOwn g4 HO3.out (fun e => h2 e.symm)))
  have HB4 := hid (HB3.out.grown g4 hB3 (fun k hk => (hob k hk).1))
  have O4 := hid own4
  clear hX4 hY4 g4 own4 hnew HX3 HS3 HB3 A3 HO3 hXn hYU3 hXU3
  iterate 2 (refine wpL_do rfl (fun w' hw' => (by go_simp; rfl)) ?_; simp only [Act.put, List.setIfInBounds_toArray, List.set_cons_succ, List.set_cons_zero])
  refine wpL_nil ?_
  simp only [List.drop_succ_cons, List.drop_zero]
  have x13 : U4.cell? ⟨X, 13, none⟩ = some (.slice oa on oc) := by rw [cell_of_row _ _ _ _ _ _ HX4.out]; exact h13
  have fz := frozen_row HX4.out 13
  obtain ⟨m1, m2⟩ := set_row (cs' := cs.setIfInBounds 13 (.slice va (on + 1) vc)) HX4.out 13 (.slice va (on + 1) vc) rfl
  have HX5 := hid m1
  have HS5 := hid (fun T (h1 : T ≠ 66) (h2 : T ≠ 60) => (HS4.out T h1 h2).trans (Stays.ofSet m2 HX4.out h1))
  have HB5 := hid (HB4.out.grown m2 (Nat.le_trans hB (Nat.le_of_lt (row_lt HX4.out))) (fun k e => by cases e; exact hB))
  have O5 := hid (row_kept_own HX4.out O4.out m2 (by decide))
  clear m1 m2 HX4 HS4 HB4 O4
  go_wp2_with fail
  unfold OnlyOn
  go_end0
  refine ⟨rfl, ⟨va, vc, by rw [← Hon.out]; exact HX5.out, ?_⟩, HB5.out, HS5.out⟩
  rw [E1.out, ← Hon.out]
  exact O5.out
end Go.Proofs.Ytopmamgdfngdoaa
/- deliver: a giver at work: its memory; what it says first. -/
namespace Go.Proofs.Ytopmamgdfngdoaa
set_option linter.unusedVariables false
open Go.RowKit

/-- an own slice of spans, that may begin anywhere in its block -/
def OwnS (W : World) (B : Nat) (v : Value) (l : List Sp) : Prop :=
  (v = .slice none 0 0 ∧ l = []) ∨ ∃ g o cap cur, v = .slice (some ⟨g, o, none⟩) l.length cap ∧ B ≤ g ∧ W.heap[g]? = some (.cells cur 84) ∧ l.length ≤ cap ∧ cap ≤ maxLen ∧ o + cap * 2 ≤ cur.size ∧ ∀ j, j < l.length * 2 → cur[o + j]? = (spv l)[j]?
theorem OwnS.stays {W W' : World} {B : Nat} {v : Value} {l : List Sp} (h : OwnS W B v l) (hs : Stays 84 W W') : OwnS W' B v l := by
  rcases h with h | ⟨g, o, cap, cur, h1, h2, h3, h4⟩
  · exact .inl h
  · exact .inr ⟨g, o, cap, cur, h1, h2, hs _ _ h3, h4⟩
theorem OwnS.rds {W : World} {B n c : Nat} {a : Option Addr} {l : List Sp} (h : OwnS W B (.slice a n c) l) : RdS W a n c l := by
  rcases h with ⟨h1, h2⟩ | ⟨g, o, cap, cur, h1, h2, h3, h4, h5, h6, h7⟩
  · cases h1
    subst h2
    exact RdS.nil W
  · cases h1
    exact ⟨rfl, h4, h5, (fun e => by cases e), fun _ => ⟨g, o, cur, rfl, h3, h7⟩⟩
theorem OwnS.ofOwn {W : World} {B n c : Nat} {a : Option Addr} {l : List Sp} (h : W.ownsRow B 84 2 (.slice a n c) n (spv l)) : OwnS W B (.slice a n c) l := by
  have hl : l.length = n := by have := h.1; rw [spv_len] at this; omega
  rcases h.2 with ⟨h1, h2⟩ | ⟨g, cap, cur, h1, h2, h3, h4, h5, h6, h7⟩
  · exact .inl ⟨h1, List.eq_nil_of_length_eq_zero (by omega)⟩
  · cases h1
    refine .inr ⟨g, 0, c, cur, by rw [hl], h2, h3, by omega, h5, by omega, fun j hj => ?_⟩
    rw [Nat.zero_add, ← h.cellAt j (by omega), cell_of_row _ _ _ _ _ _ h3]
theorem OwnS.mono {W : World} {B B' : Nat} {v : Value} {l : List Sp} (h : OwnS W B v l) (hb : B' ≤ B) : OwnS W B' v l := by
  rcases h with h | ⟨g, o, cap, cur, h1, h2, h3⟩
  · exact .inl h
  · exact .inr ⟨g, o, cap, cur, h1, Nat.le_trans hb h2, h3⟩
structure GA where
  fa : Option Addr
  fc : Nat
  aa : Option Addr
  ac : Nat
  oa : Option Addr
  oc : Nat
def gwc (D : DP) (g : GS) (A : GA) (an on : Nat) : Array Value :=
  #[.int .i64 7, .string logS, .slice A.fa D.P.F A.fc, .int .i64 (D.P.m : Int), .int .i64 (D.P.b : Int), .int .i64 (g.st : Int), .bool g.fi, .int .i64 (g.pos : Int), .slice A.aa an A.ac, .int .i64 (g.tm : Int), .int .i64 (D.P.p : Int), .int .i64 (g.tr : Int), .int .i64 100, .slice A.oa on A.oc]
structure GW (D : DP) (W : World) (X B : Nat) (g : GS) (A : GA) (o : List NV) : Prop where
  bx : W.heap[X]? = some (.cells (gwc D g A g.ag.length o.length) 66)
  f : RdT 5 W A.fa D.P.F A.fc (vb D.fl)
  a : OwnS W B (.slice A.aa g.ag.length A.ac) g.ag
  ow : W.ownsRow B 60 10 (.slice A.oa o.length A.oc) o.length (o.flatMap (ncl D))
  ns : ∀ v ∈ o, NVM D W v
  nog : ∀ v ∈ o, ∀ l, v.k ≠ .ng l
theorem NVM.stays5 {D : DP} {W W' : World} {v : NV} (h : NVM D W v) (h5 : Stays 5 W W') (hn : ∀ l, v.k ≠ .ng l) : NVM D W' v := by
  obtain ⟨k, a, c⟩ := v
  cases k with
  | np x y => exact RdT.stays h h5
  | ng l => exact absurd rfl (hn l)
  | nm => trivial
  | ne => trivial
  | nd => trivial
  | se => trivial
  | sd => trivial
theorem GW.below {D : DP} {W W' : World} {X B : Nat} {g : GS} {A : GA} {o : List NV} (h : GW D W X B g A o) (hb : Below W.heap.size W W') : GW D W' X B g A o :=
  ⟨row_below h.bx hb, h.f.below hb, h.a.stays (Stays.ofBelow hb), ownsRow_below h.ow hb, fun v hv => (h.ns v hv).below hb, h.nog⟩
/-- its own cells are written to -/
theorem GW.set {D : DP} {W W' : World} {X B : Nat} {g g' : GS} {A A' : GA} {o : List NV} (h : GW D W X B g A o) (hg : W.grownBy W' (some X)) (hn : W'.heap[X]? = some (.cells (gwc D g' A' g'.ag.length o.length) 66)) (e1 : A'.fa = A.fa) (e2 : A'.fc = A.fc) (e3 : A'.oa = A.oa) (e4 : A'.oc = A.oc) (ha : OwnS W B (.slice A'.aa g'.ag.length A'.ac) g'.ag) : GW D W' X B g' A' o := by
  have s5 : Stays 5 W W' := Stays.ofSet hg h.bx (by decide)
  have s84 : Stays 84 W W' := Stays.ofSet hg h.bx (by decide)
  exact ⟨hn, by rw [e1, e2]; exact h.f.stays s5, ha.stays s84, by rw [e3, e4]; exact row_kept_own h.bx h.ow hg (by decide), fun v hv => (h.ns v hv).stays s5 s84, h.nog⟩
/-- what a giver at work does to the world -/
structure GwS (W0 W : World) (B : Nat) : Prop where
  blw : Below B W0 W
  st : ∀ T, T ≠ 66 → T ≠ 60 → T ≠ 84 → Stays T W0 W
theorem GwS.refl (W : World) (B : Nat) : GwS W W B := ⟨Below.refl _ _, fun _ _ _ _ => Stays.refl _ _⟩
theorem GwS.trans {W0 W W' : World} {B : Nat} (h : GwS W0 W B) (k : GwS W W' B) : GwS W0 W' B := ⟨h.blw.trans k.blw, fun T h1 h2 h3 => (h.st T h1 h2 h3).trans (k.st T h1 h2 h3)⟩
theorem GwS.below {W0 W W' : World} {B : Nat} (h : GwS W0 W B) (hB : B ≤ W.heap.size) (hb : Below W.heap.size W W') : GwS W0 W' B := h.trans ⟨hb.mono hB, fun _ _ _ _ => Stays.ofBelow hb⟩
theorem GwS.set {W0 W W' : World} {B X : Nat} {cs : Array Value} (h : GwS W0 W B) (hB : B ≤ X) (hX : W.heap[X]? = some (.cells cs 66)) (hg : W.grownBy W' (some X)) : GwS W0 W' B :=
  h.trans ⟨(Below.refl B W).grown hg (Nat.le_trans hB (Nat.le_of_lt (row_lt hX))) (fun k e => by cases e; exact hB), fun T h1 _ _ => Stays.ofSet hg hX h1⟩
theorem GW.lt {D : DP} {W : World} {X B : Nat} {g : GS} {A : GA} {o : List NV} (h : GW D W X B g A o) (hB : B ≤ X) : B ≤ W.heap.size := Nat.le_trans hB (Nat.le_of_lt (row_lt h.bx))
/-- it has said something -/
theorem GW.said {D : DP} {W W' : World} {X B : Nat} {g : GS} {A : GA} {o : List NV} {v : NV} {e : Ending} (h : GW D W X B g A o) (hv : NVM D W v) (hng : ∀ l, v.k ≠ .ng l) (hs : Say57 D W W' X B (gwc D g A g.ag.length o.length) o v e) : ∃ oa oc, GW D W' X B g { A with oa := oa, oc := oc } (o ++ [v]) ∧ GwS W W' B := by
  obtain ⟨oa, oc, hX, ho⟩ := hs.ex
  have s5 : Stays 5 W W' := hs.st 5 (by decide) (by decide)
  have s84 : Stays 84 W W' := hs.st 84 (by decide) (by decide)
  have hl : (o ++ [v]).length = o.length + 1 := by rw [List.length_append]; rfl
  refine ⟨oa, oc, ⟨?_, h.f.stays s5, h.a.stays s84, by rw [hl]; exact ho, fun u hu => ?_, fun u hu => ?_⟩, hs.blw, fun T h1 h2 _ => hs.st T h1 h2⟩
  · rw [hX, hl]
    rfl
  · rcases List.mem_append.1 hu with k | k
    · exact (h.ns u k).stays s5 s84
    · rw [List.mem_singleton] at k
      subst k
      exact hv.stays s5 s84
  · rcases List.mem_append.1 hu with k | k
    · exact h.nog u k
    · rw [List.mem_singleton] at k
      subst k
      exact hng
/-- a step of a giver at work -/
structure GwR (D : DP) (W0 W : World) (X B : Nat) (g : GS) (ks : List NT) (e : Ending) (o : List NV) (v : Value) : Prop where
  he : e = .returned v
  ex : ∃ A vs, GW D W X B g A (o ++ vs) ∧ vs.map (·.k) = ks
  s : GwS W0 W B
/-- the same, where nothing but what goes out is turned -/
structure GwRs (D : DP) (W0 W : World) (X B : Nat) (g : GS) (A : GA) (ks : List NT) (e : Ending) (o : List NV) (v : Value) : Prop where
  he : e = .returned v
  ex : ∃ oa oc vs, GW D W X B g { A with oa := oa, oc := oc } (o ++ vs) ∧ vs.map (·.k) = ks
  s : GwS W0 W B
theorem GwRs.gwr {D : DP} {W0 W : World} {X B : Nat} {g : GS} {A : GA} {ks : List NT} {e : Ending} {o : List NV} {v : Value} (h : GwRs D W0 W X B g A ks e o v) : GwR D W0 W X B g ks e o v := by
  obtain ⟨h1, ⟨oa, oc, vs, h2, h3⟩, h4⟩ := h
  exact ⟨h1, ⟨_, vs, h2, h3⟩, h4⟩
set_option maxRecDepth 1000000 in
set_option maxHeartbeats 4000000 in
theorem name_ok (D : DP) (X B : Nat) (g : GS) (A : GA) (o : List NV) (w : World) (hB : B ≤ X) (h : GW D w X B g A o) (hn : o.length ≤ 100000) :
    Calls Try.prog 42 #[.pointer (some ⟨X, 0, none⟩)] w fun e w' => GwRs D w w' X B g A [.nm] e o (.tuple #[]) := by
  have hdr := (Below.refl w.heap.size w).drew
  have H := hid (h.below hdr)
  have Hd := hid (((GwS.refl w B).below (h.lt hB) hdr))
  clear h hdr
  go_enter Try.func42, Try.ntmps42
  refine wp_region_can 13 [] [0, 1, 2, 3, 4, 5, 6, 7, 8, 9, 10, 11, 12] (fun u u' => u' = u) (fun _ => rfl) (fun _ _ _ h k => k.trans h) (by kernel_rfl) (by kernel_rfl) ?_
  simp only [List.map_cons, List.map_nil, List.contains_nil, List.getD_cons_zero, List.getD_cons_succ]
  generalize w.drew = U at *
  have c1 : U.cell? ⟨X, 1, none⟩ = some (.string logS) := by rw [cell_of_row _ _ _ _ _ _ H.out.bx]; rfl
  have c2 : U.cell? ⟨X, 2, none⟩ = some (.slice A.fa D.P.F A.fc) := by rw [cell_of_row _ _ _ _ _ _ H.out.bx]; rfl
  have hs := hid (say57_ok D X B (gwc D g A g.ag.length o.length) o ⟨.nm, none, 0⟩ A.oa A.oc U hB H.out.bx rfl rfl H.out.ow hn)
  iterate 13 (refine wpL_do rfl (fun w' hw' => (by cases hw'; go_simp; rfl)) ?_; simp only [Act.put, List.setIfInBounds_toArray, List.set_cons_succ, List.set_cons_zero])
  refine wpL_nil ?_
  simp only [List.drop_succ_cons, List.drop_zero]
  clear c1 c2
  go_wp2_with fail
  refine (Calls.mono hs.out ?_)
  intro e w' hs'
  have he := hs'.he
  subst he
  obtain ⟨oa', oc', k1, k2⟩ := H.out.said (v := ⟨.nm, none, 0⟩) trivial (fun l h => by cases h) hs'
  have K1 := hid k1
  have K2 := hid k2
  clear hs' hs k1 k2
  go_wp2_with fail
  unfold OnlyOn
  go_end0
  exact ⟨rfl, ⟨oa', oc', [⟨.nm, none, 0⟩], K1.out, rfl⟩, Hd.out.trans K2.out⟩
end Go.Proofs.Ytopmamgdfngdoaa
/- deliver: a giver at work: the end, a piece. -/
namespace Go.Proofs.Ytopmamgdfngdoaa
set_option linter.unusedVariables false
open Go.RowKit

/-- what Sum answers of the file -/
def SumOk (D : DP) : Prop := ∀ (W : World) (a : Option Addr) (n c : Nat), RdT 5 W a n c (vb D.fl) → Calls Try.prog 60 #[.slice a n c] W fun e w' => e = .returned (.int .i64 (D.s : Int)) ∧ Below W.heap.size W w'
set_option maxRecDepth 1000000 in
set_option maxHeartbeats 4000000 in
theorem end_ok (D : DP) (hSum : SumOk D) (X B : Nat) (g : GS) (A : GA) (o : List NV) (w : World) (hB : B ≤ X) (h : GW D w X B g A o) (hn : o.length ≤ 100000) :
    Calls Try.prog 45 #[.pointer (some ⟨X, 0, none⟩)] w fun e w' => GwRs D w w' X B g A [.ne] e o (.tuple #[]) := by
  have hdr := (Below.refl w.heap.size w).drew
  have H := hid (h.below hdr)
  have Hd := hid (((GwS.refl w B).below (h.lt hB) hdr))
  clear h hdr
  go_enter Try.func45, Try.ntmps45
  refine wp_region_can 14 [12] [0, 1, 2, 3, 4, 5, 6, 7, 8, 9, 10, 11, 12, 13] Ext Ext.refl Ext.trans (by kernel_rfl) (by kernel_rfl) ?_
  simp only [List.map_cons, List.map_nil, List.contains_cons, List.contains_nil, List.getD_cons_zero, List.getD_cons_succ, Nat.reduceBEq, Bool.or_false]
  generalize w.drew = U at *
  have c2 : ∀ w', Ext U w' → w'.cell? ⟨X, 2, none⟩ = some (.slice A.fa D.P.F A.fc) := fun w' hb => by rw [cell_of_row _ _ _ _ _ _ (row_below H.out.bx hb)]; rfl
  iterate 12 (refine wpL_do rfl (fun w' hw' => (by go_simp; rfl)) ?_; simp only [Act.put, List.setIfInBounds_toArray, List.set_cons_succ, List.set_cons_zero])
  clear c2
  have hsm := hid (hSum U A.fa D.P.F A.fc H.out.f)
  refine wpL_call rfl (fun K hK => ?_)
  go_wp2_with fail
  refine hsm.out.mono ?_
  rintro e V ⟨rfl, hb⟩
  refine hK _ _ hb ?_
  clear hK K
  try simp only [Act.put, List.setIfInBounds_toArray, List.set_cons_succ, List.set_cons_zero]
  have H2 := hid (H.out.below hb)
  have Hd2 := hid (Hd.out.below (H.out.lt hB) hb)
  clear hb hsm H Hd
  iterate 1 (refine wpL_do rfl (fun w' hw' => (by go_simp; rfl)) ?_; simp only [Act.put, List.setIfInBounds_toArray, List.set_cons_succ, List.set_cons_zero])
  refine wpL_nil ?_
  simp only [List.drop_succ_cons, List.drop_zero]
  have hs := hid (say57_ok D X B (gwc D g A g.ag.length o.length) o ⟨.ne, none, 0⟩ A.oa A.oc V hB H2.out.bx rfl rfl H2.out.ow hn)
  go_wp2_with fail
  refine (Calls.mono hs.out ?_)
  intro e w' hs'
  have he := hs'.he
  subst he
  obtain ⟨oa', oc', k1, k2⟩ := H2.out.said (v := ⟨.ne, none, 0⟩) trivial (fun l h => by cases h) hs'
  have K1 := hid k1
  have K2 := hid k2
  clear hs' hs k1 k2
  go_wp2_with fail
  unfold OnlyOn
  go_end0
  exact ⟨rfl, ⟨oa', oc', [⟨.ne, none, 0⟩], K1.out, rfl⟩, Hd2.out.trans K2.out⟩
set_option maxRecDepth 1000000 in
set_option maxHeartbeats 8000000 in
theorem piece_ok (D : DP) (hD : DOk D) (X B x y : Nat) (g : GS) (A : GA) (o : List NV) (w : World) (hB : B ≤ X) (h : GW D w X B g A o) (hn : o.length ≤ 100000) (hxy : x < y) (hy : y ≤ D.P.F) :
    Calls Try.prog 44 #[.pointer (some ⟨X, 0, none⟩), .int .i64 (x : Int), .int .i64 (y : Int)] w fun e w' => GwRs D w w' X B g A [.np x (min y (x + D.P.m))] e o (.int .i64 ((min y (x + D.P.m) : Nat) : Int)) := by
  have c3 : w.cell? ⟨X, 3, none⟩ = some (.int .i64 (D.P.m : Int)) := by rw [cell_of_row _ _ _ _ _ _ h.bx]; rfl
  have c2 : w.cell? ⟨X, 2, none⟩ = some (.slice A.fa D.P.F A.fc) := by rw [cell_of_row _ _ _ _ _ _ h.bx]; rfl
  have hF := hD.P.F
  have hm := hD.m40
  have hm0 := hD.P.m
  obtain ⟨m, hmm⟩ : ∃ m, m = D.P.m := ⟨_, rfl⟩
  rw [← hmm] at c3 hm hm0 ⊢
  obtain ⟨z, hz⟩ : ∃ z, z = min y (x + m) := ⟨_, rfl⟩
  rw [← hz]
  have hz1 : x < z := by omega
  have hz2 : z ≤ D.P.F := by omega
  have a1 : IntKind.i64.wrap ((x : Int) + (m : Int)) = (x : Int) + (m : Int) := IntWalk.i64_in _ (by omega)
  have a2 : (if (x : Int) + (m : Int) < (y : Int) then (x : Int) + (m : Int) else (y : Int)) = (z : Int) := by split <;> omega
  have Hz := hid hz
  obtain ⟨sa, scc, hcut, hsr⟩ := cut_rd h.f.rd x z (by omega) hz2
  have hcl := hid (fun W => cloneB sa (z - x) scc (sub D.fl x z) W)
  have H := hid h
  have HSr := hid hsr
  have d1 : (y : Int) ≤ (x : Int) + (m : Int) ∨ (x : Int) + (m : Int) < (y : Int) := by omega
  clear h hsr hmm hz
  go_enter Try.func44, Try.ntmps44
  refine wp_seq_k (fun K0 hK0 => ?_)
  go_wp2_with fail
  refine hK0.out _ _ ?_
  refine wp_seq_k (fun K1 hK1 => ?_)
  go_wp2_with fail
  refine hK1.out _ _ ?_
  clear c3 a1 a2 d1
  refine wp_seq_k (fun K2 hK2 => ?_)
  go_wp2_with fail
  refine ((Hid.out hcl) w HSr.out (by omega)).mono ?_
  rintro e V ⟨da, dc, rfl, ho, hb⟩
  have H2 := hid (H.out.below hb)
  have Hd2 := hid ((GwS.refl w B).below (H.out.lt hB) hb)
  have HN := hid (show NVM D V ⟨.np x z, da, dc⟩ from RdT.ofOwn ho)
  clear hb ho hcl H HSr hcut c2
  have hs := hid (say57_ok D X B (gwc D g A g.ag.length o.length) o ⟨.np x z, da, dc⟩ A.oa A.oc V hB H2.out.bx rfl rfl H2.out.ow hn)
  go_wp2_with fail
  refine (Calls.mono hs.out ?_)
  intro e w' hs'
  have he := hs'.he
  subst he
  obtain ⟨oa', oc', k1, k2⟩ := H2.out.said HN.out (fun l h => by cases h) hs'
  have K1' := hid k1
  have K2' := hid k2
  clear hs' hs k1 k2
  go_wp2_with fail
  refine hK2.out _ _ ?_
  go_wp2_with fail
  go_ret
  exact ⟨rfl, ⟨oa', oc', [⟨.np x z, da, dc⟩], K1'.out, rfl⟩, Hd2.out.trans K2'.out⟩
end Go.Proofs.Ytopmamgdfngdoaa
/- deliver: a giver at work: what goes once more. -/
namespace Go.Proofs.Ytopmamgdfngdoaa
set_option linter.unusedVariables false
open Go.RowKit

theorem fr48 (y : Nat → Value) : fr 48 y = #[y 0, y 1, y 2, y 3, y 4, y 5, y 6, y 7, y 8, y 9, y 10, y 11, y 12, y 13, y 14, y 15, y 16, y 17, y 18, y 19, y 20, y 21, y 22, y 23, y 24, y 25, y 26, y 27, y 28, y 29, y 30, y 31, y 32, y 33, y 34, y 35, y 36, y 37, y 38, y 39, y 40, y 41, y 42, y 43, y 44, y 45, y 46, y 47] := rfl
set_option maxRecDepth 100000 in
theorem run_cut26 (b off n c : Nat) (hk : 1 ≤ n) (w : World) : (Instr.sliceAt 26 (.slice (some ⟨b, off, none⟩) n c) (some (.int .i64 1)) none none).run Try.prog w = .ok (.slice (some ⟨b, if c = 1 then off else off + 2, none⟩) (n - 1) (c - 1)) w := by
  have h1 : (1 : Int) ≤ n := by omega
  have z84 := Try.sizeOf84
  simp [go_sem, h1, Try.underlying26]
  split <;> rfl
/-- the first of own spans, as cells -/
theorem OwnS.head {W : World} {B n c : Nat} {a : Option Addr} {s : Sp} {r : List Sp} (h : OwnS W B (.slice a n c) (s :: r)) : ∃ g o cur, a = some ⟨g, o, none⟩ ∧ n = r.length + 1 ∧ B ≤ g ∧ W.heap[g]? = some (.cells cur 84) ∧ n ≤ c ∧ c ≤ maxLen ∧ o + c * 2 ≤ cur.size ∧ (∀ j, j < n * 2 → cur[o + j]? = (spv (s :: r))[j]?) ∧ cur[o]? = some (.int .i64 (s.1 : Int)) ∧ cur[o + 1]? = some (.int .i64 (s.2 : Int)) := by
  rcases h with ⟨_, h2⟩ | ⟨g, o, cap, cur, h1, h2, h3, h4, h5, h6, h7⟩
  · cases h2
  · injection h1 with e1 e2 e3
    subst e1 e2 e3
    have k0 := h7 0 (by rw [List.length_cons]; omega)
    have k1 := h7 1 (by rw [List.length_cons]; omega)
    exact ⟨g, o, cur, rfl, rfl, h2, h3, h4, h5, h6, h7, by rw [Nat.add_zero] at k0; rw [k0]; rfl, by rw [k1]; rfl⟩
theorem OwnS.tail {W : World} {B n c g o : Nat} {s : Sp} {r : List Sp} (h : OwnS W B (.slice (some ⟨g, o, none⟩) n c) (s :: r)) : OwnS W B (.slice (some ⟨g, if c = 1 then o else o + 2, none⟩) (n - 1) (c - 1)) r := by
  obtain ⟨g', o', cur, h1, h2, h3, h4, h5, h6, h7, h8, _, _⟩ := h.head
  injection h1 with h1
  injection h1 with e1 e2 _
  subst e1 e2
  refine .inr ⟨g, _, c - 1, cur, by rw [show n - 1 = r.length by omega], h3, h4, by omega, by omega, ?_, fun j hj => ?_⟩
  · split <;> omega
  · rw [if_neg (by omega), Nat.add_assoc, h8 (2 + j) (by omega)]
    show ([Value.int .i64 (s.1 : Int), .int .i64 (s.2 : Int)] ++ spv r)[2 + j]? = _
    rw [List.getElem?_append_right (by simp)]
    simp
/-- its first number is written over -/
theorem OwnS.first {W : World} {B n c g o : Nat} {s : Sp} {r : List Sp} (h : OwnS W B (.slice (some ⟨g, o, none⟩) n c) (s :: r)) (x : Nat) : OwnS (W.setCell ⟨g, o, none⟩ (.int .i64 (x : Int))) B (.slice (some ⟨g, o, none⟩) n c) ((x, s.2) :: r) ∧ W.grownBy (W.setCell ⟨g, o, none⟩ (.int .i64 (x : Int))) (some g) := by
  obtain ⟨g', o', cur, h1, h2, h3, h4, h5, h6, h7, h8, _, _⟩ := h.head
  injection h1 with h1
  injection h1 with e1 e2 _
  subst e1 e2
  obtain ⟨m1, m2⟩ := set_row (cs' := cur.setIfInBounds o (.int .i64 (x : Int))) h4 o (.int .i64 (x : Int)) rfl
  refine ⟨.inr ⟨g, o, c, _, by rw [h2]; rfl, h3, m1, by rw [List.length_cons]; omega, h6, by rw [Array.size_setIfInBounds]; exact h7, fun j hj => ?_⟩, m2⟩
  rw [List.length_cons] at hj
  by_cases e : j = 0
  · subst e
    rw [Nat.add_zero, Array.getElem?_setIfInBounds_self_of_lt (by omega)]
    rfl
  · rw [Array.getElem?_setIfInBounds_ne (by omega), h8 j (by omega)]
    obtain ⟨j', rfl⟩ : ∃ j', j = j' + 1 := ⟨j - 1, by omega⟩
    rfl
end Go.Proofs.Ytopmamgdfngdoaa
